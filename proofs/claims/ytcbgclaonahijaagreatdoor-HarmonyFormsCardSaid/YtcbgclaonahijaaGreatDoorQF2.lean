/- Texts of one proof, joined (2). -/
import Derived.ChangeKeysEq
import Derived.Laws.Append
import Derived.Test.YtcbgclaonahijaaGreatDoorQF1
set_option linter.unusedSimpArgs false
set_option linter.unusedVariables false
set_option linter.defProp false
noncomputable section
namespace Go.PM
open Go Go.RowKit
section
variable {P:Program} {n0:Nat->Prop} {w:World} {G:Gd} {μ:Mp} {H:Heap} {F:Frm} {a:Act} {nt:Nat}
def bO0(y:Option Value) (d l:Nat):Prop:=(y=none/\l=d)\/(∃ k i,y=some (.int k i)/\0<=i/\l=i.toNat)
def RA(b:fG w G μ nt F a){x:Option Operand}{d l}(h:bnd (x.map (ev F)) d=some l):bO0 (x.map a.eval) d l:=by
 cases x with
 | none=>simp only[Option.map_none,bnd,oJ]at h; exact .inl ⟨rfl,h.symm⟩
 | some x =>
  rcases bZC (y:=some (a.eval x)) h (cT b x)with ⟨h1,_⟩|⟨k,i,h1,h2,h3,_⟩
  ·grind
  ·exact .inr ⟨k,i,h1,h2,h3⟩
def CV {isSlice lo hi l h len cap}(d:bO0 lo 0 l)(c:bO0 hi len h)(f:l<=h)(g:h<=cap) w1 :
  (Instr.sliceBounds isSlice len cap lo hi none).run P w1=.ok (l,h,cap) w1:=by
 rcases d with ⟨rfl,rfl⟩|⟨k,i,rfl,b,rfl⟩ <;> rcases c with ⟨rfl,rfl⟩|⟨k',i',rfl,a,rfl⟩;rfl;have:i'<=(cap:Int):=Z;simp[Instr.sliceBounds,Instr.sliceBound,asIntOf,a,this];have:i<=h:=Z;simp[Instr.sliceBounds,Instr.sliceBound,asIntOf,b,this];have e:i'<=cap:=Z;have a2:i<=i'.toNat:=Z;simp only[Instr.sliceBounds,Instr.sliceBound,asIntOf,Sem.run_bind,Sem.run_pure,Result.andThen_ok,if_pos (And.intro a e),if_pos (And.intro b a2)]
def room_le {b m n}(h:Room w b n)(hm:m<=n):Room w b m:=by
 have⟨c,t,d,a,e⟩:=h;exact⟨c,t,d,a,by omega⟩
def W2(z:fG w G μ nt F a){t p v x}{lo hi:Option Operand}(hp:VR w G μ p x)(h:aGG P t p (lo.map (ev F)) (hi.map (ev F))=some v) w1 :
  ∃ v',(Instr.sliceAt t x (lo.map a.eval) (hi.map a.eval) none).run P w1=.ok v' w1/\VR w G μ v v':=by
 unfold aGG at h;split at h
 next e hu=>
  split at h
  next sz H=>
   split at h
   ·rename_i cs n cap;split at h
    ·rename_i l j E m;cases y:(Nat.ble l j&&Nat.ble j n)with
     | false=>rw[y]at h; cases h
     | true =>
      rw[y]at h;simp only[oC,oJ]at h;subst h;simp only[oA]at y;have A:=oL y.1;have B:=oL y.2;obtain⟨ao,c,rfl,J,-,O⟩:=hp;have D:=CV (P:=P) (isSlice:=true) (RA z E) (RA z m) A (oR B J) w1;refine⟨.slice (if c=l then ao else ao.map (·.add (l*sz))) (j-l) (c-l),?_,?_⟩
      ·simp[Instr.sliceAt,Instr.slice,run_underlying hu,D,run_sizeOf H]
      ·rw[VR];refine⟨_,_,rfl,by omega,λk o=>(by cases o),?_⟩
       by_cases f:c=l
       ·left;have:j-l=0:=Z
        rw[this,Nat.zero_mul,List.take_zero]
       ·rcases O with rfl|⟨b,off,rfl,N,C⟩
        ·left; simp
        ·right;exact⟨b,off+l*sz,by simp[f,Addr.add_lit],N,C.sub _ _⟩
    cases h
   ·rename_i r off n cap L;cases q:Nat.beq sz L with
    | false=>rw[q]at h; cases h
    | true =>
     rw[q]at h;have q:=oE q;subst q;simp only[oC]at h;split at h
     ·rename_i l j E m;rw[VR]at hp;obtain⟨b,c,y,rfl,J,I,i⟩:=hp;split at h
      ·rename_i c';have:=I c' rfl;subst this;cases d:(Nat.ble l j&&Nat.ble j c)with
       | false=>rw[d]at h; cases h
       | true =>
        rw[d]at h;simp only[oC]at h;simp only[oA]at d;have A:=oL d.1;have B:=oL d.2;have D:=CV (P:=P) (isSlice:=true) (RA z E) (RA z m) A B w1;refine⟨.slice (if c=l then some ⟨b,μ.sh r+off,none⟩ else (some (⟨b,μ.sh r+off,none⟩:Addr)).map (·.add (l*sz))) (j-l) (c-l),?_,?_⟩
        ·simp only[Instr.sliceAt,Sem.run_bind,run_underlying hu,Result.andThen_ok,Instr.slice,D,run_sizeOf H,Sem.run_pure]
        ·cases f:Nat.beq c l with
         | true =>
          rw[f]at h;simp only[oC,oJ]at h;subst h;have f:=oE f;subst f;have K:j-c=0:=Z
          rw[VR];exact⟨b,0,y,by simp[K],oM _,λk o=>(by cases o; rfl),room_le i R⟩
         | false =>
          rw[f]at h;simp only[oD,oJ]at h;subst h;have u:¬ c=l:=λe=>(by rw[e]at f; simp at f)
          rw[VR];refine⟨b,c-l,y,by simp[u,Addr.add_lit,Nat.add_assoc],by omega,λk o=>(by cases o; rfl),room_le i ?_⟩;have:l*sz+(c-l)*sz=c*sz:=by rw[<- Nat.add_mul]; congr 1; omega
          omega
      ·cases d:(Nat.ble l j&&Nat.ble j n)with
       | false=>rw[d]at h; cases h
       | true =>
        rw[d]at h;simp only[oC]at h;simp only[oA]at d;have A:=oL d.1;have B:=oL d.2;have D:=CV (P:=P) (isSlice:=true) (RA z E) (RA z m) A (oR B J) w1;refine⟨.slice (if c=l then some ⟨b,μ.sh r+off,none⟩ else (some (⟨b,μ.sh r+off,none⟩:Addr)).map (·.add (l*sz))) (j-l) (c-l),?_,?_⟩
        ·simp only[Instr.sliceAt,Sem.run_bind,run_underlying hu,Result.andThen_ok,Instr.slice,D,run_sizeOf H,Sem.run_pure]
        ·cases g:Nat.blt l n with
         | true =>
          rw[g]at h;simp only[oC,oJ]at h;subst h;have g:l<n:=by have:=oL g; omega
          have u:¬ c=l:=Z
          rw[VR];refine⟨b,c-l,y,by simp[u,Addr.add_lit,Nat.add_assoc],by omega,λk o=>(by cases o),room_le i ?_⟩;have:l*sz+(c-l)*sz=c*sz:=by rw[<- Nat.add_mul]; congr 1; omega
          omega
         | false =>
          rw[g]at h;simp only[oD]at h;cases s:Nat.beq l 0 with
          | true =>
           rw[s]at h;simp only[oC,oJ]at h;subst h;have s:=oE s;subst s;have hn:n=0:=by
            rcases Nat.eq_zero_or_pos n with h0|h0
            ·exact h0
            ·have:Nat.blt 0 n=true:=Nat.ble_eq_true_of_le h0;rw[this]at g; cases g
           subst hn;have:j=0:=Z
           subst this;rw[VR];refine⟨b,c,y,?_,Nat.zero_le _,λk o=>(by cases o),i⟩
           by_cases M:c=0 <;> simp[M,Addr.add]
          | false =>
           rw[s]at h;simp only[oD,oJ]at h;subst h;have g:n<=l:=by
            rcases oG l n with h0|h0
            ·have:Nat.blt l n=true:=Nat.ble_eq_true_of_le h0;rw[this]at g; cases g
            ·exact h0
           have K:j-l=0:=Z
           rw[VR];exact⟨_,_,by rw[K],Nat.zero_le _,λk o=>(by cases o),.inl rfl⟩
     ·cases h
   cases h
  cases h
 next n e hu=>
  split at h
  next sz H=>
   split at h
   ·rename_i l j E m;cases d:(Nat.ble l j&&Nat.ble j n&&Nat.blt l n)with
    | false=>rw[d]at h; cases h
    | true =>
     rw[d]at h;simp only[oC]at h;simp only[oA]at d;have A:=oL d.1.1;have B:=oL d.1.2;have J:l<n:=by have:=oL d.2; omega
     split at h
     ·rename_i cs;simp only[oJ]at h;subst h;rw[VR]at hp;obtain⟨b,off,rfl,N,C⟩:=hp;have D:=CV (P:=P) (isSlice:=false) (RA z E) (RA z m) A B w1;have u:¬ n=l:=Z
      refine⟨.slice (some ⟨b,off+l*sz,none⟩) (j-l) (n-l),?_,?_⟩
      ·simp[Instr.sliceAt,run_underlying hu,D,run_sizeOf H,Instr.sureAddr,u,Addr.add_lit]
      ·rw[VR];exact⟨_,_,rfl,by omega,λk o=>(by cases o),.inr ⟨b,_,rfl,N,C.sub _ _⟩⟩
     ·cases h
   cases h
  cases h
 cases h
def bNH {op k x y v t p q}(h:bJM op k x y=some v) w1:(do eqGuard op t p q (.int k x) (.int k y); binOp op t (.int k x) (.int k y):Sem Value).run P w1=.ok v w1:=by
 have c:(eqGuard op t p q (.int k x) (.int k y)).run P w1=.ok () w1:=by cases op <;> simp[eqGuard]
 have hle:∀ a b:Int,(!decide (a<b))=decide (b<=a):=λa b=>W
 simp only[Sem.run_bind,c,Result.andThen_ok];cases op <;> simp only[bJM,oJ,a9N,aF,bN]at h <;> try (cases h; done)
 all_goals first
  | (subst h; simp[binOp,Op.intArith,Op.intCmp]; done)
  | (cases hd:decide (y=0)with
     | true=>rw[hd]at h; cases h
     | false =>
      rw[hd]at h;simp only[oD,oJ]at h;subst h;have:¬ y=0:=of_decide_eq_false hd;simp[binOp,Op.intDiv,this])
  | skip
 all_goals (subst h; simp only[hle,binOp,Op.intCmp,ne_eq,not_true_eq_false,if_false,ite_false,Sem.run_pure]; try rfl)
def aLM {xs i cs ds} (m:VRs w G μ cs xs.toList) (j:VRs w G μ ds i.toList) d w1 {sub}
  (o:∀ xs i cs ds gs r,VRs w G μ cs xs.toList->VRs w G μ ds i.toList->sub gs cs ds=some r->(Op.eqFields d xs i gs).run P w1=.ok r w1) :
  ∀ c {r},aFW P sub c cs ds=some r->(Op.eqFields (d+1) xs i c).run P w1=.ok r w1
 | [],r,h=>by
  simp only[aFW,oJ]at h;subst h;simp only[Op.eqFields,Sem.run_pure]
 | f::c,r,h=>by
  simp only[aFW]at h;cases hn:f.name== "_" with
  | true=>rw[hn]at h; cases h
  | false =>
   rw[hn]at h;simp only[oD]at h;have e:f.name≠ "_":=by simpa using hn
   split at h
   ·rename_i k0 hu;split at h
    ·rename_i k a l b y n;cases g:aCZ k l with
     | false=>rw[g]at h; cases h
     | true =>
      rw[g]at h;simp only[oC]at h;have g:=aTH g;subst g;split at h
      ·rename_i F B;simp only[oJ]at h;subst h;have⟨u,g1,g2⟩:=aBM (P:=P) m y w1;have⟨v,g3,g4⟩:=aBM (P:=P) j n w1;subst g2; subst g4;have D:=aLM m j d w1 o c B;simp only[Op.eqFields,if_pos e,Sem.run_bind,g1,g3,Result.andThen_ok,run_equalIn_int w1 d f.type k k0 a b hu];rw[bN]
       by_cases I:a=b
       ·grind
       ·simp_all
      ·cases h
    ·cases h
   ·rename_i gs hu;cases z:P.stoodInHeld f.type with
    | true=>rw[z]at h; cases h
    | false =>
     rw[z]at h;simp only[oD]at h;split at h
     ·rename_i p s y n;split at h
      ·rename_i q F H B;simp only[oJ]at h;subst h;have⟨u,g1,g2⟩:=aBM (P:=P) m y w1;have⟨v,g3,g4⟩:=aBM (P:=P) j n w1;obtain⟨us,rfl,x⟩:=g2;obtain⟨vs,rfl,A⟩:=g4;have D:=aLM m j d w1 o c B;have E:P.fieldsOf f.type=gs:=by simp only[Program.fieldsOf,hu]
       have t:P.underlying f.type=some (.struct (P.fieldsOf f.type)):=by rw[E]; exact hu
       have C:=o _ _ p s gs.toList q x A H;simp only[Op.eqFields,if_pos e,Sem.run_bind,g1,g3,Result.andThen_ok,run_equalIn_struct w1 d f.type _ _ t z,E,C];cases q with
       | true=>simp only[Bool.not_true,Bool.false_eq_true,if_false,D,Bool.true_and]
       | false=>simp only[Bool.not_false,if_true,Sem.run_pure,Bool.false_and]
      ·cases h
     ·cases h
   ·cases h
def aXY w1:∀ n d xs a cs ds b r,VRs w G μ cs xs.toList->VRs w G μ ds a.toList->a8D P n b cs ds=some r->(Op.eqFields (d+n) xs a b).run P w1=.ok r w1
 | 0,d,xs,a,cs,ds,b,r,hx,hy,h=>by cases h
 | n+1,d,xs,a,cs,ds,b,r,hx,hy,h=>aLM hx hy (d+n) w1 (λxs a cs ds gs r c e f=>aXY w1 n d xs a cs ds gs r c e f) b h
def a4L {xs ys cs ds}(a:VRs w G μ cs xs.toList)(b:VRs w G μ ds ys.toList) w1 fs {r}(h:bP3 P fs cs ds=some r):(Op.eqFields 9999 xs ys fs).run P w1=.ok r w1 :=aXY w1 3 9996 xs ys cs ds fs r a b h
def aOG {xs ys cs ds}(g:VRs w G μ cs xs.toList)(i:VRs w G μ ds ys.toList) d w1 {e}:∀ is {r},aS7 P e is cs ds=some r->(Op.eqItems (d+1) e (P.cellsOf e) xs ys is).run P w1=.ok r w1
 | [],r,h=>by
  simp only[aS7,oJ]at h;subst h;rfl
 | f::fs,r,h=>by
  simp only[aS7]at h;split at h
  next k0 hu=>
   split at h
   ·rename_i k a l b o j;cases c:aCZ k l with
    | false=>grind
    | true =>
     rw[c]at h;simp only[oC]at h;have c:=aTH c;subst c;split at h
     ·rename_i q n;simp only[oJ]at h;subst h;obtain⟨u,g1,g2⟩:=aBM (P:=P) g o w1;obtain⟨v,g3,g4⟩:=aBM (P:=P) i j w1;subst g2; subst g4;have p:=aOG g i d w1 fs n;simp only[Op.eqItems,Sem.run_bind,g1,g3,Result.andThen_ok,run_equalIn_int w1 d e k k0 a b hu];rw[bN]
      by_cases m:a=b
      ·grind
      ·simp_all
     ·cases h
   ·cases h
  ·cases h
def bMX {op t xs ys cs ds v p q}(d:VRs w G μ cs xs.toList)(f:VRs w G μ ds ys.toList)(h:b0Z P op t cs ds=some v) w1 :
  ∃ v',(do eqGuard op t p q (.agg xs) (.agg ys); binOp op t (.agg xs) (.agg ys):Sem Value).run P w1=.ok v' w1/\VR w G μ v v':=by
 unfold b0Z at h;split at h
 next g hu=>
  cases a:(P.stoodInHeld t||P.eqGuardType P.depth t)with
  | true=>rw[a]at h; cases h
  | false =>
   rw[a]at h;simp only[oD]at h;rw[Bool.or_eq_false_iff]at a;have j:P.fieldsOf t=g:=by simp only[Program.fieldsOf,hu]
   have c:P.underlying t=some (.struct (P.fieldsOf t)):=by rw[j]; exact hu
   split at h
   next r b=>simp only[oJ]at h;subst h;refine⟨.bool r,?_,by rw[VR]⟩;have:=a4L (P:=P) d f w1 g.toList b;simp only[Sem.run_bind,run_eqGuard_agg w1 .eql t p q xs ys a.2,Result.andThen_ok,run_eql_struct,run_equalIn_struct w1 9999 t xs ys c a.1,j,this]
   next r b=>simp only[oJ]at h;subst h;refine⟨.bool (!r),?_,by rw[VR]⟩;have:=a4L (P:=P) d f w1 g.toList b;simp only[Sem.run_bind,run_eqGuard_agg w1 .neq t p q xs ys a.2,Result.andThen_ok,run_neq_struct,run_equalIn_struct w1 9999 t xs ys c a.1,j,this]
   ·cases h
 next n e hu=>
  cases a:(P.eqGuardType P.depth t||!(P.info? e).isSome)with
  | true=>rw[a]at h; cases h
  | false =>
   rw[a]at h;simp only[oD]at h;rw[Bool.or_eq_false_iff,Bool.not_eq_false']at a;have⟨i,hi⟩:=Option.isSome_iff_exists.1 a.2;split at h
   next r b=>simp only[oJ]at h;subst h;refine⟨.bool r,?_,by rw[VR]⟩;have:=aOG (P:=P) d f 9998 w1 (List.range n) b;simp only[Sem.run_bind,run_eqGuard_agg w1 .eql t p q xs ys a.1,Result.andThen_ok,run_eql_struct,run_equalIn_array w1 9999 xs ys hu hi,this]
   next r b=>simp only[oJ]at h;subst h;refine⟨.bool (!r),?_,by rw[VR]⟩;have:=aOG (P:=P) d f 9998 w1 (List.range n) b;simp only[Sem.run_bind,run_eqGuard_agg w1 .neq t p q xs ys a.1,Result.andThen_ok,run_neq_struct,run_equalIn_array w1 9999 xs ys hu hi,this]
   ·cases h
 cases h
end
section
variable {P:Program} {n0:Nat->Prop} {w:World} {G:Gd} {μ:Mp} {H:Heap}
def Source(P:Program) (w:World) (G:Gd) (μ:Mp) (sz:Nat) (v:Value) (new:List PV) (n:Nat):Prop :=(∀ w1:World,(Builtin.lenOf v).run P w1=.ok n w1)/\new.length=n*sz /\ ∀ m,m<=n->∃ vs:Array Value,VRs w G μ (new.take (m*sz)) vs.toList/\∀ w1:World,w1.heap=w.heap->(Builtin.firstCells sz m v).run P w1=.ok vs w1
def bDK {a:World}(h:a.heap=w.heap) p:a.cell? p=w.cell? p:=by simp[World.cell?,h]
def LN {b off n c sz cs}(hc:aT w G μ b off cs)(hl:cs.length=n*sz):Source P w G μ sz (.slice (some ⟨b,off,none⟩) n c) cs n:=by
 refine⟨λw1=>rfl,hl,λm hm=>?_⟩;obtain⟨vs,h1,h2⟩:=(hc.take (m*sz)).values;have hvl:=h1.length;rw[List.length_take,hl,Nat.min_eq_left (Nat.mul_le_mul_right _ hm)]at hvl;refine⟨vs.toArray,by omega,λw1 hw=>?_⟩;have:=run_loadCells (P:=P) λj hj=>by rw[bDK hw]; exact h2 j hj
 rw[<- hvl]at this;exact this
def aVQ(i:aX n0 G μ H w){sz n p new v}(hp:VR w G μ p v)(h:a6F H sz p=some (new,n)):Source P w G μ sz v new n:=by
 unfold a6F at h;split at h
 next cs e cap=>
  cases d:Nat.beq cs.length (e*sz)with
  | false=>rw[d]at h; cases h
  | true =>
   rw[d]at h;simp only[oC,oJ,oP]at h;obtain⟨rfl,rfl⟩:=h;have d:=oE d;rw[VR]at hp;obtain⟨ao,c,rfl,_,_,t⟩:=hp;rcases t with rfl|⟨b,off,rfl,_,hc⟩
   ·refine⟨λf=>rfl,d,λm hm=>⟨#[],by simp[VRs],λf _=>?_⟩⟩;have j:m*sz=0:=by
     have:=Nat.mul_le_mul_right sz hm;simp only[List.length_nil]at d;omega
    cases ao with
    | none=>rfl
    | some a=>simp[Builtin.firstCells,j,loadCells,loadCellsFrom]
   ·exact LN hc.bF d
 next r off e cap l=>
  split at h
  next k q=>
   cases d:Nat.ble (off+e*sz) k.cells.length with
   | false=>rw[d]at h; cases h
   | true =>
    rw[d]at h;simp only[oC,oJ,oP]at h;obtain⟨rfl,rfl⟩:=h;have d:=oL d;rw[VR]at hp;obtain⟨b,c,o,rfl,_⟩:=hp;have⟨c',g2,g3,_⟩:=i.blk r k b (aG q) o;have:=g3.sub off (e*sz);exact LN this (by simp; omega)
  cases h
 next e c=>
  cases d:Nat.beq e 0 with
  | false=>rw[d]at h; cases h
  | true =>
   rw[d]at h;simp only[oC,oJ,oP]at h;obtain⟨rfl,rfl⟩:=h;have d:=oE d;subst d;rw[VR]at hp;subst hp;exact⟨λf=>rfl,by simp,λm hm=>⟨#[],by simp[VRs],λf _=>rfl⟩⟩
 next s=>
  cases d:Nat.beq sz 1 with
  | false=>rw[d]at h; cases h
  | true =>
   rw[d]at h;simp only[oC,oJ,oP]at h;obtain⟨rfl,rfl⟩:=h;have d:=oE d;subst d;rw[VR]at hp;subst hp;have g:s.data.size=s.size:=rfl;refine⟨λf=>rfl,by simp[bL4,g],λm hm=>⟨(s.extract 0 m).data.map λb=>.int .u8 b.toNat,?_,λf _=>rfl⟩⟩;have:=VRs.lits (w:=w) (G:=G) (μ:=μ) ((s.data.toList.take m).map λb=>Value.int .u8 b.toNat);simpa[bL4,List.map_take,List.map_map,Function.comp_def]using this
 cases h
def aNH {u d}(h:P.underlying u=some d)(hd:∀ k,d≠.int k) w1 :
  (do pure ((<- underlying u) matches .int _)).run P w1=.ok false w1:=by
 simp only[Sem.run_bind,run_underlying h,Result.andThen_ok,Sem.run_pure]
section
variable {t u e:TypeId} {i:TypeInfo} {z:Value} {d:TypeDesc} (ht:P.underlying t=some (.slice e)) (hu:P.underlying u=some d) (hd:∀ k,d≠.int k) (hi:P.info? e=some i)
include ht hu hd hi
def LQ {x:Value} {n l c:Nat} {ty:TypeId} {ao:Option Addr} (hlen:∀ h:World,(Builtin.lenOf x).run P h=.ok n h) (f:l+n<=c) {vs:Array Value} (j:(Builtin.firstCells i.size n x).run P w=.ok vs w) {w':World}
  (b:match ao with|some a=>(storeCells (a.add (l*i.size)) vs.toList).run P w=.ok () w'|none=>w'=w) :
  (Builtin.append_ #[t,u] ty #[.slice ao l c,x]).run P w=.ok (.slice ao (l+n) c) w':=by
 have g:(sizeOf e).run P w=.ok i.size w:=by simp[sizeOf,N9 hi]
 have p:=aNH hu hd w;have k:(#[t,u]:Array TypeId)[0]?=some t:=rfl;have q:(#[t,u]:Array TypeId)[1]?=some u:=rfl;have o:(#[Value.slice ao l c,x]:Array Value)[0]?=some (Value.slice ao l c):=rfl;have m:(#[Value.slice ao l c,x]:Array Value)[1]?=some x:=rfl;unfold Builtin.append_;simp only[k,q,o,m,Sem.run_bind,run_underlying ht,Result.andThen_ok,g,p,hlen];simp only[Sem.run_bind,Sem.run_pure,run_underlying hu,Result.andThen_ok]
 have hm:(match (generalizing:=false) d with|.int _=>true|_=>false)=false:=by cases d <;> first|rfl|exact absurd rfl (hd _)
 simp only[hm,Bool.false_eq_true,if_false,hlen,Result.andThen_ok,if_pos f,Bool.not_false,if_true,j,Sem.run_bind];cases ao with
 | none=>simp only at b; subst b; simp
 | some a=>simp only at b; simp[b]
def EZ(hz:i.zero=some z) {x:Value} {n l c:Nat} {ty:TypeId} {ao:Option Addr} (hlen:∀ a:World,(Builtin.lenOf x).run P a=.ok n a) (f:¬ l+n<=c) (j:i.bytes<=65536) (E:n<=1048576) (D:l<=1048576)
  {vs os:Array Value} (A:∀ a:World,a.heap=w.heap->(Builtin.firstCells i.size n x).run P a=.ok vs a) (q:∀ a:World,a.heap=w.heap->(Builtin.firstCells i.size l (.slice ao l c)).run P a=.ok os a) :
  ∃ c',l+n<=c'/\(Builtin.append_ #[t,u] ty #[.slice ao l c,x]).run P w=.ok (.slice (some ⟨w.heap.size,0,none⟩) (l+n) c') (w.drew.alloc (.cells (os++vs++Builtin.zeroCells z.cells (c'-(l+n))) e)):=by
 have k:(sizeOf e).run P w=.ok i.size w:=(by simp[sizeOf,N9 hi]);have C:=aNH hu hd w;have r:(#[t,u]:Array TypeId)[0]?=some t:=rfl;have y:(#[t,u]:Array TypeId)[1]?=some u:=rfl;have s:(#[Value.slice ao l c,x]:Array Value)[0]?=some (Value.slice ao l c):=rfl;have B:(#[Value.slice ao l c,x]:Array Value)[1]?=some x:=rfl;have p:Builtin.nextslicecap (l+n) c*i.bytes<=281474976710656:=(by have F:=nextslicecap_le (need:=l+n) (old:=c) Z;have G:Builtin.nextslicecap (l+n) c*i.bytes<=4194304*65536:=Nat.mul_le_mul Z j;omega);have g:¬ (Builtin.nextslicecap (l+n) c*i.bytes>2^48):=Z
 have b:IntKind.i64.max=9223372036854775807:=rfl;have v:¬ (((l+n:Nat):Int)>IntKind.i64.max/\(false=true\/i.bytes=0)):=by rw[b]; omega
 refine⟨grownCap w (l+n) c e,?_,?_⟩;simp only[grownCap,Question.cut]; omega
 ·unfold Builtin.append_;simp only[r,y,s,B,Sem.run_bind,run_underlying ht,Result.andThen_ok,k,C,hlen];simp only[Sem.run_bind,Sem.run_pure,run_underlying hu,Result.andThen_ok];have hm:(match (generalizing:=false) d with|.int _=>true|_=>false)=false:=by cases d <;> first|rfl|exact absurd rfl (hd _)
  simp only[hm,Bool.false_eq_true,if_false,hlen,Result.andThen_ok,if_neg f,Bool.not_false,if_true];have h:¬ (((l+n:Nat):Int)>IntKind.i64.max/\(False\/i.bytes=0)):=by rw[b]; omega
  simp only[Sem.run_bind,hlen,Result.andThen_ok,if_neg f,N9 hi];rw[if_neg h];have o:=A w.drew rfl;have m:=q w.drew rfl;simp only[World.drew]at o m;simp only[Sem.run_bind,N9 hi,Result.andThen_ok,if_neg g,run_choose,Question.forced,Bool.false_eq_true,if_false,run_askRoom,o,m,zeroValue,hz,Sem.run_pure,newRow,run_newObj];rfl
end
def aC1 {t u e:TypeId} {i:TypeInfo} {d:TypeDesc} (ht:P.underlying t=some (.slice e)) (hu:P.underlying u=some d) (hd:∀ k,d≠.int k) (hi:P.info? e=some i) {x:Value} {new:List PV} {l c:Nat} {ty:TypeId} {ao:Option Addr}
  (g:Source P w G μ i.size x new 0) (h:l<=c):(Builtin.append_ #[t,u] ty #[.slice ao l c,x]).run P w=.ok (.slice ao l c) w:=by
 have⟨f,m,j⟩:=g;have⟨vs,a,b⟩:=j 0 (oM _);rw[Nat.zero_mul,List.take_zero,VRs]at a;have:=LQ (w:=w) (w':=w) ht hu hd hi (ty:=ty) (ao:=ao) (l:=l) (c:=c) f (by simpa using h) (b w rfl) (by
  rw[a];cases ao <;> simp[storeCells])
 simpa using this
def a6P(f:aX n0 G μ H w) {e sz need c' cells os vs rest} (l:VRs w G μ cells (os++vs).toList) (a:need<=c') (i:(os++vs).size=need*sz) (m:rest.size=(c'-need)*sz) {s}
  (h:s.run P w=.ok (.slice (some ⟨w.heap.size,0,none⟩) need c') (w.drew.alloc (.cells (os++vs++rest) e))):C5 P n0 w G μ s (aRA H e sz need cells).1 (aRA H e sz need cells).2:=by
 have b:aX n0 G μ H w.drew:=ZI f (w.drawn+1);have d:Ext n0 w G μ w.drew G μ:=aNJ (Nat.le_succ _);have c:=QZ (on:=none) b (os++vs++rest) ⟨cells,e,true,false,none⟩ (λj p hp=>by
  have⟨u,g1,g2⟩:=l.get hp;refine⟨u,?_,VR.mono d.toMono p u g2⟩;grind) (λh=>by cases h) rfl (λg n=>by cases n)
 refine⟨_,_,G,_,h,d.trans (OG b _ _ _),c,?_⟩;simp only[aRA];rw[VR];rw[GO];simp only[Nat.zero_add];refine⟨w.heap.size,c',mH _ _ _ _,rfl,a,λk c=>(by cases c),os++vs++rest,e,(0,0),?_,?_⟩;show (w.heap.push _)[w.heap.size]?=_;simp;rw[Array.size_append,i,m,<- Nat.add_mul];grind
def C5.a56 {s x v H'}(h:x=(v,H'))(k:C5 P n0 w G μ s x.1 x.2):C5 P n0 w G μ s v H':=W
def tV z n:(Builtin.zeroCells z n).size=n*z.size:=by simp[Builtin.zeroCells]
def C5.put {s v' w' v H'}(h:s.run P w=.ok v' w')(e:Ext n0 w G μ w' G μ)(a:aX n0 G μ H' w')(b:VR w G μ v v'):C5 P n0 w G μ s v H':=⟨v',w',G,μ,h,e,a,VR.mono e.toMono _ _ b⟩
def bKU(y:aX n0 G μ H w) {t u e:TypeId} {i:TypeInfo} {z:Value} {d:TypeDesc} (ht:P.underlying t=some (.slice e)) (hu:P.underlying u=some d) (hd:∀ k,d≠.int k) (hi:P.info? e=some i) (hz:i.zero=some z)
  (F:i.bytes<=65536) (L:z.cells.size=i.size) {x:Value} {new:List PV} {n l:Nat} {ty:TypeId} (X:Source P w G μ i.size x new n) (hn:n<=1048576) (U:l<=1048576) (C:new.all aDI=true)
  {r:Nat} {k:Blk} (p:iN H r=some k) (R:k.frozen=false) (B:k.grown=true) (E:k.ty=e) (hle:l*i.size<=k.cells.length) {b c:Nat} (A:μ.loc r=some b) (hlc:l<=c) (o:Room w b (μ.sh r+c*i.size)) :
  C5 P n0 w G μ (Builtin.append_ #[t,u] ty #[.slice (some ⟨b,μ.sh r,none⟩) l c,x]) (aRA (H.set r none) e i.size (l+n) (k.cells.take (l*i.size)++new)).1 (aRA (H.set r none) e i.size (l+n) (k.cells.take (l*i.size)++new)).2:=by
 have⟨cs,g2,g3,g4,g5,g6⟩:=y.blk r k b (aG p) A;have⟨s1,s2,Z⟩:=X;have⟨vs,v1,v2⟩:=Z n (oM _);rw[List.take_of_length_le zN]at v1;have J:new.length=vs.size:=(by simpa using v1.length);have⟨i1,i2⟩:=RU g2 g3;by_cases a:l+n<=c
 ·have⟨c2,t2,W,O,r2⟩:=o;rw[g2]at O; cases O;have hmul:(l+n)*i.size<=c*i.size:=Nat.mul_le_mul_right _ a;rw[Nat.add_mul]at hmul;have v:Fits cs (μ.sh r+l*i.size) vs.toList:=.inr (by simp only[Array.length_toList]; omega);have⟨w',S,s⟩:=BJ (P:=P) (off:=μ.sh r+l*i.size) vs.toList 0 w cs (VM C v1) g2 v;rw[Nat.add_zero]at s;have m:(xH cs (μ.sh r+l*i.size) vs.toList).size=cs.size:=NG v
  have N:=FD y (aG p) R A g2 s m;have K:=IB (k':=⟨k.cells.take (l*i.size)++new,e,true,false,none⟩) y (aG p) R A g2 (E ▸ s) m rfl (by
   refine FG (n:=l*i.size+vs.size) s.at_ (VRs.mono N.toMono _ _ ?_);have:=i1.take (l*i.size);rw[List.take_take,Nat.min_eq_left hle]at this;have Y:=this.append v1;rw[R5 (by simp only[Array.length_toList]; omega) zN,List.take_take,Nat.min_eq_left zN,@List.drop_eq_nil_of_le _ ((cs.toList.drop (μ.sh r)).take (l*i.size+vs.size)) _ (by simp only[List.length_take,Array.length_toList]; omega),List.append_nil]
   exact Y) (λh=>by cases h) (λg B=>by cases B)
  have D:r<H.length:=(oO.1 (aG p)).1;have⟨Q,j⟩:=aCK (r:=r) (on:=none) K (List.getElem?_set_self D) A (λg B=>by cases B);simp only[List.length_set,List.set_set]at Q j;have q:=LQ (w:=w) (w':=w') (ty:=ty) (ao:=some ⟨b,μ.sh r,none⟩) ht hu hd hi s1 a (v2 w rfl) (by simp only[Addr.add_lit]; exact S);refine⟨_,w',G,_,q,N.trans Q,by simpa[aRA]using j,?_⟩;simp only[aRA];rw[VR];rw[List.length_set,GO];exact⟨b,c,mH _ _ _ _,rfl,a,λk p=>(by cases p),_,_,_,s.at_,by rw[m]; omega⟩
 ·have f:=g3.sub 0 (l*i.size);rw[Nat.add_zero,List.drop_zero]at f;have⟨os,I,T⟩:=(LN (P:=P) (c:=c) f (by simp; omega):Source P w G μ i.size (.slice (some ⟨b,μ.sh r,none⟩) l c) _ l).2.2 l (oM _);rw[List.take_of_length_le (by simp; omega)]at I;have M:l*i.size=os.size:=by have:=I.length; rw[List.length_take,Nat.min_eq_left hle]at this; simpa using this
  have⟨c',q1,V⟩:=EZ (w:=w) (ty:=ty) (ao:=some ⟨b,μ.sh r,none⟩) ht hu hd hi hz s1 a F hn U v2 T;exact a6P (wB y r) (os:=os) (vs:=vs) (by rw[Array.toList_append]; exact I.append v1) q1 (by rw[Array.size_append,Nat.add_mul,<- M,<- J,s2]) (by rw[tV,L]) V
set_option maxHeartbeats 2000000 in
def bBL(C:aX n0 G μ H w) {N:Array TypeId} {ty:TypeId} {p q v:PV} {H':Heap} {s x:Value} (hp:VR w G μ p s) (hq:VR w G μ q x) (h:bHC P H N p q=some (v,H')):C5 P n0 w G μ (Builtin.append_ N ty #[s,x]) v H':=by
 unfold bHC at h;split at h
 next t u B=>
  have B:N=#[t,u]:=by apply Array.ext'; simpa using B
  subst B;split at h;cases h;cases h
  next e d X ht hu=>
   have hd:∀ k,d≠.int k:=λk Q=>X k (by rw[Q]);split at h
   ·rename_i i hi;split at h
    ·rename_i z hz;cases D:(Nat.ble i.bytes 65536&&Nat.ble 1 i.size&&Nat.beq z.cells.size i.size)with
     | false=>rw[D]at h; cases h
     | true =>
      rw[D]at h;simp only[oC]at h;simp only[oA]at D;have E:=oL D.1.1;have I:=oE D.2;split at h
      ·rename_i new n U;cases Y:(Nat.ble n 1048576&&new.all aDI)with
       | false=>rw[Y]at h; cases h
       | true =>
        rw[Y]at h;simp only[oC]at h;simp only[oA]at Y;have hn:=oL Y.1;have hs:=aVQ (P:=P) C hq U;have F:=hs;have⟨s1,s2,s3⟩:=hs;have⟨vs,v1,v2⟩:=s3 n (oM _);rw[List.take_of_length_le zN]at v1;have M:new.length=vs.size:=by simpa using v1.length
        split at h
        ·rename_i l c;rw[VR]at hp;subst hp;cases A:(Nat.beq l 0&&Nat.beq c 0)with
         | false=>rw[A]at h; cases h
         | true =>
          rw[A]at h;simp only[oC]at h;simp only[oA]at A;have e1:=oE A.1;have e2:=oE A.2;subst e1; subst e2;cases g:Nat.beq n 0 with
          | true =>
           rw[g]at h;simp only[oC,oJ,oP]at h;obtain⟨rfl,rfl⟩:=h;have g:=oE g;subst g;exact .same C (aC1 ht hu hd hi F (oM _)) (by rw[VR])
          | false =>
           rw[g]at h;simp only[oD,oJ]at h;have hn1:n≠0:=λe=>(by rw[e]at g; cases g)
           have⟨c',T,R⟩:=EZ (w:=w) (ty:=ty) (ao:=none) (l:=0) (c:=0) ht hu hd hi hz s1 zN E hn zN (os:=#[]) v2 (λV _=>rfl);refine C5.a56 h ?_;have:=a6P C (os:=#[]) (vs:=vs) (cells:=new) (sz:=i.size) (by simpa using v1) T (by rw[Array.size_append,Array.size_empty,Nat.zero_add,Nat.zero_add,<- M,s2]) (by rw[tV,I]) R;rwa[Nat.zero_add]at this
        ·rename_i cs l cap;have K:=hp;rw[VR]at hp;obtain⟨ao,c,rfl,Z,h4,h5⟩:=hp;cases g:Nat.beq n 0 with
         | true =>
          rw[g]at h;simp only[oC,oJ,oP]at h;obtain⟨rfl,rfl⟩:=h;have g:=oE g;subst g;exact .same C (aC1 ht hu hd hi F Z) K
         | false =>
          rw[g]at h;simp only[oD]at h;cases j:(Nat.beq cs.length (l*i.size)&&Nat.ble l 1048576)with
          | false=>rw[j]at h; cases h
          | true =>
           rw[j]at h;simp only[oC]at h;simp only[oA]at j;have o:=oE j.1;have hl:=oL j.2;cases cap with
           | none=>cases h
           | some c' =>
            simp only at h;have:=h4 c' rfl;subst this;cases f:Nat.ble (l+n) c with
            | true=>rw[f]at h; cases h
            | false =>
             rw[f]at h;simp only[oD,oJ]at h;have f:¬ l+n<=c:=λhle=>(by rw[Nat.ble_eq_true_of_le hle]at f; cases f)
             obtain⟨os,J,o2⟩:∃ os:Array Value,VRs w G μ cs os.toList/\∀ V:World,V.heap=w.heap->(Builtin.firstCells i.size l (.slice ao l c)).run P V=.ok os V:=by
              rcases h5 with rfl|⟨b,off,rfl,_,hcs⟩
              ·refine⟨#[],by simp[VRs],λV _=>?_⟩;simp only[List.length_nil]at o;cases ao with
               | none=>rfl
               | some a=>simp[Builtin.firstCells,<- o,loadCells,loadCellsFrom]
              ·have:=(LN (P:=P) (μ:=μ) (c:=c) hcs.bF o).2.2 l (oM _);rwa[List.take_of_length_le zN]at this
             have O:cs.length=os.size:=by simpa using J.length
             have⟨c',T,R⟩:=EZ (w:=w) (ty:=ty) (ao:=ao) ht hu hd hi hz s1 f E hn hl v2 o2;refine C5.a56 h ?_;exact a6P C (os:=os) (vs:=vs) (by rw[Array.toList_append]; exact J.append v1) T (by rw[Array.size_append,Nat.add_mul,<- O,<- M,s2,o]) (by rw[tV,I]) R
        ·rename_i r off l cap sz;have K:=hp;rw[VR]at hp;obtain⟨b,c,D,rfl,Z,h4,y⟩:=hp;cases g:Nat.beq n 0 with
         | true =>
          rw[g]at h;simp only[oC,oJ,oP]at h;obtain⟨rfl,rfl⟩:=h;have g:=oE g;subst g;exact .same C (aC1 ht hu hd hi F Z) K
         | false =>
          rw[g]at h;simp only[oD]at h;split at h
          ·rename_i k Q;cases j:(Nat.beq sz i.size&&Nat.ble (off+l*sz) k.cells.length&&Nat.ble l 1048576&&Nat.beq k.ty e)with
           | false=>rw[j]at h; cases h
           | true =>
            rw[j]at h;simp only[oC]at h;simp only[oA]at j;have⟨⟨⟨k1,k2⟩,k3⟩,k4⟩:=j;have k1:=oE k1;have k2:=oL k2;have k3:=oL k3;have k4:=oE k4;subst k1;have⟨cs,g2,g3,g4,g5,g6⟩:=C.blk r k b (aG Q) D;split at h
            ·rename_i c';have:=h4 c' rfl;subst this;cases f:Nat.ble (l+n) c with
             | true =>
              rw[f]at h;simp only[oC]at h;split at h
              next H2 hw2=>simp only[oJ,oP]at h;obtain⟨rfl,rfl⟩:=h;have⟨w',a1,a2,a3⟩:=aFI (P:=P) C hw2 D v1;have S:=LQ (w:=w) (w':=w') (ty:=ty) (ao:=some ⟨b,μ.sh r+off,none⟩) ht hu hd hi s1 (oL f) (v2 w rfl) (by simp only[Addr.add_lit,Nat.add_assoc]; exact a1);refine .put S a2 a3 ?_;rw[VR];exact⟨b,c,D,rfl,oL f,λk Q=>(by cases Q; rfl),y⟩
              ·cases h
             | false =>
              rw[f]at h;simp only[oD,oJ]at h;have f:¬ l+n<=c:=λhle=>(by rw[Nat.ble_eq_true_of_le hle]at f; cases f)
              have W:=g3.sub off (l*i.size);have⟨os,J,o2⟩:=(LN (P:=P) (c:=c) W (by simp; omega):Source P w G μ i.size (.slice (some ⟨b,μ.sh r+off,none⟩) l c) _ l).2.2 l (oM _);rw[List.take_of_length_le (by simp; omega)]at J;have O:l*i.size=os.size:=by have:=J.length; rw[List.length_take,List.length_drop,Nat.min_eq_left zN]at this; simpa using this
              have⟨c',T,R⟩:=EZ (w:=w) (ty:=ty) (ao:=some ⟨b,μ.sh r+off,none⟩) ht hu hd hi hz s1 f E hn k3 v2 o2;refine C5.a56 h ?_;exact a6P C (os:=os) (vs:=vs) (by rw[Array.toList_append]; exact J.append v1) T (by rw[Array.size_append,Nat.add_mul,<- O,<- M,s2]) (by rw[tV,I]) R
            ·cases m:(Nat.beq off 0&&!k.frozen&&k.grown)with
             | false=>rw[m]at h; cases h
             | true =>
              rw[m]at h;simp only[oC,oJ]at h;simp only[oA,Bool.not_eq_true']at m;have J:=oE m.1.1;subst J;have L:bVD k.cells (l*i.size) new=k.cells.take (l*i.size)++new:=by
               unfold bVD;cases hm:Nat.beq k.cells.length (l*i.size)with
               | true=>rw[oC,List.take_of_length_le (Nat.le_of_eq (oE hm))]
               | false=>rfl
              rw[L]at h;refine C5.a56 h ?_;exact bKU C ht hu hd hi hz E I F hn k3 Y.2 Q m.1.2 m.2 k4 zN D Z y
          ·cases h
        ·cases h
      ·cases h
    cases h
   cases h
  cases h
 cases h
def bJN(j:aX n0 G μ H w){tys ty p q v H' s x}(hp:VR w G μ p s)(m:VR w G μ q x)(h:bVM P H tys p q=some (v,H')):C5 P n0 w G μ (Builtin.copy_ tys ty #[s,x]) v H':=by
 unfold bVM at h;split at h
 next t ts f=>
  have o:tys[0]?=some t:=by rw[<- Array.getElem?_toList,f]; rfl
  split at h
  next e hu=>
   split at h
   ·rename_i sz u;split at h
    ·rename_i new n d;have⟨s1,s2,B⟩:=aVQ (P:=P) j m d;split at h
     ·rename_i r off l cap k;split at h
      ·rename_i E g;obtain⟨rfl,rfl⟩:=h;rw[VR]at hp;obtain⟨b,c,A,rfl,D,F,i⟩:=hp;have⟨vs,v1,v2⟩:=B (min n l) (Nat.min_le_left _ _);have⟨w',C,a2,a3⟩:=aFI (P:=P) j g A v1;have a:(Builtin.copy_ tys ty #[.slice (some ⟨b,μ.sh r+off,none⟩) l c,x]).run P w=.ok (goInt ((min n l:Nat):Int)) w':=by
        have y:(#[Value.slice (some ⟨b,μ.sh r+off,none⟩) l c,x]:Array Value)[0]?=some (Value.slice (some ⟨b,μ.sh r+off,none⟩) l c):=rfl;have z:(#[Value.slice (some ⟨b,μ.sh r+off,none⟩) l c,x]:Array Value)[1]?=some x:=rfl;unfold Builtin.copy_;have hm:Nat.min n l=min n l:=rfl;simp only[o,y,z,Sem.run_bind,run_underlying hu,Result.andThen_ok,s1,run_sizeOf u,hm,v2 w rfl,C,Sem.run_pure]
       refine .put a a2 a3 ?_;rw[VR]
      cases h
     cases h
    cases h
   cases h
  cases h
 cases h
def bCM {e z}(hz:N6 P e=some z) w:(zeroValue e).run P w=.ok z w:=by
 unfold N6 at hz;split at hz;rename_i i hi;simp[zeroValue,N9 hi,hz];grind
def bFB(j:aX n0 G μ H w){tys ty p v H' s}(hp:VR w G μ p s)(h:bLR P H tys p=some (v,H')):C5 P n0 w G μ (Builtin.clear_ tys ty #[s]) v H':=by
 unfold bLR at h;split at h
 next t ts a=>
  have k:tys[0]?=some t:=by rw[<- Array.getElem?_toList,a]; rfl
  split at h
  next e hu=>
   split at h
   ·rename_i z hz;split at h
    ·rename_i r off l cap sz;rw[VR]at hp;obtain⟨b,c,o,rfl,u,y,i⟩:=hp;have m:(#[Value.slice (some ⟨b,μ.sh r+off,none⟩) l c]:Array Value)[0]?=some (Value.slice (some ⟨b,μ.sh r+off,none⟩) l c):=rfl;have ht:VR w G μ (.tuple []) (.tuple #[]):=by rw[VR]; exact⟨#[],rfl,by rw[VRs]⟩
     cases f:Nat.beq l 0 with
     | true =>
      rw[f]at h;simp only[oC,oJ,oP]at h;obtain⟨rfl,rfl⟩:=h;have d:=oE f;subst d;refine .same j ?_ ht;unfold Builtin.clear_;simp only[k,m,Sem.run_bind,run_underlying hu,Result.andThen_ok,Sem.run_pure]
     | false =>
      rw[f]at h;simp only[oD]at h;have d:l≠0:=λe=>by subst e; cases f
      split at h
      next x g=>simp only[oJ,oP]at h;obtain⟨rfl,rfl⟩:=h;have⟨w',q,a2,a3⟩:=aFI (P:=P) j g o (KC _);refine .put (v':=.tuple #[]) (w':=w') ?_ a2 a3 (by rw[VR]; exact⟨#[],rfl,by rw[VRs]⟩);unfold Builtin.clear_;obtain⟨n,rfl⟩:∃ n,l=n+1:=⟨l-1,by omega⟩;simp only[k,m,Sem.run_bind,run_underlying hu,Result.andThen_ok,bCM hz,q,Sem.run_pure]
      ·cases h
    cases h
   cases h
  cases h
 cases h
end
section
variable {P:Program} {n0:Nat->Prop} {w:World} {G:Gd} {μ:Mp} {H:Heap} {F:Frm} {a:Act} {nt:Nat}
def DI(P:Program) (n0:Nat->Prop) (w:World) (G:Gd) (μ:Mp) (g:FuncId) (vs:Array Value) (r:PV) (H':Heap):Prop :=(callFunc g vs).run P w=.ok (.enter g vs) w/\Calls P g vs w λe w'=>∃ v' G' μ',e=.returned v'/\Ext n0 w G μ w' G' μ'/\aX n0 G' μ' H' w'/\VR w' G' μ' r v'
structure dS (P:Program) (cl:Callee):Prop where
 call:∀ {g args H r H' c},cl g args H=some (r,H',c)->∀ {n0 G μ w vs},aX n0 G μ H w->VRs w G μ args vs->DI P n0 w G μ g vs.toArray r H'
 free:∀ {g args H r H'},cl g args H=some (r,H',0)->H'=H/\∀ H2,cl g args H2=some (r,H2,0)
 reads:∀ {g args H r H'},cl g args H=some (r,H',1)->H'=H
def XN(P:Program) (n0:Nat->Prop) (w:World) (G:Gd) (μ:Mp) (o:Oper) (a:Act) (v:PV) (H':Heap):Prop :=∀ (K:Act->World->Prop) (Q:Exit->Act->World->Prop),(∀ v' w' G' μ',Ext n0 w G μ w' G' μ'->aX n0 G' μ' H' w'->VR w' G' μ' v v'->K (a.put o.dst v') w')->o.wp P a w K Q
def XN.value {o s v H'}(g:execOp a.eval o=(do pure (.value (<- s))))(h:C5 P n0 w G μ s v H'):XN P n0 w G μ o a v H':=by
 intro K Q e;have⟨v',w',G',μ',b,d,f,c⟩:=h;unfold Oper.wp;rw[g];simp only[Sem.run_bind,b];exact e v' w' G' μ' d f c
def XN.pure {o v v'}(b:aX n0 G μ H w)(c:(execOp a.eval o).run P w=.ok (.value v') w)(h:VR w G μ v v'):XN P n0 w G μ o a v H:=by
 intro K Q d;unfold Oper.wp;rw[c];exact d v' w G μ (Ext.refl _ _ _ _) b h
def XN.C2 (b:aX n0 G μ H w)(f:fG w G μ nt F a){o v H' c}(h:p0 H (C2 P F o)=some (v,H',c)):XN P n0 w G μ o a v H':=by
 unfold p0 at h;split at h;rename_i u hu;obtain⟨rfl,rfl,rfl⟩:=h;have⟨v',e,d⟩:=bJA f hu;exact .pure b (e w) d;grind
def aE7 {x v H' c}(h:p0 H x=some (v,H',c)):x=some v/\H'=H/\c=0:=by
 unfold p0 at h;grind
def PJ {x v H' c}(h:p2 x=some (v,H',c)):x=some (v,H')/\c=2:=by
 unfold p2 at h;grind
def aZH(b:fG w G μ nt F a):∀ xs:List Operand,VRs w G μ (xs.map (ev F)) (xs.map a.eval)
 | []=>by rfl
 | x::xs=>⟨_,_,rfl,cT b x,aZH b xs⟩
def bCF {cl} (i:dS P cl) (m:aX n0 G μ H w) {o c f g first b args v H' k} (q:o.op=.call c) (r:c.callee=.value f)
  (p:a.eval f=.func (.func g) first b) (d:VRs w G μ args (first.toList++c.args.toList.map a.eval++b.toList)) (h:cl g args H=some (v,H',k)):XN P n0 w G μ o a v H':=by
 intro K Q s;have⟨j,l⟩:=i.call h m d;have e:(first.toList++c.args.toList.map a.eval++b.toList).toArray=first++c.args.map a.eval++b:=R
 rw[e]at j l;unfold Oper.wp;have n:(execOp a.eval o).run P w=.ok (.enter g (first++c.args.map a.eval++b)) w:=by
  unfold execOp;simp only[q,resolve,r,p,Deferred.ofValue,Sem.run_bind,Sem.run_pure,Result.andThen_ok,invoke,j]
 rw[n];refine l.mono λe w' he=>?_;grind
set_option maxHeartbeats 2000000 in
def bRR {cl:Callee} (hcl:dS P cl) (hW:aX n0 G μ H w) (hF:fG w G μ nt F a) {o:Oper} {v:PV} {H':Heap} {k:Nat} (h:opu P cl F H o=some (v,H',k)):XN P n0 w G μ o a v H':=by
 unfold opu at h;split at h
 next x ho=>simp only[oJ,oP]at h;obtain⟨rfl,rfl,rfl⟩:=h;exact .pure hW (by simp[execOp,ho]) (cT hF x)
 next x ho=>simp only[oJ,oP]at h;obtain⟨rfl,rfl,rfl⟩:=h;exact .pure hW (by simp[execOp,ho]) (cT hF x)
 next c x y ho=>
  split at h
  next t ht=>
   simp only[oJ,oP]at h;obtain⟨rfl,rfl,rfl⟩:=h;have hc:=cT hF c;rw[ht,VR]at hc;refine .pure hW (v':=if t then a.eval x else a.eval y) (by simp[execOp,ho,hc,asBool]) ?_;cases t
   ·exact cT hF y
   ·exact cT hF x
  ·cases h
 next op xt x y yt ho=>
  split at h
  next k1 i1 k2 i2 hx hy=>
   cases hk:aCZ k1 k2 with
   | false=>rw[hk]at h; exact .C2 hW hF h
   | true =>
    rw[hk]at h;simp only[oC]at h;have hk:k1=k2:=aTH hk;subst hk;split at h
    next u hu=>simp only[oJ,oP]at h;obtain⟨rfl,rfl,rfl⟩:=h;have h1:=cT hF x;have h2:=cT hF y;rw[hx,VR]at h1;rw[hy,VR]at h2;refine .value (s:=do eqGuard op xt x y (a.eval x) (a.eval y); binOp op xt (a.eval x) (a.eval y)) (by simp[execOp,ho]) (.same hW (v':=u) ?_ (by rw[VR]));rw[h1,h2];exact bNH hu w
    ·exact .C2 hW hF h
  next cs ds hx hy=>
   split at h
   next u hu=>simp only[oJ,oP]at h;obtain⟨rfl,rfl,rfl⟩:=h;have h1:=cT hF x;have h2:=cT hF y;rw[hx,VR]at h1;rw[hy,VR]at h2;obtain⟨xs,e1,h1⟩:=h1;obtain⟨ys,e2,h2⟩:=h2;obtain⟨v',g1,g2⟩:=bMX (P:=P) (p:=x) (q:=y) h1 h2 hu w;exact .value (s:=do eqGuard op xt x y (a.eval x) (a.eval y); binOp op xt (a.eval x) (a.eval y)) (by simp[execOp,ho]) (.same hW (v':=v') (by rw[e1,e2]; exact g1) g2)
   ·exact .C2 hW hF h
  ·exact .C2 hW hF h
 next t x ho=>
  split at h
  next u c hu=>simp only[oJ,oP]at h;obtain⟨rfl,rfl,rfl⟩:=h;obtain⟨v',h1,h2⟩:=a4U hW (cT hF x) hu;exact .value (by simp only[execOp,ho]) (.same hW h1 h2)
  ·cases h
 next t x y ho=>
  split at h
  next H2 hu=>
   simp only[oJ,oP]at h;obtain⟨rfl,rfl,rfl⟩:=h;obtain⟨w',h1,h2,h3⟩:=bGW hW (cT hF x) (cT hF y) hu;intro K Q hK;unfold Oper.wp;have hx:(execOp a.eval o).run P w=.ok .skip w':=by simp[execOp,ho,h1]
   rw[hx];exact hK undef w' G μ h2 h3 (by rw[VR])
  ·cases h
 next t x ho=>
  split at h
  next cs hcs=>
   have hv:=aAC hcs (cT hF x);cases hro:bPP t cs with
   | true =>
    rw[hro]at h;simp only[oC,oJ,oP]at h;obtain⟨rfl,rfl,rfl⟩:=h;simp only[bPP,oA]at hro;exact .value (s:=Instr.box t (a.eval x)) (by simp only[execOp,ho]) (bJ1 hW hv hro.2)
   | false =>
   rw[hro]at h;simp only[oD]at h;replace h:=PJ h; obtain⟨h,rfl⟩:=h;simp only[oJ]at h;have hn:=bD3 (P:=P) hW (t:=t) hv;rw[h]at hn;exact .value (s:=Instr.box t (a.eval x)) (by simp only[execOp,ho]) hn
  ·cases h
 next t ho=>
  split at h
  next z hz=>
   replace h:=PJ h; obtain⟨h,rfl⟩:=h;simp only[oJ]at h;have hn:=bD3 (P:=P) hW (t:=t) (KC (w:=w) (G:=G) (μ:=μ) z.cells);rw[h]at hn;refine .value (s:=Instr.alloc t true (.tuple #[])) (by simp only[execOp,ho]) ?_;obtain⟨v',w',G',μ',a1,a2⟩:=hn;refine⟨v',w',G',μ',?_,a2⟩;have hzv:(zeroValue t).run P w=.ok z w:=by
    unfold N6 at hz;split at hz
    next i hi=>simp[zeroValue,N9 hi,hz]
    ·cases hz
   simp only[Instr.alloc,Sem.run_bind,hzv,Result.andThen_ok,newVar];simpa using a1
  ·cases h
 next s x f ho=>replace h:=aE7 h; obtain⟨h,rfl,rfl⟩:=h;obtain⟨v',h1,h2⟩:=a2U (cT hF x) h;exact .value (by simp only[execOp,ho]) (.same hW h1 h2)
 next t x i ho=>
  split at h
  next k1 i1 hi=>replace h:=aE7 h; obtain⟨h,rfl,rfl⟩:=h;have h3:=cT hF i;rw[hi,VR]at h3;obtain⟨v',h1,h2⟩:=a1Z (k:=k1) (cT hF x) h;exact .value (s:=Instr.indexAt t (a.eval x) (a.eval i)) (by simp only[execOp,ho]) (.same hW (by rw[h3]; exact h1) h2)
  ·cases h
 next x ho=>
  split at h
  next cs hx=>simp only[oJ,oP]at h;obtain⟨rfl,rfl,rfl⟩:=h;have h1:=cT hF x;rw[hx]at h1;have h2:=h1;rw[VR]at h2;obtain⟨b,off,h3,_⟩:=h2;exact .pure hW (v':=a.eval x) (by simp[execOp,ho,h3]) h1
  next r off hx=>simp only[oJ,oP]at h;obtain⟨rfl,rfl,rfl⟩:=h;have h1:=cT hF x;rw[hx]at h1;have h2:=h1;rw[VR]at h2;obtain⟨b,_,h3⟩:=h2;exact .pure hW (v':=a.eval x) (by simp[execOp,ho,h3]) h1
  next f p q hx=>simp only[oJ,oP]at h;obtain⟨rfl,rfl,rfl⟩:=h;have h1:=cT hF x;rw[hx]at h1;have h2:=h1;rw[VR]at h2;obtain⟨fs,cs,h3,_⟩:=h2;exact .pure hW (v':=a.eval x) (by simp[execOp,ho,h3]) h1
  ·exact .C2 hW hF h
 next s x f ho=>
  split at h
  next cs hx=>
   split at h
   next fd hfd=>replace h:=aE7 h; obtain⟨h,rfl,rfl⟩:=h;have h1:=cT hF x;rw[hx]at h1;obtain⟨v',h2,h3⟩:=bHH (P:=P) h1 hfd h w;exact .value (by simp only[execOp,ho]) (.same hW h2 h3)
   ·cases h
  ·exact .C2 hW hF h
 next t x i ho=>
  split at h
  next cs k1 i1 n e hx hi hu=>
   split at h
   ·rename_i sz hs;cases hc:aE i1 n with
    | false=>rw[hc]at h; cases h
    | true =>
     rw[hc]at h;simp only[oC]at h;replace h:=aE7 h; obtain⟨h,rfl,rfl⟩:=h;have h1:=cT hF x;rw[hx]at h1;have h4:=cT hF i;rw[hi,VR]at h4;obtain⟨v',h2,h3⟩:=bEJ (P:=P) (k:=k1) h1 hu hs hc h w;exact .value (s:=Instr.index t (a.eval x) (a.eval i)) (by simp only[execOp,ho]) (.same hW (by rw[h4]; exact h2) h3)
   ·cases h
  ·exact .C2 hW hF h
 next x i ho=>
  split at h
  next vs hx=>replace h:=aE7 h; obtain⟨h,rfl,rfl⟩:=h;have h1:=cT hF x;rw[hx]at h1;obtain⟨v',h2,h3⟩:=bAB (P:=P) h1 h w;exact .value (by simp only[execOp,ho]) (.same hW h2 h3)
  ·exact .C2 hW hF h
 next t parts ho=>replace h:=aE7 h; obtain⟨h,rfl,rfl⟩:=h;obtain⟨v',h2,h3⟩:=bHL hF h w;exact .value (by simp only[execOp,ho]) (.same hW h2 h3)
 next t n parts ho=>
  split at h
  next v1 h1=>simp only[oJ,oP]at h;obtain⟨rfl,rfl,rfl⟩:=h;exact .value (by simp only[execOp,ho]) (aXS hW hF h1)
  ·replace h:=PJ h; obtain⟨h,rfl⟩:=h;exact .value (by simp only[execOp,ho]) (aWC hW hF h)
 next t l c ho=>replace h:=PJ h; obtain⟨h,rfl⟩:=h;exact .value (by simp only[execOp,ho]) (a0S hW (cT hF l) (cT hF c) h)
 next fn first caps ho=>simp only[oJ,oP]at h;obtain⟨rfl,rfl,rfl⟩:=h;refine .pure hW (v':=.func fn (first.map a.eval) (caps.map a.eval)) (by simp[execOp,ho,Instr.makeFunc]) ?_;rw[VR];exact⟨_,_,rfl,by simpa using aZH hF first.toList,by simpa using aZH hF caps.toList⟩
 next t x lo hi ho=>
  split at h
  ·exact .C2 hW hF h
  ·replace h:=aE7 h; obtain⟨h,rfl,rfl⟩:=h;obtain⟨v',h2,h3⟩:=W2 hF (cT hF x) h w;exact .value (by simp only[execOp,ho]; rfl) (.same hW h2 h3)
 next c ho=>
  split at h
  next hc=>
   split at h
   ·exact .C2 hW hF h
   ·cases hsz:Nat.beq c.args.size 1 with
    | false=>rw[hsz]at h; cases h
    | true =>
     rw[hsz]at h;simp only[oC]at h;replace h:=aE7 h; obtain⟨h,rfl,rfl⟩:=h;have hsz:=oE hsz;obtain⟨x,hx⟩:∃ x,c.args=#[x]:=by
      have h1:0<c.args.size:=Z
      refine⟨c.args[0],?_⟩;apply Array.ext
      ·simp[hsz]
      ·intro i h2 h3;have:i=0:=Z
       subst this; rfl
     rw[hx]at h;obtain⟨v',h2,h3⟩:=bM6 (P:=P) (ty:=o.type) (cT hF x) h w;refine .value (s:=Builtin.len_ c.argTypes o.type #[a.eval x]) ?_ (.same hW h2 h3);simp[execOp,ho,resolve,hc,hx,invoke,builtin]
  next hc=>
   split at h
   ·rename_i s x hx;have hx:c.args=#[s,x]:=by apply Array.ext'; simpa using hx
    replace h:=PJ h; obtain⟨h,rfl⟩:=h;refine .value (s:=Builtin.append_ c.argTypes o.type #[a.eval s,a.eval x]) ?_ (bBL hW (cT hF s) (cT hF x) h);simp[execOp,ho,resolve,hc,hx,invoke,builtin]
   ·cases h
  next hc=>
   split at h
   ·rename_i s x hx;have hx:c.args=#[s,x]:=by apply Array.ext'; simpa using hx
    replace h:=PJ h; obtain⟨h,rfl⟩:=h;refine .value (s:=Builtin.copy_ c.argTypes o.type #[a.eval s,a.eval x]) ?_ (bJN hW (cT hF s) (cT hF x) h);simp[execOp,ho,resolve,hc,hx,invoke,builtin]
   ·cases h
  next hc=>
   split at h
   ·rename_i s hx;have hx:c.args=#[s]:=by apply Array.ext'; simpa using hx
    replace h:=PJ h; obtain⟨h,rfl⟩:=h;refine .value (s:=Builtin.clear_ c.argTypes o.type #[a.eval s]) ?_ (bFB hW (cT hF s) h);simp[execOp,ho,resolve,hc,hx,invoke,builtin]
   ·cases h
  ·exact .C2 hW hF h
  next f hc=>
   split at h
   next g first caps hf=>have h1:=cT hF f;rw[hf,VR]at h1;exact bCF hcl hW ho hc h1 (((KC _).append (aZH hF _)).append (KC _)) h
   next g first caps hf=>have h1:=cT hF f;rw[hf,VR]at h1;obtain⟨fs,cs,h2,h3,h4⟩:=h1;exact bCF hcl hW ho hc h2 ((h3.append (aZH hF _)).append h4) h
   ·cases h
  ·cases h
 ·exact .C2 hW hF h
end
section
variable {P:Program} {F:Frm} {H:Heap}
def b0S {x v H' k}(h:p0 H x=some (v,H',k)):H'=H/\k=0/\∀ a,p0 a x=some (v,a,0):=by
 obtain⟨rfl,rfl,rfl⟩:=aE7 h;exact⟨rfl,rfl,λa=>rfl⟩
def aVL(k:Nat)(H H':Heap)(v:PV)(f:Heap->Option (PV×Heap×Nat)):Prop:=(k=0->H'=H/\∀ H2,f H2=some (v,H2,0))/\(k=1->H'=H)
def aVL.p0 {x v H' k f}(h:p0 H x=some (v,H',k))(hf:∀ H2,f H2=PM.p0 H2 x):aVL k H H' v f:=by
 obtain⟨rfl,rfl,h3⟩:=b0S h;exact⟨λ_=>⟨rfl,λH2=>by grind⟩,λ_=>rfl⟩
def aVL.two {H' v f k}(h:k=2):aVL k H H' v f:=by subst h; exact⟨λh=>Z,λh=>W⟩
def aVL.callee {cl}(a:dS P cl){g args v H' k f}(h:cl g args H=some (v,H',k))(c:∀ b,f b=cl g args b):aVL k H H' v f:=by
 constructor;rintro rfl;have⟨d,e⟩:=a.free h;grind;rintro rfl;exact a.reads h
set_option maxHeartbeats 1000000 in
def bYJ {cl:Callee} (hcl:dS P cl) {o:Oper} {v:PV} {H':Heap} {k:Nat} (h:opu P cl F H o=some (v,H',k)):aVL k H H' v (λH2=>opu P cl F H2 o):=by
 have one:∀ {x:PV} {f:Heap->Option (PV×Heap×Nat)},some (x,H,0)=some (v,H',k)->(∀ H2,f H2=some (x,H2,0))->aVL k H H' v f:=(by intro x f h hf;simp only[oJ,oP]at h;obtain⟨rfl,rfl,rfl⟩:=h;exact⟨λ_=>⟨rfl,hf⟩,λ_=>rfl⟩);unfold opu at h;split at h
 next x ho=> exact one h λH2=>by simp only[opu,ho]
 next x ho=> exact one h λH2=>by simp only[opu,ho]
 next c x y ho=>
  split at h
  next t ht=> exact one h λH2=>by simp only[opu,ho,ht]
  cases h
 next op xt x y yt ho=>
  split at h
  next k1 i1 k2 i2 hx hy=>
   cases hk:aCZ k1 k2 with
   | false=>rw[hk]at h; exact .p0 h λH2=>by simp only[opu,ho,hx,hy,hk,oD]
   | true =>
    rw[hk]at h;simp only[oC]at h;split at h
    next u hu=> exact one h λH2=>by simp only[opu,ho,hx,hy,hk,oC,hu]
    next hu=> exact .p0 h λH2=>by simp only[opu,ho,hx,hy,hk,oC,hu]
  next cs ds hx hy=>
   split at h
   next u hu=> exact one h λH2=>by simp only[opu,ho,hx,hy,hu]
   rename_i hu; exact .p0 h λH2=>by simp only[opu,ho,hx,hy,hu]
  rename_i hno;refine .p0 h λH2=>?_;simp only[opu,ho]
 next t x ho=>
  split at h
  next u c hu=>
   simp only[oJ,oP]at h;obtain⟨rfl,rfl,rfl⟩:=h;refine⟨?_,λ_=>rfl⟩;rintro rfl;refine⟨rfl,λH2=>?_⟩;have:aP7 P H2 t (ev F x)=some (u,0):=by
    cases hx:ev F x <;> rw[hx]at hu <;> simp only[aP7]at hu ⊢ <;> try (cases hu; done)
    ·exact hu
    ·split at hu
     ·split at hu <;> cases hu
     ·cases hu
   simp only[opu,ho,this]
  cases h
 rename_i t x y ho;split at h;simp only[oJ,oP]at h; exact .two h.2.2.symm;cases h
 next t x ho=>
  split at h
  next cs hcs=>
   cases hro:bPP t cs with
   | true=>rw[hro,oC]at h; exact one h λH2=>by simp only[opu,ho,hcs,hro,oC]
   | false=>rw[hro,oD]at h; exact .two (PJ h).2
  cases h
 rename_i t ho;split at h;exact .two (PJ h).2;cases h
 next s x f ho=> exact .p0 h λH2=>by simp only[opu,ho]
 next t x i ho=>
  split at h
  next k1 i1 hi=> exact .p0 h λH2=>by simp only[opu,ho,hi]
  cases h
 next x ho=>
  split at h
  next cs hx=> exact one h λH2=>by simp only[opu,ho,hx]
  next r off hx=> exact one h λH2=>by simp only[opu,ho,hx]
  next f p q hx=> exact one h λH2=>by simp only[opu,ho,hx]
  rename_i n1 n2 n3;refine .p0 h λH2=>?_;simp only[opu,ho]
 next s x f ho=>
  split at h
  next cs hx=>
   split at h
   next fd hfd=> exact .p0 h λH2=>by simp only[opu,ho,hx,hfd]
   cases h
  refine .p0 h λH2=>?_;simp only[opu,ho]
 next t x i ho=>
  split at h
  next cs k1 i1 n e hx hi hu=>
   split at h
   ·rename_i sz hs;cases hc:aE i1 n with
    | false=>rw[hc]at h; cases h;| true=>rw[hc]at h; exact .p0 h λH2=>by simp only[opu,ho,hx,hi,hu,hs,hc,oC]
   cases h
  refine .p0 h λH2=>?_;simp only[opu,ho]
 next x i ho=>
  split at h
  next vs hx=> exact .p0 h λH2=>by simp only[opu,ho,hx]
  refine .p0 h λH2=>?_;simp only[opu,ho]
 next t parts ho=> exact .p0 h λH2=>by simp only[opu,ho]
 next t n parts ho=>
  split at h
  next v1 h1=>exact one h λH2=>by simp only[opu,ho,h1]
  exact .two (PJ h).2
 exact .two (PJ h).2
 next fn first caps ho=> exact one h λH2=>by simp only[opu,ho]
 next t x lo hi ho=>
  split at h
  next u hx=> exact .p0 h λH2=>by simp only[opu,ho,hx]
  refine .p0 h λH2=>?_;simp only[opu,ho]
 next c ho=>
  split at h
  next hc=>
   split at h
   next u hx=> exact .p0 h λH2=>by simp only[opu,ho,hc,hx]
   ·cases hsz:Nat.beq c.args.size 1 with
    | false=>rw[hsz]at h; cases h
    | true =>
     rw[hsz]at h;refine .p0 h λH2=>?_
     simp only[opu,ho,hc,hsz,oC]
  split at h;exact .two (PJ h).2;cases h;split at h;exact .two (PJ h).2;cases h;split at h;exact .two (PJ h).2;cases h;rename_i hc;refine .p0 h λH2=>?_;simp only[opu,ho,hc]
  next f hc=>
   split at h
   next g first caps hf=> exact .callee hcl h λH2=>by simp only[opu,ho,hc,hf]
   next g first caps hf=> exact .callee hcl h λH2=>by simp only[opu,ho,hc,hf]
   cases h
  cases h
 refine .p0 h λH2=>?_;simp only[opu]
end
section
variable {P:Program} {F F':Frm} {H:Heap}
def a0I:∀ {xs},(∀ x∈xs,ev F' x=ev F x)->aLU F' xs=aLU F xs
 | [],_=>rfl
 | x::xs,h=>by
  simp only[aLU,h x List.mem_cons_self];rw[a0I λy a=>h y (List.mem_cons_of_mem _ a)]
def bIB {o}(h:∀ x∈o.op.operands,ev F' x=ev F x):C2 P F' o=C2 P F o:=by
 unfold C2;cases c:aIL o.op with
 | true=>rfl
 | false =>
  rw[a0I λx a=>h x (Array.mem_toList_iff.1 a)];rw[execOp_congr (ρ':=valOf F) o (λcs b e=>by simp[aIL,e]at c) λx a=>by simp only[valOf,h x a]]
def aK5 {ps:List (Nat×Operand)}(h:∀ p∈ps,ev F' p.2=ev F p.2):(ps.map λp=>(p.1,ev F' p.2))=ps.map λp=>(p.1,ev F p.2) :=List.map_congr_left λp hp=>W
def bQ3 {cl o}(h:∀ x∈o.op.operands,ev F' x=ev F x):opu P cl F' H o=opu P cl F H o:=by
 have hp:=bIB (P:=P) h;have hm:∀ {xs:List Operand},(∀ x∈xs,x∈o.op.operands)->xs.map (ev F')=xs.map (ev F):=λhx=>List.map_congr_left λx hm=>h x (hx x hm);unfold opu;rw[hp];cases hop:o.op
 case build t parts =>
  have:=aK5 (F:=F) (F':=F') (ps:=parts.toList) λp hpm=>h p.2 (by simp only[hop,Op.operands]; simp; exact⟨p.1,by simpa using hpm⟩)
  simp only[bEC,this]
 case buildSlice t n parts =>
  have:=aK5 (F:=F) (F':=F') (ps:=parts.toList) λp hpm=>h p.2 (by simp only[hop,Op.operands]; simp; exact⟨p.1,by simpa using hpm⟩)
  simp only[aKH,aE0,this]
 case makeFunc fn first caps =>
  have h1:=hm (xs:=first.toList) λx hx=>(by simp[hop,Op.operands]; exact .inl (by simpa using hx))
  have h2:=hm (xs:=caps.toList) λx hx=>(by simp[hop,Op.operands]; exact .inr (by simpa using hx))
  simp only[h1,h2]
 case slice t x lo hi mx =>
  have hx:=h x (by simp[hop,Op.operands]);have hlo:lo.map (ev F')=lo.map (ev F):=by
   cases lo with
   | none=>rfl
   | some y=>simp[h y (by simp[hop,Op.operands])]
  have hhi:hi.map (ev F')=hi.map (ev F):=by
   cases hi with
   | none=>rfl
   | some y=>simp[h y (by simp[hop,Op.operands])]
  cases mx <;> simp only[hx,hlo,hhi]
 case call c =>
  have hargs:=hm (xs:=c.args.toList) λx hx=>by simp[hop,Op.operands,Call.operands]; exact .inr (by simpa using hx)
  have h0:ev F' (c.args.getD 0 (.const undef))=ev F (c.args.getD 0 (.const undef)):=by
   by_cases h1:0<c.args.size
   ·refine h _ ?_;simp only[hop,Op.operands,Call.operands,Array.mem_append];right;simp[h1]
   ·have:c.args=#[]:=Array.eq_empty_of_size_eq_zero Z;rw[this]; rfl
  have h2:∀ s x,c.args.toList=[s,x]->ev F' s=ev F s/\ev F' x=ev F x:=λs x hc=>by
   have:=hargs;rw[hc]at this;simpa using this
  have hf:∀ f,c.callee=.value f->ev F' f=ev F f:=λf hc=>h f (by simp[hop,Op.operands,Call.operands,hc])
  simp only[hargs,h0];split
  ·rfl
  ·split
   next s x hc=>rw[(h2 s x hc).1,(h2 s x hc).2]
   ·rfl
  ·split
   next s x hc=>rw[(h2 s x hc).1,(h2 s x hc).2]
   ·rfl
  ·split
   ·rename_i s hc;have h1:ev F' s=ev F s:=by
     have:=hargs;rw[hc]at this;simpa using this
    rw[h1]
   ·rfl
  ·rfl
  next f hc=>rw[hf f hc]
  ·rfl
 all_goals
  first
  | rfl
  | (simp only[hop,Op.operands]at h
     simp at h;simp[h])
end
def bXX(P:Program):Nat->TypeId->Option Ty
 | 0,_=>none
 | n+1,t=>match P.underlying t with
  | some (.int k)=>some (.int k)
  | some .bool=>some .bool
  | some .string=>some .str
  | some (.slice e)=>match bXX P n e with|some t=>some (.list t)|none=>none
  | some (.map k e)=>match P.underlying k,P.underlying e with
   | some .string,some (.int .i64)=>some .smap
   | _,_=>none
  | some (.struct fs)=>tyFields (λt=>bXX P n t) (fs.toList.map (·.type))
  | some (.array m e)=>bif Nat.ble m 16 then tyFields (λt=>bXX P n t) (List.replicate m e) else none
  | _=>none
where tyFields (f:TypeId->Option Ty):List TypeId->Option Ty
 | []=>none
 | [t]=>f t
 | t::r=>match f t,tyFields f r with
  | some a,some b=>some (.prod a b)
  | _,_=>none
def b17:List Nat:=[]
def aRW:List Nat->Nat->Bool| [],_=>false| a::r,t=>bif Nat.beq a t then true else aRW r t
def b1N:List Nat:=[157]
def bVB:List Nat:=[28,33,22]
def bP9(P:Program)(t:TypeId):Option (TypeId×Ty):=match P.underlying t with
 | some (.slice e)=>match P.underlying e with
  | some (.slice e2)=>match BL P e,BL P e2 with
   | some n,some m=>bif Nat.beq n 1 then some (e,.hnd m) else none
   | _,_=>none
  | _=>none
 | _=>none
def OW(P:Program)(t:TypeId):Option (TypeId×Ty):=bif aRW b17 t then none else bif aRW b1N t then bP9 P t else match P.underlying t with
 | some (.slice e)=>match bXX P 6 e,BL P e with
  | some ty,some n=>bif Nat.beq n ty.size then some (e,ty) else none
  | _,_=>none
 | _=>none
def KZ(a b:Ty)(l:List a.den):Option (List b.den):=if h:a=b then some (h ▸ l) else none
def mL {a b l l'}(h:KZ a b l=some l'):∃ e:a=b,e ▸ l=l':=by
 unfold KZ at h;grind
def KJ {α:Type}(f:List PV->Option α)(sz:Nat):Nat->List PV->Option (List α)
 | 0,[]=>some []
 | 0,_::_=>none
 | n+1,cs=>match f (cs.take sz)with
  | some x=>match KJ f sz n (cs.drop sz)with
   | some l=>some (x::l)
   | none=>none
  | none=>none
def bGE(k:IntKind):List PV->Option Int| [.lit (.int d n)]=>bif aCZ k d then some n else none| _=>none
def a6H:List PV->Option Bool| [.lit (.bool b)]=>some b| _=>none
def bGJ:List PV->Option ByteArray| [.lit (.string s)]=>some s| _=>none
def bF0(t:Ty)(f:List PV->Option t.den):List PV->Option (List t.den)| [.tl u l _ _]=>KZ u t l| [.lit (.slice none n _)]=>bif Nat.beq n 0 then some [] else none| [.vals cs n _]=>KJ f t.size n cs| _=>none
def bG5(sz:Nat):List PV->Option (Nat×Nat×Nat)| [.row j lo n s]=>bif Nat.beq s sz then some (j,lo,n) else none| [.lit (.slice none n _)]=>bif Nat.beq n 0 then some (0,0,0) else none| _=>none
def bZR:List PV->Option (List (ByteArray×Int))| [.tm l]=>some l| _=>none
def dec:(t:Ty)->List PV->Option t.den
 | .hnd sz,cs=>bG5 sz cs
 | .rows _,_=>none
 | .smap,cs=>bZR cs
 | .int k,cs=>bGE k cs
 | .bool,cs=>a6H cs
 | .str,cs=>bGJ cs
 | .list t,cs=>bF0 t (λcs=>dec t cs) cs
 | .prod a b,cs=>match dec a (cs.take a.size)with
  | some x=>match dec b (cs.drop a.size)with
   | some y=>some (x,y)
   | none=>none
  | none=>none
abbrev TN:=Option (List Bool×PV×Heap×Nat)
def a2P(H:Heap)(r:Nat):Option Tg:=match iN H r with|some k=>k.tag|none=>none
def aT7:Nat->Heap->Option (Nat×Blk)| _,[]=>none| r,none::H=>aT7 (r+1) H| r,some k::H=>match k.tag with| some ⟨.rows _,_⟩=>bif k.grown then aT7 (r+1) H else some (r,k)| _=>aT7 (r+1) H
def dZ {α:Type} (l:List (List α)) (j off:Nat) (d:α):α:=(l.getD j []).getD off d
def dG {α:Type}(l:List (List α))(j:Nat):Nat:=(l.getD j []).length
def DQ {α:Type}(l:List (List α))(j off:Nat)(x:α):List (List α):=l.set j ((l.getD j []).set off x)
def EW(P:Program)(H:Heap)(t:TypeId)(x:PV)(i:Int):TN :=
 match P.underlying t with
 | some (.slice e)=>match BL P e with
  | some n=>match x with
   | .tl ty l _ _=>bif Nat.beq n ty.size then some ([aE i l.length],bR3 ty l i.toNat 0,H,0) else none
   | .own r sz=>match a2P H r with
    | some g=>bif Nat.beq n sz&&Nat.beq sz g.t.size then some ([aE i g.l.length],.op r i.toNat 0 sz,H,1) else none
    | none=>none
   | .qs r sz=>match a2P H r with
    | some g=>bif Nat.beq n sz&&Nat.beq sz g.t.size then some ([aE i g.l.length],.op r i.toNat 0 sz,H,1) else none
    | none=>none
   | .win r lo m sz=>bif Nat.beq n sz then some ([aE i m],.op r (lo+i.toNat) 0 sz,H,0) else none
   | .row j lo m sz=>bif Nat.beq n sz then some ([aE i m],.rp j ((lo+i.toNat)*sz),H,0) else none
   | _=>none
  | none=>none
 | some (.array n e)=>match BL P e with
  | some sz=>match x with
   | .tp ty l j off _=>some ([aE i n],bR3 ty l j (off+i.toNat*sz),H,0)
   | _=>none
  | none=>none
 | _=>none
def QL(P:Program)(H:Heap)(s:TypeId)(f:Nat)(x:PV):TN :=
 match aW2 P s f with
 | some fd=>match BL P fd.type with
  | some (_+1)=>match x with
   | .tp t l i off _=>some ([],bR3 t l i (off+fd.offset),H,0)
   | .op r i off sz=>some ([],.op r i (off+fd.offset) sz,H,0)
   | _=>none
  | _=>none
 | none=>none
def a7P(P:Program)(H:Heap)(T:TypeId)(a:PV):TN :=
 match a with
 | .tp t l i off _=>match QU P T ((enc t (l.getD i t.bEW)).drop off)with
  | some v=>some ([],v,H,0)
  | none=>none
 | .op r i off sz=>match a2P H r with
  | some g=>bif Nat.beq sz g.t.size then match QU P T ((enc g.t (g.l.getD i g.t.bEW)).drop off)with
    | some v=>some ([Nat.blt i g.l.length],v,H,1)
    | none=>none
   else none
  | none=>none
 | .rp j off=>match aT7 0 H with
  | some (_,k)=>match k.tag with
   | some ⟨.rows t,l⟩=>bif Nat.beq t.size 1&&!Nat.beq k.ty aHV then match QU P T (enc t (dZ l j off t.bEW))with
     | some v=>some ([Nat.blt off (dG l j)],v,H,1)
     | none=>none
    else none
   | _=>none
  | none=>none
 | _=>none
def a1Y(P:Program)(H:Heap)(T:TypeId)(a v:PV):TN :=
 match a with
 | .op r i off sz=>match iN H r with
  | some k=>match k.tag with
   | some g=>match DO v,BL P T with
    | some new,some n=>bif Nat.beq new.length n&&Nat.beq sz g.t.size&&!k.frozen&&Nat.ble (off+n) sz&&new.all aDI then
      match dec g.t (aO4 (enc g.t (g.l.getD i g.t.bEW)) off new)with
      | some x=>some ([Nat.blt i g.l.length],.lit undef,H.set r (some { k with cells:=aI g.t (g.l.set i x),tag:=some ⟨g.t,g.l.set i x⟩ }),2)
      | none=>none
     else none
    | _,_=>none
   | none=>none
  | none=>none
 | .rp j off=>match aT7 0 H with
  | some (r,k)=>match k.tag with
   | some ⟨.rows t,l⟩=>match DO v,BL P T with
    | some new,some n=>bif Nat.beq new.length 1&&Nat.beq n 1&&Nat.beq t.size 1&&!Nat.beq k.ty aHV&&new.all aDI then
      match dec t new with
      | some x=>some ([Nat.blt off (dG l j)],.lit undef,H.set r (some { k with cells:=aI (.rows t) (DQ l j off x),tag:=some ⟨.rows t,DQ l j off x⟩ }),2)
      | none=>none
     else none
    | _,_=>none
   | _=>none
  | none=>none
 | _=>none
def bEX(P:Program)(H:Heap)(tys:Array TypeId)(x:PV):TN :=
 match tys.toList with
 | t::_=>match P.underlying t with
  | some (.slice _)=>match x with
   | .tl _ l _ _=>some ([],.lit (goInt l.length),H,0)
   | .own r _=>match a2P H r with
    | some g=>some ([],.lit (goInt g.l.length),H,1)
    | none=>none
   | .qs r _=>match a2P H r with
    | some g=>some ([],.lit (goInt g.l.length),H,1)
    | none=>none
   | .win _ _ n _=>some ([],.lit (goInt n),H,0)
   | .row _ _ n _=>some ([],.lit (goInt n),H,0)
   | _=>none
  | _=>none
 | _=>none
def aTC(x:Option PV) (d:Nat):Option (Bool×Nat) :=match x with| none=>some (true,d)| some (.lit (.int _ i))=>some (!ltI i 0,i.toNat)| _=>none
def a8X:Ty->Bool| .hnd _=>true| _=>false
def a5V(g:Tg) (H:Heap) (r sz:Nat) (lo hi:Option PV) (z:Bool):TN:=match aTC lo 0,aTC hi g.l.length with| some (b1,i),some (b2,j)=>bif z then some ([b1,b2,Nat.beq i 0,Nat.beq j 0],.own r sz,H,1) else some ([b1,b2,Nat.ble i j,Nat.ble j g.l.length,Nat.blt i g.l.length],.win r i (j-i) sz,H,1)| _,_=>none
def aL1(P:Program)(H:Heap)(t:TypeId)(x:PV)(lo hi:Option PV):TN :=
 match P.underlying t with
 | some (.slice e)=>match BL P e with
  | some n=>match x with
   | .tl ty l _ _=>bif Nat.beq n ty.size then match aTC lo 0,aTC hi l.length with
     | some (b1,i),some (b2,j)=>some ([b1,b2,Nat.ble i j,Nat.ble j l.length],zX ty ((l.drop i).take (j-i)) none,H,0)
     | _,_=>none
    else none
   | .own r sz=>match a2P H r with
    | some g=>bif Nat.beq n sz then a5V g H r sz lo hi (a8X g.t&&Nat.beq g.l.length 0) else none
    | none=>none
   | .win r l0 m sz=>bif Nat.beq n sz then match aTC lo 0,aTC hi m with
     | some (b1,i),some (b2,j)=>some ([b1,b2,Nat.ble i j,Nat.ble j m,Nat.blt i m],.win r (l0+i) (j-i) sz,H,0)
     | _,_=>none
    else none
   | .row r l0 m sz=>bif Nat.beq n sz then match aTC lo 0,aTC hi m with
     | some (b1,i),some (b2,j)=>some ([b1,b2,Nat.ble i j,Nat.ble j m],.row r (l0+i) (j-i) sz,H,0)
     | _,_=>none
    else none
   | _=>none
  | none=>none
 | _=>none
def aN5(P:Program) (H:Heap) (t:TypeId) (x:PV) (lo:Option PV) (hi mx:PV):TN :=
 match P.underlying t with
 | some (.slice e)=>match BL P e with
  | some n=>match x with
   | .tl ty l _ _=>bif Nat.beq n ty.size then match aTC lo 0,aTC (some hi) 0,aTC (some mx) 0 with
     | some (b1,i),some (b2,j),some (b3,m)=>some ([b1,b2,b3,Nat.ble i j,Nat.ble j m,Nat.ble m l.length],zX ty ((l.drop i).take (j-i)) (some (m-i)),H,0)
     | _,_,_=>none
    else none
   | _=>none
  | none=>none
 | _=>none
def bTG(H:Heap) (ty:Ty) (j lo n sz:Nat):Option (List ty.den):=match aT7 0 H with
 | some (_,k)=>match k.tag with
  | some ⟨.rows t,l⟩=>match KZ t ty (l.getD j [])with
   | some row=>bif Nat.beq sz ty.size&&!Nat.beq k.ty aHV then some ((row.drop lo).take n) else none
   | none=>none
  | _=>none
 | none=>none
def bAL(H:Heap)(x:PV):List Bool:=match x with
 | .row j lo n _=>match aT7 0 H with
  | some (_,k)=>match k.tag with
   | some ⟨.rows _,l⟩=>[Nat.ble (lo+n) (dG l j)]
   | _=>[false]
  | none=>[false]
 | _=>[]
def bXR(b:List Bool)(r:TN):TN:=match r with| some (cs,v,H,c)=>some (b++cs,v,H,c)| none=>none
def aTP(H:Heap) (ty:Ty) (x:PV):Option (List ty.den) :=
 match x with
 | .tl u l _ _=>KZ u ty l
 | .own r _=>match a2P H r with
  | some g=>KZ g.t ty g.l
  | none=>none
 | .lit (.slice none n _)=>bif Nat.beq n 0 then some [] else none
 | .vals cs n _=>KJ (dec ty) ty.size n cs
 | .win r lo n sz=>match a2P H r with
  | some g=>match KZ g.t ty g.l with
   | some l=>bif Nat.beq sz ty.size then some ((l.drop lo).take n) else none
   | none=>none
  | none=>none
 | .row j lo n sz=>bTG H ty j lo n sz
 | _=>none
def aZ2(H:Heap)(e:TypeId)(ty:Ty)(l:List ty.den)(cs:List Bool):TN :=some (cs,.own H.length ty.size,H++[some ⟨aI ty l,e,true,false,some ⟨ty,l⟩⟩],2)
def spl {α:Type} (l:List α) (i:Nat) (new:List α):List α:=l.take i++(new++l.drop (i+new.length))
def bZW(H:Heap):PV->Option (Nat×Nat×Nat×Nat)
 | .own r sz=>match a2P H r with
  | some g=>some (r,0,g.l.length,sz)
  | none=>none
 | .win r lo n sz=>some (r,lo,n,sz)
 | _=>none
def bZT(n:Nat):PV->PV| .win r lo m sz=>.win r lo (min m n) sz| .row ..=>.junk| p=>p
def bKN(P:Program)(H:Heap)(tys:Array TypeId)(s x:PV):TN :=
 match tys.toList with
 | t::_=>match OW P t with
  | some (e,ty)=>match bZW H s with
   | some (r,lo,n,sz)=>match iN H r with
    | some k=>match k.tag with
     | some g=>match KZ g.t ty g.l with
      | some l=>match aTP H ty (bZT n x)with
       | some new=>bif Nat.beq sz ty.size&&!k.frozen&&Nat.beq k.ty e then
         some ([Nat.blt 0 n,Nat.ble (lo+n) l.length,Nat.ble new.length n],.lit (goInt new.length),H.set r (some { k with cells:=aI ty (spl l lo new),tag:=some ⟨ty,spl l lo new⟩ }),2) else none
       | none=>none
      | none=>none
     | none=>none
    | none=>none
   | none=>none
  | none=>none
 | []=>none
def aYO(P:Program)(H:Heap)(tys:Array TypeId)(s x:PV):TN :=
 match tys.toList with
 | [t,u]=>match P.underlying u with
  | some (.int _)|none=>none
  | some _=>match OW P t with
   | some (e,ty)=>match P.info? e with
    | some i=>match i.zero with
     | some z=>bif Nat.ble i.bytes 65536&&Nat.beq z.cells.size i.size then match aTP H ty x with
      | some new=>match s with
       | .lit (.slice none m c)=>bif Nat.beq m 0&&Nat.beq c 0 then aZ2 H e ty new [Nat.ble new.length 1048576] else none
       | .own r sz=>match iN H r with
        | some k=>match k.tag with
         | some g=>match KZ g.t ty g.l with
          | some l=>bif Nat.beq sz ty.size&&!k.frozen&&Nat.beq k.ty e&&k.grown then aZ2 (H.set r none) e ty (l++new) [Nat.ble new.length 1048576,Nat.ble l.length 1048576] else none
          | none=>none
         | none=>none
        | none=>none
       | .win r lo n sz=>match iN H r with
        | some k=>match k.tag with
         | some g=>match KZ g.t ty g.l with
          | some l=>bif Nat.beq sz ty.size&&!k.frozen&&Nat.beq k.ty e then
            some ([Nat.ble (lo+n+new.length) l.length],.win r lo (n+new.length) sz,H.set r (some { k with cells:=aI ty (spl l (lo+n) new),tag:=some ⟨ty,spl l (lo+n) new⟩ }),2) else none
          | none=>none
         | none=>none
        | none=>none
       | .tl u l (some c) _=>match KZ u ty l with
        | some l=>aZ2 H e ty (l++new) [Nat.ble new.length 1048576,Nat.ble l.length 1048576,Nat.beq c 0||Nat.blt c (l.length+new.length)]
        | none=>none
       | _=>none
      | none=>none
      else none
     | none=>none
    | none=>none
   | none=>none
 | _=>none
def isQ:PV->Bool| .qs ..=>true| _=>false
def aX2(P:Program)(H:Heap)(t:TypeId)(x:PV)(lo hi:Option PV):TN :=
 match P.underlying t with
 | some (.slice e)=>match BL P e with
  | some n=>match x with
   | .qs r sz=>match iN H r with
    | some k=>match k.tag with
     | some g=>match aTC lo 0,aTC hi g.l.length with
      | some (b1,i),some (b2,j)=>bif Nat.beq n sz&&Nat.beq sz g.t.size&&!k.frozen&&k.grown then
        some ([b1,b2,Nat.ble i j,Nat.ble j g.l.length],.qs H.length sz,H.set r none++[some ⟨aI g.t ((g.l.drop i).take (j-i)),k.ty,true,false,some ⟨g.t,(g.l.drop i).take (j-i)⟩⟩],2) else none
      | _,_=>none
     | none=>none
    | none=>none
   | _=>none
  | none=>none
 | _=>none
def aR6(P:Program) (H:Heap) (tys:Array TypeId) (s x:PV):TN :=
 match tys.toList with
 | [t,u]=>match P.underlying u with
  | some (.int _)|none=>none
  | some _=>match OW P t with
   | some (e,ty)=>match P.info? e with
    | some i=>match i.zero with
     | some z=>bif Nat.ble i.bytes 65536&&Nat.beq z.cells.size i.size then match aTP H ty x with
      | some new=>match s with
       | .qs r sz=>match iN H r with
        | some k=>match k.tag with
         | some g=>match KZ g.t ty g.l with
          | some l=>bif Nat.beq sz ty.size&&!k.frozen&&Nat.beq k.ty e&&k.grown then
            some ([Nat.ble new.length 1048576,Nat.ble l.length 1048576],.qs H.length ty.size,H.set r none++[some ⟨aI ty (l++new),e,true,false,some ⟨ty,l++new⟩⟩],2) else none
          | none=>none
         | none=>none
        | none=>none
       | _=>none
      | none=>none
      else none
     | none=>none
    | none=>none
   | none=>none
 | _=>none
def bMK(H:Heap):PV->Option PV
 | .own r _=>match iN H r with
  | some k=>match k.tag with
   | some g=>bif k.frozen then some (zX g.t g.l none) else none
   | none=>none
  | none=>none
 | p=>bif eM p then some p else none
def bJ0(H:Heap):List PV->Option (List PV)
 | []=>some []
 | p::r=>match bMK H p with
  | some q=>match bJ0 H r with
   | some qs=>some (q::qs)
   | none=>none
  | none=>none
def XW(H:Heap):List (Nat×PV)->Option (List (Nat×PV))
 | []=>some []
 | (i,p)::r=>match inlT H p with
  | some q=>match XW H r with
   | some qs=>some ((i,q)::qs)
   | none=>none
  | none=>none
where inlT (H:Heap):PV->Option PV
 | .agg cs=>bif eM.noRefs cs then some (.agg cs) else match bJ0 H cs with
  | some qs=>some (.agg qs)
  | none=>none
 | p=>bMK H p
def bG9:List PV->List Nat| []=>[]| .own r _::l=>r::bG9 l| _::l=>bG9 l
def owns:List (Nat×PV)->List Nat| []=>[]|(_,.own r _)::l=>r::owns l|(_,.agg cs)::l=>bG9 cs++owns l| _::l=>owns l
def ZO(H:Heap)(r:Nat):Heap:=match iN H r with| some k=>bif k.frozen then H else H.set r (some { k with frozen:=true })| none=>H
def NC:Heap->List Nat->Heap| H,[]=>H| H,r::rs=>NC (ZO H r) rs
def a6D(P:Program) (H:Heap) (T:TypeId) (a v:PV):TN:=match v with
 | .own r s=>match bMK (NC H [r]) (.own r s)with
  | some q=>a1Y P (NC H [r]) T a q
  | none=>none
 | v=>a1Y P H T a v
def bGR(H:Heap) (sz r:Nat):Option (PV×Heap):=match aT7 0 H with
 | some (ra,k)=>match k.tag with
  | some ⟨.rows t,l⟩=>match iN H r with
   | some b=>match b.tag with
    | some g=>match KZ g.t t g.l with
     | some row=>bif !b.frozen&&b.grown&&Nat.beq b.ty k.ty&&!Nat.beq k.ty aHV&&Nat.beq t.size sz then
       some (.row l.length 0 row.length sz,((H.set r none).set ra none)++[some ⟨aI (.rows t) (l++[row]),k.ty,false,k.frozen,some ⟨.rows t,l++[row]⟩⟩])
      else none
     | none=>none
    | none=>none
   | none=>none
  | _=>none
 | none=>none
def aXV(F:Frm)(ty:Ty)(len:Nat)(parts:List (Nat×Operand)):Option (Nat×Nat):=match ty with
 | .hnd sz=>match parts with
  | [(0,x)]=>match ev F x with
   | .own r s=>bif Nat.beq len 1&&Nat.beq s sz then some (r,sz) else none
   | _=>none
  | _=>none
 | _=>none
def MF(P:Program)(F:Frm)(H:Heap)(t:TypeId)(len:Nat)(parts:List (Nat×Operand)):TN :=
 match OW P t with
 | some (e,ty)=>match N6 P e with
  | some z=>bif Nat.ble (len*ty.size) 16777216&&Nat.ble 1 z.cells.size then
   match aXV F ty len parts with
   | some (r,sz)=>match bGR H sz r with
    | some (q,H1)=>match aA7 (λi=>some (i*ty.size,ty.size)) (UK z (len*ty.size)) [(0,q)]with
     | some cs=>match KJ (dec ty) ty.size len cs with
      | some l=>some ([],zX ty l (some len),H1,2)
      | none=>none
     | none=>none
    | none=>none
   | none =>
   match owns (parts.map λp=>(p.1,ev F p.2))with
   | []=>match XW [] (parts.map λp=>(p.1,ev F p.2))with
    | some ps=>match aA7 (λi=>some (i*ty.size,ty.size)) (UK z (len*ty.size)) ps with
     | some cs=>match KJ (dec ty) ty.size len cs with
      | some l=>bif aRW bVB t then aZ2 H e ty l [] else some ([],zX ty l (some len),H,0)
      | none=>none
     | none=>none
    | none=>none
   | r::rs=>match NC H (r::rs)with
    | H1=>match XW H1 (parts.map λp=>(p.1,ev F p.2))with
     | some ps=>match aA7 (λi=>some (i*ty.size,ty.size)) (UK z (len*ty.size)) ps with
      | some cs=>match KJ (dec ty) ty.size len cs with
       | some l=>bif aRW bVB t then aZ2 H1 e ty l [] else some ([],zX ty l (some len),H1,2)
       | none=>none
      | none=>none
     | none=>none
   else none
  | none=>none
 | none=>none
def aHC(P:Program)(H:Heap)(t:TypeId)(l c:PV):TN :=
 match OW P t,l,c with
 | some (e,ty),.lit (.int _ l),.lit (.int _ c)=>match P.info? e with
  | some i=>match i.zero with
   | some z=>match dec ty (lits z.cells)with
    | some d=>bif Nat.ble i.bytes 65536&&Nat.beq z.cells.size i.size then
      some ([!ltI l 0,!ltI c l,!ltI 1048576 c],.own H.length ty.size,H++[some ⟨aI ty (List.replicate l.toNat d),e,true,false,some ⟨ty,List.replicate l.toNat d⟩⟩],2)
     else none
    | none=>none
   | none=>none
  | none=>none
 | _,_,_=>none
def clr {α:Type} (l:List α) (lo n:Nat) (d:α):List α:=l.take lo++(List.replicate n d++l.drop (lo+n))
def a9Z(P:Program)(H:Heap)(tys:Array TypeId)(x:PV):TN :=
 match tys.toList with
 | t::_=>match OW P t with
  | some (e,_)=>match N6 P e with
   | some z=>match x with
    | .win r lo n sz=>match iN H r with
     | some k=>match k.tag with
      | some g=>match dec g.t (lits z.cells)with
       | some d=>bif Nat.beq sz g.t.size&&Nat.beq z.cells.size sz&&!k.frozen&&(lits z.cells).all aDI then
         some ([Nat.ble (lo+n) g.l.length],.tuple [],H.set r (some { k with cells:=aI g.t (clr g.l lo n d),tag:=some ⟨g.t,clr g.l lo n d⟩ }),2) else none
       | none=>none
      | none=>none
     | none=>none
    | _=>none
   | none=>none
  | none=>none
 | _=>none
def bBJ(P:Program) (H:Heap) (t:TypeId) (op:BinOp) (x y:PV):TN :=
 match P.underlying t with
 | some (.slice _)=>match y with
  | .lit (.slice none _ _)=>match x with
   | .tl _ l _ _=>match op with
    | .eql=>some ([Nat.blt 0 l.length],.lit (.bool false),H,0)
    | .neq=>some ([Nat.blt 0 l.length],.lit (.bool true),H,0)
    | _=>none
   | .win _ _ _ _=>match op with
    | .eql=>some ([],.lit (.bool false),H,0)
    | .neq=>some ([],.lit (.bool true),H,0)
    | _=>none
   | _=>none
  | _=>none
 | _=>none
def b02(x y:PV):Bool:=match x,y with| .tl ..,.lit (.slice none _ _)=>true| .win ..,.lit (.slice none _ _)=>true| _,_=>false
def isS:PV->Bool| .lit (.string _)=>true| _=>false
def eqS(a b:ByteArray):Bool:=a.data.toList==b.data.toList
def ltS(a b:ByteArray):Bool:=Op.bytesLess a.data.toList b.data.toList
def bA6(s:ByteArray)(i:Nat):Int:=match s[i]? with| some b=>b.toNat| none=>0
def b24(op:BinOp)(a b:ByteArray):Option (List Bool×Value):=match op with| .add=>some ([Nat.ble (a.size+b.size) 9223372036854775807],.string (a++b))| .eql=>some ([],.bool (eqS a b))| .neq=>some ([],.bool (!eqS a b))| .lss=>some ([],.bool (ltS a b))| .leq=>some ([],.bool (ltS a b||eqS a b))| .gtr=>some ([],.bool (!(ltS a b||eqS a b)))| .geq=>some ([],.bool (!ltS a b))| _=>none
def bLD(H:Heap)(r:Option (List Bool×Value)):TN:=match r with| some (cs,v)=>some (cs,.lit v,H,0)| none=>none
def b0P(P:Program)(t:TypeId)(x i:PV):Option (List Bool×Value):=match P.underlying t,x,i with| some .string,.lit (.string s),.lit (.int _ i)=>some ([aE i s.size],.int .u8 (bA6 s i.toNat))| _,_,_=>none
def bNY(P:Program)(t:TypeId)(x:PV)(lo hi:Option PV):Option (List Bool×Value):=match P.underlying t,x with
 | some .string,.lit (.string s)=>match aTC lo 0,aTC hi s.size with
  | some (b1,i),some (b2,j)=>some ([b1,b2,Nat.ble i j,Nat.ble j s.size],.string (s.extract i j))
  | _,_=>none
 | _,_=>none
def b0O(op:BinOp)(x y:PV):Option (List Bool×Value):=match x,y with| .lit (.string a),.lit (.string b)=>b24 op a b| _,_=>none
def b21(P:Program)(t:TypeId):Bool:=match P.underlying t with
 | some (.map k e)=>match P.underlying k with
  | some .string=>match N6 P e with
   | some (.bool false)=>true
   | _=>false
  | _=>false
 | _=>false
def b2F:PV->Bool| .mp _=>true| _=>false
def aZA(P:Program)(H:Heap)(t:TypeId):TN:=none
def getM:List (ByteArray×Int)->ByteArray->Int| [],_=>0| x::r,s=>bif eqS x.1 s then x.2 else getM r s
def YH:List (ByteArray×Int)->ByteArray->Bool| [],_=>false| x::r,s=>bif eqS x.1 s then true else YH r s
def bAA(P:Program)(t:TypeId):Bool:=match P.underlying t with
 | some (.map k e)=>match P.underlying k with
  | some .string=>match N6 P e with
   | some (.int .i64 z)=>eqI z 0
   | _=>false
  | _=>false
 | _=>false
def b3Q:PV->Bool| .tm _=>true| _=>false
def aH2(P:Program)(H:Heap)(t:TypeId)(m k:PV):TN:=match m,k with| .tm l,.lit (.string s)=>bif bAA P t then some ([],.tuple [.lit (.int .i64 (getM l s)),.lit (.bool (YH l s))],H,0) else none| _,_=>none
def a5Y(P:Program)(H:Heap)(t:TypeId)(m k:PV):TN:=none
def a6K(P:Program)(H:Heap)(t:TypeId)(m k v:PV):TN:=none
def isT:PV->Bool| .tl ..|.own ..|.win ..|.row ..|.qs ..=>true| _=>false
def bBV:PV->Bool| .tp ..|.op ..|.rp ..=>true| _=>false
def b0L:PV->Bool| .tl ..|.own ..|.win ..|.qs ..|.lit (.slice none _ _)=>true| _=>false
def isConst:Operand->Bool| .const _=>true| _=>false
def b1W(P:Program) (t:TypeId):Bool:=match OW P t with| some (_,.list _)=>true| _=>false
def isLen(P:Program) (tys:Array TypeId):Bool:=match tys.toList with
 | [_,u]=>match P.underlying u with
  | some (.int _)=>true
  | _=>false
 | _=>false
def aRS(P:Program)(H:Heap)(tys:Array TypeId)(s x:PV):TN:=match tys.toList,x with
 | [t,_],.lit (.int _ n)=>match OW P t with
  | some (e,ty)=>match P.info? e with
   | some i=>match i.zero with
    | some z=>match dec ty (lits z.cells)with
     | some d=>bif Nat.ble i.bytes 65536&&Nat.beq z.cells.size i.size&&Nat.ble 1 i.size then match s with
      | .own r sz=>match iN H r with
       | some k=>match k.tag with
        | some g=>match KZ g.t ty g.l with
         | some l=>bif Nat.beq sz ty.size&&!k.frozen&&Nat.beq k.ty e&&k.grown then aZ2 (H.set r none) e ty (l++List.replicate n.toNat d) [!ltI n 0,!ltI 1048576 n,Nat.ble l.length 1048576] else none
         | none=>none
        | none=>none
       | none=>none
      | .lit (.slice none m c)=>bif Nat.beq m 0&&Nat.beq c 0 then aZ2 H e ty (List.replicate n.toNat d) [!ltI n 0,!ltI 1048576 n] else none
      | _=>none
      else none
     | none=>none
    | none=>none
   | none=>none
  | none=>none
 | _,_=>none
def aLK(s:ByteArray):List Int:=s.data.toList.map λb=>(b.toNat:Int)
def a7M(l:List Int):ByteArray:=l.foldl (λr n=>r.push (UInt8.ofNat n.toNat)) ByteArray.empty
def b0H(P:Program)(e:TypeId):Bool:=match P.underlying e with| some (.int .u8)=>true| _=>false
def bU0(P:Program)(t:TypeId):Bool:=match P.underlying t with| some (.slice e)=>b0H P e| _=>false
def bZF(P:Program)(t:TypeId):Bool:=match P.underlying t with| some .string=>true| _=>false
def bJO(P:Program)(H:Heap)(s d:TypeId)(x:PV):TN:=match x with
 | .lit (.string b)=>bif bZF P s&&bU0 P d then some ([],zX (.int .u8) (aLK b) none,H,0) else none
 | .own r _=>bif bU0 P s&&bZF P d then match a2P H r with
   | some g=>match KZ g.t (.int .u8) g.l with
    | some l=>some ([],.lit (.string (a7M l)),H,1)
    | none=>none
   | none=>none
  else none
 | _=>none
def typed(P:Program)(F:Frm)(o:Oper):Bool :=
 match o.op with
 | .indexAddr _ x _=>isT (ev F x)||bBV (ev F x)
 | .fieldAddr _ x _=>bBV (ev F x)
 | .load _ a=>bBV (ev F a)
 | .store _ a _=>bBV (ev F a)
 | .nilCheck x=>bBV (ev F x)
 | .slice _ x _ _ none=>isT (ev F x)||isS (ev F x)
 | .slice _ x _ (some _) (some _)=>isT (ev F x)
 | .index _ x _=>isS (ev F x)
 | .makeMap t none=>b21 P t
 | .lookup _ m _ false=>b2F (ev F m)
 | .lookup _ m _ true=>b3Q (ev F m)
 | .mapUpdate _ m _ _=>b2F (ev F m)
 | .buildSlice t _ _=>(OW P t).isSome
 | .makeSlice t l _=>(OW P t).isSome&&!(isConst l&&b1W P t)
 | .convert _ d x=>isT (ev F x)||(isS (ev F x)&&bU0 P d)
 | .binOp _ _ x y _=>b02 (ev F x) (ev F y)||(isS (ev F x)&&isS (ev F y))
 | .call c=>match c.callee with
  | .builtin .len=>isT (ev F (c.args.getD 0 (.const undef)))
  | .builtin .clear=>isT (ev F (c.args.getD 0 (.const undef)))
  | .builtin .copy=>isT (ev F (c.args.getD 0 (.const undef)))
  | .builtin .append=>match c.args.toList,c.argTypes.toList with
   | [s,_],t::_=>b0L (ev F s)&&(OW P t).isSome
   | _,_=>false
  | _=>false
 | _=>false
def top(P:Program)(F:Frm)(H:Heap)(o:Oper):TN :=
 match o.op with
 | .indexAddr t x i=>match ev F i with
  | .lit (.int _ i)=>EW P H t (ev F x) i
  | _=>none
 | .fieldAddr s x f=>QL P H s f (ev F x)
 | .load T a=>a7P P H T (ev F a)
 | .store T a v=>a6D P H T (ev F a) (ev F v)
 | .nilCheck x=>some ([],ev F x,H,0)
 | .slice t x lo hi none=>bif isS (ev F x) then bLD H (bNY P t (ev F x) (lo.map (ev F)) (hi.map (ev F))) else bif isQ (ev F x) then aX2 P H t (ev F x) (lo.map (ev F)) (hi.map (ev F)) else aL1 P H t (ev F x) (lo.map (ev F)) (hi.map (ev F))
 | .slice t x lo (some hi) (some mx)=>aN5 P H t (ev F x) (lo.map (ev F)) (ev F hi) (ev F mx)
 | .index t x i=>bLD H (b0P P t (ev F x) (ev F i))
 | .makeMap t none=>aZA P H t
 | .lookup t m k false=>a5Y P H t (ev F m) (ev F k)
 | .lookup t m k true=>aH2 P H t (ev F m) (ev F k)
 | .mapUpdate t m k v=>a6K P H t (ev F m) (ev F k) (ev F v)
 | .buildSlice t n parts=>MF P F H t n parts.toList
 | .makeSlice t l c=>aHC P H t (ev F l) (ev F c)
 | .convert s d x=>bJO P H s d (ev F x)
 | .binOp op t x y _=>bif isS (ev F x) then bLD H (b0O op (ev F x) (ev F y)) else bBJ P H t op (ev F x) (ev F y)
 | .call c=>match c.callee with
  | .builtin .len=>match c.args.toList with
   | [x]=>bEX P H c.argTypes (ev F x)
   | _=>none
  | .builtin .append=>match c.args.toList with
   | [s,x]=>bif isLen P c.argTypes then aRS P H c.argTypes (ev F s) (ev F x) else bXR (bAL H (ev F x)) (bif isQ (ev F s) then aR6 P H c.argTypes (ev F s) (ev F x) else aYO P H c.argTypes (ev F s) (ev F x))
   | _=>none
  | .builtin .clear=>match c.args.toList with
   | [x]=>a9Z P H c.argTypes (ev F x)
   | _=>none
  | .builtin .copy=>match c.args.toList with
   | [s,x]=>bKN P H c.argTypes (ev F s) (ev F x)
   | _=>none
  | _=>none
 | _=>none
def J7:List Bool->Bool| []=>true| b::r=>bif b then J7 r else false
def opx(P:Program) (cl:Callee) (F:Frm) (H:Heap) (o:Oper):Option (PV×Heap×Nat) :=bif typed P F o then match top P F H o with| some (cs,v,H',c)=>bif J7 cs then some (v,H',c) else none| none=>none else opu P cl F H o
def FA:∀ t x,(enc t x).length=t.size| .hnd _,_=>rfl| .rows _,_=>rfl| .smap,_=>rfl| .int _,_=>rfl| .bool,_=>rfl| .str,_=>rfl| .list _,_=>rfl| .prod a b,(x,y)=>by simp only[enc,oH,FA a x,FA b y,Ty.size]
def aKZ:∀ {a b},eM.noRefs a=true->eM.noRefs b=true->eM.noRefs (a++b)=true
 | [],_,_,h=>h
 | p::a,b,h,k=>by
  simp only[List.cons_append,eM.noRefs,oA]at h ⊢;exact⟨h.1,aKZ h.2 k⟩
def aF7:∀ t x,eM.noRefs (enc t x)=true| .hnd _,_=>rfl| .rows _,_=>rfl| .smap,_=>rfl| .int _,_=>rfl| .bool,_=>rfl| .str,_=>rfl| .list _,_=>rfl| .prod a b,(x,y)=>aKZ (aF7 a x) (aF7 b y)
def yT t x l:aI t (x::l)=enc t x++aI t l:=by rfl
def uA t l m:aI t (l++m)=aI t l++aI t m:=by simp[aI]
def bG t:∀ l ,(aI t l).length=l.length*t.size
 | []=>by simp[aI]
 | x::l=>by rw[yT,oH,FA,bG t l,List.length_cons,Nat.add_mul]; omega
def lB t:∀ l ,eM.noRefs (aI t l)=true| []=>rfl| x::l=>aKZ (aF7 t x) (lB t l)
def BI t:∀ i l,(aI t l).drop (i*t.size)=aI t (l.drop i)
 | 0,l=>R
 | i+1,[]=>by simp[aI]
 | i+1,x::l=>by
  rw[yT,List.drop_succ_cons,Nat.add_mul,Nat.one_mul,Nat.add_comm,<- List.drop_drop,List.drop_left' (FA t x)];exact BI t i l
def yV t:∀ i l,(aI t l).take (i*t.size)=aI t (l.take i)
 | 0,l=>by simp[aI]
 | i+1,[]=>by simp[aI]
 | i+1,x::l=>by
  rw[yT,List.take_succ_cons,yT,List.take_append,FA,List.take_of_length_le (by rw[FA,Nat.add_mul]; simp)]
  congr 1
  have:(i+1)*t.size-t.size=i*t.size:=W
  rw[this];exact yV t i l
def a2C t {l i}(h:i<l.length) off:∃ rest,(aI t l).drop (i*t.size+off)=(enc t (l.getD i t.bEW)).drop off++rest:=by
 have hd :=List.drop_eq_getElem_cons h;have a:l.getD i t.bEW=l[i]:=W
 rw[<- List.drop_drop,BI,hd,yT,a,List.drop_append];simp
section
variable {P:Program} {n0:Nat->Prop} {w:World} {G:Gd} {μ:Mp} {H:Heap}
def aPK {T a v} b (h:QU P T a=some v):QU P T (a++b)=some v:=by
 unfold QU at h ⊢;split at h
 ·split at h
  next n hn=>
   cases c:Nat.ble n a.length with
   | false=>grind
   | true =>
    have hle:=oL c;have:Nat.ble n (a++b).length=true:=Nat.ble_eq_true_of_le W;grind
  omega
 grind;omega
def aKC {t l cap e v}(h:VR w G μ (.tl t l cap e) v):VR w G aH (.vals (aI t l) l.length cap) v:=by
 obtain⟨a,rfl⟩:=h;omega
def aOS {t l cap v}(h:VR w G aH (.vals (aI t l) l.length cap) v):VR w G μ (zX t l cap) v:=by exact⟨h,rfl⟩
def bQP {cs n cap v}(h:VR w G aH (.vals cs n cap) v):VR w G aH (.vals cs n none) v:=by
 have⟨ao,c,b,a,_,d⟩:=h;exact⟨ao,c,b,a,λk e=>W,d⟩
def aT.vK {b off:Nat} {ps:List PV} {vs:List Value} (h:VRs w G μ ps vs) (d:∀ i (hi:i<vs.length),w.cell? ⟨b,off+i,none⟩=some vs[i]):aT w G μ b off ps :=
 aT.mk λi p hp=>by
  have⟨v,c,a⟩:=h.get hp;grind
def aBD {α f g sz}(a:∀ cs x vs,f cs=some x->VRs w G μ cs vs->VRs w G aH (g x) vs):∀ {n cs} {l:List α} {vs},KJ f sz n cs=some l->VRs w G μ cs vs->VRs w G aH (l.flatMap g) vs/\l.length=n
 | 0,[],l,vs,h,hv=>by
  simp only[KJ,oJ]at h;subst h;subst hv;exact⟨by rfl,rfl⟩
 | 0,_::_,l,vs,h,hv=>by cases h
 | n+1,cs,l,vs,h,hv=>by
  simp only[KJ]at h;split at h
  next x b=>
   split at h
   ·rename_i j d;simp only[oJ]at h;subst h;have c:=a _ x _ b (hv.take sz);have⟨e,i⟩:=aBD a d (hv.drop sz);have:=c.append e
    simp_all
   grind
  grind
def bX9 {a b l l'}(h:KZ a b l=some l') cap {v}(c:VR w G aH (.vals (aI a l) l.length cap) v):VR w G aH (.vals (aI b l') l'.length cap) v:=by
 obtain⟨rfl,rfl⟩:=mL h;omega
def aAO {p vs}(a:VRs w G μ [p] vs):∃ v,vs=[v]/\VR w G μ p v:=by
 obtain⟨v,xs,rfl,c,b⟩:=a;subst b;grind
def aSD {k cs n}(h:bGE k cs=some n):cs=[.lit (.int k n)]:=by
 unfold bGE at h;split at h
 next d m=>
  cases a:aCZ k d with
  | false=>grind
  | true =>
   rw[a]at h;simp only[oC,oJ]at h;rw[aTH a,h]
 grind
def aPN {cs b}(h:a6H cs=some b):cs=[.lit (.bool b)]:=by
 unfold a6H at h;grind
def aRI {cs b}(h:bGJ cs=some b):cs=[.lit (.string b)]:=by
 unfold bGJ at h;grind
def bOC {t f}(o:∀ μ cs x vs,f cs=some x->VRs w G μ cs vs->VRs w G aH (enc t x) vs){cs l vs}(h:bF0 t f cs=some l)(a:VRs w G μ cs vs) :
  ∃ v,vs=[v]/\VR w G aH (.vals (aI t l) l.length none) v:=by
 unfold bF0 at h;split at h;rename_i u y cap e;obtain⟨v,rfl,d⟩:=aAO a;exact⟨v,rfl,bQP (bX9 h cap (aKC d))⟩
 next n c=>
  obtain⟨v,rfl,d⟩:=aAO a;cases hn:Nat.beq n 0 with
  | false=>rw[hn]at h; cases h
  | true =>
   rw[hn]at h;simp only[oC,oJ]at h;subst h;have hn:=oE hn;subst hn;refine⟨v,rfl,?_⟩;exact⟨none,c,d,Nat.zero_le _,λk i=>(by cases i),.inl rfl⟩
 rename_i cs n cap;obtain⟨v,rfl,d⟩:=aAO a;obtain⟨ao,c,rfl,s,_,q⟩:=d;refine⟨_,rfl,?_⟩;rcases q with rfl|⟨b,off,rfl,hg,hc⟩;have⟨m,j⟩:=aBD (g:=enc t) (λcs x vs h a=>o aH cs x vs h a) h (vs:=[]) (by rw[VRs]);refine⟨ao,c,by rw[j],by omega,λk i=>(by cases i),.inl ?_⟩;have:=m.length;exact List.eq_nil_of_length_eq_zero this;have⟨us,m,j⟩:=hc.values;have⟨r,p⟩:=aBD (g:=enc t) (λcs x vs h a=>o aH cs x vs h a) h m;exact⟨_,c,by rw[p],by omega,λk i=>(by cases i),.inr ⟨b,off,rfl,hg,aT.vK r j⟩⟩;cases h
def a0W {sz μ cs x vs}(h:bG5 sz cs=some x)(hv:VRs w G μ cs vs):VRs w G aH [.row x.1 x.2.1 x.2.2 sz] vs:=by
 unfold bG5 at h;split at h
 next j lo n s=>
  cases hb:Nat.beq s sz with
  | false=>grind
  | true =>
  rw[hb]at h;have hb:=oE hb;subst hb;simp only[oC,oJ]at h;subst h;exact cZ _ _ rfl hv
 next n c=>
  cases hb:Nat.beq n 0 with
  | false=>grind
  | true =>
  rw[hb]at h;have hb:=oE hb;subst hb;simp only[oC,oJ]at h;subst h;obtain⟨v,us,h1,h2,h3⟩:=hv;refine⟨v,us,h1,?_,h3⟩;exact⟨none,c,h2,Nat.zero_le _,.inl rfl⟩
 ·cases h
def JN:∀ t μ cs x vs,dec t cs=some x->VRs w G μ cs vs->VRs w G aH (enc t x) vs
 | .hnd sz,μ,cs,x,vs,h,c=>by exact a0W h c
 | .rows t,μ,cs,x,vs,h,c=>by cases h
 | .smap,μ,cs,x,vs,h,c=>by
  rw[dec]at h;unfold bZR at h;split at h
  ·cases h; exact cZ _ _ rfl c
  ·cases h
 | .int k,μ,cs,x,vs,h,c=>by
  rw[aSD h]at c;exact cZ _ _ rfl c
 | .bool,μ,cs,x,vs,h,c=>by
  rw[aPN h]at c;exact cZ _ _ rfl c
 | .str,μ,cs,x,vs,h,c=>by
  rw[aRI h]at c;exact cZ _ _ rfl c
 | .list t,μ,cs,x,vs,h,c=>by
  obtain⟨v,rfl,d⟩:=bOC (λμ cs x vs h c=>JN t μ cs x vs h c) h c;simp only[enc];exact⟨_,[],rfl,by rw[VR]; exact⟨d,rfl⟩,by rw[VRs]⟩
 | .prod a b,μ,cs,(x,y),vs,h,c=>by
  rw[dec]at h;split at h
  next j e=>
   split at h
   next i g=>obtain⟨rfl,rfl⟩:=h;have d:=JN a μ _ _ _ e (c.take a.size);have f:=JN b μ _ _ _ g (c.drop a.size);have:=d.append f;rw[List.take_append_drop]at this;simpa only[enc]using this
   ·cases h
  ·cases h
end
def a6U:∀ {a b},J7 (a++b)=true->J7 a=true/\J7 b=true
 | [],_,h=>⟨rfl,h⟩
 | x::a,b,h=>by
  cases x with
  | false=>exact absurd h (by simp[J7])
  | true=>exact⟨(a6U (a:=a) h).1,(a6U (a:=a) h).2⟩
def bDG {b r cs v H' c}(h:bXR b r=some (cs,v,H',c)):∃ c0,r=some (c0,v,H',c)/\cs=b++c0:=by
 unfold bXR at h;grind
def aW {b r}(h:J7 (b::r)=true):b=true/\J7 r=true:=by
 cases b with
 | true=>exact⟨rfl,h⟩;| false=>cases h
def gE {m n}(h:Nat.blt m n=true):m<n:=by simp_all
section
variable {P:Program} {n0:Nat->Prop} {w:World} {G:Gd} {μ:Mp} {H:Heap}
def OM {r g}(h:a2P H r=some g):∃ k,iN H r=some k/\k.tag=some g:=by
 unfold a2P at h;grind
def yP {α:Type}{b x}{y:α}(h:(bif b then x else none)=some y):b=true/\x=some y:=W
def aTM:∀ {H r0 r k},aT7 r0 H=some (r,k)->∃ i,r=r0+i/\H[i]?=some (some k)/\k.grown=false
 | [],_,_,_,h=>by cases h
 | none::H,r0,r,k,h=>by
  have⟨i,c,b,a⟩:=aTM (H:=H) h;exact⟨i+1,by omega,by simp_all,a⟩
 | some k0::H,r0,r,k,h=>by
  have next:aT7 (r0+1) H=some (r,k)->∃ i,r=r0+i/\(some k0::H)[i]?=some (some k)/\k.grown=false:=λh=>by
   have⟨i,c,b,a⟩:=aTM h;exact⟨i+1,by omega,by grind,a⟩
  simp only[aT7]at h;split at h
  ·cases d:k0.grown with
   | true=>grind
   | false =>
    simp_all
  ·grind
def aSG {H r k}(h:aT7 0 H=some (r,k)):H[r]?=some (some k)/\k.grown=false:=by
 have⟨i,b,a,c⟩:=aTM h;grind
def a4R {α}{l:List (List α)}{j off}(h:off<dG l j):∃ row,l[j]?=some row/\off<row.length/\l.getD j []=row:=by
 unfold dG at h;grind
def a1K(M:aX n0 G μ H w){t p v x k i cs H' c}(hp:VR w G μ p x)(h:EW P H t p i=some (cs,v,H',c))(f:J7 cs=true) :
  H'=H/\∃ v',(Instr.indexAt t x (.int k i)).run P w=.ok v' w/\VR w G μ v v':=by
 unfold EW at h;split at h
 next e hu=>
  split at h
  next n u=>
   split at h
   ·rename_i ty l cap O;cases a:Nat.beq n ty.size with
    | false=>rw[a]at h; cases h
    | true =>
     rw[a]at h;obtain⟨rfl,rfl,rfl,rfl⟩:=h;refine⟨rfl,?_⟩;have a:=oE a;subst a;have hi:=HQ (aW f).1;have N:=aKC hp;rw[VR]at N;obtain⟨ao,c',rfl,C,-,q⟩:=N;have I:i.toNat<l.length:=Z
     rcases q with q|⟨b,off,rfl,A,J⟩
     ·have:=bG ty l;rw[q,List.length_nil]at this;have hp:=ty.size_pos;have:0<l.length*ty.size:=Nat.mul_pos Z hp;omega
     ·refine⟨.pointer (some ⟨b,off+i.toNat*ty.size,none⟩),?_,?_⟩
      ·simp[Instr.indexAt,asIntOf,run_underlying hu,hi.1,hi.2,run_sizeOf u,Addr.add_lit]
      ·unfold bR3;rw[VR];refine⟨?_,rfl,I⟩;rw[VR];exact⟨b,_,rfl,A,by rw[Nat.add_zero]; exact J.drop _⟩
   ·rename_i r sz;split at h
    ·rename_i g A;cases a:(Nat.beq n sz&&Nat.beq sz g.t.size)with
     | false=>rw[a]at h; cases h
     | true =>
      rw[a]at h;simp only[oC,oJ,oP]at h;obtain⟨rfl,rfl,rfl,rfl⟩:=h;refine⟨rfl,?_⟩;simp only[oA]at a;have d:=oE a.1;subst d;have hi:=HQ (aW f).1;have⟨F,z,y⟩:=OM A;have⟨E,B⟩:=M.tags r F g (aG z) y;rw[VR]at hp;have⟨m,s,C⟩:=hp;rw[B]at s;cases s;rcases C with ⟨C,_⟩|⟨b,c',q,rfl,K,L⟩
      ·omega
      ·refine⟨.pointer (some ⟨b,μ.sh r+i.toNat*n,none⟩),?_,?_⟩
       ·simp[Instr.indexAt,asIntOf,run_underlying hu,hi.1,hi.2,run_sizeOf u,Addr.add_lit]
       ·rw[VR];exact⟨b,q,by simp⟩
    cases h
   ·rename_i r sz;split at h
    ·rename_i g A;cases a:(Nat.beq n sz&&Nat.beq sz g.t.size)with
     | false=>rw[a]at h; cases h
     | true =>
      rw[a]at h;simp only[oC,oJ,oP]at h;obtain⟨rfl,rfl,rfl,rfl⟩:=h;refine⟨rfl,?_⟩;simp only[oA]at a;have d:=oE a.1;subst d;have hi:=HQ (aW f).1;have⟨F,z,y⟩:=OM A;have⟨E,B⟩:=M.tags r F g (aG z) y;rw[VR]at hp;have⟨m,s,C⟩:=hp;rw[B]at s;cases s;rcases C with ⟨C,_⟩|⟨b,c',q,rfl,K,L⟩
      ·omega
      ·refine⟨.pointer (some ⟨b,μ.sh r+i.toNat*n,none⟩),?_,?_⟩
       ·simp[Instr.indexAt,asIntOf,run_underlying hu,hi.1,hi.2,run_sizeOf u,Addr.add_lit]
       ·rw[VR];exact⟨b,q,by simp⟩
    cases h
   rename_i r lo m sz;have⟨a,h⟩:=yP h;simp only[oJ,oP]at h;obtain⟨rfl,rfl,rfl,rfl⟩:=h;refine⟨rfl,?_⟩;have d:=oE a;subst d;have hi:=HQ (aW f).1;rw[VR]at hp;obtain⟨b,c',_,q,rfl,K,L,_⟩:=hp;refine⟨.pointer (some ⟨b,μ.sh r+lo*n+i.toNat*n,none⟩),?_,?_⟩;simp[Instr.indexAt,asIntOf,run_underlying hu,hi.1,hi.2,run_sizeOf u,Addr.add_lit];rw[VR];exact⟨b,q,by rw[Nat.add_mul,Nat.add_zero,Nat.add_assoc]⟩;rename_i j lo m sz;have⟨a,h⟩:=yP h;simp only[oJ,oP]at h;obtain⟨rfl,rfl,rfl,rfl⟩:=h;refine⟨rfl,?_⟩;have d:=oE a;subst d;have hi:=HQ (aW f).1;rw[VR]at hp;obtain⟨ao,c',rfl,q,D⟩:=hp;rcases D with D|⟨b,D,rfl,_⟩;omega;refine⟨.pointer (some ⟨b,lo*n+i.toNat*n,none⟩),?_,?_⟩;simp[Instr.indexAt,asIntOf,run_underlying hu,hi.1,hi.2,run_sizeOf u,Addr.add_lit];rw[VR];exact⟨b,D,by rw[Nat.add_mul]⟩;cases h
  cases h
 rename_i n e hu;split at h;rename_i sz u;split at h;rename_i ty l j off O;simp only[oJ,oP]at h;obtain⟨rfl,rfl,rfl,rfl⟩:=h;refine⟨rfl,?_⟩;have hi:=HQ (aW f).1;rw[VR]at hp;obtain⟨s,rfl,q⟩:=hp;rw[VR]at s;obtain⟨b,o,rfl,A,J⟩:=s;refine⟨.pointer (some ⟨b,o+i.toNat*sz,none⟩),?_,?_⟩;simp[Instr.indexAt,asIntOf,run_underlying hu,hi.1,hi.2,run_sizeOf u,Addr.add_lit,Instr.sureAddr];unfold bR3;rw[VR];refine⟨?_,rfl,q⟩;rw[VR];refine⟨b,_,rfl,A,?_⟩;have:=J.drop (i.toNat*sz);rwa[List.drop_drop,Nat.add_assoc]at this;cases h;cases h;cases h
def a2S {s f p v x cs H' c}(hp:VR w G μ p x)(h:QL P H s f p=some (cs,v,H',c)):H'=H/\c=0/\∃ v',(Instr.fieldAt s x f).run P w=.ok v' w/\VR w G μ v v':=by
 unfold QL aW2 at h;split at h;rename_i fd a;split at a;rename_i q hu;split at h;rename_i n g;split at h;rename_i t l i off e;obtain⟨rfl,rfl,rfl,rfl⟩:=h;refine⟨rfl,rfl,?_⟩;obtain⟨d,rfl,j⟩:=hp;obtain⟨b,o,rfl,k,m⟩:=d;refine⟨.pointer (some ⟨b,o+fd.offset,none⟩),?_,?_⟩;simp[Instr.fieldAt,run_underlying hu,a,Instr.sureAddr,fieldPlace,run_sizeOf g,Addr.add_lit];unfold bR3;refine⟨?_,rfl,j⟩;refine⟨b,_,rfl,k,?_⟩;have:=m.drop fd.offset;rwa[List.drop_drop,Nat.add_assoc]at this;rename_i r i off sz;obtain⟨rfl,rfl,rfl,rfl⟩:=h;refine⟨rfl,rfl,?_⟩;obtain⟨b,d,rfl⟩:=hp;refine⟨.pointer (some ⟨b,μ.sh r+(i*sz+off)+fd.offset,none⟩),?_,?_⟩;simp[Instr.fieldAt,run_underlying hu,a,Instr.sureAddr,fieldPlace,run_sizeOf g,Addr.add_lit];rw[VR];grind;cases h;cases h;cases a;cases h
def bJH(I:aX n0 G μ H w){T p v x cs H' c}(hp:VR w G μ p x)(h:a7P P H T p=some (cs,v,H',c))(A:J7 cs=true):H'=H/\∃ v',(Instr.loadAt T x).run P w=.ok v' w/\VR w G μ v v':=by
 unfold a7P at h;split at h;rename_i t l i off e;split at h;rename_i u hu;obtain⟨rfl,rfl,rfl,rfl⟩:=h;refine⟨rfl,?_⟩;obtain⟨q,rfl,L⟩:=hp;obtain⟨b,o,rfl,C,K⟩:=q;have⟨rest,f⟩:=a2C t L off;rw[f]at K;have⟨v',z,m⟩:=aCB (P:=P) K (aPK rest hu);exact⟨v',by simp[Instr.loadAt,Instr.sureAddr,z],m.bF⟩;cases h
 next r i off sz=>
  split at h
  next g C=>
   cases a:Nat.beq sz g.t.size with
   | false=>rw[a]at h; cases h
   | true =>
    rw[a]at h;simp only[oC]at h;split at h
    next u hu=>obtain⟨rfl,rfl,rfl,rfl⟩:=h;refine⟨rfl,?_⟩;have a:=oE a;subst a;have d:=gE (aW A).1;have⟨J,y,F⟩:=OM C;have⟨D,N⟩:=I.tags r J g (aG y) F;obtain⟨b,q,rfl⟩:=hp;have⟨c',g2,g3,_⟩:=I.blk r J b (aG y) q;rw[D]at g3;have⟨rest,f⟩:=a2C g.t d off;have hd:=g3.drop (i*g.t.size+off);rw[f]at hd;have⟨v',z,m⟩:=aCB (P:=P) hd (aPK rest hu);exact⟨v',by simp[Instr.loadAt,Instr.sureAddr,z],m⟩
    ·cases h
  cases h
 rename_i j off;split at h;rename_i r k E;split at h;rename_i t l s;have⟨a,h⟩:=yP h;split at h;rename_i u hu;obtain⟨rfl,rfl,rfl,rfl⟩:=h;refine⟨rfl,?_⟩;simp only[oA,Bool.not_eq_true']at a;have⟨a,hm⟩:=a;have hm:k.ty≠aHV:=Nat.ne_of_beq_eq_false hm;have a:=oE a;have⟨row,M,d,B⟩:=a4R (gE (aW A).1);have⟨f,C⟩:=aSG E;have⟨_,_,a3⟩:=I.rows.arn r k t l f C s;obtain⟨b,q,rfl⟩:=hp;rcases a3 j row M with h0|⟨b',g1,g2⟩;grind;rw[q]at g1; cases g1;have⟨c',g2,g3⟩:=g2.cells (n:=0) (.inl hm);have⟨rest,f⟩:=a2C t d 0;have hd:=g3.drop (off*t.size+0);rw[Nat.zero_add,f,a,Nat.mul_one,Nat.add_zero]at hd;unfold dZ at hu;rw[B]at hu;have⟨v',z,m⟩:=aCB (P:=P) hd (aPK rest hu);exact⟨v',by simp[Instr.loadAt,Instr.sureAddr,z],m.bF⟩;cases h;cases h;cases h;cases h
def bOJ(y:aX n0 G μ H w){tys ty p v x cs H' c}(hp:VR w G μ p x)(h:bEX P H tys p=some (cs,v,H',c)):H'=H/\∃ v',(Builtin.len_ tys ty #[x]).run P w=.ok v' w/\VR w G μ v v':=by
 unfold bEX at h;split at h
 next t ts ht=>
  have a:tys[0]?=some t:=by rw[<- Array.getElem?_toList,ht]; rfl
  split at h;rename_i e hu;split at h;rename_i tt l cap C;obtain⟨rfl,rfl,rfl,rfl⟩:=h;obtain⟨ao,c',rfl⟩:=a7D hp;exact⟨rfl,goInt l.length,by simp[Builtin.len_,a,run_underlying hu],by rw[VR]⟩;rename_i r sz;split at h;rename_i g s;obtain⟨rfl,rfl,rfl,rfl⟩:=h;have⟨u,d,k⟩:=OM s;have⟨q,i⟩:=y.tags r u g (aG d) k;have⟨m,o,f⟩:=hp;rw[i]at o;cases o;refine⟨rfl,goInt g.l.length,?_,by rw[VR]⟩;rcases f with ⟨f,ao,rfl⟩|⟨b,c',A,rfl,z,B⟩;simp[Builtin.len_,a,run_underlying hu,f];simp[Builtin.len_,a,run_underlying hu];cases h;rename_i r sz;split at h;rename_i g s;obtain⟨rfl,rfl,rfl,rfl⟩:=h;have⟨u,d,k⟩:=OM s;have⟨q,i⟩:=y.tags r u g (aG d) k;rw[VR]at hp;have⟨m,o,f⟩:=hp;rw[i]at o;cases o;refine⟨rfl,goInt g.l.length,?_,by rw[VR]⟩;rcases f with ⟨f,ao,rfl⟩|⟨b,c',A,rfl,z,B⟩;simp[Builtin.len_,a,run_underlying hu,f];simp[Builtin.len_,a,run_underlying hu];cases h;rename_i r lo n sz;simp only[oJ,oP]at h;obtain⟨rfl,rfl,rfl,rfl⟩:=h;rw[VR]at hp;obtain⟨b,c',_,A,rfl,z,B,_⟩:=hp;exact⟨rfl,goInt n,by simp[Builtin.len_,a,run_underlying hu],by rw[VR]⟩;rename_i j lo n sz;simp only[oJ,oP]at h;obtain⟨rfl,rfl,rfl,rfl⟩:=h;rw[VR]at hp;obtain⟨ao,c',rfl,_⟩:=hp;exact⟨rfl,goInt n,by simp[Builtin.len_,a,run_underlying hu],by rw[VR]⟩;cases h;cases h
 cases h
def BP {x d i b}(h:aTC x d=some (b,i))(a:b=true):bnd x d=some i:=by
 unfold aTC at h;unfold bnd;split at h;grind
 next k j=>
  simp only[oJ,oP]at h;have⟨c,e⟩:=h;subst c;have:decide (0<=j)=true:=by
   rw[aF,Bool.not_eq_true',decide_eq_false_iff_not]at a;grind
  grind
 grind
def bCJ {F a nt} (B:fG w G μ nt F a) {t e r f m n i j x} {lo hi:Option Operand} (hp:VR w G μ (.win r f m n) x) (hu:P.underlying t=some (.slice e)) (hs:BL P e=some n)
  (A:bnd (lo.map (ev F)) 0=some i) (H:bnd (hi.map (ev F)) m=some j) (I:i<=j) (O:j<=m) (N:i<m) w1:∃ v',(Instr.sliceAt t x (lo.map a.eval) (hi.map a.eval) none).run P w1=.ok v' w1/\VR w G μ (.win r (f+i) (j-i) n) v':=by
 obtain⟨d,c0,u,y,z,p,C,L⟩:∃ d c0,μ.len r=some d/\f+m<=d/\d<=f+c0/\μ.sh r=0/\m<=c0/\VR w G μ (.hs r (f*n) m (some c0) n) x:=(by have⟨b,c,d,q,h,g,E,o,l,s,hz⟩:=hp;refine⟨d,c,o,l,s,hz,g,?_⟩;exact⟨b,c,q,h,g,λk M=>(by cases M; rfl),by grind⟩);have J:aGG P t (.hs r (f*n) m (some c0) n) (lo.map (ev F)) (hi.map (ev F))=some (.hs r (f*n+i*n) (j-i) (some (c0-i)) n):=(by have o:Nat.beq n n=true:=(by rw[aZO,oT rfl]);have l:Nat.beq c0 i=false:=(by rw[aZO,oF Z]);have s:Nat.ble j c0=true:=Nat.ble_eq_true_of_le Z;simp only[aGG,hu,hs,A,H,o,l,s,Nat.ble_eq_true_of_le I,Bool.and_self,oC,oD]);have⟨v',D,K⟩:=W2 B L J w1;refine⟨v',D,?_⟩;have⟨b,c,q,h,g,v,E⟩:=K;have v:=v _ rfl;refine⟨b,c,d,q,by rw[h,Nat.add_mul],g,?_,u,by omega,by omega,p⟩;grind
def bSC {F a nt} (B:aX n0 G μ H w) (v:fG w G μ nt F a) {t e r l0 m n i j x} {lo hi:Option Operand} (hp:VR w G μ (.row r l0 m n) x) (hu:P.underlying t=some (.slice e)) (hs:BL P e=some n)
  (u:bnd (lo.map (ev F)) 0=some i) (y:bnd (hi.map (ev F)) m=some j) (z:i<=j) (D:j<=m) w1:∃ v',(Instr.sliceAt t x (lo.map a.eval) (hi.map a.eval) none).run P w1=.ok v' w1/\VR w G μ (.row r (l0+i) (j-i) n) v':=by
 obtain⟨ao,c,rfl,hle,g⟩:=hp;by_cases hm:i=j
 ·subst hm;have q:VR w G μ (.vals [] m (some c)) (.slice ao m c):=by rw[VR]; exact⟨ao,c,rfl,hle,λk s=>by cases s; rfl,.inl rfl⟩
  have p:aGG P t (.vals [] m (some c)) (lo.map (ev F)) (hi.map (ev F))=some (.vals [] (i-i) none):=(by simp only[aGG,hu,hs,u,y,Nat.ble_eq_true_of_le z,Nat.ble_eq_true_of_le D,Bool.and_self,oC,List.drop_nil,List.take_nil]);have⟨v',o,d⟩:=W2 v q p w1;refine⟨v',o,?_⟩;have⟨h,c',f,l,_,_⟩:=d;exact⟨h,c',f,l,.inl Z⟩
 rcases g with g|⟨b,g,rfl,hroom⟩;omega;have e:=SE B (some b) none;have q:VR w G (upd μ H.length (some b) none) (.hs H.length (l0*n) m (some c) n) (.slice (some ⟨b,l0*n,none⟩) m c):=(by rw[VR,GO];simp only[Nat.zero_add];exact⟨b,c,mH _ _ _ _,rfl,hle,λk s=>(by cases s; rfl),by rw[<- Nat.add_mul]; exact hroom⟩);have p:aGG P t (.hs H.length (l0*n) m (some c) n) (lo.map (ev F)) (hi.map (ev F))=some (.hs H.length (l0*n+i*n) (j-i) (some (c-i)) n):=(by have C:Nat.beq n n=true:=(by rw[aZO,oT rfl]);have A:Nat.beq c i=false:=(by rw[aZO,oF Z]);have E:Nat.ble j c=true:=Nat.ble_eq_true_of_le Z;simp only[aGG,hu,hs,u,y,C,A,E,Nat.ble_eq_true_of_le z,Bool.and_self,oC,oD]);have⟨v',o,d⟩:=W2 (v.mono e.toMono) q p w1;refine⟨v',o,?_⟩;rw[VR,GO]at d; rw[VR];simp only[Nat.zero_add]at d;have⟨K,c2,f,l,I,L,J⟩:=d;rw[mH]at f;cases f;refine⟨_,c2,l,I,.inr ⟨b,g,by rw[Nat.add_mul],?_⟩⟩;grind
def a0X {isSlice lo l h m len cap k k' i i'}(b:bO0 lo 0 l)(e:0<=i)(f:h=i.toNat)(d:0<=i')(g:m=i'.toNat)(j:l<=h)(n:h<=m)(o:m<=cap) w1 :
  (Instr.sliceBounds isSlice len cap lo (some (.int k i)) (some (.int k' i'))).run P w1=.ok (l,h,m) w1:=by
 subst f; subst g;have c:i'<=cap:=Z;have a2:i<=i'.toNat:=Z;rcases b with ⟨rfl,rfl⟩|⟨k2,i2,rfl,a,rfl⟩;simp only[Instr.sliceBounds,Instr.sliceBound,asIntOf,Sem.run_bind,Sem.run_pure,Result.andThen_ok,if_pos (And.intro d c),if_pos (And.intro e a2)];have a3:i2<=i.toNat:=Z;simp only[Instr.sliceBounds,Instr.sliceBound,asIntOf,Sem.run_bind,Sem.run_pure,Result.andThen_ok,if_pos (And.intro d c),if_pos (And.intro e a2),if_pos (And.intro a a3)]
def bB0 {F a nt}(hF:fG w G μ nt F a){t p v x}{lo:Option Operand}{hi mx cs H' c}(hp:VR w G μ p x)(h:aN5 P H t p (lo.map (ev F)) (ev F hi) (ev F mx)=some (cs,v,H',c))(hcs:J7 cs=true) w1 :
  H'=H/\∃ v',(Instr.sliceAt t x (lo.map a.eval) (some (a.eval hi)) (some (a.eval mx))).run P w1=.ok v' w1/\VR w G μ v v':=by
 unfold aN5 at h;split at h
 next e hu=>
  split at h
  next n hs=>
   split at h
   ·rename_i ty l cap ee;cases hb:Nat.beq n ty.size with
    | false=>rw[hb]at h; cases h
    | true =>
    rw[hb]at h;simp only[oC]at h;have hb:=oE hb;subst hb;split at h
    ·rename_i b1 i b2 j b3 m h1 h2 h3;obtain⟨rfl,rfl,rfl,rfl⟩:=h;refine⟨rfl,?_⟩;obtain⟨c1,hcs⟩:=aW hcs;obtain⟨c2,hcs⟩:=aW hcs;obtain⟨c3,hcs⟩:=aW hcs;obtain⟨c4,hcs⟩:=aW hcs;obtain⟨c5,hcs⟩:=aW hcs;obtain⟨c6,_⟩:=aW hcs;have c4:=oL c4;have c5:=oL c5;have c6:=oL c6;have hlo:=RA hF (BP h1 c1);rcases RA (x:=some hi) hF (BP h2 c2)with ⟨h4,_⟩|⟨k1,i1,h4,h5,h6⟩
     ·cases h4
     rcases RA (x:=some mx) hF (BP h3 c3)with ⟨h7,_⟩|⟨k2,i2,h7,h8,h9⟩
     ·cases h7
     have hv:VR w G μ (.vals (aI ty l) l.length cap) x:=(aKC hp).bF;obtain⟨ao,cc,rfl,q1,-,q2⟩:=hv;simp only[Option.map_some,oJ]at h4 h7;have hr:=a0X (P:=P) (isSlice:=true) (len:=l.length) (k:=k1) (k':=k2) hlo h5 h6 h8 h9 c4 c5 (oR c6 q1) w1;refine⟨.slice (if m=i then ao else ao.map (·.add (i*ty.size))) (j-i) (m-i),?_,?_⟩
     ·simp[Instr.sliceAt,Instr.slice,run_underlying hu,h4,h7,hr,run_sizeOf hs]
     ·have hlen:((l.drop i).take (j-i)).length=j-i:=by simp; omega
      refine aOS ?_;rw[hlen,VR];refine⟨_,_,rfl,by omega,λk hk=>(by cases hk; rfl),?_⟩
      by_cases hcl:m=i
      ·left;have:j-i=0:=Z
       rw[this,List.take_zero]; rfl
      ·rcases q2 with q2|⟨b,off,rfl,hg,hcs⟩
       ·left;rw[<- yV,<- BI,q2]; simp
       ·right;refine⟨b,off+i*ty.size,by simp[hcl,Addr.add_lit],hg,?_⟩;rw[<- yV,<- BI];exact hcs.sub _ _
    ·cases h
   ·cases h
  ·cases h
 ·cases h
def bE0 {F a nt}(I:aX n0 G μ H w)(s:fG w G μ nt F a){t p v x}{lo hi:Option Operand}{cs H' c}(hp:VR w G μ p x)(h:aL1 P H t p (lo.map (ev F)) (hi.map (ev F))=some (cs,v,H',c))(d:J7 cs=true) w1 :
  H'=H/\∃ v',(Instr.sliceAt t x (lo.map a.eval) (hi.map a.eval) none).run P w1=.ok v' w1/\VR w G μ v v':=by
 unfold aL1 at h;split at h
 next e hu=>
  split at h
  next n u=>
   split at h
   ·rename_i ty l cap W;cases f:Nat.beq n ty.size with
    | false=>rw[f]at h; cases h
    | true =>
     rw[f]at h;simp only[oC]at h;have f:=oE f;subst f;split at h
     ·rename_i N i M j o q;obtain⟨rfl,rfl,rfl,rfl⟩:=h;refine⟨rfl,?_⟩;have⟨c1,d⟩:=aW d;have⟨c2,d⟩:=aW d;have⟨c3,d⟩:=aW d;have⟨c4,_⟩:=aW d;have L:VR w G μ (.vals (aI ty l) l.length cap) x:=(aKC hp).bF;have K:aGG P t (.vals (aI ty l) l.length cap) (lo.map (ev F)) (hi.map (ev F))=some (.vals (((aI ty l).drop (i*ty.size)).take ((j-i)*ty.size)) (j-i) none):=by simp only[aGG,hu,u,BP o c1,BP q c2,c3,c4,Bool.and_self,oC]
      have⟨v',S,Q⟩:=W2 s L K w1;refine⟨v',S,aOS ?_⟩;have R:=oL c4;have hlen:((l.drop i).take (j-i)).length=j-i:=by simp; omega
      rw[BI,yV]at Q;rw[hlen];exact IV _ _ rfl Q
     ·cases h
   ·rename_i r sz;split at h
    ·rename_i g V;have⟨f,h⟩:=yP h;have f:=oE f;subst f;unfold a5V at h;split at h
     ·rename_i N i M j o q;have⟨O,z,y⟩:=OM V;cases hz:(a8X g.t&&Nat.beq g.l.length 0)with
      | true =>
       rw[hz]at h;simp only[oC,oJ,oP]at h;obtain⟨rfl,rfl,rfl,rfl⟩:=h;refine⟨rfl,?_⟩;have⟨c1,d⟩:=aW d;have⟨c2,d⟩:=aW d;have⟨c3,d⟩:=aW d;have⟨c4,_⟩:=aW d;have c3:=oE c3;have c4:=oE c4;subst c3; subst c4;simp only[oA]at hz;have hz:=oE hz.2;have⟨E,k⟩:=I.tags r O g (aG z) y;have A:=hp;rw[VR]at hp;have⟨m,B,D⟩:=hp;rw[k,hz]at B;cases B;have run:∀ ao c',x=.slice ao 0 c'->(Instr.sliceAt t x (lo.map a.eval) (hi.map a.eval) none).run P w1=.ok (.slice (if c'=0 then ao else ao.map (·.add (0*n))) (0-0) (c'-0)) w1:=λao c' K=>by
        subst K;have C:=BP q c2;rw[hz]at C;have U:=CV (P:=P) (isSlice:=true) (RA s (BP o c1)) (RA s C) (oM 0) (Nat.zero_le c') w1;simp[Instr.sliceAt,Instr.slice,run_underlying hu,U,run_sizeOf u]
       rcases D with ⟨_,ao,rfl⟩|⟨b,c',e3,rfl,e5,e6⟩
       ·exact⟨_,run ao 0 rfl,A⟩
       ·refine⟨_,run _ c' rfl,?_⟩;have:(if c'=0 then some (⟨b,μ.sh r,none⟩:Addr) else (some (⟨b,μ.sh r,none⟩:Addr)).map (·.add (0*n)))=some ⟨b,μ.sh r,none⟩:=by
         split
         ·rfl
         ·simp[Addr.add_lit]
        rw[this];exact A
      | false =>
      rw[hz]at h;simp only[oD,oJ,oP]at h;obtain⟨rfl,rfl,rfl,rfl⟩:=h;refine⟨rfl,?_⟩;have⟨c1,d⟩:=aW d;have⟨c2,d⟩:=aW d;have⟨c3,d⟩:=aW d;have⟨c4,d⟩:=aW d;have⟨c5,_⟩:=aW d;have⟨E,k⟩:=I.tags r O g (aG z) y;have J:=gE c5;have L:VR w G μ (.win r 0 g.l.length n) x:=by
       rw[VR]at hp; rw[VR];have⟨m,B,D⟩:=hp;rw[k]at B;cases B;rcases D with ⟨D,_⟩|⟨b,c',e3,rfl,e5,e6⟩
       ·omega
       ·exact⟨b,c',_,e3,by rw[Nat.zero_mul,Nat.add_zero],e5,by rw[Nat.zero_add]; exact e6.1,k,by rw[Nat.zero_add]; exact oM _,by rw[Nat.zero_add]; exact e5,e6.2⟩
      have:=bCJ s L hu u (BP o c1) (BP q c2) (oL c3) (oL c4) J w1;rw[Nat.zero_add]at this;exact this
     cases h
    cases h
   rename_i r T m sz;have⟨f,h⟩:=yP h;have f:=oE f;subst f;split at h;rename_i N i M j o q;simp only[oJ,oP]at h;obtain⟨rfl,rfl,rfl,rfl⟩:=h;refine⟨rfl,?_⟩;have⟨c1,d⟩:=aW d;have⟨c2,d⟩:=aW d;have⟨c3,d⟩:=aW d;have⟨c4,d⟩:=aW d;have⟨c5,_⟩:=aW d;exact bCJ s hp hu u (BP o c1) (BP q c2) (oL c3) (oL c4) (gE c5) w1;cases h;rename_i r T m sz;have⟨f,h⟩:=yP h;have f:=oE f;subst f;split at h;rename_i N i M j o q;simp only[oJ,oP]at h;obtain⟨rfl,rfl,rfl,rfl⟩:=h;refine⟨rfl,?_⟩;have⟨c1,d⟩:=aW d;have⟨c2,d⟩:=aW d;have⟨c3,d⟩:=aW d;have⟨c4,d⟩:=aW d;exact bSC I s hp hu u (BP o c1) (BP q c2) (oL c3) (oL c4) w1;cases h;cases h
  cases h
 cases h
def aEF(c:List Value)(off:Nat)(vs:List Value):List Value:=c.take off++vs++c.drop (off+vs.length)
def bIY a m b vs {off}(h:off+vs.length<=m.length):aEF (a++m++b) (a.length+off) vs=a++aEF m off vs++b:=by
 unfold aEF;have c:(a++m++b).take (a.length+off)=a++m.take off:=by rw[List.append_assoc,List.take_append,List.take_of_length_le R,Nat.add_sub_cancel_left,List.take_append_of_le_length Z]
 have d:(a++m++b).drop (a.length+off+vs.length)=m.drop (off+vs.length)++b:=by rw[Nat.add_assoc,<- List.drop_drop,List.append_assoc,List.drop_left,List.drop_append_of_le_length h]
 grind
def aY1(J:aX n0 G μ H w){T p v u x y cs H' c}(hp:VR w G μ p x)(hv:VR w G μ v y)(h:a1Y P H T p v=some (cs,u,H',c))(V:J7 cs=true) :
  u=.lit undef/\c=2/\∃ w',(Instr.storeAt T x y).run P w=.ok () w'/\Ext n0 w G μ w' G μ/\aX n0 G μ H' w':=by
 unfold a1Y at h;split at h
 next r i off sz=>
  split at h
  next k hk=>
   split at h
   ·rename_i g X;split at h
    ·rename_i new n s hn;cases N:(Nat.beq new.length n&&Nat.beq sz g.t.size&&!k.frozen&&Nat.ble (off+n) sz&&new.all aDI)with
     | false=>rw[N]at h; cases h
     | true =>
      rw[N]at h;simp only[oC]at h;split at h
      ·rename_i d hd;obtain⟨rfl,rfl,rfl,rfl⟩:=h;refine⟨rfl,rfl,?_⟩;simp only[oA,Bool.not_eq_true']at N;have⟨⟨⟨⟨W,O⟩,hf⟩,L⟩,F⟩:=N;have W:=oE W;have O:=oE O;have L:=oL L;subst O;have e:=gE (aW V).1;have⟨Q,ht2⟩:=J.tags r k g (aG hk) X;obtain⟨b,a,rfl⟩:=hp;have⟨C,g2,g3,g4,g5,g6⟩:=J.blk r k b (aG hk) a;rw[Q]at g3;have⟨i1,i2⟩:=RU g2 g3;have hlen:=bG g.t g.l;have m:=aAC s hv
       have hvl:new.length=y.cells.size:=by simpa using m.length
       have hmul:(i+1)*g.t.size<=g.l.length*g.t.size:=Nat.mul_le_mul_right _ e;rw[Nat.add_mul,Nat.one_mul]at hmul;have R:Fits C (μ.sh r+(i*g.t.size+off)) y.cells.toList:=.of (by simp only[Array.length_toList]; omega) i2;have⟨w',h1,B⟩:=BJ (P:=P) (off:=μ.sh r+(i*g.t.size+off)) y.cells.toList 0 w C (VM F m) g2 R;rw[Nat.add_zero]at B;have q:(xH C (μ.sh r+(i*g.t.size+off)) y.cells.toList).size=C.size:=NG R
       have K:=FD J (aG hk) hf a g2 B q;refine⟨w',?_,K,?_⟩
       ·have M:y.cells.size=n:=zN
        simp[Instr.storeAt,Instr.sureAddr,storeVar,run_sizeOf hn,M,h1]
       ·refine IB (k':={ k with cells:=aI g.t (g.l.set i d),tag:=some ⟨g.t,g.l.set i d⟩ }) J (aG hk) hf a g2 B q hf ?_ ?_ ?_ ?_
        ·-- the cells of the element are new
         have iN:g.l.getD i g.t.bEW=g.l[i]:=by simp[oQ,e]
         rw[iN]at hd;have D:g.l=g.l.take i++g.l[i]::g.l.drop (i+1):=by rw[<- List.drop_eq_getElem_cons e,List.take_append_drop]
         have A:g.l.set i d=g.l.take i++d::g.l.drop (i+1):=by rw[List.set_eq_take_append_cons_drop,if_pos e]
         have U:(aI g.t (g.l.take i)).length=i*g.t.size:=by rw[bG,List.length_take,Nat.min_eq_left (Nat.le_of_lt e)]
         obtain⟨f,I⟩:∃ f,f=(C.toList.drop (μ.sh r)).take (aI g.t g.l).length:=⟨_,rfl⟩;rw[<- I]at i1;have hsp:aI g.t g.l=aI g.t (g.l.take i)++(enc g.t g.l[i]++aI g.t (g.l.drop (i+1))):=by
          conv=>lhs; rw[D]
          rw[uA,yT]
         have j0:=i1;rw[hsp]at j0;have jA:=j0.take (i*g.t.size);rw[List.take_left' U]at jA;have jR:=j0.drop (i*g.t.size);rw[List.drop_left' U]at jR;have jM:=jR.take g.t.size;rw[List.take_left' (FA _ _)]at jM;have Z:=jR.drop g.t.size;rw[List.drop_left' (FA _ _)]at Z;have hC0len:f.length=g.l.length*g.t.size:=by rw[I,List.length_take,hlen,List.length_drop,Array.length_toList]; omega
         have hCeq:f=f.take (i*g.t.size)++(f.drop (i*g.t.size)).take g.t.size++(f.drop (i*g.t.size)).drop g.t.size:=by rw[List.append_assoc,List.take_append_drop,List.take_append_drop]
         have hta:(f.take (i*g.t.size)).length=i*g.t.size:=by rw[List.length_take]; omega
         have htm:((f.drop (i*g.t.size)).take g.t.size).length=g.t.size:=by rw[List.length_take,List.length_drop]; omega
         have z:((xH C (μ.sh r+(i*g.t.size+off)) y.cells.toList).toList.drop (μ.sh r)).take (g.l.length*g.t.size)=aEF f (i*g.t.size+off) y.cells.toList:=by
          rw[R5 (by simp only[Array.length_toList]; omega) zN];simp only[aEF,I,hlen,List.append_assoc]
         have S:aEF f (i*g.t.size+off) y.cells.toList=f.take (i*g.t.size)++aEF ((f.drop (i*g.t.size)).take g.t.size) off y.cells.toList++(f.drop (i*g.t.size)).drop g.t.size:=by
          have:=bIY (f.take (i*g.t.size)) ((f.drop (i*g.t.size)).take g.t.size) ((f.drop (i*g.t.size)).drop g.t.size) y.cells.toList (off:=off) (by rw[htm]; simp only[Array.length_toList]; omega);rw[hta]at this;rw[<- this]
          congr 1
         have o:VRs w G μ (enc g.t d) (aEF ((f.drop (i*g.t.size)).take g.t.size) off y.cells.toList):=by
          refine VRs.bF (JN g.t μ _ d _ hd ?_);simp only[aO4,aEF,m.length];exact((jM.take off).append m).append (jM.drop _)
         refine FG (n:=g.l.length*g.t.size) B.at_ (VRs.mono K.toMono _ _ ?_);rw[z,S,A,uA,yT,<- List.append_assoc];exact(jA.append o).append Z
        ·intro hgr;rw[q,g4 hgr,Q,bG,bG,List.length_set]
        ·intro g' hg';cases hg';exact⟨rfl,by simp only[List.length_set]; exact ht2⟩
        ·intro t1 l1 q1 q2;have⟨gt,gl⟩:=g;simp only[oJ,Tg.mk.injEq]at q2;obtain⟨rfl,_⟩:=q2;exact⟨gl,q1,X⟩
      ·cases h
    cases h
   cases h
  cases h
 next j off=>
  split at h
  next r k har=>
   split at h
   ·rename_i t l E;split at h
    ·rename_i new n s hn;have⟨N,h⟩:=yP h;split at h
     ·rename_i d hd;simp only[oJ,oP]at h;obtain⟨rfl,rfl,rfl,rfl⟩:=h;refine⟨rfl,rfl,?_⟩;simp only[oA]at N;have⟨⟨⟨⟨W,O⟩,L⟩,hm⟩,F⟩:=N;have hm:k.ty≠aHV:=Nat.ne_of_beq_eq_false (by simpa using hm);have W:=oE W;have O:=oE O;have L:=oE L;have⟨row,hj,e,Y⟩:=a4R (gE (aW V).1);have⟨hr,X⟩:=aSG har;have⟨_,_,a3⟩:=J.rows.arn r k t l hr X E;rw[VR]at hp;obtain⟨b,a,rfl⟩:=hp;rcases a3 j row hj with h0|⟨b',g1,g2⟩;rw[h0.1]at e; exact absurd e (Nat.not_lt_zero _);rw[a]at g1; cases g1;have⟨C,g2,g3⟩:=g2.cells (n:=0) (.inl hm);have⟨i1,i2⟩:=RU g2 g3;rw[List.drop_zero]at i1;rw[Nat.sub_zero]at i2;have hlen:=bG t row;rw[L,Nat.mul_one]at hlen;have m:=aAC s hv;have hvl:new.length=y.cells.size:=(by simpa using m.length);have⟨w',h1,B⟩:=BJ (P:=P) (off:=off) y.cells.toList 0 w C (VM F m) g2 (.inr (by simp only[Array.length_toList]; omega));rw[Nat.add_zero]at B;have q:(xH C off y.cells.toList).size=C.size:=NG (.inr (by simp only[Array.length_toList]; omega));have K:=bFP J a g2 B q;refine⟨w',?_,K,?_⟩;have M:y.cells.size=n:=zN;simp[Instr.storeAt,Instr.sureAddr,storeVar,run_sizeOf hn,M,h1]
      ·refine bXA J hr X E a g2 B q (by unfold DQ; rw[List.length_set]) (λi hi=>?_) (row:=row.set off d) ?_ ?_ hm;unfold DQ;rw[List.getElem?_set_ne (Ne.symm hi)];unfold DQ;rw[Y,List.getElem?_set_self (oO.1 hj).1]
       ·have A:row.set off d=row.take off++d::row.drop (off+1):=(by rw[List.set_eq_take_append_cons_drop,if_pos e])
        have o:VRs w' G aH (enc t d) y.cells.toList:=VRs.mono K.toMono.aH _ _ (JN t μ _ d _ hd m);have U:=yV t off row;have hB:=BI t (off+1) row;rw[L,Nat.mul_one]at U hB;have jA:=i1.take off;have Z:=i1.drop (off+1);refine FG (n:=row.length) B.at_ ?_;rw[List.drop_zero];rw[A,uA,yT,<- U,<- hB];have hy:y.cells.toList.length=1:=by simp only[Array.length_toList]; omega
        have z:(xH C off y.cells.toList).toList.take row.length=(C.toList.take (aI t row).length).take off++(y.cells.toList++(C.toList.take (aI t row).length).drop (off+1)):=by
         simp only[xH,hlen,hy];rw[List.append_assoc,List.take_append,List.take_append,List.take_take,List.take_take,hy,List.take_of_length_le (l:=y.cells.toList) (by rw[List.length_take]; omega),List.drop_take];have q1:(C.toList.take off).length=off:=by rw[List.length_take]; simp only[Array.length_toList]; omega
         rw[q1];congr 1;congr 1; omega
        rw[z];exact(VRs.mono K.toMono.aH _ _ jA).append (o.append (VRs.mono K.toMono.aH _ _ Z))
     cases h
    cases h
   cases h
  cases h
 cases h
end
end Go.PM
