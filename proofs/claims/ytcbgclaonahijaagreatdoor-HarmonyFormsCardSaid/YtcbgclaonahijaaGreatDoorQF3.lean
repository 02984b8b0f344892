/- Texts of one proof, joined (3). -/
import Derived.Laws.Strings
import Derived.MapKept
import Derived.RangeFuncRecord
import Derived.Lib.ConvBytes
import Derived.Laws.BytesString
import Derived.Lib.AppendZerosOnto
import Derived.Lib.SliceRun
import Derived.WalkSpells
import Derived.Test.YtcbgclaonahijaaGreatDoorQF2
set_option linter.unusedSimpArgs false
set_option linter.unusedVariables false
set_option linter.defProp false
noncomputable section
namespace Go.PM
open Go Go.RowKit
section
variable {P:Program} {n0:Nat->Prop} {w:World} {G:Gd} {μ:Mp} {H:Heap}
def ID {t e:TypeId}{ty:Ty}(h:OW P t=some (e,ty)):P.underlying t=some (.slice e)/\BL P e=some ty.size:=by
 unfold OW at h;cases hm:aRW b17 t with
 | true=>rw[hm]at h; cases h
 | false =>
 rw[hm,oD]at h;cases hm2:aRW b1N t with
 | true =>
  rw[hm2,oC]at h;unfold bP9 at h;split at h
  next e' hu=>
   split at h
   ·split at h
    ·rename_i n m h1 h2;cases hb:Nat.beq n 1 with
     | false=>rw[hb]at h; cases h
     | true =>
      rw[hb]at h;simp only[oC,oJ,oP]at h;obtain⟨rfl,rfl⟩:=h;exact⟨hu,by rw[h1,oE hb]; rfl⟩
    ·cases h
   ·cases h
  ·cases h
 | false =>
 rw[hm2,oD]at h;split at h
 next e' hu=>
  split at h
  next ty' n h1 h2=>
   cases hb:Nat.beq n ty'.size with
   | false=>rw[hb]at h; cases h
   | true =>
    rw[hb]at h;simp only[oC,oJ,oP]at h;obtain⟨rfl,rfl⟩:=h;exact⟨hu,by rw[h2,oE hb]⟩
  ·cases h
 ·cases h
def ZW {e n i}(h:BL P e=some n)(hi:P.info? e=some i):i.size=n:=by
 unfold BL at h;grind
def bFG(h:aX n0 G μ H w) {ty:Ty} {new l:List ty.den} {vs:List Value} (s2:VRs w G μ (aI ty new) vs) (m:∀ v∈vs,v.oneCell'=true) {r p:Nat} {k:Blk} (j:iN H r=some k) (s:k.frozen=false) (c:k.tag=some ⟨ty,l⟩) {b:Nat} (o:μ.loc r=some b) (g:p+new.length<=l.length) :
  ∃ w',(storeCells ⟨b,μ.sh r+p*ty.size,none⟩ vs).run P w=.ok () w'/\Ext n0 w G μ w' G μ/\aX n0 G μ (H.set r (some { k with cells:=aI ty (spl l p new),tag:=some ⟨ty,spl l p new⟩ })) w':=by
 have⟨cs,g2,g3,g4,g5,g6⟩:=h.blk r k b (aG j) o;have⟨d,A⟩:=h.tags r k _ (aG j) c;rw[d]at g3;have q:new.length*ty.size=vs.length:=by have:=s2.length; rwa[bG]at this
 have⟨i1,i2⟩:=RU g2 g3;have e:=bG ty l;rw[e]at i2;have hmul:(p+new.length)*ty.size<=l.length*ty.size:=Nat.mul_le_mul_right _ g;rw[Nat.add_mul]at hmul;have f:Fits cs (μ.sh r+p*ty.size) vs:=.of Z i2;have⟨w',y,i⟩:=BJ (P:=P) (off:=μ.sh r+p*ty.size) vs 0 w cs m g2 f;rw[Nat.add_zero]at i;have a:(xH cs (μ.sh r+p*ty.size) vs).size=cs.size:=NG f;have x:=FD h (aG j) s o g2 i a
 have hlen:(spl l p new).length=l.length:=by simp only[spl,oH,List.length_take,List.length_drop]; omega
 refine⟨w',y,x,IB (k':={ k with cells:=aI ty (spl l p new),tag:=some ⟨ty,spl l p new⟩ }) h (aG j) s o g2 i a s ?_ ?_ ?_ (λt1 B z u=>by simp only[oJ,Tg.mk.injEq]at u; obtain⟨rfl,_⟩:=u; exact⟨l,z,c⟩)⟩;refine FG (n:=l.length*ty.size) i.at_ (VRs.mono x.toMono _ _ ?_);rw[R5 Z i2,<- e,<- q];unfold spl;rw[uA,uA,<- yV,<- BI];refine(i1.take _).append (s2.append ?_);have:=i1.drop ((p+new.length)*ty.size);grind;intro t;rw[a,g4 t,d,bG,bG,hlen];grind
def aYP(P:Program) (w:World) (G:Gd) (μ:Mp) (ty:Ty) (v:Value) (new:List ty.den):Prop :=(∀ w1:World,(Builtin.lenOf v).run P w1=.ok new.length w1)/\∃ vs:Array Value,VRs w G μ (aI ty new) vs.toList/\∀ w1:World,w1.heap=w.heap->(Builtin.firstCells ty.size new.length v).run P w1=.ok vs w1
def aON {ty new v cs}(h:Source P w G μ ty.size v cs new.length)(e:∀ vs,VRs w G μ cs vs->VRs w G μ (aI ty new) vs):aYP P w G μ ty v new:=by
 have⟨c,f,d⟩:=h;have⟨vs,a,b⟩:=d new.length (oM _);rw[List.take_of_length_le Z]at a;exact⟨c,vs,e _ a,b⟩
def a3R {cs n sz cap v}(h:VR w G μ (.vals cs n cap) v)(d:cs.length=n*sz):Source P w G μ sz v cs n:=by
 obtain⟨ao,c,rfl,_,_,g⟩:=h;rcases g with rfl|⟨b,off,rfl,_,hc⟩
 ·refine⟨λf=>rfl,d,λm hm=>⟨#[],by simp[VRs],λf _=>?_⟩⟩;have e:m*sz=0:=by
   have:=Nat.mul_le_mul_right sz hm;grind
  cases ao with
  | none=>rfl;| some a=>simp[Builtin.firstCells,e,loadCells,loadCellsFrom]
 exact LN hc.bF d
def aAP(D:aX n0 G μ H w){ty p new v}(hp:VR w G μ p v)(B:J7 (bAL H p)=true)(h:aTP H ty p=some new):aYP P w G μ ty v new:=by
 unfold aTP at h;split at h;rename_i u l cap e;obtain⟨rfl,rfl⟩:=mL h;exact aON (a3R (aKC hp).bF (bG _ _)) (λ_ h=>h)
 next r sz=>
  split at h
  next g A=>
   have⟨t,l⟩:=g;obtain⟨rfl,rfl⟩:=mL h;have⟨C,d,q⟩:=OM A;have⟨o,z⟩:=D.tags r C _ (aG d) q;have⟨m,O,R⟩:=hp;rw[z]at O;cases O;rcases R with ⟨R,ao,rfl⟩|⟨b,c',s,rfl,T,Q⟩
   ·have J:l=[]:=List.eq_nil_of_length_eq_zero R;subst J;refine⟨λf=>rfl,#[],by simp[aI,VRs],λf _=>?_⟩;cases ao with
    | none=>rfl;| some a=>simp[Builtin.firstCells,loadCells,loadCellsFrom]
   have⟨c,g2,g3,_⟩:=D.blk r C b (aG d) s;rw[o]at g3;exact aON (LN g3 (bG _ _)) (λ_ h=>h)
  cases h
 next n c=>
  cases hn:Nat.beq n 0 with
  | false=>rw[hn]at h; cases h
  | true =>
   rw[hn]at h;simp only[oC,oJ]at h;subst h;have hn:=oE hn;subst hn;subst hp;exact⟨λf=>rfl,#[],by simp[aI,VRs],λf _=>rfl⟩
 next cs n cap=>
  have hlen:∀ {m:Nat} {cs:List PV} {l:List ty.den},KJ (dec ty) ty.size m cs=some l->l.length=m:=by
   intro m
   induction m with
   | zero =>
    intro cs l h;cases cs with
    | nil=>simp only[KJ,oJ]at h; subst h; rfl
    | cons _ _=>simp only[KJ]at h; cases h
   | succ m ih =>
    intro cs l h;simp only[KJ]at h;split at h
    ·split at h
     next l' V=>simp only[oJ]at h;subst h;rw[List.length_cons,ih V]
     ·cases h
    ·cases h
  have hn:=hlen h;subst hn;have I:=hp;rw[VR]at I;obtain⟨ao,c,rfl,_,_,s⟩:=I;have K:∀ vs,VRs w G μ cs vs->VRs w G μ (aI ty new) vs:=λvs Y=>VRs.bF (aBD (g:=enc ty) (λcs x vs h Y=>JN ty μ cs x vs h Y) h Y).1;rcases s with rfl|⟨b,off,rfl,_,hc⟩
  ·have S:=K [] (by rw[VRs]);have O:=S.length;rw[bG,List.length_nil]at O;have hz:new.length=0:=(by rcases Nat.eq_zero_or_pos new.length with h|h;exact h;have:=Nat.mul_pos h ty.size_pos; omega);rw[hz];refine⟨λf=>by rw[hz]; rfl,#[],by simpa using S,λf _=>?_⟩;rw[hz];cases ao with
   | none=>rfl;| some a=>simp[Builtin.firstCells,loadCells,loadCellsFrom]
  ·have⟨vs,h4,T⟩:=hc.values;have Q:=K vs h4.bF;have E:=Q.length;rw[bG]at E;refine⟨λf=>rfl,vs.toArray,by simpa using Q,λf hw=>?_⟩;have:=run_loadCells (P:=P) (w:=f) (b:=b) (off:=off) (vs:=vs) λj y=>by rw[bDK hw]; exact T j y
   rw[<- E]at this;exact this
 next r lo m sz=>
  split at h
  next g A=>
   split at h
   ·rename_i l V;have⟨gt,gl⟩:=g;obtain⟨rfl,rfl⟩:=mL V;have⟨L,M⟩:=yP h;clear h;have F:=oE L;clear L;subst F;simp only[oJ]at M;subst M;have⟨C,d,q⟩:=OM A;have⟨o,z⟩:=D.tags r C _ (aG d) q;rw[VR]at hp;obtain⟨b,c',mm,s,rfl,T,Q,E,h8,_⟩:=hp;rw[z]at E;cases E;simp only at o h8;have⟨c,g2,g3,_⟩:=D.blk r C b (aG d) s;rw[o]at g3;have g4:=g3.sub (lo*gt.size) (m*gt.size)
    rw[BI,yV]at g4;have hlen:((gl.drop lo).take m).length=m:=by rw[List.length_take,List.length_drop]; omega
    have:=aON (P:=P) (new:=(gl.drop lo).take m) (LN (c:=c') g4 (bG _ _)) (λ_ h=>h);rwa[hlen]at this
   cases h
  cases h
 next j lo m sz=>
  unfold bTG at h;split at h
  next r k hk=>
   split at h
   ·rename_i t l A;split at h
    ·rename_i row N;obtain⟨rfl,rfl⟩:=mL N;have⟨F,M⟩:=yP h;clear h;simp only[oA,Bool.not_eq_true']at F;have X:=oE F.1;have hb2:=Nat.ne_of_beq_eq_false F.2;subst X;simp only[oJ]at M;subst M;simp only[bAL,hk,A,dG]at B;have hle:=oL (aW B).1;have hlen:(((l.getD j []).drop lo).take m).length=m:=by rw[List.length_take,List.length_drop]; omega
     rw[VR]at hp;obtain⟨ao,c,rfl,R,s⟩:=hp;by_cases hm:m=0
     ·subst hm;rw[List.take_zero];refine⟨λf=>rfl,#[],by simp[aI,VRs],λf _=>?_⟩;cases ao with
      | none=>rfl;| some a=>simp[Builtin.firstCells,loadCells,loadCellsFrom]
     ·obtain⟨b,g1,rfl,_⟩:=s.resolve_left hm;have⟨i,_,W,Z⟩:=aTM hk;have⟨_,_,a3⟩:=D.rows.arn i k _ _ W Z A;have y:j<l.length:=(by rcases oG j l.length with y|y;exact y;rw[oQ,List.getElem?_eq_none y,Option.getD_none]at hle;simp only[List.length_nil]at hle;omega)
      have U:l[j]?=some (l.getD j []):=by rw[oQ,List.getElem?_eq_getElem y]; rfl
      rcases a3 j _ U with ⟨S,_⟩|⟨b',e1,e2⟩;rw[S]at hle;simp only[List.length_nil]at hle;omega;rw[g1]at e1;cases e1;have⟨c0,_,g3⟩:=e2.cells (n:=0) (.inl hb2);have g4:=(aT.bF (μ:=μ) g3).sub (lo*t.size) (m*t.size);rw[Nat.zero_add,BI,yV]at g4;have:=aON (P:=P) (new:=((l.getD j []).drop lo).take m) (LN (c:=c) g4 (bG _ _)) (λ_ h=>h);rwa[hlen]at this
    cases h
   cases h
  cases h
 cases h
def bNW {r sz v}(h:VR w G μ (.own r sz) v):VR w G μ (.qs r sz) v:=by
 have⟨n,a,d⟩:=h;exact⟨n,a,d.imp id λ⟨b,c,g,e,f,i⟩=>⟨b,c,g,e,f,i.1⟩⟩
def C5.qs {s r sz H'}(h:C5 P n0 w G μ s (.own r sz) H'):C5 P n0 w G μ s (.qs r sz) H':=by
 have⟨v',w',G',μ',c,b,d,a⟩:=h;exact⟨v',w',G',μ',c,b,d,bNW a⟩
def aM6(i:aX n0 G μ H w) {e:TypeId} {ty:Ty} {l:List ty.den} {c':Nat} {os vs rest:Array Value} (d:VRs w G μ (aI ty l) (os++vs).toList) (a:l.length<=c') (n:rest.size=(c'-l.length)*ty.size) {s:Sem Value}
  (h:s.run P w=.ok (.slice (some ⟨w.heap.size,0,none⟩) l.length c') (w.drew.alloc (.cells (os++vs++rest) e))):C5 P n0 w G μ s (.own H.length ty.size) (H++[some ⟨aI ty l,e,true,false,some ⟨ty,l⟩⟩]):=by
 have b:aX n0 G μ H w.drew:=ZI i (w.drawn+1);have f:Ext n0 w G μ w.drew G μ:=aNJ (Nat.le_succ _);have m:l.length*ty.size=(os++vs).size:=by have:=d.length; rw[bG]at this; simpa using this
 have k:=QZ (on:=some l.length) b (os++vs++rest) ⟨aI ty l,e,true,false,some ⟨ty,l⟩⟩ (λj p hp=>by
  have⟨u,g1,g2⟩:=d.get hp;refine⟨u,?_,VR.mono f.toMono p u g2⟩;have c:j<(os++vs).size:=W
  rw[Array.getElem?_append_left c,<- Array.getElem?_toList];exact g1) (λh=>by cases h) rfl (λg o=>by cases o; exact⟨rfl,rfl⟩)
 refine⟨_,_,G,_,h,f.trans (OG b _ _ _),k,?_⟩;rw[VR,GO];simp only[Nat.zero_add];refine⟨l.length,rZ _ _ _ _,.inr ⟨w.heap.size,c',mH _ _ _ _,rfl,a,⟨os++vs++rest,e,(0,0),?_,?_⟩,trivial⟩⟩;show (w.heap.push _)[w.heap.size]?=_;simp;rw[Array.size_append,<- m,n,<- Nat.add_mul];grind
def bCW(a:aX n0 G μ H w) {e:TypeId} {ty:Ty} {l:List ty.den} (c:l.length=0) {s:Sem Value} {ao:Option Addr} (h:s.run P w=.ok (.slice ao 0 0) w):C5 P n0 w G μ s (.own H.length ty.size) (H++[some ⟨aI ty l,e,true,false,some ⟨ty,l⟩⟩]):=by
 have⟨f,b⟩:=vY (on:=some l.length) a ⟨aI ty l,e,true,false,some ⟨ty,l⟩⟩ (λg d=>by cases d; exact⟨rfl,rfl⟩);refine⟨_,w,G,_,h,f,b,?_⟩;exact⟨l.length,rZ _ _ _ _,.inl ⟨c,ao,rfl⟩⟩
section
variable {t u e:TypeId} {i:TypeInfo} {z:Value} {d:TypeDesc} (ht:P.underlying t=some (.slice e)) (hu:P.underlying u=some d) (hd:∀ k,d≠.int k) (hi:P.info? e=some i) (hz:i.zero=some z)
include ht hu hd hi hz
def aET(k:aX n0 G μ H w) {ty:Ty} (b:i.size=ty.size) (h:i.bytes<=65536) (j:z.cells.size=i.size) {x:Value} {new:List ty.den} {tt:TypeId} {ao:Option Addr} (o:aYP P w G μ ty x new) (hn:new.length<=1048576) :
  C5 P n0 w G μ (Builtin.append_ #[t,u] tt #[.slice ao 0 0,x]) (.own H.length ty.size) (H++[some ⟨aI ty new,e,true,false,some ⟨ty,new⟩⟩]):=by
 have⟨s1,vs,s2,g⟩:=o;rw[<- b]at g;by_cases d:new.length=0;have f:vs=#[]:=(by have:=s2.length;rw[bG,d,Nat.zero_mul,Array.length_toList]at this;grind);subst f;have:=LQ (w:=w) (w':=w) (ty:=tt) (ao:=ao) (l:=0) (c:=0) ht hu hd hi s1 Z (g w rfl) (by cases ao <;> simp[storeCells]);rw[d]at this;exact bCW k d this
 ·have⟨c',n,m⟩:=EZ (w:=w) (ty:=tt) (ao:=ao) (l:=0) (c:=0) ht hu hd hi hz s1 Z h hn Z (os:=#[]) g (λp _=>by
   cases ao with
   | none=>rfl
   | some a=>simp[Builtin.firstCells,loadCells,loadCellsFrom])
  rw[Nat.zero_add]at n m;exact aM6 k (os:=#[]) (vs:=vs) (by simpa using s2) n (by rw[tV,j,b]) m
def a3N(C:aX n0 G μ H w) {ty:Ty} (m:i.size=ty.size) (X:i.bytes<=65536) (hzs:z.cells.size=i.size) {x:Value} {new l:List ty.den} {tt:TypeId} (V:aYP P w G μ ty x new) (hn:new.length<=1048576) (hl:l.length<=1048576)
  (O:∀ vs:List Value,VRs w G μ (aI ty new) vs->∀ v∈vs,v.oneCell'=true)
  {r:Nat} {k:Blk} (E:iN H r=some k) (hf:k.frozen=false) (F:k.grown=true) (R:k.ty=e) (L:k.tag=some ⟨ty,l⟩) {b c:Nat} (y:μ.loc r=some b) (hlc:l.length<=c) (A:Room w b (μ.sh r+c*ty.size)) {q:PV} (hq:q=.qs H.length ty.size\/q=.own H.length ty.size/\μ.sh r=0) :
  C5 P n0 w G μ (Builtin.append_ #[t,u] tt #[.slice (some ⟨b,μ.sh r,none⟩) l.length c,x]) q (H.set r none++[some ⟨aI ty (l++new),e,true,false,some ⟨ty,l++new⟩⟩]):=by
 have⟨cs,g2,g3,g4,g5,g6⟩:=C.blk r k b (aG E) y;have⟨I,ht2⟩:=C.tags r k _ (aG E) L;simp only at I ht2;rw[I]at g3;have⟨s1,vs,s2,W⟩:=V;rw[<- m]at W;have hvl:new.length*ty.size=vs.size:=by have:=s2.length; rw[bG]at this; simpa using this
 have⟨i1,i2⟩:=RU g2 g3;have K:=bG ty l;rw[K]at i1 i2
 by_cases a:l.length+new.length<=c
 ·have⟨c2,t2,fr2,r1,r2⟩:=A;rw[g2]at r1; cases r1;have hmul:(l.length+new.length)*ty.size<=c*ty.size:=Nat.mul_le_mul_right _ a;rw[Nat.add_mul]at hmul;have M:Fits cs (μ.sh r+l.length*ty.size) vs.toList:=.inr (by simp only[Array.length_toList]; omega);have⟨w',Q,D⟩:=BJ (P:=P) (off:=μ.sh r+l.length*ty.size) vs.toList 0 w cs (O _ s2) g2 M;rw[Nat.add_zero]at D;have f:(xH cs (μ.sh r+l.length*ty.size) vs.toList).size=cs.size:=NG M
  have e1:=FD C (aG E) hf y g2 D f;have o:=IB (k':=⟨aI ty (l++new),e,true,false,none⟩) C (aG E) hf y g2 (R ▸ D) f rfl (by
   refine FG (n:=l.length*ty.size+vs.size) D.at_ (VRs.mono e1.toMono _ _ ?_);have h3:=i1.append s2;rw[<- uA]at h3;rw[R5 (by simp only[Array.length_toList]; omega) zN,List.take_take,Nat.min_eq_left zN,@List.drop_eq_nil_of_le _ ((cs.toList.drop (μ.sh r)).take (l.length*ty.size+vs.size)) _ (by simp only[List.length_take,Array.length_toList]; omega),List.append_nil];exact h3) (λh=>by cases h) (λg F=>by cases F)
  have p:r<H.length:=(oO.1 (aG E)).1;have⟨e3,N⟩:=aCK (r:=r) (on:=some (l++new).length) o (List.getElem?_set_self p) y (λg F=>by cases F);simp only[List.length_set,List.set_set]at e3 N;have Y:aX n0 G (upd μ H.length (some b) (some (l++new).length) (μ.sh r)) (H.set r none++[some ⟨aI ty (l++new),e,true,false,some ⟨ty,l++new⟩⟩]) w':=by
   have d:=wB o r;simp only[List.set_set]at d;have hlen:(H.set r none).length=H.length:=zr
   have T:Ext n0 w' G μ w' G (upd μ (H.set r none).length (some b) (some (l++new).length) (μ.sh r)):=by rw[hlen]; exact e3
   have:=SG d T ⟨aI ty (l++new),e,true,false,some ⟨ty,l++new⟩⟩ (λ_ _ _ _ _=>rfl) (by
    rintro b' B;cases B;have⟨c9,k2,k3,k4,k5,k6⟩:=o.blk r _ b (List.getElem?_set_self p) y;exact⟨c9,k2,aT.mono T.toMono rfl _ _ k3,λh=>(by cases h),λh=>(by cases h),k6⟩) (λg F=>by cases F; exact⟨rfl,rfl⟩) (by
    intro s k' b' V S B Z;cases Z;have⟨hs1,U⟩:=zI V;exact U (C.inj s r k' k b hs1 (aG E) S hf B y))
    (VG d T (λt l Q D=>by cases Q) (λ_ _ _=>rfl) (λj b1 hj _ Z=>by cases Z; exact(o.rows.sep j b hj).2.2.2 r _ (List.getElem?_set_self p) rfl y))
   rwa[hlen]at this
  have J:=LQ (w:=w) (w':=w') (ty:=tt) (ao:=some ⟨b,μ.sh r,none⟩) ht hu hd hi s1 a (W w rfl) (by simp only[Addr.add_lit,m]; exact Q);refine⟨_,w',G,_,J,e1.trans e3,Y,?_⟩;have hR:Room w' b (μ.sh r+c*ty.size):=⟨_,_,_,D.at_,by rw[f]; exact r2⟩;rcases hq with rfl|⟨rfl,hs0⟩
  ·rw[VR,GO];exact⟨_,rZ _ _ _ _,.inr ⟨b,c,mH _ _ _ _,by rw[oH],by rw[oH]; exact a,hR⟩⟩
  ·rw[VR,GO];exact⟨_,rZ _ _ _ _,.inr ⟨b,c,mH _ _ _ _,by rw[oH],by rw[oH]; exact a,hR,hs0⟩⟩
 ·have⟨os,o1,o2⟩:=(LN (P:=P) (c:=c) g3 (bG _ _):Source P w G μ ty.size (.slice (some ⟨b,μ.sh r,none⟩) l.length c) _ l.length).2.2 l.length (oM _);rw[List.take_of_length_le (by rw[K]; exact oM _)]at o1;rw[<- m]at o2;have⟨c',q1,q2⟩:=EZ (w:=w) (ty:=tt) (ao:=some ⟨b,μ.sh r,none⟩) ht hu hd hi hz s1 a X hn hl W o2;have hlen:(H.set r none).length=H.length:=zr
  have:=aM6 (wB C r) (e:=e) (ty:=ty) (l:=l++new) (c':=c') (os:=os) (vs:=vs) (rest:=Builtin.zeroCells z.cells (c'-(l.length+new.length))) (by rw[uA,Array.toList_append]; exact o1.append s2) (by rw[oH]; exact q1) (by rw[tV,hzs,m,oH]) (s:=Builtin.append_ #[t,u] tt #[.slice (some ⟨b,μ.sh r,none⟩) l.length c,x]) (by rw[oH]; exact q2);rw[hlen]at this;rcases hq with rfl|⟨rfl,_⟩
  ·exact this.qs
  ·exact this
omit hz in
def bID(y:aX n0 G μ H w) {ty:Ty} (h:i.size=ty.size) {x:Value} {new l:List ty.den} {tt:TypeId} (I:aYP P w G μ ty x new)
  (p:∀ vs:List Value,VRs w G μ (aI ty new) vs->∀ v∈vs,v.oneCell'=true)
  {r lo n:Nat} {k:Blk} (C:iN H r=some k) (J:k.frozen=false) (F:k.ty=e) (d:k.tag=some ⟨ty,l⟩) {b c m:Nat} (B:μ.loc r=some b) (f:Room w b (μ.sh r+(lo+c)*ty.size)) (hm:μ.len r=some m) (a:m<=lo+c) (s:μ.sh r=0) (j:lo+n+new.length<=l.length) :
  C5 P n0 w G μ (Builtin.append_ #[t,u] tt #[.slice (some ⟨b,μ.sh r+lo*ty.size,none⟩) n c,x]) (.win r lo (n+new.length) ty.size) (H.set r (some { k with cells:=aI ty (spl l (lo+n) new),tag:=some ⟨ty,spl l (lo+n) new⟩ })):=by
 have⟨D,o⟩:=y.tags r k _ (aG C) d;rw[hm]at o;cases o;have⟨s1,vs,s2,z⟩:=I;rw[<- h]at z;have⟨w',E,A,q⟩:=bFG (P:=P) y s2 (p _ s2) C J d B j;have g:=LQ (w:=w) (w':=w') (ty:=tt) (ao:=some ⟨b,μ.sh r+lo*ty.size,none⟩) (l:=n) (c:=c) ht hu hd hi s1 (by simp only at a; omega) (z w rfl) (by simp only[Addr.add_lit,h,Nat.add_assoc,<- Nat.add_mul]; exact E);refine⟨_,w',G,μ,g,A,q,?_⟩;rw[VR];exact⟨b,c,l.length,B,rfl,by simp only at a; omega,A.room _ _ f,hm,by omega,a,s⟩
end
def bFF:∀ t x vs,VRs w G μ (enc t x) vs->∀ v∈vs,v.oneCell'=true
 | .int k,x,vs,h,v,c=>by obtain⟨u,rfl,d⟩:=aAO h; rw[VR]at d; subst d; rcases List.mem_singleton.1 c with rfl; rfl
 | .bool,x,vs,h,v,c=>by obtain⟨u,rfl,d⟩:=aAO h; subst d; rcases List.mem_singleton.1 c with rfl; rfl
 | .str,x,vs,h,v,c=>by obtain⟨u,rfl,d⟩:=aAO h; rw[VR]at d; subst d; rcases List.mem_singleton.1 c with rfl; rfl
 | .list t,x,vs,h,v,c=>by
  obtain⟨u,rfl,d⟩:=aAO h;obtain⟨_,_,rfl⟩:=a7D d;rcases List.mem_singleton.1 c with rfl; rfl
 | .hnd sz,x,vs,h,v,c=>by
  obtain⟨u,rfl,d⟩:=aAO h;obtain⟨_,_,rfl,_⟩:=d;rcases List.mem_singleton.1 c with rfl; rfl
 | .smap,x,vs,h,v,c=>by
  obtain⟨u,rfl,d⟩:=aAO h;obtain⟨_,_,_,rfl,_⟩:=d;rcases List.mem_singleton.1 c with rfl; rfl
 | .rows t,x,vs,h,v,c=>by obtain⟨u,rfl,d⟩:=aAO h; rw[VR]at d; subst d; rcases List.mem_singleton.1 c with rfl; rfl
 | .prod a b,(x,y),vs,h,v,c=>by
  simp only[enc]at h;have d:=h.take (enc a x).length;have e:=h.drop (enc a x).length;rw[List.take_left]at d;rw[List.drop_left]at e;rw[<- List.take_append_drop (enc a x).length vs]at c;rcases List.mem_append.1 c with c|c
  ·exact bFF a x _ d v c
  ·exact bFF b y _ e v c
def Z1 t:∀ l vs,VRs w G μ (aI t l) vs->∀ v∈vs,v.oneCell'=true
 | [],vs,h,v,hv=>by simp only[aI,List.flatMap_nil]at h; subst h; grind
 | x::l,vs,h,v,hv=>by
  rw[yT]at h;have b:=h.take (enc t x).length;have a:=h.drop (enc t x).length;rw[List.take_left]at b;rw[List.drop_left]at a;rw[<- List.take_append_drop (enc t x).length vs]at hv;rcases List.mem_append.1 hv with hv|hv
  ·exact bFF t x _ b v hv
  ·exact Z1 t l _ a v hv
def ZD {H1 e ty l cs0 cs v H' c}(h:aZ2 H1 e ty l cs0=some (cs,v,H',c)):cs=cs0/\v=.own H1.length ty.size/\H'=H1++[some ⟨aI ty l,e,true,false,some ⟨ty,l⟩⟩]/\c=2:=by
 obtain⟨rfl,rfl,rfl,rfl⟩:=h;simp
set_option maxHeartbeats 1000000 in
def bBP(C:aX n0 G μ H w) {D:Array TypeId} {tt:TypeId} {p q v:PV} {s x:Value} {cs:List Bool} {H':Heap} {c:Nat} (hp:VR w G μ p s) (hq:VR w G μ q x) (U:J7 (bAL H q)=true) (h:aYO P H D p q=some (cs,v,H',c)) (a:J7 cs=true) :
  c=2/\C5 P n0 w G μ (Builtin.append_ D tt #[s,x]) v H':=by
 unfold aYO at h;split at h
 next t u A=>
  have A:D=#[t,u]:=by apply Array.ext'; simpa using A
  subst A;split at h;cases h;cases h
  next d L hu=>
   have hd:∀ k,d≠.int k:=λk F=>L k F;split at h
   ·rename_i e ty V;have⟨ht,M⟩:=ID V;split at h
    ·rename_i i hi;have f:=ZW M hi;split at h
     ·rename_i z hz;cases N:(Nat.ble i.bytes 65536&&Nat.beq z.cells.size i.size)with
      | false=>rw[N]at h; cases h
      | true =>
       rw[N]at h;simp only[oC]at h;simp only[oA]at N;have o:=oL N.1;have y:=oE N.2;split at h
       ·rename_i new J;have E:=aAP (P:=P) C hq U J;split at h
        ·rename_i m c0;cases hm:(Nat.beq m 0&&Nat.beq c0 0)with
         | false=>rw[hm]at h; cases h
         | true =>
          rw[hm]at h;simp only[oC]at h;simp only[oA]at hm;have e1:=oE hm.1;have e2:=oE hm.2;subst e1; subst e2;obtain⟨rfl,rfl,rfl,rfl⟩:=ZD h;rw[VR]at hp;subst hp;exact⟨rfl,aET ht hu hd hi hz C f o y E (oL (aW a).1)⟩
        ·rename_i r sz;split at h
         ·rename_i k F;split at h
          ·rename_i g T;have⟨gt,gl⟩:=g;split at h
           ·rename_i l I;obtain⟨rfl,rfl⟩:=mL I;cases hm:(Nat.beq sz gt.size&&!k.frozen&&Nat.beq k.ty e&&k.grown)with
            | false=>rw[hm]at h; cases h
            | true =>
             rw[hm]at h;simp only[oC]at h;simp only[oA,Bool.not_eq_true']at hm;have⟨⟨⟨m1,m2⟩,m3⟩,m4⟩:=hm;have m1:=oE m1;have m3:=oE m3;subst m1;obtain⟨rfl,rfl,rfl,rfl⟩:=ZD h;refine⟨rfl,?_⟩;have⟨c1,a⟩:=aW a;have⟨c2,_⟩:=aW a;have⟨ht1,Q⟩:=C.tags r k _ (aG F) T;have j:(H.set r none).length=H.length:=zr
             rw[VR]at hp;have⟨n,Z,S⟩:=hp;simp only at Q;rw[Q]at Z;cases Z;rcases S with ⟨S,ao,rfl⟩|⟨b,X,K,rfl,Y,R⟩
             ·have O:gl=[]:=List.eq_nil_of_length_eq_zero S;subst O;have:=aET (tt:=tt) (ao:=ao) (e:=e) ht hu hd hi hz (wB C r) f o y E (oL c1);simpa using this
             ·rw[j];exact a3N ht hu hd hi hz C f o y E (oL c1) (oL c2) (λvs h=>Z1 _ _ vs h) F m2 m4 m3 T K Y R.1 (.inr ⟨rfl,R.2⟩)
           ·cases h
          ·cases h
         ·cases h
        ·rename_i r lo n sz;split at h
         ·rename_i k F;split at h
          ·rename_i g T;have⟨gt,gl⟩:=g;split at h
           ·rename_i l I;obtain⟨rfl,rfl⟩:=mL I;cases hm:(Nat.beq sz gt.size&&!k.frozen&&Nat.beq k.ty e)with
            | false=>rw[hm]at h; cases h
            | true =>
             rw[hm]at h;simp only[oC,oJ,oP]at h;obtain⟨rfl,rfl,rfl,rfl⟩:=h;simp only[oA,Bool.not_eq_true']at hm;have⟨⟨m1,m2⟩,m3⟩:=hm;have m1:=oE m1;have m3:=oE m3;subst m1;refine⟨rfl,?_⟩;have c1:=oL (aW a).1;rw[VR]at hp;obtain⟨b,X,m,K,rfl,Y,R,h7,_,h8,h9⟩:=hp;exact bID ht hu hd hi C f E (λvs h=>Z1 _ _ vs h) F m2 m3 T K R h7 h8 h9 c1
           ·cases h
          ·cases h
         ·cases h
        ·rename_i u' W c0 ee;split at h
         ·rename_i l I;obtain⟨rfl,rfl⟩:=mL I;have hv:=aKC hp;rw[VR]at hv;obtain⟨ao,X,rfl,S,K,h4⟩:=hv;have:=K c0 rfl;subst this;obtain⟨rfl,rfl,rfl,rfl⟩:=ZD h;refine⟨rfl,?_⟩;have⟨c1,a⟩:=aW a;have⟨c2,a⟩:=aW a;have⟨c3,_⟩:=aW a;cases B:Nat.beq X 0 with
          | true =>
           have B:=oE B;subst B;obtain rfl:=List.eq_nil_of_length_eq_zero (show W.length=0 by omega);exact aET ht hu hd hi hz C f o y E (oL c1)
          | false =>
           rw[B,Bool.false_or]at c3;have c3:=gE c3;have⟨s1,vs,s2,s3⟩:=E;have⟨os,o1,o2⟩:=(a3R (P:=P) (μ:=μ) (aKC hp).bF (bG _ _)).2.2 W.length (oM _);rw[List.take_of_length_le (by rw[bG]; exact oM _)]at o1;rw[<- f]at s3 o2;have⟨c',q1,q2⟩:=EZ (w:=w) (ty:=tt) (ao:=ao) ht hu hd hi hz s1 zN o (oL c1) (oL c2) s3 o2;exact aM6 C (e:=e) (l:=W++new) (c':=c') (os:=os) (vs:=vs) (by rw[uA,Array.toList_append]; exact o1.append s2) (by rw[oH]; exact q1) (by rw[tV,y,f,oH]) (by rw[oH]; exact q2)
         ·cases h
        ·cases h
       ·cases h
     cases h
    cases h
   cases h
 cases h
set_option maxHeartbeats 1000000 in
def a71(J:aX n0 G μ H w) {f:Array TypeId} {tt:TypeId} {p q v:PV} {s x:Value} {cs:List Bool} {H':Heap} {c:Nat} (hp:VR w G μ p s) (V:VR w G μ q x) (L:J7 (bAL H q)=true) (h:aR6 P H f p q=some (cs,v,H',c)) (j:J7 cs=true) :
  c=2/\C5 P n0 w G μ (Builtin.append_ f tt #[s,x]) v H':=by
 unfold aR6 at h;split at h
 next t u a=>
  have a:f=#[t,u]:=by apply Array.ext'; simpa using a
  subst a;split at h;cases h;cases h
  next d B hu=>
   have hd:∀ k,d≠.int k:=λk K=>B k K;split at h
   ·rename_i e ty M;have⟨ht,C⟩:=ID M;split at h
    ·rename_i i hi;have A:=ZW C hi;split at h
     ·rename_i z hz;cases D:(Nat.ble i.bytes 65536&&Nat.beq z.cells.size i.size)with
      | false=>rw[D]at h; cases h
      | true =>
       rw[D]at h;simp only[oC]at h;simp only[oA]at D;have y:=oL D.1;have F:=oE D.2;split at h
       ·rename_i new o;have Q:=aAP (P:=P) J V L o;split at h
        ·rename_i r sz;split at h
         ·rename_i k K;split at h
          ·rename_i g R;have⟨gt,U⟩:=g;split at h
           ·rename_i l T;obtain⟨rfl,rfl⟩:=mL T;cases hm:(Nat.beq sz gt.size&&!k.frozen&&Nat.beq k.ty e&&k.grown)with
            | false=>rw[hm]at h; cases h
            | true =>
             rw[hm]at h;simp only[oC,oJ,oP]at h;simp only[oA,Bool.not_eq_true']at hm;have⟨⟨⟨m1,m2⟩,m3⟩,m4⟩:=hm;have m1:=oE m1;have m3:=oE m3;subst m1;obtain⟨rfl,rfl,rfl,rfl⟩:=h;refine⟨rfl,?_⟩;have⟨c1,j⟩:=aW j;have⟨c2,_⟩:=aW j;have⟨S,I⟩:=J.tags r k _ (aG K) R;have m:(H.set r none).length=H.length:=zr
             rw[VR]at hp;have⟨n,O,N⟩:=hp;simp only at I;rw[I]at O;cases O;rcases N with ⟨N,ao,rfl⟩|⟨b,cc,h3,rfl,h5,h6⟩
             ·have E:U=[]:=List.eq_nil_of_length_eq_zero N;subst E;have:=(aET (tt:=tt) (ao:=ao) (e:=e) ht hu hd hi hz (wB J r) A y F Q (oL c1)).qs;simpa using this
             ·exact a3N ht hu hd hi hz J A y F Q (oL c1) (oL c2) (λvs h=>Z1 _ _ vs h) K m2 m4 m3 R h3 h5 h6 (.inl rfl)
           ·cases h
          ·cases h
         ·cases h
        ·cases h
       ·cases h
     cases h
    cases h
   cases h
 cases h
def bBI {F:Frm} {a:Act} {nt:Nat} (J:aX n0 G μ H w) (hF:fG w G μ nt F a) {t:TypeId} {p v:PV} {x:Value} {lo hi:Option Operand} {cs:List Bool} {H':Heap} {c:Nat} (hp:VR w G μ p x) (h:aX2 P H t p (lo.map (ev F)) (hi.map (ev F))=some (cs,v,H',c)) (u:J7 cs=true) :
  c=2/\C5 P n0 w G μ (Instr.sliceAt t x (lo.map a.eval) (hi.map a.eval) none) v H':=by
 unfold aX2 at h;split at h
 next e hu=>
  split at h
  next n hs=>
   split at h
   ·rename_i r sz;split at h
    ·rename_i k R;split at h
     ·rename_i g N;split at h
      ·rename_i b1 i b2 j S W;have⟨hb,h⟩:=yP h;obtain⟨rfl,rfl,rfl,rfl⟩:=h;refine⟨rfl,?_⟩;simp only[oA,Bool.not_eq_true']at hb;have⟨⟨⟨m1,m2⟩,m3⟩,m4⟩:=hb;have m1:=oE m1;have m2:=oE m2;subst m1;have⟨c1,u⟩:=aW u;have⟨c2,u⟩:=aW u;have⟨c3,u⟩:=aW u;have⟨c4,_⟩:=aW u;have T:=oL c3;have L:=oL c4;have⟨K,O⟩:=J.tags r k g (aG R) N;have⟨gt,z⟩:=g;dsimp only at m2 L K O W ⊢
       subst m2;have⟨m,e1,I⟩:=hp;rw[O]at e1;cases e1;have hlen:((z.drop i).take (j-i)).length=j-i:=by simp; omega
       have d:(H.set r none).length=H.length:=zr
       have q:=wB J r;have run:∀ ao c',z.length<=c'->x=.slice ao z.length c'->(Instr.sliceAt t x (lo.map a.eval) (hi.map a.eval) none).run P w=.ok (.slice (if c'=i then ao else ao.map (·.add (i*gt.size))) (j-i) (c'-i)) w:=λao c' hc B=>by
        subst B;have hr:=CV (P:=P) (isSlice:=true) (RA hF (BP S c1)) (RA hF (BP W c2)) T (oR L hc) w;simp[Instr.sliceAt,Instr.slice,run_underlying hu,hr,run_sizeOf hs]
       have fin:∀ (Q:Option Nat) (o:Nat) (v':Value),(Instr.sliceAt t x (lo.map a.eval) (hi.map a.eval) none).run P w=.ok v' w->Ext n0 w G μ w G (upd μ H.length Q (some (j-i)) o)->aX n0 G (upd μ H.length Q (some (j-i)) o) (H.set r none++[some ⟨aI gt ((z.drop i).take (j-i)),k.ty,true,false,some ⟨gt,(z.drop i).take (j-i)⟩⟩]) w ->
         ((j-i=0/\∃ ao,v'=.slice ao 0 0)\/∃ b c,Q=some b/\v'=.slice (some ⟨b,o,none⟩) (j-i) c/\j-i<=c/\Room w b (o+c*gt.size)) ->
         C5 P n0 w G μ (Instr.sliceAt t x (lo.map a.eval) (hi.map a.eval) none) (.qs H.length gt.size) (H.set r none++[some ⟨aI gt ((z.drop i).take (j-i)),k.ty,true,false,some ⟨gt,(z.drop i).take (j-i)⟩⟩]):=λQ o v' M he hw hv=>by
        refine⟨v',w,G,_,M,he,hw,?_⟩;rw[VR,mH,GO];exact⟨_,rZ ..,hv⟩
       cases y:μ.loc r with
       | none =>
        rcases I with ⟨I,ao,B⟩|⟨b,c',e3,_⟩
        ·have⟨u1,u2⟩:=vY q (on:=some (j-i)) ⟨aI gt ((z.drop i).take (j-i)),k.ty,true,false,some ⟨gt,(z.drop i).take (j-i)⟩⟩ (λg N=>by cases N; exact⟨rfl,by rw[hlen]⟩);rw[d]at u1 u2;have f:j-i=0:=zN
         refine fin none 0 _ (run ao 0 zN (by rw[I]; exact B)) u1 u2 (.inl ⟨f,_,by rw[f,Nat.zero_sub]⟩)
        ·rw[y]at e3; cases e3
       | some b =>
        have⟨cc,a1,a2,a3,a4,a5⟩:=J.blk r k b (aG R) y;rw[K]at a2;have A:=SE J (some b) (some (j-i)) (μ.sh r+i*gt.size);have E:Ext n0 w G μ w G (upd μ (H.set r none).length (some b) (some (j-i)) (μ.sh r+i*gt.size)):=by rw[d]; exact A
        have C:=SG q E ⟨aI gt ((z.drop i).take (j-i)),k.ty,true,false,some ⟨gt,(z.drop i).take (j-i)⟩⟩ (λ_ _ _ _ _=>rfl) (by
          rintro b' D;cases D;refine⟨cc,a1,?_,λh=>(by cases h),λh=>(by cases h),λ_=>a5 m3⟩;have h7:=a2.sub (i*gt.size) ((j-i)*gt.size);rw[BI,yV]at h7;exact aT.mono E.toMono rfl _ _ h7) (λg N=>by cases N; exact⟨rfl,by rw[hlen]⟩) (by
          intro s k' b' Z U D X;cases X;have⟨Y,V⟩:=zI Z;exact V (J.inj s r k' k b Y (aG R) U m3 D y))
         (VG q E (λt l S W=>by cases S) (λ_ _ _=>rfl) (λj b1 hj _ X=>by cases X; exact(J.rows.sep j b hj).2.2.2 r k (aG R) m3 y))
        rw[d]at C;rcases I with ⟨I,ao,B⟩|⟨b',c',e3,B,e5,e6⟩
        ·have f:j-i=0:=zN
         exact fin _ _ _ (run ao 0 zN (by rw[I]; exact B)) A C (.inl ⟨f,_,by rw[f,Nat.zero_sub]⟩)
        ·rw[y]at e3; cases e3;refine fin _ _ _ (run _ c' e5 B) A C ?_
         by_cases hc:c'=i
         ·have f:j-i=0:=zN
          have hc0:c'-i=0:=zN
          exact .inl ⟨f,_,by rw[f,hc0]⟩
         ·refine .inr ⟨b,c'-i,rfl,by rw[if_neg hc]; simp[Addr.add_lit],by omega,?_⟩;have:μ.sh r+i*gt.size+(c'-i)*gt.size=μ.sh r+c'*gt.size:=by rw[Nat.add_assoc,<- Nat.add_mul]; congr 2; omega
          rw[this]; exact e6
      cases h
     cases h
    cases h
   cases h
  cases h
 cases h
end
section
variable {P:Program} {n0:Nat->Prop} {w:World} {G:Gd} {μ:Mp} {H:Heap} {F:Frm} {a:Act} {nt:Nat}
def bA0(a:aX n0 G μ H w) r:∃ G',Ext n0 w G μ w G' μ/\aX n0 G' μ (ZO H r) w:=by
 unfold ZO;split
 next k b=>
  cases c:k.frozen with
  | true=>exact⟨G,Ext.refl _ _ _ _,a⟩;| false=>exact⟨_,aJZ a (aG b) c⟩
 exact⟨G,Ext.refl _ _ _ _,a⟩
def NW:∀ rs H G,aX n0 G μ H w->∃ G',Ext n0 w G μ w G' μ/\aX n0 G' μ (NC H rs) w
 | [],H,G,hW=>⟨G,Ext.refl _ _ _ _,hW⟩
 | r::rs,H,G,hW=>by
  have⟨G1,c,d⟩:=bA0 hW r;have⟨G2,b,a⟩:=NW rs _ G1 d;exact⟨G2,c.trans b,a⟩
def U3(m:aX n0 G μ H w) {r sz:Nat} {k:Blk} {g:Tg} {v:Value} (q:VR w G μ (.own r sz) v) (d:iN H r=some k) (x:k.tag=some g) {G':Gd} (hG:∀ b,G b->G' b) (s:∀ b,μ.loc r=some b->G' b) (z:∀ j b,G.row j=some b->G'.row j=some b:=by exact λ_ _ h=>h):VR w G' aH (zX g.t g.l none) v:=by
 have⟨e,i⟩:=m.tags r k g (aG d) x;have hm:Mono w G μ w G' μ:=⟨λb u=>⟨hG b u,rfl⟩,λ_ _ h=>h,λ_ _ h=>h,λ_ _ h=>h,z,λ_ _ _=>rfl⟩;have⟨n,o,f⟩:=q;rw[i]at o;cases o;refine aOS ?_;rcases f with ⟨f,ao,rfl⟩|⟨b,c,h3,rfl,h5,h6⟩;have a:g.l=[]:=List.eq_nil_of_length_eq_zero f;exact⟨ao,0,by rw[a]; rfl,by omega,λk d=>(by cases d),.inl (by rw[a]; rfl)⟩;have⟨c',g2,g3,_⟩:=m.blk r k b (aG d) h3;rw[e]at g3;refine⟨_,c,rfl,h5,λk d=>(by cases d),.inr ⟨b,μ.sh r,rfl,s b h3,?_⟩⟩;have⟨vs,p,y⟩:=g3.values;exact aT.vK (cZ _ _ (lB _ _) (VRs.mono hm _ _ p)) y
def bLJ(i:aX n0 G μ H w){r lo n sz:Nat}{k:Blk}{g:Tg}{v:Value}(s:VR w G μ (.win r lo n sz) v)(a:iN H r=some k)(y:k.tag=some g)(e:sz=g.t.size){G':Gd}(hG:∀ b,G b->G' b)(u:∀ b,μ.loc r=some b->G' b)(A:∀ j b,G.row j=some b->G'.row j=some b:=by exact λ_ _ h=>h) :
  VR w G' aH (zX g.t ((g.l.drop lo).take n) none) v:=by
 subst e;have⟨d,f⟩:=i.tags r k g (aG a) y;have hm:Mono w G μ w G' μ:=⟨λb x=>⟨hG b x,rfl⟩,λ_ _ h=>h,λ_ _ h=>h,λ_ _ h=>h,A,λ_ _ _=>rfl⟩;obtain⟨b,c,m,o,rfl,p,B,hm,hle,_⟩:=s;rw[f]at hm;cases hm;refine aOS ?_;have hlen:((g.l.drop lo).take n).length=n:=by rw[List.length_take,List.length_drop]; omega
 rw[hlen];have⟨c',g2,g3,_⟩:=i.blk r k b (aG a) o;rw[d]at g3;refine⟨_,c,rfl,p,λk a=>(by cases a),.inr ⟨b,μ.sh r+lo*g.t.size,rfl,u b o,?_⟩⟩;have g4:=g3.sub (lo*g.t.size) (n*g.t.size);rw[BI,yV]at g4;have⟨vs,q,z⟩:=g4.values;exact aT.vK (cZ _ _ (lB _ _) (VRs.mono hm _ _ q)) z
def bHG(a:aX n0 G μ H w){p q v}(h:bMK H p=some q)(d:VR w G μ p v):VR w G aH q v:=by
 unfold bMK at h;split at h
 next r sz=>
  split at h
  next k c=>
   split at h
   ·rename_i g i;cases e:k.frozen with
    | false=>grind
    | true =>
     rw[e]at h;simp only[oC,oJ]at h;subst h;exact U3 a d c i (λb h=>h) (λb f=>by
      have⟨_,_,_,_,j,_⟩:=a.blk r k b (aG c) f;grind)
   grind
  grind
 have⟨hn,h⟩:=yP h;cases h;exact IV p v hn d
def bGB(b:aX n0 G μ H w):∀ {ps qs vs},bJ0 H ps=some qs->VRs w G μ ps vs->VRs w G aH qs vs
 | [],qs,vs,h,hv=>by
  cases h;exact hv
 | p::ps,qs,vs,h,hv=>by
  unfold bJ0 at h;split at h
  next q c=>
   split at h
   next d a=>cases h;have⟨x,xs,e,f,g⟩:=hv;exact⟨x,xs,e,bHG b c f,bGB b a g⟩
   grind
  grind
def bY4(c:aX n0 G μ H w){p q v}(h:XW.inlT H p=some q)(a:VR w G μ p v):VR w G aH q v:=by
 unfold XW.inlT at h;split at h
 next cs=>
  cases hn:eM.noRefs cs with
  | true =>
   rw[hn]at h;cases h;exact IV _ v (by simpa only[eM]using hn) a
  | false =>
   rw[hn,oD]at h;split at h
   next qs b=>cases h;have⟨vs,d,e⟩:=a;exact⟨vs,d,bGB c b e⟩
   grind
 exact bHG c h a
def bBT(e:aX n0 G μ H w){T p v u x y cs H' c}(hp:VR w G μ p x)(k:VR w G μ v y)(h:a6D P H T p v=some (cs,u,H',c))(b:J7 cs=true) :
  u=.lit undef/\c=2/\∃ w' G',(Instr.storeAt T x y).run P w=.ok () w'/\Ext n0 w G μ w' G' μ/\aX n0 G' μ H' w':=by
 unfold a6D at h;split at h;rename_i r s;split at h;rename_i q m;have⟨G1,d,a⟩:=NW [r] H G e;have⟨g,i,w',j,l,f⟩:=aY1 a (VR.mono d.toMono _ _ hp) (bHG a m (VR.mono d.toMono _ _ k)).bF h b;exact⟨g,i,w',G1,j,d.trans l,f⟩;grind;have⟨g,i,w',j,l,f⟩:=aY1 e hp k h b;grind
def a2W(w:World) (G:Gd) (μ:Mp):List (Nat×PV)->List (Nat×Value)->Prop| [],vs=>vs=[]|(i,p)::ps,vs=>∃ x xs,vs=(i,x)::xs/\VR w G μ p x/\a2W w G μ ps xs
def aRQ(c:aX n0 G μ H w)(ρ:Operand->Value):∀ (ops:List (Nat×Operand)) qs,(∀ x,VR w G μ (ev F x) (ρ x))->XW H (ops.map λp=>(p.1,ev F p.2))=some qs->a2W w G aH qs (ops.map λp=>(p.1,ρ p.2))
 | [],qs,_,h=>by
  simp only[List.map_nil,XW,oJ]at h;subst h;rfl
 | (i,x)::ops,qs,hF,h=>by
  simp only[List.map_cons,XW]at h;split at h
  next q d=>
   split at h
   next a b=>simp only[oJ]at h;subst h;exact⟨_,_,rfl,bY4 c d (hF x),aRQ c ρ ops a hF b⟩
   grind
  grind
def bIP {H1}:∀ ps,bG9 ps=[]->bJ0 H1 ps=bJ0 [] ps
 | [],_=>rfl
 | p::ps,h=>by
  have hp:bG9 ps=[]/\bMK H1 p=bMK [] p:=by cases p <;> simp only[bG9]at h <;> first|exact⟨h,rfl⟩|grind
  simp only[bJ0,hp.2,bIP ps hp.1]
def a7C {H1}:∀ ps,owns ps=[]->XW H1 ps=XW [] ps
 | [],_=>rfl
 | (i,p)::ps,h=>by
  have hp:owns ps=[]/\XW.inlT H1 p=XW.inlT [] p:=by cases p <;> simp only[owns]at h <;> first|exact⟨h,rfl⟩|grind|(have⟨b,a⟩:=List.append_eq_nil_iff.1 h; exact⟨a,by simp only[XW.inlT,bIP _ b]⟩)
  simp only[XW,hp.2,a7C ps hp.1]
def bVW place:∀ ps vs cs out c,a2W w G μ ps vs->VRs w G μ cs c.toList->aA7 place cs ps=some out->∃ c',Instr.fill place c vs=some c'/\VRs w G μ out c'.toList
 | [],vs,cs,out,c,hp,hc,h=>by
  subst hp;simp only[aA7,oJ]at h;exact⟨c,rfl,h ▸ hc⟩
 | (i,p)::ps,vs,cs,out,c,hp,hc,h=>by
  obtain⟨x,xs,rfl,g,e⟩:=hp;simp only[aA7]at h;split at h
  next off size new d b=>
   cases a:(Nat.beq new.length size&&Nat.ble (off+new.length) cs.length)with
   | false=>rw[a]at h; cases h
   | true =>
    rw[a]at h;simp only[oA]at a;have m:=oE a.1;have n:=oL a.2;have f:=aAC b g;have o:new.length=x.cells.size:=by simpa using f.length
    have j:cs.length=c.size:=by simpa using hc.length
    have⟨c',q,k⟩:=bVW place ps xs _ out _ e (bAG (off:=off) hc f) h;refine⟨c',?_,k⟩;simp only[Instr.fill,d];have l:=aOZ (off:=off) x.cells.toList 0 c W;rw[<- Array.foldl_toList];grind
  ·cases h
def a4G {t e ty} (f:OW P t=some (e,ty)) {z} (hz:N6 P e=some z) {len} (s:len*ty.size<=16777216) {qs vs} (hp:a2W w G aH qs vs.toList) {cs}
  (n:aA7 (λi=>some (i*ty.size,ty.size)) (UK z (len*ty.size)) qs=some cs) {l} (hd:KJ (dec ty) ty.size len cs=some l) :
  ∃ c' ,VRs w G aH (aI ty l) c'.toList/\l.length=len/\(Instr.buildSlice t len vs).run P w=.ok (.slice (some ⟨w.heap.size,0,none⟩) len len) (w.alloc (.cells c' e)):=by
 have⟨hu,k⟩:=ID f;have⟨c',o,r⟩:=bVW (w:=w) (G:=G) (μ:=aH) _ qs vs.toList _ cs _ hp (aKA z (len*ty.size)) n;have hzero:∃ i,P.info? e=some i/\i.zero=some z:=(by unfold N6 at hz;grind);have⟨i,hi,c⟩:=hzero;have⟨m,q⟩:=aBD (g:=enc ty) (λcs x vs h p=>JN ty aH cs x vs h p) hd r;refine⟨c',m,q,?_⟩
 ·have hn:¬ (len*ty.size>2^24):=Z
  have b:(Array.range (len*ty.size)).map (λx=>z.cells[x%z.cells.size]!)=madeCells z.cells (len*ty.size):=rfl;have j:Instr.fill (λi=>some (i*ty.size,ty.size)) (Array.map (λx=>z.cells[x%z.cells.size]!) (Array.range (len*ty.size))) vs.toList=some c':=by rw[b]; exact o
  by_cases d:len*ty.size=0;have a:Instr.fill (λi=>some (i*ty.size,ty.size)) (Array.map (λx=>(#[]:Array Value)[x%0]!) (Array.range (len*ty.size))) vs.toList=some c':=W;rw[d]at a;simp[Instr.buildSlice,run_underlying hu,run_sizeOf k,d,newRow];simp_all;simp only[Instr.buildSlice,Sem.run_bind,run_underlying hu,Result.andThen_ok,run_sizeOf k,if_neg hn,if_neg d];simp only[Sem.run_pure,Result.andThen_ok,Sem.run_bind,zeroValue,N9 hi,c,j];simp[newRow]
def aV0(c:aX n0 G μ H w) {t e ty} (a:OW P t=some (e,ty)) {z} (hz:N6 P e=some z) {len} (g:len*ty.size<=16777216) {qs vs} (hp:a2W w G aH qs vs.toList) {cs}
  (f:aA7 (λi=>some (i*ty.size,ty.size)) (UK z (len*ty.size)) qs=some cs) {l} (hd:KJ (dec ty) ty.size len cs=some l):C5 P n0 w G μ (Instr.buildSlice t len vs) (zX ty l (some len)) H:=by
 have⟨c',d,n,m⟩:=a4G a hz g hp f hd;have⟨b,h⟩:=aTX c (.cells c' e);refine⟨_,_,_,_,m,b,h,aOS ?_⟩;refine⟨_,_,by rw[n],by omega,λk o=>W,.inr ⟨w.heap.size,0,rfl,.inr rfl,aT.mk λj p hp=>?_⟩⟩;have⟨u,g1,g2⟩:=d.get hp;refine⟨u,?_,VR.mono b.toMono.aH p u g2⟩;simp_all
def a3L(b:aX n0 G μ H w) {t e ty} (a:OW P t=some (e,ty)) {z} (hz:N6 P e=some z) {len} (f:len*ty.size<=16777216) {qs vs} (hp:a2W w G aH qs vs.toList) {cs}
  (d:aA7 (λi=>some (i*ty.size,ty.size)) (UK z (len*ty.size)) qs=some cs) {l} (hd:KJ (dec ty) ty.size len cs=some l):C5 P n0 w G μ (Instr.buildSlice t len vs) (.own H.length ty.size) (H++[some ⟨aI ty l,e,true,false,some ⟨ty,l⟩⟩]):=by
 have⟨c',c,o,n⟩:=a4G a hz f hp d hd;have k:=QZ (on:=some l.length) b c' ⟨aI ty l,e,true,false,some ⟨ty,l⟩⟩ (λj p hp=>by
  have⟨u,g1,g2⟩:=c.get hp;exact⟨u,by grind,g2.bF⟩) (λh=>by grind) rfl (λg q=>by grind)
 have m:=c.length;rw[bG,o]at m;refine⟨_,_,G,_,n,OG b _ _ _,k,?_⟩;rw[VR,GO];simp only ;refine⟨l.length,rZ _ _ _ _,.inr ⟨w.heap.size,len,mH _ _ _ _,by grind,by omega,⟨c',e,(0,0),?_,by grind⟩,trivial⟩⟩;show (w.heap.push _)[w.heap.size]?=_;simp
def C5.trans {s v H' G1}(e:Ext n0 w G μ w G1 μ)(h:C5 P n0 w G1 μ s v H'):C5 P n0 w G μ s v H':=by
 have⟨v',w',G',μ',b,a,c⟩:=h;exact⟨v',w',G',μ',b,e.trans a,c⟩
def aX0(hW:aX n0 G μ H w) {sz r:Nat} {q:PV} {H1:Heap} {v:Value} (h:bGR H sz r=some (q,H1)) (hv:VR w G μ (.own r sz) v):∃ G' μ',Ext n0 w G μ w G' μ'/\aX n0 G' μ' H1 w/\VR w G' aH q v:=by
 unfold bGR at h;split at h
 next ra k har=>
  split at h
  next t l htag=>
   split at h
   ·rename_i kb hkb;split at h
    ·rename_i g hg;split at h
     ·rename_i row hrow;have⟨hb,h⟩:=yP h;obtain⟨rfl,rfl⟩:=h;simp only[oA,Bool.not_eq_true']at hb;have⟨⟨⟨⟨hf,hgr⟩,hty⟩,hm⟩,hsz⟩:=hb;have hm:k.ty≠aHV:=Nat.ne_of_beq_eq_false hm;have hty:=oE hty;have⟨gt,gl⟩:=g;obtain⟨rfl,rfl⟩:=mL hrow;have⟨hr,hkg⟩:=aSG har;have⟨a1,a2,a3⟩:=hW.rows.arn ra k gt l hr hkg htag;have⟨ht1,ht2⟩:=hW.tags r kb _ (aG hkb) hg;simp only at ht1 ht2;obtain⟨G',hG'⟩:∃ G':Gd,G'=⟨G.ok,λj=>if j=l.length then μ.loc r else G.row j⟩:=⟨_,rfl⟩
      have hrow':∀ j b,G.row j=some b->G'.row j=some b:=λj b hj=>by
       rw[hG'];grind
      have hrow2:∀ j b,G'.row j=some b->(j=l.length/\μ.loc r=some b)\/(j≠l.length/\G.row j=some b):=λj b hj=>by
       rw[hG']at hj;grind
      have hok:∀ b,G'.ok b=G.ok b:=λb=>by rw[hG']
      have e:Ext n0 w G μ w G' (upd μ H.length none (some (l++[gl]).length)):={ SE hW none (some (l++[gl]).length)with
       good:=λb hb=>⟨by rw[hok]; exact hb,rfl⟩
       row:=hrow'
       new:=λb hb=>.inl (by rw[<- hok]; exact hb) }
      have hnewblk:(H.set r none |>.set ra none).length=H.length:=R
      have key:∀ (s:Nat) (k1:Blk),(((H.set r none).set ra none)++[some ⟨aI (.rows gt) (l++[gl]),k.ty,false,k.frozen,some ⟨.rows gt,l++[gl]⟩⟩])[s]?=some (some k1) ->
        (s=H.length/\k1=⟨aI (.rows gt) (l++[gl]),k.ty,false,k.frozen,some ⟨.rows gt,l++[gl]⟩⟩)\/(s<H.length/\s≠r/\s≠ra/\H[s]?=some (some k1)):=by
       grind
      have hloc:∀ b,μ.loc r=some b->b<w.heap.size/\n0 b/\¬ G b:=λb hb=>by
       have⟨c,q1,_,_,_,q2⟩:=hW.blk r kb b (aG hkb) hb;grind
      refine⟨G',_,e,⟨?_,?_,?_,hW.lt.step (λb hb=>⟨by rw[hok]; exact hb,rfl⟩) λb hb=>hW.lt b (by rw[<- hok]; exact hb),?_,hW.base,?_,?_,?_,?_,?_⟩,?_⟩;intro s k1 b hs hb;rcases key s k1 hs with ⟨rfl,rfl⟩|⟨h1,h2,h3,h4⟩;rw[mH]at hb; cases hb;rw[(PE Z).1]at hb;have⟨c,q1,q2,q3,q4,q5⟩:=hW.blk s k1 b h4 hb;rw[a2Q Z];exact⟨c,q1,aT.mono e.toMono rfl _ _ q2,q3,λhf=>by rw[hok]; exact q4 hf,λhf=>by rw[hok]; exact q5 hf⟩;intro s k1 g1 hs hg1;rcases key s k1 hs with ⟨rfl,rfl⟩|⟨h1,h2,h3,h4⟩;cases hg1;exact⟨rfl,rZ _ _ _ _⟩;rw[(PE Z).2];exact hW.tags s k1 g1 h4 hg1;intro x1 x2 k1 k2 b h1 h2 f1 f2 m1 m2;rcases key x1 k1 h1 with ⟨rfl,rfl⟩|⟨p1,p2,p3,p4⟩;rw[mH]at m1; cases m1;rcases key x2 k2 h2 with ⟨rfl,rfl⟩|⟨q1,q2,q3,q4⟩;rw[mH]at m2; cases m2;rw[(PE Z).1]at m1 m2;exact hW.inj x1 x2 k1 k2 b p4 q4 f1 f2 m1 m2;intro s hs;rw[oH,hnewblk]at hs;simp only[List.length_cons,List.length_nil]at hs;rw[(PE Z).1,(PE Z).2];exact hW.top s Z;intro i j b hi hj;rcases hrow2 i b hi with ⟨i1,i2⟩|⟨i1,i2⟩ <;> rcases hrow2 j b hj with ⟨j1,j2⟩|⟨j1,j2⟩;rw[i1,j1];exact absurd i2 ((hW.rows.sep j b j2).2.2.2 r kb (aG hkb) hf);exact absurd j2 ((hW.rows.sep i b i2).2.2.2 r kb (aG hkb) hf);exact hW.rows.inj i j b i2 j2
      ·intro j b hj;have hsep:b<w.heap.size/\n0 b/\¬ G b/\∀ s k1,s≠r->H[s]?=some (some k1)->k1.frozen=false->μ.loc s≠some b:=by
        rcases hrow2 j b hj with ⟨j1,j2⟩|⟨j1,j2⟩
        ·have⟨b1,b2,b3⟩:=hloc b j2;exact⟨b1,b2,b3,λs k1 hs h1 h2 h3=>hs (hW.inj s r k1 kb b h1 (aG hkb) h2 hf h3 j2)⟩
        ·have⟨b1,b2,b3,b4⟩:=hW.rows.sep j b j2;exact⟨b1,b2,b3,λs k1 _ h1 h2=>b4 s k1 h1 h2⟩
       refine⟨hsep.1,hsep.2.1,by rw[hok]; exact hsep.2.2.1,λs k1 hs hf1 hl=>?_⟩;rcases key s k1 hs with ⟨rfl,rfl⟩|⟨h1,h2,h3,h4⟩;rw[mH]at hl; cases hl;rw[(PE Z).1]at hl;exact hsep.2.2.2 s k1 h2 h4 hf1 hl
      intro j b hj;rcases hrow2 j b hj with ⟨j1,j2⟩|⟨j1,j2⟩;have⟨c,q1,_⟩:=hW.blk r kb b (aG hkb) j2;exact .inl ⟨_,_,_,q1⟩;exact hW.rows.cel j b j2;intro s k1 t1 l1 hs hg1 ht1';rcases key s k1 hs with ⟨rfl,rfl⟩|⟨h1,h2,h3,h4⟩;cases ht1';refine⟨mH _ _ _ _,λj hj=>?_,λj row hj=>?_⟩;rw[oH]at hj;simp only[List.length_cons,List.length_nil]at hj;rw[hG'];show (if j=l.length then μ.loc r else G.row j)=none;rw[if_neg Z];exact a2 j Z;rcases oG j l.length with hlt|hge;rw[List.getElem?_append_left hlt]at hj;rcases a3 j row hj with h0|⟨b,q1,q2⟩;exact .inl h0;exact .inr ⟨b,hrow' j b q1,q2.mono e.toMono.aH rfl⟩;have hjl:j=l.length:=(by have:=(oO.1 hj).1;simp only[oH,List.length_cons,List.length_nil]at this;omega);subst hjl;rw[List.getElem?_append_right (oM _),Nat.sub_self]at hj;simp only[List.getElem?_cons_zero,oJ]at hj;subst hj;rw[VR]at hv;have⟨n,n1,n2⟩:=hv;rw[ht2]at n1; cases n1;rcases n2 with ⟨n2,_⟩|⟨b,c,hl,_,_,_,n7⟩;exact .inl ⟨List.eq_nil_of_length_eq_zero n2,hm⟩;right;have⟨c,q1,q2,_⟩:=hW.blk r kb b (aG hkb) hl;rw[ht1,n7]at q2;refine⟨b,by rw[hG']; show (if l.length=l.length then μ.loc r else _)=some b; rw[if_pos rfl]; exact hl,.inl ⟨hm,c,by rw[hty]at q1; exact q1,?_⟩⟩;have⟨us,u1,u2⟩:=q2.values;exact aT.vK (cZ _ _ (lB _ _) (VRs.mono e.toMono _ _ u1)) u2;exact absurd (hW.rows.one s ra k1 k t1 l1 gt l h4 hg1 ht1' hr hkg htag) h3
      ·intro x1 x2 k1 k2 t1 l1 t2 l2 h1 g1 q1 h2 g2 q2;have old:∀ (s:Nat) (k1:Blk) (t1:Ty) (l1:List (List t1.den)),(((H.set r none).set ra none)++[some ⟨aI (.rows gt) (l++[gl]),k.ty,false,k.frozen,some ⟨.rows gt,l++[gl]⟩⟩])[s]?=some (some k1)->k1.grown=false->k1.tag=some ⟨.rows t1,l1⟩->s=H.length:=by
        intro s k1 t1 l1 h1 g1 q1;rcases key s k1 h1 with ⟨rfl,_⟩|⟨_,_,h3,h4⟩
        ·rfl
        ·exact absurd (hW.rows.one s ra k1 k t1 l1 gt l h4 g1 q1 hr hkg htag) h3
       rw[old x1 k1 t1 l1 h1 g1 q1,old x2 k2 t2 l2 h2 g2 q2]
      rw[VR]at hv;rw[VR.eq_def];simp only;have⟨n,n1,n2⟩:=hv;rw[ht2]at n1; cases n1;rcases n2 with ⟨n2,ao,rfl⟩|⟨b,c,n3,rfl,n5,n6⟩;exact⟨ao,0,by rw[n2],by omega,.inl n2⟩;refine⟨_,c,rfl,n5,.inr ⟨b,?_,by rw[n6.2,Nat.zero_mul],by rw[Nat.zero_add]; have:=n6.1; rwa[n6.2,Nat.zero_add]at this⟩⟩;rw[hG'];show (if l.length=l.length then μ.loc r else _)=some b;rw[if_pos rfl]; exact n3
     cases h
    cases h
   cases h
  cases h
 cases h
def bNJ(c:aX n0 G μ H w) {s:Nat} {k:Blk} {t:Ty} {l:List (List t.den)} (h:H[s]?=some (some k)) (y:k.grown=false) (ht:k.tag=some ⟨.rows t,l⟩) :
  Ext n0 w G μ w G (upd μ H.length none (some l.length))/\aX n0 G (upd μ H.length none (some l.length)) (H.set s none++[some k]) w:=by
 have p:=wB c s;have hlen:(H.set s none).length=H.length:=R
 have e:=SE c none (some l.length);have n:Ext n0 w G μ w G (upd μ (H.set s none).length none (some l.length)):=by rw[hlen]; exact e
 refine⟨e,?_⟩;have⟨v,_⟩:=c.rows.arn s k t l h y ht;have:=SG p n k (λ_ _ _ _ _=>rfl) (λb u=>by cases u) (λg d=>by rw[ht]at d; cases d; exact⟨(c.tags s k _ h ht).1,rfl⟩) (λr k' b _ _ _ o=>by cases o)
  (c.rows.rel (λr m=>(r=H.length/\m=s)\/(r<H.length/\r≠s/\m=r)) (λr z q a f=>by
   rcases a with ⟨a,i⟩|⟨a,i,j⟩ <;> rcases f with ⟨f,h5⟩|⟨f,h5,h6⟩
   ·grind
   ·grind
   ·grind
   ·exact j.symm.trans h6) (λr k' x=>by
   rcases aTD r k' x with ⟨a,rfl⟩|⟨a,f⟩
   ·rw[hlen]at a;exact⟨s,k',.inl ⟨a,rfl⟩,h,rfl,rfl,rfl,rfl,by rw[a,<- hlen,mH,v]⟩
   ·have⟨i,j⟩:=zI f;rw[hlen]at a;exact⟨r,k',.inr ⟨a,j,rfl⟩,i,rfl,rfl,rfl,rfl,(PE (by rw[hlen]; omega)).1⟩))
 grind
def aY7(n:aX n0 G μ H w)(p:fG w G μ nt F a){t len}{parts:Array (Nat×Operand)}{v cs H' c}(h:MF P F H t len parts.toList=some (cs,v,H',c)) :
  C5 P n0 w G μ (Instr.buildSlice t len (parts.map λ(i,x)=>(i,a.eval x))) v H':=by
 unfold MF at h;split at h
 next e ty g=>
  split at h
  next z hz=>
   cases A:(Nat.ble (len*ty.size) 16777216&&Nat.ble 1 z.cells.size)with
   | false=>rw[A]at h; cases h
   | true =>
    rw[A]at h;simp only[oC]at h;simp only[oA]at A;have k:=oL A.1;split at h
    ·rename_i r sz b;split at h
     ·rename_i q H1 I;split at h
      ·rename_i u m;split at h
       ·rename_i l hd;obtain⟨rfl,rfl,rfl,rfl⟩:=h;obtain⟨x,y,C⟩:∃ x,parts.toList=[(0,x)]/\ev F x=.own r sz:=by
         unfold aXV at b;split at b
         ·split at b
          ·rename_i x y;split at b
           ·rename_i J K C;have⟨L,b⟩:=yP b
            simp_all
           ·cases b
          ·cases b
         ·cases b
        have D:=cT p x;rw[C]at D;have⟨G1,μ1,o,f,B⟩:=aX0 n I D;have⟨v',w',G2,μ2,E,z2,z3⟩:=aV0 f g hz k (qs:=[(0,q)]) (vs:=parts.map λ(i,x)=>(i,a.eval x)) (by
         rw[Array.toList_map,y];exact⟨_,_,rfl,B,rfl⟩) m hd
        exact⟨v',w',G2,μ2,E,o.trans z2,z3⟩
       ·cases h
      ·cases h
     ·cases h
    split at h
    ·rename_i s;split at h
     ·rename_i ps d;split at h
      ·rename_i u m;split at h
       ·rename_i l hd;rw[<- a7C (H1:=H) _ s]at d;cases j:aRW bVB t with
        | true =>
         rw[j]at h;obtain⟨rfl,rfl,rfl,rfl⟩:=h;exact a3L n g hz k (by rw[aCD]; exact aRQ n a.eval _ _ (cT p) d) m hd
        | false =>
        rw[j]at h;obtain⟨rfl,rfl,rfl,rfl⟩:=h;exact aV0 n g hz k (by rw[aCD]; exact aRQ n a.eval _ _ (cT p) d) m hd
       ·cases h
      ·cases h
     ·cases h
    ·rename_i r rs s;split at h
     ·rename_i ps d;split at h
      ·rename_i u m;split at h
       ·rename_i l hd;have⟨G1,o,f⟩:=NW (r::rs) H G n;cases j:aRW bVB t with
        | true =>
         rw[j]at h;obtain⟨rfl,rfl,rfl,rfl⟩:=h;exact(a3L f g hz k (by rw[aCD]; exact aRQ f a.eval _ _ (λx=>VR.mono o.toMono _ _ (cT p x)) d) m hd).trans o
        | false =>
        rw[j]at h;simp only[oD,oJ,oP]at h;obtain⟨rfl,rfl,rfl,rfl⟩:=h;exact(aV0 f g hz k (by rw[aCD]; exact aRQ f a.eval _ _ (λx=>VR.mono o.toMono _ _ (cT p x)) d) m hd).trans o
       ·cases h
      ·cases h
     ·cases h
  cases h
 cases h
def RJ z:∀ n ,(madeCells z (n*z.size)).toList=(List.replicate n z.toList).flatten
 | 0=>by simp[madeCells,Array.range_zero']
 | n+1=>by
  have d:=RJ z n;rw[List.replicate_succ',List.flatten_append,<- d];apply List.ext_getElem
  ·simp[madeCells,Nat.add_mul]
  ·intro i c e;simp only[madeCells,Array.toList_map,Array.toList_range,List.getElem_map,List.getElem_range];simp only[madeCells,Array.toList_map,Array.toList_range,List.length_map,List.length_range,Nat.add_mul,Nat.one_mul]at c
   by_cases hi:i<n*z.size
   ·grind
   ·have a:i-n*z.size<z.size:=Z
    have b:i%z.size=i-n*z.size:=by
     have:i=(i-n*z.size)+z.size*n:=by rw[Nat.mul_comm z.size n]; omega
     rw[this,Nat.add_mul_mod_self_left,Nat.mod_eq_of_lt a];grind
    grind
def JU {ty d zs}(h:VRs w G aH (enc ty d) zs):∀ n ,VRs w G aH (aI ty (List.replicate n d)) (List.replicate n zs).flatten
 | 0=>by rfl
 | n+1=>by exact h.append (JU h n)
def a1L(hW:aX n0 G μ H w){t p q v x y cs H' c}(hp:VR w G μ p x)(hq:VR w G μ q y)(h:aHC P H t p q=some (cs,v,H',c))(hcs:J7 cs=true) :
  c=2/\C5 P n0 w G μ (Instr.makeSlice t x y) v H':=by
 unfold aHC at h;split at h
 next e ty kl l kc cc hel=>
  subst hp; subst hq;have⟨hu,hs⟩:=ID hel;split at h
  next i hi=>
   have hsz:=ZW hs hi;split at h
   ·rename_i z hz;split at h
    ·rename_i d hd;cases hb:(Nat.ble i.bytes 65536&&Nat.beq z.cells.size i.size)with
     | false=>rw[hb]at h; cases h
     | true =>
      rw[hb]at h;obtain⟨rfl,rfl,rfl,rfl⟩:=h;refine⟨rfl,?_⟩;simp only[oA]at hb;have hb1:=oL hb.1;have hb2:=oE hb.2;have⟨c1,hcs⟩:=aW hcs;have⟨c2,hcs⟩:=aW hcs;have⟨c3,_⟩:=aW hcs;rw[aF,Bool.not_eq_true',decide_eq_false_iff_not]at c1 c2 c3;have hbytes:(i.bytes:Int)*cc<=281474976710656:=by
       have:(i.bytes:Int)*cc<=65536*1048576:=Int.mul_le_mul Z Z Z Z;omega
      have hr:=run_make (P:=P) w t e i z hu hi hz kl kc l cc Z Z hbytes Z;have hdz:VRs w G aH (enc ty d) z.cells.toList:=JN ty aH _ d _ hd (KC _);have hrep:=JU hdz l.toNat;have hmade:(madeCells z.cells (cc.toNat*i.size)).toList=(List.replicate cc.toNat z.cells.toList).flatten:=by rw[<- hb2]; exact RJ z.cells cc.toNat
      have hsplit:(List.replicate cc.toNat z.cells.toList).flatten=(List.replicate l.toNat z.cells.toList).flatten++(List.replicate (cc.toNat-l.toNat) z.cells.toList).flatten:=by
       rw[<- List.flatten_append,List.replicate_append_replicate];grind
      have hk:=QZ (on:=some l.toNat) hW (madeCells z.cells (cc.toNat*i.size)) ⟨aI ty (List.replicate l.toNat d),e,true,false,some ⟨ty,List.replicate l.toNat d⟩⟩ (λj p hp=>by
       have⟨u,g1,g2⟩:=hrep.get hp;refine⟨u,?_,g2.bF⟩;rw[<- Array.getElem?_toList,hmade,hsplit,List.getElem?_append_left (oO.1 g1).1];exact g1) (λh=>by cases h) rfl (λg hg=>by cases hg; exact⟨rfl,by simp⟩)
      refine⟨_,_,G,_,hr,OG hW _ _ _,hk,?_⟩;rw[VR,GO];simp only[Nat.zero_add];refine⟨l.toNat,rZ _ _ _ _,.inr ⟨w.heap.size,cc.toNat,mH _ _ _ _,rfl,by omega,⟨madeCells z.cells (cc.toNat*i.size),e,(0,0),?_,?_⟩,trivial⟩⟩
      ·show (w.heap.push _)[w.heap.size]?=_;simp
      ·simp[madeCells,hsz]
    cases h
   cases h
  cases h
 cases h
def bLM {e z}(hz:N6 P e=some z) w:(zeroValue e).run P w=.ok z w:=by
 unfold N6 at hz;split at hz;rename_i i hi;simp[zeroValue,N9 hi,hz];grind
def aGN z n:(Builtin.zeroCells z n).toList=(List.replicate n z.toList).flatten:=RJ z n
def bF7(L:aX n0 G μ H w){tys ty p v x cs H' c}(hp:VR w G μ p x)(h:a9Z P H tys p=some (cs,v,H',c))(C:J7 cs=true):C5 P n0 w G μ (Builtin.clear_ tys ty #[x]) v H':=by
 unfold a9Z at h;split at h
 next t ts ht=>
  have m:tys[0]?=some t:=by rw[<- Array.getElem?_toList,ht]; rfl
  split at h
  next e O y=>
   have⟨hu,M⟩:=ID y;split at h
   ·rename_i z hz;split at h
    ·rename_i r lo n sz;split at h
     ·rename_i k K;split at h
      ·rename_i g R;split at h
       ·rename_i d hd;have⟨I,h⟩:=yP h;obtain⟨rfl,rfl,rfl,rfl⟩:=h;simp only[oA,Bool.not_eq_true']at I;have⟨⟨⟨D,U⟩,Q⟩,s⟩:=I;have D:=oE D;subst D;have hle:=oL (aW C).1;obtain⟨b,J,_,q,rfl,S,T,_⟩:=hp;have i:VR w G μ (.tuple []) (.tuple #[]):=by rw[VR]; exact⟨#[],rfl,by rw[VRs]⟩
        have E:(#[Value.slice (some ⟨b,μ.sh r+lo*g.t.size,none⟩) n J]:Array Value)[0]?=some (Value.slice (some ⟨b,μ.sh r+lo*g.t.size,none⟩) n J):=rfl;have B:VRs w G aH (enc g.t d) z.cells.toList:=JN g.t aH _ d _ hd (KC _);have f:=JU B n;have o:∀ v∈(List.replicate n z.cells.toList).flatten,v.oneCell'=true:=(by intro v N;have⟨l,a,F⟩:=List.mem_flatten.1 N;rw[List.mem_replicate]at a;rw[a.2]at F;exact VM s (KC (w:=w) (G:=G) (μ:=μ) _) v F);have j:clr g.l lo n d=spl g.l lo (List.replicate n d):=(by simp only[clr,spl,List.length_replicate]);have⟨w',a,A,u⟩:=bFG (P:=P) (l:=g.l) (p:=lo) L (VRs.bF f) o (aG K |> λ_=>K) Q R q (by rw[List.length_replicate]; exact hle);rw[<- j]at u;cases n with
        | zero =>
         have hw:w'=w:=by
          have:(List.replicate 0 z.cells.toList).flatten=[]:=rfl;rw[this]at a;simp only[storeCells,Sem.run_pure,Result.ok.injEq,true_and]at a;grind
         subst hw;refine .put (v':=.tuple #[]) (w':=w') ?_ A u i;unfold Builtin.clear_;simp only[m,E,Sem.run_bind,run_underlying hu,Result.andThen_ok,Sem.run_pure]
        | succ n =>
         refine .put (v':=.tuple #[]) (w':=w') ?_ A u (VR.mono A.toMono _ _ i);unfold Builtin.clear_;simp only[m,E,Sem.run_bind,run_underlying hu,Result.andThen_ok,bLM hz,aGN,a,Sem.run_pure]
       cases h
      cases h
     cases h
    cases h
   cases h
  cases h
 cases h
def bJ9(I:aX n0 G μ H w){tys ty p q v x y cs H' c}(hp:VR w G μ p x)(Q:VR w G μ q y)(h:bKN P H tys p q=some (cs,v,H',c))(f:J7 cs=true):c=2/\C5 P n0 w G μ (Builtin.copy_ tys ty #[x,y]) v H':=by
 unfold bKN at h;split at h
 next t ts ht=>
  have N:tys[0]?=some t:=by rw[<- Array.getElem?_toList,ht]; rfl
  split at h
  next e ety K=>
   have⟨hu,M⟩:=ID K;split at h
   ·rename_i r lo n sz d;split at h
    ·rename_i k R;split at h
     ·rename_i g T;split at h
      ·rename_i l hl;split at h
       ·rename_i new a;have⟨X,h⟩:=yP h;obtain⟨rfl,rfl,rfl,rfl⟩:=h;refine⟨rfl,?_⟩;simp only[oA,Bool.not_eq_true']at X;have⟨⟨S,hf⟩,b2⟩:=X;have S:=oE S;subst S;have⟨c1,f⟩:=aW f;have⟨c2,f⟩:=aW f;have⟨c3,_⟩:=aW f;have c1:=gE c1;have c2:=oL c2;have c3:=oL c3;have⟨gt,gl⟩:=g;obtain⟨rfl,rfl⟩:=mL hl;have⟨Y,ht2⟩:=I.tags r k _ (aG R) T;obtain⟨b,j,C,rfl⟩:∃ b j,μ.loc r=some b/\x=.slice (some ⟨b,μ.sh r+lo*gt.size,none⟩) n j:=by
         unfold bZW at d;split at d
         ·rename_i r' sz';split at d
          next g' O=>obtain⟨rfl,rfl,rfl,rfl⟩:=d;have⟨kb,u,s⟩:=OM O;rw[R]at u; cases u;rw[T]at s; cases s;have⟨m,F,V⟩:=hp;grind
          ·grind
         ·simp only[oJ,oP]at d;obtain⟨rfl,rfl,rfl,rfl⟩:=d;obtain⟨b,c',m,F,rfl,_⟩:=hp;grind
         ·grind
        have o:∀ {w':World} {vs:Array Value},(∃ m:Nat,(∀ i:World,(Builtin.lenOf y).run P i=.ok m i)/\min m n=new.length/\(Builtin.firstCells gt.size new.length y).run P w=.ok vs w)->(storeCells ⟨b,μ.sh r+lo*gt.size,none⟩ vs.toList).run P w=.ok () w'->(Builtin.copy_ tys ty #[.slice (some ⟨b,μ.sh r+lo*gt.size,none⟩) n j,y]).run P w=.ok (goInt new.length) w':=(by rintro w' vs ⟨m,s1,s4,z⟩ a1;have q2:(#[Value.slice (some ⟨b,μ.sh r+lo*gt.size,none⟩) n j,y]:Array Value)[0]?=some (Value.slice (some ⟨b,μ.sh r+lo*gt.size,none⟩) n j):=rfl;have q3:(#[Value.slice (some ⟨b,μ.sh r+lo*gt.size,none⟩) n j,y]:Array Value)[1]?=some y:=rfl;have hm:Nat.min m n=new.length:=s4;unfold Builtin.copy_;simp only[N,q2,q3,Sem.run_bind,run_underlying hu,Result.andThen_ok,s1,run_sizeOf M,hm,z,a1,Sem.run_pure])
        have key:∃ vs:Array Value,VRs w G μ (aI gt new) vs.toList/\∃ m:Nat,(∀ i:World,(Builtin.lenOf y).run P i=.ok m i)/\min m n=new.length/\(Builtin.firstCells gt.size new.length y).run P w=.ok vs w:=by
         unfold bZT at a;split at a
         ·rename_i W B m2 A;rw[VR]at Q;obtain⟨E,D,mm,u1,rfl,u2,u3,u4,u5,u6⟩:=Q;have U:VR w G μ (.win W B (min m2 n) A) (.slice (some ⟨E,μ.sh W+B*A,none⟩) (min m2 n) D):=by
           rw[VR];exact⟨E,D,mm,u1,rfl,by omega,u3,u4,by omega,u6⟩
          have⟨s1,vs,s2,z⟩:=aAP (P:=P) I U (by rfl) a;have L:min m2 n=new.length:=(by have:=s1 w;simp[Builtin.lenOf]at this;exact this);exact⟨vs,s2,m2,λi=>rfl,L,z w rfl⟩
         unfold aTP at a; cases a
         ·rename_i F V;have J:J7 (bAL H q)=true:=by
           unfold bAL;split
           ·exact absurd rfl (V _ _ _ _)
           ·rfl
          have⟨s1,vs,s2,z⟩:=aAP (P:=P) I Q J a;exact⟨vs,s2,new.length,s1,by omega,z w rfl⟩
        have⟨vs,s2,key⟩:=key;have⟨w',F,e1,Z⟩:=bFG (P:=P) (p:=lo) I s2 (Z1 _ _ _ s2) R hf T C (by simp only at c2; omega);exact⟨_,w',G,μ,o key F,e1,Z,by rw[VR]⟩
       cases h
      cases h
     cases h
    cases h
   cases h
  cases h
 cases h
def aFP {r cs v H' c}(h:bLD H r=some (cs,v,H',c)):H'=H/\c=0/\∃ u,r=some (cs,u)/\v=.lit u:=by
 unfold bLD at h;grind
def bMF {t p q x y cs u}(hp:VR w G μ p x)(d:VR w G μ q y)(h:b0P P t p q=some (cs,u))(a:J7 cs=true) w1:(Instr.index t x y).run P w1=.ok u w1:=by
 unfold b0P at h;split at h;rename_i s k i hu;obtain⟨rfl,rfl⟩:=h;subst hp; subst d;have b:=(aW a).1;replace b:=HQ b;have c :=Z;simp[Instr.index,asIntOf,run_underlying hu,c,bA6];grind
def bGA {F a nt}(c:fG w G μ nt F a){t p x}{lo hi:Option Operand}{cs u}(hp:VR w G μ p x)(h:bNY P t p (lo.map (ev F)) (hi.map (ev F))=some (cs,u))(b:J7 cs=true) w1 :
  (Instr.sliceAt t x (lo.map a.eval) (hi.map a.eval) none).run P w1=.ok u w1:=by
 unfold bNY at h;split at h;rename_i s hu;split at h;rename_i k i g j d e;obtain⟨rfl,rfl⟩:=h;subst hp;have⟨c1,b⟩:=aW b;have⟨c2,b⟩:=aW b;have⟨c3,b⟩:=aW b;have⟨c4,_⟩:=aW b;have f:=CV (P:=P) (isSlice:=false) (RA c (BP d c1)) (RA c (BP e c2)) (oL c3) (oL c4) w1;simp[Instr.sliceAt,Instr.slice,run_underlying hu,f];grind;grind
def bL0 {op t p q x y ox oy cs u}(hp:VR w G μ p x)(d:VR w G μ q y)(h:b0O op p q=some (cs,u))(c:J7 cs=true) w1 :
  (do eqGuard op t ox oy x y; binOp op t x y:Sem Value).run P w1=.ok u w1:=by
 unfold b0O at h;split at h
 next a b=>
  subst hp; subst d;have i:(eqGuard op t ox oy (.string a) (.string b)).run P w1=.ok () w1:=by cases op <;> simp[eqGuard]
  have g:(binOp op t (.string a) (.string b)).run P w1=.ok u w1:=by
   unfold b24 at h;split at h
   ·simp only[oJ,oP]at h;obtain⟨rfl,rfl⟩:=h;have f:=oL (aW c).1;have e:¬ ((a.size+b.size:Nat):Int)>IntKind.i64.max:=by
     show ¬ ((a.size+b.size:Nat):Int)>9223372036854775807;omega
    simp only[binOp,Op.stringOp,e,if_false,Sem.run_pure]
   all_goals first
    | (obtain⟨rfl,rfl⟩:=h
       simp[binOp,Op.stringOp,eqS,ltS,ByteArray.toList_eq])
    | cases h
  simp_all
 cases h
end
variable {P:Program} {n0:Nat->Prop} {w:World} {G:Gd} {μ:Mp} {H:Heap}
def bD5 {α:Type}{b x}{y:α}(h:(bif b then x else none)=some y):b=true/\x=some y:=W
def bKW(a:aX n0 G μ H w) (o:Obj):Ext n0 w G μ (w.alloc o) G μ/\aX n0 G μ H (w.alloc o):=by
 have e:Ext n0 w G μ (w.alloc o) G μ:={
  good:=λb f=>⟨f,Below.heap_alloc _ _ _ (a.lt b f)⟩
  map:=λ_ _ h=>h
  len:=λ_ _ h=>h
  room:=λc n i=>by
   have⟨cs,t,p,d,g⟩:=i;exact⟨cs,t,p,by rw[Below.heap_alloc _ _ _ (gN d)]; exact d,g⟩
  row:=λ_ _ h=>h
  os:=rfl
  tape:=rfl
  output:=rfl
  size:=R
  old:=λc i _=>Below.heap_alloc _ _ _ i
  new:=λc i=>.inl i }
 refine⟨e,⟨λr k b q f=>?_,a.tags,a.inj,a.lt.step e.good λb f=>Nat.lt_of_lt_of_le (a.lt b f) e.size,a.top,λb f=>a.base b (oR e.size f),?_⟩⟩;have⟨c,d,g,l,s⟩:=a.blk r k b q f;have m:(w.alloc o).heap[b]?=w.heap[b]?:=Below.heap_alloc _ _ _ (gN d);exact⟨c,m.trans d,aT.mono e.toMono m _ _ g,l,s⟩;exact a.rows.step e.toMono.aH e.size (λ_=>rfl) (λj b u=>⟨Below.heap_alloc _ _ _ (a.rows.sep j b u).1,id,λr k d g l=>⟨r,k,d,g,l⟩⟩) (λr k _ _ d _ _=>⟨k,d,rfl,rfl,rfl,rfl⟩)
def a7V(a:aX n0 G μ H w){t v cs H' c}(h:aZA P H t=some (cs,v,H',c)):c=2/\C5 P n0 w G μ (Instr.makeMap t none) v H':=by
 unfold aZA at h;cases h
def aZF {a b}:eqS a b=true↔a=b:=by
 unfold eqS;constructor;cases a; simp_all;grind
def bBF(b:aX n0 G μ H w){t m k v x y cs H' c}(hm:VR w G μ m x)(d:VR w G μ k y)(h:a5Y P H t m k=some (cs,v,H',c))(a:J7 cs=true) :
  H'=H/\c=1/\∃ v',(Instr.lookup t x y false).run P w=.ok v' w/\VR w G μ v v':=by
 unfold a5Y at h;cases h
def bKZ {t}(h:bAA P t=true):∃ k e,P.underlying t=some (.map k e)/\P.underlying k=some .string/\N6 P e=some (.int .i64 0):=by
 unfold bAA at h;split at h;split at h;split at h;rw[bN]at h;grind;grind;grind;grind
def a1R {s:ByteArray}:∀ {es:List MapEntry} {l:List (ByteArray×Int)} (i:Nat),es.map (λe=>(e.key,e.val))=l.map (λp=>(Value.string p.1,Value.int .i64 p.2)) ->
  (YH l s=false/\getM l s=0/\Instr.findNow .string (.string s) es i=some none)\/∃ j,YH l s=true/\Instr.findNow .string (.string s) es i=some (some (j,.int .i64 (getM l s)))
 | [],[],i,_=>.inl ⟨rfl,rfl,rfl⟩
 | [],_::_,i,h=>by simp at h
 | _::_,[],i,h=>by simp at h
 | e::es,x::l,i,h=>by
  simp only[List.map_cons,List.cons.injEq,oP]at h;have⟨⟨g,n⟩,k⟩:=h;have⟨r,m,c⟩:=MapKept.sameNow_of_keys (d:=.string) (a:=.string s) (b:=.string x.1) trivial trivial;rw[YH,getM,Instr.findNow,g,m];cases f:eqS x.1 s with
  | true =>
   have:=aZF.1 f
   simp_all
  | false =>
   have hn:r=false:=by
    cases r with
    | false=>rfl
    | true =>
     have:=c.1 rfl;simp only[Value.string.injEq]at this;rw[aZF.2 this.symm]at f; cases f
   rw[hn];exact a1R (i+1) k
def a92 {t m k v x y cs H' c}(hm:VR w G μ m x)(p:VR w G μ k y)(h:aH2 P H t m k=some (cs,v,H',c)) :
  H'=H/\c=0/\(∀ e,aH2 P e t m k=some (cs,v,e,c))/\∃ v',(Instr.lookup t x y true).run P w=.ok v' w/\VR w G μ v v':=by
 unfold aH2 at h;split at h;rename_i l s;have⟨a,h⟩:=yP h;obtain⟨rfl,rfl,rfl,rfl⟩:=h;refine⟨rfl,rfl,λe=>by unfold aH2; rw[a]; rfl,?_⟩;have⟨j,q,f,d,n⟩:=bKZ a;obtain⟨b,es,o,rfl,_,g2,g3⟩:=hm;subst p;have g:∀ em,(Instr.checkKey em 10000 j (.string s)).run P w=.ok () w:=λem=>MapKept.run_checkKey (k:=.string s) d trivial em 9999;refine⟨.tuple #[.int .i64 (getM l s),.bool (YH l s)],?_,?_⟩;rcases a1R (s:=s) 0 g3 with ⟨f0,f1,f2⟩|⟨i,f1,f2⟩;rw[f0,f1];simp[Instr.lookup,run_underlying f,MapKept.run_getObj_map g2,g,MapKept.run_findKey d f2,bCM n,Result.andThen];rw[f1];simp[Instr.lookup,run_underlying f,MapKept.run_getObj_map g2,g,MapKept.run_findKey d f2,Result.andThen];rw[VR];refine⟨_,rfl,?_⟩;exact⟨_,_,rfl,rfl,_,_,rfl,rfl,rfl⟩;cases h
def bBD(b:aX n0 G μ H w){t m k v u x y z cs H' c}(hm:VR w G μ m x)(d:VR w G μ k y)(hz:VR w G μ v z)(h:a6K P H t m k v=some (cs,u,H',c))(a:J7 cs=true) :
  u=.lit undef/\c=2/\∃ w',(Instr.mapUpdate t x y z).run P w=.ok () w'/\Ext n0 w G μ w' G μ/\aX n0 G μ H' w':=by
 unfold a6K at h;cases h
def bFJ(c:aX n0 G μ H w) {w'} (hold:∀ j,j<w.heap.size->w'.heap[j]?=w.heap[j]?) (p:w'.heap.size=w.heap.size+1) (g:w'.os=w.os) (f:w'.tape=w.tape) (m:w'.output=w.output) :
  Ext n0 w G μ w' (G.or λx=>x=w.heap.size) μ/\aX n0 (G.or λx=>x=w.heap.size) μ H w':=by
 have e:Ext n0 w G μ w' (G.or λx=>x=w.heap.size) μ:={
  good:=λb a=>⟨.inl a,hold b (c.lt b a)⟩
  map:=λ_ _ h=>h
  len:=λ_ _ h=>h
  room:=λb n q=>by
   have⟨cs,t,l,g,f⟩:=q;exact⟨cs,t,l,by grind,f⟩
  row:=λ_ _ h=>h
  os:=g
  tape:=f
  output:=m
  size:=Z
  old:=λb a _=>hold b a
  new:=λb a=>by
   rcases a with a|rfl
   ·grind
   ·exact .inr (c.base _ (oM _)) }
 refine⟨e,c.keep e ⟨λ_=>rfl,λj b i=>⟨hold _ (c.rows.sep j b i).1,?_⟩⟩ ?_ ?_⟩;rintro(h|rfl);exact h;exact absurd (c.rows.sep j _ i).1 (Nat.lt_irrefl _);intro r k b o a;have d:=c.vB o a;refine⟨hold _ d,?_⟩;rintro(h|rfl);exact h;omega;rintro b (a|rfl);have:=c.lt b a; omega;grind
def bRN {e}(h:b0H P e=true):P.underlying e=some (.int .u8):=by
 unfold b0H at h;grind
def bDN {t}(h:bU0 P t=true):∃ e,P.underlying t=some (.slice e)/\P.underlying e=some (.int .u8):=by
 unfold bU0 at h;split at h;rename_i e he;exact⟨e,he,bRN h⟩;grind
def bCG {t}(h:bZF P t=true):P.underlying t=some .string:=by
 unfold bZF at h;grind
def bDQ(l:List Int):aI (.int .u8) l=l.map λn=>PV.lit (.int .u8 n):=by
 induction l with
 | nil=>rfl;| cons x l a=>rw[yT,a]; rfl
def bK0(E:aX n0 G μ H w){s d p v x cs H' c}(hp:VR w G μ p x)(h:bJO P H s d p=some (cs,v,H',c)):H'=H/\C5 P n0 w G μ (convert s d x) v H:=by
 unfold bJO at h;split at h
 next b=>
  have⟨n,h⟩:=bD5 h;obtain⟨rfl,rfl,rfl,rfl⟩:=h;rw[oA]at n;subst hp;have⟨e,hd,he⟩:=bDN n.2;have U:=Lib.run_convert_string_bytes (P:=P) w s d e b (bCG n.1) hd he;have⟨S,O⟩:=bFJ E (w':=Lib.bytesWorld w e b) (λj o=>Lib.bytesWorld_at_old w e b j o) (Lib.bytesWorld_size w e b) rfl rfl rfl;refine⟨rfl,_,_,_,_,U,S,O,aOS ?_⟩;have hlen:(aLK b).length=b.size:=(by simp[aLK]);refine⟨_,_,by rw[hlen],by rw[hlen]; exact grownCap_ge _ _ _ _,λk T=>(by cases T),.inr ⟨w.heap.size,0,rfl,.inr rfl,?_⟩⟩;rw[bDQ];refine aT.mk λj q f=>?_;rw[List.getElem?_map]at f;unfold aLK at f;rw[List.getElem?_map]at f;cases F:b.data.toList[j]? with
  | none=>rw[F]at f; cases f
  | some u =>
   rw[F]at f;cases f;have o:j<b.size:=by
    have:=(oO.1 F).1
    simp_all
   refine⟨_,by rw[Nat.zero_add]; exact Lib.bytesWorld_cell w e b j o,?_⟩;rw[VR,oQ,F];rfl
 next r sz=>
  have⟨n,h⟩:=bD5 h;split at h
  next g V=>
   split at h
   ·rename_i l D;obtain⟨rfl,rfl,rfl,rfl⟩:=h;rw[oA]at n;have⟨e,L,he⟩:=bDN n.1;have hd:=bCG n.2;have⟨M,y,I⟩:=OM V;have⟨t,C⟩:=E.tags r M g (aG y) I;have⟨B,D⟩:=mL D;have⟨gt,A⟩:=g;dsimp only at B D t C;subst B;subst D;refine⟨rfl,.same E (v':=.string (a7M A)) ?_ (by rw[VR])⟩;have⟨m,K,J⟩:=hp;rw[C]at K;cases K;rcases J with ⟨J,ao,rfl⟩|⟨b,c',h3,rfl,h5,h6⟩
    ·have z:A=[]:=List.eq_nil_of_length_eq_zero J;subst z;rw[run_convert_bytes_string w s d e _ _ _ L he hd];cases ao with
     | none=>rfl;| some a=>exact run_bytesToString w a 0 _ [] (by simp[loadCells,loadCellsFrom,Sem.run_pure])
    ·rw[run_convert_bytes_string w s d e _ _ _ L he hd];have⟨N,g2,g3,_⟩:=E.blk r M b (aG y) h3;rw[t,bDQ]at g3;refine run_bytesToString w _ _ _ A ?_;have:=run_loadCells (P:=P) (w:=w) (b:=b) (off:=μ.sh r) (vs:=A.map (Value.int .u8)) λj o=>by
      rw[List.length_map]at o;have⟨u,R,Q⟩:=g3.get (i:=j) (p:=PV.lit (.int .u8 A[j])) (by simp[o]);rw[R,Q];simp
     grind
   cases h
  cases h
 cases h
section
variable {t u e:TypeId} {i:TypeInfo} {z:Value} {ku:IntKind} (ht:P.underlying t=some (.slice e)) (hu:P.underlying u=some (.int ku)) (hi:P.info? e=some i) (hz:i.zero=some z)
include ht hu hi hz
def aMZ(m:z.cells.size=i.size) (j:i.bytes<=65536) {k l c:Nat} {kq:IntKind} {ty:TypeId} {ao:Option Addr} (hn:k<=1048576) (d:l+k<=c) {w':World}
  (b:match ao with|some a=>(storeCells (a.add (l*i.size)) (Builtin.zeroCells z.cells k).toList).run P w=.ok () w'|none=>w'=w) :
  (Builtin.append_ #[t,u] ty #[.slice ao l c,.int kq (k:Int)]).run P w=.ok (.slice ao (l+k) c) w':=by
 have hw:IntKind.i64.wrap (k:Int)=k:=by rw[IntKind.wrap_i64]; omega
 have e:¬ ((k:Int)<0):=Z;have g:¬ (281474976710656<(k:Int)*(i.bytes:Int)):=(by have:k*i.bytes<=1048576*65536:=Nat.mul_le_mul hn j;rw[<- Int.natCast_mul]; omega);by_cases f:k*i.size=0
 ·have h:Builtin.zeroCells z.cells k=#[]:=(by apply Array.eq_empty_of_size_eq_zero;rw[tV,m]; exact f);rw[h]at b;cases ao with
  | none=>simp only at b; subst b; simp[Builtin.append_,run_underlying ht,run_underlying hu,sizeOf,typeInfo,zeroValue,hi,hz,asInt,asIntOf,hw,e,g,d,f];| some a=>simp only at b; simp[Builtin.append_,run_underlying ht,run_underlying hu,sizeOf,typeInfo,zeroValue,hi,hz,asInt,asIntOf,hw,e,g,d,f,show (storeCells (a.add (l*i.size)) []).run P w=.ok () w' by simpa using b]
 ·cases ao with
  | none=>simp only at b; subst b; simp[Builtin.append_,run_underlying ht,run_underlying hu,sizeOf,typeInfo,zeroValue,hi,hz,asInt,asIntOf,hw,e,g,d,f];| some a=>simp only at b; simp[Builtin.append_,run_underlying ht,run_underlying hu,sizeOf,typeInfo,zeroValue,hi,hz,asInt,asIntOf,hw,e,g,d,f,b]
def aM4(q:z.cells.size=i.size) (a:0<i.size) (b:i.bytes<=65536) {k l c kq ty ao} (g:k<=1048576) (n:l<=1048576) (m:¬ l+k<=c)
  {os} (o:∀ f ,f.heap=w.heap->(Builtin.firstCells i.size l (.slice ao l c)).run P f=.ok os f) (p:l<=c) :
  ∃ c',l+k<=c'/\(Builtin.append_ #[t,u] ty #[.slice ao l c,.int kq k]).run P w=.ok (.slice (some ⟨w.heap.size,0,none⟩) (l+k) c') (w.drew.alloc (.cells (os++Builtin.zeroCells z.cells k++Builtin.zeroCells z.cells (c'-(l+k))) e)):=by
 have d:Builtin.nextslicecap (l+k) c*i.bytes<=281474976710656:=(by have r:=nextslicecap_le (need:=l+k) (old:=c) Z;have s :=Nat.mul_le_mul Z b;omega);have j:k*i.bytes<=281474976710656:=(by have :=Nat.mul_le_mul g b;omega);refine⟨grownCap w (l+k) c e,grownCap_ge _ _ _ _,?_⟩;have h:=Lib.run_append_grow_zeros w t u ty e i z kq ku ht hu hi hz ao l c os.toList (o w.drew rfl) k Z a Z Z j d;omega
def aRO(m:aX n0 G μ H w){ty}(j:i.size=ty.size)(g:i.bytes<=65536)(b:z.cells.size=i.size)(d:0<i.size){kq}{k0:Nat}{d0}(h:VRs w G aH (enc ty d0) z.cells.toList){tt ao}(hn:k0<=1048576) :
  C5 P n0 w G μ (Builtin.append_ #[t,u] tt #[.slice ao 0 0,.int kq k0]) (.own H.length ty.size) (H++[some ⟨aI ty (List.replicate k0 d0),e,true,false,some ⟨ty,List.replicate k0 d0⟩⟩]):=by
 have s2:VRs w G μ (aI ty (List.replicate k0 d0)) (Builtin.zeroCells z.cells k0).toList:=by rw[aGN]; exact(JU h k0).bF
 by_cases o:k0=0;subst o;have:=aMZ (w:=w) (w':=w) (ty:=tt) (kq:=kq) (ao:=ao) (l:=0) (c:=0) (k:=0) ht hu hi hz b g Z Z (by cases ao <;> simp[Builtin.zeroCells,storeCells]);exact bCW m R this
 ·have⟨c',n,p⟩:=aM4 (w:=w) (ty:=tt) (kq:=kq) (ao:=ao) (l:=0) (c:=0) (k:=k0) ht hu hi hz b d g hn Z Z (os:=#[]) (λq _=>by
   cases ao with
   | none=>rfl
   | some a=>simp[Builtin.firstCells,loadCells,loadCellsFrom]) (oM _)
  rw[Nat.zero_add]at n p;have f:(List.replicate k0 d0).length=k0:=List.length_replicate;exact aM6 m (os:=#[]) (by simpa using s2) (by rw[f]; exact n) (by rw[tV,b,j,f]) W
def bBZ(E:aX n0 G μ H w) {ty} (x:i.size=ty.size) (O:i.bytes<=65536) (B:z.cells.size=i.size) {kq} {k0:Nat} {d0} (X:VRs w G aH (enc ty d0) z.cells.toList) {l tt} (hn:k0<=1048576) (hl:l.length<=1048576)
  {r k} (I:iN H r=some k) (hf:k.frozen=false) (J:k.grown=true) (T:k.ty=e) (M:k.tag=some ⟨ty,l⟩) {b c} (y:μ.loc r=some b) (hlc:l.length<=c) (A:Room w b (μ.sh r+c*ty.size)) (hs0:μ.sh r=0) (R:0<i.size) :
  C5 P n0 w G μ (Builtin.append_ #[t,u] tt #[.slice (some ⟨b,μ.sh r,none⟩) l.length c,.int kq k0]) (.own H.length ty.size) (H.set r none++[some ⟨aI ty (l++List.replicate k0 d0),e,true,false,some ⟨ty,l++List.replicate k0 d0⟩⟩]):=by
 obtain⟨new,f⟩:∃ new,new=List.replicate k0 d0:=⟨_,rfl⟩;rw[<- f];have m:new.length=k0:=(by rw[f,List.length_replicate])
 obtain⟨vs,D⟩:∃ vs,vs=Builtin.zeroCells z.cells k0:=⟨_,rfl⟩;have s2:VRs w G μ (aI ty new) vs.toList:=by rw[D,f,aGN]; exact(JU X k0).bF
 have⟨cs,g2,g3,g4,g5,g6⟩:=E.blk r k b (aG I) y;have⟨K,ht2⟩:=E.tags r k _ (aG I) M;simp only at K ht2;rw[K]at g3;have hvl:new.length*ty.size=vs.size:=by have:=s2.length; rw[bG]at this; simpa using this
 have⟨i1,i2⟩:=RU g2 g3;have L:=bG ty l;rw[L]at i1 i2;by_cases d:l.length+new.length<=c
 ·have⟨c2,t2,fr2,r1,r2⟩:=A;rw[g2]at r1; cases r1;have hmul:(l.length+new.length)*ty.size<=c*ty.size:=Nat.mul_le_mul_right _ d;rw[Nat.add_mul]at hmul;have N:Fits cs (μ.sh r+l.length*ty.size) vs.toList:=.inr (by simp only[Array.length_toList]; omega);have⟨w',S,F⟩:=BJ (P:=P) (off:=μ.sh r+l.length*ty.size) vs.toList 0 w cs (Z1 _ _ _ s2) g2 N;rw[Nat.add_zero]at F;have o:(xH cs (μ.sh r+l.length*ty.size) vs.toList).size=cs.size:=NG N
  have e1:=FD E (aG I) hf y g2 F o;have p:=IB (k':=⟨aI ty (l++new),e,true,false,none⟩) E (aG I) hf y g2 (T ▸ F) o rfl (by
   refine FG (n:=l.length*ty.size+vs.size) F.at_ (VRs.mono e1.toMono _ _ ?_);have h3:=i1.append s2;rw[<- uA]at h3;rw[R5 (by simp only[Array.length_toList]; omega) zN,List.take_take,Nat.min_eq_left zN,@List.drop_eq_nil_of_le _ ((cs.toList.drop (μ.sh r)).take (l.length*ty.size+vs.size)) _ (by simp only[List.length_take,Array.length_toList]; omega),List.append_nil];exact h3) (λh=>by cases h) (λg J=>by cases J)
  have v:r<H.length:=(oO.1 (aG I)).1;have⟨e3,Q⟩:=aCK (r:=r) (on:=some (l++new).length) p (List.getElem?_set_self v) y (λg J=>by cases J);simp only[List.length_set,List.set_set]at e3 Q;have Y:aX n0 G (upd μ H.length (some b) (some (l++new).length) (μ.sh r)) (H.set r none++[some ⟨aI ty (l++new),e,true,false,some ⟨ty,l++new⟩⟩]) w':=by
   have a:=wB p r;simp only[List.set_set]at a;have hlen:(H.set r none).length=H.length:=zr
   have V:Ext n0 w' G μ w' G (upd μ (H.set r none).length (some b) (some (l++new).length) (μ.sh r)):=by rw[hlen]; exact e3
   have:=SG a V ⟨aI ty (l++new),e,true,false,some ⟨ty,l++new⟩⟩ (λ_ _ _ _ _=>rfl) (by
    rintro b' C;cases C;have⟨c9,k2,k3,k4,k5,k6⟩:=p.blk r _ b (List.getElem?_set_self v) y;exact⟨c9,k2,aT.mono V.toMono rfl _ _ k3,λh=>(by cases h),λh=>(by cases h),k6⟩) (λg J=>by cases J; exact⟨rfl,rfl⟩) (by
    intro s k' b' hs U C Z;cases Z;have⟨hs1,W⟩:=zI hs;exact W (E.inj s r k' k b hs1 (aG I) U hf C y))
    (VG a V (λt l S F=>by cases S) (λ_ _ _=>rfl) (λj b1 hj _ Z=>by cases Z; exact(p.rows.sep j b hj).2.2.2 r _ (List.getElem?_set_self v) rfl y))
   rwa[hlen]at this
  have q:=aMZ (w:=w) (w':=w') (ty:=tt) (kq:=kq) (k:=k0) (ao:=some ⟨b,μ.sh r,none⟩) ht hu hi hz B O hn (by rw[<- m]; exact d) (by simp only[Addr.add_lit,x,<- D]; exact S);rw[<- m]at q ⊢;refine⟨_,w',G,_,q,e1.trans e3,Y,?_⟩;rw[VR,GO];exact⟨_,rZ _ _ _ _,.inr ⟨b,c,mH _ _ _ _,by rw[oH],by rw[oH]; exact d,⟨_,_,_,F.at_,by rw[o]; exact r2⟩,hs0⟩⟩
 have⟨os,o1,o2⟩:=(LN (P:=P) (c:=c) g3 (bG _ _):Source P w G μ ty.size (.slice (some ⟨b,μ.sh r,none⟩) l.length c) _ l.length).2.2 l.length (oM _);rw[List.take_of_length_le (by rw[L]; exact oM _)]at o1;rw[<- x]at o2;have⟨c',q1,q2⟩:=aM4 (w:=w) (ty:=tt) (kq:=kq) (k:=k0) (ao:=some ⟨b,μ.sh r,none⟩) ht hu hi hz B R O hn hl (by rw[<- m]; exact d) o2 hlc;rw[<- D,<- m]at q2;rw[<- m]at q1 ⊢;have hlen:(H.set r none).length=H.length:=zr;have:=aM6 (wB E r) (e:=e) (ty:=ty) (l:=l++new) (c':=c') (os:=os) (vs:=vs) (rest:=Builtin.zeroCells z.cells (c'-(l.length+new.length))) (by rw[uA,Array.toList_append]; exact o1.append s2) (by rw[oH]; exact q1) (by rw[tV,B,x,oH]) (s:=Builtin.append_ #[t,u] tt #[.slice (some ⟨b,μ.sh r,none⟩) l.length c,.int kq (new.length:Int)]) (by rw[oH]; exact q2);rwa[hlen]at this
end
def bOG {t u}(h:isLen P #[t,u]=true):∃ k,P.underlying u=some (.int k):=by
 change (match P.underlying u with
  | some (.int _)=>true
  | _=>false)=true at h
 grind
def a8U(J:aX n0 G μ H w){tys tt p q v s x cs H' c}(hlen:isLen P tys=true)(hp:VR w G μ p s)(V:VR w G μ q x)(h:aRS P H tys p q=some (cs,v,H',c))(a:J7 cs=true) :
  c=2/\C5 P n0 w G μ (Builtin.append_ tys tt #[s,x]) v H':=by
 unfold aRS at h;split at h
 next t u kq n o=>
  have o:tys=#[t,u]:=by apply Array.ext'; simpa using o
  subst o;have⟨ku,hu⟩:=bOG hlen;subst V;split at h
  next e ty K=>
   have⟨ht,E⟩:=ID K;split at h
   ·rename_i i hi;have A:=ZW E hi;split at h
    ·rename_i z hz;split at h
     ·rename_i d hd;cases D:(Nat.ble i.bytes 65536&&Nat.beq z.cells.size i.size&&Nat.ble 1 i.size)with
      | false=>rw[D]at h; cases h
      | true =>
       rw[D]at h;simp only[oA]at D;have y:=oL D.1.1;have C:=oE D.1.2;have j:=oL D.2;have B:VRs w G aH (enc ty d) z.cells.toList:=JN ty aH _ d _ hd (KC _);split at h
       ·rename_i r sz;split at h
        ·rename_i k N;split at h
         ·rename_i g O;have⟨gt,U⟩:=g;split at h
          ·rename_i l S;obtain⟨rfl,rfl⟩:=mL S;cases hm:(Nat.beq sz gt.size&&!k.frozen&&Nat.beq k.ty e&&k.grown)with
           | false=>rw[hm]at h; cases h
           | true =>
            rw[hm]at h;simp only[oA,Bool.not_eq_true']at hm;have⟨⟨⟨m1,m2⟩,m3⟩,m4⟩:=hm;have m1:=oE m1;have m3:=oE m3;subst m1;obtain⟨rfl,rfl,rfl,rfl⟩:=ZD h;refine⟨rfl,?_⟩;have⟨c1,a⟩:=aW a;have⟨c2,a⟩:=aW a;have⟨c3,_⟩:=aW a;rw[aF,Bool.not_eq_true',decide_eq_false_iff_not]at c1 c2;obtain⟨k0,rfl⟩:∃ k0:Nat,n=k0:=⟨n.toNat,by omega⟩;have⟨Q,I⟩:=J.tags r k _ (aG N) O;have f:(H.set r none).length=H.length:=zr
            rw[VR]at hp;have⟨n,M,L⟩:=hp;simp only at I;rw[I]at M;cases M;rcases L with ⟨L,ao,rfl⟩|⟨b,cc,h3,rfl,h5,h6⟩
            ·have F:U=[]:=List.eq_nil_of_length_eq_zero L;subst F;have:=aRO (tt:=tt) (kq:=kq) (ao:=ao) (e:=e) ht hu hi hz (wB J r) A y C j B (k0:=k0) Z;simpa using this
            ·rw[f];have:=bBZ (tt:=tt) (kq:=kq) ht hu hi hz J A y C B Z (oL c3) N m2 m4 m3 O h3 h5 h6.1 h6.2 j (k0:=k0);exact this
          ·cases h
         ·cases h
        ·cases h
       ·rename_i m c0;cases hm:(Nat.beq m 0&&Nat.beq c0 0)with
        | false=>rw[hm]at h; cases h
        | true =>
         rw[hm]at h;simp only[oC]at h;simp only[oA]at hm;have T:=oE hm.1;have R:=oE hm.2;subst T; subst R;obtain⟨rfl,rfl,rfl,rfl⟩:=ZD h;refine⟨rfl,?_⟩;have⟨c1,a⟩:=aW a;have⟨c2,_⟩:=aW a;rw[aF,Bool.not_eq_true',decide_eq_false_iff_not]at c1 c2;obtain⟨k0,rfl⟩:∃ k0:Nat,n=k0:=⟨n.toNat,by omega⟩;rw[oN];rw[VR]at hp;subst hp;exact aRO (tt:=tt) (kq:=kq) (ao:=none) (e:=e) ht hu hi hz J A y C j B (k0:=k0) Z
       ·cases h
     cases h
    cases h
   cases h
  cases h
 cases h
end Go.PM
namespace Go.PM
open Go Go.RowKit
section
variable {P:Program} {n0:Nat->Prop} {w:World} {G:Gd} {μ:Mp} {H:Heap} {F F':Frm} {a:Act} {nt:Nat}
def bZZ {xs}{x:Operand}(h:xs.toList=[x]):xs=#[x]:=W
def b2Y {xs}{x y:Operand}(h:xs.toList=[x,y]):xs=#[x,y]:=W
def bMD {t op x y p v u qx qy cs H' k}(hx:VR w G μ x v)(hy:VR w G μ y u)(h:bBJ P H t op x y=some (cs,p,H',k))(hcs:J7 cs=true) :
  H'=H/\∃ v',(∀ w1 ,(do eqGuard op t qx qy v u; binOp op t v u:Sem Value).run P w1=.ok v' w1)/\VR w G μ p v':=by
 unfold bBJ at h;split at h
 next e hu=>
  split at h
  next m c=>
   split at h
   ·rename_i ty l cap e';have h1:=aKC hx;obtain⟨ao,c',rfl,_,_,h2⟩:=h1;subst hy;have key:Nat.blt 0 l.length=true->ao.isNone=false:=by
     intro hb;rcases h2 with h2|⟨b,off,rfl,_⟩
     ·exfalso;have h3:0<l.length:=gE hb;cases l with
      | nil=>simp at h3
      | cons a l =>
       have h4:=oZ List.length h2;have h5:=FA ty a;have h6:=ty.size_pos;simp only[aI,List.flatMap_cons,oH,List.length_nil]at h4;omega
     ·rfl
    split at h
    ·simp only[oJ,oP]at h;obtain⟨rfl,rfl,rfl,rfl⟩:=h;have hcs:Nat.blt 0 l.length=true:=by
      cases hb:Nat.blt 0 l.length with
      | true=>rfl
      | false=>simp only[J7,hb]at hcs; cases hcs
     refine⟨rfl,.bool false,λw1=>?_,by rw[VR]⟩;have:=Lib.run_eql_slice_nil w1 t e ao l.length c' m c hu;rw[key hcs]at this;simp[eqGuard,this]
    ·simp only[oJ,oP]at h;obtain⟨rfl,rfl,rfl,rfl⟩:=h;have hcs:Nat.blt 0 l.length=true:=by
      cases hb:Nat.blt 0 l.length with
      | true=>rfl
      | false=>simp only[J7,hb]at hcs; cases hcs
     refine⟨rfl,.bool true,λw1=>?_,by rw[VR]⟩;have:=run_neq_slice_nil_any w1 t e ao l.length c' m c hu;rw[key hcs]at this;simp[eqGuard,this]
    cases h
   rename_i r lo nn sz;subst hy;obtain⟨b,c',mm,_,rfl,_⟩:=hx;split at h;simp only[oJ,oP]at h;obtain⟨rfl,rfl,rfl,rfl⟩:=h;refine⟨rfl,.bool false,λw1=>?_,by rw[VR]⟩;have:=Lib.run_eql_slice_nil w1 t e (some ⟨b,μ.sh r+lo*sz,none⟩) nn c' m c hu;simp[eqGuard,this];simp only[oJ,oP]at h;obtain⟨rfl,rfl,rfl,rfl⟩:=h;refine⟨rfl,.bool true,λw1=>?_,by rw[VR]⟩;have:=run_neq_slice_nil_any w1 t e (some ⟨b,μ.sh r+lo*sz,none⟩) nn c' m c hu;simp[eqGuard,this];cases h;cases h
  cases h
 cases h
def bTM {t op x y p cs H' c}(h:bBJ P H t op x y=some (cs,p,H',c)):H'=H/\c=0/\∀ a,bBJ P a t op x y=some (cs,p,a,0):=by
 unfold bBJ at h;split at h;rename_i e hu;split at h;split at h;split at h;simp only[oJ]at h;obtain⟨rfl,rfl,rfl,rfl⟩:=h;exact⟨rfl,rfl,λa=>by simp only[bBJ,hu]⟩;simp only[oJ,oP]at h;obtain⟨rfl,rfl,rfl,rfl⟩:=h;exact⟨rfl,rfl,λa=>by simp only[bBJ,hu]⟩;cases h;split at h;obtain⟨rfl,rfl,rfl,rfl⟩:=h;exact⟨rfl,rfl,λa=>by simp only[bBJ,hu]⟩;obtain⟨rfl,rfl,rfl,rfl⟩:=h;exact⟨rfl,rfl,λa=>by simp only[bBJ,hu]⟩;cases h;cases h;cases h;cases h
set_option maxHeartbeats 1000000 in
def bQ5(hW:aX n0 G μ H w) (hF:fG w G μ nt F a) {o:Oper} {v:PV} {cs:List Bool} {H':Heap} {k:Nat} (ht:typed P F o=true) (h:top P F H o=some (cs,v,H',k)) (hcs:J7 cs=true):XN P n0 w G μ o a v H':=by
 unfold top at h;split at h
 next t x i ho=>
  split at h
  next k1 i1 hi=>obtain⟨rfl,v',h1,h2⟩:=a1K (k:=k1) hW (cT hF x) h hcs;have h3:=cT hF i;rw[hi,VR]at h3;exact .value (s:=Instr.indexAt t (a.eval x) (a.eval i)) (by simp only[execOp,ho]) (.same hW (by rw[h3]; exact h1) h2)
  ·cases h
 next s x f ho=>obtain⟨rfl,rfl,v',h1,h2⟩:=a2S (cT hF x) h;exact .value (by simp only[execOp,ho]) (.same hW h1 h2)
 next t x ho=>obtain⟨rfl,v',h1,h2⟩:=bJH hW (cT hF x) h hcs;exact .value (by simp only[execOp,ho]) (.same hW h1 h2)
 next t x y ho=>
  obtain⟨rfl,rfl,w',G',h1,h2,h3⟩:=bBT hW (cT hF x) (cT hF y) h hcs;intro K Q hK;unfold Oper.wp;have hx:(execOp a.eval o).run P w=.ok .skip w':=by simp[execOp,ho,h1]
  rw[hx];exact hK undef w' G' μ h2 h3 (by rw[VR])
 next x ho=>
  simp only[oJ,oP]at h;obtain⟨rfl,rfl,rfl,rfl⟩:=h;have h1:=cT hF x;simp only[typed,ho]at ht;obtain⟨b,hb⟩:∃ b,a.eval x=.pointer (some b):=by
   cases hx:ev F x <;> rw[hx]at ht h1 <;> simp only[bBV]at ht <;> try (cases ht; done)
   ·rw[VR]at h1;obtain⟨h2,rfl,_⟩:=h1;rw[VR]at h2;obtain⟨b,off,h3,_⟩:=h2;exact⟨_,h3⟩
   ·rw[VR]at h1;obtain⟨b,_,h3⟩:=h1;exact⟨_,h3⟩
   ·rw[VR]at h1;obtain⟨b,_,h3⟩:=h1;exact⟨_,h3⟩
  exact .pure hW (v':=a.eval x) (by simp[execOp,ho,hb]) h1
 next t x lo hi ho=>
  cases hs:isS (ev F x)with
  | true =>
   rw[hs]at h;obtain⟨rfl,rfl,u,h1,rfl⟩:=aFP h;exact .value (by simp only[execOp,ho]; rfl) (.same hW (bGA hF (cT hF x) h1 hcs w) (by rw[VR]))
  | false =>
  rw[hs,oD]at h;cases hq:isQ (ev F x)with
  | true =>
   rw[hq]at h;exact .value (by simp only[execOp,ho]; rfl) (bBI hW hF (cT hF x) h hcs).2
  | false =>
  rw[hq]at h;obtain⟨rfl,v',h1,h2⟩:=bE0 hW hF (cT hF x) h hcs w;exact .value (by simp only[execOp,ho]; rfl) (.same hW h1 h2)
 next t x lo hi mx ho=>obtain⟨rfl,v',h1,h2⟩:=bB0 hF (cT hF x) h hcs w;exact .value (by simp only[execOp,ho]; rfl) (.same hW h1 h2)
 next t x i ho=>obtain⟨rfl,rfl,u,h1,rfl⟩:=aFP h;exact .value (by simp only[execOp,ho]) (.same hW (bMF (cT hF x) (cT hF i) h1 hcs w) (by rw[VR]))
 next t ho=>exact .value (by simp only[execOp,ho]; rfl) (a7V hW h).2
 next t m x ho=>obtain⟨rfl,rfl,v',h1,h2⟩:=bBF hW (cT hF m) (cT hF x) h hcs;exact .value (by simp only[execOp,ho]) (.same hW h1 h2)
 next t m x ho=>obtain⟨rfl,rfl,_,v',h1,h2⟩:=a92 (cT hF m) (cT hF x) h;exact .value (by simp only[execOp,ho]) (.same hW h1 h2)
 next t m x y ho=>
  obtain⟨rfl,rfl,w',h1,h2,h3⟩:=bBD hW (cT hF m) (cT hF x) (cT hF y) h hcs;intro K Q hK;unfold Oper.wp;have hx:(execOp a.eval o).run P w=.ok .skip w':=by simp[execOp,ho,h1]
  rw[hx];exact hK undef w' G μ h2 h3 (by rw[VR])
 next t n parts ho=>exact .value (by simp only[execOp,ho]) (aY7 hW hF h)
 next t l c ho=>exact .value (by simp only[execOp,ho]) (a1L hW (cT hF l) (cT hF c) h hcs).2
 next s d x ho=>obtain⟨rfl,h1⟩:=bK0 hW (cT hF x) h;exact .value (by simp only[execOp,ho]) h1
 next op t x y ty ho=>
  cases hs:isS (ev F x)with
  | true =>
   rw[hs]at h;obtain⟨rfl,rfl,u,h1,rfl⟩:=aFP h;exact .value (by simp only[execOp,ho]) (.same hW (bL0 (ox:=x) (oy:=y) (t:=t) (cT hF x) (cT hF y) h1 hcs w) (by rw[VR]))
  | false =>
  rw[hs]at h;obtain⟨rfl,v',h1,h2⟩:=bMD (qx:=x) (qy:=y) (cT hF x) (cT hF y) h hcs;exact .value (by simp only[execOp,ho]) (.same hW (h1 w) h2)
 next c ho=>
  split at h
  next hc=>
   split at h
   next x hx=>have hx:=bZZ hx;obtain⟨rfl,v',h1,h2⟩:=bOJ (ty:=o.type) hW (cT hF x) h;refine .value (s:=Builtin.len_ c.argTypes o.type #[a.eval x]) ?_ (.same hW h1 h2);simp[execOp,ho,resolve,hc,hx,invoke,builtin]
   ·cases h
  next hc=>
   split at h
   ·rename_i s x hx;have hx:=b2Y hx;refine .value (s:=Builtin.append_ c.argTypes o.type #[a.eval s,a.eval x]) ?_ ?_
    rotate_left
    ·cases hl:isLen P c.argTypes with
     | true=>rw[hl]at h; exact(a8U hW hl (cT hF s) (cT hF x) h hcs).2
     | false =>
      rw[hl,oD]at h;obtain⟨c0,h1,rfl⟩:=bDG h;obtain⟨k1,k2⟩:=a6U hcs;cases hq:isQ (ev F s)with
      | true=>rw[hq]at h1; exact(a71 hW (cT hF s) (cT hF x) k1 h1 k2).2
      | false=>rw[hq]at h1; exact(bBP hW (cT hF s) (cT hF x) k1 h1 k2).2
    simp[execOp,ho,resolve,hc,hx,invoke,builtin]
   ·cases h
  next hc=>
   split at h
   next x hx=>have hx:=bZZ hx;refine .value (s:=Builtin.clear_ c.argTypes o.type #[a.eval x]) ?_ (bF7 hW (cT hF x) h hcs);simp[execOp,ho,resolve,hc,hx,invoke,builtin]
   ·cases h
  next hc=>
   split at h
   ·rename_i x y hx;have hx:c.args=#[x,y]:=by apply Array.ext'; simpa using hx
    refine .value (s:=Builtin.copy_ c.argTypes o.type #[a.eval x,a.eval y]) ?_ (bJ9 hW (cT hF x) (cT hF y) h hcs).2;simp[execOp,ho,resolve,hc,hx,invoke,builtin]
   ·cases h
  ·cases h
 ·cases h
def bK6 {cl o v H' k}(h:opx P cl F H o=some (v,H',k)):(typed P F o=true/\∃ cs,top P F H o=some (cs,v,H',k)/\J7 cs=true)\/(typed P F o=false/\opu P cl F H o=some (v,H',k)):=by
 unfold opx at h;grind
def bCC {cl}(b:dS P cl)(c:aX n0 G μ H w)(d:fG w G μ nt F a){o v H' k}(h:opx P cl F H o=some (v,H',k)):XN P n0 w G μ o a v H':=by
 rcases bK6 h with ⟨ht,cs,h1,h2⟩|⟨_,h⟩;exact bQ5 c d ht h1 h2;exact bRR b c d h
def a1I(c:Nat) (cs:List Bool) (v:PV) (H H':Heap) (f:Heap->TN):Prop:=(c=0->H'=H/\∀ H2,f H2=some (cs,v,H2,0))/\(c=1->H'=H)
def T2(x:TN):Prop:=∀ cs v H' c,x=some (cs,v,H',c)->c=2
def T2.no:T2 none:=λ_ _ _ _ h=>by cases h
def T2.cond {b x y}(a:T2 x)(c:T2 y):T2 (bif b then x else y):=W
def T2.grow {H1 e ty l cs}:T2 (aZ2 H1 e ty l cs):=λ_ _ _ _ h=>(ZD h).2.2.2
def T2.yes {cs v H1}:T2 (some (cs,v,H1,2)):=λ_ _ _ _ h=>W
def T2.cls {x}(a:T2 x){cs v H' c f}(h:x=some (cs,v,H',c)):a1I c cs v H H' f:=by
 have:=a _ _ _ _ h;subst this;exact⟨λh=>Z,λh=>by omega⟩
def a1I.zero {cs cs' v v' H' c}{f:Heap->TN}(h:some (cs',v',H,0)=some (cs,v,H',c))(b:∀ a,f a=some (cs',v',a,0)):a1I c cs v H H' f:=by
 obtain⟨rfl,rfl,rfl,rfl⟩:=h;exact⟨λ_=>⟨rfl,b⟩,λ_=>rfl⟩
def a1I.one {cs cs' v v' H' c f}(h:some (cs',v',H,1)=some (cs,v,H',c)):a1I c cs v H H' f:=by
 obtain⟨rfl,rfl,rfl,rfl⟩:=h;exact⟨λh=>W,λ_=>rfl⟩
def bWW {b r}(a:T2 r):T2 (bXR b r):=λ_ _ _ _ h=>by
 have⟨_,c,_⟩:=bDG h;exact a _ _ _ _ c
def bH8 {tys p q}:T2 (aYO P H tys p q):=by
 unfold aYO
 repeat' first
  | exact T2.no
  | rfl
  | exact T2.yes
  | apply T2.cond
  | split
def bFK {tys p q}:T2 (aR6 P H tys p q):=by
 unfold aR6
 repeat' first
  | exact T2.no
  | rfl
  | exact T2.yes
  | apply T2.cond
  | split
def bJX {t p lo hi}:T2 (aX2 P H t p lo hi):=by
 unfold aX2
 repeat' first
  | exact T2.no
  | exact T2.yes
  | apply T2.cond
  | split
def bE4 {tys p q}:T2 (aRS P H tys p q):=by
 unfold aRS;repeat' (first|exact T2.no|rfl|exact T2.yes|refine T2.cond ?_ ?_|split)
def a9W {t p q}:T2 (aHC P H t p q):=by
 unfold aHC
 repeat' first
  | exact T2.no
  | exact T2.yes
  | apply T2.cond
  | split
def bET {t:TypeId}:T2 (aZA P H t):=T2.no
def bKL {t:TypeId}{m x y:PV}:T2 (a6K P H t m x y):=T2.no
def a8Q {t p q}:T2 (a1Y P H t p q):=by
 unfold a1Y
 repeat' first
  | exact T2.no
  | exact T2.yes
  | apply T2.cond
  | split
def bL7 {tys p}:T2 (a9Z P H tys p):=by
 unfold a9Z
 repeat' first
  | exact T2.no
  | exact T2.yes
  | apply T2.cond
  | split
def bRM {tys p q}:T2 (bKN P H tys p q):=by
 unfold bKN
 repeat' first
  | exact T2.no
  | exact T2.yes
  | apply T2.cond
  | split
def aJ {α:Type}{b x}{y:α}(h:(bif b then x else none)=some y):b=true/\x=some y:=W
def a9F {t p v i cs H' c}(h:EW P H t p i=some (cs,v,H',c)):a1I c cs v H H' λH2=>EW P H2 t p i:=by
 unfold EW at h;split at h
 next e hu=>
  split at h
  next n hs=>
   split at h
   ·have⟨hb,h⟩:=aJ h;exact .zero h λH2=>by simp only[EW,hu,hs,hb,oC]
   split at h;have⟨_,h⟩:=aJ h;exact .one h;cases h;split at h;have⟨_,h⟩:=aJ h;exact .one h;cases h
   ·have⟨hb,h⟩:=aJ h;exact .zero h λH2=>by simp only[EW,hu,hs,hb,oC]
   ·have⟨hb,h⟩:=aJ h;exact .zero h λH2=>by simp only[EW,hu,hs,hb,oC]
   cases h
  cases h
 next n e hu=>
  split at h
  next sz hs=>
   split at h
   ·exact .zero h λH2=>by simp only[EW,hu,hs]
   cases h
  cases h
 cases h
def bAC {t f p v cs H' c}(h:QL P H t f p=some (cs,v,H',c)):a1I c cs v H H' λH2=>QL P H2 t f p:=by
 unfold QL at h;split at h
 next fd hf=>
  split at h
  next n hs=>
   split at h
   ·exact .zero h λH2=>by simp only[QL,hf,hs]
   ·exact .zero h λH2=>by simp only[QL,hf,hs]
   grind
  grind
 grind
def bRI {t p v cs H' c}(h:a7P P H t p=some (cs,v,H',c)):a1I c cs v H H' λH2=>a7P P H2 t p:=by
 unfold a7P at h;split at h
 ·split at h
  next u hu=>exact .zero h λH2=>by simp only[a7P,hu]
  grind
 split at h;have⟨_,h⟩:=aJ h;split at h;exact .one h;grind;cases h;split at h;split at h;have⟨_,h⟩:=aJ h;split at h;exact .one h;grind;cases h;cases h;cases h
def bTR {tys p v cs H' c}(h:bEX P H tys p=some (cs,v,H',c)):a1I c cs v H H' λH2=>bEX P H2 tys p:=by
 unfold bEX at h;split at h
 next t ts ht=>
  split at h
  next e hu=>
   split at h
   ·exact .zero h λH2=>by simp only[bEX,ht,hu]
   split at h;exact .one h;grind;split at h;exact .one h;simp_all
   ·exact .zero h λH2=>by simp only[bEX,ht,hu]
   ·exact .zero h λH2=>by simp only[bEX,ht,hu]
   grind
  grind
 grind
def bLZ {t p v lo hi cs H' c}(h:aL1 P H t p lo hi=some (cs,v,H',c)):a1I c cs v H H' λH2=>aL1 P H2 t p lo hi:=by
 unfold aL1 at h;split at h
 next e hu=>
  split at h
  next n hs=>
   split at h
   ·obtain⟨hb,h⟩:=aJ h;split at h
    next b1 i b2 j h1 h2=>exact .zero h λH2=>by simp only[aL1,hu,hs,hb,oC,h1,h2]
    ·cases h
   ·split at h
    ·rename_i g hg;obtain⟨hb,h⟩:=aJ h;unfold a5V at h;split at h
     ·
      cases hz:(a8X g.t&&Nat.beq g.l.length 0)with
      | true=>rw[hz]at h; exact .one h
      | false=>rw[hz]at h; exact .one h
     ·cases h
    ·cases h
   ·obtain⟨hb,h⟩:=aJ h;split at h
    next b1 i b2 j h1 h2=>exact .zero h λH2=>by simp only[aL1,hu,hs,hb,oC,h1,h2]
    ·cases h
   ·obtain⟨hb,h⟩:=aJ h;split at h
    next b1 i b2 j h1 h2=>exact .zero h λH2=>by simp only[aL1,hu,hs,hb,oC,h1,h2]
    ·cases h
   ·cases h
  ·cases h
 ·cases h
def bIE {t p v hi mx lo cs H' c}(h:aN5 P H t p lo hi mx=some (cs,v,H',c)):a1I c cs v H H' λH2=>aN5 P H2 t p lo hi mx:=by
 unfold aN5 at h;split at h
 next e hu=>
  split at h
  next n hs=>
   split at h
   ·have⟨hb,h⟩:=aJ h;split at h
    next h1 h2 h3=>exact .zero h λH2=>by simp only[aN5,hu,hs,hb,oC,h1,h2,h3]
    grind
   grind
  grind
 grind
def a5K {t n parts v cs H' c}(h:MF P F H t n parts=some (cs,v,H',c)):a1I c cs v H H' λH2=>MF P F H2 t n parts:=by
 unfold MF at h;split at h
 next e ty hel=>
  split at h
  next z hz=>
   obtain⟨hb,h⟩:=aJ h;split at h
   ·refine T2.cls ?_ h
    repeat' first
     | exact T2.no
     | exact T2.yes
     | apply T2.cond
     | split
   rename_i had;split at h
   ·rename_i ho;split at h
    ·rename_i ps hps;split at h
     ·rename_i cc hcc;split at h
      ·rename_i l hl;cases hbl:aRW bVB t with
       | true=>rw[hbl]at h; exact T2.grow.cls h
       | false =>
       rw[hbl]at h;exact .zero h λH2=>by simp only[MF,hel,hz,hb,oC,had,ho,hps,hcc,hl,hbl,oD]
      ·cases h
     ·cases h
    ·cases h
   ·dsimp only at h;refine T2.cls ?_ h
    repeat' first
     | exact T2.no
     | exact T2.grow
     | exact T2.yes
     | apply T2.cond
     | split
  ·cases h
 ·cases h
def bZL {o v cs H' k}(h:top P F H o=some (cs,v,H',k)):a1I k cs v H H' λH2=>top P F H2 o:=by
 unfold top at h;split at h
 next t x i ho=>
  split at h
  next k1 i1 hi=>have:=a9F h;simpa only[top,ho,hi]using this
  ·cases h
 next s x f ho=>have:=bAC h;simpa only[top,ho]using this
 next t x ho=>have:=bRI h;simpa only[top,ho]using this
 ·refine T2.cls ?_ h;unfold a6D;split
  ·split
   ·exact a8Q
   ·exact T2.no
  ·exact a8Q
 next x ho=>exact .zero h λH2=>by simp only[top,ho]
 next t x lo hi ho=>
  cases hs:isS (ev F x)with
  | true =>
   rw[hs]at h;obtain⟨rfl,rfl,u,h1,rfl⟩:=aFP h;exact⟨λ_=>⟨rfl,λH2=>by simp only[top,ho,hs,oC,h1,bLD]⟩,λ_=>rfl⟩
  | false =>
  rw[hs,oD]at h;cases hq:isQ (ev F x)with
  | true =>
   rw[hq]at h;exact bJX.cls h
  | false =>
  rw[hq]at h;have:=bLZ h;simpa only[top,ho,hs,hq,oD]using this
 next t x lo hi mx ho=>have:=bIE h;simpa only[top,ho]using this
 next t x i ho=>obtain⟨rfl,rfl,u,h1,rfl⟩:=aFP h;exact⟨λ_=>⟨rfl,λH2=>by simp only[top,ho,h1,bLD]⟩,λ_=>rfl⟩
 ·exact bET.cls h
 next t m x ho=>unfold a5Y at h;cases h
 next t m x ho=>
  unfold aH2 at h;split at h
  ·obtain⟨hk,h⟩:=aJ h;exact .zero h λH2=>by simp only[top,ho]; unfold aH2; simp_all
  ·cases h
 ·exact bKL.cls h
 next t n parts ho=>have:=a5K h;simpa only[top,ho]using this
 ·exact a9W.cls h
 next s d x ho=>
  unfold bJO at h;split at h
  next b hb=>obtain⟨hc,h⟩:=aJ h;exact .zero h λH2=>by simp only[top,ho,bJO,hb,hc,oC]
  ·obtain⟨hc,h⟩:=aJ h;split at h
   ·split at h
    ·exact .one h
    ·cases h
   ·cases h
  ·cases h
 next op t x y ty ho=>
  cases hs:isS (ev F x)with
  | true =>
   rw[hs]at h;obtain⟨rfl,rfl,u,h1,rfl⟩:=aFP h;exact⟨λ_=>⟨rfl,λH2=>by simp only[top,ho,hs,oC,h1,bLD]⟩,λ_=>rfl⟩
  | false =>
  rw[hs]at h;obtain⟨rfl,rfl,h3⟩:=bTM h;exact⟨λ_=>⟨rfl,λH2=>by simpa only[top,ho,hs,oD]using h3 H2⟩,λ_=>rfl⟩
 next c ho=>
  split at h
  next hc=>
   split at h
   next x hx=>have:=bTR h;simpa only[top,ho,hc,hx]using this
   ·cases h
  ·split at h
   ·exact(T2.cond bE4 (bWW (T2.cond bFK bH8))).cls h
   ·cases h
  ·split at h
   ·exact bL7.cls h
   ·cases h
  ·split at h
   ·exact bRM.cls h
   ·cases h
  ·cases h
 ·cases h
def bP2 {cl}(hcl:dS P cl){o v H' k}(h:opx P cl F H o=some (v,H',k)):aVL k H H' v (λH2=>opx P cl F H2 o):=by
 rcases bK6 h with ⟨ht,cs,h1,h2⟩|⟨ht,h⟩;have⟨a1,a2⟩:=bZL h1;refine⟨λhk=>⟨(a1 hk).1,λH2=>?_⟩,a2⟩;simp only[opx,ht,oC,(a1 hk).2 H2,h2];have⟨a1,a2⟩:=bYJ hcl h;refine⟨λhk=>⟨(a1 hk).1,λH2=>?_⟩,a2⟩;simp only[opx,ht,oD,(a1 hk).2 H2]
def bSL {cl o}(h:∀ x∈o.op.operands,ev F' x=ev F x):opx P cl F' H o=opx P cl F H o:=by
 have hu:=bQ3 (P:=P) (cl:=cl) (H:=H) h;have hm:∀ {xs:List Operand},(∀ x∈xs,x∈o.op.operands)->xs.map (ev F')=xs.map (ev F):=λhx=>List.map_congr_left λx hm=>h x (hx x hm)
 have both:typed P F' o=typed P F o/\top P F' H o=top P F H o:=by
  unfold typed top;cases hop:o.op
  case makeMap t r=>cases r <;> exact⟨rfl,rfl⟩
  case lookup t m x c =>
   have h1:=h m (by simp[hop,Op.operands]);have h2:=h x (by simp[hop,Op.operands]);cases c <;> simp only[h1,h2,and_self]
  case buildSlice t n parts =>
   have:=aK5 (F:=F) (F':=F') (ps:=parts.toList) λp hpm=>h p.2 (by simp only[hop,Op.operands]; simp; exact⟨p.1,by simpa using hpm⟩)
   have had:∀ ty,aXV F' ty n parts.toList=aXV F ty n parts.toList:=λty=>by
    unfold aXV;split
    ·grind
    ·rfl
   simp only[MF,this,had,and_self]
  case slice t x lo hi mx =>
   have hx:=h x (by simp[hop,Op.operands]);have hlo:lo.map (ev F')=lo.map (ev F):=by
    cases lo with
    | none=>rfl
    | some y=>simp[h y (by simp[hop,Op.operands])]
   have hhi:hi.map (ev F')=hi.map (ev F):=by
    cases hi with
    | none=>rfl
    | some y=>simp[h y (by simp[hop,Op.operands])]
   cases mx with
   | none=>simp only[hx,hlo,hhi,and_self]
   | some y =>
    have hy:=h y (by simp[hop,Op.operands]);cases hi with
    | none=>exact⟨rfl,rfl⟩
    | some z =>
     simp only[Option.map_some,oJ]at hhi;simp only[hx,hlo,hhi,hy,and_self]
  case call c =>
   have hargs:=hm (xs:=c.args.toList) λx hx=>by simp[hop,Op.operands,Call.operands]; exact .inr (by simpa using hx)
   have h0:ev F' (c.args.getD 0 (.const undef))=ev F (c.args.getD 0 (.const undef)):=by
    by_cases h1:0<c.args.size
    ·refine h _ ?_;simp only[hop,Op.operands,Call.operands,Array.mem_append];right;simp[h1]
    ·have:c.args=#[]:=Array.eq_empty_of_size_eq_zero Z;rw[this]; rfl
   have h1:∀ s,c.args.toList=[s]->ev F' s=ev F s:=λs hc=>by
    have:=hargs;rw[hc]at this;simpa using this
   have h2:∀ s x,c.args.toList=[s,x]->ev F' s=ev F s/\ev F' x=ev F x:=λs x hc=>by
    have:=hargs;rw[hc]at this;simpa using this
   constructor
   ·simp only[h0];split
    ·rfl
    ·rfl
    ·rfl
    ·cases hl:c.args.toList with
     | nil=>rfl
     | cons s l =>
      cases l with
      | nil=>rfl
      | cons x l =>
       cases l with
       | nil=>(cases c.argTypes.toList <;> first|rfl|simp only[(h2 s x hl).1])
       | cons y l=>rfl
    ·rfl
   ·simp only;split
    ·cases hl:c.args.toList with
     | nil=>rfl
     | cons s l =>
      cases l with
      | nil=>simp only[h1 s hl]
      | cons x l=>rfl
    ·cases hl:c.args.toList with
     | nil=>rfl
     | cons s l =>
      cases l with
      | nil=>rfl
      | cons x l =>
       cases l with
       | nil=>simp only[(h2 s x hl).1,(h2 s x hl).2]
       | cons y l=>rfl
    ·cases hl:c.args.toList with
     | nil=>rfl
     | cons s l =>
      cases l with
      | nil=>simp only[h1 s hl]
      | cons x l=>rfl
    ·cases hl:c.args.toList with
     | nil=>rfl
     | cons s l =>
      cases l with
      | nil=>rfl
      | cons x l =>
       cases l with
       | nil=>simp only[(h2 s x hl).1,(h2 s x hl).2]
       | cons y l=>rfl
    ·rfl
  all_goals
   first
   | exact⟨rfl,rfl⟩
   | (simp only[hop,Op.operands]at h
      simp at h;simp[h])
 unfold opx;rw[both.1,both.2,hu]
end
variable {P:Program} {n0:Nat->Prop} {w:World} {G:Gd} {μ:Mp} {H:Heap}
def a14(P:Program) (t:TypeId) (l c:PV):Option (List Bool×PV) :=
 match OW P t,l,c with
 | some (e,ty),.lit (.int _ l),.lit (.int _ c)=>match P.info? e with
  | some i=>match i.zero with
   | some z=>match dec ty (lits z.cells)with
    | some d=>bif Nat.ble i.bytes 65536&&Nat.beq z.cells.size i.size then
      some ([!ltI l 0,!ltI c l,!ltI 1048576 c],zX ty (List.replicate l.toNat d) (some c.toNat))
     else none
    | none=>none
   | none=>none
  | none=>none
 | _,_,_=>none
def a5N(hW:aX n0 G μ H w){t p q v x y cs}(hp:VR w G μ p x)(hq:VR w G μ q y)(h:a14 P t p q=some (cs,v))(hcs:J7 cs=true) :
  C5 P n0 w G μ (Instr.makeSlice t x y) v H:=by
 unfold a14 at h;split at h
 next e ty kl l kc cc hel=>
  rw[VR]at hp hq;subst hp; subst hq;have⟨hu,hs⟩:=ID hel;split at h
  next i hi=>
   have hsz:=ZW hs hi;split at h
   ·rename_i z hz;split at h
    ·rename_i d hd;cases hb:(Nat.ble i.bytes 65536&&Nat.beq z.cells.size i.size)with
     | false=>rw[hb]at h; cases h
     | true =>
      rw[hb]at h;simp only[oC,oJ,oP]at h;obtain⟨rfl,rfl⟩:=h;simp only[oA]at hb;have hb1:=oL hb.1;have hb2:=oE hb.2;have⟨c1,hcs⟩:=aW hcs;have⟨c2,hcs⟩:=aW hcs;have⟨c3,_⟩:=aW hcs;rw[aF,Bool.not_eq_true',decide_eq_false_iff_not]at c1 c2 c3;have hbytes:(i.bytes:Int)*cc<=281474976710656:=by
       have:(i.bytes:Int)*cc<=65536*1048576:=Int.mul_le_mul Z Z Z Z;omega
      have hr:=run_make (P:=P) w t e i z hu hi hz kl kc l cc Z Z hbytes Z;have hdz:VRs w G aH (enc ty d) z.cells.toList:=JN ty aH _ d _ hd (KC _);have hrep:=JU hdz l.toNat;have hmade:(madeCells z.cells (cc.toNat*i.size)).toList=(List.replicate cc.toNat z.cells.toList).flatten:=by rw[<- hb2]; exact RJ z.cells cc.toNat
      have hsplit:(List.replicate cc.toNat z.cells.toList).flatten=(List.replicate l.toNat z.cells.toList).flatten++(List.replicate (cc.toNat-l.toNat) z.cells.toList).flatten:=by
       rw[<- List.flatten_append,List.replicate_append_replicate]
       congr 2; omega
      have⟨e1,e2⟩:=aTX hW (.cells (madeCells z.cells (cc.toNat*i.size)) e);refine⟨_,_,_,_,hr,e1,e2,aOS ?_⟩;rw[VR];refine⟨_,_,by rw[List.length_replicate],by rw[List.length_replicate]; omega,λk hk=>by cases hk; rfl,.inr ⟨w.heap.size,0,rfl,.inr rfl,?_⟩⟩;refine aT.mk λj p hp=>?_
      have⟨u,g1,g2⟩:=hrep.get hp;refine⟨u,?_,VR.mono e1.toMono.aH p u g2⟩;rw[Nat.zero_add,World.cell?_alloc_new,<- Array.getElem?_toList,hmade,hsplit,List.getElem?_append_left (oO.1 g1).1];exact g1
    cases h
   cases h
  cases h
 cases h
def aL9(P:Program) (H:Heap) (t:TypeId) (l c:PV):TN :=
 match OW P t,l,c with
 | some (e,ty),.lit (.int _ l),.lit (.int _ c)=>match P.info? e with
  | some i=>match i.zero with
   | some z=>match dec ty (lits z.cells)with
    | some d=>bif Nat.ble i.bytes 65536&&Nat.beq z.cells.size i.size then
      some ([!ltI l 0,!ltI c l,!ltI 1048576 c],.win H.length 0 l.toNat ty.size,H++[some ⟨aI ty (List.replicate c.toNat d),e,true,false,some ⟨ty,List.replicate c.toNat d⟩⟩],2)
     else none
    | none=>none
   | none=>none
  | none=>none
 | _,_,_=>none
def bAN(hW:aX n0 G μ H w){t p q v x y cs H' c}(hp:VR w G μ p x)(hq:VR w G μ q y)(h:aL9 P H t p q=some (cs,v,H',c))(hcs:J7 cs=true) :
  c=2/\C5 P n0 w G μ (Instr.makeSlice t x y) v H':=by
 unfold aL9 at h;split at h
 next e ty kl l kc cc hel=>
  rw[VR]at hp hq;subst hp; subst hq;have⟨hu,hs⟩:=ID hel;split at h
  next i hi=>
   have hsz:=ZW hs hi;split at h
   ·rename_i z hz;split at h
    ·rename_i d hd;cases hb:(Nat.ble i.bytes 65536&&Nat.beq z.cells.size i.size)with
     | false=>rw[hb]at h; cases h
     | true =>
      rw[hb]at h;simp only[oC,oJ,oP]at h;obtain⟨rfl,rfl,rfl,rfl⟩:=h;refine⟨rfl,?_⟩;simp only[oA]at hb;have hb1:=oL hb.1;have hb2:=oE hb.2;have⟨c1,hcs⟩:=aW hcs;have⟨c2,hcs⟩:=aW hcs;have⟨c3,_⟩:=aW hcs;rw[aF,Bool.not_eq_true',decide_eq_false_iff_not]at c1 c2 c3;have hbytes:(i.bytes:Int)*cc<=281474976710656:=by
       have:(i.bytes:Int)*cc<=65536*1048576:=Int.mul_le_mul Z Z Z Z;omega
      have hr:=run_make (P:=P) w t e i z hu hi hz kl kc l cc Z Z hbytes Z;have hdz:VRs w G aH (enc ty d) z.cells.toList:=JN ty aH _ d _ hd (KC _);have hrep:=JU hdz cc.toNat;have hmade:(madeCells z.cells (cc.toNat*i.size)).toList=(List.replicate cc.toNat z.cells.toList).flatten:=by rw[<- hb2]; exact RJ z.cells cc.toNat
      have hk:=QZ (on:=some cc.toNat) hW (madeCells z.cells (cc.toNat*i.size)) ⟨aI ty (List.replicate cc.toNat d),e,true,false,some ⟨ty,List.replicate cc.toNat d⟩⟩ (λj p hp=>by
       have⟨u,g1,g2⟩:=hrep.get hp;refine⟨u,?_,g2.bF⟩;rw[<- Array.getElem?_toList,hmade];exact g1) (λh=>by cases h) rfl (λg hg=>by cases hg; exact⟨rfl,by simp⟩)
      refine⟨_,_,G,_,hr,OG hW _ _ _,hk,?_⟩;rw[VR,GO];simp only[Nat.zero_add];refine⟨w.heap.size,cc.toNat,cc.toNat,mH _ _ _ _,by rw[Nat.zero_mul],by omega,⟨madeCells z.cells (cc.toNat*i.size),e,(0,0),?_,?_⟩,rZ _ _ _ _,by omega,by omega,trivial⟩
      ·show (w.heap.push _)[w.heap.size]?=_;simp
      ·simp[madeCells,hsz]
    cases h
   cases h
  cases h
 cases h
end Go.PM
namespace Go.PM
open Go Go.RowKit
def guardOf(F:Frm) (l:List Oper) (o:Oper):Option Bool :=
 match o.guard with
 | none=>some true
 | some (j,want)=>match l[j]? with
  | some p=>match p.dst with
   | some t=>match cR F t with
    | .lit (.bool b)=>some (bif b then want else !want)
    | .lit _=>some false
    | _=>none
   | none=>none
  | none=>none
def aER(nt:Nat)(F:Frm)(d:Option Tmp)(v:PV):Option Frm :=match d with| none=>some F| some t=>bif Nat.blt t nt then some ((t,v)::F) else none
def bTN(l:List Oper):Option Tmp->Bool
 | none=>false
 | some t=>l.any λo=>match o.op with
  | .call c=>match c.callee with
   | .value _=>c.args.toList.any λx=>match x with
    | .tmp s=>Nat.beq s t
    | _=>false
   | _=>false
  | .buildSlice _ _ ps=>ps.toList.any λx=>match x.2 with
   | .tmp s=>Nat.beq s t
   | _=>false
  | .build _ ps=>ps.toList.any λx=>match x.2 with
   | .tmp s=>Nat.beq s t
   | _=>false
  | .store _ (.tmp a) (.tmp s)=>Nat.beq s t&&l.any λo=>match o.dst,o.op with
   | some b,.fieldAddr _ _ _=>Nat.beq a b
   | _,_=>false
  | _=>false
def a86(l:List Oper):Option Tmp->Bool
 | none=>false
 | some t=>l.any λo=>match o.op with
  | .call c=>match c.callee with
   | .builtin .append=>match c.args.toList with
    | .tmp s::_=>Nat.beq s t
    | _=>false
   | _=>false
  | _=>false
def opz(P:Program) (cl:Callee) (l:List Oper) (F:Frm) (H:Heap) (o:Oper):Option (PV×Heap×Nat):=match o.op with
 | .makeSlice t n c=>bif a86 l o.dst then (match aL9 P H t (ev F n) (ev F c)with
   | some (cs,v,H',k)=>bif J7 cs then some (v,H',k) else none
   | none=>none) else opx P cl F H o
 | _=>opx P cl F H o
def mkData(P:Program) (F:Frm) (l:List Oper) (o:Oper):Option (Option (List Bool×PV)):=match o.op with| .makeSlice t n c=>bif bTN l o.dst then some (a14 P t (ev F n) (ev F c)) else none| _=>none
def I9(P:Program)(cl:Callee)(l:List Oper)(o:Oper)(F:Frm)(H:Heap):Option (PV×Heap×Nat) :=
 match guardOf F l o with
 | some true=>match mkData P F l o with
  | none=>opz P cl l F H o
  | some none=>none
  | some (some (cs,v))=>bif J7 cs then some (v,H,0) else none
 | some false=>some (.lit undef,H,0)
 | none=>none
def TI(P:Program)(cl:Callee)(nt:Nat)(l:List Oper):List Oper->Frm->Heap->Option (Frm×Heap)
 | [],F,H=>some (F,H)
 | o::rest,F,H=>match I9 P cl l o F H with
  | some (v,H',c)=>fPV v λv=>match aER nt F o.dst v with
   | some F'=>bif Nat.beq c 2 then aYD H' λH'=>TI P cl nt l rest F' H' else TI P cl nt l rest F' H'
   | none=>none
  | none=>none
def a5H:List Oper->Nat| []=>0| o::l=>match o.dst with|some _=>a5H l+1|none=>a5H l
def b14:Option Tmp->Nat| some _=>1| none=>0
def bCB {nt F F' d v}(h:aER nt F d v=some F'):∃ news ,F'=news++F/\news.length=b14 d:=by
 cases d with
 | none=>simp only[aER,oJ]at h; subst h; exact⟨[],rfl,rfl⟩
 | some t =>
  simp only[aER]at h;cases a:Nat.blt t nt with
  | false=>grind
  | true =>
   rw[a]at h;simp only[oC,oJ]at h;subst h;exact⟨[(t,v)],rfl,rfl⟩
def a3C {P cl nt ops}:∀ {l F F' H H'},TI P cl nt ops l F H=some (F',H')->∃ news ,F'=news++F/\news.length=a5H l
 | [],F,F',H,H',h=>by
  simp only[TI,oJ,oP]at h;exact⟨[],h.1.symm,rfl⟩
 | o::l,F,F',H,H',h=>by
  simp only[TI]at h;split at h
  ·rw[aG7]at h;split at h
   next f hp=>rw[NY,Bool.cond_self]at h;have⟨n1,g,c⟩:=a3C h;have⟨a,e,b⟩:=bCB hp;refine⟨n1++a,by grind,?_⟩;rw[oH,c,b];simp only[a5H];generalize o.dst=d;cases d <;> rfl
   grind
  grind
section
variable {P:Program} {cl:Callee} {n0:Nat->Prop} {nt:Nat} {wi:World} {Gi:Gd} {μi:Mp} {w:World} {G:Gd} {μ:Mp} {F:Frm} {H:Heap} {a:Act}
def OO(i:fG w G μ nt F a){ops o b}(h:guardOf F ops.toList o=some b):Region.wanted o (yielded ops a.tmps)=b:=by
 unfold guardOf at h;unfold Region.wanted;split at h;rename_i f;simp only[oJ]at h;rw[f,<- h]
 next j want f=>
  rw[f];simp only;split at h
  next p hp=>
   have hp:ops[j]?=some p:=(by simpa using hp);split at h
   ·rename_i t ht;have d:=i.slot t;have k:yielded ops a.tmps j=match a.tmps[t]? with|some (.bool b)=>some b|_=>none:=by
     unfold yielded;simp only[hp,Option.bind_some,ht];rfl
    rw[k];split at h
    ·rename_i c g;rw[g,VR]at d;simp only[oJ]at h;have:a.tmps[t]?=some (.bool c):=by
      rcases oG t a.tmps.size with hl|hl
      ·simp only[Array.getD,hl,dif_pos]at d;rw[Array.getElem?_eq_getElem hl,<- d]; rfl
      ·simp only[Array.getD,Nat.not_lt.2 hl,dif_neg,not_false_iff]at d;cases d
     rw[this,<- h];cases c <;> cases want <;> rfl
    ·rename_i u e g;rw[g,VR]at d;simp only[oJ]at h;rw[<- h];rcases oG t a.tmps.size with hl|hl
     ·have:a.tmps[t]?=some u:=(by simp only[Array.getD,hl,dif_pos]at d;rw[Array.getElem?_eq_getElem hl,<- d]; rfl);rw[this];cases u <;> first|rfl|exact absurd rfl (e _)
     rw[Array.getElem?_eq_none hl]; rfl
    cases h
   cases h
  cases h
def I(n0:Nat->Prop) (wi:World) (Gi:Gd) (μi:Mp) (nt:Nat) (F:Frm) (H:Heap) (a:Act) (w:World):Prop :=∃ G μ,Ext n0 wi Gi μi w G μ/\aX n0 G μ H w/\fG w G μ nt F a
def fG.aXJ (h:fG w G μ nt F a){d p v F'}(b:aER nt F d p=some F')(c:VR w G μ p v):fG w G μ nt F' (a.put d v):=by
 cases d with
 | none=>simp only[aER,oJ]at b; subst b; exact h
 | some t =>
  simp only[aER]at b;cases e:Nat.blt t nt with
  | false=>grind
  | true =>
   rw[e]at b;simp only[oC,oJ]at b;subst b;exact h.cons (by simp_all) c
def bFA(d:aX n0 G μ H w)(c:fG w G μ nt F a){l o cs v}(h:mkData P F l o=some (some (cs,v)))(b:J7 cs=true):XN P n0 w G μ o a v H:=by
 unfold mkData at h;split at h
 next t x y f=>
  cases e:bTN l o.dst with
  | false=>grind
  | true =>
   rw[e]at h;simp only[oC,oJ]at h;exact .value (by simp only[execOp,f]) (a5N d (cT c x) (cT c y) h b)
 grind
def bQS(hcl:dS P cl)(hW:aX n0 G μ H w)(hF:fG w G μ nt F a){l o v H' k}(h:opz P cl l F H o=some (v,H',k)):XN P n0 w G μ o a v H':=by
 unfold opz at h;split at h
 next t n c ho=>
  cases hb:a86 l o.dst with
  | false=>rw[hb]at h; exact bCC hcl hW hF h
  | true =>
   rw[hb]at h;split at h
   next cs v1 H1 k1 h1=>have⟨hcs,h⟩:=aJ h;obtain⟨rfl,rfl,rfl⟩:=h;exact .value (by simp only[execOp,ho]) (bAN hW (cT hF n) (cT hF c) h1 hcs).2
   grind
 exact bCC hcl hW hF h
def bHO {t p q}:T2 (aL9 P H t p q):=by
 unfold aL9
 repeat' first
  | exact T2.no
  | exact T2.yes
  | apply T2.cond
  | split
def bY0(hcl:dS P cl){l o v H' k}(h:opz P cl l F H o=some (v,H',k)):aVL k H H' v (λH2=>opz P cl l F H2 o):=by
 unfold opz at h ⊢;split at h
 ·cases hb:a86 l o.dst with
  | false =>
   rw[hb]at h;exact bP2 hcl h
  | true =>
   rw[hb]at h;split at h
   next cs v1 H1 k1 h1=>have⟨hcs,h⟩:=aJ h;obtain⟨rfl,rfl,rfl⟩:=h;have:=bHO _ _ _ _ h1;subst this;exact⟨λh=>Z,λh=>by cases h⟩
   grind
 exact bP2 hcl h
def aEK(e:dS P cl){ops o v H' c}(h:I9 P cl ops.toList o F H=some (v,H',c))(f:aX n0 G μ H w)(b:fG w G μ nt F a) :
  (Region.wanted o (yielded ops a.tmps)=true/\XN P n0 w G μ o a v H')\/(Region.wanted o (yielded ops a.tmps)=false/\v=.lit undef/\H'=H):=by
 unfold I9 at h;split at h
 next d=>
  split at h;exact .inl ⟨OO b d,bQS e f b h⟩;grind
  next cs v' hm=>
   cases g:J7 cs with
   | false=>grind
   | true =>
    rw[g]at h;obtain⟨rfl,rfl,rfl⟩:=h;exact .inl ⟨OO b d,bFA f b hm g⟩
 rename_i d;obtain⟨rfl,rfl,rfl⟩:=h;exact .inr ⟨OO b d,rfl,rfl⟩;grind
def NT(b:dS P cl){ops Q F' H'}:∀ l F H a w,TI P cl nt ops.toList l F H=some (F',H')->I n0 wi Gi μi nt F H a w ->
  (∀ i w',I n0 wi Gi μi nt F' H' i w'->Q .normal i w')->wpList P ops Q l a w
 | [],F,H,a,w,h,hI,hQ=>by
  obtain⟨rfl,rfl⟩:=h;exact hQ a w hI
 | o::rest,F,H,a,w,h,hI,hQ=>by
  simp only[TI]at h;split at h
  next v H1 c n=>
   rw[aG7]at h;split at h
   ·rename_i k hp;rw[NY,Bool.cond_self]at h;have⟨G,μ,e,g,d⟩:=hI;unfold wpList;rcases aEK b n g d with ⟨h1,h2⟩|⟨h1,rfl,rfl⟩
    ·rw[if_pos h1];refine .inl (h2 _ _ λv' w' G' μ' j f m=>?_);exact NT b rest k H1 _ _ h ⟨G',μ',e.trans j,f,(d.mono j.toMono).aXJ hp m⟩ hQ
    ·rw[h1,if_neg O];exact NT b rest k H1 _ _ h ⟨G,μ,e,g,d.aXJ hp (by rfl)⟩ hQ
   grind
  grind
end
structure bX0 where
 J5:List Nat
 own:List (Nat×TypeId×Option Ty)
 base:Nat
def below(m:Nat):PV->Bool| .hptr r _=>Nat.blt r m| .hs r _ _ _ _=>Nat.blt r m| .own r _=>Nat.blt r m| .op r _ _ _=>Nat.blt r m| .win r _ _ _=>Nat.blt r m| .qs r _=>Nat.blt r m| .agg cs|.tuple cs=>belows m cs| .clo _ f c=>belows m f&&belows m c| _=>true
where belows m:List PV->Bool
 | []=>true
 | p::ps=>below m p&&belows m ps
def bE2(s n:Nat):PV->PV| .win r lo m sz=>bif Nat.beq r s then .win n lo m sz else .win r lo m sz| p=>p
def bJ4(s n:Nat):Frm->Frm| []=>[]|(t,p)::r=>(t,bE2 s n p)::bJ4 s n r
def bEL(t:Nat) (e:TypeId) (ty:Ty) (F:Frm) (H:Heap) (k:Frm->Heap->Option (Frm×Heap)) (s sz:Nat) (q:PV):Option (Frm×Heap):=match iN H s with
 | some kb=>match kb.tag with
  | some g=>match KZ g.t ty g.l with
   | some l=>bif Nat.beq sz ty.size&&!kb.frozen&&Nat.beq kb.ty e&&kb.grown then k ((t,q)::bJ4 s H.length F) (H.set s none++[some ⟨aI ty l,e,true,false,some ⟨ty,l⟩⟩]) else none
   | none=>none
  | none=>none
 | none=>none
def bEG(t:Nat) (e:TypeId) (ty:Ty) (F:Frm) (H:Heap) (k:Frm->Heap->Option (Frm×Heap)):Option (Frm×Heap):=match cR F t with| .lit (.slice none m c)=>bif Nat.beq m 0&&Nat.beq c 0 then k ((t,.own H.length ty.size)::F) (H++[some ⟨aI ty [],e,true,false,some ⟨ty,[]⟩⟩]) else none| .tl _ [] (some 0) _=>k ((t,.own H.length ty.size)::F) (H++[some ⟨aI ty [],e,true,false,some ⟨ty,[]⟩⟩])| .own s sz=>bEL t e ty F H k s sz (.own H.length sz)| .qs s sz=>bEL t e ty F H k s sz (.qs H.length sz)| _=>none
def PR:List (Nat×TypeId×Option Ty)->Frm->Heap->Option (Frm×Heap)
 | [],F,H=>some (F,H)
 | (t,e,none)::r,F,H=>match cR F t with
  | .hptr s off=>match iN H s with
   | some k=>bif Nat.beq k.ty e&&!k.tag.isSome then PR r ((t,.hptr H.length off)::F) (H.set s none++[some k]) else none
   | none=>none
  | _=>none
 | (_,e,some (.rows _))::r,F,H=>match aT7 0 H with
  | some (s,k)=>match k.tag with
   | some ⟨.rows _,_⟩=>bif Nat.beq k.ty e&&!k.frozen then PR r F (H.set s none++[some k]) else none
   | _=>none
  | none=>none
 | (t,e,some ty)::r,F,H=>bEG t e ty F H (PR r)
def a6Y(m d:Nat):PV->Option PV| .own r sz=>bif Nat.blt r m then some (.own r sz) else bif Nat.ble (m+d) r then some (.own (r-d) sz) else none| .qs r sz=>bif Nat.blt r m then some (.qs r sz) else bif Nat.ble (m+d) r then some (.qs (r-d) sz) else none| .hptr r off=>bif Nat.blt r m then some (.hptr r off) else bif Nat.ble (m+d) r then some (.hptr (r-d) off) else none| .win r lo n sz=>bif Nat.blt r m then some (.win r lo n sz) else bif Nat.ble (m+d) r then some (.win (r-d) lo n sz) else none| p=>bif below m p then some p else none
def a8B(m d:Nat)(F:Frm):List Nat->Option Frm| []=>some []| t::r=>match a6Y m d (cR F t),a8B m d F r with| some p,some F'=>some ((t,p)::F')| _,_=>none
def aJ8(m:Nat):List (Option Blk)->Bool| []=>true| none::r=>aJ8 m r| some k::r=>(k.tag.isSome||below.belows m k.cells)&&aJ8 m r
def aN8:List (Option Blk)->Bool| []=>true| none::r=>aN8 r| some k::r=>(k.tag.isSome||eM.noRefs k.cells)&&aN8 r
def tidy(pl:bX0)(F:Frm)(H:Heap):Option (Frm×Heap) :=bif Nat.ble pl.base H.length then match PR pl.own F H with| some (F1,H1)=>bif aJ8 pl.base (H1.take pl.base)&&aN8 (H1.drop (pl.base+(H.length-pl.base))) then match a8B pl.base (H.length-pl.base) F1 pl.J5 with| some F2=>some (F2,H1.take pl.base++H1.drop (pl.base+(H.length-pl.base)))| none=>none else none| none=>none else none
section
variable {P:Program} {n0:Nat->Prop} {w wi:World} {G Gi:Gd} {μ μi μ':Mp} {H:Heap} {F:Frm} {a:Act} {nt:Nat}
mutual
def aMQ {m:Nat} (h:∀ r,r<m->μ'.loc r=μ.loc r/\μ'.len r=μ.len r/\μ'.sh r=μ.sh r):∀ (p:PV) (v:Value),below m p=true->VR w G μ p v->VR w G μ' p v
 | .lit u,v,_,hv=>by rw[VR]at hv ⊢; exact hv
 | .vals ..,v,_,hv=>by rw[VR]at hv ⊢; exact hv
 | .iptr _,v,_,hv=>by rw[VR]at hv ⊢; exact hv
 | .tl ..,v,_,hv=>by rw[VR]at hv ⊢; exact hv
 | .tp ..,v,_,hv=>by rw[VR]at hv ⊢; exact hv
 | .row ..,v,_,hv=>by rw[VR]at hv ⊢; exact hv
 | .rp ..,v,_,hv=>by rw[VR]at hv ⊢; exact hv
 | .mp _,v,_,hv=>by rw[VR]at hv ⊢; exact hv
 | .tm _,v,_,hv=>by rw[VR]at hv ⊢; exact hv
 | .junk,v,_,hv=>by rw[VR]; trivial
 | .hptr r off,v,hb,hv=>by
  have:=h r (gE (by simpa only[below]using hb));rw[VR]at hv ⊢; rw[this.1,this.2.2]; exact hv
 | .hs r off l c s,v,hb,hv=>by
  have:=h r (gE (by simpa only[below]using hb));rw[VR]at hv ⊢; rw[this.1,this.2.2]; exact hv
 | .own r s,v,hb,hv=>by
  have:=h r (gE (by simpa only[below]using hb));rw[VR]at hv ⊢; rw[this.1,this.2.1,this.2.2]; exact hv
 | .op r i off s,v,hb,hv=>by
  have:=h r (gE (by simpa only[below]using hb));rw[VR]at hv ⊢; rw[this.1,this.2.2]; exact hv
 | .win r lo n s,v,hb,hv=>by
  have:=h r (gE (by simpa only[below]using hb));rw[VR]at hv ⊢; rw[this.1,this.2.1,this.2.2]; exact hv
 | .qs r s,v,hb,hv=>by
  have:=h r (gE (by simpa only[below]using hb));rw[VR]at hv ⊢; rw[this.1,this.2.1,this.2.2]; exact hv
 | .agg cs,v,hb,hv=>by
  rw[VR]at hv ⊢;have⟨vs,b,a⟩:=hv;exact⟨vs,b,aFT h cs _ (by simpa only[below]using hb) a⟩
 | .tuple cs,v,hb,hv=>by
  rw[VR]at hv ⊢;have⟨vs,b,a⟩:=hv;exact⟨vs,b,aFT h cs _ (by simpa only[below]using hb) a⟩
 | .clo fn f c,v,hb,hv=>by
  rw[VR]at hv ⊢;simp only[below,oA]at hb;have⟨d,cs,b,a,e⟩:=hv;exact⟨d,cs,b,aFT h f _ hb.1 a,aFT h c _ hb.2 e⟩
def aFT {m:Nat} (h:∀ r,r<m->μ'.loc r=μ.loc r/\μ'.len r=μ.len r/\μ'.sh r=μ.sh r):∀ (ps:List PV) (vs:List Value),below.belows m ps=true->VRs w G μ ps vs->VRs w G μ' ps vs
 | [],vs,_,hv=>by rw[VRs]at hv ⊢; exact hv
 | p::ps,vs,hb,hv=>by
  rw[VRs]at hv ⊢;simp only[below.belows,oA]at hb;have⟨x,xs,b,a,c⟩:=hv;exact⟨x,xs,b,aMQ h p x hb.1 a,aFT h ps xs hb.2 c⟩
end
def xZ {b off ps}(hn:eM.noRefs ps=true)(h:aT w G μ b off ps):aT w G μ' b off ps:=by
 have⟨vs,c,a⟩:=h.values;exact aT.vK (VRs.bF (cZ ps vs hn c)) a
def bE9 {m}(hm:∀ r,r<m->μ'.loc r=μ.loc r/\μ'.len r=μ.len r/\μ'.sh r=μ.sh r){b off ps}(hn:below.belows m ps=true)(h:aT w G μ b off ps):aT w G μ' b off ps:=by
 have⟨vs,c,a⟩:=h.values;exact aT.vK (aFT hm ps vs hn c) a
def aTV {t e v}(h:VR w G μ (.tl t [] (some 0) e) v):∃ ao,v=.slice ao 0 0:=by
 obtain⟨a,rfl⟩:=h;obtain⟨ao,c,rfl,_,b,_⟩:=a;simp_all
def fG.named (h:fG w G μ nt F a){t p}(c:VR w G μ p (a.tmps.getD t undef)):fG w G μ nt ((t,p)::F) a :=
 ⟨h.size,λs=>by
  rw[eY]
  by_cases b:s=t
  ·grind
  ·rw[if_neg b]; exact h.slot s,h.defers⟩
def a1P s n t:∀ F ,cR (bJ4 s n F) t=bE2 s n (cR F t)
 | []=>rfl
 | (u,p)::r=>by
  simp only[bJ4];rw[eY,eY]
  by_cases h:t=u
  ·grind
  ·rw[if_neg h,if_neg h]; exact a1P s n t r
def bR4 {s n}(e:Mono w G μ w G μ')(j:μ'.loc n=μ.loc s)(hn:μ'.len n=μ.len s)(i:∀ b,μ.loc s=some b->μ'.sh n=μ.sh s){p v}(h:VR w G μ p v):VR w G μ' (bE2 s n p) v:=by
 cases p with
 | win r lo m sz =>
  simp only[bE2];cases a:Nat.beq r s with
  | true =>
   have a:=oE a;simp only[oC];rw[VR];have⟨b,c,f,g,k,l,q,d,o⟩:=h
   simp_all
  | false=>exact VR.mono e _ _ h
 | _=>exact VR.mono e _ _ h
def fG.bJ4 (h:fG w G μ nt F a){s n}(e:Mono w G μ w G μ')(d:μ'.loc n=μ.loc s)(hn:μ'.len n=μ.len s)(c:∀ b,μ.loc s=some b->μ'.sh n=μ.sh s):fG w G μ' nt (PM.bJ4 s n F) a :=⟨h.size,λt=>by rw[a1P]; exact bR4 e d hn c (h.slot t),h.defers⟩
def a9I {t e ty F H F' H' kk s sz q}
  (v:∀ F H F' H',kk F H=some (F',H')->I n0 wi Gi μi nt F H a w->I n0 wi Gi μi nt F' H' a w/\H.length<=H'.length/\∀ t,cR F t=.junk->cR F' t=.junk)
  (h:bEL t e ty F H kk s sz q=some (F',H')) (X:I n0 wi Gi μi nt F H a w) (ht:cR F t=.own s sz\/cR F t=.qs s sz) (B:aX n0 G μ H w) (M:fG w G μ nt F a) (Q:Ext n0 wi Gi μi w G μ) (N:VR w G μ (.qs s sz) (a.tmps.getD t undef)) (z:q=.qs H.length sz\/q=.own H.length sz/\VR w G μ (.own s sz) (a.tmps.getD t undef)) :
  I n0 wi Gi μi nt F' H' a w/\H.length<=H'.length/\∀ t,cR F t=.junk->cR F' t=.junk:=by
 unfold bEL at h;split at h
 next k E=>
  split at h
  next g A=>
   split at h
   ·rename_i Z T;have⟨l,h⟩:=aJ h;simp only[oA,Bool.not_eq_true']at l;have⟨⟨⟨O,L⟩,y⟩,R⟩:=l;have y:=oE y;have⟨K,m⟩:=B.tags s k g (aG E) A;have⟨gt,f⟩:=g;obtain⟨rfl,rfl⟩:=mL T;have⟨n,r,i⟩:=N;rw[m]at r;cases r;have C:k=⟨aI gt f,e,true,false,some ⟨gt,f⟩⟩:=by
     have⟨Y,V,k3,U,W⟩:=k;grind
    have junk:∀ x,cR F x=.junk->cR ((t,q)::bJ4 s H.length F) x=.junk:=λx P=>by
     rw[eY,if_neg,a1P,P]; rfl;grind
    have fin:∀ (u:Option Nat) (o:Nat),μ.loc s=u->(∀ b,μ.loc s=some b->o=μ.sh s)->Ext n0 w G μ w G (upd μ H.length u (some f.length) o)->aX n0 G (upd μ H.length u (some f.length) o) (H.set s none++[some ⟨aI gt f,e,true,false,some ⟨gt,f⟩⟩]) w ->
      VR w G (upd μ H.length u (some f.length) o) q (a.tmps.getD t undef)->I n0 wi Gi μi nt F' H' a w/\H.length<=H'.length/\∀ t,cR F t=.junk->cR F' t=.junk:=λu o J S j p v1=>by
     have⟨g1,g2,g3⟩:=v _ _ F' H' h ⟨G,_,Q.trans j,p,fG.named (M.bJ4 j.toMono (by rw[mH,J]) (by rw[rZ,m]) (λb l=>by rw[GO]; exact S b l)) v1⟩;grind
    cases d:μ.loc s with
    | none =>
     rcases i with ⟨i,ao,h3⟩|⟨b,c,h3,h4,h5,h6⟩
     ·have D:=wB B s;have⟨j,p⟩:=vY D ⟨aI gt f,e,true,false,some ⟨gt,f⟩⟩ (on:=some f.length) (λg A=>by cases A; exact⟨rfl,rfl⟩);rw[List.length_set]at j p;refine fin none 0 d (λb l=>by rw[d]at l; cases l) j p ?_;rcases z with rfl|⟨rfl,_⟩ <;> (rw[VR]; exact⟨_,rZ ..,.inl ⟨i,ao,h3⟩⟩)
     ·grind
    | some b =>
     rw[C]at E;have⟨j,p⟩:=aCK B (aG E) d (on:=some f.length) (λg A=>by cases A; exact⟨rfl,rfl⟩);refine fin (some b) _ d (λ_ _=>rfl) j p ?_;rcases z with rfl|⟨rfl,z⟩
     ·rw[VR];rw[GO];refine⟨_,rZ ..,?_⟩;rcases i with ⟨i,ao,h3⟩|⟨b',c,h3,h4,h5,h6⟩
      ·grind
      ·rw[d]at h3; cases h3;exact .inr ⟨b,c,mH ..,h4,h5,h6⟩
     ·rw[VR]at z;rw[VR,GO];have⟨n,r,i⟩:=z;rw[m]at r;cases r;refine⟨_,rZ ..,?_⟩;rcases i with ⟨i,ao,h3⟩|⟨b',c,h3,h4,h5,h6⟩
      ·exact .inl ⟨i,ao,h3⟩
      ·rw[d]at h3; cases h3;exact .inr ⟨b,c,mH ..,h4,h5,h6⟩
   cases h
  cases h
 cases h
def QJ {t e ty F H F' H' kk}
  (b:∀ F H F' H',kk F H=some (F',H')->I n0 wi Gi μi nt F H a w->I n0 wi Gi μi nt F' H' a w/\H.length<=H'.length/\∀ t,cR F t=.junk->cR F' t=.junk)
  (h:bEG t e ty F H kk=some (F',H')) (q:I n0 wi Gi μi nt F H a w):I n0 wi Gi μi nt F' H' a w/\H.length<=H'.length/\∀ t,cR F t=.junk->cR F' t=.junk:=by
 unfold bEG at h;have⟨G,μ,j,i,f⟩:=q;have d:=f.slot t;split at h
 next m c ht=>
  have⟨n,h⟩:=aJ h;simp only[oA]at n;have r:=oE n.1;have u:=oE n.2;subst r; subst u;rw[ht,VR]at d;have⟨k,p⟩:=vY i ⟨aI ty [],e,true,false,some ⟨ty,[]⟩⟩ (on:=some 0) (λg o=>by cases o; exact⟨rfl,rfl⟩);have f1:fG w G (upd μ H.length none (some 0)) nt ((t,.own H.length ty.size)::F) a:=by
   refine fG.named (f.mono k.toMono) ?_;exact⟨0,rZ ..,.inl ⟨rfl,none,d⟩⟩
  have⟨g1,g2,g3⟩:=b _ _ F' H' h ⟨G,_,j.trans k,p,f1⟩;refine⟨g1,by simp only[oH]at g2; omega,λs l=>g3 s ?_⟩;rw[eY,if_neg,l];grind
 next x v ht=>
  rw[ht]at d;have⟨ao,d⟩:=aTV d;have⟨k,p⟩:=vY i ⟨aI ty [],e,true,false,some ⟨ty,[]⟩⟩ (on:=some 0) (λg o=>by cases o; exact⟨rfl,rfl⟩);have f1:fG w G (upd μ H.length none (some 0)) nt ((t,.own H.length ty.size)::F) a:=by
   refine fG.named (f.mono k.toMono) ?_;exact⟨0,rZ ..,.inl ⟨rfl,ao,d⟩⟩
  have⟨g1,g2,g3⟩:=b _ _ F' H' h ⟨G,_,j.trans k,p,f1⟩;refine⟨g1,by simp only[oH]at g2; omega,λs l=>g3 s ?_⟩;rw[eY,if_neg,l];grind
 rename_i s sz ht;rw[ht]at d;exact a9I b h ⟨G,μ,j,i,f⟩ (by rw[ht]; exact .inl rfl) i f j (bNW d) (.inr ⟨rfl,d⟩);rename_i s sz ht;rw[ht]at d;exact a9I b h ⟨G,μ,j,i,f⟩ (by rw[ht]; exact .inr rfl) i f j d (.inl rfl);cases h
def xG:∀ l F H F' H',PR l F H=some (F',H')->I n0 wi Gi μi nt F H a w->I n0 wi Gi μi nt F' H' a w/\H.length<=H'.length/\∀ t,cR F t=.junk->cR F' t=.junk
 | [],F,H,F',H',h,hI=>by
  obtain⟨rfl,rfl⟩:=h;grind
 | (t,e,none)::l,F,H,F',H',h,hI=>by
  simp only[PR]at h;have⟨G,μ,p,i,f⟩:=hI;have c:=f.slot t;split at h
  next s off ht=>
   split at h
   ·rename_i k u;have⟨j,h⟩:=aJ h;rw[ht,VR]at c;have⟨b,r,v⟩:=c;have⟨d,o⟩:=aCK i (aG u) r (on:=none) (λg n=>by rw[n]at j; simp at j);have f1:fG w G (upd μ H.length (some b) none (μ.sh s)) nt ((t,.hptr H.length off)::F) a:=by
     refine fG.named (f.mono d.toMono) ?_;rw[VR,GO];exact⟨b,mH ..,v⟩
    have⟨g1,g2,g3⟩:=xG l _ _ F' H' h ⟨G,_,p.trans d,o,f1⟩;refine⟨g1,by simp only[oH,List.length_set]at g2; omega,λx q=>g3 x ?_⟩;rw[eY,if_neg,q];grind
   ·cases h
  ·cases h
 | (t,e,some (.rows ty))::l,F,H,F',H',h,hI=>by
  simp only[PR]at h;have⟨G,μ,p,i,f⟩:=hI;split at h
  next s k m=>
   split at h
   next y z ht=>have⟨j,h⟩:=aJ h;have⟨c,n⟩:=aSG m;have⟨d,o⟩:=bNJ i c n ht;have⟨g1,g2,g3⟩:=xG l _ _ F' H' h ⟨G,_,p.trans d,o,f.mono d.toMono⟩;grind
   ·cases h
  ·cases h
 | (t,e,some (.int ik))::l,F,H,F',H',h,hI=>QJ (ty:=.int ik) (λF H F' H'=>xG l F H F' H') (by simpa only[PR]using h) hI
 | (t,e,some .bool)::l,F,H,F',H',h,hI=>QJ (ty:=.bool) (λF H F' H'=>xG l F H F' H') (by simpa only[PR]using h) hI
 | (t,e,some .str)::l,F,H,F',H',h,hI=>QJ (ty:=.str) (λF H F' H'=>xG l F H F' H') (by simpa only[PR]using h) hI
 | (t,e,some (.list lt))::l,F,H,F',H',h,hI=>QJ (ty:=.list lt) (λF H F' H'=>xG l F H F' H') (by simpa only[PR]using h) hI
 | (t,e,some (.prod pa pb))::l,F,H,F',H',h,hI=>QJ (ty:=.prod pa pb) (λF H F' H'=>xG l F H F' H') (by simpa only[PR]using h) hI
 | (t,e,some (.hnd c))::l,F,H,F',H',h,hI=>QJ (ty:=.hnd c) (λF H F' H'=>xG l F H F' H') (by simpa only[PR]using h) hI
 | (t,e,some .smap)::l,F,H,F',H',h,hI=>QJ (ty:=.smap) (λF H F' H'=>xG l F H F' H') (by simpa only[PR]using h) hI
def aTS {m:Nat}:∀ {l:List (Option Blk)} {r:Nat} {k:Blk},aJ8 m l=true->l[r]?=some (some k)->k.tag.isSome=true\/below.belows m k.cells=true
 | [],r,k,_,h=>by simp at h
 | none::l,0,k,_,h=>by simp at h
 | some k'::l,0,k,hp,h=>by
  simp only[List.getElem?_cons_zero,oJ]at h;subst h;simp only[aJ8,oA,Bool.or_eq_true]at hp;exact hp.1
 | none::l,r+1,k,hp,h=>aTS (l:=l) (r:=r) (by simpa only[aJ8]using hp) (by simpa using h)
 | some k'::l,r+1,k,hp,h=>by
  simp only[aJ8,oA]at hp;exact aTS (l:=l) (r:=r) hp.2 (by simpa using h)
def aO7:∀ {l:List (Option Blk)} {r:Nat} {k:Blk},aN8 l=true->l[r]?=some (some k)->k.tag.isSome=true\/eM.noRefs k.cells=true
 | [],r,k,_,h=>by simp at h
 | none::l,0,k,_,h=>by simp at h
 | some k'::l,0,k,hp,h=>by
  simp only[List.getElem?_cons_zero,oJ]at h;subst h;simp only[aN8,oA,Bool.or_eq_true]at hp;exact hp.1
 | none::l,r+1,k,hp,h=>aO7 (l:=l) (r:=r) (by simpa only[aN8]using hp) (by simpa using h)
 | some k'::l,r+1,k,hp,h=>by
  simp only[aN8,oA]at hp;exact aO7 (l:=l) (r:=r) hp.2 (by simpa using h)
def Y1(μ:Mp) (m d:Nat):Mp:=⟨λr=>if r<m then μ.loc r else μ.loc (r+d),λr=>if r<m then μ.len r else μ.len (r+d),λr=>if r<m then μ.sh r else μ.sh (r+d)⟩
def RH {m d r}(h:r<m):(Y1 μ m d).loc r=μ.loc r/\(Y1 μ m d).len r=μ.len r/\(Y1 μ m d).sh r=μ.sh r:=by simp[Y1,h]
def aYZ {m d r}(h:m+d<=r):(Y1 μ m d).loc (r-d)=μ.loc r/\(Y1 μ m d).len (r-d)=μ.len r/\(Y1 μ m d).sh (r-d)=μ.sh r:=by
 have b:¬ r-d<m:=Z
 have a:r-d+d=r:=Z
 simp[Y1,b,a]
def bT0(f:aX n0 G μ H w){m d}(hm:m+d<=H.length)(i:aJ8 m (H.take m)=true)(j:aN8 (H.drop (m+d))=true):aX n0 G (Y1 μ m d) (H.take m++H.drop (m+d)) w:=by
 have key:∀ (r:Nat) (k:Blk),(H.take m++H.drop (m+d))[r]?=some (some k)->∃ s,H[s]?=some (some k)/\(Y1 μ m d).loc r=μ.loc s/\((Y1 μ m d).len r=μ.len s/\(Y1 μ m d).sh r=μ.sh s)/\(k.tag.isSome=true\/below.belows m k.cells=true\/eM.noRefs k.cells=true)/\((r<m/\s=r)\/(m<=r/\s=r+d)):=by
  intro r k a;rcases oG r m with hl|hl;rw[List.getElem?_append_left (by simp; omega)]at a;have hp:=aTS i a;rw[List.getElem?_take,if_pos hl]at a;exact⟨r,a,(RH hl).1,(RH hl).2,hp.elim .inl λh=>.inr (.inl h),.inl ⟨hl,rfl⟩⟩
  ·rw[List.getElem?_append_right (by simp; omega)]at a;have hp:=aO7 j a;rw[List.getElem?_drop]at a;have e:m+d+(r-(H.take m).length)=r+d:=by simp only[List.length_take]; omega
   rw[e]at a;have hn:¬ r<m:=Z;exact⟨r+d,a,by simp[Y1,hn],⟨by simp[Y1,hn],by simp[Y1,hn]⟩,hp.elim .inl λh=>.inr (.inr h),.inr ⟨hl,rfl⟩⟩
 refine⟨?_,?_,?_,f.lt,?_,f.base,f.rows.bZ3 (λr=>if r<m then r else r+d) (λr s h=>by
  by_cases i:r<m <;> by_cases j:s<m <;> simp only[i,j,if_true,if_false]at h <;> omega) (λr k a=>by
  have⟨s,g1,g2,_,_,g5⟩:=key r k a;rcases g5 with ⟨g5,g6⟩|⟨g5,g6⟩
  ·grind
  ·subst g6;simp only[if_neg (Nat.not_lt.2 g5)];exact⟨g1,g2⟩)⟩
 intro r k b a o;have⟨s,g1,g2,g3,g4,_⟩:=key r k a;rw[g2]at o;have⟨c,l,a2,a3⟩:=f.blk s k b g1 o;rw[g3.2];refine⟨c,l,?_,a3⟩;rcases g4 with g4|g4|g4;have⟨g,n⟩:=Option.isSome_iff_exists.1 g4;have:=(f.tags s k g g1 n).1;rw[this]at a2 ⊢;exact xZ (lB _ _) a2;exact bE9 (λr a=>RH a) g4 a2;exact xZ g4 a2;intro r k g a n;have⟨s,g1,g2,g3,_⟩:=key r k a;rw[g3.1];exact f.tags s k g g1 n;intro t x p q b z u f1 f2 m1 m2;have⟨s1,l,a2,_,_,a5⟩:=key t p z;have⟨s2,y,v,_,_,A⟩:=key x q u;rw[a2]at m1;rw[v]at m2;have:=f.inj s1 s2 p q b l y f1 f2 m1 m2;omega;intro r a;simp only[oH,List.length_take,List.length_drop]at a;have hn:¬ r<m:=Z;have:=f.top (r+d) Z;simpa[Y1,hn]using this
def bRV {m d p q v}(h:a6Y m d p=some q)(b:VR w G μ p v):VR w G (Y1 μ m d) q v:=by
 unfold a6Y at h;split at h
 next r sz=>
  cases a:Nat.blt r m with
  | true =>
   rw[a]at h;simp only[oC,oJ]at h;subst h;exact aMQ (λr c=>RH c) _ v (by simpa only[below]using a) b
  | false =>
   rw[a]at h;have⟨e,h⟩:=aJ h;simp only[oJ]at h;subst h;have:=aYZ (μ:=μ) (oL e);rw[VR]at b ⊢;grind
 next r sz=>
  cases a:Nat.blt r m with
  | true =>
   rw[a]at h;simp only[oC,oJ]at h;subst h;exact aMQ (λr c=>RH c) _ v (by simpa only[below]using a) b
  | false =>
   rw[a]at h;have⟨e,h⟩:=aJ h;simp only[oJ]at h;subst h;have:=aYZ (μ:=μ) (oL e);rw[VR]at b ⊢;grind
 next r off=>
  cases a:Nat.blt r m with
  | true =>
   rw[a]at h;simp only[oC,oJ]at h;subst h;exact aMQ (λr c=>RH c) _ v (by simpa only[below]using a) b
  | false =>
   rw[a]at h;have⟨e,h⟩:=aJ h;simp only[oJ]at h;subst h;have:=aYZ (μ:=μ) (oL e);rw[VR]at b ⊢;grind
 next r lo n sz=>
  cases a:Nat.blt r m with
  | true =>
   rw[a]at h;simp only[oC,oJ]at h;subst h;exact aMQ (λr c=>RH c) _ v (by simpa only[below]using a) b
  | false =>
   rw[a]at h;have⟨e,h⟩:=aJ h;simp only[oJ]at h;subst h;have:=aYZ (μ:=μ) (oL e);rw[VR]at b ⊢
   simp_all
 have⟨a,h⟩:=aJ h;simp only[oJ]at h;subst h;exact aMQ (λr c=>RH c) _ v a b
def a8J {m d}:∀ {l F'},a8B m d F l=some F'->∀ t,cR F' t=.junk\/a6Y m d (cR F t)=some (cR F' t)
 | [],F',h,t=>by
  simp only[a8B,oJ]at h;subst h;exact .inl rfl
 | s::l,F',h,t=>by
  simp only[a8B]at h;split at h
  next p c hp b=>
   simp only[oJ]at h;subst h;rw[eY]
   by_cases a:t=s
   ·grind
   ·rw[if_neg a]; exact a8J b t
  grind
def bAY {pl F' H'}(h:tidy pl F H=some (F',H'))(m:∀ r,pl.base<=r->μi.loc r=none/\μi.len r=none)(k:I n0 wi Gi μi nt F H a w):I n0 wi Gi μi nt F' H' a w/\∀ t,cR F t=.junk->cR F' t=.junk:=by
 have⟨i,h⟩:=aJ h;have i:=oL i;split at h
 next n H1 l=>
  have⟨g,h⟩:=aJ h;simp only[oA]at g;split at h
  next q d=>
   obtain⟨rfl,rfl⟩:=h;have⟨⟨G,μ,e,j,f⟩,hlen,o⟩:=xG pl.own F H n H1 l k;have iN:=a8J d;refine⟨⟨G,Y1 μ pl.base (H.length-pl.base),?_,bT0 j Z g.1 g.2,f.size,λt=>?_,f.defers⟩,λt ht=>?_⟩
   ·exact {
     good:=e.good
     map:=λr b c=>by
      rcases oG r pl.base with hl|hl
      ·rw[(RH hl).1]; exact e.map r b c
      ·grind
     len:=λr b c=>by
      rcases oG r pl.base with hl|hl
      ·rw[(RH hl).2.1]; exact e.len r b c
      ·grind
     sh:=λr b c=>by
      rcases oG r pl.base with hl|hl
      ·rw[(RH hl).2.2]; exact e.sh r b c
      ·grind
     room:=e.room
     row:=e.row
     os:=e.os
     tape:=e.tape
     output:=e.output
     size:=e.size
     old:=e.old
     new:=e.new }
   rcases iN t with h3|h3;rw[h3,VR]; trivial;exact bRV h3 (f.slot t);rcases iN t with h3|h3;exact h3;rw[o t ht]at h3;have p:a6Y pl.base (H.length-pl.base) .junk=some .junk:=rfl;grind
  cases h
 cases h
end
end Go.PM
