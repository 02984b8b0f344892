/- Texts of one proof, joined (5). -/
import Derived.ProofKit
import Derived.Lib.SmallJoins
import Derived.Test.YtcbgclaonahijaaGreatDoorRows
import Derived.LaidMore
import Derived.OpenShut
import Derived.Lib.LaidU8
import Derived.MakeChecks
import Derived.Test.YtcbgclaonahijaaGreatDoorTie
import Derived.Test.YtcbgclaonahijaaGreatDoorCards
import Derived.SevenTiedAt
import Derived.Test.YtcbgclaonahijaaGreatDoorProg
import Derived.KernelRfl
import Derived.Test.YtcbgclaonahijaaGreatDoorQF4
set_option linter.unusedSimpArgs false
set_option linter.unusedVariables false
set_option linter.defProp false
set_option maxRecDepth 100000
noncomputable section
namespace Go.PM
open Go Go.RowKit
def ask {α:Type}(b:Bool)(k:Bool->Option α):Option α:=bif b then k true else k false
def aWD {α:Type}:List Bool->Option α->Option α| [],r=>r| b::l,r=>bif b then aWD l r else none
def aB {τ α:Type}(x:Option τ)(k:τ->Option α):Option α:=match x with| some x=>k x| none=>none
def mN {β γ α:Type}(z:β⊕γ)(f:β->Option α)(g:γ->Option α):Option α:=match z with| .inl a=>f a| .inr b=>g b
structure Res where
 τ:Type
 val:Option τ
 out:τ->PV
structure aV3 where
 τ:Type
 val:Option τ
 out:τ->PV×Heap
structure Env where
 pure:FuncId->List PV->Option Res
 shr:FuncId->List PV->Heap->Option aV3
 sh:FuncId->Bool
def a9B(E:Env)(g:FuncId)(args:List PV):Option PV:=match E.pure g args with
 | some r=>match r.val with
  | some x=>some (r.out x)
  | none=>none
 | none=>none
def a7R(E:Env)(g:FuncId)(args:List PV)(H:Heap):Option (PV×Heap):=match E.shr g args H with
 | some r=>match r.val with
  | some x=>some (r.out x)
  | none=>none
 | none=>none
def gJ(P:Program)(E:Env):Callee:=callee P E.sh (a9B E) (a7R E)
section
variable {α:Type} (P:Program) (E:Env)
def bYG(g:FuncId)(args:List PV)(H:Heap)(k:PV->Heap->Nat->Option α):Option α :=bif E.sh g then match E.shr g args H with| some r=>aB r.val λx=>k (r.out x).1 (r.out x).2 2| none=>none else bif eM.noRefs args then bif gP.noRows args then match E.pure g args with| some r=>aB r.val λx=>k (r.out x) H 0| none=>none else none else bif a6T P g then match aPE (λp=>inl false H depth p) args with| some qs=>bif gP.noRows qs then match E.pure g qs with| some r=>aB r.val λx=>bif flat (r.out x) then k (r.out x) H 1 else none| none=>none else none| none=>none else match NC H (args.flatMap (λp=>reach H depth p))with| H1=>match aPE (λp=>inl true H1 depth p) args with| some qs=>bif gP.noRows qs then match E.pure g qs with| some r=>aB r.val λx=>k (r.out x) H1 2| none=>none else none| none=>none
def bWK:Frm->Nat->Bool->Frm| [],_,_=>[]|(s,p)::r,t,b=>bif Nat.beq s t then (s,.lit (.bool b))::r else (s,p)::bWK r t b
def bM8(F:Frm)(x:Operand)(b:Bool)(k:Frm->Bool->Option α):Option α:=match x with| .tmp t=>ask b λb=>k (bWK F t b) b| _=>ask b λb=>k F b
def bEK(F:Frm)(l:List Oper)(o:Oper)(k:Frm->Bool->Option α):Option α :=
 match o.guard with
 | none=>k F true
 | some (j,want)=>match l[j]? with
  | some p=>match p.dst with
   | some t=>match cR F t with
    | .lit (.bool b)=>ask b λb=>k (bWK F t b) (bif b then want else !want)
    | .lit _=>k F false
    | _=>none
   | none=>none
  | none=>none
def b01(op:BinOp)(k1:IntKind)(a b:Int)(k:Value->Option α):Option α:=match op with| .quo=>bif eqI b 0 then none else k (.int k1 (aA k1 (a.tdiv b)))| .rem=>bif eqI b 0 then none else k (.int k1 (a.tmod b))| op=>match bJM op k1 a b with| some v=>k v| none=>none
def isX:BinOp->Bool| .add|.sub|.mul|.quo|.rem|.eql|.neq|.lss|.leq|.gtr|.geq=>true| _=>false
def bES:BinOp->Bool| .shl|.shr=>true| _=>false
def bN1(op:BinOp)(k:IntKind)(x y:Int):Option Value:=match op with| .shl=>some (.int k (k.wrap (x*2^(min y.toNat k.bits))))| .shr=>some (.int k (x.fdiv (2^(min y.toNat k.bits))))| _=>none
def aWM(F:Frm)(H:Heap)(o:Oper)(k:Frm->PV->Heap->Nat->Option α):Option α:=match opu P (gJ P E) F H o with| some (v,H',c)=>k F v H' c| none=>none
def bVR(F:Frm) (x:Operand) (k:Frm->Option α):Option α:=match ev F x with| .lit (.bool b)=>bM8 F x b λF _=>k F| _=>k F
def bHQ:List Operand->Frm->(Frm->Option α)->Option α| [],F,k=>k F| x::r,F,k=>bVR F x λF=>bHQ r F k
def opK(F:Frm)(H:Heap)(o:Oper)(k:Frm->PV->Heap->Nat->Option α):Option α :=
 bif typed P F o then match top P F H o with
  | some (cs,v,H',c)=>aWD cs (k F v H' c)
  | none=>none
 else match o.op with
  | .binOp op _ x y _=>match ev F x,ev F y with
   | .lit (.int k1 a),.lit (.int k2 b)=>bif bES op then (bif ltI b 0 then none else match bN1 op k1 a b with
     | some v=>k F (.lit v) H 0
     | none=>none)
    else bif aCZ k1 k2&&isX op then b01 op k1 a b λv=>k F (.lit v) H 0 else aWM P E F H o k
   | _,_=>bHQ [x,y] F λF=>aWM P E F H o k
  | .unOp ..=>bHQ o.op.operands.toList F λF=>aWM P E F H o k
  | .pick c a b=>match ev F c with
   | .lit (.bool t)=>bM8 F c t λF t=>k F (bif t then ev F a else ev F b) H 0
   | _=>none
  | .call c=>match c.callee with
   | .value f=>match ev F f with
    | .lit (.func (.func g) first caps)=>bYG P E g (lits first++c.args.toList.map (ev F)++lits caps) H (k F)
    | .clo (.func g) first caps=>bYG P E g (first++c.args.toList.map (ev F)++caps) H (k F)
    | _=>none
   | _=>aWM P E F H o k
  | _=>aWM P E F H o k
def a0Y:Nat->Nat->Int->(Int->Option α)->Option α| 0,_,_,_=>none| n+1,j,v,f=>bif eqI v (j:Int) then f j else a0Y n (j+1) v f
def b1H(t:TypeId):Option Nat:=match P.underlying t with| some (.array n _)=>some n| _=>none
def b0M:PV->Bool| .hptr _ _|.iptr _=>true| _=>false
def b2O:PV->Bool| .agg _=>true| _=>false
def xIdx(H:Heap) (t:TypeId) (p:PV) (i:Int):Option (PV×Heap×Nat):=match p,P.underlying t with
 | .agg cs,some (.array n e)=>match BL P e with
  | some sz=>bif aE i n then p0 H (QU P e (cs.drop (i.toNat*sz))) else none
  | none=>none
 | _,_=>none
def b1A(l:List Oper)(F:Frm)(H:Heap)(o:Oper)(k:Frm->PV->Heap->Nat->Option α):Option α:=match o.op with
 | .makeSlice t n c=>bif a86 l o.dst then (match aL9 P H t (ev F n) (ev F c)with
   | some (cs,v,H',c')=>aWD cs (k F v H' c')
   | none=>none) else opK P E F H o k
 | .indexAddr t x i=>match b1H P t,ev F i with
  | some n,.lit (.int _ v)=>bif bBV (ev F x) then a0Y n 0 v (λj=>match EW P H t (ev F x) j with
    | some (cs,p,H',c)=>aWD cs (k F p H' c)
    | none=>none) else bif b0M (ev F x) then a0Y n 0 v (λj=>match p0 H (aPX P t (ev F x) j)with
    | some (p,H',c)=>k F p H' c
    | none=>none) else opK P E F H o k
  | _,_=>opK P E F H o k
 | .index t x i=>match b1H P t,ev F i with
  | some n,.lit (.int _ v)=>bif b2O (ev F x) then a0Y n 0 v (λj=>match xIdx P H t (ev F x) j with
    | some (p,H',c)=>k F p H' c
    | none=>none) else opK P E F H o k
  | _,_=>opK P E F H o k
 | .slice t x lo hi none=>match ev F x with
  | .own r sz=>match a2P H r,P.underlying t with
   | some g,some (.slice e)=>bif a8X g.t then (match BL P e with
    | some n=>bif Nat.beq n sz then ask (Nat.beq g.l.length 0) λz=>(match a5V g H r sz (lo.map (ev F)) (hi.map (ev F)) z with
      | some (cs,v,H',c)=>aWD cs (k F v H' c)
      | none=>none) else none
    | none=>none) else opK P E F H o k
   | _,_=>opK P E F H o k
  | _=>opK P E F H o k
 | _=>opK P E F H o k
def bQF(l:List Oper)(o:Oper)(F:Frm)(H:Heap)(k:Frm->PV->Heap->Nat->Option α):Option α :=
 bEK F l o λF b=>bif b then (match mkData P F l o with
  | none=>b1A P E l F H o k
  | some none=>none
  | some (some (cs,v))=>aWD cs (k F v H 0)) else k F (.lit undef) H 0
def R7(nt:Nat)(l:List Oper):List Oper->Frm->Heap->(Frm->Heap->Option α)->Option α
 | [],F,H,k=>k F H
 | o::rest,F,H,k=>bQF P E l o F H λF v H' _=>match aER nt F o.dst v with
  | some F'=>R7 nt l rest F' H' k
  | none=>none
def stK(nt:Nat)(m:Option Nat)(ms:List Nat)(l:List Oper):List Oper->Nat->Frm->Heap->bSX->(Frm->Heap->bSX->Option α)->Option α
 | [],_,F,H,hl,k=>k F H hl
 | o::rest,j,F,H,hl,k=>match aBO m o j with
  | none=>bQF P E l o F H λF v H' c=>bif okT m (ms.getD j 0) j (bJW F o) c v H' then (match aER nt F o.dst v with
   | some F'=>stK nt m ms l rest (j+1) F' H' (bif Nat.beq c 0 then hl else (j,c,bJW F o)::hl) k
   | none=>none) else none
  | some q=>bif a2Z o then (bif eM.noRefs (o.op.operands.toList.map (ev F))&&gP.noRows (o.op.operands.toList.map (ev F)) then bQF P E l o F [] λF v X _=>match bDC q v X H with
    | some (v,H',c)=>bif okT m (ms.getD j 0) j (some q) c v H' then (match aER nt F o.dst v with
     | some F'=>stK nt m ms l rest (j+1) F' H' (bif Nat.beq c 0 then hl else (j,c,some q)::hl) k
     | none=>none) else none
    | none=>none else none)
   else match stepT (some q) P (gJ P E) l o F H with
   | some (v,H',c)=>bif okT m (ms.getD j 0) j (some q) c v H' then (match aER nt F o.dst v with
    | some F'=>stK nt m ms l rest (j+1) F' H' ((j,2,some q)::hl) k
    | none=>none) else none
   | none=>none
def aAL(nt:Nat)(ops:Array Oper)(draw:Bool)(F:Frm)(H:Heap)(k:Frm->Heap->Option α):Option α :=
 bif draw then (bif aF8 ops&&bHT (aWI ops H) F H then stK P E nt (aWI ops H) (qO ops) ops.toList ops.toList 0 F (bXD (aWI ops H) ops.toList.length H) [] λF H hl=>bif aRY (qO ops) hl then k F H else none else none)
 else R7 P E nt ops.toList ops.toList F H k
end
section
variable {α:Type} {P:Program} {E:Env} {z:α}
def aYY {b k}(h:ask b k=some z):k b=some z:=by cases b <;> exact h
def VS:∀ {l r},aWD l r=some z->J7 l=true/\r=some z
 | [],r,h=>⟨rfl,h⟩
 | b::l,r,h=>by
  obtain⟨rfl,h⟩:=aJ h;exact VS (l:=l) h
def wA {τ}{x:Option τ}{k}(h:aB x k=some z):∃ y,x=some y/\k y=some z:=by
 cases x with
 | none=>cases h;| some y=>exact⟨y,rfl,h⟩
def bDX {g args H k}(h:bYG P E g args H k=some z):∃ v H' c,gJ P E g args H=some (v,H',c)/\k v H' c=some z:=by
 unfold bYG at h;unfold gJ callee;cases f:E.sh g with
 | true =>
  rw[f]at h;simp only[oC]at h ⊢;split at h
  next r e=>have⟨x,d,b⟩:=wA h;exact⟨_,_,_,by simp only[a7R,e,d],b⟩
  ·cases h
 | false =>
  rw[f]at h;simp only[oD]at h ⊢;cases hn:eM.noRefs args with
  | true =>
   rw[hn]at h;have⟨a,h⟩:=aJ h;split at h
   next r e=>have⟨x,d,b⟩:=wA h;exact⟨_,_,_,by simp only[a,oC,a9B,e,d],b⟩
   ·cases h
  | false =>
   rw[hn]at h;simp only[oD]at h ⊢;cases j:a6T P g with
   | true =>
    rw[j]at h;split at h
    ·rename_i qs i;have⟨a,h⟩:=aJ h;split at h
     next r e=>have⟨x,d,b⟩:=wA h;have⟨l,b⟩:=aJ b;exact⟨_,_,_,by simp only[i,a,a9B,e,d,l,oC],b⟩
     ·cases h
    ·cases h
   | false =>
    rw[j]at h;simp only[oD]at h ⊢;split at h
    ·rename_i qs i;have⟨a,h⟩:=aJ h;split at h
     next r e=>have⟨x,d,b⟩:=wA h;exact⟨_,_,_,by simp only[i,a,oC,a9B,e,d],b⟩
     ·cases h
    ·cases h
def bGZ {t b}:∀ {F},cR F t=.lit (.bool b)->bWK F t b=F
 | [],_=>rfl
 | (s,p)::r,h=>by
  simp only[cR]at h;simp only[bWK];cases a:Nat.beq s t with
  | true=>grind
  | false=>rw[a]at h; simp only[oD]at h ⊢; rw[bGZ h]
def aMV {F x b k}(h:bM8 F x b k=some z)(a:ev F x=.lit (.bool b)):k F b=some z:=by
 unfold bM8 at h;split at h;have:=aYY h;rwa[bGZ (by simpa only[ev]using a)]at this;exact aYY h
def a3A {F l o k}(h:bEK F l o k=some z):∃ b,guardOf F l o=some b/\k F b=some z:=by
 unfold bEK at h;unfold guardOf;cases c:o.guard with
 | none=>grind
 | some g =>
  have⟨j,want⟩:=g;rw[c]at h;simp only at h ⊢;cases hp:l[j]? with
  | none=>grind
  | some p =>
   rw[hp]at h;simp only at h ⊢;cases ht:p.dst with
   | none=>rw[ht]at h; cases h
   | some t =>
    rw[ht]at h;simp only at h ⊢;split at h
    next b a=>have:=aYY h;rw[bGZ a]at this;grind
    ·grind
    ·cases h
def bQJ {op k1 a b k}(h:b01 op k1 a b k=some z):∃ v,bJM op k1 a b=some v/\k v=some z:=by
 unfold b01 at h;split at h
 ·cases c:eqI b 0 with
  | true=>grind;| false=>rw[c]at h; exact⟨_,by simp only[bJM,c,oD],h⟩
 ·cases c:eqI b 0 with
  | true=>grind;| false=>rw[c]at h; exact⟨_,by simp only[bJM,c,oD],h⟩
 grind
def aAU {F H o k}(h:aWM P E F H o k=some z):∃ v H' c,opu P (gJ P E) F H o=some (v,H',c)/\k F v H' c=some z:=by
 unfold aWM at h;grind
def bIT {F o op xt yt x y k1 k2 a b v}(e:o.op=.binOp op xt x y yt)(f:ev F x=.lit (.int k1 a))(g:ev F y=.lit (.int k2 b))(d:ltI b 0=false)(c:bN1 op k1 a b=some v):C2 P F o=some (.lit v):=by
 have d:¬ b<0:=by rw[aF]at d; grind
 have h:valOf F x=.int k1 a:=by simp[valOf,f,a4I]
 have i:valOf F y=.int k2 b:=by simp[valOf,g,a4I]
 have j:aLU F o.op.operands.toList=true:=by simp[e,Op.operands,aLU,f,g,a4I]
 have k:aIL o.op=false:=by simp[e,aIL]
 unfold C2;rw[j,k];cases op <;> simp only[bN1]at c <;> try (cases c; done)
 all_goals
  simp only[oJ]at c;subst c;simp[execOp,e,h,i,eqGuard,binOp,Op.shift,d,aGV,aX4]
  try rfl
def bMC {F x k}(h:bVR F x k=some z):k F=some z:=by
 unfold bVR at h;split at h;rename_i b a; exact aMV h a;grind
def aQ3:∀ {l:List Operand} {F:Frm} {k:Frm->Option α},bHQ l F k=some z->k F=some z| [],F,k,h=>h| x::r,F,k,h=>aQ3 (l:=r) (bMC h)
def aRV {F H o k}(h:opK P E F H o k=some z):∃ v H' c,opx P (gJ P E) F H o=some (v,H',c)/\k F v H' c=some z:=by
 unfold opK at h;unfold opx;cases ht:typed P F o with
 | true =>
  rw[ht]at h;split at h
  next cs v H' c m=>have⟨j,l⟩:=VS h;grind
  ·cases h
 | false =>
  rw[ht]at h;simp only[oD]at h ⊢;split at h
  next op B x y C i=>
   split at h
   ·rename_i u a A b q s;cases d:bES op with
    | true =>
     rw[d]at h;cases e:ltI b 0 with
     | true=>rw[e]at h; cases h
     | false =>
      rw[e]at h;split at h
      ·rename_i v w;have hp:=bIT (P:=P) i q s e w;have p:bJM op u a b=none:=by cases op <;> simp only[bES]at d <;> first|rfl|(cases d; done)
       refine⟨_,_,_,?_,h⟩;simp only[opu,i,q,s,p,hp,p0,Bool.cond_self]
      ·cases h
    | false =>
    rw[d]at h;simp only[oD]at h;cases e:(aCZ u A&&isX op)with
    | true =>
     rw[e]at h;simp only[oC]at h;simp only[oA]at e;have⟨v,j,l⟩:=bQJ h;exact⟨_,_,_,by simp only[opu,i,q,s,e.1,oC,j],l⟩
    | false=>rw[e]at h; exact aAU h
   ·exact aAU (aQ3 h)
  ·exact aAU (aQ3 h)
  next c a b i=>
   split at h
   next t m=>exact⟨_,_,_,by simp only[opu,i,m],aMV h m⟩
   ·cases h
  next c i=>
   split at h
   ·rename_i f m;split at h
    next g first n r=>have⟨v,H',c',j,l⟩:=bDX h;exact⟨v,H',c',by simp only[opu,i,m,r,j],l⟩
    next g first n r=>have⟨v,H',c',j,l⟩:=bDX h;exact⟨v,H',c',by simp only[opu,i,m,r,j],l⟩
    ·cases h
   ·exact aAU h
  ·exact aAU h
def aJP {f v}:∀ {n j},a0Y n j v f=some z->f v=some z
 | 0,_,h=>by cases h
 | n+1,j,h=>by
  unfold a0Y at h;cases a:eqI v j with
  | true =>
   rw[a]at h;rw[bN,decide_eq_true_eq]at a;grind
  | false =>
   rw[a]at h;exact aJP h
def bY8 {p}(h:b0M p=true):isT p=false:=by cases p <;> first|rfl|cases h
def bSF {l F H o k}(h:b1A P E l F H o k=some z):∃ v H' c,opz P (gJ P E) l F H o=some (v,H',c)/\k F v H' c=some z:=by
 unfold b1A at h;split at h
 next t n c ho=>
  cases hb:a86 l o.dst with
  | false =>
   rw[hb]at h;have⟨v,H',c',h1,h2⟩:=aRV h;exact⟨v,H',c',by simp only[opz,ho,hb,oD,h1],h2⟩
  | true =>
   rw[hb]at h;split at h
   next cs v1 H1 k1 h1=>have⟨h3,h4⟩:=VS h;exact⟨_,_,_,by simp only[opz,ho,hb,oC,h1,h3],h4⟩
   ·cases h
 next t x i ho=>
  have plain:opK P E F H o k=some z->∃ v H' c,opz P (gJ P E) l F H o=some (v,H',c)/\k F v H' c=some z:=λh=>by
   have⟨v,H',c',h1,h2⟩:=aRV h;exact⟨v,H',c',by simp only[opz,ho,h1],h2⟩
  split at h
  next n k1 v hn hv=>
   cases hb:bBV (ev F x)with
   | false =>
    rw[hb]at h;cases hb2:b0M (ev F x)with
    | false=>rw[hb2]at h; exact plain h
    | true =>
     rw[hb2]at h;have h:=aJP h;split at h
     ·rename_i p H1 c1 h1;refine⟨_,_,_,?_,h⟩;have ht:typed P F o=false:=by simp only[typed,ho,hb,bY8 hb2,Bool.or_false]
      simp only[opz,ho,opx,ht,oD,opu,hv,h1]
     ·cases h
   | true =>
    rw[hb]at h;have h:=aJP h;split at h
    ·rename_i cs p H1 c1 h1;have⟨h3,h4⟩:=VS h;refine⟨_,_,_,?_,h4⟩;have ht:typed P F o=true:=by simp only[typed,ho,hb,Bool.or_true]
     simp only[opz,ho,opx,ht,oC,top,hv,h1,h3]
    ·cases h
  grind
 next t x i ho=>
  have plain:opK P E F H o k=some z->∃ v H' c,opz P (gJ P E) l F H o=some (v,H',c)/\k F v H' c=some z:=λh=>by
   have⟨v,H',c',h1,h2⟩:=aRV h;exact⟨v,H',c',by simp only[opz,ho,h1],h2⟩
  split at h
  next n k1 v hn hv=>
   cases hb:b2O (ev F x)with
   | false=>rw[hb]at h; exact plain h
   | true =>
    rw[hb]at h;simp only[oC]at h;have h:=aJP h;split at h
    ·rename_i p H1 c1 h1;refine⟨_,_,_,?_,h⟩;obtain⟨cs,hcs⟩:∃ cs,ev F x=.agg cs:=by
      revert hb
      cases ev F x <;> intro hb <;> first|exact⟨_,rfl⟩|cases hb
     have ht:typed P F o=false:=by simp only[typed,ho,hcs,isS]
     simp only[opz,ho,opx,ht,oD,opu,hv,hcs];rw[hcs]at h1;unfold b1H at hn;split at hn
     next n1 e1 hu=>unfold xIdx at h1;simp only[hu]at h1 ⊢;exact h1
     ·cases hn
    ·cases h
  exact plain h
 next t x lo hi ho=>
  have plain:opK P E F H o k=some z->∃ v H' c,opz P (gJ P E) l F H o=some (v,H',c)/\k F v H' c=some z:=λh=>by
   have⟨v,H',c',h1,h2⟩:=aRV h;exact⟨v,H',c',by simp only[opz,ho,h1],h2⟩
  split at h
  next r sz hx=>
   split at h
   ·rename_i g e hg hu;cases hb:a8X g.t with
    | false=>rw[hb]at h; exact plain h
    | true =>
     rw[hb]at h;simp only[oC]at h;split at h
     ·rename_i n hn;have⟨hbn,h⟩:=aJ h;replace h:=aYY h;split at h
      ·rename_i cs v H1 c1 h1;have⟨h3,h4⟩:=VS h;refine⟨_,_,_,?_,h4⟩;have ht:typed P F o=true:=by simp only[typed,ho,hx,isT,Bool.true_or]
       simp only[opz,ho,opx,ht,oC,top,hx,isS,isQ,oD,aL1,hu,hn,hg,hbn,hb,Bool.true_and,h1,h3]
      ·cases h
     ·cases h
   exact plain h
  exact plain h
 rename_i hno hno2 hno3 hno4;have⟨v,H',c',h1,h2⟩:=aRV h;refine⟨v,H',c',?_,h2⟩;unfold opz;split;rename_i t n c ho;exact(hno t n c ho).elim;exact h1
def aW4 {l F H o k}(h:bQF P E l o F H k=some z):∃ v H' c,I9 P (gJ P E) l o F H=some (v,H',c)/\k F v H' c=some z:=by
 have⟨b,h1,h2⟩:=a3A h;unfold I9;cases b with
 | true =>
  simp only[h1];split at h2
  next hm=>simp only[hm];exact bSF h2
  ·grind
  ·have⟨h3,h4⟩:=VS h2;grind
 | false=>grind
def IU {nt l k}:∀ {r F H},R7 P E nt l r F H k=some z->∃ F' H',TI P (gJ P E) nt l r F H=some (F',H')/\k F' H'=some z
 | [],F,H,h=>⟨F,H,rfl,h⟩
 | o::r,F,H,h=>by
  have⟨v,H1,c,h1,h2⟩:=aW4 h;split at h2
  next F1 hp=>have⟨F',H',h3,h4⟩:=IU h2;refine⟨F',H',?_,h4⟩;simp only[TI,h1,aG7,hp,NY,Bool.cond_self,h3]
  grind
def aZT {nt m ms l F0 H0 k}:∀ {r j F H hl},stK P E nt m ms l r j F H hl k=some z->r=l.drop j->j<=l.length->aO2 P (gJ P E) nt m ms l F0 H0 j=some (F,H,hl)->∃ F' H' hl',aO2 P (gJ P E) nt m ms l F0 H0 l.length=some (F',H',hl')/\k F' H' hl'=some z
 | [],j,F,H,hl,h,hr,hjl,hs=>by
  have h1:(l.drop j).length=0:=by rw[<- hr]; rfl
  rw[List.length_drop]at h1;have h2:j=l.length:=Z
  subst h2;exact⟨F,H,hl,hs,h⟩
 | o::r,j,F,H,hl,h,hr,hjl,hs=>by
  have hj:l[j]?=some o:=by
   have:(l.drop j)[0]?=some o:=by rw[<- hr]; rfl
   grind
  have hr':r=l.drop (j+1):=by
   have:(l.drop j).tail=r:=by rw[<- hr]; rfl
   simp_all
  simp only[stK]at h;split at h
  next hres=>
   have⟨v,H1,c,h1,h2⟩:=aW4 h;have⟨hok,h2⟩:=aJ h2;split at h2
   next F1 hp=>refine aZT h2 hr' (oO.1 hj).1 ?_;simp only[aO2,hs,hj,hres,stepT,h1,hok,oC,aG7,hp,NY,a0H];grind
   ·cases h2
  next q hres=>
   cases hcall:a2Z o with
   | true =>
    rw[hcall]at h;have⟨hnr,h⟩:=aJ h;have⟨v0,X,c0,h1,h⟩:=aW4 h;split at h
    ·rename_i v H1 c hct;have⟨hok,h2⟩:=aJ h;split at h2
     ·rename_i F1 hp;refine aZT h2 hr' (oO.1 hj).1 ?_;have hop:∃ cc,o.op=.call cc:=by
       unfold a2Z at hcall;split at hcall
       ·unfold a1C at hcall;split at hcall
        next cc hcc=> exact⟨cc,hcc⟩
        ·cases hcall
       ·cases hcall
      have⟨cc,hop⟩:=hop;have hst:stepT (some q) P (gJ P E) l o F H=some (v,H1,c):=by
       simp only[stepT,hop];rw[<- hop,hnr,oC,h1];exact hct
      simp only[aO2,hs,hj,hres,hst,hok,oC,aG7,hp,NY,a0H];cases Nat.beq c 0 <;> rfl
     ·cases h2
    ·cases h
   | false =>
   rw[hcall]at h;simp only[oD]at h;split at h
   ·rename_i v H1 c h1;have⟨hok,h2⟩:=aJ h;split at h2
    ·rename_i F1 hp;refine aZT h2 hr' (oO.1 hj).1 ?_;have hc:c=2:=by
      simp only[stepT]at h1;split at h1
      ·split at h1
       ·have⟨_,h1⟩:=aJ h1;simp only[oJ,oP]at h1;exact h1.2.2.symm
       ·cases h1
      ·have⟨_,h1⟩:=aJ h1;split at h1
       ·rcases aHA h1 with ⟨_,_,_,_,_,_,h1,_⟩|⟨_,_,_,_,_⟩
        ·exact h1
        ·have⟨_,_,_,ha⟩:=a1N hres;unfold aTG at ha;rw[hcall,Bool.or_false]at ha;unfold isVar at ha;split at ha
         ·simp_all
         ·cases ha
       ·cases h1
      ·cases h1
     subst hc;simp only[aO2,hs,hj,hres,h1,hok,oC,aG7,hp,NY,a0H];rfl
    ·cases h2
   ·cases h
def aOC {nt ops F H k}(h:aAL P E nt ops true F H k=some z):∃ F' H',aKD P (gJ P E) nt ops F H=some (F',H')/\k F' H'=some z:=by
 have⟨h1,h⟩:=aJ h;have⟨F',H',hl,h2,h3⟩:=aZT h (by rfl) (Nat.zero_le _) rfl;have⟨h4,h3⟩:=aJ h3;exact⟨F',H',by simp only[aKD,h1,oC,h2,h4],h3⟩
def bBG {nt id ops draw F H k}(hcl:dS P (gJ P E))(hP:P.follows .mixedOrders=true)(h:aAL P E nt ops draw F H k=some z) :
  ∃ F' H',k F' H'=some z/\∀ {n0 wi Gi μi a w Q},I n0 wi Gi μi nt F H a w->(∀ a' w',I n0 wi Gi μi nt F' H' a' w'->Q .normal a' w')->(Code.region id ops draw).wp P Q a w:=by
 cases draw with
 | true =>
  have⟨F',H',h2,h3⟩:=aOC h;exact⟨F',H',h3,λhI hQ=>aVM hcl hP h2 hI hQ⟩
 | false =>
  have⟨F',H',h2,h3⟩:=IU h;exact⟨F',H',h3,λhI hQ=>wp_region_list (NT hcl ops.toList F H _ _ h2 hI hQ)⟩
end
def aSZ {α:Type}(m:Nat):Frm->(Frm->α)->α| [],k=>k []|(t,p)::r,k=>bif aJT m t then aSZ m r (λr=>k ((t,p)::r)) else aSZ m r k
def aFU {α} m:∀ F (k:Frm->α),∃ F',aSZ m F k=k F'/\∀ t,cR F' t=cR F t\/cR F' t=.junk
 | [],k=>⟨[],rfl,λt=>.inl rfl⟩
 | (s,p)::r,k=>by
  simp only[aSZ];cases e:aJT m s with
  | true =>
   have⟨F',a,b⟩:=aFU m r λr=>k ((s,p)::r)
   refine⟨(s,p)::F',a,λt=>?_⟩;rw[eY,eY];grind
  | false =>
   have key:∀ (F:Frm) (k:Frm->α),∃ F',aSZ m F k=k F'/\∀ t,cR F' t=if aJT m t then cR F t else .junk:=by
    intro F
    induction F with
    | nil=>intro k; exact⟨[],rfl,λt=>by simp[cR]⟩
    | cons x r d =>
     intro k;have⟨s,p⟩:=x;simp only[aSZ];cases e:aJT m s with
     | true =>
      have⟨F',a,b⟩:=d λr=>k ((s,p)::r)
      refine⟨(s,p)::F',a,λt=>?_⟩;rw[eY,eY,b t];grind
     | false =>
      have⟨F',a,b⟩:=d k;refine⟨F',a,λt=>?_⟩;rw[eY,b t]
      by_cases c:t=s
      ·subst c; simp[e]
      ·simp[c]
   have⟨F',a,b⟩:=key r k;refine⟨F',a,λt=>?_⟩;rw[eY,b t];grind
abbrev zc:=List (Ex×zb)
@[reducible] def AQ:zc->Type| []=>Empty| [(_,s)]=>Shape.den s|(_,s)::b::r=>Shape.den s⊕AQ (b::r)
structure cI where
 sh:zb
 exits:zc
 run:Shape.den sh->Option (AQ exits)
def R8:(l:zc)->AQ l->Ex×Frm×Heap| [],z=>Empty.elim z| [(e,s)],z=>(e,KT s z 0,WN s z)|(e,s)::b::r,z=>match z with| .inl x=>(e,KT s x 0,WN s x)| .inr y=>R8 (b::r) y
def bNM {α}:(l:zc)->AQ l->(Ex->Frm->Heap->Option α)->Option α| [],z,_=>Empty.elim z| [(e,s)],z,k=>k e (KT s z 0) (WN s z)|(e,s)::b::r,z,k=>mN z (λx=>k e (KT s x 0) (WN s x)) (λy=>bNM (b::r) y k)
def bLC:Ex->Ex->Bool| .normal,.normal=>true| .exit i,.exit j=>Nat.beq i j| .ret,.ret=>true| _,_=>false
def aXN:(l:zc)->Ex->Frm->Heap->Option (AQ l)| [],_,_,_=>none| [(e,s)],ex,F,H=>bif bLC e ex then aE4 s F H else none|(e,s)::b::r,ex,F,H=>bif bLC e ex then (match aE4 s F H with|some x=>some (.inl x)|none=>none) else (match aXN (b::r) ex F H with|some y=>some (.inr y)|none=>none)
section
variable {α:Type} (P:Program) (E:Env) (nt keep:Nat) (lt:Nat->Option cI)
def C1:Code->Frm->Heap->(Ex->Frm->Heap->Option α)->Option α
 | .skip,F,H,k=>k .normal F H
 | .label _,F,H,k=>k .normal F H
 | .region _ ops draw,F,H,k=>aAL P E nt ops draw F H λF H=>aSZ keep F λF=>k .normal F H
 | .seq a b,F,H,k=>C1 a F H λex F H=>match ex with
  | .normal=>C1 b F H k
  | .exit i=>k (.exit i) F H
  | .ret=>k .ret F H
 | .cond c a b,F,H,k=>match ev F c with
  | .lit (.bool t)=>bM8 F c t λF t=>bif t then C1 a F H k else C1 b F H k
  | _=>none
 | .block id a,F,H,k=>C1 a F H λex F H=>match ex with
  | .exit i=>bif Nat.beq i id then k .normal F H else k (.exit i) F H
  | .normal=>k .normal F H
  | .ret=>k .ret F H
 | .loop a,F,H,k=>match lt (bM a)with
  | some s=>match aE4 s.sh F H with
   | some x=>aB (s.run x) λz=>bNM s.exits z k
   | none=>none
  | none=>none
 | .exit id,F,H,k=>k (.exit id) F H
 | .scope a,F,H,k=>C1 a F H k
 | .ret,F,H,k=>k .ret F H
 | _,_,_,_=>none
def a7Y sh exits (ex:Ex)(F:Frm)(H:Heap):Option (Shape.den sh⊕AQ exits):=match ex with
 | .normal=>match aE4 sh F H with
  | some y=>some (.inl y)
  | none=>none
 | .exit i=>match aXN exits (.exit i) F H with
  | some z=>some (.inr z)
  | none=>none
 | .ret=>match aXN exits .ret F H with
  | some z=>some (.inr z)
  | none=>none
def dL(a:Code) (sh:zb) (exits:zc) (x:Shape.den sh):Option (Shape.den sh⊕AQ exits) :=C1 P E nt keep lt a (KT sh x 0) (WN sh x) (a7Y sh exits)
end
def aV {σ τ:Type}(step:σ->Option (σ⊕τ)):Nat->σ->Option τ| 0,_=>none| n+1,x=>match step x with| some (.inl y)=>aV step n y| some (.inr z)=>some z| none=>none
def bA:Code->List Code| .seq a b=>bA a++bA b| .cond _ a b=>bA a++bA b| .block _ a=>bA a| .scope a=>bA a| .loop a=>[a]| _=>[]
section
variable {α:Type} {P:Program} {E:Env} {nt keep:Nat} {lt:Nat->Option cI}
def b2C(P:Program) (nt:Nat) (c:Code) (F:Frm) (H:Heap) (r:Ex×Frm×Heap):Prop :=∀ (n0:Nat->Prop) (wi:World) (Gi:Gd) (μi:Mp) (a:Act) (w:World),(∀ r,μi.loc r=none/\μi.len r=none)->I n0 wi Gi μi nt F H a w->b16 P n0 wi Gi μi nt c a w r
def cJ(P:Program)(nt:Nat)(a:Code)(s:cI):Prop :=∀ x z,s.run x=some z->b2C P nt (.loop a) (KT s.sh x 0) (WN s.sh x) (R8 s.exits z)
def aFQ:∀ {l:zc} {z:AQ l} {k:Ex->Frm->Heap->Option α} {y:α},bNM l z k=some y->k (R8 l z).1 (R8 l z).2.1 (R8 l z).2.2=some y
 | [],z,_,_,_=>Empty.elim z
 | [(e,s)],z,k,y,h=>h
 | (e,s)::b::r,z,k,y,h=>by
  cases z with
  | inl x=>exact h
  | inr x=>exact aFQ (l:=b::r) (z:=x) h
def a6O {a b}(h:bLC a b=true):a=b:=by cases a <;> cases b <;> simp only[bLC]at h <;> first|rfl|rfl|simp_all
def aSF {n0 wi Gi μi}(c:∀ r,μi.loc r=none/\μi.len r=none){ex F H}:∀ {l z},aXN l ex F H=some z ->
  (R8 l z).1=ex/\∀ a w,I n0 wi Gi μi nt F H a w->I n0 wi Gi μi nt (R8 l z).2.1 (R8 l z).2.2 a w
 | [],z,_=>Empty.elim z
 | [(e,s)],z,h=>by
  have⟨d,h⟩:=aJ h;exact⟨a6O d,λa w g=>OH h c g⟩
 | (e,s)::b::r,z,h=>by
  simp only[aXN]at h;cases d:bLC e ex with
  | true =>
   rw[d]at h;simp only[oC]at h;split at h
   next x f=>simp only[oJ]at h;subst h;exact⟨a6O d,λa w g=>OH f c g⟩
   ·cases h
  | false =>
   rw[d]at h;simp only[oD]at h;split at h
   next x f=>simp only[oJ]at h;subst h;exact aSF c (z:=x) f
   ·cases h
def sZ(hcl:dS P (gJ P E))(hP:P.follows .mixedOrders=true):∀ c F H k (z:α),(∀ a∈bA c,∀ s,lt (bM a)=some s->cJ P nt a s) ->
  C1 P E nt keep lt c F H k=some z->∃ r ,k r.1 r.2.1 r.2.2=some z/\b2C P nt c F H r
 | .skip,F,H,k,z,hl,h=>⟨(.normal,F,H),h,λ_ _ _ _ _ _ _ hI=>wp_skip ⟨rfl,hI⟩⟩
 | .label l,F,H,k,z,hl,h=>⟨(.normal,F,H),h,λ_ _ _ _ _ _ _ hI=>wp_label ⟨rfl,hI⟩⟩
 | .region id ops draw,F,H,k,z,hl,h=>by
  simp only[C1]at h;have⟨F1,H1,h1,h2⟩:=bBG (id:=id) hcl hP h;have⟨F2,h3,h4⟩:=aFU keep F1 λF=>k .normal F H1
  rw[h3]at h1;exact⟨(.normal,F2,H1),h1,λ_ _ _ _ _ _ _ hI=>h2 hI λa' w' hI'=>⟨rfl,hI'.bNR h4⟩⟩
 | .seq x y,F,H,k,z,hl,h=>by
  simp only[C1]at h;have⟨⟨ex,F1,H1⟩,h1,h2⟩:=sZ hcl hP x F H _ z (λa ha=>hl a (by simp[bA,ha])) h;cases ex with
  | normal =>
   have⟨r,h3,h4⟩:=sZ hcl hP y F1 H1 k z (λa ha=>hl a (by simp[bA,ha])) h1;refine⟨r,h3,λn0 wi Gi μi a w hfl hI=>wp_seq (wp_mono (h2 n0 wi Gi μi a w hfl hI) ?_)⟩;rintro e a' w' ⟨rfl,hI'⟩;exact h4 n0 wi Gi μi a' w' hfl hI'
  | exit i =>
   refine⟨(.exit i,F1,H1),h1,λn0 wi Gi μi a w hfl hI=>wp_seq (wp_mono (h2 n0 wi Gi μi a w hfl hI) ?_)⟩;rintro e a' w' ⟨rfl,hI'⟩;exact⟨rfl,hI'⟩
  | ret =>
   refine⟨(.ret,F1,H1),h1,λn0 wi Gi μi a w hfl hI=>wp_seq (wp_mono (h2 n0 wi Gi μi a w hfl hI) ?_)⟩;rintro e a' w' ⟨rfl,hI'⟩;exact⟨rfl,hI'⟩
 | .cond c x y,F,H,k,z,hl,h=>by
  simp only[C1]at h;split at h
  next t ht=>
   replace h:=aMV h ht;have hc:∀ {n0 wi Gi μi a w},I n0 wi Gi μi nt F H a w->a.eval c=.bool t:=λhI=>by
    have⟨G,μ,e,hW,hF⟩:=hI;have hc:=cT hF c;rwa[ht,VR]at hc
   cases t with
   | true =>
    have⟨r,h3,h4⟩:=sZ hcl hP x F H k z (λa ha=>hl a (by simp[bA,ha])) h;exact⟨r,h3,λn0 wi Gi μi a w hfl hI=>wp_cond (hc hI) (h4 n0 wi Gi μi a w hfl hI)⟩
   | false =>
    have⟨r,h3,h4⟩:=sZ hcl hP y F H k z (λa ha=>hl a (by simp[bA,ha])) h;exact⟨r,h3,λn0 wi Gi μi a w hfl hI=>wp_cond (hc hI) (h4 n0 wi Gi μi a w hfl hI)⟩
  ·cases h
 | .block id x,F,H,k,z,hl,h=>by
  simp only[C1]at h;have⟨⟨ex,F1,H1⟩,h1,h2⟩:=sZ hcl hP x F H _ z (λa ha=>hl a (by simp[bA,ha])) h;cases ex with
  | normal =>
   refine⟨(.normal,F1,H1),h1,λn0 wi Gi μi a w hfl hI=>wp_block (wp_mono (h2 n0 wi Gi μi a w hfl hI) ?_)⟩;rintro e a' w' ⟨rfl,hI'⟩;exact⟨rfl,hI'⟩
  | ret =>
   refine⟨(.ret,F1,H1),h1,λn0 wi Gi μi a w hfl hI=>wp_block (wp_mono (h2 n0 wi Gi μi a w hfl hI) ?_)⟩;rintro e a' w' ⟨rfl,hI'⟩;exact⟨rfl,hI'⟩
  | exit i =>
   simp only at h1;cases hi:Nat.beq i id with
   | true =>
    rw[hi]at h1;have:=oE hi;subst this;refine⟨(.normal,F1,H1),h1,λn0 wi Gi μi a w hfl hI=>wp_block (wp_mono (h2 n0 wi Gi μi a w hfl hI) ?_)⟩;rintro e a' w' ⟨rfl,hI'⟩;simp only[Ex.to,Exit.inBlock,if_true];exact⟨trivial,hI'⟩
   | false =>
    rw[hi]at h1;have hne:¬ i=id:=λe=>by rw[e]at hi; simp at hi
    refine⟨(.exit i,F1,H1),h1,λn0 wi Gi μi a w hfl hI=>wp_block (wp_mono (h2 n0 wi Gi μi a w hfl hI) ?_)⟩;rintro e a' w' ⟨rfl,hI'⟩;simp only[Ex.to,Exit.inBlock,hne,if_false];exact⟨trivial,hI'⟩
 | .loop x,F,H,k,z,hl,h=>by
  simp only[C1]at h;split at h
  next s hs=>
   split at h
   next x0 hx=>have⟨y,h1,h2⟩:=wA h;exact⟨R8 s.exits y,aFQ h2,λn0 wi Gi μi a w hfl hI=>hl x (by simp[bA]) s hs x0 y h1 n0 wi Gi μi a w hfl (OH hx hfl hI)⟩
   ·cases h
  ·cases h
 | .exit id,F,H,k,z,hl,h=>⟨(.exit id,F,H),h,λ_ _ _ _ _ _ _ hI=>wp_exit ⟨rfl,hI⟩⟩
 | .scope x,F,H,k,z,hl,h=>by
  simp only[C1]at h;have⟨⟨ex,F1,H1⟩,h1,h2⟩:=sZ hcl hP x F H _ z (λa ha=>hl a (by simp[bA,ha])) h;refine⟨(ex,F1,H1),h1,λn0 wi Gi μi a w hfl hI=>wp_scope_straight (wp_mono (h2 n0 wi Gi μi a w hfl hI) ?_)⟩;rintro e a' w' ⟨rfl,hI'⟩;cases ex <;> exact⟨rfl,hI'⟩
 | .ret,F,H,k,z,hl,h=>⟨(.ret,F,H),h,λ_ _ _ _ _ _ _ hI=>wp_ret ⟨rfl,hI⟩⟩
 | .rangeFunc ..,F,H,k,z,hl,h=>by simp only[C1]at h; cases h
 | .goto l,F,H,k,z,hl,h=>by simp only[C1]at h; cases h
 | .refuse s,F,H,k,z,hl,h=>by simp only[C1]at h; cases h
def cC(j:dS P (gJ P E)) (u:P.follows .mixedOrders=true) {a:Code} {sh:zb} {d:zc} {step:Shape.den sh->Option (Shape.den sh⊕AQ d)} (L:Nat)
  (v:∀ b∈bA a,∀ s,lt (bM b)=some s->cJ P nt b s) (A:∀ x,dL P E nt keep lt a sh d x=step x):cJ P nt a ⟨sh,d,aV step L⟩:=by
 intro x z hz n0 wi Gi μi act w f m;refine wp_loop_ghost (λk a w=>∃ x,aV step k x=some z/\I n0 wi Gi μi nt (KT sh x 0) (WN sh x) a w) L ⟨x,hz,m⟩ ?_;rintro k act w ⟨x,hz,m⟩;cases k with
 | zero=>cases hz
 | succ k =>
  simp only[aV]at hz;split at hz
  next y h=>
   rw[<- A]at h;have⟨⟨ex,F',H'⟩,c,o⟩:=sZ j u a _ _ _ _ v h;refine wp_mono (o n0 wi Gi μi act w f m) ?_;rintro e q w' ⟨rfl,g⟩;cases ex with
   | normal =>
    simp only[a7Y]at c;split at c
    next t l=>simp only[oJ,Sum.inl.injEq]at c;subst c;exact⟨k,by omega,t,hz,OH l f g⟩
    ·cases c
   | exit i =>
    simp only[a7Y]at c;split at c
    ·simp at c
    ·cases c
   | ret =>
    simp only[a7Y]at c;split at c
    ·simp at c
    ·cases c
  next y h=>
   simp only[oJ]at hz;subst hz;rw[<- A]at h;have⟨⟨ex,F',H'⟩,c,o⟩:=sZ j u a _ _ _ _ v h;refine wp_mono (o n0 wi Gi μi act w f m) ?_;rintro e q w' ⟨rfl,g⟩;cases ex with
   | normal =>
    simp only[a7Y]at c;split at c
    ·simp at c
    ·cases c
   | exit i =>
    simp only[a7Y]at c;split at c
    next t l=>simp only[oJ,Sum.inr.injEq]at c;subst c;have⟨p,r⟩:=aSF (nt:=nt) (n0:=n0) (wi:=wi) (Gi:=Gi) f l;have n:=r q w' g;exact⟨by rw[p],n⟩
    ·cases c
   | ret =>
    simp only[a7Y]at c;split at c
    next t l=>simp only[oJ,Sum.inr.injEq]at c;subst c;have⟨p,r⟩:=aSF (nt:=nt) (n0:=n0) (wi:=wi) (Gi:=Gi) f l;have n:=r q w' g;exact⟨by rw[p],n⟩
    ·cases c
  ·cases hz
end
abbrev zd:Kd:=.int .i64
@[reducible] def aM:List Kd->Type| []=>Unit| k::r=>k.den×aM r
def lF:(l:List Kd)->aM l->List PV| [],_=>[]| k::r,(x,xs)=>OB k x 0::lF r xs
def a8P:(l:List Kd)->List PV->Option (aM l)
 | [],[]=>some ()
 | k::r,p::ps=>match aUT k p [] 0 with
  | some x=>match a8P r ps with
   | some xs=>some (x,xs)
   | none=>none
  | none=>none
 | _,_=>none
def aU8:List Kd->Bool| []=>true| .own _ _::_|.box _ _::_|.win _ _::_|.bown _ _ _::_|.bque _ _ _::_|.bag _ _ _ _ _::_|.bag2 _ _ _ _ _ _::_|.ar _ _::_=>false| _::r=>aU8 r
def Kd.plain:Kd->Bool| .list t|.agg t|.ptr t=>t.plain| .clo _ ts=>ts.all Ty.plain| .hnd _=>false| .mpk _=>false| _=>true
def aWS:∀ ts x,ts.all Ty.plain=true->gP.noRows (aOU ts x)=true
 | [],_,_=>rfl
 | t::r,(x,xs),h=>by
  simp only[List.all_cons,oA]at h;simp only[aOU,gP.noRows,oA];exact⟨aFS t x h.1,aWS r xs h.2⟩
def bNL:∀ k x n,k.plain=true->gP (OB k x n)=true
 | .int _,_,_,_|.bool,_,_,_|.str,_,_,_|.own _ _,_,_,_|.box _ _,_,_,_|.fn _,_,_,_|.nil0,_,_,_|.val,_,_,_|.nilI,_,_,_|.win _ _,_,_,_|.bown _ _ _,_,_,_|.bque _ _ _,_,_,_|.bag _ _ _ _ _,_,_,_|.bag2 _ _ _ _ _ _,_,_,_|.ar _ _,_,_,_=>rfl
 | .hnd _,_,_,h=>by cases h
 | .mpk _,_,_,h=>by cases h
 | .list t,_,_,h=>h
 | .agg t,x,_,h=>aFS t x h
 | .ptr t,x,_,h=>aFS t x h
 | .clo _ ts,x,_,h=>by exact aWS ts x h
def a63:∀ ks x,ks.all Kd.plain=true->gP.noRows (lF ks x)=true
 | [],_,_=>rfl
 | k::r,(x,xs),h=>by
  simp only[List.all_cons,oA]at h;simp only[lF,gP.noRows,oA];exact⟨bNL k x 0 h.1,a63 r xs h.2⟩
def aLV(l:List Kd) (x:aM l):PV:=pI (lF l x)
def bFX:(l:List Kd)->PV->Option (aM l)
 | [k],q=>match aUT k q [] 0 with
  | some x=>some (x,())
  | none=>none
 | l,.tuple qs=>a8P l qs
 | _,_=>none
section
variable {P:Program} {n0:Nat->Prop} {w wi:World} {G Gi:Gd} {μ μi μ':Mp} {H:Heap} {F:Frm} {a:Act} {nt:Nat}
def bLU {e t p n}:RI e t p [] n=none:=by
 unfold RI;split;cases Nat.beq _ n&&Nat.beq _ t.size <;> rfl;rfl
def bL1 {e t p n}:bAU e t p [] n=none:=by
 unfold bAU;split;cases Nat.beq _ n&&Nat.beq _ 0 <;> rfl;rfl
def bH5 {e et t p n}:aZC e et t p [] n=none:=by
 unfold aZC;split;cases Nat.beq _ n&&Nat.beq _ 0 <;> rfl;rfl
def bHZ {e et t p n}:aZ0 e et t p [] n=none:=by
 unfold aZ0;split;cases Nat.beq _ n&&Nat.beq _ 0 <;> rfl;rfl
def bHW {e t1 et t eu u p n}:a0A e t1 et t eu u p [] n=none:=by
 unfold a0A;split;rw[show iN [] n=none from by rfl];simp;rfl
def bNN {e t1 et t t2 p n}:bA1 e t1 et t t2 p [] n=none:=by
 unfold bA1;split;cases Nat.beq _ n&&Nat.beq _ 0 <;> rfl;rfl
def bDU:∀ k {p x v},aUT k p [] 0=some x->VR w G aH p v->VR w G aH (OB k x 0) v
 | .int k,p,x,v,h,hv=>by
  have:=aSD h;simp only[List.cons.injEq,and_true]at this;subst this;exact hv
 | .bool,p,x,v,h,hv=>by
  have:=aPN h;simp only[List.cons.injEq,and_true]at this;subst this;exact hv
 | .str,p,x,v,h,hv=>by
  have:=aRI h;simp only[List.cons.injEq,and_true]at this;subst this;exact hv
 | .list t,p,x,v,h,hv=>by
  have:=JN (.list t) aH [p] x [v] h (by rw[VRs]; exact⟨v,[],rfl,hv,by rw[VRs]⟩);simp only[enc]at this;have⟨y,c,b,a,_⟩:=this;cases b;exact a
 | .agg t,p,x,v,h,hv=>by
  simp only[aUT]at h;unfold bOI at h;split at h
  next cs=>obtain⟨vs,rfl,a⟩:=hv;simp only[OB];exact⟨vs,rfl,JN t aH cs x vs.toList h a⟩
  ·cases h
 | .own e t,p,x,v,h,hv=>by
  simp only[aUT,bLU]at h;cases h
 | .box e t,p,x,v,h,hv=>by
  simp only[aUT,bL1]at h;cases h
 | .ptr t,p,x,v,h,hv=>aPR h hv
 | .fn g,p,x,v,h,hv=>by
  have:=aJ0 h;subst this;exact hv
 | .nil0,p,x,v,h,hv=>by
  have:=aYT h;subst this;exact hv
 | .val,p,x,v,h,hv=>by
  have:=a0F (p:=p) (x:=x) h;subst this;exact hv
 | .nilI,p,x,v,h,hv=>by
  have:=aVK (p:=p) (x:=x) h;subst this;exact hv
 | .clo g ts,p,x,v,h,hv=>aES h hv
 | .win j sz,p,x,v,h,hv=>by
  have:=aZS h;subst this;exact hv
 | .bown e et t,p,x,v,h,hv=>by
  simp only[aUT,bH5]at h;cases h
 | .bque e et t,p,x,v,h,hv=>by
  simp only[aUT,bHZ]at h;cases h
 | .bag e t1 et t t2,p,x,v,h,hv=>by
  simp only[aUT,bNN]at h;cases h
 | .bag2 e t1 et t eu u,p,x,v,h,hv=>by
  simp only[aUT,bHW]at h;cases h
 | .mpk j,p,x,v,h,hv=>by
  have:=a3E h;subst this;exact hv
 | .hnd sz,p,x,v,h,hv=>by
  have:=a0W (μ:=aH) (vs:=[v]) h (by rw[VRs]; exact⟨v,[],rfl,hv,by rw[VRs]⟩);have⟨y,c,b,a,_⟩:=this;cases b;exact a
 | .ar e t,p,x,v,h,hv=>by
  simp only[aUT,bQD,PM.iN]at h;simp at h
def T4:∀ l {ps x vs},a8P l ps=some x->VRs w G aH ps vs->VRs w G aH (lF l x) vs
 | [],[],x,vs,h,hv=>hv
 | [],_::_,x,vs,h,hv=>by cases h
 | _::_,[],x,vs,h,hv=>by cases h
 | k::r,p::ps,x,vs,h,hv=>by
  simp only[a8P]at h;split at h
  next y e=>
   split at h
   next f a=>simp only[oJ]at h;subst h;have⟨u,us,b,c,d⟩:=hv;exact⟨u,us,b,bDU k e c,T4 r a d⟩
   grind
  grind
def aOH {l q x v}(h:bFX l q=some x)(b:VR w G aH q v):VR w G aH (aLV l x) v:=by
 unfold bFX at h;split at h;split at h;rename_i k q y c;simp only[oJ]at h;subst h;exact bDU _ c b;grind
 ·obtain⟨vs,rfl,d⟩:=b;have a:=T4 _ h d;match l,x,a with
  | [],x,a =>
   exact⟨vs,rfl,a⟩
  | [k],x,a=>grind
  | k::k2::r,(x,y,z),a =>
   exact⟨vs,rfl,a⟩
 grind
def WA(P:Program) (g:FuncId) (args rets:List Kd) (f:aM args->Option (aM rets)):Prop :=∀ x y,f x=some y->IE P g (lF args x) (aLV rets y)
def bPS(args rets:List Kd) (f:aM args->Option (aM rets)) (qs:List PV):Option Res:=match a8P args qs with| some x=>some ⟨aM rets,f x,aLV rets⟩| none=>none
def bT3 {g args rets f}(c:WA P g args rets f){qs r}(h:bPS args rets f qs=some r):∀ y,r.val=some y->IE P g qs (r.out y):=by
 unfold bPS at h;split at h;rename_i x b;simp only[oJ]at h;subst h;intro y e w G vs a d;exact c x y e w G vs a (T4 args b d);grind
structure dN (P:Program) (E:Env):Prop where
 pure:∀ g qs r,E.pure g qs=some r->∀ y,r.val=some y->IE P g qs (r.out y)
 shr:∀ g args H r,E.shr g args H=some r->∀ y,r.val=some y->∀ {n0 G μ w vs},aX n0 G μ H w->VRs w G μ args vs->DI P n0 w G μ g vs.toArray (r.out y).1 (r.out y).2
def dN.callee {E}(h:dN P E):dS P (gJ P E):=by
 refine bCS ?_ ?_;intro g args r a;unfold a9B at a;split at a;rename_i s c;split at a;rename_i x b;simp only[oJ]at a;subst a;exact h.pure g args s c x b;grind;grind;intro g args H r H' a;unfold a7R at a;split at a;rename_i s c;split at a;rename_i x b;have a:=oB a;have e:r=(s.out x).1:=W;have f:H'=(s.out x).2:=W;subst e; subst f;intro n0 G μ w vs d i;exact h.shr g args H s c x b d i;grind;grind
def bK2(P:Program) (rs:List ResultVar) (rets:List Kd) (ex:Ex) (F:Frm) (H:Heap):Option (aM rets):=match ex with
 | .exit _=>none
 | _=>match yG P F H rs with
  | some vs=>match bFH H (pI vs)with
   | some q=>bFX rets q
   | none=>none
  | none=>none
def bII(P:Program)(E:Env)(fn:Func)(keep:Nat)(lt:Nat->Option cI)(c:Code) args rets (x:aM args):Option (aM rets) :=bif Nat.ble (lF args x).length fn.ntmps then C1 P E fn.ntmps keep lt c (start keep 0 (lF args x)) [] (bK2 P fn.results.toList rets) else none
def W4 {E} (F:WV P) (R:dN P E) {g:Nat} {fn} (C:P.funcs[g]?=some fn) {c} (J:fn.body=some c) {keep lt args rets f}
  (L:∀ a∈bA c,∀ s,lt (bM a)=some s->cJ P fn.ntmps a s) (S:∀ x,bII P E fn keep lt c args rets x=f x):WA P g args rets f:=by
 intro x y o;rw[<- S]at o;have⟨hlen,o⟩:=aJ o;have⟨⟨ex,F',H'⟩,d,O⟩:=sZ R.callee F.mixed c _ _ _ _ L o;obtain⟨vs,q,hex,k,p,hd⟩:∃ vs q,(ex=.normal\/ex=.ret)/\yG P F' H' fn.results.toList=some vs/\bFH H' (pI vs)=some q/\bFX rets q=some y:=by
  unfold bK2 at d;split at d
  ·cases d
  next A=>
   split at d
   ·rename_i vs k;split at d
    ·rename_i q p;refine⟨vs,q,?_,k,p,d⟩;cases ex with
     | normal=>exact .inl rfl
     | ret=>exact .inr rfl
     | exit i=>exact absurd rfl (A i)
    ·cases d
   ·cases d
 have j:∀ {n0 G μ w us},aX n0 G μ [] w->VRs w G μ (lF args x) us->DI P n0 w G μ g us.toArray (pI vs) H':=by
  intro n0 G μ w us D B;refine⟨enters C (F.names g fn C) (by rw[J]; rfl) _ _,calls_of_wp C J ?_⟩;have N:I n0 w G μ fn.ntmps (start keep 0 (lF args x)) [] ⟨us.toArray++Array.replicate (fn.ntmps-us.toArray.size) undef,[]⟩ w:=⟨G,μ,Ext.refl _ _ _ _,D,E6 (by simpa using B) (oL hlen)⟩;refine wp_mono (O n0 w G μ _ w (λr=>D.top r (Nat.zero_le _)) N) ?_;rintro e t w' ⟨rfl,G',μ',M,l,n⟩;have⟨ws,H,z⟩:=uB (P:=P) l n k;have m:(results fn t.tmps).run P w'=.ok (if U:ws.toArray.size=1 then ws.toArray[0] else .tuple ws.toArray) w':=(by rw[J0,Array.mapM_eq_mapM_toList];simp_all)
  have b:t.defers=[]/\∃ v,(results fn t.tmps).run P w'=.ok v w'/\(∃ v' h μ'',Ending.returned v=.returned v'/\Ext n0 w G μ w' h μ''/\aX n0 h μ'' H' w'/\VR w' h μ'' (pI vs) v') :=
   ⟨n.defers,_,m,_,G',μ',rfl,M,l,xE z⟩
  rcases hex with rfl|rfl;exact b;exact b
 have hp:=XH j (OL p).1 (OL p).2;intro w G us u B;have⟨H,z⟩:=hp w G us u B;refine⟨H,z.mono ?_⟩;rintro e w' ⟨v',G',rfl,Q,K,T⟩;exact⟨v',G',rfl,Q,K,aOH hd T⟩
end
open Go.ChangeShapes Go.WideShapes Go.ChangeAt Go.Joins
def a7X b off n:(⟨b,off,none⟩:Addr).add n=⟨b,off+n,none⟩:=by cases n <;> simp[Addr.add]
def WF:(t:Ty)->t.den->Prop| .int k,x=>(Lit.int k x).wf=true| .bool,_=>True| .str,s=>s.size<=maxLen| .hnd _,_=>True| .rows _,_=>True| .smap,_=>True| .list t,l=>l.length<=maxLen/\∀ a∈l,WF t a| .prod a b,(x,y)=>WF a x/\WF b y
abbrev GW(w:World):Gd:=Gd.of λb=>b<w.heap.size
def OpT(P:Program) (t:TypeId) (T:Ty):Prop :=P.cellsOf t=T.size/\∀ (H:Type) (en:TypeId×Value->H) (w:World) (base:Nat) (spare:Nat->Bool) (held:Bool) (fuel:Nat) (cs:List Value) (x:DataW H×List MemPlace),DataW.trod en P w base spare held fuel t cs=some x->∃ a:T.den,VRs w (GW w) aH (enc T a) cs/\WF T a
section
variable {P:Program}
def a89 {w G p v}(h:VR w G aH p v):VRs w G aH [p] [v]:=by exact⟨v,[],rfl,h,by rfl⟩
def bZH {t k}(ht:P.underlying t=some (.int k))(a:P.cellsOf t=1):OpT P t (.int k):=by
 refine⟨a,λH b w base spare held fuel cs x h=>?_⟩;obtain⟨n,rfl,-,wf⟩:=DataW.trod_int ht h;exact⟨n,a89 (by rfl),wf⟩
def bUL {t}(ht:P.underlying t=some .bool)(a:P.cellsOf t=1):OpT P t .bool:=by
 refine⟨a,λH b w base spare held fuel cs x h=>?_⟩;obtain⟨n,rfl,-⟩:=DataW.trod_bool ht h;exact⟨n,a89 (by rfl),trivial⟩
def aT.app {w G b}:∀ {ps qs off},aT w G aH b off ps->aT w G aH b (off+ps.length) qs->aT w G aH b off (ps++qs)
 | [],qs,off,_,h=>h
 | p::ps,qs,off,h,k=>by
  refine⟨h.1,aT.app h.2 ?_⟩;grind
def aT.bVJ {w G b}:∀ {ps vs off},VRs w G aH ps vs->(∀ i h,w.cell? ⟨b,off+i,none⟩=some vs[i])->aT w G aH b off ps
 | [],vs,off,_,_=>by trivial
 | p::ps,vs,off,h,k=>by
  obtain⟨x,xs,rfl,a,c⟩:=h;refine⟨⟨x,k 0 R,a⟩,aT.bVJ c λi hi=>?_⟩;have:=k (i+1) W;grind
def bD4 {w:World}{T:Ty}{b:Nat}:∀ (l:List T.den) (off:Nat),(∀ i (h:i<l.length),aT w (GW w) aH b (off+i*T.size) (enc T l[i]))->aT w (GW w) aH b off (aI T l)
 | [],off,_=>by show aT w _ aH b off []; rw[aT]; trivial
 | a::l,off,h=>by
  show aT w _ aH b off (enc T a++aI T l);refine aT.app (by have:=h 0 R; rw[Nat.zero_mul,Nat.add_zero]at this; exact this) ?_;rw[FA];refine bD4 l _ λi hi=>?_
  have:=h (i+1) (by simpa using hi);rw[Nat.add_mul,Nat.one_mul,Nat.add_comm (i*_),<- Nat.add_assoc]at this;exact this
def bCE {t e T}(ht:P.underlying t=some (.slice e))(hc:P.cellsOf t=1)(he:OpT P e T):OpT P t (.list T):=by
 refine⟨hc,λH en w base spare held fuel cs x h=>?_⟩;rcases DataW.trod_slice ht h with ⟨rfl,-⟩|⟨a,len,cap,elems,rest,n,-,rfl,-,-,hl,hm,hel,hx,-,-⟩
 ·refine⟨[],a89 ?_,⟨Nat.zero_le _,λa ha=>(by simp at ha)⟩⟩;rw[VR];refine⟨?_,rfl⟩;rw[VR];exact⟨none,0,rfl,oM _,λk hk=>(by cases hk),.inl rfl⟩
 ·have each:∀ i,i<len->∃ q:T.den,∃ es,(∀ j (_:j<es.length),w.cell? ((a.add (i*T.size)).add j)=some es[j])/\VRs w (GW w) aH (enc T q) es/\WF T q:=by
   intro i hi;have h1:=hx i hi;rw[List.getElem?_eq_getElem Z]at h1;obtain⟨es,h2,h3⟩:=Option.bind_eq_some_iff.1 h1;obtain⟨q,hq⟩:=he.2 _ _ _ _ _ _ _ _ _ h3;rw[he.1]at h2;obtain⟨-,hlen,hcell⟩:=World.cells?_some h2;refine⟨q,es,λj hj=>?_,hq⟩;rw[hcell j Z,List.getElem?_eq_getElem hj]
  by_cases h0:len=0
  ·subst h0;refine⟨[],a89 ?_,⟨Nat.zero_le _,λa ha=>(by simp at ha)⟩⟩;rw[VR];refine⟨?_,rfl⟩;rw[VR];exact⟨some a,cap,rfl,hl,λk hk=>(by cases hk),.inl rfl⟩
  ·have hne:Nonempty T.den:=let ⟨q,_⟩:=each 0 Z; ⟨q⟩
   have key:∃ f:Nat->T.den,∀ i,i<len->∃ es,(∀ j (_:j<es.length),w.cell? ((a.add (i*T.size)).add j)=some es[j])/\VRs w (GW w) aH (enc T (f i)) es/\WF T (f i):=by
    classical
    refine⟨λi=>if hi:i<len then Classical.choose (each i hi) else Classical.choice hne,λi hi=>?_⟩;simp only[dif_pos hi];exact Classical.choose_spec (each i hi)
   obtain⟨f,hf⟩:=key;obtain⟨b,off,spot⟩:=a;have hfirst:∃ v,w.cell? ⟨b,off,spot⟩=some v:=by
    obtain⟨es,h1,h2,-⟩:=hf 0 Z;have hpos:0<es.length:=by rw[<- VRs.length h2,FA]; exact T.size_pos
    have:=h1 0 hpos;exact⟨_,by simpa[Addr.add]using this⟩
   have hspot:spot=none:=by
    obtain⟨v,hv⟩:=hfirst;simpa using World.cell?_spot hv
   subst hspot;have hb:b<w.heap.size:=by
    obtain⟨v,hv⟩:=hfirst;cases hh:w.heap[b]? with
    | none=>simp[World.cell?,hh]at hv
    | some o=>exact gN hh
   refine⟨(List.range len).map f,a89 ?_,?_⟩
   ·rw[VR];refine⟨?_,rfl⟩;rw[VR];refine⟨some ⟨b,off,none⟩,cap,by simp,by simpa using hl,λk hk=>(by cases hk),.inr ⟨b,off,rfl,hb,?_⟩⟩;refine bD4 _ _ λi hi=>?_
    have hi':i<len:=by simpa using hi
    obtain⟨es,h1,h2,-⟩:=hf i hi';have e1:((List.range len).map f)[i]=f i:=R
    rw[e1];refine aT.bVJ h2 λj hj=>?_
    have:=h1 j hj;rw[a7X,a7X]at this;exact this
   ·refine⟨by simpa using oR hl hm,?_⟩;intro q hq;obtain⟨i,hi,rfl⟩:=List.mem_map.1 hq;obtain⟨es,-,-,h3⟩:=hf i (by simpa using hi);exact h3
def bFC(P:Program):List Field->Nat->Ty->Prop| [],_,_=>False| [f],off,T=>f.offset=off/\OpT P f.type T| f::g::r,off,.prod a b=>f.offset=off/\OpT P f.type a/\bFC P (g::r) (off+a.size) b| _::_::_,_,_=>False
def bAQ {w}:∀ e off T (cs:List Value),bFC P e off T->cs.length=off+T.size->(∀ f∈e,∀ A ,OpT P f.type A->∃ a ,VRs w (GW w) aH (enc A a) ((cs.drop f.offset).take A.size)/\WF A a) ->
  ∃ a ,VRs w (GW w) aH (enc T a) (cs.drop off)/\WF T a
 | [],_,_,_,h,_,_=>h.elim
 | [f],off,T,cs,h,hl,hx=>by
  obtain⟨rfl,c⟩:=h;have⟨a,d,i⟩:=hx f R T c;rw[List.take_of_length_le W]at d;grind
 | f::g::r,off,.prod A B,cs,h,hl,hx=>by
  obtain⟨rfl,c,d⟩:=h;have⟨a,i,j⟩:=hx f R A c;have⟨b,n,m⟩:=bAQ (g::r) _ B cs d (by rw[hl,Ty.size]; omega) (λk l=>hx k (List.mem_cons_of_mem _ l));refine⟨(a,b),?_,j,m⟩;have:=VRs.append i n;rw[<- List.drop_drop,List.take_append_drop]at this;exact this
 | _::_::_,_,.int _,_,h,_,_=>h.elim
 | _::_::_,_,.bool,_,h,_,_=>h.elim
 | _::_::_,_,.str,_,h,_,_=>h.elim
 | _::_::_,_,.list _,_,h,_,_=>h.elim
def bLN {t fs T}(ht:P.underlying t=some (.struct fs))(hc:P.cellsOf t=T.size)(hf:bFC P fs.toList 0 T):OpT P t T:=by
 refine⟨hc,λH en w base spare held fuel cs x h=>?_⟩;obtain⟨xs,n,-,-,hl,hx,hi⟩:=DataW.trod_struct ht h;obtain⟨a,h1,h2⟩:=bAQ fs.toList 0 T cs hf Z (λf hf A hA=>by
  obtain⟨i,hi',rfl⟩:=List.getElem_of_mem hf;have hs :=by simpa using hi'
  have h3:=hi i fs[i] R;rw[List.getElem?_eq_getElem Z]at h3;have hA1:=hA.1;simp only[Array.getElem_toList]at hA1 hA ⊢;rw[hA1]at h3;exact hA.2 _ _ _ _ _ _ _ _ _ h3)
 grind
def Ty.arr (T:Ty):Nat->Ty| 0=>T| n+1=>.prod T (Ty.arr T n)
def bJZ T:∀ n,(Ty.arr T n).size=(n+1)*T.size
 | 0=>by simp[Ty.arr]
 | n+1=>by simp only[Ty.arr,Ty.size,bJZ T n]; grind
def bOS {w T}{cs:List Value}:∀ n i,cs.length=(i+n+1)*T.size->(∀ j,i<=j->j<i+n+1->∃ a ,VRs w (GW w) aH (enc T a) ((cs.drop (j*T.size)).take T.size)/\WF T a) ->
  ∃ a ,VRs w (GW w) aH (enc (Ty.arr T n) a) (cs.drop (i*T.size))/\WF (Ty.arr T n) a
 | 0,i,hl,hx=>by
  have⟨a,d,c⟩:=hx i (oM _) R;rw[List.take_of_length_le W]at d;exact⟨a,d,c⟩
 | n+1,i,hl,hx=>by
  have⟨a,c,e⟩:=hx i (oM _) Z;have⟨b,g,f⟩:=bOS n (i+1) W (λj h k=>hx j Z Z);refine⟨(a,b),?_,e,f⟩;have:=VRs.append c g;rw[Nat.add_mul,Nat.one_mul,<- List.drop_drop,List.take_append_drop]at this;exact this
def bQV {t e n T}(ht:P.underlying t=some (.array (n+1) e))(hc:P.cellsOf t=(n+1)*T.size)(he:OpT P e T):OpT P t (Ty.arr T n):=by
 refine⟨by rw[hc,bJZ],λH en w base spare held fuel cs x h=>?_⟩;obtain⟨xs,m,-,-,hl,hx,hi⟩:=DataW.trod_array ht h;rw[he.1]at hi;obtain⟨a,h1,h2⟩:=bOS (T:=T) (cs:=cs) n 0 W (λj _ h2=>by
  have h3:=hi j Z;rw[List.getElem?_eq_getElem Z]at h3;exact he.2 _ _ _ _ _ _ _ _ _ h3)
 grind
def OpK(P:Program) (t:TypeId) (k:Kd) (W:k.den->Prop):Prop :=∀ {H:Type} {en:TypeId×Value->H} {w:World} {base b0:Nat} {spare:Nat->Bool} {held:Bool} {r:Reach} {v:Value} {d:DataW H} {p:List MemPlace},Value.okWide P w r b0 t v->DataW.Trod en P w base spare held t v d p->∃ x:k.den,VR w (GW w) aH (OB k x 0) v/\W x
def bYE {t k}(ht:P.underlying t=some (.int k)):OpK P t (.int k) (WF (.int k)):=by
 intro H b w base c spare held r v d p a h;obtain⟨n,rfl,-,-,wf⟩:=open_int ht a h;exact⟨n,by rfl,wf⟩
def bT1 {t e T}(ht:P.underlying t=some (.slice e))(k:P.cellsOf t=1)(he:OpT P e T):OpK P t (.list T) (WF (.list T)):=by
 intro H m w base n spare held r v d p i h;obtain⟨a,len,cap,rfl⟩:=okWide_slice ht i;have⟨fuel,b⟩:=h;have⟨l,c,f⟩:=(bCE ht k he).2 _ _ _ _ _ _ _ _ _ b;refine⟨l,?_,f⟩;obtain⟨x,xs,g,j,-⟩:=c;cases g;exact j
def bPQ {t T}(g:∀ w r a v,Value.okWide P w r a t v->∃ cs,v=.agg cs)(he:OpT P t T):OpK P t (.agg T) (WF T):=by
 intro H i w base a spare held r v d p f h;obtain⟨cs,rfl⟩:=g _ _ _ _ f;have⟨fuel,b⟩:=h;have⟨l,c,e⟩:=he.2 _ _ _ _ _ _ _ _ _ b;refine⟨l,?_,e⟩;exact⟨cs,rfl,c⟩
def bOF {t fs T}(ht:P.underlying t=some (.struct fs))(he:OpT P t T):OpK P t (.agg T) (WF T) :=bPQ (λw r a v h=>by obtain⟨cs,b,-⟩:=okWide_struct ht h; grind) he
def bWG {g:FuncId} {args:List Kd} {f:aM args->Option (aM [.bool])} (k:WA P g args [.bool] f) {x:aM args} (i:f x=some (true,())) {w:World} (j:Lt w λb=>b<w.heap.size) {vs:Array Value} (l:VRs w (GW w) aH (lF args x) vs.toList) :
  Calls P g vs w λe w'=>e=.returned (.bool true)/\Below w.heap.size w w':=by
 obtain⟨-,h⟩:=k x _ i w (λb=>b<w.heap.size) vs j l;refine h.mono ?_;rintro e w' ⟨v',G',rfl,a,-,c⟩;refine⟨?_,a.os,a.tape,a.output,a.size,λb d=>a.old b d (Nat.not_le.2 d)⟩;have c:VR w' (Gd.of G') aH (.lit (.bool true)) v':=c;rw[VR]at c;rw[c]
def bU6 {w G p v ps vs}(h:VR w G aH p v)(k:VRs w G aH ps vs):VRs w G aH (p::ps) (v::vs):=by rw[VRs]; grind
def bYF {w G}:VRs w G aH [] []:=by rfl
end
def bD1 {H enc P}(e:laidOutB P=true){W W'}(f:Below W.heap.size W W') :
  ∀ ts vs (ds:List (DataW H)) ps,(∀ t∈ts,P.readableRec t=true/\t<P.types.size)->(∀ x∈ps,x.block<W.heap.size) ->
   DataW.TrodAll enc P W 0 (λ_=>true) true ts vs ds ps->DataW.TrodAll enc P W' 0 (λb=>decide (b<W.heap.size)) true ts vs ds ps
 | [],vs,ds,ps,_,_,h=>by
  unfold DataW.TrodAll at h ⊢;grind
 | t::ts,vs,ds,ps,ht,hlt,h=>by
  obtain⟨v,c,d,a,p,q,rfl,rfl,rfl,i,j⟩:=trodAll_cons h;exact⟨p,q,Below.trod e (ht t R).1 (ht t R).2 i f (λx g=>hlt x zt),bD1 e f ts c a q (λt h=>ht t zt) (λx g=>hlt x zt) j,rfl⟩
def bIG {P:Program} {ts:List TypeId} (h:(ts.all λt=>P.readableRec t&&decide (t<P.types.size))=true):∀ t∈ts,P.readableRec t=true/\t<P.types.size:=by
 intro t ht;have:=List.all_eq_true.1 h t ht;simpa using this
def bMS {H enc P f} {s:ChangeSpec} {W W' args ds p tb} (l:laidOutB P=true)
  (b:∀ t∈f.params.toList,P.readableRec t=true/\t<P.types.size) (n:f.resultTypes=#[tb]) (e:P.underlying tb=some .bool)
  (c:(s.fn H (ds++[])).results=[.lit (.bool true)]) (g:(s.fn H (ds++[])).args=ds) (d:(s.fn H (ds++[])).vars=[]) (m:s.vars=[])
  (i:DataW.Whole enc P f.params.toList s.vars false W args.toList ds [] p) (j:Below W.heap.size W W') :
  ∃ v,Ending.returned (.bool true)=Ending.returned v/\s.post enc P f false true false false W args v W':=by
 have a:=i;obtain⟨q,u,k,r,rfl,-,-⟩:=i;refine⟨_,rfl,ds,[],_,[],q,[],a,?_,?_,?_,j.frame _,λh=>by grind⟩;rw[c,n]; exact trodAll_mk1 (shut_bool e true);rw[g]; exact bD1 l j _ _ _ _ b (λx o=>a.lt x zt) k;rw[d,m]; rfl
end Go.PM
namespace Go.Proofs.YtcbgclaonahijaaGreatDoor
end Go.Proofs.YtcbgclaonahijaaGreatDoor
namespace Go.Proofs.YtcbgclaonahijaaGreatDoor
open Go Go.ChangeShapes Go.WideShapes Go.ChangeAt Go.RowKit Go.Joins Go.PM
abbrev bXH:List (String×DataW Unit):=[("math/bits.deBruijn32tab",Rows.laid_math_bits_deBruijn32tab),("math/bits.deBruijn64tab",Rows.laid_math_bits_deBruijn64tab),("internal/strconv.uint64pow10",Rows.laid_internal_strconv_uint64pow10),("strconv.ErrRange",Rows.laid_strconv_ErrRange),("strconv.ErrSyntax",Rows.laid_strconv_ErrSyntax)]
def bWZ(os:Os)(args:Array Value):laidMetH Tryz.prog bXH ((World.doorLaid Tryz.prog 4000 os).forCall (λ_ _=>0) ⟨#[],args,[]⟩).memory :=laidMetH_of_parts3 (fuel:=8) (laidMet_of_run' 8 Y Y) Y Y
def bKP {H:Type} {enc:TypeId×Value->H} {P:Program} {w:World} {base:Nat} {sp:Nat->Bool} {fuel:Nat} {t:TypeId} {ms} {cs:List Value} {n:String} {d:DataW H} {p:List MemPlace}
  (ht:P.underlying t=some (.interface ms)) (h:DataW.trod enc P w base sp false fuel t cs=some (.iface n d,p)):∃ u v,cs=[.iface u v]:=by
 cases fuel with
 | zero=>simp[DataW.trod]at h
 | succ fuel =>
  simp only[DataW.trod,ht]at h;split at h <;> first
   | exact⟨_,_,rfl⟩
   | (exfalso; simp_all; done)
def bJJ {P}{w:World}{n g cs}(b:P.globalNamed n=some g)(h:w.var? P n=some cs):∃ t a,w.heap[g]?=some (.cells cs t a):=by
 unfold World.var? at h;grind
def bA2 {w:World} {n:String} {g:Nat} {t:TypeId} {ms} {m:String} {d:DataW Unit} (i:Tryz.prog.globalNamed n=some g) (f:(Tryz.prog.globals[g]?).map (·.type)=some t) (ht:Tryz.prog.underlying t=some (.interface ms))
  (h:Lib.VarReads Tryz.prog w n (.iface m d)):aYK w.heap[g]?:=by
 have⟨o,l,cs,fuel,p,b,c,a,hd⟩:=h;obtain rfl:=oB (i.symm.trans b);obtain rfl:=oB (f.symm.trans c);have⟨u,v,e⟩:=bKP ht hd;have⟨t2,k,j⟩:=bJJ i a;refine⟨u,v,t2,k,?_⟩;rw[j];congr 2;exact Array.toList_inj.1 e
def bX6 {w:World} (h:laidMetH Tryz.prog bXH w):Lt w λb=>b<w.heap.size:=by
 rw[MakeChecks.laidMetH_plain _ _ _ Y]at h;have lt:∀ {g:Nat} {q:Option Obj->Prop},q w.heap[g]?->¬ q none->g<w.heap.size:=λ{g q} h1 h2=>by
  rcases oG g w.heap.size with h|h
  ·exact h
  ·rw[Array.getElem?_eq_none h]at h1;exact absurd h1 h2
 have nIf:¬ aYK none:=λ⟨_,_,_,_,e⟩=>by cases e
 refine⟨λ_ h=>h,λp hp=>?_⟩;have main:p.2 w.heap[p.1]?/\¬ p.2 none:=by
  rcases List.mem_cons.1 hp with rfl|hp
  ·refine⟨?_,λ⟨_,_,e⟩=>by cases e⟩;obtain⟨g',t',cs,fuel,q,hg',ht',hvar,hd⟩:=Lib.laidMet.reads h (n:= "internal/strconv.uint64pow10") (d:=Rows.laid_internal_strconv_uint64pow10) (.tail _ (.tail _ (.head _)));obtain rfl:=oB ((show Tryz.prog.globalNamed "internal/strconv.uint64pow10"=some 2 by kernel_rfl).symm.trans hg');have hd:DataW.trod (λ_=>()) Tryz.prog w 0 (λ_=>true) false fuel t' cs.toList=some (Lib.tabData .u64 [1,10,100,1000,10000,100000,1000000,10000000,100000000,1000000000,10000000000,100000000000,1000000000000,10000000000000,100000000000000,1000000000000000,10000000000000000,100000000000000000,1000000000000000000,10000000000000000000],q):=hd
   obtain⟨t,hty⟩:∃ t,(Tryz.prog.globals[2]?).map (·.type)=some t:=⟨_,ht'⟩;obtain rfl:=oB (hty.symm.trans ht');have hcs:=Lib.cells_of_tab (P:=Tryz.prog) (t:=379) (e:=287) (n:=20) Tryz.underlying379 Tryz.underlying287 Y Y (show DataW.trod (λ_=>()) Tryz.prog w 0 (λ_=>true) false fuel 379 cs.toList=_ by
    rw[<- oB ((show (Tryz.prog.globals[2]?).map (·.type)=some 379 by kernel_rfl).symm.trans hty)]at hd;exact hd)
   obtain⟨t2,fr,e2⟩:=bJJ Y hvar;refine⟨t2,fr,?_⟩;rw[e2]
   congr 2
   exact Array.toList_inj.1 hcs
  ·rcases List.mem_cons.1 hp with rfl|hp
   ·exact⟨bA2 (n:= "strconv.ErrSyntax") (t:=209) Y Y Tryz.underlying209 (Lib.laidMet.reads h (.tail _ (.tail _ (.tail _ (.tail _ (.head _)))))),nIf⟩
   ·rcases List.mem_cons.1 hp with rfl|hp
    ·exact⟨bA2 (n:= "strconv.ErrRange") (t:=209) Y Y Tryz.underlying209 (Lib.laidMet.reads h (.tail _ (.tail _ (.tail _ (.head _))))),nIf⟩
    ·cases hp
 exact⟨lt main.1 main.2,main.1⟩
def bQ0:Tryz.prog.mainIs=some (true,"43ef36b720a2c5d3d15bdcfbc142c60b966cdf6e84437cfd5052334bcbc1198b".toList):=Y
def bL5:true=Tryz.prog.looks []:=Y
end Go.Proofs.YtcbgclaonahijaaGreatDoor
namespace Go.PM
open Go Go.RowKit
structure Ent where
 g:FuncId
 args:List Kd
 rets:List Kd
 f:aM args->Option (aM rets)
def Ent.OK (P:Program)(e:Ent):Prop:=WA P e.g e.args e.rets e.f
def a7A:List Ent->FuncId->List PV->Option Res| [],_,_=>none| e::r,g,qs=>bif Nat.beq e.g g then (match bPS e.args e.rets e.f qs with| some s=>some s| none=>a7A r g qs)else a7A r g qs
def B1(l:List Ent):Env:=⟨a7A l,λ_ _ _=>none,λ_=>false⟩
def aS9 {P}:∀ {l},(∀ e∈l,e.OK P)->∀ g qs r,a7A l g qs=some r->∀ y,r.val=some y->IE P g qs (r.out y)
 | [],_,g,qs,r,h=>by cases h
 | e::l,hl,g,qs,r,h=>by
  simp only[a7A]at h;cases a:Nat.beq e.g g with
  | true =>
   rw[a]at h;have:=oE a;subst this;cases b:bPS e.args e.rets e.f qs with
   | some s =>
    rw[b]at h;have h:=oB h;subst h;exact bT3 (hl e List.mem_cons_self) b
   | none =>
    rw[b]at h;exact aS9 (λe he=>hl e (List.mem_cons_of_mem _ he)) _ qs r h
  | false =>
   rw[a]at h;exact aS9 (λe he=>hl e (List.mem_cons_of_mem _ he)) g qs r h
def bT2 {P l}(a:∀ e∈l,e.OK P):dN P (B1 l) where
 pure:=aS9 a
 shr:=λ_ _ _ _ h=>by cases h
def aVX(P:Program):List Ent->Prop| []=>True| e::r=>e.OK P/\aVX P r
def aWT {P}:∀ {l},aVX P l->∀ e∈l,e.OK P
 | [],_,e,he=>W
 | a::r,h,e,he=>by
  rcases List.mem_cons.1 he with rfl|he
  ·exact h.1
  ·exact aWT h.2 e he
def aS {P l}(h:aVX P l):dN P (B1 l):=bT2 (aWT h)
def bHV(P:Program)(nt:Nat)(lt:Nat->Option cI):List Code->Prop| []=>True| a::r=>(∀ s,lt (bM a)=some s->cJ P nt a s)/\bHV P nt lt r
def a3Z {P nt lt}:∀ {l},bHV P nt lt l->∀ a∈l,∀ s,lt (bM a)=some s->cJ P nt a s
 | [],_,a,ha=>W
 | b::r,h,a,ha=>by
  rcases List.mem_cons.1 ha with rfl|ha
  ·exact h.1
  ·exact a3Z h.2 a ha
def aO {P nt lt c l}(b:bA c=l)(h:bHV P nt lt l):∀ a∈bA c,∀ s,lt (bM a)=some s->cJ P nt a s:=by rw[b]; exact a3Z h
def cB {P nt}{lt:Nat->Option cI}{a i s0}(c:bM a=i)(b:lt i=some s0)(h:cJ P nt a s0):∀ s,lt (bM a)=some s->cJ P nt a s:=W
def bY(fn:Func):Code:=match fn.body with| some c=>c| none=>.skip
def dC(c:Code)(i:Nat):Code:=(bA c).getD i .skip
def bY2(l:List Func):Bool:=l.all λf=>!(f.name== "runtime.NumGoroutine")
def bQM {P}(b:P.follows .mixedOrders=true)(a:bY2 P.funcs.toList=true):WV P where
 mixed:=b
 names g fn hg:=by
  have hm:fn∈P.funcs.toList:=W
  have:=List.all_eq_true.1 a fn hm;grind
def VI {α:Type 1}{b x}{y:α}(h:(bif b then x else none)=some y):b=true/\x=some y:=W
abbrev Shr:=FuncId×(List PV->Heap->Option aV3)
def sT(P:Program)(s:Shr):Prop:=SortOKs P s.1 s.2
where SortOKs P g f :=∀ args H r,f args H=some r->∀ y,r.val=some y->∀ {n0 G μ w vs},aX n0 G μ H w->VRs w G μ args vs->DI P n0 w G μ g vs.toArray (r.out y).1 (r.out y).2
def bUZ(p:PV) (H:Heap):Option (PV×Heap):=match p with
 | .own s _=>match iN H s with
  | some k=>match k.tag with
   | some g=>some (zX g.t g.l none,ZO H s)
   | none=>none
  | none=>none
 | _=>none
def aAK:List PV->Heap->List PV×Heap| [],H=>([],H)| p::r,H=>match bUZ p H with| some (q,H0)=>(q::(aAK r H0).1,(aAK r H0).2)| none=>(p::(aAK r H).1,(aAK r H).2)
def aGA(skip:Nat)(f:List PV->Heap->Option aV3)(qs:List PV)(H:Heap):Option aV3:=match aAK (qs.drop skip) H with|(ps,H1)=>f (qs.take skip++ps) H1
def bRL {n0 G μ H w}(a:aX n0 G μ H w){s sz k g v}(i:VR w G μ (.own s sz) v)(c:iN H s=some k)(j:k.tag=some g) :
  ∃ G',Ext n0 w G μ w G' μ/\aX n0 G' μ (ZO H s) w/\VR w G' μ (zX g.t g.l none) v:=by
 have d:ZO H s=(bif k.frozen then H else H.set s (some { k with frozen:=true })):=by unfold ZO; grind
 rw[d];cases e:k.frozen with
 | true =>
  refine⟨G,Ext.refl _ _ _ _,a,(U3 a i c j (λb h=>h) (λb f=>?_)).bF⟩;have⟨_,_,_,_,o,_⟩:=a.blk s k b (aG c) f;grind
 | false =>
  have⟨n,m⟩:=aJZ a (aG c) e;exact⟨_,n,m,(U3 (G':=G.or λx=>μ.loc s=some x) a i c j (λb h=>.inl h) (λb f=>.inr f)).bF⟩
def aKS {n0 μ w}:∀ qs {H G vs},aX n0 G μ H w->VRs w G μ qs vs->∃ G',Ext n0 w G μ w G' μ/\aX n0 G' μ (aAK qs H).2 w/\VRs w G' μ (aAK qs H).1 vs
 | [],H,G,vs,hW,hv=>⟨G,Ext.refl _ _ _ _,hW,hv⟩
 | p::r,H,G,vs,hW,hv=>by
  obtain⟨u,us,rfl,c,b⟩:=hv;have plain:∃ G',Ext n0 w G μ w G' μ/\aX n0 G' μ (aAK r H).2 w/\VRs w G' μ (p::(aAK r H).1) (u::us):=by
   have⟨G',e,f,i⟩:=aKS r hW b;exact⟨G',e,f,by exact⟨u,us,rfl,VR.mono e.toMono _ _ c,i⟩⟩
  rw[aAK];cases hz:bUZ p H with
  | none=>exact plain
  | some x =>
   have⟨q,j⟩:=x;obtain⟨G1,d,l,v1⟩:∃ G',Ext n0 w G μ w G' μ/\aX n0 G' μ j w/\VR w G' μ q u:=by
    unfold bUZ at hz;split at hz
    ·split at hz
     ·rename_i k h;split at hz
      next g m=>cases hz;exact bRL hW c h m
      ·cases hz
     ·cases hz
    ·cases hz
   have⟨G2,a,n,v2⟩:=aKS r l (VRs.mono d.toMono _ _ b);exact⟨G2,d.trans a,n,by exact⟨u,us,rfl,VR.mono a.toMono _ _ v1,v2⟩⟩
def bDP {w G μ}:∀ ps {qs vs},VRs w G μ (ps++qs) vs->∃ v1 v2,vs=v1++v2/\VRs w G μ ps v1/\VRs w G μ qs v2
 | [],qs,vs,h=>⟨[],vs,rfl,by rfl,h⟩
 | p::ps,qs,vs,h=>by
  obtain⟨u,us,rfl,c,b⟩:=h;obtain⟨v1,v2,rfl,d,a⟩:=bDP ps b;exact⟨u::v1,v2,rfl,by rw[VRs]; grind,a⟩
def yZ {P g skip f}(m:sT P (g,f)):sT P (g,aGA skip f):=by
 intro qs H k h y p n0 G μ w vs j i;have i:VRs w G μ (qs.take skip++qs.drop skip) vs:=by simp_all
 obtain⟨v1,v2,rfl,b,a⟩:=bDP _ i;have⟨G',e,n,o⟩:=aKS _ j a;have⟨c1,c2⟩:=m _ _ k h y p n ((VRs.mono e.toMono _ _ b).append o);refine⟨c1,c2.mono ?_⟩;rintro q w' ⟨v',G1,μ1,rfl,l,d,c⟩;exact⟨v',G1,μ1,rfl,e.trans l,d,c⟩
def bX4:List Shr->FuncId->List PV->Heap->Option aV3| [],_,_,_=>none| s::r,g,args,H=>bif Nat.beq g s.1 then s.2 args H else bX4 r g args H
def shE:List Shr->FuncId->Bool| [],_=>false| s::r,g=>bif Nat.beq g s.1 then true else shE r g
def bL9(P:Program):List Shr->Prop| []=>True| s::r=>sT P s/\bL9 P r
def bPX {P}:∀ {l},bL9 P l->∀ g args H r,bX4 l g args H=some r->∀ y,r.val=some y->∀ {n0 G μ w vs},aX n0 G μ H w->VRs w G μ args vs->DI P n0 w G μ g vs.toArray (r.out y).1 (r.out y).2
 | [],_,g,args,H,r,h=>by cases h
 | s::l,hl,g,args,H,r,h=>by
  simp only[bX4]at h;cases a:Nat.beq g s.1 with
  | true =>
   rw[a]at h;have:=oE a;subst this;exact hl.1 args H r h
  | false =>
   rw[a]at h;exact bPX hl.2 g args H r h
def RP(l:List Ent) (s:List Shr):Env:=⟨a7A l,bX4 s,shE s⟩
def jH {P l s}(h:aVX P l)(a:bL9 P s):dN P (RP l s) where
 pure:=aS9 (aWT h)
 shr:=bPX a
open Go.Proofs
abbrev tP:Program:=Tryz.prog
def aQ:WV Tryz.prog:=bQM Y Y
abbrev oK(k:List Kd):Type:=Option (aM k)
abbrev zo(a r:List Kd):=aM a->oK r
abbrev oX(k:zc):Type:=Option (AQ k)
abbrev zq(s:zb)(e:zc):=Shape.den s->oX e
abbrev oS(s:zb) (k:zc):Type:=Option (Shape.den s⊕AQ k)
abbrev zp(s:zb)(e:zc):=Shape.den s->oS s e
def oY(fn:Func) (n:Nat):Bool:=fn.body.isSome&&Nat.beq (bA (bY fn)).length n
def oYb {fn:Func} {n:Nat} (h:oY fn n=true):fn.body=some (bY fn)/\(bA (bY fn)).length=n:=by
 rw[oY,oA]at h;refine⟨?_,oE h.2⟩;have a:=h.1;unfold bY;cases b:fn.body with
 | some c=>rfl;| none=>rw[b]at a; cases a
def oW:aVX Tryz.prog []:=trivial
def oV {e:Ent} {l:List Ent} (h:Ent.OK Tryz.prog e) (t:aVX Tryz.prog l):aVX Tryz.prog (e::l):=⟨h,t⟩
def oI {E:Env} (e:dN Tryz.prog E) {g:Nat} {fn:Func} (d:Tryz.prog.funcs[g]?=some fn) (b:oY fn 0=true:=by kernel_rfl) {args rets:List Kd} {f:aM args->Option (aM rets)} (c:∀ x,bII Tryz.prog E fn (aP fn) (λ_=>none) (bY fn) args rets x=f x:=by intro _;kernel_rfl):WA Tryz.prog g args rets f:=W4 aQ e d (oYb b).1 (keep:=aP fn) (lt:=λ_=>none) (by rw[List.eq_nil_of_length_eq_zero (oYb b).2]; intro a h; cases h) c
def oU {E:Env} (k:dN Tryz.prog E) {g:Nat} {fn:Func} (n:Tryz.prog.funcs[g]?=some fn) (i:Nat) {sh:zb} {c:zc} {step:Shape.den sh->Option (Shape.den sh⊕AQ c)} {lp:Shape.den sh->Option (AQ c)} (j:lp=aV step (2^64)) (d:(oY fn 1&&(Nat.beq (bA (dC (bY fn) 0)).length 0&&Nat.beq (bM (dC (bY fn) 0)) i))=true:=by kernel_rfl) (m:∀ x,dL Tryz.prog E fn.ntmps (aP fn) (λid=>bif Nat.beq id i then some ⟨sh,c,lp⟩ else none) (dC (bY fn) 0) sh c x=step x:=by intro _;kernel_rfl) {args rets:List Kd} {f:aM args->Option (aM rets)} (l:∀ x,bII Tryz.prog E fn (aP fn) (λid=>bif Nat.beq id i then some ⟨sh,c,lp⟩ else none) (bY fn) args rets x=f x:=by intro _;kernel_rfl):WA Tryz.prog g args rets f:=by
 subst j;rw[oA,oA]at d;have e:bA (bY fn)=[dC (bY fn) 0]:=by
  have h:=(oYb d.1).2;unfold dC;cases e:bA (bY fn)with
  | nil=>rw[e]at h; cases h
  | cons a r =>
   rw[e]at h;cases r with
   | nil=>rfl
   | cons b r=>simp at h
 exact W4 aQ k n (oYb d.1).1 (keep:=aP fn) (lt:=λid=>bif Nat.beq id i then some ⟨sh,c,aV step (2^64)⟩ else none) (aO (lt:=λid=>bif Nat.beq id i then some ⟨sh,c,aV step (2^64)⟩ else none) e ⟨cB (lt:=λid=>bif Nat.beq id i then some ⟨sh,c,aV step (2^64)⟩ else none) (oE d.2.2) (by rw[Nat.beq_refl]; rfl) (cC k.callee aQ.mixed _ (aO (List.eq_nil_of_length_eq_zero (oE d.2.1)) trivial) m),trivial⟩) l
def posOf:List Nat->Nat->Option Nat| [],_=>none| x::l,r=>bif Nat.beq x r then some 0 else match posOf l r with| some i=>some (i+1)| none=>none
def a9L:List Nat->Bool| []=>true| x::l=>(match posOf l x with|none=>true|some _=>false)&&a9L l
def WO(pm:List Nat):PV->Option PV
 | .lit v=>some (.lit v)
 | .vals cs n cap=>some (.vals cs n cap)
 | .iptr cs=>some (.iptr cs)
 | .tl t l cap e=>some (.tl t l cap e)
 | .tp t l i off e=>some (.tp t l i off e)
 | .row j lo n sz=>some (.row j lo n sz)
 | .rp j off=>some (.rp j off)
 | .mp j=>some (.mp j)
 | .tm l=>some (.tm l)
 | .junk=>some .junk
 | .hptr r off=>match posOf pm r with|some i=>some (.hptr i off)|none=>none
 | .hs r off len cap sz=>match posOf pm r with|some i=>some (.hs i off len cap sz)|none=>none
 | .own r sz=>match posOf pm r with|some i=>some (.own i sz)|none=>none
 | .qs r sz=>match posOf pm r with|some i=>some (.qs i sz)|none=>none
 | .op r j off sz=>match posOf pm r with|some i=>some (.op i j off sz)|none=>none
 | .win r lo n sz=>match posOf pm r with|some i=>some (.win i lo n sz)|none=>none
 | .agg cs=>match renPs pm cs with|some qs=>some (.agg qs)|none=>none
 | .tuple cs=>match renPs pm cs with|some qs=>some (.tuple qs)|none=>none
 | .clo fn f c=>match renPs pm f,renPs pm c with|some f',some c'=>some (.clo fn f' c')|_,_=>none
where renPs pm:List PV->Option (List PV)
 | []=>some []
 | p::ps=>match WO pm p,renPs pm ps with|some q,some qs=>some (q::qs)|_,_=>none
def bC9(pm:List Nat)(H:Heap):List Nat->Option Heap
 | []=>some []
 | r::l=>match iN H r with
  | some k=>match (bif k.tag.isSome then some k else match WO.renPs pm k.cells with|some cs=>some { k with cells:=cs }|none=>none),bC9 pm H l with
   | some k',some H'=>some (some k'::H')
   | _,_=>none
  | none=>none
def bVG(pm:List Nat)(F:Frm):List Nat->Option Frm| []=>some []| t::l=>match WO pm (cR F t),bVG pm F l with| some p,some F'=>some ((t,p)::F')| _,_=>none
def b04(T pm:List Nat):Bool:=T.all λr=>match pm[r]? with| some s=>Nat.beq s r| none=>false
def compact(T pm J5:List Nat)(F:Frm)(H:Heap):Option (Frm×Heap) :=bif a9L pm&&b04 T pm then match bC9 pm H pm,bVG pm F J5 with| some H',some F'=>some (F',H')| _,_=>none else none
def aX3(s i:Nat) (et:TypeId) (ty:Ty) (H:Heap):Heap:=match iN H s with
 | some k=>match k.cells.drop i with
  | .tl _ [] (some 0) _::rest=>bif !k.tag.isSome then ((H++[some ⟨aI ty [],et,true,false,some ⟨ty,[]⟩⟩]:Heap).set s (some { k with cells:=k.cells.take i++.own H.length ty.size::rest })) else H
  | .lit (.slice none m c)::rest=>bif Nat.beq m 0&&Nat.beq c 0&&!k.tag.isSome then ((H++[some ⟨aI ty [],et,true,false,some ⟨ty,[]⟩⟩]:Heap).set s (some { k with cells:=k.cells.take i++.own H.length ty.size::rest })) else H
  | _=>H
 | none=>H
def lA:zb->Frm->Heap->Frm×Heap
 | [],F,H=>(F,H)
 | (t,.own e ty)::r,F,H=>match cR F t with
  | .lit (.slice none m c)=>bif Nat.beq m 0&&Nat.beq c 0 then lA r ((t,.own H.length ty.size)::F) (H++[some ⟨aI ty [],e,true,false,some ⟨ty,[]⟩⟩]) else lA r F H
  | .tl _ [] (some 0) _=>lA r ((t,.own H.length ty.size)::F) (H++[some ⟨aI ty [],e,true,false,some ⟨ty,[]⟩⟩])
  | _=>lA r F H
 | (t,.bown e et ty)::r,F,H=>match cR F t with
  | .hptr s _=>match iN H s with
   | some k=>match k.cells with
    | [.lit (.slice none m c)]=>bif Nat.beq m 0&&Nat.beq c 0&&!k.tag.isSome then lA r F ((H++[some ⟨aI ty [],et,true,false,some ⟨ty,[]⟩⟩]:Heap).set s (some { k with cells:=[.own H.length ty.size] })) else lA r F H
    | _=>lA r F H
   | none=>lA r F H
  | _=>lA r F H
 | (t,.bag _ t1 et ty _)::r,F,H=>match cR F t with
  | .hptr s _=>match iN H s with
   | some k=>match k.cells.drop t1.size with
    | .tl _ [] (some 0) _::rest=>bif !k.tag.isSome then lA r F ((H++[some ⟨aI ty [],et,true,false,some ⟨ty,[]⟩⟩]:Heap).set s (some { k with cells:=k.cells.take t1.size++.own H.length ty.size::rest })) else lA r F H
    | .lit (.slice none m c)::rest=>bif Nat.beq m 0&&Nat.beq c 0&&!k.tag.isSome then lA r F ((H++[some ⟨aI ty [],et,true,false,some ⟨ty,[]⟩⟩]:Heap).set s (some { k with cells:=k.cells.take t1.size++.own H.length ty.size::rest })) else lA r F H
    | _=>lA r F H
   | none=>lA r F H
  | _=>lA r F H
 | (t,.bag2 _ t1 et ty eu u)::r,F,H=>match cR F t with
  | .hptr s _=>lA r F (aX3 s (t1.1.size+1) eu u (aX3 s t1.1.size et ty H))
  | _=>lA r F H
 | _::r,F,H=>lA r F H
def PF:zb->Frm->Heap->Frm×Heap
 | [],F,H=>(F,H)
 | (t,.box _ (.list _))::r,F,H=>match cR F t with
  | .hptr s _=>match iN H s with
   | some k=>match k.cells with
    | [.own u sz]=>match iN H u with
     | some ku=>match ku.tag with
      | some g=>bif !k.tag.isSome&&!Nat.beq u s then PF r F (((H.set u (some { ku with frozen:=true }))).set s (some { k with cells:=[zX g.t g.l none] })) else PF r F H
      | none=>PF r F H
     | none=>PF r F H
    | _=>PF r F H
   | none=>PF r F H
  | _=>PF r F H
 | _::r,F,H=>PF r F H
def aOE:zb->Frm->Heap->Option (List Nat)
 | [],_,_=>some []
 | (t,.own _ _)::r,F,H=>match cR F t,aOE r F H with
  | .own s _,some l=>some (s::l)
  | _,_=>none
 | (t,.box _ _)::r,F,H=>match cR F t,aOE r F H with
  | .hptr s _,some l=>some (s::l)
  | _,_=>none
 | (t,.bown _ _ _)::r,F,H=>match cR F t,aOE r F H with
  | .hptr s _,some l=>match iN H s with
   | some k=>match k.cells with
    | [.own u _]=>some (s::u::l)
    | _=>none
   | none=>none
  | _,_=>none
 | (t,.bque _ _ _)::r,F,H=>match cR F t,aOE r F H with
  | .hptr s _,some l=>match iN H s with
   | some k=>match k.cells with
    | [.own u _]=>some (s::u::l)
    | [.qs u _]=>some (s::u::l)
    | _=>none
   | none=>none
  | _,_=>none
 | (t,.bag _ t1 _ _ _)::r,F,H=>match cR F t,aOE r F H with
  | .hptr s _,some l=>match iN H s with
   | some k=>match k.cells.drop t1.size with
    | .own u _::_=>some (s::u::l)
    | _=>none
   | none=>none
  | _,_=>none
 | (t,.bag2 _ t1 _ _ _ _)::r,F,H=>match cR F t,aOE r F H with
  | .hptr s _,some l=>match iN H s with
   | some k=>match k.cells.drop t1.1.size with
    | .own u _::.own v _::_=>some (s::u::v::l)
    | _=>none
   | none=>none
  | _,_=>none
 | (_,.ar _ _)::r,F,H=>match aT7 0 H,aOE r F H with
  | some (ra,_),some l=>some (ra::l)
  | _,_=>none
 | _::r,F,H=>aOE r F H
def NU(T:List Nat) (sh:zb) (F:Frm) (H:Heap):Option (Shape.den sh) :=
 match NQ sh F H with
 | (F0,H0)=>match PF sh F0 H0 with
  | (F1,H1)=>match lA sh F1 H1 with
   | (F2,H2)=>match aOE sh F2 H2 with
    | some pm=>match compact T pm (slotsOf sh) F2 H2 with
     | some (F',H')=>bif Nat.beq H'.length (bB1 sh) then bUF sh F' H' 0 else none
     | none=>none
    | none=>none
section
variable {P:Program} {n0:Nat->Prop} {w wi:World} {G Gi:Gd} {μ μi μ':Mp} {H:Heap} {F:Frm} {a:Act} {nt:Nat}
def U8:∀ {l r i},posOf l r=some i->l[i]?=some r
 | [],r,i,h=>by cases h
 | x::l,r,i,h=>by
  simp only[posOf]at h;cases a:Nat.beq x r with
  | true =>
   rw[a]at h;simp only[oC,oJ]at h;subst h
   simp_all
  | false =>
   rw[a]at h;simp only[oD]at h;split at h
   next j b=>simp only[oJ]at h;subst h;simpa using U8 b
   grind
def aV1:∀ {l} {r i:Nat},posOf l r=none->l[i]?=some r->False
 | [],r,i,_,h=>W
 | x::l,r,i,hn,h=>by
  simp only[posOf]at hn;cases a:Nat.beq x r with
  | true=>grind
  | false =>
   rw[a]at hn;split at hn
   ·grind
   ·rename_i hp;cases i with
    | zero =>
     simp_all
    | succ i=>exact aV1 hp (by simpa using h)
def aVV:∀ {l} {i j r:Nat},a9L l=true->l[i]?=some r->l[j]?=some r->i=j
 | [],i,j,r,_,h,_=>W
 | x::l,i,j,r,hn,h1,h2=>by
  simp only[a9L,oA]at hn;have⟨hp,hn⟩:=hn;have a:posOf l x=none:=W
  cases i with
  | zero =>
   simp only[List.getElem?_cons_zero,oJ]at h1;subst h1;cases j with
   | zero=>rfl
   | succ j=>exact(aV1 a (by simpa using h2)).elim
  | succ i =>
   cases j with
   | zero =>
    simp only[List.getElem?_cons_zero,oJ]at h2;subst h2;exact(aV1 a (by simpa using h1)).elim
   | succ j=>exact oZ (·+1) (aVV hn (by simpa using h1) W)
def aOD(μ:Mp) (pm:List Nat):Mp:=⟨λi=>match pm[i]? with|some r=>μ.loc r|none=>none,λi=>match pm[i]? with|some r=>μ.len r|none=>none,λi=>match pm[i]? with|some r=>μ.sh r|none=>0⟩
def yM {pm i r}(h:pm[i]?=some r):(aOD μ pm).loc i=μ.loc r/\(aOD μ pm).len i=μ.len r/\(aOD μ pm).sh i=μ.sh r:=by simp[aOD,h]
mutual
def bO1 {pm:List Nat}:∀ (p q:PV) (v:Value),WO pm p=some q->VR w G μ p v->VR w G (aOD μ pm) q v
 | .lit u,q,v,h,hv=>by simp only[WO,oJ]at h; subst h; rw[VR]at hv ⊢; exact hv
 | .vals ..,q,v,h,hv=>by simp only[WO,oJ]at h; subst h; rw[VR]at hv ⊢; exact hv
 | .iptr _,q,v,h,hv=>by simp only[WO,oJ]at h; subst h; rw[VR]at hv ⊢; exact hv
 | .tl ..,q,v,h,hv=>by simp only[WO,oJ]at h; subst h; rw[VR]at hv ⊢; exact hv
 | .tp ..,q,v,h,hv=>by simp only[WO,oJ]at h; subst h; rw[VR]at hv ⊢; exact hv
 | .row ..,q,v,h,hv=>by simp only[WO,oJ]at h; subst h; rw[VR]at hv ⊢; exact hv
 | .rp ..,q,v,h,hv=>by simp only[WO,oJ]at h; subst h; rw[VR]at hv ⊢; exact hv
 | .mp _,q,v,h,hv=>by simp only[WO,oJ]at h; subst h; rw[VR]at hv ⊢; exact hv
 | .tm _,q,v,h,hv=>by simp only[WO,oJ]at h; subst h; rw[VR]at hv ⊢; exact hv
 | .junk,q,v,h,hv=>by simp only[WO,oJ]at h; subst h; rw[VR]; trivial
 | .hptr r off,q,v,h,hv=>by
  simp only[WO]at h;split at h
  next i hi=>simp only[oJ]at h;subst h;have:=yM (μ:=μ) (U8 hi);rw[VR]at hv ⊢; rw[this.1,this.2.2]; exact hv
  ·cases h
 | .hs r off l c s,q,v,h,hv=>by
  simp only[WO]at h;split at h
  next i hi=>simp only[oJ]at h;subst h;have:=yM (μ:=μ) (U8 hi);rw[VR]at hv ⊢; rw[this.1,this.2.2]; exact hv
  ·cases h
 | .own r s,q,v,h,hv=>by
  simp only[WO]at h;split at h
  next i hi=>simp only[oJ]at h;subst h;have:=yM (μ:=μ) (U8 hi);rw[VR]at hv ⊢; rw[this.1,this.2.1,this.2.2]; exact hv
  ·cases h
 | .qs r s,q,v,h,hv=>by
  simp only[WO]at h;split at h
  next i hi=>simp only[oJ]at h;subst h;have:=yM (μ:=μ) (U8 hi);rw[VR]at hv ⊢; rw[this.1,this.2.1,this.2.2]; exact hv
  ·cases h
 | .op r j off s,q,v,h,hv=>by
  simp only[WO]at h;split at h
  next i hi=>simp only[oJ]at h;subst h;have:=yM (μ:=μ) (U8 hi);rw[VR]at hv ⊢; rw[this.1,this.2.2]; exact hv
  ·cases h
 | .win r lo n s,q,v,h,hv=>by
  simp only[WO]at h;split at h
  next i hi=>simp only[oJ]at h;subst h;have:=yM (μ:=μ) (U8 hi);rw[VR]at hv ⊢; rw[this.1,this.2.1,this.2.2]; exact hv
  ·cases h
 | .agg cs,q,v,h,hv=>by
  simp only[WO]at h;split at h
  next qs d=>simp only[oJ]at h;subst h;rw[VR]at hv ⊢;have⟨vs,a,b⟩:=hv;exact⟨vs,a,aFX cs qs _ d b⟩
  ·cases h
 | .tuple cs,q,v,h,hv=>by
  simp only[WO]at h;split at h
  next qs d=>simp only[oJ]at h;subst h;rw[VR]at hv ⊢;have⟨vs,a,b⟩:=hv;exact⟨vs,a,aFX cs qs _ d b⟩
  ·cases h
 | .clo fn f c,q,v,h,hv=>by
  simp only[WO]at h;split at h
  next f' c' g m=>simp only[oJ]at h;subst h;rw[VR]at hv ⊢;have⟨e,cs,a,b,k⟩:=hv;exact⟨e,cs,a,aFX f f' _ g b,aFX c c' _ m k⟩
  ·cases h
def aFX {pm:List Nat}:∀ (ps qs:List PV) (vs:List Value),WO.renPs pm ps=some qs->VRs w G μ ps vs->VRs w G (aOD μ pm) qs vs
 | [],qs,vs,h,hv=>by
  simp only[WO.renPs,oJ]at h;subst h;rw[VRs]at hv ⊢; exact hv
 | p::ps,qs,vs,h,hv=>by
  simp only[WO.renPs]at h;split at h
  next q a c b=>simp only[oJ]at h;subst h;rw[VRs]at hv ⊢;have⟨x,xs,d,e,f⟩:=hv;exact⟨x,xs,d,bO1 p q x c e,aFX ps a xs b f⟩
  ·cases h
end
def bEA {pm}:∀ {l H'},bC9 pm H l=some H'->H'.length=l.length/\∀ (i:Nat) k',H'[i]?=some (some k')->∃ s k,l[i]?=some s/\H[s]?=some (some k)/\((k.tag.isSome=true/\k'=k)\/(k.tag=none/\∃ cs,WO.renPs pm k.cells=some cs/\k'={ k with cells:=cs }))
 | [],H',h=>by
  simp only[bC9,oJ]at h;grind
 | r::l,H',h=>by
  simp only[bC9]at h;split at h
  next k hk=>
   split at h
   ·rename_i k1 H1 h1 h2;simp only[oJ]at h;subst h;have⟨e1,e2⟩:=bEA h2;refine⟨by simp[e1],λi k' hi=>?_⟩;cases i with
    | zero =>
     simp only[List.getElem?_cons_zero,oJ]at hi;subst hi;refine⟨r,k,rfl,aG hk,?_⟩;cases ht:k.tag with
     | some g =>
      grind
     | none =>
      grind
    | succ i =>
     grind
   ·cases h
  ·cases h
def bRG(hW:aX n0 G μ H w){pm}(hn:a9L pm=true){H'}(h:bC9 pm H pm=some H'):aX n0 G (aOD μ pm) H' w:=by
 have⟨hlen,iN⟩:=bEA h;refine⟨?_,?_,?_,hW.lt,?_,hW.base,hW.rows.rel (λr s=>pm[r]?=some s) (λr r' s h1 h2=>aVV hn h1 h2) (λr k' hr=>?_)⟩
 case refine_5 =>
  have⟨s,k,a1,a2,a3⟩:=iN r k' hr;refine⟨s,k,a1,a2,?_⟩;rcases a3 with ⟨_,rfl⟩|⟨_,cs,_,rfl⟩
  ·exact⟨rfl,rfl,rfl,rfl,(yM a1).1⟩
  ·exact⟨rfl,rfl,rfl,rfl,(yM a1).1⟩
 intro r k' b hr hb;have⟨s,k,a1,a2,a3⟩:=iN r k' hr;rw[(yM a1).1]at hb;have⟨c,c1,c2,c3,c4⟩:=hW.blk s k b a2 hb;rw[(yM a1).2.2];rcases a3 with ⟨ht,rfl⟩|⟨ht,cs,hcs,rfl⟩;refine⟨c,c1,?_,c3,c4⟩;have⟨g,hg⟩:=Option.isSome_iff_exists.1 ht;have:=(hW.tags s k' g a2 hg).1;rw[this]at c2 ⊢;exact xZ (lB _ _) c2;have⟨vs,d1,d2⟩:=c2.values;have d3:=aFX _ _ _ hcs d1;exact⟨c,c1,aT.vK d3 d2,λhg=>by rw[c3 hg]; show k.cells.length=cs.length; rw[d1.length,d3.length],c4⟩;intro r k' g hr hg;have⟨s,k,a1,a2,a3⟩:=iN r k' hr;rw[(yM a1).2.1];rcases a3 with ⟨ht,rfl⟩|⟨ht,cs,hcs,rfl⟩;exact hW.tags s k' g a2 hg;grind;intro r1 r2 k1 k2 b e1 e2 f1 f2 m1 m2;have⟨s1,l1,a1,a2,a3⟩:=iN r1 k1 e1;have⟨s2,l2,b1,b2,b3⟩:=iN r2 k2 e2;rw[(yM a1).1]at m1;rw[(yM b1).1]at m2;have fz:∀ {k k':Blk},k'.frozen=false->((k.tag.isSome=true/\k'=k)\/(k.tag=none/\∃ cs,WO.renPs pm k.cells=some cs/\k'={ k with cells:=cs }))->k.frozen=false:=W;have:=hW.inj s1 s2 l1 l2 b a2 b2 (fz f1 a3) (fz f2 b3) m1 m2;subst this;exact aVV hn a1 b1;intro r hr;have:pm[r]?=none:=List.getElem?_eq_none Z;simp[aOD,this]
def bI8 {pm}:∀ {l F'},bVG pm F l=some F'->∀ t,cR F' t=.junk\/WO pm (cR F t)=some (cR F' t)
 | [],F',h,t=>by
  simp only[bVG,oJ]at h;subst h;exact .inl rfl
 | s::l,F',h,t=>by
  simp only[bVG]at h;split at h
  next p c hp b=>
   simp only[oJ]at h;subst h;rw[eY]
   by_cases a:t=s
   ·grind
   ·rw[if_neg a]; exact bI8 b t
  grind
def bBH {T pm J5 F' H'}(h:compact T pm J5 F H=some (F',H'))(k:∀ r,¬ r∈T->μi.loc r=none/\μi.len r=none)(j:I n0 wi Gi μi nt F H a w):I n0 wi Gi μi nt F' H' a w:=by
 have⟨hn,h⟩:=aJ h;simp only[oA]at hn;have⟨hn,g⟩:=hn;have stay:∀ r,r∈T->pm[r]?=some r:=(by intro r c;have:=List.all_eq_true.1 g r c;split at this;simp_all;grind);split at h
 next H1 n l m=>
  obtain⟨rfl,rfl⟩:=h;have⟨G,μ,e,i,f⟩:=j;refine⟨G,aOD μ pm,?_,bRG i hn l,f.size,λt=>?_,f.defers⟩
  ·exact {
    good:=e.good
    map:=λr b c=>by
     by_cases d:r∈T
     ·rw[(yM (stay r d)).1]; exact e.map r b c
     ·grind
    len:=λr b c=>by
     by_cases d:r∈T
     ·rw[(yM (stay r d)).2.1]; exact e.len r b c
     ·grind
    sh:=λr b c=>by
     by_cases d:r∈T
     ·rw[(yM (stay r d)).2.2]; exact e.sh r b c
     ·grind
    room:=e.room
    row:=e.row
    os:=e.os
    tape:=e.tape
    output:=e.output
    size:=e.size
    old:=e.old
    new:=e.new }
  rcases bI8 m t with h3|h3;rw[h3,VR]; trivial;exact bO1 _ _ _ h3 (f.slot t)
 cases h
def V4(d:aX n0 G μ H w) {s:Nat} {k:Blk} {cs:List PV} (e:H[s]?=some (some k)) (ht:k.tag=none) (C:∀ b o,aT w G μ b o k.cells->aT w G μ b o cs/\cs.length=k.cells.length) :
  aX n0 G μ (H.set s (some { k with cells:=cs })) w:=by
 have x:s<H.length:=(oO.1 e).1;have key:∀ (r:Nat) (k':Blk),(H.set s (some { k with cells:=cs }))[r]?=some (some k')->(r=s/\k'={ k with cells:=cs })\/(r≠s/\H[r]?=some (some k')):=W;refine⟨?_,?_,?_,d.lt,λr a=>d.top r (by simpa using a),d.base,d.rows.rel (λr s=>r=s) (λr B s j q=>j.trans q.symm) (λr k' a=>?_)⟩
 case refine_4 =>
  grind
 intro r k' b a i;rcases key r k' a with ⟨rfl,rfl⟩|⟨_,a⟩;have⟨c,c1,c2,c3,c4⟩:=d.blk r k b e i;grind;exact d.blk r k' b a i;intro r k' g a A;rcases key r k' a with ⟨rfl,rfl⟩|⟨_,a⟩;grind;exact d.tags r k' g a A;intro h f t p b u l f1 f2 m1 m2;have old:∀ (r:Nat) (k':Blk),(H.set s (some { k with cells:=cs }))[r]?=some (some k')->k'.frozen=false->∃ k0,H[r]?=some (some k0)/\k0.frozen=false:=W;have⟨n,y,a2⟩:=old h t u f1;have⟨m,z,v⟩:=old f p l f2;exact d.inj h f n m b y z a2 v m1 m2
def aS2 {s i et ty}(l:I n0 wi Gi μi nt F H a w):I n0 wi Gi μi nt F (aX3 s i et ty H) a w:=by
 unfold aX3;split
 next k z=>
  split
  next C B rest h=>
   cases p:(!k.tag.isSome)with
   | false=>exact l
   | true =>
    have c:k.tag=none:=by simp_all
    have⟨G,μ,x,r,q⟩:=l;have⟨n,t⟩:=vY r ⟨aI ty [],et,true,false,some ⟨ty,[]⟩⟩ (on:=some 0) (λg y=>by cases y; exact⟨rfl,rfl⟩);have d:=aG z;have f:s<H.length:=(oO.1 d).1;have e:(H++[some ⟨aI ty [],et,true,false,some ⟨ty,[]⟩⟩])[s]?=some (some k):=by rw[List.getElem?_append_left f]; exact d
    refine⟨G,_,x.trans n,V4 t e c ?_,q.mono n.toMono⟩;intro b o j;have⟨vs,d1,d2⟩:=j.values;have d3:=d1.take i;have d4:=d1.drop i;rw[h,VRs]at d4;have⟨v,m,u,d5,d6⟩:=d4;have⟨ao,d7⟩:=aTV d5;have d8:VRs w G (upd μ H.length none (some 0)) (k.cells.take i++.own H.length ty.size::rest) (vs.take i++v::m):=VRs.append d3 (by
     refine⟨v,m,rfl,?_,d6⟩;exact⟨0,rZ ..,.inl ⟨rfl,ao,d7⟩⟩)
    rw[<- u,List.take_append_drop]at d8;exact⟨aT.vK d8 d2,by rw[d8.length,d1.length]⟩
  next A c' rest h=>
   cases p:(Nat.beq A 0&&Nat.beq c' 0&&!k.tag.isSome)with
   | false=>exact l
   | true =>
    simp only[oA]at p;have⟨⟨hm,j⟩,p⟩:=p;have hm:=oE hm;have j:=oE j;subst hm; subst j;have c:k.tag=none:=by simp_all
    have⟨G,μ,x,r,q⟩:=l;have⟨n,t⟩:=vY r ⟨aI ty [],et,true,false,some ⟨ty,[]⟩⟩ (on:=some 0) (λg y=>by cases y; exact⟨rfl,rfl⟩);have d:=aG z;have f:s<H.length:=(oO.1 d).1;have e:(H++[some ⟨aI ty [],et,true,false,some ⟨ty,[]⟩⟩])[s]?=some (some k):=by rw[List.getElem?_append_left f]; exact d
    refine⟨G,_,x.trans n,V4 t e c ?_,q.mono n.toMono⟩;intro b o j;have⟨vs,d1,d2⟩:=j.values;have d3:=d1.take i;have d4:=d1.drop i;rw[h,VRs]at d4;have⟨v,m,u,d5,d6⟩:=d4;have d8:VRs w G (upd μ H.length none (some 0)) (k.cells.take i++.own H.length ty.size::rest) (vs.take i++v::m):=VRs.append d3 (by
     refine⟨v,m,rfl,?_,d6⟩;exact⟨0,rZ ..,.inl ⟨rfl,none,d5⟩⟩)
    rw[<- u,List.take_append_drop]at d8;exact⟨aT.vK d8 d2,by rw[d8.length,d1.length]⟩
  exact l
 exact l
def bX:∀ sh F H,I n0 wi Gi μi nt F H a w->I n0 wi Gi μi nt (lA sh F H).1 (lA sh F H).2 a w
 | [],F,H,hI=>hI
 | (t,.own e ty)::r,F,H,hI=>by
  have skip:I n0 wi Gi μi nt (lA r F H).1 (lA r F H).2 a w:=bX r F H hI;unfold lA;split
  next m c ht=>
   cases d:(Nat.beq m 0&&Nat.beq c 0)with
   | false=>exact skip
   | true =>
    simp only[oA]at d;have J:=oE d.1;have K:=oE d.2;subst J; subst K;have⟨G,μ,z,x,j⟩:=hI;have B:=j.slot t;rw[ht,VR]at B;have⟨i,y⟩:=vY x ⟨aI ty [],e,true,false,some ⟨ty,[]⟩⟩ (on:=some 0) (λg A=>by cases A; exact⟨rfl,rfl⟩);refine bX r _ _ ⟨G,_,z.trans i,y,fG.named (j.mono i.toMono) ?_⟩;exact⟨0,rZ ..,.inl ⟨rfl,none,B⟩⟩
  next N M ht=>have⟨G,μ,z,x,j⟩:=hI;have B:=j.slot t;rw[ht]at B;have⟨ao,B⟩:=aTV B;have⟨i,y⟩:=vY x ⟨aI ty [],e,true,false,some ⟨ty,[]⟩⟩ (on:=some 0) (λg A=>by cases A; exact⟨rfl,rfl⟩);refine bX r _ _ ⟨G,_,z.trans i,y,fG.named (j.mono i.toMono) ?_⟩;exact⟨0,rZ ..,.inl ⟨rfl,ao,B⟩⟩
  ·grind
 | (t,.bown e et ty)::r,F,H,hI=>by
  have skip:I n0 wi Gi μi nt (lA r F H).1 (lA r F H).2 a w:=bX r F H hI;unfold lA;split
  next s off ht=>
   split
   ·rename_i k E;split
    ·rename_i m c p;cases d:(Nat.beq m 0&&Nat.beq c 0&&!k.tag.isSome)with
     | false=>exact skip
     | true =>
      simp only[oC];simp only[oA,Bool.not_eq_true']at d;have J:=oE d.1.1;have K:=oE d.1.2;subst J; subst K;have f:k.tag=none:=by
       cases D:k.tag with
       | none=>rfl
       | some g=>rw[D]at d; simp at d
      have⟨G,μ,z,x,j⟩:=hI;have⟨i,y⟩:=vY x ⟨aI ty [],et,true,false,some ⟨ty,[]⟩⟩ (on:=some 0) (λg A=>by cases A; exact⟨rfl,rfl⟩);have h:=aG E;have n:s<H.length:=(oO.1 h).1;have l:(H++[some ⟨aI ty [],et,true,false,some ⟨ty,[]⟩⟩])[s]?=some (some k):=by rw[List.getElem?_append_left n]; exact h
      refine bX r _ _ ⟨G,_,z.trans i,V4 y l f ?_,j.mono i.toMono⟩;intro b o q;rw[p]at q ⊢;refine⟨?_,rfl⟩;rw[aT]at q ⊢;have⟨⟨v,v1,v2⟩,v3⟩:=q;refine⟨⟨v,v1,?_⟩,by rw[aT]; trivial⟩;have v4:v=.slice none 0 0:=by simpa only[VR]using v2
      simp only[VR];exact⟨0,rZ ..,.inl ⟨rfl,none,v4⟩⟩
    ·exact skip
   ·exact skip
  ·exact skip
 | (_,.int _)::r,F,H,hI=>bX r F H hI
 | (_,.bool)::r,F,H,hI=>bX r F H hI
 | (_,.str)::r,F,H,hI=>bX r F H hI
 | (_,.list _)::r,F,H,hI=>bX r F H hI
 | (_,.agg _)::r,F,H,hI=>bX r F H hI
 | (_,.box _ _)::r,F,H,hI=>bX r F H hI
 | (_,.ptr _)::r,F,H,hI=>bX r F H hI
 | (_,.bque _ _ _)::r,F,H,hI=>bX r F H hI
 | (_,.fn _)::r,F,H,hI=>bX r F H hI
 | (_,.nil0)::r,F,H,hI=>bX r F H hI
 | (_,.val)::r,F,H,hI=>bX r F H hI
 | (_,.nilI)::r,F,H,hI=>bX r F H hI
 | (_,.clo _ _)::r,F,H,hI=>bX r F H hI
 | (_,.win _ _)::r,F,H,hI=>bX r F H hI
 | (_,.hnd _)::r,F,H,hI=>bX r F H hI
 | (_,.mpk _)::r,F,H,hI=>bX r F H hI
 | (_,.ar _ _)::r,F,H,hI=>bX r F H hI
 | (t,.bag2 e t1 et ty eu u)::r,F,H,hI=>by
  unfold lA;split
  ·exact bX r _ _ (aS2 (aS2 hI))
  ·exact bX r F H hI
 | (t,.bag e t1 et ty t2)::r,F,H,hI=>by
  have skip:I n0 wi Gi μi nt (lA r F H).1 (lA r F H).2 a w:=bX r F H hI;unfold lA;split
  next s off ht=>
   split
   ·rename_i k E;split
    ·rename_i N M rest p;cases d:(!k.tag.isSome)with
     | false=>exact skip
     | true =>
      simp only[oC];have f:k.tag=none:=by
       cases D:k.tag with
       | none=>rfl
       | some g=>rw[D]at d; simp at d
      have⟨G,μ,z,x,j⟩:=hI;have⟨i,y⟩:=vY x ⟨aI ty [],et,true,false,some ⟨ty,[]⟩⟩ (on:=some 0) (λg A=>by cases A; exact⟨rfl,rfl⟩);have h:=aG E;have n:s<H.length:=(oO.1 h).1;have l:(H++[some ⟨aI ty [],et,true,false,some ⟨ty,[]⟩⟩])[s]?=some (some k):=by rw[List.getElem?_append_left n]; exact h
      refine bX r _ _ ⟨G,_,z.trans i,V4 y l f ?_,j.mono i.toMono⟩;intro b o q;have⟨vs,d1,d2⟩:=q.values;have d3:=d1.take t1.size;have d4:=d1.drop t1.size;rw[p,VRs]at d4;have⟨v,C,L,d5,d6⟩:=d4;have⟨ao,d7⟩:=aTV d5;have d8:VRs w G (upd μ H.length none (some 0)) (k.cells.take t1.size++.own H.length ty.size::rest) (vs.take t1.size++v::C):=VRs.append d3 (by
       rw[VRs];refine⟨v,C,rfl,?_,d6⟩;rw[VR];exact⟨0,rZ ..,.inl ⟨rfl,ao,d7⟩⟩)
      rw[<- L,List.take_append_drop]at d8;exact⟨aT.vK d8 d2,by rw[d8.length,d1.length]⟩
    ·rename_i O c' rest p;cases d:(Nat.beq O 0&&Nat.beq c' 0&&!k.tag.isSome)with
     | false=>exact skip
     | true =>
      simp only[oC];simp only[oA]at d;have⟨⟨hm,q⟩,d⟩:=d;have hm:=oE hm;have q:=oE q;subst hm; subst q;have f:k.tag=none:=by
       cases D:k.tag with
       | none=>rfl
       | some g=>rw[D]at d; simp at d
      have⟨G,μ,z,x,j⟩:=hI;have⟨i,y⟩:=vY x ⟨aI ty [],et,true,false,some ⟨ty,[]⟩⟩ (on:=some 0) (λg A=>by cases A; exact⟨rfl,rfl⟩);have h:=aG E;have n:s<H.length:=(oO.1 h).1;have l:(H++[some ⟨aI ty [],et,true,false,some ⟨ty,[]⟩⟩])[s]?=some (some k):=by rw[List.getElem?_append_left n]; exact h
      refine bX r _ _ ⟨G,_,z.trans i,V4 y l f ?_,j.mono i.toMono⟩;intro b o q;have⟨vs,d1,d2⟩:=q.values;have d3:=d1.take t1.size;have d4:=d1.drop t1.size;rw[p,VRs]at d4;have⟨v,C,L,d5,d6⟩:=d4;rw[VR]at d5;have d8:VRs w G (upd μ H.length none (some 0)) (k.cells.take t1.size++.own H.length ty.size::rest) (vs.take t1.size++v::C):=VRs.append d3 (by
       rw[VRs];refine⟨v,C,rfl,?_,d6⟩;rw[VR];exact⟨0,rZ ..,.inl ⟨rfl,none,d5⟩⟩)
      rw[<- L,List.take_append_drop]at d8;exact⟨aT.vK d8 d2,by rw[d8.length,d1.length]⟩
    ·exact skip
   ·exact skip
  ·exact skip
def bQ:∀ sh F H,I n0 wi Gi μi nt F H a w->I n0 wi Gi μi nt (PF sh F H).1 (PF sh F H).2 a w
 | [],F,H,hI=>hI
 | (t,.box e (.list ty))::r,F,H,hI=>by
  have skip:I n0 wi Gi μi nt (PF r F H).1 (PF r F H).2 a w:=bQ r F H hI;unfold PF;split
  next s off ht=>
   split
   ·rename_i k L;split
    ·rename_i u sz B;split
     ·rename_i ku c;split
      ·rename_i g M;cases f:(!k.tag.isSome&&!Nat.beq u s)with
       | false=>exact skip
       | true =>
        have j:k.tag=none:=by simp_all
        have A:u≠s:=λe=>by rw[e]at f; simp at f
        have⟨G,μ,J,y,D⟩:=hI;have q:u<H.length:=(oO.1 (aG c)).1;have x:(H.set u (some { ku with frozen:=true }))[s]?=some (some k):=by rw[List.getElem?_set_ne A]; exact aG L
        have n:iN (H.set u (some { ku with frozen:=true })) u=some { ku with frozen:=true }:=by simp only[iN,List.getElem?_set_self q]
        have fin:∀ {G1:Gd} {m:World} {μ1:Mp},(∀ b,μ1.loc u=some b->G1 b)->aX n0 G1 μ1 (H.set u (some { ku with frozen:=true })) m->aX n0 G1 μ1 ((H.set u (some { ku with frozen:=true })).set s (some { k with cells:=[zX g.t g.l none] })) m:=by
         intro G1 m μ1 C p;refine V4 p x j λb o K=>?_
         rw[B]at K ⊢;refine⟨?_,rfl⟩;have⟨⟨v,v1,v2⟩,v3⟩:=K;exact⟨⟨v,v1,(U3 p v2 n M (λb h=>h) C).bF⟩,by rw[aT]; trivial⟩
        cases z:ku.frozen with
        | true =>
         have d:H.set u (some { ku with frozen:=true })=H:=by
          apply List.ext_getElem?;intro i
          by_cases hi:u=i
          ·subst hi;rw[List.getElem?_set_self q,aG c];have⟨R,P,S,O,Q⟩:=ku;grind
          ·grind
         refine bQ r _ _ ⟨G,μ,J,fin (λb f=>?_) (by rw[d]; exact y),D⟩;have⟨_,_,_,_,N,_⟩:=y.blk u ku b (aG c) f;grind
        | false =>
         have⟨E,m⟩:=aJZ y (aG c) z;exact bQ r _ _ ⟨_,μ,J.trans E,fin (λb f=>.inr f) m,D.mono E.toMono⟩
      ·grind
     ·grind
    ·grind
   ·grind
  ·grind
 | (_,.int _)::r,F,H,hI=>bQ r F H hI
 | (_,.bool)::r,F,H,hI=>bQ r F H hI
 | (_,.str)::r,F,H,hI=>bQ r F H hI
 | (_,.list _)::r,F,H,hI=>bQ r F H hI
 | (_,.agg _)::r,F,H,hI=>bQ r F H hI
 | (_,.box _ (.int _))::r,F,H,hI=>bQ r F H hI
 | (_,.box _ .bool)::r,F,H,hI=>bQ r F H hI
 | (_,.box _ .str)::r,F,H,hI=>bQ r F H hI
 | (_,.box _ (.hnd _))::r,F,H,hI=>bQ r F H hI
 | (_,.box _ (.rows _))::r,F,H,hI=>bQ r F H hI
 | (_,.box _ .smap)::r,F,H,hI=>bQ r F H hI
 | (_,.box _ (.prod _ _))::r,F,H,hI=>bQ r F H hI
 | (_,.ptr _)::r,F,H,hI=>bQ r F H hI
 | (_,.bque _ _ _)::r,F,H,hI=>bQ r F H hI
 | (_,.fn _)::r,F,H,hI=>bQ r F H hI
 | (_,.nil0)::r,F,H,hI=>bQ r F H hI
 | (_,.val)::r,F,H,hI=>bQ r F H hI
 | (_,.nilI)::r,F,H,hI=>bQ r F H hI
 | (_,.clo _ _)::r,F,H,hI=>bQ r F H hI
 | (_,.win _ _)::r,F,H,hI=>bQ r F H hI
 | (_,.hnd _)::r,F,H,hI=>bQ r F H hI
 | (_,.mpk _)::r,F,H,hI=>bQ r F H hI
 | (_,.ar _ _)::r,F,H,hI=>bQ r F H hI
 | (_,.own _ _)::r,F,H,hI=>bQ r F H hI
 | (_,.bown _ _ _)::r,F,H,hI=>bQ r F H hI
 | (_,.bag _ _ _ _ _)::r,F,H,hI=>bQ r F H hI
 | (_,.bag2 _ _ _ _ _ _)::r,F,H,hI=>bQ r F H hI
def XV {T sh x}(h:NU T sh F H=some x)(d:∀ r,¬ r∈T->μi.loc r=none/\μi.len r=none)(b:I n0 wi Gi μi nt F H a w):I n0 wi Gi μi nt (KT sh x 0) (WN sh x) a w:=by
 unfold NU at h;replace b:=NN sh F H b;split at h;rename_i p q f;rw[f]at b;replace b:=bQ sh p q b;split at h;rename_i o H1 g;rw[g]at b;replace b:=bX sh o H1 b;split at h;rename_i t s c;rw[c]at b;split at h
 ·split at h
  next F' H' ht=>
   have⟨n,h⟩:=aJ h;have⟨G,μ,e,k,j⟩:=bBH ht d b;have⟨l,m⟩:=aW8 k j.slot sh h;have hH:∀ i:Nat,bGP H'[i]? (WN sh x)[i]?:=by
    intro i;rcases oG i (bB1 sh)with hl|hl
    ·have:=m i hl;rwa[Nat.zero_add]at this
    ·have u:=oE n;exact .inl (by rw[List.getElem?_eq_none Z,List.getElem?_eq_none (by rw[a4F]; omega)])
   exact⟨G,μ,e,k.bPV hH,j.size,l,j.defers⟩
  grind
 grind
end
end Go.PM
