/- Texts of one proof, joined (4). -/
import Derived.ProofKit
import Derived.Lib.SmallJoins
import Derived.Test.YtjgapmocogjkmaaGreatDoorRows
import Derived.LaidMore
import Derived.OpenShut
import Derived.Lib.LaidU8
import Derived.MakeChecks
import Derived.Test.YtjgapmocogjkmaaGreatDoorProg
import Derived.KernelRfl
import Derived.Test.YtjgapmocogjkmaaGreatDoorQL3
set_option linter.unusedSimpArgs false
set_option linter.unusedVariables false
namespace Go.PM
open Go Go.RowKit
def aX0 : Operand→Nat
 | .tmp t=>2 ^ t
 | _=>0
def bitsOf (m : Nat) : List Operand→Nat
 | []=>m
 | .tmp t :: r=>bitsOf (m ||| 2 ^ t) r
 | _ :: r=>bitsOf m r
def wY (m d : Nat) : Nat:=(m ||| d) ^^^ d
def aVZ (l : List Oper) (o : Oper) : Nat:=match o.guard with
 | some (j,_)=>match l[j]? with
  | some p=>match p.dst with | some t=>2 ^ t | none=>0
  | none=>0
 | none=>0
def MC (l : List Oper) : List Oper→Nat→Nat→Nat
 | [],_,acc=>acc
 | o :: r,d,acc=>MC l r (match o.dst with | some t=>d ||| 2 ^ t | none=>d) (acc ||| wY (bitsOf (aVZ l o) o.op.operands.toList) d)
def uI : Code→Nat
 | .region _ ops _=>MC ops.toList ops.toList 0 0
 | .seq a b=>uI a ||| uI b
 | .cond c a b=>aX0 c ||| uI a ||| uI b
 | .block _ a=>uI a
 | .loop a=>uI a
 | .scope a=>uI a
 | _=>0
def DL : List ResultVar→Nat→Nat
 | [],m=>m
 | .tmp t :: r,m=>DL r (m ||| 2 ^ t)
 | .cell t _ :: r,m=>DL r (m ||| 2 ^ t)
def aC (fn : Func) : Nat:=match fn.body with
 | some c=>DL fn.results.toList (uI c)
 | none=>0
end Go.PM
set_option linter.unusedSimpArgs false
set_option linter.unusedVariables false
namespace Go.PM
open Go Go.RowKit
inductive Kd where
 | int (k : IntKind)
 | bool
 | str
 | list (t : Ty)
 | agg (t : Ty)
 | own (e : TypeId) (t : Ty)
 | box (e : TypeId) (t : Ty)
 | ptr (t : Ty)
 | fn (g : FuncId)
 | nil0
 | val
 | nilI
 | clo (g : FuncId) (ts : List Ty)
 | win (j sz : Nat)
 | bown (e et : TypeId) (t : Ty)
 | bag (e : TypeId) (t1 : Ty) (et : TypeId) (t : Ty) (t2 : Option Ty)
 | bag2 (e : TypeId) (t1 : Ty) (et : TypeId) (t : Ty) (eu : TypeId) (u : Ty)
 | hnd (sz : Nat)
 | mpk (j : Nat)
 | ar (e : TypeId) (t : Ty)
@[reducible] def aTM : Option Ty→Type
 | none=>Unit
 | some t=>t.den
def aYY : (t : Option Ty)→aTM t→List PV
 | none,_=>[]
 | some t,x=>enc t x
@[reducible] def tN : List Ty→Type
 | []=>Unit
 | t :: r=>t.den×tN r
@[reducible] def Kd.den : Kd→Type
 | .int _=>Int
 | .bool=>Bool
 | .str=>ByteArray
 | .list t=>List t.den
 | .agg t=>t.den
 | .own _ t=>List t.den
 | .box _ t=>t.den
 | .ptr t=>t.den
 | .fn _=>Unit
 | .nil0=>Unit
 | .val=>Value
 | .nilI=>Unit
 | .clo _ ts=>tN ts
 | .win _ _=>Nat×Nat
 | .bown _ _ t=>List t.den
 | .bag _ t1 _ t t2=>t1.den×List t.den×aTM t2
 | .bag2 _ t1 _ t _ u=>t1.den×List t.den×List u.den
 | .hnd _=>Nat×Nat×Nat
 | .mpk _=>Unit
 | .ar _ t=>List (List t.den)
abbrev Shape:=List (Nat×Kd)
@[reducible] def Shape.den : List (Nat×Kd)→Type
 | []=>Unit
 | (_,k) :: r=>k.den×Shape.den r
def Kd.pos : Kd→Nat
 | .own _ _ | .box _ _ | .ar _ _=>1
 | .bown _ _ _=>2
 | .bag _ _ _ _ _=>2
 | .bag2 _ _ _ _ _ _=>3
 | _=>0
def HK : (ts : List Ty)→tN ts→List PV
 | [],_=>[]
 | t :: r,(x,xs)=>.iptr (enc t x) :: HK r xs
def oR : (k : Kd)→k.den→Nat→PV
 | .int k,x,_=>.lit (.int k x)
 | .bool,x,_=>.lit (.bool x)
 | .str,x,_=>.lit (.string x)
 | .list t,l,_=>qL t l none
 | .agg t,x,_=>.agg (enc t x)
 | .own _ t,_,n=>.own n t.size
 | .box _ _,_,n=>.hptr n 0
 | .ptr t,x,_=>.iptr (enc t x)
 | .fn g,_,_=>.lit (.func (.func g) #[] #[])
 | .nil0,_,_=>.lit (.slice none 0 0)
 | .val,x,_=>.lit x
 | .nilI,_,_=>.lit .nilIface
 | .clo g ts,x,_=>.clo (.func g) [] (HK ts x)
 | .win j sz,x,_=>.win j x.1 x.2 sz
 | .bown _ _ _,_,n=>.hptr n 0
 | .bag _ _ _ _ _,_,n=>.hptr n 0
 | .bag2 _ _ _ _ _ _,_,n=>.hptr n 0
 | .hnd sz,x,_=>.row x.1 x.2.1 x.2.2 sz
 | .mpk j,_,_=>.mp j
 | .ar _ _,_,_=>.junk
def bBZ : (k : Kd)→k.den→Nat→Heap
 | .own e t,l,_=>[some ⟨aJ t l,e,true,false,some ⟨t,l⟩⟩]
 | .box e t,x,_=>[some ⟨enc t x,e,false,false,none⟩]
 | .bown e et t,l,n=>[some ⟨[.own (n + 1) t.size],e,false,false,none⟩,some ⟨aJ t l,et,true,false,some ⟨t,l⟩⟩]
 | .bag e t1 et t t2,x,n=>[some ⟨enc t1 x.1 ++ .own (n + 1) t.size :: aYY t2 x.2.2,e,false,false,none⟩,some ⟨aJ t x.2.1,et,true,false,some ⟨t,x.2.1⟩⟩]
 | .bag2 e t1 et t eu u,x,n=>[some ⟨enc t1 x.1 ++ [.own (n + 1) t.size,.own (n + 2) u.size],e,false,false,none⟩,some ⟨aJ t x.2.1,et,true,false,some ⟨t,x.2.1⟩⟩,some ⟨aJ u x.2.2,eu,true,false,some ⟨u,x.2.2⟩⟩]
 | .ar e t,l,_=>[some ⟨aJ (.rows t) l,e,false,false,some ⟨.rows t,l⟩⟩]
 | .int _,_,_ | .bool,_,_ | .str,_,_ | .list _,_,_ | .agg _,_,_ | .ptr _,_,_ | .fn _,_,_ | .nil0,_,_ | .val,_,_ | .nilI,_,_ | .clo _ _,_,_ | .win _ _,_,_ | .hnd _,_,_ | .mpk _,_,_=>[]
def pJ : (sh : List (Nat×Kd))→Shape.den sh→Nat→Frm
 | [],_,_=>[]
 | (t,k) :: r,(x,xs),n=>(t,oR k x n) :: pJ r xs (n + k.pos)
def aE0 : (sh : List (Nat×Kd))→Shape.den sh→Nat→Heap
 | [],_,_=>[]
 | (_,k) :: r,(x,xs),n=>bBZ k x n ++ aE0 r xs (n + k.pos)
def wQ (sh : List (Nat×Kd)) (x : Shape.den sh) : Heap:=aE0 sh x 0

def zC (e : TypeId) (t : Ty) (p : PV) (H : Heap) (n : Nat) : Option (List t.den) :=
 match p with
 | .own s sz=>bif Nat.beq s n && Nat.beq sz t.size then match fZ H n with
  | some k=>match k.tag with
   | some g=>match vW g.t t g.l with
    | some l=>bif Nat.beq k.ty e && k.grown && !k.frozen then some l else none
    | none=>none
   | none=>none
  | none=>none
  else none
 | _=>none
def aDF (e : TypeId) (t : Ty) (p : PV) (H : Heap) (n : Nat) : Option t.den :=
 match p with
 | .hptr s off=>bif Nat.beq s n && Nat.beq off 0 then match fZ H n with
  | some k=>bif Nat.beq k.ty e && !k.grown && !k.frozen && !k.tag.isSome then dec t k.cells else none
  | none=>none
  else none
 | _=>none
def QT (e et : TypeId) (t : Ty) (p : PV) (H : Heap) (n : Nat) : Option (List t.den) :=
 match p with
 | .hptr s off=>bif Nat.beq s n && Nat.beq off 0 then match fZ H n with
  | some k=>bif Nat.beq k.ty e && !k.grown && !k.frozen && !k.tag.isSome then match k.cells with
   | [.own r sz]=>zC et t (.own r sz) H (n + 1)
   | _=>none
   else none
  | none=>none
  else none
 | _=>none
def bDI : (t : Option Ty)→List PV→Option (aTM t)
 | none,cs=>match cs with
  | []=>some ()
  | _ :: _=>none
 | some t,cs=>dec t cs
def aCD (e : TypeId) (t1 : Ty) (et : TypeId) (t : Ty) (t2 : Option Ty) (p : PV) (H : Heap) (n : Nat) : Option (t1.den×List t.den×aTM t2) :=
 match p with
 | .hptr s off=>bif Nat.beq s n && Nat.beq off 0 then match fZ H n with
  | some k=>bif Nat.beq k.ty e && !k.grown && !k.frozen && !k.tag.isSome then match k.cells.drop t1.size with
   | .own r sz :: rest=>match dec t1 (k.cells.take t1.size),zC et t (.own r sz) H (n + 1),bDI t2 rest with
    | some a,some l,some b=>some (a,l,b)
    | _,_,_=>none
   | _=>none
   else none
  | none=>none
  else none
 | _=>none
def SP (e : TypeId) (t1 : Ty) (et : TypeId) (t : Ty) (eu : TypeId) (u : Ty) (p : PV) (H : Heap) (n : Nat) : Option (t1.den×List t.den×List u.den) :=
 match p with
 | .hptr s off=>bif Nat.beq s n && Nat.beq off 0 then match fZ H n with
  | some k=>bif Nat.beq k.ty e && !k.grown && !k.frozen && !k.tag.isSome then match k.cells.drop t1.size with
   | [.own r sz,.own r2 sz2]=>match dec t1 (k.cells.take t1.size),zC et t (.own r sz) H (n + 1),zC eu u (.own r2 sz2) H (n + 2) with
    | some a,some l,some b=>some (a,l,b)
    | _,_,_=>none
   | _=>none
   else none
  | none=>none
  else none
 | _=>none
def aQU (e : TypeId) (t : Ty) (H : Heap) (n : Nat) : Option (List (List t.den)):=match fZ H n with
 | some k=>match k.tag with
  | some g=>match vW g.t (.rows t) g.l with
   | some l=>bif Nat.beq k.ty e && !k.grown && !k.frozen then some l else none
   | none=>none
  | none=>none
 | none=>none
def aNL (t : Ty) : PV→Option t.den
 | .agg cs=>dec t cs
 | _=>none
def aHI (t : Ty) : PV→Option t.den
 | .iptr cs=>dec t cs
 | _=>none
def a10 : (ts : List Ty)→List PV→Option (tN ts)
 | [],[]=>some ()
 | t :: r,p :: ps=>match aHI t p with
  | some x=>match a10 r ps with
   | some xs=>some (x,xs)
   | none=>none
  | none=>none
 | _,_=>none
def aVO (j : Nat) : PV→Option Unit
 | .mp i=>bif Nat.beq i j then some () else none
 | _=>none
def aQL (g : FuncId) : PV→Option Unit
 | .lit (.func (.func f) first caps)=>bif Nat.beq f g && Nat.beq first.size 0 && Nat.beq caps.size 0 then some () else none
 | _=>none
def aNC : PV→Option Unit
 | .lit (.slice none o c)=>bif Nat.beq o 0 && Nat.beq c 0 then some () else none
 | _=>none
def aOJ : PV→Option Value
 | .lit v=>some v
 | _=>none
def aJG : PV→Option Unit
 | .lit .nilIface=>some ()
 | _=>none
theorem SQ {p : PV} {x : Value} (h : aOJ p = some x) : p = .lit x:=by
 unfold aOJ at h
 split at h
 ·rw [Option.some.inj h]
 ·cases h
theorem OG {p : PV} {x : Unit} (h : aJG p = some x) : p = .lit .nilIface:=by
 unfold aJG at h
 split at h
 ·rfl
 ·cases h
def aHN (g : FuncId) (ts : List Ty) : PV→Option (tN ts)
 | .clo (.func f) [] caps=>bif Nat.beq f g then a10 ts caps else none
 | _=>none
def aNP (j sz : Nat) : PV→Option (Nat×Nat)
 | .win r lo n s=>bif Nat.beq r j && Nat.beq s sz then some (lo,n) else none
 | _=>none
def VV : (k : Kd)→PV→Heap→Nat→Option k.den
 | .int k,p,_,_=>aH8 k [p]
 | .bool,p,_,_=>YX [p]
 | .str,p,_,_=>aJI [p]
 | .list t,p,_,_=>dec (.list t) [p]
 | .agg t,p,_,_=>aNL t p
 | .own e t,p,H,n=>zC e t p H n
 | .box e t,p,H,n=>aDF e t p H n
 | .ptr t,p,_,_=>aHI t p
 | .fn g,p,_,_=>aQL g p
 | .nil0,p,_,_=>aNC p
 | .val,p,_,_=>aOJ p
 | .nilI,p,_,_=>aJG p
 | .clo g ts,p,_,_=>aHN g ts p
 | .win j sz,p,_,_=>aNP j sz p
 | .bown e et t,p,H,n=>QT e et t p H n
 | .bag e t1 et t t2,p,H,n=>aCD e t1 et t t2 p H n
 | .bag2 e t1 et t eu u,p,H,n=>SP e t1 et t eu u p H n
 | .hnd sz,p,_,_=>aIP sz [p]
 | .mpk j,p,_,_=>aVO j p
 | .ar e t,_,H,n=>aQU e t H n
def aWP : (sh : List (Nat×Kd))→Frm→Heap→Nat→Option (Shape.den sh)
 | [],_,_,_=>some ()
 | (t,k) :: r,F,H,n=>match VV k (cQ F t) H n with
  | some x=>match aWP r F H (n + k.pos) with
   | some xs=>some (x,xs)
   | none=>none
  | none=>none
def aCW : List (Nat×Kd)→List (Nat×TypeId×Option Ty)
 | []=>[]
 | (t,.own e ty) :: r=>(t,e,some ty) :: aCW r
 | (t,.box e _) :: r=>(t,e,none) :: aCW r
 | (t,.ar e ty) :: r=>(t,e,some (.rows ty)) :: aCW r
 | _ :: r=>aCW r
def slotsOf : List (Nat×Kd)→List Nat
 | []=>[]
 | (t,_) :: r=>t :: slotsOf r
def aEJ : List (Nat×Kd)→Nat
 | []=>0
 | (_,k) :: r=>k.pos + aEJ r
def rC : List (Nat×Kd)→Frm→Heap→Frm×Heap
 | [],F,H=>(F,H)
 | (t,.list _) :: r,F,H=>match cQ F t with
  | .own s _=>match fZ H s with
   | some k=>match k.tag with
    | some g=>bif k.frozen then rC r ((t,qL g.t g.l none) :: F) H else rC r ((t,qL g.t g.l none) :: F) (H.set s (some { k with frozen:=true }))
    | none=>rC r F H
   | none=>rC r F H
  | _=>rC r F H
 | (t,.hnd sz) :: r,F,H=>match cQ F t with
  | .own s sz2=>bif Nat.beq sz2 sz then match aGP H sz s with
   | some (q,H1)=>rC r ((t,q) :: F) H1
   | none=>rC r F H
   else rC r F H
  | _=>rC r F H
 | _ :: r,F,H=>rC r F H
def D2 (sh : List (Nat×Kd)) (F : Frm) (H : Heap) : Option (Shape.den sh) :=
 match rC sh F H with
 | (F1,H1)=>match tidy ⟨slotsOf sh,aCW sh,0⟩ F1 H1 with
  | some (F',H')=>bif Nat.beq H'.length (aEJ sh) then aWP sh F' H' 0 else none
  | none=>none

section
variable {P : Program} {n0 : Nat→Prop} {w wi : World} {G Gi : Gd} {μ μi μ' : Mp} {H : Heap} {F : Frm} {a : Act} {nt : Nat}
theorem mS (hW : aV n0 G μ H w) {e : TypeId} {t : Ty} {p : PV} {n : Nat} {l : List t.den} (h : zC e t p H n = some l) : p = .own n t.size∧H[n]? = some (some ⟨aJ t l,e,true,false,some ⟨t,l⟩⟩):=by
 unfold zC at h
 split at h
 ·rename_i s sz
  replace h:=aM h
  obtain ⟨hb,h⟩:=h
  simp only [Bool.and_eq_true] at hb
  have h1:=Nat.eq_of_beq_eq_true hb.1
  have h2:=Nat.eq_of_beq_eq_true hb.2
  subst h1; subst h2
  refine ⟨rfl,?_⟩
  split at h
  ·rename_i k hk
   split at h
   ·rename_i g hg
    split at h
    ·rename_i l' hc
     obtain ⟨hb,h⟩:=aM h
     simp only [Bool.and_eq_true,Bool.not_eq_true'] at hb
     simp only [Option.some.injEq] at h
     subst h
     have hb3:=Nat.eq_of_beq_eq_true hb.1.1
     have ht:=(hW.tags s k g (aO hk) hg).1
     obtain ⟨gt,gl⟩:=g
     obtain ⟨rfl,rfl⟩:=l4 hc
     rw [aO hk]
     obtain ⟨k1,k2,k3,k4,k5⟩:=k
     dsimp only at ht hg hb hb3 ⊢
     rw [ht,hg,hb3,hb.1.2,hb.2]
    ·cases h
   ·cases h
  ·cases h
 ·cases h
theorem aEM (hW : aV n0 G μ H w) {e et : TypeId} {t : Ty} {p : PV} {n : Nat} {l : List t.den} (h : QT e et t p H n = some l) :
  p = .hptr n 0∧H[n]? = some (some ⟨[.own (n + 1) t.size],e,false,false,none⟩)∧H[n + 1]? = some (some ⟨aJ t l,et,true,false,some ⟨t,l⟩⟩):=by
 unfold QT at h
 split at h
 ·rename_i s off
  replace h:=aM h
  obtain ⟨hb,h⟩:=h
  simp only [Bool.and_eq_true] at hb
  have h1:=Nat.eq_of_beq_eq_true hb.1
  have h2:=Nat.eq_of_beq_eq_true hb.2
  subst h1; subst h2
  refine ⟨rfl,?_⟩
  split at h
  ·rename_i k hk
   replace h:=aM h
   obtain ⟨hc,h⟩:=h
   simp only [Bool.and_eq_true,Bool.not_eq_true'] at hc
   obtain ⟨⟨⟨c1,c2⟩,c3⟩,c4⟩:=hc
   have c1:=Nat.eq_of_beq_eq_true c1
   split at h
   ·rename_i r sz hcs
    obtain ⟨h3,h4⟩:=mS hW h
    cases h3
    refine ⟨?_,h4⟩
    rw [aO hk]
    obtain ⟨k1,k2,k3,k4,k5⟩:=k
    dsimp only at c1 c2 c3 c4 hcs
    rw [hcs,c1,c2,c3]
    cases k5 with
    | none=>rfl
    | some g=>simp at c4
   ·cases h
  ·cases h
 ·cases h
def aVF (k k' : Blk) : Prop:=k.tag = none∧k'.ty = k.ty∧k'.grown = k.grown∧k'.frozen = k.frozen∧k'.tag = none∧∀ (w : World) (G : Gd) (μ : Mp) (b : Nat),aP w G μ b 0 k.cells→aP w G μ b 0 k'.cells∧k'.cells.length = k.cells.length
def aJR (a b : Option (Option Blk)) : Prop:=a = b ∨ ∃ k k',a = some (some k)∧b = some (some k')∧aVF k k'
theorem aV.aQM (hW : aV n0 G μ H w) {H' : Heap} (h : ∀ r : Nat,aJR H[r]? H'[r]?) : aV n0 G μ H' w:=by
 have key : ∀ (r : Nat) (k' : Blk),H'[r]? = some (some k')→∃ k,H[r]? = some (some k)∧(k = k' ∨ aVF k k')∧k'.frozen = k.frozen:=by
  intro r k' hr
  rcases h r with h1 | ⟨k,k2,h1,h2,h3⟩
  ·exact ⟨k',by rw [h1,hr],.inl rfl,rfl⟩
  ·rw [hr] at h2
   cases h2
   exact ⟨k,h1,.inr h3,h3.2.2.2.1⟩
 refine ⟨?_,?_,?_,hW.lt,?_,hW.base,hW.rows.step (Mono.refl _ _ _) (Nat.le_refl _) (fun _=>rfl) (fun j b hj=>⟨rfl,id,fun r k' hr hf hl=>?_⟩) (fun r k' t l hr hg ht=>?_)⟩
 case refine_5 =>
  obtain ⟨k,h1,_,h3⟩:=key r k' hr
  exact ⟨r,k,h1,by rw [← h3]; exact hf,hl⟩
 case refine_6 =>
  obtain ⟨k,h1,h2,h3⟩:=key r k' hr
  rcases h2 with rfl | ⟨_,_,_,_,e4,_⟩
  ·exact ⟨k,h1,rfl,rfl,rfl,rfl⟩
  ·rw [e4] at ht; cases ht
 ·intro r k' b hr hb
  obtain ⟨k,h1,h2,h3⟩:=key r k' hr
  obtain ⟨c,a1,a2,a3,a4⟩:=hW.blk r k b h1 hb
  rcases h2 with rfl | ⟨_,e1,e2,e3,_,e5⟩
  ·exact ⟨c,a1,a2,a3,a4⟩
  ·obtain ⟨b1,b2⟩:=e5 w G μ b a2
   exact ⟨c,by rw [e1]; exact a1,b1,fun hg=>by rw [b2]; exact a3 (by rw [← e2]; exact hg),by rw [e3]; exact a4⟩
 ·intro r k' g hr hg
  obtain ⟨k,h1,h2,_⟩:=key r k' hr
  rcases h2 with rfl | ⟨_,_,_,_,e4,_⟩
  ·exact hW.tags r k g h1 hg
  ·rw [e4] at hg; cases hg
 ·intro r s k l b hr hs fk fl m1 m2
  obtain ⟨k1,h1,_,h3⟩:=key r k hr
  obtain ⟨l1,h4,_,h6⟩:=key s l hs
  exact hW.inj r s k1 l1 b h1 h4 (by rw [← h3]; exact fk) (by rw [← h6]; exact fl) m1 m2
 ·intro r hr
  refine hW.top r ?_
  rcases Nat.lt_or_ge r H.length with hl | hl
  ·rcases h r with h1 | ⟨k,k',_,h2,_⟩
   ·rw [List.getElem?_eq_none hr,List.getElem?_eq_getElem hl] at h1; cases h1
   ·rw [List.getElem?_eq_none hr] at h2; cases h2
  ·exact hl
theorem aG5 {e : TypeId} {t : Ty} {p : PV} {n : Nat} {x : t.den} (h : aDF e t p H n = some x) : p = .hptr n 0∧aJR H[n]? (some (some ⟨enc t x,e,false,false,none⟩)):=by
 unfold aDF at h
 split at h
 ·rename_i s off
  replace h:=aM h
  obtain ⟨hb,h⟩:=h
  simp only [Bool.and_eq_true] at hb
  have h1:=Nat.eq_of_beq_eq_true hb.1
  have h2:=Nat.eq_of_beq_eq_true hb.2
  subst h1; subst h2
  refine ⟨rfl,?_⟩
  split at h
  ·rename_i k hk
   obtain ⟨hc,h⟩:=aM h
   simp only [Bool.and_eq_true,Bool.not_eq_true'] at hc
   obtain ⟨⟨⟨c1,c2⟩,c3⟩,c4⟩:=hc
   have c1:=Nat.eq_of_beq_eq_true c1
   refine .inr ⟨k,_,aO hk,rfl,by simpa using c4,c1.symm,c2.symm,c3.symm,rfl,?_⟩
   intro w G μ b hc
   obtain ⟨vs,d1,d2⟩:=hc.values
   have d3:=oG t μ k.cells x vs h d1
   exact ⟨aP.iH d3.bD d2,by rw [d3.length,d1.length]⟩
  ·cases h
 ·cases h
theorem a2I (t : Option Ty) (μ : Mp) (cs : List PV) (x : aTM t) (vs : List Value) (h : bDI t cs = some x) (hv : VRs w G μ cs vs) : VRs w G aL (aYY t x) vs:=by
 cases t with
 | none =>
  cases cs with
  | nil=>rw [VRs] at hv; rw [aYY,VRs]; exact hv
  | cons p ps=>cases h
 | some t=>exact oG t μ cs x vs h hv
theorem aJE (hW : aV n0 G μ H w) {e : TypeId} {t1 : Ty} {et : TypeId} {t : Ty} {t2 : Option Ty} {p : PV} {n : Nat} {x : t1.den×List t.den×aTM t2} (h : aCD e t1 et t t2 p H n = some x) :
  p = .hptr n 0∧aJR H[n]? (some (some ⟨enc t1 x.1 ++ .own (n + 1) t.size :: aYY t2 x.2.2,e,false,false,none⟩))∧H[n + 1]? = some (some ⟨aJ t x.2.1,et,true,false,some ⟨t,x.2.1⟩⟩):=by
 unfold aCD at h
 split at h
 ·rename_i s off
  replace h:=aM h
  obtain ⟨hb,h⟩:=h
  simp only [Bool.and_eq_true] at hb
  have h1:=Nat.eq_of_beq_eq_true hb.1
  have h2:=Nat.eq_of_beq_eq_true hb.2
  subst h1; subst h2
  refine ⟨rfl,?_⟩
  split at h
  ·rename_i k hk
   obtain ⟨hc,h⟩:=aM h
   simp only [Bool.and_eq_true,Bool.not_eq_true'] at hc
   obtain ⟨⟨⟨c1,c2⟩,c3⟩,c4⟩:=hc
   have c1:=Nat.eq_of_beq_eq_true c1
   split at h
   ·rename_i r sz rest hd
    split at h
    ·rename_i xa xl xb ha hl hbb
     simp only [Option.some.injEq] at h
     subst h
     obtain ⟨h3,h4⟩:=mS hW hl
     cases h3
     refine ⟨.inr ⟨k,_,aO hk,rfl,by simpa using c4,c1.symm,c2.symm,c3.symm,rfl,?_⟩,h4⟩
     intro w G μ b hc
     obtain ⟨vs,d1,d2⟩:=hc.values
     have d3:=d1.take t1.size
     have d4:=d1.drop t1.size
     rw [hd,VRs] at d4
     obtain ⟨v,vc,e1,d5,d6⟩:=d4
     have d7:=oG t1 μ _ xa _ ha d3
     have d8:=a2I t2 μ _ xb vc hbb d6
     have d9 : VRs w G μ (enc t1 xa ++ .own (s + 1) t.size :: aYY t2 xb) (vs.take t1.size ++ v :: vc):=VRs.append d7.bD (by rw [VRs]; exact ⟨v,vc,rfl,d5,d8.bD⟩)
     rw [← e1,List.take_append_drop] at d9
     exact ⟨aP.iH d9 d2,by rw [d9.length,d1.length]⟩
    ·cases h
   ·cases h
  ·cases h
 ·cases h
theorem aD1 (hW : aV n0 G μ H w) {e : TypeId} {t1 : Ty} {et : TypeId} {t : Ty} {eu : TypeId} {u : Ty} {p : PV} {n : Nat} {x : t1.den×List t.den×List u.den} (h : SP e t1 et t eu u p H n = some x) :
  p = .hptr n 0∧aJR H[n]? (some (some ⟨enc t1 x.1 ++ [.own (n + 1) t.size,.own (n + 2) u.size],e,false,false,none⟩))∧H[n + 1]? = some (some ⟨aJ t x.2.1,et,true,false,some ⟨t,x.2.1⟩⟩)∧H[n + 2]? = some (some ⟨aJ u x.2.2,eu,true,false,some ⟨u,x.2.2⟩⟩):=by
 unfold SP at h
 split at h
 ·rename_i s off
  replace h:=aM h
  obtain ⟨hb,h⟩:=h
  simp only [Bool.and_eq_true] at hb
  have h1:=Nat.eq_of_beq_eq_true hb.1
  have h2:=Nat.eq_of_beq_eq_true hb.2
  subst h1; subst h2
  refine ⟨rfl,?_⟩
  split at h
  ·rename_i k hk
   obtain ⟨hc,h⟩:=aM h
   simp only [Bool.and_eq_true,Bool.not_eq_true'] at hc
   obtain ⟨⟨⟨c1,c2⟩,c3⟩,c4⟩:=hc
   have c1:=Nat.eq_of_beq_eq_true c1
   split at h
   ·rename_i r sz r2 sz2 hd
    split at h
    ·rename_i xa xl xb ha hl hbb
     simp only [Option.some.injEq] at h
     subst h
     obtain ⟨h3,h4⟩:=mS hW hl
     cases h3
     obtain ⟨h5,h6⟩:=mS hW hbb
     cases h5
     refine ⟨.inr ⟨k,_,aO hk,rfl,by simpa using c4,c1.symm,c2.symm,c3.symm,rfl,?_⟩,h4,h6⟩
     intro w G μ b hc
     obtain ⟨vs,d1,d2⟩:=hc.values
     have d3:=d1.take t1.size
     have d4:=d1.drop t1.size
     rw [hd] at d4
     have d7:=oG t1 μ _ xa _ ha d3
     have d9 : VRs w G μ (enc t1 xa ++ [.own (s + 1) t.size,.own (s + 2) u.size]) (vs.take t1.size ++ vs.drop t1.size):=VRs.append d7.bD d4
     rw [List.take_append_drop] at d9
     exact ⟨aP.iH d9 d2,by rw [d9.length,d1.length]⟩
    ·cases h
   ·cases h
  ·cases h
 ·cases h
theorem aMS {g : Tg} {b : Ty} {l' : List b.den} (h : vW g.t b g.l = some l') : g = ⟨b,l'⟩:=by
 obtain ⟨a,l⟩:=g
 unfold vW at h
 split at h
 ·rename_i e
  dsimp only at e
  subst e
  simp only [Option.some.injEq] at h
  rw [← h]
 ·cases h
theorem aNA (hW : aV n0 G μ H w) {e : TypeId} {t : Ty} {n : Nat} {l : List (List t.den)} (h : aQU e t H n = some l) : H[n]? = some (some ⟨aJ (.rows t) l,e,false,false,some ⟨.rows t,l⟩⟩):=by
 unfold aQU at h
 split at h
 ·rename_i k hk
  split at h
  ·rename_i g hg
   split at h
   ·rename_i l' hc
    obtain ⟨hb,h⟩:=aM h
    simp only [Bool.and_eq_true,Bool.not_eq_true'] at hb
    simp only [Option.some.injEq] at h
    have hb3:=Nat.eq_of_beq_eq_true hb.1.1
    have ht:=(hW.tags n k g (aO hk) hg).1
    have hge:=aMS hc
    rw [hge] at hg ht
    rw [← h,aO hk]
    obtain ⟨k1,k2,k3,k4,k5⟩:=k
    dsimp only at ht hg hb hb3 ⊢
    rw [ht,hg,hb3,hb.1.2,hb.2]
   ·cases h
  ·cases h
 ·cases h
theorem IG {t : Ty} {p : PV} {x : t.den} {v : Value} (h : aHI t p = some x) (hv : VR w G μ p v) : VR w G aL (.iptr (enc t x)) v:=by
 unfold aHI at h
 split at h
 ·rename_i cs
  rw [VR] at hv ⊢
  obtain ⟨b,off,h1,h2,h3⟩:=hv
  obtain ⟨vs,d1,d2⟩:=h3.values
  exact ⟨b,off,h1,h2,aP.iH (oG t aL cs x vs h d1) d2⟩
 ·cases h
theorem aBB : ∀ (ts : List Ty) {ps : List PV} {x : tN ts} {vs : List Value},a10 ts ps = some x→VRs w G μ ps vs→VRs w G aL (HK ts x) vs
 | [],[],x,vs,h,hv=>by rw [VRs] at hv; simp only [HK]; rw [VRs]; exact hv
 | [],_ :: _,x,vs,h,hv=>by cases h
 | _ :: _,[],x,vs,h,hv=>by cases h
 | t :: r,p :: ps,x,vs,h,hv=>by
  simp only [a10] at h
  split at h
  ·rename_i y hy
   split at h
   ·rename_i ys hys
    simp only [Option.some.injEq] at h
    subst h
    rw [VRs] at hv
    obtain ⟨u,us,h1,h2,h3⟩:=hv
    simp only [HK]
    rw [VRs]
    exact ⟨u,us,h1,IG hy h2,aBB r hys h3⟩
   ·cases h
  ·cases h
theorem R3 {p : PV} {x : Unit} (h : aNC p = some x) : p = .lit (.slice none 0 0):=by
 unfold aNC at h
 split at h
 ·rename_i o c
  cases hb : (Nat.beq o 0 && Nat.beq c 0) with
  | false=>rw [hb] at h; cases h
  | true =>
   simp only [Bool.and_eq_true] at hb
   rw [Nat.eq_of_beq_eq_true hb.1,Nat.eq_of_beq_eq_true hb.2]
 ·cases h
theorem XO {j : Nat} {p : PV} {x : Unit} (h : aVO j p = some x) : p = .mp j:=by
 unfold aVO at h
 split at h
 ·rename_i i
  rw [Nat.eq_of_beq_eq_true (aM h).1]
 ·cases h
theorem LW {g : FuncId} {p : PV} {x : Unit} (h : aQL g p = some x) : p = .lit (.func (.func g) #[] #[]):=by
 unfold aQL at h
 split at h
 ·rename_i f first caps
  replace h:=(aM h).1
  simp only [Bool.and_eq_true] at h
  have h1:=Nat.eq_of_beq_eq_true h.1.1
  have h2:=Array.eq_empty_of_size_eq_zero (Nat.eq_of_beq_eq_true h.1.2)
  have h3:=Array.eq_empty_of_size_eq_zero (Nat.eq_of_beq_eq_true h.2)
  rw [h1,h2,h3]
 ·cases h
theorem IE {g : FuncId} {ts : List Ty} {p : PV} {x : tN ts} {v : Value} (h : aHN g ts p = some x) (hv : VR w G μ p v) : VR w G aL (.clo (.func g) [] (HK ts x)) v:=by
 unfold aHN at h
 split at h
 ·rename_i f caps
  have h1:=Nat.eq_of_beq_eq_true (aM h).1
  have h2:=(aM h).2
  subst h1
  rw [VR] at hv ⊢
  obtain ⟨fs,cs,e1,e2,e3⟩:=hv
  exact ⟨fs,cs,e1,by rw [VRs] at e2 ⊢; exact e2,aBB ts h2 e3⟩
 ·cases h
theorem TE {j sz : Nat} {p : PV} {x : Nat×Nat} (h : aNP j sz p = some x) : p = .win j x.1 x.2 sz:=by
 unfold aNP at h
 split at h
 ·replace h:=aM h
  obtain ⟨hb,h⟩:=h
  simp only [Bool.and_eq_true] at hb
  have h1:=Nat.eq_of_beq_eq_true hb.1
  have h2:=Nat.eq_of_beq_eq_true hb.2
  simp only [Option.some.injEq] at h
  rw [← h,h1,h2]
 ·cases h
theorem aPM (hW : aV n0 G μ H w) : ∀ (k : Kd) {p : PV} {n : Nat} {x : k.den} {v : Value},VV k p H n = some x→VR w G μ p v→VR w G μ (oR k x n) v∧∀ i : Nat,i < k.pos→aJR H[n + i]? (bBZ k x n)[i]?
 | .int k,p,n,x,v,h,hv=>by
  have:=LZ h
  simp only [List.cons.injEq,and_true] at this
  subst this
  exact ⟨hv,fun i hi=>absurd hi (Nat.not_lt_zero _)⟩
 | .bool,p,n,x,v,h,hv=>by
  have:=HI h
  simp only [List.cons.injEq,and_true] at this
  subst this
  exact ⟨hv,fun i hi=>absurd hi (Nat.not_lt_zero _)⟩
 | .str,p,n,x,v,h,hv=>by
  have:=L0 h
  simp only [List.cons.injEq,and_true] at this
  subst this
  exact ⟨hv,fun i hi=>absurd hi (Nat.not_lt_zero _)⟩
 | .list t,p,n,x,v,h,hv=>by
  have:=oG (.list t) μ [p] x [v] h (by rw [VRs]; exact ⟨v,[],rfl,hv,by rw [VRs]⟩)
  refine ⟨?_,fun i hi=>absurd hi (Nat.not_lt_zero _)⟩
  simp only [enc] at this
  rw [VRs] at this
  obtain ⟨y,ys,h1,h2,_⟩:=this
  cases h1
  exact h2.bD
 | .agg t,p,n,x,v,h,hv=>by
  refine ⟨?_,fun i hi=>absurd hi (Nat.not_lt_zero _)⟩
  simp only [VV] at h
  unfold aNL at h
  split at h
  ·rename_i cs
   rw [VR] at hv
   obtain ⟨vs,rfl,h2⟩:=hv
   simp only [oR]
   rw [VR]
   exact ⟨vs,rfl,(oG t μ cs x vs.toList h h2).bD⟩
  ·cases h
 | .own e t,p,n,x,v,h,hv=>by
  obtain ⟨rfl,h2⟩:=mS hW h
  refine ⟨hv,fun i hi=>?_⟩
  simp only [Kd.pos] at hi
  have : i = 0:=by omega
  subst this
  simp only [Nat.add_zero,h2]
  exact .inl rfl
 | .box e t,p,n,x,v,h,hv=>by
  obtain ⟨rfl,h2⟩:=aG5 h
  refine ⟨hv,fun i hi=>?_⟩
  simp only [Kd.pos] at hi
  have : i = 0:=by omega
  subst this
  exact h2
 | .ptr t,p,n,x,v,h,hv=>⟨(IG h hv).bD,fun i hi=>absurd hi (Nat.not_lt_zero _)⟩
 | .fn g,p,n,x,v,h,hv=>by
  have:=LW h
  subst this
  exact ⟨hv,fun i hi=>absurd hi (Nat.not_lt_zero _)⟩
 | .mpk j,p,n,x,v,h,hv=>by
  have:=XO h
  subst this
  exact ⟨hv,fun i hi=>absurd hi (Nat.not_lt_zero _)⟩
 | .nil0,p,n,x,v,h,hv=>by
  have:=R3 h
  subst this
  exact ⟨hv,fun i hi=>absurd hi (Nat.not_lt_zero _)⟩
 | .val,p,n,x,v,h,hv=>by
  have:=SQ (p:=p) (x:=x) h
  subst this
  exact ⟨hv,fun i hi=>absurd hi (Nat.not_lt_zero _)⟩
 | .nilI,p,n,x,v,h,hv=>by
  have:=OG (p:=p) (x:=x) h
  subst this
  exact ⟨hv,fun i hi=>absurd hi (Nat.not_lt_zero _)⟩
 | .clo g ts,p,n,x,v,h,hv=>⟨(IE h hv).bD,fun i hi=>absurd hi (Nat.not_lt_zero _)⟩
 | .win j sz,p,n,x,v,h,hv=>by
  have:=TE h
  subst this
  exact ⟨hv,fun i hi=>absurd hi (Nat.not_lt_zero _)⟩
 | .bown e et t,p,n,x,v,h,hv=>by
  obtain ⟨rfl,h2,h3⟩:=aEM hW h
  refine ⟨hv,fun i hi=>?_⟩
  simp only [Kd.pos] at hi
  rcases (show i = 0 ∨ i = 1 by omega) with rfl | rfl
  ·simp only [Nat.add_zero,h2]
   exact .inl rfl
  ·simp only [h3]
   exact .inl rfl
 | .bag e t1 et t t2,p,n,x,v,h,hv=>by
  obtain ⟨rfl,h2,h3⟩:=aJE hW h
  refine ⟨hv,fun i hi=>?_⟩
  simp only [Kd.pos] at hi
  rcases (show i = 0 ∨ i = 1 by omega) with rfl | rfl
  ·exact h2
  ·simp only [h3]
   exact .inl rfl
 | .bag2 e t1 et t eu u,p,n,x,v,h,hv=>by
  obtain ⟨rfl,h2,h3,h4⟩:=aD1 hW h
  refine ⟨hv,fun i hi=>?_⟩
  simp only [Kd.pos] at hi
  rcases (show i = 0 ∨ i = 1 ∨ i = 2 by omega) with rfl | rfl | rfl
  ·exact h2
  ·simp only [h3]
   exact .inl rfl
  ·simp only [h4]
   exact .inl rfl
 | .hnd sz,p,n,x,v,h,hv=>by
  refine ⟨?_,fun i hi=>absurd hi (Nat.not_lt_zero _)⟩
  have:=UZ (μ:=μ) (vs:=[v]) h (by rw [VRs]; exact ⟨v,[],rfl,hv,by rw [VRs]⟩)
  rw [VRs] at this
  obtain ⟨y,ys,h1,h2,_⟩:=this
  cases h1
  exact h2.bD
 | .ar e t,p,n,x,v,h,hv=>by
  have h2:=aNA hW h
  refine ⟨by simp only [oR]; rw [VR]; trivial,fun i hi=>?_⟩
  simp only [Kd.pos] at hi
  have : i = 0:=by omega
  subst this
  simp only [Nat.add_zero,h2]
  exact .inl rfl
theorem DE : ∀ (k : Kd) (x : k.den) (n : Nat),(bBZ k x n).length = k.pos
 | .int _,_,_ | .bool,_,_ | .str,_,_ | .list _,_,_ | .agg _,_,_ | .ptr _,_,_ | .fn _,_,_ | .nil0,_,_ | .val,_,_ | .nilI,_,_ | .clo _ _,_,_ | .win _ _,_,_ | .hnd _,_,_ | .mpk _,_,_=>rfl
 | .ar _ _,_,_=>rfl
 | .own _ _,_,_=>rfl
 | .box _ _,_,_=>rfl
 | .bown _ _ _,_,_=>rfl
 | .bag _ _ _ _ _,_,_=>rfl
 | .bag2 _ _ _ _ _ _,_,_=>rfl
theorem SU : ∀ (sh : List (Nat×Kd)) (x : Shape.den sh) (n : Nat),(aE0 sh x n).length = aEJ sh
 | [],_,_=>rfl
 | (_,k) :: r,(x,xs),n=>by simp only [aE0,List.length_append,DE,SU r xs,aEJ]
theorem W7 (sh : List (Nat×Kd)) (x : Shape.den sh) : (wQ sh x).length = aEJ sh:=SU sh x 0
theorem OM (hW : aV n0 G μ H w) (hF : ∀ t,VR w G μ (cQ F t) (a.tmps.getD t undef)) : ∀ (sh : List (Nat×Kd)) {n : Nat} {x : Shape.den sh},aWP sh F H n = some x→(∀ t,VR w G μ (cQ (pJ sh x n) t) (a.tmps.getD t undef))∧∀ i : Nat,i < aEJ sh→aJR H[n + i]? (aE0 sh x n)[i]?
 | [],n,x,h=>⟨fun t=>by simp only [pJ,cQ]; rw [VR]; trivial,fun i hi=>absurd hi (Nat.not_lt_zero _)⟩
 | (t,k) :: r,n,x,h=>by
  simp only [aWP] at h
  split at h
  ·rename_i y hy
   split at h
   ·rename_i ys hys
    simp only [Option.some.injEq] at h
    subst h
    obtain ⟨h1,h2⟩:=aPM hW k hy (hF t)
    obtain ⟨h3,h4⟩:=OM hW hF r hys
    refine ⟨fun s=>?_,fun i hi=>?_⟩
    ·simp only [pJ]
     rw [eI]
     by_cases hs : s = t
     ·subst hs; rw [if_pos rfl]; exact h1
     ·rw [if_neg hs]; exact h3 s
    ·simp only [aE0]
     rcases Nat.lt_or_ge i k.pos with hl | hl
     ·rw [List.getElem?_append_left (by rw [DE]; exact hl)]
      exact h2 i hl
     ·rw [List.getElem?_append_right (by rw [DE]; exact hl),DE]
      have:=h4 (i - k.pos) (by simp only [aEJ] at hi; omega)
      have e1 : n + k.pos + (i - k.pos) = n + i:=by omega
      rwa [e1] at this
   ·cases h
  ·cases h
theorem rQ : ∀ (sh : List (Nat×Kd)) (F : Frm) (H : Heap),I n0 wi Gi μi nt F H a w→I n0 wi Gi μi nt (rC sh F H).1 (rC sh F H).2 a w
 | [],F,H,hI=>hI
 | (t,k0) :: r,F,H,hI=>by
  have skip : I n0 wi Gi μi nt (rC r F H).1 (rC r F H).2 a w:=rQ r F H hI
  unfold rC
  split
  ·exact hI
  ·rename_i heq
   cases heq
   split
   ·rename_i s sz ht
    split
    ·rename_i k hk
     split
     ·rename_i g hg
      obtain ⟨G,μ,e,hW,hF⟩:=hI
      have hv:=hF.slot t
      rw [ht] at hv
      cases hfz : k.frozen with
      | true =>
       simp only [cond_true]
       refine rQ r _ _ ⟨G,μ,e,hW,hF.named ?_⟩
       exact (B3 hW hv hk hg (fun b h=>h) (fun b hb=>by
        obtain ⟨_,_,_,_,h5,_⟩:=hW.blk s k b (aO hk) hb
        exact h5 hfz)).bD
      | false =>
       simp only [cond_false]
       obtain ⟨e1,w1⟩:=KV hW (aO hk) hfz
       refine rQ r _ _ ⟨_,μ,e.trans e1,w1,(hF.mono e1.toMono).named ?_⟩
       exact (B3 (G':=G.or fun x=>μ.loc s = some x) hW hv hk hg (fun b h=>.inl h) (fun b hb=>.inr hb)).bD
     ·exact skip
    ·exact skip
   ·exact skip
  ·rename_i heq
   cases heq
   split
   ·rename_i s sz2 ht
    cases hsz : Nat.beq sz2 _ with
    | true =>
     simp only [cond_true]
     have hsz:=Nat.eq_of_beq_eq_true hsz
     subst hsz
     split
     ·rename_i q H1 hA
      obtain ⟨G,μ,e,hW,hF⟩:=hI
      have hv:=hF.slot t
      rw [ht] at hv
      obtain ⟨G',μ',e1,w1,v1⟩:=RA hW hA hv
      exact rQ r _ _ ⟨G',μ',e.trans e1,w1,(hF.mono e1.toMono).named v1.bD⟩
     ·exact skip
    | false=>exact skip
   ·exact skip
  ·rename_i heq
   cases heq
   exact skip
theorem sU {sh : List (Nat×Kd)} {x : Shape.den sh} (h : D2 sh F H = some x) (hfl : ∀ r,μi.loc r = none∧μi.len r = none) (hI : I n0 wi Gi μi nt F H a w) : I n0 wi Gi μi nt (pJ sh x 0) (wQ sh x) a w:=by
 unfold D2 at h
 replace hI:=rQ sh F H hI
 split at h
 rename_i F1 H1 hd
 rw [hd] at hI
 split at h
 ·rename_i F' H' ht
  obtain ⟨hb,h⟩:=aM h
  obtain ⟨⟨G,μ,e,hW,hF⟩,_⟩:=aNE ht (fun r _=>hfl r) hI
  obtain ⟨h1,h2⟩:=OM hW hF.slot sh h
  have hH : ∀ i : Nat,aJR H'[i]? (wQ sh x)[i]?:=by
   intro i
   rcases Nat.lt_or_ge i (aEJ sh) with hl | hl
   ·have:=h2 i hl
    rwa [Nat.zero_add] at this
   ·have e1:=Nat.eq_of_beq_eq_true hb
    exact .inl (by rw [List.getElem?_eq_none (by omega),List.getElem?_eq_none (by rw [W7]; omega)])
  exact ⟨G,μ,e,hW.aQM hH,hF.size,h1,hF.defers⟩
 ·cases h
end
end Go.PM
set_option linter.unusedSimpArgs false
set_option linter.unusedVariables false
namespace Go.PM
open Go Go.RowKit
def ask {α : Type} (b : Bool) (k : Bool→Option α) : Option α:=bif b then k true else k false
def KB {α : Type} : List Bool→Option α→Option α
 | [],r=>r
 | b :: l,r=>bif b then KB l r else none
def aB {τ α : Type} (x : Option τ) (k : τ→Option α) : Option α:=match x with
 | some x=>k x
 | none=>none
def gY {β γ α : Type} (z : β ⊕ γ) (f : β→Option α) (g : γ→Option α) : Option α:=match z with
 | .inl a=>f a
 | .inr b=>g b

structure Res where
 τ : Type
 val : Option τ
 out : τ→PV
structure aM8 where
 τ : Type
 val : Option τ
 out : τ→PV×Heap
structure Env where
 pure : FuncId→List PV→Option Res
 shr : FuncId→List PV→Heap→Option aM8
 sh : FuncId→Bool
def aBO (E : Env) (g : FuncId) (args : List PV) : Option PV:=match E.pure g args with
 | some r=>match r.val with
  | some x=>some (r.out x)
  | none=>none
 | none=>none
def aAW (E : Env) (g : FuncId) (args : List PV) (H : Heap) : Option (PV×Heap):=match E.shr g args H with
 | some r=>match r.val with
  | some x=>some (r.out x)
  | none=>none
 | none=>none
def dR (P : Program) (E : Env) : Callee:=callee P E.sh (aBO E) (aAW E)

section
variable {α : Type} (P : Program) (E : Env)
def a2R (g : FuncId) (args : List PV) (H : Heap) (k : PV→Heap→Nat→Option α) : Option α :=
 bif E.sh g then match E.shr g args H with
  | some r=>aB r.val fun x=>k (r.out x).1 (r.out x).2 2
  | none=>none
 else bif c6.noRefs args then bif dK.noRows args then match E.pure g args with
  | some r=>aB r.val fun x=>k (r.out x) H 0
  | none=>none
  else none
 else bif U0 P g then match HU (fun p=>inl false H depth p) args with
  | some qs=>bif dK.noRows qs then match E.pure g qs with
   | some r=>aB r.val fun x=>bif flat (r.out x) then k (r.out x) H 1 else none
   | none=>none
   else none
  | none=>none
 else match B8 H (args.flatMap (fun p=>reach H depth p)) with
  | H1=>match HU (fun p=>inl true H1 depth p) args with
   | some qs=>bif dK.noRows qs then match E.pure g qs with
    | some r=>aB r.val fun x=>k (r.out x) H1 2
    | none=>none
    else none
   | none=>none
def aXI : Frm→Nat→Bool→Frm
 | [],_,_=>[]
 | (s,p) :: r,t,b=>bif Nat.beq s t then (s,.lit (.bool b)) :: r else (s,p) :: aXI r t b
def aOL (F : Frm) (x : Operand) (b : Bool) (k : Frm→Bool→Option α) : Option α:=match x with
 | .tmp t=>ask b fun b=>k (aXI F t b) b
 | _=>ask b fun b=>k F b
def aIN (F : Frm) (l : List Oper) (o : Oper) (k : Frm→Bool→Option α) : Option α :=
 match o.guard with
 | none=>k F true
 | some (j,want)=>match l[j]? with
  | some p=>match p.dst with
   | some t=>match cQ F t with
    | .lit (.bool b)=>ask b fun b=>k (aXI F t b) (bif b then want else !want)
    | .lit _=>k F false
    | _=>none
   | none=>none
  | none=>none
def bAM (op : BinOp) (k1 : IntKind) (a b : Int) (k : Value→Option α) : Option α:=match op with
 | .quo=>bif eqI b 0 then none else k (.int k1 (aE k1 (a.tdiv b)))
 | .rem=>bif eqI b 0 then none else k (.int k1 (a.tmod b))
 | op=>match aMJ op k1 a b with
  | some v=>k v
  | none=>none
def isX : BinOp→Bool
 | .add | .sub | .mul | .quo | .rem | .eql | .neq | .lss | .leq | .gtr | .geq=>true
 | _=>false
def aIX : BinOp→Bool
 | .shl | .shr=>true
 | _=>false
def aNO (op : BinOp) (k : IntKind) (x y : Int) : Option Value:=match op with
 | .shl=>some (.int k (k.wrap (x * 2 ^ (min y.toNat k.bits))))
 | .shr=>some (.int k (x.fdiv (2 ^ (min y.toNat k.bits))))
 | _=>none
def ON (F : Frm) (H : Heap) (o : Oper) (k : Frm→PV→Heap→Nat→Option α) : Option α:=match opu P (dR P E) F H o with
 | some (v,H',c)=>k F v H' c
 | none=>none
def aWF (F : Frm) (x : Operand) (k : Frm→Option α) : Option α:=match ev F x with
 | .lit (.bool b)=>aOL F x b fun F _=>k F
 | _=>k F
def aG8 : List Operand→Frm→(Frm→Option α)→Option α
 | [],F,k=>k F
 | x :: r,F,k=>aWF F x fun F=>aG8 r F k
def opK (F : Frm) (H : Heap) (o : Oper) (k : Frm→PV→Heap→Nat→Option α) : Option α :=
 bif typed P F o then match top P F H o with
  | some (cs,v,H',c)=>KB cs (k F v H' c)
  | none=>none
 else match o.op with
  | .binOp op _ x y _=>match ev F x,ev F y with
   | .lit (.int k1 a),.lit (.int k2 b)=>bif aIX op then (bif ltI b 0 then none else match aNO op k1 a b with
     | some v=>k F (.lit v) H 0
     | none=>none)
    else bif zA k1 k2 && isX op then bAM op k1 a b fun v=>k F (.lit v) H 0 else ON P E F H o k
   | _,_=>aG8 [x,y] F fun F=>ON P E F H o k
  | .unOp ..=>aG8 o.op.operands.toList F fun F=>ON P E F H o k
  | .pick c a b=>match ev F c with
   | .lit (.bool t)=>aOL F c t fun F t=>k F (bif t then ev F a else ev F b) H 0
   | _=>none
  | .call c=>match c.callee with
   | .value f=>match ev F f with
    | .lit (.func (.func g) first caps)=>a2R P E g (lits first ++ c.args.toList.map (ev F) ++ lits caps) H (k F)
    | .clo (.func g) first caps=>a2R P E g (first ++ c.args.toList.map (ev F) ++ caps) H (k F)
    | _=>none
   | _=>ON P E F H o k
  | _=>ON P E F H o k
def U5 : Nat→Nat→Int→(Int→Option α)→Option α
 | 0,_,_,_=>none
 | n + 1,j,v,f=>bif eqI v (j : Int) then f j else U5 n (j + 1) v f
def bBM (t : TypeId) : Option Nat:=match P.underlying t with
 | some (.array n _)=>some n
 | _=>none
def a6J : PV→Bool
 | .hptr _ _ | .iptr _=>true
 | _=>false
def bC0 : PV→Bool
 | .agg _=>true
 | _=>false
def xIdx (H : Heap) (t : TypeId) (p : PV) (i : Int) : Option (PV×Heap×Nat):=match p,P.underlying t with
 | .agg cs,some (.array n e)=>match k9 P e with
  | some sz=>bif aQ i n then p0 H (rF P e (cs.drop (i.toNat * sz))) else none
  | none=>none
 | _,_=>none
def a9Y (l : List Oper) (F : Frm) (H : Heap) (o : Oper) (k : Frm→PV→Heap→Nat→Option α) : Option α:=match o.op with
 | .makeSlice t n c=>bif aB9 l o.dst then (match FB P H t (ev F n) (ev F c) with
   | some (cs,v,H',c')=>KB cs (k F v H' c')
   | none=>none) else opK P E F H o k
 | .indexAddr t x i=>match bBM P t,ev F i with
  | some n,.lit (.int _ v)=>bif aEX (ev F x) then U5 n 0 v (fun j=>match lU P H t (ev F x) j with
    | some (cs,p,H',c)=>KB cs (k F p H' c)
    | none=>none) else bif a6J (ev F x) then U5 n 0 v (fun j=>match p0 H (GX P t (ev F x) j) with
    | some (p,H',c)=>k F p H' c
    | none=>none) else opK P E F H o k
  | _,_=>opK P E F H o k
 | .index t x i=>match bBM P t,ev F i with
  | some n,.lit (.int _ v)=>bif bC0 (ev F x) then U5 n 0 v (fun j=>match xIdx P H t (ev F x) j with
    | some (p,H',c)=>k F p H' c
    | none=>none) else opK P E F H o k
  | _,_=>opK P E F H o k
 | .slice t x lo hi none=>match ev F x with
  | .own r sz=>match aHF H r,P.underlying t with
   | some g,some (.slice e)=>bif aAB g.t then (match k9 P e with
    | some n=>bif Nat.beq n sz then ask (Nat.beq g.l.length 0) fun z=>(match YT g H r sz (lo.map (ev F)) (hi.map (ev F)) z with
      | some (cs,v,H',c)=>KB cs (k F v H' c)
      | none=>none) else none
    | none=>none) else opK P E F H o k
   | _,_=>opK P E F H o k
  | _=>opK P E F H o k
 | _=>opK P E F H o k
def aJT (l : List Oper) (o : Oper) (F : Frm) (H : Heap) (k : Frm→PV→Heap→Nat→Option α) : Option α :=
 aIN F l o fun F b=>bif b then (match mkData P F l o with
  | none=>a9Y P E l F H o k
  | some none=>none
  | some (some (cs,v))=>KB cs (k F v H 0)) else k F (.lit undef) H 0
def AG (nt : Nat) (l : List Oper) : List Oper→Frm→Heap→(Frm→Heap→Option α)→Option α
 | [],F,H,k=>k F H
 | o :: rest,F,H,k=>aJT P E l o F H fun F v H' _=>match GI nt F o.dst v with
  | some F'=>AG nt l rest F' H' k
  | none=>none
def stK (nt : Nat) (m : Option Nat) (ms : List Nat) (l : List Oper) : List Oper→Nat→Frm→Heap→aCM→(Frm→Heap→aCM→Option α)→Option α
 | [],_,F,H,hl,k=>k F H hl
 | o :: rest,j,F,H,hl,k=>match zF m o j with
  | none=>aJT P E l o F H fun F v H' c=>bif okT m (ms.getD j 0) j (aMF F o) c v H' then (match GI nt F o.dst v with
   | some F'=>stK nt m ms l rest (j + 1) F' H' (bif Nat.beq c 0 then hl else (j,c,aMF F o) :: hl) k
   | none=>none) else none
  | some q=>bif UR o then (bif c6.noRefs (o.op.operands.toList.map (ev F)) && dK.noRows (o.op.operands.toList.map (ev F)) then aJT P E l o F [] fun F v X _=>match aE9 q v X H with
    | some (v,H',c)=>bif okT m (ms.getD j 0) j (some q) c v H' then (match GI nt F o.dst v with
     | some F'=>stK nt m ms l rest (j + 1) F' H' (bif Nat.beq c 0 then hl else (j,c,some q) :: hl) k
     | none=>none) else none
    | none=>none else none)
   else match stepT (some q) P (dR P E) l o F H with
   | some (v,H',c)=>bif okT m (ms.getD j 0) j (some q) c v H' then (match GI nt F o.dst v with
    | some F'=>stK nt m ms l rest (j + 1) F' H' ((j,2,some q) :: hl) k
    | none=>none) else none
   | none=>none
def sX (nt : Nat) (ops : Array Oper) (draw : Bool) (F : Frm) (H : Heap) (k : Frm→Heap→Option α) : Option α :=
 bif draw then (bif KZ ops && aIT (HH ops H) F H then stK P E nt (HH ops H) (iD ops) ops.toList ops.toList 0 F (aPF (HH ops H) ops.toList.length H) [] fun F H hl=>bif OV (iD ops) hl then k F H else none else none)
 else AG P E nt ops.toList ops.toList F H k
end
section
variable {α : Type} {P : Program} {E : Env} {z : α}
theorem RV {b : Bool} {k : Bool→Option α} (h : ask b k = some z) : k b = some z:=by cases b <;> exact h
theorem uD : ∀ {l : List Bool} {r : Option α},KB l r = some z→uK l = true∧r = some z
 | [],r,h=>⟨rfl,h⟩
 | b :: l,r,h=>by
  simp only [KB] at h
  obtain ⟨rfl,h⟩:=aM h
  exact uD (l:=l) h
theorem n9 {τ : Type} {x : Option τ} {k : τ→Option α} (h : aB x k = some z) : ∃ y,x = some y∧k y = some z:=by
 cases x with
 | none=>cases h
 | some y=>exact ⟨y,rfl,h⟩
theorem aGI {g : FuncId} {args : List PV} {H : Heap} {k : PV→Heap→Nat→Option α} (h : a2R P E g args H k = some z) : ∃ v H' c,dR P E g args H = some (v,H',c)∧k v H' c = some z:=by
 unfold a2R at h
 unfold dR callee
 cases hsh : E.sh g with
 | true =>
  rw [hsh] at h
  simp only [cond_true] at h ⊢
  split at h
  ·rename_i r hr
   obtain ⟨x,h1,h2⟩:=n9 h
   exact ⟨_,_,_,by simp only [aAW,hr,h1],h2⟩
  ·cases h
 | false =>
  rw [hsh] at h
  simp only [cond_false] at h ⊢
  cases hn : c6.noRefs args with
  | true =>
   rw [hn] at h
   simp only [cond_true] at h ⊢
   obtain ⟨hnr,h⟩:=aM h
   split at h
   ·rename_i r hr
    obtain ⟨x,h1,h2⟩:=n9 h
    exact ⟨_,_,_,by simp only [hnr,cond_true,aBO,hr,h1],h2⟩
   ·cases h
  | false =>
   rw [hn] at h
   simp only [cond_false] at h ⊢
   cases hf : U0 P g with
   | true =>
    rw [hf] at h
    simp only [cond_true] at h ⊢
    split at h
    ·rename_i qs hq
     obtain ⟨hnr,h⟩:=aM h
     split at h
     ·rename_i r hr
      obtain ⟨x,h1,h2⟩:=n9 h
      obtain ⟨h3,h2⟩:=aM h2
      exact ⟨_,_,_,by simp only [hq,hnr,aBO,hr,h1,h3,cond_true],h2⟩
     ·cases h
    ·cases h
   | false =>
    rw [hf] at h
    simp only [cond_false] at h ⊢
    split at h
    ·rename_i qs hq
     obtain ⟨hnr,h⟩:=aM h
     split at h
     ·rename_i r hr
      obtain ⟨x,h1,h2⟩:=n9 h
      exact ⟨_,_,_,by simp only [hq,hnr,cond_true,aBO,hr,h1],h2⟩
     ·cases h
    ·cases h
theorem aI4 {t : Nat} {b : Bool} : ∀ {F : Frm},cQ F t = .lit (.bool b)→aXI F t b = F
 | [],_=>rfl
 | (s,p) :: r,h=>by
  simp only [cQ] at h
  simp only [aXI]
  cases hs : Nat.beq s t with
  | true=>rw [hs] at h; simp only [cond_true] at h ⊢; rw [h]
  | false=>rw [hs] at h; simp only [cond_false] at h ⊢; rw [aI4 h]
theorem FV {F : Frm} {x : Operand} {b : Bool} {k : Frm→Bool→Option α} (h : aOL F x b k = some z) (hx : ev F x = .lit (.bool b)) : k F b = some z:=by
 unfold aOL at h
 split at h
 ·have:=RV h
  rwa [aI4 (by simpa only [ev] using hx)] at this
 ·exact RV h
theorem WU {F : Frm} {l : List Oper} {o : Oper} {k : Frm→Bool→Option α} (h : aIN F l o k = some z) : ∃ b,guardOf F l o = some b∧k F b = some z:=by
 unfold aIN at h
 unfold guardOf
 cases hg : o.guard with
 | none=>rw [hg] at h; exact ⟨true,rfl,h⟩
 | some g =>
  obtain ⟨j,want⟩:=g
  rw [hg] at h
  simp only at h ⊢
  cases hp : l[j]? with
  | none=>rw [hp] at h; cases h
  | some p =>
   rw [hp] at h
   simp only at h ⊢
   cases ht : p.dst with
   | none=>rw [ht] at h; cases h
   | some t =>
    rw [ht] at h
    simp only at h ⊢
    split at h
    ·rename_i b hb
     have:=RV h
     rw [aI4 hb] at this
     exact ⟨_,by rw [hb],this⟩
    ·rename_i u hu hb
     refine ⟨false,?_,h⟩
     rw [hb]
     cases u <;> first | rfl | exact absurd rfl (hu _)
    ·cases h
theorem aTE {op : BinOp} {k1 : IntKind} {a b : Int} {k : Value→Option α} (h : bAM op k1 a b k = some z) : ∃ v,aMJ op k1 a b = some v∧k v = some z:=by
 unfold bAM at h
 split at h
 ·cases hb : eqI b 0 with
  | true=>rw [hb] at h; cases h
  | false=>rw [hb] at h; exact ⟨_,by simp only [aMJ,hb,cond_false],h⟩
 ·cases hb : eqI b 0 with
  | true=>rw [hb] at h; cases h
  | false=>rw [hb] at h; exact ⟨_,by simp only [aMJ,hb,cond_false],h⟩
 ·split at h
  ·rename_i v hv; exact ⟨v,hv,h⟩
  ·cases h
theorem yK {F : Frm} {H : Heap} {o : Oper} {k : Frm→PV→Heap→Nat→Option α} (h : ON P E F H o k = some z) : ∃ v H' c,opu P (dR P E) F H o = some (v,H',c)∧k F v H' c = some z:=by
 unfold ON at h
 split at h
 ·rename_i v H' c hc; exact ⟨v,H',c,hc,h⟩
 ·cases h
theorem aK0 {F : Frm} {o : Oper} {op : BinOp} {xt yt : TypeId} {x y : Operand} {k1 k2 : IntKind} {a b : Int} {v : Value} (ho : o.op = .binOp op xt x y yt) (hx : ev F x = .lit (.int k1 a)) (hy : ev F y = .lit (.int k2 b)) (hb : ltI b 0 = false) (hv : aNO op k1 a b = some v) : lB P F o = some (.lit v):=by
 have hb : ¬ b < 0:=by rw [aN] at hb; exact of_decide_eq_false hb
 have h1 : valOf F x = .int k1 a:=by simp [valOf,hx,WS]
 have h2 : valOf F y = .int k2 b:=by simp [valOf,hy,WS]
 have h3 : D7 F o.op.operands.toList = true:=by simp [ho,Op.operands,D7,hx,hy,WS]
 have h4 : BQ o.op = false:=by simp [ho,BQ]
 unfold lB
 rw [h3,h4]
 simp only [Bool.not_true,Bool.or_self,cond_false]
 cases op <;> simp only [aNO] at hv <;> try (cases hv; done)
 all_goals
  simp only [Option.some.injEq] at hv
  subst hv
  simp [execOp,ho,h1,h2,eqGuard,binOp,Op.shift,hb,CL,RY]
  try rfl
theorem aOF {F : Frm} {x : Operand} {k : Frm→Option α} (h : aWF F x k = some z) : k F = some z:=by
 unfold aWF at h
 split at h
 ·rename_i b hb; exact FV h hb
 ·exact h
theorem MM : ∀ {l : List Operand} {F : Frm} {k : Frm→Option α},aG8 l F k = some z→k F = some z
 | [],F,k,h=>h
 | x :: r,F,k,h=>MM (l:=r) (aOF h)
theorem KP {F : Frm} {H : Heap} {o : Oper} {k : Frm→PV→Heap→Nat→Option α} (h : opK P E F H o k = some z) : ∃ v H' c,opx P (dR P E) F H o = some (v,H',c)∧k F v H' c = some z:=by
 unfold opK at h
 unfold opx
 cases ht : typed P F o with
 | true =>
  rw [ht] at h
  simp only [cond_true] at h ⊢
  split at h
  ·rename_i cs v H' c hc
   obtain ⟨h1,h2⟩:=uD h
   exact ⟨v,H',c,by simp only [hc,h1,cond_true],h2⟩
  ·cases h
 | false =>
  rw [ht] at h
  simp only [cond_false] at h ⊢
  split at h
  ·rename_i op xt x y yt ho
   split at h
   ·rename_i k1 a k2 b hx hy
    cases hsh : aIX op with
    | true =>
     rw [hsh] at h
     simp only [cond_true] at h
     cases hb : ltI b 0 with
     | true=>rw [hb] at h; cases h
     | false =>
      rw [hb] at h
      simp only [cond_false] at h
      split at h
      ·rename_i v hv
       have hp:=aK0 (P:=P) ho hx hy hb hv
       have hxb : aMJ op k1 a b = none:=by cases op <;> simp only [aIX] at hsh <;> first | rfl | (cases hsh; done)
       refine ⟨_,_,_,?_,h⟩
       simp only [opu,ho,hx,hy,hxb,hp,p0,Bool.cond_self]
      ·cases h
    | false =>
    rw [hsh] at h
    simp only [cond_false] at h
    cases hb : (zA k1 k2 && isX op) with
    | true =>
     rw [hb] at h
     simp only [cond_true] at h
     simp only [Bool.and_eq_true] at hb
     obtain ⟨v,h1,h2⟩:=aTE h
     exact ⟨_,_,_,by simp only [opu,ho,hx,hy,hb.1,cond_true,h1],h2⟩
    | false=>rw [hb] at h; exact yK h
   ·exact yK (MM h)
  ·exact yK (MM h)
  ·rename_i c a b ho
   split at h
   ·rename_i t hc
    exact ⟨_,_,_,by simp only [opu,ho,hc],FV h hc⟩
   ·cases h
  ·rename_i c ho
   split at h
   ·rename_i f hc
    split at h
    ·rename_i g first caps hf
     obtain ⟨v,H',c',h1,h2⟩:=aGI h
     exact ⟨v,H',c',by simp only [opu,ho,hc,hf,h1],h2⟩
    ·rename_i g first caps hf
     obtain ⟨v,H',c',h1,h2⟩:=aGI h
     exact ⟨v,H',c',by simp only [opu,ho,hc,hf,h1],h2⟩
    ·cases h
   ·exact yK h
  ·exact yK h
theorem D1 {f : Int→Option α} {v : Int} : ∀ {n j : Nat},U5 n j v f = some z→f v = some z
 | 0,_,h=>by cases h
 | n + 1,j,h=>by
  unfold U5 at h
  cases hb : eqI v (j : Int) with
  | true =>
   rw [hb] at h
   rw [dY,decide_eq_true_eq] at hb
   rw [hb]; exact h
  | false =>
   rw [hb] at h
   exact D1 h
theorem a4O {p : PV} (h : a6J p = true) : isT p = false:=by cases p <;> first | rfl | cases h
theorem aRN {l : List Oper} {F : Frm} {H : Heap} {o : Oper} {k : Frm→PV→Heap→Nat→Option α} (h : a9Y P E l F H o k = some z) : ∃ v H' c,opz P (dR P E) l F H o = some (v,H',c)∧k F v H' c = some z:=by
 unfold a9Y at h
 split at h
 ·rename_i t n c ho
  cases hb : aB9 l o.dst with
  | false =>
   rw [hb] at h
   obtain ⟨v,H',c',h1,h2⟩:=KP h
   exact ⟨v,H',c',by simp only [opz,ho,hb,cond_false,h1],h2⟩
  | true =>
   rw [hb] at h
   simp only [cond_true] at h
   split at h
   ·rename_i cs v1 H1 k1 h1
    obtain ⟨h3,h4⟩:=uD h
    exact ⟨_,_,_,by simp only [opz,ho,hb,cond_true,h1,h3],h4⟩
   ·cases h
 ·rename_i t x i ho
  have plain : opK P E F H o k = some z→∃ v H' c,opz P (dR P E) l F H o = some (v,H',c)∧k F v H' c = some z:=fun h=>by
   obtain ⟨v,H',c',h1,h2⟩:=KP h
   exact ⟨v,H',c',by simp only [opz,ho,h1],h2⟩
  split at h
  ·rename_i n k1 v hn hv
   cases hb : aEX (ev F x) with
   | false =>
    rw [hb] at h
    simp only [cond_false] at h
    cases hb2 : a6J (ev F x) with
    | false=>rw [hb2] at h; exact plain h
    | true =>
     rw [hb2] at h
     simp only [cond_true] at h
     have h:=D1 h
     split at h
     ·rename_i p H1 c1 h1
      refine ⟨_,_,_,?_,h⟩
      have ht : typed P F o = false:=by simp only [typed,ho,hb,a4O hb2,Bool.or_false]
      simp only [opz,ho,opx,ht,cond_false,opu,hv,h1]
     ·cases h
   | true =>
    rw [hb] at h
    simp only [cond_true] at h
    have h:=D1 h
    split at h
    ·rename_i cs p H1 c1 h1
     obtain ⟨h3,h4⟩:=uD h
     refine ⟨_,_,_,?_,h4⟩
     have ht : typed P F o = true:=by simp only [typed,ho,hb,Bool.or_true]
     simp only [opz,ho,opx,ht,cond_true,top,hv,h1,h3]
    ·cases h
  ·exact plain h
 ·rename_i t x i ho
  have plain : opK P E F H o k = some z→∃ v H' c,opz P (dR P E) l F H o = some (v,H',c)∧k F v H' c = some z:=fun h=>by
   obtain ⟨v,H',c',h1,h2⟩:=KP h
   exact ⟨v,H',c',by simp only [opz,ho,h1],h2⟩
  split at h
  ·rename_i n k1 v hn hv
   cases hb : bC0 (ev F x) with
   | false=>rw [hb] at h; exact plain h
   | true =>
    rw [hb] at h
    simp only [cond_true] at h
    have h:=D1 h
    split at h
    ·rename_i p H1 c1 h1
     refine ⟨_,_,_,?_,h⟩
     obtain ⟨cs,hcs⟩ : ∃ cs,ev F x = .agg cs:=by
      revert hb
      cases ev F x <;> intro hb <;> first | exact ⟨_,rfl⟩ | cases hb
     have ht : typed P F o = false:=by simp only [typed,ho,hcs,isS]
     simp only [opz,ho,opx,ht,cond_false,opu,hv,hcs]
     rw [hcs] at h1
     unfold bBM at hn
     split at hn
     ·rename_i n1 e1 hu
      unfold xIdx at h1
      simp only [hu] at h1 ⊢
      exact h1
     ·cases hn
    ·cases h
  ·exact plain h
 ·rename_i t x lo hi ho
  have plain : opK P E F H o k = some z→∃ v H' c,opz P (dR P E) l F H o = some (v,H',c)∧k F v H' c = some z:=fun h=>by
   obtain ⟨v,H',c',h1,h2⟩:=KP h
   exact ⟨v,H',c',by simp only [opz,ho,h1],h2⟩
  split at h
  ·rename_i r sz hx
   split at h
   ·rename_i g e hg hu
    cases hb : aAB g.t with
    | false=>rw [hb] at h; exact plain h
    | true =>
     rw [hb] at h
     simp only [cond_true] at h
     split at h
     ·rename_i n hn
      obtain ⟨hbn,h⟩:=aM h
      replace h:=RV h
      split at h
      ·rename_i cs v H1 c1 h1
       obtain ⟨h3,h4⟩:=uD h
       refine ⟨_,_,_,?_,h4⟩
       have ht : typed P F o = true:=by simp only [typed,ho,hx,isT,Bool.true_or]
       simp only [opz,ho,opx,ht,cond_true,top,hx,isS,cond_false,EI,hu,hn,hg,hbn,hb,Bool.true_and,h1,h3]
      ·cases h
     ·cases h
   ·exact plain h
  ·exact plain h
 ·rename_i hno hno2 hno3 hno4
  obtain ⟨v,H',c',h1,h2⟩:=KP h
  refine ⟨v,H',c',?_,h2⟩
  unfold opz
  split
  ·rename_i t n c ho
   exact (hno t n c ho).elim
  ·exact h1
theorem O3 {l : List Oper} {F : Frm} {H : Heap} {o : Oper} {k : Frm→PV→Heap→Nat→Option α} (h : aJT P E l o F H k = some z) : ∃ v H' c,nJ P (dR P E) l o F H = some (v,H',c)∧k F v H' c = some z:=by
 unfold aJT at h
 obtain ⟨b,h1,h2⟩:=WU h
 unfold nJ
 cases b with
 | true =>
  simp only [h1]
  simp only [cond_true] at h2
  split at h2
  ·rename_i hm
   simp only [hm]
   exact aRN h2
  ·cases h2
  ·rename_i cs v hm
   obtain ⟨h3,h4⟩:=uD h2
   exact ⟨_,_,_,by simp only [hm,h3,cond_true],h4⟩
 | false=>exact ⟨_,_,_,by simp only [h1],h2⟩
theorem o9 {nt : Nat} {l : List Oper} {k : Frm→Heap→Option α} : ∀ {r : List Oper} {F : Frm} {H : Heap},AG P E nt l r F H k = some z→∃ F' H',D9 P (dR P E) nt l r F H = some (F',H')∧k F' H' = some z
 | [],F,H,h=>⟨F,H,rfl,h⟩
 | o :: r,F,H,h=>by
  simp only [AG] at h
  obtain ⟨v,H1,c,h1,h2⟩:=O3 h
  split at h2
  ·rename_i F1 hp
   obtain ⟨F',H',h3,h4⟩:=o9 h2
   refine ⟨F',H',?_,h4⟩
   simp only [D9,h1,P9,hp,uV,Bool.cond_self,h3]
  ·cases h2
theorem SR {nt : Nat} {m : Option Nat} {ms : List Nat} {l : List Oper} {F0 : Frm} {H0 : Heap} {k : Frm→Heap→aCM→Option α} : ∀ {r : List Oper} {j : Nat} {F : Frm} {H : Heap} {hl : aCM},stK P E nt m ms l r j F H hl k = some z→r = l.drop j→j ≤ l.length→NU P (dR P E) nt m ms l F0 H0 j = some (F,H,hl)→∃ F' H' hl',NU P (dR P E) nt m ms l F0 H0 l.length = some (F',H',hl')∧k F' H' hl' = some z
 | [],j,F,H,hl,h,hr,hjl,hs=>by
  have h1 : (l.drop j).length = 0:=by rw [← hr]; rfl
  rw [List.length_drop] at h1
  have h2 : j = l.length:=by omega
  subst h2
  exact ⟨F,H,hl,hs,h⟩
 | o :: r,j,F,H,hl,h,hr,hjl,hs=>by
  have hj : l[j]? = some o:=by
   have : (l.drop j)[0]? = some o:=by rw [← hr]; rfl
   simpa using this
  have hr' : r = l.drop (j + 1):=by
   have : (l.drop j).tail = r:=by rw [← hr]; rfl
   rw [← this,List.tail_drop]
  simp only [stK] at h
  split at h
  ·rename_i hres
   obtain ⟨v,H1,c,h1,h2⟩:=O3 h
   obtain ⟨hok,h2⟩:=aM h2
   split at h2
   ·rename_i F1 hp
    refine SR h2 hr' (List.getElem?_eq_some_iff.1 hj).1 ?_
    simp only [NU,hs,hj,hres,stepT,h1,hok,cond_true,P9,hp,uV,Q9]
    cases Nat.beq c 0 <;> rfl
   ·cases h2
  ·rename_i q hres
   cases hcall : UR o with
   | true =>
    rw [hcall] at h
    simp only [cond_true] at h
    obtain ⟨hnr,h⟩:=aM h
    obtain ⟨v0,X,c0,h1,h⟩:=O3 h
    split at h
    ·rename_i v H1 c hct
     obtain ⟨hok,h2⟩:=aM h
     split at h2
     ·rename_i F1 hp
      refine SR h2 hr' (List.getElem?_eq_some_iff.1 hj).1 ?_
      have hop : ∃ cc,o.op = .call cc:=by
       unfold UR at hcall
       split at hcall
       ·unfold V2 at hcall
        split at hcall
        ·rename_i cc hcc; exact ⟨cc,hcc⟩
        ·cases hcall
       ·cases hcall
      obtain ⟨cc,hop⟩:=hop
      have hst : stepT (some q) P (dR P E) l o F H = some (v,H1,c):=by
       simp only [stepT,hop]
       rw [← hop,hnr,cond_true,h1]
       exact hct
      simp only [NU,hs,hj,hres,hst,hok,cond_true,P9,hp,uV,Q9]
      cases Nat.beq c 0 <;> rfl
     ·cases h2
    ·cases h
   | false =>
   rw [hcall] at h
   simp only [cond_false] at h
   split at h
   ·rename_i v H1 c h1
    obtain ⟨hok,h2⟩:=aM h
    split at h2
    ·rename_i F1 hp
     refine SR h2 hr' (List.getElem?_eq_some_iff.1 hj).1 ?_
     have hc : c = 2:=by
      simp only [stepT] at h1
      split at h1
      ·split at h1
       ·obtain ⟨_,h1⟩:=aM h1
        simp only [Option.some.injEq,Prod.mk.injEq] at h1
        exact h1.2.2.symm
       ·cases h1
      ·obtain ⟨_,h1⟩:=aM h1
       split at h1
       ·rcases CT h1 with ⟨_,_,_,_,_,_,h1,_⟩ | ⟨_,_,_,_,_⟩
        ·exact h1
        ·obtain ⟨_,_,_,ha⟩:=VW hres
         unfold HA at ha
         rw [hcall,Bool.or_false] at ha
         unfold isVar at ha
         split at ha
         ·simp_all
         ·cases ha
       ·cases h1
      ·cases h1
     subst hc
     simp only [NU,hs,hj,hres,h1,hok,cond_true,P9,hp,uV,Q9]
     rfl
    ·cases h2
   ·cases h
theorem HC {nt : Nat} {ops : Array Oper} {F : Frm} {H : Heap} {k : Frm→Heap→Option α} (h : sX P E nt ops true F H k = some z) : ∃ F' H',I0 P (dR P E) nt ops F H = some (F',H')∧k F' H' = some z:=by
 unfold sX at h
 simp only [cond_true] at h
 obtain ⟨h1,h⟩:=aM h
 obtain ⟨F',H',hl,h2,h3⟩:=SR h (F0:=F) (H0:=aPF (HH ops H) ops.toList.length H) (by simp) (Nat.zero_le _) rfl
 obtain ⟨h4,h3⟩:=aM h3
 exact ⟨F',H',by simp only [I0,h1,cond_true,h2,h4],h3⟩
theorem aEU {nt : Nat} {id : Nat} {ops : Array Oper} {draw : Bool} {F : Frm} {H : Heap} {k : Frm→Heap→Option α} (hcl : cV P (dR P E)) (hP : P.follows .mixedOrders = true) (h : sX P E nt ops draw F H k = some z) :
  ∃ F' H',k F' H' = some z∧∀ {n0 wi Gi μi a w} {Q : Exit→Act→World→Prop},I n0 wi Gi μi nt F H a w→(∀ a' w',I n0 wi Gi μi nt F' H' a' w'→Q .normal a' w')→(Code.region id ops draw).wp P Q a w:=by
 cases draw with
 | true =>
  obtain ⟨F',H',h2,h3⟩:=HC h
  exact ⟨F',H',h3,fun hI hQ=>aD2 hcl hP h2 hI hQ⟩
 | false =>
  unfold sX at h
  simp only [cond_false] at h
  obtain ⟨F',H',h2,h3⟩:=o9 h
  exact ⟨F',H',h3,fun hI hQ=>wp_region_list (rR hcl ops.toList F H _ _ h2 hI hQ)⟩
end
end Go.PM
set_option linter.unusedSimpArgs false
set_option linter.unusedVariables false
namespace Go.PM
open Go Go.RowKit
def K7 {α : Type} (m : Nat) : Frm→(Frm→α)→α
 | [],k=>k []
 | (t,p) :: r,k=>bif SM m t then K7 m r (fun r=>k ((t,p) :: r)) else K7 m r k
theorem AU {α : Type} (m : Nat) : ∀ (F : Frm) (k : Frm→α),∃ F',K7 m F k = k F'∧∀ t,cQ F' t = cQ F t ∨ cQ F' t = .junk
 | [],k=>⟨[],rfl,fun t=>.inl rfl⟩
 | (s,p) :: r,k=>by
  simp only [K7]
  cases hs : SM m s with
  | true =>
   obtain ⟨F',h1,h2⟩:=AU m r fun r=>k ((s,p) :: r)
   refine ⟨(s,p) :: F',h1,fun t=>?_⟩
   rw [eI,eI]
   by_cases hts : t = s
   ·subst hts; simp
   ·simp only [hts,if_false]; exact h2 t
  | false =>
   have key : ∀ (F : Frm) (k : Frm→α),∃ F',K7 m F k = k F'∧∀ t,cQ F' t = if SM m t then cQ F t else .junk:=by
    intro F
    induction F with
    | nil=>intro k; exact ⟨[],rfl,fun t=>by simp [cQ]⟩
    | cons x r ih =>
     intro k
     obtain ⟨s,p⟩:=x
     simp only [K7]
     cases hs : SM m s with
     | true =>
      obtain ⟨F',h1,h2⟩:=ih fun r=>k ((s,p) :: r)
      refine ⟨(s,p) :: F',h1,fun t=>?_⟩
      rw [eI,eI,h2 t]
      by_cases hts : t = s
      ·subst hts; simp [hs]
      ·simp [hts]
     | false =>
      obtain ⟨F',h1,h2⟩:=ih k
      refine ⟨F',h1,fun t=>?_⟩
      rw [eI,h2 t]
      by_cases hts : t = s
      ·subst hts; simp [hs]
      ·simp [hts]
   obtain ⟨F',h1,h2⟩:=key r k
   refine ⟨F',h1,fun t=>?_⟩
   rw [eI,h2 t]
   by_cases hts : t = s
   ·subst hts; simp [hs]
   ·simp only [hts,if_false]
    cases SM m t <;> simp

@[reducible] def aR : List (Ex×List (Nat×Kd))→Type
 | []=>Empty
 | [(_,s)]=>Shape.den s
 | (_,s) :: b :: r=>Shape.den s ⊕ aR (b :: r)
structure aS where
 sh : List (Nat×Kd)
 exits : List (Ex×List (Nat×Kd))
 run : Shape.den sh→Option (aR exits)
def rJ : (l : List (Ex×List (Nat×Kd)))→aR l→Ex×Frm×Heap
 | [],z=>Empty.elim z
 | [(e,s)],z=>(e,pJ s z 0,wQ s z)
 | (e,s) :: b :: r,z=>match z with
  | .inl x=>(e,pJ s x 0,wQ s x)
  | .inr y=>rJ (b :: r) y
def aPN {α : Type} : (l : List (Ex×List (Nat×Kd)))→aR l→(Ex→Frm→Heap→Option α)→Option α
 | [],z,_=>Empty.elim z
 | [(e,s)],z,k=>k e (pJ s z 0) (wQ s z)
 | (e,s) :: b :: r,z,k=>gY z (fun x=>k e (pJ s x 0) (wQ s x)) (fun y=>aPN (b :: r) y k)
def aKP : Ex→Ex→Bool
 | .normal,.normal=>true
 | .exit i,.exit j=>Nat.beq i j
 | .ret,.ret=>true
 | _,_=>false
def NV : (l : List (Ex×List (Nat×Kd)))→Ex→Frm→Heap→Option (aR l)
 | [],_,_,_=>none
 | [(e,s)],ex,F,H=>bif aKP e ex then D2 s F H else none
 | (e,s) :: b :: r,ex,F,H=>bif aKP e ex then (match D2 s F H with | some x=>some (.inl x) | none=>none) else (match NV (b :: r) ex F H with | some y=>some (.inr y) | none=>none)

section
variable {α : Type} (P : Program) (E : Env) (nt aU : Nat) (lt : Nat→Option aS)
def sN : Code→Frm→Heap→(Ex→Frm→Heap→Option α)→Option α
 | .skip,F,H,k=>k .normal F H
 | .label _,F,H,k=>k .normal F H
 | .region _ ops draw,F,H,k=>sX P E nt ops draw F H fun F H=>K7 aU F fun F=>k .normal F H
 | .seq a b,F,H,k=>sN a F H fun ex F H=>match ex with
  | .normal=>sN b F H k
  | .exit i=>k (.exit i) F H
  | .ret=>k .ret F H
 | .cond c a b,F,H,k=>match ev F c with
  | .lit (.bool t)=>aOL F c t fun F t=>bif t then sN a F H k else sN b F H k
  | _=>none
 | .block id a,F,H,k=>sN a F H fun ex F H=>match ex with
  | .exit i=>bif Nat.beq i id then k .normal F H else k (.exit i) F H
  | .normal=>k .normal F H
  | .ret=>k .ret F H
 | .loop a,F,H,k=>match lt (aG a) with
  | some s=>match D2 s.sh F H with
   | some x=>aB (s.run x) fun z=>aPN s.exits z k
   | none=>none
  | none=>none
 | .exit id,F,H,k=>k (.exit id) F H
 | .scope a,F,H,k=>sN a F H k
 | .ret,F,H,k=>k .ret F H
 | _,_,_,_=>none
def aAO (sh : List (Nat×Kd)) (exits : List (Ex×List (Nat×Kd))) (ex : Ex) (F : Frm) (H : Heap) : Option (Shape.den sh ⊕ aR exits):=match ex with
 | .normal=>match D2 sh F H with
  | some y=>some (.inl y)
  | none=>none
 | .exit i=>match NV exits (.exit i) F H with
  | some z=>some (.inr z)
  | none=>none
 | .ret=>match NV exits .ret F H with
  | some z=>some (.inr z)
  | none=>none
def dJ (a : Code) (sh : List (Nat×Kd)) (exits : List (Ex×List (Nat×Kd))) (x : Shape.den sh) : Option (Shape.den sh ⊕ aR exits) :=
 sN P E nt aU lt a (pJ sh x 0) (wQ sh x) (aAO sh exits)
end
def bM {σ τ : Type} (step : σ→Option (σ ⊕ τ)) : Nat→σ→Option τ
 | 0,_=>none
 | n + 1,x=>match step x with
  | some (.inl y)=>bM step n y
  | some (.inr z)=>some z
  | none=>none
def aF : Code→List Code
 | .seq a b=>aF a ++ aF b
 | .cond _ a b=>aF a ++ aF b
 | .block _ a=>aF a
 | .scope a=>aF a
 | .loop a=>[a]
 | _=>[]

section
variable {α : Type} {P : Program} {E : Env} {nt aU : Nat} {lt : Nat→Option aS}
def bCX (P : Program) (nt : Nat) (c : Code) (F : Frm) (H : Heap) (r : Ex×Frm×Heap) : Prop :=
 ∀ (n0 : Nat→Prop) (wi : World) (Gi : Gd) (μi : Mp) (a : Act) (w : World),(∀ r,μi.loc r = none∧μi.len r = none)→I n0 wi Gi μi nt F H a w→bFH P n0 wi Gi μi nt c a w r
def cE (P : Program) (nt : Nat) (a : Code) (s : aS) : Prop :=
 ∀ x z,s.run x = some z→bCX P nt (.loop a) (pJ s.sh x 0) (wQ s.sh x) (rJ s.exits z)

theorem A7 : ∀ {l : List (Ex×List (Nat×Kd))} {z : aR l} {k : Ex→Frm→Heap→Option α} {y : α},aPN l z k = some y→k (rJ l z).1 (rJ l z).2.1 (rJ l z).2.2 = some y
 | [],z,_,_,_=>Empty.elim z
 | [(e,s)],z,k,y,h=>h
 | (e,s) :: b :: r,z,k,y,h=>by
  cases z with
  | inl x=>exact h
  | inr x=>exact A7 (l:=b :: r) (z:=x) h
theorem YU {a b : Ex} (h : aKP a b = true) : a = b:=by
 cases a <;> cases b <;> simp only [aKP] at h <;> first | rfl | (cases h; done) | exact congrArg Ex.exit (Nat.eq_of_beq_eq_true h)
theorem LH {n0 : Nat→Prop} {wi : World} {Gi : Gd} {μi : Mp} (hfl : ∀ r,μi.loc r = none∧μi.len r = none) {ex : Ex} {F : Frm} {H : Heap} : ∀ {l : List (Ex×List (Nat×Kd))} {z : aR l},NV l ex F H = some z →
  (rJ l z).1 = ex∧∀ a w,I n0 wi Gi μi nt F H a w→I n0 wi Gi μi nt (rJ l z).2.1 (rJ l z).2.2 a w
 | [],z,_=>Empty.elim z
 | [(e,s)],z,h=>by
  simp only [NV] at h
  obtain ⟨hb,h⟩:=aM h
  exact ⟨YU hb,fun a w hI=>sU h hfl hI⟩
 | (e,s) :: b :: r,z,h=>by
  simp only [NV] at h
  cases hb : aKP e ex with
  | true =>
   rw [hb] at h
   simp only [cond_true] at h
   split at h
   ·rename_i x hx
    simp only [Option.some.injEq] at h
    subst h
    exact ⟨YU hb,fun a w hI=>sU hx hfl hI⟩
   ·cases h
  | false =>
   rw [hb] at h
   simp only [cond_false] at h
   split at h
   ·rename_i x hx
    simp only [Option.some.injEq] at h
    subst h
    exact LH hfl (l:=b :: r) (z:=x) hx
   ·cases h

theorem jO (hcl : cV P (dR P E)) (hP : P.follows .mixedOrders = true) : ∀ (c : Code) (F : Frm) (H : Heap) (k : Ex→Frm→Heap→Option α) (z : α),(∀ a ∈ aF c,∀ s,lt (aG a) = some s→cE P nt a s) →
  sN P E nt aU lt c F H k = some z→∃ r : Ex×Frm×Heap,k r.1 r.2.1 r.2.2 = some z∧bCX P nt c F H r
 | .skip,F,H,k,z,hl,h=>⟨(.normal,F,H),h,fun _ _ _ _ _ _ _ hI=>wp_skip ⟨rfl,hI⟩⟩
 | .label l,F,H,k,z,hl,h=>⟨(.normal,F,H),h,fun _ _ _ _ _ _ _ hI=>wp_label ⟨rfl,hI⟩⟩
 | .region id ops draw,F,H,k,z,hl,h=>by
  simp only [sN] at h
  obtain ⟨F1,H1,h1,h2⟩:=aEU (id:=id) hcl hP h
  obtain ⟨F2,h3,h4⟩:=AU aU F1 fun F=>k .normal F H1
  rw [h3] at h1
  exact ⟨(.normal,F2,H1),h1,fun _ _ _ _ _ _ _ hI=>h2 hI fun a' w' hI'=>⟨rfl,hI'.a1C h4⟩⟩
 | .seq x y,F,H,k,z,hl,h=>by
  simp only [sN] at h
  obtain ⟨⟨ex,F1,H1⟩,h1,h2⟩:=jO hcl hP x F H _ z (fun a ha=>hl a (by simp [aF,ha])) h
  cases ex with
  | normal =>
   obtain ⟨r,h3,h4⟩:=jO hcl hP y F1 H1 k z (fun a ha=>hl a (by simp [aF,ha])) h1
   refine ⟨r,h3,fun n0 wi Gi μi a w hfl hI=>wp_seq (wp_mono (h2 n0 wi Gi μi a w hfl hI) ?_)⟩
   rintro e a' w' ⟨rfl,hI'⟩
   exact h4 n0 wi Gi μi a' w' hfl hI'
  | exit i =>
   refine ⟨(.exit i,F1,H1),h1,fun n0 wi Gi μi a w hfl hI=>wp_seq (wp_mono (h2 n0 wi Gi μi a w hfl hI) ?_)⟩
   rintro e a' w' ⟨rfl,hI'⟩
   exact ⟨rfl,hI'⟩
  | ret =>
   refine ⟨(.ret,F1,H1),h1,fun n0 wi Gi μi a w hfl hI=>wp_seq (wp_mono (h2 n0 wi Gi μi a w hfl hI) ?_)⟩
   rintro e a' w' ⟨rfl,hI'⟩
   exact ⟨rfl,hI'⟩
 | .cond c x y,F,H,k,z,hl,h=>by
  simp only [sN] at h
  split at h
  ·rename_i t ht
   replace h:=FV h ht
   have hc : ∀ {n0 wi Gi μi a w},I n0 wi Gi μi nt F H a w→a.eval c = .bool t:=fun hI=>by
    obtain ⟨G,μ,e,hW,hF⟩:=hI
    have hc:=bX hF c
    rwa [ht,VR] at hc
   cases t with
   | true =>
    obtain ⟨r,h3,h4⟩:=jO hcl hP x F H k z (fun a ha=>hl a (by simp [aF,ha])) h
    exact ⟨r,h3,fun n0 wi Gi μi a w hfl hI=>wp_cond (hc hI) (h4 n0 wi Gi μi a w hfl hI)⟩
   | false =>
    obtain ⟨r,h3,h4⟩:=jO hcl hP y F H k z (fun a ha=>hl a (by simp [aF,ha])) h
    exact ⟨r,h3,fun n0 wi Gi μi a w hfl hI=>wp_cond (hc hI) (h4 n0 wi Gi μi a w hfl hI)⟩
  ·cases h
 | .block id x,F,H,k,z,hl,h=>by
  simp only [sN] at h
  obtain ⟨⟨ex,F1,H1⟩,h1,h2⟩:=jO hcl hP x F H _ z (fun a ha=>hl a (by simp [aF,ha])) h
  cases ex with
  | normal =>
   refine ⟨(.normal,F1,H1),h1,fun n0 wi Gi μi a w hfl hI=>wp_block (wp_mono (h2 n0 wi Gi μi a w hfl hI) ?_)⟩
   rintro e a' w' ⟨rfl,hI'⟩
   exact ⟨rfl,hI'⟩
  | ret =>
   refine ⟨(.ret,F1,H1),h1,fun n0 wi Gi μi a w hfl hI=>wp_block (wp_mono (h2 n0 wi Gi μi a w hfl hI) ?_)⟩
   rintro e a' w' ⟨rfl,hI'⟩
   exact ⟨rfl,hI'⟩
  | exit i =>
   simp only at h1
   cases hi : Nat.beq i id with
   | true =>
    rw [hi] at h1
    have:=Nat.eq_of_beq_eq_true hi
    subst this
    refine ⟨(.normal,F1,H1),h1,fun n0 wi Gi μi a w hfl hI=>wp_block (wp_mono (h2 n0 wi Gi μi a w hfl hI) ?_)⟩
    rintro e a' w' ⟨rfl,hI'⟩
    simp only [Ex.to,Exit.inBlock,if_true]
    exact ⟨trivial,hI'⟩
   | false =>
    rw [hi] at h1
    have hne : ¬ i = id:=fun e=>by rw [e] at hi; simp at hi
    refine ⟨(.exit i,F1,H1),h1,fun n0 wi Gi μi a w hfl hI=>wp_block (wp_mono (h2 n0 wi Gi μi a w hfl hI) ?_)⟩
    rintro e a' w' ⟨rfl,hI'⟩
    simp only [Ex.to,Exit.inBlock,hne,if_false]
    exact ⟨trivial,hI'⟩
 | .loop x,F,H,k,z,hl,h=>by
  simp only [sN] at h
  split at h
  ·rename_i s hs
   split at h
   ·rename_i x0 hx
    obtain ⟨y,h1,h2⟩:=n9 h
    exact ⟨rJ s.exits y,A7 h2,fun n0 wi Gi μi a w hfl hI=>hl x (by simp [aF]) s hs x0 y h1 n0 wi Gi μi a w hfl (sU hx hfl hI)⟩
   ·cases h
  ·cases h
 | .exit id,F,H,k,z,hl,h=>⟨(.exit id,F,H),h,fun _ _ _ _ _ _ _ hI=>wp_exit ⟨rfl,hI⟩⟩
 | .scope x,F,H,k,z,hl,h=>by
  simp only [sN] at h
  obtain ⟨⟨ex,F1,H1⟩,h1,h2⟩:=jO hcl hP x F H _ z (fun a ha=>hl a (by simp [aF,ha])) h
  refine ⟨(ex,F1,H1),h1,fun n0 wi Gi μi a w hfl hI=>wp_scope_straight (wp_mono (h2 n0 wi Gi μi a w hfl hI) ?_)⟩
  rintro e a' w' ⟨rfl,hI'⟩
  cases ex <;> exact ⟨rfl,hI'⟩
 | .ret,F,H,k,z,hl,h=>⟨(.ret,F,H),h,fun _ _ _ _ _ _ _ hI=>wp_ret ⟨rfl,hI⟩⟩
 | .rangeFunc ..,F,H,k,z,hl,h=>by simp only [sN] at h; cases h
 | .goto l,F,H,k,z,hl,h=>by simp only [sN] at h; cases h
 | .refuse s,F,H,k,z,hl,h=>by simp only [sN] at h; cases h

theorem cF (hcl : cV P (dR P E)) (hP : P.follows .mixedOrders = true) {a : Code} {sh : List (Nat×Kd)} {exits : List (Ex×List (Nat×Kd))} {step : Shape.den sh→Option (Shape.den sh ⊕ aR exits)} (L : Nat)
  (hl : ∀ b ∈ aF a,∀ s,lt (aG b) = some s→cE P nt b s) (hr : ∀ x,dJ P E nt aU lt a sh exits x = step x) : cE P nt a ⟨sh,exits,bM step L⟩:=by
 intro x z hz n0 wi Gi μi act w hfl hI
 refine wp_loop_ghost (fun k a w=>∃ x,bM step k x = some z∧I n0 wi Gi μi nt (pJ sh x 0) (wQ sh x) a w) L ⟨x,hz,hI⟩ ?_
 rintro k act w ⟨x,hz,hI⟩
 cases k with
 | zero=>cases hz
 | succ k =>
  simp only [bM] at hz
  split at hz
  ·rename_i y hs
   rw [← hr] at hs
   obtain ⟨⟨ex,F',H'⟩,h1,h2⟩:=jO hcl hP a _ _ _ _ hl hs
   refine wp_mono (h2 n0 wi Gi μi act w hfl hI) ?_
   rintro e a' w' ⟨rfl,hI'⟩
   cases ex with
   | normal =>
    simp only [aAO] at h1
    split at h1
    ·rename_i y' hy
     simp only [Option.some.injEq,Sum.inl.injEq] at h1
     subst h1
     exact ⟨k,by omega,y',hz,sU hy hfl hI'⟩
    ·cases h1
   | exit i =>
    simp only [aAO] at h1
    split at h1
    ·simp at h1
    ·cases h1
   | ret =>
    simp only [aAO] at h1
    split at h1
    ·simp at h1
    ·cases h1
  ·rename_i y hs
   simp only [Option.some.injEq] at hz
   subst hz
   rw [← hr] at hs
   obtain ⟨⟨ex,F',H'⟩,h1,h2⟩:=jO hcl hP a _ _ _ _ hl hs
   refine wp_mono (h2 n0 wi Gi μi act w hfl hI) ?_
   rintro e a' w' ⟨rfl,hI'⟩
   cases ex with
   | normal =>
    simp only [aAO] at h1
    split at h1
    ·simp at h1
    ·cases h1
   | exit i =>
    simp only [aAO] at h1
    split at h1
    ·rename_i y' hy
     simp only [Option.some.injEq,Sum.inr.injEq] at h1
     subst h1
     obtain ⟨h3,h4⟩:=LH (nt:=nt) (n0:=n0) (wi:=wi) (Gi:=Gi) hfl hy
     have h5:=h4 a' w' hI'
     exact ⟨by rw [h3],h5⟩
    ·cases h1
   | ret =>
    simp only [aAO] at h1
    split at h1
    ·rename_i y' hy
     simp only [Option.some.injEq,Sum.inr.injEq] at h1
     subst h1
     obtain ⟨h3,h4⟩:=LH (nt:=nt) (n0:=n0) (wi:=wi) (Gi:=Gi) hfl hy
     have h5:=h4 a' w' hI'
     exact ⟨by rw [h3],h5⟩
    ·cases h1
  ·cases hz
end
end Go.PM
set_option linter.unusedSimpArgs false
set_option linter.unusedVariables false
namespace Go.PM
open Go Go.RowKit
@[reducible] def aI : List Kd→Type
 | []=>Unit
 | k :: r=>k.den×aI r
def iP : (l : List Kd)→aI l→List PV
 | [],_=>[]
 | k :: r,(x,xs)=>oR k x 0 :: iP r xs
def aGQ : (l : List Kd)→List PV→Option (aI l)
 | [],[]=>some ()
 | k :: r,p :: ps=>match VV k p [] 0 with
  | some x=>match aGQ r ps with
   | some xs=>some (x,xs)
   | none=>none
  | none=>none
 | _,_=>none
def D5 : List Kd→Bool
 | []=>true
 | .own _ _ :: _ | .box _ _ :: _ | .win _ _ :: _ | .bown _ _ _ :: _ | .bag _ _ _ _ _ :: _ | .bag2 _ _ _ _ _ _ :: _ | .ar _ _ :: _=>false
 | _ :: r=>D5 r
def Kd.plain : Kd→Bool
 | .list t | .agg t | .ptr t=>t.plain
 | .clo _ ts=>ts.all Ty.plain
 | .hnd _=>false
 | .mpk _=>false
 | _=>true
theorem QF : ∀ (ts : List Ty) (x : tN ts),ts.all Ty.plain = true→dK.noRows (HK ts x) = true
 | [],_,_=>rfl
 | t :: r,(x,xs),h=>by
  simp only [List.all_cons,Bool.and_eq_true] at h
  simp only [HK,dK.noRows,dK,Bool.and_eq_true]
  exact ⟨tX t x h.1,QF r xs h.2⟩
theorem aN4 : ∀ (k : Kd) (x : k.den) (n : Nat),k.plain = true→dK (oR k x n) = true
 | .int _,_,_,_ | .bool,_,_,_ | .str,_,_,_ | .own _ _,_,_,_ | .box _ _,_,_,_ | .fn _,_,_,_ | .nil0,_,_,_ | .val,_,_,_ | .nilI,_,_,_ | .win _ _,_,_,_ | .bown _ _ _,_,_,_ | .bag _ _ _ _ _,_,_,_ | .bag2 _ _ _ _ _ _,_,_,_ | .ar _ _,_,_,_=>rfl
 | .hnd _,_,_,h=>by cases h
 | .mpk _,_,_,h=>by cases h
 | .list t,_,_,h=>h
 | .agg t,x,_,h=>tX t x h
 | .ptr t,x,_,h=>tX t x h
 | .clo _ ts,x,_,h=>by
  simp only [oR,dK,dK.noRows,Bool.true_and]
  exact QF ts x h
theorem aB8 : ∀ (ks : List Kd) (x : aI ks),ks.all Kd.plain = true→dK.noRows (iP ks x) = true
 | [],_,_=>rfl
 | k :: r,(x,xs),h=>by
  simp only [List.all_cons,Bool.and_eq_true] at h
  simp only [iP,dK.noRows,Bool.and_eq_true]
  exact ⟨aN4 k x 0 h.1,aB8 r xs h.2⟩
def aG9 (l : List Kd) (x : aI l) : PV:=fC (iP l x)
def aL8 : (l : List Kd)→PV→Option (aI l)
 | [k],q=>match VV k q [] 0 with
  | some x=>some (x,())
  | none=>none
 | l,.tuple qs=>aGQ l qs
 | _,_=>none

section
variable {P : Program} {n0 : Nat→Prop} {w wi : World} {G Gi : Gd} {μ μi μ' : Mp} {H : Heap} {F : Frm} {a : Act} {nt : Nat}
theorem aOO {e : TypeId} {t : Ty} {p : PV} {n : Nat} : zC e t p [] n = none:=by
 unfold zC
 split
 ·cases Nat.beq _ n && Nat.beq _ t.size <;> rfl
 ·rfl
theorem aNV {e : TypeId} {t : Ty} {p : PV} {n : Nat} : aDF e t p [] n = none:=by
 unfold aDF
 split
 ·cases Nat.beq _ n && Nat.beq _ 0 <;> rfl
 ·rfl
theorem aLQ {e et : TypeId} {t : Ty} {p : PV} {n : Nat} : QT e et t p [] n = none:=by
 unfold QT
 split
 ·cases Nat.beq _ n && Nat.beq _ 0 <;> rfl
 ·rfl
theorem aM4 {e : TypeId} {t1 : Ty} {et : TypeId} {t : Ty} {eu : TypeId} {u : Ty} {p : PV} {n : Nat} : SP e t1 et t eu u p [] n = none:=by
 unfold SP
 split
 ·rw [show fZ [] n = none from by simp [PM.fZ]]
  cases Nat.beq _ _ && Nat.beq _ _ <;> rfl
 ·rfl
theorem aNY {e : TypeId} {t1 : Ty} {et : TypeId} {t : Ty} {t2 : Option Ty} {p : PV} {n : Nat} : aCD e t1 et t t2 p [] n = none:=by
 unfold aCD
 split
 ·cases Nat.beq _ n && Nat.beq _ 0 <;> rfl
 ·rfl
theorem aFK : ∀ (k : Kd) {p : PV} {x : k.den} {v : Value},VV k p [] 0 = some x→VR w G aL p v→VR w G aL (oR k x 0) v
 | .int k,p,x,v,h,hv=>by
  have:=LZ h
  simp only [List.cons.injEq,and_true] at this
  subst this
  exact hv
 | .bool,p,x,v,h,hv=>by
  have:=HI h
  simp only [List.cons.injEq,and_true] at this
  subst this
  exact hv
 | .str,p,x,v,h,hv=>by
  have:=L0 h
  simp only [List.cons.injEq,and_true] at this
  subst this
  exact hv
 | .list t,p,x,v,h,hv=>by
  have:=oG (.list t) aL [p] x [v] h (by rw [VRs]; exact ⟨v,[],rfl,hv,by rw [VRs]⟩)
  simp only [enc] at this
  rw [VRs] at this
  obtain ⟨y,ys,h1,h2,_⟩:=this
  cases h1
  exact h2
 | .agg t,p,x,v,h,hv=>by
  simp only [VV] at h
  unfold aNL at h
  split at h
  ·rename_i cs
   rw [VR] at hv
   obtain ⟨vs,rfl,h2⟩:=hv
   simp only [oR]
   rw [VR]
   exact ⟨vs,rfl,oG t aL cs x vs.toList h h2⟩
  ·cases h
 | .own e t,p,x,v,h,hv=>by
  simp only [VV,aOO] at h
  cases h
 | .box e t,p,x,v,h,hv=>by
  simp only [VV,aNV] at h
  cases h
 | .ptr t,p,x,v,h,hv=>IG h hv
 | .fn g,p,x,v,h,hv=>by
  have:=LW h
  subst this
  exact hv
 | .nil0,p,x,v,h,hv=>by
  have:=R3 h
  subst this
  exact hv
 | .val,p,x,v,h,hv=>by
  have:=SQ (p:=p) (x:=x) h
  subst this
  exact hv
 | .nilI,p,x,v,h,hv=>by
  have:=OG (p:=p) (x:=x) h
  subst this
  exact hv
 | .clo g ts,p,x,v,h,hv=>IE h hv
 | .win j sz,p,x,v,h,hv=>by
  have:=TE h
  subst this
  exact hv
 | .bown e et t,p,x,v,h,hv=>by
  simp only [VV,aLQ] at h
  cases h
 | .bag e t1 et t t2,p,x,v,h,hv=>by
  simp only [VV,aNY] at h
  cases h
 | .bag2 e t1 et t eu u,p,x,v,h,hv=>by
  simp only [VV,aM4] at h
  cases h
 | .mpk j,p,x,v,h,hv=>by
  have:=XO h
  subst this
  exact hv
 | .hnd sz,p,x,v,h,hv=>by
  have:=UZ (μ:=aL) (vs:=[v]) h (by rw [VRs]; exact ⟨v,[],rfl,hv,by rw [VRs]⟩)
  rw [VRs] at this
  obtain ⟨y,ys,h1,h2,_⟩:=this
  cases h1
  exact h2
 | .ar e t,p,x,v,h,hv=>by
  simp only [VV,aQU,PM.fZ] at h
  simp at h
theorem yN : ∀ (l : List Kd) {ps : List PV} {x : aI l} {vs : List Value},aGQ l ps = some x→VRs w G aL ps vs→VRs w G aL (iP l x) vs
 | [],[],x,vs,h,hv=>hv
 | [],_ :: _,x,vs,h,hv=>by cases h
 | _ :: _,[],x,vs,h,hv=>by cases h
 | k :: r,p :: ps,x,vs,h,hv=>by
  simp only [aGQ] at h
  split at h
  ·rename_i y hy
   split at h
   ·rename_i ys hys
    simp only [Option.some.injEq] at h
    subst h
    rw [VRs] at hv
    obtain ⟨u,us,h1,h2,h3⟩:=hv
    simp only [iP]
    rw [VRs]
    exact ⟨u,us,h1,aFK k hy h2,yN r hys h3⟩
   ·cases h
  ·cases h
theorem M4 {l : List Kd} {q : PV} {x : aI l} {v : Value} (h : aL8 l q = some x) (hv : VR w G aL q v) : VR w G aL (aG9 l x) v:=by
 unfold aL8 at h
 split at h
 ·split at h
  ·rename_i k q y hy
   simp only [Option.some.injEq] at h
   subst h
   exact aFK _ hy hv
  ·cases h
 ·rename_i hne
  rw [VR] at hv
  obtain ⟨vs,rfl,h2⟩:=hv
  have h3:=yN _ h h2
  clear h
  match l,x,h3 with
  | [],x,h3 =>
   simp only [aG9,iP,fC]
   rw [VR]
   exact ⟨vs,rfl,h3⟩
  | [k],x,h3=>exact (hne k rfl).elim
  | k :: k2 :: r,(x,y,z),h3 =>
   simp only [aG9,iP,fC]
   rw [VR]
   exact ⟨vs,rfl,h3⟩
 ·cases h

def bY (P : Program) (g : FuncId) (args rets : List Kd) (f : aI args→Option (aI rets)) : Prop :=
 ∀ x y,f x = some y→xK P g (iP args x) (aG9 rets y)
def aQY (args rets : List Kd) (f : aI args→Option (aI rets)) (qs : List PV) : Option Res:=match aGQ args qs with
 | some x=>some ⟨aI rets,f x,aG9 rets⟩
 | none=>none
theorem aZI {g : FuncId} {args rets : List Kd} {f : aI args→Option (aI rets)} (hf : bY P g args rets f) {qs : List PV} {r : Res} (h : aQY args rets f qs = some r) : ∀ y,r.val = some y→xK P g qs (r.out y):=by
 unfold aQY at h
 split at h
 ·rename_i x hx
  simp only [Option.some.injEq] at h
  subst h
  intro y hy w G vs hlt hv
  exact hf x y hy w G vs hlt (yN args hx hv)
 ·cases h
structure aZ (P : Program) (E : Env) : Prop where
 pure : ∀ g qs r,E.pure g qs = some r→∀ y,r.val = some y→xK P g qs (r.out y)
 shr : ∀ g args H r,E.shr g args H = some r→∀ y,r.val = some y→∀ {n0 G μ w vs},aV n0 G μ H w→VRs w G μ args vs→pL P n0 w G μ g vs.toArray (r.out y).1 (r.out y).2
theorem aZ.callee {E : Env} (h : aZ P E) : cV P (dR P E):=by
 refine aS9 ?_ ?_
 ·intro g args r hr
  unfold aBO at hr
  split at hr
  ·rename_i s hs
   split at hr
   ·rename_i x hx
    simp only [Option.some.injEq] at hr
    subst hr
    exact h.pure g args s hs x hx
   ·cases hr
  ·cases hr
 ·intro g args H r H' hr
  unfold aAW at hr
  split at hr
  ·rename_i s hs
   split at hr
   ·rename_i x hx
    have hr:=Option.some.inj hr
    have h1 : r = (s.out x).1:=by rw [hr]
    have h2 : H' = (s.out x).2:=by rw [hr]
    subst h1; subst h2
    intro n0 G μ w vs hW hv
    exact h.shr g args H s hs x hx hW hv
   ·cases hr
  ·cases hr

def aKT (P : Program) (rs : List ResultVar) (rets : List Kd) (ex : Ex) (F : Frm) (H : Heap) : Option (aI rets):=match ex with
 | .exit _=>none
 | _=>match mY P F H rs with
  | some vs=>match aNT H (fC vs) with
   | some q=>aL8 rets q
   | none=>none
  | none=>none
def bI (P : Program) (E : Env) (fn : Func) (aU : Nat) (lt : Nat→Option aS) (c : Code) (args rets : List Kd) (x : aI args) : Option (aI rets) :=
 bif Nat.ble (iP args x).length fn.ntmps then sN P E fn.ntmps aU lt c (start aU 0 (iP args x)) [] (aKT P fn.results.toList rets) else none

theorem aY {E : Env} (hP : B0 P) (hE : aZ P E) {g : Nat} {fn : Func} (hg : P.funcs[g]? = some fn) {c : Code} (hc : fn.body = some c) {aU : Nat} {lt : Nat→Option aS} {args rets : List Kd} {f : aI args→Option (aI rets)}
  (hl : ∀ a ∈ aF c,∀ s,lt (aG a) = some s→cE P fn.ntmps a s) (hb : ∀ x,bI P E fn aU lt c args rets x = f x) : bY P g args rets f:=by
 intro x y hy
 rw [← hb] at hy
 unfold bI at hy
 obtain ⟨hlen,hy⟩:=aM hy
 obtain ⟨⟨ex,F',H'⟩,h1,h2⟩:=jO hE.callee hP.mixed c _ _ _ _ hl hy
 obtain ⟨vs,q,hex,hvs,hq,hd⟩ : ∃ vs q,(ex = .normal ∨ ex = .ret)∧mY P F' H' fn.results.toList = some vs∧aNT H' (fC vs) = some q∧aL8 rets q = some y:=by
  unfold aKT at h1
  split at h1
  ·cases h1
  ·rename_i hne
   split at h1
   ·rename_i vs hvs
    split at h1
    ·rename_i q hq
     refine ⟨vs,q,?_,hvs,hq,h1⟩
     cases ex with
     | normal=>exact .inl rfl
     | ret=>exact .inr rfl
     | exit i=>exact absurd rfl (hne i)
    ·cases h1
   ·cases h1
 have hcall : ∀ {n0 G μ w us},aV n0 G μ [] w→VRs w G μ (iP args x) us→pL P n0 w G μ g us.toArray (fC vs) H':=by
  intro n0 G μ w us hW hv
  refine ⟨enters hg (hP.names g fn hg) (by rw [hc]; rfl) _ _,calls_of_wp hg hc ?_⟩
  have hI : I n0 w G μ fn.ntmps (start aU 0 (iP args x)) [] ⟨us.toArray ++ Array.replicate (fn.ntmps - us.toArray.size) undef,[]⟩ w:=⟨G,μ,Ext.refl _ _ _ _,hW,rA (by simpa using hv) (Nat.le_of_ble_eq_true hlen)⟩
  refine wp_mono (h2 n0 w G μ _ w (fun r=>hW.top r (Nat.zero_le _)) hI) ?_
  rintro e a' w' ⟨rfl,G',μ',e',hW',hF'⟩
  obtain ⟨ws,h3,h4⟩:=lM (P:=P) hW' hF' hvs
  have hres : (results fn a'.tmps).run P w' = .ok (if hh : ws.toArray.size = 1 then ws.toArray[0] else .tuple ws.toArray) w':=by
   rw [tL,Array.mapM_eq_mapM_toList]
   simp only [Sem.run_bind,Sem.run_map,h3,Result.andThen_ok,Sem.run_pure]
  have hpost : a'.defers = []∧∃ v,(results fn a'.tmps).run P w' = .ok v w'∧(∃ v' G'' μ'',Ending.returned v = .returned v'∧Ext n0 w G μ w' G'' μ''∧aV n0 G'' μ'' H' w'∧VR w' G'' μ'' (fC vs) v') :=
   ⟨hF'.defers,_,hres,_,G',μ',rfl,e',hW',nH h4⟩
  rcases hex with rfl | rfl
  ·exact hpost
  ·exact hpost
 have hp:=MA hcall (A5 hq).1 (A5 hq).2
 intro w G us hlt hv
 obtain ⟨h3,h4⟩:=hp w G us hlt hv
 refine ⟨h3,h4.mono ?_⟩
 rintro e w' ⟨v',G',rfl,e1,e2,e3⟩
 exact ⟨v',G',rfl,e1,e2,M4 hd e3⟩
end
end Go.PM
set_option linter.unusedSimpArgs false
set_option linter.unusedVariables false
namespace Go.PM
open Go Go.RowKit Go.ChangeShapes Go.WideShapes Go.ChangeAt Go.Joins
def WF : (t : Ty)→t.den→Prop
 | .int k,x=>(Lit.int k x).wf = true
 | .bool,_=>True
 | .str,s=>s.size ≤ maxLen
 | .hnd _,_=>True
 | .rows _,_=>True
 | .list t,l=>l.length ≤ maxLen∧∀ a ∈ l,WF t a
 | .prod a b,(x,y)=>WF a x∧WF b y
abbrev GW (w : World) : Gd:=Gd.of fun b=>b < w.heap.size
section
variable {P : Program}
def OpK (P : Program) (t : TypeId) (k : Kd) (W : k.den→Prop) : Prop :=
 ∀ {H : Type} {en : TypeId×Value→H} {w : World} {base b0 : Nat} {spare : Nat→Bool} {held : Bool} {r : Reach} {v : Value} {d : DataW H} {p : List MemPlace},
  Value.okWide P w r b0 t v→DataW.Trod en P w base spare held t v d p→∃ x : k.den,VR w (GW w) aL (oR k x 0) v∧W x
theorem aQE {t : TypeId} {k : IntKind} (ht : P.underlying t = some (.int k)) : OpK P t (.int k) (WF (.int k)):=by
 intro H en w base b0 spare held r v d p hv h
 obtain ⟨n,rfl,-,-,wf⟩:=open_int ht hv h
 exact ⟨n,by rw [oR,VR],wf⟩
theorem aVT {t : TypeId} (ht : P.underlying t = some .bool) : OpK P t .bool (WF .bool):=by
 intro H en w base b0 spare held r v d p hv h
 obtain ⟨b,rfl⟩:=okWide_bool ht hv
 exact ⟨b,by rw [oR,VR],trivial⟩
theorem aYE {g : FuncId} {args : List Kd} {f : aI args→Option (aI [.bool])} (hf : bY P g args [.bool] f) {x : aI args} (hx : f x = some (true,())) {w : World} (hT : Lt w fun b=>b < w.heap.size) {vs : Array Value} (hv : VRs w (GW w) aL (iP args x) vs.toList) :
  Calls P g vs w fun e w'=>e = .returned (.bool true)∧Below w.heap.size w w':=by
 obtain ⟨-,h⟩:=hf x _ hx w (fun b=>b < w.heap.size) vs hT hv
 refine h.mono ?_
 rintro e w' ⟨v',G',rfl,e1,-,e3⟩
 refine ⟨?_,e1.os,e1.tape,e1.output,e1.size,fun b hb=>e1.old b hb (Nat.not_le.2 hb)⟩
 have e3 : VR w' (Gd.of G') aL (.lit (.bool true)) v':=e3
 rw [VR] at e3
 rw [e3]
theorem aBU {w : World} {G : Gd} {p : PV} {v : Value} {ps : List PV} {vs : List Value} (h : VR w G aL p v) (k : VRs w G aL ps vs) : VRs w G aL (p :: ps) (v :: vs):=by
 rw [VRs]; exact ⟨v,vs,rfl,h,k⟩
theorem aZ2 {w : World} {G : Gd} : VRs w G aL [] []:=by rw [VRs]
end
end Go.PM
set_option linter.unusedSimpArgs false
set_option linter.unusedVariables false
namespace Go.PM
open Go Go.ChangeShapes Go.WideShapes Go.ChangeAt Go.RowKit Go.Joins
theorem aE7 {H : Type} {enc : TypeId×Value→H} {P : Program} (hl : laidOutB P = true) {W W' : World} (hb : Below W.heap.size W W') :
  ∀ (ts : List TypeId) (vs : List Value) (ds : List (DataW H)) (ps : List MemPlace),(∀ t ∈ ts,P.readableRec t = true∧t < P.types.size)→(∀ x ∈ ps,x.block < W.heap.size) →
   DataW.TrodAll enc P W 0 (fun _=>true) true ts vs ds ps→DataW.TrodAll enc P W' 0 (fun b=>decide (b < W.heap.size)) true ts vs ds ps
 | [],vs,ds,ps,_,_,h=>by
  unfold DataW.TrodAll at h ⊢
  split at h <;> simp_all
 | t :: ts,vs,ds,ps,ht,hlt,h=>by
  obtain ⟨v,vs',d,ds',p,q,rfl,rfl,rfl,h1,h2⟩:=trodAll_cons h
  exact ⟨p,q,Below.trod hl (ht t (by simp)).1 (ht t (by simp)).2 h1 hb (fun x hx=>hlt x (by simp [hx])),aE7 hl hb ts vs' ds' q (fun t h=>ht t (by simp [h])) (fun x hx=>hlt x (by simp [hx])) h2,rfl⟩
theorem aMM {P : Program} {ts : List TypeId} (h : (ts.all fun t=>P.readableRec t && decide (t < P.types.size)) = true) : ∀ t ∈ ts,P.readableRec t = true∧t < P.types.size:=by
 intro t ht
 have:=List.all_eq_true.1 h t ht
 simpa using this
theorem aOW {H : Type} {enc : TypeId×Value→H} {P : Program} {f : Func} {s : ChangeSpec} {W W' : World} {args : Array Value} {ds : List (DataW H)} {p : List MemPlace} {tb : TypeId} (hl : laidOutB P = true)
  (hts : ∀ t ∈ f.params.toList,P.readableRec t = true∧t < P.types.size) (hr : f.resultTypes = #[tb]) (htb : P.underlying tb = some .bool)
  (hf1 : (s.fn H (ds ++ [])).results = [.lit (.bool true)]) (hf2 : (s.fn H (ds ++ [])).args = ds) (hf3 : (s.fn H (ds ++ [])).vars = []) (hv : s.vars = [])
  (hW : DataW.Whole enc P f.params.toList s.vars false W args.toList ds [] p) (hb : Below W.heap.size W W') :
  ∃ v,Ending.returned (.bool true) = Ending.returned v∧s.post enc P f false true false false W args v W':=by
 have hW':=hW
 obtain ⟨q,q',hA,hV,rfl,-,-⟩:=hW
 refine ⟨_,rfl,ds,[],_,[],q,[],hW',?_,?_,?_,hb.frame _,fun h=>by cases h⟩
 ·rw [hf1,hr]; exact trodAll_mk1 (shut_bool htb true)
 ·rw [hf2]; exact aE7 hl hb _ _ _ _ hts (fun x hx=>hW'.lt x (by simp [hx])) hA
 ·rw [hf3,hv]; rfl
end Go.PM
namespace Go.Proofs.YtjgapmocogjkmaaGreatDoor
theorem Tryz.own : ownKnob Tryz.prog.godebug = none:=by kernel_rfl
theorem Tryz.laidOut : laidOutB Tryz.prog = true:=by kernel_rfl
end Go.Proofs.YtjgapmocogjkmaaGreatDoor
set_option linter.unusedSimpArgs false
set_option linter.unusedVariables false
namespace Go.Proofs.YtjgapmocogjkmaaGreatDoor
open Go Go.ChangeShapes Go.WideShapes Go.ChangeAt Go.RowKit Go.Joins Go.PM
set_option maxRecDepth 100000
abbrev aLL : List (String×DataW Unit):=[("math/bits.deBruijn32tab",Rows.laid_math_bits_deBruijn32tab),("math/bits.deBruijn64tab",Rows.laid_math_bits_deBruijn64tab),("internal/strconv.uint64pow10",Rows.laid_internal_strconv_uint64pow10),("strconv.ErrRange",Rows.laid_strconv_ErrRange),("strconv.ErrSyntax",Rows.laid_strconv_ErrSyntax)]
theorem aXQ (os : Os) (args : Array Value) : laidMetH Tryz.prog aLL ((World.doorLaid Tryz.prog 4000 os).forCall (fun _ _=>0) ⟨#[],args,[]⟩).memory :=
 laidMetH_of_parts3 (fuel:=8) (laidMet_of_run' 8 (by kernel_rfl) (by kernel_rfl)) (by kernel_rfl) (by kernel_rfl)
theorem aJ1 {H : Type} {enc : TypeId×Value→H} {P : Program} {w : World} {base : Nat} {sp : Nat→Bool} {fuel : Nat} {t : TypeId} {ms} {cs : List Value} {n : String} {d : DataW H} {p : List MemPlace}
  (ht : P.underlying t = some (.interface ms)) (h : DataW.trod enc P w base sp false fuel t cs = some (.iface n d,p)) : ∃ u v,cs = [.iface u v]:=by
 cases fuel with
 | zero=>simp [DataW.trod] at h
 | succ fuel =>
  simp only [DataW.trod,ht] at h
  split at h <;> first
   | exact ⟨_,_,rfl⟩
   | (exfalso; simp_all; done)
theorem aLV {P : Program} {w : World} {n : String} {g : Nat} {cs : Array Value} (hg : P.globalNamed n = some g) (h : w.var? P n = some cs) : ∃ t fr,w.heap[g]? = some (.cells cs t fr):=by
 unfold World.var? at h
 rw [hg] at h
 simp only [Option.bind_some] at h
 split at h
 ·rename_i c t fr e
  cases h
  exact ⟨t,fr,e⟩
 ·cases h
theorem aAZ {w : World} {n : String} {g : Nat} {t : TypeId} {ms} {m : String} {d : DataW Unit} (hg : Tryz.prog.globalNamed n = some g) (hty : (Tryz.prog.globals[g]?).map (·.type) = some t) (ht : Tryz.prog.underlying t = some (.interface ms))
  (h : Lib.VarReads Tryz.prog w n (.iface m d)) : Y7 w.heap[g]?:=by
 obtain ⟨g',t',cs,fuel,p,hg',ht',hvar,hd⟩:=h
 obtain rfl:=Option.some.inj (hg.symm.trans hg')
 obtain rfl:=Option.some.inj (hty.symm.trans ht')
 obtain ⟨u,v,e⟩:=aJ1 ht hd
 obtain ⟨t2,fr,e2⟩:=aLV hg hvar
 refine ⟨u,v,t2,fr,?_⟩
 rw [e2]
 congr 2
 exact Array.toList_inj.1 e
theorem a0Y {w : World} (h : laidMetH Tryz.prog aLL w) : Lt w fun b=>b < w.heap.size:=by
 rw [MakeChecks.laidMetH_plain _ _ _ (by kernel_rfl)] at h
 have lt : ∀ {g : Nat} {q : Option Obj→Prop},q w.heap[g]?→¬ q none→g < w.heap.size:=fun {g q} h1 h2=>by
  rcases Nat.lt_or_ge g w.heap.size with h | h
  ·exact h
  ·rw [Array.getElem?_eq_none h] at h1
   exact absurd h1 h2
 have nIf : ¬ Y7 none:=fun ⟨_,_,_,_,e⟩=>by cases e
 refine ⟨fun _ h=>h,fun p hp=>?_⟩
 have main : p.2 w.heap[p.1]?∧¬ p.2 none:=by
  rcases List.mem_cons.1 hp with rfl | hp
  ·refine ⟨?_,fun ⟨_,_,e⟩=>by cases e⟩
   obtain ⟨g',t',cs,fuel,q,hg',ht',hvar,hd⟩:=Lib.laidMet.reads h (n:="internal/strconv.uint64pow10") (d:=Rows.laid_internal_strconv_uint64pow10) (.tail _ (.tail _ (.head _)))
   obtain rfl:=Option.some.inj ((show Tryz.prog.globalNamed "internal/strconv.uint64pow10" = some 0 by kernel_rfl).symm.trans hg')
   have hd : DataW.trod (fun _=>()) Tryz.prog w 0 (fun _=>true) false fuel t' cs.toList = some (Lib.tabData .u64 [1,10,100,1000,10000,100000,1000000,10000000,100000000,1000000000,10000000000,100000000000,1000000000000,10000000000000,100000000000000,1000000000000000,10000000000000000,100000000000000000,1000000000000000000,10000000000000000000],q):=hd
   obtain ⟨t,hty⟩ : ∃ t,(Tryz.prog.globals[0]?).map (·.type) = some t:=⟨_,ht'⟩
   obtain rfl:=Option.some.inj (hty.symm.trans ht')
   have hcs:=Lib.cells_of_tab (P:=Tryz.prog) (t:=275) (e:=162) (n:=20) Tryz.underlying275 Tryz.underlying162 (by kernel_rfl) (by kernel_rfl) (show DataW.trod (fun _=>()) Tryz.prog w 0 (fun _=>true) false fuel 275 cs.toList = _ by
    rw [← Option.some.inj ((show (Tryz.prog.globals[0]?).map (·.type) = some 275 by kernel_rfl).symm.trans hty)] at hd
    exact hd)
   obtain ⟨t2,fr,e2⟩:=aLV (by kernel_rfl) hvar
   refine ⟨t2,fr,?_⟩
   rw [e2]
   congr 2
   exact Array.toList_inj.1 hcs
  ·rcases List.mem_cons.1 hp with rfl | hp
   ·exact ⟨aAZ (n:="strconv.ErrSyntax") (t:=192) (by kernel_rfl) (by kernel_rfl) Tryz.underlying192 (Lib.laidMet.reads h (.tail _ (.tail _ (.tail _ (.tail _ (.head _)))))),nIf⟩
   ·rcases List.mem_cons.1 hp with rfl | hp
    ·exact ⟨aAZ (n:="strconv.ErrRange") (t:=192) (by kernel_rfl) (by kernel_rfl) Tryz.underlying192 (Lib.laidMet.reads h (.tail _ (.tail _ (.tail _ (.head _))))),nIf⟩
    ·cases hp
 exact ⟨lt main.1 main.2,main.1⟩
end Go.Proofs.YtjgapmocogjkmaaGreatDoor
set_option linter.unusedSimpArgs false
set_option linter.unusedVariables false
namespace Go.PM
open Go Go.RowKit
structure Ent where
 g : FuncId
 args : List Kd
 rets : List Kd
 f : aI args→Option (aI rets)
def Ent.OK (P : Program) (e : Ent) : Prop:=bY P e.g e.args e.rets e.f
def aFZ : List Ent→FuncId→List PV→Option Res
 | [],_,_=>none
 | e :: r,g,qs=>bif Nat.beq e.g g then (match aQY e.args e.rets e.f qs with
   | some s=>some s
   | none=>aFZ r g qs)
  else aFZ r g qs
def bE (l : List Ent) : Env:=⟨aFZ l,fun _ _ _=>none,fun _=>false⟩
theorem SN {P : Program} : ∀ {l : List Ent},(∀ e ∈ l,e.OK P)→∀ g qs r,aFZ l g qs = some r→∀ y,r.val = some y→xK P g qs (r.out y)
 | [],_,g,qs,r,h=>by cases h
 | e :: l,hl,g,qs,r,h=>by
  simp only [aFZ] at h
  cases hb : Nat.beq e.g g with
  | true =>
   rw [hb] at h
   have:=Nat.eq_of_beq_eq_true hb
   subst this
   cases hs : aQY e.args e.rets e.f qs with
   | some s =>
    rw [hs] at h
    have h:=Option.some.inj h
    subst h
    exact aZI (hl e List.mem_cons_self) hs
   | none =>
    rw [hs] at h
    exact SN (fun e he=>hl e (List.mem_cons_of_mem _ he)) _ qs r h
  | false =>
   rw [hb] at h
   exact SN (fun e he=>hl e (List.mem_cons_of_mem _ he)) g qs r h
theorem aXH {P : Program} {l : List Ent} (hl : ∀ e ∈ l,e.OK P) : aZ P (bE l) where
 pure:=SN hl
 shr:=fun _ _ _ _ h=>by cases h

def aHY (P : Program) : List Ent→Prop
 | []=>True
 | e :: r=>e.OK P∧aHY P r
theorem OZ {P : Program} : ∀ {l : List Ent},aHY P l→∀ e ∈ l,e.OK P
 | [],_,e,he=>by simp at he
 | a :: r,h,e,he=>by
  rcases List.mem_cons.1 he with rfl | he
  ·exact h.1
  ·exact OZ h.2 e he
theorem aW {P : Program} {l : List Ent} (h : aHY P l) : aZ P (bE l):=aXH (OZ h)
def aIA (P : Program) (nt : Nat) (lt : Nat→Option aS) : List Code→Prop
 | []=>True
 | a :: r=>(∀ s,lt (aG a) = some s→cE P nt a s)∧aIA P nt lt r
theorem WI {P : Program} {nt : Nat} {lt : Nat→Option aS} : ∀ {l : List Code},aIA P nt lt l→∀ a ∈ l,∀ s,lt (aG a) = some s→cE P nt a s
 | [],_,a,ha=>by simp at ha
 | b :: r,h,a,ha=>by
  rcases List.mem_cons.1 ha with rfl | ha
  ·exact h.1
  ·exact WI h.2 a ha
theorem aD {P : Program} {nt : Nat} {lt : Nat→Option aS} {c : Code} {l : List Code} (hc : aF c = l) (h : aIA P nt lt l) : ∀ a ∈ aF c,∀ s,lt (aG a) = some s→cE P nt a s:=by
 rw [hc]; exact WI h
theorem cG {P : Program} {nt : Nat} {lt : Nat→Option aS} {a : Code} {i : Nat} {s0 : aS} (hf : aG a = i) (hlt : lt i = some s0) (h : cE P nt a s0) : ∀ s,lt (aG a) = some s→cE P nt a s:=by
 intro s hs
 rw [hf,hlt] at hs
 cases hs
 exact h

def aT (fn : Func) : Code:=match fn.body with
 | some c=>c
 | none=>.skip
def dT (c : Code) (i : Nat) : Code:=(aF c).getD i .skip
def a2Y (l : List Func) : Bool:=l.all fun f=>!(f.name == "runtime.NumGoroutine")
theorem aSI {P : Program} (h1 : P.follows .mixedOrders = true) (h2 : a2Y P.funcs.toList = true) : B0 P where
 mixed:=h1
 names g fn hg:=by
  have hm : fn ∈ P.funcs.toList:=by
   rw [← Array.getElem?_toList] at hg
   exact List.mem_of_getElem? hg
  have:=List.all_eq_true.1 h2 fn hm
  simpa using this

theorem VN {α : Type 1} {b : Bool} {x : Option α} {y : α} (h : (bif b then x else none) = some y) : b = true∧x = some y:=by
 cases b with
 | true=>exact ⟨rfl,h⟩
 | false=>cases h

abbrev Shr:=FuncId×(List PV→Heap→Option aM8)
def FH (P : Program) (s : Shr) : Prop:=SortOKs P s.1 s.2
where SortOKs (P : Program) (g : FuncId) (f : List PV→Heap→Option aM8) : Prop:=∀ args H r,f args H = some r→∀ y,r.val = some y→∀ {n0 G μ w vs},aV n0 G μ H w→VRs w G μ args vs→pL P n0 w G μ g vs.toArray (r.out y).1 (r.out y).2
def a3F : List Shr→FuncId→List PV→Heap→Option aM8
 | [],_,_,_=>none
 | s :: r,g,args,H=>bif Nat.beq g s.1 then s.2 args H else a3F r g args H
def shE : List Shr→FuncId→Bool
 | [],_=>false
 | s :: r,g=>bif Nat.beq g s.1 then true else shE r g
def aNI (P : Program) : List Shr→Prop
 | []=>True
 | s :: r=>FH P s∧aNI P r
theorem aQ2 {P : Program} : ∀ {l : List Shr},aNI P l→∀ g args H r,a3F l g args H = some r→∀ y,r.val = some y→∀ {n0 G μ w vs},aV n0 G μ H w→VRs w G μ args vs→pL P n0 w G μ g vs.toArray (r.out y).1 (r.out y).2
 | [],_,g,args,H,r,h=>by cases h
 | s :: l,hl,g,args,H,r,h=>by
  simp only [a3F] at h
  cases hb : Nat.beq g s.1 with
  | true =>
   rw [hb] at h
   have:=Nat.eq_of_beq_eq_true hb
   subst this
   exact hl.1 args H r h
  | false =>
   rw [hb] at h
   exact aQ2 hl.2 g args H r h
def aIL (l : List Ent) (s : List Shr) : Env:=⟨aFZ l,a3F s,shE s⟩
theorem DX {P : Program} {l : List Ent} {s : List Shr} (h : aHY P l) (hs : aNI P s) : aZ P (aIL l s) where
 pure:=SN (OZ h)
 shr:=aQ2 hs
end Go.PM
set_option linter.unusedSimpArgs false
set_option linter.unusedVariables false
namespace Go.PM
open Go Go.RowKit Go.Proofs
set_option maxRecDepth 100000
theorem aK : B0 Tryz.prog:=aSI (by kernel_rfl) (by kernel_rfl)
end Go.PM
set_option linter.unusedSimpArgs false
set_option linter.unusedVariables false
namespace Go.PM
open Go Go.RowKit
def posOf : List Nat→Nat→Option Nat
 | [],_=>none
 | x :: l,r=>bif Nat.beq x r then some 0 else match posOf l r with
  | some i=>some (i + 1)
  | none=>none
def ZJ : List Nat→Bool
 | []=>true
 | x :: l=>(match posOf l x with | none=>true | some _=>false) && ZJ l
def wU (pm : List Nat) : PV→Option PV
 | .lit v=>some (.lit v)
 | .vals cs n cap=>some (.vals cs n cap)
 | .iptr cs=>some (.iptr cs)
 | .tl t l cap e=>some (.tl t l cap e)
 | .tp t l i off e=>some (.tp t l i off e)
 | .row j lo n sz=>some (.row j lo n sz)
 | .rp j off=>some (.rp j off)
 | .mp j=>some (.mp j)
 | .junk=>some .junk
 | .hptr r off=>match posOf pm r with | some i=>some (.hptr i off) | none=>none
 | .hs r off len cap sz=>match posOf pm r with | some i=>some (.hs i off len cap sz) | none=>none
 | .own r sz=>match posOf pm r with | some i=>some (.own i sz) | none=>none
 | .op r j off sz=>match posOf pm r with | some i=>some (.op i j off sz) | none=>none
 | .win r lo n sz=>match posOf pm r with | some i=>some (.win i lo n sz) | none=>none
 | .agg cs=>match renPs pm cs with | some qs=>some (.agg qs) | none=>none
 | .tuple cs=>match renPs pm cs with | some qs=>some (.tuple qs) | none=>none
 | .clo fn f c=>match renPs pm f,renPs pm c with | some f',some c'=>some (.clo fn f' c') | _,_=>none
where renPs (pm : List Nat) : List PV→Option (List PV)
 | []=>some []
 | p :: ps=>match wU pm p,renPs pm ps with | some q,some qs=>some (q :: qs) | _,_=>none
def aE4 (pm : List Nat) (H : Heap) : List Nat→Option Heap
 | []=>some []
 | r :: l=>match fZ H r with
  | some k=>match (bif k.tag.isSome then some k else match wU.renPs pm k.cells with | some cs=>some { k with cells:=cs } | none=>none),aE4 pm H l with
   | some k',some H'=>some (some k' :: H')
   | _,_=>none
  | none=>none
def aVH (pm : List Nat) (F : Frm) : List Nat→Option Frm
 | []=>some []
 | t :: l=>match wU pm (cQ F t),aVH pm F l with
  | some p,some F'=>some ((t,p) :: F')
  | _,_=>none
def a92 (T pm : List Nat) : Bool:=T.all fun r=>match pm[r]? with
 | some s=>Nat.beq s r
 | none=>false
def aH4 (T pm slots : List Nat) (F : Frm) (H : Heap) : Option (Frm×Heap) :=
 bif ZJ pm && a92 T pm then match aE4 pm H pm,aVH pm F slots with
  | some H',some F'=>some (F',H')
  | _,_=>none
 else none
def TD (s i : Nat) (et : TypeId) (ty : Ty) (H : Heap) : Heap:=match fZ H s with
 | some k=>match k.cells.drop i with
  | .tl _ [] (some 0) _ :: rest=>bif !k.tag.isSome then ((H ++ [some ⟨aJ ty [],et,true,false,some ⟨ty,[]⟩⟩] : Heap).set s (some { k with cells:=k.cells.take i ++ .own H.length ty.size :: rest })) else H
  | .lit (.slice none m c) :: rest=>bif Nat.beq m 0 && Nat.beq c 0 && !k.tag.isSome then ((H ++ [some ⟨aJ ty [],et,true,false,some ⟨ty,[]⟩⟩] : Heap).set s (some { k with cells:=k.cells.take i ++ .own H.length ty.size :: rest })) else H
  | _=>H
 | none=>H
def eS : List (Nat×Kd)→Frm→Heap→Frm×Heap
 | [],F,H=>(F,H)
 | (t,.own e ty) :: r,F,H=>match cQ F t with
  | .lit (.slice none m c)=>bif Nat.beq m 0 && Nat.beq c 0 then eS r ((t,.own H.length ty.size) :: F) (H ++ [some ⟨aJ ty [],e,true,false,some ⟨ty,[]⟩⟩]) else eS r F H
  | .tl _ [] (some 0) _=>eS r ((t,.own H.length ty.size) :: F) (H ++ [some ⟨aJ ty [],e,true,false,some ⟨ty,[]⟩⟩])
  | _=>eS r F H
 | (t,.bown e et ty) :: r,F,H=>match cQ F t with
  | .hptr s _=>match fZ H s with
   | some k=>match k.cells with
    | [.lit (.slice none m c)]=>bif Nat.beq m 0 && Nat.beq c 0 && !k.tag.isSome then eS r F ((H ++ [some ⟨aJ ty [],et,true,false,some ⟨ty,[]⟩⟩] : Heap).set s (some { k with cells:=[.own H.length ty.size] })) else eS r F H
    | _=>eS r F H
   | none=>eS r F H
  | _=>eS r F H
 | (t,.bag _ t1 et ty _) :: r,F,H=>match cQ F t with
  | .hptr s _=>match fZ H s with
   | some k=>match k.cells.drop t1.size with
    | .tl _ [] (some 0) _ :: rest=>bif !k.tag.isSome then eS r F ((H ++ [some ⟨aJ ty [],et,true,false,some ⟨ty,[]⟩⟩] : Heap).set s (some { k with cells:=k.cells.take t1.size ++ .own H.length ty.size :: rest })) else eS r F H
    | .lit (.slice none m c) :: rest=>bif Nat.beq m 0 && Nat.beq c 0 && !k.tag.isSome then eS r F ((H ++ [some ⟨aJ ty [],et,true,false,some ⟨ty,[]⟩⟩] : Heap).set s (some { k with cells:=k.cells.take t1.size ++ .own H.length ty.size :: rest })) else eS r F H
    | _=>eS r F H
   | none=>eS r F H
  | _=>eS r F H
 | (t,.bag2 _ t1 et ty eu u) :: r,F,H=>match cQ F t with
  | .hptr s _=>eS r F (TD s (t1.size + 1) eu u (TD s t1.size et ty H))
  | _=>eS r F H
 | _ :: r,F,H=>eS r F H
def qH : List (Nat×Kd)→Frm→Heap→Frm×Heap
 | [],F,H=>(F,H)
 | (t,.box _ (.list _)) :: r,F,H=>match cQ F t with
  | .hptr s _=>match fZ H s with
   | some k=>match k.cells with
    | [.own u sz]=>match fZ H u with
     | some ku=>match ku.tag with
      | some g=>bif !k.tag.isSome && !Nat.beq u s then qH r F (((H.set u (some { ku with frozen:=true }))).set s (some { k with cells:=[qL g.t g.l none] })) else qH r F H
      | none=>qH r F H
     | none=>qH r F H
    | _=>qH r F H
   | none=>qH r F H
  | _=>qH r F H
 | _ :: r,F,H=>qH r F H
def LK : List (Nat×Kd)→Frm→Heap→Option (List Nat)
 | [],_,_=>some []
 | (t,.own _ _) :: r,F,H=>match cQ F t,LK r F H with
  | .own s _,some l=>some (s :: l)
  | _,_=>none
 | (t,.box _ _) :: r,F,H=>match cQ F t,LK r F H with
  | .hptr s _,some l=>some (s :: l)
  | _,_=>none
 | (t,.bown _ _ _) :: r,F,H=>match cQ F t,LK r F H with
  | .hptr s _,some l=>match fZ H s with
   | some k=>match k.cells with
    | [.own u _]=>some (s :: u :: l)
    | _=>none
   | none=>none
  | _,_=>none
 | (t,.bag _ t1 _ _ _) :: r,F,H=>match cQ F t,LK r F H with
  | .hptr s _,some l=>match fZ H s with
   | some k=>match k.cells.drop t1.size with
    | .own u _ :: _=>some (s :: u :: l)
    | _=>none
   | none=>none
  | _,_=>none
 | (t,.bag2 _ t1 _ _ _ _) :: r,F,H=>match cQ F t,LK r F H with
  | .hptr s _,some l=>match fZ H s with
   | some k=>match k.cells.drop t1.size with
    | [.own u _,.own v _]=>some (s :: u :: v :: l)
    | _=>none
   | none=>none
  | _,_=>none
 | (_,.ar _ _) :: r,F,H=>match Q6 0 H,LK r F H with
  | some (ra,_),some l=>some (ra :: l)
  | _,_=>none
 | _ :: r,F,H=>LK r F H
def pO (T : List Nat) (sh : List (Nat×Kd)) (F : Frm) (H : Heap) : Option (Shape.den sh) :=
 match rC sh F H with
 | (F0,H0)=>match qH sh F0 H0 with
  | (F1,H1)=>match eS sh F1 H1 with
   | (F2,H2)=>match LK sh F2 H2 with
    | some pm=>match aH4 T pm (slotsOf sh) F2 H2 with
     | some (F',H')=>bif Nat.beq H'.length (aEJ sh) then aWP sh F' H' 0 else none
     | none=>none
    | none=>none

section
variable {P : Program} {n0 : Nat→Prop} {w wi : World} {G Gi : Gd} {μ μi μ' : Mp} {H : Heap} {F : Frm} {a : Act} {nt : Nat}
theorem wA : ∀ {l : List Nat} {r i : Nat},posOf l r = some i→l[i]? = some r
 | [],r,i,h=>by cases h
 | x :: l,r,i,h=>by
  simp only [posOf] at h
  cases hb : Nat.beq x r with
  | true =>
   rw [hb] at h
   simp only [cond_true,Option.some.injEq] at h
   subst h
   rw [Nat.eq_of_beq_eq_true hb]; rfl
  | false =>
   rw [hb] at h
   simp only [cond_false] at h
   split at h
   ·rename_i j hj
    simp only [Option.some.injEq] at h
    subst h
    simpa using wA hj
   ·cases h
theorem OX : ∀ {l : List Nat} {r i : Nat},posOf l r = none→l[i]? = some r→False
 | [],r,i,_,h=>by simp at h
 | x :: l,r,i,hn,h=>by
  simp only [posOf] at hn
  cases hb : Nat.beq x r with
  | true=>rw [hb] at hn; simp at hn
  | false =>
   rw [hb] at hn
   simp only [cond_false] at hn
   split at hn
   ·cases hn
   ·rename_i hp
    cases i with
    | zero =>
     simp only [List.getElem?_cons_zero,Option.some.injEq] at h
     subst h; simp at hb
    | succ i=>exact OX hp (by simpa using h)
theorem OW : ∀ {l : List Nat} {i j r : Nat},ZJ l = true→l[i]? = some r→l[j]? = some r→i = j
 | [],i,j,r,_,h,_=>by simp at h
 | x :: l,i,j,r,hn,h1,h2=>by
  simp only [ZJ,Bool.and_eq_true] at hn
  obtain ⟨hp,hn⟩:=hn
  have hx : posOf l x = none:=by
   cases hq : posOf l x with
   | none=>rfl
   | some k=>rw [hq] at hp; cases hp
  cases i with
  | zero =>
   simp only [List.getElem?_cons_zero,Option.some.injEq] at h1
   subst h1
   cases j with
   | zero=>rfl
   | succ j=>exact (OX hx (by simpa using h2)).elim
  | succ i =>
   cases j with
   | zero =>
    simp only [List.getElem?_cons_zero,Option.some.injEq] at h2
    subst h2
    exact (OX hx (by simpa using h1)).elim
   | succ j=>exact congrArg (· + 1) (OW (r:=r) hn (by simpa using h1) (by simpa using h2))

def KT (μ : Mp) (pm : List Nat) : Mp:=⟨fun i=>match pm[i]? with | some r=>μ.loc r | none=>none,fun i=>match pm[i]? with | some r=>μ.len r | none=>none⟩
theorem lQ {pm : List Nat} {i r : Nat} (h : pm[i]? = some r) : (KT μ pm).loc i = μ.loc r∧(KT μ pm).len i = μ.len r:=by simp [KT,h]

mutual
theorem aQW {pm : List Nat} : ∀ (p q : PV) (v : Value),wU pm p = some q→VR w G μ p v→VR w G (KT μ pm) q v
 | .lit u,q,v,h,hv=>by simp only [wU,Option.some.injEq] at h; subst h; rw [VR] at hv ⊢; exact hv
 | .vals ..,q,v,h,hv=>by simp only [wU,Option.some.injEq] at h; subst h; rw [VR] at hv ⊢; exact hv
 | .iptr _,q,v,h,hv=>by simp only [wU,Option.some.injEq] at h; subst h; rw [VR] at hv ⊢; exact hv
 | .tl ..,q,v,h,hv=>by simp only [wU,Option.some.injEq] at h; subst h; rw [VR] at hv ⊢; exact hv
 | .tp ..,q,v,h,hv=>by simp only [wU,Option.some.injEq] at h; subst h; rw [VR] at hv ⊢; exact hv
 | .row ..,q,v,h,hv=>by simp only [wU,Option.some.injEq] at h; subst h; rw [VR] at hv ⊢; exact hv
 | .rp ..,q,v,h,hv=>by simp only [wU,Option.some.injEq] at h; subst h; rw [VR] at hv ⊢; exact hv
 | .mp _,q,v,h,hv=>by simp only [wU,Option.some.injEq] at h; subst h; rw [VR] at hv ⊢; exact hv
 | .junk,q,v,h,hv=>by simp only [wU,Option.some.injEq] at h; subst h; rw [VR]; trivial
 | .hptr r off,q,v,h,hv=>by
  simp only [wU] at h
  split at h
  ·rename_i i hi
   simp only [Option.some.injEq] at h
   subst h
   have:=lQ (μ:=μ) (wA hi)
   rw [VR] at hv ⊢; rw [this.1]; exact hv
  ·cases h
 | .hs r off l c s,q,v,h,hv=>by
  simp only [wU] at h
  split at h
  ·rename_i i hi
   simp only [Option.some.injEq] at h
   subst h
   have:=lQ (μ:=μ) (wA hi)
   rw [VR] at hv ⊢; rw [this.1]; exact hv
  ·cases h
 | .own r s,q,v,h,hv=>by
  simp only [wU] at h
  split at h
  ·rename_i i hi
   simp only [Option.some.injEq] at h
   subst h
   have:=lQ (μ:=μ) (wA hi)
   rw [VR] at hv ⊢; rw [this.1,this.2]; exact hv
  ·cases h
 | .op r j off s,q,v,h,hv=>by
  simp only [wU] at h
  split at h
  ·rename_i i hi
   simp only [Option.some.injEq] at h
   subst h
   have:=lQ (μ:=μ) (wA hi)
   rw [VR] at hv ⊢; rw [this.1]; exact hv
  ·cases h
 | .win r lo n s,q,v,h,hv=>by
  simp only [wU] at h
  split at h
  ·rename_i i hi
   simp only [Option.some.injEq] at h
   subst h
   have:=lQ (μ:=μ) (wA hi)
   rw [VR] at hv ⊢; rw [this.1,this.2]; exact hv
  ·cases h
 | .agg cs,q,v,h,hv=>by
  simp only [wU] at h
  split at h
  ·rename_i qs hq
   simp only [Option.some.injEq] at h
   subst h
   rw [VR] at hv ⊢
   obtain ⟨vs,h1,h2⟩:=hv
   exact ⟨vs,h1,AX cs qs _ hq h2⟩
  ·cases h
 | .tuple cs,q,v,h,hv=>by
  simp only [wU] at h
  split at h
  ·rename_i qs hq
   simp only [Option.some.injEq] at h
   subst h
   rw [VR] at hv ⊢
   obtain ⟨vs,h1,h2⟩:=hv
   exact ⟨vs,h1,AX cs qs _ hq h2⟩
  ·cases h
 | .clo fn f c,q,v,h,hv=>by
  simp only [wU] at h
  split at h
  ·rename_i f' c' hf hc
   simp only [Option.some.injEq] at h
   subst h
   rw [VR] at hv ⊢
   obtain ⟨fs,cs,h1,h2,h3⟩:=hv
   exact ⟨fs,cs,h1,AX f f' _ hf h2,AX c c' _ hc h3⟩
  ·cases h
theorem AX {pm : List Nat} : ∀ (ps qs : List PV) (vs : List Value),wU.renPs pm ps = some qs→VRs w G μ ps vs→VRs w G (KT μ pm) qs vs
 | [],qs,vs,h,hv=>by
  simp only [wU.renPs,Option.some.injEq] at h
  subst h
  rw [VRs] at hv ⊢; exact hv
 | p :: ps,qs,vs,h,hv=>by
  simp only [wU.renPs] at h
  split at h
  ·rename_i q qs' hq hqs
   simp only [Option.some.injEq] at h
   subst h
   rw [VRs] at hv ⊢
   obtain ⟨x,xs,h1,h2,h3⟩:=hv
   exact ⟨x,xs,h1,aQW p q x hq h2,AX ps qs' xs hqs h3⟩
  ·cases h
end
theorem aFV {pm : List Nat} : ∀ {l : List Nat} {H' : Heap},aE4 pm H l = some H'→H'.length = l.length∧∀ (i : Nat) (k' : Blk),H'[i]? = some (some k')→∃ s k,l[i]? = some s∧H[s]? = some (some k)∧((k.tag.isSome = true∧k' = k) ∨ (k.tag = none∧∃ cs,wU.renPs pm k.cells = some cs∧k' = { k with cells:=cs }))
 | [],H',h=>by
  simp only [aE4,Option.some.injEq] at h
  subst h
  exact ⟨rfl,fun i k' h=>by simp at h⟩
 | r :: l,H',h=>by
  simp only [aE4] at h
  split at h
  ·rename_i k hk
   split at h
   ·rename_i k1 H1 h1 h2
    simp only [Option.some.injEq] at h
    subst h
    obtain ⟨e1,e2⟩:=aFV h2
    refine ⟨by simp [e1],fun i k' hi=>?_⟩
    cases i with
    | zero =>
     simp only [List.getElem?_cons_zero,Option.some.injEq] at hi
     subst hi
     refine ⟨r,k,rfl,aO hk,?_⟩
     cases ht : k.tag with
     | some g =>
      rw [ht] at h1
      simp only [Option.isSome_some,cond_true,Option.some.injEq] at h1
      exact .inl ⟨rfl,h1.symm⟩
     | none =>
      rw [ht] at h1
      simp only [Option.isSome_none,cond_false] at h1
      split at h1
      ·rename_i cs hcs
       simp only [Option.some.injEq] at h1
       exact .inr ⟨rfl,cs,hcs,h1.symm⟩
      ·cases h1
    | succ i =>
     obtain ⟨s,k0,a1,a2,a3⟩:=e2 i k' (by simpa using hi)
     exact ⟨s,k0,by simpa using a1,a2,a3⟩
   ·cases h
  ·cases h
theorem aTS (hW : aV n0 G μ H w) {pm : List Nat} (hn : ZJ pm = true) {H' : Heap} (h : aE4 pm H pm = some H') : aV n0 G (KT μ pm) H' w:=by
 obtain ⟨hlen,fZ⟩:=aFV h
 refine ⟨?_,?_,?_,hW.lt,?_,hW.base,hW.rows.rel (fun r s=>pm[r]? = some s) (fun r r' s h1 h2=>OW hn h1 h2) (fun r k' hr=>?_)⟩
 case refine_5 =>
  obtain ⟨s,k,a1,a2,a3⟩:=fZ r k' hr
  refine ⟨s,k,a1,a2,?_⟩
  rcases a3 with ⟨_,rfl⟩ | ⟨_,cs,_,rfl⟩
  ·exact ⟨rfl,rfl,rfl,rfl,(lQ a1).1⟩
  ·exact ⟨rfl,rfl,rfl,rfl,(lQ a1).1⟩
 ·intro r k' b hr hb
  obtain ⟨s,k,a1,a2,a3⟩:=fZ r k' hr
  rw [(lQ a1).1] at hb
  obtain ⟨c,c1,c2,c3,c4⟩:=hW.blk s k b a2 hb
  rcases a3 with ⟨ht,rfl⟩ | ⟨ht,cs,hcs,rfl⟩
  ·refine ⟨c,c1,?_,c3,c4⟩
   obtain ⟨g,hg⟩:=Option.isSome_iff_exists.1 ht
   have:=(hW.tags s k' g a2 hg).1
   rw [this] at c2 ⊢
   exact kH (fL _ _) c2
  ·obtain ⟨vs,d1,d2⟩:=c2.values
   have d3:=AX _ _ _ hcs d1
   exact ⟨c,c1,aP.iH d3 d2,fun hg=>by rw [c3 hg]; show k.cells.length = cs.length; rw [d1.length,d3.length],c4⟩
 ·intro r k' g hr hg
  obtain ⟨s,k,a1,a2,a3⟩:=fZ r k' hr
  rw [(lQ a1).2]
  rcases a3 with ⟨ht,rfl⟩ | ⟨ht,cs,hcs,rfl⟩
  ·exact hW.tags s k' g a2 hg
  ·dsimp only at hg; rw [ht] at hg; cases hg
 ·intro r1 r2 k1 k2 b e1 e2 f1 f2 m1 m2
  obtain ⟨s1,l1,a1,a2,a3⟩:=fZ r1 k1 e1
  obtain ⟨s2,l2,b1,b2,b3⟩:=fZ r2 k2 e2
  rw [(lQ a1).1] at m1
  rw [(lQ b1).1] at m2
  have fz : ∀ {k k' : Blk},k'.frozen = false→((k.tag.isSome = true∧k' = k) ∨ (k.tag = none∧∃ cs,wU.renPs pm k.cells = some cs∧k' = { k with cells:=cs }))→k.frozen = false:=by
   rintro k k' hf (⟨_,rfl⟩ | ⟨_,cs,_,rfl⟩)
   ·exact hf
   ·exact hf
  have:=hW.inj s1 s2 l1 l2 b a2 b2 (fz f1 a3) (fz f2 b3) m1 m2
  subst this
  exact OW hn a1 b1
 ·intro r hr
  have : pm[r]? = none:=List.getElem?_eq_none (by omega)
  simp [KT,this]
theorem aKQ {pm : List Nat} : ∀ {l : List Nat} {F' : Frm},aVH pm F l = some F'→∀ t,cQ F' t = .junk ∨ wU pm (cQ F t) = some (cQ F' t)
 | [],F',h,t=>by
  simp only [aVH,Option.some.injEq] at h
  subst h
  exact .inl rfl
 | s :: l,F',h,t=>by
  simp only [aVH] at h
  split at h
  ·rename_i p F1 hp hl
   simp only [Option.some.injEq] at h
   subst h
   rw [eI]
   by_cases hs : t = s
   ·subst hs; rw [if_pos rfl]; exact .inr hp
   ·rw [if_neg hs]; exact aKQ hl t
  ·cases h
theorem aET {T pm slots : List Nat} {F' : Frm} {H' : Heap} (h : aH4 T pm slots F H = some (F',H')) (hfl : ∀ r,¬ r ∈ T→μi.loc r = none∧μi.len r = none) (hI : I n0 wi Gi μi nt F H a w) : I n0 wi Gi μi nt F' H' a w:=by
 unfold aH4 at h
 obtain ⟨hn,h⟩:=aM h
 simp only [Bool.and_eq_true] at hn
 obtain ⟨hn,hst⟩:=hn
 have stay : ∀ r,r ∈ T→pm[r]? = some r:=by
  intro r hr
  have:=List.all_eq_true.1 hst r hr
  split at this
  ·rename_i s hs
   rw [hs,Nat.eq_of_beq_eq_true this]
  ·cases this
 split at h
 ·rename_i H1 F1 h1 h2
  simp only [Option.some.injEq,Prod.mk.injEq] at h
  obtain ⟨rfl,rfl⟩:=h
  obtain ⟨G,μ,e,hW,hF⟩:=hI
  refine ⟨G,KT μ pm,?_,aTS hW hn h1,hF.size,fun t=>?_,hF.defers⟩
  ·exact {
    cW:=e.cW
    map:=fun r b hr=>by
     by_cases hT : r ∈ T
     ·rw [(lQ (stay r hT)).1]; exact e.map r b hr
     ·rw [(hfl r hT).1] at hr; cases hr
    len:=fun r b hr=>by
     by_cases hT : r ∈ T
     ·rw [(lQ (stay r hT)).2]; exact e.len r b hr
     ·rw [(hfl r hT).2] at hr; cases hr
    room:=e.room
    row:=e.row
    os:=e.os
    tape:=e.tape
    output:=e.output
    size:=e.size
    old:=e.old
    new:=e.new }
  ·rcases aKQ h2 t with h3 | h3
   ·rw [h3,VR]; trivial
   ·exact aQW _ _ _ h3 (hF.slot t)
 ·cases h

theorem uA (hW : aV n0 G μ H w) {s : Nat} {k : Blk} {cs : List PV} (hs : H[s]? = some (some k)) (ht : k.tag = none) (hc : ∀ b,aP w G μ b 0 k.cells→aP w G μ b 0 cs∧cs.length = k.cells.length) :
  aV n0 G μ (H.set s (some { k with cells:=cs })) w:=by
 have hsl : s < H.length:=(List.getElem?_eq_some_iff.1 hs).1
 have key : ∀ (r : Nat) (k' : Blk),(H.set s (some { k with cells:=cs }))[r]? = some (some k')→(r = s∧k' = { k with cells:=cs }) ∨ (r ≠ s∧H[r]? = some (some k')):=by
  intro r k' hr
  by_cases hrs : s = r
  ·subst hrs; rw [List.getElem?_set_self hsl] at hr; cases hr; exact .inl ⟨rfl,rfl⟩
  ·rw [List.getElem?_set_ne hrs] at hr; exact .inr ⟨Ne.symm hrs,hr⟩
 refine ⟨?_,?_,?_,hW.lt,fun r hr=>hW.top r (by simpa using hr),hW.base,hW.rows.rel (fun r s=>r = s) (fun r r' s h1 h2=>h1.trans h2.symm) (fun r k' hr=>?_)⟩
 case refine_4 =>
  rcases key r k' hr with ⟨rfl,rfl⟩ | ⟨_,hr⟩
  ·exact ⟨r,k,rfl,hs,rfl,rfl,rfl,rfl,rfl⟩
  ·exact ⟨r,k',rfl,hr,rfl,rfl,rfl,rfl,rfl⟩
 ·intro r k' b hr hb
  rcases key r k' hr with ⟨rfl,rfl⟩ | ⟨_,hr⟩
  ·obtain ⟨c,c1,c2,c3,c4⟩:=hW.blk r k b hs hb
   obtain ⟨d1,d2⟩:=hc b c2
   exact ⟨c,c1,d1,fun hg=>by show c.size = cs.length; rw [d2]; exact c3 hg,c4⟩
  ·exact hW.blk r k' b hr hb
 ·intro r k' g hr hg
  rcases key r k' hr with ⟨rfl,rfl⟩ | ⟨_,hr⟩
  ·dsimp only at hg; rw [ht] at hg; cases hg
  ·exact hW.tags r k' g hr hg
 ·intro r1 r2 k1 k2 b e1 e2 f1 f2 m1 m2
  have old : ∀ (r : Nat) (k' : Blk),(H.set s (some { k with cells:=cs }))[r]? = some (some k')→k'.frozen = false→∃ k0,H[r]? = some (some k0)∧k0.frozen = false:=by
   intro r k' hr hf
   rcases key r k' hr with ⟨rfl,rfl⟩ | ⟨_,hr⟩
   ·exact ⟨k,hs,hf⟩
   ·exact ⟨k',hr,hf⟩
  obtain ⟨l1,a1,a2⟩:=old r1 k1 e1 f1
  obtain ⟨l2,b1,b2⟩:=old r2 k2 e2 f2
  exact hW.inj r1 r2 l1 l2 b a1 b1 a2 b2 m1 m2

theorem MG {s i : Nat} {et : TypeId} {ty : Ty} (hI : I n0 wi Gi μi nt F H a w) : I n0 wi Gi μi nt F (TD s i et ty H) a w:=by
 unfold TD
 split
 ·rename_i k hk
  split
  ·rename_i t' e' rest hcs
   cases hb : (!k.tag.isSome) with
   | false=>exact hI
   | true =>
    simp only [cond_true]
    have htag : k.tag = none:=by
     cases hq : k.tag with
     | none=>rfl
     | some g=>rw [hq] at hb; simp at hb
    obtain ⟨G,μ,e0,hW,hF⟩:=hI
    obtain ⟨e1,w1⟩:=kQ hW ⟨aJ ty [],et,true,false,some ⟨ty,[]⟩⟩ (on:=some 0) (fun g hg=>by cases hg; exact ⟨rfl,rfl⟩)
    have hk':=aO hk
    have hsl : s < H.length:=(List.getElem?_eq_some_iff.1 hk').1
    have hk2 : (H ++ [some ⟨aJ ty [],et,true,false,some ⟨ty,[]⟩⟩])[s]? = some (some k):=by rw [List.getElem?_append_left hsl]; exact hk'
    refine ⟨G,_,e0.trans e1,uA w1 hk2 htag ?_,hF.mono e1.toMono⟩
    intro b hc
    obtain ⟨vs,d1,d2⟩:=hc.values
    have d3:=d1.take i
    have d4:=d1.drop i
    rw [hcs,VRs] at d4
    obtain ⟨v,vc,e3,d5,d6⟩:=d4
    obtain ⟨ao,d7⟩:=M5 d5
    have d8 : VRs w G (upd μ H.length none (some 0)) (k.cells.take i ++ .own H.length ty.size :: rest) (vs.take i ++ v :: vc):=VRs.append d3 (by
     rw [VRs]
     refine ⟨v,vc,rfl,?_,d6⟩
     rw [VR]
     exact ⟨0,kW ..,.inl ⟨rfl,ao,d7⟩⟩)
    rw [← e3,List.take_append_drop] at d8
    exact ⟨aP.iH d8 d2,by rw [d8.length,d1.length]⟩
  ·rename_i m' c' rest hcs
   cases hb : (Nat.beq m' 0 && Nat.beq c' 0 && !k.tag.isSome) with
   | false=>exact hI
   | true =>
    simp only [cond_true]
    simp only [Bool.and_eq_true] at hb
    obtain ⟨⟨hm,hc⟩,hb⟩:=hb
    have hm:=Nat.eq_of_beq_eq_true hm
    have hc:=Nat.eq_of_beq_eq_true hc
    subst hm; subst hc
    have htag : k.tag = none:=by
     cases hq : k.tag with
     | none=>rfl
     | some g=>rw [hq] at hb; simp at hb
    obtain ⟨G,μ,e0,hW,hF⟩:=hI
    obtain ⟨e1,w1⟩:=kQ hW ⟨aJ ty [],et,true,false,some ⟨ty,[]⟩⟩ (on:=some 0) (fun g hg=>by cases hg; exact ⟨rfl,rfl⟩)
    have hk':=aO hk
    have hsl : s < H.length:=(List.getElem?_eq_some_iff.1 hk').1
    have hk2 : (H ++ [some ⟨aJ ty [],et,true,false,some ⟨ty,[]⟩⟩])[s]? = some (some k):=by rw [List.getElem?_append_left hsl]; exact hk'
    refine ⟨G,_,e0.trans e1,uA w1 hk2 htag ?_,hF.mono e1.toMono⟩
    intro b hc
    obtain ⟨vs,d1,d2⟩:=hc.values
    have d3:=d1.take i
    have d4:=d1.drop i
    rw [hcs,VRs] at d4
    obtain ⟨v,vc,e3,d5,d6⟩:=d4
    rw [VR] at d5
    have d8 : VRs w G (upd μ H.length none (some 0)) (k.cells.take i ++ .own H.length ty.size :: rest) (vs.take i ++ v :: vc):=VRs.append d3 (by
     rw [VRs]
     refine ⟨v,vc,rfl,?_,d6⟩
     rw [VR]
     exact ⟨0,kW ..,.inl ⟨rfl,none,d5⟩⟩)
    rw [← e3,List.take_append_drop] at d8
    exact ⟨aP.iH d8 d2,by rw [d8.length,d1.length]⟩
  ·exact hI
 ·exact hI
theorem bF : ∀ (sh : List (Nat×Kd)) (F : Frm) (H : Heap),I n0 wi Gi μi nt F H a w→I n0 wi Gi μi nt (eS sh F H).1 (eS sh F H).2 a w
 | [],F,H,hI=>hI
 | (t,.own e ty) :: r,F,H,hI=>by
  have skip : I n0 wi Gi μi nt (eS r F H).1 (eS r F H).2 a w:=bF r F H hI
  unfold eS
  split
  ·rename_i m c ht
   cases hb : (Nat.beq m 0 && Nat.beq c 0) with
   | false=>exact skip
   | true =>
    simp only [cond_true]
    simp only [Bool.and_eq_true] at hb
    have h1:=Nat.eq_of_beq_eq_true hb.1
    have h2:=Nat.eq_of_beq_eq_true hb.2
    subst h1; subst h2
    obtain ⟨G,μ,e0,hW,hF⟩:=hI
    have hs:=hF.slot t
    rw [ht,VR] at hs
    obtain ⟨e1,w1⟩:=kQ hW ⟨aJ ty [],e,true,false,some ⟨ty,[]⟩⟩ (on:=some 0) (fun g hg=>by cases hg; exact ⟨rfl,rfl⟩)
    refine bF r _ _ ⟨G,_,e0.trans e1,w1,eP.named (hF.mono e1.toMono) ?_⟩
    rw [VR]
    exact ⟨0,kW ..,.inl ⟨rfl,none,hs⟩⟩
  ·rename_i t' e' ht
   obtain ⟨G,μ,e0,hW,hF⟩:=hI
   have hs:=hF.slot t
   rw [ht] at hs
   obtain ⟨ao,hs⟩:=M5 hs
   obtain ⟨e1,w1⟩:=kQ hW ⟨aJ ty [],e,true,false,some ⟨ty,[]⟩⟩ (on:=some 0) (fun g hg=>by cases hg; exact ⟨rfl,rfl⟩)
   refine bF r _ _ ⟨G,_,e0.trans e1,w1,eP.named (hF.mono e1.toMono) ?_⟩
   rw [VR]
   exact ⟨0,kW ..,.inl ⟨rfl,ao,hs⟩⟩
  ·exact skip
 | (t,.bown e et ty) :: r,F,H,hI=>by
  have skip : I n0 wi Gi μi nt (eS r F H).1 (eS r F H).2 a w:=bF r F H hI
  unfold eS
  split
  ·rename_i s off ht
   split
   ·rename_i k hk
    split
    ·rename_i m c hcs
     cases hb : (Nat.beq m 0 && Nat.beq c 0 && !k.tag.isSome) with
     | false=>exact skip
     | true =>
      simp only [cond_true]
      simp only [Bool.and_eq_true,Bool.not_eq_true'] at hb
      have h1:=Nat.eq_of_beq_eq_true hb.1.1
      have h2:=Nat.eq_of_beq_eq_true hb.1.2
      subst h1; subst h2
      have htag : k.tag = none:=by
       cases hq : k.tag with
       | none=>rfl
       | some g=>rw [hq] at hb; simp at hb
      obtain ⟨G,μ,e0,hW,hF⟩:=hI
      obtain ⟨e1,w1⟩:=kQ hW ⟨aJ ty [],et,true,false,some ⟨ty,[]⟩⟩ (on:=some 0) (fun g hg=>by cases hg; exact ⟨rfl,rfl⟩)
      have hk':=aO hk
      have hsl : s < H.length:=(List.getElem?_eq_some_iff.1 hk').1
      have hk2 : (H ++ [some ⟨aJ ty [],et,true,false,some ⟨ty,[]⟩⟩])[s]? = some (some k):=by rw [List.getElem?_append_left hsl]; exact hk'
      refine bF r _ _ ⟨G,_,e0.trans e1,uA w1 hk2 htag ?_,hF.mono e1.toMono⟩
      intro b hc
      rw [hcs] at hc ⊢
      refine ⟨?_,rfl⟩
      rw [aP] at hc ⊢
      obtain ⟨⟨v,v1,v2⟩,v3⟩:=hc
      refine ⟨⟨v,v1,?_⟩,by rw [aP]; trivial⟩
      have v4 : v = .slice none 0 0:=by simpa only [VR] using v2
      simp only [VR]
      exact ⟨0,kW ..,.inl ⟨rfl,none,v4⟩⟩
    ·exact skip
   ·exact skip
  ·exact skip
 | (_,.int _) :: r,F,H,hI=>bF r F H hI
 | (_,.bool) :: r,F,H,hI=>bF r F H hI
 | (_,.str) :: r,F,H,hI=>bF r F H hI
 | (_,.list _) :: r,F,H,hI=>bF r F H hI
 | (_,.agg _) :: r,F,H,hI=>bF r F H hI
 | (_,.box _ _) :: r,F,H,hI=>bF r F H hI
 | (_,.ptr _) :: r,F,H,hI=>bF r F H hI
 | (_,.fn _) :: r,F,H,hI=>bF r F H hI
 | (_,.nil0) :: r,F,H,hI=>bF r F H hI
 | (_,.val) :: r,F,H,hI=>bF r F H hI
 | (_,.nilI) :: r,F,H,hI=>bF r F H hI
 | (_,.clo _ _) :: r,F,H,hI=>bF r F H hI
 | (_,.win _ _) :: r,F,H,hI=>bF r F H hI
 | (_,.hnd _) :: r,F,H,hI=>bF r F H hI
 | (_,.mpk _) :: r,F,H,hI=>bF r F H hI
 | (_,.ar _ _) :: r,F,H,hI=>bF r F H hI
 | (t,.bag2 e t1 et ty eu u) :: r,F,H,hI=>by
  unfold eS
  split
  ·exact bF r _ _ (MG (MG hI))
  ·exact bF r F H hI
 | (t,.bag e t1 et ty t2) :: r,F,H,hI=>by
  have skip : I n0 wi Gi μi nt (eS r F H).1 (eS r F H).2 a w:=bF r F H hI
  unfold eS
  split
  ·rename_i s off ht
   split
   ·rename_i k hk
    split
    ·rename_i t' e' rest hcs
     cases hb : (!k.tag.isSome) with
     | false=>exact skip
     | true =>
      simp only [cond_true]
      have htag : k.tag = none:=by
       cases hq : k.tag with
       | none=>rfl
       | some g=>rw [hq] at hb; simp at hb
      obtain ⟨G,μ,e0,hW,hF⟩:=hI
      obtain ⟨e1,w1⟩:=kQ hW ⟨aJ ty [],et,true,false,some ⟨ty,[]⟩⟩ (on:=some 0) (fun g hg=>by cases hg; exact ⟨rfl,rfl⟩)
      have hk':=aO hk
      have hsl : s < H.length:=(List.getElem?_eq_some_iff.1 hk').1
      have hk2 : (H ++ [some ⟨aJ ty [],et,true,false,some ⟨ty,[]⟩⟩])[s]? = some (some k):=by rw [List.getElem?_append_left hsl]; exact hk'
      refine bF r _ _ ⟨G,_,e0.trans e1,uA w1 hk2 htag ?_,hF.mono e1.toMono⟩
      intro b hc
      obtain ⟨vs,d1,d2⟩:=hc.values
      have d3:=d1.take t1.size
      have d4:=d1.drop t1.size
      rw [hcs,VRs] at d4
      obtain ⟨v,vc,e3,d5,d6⟩:=d4
      obtain ⟨ao,d7⟩:=M5 d5
      have d8 : VRs w G (upd μ H.length none (some 0)) (k.cells.take t1.size ++ .own H.length ty.size :: rest) (vs.take t1.size ++ v :: vc):=VRs.append d3 (by
       rw [VRs]
       refine ⟨v,vc,rfl,?_,d6⟩
       rw [VR]
       exact ⟨0,kW ..,.inl ⟨rfl,ao,d7⟩⟩)
      rw [← e3,List.take_append_drop] at d8
      exact ⟨aP.iH d8 d2,by rw [d8.length,d1.length]⟩
    ·rename_i m' c' rest hcs
     cases hb : (Nat.beq m' 0 && Nat.beq c' 0 && !k.tag.isSome) with
     | false=>exact skip
     | true =>
      simp only [cond_true]
      simp only [Bool.and_eq_true] at hb
      obtain ⟨⟨hm,hc⟩,hb⟩:=hb
      have hm:=Nat.eq_of_beq_eq_true hm
      have hc:=Nat.eq_of_beq_eq_true hc
      subst hm; subst hc
      have htag : k.tag = none:=by
       cases hq : k.tag with
       | none=>rfl
       | some g=>rw [hq] at hb; simp at hb
      obtain ⟨G,μ,e0,hW,hF⟩:=hI
      obtain ⟨e1,w1⟩:=kQ hW ⟨aJ ty [],et,true,false,some ⟨ty,[]⟩⟩ (on:=some 0) (fun g hg=>by cases hg; exact ⟨rfl,rfl⟩)
      have hk':=aO hk
      have hsl : s < H.length:=(List.getElem?_eq_some_iff.1 hk').1
      have hk2 : (H ++ [some ⟨aJ ty [],et,true,false,some ⟨ty,[]⟩⟩])[s]? = some (some k):=by rw [List.getElem?_append_left hsl]; exact hk'
      refine bF r _ _ ⟨G,_,e0.trans e1,uA w1 hk2 htag ?_,hF.mono e1.toMono⟩
      intro b hc
      obtain ⟨vs,d1,d2⟩:=hc.values
      have d3:=d1.take t1.size
      have d4:=d1.drop t1.size
      rw [hcs,VRs] at d4
      obtain ⟨v,vc,e3,d5,d6⟩:=d4
      rw [VR] at d5
      have d8 : VRs w G (upd μ H.length none (some 0)) (k.cells.take t1.size ++ .own H.length ty.size :: rest) (vs.take t1.size ++ v :: vc):=VRs.append d3 (by
       rw [VRs]
       refine ⟨v,vc,rfl,?_,d6⟩
       rw [VR]
       exact ⟨0,kW ..,.inl ⟨rfl,none,d5⟩⟩)
      rw [← e3,List.take_append_drop] at d8
      exact ⟨aP.iH d8 d2,by rw [d8.length,d1.length]⟩
    ·exact skip
   ·exact skip
  ·exact skip

theorem bC : ∀ (sh : List (Nat×Kd)) (F : Frm) (H : Heap),I n0 wi Gi μi nt F H a w→I n0 wi Gi μi nt (qH sh F H).1 (qH sh F H).2 a w
 | [],F,H,hI=>hI
 | (t,.box e (.list ty)) :: r,F,H,hI=>by
  have skip : I n0 wi Gi μi nt (qH r F H).1 (qH r F H).2 a w:=bC r F H hI
  unfold qH
  split
  ·rename_i s off ht
   split
   ·rename_i k hk
    split
    ·rename_i u sz hcs
     split
     ·rename_i ku hku
      split
      ·rename_i g hg
       cases hb : (!k.tag.isSome && !Nat.beq u s) with
       | false=>exact skip
       | true =>
        simp only [cond_true]
        simp only [Bool.and_eq_true,Bool.not_eq_true'] at hb
        have htag : k.tag = none:=by
         cases hq : k.tag with
         | none=>rfl
         | some g=>rw [hq] at hb; simp at hb
        have hne : u ≠ s:=fun e=>by rw [e] at hb; simp at hb
        obtain ⟨G,μ,e0,hW,hF⟩:=hI
        have hul : u < H.length:=(List.getElem?_eq_some_iff.1 (aO hku)).1
        have hk2 : (H.set u (some { ku with frozen:=true }))[s]? = some (some k):=by rw [List.getElem?_set_ne hne]; exact aO hk
        have hku2 : fZ (H.set u (some { ku with frozen:=true })) u = some { ku with frozen:=true }:=by
         simp only [fZ,List.getElem?_set_self hul]
        have fin : ∀ {G1 : Gd} {w1 : World} {μ1 : Mp},(∀ b,μ1.loc u = some b→G1 b)→aV n0 G1 μ1 (H.set u (some { ku with frozen:=true })) w1→aV n0 G1 μ1 ((H.set u (some { ku with frozen:=true })).set s (some { k with cells:=[qL g.t g.l none] })) w1:=by
         intro G1 w1 μ1 hGu hW1
         refine uA hW1 hk2 htag fun b hc=>?_
         rw [hcs] at hc ⊢
         refine ⟨?_,rfl⟩
         rw [aP] at hc ⊢
         obtain ⟨⟨v,v1,v2⟩,v3⟩:=hc
         exact ⟨⟨v,v1,(B3 hW1 v2 hku2 hg (fun b h=>h) hGu).bD⟩,by rw [aP]; trivial⟩
        cases hfz : ku.frozen with
        | true =>
         have hsame : H.set u (some { ku with frozen:=true }) = H:=by
          apply List.ext_getElem?
          intro i
          by_cases hi : u = i
          ·subst hi
           rw [List.getElem?_set_self hul,aO hku]
           obtain ⟨k1,k2,k3,k4,k5⟩:=ku
           dsimp only at hfz
           rw [hfz]
          ·rw [List.getElem?_set_ne hi]
         refine bC r _ _ ⟨G,μ,e0,fin (fun b hb=>?_) (by rw [hsame]; exact hW),hF⟩
         obtain ⟨_,_,_,_,h5,_⟩:=hW.blk u ku b (aO hku) hb
         exact h5 hfz
        | false =>
         obtain ⟨e1,w1⟩:=KV hW (aO hku) hfz
         exact bC r _ _ ⟨_,μ,e0.trans e1,fin (fun b hb=>.inr hb) w1,hF.mono e1.toMono⟩
      ·exact skip
     ·exact skip
    ·exact skip
   ·exact skip
  ·exact skip
 | (_,.int _) :: r,F,H,hI=>bC r F H hI
 | (_,.bool) :: r,F,H,hI=>bC r F H hI
 | (_,.str) :: r,F,H,hI=>bC r F H hI
 | (_,.list _) :: r,F,H,hI=>bC r F H hI
 | (_,.agg _) :: r,F,H,hI=>bC r F H hI
 | (_,.box _ (.int _)) :: r,F,H,hI=>bC r F H hI
 | (_,.box _ .bool) :: r,F,H,hI=>bC r F H hI
 | (_,.box _ .str) :: r,F,H,hI=>bC r F H hI
 | (_,.box _ (.hnd _)) :: r,F,H,hI=>bC r F H hI
 | (_,.box _ (.rows _)) :: r,F,H,hI=>bC r F H hI
 | (_,.box _ (.prod _ _)) :: r,F,H,hI=>bC r F H hI
 | (_,.ptr _) :: r,F,H,hI=>bC r F H hI
 | (_,.fn _) :: r,F,H,hI=>bC r F H hI
 | (_,.nil0) :: r,F,H,hI=>bC r F H hI
 | (_,.val) :: r,F,H,hI=>bC r F H hI
 | (_,.nilI) :: r,F,H,hI=>bC r F H hI
 | (_,.clo _ _) :: r,F,H,hI=>bC r F H hI
 | (_,.win _ _) :: r,F,H,hI=>bC r F H hI
 | (_,.hnd _) :: r,F,H,hI=>bC r F H hI
 | (_,.mpk _) :: r,F,H,hI=>bC r F H hI
 | (_,.ar _ _) :: r,F,H,hI=>bC r F H hI
 | (_,.own _ _) :: r,F,H,hI=>bC r F H hI
 | (_,.bown _ _ _) :: r,F,H,hI=>bC r F H hI
 | (_,.bag _ _ _ _ _) :: r,F,H,hI=>bC r F H hI
 | (_,.bag2 _ _ _ _ _ _) :: r,F,H,hI=>bC r F H hI

theorem uZ {T : List Nat} {sh : List (Nat×Kd)} {x : Shape.den sh} (h : pO T sh F H = some x) (hfl : ∀ r,¬ r ∈ T→μi.loc r = none∧μi.len r = none) (hI : I n0 wi Gi μi nt F H a w) : I n0 wi Gi μi nt (pJ sh x 0) (wQ sh x) a w:=by
 unfold pO at h
 replace hI:=rQ sh F H hI
 split at h
 rename_i F0 H0 hd0
 rw [hd0] at hI
 replace hI:=bC sh F0 H0 hI
 split at h
 rename_i F1 H1 hd1
 rw [hd1] at hI
 replace hI:=bF sh F1 H1 hI
 split at h
 rename_i F2 H2 hd2
 rw [hd2] at hI
 split at h
 ·rename_i pm hpm
  split at h
  ·rename_i F' H' ht
   obtain ⟨hb,h⟩:=aM h
   obtain ⟨G,μ,e,hW,hF⟩:=aET ht hfl hI
   obtain ⟨h1,h2⟩:=OM hW hF.slot sh h
   have hH : ∀ i : Nat,aJR H'[i]? (wQ sh x)[i]?:=by
    intro i
    rcases Nat.lt_or_ge i (aEJ sh) with hl | hl
    ·have:=h2 i hl
     rwa [Nat.zero_add] at this
    ·have e1:=Nat.eq_of_beq_eq_true hb
     exact .inl (by rw [List.getElem?_eq_none (by omega),List.getElem?_eq_none (by rw [W7]; omega)])
   exact ⟨G,μ,e,hW.aQM hH,hF.size,h1,hF.defers⟩
  ·cases h
 ·cases h
end
end Go.PM
