/- Texts of one proof, joined (9). -/
import Derived.Test.YtjgapmocogjkmaaGreatDoorQL8
set_option linter.unusedSimpArgs false
set_option linter.unusedVariables false
namespace Go.PM
open Go Go.RowKit Go.Proofs Go.Lz
set_option maxRecDepth 100000
theorem aSD {B : Int} {l : Lay} {g : S4} (hl : N8 B l) (hg : CM g) (hB0 : 0 ≤ B) (hB : B ≤ 500000000) : aQB l g = true:=by
 have ht:=QL hl hg hB0 (by omega)
 have h0:=hl.len
 have h1:=hl.right
 have e1 : rc (trn l g).2.2.1 = 0:=LP ht.r (by omega) (by have:=ht.len; have:=ht.right; omega)
 have e2 : rc (trn l g).2.2.2 = 0:=LP ht.u (by omega) (by have:=ht.len; have:=ht.up; omega)
 have q1:=a5L (a:=g.1) (b:=g.2.2.1) (r:=l.2.2.1) (s:=l.2.2.2) (by omega)
 have q2:=a5L (a:=g.2.1) (b:=g.2.2.2) (r:=l.2.2.1) (s:=l.2.2.2) (by omega)
 have e1 : rc (mx g.1 g.2.2.1 l.2.2.1 l.2.2.2) = 0:=e1
 have e2 : rc (mx g.2.1 g.2.2.2 l.2.2.1 l.2.2.2) = 0:=e2
 rw [e1] at q1
 rw [e2] at q2
 unfold aQB
 by_cases c1 : ftB g.1 g.2.2.1 l.2.2.1 l.2.2.2 l.2.2.1.length = true
 ·by_cases c2 : ftB g.2.1 g.2.2.2 l.2.2.1 l.2.2.2 l.2.2.1.length = true
  ·rw [c1,c2]; rfl
  ·rw [if_neg c2] at q2; exact absurd q2 (by decide)
 ·rw [if_neg c1] at q1; exact absurd q1 (by decide)
theorem aJ7 {B : Int} {l : Lay} {g : S4} (hl : N8 B l) (hg : CM g) (hB0 : 0 ≤ B) (hB : B ≤ 500000000) : f18 (l,g,()) = some (trn l g,true,()):=by
 have h0:=hl.len
 have h1:=hl.right
 have h2:=hl.up
 rw [bAL g (by omega) (by omega),aSD hl hg hB0 hB]
theorem aRL {B : Int} {l : Lay} (hl : N8 B l) (hB0 : 0 ≤ B) (hB : B ≤ 500000000) : LS (l,zL,kM l.1,l,true,0,()) = some (l,zL,trn l (bst l),true,()):=by
 have hu : ∀ g ∈ kM l.1,CM g:=fun g hg=>aQV hg
 have hlen:=aRI (k:=l.1)
 have hpos:=aRM (k:=l.1)
 unfold bst
 cases ht : kM l.1 with
 | nil=>rw [ht] at hpos; exact absurd hpos (by decide)
 | cons g r =>
  rw [ht] at hu hlen
  rw [List.length_cons] at hlen
  have hb : ∀ i,CM (least (fun g=>key (trn l g)) (r.take i) g):=fun i=>by
   rcases aFG (fun g=>key (trn l g)) (r.take i) g with h | h
   ·rw [h]; exact hu g (by simp)
   ·exact hu _ (List.mem_cons_of_mem _ (List.mem_of_mem_take h))
  have key:=cZ (N:=2 ^ 64) (step:=FK) (fun i=>(l,zL,g :: r,if i = 0 then l else trn l (least (fun g=>key (trn l g)) (r.take (i - 1)) g),true,(i : Int),())) (r.length + 1) (l,zL,trn l (least (fun g=>key (trn l g)) r g),true,()) (by omega) (fun i hi=>?_) ?_
  ·exact key
  ·have e0 : ltI (i : Int) ((g :: r).length : Int) = true:=by rw [aN,List.length_cons]; exact decide_eq_true (by omega)
   have e1 : aQ (i : Int) (g :: r).length = true:=by rw [bA,List.length_cons]; exact decide_eq_true (by omega)
   have e2:=c7 i (by omega)
   have e3 : ((i : Nat) : Int).toNat = i:=Int.toNat_natCast _
   cases i with
   | zero =>
    have hg:=hu g (by simp)
    have gg:=QL hl hg hB0 (by omega)
    have a1:=gg.sh
    have a2:=hl.sh
    rw [if_pos rfl,if_neg (show ¬ 0 + 1 = 0 by decide)]
    have main : ∀ j : Int,j = 0→FK (l,zL,g :: r,l,true,j,()) = some (Sum.inl (l,zL,g :: r,trn l g,true,aE .i64 (j + 1),())):=fun j hj=>by
     have e0 : ltI j ((g :: r).length : Int) = true:=by rw [aN,List.length_cons]; exact decide_eq_true (by omega)
     have e1 : aQ j (g :: r).length = true:=by rw [bA,List.length_cons]; exact decide_eq_true (by omega)
     have e3 : j.toNat = 0:=by omega
     have e4 : eqI j 0 = true:=by rw [dY]; exact decide_eq_true hj
     show (bif ltI j _ then bif aQ j _ then aB (f18 (l,(g :: r).getD j.toNat (0,(0,(0,0))),())) _ else _ else _) = _
     rw [e0,e1,cond_true,cond_true,e3]
     show (aB (f18 (l,g,())) _) = _
     rw [aJ7 hl hg hB0 hB,aH]
     show (aB (f35 ((trn l g).2.2.1,l.2.2.1,())) _) = _
     rw [QA _ _ (by have:=a1.2.1; omega) (by have:=a2.2.1; omega),aH,e4,cond_true]
    rw [show (((0 : Nat) : Int)) = 0 from rfl,main 0 rfl]
    rw [show ((0 : Nat) : Int) + 1 = 0 + 1 from rfl] at e2
    rw [e2]; rfl
   | succ i =>
    have hir : i < r.length:=by omega
    have hx : (g :: r).getD (i + 1) (0,(0,(0,0))) = r[i]:=by simp [List.getD,hir]
    have hg : CM r[i]:=hu _ (List.mem_cons_of_mem _ (List.getElem_mem hir))
    have gg:=QL hl hg hB0 (by omega)
    have gb:=QL hl (hb i) hB0 (by omega)
    have a1:=gg.sh
    have a2:=gb.sh
    have e4 : eqI ((i + 1 : Nat) : Int) 0 = false:=by rw [dY]; exact decide_eq_false (by omega)
    have hn : least (fun g=>PM.key (trn l g)) (r.take (i + 1)) g = if XR (PM.key (trn l r[i])) (PM.key (trn l (least (fun g=>PM.key (trn l g)) (r.take i) g))) < 0 then r[i] else least (fun g=>PM.key (trn l g)) (r.take i) g:=by
     rw [List.take_succ_eq_append_getElem hir,aC3]
    show FK (l,zL,g :: r,trn l (least (fun g=>PM.key (trn l g)) (r.take i) g),true,((i + 1 : Nat) : Int),()) = some (Sum.inl (l,zL,g :: r,trn l (least (fun g=>PM.key (trn l g)) (r.take (i + 1)) g),true,((i + 1 + 1 : Nat) : Int),()))
    rw [hn]
    generalize least (fun g=>PM.key (trn l g)) (r.take i) g = b at gb a2
    show (bif ltI _ _ then bif aQ _ _ then aB (f18 (l,(g :: r).getD ((i + 1 : Nat) : Int).toNat (0,(0,(0,0))),())) _ else _ else _) = _
    rw [e0,e1,cond_true,cond_true,e3,hx,aJ7 hl hg hB0 hB,aH]
    show (aB (f35 ((trn l r[i]).2.2.1,(trn l b).2.2.1,())) _) = _
    rw [QA _ _ (by have:=a1.2.1; omega) (by have:=a2.2.1; omega),aH,e4,cond_false]
    unfold XR
    dsimp only
    rw [aN,dY,cD,cD,e2]
    by_cases c0 : cmpL (trn l r[i]).2.2.1 (trn l b).2.2.1 = 0
    ·rw [if_neg (by omega),if_pos c0,if_neg (not_not_intro c0),QA _ _ (by have:=a1.2.2; omega) (by have:=a2.2.2; omega),aH,aN,cD]
     by_cases c1 : cmpL (trn l r[i]).2.2.2 (trn l b).2.2.2 < 0
     ·rw [if_pos c1,if_pos c1]
     ·rw [if_neg c1,if_neg c1]
    ·rw [if_pos c0]
     by_cases c1 : cmpL (trn l r[i]).2.2.1 (trn l b).2.2.1 < 0
     ·rw [if_pos c1,if_pos c1]
     ·rw [if_neg c1,if_neg c1,if_neg c0]
  ·have e0 : ltI ((r.length + 1 : Nat) : Int) ((g :: r).length : Int) = false:=by rw [aN,List.length_cons]; exact decide_eq_false (by omega)
   simp only [FK,e0,cond_false,if_neg (Nat.succ_ne_zero _),Nat.add_sub_cancel,List.take_length]
theorem a9Q {l : Lay} (hn : l.2.1.length ≤ 12) {L : Int×List (List Int)} {w : List Int} (h1 : kP ((l.2.1.length : Int),[l.2.2.1,l.2.2.2],()) = some (L,0,())) (h2 : dB (L,l.2.1,()) = some (w,0,())) : f50 (l,()) = some (w,0,()):=by
 have e0 : ltI 12 (l.2.1.length : Int) = false:=by rw [aN]; exact decide_eq_false (by omega)
 unfold f50
 show (bif ltI 12 (l.2.1.length : Int) then _ else aB (kP ((l.2.1.length : Int),[l.2.2.1,l.2.2.2],())) _) = _
 rw [e0,cond_false,h1,aH]
 show aB (dB (L,l.2.1,())) _ = _
 rw [h2,aH]
theorem aW8 {B : Int} {l : Lay} (hl : N8 B l) (hB0 : 0 ≤ B) (hB : B ≤ 500000000) {L : Int×List (List Int)} {w : List Int} (h1 : kP ((l.2.1.length : Int),[l.2.2.1,l.2.2.2],()) = some (L,0,())) (h2 : dB (L,l.2.1,()) = some (w,0,())) :
  f30 (l,()) = some (can l w,true,()):=by
 unfold f30
 show (aB (f16 (l.1,())) _) = _
 rw [a9N hl.kind,aH]
 show (aB (LS (l,zL,kM l.1,l,true,0,())) _) = _
 rw [aRL hl hB0 hB,aH]
 show (aB (f50 (l,())) _) = _
 rw [a9Q (by have:=hl.len; omega) h1 h2,aH]
 rfl
end Go.PM
set_option linter.unusedSimpArgs false
set_option linter.unusedVariables false
namespace Go.PM
open Go Go.RowKit Go.Proofs Go.Lz
set_option maxRecDepth 100000
theorem aJP (M : Nat→V) (p : Nat→Nat) : ∀ t,red M p t (fun _=>0) = fun _=>0
 | 0=>rfl
 | t + 1=>by
  funext x
  rw [red,aJP M p t]
  simp
theorem aT7 (r : Nat) : BN (List.replicate r 0) = fun _=>0:=by
 funext x
 unfold BN
 by_cases h : x < r
 ·simp [List.getD_eq_getElem?_getD,h]
 ·simp [List.getD_eq_getElem?_getD,List.getElem?_eq_none (show (List.replicate r (0 : Int)).length ≤ x by simp; omega)]
def aNB (l : Lay) : Lay:=can l (List.replicate l.2.1.length 0)
def blB (k : Int) (r : Nat) (l : Lay) : Bool:=decide (l.1 = k) && decide (l.2.1 = List.replicate r 0) && decide (l.2.2.1.length = r) && decide (l.2.2.2.length = r) && l.2.2.1.all (fun v=>decide (-18 ≤ v∧v ≤ 18)) && l.2.2.2.all (fun v=>decide (-18 ≤ v∧v ≤ 18))
theorem aPO {k : Int} {r : Nat} {l : Lay} (h : blB k r l = true) : BL k r 18 l:=by
 unfold blB at h
 simp only [Bool.and_eq_true,decide_eq_true_eq,List.all_eq_true] at h
 obtain ⟨⟨⟨⟨⟨h1,h2⟩,h3⟩,h4⟩,h5⟩,h6⟩:=h
 exact ⟨h1,h2,h3,h4,h5,h6⟩
theorem BL.cW {k : Int} {r : Nat} {l : Lay} (h : BL k r 18 l) (hk : k = 1 ∨ k = 2) (hr : r ≤ 3) : N8 18 l :=
 ⟨by rw [h.kind]; exact hk,by rw [h.org]; simp; omega,by rw [h.rl,h.org]; simp,by rw [h.ul,h.org]; simp,fun v hv=>by rw [h.org] at hv; have:=(List.mem_replicate.1 hv).2; omega,h.rs,h.us⟩
theorem aU6 {k : Int} {r : Nat} {l : Lay} (h : BL k r 18 l) (hk : k = 1 ∨ k = 2) (hr : r ≤ 3) : f30 (l,()) = some (aNB l,true,()):=by
 have hg:=h.cW hk hr
 obtain ⟨d,M,p,h1,h2,h3,h4⟩:=a8N (n:=r) (by omega) h.rl h.ul (h.rs.abs (by decide)) (h.us.abs (by decide))
 have h4:=h4 l.2.1 (by rw [h.org]; simp) (fun a ha=>by rw [h.org] at ha; have:=(List.mem_replicate.1 ha).2; omega)
 have hl : l.2.1.length = r:=by rw [h.org]; simp
 have e : Vr r (red M p d (BN l.2.1)) = List.replicate l.2.1.length 0:=by
  rw [hl,h.org,aT7,aJP]
  unfold Vr
  induction r with
  | zero=>rfl
  | succ r ih=>simp [List.map_const']
 rw [e] at h4
 exact aW8 hg (by decide) (by decide) (by rw [hl]; exact h1) h4
theorem bCF {r : Nat} (hr : r ≤ 2) : f34 (List.replicate r 0,()) = some (true,()):=by
 rcases (by omega : r = 0 ∨ r = 1 ∨ r = 2) with rfl | rfl | rfl
 ·kernel_rfl
 ·kernel_rfl
 ·kernel_rfl
def up2 (a b : Lay) : Bool:=!(ltI 0 (cmpL a.2.2.1 b.2.2.1)) && (!(eqI (cmpL a.2.2.1 b.2.2.1) 0) || ltI (cmpL a.2.2.2 b.2.2.2) 0)
abbrev dL : Lay:=(0,([],([],[])))
def aW9 (k : Int) (r : Nat) (L : List Lay) : Bool:=L.all (fun l=>blB k r l && decide (aNB l = l)) && (List.range L.length).all (fun i=>Nat.beq i 0 || up2 (L.getD (i - 1) dL) (L.getD i dL)) && Nat.ble L.length 1000
theorem VS {L : List Lay} {i : Nat} (h : i < L.length) : L.getD i dL ∈ L:=by
 rw [List.getD_eq_getElem?_getD,List.getElem?_eq_getElem h]; exact List.getElem_mem h
theorem aR1 {k m : Int} {r : Nat} (hk : k = 1 ∨ k = 2) (hr : r ≤ 2) {L : List Lay} (hc : aW9 k r L = true) (n : Int) :
  u9 ((k,((r : Int),m)),L,n,0,()) = some (.inr ((k,((r : Int),m)),L,n,())):=by
 unfold aW9 at hc
 simp only [Bool.and_eq_true,List.all_eq_true,fJ,decide_eq_true_eq] at hc
 obtain ⟨⟨hc1,hc2⟩,hlen⟩:=hc
 refine cZ (N:=2 ^ 64) (step:=aA7) (fun i=>((k,((r : Int),m)),L,n,(i : Int),())) L.length _ (by omega) ?_ ?_
 ·intro i hi
  have hmem:=VS hi
  obtain ⟨b1,b2⟩:=hc1 _ hmem
  have hb:=aPO b1
  have hs:=hb.sh (by omega)
  have h30:=aU6 hb hk (by omega)
  rw [b2] at h30
  have h14 : f14 (L.getD i dL,()) = some (0,()):=by rw [a8O,a43 (hb.cW hk (by omega)) (by decide)]
  have h19 : f19 (L.getD i dL,L.getD i dL,()) = some (true,()):=by rw [aZU _ hs,decide_eq_true rfl]
  have h34 : f34 ((L.getD i dL).2.1,()) = some (true,()):=by rw [hb.org]; exact bCF hr
  have e1:=c7 i (by omega)
  show (bif ltI (i : Int) (L.length : Int) then bif aQ (i : Int) L.length then aB (f30 (L.getD ((i : Nat) : Int).toNat dL,())) _ else none else _) = _
  rw [Int.toNat_natCast,aN,bA,decide_eq_true (show (i : Int) < L.length by omega),decide_eq_true (show 0 ≤ (i : Int)∧(i : Int) < L.length by omega),h30]
  show (aB (f14 (L.getD i dL,())) _) = _
  rw [h14,aH]
  show (aB (f19 (L.getD i dL,L.getD i dL,())) _) = _
  rw [h19,aH]
  show (aB (f34 ((L.getD i dL).2.1,())) _) = _
  rw [h34,aH]
  show (bif !(eqI ((L.getD i dL).2.2.1.length : Int) (r : Int)) then _ else _) = _
  rw [dY,decide_eq_true (show ((L.getD i dL).2.2.1.length : Int) = r by rw [hb.rl])]
  show (bif ltI 0 (i : Int) then _ else _) = _
  cases i with
  | zero=>rfl
  | succ i =>
   have hu:=hc2 (i + 1) (List.mem_range.2 hi)
   have hu : up2 (L.getD i dL) (L.getD (i + 1) dL) = true:=hu
   unfold up2 at hu
   have hmem':=VS (show i < L.length by omega)
   have hb':=aPO (hc1 _ hmem').1
   have w : aE .i64 (((i + 1 : Nat) : Int) - 1) = (i : Int):=by rw [wrap64 (by omega) (by omega)]; omega
   have c1 : f35 ((L.getD i dL).2.2.1,(L.getD (i + 1) dL).2.2.1,()) = some (cmpL (L.getD i dL).2.2.1 (L.getD (i + 1) dL).2.2.1,()):=QA _ _ (by rw [hb'.rl]; omega) (by rw [hb.rl]; omega)
   have c2 : f35 ((L.getD i dL).2.2.2,(L.getD (i + 1) dL).2.2.2,()) = some (cmpL (L.getD i dL).2.2.2 (L.getD (i + 1) dL).2.2.2,()):=QA _ _ (by rw [hb'.ul]; omega) (by rw [hb.ul]; omega)
   have i1 : aQ (i : Int) L.length = true:=by rw [bA]; exact decide_eq_true (by omega)
   rw [aN,decide_eq_true (show 0 < ((i + 1 : Nat) : Int) by omega),w,i1,Int.toNat_natCast]
   show (aB (f35 ((L.getD i dL).2.2.1,(L.getD (i + 1) dL).2.2.1,())) _) = _
   rw [c1]
   show (bif ltI 0 (cmpL (L.getD i dL).2.2.1 (L.getD (i + 1) dL).2.2.1) then _ else bif eqI (cmpL (L.getD i dL).2.2.1 (L.getD (i + 1) dL).2.2.1) 0 then (aB (f35 ((L.getD i dL).2.2.2,(L.getD (i + 1) dL).2.2.2,())) _) else _) = _
   rw [c2]
   revert hu
   cases ltI 0 (cmpL (L.getD i dL).2.2.1 (L.getD (i + 1) dL).2.2.1) with
   | true=>intro hu; cases hu
   | false =>
    cases eqI (cmpL (L.getD i dL).2.2.1 (L.getD (i + 1) dL).2.2.1) 0 with
    | false =>
     intro _
     show (some (Sum.inl ((k,((r : Int),m)),L,n,aE .i64 (((i + 1 : Nat) : Int) + 1),())) : Option (Shape.den LI ⊕ aR P5)) = _
     rw [e1]
    | true =>
     intro hu
     have hu : ltI (cmpL (L.getD i dL).2.2.2 (L.getD (i + 1) dL).2.2.2) 0 = true:=hu
     show (bif !(ltI (cmpL (L.getD i dL).2.2.2 (L.getD (i + 1) dL).2.2.2) 0) then _ else (some (Sum.inl ((k,((r : Int),m)),L,n,aE .i64 (((i + 1 : Nat) : Int) + 1),())) : Option (Shape.den LI ⊕ aR P5))) = _
     rw [hu,e1]
     rfl
 ·show (bif ltI (L.length : Int) (L.length : Int) then _ else _) = _
  rw [aN,decide_eq_false (by omega)]
  rfl

/-! The number of classes. -/
def dgt (m n t : Nat) : Int:=((n / (2 * m + 1) ^ t % (2 * m + 1) : Nat) : Int) - m
def XX (k : Int) (r m n : Nat) : Lay:=(k,List.replicate r 0,(List.range r).map (dgt m n),(List.range r).map fun t=>dgt m n (r + t))
theorem aOB {k : Int} {r m : Nat} (hr : r ≤ 2) (hm : m ≤ 6) (L : List Lay) : LQ (L,(k,((r : Int),(m : Int))),1,0,()) = some (L,(k,((r : Int),(m : Int))),(((2 * m + 1) ^ (2 * r) : Nat) : Int),()):=by
 have hp : ∀ t,t ≤ 4→(2 * m + 1) ^ t ≤ 28561:=fun t ht=>by
  have h1 : (2 * m + 1) ^ t ≤ 13 ^ t:=Nat.pow_le_pow_left (by omega) t
  have h2 : (13 : Nat) ^ t ≤ 13 ^ 4:=Nat.pow_le_pow_right (by decide) ht
  have h3 : (13 : Nat) ^ 4 = 28561:=by decide
  omega
 refine cZ (N:=2 ^ 64) (step:=aDA) (fun t=>(L,(k,((r : Int),(m : Int))),(((2 * m + 1) ^ t : Nat) : Int),(t : Int),())) (2 * r) _ (by omega) ?_ ?_
 ·intro t ht
  have w1 : aE .i64 (2 * (r : Int)) = ((2 * r : Nat) : Int):=by rw [wrap64 (by omega) (by omega)]; omega
  have w2 : aE .i64 (2 * (m : Int)) = ((2 * m : Nat) : Int):=by rw [wrap64 (by omega) (by omega)]; omega
  have w3:=c7 (2 * m) (by omega)
  have w4 : aE .i64 ((((2 * m + 1) ^ t : Nat) : Int) * ((2 * m + 1 : Nat) : Int)) = (((2 * m + 1) ^ (t + 1) : Nat) : Int):=by
   have e : (2 * m + 1) ^ t * (2 * m + 1) = (2 * m + 1) ^ (t + 1):=(Nat.pow_succ ..).symm
   have h1:=hp (t + 1) (by omega)
   rw [← Int.natCast_mul,e,wrap64 (by omega) (by omega)]
  show (bif ltI (t : Int) (aE .i64 (2 * (r : Int))) then (some (Sum.inl (L,(k,((r : Int),(m : Int))),aE .i64 ((((2 * m + 1) ^ t : Nat) : Int) * aE .i64 (aE .i64 (2 * (m : Int)) + 1)),aE .i64 ((t : Int) + 1),())) : Option (Shape.den O7 ⊕ aR TJ)) else _) = _
  rw [w1,w2,w3,w4,aN,decide_eq_true (by omega),c7 t (by omega)]
  rfl
 ·have w1 : aE .i64 (2 * (r : Int)) = ((2 * r : Nat) : Int):=by rw [wrap64 (by omega) (by omega)]; omega
  show (bif ltI ((2 * r : Nat) : Int) (aE .i64 (2 * (r : Int))) then _ else _) = _
  rw [w1,aN,decide_eq_false (by omega)]
  rfl
theorem aPR {k : Int} {r m : Nat} (hr : r ≤ 2) (hm : m ≤ 6) (L : List Lay) (tot : Int) (met : List Bool) (cnt n0 : Int) {n : Nat} (hn : n ≤ 100000) :
  K1 (L,(k,((r : Int),(m : Int))),tot,met,cnt,n0,((k,List.replicate r 0),([],[])),(n : Int),0,()) = some (L,(k,((r : Int),(m : Int))),tot,met,cnt,n0,((k,List.replicate r 0),((List.range r).map (dgt m n),(List.range r).map fun t=>dgt m n (r + t))),()):=by
 have w1 : aE .i64 (2 * (r : Int)) = ((2 * r : Nat) : Int):=by rw [wrap64 (by omega) (by omega)]; omega
 have w2 : aE .i64 (2 * (m : Int)) = ((2 * m : Nat) : Int):=by rw [wrap64 (by omega) (by omega)]; omega
 have w3:=c7 (2 * m) (by omega)
 have key:=cZ (N:=2 ^ 64) (step:=K5) (fun t=>(L,(k,((r : Int),(m : Int))),tot,met,cnt,n0,((k,List.replicate r 0),((List.range (min t r)).map (dgt m n),(List.range (t - r)).map fun t=>dgt m n (r + t))),((n / (2 * m + 1) ^ t : Nat) : Int),(t : Int),())) (2 * r)
  (L,(k,((r : Int),(m : Int))),tot,met,cnt,n0,((k,List.replicate r 0),((List.range r).map (dgt m n),(List.range r).map fun t=>dgt m n (r + t))),()) (by omega) ?_ ?_
 ·rw [Nat.pow_zero,Nat.div_one,Nat.zero_min,Nat.zero_sub] at key
  exact key
 ·intro t ht
  have hq : n / (2 * m + 1) ^ t ≤ 100000:=Nat.le_trans (Nat.div_le_self _ _) hn
  have hq2 : n / (2 * m + 1) ^ t / (2 * m + 1) = n / (2 * m + 1) ^ (t + 1):=by rw [Nat.div_div_eq_div_mul,← Nat.pow_succ]
  have t1 : ((n / (2 * m + 1) ^ t : Nat) : Int).tmod ((2 * m + 1 : Nat) : Int) = ((n / (2 * m + 1) ^ t % (2 * m + 1) : Nat) : Int):=rfl
  have t2 : ((n / (2 * m + 1) ^ t : Nat) : Int).tdiv ((2 * m + 1 : Nat) : Int) = ((n / (2 * m + 1) ^ t / (2 * m + 1) : Nat) : Int):=rfl
  have hmod : n / (2 * m + 1) ^ t % (2 * m + 1) < 2 * m + 1:=Nat.mod_lt _ (by omega)
  have w4 : aE .i64 (((n / (2 * m + 1) ^ t % (2 * m + 1) : Nat) : Int) - (m : Int)) = dgt m n t:=by rw [wrap64 (by omega) (by omega)]; rfl
  have w5 : aE .i64 ((n / (2 * m + 1) ^ t / (2 * m + 1) : Nat) : Int) = ((n / (2 * m + 1) ^ (t + 1) : Nat) : Int):=by
   rw [hq2]
   have : n / (2 * m + 1) ^ (t + 1) ≤ n:=Nat.div_le_self _ _
   generalize n / (2 * m + 1) ^ (t + 1) = y at this
   rw [wrap64 (by omega) (by omega)]
  have e5 : eqI ((2 * m + 1 : Nat) : Int) 0 = false:=by rw [dY]; exact decide_eq_false (by omega)
  have e6 : Nat.ble [dgt m n t].length 1048576 = true:=rfl
  simp only [K5,w1,w2,w3,t1,t2,w4,w5,e5,e6,aN,fJ,cD,cond_true,cond_false,List.length_map,List.length_range]
  rw [if_pos (show (t : Int) < ((2 * r : Nat) : Int) by omega),c7 t (by omega)]
  by_cases h : t < r
  ·rw [if_pos (show (t : Int) < (r : Int) by omega),if_pos (by omega),Nat.min_eq_left (by omega),Nat.min_eq_left (by omega),show t - r = 0 by omega,show t + 1 - r = 0 by omega,List.range_succ,List.map_append]
   rfl
  ·rw [if_neg (show ¬ (t : Int) < (r : Int) by omega),if_pos (by omega),Nat.min_eq_right (by omega),Nat.min_eq_right (by omega),show t + 1 - r = (t - r) + 1 by omega,List.range_succ,List.map_append,List.map_singleton,show r + (t - r) = t by omega]
 ·simp only [K5,w1,aN,cD]
  rw [if_neg (by omega),Nat.min_eq_right (by omega),show 2 * r - r = r by omega]
abbrev MS : Type:=List Bool×Int×Bool
def mst (L : List Lay) (c : Lay) (y : MS) (i : Nat) : MS:=bif decide (L.getD i dL = c) then (bif y.1.getD i false then (y.1,y.2.1,true) else (y.1.set i true,y.2.1 + 1,true)) else y
theorem a2K (L : List Lay) (c : Lay) (y : MS) (i : Nat) : (mst L c y i).1.length = y.1.length:=by
 unfold mst
 cases decide (L.getD i dL = c) <;> cases y.1.getD i false <;> simp
theorem a09 (L : List Lay) (c : Lay) (y : MS) (i : Nat) : y.2.1 ≤ (mst L c y i).2.1∧(mst L c y i).2.1 ≤ y.2.1 + 1:=by
 unfold mst
 cases decide (L.getD i dL = c) <;> cases y.1.getD i false <;> simp <;> omega
theorem a7P (L : List Lay) (c : Lay) (y : MS) : ∀ t,((List.range t).foldl (mst L c) y).1.length = y.1.length∧y.2.1 ≤ ((List.range t).foldl (mst L c) y).2.1∧((List.range t).foldl (mst L c) y).2.1 ≤ y.2.1 + t
 | 0=>by refine ⟨rfl,Int.le_refl _,?_⟩; show y.2.1 ≤ y.2.1 + ((0 : Nat) : Int); omega
 | t + 1=>by
  rw [List.range_succ,List.foldl_append,List.foldl_cons,List.foldl_nil]
  obtain ⟨h1,h2,h3⟩:=a7P L c y t
  have h4:=a2K L c ((List.range t).foldl (mst L c) y) t
  have h5:=a09 L c ((List.range t).foldl (mst L c) y) t
  refine ⟨by rw [h4,h1],by omega,by omega⟩
theorem aOV {k m : Int} {r : Nat} {L : List Lay} (hL : ∀ l ∈ L,ShL l) (hlen : L.length ≤ 1000) (tot : Int) {met : List Bool} (hmet : met.length = L.length) {cnt : Int} (hcnt : 0 ≤ cnt∧cnt ≤ 100000000) (n0 : Int) (c : Lay) :
  K3 (L,(k,((r : Int),m)),tot,met,cnt,n0,c,false,0,()) = some (L,(k,((r : Int),m)),tot,((List.range L.length).foldl (mst L c) (met,cnt,false)).1,((List.range L.length).foldl (mst L c) (met,cnt,false)).2.1,n0,((List.range L.length).foldl (mst L c) (met,cnt,false)).2.2,()):=by
 refine cZ (N:=2 ^ 64) (step:=aDB) (fun t=>(L,(k,((r : Int),m)),tot,((List.range t).foldl (mst L c) (met,cnt,false)).1,((List.range t).foldl (mst L c) (met,cnt,false)).2.1,n0,c,((List.range t).foldl (mst L c) (met,cnt,false)).2.2,(t : Int),())) L.length _ (by omega) ?_ ?_
 ·intro t ht
  rw [List.range_succ,List.foldl_append,List.foldl_cons,List.foldl_nil]
  obtain ⟨q1,q2,q3⟩:=a7P L c (met,cnt,false) t
  generalize (List.range t).foldl (mst L c) (met,cnt,false) = y at q1 q2 q3
  obtain ⟨ym,yc,yf⟩:=y
  have q1 : ym.length = L.length:=q1.trans hmet
  have q2 : cnt ≤ yc:=q2
  have q3 : yc ≤ cnt + t:=q3
  have h19 : f19 (L.getD t dL,c,()) = some (decide (L.getD t dL = c),()):=aZU c (hL _ (VS ht))
  show (bif ltI (t : Int) (L.length : Int) then bif aQ (t : Int) L.length then aB (f19 (L.getD ((t : Nat) : Int).toNat dL,c,())) _ else none else _) = _
  rw [Int.toNat_natCast,aN,bA,decide_eq_true (show (t : Int) < L.length by omega),decide_eq_true (show 0 ≤ (t : Int)∧(t : Int) < L.length by omega),h19]
  have w:=c7 t (by omega)
  have w2 : aE .i64 (yc + 1) = yc + 1:=wrap64 (by omega) (by omega)
  show (bif decide (L.getD t dL = c) then bif aQ (t : Int) ym.length then bif Nat.blt ((t : Nat) : Int).toNat ym.length then bif ym.getD ((t : Nat) : Int).toNat false then
     (some (Sum.inl (L,(k,((r : Int),m)),tot,ym,yc,n0,c,true,(aE .i64 ((t : Int) + 1)),())) : Option (Shape.den HV ⊕ aR MD))
    else bif aQ (t : Int) ym.length then bif Nat.blt ((t : Nat) : Int).toNat ym.length then (some (Sum.inl (L,(k,((r : Int),m)),tot,(ym.set ((t : Nat) : Int).toNat true),(aE .i64 (yc + 1)),n0,c,true,(aE .i64 ((t : Int) + 1)),())) : Option (Shape.den HV ⊕ aR MD)) else none else none else none else none
   else (some (Sum.inl (L,(k,((r : Int),m)),tot,ym,yc,n0,c,yf,(aE .i64 ((t : Int) + 1)),())) : Option (Shape.den HV ⊕ aR MD))) = _
  rw [Int.toNat_natCast,w,w2,bA,cY,decide_eq_true (show 0 ≤ (t : Int)∧(t : Int) < ym.length by omega),decide_eq_true (show t < ym.length by omega)]
  unfold mst
  dsimp only
  cases decide (L.getD t dL = c) <;> cases ym.getD t false <;> rfl
 ·show (bif ltI (L.length : Int) (L.length : Int) then _ else _) = _
  rw [aN,decide_eq_false (by omega)]
  rfl
def cst (k : Int) (r m : Nat) (L : List Lay) (y : Option (List Bool×Int)) (n : Nat) : Option (List Bool×Int):=match y with
 | none=>none
 | some (met,cnt)=>match f58 (XX k r m n,()) with
  | some (true,())=>some (met,cnt)
  | some (false,())=>match (List.range L.length).foldl (mst L (aNB (XX k r m n))) (met,cnt,false) with
   | (met',cnt',true)=>some (met',cnt')
   | (_,_,false)=>none
  | none=>none
theorem aKB (k : Int) (r m : Nat) (L : List Lay) : ∀ l : List Nat,l.foldl (cst k r m L) none = none
 | []=>rfl
 | _ :: l=>aKB k r m L l
theorem a04 {k : Int} {r m n : Nat} (hm : m ≤ 6) : BL k r 18 (XX k r m n):=by
 have hd : ∀ t,-18 ≤ dgt m n t∧dgt m n t ≤ 18:=fun t=>by
  have : n / (2 * m + 1) ^ t % (2 * m + 1) < 2 * m + 1:=Nat.mod_lt _ (by omega)
  unfold dgt; omega
 refine ⟨rfl,rfl,by simp [XX],by simp [XX],fun v hv=>?_,fun v hv=>?_⟩
 ·obtain ⟨t,-,rfl⟩:=List.mem_map.1 hv; exact hd _
 ·obtain ⟨t,-,rfl⟩:=List.mem_map.1 hv; exact hd _
theorem aN7 {k : Int} {r m : Nat} (hk : k = 1 ∨ k = 2) (hr : r ≤ 2) (hm : m ≤ 6) {L : List Lay} (hL : ∀ l ∈ L,ShL l) (hlen : L.length ≤ 1000) {T : Nat} (hT : T ≤ 100000) {met : List Bool} (hmet : met.length = L.length) {res : List Bool×Int}
  (h : (List.range T).foldl (cst k r m L) (some (met,0)) = some res) : KK (L,(k,((r : Int),(m : Int))),(T : Int),met,0,0,()) = some (.inr (res.2,())):=by
 have pre : ∀ t,t ≤ T→∃ y : List Bool×Int,(List.range t).foldl (cst k r m L) (some (met,0)) = some y:=fun t ht=>by
  cases e : (List.range t).foldl (cst k r m L) (some (met,0)) with
  | some y=>exact ⟨y,rfl⟩
  | none =>
   rw [show T = t + (T - t) by omega,List.range_add,List.foldl_append,e,aKB] at h
   cases h
 have inv : ∀ t,t ≤ T→∀ y : List Bool×Int,(List.range t).foldl (cst k r m L) (some (met,0)) = some y→y.1.length = L.length∧0 ≤ y.2∧y.2 ≤ 1000 * t:=by
  intro t
  induction t with
  | zero =>
   intro _ y hy
   have hy : some (met,(0 : Int)) = some y:=hy
   cases hy
   exact ⟨hmet,Int.le_refl _,Int.le_refl _⟩
  | succ t ih =>
   intro ht y hy
   obtain ⟨z,hz⟩:=pre t (by omega)
   obtain ⟨i1,i2,i3⟩:=ih (by omega) z hz
   rw [List.range_succ,List.foldl_append,List.foldl_cons,List.foldl_nil,hz] at hy
   obtain ⟨zm,zc⟩:=z
   have i2 : 0 ≤ zc:=i2
   have i3 : zc ≤ 1000 * (t : Int):=i3
   unfold cst at hy
   dsimp only at hy
   split at hy
   ·cases hy; exact ⟨i1,i2,by show zc ≤ _; omega⟩
   ·obtain ⟨q1,q2,q3⟩:=a7P L (aNB (XX k r m t)) (zm,zc,false) L.length
    generalize (List.range L.length).foldl (mst L (aNB (XX k r m t))) (zm,zc,false) = q at hy q1 q2 q3
    obtain ⟨qm,qc,qf⟩:=q
    cases qf with
    | false=>cases hy
    | true =>
     cases hy
     have q2 : zc ≤ qc:=q2
     have q3 : qc ≤ zc + L.length:=q3
     refine ⟨q1.trans i1,?_,?_⟩
     ·show 0 ≤ qc; omega
     ·show qc ≤ _; omega
   ·cases hy
 have key:=cZ (N:=2 ^ 64) (step:=aB1) (fun t=>(L,(k,((r : Int),(m : Int))),(T : Int),(((List.range t).foldl (cst k r m L) (some (met,0))).getD ([],0)).1,(((List.range t).foldl (cst k r m L) (some (met,0))).getD ([],0)).2,(t : Int),())) T (.inr (res.2,())) (by omega) ?_ ?_
 ·exact key
 ·intro t ht
  obtain ⟨z,hz⟩:=pre t (by omega)
  obtain ⟨z',hz'⟩:=pre (t + 1) (by omega)
  obtain ⟨i1,i2,i3⟩:=inv t (by omega) z hz
  rw [hz,hz']
  rw [List.range_succ,List.foldl_append,List.foldl_cons,List.foldl_nil,hz] at hz'
  obtain ⟨zm,zc⟩:=z
  have i1 : zm.length = L.length:=i1
  have i2 : 0 ≤ zc:=i2
  have i3 : zc ≤ 1000 * (t : Int):=i3
  have h361:=aPR (k:=k) hr hm L (T : Int) zm zc (t : Int) (n:=t) (by omega)
  have h30:=aU6 (a04 (k:=k) (r:=r) (n:=t) hm) hk (by omega)
  show (bif ltI (t : Int) (T : Int) then bif !(ltI (r : Int) 0) then bif !(ltI (r : Int) (r : Int)) then bif !(ltI 1048576 (r : Int)) then aB (K1 (L,(k,((r : Int),(m : Int))),(T : Int),zm,zc,(t : Int),((k,List.replicate ((r : Nat) : Int).toNat 0),([],[])),(t : Int),0,())) _ else none else none else none else _) = some (Sum.inl (L,(k,((r : Int),(m : Int))),(T : Int),z'.1,z'.2,((t + 1 : Nat) : Int),()))
  rw [Int.toNat_natCast,aN,aN,aN,aN,decide_eq_true (show (t : Int) < T by omega),decide_eq_false (show ¬ (r : Int) < 0 by omega),decide_eq_false (show ¬ (r : Int) < r by omega),decide_eq_false (show ¬ 1048576 < (r : Int) by omega),h361]
  show (aB (f58 (XX k r m t,())) _) = _
  unfold cst at hz'
  dsimp only at hz'
  have w:=c7 t (by omega)
  split at hz'
  ·rename_i e58
   cases hz'
   rw [e58,aH]
   show (some (Sum.inl (L,(k,((r : Int),(m : Int))),(T : Int),zm,zc,aE .i64 ((t : Int) + 1),())) : Option (Shape.den KX ⊕ aR PO)) = _
   rw [w]
  ·rename_i e58
   rw [e58,aH]
   show (aB (f30 (XX k r m t,())) _) = _
   rw [h30,aH]
   show (aB (K3 (L,(k,((r : Int),(m : Int))),(T : Int),zm,zc,(t : Int),aNB (XX k r m t),false,0,())) _) = _
   rw [aOV hL hlen (T : Int) i1 (by omega) (t : Int) (aNB (XX k r m t)),aH]
   generalize (List.range L.length).foldl (mst L (aNB (XX k r m t))) (zm,zc,false) = q at hz'
   obtain ⟨qm,qc,qf⟩:=q
   cases qf with
   | false=>cases hz'
   | true =>
    cases hz'
    show (some (Sum.inl (L,(k,((r : Int),(m : Int))),(T : Int),qm,qc,aE .i64 ((t : Int) + 1),())) : Option (Shape.den KX ⊕ aR PO)) = _
    rw [w]
  ·cases hz'
 ·rw [h]
  show (bif ltI (T : Int) (T : Int) then _ else _) = _
  rw [aN,decide_eq_false (by omega)]
  rfl
theorem a8T {k : Int} {r m : Nat} (hk : k = 1 ∨ k = 2) (hr : r ≤ 2) (hm : m ≤ 6) {L : List Lay} (hL : ∀ l ∈ L,ShL l) (hlen : L.length ≤ 1000) {res : List Bool×Int}
  (h : (List.range ((2 * m + 1) ^ (2 * r))).foldl (cst k r m L) (some (List.replicate L.length false,0)) = some res) : f36 ((k,((r : Int),(m : Int))),L,()) = some (res.2,()):=by
 have hp : (2 * m + 1) ^ (2 * r) ≤ 28561:=by
  have h1 : (2 * m + 1) ^ (2 * r) ≤ 13 ^ (2 * r):=Nat.pow_le_pow_left (by omega) _
  have h2 : (13 : Nat) ^ (2 * r) ≤ 13 ^ 4:=Nat.pow_le_pow_right (by decide) (by omega)
  have h3 : (13 : Nat) ^ 4 = 28561:=by decide
  omega
 unfold f36
 show (aB (LQ (L,(k,((r : Int),(m : Int))),1,0,())) _) = _
 rw [aOB hr hm L,aH]
 show (bif !(ltI (L.length : Int) 0) then bif !(ltI (L.length : Int) (L.length : Int)) then bif !(ltI 1048576 (L.length : Int)) then aB (KK (L,(k,((r : Int),(m : Int))),(((2 * m + 1) ^ (2 * r) : Nat) : Int),List.replicate ((L.length : Nat) : Int).toNat false,0,0,())) _ else none else none else none) = _
 rw [Int.toNat_natCast,aN,aN,aN,decide_eq_false (show ¬ (L.length : Int) < 0 by omega),decide_eq_false (show ¬ (L.length : Int) < L.length by omega),decide_eq_false (show ¬ 1048576 < (L.length : Int) by omega),aN7 hk hr hm hL hlen (by omega) (by simp) h]
 rfl
def vR (k : Int) (r m : Nat) (L : List Lay) : Bool:=aW9 k r L && (match (List.range ((2 * m + 1) ^ (2 * r))).foldl (cst k r m L) (some (List.replicate L.length false,0)) with
 | some res=>eqI (L.length : Int) res.2
 | none=>false)
theorem gW {k : Int} {r m n : Nat} (hk : k = 1 ∨ k = 2) (hr : r ≤ 2) (hm : m ≤ 6) (hn0 : 0 < n) (hn : n ≤ 1000) (h52 : XK k r m n = true) (h51 : f51 ((k,((r : Int),(m : Int))),()) = some ((n : Int),0,())) {L : List Lay} (hA : AL k r m n = L) (hc : vR k r m L = true) :
  tJ k (r : Int) (m : Int) = some (true,()):=by
 have e1:=a3H (B:=6) (by omega) (.inr (by omega)) (by decide) (by decide) hn0 hn h52 h51
 rw [hA] at e1
 have e2:=a9D e1
 unfold vR at hc
 rw [Bool.and_eq_true] at hc
 obtain ⟨hc1,hc2⟩:=hc
 have hs : ∀ l ∈ L,ShL l:=fun l hl=>by
  unfold aW9 at hc1
  simp only [Bool.and_eq_true,List.all_eq_true] at hc1
  exact (aPO (hc1.1.1 l hl).1).sh (by omega)
 have hlen : L.length ≤ 1000:=by
  unfold aW9 at hc1
  simp only [Bool.and_eq_true,fJ,decide_eq_true_eq] at hc1
  exact hc1.2
 unfold tJ
 rw [e1,aH,e2,aH]
 show (bif !(eqI (L.length : Int) (L.length : Int)) then _ else aB (u9 ((k,((r : Int),(m : Int))),L,(L.length : Int),0,())) _) = _
 rw [dY,decide_eq_true rfl,aR1 hk hr hc1]
 show (aB (f36 ((k,((r : Int),(m : Int))),L,())) _) = _
 split at hc2
 ·rename_i res hres
  rw [a8T hk hr hm hs hlen hres,aH]
  show (some (eqI (L.length : Int) res.2,()) : Option (aI [.bool])) = _
  rw [hc2]
 ·cases hc2
end Go.PM
set_option linter.unusedSimpArgs false
set_option linter.unusedVariables false
namespace Go.PM
open Go Go.RowKit Go.Proofs Go.Lz
set_option maxRecDepth 100000
def bCV : List Lay:=[(1,[],[],[])]
theorem a1V : AL 1 0 0 1 = bCV:=by kernel_rfl
theorem aVQ : vR 1 0 0 bCV = true:=by kernel_rfl
theorem a5D : tJ 1 ((0 : Nat) : Int) ((0 : Nat) : Int) = some (true,()):=gW (n:=1) (.inl rfl) (by decide) (by decide) (by decide) (by decide) (by kernel_rfl) (by kernel_rfl) a1V aVQ
def bDK : List Lay:=[(1,[],[],[])]
theorem aZ5 : AL 1 0 1 1 = bDK:=by kernel_rfl
theorem aWD : vR 1 0 1 bDK = true:=by kernel_rfl
theorem a1D : tJ 1 ((0 : Nat) : Int) ((1 : Nat) : Int) = some (true,()):=gW (n:=1) (.inl rfl) (by decide) (by decide) (by decide) (by decide) (by kernel_rfl) (by kernel_rfl) aZ5 aWD
def bDO : List Lay:=[(1,[],[],[])]
theorem a1Q : AL 1 0 2 1 = bDO:=by kernel_rfl
theorem aZQ : vR 1 0 2 bDO = true:=by kernel_rfl
theorem a05 : tJ 1 ((0 : Nat) : Int) ((2 : Nat) : Int) = some (true,()):=gW (n:=1) (.inl rfl) (by decide) (by decide) (by decide) (by decide) (by kernel_rfl) (by kernel_rfl) a1Q aZQ
def bDP : List Lay:=[(1,[0],[0],[0])]
theorem a0K : AL 1 1 0 1 = bDP:=by kernel_rfl
theorem aW7 : vR 1 1 0 bDP = true:=by kernel_rfl
theorem a1P : tJ 1 ((1 : Nat) : Int) ((0 : Nat) : Int) = some (true,()):=gW (n:=1) (.inl rfl) (by decide) (by decide) (by decide) (by decide) (by kernel_rfl) (by kernel_rfl) a0K aW7
def bDF : List Lay:=[(1,[0],[(-1)],[(-1)]),(1,[0],[(-1)],[0]),(1,[0],[0],[0])]
theorem a3C : AL 1 1 1 3 = bDF:=by kernel_rfl
theorem aZG : vR 1 1 1 bDF = true:=by kernel_rfl
theorem a2J : tJ 1 ((1 : Nat) : Int) ((1 : Nat) : Int) = some (true,()):=gW (n:=3) (.inl rfl) (by decide) (by decide) (by decide) (by decide) (by kernel_rfl) (by kernel_rfl) a3C aZG
def bCD : List Lay:=[(1,[0],[(-2)],[(-2)]),(1,[0],[(-2)],[(-1)]),(1,[0],[(-2)],[0]),(1,[0],[(-1)],[(-1)]),(1,[0],[(-1)],[0]),(1,[0],[0],[0])]
theorem a1Z : AL 1 1 2 5 = bCD:=by kernel_rfl
theorem aVV : vR 1 1 2 bCD = true:=by kernel_rfl
theorem a4S : tJ 1 ((1 : Nat) : Int) ((2 : Nat) : Int) = some (true,()):=gW (n:=5) (.inl rfl) (by decide) (by decide) (by decide) (by decide) (by kernel_rfl) (by kernel_rfl) a1Z aVV
def bC9 : List Lay:=[(1,[0],[(-3)],[(-3)]),(1,[0],[(-3)],[(-2)]),(1,[0],[(-3)],[(-1)]),(1,[0],[(-3)],[0]),(1,[0],[(-2)],[(-2)]),(1,[0],[(-2)],[(-1)]),(1,[0],[(-2)],[0]),(1,[0],[(-1)],[(-1)]),(1,[0],[(-1)],[0]),(1,[0],[0],[0])]
theorem a3T : AL 1 1 3 7 = bC9:=by kernel_rfl
theorem aXR : vR 1 1 3 bC9 = true:=by kernel_rfl
theorem a4C : tJ 1 ((1 : Nat) : Int) ((3 : Nat) : Int) = some (true,()):=gW (n:=7) (.inl rfl) (by decide) (by decide) (by decide) (by decide) (by kernel_rfl) (by kernel_rfl) a3T aXR
def bC7 : List Lay:=[(1,[0],[(-4)],[(-4)]),(1,[0],[(-4)],[(-3)]),(1,[0],[(-4)],[(-2)]),(1,[0],[(-4)],[(-1)]),(1,[0],[(-4)],[0]),(1,[0],[(-3)],[(-3)]),(1,[0],[(-3)],[(-2)]),(1,[0],[(-3)],[(-1)]),(1,[0],[(-3)],[0]),(1,[0],[(-2)],[(-2)]),(1,[0],[(-2)],[(-1)]),(1,[0],[(-2)],[0]),(1,[0],[(-1)],[(-1)]),(1,[0],[(-1)],[0]),(1,[0],[0],[0])]
theorem a4I : AL 1 1 4 9 = bC7:=by kernel_rfl
theorem aYF : vR 1 1 4 bC7 = true:=by kernel_rfl
theorem a15 : tJ 1 ((1 : Nat) : Int) ((4 : Nat) : Int) = some (true,()):=gW (n:=9) (.inl rfl) (by decide) (by decide) (by decide) (by decide) (by kernel_rfl) (by kernel_rfl) a4I aYF
def bCO : List Lay:=[(1,[0],[(-5)],[(-5)]),(1,[0],[(-5)],[(-4)]),(1,[0],[(-5)],[(-3)]),(1,[0],[(-5)],[(-2)]),(1,[0],[(-5)],[(-1)]),(1,[0],[(-5)],[0]),(1,[0],[(-4)],[(-4)]),(1,[0],[(-4)],[(-3)]),(1,[0],[(-4)],[(-2)]),(1,[0],[(-4)],[(-1)]),(1,[0],[(-4)],[0]),(1,[0],[(-3)],[(-3)]),(1,[0],[(-3)],[(-2)]),(1,[0],[(-3)],[(-1)]),(1,[0],[(-3)],[0]),(1,[0],[(-2)],[(-2)]),(1,[0],[(-2)],[(-1)]),(1,[0],[(-2)],[0]),(1,[0],[(-1)],[(-1)]),(1,[0],[(-1)],[0]),(1,[0],[0],[0])]
theorem a2B : AL 1 1 5 11 = bCO:=by kernel_rfl
theorem aVS : vR 1 1 5 bCO = true:=by kernel_rfl
theorem a19 : tJ 1 ((1 : Nat) : Int) ((5 : Nat) : Int) = some (true,()):=gW (n:=11) (.inl rfl) (by decide) (by decide) (by decide) (by decide) (by kernel_rfl) (by kernel_rfl) a2B aVS
def bCB : List Lay:=[(1,[0],[(-6)],[(-6)]),(1,[0],[(-6)],[(-5)]),(1,[0],[(-6)],[(-4)]),(1,[0],[(-6)],[(-3)]),(1,[0],[(-6)],[(-2)]),(1,[0],[(-6)],[(-1)]),(1,[0],[(-6)],[0]),(1,[0],[(-5)],[(-5)]),(1,[0],[(-5)],[(-4)]),(1,[0],[(-5)],[(-3)]),(1,[0],[(-5)],[(-2)]),(1,[0],[(-5)],[(-1)]),(1,[0],[(-5)],[0]),(1,[0],[(-4)],[(-4)]),(1,[0],[(-4)],[(-3)]),(1,[0],[(-4)],[(-2)]),(1,[0],[(-4)],[(-1)]),(1,[0],[(-4)],[0]),(1,[0],[(-3)],[(-3)]),(1,[0],[(-3)],[(-2)]),(1,[0],[(-3)],[(-1)]),(1,[0],[(-3)],[0]),(1,[0],[(-2)],[(-2)]),(1,[0],[(-2)],[(-1)]),(1,[0],[(-2)],[0]),(1,[0],[(-1)],[(-1)]),(1,[0],[(-1)],[0]),(1,[0],[0],[0])]
theorem a0U : AL 1 1 6 13 = bCB:=by kernel_rfl
theorem aZH : vR 1 1 6 bCB = true:=by kernel_rfl
theorem a3K : tJ 1 ((1 : Nat) : Int) ((6 : Nat) : Int) = some (true,()):=gW (n:=13) (.inl rfl) (by decide) (by decide) (by decide) (by decide) (by kernel_rfl) (by kernel_rfl) a0U aZH
def bC3 : List Lay:=[(1,[0,0],[0,0],[0,0])]
theorem a4F : AL 1 2 0 1 = bC3:=by kernel_rfl
theorem aVB : vR 1 2 0 bC3 = true:=by kernel_rfl
theorem a4T : tJ 1 ((2 : Nat) : Int) ((0 : Nat) : Int) = some (true,()):=gW (n:=1) (.inl rfl) (by decide) (by decide) (by decide) (by decide) (by kernel_rfl) (by kernel_rfl) a4F aVB
def bDR : List Lay:=[(1,[0,0],[(-1),(-1)],[(-1),(-1)]),(1,[0,0],[(-1),(-1)],[(-1),0]),(1,[0,0],[(-1),(-1)],[(-1),1]),(1,[0,0],[(-1),(-1)],[0,(-1)]),(1,[0,0],[(-1),(-1)],[0,0]),(1,[0,0],[(-1),0],[(-1),0]),(1,[0,0],[(-1),0],[(-1),1]),(1,[0,0],[(-1),0],[0,(-1)]),(1,[0,0],[(-1),0],[0,0]),(1,[0,0],[(-1),1],[(-1),1]),(1,[0,0],[(-1),1],[0,(-1)]),(1,[0,0],[(-1),1],[0,0]),(1,[0,0],[0,(-1)],[0,(-1)]),(1,[0,0],[0,(-1)],[0,0]),(1,[0,0],[0,0],[0,0])]
theorem a0R : AL 1 2 1 9 = bDR:=by kernel_rfl
theorem aX6 : vR 1 2 1 bDR = true:=by kernel_rfl
theorem a0I : tJ 1 ((2 : Nat) : Int) ((1 : Nat) : Int) = some (true,()):=gW (n:=9) (.inl rfl) (by decide) (by decide) (by decide) (by decide) (by kernel_rfl) (by kernel_rfl) a0R aX6
def bC2 : List Lay:=[(1,[0,0],[(-2),(-2)],[(-2),(-2)]),(1,[0,0],[(-2),(-2)],[(-2),(-1)]),(1,[0,0],[(-2),(-2)],[(-2),0]),(1,[0,0],[(-2),(-2)],[(-2),1]),(1,[0,0],[(-2),(-2)],[(-2),2]),(1,[0,0],[(-2),(-2)],[(-1),(-2)]),(1,[0,0],[(-2),(-2)],[(-1),(-1)]),(1,[0,0],[(-2),(-2)],[(-1),0]),(1,[0,0],[(-2),(-2)],[(-1),1]),(1,[0,0],[(-2),(-2)],[(-1),2]),(1,[0,0],[(-2),(-2)],[0,(-2)]),(1,[0,0],[(-2),(-2)],[0,(-1)]),(1,[0,0],[(-2),(-2)],[0,0]),(1,[0,0],[(-2),(-1)],[(-2),(-1)]),(1,[0,0],[(-2),(-1)],[(-2),0]),(1,[0,0],[(-2),(-1)],[(-2),1]),(1,[0,0],[(-2),(-1)],[(-2),2]),(1,[0,0],[(-2),(-1)],[(-1),(-2)]),(1,[0,0],[(-2),(-1)],[(-1),(-1)]),(1,[0,0],[(-2),(-1)],[(-1),0]),(1,[0,0],[(-2),(-1)],[(-1),1]),(1,[0,0],[(-2),(-1)],[(-1),2]),(1,[0,0],[(-2),(-1)],[0,(-2)]),(1,[0,0],[(-2),(-1)],[0,(-1)]),(1,[0,0],[(-2),(-1)],[0,0]),(1,[0,0],[(-2),0],[(-2),0]),(1,[0,0],[(-2),0],[(-2),1]),(1,[0,0],[(-2),0],[(-2),2]),(1,[0,0],[(-2),0],[(-1),(-2)]),(1,[0,0],[(-2),0],[(-1),(-1)]),(1,[0,0],[(-2),0],[(-1),0]),(1,[0,0],[(-2),0],[(-1),1]),(1,[0,0],[(-2),0],[(-1),2]),(1,[0,0],[(-2),0],[0,(-2)]),(1,[0,0],[(-2),0],[0,(-1)]),(1,[0,0],[(-2),0],[0,0]),(1,[0,0],[(-2),1],[(-2),1]),(1,[0,0],[(-2),1],[(-2),2]),(1,[0,0],[(-2),1],[(-1),(-2)]),(1,[0,0],[(-2),1],[(-1),(-1)]),(1,[0,0],[(-2),1],[(-1),0]),(1,[0,0],[(-2),1],[(-1),1]),(1,[0,0],[(-2),1],[(-1),2]),(1,[0,0],[(-2),1],[0,(-2)]),(1,[0,0],[(-2),1],[0,(-1)]),(1,[0,0],[(-2),1],[0,0]),(1,[0,0],[(-2),2],[(-2),2]),(1,[0,0],[(-2),2],[(-1),(-2)]),(1,[0,0],[(-2),2],[(-1),(-1)]),(1,[0,0],[(-2),2],[(-1),0]),(1,[0,0],[(-2),2],[(-1),1]),(1,[0,0],[(-2),2],[(-1),2]),(1,[0,0],[(-2),2],[0,(-2)]),(1,[0,0],[(-2),2],[0,(-1)]),(1,[0,0],[(-2),2],[0,0]),(1,[0,0],[(-1),(-2)],[(-1),(-2)]),(1,[0,0],[(-1),(-2)],[(-1),(-1)]),(1,[0,0],[(-1),(-2)],[(-1),0]),(1,[0,0],[(-1),(-2)],[(-1),1]),(1,[0,0],[(-1),(-2)],[(-1),2]),(1,[0,0],[(-1),(-2)],[0,(-2)]),(1,[0,0],[(-1),(-2)],[0,(-1)]),(1,[0,0],[(-1),(-2)],[0,0]),(1,[0,0],[(-1),(-1)],[(-1),(-1)]),(1,[0,0],[(-1),(-1)],[(-1),0]),(1,[0,0],[(-1),(-1)],[(-1),1]),(1,[0,0],[(-1),(-1)],[(-1),2]),(1,[0,0],[(-1),(-1)],[0,(-2)]),(1,[0,0],[(-1),(-1)],[0,(-1)]),(1,[0,0],[(-1),(-1)],[0,0]),(1,[0,0],[(-1),0],[(-1),0]),(1,[0,0],[(-1),0],[(-1),1]),(1,[0,0],[(-1),0],[(-1),2]),(1,[0,0],[(-1),0],[0,(-2)]),(1,[0,0],[(-1),0],[0,(-1)]),(1,[0,0],[(-1),0],[0,0]),(1,[0,0],[(-1),1],[(-1),1]),(1,[0,0],[(-1),1],[(-1),2]),(1,[0,0],[(-1),1],[0,(-2)]),(1,[0,0],[(-1),1],[0,(-1)]),(1,[0,0],[(-1),1],[0,0]),(1,[0,0],[(-1),2],[(-1),2]),(1,[0,0],[(-1),2],[0,(-2)]),(1,[0,0],[(-1),2],[0,(-1)]),(1,[0,0],[(-1),2],[0,0]),(1,[0,0],[0,(-2)],[0,(-2)]),(1,[0,0],[0,(-2)],[0,(-1)]),(1,[0,0],[0,(-2)],[0,0]),(1,[0,0],[0,(-1)],[0,(-1)]),(1,[0,0],[0,(-1)],[0,0]),(1,[0,0],[0,0],[0,0])]
theorem a1Y : AL 1 2 2 25 = bC2:=by kernel_rfl
theorem aZW : vR 1 2 2 bC2 = true:=by kernel_rfl
theorem a2H : tJ 1 ((2 : Nat) : Int) ((2 : Nat) : Int) = some (true,()):=gW (n:=25) (.inl rfl) (by decide) (by decide) (by decide) (by decide) (by kernel_rfl) (by kernel_rfl) a1Y aZW
def bED : List Lay:=[(2,[],[],[])]
theorem a2W : AL 2 0 0 1 = bED:=by kernel_rfl
theorem aZT : vR 2 0 0 bED = true:=by kernel_rfl
theorem a1U : tJ 2 ((0 : Nat) : Int) ((0 : Nat) : Int) = some (true,()):=gW (n:=1) (.inr rfl) (by decide) (by decide) (by decide) (by decide) (by kernel_rfl) (by kernel_rfl) a2W aZT
def bCA : List Lay:=[(2,[],[],[])]
theorem a1T : AL 2 0 1 1 = bCA:=by kernel_rfl
theorem aU8 : vR 2 0 1 bCA = true:=by kernel_rfl
theorem a3Y : tJ 2 ((0 : Nat) : Int) ((1 : Nat) : Int) = some (true,()):=gW (n:=1) (.inr rfl) (by decide) (by decide) (by decide) (by decide) (by kernel_rfl) (by kernel_rfl) a1T aU8
def bCP : List Lay:=[(2,[],[],[])]
theorem a4U : AL 2 0 2 1 = bCP:=by kernel_rfl
theorem aYO : vR 2 0 2 bCP = true:=by kernel_rfl
theorem a07 : tJ 2 ((0 : Nat) : Int) ((2 : Nat) : Int) = some (true,()):=gW (n:=1) (.inr rfl) (by decide) (by decide) (by decide) (by decide) (by kernel_rfl) (by kernel_rfl) a4U aYO
def bEF : List Lay:=[(2,[0],[0],[0])]
theorem a2F : AL 2 1 0 1 = bEF:=by kernel_rfl
theorem aYR : vR 2 1 0 bEF = true:=by kernel_rfl
theorem a2P : tJ 2 ((1 : Nat) : Int) ((0 : Nat) : Int) = some (true,()):=gW (n:=1) (.inr rfl) (by decide) (by decide) (by decide) (by decide) (by kernel_rfl) (by kernel_rfl) a2F aYR
def bCW : List Lay:=[(2,[0],[(-2)],[(-1)]),(2,[0],[(-1)],[(-1)]),(2,[0],[0],[0])]
theorem a4G : AL 2 1 1 3 = bCW:=by kernel_rfl
theorem aYW : vR 2 1 1 bCW = true:=by kernel_rfl
theorem a4D : tJ 2 ((1 : Nat) : Int) ((1 : Nat) : Int) = some (true,()):=gW (n:=3) (.inr rfl) (by decide) (by decide) (by decide) (by decide) (by kernel_rfl) (by kernel_rfl) a4G aYW
def bD0 : List Lay:=[(2,[0],[(-4)],[(-2)]),(2,[0],[(-3)],[(-2)]),(2,[0],[(-2)],[(-2)]),(2,[0],[(-2)],[(-1)]),(2,[0],[(-1)],[(-1)]),(2,[0],[0],[0])]
theorem a1B : AL 2 1 2 5 = bD0:=by kernel_rfl
theorem aU2 : vR 2 1 2 bD0 = true:=by kernel_rfl
theorem a2T : tJ 2 ((1 : Nat) : Int) ((2 : Nat) : Int) = some (true,()):=gW (n:=5) (.inr rfl) (by decide) (by decide) (by decide) (by decide) (by kernel_rfl) (by kernel_rfl) a1B aU2
def bDJ : List Lay:=[(2,[0],[(-6)],[(-3)]),(2,[0],[(-5)],[(-3)]),(2,[0],[(-4)],[(-3)]),(2,[0],[(-4)],[(-2)]),(2,[0],[(-3)],[(-3)]),(2,[0],[(-3)],[(-2)]),(2,[0],[(-2)],[(-2)]),(2,[0],[(-2)],[(-1)]),(2,[0],[(-1)],[(-1)]),(2,[0],[0],[0])]
theorem a2C : AL 2 1 3 7 = bDJ:=by kernel_rfl
theorem aV5 : vR 2 1 3 bDJ = true:=by kernel_rfl
theorem a4K : tJ 2 ((1 : Nat) : Int) ((3 : Nat) : Int) = some (true,()):=gW (n:=7) (.inr rfl) (by decide) (by decide) (by decide) (by decide) (by kernel_rfl) (by kernel_rfl) a2C aV5
def bDG : List Lay:=[(2,[0],[(-8)],[(-4)]),(2,[0],[(-7)],[(-4)]),(2,[0],[(-6)],[(-4)]),(2,[0],[(-6)],[(-3)]),(2,[0],[(-5)],[(-4)]),(2,[0],[(-5)],[(-3)]),(2,[0],[(-4)],[(-4)]),(2,[0],[(-4)],[(-3)]),(2,[0],[(-4)],[(-2)]),(2,[0],[(-3)],[(-3)]),(2,[0],[(-3)],[(-2)]),(2,[0],[(-2)],[(-2)]),(2,[0],[(-2)],[(-1)]),(2,[0],[(-1)],[(-1)]),(2,[0],[0],[0])]
theorem a2O : AL 2 1 4 9 = bDG:=by kernel_rfl
theorem aV2 : vR 2 1 4 bDG = true:=by kernel_rfl
theorem a4X : tJ 2 ((1 : Nat) : Int) ((4 : Nat) : Int) = some (true,()):=gW (n:=9) (.inr rfl) (by decide) (by decide) (by decide) (by decide) (by kernel_rfl) (by kernel_rfl) a2O aV2
def bDL : List Lay:=[(2,[0],[(-10)],[(-5)]),(2,[0],[(-9)],[(-5)]),(2,[0],[(-8)],[(-5)]),(2,[0],[(-8)],[(-4)]),(2,[0],[(-7)],[(-5)]),(2,[0],[(-7)],[(-4)]),(2,[0],[(-6)],[(-5)]),(2,[0],[(-6)],[(-4)]),(2,[0],[(-6)],[(-3)]),(2,[0],[(-5)],[(-5)]),(2,[0],[(-5)],[(-4)]),(2,[0],[(-5)],[(-3)]),(2,[0],[(-4)],[(-4)]),(2,[0],[(-4)],[(-3)]),(2,[0],[(-4)],[(-2)]),(2,[0],[(-3)],[(-3)]),(2,[0],[(-3)],[(-2)]),(2,[0],[(-2)],[(-2)]),(2,[0],[(-2)],[(-1)]),(2,[0],[(-1)],[(-1)]),(2,[0],[0],[0])]
theorem a0Z : AL 2 1 5 11 = bDL:=by kernel_rfl
theorem aYP : vR 2 1 5 bDL = true:=by kernel_rfl
theorem a2Q : tJ 2 ((1 : Nat) : Int) ((5 : Nat) : Int) = some (true,()):=gW (n:=11) (.inr rfl) (by decide) (by decide) (by decide) (by decide) (by kernel_rfl) (by kernel_rfl) a0Z aYP
def bDW : List Lay:=[(2,[0],[(-12)],[(-6)]),(2,[0],[(-11)],[(-6)]),(2,[0],[(-10)],[(-6)]),(2,[0],[(-10)],[(-5)]),(2,[0],[(-9)],[(-6)]),(2,[0],[(-9)],[(-5)]),(2,[0],[(-8)],[(-6)]),(2,[0],[(-8)],[(-5)]),(2,[0],[(-8)],[(-4)]),(2,[0],[(-7)],[(-6)]),(2,[0],[(-7)],[(-5)]),(2,[0],[(-7)],[(-4)]),(2,[0],[(-6)],[(-6)]),(2,[0],[(-6)],[(-5)]),(2,[0],[(-6)],[(-4)]),(2,[0],[(-6)],[(-3)]),(2,[0],[(-5)],[(-5)]),(2,[0],[(-5)],[(-4)]),(2,[0],[(-5)],[(-3)]),(2,[0],[(-4)],[(-4)]),(2,[0],[(-4)],[(-3)]),(2,[0],[(-4)],[(-2)]),(2,[0],[(-3)],[(-3)]),(2,[0],[(-3)],[(-2)]),(2,[0],[(-2)],[(-2)]),(2,[0],[(-2)],[(-1)]),(2,[0],[(-1)],[(-1)]),(2,[0],[0],[0])]
theorem a4Y : AL 2 1 6 13 = bDW:=by kernel_rfl
theorem aXL : vR 2 1 6 bDW = true:=by kernel_rfl
theorem a3I : tJ 2 ((1 : Nat) : Int) ((6 : Nat) : Int) = some (true,()):=gW (n:=13) (.inr rfl) (by decide) (by decide) (by decide) (by decide) (by kernel_rfl) (by kernel_rfl) a4Y aXL
def bEB : List Lay:=[(2,[0,0],[0,0],[0,0])]
theorem a00 : AL 2 2 0 1 = bEB:=by kernel_rfl
theorem aX1 : vR 2 2 0 bEB = true:=by kernel_rfl
theorem a1I : tJ 2 ((2 : Nat) : Int) ((0 : Nat) : Int) = some (true,()):=gW (n:=1) (.inr rfl) (by decide) (by decide) (by decide) (by decide) (by kernel_rfl) (by kernel_rfl) a00 aX1
def bD5 : List Lay:=[(2,[0,0],[(-2),(-2)],[(-1),(-1)]),(2,[0,0],[(-2),(-1)],[(-1),(-1)]),(2,[0,0],[(-2),0],[(-1),(-1)]),(2,[0,0],[(-2),0],[(-1),0]),(2,[0,0],[(-2),1],[(-1),0]),(2,[0,0],[(-2),2],[(-1),1]),(2,[0,0],[(-1),(-2)],[(-1),(-1)]),(2,[0,0],[(-1),(-1)],[(-1),(-1)]),(2,[0,0],[(-1),(-1)],[(-1),0]),(2,[0,0],[(-1),(-1)],[(-1),1]),(2,[0,0],[(-1),0],[(-1),0]),(2,[0,0],[(-1),0],[(-1),1]),(2,[0,0],[(-1),1],[(-1),1]),(2,[0,0],[(-1),1],[(-1),2]),(2,[0,0],[0,(-2)],[0,(-1)]),(2,[0,0],[0,(-1)],[0,(-1)]),(2,[0,0],[0,0],[0,0])]
theorem a5E : AL 2 2 1 9 = bD5:=by kernel_rfl
theorem aY9 : vR 2 2 1 bD5 = true:=by kernel_rfl
theorem a42 : tJ 2 ((2 : Nat) : Int) ((1 : Nat) : Int) = some (true,()):=gW (n:=9) (.inr rfl) (by decide) (by decide) (by decide) (by decide) (by kernel_rfl) (by kernel_rfl) a5E aY9
def bCE : List Lay:=[(2,[0,0],[(-4),(-4)],[(-2),(-2)]),(2,[0,0],[(-4),(-3)],[(-2),(-2)]),(2,[0,0],[(-4),(-2)],[(-2),(-2)]),(2,[0,0],[(-4),(-2)],[(-2),(-1)]),(2,[0,0],[(-4),(-1)],[(-2),(-2)]),(2,[0,0],[(-4),(-1)],[(-2),(-1)]),(2,[0,0],[(-4),0],[(-2),(-2)]),(2,[0,0],[(-4),0],[(-2),(-1)]),(2,[0,0],[(-4),0],[(-2),0]),(2,[0,0],[(-4),1],[(-2),(-1)]),(2,[0,0],[(-4),1],[(-2),0]),(2,[0,0],[(-4),2],[(-2),0]),(2,[0,0],[(-4),2],[(-2),1]),(2,[0,0],[(-4),3],[(-2),1]),(2,[0,0],[(-4),4],[(-2),2]),(2,[0,0],[(-3),(-4)],[(-2),(-2)]),(2,[0,0],[(-3),(-3)],[(-2),(-2)]),(2,[0,0],[(-3),(-3)],[(-2),(-1)]),(2,[0,0],[(-3),(-2)],[(-2),(-2)]),(2,[0,0],[(-3),(-2)],[(-2),(-1)]),(2,[0,0],[(-3),(-2)],[(-2),0]),(2,[0,0],[(-3),(-1)],[(-2),(-2)]),(2,[0,0],[(-3),(-1)],[(-2),(-1)]),(2,[0,0],[(-3),(-1)],[(-2),0]),(2,[0,0],[(-3),(-1)],[(-2),1]),(2,[0,0],[(-3),0],[(-2),(-2)]),(2,[0,0],[(-3),0],[(-2),(-1)]),(2,[0,0],[(-3),0],[(-2),0]),(2,[0,0],[(-3),0],[(-2),1]),(2,[0,0],[(-3),0],[(-2),2]),(2,[0,0],[(-3),1],[(-2),(-1)]),(2,[0,0],[(-3),1],[(-2),0]),(2,[0,0],[(-3),1],[(-2),1]),(2,[0,0],[(-3),1],[(-2),2]),(2,[0,0],[(-3),2],[(-2),0]),(2,[0,0],[(-3),2],[(-2),1]),(2,[0,0],[(-3),2],[(-2),2]),(2,[0,0],[(-3),3],[(-2),1]),(2,[0,0],[(-3),3],[(-2),2]),(2,[0,0],[(-3),4],[(-2),2]),(2,[0,0],[(-2),(-4)],[(-2),(-2)]),(2,[0,0],[(-2),(-4)],[(-1),(-2)]),(2,[0,0],[(-2),(-3)],[(-2),(-2)]),(2,[0,0],[(-2),(-3)],[(-2),(-1)]),(2,[0,0],[(-2),(-3)],[(-1),(-2)]),(2,[0,0],[(-2),(-2)],[(-2),(-2)]),(2,[0,0],[(-2),(-2)],[(-2),(-1)]),(2,[0,0],[(-2),(-2)],[(-2),0]),(2,[0,0],[(-2),(-2)],[(-2),1]),(2,[0,0],[(-2),(-2)],[(-2),2]),(2,[0,0],[(-2),(-2)],[(-1),(-4)]),(2,[0,0],[(-2),(-2)],[(-1),(-3)]),(2,[0,0],[(-2),(-2)],[(-1),(-2)]),(2,[0,0],[(-2),(-2)],[(-1),(-1)]),(2,[0,0],[(-2),(-1)],[(-2),(-1)]),(2,[0,0],[(-2),(-1)],[(-2),0]),(2,[0,0],[(-2),(-1)],[(-2),1]),(2,[0,0],[(-2),(-1)],[(-2),2]),(2,[0,0],[(-2),(-1)],[(-1),(-3)]),(2,[0,0],[(-2),(-1)],[(-1),(-2)]),(2,[0,0],[(-2),(-1)],[(-1),(-1)]),(2,[0,0],[(-2),0],[(-2),0]),(2,[0,0],[(-2),0],[(-2),1]),(2,[0,0],[(-2),0],[(-2),2]),(2,[0,0],[(-2),0],[(-1),(-2)]),(2,[0,0],[(-2),0],[(-1),(-1)]),(2,[0,0],[(-2),0],[(-1),0]),(2,[0,0],[(-2),1],[(-2),1]),(2,[0,0],[(-2),1],[(-2),2]),(2,[0,0],[(-2),1],[(-2),3]),(2,[0,0],[(-2),1],[(-1),(-2)]),(2,[0,0],[(-2),1],[(-1),(-1)]),(2,[0,0],[(-2),1],[(-1),0]),(2,[0,0],[(-2),2],[(-2),2]),(2,[0,0],[(-2),2],[(-2),3]),(2,[0,0],[(-2),2],[(-2),4]),(2,[0,0],[(-2),2],[(-1),(-2)]),(2,[0,0],[(-2),2],[(-1),(-1)]),(2,[0,0],[(-2),2],[(-1),0]),(2,[0,0],[(-2),2],[(-1),1]),(2,[0,0],[(-2),3],[(-1),1]),(2,[0,0],[(-2),4],[(-1),2]),(2,[0,0],[(-1),(-4)],[(-1),(-2)]),(2,[0,0],[(-1),(-3)],[(-1),(-2)]),(2,[0,0],[(-1),(-3)],[(-1),(-1)]),(2,[0,0],[(-1),(-2)],[(-1),(-2)]),(2,[0,0],[(-1),(-2)],[(-1),(-1)]),(2,[0,0],[(-1),(-2)],[(-1),0]),(2,[0,0],[(-1),(-2)],[(-1),1]),(2,[0,0],[(-1),(-2)],[(-1),2]),(2,[0,0],[(-1),(-1)],[(-1),(-1)]),(2,[0,0],[(-1),(-1)],[(-1),0]),(2,[0,0],[(-1),(-1)],[(-1),1]),(2,[0,0],[(-1),(-1)],[(-1),2]),(2,[0,0],[(-1),0],[(-1),0]),(2,[0,0],[(-1),0],[(-1),1]),(2,[0,0],[(-1),0],[(-1),2]),(2,[0,0],[(-1),1],[(-1),1]),(2,[0,0],[(-1),1],[(-1),2]),(2,[0,0],[(-1),1],[(-1),3]),(2,[0,0],[(-1),2],[(-1),2]),(2,[0,0],[(-1),2],[(-1),3]),(2,[0,0],[(-1),2],[(-1),4]),(2,[0,0],[0,(-4)],[0,(-2)]),(2,[0,0],[0,(-3)],[0,(-2)]),(2,[0,0],[0,(-2)],[0,(-2)]),(2,[0,0],[0,(-2)],[0,(-1)]),(2,[0,0],[0,(-1)],[0,(-1)]),(2,[0,0],[0,0],[0,0])]
theorem a0H : AL 2 2 2 25 = bCE:=by kernel_rfl
theorem aYD : vR 2 2 2 bCE = true:=by kernel_rfl
theorem a4E : tJ 2 ((2 : Nat) : Int) ((2 : Nat) : Int) = some (true,()):=gW (n:=25) (.inr rfl) (by decide) (by decide) (by decide) (by decide) (by kernel_rfl) (by kernel_rfl) a0H aYD
theorem bD4 (h : Bool) {r m : Nat} (hr : r ≤ 2) (hm : m ≤ 6) (hx : r = 1 ∨ m ≤ 2) : tJ (bif h then 2 else 1) (r : Int) (m : Int) = some (true,()):=by
 rcases (by omega : r = 0 ∨ r = 1 ∨ r = 2) with rfl | rfl | rfl
 ·rcases (by omega : m = 0 ∨ m = 1 ∨ m = 2) with rfl | rfl | rfl
  ·cases h; exact a5D; exact a1U
  ·cases h; exact a1D; exact a3Y
  ·cases h; exact a05; exact a07
 ·rcases (by omega : m = 0 ∨ m = 1 ∨ m = 2 ∨ m = 3 ∨ m = 4 ∨ m = 5 ∨ m = 6) with rfl | rfl | rfl | rfl | rfl | rfl | rfl
  ·cases h; exact a1P; exact a2P
  ·cases h; exact a2J; exact a4D
  ·cases h; exact a4S; exact a2T
  ·cases h; exact a4C; exact a4K
  ·cases h; exact a15; exact a4X
  ·cases h; exact a19; exact a2Q
  ·cases h; exact a3K; exact a3I
 ·rcases (by omega : m = 0 ∨ m = 1 ∨ m = 2) with rfl | rfl | rfl
  ·cases h; exact a4T; exact a1I
  ·cases h; exact a0I; exact a42
  ·cases h; exact a2H; exact a4E
theorem aV4 {h : Bool} {r m : Int} (hr : 0 ≤ r∧r ≤ 255) (hm : 0 ≤ m∧m ≤ 255) : f11 (h,r,m,()) = some (true,()):=by
 obtain ⟨r',m',e1,e2,h1,h2,h3⟩:=bCK hr hm
 rw [a3W,e2,e1]
 exact bD4 h h1 h2 h3
end Go.PM
