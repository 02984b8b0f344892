/- 14 -/
import Derived.Test.YtcbgclaonahijaaGreatDoorQK13
set_option linter.all false
namespace Go.PM
open Go Go.RowKit
def zq39 (P : Program) (F : Frm) (o : Oper) : Option PV := match o.op with
  | .buildSlice t len parts => match OW P t with
    | some (e, ty) => match N6 P e with
      | some z => bif Nat.ble (len * ty.size) 16777216 && Nat.ble 1 z.cells.size then
        match owns (parts.toList.map fun p => (p.1, ev F p.2)) with
        | [] => match XW [] (parts.toList.map fun p => (p.1, ev F p.2)) with
          | some ps => match aA7 (fun i => some (i * ty.size, ty.size)) (UK z (len * ty.size)) ps with
            | some cs => match KJ (dec ty) ty.size len cs with
              | some l => some (zX ty l (some len))
              | none => none
            | none => none
          | none => none
        | _ => none
        else none
      | none => none
    | none => none
  | _ => none
def zq54 (P : Program) (cl : Callee) (l : List Oper) (D : Bool) (o : Oper) (F : Frm) (H : Heap) : Option (PV × Heap × Nat) := match D with
  | false => I9 P cl l o F H
  | true => match guardOf F l o with
    | some true => match zq39 P F o with
      | some v => some (v, H, 0)
      | none => none
    | _ => none
section
variable {P : Program} {cl : Callee} {n0 : Nat → Prop} {nt : Nat} {w : World} {G : Gd} {μ : Mp} {F : Frm} {H : Heap} {a : Act} {ops : Array Oper}
theorem zq3A (hW : aX n0 G μ H w) (hF : fG w G μ nt F a) {o v} (h : zq39 P F o = some v) : XN P n0 w G μ o a v H := by
  unfold zq39 at h
  split at h
  · rename_i t len parts ho
    split at h
    · rename_i e ty hel
      split at h
      · rename_i z hz
        cases hb : (Nat.ble (len * ty.size) 16777216 && Nat.ble 1 z.cells.size) with
        | false => rw [hb] at h; cases h
        | true =>
          rw [hb] at h
          simp only [cond_true] at h
          simp only [Bool.and_eq_true] at hb
          have hb1 := Nat.le_of_ble_eq_true hb.1
          split at h
          · rename_i how
            split at h
            · rename_i ps hps
              split at h
              · rename_i cs' hf
                split at h
                · rename_i l hd
                  rw [← a7C (H1 := H) _ how] at hps
                  obtain rfl := Option.some.inj h
                  exact .value (s := Instr.buildSlice t len (parts.map fun (i, x) => (i, a.eval x))) (by simp only [execOp, ho]) (aV0 hW hel hz hb1 (by rw [aCD]; exact aRQ hW a.eval _ _ (cT hF) hps) hf hd)
                · cases h
              · cases h
            · cases h
          · cases h
      · cases h
    · cases h
  · cases h
theorem zq57 (hcl : dS P cl) {D o v H' c} (h : zq54 P cl ops.toList D o F H = some (v, H', c)) (hW : aX n0 G μ H w) (hF : fG w G μ nt F a) :
    (Region.wanted o (yielded ops a.tmps) = true ∧ XN P n0 w G μ o a v H') ∨ (Region.wanted o (yielded ops a.tmps) = false ∧ v = .lit undef ∧ H' = H) := by
  cases D with
  | false => exact aEK hcl h hW hF
  | true =>
    simp only [zq54] at h
    split at h
    · rename_i hg
      split at h
      · rename_i v1 hv
        obtain ⟨rfl, rfl, rfl⟩ := h
        exact .inl ⟨OO hF hg, zq3A hW hF hv⟩
      · cases h
    · cases h
theorem zq55 (hcl : dS P cl) {l D o H' v c} (h : zq54 P cl l D o F H = some (v, H', c)) : (c ≤ 1 → H' = H) ∧ (c = 0 → ∀ H2, zq54 P cl l D o F H2 = some (v, H2, 0)) := by
  cases D with
  | false => exact bLQ hcl h
  | true =>
    simp only [zq54] at h
    split at h
    · rename_i hg
      split at h
      · rename_i v1 hv
        obtain ⟨rfl, rfl, rfl⟩ := h
        exact ⟨fun _ => rfl, fun _ H2 => by simp only [zq54, hg, hv]⟩
      · cases h
    · cases h
theorem zq56 {D} {o : Oper} {F' : Frm} (h : ∀ t ∈ o.looksAt ops, cR F' t = cR F t) : zq54 P cl ops.toList D o F' H = zq54 P cl ops.toList D o F H := by
  cases D with
  | false => exact aYU h
  | true =>
    have hev : ∀ x ∈ o.op.operands, ev F' x = ev F x := fun x hx => by
      cases x with
      | tmp t => exact h t (List.mem_append_left _ (List.mem_filterMap.2 ⟨.tmp t, by simpa using hx, rfl⟩))
      | _ => rfl
    have hg : guardOf F' ops.toList o = guardOf F ops.toList o := by
      unfold guardOf
      split
      · rfl
      · rename_i j want hgu
        split
        · rename_i p hp
          split
          · rename_i t ht
            rw [h t (List.mem_append_right _ (by
              rw [hgu]
              have hp : ops[j]? = some p := by simpa using hp
              simp [hp, ht]))]
          · rfl
        · rfl
    have hm : zq39 P F' o = zq39 P F o := by
      unfold zq39
      split
      · rename_i t n parts ho
        have : parts.toList.map (fun p => (p.1, ev F' p.2)) = parts.toList.map fun p => (p.1, ev F p.2) := List.map_congr_left fun p hp => by
          rw [hev p.2 (by rw [ho]; simp only [Op.operands]; grind)]
        rw [this]
      · rfl
    simp only [zq54, hg, hm]
end
structure zq0P (P : Program) (cl : Callee) (nt : Nat) (ops : Array Oper) (F : Frm) (H : Heap) (F' : Frm) (H' : Heap) where
  D : Nat → Bool
  Fs : Nat → Frm
  Hs : Nat → Heap
  vs : Nat → PV
  cs : Nat → Nat
  f0 : Fs 0 = F
  h0 : Hs 0 = H
  fn : Fs ops.size = F'
  hn : Hs ops.size = H'
  step : ∀ i o, ops[i]? = some o → zq54 P cl ops.toList (D i) o (Fs i) (Hs i) = some (vs i, Hs (i + 1), cs i) ∧ aER nt (Fs i) o.dst (vs i) = some (Fs (i + 1))
  wr : ∀ i j, i < j → j < ops.size → 1 < cs i → 1 < cs j → ((qO ops).getD j 0).testBit i = true
  rd : ∀ i o, ops[i]? = some o → cs i = 1 → ∀ p, p ≤ ops.size → (p = 0 ∨ ∃ w, p = w + 1 ∧ 1 < cs w ∧ ((qO ops).getD w 0).testBit i = false) →
    (∀ b, b < ops.size → 1 < cs b → ((qO ops).getD i 0).testBit b = true → b < p) → zq54 P cl ops.toList (D i) o (Fs i) (Hs p) = some (vs i, Hs p, 1)
section
variable {P : Program} {cl : Callee} {nt : Nat} {ops : Array Oper} {F F' : Frm} {H H' : Heap} {n0 : Nat → Prop} {wi : World} {Gi : Gd} {μi : Mp}
def zq4Y (T : zq0P P cl nt ops F H F' H') (S : Nat → Bool) (t : Nat) : Nat → PV
  | 0 => cR F t
  | k + 1 => if S k = true ∧ aJJ ops k = some t then T.vs k else zq4Y T S t k
def zq2Z (T : zq0P P cl nt ops F H F' H') (S : Nat → Bool) : Nat → Heap
  | 0 => H
  | k + 1 => if S k = true ∧ 1 < T.cs k then T.Hs (k + 1) else zq2Z T S k
variable (T : zq0P P cl nt ops F H F' H')
theorem zq4Z t : ∀ k, k ≤ ops.size → zq4Y T (fun _ => true) t k = cR (T.Fs k) t
  | 0, _ => by rw [zq4Y, T.f0]
  | k + 1, hk => by
    obtain ⟨o, ho⟩ : ∃ o, ops[k]? = some o := ⟨ops[k], Array.getElem?_eq_getElem Z⟩
    rw [zq4Y, zq4Z t k Z, bK8 (T.step k o ho).2 t]
    simp only [aJJ, ho, Option.bind_some, true_and]
theorem zq50 {S S'} {t : Nat} : ∀ {k}, (∀ j, j < k → aJJ ops j = some t → S j = S' j) → zq4Y T S t k = zq4Y T S' t k
  | 0, _ => rfl
  | k + 1, h => by
    rw [zq4Y, zq4Y, zq50 fun j hj => h j Z]
    grind
theorem zq51 {S} {t k : Nat} : ∀ {n}, k ≤ n → (∀ j, k ≤ j → j < n → aJJ ops j = some t → S j = false) → zq4Y T S t n = zq4Y T S t k
  | 0, hk, _ =>W
  | n + 1, hk, h => by
    rcases Nat.lt_or_ge k (n + 1) with hl | hl
    · rw [zq4Y, zq51 Z fun j h1 h2 => h j h1 Z, if_neg]
      grind
    grind
theorem zq2O S : ∀ k, ∃ F1, ∀ t, cR F1 t = zq4Y T S t k
  | 0 => ⟨F, fun t => rfl⟩
  | k + 1 => by
    obtain ⟨F1, h1⟩ := zq2O S k
    by_cases hS : S k = true
    · cases hd : aJJ ops k with
      | none => exact ⟨F1, fun t => by rw [h1, zq4Y]; grind⟩
      | some d =>
        refine ⟨bSK F1 d (T.vs k), fun t => ?_⟩
        rw [a2R, h1, zq4Y]
        grind
    · exact ⟨F1, fun t => by rw [h1, zq4Y]; grind⟩
theorem zq30 (hcl : dS P cl) : ∀ k, k ≤ ops.size → zq2Z T (fun _ => true) k = T.Hs k
  | 0, _ => by rw [zq2Z, T.h0]
  | k + 1, hk => by
    obtain ⟨o, ho⟩ : ∃ o, ops[k]? = some o := ⟨ops[k], Array.getElem?_eq_getElem Z⟩
    rw [zq2Z, zq30 hcl k Z]
    by_cases hc : 1 < T.cs k
    · rw [if_pos ⟨rfl, hc⟩]
    · rw [if_neg (fun h => hc h.2)]
      exact ((zq55 hcl (T.step k o ho).1).1 Z).symm
theorem zq32 {S S'} : ∀ {k}, (∀ j, j < k → 1 < T.cs j → S j = S' j) → zq2Z T S k = zq2Z T S' k
  | 0, _ => rfl
  | k + 1, h => by
    rw [zq2Z, zq2Z, zq32 fun j hj => h j Z]
    grind
theorem zq33 {S k} : ∀ {n}, k ≤ n → (∀ j, k ≤ j → j < n → 1 < T.cs j → S j = false) → zq2Z T S n = zq2Z T S k
  | 0, hk, _ =>W
  | n + 1, hk, h => by
    rcases Nat.lt_or_ge k (n + 1) with hl | hl
    · rw [zq2Z, zq33 Z fun j h1 h2 => h j h1 Z, if_neg]
      grind
    grind
theorem zq31 (S : Nat → Bool) : ∀ n, ∃ p, p ≤ n ∧ zq2Z T S n = T.Hs p ∧ (p = 0 ∨ ∃ w, p = w + 1 ∧ S w = true ∧ 1 < T.cs w) ∧ ∀ b, b < n → S b = true → 1 < T.cs b → b < p
  | 0 => ⟨0, Nat.le_refl _, by rw [zq2Z, T.h0], .inl rfl, fun b hb => by omega⟩
  | n + 1 => by
    by_cases h : S n = true ∧ 1 < T.cs n
    · exact ⟨n + 1, Nat.le_refl _, by rw [zq2Z, if_pos h], .inr ⟨n, rfl, h.1, h.2⟩, fun b hb _ _ => hb⟩
    · obtain ⟨p, h1, h2, h3, h4⟩ := zq31 S n
      refine ⟨p, by omega, by rw [zq2Z, if_neg h, h2], h3, fun b hb hS hc => ?_⟩
      rcases Nat.lt_or_ge b n with hl | hl
      · exact h4 b hl hS hc
      · obtain rfl : b = n := by omega
        exact absurd ⟨hS, hc⟩ h
theorem zq1N (hcl : dS P cl) (hst : aF8 ops = true) {S S' : Nat → Bool} (hcs : aL4 (qO ops) S) {i : Nat} {o : Oper} (ho : ops[i]? = some o) (hun : S i = false)
    (hahead : ∀ b, ((qO ops).getD i 0).testBit b = true → S b = true) (hSi : S' i = true) (hS' : ∀ j, j ≠ i → S' j = S j) {F1 : Frm} (hF1 : ∀ t, cR F1 t = zq4Y T S t ops.size) :
    ∃ c1 F2, zq54 P cl ops.toList (T.D i) o F1 (zq2Z T S ops.size) = some (T.vs i, zq2Z T S' ops.size, c1) ∧ aER nt F1 o.dst (T.vs i) = some F2 ∧ ∀ t, cR F2 t = zq4Y T S' t ops.size := by
  simp only [aF8, Bool.and_eq_true] at hst
  obtain ⟨hmask, hpairs⟩ := hst
  have hlt : i < ops.size := (Array.getElem?_eq_some_iff.1 ho).1
  have hap : ∀ i j oi oj, ops[i]? = some oi → ops[j]? = some oj → i < j → ((qO ops).getD j 0).testBit i = true ∨ oi.apart ops oj = true := fun i j oi oj hi hj hij => by
    have := a3K hpairs (j := j) (oj := oj) (by simpa using hj)
    rw [Nat.zero_add] at this
    have := a8O this (i := i) (oi := oi) (by simpa using hi) Z
    grind
  have hbehind : ∀ j, ((qO ops).getD j 0).testBit i = true → S j = false := fun j hj => by
    cases hlj : S j with
    | false => rfl
    | true =>
      have h5 : S i = true := hcs j hlj i hj
      grind
  have hwr : ∀ t, (t ∈ o.looksAt ops ∨ o.dst = some t) → (∀ j, j < i → aJJ ops j = some t → S j = true) ∧ (∀ j, i < j → j < ops.size → aJJ ops j = some t → S j = false) := by
    intro t ht
    refine ⟨fun j hj hd => ?_, fun j hj hjs hd => ?_⟩
    · cases hoj : ops[j]? with
      | none => simp [aJJ, hoj] at hd
      | some oj =>
        simp only [aJJ, hoj, Option.bind_some] at hd
        rcases hap j i oj o hoj ho hj with h3 | h3
        · grind
        · obtain ⟨a1, a2, a3⟩ := Oper.apart_spec h3
          grind
    · cases hoj : ops[j]? with
      | none => simp [aJJ, hoj] at hd
      | some oj =>
        simp only [aJJ, hoj, Option.bind_some] at hd
        rcases hap i j o oj ho hoj hj with h3 | h3
        · grind
        · obtain ⟨a1, a2, a3⟩ := Oper.apart_spec h3
          grind
  have hslot : ∀ t ∈ o.looksAt ops, zq4Y T S t ops.size = cR (T.Fs i) t := fun t ht => by
    obtain ⟨w1, w2⟩ := hwr t (.inl ht)
    rw [zq51 T (k := i) Z fun j hj hjs hd => by
      rcases Nat.lt_or_ge i j with hl | hl
      · grind
      · have : j = i := by omega
        subst this; exact hun]
    rw [zq50 T (S' := fun _ => true) fun j hj hd => w1 j hj hd, zq4Z T t i Z]
  obtain ⟨hstep, hput⟩ := T.step i o ho
  have hcg : ∀ H2, zq54 P cl ops.toList (T.D i) o F1 H2 = zq54 P cl ops.toList (T.D i) o (T.Fs i) H2 := fun H2 => zq56 fun t ht => by rw [hF1, hslot t ht]
  have hop : ∃ c1, zq54 P cl ops.toList (T.D i) o F1 (zq2Z T S ops.size) = some (T.vs i, zq2Z T S' ops.size, c1) := by
    rw [hcg]
    by_cases hx : 1 < T.cs i
    · have hord : ∀ j, j < ops.size → 1 < T.cs j → S j = decide (j < i) := fun j hjs hxj => by
        rcases Nat.lt_trichotomy j i with hl | hl | hl
        · rw [decide_eq_true hl]; exact hahead j (T.wr j i hl hlt hxj hx)
        · subst hl; rw [decide_eq_false Z]; exact hun
        · rw [decide_eq_false Z]; exact hbehind j (T.wr i j hl hjs hx hxj)
      have h1 : zq2Z T S ops.size = T.Hs i := by
        rw [zq33 T (k := i) Z fun j hj hjs hxj => by rw [hord j hjs hxj, decide_eq_false Z]]
        rw [zq32 T (S' := fun _ => true) fun j hj hxj => by rw [hord j Z hxj, decide_eq_true hj], zq30 T hcl i Z]
      have h2 : zq2Z T S' ops.size = T.Hs (i + 1) := by
        rw [zq33 T (k := i + 1) Z fun j hj hjs hxj => by rw [hS' j Z, hord j hjs hxj, decide_eq_false Z]]
        rw [zq2Z, if_pos ⟨hSi, hx⟩]
      rw [h1, h2]
      exact ⟨_, hstep⟩
    · have h2 : zq2Z T S' ops.size = zq2Z T S ops.size := zq32 T fun j hj hxj => hS' j (fun e => hx (e ▸ hxj))
      rw [h2]
      by_cases hc0 : T.cs i = 0
      · rw [hc0] at hstep
        exact ⟨0, (zq55 hcl hstep).2 rfl _⟩
      · have hc1 : T.cs i = 1 := by omega
        obtain ⟨p, p1, p2, p3, p4⟩ := zq31 T S ops.size
        rw [p2]
        refine ⟨1, T.rd i o ho hc1 p p1 ?_ fun b hb hcb hmb => p4 b hb (hahead b hmb) hcb⟩
        rcases p3 with h | ⟨w, h, hw, hcw⟩
        · exact .inl h
        · refine .inr ⟨w, h, hcw, ?_⟩
          cases hb : ((qO ops).getD w 0).testBit i with
          | false => rfl
          | true =>
            have := hcs w hw i hb
            rw [hun] at this; cases this
  obtain ⟨c1, hop⟩ := hop
  have hputF1 : ∃ F2, aER nt F1 o.dst (T.vs i) = some F2 := by
    cases hd : o.dst with
    | none => exact ⟨F1, rfl⟩
    | some d =>
      rw [hd] at hput
      simp only [aER] at hput ⊢
      cases hb : Nat.blt d nt with
      | true => exact ⟨_, rfl⟩
      | false => rw [hb] at hput; cases hput
  obtain ⟨F2, hF2⟩ := hputF1
  refine ⟨c1, F2, hop, hF2, fun t => ?_⟩
  rw [bK8 hF2 t]
  by_cases hd : o.dst = some t
  · rw [if_pos hd]
    symm
    rw [zq51 T (k := i + 1) Z fun j hj hjs hdj => by
      rw [hS' j Z]
      exact (hwr t (.inr hd)).2 j Z hjs hdj]
    rw [zq4Y, if_pos ⟨hSi, by simp [aJJ, ho, hd]⟩]
  · rw [if_neg hd, hF1]
    symm
    refine zq50 T fun j hj hdj => hS' j ?_
    rintro rfl
    simp only [aJJ, ho, Option.bind_some] at hdj
    exact hd hdj
theorem zq1M (T : zq0P P cl nt ops F H F' H') (hcl : dS P cl) (hst : aF8 ops = true) {Q} (hQ : ∀ a' w', I n0 wi Gi μi nt F' H' a' w' → Q .normal a' w') {a w} (hI : I n0 wi Gi μi nt F H a w) :
    wpAny P .any ops Q ops.size (Array.replicate ops.size false) a w := by
  have hst2 := hst
  simp only [aF8, Bool.and_eq_true] at hst2
  refine bY3 hst2.1 (J := fun listed a w => ∀ F1, (∀ t, cR F1 t = zq4Y T (fun i => listed.getD i false) t ops.size) → I n0 wi Gi μi nt F1 (zq2Z T (fun i => listed.getD i false) ops.size) a w) ?_ ?_ ?_
  · intro listed a w hall hI
    have h1 : ∀ t, cR F' t = zq4Y T (fun i => listed.getD i false) t ops.size := fun t => by
      rw [zq50 T (S' := fun _ => true) fun j hj _ => hall j hj, zq4Z T t _ (Nat.le_refl _), T.fn]
    have h2 := hI F' h1
    rw [zq32 T (S' := fun _ => true) fun j hj _ => hall j hj, zq30 T hcl _ (Nat.le_refl _), T.hn] at h2
    exact hQ a w h2
  · intro listed listed' a w i o ho hsz hun hcs hahead hSi hS' hI K hK
    obtain ⟨F1, hF1⟩ := zq2O T (fun i => listed.getD i false) ops.size
    have hI1 := hI F1 hF1
    obtain ⟨c1, F2, hop, hF2, hF3⟩ := zq1N T hcl hst hcs ho hun hahead hSi hS' hF1
    generalize hH1 : zq2Z T (fun k => listed'.getD k false) ops.size = H1 at hop
    have hnext : ∀ (a' : Act) (w' : World), (∃ F2, aER nt F1 o.dst (T.vs i) = some F2 ∧ I n0 wi Gi μi nt F2 H1 a' w') → K a' w' := by
      rintro a' w' ⟨F4, hF4, hI2⟩
      obtain rfl : F2 = F4 := Option.some.inj (hF2.symm.trans hF4)
      refine hK a' w' fun F5 hF5 => ?_
      rw [hH1]
      exact hI2.congr fun t => by rw [hF5, hF3]
    obtain ⟨G, μ, e, hW, hF⟩ := hI1
    unfold wpOp
    rw [ho]
    simp only
    rcases zq57 hcl hop hW hF with ⟨k1, k2⟩ | ⟨k1, k2, k3⟩
    · rw [if_pos k1]
      exact .inl (k2 _ _ fun v' w' G' μ' e' hW' hv => hnext _ _ ⟨F2, hF2, G', μ', e.trans e', hW', (hF.mono e'.toMono).aXJ hF2 hv⟩)
    · rw [k1, if_neg O]
      exact hnext _ _ ⟨F2, hF2, G, μ, e, by rw [k3]; exact hW, hF.aXJ hF2 (by rw [k2, VR])⟩
  · intro F1 hF1
    have hfalse : ∀ j, (Array.replicate ops.size false).getD j false = false := fun j => by
      simp only [Array.getD]
      split <;> simp
    rw [zq33 T (k := 0) (Nat.zero_le _) fun j _ _ _ => hfalse j]
    exact hI.congr fun t => by rw [hF1, zq51 T (k := 0) (Nat.zero_le _) fun j _ _ _ => hfalse j]; rfl
theorem zq4B (T : zq0P P cl nt ops F H F' H') (hcl : dS P cl) (hP : P.follows .mixedOrders = true) (hst : aF8 ops = true) {id} {G : Gd} {μ : Mp} {w : World} {a : Act} (hW : aX n0 G μ H w) (hF : fG w G μ nt F a) :
    (Code.region id ops true).wp P (fun e a' w' => e = .normal ∧ ∃ G' μ', Ext n0 w G aH w' G' aH ∧ aX n0 G' μ' H' w' ∧ fG w' G' μ' nt F' a') a w := by
  refine wp_region_any hP ?_
  obtain ⟨G1, μ1, e1, hW1, hF1⟩ := I.fresh hW hF
  have hI : I n0 w G aH nt F H a { w with drawn := w.drawn + 1 } := ⟨G1, μ1, e1.trans (aNJ (Nat.le_add_right _ _)), ZI hW1 _, hF1.mono (aTN _)⟩
  refine zq1M T hcl hst ?_ hI
  rintro a' w' ⟨G', μ', e', hW', hF'⟩
  exact ⟨rfl, G', μ', e'.bWF, hW', hF'⟩
end
structure zq00 where
  vs : List PV
  hs : List Heap
  cs : List Nat
  cd : List (List Bool)
  lit : List Bool
def zq3Q (ops : Array Oper) (i : Nat) : Oper := ops.toList.getD i ⟨none, .nilCheck (.const undef), 0, "", #[], none⟩
def zq2N (ops : Array Oper) (vs : List PV) (F : Frm) : Nat → Frm
  | 0 => F
  | k + 1 => match (zq3Q ops k).dst with
    | some t => (t, vs.getD k .junk) :: zq2N ops vs F k
    | none => zq2N ops vs F k
def zq58 (cs ms : List Nat) (n : Nat) : Bool := (List.range n).all fun j => (List.range j).all fun i => !(Nat.blt 1 (cs.getD i 0) && Nat.blt 1 (cs.getD j 0)) || (ms.getD j 0).testBit i
def zq3H (cs ms : List Nat) (n i p : Nat) : Bool := Nat.beq (cs.getD i 0) 1 && ((Nat.beq p 0 || (Nat.blt 1 (cs.getD (p - 1) 0) && !(ms.getD (p - 1) 0).testBit i)) && (List.range n).all fun b => !(Nat.blt 1 (cs.getD b 0) && (ms.getD i 0).testBit b) || Nat.blt b p)
def zq46 (cs ms : List Nat) (n : Nat) : List (Nat × Nat) := ((List.range n).flatMap fun i => (List.range (n + 1)).map fun p => (i, p)).filter fun x => zq3H cs ms n x.1 x.2
def zq4C (d : zq00) (i : Nat) (H : Heap) (c : Nat) : Option (PV × Heap × Nat) := bif J7 (d.cd.getD i []) then some (d.vs.getD i .junk, H, c) else none
def zq38 (P : Program) (cl : Callee) (ops : Array Oper) (F : Frm) (d : zq00) (n : Nat) : List (Option (PV × Heap × Nat)) × List (Option (PV × Heap × Nat)) :=
  ((List.range n).map fun i => zq54 P cl ops.toList (d.lit.getD i false) (zq3Q ops i) (zq2N ops d.vs F i) (d.hs.getD i []), (zq46 d.cs (qO ops) n).map fun x => zq54 P cl ops.toList (d.lit.getD x.1 false) (zq3Q ops x.1) (zq2N ops d.vs F x.1) (d.hs.getD x.2 []))
def zq4D (ops : Array Oper) (d : zq00) (n : Nat) : List (Option (PV × Heap × Nat)) × List (Option (PV × Heap × Nat)) :=
  ((List.range n).map fun i => zq4C d i (d.hs.getD (i + 1) []) (d.cs.getD i 0), (zq46 d.cs (qO ops) n).map fun x => zq4C d x.1 (d.hs.getD x.2 []) 1)
def zq13 (nt : Nat) (ops : Array Oper) (d : zq00) (n : Nat) : Bool := aF8 ops && (Nat.beq ops.size n && (zq58 d.cs (qO ops) n && (List.range n).all fun i => match (zq3Q ops i).dst with | some t => Nat.blt t nt | none => true))
section
variable {P : Program} {cl : Callee} {nt : Nat} {ops : Array Oper} {F : Frm}
def zq0P.of (d : zq00) (n : Nat) (h : zq38 P cl ops F d n = zq4D ops d n) (hb : zq13 nt ops d n = true) (hcd : d.cd.all J7 = true) : zq0P P cl nt ops F (d.hs.getD 0 []) (zq2N ops d.vs F n) (d.hs.getD n []) :=
  have h1 := congrArg Prod.fst h
  have h4 := congrArg Prod.snd h
  have hb2 : Nat.beq ops.size n = true ∧ zq58 d.cs (qO ops) n = true ∧ ((List.range n).all fun i => match (zq3Q ops i).dst with | some t => Nat.blt t nt | none => true) = true := by
    simp only [zq13, Bool.and_eq_true] at hb
    exact hb.2
  have hn := Nat.eq_of_beq_eq_true hb2.1
  have h3 := hb2.2.1
  have h2 := hb2.2.2
  have hc : ∀ i, J7 (d.cd.getD i []) = true := fun i => by
    rw [List.getD_eq_getElem?_getD]
    cases hg : d.cd[i]? with
    | none => rfl
    | some l => exact List.all_eq_true.1 hcd l (List.mem_of_getElem? hg)
  { D := fun i => d.lit.getD i false
    Fs := zq2N ops d.vs F
    Hs := fun i => d.hs.getD i []
    vs := fun i => d.vs.getD i .junk
    cs := fun i => d.cs.getD i 0
    f0 := rfl
    h0 := rfl
    fn := by rw [hn]
    hn := by rw [hn]
    step := fun i o ho => by
      obtain ⟨hlt, hoe⟩ := Array.getElem?_eq_some_iff.1 ho
      have hat : zq3Q ops i = o := by
        simp [zq3Q, ho]
      rw [hn] at hlt
      have e1 := List.map_inj_left.1 h1 i (List.mem_range.2 hlt)
      have e2 := List.all_eq_true.1 h2 i (List.mem_range.2 hlt)
      simp only [hat, zq4C, hc i, cond_true] at e1 e2
      refine ⟨e1, ?_⟩
      rw [zq2N, hat]
      cases hd : o.dst with
      | none => rfl
      | some t =>
        rw [hd] at e2
        simp only [aER, e2, cond_true]
    wr := fun i j hij hj hi hcj => by
      rw [hn] at hj
      have e1 := List.all_eq_true.1 (List.all_eq_true.1 h3 j (List.mem_range.2 hj)) i (List.mem_range.2 hij)
      have a1 : Nat.blt 1 (d.cs.getD i 0) = true := Nat.ble_eq_true_of_le hi
      have a2 : Nat.blt 1 (d.cs.getD j 0) = true := Nat.ble_eq_true_of_le hcj
      rw [a1, a2] at e1
      simpa using e1
    rd := fun i o ho hci p hp hst hb => by
      obtain ⟨hlt, hoe⟩ := Array.getElem?_eq_some_iff.1 ho
      have hat : zq3Q ops i = o := by
        simp [zq3Q, ho]
      rw [hn] at hlt hp hb
      have hci : d.cs.getD i 0 = 1 := hci
      have hm : zq3H d.cs (qO ops) n i p = true := by
        simp only [zq3H, Bool.and_eq_true, Bool.or_eq_true, List.all_eq_true, List.mem_range]
        refine ⟨by rw [hci]; rfl, ?_, fun b hbn => ?_⟩
        · rcases hst with h | ⟨w, rfl, hw, hw2⟩
          · left; simp [h]
          · right
            refine ⟨Nat.ble_eq_true_of_le hw, ?_⟩
            rw [Nat.add_sub_cancel, hw2]; rfl
        · rcases hx : (Nat.blt 1 (d.cs.getD b 0) && ((qO ops).getD i 0).testBit b) with _ | _
          · left; rfl
          · right
            rw [Bool.and_eq_true] at hx
            exact Nat.ble_eq_true_of_le (hb b hbn (Nat.le_of_ble_eq_true hx.1) hx.2)
      have e1 := List.map_inj_left.1 h4 (i, p) (List.mem_filter.2 ⟨List.mem_flatMap.2 ⟨i, List.mem_range.2 hlt, List.mem_map.2 ⟨p, List.mem_range.2 Z, rfl⟩⟩, hm⟩)
      simp only [hat, zq4C, hc i, cond_true] at e1
      exact e1 }
end
section
variable {P : Program}
theorem zq25 {w : World} {G : Nat → Prop} {fn : Func} {rets : List Kd} {vs : List PV} {q : PV} {y : aM rets} {F : Frm} {a' : Act} {w' : World} {H' : Heap} {nt : Nat}
    (E : ∃ G1 μ1, Ext (RL w) w (Gd.of G) aH w' G1 aH ∧ aX (RL w) G1 μ1 H' w' ∧ fG w' G1 μ1 nt F a') (hvs : yG P F H' fn.results.toList = some vs) (hq : bFH H' (pI vs) = some q) (hd : bFX rets q = some y) :
    a'.defers = [] ∧ ∃ v, (results fn a'.tmps).run P w' = .ok v w' ∧ ∃ v' G', Ending.returned v = .returned v' ∧ Ext (RL w) w (Gd.of G) aH w' (Gd.of G') aH ∧ (∀ b, G' b → b < w'.heap.size) ∧ VR w' (Gd.of G') aH (aLV rets y) v' := by
  obtain ⟨G1, μ1, ee, hW', hF'⟩ := E
  obtain ⟨hq1, hq2⟩ := OL hq
  obtain ⟨ws, h3, h4⟩ := uB (P := P) hW' hF' hvs
  have hres : (results fn a'.tmps).run P w' = .ok (if hh : ws.toArray.size = 1 then ws.toArray[0] else .tuple ws.toArray) w' := by
    rw [J0, Array.mapM_eq_mapM_toList]
    simp only [Sem.run_bind, Sem.run_map, h3, Result.andThen_ok, Sem.run_pure]
  have hval := XU (G := ⟨fun b => G1 b ∨ ∃ r k, H'[r]? = some (some k) ∧ μ1.loc r = some b, G1.row⟩) (G' := Gd.of fun b => G1 b ∨ ∃ r k, H'[r]? = some (some k) ∧ μ1.loc r = some b) (fun b h => h) _ _ _ hq2
      (ZP (G' := ⟨fun b => G1 b ∨ ∃ r k, H'[r]? = some (some k) ∧ μ1.loc r = some b, G1.row⟩) hW' (fun _ _ h => h) (fun b hb => .inl hb) (fun r k b hr _ hb => .inr ⟨r, k, hr, hb⟩) depth _ q _ hq1 (xE h4))
  have hext : Ext (RL w) w (Gd.of G) aH w' (Gd.of fun b => G1 b ∨ ∃ r k, H'[r]? = some (some k) ∧ μ1.loc r = some b) aH := {
    good := fun b hb => ⟨.inl (ee.good b hb).1, (ee.good b hb).2⟩
    map := fun _ _ h => h
    len := fun _ _ h => h
    sh := fun _ _ h => (by cases h)
    room := ee.room
    row := fun _ _ h => h
    os := ee.os
    tape := ee.tape
    output := ee.output
    size := ee.size
    old := ee.old
    new := fun b hb => by
      rcases hb with hb | ⟨r, k, hr, hb⟩
      · exact ee.new b hb
      · obtain ⟨c, _, _, _, g5, g6⟩ := hW'.blk r k b hr hb
        cases hf : k.frozen with
        | true => exact ee.new b (g5 hf)
        | false => exact .inr (g6 hf).1 }
  have hlt' : ∀ b, (G1 b ∨ ∃ r k, H'[r]? = some (some k) ∧ μ1.loc r = some b) → b < w'.heap.size := by
    rintro b (hb | ⟨r, k, hr, hb⟩)
    · exact hW'.lt b hb
    · exact hW'.vB hr hb
  exact ⟨hF'.defers, _, hres, _, _, rfl, hext, hlt', aOH hd hval⟩
end
open Go Go.RowKit Go.Proofs
set_option maxRecDepth 100000
set_option maxHeartbeats 4000000
abbrev zq0I : Ty := .list (.int .i64)
abbrev zq0H : Ty := .list zq0I
abbrev zq0O : Ty := .prod zq0I (.prod zq0H zq0H)
abbrev zq0L : Ty := .prod (.prod zq0O zq0H) (.prod (.list zq0H) (.int .i64))
abbrev zq0N : Ty := .prod (.int .u8) (.prod (.int .u8) zq0I)
abbrev zq0R (x : zq0N.den) (n : Nat) : Int := (IntKind.wrap .i64 x.2.1).tmod (n : Int)
abbrev zq35 (x : zq0N.den) : Int := x.1.tmod 8
abbrev zq4R : List (Nat × Kd) := [(2, .bag 41 (.prod zq0I (.prod zq0H (.prod zq0H zq0H))) 33 zq0H (some (.int .i64))), (4, .box 41 zq0L)]
abbrev zq2A : List (Ex × List (Nat × Kd)) := [(.exit 1, zq4R)]
def zq53 (x : Shape.den zq4R) : Option (Shape.den zq4R ⊕ AQ zq2A) := match x with
  | (v2, v4, ()) => bif !(ltI 12 (v2.2.1.length : Int)) then
      bif aE 0 v2.2.1.length then bif Nat.blt 0 v2.2.1.length then bif Nat.ble [(v2.2.1.getD 0 [])].length 1048576 then bif Nat.ble v2.2.1.length 1048576 then some (.inl ((v2.1, (v2.2.1 ++ [(v2.2.1.getD 0 [])], v2.2.2)), v4, ())) else none else none else none else none
    else some (.inr ((v2, v4, ()) : Shape.den zq4R))
def zq3D (x : Shape.den zq4R) : Option (AQ zq2A) := aV zq53 (2 ^ 64) x
def zq2T (x : aM [.agg zq0L, .agg zq0N]) : Option (aM [.agg zq0L, .int .i64]) := match x with
  | (q, y, ()) =>
    bif eqI (q.1.2.length : Int) 0 then none else bif eqI (q.2.1.length : Int) 0 then none else bif eqI (zq35 y) 1 then some (((q.1.1, []), q.2), 13, ())
    else bif eqI (zq35 y) 2 then some ((q.1, ([], q.2.2)), 13, ())
    else bif eqI (zq35 y) 3 then some ((q.1, (q.2.1, aA .i64 ((IntKind.wrap .i64 y.2.1) * 9))), 3, ())
    else bif eqI (zq35 y) 4 then
      bif Nat.ble q.1.2.length 1048576 then bif Nat.ble ([] : List Int).length 1048576 then bif aE (zq0R y q.1.2.length) q.1.2.length then bif Nat.ble [(q.1.2.getD (zq0R y q.1.2.length).toNat [])].length 1048576 then bif Nat.ble q.1.2.length 1048576 then none else none else none else none else none else none
    else bif eqI (zq35 y) 5 then
      bif Nat.ble q.2.1.length 1048576 then bif aE (zq0R y q.2.1.length) q.2.1.length then bif Nat.blt (zq0R y q.2.1.length).toNat q.2.1.length then bif Nat.ble (q.2.1.getD (zq0R y q.2.1.length).toNat []).length 1048576 then bif Nat.ble ([] : List Int).length 1048576 then bif Nat.ble [y.2.2].length 1048576 then bif Nat.ble (q.2.1.getD (zq0R y q.2.1.length).toNat []).length 1048576 then bif aE (zq0R y q.2.1.length) q.2.1.length then bif Nat.blt (zq0R y q.2.1.length).toNat q.2.1.length then none else none else none else none else none else none else none else none else none else none
    else bif eqI (zq35 y) 6 then
      bif Nat.ble q.2.1.length 1048576 then aB (zq3D (((q.1.1.1, (q.1.1.2.1, (q.1.1.2.2, q.1.2))), q.2), ((([], ([], [])), []), ([], 0)), ())) fun z =>
      some ((((z.1.1.1, (z.1.1.2.1, z.1.1.2.2.1)), z.1.1.2.2.2), z.1.2), 4, ()) else none
    else bif eqI (zq35 y) 7 then
      bif Nat.ble q.2.1.length 1048576 then bif Nat.ble ([[]] : List (List (List Int))).length 1048576 then bif Nat.ble q.2.1.length 1048576 then some ((q.1, (q.2.1 ++ [[]], q.2.2)), 13, ()) else none else none else none
    else some (q, 0, ())
abbrev zq16 (q : zq0L.den) (y : zq0N.den) (j : Int) : List (List Int) := q.2.1.getD j.toNat [] ++ [y.2.2]
def zq2R (q : zq0L.den) (k : Int) : Option (aM [.agg zq0L, .int .i64]) := bif Nat.ble q.1.2.length 1048576 && aE k q.1.2.length then some (((q.1.1, q.1.2 ++ [q.1.2.getD k.toNat []]), q.2), 6, ()) else none
def zq2S (q : zq0L.den) (y : zq0N.den) (j : Int) : Option (aM [.agg zq0L, .int .i64]) := bif Nat.ble q.2.1.length 1048576 && (aE j q.2.1.length && Nat.ble (q.2.1.getD j.toNat []).length 1048576) then
    aB (bif ltI 8 ((zq16 q y j).length : Int) then some 4 else aB (rK (q.1.1.1, (zq16 q y j, ()))) fun z => some z.1) fun e => some ((q.1, (q.2.1.set j.toNat (zq16 q y j), q.2.2)), e, ())
  else none
def zq2Q (x : aM [.agg zq0L, .agg zq0N]) : Option (aM [.agg zq0L, .int .i64]) := match x with
  | (q, y, ()) => bif eqI (q.1.2.length : Int) 0 then none else bif eqI (q.2.1.length : Int) 0 then none else bif eqI (zq35 y) 4 then zq2R q (zq0R y q.1.2.length) else bif eqI (zq35 y) 5 then zq2S q y (zq0R y q.2.1.length) else zq2T (q, y, ())
noncomputable def zq19 : Code := bY Tryz.f51
abbrev zq03 : Env := B1 []
theorem zq04 : dN Tryz.prog zq03 := aS trivial
noncomputable def zq0Q : Code := inLoop (QF zq19 0)
def zq3E (id : Nat) : Option cI := bif Nat.beq id 24 then some ⟨zq4R, zq2A, zq3D⟩ else none
def zq4E (id : Nat) : Option cI := none
theorem zq4A : ∀ x, TD Tryz.prog zq03 134 (xD Tryz.f51) zq3E zq4E false [] zq0Q zq4R zq2A x = zq53 x := by
  rintro ⟨v2, v4, ⟨⟩⟩
  kernel_rfl
theorem zq0Y : ∀ x, a0L Tryz.prog zq03 Tryz.f51 (xD Tryz.f51) zq3E zq4E zq19 [.agg zq0L, .agg zq0N] [.agg zq0L, .int .i64] x = zq2T x := by
  rintro ⟨v0, v1, ⟨⟩⟩
  kernel_rfl
theorem zq2K : WA Tryz.prog 51 [.agg zq0L, .agg zq0N] [.agg zq0L, .int .i64] zq2T := by
  exact aJK aQ zq04 Tryz.func51 (c := zq19) Y (keep := xD Tryz.f51) (lt := zq3E) (rt := zq4E) (nK (l := [.loop zq0Q]) Y ⟨E7 (i := 24) Y rfl (FI zq04.callee aQ.mixed _ (nK (l := []) Y trivial) zq4A), trivial⟩) zq0Y
def zq4P : Code → Code
  | .seq x _ => x
  | c => c
def zq4Q : Code → Code
  | .seq _ y => y
  | c => c
def zq18 : Code → Code
  | .cond _ a _ => a
  | c => c
def zq17 : Code → Code
  | .cond _ _ b => b
  | c => c
def zq0W : Code → Code
  | .block _ c => c
  | .loop c => c
  | c => c
def zq49 : Code → Array Oper
  | .region _ ops _ => ops
  | _ => #[]
noncomputable def zq4L : Code := zq0W (zq4Q (zq4P (zq4Q (zq4Q (zq4Q zq19)))))
noncomputable def zq4N : Code := zq17 (zq4Q zq4L)
noncomputable def zq4F : Code := zq17 (zq4Q zq4N)
noncomputable def zq4H : Code := zq17 (zq4Q zq4F)
noncomputable def zq4J : Code := zq17 (zq4Q zq4H)
noncomputable def zq0S : Code := zq18 (zq4Q zq4H)
noncomputable def zq0U : Code := zq18 (zq4Q zq4J)
noncomputable def zq3L : Array Oper := zq49 (zq4P zq0S)
noncomputable def zq3M : Array Oper := zq49 (zq4P (zq4Q zq0U))
noncomputable abbrev zq3K : Nat := Tryz.f51.ntmps
noncomputable def zq36 : Nat := aP Tryz.f51
noncomputable def zq5A : List PV := match N6 Tryz.prog 41 with
  | some z => lits z.cells
  | none => []
noncomputable def zq15 (q : zq0L.den) : Option Blk := some ⟨enc zq0L q, 41, false, false, none⟩
noncomputable def zq0F (q : zq0L.den) (x : zq0N.den) : Heap := [zq15 q, some ⟨enc zq0N x, 100, false, false, none⟩, some ⟨zq5A, 41, false, false, none⟩]
abbrev zq09 (k : Int) : Frm := [(2, .hptr 0 0), (3, .hptr 1 0), (4, .hptr 2 0), (6, .lit (.int .i64 k))]
def zq3R (l : List (List Int)) : Option Blk := some ⟨aI zq0I l, 29, true, false, some ⟨zq0I, l⟩⟩
noncomputable def zq1K (q : zq0L.den) (x : zq0N.den) (k : Int) : zq00 where
  vs := [.own 3 1, .hptr 0 0, .hptr 0 3, zX zq0I q.1.2 none, .own 4 1, .hptr 0 0, .hptr 0 3, zX zq0I q.1.2 none, .lit (.int .i64 k), bR3 zq0I q.1.2 k.toNat 0, zX (.int .i64) (q.1.2.getD k.toNat []) none, zX zq0I [q.1.2.getD k.toNat []] (some 1), .own 5 1, .hptr 0 0, .hptr 0 3, .lit undef]
  hs :=
    let H0 := zq0F q x
    let H1 := H0 ++ [zq3R []]
    let H2 := H0 ++ [none, zq3R q.1.2]
    let H3 := H0 ++ [none, none, zq3R (q.1.2 ++ [q.1.2.getD k.toNat []])]
    let H4 := [some ⟨(enc zq0L q).set 3 (.own 5 1), 41, false, false, none⟩] ++ H0.drop 1 ++ [none, none, zq3R (q.1.2 ++ [q.1.2.getD k.toNat []])]
    [H0, H1, H1, H1, H1, H2, H2, H2, H2, H2, H2, H2, H2, H3, H3, H3, H4]
  cs := [2, 0, 0, 1, 2, 0, 0, 1, 0, 0, 0, 0, 2, 0, 0, 2]
  cd := [[], [], [], [], [Nat.ble q.1.2.length 1048576, Nat.ble ([] : List (List Int)).length 1048576], [], [], [], [], [aE k q.1.2.length], [], [], [Nat.ble [q.1.2.getD k.toNat []].length 1048576, Nat.ble q.1.2.length 1048576], [], [], []]
  lit := [false, false, false, false, false, false, false, false, false, false, false, true]
theorem zq3N (q : zq0L.den) (x : zq0N.den) (k : Int) : zq38 Tryz.prog (gJ Tryz.prog zq03) zq3L (zq09 k) (zq1K q x k) 16 = zq4D zq3L (zq1K q x k) 16 := by kernel_rfl
theorem zq0Z (q : zq0L.den) (x : zq0N.den) (k : Int) : zq13 zq3K zq3L (zq1K q x k) 16 = true := by kernel_rfl
abbrev zq0A (k : Int) : Frm := [(2, .hptr 0 0), (3, .hptr 1 0), (4, .hptr 2 0), (7, .lit (.int .i64 k))]
def zq3P (l : List (List (List Int))) : Option Blk := some ⟨aI zq0H l, 33, true, false, some ⟨zq0H, l⟩⟩
noncomputable def zq14 (q : zq0L.den) : Option Blk := some ⟨(enc zq0L q).set 4 (.own 3 1), 41, false, false, none⟩
noncomputable def zq0G (q : zq0L.den) (x : zq0N.den) : Heap := [zq14 q, some ⟨enc zq0N x, 100, false, false, none⟩, some ⟨zq5A, 41, false, false, none⟩]
noncomputable def zq1L (q : zq0L.den) (x : zq0N.den) (l : List (List (List Int))) (k : Int) : zq00 where
  vs := [.hptr 0 4, .own 3 1, .lit (.int .i64 k), .own 4 1, .hptr 0 4, .own 3 1, .lit (.int .i64 k), .op 3 k.toNat 0 1, zX zq0I (l.getD k.toNat []) none, .own 5 1, .hptr 1 2, zX (.int .i64) x.2.2 none, zX zq0I [x.2.2] (some 1), .own 6 1, .op 3 k.toNat 0 1, .lit undef]
  hs :=
    let H0 := zq0G q x ++ [zq3P l]
    let H1 := H0 ++ [zq3R []]
    let H2 := H0 ++ [none, zq3R (l.getD k.toNat [])]
    let H3 := H0 ++ [none, none, zq3R (l.getD k.toNat [] ++ [x.2.2])]
    let H4 := zq0G q x ++ [zq3P (l.set k.toNat (l.getD k.toNat [] ++ [x.2.2]))] ++ [none, none, some ⟨aI zq0I (l.getD k.toNat [] ++ [x.2.2]), 29, true, true, some ⟨zq0I, l.getD k.toNat [] ++ [x.2.2]⟩⟩]
    [H0, H0, H0, H0, H1, H1, H1, H1, H1, H1, H2, H2, H2, H2, H3, H3, H4]
  cs := [0, 1, 0, 2, 0, 1, 0, 1, 1, 2, 0, 1, 0, 2, 1, 2]
  cd := [[], [], [], [], [], [], [], [aE k l.length], [Nat.blt k.toNat l.length], [Nat.ble (l.getD k.toNat []).length 1048576, Nat.ble ([] : List (List Int)).length 1048576], [], [], [], [Nat.ble [x.2.2].length 1048576, Nat.ble (l.getD k.toNat []).length 1048576], [aE k l.length], [Nat.blt k.toNat l.length]]
  lit := [false, false, false, false, false, false, false, false, false, false, false, false, true]
theorem zq3O (q : zq0L.den) (x : zq0N.den) (l : List (List (List Int))) (k : Int) : zq38 Tryz.prog (gJ Tryz.prog zq03) zq3M (zq0A k) (zq1L q x l k) 16 = zq4D zq3M (zq1L q x l k) 16 := by kernel_rfl
theorem zq10 (q : zq0L.den) (x : zq0N.den) (l : List (List (List Int))) (k : Int) : zq13 zq3K zq3M (zq1L q x l k) 16 = true := by kernel_rfl
abbrev zq01 : Env := B1 [aP2]
theorem zq02 : dN Tryz.prog zq01 := aS ⟨UU, trivial⟩
abbrev zq07 : Frm := [(2, .hptr 0 0), (3, .hptr 1 0), (4, .hptr 2 0)]
noncomputable abbrev zq59 (c : Code) (F : Frm) (H : Heap) (sl : List Nat) := C1 Tryz.prog zq01 zq3K zq36 (fun _ => none) c F H (kS sl)
abbrev zq47 : List PV := [.hptr 0 0, .hptr 1 0, .hptr 2 0]
abbrev zq34 (n : Int) : PV := .lit (.int .i64 n)
theorem zq3S (q : zq0L.den) (x : zq0N.den) : zq59 (zq4P zq19) (start zq36 0 [.agg (enc zq0L q), .agg (enc zq0N x)]) [] [2, 3, 4] = some (.normal, zq47, zq0F q x) := by kernel_rfl
theorem zq3T (q : zq0L.den) (x : zq0N.den) : zq59 (zq4P (zq4Q zq19)) zq07 (zq0F q x) [2, 3, 4, 6] = bif eqI (q.1.2.length : Int) 0 then none else some (.normal, zq47 ++ [zq34 (zq0R x q.1.2.length)], zq0F q x) := by kernel_rfl
theorem zq40 (q : zq0L.den) (x : zq0N.den) (k : Int) : zq59 (zq4P (zq4Q (zq4Q zq19))) (zq07 ++ [(6, zq34 k)]) (zq0F q x) [2, 3, 4, 6, 7] = bif eqI (q.2.1.length : Int) 0 then none else some (.normal, zq47 ++ [zq34 k, zq34 (zq0R x q.2.1.length)], zq0F q x) := by kernel_rfl
theorem zq43 (q : zq0L.den) (x : zq0N.den) (k j : Int) : zq59 (zq4P (zq4P (zq4Q (zq4Q (zq4Q zq19))))) (zq07 ++ [(6, zq34 k), (7, zq34 j)]) (zq0F q x) [2, 3, 4, 6, 7, 25] = some (.normal, zq47 ++ [zq34 k, zq34 j, .lit (.int .u8 (zq35 x))], zq0F q x) := by kernel_rfl
abbrev zq08 (k j d : Int) : Frm := zq07 ++ [(6, zq34 k), (7, zq34 j), (25, .lit (.int .u8 d))]
abbrev zq48 (k j d : Int) (b : Bool) : List PV := zq47 ++ [zq34 k, zq34 j, .lit (.int .u8 d), .lit (.bool b)]
theorem zq44 H k j d : zq59 (zq4P zq4L) (zq08 k j d) H [2, 3, 4, 6, 7, 25, 26] = some (.normal, zq48 k j d (eqI d 1), H) := by kernel_rfl
theorem zq45 H k j d : zq59 (zq4P zq4N) (zq08 k j d) H [2, 3, 4, 6, 7, 25, 31] = some (.normal, zq48 k j d (eqI d 2), H) := by kernel_rfl
theorem zq3U H k j d : zq59 (zq4P zq4F) (zq08 k j d) H [2, 3, 4, 6, 7, 25, 35] = some (.normal, zq48 k j d (eqI d 3), H) := by kernel_rfl
theorem zq3V H k j d : zq59 (zq4P zq4H) (zq08 k j d) H [2, 3, 4, 6, 7, 25, 43] = some (.normal, zq48 k j d (eqI d 4), H) := by kernel_rfl
theorem zq3X H k j d : zq59 (zq4P zq4J) (zq08 k j d) H [2, 3, 4, 6, 7, 25, 61] = some (.normal, zq48 k j d (eqI d 5), H) := by kernel_rfl
abbrev zq3I (q : zq0L.den) (k : Int) : List (List Int) := q.1.2 ++ [q.1.2.getD k.toNat []]
noncomputable def zq0B (q : zq0L.den) (x : zq0N.den) (k : Int) : Heap := (zq1K q x k).hs.getD 16 []
noncomputable def zq0C (q : zq0L.den) (x : zq0N.den) (k : Int) : Heap := (zq0B q x k).set 2 (some ⟨(enc zq0L q).set 3 (.own 5 1), 41, false, false, none⟩)
theorem zq2L (q : zq0L.den) (x : zq0N.den) (k : Int) : [2, 3, 4].zip ([2, 3, 4].map (cR (zq2N zq3L (zq1K q x k).vs (zq09 k) 16))) = zq07 := by kernel_rfl
theorem zq3W (q : zq0L.den) (x : zq0N.den) (k : Int) : zq59 (zq4P (zq4Q zq0S)) zq07 (zq0B q x k) [4, 5] = some (.normal, [.hptr 2 0, zq34 6], zq0C q x k) := by kernel_rfl
noncomputable def zq22 (F : Frm) (H : Heap) : Option (zq0L.den × Int × Unit) := match yG Tryz.prog F H Tryz.f51.results.toList with
  | some vs => match bFH H (pI vs) with
    | some q => bFX [.agg zq0L, .int .i64] q
    | none => none
  | none => none
theorem zq23 (q : zq0L.den) (x : zq0N.den) (k : Int) : zq22 [(4, .hptr 2 0), (5, zq34 6)] (zq0C q x k) = some (((q.1.1, zq3I q k), q.2), 6, ()) := by kernel_rfl
theorem zq3Y (q : zq0L.den) (x : zq0N.den) (j : Int) : zq59 (zq4P zq0U) (zq0A j) (zq0F q x) [2, 3, 4, 7] = bif Nat.ble q.2.1.length 1048576 then some (.normal, zq47 ++ [zq34 j], zq0G q x ++ [zq3P q.2.1]) else none := by kernel_rfl
abbrev zq1A (q : zq0L.den) (x : zq0N.den) (j : Int) : List (List (List Int)) := q.2.1.set j.toNat (zq16 q x j)
noncomputable def zq0D (q : zq0L.den) (x : zq0N.den) (j : Int) : Heap := (zq1L q x q.2.1 j).hs.getD 16 []
noncomputable def zq0E (q : zq0L.den) (x : zq0N.den) (j : Int) : Heap := (zq0D q x j).set 2 (some ⟨(enc zq0L q).set 4 (.own 3 1), 41, false, false, none⟩)
theorem zq2M (q : zq0L.den) (x : zq0N.den) (j : Int) : [2, 3, 4, 7].zip ([2, 3, 4, 7].map (cR (zq2N zq3M (zq1L q x q.2.1 j).vs (zq0A j) 16))) = zq0A j := by kernel_rfl
theorem zq3Z (q : zq0L.den) (x : zq0N.den) (j : Int) : zq59 (zq4P (zq4P (zq4Q (zq4Q zq0U)))) (zq0A j) (zq0D q x j) [2, 3, 4, 7, 89] = bif aE j (zq1A q x j).length then bif Nat.blt j.toNat (zq1A q x j).length then some (.normal, zq47 ++ [zq34 j, .lit (.bool (ltI 8 (((zq1A q x j).getD j.toNat []).length : Int)))], zq0D q x j) else none else none := by kernel_rfl
theorem zq41 (q : zq0L.den) (x : zq0N.den) (j : Int) : zq59 (zq4P (zq18 (zq4Q (zq4P (zq4Q (zq4Q zq0U)))))) (zq0A j) (zq0D q x j) [4, 5] = some (.normal, [.hptr 2 0, zq34 4], zq0E q x j) := by kernel_rfl
theorem zq42 (q : zq0L.den) (x : zq0N.den) (j : Int) : zq59 (zq4P (zq4Q (zq4Q (zq4Q zq0U)))) (zq0A j) (zq0D q x j) [4, 5] = bif aE j (zq1A q x j).length then bif Nat.blt j.toNat (zq1A q x j).length then aB (rK (q.1.1.1, ((zq1A q x j).getD j.toNat [], ()))) fun y1 => some (.normal, [.hptr 2 0, zq34 y1.1], zq0E q x j) else none else none := by kernel_rfl
theorem zq24 (q : zq0L.den) (x : zq0N.den) (j e : Int) : zq22 [(4, .hptr 2 0), (5, zq34 e)] (zq0E q x j) = some ((q.1, (zq1A q x j, q.2.2)), e, ()) := by kernel_rfl
def zq0M (w0 : World) (G : Nat → Prop) (H : Heap) (F : Frm) (a : Act) (w : World) : Prop := ∃ G1 μ1, Ext (RL w0) w0 (Gd.of G) aH w G1 aH ∧ aX (RL w0) G1 μ1 H w ∧ fG w G1 μ1 zq3K F a
section
variable {w0 w : World} {G : Nat → Prop} {H H' : Heap} {F F' : Frm} {a : Act}
theorem zq0M.J5 (h : zq0M w0 G H F a w) (sl : List Nat) : zq0M w0 G H (sl.zip (sl.map (cR F))) a w := by
  obtain ⟨G1, μ1, E, hW, hF⟩ := h
  exact ⟨G1, μ1, E, hW, hF.J5 sl⟩
theorem zq0M.piece {c : Code} {sl : List Nat} {ex : Ex} {ps : List PV} (h : C1 Tryz.prog zq01 zq3K zq36 (fun _ => none) c F H (kS sl) = some (ex, ps, H')) (hS : zq0M w0 G H F a w) (hl : bA c = []) : c.wp Tryz.prog (fun e a' w' => e = ex.to ∧ zq0M w0 G H' (sl.zip ps) a' w') a w := by
  obtain ⟨G1, μ1, E, hW, hF⟩ := hS
  refine wp_mono (a00 zq02.callee aQ.mixed hl h hW hF) ?_
  rintro e a' w' ⟨rfl, G', μ', e', hW', hF'⟩
  exact ⟨rfl, G', μ', E.trans e', hW', hF'⟩
theorem zq0M.drawn {ops : Array Oper} {id : Nat} {d : zq00} {n : Nat} (h : zq38 Tryz.prog (gJ Tryz.prog zq03) ops F d n = zq4D ops d n) (hb : zq13 zq3K ops d n = true) (hc : d.cd.all J7 = true) (hS : zq0M w0 G (d.hs.getD 0 []) F a w) : (Code.region id ops true).wp Tryz.prog (fun e a' w' => e = .normal ∧ zq0M w0 G (d.hs.getD n []) (zq2N ops d.vs F n) a' w') a w := by
  obtain ⟨G1, μ1, E, hW, hF⟩ := hS
  refine wp_mono (zq4B (zq0P.of d n h hb hc) zq04.callee aQ.mixed ((Bool.and_eq_true _ _).mp hb).1 hW hF) ?_
  rintro e a' w' ⟨rfl, G', μ', e', hW', hF'⟩
  exact ⟨rfl, G', μ', E.trans e', hW', hF'⟩
theorem zq0M.lit {t v} (h : zq0M w0 G H F a w) (hf : cR F t = .lit v) : a.eval (.tmp t) = v := by
  obtain ⟨G1, μ1, E, hW, hF⟩ := h
  have := cT hF (.tmp t)
  rw [show ev F (.tmp t) = .lit v from hf, VR] at this
  omega
theorem zq0M.ends {a' w' y} (h : zq0M w0 G H F a' w') (he : zq22 F H = some y) : a'.defers = [] ∧ ∃ v, (results Tryz.f51 a'.tmps).run Tryz.prog w' = .ok v w' ∧ ∃ v' G', Ending.returned v = .returned v' ∧ Ext (RL w0) w0 (Gd.of G) aH w' (Gd.of G') aH ∧ (∀ b, G' b → b < w'.heap.size) ∧ VR w' (Gd.of G') aH (aLV [.agg zq0L, .int .i64] y) v' := by
  unfold zq22 at he
  split at he
  · rename_i vs hvs
    split at he
    · rename_i q hq
      exact zq25 h hvs hq he
    · cases he
  · cases he
theorem zq0M.test {c1 cT cE : Code} {t : Nat} {b : Bool} {k j d : Int} {Q} (hS : zq0M w0 G H (zq08 k j d) a w) (hl : bA c1 = []) (hp : C1 Tryz.prog zq01 zq3K zq36 (fun _ => none) c1 (zq08 k j d) H (kS [2, 3, 4, 6, 7, 25, t]) = some (.normal, zq48 k j d b, H)) (hg : cR ([2, 3, 4, 6, 7, 25, t].zip (zq48 k j d b)) t = .lit (.bool b))
    (hQ : ∀ a' w', zq0M w0 G H (zq08 k j d) a' w' → (bif b then cT else cE).wp Tryz.prog Q a' w') : (Code.seq c1 (.cond (.tmp t) cT cE)).wp Tryz.prog Q a w := by
  refine wp_seq (wp_mono (hS.piece hp hl) ?_)
  rintro e a1 w1 ⟨rfl, hS1⟩
  have hv : a1.eval (.tmp t) = .bool b := hS1.lit hg
  have hS2 : zq0M w0 G H (zq08 k j d) a1 w1 := by
    have := hS1.J5 [2, 3, 4, 6, 7, 25]
    exact this
  cases b with
  | true => exact wp_cond_true hv (hQ a1 w1 hS2)
  | false => exact wp_cond_false hv (hQ a1 w1 hS2)
theorem zq3J {α : Type} {b : Bool} {r : Option α} {z : α} (h : (bif b then none else r) = some z) : b = false ∧ r = some z := by
  cases b with
  | true => cases h
  | false => exact ⟨rfl, h⟩
theorem zq1B : zq19 = .seq (zq4P zq19) (.seq (zq4P (zq4Q zq19)) (.seq (zq4P (zq4Q (zq4Q zq19))) (.seq (.seq (zq4P (zq4P (zq4Q (zq4Q (zq4Q zq19))))) (.block 0 zq4L)) (zq4Q (zq4Q (zq4Q (zq4Q zq19))))))) := by kernel_rfl
theorem zq4M : zq4L = .seq (zq4P zq4L) (.cond (.tmp 26) (zq18 (zq4Q zq4L)) zq4N) := by kernel_rfl
theorem zq4O : zq4N = .seq (zq4P zq4N) (.cond (.tmp 31) (zq18 (zq4Q zq4N)) zq4F) := by kernel_rfl
theorem zq4G : zq4F = .seq (zq4P zq4F) (.cond (.tmp 35) (zq18 (zq4Q zq4F)) zq4H) := by kernel_rfl
theorem zq4I : zq4H = .seq (zq4P zq4H) (.cond (.tmp 43) zq0S zq4J) := by kernel_rfl
theorem zq4K : zq4J = .seq (zq4P zq4J) (.cond (.tmp 61) zq0U (zq17 (zq4Q zq4J))) := by kernel_rfl
theorem zq0T : zq0S = .seq (.region 14 zq3L true) (.seq (zq4P (zq4Q zq0S)) .ret) := by kernel_rfl
theorem zq0V : zq0U = .seq (zq4P zq0U) (.seq (.region 18 zq3M true) (.seq (.seq (zq4P (zq4P (zq4Q (zq4Q zq0U)))) (.cond (.tmp 89) (.seq (zq4P (zq18 (zq4Q (zq4P (zq4Q (zq4Q zq0U)))))) .ret) .skip)) (.seq (zq4P (zq4Q (zq4Q (zq4Q zq0U)))) .ret))) := by kernel_rfl
theorem zq0M.pre {q : zq0L.den} {x : zq0N.den} {Q} (n1 : eqI (q.1.2.length : Int) 0 = false) (n2 : eqI (q.2.1.length : Int) 0 = false) (hS : zq0M w0 G [] (start zq36 0 [.agg (enc zq0L q), .agg (enc zq0N x)]) a w)
    (hQ : ∀ Q' : Exit → Act → World → Prop, (∀ a w, Q .ret a w → Q' .ret a w) → ∀ a' w', zq0M w0 G (zq0F q x) (zq08 (zq0R x q.1.2.length) (zq0R x q.2.1.length) (zq35 x)) a' w' → zq4L.wp Tryz.prog Q' a' w') : zq19.wp Tryz.prog Q a w := by
  rw [zq1B]
  refine wp_seq (wp_mono (hS.piece (zq3S q x) Y) ?_)
  rintro e a1 w1 ⟨rfl, hS1⟩
  have h1 := zq3T q x
  rw [n1, cond_false] at h1
  refine wp_seq (wp_mono (zq0M.piece h1 hS1 Y) ?_)
  rintro e a2 w2 ⟨rfl, hS2⟩
  have h2 := zq40 q x (zq0R x q.1.2.length)
  rw [n2, cond_false] at h2
  refine wp_seq (wp_mono (zq0M.piece h2 hS2 Y) ?_)
  rintro e a3 w3 ⟨rfl, hS3⟩
  refine wp_seq (wp_seq (wp_mono (zq0M.piece (zq43 q x _ _) hS3 Y) ?_))
  rintro e a4 w4 ⟨rfl, hS4⟩
  refine wp_block ?_
  exact hQ (Exit.inBlock 0 (Exit.then (Code.wp Tryz.prog (zq4Q (zq4Q (zq4Q (zq4Q zq19)))) Q) Q)) (fun a w h => h) a4 w4 hS4
theorem zq0M.three {k j d : Int} {Q} (hd : eqI d 1 = false ∧ eqI d 2 = false ∧ eqI d 3 = false) (hS : zq0M w0 G H (zq08 k j d) a w) (hQ : ∀ a' w', zq0M w0 G H (zq08 k j d) a' w' → (bif eqI d 4 then zq0S else zq4J).wp Tryz.prog Q a' w') : zq4L.wp Tryz.prog Q a w := by
  rw [zq4M]
  refine hS.test Y (zq44 _ _ _ _) rfl fun a1 w1 hS1 => ?_
  rw [hd.1, cond_false, zq4O]
  refine hS1.test Y (zq45 _ _ _ _) rfl fun a2 w2 hS2 => ?_
  rw [hd.2.1, cond_false, zq4G]
  refine hS2.test Y (zq3U _ _ _ _) rfl fun a3 w3 hS3 => ?_
  rw [hd.2.2, cond_false, zq4I]
  exact hS3.test Y (zq3V _ _ _ _) rfl hQ
theorem zq0M.four {q : zq0L.den} {x : zq0N.den} {k j d : Int} {Q} (hd : d = 4) (c : ((zq1K q x k).cd.all J7) = true) (hS : zq0M w0 G (zq0F q x) (zq08 k j d) a w)
    (hQ : ∀ a' w', zq0M w0 G (zq0C q x k) [(4, .hptr 2 0), (5, zq34 6)] a' w' → Q .ret a' w') : zq4L.wp Tryz.prog Q a w := by
  subst hd
  refine zq0M.three ⟨rfl, rfl, rfl⟩ hS fun a4 w4 hS4 => ?_
  show zq0S.wp Tryz.prog Q a4 w4
  rw [zq0T]
  have hS5 : zq0M w0 G (zq0F q x) (zq09 k) a4 w4 := hS4.J5 [2, 3, 4, 6]
  refine wp_seq (wp_mono (zq0M.drawn (zq3N q x k) (zq0Z q x k) c hS5) ?_)
  rintro e a5 w5 ⟨rfl, hS6⟩
  have hS7 := hS6.J5 [2, 3, 4]
  rw [zq2L] at hS7
  refine wp_seq (wp_mono (zq0M.piece (zq3W q x k) hS7 Y) ?_)
  rintro e a6 w6 ⟨rfl, hS8⟩
  exact wp_ret (hQ a6 w6 hS8)
theorem zq0M.five {q : zq0L.den} {x : zq0N.den} {k j d e : Int} {Q} (hd : d = 5) (c0 : Nat.ble q.2.1.length 1048576 = true) (c : ((zq1L q x q.2.1 j).cd.all J7) = true) (c1 : aE j (zq1A q x j).length = true) (c2 : Nat.blt j.toNat (zq1A q x j).length = true)
    (he : (bif ltI 8 (((zq1A q x j).getD j.toNat []).length : Int) then some 4 else aB (rK (q.1.1.1, ((zq1A q x j).getD j.toNat [], ()))) fun y1 => some y1.1) = some e) (hS : zq0M w0 G (zq0F q x) (zq08 k j d) a w)
    (hQ : ∀ a' w', zq0M w0 G (zq0E q x j) [(4, .hptr 2 0), (5, zq34 e)] a' w' → Q .ret a' w') : zq4L.wp Tryz.prog Q a w := by
  subst hd
  refine zq0M.three ⟨rfl, rfl, rfl⟩ hS fun a4 w4 hS4 => ?_
  show zq4J.wp Tryz.prog Q a4 w4
  rw [zq4K]
  refine hS4.test Y (zq3X _ _ _ _) rfl fun a5 w5 hS5 => ?_
  show zq0U.wp Tryz.prog Q a5 w5
  rw [zq0V]
  have h17 := zq3Y q x j
  rw [c0, cond_true] at h17
  have hS6 : zq0M w0 G (zq0F q x) (zq0A j) a5 w5 := hS5.J5 [2, 3, 4, 7]
  refine wp_seq (wp_mono (zq0M.piece h17 hS6 Y) ?_)
  rintro e7 a7 w7 ⟨rfl, hS7⟩
  refine wp_seq (wp_mono (zq0M.drawn (zq3O q x q.2.1 j) (zq10 q x q.2.1 j) c hS7) ?_)
  rintro e8 a8 w8 ⟨rfl, hS8⟩
  have hS9 := hS8.J5 [2, 3, 4, 7]
  rw [zq2M] at hS9
  have h19 := zq3Z q x j
  rw [c1, c2, cond_true, cond_true] at h19
  refine wp_seq (wp_seq (wp_mono (zq0M.piece h19 hS9 Y) ?_))
  rintro e10 a10 w10 ⟨rfl, hS10⟩
  have hv : a10.eval (.tmp 89) = .bool (ltI 8 (((zq1A q x j).getD j.toNat []).length : Int)) := hS10.lit rfl
  have hS11 : zq0M w0 G (zq0D q x j) (zq0A j) a10 w10 := hS10.J5 [2, 3, 4, 7]
  cases hb : ltI 8 (((zq1A q x j).getD j.toNat []).length : Int) with
  | true =>
    rw [hb] at hv he
    obtain rfl := Option.some.inj he
    refine wp_cond_true hv (wp_seq (wp_mono (zq0M.piece (zq41 q x j) hS11 Y) ?_))
    rintro e12 a12 w12 ⟨rfl, hS12⟩
    exact wp_ret (hQ a12 w12 hS12)
  | false =>
    rw [hb, cond_false] at he
    obtain ⟨y1, hy, he⟩ := wA he
    obtain rfl := Option.some.inj he
    have h21 := zq42 q x j
    rw [c1, c2, cond_true, cond_true, hy] at h21
    rw [hb] at hv
    refine wp_cond_false hv (wp_skip ?_)
    show (Code.seq (zq4P (zq4Q (zq4Q (zq4Q zq0U)))) .ret).wp Tryz.prog Q a10 w10
    refine wp_seq (wp_mono (zq0M.piece h21 hS11 Y) ?_)
    rintro e12 a12 w12 ⟨rfl, hS12⟩
    exact wp_ret (hQ a12 w12 hS12)
theorem zq0M.begin {q : zq0L.den} {x : zq0N.den} {us : Array Value} (hlt : Lt w0 (Gd.of G).ok) (hv : VRs w0 (Gd.of G) aH [.agg (enc zq0L q), .agg (enc zq0N x)] us.toList) : zq0M w0 G [] (start zq36 0 [.agg (enc zq0L q), .agg (enc zq0N x)]) ⟨us ++ Array.replicate (zq3K - us.size) undef, []⟩ w0 :=
  ⟨_, _, Ext.refl _ _ _ _, ⟨fun r k b h => by simp at h, fun r k g h => by simp at h, fun r s k l b h => by simp at h, hlt, fun _ _ => ⟨rfl, rfl⟩, fun _ h => h, BU.none _ _ (fun _ => rfl) _ _ (fun r k h => by simp at h)⟩, E6 hv (by show 2 ≤ zq3K; exact Nat.le_of_ble_eq_true Y)⟩
end
theorem zq11 {j : Int} {n : Nat} (h : aE j n = true) : Nat.blt j.toNat n = true := by
  rw [aL, decide_eq_true_eq] at h
  exact Nat.ble_eq_true_of_le Z
theorem zq2J : WA Tryz.prog 51 [.agg zq0L, .agg zq0N] [.agg zq0L, .int .i64] zq2Q := by
  rintro ⟨q, x, ⟨⟩⟩ z hz
  have hc : Tryz.f51.body = some zq19 := by kernel_rfl
  have hd4 : eqI (zq35 x) 4 = decide (zq35 x = 4) := bN _ _
  have hd5 : eqI (zq35 x) 5 = decide (zq35 x = 5) := bN _ _
  have hz0 := hz
  unfold zq2Q at hz
  obtain ⟨n1, hz⟩ := zq3J hz
  obtain ⟨n2, hz⟩ := zq3J hz
  by_cases h4 : zq35 x = 4
  · rw [hd4, decide_eq_true h4, cond_true] at hz
    obtain ⟨c, hz⟩ := aJ hz
    obtain ⟨c1, c3⟩ := (Bool.and_eq_true _ _).mp c
    intro w0 G us hlt hv
    refine ⟨enters Tryz.func51 Y Y _ _, calls_of_wp Tryz.func51 hc ?_⟩
    refine zq0M.pre n1 n2 (zq0M.begin hlt hv) fun Q' hQ' a1 w1 hS1 => zq0M.four h4 ?_ hS1 fun a2 w2 hS2 => hQ' _ _ (hS2.ends ((zq23 q x _).trans hz))
    simp only [zq1K, List.all, J7, c1, c3, cond_true, Bool.and_true, Bool.and_self]
    rfl
  rw [hd4, decide_eq_false h4, cond_false] at hz
  by_cases h5 : zq35 x = 5
  · rw [hd5, decide_eq_true h5, cond_true] at hz
    obtain ⟨c, hz⟩ := aJ hz
    obtain ⟨c0, c⟩ := (Bool.and_eq_true _ _).mp c
    obtain ⟨c1, c3⟩ := (Bool.and_eq_true _ _).mp c
    have c2 := zq11 c1
    obtain ⟨e, he, hz⟩ := wA hz
    have hL : (zq1A q x (zq0R x q.2.1.length)).length = q.2.1.length := List.length_set
    have c7 : (zq1A q x (zq0R x q.2.1.length)).getD (zq0R x q.2.1.length).toNat [] = zq16 q x (zq0R x q.2.1.length) := by
      rw [List.getD_eq_getElem?_getD, List.getElem?_set_self (Nat.le_of_ble_eq_true c2)]; rfl
    intro w0 G us hlt hv
    refine ⟨enters Tryz.func51 Y Y _ _, calls_of_wp Tryz.func51 hc ?_⟩
    refine zq0M.pre n1 n2 (zq0M.begin hlt hv) fun Q' hQ' a1 w1 hS1 => zq0M.five h5 c0 ?_ (by rw [hL]; exact c1) (by rw [hL]; exact c2) (by rw [c7]; exact he) hS1 fun a2 w2 hS2 => hQ' _ _ (hS2.ends ((zq24 q x _ _).trans hz))
    simp only [zq1L, List.all, J7, c1, c2, c3, cond_true, Bool.and_true, Bool.and_self]
    rfl
  rw [hd5, decide_eq_false h5, cond_false] at hz
  exact zq2K (q, x, ()) z hz
abbrev zq28 : Ent := ⟨51, [.agg zq0L, .agg zq0N], [.agg zq0L, .int .i64], zq2Q⟩
theorem zq29 : Ent.OK Tryz.prog zq28 := zq2J
theorem zq0X {g fn args rets f} {E : Env} (hE : dN Tryz.prog E) (hg : Tryz.prog.funcs[g]? = some fn) (hc : fn.body = some (bY fn)) (hb : ∀ x, a0L Tryz.prog E fn (xD fn) (fun _ => none) (fun _ => none) (bY fn) args rets x = f x) : WA Tryz.prog g args rets f :=
  aJK aQ hE hg hc (fun a _ => by
    cases a
    case loop => intro s hs; cases hs
    case rangeFunc => intro _ s hs; cases hs
    all_goals trivial) hb
def zq2H (x : aM [.agg zq0L, .list (.int .i64)]) : Option (aM [.list (.prod (.prod (.int .i64) (.int .i64)) zq0I), .int .i64]) := match x with
  | (q, _, ()) => aB (gH (q, ())) fun y => bif !(eqI y.2.1 0) then some ([], y.2.1, ()) else none
abbrev zq20 : Ent := ⟨83, [.agg zq0L, .list (.int .i64)], [.list (.prod (.prod (.int .i64) (.int .i64)) zq0I), .int .i64], zq2H⟩
theorem zq21 : Ent.OK Tryz.prog zq20 := zq0X (aS (l := [aOX]) ⟨N5, trivial⟩) Tryz.func83 Y (by intro x; kernel_rfl)
def zq2D (x : aM [.agg zq0L, .int .i64]) : Option (aM [.list (.int .i64), .int .i64]) := match x with
  | (q, v, ()) => aB (zq2H (q, [v], ())) fun y => bif !(eqI y.2.1 0) then some ([], y.2.1, ()) else bif aE v y.1.length then some ((y.1.getD v.toNat ((0, 0), [])).2, 0, ()) else none
abbrev zq1S : Ent := ⟨35, [.agg zq0L, .int .i64], [.list (.int .i64), .int .i64], zq2D⟩
theorem zq1T : Ent.OK Tryz.prog zq1S := zq0X (aS (l := [zq20]) ⟨zq21, trivial⟩) Tryz.func35 Y (by intro x; kernel_rfl)
def zq2F (x : aM [.agg zq0L, .int .i64, .int .i64]) : Option (aM [.int .i64, .int .i64]) := match x with
  | (q, v, u, ()) => aB (zq2H (q, [v, u], ())) fun y => bif !(eqI y.2.1 0) then some (0, y.2.1, ()) else bif aE v y.1.length then bif aE u y.1.length then none else none else none
abbrev zq1W : Ent := ⟨36, [.agg zq0L, .int .i64, .int .i64], [.int .i64, .int .i64], zq2F⟩
theorem zq1X : Ent.OK Tryz.prog zq1W := zq0X (aS (l := [zq20]) ⟨zq21, trivial⟩) Tryz.func36 Y (by intro x; kernel_rfl)
def zq2G (x : aM [.agg zq0L, .int .i64]) : Option (aM [.list (.int .i64), .int .i64]) := match x with
  | (q, v, ()) => aB (gH (q, ())) fun y => bif !(eqI y.2.1 0) then some ([], y.2.1, ()) else bif ltI v 0 then some ([], 3, ()) else bif !(ltI v (q.1.2.length : Int)) then some ([], 3, ()) else none
abbrev zq1Y : Ent := ⟨41, [.agg zq0L, .int .i64], [.list (.int .i64), .int .i64], zq2G⟩
theorem zq1Z : Ent.OK Tryz.prog zq1Y := zq0X (aS (l := [aOX]) ⟨N5, trivial⟩) Tryz.func41 Y (by intro x; kernel_rfl)
def zq2C (x : aM [.agg zq0L, .int .i64, .int .i64]) : Option (aM [.list (.list (.int .i64)), .int .i64]) := match x with
  | (q, v, u, ()) => aB (K4 (q, ())) fun y => bif !(eqI y.1 0) then some ([], y.1, ()) else bif ltI v 0 then some ([], 3, ()) else bif !(ltI v (q.2.1.length : Int)) then some ([], 3, ()) else bif ltI u 0 then some ([], 3, ()) else bif !(ltI u (q.1.2.length : Int)) then some ([], 3, ()) else none
abbrev zq1Q : Ent := ⟨42, [.agg zq0L, .int .i64, .int .i64], [.list (.list (.int .i64)), .int .i64], zq2C⟩
theorem zq1R : Ent.OK Tryz.prog zq1Q := zq0X (aS (l := [aIH]) ⟨aKN, trivial⟩) Tryz.func42 Y (by intro x; kernel_rfl)
def zq2B (x : aM [.agg zq0L]) : Option (aM [.list (.list (.int .i64)), .int .i64]) := match x with
  | (q, ()) => aB (gH (q, ())) fun y => bif !(eqI y.2.1 0) then some ([], y.2.1, ()) else none
abbrev zq1O : Ent := ⟨47, [.agg zq0L], [.list (.list (.int .i64)), .int .i64], zq2B⟩
theorem zq1P : Ent.OK Tryz.prog zq1O := zq0X (aS (l := [aOX]) ⟨N5, trivial⟩) Tryz.func47 Y (by intro x; kernel_rfl)
def zq2E (x : aM [.agg zq0L, .int .i64, .int .i64]) : Option (aM [.list (.int .i64), .bool, .int .i64]) := match x with
  | (q, v, u, ()) => aB (zq2H (q, [v, u], ())) fun y => bif !(eqI y.2.1 0) then some ([], false, y.2.1, ()) else none
abbrev zq1U : Ent := ⟨50, [.agg zq0L, .int .i64, .int .i64], [.list (.int .i64), .bool, .int .i64], zq2E⟩
theorem zq1V : Ent.OK Tryz.prog zq1U := zq0X (aS (l := [zq20]) ⟨zq21, trivial⟩) Tryz.func50 Y (by intro x; kernel_rfl)
abbrev zq0K : Ty := .prod (.prod (.int .u8) (.prod (.list (.prod (.int .i8) (.prod (.int .i8) (.prod (.int .i8) (.int .i8))))) .bool)) (.prod (.list (.prod (.int .i8) (.prod (.int .i8) (.prod (.int .i8) (.int .i8))))) (.prod (.list (.list (.prod (.int .i8) (.prod (.int .i8) (.prod (.int .i8) (.int .i8)))))) (.int .u8)))
def zq2P (x : aM [.agg zq0K, .agg zq0N]) : Option (aM [.bool]) := match x with
  | (v0, v1, ()) =>
    aB (aZ (())) fun y1 =>
    bif y1.1 then
      aB (dU (v0, ())) fun y2 =>
      bif y2.1 then
        bif ltI 8 (v1.2.2.length : Int) then
          aB (aZ (())) fun y3 =>
          some (y3.1, ())
        else aB (eG (v0, ())) fun y4 =>
        bif y4.2.1 then
          aB (zq2Q (y4.1, v1, ())) fun y5 =>
          aB (K4 (y5.1, ())) fun y6 =>
          bif !(eqI y6.1 y5.2.1) then
            some (false, ())
          else bif eqI y5.2.1 0 then
            some (true, ())
          else aB (yU (y5.1, ())) fun y7 =>
          aB (zq2D (y5.1, 0, ())) fun y8 =>
          aB (zq2F (y5.1, 0, 0, ())) fun y9 =>
          aB (zq2B (y5.1, ())) fun y10 =>
          aB (xN (y5.1, ())) fun y11 =>
          bif ltI 0 (aA .i64 ((aA .i64 ((aA .i64 ((aA .i64 ((y7.1.length : Int) + (y8.1.length : Int))) + y9.1)) + (y10.1.length : Int))) + (y11.1.length : Int))) then
            some (false, ())
          else bif !(eqI y7.2.1 y5.2.1) then
            some (false, ())
          else bif !(eqI y8.2.1 y5.2.1) then
            some (false, ())
          else bif !(eqI y9.2.1 y5.2.1) then
            some (false, ())
          else bif !(eqI y10.2.1 y5.2.1) then
            some (false, ())
          else bif !(eqI y11.2.1 y5.2.1) then
            some (false, ())
          else aB (zq2E (y5.1, 0, 0, ())) fun y12 =>
          aB (zq2G (y5.1, 0, ())) fun y13 =>
          aB (zq2C (y5.1, 0, 0, ())) fun y14 =>
          bif eqI (aA .i64 ((aA .i64 ((y12.1.length : Int) + (y13.1.length : Int))) + (y14.1.length : Int))) 0 then
            bif y12.2.1 then
              some (false, ())
            else bif eqI y12.2.2.1 y5.2.1 then
              bif eqI y13.2.1 y5.2.1 then
                some (eqI y14.2.1 y5.2.1, ())
              else some (false, ())
            else some (false, ())
          else some (false, ())
        else aB (K4 (y4.1, ())) fun y15 =>
        some (eqI y15.1 26, ())
      else aB (aZ (())) fun y16 =>
      some (y16.1, ())
    else aB (aZ (())) fun y17 =>
    some (y17.1, ())
noncomputable def zq1J : Code := bY Tryz.f10
abbrev zq05 : Env := B1 [aIH, zq1O, zq1Q, zq1S, W0, zq1U, aQC, zq1W, zq1Y, MP, M6, DA, zq28]
theorem zq06 : dN Tryz.prog zq05 := aS ⟨aKN, zq1P, zq1R, zq1T, X6, zq1V, UM, zq1X, zq1Z, zR, zS, rV, zq29, trivial⟩
def zq3F (id : Nat) : Option cI := none
theorem zq3C : bA zq1J = [] := by kernel_rfl
theorem zq12 : ∀ x, bII Tryz.prog zq05 Tryz.f10 (aP Tryz.f10) zq3F zq1J [.agg zq0K, .agg zq0N] [.bool] x = zq2P x := by
  rintro ⟨v0, v1, ⟨⟩⟩
  kernel_rfl
theorem zq2I : WA Tryz.prog 10 [.agg zq0K, .agg zq0N] [.bool] zq2P := by
  exact W4 aQ zq06 Tryz.func10 (c := zq1J) Y (keep := aP Tryz.f10) (lt := zq3F) (aO zq3C trivial) zq12
abbrev zq26 : Ent := ⟨10, [.agg zq0K, .agg zq0N], [.bool], zq2P⟩
theorem zq27 : Ent.OK Tryz.prog zq26 := zq2I
open Go Go.RowKit Go.Proofs Go.Lz
section
variable {ps : List Int} {n d r : Nat} {C K : Nat → V}
def zq0J (ps : List Int) (c : List (List Int)) : Prop := 0 < c.length ∧ c.length ≤ 8 ∧ rK (ps, c, ()) = some (0, ())
abbrev zq52 (p : List Int) (A B l : List (List Int)) (qs : List (List (List Int))) (s : Int) (t : Nat) : Shape.den XO := ((((p, (A, B)), l), (qs, s)), qs, (qs.length : Int), (t : Int), ())
theorem zq1I {A B l qs s} {t : Nat} (ht : t < qs.length) (hl : qs.length ≤ 12) (h : zq0J ps (qs.getD t [])) : KK (zq52 ps A B l qs s t) = some (.inl (zq52 ps A B l qs s (t + 1))) := by
  obtain ⟨g1, g2, g3⟩ := h
  have q4 : eqI ((qs.getD t []).length : Int) 0 = false := by rw [bN]; exact decide_eq_false Z
  have q5 : ltI 8 ((qs.getD t []).length : Int) = false := by rw [aF]; exact decide_eq_false Z
  have q7 := bP t Z
  simp only [KK, zq52, lI ht, iO ht, tN, q4, q5, g3, q7, e00, aC, Bool.not_true, cond_true, cond_false]
section
variable {A B l : List (List Int)} {qs : List (List (List Int))} {s e : Int} (hgm : C7 (((ps, (A, B)), l), ()) = some (0, ()))
include hgm
theorem zq1E (h12 : qs.length ≤ 12) {j : Nat} (hj : j < qs.length) (hpre : ∀ i, i < j → zq0J ps (qs.getD i [])) (hres : KK (zq52 ps A B l qs s j) = some (.inr (.inl (e, ())))) : K4 ((((ps, (A, B)), l), (qs, s)), ()) = some (e, ()) := by
  have e1 : eqI (qs.length : Int) 0 = false := by rw [bN]; exact decide_eq_false Z
  have e2 : ltI 12 (qs.length : Int) = false := by rw [aF]; exact decide_eq_false Z
  have key : TB (zq52 ps A B l qs s 0) = some (.inl (e, ())) := aK (step := KK) (N := 2 ^ 64) (zq52 ps A B l qs s) j (.inl (e, ())) Z (fun t ht => zq1I Z h12 (hpre t ht)) hres
  simp only [K4, hgm, aC, e00, e1, e2, key, rT, Bool.not_true, cond_false]
  rw [show TB ((((ps, (A, B)), l), (qs, s)), qs, (qs.length : Int), 0, ()) = some (.inl (e, ())) from key]
  rfl
theorem zq1D (h0 : 0 < qs.length) (h12 : qs.length ≤ 12) (hpre : ∀ i, i < qs.length → zq0J ps (qs.getD i [])) : K4 ((((ps, (A, B)), l), (qs, s)), ()) = some (if s < 1 ∨ 8 < s then 3 else 0, ()) := by
  have e1 : eqI (qs.length : Int) 0 = false := by rw [bN]; exact decide_eq_false Z
  have e2 : ltI 12 (qs.length : Int) = false := by rw [aF]; exact decide_eq_false Z
  have key : TB (zq52 ps A B l qs s 0) = some (.inr ((((ps, (A, B)), l), (qs, s)), ())) := aK (step := KK) (N := 2 ^ 64) (zq52 ps A B l qs s) qs.length (.inr ((((ps, (A, B)), l), (qs, s)), ())) Z (fun t ht => zq1I ht h12 (hpre t ht)) (by simp only [KK, zq52, lN, cond_false])
  have key : TB ((((ps, (A, B)), l), (qs, s)), qs, (qs.length : Int), 0, ()) = some (.inr ((((ps, (A, B)), l), (qs, s)), ())) := key
  by_cases c1 : s < 1
  · have e3 : ltI s 1 = true := by rw [aF]; exact decide_eq_true c1
    rw [if_pos (.inl c1)]
    simp only [K4, hgm, aC, e00, e1, e2, e3, key, bV, Bool.not_true, cond_false, cond_true]
  · have e3 : ltI s 1 = false := by rw [aF]; exact decide_eq_false c1
    by_cases c2 : 8 < s
    · have e4 : ltI 8 s = true := by rw [aF]; exact decide_eq_true c2
      rw [if_pos (.inr c2)]
      simp only [K4, hgm, aC, e00, e1, e2, e3, e4, key, bV, Bool.not_true, cond_false, cond_true]
    · have e4 : ltI 8 s = false := by rw [aF]; exact decide_eq_false c2
      rw [if_neg (by rintro (h | h) <;> contradiction)]
      simp only [K4, hgm, aC, e00, e1, e2, e3, e4, key, bV, Bool.not_true, cond_false]
theorem zq1H : K4 ((((ps, (A, B)), l), ([], s)), ()) = some (13, ()) := by
  simp only [K4, hgm, aC, e00, Bool.not_true, cond_false]
  rfl
theorem zq1G (h : 12 < qs.length) : K4 ((((ps, (A, B)), l), (qs, s)), ()) = some (4, ()) := by
  have e1 : eqI (qs.length : Int) 0 = false := by rw [bN]; exact decide_eq_false Z
  have e2 : ltI 12 (qs.length : Int) = true := by rw [aF]; exact decide_eq_true Z
  simp only [K4, hgm, aC, e00, e1, e2, Bool.not_true, cond_false, cond_true]
end
theorem zq1F {A B l qs s e} (hgm : C7 (((ps, (A, B)), l), ()) = some (e, ())) (he : eqI e 0 = false) : K4 ((((ps, (A, B)), l), (qs, s)), ()) = some (e, ()) := by
  simp only [K4, hgm, aC, he, Bool.not_false, cond_true]
end
theorem zq3B {σ τ step N} (F : Nat → σ) (m : Nat) (z : τ) (hN : m < N) (h : ∀ i, i < m → step (F i) = some (.inl (F (i + 1))) ∨ ∃ y : τ, step (F i) = some (.inr y)) (he : step (F m) = some (.inr z)) : ∃ y, aV step N (F 0) = some y := by
  classical
  refine ⟨_, aPW F (fun i => if hy : ∃ y : τ, step (F i) = some (.inr y) then some hy.choose else none) m z hN (fun i hi => ?_) he⟩
  by_cases hy : ∃ y : τ, step (F i) = some (.inr y)
  · rw [dif_pos hy]; exact hy.choose_spec
  · rw [dif_neg hy]
    rcases h i hi with h1 | h1
    · exact h1
    · exact absurd h1 hy
section
variable {ps : List Int} {n d r : Nat} {C K : Nat → V}
theorem zq3G (hp : BD (ps, ()) = some (0, ())) (rows : List (List Int)) (hk : rows.length < 1048576) (hx : ∀ x ∈ rows, x.length < 1048576) : ∃ e, rK (ps, rows, ()) = some (e, ()) := by
  have inner : ∀ (k : Int) (x : List Int), x.length < 1048576 → lH (ps, rows, (rows.length : Int), k, x, (x.length : Int), 0, ()) = some (.inl (4, ())) ∨ lH (ps, rows, (rows.length : Int), k, x, (x.length : Int), 0, ()) = some (.inr (ps, rows, (rows.length : Int), k, ())) := fun k x hx => by
    have key := ME (step := fU) (N := 2 ^ 64) (fun t => (ps, rows, (rows.length : Int), k, x, (x.length : Int), (t : Int), ())) (fun i => 1000 < x.getD i 0 ∨ x.getD i 0 < -1000) (fun _ => .inl (4, ())) x.length (.inr (ps, rows, (rows.length : Int), k, ())) Z (fun t ht => ?_) ?_
    · rcases key with ⟨_, _, _, _, h⟩ | ⟨_, h⟩
      · exact .inl h
      · exact .inr h
    · have l1 := bP t Z
      by_cases c1 : 1000 < x.getD t 0
      · have e1 : ltI 1000 (x.getD t 0) = true := by rw [aF]; exact decide_eq_true c1
        rw [if_pos (.inl c1)]
        simp only [fU, lI ht, iO ht, tN, e1, cond_true]
      · have e1 : ltI 1000 (x.getD t 0) = false := by rw [aF]; exact decide_eq_false c1
        by_cases c2 : x.getD t 0 < -1000
        · have e2 : ltI (x.getD t 0) (-1000) = true := by rw [aF]; exact decide_eq_true c2
          rw [if_pos (.inr c2)]
          simp only [fU, lI ht, iO ht, tN, e1, e2, cond_true, cond_false]
        · have e2 : ltI (x.getD t 0) (-1000) = false := by rw [aF]; exact decide_eq_false c2
          rw [if_neg (by rintro (h | h) <;> contradiction)]
          simp only [fU, lI ht, iO ht, tN, e1, e2, l1, cond_true, cond_false]
    · simp only [fU, lN, cond_false]
  obtain ⟨z, hz⟩ : ∃ z, lR (ps, rows, (rows.length : Int), 0, ()) = some z := by
    refine zq3B (step := fQ) (N := 2 ^ 64) (fun t => (ps, rows, (rows.length : Int), (t : Int), ())) rows.length (.inr ()) Z (fun t ht => ?_) ?_
    · have l1 := bP t Z
      have q3 : rows.getD t [] = rows[t] := getD_at ht
      by_cases c1 : ((rows.getD t []).length : Int) = (ps.length : Int)
      · have e1 : eqI ((rows.getD t []).length : Int) (ps.length : Int) = true := by rw [bN]; exact decide_eq_true c1
        rcases inner (t : Int) (rows.getD t []) (by rw [q3]; exact hx _ (List.getElem_mem ht)) with h | h
        · right
          exact ⟨.inl (4, ()), by simp only [fQ, lI ht, iO ht, tN, e1, h, aC, rT, Bool.not_true, cond_true, cond_false]⟩
        · left
          simp only [fQ, lI ht, iO ht, tN, e1, h, l1, aC, bV, Bool.not_true, cond_true, cond_false]
      · have e1 : eqI ((rows.getD t []).length : Int) (ps.length : Int) = false := by rw [bN]; exact decide_eq_false c1
        right
        exact ⟨.inl (5, ()), by simp only [fQ, lI ht, iO ht, tN, e1, Bool.not_false, cond_true]⟩
    · simp only [fQ, lN, cond_false]
  rcases z with a | b
  · exact ⟨a.1, by simp only [rK, hp, hz, aC, e00, rT, Bool.not_true, cond_false]⟩
  · exact ⟨0, by simp only [rK, hp, hz, aC, e00, bV, Bool.not_true, cond_false]⟩
theorem zq37 {x : PT} {y : zq0N.den} {q q' : zq0L.den} {e : Int} (hf : dU (x, ()) = some (true, ())) (hM : eG (x, ()) = some (q, true, ())) (hy : ltI 8 (y.2.2.length : Int) = false) (hs : zq2Q (q, y, ()) = some (q', e, ())) (hc : K4 (q', ()) = some (e, ())) :
    zq2P (x, y, ()) = some (true, ()) := by
  obtain ⟨⟨v, rows, vals⟩, ns, cs, le⟩ := x
  obtain ⟨y1, y2, y3⟩ := y
  obtain ⟨⟨⟨p, A, B⟩, l⟩, qs, s⟩ := q'
  obtain ⟨⟨⟨p0, A0, B0⟩, l0⟩, qs0, s0⟩ := q
  have e1 := a0C e
  by_cases c : e = 0
  · subst c
    simp only [zq2P, aHL, hf, hM, hy, hs, hc, e1, aC, cond_true, cond_false, Bool.not_true]
  · have e2 : eqI e 0 = false := by rw [bN]; exact decide_eq_false c
    have a1 : gH ((((p, (A, B)), l), (qs, s)), ()) = some ([], e, ()) := by simp only [gH, hc, aC, e2, Bool.not_false, cond_true]
    have a2 : ∀ w, zq2H ((((p, (A, B)), l), (qs, s)), w, ()) = some ([], e, ()) := fun w => by simp only [zq2H, a1, aC, e2, Bool.not_false, cond_true]
    have b1 : yU ((((p, (A, B)), l), (qs, s)), ()) = some ([], e, ()) := by simp only [yU, a1, aC, e2, Bool.not_false, cond_true]
    have b2 : zq2D ((((p, (A, B)), l), (qs, s)), 0, ()) = some ([], e, ()) := by simp only [zq2D, a2, aC, e2, Bool.not_false, cond_true]
    have b3 : zq2F ((((p, (A, B)), l), (qs, s)), 0, 0, ()) = some (0, e, ()) := by simp only [zq2F, a2, aC, e2, Bool.not_false, cond_true]
    have b4 : zq2B ((((p, (A, B)), l), (qs, s)), ()) = some ([], e, ()) := by simp only [zq2B, a1, aC, e2, Bool.not_false, cond_true]
    have b5 : xN ((((p, (A, B)), l), (qs, s)), ()) = some ([], e, ()) := by simp only [xN, a1, aC, e2, Bool.not_false, cond_true]
    have b6 : zq2E ((((p, (A, B)), l), (qs, s)), 0, 0, ()) = some ([], false, e, ()) := by simp only [zq2E, a2, aC, e2, Bool.not_false, cond_true]
    have b7 : zq2G ((((p, (A, B)), l), (qs, s)), 0, ()) = some ([], e, ()) := by simp only [zq2G, a1, aC, e2, Bool.not_false, cond_true]
    have b8 : zq2C ((((p, (A, B)), l), (qs, s)), 0, 0, ()) = some ([], e, ()) := by simp only [zq2C, hc, aC, e2, Bool.not_false, cond_true]
    simp only [zq2P, aHL, hf, hM, hy, hs, hc, e1, e2, b1, b2, b3, b4, b5, b6, b7, b8, aC, cond_true, cond_false, Bool.not_true]
    rfl
end
theorem zq2U {α} {l m : List α} {i} {d : α} (h : i < l.length) : (l ++ m).getD i d = l.getD i d := by
  simp [List.getD_eq_getElem?_getD, List.getElem?_append_left h]
theorem zq2V {α} {l : List α} {a d : α} : (l ++ [a]).getD l.length d = a := by
  simp [List.getD_eq_getElem?_getD]
section
variable {ps : List Int} {n d r : Nat} {C K : Nat → V}
theorem zq2Y (h : RT ps n d r C K) (hn1 : 1 ≤ n) (hr : 1 ≤ r) (hg : 0 < K 0 0) {l} {a : List Int} (hw : Rw r l) (h0 : 0 < l.length) (h60 : l.length < 60) (hcl : ∀ a ∈ l, cl r (K 0 0) a = a) (hs : ∀ i, i + 1 < l.length → 0 < cmpL (l.getD (i + 1) []) (l.getD i [])) (ha : a ∈ l) (hle : ¬ 0 < cmpL a (l.getD (l.length - 1) [])) :
    C7 (((ps, (Mr d n C, Mr r n K)), l ++ [a]), ()) = some (6, ()) := by
  have n4 := h.n4
  obtain ⟨p, hk⟩ := h.hk
  have r4 := (Hn.wR hk h.wk).1
  have hb := h.bk 0 Z 0 Z
  have t1 := U0 h hn1 hr hg
  have hL : (l ++ [a]).length = l.length + 1 := by simp
  have e1 : eqI ((l ++ [a]).length : Int) 0 = false := by rw [bN]; exact decide_eq_false Z
  have e2 : ltI 60 ((l ++ [a]).length : Int) = false := by rw [aF]; exact decide_eq_false Z
  have hmem : ∀ i, i < l.length + 1 → (l ++ [a]).getD i [] ∈ l := fun i hi => by
    rcases Nat.lt_or_ge i l.length with c | c
    · rw [zq2U c, getD_at c]; exact List.getElem_mem c
    · have : i = l.length := by omega
      subst this
      rw [zq2V]; exact ha
  have hstep : ∀ i, i < l.length + 1 → uK (((ps, (Mr d n C, Mr r n K)), l ++ [a]), ((r : Int), [Vr r (eV (K 0 0))]), l ++ [a], ((l ++ [a]).length : Int), (i : Int), ()) =
      some (if i = 0 ∨ 0 < cmpL ((l ++ [a]).getD i []) ((l ++ [a]).getD (i - 1) []) then .inl (((ps, (Mr d n C, Mr r n K)), l ++ [a]), ((r : Int), [Vr r (eV (K 0 0))]), l ++ [a], ((l ++ [a]).length : Int), ((i + 1 : Nat) : Int), ()) else .inr (.inl (6, ()))) := by
    intro i hi
    have hm := hmem i hi
    have hwm := hw _ hm
    have hi2 : i < (l ++ [a]).length := by omega
    have q4 := a3Y (ps := ps) (n := n) (d := d) (C := C) (K := K) Z _ hwm.1 hwm.2
    have q5 := UB hr Z hg Z _ hwm.1 hwm.2
    rw [hcl _ hm] at q5
    have q6 : kJ ((l ++ [a]).getD i [], (l ++ [a]).getD i [], ()) = some (true, ()) := by
      have := aTL ((l ++ [a]).getD i []) ((l ++ [a]).getD i []) Z
      rw [decide_eq_true rfl] at this
      simp only [kJ, this, aC]
    have q7 := bP i Z
    by_cases hi0 : i = 0
    · have q8 : ltI 0 (i : Int) = false := by subst hi0; decide
      rw [if_pos (.inl hi0)]
      simp only [uK, lI hi2, iO hi2, tN, q4, q5, q6, q7, q8, e00, aC, cond_true, Bool.not_true, cond_false]
    · have q8 : ltI 0 (i : Int) = true := by rw [aF]; exact decide_eq_true Z
      have q9 : aA .i64 ((i : Int) - 1) = ((i - 1 : Nat) : Int) := by rw [wrap64 Z Z]; omega
      have q10 : aE (((i - 1 : Nat) : Int)) (l ++ [a]).length = true := iO Z
      have hwp := hw _ (hmem (i - 1) Z)
      have q12 := aDB ((l ++ [a]).getD i []) ((l ++ [a]).getD (i - 1) []) Z Z
      by_cases hc : 0 < cmpL ((l ++ [a]).getD i []) ((l ++ [a]).getD (i - 1) [])
      · have q13 : ltI 0 (cmpL ((l ++ [a]).getD i []) ((l ++ [a]).getD (i - 1) [])) = true := by rw [aF]; exact decide_eq_true hc
        rw [if_pos (.inr hc)]
        simp only [uK, lI hi2, iO hi2, tN, q4, q5, q6, q7, q8, q9, q10, q12, q13, aC, e00, cond_true, Bool.not_true, cond_false]
      · have q13 : ltI 0 (cmpL ((l ++ [a]).getD i []) ((l ++ [a]).getD (i - 1) [])) = false := by rw [aF]; exact decide_eq_false hc
        rw [if_neg (by rintro (h | h) <;> contradiction)]
        simp only [uK, lI hi2, iO hi2, tN, q4, q5, q6, q7, q8, q9, q10, q12, q13, aC, e00, cond_true, Bool.not_true, Bool.not_false, cond_false]
  have hloop : JD (((ps, (Mr d n C, Mr r n K)), l ++ [a]), ((r : Int), [Vr r (eV (K 0 0))]), l ++ [a], ((l ++ [a]).length : Int), 0, ()) = some (.inl (6, ())) := by
    refine aK (N := 2 ^ 64) (step := uK) (fun i => (((ps, (Mr d n C, Mr r n K)), l ++ [a]), ((r : Int), [Vr r (eV (K 0 0))]), l ++ [a], ((l ++ [a]).length : Int), (i : Int), ())) l.length (.inl (6, ())) Z (fun i hi => ?_) ?_
    · rw [hstep i Z, if_pos]
      by_cases hi0 : i = 0
      · exact .inl hi0
      · right
        rw [zq2U hi, zq2U Z]
        have := hs (i - 1) Z
        rwa [show i - 1 + 1 = i by omega] at this
    · rw [hstep l.length Z, if_neg]
      rintro (c | c)
      · omega
      · rw [zq2V, zq2U Z] at c
        exact hle c
  simp only [C7, t1, aC, e00, e1, e2, Bool.not_true, cond_false, hloop, rT]
theorem zq2X (h : RT ps n d r C K) (hn1 : 1 ≤ n) (hr : 1 ≤ r) (hg : 0 < K 0 0) : C7 (((ps, (Mr d n C, Mr r n K)), []), ()) = some (13, ()) := by
  have t1 := U0 h hn1 hr hg
  simp only [C7, t1, aC, e00, Bool.not_true, cond_false]
  rfl
theorem zq2W (h : RT ps n d r C K) (hn1 : 1 ≤ n) (hl : S6 r K = true) (l : List (List Int)) : C7 (((ps, (Mr d n C, Mr r n K)), l), ()) = some (26, ()) := by
  have hl : r = 0 ∨ K 0 0 = 0 := by unfold S6 at hl; simpa using hl
  have t1 := bFS h hn1 hl
  have e4 : eqI 26 0 = false := by decide
  simp only [C7, t1, aC, e4, Bool.not_false, cond_true]
theorem zq4S {l : List (List Int)} (h : SI l) {k} (hk : k < l.length) : ¬ 0 < cmpL (l.getD k []) (l.getD (l.length - 1) []) := by
  rcases Nat.lt_or_ge k (l.length - 1) with c | c
  · have h1 := List.pairwise_iff_getElem.1 h k (l.length - 1) hk Z c
    rw [getD_at hk, getD_at (show l.length - 1 < l.length by omega)]
    omega
  · have : k = l.length - 1 := by omega
    rw [this, aFO]
    omega
theorem zq4X {A B l : List (List Int)} {qs : List (List (List Int))} {s : Int} {z : zq0L.den} (h0 : 0 < qs.length) (h4 : qs.length ≤ 4) : zq3D (((ps, (A, (B, l))), (qs, s)), z, ()) = some (((ps, (A, (B, l))), (qs ++ List.replicate (13 - qs.length) (qs.getD 0 []), s)), z, ()) := by
  have key := aK (step := zq53) (N := 2 ^ 64) (fun t => (((ps, (A, (B, l))), (qs ++ List.replicate t (qs.getD 0 []), s)), z, ())) (13 - qs.length) (((ps, (A, (B, l))), (qs ++ List.replicate (13 - qs.length) (qs.getD 0 []), s)), z, ()) Z (fun t ht => ?_) ?_
  · rw [List.replicate_zero, List.append_nil] at key
    exact key
  · have hL : (qs ++ List.replicate t (qs.getD 0 [])).length = qs.length + t := by simp
    have e1 : ltI 12 ((qs ++ List.replicate t (qs.getD 0 [])).length : Int) = false := by rw [aF]; exact decide_eq_false Z
    have e2 : aE 0 (qs ++ List.replicate t (qs.getD 0 [])).length = true := by rw [aL]; exact decide_eq_true Z
    have e3 : Nat.blt 0 (qs ++ List.replicate t (qs.getD 0 [])).length = true := Nat.ble_eq_true_of_le Z
    have e4 : (qs ++ List.replicate t (qs.getD 0 [])).getD 0 [] = qs.getD 0 [] := zq2U h0
    have e5 : Nat.ble [qs.getD 0 []].length 1048576 = true := rfl
    have e6 : Nat.ble (qs ++ List.replicate t (qs.getD 0 [])).length 1048576 = true := Nat.ble_eq_true_of_le Z
    simp only [zq53, e1, e2, e3, e4, e5, e6, Bool.not_false, cond_true]
    rw [List.replicate_succ', List.append_assoc]
  · have hL : (qs ++ List.replicate (13 - qs.length) (qs.getD 0 [])).length = 13 := by simp; omega
    have e1 : ltI 12 ((qs ++ List.replicate (13 - qs.length) (qs.getD 0 [])).length : Int) = true := by rw [hL]; decide
    simp only [zq53, e1, Bool.not_true, cond_false]
end
section
variable {ps : List Int} {A B l : List (List Int)} {qs : List (List (List Int))} {s : Int} {y : Int × Int × List Int} (n1 : 0 < l.length) (n2 : 0 < qs.length) (m1 : l.length ≤ 10) (m2 : qs.length ≤ 4)
include n1 n2
theorem zq4W {d : Int} (hd : zq35 y = d) : zq2Q ((((ps, (A, B)), l), (qs, s)), y, ()) = (bif eqI d 4 then zq2R (((ps, (A, B)), l), (qs, s)) (zq0R y l.length) else bif eqI d 5 then zq2S (((ps, (A, B)), l), (qs, s)) y (zq0R y qs.length) else zq2T ((((ps, (A, B)), l), (qs, s)), y, ())) := by
  subst hd
  have e1 : eqI (l.length : Int) 0 = false := by rw [bN]; exact decide_eq_false Z
  have e2 : eqI (qs.length : Int) 0 = false := by rw [bN]; exact decide_eq_false Z
  simp only [zq2Q, e1, e2, cond_false]
include m2 in
theorem zq4V {d : Int} (hd : zq35 y = d) (ha : 0 ≤ y.2.1) (hb : y.2.1 < 256) (h45 : d ≠ 4 ∧ d ≠ 5) : zq2Q ((((ps, (A, B)), l), (qs, s)), y, ()) = (bif eqI d 1 then some ((((ps, (A, B)), []), (qs, s)), 13, ()) else bif eqI d 2 then some ((((ps, (A, B)), l), ([], s)), 13, ()) else
    bif eqI d 3 then some ((((ps, (A, B)), l), (qs, y.2.1 * 9)), 3, ()) else bif eqI d 6 then some ((((ps, (A, B)), l), (qs ++ List.replicate (13 - qs.length) (qs.getD 0 []), s)), 4, ()) else bif eqI d 7 then some ((((ps, (A, B)), l), (qs ++ [[]], s)), 13, ()) else some ((((ps, (A, B)), l), (qs, s)), 0, ())) := by
  have e1 : eqI (l.length : Int) 0 = false := by rw [bN]; exact decide_eq_false Z
  have e2 : eqI (qs.length : Int) 0 = false := by rw [bN]; exact decide_eq_false Z
  have e3 : aA .i64 ((IntKind.wrap .i64 y.2.1) * 9) = y.2.1 * 9 := by
    rw [aAM Z Z, wrap64 Z Z]
  have e4 : eqI d 4 = false := by rw [bN]; exact decide_eq_false h45.1
  have e5 : eqI d 5 = false := by rw [bN]; exact decide_eq_false h45.2
  have c1 : Nat.ble qs.length 1048576 = true := Nat.ble_eq_true_of_le Z
  have c2 : Nat.ble ([[]] : List (List (List Int))).length 1048576 = true := rfl
  rw [zq4W n1 n2 hd]
  simp only [zq2T, hd, e1, e2, e3, e4, e5, c1, c2, zq4X n2 m2, aC, cond_false, cond_true]
include m1 in
theorem zq4T (hd : zq35 y = 4) (ha : 0 ≤ y.2.1) (hb : y.2.1 < 256) : zq2Q ((((ps, (A, B)), l), (qs, s)), y, ()) = some ((((ps, (A, B)), l ++ [l.getD (y.2.1.toNat % l.length) []]), (qs, s)), 6, ()) := by
  have hk := a04 ha hb n1
  have hlt : y.2.1.toNat % l.length < l.length := Nat.mod_lt _ n1
  have c1 : Nat.ble l.length 1048576 = true := Nat.ble_eq_true_of_le Z
  rw [zq4W n1 n2 hd]
  show zq2R _ _ = _
  simp only [zq2R, hk, iO hlt, tN, c1, Bool.and_self, cond_true]
include m2 in
theorem zq4U (hd : zq35 y = 5) (ha : 0 ≤ y.2.1) (hb : y.2.1 < 256) (hc : (qs.getD (y.2.1.toNat % qs.length) []).length ≤ 7) {e : Int} (he : rK (ps, qs.getD (y.2.1.toNat % qs.length) [] ++ [y.2.2], ()) = some (e, ())) :
    zq2Q ((((ps, (A, B)), l), (qs, s)), y, ()) = some ((((ps, (A, B)), l), (qs.set (y.2.1.toNat % qs.length) (qs.getD (y.2.1.toNat % qs.length) [] ++ [y.2.2]), s)), e, ()) := by
  have hk := a04 ha hb n2
  have hlt : y.2.1.toNat % qs.length < qs.length := Nat.mod_lt _ n2
  rw [zq4W n1 n2 hd]
  show zq2S _ _ _ = _
  generalize y.2.1.toNat % qs.length = j at hk hlt hc he
  have c1 : Nat.ble qs.length 1048576 = true := Nat.ble_eq_true_of_le Z
  have c6 : Nat.ble (qs.getD j []).length 1048576 = true := Nat.ble_eq_true_of_le Z
  have c8 : ltI 8 ((qs.getD j [] ++ [y.2.2]).length : Int) = false := by
    rw [aF, List.length_append, List.length_singleton]; exact decide_eq_false Z
  simp only [zq2S, zq16, hk, iO hlt, tN, c1, c6, c8, he, Bool.and_self, aC, cond_false, cond_true]
end
theorem zq1C (x : PT) (h : XP x) (y : Int × Int × List Int) (hy : 0 ≤ y.1 ∧ y.1 < 256) (ha : 0 ≤ y.2.1) (hb : y.2.1 < 256) : zq2P (x, y, ()) = some (true, ()) := by
  rcases aHK x h with hf | ⟨hf, ps, n, d, r, C, K, ⟨rt, big⟩, hn1, hm⟩
  · simp only [zq2P, aHL, hf, aC, cond_true, cond_false]
  by_cases hl : y.2.2.length ≤ 8
  case neg =>
    have e1 : ltI 8 (y.2.2.length : Int) = true := by rw [aF]; exact decide_eq_true Z
    simp only [zq2P, aHL, hf, e1, aC, cond_true]
  have hl8 : ltI 8 (y.2.2.length : Int) = false := by rw [aF]; exact decide_eq_false Z
  rcases hm with ⟨hL, s, hm⟩ | ⟨l, qs, s, hm, hg, hs3, hc5⟩
  · have t1 := zq2W rt hn1 hL []
    have t2 := zq1F (qs := []) (s := s) t1 O
    simp only [zq2P, aHL, hf, hl8, hm, t2, a0C, aC, cond_true, cond_false]
  have n4 := hg.rt.n4
  have hw : Rw r l := fun a ha => ⟨hg.lr a ha, fun c hc => by have := hg.lb a ha c hc; omega⟩
  have l10 := hg.l10
  have q4 := hg.q4
  have hgm := bBS hg.rt hg.n1 hg.r1 hg.g hw hg.l0 Z hg.lc fun i hi => bYL hg.si hi
  have hok : ∀ i, i < qs.length → zq0J ps (qs.getD i []) := fun i hi => by
    have hm := List.getElem_mem hi
    have hgd : qs.getD i [] = qs[i] := by rw [List.getD_eq_getElem?_getD, List.getElem?_eq_getElem hi]; rfl
    rw [hgd]
    have hcc := hg.qc _ hm
    exact ⟨hcc.1, hcc.2, aN9 hg.rt.pr hg.rt.len Z _ Z (fun x hx => (hg.qr _ hm x hx).1) fun x hx => (hg.qr _ hm x hx).2.1⟩
  have hk8 : zq35 y = y.1 % 8 := Int.tmod_eq_emod_of_nonneg hy.1
  have hkk : zq35 y = 0 ∨ zq35 y = 1 ∨ zq35 y = 2 ∨ zq35 y = 3 ∨ zq35 y = 4 ∨ zq35 y = 5 ∨ zq35 y = 6 ∨ zq35 y = 7 := by omega
  rcases hkk with hk | hk | hk | hk | hk | hk | hk | hk
  · refine zq37 hf hm hl8 (zq4V hg.l0 hg.q0 q4 hk ha hb O) ?_
    rw [zq1D hgm hg.q0 Z hok, if_neg (by have := hg.s1; have := hg.s8; omega)]
  · exact zq37 hf hm hl8 (zq4V hg.l0 hg.q0 q4 hk ha hb O) (zq1F (zq2X hg.rt hg.n1 hg.r1 hg.g) O)
  · exact zq37 hf hm hl8 (zq4V hg.l0 hg.q0 q4 hk ha hb O) (zq1H hgm)
  · refine zq37 hf hm hl8 (zq4V hg.l0 hg.q0 q4 hk ha hb O) ?_
    rw [zq1D hgm hg.q0 Z hok, if_pos Z]
  · have hlt : y.2.1.toNat % l.length < l.length := Nat.mod_lt _ hg.l0
    refine zq37 hf hm hl8 (zq4T hg.l0 hg.q0 l10 hk ha hb) (zq1F (zq2Y hg.rt hg.n1 hg.r1 hg.g hw hg.l0 Z hg.lc (fun i hi => bYL hg.si hi) ?_ (zq4S hg.si hlt)) O)
    rw [getD_at hlt]; exact List.getElem_mem hlt
  · have hlt : y.2.1.toNat % qs.length < qs.length := Nat.mod_lt _ hg.q0
    have hgd : qs.getD (y.2.1.toNat % qs.length) [] = qs[y.2.1.toNat % qs.length] := by rw [List.getD_eq_getElem?_getD, List.getElem?_eq_getElem hlt]; rfl
    have hm5 := List.getElem_mem hlt
    rw [← hgd] at hm5
    have hc := hc5 _ hm5
    obtain ⟨e, he⟩ := zq3G hg.rt.pr (qs.getD (y.2.1.toNat % qs.length) [] ++ [y.2.2]) (by rw [List.length_append, List.length_singleton]; omega) (fun x hx => by
      rcases List.mem_append.1 hx with hx | hx
      · have := (hg.qr _ hm5 x hx).1; omega
      · rw [List.mem_singleton] at hx; subst hx; omega)
    refine zq37 hf hm hl8 (zq4U hg.l0 hg.q0 q4 hk ha hb Z he) ?_
    generalize y.2.1.toNat % qs.length = j at hlt hc he
    have hL : (qs.set j (qs.getD j [] ++ [y.2.2])).length = qs.length := List.length_set
    have c7 : (qs.set j (qs.getD j [] ++ [y.2.2])).getD j [] = qs.getD j [] ++ [y.2.2] := by
      rw [List.getD_eq_getElem?_getD, List.getElem?_set_self hlt]; rfl
    have c8 : ∀ i, i ≠ j → (qs.set j (qs.getD j [] ++ [y.2.2])).getD i [] = qs.getD i [] := fun i hi => by
      rw [List.getD_eq_getElem?_getD, List.getElem?_set_ne (fun h => hi h.symm), List.getD_eq_getElem?_getD]
    have c9 : (qs.getD j [] ++ [y.2.2]).length = (qs.getD j []).length + 1 := by simp
    by_cases h0 : e = 0
    · subst h0
      rw [zq1D hgm Z Z fun i hi => by
        by_cases hij : i = j
        · subst hij
          rw [c7]
          exact ⟨by omega, by omega, he⟩
        · rw [c8 i hij]; exact hok i Z]
      rw [if_neg (by have := hg.s1; have := hg.s8; omega)]
    · refine zq1E hgm Z (j := j) Z (fun i hi => by rw [c8 i Z]; exact hok i Z) ?_
      have q4 : eqI ((qs.getD j [] ++ [y.2.2]).length : Int) 0 = false := by rw [bN]; exact decide_eq_false Z
      have q5 : ltI 8 ((qs.getD j [] ++ [y.2.2]).length : Int) = false := by rw [aF]; exact decide_eq_false Z
      have q6 : eqI e 0 = false := by rw [bN]; exact decide_eq_false h0
      have hj2 : j < (qs.set j (qs.getD j [] ++ [y.2.2])).length := by omega
      simp only [KK, zq52, lI hj2, iO hj2, tN, c7, q4, q5, q6, he, aC, Bool.not_false, cond_true, cond_false]
  · exact zq37 hf hm hl8 (zq4V hg.l0 hg.q0 q4 hk ha hb O) (zq1G hgm (by simp; omega))
  · refine zq37 hf hm hl8 (zq4V hg.l0 hg.q0 q4 hk ha hb O) (zq1E hgm (by simp; omega) (j := qs.length) R (fun i hi => by rw [zq2U hi]; exact hok i hi) ?_)
    have hj2 : qs.length < (qs ++ [([] : List (List Int))]).length := by simp
    simp only [KK, zq52, lI hj2, iO hj2, tN, zq2V, cond_true]
    rfl
end Go.PM
