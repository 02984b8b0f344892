/- The plain machine: a region in which one operation is done by hand: what stands ahead of it is done first in every order, what stands behind it last. No program. -/
import Derived.Test.YtjgapmocogjkmaaGreatDoorPnR
set_option linter.unusedSimpArgs false
set_option linter.unusedVariables false
namespace Go.PM
open Go Go.RowKit

/-- From s on each operation waits for all that stand ahead of it. -/
def forced (ops : Array Oper) (s : Nat) : Bool := (List.range ops.size).all fun j => Nat.blt j s || Nat.beq (Nat.land ((masks ops).getD j 0) (2 ^ j - 1)) (2 ^ j - 1)
def guardsOk (l : List Oper) : Bool := (List.range l.length).all fun i => match l[i]? with
  | some o => match o.guard with
    | some (g, _) => Nat.blt g i
    | none => true
  | none => true
def splitOk (ops : Array Oper) (s : Nat) : Bool := maskOk (masks ops) 0 ops.toList && forced ops s && guardsOk ops.toList && noDefer ops && Nat.ble s ops.size

section
variable {P : Program} {ops : Array Oper} {s : Nat}

theorem forced_bit (h : forced ops s = true) {j b : Nat} (hj : j < ops.size) (hs : s ≤ j) (hb : b < j) : ((masks ops).getD j 0).testBit b = true := by
  have := List.all_eq_true.1 h j (List.mem_range.2 hj)
  rw [Bool.or_eq_true] at this
  rcases this with h1 | h1
  · have := nblt_iff h1; omega
  · have h2 := Nat.eq_of_beq_eq_true h1
    have h3 : (Nat.land ((masks ops).getD j 0) (2 ^ j - 1)).testBit b = (2 ^ j - 1).testBit b := by rw [h2]
    have h4 : (2 ^ j - 1).testBit b = true := by rw [Nat.testBit_two_pow_sub_one]; simpa using hb
    rw [h4] at h3
    have h5 : ((masks ops).getD j 0 &&& (2 ^ j - 1)).testBit b = true := h3
    rw [Nat.testBit_and, Bool.and_eq_true] at h5
    exact h5.1
theorem mask_at (hm : maskOk (masks ops) 0 ops.toList = true) {i : Nat} {o : Oper} (ho : ops[i]? = some o) : (masks ops).getD i 0 = edgeBits (masks ops) o.after.toList ∧ ∀ e ∈ o.after, Region.binds .any e = true → e.on < i := by
  have := maskOk_at hm (i := i) (o := o) (by simpa using ho)
  rwa [Nat.zero_add] at this
/-- What is ready has all behind it that it waits for. -/
theorem ready_ahead (hm : maskOk (masks ops) 0 ops.toList = true) {listed : Array Bool} (hc : Closed (masks ops) (fun i => listed.getD i false)) {i : Nat} (hi : i ∈ Region.ready .any ops listed) :
    i < ops.size ∧ listed.getD i true = false ∧ ∀ b, ((masks ops).getD i 0).testBit b = true → listed.getD b false = true := by
  obtain ⟨h1, o, ho, h2⟩ := mem_ready.1 hi
  refine ⟨(Array.getElem?_eq_some_iff.1 ho).1, by simpa using h1, fun b hb => ?_⟩
  rw [(mask_at hm ho).1] at hb
  unfold edgeBits at hb
  rcases edgeBits_bit _ _ hb with h3 | ⟨e, h3, h4, h5⟩
  · simp at h3
  · have h6 := h2 e (Array.mem_toList_iff.1 h3) h4
    rcases h5 with rfl | h5
    · exact h6
    · exact hc e.on h6 b h5
theorem mask_lt (hm : maskOk (masks ops) 0 ops.toList = true) : ∀ (i b : Nat), i < ops.size → ((masks ops).getD i 0).testBit b = true → b < i := by
  intro i
  induction i using Nat.strongRecOn with
  | _ i ih =>
    intro b hi hb
    obtain ⟨o, ho⟩ : ∃ o, ops[i]? = some o := ⟨ops[i], Array.getElem?_eq_getElem hi⟩
    have hma := mask_at hm ho
    rw [hma.1] at hb
    unfold edgeBits at hb
    rcases edgeBits_bit _ _ hb with h3 | ⟨e, h3, h4, h5⟩
    · simp at h3
    · have h6 := hma.2 e (Array.mem_toList_iff.1 h3) h4
      rcases h5 with rfl | h5
      · exact h6
      · have := ih e.on h6 b (by omega) h5; omega

variable {ro : Option Nat} {n : Nat} {Q : Exit → Act → World → Prop}
/-- The last ones, in the order of the text. -/
theorem chain_in (hm : maskOk (masks ops) 0 ops.toList = true) (hf : forced ops s = true) : ∀ (k j : Nat) (L : Array Bool) (a : Act) (w : World), j + k = ops.size → s ≤ j → L.size = ops.size → (∀ i, i < ops.size → L.getD i false = decide (i < j)) →
    wpListIn (Fr ro) n P ops Q (ops.toList.drop j) a w → wpAnyIn (Fr ro) n P .any ops Q k L a w
  | 0, j, L, a, w, hk, hs, hsz, hL, h => by
    have hd : ops.toList.drop j = [] := List.drop_of_length_le (by simp; omega)
    rw [hd] at h
    refine ⟨?_, h⟩
    by_cases hr : Region.ready .any ops L = []
    · exact hr
    · obtain ⟨i, hi⟩ := List.exists_mem_of_ne_nil _ hr
      obtain ⟨h1, o, ho, _⟩ := mem_ready.1 hi
      have hlt := (Array.getElem?_eq_some_iff.1 ho).1
      have h2 := hL i hlt
      rw [decide_eq_true (by omega)] at h2
      have h1 : L.getD i true = false := by simpa using h1
      simp only [Array.getD, hsz, hlt, dif_pos] at h1 h2
      rw [h1] at h2; cases h2
  | k + 1, j, L, a, w, hk, hs, hsz, hL, h => by
    have hj : j < ops.size := by omega
    have hcl : Closed (masks ops) (fun i => L.getD i false) := by
      intro i hi b hb
      replace hi : L.getD i false = true := hi
      have hilt : i < ops.size := by
        rcases Nat.lt_or_ge i ops.size with h | h
        · exact h
        · simp only [Array.getD, hsz, Nat.not_lt.2 h, dif_neg, not_false_iff] at hi; cases hi
      have h1 := hL i hilt
      rw [hi] at h1
      have h2 := of_decide_eq_true h1.symm
      have h3 := mask_lt hm i b hilt hb
      show L.getD b false = true
      rw [hL b (by omega)]
      exact decide_eq_true (by omega)
    have hready : ∀ i ∈ Region.ready .any ops L, i = j := by
      intro i hi
      obtain ⟨h1, h2, h3⟩ := ready_ahead hm hcl hi
      have h4 : ¬ i < j := fun hij => by
        have h5 := hL i h1
        rw [decide_eq_true hij] at h5
        simp only [Array.getD, hsz, h1, dif_pos] at h2 h5
        rw [h2] at h5; cases h5
      rcases Nat.lt_or_ge j i with hji | hji
      · exfalso
        have h5 := h3 j (forced_bit hf h1 (by omega) hji)
        rw [hL j hj] at h5
        have := of_decide_eq_true h5
        omega
      · omega
    obtain ⟨o, ho⟩ : ∃ o, ops[j]? = some o := ⟨ops[j], Array.getElem?_eq_getElem hj⟩
    have hd : ops.toList.drop j = o :: ops.toList.drop (j + 1) := by
      rw [List.drop_eq_getElem_cons (by simpa using hj)]
      congr 1
      have := (Array.getElem?_eq_some_iff.1 ho).2
      simpa using this
    rw [hd] at h
    unfold wpListIn at h
    have ih : ∀ a w, wpListIn (Fr ro) n P ops Q (ops.toList.drop (j + 1)) a w → wpAnyIn (Fr ro) n P .any ops Q k (L.setIfInBounds j true) a w := fun a w h => by
      refine chain_in hm hf k (j + 1) _ a w (by omega) (by omega) (by simpa using hsz) (fun i hi => ?_) h
      by_cases hij : j = i
      · subst hij
        rw [decide_eq_true (by omega)]
        have hlt : j < L.size := by omega
        simp [Array.getD, hlt]
      · rw [getD_set_ne false hij, hL i hi]
        by_cases h2 : i < j
        · rw [decide_eq_true h2, decide_eq_true (by omega)]
        · rw [decide_eq_false h2, decide_eq_false (by omega)]
    refine ⟨fun hr => ?_, fun i hi => ?_⟩
    · exfalso
      have : j ∈ Region.ready .any ops L := mem_ready.2 ⟨by
        have := hL j hj
        rw [decide_eq_false (by omega)] at this
        have hlt : j < L.size := by omega
        simpa [Array.getD, hlt] using this, o, ho, fun e he hb => by
          have := (mask_at hm ho).2 e he hb
          rw [hL e.on (by omega)]
          exact decide_eq_true this⟩
      rw [hr] at this
      cases this
    · have := hready i hi
      subst this
      unfold wpOpIn
      rw [ho]
      simp only
      by_cases hw : Region.wanted o (yielded ops a.tmps) = true
      · rw [if_pos hw] at h ⊢
        exact Oper.wpIn_mono ih h
      · rw [if_neg hw] at h ⊢
        exact ⟨h.1, ih _ _ h.2⟩

theorem wanted_pre {o : Oper} {y y' : Nat → Option Bool} (h : ∀ g b, o.guard = some (g, b) → y g = y' g) : Region.wanted o y = Region.wanted o y' := by
  unfold Region.wanted
  cases hg : o.guard with
  | none => rfl
  | some p =>
    obtain ⟨g, b⟩ := p
    simp only [h g b hg]
theorem guardsOk_get {l : List Oper} (h : guardsOk l = true) {i : Nat} {o : Oper} (ho : l[i]? = some o) {g : Nat} {b : Bool} (hg : o.guard = some (g, b)) : g < i := by
  have := List.all_eq_true.1 h i (List.mem_range.2 (List.getElem?_eq_some_iff.1 ho).1)
  rw [ho] at this
  simp only [hg] at this
  exact nblt_iff this

/-- What stands ahead of s, in any order, then the rest. -/
theorem pre_in {ds : List Deferred} {Q1 : Exit → Act → World → Prop} (hm : maskOk (masks ops) 0 ops.toList = true) (hf : forced ops s = true) (hg : guardsOk ops.toList = true) (hnd : noDefer ops = true) (hs : s ≤ ops.size)
    (hno : ∀ e a w, Q1 e a w → e = .normal) (hQ : ∀ a w, Q1 .normal a w → wpListIn (Fr ro) n P ops Q (ops.toList.drop s) (addD ds a) w) :
    ∀ (k : Nat) (L1 L : Array Bool) (a : Act) (w : World), L1.size = s → L.size = ops.size → (∀ i, i < s → L1.getD i false = L.getD i false) → (∀ i, s ≤ i → L.getD i false = false) → Closed (masks ops) (fun i => L.getD i false) → (List.range s).countP (fun i => !L.getD i false) = k →
      wpAny P .any (ops.toList.take s).toArray Q1 k L1 a w → wpAnyIn (Fr ro) n P .any ops Q (k + (ops.size - s)) L (addD ds a) w
  | 0, L1, L, a, w, h1, h2, h3, h4, hc, hk, h => by
    rw [Nat.zero_add]
    refine chain_in hm hf (ops.size - s) s L _ w (by omega) (Nat.le_refl _) h2 (fun i hi => ?_) (hQ a w h.2)
    by_cases his : i < s
    · rw [decide_eq_true his]
      rw [List.countP_eq_zero] at hk
      have := hk i (List.mem_range.2 his)
      simpa using this
    · rw [decide_eq_false his, h4 i (by omega)]
  | k + 1, L1, L, a, w, h1, h2, h3, h4, hc, hk, h => by
    have hun : ∃ i, i < s ∧ L.getD i false = false := by
      have : 0 < (List.range s).countP (fun i => !L.getD i false) := by omega
      obtain ⟨i, hi, hp⟩ := List.countP_pos_iff.1 this
      exact ⟨i, List.mem_range.1 hi, by simpa using hp⟩
    obtain ⟨i0, hi0, hu0⟩ := hun
    rw [show k + 1 + (ops.size - s) = (k + (ops.size - s)) + 1 by omega]
    refine ⟨fun hr => ?_, fun i hi => ?_⟩
    · exfalso
      have all : ∀ i, i < ops.size → L.getD i false = true := by
        intro i
        induction i using Nat.strongRecOn with
        | _ i ih =>
          intro hi
          cases hli : L.getD i false with
          | true => rfl
          | false =>
            obtain ⟨o, ho⟩ : ∃ o, ops[i]? = some o := ⟨ops[i], Array.getElem?_eq_getElem hi⟩
            have : i ∈ Region.ready .any ops L := mem_ready.2 ⟨by
              have hlt : i < L.size := by omega
              simpa [Array.getD, hlt] using hli, o, ho, fun e he hb => ih e.on ((mask_at hm ho).2 e he hb) (by have := (mask_at hm ho).2 e he hb; omega)⟩
            rw [hr] at this
            cases this
      rw [all i0 (by omega)] at hu0
      cases hu0
    · obtain ⟨hi1, hi2, hi3⟩ := ready_ahead hm hc hi
      have his : i < s := by
        rcases Nat.lt_or_ge i s with h | h
        · exact h
        · have := hi3 i0 (forced_bit hf hi1 h (by omega))
          rw [hu0] at this; cases this
      obtain ⟨_, o, ho, hdeps⟩ := mem_ready.1 hi
      have hLi : L.getD i false = false := by
        have hlt : i < L.size := by omega
        simp only [Array.getD, hlt, dif_pos] at hi2 ⊢
        exact hi2
      have hpre : ∀ j, j < s → (ops.toList.take s).toArray[j]? = ops[j]? := by
        intro j hj
        simp only [List.getElem?_toArray, List.getElem?_take, hj, if_true, Array.getElem?_toList]
      have hready : i ∈ Region.ready .any (ops.toList.take s).toArray L1 := mem_ready.2 ⟨by
        have := h3 i his
        rw [hLi] at this
        have hlt : i < L1.size := by omega
        simpa [Array.getD, hlt] using this, o, by rw [hpre i his]; exact ho, fun e he hb => by
          have h5 := (mask_at hm ho).2 e he hb
          rw [h3 e.on (by omega)]
          exact hdeps e he hb⟩
      have hop := h.2 i hready
      have hw : Region.wanted o (yielded (ops.toList.take s).toArray a.tmps) = Region.wanted o (yielded ops (addD ds a).tmps) := wanted_pre fun g b hgu => by
        have hgi := guardsOk_get hg (i := i) (o := o) (by simpa using ho) hgu
        unfold yielded
        rw [hpre g (by omega)]
        rfl
      have hset : ∀ a w, wpAny P .any (ops.toList.take s).toArray Q1 k (L1.setIfInBounds i true) a w → wpAnyIn (Fr ro) n P .any ops Q (k + (ops.size - s)) (L.setIfInBounds i true) (addD ds a) w := by
        intro a w h
        have hLs : ∀ j, j ≠ i → (L.setIfInBounds i true).getD j false = L.getD j false := fun j hj => getD_set_ne false (fun e => hj e.symm)
        have hL1s : ∀ j, j ≠ i → (L1.setIfInBounds i true).getD j false = L1.getD j false := fun j hj => getD_set_ne false (fun e => hj e.symm)
        have hSi : (L.setIfInBounds i true).getD i false = true := by
          have hlt : i < L.size := by omega
          simp [Array.getD, hlt]
        have hS1i : (L1.setIfInBounds i true).getD i false = true := by
          have hlt : i < L1.size := by omega
          simp [Array.getD, hlt]
        refine pre_in hm hf hg hnd hs hno hQ k _ _ a w (by simpa using h1) (by simpa using h2) ?_ ?_ ?_ ?_ h
        · intro j hj
          by_cases hji : j = i
          · subst hji; rw [hSi, hS1i]
          · rw [hLs j hji, hL1s j hji, h3 j hj]
        · intro j hj
          rw [hLs j (by omega)]; exact h4 j hj
        · intro j hj b hb
          show (L.setIfInBounds i true).getD b false = true
          by_cases hbi : b = i
          · subst hbi; exact hSi
          · rw [hLs b hbi]
            by_cases hji : j = i
            · subst hji; exact hi3 b hb
            · have hj' : L.getD j false = true := by rw [← hLs j hji]; exact hj
              exact hc j hj' b hb
        · have := count_one (p := fun i => !L.getD i false) (p' := fun j => !(L.setIfInBounds i true).getD j false) (i := i) (by simp only [hLi, Bool.not_false]) (by simp only [hSi, Bool.not_true]) (fun j hj => by simp only [hLs j hj]) s his
          omega
      unfold wpOp at hop
      rw [hpre i his, ho] at hop
      simp only at hop
      unfold wpOpIn
      rw [ho]
      simp only
      rw [hw] at hop
      by_cases hww : Region.wanted o (yielded ops (addD ds a).tmps) = true
      · rw [if_pos hww] at hop ⊢
        rcases hop with hop | ⟨_, a0, w0, h0⟩
        · exact oper_in (noDefer_get hnd (by rw [← Array.getElem?_toList] at ho; exact List.mem_of_getElem? ho)) hset (fun ch a w h => by cases hno _ a w h) (fun a w h => by cases hno _ a w h) hop
        · cases hno _ a0 w0 h0
      · rw [if_neg hww] at hop ⊢
        refine ⟨fun _ _ => trivial, ?_⟩
        rw [addD_put]
        exact hset _ _ hop

theorem list_append {F : Fence} {Q1 : Exit → Act → World → Prop} {l2 : List Oper} (hno : ∀ e a w, Q1 e a w → e = .normal) (hQ : ∀ a w, Q1 .normal a w → wpListIn F n P ops Q l2 a w) : ∀ {l1 : List Oper} {a w}, wpListIn F n P ops Q1 l1 a w → wpListIn F n P ops Q (l1 ++ l2) a w
  | [], a, w, h => hQ a w h
  | o :: l1, a, w, h => by
    rw [List.cons_append]
    unfold wpListIn at h ⊢
    split at h
    · rename_i hw
      rw [if_pos hw]
      refine ⟨h.1, ?_⟩
      have h2 := h.2
      generalize (o.semAt F.round a.eval).run P w = r at h2 ⊢
      cases r with
      | ok x w' =>
        cases x with
        | value v => exact list_append hno hQ h2
        | skip => exact list_append hno hQ h2
        | defer d => exact list_append hno hQ h2
        | enter f args =>
          refine ⟨h2.1, CallsIn.mono h2.2 ?_⟩
          rintro e w'' he
          cases e with
          | returned v => exact list_append hno hQ he
          | panicked ch => cases hno _ _ _ he
          | outgrown => obtain ⟨a0, w0, h0⟩ := he; cases hno _ _ _ h0
        | row row args => exact ⟨h2.1, RowsIn.mono h2.2 fun v w'' he => list_append hno hQ he⟩
        | round l f t as b =>
          refine ⟨h2.1, RoundIn.mono h2.2 ?_⟩
          rintro e w'' he
          cases e with
          | returned v => exact list_append hno hQ he
          | panicked ch => cases hno _ _ _ he
          | outgrown => obtain ⟨a0, w0, h0⟩ := he; cases hno _ _ _ h0
        | _ => exact h2.elim
      | halt x w' =>
        cases x <;> first | (cases hno _ _ _ h2; done) | exact h2.elim
    · rename_i hw
      rw [if_neg hw]
      exact ⟨h.1, list_append hno hQ h.2⟩
end

section
variable {P : Program} {E : Env} {nt : Nat} {F F' : Frm} {H H' : Heap} {ops : Array Oper} {s : Nat}
/-- A region in two parts: the first by the plain machine, the second by hand. -/
theorem region_split (hcl : CalleeOK P (calleeE P E)) (hP : P.follows .mixedOrders = true) {id : Nat} {draw : Bool} (hsp : splitOk ops s = true)
    (hrun : (bif draw then runDraw P (calleeE P E) nt (ops.toList.take s).toArray F H else runOps P (calleeE P E) nt ops.toList (ops.toList.take s) F H) = some (F', H'))
    {ro : Option Nat} {n : Nat} {n0 : Nat → Prop} {wi : World} {Gi : Nat → Prop} {μi : Mp} {a : Act} {w : World} {ds : List Deferred} {Q : Exit → Act → World → Prop} (hI : I n0 wi Gi μi nt F H a w)
    (hQ : ∀ a' w', I n0 wi Gi μi nt F' H' a' w' → wpListIn (Fr ro) n P ops Q (ops.toList.drop s) (addD ds a') w') : (Code.region id ops draw).wpIn (Fr ro) n P Q (addD ds a) w := by
  simp only [splitOk, Bool.and_eq_true] at hsp
  obtain ⟨⟨⟨⟨hm, hf⟩, hg⟩, hnd⟩, hs⟩ := hsp
  have hs := Nat.le_of_ble_eq_true hs
  cases draw with
  | true =>
    simp only [cond_true] at hrun
    have h1 := runDraw_any (Q := fun e a' w' => e = .normal ∧ I n0 wi Gi μi nt F' H' a' w') hcl hrun hI (fun a' w' h => ⟨rfl, h⟩)
    refine wpIn_region_any hP ?_
    have hsz : (ops.toList.take s).toArray.size = s := by simp [List.length_take]; omega
    rw [hsz] at h1
    have hfalse : ∀ m j, (Array.replicate m false).getD j false = false := fun m j => by
      simp only [Array.getD]
      split <;> simp
    have := pre_in (n := n) (ro := ro) (ds := ds) (Q := Q) hm hf hg hnd hs (fun e a w h => h.1) (fun a w h => hQ a w h.2) s (Array.replicate s false) (Array.replicate ops.size false) a _ (by simp) (by simp) (fun i _ => by rw [hfalse, hfalse]) (fun i _ => hfalse _ i) (fun j hj b hb => by
      have : (Array.replicate ops.size false).getD j false = true := hj
      rw [hfalse] at this; cases this) (by
      rw [List.countP_eq_length.2]
      · simp
      · intro i _
        rw [hfalse]; rfl) h1
    rwa [show s + (ops.size - s) = ops.size by omega] at this
  | false =>
    simp only [cond_false] at hrun
    refine wpIn_region_list ?_
    rw [← List.take_append_drop s ops.toList]
    have h1 := runOps_sound (Q := fun e a' w' => e = .normal ∧ I n0 wi Gi μi nt F' H' a' w') hcl (ops.toList.take s) F H a w hrun hI (fun a' w' h => ⟨rfl, h⟩)
    have h2 := list_in (ro := ro) (n := n) (ds := ds) (Q' := fun e a' w' => e = .normal ∧ wpListIn (Fr ro) n P ops Q (ops.toList.drop s) a' w') (fun a w h => by cases h.1) (fun e a w h => ⟨h.1, hQ a w h.2⟩) (fun o ho => noDefer_get hnd (List.mem_of_mem_take ho)) h1
    exact list_append (fun e a w h => h.1) (fun a w h => h.2) h2
end
end Go.PM

/- The plain machine and iterators: what holds while an iterator runs; its calls of yield. No program. -/
set_option linter.unusedSimpArgs false
set_option linter.unusedVariables false
namespace Go.PM
open Go Go.RowKit

/-- While an iterator runs: Φ held when it last came back from a round (or began), in the world B; since then it has made steps of its own. G0: its captured data. -/
def Sg (Φ : (Nat → Prop) → (Nat → Prop) → World → Prop) (G0 G : Nat → Prop) (μ : Mp) (H : Heap) (A : World) : Prop :=
  ∃ (T X : Nat → Prop) (B : World) (GB : Nat → Prop) (μB : Mp), Φ T X B ∧ (∀ b, X b → T b) ∧ (∀ b, T b → b < B.heap.size) ∧ (∀ b, GB b → G0 b ∨ T b) ∧ (∀ b, G0 b → GB b) ∧
    Ext (fun b => X b ∨ B.heap.size ≤ b) B GB μB A G μ ∧ WInv (fun b => X b ∨ B.heap.size ≤ b) G μ H A
/-- The frame's slots, some of them. -/
def pickF (sl : List Nat) (F : Frm) : Frm := sl.map fun t => (t, fget F t)

/-- The regions of a code, by their numbers. -/
def regsOf : Code → List (Nat × Array Oper)
  | .seq a b => regsOf a ++ regsOf b
  | .cond _ a b => regsOf a ++ regsOf b
  | .block _ a => regsOf a
  | .loop a => regsOf a
  | .region id ops _ => [(id, ops)]
  | _ => []
def findR : List (Nat × Array Oper) → Nat → Array Oper
  | [], _ => #[]
  | (j, o) :: r, i => bif Nat.beq j i then o else findR r i
def opsAt (c : Code) (i : Nat) : Array Oper := findR (regsOf c) i
def operAt (c : Code) (i j : Nat) : Oper := (opsAt c i).toList.getD j default
def callOf (o : Oper) : Call := match o.op with
  | .call c => c
  | _ => { callee := .value (.const undef), args := #[], argTypes := #[] }

section
variable {P : Program} {Φ : (Nat → Prop) → (Nat → Prop) → World → Prop} {G0 G G' : Nat → Prop} {μ μ' : Mp} {H H' : Heap} {A A' W : World} {F F' : Frm} {nt n : Nat} {a : Act}

theorem Sg.start {J : (Nat → Prop) → (Nat → Prop) → World → Prop} (hlt : ∀ b, G0 b → b < W.heap.size) (h : J (fun _ => False) (fun _ => False) W) : Sg J G0 G0 nomap [] W :=
  ⟨_, _, W, G0, nomap, h, fun b h => h, fun b h => h.elim, fun b h => .inl h, fun b h => h, Ext.refl _ _ _ _, fun r k b h => by simp at h, fun r k g h => by simp at h, fun r s k l b h => by simp at h, hlt, fun _ _ => ⟨rfl, rfl⟩, fun b hb => .inr hb⟩
theorem Sg.open_ (h : Sg Φ G0 G μ H A) : ∃ n0, WInv n0 G μ H A ∧ (∀ b, G0 b → G b) ∧ ∀ A' G' μ' H', Ext n0 A G μ A' G' μ' → WInv n0 G' μ' H' A' → Sg Φ G0 G' μ' H' A' := by
  obtain ⟨T, X, B, GB, μB, h1, h2, h3, h4, h5, h6, h7⟩ := h
  exact ⟨_, h7, fun b hb => (h6.good b (h5 b hb)).1, fun A' G' μ' H' e w => ⟨T, X, B, GB, μB, h1, h2, h3, h4, h5, h6.trans e, w⟩⟩
/-- The names may change. -/
theorem Sg.renamed (h : Sg Φ G0 G μ H A) (hs : ∀ n0, WInv n0 G μ H A → WInv n0 G μ' H' A) : Sg Φ G0 G μ' H' A := by
  obtain ⟨T, X, B, GB, μB, h1, h2, h3, h4, h5, h6, h7⟩ := h
  refine ⟨T, X, B, GB, nomap, h1, h2, h3, h4, h5, ?_, hs _ h7⟩
  exact { good := h6.good, map := fun _ _ h => (by cases h), len := fun _ _ h => (by cases h), room := h6.room, os := h6.os, tape := h6.tape, output := h6.output, size := h6.size, drawn := h6.drawn, old := h6.old, new := h6.new }
theorem Sg.stp (h : Sg Φ G0 G μ H A) : ∃ T X B, Stp X B A ∧ Φ T X B := by
  obtain ⟨T, X, B, GB, μB, h1, h2, h3, h4, h5, h6, h7⟩ := h
  exact ⟨T, X, B, ⟨fun b hb hx => h6.old b hb (by rintro (h | h); exact hx h; omega), h6.room, h6.os, h6.tape, h6.output, h6.size, h6.drawn⟩, h1⟩

/-- A block is data from now on. -/
theorem Sg.freeze (h : Sg Φ G0 G μ H A) {r : Nat} {k : Blk} (hr : H[r]? = some (some k)) (hf : k.frozen = false) : Sg Φ G0 (fun x => G x ∨ μ.loc r = some x) μ (H.set r (some { k with frozen := true })) A ∧ Mono A G μ A (fun x => G x ∨ μ.loc r = some x) μ := by
  obtain ⟨n0, hW, _, hS⟩ := h.open_
  obtain ⟨e, w⟩ := freeze_winv hW hr hf
  exact ⟨hS _ _ _ _ e w, e.toMono⟩
/-- The first block alone. -/
theorem Sg.only0 {k : Blk} {H : Heap} (h : Sg Φ G0 G μ (some k :: H) A) (ht : k.tag.isSome = true) : Sg Φ G0 G (pickMp μ [0]) [some k] A := by
  refine h.renamed fun n0 hW => pick_winv hW rfl ?_
  simp only [pickH, hget, List.getElem?_cons_zero, ht, cond_true]
theorem only0_mono {B : World} {GB : Nat → Prop} {μB : Mp} (hm : Mono A G μ B GB μB) (htop : ∀ r, 1 ≤ r → μ.loc r = none ∧ μ.len r = none) : Mono A G μ B GB (pickMp μB [0]) := by
  refine ⟨hm.good, ?_, ?_, hm.room⟩
  · intro r b hr
    cases r with
    | zero => exact hm.map 0 b hr
    | succ r => rw [(htop (r + 1) (by omega)).1] at hr; cases hr
  · intro r b hr
    cases r with
    | zero => exact hm.len 0 b hr
    | succ r => rw [(htop (r + 1) (by omega)).2] at hr; cases hr
theorem pickF_get (t : Nat) : ∀ sl : List Nat, fget (pickF sl F) t = fget F t ∨ fget (pickF sl F) t = .junk
  | [] => .inr rfl
  | s :: sl => by
    show fget ((s, fget F s) :: pickF sl F) t = fget F t ∨ fget ((s, fget F s) :: pickF sl F) t = .junk
    rw [fget_cons]
    by_cases hs : t = s
    · subst hs; rw [if_pos rfl]; exact .inl rfl
    · rw [if_neg hs]; exact pickF_get t sl
theorem FInv.pick (h : FInv A G μ nt F a) (sl : List Nat) : FInv A G μ nt (pickF sl F) a := ⟨h.size, fun t => by
  rcases pickF_get (F := F) t sl with h1 | h1
  · rw [h1]; exact h.slot t
  · rw [h1, VR]; trivial, h.defers⟩

/-- A region while an iterator runs. -/
theorem sg_region {E : Env} (hcl : CalleeOK P (calleeE P E)) (hP : P.follows .mixedOrders = true) {id : Nat} {ops : Array Oper} {draw : Bool} {sl : List Nat} (h : regionK P E nt ops draw F H (fun F H => some (pickF sl F, H)) = some (F', H'))
    {Q : Exit → Act → World → Prop} (hS : Sg Φ G0 G μ H A) (hF : FInv A G μ nt F a) (hQ : ∀ G' μ' a' A', Sg Φ G0 G' μ' H' A' → Mono A G μ A' G' μ' → FInv A' G' μ' nt F' a' → Q .normal a' A') :
    (Code.region id ops draw).wpIn Fence.wide n P Q a A := by
  obtain ⟨F1, H1, h1, h2⟩ := regionK_sound (id := id) hcl hP h
  simp only [Option.some.injEq, Prod.mk.injEq] at h1
  obtain ⟨rfl, rfl⟩ := h1
  obtain ⟨n0, hW, _, hS2⟩ := hS.open_
  refine wpIn_wide.2 (h2 (n0 := n0) (wi := A) (Gi := G) (μi := μ) ⟨G, μ, Ext.refl _ _ _ _, hW, hF⟩ ?_)
  rintro a' A' ⟨G', μ', e, hW', hF'⟩
  exact hQ G' μ' a' A' (hS2 _ _ _ _ e hW') e.toMono (hF'.pick sl)
/-- The first part of a region while an iterator runs. -/
theorem sg_split {E : Env} (hcl : CalleeOK P (calleeE P E)) (hP : P.follows .mixedOrders = true) {id s : Nat} {ops : Array Oper} {draw : Bool} {sl : List Nat} (hsp : splitOk ops s = true)
    (h : (bif draw then regionK P E nt (ops.toList.take s).toArray true F H (fun F H => some (pickF sl F, H)) else runOpsK P E nt ops.toList (ops.toList.take s) F H (fun F H => some (pickF sl F, H))) = some (F', H'))
    {Q : Exit → Act → World → Prop} (hS : Sg Φ G0 G μ H A) (hF : FInv A G μ nt F a) (hQ : ∀ G' μ' a' A', Sg Φ G0 G' μ' H' A' → Mono A G μ A' G' μ' → FInv A' G' μ' nt F' a' → wpListIn Fence.wide n P ops Q (ops.toList.drop s) a' A') :
    (Code.region id ops draw).wpIn Fence.wide n P Q a A := by
  obtain ⟨F1, hrun, hF1⟩ : ∃ F1, (bif draw then runDraw P (calleeE P E) nt (ops.toList.take s).toArray F H else runOps P (calleeE P E) nt ops.toList (ops.toList.take s) F H) = some (F1, H') ∧ pickF sl F1 = F' := by
    cases draw with
    | true =>
      simp only [cond_true] at h ⊢
      obtain ⟨F1, H1, h2, h3⟩ := regionK_draw h
      simp only [Option.some.injEq, Prod.mk.injEq] at h3
      obtain ⟨h5, rfl⟩ := h3
      exact ⟨F1, h2, h5⟩
    | false =>
      simp only [cond_false] at h ⊢
      obtain ⟨F1, H1, h2, h3⟩ := runOpsK_some h
      simp only [Option.some.injEq, Prod.mk.injEq] at h3
      obtain ⟨h5, rfl⟩ := h3
      exact ⟨F1, h2, h5⟩
  obtain ⟨n0, hW, _, hS2⟩ := hS.open_
  have := region_split (ro := none) (n := n) (ds := []) (Q := Q) hcl hP (id := id) hsp hrun (n0 := n0) (wi := A) (Gi := G) (μi := μ) (a := a) (w := A) ⟨G, μ, Ext.refl _ _ _ _, hW, hF⟩ (fun a' w' h => by
    obtain ⟨G', μ', e, hW', hF'⟩ := h
    have e1 : addD [] a' = a' := by simp [addD]
    rw [e1]
    rw [← hF1] at hQ
    exact hQ G' μ' a' w' (hS2 _ _ _ _ e hW') e.toMono (hF'.pick sl))
  have e1 : addD [] a = a := by simp [addD]
  rw [e1] at this
  exact this

theorem sg_splitL {E : Env} (hcl : CalleeOK P (calleeE P E)) (hP : P.follows .mixedOrders = true) {id s : Nat} {ops : Array Oper} {sl : List Nat} (hsp : splitOk ops s = true)
    (h : runOpsK P E nt ops.toList (ops.toList.take s) F H (fun F H => some (pickF sl F, H)) = some (F', H'))
    {Q : Exit → Act → World → Prop} (hS : Sg Φ G0 G μ H A) (hF : FInv A G μ nt F a) (hQ : ∀ G' μ' a' A', Sg Φ G0 G' μ' H' A' → Mono A G μ A' G' μ' → FInv A' G' μ' nt F' a' → wpListIn Fence.wide n P ops Q (ops.toList.drop s) a' A') :
    (Code.region id ops false).wpIn Fence.wide n P Q a A := sg_split (draw := false) (sl := sl) hcl hP hsp h hS hF hQ
theorem sg_splitD {E : Env} (hcl : CalleeOK P (calleeE P E)) (hP : P.follows .mixedOrders = true) {id s : Nat} {ops : Array Oper} {sl : List Nat} (hsp : splitOk ops s = true)
    (h : regionK P E nt (ops.toList.take s).toArray true F H (fun F H => some (pickF sl F, H)) = some (F', H'))
    {Q : Exit → Act → World → Prop} (hS : Sg Φ G0 G μ H A) (hF : FInv A G μ nt F a) (hQ : ∀ G' μ' a' A', Sg Φ G0 G' μ' H' A' → Mono A G μ A' G' μ' → FInv A' G' μ' nt F' a' → wpListIn Fence.wide n P ops Q (ops.toList.drop s) a' A') :
    (Code.region id ops true).wpIn Fence.wide n P Q a A := sg_split (draw := true) (sl := sl) hcl hP hsp h hS hF hQ

/-- A call of yield while an iterator runs. -/
theorem Sg.yield {ks : List Kd} {l : Nat} {all : List (denK ks)} {J Jx : List (denK ks) → (Nat → Prop) → (Nat → Prop) → World → Prop}
    (hY : ∀ pre e post T X B T' X' A us Gx m', all = pre ++ e :: post → J pre T X B → Stp X B A → (∀ b, T' b → (T b ∨ B.heap.size ≤ b) ∧ b < A.heap.size) → (∀ b, X' b → T' b ∧ (X b ∨ B.heap.size ≤ b)) →
      (∀ b, Gx b → (G0 b ∨ T' b) ∧ ¬ X' b) → VRs A Gx nomap (encA ks e) us →
      YieldAt Fence.wide m' P l us.toArray A fun en C =>
        ((∀ b, b < A.heap.size → G0 b ∨ T' b → C.heap[b]? = A.heap[b]?) ∧ (∀ b n, Room A b n → Room C b n) ∧ A.heap.size ≤ C.heap.size ∧ A.drawn ≤ C.drawn) ∧ ((en = .returned (.bool true) ∧ J (pre ++ [e]) T' X' C) ∨ (en = .returned (.bool false) ∧ Jx (pre ++ [e]) T' X' C)))
    {pre post : List (denK ks)} {e : denK ks} (hall : all = pre ++ e :: post) {us : List Value} (h : Sg (J pre) G0 G μ H A) (hus : VRs A G nomap (encA ks e) us) (m' : Nat) :
    YieldAt Fence.wide m' P l us.toArray A fun en C => Mono A G μ C G μ ∧ ((en = .returned (.bool true) ∧ Sg (J (pre ++ [e])) G0 G μ H C) ∨ (en = .returned (.bool false) ∧ Sg (Jx (pre ++ [e])) G0 G μ H C)) := by
  obtain ⟨T, X, B, GB, μB, h1, h2, h3, h4, h5, h6, h7⟩ := h
  obtain ⟨T', hT'⟩ : ∃ T' : Nat → Prop, T' = fun b => T b ∨ (B.heap.size ≤ b ∧ b < A.heap.size) := ⟨_, rfl⟩
  obtain ⟨X', hX'⟩ : ∃ X' : Nat → Prop, X' = fun b => ∃ r k, H[r]? = some (some k) ∧ k.frozen = false ∧ μ.loc r = some b := ⟨_, rfl⟩
  have hGT : ∀ b, G b → G0 b ∨ T' b := by
    intro b hb
    have hlt := h7.lt b hb
    rw [hT']
    rcases h6.new b hb with h | h | h
    · exact (h4 b h).imp id .inl
    · exact .inr (.inl (h2 b h))
    · exact .inr (.inr ⟨h, hlt⟩)
  have hXT : ∀ b, X' b → T' b ∧ (X b ∨ B.heap.size ≤ b) ∧ ¬ G b := by
    intro b hb
    rw [hX'] at hb
    obtain ⟨r, k, g1, g2, g3⟩ := hb
    obtain ⟨c, q1, _, _, _, q5⟩ := h7.blk r k b g1 g3
    have hlt := h7.loc_lt g1 g3
    rw [hT']
    rcases (q5 g2).1 with h | h
    · exact ⟨.inl (h2 b h), .inl h, (q5 g2).2⟩
    · exact ⟨.inr ⟨h, hlt⟩, .inr h, (q5 g2).2⟩
  have hst : Stp X B A := ⟨fun b hb hx => h6.old b hb (by rintro (h | h); exact hx h; omega), h6.room, h6.os, h6.tape, h6.output, h6.size, h6.drawn⟩
  obtain ⟨fn, tmps, as, body, y1, y2⟩ := hY pre e post T X B T' X' A us G m' hall h1 hst (fun b hb => by
    rw [hT'] at hb
    rcases hb with hb | hb
    · exact ⟨.inl hb, Nat.lt_of_lt_of_le (h3 b hb) h6.size⟩
    · exact ⟨.inr hb.1, hb.2⟩) (fun b hb => ⟨(hXT b hb).1, (hXT b hb).2.1⟩) (fun b hb => ⟨hGT b hb, fun hx => (hXT b hx).2.2 hb⟩) hus
  refine ⟨fn, tmps, as, body, y1, y2.mono ?_⟩
  rintro en C ⟨⟨k1, k2, k3, k4⟩, hout⟩
  have hgood : ∀ b, G b → C.heap[b]? = A.heap[b]? := fun b hb => k1 b (h7.lt b hb) (hGT b hb)
  have hmono : Mono A G μ C G μ := ⟨fun b hb => ⟨hb, hgood b hb⟩, fun _ _ h => h, fun _ _ h => h, k2⟩
  have hTs : ∀ b, T' b → b < C.heap.size := by
    intro b hb
    rw [hT'] at hb
    rcases hb with hb | hb
    · have := h3 b hb; have := h6.size; omega
    · omega
  have hwinv : WInv (fun b => X' b ∨ C.heap.size ≤ b) G μ H C := by
    refine ⟨?_, h7.tags, h7.inj, fun b hb => Nat.lt_of_lt_of_le (h7.lt b hb) k3, h7.top, fun b hb => .inr hb⟩
    intro r k b hr hb
    obtain ⟨c, q1, q2, q3, q4, q5⟩ := h7.blk r k b hr hb
    have hx : k.frozen = false → X' b := fun hf => by rw [hX']; exact ⟨r, k, hr, hf, hb⟩
    have heq : C.heap[b]? = A.heap[b]? := by
      cases hf : k.frozen with
      | true => exact hgood b (q4 hf)
      | false => exact k1 b (h7.loc_lt hr hb) (.inr (hXT b (hx hf)).1)
    exact ⟨c, heq.trans q1, VCells.mono hmono heq 0 _ q2, q3, q4, fun hf => ⟨.inl (hx hf), (q5 hf).2⟩⟩
  have key : ∀ {Ψ : (Nat → Prop) → (Nat → Prop) → World → Prop}, Ψ T' X' C → Sg Ψ G0 G μ H C := fun hψ =>
    ⟨T', X', C, G, μ, hψ, fun b hb => (hXT b hb).1, hTs, hGT, fun b hb => (h6.good b (h5 b hb)).1, Ext.refl _ _ _ _, hwinv⟩
  refine ⟨hmono, ?_⟩
  rcases hout with ⟨rfl, hj⟩ | ⟨rfl, hj⟩
  · exact .inl ⟨rfl, key hj⟩
  · exact .inr ⟨rfl, key hj⟩

variable {ops : Array Oper} {Q : Exit → Act → World → Prop}
/-- The operation calls yield. -/
theorem op_yield {o : Oper} {c : Call} {f : Operand} {rest : List Oper} {l : Nat} {us : Array Value} {R : Ending → World → Prop} (ho : o.op = .call c) (hc : c.callee = .value f) (hw : Region.wanted o (yielded ops a.tmps) = true) (hf : a.eval f = .func (.yield l) #[] #[]) (hargs : c.args.map a.eval = us)
    (hy : ∀ m', YieldAt Fence.wide m' P l us A R) (hR : ∀ en C, R en C → ∃ v, en = .returned v ∧ wpListIn Fence.wide n P ops Q rest (a.put o.dst v) C) : wpListIn Fence.wide n P ops Q (o :: rest) a A := by
  obtain ⟨fn, tmps, as, body, y1, y2⟩ := hy (n - 1)
  unfold wpListIn
  rw [if_pos hw]
  refine ⟨fun _ _ => trivial, ?_⟩
  have hd : ∀ c', o.op ≠ .defer c' := fun c' h => by rw [ho] at h; cases h
  have hs : (o.semAt none a.eval).run P A = .ok (.round l fn tmps as body) A := by
    rw [Oper.semAt_none]
    simp [execOp, ho, resolve, hc, hf, hargs, Deferred.ofValue, Sem.run_bind, Sem.run_pure, Result.andThen_ok, invoke, y1]
  show Oper.uponIn Fence.wide n P o a _ Q ((o.semAt none a.eval).run P A)
  rw [hs]
  refine ⟨fun h => (by cases h), y2.mono ?_⟩
  rintro e C he
  obtain ⟨v, rfl, h⟩ := hR e C he
  exact h
/-- The operation calls a func value. -/
theorem op_enter {o : Oper} {c : Call} {f : Operand} {rest : List Oper} {g : FuncId} {caps us : Array Value} {R : Ending → World → Prop} (ho : o.op = .call c) (hc : c.callee = .value f) (hw : Region.wanted o (yielded ops a.tmps) = true) (hf : a.eval f = .func (.func g) #[] caps) (hargs : c.args.map a.eval ++ caps = us)
    (hen : (callFunc g us).run P A = .ok (.enter g us) A) (hy : ∀ m', CallsIn Fence.wide m' P g us A R) (hR : ∀ en C, R en C → ∃ v, en = .returned v ∧ wpListIn Fence.wide n P ops Q rest (a.put o.dst v) C) : wpListIn Fence.wide n P ops Q (o :: rest) a A := by
  unfold wpListIn
  rw [if_pos hw]
  refine ⟨fun _ _ => trivial, ?_⟩
  have hs : (o.semAt none a.eval).run P A = .ok (.enter g us) A := by
    rw [Oper.semAt_none]
    simp [execOp, ho, resolve, hc, hf, hargs, Deferred.ofValue, Sem.run_bind, Sem.run_pure, Result.andThen_ok, invoke, hen]
  show Oper.uponIn Fence.wide n P o a _ Q ((o.semAt none a.eval).run P A)
  rw [hs]
  refine ⟨fun h => (by cases h), (hy (n - 1)).mono ?_⟩
  rintro e C he
  obtain ⟨v, rfl, h⟩ := hR e C he
  exact h
/-- The operation is skipped. -/
theorem op_skip {o : Oper} {rest : List Oper} (hw : Region.wanted o (yielded ops a.tmps) = false) (h : wpListIn Fence.wide n P ops Q rest (a.put o.dst undef) A) : wpListIn Fence.wide n P ops Q (o :: rest) a A := by
  unfold wpListIn
  rw [if_neg (by rw [hw]; decide)]
  exact ⟨fun _ _ => trivial, h⟩
/-- Further operations of a region, by the plain machine. -/
theorem sg_rest {E : Env} (hcl : CalleeOK P (calleeE P E)) {l : List Oper} {sl : List Nat} (h : runOpsK P E nt ops.toList l F H (fun F H => some (pickF sl F, H)) = some (F', H')) (hnd : (l.all fun o => !isDefer o.op) = true)
    (hS : Sg Φ G0 G μ H A) (hF : FInv A G μ nt F a) (hQ : ∀ G' μ' a' A', Sg Φ G0 G' μ' H' A' → Mono A G μ A' G' μ' → FInv A' G' μ' nt F' a' → Q .normal a' A') : wpListIn Fence.wide n P ops Q l a A := by
  obtain ⟨F1, H1, hrun, h3⟩ := runOpsK_some h
  simp only [Option.some.injEq, Prod.mk.injEq] at h3
  obtain ⟨hF1, rfl⟩ := h3
  obtain ⟨n0, hW, _, hS2⟩ := hS.open_
  have h1 := runOps_sound (Q := fun e a' w' => e = .normal ∧ I n0 A G μ nt F1 H1 a' w') hcl l F H a A hrun ⟨G, μ, Ext.refl _ _ _ _, hW, hF⟩ (fun a' w' h => ⟨rfl, h⟩)
  have h2 := list_in (ro := none) (n := n) (ds := []) (Q' := Q) (fun a w h => by cases h.1) (fun e a' w' h => by
    obtain ⟨rfl, G', μ', e, hW', hF'⟩ := h
    have e1 : addD [] a' = a' := by simp [addD]
    rw [e1]
    rw [← hF1] at hQ
    exact hQ G' μ' a' w' (hS2 _ _ _ _ e hW') e.toMono (hF'.pick sl)) (fun o ho c hc => by
    have := List.all_eq_true.1 hnd o ho
    rw [hc] at this
    cases this) h1
  have e1 : addD [] a = a := by simp [addD]
  rw [e1] at h2
  exact h2
theorem finv_bool {t : Nat} {b : Bool} (hF : FInv A G μ nt F a) (h : fget F t = .lit (.bool b)) : a.eval (.tmp t) = .bool b := by
  have := hF.slot t
  rw [h, VR] at this
  exact this
theorem finv_lit {t : Nat} {v : Value} (hF : FInv A G μ nt F a) (h : fget F t = .lit v) : a.eval (.tmp t) = v := by
  have := hF.slot t
  rw [h, VR] at this
  exact this
theorem args_tmp1 (a : Act) (t : Nat) : (#[Operand.tmp t] : Array Operand).map a.eval = #[a.tmps.getD t undef] := by
  simp only [List.map_toArray, List.map_cons, List.map_nil]
  rfl
theorem wanted_none {o : Oper} {y : Nat → Option Bool} (h : o.guard = none) : Region.wanted o y = true := by
  unfold Region.wanted
  rw [h]
end
end Go.PM
