/- The plain machine, typed data: cells and what is decoded of them. No program. -/
import Derived.Test.YtjgapmocogjkmaaGreatDoorPmT
set_option linter.unusedSimpArgs false
set_option linter.unusedVariables false
namespace Go.PM
open Go Go.RowKit

theorem enc_length : ∀ (t : Ty) (x : t.den), (enc t x).length = t.size
  | .int _, _ => rfl
  | .bool, _ => rfl
  | .str, _ => rfl
  | .list _, _ => rfl
  | .prod a b, (x, y) => by simp only [enc, List.length_append, enc_length a x, enc_length b y, Ty.size]
theorem noRefs_append : ∀ {a b : List PV}, noRef.noRefs a = true → noRef.noRefs b = true → noRef.noRefs (a ++ b) = true
  | [], _, _, h => h
  | p :: a, b, h, k => by
    simp only [List.cons_append, noRef.noRefs, Bool.and_eq_true] at h ⊢
    exact ⟨h.1, noRefs_append h.2 k⟩
theorem enc_noRefs : ∀ (t : Ty) (x : t.den), noRef.noRefs (enc t x) = true
  | .int _, _ => rfl
  | .bool, _ => rfl
  | .str, _ => rfl
  | .list _, _ => rfl
  | .prod a b, (x, y) => noRefs_append (enc_noRefs a x) (enc_noRefs b y)
theorem encAll_cons (t : Ty) (x : t.den) (l : List t.den) : encAll t (x :: l) = enc t x ++ encAll t l := by simp [encAll]
theorem encAll_append (t : Ty) (l m : List t.den) : encAll t (l ++ m) = encAll t l ++ encAll t m := by simp [encAll]
theorem encAll_length (t : Ty) : ∀ l : List t.den, (encAll t l).length = l.length * t.size
  | [] => by simp [encAll]
  | x :: l => by rw [encAll_cons, List.length_append, enc_length, encAll_length t l, List.length_cons, Nat.add_mul]; omega
theorem encAll_noRefs (t : Ty) : ∀ l : List t.den, noRef.noRefs (encAll t l) = true
  | [] => rfl
  | x :: l => by rw [encAll_cons]; exact noRefs_append (enc_noRefs t x) (encAll_noRefs t l)
theorem encAll_drop (t : Ty) : ∀ (i : Nat) (l : List t.den), (encAll t l).drop (i * t.size) = encAll t (l.drop i)
  | 0, l => by simp
  | i + 1, [] => by simp [encAll]
  | i + 1, x :: l => by
    rw [encAll_cons, List.drop_succ_cons, Nat.add_mul, Nat.one_mul, Nat.add_comm, ← List.drop_drop, List.drop_left' (enc_length t x)]
    exact encAll_drop t i l
theorem encAll_take (t : Ty) : ∀ (i : Nat) (l : List t.den), (encAll t l).take (i * t.size) = encAll t (l.take i)
  | 0, l => by simp [encAll]
  | i + 1, [] => by simp [encAll]
  | i + 1, x :: l => by
    rw [encAll_cons, List.take_succ_cons, encAll_cons, List.take_append, enc_length, List.take_of_length_le (by rw [enc_length, Nat.add_mul]; omega)]
    congr 1
    have : (i + 1) * t.size - t.size = i * t.size := by rw [Nat.add_mul]; omega
    rw [this]
    exact encAll_take t i l
theorem encAll_at (t : Ty) {l : List t.den} {i : Nat} (h : i < l.length) (off : Nat) : ∃ rest, (encAll t l).drop (i * t.size + off) = (enc t (l.getD i t.dflt)).drop off ++ rest := by
  have hd : l.drop i = l[i] :: l.drop (i + 1) := List.drop_eq_getElem_cons h
  have hg : l.getD i t.dflt = l[i] := by simp [List.getD_eq_getElem?_getD, h]
  rw [← List.drop_drop, encAll_drop, hd, encAll_cons, hg, List.drop_append]
  exact ⟨_, rfl⟩

section
variable {P : Program} {n0 : Nat → Prop} {w : World} {G : Nat → Prop} {μ : Mp} {H : Heap}

theorem xPart_append {T : TypeId} {a : List PV} {v : PV} (b : List PV) (h : xPart P T a = some v) : xPart P T (a ++ b) = some v := by
  unfold xPart at h ⊢
  split at h
  · rename_i ha
    split at h
    · rename_i n hn
      cases hb : Nat.ble n a.length with
      | false => rw [hb] at h; cases h
      | true =>
        rw [hb] at h
        have hle := Nat.le_of_ble_eq_true hb
        have : Nat.ble n (a ++ b).length = true := Nat.ble_eq_true_of_le (by rw [List.length_append]; omega)
        rw [this, List.take_append_of_le_length hle]
        exact h
    · cases h
  · cases a with
    | nil => cases h
    | cons x a => exact h
  · cases h

theorem tl_vals {t : Ty} {l : List t.den} {cap : Option Nat} {e : PV} {v : Value} (h : VR w G μ (.tl t l cap e) v) : VR w G nomap (.vals (encAll t l) l.length cap) v := by
  rw [VR] at h
  obtain ⟨h1, rfl⟩ := h
  exact h1
theorem tlOf_vr {t : Ty} {l : List t.den} {cap : Option Nat} {v : Value} (h : VR w G nomap (.vals (encAll t l) l.length cap) v) : VR w G μ (tlOf t l cap) v := by
  unfold tlOf
  rw [VR]
  exact ⟨h, rfl⟩
theorem vals_weak {cs : List PV} {n : Nat} {cap : Option Nat} {v : Value} (h : VR w G nomap (.vals cs n cap) v) : VR w G nomap (.vals cs n none) v := by
  rw [VR] at h ⊢
  obtain ⟨ao, c, h1, h2, _, h3⟩ := h
  exact ⟨ao, c, h1, h2, fun k hk => (by cases hk), h3⟩

/-- Cells that lie one behind the other. -/
theorem VCells.of_values {b off : Nat} {ps : List PV} {vs : List Value} (h : VRs w G μ ps vs) (hc : ∀ i (hi : i < vs.length), w.cell? ⟨b, off + i, none⟩ = some vs[i]) : VCells w G μ b off ps :=
  VCells.mk fun i p hp => by
    obtain ⟨v, h1, h2⟩ := h.get hp
    obtain ⟨hlt, rfl⟩ := List.getElem?_eq_some_iff.1 h1
    exact ⟨_, hc i hlt, h2⟩

theorem decMany_vrs {α : Type} {f : List PV → Option α} {g : α → List PV} {sz : Nat} (hf : ∀ cs x vs, f cs = some x → VRs w G μ cs vs → VRs w G nomap (g x) vs) : ∀ {n : Nat} {cs : List PV} {l : List α} {vs : List Value}, decMany f sz n cs = some l → VRs w G μ cs vs → VRs w G nomap (l.flatMap g) vs ∧ l.length = n
  | 0, [], l, vs, h, hv => by
    simp only [decMany, Option.some.injEq] at h
    subst h
    rw [VRs] at hv
    subst hv
    exact ⟨by simp [VRs], rfl⟩
  | 0, _ :: _, l, vs, h, hv => by simp only [decMany] at h; cases h
  | n + 1, cs, l, vs, h, hv => by
    simp only [decMany] at h
    split at h
    · rename_i x hx
      split at h
      · rename_i l' hl
        simp only [Option.some.injEq] at h
        subst h
        have h1 := hf _ x _ hx (hv.take sz)
        obtain ⟨h2, h3⟩ := decMany_vrs hf hl (hv.drop sz)
        refine ⟨?_, by rw [List.length_cons, h3]⟩
        have := h1.append h2
        rw [List.take_append_drop] at this
        simpa using this
      · cases h
    · cases h

theorem cast_tl {a b : Ty} {l : List a.den} {l' : List b.den} (h : castL a b l = some l') (cap : Option Nat) {v : Value} (hv : VR w G nomap (.vals (encAll a l) l.length cap) v) : VR w G nomap (.vals (encAll b l') l'.length cap) v := by
  obtain ⟨rfl, rfl⟩ := castL_some h
  exact hv
theorem vrs_one {p : PV} {vs : List Value} (hv : VRs w G μ [p] vs) : ∃ v, vs = [v] ∧ VR w G μ p v := by
  rw [VRs] at hv
  obtain ⟨v, xs, rfl, h1, h2⟩ := hv
  rw [VRs] at h2
  subst h2
  exact ⟨v, rfl, h1⟩
theorem decInt_some {k : IntKind} {cs : List PV} {n : Int} (h : decInt k cs = some n) : cs = [.lit (.int k n)] := by
  unfold decInt at h
  split at h
  · rename_i d m
    cases hk : kindEq k d with
    | false => rw [hk] at h; cases h
    | true =>
      rw [hk] at h
      simp only [cond_true, Option.some.injEq] at h
      rw [kindEq_eq hk, h]
  · cases h
theorem decBool_some {cs : List PV} {b : Bool} (h : decBool cs = some b) : cs = [.lit (.bool b)] := by
  unfold decBool at h
  split at h
  · simp only [Option.some.injEq] at h; rw [h]
  · cases h
theorem decStr_some {cs : List PV} {b : ByteArray} (h : decStr cs = some b) : cs = [.lit (.string b)] := by
  unfold decStr at h
  split at h
  · simp only [Option.some.injEq] at h; rw [h]
  · cases h
theorem decList_vr {t : Ty} {f : List PV → Option t.den} (hf : ∀ (μ : Mp) cs x vs, f cs = some x → VRs w G μ cs vs → VRs w G nomap (enc t x) vs) {cs : List PV} {l : List t.den} {vs : List Value} (h : decList t f cs = some l) (hv : VRs w G μ cs vs) :
    ∃ v, vs = [v] ∧ VR w G nomap (.vals (encAll t l) l.length none) v := by
  unfold decList at h
  split at h
  · rename_i u l' cap e
    obtain ⟨v, rfl, h1⟩ := vrs_one hv
    exact ⟨v, rfl, vals_weak (cast_tl h cap (tl_vals h1))⟩
  · rename_i n c
    obtain ⟨v, rfl, h1⟩ := vrs_one hv
    cases hn : Nat.beq n 0 with
    | false => rw [hn] at h; cases h
    | true =>
      rw [hn] at h
      simp only [cond_true, Option.some.injEq] at h
      subst h
      have hn := Nat.eq_of_beq_eq_true hn
      subst hn
      rw [VR] at h1
      refine ⟨v, rfl, ?_⟩
      rw [VR]
      exact ⟨none, c, h1, Nat.zero_le _, fun k hk => (by cases hk), .inl rfl⟩
  · rename_i cs n cap
    obtain ⟨v, rfl, h1⟩ := vrs_one hv
    rw [VR] at h1
    obtain ⟨ao, c, rfl, h2, _, h3⟩ := h1
    refine ⟨_, rfl, ?_⟩
    rw [VR]
    rcases h3 with rfl | ⟨b, off, rfl, hg, hc⟩
    · obtain ⟨h4, h5⟩ := decMany_vrs (g := enc t) (fun cs x vs h hv => hf nomap cs x vs h hv) h (vs := []) (by rw [VRs])
      refine ⟨ao, c, by rw [h5], by omega, fun k hk => (by cases hk), .inl ?_⟩
      have := h4.length
      exact List.eq_nil_of_length_eq_zero this
    · obtain ⟨us, h4, h5⟩ := hc.values
      obtain ⟨h6, h7⟩ := decMany_vrs (g := enc t) (fun cs x vs h hv => hf nomap cs x vs h hv) h h4
      exact ⟨_, c, by rw [h7], by omega, fun k hk => (by cases hk), .inr ⟨b, off, rfl, hg, VCells.of_values h6 h5⟩⟩
  · cases h
theorem dec_vr : ∀ (t : Ty) (μ : Mp) (cs : List PV) (x : t.den) (vs : List Value), dec t cs = some x → VRs w G μ cs vs → VRs w G nomap (enc t x) vs
  | .int k, μ, cs, x, vs, h, hv => by
    rw [dec] at h
    rw [decInt_some h] at hv
    exact noRefs_vrs _ _ rfl hv
  | .bool, μ, cs, x, vs, h, hv => by
    rw [dec] at h
    rw [decBool_some h] at hv
    exact noRefs_vrs _ _ rfl hv
  | .str, μ, cs, x, vs, h, hv => by
    rw [dec] at h
    rw [decStr_some h] at hv
    exact noRefs_vrs _ _ rfl hv
  | .list t, μ, cs, x, vs, h, hv => by
    rw [dec] at h
    obtain ⟨v, rfl, h1⟩ := decList_vr (fun μ cs x vs h hv => dec_vr t μ cs x vs h hv) h hv
    simp only [enc]
    rw [VRs]
    exact ⟨_, [], rfl, by rw [VR]; exact ⟨h1, rfl⟩, by rw [VRs]⟩
  | .prod a b, μ, cs, (x, y), vs, h, hv => by
    rw [dec] at h
    split at h
    · rename_i x' hx
      split at h
      · rename_i y' hy
        simp only [Option.some.injEq, Prod.mk.injEq] at h
        obtain ⟨rfl, rfl⟩ := h
        have h1 := dec_vr a μ _ _ _ hx (hv.take a.size)
        have h2 := dec_vr b μ _ _ _ hy (hv.drop a.size)
        have := h1.append h2
        rw [List.take_append_drop] at this
        simpa only [enc] using this
      · cases h
    · cases h
end
end Go.PM
