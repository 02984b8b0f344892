/- Chapter 46, plain law: Symmetries. -/
import Derived.Test.YtjgapmocogjkmaaGreatDoorIsY
import Derived.Test.YtjgapmocogjkmaaGreatDoorIsAB
set_option linter.unusedSimpArgs false
set_option linter.unusedVariables false
namespace Go.PM
open Go Go.RowKit Go.Proofs
set_option maxRecDepth 100000

/-- Behind the comparison of the lists. -/
def tl5 (L : List S4) (a b : Int) : Option (denK [.bool]) :=
  bif eqI (L.length : Int) 0 then none else bif idxOk a L.length then bif eqI (L.length : Int) 0 then none else bif idxOk b L.length then askO (f23 (((L.getD (a.toNat) (0, (0, (0, 0)))).1, ((L.getD (a.toNat) (0, (0, (0, 0)))).2.1, ((L.getD (a.toNat) (0, (0, (0, 0)))).2.2.1, (L.getD (a.toNat) (0, (0, (0, 0)))).2.2.2))), ((L.getD (b.toNat) (0, (0, (0, 0)))).1, ((L.getD (b.toNat) (0, (0, (0, 0)))).2.1, ((L.getD (b.toNat) (0, (0, (0, 0)))).2.2.1, (L.getD (b.toNat) (0, (0, (0, 0)))).2.2.2))), ())) fun y7 =>
            bif !(eqI y7.1.1 (wrapF .i64 ((wrapF .i64 (((L.getD (a.toNat) (0, (0, (0, 0)))).1) * ((L.getD (b.toNat) (0, (0, (0, 0)))).1))) + (wrapF .i64 (((L.getD (a.toNat) (0, (0, (0, 0)))).2.1) * ((L.getD (b.toNat) (0, (0, (0, 0)))).2.2.1))))) && (eqI y7.1.2.1 (wrapF .i64 ((wrapF .i64 (((L.getD (a.toNat) (0, (0, (0, 0)))).1) * ((L.getD (b.toNat) (0, (0, (0, 0)))).2.1))) + (wrapF .i64 (((L.getD (a.toNat) (0, (0, (0, 0)))).2.1) * ((L.getD (b.toNat) (0, (0, (0, 0)))).2.2.2))))) && (eqI y7.1.2.2.1 (wrapF .i64 ((wrapF .i64 (((L.getD (a.toNat) (0, (0, (0, 0)))).2.2.1) * ((L.getD (b.toNat) (0, (0, (0, 0)))).1))) + (wrapF .i64 (((L.getD (a.toNat) (0, (0, (0, 0)))).2.2.2) * ((L.getD (b.toNat) (0, (0, (0, 0)))).2.2.1))))) && (eqI y7.1.2.2.2 (wrapF .i64 ((wrapF .i64 (((L.getD (a.toNat) (0, (0, (0, 0)))).2.2.1) * ((L.getD (b.toNat) (0, (0, (0, 0)))).2.1))) + (wrapF .i64 (((L.getD (a.toNat) (0, (0, (0, 0)))).2.2.2) * ((L.getD (b.toNat) (0, (0, (0, 0)))).2.2.2))))) && true)))) then
              some (false, ())
            else askO (loop5_1 (L, (y7.1.1, (y7.1.2.1, (y7.1.2.2.1, y7.1.2.2.2))), 0, ())) fun z8 =>
            onSum z8 (fun a9 => some (a9.1, ())) fun b10 =>
            some (false, ()) else none else none
def isTr : Option (denK [.bool]) → Bool
  | some (b, ()) => b
  | none => false
theorem isTr_some {x : Option (denK [.bool])} (h : isTr x = true) : x = some (true, ()) := by
  cases x with
  | none => cases h
  | some y =>
    obtain ⟨b, ⟨⟩⟩ := y
    have : b = true := h
    rw [this]
def check5 (L : List S4) (n : Nat) : Bool := (List.range n).all fun i => (List.range n).all fun k => isTr (tl5 L i k)
theorem check4 : check5 turns4 8 = true := by kernel_rfl
theorem check6 : check5 turns6 12 = true := by kernel_rfl
theorem e5_true {L : List S4} {n : Nat} (h : check5 L n = true) {i k : Nat} (hi : i < n) (hk : k < n) : tl5 L i k = some (true, ()) := by
  unfold check5 at h
  have h1 := List.all_eq_true.1 h i (List.mem_range.2 hi)
  exact isTr_some (List.all_eq_true.1 h1 k (List.mem_range.2 hk))
theorem f5_one (x y : Int) : f5 (1, x, y, ()) = tl5 turns4 ((IntKind.wrap .i64 x).tmod (turns4.length : Int)) ((IntKind.wrap .i64 y).tmod (turns4.length : Int)) := by kernel_rfl
theorem f5_two (x y : Int) : f5 (2, x, y, ()) = tl5 turns6 ((IntKind.wrap .i64 x).tmod (turns6.length : Int)) ((IntKind.wrap .i64 y).tmod (turns6.length : Int)) := by kernel_rfl
theorem mod_nat {x : Int} {n : Nat} (h : 0 ≤ x ∧ x ≤ 255) (hn : 0 < n) : (IntKind.wrap .i64 x).tmod (n : Int) = ((x.toNat % n : Nat) : Int) := by
  rw [wrap64' (by omega) (by omega)]
  obtain ⟨m, rfl⟩ := Int.eq_ofNat_of_zero_le h.1
  rfl
theorem f5_true {v x y : Int} (hx : 0 ≤ x ∧ x ≤ 255) (hy : 0 ≤ y ∧ y ≤ 255) : f5 (v, x, y, ()) = some (true, ()) := by
  by_cases h1 : v = 1
  · subst h1
    rw [f5_one, mod_nat (n := turns4.length) hx (by decide), mod_nat (n := turns4.length) hy (by decide)]
    exact e5_true check4 (Nat.mod_lt _ (by decide)) (Nat.mod_lt _ (by decide))
  · by_cases h2 : v = 2
    · subst h2
      rw [f5_two, mod_nat (n := turns6.length) hx (by decide), mod_nat (n := turns6.length) hy (by decide)]
      exact e5_true check6 (Nat.mod_lt _ (by decide)) (Nat.mod_lt _ (by decide))
    · have h22 : f22 (v, ()) = some ([], 12, ()) := by
        unfold f22
        show (bif !(eqI v 1) then bif !(eqI v 2) then some ([], 12, ()) else _ else _) = _
        rw [eqI_eq, eqI_eq, decide_eq_false h1, decide_eq_false h2]; rfl
      have h12 : f12 () = some (true, ()) := rfl
      unfold f5
      show (askO (f12 ()) _) = _
      rw [h12, askO_s]
      show (askO (f22 (v, ())) _) = _
      rw [h22, askO_s]
      show (bif !(eqI v 1) then bif !(eqI v 2) then _ else _ else _) = _
      rw [eqI_eq, eqI_eq, decide_eq_false h1, decide_eq_false h2]; rfl
end Go.PM
