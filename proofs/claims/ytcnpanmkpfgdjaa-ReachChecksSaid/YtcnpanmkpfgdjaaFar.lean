/- Contracts of package reach: abs, square, hex, outside, measure, between. -/
import Derived.Test.YtcnpanmkpfgdjaaKeys
namespace Go.Proofs.Ytcnpanmkpfgdjaa
open Go.RowKit Go.Sch

theorem abs_calls (n : Int) (w : World) (h1 : -1000000000000 ≤ n) (h2 : n ≤ 1000000000000) :
    Calls Try.prog 58 #[.int .i64 n] w fun e w' => e = .returned (.int .i64 (n.natAbs : Int)) ∧ w = w' := by
  go_enter Try.func58, Try.ntmps58
  go_wp2
  all_goals (go_ret; exact ⟨ret_int (by omega), rfl⟩)
theorem square_calls (x y : Int) (w : World) (h1 : -10000000000 ≤ x) (h2 : x ≤ 10000000000) (h3 : -10000000000 ≤ y) (h4 : y ≤ 10000000000) :
    Calls Try.prog 51 #[.int .i64 x, .int .i64 y] w fun e w' => e = .returned (.int .i64 ((x.natAbs : Int) + (y.natAbs : Int))) ∧ w = w' := by
  go_enter Try.func51, Try.ntmps51
  go_wp2_with (go_at_call 58; refine (abs_calls _ _ (by omega) (by omega)).mono ?_; rintro e w' ⟨rfl, rfl⟩)
  go_ret
  exact ⟨rfl, rfl⟩
theorem hex_calls (x y : Int) (w : World) (h1 : -10000000000 ≤ x) (h2 : x ≤ 10000000000) (h3 : -10000000000 ≤ y) (h4 : y ≤ 10000000000) :
    Calls Try.prog 50 #[.int .i64 x, .int .i64 y] w fun e w' => e = .returned (.int .i64 (max (max (x.natAbs : Int) (y.natAbs : Int)) ((x + y).natAbs : Int))) ∧ w = w' := by
  go_enter Try.func50, Try.ntmps50
  go_wp2_with (go_at_call 58; refine (abs_calls _ _ (by omega) (by omega)).mono ?_; rintro e w' ⟨rfl, rfl⟩)
  all_goals (go_ret; refine ⟨ret_int ?_, rfl⟩)
  all_goals (first | omega | (split at * <;> omega))
def outB (n : Int) : Bool := decide (1000000 < n) || decide (n < -1000000)
theorem outside_calls (n : Int) (w : World) : Calls Try.prog 49 #[.int .i64 n] w fun e w' => e = .returned (.bool (outB n)) ∧ w = w' := by
  by_cases h1 : 1000000 < n
  · have HR := Lib.hid (show true = outB n by simp [outB, h1])
    go_enter Try.func49, Try.ntmps49
    go_wp2
    go_ret
    exact ⟨ret_bool HR.out, rfl⟩
  · by_cases h2 : n < -1000000
    · have HR := Lib.hid (show true = outB n by simp [outB, h2])
      go_enter Try.func49, Try.ntmps49
      go_wp2
      go_ret
      exact ⟨ret_bool HR.out, rfl⟩
    · have HR := Lib.hid (show false = outB n by simp [outB]; omega)
      go_enter Try.func49, Try.ntmps49
      go_wp2
      go_ret
      exact ⟨ret_bool HR.out, rfl⟩

def outK (k : Int × Int) : Bool := outB k.1 || outB k.2
def farF (kind : Int) : Nat := if kind = 2 then 50 else 51
def measureErr (kind : Int) (l : List (Int × Int)) : Int := if kind ≠ 1 ∧ kind ≠ 2 then 12 else if l.any outK then 3 else 0
def measureOut (kind : Int) (l : List (Int × Int)) : Value := if measureErr kind l = 0 then .func (.func (farF kind)) #[] #[] else .nilFunc
theorem ret_two {a b c d : Value} (h : a = c) (h' : b = d) : Ending.returned (.tuple #[a, b]) = .returned (.tuple #[c, d]) := by rw [h, h']
theorem measure_kind {kind : Int} {l : List (Int × Int)} (h1 : kind ≠ 1) (h2 : kind ≠ 2) : measureErr kind l = 12 ∧ measureOut kind l = .nilFunc := by
  have : measureErr kind l = 12 := by rw [measureErr, if_pos ⟨h1, h2⟩]
  exact ⟨this, by rw [measureOut, this]; rfl⟩
theorem measure_out {kind : Int} {l : List (Int × Int)} (h : kind = 1 ∨ kind = 2) (h' : l.any outK = true) : measureErr kind l = 3 ∧ measureOut kind l = .nilFunc := by
  have : measureErr kind l = 3 := by rw [measureErr, if_neg (by omega), if_pos h']
  exact ⟨this, by rw [measureOut, this]; rfl⟩
theorem measure_good {kind : Int} {l : List (Int × Int)} (h : kind = 1 ∨ kind = 2) (h' : l.any outK = false) : measureErr kind l = 0 ∧ measureOut kind l = .func (.func (farF kind)) #[] #[] := by
  have : measureErr kind l = 0 := by rw [measureErr, if_neg (by omega), if_neg (by simp [h'])]
  exact ⟨this, by rw [measureOut, this]; rfl⟩
set_option maxRecDepth 100000 in
set_option maxHeartbeats 1000000 in
theorem measure_calls {w : World} {ok : Nat → Prop} {v : Value} {l : List (Int × Int)} (h : keysR.R w ok [v] l) (kind : Int) :
    Calls Try.prog 31 #[.int .i64 kind, v] w fun e w' => e = .returned (.tuple #[measureOut kind l, .int .i64 (measureErr kind l)]) ∧ Below w.heap.size w w' := by
  obtain ⟨ao, cap, rfl, h2, h3, -, h4⟩ := keys_cases h
  clear h
  unfold maxLen at h3
  by_cases hkind : kind = 1 ∨ kind = 2
  · rcases h4 with ⟨h4, h5⟩ | ⟨b, off, rfl, -, h0, hc⟩
    · have HR := Lib.hid (measure_good hkind (show l.any outK = false by rw [h4]; rfl))
      rw [h5]
      clear h4 h5 h2
      rcases hkind with rfl | rfl
      all_goals
        go_enter Try.func31, Try.ntmps31
        go_wp2
        refine wp_loop_rounds 1 ?_
        rw [rounds_succ]
        go_wp2
        refine bodyPost_ret (results_tmp2 rfl _ _ _) rfl ?_
        exact ⟨ret_two HR.out.2.symm (by rw [HR.out.1]; rfl), Below.refl _ _⟩
    · have HC := Lib.hid hc
      clear hc
      obtain ⟨n, hn⟩ : ∃ n, n = l.length := ⟨_, rfl⟩
      rw [← hn] at h2 h0 ⊢
      have HN := Lib.hid hn
      clear hn
      rcases hkind with rfl | rfl
      all_goals
        go_enter Try.func31, Try.ntmps31
        go_wp2
        go_loopw [7, 16] (fun _ i wr => ∃ k : Nat, k ≤ n ∧ i = .int .i64 k ∧ Hid (NoneYet (fun j => outK (l[j]?.getD (0, 0))) k) ∧ Hid (Below w.heap.size w wr)) (fun _ i _ => n - (intOf i).toNat)
        case atStart => exact ⟨0, Nat.zero_le _, rfl, NoneYet.zero _, Below.refl _ _⟩
        case round =>
          obtain ⟨k, hk, rfl, hno, hbl⟩ := hrel
          by_cases hlt : k < n
          · have X := HC.out k (by rw [← HN.out]; exact hlt)
            have X0 := (Keeps.all hbl.out (fun _ => True)).cell (a := ⟨b, off + k * 2, none⟩) trivial X.1
            have X1 := (Keeps.all hbl.out (fun _ => True)).cell (a := ⟨b, off + k * 2 + 1, none⟩) trivial X.2
            clear X
            obtain ⟨key, hkey⟩ : ∃ key, key = l[k]?.getD (0, 0) := ⟨_, rfl⟩
            rw [← hkey] at X0 X1
            have HK := Lib.hid hkey
            clear hkey
            cases o1 : outB key.1
            · cases o2 : outB key.2
              · have hno' := hno.succ (show outK (l[k]?.getD (0, 0)) = false by rw [← HK.out, outK, o1, o2]; rfl)
                go_wp2_with (go_at_call 49; refine (outside_calls _ _).mono ?_; rintro e w' ⟨rfl, rfl⟩)
                go_roundw
                case rel => exact ⟨k + 1, by omega, by go_num, hno', hbl.out.alloc hbl.out.size _⟩
                case measure => simp [intOf]; omega
              · have HA := Lib.hid (show l.any outK = true from List.any_eq_true.2 ⟨l[k]'(by rw [← HN.out]; exact hlt), List.getElem_mem _, by
                  have := HK.out
                  rw [List.getElem?_eq_getElem (by rw [← HN.out]; exact hlt)] at this
                  simp only [Option.getD_some] at this
                  rw [← this, outK, o2]; simp⟩)
                have HR := Lib.hid (measure_out (kind := 1) (.inl rfl) HA.out)
                have HR2 := Lib.hid (measure_out (kind := 2) (.inr rfl) HA.out)
                go_wp2_with (go_at_call 49; refine (outside_calls _ _).mono ?_; rintro e w' ⟨rfl, rfl⟩)
                refine bodyPost_ret (results_tmp2 rfl _ _ _) rfl ?_
                first
                  | exact ⟨ret_two HR.out.2.symm (by rw [HR.out.1]; rfl), hbl.out.alloc hbl.out.size _⟩
                  | exact ⟨ret_two HR2.out.2.symm (by rw [HR2.out.1]; rfl), hbl.out.alloc hbl.out.size _⟩
            · have HA := Lib.hid (show l.any outK = true from List.any_eq_true.2 ⟨l[k]'(by rw [← HN.out]; exact hlt), List.getElem_mem _, by
                have := HK.out
                rw [List.getElem?_eq_getElem (by rw [← HN.out]; exact hlt)] at this
                simp only [Option.getD_some] at this
                rw [← this, outK, o1]; simp⟩)
              have HR := Lib.hid (measure_out (kind := 1) (.inl rfl) HA.out)
              have HR2 := Lib.hid (measure_out (kind := 2) (.inr rfl) HA.out)
              go_wp2_with (go_at_call 49; refine (outside_calls _ _).mono ?_; rintro e w' ⟨rfl, rfl⟩)
              refine bodyPost_ret (results_tmp2 rfl _ _ _) rfl ?_
              first
                | exact ⟨ret_two HR.out.2.symm (by rw [HR.out.1]; rfl), hbl.out.alloc hbl.out.size _⟩
                | exact ⟨ret_two HR2.out.2.symm (by rw [HR2.out.1]; rfl), hbl.out.alloc hbl.out.size _⟩
          · have hkn : k = n := by omega
            have HA := Lib.hid (show l.any outK = false by
              rw [List.any_eq_false]
              intro x hx
              obtain ⟨i, hi, rfl⟩ := List.getElem_of_mem hx
              have := hno.out i (by rw [hkn, HN.out]; exact hi)
              simp only [List.getElem?_eq_getElem hi, Option.getD_some] at this
              simp [this])
            have HR := Lib.hid (measure_good (kind := 1) (.inl rfl) HA.out)
            have HR2 := Lib.hid (measure_good (kind := 2) (.inr rfl) HA.out)
            clear hkn
            go_wp2
            refine bodyPost_ret (results_tmp2 rfl _ _ _) rfl ?_
            first
              | exact ⟨ret_two HR.out.2.symm (by rw [HR.out.1]; rfl), hbl.out⟩
              | exact ⟨ret_two HR2.out.2.symm (by rw [HR2.out.1]; rfl), hbl.out⟩
  · have HR := Lib.hid (measure_kind (l := l) (kind := kind) (by omega) (by omega))
    have k1 : (kind != 1) = true := by simp; omega
    have k2 : (kind != 2) = true := by simp; omega
    clear hkind h4
    go_enter Try.func31, Try.ntmps31
    go_wp2
    refine bodyPost_ret (results_tmp2 rfl _ _ _) rfl ?_
    exact ⟨ret_two HR.out.2.symm (by rw [HR.out.1]; rfl), Below.refl _ _⟩
end Go.Proofs.Ytcnpanmkpfgdjaa
