/- Contracts of row.CheckAll and row.Equal. -/
import Derived.Test.YtcnpanmkpfgdjaaRow
namespace Go.Proofs.Ytcnpanmkpfgdjaa
open Go.RowKit Go.Sch

abbrev rowR : Rep (List Int) := sliceR (intR .i64)
abbrev rowsR : Rep (List (List Int)) := sliceR rowR

/-- The first error of rows of one length. -/
def rowsCheck : List (List Int) → Int → Int
  | [], _ => 0
  | r :: l, n => if rowCheck r ≠ 0 then rowCheck r else if (r.length : Int) ≠ n then 5 else rowsCheck l n
/-- What is found from index k on. -/
theorem rowsCheck_drop {l : List (List Int)} {n : Int} {k : Nat} (hk : k < l.length) :
    rowsCheck (l.drop k) n = if rowCheck l[k] ≠ 0 then rowCheck l[k] else if (l[k].length : Int) ≠ n then 5 else rowsCheck (l.drop (k+1)) n := by
  rw [List.drop_eq_getElem_cons hk, rowsCheck]

set_option maxHeartbeats 400000 in
theorem checkAll_calls {w : World} {ok : Nat → Prop} {v : Value} {l : List (List Int)} (h : rowsR.R w ok [v] l) (n : Int) :
    Calls Try.prog 48 #[v, .int .i64 n] w fun e w' => e = .returned (.int .i64 (rowsCheck l n)) ∧ w = w' := by
  obtain ⟨ao, cap, rfl, h2, h3, h4⟩ := slice1_cases rfl h
  clear h
  unfold maxLen at h3
  rcases h4 with ⟨h4, h5⟩ | ⟨b, off, c, rfl, _, h0, hc⟩
  · rw [h5]
    have HR := Lib.hid (show (0 : Int) = rowsCheck l n by rw [h4]; rfl)
    clear h4 h5 h2
    go_enter Try.func48, Try.ntmps48
    go_wp2
    refine wp_loop_rounds 1 ?_
    rw [rounds_succ]
    go_wp2
    go_ret
    exact ⟨ret_int HR.out, rfl⟩
  · have HC := Lib.hid hc
    clear hc
    obtain ⟨N, hN⟩ : ∃ N, N = l.length := ⟨_, rfl⟩
    rw [← hN] at h2 h0 ⊢
    have HN := Lib.hid hN
    clear hN
    go_enter Try.func48, Try.ntmps48
    go_wp2
    go_loop [6, 7, 10] (fun _ _ i => ∃ k : Nat, k ≤ N ∧ i = .int .i64 k ∧ Hid (rowsCheck l n = rowsCheck (l.drop k) n)) (fun _ _ i => N - (intOf i).toNat)
    case atStart => exact ⟨0, Nat.zero_le _, rfl, Lib.hid rfl⟩
    case round =>
      obtain ⟨k, hk, rfl, hr⟩ := hrel
      by_cases hlt : k < N
      · have hkl : k < l.length := by rw [← HN.out]; exact hlt
        have hcell := (HC.out k hkl).1
        have hrow := (HC.out k hkl).2
        have HRC := Lib.hid (rowCheck_calls hrow)
        obtain ⟨ao2, cap2, hv2, h22, h23, -, -⟩ := ints_cases hrow
        clear hrow
        unfold maxLen at h23
        rw [hv2] at hcell HRC
        clear hv2
        have HD := Lib.hid (hr.out.trans (rowsCheck_drop hkl))
        clear hr
        obtain ⟨r, hr⟩ : ∃ r, r = l[k] := ⟨_, rfl⟩
        rw [← hr] at hcell HRC HD h22
        clear hr
        by_cases hz : rowCheck r = 0
        · have HZ := Lib.hid hz
          clear hz
          by_cases hn : (r.length : Int) = n
          · have hn' : ((r.length : Int) != n) = false := by simp [hn]
            have HN2 := Lib.hid hn
            clear hn
            go_wp2_with (go_at_call 43; refine HRC.out.mono ?_; rintro e w' ⟨rfl, rfl⟩; rw [HZ.out])
            go_round
            case rel => exact ⟨k + 1, by omega, by go_num, Lib.hid (by rw [HD.out, if_neg (by simp [HZ.out]), if_neg (by simp [HN2.out])])⟩
            case measure => simp [intOf]; omega
          · have hn' : ((r.length : Int) != n) = true := by simp [hn]
            have HN2 := Lib.hid hn
            clear hn
            go_wp2_with (go_at_call 43; refine HRC.out.mono ?_; rintro e w' ⟨rfl, rfl⟩; rw [HZ.out])
            go_ret
            exact ⟨ret_int (by rw [HD.out, if_neg (by simp [HZ.out]), if_pos HN2.out]), rfl⟩
        · have hz' : (rowCheck r != 0) = true := by simp [hz]
          have HZ := Lib.hid hz
          clear hz
          go_wp2_with (go_at_call 43; refine HRC.out.mono ?_; rintro e w' ⟨rfl, rfl⟩)
          go_ret
          exact ⟨ret_int (by rw [HD.out, if_pos HZ.out]), rfl⟩
      · have : k = N := by omega
        subst this
        have HE := Lib.hid (show (0 : Int) = rowsCheck l n by rw [hr.out, HN.out, List.drop_length]; rfl)
        clear hr
        go_wp2
        go_ret
        exact ⟨ret_int HE.out, rfl⟩

theorem eq_drop {a b : List Int} (hl : a.length = b.length) {k : Nat} (hk : k < a.length) :
    decide (a.drop k = b.drop k) = (decide (a[k]?.getD 0 = b[k]?.getD 0) && decide (a.drop (k+1) = b.drop (k+1))) := by
  rw [List.drop_eq_getElem_cons hk, List.drop_eq_getElem_cons (by omega : k < b.length), List.getElem?_eq_getElem hk, List.getElem?_eq_getElem (by omega : k < b.length)]
  simp only [Option.getD_some, List.cons.injEq, Bool.decide_and]
set_option maxHeartbeats 400000 in
theorem slicesEqual_calls {w : World} {ok ok' : Nat → Prop} {v u : Value} {a b : List Int} (ha : rowR.R w ok [v] a) (hb : rowR.R w ok' [u] b) :
    Calls Try.prog 44 #[v, u] w fun e w' => e = .returned (.bool (decide (a = b))) ∧ ∃ n, w' = w.drewN n := by
  obtain ⟨ao, cap, rfl, h2, h3, _, h4⟩ := ints_cases ha
  obtain ⟨ao', cap', rfl, h2', h3', _, h4'⟩ := ints_cases hb
  clear ha hb
  unfold maxLen at h3 h3'
  by_cases hl : a.length = b.length
  · rcases h4 with ⟨h4, h5⟩ | ⟨b1, off, rfl, _, h0, hc⟩
    · have hb0 : b = [] := List.eq_nil_of_length_eq_zero (by omega)
      have HR := Lib.hid (show true = decide (a = b) by rw [h4, hb0]; rfl)
      have e1 : a.length = 0 := h5
      have e2 : b.length = 0 := by omega
      rw [e1, e2]
      clear h4 h5 h4' hb0 e1 e2 hl h2 h2'
      go_enter Try.func44, Try.ntmps44
      go_wp2
      refine wp_loop_rounds 1 ?_
      rw [rounds_succ]
      go_wp2
      go_ret
      exact ⟨ret_bool HR.out, 0, rfl⟩
    · rcases h4' with ⟨h4', h5'⟩ | ⟨b2, off2, rfl, _, h0', hc'⟩
      · omega
      · have HL := Lib.hid hl
        rw [← hl]
        obtain ⟨N, hN⟩ : ∃ N, N = a.length := ⟨_, rfl⟩
        rw [← hN] at h2 h0 hc ⊢
        rw [← hl, ← hN] at hc' h2'
        have HN := Lib.hid hN
        clear hN hl h0'
        have HC := Lib.hid hc
        have HC' := Lib.hid hc'
        clear hc hc'
        go_enter Try.func44, Try.ntmps44
        go_wp2
        go_loopw [5, 13] (fun _ i wr => ∃ k : Nat, k ≤ N ∧ i = .int .i64 k ∧ Hid (decide (a = b) = decide (a.drop k = b.drop k)) ∧ ∃ q, Hid (wr = w.drewN q)) (fun _ i _ => N - (intOf i).toNat)
        case atStart => exact ⟨0, Nat.zero_le _, rfl, Lib.hid rfl, 0, Lib.hid rfl⟩
        case round =>
          obtain ⟨k, hk, rfl, hr, q, hq⟩ := hrel
          have hq' := hq.out
          subst hq'
          by_cases hlt : k < N
          · have hc1 := HC.out k hlt
            have hc2 := HC'.out k hlt
            have i1 : (0 : Int) ≤ (k : Int) ∧ (k : Int) < (N : Int) := by omega
            have HD := Lib.hid (hr.out.trans (eq_drop HL.out (by rw [← HN.out]; exact hlt)))
            clear hr
            cases he : (a[k]?.getD 0 == b[k]?.getD 0)
            · have he' : (a[k]?.getD 0 != b[k]?.getD 0) = true := by simp only [bne, he]; rfl
              have HE := Lib.hid he
              clear he
              go_wp2
              go_quiet (fail)
              go_wp2
              go_ret
              refine ⟨ret_bool ?_, _, World.drewN_drewN _ _ _⟩
              have := HE.out
              rw [HD.out]
              simp only [beq_eq_false_iff_ne] at this
              simp [this]
            · have he' : (a[k]?.getD 0 != b[k]?.getD 0) = false := by simp only [bne, he]; rfl
              have HE := Lib.hid he
              clear he
              go_wp2
              go_quiet (fail)
              go_wp2
              go_roundw
              case rel => exact ⟨k + 1, by omega, by go_num, Lib.hid (by have := HE.out; rw [HD.out]; simp only [beq_iff_eq] at this; simp [this]), _, Lib.hid rfl⟩
              case measure => simp [intOf]; omega
          · have : k = N := by omega
            subst this
            have HE := Lib.hid (show true = decide (a = b) by rw [hr.out, HN.out, List.drop_length, HL.out, List.drop_length]; rfl)
            clear hr
            go_wp2
            go_ret
            exact ⟨ret_bool HE.out, _, rfl⟩
  · have HR := Lib.hid (show false = decide (a = b) by rw [eq_comm, decide_eq_false_iff_not]; intro e; exact hl (by rw [e]))
    have hl' : ((a.length : Int) != (b.length : Int)) = true := by simp; omega
    have HL := Lib.hid hl
    clear h4 h4' hl
    go_enter Try.func44, Try.ntmps44
    go_wp2
    go_ret
    exact ⟨ret_bool HR.out, 0, rfl⟩
theorem rowEqual_calls {w : World} {ok ok' : Nat → Prop} {v u : Value} {a b : List Int} (ha : rowR.R w ok [v] a) (hb : rowR.R w ok' [u] b) :
    Calls Try.prog 19 #[v, u] w fun e w' => e = .returned (.bool (decide (a = b))) ∧ ∃ n, w' = w.drewN n := by
  have H := Lib.hid (slicesEqual_calls ha hb)
  clear ha hb
  go_enter Try.func19, Try.ntmps19
  go_wp2_with (go_at_call 44; refine H.out.mono ?_; rintro e w' ⟨rfl, n, rfl⟩)
  go_ret
  exact ⟨rfl, _, rfl⟩
end Go.Proofs.Ytcnpanmkpfgdjaa
