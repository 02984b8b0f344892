/- THE WALK of ReachBalls. -/
import Derived.Test.YtcnpanmkpfgdjaaBalls
namespace Go.Proofs.Ytcnpanmkpfgdjaa
open Go.RowKit Go.Sch

theorem ballErr_kind {kind c1 c2 r : Int} (h1 : kind ≠ 1) (h2 : kind ≠ 2) : ballErr kind (c1, c2) r = 12 := by
  have e : measureErr kind [(c1, c2)] = 12 := by rw [measureErr, if_pos ⟨h1, h2⟩]
  rw [ballErr, if_pos (by rw [e]; decide), e]
theorem ballErr_out {kind c1 c2 r : Int} (h : kind = 1 ∨ kind = 2) (ho : outK (c1, c2) = true) : ballErr kind (c1, c2) r = 3 := by
  have e : measureErr kind [(c1, c2)] = 3 := by rw [measureErr, if_neg (by omega), if_pos (by simp [ho])]
  rw [ballErr, if_pos (by rw [e]; decide), e]
theorem measure_in {kind c1 c2 : Int} (h : kind = 1 ∨ kind = 2) (ho : outK (c1, c2) = false) : measureErr kind [(c1, c2)] = 0 := by
  rw [measureErr, if_neg (by omega), if_neg (by simp [ho])]
theorem ballErr_range {kind c1 c2 r : Int} (h : kind = 1 ∨ kind = 2) (ho : outK (c1, c2) = false) (hr : r < 0 ∨ 100 < r) : ballErr kind (c1, c2) r = 3 := by
  rw [ballErr, if_neg (by rw [measure_in h ho]; decide), if_pos hr]

set_option maxRecDepth 100000 in
set_option maxHeartbeats 4000000 in
theorem reachBalls_bad (kind c1 c2 r : Int) (hw : (Lit.int .i64 c1).wf = true ∧ (Lit.int .i64 c2).wf = true) (hr : r < 0 ∨ 12 < r ∨ (kind ≠ 1 ∧ kind ≠ 2) ∨ outK (c1, c2) = true) (w : World) :
    Calls Try.prog 6 #[.int .i64 kind, .agg #[.int .i64 c1, .int .i64 c2], .int .i64 r] w fun e w' => e = .returned (.bool true) ∧ Below w.heap.size w w' := by
  have HK := Lib.hid (fun w' => known_calls w')
  have HW := Lib.hid (fun w' => wrong_calls c1 c2 w')
  have HB := Lib.hid (fun (he : ballErr kind (c1, c2) r ≠ 0) w' => ball_bad kind c1 c2 r hw he w')
  clear hw
  by_cases hA : 12 < r ∧ r ≤ 100
  · obtain ⟨a1, a2⟩ := hA
    clear hr
    go_enter Try.func6, Try.ntmps6
    go_wp2_with fail
    refine (HK.out _).mono ?_
    rintro e w1 ⟨rfl, hb1⟩
    have HB1 := Lib.hid (front1 hb1).1
    clear hb1
    go_wp2_with fail
    refine (HK.out _).mono ?_
    rintro e w2 ⟨rfl, hb2⟩
    have HB2 := Lib.hid (HB1.out.trans (hb2.mono HB1.out.size))
    clear hb2
    go_wp2
    go_ret
    exact ⟨rfl, HB2.out⟩
  have hs : ¬ 12 < r ∨ (12 < r ∧ ¬ r ≤ 100) := by omega
  clear hA
  by_cases hk : kind ≠ 1 ∧ kind ≠ 2
  · obtain ⟨k1, k2⟩ := hk
    have k3 : (kind != 1) = true := by simp [k1]
    have k4 : (kind != 2) = true := by simp [k2]
    have HE := Lib.hid (ballErr_kind (c1 := c1) (c2 := c2) (r := r) k1 k2)
    have HBA := Lib.hid (HB.out (by rw [HE.out]; decide))
    clear hr HB HW
    rcases hs with hs | ⟨hs1, hs2⟩
    all_goals
      go_enter Try.func6, Try.ntmps6
      go_wp2_with fail
      refine (HK.out _).mono ?_
      rintro e w1 ⟨rfl, hb1⟩
      obtain ⟨hB, hX⟩ := front1 hb1
      obtain ⟨x1, x2⟩ := blk2 hX
      have HB1 := Lib.hid hB
      have HX1 := Lib.hid hX
      clear hB hX hb1
      go_wp2_with fail
      refine (HBA.out _).mono ?_
      rintro e w2 ⟨rfl, hb2⟩
      rw [HE.out]
      have HB2 := Lib.hid (HB1.out.trans (hb2.mono HB1.out.size))
      have hX2 := HX1.out.keep (Keeps.all hb2 (fun _ => True)) trivial
      obtain ⟨x3, x4⟩ := blk2 hX2
      clear hb2 hX2
      go_wp2
      go_ret
      exact ⟨rfl, HB2.out⟩
  have hk' : kind = 1 ∨ kind = 2 := by omega
  by_cases ho : outK (c1, c2) = true
  · have HE := Lib.hid (ballErr_out (r := r) hk' ho)
    have HBA := Lib.hid (HB.out (by rw [HE.out]; decide))
    have HO := Lib.hid ho
    clear hr HB hk ho
    rcases hk' with rfl | rfl
    all_goals
      rcases hs with hs | ⟨hs1, hs2⟩
      all_goals
        go_enter Try.func6, Try.ntmps6
        go_wp2_with fail
        refine (HK.out _).mono ?_
        rintro e w1 ⟨rfl, hb1⟩
        obtain ⟨hB, hX⟩ := front1 hb1
        obtain ⟨x1, x2⟩ := blk2 hX
        have HB1 := Lib.hid hB
        have HX1 := Lib.hid hX
        clear hB hX hb1
        go_wp2_with fail
        refine (HBA.out _).mono ?_
        rintro e w2 ⟨rfl, hb2⟩
        rw [HE.out]
        have HB2 := Lib.hid (HB1.out.trans (hb2.mono HB1.out.size))
        have hX2 := HX1.out.keep (Keeps.all hb2 (fun _ => True)) trivial
        obtain ⟨x3, x4⟩ := blk2 hX2
        clear hb2 hX2
        go_wp2_with fail
        refine (HW.out _).mono ?_
        rintro e w3 ⟨rfl, hb3⟩
        rw [HO.out]
        have HB3 := Lib.hid (HB2.out.trans (hb3.mono HB2.out.size))
        clear hb3
        go_wp2
        go_ret
        exact ⟨rfl, HB3.out⟩
  have ho' : outK (c1, c2) = false := by simpa using ho
  have hr2 : (r < 0 ∧ ¬ 12 < r) ∨ (12 < r ∧ ¬ r ≤ 100 ∧ ¬ r < 0 ∧ 100 < r) := by
    rcases hr with h | h | h | h
    · omega
    · omega
    · omega
    · exact absurd h ho
  have HE := Lib.hid (ballErr_range (c1 := c1) (c2 := c2) (r := r) hk' ho' (by omega))
  have HBA := Lib.hid (HB.out (by rw [HE.out]; decide))
  have HO := Lib.hid ho'
  clear hr HB hk ho ho' hs
  rcases hk' with rfl | rfl
  all_goals
    rcases hr2 with ⟨r1, r2⟩ | ⟨r1, r2, r3, r4⟩
    all_goals
      go_enter Try.func6, Try.ntmps6
      go_wp2_with fail
      refine (HK.out _).mono ?_
      rintro e w1 ⟨rfl, hb1⟩
      obtain ⟨hB, hX⟩ := front1 hb1
      obtain ⟨x1, x2⟩ := blk2 hX
      have HB1 := Lib.hid hB
      have HX1 := Lib.hid hX
      clear hB hX hb1
      go_wp2_with fail
      refine (HBA.out _).mono ?_
      rintro e w2 ⟨rfl, hb2⟩
      rw [HE.out]
      have HB2 := Lib.hid (HB1.out.trans (hb2.mono HB1.out.size))
      have hX2 := HX1.out.keep (Keeps.all hb2 (fun _ => True)) trivial
      obtain ⟨x3, x4⟩ := blk2 hX2
      clear hb2 hX2
      go_wp2_with fail
      refine (HW.out _).mono ?_
      rintro e w3 ⟨rfl, hb3⟩
      rw [HO.out]
      have HB3 := Lib.hid (HB2.out.trans (hb3.mono HB2.out.size))
      clear hb3
      go_wp2
      go_ret
      exact ⟨rfl, HB3.out⟩
end Go.Proofs.Ytcnpanmkpfgdjaa
