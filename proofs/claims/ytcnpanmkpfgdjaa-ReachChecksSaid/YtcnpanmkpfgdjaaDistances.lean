/- THE WALK of ReachDistances. -/
import Derived.Test.YtcnpanmkpfgdjaaKnown
namespace Go.Proofs.Ytcnpanmkpfgdjaa
open Go.RowKit Go.Sch

/-- Two boxed keys before a call. -/
theorem front2 {w w1 : World} {c d : Array Value} {t s : TypeId} (h : Below ((w.alloc (.cells c t)).alloc (.cells d s)).heap.size ((w.alloc (.cells c t)).alloc (.cells d s)) w1) :
    Below w.heap.size w w1 ∧ Blk w1 w.heap.size c t ∧ Blk w1 (w.heap.size + 1) d s :=
  ⟨(((Below.refl _ _).alloc (Nat.le_refl _) _).alloc (by simp) _).trans (h.mono (by simp; omega)),
    ((Blk.new w _ _).keep (Keeps.alloc _ _ (fun _ => True)) trivial).keep (Keeps.all h (fun _ => True)) trivial,
    (Blk.newAt _ _ (by simp)).keep (Keeps.all h (fun _ => True)) trivial⟩
theorem blk2 {w : World} {g : Nat} {a b : Value} {t : TypeId} (h : Blk w g #[a, b] t) : w.cell? ⟨g, 0, none⟩ = some a ∧ w.cell? ⟨g, 1, none⟩ = some b := ⟨by rw [h.cell]; rfl, by rw [h.cell]; rfl⟩
theorem Blk.next {w w' : World} {g : Nat} {c : Array Value} {t : TypeId} (h : Blk w g c t) (hb : Below w.heap.size w w') : Blk w' g c t := h.keep (Keeps.all hb (fun _ => True)) trivial
theorem Below.next {B : Nat} {w w1 w2 : World} (h : Below B w w1) (hb : Below w1.heap.size w1 w2) (hB : B ≤ w1.heap.size) : Below B w w2 := h.trans (hb.mono hB)
set_option maxRecDepth 100000 in
set_option maxHeartbeats 4000000 in
theorem reachDistances_calls (kind a1 a2 b1 b2 : Int) (w : World) (hw : (Lit.int .i64 a1).wf = true ∧ (Lit.int .i64 a2).wf = true ∧ (Lit.int .i64 b1).wf = true ∧ (Lit.int .i64 b2).wf = true) :
    Calls Try.prog 3 #[.int .i64 kind, .agg #[.int .i64 a1, .int .i64 a2], .agg #[.int .i64 b1, .int .i64 b2]] w fun e w' => e = .returned (.bool true) ∧ Below w.heap.size w w' := by
  have HK := Lib.hid (fun w' => known_calls w')
  have HD := Lib.hid (fun w' => distance_calls kind a1 a2 b1 b2 w' hw)
  have HWa := Lib.hid (fun w' => wrong_calls a1 a2 w')
  have HWb := Lib.hid (fun w' => wrong_calls b1 b2 w')
  clear hw
  by_cases hk : kind ≠ 1 ∧ kind ≠ 2
  · have ER := Lib.hid (show distRes kind (a1, a2) (b1, b2) = (0, 12) by rw [distRes, if_pos hk])
    obtain ⟨k1, k2⟩ := hk
    have k3 : (kind != 1) = true := by simp [k1]
    have k4 : (kind != 2) = true := by simp [k2]
    go_enter Try.func3, Try.ntmps3
    go_wp2_with fail
    refine (HK.out _).mono ?_
    rintro e w1 ⟨rfl, hb1⟩
    obtain ⟨hB, hX, hY⟩ := front2 hb1
    obtain ⟨x1, x2⟩ := blk2 hX
    obtain ⟨y1, y2⟩ := blk2 hY
    have HB := Lib.hid hB
    clear hX hY hB hb1
    go_wp2_with fail
    refine (HD.out _).mono ?_
    rintro e w2 ⟨rfl, hb2⟩
    rw [ER.out]
    have HB2 := Lib.hid (HB.out.trans (hb2.mono HB.out.size))
    clear hb2
    go_wp2
    go_ret
    exact ⟨rfl, HB2.out⟩
  have hk' : kind = 1 ∨ kind = 2 := by omega
  by_cases ha : outK (a1, a2) = true
  · have ER := Lib.hid (show distRes kind (a1, a2) (b1, b2) = (0, 3) by rw [distRes, if_neg hk, if_pos (by rw [ha]; rfl)])
    have HA := Lib.hid ha
    clear hk ha
    rcases hk' with rfl | rfl
    all_goals
      go_enter Try.func3, Try.ntmps3
      go_wp2_with fail
      refine (HK.out _).mono ?_
      rintro e w1 ⟨rfl, hb1⟩
      obtain ⟨hB, hX, hY⟩ := front2 hb1
      obtain ⟨x1, x2⟩ := blk2 hX
      obtain ⟨y1, y2⟩ := blk2 hY
      have HB := Lib.hid hB
      have HX := Lib.hid hX
      have HY := Lib.hid hY
      clear hX hY hB hb1
      go_wp2_with fail
      refine (HD.out _).mono ?_
      rintro e w2 ⟨rfl, hb2⟩
      rw [ER.out]
      have HB2 := Lib.hid (HB.out.trans (hb2.mono HB.out.size))
      obtain ⟨x3, x4⟩ := blk2 (HX.out.keep (Keeps.all hb2 (fun _ => True)) trivial)
      obtain ⟨y3, y4⟩ := blk2 (HY.out.keep (Keeps.all hb2 (fun _ => True)) trivial)
      clear hb2
      go_wp2_with fail
      refine (HWa.out _).mono ?_
      rintro e w3 ⟨rfl, hb3⟩
      rw [HA.out]
      have HB3 := Lib.hid (HB2.out.trans (hb3.mono HB2.out.size))
      clear hb3
      go_wp2
      go_ret
      exact ⟨rfl, HB3.out⟩
  have ha' : outK (a1, a2) = false := by simpa using ha
  by_cases hb : outK (b1, b2) = true
  · have ER := Lib.hid (show distRes kind (a1, a2) (b1, b2) = (0, 3) by rw [distRes, if_neg hk, if_pos (by rw [hb, Bool.or_true])])
    have HA := Lib.hid ha'
    have HC := Lib.hid hb
    clear hk ha ha' hb
    rcases hk' with rfl | rfl
    all_goals
      go_enter Try.func3, Try.ntmps3
      go_wp2_with fail
      refine (HK.out _).mono ?_
      rintro e w1 ⟨rfl, hb1⟩
      obtain ⟨hB, hX, hY⟩ := front2 hb1
      obtain ⟨x1, x2⟩ := blk2 hX
      obtain ⟨y1, y2⟩ := blk2 hY
      have HB := Lib.hid hB
      have HX := Lib.hid hX
      have HY := Lib.hid hY
      clear hX hY hB hb1
      go_wp2_with fail
      refine (HD.out _).mono ?_
      rintro e w2 ⟨rfl, hb2⟩
      rw [ER.out]
      have HB2 := Lib.hid (HB.out.trans (hb2.mono HB.out.size))
      have HX2 := Lib.hid (HX.out.keep (Keeps.all hb2 (fun _ => True)) trivial)
      have HY2 := Lib.hid (HY.out.keep (Keeps.all hb2 (fun _ => True)) trivial)
      obtain ⟨x3, x4⟩ := blk2 HX2.out
      obtain ⟨y3, y4⟩ := blk2 HY2.out
      clear hb2
      go_wp2_with fail
      refine (HWa.out _).mono ?_
      rintro e w3 ⟨rfl, hb3⟩
      rw [HA.out]
      have HB3 := Lib.hid (HB2.out.trans (hb3.mono HB2.out.size))
      obtain ⟨y5, y6⟩ := blk2 (HY2.out.keep (Keeps.all hb3 (fun _ => True)) trivial)
      clear hb3
      go_wp2_with fail
      refine (HWb.out _).mono ?_
      rintro e w4 ⟨rfl, hb4⟩
      rw [HC.out]
      have HB4 := Lib.hid (HB3.out.trans (hb4.mono HB3.out.size))
      clear hb4
      go_wp2
      go_ret
      exact ⟨rfl, HB4.out⟩
  have hb' : outK (b1, b2) = false := by simpa using hb
  have ER := Lib.hid (show distRes kind (a1, a2) (b1, b2) = (pairD (farD kind) (a1, a2) (b1, b2), 0) by rw [distRes, if_neg hk, if_neg (by rw [ha', hb']; decide)])
  have HA := Lib.hid ha'
  have HC := Lib.hid hb'
  have HL := Lib.hid (fun w' => lawDistance_calls kind hk' a1 a2 b1 b2 (outK_in ha') (outK_in hb') w')
  clear hk ha ha' hb hb'
  rcases hk' with rfl | rfl
  all_goals
    go_enter Try.func3, Try.ntmps3
    go_wp2_with fail
    refine (HK.out _).mono ?_
    rintro e w1 ⟨rfl, hb1⟩
    obtain ⟨hB, hX, hY⟩ := front2 hb1
    obtain ⟨x1, x2⟩ := blk2 hX
    obtain ⟨y1, y2⟩ := blk2 hY
    have HB := Lib.hid hB
    have HX := Lib.hid hX
    have HY := Lib.hid hY
    clear hX hY hB hb1
    go_wp2_with fail
    refine (HD.out _).mono ?_
    rintro e w2 ⟨rfl, hb2⟩
    rw [ER.out]
    have HB2 := Lib.hid (HB.out.trans (hb2.mono HB.out.size))
    have HX2 := Lib.hid (HX.out.keep (Keeps.all hb2 (fun _ => True)) trivial)
    have HY2 := Lib.hid (HY.out.keep (Keeps.all hb2 (fun _ => True)) trivial)
    obtain ⟨x3, x4⟩ := blk2 HX2.out
    obtain ⟨y3, y4⟩ := blk2 HY2.out
    clear hb2
    go_wp2_with fail
    refine (HWa.out _).mono ?_
    rintro e w3 ⟨rfl, hb3⟩
    rw [HA.out]
    have HB3 := Lib.hid (HB2.out.trans (hb3.mono HB2.out.size))
    have HX3 := Lib.hid (HX2.out.keep (Keeps.all hb3 (fun _ => True)) trivial)
    have HY3 := Lib.hid (HY2.out.keep (Keeps.all hb3 (fun _ => True)) trivial)
    obtain ⟨y5, y6⟩ := blk2 HY3.out
    clear hb3
    go_wp2_with fail
    refine (HWb.out _).mono ?_
    rintro e w4 ⟨rfl, hb4⟩
    rw [HC.out]
    have HB4 := Lib.hid (HB3.out.trans (hb4.mono HB3.out.size))
    have HX4 := Lib.hid (HX3.out.keep (Keeps.all hb4 (fun _ => True)) trivial)
    have HY4 := Lib.hid (HY3.out.keep (Keeps.all hb4 (fun _ => True)) trivial)
    obtain ⟨x7, x8⟩ := blk2 HX4.out
    obtain ⟨y7, y8⟩ := blk2 HY4.out
    clear hb4
    go_wp2_with fail
    refine (HL.out _).mono ?_
    rintro e w5 ⟨rfl, hb5⟩
    have HB5 := Lib.hid (HB4.out.trans (hb5.mono HB4.out.size))
    clear hb5
    go_wp2
    go_ret
    exact ⟨ret_bool (by simp), HB5.out⟩
end Go.Proofs.Ytcnpanmkpfgdjaa
