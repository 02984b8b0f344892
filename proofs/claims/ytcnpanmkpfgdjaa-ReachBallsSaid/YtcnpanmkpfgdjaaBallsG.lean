/- THE WALK of ReachBalls: a right kind, key and radius. -/
import Derived.Test.YtcnpanmkpfgdjaaBalls
namespace Go.Proofs.Ytcnpanmkpfgdjaa
open Go.RowKit Go.Sch

theorem outK_bd {c1 c2 : Int} (ho : outK (c1, c2) = false) : (-1000000 ≤ c1 ∧ c1 ≤ 1000000) ∧ (-1000000 ≤ c2 ∧ c2 ≤ 1000000) := by
  simp only [outK, Bool.or_eq_false_iff] at ho
  exact ⟨outB_in ho.1, outB_in ho.2⟩
theorem sq_bd {m : Nat} (hm : m ≤ 12) (c : Int) (h0 : 0 ≤ c) (h1 : c ≤ 3) : 0 ≤ c * (m : Int) * (m : Int) ∧ c * (m : Int) * (m : Int) ≤ 432 := by
  have e : c = 0 ∨ c = 1 ∨ c = 2 ∨ c = 3 := by omega
  have key : ∀ m : Fin 13, (m.1 : Int) * m.1 ≤ 144 ∧ 0 ≤ (m.1 : Int) * m.1 := by decide
  have := key ⟨m, by omega⟩
  dsimp only at this
  obtain ⟨a, b⟩ := this
  rw [Int.mul_assoc]
  generalize (m : Int) * m = q at a b
  rcases e with rfl | rfl | rfl | rfl <;> omega
theorem pairD_ball (kind c1 c2 x y : Int) : pairD (farD kind) (c1, c2) (c1 + x, c2 + y) = farD kind x y := by
  simp only [pairD]
  rw [show c1 + x - c1 = x by omega, show c2 + y - c2 = y by omega]
set_option maxRecDepth 100000 in
set_option maxHeartbeats 4000000 in
theorem reachBalls_good (kind c1 c2 : Int) (hk : kind = 1 ∨ kind = 2) (m : Nat) (hm : m ≤ 12) (ho : outK (c1, c2) = false) (w : World) :
    Calls Try.prog 6 #[.int .i64 kind, .agg #[.int .i64 c1, .int .i64 c2], .int .i64 m] w fun e w' => e = .returned (.bool true) ∧ Below w.heap.size w w' := by
  have HK := Lib.hid (fun w' => known_calls w')
  have HW := Lib.hid (fun w' => wrong_calls c1 c2 w')
  have HB := Lib.hid (fun w' => ball_good kind c1 c2 m hm (by rw [measureErr, if_neg (by omega), if_neg (by simp [ho])]) w')
  obtain ⟨hc1, hc2⟩ := outK_bd ho
  have HL := Lib.hid (fun x y hx hy w' => lawDistance_calls kind hk c1 c2 (c1 + x) (c2 + y) (outK_in ho) (by simp only [keyIn]; omega) w' : ∀ x y : Int, (-12 ≤ x ∧ x ≤ 12) → (-12 ≤ y ∧ y ≤ 12) → ∀ w' : World, _)
  have HO := Lib.hid ho
  have HCNT : Hid (((ballOf (farD kind) c1 c2 m).length : Int) = if kind = 2 then 3 * (m : Int) * (m : Int) + 3 * (m : Int) + 1 else 2 * (m : Int) * (m : Int) + 2 * (m : Int) + 1) := by
    refine Lib.hid ?_
    rw [ball_length]
    rcases hk with rfl | rfl
    · exact ball_one ⟨m, by omega⟩
    · exact ball_two ⟨m, by omega⟩
  have HWF := Lib.hid (ball_wf (D := farD kind) hm hc1 hc2)
  obtain ⟨s1, s2⟩ := sq_bd hm 2 (by decide) (by decide)
  obtain ⟨s3, s4⟩ := sq_bd hm 3 (by decide) (by decide)
  obtain ⟨D, hD⟩ : ∃ D, D = farD kind := ⟨_, rfl⟩
  rw [← hD] at HB HCNT HWF
  have HPD := Lib.hid (fun x y => by rw [pairD_ball, ← hD] : ∀ x y : Int, pairD (farD kind) (c1, c2) (c1 + x, c2 + y) = D x y)
  clear hD ho
  obtain ⟨i0, hi, hz0, hz1, hz2⟩ := info_parts Try.info_key
  have HI := Lib.hid (And.intro hi (And.intro hz0 (And.intro hz1 hz2)))
  clear hi hz0 hz1 hz2
  rcases hk with rfl | rfl
  all_goals
    go_enter Try.func6, Try.ntmps6
    go_wp2_with fail
    refine (HK.out _).mono ?_
    rintro e w1 ⟨rfl, hb1⟩
    obtain ⟨hB, hX⟩ := front1 hb1
    obtain ⟨x1, x2⟩ := blk2 hX
    have HB1 := Lib.hid hB
    have HX1 := Lib.hid hX
    clear hB hX hb1
    go_wp2_with fail
    refine (HB.out _).mono ?_
    rintro e w2 ⟨u, rfl, hu, hb2⟩
    obtain ⟨au, cu, rfl⟩ := own_shape hu
    have HU := Lib.hid (keys_of_own (ok := fun _ => True) hu (fun _ _ => trivial) HWF.out)
    have HB2 := Lib.hid (HB1.out.trans (hb2.mono HB1.out.size))
    have HX2 := Lib.hid (HX1.out.keep (Keeps.all hb2 (fun _ => True)) trivial)
    obtain ⟨x3, x4⟩ := blk2 HX2.out
    clear hb2 hu
    obtain ⟨BL, hBL⟩ : ∃ BL, BL = (ballOf D c1 c2 m).length := ⟨_, rfl⟩
    rw [← hBL]
    rw [← hBL] at HU HCNT
    have HBL := Lib.hid hBL
    clear hBL
    go_wp2_with fail
    refine (HW.out _).mono ?_
    rintro e w3 ⟨rfl, hb3⟩
    rw [HO.out]
    have HB3 := Lib.hid (HB2.out.trans (hb3.mono HB2.out.size))
    have HU3 := Lib.hid (keysR.keep HU.out (Keeps.all hb3 (fun _ => True)))
    have HX3 := Lib.hid (HX2.out.keep (Keeps.all hb3 (fun _ => True)) trivial)
    have hsz : w.heap.size < w3.heap.size := HX3.out.lt
    clear hb3
    have hm1 : ¬ (m : Int) < 0 := by omega
    have hm2 : ¬ (100 : Int) < (m : Int) := by omega
    go_wp2_with fail
    go_loopw [9, 10, 11, 12] (fun u y _ _ wr => ∃ j : Nat, j ≤ 2 * m + 1 ∧ y = .int .i64 ((j : Int) - m) ∧ Hid (wr.ownsRow w3.heap.size 23 2 u (gAll (ballF D c1 c2 m) m (2 * m + 1) j).length ((gAll (ballF D c1 c2 m) m (2 * m + 1) j).flatMap keyC)) ∧ Hid (Keeps (· < w3.heap.size) w3 wr) ∧ Hid (Below w.heap.size w wr)) (fun _ y _ _ _ => (m + 1 - intOf y).toNat)
    case atStart => exact ⟨0, Nat.zero_le _, by simp, World.ownsRow_nil _ _ _ _, Keeps.refl _ _, HB3⟩
    case round =>
      obtain ⟨j, hj, rfl, hown, hkp, hbl⟩ := hrel
      by_cases hlt : j < 2 * m + 1
      · have hdj : decide ((j : Int) - m ≤ m) = true := by simp; omega
        go_wp2_with fail
        obtain ⟨wo, hwo⟩ : ∃ wo : World, wo = wr := ⟨_, rfl⟩
        subst hwo
        go_loopw [9, 11, 12] (fun u x _ wr => ∃ i : Nat, i ≤ 2 * m + 1 ∧ x = .int .i64 ((i : Int) - m) ∧ Hid (wr.ownsRow w3.heap.size 23 2 u (gAll (ballF D c1 c2 m) m (2 * m + 1) j ++ gLine (ballF D c1 c2 m) m ((j : Int) - m) i).length ((gAll (ballF D c1 c2 m) m (2 * m + 1) j ++ gLine (ballF D c1 c2 m) m ((j : Int) - m) i).flatMap keyC)) ∧ Hid (Keeps (· < w3.heap.size) w3 wr) ∧ Hid (Below w.heap.size w wr)) (fun _ x _ _ => (m + 1 - intOf x).toNat)
        case atStart => exact ⟨0, Nat.zero_le _, by simp, by simpa [gLine] using hown, hkp, hbl⟩
        case round =>
          obtain ⟨i, hi, rfl, hown, hkp, hbl⟩ := hrel
          obtain ⟨LL, hLL⟩ : ∃ LL, LL = gAll (ballF D c1 c2 m) m (2 * m + 1) j ++ gLine (ballF D c1 c2 m) m ((j : Int) - m) i := ⟨_, rfl⟩
          rw [← hLL] at hown
          have HLL := Lib.hid hLL
          clear hLL
          by_cases hli : i < 2 * m + 1
          · have D1 := HX3.out.keep hkp.out (by omega)
            obtain ⟨X0, X1⟩ := blk2 D1
            have hszr : w.heap.size < wr.heap.size := D1.lt
            have hs3 : w3.heap.size ≤ wr.heap.size := by
              by_cases h : w3.heap.size ≤ wr.heap.size
              · exact h
              · have := hkp.out.size (b := wr.heap.size) (by omega) (by omega)
                omega
            have hlen := gAll_len (ballF_len D c1 c2 m) m (2 * m + 1) j
            have hlen2 := gLine_len (ballF_len D c1 c2 m) m ((j : Int) - m) i
            have hbd : (LL.length + 1) * 16 ≤ 140737488355328 := by
              rw [HLL.out, List.length_append]
              have : j * (2 * m + 1) ≤ 25 * 25 := Nat.mul_le_mul (by omega) (by omega)
              omega
            have HBD := Lib.hid hbd
            clear D1 hbd hlen hlen2
            have HCL := Lib.hid (HL.out ((i : Int) - m) ((j : Int) - m) (by omega) (by omega))
            rw [HPD.out] at HCL
            by_cases hq : D ((i : Int) - m) ((j : Int) - m) ≤ m
            · have hq' : decide (D ((i : Int) - m) ((j : Int) - m) ≤ m) = true := by simp [hq]
              have HQ := Lib.hid hq
              clear hq
              go_wp2_with fail
              refine (HCL.out _).mono ?_
              rintro e w4 ⟨rfl, hb4⟩
              obtain ⟨hB4, hX4⟩ := front1 hb4
              obtain ⟨y1, y2⟩ := blk2 hX4
              have HB4 := Lib.hid hB4
              have hlt4 : wr.heap.size < w4.heap.size := hX4.lt
              clear hb4 hX4 hB4
              go_wp2_with ((with_reducible refine wpList_append_one (o := ⟨some 96, _, _, _, _, _⟩) ?_ (.tmp 93) (.tmp 95) 31 ?_ w3.heap.size 23 (.agg #[.int .i64 0, .int .i64 0]) 2 16 Try.underlying31 Try.info_key ?_ ?_ ?_ u9 _ _ ?_ (own_all hown.out ?_) w4.heap.size ?_ [.int .i64 (c1 + ((i : Int) - m)), .int .i64 (c2 + ((j : Int) - m))] ?_ ?_ ?_ HBD.out ?_ ?_); rfl; rfl; rfl; decide; decide; rfl; (exact (Keeps.all HB4.out _).trans (Keeps.alloc _ _ _)); rfl; rfl; (exact (Blk.newAt _ _ rfl).at _ _ (by intro t ht; match t, ht with | 0, _ => rfl | 1, _ => rfl)); (simp [Value.oneCell']); (simp; omega); intro g' cap w5 hown5 hk5 hb5 ⟨hg5, hl5, _⟩; have HO5 := Lib.hid hown5; have HK6 := Lib.hid hk5; have HB5 := Lib.hid hb5; clear hown5 hk5 hb5)
              go_roundw
              case rel =>
                refine ⟨i + 1, by omega, ?_, ?_, ?_, ?_⟩
                · go_num
                · have e : gLine (ballF D c1 c2 m) m ((j : Int) - m) (i + 1) = gLine (ballF D c1 c2 m) m ((j : Int) - m) i ++ [(c1 + ((i : Int) - m), c2 + ((j : Int) - m))] := by rw [gLine_succ, ballF, if_pos HQ.out]
                  rw [e, ← List.append_assoc, ← HLL.out]
                  exact own_append HO5.out (by simp) (by rw [List.flatMap_append]; rfl)
                · exact hkp.out.trans (((Keeps.all HB4.out _).trans (Keeps.alloc w4 _ _)).trans (Keeps.below HB5.out))
                · exact hbl.out.trans (((HB4.out.mono (by omega)).alloc (by omega) _).trans (HB5.out.mono (by omega)))
              case measure => simp [intOf]; omega
            · have hq' : decide (D ((i : Int) - m) ((j : Int) - m) ≤ m) = false := by simp [hq]
              have HQ := Lib.hid hq
              clear hq
              go_wp2_with fail
              refine (HCL.out _).mono ?_
              rintro e w4 ⟨rfl, hb4⟩
              obtain ⟨hB4, hX4⟩ := front1 hb4
              have HB4 := Lib.hid hB4
              clear hb4 hX4 hB4
              go_wp2
              go_roundw
              case rel =>
                refine ⟨i + 1, by omega, by go_num, ?_, hkp.out.trans (Keeps.all HB4.out _), hbl.out.trans (HB4.out.mono (by omega))⟩
                have e : gLine (ballF D c1 c2 m) m ((j : Int) - m) (i + 1) = gLine (ballF D c1 c2 m) m ((j : Int) - m) i := by rw [gLine_succ, ballF, if_neg (by have := HQ.out; omega), List.append_nil]
                rw [e, ← HLL.out]; exact own_all hown.out (Keeps.all HB4.out _)
              case measure => simp [intOf]; omega
          · have hin : i = 2 * m + 1 := by omega
            have e : gAll (ballF D c1 c2 m) m (2 * m + 1) j ++ gLine (ballF D c1 c2 m) m ((j : Int) - m) i = gAll (ballF D c1 c2 m) m (2 * m + 1) (j + 1) := by rw [gAll_succ, hin]
            have HO' := Lib.hid hown.out
            rw [HLL.out, e] at HO'
            clear e hown HLL
            go_wp2
            go_roundw
            case rel => exact ⟨j + 1, by omega, by go_num, HO'.out, hkp, hbl⟩
            case measure => simp [intOf]; omega
      · have hjn : j = 2 * m + 1 := by omega
        have HO' := Lib.hid hown.out
        rw [hjn] at HO'
        clear hown
        have HV := Lib.hid (keys_of_own (ok := fun _ => True) (show wr.ownsRow w3.heap.size 23 2 u9 (ballOf D c1 c2 m).length ((ballOf D c1 c2 m).flatMap keyC) from HO'.out) (fun _ _ => trivial) HWF.out)
        have HU4 := Lib.hid (keysR.keep (keysR.lt HU3.out) (hkp.out.mono fun b hb => hb.2))
        go_wp2_with fail
        refine (same_true HU4.out HV.out).mono ?_
        rintro e w6 ⟨rfl, n6, rfl⟩
        have hcnt := HCNT.out
        simp at hcnt
        go_wp2
        go_ret
        exact ⟨ret_bool (by simp), below_drawn hbl.out _⟩
end Go.Proofs.Ytcnpanmkpfgdjaa
