/- Contracts of reach.Ball and of the law package's same. -/
import Derived.Test.YtcnpanmkpfgdjaaKnown
namespace Go.Proofs.Ytcnpanmkpfgdjaa
open Go.RowKit Go.Sch

/-- What a walk over a square of numbers collects: line by line. -/
def gLine (f : Int → Int → List Key2) (m y : Int) (n : Nat) : List Key2 := (List.range n).flatMap fun i : Nat => f ((i : Int) - m) y
def gAll (f : Int → Int → List Key2) (m : Int) (c j : Nat) : List Key2 := (List.range j).flatMap fun a : Nat => gLine f m ((a : Int) - m) c
theorem gLine_succ (f : Int → Int → List Key2) (m y : Int) (n : Nat) : gLine f m y (n + 1) = gLine f m y n ++ f ((n : Int) - m) y := by
  simp [gLine, List.range_succ, List.flatMap_append]
theorem gAll_succ (f : Int → Int → List Key2) (m : Int) (c j : Nat) : gAll f m c (j + 1) = gAll f m c j ++ gLine f m ((j : Int) - m) c := by
  simp [gAll, List.range_succ, List.flatMap_append]
theorem gLine_len {f : Int → Int → List Key2} (hf : ∀ x y, (f x y).length ≤ 1) (m y : Int) (n : Nat) : (gLine f m y n).length ≤ n := by
  induction n with
  | zero => simp [gLine]
  | succ n ih => rw [gLine_succ, List.length_append]; have := hf ((n : Int) - m) y; omega
theorem gAll_len {f : Int → Int → List Key2} (hf : ∀ x y, (f x y).length ≤ 1) (m : Int) (c j : Nat) : (gAll f m c j).length ≤ j * c := by
  induction j with
  | zero => simp [gAll]
  | succ n ih => rw [gAll_succ, List.length_append, Nat.succ_mul]; have := gLine_len hf m ((n : Int) - m) c; omega
def ballF (D : Int → Int → Int) (c1 c2 r : Int) (x y : Int) : List Key2 := if D x y ≤ r then [(c1 + x, c2 + y)] else []
theorem ballF_len (D : Int → Int → Int) (c1 c2 r : Int) (x y : Int) : (ballF D c1 c2 r x y).length ≤ 1 := by unfold ballF; split <;> simp
def ballOf (D : Int → Int → Int) (c1 c2 : Int) (m : Nat) : List Key2 := gAll (ballF D c1 c2 m) m (2 * m + 1) (2 * m + 1)
def ballErr (kind : Int) (c : Key2) (r : Int) : Int := if measureErr kind [c] ≠ 0 then measureErr kind [c] else if r < 0 ∨ 100 < r then 3 else 0

set_option maxRecDepth 100000 in
set_option maxHeartbeats 2000000 in
theorem ball_bad (kind c1 c2 r : Int) (hw : (Lit.int .i64 c1).wf = true ∧ (Lit.int .i64 c2).wf = true) (he : ballErr kind (c1, c2) r ≠ 0) (w : World) :
    Calls Try.prog 20 #[.int .i64 kind, .agg #[.int .i64 c1, .int .i64 c2], .int .i64 r] w fun e w' => e = .returned (.tuple #[.slice none 0 0, .int .i64 (ballErr kind (c1, c2) r)]) ∧ Below w.heap.size w w' := by
  have HM := Lib.hid (fun w' g (hb : Blk w' g #[.int .i64 c1, .int .i64 c2] 23) => measure_calls (keys_of_blk (ok := fun _ => True) (l := [(c1, c2)]) hb trivial (show 1 ≤ maxLen by decide) (by
    intro k hk
    simp only [List.mem_cons, List.not_mem_nil, or_false] at hk
    subst hk
    exact hw)) kind)
  obtain ⟨er, her⟩ : ∃ er, er = measureErr kind [(c1, c2)] := ⟨_, rfl⟩
  by_cases h0 : er = 0
  · have h0' : (er != 0) = false := by simp [h0]
    have hb : ballErr kind (c1, c2) r = if r < 0 ∨ 100 < r then 3 else 0 := by rw [ballErr, if_neg (by rw [← her, h0]; decide)]
    have hr : r < 0 ∨ 100 < r := by
      by_cases hr : r < 0 ∨ 100 < r
      · exact hr
      · rw [hb, if_neg hr] at he; omega
    have HR : Hid (ballErr kind (c1, c2) r = 3) := Lib.hid (by rw [hb, if_pos hr])
    have HER := Lib.hid her
    clear hb he her
    by_cases hn : r < 0
    · clear hr
      go_enter Try.func20, Try.ntmps20
      go_wp2_with fail
      refine (HM.out _ _ (Blk.newAt _ _ (by simp))).mono ?_
      rintro e w1 ⟨rfl, hb1⟩
      rw [← HER.out]
      have HW1 := Lib.hid ((((Below.refl _ _).alloc (Nat.le_refl _) _).alloc (by simp) _).trans (hb1.mono (by simp; omega)) : Below w.heap.size w w1)
      clear hb1
      go_wp2
      refine bodyPost_ret (results_tmp2 rfl _ _ _) rfl ?_
      exact ⟨by rw [HR.out]; rfl, HW1.out⟩
    · have hr2 : 100 < r := by omega
      clear hr
      go_enter Try.func20, Try.ntmps20
      go_wp2_with fail
      refine (HM.out _ _ (Blk.newAt _ _ (by simp))).mono ?_
      rintro e w1 ⟨rfl, hb1⟩
      rw [← HER.out]
      have HW1 := Lib.hid ((((Below.refl _ _).alloc (Nat.le_refl _) _).alloc (by simp) _).trans (hb1.mono (by simp; omega)) : Below w.heap.size w w1)
      clear hb1
      go_wp2
      refine bodyPost_ret (results_tmp2 rfl _ _ _) rfl ?_
      exact ⟨by rw [HR.out]; rfl, HW1.out⟩
  · have h0' : (er != 0) = true := by simp [h0]
    have HR : Hid (ballErr kind (c1, c2) r = er) := Lib.hid (by rw [ballErr, if_pos (by rw [← her]; exact h0), her])
    have HER := Lib.hid her
    clear he her
    go_enter Try.func20, Try.ntmps20
    go_wp2_with fail
    refine (HM.out _ _ (Blk.newAt _ _ (by simp))).mono ?_
    rintro e w1 ⟨rfl, hb1⟩
    rw [← HER.out]
    have HW1 := Lib.hid ((((Below.refl _ _).alloc (Nat.le_refl _) _).alloc (by simp) _).trans (hb1.mono (by simp; omega)) : Below w.heap.size w w1)
    clear hb1
    go_wp2
    refine bodyPost_ret (results_tmp2 rfl _ _ _) rfl ?_
    exact ⟨by rw [HR.out]; rfl, HW1.out⟩

set_option maxRecDepth 100000 in
set_option maxHeartbeats 4000000 in
theorem ball_good (kind c1 c2 : Int) (m : Nat) (hm : m ≤ 12) (he : measureErr kind [(c1, c2)] = 0) (w : World) :
    Calls Try.prog 20 #[.int .i64 kind, .agg #[.int .i64 c1, .int .i64 c2], .int .i64 m] w fun e w' => ∃ u, e = .returned (.tuple #[u, .int .i64 0]) ∧
      w'.ownsRow w.heap.size 23 2 u (ballOf (farD kind) c1 c2 m).length ((ballOf (farD kind) c1 c2 m).flatMap keyC) ∧ Below w.heap.size w w' := by
  have hkin : keyIn (c1, c2) ∧ (-1000000 ≤ c1 ∧ c1 ≤ 1000000) ∧ (-1000000 ≤ c2 ∧ c2 ≤ 1000000) := by
    unfold measureErr at he
    split at he
    · omega
    · split at he
      · omega
      · rename_i hh
        have ho : outK (c1, c2) = false := by simpa using hh
        simp only [outK, Bool.or_eq_false_iff] at ho
        exact ⟨outK_in (by simpa [outK] using ho), outB_in ho.1, outB_in ho.2⟩
  obtain ⟨-, ⟨q1, q2⟩, ⟨q3, q4⟩⟩ := hkin
  have HM := Lib.hid (fun w' g (hb : Blk w' g #[.int .i64 c1, .int .i64 c2] 23) => measure_calls (keys_of_blk (ok := fun _ => True) (l := [(c1, c2)]) hb trivial (show 1 ≤ maxLen by decide) (by
    intro k hk
    simp only [List.mem_cons, List.not_mem_nil, or_false] at hk
    subst hk
    exact ⟨wf64_mk (by omega) (by omega), wf64_mk (by omega) (by omega)⟩)) kind)
  have HO := Lib.hid (show measureOut kind [(c1, c2)] = .func (.func (farF kind)) #[] #[] by rw [measureOut, if_pos he])
  have HZ := Lib.hid he
  have hFo := far_ok kind
  obtain ⟨D, hD⟩ : ∃ D, D = farD kind := ⟨_, rfl⟩
  obtain ⟨F, hF⟩ : ∃ F, F = farF kind := ⟨_, rfl⟩
  rw [← hD, ← hF] at hFo
  rw [← hF] at HO
  rw [← hD]
  have HE := hFo.enter
  have HC := Lib.hid hFo.calls
  clear hFo hD hF he
  obtain ⟨i0, hi, hz0, hz1, hz2⟩ := info_parts Try.info_key
  have HI := Lib.hid (And.intro hi (And.intro hz0 (And.intro hz1 hz2)))
  clear hi hz0 hz1 hz2
  have hmr : ¬ (m : Int) < 0 ∧ ¬ (100 : Int) < (m : Int) := by omega
  obtain ⟨hm1, hm2⟩ := hmr
  go_enter Try.func20, Try.ntmps20
  go_wp2_with fail
  refine (HM.out _ _ (Blk.newAt _ _ (by simp))).mono ?_
  rintro e w1 ⟨rfl, hb1⟩
  rw [HO.out, HZ.out]
  have hB1 : Blk w1 w.heap.size #[.int .i64 c1, .int .i64 c2] 23 := ((Blk.new w _ _).keep (Keeps.alloc _ _ (fun _ => True)) trivial).keep (Keeps.all hb1 (fun _ => True)) trivial
  have HBe1 := Lib.hid ((((Below.refl _ _).alloc (Nat.le_refl _) _).alloc (by simp) _).trans (hb1.mono (by simp; omega)) : Below w.heap.size w w1)
  have HB1 := Lib.hid hB1
  have hsz : w.heap.size < w1.heap.size := hB1.lt
  clear hb1 hB1
  go_wp2_with fail
  go_loopw [10, 11] (fun u y wr => ∃ j : Nat, j ≤ 2 * m + 1 ∧ y = .int .i64 ((j : Int) - m) ∧ Hid (wr.ownsRow (w.heap.size + 1) 23 2 u (gAll (ballF D c1 c2 m) m (2 * m + 1) j).length ((gAll (ballF D c1 c2 m) m (2 * m + 1) j).flatMap keyC)) ∧ Hid (Keeps (· < w.heap.size + 1) w1 wr) ∧ Hid (Below w.heap.size w wr)) (fun _ y _ => (m + 1 - intOf y).toNat)
  case atStart => exact ⟨0, Nat.zero_le _, by simp, World.ownsRow_nil _ _ _ _, Keeps.refl _ _, HBe1⟩
  case round =>
    obtain ⟨j, hj, rfl, hown, hkp, hbl⟩ := hrel
    by_cases hlt : j < 2 * m + 1
    · have hdj : decide ((j : Int) - m ≤ m) = true := by simp; omega
      go_wp2_with fail
      obtain ⟨wo, hwo⟩ : ∃ wo : World, wo = wr := ⟨_, rfl⟩
      subst hwo
      go_loopw [10, 12] (fun u x wr => ∃ i : Nat, i ≤ 2 * m + 1 ∧ x = .int .i64 ((i : Int) - m) ∧ Hid (wr.ownsRow (w.heap.size + 1) 23 2 u (gAll (ballF D c1 c2 m) m (2 * m + 1) j ++ gLine (ballF D c1 c2 m) m ((j : Int) - m) i).length ((gAll (ballF D c1 c2 m) m (2 * m + 1) j ++ gLine (ballF D c1 c2 m) m ((j : Int) - m) i).flatMap keyC)) ∧ Hid (Keeps (· < w.heap.size + 1) w1 wr) ∧ Hid (Below w.heap.size w wr)) (fun _ x _ => (m + 1 - intOf x).toNat)
      case atStart => exact ⟨0, Nat.zero_le _, by simp, by simpa [gLine] using hown, hkp, hbl⟩
      case round =>
        obtain ⟨i, hi, rfl, hown, hkp, hbl⟩ := hrel
        obtain ⟨LL, hLL⟩ : ∃ LL, LL = gAll (ballF D c1 c2 m) m (2 * m + 1) j ++ gLine (ballF D c1 c2 m) m ((j : Int) - m) i := ⟨_, rfl⟩
        rw [← hLL] at hown
        have HLL := Lib.hid hLL
        clear hLL
        by_cases hli : i < 2 * m + 1
        · have D1 := HB1.out.keep hkp.out (by omega)
          have X0 : wr.cell? ⟨w.heap.size, 0, none⟩ = some (.int .i64 c1) := by rw [D1.cell]; rfl
          have X1 : wr.cell? ⟨w.heap.size, 1, none⟩ = some (.int .i64 c2) := by rw [D1.cell]; rfl
          have hszr : w.heap.size < wr.heap.size := D1.lt
          have hlen := gAll_len (ballF_len D c1 c2 m) m (2 * m + 1) j
          have hlen2 := gLine_len (ballF_len D c1 c2 m) m ((j : Int) - m) i
          have hbd : (LL.length + 1) * 16 ≤ 140737488355328 := by
            rw [HLL.out, List.length_append]
            have : j * (2 * m + 1) ≤ 25 * 25 := Nat.mul_le_mul (by omega) (by omega)
            omega
          have HBD := Lib.hid hbd
          clear D1 hbd hlen hlen2
          by_cases hq : D ((i : Int) - m) ((j : Int) - m) ≤ m
          · have hq' : decide (D ((i : Int) - m) ((j : Int) - m) ≤ m) = true := by simp [hq]
            have HQ := Lib.hid hq
            clear hq
            go_wp2_with fail
            refine (HC.out _ _ _ (by omega) (by omega) (by omega) (by omega)).mono ?_
            rintro e w3 ⟨rfl, rfl⟩
            go_wp2_with ((with_reducible refine wpList_append_one (o := ⟨some 60, _, _, _, _, _⟩) ?_ (.tmp 49) (.tmp 59) 31 ?_ (w.heap.size + 1) 23 (.agg #[.int .i64 0, .int .i64 0]) 2 16 Try.underlying31 Try.info_key ?_ ?_ ?_ u10 _ _ ?_ (own_all hown.out ?_) wr.heap.size ?_ [.int .i64 (c1 + ((i : Int) - m)), .int .i64 (c2 + ((j : Int) - m))] ?_ ?_ ?_ HBD.out ?_ ?_); rfl; rfl; rfl; decide; decide; rfl; (exact Keeps.alloc _ _ _); rfl; rfl; (exact (Blk.newAt _ _ rfl).at _ _ (by intro t ht; match t, ht with | 0, _ => rfl | 1, _ => rfl)); (simp [Value.oneCell']); (simp; omega); intro g' cap w5 hown5 hk5 hb5 ⟨hg5, hl5, _⟩; have HO5 := Lib.hid hown5; have HK6 := Lib.hid hk5; have HB5 := Lib.hid hb5; clear hown5 hk5 hb5)
            go_roundw
            case rel =>
              refine ⟨i + 1, by omega, ?_, ?_, ?_, ?_⟩
              · go_num
              · have e : gLine (ballF D c1 c2 m) m ((j : Int) - m) (i + 1) = gLine (ballF D c1 c2 m) m ((j : Int) - m) i ++ [(c1 + ((i : Int) - m), c2 + ((j : Int) - m))] := by rw [gLine_succ, ballF, if_pos HQ.out]
                rw [e, ← List.append_assoc, ← HLL.out]
                exact own_append HO5.out (by simp) (by rw [List.flatMap_append]; rfl)
              · exact hkp.out.trans ((Keeps.alloc wr _ _).trans (Keeps.below HB5.out))
              · exact hbl.out.trans (((Below.refl _ wr).alloc (by omega) _).trans (HB5.out.mono (by omega)))
            case measure => simp [intOf]; omega
          · have hq' : decide (D ((i : Int) - m) ((j : Int) - m) ≤ m) = false := by simp [hq]
            have HQ := Lib.hid hq
            clear hq
            go_wp2_with fail
            refine (HC.out _ _ _ (by omega) (by omega) (by omega) (by omega)).mono ?_
            rintro e w3 ⟨rfl, rfl⟩
            go_wp2
            go_roundw
            case rel =>
              refine ⟨i + 1, by omega, by go_num, ?_, hkp, hbl⟩
              have e : gLine (ballF D c1 c2 m) m ((j : Int) - m) (i + 1) = gLine (ballF D c1 c2 m) m ((j : Int) - m) i := by rw [gLine_succ, ballF, if_neg (by have := HQ.out; omega), List.append_nil]
              rw [e, ← HLL.out]; exact hown
            case measure => simp [intOf]; omega
        · have hin : i = 2 * m + 1 := by omega
          have e : gAll (ballF D c1 c2 m) m (2 * m + 1) j ++ gLine (ballF D c1 c2 m) m ((j : Int) - m) i = gAll (ballF D c1 c2 m) m (2 * m + 1) (j + 1) := by rw [gAll_succ, hin]
          have HO := Lib.hid hown.out
          rw [HLL.out, e] at HO
          clear e hown HLL
          go_wp2
          go_roundw
          case rel => exact ⟨j + 1, by omega, by go_num, HO.out, hkp, hbl⟩
          case measure => simp [intOf]; omega
    · have hjn : j = 2 * m + 1 := by omega
      have HO := Lib.hid hown.out
      rw [hjn] at HO
      clear hown
      go_wp2
      refine bodyPost_ret (results_tmp2 rfl _ _ _) rfl ?_
      exact ⟨_, rfl, own_base HO.out (by omega), hbl.out⟩
end Go.Proofs.Ytcnpanmkpfgdjaa
