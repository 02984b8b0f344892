/- Contracts of reach.Distance and of the law package's abs, distance, wrong, known. -/
import Derived.Test.YtcnpanmkpfgdjaaLeastB
namespace Go.Proofs.Ytcnpanmkpfgdjaa
open Go.RowKit Go.Sch

theorem keys_of_blk {w : World} {g : Nat} {l : List Key2} {t : TypeId} {ok : Nat → Prop} (h : Blk w g (l.flatMap keyC).toArray t) (hok : ok g) (hl : l.length ≤ maxLen) (hwf : ∀ k ∈ l, (Lit.int .i64 k.1).wf = true ∧ (Lit.int .i64 k.2).wf = true) :
    keysR.R w ok [.slice (some ⟨g, 0, none⟩) l.length l.length] l := by
  refine ⟨_, _, rfl, Nat.le_refl _, hl, .inr ⟨g, 0, rfl, hok, fun i hi => ⟨keyC l[i], ?_, rfl, hwf _ (List.getElem_mem hi)⟩⟩⟩
  refine h.at _ _ fun j hj => ?_
  have hc := keys_chunk l i hi
  have hlen : (l.flatMap keyC).length = l.length * 2 := keyC_len l
  have hj2 : j < 2 := by simpa [keyC] using hj
  simp only [keyR, List.getElem?_toArray, Nat.zero_add]
  have e : (keyC l[i])[j]? = (l.flatMap keyC)[i * 2 + j]? := by
    rw [← hc, List.getElem?_take, if_pos hj2, List.getElem?_drop]
  rw [← e, List.getElem?_eq_getElem hj]

/-- The distance of two keys, by the kind. -/
theorem outB_in {n : Int} (h : outB n = false) : -1000000 ≤ n ∧ n ≤ 1000000 := by
  simp only [outB, Bool.or_eq_false_iff, decide_eq_false_iff_not] at h
  omega
theorem outK_in {k : Key2} (h : outK k = false) : keyIn k := by
  simp only [outK, Bool.or_eq_false_iff] at h
  have h1 := outB_in h.1
  have h2 := outB_in h.2
  simp only [keyIn]
  omega
/-- Distance's two results. -/
def distRes (kind : Int) (a b : Key2) : Int × Int :=
  if kind ≠ 1 ∧ kind ≠ 2 then (0, 12) else if outK a || outK b then (0, 3) else (pairD (farD kind) a b, 0)
set_option maxRecDepth 100000 in
set_option maxHeartbeats 1000000 in
theorem distance_calls (kind : Int) (a1 a2 b1 b2 : Int) (w : World) (hw : (Lit.int .i64 a1).wf = true ∧ (Lit.int .i64 a2).wf = true ∧ (Lit.int .i64 b1).wf = true ∧ (Lit.int .i64 b2).wf = true) :
    Calls Try.prog 11 #[.int .i64 kind, .agg #[.int .i64 a1, .int .i64 a2], .agg #[.int .i64 b1, .int .i64 b2]] w fun e w' =>
      e = .returned (.tuple #[.int .i64 (distRes kind (a1, a2) (b1, b2)).1, .int .i64 (distRes kind (a1, a2) (b1, b2)).2]) ∧ Below w.heap.size w w' := by
  have HM := Lib.hid (fun w' g (hb : Blk w' g #[.int .i64 a1, .int .i64 a2, .int .i64 b1, .int .i64 b2] 23) => measure_calls (keys_of_blk (ok := fun _ => True) (l := [(a1, a2), (b1, b2)]) hb trivial (show 2 ≤ maxLen by decide) (by
    intro k hk
    simp only [List.mem_cons, List.not_mem_nil, or_false] at hk
    rcases hk with rfl | rfl
    · exact ⟨hw.1, hw.2.1⟩
    · exact ⟨hw.2.2.1, hw.2.2.2⟩)) kind)
  clear hw
  by_cases he : measureErr kind [(a1, a2), (b1, b2)] = 0
  · have he' : (measureErr kind [(a1, a2), (b1, b2)] != 0) = false := by simp [he]
    have hk : kind = 1 ∨ kind = 2 := by
      unfold measureErr at he
      by_cases hh : kind ≠ 1 ∧ kind ≠ 2
      · rw [if_pos hh] at he; omega
      · omega
    have ho : outK (a1, a2) = false ∧ outK (b1, b2) = false := by
      unfold measureErr at he
      rw [if_neg (by omega)] at he
      split at he
      · omega
      · rename_i hh
        simpa using hh
    have HO := Lib.hid (show measureOut kind [(a1, a2), (b1, b2)] = .func (.func (farF kind)) #[] #[] by rw [measureOut, if_pos he])
    have HR := Lib.hid (show distRes kind (a1, a2) (b1, b2) = (pairD (farD kind) (a1, a2) (b1, b2), 0) by rw [distRes, if_neg (by omega), if_neg (by rw [ho.1, ho.2]; decide)])
    have HB := Lib.hid (fun w' => between_calls (far_ok kind) a1 a2 b1 b2 (outK_in ho.1) (outK_in ho.2) w')
    clear he hk ho
    go_enter Try.func11, Try.ntmps11
    go_wp2_with fail
    refine (HM.out _ _ ?_).mono ?_
    · exact Blk.newAt _ _ (by simp)
    rintro e w1 ⟨rfl, hb1⟩
    rw [HO.out]
    have D1 : Blk w1 w.heap.size #[.int .i64 a1, .int .i64 a2] 23 := (((Blk.new w _ _).keep (Keeps.alloc _ _ (fun _ => True)) trivial).keep (Keeps.alloc _ _ (fun _ => True)) trivial).keep (Keeps.all hb1 (fun _ => True)) trivial
    have D2 : Blk w1 (w.heap.size + 1) #[.int .i64 b1, .int .i64 b2] 23 := ((Blk.newAt _ _ (by simp)).keep (Keeps.alloc _ _ (fun _ => True)) trivial).keep (Keeps.all hb1 (fun _ => True)) trivial
    have X0 : w1.cell? ⟨w.heap.size, 0, none⟩ = some (.int .i64 a1) := by rw [D1.cell]; rfl
    have X1 : w1.cell? ⟨w.heap.size, 1, none⟩ = some (.int .i64 a2) := by rw [D1.cell]; rfl
    have X2 : w1.cell? ⟨w.heap.size + 1, 0, none⟩ = some (.int .i64 b1) := by rw [D2.cell]; rfl
    have X3 : w1.cell? ⟨w.heap.size + 1, 1, none⟩ = some (.int .i64 b2) := by rw [D2.cell]; rfl
    have HW1 := Lib.hid (((((Below.refl _ _).alloc (Nat.le_refl _) _).alloc (by simp) _).alloc (by simp; omega) _).trans (hb1.mono (by simp; omega)) : Below w.heap.size w w1)
    clear D1 D2 hb1
    go_wp2_with fail
    refine (HB.out _).mono ?_
    rintro e w2 ⟨rfl, hb2⟩
    have HB2 := Lib.hid hb2
    clear hb2
    go_wp2
    refine bodyPost_ret (results_tmp2 rfl _ _ _) rfl ?_
    exact ⟨ret_two (by rw [HR.out]; rfl) (by rw [HR.out]; rfl), HW1.out.trans (HB2.out.mono HW1.out.size)⟩
  · have he' : (measureErr kind [(a1, a2), (b1, b2)] != 0) = true := by simp [he]
    have HR := Lib.hid (show distRes kind (a1, a2) (b1, b2) = (0, measureErr kind [(a1, a2), (b1, b2)]) by
      rw [distRes]
      by_cases hh : kind ≠ 1 ∧ kind ≠ 2
      · rw [if_pos hh, measureErr, if_pos hh]
      · rw [if_neg hh]
        by_cases ho : (outK (a1, a2) || outK (b1, b2)) = true
        · rw [if_pos ho, measureErr, if_neg hh, if_pos (by simpa using ho)]
        · exfalso
          apply he
          rw [measureErr, if_neg hh, if_neg (by simpa using ho)])
    clear he
    go_enter Try.func11, Try.ntmps11
    go_wp2_with fail
    refine (HM.out _ _ ?_).mono ?_
    · exact Blk.newAt _ _ (by simp)
    rintro e w1 ⟨rfl, hb1⟩
    have HW1 := Lib.hid (((((Below.refl _ _).alloc (Nat.le_refl _) _).alloc (by simp) _).alloc (by simp; omega) _).trans (hb1.mono (by simp; omega)) : Below w.heap.size w w1)
    clear hb1
    go_wp2
    refine bodyPost_ret (results_tmp2 rfl _ _ _) rfl ?_
    exact ⟨ret_two (by rw [HR.out]; rfl) (by rw [HR.out]; rfl), HW1.out⟩

theorem lawAbs_calls (n : Int) (w : World) (h1 : -1000000000000 ≤ n) (h2 : n ≤ 1000000000000) :
    Calls Try.prog 33 #[.int .i64 n] w fun e w' => e = .returned (.int .i64 (n.natAbs : Int)) ∧ w = w' := by
  go_enter Try.func33, Try.ntmps33
  go_wp2
  all_goals (go_ret; exact ⟨ret_int (by omega), rfl⟩)
theorem pairD_one (a b : Key2) {kind : Int} (h : kind ≠ 2) : pairD (farD kind) a b = ((a.1 - b.1).natAbs : Int) + ((a.2 - b.2).natAbs : Int) := by
  simp only [pairD, farD, if_neg h]; omega
theorem pairD_two (a b : Key2) : pairD (farD 2) a b = max (max ((a.1 - b.1).natAbs : Int) ((a.2 - b.2).natAbs : Int)) ((a.1 - b.1 + (a.2 - b.2)).natAbs : Int) := by
  simp only [pairD, farD, if_true]; omega
set_option maxRecDepth 100000 in
set_option maxHeartbeats 1000000 in
theorem lawDistance_calls (kind : Int) (hk : kind = 1 ∨ kind = 2) (a1 a2 b1 b2 : Int) (ha : keyIn (a1, a2)) (hb : keyIn (b1, b2)) (w : World) :
    Calls Try.prog 13 #[.int .i64 kind, .agg #[.int .i64 a1, .int .i64 a2], .agg #[.int .i64 b1, .int .i64 b2]] w fun e w' => e = .returned (.int .i64 (pairD (farD kind) (a1, a2) (b1, b2))) ∧ Below w.heap.size w w' := by
  obtain ⟨⟨p1, p2⟩, ⟨p3, p4⟩⟩ := ha
  obtain ⟨⟨q1, q2⟩, ⟨q3, q4⟩⟩ := hb
  dsimp only at p1 p2 p3 p4 q1 q2 q3 q4
  have hB : Below w.heap.size w (((w.alloc (.cells #[.int .i64 a1, .int .i64 a2] 23)).alloc (.cells #[.int .i64 b1, .int .i64 b2] 23))) := ((Below.refl _ _).alloc (Nat.le_refl _) _).alloc (by simp) _
  have HB := Lib.hid hB
  clear hB
  rcases hk with rfl | rfl
  · have HR := Lib.hid (pairD_one (a1, a2) (b1, b2) (kind := 1) (by decide))
    go_enter Try.func13, Try.ntmps13
    go_wp2
    go_quiet (fail)
    go_wp2_with (go_at_call 33; refine (lawAbs_calls _ _ (by omega) (by omega)).mono ?_; rintro e w' ⟨rfl, rfl⟩)
    go_ret
    exact ⟨ret_int HR.out.symm, below_drawn HB.out _⟩
  · have HR := Lib.hid (pairD_two (a1, a2) (b1, b2))
    go_enter Try.func13, Try.ntmps13
    go_wp2
    go_quiet (fail)
    go_wp2_with (go_at_call 33; refine (lawAbs_calls _ _ (by omega) (by omega)).mono ?_; rintro e w' ⟨rfl, rfl⟩)
    all_goals (go_ret; refine ⟨ret_int ?_, below_drawn HB.out _⟩; rw [HR.out])
    all_goals (first | omega | (split at * <;> omega))
set_option maxHeartbeats 1000000 in
theorem wrong_calls (a1 a2 : Int) (w : World) : Calls Try.prog 12 #[.agg #[.int .i64 a1, .int .i64 a2]] w fun e w' => e = .returned (.bool (outK (a1, a2))) ∧ Below w.heap.size w w' := by
  have HB := Lib.hid ((Below.refl _ w).alloc (Nat.le_refl _) (.cells #[.int .i64 a1, .int .i64 a2] 23))
  have fin : ∀ b : Bool, (b = (decide (1000000 < a1) || decide (a1 < -1000000) || decide (1000000 < a2) || decide (a2 < -1000000))) → b = outK (a1, a2) := by
    intro b hb; rw [hb, outK, outB, outB, Bool.or_assoc, Bool.or_assoc]
  have FIN := Lib.hid fin
  clear fin
  by_cases h1 : 1000000 < a1
  · go_enter Try.func12, Try.ntmps12
    go_wp2
    go_ret
    exact ⟨ret_bool (FIN.out _ (by simp [h1])), HB.out⟩
  · by_cases h2 : a1 < -1000000
    · go_enter Try.func12, Try.ntmps12
      go_wp2
      go_ret
      exact ⟨ret_bool (FIN.out _ (by simp [h2])), HB.out⟩
    · by_cases h3 : 1000000 < a2
      · go_enter Try.func12, Try.ntmps12
        go_wp2
        go_ret
        exact ⟨ret_bool (FIN.out _ (by simp [h3])), HB.out⟩
      · by_cases h4 : a2 < -1000000
        · go_enter Try.func12, Try.ntmps12
          go_wp2
          go_ret
          exact ⟨ret_bool (FIN.out _ (by simp [h4])), HB.out⟩
        · go_enter Try.func12, Try.ntmps12
          go_wp2
          go_ret
          refine ⟨ret_bool (FIN.out _ ?_), HB.out⟩
          rw [eq_comm]
          simp only [Bool.or_eq_false_iff, decide_eq_false_iff_not]
          omega
end Go.Proofs.Ytcnpanmkpfgdjaa
