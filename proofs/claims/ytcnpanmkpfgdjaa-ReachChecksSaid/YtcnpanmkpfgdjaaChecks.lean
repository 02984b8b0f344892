/- Contract of the law ReachChecks. -/
import Derived.Test.YtcnpanmkpfgdjaaChecksB
namespace Go.Proofs.Ytcnpanmkpfgdjaa
open Go.RowKit Go.Sch
set_option maxRecDepth 100000 in
set_option maxHeartbeats 8000000 in
theorem checks_calls {w : World} {ok : Nat → Prop} {cs : List Value} {q : Quest} (h : questR.R w ok cs q) (hlen : q.chord.length * 24 ≤ 140737488351232) :
    Calls Try.prog 9 #[.agg cs.toArray] w fun e w' => e = .returned (.bool true) ∧ Below w.heap.size w w' := by
  have hT := questR.mono h (fun _ _ => trivial : ∀ b, ok b → (fun _ => True) b)
  have hwf : (Lit.int .i64 q.most).wf = true := by
    obtain ⟨_, _, _, _, _, h3⟩ := h
    exact h3
  obtain ⟨E, hE⟩ : ∃ E, E = reachCheck q := ⟨_, rfl⟩
  have HQ := hT
  obtain ⟨a1, c1, a2, c2, a3, c3, a4, c4, rfl, -, -, -, -⟩ := quest_cells h
  obtain ⟨K, hK⟩ : ∃ K, K = q.l.kind := ⟨_, rfl⟩
  obtain ⟨n1, hn1⟩ : ∃ n, n = q.l.o.length := ⟨_, rfl⟩
  obtain ⟨n2, hn2⟩ : ∃ n, n = q.l.r.length := ⟨_, rfl⟩
  obtain ⟨n3, hn3⟩ : ∃ n, n = q.l.u.length := ⟨_, rfl⟩
  obtain ⟨N, hN⟩ : ∃ n, n = q.chord.length := ⟨_, rfl⟩
  obtain ⟨M, hM⟩ : ∃ n, n = q.most := ⟨_, rfl⟩
  rw [← hK, ← hn1, ← hn2, ← hn3, ← hN, ← hM] at hT
  rw [← hK, ← hn1, ← hn2, ← hn3, ← hN, ← hM]
  rw [← hM] at hwf
  obtain ⟨W0, hW0⟩ : ∃ W0, W0 = w.alloc (.cells #[.int .i64 K, .slice a1 n1 c1, .slice a2 n2 c2, .slice a3 n3 c3, .slice a4 N c4, .int .i64 M] 46) := ⟨_, rfl⟩
  have HX : Hid (Blk W0 w.heap.size #[.int .i64 K, .slice a1 n1 c1, .slice a2 n2 c2, .slice a3 n3 c3, .slice a4 N c4, .int .i64 M] 46) := Lib.hid (by rw [hW0]; exact Blk.new _ _ _)
  have HB0 : Hid (Below w.heap.size w W0) := Lib.hid (by rw [hW0]; exact (Below.refl _ _).alloc (Nat.le_refl _) _)
  have K0 : Hid (Keeps (fun _ => True) W0 W0) := Lib.hid (Keeps.refl _ _)
  have HZ0 : w.heap.size < W0.heap.size := HX.out.lt
  have hT0 := questR.keep hT (Keeps.alloc w (.cells #[.int .i64 K, .slice a1 n1 c1, .slice a2 n2 c2, .slice a3 n3 c3, .slice a4 N c4, .int .i64 M] 46) (fun _ => True))
  rw [← hW0] at hT0
  have HK := Lib.hid (fun w' => known_calls w')
  have HF := Lib.hid (fun w' (k : Keeps (fun _ => True) W0 w') => few_calls (questR.keep hT0 k) hlen)
  have HLC := Lib.hid (fun w' (k : Keeps (fun _ => True) W0 w') => lawCheck_calls (questR.keep hT0 k))
  have HRC := Lib.hid (fun w' (k : Keeps (fun _ => True) W0 w') => reachCheck_calls (questR.keep hT0 k))
  have HE0 : Hid (E ≠ 0 → reachCheck q ≠ 0) := Lib.hid (fun h => hE ▸ h)
  have HCO := Lib.hid (fun w' (k : Keeps (fun _ => True) W0 w') (he : E ≠ 0) => count_err (questR.keep hT0 k) (hE ▸ he))
  have HSH := Lib.hid (fun w' (k : Keeps (fun _ => True) W0 w') (he : E ≠ 0) d => shapes_err (questR.keep hT0 k) (hE ▸ he) d)
  have HLE : Hid (∀ w', Keeps (fun _ => True) W0 w' → E ≠ 0 → Calls Try.prog 17 #[.agg #[.int .i64 K, .slice a1 n1 c1, .slice a2 n2 c2, .slice a3 n3 c3, .slice a4 N c4, .int .i64 M]] w' fun e w'' => e = .returned (.tuple #[.slice none 0 0, .int .i64 0, .bool false, .int .i64 E]) ∧ Below w'.heap.size w' w'') := Lib.hid (fun w' k he => by
    have e1 : (qCount q).2 = E := by rw [qCount, if_pos (hE ▸ he), hE]
    have h := least_bad (questR.keep hT0 k) (by rw [e1]; exact he)
    rw [e1] at h
    exact h)
  have hdd : ∀ w' cs (v : Value), layR.R w' (fun _ => True) cs q.l → chordsR.R w' (fun _ => True) [v] [q.chord] → E ≠ 0 → DErr w' cs v M E := fun w' cs v hl hv he => by
    rw [hM, hE]
    exact derr_bad hl hv (hM ▸ hwf) (hE ▸ he)
  have HDD := Lib.hid hdd
  have hlay0 : layR.R W0 (fun _ => True) [.int .i64 K, .slice a1 n1 c1, .slice a2 n2 c2, .slice a3 n3 c3] q.l ∧ rowsR.R W0 (fun _ => True) [.slice a4 N c4] q.chord := by
    obtain ⟨c, v, he, hl, hc, -⟩ := hT0
    have hlen := layR.len hl
    match c, hlen with
    | [y0, y1, y2, y3], _ =>
      simp only [List.cons_append, List.nil_append, List.cons.injEq, and_true] at he
      obtain ⟨rfl, rfl, rfl, rfl, rfl, -⟩ := he
      exact ⟨hl, hc⟩
  have HLAY := Lib.hid hlay0
  have HNE : Hid (E ≠ 19) := Lib.hid (by rw [hE]; exact reachCheck_ne q)
  rw [← hE] at HLC HRC HCO HSH
  have hEE : (E != E) = false := by simp
  have hEE' : (E == E) = true := by simp
  have HW := Lib.hid hW0
  clear h hT hT0 hlen HQ hdd hlay0 hwf hE hK hn1 hn2 hn3 hN hM hW0 HE0
  go_enter Try.func9, Try.ntmps9
  go_wp2_with fail
  rw [← HW.out]
  clear HW
  refine (HK.out _).mono ?_
  rintro e w1 ⟨rfl, hb⟩
  have HB1 : Hid (Below w.heap.size w w1) := Lib.hid (HB0.out.trans (hb.mono HB0.out.size))
  have K1 : Hid (Keeps (fun _ => True) W0 w1) := Lib.hid (K0.out.trans (Keeps.all hb (fun _ => True)))
  obtain ⟨⟨x0, x1, x2, x3, x4, x5⟩, -⟩ := blk6z (HX.out.keep K1.out trivial)
  have HZ1 : w.heap.size < w1.heap.size := (HX.out.keep K1.out trivial).lt
  clear hb
  go_wp2_with fail
  refine (HF.out _ K1.out).mono ?_
  rintro e w2 ⟨bf, rfl, hb⟩
  have HB2 : Hid (Below w.heap.size w w2) := Lib.hid (HB1.out.trans (hb.mono HB1.out.size))
  have K2 : Hid (Keeps (fun _ => True) W0 w2) := Lib.hid (K1.out.trans (Keeps.all hb (fun _ => True)))
  obtain ⟨⟨x0, x1, x2, x3, x4, x5⟩, -⟩ := blk6z (HX.out.keep K2.out trivial)
  have HZ2 : w.heap.size < w2.heap.size := (HX.out.keep K2.out trivial).lt
  clear hb HB1 K1 HZ1
  cases bf
  · go_wp2_with fail
    refine (HK.out _).mono ?_
    rintro e w3 ⟨rfl, hb⟩
    go_wp2
    go_ret
    exact ⟨rfl, HB2.out.trans (hb.mono HB2.out.size)⟩
  go_wp2_with fail
  refine (HLC.out _ K2.out).mono ?_
  rintro e w3 ⟨rfl, hb⟩
  have HB3 : Hid (Below w.heap.size w w3) := Lib.hid (HB2.out.trans (hb.mono HB2.out.size))
  have K3 : Hid (Keeps (fun _ => True) W0 w3) := Lib.hid (K2.out.trans (Keeps.all hb (fun _ => True)))
  obtain ⟨⟨x0, x1, x2, x3, x4, x5⟩, -⟩ := blk6z (HX.out.keep K3.out trivial)
  have HZ3 : w.heap.size < w3.heap.size := (HX.out.keep K3.out trivial).lt
  clear hb HB2 K2 HZ2
  go_wp2_with fail
  refine (HRC.out _ K3.out).mono ?_
  rintro e w4 ⟨rfl, hb⟩
  have HB4 : Hid (Below w.heap.size w w4) := Lib.hid (HB3.out.trans (hb.mono HB3.out.size))
  have K4 : Hid (Keeps (fun _ => True) W0 w4) := Lib.hid (K3.out.trans (Keeps.all hb (fun _ => True)))
  obtain ⟨⟨x0, x1, x2, x3, x4, x5⟩, -⟩ := blk6z (HX.out.keep K4.out trivial)
  have HZ4 : w.heap.size < w4.heap.size := (HX.out.keep K4.out trivial).lt
  clear hb HB3 K3 HZ3
  by_cases hE0 : E = 0
  · have hz : (E == 0) = true := by simp [hE0]
    go_wp2_with fail
    go_ret
    exact ⟨rfl, HB4.out⟩
  have hz : (E == 0) = false := beq_eq_false_iff_ne.2 hE0
  have HE0 := Lib.hid hE0
  clear hE0
  go_wp2_with fail
  refine (HCO.out _ K4.out HE0.out).mono ?_
  rintro e w5 ⟨rfl, hb⟩
  have HB5 : Hid (Below w.heap.size w w5) := Lib.hid (HB4.out.trans (hb.mono HB4.out.size))
  have K5 : Hid (Keeps (fun _ => True) W0 w5) := Lib.hid (K4.out.trans (Keeps.all hb (fun _ => True)))
  obtain ⟨⟨x0, x1, x2, x3, x4, x5⟩, -⟩ := blk6z (HX.out.keep K5.out trivial)
  have HZ5 : w.heap.size < w5.heap.size := (HX.out.keep K5.out trivial).lt
  clear hb HB4 K4 HZ4
  go_wp2_with fail
  refine (HSH.out _ K5.out HE0.out _).mono ?_
  rintro e w6 ⟨rfl, hb⟩
  have HB6 : Hid (Below w.heap.size w w6) := Lib.hid (HB5.out.trans (hb.mono HB5.out.size))
  have K6 : Hid (Keeps (fun _ => True) W0 w6) := Lib.hid (K5.out.trans (Keeps.all hb (fun _ => True)))
  obtain ⟨⟨x0, x1, x2, x3, x4, x5⟩, -⟩ := blk6z (HX.out.keep K6.out trivial)
  have HZ6 : w.heap.size < w6.heap.size := (HX.out.keep K6.out trivial).lt
  clear hb HB5 K5 HZ5
  go_wp2_with fail
  refine (HLE.out _ K6.out HE0.out).mono ?_
  rintro e w7 ⟨rfl, hb⟩
  have HB7 : Hid (Below w.heap.size w w7) := Lib.hid (HB6.out.trans (hb.mono HB6.out.size))
  have K7 : Hid (Keeps (fun _ => True) W0 w7) := Lib.hid (K6.out.trans (Keeps.all hb (fun _ => True)))
  obtain ⟨⟨x0, x1, x2, x3, x4, x5⟩, -⟩ := blk6z (HX.out.keep K7.out trivial)
  have HZ7 : w.heap.size < w7.heap.size := (HX.out.keep K7.out trivial).lt
  clear hb HB6 K6 HZ6
  go_wp2_with fail
  have KA7 : Keeps (fun _ => True) W0 (w7.alloc (.cells #[.slice a4 N c4] 44)) := K7.out.trans (Keeps.alloc _ _ _)
  refine (hardest_err (HDD.out _ _ _ (layR.keep HLAY.out.1 KA7) (chords_one (Blk.new _ _ _) (rowsR.keep HLAY.out.2 KA7)) HE0.out) HE0.out).mono ?_
  rintro e w8 ⟨rfl, hb⟩
  have HB8 : Hid (Below w.heap.size w w8) := Lib.hid ((HB7.out.alloc HB7.out.size _).trans (hb.mono (by simp; omega)))
  have K8 : Hid (Keeps (fun _ => True) W0 w8) := Lib.hid (KA7.trans (Keeps.all hb (fun _ => True)))
  obtain ⟨⟨x0, x1, x2, x3, x4, x5⟩, -⟩ := blk6z (HX.out.keep K8.out trivial)
  have HZ8 : w.heap.size < w8.heap.size := (HX.out.keep K8.out trivial).lt
  clear hb HB7 K7 HZ7 KA7
  go_wp2_with fail
  have KA8 : Keeps (fun _ => True) W0 (w8.alloc (.cells #[.slice a4 N c4] 44)) := K8.out.trans (Keeps.alloc _ _ _)
  refine (cost_err (HDD.out _ _ _ (layR.keep HLAY.out.1 KA8) (chords_one (Blk.new _ _ _) (rowsR.keep HLAY.out.2 KA8)) HE0.out) HE0.out).mono ?_
  rintro e w9 ⟨rfl, hb⟩
  have HB9 : Hid (Below w.heap.size w w9) := Lib.hid ((HB8.out.alloc HB8.out.size _).trans (hb.mono (by simp; omega)))
  have K9 : Hid (Keeps (fun _ => True) W0 w9) := Lib.hid (KA8.trans (Keeps.all hb (fun _ => True)))
  obtain ⟨⟨x0, x1, x2, x3, x4, x5⟩, -⟩ := blk6z (HX.out.keep K9.out trivial)
  have HZ9 : w.heap.size < w9.heap.size := (HX.out.keep K9.out trivial).lt
  clear hb HB8 K8 HZ8 KA8
  go_wp2_with fail
  have KA9 : Keeps (fun _ => True) W0 ((w9.alloc (.cells #[.int .i64 K, .slice a1 n1 c1, .slice a2 n2 c2, .slice a3 n3 c3] 43)).alloc (.cells #[.slice a4 N c4] 44)) := (K9.out.trans (Keeps.alloc _ _ _)).trans (Keeps.alloc _ _ _)
  have hB1 : Blk ((w9.alloc (.cells #[.int .i64 K, .slice a1 n1 c1, .slice a2 n2 c2, .slice a3 n3 c3] 43)).alloc (.cells #[.slice a4 N c4] 44)) w9.heap.size #[.int .i64 K, .slice a1 n1 c1, .slice a2 n2 c2, .slice a3 n3 c3] 43 := (Blk.new _ _ _).keep (Keeps.alloc _ _ (fun _ => True)) trivial
  have hB2 : Blk ((w9.alloc (.cells #[.int .i64 K, .slice a1 n1 c1, .slice a2 n2 c2, .slice a3 n3 c3] 43)).alloc (.cells #[.slice a4 N c4] 44)) (w9.heap.size + 1) #[.slice a4 N c4] 44 := Blk.newAt _ _ (by simp)
  refine (choose_err (lays_one (C := [.int .i64 K, .slice a1 n1 c1, .slice a2 n2 c2, .slice a3 n3 c3]) hB1 (layR.keep HLAY.out.1 KA9)) (show 0 < 1 ∧ 1 ≤ 40 by decide) (fun w' cs k hl => HDD.out w' cs _ hl (chordsR.keep (chords_one hB2 (rowsR.keep HLAY.out.2 KA9)) k) HE0.out) HE0.out HNE.out).mono ?_
  rintro e w10 ⟨rfl, hb⟩
  have HB10 : Hid (Below w.heap.size w w10) := Lib.hid (((HB9.out.alloc HB9.out.size _).alloc (by simp; omega) _).trans (hb.mono (by simp; omega)))
  clear hb HB9 K9 HZ9 KA9 hB1 hB2
  go_wp2_with fail
  go_ret
  exact ⟨rfl, HB10.out⟩
end Go.Proofs.Ytcnpanmkpfgdjaa
