/- The law package's few hands back some Bool, and keeps the memory. -/
import Derived.Test.YtcnpanmkpfgdjaaFewA
namespace Go.Proofs.Ytcnpanmkpfgdjaa
open Go.RowKit Go.Sch
theorem St.cells {N0 : Nat} {v1 v2 v3 v4 : Value} {w W : World} (h : St N0 v1 v2 v3 v4 w W) :
    W.cell? ⟨N0, 1, none⟩ = some v1 ∧ W.cell? ⟨N0, 2, none⟩ = some v2 ∧ W.cell? ⟨N0, 3, none⟩ = some v3 ∧ W.cell? ⟨N0, 4, none⟩ = some v4 := h.1
set_option maxRecDepth 100000 in
set_option maxHeartbeats 4000000 in
theorem few_calls0 {w : World} (K M : Int) (a1 a2 a3 a4 : Option Addr) (n1 n2 n3 N c1 c2 c3 c4 : Nat) (hn1 : n1 ≤ 9223372036854775807) (hn2 : n2 ≤ 9223372036854775807) (hn3 : n3 ≤ 9223372036854775807)
    (hS : Sr w (.slice a4 N c4) N) (hN24 : N * 24 ≤ 140737488351232) :
    Calls Try.prog 26 #[.agg #[.int .i64 K, .slice a1 n1 c1, .slice a2 n2 c2, .slice a3 n3 c3, .slice a4 N c4, .int .i64 M]] w (SomeBool w) := by
  obtain ⟨W0, hW0⟩ : ∃ W0, W0 = w.alloc (.cells #[.int .i64 K, .slice a1 n1 c1, .slice a2 n2 c2, .slice a3 n3 c3, .slice a4 N c4, .int .i64 M] 46) := ⟨_, rfl⟩
  obtain ⟨N0, hN0⟩ : ∃ N0, N0 = w.heap.size := ⟨_, rfl⟩
  have HX : Hid (Blk W0 N0 #[.int .i64 K, .slice a1 n1 c1, .slice a2 n2 c2, .slice a3 n3 c3, .slice a4 N c4, .int .i64 M] 46) := Lib.hid (by rw [hW0, hN0]; exact Blk.new _ _ _)
  have hB0 : Below N0 w W0 := by rw [hW0]; exact (Below.refl _ _).alloc (by rw [hN0]; exact Nat.le_refl _) _
  have hZ : W0.heap.size = N0 + 1 := by rw [hW0, hN0]; simp
  have HST : Hid (St N0 (.slice a1 n1 c1) (.slice a2 n2 c2) (.slice a3 n3 c3) (.slice a4 N c4) w W0) := Lib.hid ⟨⟨by rw [HX.out.cell]; rfl, by rw [HX.out.cell]; rfl, by rw [HX.out.cell]; rfl, by rw [HX.out.cell]; rfl⟩, hB0, by omega⟩
  have HS : Hid (Sr W0 (.slice a4 N c4) N) := Lib.hid (by rw [hW0]; exact hS.alloc _)
  have HW := Lib.hid hW0
  have HN0 := Lib.hid hN0
  have HZ := Lib.hid hZ
  have HNN := Lib.hid hN24
  clear hW0 hN0 hZ hB0 HX hS hN24
  go_enter Try.func26, Try.ntmps26
  go_wp2_with fail
  rw [← HW.out, ← HN0.out]
  clear HW
  go_cut [3] (fun s3 wx => ∃ g n cap : Nat, s3 = .slice (some ⟨g, 0, none⟩) n cap ∧ n ≤ 9223372036854775807 ∧ Hid (Rw wx g n cap) ∧ Hid (Below N0 w wx))
  case first =>
    have hs0 : W0.drew.cell? ⟨N0, 1, none⟩ = some (.slice a1 n1 c1) ∧ W0.drew.cell? ⟨N0, 2, none⟩ = some (.slice a2 n2 c2) ∧ W0.drew.cell? ⟨N0, 3, none⟩ = some (.slice a3 n3 c3) ∧ W0.drew.cell? ⟨N0, 4, none⟩ = some (.slice a4 N c4) := HST.out.1
    have RA : Rw (W0.alloc (.cells #[] 41)).drew W0.heap.size 0 0 := (Rw.new _).drew
    have RB : Rw ((W0.alloc (.cells #[] 41)).alloc (.cells #[.slice a1 n1 c1, .slice a2 n2 c2, .slice a3 n3 c3] 41)).drew W0.heap.size 0 0 := ((Rw.new _).alloc _).drew
    have RC : Rw ((W0.alloc (.cells #[.slice a1 n1 c1, .slice a2 n2 c2, .slice a3 n3 c3] 41)).alloc (.cells #[] 41)).drew (W0.heap.size + 1) 0 0 := by
      have := Rw.new (W0.alloc (.cells #[.slice a1 n1 c1, .slice a2 n2 c2, .slice a3 n3 c3] 41))
      rw [show (W0.alloc (.cells #[.slice a1 n1 c1, .slice a2 n2 c2, .slice a3 n3 c3] 41)).heap.size = W0.heap.size + 1 by simp] at this
      exact this.drew
    go_region_held3 (fun w' => w'.cell? ⟨N0, 1, none⟩ = some (.slice a1 n1 c1) ∧ w'.cell? ⟨N0, 2, none⟩ = some (.slice a2 n2 c2) ∧ w'.cell? ⟨N0, 3, none⟩ = some (.slice a3 n3 c3) ∧ w'.cell? ⟨N0, 4, none⟩ = some (.slice a4 N c4))
      ((first | with_reducible exact hs0 | with_reducible exact St.cells hst2 | with_reducible exact St.cells hst1 | with_reducible exact St.cells hst2.drew | with_reducible exact St.cells hst1.drew | with_reducible exact St.cells (hst1.alloc _).drew | with_reducible exact St.cells (hst1.alloc _)
              | (refine s4_keep hs0 (ok := fun _ => True) ?_ trivial; (first | exact Keeps.alloc _ _ _ | exact (Keeps.alloc _ _ _).of_alloc _))))
      (first | (refine step_few2 (HST.out.alloc _).drew rfl (.tmp 5) (.tmp 7) rfl W0.heap.size 0 0 N rfl RA (by have := HZ.out; omega) (by simp) _ rfl (HS.out.alloc _).drew (by have := HNN.out; omega) ?_
                intro g1 cap1 w1 hr1 hst1 hN1 hlt1 hsr1
                rw [Nat.zero_add] at hr1
                clear hsr1 RA RB RC)
             | (refine step_few2 ((HST.out.alloc _).alloc _).drew rfl (.tmp 5) (.tmp 7) rfl W0.heap.size 0 0 N rfl RB (by have := HZ.out; omega) (by simp; omega) _ rfl ((HS.out.alloc _).alloc _).drew (by have := HNN.out; omega) ?_
                intro g1 cap1 w1 hr1 hst1 hN1 hlt1 hsr1
                rw [Nat.zero_add] at hr1
                have HT1 := hsr1 (W0.heap.size + 1) (by simp) (by omega) (by
                  have := Sr.new (W0.alloc (.cells #[] 41)) a1 a2 a3 n1 n2 n3 c1 c2 c3 hn1 hn2 hn3
                  rw [show (W0.alloc (.cells #[] 41)).heap.size = W0.heap.size + 1 by simp] at this
                  exact this.drew)
                clear hsr1 RA RB RC)
             | (refine step_few2 ((HST.out.alloc _).alloc _).drew rfl (.tmp 5) (.tmp 7) rfl (W0.heap.size + 1) 0 0 N rfl RC (by have := HZ.out; omega) (by simp) _ rfl ((HS.out.alloc _).alloc _).drew (by have := HNN.out; omega) ?_
                intro g1 cap1 w1 hr1 hst1 hN1 hlt1 hsr1
                rw [Nat.zero_add] at hr1
                have HT1 := hsr1 W0.heap.size (by simp; omega) (by omega) ((Sr.new W0 a1 a2 a3 n1 n2 n3 c1 c2 c3 hn1 hn2 hn3).alloc _).drew
                clear hsr1 RA RB RC)
             | (refine step_few2 (hst1.alloc _) rfl (.tmp 8) (.tmp 18) rfl g1 N cap1 3 (by first | rfl | (simp only [Nat.zero_add]; rfl)) (hr1.alloc _) hN1 (by simp; omega) _ rfl (Sr.new w1 a1 a2 a3 n1 n2 n3 c1 c2 c3 hn1 hn2 hn3) (by have := HNN.out; omega) ?_
                intro g2 cap2 w2 hr2 hst2 hN2 hlt2 hsr2
                clear hsr2)
             | (refine step_few2 hst1 rfl (.tmp 8) (.tmp 18) rfl g1 N cap1 3 (by first | rfl | (simp only [Nat.zero_add]; rfl)) hr1 hN1 hlt1 _ rfl HT1 (by have := HNN.out; omega) ?_
                intro g2 cap2 w2 hr2 hst2 hN2 hlt2 hsr2
                clear hsr2))
    all_goals
      go_wp2_with fail
      go_meet
      exact ⟨g2, _, cap2, rfl, by have := HNN.out; omega, Lib.hid hr2, Lib.hid hst2.2.1⟩
  case rest =>
    obtain ⟨g, n, cap, rfl, hn, hrw, hb⟩ := hcut
    have hread : ∀ j : Nat, j < n → ∃ a l c, wc.cell? ⟨g, j, none⟩ = some (.slice a l c) ∧ l ≤ 9223372036854775807 := by
      obtain ⟨xs, h1, h2⟩ := hrw.out
      intro j hj
      rcases h1.2 with ⟨h0, _⟩ | ⟨g1, cap1, cur, h0, _, hg, h3, _, h5, h6⟩
      · cases h0
      · cases h0
        have hjl : j < cur.size := by omega
        have hmem : cur[j] ∈ xs := by
          rw [← h6]
          have hlt : j < (cur.toList.take (n * 1)).length := by simp; omega
          have h7 := List.getElem_mem hlt
          rw [List.getElem_take] at h7
          simpa using h7
        obtain ⟨a, l, c, h8, h9⟩ := h2 _ hmem
        refine ⟨a, l, c, ?_, h9⟩
        rw [cell_of_row wc g j cur _ _ hg, Array.getElem?_eq_getElem hjl, h8]
    clear hrw
    go_wp2_with fail
    go_loopw [4] (fun i wr => ∃ k : Nat, k ≤ n ∧ i = .int .i64 k ∧ wr = wc) (fun i _ => n - (intOf i).toNat)
    case atStart => exact ⟨0, Nat.zero_le _, rfl, rfl⟩
    case round =>
      obtain ⟨k, hk, rfl, rfl⟩ := hrel
      by_cases hlt : k < n
      · obtain ⟨a, l, c, hc, hl⟩ := hread k hlt
        by_cases h14 : 14 < l
        · go_wp2_with fail
          refine bodyPost_ret (results_tmp rfl _ _ _) rfl ?_
          exact ⟨_, rfl, HN0.out ▸ hb.out⟩
        · go_wp2_with fail
          refine ⟨⟨k + 1, by omega, by rw [Int.natCast_add]; rfl, trivial⟩, ?_⟩
          show n - (((k : Int) + 1)).toNat < n - ((k : Int)).toNat
          omega
      · go_wp2_with fail
        refine bodyPost_ret (results_tmp rfl _ _ _) rfl ?_
        exact ⟨_, rfl, HN0.out ▸ hb.out⟩
theorem few_calls {w : World} {ok : Nat → Prop} {cs : List Value} {q : Quest} (h : questR.R w ok cs q) (hlen : q.chord.length * 24 ≤ 140737488351232) :
    Calls Try.prog 26 #[.agg cs.toArray] w (SomeBool w) := by
  obtain ⟨a1, c1, a2, c2, a3, c3, a4, c4, rfl, hl, hc, b1, b2⟩ := quest_cells h
  obtain ⟨v1, v2, v3, he, -, ho, hr, hu⟩ := hl
  simp only [List.cons.injEq, and_true] at he
  obtain ⟨-, rfl, rfl, rfl⟩ := he
  obtain ⟨_, _, h1, h11, h12, -⟩ := ints_cases ho
  obtain ⟨_, _, h2, h21, h22, -⟩ := ints_cases hr
  obtain ⟨_, _, h3, h31, h32, -⟩ := ints_cases hu
  simp only [Value.slice.injEq] at h1 h2 h3
  unfold maxLen at h12 h22 h32
  refine few_calls0 _ _ _ _ _ _ _ _ _ _ _ _ _ _ (by omega) (by omega) (by omega) ?_ hlen
  obtain ⟨ao, cap, hcv, -, -, hx⟩ := slice1_cases rfl hc
  simp only [Value.slice.injEq] at hcv
  obtain ⟨rfl, -, rfl⟩ := hcv
  rcases hx with ⟨hx0, hx⟩ | ⟨b, off, cf, rfl, -, -, hx⟩
  · rw [hx]
    rcases a4 with _ | ad
    · exact ⟨_, .inr ⟨rfl, rfl⟩⟩
    · exact ⟨_, .inl ⟨ad, rfl, fun j hj => absurd hj (Nat.not_lt_zero _)⟩⟩
  · refine ⟨_, .inl ⟨_, rfl, fun j hj => ?_⟩⟩
    obtain ⟨f1, f2⟩ := hx j hj
    obtain ⟨ar, cr, hcf, g1, g2, -⟩ := ints_cases f2
    unfold maxLen at g2
    rw [Addr.add_lit, f1, hcf]
    exact ⟨_, _, _, rfl, by omega⟩
end Go.Proofs.Ytcnpanmkpfgdjaa
