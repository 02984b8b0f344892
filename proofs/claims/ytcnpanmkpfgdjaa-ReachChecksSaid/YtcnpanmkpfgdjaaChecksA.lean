/- Contracts of reach.Count and reach.Shapes by a wrong question, and of the law package's check. -/
import Derived.Test.YtcnpanmkpfgdjaaNote
import Derived.Test.YtcnpanmkpfgdjaaMakeB
namespace Go.Proofs.Ytcnpanmkpfgdjaa
open Go.RowKit Go.Sch

set_option maxRecDepth 100000 in
set_option maxHeartbeats 1000000 in
theorem count_err {w : World} {ok : Nat → Prop} {cs : List Value} {q : Quest} (h : questR.R w ok cs q) (hg : reachCheck q ≠ 0) :
    Calls Try.prog 29 #[.agg cs.toArray] w fun e w' => e = .returned (.tuple #[.int .i64 0, .int .i64 (reachCheck q)]) ∧ Below w.heap.size w w' := by
  have hT := questR.mono h (fun _ _ => trivial : ∀ b, ok b → (fun _ => True) b)
  have HQ := Lib.hid (fun w' (k : Keeps (fun _ => True) w w') => qkeys_bad (questR.keep hT k) hg)
  obtain ⟨a1, c1, a2, c2, a3, c3, a4, c4, rfl, -, -, -, -⟩ := quest_cells h
  clear h hT hg
  go_enter Try.func29, Try.ntmps29
  go_wp2_with fail
  refine (HQ.out _ ?_).mono ?_
  · exact Keeps.alloc _ _ _
  rintro e w1 ⟨rfl, hb⟩
  have HB1 := Lib.hid (((Below.refl _ _).alloc (Nat.le_refl _) _).trans (hb.mono (by simp)) : Below w.heap.size w w1)
  clear hb
  go_wp2
  refine bodyPost_ret (results_tmp2 rfl _ _ _) rfl ?_
  exact ⟨rfl, HB1.out⟩
set_option maxRecDepth 100000 in
set_option maxHeartbeats 1000000 in
theorem shapes_err {w : World} {ok : Nat → Prop} {cs : List Value} {q : Quest} (h : questR.R w ok cs q) (hg : reachCheck q ≠ 0) (d : Int) :
    Calls Try.prog 30 #[.agg cs.toArray, .int .i64 d] w fun e w' => e = .returned (.tuple #[.slice none 0 0, .int .i64 (reachCheck q)]) ∧ Below w.heap.size w w' := by
  have hT := questR.mono h (fun _ _ => trivial : ∀ b, ok b → (fun _ => True) b)
  have HQ := Lib.hid (fun w' (k : Keeps (fun _ => True) w w') => callsIn_wide (n := 2).2 (qkeys_bad (questR.keep hT k) hg))
  obtain ⟨a1, c1, a2, c2, a3, c3, a4, c4, rfl, -, -, -, -⟩ := quest_cells h
  have hc0 : (reachCheck q != 0) = true := by simp [hg]
  clear h hT hg
  have hfw : ∀ f, Fence.wide.fn f := fun _ => trivial
  have hdw : Fence.wide.depth.isSome = false := rfl
  refine callsIn_wide (n := 3).1 ?_
  refine callsIn_of_wp_marks Try.func30 rfl trivial ?_ rfl
  simp only [Try.ntmps30, List.size_toArray, List.length_cons, List.length_nil, Nat.reduceAdd, Nat.reduceSub, Array.replicate_succ, Array.replicate_zero, List.push_toArray, List.append_toArray, List.nil_append, List.cons_append]
  gi_wp2_with fail
  refine (HQ.out _ ?_).mono ?_
  · exact (Keeps.alloc _ _ _).of_alloc _
  rintro e w1 ⟨rfl, hb1⟩
  have HBW1 := Lib.hid ((((Below.refl _ _).alloc (Nat.le_refl _) _).alloc (by simp) _).trans (hb1.mono (by simp; omega)) : Below w.heap.size w w1)
  clear hb1
  gi_wp2
  refine ⟨.tuple #[.slice none 0 0, .int .i64 (reachCheck q)], ?_, ?_⟩
  · simp [results, Try.results30, go_sem]
  · exact ⟨rfl, HBW1.out⟩

set_option maxRecDepth 100000 in
set_option maxHeartbeats 4000000 in
theorem lawCheck_calls {w : World} {ok : Nat → Prop} {cs : List Value} {q : Quest} (h : questR.R w ok cs q) :
    Calls Try.prog 27 #[.agg cs.toArray] w fun e w' => e = .returned (.int .i64 (reachCheck q)) ∧ Below w.heap.size w w' := by
  obtain ⟨a1, c1, a2, c2, a3, c3, a4, c4, rfl, hl, hc, b1, b2⟩ := quest_cells h
  clear h
  have hlT := layR.mono hl (fun _ _ => trivial : ∀ b, ok b → (fun _ => True) b)
  have hcT := rowsR.mono hc (fun _ _ => trivial : ∀ b, ok b → (fun _ => True) b)
  have HL := Lib.hid (fun w' (k : Keeps (fun _ => True) w w') => layCheck_calls (layR.keep hlT k))
  have HCT := Lib.hid hcT
  clear hl hc hlT hcT
  have HB : Hid (Blk (w.alloc (.cells #[.int .i64 q.l.kind, .slice a1 q.l.o.length c1, .slice a2 q.l.r.length c2, .slice a3 q.l.u.length c3, .slice a4 q.chord.length c4, .int .i64 q.most] 46)) w.heap.size #[.int .i64 q.l.kind, .slice a1 q.l.o.length c1, .slice a2 q.l.r.length c2, .slice a3 q.l.u.length c3, .slice a4 q.chord.length c4, .int .i64 q.most] 46) := Blk.new _ _ _
  by_cases hz : layCheck q.l = 0
  · have hz' : (layCheck q.l != 0) = false := by simp [hz]
    have hrl : q.l.r.length = q.l.o.length := (layCheck_right hz).2.r
    have fin : ∀ v : Int, (if q.chord.length = 0 then 13 else if 8 < q.chord.length then 4 else if rowsCheck q.chord q.l.o.length ≠ 0 then rowsCheck q.chord q.l.o.length else windowCheck q.most) = v → v = reachCheck q := by
      intro v hv; rw [reachCheck, if_neg (by simp [hz]), hv]
    have FIN := Lib.hid fin
    have HRL := Lib.hid hrl
    obtain ⟨nr, hnr⟩ : ∃ n, n = q.l.r.length := ⟨_, rfl⟩
    rw [← hnr] at HB HL HRL
    rw [← hnr]
    clear fin hz hrl hnr
    go_enter Try.func27, Try.ntmps27
    go_wp2_with fail
    refine (HL.out _ ?_).mono ?_
    · exact Keeps.alloc _ _ _
    rintro e w1 ⟨rfl, hb1⟩
    have D := HB.out.keep (Keeps.all hb1 (fun _ => True)) trivial
    obtain ⟨⟨x0, x1, x2, x3, x4, x5⟩, -⟩ := blk6z D
    have HB1 := Lib.hid (((Below.refl _ _).alloc (Nat.le_refl _) _).trans (hb1.mono (by simp)) : Below w.heap.size w w1)
    have HCT1 := Lib.hid (rowsR.keep HCT.out ((Keeps.alloc _ _ _).trans (Keeps.all hb1 _)))
    have hsz : w.heap.size < w1.heap.size := D.lt
    clear hb1 D
    by_cases hn0 : q.chord.length = 0
    · have hn0' : ((q.chord.length : Int) == 0) = true := by simp [hn0]
      have HN := Lib.hid hn0
      clear hn0
      go_wp2
      go_ret
      exact ⟨ret_int (FIN.out _ (by rw [if_pos HN.out])), HB1.out⟩
    · have hn0' : ((q.chord.length : Int) == 0) = false := beq_eq_false_iff_ne.2 (by omega)
      by_cases hn8 : 8 < q.chord.length
      · have HN := Lib.hid (And.intro hn0 hn8)
        clear hn0
        go_wp2
        go_ret
        exact ⟨ret_int (FIN.out _ (by rw [if_neg HN.out.1, if_pos HN.out.2])), HB1.out⟩
      · have HN := Lib.hid (And.intro hn0 hn8)
        obtain ⟨ac, cc, hcv, hcd, hcc, hcx⟩ := slice1_cases rfl HCT1.out
        simp only [Value.slice.injEq] at hcv
        obtain ⟨rfl, -, rfl⟩ := hcv
        rcases hcx with ⟨-, hcx⟩ | ⟨bc, oc, cf, rfl, -, -, hcx⟩
        · omega
        have HCX := Lib.hid hcx
        obtain ⟨N, hN⟩ : ∃ N, N = q.chord.length := ⟨_, rfl⟩
        rw [← hN] at x4 hn0 hn0' hn8 hcd
        have HNN := Lib.hid hN
        unfold maxLen at hcc
        clear hcx hN b2
        go_wp2_with fail
        go_loopw [4, 5] (fun i _ wr => ∃ k : Nat, k ≤ N ∧ i = .int .i64 k ∧ Hid (rowsCheck q.chord q.l.o.length = rowsCheck (q.chord.drop k) q.l.o.length) ∧ ∃ s, Hid (wr = w1.drewN s)) (fun i _ _ => N - (intOf i).toNat)
        case atStart => exact ⟨0, Nat.zero_le _, rfl, Lib.hid (by rw [List.drop_zero]), 0, Lib.hid rfl⟩
        case round =>
          obtain ⟨k, hk, rfl, hrc, s, hs⟩ := hrel
          have hs' := hs.out
          subst hs'
          by_cases hlt : k < N
          · have hkc : k < q.chord.length := by rw [← HNN.out]; exact hlt
            obtain ⟨f1, f2⟩ := HCX.out k hkc
            obtain ⟨ar, cr, hcf, -⟩ := ints_cases f2
            rw [hcf] at f1 f2
            have hdrop := rowsCheck_drop (n := q.l.o.length) hkc
            have HDR := Lib.hid (hrc.out.trans hdrop)
            have HRC := Lib.hid (rowCheck_calls (rowR.keep f2 (keeps_drawn (Keeps.refl _ _) s)))
            obtain ⟨rk, hrk⟩ : ∃ rk, rk = q.chord[k] := ⟨_, rfl⟩
            rw [← hrk] at f1 HDR HRC
            obtain ⟨nk, hnk⟩ : ∃ nk, nk = rk.length := ⟨_, rfl⟩
            rw [← hnk] at f1 HRC HDR
            have i1 : (0 : Int) ≤ (k : Int) ∧ (k : Int) < (N : Int) := by omega
            clear f2 hcf hdrop hrk hnk
            by_cases hr : rowCheck rk = 0
            · have hr' : (rowCheck rk != 0) = false := by simp [hr]
              by_cases hnn : nk = nr
              · have hnn' : ((nk : Int) != (nr : Int)) = false := by simp [hnn]
                have HST := Lib.hid (show rowsCheck q.chord q.l.o.length = rowsCheck (q.chord.drop (k + 1)) q.l.o.length by
                  rw [HDR.out, if_neg (by simp [hr]), if_neg (by rw [hnn, HRL.out]; simp)])
                clear hr hnn
                go_wp2_with fail
                refine HRC.out.mono ?_
                rintro e w' ⟨rfl, rfl⟩
                go_wp2
                go_quiet (fail)
                go_wp2
                go_roundw
                case rel => exact ⟨k + 1, by omega, by go_num, HST, _, Lib.hid rfl⟩
                case measure => simp [intOf]; omega
              · have hnn' : ((nk : Int) != (nr : Int)) = true := by simp; omega
                have HST := Lib.hid (show rowsCheck q.chord q.l.o.length = 5 by
                  rw [HDR.out, if_neg (by simp [hr]), if_pos (by rw [← HRL.out]; omega)])
                clear hr hnn
                go_wp2_with fail
                refine HRC.out.mono ?_
                rintro e w' ⟨rfl, rfl⟩
                go_wp2
                go_quiet (fail)
                go_wp2
                go_ret
                exact ⟨ret_int (FIN.out _ (by rw [if_neg HN.out.1, if_neg HN.out.2, HST.out]; rfl)), below_drawn (below_drawn HB1.out _) _⟩
            · have hr' : (rowCheck rk != 0) = true := by simp [hr]
              have HST := Lib.hid (show rowsCheck q.chord q.l.o.length = rowCheck rk by rw [HDR.out, if_pos hr])
              have HR0 := Lib.hid hr
              clear hr
              go_wp2_with fail
              refine HRC.out.mono ?_
              rintro e w' ⟨rfl, rfl⟩
              go_wp2
              go_ret
              exact ⟨ret_int (FIN.out _ (by rw [if_neg HN.out.1, if_neg HN.out.2, HST.out, if_pos HR0.out])), below_drawn HB1.out _⟩
          · have hkN : k = N := by omega
            have HST := Lib.hid (show rowsCheck q.chord q.l.o.length = 0 by rw [hrc.out, List.drop_of_length_le (by rw [← HNN.out]; omega)]; rfl)
            subst hkN
            by_cases m1 : q.most < 0
            · go_wp2
              go_ret
              exact ⟨ret_int (FIN.out _ (by rw [if_neg HN.out.1, if_neg HN.out.2, if_neg (by simp [HST.out]), windowCheck, if_pos (by omega)])), below_drawn HB1.out _⟩
            · by_cases m2 : 20 < q.most
              · go_wp2
                go_ret
                exact ⟨ret_int (FIN.out _ (by rw [if_neg HN.out.1, if_neg HN.out.2, if_neg (by simp [HST.out]), windowCheck, if_pos (by omega)])), below_drawn HB1.out _⟩
              · go_wp2
                go_ret
                exact ⟨ret_int (FIN.out _ (by rw [if_neg HN.out.1, if_neg HN.out.2, if_neg (by simp [HST.out]), windowCheck, if_neg (by omega)])), below_drawn HB1.out _⟩
  · have hz' : (layCheck q.l != 0) = true := by simp [hz]
    have HR := Lib.hid (show layCheck q.l = reachCheck q by rw [reachCheck, if_pos hz])
    clear hz
    go_enter Try.func27, Try.ntmps27
    go_wp2_with fail
    refine (HL.out _ ?_).mono ?_
    · exact Keeps.alloc _ _ _
    rintro e w1 ⟨rfl, hb1⟩
    have HB1 := Lib.hid (((Below.refl _ _).alloc (Nat.le_refl _) _).trans (hb1.mono (by simp)) : Below w.heap.size w w1)
    clear hb1
    go_wp2
    go_ret
    exact ⟨ret_int HR.out, HB1.out⟩
end Go.Proofs.Ytcnpanmkpfgdjaa
