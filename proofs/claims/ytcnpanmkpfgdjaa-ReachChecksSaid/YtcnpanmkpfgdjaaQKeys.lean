/- Contract of reach.keys. -/
import Derived.Test.YtcnpanmkpfgdjaaQuest
namespace Go.Proofs.Ytcnpanmkpfgdjaa
open Go.RowKit Go.Sch

theorem Try.info_keys : (Try.prog.info? 31).map (fun i => (i.zero, i.size, i.bytes)) = some (some (.slice none 0 0), 1, 24) := by kernel_rfl

def qLists (q : Quest) : List (List (Int × Int)) := q.chord.map fun r => keysOf q.l r q.most.toNat
def prodN (ls : List (List (Int × Int))) : Nat → Nat
  | 0 => 1
  | k + 1 => prodN ls k * (ls[k]?.getD []).length
theorem prodN_mono {ls : List (List (Int × Int))} (h : ∀ i, i < ls.length → 1 ≤ (ls[i]?.getD []).length) : ∀ {k n : Nat}, k ≤ n → n ≤ ls.length → prodN ls k ≤ prodN ls n := by
  intro k n hk hn
  induction n with
  | zero => obtain rfl : k = 0 := by omega
            exact Nat.le_refl _
  | succ n ih =>
    rcases Nat.lt_or_ge n k with hlt | hle
    · obtain rfl : k = n + 1 := by omega
      exact Nat.le_refl _
    · refine Nat.le_trans (ih hle (by omega)) ?_
      rw [prodN]
      exact Nat.le_mul_of_pos_right _ (h n (by omega))
def anyEmpty (ls : List (List (Int × Int))) : Bool := ls.any fun l => l.length == 0
/-- The number of choices and the error. -/
def qCount (q : Quest) : Int × Int :=
  if reachCheck q ≠ 0 then (0, reachCheck q)
  else if anyEmpty (qLists q) = true then (0, 0)
  else if 50000 < prodN (qLists q) (qLists q).length then (0, 4) else ((prodN (qLists q) (qLists q).length : Int), 0)

theorem keyAt_in {l : Lay} {r : List Int} {m : Nat} (hm : m ≤ 20) {j i : Nat} (hj : j ≤ 2 * m) (hi : i ≤ 2 * m) : ∀ k ∈ keyAt l r m ((j : Int) - m) i, (-20 ≤ k.1 ∧ k.1 ≤ 20) ∧ (-20 ≤ k.2 ∧ k.2 ≤ 20) := by
  intro k hk
  unfold keyAt at hk
  split at hk
  · simp only [List.mem_singleton] at hk
    subst hk
    dsimp only
    omega
  · simp at hk
theorem keysOf_in {l : Lay} {r : List Int} {m : Nat} (hm : m ≤ 20) : ∀ k ∈ keysOf l r m, (-20 ≤ k.1 ∧ k.1 ≤ 20) ∧ (-20 ≤ k.2 ∧ k.2 ≤ 20) := by
  intro k hk
  unfold keysOf allN lineN at hk
  rw [List.mem_flatMap] at hk
  obtain ⟨j, hj, hk⟩ := hk
  rw [List.mem_flatMap] at hk
  obtain ⟨i, hi, hk⟩ := hk
  rw [List.mem_range] at hi hj
  exact keyAt_in hm (by omega) (by omega) k hk
theorem keysOf_len (l : Lay) (r : List Int) (m : Nat) (hm : m ≤ 20) : (keysOf l r m).length ≤ 1681 := by
  refine Nat.le_trans (allN_len _ _ _ _ _) ?_
  exact Nat.mul_le_mul (by omega : 2 * m + 1 ≤ 41) (by omega : 2 * m + 1 ≤ 41)
theorem rowsCheck_all {n : Int} : ∀ {l : List (List Int)}, rowsCheck l n = 0 → ∀ r ∈ l, rowCheck r = 0 ∧ (r.length : Int) = n
  | [], _, r, hr => by simp at hr
  | x :: l, h, r, hr => by
    rw [rowsCheck] at h
    by_cases h1 : rowCheck x ≠ 0
    · rw [if_pos h1] at h; omega
    rw [if_neg h1] at h
    by_cases h2 : (x.length : Int) ≠ n
    · rw [if_pos h2] at h; omega
    rw [if_neg h2] at h
    rcases List.mem_cons.1 hr with rfl | hr
    · exact ⟨by omega, by omega⟩
    · exact rowsCheck_all h r hr
theorem reachCheck_good {q : Quest} (h : reachCheck q = 0) : layCheck q.l = 0 ∧ 0 < q.chord.length ∧ q.chord.length ≤ 8 ∧ (∀ r ∈ q.chord, sizedCheck q.l r = 0) ∧ 0 ≤ q.most ∧ q.most ≤ 20 := by
  unfold reachCheck at h
  by_cases h1 : layCheck q.l ≠ 0
  · rw [if_pos h1] at h; omega
  rw [if_neg h1] at h
  by_cases h2 : q.chord.length = 0
  · rw [if_pos h2] at h; omega
  rw [if_neg h2] at h
  by_cases h3 : 8 < q.chord.length
  · rw [if_pos h3] at h; omega
  rw [if_neg h3] at h
  by_cases h4 : rowsCheck q.chord q.l.o.length ≠ 0
  · rw [if_pos h4] at h; omega
  rw [if_neg h4] at h
  unfold windowCheck at h
  split at h
  · omega
  · refine ⟨by omega, by omega, by omega, fun r hr => ?_, by omega, by omega⟩
    have := rowsCheck_all (n := q.l.o.length) (by omega) r hr
    rw [sizedCheck, if_neg h1, rowsCheck, if_neg (by omega), if_neg (by omega), rowsCheck]

theorem ret_three {a b c a' b' c' : Value} (h : a = a') (h1 : b = b') (h2 : c = c') : Ending.returned (.tuple #[a, b, c]) = .returned (.tuple #[a', b', c']) := by rw [h, h1, h2]
set_option maxRecDepth 100000 in
set_option maxHeartbeats 4000000 in
theorem qkeys_good {w : World} {ok : Nat → Prop} {cs : List Value} {q : Quest} (h : questR.R w ok cs q) (hg : reachCheck q = 0) :
    Calls Try.prog 37 #[.agg cs.toArray] w fun e w' => ∃ v, e = .returned (.tuple #[v, .int .i64 (qCount q).1, .int .i64 (qCount q).2]) ∧ Below w.heap.size w w' ∧
      ((qCount q).2 = 0 → (sliceR keysR).R w' (fun b => w.heap.size ≤ b) [v] (qLists q)) ∧ ((qCount q).2 ≠ 0 → v = .slice none 0 0) := by
  have HCK := Lib.hid (fun w' (k : Keeps (fun _ => True) w w') => reachCheck_calls (questR.keep (questR.mono h (fun _ _ => trivial : ∀ b, ok b → (fun _ => True) b)) k))
  obtain ⟨a1, c1, a2, c2, a3, c3, a4, c4, rfl, hl, hc, b1, b2⟩ := quest_cells h
  clear h
  have hlT := layR.mono hl (fun _ _ => trivial : ∀ b, ok b → (fun _ => True) b)
  have hcT := rowsR.mono hc (fun _ _ => trivial : ∀ b, ok b → (fun _ => True) b)
  obtain ⟨g1, g2, g3, g4, g5, g6⟩ := reachCheck_good hg
  obtain ⟨m, hm⟩ : ∃ m : Nat, q.most = m := ⟨q.most.toNat, by omega⟩
  have hm20 : m ≤ 20 := by omega
  have HL := Lib.hid (fun w' (k : Keeps (fun _ => True) w w') u r (hr : rowR.R w' (fun _ => True) [u] r) (hs : sizedCheck q.l r = 0) => keys_good (layR.keep hlT k) hr m hm20 hs)
  have hg' : (reachCheck q != 0) = false := by simp [hg]
  have HG := Lib.hid hg
  have HS := Lib.hid g4
  have HM := Lib.hid hm
  rw [hm] at HCK ⊢
  clear hl hlT hg g1 g4 g5 g6 hm
  obtain ⟨ao, cap, hv, h2, h3, h4⟩ := slice1_cases rfl hcT
  simp only [Value.slice.injEq] at hv
  obtain ⟨rfl, -, rfl⟩ := hv
  rcases h4 with ⟨h4, h5⟩ | ⟨b, off, c, rfl, -, -, hcell⟩
  · omega
  have HC := Lib.hid hcell
  clear hcell hcT hc
  obtain ⟨n, hn⟩ : ∃ n, n = q.chord.length := ⟨_, rfl⟩
  rw [← hn] at h2 g2 g3 HCK ⊢
  have HN := Lib.hid hn
  clear hn b2 h3
  have hlen : (qLists q).length = n := by rw [qLists, List.length_map, ← HN.out]
  have HLEN := Lib.hid hlen
  clear hlen
  have HB : Hid (Blk (w.alloc (.cells #[.int .i64 q.l.kind, .slice a1 q.l.o.length c1, .slice a2 q.l.r.length c2, .slice a3 q.l.u.length c3, .slice (some ⟨b, off, none⟩) n c4, .int .i64 m] 46)) w.heap.size #[.int .i64 q.l.kind, .slice a1 q.l.o.length c1, .slice a2 q.l.r.length c2, .slice a3 q.l.u.length c3, .slice (some ⟨b, off, none⟩) n c4, .int .i64 m] 46) := Blk.new _ _ _
  go_enter Try.func37, Try.ntmps37
  go_wp2_with fail
  refine (HCK.out _ ?_).mono ?_
  · exact Keeps.alloc _ _ _
  rintro e w1 ⟨rfl, hb1⟩
  have HD := Lib.hid (HB.out.keep (Keeps.all hb1 (fun _ => True)) trivial)
  have HBL := Lib.hid (((Below.refl w.heap.size w).alloc (Nat.le_refl _) _).trans (hb1.mono (by simp)))
  have X4 : w1.cell? ⟨w.heap.size, 4, none⟩ = some (.slice (some ⟨b, off, none⟩) n c4) := by rw [HD.out.cell]; rfl
  have hsz : w.heap.size < w1.heap.size := HD.out.lt
  clear hb1
  go_wp2_with fail
  go_loopw [6, 24] (fun u i wr => ∃ k : Nat, k ≤ n ∧ i = .int .i64 k ∧ Hid (OwnsOf keysR wr (w.heap.size + 1) 31 u ((qLists q).take k)) ∧ Hid (Keeps (· < w.heap.size + 1) w1 wr) ∧ Hid (Below w.heap.size w wr)) (fun _ i _ => n - (intOf i).toNat)
  case atStart => exact ⟨0, Nat.zero_le _, rfl, OwnsOf.nil _ _ _ _, Keeps.refl _ _, HBL⟩
  case round =>
    obtain ⟨k, hk, rfl, hown, hkp, hbl⟩ := hrel
    by_cases hlt : k < n
    · obtain ⟨TT, hTT⟩ : ∃ TT, TT = (qLists q).take k := ⟨_, rfl⟩
      rw [← hTT] at hown
      have htl : TT.length = k := by rw [hTT, List.length_take, HLEN.out]; omega
      have HTT := Lib.hid hTT
      clear hTT
      have hkl : k < q.chord.length := by rw [← HN.out]; exact hlt
      have D := HD.out.keep hkp.out (by omega)
      have KW : Keeps (fun _ => True) w wr := Keeps.all hbl.out _
      have HKW := Lib.hid KW
      have hrow := HC.out k hkl
      have HROW := Lib.hid (rowR.keep hrow.2 KW)
      have Z0 := KW.cell (a := ⟨b, off + k, none⟩) trivial hrow.1
      have Z1 : wr.cell? ⟨w.heap.size, 0, none⟩ = some (.int .i64 q.l.kind) := by rw [D.cell]; rfl
      have Z2 : wr.cell? ⟨w.heap.size, 1, none⟩ = some (.slice a1 q.l.o.length c1) := by rw [D.cell]; rfl
      have Z3 : wr.cell? ⟨w.heap.size, 2, none⟩ = some (.slice a2 q.l.r.length c2) := by rw [D.cell]; rfl
      have Z4 : wr.cell? ⟨w.heap.size, 3, none⟩ = some (.slice a3 q.l.u.length c3) := by rw [D.cell]; rfl
      have Z5 : wr.cell? ⟨w.heap.size, 5, none⟩ = some (.int .i64 m) := by rw [D.cell]; rfl
      have hszr : w.heap.size < wr.heap.size := D.lt
      have HSK := Lib.hid (HS.out _ (List.getElem_mem hkl))
      have HLK := Lib.hid (show (qLists q)[k]'(by rw [HLEN.out]; exact hlt) = keysOf q.l q.chord[k] m by simp [qLists, HM.out])
      obtain ⟨r, hr⟩ : ∃ r, r = q.chord[k] := ⟨_, rfl⟩
      rw [← hr] at HROW HSK HLK
      clear KW hrow D X4 hr
      go_wp2_with fail
      refine (HL.out _ ?_ _ _ HROW.out HSK.out).mono ?_
      · exact HKW.out
      rintro e w2 ⟨u, rfl, hu, hb2⟩
      obtain ⟨ao, cap, rfl⟩ := own_shape hu
      have HU := Lib.hid (keys_of_own (ok := fun b => wr.heap.size ≤ b) hu (fun b hb => hb) (fun k hk => by have := keysOf_in hm20 k hk; exact ⟨wf64_mk (by omega) (by omega), wf64_mk (by omega) (by omega)⟩))
      obtain ⟨xs, ho, hel⟩ := hown.out
      have hxl : xs.length = TT.length := by have := ho.1; omega
      have HB2 := Lib.hid hb2
      have hb2s : wr.heap.size ≤ w2.heap.size := hb2.size
      have HO2 := Lib.hid (own_all ho (Keeps.all hb2 _))
      have HE2 := Lib.hid (fun i hi => keysR.keep (hel i hi) (Keeps.all hb2 _))
      have HXL := Lib.hid hxl
      have HUB := Lib.hid (fun g => own_ge ho (g := g))
      have HBD := Lib.hid (show (TT.length + 1) * 24 ≤ 140737488355328 by omega)
      have HTL := Lib.hid htl
      clear hu ho hel hxl hb2 htl
      go_wp2_with ((with_reducible refine wpList_append_one (o := ⟨some 43, _, _, _, _, _⟩) ?_ (.tmp 40) (.tmp 42) 72 ?_ (w.heap.size + 1) 31 (.slice none 0 0) 1 24 Try.underlying72 Try.info_keys ?_ ?_ ?_ u6 _ _ ?_ (own_all HO2.out ?_) w2.heap.size ?_ [.slice ao (keysOf q.l r m).length cap] ?_ ?_ ?_ HBD.out ?_ ?_); rfl; rfl; rfl; decide; decide; rfl; (exact Keeps.alloc _ _ _); rfl; rfl; (exact (Blk.newAt _ _ rfl).at _ _ (by intro t ht; match t, ht with | 0, _ => rfl)); (simp [Value.oneCell']); (simp; omega); intro g' cap' w5 hown5 hk5 hb5 hg5; have HO5 := Lib.hid hown5; have HK6 := Lib.hid hk5; have HB5 := Lib.hid hb5; have HG5 := Lib.hid hg5; clear hown5 hk5 hb5 hg5)
      go_roundw
      case rel =>
        refine ⟨k + 1, by omega, by go_num, ?_, ?_, ?_⟩
        · have e : (qLists q).take (k + 1) = (qLists q).take k ++ [keysOf q.l r m] := by rw [take_snoc (by rw [HLEN.out]; exact hlt), HLK.out]
          rw [e, ← HTT.out]
          refine OwnsOf.snoc (w := w2.alloc (.cells #[.slice ao (keysOf q.l r m).length cap] 31)) (u := u6) (fun i hi => keysR.keep (HE2.out i hi) (Keeps.alloc _ _ _)) HXL.out ?_ HO5.out HK6.out ?_
          · refine keysR.keep (keysR.mono HU.out fun b hb => ⟨by omega, fun e => ?_⟩) (Keeps.alloc _ _ _)
            have := HUB.out b e
            omega
          · rintro g e
            cases e
            exact HG5.out.2.2
        · exact ((hkp.out.trans (Keeps.all HB2.out _)).trans (Keeps.alloc w2 _ _)).trans (Keeps.below HB5.out)
        · exact ((hbl.out.trans (HB2.out.mono (by omega))).alloc (by omega) _).trans (HB5.out.mono (by omega))
      case measure => simp [intOf]; omega
    · have hkn : k = n := by omega
      subst hkn
      have htn : (qLists q).take k = qLists q := by rw [← HLEN.out, List.take_length]
      rw [htn] at hown
      have HREAD := Lib.hid (OwnsOf.read (E := keysR) rfl hown.out)
      obtain ⟨xs, ho, hel⟩ := hown.out
      rw [HLEN.out] at ho
      obtain ⟨n', rfl⟩ : ∃ n', k = n' + 1 := ⟨k - 1, by omega⟩
      obtain ⟨g, cap, rfl, hg1, hg2⟩ := own_succ ho
      obtain ⟨ao', cap', hv', h2', h3', h4'⟩ := slice1_cases rfl HREAD.out
      simp only [Value.slice.injEq] at hv'
      obtain ⟨rfl, -, rfl⟩ := hv'
      rcases h4' with ⟨h4', h5'⟩ | ⟨b', off', c', hb', -, -, hc'⟩
      · rw [HLEN.out] at h5'; omega
      simp only [Option.some.injEq, Addr.mk.injEq, and_true] at hb'
      obtain ⟨rfl, rfl⟩ := hb'
      have hcl : ∀ i, i < n' + 1 → ∃ ao cap, wr.cell? ⟨g, i, none⟩ = some (.slice ao ((qLists q)[i]?.getD []).length cap) ∧ ((qLists q)[i]?.getD []).length ≤ 1681 := by
        intro i hi
        have hi' : i < (qLists q).length := by rw [HLEN.out]; exact hi
        obtain ⟨p1, p2⟩ := hc' i hi'
        obtain ⟨ao, cap, e, -⟩ := keys_cases p2
        rw [e] at p1
        rw [List.getElem?_eq_getElem hi']
        refine ⟨ao, cap, by simpa using p1, ?_⟩
        simp only [qLists, List.getElem_map, Option.getD_some]
        exact keysOf_len _ _ _ (by rw [HM.out]; exact hm20)
      have HCL := Lib.hid hcl
      clear hcl hc' h2' h3' ho hel htn hown X4
      have HBW := hbl
      go_wp2_with fail
      go_loop [13, 47] (fun _ i => ∃ j : Nat, j ≤ n' + 1 ∧ i = .int .i64 j ∧ Hid (NoneYet (fun a => ((qLists q)[a]?.getD []).length == 0) j)) (fun _ i => n' + 1 - (intOf i).toNat)
      case atStart => exact ⟨0, Nat.zero_le _, rfl, NoneYet.zero _⟩
      case round =>
        obtain ⟨j, hj, rfl, hno⟩ := hrel
        by_cases hlj : j < n' + 1
        · obtain ⟨ao, cp, hcell, hle⟩ := HCL.out j hlj
          cases he : (((qLists q)[j]?.getD []).length == 0)
          · have hno' := hno.succ he
            have he' : ((((qLists q)[j]?.getD []).length : Int) == 0) = false := by
              rw [beq_eq_false_iff_ne] at he ⊢; omega
            have HE := Lib.hid he
            clear he
            obtain ⟨L, hL⟩ : ∃ L, L = ((qLists q)[j]?.getD []).length := ⟨_, rfl⟩
            rw [← hL] at hcell he' hle
            clear hL
            go_wp2
            go_round
            case rel => exact ⟨j + 1, by omega, by go_num, hno'⟩
            case measure => simp [intOf]; omega
          · have he' : ((((qLists q)[j]?.getD []).length : Int) == 0) = true := by
              rw [beq_iff_eq] at he ⊢; omega
            have hany : anyEmpty (qLists q) = true := List.any_eq_true.2 ⟨(qLists q)[j]'(by rw [HLEN.out]; exact hlj), List.getElem_mem _, by
              have := he
              rw [List.getElem?_eq_getElem (by rw [HLEN.out]; exact hlj)] at this
              simpa using this⟩
            have HQ := Lib.hid (show qCount q = (0, 0) by rw [qCount, if_neg (by simp [HG.out]), if_pos hany])
            clear he hany
            obtain ⟨L, hL⟩ : ∃ L, L = ((qLists q)[j]?.getD []).length := ⟨_, rfl⟩
            rw [← hL] at hcell he' hle
            clear hL
            go_wp2
            refine bodyPost_ret (results_tmp3 rfl _ _ _) rfl ?_
            refine ⟨_, ret_three rfl (by rw [HQ.out]; rfl) (by rw [HQ.out]; rfl), hbl.out, fun _ => sliceR keysR |>.mono HREAD.out fun b hb => by omega, fun h => ?_⟩
            rw [HQ.out] at h
            exact absurd rfl h
        · have hjn : j = n' + 1 := by omega
          subst hjn
          have hne : ∀ i, i < (qLists q).length → 1 ≤ ((qLists q)[i]?.getD []).length := by
            intro i hi
            have := hno.out i (by rw [← HLEN.out]; exact hi)
            rw [beq_eq_false_iff_ne] at this
            omega
          have HNE := Lib.hid hne
          have hany : anyEmpty (qLists q) = false := by
            rw [anyEmpty, List.any_eq_false]
            intro x hx
            obtain ⟨i, hi, rfl⟩ := List.getElem_of_mem hx
            have := hne i hi
            rw [List.getElem?_eq_getElem hi, Option.getD_some] at this
            simp; intro h0; rw [h0] at this; simp at this
          have HANY := Lib.hid hany
          clear hne hany hno
          go_wp2_with fail
          go_loop [11, 15, 58] (fun p _ i => ∃ (j : Nat) (P : Int), j ≤ n' + 1 ∧ i = .int .i64 j ∧ p = .int .i64 P ∧ Hid (P = (prodN (qLists q) j : Int)) ∧ 0 ≤ P ∧ P ≤ 50000) (fun _ _ i => n' + 1 - (intOf i).toNat)
          case atStart => exact ⟨0, 1, Nat.zero_le _, rfl, rfl, Lib.hid rfl, by omega, by omega⟩
          case round =>
            obtain ⟨j, P, hj, rfl, rfl, hP, hP0, hP1⟩ := hrel
            by_cases hlj : j < n' + 1
            · obtain ⟨ao, cp, hcell, hle⟩ := HCL.out j hlj
              have HS1 := Lib.hid (show (prodN (qLists q) (j + 1) : Int) = P * (((qLists q)[j]?.getD []).length : Int) by rw [prodN, Int.natCast_mul, hP.out])
              have HMO := Lib.hid (prodN_mono HNE.out (show j + 1 ≤ (qLists q).length by rw [HLEN.out]; omega) (Nat.le_refl _))
              obtain ⟨L, hL⟩ : ∃ L, L = ((qLists q)[j]?.getD []).length := ⟨_, rfl⟩
              rw [← hL] at hcell hle HS1
              clear hL hP
              have hbd : 0 ≤ P * (L : Int) ∧ P * (L : Int) ≤ 84050000 := by
                refine ⟨Int.mul_nonneg hP0 (by omega), ?_⟩
                have h1 : P * (L : Int) ≤ 50000 * (L : Int) := Int.mul_le_mul_of_nonneg_right hP1 (by omega)
                omega
              by_cases hov : 50000 < P * (L : Int)
              · have HQ := Lib.hid (show qCount q = (0, 4) by
                  rw [qCount, if_neg (by simp [HG.out]), if_neg (by rw [HANY.out]; decide), if_pos (by have := HMO.out; have := HS1.out; omega)])
                go_wp2
                refine bodyPost_ret (results_tmp3 rfl _ _ _) rfl ?_
                refine ⟨_, ret_three rfl (by rw [HQ.out]; rfl) (by rw [HQ.out]; rfl), hbl.out, fun h => ?_, fun _ => rfl⟩
                rw [HQ.out] at h
                exact absurd h (by decide)
              · go_wp2
                go_round
                case rel => exact ⟨j + 1, P * L, by omega, by go_num, rfl, Lib.hid HS1.out.symm, by omega, by omega⟩
                case measure => simp [intOf]; omega
            · have hjn : j = n' + 1 := by omega
              subst hjn
              have HQ := Lib.hid (show qCount q = (P, 0) by
                have := hP.out
                rw [qCount, if_neg (by simp [HG.out]), if_neg (by rw [HANY.out]; decide), HLEN.out, if_neg (by omega), this])
              clear hP
              go_wp2
              refine bodyPost_ret (results_tmp3 rfl _ _ _) rfl ?_
              refine ⟨_, ret_three rfl (by rw [HQ.out]; rfl) (by rw [HQ.out]; rfl), hbl.out, fun _ => sliceR keysR |>.mono HREAD.out fun b hb => by omega, fun h => ?_⟩
              rw [HQ.out] at h
              exact absurd rfl h
set_option maxRecDepth 100000 in
theorem qkeys_bad {w : World} {ok : Nat → Prop} {cs : List Value} {q : Quest} (h : questR.R w ok cs q) (hg : reachCheck q ≠ 0) :
    Calls Try.prog 37 #[.agg cs.toArray] w fun e w' => e = .returned (.tuple #[.slice none 0 0, .int .i64 0, .int .i64 (reachCheck q)]) ∧ Below w.heap.size w w' := by
  have HCK := Lib.hid (fun w' (k : Keeps (fun _ => True) w w') => reachCheck_calls (questR.keep (questR.mono h (fun _ _ => trivial : ∀ b, ok b → (fun _ => True) b)) k))
  obtain ⟨a1, c1, a2, c2, a3, c3, a4, c4, rfl, -, -, -, -⟩ := quest_cells h
  clear h
  have hg' : (reachCheck q != 0) = true := by simp [hg]
  have HG := Lib.hid hg
  clear hg
  go_enter Try.func37, Try.ntmps37
  go_wp2_with fail
  refine (HCK.out _ ?_).mono ?_
  · exact Keeps.alloc _ _ _
  rintro e w1 ⟨rfl, hb1⟩
  have HBL := Lib.hid (((Below.refl w.heap.size w).alloc (Nat.le_refl _) _).trans (hb1.mono (by simp)))
  clear hb1
  go_wp2
  refine bodyPost_ret (results_tmp3 rfl _ _ _) rfl ?_
  exact ⟨rfl, HBL.out⟩
end Go.Proofs.Ytcnpanmkpfgdjaa
