/- Contracts of the law package's rowOf and Rows. -/
import Derived.Test.YtcnpanmkpfgdjaaWinLaw
import Derived.Test.YtcnpanmkpfgdjaaBalls
import Derived.Deep.RegionHeld3
namespace Go.Proofs.Ytcnpanmkpfgdjaa
open Go.RowKit Go.Sch

theorem small_wf {n : Nat} {r : List Int} (h : small n r) : ∀ x ∈ r, (Lit.int .i64 x).wf = true := fun x hx => by
  have := h.2 x hx
  exact wf64_mk (by omega) (by omega)
theorem rowOfL_len (two : Bool) (x : Int × Int) : (rowOfL two x).length = if two then 2 else 1 := (rowOfL_small two x).1
theorem two_max (two : Bool) : (if two then 2 else 1 : Nat) ≤ maxLen := by cases two <;> decide
set_option maxRecDepth 100000 in
set_option maxHeartbeats 2000000 in
theorem rowOf_calls (two : Bool) (a b : Int) (w : World) :
    Calls Try.prog 35 #[.bool two, .agg #[.int .i8 a, .int .i8 b]] w fun e w' => ∃ g, e = .returned (.slice (some ⟨g, 0, none⟩) (if two then 2 else 1) (if two then 2 else 1)) ∧
      rowR.R w' (fun b => w.heap.size ≤ b) [.slice (some ⟨g, 0, none⟩) (if two then 2 else 1) (if two then 2 else 1)] (rowOfL two (a, b)) ∧ Below w.heap.size w w' := by
  have t1 : -12 ≤ a.tmod 13 ∧ a.tmod 13 ≤ 12 := tmod_bd a
  have t2 : -12 ≤ b.tmod 13 ∧ b.tmod 13 ≤ 12 := tmod_bd b
  have HB := Lib.hid ((Below.refl _ w).alloc (Nat.le_refl _) (.cells #[.int .i8 a, .int .i8 b] 36))
  have HW : Hid (∀ x ∈ rowOfL two (a, b), (Lit.int .i64 x).wf = true) := Lib.hid (small_wf (rowOfL_small two (a, b)))
  cases two
  · go_enter Try.func35, Try.ntmps35
    go_wp2
    go_ret
    refine ⟨w.heap.size + 1, rfl, ?_, HB.out.alloc (by simp) _⟩
    exact ints_of_blk (k := .i64) (zs := [a.tmod 13]) (Blk.newAt _ _ (by simp)) (Nat.le_succ _) (show 1 ≤ maxLen by decide) HW.out
  · go_enter Try.func35, Try.ntmps35
    go_wp2
    go_ret
    refine ⟨w.heap.size + 1, rfl, ?_, HB.out.alloc (by simp) _⟩
    exact ints_of_blk (k := .i64) (zs := [a.tmod 13, b.tmod 13]) (Blk.newAt _ _ (by simp)) (Nat.le_succ _) (show 2 ≤ maxLen by decide) HW.out

/-- Pairs of int8: two cells each. -/
def pair8R : Rep (Int × Int) where
  size := 2
  R _ _ cs x := cs = [.int .i8 x.1, .int .i8 x.2] ∧ (-128 ≤ x.1 ∧ x.1 ≤ 127) ∧ (-128 ≤ x.2 ∧ x.2 ≤ 127)
  len h := by rw [h.1]; rfl
  keep h _ := h
  mono h _ := h
  pos := by decide
  lt h := h
theorem pairs8_cases {w : World} {ok : Nat → Prop} {v : Value} {l : List (Int × Int)} (h : (sliceR pair8R).R w ok [v] l) :
    ∃ ao cap, v = .slice ao l.length cap ∧ l.length ≤ cap ∧ cap ≤ maxLen ∧ (∀ i : Nat, (-128 ≤ (l[i]?.getD (0, 0)).1 ∧ (l[i]?.getD (0, 0)).1 ≤ 127) ∧ (-128 ≤ (l[i]?.getD (0, 0)).2 ∧ (l[i]?.getD (0, 0)).2 ≤ 127)) ∧
      ((l = [] ∧ l.length = 0) ∨ ∃ b off, ao = some ⟨b, off, none⟩ ∧ ok b ∧ 0 < l.length ∧
        ∀ i, i < l.length → w.cell? ⟨b, off + i * 2, none⟩ = some (.int .i8 (l[i]?.getD (0, 0)).1) ∧ w.cell? ⟨b, off + i * 2 + 1, none⟩ = some (.int .i8 (l[i]?.getD (0, 0)).2)) := by
  obtain ⟨ao, cap, hv, h2, h3, h4⟩ := h
  refine ⟨ao, cap, by simpa using hv, h2, h3, ?_, ?_⟩
  · intro i
    rcases Nat.lt_or_ge i l.length with hi | hi
    · rcases h4 with rfl | ⟨b, off, _, _, he⟩
      · simp at hi
      · obtain ⟨es, _, hr⟩ := he i hi
        rw [List.getElem?_eq_getElem hi]
        exact hr.2
    · rw [List.getElem?_eq_none hi]
      simp
  · rcases h4 with rfl | ⟨b, off, ha, ho, he⟩
    · exact .inl ⟨rfl, rfl⟩
    · by_cases h0 : l.length = 0
      · exact .inl ⟨List.eq_nil_of_length_eq_zero h0, h0⟩
      · refine .inr ⟨b, off, ha, ho, by omega, fun i hi => ?_⟩
        obtain ⟨es, hat, hr⟩ := he i hi
        obtain ⟨rfl, _⟩ := hr
        have a0 := hat 0 (by simp)
        have a1 := hat 1 (by simp)
        simp only [pair8R, Nat.add_zero, List.getElem_cons_zero, List.getElem_cons_succ] at a0 a1
        rw [List.getElem?_eq_getElem hi]
        exact ⟨a0, a1⟩
theorem Try.info_row : (Try.prog.info? 41).map (fun i => (i.zero, i.size, i.bytes)) = some (some (.slice none 0 0), 1, 24) := by kernel_rfl
theorem OwnsOf.empty {α : Type} {E : Rep α} {w : World} {B g : Nat} {e : TypeId} (h : Blk w g #[] e) (hB : B ≤ g) : OwnsOf E w B e (.slice (some ⟨g, 0, none⟩) 0 0) [] := by
  refine ⟨[], ⟨rfl, .inr ⟨g, 0, #[], rfl, hB, h, ?_⟩⟩, fun _ hi => absurd hi (Nat.not_lt_zero _)⟩
  simp
set_option maxRecDepth 100000 in
set_option maxHeartbeats 2000000 in
theorem lawRows_calls (two : Bool) {w : World} {ok : Nat → Prop} {v : Value} {l : List (Int × Int)} (h : (sliceR pair8R).R w ok [v] l) :
    Calls Try.prog 36 #[.bool two, v] w fun e w' => ∃ u, e = .returned u ∧ rowsR.R w' (fun b => w.heap.size ≤ b) [u] (rowsL two l) ∧ Below w.heap.size w w' := by
  obtain ⟨ao, cap, rfl, h2, h3, hbd, h4⟩ := pairs8_cases h
  clear h
  unfold maxLen at h3
  have HBD := Lib.hid hbd
  have H4 := Lib.hid h4
  clear hbd h4
  obtain ⟨N, hN⟩ : ∃ N, N = l.length := ⟨_, rfl⟩
  rw [← hN] at h2 H4 ⊢
  have HN := Lib.hid hN
  clear hN
  have HZ := Lib.hid (fun w' => rowOf_calls two 0 0 w')
  have HR := Lib.hid (fun (i : Nat) w' => rowOf_calls two (l[i]?.getD (0, 0)).1 (l[i]?.getD (0, 0)).2 w')
  go_enter Try.func36, Try.ntmps36
  go_wp2_with fail
  go_loopw [5, 6] (fun u i wr => ∃ k : Nat, k ≤ N ∧ k ≤ 4 ∧ i = .int .i64 k ∧ Hid (OwnsOf rowR wr w.heap.size 41 u ((l.take k).map (rowOfL two))) ∧ Hid (Below w.heap.size w wr)) (fun _ i _ => 4 - (intOf i).toNat)
  case atStart => exact ⟨0, Nat.zero_le _, Nat.zero_le _, rfl, OwnsOf.empty (Blk.new w #[] 41) (Nat.le_refl _), (Below.refl _ w).alloc (Nat.le_refl _) _⟩
  case round =>
    obtain ⟨k, hk, hk4, rfl, hown, hbl⟩ := hrel
    obtain ⟨xs, ho, hel⟩ := hown.out
    have htl : ((l.take k).map (rowOfL two)).length = k := by rw [List.length_map, List.length_take, ← HN.out]; omega
    obtain ⟨TT, hTT⟩ : ∃ TT, TT = (l.take k).map (rowOfL two) := ⟨_, rfl⟩
    rw [← hTT] at ho hel htl
    have HTT := Lib.hid hTT
    clear hTT
    by_cases hgo : k < N ∧ k < 4
    · obtain ⟨hlt, hlt4⟩ := hgo
      rcases H4.out with ⟨_, e2⟩ | ⟨b2, off2, e2, _, _, hc2⟩
      · omega
      subst e2
      have KW : Keeps (fun _ => True) w wr := Keeps.all hbl.out _
      have X := hc2 k hlt
      have X0 := KW.cell (a := ⟨b2, off2 + k * 2, none⟩) trivial X.1
      have X1 := KW.cell (a := ⟨b2, off2 + k * 2 + 1, none⟩) trivial X.2
      have HRK := Lib.hid (HR.out k)
      obtain ⟨pk, hpk⟩ : ∃ pk, pk = l[k]?.getD (0, 0) := ⟨_, rfl⟩
      rw [← hpk] at X0 X1 HRK
      have HPK := Lib.hid hpk
      have HHO := Lib.hid ho
      have HEL := Lib.hid hel
      have HTL := Lib.hid htl
      have hszr : w.heap.size ≤ wr.heap.size := hbl.out.size
      have i1 : (0 : Int) ≤ (k : Int) ∧ (k : Int) < (N : Int) := by omega
      clear X hc2 KW hpk ho hel htl
      go_wp2_with fail
      refine (HRK.out _).mono ?_
      rintro e w2 ⟨g, rfl, hu, hb2⟩
      have HU := Lib.hid hu
      have HB2 := Lib.hid hb2
      have HO2 := Lib.hid (own_all HHO.out (Keeps.all hb2 _))
      have HE2 := Lib.hid (fun i hi => rowR.keep (HEL.out i hi) (Keeps.all hb2 _))
      have HXL : Hid (xs.length = TT.length) := Lib.hid (by have := HHO.out.1; omega)
      have HUB := Lib.hid (fun g => own_ge HHO.out (g := g))
      have hb2s : wr.heap.size ≤ w2.heap.size := hb2.size
      have HBD2 : Hid ((TT.length + 1) * 24 ≤ 140737488355328) := Lib.hid (by have := HTL.out; omega)
      clear hu hb2
      obtain ⟨nn, hnn⟩ : ∃ nn : Nat, nn = if two then 2 else 1 := ⟨_, rfl⟩
      rw [← hnn] at HU ⊢
      have HNN := Lib.hid hnn
      clear hnn
      go_wp2_with ((with_reducible refine wpList_append_one (o := ⟨some 26, _, _, _, _, _⟩) ?_ (.tmp 18) (.tmp 25) 44 ?_ w.heap.size 41 (.slice none 0 0) 1 24 Try.underlying44 Try.info_row ?_ ?_ ?_ u5 _ _ ?_ (own_all HO2.out ?_) w2.heap.size ?_ [.slice (some ⟨g, 0, none⟩) nn nn] ?_ ?_ ?_ HBD2.out ?_ ?_); rfl; rfl; rfl; decide; decide; rfl; (exact Keeps.alloc _ _ _); rfl; rfl; (exact (Blk.newAt _ _ rfl).at _ _ (by intro t ht; match t, ht with | 0, _ => rfl)); (simp [Value.oneCell']); (simp; omega); intro g' cap' w5 hown5 hk5 hb5 hg5; have HO5 := Lib.hid hown5; have HK6 := Lib.hid hk5; have HB5 := Lib.hid hb5; have HG5 := Lib.hid hg5; clear hown5 hk5 hb5 hg5)
      go_roundw
      case rel =>
        refine ⟨k + 1, by omega, by omega, by go_num, ?_, ?_⟩
        · have e : (l.take (k + 1)).map (rowOfL two) = (l.take k).map (rowOfL two) ++ [rowOfL two (pk.1, pk.2)] := by
            rw [take_snoc (by rw [← HN.out]; exact hlt), List.map_append, HPK.out, List.getElem?_eq_getElem (by rw [← HN.out]; exact hlt)]
            rfl
          rw [e, ← HTT.out]
          refine OwnsOf.snoc (w := w2.alloc (.cells #[.slice (some ⟨g, 0, none⟩) nn nn] 41)) (u := u5) (fun i hi => rowR.keep (HE2.out i hi) (Keeps.alloc _ _ _)) HXL.out ?_ HO5.out HK6.out ?_
          · refine rowR.keep (rowR.mono HU.out fun b hb => ⟨by omega, fun e => ?_⟩) (Keeps.alloc _ _ _)
            have := HUB.out b e
            omega
          · rintro g e
            cases e
            exact HG5.out.2.2
        · exact ((hbl.out.trans (HB2.out.mono (by omega))).alloc (by omega) _).trans (HB5.out.mono (by omega))
      case measure => simp [intOf]; omega
    · by_cases hz : k = 0
      · have hN0 : N = 0 := by omega
        subst hN0
        subst hz
        obtain ⟨gg, cc, rfl⟩ := own_shape ho
        clear hel
        rw [htl]
        rw [htl] at ho
        obtain rfl : xs = [] := List.eq_nil_of_length_eq_zero (by have := ho.1; omega)
        have HHO := Lib.hid ho
        have hszr : w.heap.size ≤ wr.heap.size := hbl.out.size
        clear hown ho
        go_wp2_with fail
        refine (HZ.out _).mono ?_
        rintro e w2 ⟨g, rfl, hu, hb2⟩
        have HU := Lib.hid hu
        have HB2 := Lib.hid hb2
        have HO2 := Lib.hid (own_all HHO.out (Keeps.all hb2 _))
        have hb2s : wr.heap.size ≤ w2.heap.size := hb2.size
        have HBD2 : Hid ((0 + 1) * 24 ≤ 140737488355328) := Lib.hid (by decide)
        clear hu hb2
        obtain ⟨nn, hnn⟩ : ∃ nn : Nat, nn = if two then 2 else 1 := ⟨_, rfl⟩
        rw [← hnn] at HU ⊢
        have HNN := Lib.hid hnn
        have HL0 : Hid (rowsL two l = [] ++ [rowOfL two (0, 0)]) := Lib.hid (by
          have : l = [] := List.eq_nil_of_length_eq_zero HN.out.symm
          rw [rowsL, if_pos this]; rfl)
        clear hnn
        go_wp2_with ((with_reducible refine wpList_append_one (o := ⟨some 35, _, _, _, _, _⟩) ?_ (.tmp 30) (.tmp 34) 44 ?_ w.heap.size 41 (.slice none 0 0) 1 24 Try.underlying44 Try.info_row ?_ ?_ ?_ (.slice gg 0 cc) _ _ ?_ (own_all HO2.out ?_) w2.heap.size ?_ [.slice (some ⟨g, 0, none⟩) nn nn] ?_ ?_ ?_ HBD2.out ?_ ?_); rfl; rfl; rfl; decide; decide; rfl; (exact Keeps.alloc _ _ _); rfl; rfl; (exact (Blk.newAt _ _ rfl).at _ _ (by intro t ht; match t, ht with | 0, _ => rfl)); (simp [Value.oneCell']); (simp; omega); intro g' cap' w5 hown5 hk5 hb5 hg5; have HO5 := Lib.hid hown5; have HK6 := Lib.hid hk5; have HB5 := Lib.hid hb5; have HG5 := Lib.hid hg5; clear hown5 hk5 hb5 hg5)
        go_ret
        refine ⟨_, rfl, ?_, ((hbl.out.trans (HB2.out.mono (by omega))).alloc (by omega) _).trans (HB5.out.mono (by omega))⟩
        rw [HL0.out]
        refine OwnsOf.read (E := rowR) (e := 41) rfl (OwnsOf.snoc (ls := []) (xs := []) (w := w2.alloc (.cells #[.slice (some ⟨g, 0, none⟩) nn nn] 41)) (u := .slice gg 0 cc) (fun i hi => absurd hi (Nat.not_lt_zero _)) rfl ?_ HO5.out HK6.out ?_)
        · refine rowR.keep (rowR.mono HU.out fun b hb => ⟨by omega, fun e => ?_⟩) (Keeps.alloc _ _ _)
          have := own_ge HHO.out e
          omega
        · rintro g e
          cases e
          exact HG5.out.2.2
      · have HL0 : Hid (rowsL two l = TT) := Lib.hid (by
          have h0 : l ≠ [] := by
            intro e
            have := HN.out
            rw [e] at this
            simp at this
            omega
          rw [rowsL, if_neg h0, HTT.out]
          by_cases h4 : k = 4
          · rw [h4]
          · have : k = N := by omega
            rw [this, HN.out, List.take_length, List.take_of_length_le (by rw [← HN.out]; omega)])
        obtain ⟨gg, cc, rfl⟩ := own_shape ho
        have HO2 := Lib.hid hown.out
        rw [← HTT.out, htl, ← HL0.out] at HO2
        have hkz : ((k : Int) == 0) = false := beq_eq_false_iff_ne.2 (by omega)
        rw [htl]
        have hgo' : N ≤ k ∨ 4 ≤ k := by omega
        clear hown ho hel hgo
        rcases hgo' with hgo' | hgo'
        · go_wp2
          go_ret
          exact ⟨_, rfl, OwnsOf.read (E := rowR) rfl HO2.out, hbl.out⟩
        · by_cases hk' : k < N
          · go_wp2
            go_ret
            exact ⟨_, rfl, OwnsOf.read (E := rowR) rfl HO2.out, hbl.out⟩
          · go_wp2
            go_ret
            exact ⟨_, rfl, OwnsOf.read (E := rowR) rfl HO2.out, hbl.out⟩
end Go.Proofs.Ytcnpanmkpfgdjaa
