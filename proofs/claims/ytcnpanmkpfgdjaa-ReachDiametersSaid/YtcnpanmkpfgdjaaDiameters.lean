/- Contracts of reach.Diameter and of the law package's diameter. -/
import Derived.Test.YtcnpanmkpfgdjaaKnown
import Derived.Deep.RegionWith
namespace Go.Proofs.Ytcnpanmkpfgdjaa
open Go.RowKit Go.Sch

/-- Diameter's two results. -/
def diamRes (kind : Int) (l : List Key2) : Int × Int :=
  if measureErr kind l ≠ 0 then (0, measureErr kind l) else if 1000 < l.length then (0, 4) else if l.length = 0 then (0, 13) else (diam (farD kind) l, 0)
theorem measure_none {kind : Int} {l : List Key2} (h : measureErr kind l = 0) : (kind = 1 ∨ kind = 2) ∧ l.any outK = false := by
  unfold measureErr at h
  by_cases hk : kind ≠ 1 ∧ kind ≠ 2
  · rw [if_pos hk] at h; omega
  · rw [if_neg hk] at h
    by_cases ha : l.any outK = true
    · rw [if_pos ha] at h; omega
    · exact ⟨by omega, by simpa using ha⟩
theorem any_in {l : List Key2} (h : l.any outK = false) (i : Nat) : keyIn (l[i]?.getD (0, 0)) := by
  rcases Nat.lt_or_ge i l.length with hi | hi
  · rw [List.getElem?_eq_getElem hi]
    rw [List.any_eq_false] at h
    exact outK_in (by simpa using h _ (List.getElem_mem hi))
  · rw [List.getElem?_eq_none hi]
    exact ⟨⟨by decide, by decide⟩, ⟨by decide, by decide⟩⟩
set_option maxRecDepth 100000 in
set_option maxHeartbeats 1000000 in
theorem reachDiameter_calls {w : World} {ok : Nat → Prop} {v : Value} {l : List Key2} (h : keysR.R w ok [v] l) (kind : Int) :
    Calls Try.prog 14 #[.int .i64 kind, v] w fun e w' => e = .returned (.tuple #[.int .i64 (diamRes kind l).1, .int .i64 (diamRes kind l).2]) ∧ Below w.heap.size w w' := by
  have hT := keysR.mono h (fun _ _ => trivial : ∀ b, ok b → (fun _ => True) b)
  have HM := Lib.hid (measure_calls hT kind)
  obtain ⟨ao, cap, rfl, h2, h3, -, -⟩ := keys_cases h
  clear h
  unfold maxLen at h3
  obtain ⟨er, her⟩ : ∃ er, er = measureErr kind l := ⟨_, rfl⟩
  by_cases he : er = 0
  · have he' : (er != 0) = false := by simp [he]
    obtain ⟨hk, ha⟩ := measure_none (her.symm.trans he)
    have HO := Lib.hid (show measureOut kind l = .func (.func (farF kind)) #[] #[] by rw [measureOut, if_pos (her.symm.trans he)])
    have HER := Lib.hid her
    have HR : Hid (diamRes kind l = if 1000 < l.length then (0, 4) else if l.length = 0 then (0, 13) else (diam (farD kind) l, 0)) := Lib.hid (by rw [diamRes, if_neg (by rw [← her, he]; decide)])
    have HD := Lib.hid (fun w' (k : Below w.heap.size w w') => diameter_calls (far_ok kind) (keysR.keep hT (Keeps.all k (fun _ => True))) (any_in ha))
    clear her hk ha hT
    obtain ⟨n, hn⟩ : ∃ n, n = l.length := ⟨_, rfl⟩
    rw [← hn] at h2 HR HM HD ⊢
    have HN := Lib.hid hn
    clear hn
    by_cases hbig : 1000 < n
    · have hb' : decide (n > 1000) = true := by simp [hbig]
      have e1 : (1000 : Int) < (n : Int) := by omega
      go_enter Try.func14, Try.ntmps14
      go_wp2_with fail
      refine HM.out.mono ?_
      rintro e w1 ⟨rfl, hb1⟩
      rw [HO.out, ← HER.out]
      have HB := Lib.hid hb1
      clear hb1
      go_wp2
      refine bodyPost_ret (results_tmp2 rfl _ _ _) rfl ?_
      exact ⟨ret_two (by rw [HR.out, if_pos hbig]; rfl) (by rw [HR.out, if_pos hbig]; rfl), HB.out⟩
    · by_cases hz : n = 0
      · subst hz
        go_enter Try.func14, Try.ntmps14
        go_wp2_with fail
        refine HM.out.mono ?_
        rintro e w1 ⟨rfl, hb1⟩
        rw [HO.out, ← HER.out]
        have HB := Lib.hid hb1
        clear hb1
        go_wp2
        refine bodyPost_ret (results_tmp2 rfl _ _ _) rfl ?_
        exact ⟨ret_two (by rw [HR.out]; rfl) (by rw [HR.out]; rfl), HB.out⟩
      · have e1 : ¬ (1000 : Int) < (n : Int) := by omega
        have e2 : ((n : Int) == 0) = false := by simp [hz]
        go_enter Try.func14, Try.ntmps14
        go_wp2_with fail
        refine HM.out.mono ?_
        rintro e w1 ⟨rfl, hb1⟩
        rw [HO.out, ← HER.out]
        have HB := Lib.hid hb1
        clear hb1
        go_wp2_with fail
        refine (HD.out _ HB.out).mono ?_
        rintro e w2 ⟨rfl, hb2⟩
        have HB2 := Lib.hid (HB.out.trans (hb2.mono HB.out.size))
        clear hb2
        go_wp2
        refine bodyPost_ret (results_tmp2 rfl _ _ _) rfl ?_
        exact ⟨ret_two (by rw [HR.out, if_neg hbig, if_neg hz]; rfl) (by rw [HR.out, if_neg hbig, if_neg hz]; rfl), HB2.out⟩
  · have he' : (er != 0) = true := by simp [he]
    have HO : Hid (measureOut kind l = .nilFunc) := Lib.hid (by rw [measureOut, if_neg (by rw [← her]; exact he)])
    have HR : Hid (diamRes kind l = (0, er)) := Lib.hid (by rw [diamRes, if_pos (by rw [← her]; exact he), her])
    have HER := Lib.hid her
    clear her hT
    go_enter Try.func14, Try.ntmps14
    go_wp2_with fail
    refine HM.out.mono ?_
    rintro e w1 ⟨rfl, hb1⟩
    rw [HO.out, ← HER.out]
    have HB := Lib.hid hb1
    clear hb1
    go_wp2
    refine bodyPost_ret (results_tmp2 rfl _ _ _) rfl ?_
    exact ⟨ret_two (by rw [HR.out]; rfl) (by rw [HR.out]; rfl), HB.out⟩

set_option maxRecDepth 100000 in
set_option maxHeartbeats 2000000 in
theorem lawDiameter_calls (kind : Int) (hkind : kind = 1 ∨ kind = 2) {w : World} {ok : Nat → Prop} {v : Value} {l : List Key2} (h : keysR.R w ok [v] l) (hk : ∀ i : Nat, keyIn (l[i]?.getD (0, 0))) :
    Calls Try.prog 15 #[.int .i64 kind, v] w fun e w' => e = .returned (.int .i64 (diam (farD kind) l)) ∧ Below w.heap.size w w' := by
  obtain ⟨ao, cap, rfl, h2, h3, -, h4⟩ := keys_cases h
  clear h
  unfold maxLen at h3
  rcases h4 with ⟨h4, h5⟩ | ⟨b, off, rfl, -, h0, hc⟩
  · have HR := Lib.hid (show (0 : Int) = diam (farD kind) l by rw [h4]; rfl)
    rw [h5]
    clear h4 h5 h2
    go_enter Try.func15, Try.ntmps15
    go_wp2
    refine wp_loop_rounds 1 ?_
    rw [rounds_succ]
    go_wp2
    go_ret
    exact ⟨ret_int HR.out, Below.refl _ _⟩
  · have HC := Lib.hid hc
    have HK := Lib.hid hk
    have HKI := Lib.hid hkind
    clear hc hk hkind
    obtain ⟨D, hD⟩ : ∃ D, D = farD kind := ⟨_, rfl⟩
    have HL := Lib.hid (show ∀ a1 a2 b1 b2 : Int, keyIn (a1, a2) → keyIn (b1, b2) → ∀ w : World, Calls Try.prog 13 #[.int .i64 kind, .agg #[.int .i64 a1, .int .i64 a2], .agg #[.int .i64 b1, .int .i64 b2]] w fun e w' => e = .returned (.int .i64 (pairD D (a1, a2) (b1, b2))) ∧ Below w.heap.size w w' from by
      subst hD; exact fun a1 a2 b1 b2 ha hb w => lawDistance_calls kind HKI.out a1 a2 b1 b2 ha hb w)
    rw [← hD]
    clear hD
    have HD := Lib.hid (show diam D l = diamTo D l l.length from rfl)
    obtain ⟨n, hn⟩ : ∃ n, n = l.length := ⟨_, rfl⟩
    rw [← hn] at h2 h0 HC HD ⊢
    have HN := Lib.hid hn
    clear hn
    go_enter Try.func15, Try.ntmps15
    go_wp2
    go_loopw [5, 6, 7] (fun m i _ wr => ∃ k : Nat, k ≤ n ∧ i = .int .i64 k ∧ Hid (Below w.heap.size w wr) ∧ m = .int .i64 (diamTo D l k)) (fun _ i _ _ => n - (intOf i).toNat)
    case atStart => exact ⟨0, Nat.zero_le _, rfl, Below.refl _ _, rfl⟩
    case round =>
      obtain ⟨k, hk, rfl, hbl, rfl⟩ := hrel
      by_cases hlt : k < n
      · have hka := HK.out k
        have XK := HC.out k hlt
        obtain ⟨a, hA⟩ : ∃ a, a = l[k]?.getD (0, 0) := ⟨_, rfl⟩
        rw [← hA] at XK hka
        have HA := Lib.hid hA
        have HKA := Lib.hid hka
        have HXK := Lib.hid XK
        clear hA hka XK
        have HDK := Lib.hid (show diamTo D l (k + 1) = rowMax D a (l.take k) (diamTo D l k) by rw [diamTo, ← HA.out])
        have i1 : (0 : Int) ≤ (k : Int) ∧ (k : Int) ≤ (cap : Int) := by omega
        have i3 : (k : Int) < (n : Int) := by omega
        go_wp2
        obtain ⟨wo, hwo⟩ : ∃ wo : World, wo = wr := ⟨_, rfl⟩
        subst hwo
        have HBL := Lib.hid hbl.out
        clear hbl
        go_loopw [5, 7] (fun m i wr => ∃ j : Nat, j ≤ k ∧ i = .int .i64 j ∧ Hid (Below w.heap.size w wr) ∧ m = .int .i64 (rowMax D a (l.take j) (diamTo D l k))) (fun _ i _ => k - (intOf i).toNat)
        case atStart => exact ⟨0, Nat.zero_le _, rfl, HBL, rfl⟩
        case round =>
          obtain ⟨j, hj, rfl, hbl, rfl⟩ := hrel
          by_cases hlj : j < k
          · have X := HC.out j (by omega)
            have X0 := (Keeps.all hbl.out (fun _ => True)).cell (a := ⟨b, off + j * 2, none⟩) trivial X.1
            have X1 := (Keeps.all hbl.out (fun _ => True)).cell (a := ⟨b, off + j * 2 + 1, none⟩) trivial X.2
            have Y0 := (Keeps.all hbl.out (fun _ => True)).cell (a := ⟨b, off + k * 2, none⟩) trivial HXK.out.1
            have Y1 := (Keeps.all hbl.out (fun _ => True)).cell (a := ⟨b, off + k * 2 + 1, none⟩) trivial HXK.out.2
            clear X
            have hkb := HK.out j
            have hts : l.take (j + 1) = l.take j ++ [l[j]?.getD (0, 0)] := by
              rw [List.take_succ_eq_append_getElem (by rw [← HN.out]; omega), List.getElem?_eq_getElem (by rw [← HN.out]; omega)]; rfl
            obtain ⟨bk, hB⟩ : ∃ bk, bk = l[j]?.getD (0, 0) := ⟨_, rfl⟩
            rw [← hB] at X0 X1 hkb hts
            have HKB := Lib.hid hkb
            obtain ⟨cur, hcur⟩ : ∃ cur, cur = rowMax D a (l.take j) (diamTo D l k) := ⟨_, rfl⟩
            have HM := Lib.hid (show rowMax D a (l.take (j + 1)) (diamTo D l k) = max cur (pairD D a bk) by rw [hts, rowMax_snoc, hcur])
            rw [← hcur]
            clear hB hkb hts hcur
            have i2 : (0 : Int) ≤ (j : Int) ∧ (j : Int) < (n : Int) := by omega
            have i4 : (j : Int) < (k : Int) := by omega
            go_wp2
            go_region_with (go_at_call 13; refine (HL.out _ _ _ _ HKA.out HKB.out _).mono ?_; rintro e w3 ⟨rfl, hb3⟩; have HB3 := Lib.hid hb3; clear hb3)
            all_goals
              go_wp2
              go_roundw
              case rel =>
                refine ⟨j + 1, by omega, by go_num, ?_, ?_⟩
                · exact hbl.out.drew.trans (HB3.out.mono hbl.out.drew.size)
                · rw [HM.out]
                  show Value.int .i64 (if cur < pairD D a bk then pairD D a bk else cur) = _
                  congr 1
                  split <;> omega
              case measure => simp [intOf]; omega
          · have hjk : j = k := by omega
            subst hjk
            go_wp2
            go_roundw
            case rel => exact ⟨j + 1, by omega, by go_num, hbl, by rw [HDK.out]⟩
            case measure => simp [intOf]; omega
      · have hkn : k = n := by omega
        subst hkn
        go_wp2
        go_ret
        exact ⟨ret_int HD.out.symm, hbl.out⟩
end Go.Proofs.Ytcnpanmkpfgdjaa
