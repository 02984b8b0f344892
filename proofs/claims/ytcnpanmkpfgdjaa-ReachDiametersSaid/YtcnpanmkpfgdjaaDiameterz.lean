/- THE WALK of ReachDiameters. -/
import Derived.Test.YtcnpanmkpfgdjaaDiameters
import Derived.Test.YtcnpanmkpfgdjaaDistances
namespace Go.Proofs.Ytcnpanmkpfgdjaa
open Go.RowKit Go.Sch

set_option maxRecDepth 100000 in
set_option maxHeartbeats 4000000 in
theorem reachDiameters_calls (kind : Int) {w : World} {ok : Nat → Prop} {v : Value} {l : List Key2} (h : keysR.R w ok [v] l) :
    Calls Try.prog 4 #[.int .i64 kind, v] w fun e w' => e = .returned (.bool true) ∧ Below w.heap.size w w' := by
  have hT := keysR.mono h (fun _ _ => trivial : ∀ b, ok b → (fun _ => True) b)
  have HK := Lib.hid (fun w' => known_calls w')
  have HD := Lib.hid (fun w' (k : Below w.heap.size w w') => reachDiameter_calls (keysR.keep hT (Keeps.all k (fun _ => True))) kind)
  have HL := Lib.hid (fun (hk : kind = 1 ∨ kind = 2) (ha : l.any outK = false) w' (k : Below w.heap.size w w') => lawDiameter_calls kind hk (keysR.keep hT (Keeps.all k (fun _ => True))) (any_in ha))
  clear hT
  obtain ⟨ao, cap, rfl, h2, h3, -, h4⟩ := keys_cases h
  clear h
  unfold maxLen at h3
  obtain ⟨n, hn⟩ : ∃ n, n = l.length := ⟨_, rfl⟩
  rw [← hn] at h2 h4 HD HL ⊢
  have HN := Lib.hid hn
  clear hn
  by_cases hbig : 20 < n ∧ (n < 999 ∨ 1002 < n)
  · have e1 : (20 : Int) < (n : Int) := by omega
    clear h4
    rcases hbig.2 with hb | hb
    · have e2 : (n : Int) < 999 := by omega
      clear hbig hb
      go_enter Try.func4, Try.ntmps4
      go_wp2_with fail
      refine (HK.out _).mono ?_
      rintro e w1 ⟨rfl, hb1⟩
      have HB1 := Lib.hid hb1
      clear hb1
      go_wp2_with fail
      refine (HK.out _).mono ?_
      rintro e w2 ⟨rfl, hb2⟩
      have HB2 := Lib.hid (HB1.out.trans (hb2.mono HB1.out.size))
      clear hb2
      go_wp2
      go_ret
      exact ⟨rfl, HB2.out⟩
    · have e2 : ¬ (n : Int) < 999 := by omega
      have e3 : (1002 : Int) < (n : Int) := by omega
      clear hbig hb
      go_enter Try.func4, Try.ntmps4
      go_wp2_with fail
      refine (HK.out _).mono ?_
      rintro e w1 ⟨rfl, hb1⟩
      have HB1 := Lib.hid hb1
      clear hb1
      go_wp2_with fail
      refine (HK.out _).mono ?_
      rintro e w2 ⟨rfl, hb2⟩
      have HB2 := Lib.hid (HB1.out.trans (hb2.mono HB1.out.size))
      clear hb2
      go_wp2
      go_ret
      exact ⟨rfl, HB2.out⟩
  have hsm : ¬ (20 : Int) < (n : Int) ∨ ((20 : Int) < (n : Int) ∧ ¬ (n : Int) < 999 ∧ ¬ (1002 : Int) < (n : Int)) := by omega
  by_cases hkind : kind = 1 ∨ kind = 2
  · by_cases ha : l.any outK = true
    · have HR : Hid (diamRes kind l = (0, 3)) := Lib.hid (by
        have e : measureErr kind l = 3 := by rw [measureErr, if_neg (by omega), if_pos ha]
        rw [diamRes, if_pos (by rw [e]; decide), e])
      clear HL
      rcases h4 with ⟨h4, h5⟩ | ⟨b, off, rfl, -, h0, hc⟩
      · rw [h4] at ha; cases ha
      have HC := Lib.hid hc
      have HA := Lib.hid ha
      clear hc ha
      rcases hkind with rfl | rfl
      all_goals
        rcases hsm with hsm | ⟨hs1, hs2, hs3⟩
        all_goals
          clear hbig
          go_enter Try.func4, Try.ntmps4
          go_wp2_with fail
          refine (HK.out _).mono ?_
          rintro e w1 ⟨rfl, hb1⟩
          have HB1 := Lib.hid hb1
          clear hb1
          go_wp2_with fail
          refine (HD.out _ HB1.out).mono ?_
          rintro e w2 ⟨rfl, hb2⟩
          rw [HR.out]
          have HB2 := Lib.hid (HB1.out.trans (hb2.mono HB1.out.size))
          clear hb2
          go_wp2
          go_loopw [7] (fun i wr => ∃ k : Nat, k ≤ n ∧ i = .int .i64 k ∧ Hid (Below w.heap.size w wr) ∧ Hid ((l.take k).any outK = false)) (fun i _ => n - (intOf i).toNat)
          case atStart => exact ⟨0, Nat.zero_le _, rfl, HB2, Lib.hid rfl⟩
          case round =>
            obtain ⟨k, hk, rfl, hbl, hno⟩ := hrel
            by_cases hlt : k < n
            · have X := HC.out k hlt
              have X0 := (Keeps.all hbl.out (fun _ => True)).cell (a := ⟨b, off + k * 2, none⟩) trivial X.1
              have X1 := (Keeps.all hbl.out (fun _ => True)).cell (a := ⟨b, off + k * 2 + 1, none⟩) trivial X.2
              clear X
              have hts : (l.take (k + 1)).any outK = outK (l[k]?.getD (0, 0)) := by
                rw [List.take_succ_eq_append_getElem (by rw [← HN.out]; omega), List.any_append, hno.out, List.getElem?_eq_getElem (by rw [← HN.out]; omega)]; simp
              obtain ⟨a, hA⟩ : ∃ a, a = l[k]?.getD (0, 0) := ⟨_, rfl⟩
              rw [← hA] at X0 X1 hts
              have HTS := Lib.hid hts
              clear hA hts
              have i1 : (0 : Int) ≤ (k : Int) ∧ (k : Int) < (n : Int) := by omega
              by_cases hw : outK a = true
              · have HW := Lib.hid hw
                clear hw
                go_wp2_with (go_at_call 12; refine (wrong_calls _ _ _).mono ?_; rintro e w3 ⟨rfl, hb3⟩; rw [show outK (a.1, a.2) = true from HW.out]; have HB3 := Lib.hid hb3; clear hb3)
                go_ret
                exact ⟨rfl, hbl.out.trans (HB3.out.mono hbl.out.size)⟩
              · have HW : Hid (outK a = false) := Lib.hid (by simpa using hw)
                clear hw
                go_wp2_with (go_at_call 12; refine (wrong_calls _ _ _).mono ?_; rintro e w3 ⟨rfl, hb3⟩; rw [show outK (a.1, a.2) = false from HW.out]; have HB3 := Lib.hid hb3; clear hb3)
                go_roundw
                case rel => exact ⟨k + 1, by omega, by go_num, hbl.out.trans (HB3.out.mono hbl.out.size), Lib.hid (by rw [HTS.out, HW.out])⟩
                case measure => simp [intOf]; omega
            · exfalso
              have hkn : k = n := by omega
              have h1 := hno.out
              rw [hkn, HN.out, List.take_length, HA.out] at h1
              cases h1
    · have ha' : l.any outK = false := by simpa using ha
      have HR : Hid (diamRes kind l = if 1000 < n then (0, 4) else if n = 0 then (0, 13) else (diam (farD kind) l, 0)) := Lib.hid (by
        have e : measureErr kind l = 0 := by rw [measureErr, if_neg (by omega), if_neg ha]
        rw [diamRes, if_neg (by rw [e]; decide), HN.out])
      have HLL := Lib.hid (HL.out hkind ha')
      have HA := Lib.hid ha'
      clear ha ha' HL
      rcases h4 with ⟨h4, h5⟩ | ⟨b, off, rfl, -, h0, hc⟩
      · have hn0 : n = 0 := h5
        subst hn0
        have HR13 : Hid (diamRes kind l = (0, 13)) := Lib.hid (by rw [HR.out, if_neg (by decide), if_pos rfl])
        clear h4 h5 hsm hbig
        rcases hkind with rfl | rfl
        all_goals
          go_enter Try.func4, Try.ntmps4
          go_wp2_with fail
          refine (HK.out _).mono ?_
          rintro e w1 ⟨rfl, hb1⟩
          have HB1 := Lib.hid hb1
          clear hb1
          go_wp2_with fail
          refine (HD.out _ HB1.out).mono ?_
          rintro e w2 ⟨rfl, hb2⟩
          rw [HR13.out]
          have HB2 := Lib.hid (HB1.out.trans (hb2.mono HB1.out.size))
          clear hb2
          go_wp2
          refine wp_loop_rounds 1 ?_
          rw [rounds_succ]
          go_wp2
          go_ret
          exact ⟨rfl, HB2.out⟩
      · have HC := Lib.hid hc
        clear hc
        obtain ⟨dv, hdv⟩ : ∃ dv, dv = diam (farD kind) l := ⟨_, rfl⟩
        rw [← hdv] at HR HLL
        clear hdv
        obtain ⟨r, hr⟩ : ∃ r, r = diamRes kind l := ⟨_, rfl⟩
        rw [← hr] at HR HD
        clear hr
        have hz : n ≠ 0 := by omega
        have hz' : ((n : Int) == 0) = false := by simp [hz]
        rcases hkind with rfl | rfl
        all_goals
          rcases hsm with hsm | ⟨hs1, hs2, hs3⟩
          all_goals
            clear hbig
            go_enter Try.func4, Try.ntmps4
            go_wp2_with fail
            refine (HK.out _).mono ?_
            rintro e w1 ⟨rfl, hb1⟩
            have HB1 := Lib.hid hb1
            clear hb1
            go_wp2_with fail
            refine (HD.out _ HB1.out).mono ?_
            rintro e w2 ⟨rfl, hb2⟩
            have HB2 := Lib.hid (HB1.out.trans (hb2.mono HB1.out.size))
            clear hb2
            go_wp2
            go_loopw [7] (fun i wr => ∃ k : Nat, k ≤ n ∧ i = .int .i64 k ∧ Hid (Below w.heap.size w wr)) (fun i _ => n - (intOf i).toNat)
            case atStart => exact ⟨0, Nat.zero_le _, rfl, HB2⟩
            case round =>
              obtain ⟨k, hk, rfl, hbl⟩ := hrel
              by_cases hlt : k < n
              · have X := HC.out k hlt
                have X0 := (Keeps.all hbl.out (fun _ => True)).cell (a := ⟨b, off + k * 2, none⟩) trivial X.1
                have X1 := (Keeps.all hbl.out (fun _ => True)).cell (a := ⟨b, off + k * 2 + 1, none⟩) trivial X.2
                clear X
                have hts : outK (l[k]?.getD (0, 0)) = false := by
                  have := HA.out
                  rw [List.any_eq_false] at this
                  rw [List.getElem?_eq_getElem (by rw [← HN.out]; omega)]
                  simpa using this _ (List.getElem_mem (by rw [← HN.out]; omega))
                obtain ⟨a, hA⟩ : ∃ a, a = l[k]?.getD (0, 0) := ⟨_, rfl⟩
                rw [← hA] at X0 X1 hts
                have HW := Lib.hid hts
                clear hA hts
                have i1 : (0 : Int) ≤ (k : Int) ∧ (k : Int) < (n : Int) := by omega
                go_wp2_with (go_at_call 12; refine (wrong_calls _ _ _).mono ?_; rintro e w3 ⟨rfl, hb3⟩; rw [show outK (a.1, a.2) = false from HW.out]; have HB3 := Lib.hid hb3; clear hb3)
                go_roundw
                case rel => exact ⟨k + 1, by omega, by go_num, hbl.out.trans (HB3.out.mono hbl.out.size)⟩
                case measure => simp [intOf]; omega
              · have hkn : k = n := by omega
                subst hkn
                by_cases hm : (1000 : Int) < (k : Int)
                · have HR1 : r = (0, 4) := by rw [HR.out, if_pos (by omega)]
                  subst HR1
                  go_wp2
                  go_ret
                  exact ⟨rfl, hbl.out⟩
                · have HR1 : r = (dv, 0) := by rw [HR.out, if_neg (by omega), if_neg hz]
                  subst HR1
                  go_wp2_with fail
                  refine (HLL.out _ hbl.out).mono ?_
                  rintro e w4 ⟨rfl, hb4⟩
                  have HB4 := Lib.hid (hbl.out.trans (hb4.mono hbl.out.size))
                  clear hb4
                  go_wp2
                  go_ret
                  exact ⟨ret_bool (by simp), HB4.out⟩
  · have HR : Hid (diamRes kind l = (0, 12)) := Lib.hid (by
      have e : measureErr kind l = 12 := by rw [measureErr, if_pos (by omega)]
      rw [diamRes, if_pos (by rw [e]; decide), e])
    have k3 : (kind != 1) = true := by simp; omega
    have k4 : (kind != 2) = true := by simp; omega
    clear HL h4 hkind hbig
    rcases hsm with hsm | ⟨hs1, hs2, hs3⟩
    all_goals
      go_enter Try.func4, Try.ntmps4
      go_wp2_with fail
      refine (HK.out _).mono ?_
      rintro e w1 ⟨rfl, hb1⟩
      have HB1 := Lib.hid hb1
      clear hb1
      go_wp2_with fail
      refine (HD.out _ HB1.out).mono ?_
      rintro e w2 ⟨rfl, hb2⟩
      rw [HR.out]
      have HB2 := Lib.hid (HB1.out.trans (hb2.mono HB1.out.size))
      clear hb2
      go_wp2
      go_ret
      exact ⟨rfl, HB2.out⟩
end Go.Proofs.Ytcnpanmkpfgdjaa
