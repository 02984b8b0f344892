/- Contracts of layout.far and layout.Neighbours, by a right key. -/
import Derived.Test.YtcnpanmkpfgdjaaBalls
namespace Go.Proofs.Ytcnpanmkpfgdjaa
open Go.RowKit Go.Sch

set_option maxHeartbeats 1000000 in
theorem layFar_calls (a1 a2 : Int) (h1 : -1000000 ≤ a1 ∧ a1 ≤ 1000000) (h2 : -1000000 ≤ a2 ∧ a2 ≤ 1000000) (w : World) : Calls Try.prog 41 #[.agg #[.int .i64 a1, .int .i64 a2]] w fun e w' => e = .returned (.bool false) ∧ Below w.heap.size w w' := by
  have HB := Lib.hid ((Below.refl _ w).alloc (Nat.le_refl _) (.cells #[.int .i64 a1, .int .i64 a2] 23))
  obtain ⟨p1, p2⟩ := h1
  obtain ⟨p3, p4⟩ := h2
  have p5 : ¬ 1000000 < max a1 a2 := by omega
  have p6 : ¬ min a1 a2 < -1000000 := by omega
  go_enter Try.func41, Try.ntmps41
  go_wp2
  all_goals
    go_ret
    exact ⟨ret_bool (by simp; omega), HB.out⟩
def nbF (kind c1 c2 : Int) (x y : Int) : List Key2 := if ((x == 0) != (y == 0)) || (kind == 2 && decide (x * y < 0)) then [(c1 + x, c2 + y)] else []
theorem nbF_len (kind c1 c2 : Int) (x y : Int) : (nbF kind c1 c2 x y).length ≤ 1 := by unfold nbF; split <;> simp
def nbOf (kind c1 c2 : Int) : List Key2 := gAll (nbF kind c1 c2) 1 3 3
theorem nb_one (c1 c2 : Int) : nbOf 1 c1 c2 = [(c1 + 0, c2 + -1), (c1 + -1, c2 + 0), (c1 + 1, c2 + 0), (c1 + 0, c2 + 1)] := by rfl
theorem nb_two (c1 c2 : Int) : nbOf 2 c1 c2 = [(c1 + 0, c2 + -1), (c1 + 1, c2 + -1), (c1 + -1, c2 + 0), (c1 + 1, c2 + 0), (c1 + -1, c2 + 1), (c1 + 0, c2 + 1)] := by rfl
set_option maxRecDepth 100000 in
set_option maxHeartbeats 8000000 in
theorem neighbours_one (c1 c2 : Int) (h1 : -1000000 ≤ c1 ∧ c1 ≤ 1000000) (h2 : -1000000 ≤ c2 ∧ c2 ≤ 1000000) (w : World) :
    Calls Try.prog 22 #[.int .i64 1, .agg #[.int .i64 c1, .int .i64 c2]] w fun e w' => ∃ u, e = .returned (.tuple #[u, .int .i64 0]) ∧
      w'.ownsRow w.heap.size 23 2 u (nbOf 1 c1 c2).length ((nbOf 1 c1 c2).flatMap keyC) ∧ Below w.heap.size w w' := by
  have HF := Lib.hid (fun w' => layFar_calls c1 c2 h1 h2 w')
  obtain ⟨q1, q2⟩ := h1
  obtain ⟨q3, q4⟩ := h2
  obtain ⟨i0, hi, hz0, hz1, hz2⟩ := info_parts Try.info_key
  have HI := Lib.hid (And.intro hi (And.intro hz0 (And.intro hz1 hz2)))
  clear hi hz0 hz1 hz2
  go_enter Try.func22, Try.ntmps22
  go_wp2_with fail
  refine (HF.out _).mono ?_
  rintro e w1 ⟨rfl, hb1⟩
  obtain ⟨hB, hX⟩ := front1 hb1
  have HB1 := Lib.hid hX
  have HBe1 := Lib.hid hB
  have hsz : w.heap.size < w1.heap.size := hX.lt
  clear hb1 hB hX
  go_wp2_with fail
  go_loopw [6, 7, 8, 9] (fun u y _ _ wr => ∃ j : Nat, j ≤ 3 ∧ y = .int .i64 ((j : Int) - 1) ∧ Hid (wr.ownsRow (w.heap.size + 1) 23 2 u (gAll (nbF 1 c1 c2) 1 3 j).length ((gAll (nbF 1 c1 c2) 1 3 j).flatMap keyC)) ∧ Hid (Keeps (· < w.heap.size + 1) w1 wr) ∧ Hid (Below w.heap.size w wr)) (fun _ y _ _ _ => (2 - intOf y).toNat)
  case atStart => exact ⟨0, Nat.zero_le _, by simp, World.ownsRow_nil _ _ _ _, Keeps.refl _ _, HBe1⟩
  case round =>
    obtain ⟨j, hj, hy, hown, hkp, hbl⟩ := hrel
    have hj3 : j = 0 ∨ j = 1 ∨ j = 2 ∨ j = 3 := by omega
    clear hj
    rcases hj3 with rfl | rfl | rfl | rfl
    · replace hy : u7 = .int .i64 (-1) := hy
      subst hy
      go_wp2_with fail
      obtain ⟨wo, hwo⟩ : ∃ wo : World, wo = wr := ⟨_, rfl⟩
      subst hwo
      go_loopw [6, 8, 9] (fun u x _ wr => ∃ i : Nat, i ≤ 3 ∧ x = .int .i64 ((i : Int) - 1) ∧ Hid (wr.ownsRow (w.heap.size + 1) 23 2 u (gAll (nbF 1 c1 c2) 1 3 0 ++ gLine (nbF 1 c1 c2) 1 (((0 : Nat) : Int) - 1) i).length ((gAll (nbF 1 c1 c2) 1 3 0 ++ gLine (nbF 1 c1 c2) 1 (((0 : Nat) : Int) - 1) i).flatMap keyC)) ∧ Hid (Keeps (· < w.heap.size + 1) w1 wr) ∧ Hid (Below w.heap.size w wr)) (fun _ x _ _ => (2 - intOf x).toNat)
      case atStart => exact ⟨0, Nat.zero_le _, by simp, by simpa [gLine] using hown, hkp, hbl⟩
      case round =>
        clear hown hkp hbl
        obtain ⟨i, hi, hx, hown, hkp, hbl⟩ := hrel
        obtain ⟨LL, hLL⟩ : ∃ LL, LL = gAll (nbF 1 c1 c2) 1 3 0 ++ gLine (nbF 1 c1 c2) 1 (((0 : Nat) : Int) - 1) i := ⟨_, rfl⟩
        rw [← hLL] at hown
        have HLL := Lib.hid hLL
        clear hLL
        obtain ⟨X0, X1⟩ := blk2 (HB1.out.keep hkp.out (by omega))
        have hszr : w.heap.size < wr.heap.size := (HB1.out.keep hkp.out (by omega)).lt
        have hlen := gAll_len (nbF_len 1 c1 c2) 1 3 0
        have hlen2 := gLine_len (nbF_len 1 c1 c2) 1 (((0 : Nat) : Int) - 1) i
        have hbd : (LL.length + 1) * 16 ≤ 140737488355328 := by
          rw [HLL.out, List.length_append]
          omega
        have HBD := Lib.hid hbd
        have hi3 : i = 0 ∨ i = 1 ∨ i = 2 ∨ i = 3 := by omega
        clear hbd hlen hlen2 hi
        rcases hi3 with rfl | rfl | rfl | rfl
        · replace hx : u8 = .int .i64 (-1) := hx
          subst hx
          go_wp2
          go_roundw
          case rel =>
            refine ⟨1, by omega, by rfl, ?_, hkp, hbl⟩
            have e : gLine (nbF 1 c1 c2) 1 (((0 : Nat) : Int) - 1) 1 = gLine (nbF 1 c1 c2) 1 (((0 : Nat) : Int) - 1) 0 := by rw [gLine_succ]; simp [nbF]
            rw [e, ← HLL.out]; exact hown
          case measure => simp [intOf]
        · replace hx : u8 = .int .i64 (0) := hx
          subst hx
          go_wp2_with ((with_reducible refine wpList_append_one (o := ⟨some 55, _, _, _, _, _⟩) ?_ (.tmp 44) (.tmp 54) 31 ?_ (w.heap.size + 1) 23 (.agg #[.int .i64 0, .int .i64 0]) 2 16 Try.underlying31 Try.info_key ?_ ?_ ?_ u6 _ _ ?_ (own_all hown.out ?_) wr.heap.size ?_ [.int .i64 (c1), .int .i64 (c2 + -1)] ?_ ?_ ?_ HBD.out ?_ ?_); rfl; rfl; rfl; decide; decide; rfl; (exact Keeps.alloc _ _ _); rfl; rfl; (exact (Blk.newAt _ _ rfl).at _ _ (by intro t ht; match t, ht with | 0, _ => rfl | 1, _ => rfl)); (simp [Value.oneCell']); (simp; omega); intro g' cap w5 hown5 hk5 hb5 ⟨hg5, hl5, _⟩; have HO5 := Lib.hid hown5; have HK6 := Lib.hid hk5; have HB5 := Lib.hid hb5; clear hown5 hk5 hb5)
          go_roundw
          case rel =>
            refine ⟨2, by omega, by rfl, ?_, ?_, ?_⟩
            · have e : gLine (nbF 1 c1 c2) 1 (((0 : Nat) : Int) - 1) 2 = gLine (nbF 1 c1 c2) 1 (((0 : Nat) : Int) - 1) 1 ++ [(c1, c2 + -1)] := by rw [gLine_succ]; simp [nbF]
              rw [e, ← List.append_assoc, ← HLL.out]
              exact own_append HO5.out (by simp) (by rw [List.flatMap_append]; rfl)
            · exact hkp.out.trans ((Keeps.alloc wr _ _).trans (Keeps.below HB5.out))
            · exact hbl.out.trans (((Below.refl _ wr).alloc (by omega) _).trans (HB5.out.mono (by omega)))
          case measure => simp [intOf]
        · replace hx : u8 = .int .i64 (1) := hx
          subst hx
          go_wp2
          go_roundw
          case rel =>
            refine ⟨3, by omega, by rfl, ?_, hkp, hbl⟩
            have e : gLine (nbF 1 c1 c2) 1 (((0 : Nat) : Int) - 1) 3 = gLine (nbF 1 c1 c2) 1 (((0 : Nat) : Int) - 1) 2 := by rw [gLine_succ]; simp [nbF]
            rw [e, ← HLL.out]; exact hown
          case measure => simp [intOf]
        · replace hx : u8 = .int .i64 2 := hx
          subst hx
          have e : gAll (nbF 1 c1 c2) 1 3 0 ++ gLine (nbF 1 c1 c2) 1 (((0 : Nat) : Int) - 1) 3 = gAll (nbF 1 c1 c2) 1 3 1 := (gAll_succ (nbF 1 c1 c2) 1 3 0).symm
          have HO := Lib.hid hown.out
          rw [HLL.out, e] at HO
          clear e hown HLL
          go_wp2
          go_roundw
          case rel => exact ⟨1, by omega, by rfl, HO.out, hkp, hbl⟩
          case measure => simp [intOf]
    · replace hy : u7 = .int .i64 (0) := hy
      subst hy
      go_wp2_with fail
      obtain ⟨wo, hwo⟩ : ∃ wo : World, wo = wr := ⟨_, rfl⟩
      subst hwo
      go_loopw [6, 8, 9] (fun u x _ wr => ∃ i : Nat, i ≤ 3 ∧ x = .int .i64 ((i : Int) - 1) ∧ Hid (wr.ownsRow (w.heap.size + 1) 23 2 u (gAll (nbF 1 c1 c2) 1 3 1 ++ gLine (nbF 1 c1 c2) 1 (((1 : Nat) : Int) - 1) i).length ((gAll (nbF 1 c1 c2) 1 3 1 ++ gLine (nbF 1 c1 c2) 1 (((1 : Nat) : Int) - 1) i).flatMap keyC)) ∧ Hid (Keeps (· < w.heap.size + 1) w1 wr) ∧ Hid (Below w.heap.size w wr)) (fun _ x _ _ => (2 - intOf x).toNat)
      case atStart => exact ⟨0, Nat.zero_le _, by simp, by simpa [gLine] using hown, hkp, hbl⟩
      case round =>
        clear hown hkp hbl
        obtain ⟨i, hi, hx, hown, hkp, hbl⟩ := hrel
        obtain ⟨LL, hLL⟩ : ∃ LL, LL = gAll (nbF 1 c1 c2) 1 3 1 ++ gLine (nbF 1 c1 c2) 1 (((1 : Nat) : Int) - 1) i := ⟨_, rfl⟩
        rw [← hLL] at hown
        have HLL := Lib.hid hLL
        clear hLL
        obtain ⟨X0, X1⟩ := blk2 (HB1.out.keep hkp.out (by omega))
        have hszr : w.heap.size < wr.heap.size := (HB1.out.keep hkp.out (by omega)).lt
        have hlen := gAll_len (nbF_len 1 c1 c2) 1 3 1
        have hlen2 := gLine_len (nbF_len 1 c1 c2) 1 (((1 : Nat) : Int) - 1) i
        have hbd : (LL.length + 1) * 16 ≤ 140737488355328 := by
          rw [HLL.out, List.length_append]
          omega
        have HBD := Lib.hid hbd
        have hi3 : i = 0 ∨ i = 1 ∨ i = 2 ∨ i = 3 := by omega
        clear hbd hlen hlen2 hi
        rcases hi3 with rfl | rfl | rfl | rfl
        · replace hx : u8 = .int .i64 (-1) := hx
          subst hx
          go_wp2_with ((with_reducible refine wpList_append_one (o := ⟨some 55, _, _, _, _, _⟩) ?_ (.tmp 44) (.tmp 54) 31 ?_ (w.heap.size + 1) 23 (.agg #[.int .i64 0, .int .i64 0]) 2 16 Try.underlying31 Try.info_key ?_ ?_ ?_ u6 _ _ ?_ (own_all hown.out ?_) wr.heap.size ?_ [.int .i64 (c1 + -1), .int .i64 (c2)] ?_ ?_ ?_ HBD.out ?_ ?_); rfl; rfl; rfl; decide; decide; rfl; (exact Keeps.alloc _ _ _); rfl; rfl; (exact (Blk.newAt _ _ rfl).at _ _ (by intro t ht; match t, ht with | 0, _ => rfl | 1, _ => rfl)); (simp [Value.oneCell']); (simp; omega); intro g' cap w5 hown5 hk5 hb5 ⟨hg5, hl5, _⟩; have HO5 := Lib.hid hown5; have HK6 := Lib.hid hk5; have HB5 := Lib.hid hb5; clear hown5 hk5 hb5)
          go_roundw
          case rel =>
            refine ⟨1, by omega, by rfl, ?_, ?_, ?_⟩
            · have e : gLine (nbF 1 c1 c2) 1 (((1 : Nat) : Int) - 1) 1 = gLine (nbF 1 c1 c2) 1 (((1 : Nat) : Int) - 1) 0 ++ [(c1 + -1, c2)] := by rw [gLine_succ]; simp [nbF]
              rw [e, ← List.append_assoc, ← HLL.out]
              exact own_append HO5.out (by simp) (by rw [List.flatMap_append]; rfl)
            · exact hkp.out.trans ((Keeps.alloc wr _ _).trans (Keeps.below HB5.out))
            · exact hbl.out.trans (((Below.refl _ wr).alloc (by omega) _).trans (HB5.out.mono (by omega)))
          case measure => simp [intOf]
        · replace hx : u8 = .int .i64 (0) := hx
          subst hx
          go_wp2
          go_roundw
          case rel =>
            refine ⟨2, by omega, by rfl, ?_, hkp, hbl⟩
            have e : gLine (nbF 1 c1 c2) 1 (((1 : Nat) : Int) - 1) 2 = gLine (nbF 1 c1 c2) 1 (((1 : Nat) : Int) - 1) 1 := by rw [gLine_succ]; simp [nbF]
            rw [e, ← HLL.out]; exact hown
          case measure => simp [intOf]
        · replace hx : u8 = .int .i64 (1) := hx
          subst hx
          go_wp2_with ((with_reducible refine wpList_append_one (o := ⟨some 55, _, _, _, _, _⟩) ?_ (.tmp 44) (.tmp 54) 31 ?_ (w.heap.size + 1) 23 (.agg #[.int .i64 0, .int .i64 0]) 2 16 Try.underlying31 Try.info_key ?_ ?_ ?_ u6 _ _ ?_ (own_all hown.out ?_) wr.heap.size ?_ [.int .i64 (c1 + 1), .int .i64 (c2)] ?_ ?_ ?_ HBD.out ?_ ?_); rfl; rfl; rfl; decide; decide; rfl; (exact Keeps.alloc _ _ _); rfl; rfl; (exact (Blk.newAt _ _ rfl).at _ _ (by intro t ht; match t, ht with | 0, _ => rfl | 1, _ => rfl)); (simp [Value.oneCell']); (simp; omega); intro g' cap w5 hown5 hk5 hb5 ⟨hg5, hl5, _⟩; have HO5 := Lib.hid hown5; have HK6 := Lib.hid hk5; have HB5 := Lib.hid hb5; clear hown5 hk5 hb5)
          go_roundw
          case rel =>
            refine ⟨3, by omega, by rfl, ?_, ?_, ?_⟩
            · have e : gLine (nbF 1 c1 c2) 1 (((1 : Nat) : Int) - 1) 3 = gLine (nbF 1 c1 c2) 1 (((1 : Nat) : Int) - 1) 2 ++ [(c1 + 1, c2)] := by rw [gLine_succ]; simp [nbF]
              rw [e, ← List.append_assoc, ← HLL.out]
              exact own_append HO5.out (by simp) (by rw [List.flatMap_append]; rfl)
            · exact hkp.out.trans ((Keeps.alloc wr _ _).trans (Keeps.below HB5.out))
            · exact hbl.out.trans (((Below.refl _ wr).alloc (by omega) _).trans (HB5.out.mono (by omega)))
          case measure => simp [intOf]
        · replace hx : u8 = .int .i64 2 := hx
          subst hx
          have e : gAll (nbF 1 c1 c2) 1 3 1 ++ gLine (nbF 1 c1 c2) 1 (((1 : Nat) : Int) - 1) 3 = gAll (nbF 1 c1 c2) 1 3 2 := (gAll_succ (nbF 1 c1 c2) 1 3 1).symm
          have HO := Lib.hid hown.out
          rw [HLL.out, e] at HO
          clear e hown HLL
          go_wp2
          go_roundw
          case rel => exact ⟨2, by omega, by rfl, HO.out, hkp, hbl⟩
          case measure => simp [intOf]
    · replace hy : u7 = .int .i64 (1) := hy
      subst hy
      go_wp2_with fail
      obtain ⟨wo, hwo⟩ : ∃ wo : World, wo = wr := ⟨_, rfl⟩
      subst hwo
      go_loopw [6, 8, 9] (fun u x _ wr => ∃ i : Nat, i ≤ 3 ∧ x = .int .i64 ((i : Int) - 1) ∧ Hid (wr.ownsRow (w.heap.size + 1) 23 2 u (gAll (nbF 1 c1 c2) 1 3 2 ++ gLine (nbF 1 c1 c2) 1 (((2 : Nat) : Int) - 1) i).length ((gAll (nbF 1 c1 c2) 1 3 2 ++ gLine (nbF 1 c1 c2) 1 (((2 : Nat) : Int) - 1) i).flatMap keyC)) ∧ Hid (Keeps (· < w.heap.size + 1) w1 wr) ∧ Hid (Below w.heap.size w wr)) (fun _ x _ _ => (2 - intOf x).toNat)
      case atStart => exact ⟨0, Nat.zero_le _, by simp, by simpa [gLine] using hown, hkp, hbl⟩
      case round =>
        clear hown hkp hbl
        obtain ⟨i, hi, hx, hown, hkp, hbl⟩ := hrel
        obtain ⟨LL, hLL⟩ : ∃ LL, LL = gAll (nbF 1 c1 c2) 1 3 2 ++ gLine (nbF 1 c1 c2) 1 (((2 : Nat) : Int) - 1) i := ⟨_, rfl⟩
        rw [← hLL] at hown
        have HLL := Lib.hid hLL
        clear hLL
        obtain ⟨X0, X1⟩ := blk2 (HB1.out.keep hkp.out (by omega))
        have hszr : w.heap.size < wr.heap.size := (HB1.out.keep hkp.out (by omega)).lt
        have hlen := gAll_len (nbF_len 1 c1 c2) 1 3 2
        have hlen2 := gLine_len (nbF_len 1 c1 c2) 1 (((2 : Nat) : Int) - 1) i
        have hbd : (LL.length + 1) * 16 ≤ 140737488355328 := by
          rw [HLL.out, List.length_append]
          omega
        have HBD := Lib.hid hbd
        have hi3 : i = 0 ∨ i = 1 ∨ i = 2 ∨ i = 3 := by omega
        clear hbd hlen hlen2 hi
        rcases hi3 with rfl | rfl | rfl | rfl
        · replace hx : u8 = .int .i64 (-1) := hx
          subst hx
          go_wp2
          go_roundw
          case rel =>
            refine ⟨1, by omega, by rfl, ?_, hkp, hbl⟩
            have e : gLine (nbF 1 c1 c2) 1 (((2 : Nat) : Int) - 1) 1 = gLine (nbF 1 c1 c2) 1 (((2 : Nat) : Int) - 1) 0 := by rw [gLine_succ]; simp [nbF]
            rw [e, ← HLL.out]; exact hown
          case measure => simp [intOf]
        · replace hx : u8 = .int .i64 (0) := hx
          subst hx
          go_wp2_with ((with_reducible refine wpList_append_one (o := ⟨some 55, _, _, _, _, _⟩) ?_ (.tmp 44) (.tmp 54) 31 ?_ (w.heap.size + 1) 23 (.agg #[.int .i64 0, .int .i64 0]) 2 16 Try.underlying31 Try.info_key ?_ ?_ ?_ u6 _ _ ?_ (own_all hown.out ?_) wr.heap.size ?_ [.int .i64 (c1), .int .i64 (c2 + 1)] ?_ ?_ ?_ HBD.out ?_ ?_); rfl; rfl; rfl; decide; decide; rfl; (exact Keeps.alloc _ _ _); rfl; rfl; (exact (Blk.newAt _ _ rfl).at _ _ (by intro t ht; match t, ht with | 0, _ => rfl | 1, _ => rfl)); (simp [Value.oneCell']); (simp; omega); intro g' cap w5 hown5 hk5 hb5 ⟨hg5, hl5, _⟩; have HO5 := Lib.hid hown5; have HK6 := Lib.hid hk5; have HB5 := Lib.hid hb5; clear hown5 hk5 hb5)
          go_roundw
          case rel =>
            refine ⟨2, by omega, by rfl, ?_, ?_, ?_⟩
            · have e : gLine (nbF 1 c1 c2) 1 (((2 : Nat) : Int) - 1) 2 = gLine (nbF 1 c1 c2) 1 (((2 : Nat) : Int) - 1) 1 ++ [(c1, c2 + 1)] := by rw [gLine_succ]; simp [nbF]
              rw [e, ← List.append_assoc, ← HLL.out]
              exact own_append HO5.out (by simp) (by rw [List.flatMap_append]; rfl)
            · exact hkp.out.trans ((Keeps.alloc wr _ _).trans (Keeps.below HB5.out))
            · exact hbl.out.trans (((Below.refl _ wr).alloc (by omega) _).trans (HB5.out.mono (by omega)))
          case measure => simp [intOf]
        · replace hx : u8 = .int .i64 (1) := hx
          subst hx
          go_wp2
          go_roundw
          case rel =>
            refine ⟨3, by omega, by rfl, ?_, hkp, hbl⟩
            have e : gLine (nbF 1 c1 c2) 1 (((2 : Nat) : Int) - 1) 3 = gLine (nbF 1 c1 c2) 1 (((2 : Nat) : Int) - 1) 2 := by rw [gLine_succ]; simp [nbF]
            rw [e, ← HLL.out]; exact hown
          case measure => simp [intOf]
        · replace hx : u8 = .int .i64 2 := hx
          subst hx
          have e : gAll (nbF 1 c1 c2) 1 3 2 ++ gLine (nbF 1 c1 c2) 1 (((2 : Nat) : Int) - 1) 3 = gAll (nbF 1 c1 c2) 1 3 3 := (gAll_succ (nbF 1 c1 c2) 1 3 2).symm
          have HO := Lib.hid hown.out
          rw [HLL.out, e] at HO
          clear e hown HLL
          go_wp2
          go_roundw
          case rel => exact ⟨3, by omega, by rfl, HO.out, hkp, hbl⟩
          case measure => simp [intOf]
    · replace hy : u7 = .int .i64 2 := hy
      subst hy
      go_wp2
      refine bodyPost_ret (results_tmp2 rfl _ _ _) rfl ?_
      exact ⟨_, rfl, own_base hown.out (by omega), hbl.out⟩
set_option maxRecDepth 100000 in
set_option maxHeartbeats 8000000 in
theorem neighbours_two (c1 c2 : Int) (h1 : -1000000 ≤ c1 ∧ c1 ≤ 1000000) (h2 : -1000000 ≤ c2 ∧ c2 ≤ 1000000) (w : World) :
    Calls Try.prog 22 #[.int .i64 2, .agg #[.int .i64 c1, .int .i64 c2]] w fun e w' => ∃ u, e = .returned (.tuple #[u, .int .i64 0]) ∧
      w'.ownsRow w.heap.size 23 2 u (nbOf 2 c1 c2).length ((nbOf 2 c1 c2).flatMap keyC) ∧ Below w.heap.size w w' := by
  have HF := Lib.hid (fun w' => layFar_calls c1 c2 h1 h2 w')
  obtain ⟨q1, q2⟩ := h1
  obtain ⟨q3, q4⟩ := h2
  obtain ⟨i0, hi, hz0, hz1, hz2⟩ := info_parts Try.info_key
  have HI := Lib.hid (And.intro hi (And.intro hz0 (And.intro hz1 hz2)))
  clear hi hz0 hz1 hz2
  go_enter Try.func22, Try.ntmps22
  go_wp2_with fail
  refine (HF.out _).mono ?_
  rintro e w1 ⟨rfl, hb1⟩
  obtain ⟨hB, hX⟩ := front1 hb1
  have HB1 := Lib.hid hX
  have HBe1 := Lib.hid hB
  have hsz : w.heap.size < w1.heap.size := hX.lt
  clear hb1 hB hX
  go_wp2_with fail
  go_loopw [6, 7, 8, 9] (fun u y _ _ wr => ∃ j : Nat, j ≤ 3 ∧ y = .int .i64 ((j : Int) - 1) ∧ Hid (wr.ownsRow (w.heap.size + 1) 23 2 u (gAll (nbF 2 c1 c2) 1 3 j).length ((gAll (nbF 2 c1 c2) 1 3 j).flatMap keyC)) ∧ Hid (Keeps (· < w.heap.size + 1) w1 wr) ∧ Hid (Below w.heap.size w wr)) (fun _ y _ _ _ => (2 - intOf y).toNat)
  case atStart => exact ⟨0, Nat.zero_le _, by simp, World.ownsRow_nil _ _ _ _, Keeps.refl _ _, HBe1⟩
  case round =>
    obtain ⟨j, hj, hy, hown, hkp, hbl⟩ := hrel
    have hj3 : j = 0 ∨ j = 1 ∨ j = 2 ∨ j = 3 := by omega
    clear hj
    rcases hj3 with rfl | rfl | rfl | rfl
    · replace hy : u7 = .int .i64 (-1) := hy
      subst hy
      go_wp2_with fail
      obtain ⟨wo, hwo⟩ : ∃ wo : World, wo = wr := ⟨_, rfl⟩
      subst hwo
      go_loopw [6, 8, 9] (fun u x _ wr => ∃ i : Nat, i ≤ 3 ∧ x = .int .i64 ((i : Int) - 1) ∧ Hid (wr.ownsRow (w.heap.size + 1) 23 2 u (gAll (nbF 2 c1 c2) 1 3 0 ++ gLine (nbF 2 c1 c2) 1 (((0 : Nat) : Int) - 1) i).length ((gAll (nbF 2 c1 c2) 1 3 0 ++ gLine (nbF 2 c1 c2) 1 (((0 : Nat) : Int) - 1) i).flatMap keyC)) ∧ Hid (Keeps (· < w.heap.size + 1) w1 wr) ∧ Hid (Below w.heap.size w wr)) (fun _ x _ _ => (2 - intOf x).toNat)
      case atStart => exact ⟨0, Nat.zero_le _, by simp, by simpa [gLine] using hown, hkp, hbl⟩
      case round =>
        clear hown hkp hbl
        obtain ⟨i, hi, hx, hown, hkp, hbl⟩ := hrel
        obtain ⟨LL, hLL⟩ : ∃ LL, LL = gAll (nbF 2 c1 c2) 1 3 0 ++ gLine (nbF 2 c1 c2) 1 (((0 : Nat) : Int) - 1) i := ⟨_, rfl⟩
        rw [← hLL] at hown
        have HLL := Lib.hid hLL
        clear hLL
        obtain ⟨X0, X1⟩ := blk2 (HB1.out.keep hkp.out (by omega))
        have hszr : w.heap.size < wr.heap.size := (HB1.out.keep hkp.out (by omega)).lt
        have hlen := gAll_len (nbF_len 2 c1 c2) 1 3 0
        have hlen2 := gLine_len (nbF_len 2 c1 c2) 1 (((0 : Nat) : Int) - 1) i
        have hbd : (LL.length + 1) * 16 ≤ 140737488355328 := by
          rw [HLL.out, List.length_append]
          omega
        have HBD := Lib.hid hbd
        have hi3 : i = 0 ∨ i = 1 ∨ i = 2 ∨ i = 3 := by omega
        clear hbd hlen hlen2 hi
        rcases hi3 with rfl | rfl | rfl | rfl
        · replace hx : u8 = .int .i64 (-1) := hx
          subst hx
          go_wp2
          go_roundw
          case rel =>
            refine ⟨1, by omega, by rfl, ?_, hkp, hbl⟩
            have e : gLine (nbF 2 c1 c2) 1 (((0 : Nat) : Int) - 1) 1 = gLine (nbF 2 c1 c2) 1 (((0 : Nat) : Int) - 1) 0 := by rw [gLine_succ]; simp [nbF]
            rw [e, ← HLL.out]; exact hown
          case measure => simp [intOf]
        · replace hx : u8 = .int .i64 (0) := hx
          subst hx
          go_wp2_with ((with_reducible refine wpList_append_one (o := ⟨some 55, _, _, _, _, _⟩) ?_ (.tmp 44) (.tmp 54) 31 ?_ (w.heap.size + 1) 23 (.agg #[.int .i64 0, .int .i64 0]) 2 16 Try.underlying31 Try.info_key ?_ ?_ ?_ u6 _ _ ?_ (own_all hown.out ?_) wr.heap.size ?_ [.int .i64 (c1), .int .i64 (c2 + -1)] ?_ ?_ ?_ HBD.out ?_ ?_); rfl; rfl; rfl; decide; decide; rfl; (exact Keeps.alloc _ _ _); rfl; rfl; (exact (Blk.newAt _ _ rfl).at _ _ (by intro t ht; match t, ht with | 0, _ => rfl | 1, _ => rfl)); (simp [Value.oneCell']); (simp; omega); intro g' cap w5 hown5 hk5 hb5 ⟨hg5, hl5, _⟩; have HO5 := Lib.hid hown5; have HK6 := Lib.hid hk5; have HB5 := Lib.hid hb5; clear hown5 hk5 hb5)
          go_roundw
          case rel =>
            refine ⟨2, by omega, by rfl, ?_, ?_, ?_⟩
            · have e : gLine (nbF 2 c1 c2) 1 (((0 : Nat) : Int) - 1) 2 = gLine (nbF 2 c1 c2) 1 (((0 : Nat) : Int) - 1) 1 ++ [(c1, c2 + -1)] := by rw [gLine_succ]; simp [nbF]
              rw [e, ← List.append_assoc, ← HLL.out]
              exact own_append HO5.out (by simp) (by rw [List.flatMap_append]; rfl)
            · exact hkp.out.trans ((Keeps.alloc wr _ _).trans (Keeps.below HB5.out))
            · exact hbl.out.trans (((Below.refl _ wr).alloc (by omega) _).trans (HB5.out.mono (by omega)))
          case measure => simp [intOf]
        · replace hx : u8 = .int .i64 (1) := hx
          subst hx
          go_wp2_with ((with_reducible refine wpList_append_one (o := ⟨some 55, _, _, _, _, _⟩) ?_ (.tmp 44) (.tmp 54) 31 ?_ (w.heap.size + 1) 23 (.agg #[.int .i64 0, .int .i64 0]) 2 16 Try.underlying31 Try.info_key ?_ ?_ ?_ u6 _ _ ?_ (own_all hown.out ?_) wr.heap.size ?_ [.int .i64 (c1 + 1), .int .i64 (c2 + -1)] ?_ ?_ ?_ HBD.out ?_ ?_); rfl; rfl; rfl; decide; decide; rfl; (exact Keeps.alloc _ _ _); rfl; rfl; (exact (Blk.newAt _ _ rfl).at _ _ (by intro t ht; match t, ht with | 0, _ => rfl | 1, _ => rfl)); (simp [Value.oneCell']); (simp; omega); intro g' cap w5 hown5 hk5 hb5 ⟨hg5, hl5, _⟩; have HO5 := Lib.hid hown5; have HK6 := Lib.hid hk5; have HB5 := Lib.hid hb5; clear hown5 hk5 hb5)
          go_roundw
          case rel =>
            refine ⟨3, by omega, by rfl, ?_, ?_, ?_⟩
            · have e : gLine (nbF 2 c1 c2) 1 (((0 : Nat) : Int) - 1) 3 = gLine (nbF 2 c1 c2) 1 (((0 : Nat) : Int) - 1) 2 ++ [(c1 + 1, c2 + -1)] := by rw [gLine_succ]; simp [nbF]
              rw [e, ← List.append_assoc, ← HLL.out]
              exact own_append HO5.out (by simp) (by rw [List.flatMap_append]; rfl)
            · exact hkp.out.trans ((Keeps.alloc wr _ _).trans (Keeps.below HB5.out))
            · exact hbl.out.trans (((Below.refl _ wr).alloc (by omega) _).trans (HB5.out.mono (by omega)))
          case measure => simp [intOf]
        · replace hx : u8 = .int .i64 2 := hx
          subst hx
          have e : gAll (nbF 2 c1 c2) 1 3 0 ++ gLine (nbF 2 c1 c2) 1 (((0 : Nat) : Int) - 1) 3 = gAll (nbF 2 c1 c2) 1 3 1 := (gAll_succ (nbF 2 c1 c2) 1 3 0).symm
          have HO := Lib.hid hown.out
          rw [HLL.out, e] at HO
          clear e hown HLL
          go_wp2
          go_roundw
          case rel => exact ⟨1, by omega, by rfl, HO.out, hkp, hbl⟩
          case measure => simp [intOf]
    · replace hy : u7 = .int .i64 (0) := hy
      subst hy
      go_wp2_with fail
      obtain ⟨wo, hwo⟩ : ∃ wo : World, wo = wr := ⟨_, rfl⟩
      subst hwo
      go_loopw [6, 8, 9] (fun u x _ wr => ∃ i : Nat, i ≤ 3 ∧ x = .int .i64 ((i : Int) - 1) ∧ Hid (wr.ownsRow (w.heap.size + 1) 23 2 u (gAll (nbF 2 c1 c2) 1 3 1 ++ gLine (nbF 2 c1 c2) 1 (((1 : Nat) : Int) - 1) i).length ((gAll (nbF 2 c1 c2) 1 3 1 ++ gLine (nbF 2 c1 c2) 1 (((1 : Nat) : Int) - 1) i).flatMap keyC)) ∧ Hid (Keeps (· < w.heap.size + 1) w1 wr) ∧ Hid (Below w.heap.size w wr)) (fun _ x _ _ => (2 - intOf x).toNat)
      case atStart => exact ⟨0, Nat.zero_le _, by simp, by simpa [gLine] using hown, hkp, hbl⟩
      case round =>
        clear hown hkp hbl
        obtain ⟨i, hi, hx, hown, hkp, hbl⟩ := hrel
        obtain ⟨LL, hLL⟩ : ∃ LL, LL = gAll (nbF 2 c1 c2) 1 3 1 ++ gLine (nbF 2 c1 c2) 1 (((1 : Nat) : Int) - 1) i := ⟨_, rfl⟩
        rw [← hLL] at hown
        have HLL := Lib.hid hLL
        clear hLL
        obtain ⟨X0, X1⟩ := blk2 (HB1.out.keep hkp.out (by omega))
        have hszr : w.heap.size < wr.heap.size := (HB1.out.keep hkp.out (by omega)).lt
        have hlen := gAll_len (nbF_len 2 c1 c2) 1 3 1
        have hlen2 := gLine_len (nbF_len 2 c1 c2) 1 (((1 : Nat) : Int) - 1) i
        have hbd : (LL.length + 1) * 16 ≤ 140737488355328 := by
          rw [HLL.out, List.length_append]
          omega
        have HBD := Lib.hid hbd
        have hi3 : i = 0 ∨ i = 1 ∨ i = 2 ∨ i = 3 := by omega
        clear hbd hlen hlen2 hi
        rcases hi3 with rfl | rfl | rfl | rfl
        · replace hx : u8 = .int .i64 (-1) := hx
          subst hx
          go_wp2_with ((with_reducible refine wpList_append_one (o := ⟨some 55, _, _, _, _, _⟩) ?_ (.tmp 44) (.tmp 54) 31 ?_ (w.heap.size + 1) 23 (.agg #[.int .i64 0, .int .i64 0]) 2 16 Try.underlying31 Try.info_key ?_ ?_ ?_ u6 _ _ ?_ (own_all hown.out ?_) wr.heap.size ?_ [.int .i64 (c1 + -1), .int .i64 (c2)] ?_ ?_ ?_ HBD.out ?_ ?_); rfl; rfl; rfl; decide; decide; rfl; (exact Keeps.alloc _ _ _); rfl; rfl; (exact (Blk.newAt _ _ rfl).at _ _ (by intro t ht; match t, ht with | 0, _ => rfl | 1, _ => rfl)); (simp [Value.oneCell']); (simp; omega); intro g' cap w5 hown5 hk5 hb5 ⟨hg5, hl5, _⟩; have HO5 := Lib.hid hown5; have HK6 := Lib.hid hk5; have HB5 := Lib.hid hb5; clear hown5 hk5 hb5)
          go_roundw
          case rel =>
            refine ⟨1, by omega, by rfl, ?_, ?_, ?_⟩
            · have e : gLine (nbF 2 c1 c2) 1 (((1 : Nat) : Int) - 1) 1 = gLine (nbF 2 c1 c2) 1 (((1 : Nat) : Int) - 1) 0 ++ [(c1 + -1, c2)] := by rw [gLine_succ]; simp [nbF]
              rw [e, ← List.append_assoc, ← HLL.out]
              exact own_append HO5.out (by simp) (by rw [List.flatMap_append]; rfl)
            · exact hkp.out.trans ((Keeps.alloc wr _ _).trans (Keeps.below HB5.out))
            · exact hbl.out.trans (((Below.refl _ wr).alloc (by omega) _).trans (HB5.out.mono (by omega)))
          case measure => simp [intOf]
        · replace hx : u8 = .int .i64 (0) := hx
          subst hx
          go_wp2
          go_roundw
          case rel =>
            refine ⟨2, by omega, by rfl, ?_, hkp, hbl⟩
            have e : gLine (nbF 2 c1 c2) 1 (((1 : Nat) : Int) - 1) 2 = gLine (nbF 2 c1 c2) 1 (((1 : Nat) : Int) - 1) 1 := by rw [gLine_succ]; simp [nbF]
            rw [e, ← HLL.out]; exact hown
          case measure => simp [intOf]
        · replace hx : u8 = .int .i64 (1) := hx
          subst hx
          go_wp2_with ((with_reducible refine wpList_append_one (o := ⟨some 55, _, _, _, _, _⟩) ?_ (.tmp 44) (.tmp 54) 31 ?_ (w.heap.size + 1) 23 (.agg #[.int .i64 0, .int .i64 0]) 2 16 Try.underlying31 Try.info_key ?_ ?_ ?_ u6 _ _ ?_ (own_all hown.out ?_) wr.heap.size ?_ [.int .i64 (c1 + 1), .int .i64 (c2)] ?_ ?_ ?_ HBD.out ?_ ?_); rfl; rfl; rfl; decide; decide; rfl; (exact Keeps.alloc _ _ _); rfl; rfl; (exact (Blk.newAt _ _ rfl).at _ _ (by intro t ht; match t, ht with | 0, _ => rfl | 1, _ => rfl)); (simp [Value.oneCell']); (simp; omega); intro g' cap w5 hown5 hk5 hb5 ⟨hg5, hl5, _⟩; have HO5 := Lib.hid hown5; have HK6 := Lib.hid hk5; have HB5 := Lib.hid hb5; clear hown5 hk5 hb5)
          go_roundw
          case rel =>
            refine ⟨3, by omega, by rfl, ?_, ?_, ?_⟩
            · have e : gLine (nbF 2 c1 c2) 1 (((1 : Nat) : Int) - 1) 3 = gLine (nbF 2 c1 c2) 1 (((1 : Nat) : Int) - 1) 2 ++ [(c1 + 1, c2)] := by rw [gLine_succ]; simp [nbF]
              rw [e, ← List.append_assoc, ← HLL.out]
              exact own_append HO5.out (by simp) (by rw [List.flatMap_append]; rfl)
            · exact hkp.out.trans ((Keeps.alloc wr _ _).trans (Keeps.below HB5.out))
            · exact hbl.out.trans (((Below.refl _ wr).alloc (by omega) _).trans (HB5.out.mono (by omega)))
          case measure => simp [intOf]
        · replace hx : u8 = .int .i64 2 := hx
          subst hx
          have e : gAll (nbF 2 c1 c2) 1 3 1 ++ gLine (nbF 2 c1 c2) 1 (((1 : Nat) : Int) - 1) 3 = gAll (nbF 2 c1 c2) 1 3 2 := (gAll_succ (nbF 2 c1 c2) 1 3 1).symm
          have HO := Lib.hid hown.out
          rw [HLL.out, e] at HO
          clear e hown HLL
          go_wp2
          go_roundw
          case rel => exact ⟨2, by omega, by rfl, HO.out, hkp, hbl⟩
          case measure => simp [intOf]
    · replace hy : u7 = .int .i64 (1) := hy
      subst hy
      go_wp2_with fail
      obtain ⟨wo, hwo⟩ : ∃ wo : World, wo = wr := ⟨_, rfl⟩
      subst hwo
      go_loopw [6, 8, 9] (fun u x _ wr => ∃ i : Nat, i ≤ 3 ∧ x = .int .i64 ((i : Int) - 1) ∧ Hid (wr.ownsRow (w.heap.size + 1) 23 2 u (gAll (nbF 2 c1 c2) 1 3 2 ++ gLine (nbF 2 c1 c2) 1 (((2 : Nat) : Int) - 1) i).length ((gAll (nbF 2 c1 c2) 1 3 2 ++ gLine (nbF 2 c1 c2) 1 (((2 : Nat) : Int) - 1) i).flatMap keyC)) ∧ Hid (Keeps (· < w.heap.size + 1) w1 wr) ∧ Hid (Below w.heap.size w wr)) (fun _ x _ _ => (2 - intOf x).toNat)
      case atStart => exact ⟨0, Nat.zero_le _, by simp, by simpa [gLine] using hown, hkp, hbl⟩
      case round =>
        clear hown hkp hbl
        obtain ⟨i, hi, hx, hown, hkp, hbl⟩ := hrel
        obtain ⟨LL, hLL⟩ : ∃ LL, LL = gAll (nbF 2 c1 c2) 1 3 2 ++ gLine (nbF 2 c1 c2) 1 (((2 : Nat) : Int) - 1) i := ⟨_, rfl⟩
        rw [← hLL] at hown
        have HLL := Lib.hid hLL
        clear hLL
        obtain ⟨X0, X1⟩ := blk2 (HB1.out.keep hkp.out (by omega))
        have hszr : w.heap.size < wr.heap.size := (HB1.out.keep hkp.out (by omega)).lt
        have hlen := gAll_len (nbF_len 2 c1 c2) 1 3 2
        have hlen2 := gLine_len (nbF_len 2 c1 c2) 1 (((2 : Nat) : Int) - 1) i
        have hbd : (LL.length + 1) * 16 ≤ 140737488355328 := by
          rw [HLL.out, List.length_append]
          omega
        have HBD := Lib.hid hbd
        have hi3 : i = 0 ∨ i = 1 ∨ i = 2 ∨ i = 3 := by omega
        clear hbd hlen hlen2 hi
        rcases hi3 with rfl | rfl | rfl | rfl
        · replace hx : u8 = .int .i64 (-1) := hx
          subst hx
          go_wp2_with ((with_reducible refine wpList_append_one (o := ⟨some 55, _, _, _, _, _⟩) ?_ (.tmp 44) (.tmp 54) 31 ?_ (w.heap.size + 1) 23 (.agg #[.int .i64 0, .int .i64 0]) 2 16 Try.underlying31 Try.info_key ?_ ?_ ?_ u6 _ _ ?_ (own_all hown.out ?_) wr.heap.size ?_ [.int .i64 (c1 + -1), .int .i64 (c2 + 1)] ?_ ?_ ?_ HBD.out ?_ ?_); rfl; rfl; rfl; decide; decide; rfl; (exact Keeps.alloc _ _ _); rfl; rfl; (exact (Blk.newAt _ _ rfl).at _ _ (by intro t ht; match t, ht with | 0, _ => rfl | 1, _ => rfl)); (simp [Value.oneCell']); (simp; omega); intro g' cap w5 hown5 hk5 hb5 ⟨hg5, hl5, _⟩; have HO5 := Lib.hid hown5; have HK6 := Lib.hid hk5; have HB5 := Lib.hid hb5; clear hown5 hk5 hb5)
          go_roundw
          case rel =>
            refine ⟨1, by omega, by rfl, ?_, ?_, ?_⟩
            · have e : gLine (nbF 2 c1 c2) 1 (((2 : Nat) : Int) - 1) 1 = gLine (nbF 2 c1 c2) 1 (((2 : Nat) : Int) - 1) 0 ++ [(c1 + -1, c2 + 1)] := by rw [gLine_succ]; simp [nbF]
              rw [e, ← List.append_assoc, ← HLL.out]
              exact own_append HO5.out (by simp) (by rw [List.flatMap_append]; rfl)
            · exact hkp.out.trans ((Keeps.alloc wr _ _).trans (Keeps.below HB5.out))
            · exact hbl.out.trans (((Below.refl _ wr).alloc (by omega) _).trans (HB5.out.mono (by omega)))
          case measure => simp [intOf]
        · replace hx : u8 = .int .i64 (0) := hx
          subst hx
          go_wp2_with ((with_reducible refine wpList_append_one (o := ⟨some 55, _, _, _, _, _⟩) ?_ (.tmp 44) (.tmp 54) 31 ?_ (w.heap.size + 1) 23 (.agg #[.int .i64 0, .int .i64 0]) 2 16 Try.underlying31 Try.info_key ?_ ?_ ?_ u6 _ _ ?_ (own_all hown.out ?_) wr.heap.size ?_ [.int .i64 (c1), .int .i64 (c2 + 1)] ?_ ?_ ?_ HBD.out ?_ ?_); rfl; rfl; rfl; decide; decide; rfl; (exact Keeps.alloc _ _ _); rfl; rfl; (exact (Blk.newAt _ _ rfl).at _ _ (by intro t ht; match t, ht with | 0, _ => rfl | 1, _ => rfl)); (simp [Value.oneCell']); (simp; omega); intro g' cap w5 hown5 hk5 hb5 ⟨hg5, hl5, _⟩; have HO5 := Lib.hid hown5; have HK6 := Lib.hid hk5; have HB5 := Lib.hid hb5; clear hown5 hk5 hb5)
          go_roundw
          case rel =>
            refine ⟨2, by omega, by rfl, ?_, ?_, ?_⟩
            · have e : gLine (nbF 2 c1 c2) 1 (((2 : Nat) : Int) - 1) 2 = gLine (nbF 2 c1 c2) 1 (((2 : Nat) : Int) - 1) 1 ++ [(c1, c2 + 1)] := by rw [gLine_succ]; simp [nbF]
              rw [e, ← List.append_assoc, ← HLL.out]
              exact own_append HO5.out (by simp) (by rw [List.flatMap_append]; rfl)
            · exact hkp.out.trans ((Keeps.alloc wr _ _).trans (Keeps.below HB5.out))
            · exact hbl.out.trans (((Below.refl _ wr).alloc (by omega) _).trans (HB5.out.mono (by omega)))
          case measure => simp [intOf]
        · replace hx : u8 = .int .i64 (1) := hx
          subst hx
          go_wp2
          go_roundw
          case rel =>
            refine ⟨3, by omega, by rfl, ?_, hkp, hbl⟩
            have e : gLine (nbF 2 c1 c2) 1 (((2 : Nat) : Int) - 1) 3 = gLine (nbF 2 c1 c2) 1 (((2 : Nat) : Int) - 1) 2 := by rw [gLine_succ]; simp [nbF]
            rw [e, ← HLL.out]; exact hown
          case measure => simp [intOf]
        · replace hx : u8 = .int .i64 2 := hx
          subst hx
          have e : gAll (nbF 2 c1 c2) 1 3 2 ++ gLine (nbF 2 c1 c2) 1 (((2 : Nat) : Int) - 1) 3 = gAll (nbF 2 c1 c2) 1 3 3 := (gAll_succ (nbF 2 c1 c2) 1 3 2).symm
          have HO := Lib.hid hown.out
          rw [HLL.out, e] at HO
          clear e hown HLL
          go_wp2
          go_roundw
          case rel => exact ⟨3, by omega, by rfl, HO.out, hkp, hbl⟩
          case measure => simp [intOf]
    · replace hy : u7 = .int .i64 2 := hy
      subst hy
      go_wp2
      refine bodyPost_ret (results_tmp2 rfl _ _ _) rfl ?_
      exact ⟨_, rfl, own_base hown.out (by omega), hbl.out⟩
end Go.Proofs.Ytcnpanmkpfgdjaa
