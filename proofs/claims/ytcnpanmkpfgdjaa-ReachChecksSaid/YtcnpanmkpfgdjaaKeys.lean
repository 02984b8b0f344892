/- Contract of layout.Keys. -/
import Derived.Test.YtcnpanmkpfgdjaaAt
namespace Go.Proofs.Ytcnpanmkpfgdjaa
open Go.RowKit Go.Sch

theorem Try.info_key : (Try.prog.info? 23).map (fun i => (i.zero, i.size, i.bytes)) = some (some (.agg #[.int .i64 0, .int .i64 0]), 2, 16) := by kernel_rfl

/-- What is known of a right layout and a row of its length. -/
structure Right (l : Lay) : Prop where
  r : l.r.length = l.o.length
  u : l.u.length = l.o.length
  n : l.o.length ≤ 12
  fo : ∀ i : Nat, -1000000000 ≤ l.o[i]?.getD 0 ∧ l.o[i]?.getD 0 ≤ 1000000000
  fr : ∀ i : Nat, -1000000000 ≤ l.r[i]?.getD 0 ∧ l.r[i]?.getD 0 ≤ 1000000000
  fu : ∀ i : Nat, -1000000000 ≤ l.u[i]?.getD 0 ∧ l.u[i]?.getD 0 ≤ 1000000000
theorem rowCheck_fits {zs : List Int} (h : rowCheck zs = 0) : zs.length ≤ 64 ∧ ∀ i : Nat, -1000000000 ≤ zs[i]?.getD 0 ∧ zs[i]?.getD 0 ≤ 1000000000 := by
  unfold rowCheck at h
  split at h
  · omega
  · rename_i hn
    refine ⟨by omega, fun i => ?_⟩
    rcases Nat.lt_or_ge i zs.length with hi | hi
    · have : zs.any (fun n => !fitsB n) = false := by simpa using fun hh => hn (.inr hh)
      rw [List.any_eq_false] at this
      have := this _ (List.getElem_mem hi)
      simp only [fitsB, Bool.not_eq_true, Bool.not_eq_false', Bool.and_eq_true, decide_eq_true_eq] at this
      rw [List.getElem?_eq_getElem hi]; exact this
    · rw [List.getElem?_eq_none hi]; simp
theorem layCheck_right {l : Lay} (h : layCheck l = 0) : (l.kind = 1 ∨ l.kind = 2) ∧ Right l := by
  unfold layCheck at h
  by_cases hk : l.kind ≠ 1 ∧ l.kind ≠ 2
  · rw [if_pos hk] at h; omega
  rw [if_neg hk] at h
  by_cases h1 : rowCheck l.o ≠ 0
  · rw [if_pos h1] at h; omega
  rw [if_neg h1] at h
  by_cases h2 : 12 < l.o.length
  · rw [if_pos h2] at h; omega
  rw [if_neg h2] at h
  simp only [rowsCheck] at h
  by_cases h3 : rowCheck l.r ≠ 0
  · rw [if_pos h3] at h; omega
  rw [if_neg h3] at h
  by_cases h4 : (l.r.length : Int) ≠ l.o.length
  · rw [if_pos h4] at h; omega
  rw [if_neg h4] at h
  by_cases h5 : rowCheck l.u ≠ 0
  · rw [if_pos h5] at h; omega
  rw [if_neg h5] at h
  by_cases h6 : (l.u.length : Int) ≠ l.o.length
  · rw [if_pos h6] at h; omega
  exact ⟨by omega, by omega, by omega, by omega, (rowCheck_fits (by omega)).2, (rowCheck_fits (by omega)).2, (rowCheck_fits (by omega)).2⟩

theorem atI_bd {l : Lay} (R : Right l) {x y : Int} (hx : -1000000 ≤ x ∧ x ≤ 1000000) (hy : -1000000 ≤ y ∧ y ≤ 1000000) (i : Nat) : -9223372036854775808 ≤ atI l x y i ∧ atI l x y i ≤ 9223372036854775807 := by
  have p1 := mul_bd hx.1 hx.2 (R.fr i).1 (R.fr i).2
  have p2 := mul_bd hy.1 hy.2 (R.fu i).1 (R.fu i).2
  have p3 := R.fo i
  unfold atI
  omega
theorem atRow_length (l : Lay) (x y : Int) : (atRow l x y).length = l.o.length := by simp [atRow]
theorem atRow_wf {l : Lay} (R : Right l) {x y : Int} (hx : -1000000 ≤ x ∧ x ≤ 1000000) (hy : -1000000 ≤ y ∧ y ≤ 1000000) : ∀ z ∈ atRow l x y, (Lit.int .i64 z).wf = true := by
  intro z hz
  obtain ⟨i, _, rfl⟩ := List.mem_map.1 hz
  exact wf64_mk (atI_bd R hx hy i).1 (atI_bd R hx hy i).2
/-- 'at', by a right layout: a new row. -/
theorem at_calls' {w : World} {ok : Nat → Prop} {cs : List Value} {l : Lay} (h : layR.R w ok cs l) (R : Right l) {x y : Int} (hx : -1000000 ≤ x ∧ x ≤ 1000000) (hy : -1000000 ≤ y ∧ y ≤ 1000000) :
    Calls Try.prog 42 #[.agg cs.toArray, .agg #[.int .i64 x, .int .i64 y]] w fun e w' => ∃ g, e = .returned (.slice (some ⟨g, 0, none⟩) l.o.length l.o.length) ∧
      rowR.R w' (fun b => w.heap.size ≤ b) [.slice (some ⟨g, 0, none⟩) l.o.length l.o.length] (atRow l x y) ∧ Blk w' g ((atRow l x y).map (Value.int .i64)).toArray 3 ∧ w.heap.size ≤ g ∧ Below w.heap.size w w' := by
  refine (at_calls h x y R.r R.u (by have := R.n; omega) hx hy R.fo R.fr R.fu).mono ?_
  rintro e w' ⟨he, hb, hl⟩
  refine ⟨_, he, ?_, hb, by omega, hl⟩
  have := ints_of_blk (ok := fun b => w.heap.size ≤ b) hb (by simp) (by rw [atRow_length]; have := R.n; unfold maxLen; omega) (atRow_wf R hx hy)
  rw [atRow_length] at this
  exact this

/-- The keys found in a line, and in all lines. -/
def keyAt (l : Lay) (r : List Int) (m y : Int) (i : Nat) : List (Int × Int) := if atRow l ((i : Int) - m) y = r then [((i : Int) - m, y)] else []
def lineN (l : Lay) (r : List Int) (m y : Int) (n : Nat) : List (Int × Int) := (List.range n).flatMap (keyAt l r m y)
def allN (l : Lay) (r : List Int) (m : Int) (c j : Nat) : List (Int × Int) := (List.range j).flatMap fun a : Nat => lineN l r m ((a : Int) - m) c
theorem lineN_succ (l : Lay) (r : List Int) (m y : Int) (n : Nat) : lineN l r m y (n+1) = lineN l r m y n ++ keyAt l r m y n := by
  simp [lineN, List.range_succ, List.flatMap_append]
theorem allN_succ (l : Lay) (r : List Int) (m : Int) (c j : Nat) : allN l r m c (j+1) = allN l r m c j ++ lineN l r m ((j : Int) - m) c := by
  simp [allN, List.range_succ, List.flatMap_append]
theorem lineN_len (l : Lay) (r : List Int) (m y : Int) (n : Nat) : (lineN l r m y n).length ≤ n := by
  induction n with
  | zero => simp [lineN]
  | succ n ih => rw [lineN_succ, List.length_append]; unfold keyAt; split <;> simp <;> omega
theorem allN_len (l : Lay) (r : List Int) (m : Int) (c j : Nat) : (allN l r m c j).length ≤ j * c := by
  induction j with
  | zero => simp [allN]
  | succ n ih => rw [allN_succ, List.length_append, Nat.succ_mul]; have := lineN_len l r m ((n : Int) - m) c; omega
def keysOf (l : Lay) (r : List Int) (m : Nat) : List (Int × Int) := allN l r m (2 * m + 1) (2 * m + 1)
def keysErr (l : Lay) (r : List Int) (most : Int) : Int := if sizedCheck l r ≠ 0 then sizedCheck l r else windowCheck most

theorem own_append {base : Nat} {e : TypeId} {v : Value} {xs ys : List (Int × Int)} {w : World} {n : Nat} {cs : List Value}
    (h : w.ownsRow base e 2 v n cs) (hn : n = (xs ++ ys).length) (hc : cs = (xs ++ ys).flatMap keyC) : w.ownsRow base e 2 v (xs ++ ys).length ((xs ++ ys).flatMap keyC) := by
  subst hn; subst hc; exact h

theorem own_base {w : World} {base base' : Nat} {e : TypeId} {size : Nat} {v : Value} {n : Nat} {xs : List Value} (h : w.ownsRow base e size v n xs) (hb : base' ≤ base) : w.ownsRow base' e size v n xs := by
  obtain ⟨h1, h2⟩ := h
  refine ⟨h1, ?_⟩
  rcases h2 with h2 | ⟨g, cap, cur, rfl, hb0, r⟩
  · exact .inl h2
  · exact .inr ⟨g, cap, cur, rfl, by omega, r⟩
set_option maxRecDepth 100000 in
set_option maxHeartbeats 4000000 in
theorem keys_good {w : World} {ok : Nat → Prop} {cs : List Value} {v : Value} {l : Lay} {r : List Int} (h : layR.R w ok cs l) (hr : rowR.R w ok [v] r) (m : Nat) (hm : m ≤ 20) (hs : sizedCheck l r = 0) :
    Calls Try.prog 52 #[.agg cs.toArray, v, .int .i64 m] w fun e w' => ∃ u, e = .returned (.tuple #[u, .int .i64 0]) ∧
      w'.ownsRow w.heap.size 23 2 u (keysOf l r m).length ((keysOf l r m).flatMap keyC) ∧ Below w.heap.size w w' := by
  have hT := layR.mono h (fun _ _ => trivial : ∀ b, ok b → (fun _ => True) b)
  have hrT := rowR.mono hr (fun _ _ => trivial : ∀ b, ok b → (fun _ => True) b)
  have HS := Lib.hid (fun w' (k : Keeps (fun _ => True) w w') => sized_calls (layR.keep hT k) (rowR.keep hrT k))
  have R : Right l := (layCheck_right (by unfold sizedCheck at hs; split at hs <;> omega)).2
  have HA := Lib.hid (fun w' (k : Keeps (fun _ => True) w w') x y hx hy => at_calls' (x := x) (y := y) (layR.keep hT k) R hx hy)
  have HE := Lib.hid (fun w' (k : Keeps (fun _ => True) w w') ok2 u b (hu : rowR.R w' ok2 [u] b) => rowEqual_calls hu (rowR.keep hrT k))
  have HSZ := Lib.hid hs
  have hs0 : (sizedCheck l r != 0) = false := by simp [hs]
  have hw0 : (windowCheck (m : Int) != 0) = false := by rw [windowCheck, if_neg (by omega)]; rfl
  obtain ⟨v1, v2, v3, rfl, hk, ho, hr1, hu1⟩ := h
  obtain ⟨a1, c1, rfl, h11, h12, -, -⟩ := ints_cases ho
  obtain ⟨a2, c2, rfl, h21, h22, -, -⟩ := ints_cases hr1
  obtain ⟨a3, c3, rfl, h31, h32, -, -⟩ := ints_cases hu1
  obtain ⟨a4, c4, rfl, h41, h42, -, -⟩ := ints_cases hr
  clear ho hr1 hu1 hr hT hrT hs R hk
  unfold maxLen at h12 h22 h32 h42
  obtain ⟨i0, hi, hz0, hz1, hz2⟩ := info_parts Try.info_key
  have HI := Lib.hid (And.intro hi (And.intro hz0 (And.intro hz1 hz2)))
  clear hi hz0 hz1 hz2
  go_enter Try.func52, Try.ntmps52
  go_wp2_with fail
  refine (HS.out _ ?_).mono ?_
  · exact Keeps.alloc _ _ _
  rintro e w1 ⟨rfl, hb1⟩
  have hB1 : Blk w1 w.heap.size #[.int .i64 l.kind, .slice a1 l.o.length c1, .slice a2 l.r.length c2, .slice a3 l.u.length c3] 43 := (Blk.new w _ _).keep (Keeps.all hb1 (fun _ => True)) trivial
  have hBe1 : Below w.heap.size w w1 := ((Below.refl _ _).alloc (Nat.le_refl _) _).trans (hb1.mono (by simp))
  have HB1 := Lib.hid hB1
  have HBe1 := Lib.hid hBe1
  have hsz : w.heap.size < w1.heap.size := hB1.lt
  clear hb1 hB1 hBe1
  go_wp2_with fail
  refine (window_calls _ _).mono ?_
  rintro e w' ⟨rfl, rfl⟩
  go_wp2_with fail
  go_loopw [10, 11] (fun u y wr => ∃ j : Nat, j ≤ 2 * m + 1 ∧ y = .int .i64 ((j : Int) - m) ∧ Hid (wr.ownsRow (w.heap.size + 1) 23 2 u (allN l r m (2 * m + 1) j).length ((allN l r m (2 * m + 1) j).flatMap keyC)) ∧ Hid (Keeps (· < w.heap.size + 1) w1 wr) ∧ Hid (Below w.heap.size w wr)) (fun _ y _ => (m + 1 - intOf y).toNat)
  case atStart => exact ⟨0, Nat.zero_le _, by simp, World.ownsRow_nil _ _ _ _, Keeps.refl _ _, HBe1⟩
  case round =>
    obtain ⟨j, hj, rfl, hown, hkp, hbl⟩ := hrel
    by_cases hlt : j < 2 * m + 1
    · have hdj : decide ((j : Int) - m ≤ m) = true := by simp; omega
      go_wp2_with fail
      obtain ⟨wo, hwo⟩ : ∃ wo : World, wo = wr := ⟨_, rfl⟩
      subst hwo
      go_loopw [10, 12] (fun u x wr => ∃ i : Nat, i ≤ 2 * m + 1 ∧ x = .int .i64 ((i : Int) - m) ∧ Hid (wr.ownsRow (w.heap.size + 1) 23 2 u (allN l r m (2 * m + 1) j ++ lineN l r m ((j : Int) - m) i).length ((allN l r m (2 * m + 1) j ++ lineN l r m ((j : Int) - m) i).flatMap keyC)) ∧ Hid (Keeps (· < w.heap.size + 1) w1 wr) ∧ Hid (Below w.heap.size w wr)) (fun _ x _ => (m + 1 - intOf x).toNat)
      case atStart => exact ⟨0, Nat.zero_le _, by simp, by simpa [lineN] using hown, hkp, hbl⟩
      case round =>
        obtain ⟨i, hi, rfl, hown, hkp, hbl⟩ := hrel
        obtain ⟨LL, hLL⟩ : ∃ LL, LL = allN l r m (2 * m + 1) j ++ lineN l r m ((j : Int) - m) i := ⟨_, rfl⟩
        rw [← hLL] at hown
        have HLL := Lib.hid hLL
        clear hLL
        by_cases hli : i < 2 * m + 1
        · have D1 := HB1.out.keep hkp.out (by omega)
          have D3 : Keeps (fun _ => True) w wr := Keeps.all hbl.out _
          have X0 : wr.cell? ⟨w.heap.size, 0, none⟩ = some (.int .i64 l.kind) := by rw [D1.cell]; rfl
          have X1 : wr.cell? ⟨w.heap.size, 1, none⟩ = some (.slice a1 l.o.length c1) := by rw [D1.cell]; rfl
          have X2 : wr.cell? ⟨w.heap.size, 2, none⟩ = some (.slice a2 l.r.length c2) := by rw [D1.cell]; rfl
          have X3 : wr.cell? ⟨w.heap.size, 3, none⟩ = some (.slice a3 l.u.length c3) := by rw [D1.cell]; rfl
          have hszr : w.heap.size < wr.heap.size := D1.lt
          have HD3 := Lib.hid D3
          clear D1 D3
          go_wp2_with fail
          refine (HA.out _ ?_ _ _ ?_ ?_).mono ?_
          · exact HD3.out.of_alloc _
          · omega
          · omega
          rintro e w3 ⟨g, rfl, hrow, -, -, hb3⟩
          have HR3 := Lib.hid hrow
          have HB3 := Lib.hid hb3
          clear hrow hb3
          go_wp2_with fail
          refine (HE.out _ ?_ _ _ _ HR3.out).mono ?_
          · exact (HD3.out.of_alloc _).trans (Keeps.all HB3.out _)
          rintro e w4 ⟨rfl, q, rfl⟩
          have K4 : Keeps (fun _ => True) (wr.alloc (.cells #[.int .i64 ((i : Int) - m), .int .i64 ((j : Int) - m)] 23)) w3 := Keeps.all HB3.out _
          have K5 : Keeps (fun _ => True) wr w3 := (Keeps.alloc _ _ _).trans K4
          have O4 := own_all hown.out K5
          have Y := (Blk.new wr #[.int .i64 ((i : Int) - m), .int .i64 ((j : Int) - m)] 23).keep K4 trivial
          have Y0 : w3.cell? ⟨wr.heap.size, 0, none⟩ = some (.int .i64 ((i : Int) - m)) := by rw [Y.cell]; rfl
          have Y1 : w3.cell? ⟨wr.heap.size, 1, none⟩ = some (.int .i64 ((j : Int) - m)) := by rw [Y.cell]; rfl
          have hlen := allN_len l r m (2 * m + 1) j
          have hlen2 := lineN_len l r m ((j : Int) - m) i
          have hbd : (LL.length + 1) * 16 ≤ 140737488355328 := by
            rw [HLL.out, List.length_append]
            have : j * (2 * m + 1) ≤ 41 * 41 := Nat.mul_le_mul (by omega) (by omega)
            omega
          have hszw : w.heap.size + 1 ≤ w3.heap.size := by have := HB3.out.size; simp at this; omega
          have KB3 : Below w.heap.size w w3 := hbl.out.trans (((Below.refl _ wr).alloc (Nat.le_of_lt hszr) _).trans (HB3.out.mono (by simp; omega)))
          have HKB3 := Lib.hid KB3
          have HO4 := Lib.hid O4
          have HK5 := Lib.hid K5
          have HBD := Lib.hid hbd
          clear O4 K5 K4 Y hbd hlen hlen2 KB3
          by_cases hq : atRow l ((i : Int) - m) ((j : Int) - m) = r
          · have hq' : decide (atRow l ((i : Int) - m) ((j : Int) - m) = r) = true := by simp [hq]
            have HQ := Lib.hid hq
            clear hq
            go_wp2_with ((with_reducible refine wpList_append_one (o := ⟨some 50, _, _, _, _, _⟩) ?_ (.tmp 47) (.tmp 49) 31 ?_ (w.heap.size + 1) 23 (.agg #[.int .i64 0, .int .i64 0]) 2 16 Try.underlying31 Try.info_key ?_ ?_ ?_ u10 _ _ ?_ (own_all HO4.out ?_) w3.heap.size ?_ [.int .i64 ((i : Int) - m), .int .i64 ((j : Int) - m)] ?_ ?_ ?_ HBD.out ?_ ?_); rfl; rfl; rfl; decide; decide; rfl; (exact Keeps.alloc _ _ _); rfl; rfl; (exact (Blk.newAt _ _ rfl).at _ _ (by intro t ht; match t, ht with | 0, _ => rfl | 1, _ => rfl)); (simp [Value.oneCell']); (simp; omega); intro g' cap w5 hown5 hk5 hb5 ⟨hg5, hl5, _⟩; have HO5 := Lib.hid hown5; have HK6 := Lib.hid hk5; have HB5 := Lib.hid hb5; clear hown5 hk5 hb5)
            go_roundw
            case rel =>
              refine ⟨i + 1, by omega, ?_, ?_, ?_, ?_⟩
              · go_num
              · have e : lineN l r m ((j : Int) - m) (i + 1) = lineN l r m ((j : Int) - m) i ++ [((i : Int) - m, (j : Int) - m)] := by rw [lineN_succ, keyAt, if_pos HQ.out]
                rw [e, ← List.append_assoc, ← HLL.out]
                exact own_append HO5.out (by simp) (by rw [List.flatMap_append]; rfl)
              · exact (hkp.out.trans (HK5.out.mono (fun _ _ => trivial))).trans ((Keeps.alloc (w3.drewN q) _ _).trans (Keeps.below HB5.out))
              · exact (below_drawn HKB3.out q).trans (((Below.refl _ (w3.drewN q)).alloc (by simp; omega) _).trans (HB5.out.mono (by omega)))
            case measure => simp [intOf]; omega
          · have hq' : decide (atRow l ((i : Int) - m) ((j : Int) - m) = r) = false := by simp [hq]
            have HQ := Lib.hid hq
            clear hq
            go_wp2
            go_roundw
            case rel =>
              refine ⟨i + 1, by omega, by go_num, ?_, ?_, ?_⟩
              · have e : lineN l r m ((j : Int) - m) (i + 1) = lineN l r m ((j : Int) - m) i := by rw [lineN_succ, keyAt, if_neg HQ.out, List.append_nil]
                rw [e, ← HLL.out]; exact HO4.out
              · exact hkp.out.trans (HK5.out.mono (fun _ _ => trivial))
              · exact below_drawn HKB3.out q
            case measure => simp [intOf]; omega
        · have hin : i = 2 * m + 1 := by omega
          have e : allN l r m (2 * m + 1) j ++ lineN l r m ((j : Int) - m) i = allN l r m (2 * m + 1) (j + 1) := by rw [allN_succ, hin]
          have HO := Lib.hid hown.out
          rw [HLL.out, e] at HO
          clear e hown HLL
          go_wp2
          go_roundw
          case rel => exact ⟨j + 1, by omega, by go_num, HO.out, hkp, hbl⟩
          case measure => simp [intOf]; omega
    · have hjn : j = 2 * m + 1 := by omega
      have HO := Lib.hid hown.out
      rw [hjn] at HO
      clear hown
      go_wp2
      refine bodyPost_ret (results_tmp2 rfl _ _ _) rfl ?_
      exact ⟨_, rfl, own_base HO.out (by omega), hbl.out⟩
end Go.Proofs.Ytcnpanmkpfgdjaa
