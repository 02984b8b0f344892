/- Contract of layout.at. -/
import Derived.Test.YtcnpanmkpfgdjaaLay
import Derived.Deep.OwnRows
import Derived.Laws.CopyOwn
import Derived.StillTailTactics
namespace Go.Proofs.Ytcnpanmkpfgdjaa
open Go.RowKit Go.Sch

theorem Try.info_int : (Try.prog.info? 3).map (fun i => (i.zero, i.size, i.bytes)) = some (some (.int .i64 0), 1, 8) := by kernel_rfl
theorem Try.size_int : (Try.prog.info? 3).map (·.size) = some 1 := by kernel_rfl

def atI (l : Lay) (x y : Int) (i : Nat) : Int := l.o[i]?.getD 0 + (x * l.r[i]?.getD 0 + y * l.u[i]?.getD 0)
def atRow (l : Lay) (x y : Int) : List Int := (List.range l.o.length).map (atI l x y)
/-- The cells behind k rounds. -/
def atC (l : Lay) (x y : Int) (k : Nat) : Array Value := ((List.range l.o.length).map fun i => Value.int .i64 (if i < k then atI l x y i else l.o[i]?.getD 0)).toArray
theorem atC_size (l : Lay) (x y : Int) (k : Nat) : (atC l x y k).size = l.o.length := by simp [atC]
theorem atC_get {l : Lay} {x y : Int} {k i : Nat} (h : i < l.o.length) : (atC l x y k)[i]? = some (.int .i64 (if i < k then atI l x y i else l.o[i]?.getD 0)) := by
  simp [atC, h]
theorem atC_set {l : Lay} {x y : Int} {k : Nat} (_ : k < l.o.length) : (atC l x y k).setIfInBounds k (.int .i64 (atI l x y k)) = atC l x y (k+1) := by
  apply Array.ext
  · simp [atC]
  · intro i h1 h2
    simp only [Array.size_setIfInBounds, atC_size] at h1
    rw [Array.getElem_setIfInBounds]
    · have e1 := atC_get (l := l) (x := x) (y := y) (k := k) h1
      have e2 := atC_get (l := l) (x := x) (y := y) (k := k+1) h1
      rw [Array.getElem?_eq_getElem (by rw [atC_size]; exact h1)] at e1 e2
      simp only [Option.some.injEq] at e1 e2
      rw [e1, e2]
      by_cases hik : k = i
      · subst hik; simp
      · rw [if_neg hik]
        by_cases hlt : i < k
        · rw [if_pos hlt, if_pos (by omega)]
        · rw [if_neg hlt, if_neg (by omega)]
    · simp only [Array.size_setIfInBounds, atC_size]; exact h1
theorem atC_zero (l : Lay) (x y : Int) : atC l x y 0 = (l.o.map (Value.int .i64)).toArray := by
  simp only [atC, Nat.not_lt_zero, if_false]
  congr 1
  apply List.ext_getElem
  · simp
  · intro i h1 h2
    simp at h1
    simp [h1]
theorem atC_end (l : Lay) (x y : Int) : atC l x y l.o.length = ((atRow l x y).map (Value.int .i64)).toArray := by
  simp only [atC, atRow, List.map_map]
  congr 1
  apply List.map_congr_left
  intro i hi
  simp only [List.mem_range] at hi
  simp [hi]

theorem mul_bd {x r : Int} (h1 : -1000000 ≤ x) (h2 : x ≤ 1000000) (h3 : -1000000000 ≤ r) (h4 : r ≤ 1000000000) : -1000000000000000 ≤ x * r ∧ x * r ≤ 1000000000000000 := by
  have h := Int.natAbs_mul x r
  have a : x.natAbs ≤ 1000000 := by omega
  have b : r.natAbs ≤ 1000000000 := by omega
  have c : x.natAbs * r.natAbs ≤ 1000000 * 1000000000 := Nat.mul_le_mul a b
  omega
set_option maxRecDepth 100000 in
set_option maxHeartbeats 2000000 in
theorem at_calls {w : World} {ok : Nat → Prop} {cs : List Value} {l : Lay} (h : layR.R w ok cs l) (x y : Int)
    (hr : l.r.length = l.o.length) (hu : l.u.length = l.o.length) (hn : l.o.length ≤ 64) (hx : -1000000 ≤ x ∧ x ≤ 1000000) (hy : -1000000 ≤ y ∧ y ≤ 1000000)
    (hfo : ∀ i : Nat, -1000000000 ≤ l.o[i]?.getD 0 ∧ l.o[i]?.getD 0 ≤ 1000000000) (hfr : ∀ i : Nat, -1000000000 ≤ l.r[i]?.getD 0 ∧ l.r[i]?.getD 0 ≤ 1000000000) (hfu : ∀ i : Nat, -1000000000 ≤ l.u[i]?.getD 0 ∧ l.u[i]?.getD 0 ≤ 1000000000) :
    Calls Try.prog 42 #[.agg cs.toArray, .agg #[.int .i64 x, .int .i64 y]] w fun e w' => e = .returned (.slice (some ⟨w.heap.size + 2, 0, none⟩) l.o.length l.o.length) ∧
      Blk w' (w.heap.size + 2) ((atRow l x y).map (Value.int .i64)).toArray 3 ∧ Below w.heap.size w w' := by
  obtain ⟨v1, v2, v3, rfl, hk, ho, hr1, hu1⟩ := h
  obtain ⟨a1, c1, rfl, h11, h12, -, h14⟩ := ints_cases ho
  obtain ⟨a2, c2, rfl, h21, h22, -, h24⟩ := ints_cases hr1
  obtain ⟨a3, c3, rfl, h31, h32, -, h34⟩ := ints_cases hu1
  clear ho hr1 hu1
  unfold maxLen at h12 h22 h32
  rw [hr, hu]
  rw [hr] at h24 h21
  rw [hu] at h34 h31
  clear hr hu
  obtain ⟨n, hN⟩ : ∃ n, n = l.o.length := ⟨_, rfl⟩
  rw [← hN] at h11 h14 h24 h21 h34 h31 hn ⊢
  have HN := Lib.hid hN
  clear hN
  have hmk := fun wx => run_make_row' (P := Try.prog) 41 3 (.int .i64 0) 8 Try.underlying41 Try.info_int rfl .i64 .i64 n (by omega) (by omega) wx
  have H1 := Lib.hid h14
  have H2 := Lib.hid h24
  have H3 := Lib.hid h34
  have F1 := Lib.hid hfo
  have F2 := Lib.hid hfr
  have F3 := Lib.hid hfu
  clear h14 h24 h34 hfo hfr hfu
  go_enter Try.func42, Try.ntmps42
  have HS := Lib.hid (show SrcAt w a1 (l.o.map (Value.int .i64)) from SrcAt.ints (ok := ok) (by rw [← HN.out]; exact H1.out))
  have QL := Lib.hid (show (l.o.map (Value.int .i64)).length = n by rw [List.length_map, ← HN.out])
  have QS := Lib.hid (show (madeCells #[Value.int .i64 0] n).size = n from size_madeCells _ _)
  go_wp2_with ((with_reducible refine wpList_copy_all (o := ⟨some 14, _, _, _, _, _⟩) ?_ (.tmp 11) (.tmp 13) 41 ?_ 3 Try.underlying41 Try.size_int (w.heap.size + 2) n n a1 c1 ?_ ?_ (madeCells #[Value.int .i64 0] n) 3 ?_ QS.out (l.o.map (Value.int .i64)) QL.out (HS.out.keep ?_) (oneCell_ints _ _) ?_); rfl; rfl; rfl; rfl; (exact Blk.newAt _ _ (by simp)); (exact ((Keeps.alloc _ _ _).of_alloc _).of_alloc _); intro wc hgc hkc hbc hsc)
  have B0 : Keeps (fun _ => True) w (((w.alloc (.cells #[.int .i64 l.kind, .slice a1 n c1, .slice a2 n c2, .slice a3 n c3] 43)).alloc (.cells #[.int .i64 x, .int .i64 y] 23)).alloc (.cells (madeCells #[.int .i64 0] n) 3)) := ((Keeps.alloc _ _ _).of_alloc _).of_alloc _
  have E1 : Blk wc w.heap.size #[.int .i64 l.kind, .slice a1 n c1, .slice a2 n c2, .slice a3 n c3] 43 := (((Blk.new w _ _).keep (Keeps.alloc _ _ (fun _ => True)) trivial).keep (Keeps.alloc _ _ (fun _ => True)) trivial).keep hkc (by omega)
  have E2 : Blk wc (w.heap.size + 1) #[.int .i64 x, .int .i64 y] 23 := ((Blk.newAt _ _ (by simp)).keep (Keeps.alloc _ _ (fun _ => True)) trivial).keep hkc (by omega)
  have E3 : Below w.heap.size w wc := ((((Below.refl _ _).alloc (Nat.le_refl _) _).alloc (by simp) _).alloc (by simp; omega) _).trans (hbc.mono (by omega))
  have E4 : Keeps (· < w.heap.size) w wc := Keeps.below E3
  rw [← atC_zero l x y] at hgc
  have HG := Lib.hid hgc
  have HE1 := Lib.hid E1
  have HE2 := Lib.hid E2
  have HE3 := Lib.hid E3
  have HE4 := Lib.hid E4
  clear hgc E1 E2 E3 E4 B0 hkc hbc hsc
  go_loopw [6, 17] (fun _ i wr => ∃ k : Nat, k ≤ n ∧ i = .int .i64 k ∧ Hid (Blk wr (w.heap.size + 1 + 1) (atC l x y k) 3) ∧ Hid (Keeps (· < w.heap.size + 2) wc wr) ∧ Hid (Below w.heap.size w wr)) (fun _ i _ => n - (intOf i).toNat)
  case atStart => exact ⟨0, Nat.zero_le _, rfl, HG, Keeps.refl _ _, HE3⟩
  case round =>
    obtain ⟨k, hk, rfl, hb, hkp, hbl⟩ := hrel
    by_cases hlt : k < n
    · have hkl : k < l.o.length := by rw [← HN.out]; exact hlt
      have D1 := HE1.out.keep hkp.out (by omega)
      have D2 := HE2.out.keep hkp.out (by omega)
      have D3 : Keeps (· < w.heap.size) w wr := HE4.out.trans (hkp.out.mono (fun b h => by omega))
      rcases H2.out with ⟨_, e2⟩ | ⟨b2, off2, e2, _, _, hc2⟩
      · omega
      rcases H3.out with ⟨_, e3⟩ | ⟨b3, off3, e3, _, _, hc3⟩
      · omega
      have X1 : wr.cell? ⟨w.heap.size, 2, none⟩ = some (.slice (some ⟨b2, off2, none⟩) n c2) := by rw [D1.cell, e2]; rfl
      have X2 : wr.cell? ⟨w.heap.size, 3, none⟩ = some (.slice (some ⟨b3, off3, none⟩) n c3) := by rw [D1.cell, e3]; rfl
      have X3 : wr.cell? ⟨w.heap.size + 1, 0, none⟩ = some (.int .i64 x) := by rw [D2.cell]; rfl
      have X4 : wr.cell? ⟨w.heap.size + 1, 1, none⟩ = some (.int .i64 y) := by rw [D2.cell]; rfl
      have X5 : wr.cell? ⟨b2, off2 + k, none⟩ = some (.int .i64 (l.r[k]?.getD 0)) := D3.cell (a := ⟨b2, off2 + k, none⟩) (cell_lt (hc2 k hlt)) (hc2 k hlt)
      have X6 : wr.cell? ⟨b3, off3 + k, none⟩ = some (.int .i64 (l.u[k]?.getD 0)) := D3.cell (a := ⟨b3, off3 + k, none⟩) (cell_lt (hc3 k hlt)) (hc3 k hlt)
      have X7 : wr.cell? ⟨w.heap.size + 1 + 1, k, none⟩ = some (.int .i64 (l.o[k]?.getD 0)) := by rw [hb.out.cell, atC_get hkl, if_neg (by omega)]
      have X8 : wr.frozen? ⟨w.heap.size + 1 + 1, k, none⟩ = false := hb.out.free k
      have hst := atC_set (x := x) (y := y) hkl
      have f1 := F1.out k
      have f2 := F2.out k
      have f3 := F3.out k
      have HATI : Hid (atI l x y k = l.o[k]?.getD 0 + (x * l.r[k]?.getD 0 + y * l.u[k]?.getD 0)) := rfl
      have hnb := hb.out.set k (.int .i64 (atI l x y k))
      rw [hst] at hnb
      have HNB := Lib.hid hnb
      clear hnb hst D1 D2 D3 e2 e3 hc2 hc3
      generalize l.o[k]?.getD 0 = ok at X7 f1 HATI
      generalize l.r[k]?.getD 0 = rk at X5 f2 HATI
      generalize l.u[k]?.getD 0 = uk at X6 f3 HATI
      have p1 := mul_bd hx.1 hx.2 f2.1 f2.2
      have p2 := mul_bd hy.1 hy.2 f3.1 f3.2
      have i1 : (0 : Int) ≤ (k : Int) ∧ (k : Int) < (n : Int) := by omega
      go_wp2
      go_still_tail 23, (by kernel_rfl)
      go_wp2
      go_roundw
      case rel =>
        refine ⟨k + 1, by omega, by go_num, ?_, ?_, ?_⟩
        · have := HNB.out
          rw [HATI.out] at this
          exact this
        · exact hkp.out.trans (Keeps.setCell (p := ⟨w.heap.size + 1 + 1, k, none⟩) (by simp))
        · exact (hbl.out.setCell (p := ⟨w.heap.size + 1 + 1, k, none⟩) (by simp; omega) _).drew
      case measure => simp [intOf]; omega
    · have hkn : k = n := by omega
      subst hkn
      rw [HN.out, atC_end] at hb
      go_wp2
      go_ret
      exact ⟨rfl, hb.out, hbl.out⟩
end Go.Proofs.Ytcnpanmkpfgdjaa
