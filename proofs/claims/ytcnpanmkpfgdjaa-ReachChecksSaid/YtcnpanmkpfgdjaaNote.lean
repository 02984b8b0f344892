/- Contract of layout.Note, by a right layout, key and row. -/
import Derived.Test.YtcnpanmkpfgdjaaNear
namespace Go.Proofs.Ytcnpanmkpfgdjaa
open Go.RowKit Go.Sch

theorem blk4c {w : World} {g : Nat} {t : TypeId} {a b c d : Value} (h : Blk w g #[a, b, c, d] t) : w.cell? ⟨g, 0, none⟩ = some a ∧ w.cell? ⟨g, 1, none⟩ = some b ∧ w.cell? ⟨g, 2, none⟩ = some c ∧ w.cell? ⟨g, 3, none⟩ = some d :=
  ⟨by rw [h.cell]; rfl, by rw [h.cell]; rfl, by rw [h.cell]; rfl, by rw [h.cell]; rfl⟩
set_option maxRecDepth 100000 in
set_option maxHeartbeats 2000000 in
theorem note_calls {w : World} {ok : Nat → Prop} {cs : List Value} {l : Lay} (h : layR.R w ok cs l) (hc : layCheck l = 0) (x y : Int) (hx : -1000000 ≤ x ∧ x ≤ 1000000) (hy : -1000000 ≤ y ∧ y ≤ 1000000) (hr : rowCheck (atRow l x y) = 0) :
    Calls Try.prog 18 #[.agg cs.toArray, .agg #[.int .i64 x, .int .i64 y]] w fun e w' => ∃ g n, e = .returned (.tuple #[.slice (some ⟨g, 0, none⟩) n n, .int .i64 0]) ∧
      rowR.R w' (fun b => w.heap.size ≤ b) [.slice (some ⟨g, 0, none⟩) n n] (atRow l x y) ∧ Below w.heap.size w w' := by
  have hT := layR.mono h (fun _ _ => trivial : ∀ b, ok b → (fun _ => True) b)
  have HL := Lib.hid (fun w' (k : Keeps (fun _ => True) w w') => layCheck_calls (layR.keep hT k))
  have R : Right l := (layCheck_right hc).2
  have HA := Lib.hid (fun w' (k : Keeps (fun _ => True) w w') => at_calls' (layR.keep hT k) R hx hy)
  have HF := Lib.hid (fun w' => layFar_calls x y hx hy w')
  have HRC := Lib.hid hr
  have HC := Lib.hid hc
  obtain ⟨v1, v2, v3, rfl, hk, ho, hr1, hu1⟩ := h
  obtain ⟨a1, c1, rfl, -⟩ := ints_cases ho
  obtain ⟨a2, c2, rfl, -⟩ := ints_cases hr1
  obtain ⟨a3, c3, rfl, -⟩ := ints_cases hu1
  obtain ⟨n1, hn1⟩ : ∃ n, n = l.o.length := ⟨_, rfl⟩
  obtain ⟨n2, hn2⟩ : ∃ n, n = l.r.length := ⟨_, rfl⟩
  obtain ⟨n3, hn3⟩ : ∃ n, n = l.u.length := ⟨_, rfl⟩
  rw [← hn1, ← hn2, ← hn3] at HL HA
  rw [← hn1, ← hn2, ← hn3]
  clear hT hr hc hk ho hr1 hu1 hn1 hn2 hn3 R
  go_enter Try.func18, Try.ntmps18
  go_wp2_with fail
  refine (HL.out _ ?_).mono ?_
  · exact (Keeps.alloc _ _ _).of_alloc _
  rintro e w1 ⟨rfl, hb⟩
  rw [HC.out]
  obtain ⟨hB, hX, hY⟩ := front2 hb
  have HB1 := Lib.hid hB
  have HX1 := Lib.hid hX
  have HY1 := Lib.hid hY
  obtain ⟨y1, y2⟩ := blk2 hY
  clear hb hB hX hY
  go_wp2_with fail
  refine (HF.out _).mono ?_
  rintro e w2 ⟨rfl, hb⟩
  have HB2 := Lib.hid (HB1.out.trans (hb.mono HB1.out.size))
  obtain ⟨y1, y2⟩ := blk2 (HY1.out.keep (Keeps.all hb (fun _ => True)) trivial)
  obtain ⟨x1, x2, x3, x4⟩ := blk4c (HX1.out.keep (Keeps.all hb (fun _ => True)) trivial)
  clear hb
  go_wp2_with fail
  refine (HA.out _ ?_).mono ?_
  · exact Keeps.all HB2.out _
  rintro e w3 ⟨g, rfl, hrow, -, -, hb⟩
  have HR3 := Lib.hid hrow
  have HB3 := Lib.hid (HB2.out.trans (hb.mono HB2.out.size))
  clear hb hrow
  go_wp2_with fail
  refine (rowCheck_calls HR3.out).mono ?_
  rintro e w4 ⟨rfl, rfl⟩
  rw [HRC.out]
  go_wp2
  refine bodyPost_ret (results_tmp2 rfl _ _ _) rfl ?_
  exact ⟨g, n1, rfl, rowR.mono HR3.out fun b hb => Nat.le_trans HB2.out.size hb, HB3.out⟩
end Go.Proofs.Ytcnpanmkpfgdjaa
