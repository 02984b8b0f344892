/- Contract of reach.Check. -/
import Derived.Test.YtcnpanmkpfgdjaaDiam
namespace Go.Proofs.Ytcnpanmkpfgdjaa
open Go.RowKit Go.Sch

structure Quest where
  l : Lay
  chord : List (List Int)
  most : Int
def questR : Rep Quest where
  size := 6
  R w ok cs x := ∃ c v, cs = c ++ [v, .int .i64 x.most] ∧ layR.R w ok c x.l ∧ rowsR.R w ok [v] x.chord ∧ (Lit.int .i64 x.most).wf = true
  len := by rintro w ok cs x ⟨c, v, rfl, h, _⟩; rw [List.length_append, layR.len h]; rfl
  keep := by rintro w w' ok cs x ⟨c, v, rfl, h1, h2, h3⟩ k; exact ⟨c, v, rfl, layR.keep h1 k, rowsR.keep h2 k, h3⟩
  mono := by rintro w ok ok' cs x ⟨c, v, rfl, h1, h2, h3⟩ k; exact ⟨c, v, rfl, layR.mono h1 k, rowsR.mono h2 k, h3⟩
  pos := by decide
  lt := by rintro w ok cs x ⟨c, v, rfl, h1, h2, h3⟩; exact ⟨c, v, rfl, layR.lt h1, rowsR.lt h2, h3⟩
/-- The six cells of a question. -/
theorem quest_cells {w : World} {ok : Nat → Prop} {cs : List Value} {q : Quest} (h : questR.R w ok cs q) :
    ∃ a1 c1 a2 c2 a3 c3 a4 c4, cs = [.int .i64 q.l.kind, .slice a1 q.l.o.length c1, .slice a2 q.l.r.length c2, .slice a3 q.l.u.length c3, .slice a4 q.chord.length c4, .int .i64 q.most] ∧
      layR.R w ok [.int .i64 q.l.kind, .slice a1 q.l.o.length c1, .slice a2 q.l.r.length c2, .slice a3 q.l.u.length c3] q.l ∧ rowsR.R w ok [.slice a4 q.chord.length c4] q.chord ∧
      q.l.o.length ≤ 9223372036854775807 ∧ q.chord.length ≤ 9223372036854775807 := by
  obtain ⟨c, v, rfl, hl, hc, hm⟩ := h
  have hl0 := hl
  obtain ⟨v1, v2, v3, rfl, hk, ho, hr1, hu1⟩ := hl0
  obtain ⟨a1, c1, rfl, h11, h12, -, -⟩ := ints_cases ho
  obtain ⟨a2, c2, rfl, h21, h22, -, -⟩ := ints_cases hr1
  obtain ⟨a3, c3, rfl, h31, h32, -, -⟩ := ints_cases hu1
  obtain ⟨a4, c4, rfl, h41, h42, -⟩ := slice1_cases rfl hc
  unfold maxLen at h12 h42
  exact ⟨a1, c1, a2, c2, a3, c3, a4, c4, rfl, hl, hc, by omega, by omega⟩

def reachCheck (q : Quest) : Int :=
  if layCheck q.l ≠ 0 then layCheck q.l
  else if q.chord.length = 0 then 13
  else if 8 < q.chord.length then 4
  else if rowsCheck q.chord q.l.o.length ≠ 0 then rowsCheck q.chord q.l.o.length
  else windowCheck q.most

set_option maxRecDepth 100000 in
set_option maxHeartbeats 2000000 in
theorem reachCheck_calls {w : World} {ok : Nat → Prop} {cs : List Value} {q : Quest} (h : questR.R w ok cs q) :
    Calls Try.prog 28 #[.agg cs.toArray] w fun e w' => e = .returned (.int .i64 (reachCheck q)) ∧ Below w.heap.size w w' := by
  obtain ⟨a1, c1, a2, c2, a3, c3, a4, c4, rfl, hl, hc, b1, b2⟩ := quest_cells h
  clear h
  have hlT := layR.mono hl (fun _ _ => trivial : ∀ b, ok b → (fun _ => True) b)
  have hcT := rowsR.mono hc (fun _ _ => trivial : ∀ b, ok b → (fun _ => True) b)
  have HL := Lib.hid (fun w' (k : Keeps (fun _ => True) w w') => layCheck_calls (layR.keep hlT k))
  have HA := Lib.hid (fun w' (k : Keeps (fun _ => True) w w') => checkAll_calls (rowsR.keep hcT k))
  clear hl hc hlT hcT
  have HB : Hid (Blk (w.alloc (.cells #[.int .i64 q.l.kind, .slice a1 q.l.o.length c1, .slice a2 q.l.r.length c2, .slice a3 q.l.u.length c3, .slice a4 q.chord.length c4, .int .i64 q.most] 46)) w.heap.size #[.int .i64 q.l.kind, .slice a1 q.l.o.length c1, .slice a2 q.l.r.length c2, .slice a3 q.l.u.length c3, .slice a4 q.chord.length c4, .int .i64 q.most] 46) := Blk.new _ _ _
  by_cases hz : layCheck q.l = 0
  · have hz' : (layCheck q.l != 0) = false := by simp [hz]
    have fin : ∀ v : Int, (if q.chord.length = 0 then 13 else if 8 < q.chord.length then 4 else if rowsCheck q.chord q.l.o.length ≠ 0 then rowsCheck q.chord q.l.o.length else windowCheck q.most) = v → v = reachCheck q := by
      intro v hv; rw [reachCheck, if_neg (by simp [hz]), hv]
    have FIN := Lib.hid fin
    clear fin hz
    go_enter Try.func28, Try.ntmps28
    go_wp2_with fail
    refine (HL.out _ ?_).mono ?_
    · exact Keeps.alloc _ _ _
    rintro e w1 ⟨rfl, hb1⟩
    have D := HB.out.keep (Keeps.all hb1 (fun _ => True)) trivial
    have X1 : w1.cell? ⟨w.heap.size, 1, none⟩ = some (.slice a1 q.l.o.length c1) := by rw [D.cell]; rfl
    have X4 : w1.cell? ⟨w.heap.size, 4, none⟩ = some (.slice a4 q.chord.length c4) := by rw [D.cell]; rfl
    have X5 : w1.cell? ⟨w.heap.size, 5, none⟩ = some (.int .i64 q.most) := by rw [D.cell]; rfl
    have HB1 := Lib.hid hb1
    clear hb1 D
    by_cases hn0 : q.chord.length = 0
    · have hn0' : ((q.chord.length : Int) == 0) = true := by simp [hn0]
      have HN := Lib.hid hn0
      clear hn0
      go_wp2
      go_ret
      exact ⟨ret_int (FIN.out _ (by rw [if_pos HN.out])), (((Below.refl _ _).alloc (Nat.le_refl _) _).trans (HB1.out.mono (by simp)))⟩
    · have hn0' : ((q.chord.length : Int) == 0) = false := beq_eq_false_iff_ne.2 (by omega)
      by_cases hn8 : 8 < q.chord.length
      · have HN := Lib.hid (And.intro hn0 hn8)
        clear hn0
        go_wp2
        go_ret
        exact ⟨ret_int (FIN.out _ (by rw [if_neg HN.out.1, if_pos HN.out.2])), (((Below.refl _ _).alloc (Nat.le_refl _) _).trans (HB1.out.mono (by simp)))⟩
      · have HN := Lib.hid (And.intro hn0 hn8)
        clear hn0
        go_wp2_with fail
        refine (HA.out _ ?_ _).mono ?_
        · exact (Keeps.alloc _ _ _).trans (Keeps.all HB1.out _)
        rintro e w2 ⟨rfl, rfl⟩
        by_cases hr : rowsCheck q.chord q.l.o.length = 0
        · have hr' : (rowsCheck q.chord q.l.o.length != 0) = false := by simp [hr]
          have HR := Lib.hid hr
          clear hr
          by_cases m1 : q.most < 0
          · go_wp2
            go_ret
            exact ⟨ret_int (FIN.out _ (by rw [if_neg HN.out.1, if_neg HN.out.2, if_neg (by simp [HR.out]), windowCheck, if_pos (by omega)])), (((Below.refl _ _).alloc (Nat.le_refl _) _).trans (HB1.out.mono (by simp)))⟩
          · by_cases m2 : 20 < q.most
            · go_wp2
              go_ret
              exact ⟨ret_int (FIN.out _ (by rw [if_neg HN.out.1, if_neg HN.out.2, if_neg (by simp [HR.out]), windowCheck, if_pos (by omega)])), (((Below.refl _ _).alloc (Nat.le_refl _) _).trans (HB1.out.mono (by simp)))⟩
            · go_wp2
              go_ret
              exact ⟨ret_int (FIN.out _ (by rw [if_neg HN.out.1, if_neg HN.out.2, if_neg (by simp [HR.out]), windowCheck, if_neg (by omega)])), (((Below.refl _ _).alloc (Nat.le_refl _) _).trans (HB1.out.mono (by simp)))⟩
        · have hr' : (rowsCheck q.chord q.l.o.length != 0) = true := by simp [hr]
          have HR := Lib.hid hr
          clear hr
          go_wp2
          go_ret
          exact ⟨ret_int (FIN.out _ (by rw [if_neg HN.out.1, if_neg HN.out.2, if_pos HR.out])), (((Below.refl _ _).alloc (Nat.le_refl _) _).trans (HB1.out.mono (by simp)))⟩
  · have hz' : (layCheck q.l != 0) = true := by simp [hz]
    have HR := Lib.hid (show layCheck q.l = reachCheck q by rw [reachCheck, if_pos hz])
    clear hz
    go_enter Try.func28, Try.ntmps28
    go_wp2_with fail
    refine (HL.out _ ?_).mono ?_
    · exact Keeps.alloc _ _ _
    rintro e w1 ⟨rfl, hb1⟩
    have HB1 := Lib.hid hb1
    clear hb1
    go_wp2
    go_ret
    exact ⟨ret_int HR.out, (((Below.refl _ _).alloc (Nat.le_refl _) _).trans (HB1.out.mono (by simp)))⟩
end Go.Proofs.Ytcnpanmkpfgdjaa
