/- Two lists that grow side by side: chords of one row, and copies of a layout. -/
import Derived.Test.YtcnpanmkpfgdjaaCost
namespace Go.Proofs.Ytcnpanmkpfgdjaa
open Go.RowKit Go.Sch

theorem Try.info_rows : (Try.prog.info? 44).map (fun i => (i.zero, i.size, i.bytes)) = some (some (.slice none 0 0), 1, 24) := by kernel_rfl
theorem Try.info_lay : (Try.prog.info? 43).map (fun i => (i.zero, i.size, i.bytes)) = some (some (.agg #[.int .i64 0, .slice none 0 0, .slice none 0 0, .slice none 0 0]), 4, 80) := by kernel_rfl
/-- The chords: each a new block with the row x. -/
def Chs (w : World) (B G : Nat) (x u t : Value) (k : Nat) : Prop := ∃ xs : List Value, w.ownsRow B 44 1 u k xs ∧
  ∀ i, i < k → ∃ A, xs[i]? = some (.slice (some ⟨A, 0, none⟩) 1 1) ∧ Blk w A #[x] 41 ∧ G < A ∧ u.ownBlock ≠ some A ∧ t.ownBlock ≠ some A
/-- The layouts: each a copy of the cells C. -/
def Lys (w : World) (B : Nat) (C : List Value) (t : Value) (k : Nat) : Prop := w.ownsRow B 43 4 t k (List.replicate k C).flatten
def Apart (G : Nat) (u t : Value) : Prop := (∀ g, u.ownBlock = some g → G < g) ∧ (∀ g, t.ownBlock = some g → G < g) ∧ (∀ g, u.ownBlock = some g → t.ownBlock ≠ some g)
theorem chs_nil (w : World) (B G : Nat) (x t : Value) : Chs w B G x (.slice none 0 0) t 0 := ⟨[], World.ownsRow_nil _ _ _ _, fun _ hi => absurd hi (Nat.not_lt_zero _)⟩
theorem lys_nil (w : World) (B : Nat) (C : List Value) : Lys w B C (.slice none 0 0) 0 := World.ownsRow_nil _ _ _ _
theorem apart_nil (G : Nat) : Apart G (.slice none 0 0) (.slice none 0 0) := ⟨fun g h => (by cases h), fun g h => (by cases h), fun g h => (by cases h)⟩
/-- One chord more. -/
theorem chs_more {w w5 : World} {B G : Nat} {x u t u' : Value} {k : Nat} {C : List Value} {xs : List Value} (ho : w.ownsRow B 44 1 u k xs)
    (hx : ∀ i, i < k → ∃ A, xs[i]? = some (.slice (some ⟨A, 0, none⟩) 1 1) ∧ Blk w A #[x] 41 ∧ G < A ∧ u.ownBlock ≠ some A ∧ t.ownBlock ≠ some A)
    (hl : Lys w B C t k) (ha : Apart G u t) (hG : G < w.heap.size)
    (ho5 : w5.ownsRow B 44 1 u' (k + 1) (xs ++ [.slice (some ⟨w.heap.size, 0, none⟩) 1 1]))
    (hk5 : Keeps (fun b => u.ownBlock ≠ some b) ((w.alloc (.cells #[x] 41)).alloc (.cells #[.slice (some ⟨w.heap.size, 0, none⟩) 1 1] 44)) w5)
    (hg5 : ∀ g', u'.ownBlock = some g' → u.ownBlock = some g' ∨ w.heap.size + 2 ≤ g') :
    Chs w5 B G x u' t (k + 1) ∧ Lys w5 B C t k ∧ Apart G u' t := by
  have hut : ∀ g, u.ownBlock = some g → g < w.heap.size := fun g hg => (own_ge ho hg).2
  have htt : ∀ g, t.ownBlock = some g → g < w.heap.size := fun g hg => (own_ge hl hg).2
  have kw : Keeps (fun b => u.ownBlock ≠ some b) w w5 := ((Keeps.alloc _ _ _).of_alloc _).trans hk5
  refine ⟨⟨_, ho5, fun i hi => ?_⟩, own_keep hl kw fun g hg e => ha.2.2 g e hg, ⟨fun g hg => ?_, ha.2.1, fun g hg e => ?_⟩⟩
  · by_cases hlt : i < k
    · obtain ⟨A, h1, h2, h3, h4, h5⟩ := hx i hlt
      have hxl : xs.length = k := by have := ho.1; omega
      refine ⟨A, by rw [List.getElem?_append_left (by omega)]; exact h1, h2.keep kw h4, h3, fun e => ?_, h5⟩
      have := h2.lt
      rcases hg5 A e with h | h
      · exact h4 h
      · omega
    · have hxl : xs.length = k := by have := ho.1; omega
      obtain rfl : i = k := by omega
      have hne : u.ownBlock ≠ some w.heap.size := fun e => by have := hut _ e; omega
      refine ⟨w.heap.size, by rw [List.getElem?_append_right (by omega), hxl, Nat.sub_self]; rfl, ?_, hG, fun e => ?_, fun e => by have := htt _ e; omega⟩
      · exact ((Blk.new w _ _).keep (Keeps.alloc _ _ (fun b => u.ownBlock ≠ some b)) hne).keep hk5 hne
      · rcases hg5 _ e with h | h
        · exact hne h
        · omega
  · rcases hg5 g hg with h | h
    · exact ha.1 g h
    · omega
  · rcases hg5 g hg with h | h
    · exact ha.2.2 g h e
    · have := htt g e; omega
/-- One layout more. -/
theorem lys_more {w w5 : World} {B G : Nat} {x u t t' : Value} {k : Nat} {C : List Value} (hc : Chs w B G x u t (k + 1)) (ha : Apart G u t) (hG : G < w.heap.size)
    (ho5 : w5.ownsRow B 43 4 t' (k + 1) ((List.replicate k C).flatten ++ C))
    (hk5 : Keeps (fun b => t.ownBlock ≠ some b) (w.alloc (.cells C.toArray 43)) w5)
    (hg5 : ∀ g', t'.ownBlock = some g' → t.ownBlock = some g' ∨ w.heap.size + 1 ≤ g') :
    Chs w5 B G x u t' (k + 1) ∧ Lys w5 B C t' (k + 1) ∧ Apart G u t' := by
  obtain ⟨xs, ho, hx⟩ := hc
  have hut : ∀ g, u.ownBlock = some g → g < w.heap.size := fun g hg => (own_ge ho hg).2
  have kw : Keeps (fun b => t.ownBlock ≠ some b) w w5 := (Keeps.alloc _ _ _).trans hk5
  refine ⟨⟨xs, own_keep ho kw fun g hg e => ha.2.2 g hg e, fun i hi => ?_⟩, ?_, ⟨ha.1, fun g hg => ?_, fun g hg e => ?_⟩⟩
  · obtain ⟨A, h1, h2, h3, h4, h5⟩ := hx i hi
    refine ⟨A, h1, h2.keep kw h5, h3, h4, fun e => ?_⟩
    have := h2.lt
    rcases hg5 A e with h | h
    · exact h5 h
    · omega
  · unfold Lys
    rw [List.replicate_succ', List.flatten_append]
    simpa using ho5
  · rcases hg5 g hg with h | h
    · exact ha.2.1 g h
    · omega
  · rcases hg5 g e with h | h
    · exact ha.2.2 g hg h
    · have := hut g hg; omega
theorem chs_keep {w w' : World} {B G : Nat} {x u t : Value} {k : Nat} (h : Chs w B G x u t k) (kp : Keeps (fun _ => True) w w') : Chs w' B G x u t k := by
  obtain ⟨xs, ho, hx⟩ := h
  exact ⟨xs, own_all ho kp, fun i hi => let ⟨A, h1, h2, h3⟩ := hx i hi; ⟨A, h1, h2.keep kp trivial, h3⟩⟩
/-- They read as chords, as layouts. -/
theorem chs_read {w : World} {B G : Nat} {x u t : Value} {k : Nat} (h : Chs w B G x u t k) {o : List Int} (hx : rowR.R w (fun _ => True) [x] o) : chordsR.R w (fun _ => True) [u] (List.replicate k [o]) := by
  obtain ⟨xs, ho, he⟩ := h
  have hxl : xs.length = k := by have := ho.1; omega
  refine slice_of_own (E := rowsR) (n := k) (xs := xs) ho (List.length_replicate ..).symm (fun _ _ => trivial) fun i hi => ?_
  rw [List.length_replicate] at hi
  obtain ⟨A, h1, h2, -⟩ := he i hi
  have e : (xs.drop (i * rowsR.size)).take rowsR.size = [.slice (some ⟨A, 0, none⟩) 1 1] := by
    show (xs.drop (i * 1)).take 1 = _
    rw [Nat.mul_one, List.drop_eq_getElem_cons (by omega)]
    rw [List.getElem?_eq_getElem (by omega)] at h1
    simp only [Option.some.injEq] at h1
    rw [h1]
    rfl
  rw [e, List.getElem_replicate]
  exact rows_one h2 trivial hx
theorem flat_chunk {C : List Value} : ∀ (k i : Nat), i < k → ((List.replicate k C).flatten.drop (i * C.length)).take C.length = C
  | 0, i, h => absurd h (Nat.not_lt_zero _)
  | k + 1, 0, _ => by simp [List.replicate_succ]
  | k + 1, i + 1, h => by
    rw [List.replicate_succ, List.flatten_cons, Nat.succ_mul, Nat.add_comm, List.drop_append, List.drop_of_length_le (by omega), List.nil_append, Nat.add_sub_cancel_left]
    exact flat_chunk k i (by omega)
theorem lys_read {w : World} {B : Nat} {C : List Value} {t : Value} {k : Nat} (h : Lys w B C t k) {l : Lay} (hC : C.length = 4) (hx : layR.R w (fun _ => True) C l) : laysR.R w (fun _ => True) [t] (List.replicate k l) := by
  refine slice_of_own (E := layR) (n := k) h (List.length_replicate ..).symm (fun _ _ => trivial) fun i hi => ?_
  rw [List.length_replicate] at hi
  have := flat_chunk (C := C) k i hi
  rw [hC] at this
  show layR.R w _ (((List.replicate k C).flatten.drop (i * 4)).take 4) _
  rw [this, List.getElem_replicate]
  exact hx
/-- The origin alone is found at the key 0, 0. -/
theorem at_zero {l : Lay} : atRow l 0 0 = l.o := by
  unfold atRow
  apply List.ext_getElem
  · simp
  · intro i h1 h2
    simp only [List.getElem_map, List.getElem_range, atI]
    rw [List.getElem?_eq_getElem h2]
    simp
theorem keys_zero {l : Lay} : keysOf l l.o 0 = [(0, 0)] := by
  have e : keyAt l l.o 0 0 0 = [(0, 0)] := by
    unfold keyAt
    rw [if_pos (by show atRow l ((0 : Nat) - (0 : Int)) 0 = l.o; exact at_zero)]
    rfl
  show (List.range 1).flatMap (fun a : Nat => lineN l l.o 0 ((a : Int) - 0) 1) = _
  simp [lineN, e]
theorem origin_fine {l : Lay} {n : Nat} (hn : n ≤ 12) (hk : l.kind = 1 ∨ l.kind = 2) (h1 : small n l.o) (h2 : small n l.r) (h3 : small n l.u) :
    reachCheck ⟨l, [l.o], 0⟩ = 0 ∧ (qCount ⟨l, [l.o], 0⟩).2 = 0 ∧ ∃ x, leastOf (farD l.kind) (chs (qLists ⟨l, [l.o], 0⟩)) = some (x, 0) := by
  have hc : reachCheck ⟨l, [l.o], 0⟩ = 0 := reachCheck_small hn hk h1 h2 h3 (by intro r hr; simp only [List.mem_singleton] at hr; subst hr; exact h1) (show 0 < 1 ∧ 1 ≤ 8 by decide) (show (0 : Int) ≤ 0 ∧ (0 : Int) ≤ 20 by decide)
  have hq : qLists ⟨l, [l.o], 0⟩ = [[(0, 0)]] := by
    show [keysOf l l.o 0] = _
    rw [keys_zero]
  refine ⟨hc, ?_, [(0, 0)], ?_⟩
  · rw [qCount, if_neg (by rw [hc]; decide), hq]
    decide
  · rw [hq]
    rfl
end Go.Proofs.Ytcnpanmkpfgdjaa
