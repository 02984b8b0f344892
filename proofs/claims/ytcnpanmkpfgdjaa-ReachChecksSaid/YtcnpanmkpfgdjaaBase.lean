/- Lemmas on how data lie in memory (no program): ints, structs, slices, slices of slices; what a world keeps of another. -/
import Derived.WalkKit
import Derived.WalkLawsBesides
import Derived.WalkSpells
import Derived.BigQuiet
import Derived.Deep.QuietTactic
import Derived.Lib.Hide
import Derived.Deep.OwnRows
import Derived.Laws.CopyOwn
import Derived.StillTailTactics
namespace Go.Sch
open Go Go.RowKit

theorem ret_bool {a b : Bool} (h : a = b) : Ending.returned (.bool a) = .returned (.bool b) := by rw [h]
theorem ret_int {k : IntKind} {a b : Int} (h : a = b) : Ending.returned (.int k a) = .returned (.int k b) := by rw [h]

theorem enters {P : Program} {g : Nat} {fn : Func} (h : P.funcs[g]? = some fn) (hn : (fn.name == "runtime.NumGoroutine") = false) (hb : fn.body.isNone = false) (xs : Array Value) (w : World) :
    (callFunc g xs).run P w = .ok (.enter g xs) w := by
  unfold callFunc
  simp only [Sem.run_bind, program, Sem.run, Result.andThen_ok, h, hn, hb, Bool.false_eq_true, if_false]
  rfl

/-- w' holds in the blocks that ok allows what w held there. -/
def Keeps (ok : Nat → Prop) (w w' : World) : Prop := ∀ b, ok b → b < w.heap.size → w'.heap[b]? = w.heap[b]?
theorem Keeps.refl (ok : Nat → Prop) (w : World) : Keeps ok w w := fun _ _ _ => rfl
theorem Keeps.size {ok : Nat → Prop} {w w' : World} (h : Keeps ok w w') {b : Nat} (hb : ok b) (hs : b < w.heap.size) : b < w'.heap.size := by
  have := h b hb hs
  rw [Array.getElem?_eq_getElem hs] at this
  exact (Array.getElem?_eq_some_iff.1 this).1
theorem Keeps.trans {ok : Nat → Prop} {w w' w'' : World} (h : Keeps ok w w') (k : Keeps ok w' w'') : Keeps ok w w'' :=
  fun b hb hs => (k b hb (h.size hb hs)).trans (h b hb hs)
theorem Keeps.mono {ok ok' : Nat → Prop} {w w' : World} (h : Keeps ok w w') (hm : ∀ b, ok' b → ok b) : Keeps ok' w w' :=
  fun b hb hs => h b (hm b hb) hs
theorem Keeps.below {B : Nat} {w w' : World} (h : Below B w w') : Keeps (· < B) w w' := fun b hb _ => h.block b hb
theorem Keeps.all {w w' : World} (h : Below w.heap.size w w') (ok : Nat → Prop) : Keeps ok w w' := fun b _ hs => h.block b hs
theorem Keeps.grown {w w' : World} {row : Option Nat} (h : w.grownBy w' row) {ok : Nat → Prop} (ho : ∀ b, ok b → some b ≠ row) : Keeps ok w w' :=
  fun b hb hs => h.block b hs (ho b hb)
theorem Keeps.setCell {w : World} {p : Addr} {v : Value} {ok : Nat → Prop} (ho : ¬ ok p.block) : Keeps ok w (w.setCell p v) :=
  fun _ hb _ => Below.heap_setCell _ _ _ _ (fun e => ho (e ▸ hb))
theorem Keeps.alloc (w : World) (o : Obj) (ok : Nat → Prop) : Keeps ok w (w.alloc o) := fun _ _ hs => Below.heap_alloc _ _ _ hs
theorem Keeps.drew (w : World) (ok : Nat → Prop) : Keeps ok w w.drew := fun _ _ _ => rfl
theorem Keeps.drewN (w : World) (n : Nat) (ok : Nat → Prop) : Keeps ok w (w.drewN n) := fun _ _ _ => rfl
theorem cell_lt {w : World} {a : Addr} {v : Value} (h : w.cell? a = some v) : a.block < w.heap.size := by
  unfold World.cell? at h
  split at h
  · rename_i h'; exact (Array.getElem?_eq_some_iff.1 h').1
  · cases h
theorem Keeps.cell {ok : Nat → Prop} {w w' : World} (h : Keeps ok w w') {a : Addr} {v : Value} (ho : ok a.block) (hc : w.cell? a = some v) : w'.cell? a = some v := by
  rw [World.cell?_of_block (w := w) (h a.block ho (cell_lt hc))]; exact hc

/-- How a datum lies in cells. -/
structure Rep (α : Type) where
  size : Nat
  R : World → (Nat → Prop) → List Value → α → Prop
  len : ∀ {w ok cs x}, R w ok cs x → cs.length = size
  keep : ∀ {w w' ok cs x}, R w ok cs x → Keeps ok w w' → R w' ok cs x
  mono : ∀ {w ok ok' cs x}, R w ok cs x → (∀ b, ok b → ok' b) → R w ok' cs x
  pos : 0 < size
  lt : ∀ {w ok cs x}, R w ok cs x → R w (fun b => ok b ∧ b < w.heap.size) cs x

/-- The cells cs lie at b, off. -/
def At (w : World) (b off : Nat) (cs : List Value) : Prop := ∀ i (h : i < cs.length), w.cell? ⟨b, off + i, none⟩ = some cs[i]
theorem At.keep {w w' : World} {b off : Nat} {cs : List Value} {ok : Nat → Prop} (h : At w b off cs) (k : Keeps ok w w') (ho : ok b) : At w' b off cs :=
  fun i hi => k.cell (a := ⟨b, off + i, none⟩) ho (h i hi)

def intR (k : IntKind) : Rep Int where
  size := 1
  R _ _ cs n := cs = [.int k n] ∧ (Lit.int k n).wf = true
  len h := by rw [h.1]; rfl
  keep h _ := h
  mono h _ := h
  pos := by decide
  lt h := h
def boolR : Rep Bool where
  size := 1
  R _ _ cs b := cs = [.bool b]
  len h := by rw [h]; rfl
  keep h _ := h
  mono h _ := h
  pos := by decide
  lt h := h
def pairR {α β : Type} (A : Rep α) (B : Rep β) : Rep (α × β) where
  size := A.size + B.size
  R w ok cs x := ∃ c d, cs = c ++ d ∧ A.R w ok c x.1 ∧ B.R w ok d x.2
  len := by rintro w ok cs x ⟨c, d, rfl, hc, hd⟩; rw [List.length_append, A.len hc, B.len hd]
  keep := by rintro w w' ok cs x ⟨c, d, rfl, hc, hd⟩ k; exact ⟨c, d, rfl, A.keep hc k, B.keep hd k⟩
  mono := by rintro w ok ok' cs x ⟨c, d, rfl, hc, hd⟩ k; exact ⟨c, d, rfl, A.mono hc k, B.mono hd k⟩
  pos := Nat.lt_of_lt_of_le A.pos (Nat.le_add_right _ _)
  lt := by rintro w ok cs x ⟨c, d, rfl, hc, hd⟩; exact ⟨c, d, rfl, A.lt hc, B.lt hd⟩
def sliceR {α : Type} (E : Rep α) : Rep (List α) where
  size := 1
  R w ok cs xs := ∃ ao cap, cs = [.slice ao xs.length cap] ∧ xs.length ≤ cap ∧ cap ≤ maxLen ∧
    (xs = [] ∨ ∃ b off, ao = some ⟨b, off, none⟩ ∧ ok b ∧ ∀ i (h : i < xs.length), ∃ es, At w b (off + i * E.size) es ∧ E.R w ok es xs[i])
  len := by rintro w ok cs x ⟨ao, cap, rfl, _⟩; rfl
  keep := by
    rintro w w' ok cs x ⟨ao, cap, rfl, h1, h2, h3⟩ k
    refine ⟨ao, cap, rfl, h1, h2, ?_⟩
    rcases h3 with h3 | ⟨b, off, ha, ho, he⟩
    · exact .inl h3
    · exact .inr ⟨b, off, ha, ho, fun i hi => let ⟨es, p, q⟩ := he i hi; ⟨es, p.keep k ho, E.keep q k⟩⟩
  mono := by
    rintro w ok ok' cs x ⟨ao, cap, rfl, h1, h2, h3⟩ k
    refine ⟨ao, cap, rfl, h1, h2, ?_⟩
    rcases h3 with h3 | ⟨b, off, ha, ho, he⟩
    · exact .inl h3
    · exact .inr ⟨b, off, ha, k b ho, fun i hi => let ⟨es, p, q⟩ := he i hi; ⟨es, p, E.mono q k⟩⟩
  pos := by decide
  lt := by
    rintro w ok cs x ⟨ao, cap, rfl, h1, h2, h3⟩
    refine ⟨ao, cap, rfl, h1, h2, ?_⟩
    by_cases h0 : x = []
    · exact .inl h0
    rcases h3 with h3 | ⟨b, off, ha, ho, he⟩
    · exact .inl h3
    · refine .inr ⟨b, off, ha, ⟨ho, ?_⟩, fun i hi => let ⟨es, p, q⟩ := he i hi; ⟨es, p, E.lt q⟩⟩
      obtain ⟨es, p, q⟩ := he 0 (List.length_pos_iff.2 h0)
      have := p 0 (by rw [E.len q]; exact E.pos)
      exact cell_lt this

/-- A choice of one value for each index below n. -/
theorem choose_lt {β : Type} [Inhabited β] {n : Nat} {p : Nat → β → Prop} (h : ∀ i, i < n → ∃ x, p i x) : ∃ f : Nat → β, ∀ i, i < n → p i (f i) := by
  classical
  refine ⟨fun i => if hi : i < n then Classical.choose (h i hi) else default, fun i hi => ?_⟩
  simp only [dif_pos hi]
  exact Classical.choose_spec (h i hi)

/-- A slice of one-cell elements: its address and the values in its cells. -/
theorem slice1_cases {α : Type} {E : Rep α} (h1 : E.size = 1) {w : World} {ok : Nat → Prop} {v : Value} {xs : List α} (h : (sliceR E).R w ok [v] xs) :
    ∃ ao cap, v = .slice ao xs.length cap ∧ xs.length ≤ cap ∧ cap ≤ maxLen ∧
      ((xs = [] ∧ xs.length = 0) ∨ ∃ b off, ∃ c : Nat → Value, ao = some ⟨b, off, none⟩ ∧ ok b ∧ 0 < xs.length ∧ ∀ i (hi : i < xs.length), w.cell? ⟨b, off + i, none⟩ = some (c i) ∧ E.R w ok [c i] xs[i]) := by
  obtain ⟨ao, cap, hv, h2, h3, h4⟩ := h
  refine ⟨ao, cap, by simpa using hv, h2, h3, ?_⟩
  rcases h4 with rfl | ⟨b, off, ha, ho, he⟩
  · exact .inl ⟨rfl, rfl⟩
  · by_cases h0 : xs.length = 0
    · exact .inl ⟨List.eq_nil_of_length_eq_zero h0, h0⟩
    · have key : ∀ i, i < xs.length → ∃ u : Value, w.cell? ⟨b, off + i, none⟩ = some u ∧ ∀ hi : i < xs.length, E.R w ok [u] xs[i] := by
        intro i hi
        obtain ⟨es, hat, hr⟩ := he i hi
        have hl := E.len hr
        rw [h1] at hl hat
        match es, hl with
        | [u], _ =>
          have := hat 0 (by simp)
          simp only [Nat.mul_one, Nat.add_zero, List.getElem_cons_zero] at this
          exact ⟨u, this, fun _ => hr⟩
      obtain ⟨c, hc⟩ := choose_lt key
      exact .inr ⟨b, off, c, ha, ho, by omega, fun i hi => ⟨(hc i hi).1, (hc i hi).2 hi⟩⟩

/-- A slice of ints. -/
theorem ints_cases {k : IntKind} {w : World} {ok : Nat → Prop} {v : Value} {zs : List Int} (h : (sliceR (intR k)).R w ok [v] zs) :
    ∃ ao cap, v = .slice ao zs.length cap ∧ zs.length ≤ cap ∧ cap ≤ maxLen ∧ (∀ x ∈ zs, (Lit.int k x).wf = true) ∧
      ((zs = [] ∧ zs.length = 0) ∨ ∃ b off, ao = some ⟨b, off, none⟩ ∧ ok b ∧ 0 < zs.length ∧ ∀ i, i < zs.length → w.cell? ⟨b, off + i, none⟩ = some (.int k (zs[i]?.getD 0))) := by
  obtain ⟨ao, cap, hv, h2, h3, h4⟩ := slice1_cases rfl h
  refine ⟨ao, cap, hv, h2, h3, ?_, ?_⟩
  · intro x hx
    obtain ⟨i, hi, rfl⟩ := List.getElem_of_mem hx
    rcases h4 with ⟨rfl, _⟩ | ⟨b, off, c, _, _, _, hc⟩
    · simp at hi
    · exact ((hc i hi).2).2
  · rcases h4 with h | ⟨b, off, c, ha, ho, h0, hc⟩
    · exact .inl h
    · refine .inr ⟨b, off, ha, ho, h0, fun i hi => ?_⟩
      obtain ⟨p, q⟩ := hc i hi
      have := q.1
      simp only [List.cons.injEq, and_true] at this
      rw [p, this, List.getElem?_eq_getElem hi]; rfl
theorem wf64 {n : Int} (h : (Lit.int .i64 n).wf = true) : -9223372036854775808 ≤ n ∧ n ≤ 9223372036854775807 := by
  have hmin : IntKind.i64.min = -9223372036854775808 := rfl
  have hmax : IntKind.i64.max = 9223372036854775807 := rfl
  simp only [Lit.wf, Bool.and_eq_true, decide_eq_true_eq] at h
  omega

/-- No index below k is met. -/
def NoneYet (p : Nat → Bool) (k : Nat) : Prop := ∀ j, j < k → p j = false
theorem NoneYet.zero (p : Nat → Bool) : NoneYet p 0 := fun _ h => absurd h (by omega)
theorem NoneYet.succ {p : Nat → Bool} {k : Nat} (h : NoneYet p k) (hk : p k = false) : NoneYet p (k+1) := fun j hj => by
  rcases Nat.lt_succ_iff_lt_or_eq.1 hj with h' | rfl
  · exact h j h'
  · exact hk

/-- Block g holds the cells c of type t, none of them frozen. -/
def Blk (w : World) (g : Nat) (c : Array Value) (t : TypeId) : Prop := w.heap[g]? = some (.cells c t (0, 0))
theorem Blk.cell {w : World} {g : Nat} {c : Array Value} {t : TypeId} (h : Blk w g c t) (i : Nat) : w.cell? ⟨g, i, none⟩ = c[i]? := by
  unfold Blk at h
  simp [World.cell?, h]
theorem Blk.free {w : World} {g : Nat} {c : Array Value} {t : TypeId} (h : Blk w g c t) (i : Nat) : w.frozen? ⟨g, i, none⟩ = false := by
  unfold Blk at h
  simp [World.frozen?, h]
theorem Blk.lt {w : World} {g : Nat} {c : Array Value} {t : TypeId} (h : Blk w g c t) : g < w.heap.size := (Array.getElem?_eq_some_iff.1 h).1
theorem Blk.set {w : World} {g : Nat} {c : Array Value} {t : TypeId} (h : Blk w g c t) (i : Nat) (v : Value) : Blk (w.setCell ⟨g, i, none⟩ v) g (c.setIfInBounds i v) t := by
  unfold Blk at h ⊢
  simp [World.setCell, Array.getElem?_modify, h]
theorem Blk.new (w : World) (c : Array Value) (t : TypeId) : Blk (w.alloc (.cells c t)) w.heap.size c t := by
  unfold Blk
  show (w.heap.push _)[w.heap.size]? = _
  simp
theorem Blk.newAt {w : World} {g : Nat} (c : Array Value) (t : TypeId) (h : g = w.heap.size) : Blk (w.alloc (.cells c t)) g c t := h ▸ Blk.new w c t
theorem Blk.keep {w w' : World} {g : Nat} {c : Array Value} {t : TypeId} {ok : Nat → Prop} (h : Blk w g c t) (k : Keeps ok w w') (ho : ok g) : Blk w' g c t := (k g ho h.lt).trans h
theorem Blk.at {w : World} {g : Nat} {c : Array Value} {t : TypeId} (h : Blk w g c t) (off : Nat) (cs : List Value) (hc : ∀ i (hi : i < cs.length), c[off + i]? = some cs[i]) : At w g off cs :=
  fun i hi => by rw [h.cell]; exact hc i hi
theorem Keeps.of_alloc {ok : Nat → Prop} {w w' : World} (h : Keeps ok w w') (o : Obj) : Keeps ok w (w'.alloc o) := h.trans (Keeps.alloc _ _ _)
theorem below_keeps {B : Nat} {w w' w'' : World} (h : Below B w w') (hw : Below B w' w'') : Below B w w'' := h.trans hw

/-- What is copied: nothing, or cells that lie at the address. -/
def SrcAt (w : World) (sp : Option Addr) (cs : List Value) : Prop := cs = [] ∨ ∃ b off, sp = some ⟨b, off, none⟩ ∧ At w b off cs
theorem SrcAt.ints {k : IntKind} {w : World} {ao : Option Addr} {zs : List Int} {ok : Nat → Prop}
    (h : (zs = [] ∧ zs.length = 0) ∨ ∃ b off, ao = some ⟨b, off, none⟩ ∧ ok b ∧ 0 < zs.length ∧ ∀ i, i < zs.length → w.cell? ⟨b, off + i, none⟩ = some (.int k (zs[i]?.getD 0))) : SrcAt w ao (zs.map (Value.int k)) := by
  rcases h with ⟨rfl, _⟩ | ⟨b, off, ha, _, _, hc⟩
  · exact .inl rfl
  · refine .inr ⟨b, off, ha, fun i hi => ?_⟩
    rw [List.length_map] at hi
    rw [hc i hi, List.getElem_map, List.getElem?_eq_getElem hi]; rfl
theorem SrcAt.keep {w w' : World} {sp : Option Addr} {cs : List Value} (h : SrcAt w sp cs) (k : Keeps (fun _ => True) w w') : SrcAt w' sp cs := by
  rcases h with h | ⟨b, off, ha, hc⟩
  · exact .inl h
  · exact .inr ⟨b, off, ha, hc.keep k trivial⟩
theorem oneCell_ints (k : IntKind) (zs : List Int) : ∀ v ∈ zs.map (Value.int k), v.oneCell' = true := by
  intro v hv; obtain ⟨z, _, rfl⟩ := List.mem_map.1 hv; rfl
theorem keeps_setRow {w : World} {g : Nat} (cs : Array Value) : Keeps (· ≠ g) w (w.setRow g cs) := fun k hk _ => setRow_other w g k cs hk
/-- 'copy(out, src)' over the whole of a row of the call's own. -/
theorem wpList_copy_all {P : Program} {w : World} {ops : Array Oper} {rest : List Oper} {o : Oper} {a : Act} {Q : Exit → Act → World → Prop} (hgd : o.guard = none) (d s : Operand) (T : TypeId)
    (ho : o.op = .call { callee := .builtin .copy, args := #[d, s], argTypes := #[T, T] }) (elem : TypeId) (hu : P.underlying T = some (.slice elem)) (hsz : (P.info? elem).map (·.size) = some 1)
    (g n dCap : Nat) (sp : Option Addr) (sCap : Nat) (hd : a.eval d = .slice (some ⟨g, 0, none⟩) n dCap) (hs : a.eval s = .slice sp n sCap)
    (cur : Array Value) (t : TypeId) (hb : Blk w g cur t) (hcur : cur.size = n) (cs : List Value) (hn : cs.length = n) (hsrc : SrcAt w sp cs) (h1 : ∀ v ∈ cs, v.oneCell' = true)
    (h : ∀ w', Blk w' g cs.toArray t → Keeps (· ≠ g) w w' → Below g w w' → w'.heap.size = w.heap.size → wpList P ops Q rest (a.put o.dst (goInt n)) w') :
    wpList P ops Q (o :: rest) a w := by
  rcases hsrc with rfl | ⟨b, off, rfl, hat⟩
  · simp only [List.length_nil] at hn
    subst hn
    refine wpList_copy_nothing hgd d s T T ho elem hu hsz _ _ _ _ _ _ hd hs (by simp) ?_
    have : cur = #[] := Array.eq_empty_of_size_eq_zero hcur
    subst this
    exact h w hb (Keeps.refl _ _) (Below.refl _ _) rfl
  · refine wpList_copy_own hgd d s T T ho elem hu hsz g 0 n dCap ⟨b, off, none⟩ n sCap hd hs cur t hb cs (by rw [hn]; simp) ?_ (by rw [hcur, hn]; omega) h1 ?_
    · intro j v hj
      obtain ⟨hj', rfl⟩ := List.getElem?_eq_some_iff.1 hj
      rw [Addr.add_lit]; exact hat j hj'
    · have e : (cur.toList.take 0 ++ (cs ++ cur.toList.drop (0 + cs.length))).toArray = cs.toArray := by
        rw [List.take_zero, List.nil_append, List.drop_of_length_le (by rw [Array.length_toList, hcur, hn]; omega), List.append_nil]
      rw [e, hn]
      exact h _ (setRow_heap w g cur _ t _ hb) (keeps_setRow _) (below_setRow (Below.refl _ _) (Nat.le_refl _) _) (by simp [World.setRow])

theorem wf64_mk {n : Int} (h1 : -9223372036854775808 ≤ n) (h2 : n ≤ 9223372036854775807) : (Lit.int .i64 n).wf = true := WalkArith.wf_i64 (by omega)
/-- A block of ints, read as a slice over all of it. -/
theorem ints_of_blk {k : IntKind} {w : World} {g : Nat} {t : TypeId} {zs : List Int} {ok : Nat → Prop} (h : Blk w g (zs.map (Value.int k)).toArray t) (hok : ok g) (hl : zs.length ≤ maxLen) (hwf : ∀ x ∈ zs, (Lit.int k x).wf = true) :
    (sliceR (intR k)).R w ok [.slice (some ⟨g, 0, none⟩) zs.length zs.length] zs := by
  refine ⟨_, _, rfl, Nat.le_refl _, hl, .inr ⟨g, 0, rfl, hok, fun i hi => ⟨[.int k zs[i]], ?_, rfl, hwf _ (List.getElem_mem hi)⟩⟩⟩
  refine h.at _ _ fun j hj => ?_
  match j, hj with
  | 0, _ => simp [intR, hi]
/-- A slice that the call owns, read as data: cells in chunks of E.size. -/
theorem slice_of_own {α : Type} {E : Rep α} {w : World} {base : Nat} {e : TypeId} {v : Value} {n : Nat} {xs : List Value} {l : List α} {ok : Nat → Prop}
    (h : w.ownsRow base e E.size v n xs) (hn : n = l.length) (hok : ∀ b, base ≤ b → ok b)
    (hx : ∀ i (hi : i < l.length), E.R w ok ((xs.drop (i * E.size)).take E.size) l[i]) : (sliceR E).R w ok [v] l := by
  subst hn
  obtain ⟨hlen, h⟩ := h
  rcases h with ⟨rfl, h0⟩ | ⟨g, cap, cur, rfl, hb, hh, hnc, hcm, hcs, ht⟩
  · have : l = [] := List.eq_nil_of_length_eq_zero h0
    subst this
    exact ⟨none, 0, rfl, Nat.le_refl _, by decide, .inl rfl⟩
  · refine ⟨_, _, rfl, hnc, hcm, .inr ⟨g, 0, rfl, hok g hb, fun i hi => ⟨_, ?_, hx i hi⟩⟩⟩
    have hB : Blk w g cur e := hh
    refine hB.at _ _ fun j hj => ?_
    simp only [List.length_take, List.length_drop, hlen] at hj
    have hmul : i * E.size + E.size ≤ l.length * E.size := by rw [← Nat.succ_mul]; exact Nat.mul_le_mul_right _ hi
    have hcap : l.length * E.size ≤ cap * E.size := Nat.mul_le_mul_right _ hnc
    subst ht
    simp only [List.getElem_take, List.getElem_drop]
    rw [Nat.zero_add, Array.getElem?_eq_getElem (by rw [hcs]; omega)]
    simp
/-- How keys lie: two cells each. -/
def keyC (k : Int × Int) : List Value := [.int .i64 k.1, .int .i64 k.2]
def keyR : Rep (Int × Int) where
  size := 2
  R _ _ cs k := cs = keyC k ∧ (Lit.int .i64 k.1).wf = true ∧ (Lit.int .i64 k.2).wf = true
  len h := by rw [h.1]; rfl
  keep h _ := h
  mono h _ := h
  pos := by decide
  lt h := h
abbrev keysR : Rep (List (Int × Int)) := sliceR keyR
theorem keys_chunk : ∀ (l : List (Int × Int)) (i : Nat) (hi : i < l.length), ((l.flatMap keyC).drop (i * 2)).take 2 = keyC l[i]
  | k :: l, 0, _ => rfl
  | k :: l, i + 1, hi => by
    have := keys_chunk l i (by simpa using hi)
    simp only [List.flatMap_cons, List.getElem_cons_succ]
    rw [← this, show (i + 1) * 2 = (keyC k).length + i * 2 by simp [keyC]; omega, List.drop_append, List.drop_of_length_le (by omega), List.nil_append, Nat.add_sub_cancel_left]
theorem keys_of_own {w : World} {base : Nat} {e : TypeId} {v : Value} {l : List (Int × Int)} {ok : Nat → Prop}
    (h : w.ownsRow base e 2 v l.length (l.flatMap keyC)) (hok : ∀ b, base ≤ b → ok b) (hwf : ∀ k ∈ l, (Lit.int .i64 k.1).wf = true ∧ (Lit.int .i64 k.2).wf = true) : keysR.R w ok [v] l :=
  slice_of_own (E := keyR) h rfl hok fun i hi => ⟨keys_chunk l i hi, hwf _ (List.getElem_mem hi)⟩

theorem own_keep {w w' : World} {base : Nat} {e : TypeId} {size : Nat} {v : Value} {n : Nat} {xs : List Value} (h : w.ownsRow base e size v n xs) {ok : Nat → Prop} (k : Keeps ok w w') (ho : ∀ g, v.ownBlock = some g → ok g) : w'.ownsRow base e size v n xs := by
  obtain ⟨h1, h2⟩ := h
  refine ⟨h1, ?_⟩
  rcases h2 with h2 | ⟨g, cap, cur, rfl, hb, hh, r⟩
  · exact .inl h2
  · exact .inr ⟨g, cap, cur, rfl, hb, Blk.keep (t := e) hh k (ho g rfl), r⟩
theorem own_all {w w' : World} {base : Nat} {e : TypeId} {size : Nat} {v : Value} {n : Nat} {xs : List Value} (h : w.ownsRow base e size v n xs) (k : Keeps (fun _ => True) w w') : w'.ownsRow base e size v n xs := own_keep h k fun _ _ => trivial
theorem own_succ {w : World} {base : Nat} {e : TypeId} {size : Nat} {v : Value} {n : Nat} {xs : List Value} (h : w.ownsRow base e size v (n + 1) xs) : ∃ g cap, v = .slice (some ⟨g, 0, none⟩) (n + 1) cap ∧ base ≤ g ∧ g < w.heap.size := by
  rcases h.2 with ⟨_, h2⟩ | ⟨g, cap, cur, hv, hb, hh, _⟩
  · omega
  · exact ⟨g, cap, hv, hb, (Array.getElem?_eq_some_iff.1 hh).1⟩
/-- What an append to a slice that is nil or the call's own comes to: and where the slice lies then. -/
theorem run_append_news {P : Program} (w : World) (base : Nat) (t ty e : TypeId) (i : TypeInfo) (z : Value) (size bytes : Nat) (ht : P.underlying t = some (.slice e)) (hi : P.info? e = some i) (hz : i.zero = some z)
    (hsize : i.size = size) (hby : i.bytes = bytes) (hzs : z.cells.size = size) (hsz : 0 < size)
    (v : Value) (n : Nat) (xs : List Value) (hown : w.ownsRow base e size v n xs)
    (a : Addr) (m c : Nat) (news : List Value) (hl : news.length = m * size) (hnews : ∀ j u, news[j]? = some u → w.cell? (a.add j) = some u) (h1 : ∀ u ∈ news, u.oneCell' = true)
    (h63 : n + m ≤ maxLen) (hbytes : (n + m) * bytes ≤ 140737488355328) (hbase : base ≤ w.heap.size) :
    ∃ v' w', (Builtin.append_ #[t, t] ty #[v, .slice (some a) m c]).run P w = .ok v' w' ∧ w'.ownsRow base e size v' (n + m) (xs ++ news) ∧ w.grownBy w' v.ownBlock ∧
      (∀ g', v'.ownBlock = some g' → v.ownBlock = some g' ∨ w.heap.size ≤ g') := by
  obtain ⟨v', w', hr, ho, hg, hnil⟩ := run_append_own (P := P) w base t ty e i z size bytes ht hi hz hsize hby hzs hsz v n xs hown a m c news hl hnews h1 h63 hbytes hbase
  refine ⟨v', w', hr, ho, hg, ?_⟩
  have hsmall : n + m ≤ 9223372036854775807 := by unfold maxLen at h63; omega
  subst hsize
  subst hby
  intro g' hg'
  rcases hown.2 with ⟨rfl, rfl⟩ | ⟨g, cap, cur, rfl, hbg, hh, hnc, hcm, hcs, htake⟩
  · by_cases hm : m = 0
    · rw [hnil.2 ⟨rfl, hm⟩] at hg'; cases hg'
    · have hr2 := run_append_nil (P := P) w t ty e i z ht hi hz a m c news hl hnews (by omega) (by omega) (by have hb := hbytes; simp only [Nat.zero_add] at hb; omega)
      rw [hr] at hr2
      simp only [Result.ok.injEq] at hr2
      rw [hr2.1] at hg'
      cases hg'
      exact .inr (Nat.le_refl _)
  · by_cases hroom : n + m ≤ cap
    · have hfit : n * i.size + news.length ≤ cur.size := by rw [hl, hcs, ← Nat.add_mul]; exact Nat.mul_le_mul_right _ hroom
      have hr2 := run_append_room (P := P) w t ty e i ht hi g n cap cur hh a m c news hl hnews h1 hroom hfit
      rw [hr] at hr2
      simp only [Result.ok.injEq] at hr2
      rw [hr2.1] at hg'
      exact .inl hg'
    · have holds : ∀ j u, xs[j]? = some u → w.cell? ((⟨g, 0, none⟩ : Addr).add j) = some u := hown.cells (g := g) rfl
      have hr2 := run_append_grow (P := P) w t ty e i z ht hi hz ⟨g, 0, none⟩ n cap xs hown.1 holds a m c news hl hnews (by omega) (by omega) (growslice_fits (by omega) hbytes)
      rw [hr] at hr2
      simp only [Result.ok.injEq] at hr2
      rw [hr2.1] at hg'
      cases hg'
      exact .inr (Nat.le_refl _)
/-- 'out = append(out, xs...)', out nil or the call's own; m elements whose cells lie at b, off. -/
theorem wpList_append_news {P : Program} {w : World} {ops : Array Oper} {rest : List Oper} {o : Oper} {a : Act} {Q : Exit → Act → World → Prop} (hgd : o.guard = none) (s x : Operand) (T : TypeId)
    (ho : o.op = .call { callee := .builtin .append, args := #[s, x], argTypes := #[T, T] })
    (base : Nat) (e : TypeId) (z : Value) (size bytes : Nat) (hu : P.underlying T = some (.slice e)) (hinfo : (P.info? e).map (fun i => (i.zero, i.size, i.bytes)) = some (some z, size, bytes)) (hzs : z.cells.size = size) (hsz : 0 < size) (hby : 0 < bytes)
    (v : Value) (n : Nat) (xs : List Value) (hs : a.eval s = v) (hown : w.ownsRow base e size v n xs)
    (b off m c : Nat) (hx : a.eval x = .slice (some ⟨b, off, none⟩) m c) (news : List Value) (hl : news.length = m * size) (hat : At w b off news) (h1 : ∀ u ∈ news, u.oneCell' = true)
    (hbytes : (n + m) * bytes ≤ 140737488355328) (hbase : base ≤ w.heap.size)
    (h : ∀ v' w', w'.ownsRow base e size v' (n + m) (xs ++ news) → Keeps (fun b => v.ownBlock ≠ some b) w w' → Below base w w' → (∀ g', v'.ownBlock = some g' → v.ownBlock = some g' ∨ w.heap.size ≤ g') →
      wpList P ops Q rest (a.put o.dst v') w') : wpList P ops Q (o :: rest) a w := by
  obtain ⟨i, hi, hzz⟩ := Option.map_eq_some_iff.1 hinfo
  simp only [Prod.mk.injEq] at hzz
  obtain ⟨hz, hsi, hb⟩ := hzz
  have hle : n + m ≤ (n + m) * bytes := Nat.le_mul_of_pos_right _ hby
  obtain ⟨v', w', hr, ho', hg, hgb⟩ := run_append_news (P := P) w base T o.type e i z size bytes hu hi hz hsi hb hzs hsz v n xs hown ⟨b, off, none⟩ m c news hl
    (fun j u hj => by obtain ⟨hj', rfl⟩ := List.getElem?_eq_some_iff.1 hj; rw [Addr.add_lit]; exact hat j hj') h1 (by unfold maxLen; omega) hbytes hbase
  refine wpList_plain hgd fun K hK => ?_
  unfold Oper.wp execOp
  simp only [ho, resolve, invoke, builtin, Sem.run_bind, Sem.run_pure, Result.andThen_ok, List.map_toArray, List.map_cons, List.map_nil, hs, hx, hr]
  refine hK _ _ (h v' w' ho' (Keeps.grown hg fun b hb' e => hb' e.symm) ((Below.refl _ _).grown hg hbase fun k hk => ?_) hgb)
  rcases hown.2 with ⟨rfl, _⟩ | ⟨g0, cap0, cur, rfl, hb0, _⟩
  · cases hk
  · cases hk; exact hb0
/-- 'out = append(out, x)' of one element, out nil or the call's own; the element's cells lie at the head of block g. -/
theorem wpList_append_one {P : Program} {w : World} {ops : Array Oper} {rest : List Oper} {o : Oper} {a : Act} {Q : Exit → Act → World → Prop} (hgd : o.guard = none) (s x : Operand) (T : TypeId)
    (ho : o.op = .call { callee := .builtin .append, args := #[s, x], argTypes := #[T, T] })
    (base : Nat) (e : TypeId) (z : Value) (size bytes : Nat) (hu : P.underlying T = some (.slice e)) (hinfo : (P.info? e).map (fun i => (i.zero, i.size, i.bytes)) = some (some z, size, bytes)) (hzs : z.cells.size = size) (hsz : 0 < size) (hby : 0 < bytes)
    (v : Value) (n : Nat) (xs : List Value) (hs : a.eval s = v) (hown : w.ownsRow base e size v n xs)
    (g : Nat) (hx : a.eval x = .slice (some ⟨g, 0, none⟩) 1 1) (news : List Value) (hl : news.length = size) (hat : At w g 0 news) (h1 : ∀ u ∈ news, u.oneCell' = true)
    (hbytes : (n + 1) * bytes ≤ 140737488355328) (hbase : base ≤ w.heap.size)
    (h : ∀ g' cap w', w'.ownsRow base e size (.slice (some ⟨g', 0, none⟩) (n + 1) cap) (n + 1) (xs ++ news) → Keeps (fun b => v.ownBlock ≠ some b) w w' → Below base w w' → base ≤ g' ∧ g' < w'.heap.size ∧ (v.ownBlock = some g' ∨ w.heap.size ≤ g') →
      wpList P ops Q rest (a.put o.dst (.slice (some ⟨g', 0, none⟩) (n + 1) cap)) w') : wpList P ops Q (o :: rest) a w := by
  refine wpList_append_news hgd s x T ho base e z size bytes hu hinfo hzs hsz hby v n xs hs hown g 0 1 1 hx news (by omega) hat h1 hbytes hbase ?_
  intro v' w' hown' hk hb hg
  obtain ⟨g', cap, rfl, hbg, hlt⟩ := own_succ hown'
  exact h g' cap w' hown' hk hb ⟨hbg, hlt, hg g' rfl⟩
theorem below_drawn {B : Nat} {a w : World} (h : Below B a w) (q : Nat) : Below B a (w.drewN q) := ⟨h.os, h.tape, h.output, h.size, h.block⟩
theorem keeps_drawn {ok : Nat → Prop} {a w : World} (h : Keeps ok a w) (q : Nat) : Keeps ok a (w.drewN q) := h
/-- A slice of keys: two cells each. -/
theorem keys_cases {w : World} {ok : Nat → Prop} {v : Value} {l : List (Int × Int)} (h : keysR.R w ok [v] l) :
    ∃ ao cap, v = .slice ao l.length cap ∧ l.length ≤ cap ∧ cap ≤ maxLen ∧ (∀ k ∈ l, (Lit.int .i64 k.1).wf = true ∧ (Lit.int .i64 k.2).wf = true) ∧
      ((l = [] ∧ l.length = 0) ∨ ∃ b off, ao = some ⟨b, off, none⟩ ∧ ok b ∧ 0 < l.length ∧
        ∀ i, i < l.length → w.cell? ⟨b, off + i * 2, none⟩ = some (.int .i64 (l[i]?.getD (0, 0)).1) ∧ w.cell? ⟨b, off + i * 2 + 1, none⟩ = some (.int .i64 (l[i]?.getD (0, 0)).2)) := by
  obtain ⟨ao, cap, hv, h2, h3, h4⟩ := h
  refine ⟨ao, cap, by simpa using hv, h2, h3, ?_, ?_⟩
  · intro k hk
    obtain ⟨i, hi, rfl⟩ := List.getElem_of_mem hk
    rcases h4 with rfl | ⟨b, off, _, _, he⟩
    · simp at hi
    · obtain ⟨es, _, hr⟩ := he i hi
      exact hr.2
  · rcases h4 with rfl | ⟨b, off, ha, ho, he⟩
    · exact .inl ⟨rfl, rfl⟩
    · by_cases h0 : l.length = 0
      · exact .inl ⟨List.eq_nil_of_length_eq_zero h0, h0⟩
      · refine .inr ⟨b, off, ha, ho, by omega, fun i hi => ?_⟩
        obtain ⟨es, hat, hr⟩ := he i hi
        obtain ⟨rfl, _⟩ := hr
        have a0 := hat 0 (by simp [keyC])
        have a1 := hat 1 (by simp [keyC])
        simp only [keyR, keyC, Nat.add_zero, List.getElem_cons_zero, List.getElem_cons_succ] at a0 a1
        rw [List.getElem?_eq_getElem hi]
        exact ⟨a0, a1⟩

/-- A slice of the call's own whose elements, of one cell each, lie in blocks of the call's own, but not in the slice's. -/
def OwnsOf {α : Type} (E : Rep α) (w : World) (B : Nat) (e : TypeId) (u : Value) (ls : List α) : Prop :=
  ∃ xs : List Value, w.ownsRow B e 1 u ls.length xs ∧ ∀ i (_ : i < ls.length), E.R w (fun b => B ≤ b ∧ u.ownBlock ≠ some b) [xs[i]?.getD undef] ls[i]
theorem OwnsOf.nil {α : Type} (E : Rep α) (w : World) (B : Nat) (e : TypeId) : OwnsOf E w B e (.slice none 0 0) [] :=
  ⟨[], World.ownsRow_nil _ _ _ _, fun _ hi => absurd hi (Nat.not_lt_zero _)⟩
theorem own_ge {w : World} {base : Nat} {e : TypeId} {size : Nat} {v : Value} {n : Nat} {xs : List Value} (h : w.ownsRow base e size v n xs) {g : Nat} (hg : v.ownBlock = some g) : base ≤ g ∧ g < w.heap.size := by
  rcases h.2 with ⟨rfl, _⟩ | ⟨g0, cap0, cur, rfl, hb0, hh, _⟩
  · cases hg
  · cases hg; exact ⟨hb0, (Array.getElem?_eq_some_iff.1 hh).1⟩
theorem OwnsOf.keep {α : Type} {E : Rep α} {w w' : World} {B : Nat} {e : TypeId} {u : Value} {ls : List α} (h : OwnsOf E w B e u ls) (k : Keeps (fun b => B ≤ b) w w') : OwnsOf E w' B e u ls := by
  obtain ⟨xs, h1, h2⟩ := h
  exact ⟨xs, own_keep h1 k fun g hg => (own_ge h1 hg).1, fun i hi => E.keep (h2 i hi) (k.mono fun b hb => hb.1)⟩
theorem OwnsOf.keepAll {α : Type} {E : Rep α} {w w' : World} {B : Nat} {e : TypeId} {u : Value} {ls : List α} (h : OwnsOf E w B e u ls) (k : Keeps (fun _ => True) w w') : OwnsOf E w' B e u ls := h.keep (k.mono fun _ _ => trivial)
/-- One element more. -/
theorem OwnsOf.snoc {α : Type} {E : Rep α} {w w' : World} {B : Nat} {e : TypeId} {u u' x : Value} {ls : List α} {y : α} {xs : List Value}
    (h2 : ∀ i (_ : i < ls.length), E.R w (fun b => B ≤ b ∧ u.ownBlock ≠ some b) [xs[i]?.getD undef] ls[i]) (hxs : xs.length = ls.length)
    (hx : E.R w (fun b => B ≤ b ∧ u.ownBlock ≠ some b) [x] y) (ho : w'.ownsRow B e 1 u' (ls.length + 1) (xs ++ [x])) (k : Keeps (fun b => u.ownBlock ≠ some b) w w')
    (hg : ∀ g', u'.ownBlock = some g' → u.ownBlock = some g' ∨ w.heap.size ≤ g') : OwnsOf E w' B e u' (ls ++ [y]) := by
  refine ⟨xs ++ [x], by rw [List.length_append]; exact ho, fun i hi => ?_⟩
  have step : ∀ {c : Value} {z : α}, E.R w (fun b => B ≤ b ∧ u.ownBlock ≠ some b) [c] z → E.R w' (fun b => B ≤ b ∧ u'.ownBlock ≠ some b) [c] z := by
    intro c z hz
    refine E.mono (E.keep (E.lt hz) (k.mono fun b hb => hb.1.2)) fun b hb => ⟨hb.1.1, fun e => ?_⟩
    rcases hg b e with h | h
    · exact hb.1.2 h
    · omega
  rw [List.length_append, List.length_singleton] at hi
  by_cases hlt : i < ls.length
  · rw [List.getElem?_append_left (by omega), List.getElem_append_left hlt]
    exact step (h2 i hlt)
  · obtain rfl : i = ls.length := by omega
    rw [List.getElem?_append_right (by omega), hxs, Nat.sub_self, List.getElem_append_right (by omega)]
    simpa using step hx
/-- It reads as a list. -/
theorem OwnsOf.read {α : Type} {E : Rep α} (h1 : E.size = 1) {w : World} {B : Nat} {e : TypeId} {u : Value} {ls : List α} (h : OwnsOf E w B e u ls) : (sliceR E).R w (fun b => B ≤ b) [u] ls := by
  obtain ⟨xs, ho, h2⟩ := h
  have hl := ho.1
  rw [Nat.mul_one] at hl
  refine slice_of_own (E := E) (by rw [h1]; exact ho) rfl (fun b hb => hb) fun i hi => ?_
  have hx : (xs.drop (i * E.size)).take E.size = [xs[i]?.getD undef] := by
    rw [h1, Nat.mul_one, List.drop_eq_getElem_cons (by omega), List.getElem?_eq_getElem (by omega)]
    rfl
  rw [hx]
  exact E.mono (h2 i hi) fun b hb => hb.1
theorem own_shape {w : World} {base : Nat} {e : TypeId} {size : Nat} {v : Value} {n : Nat} {xs : List Value} (h : w.ownsRow base e size v n xs) : ∃ ao cap, v = .slice ao n cap := by
  rcases h.2 with ⟨rfl, rfl⟩ | ⟨g0, cap0, cur, rfl, _⟩
  · exact ⟨none, 0, rfl⟩
  · exact ⟨_, _, rfl⟩
theorem take_snoc {α : Type} {l : List α} {k : Nat} (h : k < l.length) : l.take (k + 1) = l.take k ++ [l[k]] := by
  rw [List.take_succ_eq_append_getElem h]
/-- 'make([]T, l, c)', T of whatever size. -/
theorem run_make_lc {P : Program} (w : World) (t e : TypeId) (z : Value) (size bytes : Nat) (ht : P.underlying t = some (.slice e)) (hinfo : (P.info? e).map (fun i => (i.zero, i.size, i.bytes)) = some (some z, size, bytes))
    (l c : Nat) (hlc : l ≤ c) (hb : bytes * c ≤ 281474976710656) (h63 : c ≤ 9223372036854775807) :
    (Instr.makeSlice t (.int .i64 (l : Int)) (.int .i64 (c : Int))).run P w = .ok (.slice (some ⟨w.heap.size, 0, none⟩) l c) (w.alloc (.cells (madeCells z.cells (c * size)) e)) := by
  obtain ⟨i, hi, hzz⟩ := Option.map_eq_some_iff.1 hinfo
  simp only [Prod.mk.injEq] at hzz
  obtain ⟨hz, hs, hby⟩ := hzz
  have hb' : (i.bytes : Int) * (c : Int) ≤ 281474976710656 := by
    rw [hby]
    have h : ((bytes * c : Nat) : Int) ≤ 281474976710656 := by omega
    rwa [Int.natCast_mul] at h
  have hr := run_make (P := P) (w := w) t e i z ht hi hz .i64 .i64 (l : Int) (c : Int) (by omega) (by omega) hb' (by omega)
  simp only [Int.toNat_natCast, hs] at hr
  exact hr
end Go.Sch
