/- A range over a function value whose iterator keeps state of its own in memory: one law for the statement, one notion of what an iterator gives (no program). -/
import Derived.Test.YtcnpanmkpfgdjaaBase
import Derived.RangeFuncNested
import Derived.RangeFuncBound
import Derived.RangeFuncCalls
import Derived.RangeFuncLeaves
import Derived.OwnWalkIn
import Derived.TacticsInMore
import Derived.LoopNIn
import Derived.LoopIn
import Derived.Laws.EntriesVeiled
import Derived.Stop.RegionWithIn
namespace Go.Sch
open Go Go.RowKit

theorem keeps_putObj {ok : Nat → Prop} {w : World} {l : Nat} (o : Obj) (h : ¬ ok l) : Keeps ok w (w.putObj l o) :=
  fun _ hb _ => World.putObj_heap_other (fun e => h (e ▸ hb))
theorem below_putObj {B : Nat} {w : World} {l : Nat} (o : Obj) (h : B ≤ l) : Below B w (w.putObj l o) :=
  ⟨rfl, rfl, rfl, by simp, fun k hk => World.putObj_heap_other (by omega)⟩

theorem room_wide' (k : Nat) : Fence.wide.room k := fun d h => by cases h
theorem RoundIn.any {m m' : Nat} {P : Program} {l : Nat} {f : FuncId} {tmps : Array Value} {assign body : Code} {w : World} {R : Ending → World → Prop}
    (h : RoundIn Fence.wide m P l f tmps assign body w R) : RoundIn Fence.wide m' P l f tmps assign body w R := ⟨h.1, fun c cs _ => h.2 c cs (room_wide' _)⟩

/-- What an iterator gives: all elements in order, or a part, where a round has said no more. S: the blocks that it writes; K: the blocks that a round must keep; X: what the memory holds of an element when it comes. -/
def Iter {α : Type} (m : Nat) (P : Program) (gf : Nat) (lb : Array Value) (encs : α → Array Value) (S K : Nat → Prop) (X : α → World → Prop) (all : List α) (W : World) : Prop :=
  ∀ (l : Nat) (J Jx : List α → World → Prop),
    (∀ s A B, J s A → Keeps (fun b => ¬ S b) A B → Below W.heap.size A B → J s B) →
    (∀ s A B, Jx s A → Keeps (fun b => ¬ S b) A B → Below W.heap.size A B → Jx s B) →
    (∀ pre x A, J pre A → (∃ post, all = pre ++ x :: post) → X x A → YieldAt Fence.wide m P l (encs x) A fun e B =>
      (e = .returned (.bool true) ∧ J (pre ++ [x]) B ∧ Keeps K A B ∧ A.heap.size ≤ B.heap.size) ∨ (e = .returned (.bool false) ∧ Jx (pre ++ [x]) B)) →
    J [] W →
    CallsIn Fence.wide m P gf (#[.func (.yield l) #[] #[]] ++ lb) W fun e B => (∃ v, e = .returned v) ∧ (J all B ∨ ∃ pre, pre <+: all ∧ Jx pre B)

/-- How a round's body may be left. -/
def bodyEnd {α : Type} (L D : Nat) (K : Nat → Prop) (I : List α → World → Prop) (Ix : Code → List α → World → Prop) (xs : List α) (A : World) : Exit → Act → World → Prop
  | .normal, _, B => Keeps (fun b => b = L ∨ b = D) A B ∧ Keeps K A B ∧ A.heap.size ≤ B.heap.size ∧ I xs B
  | .ret, _, B => Keeps (fun b => b = L ∨ b = D) A B ∧ Ix .ret xs B
  | .exit id, _, B => Keeps (fun b => b = L ∨ b = D) A B ∧ Ix (.exit id) xs B
  | _, _, _ => False

theorem wpIn_range {P : Program} {n : Nat} {α : Type} {g : Operand} {ps : Array Tmp} {assign body : Code} {Q : Exit → Act → World → Prop} {a : Act} {w : World}
    {gf : Nat} {lb : Array Value} (hg : a.eval g = .func (.func gf) #[] lb) (eg : ∀ args w, (callFunc gf args).run P w = .ok (.enter gf args) w)
    {encs : α → Array Value} (hps : ∀ x, (encs x).size = ps.size) {S K : Nat → Prop} {X : α → World → Prop} {all : List α}
    (hit : ∀ rec, Iter (n - 1) P gf lb encs (fun b => w.heap.size + 2 ≤ b ∧ S b) K X all ((w.alloc (.deferred (some []))).alloc (.loop rec)))
    (hKL : ¬ K (w.heap.size + 1)) (hKD : ¬ K w.heap.size)
    (hX : ∀ x A B, X x A → Keeps (fun b => b ≠ w.heap.size + 1) A B → X x B)
    (I : List α → World → Prop) (Ix : Code → List α → World → Prop)
    (hI : ∀ s A B, I s A → Keeps (fun b => ¬ (w.heap.size ≤ b ∧ (b < w.heap.size + 2 ∨ S b))) A B → Below w.heap.size A B → I s B)
    (hIx : ∀ c s A B, Ix c s A → Keeps (fun b => ¬ (w.heap.size ≤ b ∧ (b < w.heap.size + 2 ∨ S b))) A B → Below w.heap.size A B → Ix c s B)
    (h0 : I [] w)
    (hround : ∀ (pre : List α) (x : α) (A B : World), I pre B → (∃ post, all = pre ++ x :: post) → X x B → w.heap.size + 1 < B.heap.size →
      assign.wpIn (Fence.wide.inRound (w.heap.size + 1)) (n - 1) P (Exit.then (fun a₁ W => W = A ∧ body.wpIn (Fence.wide.inRound (w.heap.size + 1)) (n - 1) P (bodyEnd (w.heap.size + 1) w.heap.size K I Ix (pre ++ [x]) B) a₁ B) (fun _ _ _ => False))
        { tmps := (ps.zip (encs x)).foldl (fun t (p, v) => t.setIfInBounds p v) a.tmps, defers := [] } A)
    (hdone : ∀ B, I all B → B.heap[w.heap.size]? = some (.deferred (some [])) → Q .normal { a with defers := { target := .collected w.heap.size, args := #[] } :: a.defers } B)
    (hstop : ∀ c pre B, pre <+: all → Ix c pre B → B.heap[w.heap.size]? = some (.deferred (some [])) → c.wpIn Fence.wide n P Q { a with defers := { target := .collected w.heap.size, args := #[] } :: a.defers } B) :
    (Code.rangeFunc g ps assign body).wpIn Fence.wide n P Q a w := by
  refine wpIn_rangeFunc ?_
  intro fn _
  obtain ⟨rec, hrec⟩ : ∃ rec : LoopState → Option Code → Loop, rec = fun st pe => { state := st, pending := pe, fn, tmps := a.tmps, params := ps, assign, body, defers := w.heap.size } := ⟨_, rfl⟩
  obtain ⟨W1, hW1⟩ : ∃ W1, (w.alloc (.deferred (some []))).alloc (.loop (rec .ready none)) = W1 := ⟨_, rfl⟩
  have hs1 : W1.heap.size = w.heap.size + 2 := by rw [← hW1]; simp
  have hL1 : W1.heap[w.heap.size + 1]? = some (.loop (rec .ready none)) := by
    rw [← hW1]; have := World.alloc_heap_new (w.alloc (.deferred (some []))) (.loop (rec .ready none)); rwa [World.size_alloc] at this
  have hD1 : W1.heap[w.heap.size]? = some (.deferred (some [])) := by
    rw [← hW1]; exact (Below.heap_alloc _ _ _ (by simp)).trans (World.alloc_heap_new w _)
  have hkw : Keeps (fun _ => True) w W1 := by rw [← hW1]; exact (Keeps.alloc _ _ _).of_alloc _
  have hbw : Below w.heap.size w W1 := by rw [← hW1]; exact ((Below.refl _ w).alloc (Nat.le_refl _) _).alloc (by simp) _
  have hit1 : Iter (n - 1) P gf lb encs (fun b => w.heap.size + 2 ≤ b ∧ S b) K X all W1 := by rw [← hW1]; exact hit _
  -- a turn of the record keeps the caller's word
  have put : ∀ {s : List α} {A : World} (o : Obj), I s A → I s (A.putObj (w.heap.size + 1) o) := fun o h =>
    hI _ _ _ h (keeps_putObj o (by omega)) (below_putObj o (by omega))
  have putx : ∀ {c : Code} {s : List α} {A : World} (o : Obj), Ix c s A → Ix c s (A.putObj (w.heap.size + 1) o) := fun o h =>
    hIx _ _ _ _ h (keeps_putObj o (by omega)) (below_putObj o (by omega))
  refine ⟨w.heap.size + 1, [{ target := .collected w.heap.size, args := #[] }], W1, { target := .fn (.func gf) lb, args := #[.func (.yield (w.heap.size + 1)) #[] #[]] }, W1, gf,
    #[.func (.yield (w.heap.size + 1)) #[] #[]] ++ lb, W1, ?_, ?_, fun _ _ => trivial, ?_, fun h => (by cases h), ?_⟩
  · rw [← hW1, hrec]; exact run_enterLoop_outer _ _ _ _ _
  · simp only [resolve, hg]
    simp [go_sem]
  · simp [invoke, go_sem, eg]
  · refine (hit1 (w.heap.size + 1)
      (fun s A => I s A ∧ A.heap[w.heap.size + 1]? = some (.loop (rec .ready none)) ∧ A.heap[w.heap.size]? = some (.deferred (some [])))
      (fun s A => ∃ c, Ix c s A ∧ A.heap[w.heap.size + 1]? = some (.loop (rec .done (some c))) ∧ A.heap[w.heap.size]? = some (.deferred (some [])))
      ?_ ?_ ?_ ⟨hI _ _ _ h0 (hkw.mono fun _ _ => trivial) hbw, hL1, hD1⟩).mono ?_
    · rintro s A B ⟨hi, hl, hd⟩ hk hb
      rw [hs1] at hb
      exact ⟨hI _ _ _ hi (hk.mono fun b hb hc => hb ⟨by omega, .inr hc.2⟩) (hb.mono (by omega)), (hb.block _ (by omega)).trans hl, (hb.block _ (by omega)).trans hd⟩
    · rintro s A B ⟨c, hi, hl, hd⟩ hk hb
      rw [hs1] at hb
      exact ⟨c, hIx _ _ _ _ hi (hk.mono fun b hb hc => hb ⟨by omega, .inr hc.2⟩) (hb.mono (by omega)), (hb.block _ (by omega)).trans hl, (hb.block _ (by omega)).trans hd⟩
    · rintro pre x A ⟨hi, hl, hd⟩ hpost hx
      have hlt : w.heap.size + 1 < A.heap.size := (Array.getElem?_eq_some_iff.1 hl).1
      have hy := run_yield (P := P) (args := encs x) hl (by rw [hrec]; exact hps x)
      rw [hrec] at hy
      obtain ⟨A2, hA2⟩ : ∃ A2, A.putObj (w.heap.size + 1) (.loop { rec .ready none with state := .busy }) = A2 := ⟨_, rfl⟩
      have hl2 : A2.heap[w.heap.size + 1]? = some (.loop { rec .ready none with state := .busy }) := by rw [← hA2]; exact World.putObj_heap_same hlt
      have hd2 : A2.heap[w.heap.size]? = some (.deferred (some [])) := by rw [← hA2]; exact (World.putObj_heap_other (by omega)).trans hd
      have hi2 : I pre A2 := by rw [← hA2]; exact put _ hi
      have hx2 : X x A2 := by rw [← hA2]; exact hX _ _ _ hx (keeps_putObj _ (by simp))
      have hk2 : Keeps K A A2 := by rw [← hA2]; exact keeps_putObj _ hKL
      have hs2 : A2.heap.size = A.heap.size := by rw [← hA2]; simp
      refine ⟨fn, _, assign, body, hy, roundIn_of_wpIn trivial (wpIn_mono (hround pre x A A2 hi2 hpost hx2 (by omega)) ?_)⟩
      rintro e1 a1 W1 hq1
      cases e1 with
      | normal => ?_
      | _ => exact hq1.elim
      obtain ⟨rfl, hq1⟩ := hq1
      refine ⟨A2, by rw [← hA2]; exact run_beginRound hl (by rw [hrec]), ?_⟩
      refine wpIn_mono hq1 ?_
      have fin : ∀ (jump : Option Code) (A3 : World), Keeps (fun b => b = w.heap.size + 1 ∨ b = w.heap.size) A2 A3 →
          (Instr.endRound (w.heap.size + 1) jump).run P A3 = .ok (.bool jump.isNone) (A3.putObj (w.heap.size + 1) (.loop (rec (if jump.isNone then .ready else .done) jump))) ∧
          (A3.putObj (w.heap.size + 1) (.loop (rec (if jump.isNone then .ready else .done) jump))).heap[w.heap.size + 1]? = some (.loop (rec (if jump.isNone then .ready else .done) jump)) ∧
          (A3.putObj (w.heap.size + 1) (.loop (rec (if jump.isNone then .ready else .done) jump))).heap[w.heap.size]? = some (.deferred (some [])) := fun jump A3 hk3 => by
        have hl3 := (hk3 _ (.inl rfl) (by omega)).trans hl2
        have hd3 := (hk3 _ (.inr rfl) (by omega)).trans hd2
        have := run_endRound (P := P) jump hl3
        rw [hrec] at this ⊢
        exact ⟨this, World.putObj_heap_same (Array.getElem?_eq_some_iff.1 hl3).1, (World.putObj_heap_other (by omega)).trans hd3⟩
      rintro e a3 A3 hp
      cases e with
      | normal =>
        obtain ⟨hk3, hkk, hsz, hi3⟩ := hp
        obtain ⟨hr, hl4, hd4⟩ := fin none A3 hk3
        exact ⟨_, _, hr, .inl ⟨rfl, ⟨put _ hi3, hl4, hd4⟩, (hk2.trans hkk).trans (keeps_putObj _ hKL), by simp; omega⟩⟩
      | ret =>
        obtain ⟨hk3, hi3⟩ := hp
        obtain ⟨hr, hl4, hd4⟩ := fin (some .ret) A3 hk3
        exact ⟨_, _, hr, .inr ⟨rfl, .ret, putx _ hi3, hl4, hd4⟩⟩
      | exit id =>
        obtain ⟨hk3, hi3⟩ := hp
        obtain ⟨hr, hl4, hd4⟩ := fin (some (.exit id)) A3 hk3
        exact ⟨_, _, hr, .inr ⟨rfl, .exit id, putx _ hi3, hl4, hd4⟩⟩
      | goto t => exact hp.elim
      | panic ch => exact hp.elim
      | outgrown => exact hp.elim
    · rintro e B ⟨⟨v, rfl⟩, (⟨hi, hl, hd⟩ | ⟨pre, hpre, c, hi, hl, hd⟩)⟩
      · exact ⟨none, _, by have := run_endLoop (P := P) hl (by rw [hrec]; simp); rw [hrec] at this; exact this, hdone _ (put _ hi) ((World.putObj_heap_other (by omega)).trans hd)⟩
      · exact ⟨some c, _, by have := run_endLoop (P := P) hl (by rw [hrec]; simp); rw [hrec] at this; exact this, hstop c pre _ hpre (putx _ hi) ((World.putObj_heap_other (by omega)).trans hd)⟩
end Go.Sch
