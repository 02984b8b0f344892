/- The plain machine, 1: plain values, how they lie in a world, and what of it stays when the world grows. No program. -/
import Derived.WalkKit
import Derived.Deep.LoopGhost
import Derived.Orders
import Derived.OwnWalk
set_option linter.unusedSimpArgs false
set_option linter.unusedVariables false
namespace Go.PM
open Go Go.RowKit

/-- Types of plain data. -/
inductive Ty where
  | int (k : IntKind)
  | bool
  | str
  | list (t : Ty)
  | prod (a b : Ty)
  deriving DecidableEq
@[reducible] def Ty.den : Ty → Type
  | .int _ => Int
  | .bool => Bool
  | .str => ByteArray
  | .list t => List t.den
  | .prod a b => a.den × b.den
def Ty.dflt : (t : Ty) → t.den
  | .int _ => (0 : Int)
  | .bool => false
  | .str => ByteArray.empty
  | .list _ => []
  | .prod a b => (a.dflt, b.dflt)
/-- How many cells an element has. -/
def Ty.size : Ty → Nat
  | .prod a b => a.size + b.size
  | _ => 1
theorem Ty.size_pos : ∀ t : Ty, 0 < t.size
  | .int _ | .bool | .str | .list _ => by simp [Ty.size]
  | .prod a b => by have := a.size_pos; simp only [Ty.size]; omega

/-- Values of the plain machine: 'vals' and 'iptr' bear memory that nobody writes any more ('tl', 'tp': the same, of typed data; e is what they stand for); 'hs', 'hptr' refer to the plain heap ('own', 'op', 'win': to blocks of typed data; win: a slice of an owned slice). -/
inductive PV where
  | lit (v : Value)
  | vals (cs : List PV) (n : Nat) (cap : Option Nat)
  | iptr (cs : List PV)
  | hptr (r off : Nat)
  | hs (r off len : Nat) (cap : Option Nat) (sz : Nat)
  | agg (cs : List PV)
  | tuple (vs : List PV)
  | clo (fn : Fn) (first caps : List PV)
  | junk
  | tl (t : Ty) (l : List t.den) (cap : Option Nat) (e : PV)
  | tp (t : Ty) (l : List t.den) (i off : Nat) (e : PV)
  | own (r sz : Nat)
  | op (r i off sz : Nat)
  | win (r lo n sz : Nat)

/-- The cells of typed data. -/
def enc : (t : Ty) → t.den → List PV
  | .int k, x => [.lit (.int k x)]
  | .bool, x => [.lit (.bool x)]
  | .str, x => [.lit (.string x)]
  | .list t, l => [.tl t l none (.vals (l.flatMap (enc t)) l.length none)]
  | .prod a b, (x, y) => enc a x ++ enc b y
def encAll (t : Ty) (l : List t.den) : List PV := l.flatMap (enc t)
/-- A typed slice. -/
def tlOf (t : Ty) (l : List t.den) (cap : Option Nat) : PV := .tl t l cap (.vals (encAll t l) l.length cap)
def tpOf (t : Ty) (l : List t.den) (i off : Nat) : PV := .tp t l i off (.iptr ((encAll t l).drop (i * t.size + off)))

instance : Inhabited PV := ⟨.junk⟩

/-- Block b has at least n cells. -/
def Room (w : World) (b n : Nat) : Prop := ∃ c t fr, w.heap[b]? = some (.cells c t fr) ∧ n ≤ c.size

/-- Where the blocks of the plain heap lie, and how many elements those of typed data have. -/
structure Mp where
  loc : Nat → Option Nat
  len : Nat → Option Nat
/-- No block of the plain heap. -/
def nomap : Mp := ⟨fun _ => none, fun _ => none⟩
section
variable (w : World) (G : Nat → Prop)
mutual
/-- How a plain value reads: 'vals' and 'iptr' do not refer to the plain heap. -/
def VR : Mp → PV → Value → Prop
  | _, .lit u, v => v = u
  | _, .vals cs n cap, v => ∃ ao c, v = .slice ao n c ∧ n ≤ c ∧ (∀ k, cap = some k → c = k) ∧ (cs = [] ∨ ∃ b off, ao = some ⟨b, off, none⟩ ∧ G b ∧ VCells nomap b off cs)
  | _, .iptr cs, v => ∃ b off, v = .pointer (some ⟨b, off, none⟩) ∧ G b ∧ VCells nomap b off cs
  | μ, .hptr r off, v => ∃ b, μ.loc r = some b ∧ v = .pointer (some ⟨b, off, none⟩)
  | μ, .hs r off len cap sz, v => ∃ b c, μ.loc r = some b ∧ v = .slice (some ⟨b, off, none⟩) len c ∧ len ≤ c ∧ (∀ k, cap = some k → c = k) ∧ Room w b (off + c * sz)
  | μ, .agg cs, v => ∃ vs, v = .agg vs ∧ VRs μ cs vs.toList
  | μ, .tuple cs, v => ∃ vs, v = .tuple vs ∧ VRs μ cs vs.toList
  | μ, .clo fn f c, v => ∃ fs cs, v = .func fn fs cs ∧ VRs μ f fs.toList ∧ VRs μ c cs.toList
  | _, .junk, _ => True
  | _, .tl t l cap e, v => VR nomap e v ∧ e = .vals (encAll t l) l.length cap
  | _, .tp t l i off e, v => VR nomap e v ∧ e = .iptr ((encAll t l).drop (i * t.size + off)) ∧ i < l.length
  | μ, .own r sz, v => ∃ n, μ.len r = some n ∧ ((n = 0 ∧ ∃ ao, v = .slice ao 0 0) ∨ ∃ b c, μ.loc r = some b ∧ v = .slice (some ⟨b, 0, none⟩) n c ∧ n ≤ c ∧ Room w b (c * sz))
  | μ, .op r i off sz, v => ∃ b, μ.loc r = some b ∧ v = .pointer (some ⟨b, i * sz + off, none⟩)
  | μ, .win r lo n sz, v => ∃ b c m, μ.loc r = some b ∧ v = .slice (some ⟨b, lo * sz, none⟩) n c ∧ n ≤ c ∧ Room w b ((lo + c) * sz) ∧ μ.len r = some m ∧ lo + n ≤ m ∧ m ≤ lo + c
def VRs : Mp → List PV → List Value → Prop
  | _, [], vs => vs = []
  | μ, p :: ps, vs => ∃ x xs, vs = x :: xs ∧ VR μ p x ∧ VRs μ ps xs
def VCells : Mp → Nat → Nat → List PV → Prop
  | _, _, _, [] => True
  | μ, b, off, p :: ps => (∃ v, w.cell? ⟨b, off, none⟩ = some v ∧ VR μ p v) ∧ VCells μ b (off + 1) ps
end
end

/-- What a step of the world leaves as it was. -/
structure Mono (w : World) (G : Nat → Prop) (μ : Mp) (w' : World) (G' : Nat → Prop) (μ' : Mp) : Prop where
  good : ∀ b, G b → G' b ∧ w'.heap[b]? = w.heap[b]?
  map : ∀ r b, μ.loc r = some b → μ'.loc r = some b
  len : ∀ r n, μ.len r = some n → μ'.len r = some n
  room : ∀ b n, Room w b n → Room w' b n

section
variable {w w' : World} {G G' : Nat → Prop}
theorem Mono.nomap {μ μ' : Mp} (h : Mono w G μ w' G' μ') : Mono w G nomap w' G' nomap := ⟨h.good, fun _ _ h => h, fun _ _ h => h, h.room⟩
mutual
theorem VR.mono {μ μ' : Mp} (h : Mono w G μ w' G' μ') : ∀ p v, VR w G μ p v → VR w' G' μ' p v
  | .lit u, v, hv => by simpa [VR] using hv
  | .vals cs n cap, v, hv => by
    rw [VR] at hv ⊢
    obtain ⟨ao, c, h1, h2, hcap, h3⟩ := hv
    refine ⟨ao, c, h1, h2, hcap, ?_⟩
    rcases h3 with h3 | ⟨b, off, h4, h5, h6⟩
    · exact .inl h3
    · exact .inr ⟨b, off, h4, (h.good b h5).1, VCells.mono h.nomap (h.good b h5).2 off cs h6⟩
  | .iptr cs, v, hv => by
    rw [VR] at hv ⊢
    obtain ⟨b, off, h1, h2, h3⟩ := hv
    exact ⟨b, off, h1, (h.good b h2).1, VCells.mono h.nomap (h.good b h2).2 off cs h3⟩
  | .hptr r off, v, hv => by
    rw [VR] at hv ⊢
    obtain ⟨b, h1, h2⟩ := hv
    exact ⟨b, h.map r b h1, h2⟩
  | .hs r off len cap sz, v, hv => by
    rw [VR] at hv ⊢
    obtain ⟨b, c, h1, h2, h3, h4, h5⟩ := hv
    exact ⟨b, c, h.map r b h1, h2, h3, h4, h.room _ _ h5⟩
  | .agg cs, v, hv => by
    rw [VR] at hv ⊢
    obtain ⟨vs, h1, h2⟩ := hv
    exact ⟨vs, h1, VRs.mono h cs _ h2⟩
  | .tuple cs, v, hv => by
    rw [VR] at hv ⊢
    obtain ⟨vs, h1, h2⟩ := hv
    exact ⟨vs, h1, VRs.mono h cs _ h2⟩
  | .clo fn f c, v, hv => by
    rw [VR] at hv ⊢
    obtain ⟨fs, cs, h1, h2, h3⟩ := hv
    exact ⟨fs, cs, h1, VRs.mono h f _ h2, VRs.mono h c _ h3⟩
  | .junk, v, hv => by rw [VR]; trivial
  | .tl t l cap e, v, hv => by
    rw [VR] at hv ⊢
    exact ⟨VR.mono h.nomap e v hv.1, hv.2⟩
  | .tp t l i off e, v, hv => by
    rw [VR] at hv ⊢
    exact ⟨VR.mono h.nomap e v hv.1, hv.2⟩
  | .own r sz, v, hv => by
    rw [VR] at hv ⊢
    obtain ⟨n, h1, h2⟩ := hv
    refine ⟨n, h.len r n h1, ?_⟩
    rcases h2 with h2 | ⟨b, c, h3, h4, h5, h6⟩
    · exact .inl h2
    · exact .inr ⟨b, c, h.map r b h3, h4, h5, h.room _ _ h6⟩
  | .op r i off sz, v, hv => by
    rw [VR] at hv ⊢
    obtain ⟨b, h1, h2⟩ := hv
    exact ⟨b, h.map r b h1, h2⟩
  | .win r lo n sz, v, hv => by
    rw [VR] at hv ⊢
    obtain ⟨b, c, m, h1, h2, h3, h4, h5, h6⟩ := hv
    exact ⟨b, c, m, h.map r b h1, h2, h3, h.room _ _ h4, h.len r m h5, h6⟩
theorem VRs.mono {μ μ' : Mp} (h : Mono w G μ w' G' μ') : ∀ ps vs, VRs w G μ ps vs → VRs w' G' μ' ps vs
  | [], vs, hv => by rw [VRs] at hv ⊢; exact hv
  | p :: ps, vs, hv => by
    rw [VRs] at hv ⊢
    obtain ⟨x, xs, h1, h2, h3⟩ := hv
    exact ⟨x, xs, h1, VR.mono h p x h2, VRs.mono h ps xs h3⟩
theorem VCells.mono {μ μ' : Mp} (h : Mono w G μ w' G' μ') {b : Nat} (hb : w'.heap[b]? = w.heap[b]?) : ∀ off ps, VCells w G μ b off ps → VCells w' G' μ' b off ps
  | _, [], _ => by rw [VCells]; trivial
  | off, p :: ps, hv => by
    rw [VCells] at hv ⊢
    obtain ⟨⟨v, h1, h2⟩, h3⟩ := hv
    exact ⟨⟨v, by rw [World.cell?_of_block (w := w) hb]; exact h1, VR.mono h p v h2⟩, VCells.mono h hb (off + 1) ps h3⟩
end
variable {μ μ' : Mp}
theorem nomap_mono : Mono w G nomap w G μ := ⟨fun _ h => ⟨h, rfl⟩, fun _ _ h => (by cases h), fun _ _ h => (by cases h), fun _ _ h => h⟩
theorem VR.of_nomap {p : PV} {v : Value} (h : VR w G nomap p v) : VR w G μ p v := VR.mono nomap_mono p v h
theorem VRs.of_nomap {p : List PV} {v : List Value} (h : VRs w G nomap p v) : VRs w G μ p v := VRs.mono nomap_mono p v h
theorem VCells.of_nomap {b off : Nat} {p : List PV} (h : VCells w G nomap b off p) : VCells w G μ b off p := VCells.mono nomap_mono rfl off p h
/-- A plain value that does not refer to the plain heap. -/
def noRef : PV → Bool
  | .lit _ | .vals .. | .iptr _ | .tl .. | .tp .. => true
  | .agg cs | .tuple cs => noRefs cs
  | .clo _ f c => noRefs f && noRefs c
  | _ => false
where noRefs : List PV → Bool
  | [] => true
  | p :: ps => noRef p && noRefs ps
mutual
theorem noRef_vr : ∀ (p : PV) (v : Value), noRef p = true → VR w G μ p v → VR w G nomap p v
  | .lit u, v, _, h => by rw [VR] at h ⊢; exact h
  | .vals .., v, _, h => by rw [VR] at h ⊢; exact h
  | .iptr _, v, _, h => by rw [VR] at h ⊢; exact h
  | .tl .., v, _, h => by rw [VR] at h ⊢; exact h
  | .tp .., v, _, h => by rw [VR] at h ⊢; exact h
  | .own .., v, hn, h => by simp only [noRef] at hn; cases hn
  | .op .., v, hn, h => by simp only [noRef] at hn; cases hn
  | .win .., v, hn, h => by simp only [noRef] at hn; cases hn
  | .agg cs, v, hn, h => by
    rw [VR] at h ⊢
    obtain ⟨vs, h1, h2⟩ := h
    exact ⟨vs, h1, noRefs_vrs cs _ (by simpa only [noRef] using hn) h2⟩
  | .tuple cs, v, hn, h => by
    rw [VR] at h ⊢
    obtain ⟨vs, h1, h2⟩ := h
    exact ⟨vs, h1, noRefs_vrs cs _ (by simpa only [noRef] using hn) h2⟩
  | .clo fn f c, v, hn, h => by
    rw [VR] at h ⊢
    simp only [noRef, Bool.and_eq_true] at hn
    obtain ⟨fs, cs, h1, h2, h3⟩ := h
    exact ⟨fs, cs, h1, noRefs_vrs f _ hn.1 h2, noRefs_vrs c _ hn.2 h3⟩
  | .hptr .., v, hn, h => by simp only [noRef] at hn; cases hn
  | .hs .., v, hn, h => by simp only [noRef] at hn; cases hn
  | .junk, v, hn, h => by simp only [noRef] at hn; cases hn
theorem noRefs_vrs : ∀ (ps : List PV) (vs : List Value), noRef.noRefs ps = true → VRs w G μ ps vs → VRs w G nomap ps vs
  | [], vs, _, h => by rw [VRs] at h ⊢; exact h
  | p :: ps, vs, hn, h => by
    rw [VRs] at h ⊢
    simp only [noRef.noRefs, Bool.and_eq_true] at hn
    obtain ⟨x, xs, h1, h2, h3⟩ := h
    exact ⟨x, xs, h1, noRef_vr p x hn.1 h2, noRefs_vrs ps xs hn.2 h3⟩
end
theorem Mono.refl (w : World) (G : Nat → Prop) (μ : Mp) : Mono w G μ w G μ := ⟨fun _ h => ⟨h, rfl⟩, fun _ _ h => h, fun _ _ h => h, fun _ _ h => h⟩
theorem Mono.trans {w'' : World} {G'' : Nat → Prop} {μ'' : Mp} (h : Mono w G μ w' G' μ') (k : Mono w' G' μ' w'' G'' μ'') : Mono w G μ w'' G'' μ'' :=
  ⟨fun b hb => ⟨(k.good b (h.good b hb).1).1, ((k.good b (h.good b hb).1).2).trans (h.good b hb).2⟩, fun r b hr => k.map r b (h.map r b hr), fun r n hr => k.len r n (h.len r n hr), fun b n hb => k.room b n (h.room b n hb)⟩

theorem VRs.length : ∀ {ps : List PV} {vs : List Value}, VRs w G μ ps vs → ps.length = vs.length
  | [], vs, h => by rw [VRs] at h; rw [h]; rfl
  | p :: ps, vs, h => by rw [VRs] at h; obtain ⟨x, xs, rfl, _, h3⟩ := h; simp [VRs.length h3]
theorem VRs.get : ∀ {ps : List PV} {vs : List Value} {i : Nat} {p : PV}, VRs w G μ ps vs → ps[i]? = some p → ∃ v, vs[i]? = some v ∧ VR w G μ p v
  | [], vs, i, p, h, hp => by simp at hp
  | q :: ps, vs, i, p, h, hp => by
    rw [VRs] at h
    obtain ⟨x, xs, rfl, h2, h3⟩ := h
    cases i with
    | zero => simp at hp; subst hp; exact ⟨x, rfl, h2⟩
    | succ i => simpa using VRs.get h3 (by simpa using hp)
theorem VRs.append : ∀ {ps qs : List PV} {vs us : List Value}, VRs w G μ ps vs → VRs w G μ qs us → VRs w G μ (ps ++ qs) (vs ++ us)
  | [], qs, vs, us, h, k => by rw [VRs] at h; subst h; exact k
  | p :: ps, qs, vs, us, h, k => by
    rw [VRs] at h
    obtain ⟨x, xs, rfl, h2, h3⟩ := h
    rw [List.cons_append, VRs]
    exact ⟨x, xs ++ us, rfl, h2, VRs.append h3 k⟩
theorem VRs.drop : ∀ {ps : List PV} {vs : List Value} (n : Nat), VRs w G μ ps vs → VRs w G μ (ps.drop n) (vs.drop n)
  | ps, vs, 0, h => h
  | [], vs, n + 1, h => by rw [VRs] at h; subst h; simp [VRs]
  | p :: ps, vs, n + 1, h => by
    rw [VRs] at h
    obtain ⟨x, xs, rfl, h2, h3⟩ := h
    exact VRs.drop n h3
theorem VRs.take : ∀ {ps : List PV} {vs : List Value} (n : Nat), VRs w G μ ps vs → VRs w G μ (ps.take n) (vs.take n)
  | ps, vs, 0, h => by simp [VRs]
  | [], vs, n + 1, h => by rw [VRs] at h; subst h; simp [VRs]
  | p :: ps, vs, n + 1, h => by
    rw [VRs] at h
    obtain ⟨x, xs, rfl, h2, h3⟩ := h
    rw [List.take_succ_cons, List.take_succ_cons, VRs]
    exact ⟨x, _, rfl, h2, VRs.take n h3⟩
theorem VRs.lits : ∀ (vs : List Value), VRs w G μ (vs.map .lit) vs
  | [] => by simp [VRs]
  | v :: vs => by rw [List.map_cons, VRs]; exact ⟨v, vs, rfl, by rw [VR], VRs.lits vs⟩
theorem VCells.get : ∀ {ps : List PV} {b off i : Nat} {p : PV}, VCells w G μ b off ps → ps[i]? = some p → ∃ v, w.cell? ⟨b, off + i, none⟩ = some v ∧ VR w G μ p v
  | [], b, off, i, p, h, hp => by simp at hp
  | q :: ps, b, off, i, p, h, hp => by
    rw [VCells] at h
    cases i with
    | zero => simp at hp; subst hp; exact h.1
    | succ i => have := VCells.get (i := i) h.2 (by simpa using hp); rwa [Nat.add_assoc, Nat.add_comm 1] at this
theorem VCells.mk : ∀ {ps : List PV} {b off : Nat}, (∀ i p, ps[i]? = some p → ∃ v, w.cell? ⟨b, off + i, none⟩ = some v ∧ VR w G μ p v) → VCells w G μ b off ps
  | [], b, off, h => by rw [VCells]; trivial
  | q :: ps, b, off, h => by
    rw [VCells]
    refine ⟨h 0 q rfl, VCells.mk fun i p hp => ?_⟩
    have := h (i + 1) p (by simpa using hp)
    rwa [Nat.add_comm i, ← Nat.add_assoc] at this
theorem VCells.drop {ps : List PV} {b off : Nat} (n : Nat) (h : VCells w G μ b off ps) : VCells w G μ b (off + n) (ps.drop n) :=
  VCells.mk fun i p hp => by
    rw [List.getElem?_drop] at hp
    have := h.get hp
    rwa [← Nat.add_assoc] at this
theorem VCells.take {ps : List PV} {b off : Nat} (n : Nat) (h : VCells w G μ b off ps) : VCells w G μ b off (ps.take n) :=
  VCells.mk fun i p hp => by
    rw [List.getElem?_take] at hp
    split at hp
    · exact h.get hp
    · cases hp
theorem VCells.sub {ps : List PV} {b off : Nat} (n m : Nat) (h : VCells w G μ b off ps) : VCells w G μ b (off + n) ((ps.drop n).take m) := (h.drop n).take m
/-- The cells as a list of values. -/
theorem VCells.values : ∀ {ps : List PV} {b off : Nat}, VCells w G μ b off ps → ∃ vs, VRs w G μ ps vs ∧ ∀ i (h : i < vs.length), w.cell? ⟨b, off + i, none⟩ = some vs[i]
  | [], b, off, h => ⟨[], by rw [VRs], fun i h => by simp at h⟩
  | p :: ps, b, off, h => by
    rw [VCells] at h
    obtain ⟨⟨v, h1, h2⟩, h3⟩ := h
    obtain ⟨vs, h4, h5⟩ := VCells.values h3
    refine ⟨v :: vs, by rw [VRs]; exact ⟨v, vs, rfl, h2, h4⟩, fun i hi => ?_⟩
    cases i with
    | zero => exact h1
    | succ i => have := h5 i (by simpa using hi); rw [Nat.add_assoc, Nat.add_comm 1] at this; exact this
end

/-- Typed data of a block. -/
structure Tg where
  t : Ty
  l : List t.den
/-- A block of the plain heap: its cells; grown: there may be more cells behind them; frozen: nobody writes it any more. -/
structure Blk where
  cells : List PV
  ty : TypeId
  grown : Bool
  frozen : Bool
  tag : Option Tg
abbrev Heap := List (Option Blk)

/-- The blocks that are not there yet. -/
abbrev Fresh (w : World) : Nat → Prop := fun b => w.heap.size ≤ b
/-- The plain heap H lies in the world w, in blocks of which n0 speaks. -/
structure WInv (n0 : Nat → Prop) (G : Nat → Prop) (μ : Mp) (H : Heap) (w : World) : Prop where
  blk : ∀ r k b, H[r]? = some (some k) → μ.loc r = some b → ∃ c, w.heap[b]? = some (.cells c k.ty (0, 0)) ∧ VCells w G μ b 0 k.cells ∧ (k.grown = false → c.size = k.cells.length) ∧ (k.frozen = true → G b) ∧ (k.frozen = false → n0 b ∧ ¬ G b)
  tags : ∀ r k g, H[r]? = some (some k) → k.tag = some g → k.cells = encAll g.t g.l ∧ μ.len r = some g.l.length
  inj : ∀ r s k l b, H[r]? = some (some k) → H[s]? = some (some l) → k.frozen = false → l.frozen = false → μ.loc r = some b → μ.loc s = some b → r = s
  lt : ∀ b, G b → b < w.heap.size
  top : ∀ r, H.length ≤ r → μ.loc r = none ∧ μ.len r = none
  base : ∀ b, w.heap.size ≤ b → n0 b

/-- A step of the world, as those see it who called: n0 the heap's size when the outermost plain call began. -/
structure Ext (n0 : Nat → Prop) (w : World) (G : Nat → Prop) (μ : Mp) (w' : World) (G' : Nat → Prop) (μ' : Mp) : Prop extends Mono w G μ w' G' μ' where
  os : w'.os = w.os
  tape : w'.tape = w.tape
  output : w'.output = w.output
  size : w.heap.size ≤ w'.heap.size
  drawn : w.drawn ≤ w'.drawn
  old : ∀ b, b < w.heap.size → ¬ n0 b → w'.heap[b]? = w.heap[b]?
  new : ∀ b, G' b → G b ∨ n0 b

theorem Ext.refl (n0 : Nat → Prop) (w : World) (G : Nat → Prop) (μ : Mp) : Ext n0 w G μ w G μ :=
  ⟨Mono.refl _ _ _, rfl, rfl, rfl, Nat.le_refl _, Nat.le_refl _, fun _ _ _ => rfl, fun _ h => .inl h⟩
theorem Ext.trans {n0 : Nat → Prop} {w w' w'' : World} {G G' G'' : Nat → Prop} {μ μ' μ'' : Mp} (h : Ext n0 w G μ w' G' μ') (k : Ext n0 w' G' μ' w'' G'' μ'') : Ext n0 w G μ w'' G'' μ'' :=
  ⟨h.toMono.trans k.toMono, k.os.trans h.os, k.tape.trans h.tape, k.output.trans h.output, Nat.le_trans h.size k.size, Nat.le_trans h.drawn k.drawn, fun b hb hn => (k.old b (Nat.lt_of_lt_of_le hb h.size) hn).trans (h.old b hb hn),
    fun b hb => by rcases k.new b hb with h1 | h1; exact h.new b h1; exact .inr h1⟩

section
variable {n0 : Nat → Prop} {w : World} {G : Nat → Prop} {μ : Mp} {H : Heap}

/-- μ with one more block: where it lies, and how many elements it has. -/
def upd (μ : Mp) (r : Nat) (b n : Option Nat) : Mp := ⟨fun s => if s = r then b else μ.loc s, fun s => if s = r then n else μ.len s⟩
theorem upd_loc (μ : Mp) (r : Nat) (b n : Option Nat) : (upd μ r b n).loc r = b := by simp [upd]
theorem upd_len (μ : Mp) (r : Nat) (b n : Option Nat) : (upd μ r b n).len r = n := by simp [upd]
theorem upd_ne {μ : Mp} {r s : Nat} {b n : Option Nat} (h : s ≠ r) : (upd μ r b n).loc s = μ.loc s ∧ (upd μ r b n).len s = μ.len s := by simp [upd, h]
theorem upd_ext {w : World} {H : Heap} (hW : WInv n0 G μ H w) (b n : Option Nat) : Ext n0 w G μ w G (upd μ H.length b n) := {
  good := fun _ h => ⟨h, rfl⟩
  map := fun s b' hs => by rw [(upd_ne _).1]; exact hs; rintro rfl; rw [(hW.top _ (Nat.le_refl _)).1] at hs; cases hs
  len := fun s b' hs => by rw [(upd_ne _).2]; exact hs; rintro rfl; rw [(hW.top _ (Nat.le_refl _)).2] at hs; cases hs
  room := fun _ _ h => h
  os := rfl
  tape := rfl
  output := rfl
  size := Nat.le_refl _
  drawn := Nat.le_refl _
  old := fun _ _ _ => rfl
  new := fun _ h => .inl h }

theorem heap_lt {w : World} {b : Nat} {o : Obj} (h : w.heap[b]? = some o) : b < w.heap.size := (Array.getElem?_eq_some_iff.1 h).1
theorem WInv.loc_lt (hW : WInv n0 G μ H w) {r : Nat} {k : Blk} {b : Nat} (hr : H[r]? = some (some k)) (hb : μ.loc r = some b) : b < w.heap.size := by
  obtain ⟨c, h1, _⟩ := hW.blk r k b hr hb
  exact heap_lt h1
theorem alloc_ext (hW : WInv n0 G μ H w) (o : Obj) (b n : Option Nat) : Ext n0 w G μ (w.alloc o) G (upd μ H.length b n) := {
  good := fun c hc => ⟨hc, Below.heap_alloc _ _ _ (hW.lt c hc)⟩
  map := (upd_ext hW b n).map
  len := (upd_ext hW b n).len
  room := fun c n hc => by
    obtain ⟨cs, t, fr, h1, h2⟩ := hc
    exact ⟨cs, t, fr, by rw [Below.heap_alloc _ _ _ (heap_lt h1)]; exact h1, h2⟩
  os := rfl
  tape := rfl
  output := rfl
  size := by simp
  drawn := Nat.le_refl _
  old := fun c hc _ => Below.heap_alloc _ _ _ hc
  new := fun c hc => .inl hc }

theorem drew_mono (k : Nat) : Mono w G μ { w with drawn := k } G μ := ⟨fun _ h => ⟨h, rfl⟩, fun _ _ h => h, fun _ _ h => h, fun _ _ h => h⟩
theorem drew_ext {k : Nat} (hk : w.drawn ≤ k) : Ext n0 w G μ { w with drawn := k } G μ := ⟨drew_mono k, rfl, rfl, rfl, Nat.le_refl _, hk, fun _ _ _ => rfl, fun _ h => .inl h⟩
theorem drew_winv (h : WInv n0 G μ H w) (k : Nat) : WInv n0 G μ H { w with drawn := k } where
  blk r b l hr hl := by
    obtain ⟨c, h2, h3, h4⟩ := h.blk r b l hr hl
    exact ⟨c, h2, VCells.mono (drew_mono k) rfl 0 _ h3, h4⟩
  tags := h.tags
  inj := h.inj
  lt := h.lt
  top := h.top
  base := h.base

/-- The world turns but not in the blocks of the heap. -/
theorem WInv.keep {w' : World} {G' : Nat → Prop} (h : WInv n0 G μ H w) (e : Ext n0 w G μ w' G' μ) (hb : ∀ r k b, H[r]? = some (some k) → μ.loc r = some b → w'.heap[b]? = w.heap[b]? ∧ (G' b → G b))
    (hlt : ∀ b, G' b → b < w'.heap.size) : WInv n0 G' μ H w' where
  blk r k b hr h1 := by
    obtain ⟨c, h2, h3, h4, h5, h6⟩ := h.blk r k b hr h1
    obtain ⟨e1, e2⟩ := hb r k b hr h1
    exact ⟨c, e1.trans h2, VCells.mono e.toMono e1 0 _ h3, h4, fun hf => (e.good b (h5 hf)).1, fun hf => ⟨(h6 hf).1, fun hg => (h6 hf).2 (e2 hg)⟩⟩
  tags := h.tags
  inj := h.inj
  lt := hlt
  top := h.top
  base := fun b hb => h.base b (Nat.le_trans e.size hb)

/-- One more block. -/
theorem push_winv (hW : WInv n0 G μ H w) {w' : World} {ob on : Option Nat} (e : Ext n0 w G μ w' G (upd μ H.length ob on)) (k : Blk) (hold : ∀ r k b, H[r]? = some (some k) → μ.loc r = some b → w'.heap[b]? = w.heap[b]?)
    (hnew : ∀ b, ob = some b → ∃ c, w'.heap[b]? = some (.cells c k.ty (0, 0)) ∧ VCells w' G (upd μ H.length ob on) b 0 k.cells ∧ (k.grown = false → c.size = k.cells.length) ∧ (k.frozen = true → G b) ∧ (k.frozen = false → n0 b ∧ ¬ G b))
    (htag : ∀ g, k.tag = some g → k.cells = encAll g.t g.l ∧ on = some g.l.length) (hinj : ∀ r k' b, H[r]? = some (some k') → k'.frozen = false → μ.loc r = some b → ob ≠ some b) : WInv n0 G (upd μ H.length ob on) (H ++ [some k]) w' := by
  have key : ∀ (s : Nat) (k1 : Blk), (H ++ [some k])[s]? = some (some k1) → (s = H.length ∧ k1 = k) ∨ (s < H.length ∧ H[s]? = some (some k1)) := by
    intro s k1 hs
    rcases Nat.lt_or_ge s H.length with hl | hl
    · rw [List.getElem?_append_left hl] at hs
      exact .inr ⟨hl, hs⟩
    · rw [List.getElem?_append_right hl] at hs
      rcases Nat.eq_zero_or_pos (s - H.length) with h0 | h0
      · rw [h0] at hs
        simp only [List.getElem?_cons_zero, Option.some.injEq] at hs
        exact .inl ⟨by omega, hs.symm⟩
      · rw [List.getElem?_eq_none (by simp; omega)] at hs; cases hs
  refine ⟨?_, ?_, ?_, ?_, ?_, fun b hb => hW.base b (Nat.le_trans e.size hb)⟩
  · intro s k1 b hs hb
    rcases key s k1 hs with ⟨rfl, rfl⟩ | ⟨hl, hs'⟩
    · rw [upd_loc] at hb
      exact hnew b hb
    · rw [(upd_ne (by omega)).1] at hb
      obtain ⟨c, h2, h3, h4⟩ := hW.blk s k1 b hs' hb
      have e1 := hold s k1 b hs' hb
      exact ⟨c, e1.trans h2, VCells.mono e.toMono e1 0 _ h3, h4⟩
  · intro s k1 g hs hg
    rcases key s k1 hs with ⟨rfl, rfl⟩ | ⟨hl, hs'⟩
    · rw [upd_len]
      exact htag g hg
    · rw [(upd_ne (by omega)).2]
      exact hW.tags s k1 g hs' hg
  · intro s1 s2 k1 k2 b h1 h2 f1 f2 m1 m2
    rcases key s1 k1 h1 with ⟨rfl, rfl⟩ | ⟨l1, h1'⟩ <;> rcases key s2 k2 h2 with ⟨rfl, rfl⟩ | ⟨l2, h2'⟩
    · rfl
    · rw [upd_loc] at m1
      rw [(upd_ne (by omega)).1] at m2
      exact absurd m1 (hinj s2 k2 b h2' f2 m2)
    · rw [upd_loc] at m2
      rw [(upd_ne (by omega)).1] at m1
      exact absurd m2 (hinj s1 k1 b h1' f1 m1)
    · rw [(upd_ne (by omega)).1] at m1 m2
      exact hW.inj s1 s2 k1 k2 b h1' h2' f1 f2 m1 m2
  · intro b hb
    exact Nat.lt_of_lt_of_le (hW.lt b hb) e.size
  · intro r hr
    simp only [List.length_append, List.length_cons, List.length_nil] at hr
    rw [(upd_ne (by omega)).1, (upd_ne (by omega)).2]
    exact hW.top r (by omega)
/-- A new block. -/
theorem alloc_winv (hW : WInv n0 G μ H w) (c : Array Value) (k : Blk) {on : Option Nat} (hc : ∀ (i : Nat) (p : PV), k.cells[i]? = some p → ∃ v : Value, c[i]? = some v ∧ VR w G μ p v) (hg : k.grown = false → c.size = k.cells.length) (hf : k.frozen = false)
    (htag : ∀ g, k.tag = some g → k.cells = encAll g.t g.l ∧ on = some g.l.length) : WInv n0 G (upd μ H.length (some w.heap.size) on) (H ++ [some k]) (w.alloc (.cells c k.ty)) := by
  have e := alloc_ext hW (.cells c k.ty) (some w.heap.size) on
  have hnew : (w.alloc (.cells c k.ty)).heap[w.heap.size]? = some (.cells c k.ty (0, 0)) := by
    show (w.heap.push _)[w.heap.size]? = _
    simp
  refine push_winv hW e k (fun r k b hr hb => Below.heap_alloc _ _ _ (hW.loc_lt hr hb)) ?_ htag ?_
  · rintro b hb
    cases hb
    refine ⟨c, hnew, ?_, hg, fun h => (by rw [hf] at h; cases h), fun _ => ⟨hW.base _ (Nat.le_refl _), fun hG => Nat.lt_irrefl _ (hW.lt _ hG)⟩⟩
    refine VCells.mk fun i p hp => ?_
    obtain ⟨v, h1, h2⟩ := hc i p hp
    refine ⟨v, ?_, VR.mono e.toMono p v h2⟩
    simp only [World.cell?, hnew, Nat.zero_add]
    simpa using h1
  · intro r k' b hr _ hb hh
    cases hh
    exact Nat.lt_irrefl _ (hW.loc_lt hr hb)
/-- A block of typed data that is not there yet. -/
theorem unborn_winv (hW : WInv n0 G μ H w) (k : Blk) {on : Option Nat} (htag : ∀ g, k.tag = some g → k.cells = encAll g.t g.l ∧ on = some g.l.length) :
    Ext n0 w G μ w G (upd μ H.length none on) ∧ WInv n0 G (upd μ H.length none on) (H ++ [some k]) w :=
  ⟨upd_ext hW _ _, push_winv hW (upd_ext hW _ _) k (fun _ _ _ _ _ => rfl) (fun b hb => by cases hb) htag (fun r k' b _ _ _ hh => by cases hh)⟩

/-- Block b has other cells; all else is as it was. -/
structure Turned (w w' : World) (b : Nat) (c' : Array Value) (t : TypeId) : Prop where
  at_ : w'.heap[b]? = some (.cells c' t (0, 0))
  other : ∀ x, x ≠ b → w'.heap[x]? = w.heap[x]?
  os : w'.os = w.os
  tape : w'.tape = w.tape
  output : w'.output = w.output
  size : w'.heap.size = w.heap.size
  drawn : w'.drawn = w.drawn

theorem turned_ext (hW : WInv n0 G μ H w) {r : Nat} {k : Blk} (hr : H[r]? = some (some k)) (hf : k.frozen = false) {b : Nat} (hb : μ.loc r = some b) {c c' : Array Value} (hc : w.heap[b]? = some (.cells c k.ty (0, 0)))
    {w' : World} {t : TypeId} (hT : Turned w w' b c' t) (hs : c'.size = c.size) : Ext n0 w G μ w' G μ := by
  obtain ⟨c1, h2, h3, h4, h5, h6⟩ := hW.blk r k b hr hb
  refine ⟨⟨fun x hx => ⟨hx, hT.other x ?_⟩, fun _ _ h => h, fun _ _ h => h, ?_⟩, hT.os, hT.tape, hT.output, Nat.le_of_eq hT.size.symm, Nat.le_of_eq hT.drawn.symm, fun x _ hx => hT.other x ?_, fun _ h => .inl h⟩
  · rintro rfl; exact (h6 hf).2 hx
  · intro x n hx
    obtain ⟨cs, t', fr, g1, g2⟩ := hx
    by_cases hxb : x = b
    · subst hxb
      rw [hc] at g1; cases g1
      exact ⟨c', _, _, hT.at_, by rw [hs]; exact g2⟩
    · exact ⟨cs, t', fr, by rw [hT.other x hxb]; exact g1, g2⟩
  · rintro rfl; exact hx (h6 hf).1

theorem turned_winv (hW : WInv n0 G μ H w) {r : Nat} {k k' : Blk} (hr : H[r]? = some (some k)) (hf : k.frozen = false) {b : Nat} (hb : μ.loc r = some b) {c c' : Array Value} (hc : w.heap[b]? = some (.cells c k.ty (0, 0)))
    {w' : World} (hT : Turned w w' b c' k'.ty) (hs : c'.size = c.size) (hf' : k'.frozen = false) (hk : VCells w' G μ b 0 k'.cells) (hg : k'.grown = false → c'.size = k'.cells.length)
    (htag : ∀ g, k'.tag = some g → k'.cells = encAll g.t g.l ∧ μ.len r = some g.l.length) : WInv n0 G μ (H.set r (some k')) w' := by
  have e := turned_ext hW hr hf hb hc hT hs
  obtain ⟨c1, h2, h3, h4, h5, h6⟩ := hW.blk r k b hr hb
  have hrl : r < H.length := (List.getElem?_eq_some_iff.1 hr).1
  refine ⟨?_, ?_, ?_, ?_, ?_, fun b hb => hW.base b (Nat.le_trans e.size hb)⟩
  · intro s k2 b2 hs2 hb2
    by_cases hsr : r = s
    · subst hsr
      rw [List.getElem?_set_self hrl] at hs2
      cases hs2
      rw [hb] at hb2; cases hb2
      exact ⟨c', hT.at_, hk, hg, fun h => (by rw [hf'] at h; cases h), fun _ => h6 hf⟩
    · rw [List.getElem?_set_ne hsr] at hs2
      obtain ⟨c2, g2, g3, g4, g5, g6⟩ := hW.blk s k2 b2 hs2 hb2
      have hne : b2 ≠ b := by
        rintro rfl
        cases hk2 : k2.frozen with
        | false => exact hsr (hW.inj r s k k2 b2 hr hs2 hf hk2 hb hb2)
        | true => exact (h6 hf).2 (g5 hk2)
      exact ⟨c2, (hT.other b2 hne).trans g2, VCells.mono e.toMono (hT.other b2 hne) 0 _ g3, g4, g5, g6⟩
  · intro s k2 g hs2 hg2
    by_cases hsr : r = s
    · subst hsr
      rw [List.getElem?_set_self hrl] at hs2
      cases hs2
      exact htag g hg2
    · rw [List.getElem?_set_ne hsr] at hs2
      exact hW.tags s k2 g hs2 hg2
  · intro s1 s2 k1 k2 b2 e1 e2 f1 f2 m1 m2
    have old : ∀ (s : Nat) (k1 : Blk), (H.set r (some k'))[s]? = some (some k1) → k1.frozen = false → ∃ k0, H[s]? = some (some k0) ∧ k0.frozen = false := by
      intro s k1 e1 f1
      by_cases hsr : r = s
      · subst hsr; exact ⟨k, hr, hf⟩
      · rw [List.getElem?_set_ne hsr] at e1; exact ⟨k1, e1, f1⟩
    obtain ⟨k3, e3, f3⟩ := old s1 k1 e1 f1
    obtain ⟨k4, e4, f4⟩ := old s2 k2 e2 f2
    exact hW.inj s1 s2 k3 k4 b2 e3 e4 f3 f4 m1 m2
  · intro b hb
    rw [hT.size]; exact hW.lt b hb
  · intro s hs2
    rw [List.length_set] at hs2
    exact hW.top s hs2

theorem set_none {H : Heap} {r s : Nat} {k1 : Blk} (e1 : (H.set r none)[s]? = some (some k1)) : H[s]? = some (some k1) ∧ s ≠ r := by
  by_cases hsr : r = s
  · subst hsr
    rcases Nat.lt_or_ge r H.length with hl | hl
    · rw [List.getElem?_set_self hl] at e1; cases e1
    · rw [List.getElem?_eq_none (by simpa using hl)] at e1; cases e1
  · rw [List.getElem?_set_ne hsr] at e1; exact ⟨e1, Ne.symm hsr⟩
/-- A block is forgotten. -/
theorem kill_winv (hW : WInv n0 G μ H w) (r : Nat) : WInv n0 G μ (H.set r none) w :=
  ⟨fun s k b hs => hW.blk s k b (set_none hs).1, fun s k g hs => hW.tags s k g (set_none hs).1, fun s1 s2 k1 k2 b e1 e2 => hW.inj s1 s2 k1 k2 b (set_none e1).1 (set_none e2).1, hW.lt, fun s hs => hW.top s (by simpa using hs), hW.base⟩

/-- A live block gets a further name (and the former one is forgotten). -/
theorem rename_winv (hW : WInv n0 G μ H w) {r : Nat} {k : Blk} (hr : H[r]? = some (some k)) {b : Nat} (hb : μ.loc r = some b) {on : Option Nat} (htag : ∀ g, k.tag = some g → k.cells = encAll g.t g.l ∧ on = some g.l.length) :
    Ext n0 w G μ w G (upd μ H.length (some b) on) ∧ WInv n0 G (upd μ H.length (some b) on) (H.set r none ++ [some k]) w := by
  have hk := kill_winv hW r
  have hlen : (H.set r none).length = H.length := by simp
  have e := upd_ext hW (some b) on
  have e2 : Ext n0 w G μ w G (upd μ (H.set r none).length (some b) on) := by rw [hlen]; exact e
  refine ⟨e, ?_⟩
  have := push_winv hk e2 k (fun _ _ _ _ _ => rfl) ?_ htag ?_
  · rwa [hlen] at this
  · rintro b' hb'
    cases hb'
    obtain ⟨c, h2, h3, h4⟩ := hW.blk r k b hr hb
    exact ⟨c, h2, VCells.mono e2.toMono rfl 0 _ h3, h4⟩
  · intro s k' b' hs hf hb' hh
    cases hh
    obtain ⟨hs1, hs2⟩ := set_none hs
    cases hkf : k.frozen with
    | false => exact hs2 (hW.inj s r k' k b hs1 hr hf hkf hb' hb)
    | true =>
      obtain ⟨_, _, _, _, g5, _⟩ := hW.blk r k b hr hb
      obtain ⟨_, _, _, _, _, g6⟩ := hW.blk s k' b hs1 hb'
      exact (g6 hf).2 (g5 hkf)

/-- A block is frozen. -/
theorem freeze_winv (hW : WInv n0 G μ H w) {r : Nat} {k : Blk} (hr : H[r]? = some (some k)) (hf : k.frozen = false) :
    Ext n0 w G μ w (fun x => G x ∨ μ.loc r = some x) μ ∧ WInv n0 (fun x => G x ∨ μ.loc r = some x) μ (H.set r (some { k with frozen := true })) w := by
  have hrl : r < H.length := (List.getElem?_eq_some_iff.1 hr).1
  have e : Ext n0 w G μ w (fun x => G x ∨ μ.loc r = some x) μ := ⟨⟨fun _ h => ⟨.inl h, rfl⟩, fun _ _ h => h, fun _ _ h => h, fun _ _ h => h⟩, rfl, rfl, rfl, Nat.le_refl _, Nat.le_refl _, fun _ _ _ => rfl, fun x hx => by
    rcases hx with hx | hx
    · exact .inl hx
    · obtain ⟨_, _, _, _, _, h6⟩ := hW.blk r k x hr hx
      exact .inr (h6 hf).1⟩
  have key : ∀ (s : Nat) (k1 : Blk), (H.set r (some { k with frozen := true }))[s]? = some (some k1) → (s = r ∧ k1 = { k with frozen := true }) ∨ (s ≠ r ∧ H[s]? = some (some k1)) := by
    intro s k1 hs
    by_cases hsr : r = s
    · subst hsr; rw [List.getElem?_set_self hrl] at hs; cases hs; exact .inl ⟨rfl, rfl⟩
    · rw [List.getElem?_set_ne hsr] at hs; exact .inr ⟨Ne.symm hsr, hs⟩
  refine ⟨e, ?_, ?_, ?_, ?_, ?_, hW.base⟩
  · intro s k1 b hs hb
    rcases key s k1 hs with ⟨rfl, rfl⟩ | ⟨hne, hs⟩
    · obtain ⟨c, h2, h3, h4, h5, h6⟩ := hW.blk s k b hr hb
      exact ⟨c, h2, VCells.mono e.toMono rfl 0 _ h3, h4, fun _ => .inr hb, fun h => by cases h⟩
    · obtain ⟨c2, g2, g3, g4, g5, g6⟩ := hW.blk s k1 b hs hb
      refine ⟨c2, g2, VCells.mono e.toMono rfl 0 _ g3, g4, fun h => .inl (g5 h), fun h => ⟨(g6 h).1, ?_⟩⟩
      rintro (h' | h')
      · exact (g6 h).2 h'
      · exact hne (hW.inj s r k1 k b hs hr h hf hb h')
  · intro s k1 g hs hg
    rcases key s k1 hs with ⟨rfl, rfl⟩ | ⟨hne, hs⟩
    · exact hW.tags s k g hr hg
    · exact hW.tags s k1 g hs hg
  · intro s1 s2 k1 k2 b2 e1 e2 f1 f2 m1 m2
    rcases key s1 k1 e1 with ⟨rfl, rfl⟩ | ⟨h1, h1'⟩
    · cases f1
    · rcases key s2 k2 e2 with ⟨rfl, rfl⟩ | ⟨h2, h2'⟩
      · cases f2
      · exact hW.inj s1 s2 k1 k2 b2 h1' h2' f1 f2 m1 m2
  · rintro x (hx | hx)
    · exact hW.lt x hx
    · exact hW.loc_lt hr hx
  · intro s hs
    exact hW.top s (by simpa using hs)

/-- A new block that nobody writes. -/
theorem good_winv (hW : WInv n0 G μ H w) (o : Obj) : Ext n0 w G μ (w.alloc o) (fun x => G x ∨ x = w.heap.size) μ ∧ WInv n0 (fun x => G x ∨ x = w.heap.size) μ H (w.alloc o) := by
  have e : Ext n0 w G μ (w.alloc o) (fun x => G x ∨ x = w.heap.size) μ := {
    good := fun b hb => ⟨.inl hb, Below.heap_alloc _ _ _ (hW.lt b hb)⟩
    map := fun _ _ h => h
    len := fun _ _ h => h
    room := fun b n hc => by
      obtain ⟨cs, t, fr, h1, h2⟩ := hc
      exact ⟨cs, t, fr, by rw [Below.heap_alloc _ _ _ (heap_lt h1)]; exact h1, h2⟩
    os := rfl
    tape := rfl
    output := rfl
    size := by simp
    drawn := Nat.le_refl _
    old := fun b hb _ => Below.heap_alloc _ _ _ hb
    new := fun b hb => by
      rcases hb with hb | rfl
      · exact .inl hb
      · exact .inr (hW.base _ (Nat.le_refl _)) }
  refine ⟨e, hW.keep e ?_ ?_⟩
  · intro r k b hr hb
    have hlt := hW.loc_lt hr hb
    refine ⟨Below.heap_alloc _ _ _ hlt, ?_⟩
    rintro (h | rfl)
    · exact h
    · omega
  · rintro b (hb | rfl)
    · have := hW.lt b hb; simp; omega
    · simp
end
end Go.PM
