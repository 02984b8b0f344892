/- The plain machine, 2: what an operation does (definitions only). No program. -/
import Derived.Test.YtjgapmocogjkmaaGreatDoorPmA
set_option linter.unusedSimpArgs false
set_option linter.unusedVariables false
namespace Go.PM
open Go Go.RowKit

abbrev Frm := List (Nat × PV)
def fget : Frm → Nat → PV
  | [], _ => .junk
  | (s, p) :: r, t => bif Nat.beq s t then p else fget r t
def fset : Frm → Nat → PV → Frm
  | [], t, p => [(t, p)]
  | (s, q) :: r, t, p => bif Nat.beq s t then (t, p) :: r else (s, q) :: fset r t p

/-- Bit t of m. -/
def bitAt (m t : Nat) : Bool := Nat.beq (Nat.land (Nat.shiftRight m t) 1) 1

def lits (vs : Array Value) : List PV := vs.toList.map .lit
def constPV : Value → PV
  | .agg cs => .agg (lits cs)
  | .tuple cs => .tuple (lits cs)
  | v => .lit v
def ev (F : Frm) : Operand → PV
  | .tmp t => fget F t
  | .const v => constPV v
  | .func f => .lit (.func (.func f) #[] #[])
  | .global _ => .junk

def litV : PV → Option Value
  | .lit v => some v
  | _ => none
def litVs : List PV → Option (List Value)
  | [] => some []
  | .lit v :: ps => match litVs ps with | some vs => some (v :: vs) | none => none
  | _ => none
def toVal : PV → Option Value
  | .lit v => some v
  | .agg cs => match litVs cs with | some vs => some (.agg vs.toArray) | none => none
  | .tuple cs => match litVs cs with | some vs => some (.tuple vs.toArray) | none => none
  | _ => none

/-- A text that asks the program alone. -/
def evalPure {α : Type} (P : Program) : Sem α → Option α
  | .pure a => some a
  | .program k => evalPure P (k P)
  | _ => none

def valOf (F : Frm) (x : Operand) : Value := match toVal (ev F x) with | some v => v | none => undef
def allVal (F : Frm) : List Operand → Bool
  | [] => true
  | x :: xs => match toVal (ev F x) with | some _ => allVal F xs | none => false
def isSelect : Op → Bool
  | .select .. => true
  | _ => false
def xPure (P : Program) (F : Frm) (o : Oper) : Option PV :=
  bif isSelect o.op || !allVal F o.op.operands.toList then none else
  match evalPure P (execOp (valOf F) o) with
  | some (.value v) => some (constPV v)
  | _ => none

/- Classes: whether an operation looks at the heap: 0 no, 1 it reads, 2 it writes. -/


def aggT (P : Program) (t : TypeId) : Option Bool :=
  match P.underlying t with
  | some (.struct _) | some (.array ..) => some true
  | some _ => some false
  | none => none
def sizeT (P : Program) (t : TypeId) : Option Nat := match P.info? t with | some i => some i.size | none => none

/-- A variable of type t read where the cells cs lie. -/
def xPart (P : Program) (t : TypeId) (cs : List PV) : Option PV :=
  match aggT P t with
  | some true => match sizeT P t with
    | some n => bif Nat.ble n cs.length then some (.agg (cs.take n)) else none
    | none => none
  | some false => cs.head?
  | none => none

def cellsP : PV → Option (List PV)
  | .agg cs => some cs
  | .lit (.agg cs) => some (lits cs)
  | .tuple _ | .junk => none
  | p => some [p]
def okCell : PV → Bool
  | .lit v => v.oneCell'
  | .agg _ | .tuple _ | .junk => false
  | _ => true
/-- The list with other elements from 'off' on. -/
def splice (cs : List PV) (off : Nat) (new : List PV) : List PV := cs.take off ++ new ++ cs.drop (off + new.length)

def hget (H : Heap) (r : Nat) : Option Blk := match H[r]? with | some (some k) => some k | _ => none

def xLoad (P : Program) (H : Heap) (t : TypeId) : PV → Option (PV × Nat)
  | .iptr cs => match xPart P t cs with | some v => some (v, 0) | none => none
  | .hptr r off => match hget H r with
    | some k => match xPart P t (k.cells.drop off) with | some v => some (v, 1) | none => none
    | none => none
  | _ => none

def xWrite (H : Heap) (r off : Nat) (new : List PV) : Option Heap :=
  match hget H r with
  | some k => bif !k.frozen && Nat.ble (off + new.length) k.cells.length && new.all okCell then some (H.set r (some { k with cells := splice k.cells off new, tag := none })) else none
  | none => none

def xStore (P : Program) (H : Heap) (t : TypeId) (a v : PV) : Option Heap :=
  match a, cellsP v, sizeT P t with
  | .hptr r off, some new, some n => bif Nat.beq new.length n then xWrite H r off new else none
  | _, _, _ => none

def xNew (H : Heap) (t : TypeId) (cells : List PV) : PV × Heap := (.hptr H.length 0, H ++ [some ⟨cells, t, false, false, none⟩])

def zeroT (P : Program) (t : TypeId) : Option Value := match P.info? t with | some i => i.zero | none => none

def xField (P : Program) (s : TypeId) (f : Nat) : Option Field :=
  match P.underlying s with
  | some (.struct fs) => fs[f]?
  | _ => none

def xFieldAddr (P : Program) (s : TypeId) (f : Nat) (p : PV) : Option PV :=
  match xField P s f with
  | some fd => match sizeT P fd.type with
    | some (_ + 1) => match p with
      | .iptr cs => some (.iptr (cs.drop fd.offset))
      | .hptr r off => some (.hptr r (off + fd.offset))
      | _ => none
    | _ => none
  | none => none

def idxOk (i : Int) (n : Nat) : Bool := match i with | .ofNat m => Nat.blt m n | .negSucc _ => false

def xIndexAddr (P : Program) (t : TypeId) (x : PV) (i : Int) : Option PV :=
  match P.underlying t with
  | some (.slice e) => match sizeT P e with
    | some sz => match x with
      | .vals cs n _ => bif idxOk i n && Nat.blt (i.toNat * sz) cs.length then some (.iptr (cs.drop (i.toNat * sz))) else none
      | .hs r off n _ _ => bif idxOk i n then some (.hptr r (off + i.toNat * sz)) else none
      | _ => none
    | none => none
  | some (.array n e) => match sizeT P e with
    | some sz => match x with
      | .iptr cs => bif idxOk i n then some (.iptr (cs.drop (i.toNat * sz))) else none
      | .hptr r off => bif idxOk i n then some (.hptr r (off + i.toNat * sz)) else none
      | _ => none
    | none => none
  | _ => none

def xFill (place : Nat → Option (Nat × Nat)) : List PV → List (Nat × PV) → Option (List PV)
  | cells, [] => some cells
  | cells, (i, v) :: rest => match place i, cellsP v with
    | some (off, size), some new => bif Nat.beq new.length size && Nat.ble (off + new.length) cells.length then xFill place (splice cells off new) rest else none
    | _, _ => none

def xBuild (P : Program) (F : Frm) (t : TypeId) (parts : List (Nat × Operand)) : Option PV :=
  match P.info? t, P.underlying t with
  | some it, some (.array _ e) => match it.zero, P.info? e with
    | some z, some ie => match xFill (fun i => some (i * ie.size, ie.size)) (lits z.cells) (parts.map fun p => (p.1, ev F p.2)) with
      | some cs => some (.agg cs)
      | none => none
    | _, _ => none
  | some it, some (.struct fields) => match it.zero, fields.toList.mapM (fun f => (P.info? f.type).map fun i => (f.offset, i.size)) with
    | some z, some places => match xFill (fun i => places.toArray[i]?) (lits z.cells) (parts.map fun p => (p.1, ev F p.2)) with
      | some cs => some (.agg cs)
      | none => none
    | _, _ => none
  | _, _ => none

/-- n cells by the pattern of the zero value. -/
def zeroRow (z : Value) (n : Nat) : List PV :=
  match z.cells.toList with
  | [v] => List.replicate n (.lit v)
  | _ => (List.range n).map fun i => .lit (z.cells[i % z.cells.size]!)

def xBuildSlice (P : Program) (F : Frm) (t : TypeId) (len : Nat) (parts : List (Nat × Operand)) : Option PV :=
  match P.underlying t with
  | some (.slice e) => match sizeT P e, zeroT P e with
    | some sz, some z => bif Nat.ble (len * sz) 16777216 && Nat.ble 1 z.cells.size then
        match xFill (fun i => some (i * sz, sz)) (zeroRow z (len * sz)) (parts.map fun p => (p.1, ev F p.2)) with
        | some cs => bif noRef.noRefs cs then some (.vals cs len (some len)) else none
        | none => none
      else none
    | _, _ => none
  | _ => none

/-- Its parts refer to the plain heap: a block of its own. -/
def xBuildSliceH (P : Program) (F : Frm) (H : Heap) (t : TypeId) (len : Nat) (parts : List (Nat × Operand)) : Option (PV × Heap) :=
  match P.underlying t with
  | some (.slice e) => match sizeT P e, zeroT P e with
    | some sz, some z => bif Nat.ble (len * sz) 16777216 && Nat.ble 1 z.cells.size then
        match xFill (fun i => some (i * sz, sz)) (zeroRow z (len * sz)) (parts.map fun p => (p.1, ev F p.2)) with
        | some cs => some (.hs H.length 0 len (some len) sz, H ++ [some ⟨cs, e, false, false, none⟩])
        | none => none
      else none
    | _, _ => none
  | _ => none
def xMakeSlice (P : Program) (H : Heap) (t : TypeId) (l c : PV) : Option (PV × Heap) :=
  match P.underlying t, l, c with
  | some (.slice e), .lit (.int _ l), .lit (.int _ c) => match P.info? e with
    | some i => match i.zero with
      | some z => bif decide (0 ≤ l) && decide (l ≤ c) && decide (c ≤ 1048576) && Nat.ble i.bytes 65536 && Nat.ble 1 i.size && Nat.beq z.cells.size i.size then
          some (.hs H.length 0 l.toNat (some c.toNat) i.size, H ++ [some ⟨zeroRow z (c.toNat * i.size), e, false, false, none⟩])
        else none
      | none => none
    | none => none
  | _, _, _ => none

/-- Bounds of a slice expression: low and high, none: left out. -/
def bnd (x : Option PV) (d : Nat) : Option Nat :=
  match x with
  | none => some d
  | some (.lit (.int _ i)) => bif decide (0 ≤ i) then some i.toNat else none
  | _ => none

def xSlice (P : Program) (t : TypeId) (x : PV) (lo hi : Option PV) : Option PV :=
  match P.underlying t with
  | some (.slice e) => match sizeT P e with
    | some sz => match x with
      | .vals cs n _ => match bnd lo 0, bnd hi n with
        | some l, some h => bif Nat.ble l h && Nat.ble h n then some (.vals ((cs.drop (l * sz)).take ((h - l) * sz)) (h - l) none) else none
        | _, _ => none
      | .hs r off n cap sz' => bif Nat.beq sz sz' then match bnd lo 0, bnd hi n with
        | some l, some h => match cap with
          | some c => bif Nat.ble l h && Nat.ble h c then (bif Nat.beq c l then some (.hs r off 0 (some 0) sz) else some (.hs r (off + l * sz) (h - l) (some (c - l)) sz)) else none
          | none => bif Nat.ble l h && Nat.ble h n then (bif Nat.blt l n then some (.hs r (off + l * sz) (h - l) none sz) else (bif Nat.beq l 0 then some (.hs r off 0 none sz) else some (.vals [] 0 none))) else none
        | _, _ => none
        else none
      | _ => none
    | none => none
  | some (.array n e) => match sizeT P e with
    | some sz => match bnd lo 0, bnd hi n with
      | some l, some h => bif Nat.ble l h && Nat.ble h n && Nat.blt l n then (match x with
        | .iptr cs => some (.vals ((cs.drop (l * sz)).take ((h - l) * sz)) (h - l) none)
        | _ => none) else none
      | _, _ => none
    | none => none
  | _ => none

def bytesP (s : ByteArray) : List PV := s.data.toList.map fun b => .lit (.int .u8 b.toNat)

/-- What is appended or copied: its cells and how many elements. -/
def xSource (H : Heap) (sz : Nat) : PV → Option (List PV × Nat)
  | .vals cs n _ => bif Nat.beq cs.length (n * sz) then some (cs, n) else none
  | .hs r off n _ _ => match hget H r with
    | some k => bif Nat.ble (off + n * sz) k.cells.length then some ((k.cells.drop off).take (n * sz), n) else none
    | none => none
  | .lit (.slice none n _) => bif Nat.beq n 0 then some ([], 0) else none
  | .lit (.string s) => bif Nat.beq sz 1 then some (bytesP s, s.size) else none
  | _ => none

def xGrow (H : Heap) (e : TypeId) (sz need : Nat) (cells : List PV) : PV × Heap :=
  (.hs H.length 0 need none sz, H ++ [some ⟨cells, e, true, false, none⟩])

/-- The cells of a slice's elements, as many as there are, and further ones. -/
def xMore (cells : List PV) (m : Nat) (new : List PV) : List PV := bif Nat.beq cells.length m then cells ++ new else cells.take m ++ new

def xAppend (P : Program) (H : Heap) (tys : Array TypeId) (s x : PV) : Option (PV × Heap) :=
  match tys.toList with
  | [t, u] => match P.underlying t, P.underlying u with
    | _, some (.int _) => none
    | _, none => none
    | some (.slice e), some _ => match P.info? e with
      | some i => match i.zero with
        | some z => bif Nat.ble i.bytes 65536 && Nat.ble 1 i.size && Nat.beq z.cells.size i.size then
        match xSource H i.size x with
        | some (new, n) => bif Nat.ble n 1048576 && new.all okCell then match s with
          | .lit (.slice none l c) => bif Nat.beq l 0 && Nat.beq c 0 then
              (bif Nat.beq n 0 then some (s, H) else some (xGrow H e i.size n new)) else none
          | .vals cs l cap => bif Nat.beq n 0 then some (s, H) else bif Nat.beq cs.length (l * i.size) && Nat.ble l 1048576 then
              (match cap with
                | some c => bif Nat.ble (l + n) c then none else some (xGrow H e i.size (l + n) (cs ++ new))
                | none => none) else none
          | .hs r off l cap sz => bif Nat.beq n 0 then some (s, H) else match hget H r with
            | some k => bif Nat.beq sz i.size && Nat.ble (off + l * sz) k.cells.length && Nat.ble l 1048576 && Nat.beq k.ty e then match cap with
              | some c => bif Nat.ble (l + n) c then match xWrite H r (off + l * sz) new with
                  | some H' => some (.hs r off (l + n) (some c) sz, H')
                  | none => none
                else some (xGrow H e sz (l + n) ((k.cells.drop off).take (l * sz) ++ new))
              | none => bif Nat.beq off 0 && !k.frozen && k.grown then
                  some (xGrow (H.set r none) e sz (l + n) (xMore k.cells (l * sz) new)) else none
              else none
            | none => none
          | _ => none
          else none
        | none => none
        else none
        | none => none
      | none => none
    | _, _ => none
  | _ => none

def xCopy (P : Program) (H : Heap) (tys : Array TypeId) (d x : PV) : Option (PV × Heap) :=
  match tys.toList with
  | t :: _ => match P.underlying t with
    | some (.slice e) => match sizeT P e with
      | some sz => match xSource H sz x with
        | some (new, n) => match d with
          | .hs r off l _ _ => match xWrite H r off (new.take (min n l * sz)) with
            | some H' => some (.lit (goInt ((min n l : Nat) : Int)), H')
            | none => none
          | _ => none
        | none => none
      | none => none
    | _ => none
  | _ => none

def xClear (P : Program) (H : Heap) (tys : Array TypeId) (d : PV) : Option (PV × Heap) :=
  match tys.toList with
  | t :: _ => match P.underlying t with
    | some (.slice e) => match zeroT P e with
      | some z => match d with
        | .hs r off l _ _ => bif Nat.beq l 0 then some (.tuple [], H) else match xWrite H r off (lits (Builtin.zeroCells z.cells l)) with
          | some H' => some (.tuple [], H')
          | none => none
        | _ => none
      | none => none
    | _ => none
  | _ => none

def xLen (P : Program) (tys : Array TypeId) (x : PV) : Option PV :=
  match tys.toList with
  | t :: _ => match P.underlying t, x with
    | some (.slice _), .vals _ n _ => some (.lit (goInt n))
    | some (.slice _), .hs _ _ n _ _ => some (.lit (goInt n))
    | some (.array n _), _ => some (.lit (goInt n))
    | _, _ => none
  | _ => none

/-! Numbers written out: for the kernel's sake; each is the identity. -/
def fNat {α : Type} (n : Nat) (k : Nat → α) : α := match n with | 0 => k 0 | m + 1 => k (m + 1)
def fInt {α : Type} (i : Int) (k : Int → α) : α := match i with
  | .ofNat n => fNat n fun n => k (.ofNat n)
  | .negSucc n => fNat n fun n => k (.negSucc n)
def fBool {α : Type} (b : Bool) (k : Bool → α) : α := match b with | true => k true | false => k false
theorem fNat_eq {α : Type} (n : Nat) (k : Nat → α) : fNat n k = k n := by cases n <;> rfl
theorem fInt_eq {α : Type} (i : Int) (k : Int → α) : fInt i k = k i := by
  cases i with
  | ofNat n => exact fNat_eq n fun n => k (.ofNat n)
  | negSucc n => exact fNat_eq n fun n => k (.negSucc n)
theorem fBool_eq {α : Type} (b : Bool) (k : Bool → α) : fBool b k = k b := by cases b <;> rfl
theorem nblt_eq (m n : Nat) : Nat.blt m n = decide (m < n) := by
  cases h : Nat.blt m n with
  | true =>
    have := Nat.le_of_ble_eq_true h
    exact (decide_eq_true (show m < n by omega)).symm
  | false =>
    refine (decide_eq_false fun hl => ?_).symm
    have : Nat.blt m n = true := Nat.ble_eq_true_of_le hl
    rw [this] at h; cases h
/-- k.wrap, short where the number fits. -/
def wrapF (k : IntKind) (n : Int) : Int := match k, n with
  | .i64, .ofNat m => bif Nat.blt m 9223372036854775808 then .ofNat m else k.wrap n
  | .i64, .negSucc m => bif Nat.blt m 9223372036854775808 then .negSucc m else k.wrap n
  | _, _ => k.wrap n
set_option maxRecDepth 100000 in
theorem wrapF_eq (k : IntKind) (n : Int) : wrapF k n = k.wrap n := by
  unfold wrapF
  split
  · rename_i m
    rw [nblt_eq]
    by_cases hb : m < 9223372036854775808
    · rw [decide_eq_true hb, cond_true, IntKind.wrap_i64]
      show (m : Int) = _
      rw [show Int.ofNat m = (m : Int) from rfl]
      omega
    · rw [decide_eq_false hb, cond_false]
  · rename_i m
    rw [nblt_eq]
    by_cases hb : m < 9223372036854775808
    · rw [decide_eq_true hb, cond_true, IntKind.wrap_i64, Int.negSucc_eq]
      omega
    · rw [decide_eq_false hb, cond_false]
  · rfl
def ltI (a b : Int) : Bool := match a, b with
  | .ofNat m, .ofNat n => Nat.blt m n
  | .ofNat _, .negSucc _ => false
  | .negSucc _, .ofNat _ => true
  | .negSucc m, .negSucc n => Nat.blt n m
def eqI (a b : Int) : Bool := match a, b with
  | .ofNat m, .ofNat n => Nat.beq m n
  | .negSucc m, .negSucc n => Nat.beq m n
  | _, _ => false
theorem nbeq_eq (m n : Nat) : Nat.beq m n = decide (m = n) := by
  cases h : Nat.beq m n with
  | true => exact (decide_eq_true (Nat.eq_of_beq_eq_true h)).symm
  | false =>
    refine (decide_eq_false fun hl => ?_).symm
    subst hl
    simp at h
theorem ltI_eq (a b : Int) : ltI a b = decide (a < b) := by
  cases a <;> cases b <;> simp only [ltI, nblt_eq]
  · exact decide_eq_decide.2 (by simp only [Int.ofNat_eq_natCast]; omega)
  · exact (decide_eq_false (by simp only [Int.ofNat_eq_natCast, Int.negSucc_eq]; omega)).symm
  · exact (decide_eq_true (by simp only [Int.ofNat_eq_natCast, Int.negSucc_eq]; omega)).symm
  · exact decide_eq_decide.2 (by simp only [Int.negSucc_eq]; omega)
theorem eqI_eq (a b : Int) : eqI a b = decide (a = b) := by
  cases a <;> cases b <;> simp only [eqI, nbeq_eq]
  · exact decide_eq_decide.2 (by simp only [Int.ofNat_eq_natCast]; omega)
  · exact (decide_eq_false (by simp only [Int.ofNat_eq_natCast, Int.negSucc_eq]; omega)).symm
  · exact (decide_eq_false (by simp only [Int.ofNat_eq_natCast, Int.negSucc_eq]; omega)).symm
  · exact decide_eq_decide.2 (by simp only [Int.negSucc_eq]; omega)

def xBin (op : BinOp) (k : IntKind) (a b : Int) : Option Value :=
  match op with
  | .add => some (.int k (wrapF k (a + b)))
  | .sub => some (.int k (wrapF k (a - b)))
  | .mul => some (.int k (wrapF k (a * b)))
  | .quo => bif eqI b 0 then none else some (.int k (wrapF k (a.tdiv b)))
  | .rem => bif eqI b 0 then none else some (.int k (a.tmod b))
  | .eql => some (.bool (eqI a b))
  | .neq => some (.bool (!eqI a b))
  | .lss => some (.bool (ltI a b))
  | .leq => some (.bool (!ltI b a))
  | .gtr => some (.bool (ltI b a))
  | .geq => some (.bool (!ltI a b))
  | _ => none

def fSpine {α β : Type} : List β → (List β → α) → α
  | [], k => k []
  | x :: r, k => fSpine r fun r => k (x :: r)
theorem fSpine_eq {α β : Type} : ∀ (F : List β) (k : List β → α), fSpine F k = k F
  | [], k => rfl
  | x :: r, k => by rw [fSpine, fSpine_eq r]
def fPV {α : Type} (p : PV) (k : PV → α) : α := match p with
  | .lit (.int d n) => fInt n fun n => k (.lit (.int d n))
  | .lit (.bool b) => fBool b fun b => k (.lit (.bool b))
  | .lit v => k (.lit v)
  | .vals cs n cap => fNat n fun n => k (.vals cs n cap)
  | .iptr cs => k (.iptr cs)
  | .hptr r off => fNat r fun r => fNat off fun off => k (.hptr r off)
  | .hs r off len cap sz => fNat r fun r => fNat off fun off => fNat len fun len => k (.hs r off len cap sz)
  | .agg cs => k (.agg cs)
  | .tuple cs => k (.tuple cs)
  | .clo fn f c => k (.clo fn f c)
  | .junk => k .junk
  | .tl t l cap e => fSpine l fun l => k (.tl t l cap e)
  | .tp t l i off e => fNat i fun i => k (.tp t l i off e)
  | .own r sz => fNat r fun r => k (.own r sz)
  | .op r i off sz => fNat r fun r => fNat i fun i => k (.op r i off sz)
  | .win r lo n sz => fNat r fun r => fNat lo fun lo => fNat n fun n => k (.win r lo n sz)
theorem fPV_eq {α : Type} (p : PV) (k : PV → α) : fPV p k = k p := by
  unfold fPV
  split <;> simp only [fInt_eq, fBool_eq, fNat_eq, fSpine_eq]
def fFrm {α : Type} : Frm → (Frm → α) → α
  | [], k => k []
  | (t, p) :: r, k => fFrm r fun r => k ((t, p) :: r)
theorem fFrm_eq {α : Type} : ∀ (F : Frm) (k : Frm → α), fFrm F k = k F
  | [], k => rfl
  | (t, p) :: r, k => by rw [fFrm, fFrm_eq r]
def fCells {α : Type} : List PV → (List PV → α) → α
  | [], k => k []
  | p :: r, k => fPV p fun p => fCells r fun r => k (p :: r)
theorem fCells_eq {α : Type} : ∀ (F : List PV) (k : List PV → α), fCells F k = k F
  | [], k => rfl
  | p :: r, k => by rw [fCells, fPV_eq, fCells_eq r]
def fTag {α : Type} (g : Option Tg) (k : Option Tg → α) : α := match g with
  | none => k none
  | some ⟨t, l⟩ => fSpine l fun l => k (some ⟨t, l⟩)
theorem fTag_eq {α : Type} (g : Option Tg) (k : Option Tg → α) : fTag g k = k g := by
  cases g with
  | none => rfl
  | some g => exact fSpine_eq g.l fun l => k (some ⟨g.t, l⟩)
def fHeap {α : Type} : Heap → (Heap → α) → α
  | [], k => k []
  | none :: r, k => fHeap r fun r => k (none :: r)
  | some ⟨cs, t, g, f, none⟩ :: r, k => fCells cs fun cs => fHeap r fun r => k (some ⟨cs, t, g, f, none⟩ :: r)
  | some ⟨cs, t, g, f, some tg⟩ :: r, k => fTag (some tg) fun tg => fHeap r fun r => k (some ⟨cs, t, g, f, tg⟩ :: r)
theorem fHeap_eq {α : Type} : ∀ (F : Heap) (k : Heap → α), fHeap F k = k F
  | [], k => rfl
  | none :: r, k => by rw [fHeap, fHeap_eq r]
  | some ⟨cs, t, g, f, none⟩ :: r, k => by rw [fHeap, fCells_eq, fHeap_eq r]
  | some ⟨cs, t, g, f, some tg⟩ :: r, k => by rw [fHeap, fTag_eq, fHeap_eq r]

/-- What a call does: function, arguments, heap. -/
abbrev Callee := FuncId → List PV → Heap → Option (PV × Heap × Nat)

def p0 (H : Heap) (v : Option PV) : Option (PV × Heap × Nat) := match v with | some v => some (v, H, 0) | none => none
def p2 (x : Option (PV × Heap)) : Option (PV × Heap × Nat) := match x with | some (v, H) => some (v, H, 2) | none => none

def kindEq (k l : IntKind) : Bool := match k, l with
  | .i64, .i64 | .u8, .u8 | .u64, .u64 | .i32, .i32 | .u16, .u16 | .u32, .u32 | .i8, .i8 | .i16, .i16 => true
  | _, _ => false
theorem kindEq_eq {k l : IntKind} (h : kindEq k l = true) : k = l := by
  cases k <;> cases l <;> first | rfl | cases h

/-- Structs of ints and of such structs, compared field by field. -/
def eqFieldsW (P : Program) (sub : List Field → List PV → List PV → Option Bool) : List Field → List PV → List PV → Option Bool
  | [], _, _ => some true
  | f :: fs, cs, ds => bif f.name == "_" then none else match P.underlying f.type with
    | some (.int _) => match xPart P f.type (cs.drop f.offset), xPart P f.type (ds.drop f.offset) with
      | some (.lit (.int k a)), some (.lit (.int l b)) => bif kindEq k l then (match eqFieldsW P sub fs cs ds with
          | some r => some (eqI a b && r)
          | none => none) else none
      | _, _ => none
    | some (.struct gs) => bif P.stoodInHeld f.type then none else match xPart P f.type (cs.drop f.offset), xPart P f.type (ds.drop f.offset) with
      | some (.agg cs'), some (.agg ds') => match sub gs.toList cs' ds', eqFieldsW P sub fs cs ds with
        | some q, some r => some (q && r)
        | _, _ => none
      | _, _ => none
    | _ => none
def eqPlainN (P : Program) : Nat → List Field → List PV → List PV → Option Bool
  | 0 => fun _ _ _ => none
  | n + 1 => eqFieldsW P (eqPlainN P n)
def eqPlain (P : Program) : List Field → List PV → List PV → Option Bool := eqPlainN P 3
/-- Arrays of ints. -/
def eqItemsP (P : Program) (e : TypeId) : List Nat → List PV → List PV → Option Bool
  | [], _, _ => some true
  | i :: is, cs, ds => match P.underlying e with
    | some (.int _) => match xPart P e (cs.drop (i * P.cellsOf e)), xPart P e (ds.drop (i * P.cellsOf e)) with
      | some (.lit (.int k a)), some (.lit (.int l b)) => bif kindEq k l then (match eqItemsP P e is cs ds with
          | some r => some (eqI a b && r)
          | none => none) else none
      | _, _ => none
    | _ => none
def xAgg (P : Program) (op : BinOp) (t : TypeId) (cs ds : List PV) : Option PV := match P.underlying t with
  | some (.struct fs) => bif P.stoodInHeld t || P.eqGuardType P.depth t then none else match op, eqPlain P fs.toList cs ds with
    | .eql, some r => some (.lit (.bool r))
    | .neq, some r => some (.lit (.bool (!r)))
    | _, _ => none
  | some (.array n e) => bif P.eqGuardType P.depth t || !(P.info? e).isSome then none else match op, eqItemsP P e (List.range n) cs ds with
    | .eql, some r => some (.lit (.bool r))
    | .neq, some r => some (.lit (.bool (!r)))
    | _, _ => none
  | _ => none

def opu (P : Program) (cl : Callee) (F : Frm) (H : Heap) (o : Oper) : Option (PV × Heap × Nat) :=
  match o.op with
  | .move x | .assign x => some (ev F x, H, 0)
  | .pick c a b => match ev F c with
    | .lit (.bool t) => some (bif t then ev F a else ev F b, H, 0)
    | _ => none
  | .binOp op xt x y _ => match ev F x, ev F y with
    | .lit (.int k a), .lit (.int l b) => bif kindEq k l then (match xBin op k a b with | some v => some (.lit v, H, 0) | none => p0 H (xPure P F o)) else p0 H (xPure P F o)
    | .agg cs, .agg ds => (match xAgg P op xt cs ds with | some v => some (v, H, 0) | none => p0 H (xPure P F o))
    | _, _ => p0 H (xPure P F o)
  | .load t a => match xLoad P H t (ev F a) with | some (v, c) => some (v, H, c) | none => none
  | .store t a v => match xStore P H t (ev F a) (ev F v) with | some H' => some (.lit undef, H', 2) | none => none
  | .box t v => match cellsP (ev F v) with | some cs => p2 (some (xNew H t cs)) | none => none
  | .alloc t => match zeroT P t with | some z => p2 (some (xNew H t (lits z.cells))) | none => none
  | .fieldAddr s x f => p0 H (xFieldAddr P s f (ev F x))
  | .indexAddr t x i => match ev F i with | .lit (.int _ i) => p0 H (xIndexAddr P t (ev F x) i) | _ => none
  | .nilCheck x => match ev F x with
    | .iptr cs => some (.iptr cs, H, 0)
    | .hptr r off => some (.hptr r off, H, 0)
    | .clo (.func f) a b => some (.clo (.func f) a b, H, 0)
    | _ => p0 H (xPure P F o)
  | .field s x f => match ev F x with
    | .agg cs => match xField P s f with | some fd => p0 H (xPart P fd.type (cs.drop fd.offset)) | none => none
    | _ => p0 H (xPure P F o)
  | .index t x i => match ev F x, ev F i, P.underlying t with
    | .agg cs, .lit (.int _ i), some (.array n e) => match sizeT P e with
      | some sz => bif idxOk i n then p0 H (xPart P e (cs.drop (i.toNat * sz))) else none
      | none => none
    | _, _, _ => p0 H (xPure P F o)
  | .extract x i => match ev F x with
    | .tuple vs => p0 H vs[i]?
    | _ => p0 H (xPure P F o)
  | .build t parts => p0 H (xBuild P F t parts.toList)
  | .buildSlice t n parts => match xBuildSlice P F t n parts.toList with
    | some v => some (v, H, 0)
    | none => p2 (xBuildSliceH P F H t n parts.toList)
  | .makeSlice t l c => p2 (xMakeSlice P H t (ev F l) (ev F c))
  | .makeFunc fn first caps => some (.clo fn (first.toList.map (ev F)) (caps.toList.map (ev F)), H, 0)
  | .slice t x lo hi none => match ev F x with
    | .lit _ => p0 H (xPure P F o)
    | p => p0 H (xSlice P t p (lo.map (ev F)) (hi.map (ev F)))
  | .call c => match c.callee with
    | .builtin .len => match ev F (c.args.getD 0 (.const undef)) with
      | .lit _ => p0 H (xPure P F o)
      | p => bif Nat.beq c.args.size 1 then p0 H (xLen P c.argTypes p) else none
    | .builtin .append => match c.args.toList with
      | [s, x] => p2 (xAppend P H c.argTypes (ev F s) (ev F x))
      | _ => none
    | .builtin .copy => match c.args.toList with
      | [s, x] => p2 (xCopy P H c.argTypes (ev F s) (ev F x))
      | _ => none
    | .builtin .clear => match c.args.toList with
      | [s] => p2 (xClear P H c.argTypes (ev F s))
      | _ => none
    | .builtin _ => p0 H (xPure P F o)
    | .value f => match ev F f with
      | .lit (.func (.func g) first caps) => cl g (lits first ++ c.args.toList.map (ev F) ++ lits caps) H
      | .clo (.func g) first caps => cl g (first ++ c.args.toList.map (ev F) ++ caps) H
      | _ => none
    | .invoke .. => none
  | _ => p0 H (xPure P F o)
end Go.PM
