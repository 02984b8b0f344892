/- The plain machine, typed data: what operations do on them. No program. -/
import Derived.Test.YtjgapmocogjkmaaGreatDoorPmJ
set_option linter.unusedSimpArgs false
set_option linter.unusedVariables false
namespace Go.PM
open Go Go.RowKit

/-- The type of plain data that a type of the program has, if any. -/
def tyOf (P : Program) : Nat → TypeId → Option Ty
  | 0, _ => none
  | n + 1, t => match P.underlying t with
    | some (.int k) => some (.int k)
    | some .bool => some .bool
    | some .string => some .str
    | some (.slice e) => match tyOf P n e with | some t => some (.list t) | none => none
    | some (.struct fs) => tyFields (fun t => tyOf P n t) (fs.toList.map (·.type))
    | _ => none
where tyFields (f : TypeId → Option Ty) : List TypeId → Option Ty
  | [] => none
  | [t] => f t
  | t :: r => match f t, tyFields f r with
    | some a, some b => some (.prod a b)
    | _, _ => none
/-- The elements of a slice type: their type, and as plain data. -/
def noTy : List Nat := [130, 131]
def memTy : List Nat → Nat → Bool
  | [], _ => false
  | a :: r, t => bif Nat.beq a t then true else memTy r t
def elemTy (P : Program) (t : TypeId) : Option (TypeId × Ty) := bif memTy noTy t then none else match P.underlying t with
  | some (.slice e) => match tyOf P 6 e, sizeT P e with
    | some ty, some n => bif Nat.beq n ty.size then some (e, ty) else none
    | _, _ => none
  | _ => none

def castL (a b : Ty) (l : List a.den) : Option (List b.den) := if h : a = b then some (h ▸ l) else none
theorem castL_some {a b : Ty} {l : List a.den} {l' : List b.den} (h : castL a b l = some l') : ∃ e : a = b, e ▸ l = l' := by
  unfold castL at h
  split at h
  · rename_i e; exact ⟨e, by simpa using h⟩
  · cases h
def decMany {α : Type} (f : List PV → Option α) (sz : Nat) : Nat → List PV → Option (List α)
  | 0, [] => some []
  | 0, _ :: _ => none
  | n + 1, cs => match f (cs.take sz) with
    | some x => match decMany f sz n (cs.drop sz) with
      | some l => some (x :: l)
      | none => none
    | none => none
def decInt (k : IntKind) : List PV → Option Int
  | [.lit (.int d n)] => bif kindEq k d then some n else none
  | _ => none
def decBool : List PV → Option Bool
  | [.lit (.bool b)] => some b
  | _ => none
def decStr : List PV → Option ByteArray
  | [.lit (.string s)] => some s
  | _ => none
def decList (t : Ty) (f : List PV → Option t.den) : List PV → Option (List t.den)
  | [.tl u l _ _] => castL u t l
  | [.lit (.slice none n _)] => bif Nat.beq n 0 then some [] else none
  | [.vals cs n _] => decMany f t.size n cs
  | _ => none
/-- Plain data out of their cells. -/
def dec : (t : Ty) → List PV → Option t.den
  | .int k, cs => decInt k cs
  | .bool, cs => decBool cs
  | .str, cs => decStr cs
  | .list t, cs => decList t (fun cs => dec t cs) cs
  | .prod a b, cs => match dec a (cs.take a.size) with
    | some x => match dec b (cs.drop a.size) with
      | some y => some (x, y)
      | none => none
    | none => none

/-- Conditions, what is yielded, the heap behind it, and the class. -/
abbrev TRes := Option (List Bool × PV × Heap × Nat)
def hTag (H : Heap) (r : Nat) : Option Tg := match hget H r with | some k => k.tag | none => none

def tIndexAddr (P : Program) (H : Heap) (t : TypeId) (x : PV) (i : Int) : TRes :=
  match P.underlying t with
  | some (.slice e) => match sizeT P e with
    | some n => match x with
      | .tl ty l _ _ => bif Nat.beq n ty.size then some ([idxOk i l.length], tpOf ty l i.toNat 0, H, 0) else none
      | .own r sz => match hTag H r with
        | some g => bif Nat.beq n sz && Nat.beq sz g.t.size then some ([idxOk i g.l.length], .op r i.toNat 0 sz, H, 1) else none
        | none => none
      | .win r lo m sz => bif Nat.beq n sz then some ([idxOk i m], .op r (lo + i.toNat) 0 sz, H, 0) else none
      | _ => none
    | none => none
  | some (.array n e) => match sizeT P e with
    | some sz => match x with
      | .tp ty l j off _ => some ([idxOk i n], tpOf ty l j (off + i.toNat * sz), H, 0)
      | _ => none
    | none => none
  | _ => none
def tFieldAddr (P : Program) (H : Heap) (s : TypeId) (f : Nat) (x : PV) : TRes :=
  match xField P s f with
  | some fd => match sizeT P fd.type with
    | some (_ + 1) => match x with
      | .tp t l i off _ => some ([], tpOf t l i (off + fd.offset), H, 0)
      | .op r i off sz => some ([], .op r i (off + fd.offset) sz, H, 0)
      | _ => none
    | _ => none
  | none => none
def tLoad (P : Program) (H : Heap) (T : TypeId) (a : PV) : TRes :=
  match a with
  | .tp t l i off _ => match xPart P T ((enc t (l.getD i t.dflt)).drop off) with
    | some v => some ([], v, H, 0)
    | none => none
  | .op r i off sz => match hTag H r with
    | some g => bif Nat.beq sz g.t.size then match xPart P T ((enc g.t (g.l.getD i g.t.dflt)).drop off) with
        | some v => some ([Nat.blt i g.l.length], v, H, 1)
        | none => none
      else none
    | none => none
  | _ => none
def tStore (P : Program) (H : Heap) (T : TypeId) (a v : PV) : TRes :=
  match a with
  | .op r i off sz => match hget H r with
    | some k => match k.tag with
      | some g => match cellsP v, sizeT P T with
        | some new, some n => bif Nat.beq new.length n && Nat.beq sz g.t.size && !k.frozen && Nat.ble (off + n) sz && new.all okCell then
            match dec g.t (splice (enc g.t (g.l.getD i g.t.dflt)) off new) with
            | some x => some ([Nat.blt i g.l.length], .lit undef, H.set r (some { k with cells := encAll g.t (g.l.set i x), tag := some ⟨g.t, g.l.set i x⟩ }), 2)
            | none => none
          else none
        | _, _ => none
      | none => none
    | none => none
  | _ => none
def tLen (P : Program) (H : Heap) (tys : Array TypeId) (x : PV) : TRes :=
  match tys.toList with
  | t :: _ => match P.underlying t with
    | some (.slice _) => match x with
      | .tl _ l _ _ => some ([], .lit (goInt l.length), H, 0)
      | .own r _ => match hTag H r with
        | some g => some ([], .lit (goInt g.l.length), H, 1)
        | none => none
      | .win _ _ n _ => some ([], .lit (goInt n), H, 0)
      | _ => none
    | _ => none
  | _ => none
/-- A bound of a slice expression: what it asks, and the number. -/
def tBnd (x : Option PV) (d : Nat) : Option (Bool × Nat) :=
  match x with
  | none => some (true, d)
  | some (.lit (.int _ i)) => some (!ltI i 0, i.toNat)
  | _ => none
def tSlice (P : Program) (H : Heap) (t : TypeId) (x : PV) (lo hi : Option PV) : TRes :=
  match P.underlying t with
  | some (.slice e) => match sizeT P e with
    | some n => match x with
      | .tl ty l _ _ => bif Nat.beq n ty.size then match tBnd lo 0, tBnd hi l.length with
          | some (b1, i), some (b2, j) => some ([b1, b2, Nat.ble i j, Nat.ble j l.length], tlOf ty ((l.drop i).take (j - i)) none, H, 0)
          | _, _ => none
        else none
      | .own r sz => match hTag H r with
        | some g => bif Nat.beq n sz then match tBnd lo 0, tBnd hi g.l.length with
            | some (b1, i), some (b2, j) => some ([b1, b2, Nat.ble i j, Nat.ble j g.l.length, Nat.blt i g.l.length], .win r i (j - i) sz, H, 1)
            | _, _ => none
          else none
        | none => none
      | .win r l0 m sz => bif Nat.beq n sz then match tBnd lo 0, tBnd hi m with
          | some (b1, i), some (b2, j) => some ([b1, b2, Nat.ble i j, Nat.ble j m, Nat.blt i m], .win r (l0 + i) (j - i) sz, H, 0)
          | _, _ => none
        else none
      | _ => none
    | none => none
  | _ => none
/-- What is appended, as plain data. -/
def tSource (H : Heap) (ty : Ty) (x : PV) : Option (List ty.den) :=
  match x with
  | .tl u l _ _ => castL u ty l
  | .own r _ => match hTag H r with
    | some g => castL g.t ty g.l
    | none => none
  | .lit (.slice none n _) => bif Nat.beq n 0 then some [] else none
  | .vals cs n _ => decMany (dec ty) ty.size n cs
  | .win r lo n sz => match hTag H r with
    | some g => match castL g.t ty g.l with
      | some l => bif Nat.beq sz ty.size then some ((l.drop lo).take n) else none
      | none => none
    | none => none
  | _ => none
def tGrow (H : Heap) (e : TypeId) (ty : Ty) (l : List ty.den) (cs : List Bool) : TRes :=
  some (cs, .own H.length ty.size, H ++ [some ⟨encAll ty l, e, true, false, some ⟨ty, l⟩⟩], 2)
/-- Elements from i on replaced. -/
def spl {α : Type} (l : List α) (i : Nat) (new : List α) : List α := l.take i ++ (new ++ l.drop (i + new.length))
def tAppend (P : Program) (H : Heap) (tys : Array TypeId) (s x : PV) : TRes :=
  match tys.toList with
  | [t, u] => match P.underlying u with
    | some (.int _) | none => none
    | some _ => match elemTy P t with
      | some (e, ty) => match P.info? e with
        | some i => match i.zero with
          | some z => bif Nat.ble i.bytes 65536 && Nat.beq z.cells.size i.size then match tSource H ty x with
            | some new => match s with
              | .lit (.slice none m c) => bif Nat.beq m 0 && Nat.beq c 0 then tGrow H e ty new [Nat.ble new.length 1048576] else none
              | .own r sz => match hget H r with
                | some k => match k.tag with
                  | some g => match castL g.t ty g.l with
                    | some l => bif Nat.beq sz ty.size && !k.frozen && Nat.beq k.ty e && k.grown then tGrow (H.set r none) e ty (l ++ new) [Nat.ble new.length 1048576, Nat.ble l.length 1048576] else none
                    | none => none
                  | none => none
                | none => none
              | .win r lo n sz => match hget H r with
                | some k => match k.tag with
                  | some g => match castL g.t ty g.l with
                    | some l => bif Nat.beq sz ty.size && !k.frozen && Nat.beq k.ty e then
                        some ([Nat.ble (lo + n + new.length) l.length], .win r lo (n + new.length) sz, H.set r (some { k with cells := encAll ty (spl l (lo + n) new), tag := some ⟨ty, spl l (lo + n) new⟩ }), 2) else none
                    | none => none
                  | none => none
                | none => none
              | .tl u l (some c) _ => match castL u ty l with
                | some l => bif Nat.beq c 0 then tGrow H e ty new [Nat.ble new.length 1048576] else
                    tGrow H e ty (l ++ new) [Nat.ble new.length 1048576, Nat.ble l.length 1048576, Nat.blt c (l.length + new.length)]
                | none => none
              | _ => none
            | none => none
            else none
          | none => none
        | none => none
      | none => none
  | _ => none
/-- The parts of a literal, without references to the heap; what they refer to is frozen. -/
def tParts (H : Heap) : List (Nat × PV) → Option (List (Nat × PV))
  | [] => some []
  | (i, p) :: r => match inlT H p with
    | some q => match tParts H r with
      | some qs => some ((i, q) :: qs)
      | none => none
    | none => none
where inlT (H : Heap) : PV → Option PV
  | .own r _ => match hget H r with
    | some k => match k.tag with
      | some g => bif k.frozen then some (tlOf g.t g.l none) else none
      | none => none
    | none => none
  | p => bif noRef p then some p else none
def owns : List (Nat × PV) → List Nat
  | [] => []
  | (_, .own r _) :: l => r :: owns l
  | _ :: l => owns l
def freezeOne (H : Heap) (r : Nat) : Heap := match hget H r with
  | some k => bif k.frozen then H else H.set r (some { k with frozen := true })
  | none => H
def freezeList : Heap → List Nat → Heap
  | H, [] => H
  | H, r :: rs => freezeList (freezeOne H r) rs
def tBuildSlice (P : Program) (F : Frm) (H : Heap) (t : TypeId) (len : Nat) (parts : List (Nat × Operand)) : TRes :=
  match elemTy P t with
  | some (e, ty) => match zeroT P e with
    | some z => bif Nat.ble (len * ty.size) 16777216 && Nat.ble 1 z.cells.size then
      match owns (parts.map fun p => (p.1, ev F p.2)) with
      | [] => match tParts [] (parts.map fun p => (p.1, ev F p.2)) with
        | some ps => match xFill (fun i => some (i * ty.size, ty.size)) (zeroRow z (len * ty.size)) ps with
          | some cs => match decMany (dec ty) ty.size len cs with
            | some l => some ([], tlOf ty l (some len), H, 0)
            | none => none
          | none => none
        | none => none
      | r :: rs => match freezeList H (r :: rs) with
        | H1 => match tParts H1 (parts.map fun p => (p.1, ev F p.2)) with
          | some ps => match xFill (fun i => some (i * ty.size, ty.size)) (zeroRow z (len * ty.size)) ps with
            | some cs => match decMany (dec ty) ty.size len cs with
              | some l => some ([], tlOf ty l (some len), H1, 2)
              | none => none
            | none => none
          | none => none
      else none
    | none => none
  | none => none
def tMakeSlice (P : Program) (H : Heap) (t : TypeId) (l c : PV) : TRes :=
  match elemTy P t, l, c with
  | some (e, ty), .lit (.int _ l), .lit (.int _ c) => match P.info? e with
    | some i => match i.zero with
      | some z => match dec ty (lits z.cells) with
        | some d => bif Nat.ble i.bytes 65536 && Nat.beq z.cells.size i.size then
            some ([!ltI l 0, !ltI c l, !ltI 1048576 c], .own H.length ty.size, H ++ [some ⟨encAll ty (List.replicate l.toNat d), e, true, false, some ⟨ty, List.replicate l.toNat d⟩⟩], 2)
          else none
        | none => none
      | none => none
    | none => none
  | _, _, _ => none

/-- Elements lo .. lo + n - 1 set to d. -/
def clr {α : Type} (l : List α) (lo n : Nat) (d : α) : List α := l.take lo ++ (List.replicate n d ++ l.drop (lo + n))
def tClear (P : Program) (H : Heap) (tys : Array TypeId) (x : PV) : TRes :=
  match tys.toList with
  | t :: _ => match elemTy P t with
    | some (e, _) => match zeroT P e with
      | some z => match x with
        | .win r lo n sz => match hget H r with
          | some k => match k.tag with
            | some g => match dec g.t (lits z.cells) with
              | some d => bif Nat.beq sz g.t.size && Nat.beq z.cells.size sz && !k.frozen && (lits z.cells).all okCell then
                  some ([Nat.ble (lo + n) g.l.length], .tuple [], H.set r (some { k with cells := encAll g.t (clr g.l lo n d), tag := some ⟨g.t, clr g.l lo n d⟩ }), 2) else none
              | none => none
            | none => none
          | none => none
        | _ => none
      | none => none
    | none => none
  | _ => none

/-- A slice that holds something is not nil. -/
def tNil (P : Program) (H : Heap) (t : TypeId) (op : BinOp) (x y : PV) : TRes :=
  match P.underlying t with
  | some (.slice _) => match y with
    | .lit (.slice none _ _) => match x with
      | .tl _ l _ _ => match op with
        | .eql => some ([Nat.blt 0 l.length], .lit (.bool false), H, 0)
        | .neq => some ([Nat.blt 0 l.length], .lit (.bool true), H, 0)
        | _ => none
      | .win _ _ _ _ => match op with
        | .eql => some ([], .lit (.bool false), H, 0)
        | .neq => some ([], .lit (.bool true), H, 0)
        | _ => none
      | _ => none
    | _ => none
  | _ => none
def isNil2 (x y : PV) : Bool := match x, y with
  | .tl .., .lit (.slice none _ _) => true
  | .win .., .lit (.slice none _ _) => true
  | _, _ => false
/-- Whether an operation is one on typed data (told by its operands alone). -/
def isT : PV → Bool
  | .tl .. | .own .. | .win .. => true
  | _ => false
def isTp : PV → Bool
  | .tp .. | .op .. => true
  | _ => false
def isBase : PV → Bool
  | .tl .. | .own .. | .win .. | .lit (.slice none _ _) => true
  | _ => false
def isConst : Operand → Bool
  | .const _ => true
  | _ => false
/-- Slices of slices: a given number of them is kept untyped. -/
def rowsT (P : Program) (t : TypeId) : Bool := match elemTy P t with
  | some (_, .list _) => true
  | _ => false
def typed (P : Program) (F : Frm) (o : Oper) : Bool :=
  match o.op with
  | .indexAddr _ x _ => isT (ev F x) || isTp (ev F x)
  | .fieldAddr _ x _ => isTp (ev F x)
  | .load _ a => isTp (ev F a)
  | .store _ a _ => isTp (ev F a)
  | .nilCheck x => isTp (ev F x)
  | .slice _ x _ _ none => isT (ev F x)
  | .buildSlice t _ _ => (elemTy P t).isSome
  | .makeSlice t l _ => (elemTy P t).isSome && !(isConst l && rowsT P t)
  | .binOp _ _ x y _ => isNil2 (ev F x) (ev F y)
  | .call c => match c.callee with
    | .builtin .len => isT (ev F (c.args.getD 0 (.const undef)))
    | .builtin .clear => isT (ev F (c.args.getD 0 (.const undef)))
    | .builtin .append => match c.args.toList, c.argTypes.toList with
      | [s, _], t :: _ => isBase (ev F s) && (elemTy P t).isSome
      | _, _ => false
    | _ => false
  | _ => false
def top (P : Program) (F : Frm) (H : Heap) (o : Oper) : TRes :=
  match o.op with
  | .indexAddr t x i => match ev F i with
    | .lit (.int _ i) => tIndexAddr P H t (ev F x) i
    | _ => none
  | .fieldAddr s x f => tFieldAddr P H s f (ev F x)
  | .load T a => tLoad P H T (ev F a)
  | .store T a v => tStore P H T (ev F a) (ev F v)
  | .nilCheck x => some ([], ev F x, H, 0)
  | .slice t x lo hi none => tSlice P H t (ev F x) (lo.map (ev F)) (hi.map (ev F))
  | .buildSlice t n parts => tBuildSlice P F H t n parts.toList
  | .makeSlice t l c => tMakeSlice P H t (ev F l) (ev F c)
  | .binOp op t x y _ => tNil P H t op (ev F x) (ev F y)
  | .call c => match c.callee with
    | .builtin .len => match c.args.toList with
      | [x] => tLen P H c.argTypes (ev F x)
      | _ => none
    | .builtin .append => match c.args.toList with
      | [s, x] => tAppend P H c.argTypes (ev F s) (ev F x)
      | _ => none
    | .builtin .clear => match c.args.toList with
      | [x] => tClear P H c.argTypes (ev F x)
      | _ => none
    | _ => none
  | _ => none
def allB : List Bool → Bool
  | [] => true
  | b :: r => bif b then allB r else false
/-- What an operation does. -/
def opx (P : Program) (cl : Callee) (F : Frm) (H : Heap) (o : Oper) : Option (PV × Heap × Nat) :=
  bif typed P F o then match top P F H o with
    | some (cs, v, H', c) => bif allB cs then some (v, H', c) else none
    | none => none
  else opu P cl F H o
end Go.PM
