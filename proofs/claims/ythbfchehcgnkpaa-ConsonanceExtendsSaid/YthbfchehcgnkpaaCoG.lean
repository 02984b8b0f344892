/- The functions of chapter 40: binary search, fits, lists compared, closure, by open runs (printed by wip/tools/dc.py). -/
import Derived.Test.YthbfchehcgnkpaaCoF
import Derived.Test.YthbfchehcgnkpaaPnW
set_option linter.unusedSimpArgs false
set_option linter.unusedVariables false
namespace Go.PM
open Go Go.RowKit Go.Proofs
set_option maxRecDepth 100000
/-! slices.BinarySearchFunc[[]schisma/api.Row,schisma/api.Row,schisma/api.Row] -/
abbrev sh67s2f36_0 : List (Nat × Kd) := [(0, .list (.list (.int .i64))), (1, .list (.int .i64)), (2, .fn 36), (8, .int .i64), (9, .int .i64), (10, .int .i64)]
abbrev ex67s2f36_0 : List (Ex × List (Nat × Kd)) := [(.exit 0, [(0, .list (.list (.int .i64))), (1, .list (.int .i64)), (2, .fn 36), (8, .int .i64), (9, .int .i64)])]
def step67s2f36_0 (x : Shape.den sh67s2f36_0) : Option (Shape.den sh67s2f36_0 ⊕ exDen ex67s2f36_0) := match x with
  | (v0, v1, v2, v8, v9, v10, ()) =>
    bif ltI v9 v10 then
      bif idxOk (IntKind.wrap .i64 (Int.fdiv (IntKind.wrap .u64 (wrapF .i64 (v9 + v10))) (2 ^ (min 1 (IntKind.bits .u64))))) v0.length then askO (f36 ((v0.getD ((IntKind.wrap .i64 (Int.fdiv (IntKind.wrap .u64 (wrapF .i64 (v9 + v10))) (2 ^ (min 1 (IntKind.bits .u64))))).toNat) []), v1, ())) fun y2 =>
      bif ltI y2.1 0 then
        some (.inl (v0, v1, (), v8, (wrapF .i64 ((IntKind.wrap .i64 (Int.fdiv (IntKind.wrap .u64 (wrapF .i64 (v9 + v10))) (2 ^ (min 1 (IntKind.bits .u64))))) + 1)), v10, ()))
      else some (.inl (v0, v1, (), v8, v9, (IntKind.wrap .i64 (Int.fdiv (IntKind.wrap .u64 (wrapF .i64 (v9 + v10))) (2 ^ (min 1 (IntKind.bits .u64))))), ())) else none
    else some (.inr ((v0, v1, (), v8, v9, ())))
def loop67s2f36_0 (x : Shape.den sh67s2f36_0) : Option (exDen ex67s2f36_0) := loopN step67s2f36_0 (2 ^ 64) x
def f67s2f36 (x : denK [.list (.list (.int .i64)), .list (.int .i64), .fn 36]) : Option (denK [.int .i64, .bool]) := match x with
  | (v0, v1, v2, ()) =>
    askO (loop67s2f36_0 (v0, v1, (), (v0.length : Int), 0, (v0.length : Int), ())) fun z3 =>
    bif ltI z3.2.2.2.2.1 z3.2.2.2.1 then
      bif idxOk z3.2.2.2.2.1 z3.1.length then askO (f36 ((z3.1.getD z3.2.2.2.2.1.toNat []), z3.2.1, ())) fun y4 =>
      some (z3.2.2.2.2.1, eqI y4.1 0, ()) else none
    else some (z3.2.2.2.2.1, false, ())
noncomputable def c67s2f36 : Code := bodyOf Try.f67
abbrev E67s2f36 : Env := envOf [e36]
theorem E67s2f36_ok : EnvOK Try.prog E67s2f36 := env_ok ⟨e36_ok, trivial⟩
noncomputable def a67s2f36_0 : Code := loopAt c67s2f36 0
def lt67s2f36 (id : Nat) : Option LSpec := bif Nat.beq id 3 then some ⟨sh67s2f36_0, ex67s2f36_0, loop67s2f36_0⟩ else none
theorem round67s2f36_0 : ∀ x, roundK Try.prog E67s2f36 49 (keepOf Try.f67) lt67s2f36 a67s2f36_0 sh67s2f36_0 ex67s2f36_0 x = step67s2f36_0 x := by
  rintro ⟨v0, v1, v2, v8, v9, v10, ⟨⟩⟩
  kernel_rfl
theorem in67s2f36_0 : loopsOf a67s2f36_0 = [] := by kernel_rfl
theorem first67s2f36_0 : firstRegion a67s2f36_0 = 3 := by kernel_rfl
theorem spec67s2f36_0 : SpecOK Try.prog 49 a67s2f36_0 ⟨sh67s2f36_0, ex67s2f36_0, loop67s2f36_0⟩ := by
  exact loop_ok E67s2f36_ok.callee progOK.mixed _ (loops_ok in67s2f36_0 trivial) round67s2f36_0
theorem loops67s2f36 : loopsOf c67s2f36 = [a67s2f36_0] := by kernel_rfl
theorem body67s2f36 : ∀ x, bodyK Try.prog E67s2f36 Try.f67 (keepOf Try.f67) lt67s2f36 c67s2f36 [.list (.list (.int .i64)), .list (.int .i64), .fn 36] [.int .i64, .bool] x = f67s2f36 x := by
  rintro ⟨v0, v1, v2, ⟨⟩⟩
  kernel_rfl
theorem fn67s2f36 : FnOK Try.prog 67 [.list (.list (.int .i64)), .list (.int .i64), .fn 36] [.int .i64, .bool] f67s2f36 := by
  exact fun_ok progOK E67s2f36_ok Try.func67 (c := c67s2f36) (by kernel_rfl) (keep := keepOf Try.f67) (lt := lt67s2f36) (loops_ok loops67s2f36 ⟨spec_of first67s2f36_0 rfl spec67s2f36_0, trivial⟩) body67s2f36
abbrev e67s2f36 : Ent := ⟨67, [.list (.list (.int .i64)), .list (.int .i64), .fn 36], [.int .i64, .bool], f67s2f36⟩
theorem e67s2f36_ok : Ent.OK Try.prog e67s2f36 := fn67s2f36

/-! schisma/consonance.fits$1 -/
def f66s1plli2pli (x : denK [.list (.int .i64), .ptr (.list (.list (.int .i64))), .ptr (.list (.int .i64))]) : Option (denK [.bool]) := match x with
  | (v0, v1, v2, ()) =>
    askO (f34 (v2, v0, (-1), ())) fun y1 =>
    askO (f67s2f36 (v1, y1.1, (), ())) fun y2 =>
    bif y2.2.1 then
      some (false, ())
    else some (true, ())
noncomputable def c66s1plli2pli : Code := bodyOf Try.f66
abbrev E66s1plli2pli : Env := envOf [e34, e67s2f36]
theorem E66s1plli2pli_ok : EnvOK Try.prog E66s1plli2pli := env_ok ⟨e34_ok, e67s2f36_ok, trivial⟩
def lt66s1plli2pli (id : Nat) : Option LSpec := none
theorem loops66s1plli2pli : loopsOf c66s1plli2pli = [] := by kernel_rfl
theorem body66s1plli2pli : ∀ x, bodyK Try.prog E66s1plli2pli Try.f66 (keepOf Try.f66) lt66s1plli2pli c66s1plli2pli [.list (.int .i64), .ptr (.list (.list (.int .i64))), .ptr (.list (.int .i64))] [.bool] x = f66s1plli2pli x := by
  rintro ⟨v0, v1, v2, ⟨⟩⟩
  kernel_rfl
theorem fn66s1plli2pli : FnOK Try.prog 66 [.list (.int .i64), .ptr (.list (.list (.int .i64))), .ptr (.list (.int .i64))] [.bool] f66s1plli2pli := by
  exact fun_ok progOK E66s1plli2pli_ok Try.func66 (c := c66s1plli2pli) (by kernel_rfl) (keep := keepOf Try.f66) (lt := lt66s1plli2pli) (loops_ok loops66s1plli2pli trivial) body66s1plli2pli
abbrev e66s1plli2pli : Ent := ⟨66, [.list (.int .i64), .ptr (.list (.list (.int .i64))), .ptr (.list (.int .i64))], [.bool], f66s1plli2pli⟩
theorem e66s1plli2pli_ok : Ent.OK Try.prog e66s1plli2pli := fn66s1plli2pli

/-! slices.IndexFunc[[]schisma/api.Row,schisma/api.Row] -/
abbrev sh65s1c66llili_0 : List (Nat × Kd) := [(0, .list (.list (.int .i64))), (1, .clo 66 [(.list (.list (.int .i64))), (.list (.int .i64))]), (7, .int .i64), (8, .int .i64)]
abbrev ex65s1c66llili_0 : List (Ex × List (Nat × Kd)) := [(.ret, [(4, .int .i64)]), (.exit 0, [])]
def step65s1c66llili_0 (x : Shape.den sh65s1c66llili_0) : Option (Shape.den sh65s1c66llili_0 ⊕ exDen ex65s1c66llili_0) := match x with
  | (v0, v1, v7, v8, ()) =>
    bif ltI v8 v7 then
      bif idxOk v8 v0.length then askO (f66s1plli2pli ((v0.getD v8.toNat []), v1.1, v1.2.1, ())) fun y2 =>
      bif y2.1 then
        some (.inr (.inl (v8, ())))
      else some (.inl (v0, (v1.1, v1.2.1, ()), v7, (wrapF .i64 (v8 + 1)), ())) else none
    else some (.inr (.inr ((()))))
def loop65s1c66llili_0 (x : Shape.den sh65s1c66llili_0) : Option (exDen ex65s1c66llili_0) := loopN step65s1c66llili_0 (2 ^ 64) x
def f65s1c66llili (x : denK [.list (.list (.int .i64)), .clo 66 [(.list (.list (.int .i64))), (.list (.int .i64))]]) : Option (denK [.int .i64]) := match x with
  | (v0, v1, ()) =>
    askO (loop65s1c66llili_0 (v0, (v1.1, v1.2.1, ()), (v0.length : Int), 0, ())) fun z3 =>
    onSum z3 (fun a4 => some (a4.1, ())) fun b5 =>
    some ((-1), ())
noncomputable def c65s1c66llili : Code := bodyOf Try.f65
abbrev E65s1c66llili : Env := envOf [e66s1plli2pli]
theorem E65s1c66llili_ok : EnvOK Try.prog E65s1c66llili := env_ok ⟨e66s1plli2pli_ok, trivial⟩
noncomputable def a65s1c66llili_0 : Code := loopAt c65s1c66llili 0
def lt65s1c66llili (id : Nat) : Option LSpec := bif Nat.beq id 2 then some ⟨sh65s1c66llili_0, ex65s1c66llili_0, loop65s1c66llili_0⟩ else none
theorem round65s1c66llili_0 : ∀ x, roundK Try.prog E65s1c66llili 19 (keepOf Try.f65) lt65s1c66llili a65s1c66llili_0 sh65s1c66llili_0 ex65s1c66llili_0 x = step65s1c66llili_0 x := by
  rintro ⟨v0, v1, v7, v8, ⟨⟩⟩
  kernel_rfl
theorem in65s1c66llili_0 : loopsOf a65s1c66llili_0 = [] := by kernel_rfl
theorem first65s1c66llili_0 : firstRegion a65s1c66llili_0 = 2 := by kernel_rfl
theorem spec65s1c66llili_0 : SpecOK Try.prog 19 a65s1c66llili_0 ⟨sh65s1c66llili_0, ex65s1c66llili_0, loop65s1c66llili_0⟩ := by
  exact loop_ok E65s1c66llili_ok.callee progOK.mixed _ (loops_ok in65s1c66llili_0 trivial) round65s1c66llili_0
theorem loops65s1c66llili : loopsOf c65s1c66llili = [a65s1c66llili_0] := by kernel_rfl
theorem body65s1c66llili : ∀ x, bodyK Try.prog E65s1c66llili Try.f65 (keepOf Try.f65) lt65s1c66llili c65s1c66llili [.list (.list (.int .i64)), .clo 66 [(.list (.list (.int .i64))), (.list (.int .i64))]] [.int .i64] x = f65s1c66llili x := by
  rintro ⟨v0, v1, ⟨⟩⟩
  kernel_rfl
theorem fn65s1c66llili : FnOK Try.prog 65 [.list (.list (.int .i64)), .clo 66 [(.list (.list (.int .i64))), (.list (.int .i64))]] [.int .i64] f65s1c66llili := by
  exact fun_ok progOK E65s1c66llili_ok Try.func65 (c := c65s1c66llili) (by kernel_rfl) (keep := keepOf Try.f65) (lt := lt65s1c66llili) (loops_ok loops65s1c66llili ⟨spec_of first65s1c66llili_0 rfl spec65s1c66llili_0, trivial⟩) body65s1c66llili
abbrev e65s1c66llili : Ent := ⟨65, [.list (.list (.int .i64)), .clo 66 [(.list (.list (.int .i64))), (.list (.int .i64))]], [.int .i64], f65s1c66llili⟩
theorem e65s1c66llili_ok : Ent.OK Try.prog e65s1c66llili := fn65s1c66llili

/-! slices.ContainsFunc[[]schisma/api.Row,schisma/api.Row] -/
def f43s1c66llili (x : denK [.list (.list (.int .i64)), .clo 66 [(.list (.list (.int .i64))), (.list (.int .i64))]]) : Option (denK [.bool]) := match x with
  | (v0, v1, ()) =>
    askO (f65s1c66llili (v0, (v1.1, v1.2.1, ()), ())) fun y1 =>
    some (!(ltI y1.1 0), ())
noncomputable def c43s1c66llili : Code := bodyOf Try.f43
abbrev E43s1c66llili : Env := envOf [e65s1c66llili]
theorem E43s1c66llili_ok : EnvOK Try.prog E43s1c66llili := env_ok ⟨e65s1c66llili_ok, trivial⟩
def lt43s1c66llili (id : Nat) : Option LSpec := none
theorem loops43s1c66llili : loopsOf c43s1c66llili = [] := by kernel_rfl
theorem body43s1c66llili : ∀ x, bodyK Try.prog E43s1c66llili Try.f43 (keepOf Try.f43) lt43s1c66llili c43s1c66llili [.list (.list (.int .i64)), .clo 66 [(.list (.list (.int .i64))), (.list (.int .i64))]] [.bool] x = f43s1c66llili x := by
  rintro ⟨v0, v1, ⟨⟩⟩
  kernel_rfl
theorem fn43s1c66llili : FnOK Try.prog 43 [.list (.list (.int .i64)), .clo 66 [(.list (.list (.int .i64))), (.list (.int .i64))]] [.bool] f43s1c66llili := by
  exact fun_ok progOK E43s1c66llili_ok Try.func43 (c := c43s1c66llili) (by kernel_rfl) (keep := keepOf Try.f43) (lt := lt43s1c66llili) (loops_ok loops43s1c66llili trivial) body43s1c66llili
abbrev e43s1c66llili : Ent := ⟨43, [.list (.list (.int .i64)), .clo 66 [(.list (.list (.int .i64))), (.list (.int .i64))]], [.bool], f43s1c66llili⟩
theorem e43s1c66llili_ok : Ent.OK Try.prog e43s1c66llili := fn43s1c66llili

/-! schisma/consonance.fits -/
def f45 (x : denK [.list (.list (.int .i64)), .list (.list (.int .i64)), .list (.int .i64)]) : Option (denK [.bool]) := match x with
  | (v0, v1, v2, ()) =>
    askO (f43s1c66llili (v1, (v0, v2, ()), ())) fun y1 =>
    bif y1.1 then
      some (false, ())
    else some (true, ())
noncomputable def c45 : Code := bodyOf Try.f45
abbrev E45 : Env := envOf [e43s1c66llili]
theorem E45_ok : EnvOK Try.prog E45 := env_ok ⟨e43s1c66llili_ok, trivial⟩
def lt45 (id : Nat) : Option LSpec := none
theorem loops45 : loopsOf c45 = [] := by kernel_rfl
theorem body45 : ∀ x, bodyK Try.prog E45 Try.f45 (keepOf Try.f45) lt45 c45 [.list (.list (.int .i64)), .list (.list (.int .i64)), .list (.int .i64)] [.bool] x = f45 x := by
  rintro ⟨v0, v1, v2, ⟨⟩⟩
  kernel_rfl
theorem fn45 : FnOK Try.prog 45 [.list (.list (.int .i64)), .list (.list (.int .i64)), .list (.int .i64)] [.bool] f45 := by
  exact fun_ok progOK E45_ok Try.func45 (c := c45) (by kernel_rfl) (keep := keepOf Try.f45) (lt := lt45) (loops_ok loops45 trivial) body45
abbrev e45 : Ent := ⟨45, [.list (.list (.int .i64)), .list (.list (.int .i64)), .list (.int .i64)], [.bool], f45⟩
theorem e45_ok : Ent.OK Try.prog e45 := fn45

/-! slices.EqualFunc[schisma/consonance.Chord,schisma/consonance.Chord,schisma/api.Row,schisma/api.Row] -/
abbrev sh54s2f38_0 : List (Nat × Kd) := [(1, .list (.list (.int .i64))), (2, .fn 38), (15, .list (.list (.int .i64))), (16, .int .i64), (17, .int .i64)]
abbrev ex54s2f38_0 : List (Ex × List (Nat × Kd)) := [(.ret, [(6, .bool)]), (.exit 0, [])]
def step54s2f38_0 (x : Shape.den sh54s2f38_0) : Option (Shape.den sh54s2f38_0 ⊕ exDen ex54s2f38_0) := match x with
  | (v1, v2, v15, v16, v17, ()) =>
    bif ltI v17 v16 then
      bif idxOk v17 v15.length then bif idxOk v17 v1.length then askO (f38 ((v15.getD v17.toNat []), (v1.getD v17.toNat []), ())) fun y2 =>
      bif y2.1 then
        some (.inl (v1, (), v15, v16, (wrapF .i64 (v17 + 1)), ()))
      else some (.inr (.inl (false, ()))) else none else none
    else some (.inr (.inr ((()))))
def loop54s2f38_0 (x : Shape.den sh54s2f38_0) : Option (exDen ex54s2f38_0) := loopN step54s2f38_0 (2 ^ 64) x
def f54s2f38 (x : denK [.list (.list (.int .i64)), .list (.list (.int .i64)), .fn 38]) : Option (denK [.bool]) := match x with
  | (v0, v1, v2, ()) =>
    bif !(eqI (v0.length : Int) (v1.length : Int)) then
      some (false, ())
    else askO (loop54s2f38_0 (v1, (), v0, (v0.length : Int), 0, ())) fun z3 =>
    onSum z3 (fun a4 => some (a4.1, ())) fun b5 =>
    some (true, ())
noncomputable def c54s2f38 : Code := bodyOf Try.f54
abbrev E54s2f38 : Env := envOf [e38]
theorem E54s2f38_ok : EnvOK Try.prog E54s2f38 := env_ok ⟨e38_ok, trivial⟩
noncomputable def a54s2f38_0 : Code := loopAt c54s2f38 0
def lt54s2f38 (id : Nat) : Option LSpec := bif Nat.beq id 4 then some ⟨sh54s2f38_0, ex54s2f38_0, loop54s2f38_0⟩ else none
theorem round54s2f38_0 : ∀ x, roundK Try.prog E54s2f38 32 (keepOf Try.f54) lt54s2f38 a54s2f38_0 sh54s2f38_0 ex54s2f38_0 x = step54s2f38_0 x := by
  rintro ⟨v1, v2, v15, v16, v17, ⟨⟩⟩
  kernel_rfl
theorem in54s2f38_0 : loopsOf a54s2f38_0 = [] := by kernel_rfl
theorem first54s2f38_0 : firstRegion a54s2f38_0 = 4 := by kernel_rfl
theorem spec54s2f38_0 : SpecOK Try.prog 32 a54s2f38_0 ⟨sh54s2f38_0, ex54s2f38_0, loop54s2f38_0⟩ := by
  exact loop_ok E54s2f38_ok.callee progOK.mixed _ (loops_ok in54s2f38_0 trivial) round54s2f38_0
theorem loops54s2f38 : loopsOf c54s2f38 = [a54s2f38_0] := by kernel_rfl
theorem body54s2f38 : ∀ x, bodyK Try.prog E54s2f38 Try.f54 (keepOf Try.f54) lt54s2f38 c54s2f38 [.list (.list (.int .i64)), .list (.list (.int .i64)), .fn 38] [.bool] x = f54s2f38 x := by
  rintro ⟨v0, v1, v2, ⟨⟩⟩
  kernel_rfl
theorem fn54s2f38 : FnOK Try.prog 54 [.list (.list (.int .i64)), .list (.list (.int .i64)), .fn 38] [.bool] f54s2f38 := by
  exact fun_ok progOK E54s2f38_ok Try.func54 (c := c54s2f38) (by kernel_rfl) (keep := keepOf Try.f54) (lt := lt54s2f38) (loops_ok loops54s2f38 ⟨spec_of first54s2f38_0 rfl spec54s2f38_0, trivial⟩) body54s2f38
abbrev e54s2f38 : Ent := ⟨54, [.list (.list (.int .i64)), .list (.list (.int .i64)), .fn 38], [.bool], f54s2f38⟩
theorem e54s2f38_ok : Ent.OK Try.prog e54s2f38 := fn54s2f38

/-! schisma/consonance.Extend$1 -/
def f53 (x : denK [.list (.list (.int .i64)), .list (.list (.int .i64))]) : Option (denK [.bool]) := match x with
  | (v0, v1, ()) =>
    askO (f54s2f38 (v0, v1, (), ())) fun y1 =>
    some (y1.1, ())
noncomputable def c53 : Code := bodyOf Try.f53
abbrev E53 : Env := envOf [e54s2f38]
theorem E53_ok : EnvOK Try.prog E53 := env_ok ⟨e54s2f38_ok, trivial⟩
def lt53 (id : Nat) : Option LSpec := none
theorem loops53 : loopsOf c53 = [] := by kernel_rfl
theorem body53 : ∀ x, bodyK Try.prog E53 Try.f53 (keepOf Try.f53) lt53 c53 [.list (.list (.int .i64)), .list (.list (.int .i64))] [.bool] x = f53 x := by
  rintro ⟨v0, v1, ⟨⟩⟩
  kernel_rfl
theorem fn53 : FnOK Try.prog 53 [.list (.list (.int .i64)), .list (.list (.int .i64))] [.bool] f53 := by
  exact fun_ok progOK E53_ok Try.func53 (c := c53) (by kernel_rfl) (keep := keepOf Try.f53) (lt := lt53) (loops_ok loops53 trivial) body53
abbrev e53 : Ent := ⟨53, [.list (.list (.int .i64)), .list (.list (.int .i64))], [.bool], f53⟩
theorem e53_ok : Ent.OK Try.prog e53 := fn53

/-! slices.EqualFunc[[]schisma/consonance.Chord,[]schisma/consonance.Chord,schisma/consonance.Chord,schisma/consonance.Chord] -/
abbrev sh52s2f53_0 : List (Nat × Kd) := [(1, .list (.list (.list (.int .i64)))), (2, .fn 53), (15, .list (.list (.list (.int .i64)))), (16, .int .i64), (17, .int .i64)]
abbrev ex52s2f53_0 : List (Ex × List (Nat × Kd)) := [(.ret, [(6, .bool)]), (.exit 0, [])]
def step52s2f53_0 (x : Shape.den sh52s2f53_0) : Option (Shape.den sh52s2f53_0 ⊕ exDen ex52s2f53_0) := match x with
  | (v1, v2, v15, v16, v17, ()) =>
    bif ltI v17 v16 then
      bif idxOk v17 v15.length then bif idxOk v17 v1.length then askO (f53 ((v15.getD v17.toNat []), (v1.getD v17.toNat []), ())) fun y2 =>
      bif y2.1 then
        some (.inl (v1, (), v15, v16, (wrapF .i64 (v17 + 1)), ()))
      else some (.inr (.inl (false, ()))) else none else none
    else some (.inr (.inr ((()))))
def loop52s2f53_0 (x : Shape.den sh52s2f53_0) : Option (exDen ex52s2f53_0) := loopN step52s2f53_0 (2 ^ 64) x
def f52s2f53 (x : denK [.list (.list (.list (.int .i64))), .list (.list (.list (.int .i64))), .fn 53]) : Option (denK [.bool]) := match x with
  | (v0, v1, v2, ()) =>
    bif !(eqI (v0.length : Int) (v1.length : Int)) then
      some (false, ())
    else askO (loop52s2f53_0 (v1, (), v0, (v0.length : Int), 0, ())) fun z3 =>
    onSum z3 (fun a4 => some (a4.1, ())) fun b5 =>
    some (true, ())
noncomputable def c52s2f53 : Code := bodyOf Try.f52
abbrev E52s2f53 : Env := envOf [e53]
theorem E52s2f53_ok : EnvOK Try.prog E52s2f53 := env_ok ⟨e53_ok, trivial⟩
noncomputable def a52s2f53_0 : Code := loopAt c52s2f53 0
def lt52s2f53 (id : Nat) : Option LSpec := bif Nat.beq id 4 then some ⟨sh52s2f53_0, ex52s2f53_0, loop52s2f53_0⟩ else none
theorem round52s2f53_0 : ∀ x, roundK Try.prog E52s2f53 32 (keepOf Try.f52) lt52s2f53 a52s2f53_0 sh52s2f53_0 ex52s2f53_0 x = step52s2f53_0 x := by
  rintro ⟨v1, v2, v15, v16, v17, ⟨⟩⟩
  kernel_rfl
theorem in52s2f53_0 : loopsOf a52s2f53_0 = [] := by kernel_rfl
theorem first52s2f53_0 : firstRegion a52s2f53_0 = 4 := by kernel_rfl
theorem spec52s2f53_0 : SpecOK Try.prog 32 a52s2f53_0 ⟨sh52s2f53_0, ex52s2f53_0, loop52s2f53_0⟩ := by
  exact loop_ok E52s2f53_ok.callee progOK.mixed _ (loops_ok in52s2f53_0 trivial) round52s2f53_0
theorem loops52s2f53 : loopsOf c52s2f53 = [a52s2f53_0] := by kernel_rfl
theorem body52s2f53 : ∀ x, bodyK Try.prog E52s2f53 Try.f52 (keepOf Try.f52) lt52s2f53 c52s2f53 [.list (.list (.list (.int .i64))), .list (.list (.list (.int .i64))), .fn 53] [.bool] x = f52s2f53 x := by
  rintro ⟨v0, v1, v2, ⟨⟩⟩
  kernel_rfl
theorem fn52s2f53 : FnOK Try.prog 52 [.list (.list (.list (.int .i64))), .list (.list (.list (.int .i64))), .fn 53] [.bool] f52s2f53 := by
  exact fun_ok progOK E52s2f53_ok Try.func52 (c := c52s2f53) (by kernel_rfl) (keep := keepOf Try.f52) (lt := lt52s2f53) (loops_ok loops52s2f53 ⟨spec_of first52s2f53_0 rfl spec52s2f53_0, trivial⟩) body52s2f53
abbrev e52s2f53 : Ent := ⟨52, [.list (.list (.list (.int .i64))), .list (.list (.list (.int .i64))), .fn 53], [.bool], f52s2f53⟩
theorem e52s2f53_ok : Ent.OK Try.prog e52s2f53 := fn52s2f53

/-! slices.CompactFunc[[]schisma/api.Row,schisma/api.Row] -/
abbrev sh37s1f38t_0 : List (Nat × Kd) := [(0, .own 48 (.list (.int .i64))), (1, .fn 38), (5, .int .i64), (6, .win 0 1), (7, .int .i64)]
abbrev ex37s1f38t_0 : List (Ex × List (Nat × Kd)) := [(.exit 2, [(0, .own 48 (.list (.int .i64))), (5, .int .i64)])]
def step37s1f38t_0 (x : Shape.den sh37s1f38t_0) : Option (Shape.den sh37s1f38t_0 ⊕ exDen ex37s1f38t_0) := match x with
  | (v0, v1, v5, v6, v7, ()) =>
    bif ltI v7 ((v6.2 : Nat) : Int) then
      bif idxOk v7 v6.2 then bif Nat.blt (v6.1 + v7.toNat) v0.length then bif idxOk (wrapF .i64 (v7 - 1)) v6.2 then bif Nat.blt (v6.1 + (wrapF .i64 (v7 - 1)).toNat) v0.length then askO (f38 ((v0.getD (v6.1 + v7.toNat) []), (v0.getD (v6.1 + (wrapF .i64 (v7 - 1)).toNat) []), ())) fun y3 =>
      bif y3.1 then
        some (.inl (v0, (), v5, (v6.1, v6.2), (wrapF .i64 (v7 + 1)), ()))
      else bif idxOk v7 v6.2 then bif Nat.blt (v6.1 + v7.toNat) v0.length then bif idxOk v5 v0.length then bif Nat.blt v5.toNat v0.length then some (.inl ((v0.set v5.toNat (v0.getD (v6.1 + v7.toNat) [])), (), (wrapF .i64 (v5 + 1)), (v6.1, v6.2), (wrapF .i64 (v7 + 1)), ())) else none else none else none else none else none else none else none else none
    else some (.inr ((v0, v5, ())))
def loop37s1f38t_0 (x : Shape.den sh37s1f38t_0) : Option (exDen ex37s1f38t_0) := loopN step37s1f38t_0 (2 ^ 64) x
abbrev sh37s1f38t_1 : List (Nat × Kd) := [(0, .own 48 (.list (.int .i64))), (1, .fn 38), (5, .int .i64)]
abbrev ex37s1f38t_1 : List (Ex × List (Nat × Kd)) := [(.ret, [(0, .own 48 (.list (.int .i64))), (4, .win 0 1)]), (.exit 0, [(0, .own 48 (.list (.int .i64)))])]
def step37s1f38t_1 (x : Shape.den sh37s1f38t_1) : Option (Shape.den sh37s1f38t_1 ⊕ exDen ex37s1f38t_1) := match x with
  | (v0, v1, v5, ()) =>
    bif ltI v5 (v0.length : Int) then
      bif idxOk v5 v0.length then bif Nat.blt v5.toNat v0.length then bif idxOk (wrapF .i64 (v5 - 1)) v0.length then bif Nat.blt ((wrapF .i64 (v5 - 1)).toNat) v0.length then askO (f38 ((v0.getD v5.toNat []), (v0.getD ((wrapF .i64 (v5 - 1)).toNat) []), ())) fun y5 =>
      bif y5.1 then
        bif !(ltI v5 0) then bif Nat.ble v5.toNat v0.length then bif Nat.ble v0.length v0.length then bif Nat.blt v5.toNat v0.length then askO (loop37s1f38t_0 (v0, (), v5, (v5.toNat, (v0.length - v5.toNat)), 1, ())) fun z6 =>
        bif !(ltI z6.2.1 0) then bif Nat.ble z6.2.1.toNat z6.1.length then bif Nat.ble z6.1.length z6.1.length then bif Nat.blt z6.2.1.toNat z6.1.length then bif Nat.ble (z6.2.1.toNat + (z6.1.length - z6.2.1.toNat)) z6.1.length then bif !(ltI z6.2.1 0) then bif Nat.ble 0 z6.2.1.toNat then bif Nat.ble z6.2.1.toNat ((clr z6.1 z6.2.1.toNat (z6.1.length - z6.2.1.toNat) []).length) then bif Nat.blt 0 ((clr z6.1 z6.2.1.toNat (z6.1.length - z6.2.1.toNat) []).length) then some (.inr (.inl ((clr z6.1 z6.2.1.toNat (z6.1.length - z6.2.1.toNat) []), (0, (z6.2.1.toNat - 0)), ()))) else none else none else none else none else none else none else none else none else none else none else none else none else none
      else some (.inl (v0, (), (wrapF .i64 (v5 + 1)), ())) else none else none else none else none
    else some (.inr (.inr ((v0, ()))))
def loop37s1f38t_1 (x : Shape.den sh37s1f38t_1) : Option (exDen ex37s1f38t_1) := loopN step37s1f38t_1 (2 ^ 64) x
def f37s1f38t (v0 : List (List Int)) (x : denK [.fn 38]) : Option (denK [.list (.list (.int .i64))]) := match x with
  | (v1, ()) =>
    bif ltI (v0.length : Int) 2 then
      some (v0, ())
    else askO (loop37s1f38t_1 (v0, (), 1, ())) fun z7 =>
    onSum z7 (fun a8 => some (((a8.1.drop a8.2.1.1).take a8.2.1.2), ())) fun b9 =>
    some (b9.1, ())
noncomputable def c37s1f38t : Code := bodyOf Try.f37
abbrev E37s1f38t : Env := envOf [e38]
theorem E37s1f38t_ok : EnvOK Try.prog E37s1f38t := env_ok ⟨e38_ok, trivial⟩
noncomputable def a37s1f38t_1 : Code := loopAt c37s1f38t 0
noncomputable def a37s1f38t_0 : Code := loopAt a37s1f38t_1 0
def lt37s1f38t (id : Nat) : Option LSpec := bif Nat.beq id 9 then some ⟨sh37s1f38t_0, ex37s1f38t_0, loop37s1f38t_0⟩ else bif Nat.beq id 4 then some ⟨sh37s1f38t_1, ex37s1f38t_1, loop37s1f38t_1⟩ else none
theorem round37s1f38t_0 : ∀ x, roundK Try.prog E37s1f38t 66 (keepOf Try.f37) lt37s1f38t a37s1f38t_0 sh37s1f38t_0 ex37s1f38t_0 x = step37s1f38t_0 x := by
  rintro ⟨v0, v1, v5, v6, v7, ⟨⟩⟩
  kernel_rfl
theorem in37s1f38t_0 : loopsOf a37s1f38t_0 = [] := by kernel_rfl
theorem first37s1f38t_0 : firstRegion a37s1f38t_0 = 9 := by kernel_rfl
theorem spec37s1f38t_0 : SpecOK Try.prog 66 a37s1f38t_0 ⟨sh37s1f38t_0, ex37s1f38t_0, loop37s1f38t_0⟩ := by
  exact loop_ok E37s1f38t_ok.callee progOK.mixed _ (loops_ok in37s1f38t_0 trivial) round37s1f38t_0
theorem round37s1f38t_1 : ∀ x, roundK Try.prog E37s1f38t 66 (keepOf Try.f37) lt37s1f38t a37s1f38t_1 sh37s1f38t_1 ex37s1f38t_1 x = step37s1f38t_1 x := by
  rintro ⟨v0, v1, v5, ⟨⟩⟩
  kernel_rfl
theorem in37s1f38t_1 : loopsOf a37s1f38t_1 = [a37s1f38t_0] := by kernel_rfl
theorem first37s1f38t_1 : firstRegion a37s1f38t_1 = 4 := by kernel_rfl
theorem spec37s1f38t_1 : SpecOK Try.prog 66 a37s1f38t_1 ⟨sh37s1f38t_1, ex37s1f38t_1, loop37s1f38t_1⟩ := by
  exact loop_ok E37s1f38t_ok.callee progOK.mixed _ (loops_ok in37s1f38t_1 ⟨spec_of first37s1f38t_0 rfl spec37s1f38t_0, trivial⟩) round37s1f38t_1
theorem loops37s1f38t : loopsOf c37s1f38t = [a37s1f38t_1] := by kernel_rfl
theorem body37s1f38t : ∀ l x, bodyT Try.prog E37s1f38t Try.f37 (keepOf Try.f37) lt37s1f38t c37s1f38t 48 (.list (.int .i64)) [.fn 38] [.list (.list (.int .i64))] l x = f37s1f38t l x := by
  rintro v0 ⟨v1, ⟨⟩⟩
  kernel_rfl
theorem fn37s1f38t : FnTake Try.prog 37 48 (.list (.int .i64)) [.fn 38] [.list (.list (.int .i64))] f37s1f38t := by
  exact fun_take progOK E37s1f38t_ok Try.func37 (c := c37s1f38t) (by kernel_rfl) (keep := keepOf Try.f37) (lt := lt37s1f38t) (by rfl) (loops_ok loops37s1f38t ⟨spec_of first37s1f38t_1 rfl spec37s1f38t_1, trivial⟩) body37s1f38t
abbrev s37s1f38t : Shr := (37, takeH 48 (.list (.int .i64)) [.fn 38] [.list (.list (.int .i64))] f37s1f38t)
theorem s37s1f38t_ok : ShrOK Try.prog s37s1f38t := takeH_ok fn37s1f38t

/-! schisma/schismalaw40.list -/
abbrev sh19_0 : List (Nat × Kd) := [(1, .list (.list (.int .i64))), (2, .int .i64), (7, .list (.list (.list (.int .i64)))), (8, .int .i64), (9, .own 46 (.list (.list (.int .i64)))), (10, .int .i64), (11, .int .i64)]
abbrev ex19_0 : List (Ex × List (Nat × Kd)) := [(.exit 4, [(1, .list (.list (.int .i64))), (2, .int .i64), (7, .list (.list (.list (.int .i64)))), (8, .int .i64), (9, .own 46 (.list (.list (.int .i64)))), (10, .int .i64)])]
def step19_0 (x : Shape.den sh19_0) : Option (Shape.den sh19_0 ⊕ exDen ex19_0) := match x with
  | (v1, v2, v7, v8, v9, v10, v11, ()) =>
    bif ltI v11 (v1.length : Int) then
      bif idxOk v11 v1.length then bif idxOk v10 v7.length then bif idxOk (wrapF .i64 (v8 - 1)) (v7.getD v10.toNat []).length then askO (f36 ((v1.getD v11.toNat []), ((v7.getD v10.toNat []).getD ((wrapF .i64 (v8 - 1)).toNat) []), ())) fun y3 =>
      bif ltI 0 y3.1 then
        bif idxOk v10 v7.length then bif idxOk v11 v1.length then askO (f21 (v1, (v7.getD v10.toNat []), (v1.getD v11.toNat []), ())) fun y4 =>
        bif y4.1 then
          bif idxOk v10 v7.length then bif Nat.ble (v7.getD v10.toNat []).length 1048576 then bif idxOk v11 v1.length then bif Nat.ble [(v1.getD v11.toNat [])].length 1048576 then bif Nat.ble (v7.getD v10.toNat []).length 1048576 then bif Nat.ble [((v7.getD v10.toNat []) ++ [(v1.getD v11.toNat [])])].length 1048576 then bif Nat.ble v9.length 1048576 then some (.inl (v1, v2, v7, v8, (v9 ++ [((v7.getD v10.toNat []) ++ [(v1.getD v11.toNat [])])]), v10, (wrapF .i64 (v11 + 1)), ())) else none else none else none else none else none else none else none
        else some (.inl (v1, v2, v7, v8, v9, v10, (wrapF .i64 (v11 + 1)), ())) else none else none
      else some (.inl (v1, v2, v7, v8, v9, v10, (wrapF .i64 (v11 + 1)), ())) else none else none else none
    else some (.inr ((v1, v2, v7, v8, v9, v10, ())))
def loop19_0 (x : Shape.den sh19_0) : Option (exDen ex19_0) := loopN step19_0 (2 ^ 64) x
abbrev sh19_1 : List (Nat × Kd) := [(1, .list (.list (.int .i64))), (2, .int .i64), (7, .list (.list (.list (.int .i64)))), (8, .int .i64), (9, .own 46 (.list (.list (.int .i64)))), (10, .int .i64)]
abbrev ex19_1 : List (Ex × List (Nat × Kd)) := [(.exit 2, [(1, .list (.list (.int .i64))), (2, .int .i64), (8, .int .i64), (9, .own 46 (.list (.list (.int .i64))))])]
def step19_1 (x : Shape.den sh19_1) : Option (Shape.den sh19_1 ⊕ exDen ex19_1) := match x with
  | (v1, v2, v7, v8, v9, v10, ()) =>
    bif ltI v10 (v7.length : Int) then
      askO (loop19_0 (v1, v2, v7, v8, v9, v10, 0, ())) fun z6 =>
      some (.inl (z6.1, z6.2.1, z6.2.2.1, z6.2.2.2.1, z6.2.2.2.2.1, (wrapF .i64 (z6.2.2.2.2.2.1 + 1)), ()))
    else some (.inr ((v1, v2, v8, v9, ())))
def loop19_1 (x : Shape.den sh19_1) : Option (exDen ex19_1) := loopN step19_1 (2 ^ 64) x
abbrev sh19_2 : List (Nat × Kd) := [(1, .list (.list (.int .i64))), (2, .int .i64), (7, .list (.list (.list (.int .i64)))), (8, .int .i64)]
abbrev ex19_2 : List (Ex × List (Nat × Kd)) := [(.exit 0, [(7, .list (.list (.list (.int .i64))))])]
def step19_2 (x : Shape.den sh19_2) : Option (Shape.den sh19_2 ⊕ exDen ex19_2) := match x with
  | (v1, v2, v7, v8, ()) =>
    bif ltI v8 v2 then
      askO (loop19_1 (v1, v2, v7, v8, [], 0, ())) fun z8 =>
      some (.inl (z8.1, z8.2.1, z8.2.2.2.1, (wrapF .i64 (z8.2.2.1 + 1)), ()))
    else some (.inr ((v7, ())))
def loop19_2 (x : Shape.den sh19_2) : Option (exDen ex19_2) := loopN step19_2 (2 ^ 64) x
def f19 (x : denK [.int .i64, .list (.list (.int .i64)), .int .i64]) : Option (denK [.list (.list (.list (.int .i64)))]) := match x with
  | (v0, v1, v2, ()) =>
    bif !(ltI v0 0) then bif !(ltI v0 v0) then bif !(ltI 1048576 v0) then askO (loop19_2 (v1, v2, [[(List.replicate v0.toNat 0)]], 1, ())) fun z9 =>
    some (z9.1, ()) else none else none else none
noncomputable def c19 : Code := bodyOf Try.f19
abbrev E19 : Env := envOf [e21, e36]
theorem E19_ok : EnvOK Try.prog E19 := env_ok ⟨e21_ok, e36_ok, trivial⟩
noncomputable def a19_2 : Code := loopAt c19 0
noncomputable def a19_1 : Code := loopAt a19_2 0
noncomputable def a19_0 : Code := loopAt a19_1 0
def lt19 (id : Nat) : Option LSpec := bif Nat.beq id 10 then some ⟨sh19_0, ex19_0, loop19_0⟩ else bif Nat.beq id 7 then some ⟨sh19_1, ex19_1, loop19_1⟩ else bif Nat.beq id 3 then some ⟨sh19_2, ex19_2, loop19_2⟩ else none
theorem round19_0 : ∀ x, roundK Try.prog E19 76 (keepOf Try.f19) lt19 a19_0 sh19_0 ex19_0 x = step19_0 x := by
  rintro ⟨v1, v2, v7, v8, v9, v10, v11, ⟨⟩⟩
  kernel_rfl
theorem in19_0 : loopsOf a19_0 = [] := by kernel_rfl
theorem first19_0 : firstRegion a19_0 = 10 := by kernel_rfl
theorem spec19_0 : SpecOK Try.prog 76 a19_0 ⟨sh19_0, ex19_0, loop19_0⟩ := by
  exact loop_ok E19_ok.callee progOK.mixed _ (loops_ok in19_0 trivial) round19_0
theorem round19_1 : ∀ x, roundK Try.prog E19 76 (keepOf Try.f19) lt19 a19_1 sh19_1 ex19_1 x = step19_1 x := by
  rintro ⟨v1, v2, v7, v8, v9, v10, ⟨⟩⟩
  kernel_rfl
theorem in19_1 : loopsOf a19_1 = [a19_0] := by kernel_rfl
theorem first19_1 : firstRegion a19_1 = 7 := by kernel_rfl
theorem spec19_1 : SpecOK Try.prog 76 a19_1 ⟨sh19_1, ex19_1, loop19_1⟩ := by
  exact loop_ok E19_ok.callee progOK.mixed _ (loops_ok in19_1 ⟨spec_of first19_0 rfl spec19_0, trivial⟩) round19_1
theorem round19_2 : ∀ x, roundK Try.prog E19 76 (keepOf Try.f19) lt19 a19_2 sh19_2 ex19_2 x = step19_2 x := by
  rintro ⟨v1, v2, v7, v8, ⟨⟩⟩
  kernel_rfl
theorem in19_2 : loopsOf a19_2 = [a19_1] := by kernel_rfl
theorem first19_2 : firstRegion a19_2 = 3 := by kernel_rfl
theorem spec19_2 : SpecOK Try.prog 76 a19_2 ⟨sh19_2, ex19_2, loop19_2⟩ := by
  exact loop_ok E19_ok.callee progOK.mixed _ (loops_ok in19_2 ⟨spec_of first19_1 rfl spec19_1, trivial⟩) round19_2
theorem loops19 : loopsOf c19 = [a19_2] := by kernel_rfl
theorem body19 : ∀ x, bodyK Try.prog E19 Try.f19 (keepOf Try.f19) lt19 c19 [.int .i64, .list (.list (.int .i64)), .int .i64] [.list (.list (.list (.int .i64)))] x = f19 x := by
  rintro ⟨v0, v1, v2, ⟨⟩⟩
  kernel_rfl
theorem fn19 : FnOK Try.prog 19 [.int .i64, .list (.list (.int .i64)), .int .i64] [.list (.list (.list (.int .i64)))] f19 := by
  exact fun_ok progOK E19_ok Try.func19 (c := c19) (by kernel_rfl) (keep := keepOf Try.f19) (lt := lt19) (loops_ok loops19 ⟨spec_of first19_2 rfl spec19_2, trivial⟩) body19
abbrev e19 : Ent := ⟨19, [.int .i64, .list (.list (.int .i64)), .int .i64], [.list (.list (.list (.int .i64)))], f19⟩
theorem e19_ok : Ent.OK Try.prog e19 := fn19

/-! schisma/schismalaw40.closure -/
abbrev sh15_0 : List (Nat × Kd) := [(0, .list (.list (.int .i64))), (3, .list (.list (.int .i64))), (4, .int .i64)]
abbrev ex15_0 : List (Ex × List (Nat × Kd)) := [(.exit 0, [(3, .list (.list (.int .i64)))])]
def step15_0 (x : Shape.den sh15_0) : Option (Shape.den sh15_0 ⊕ exDen ex15_0) := match x with
  | (v0, v3, v4, ()) =>
    bif ltI v4 (v0.length : Int) then
      bif idxOk v4 v0.length then askO (f40 ((v0.getD v4.toNat []), ())) fun y5 =>
      bif y5.1 then
        some (.inl (v0, v3, (wrapF .i64 (v4 + 1)), ()))
      else bif idxOk v4 v0.length then bif Nat.ble (v0.getD v4.toNat []).length 1048576 then askO (f27 (v3, (v0.getD v4.toNat []), ())) fun y6 =>
      bif idxOk v4 v0.length then bif !(ltI ((v0.getD v4.toNat []).length : Int) 0) then bif !(ltI ((v0.getD v4.toNat []).length : Int) ((v0.getD v4.toNat []).length : Int)) then bif !(ltI 1048576 ((v0.getD v4.toNat []).length : Int)) then bif idxOk v4 v0.length then askO (f28 ((List.replicate (((v0.getD v4.toNat []).length : Int).toNat) 0), (v0.getD v4.toNat []), ())) fun y7 =>
      askO (f27 (y6.1, y7.1, ())) fun y8 =>
      some (.inl (v0, y8.1, (wrapF .i64 (v4 + 1)), ())) else none else none else none else none else none else none else none else none
    else some (.inr ((v3, ())))
def loop15_0 (x : Shape.den sh15_0) : Option (exDen ex15_0) := loopN step15_0 (2 ^ 64) x
def f15 (x : denK [.list (.list (.int .i64))]) : Option (denK [.list (.list (.int .i64))]) := match x with
  | (v0, ()) =>
    askO (loop15_0 (v0, [], 0, ())) fun z9 =>
    some (z9.1, ())
noncomputable def c15 : Code := bodyOf Try.f15
abbrev E15 : Env := envOf [e27, e28, e40]
theorem E15_ok : EnvOK Try.prog E15 := env_ok ⟨e27_ok, e28_ok, e40_ok, trivial⟩
noncomputable def a15_0 : Code := loopAt c15 0
def lt15 (id : Nat) : Option LSpec := bif Nat.beq id 3 then some ⟨sh15_0, ex15_0, loop15_0⟩ else none
theorem round15_0 : ∀ x, roundK Try.prog E15 38 (keepOf Try.f15) lt15 a15_0 sh15_0 ex15_0 x = step15_0 x := by
  rintro ⟨v0, v3, v4, ⟨⟩⟩
  kernel_rfl
theorem in15_0 : loopsOf a15_0 = [] := by kernel_rfl
theorem first15_0 : firstRegion a15_0 = 3 := by kernel_rfl
theorem spec15_0 : SpecOK Try.prog 38 a15_0 ⟨sh15_0, ex15_0, loop15_0⟩ := by
  exact loop_ok E15_ok.callee progOK.mixed _ (loops_ok in15_0 trivial) round15_0
theorem loops15 : loopsOf c15 = [a15_0] := by kernel_rfl
theorem body15 : ∀ x, bodyK Try.prog E15 Try.f15 (keepOf Try.f15) lt15 c15 [.list (.list (.int .i64))] [.list (.list (.int .i64))] x = f15 x := by
  rintro ⟨v0, ⟨⟩⟩
  kernel_rfl
theorem fn15 : FnOK Try.prog 15 [.list (.list (.int .i64))] [.list (.list (.int .i64))] f15 := by
  exact fun_ok progOK E15_ok Try.func15 (c := c15) (by kernel_rfl) (keep := keepOf Try.f15) (lt := lt15) (loops_ok loops15 ⟨spec_of first15_0 rfl spec15_0, trivial⟩) body15
abbrev e15 : Ent := ⟨15, [.list (.list (.int .i64))], [.list (.list (.int .i64))], f15⟩
theorem e15_ok : Ent.OK Try.prog e15 := fn15

/-! schisma/schismalaw40.closed -/
def f13 (x : denK [.int .i64, .list (.list (.int .i64))]) : Option (denK [.int .i64]) := match x with
  | (v0, v1, ()) =>
    askO (f26 (v0, v1, ())) fun y1 =>
    bif !(eqI y1.1 0) then
      some (y1.1, ())
    else askO (f15 (v1, ())) fun y2 =>
    bif ltI 60 (y2.1.length : Int) then
      some (4, ())
    else some (0, ())
noncomputable def c13 : Code := bodyOf Try.f13
abbrev E13 : Env := envOf [e15, e26]
theorem E13_ok : EnvOK Try.prog E13 := env_ok ⟨e15_ok, e26_ok, trivial⟩
def lt13 (id : Nat) : Option LSpec := none
theorem loops13 : loopsOf c13 = [] := by kernel_rfl
theorem body13 : ∀ x, bodyK Try.prog E13 Try.f13 (keepOf Try.f13) lt13 c13 [.int .i64, .list (.list (.int .i64))] [.int .i64] x = f13 x := by
  rintro ⟨v0, v1, ⟨⟩⟩
  kernel_rfl
theorem fn13 : FnOK Try.prog 13 [.int .i64, .list (.list (.int .i64))] [.int .i64] f13 := by
  exact fun_ok progOK E13_ok Try.func13 (c := c13) (by kernel_rfl) (keep := keepOf Try.f13) (lt := lt13) (loops_ok loops13 trivial) body13
abbrev e13 : Ent := ⟨13, [.int .i64, .list (.list (.int .i64))], [.int .i64], f13⟩
theorem e13_ok : Ent.OK Try.prog e13 := fn13
end Go.PM
