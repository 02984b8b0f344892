/- The functions of chapter 40 and of its statements, by open runs (printed by wip/tools/dc.py). -/
import Derived.Test.YthbfchehcgnkpaaPnH
import Derived.Test.YthbfchehcgnkpaaPnW
set_option linter.unusedSimpArgs false
set_option linter.unusedVariables false
namespace Go.PM
open Go Go.RowKit Go.Proofs
set_option maxRecDepth 100000
/-! cmp.isNaN[int] -/
def f89 (x : denK [.int .i64]) : Option (denK [.bool]) := match x with
  | (v0, ()) =>
    some (!(eqI v0 v0), ())
noncomputable def c89 : Code := bodyOf Try.f89
abbrev E89 : Env := envOf []
theorem E89_ok : EnvOK Try.prog E89 := env_ok trivial
def lt89 (id : Nat) : Option LSpec := none
theorem loops89 : loopsOf c89 = [] := by kernel_rfl
theorem body89 : ∀ x, bodyK Try.prog E89 Try.f89 (keepOf Try.f89) lt89 c89 [.int .i64] [.bool] x = f89 x := by
  rintro ⟨v0, ⟨⟩⟩
  kernel_rfl
theorem fn89 : FnOK Try.prog 89 [.int .i64] [.bool] f89 := by
  exact fun_ok progOK E89_ok Try.func89 (c := c89) (by kernel_rfl) (keep := keepOf Try.f89) (lt := lt89) (loops_ok loops89 trivial) body89
abbrev e89 : Ent := ⟨89, [.int .i64], [.bool], f89⟩
theorem e89_ok : Ent.OK Try.prog e89 := fn89

/-! cmp.Compare[int] -/
def f82 (x : denK [.int .i64, .int .i64]) : Option (denK [.int .i64]) := match x with
  | (v0, v1, ()) =>
    askO (f89 (v0, ())) fun y1 =>
    askO (f89 (v1, ())) fun y2 =>
    bif y1.1 then
      bif y2.1 then
        some (0, ())
      else some ((-1), ())
    else bif y2.1 then
      some (1, ())
    else bif ltI v0 v1 then
      some ((-1), ())
    else bif ltI v1 v0 then
      some (1, ())
    else some (0, ())
noncomputable def c82 : Code := bodyOf Try.f82
abbrev E82 : Env := envOf [e89]
theorem E82_ok : EnvOK Try.prog E82 := env_ok ⟨e89_ok, trivial⟩
def lt82 (id : Nat) : Option LSpec := none
theorem loops82 : loopsOf c82 = [] := by kernel_rfl
theorem body82 : ∀ x, bodyK Try.prog E82 Try.f82 (keepOf Try.f82) lt82 c82 [.int .i64, .int .i64] [.int .i64] x = f82 x := by
  rintro ⟨v0, v1, ⟨⟩⟩
  kernel_rfl
theorem fn82 : FnOK Try.prog 82 [.int .i64, .int .i64] [.int .i64] f82 := by
  exact fun_ok progOK E82_ok Try.func82 (c := c82) (by kernel_rfl) (keep := keepOf Try.f82) (lt := lt82) (loops_ok loops82 trivial) body82
abbrev e82 : Ent := ⟨82, [.int .i64, .int .i64], [.int .i64], f82⟩
theorem e82_ok : Ent.OK Try.prog e82 := fn82

/-! slices.Compare[schisma/api.Row,int] -/
abbrev sh60_0 : List (Nat × Kd) := [(0, .list (.int .i64)), (1, .list (.int .i64)), (9, .list (.int .i64)), (10, .int .i64), (11, .int .i64)]
abbrev ex60_0 : List (Ex × List (Nat × Kd)) := [(.ret, [(4, .int .i64)]), (.exit 0, [(0, .list (.int .i64)), (1, .list (.int .i64))])]
def step60_0 (x : Shape.den sh60_0) : Option (Shape.den sh60_0 ⊕ exDen ex60_0) := match x with
  | (v0, v1, v9, v10, v11, ()) =>
    bif ltI v11 v10 then
      bif idxOk v11 v9.length then bif !(ltI v11 (v1.length : Int)) then
        some (.inr (.inl (1, ())))
      else bif idxOk v11 v1.length then askO (f82 ((v9.getD v11.toNat 0), (v1.getD v11.toNat 0), ())) fun y2 =>
      bif !(eqI y2.1 0) then
        some (.inr (.inl (y2.1, ())))
      else some (.inl (v0, v1, v9, v10, (wrapF .i64 (v11 + 1)), ())) else none else none
    else some (.inr (.inr ((v0, v1, ()))))
def loop60_0 (x : Shape.den sh60_0) : Option (exDen ex60_0) := loopN step60_0 (2 ^ 64) x
def f60 (x : denK [.list (.int .i64), .list (.int .i64)]) : Option (denK [.int .i64]) := match x with
  | (v0, v1, ()) =>
    askO (loop60_0 (v0, v1, v0, (v0.length : Int), 0, ())) fun z3 =>
    onSum z3 (fun a4 => some (a4.1, ())) fun b5 =>
    bif ltI (b5.1.length : Int) (b5.2.1.length : Int) then
      some ((-1), ())
    else some (0, ())
noncomputable def c60 : Code := bodyOf Try.f60
abbrev E60 : Env := envOf [e82]
theorem E60_ok : EnvOK Try.prog E60 := env_ok ⟨e82_ok, trivial⟩
noncomputable def a60_0 : Code := loopAt c60 0
def lt60 (id : Nat) : Option LSpec := bif Nat.beq id 2 then some ⟨sh60_0, ex60_0, loop60_0⟩ else none
theorem round60_0 : ∀ x, roundK Try.prog E60 36 (keepOf Try.f60) lt60 a60_0 sh60_0 ex60_0 x = step60_0 x := by
  rintro ⟨v0, v1, v9, v10, v11, ⟨⟩⟩
  kernel_rfl
theorem in60_0 : loopsOf a60_0 = [] := by kernel_rfl
theorem first60_0 : firstRegion a60_0 = 2 := by kernel_rfl
theorem spec60_0 : SpecOK Try.prog 36 a60_0 ⟨sh60_0, ex60_0, loop60_0⟩ := by
  exact loop_ok E60_ok.callee progOK.mixed _ (loops_ok in60_0 trivial) round60_0
theorem loops60 : loopsOf c60 = [a60_0] := by kernel_rfl
theorem body60 : ∀ x, bodyK Try.prog E60 Try.f60 (keepOf Try.f60) lt60 c60 [.list (.int .i64), .list (.int .i64)] [.int .i64] x = f60 x := by
  rintro ⟨v0, v1, ⟨⟩⟩
  kernel_rfl
theorem fn60 : FnOK Try.prog 60 [.list (.int .i64), .list (.int .i64)] [.int .i64] f60 := by
  exact fun_ok progOK E60_ok Try.func60 (c := c60) (by kernel_rfl) (keep := keepOf Try.f60) (lt := lt60) (loops_ok loops60 ⟨spec_of first60_0 rfl spec60_0, trivial⟩) body60
abbrev e60 : Ent := ⟨60, [.list (.int .i64), .list (.int .i64)], [.int .i64], f60⟩
theorem e60_ok : Ent.OK Try.prog e60 := fn60

/-! schisma/row.Compare -/
def f36 (x : denK [.list (.int .i64), .list (.int .i64)]) : Option (denK [.int .i64]) := match x with
  | (v0, v1, ()) =>
    askO (f60 (v0, v1, ())) fun y1 =>
    some (y1.1, ())
noncomputable def c36 : Code := bodyOf Try.f36
abbrev E36 : Env := envOf [e60]
theorem E36_ok : EnvOK Try.prog E36 := env_ok ⟨e60_ok, trivial⟩
def lt36 (id : Nat) : Option LSpec := none
theorem loops36 : loopsOf c36 = [] := by kernel_rfl
theorem body36 : ∀ x, bodyK Try.prog E36 Try.f36 (keepOf Try.f36) lt36 c36 [.list (.int .i64), .list (.int .i64)] [.int .i64] x = f36 x := by
  rintro ⟨v0, v1, ⟨⟩⟩
  kernel_rfl
theorem fn36 : FnOK Try.prog 36 [.list (.int .i64), .list (.int .i64)] [.int .i64] f36 := by
  exact fun_ok progOK E36_ok Try.func36 (c := c36) (by kernel_rfl) (keep := keepOf Try.f36) (lt := lt36) (loops_ok loops36 trivial) body36
abbrev e36 : Ent := ⟨36, [.list (.int .i64), .list (.int .i64)], [.int .i64], f36⟩
theorem e36_ok : Ent.OK Try.prog e36 := fn36

/-! slices.Equal[schisma/api.Row,int] -/
abbrev sh61_0 : List (Nat × Kd) := [(0, .list (.int .i64)), (1, .list (.int .i64)), (12, .int .i64), (13, .int .i64)]
abbrev ex61_0 : List (Ex × List (Nat × Kd)) := [(.ret, [(4, .bool)]), (.exit 0, [])]
def step61_0 (x : Shape.den sh61_0) : Option (Shape.den sh61_0 ⊕ exDen ex61_0) := match x with
  | (v0, v1, v12, v13, ()) =>
    bif ltI v13 v12 then
      bif idxOk v13 v0.length then bif idxOk v13 v1.length then bif !(eqI (v0.getD v13.toNat 0) (v1.getD v13.toNat 0)) then
        some (.inr (.inl (false, ())))
      else some (.inl (v0, v1, v12, (wrapF .i64 (v13 + 1)), ())) else none else none
    else some (.inr (.inr ((()))))
def loop61_0 (x : Shape.den sh61_0) : Option (exDen ex61_0) := loopN step61_0 (2 ^ 64) x
def f61 (x : denK [.list (.int .i64), .list (.int .i64)]) : Option (denK [.bool]) := match x with
  | (v0, v1, ()) =>
    bif !(eqI (v0.length : Int) (v1.length : Int)) then
      some (false, ())
    else askO (loop61_0 (v0, v1, (v0.length : Int), 0, ())) fun z1 =>
    onSum z1 (fun a2 => some (a2.1, ())) fun b3 =>
    some (true, ())
noncomputable def c61 : Code := bodyOf Try.f61
abbrev E61 : Env := envOf []
theorem E61_ok : EnvOK Try.prog E61 := env_ok trivial
noncomputable def a61_0 : Code := loopAt c61 0
def lt61 (id : Nat) : Option LSpec := bif Nat.beq id 4 then some ⟨sh61_0, ex61_0, loop61_0⟩ else none
theorem round61_0 : ∀ x, roundK Try.prog E61 26 (keepOf Try.f61) lt61 a61_0 sh61_0 ex61_0 x = step61_0 x := by
  rintro ⟨v0, v1, v12, v13, ⟨⟩⟩
  kernel_rfl
theorem in61_0 : loopsOf a61_0 = [] := by kernel_rfl
theorem first61_0 : firstRegion a61_0 = 4 := by kernel_rfl
theorem spec61_0 : SpecOK Try.prog 26 a61_0 ⟨sh61_0, ex61_0, loop61_0⟩ := by
  exact loop_ok E61_ok.callee progOK.mixed _ (loops_ok in61_0 trivial) round61_0
theorem loops61 : loopsOf c61 = [a61_0] := by kernel_rfl
theorem body61 : ∀ x, bodyK Try.prog E61 Try.f61 (keepOf Try.f61) lt61 c61 [.list (.int .i64), .list (.int .i64)] [.bool] x = f61 x := by
  rintro ⟨v0, v1, ⟨⟩⟩
  kernel_rfl
theorem fn61 : FnOK Try.prog 61 [.list (.int .i64), .list (.int .i64)] [.bool] f61 := by
  exact fun_ok progOK E61_ok Try.func61 (c := c61) (by kernel_rfl) (keep := keepOf Try.f61) (lt := lt61) (loops_ok loops61 ⟨spec_of first61_0 rfl spec61_0, trivial⟩) body61
abbrev e61 : Ent := ⟨61, [.list (.int .i64), .list (.int .i64)], [.bool], f61⟩
theorem e61_ok : Ent.OK Try.prog e61 := fn61

/-! schisma/row.Equal -/
def f38 (x : denK [.list (.int .i64), .list (.int .i64)]) : Option (denK [.bool]) := match x with
  | (v0, v1, ()) =>
    askO (f61 (v0, v1, ())) fun y1 =>
    some (y1.1, ())
noncomputable def c38 : Code := bodyOf Try.f38
abbrev E38 : Env := envOf [e61]
theorem E38_ok : EnvOK Try.prog E38 := env_ok ⟨e61_ok, trivial⟩
def lt38 (id : Nat) : Option LSpec := none
theorem loops38 : loopsOf c38 = [] := by kernel_rfl
theorem body38 : ∀ x, bodyK Try.prog E38 Try.f38 (keepOf Try.f38) lt38 c38 [.list (.int .i64), .list (.int .i64)] [.bool] x = f38 x := by
  rintro ⟨v0, v1, ⟨⟩⟩
  kernel_rfl
theorem fn38 : FnOK Try.prog 38 [.list (.int .i64), .list (.int .i64)] [.bool] f38 := by
  exact fun_ok progOK E38_ok Try.func38 (c := c38) (by kernel_rfl) (keep := keepOf Try.f38) (lt := lt38) (loops_ok loops38 trivial) body38
abbrev e38 : Ent := ⟨38, [.list (.int .i64), .list (.int .i64)], [.bool], f38⟩
theorem e38_ok : Ent.OK Try.prog e38 := fn38

/-! schisma/row.fits -/
def f51 (x : denK [.int .i64]) : Option (denK [.bool]) := match x with
  | (v0, ()) =>
    bif !(ltI v0 (-1000000000)) then
      some (!(ltI 1000000000 v0), ())
    else some (false, ())
noncomputable def c51 : Code := bodyOf Try.f51
abbrev E51 : Env := envOf []
theorem E51_ok : EnvOK Try.prog E51 := env_ok trivial
def lt51 (id : Nat) : Option LSpec := none
theorem loops51 : loopsOf c51 = [] := by kernel_rfl
theorem body51 : ∀ x, bodyK Try.prog E51 Try.f51 (keepOf Try.f51) lt51 c51 [.int .i64] [.bool] x = f51 x := by
  rintro ⟨v0, ⟨⟩⟩
  kernel_rfl
theorem fn51 : FnOK Try.prog 51 [.int .i64] [.bool] f51 := by
  exact fun_ok progOK E51_ok Try.func51 (c := c51) (by kernel_rfl) (keep := keepOf Try.f51) (lt := lt51) (loops_ok loops51 trivial) body51
abbrev e51 : Ent := ⟨51, [.int .i64], [.bool], f51⟩
theorem e51_ok : Ent.OK Try.prog e51 := fn51

/-! schisma/row.Check$1 -/
def f50 (x : denK [.int .i64]) : Option (denK [.bool]) := match x with
  | (v0, ()) =>
    askO (f51 (v0, ())) fun y1 =>
    bif y1.1 then
      some (false, ())
    else some (true, ())
noncomputable def c50 : Code := bodyOf Try.f50
abbrev E50 : Env := envOf [e51]
theorem E50_ok : EnvOK Try.prog E50 := env_ok ⟨e51_ok, trivial⟩
def lt50 (id : Nat) : Option LSpec := none
theorem loops50 : loopsOf c50 = [] := by kernel_rfl
theorem body50 : ∀ x, bodyK Try.prog E50 Try.f50 (keepOf Try.f50) lt50 c50 [.int .i64] [.bool] x = f50 x := by
  rintro ⟨v0, ⟨⟩⟩
  kernel_rfl
theorem fn50 : FnOK Try.prog 50 [.int .i64] [.bool] f50 := by
  exact fun_ok progOK E50_ok Try.func50 (c := c50) (by kernel_rfl) (keep := keepOf Try.f50) (lt := lt50) (loops_ok loops50 trivial) body50
abbrev e50 : Ent := ⟨50, [.int .i64], [.bool], f50⟩
theorem e50_ok : Ent.OK Try.prog e50 := fn50

/-! slices.IndexFunc[schisma/api.Row,int] -/
abbrev sh70s1f50_0 : List (Nat × Kd) := [(0, .list (.int .i64)), (1, .fn 50), (7, .int .i64), (8, .int .i64)]
abbrev ex70s1f50_0 : List (Ex × List (Nat × Kd)) := [(.ret, [(4, .int .i64)]), (.exit 0, [])]
def step70s1f50_0 (x : Shape.den sh70s1f50_0) : Option (Shape.den sh70s1f50_0 ⊕ exDen ex70s1f50_0) := match x with
  | (v0, v1, v7, v8, ()) =>
    bif ltI v8 v7 then
      bif idxOk v8 v0.length then askO (f50 ((v0.getD v8.toNat 0), ())) fun y2 =>
      bif y2.1 then
        some (.inr (.inl (v8, ())))
      else some (.inl (v0, (), v7, (wrapF .i64 (v8 + 1)), ())) else none
    else some (.inr (.inr ((()))))
def loop70s1f50_0 (x : Shape.den sh70s1f50_0) : Option (exDen ex70s1f50_0) := loopN step70s1f50_0 (2 ^ 64) x
def f70s1f50 (x : denK [.list (.int .i64), .fn 50]) : Option (denK [.int .i64]) := match x with
  | (v0, v1, ()) =>
    askO (loop70s1f50_0 (v0, (), (v0.length : Int), 0, ())) fun z3 =>
    onSum z3 (fun a4 => some (a4.1, ())) fun b5 =>
    some ((-1), ())
noncomputable def c70s1f50 : Code := bodyOf Try.f70
abbrev E70s1f50 : Env := envOf [e50]
theorem E70s1f50_ok : EnvOK Try.prog E70s1f50 := env_ok ⟨e50_ok, trivial⟩
noncomputable def a70s1f50_0 : Code := loopAt c70s1f50 0
def lt70s1f50 (id : Nat) : Option LSpec := bif Nat.beq id 2 then some ⟨sh70s1f50_0, ex70s1f50_0, loop70s1f50_0⟩ else none
theorem round70s1f50_0 : ∀ x, roundK Try.prog E70s1f50 19 (keepOf Try.f70) lt70s1f50 a70s1f50_0 sh70s1f50_0 ex70s1f50_0 x = step70s1f50_0 x := by
  rintro ⟨v0, v1, v7, v8, ⟨⟩⟩
  kernel_rfl
theorem in70s1f50_0 : loopsOf a70s1f50_0 = [] := by kernel_rfl
theorem first70s1f50_0 : firstRegion a70s1f50_0 = 2 := by kernel_rfl
theorem spec70s1f50_0 : SpecOK Try.prog 19 a70s1f50_0 ⟨sh70s1f50_0, ex70s1f50_0, loop70s1f50_0⟩ := by
  exact loop_ok E70s1f50_ok.callee progOK.mixed _ (loops_ok in70s1f50_0 trivial) round70s1f50_0
theorem loops70s1f50 : loopsOf c70s1f50 = [a70s1f50_0] := by kernel_rfl
theorem body70s1f50 : ∀ x, bodyK Try.prog E70s1f50 Try.f70 (keepOf Try.f70) lt70s1f50 c70s1f50 [.list (.int .i64), .fn 50] [.int .i64] x = f70s1f50 x := by
  rintro ⟨v0, v1, ⟨⟩⟩
  kernel_rfl
theorem fn70s1f50 : FnOK Try.prog 70 [.list (.int .i64), .fn 50] [.int .i64] f70s1f50 := by
  exact fun_ok progOK E70s1f50_ok Try.func70 (c := c70s1f50) (by kernel_rfl) (keep := keepOf Try.f70) (lt := lt70s1f50) (loops_ok loops70s1f50 ⟨spec_of first70s1f50_0 rfl spec70s1f50_0, trivial⟩) body70s1f50
abbrev e70s1f50 : Ent := ⟨70, [.list (.int .i64), .fn 50], [.int .i64], f70s1f50⟩
theorem e70s1f50_ok : Ent.OK Try.prog e70s1f50 := fn70s1f50

/-! slices.ContainsFunc[schisma/api.Row,int] -/
def f49s1f50 (x : denK [.list (.int .i64), .fn 50]) : Option (denK [.bool]) := match x with
  | (v0, v1, ()) =>
    askO (f70s1f50 (v0, (), ())) fun y1 =>
    some (!(ltI y1.1 0), ())
noncomputable def c49s1f50 : Code := bodyOf Try.f49
abbrev E49s1f50 : Env := envOf [e70s1f50]
theorem E49s1f50_ok : EnvOK Try.prog E49s1f50 := env_ok ⟨e70s1f50_ok, trivial⟩
def lt49s1f50 (id : Nat) : Option LSpec := none
theorem loops49s1f50 : loopsOf c49s1f50 = [] := by kernel_rfl
theorem body49s1f50 : ∀ x, bodyK Try.prog E49s1f50 Try.f49 (keepOf Try.f49) lt49s1f50 c49s1f50 [.list (.int .i64), .fn 50] [.bool] x = f49s1f50 x := by
  rintro ⟨v0, v1, ⟨⟩⟩
  kernel_rfl
theorem fn49s1f50 : FnOK Try.prog 49 [.list (.int .i64), .fn 50] [.bool] f49s1f50 := by
  exact fun_ok progOK E49s1f50_ok Try.func49 (c := c49s1f50) (by kernel_rfl) (keep := keepOf Try.f49) (lt := lt49s1f50) (loops_ok loops49s1f50 trivial) body49s1f50
abbrev e49s1f50 : Ent := ⟨49, [.list (.int .i64), .fn 50], [.bool], f49s1f50⟩
theorem e49s1f50_ok : Ent.OK Try.prog e49s1f50 := fn49s1f50

/-! schisma/row.Check -/
def f29 (x : denK [.list (.int .i64)]) : Option (denK [.int .i64]) := match x with
  | (v0, ()) =>
    bif ltI 64 (v0.length : Int) then
      some (4, ())
    else askO (f49s1f50 (v0, (), ())) fun y1 =>
    bif y1.1 then
      some (4, ())
    else some (0, ())
noncomputable def c29 : Code := bodyOf Try.f29
abbrev E29 : Env := envOf [e49s1f50]
theorem E29_ok : EnvOK Try.prog E29 := env_ok ⟨e49s1f50_ok, trivial⟩
def lt29 (id : Nat) : Option LSpec := none
theorem loops29 : loopsOf c29 = [] := by kernel_rfl
theorem body29 : ∀ x, bodyK Try.prog E29 Try.f29 (keepOf Try.f29) lt29 c29 [.list (.int .i64)] [.int .i64] x = f29 x := by
  rintro ⟨v0, ⟨⟩⟩
  kernel_rfl
theorem fn29 : FnOK Try.prog 29 [.list (.int .i64)] [.int .i64] f29 := by
  exact fun_ok progOK E29_ok Try.func29 (c := c29) (by kernel_rfl) (keep := keepOf Try.f29) (lt := lt29) (loops_ok loops29 trivial) body29
abbrev e29 : Ent := ⟨29, [.list (.int .i64)], [.int .i64], f29⟩
theorem e29_ok : Ent.OK Try.prog e29 := fn29

/-! schisma/row.IsZero$1 -/
def f57 (x : denK [.int .i64]) : Option (denK [.bool]) := match x with
  | (v0, ()) =>
    some (!(eqI v0 0), ())
noncomputable def c57 : Code := bodyOf Try.f57
abbrev E57 : Env := envOf []
theorem E57_ok : EnvOK Try.prog E57 := env_ok trivial
def lt57 (id : Nat) : Option LSpec := none
theorem loops57 : loopsOf c57 = [] := by kernel_rfl
theorem body57 : ∀ x, bodyK Try.prog E57 Try.f57 (keepOf Try.f57) lt57 c57 [.int .i64] [.bool] x = f57 x := by
  rintro ⟨v0, ⟨⟩⟩
  kernel_rfl
theorem fn57 : FnOK Try.prog 57 [.int .i64] [.bool] f57 := by
  exact fun_ok progOK E57_ok Try.func57 (c := c57) (by kernel_rfl) (keep := keepOf Try.f57) (lt := lt57) (loops_ok loops57 trivial) body57
abbrev e57 : Ent := ⟨57, [.int .i64], [.bool], f57⟩
theorem e57_ok : Ent.OK Try.prog e57 := fn57

/-! slices.IndexFunc[schisma/api.Row,int] -/
abbrev sh70s1f57_0 : List (Nat × Kd) := [(0, .list (.int .i64)), (1, .fn 57), (7, .int .i64), (8, .int .i64)]
abbrev ex70s1f57_0 : List (Ex × List (Nat × Kd)) := [(.ret, [(4, .int .i64)]), (.exit 0, [])]
def step70s1f57_0 (x : Shape.den sh70s1f57_0) : Option (Shape.den sh70s1f57_0 ⊕ exDen ex70s1f57_0) := match x with
  | (v0, v1, v7, v8, ()) =>
    bif ltI v8 v7 then
      bif idxOk v8 v0.length then askO (f57 ((v0.getD v8.toNat 0), ())) fun y2 =>
      bif y2.1 then
        some (.inr (.inl (v8, ())))
      else some (.inl (v0, (), v7, (wrapF .i64 (v8 + 1)), ())) else none
    else some (.inr (.inr ((()))))
def loop70s1f57_0 (x : Shape.den sh70s1f57_0) : Option (exDen ex70s1f57_0) := loopN step70s1f57_0 (2 ^ 64) x
def f70s1f57 (x : denK [.list (.int .i64), .fn 57]) : Option (denK [.int .i64]) := match x with
  | (v0, v1, ()) =>
    askO (loop70s1f57_0 (v0, (), (v0.length : Int), 0, ())) fun z3 =>
    onSum z3 (fun a4 => some (a4.1, ())) fun b5 =>
    some ((-1), ())
noncomputable def c70s1f57 : Code := bodyOf Try.f70
abbrev E70s1f57 : Env := envOf [e57]
theorem E70s1f57_ok : EnvOK Try.prog E70s1f57 := env_ok ⟨e57_ok, trivial⟩
noncomputable def a70s1f57_0 : Code := loopAt c70s1f57 0
def lt70s1f57 (id : Nat) : Option LSpec := bif Nat.beq id 2 then some ⟨sh70s1f57_0, ex70s1f57_0, loop70s1f57_0⟩ else none
theorem round70s1f57_0 : ∀ x, roundK Try.prog E70s1f57 19 (keepOf Try.f70) lt70s1f57 a70s1f57_0 sh70s1f57_0 ex70s1f57_0 x = step70s1f57_0 x := by
  rintro ⟨v0, v1, v7, v8, ⟨⟩⟩
  kernel_rfl
theorem in70s1f57_0 : loopsOf a70s1f57_0 = [] := by kernel_rfl
theorem first70s1f57_0 : firstRegion a70s1f57_0 = 2 := by kernel_rfl
theorem spec70s1f57_0 : SpecOK Try.prog 19 a70s1f57_0 ⟨sh70s1f57_0, ex70s1f57_0, loop70s1f57_0⟩ := by
  exact loop_ok E70s1f57_ok.callee progOK.mixed _ (loops_ok in70s1f57_0 trivial) round70s1f57_0
theorem loops70s1f57 : loopsOf c70s1f57 = [a70s1f57_0] := by kernel_rfl
theorem body70s1f57 : ∀ x, bodyK Try.prog E70s1f57 Try.f70 (keepOf Try.f70) lt70s1f57 c70s1f57 [.list (.int .i64), .fn 57] [.int .i64] x = f70s1f57 x := by
  rintro ⟨v0, v1, ⟨⟩⟩
  kernel_rfl
theorem fn70s1f57 : FnOK Try.prog 70 [.list (.int .i64), .fn 57] [.int .i64] f70s1f57 := by
  exact fun_ok progOK E70s1f57_ok Try.func70 (c := c70s1f57) (by kernel_rfl) (keep := keepOf Try.f70) (lt := lt70s1f57) (loops_ok loops70s1f57 ⟨spec_of first70s1f57_0 rfl spec70s1f57_0, trivial⟩) body70s1f57
abbrev e70s1f57 : Ent := ⟨70, [.list (.int .i64), .fn 57], [.int .i64], f70s1f57⟩
theorem e70s1f57_ok : Ent.OK Try.prog e70s1f57 := fn70s1f57

/-! slices.ContainsFunc[schisma/api.Row,int] -/
def f49s1f57 (x : denK [.list (.int .i64), .fn 57]) : Option (denK [.bool]) := match x with
  | (v0, v1, ()) =>
    askO (f70s1f57 (v0, (), ())) fun y1 =>
    some (!(ltI y1.1 0), ())
noncomputable def c49s1f57 : Code := bodyOf Try.f49
abbrev E49s1f57 : Env := envOf [e70s1f57]
theorem E49s1f57_ok : EnvOK Try.prog E49s1f57 := env_ok ⟨e70s1f57_ok, trivial⟩
def lt49s1f57 (id : Nat) : Option LSpec := none
theorem loops49s1f57 : loopsOf c49s1f57 = [] := by kernel_rfl
theorem body49s1f57 : ∀ x, bodyK Try.prog E49s1f57 Try.f49 (keepOf Try.f49) lt49s1f57 c49s1f57 [.list (.int .i64), .fn 57] [.bool] x = f49s1f57 x := by
  rintro ⟨v0, v1, ⟨⟩⟩
  kernel_rfl
theorem fn49s1f57 : FnOK Try.prog 49 [.list (.int .i64), .fn 57] [.bool] f49s1f57 := by
  exact fun_ok progOK E49s1f57_ok Try.func49 (c := c49s1f57) (by kernel_rfl) (keep := keepOf Try.f49) (lt := lt49s1f57) (loops_ok loops49s1f57 trivial) body49s1f57
abbrev e49s1f57 : Ent := ⟨49, [.list (.int .i64), .fn 57], [.bool], f49s1f57⟩
theorem e49s1f57_ok : Ent.OK Try.prog e49s1f57 := fn49s1f57

/-! schisma/row.IsZero -/
def f32 (x : denK [.list (.int .i64)]) : Option (denK [.bool]) := match x with
  | (v0, ()) =>
    askO (f49s1f57 (v0, (), ())) fun y1 =>
    bif y1.1 then
      some (false, ())
    else some (true, ())
noncomputable def c32 : Code := bodyOf Try.f32
abbrev E32 : Env := envOf [e49s1f57]
theorem E32_ok : EnvOK Try.prog E32 := env_ok ⟨e49s1f57_ok, trivial⟩
def lt32 (id : Nat) : Option LSpec := none
theorem loops32 : loopsOf c32 = [] := by kernel_rfl
theorem body32 : ∀ x, bodyK Try.prog E32 Try.f32 (keepOf Try.f32) lt32 c32 [.list (.int .i64)] [.bool] x = f32 x := by
  rintro ⟨v0, ⟨⟩⟩
  kernel_rfl
theorem fn32 : FnOK Try.prog 32 [.list (.int .i64)] [.bool] f32 := by
  exact fun_ok progOK E32_ok Try.func32 (c := c32) (by kernel_rfl) (keep := keepOf Try.f32) (lt := lt32) (loops_ok loops32 trivial) body32
abbrev e32 : Ent := ⟨32, [.list (.int .i64)], [.bool], f32⟩
theorem e32_ok : Ent.OK Try.prog e32 := fn32

/-! schisma/row.CheckAll -/
abbrev sh56_0 : List (Nat × Kd) := [(1, .int .i64), (8, .list (.list (.int .i64))), (9, .int .i64), (10, .int .i64)]
abbrev ex56_0 : List (Ex × List (Nat × Kd)) := [(.ret, [(4, .int .i64)]), (.exit 0, [])]
def step56_0 (x : Shape.den sh56_0) : Option (Shape.den sh56_0 ⊕ exDen ex56_0) := match x with
  | (v1, v8, v9, v10, ()) =>
    bif ltI v10 v9 then
      bif idxOk v10 v8.length then askO (f29 ((v8.getD v10.toNat []), ())) fun y2 =>
      bif !(eqI y2.1 0) then
        some (.inr (.inl (y2.1, ())))
      else bif !(eqI ((v8.getD v10.toNat []).length : Int) v1) then
        some (.inr (.inl (5, ())))
      else some (.inl (v1, v8, v9, (wrapF .i64 (v10 + 1)), ())) else none
    else some (.inr (.inr ((()))))
def loop56_0 (x : Shape.den sh56_0) : Option (exDen ex56_0) := loopN step56_0 (2 ^ 64) x
def f56 (x : denK [.list (.list (.int .i64)), .int .i64]) : Option (denK [.int .i64]) := match x with
  | (v0, v1, ()) =>
    askO (loop56_0 (v1, v0, (v0.length : Int), 0, ())) fun z3 =>
    onSum z3 (fun a4 => some (a4.1, ())) fun b5 =>
    some (0, ())
noncomputable def c56 : Code := bodyOf Try.f56
abbrev E56 : Env := envOf [e29]
theorem E56_ok : EnvOK Try.prog E56 := env_ok ⟨e29_ok, trivial⟩
noncomputable def a56_0 : Code := loopAt c56 0
def lt56 (id : Nat) : Option LSpec := bif Nat.beq id 2 then some ⟨sh56_0, ex56_0, loop56_0⟩ else none
theorem round56_0 : ∀ x, roundK Try.prog E56 24 (keepOf Try.f56) lt56 a56_0 sh56_0 ex56_0 x = step56_0 x := by
  rintro ⟨v1, v8, v9, v10, ⟨⟩⟩
  kernel_rfl
theorem in56_0 : loopsOf a56_0 = [] := by kernel_rfl
theorem first56_0 : firstRegion a56_0 = 2 := by kernel_rfl
theorem spec56_0 : SpecOK Try.prog 24 a56_0 ⟨sh56_0, ex56_0, loop56_0⟩ := by
  exact loop_ok E56_ok.callee progOK.mixed _ (loops_ok in56_0 trivial) round56_0
theorem loops56 : loopsOf c56 = [a56_0] := by kernel_rfl
theorem body56 : ∀ x, bodyK Try.prog E56 Try.f56 (keepOf Try.f56) lt56 c56 [.list (.list (.int .i64)), .int .i64] [.int .i64] x = f56 x := by
  rintro ⟨v0, v1, ⟨⟩⟩
  kernel_rfl
theorem fn56 : FnOK Try.prog 56 [.list (.list (.int .i64)), .int .i64] [.int .i64] f56 := by
  exact fun_ok progOK E56_ok Try.func56 (c := c56) (by kernel_rfl) (keep := keepOf Try.f56) (lt := lt56) (loops_ok loops56 ⟨spec_of first56_0 rfl spec56_0, trivial⟩) body56
abbrev e56 : Ent := ⟨56, [.list (.list (.int .i64)), .int .i64], [.int .i64], f56⟩
theorem e56_ok : Ent.OK Try.prog e56 := fn56

/-! schisma/consonance.rows -/
def f31 (x : denK [.int .i64, .list (.list (.int .i64))]) : Option (denK [.int .i64]) := match x with
  | (v0, v1, ()) =>
    bif ltI v0 0 then
      some (3, ())
    else bif ltI 12 v0 then
      some (3, ())
    else askO (f56 (v1, v0, ())) fun y1 =>
    some (y1.1, ())
noncomputable def c31 : Code := bodyOf Try.f31
abbrev E31 : Env := envOf [e56]
theorem E31_ok : EnvOK Try.prog E31 := env_ok ⟨e56_ok, trivial⟩
def lt31 (id : Nat) : Option LSpec := none
theorem loops31 : loopsOf c31 = [] := by kernel_rfl
theorem body31 : ∀ x, bodyK Try.prog E31 Try.f31 (keepOf Try.f31) lt31 c31 [.int .i64, .list (.list (.int .i64))] [.int .i64] x = f31 x := by
  rintro ⟨v0, v1, ⟨⟩⟩
  kernel_rfl
theorem fn31 : FnOK Try.prog 31 [.int .i64, .list (.list (.int .i64))] [.int .i64] f31 := by
  exact fun_ok progOK E31_ok Try.func31 (c := c31) (by kernel_rfl) (keep := keepOf Try.f31) (lt := lt31) (loops_ok loops31 trivial) body31
abbrev e31 : Ent := ⟨31, [.int .i64, .list (.list (.int .i64))], [.int .i64], f31⟩
theorem e31_ok : Ent.OK Try.prog e31 := fn31

/-! schisma/consonance.plus -/
abbrev sh34_0 : List (Nat × Kd) := [(0, .list (.int .i64)), (1, .list (.int .i64)), (2, .int .i64), (7, .own 3 (.int .i64)), (13, .int .i64), (14, .int .i64)]
abbrev ex34_0 : List (Ex × List (Nat × Kd)) := [(.exit 0, [(7, .own 3 (.int .i64))])]
def step34_0 (x : Shape.den sh34_0) : Option (Shape.den sh34_0 ⊕ exDen ex34_0) := match x with
  | (v0, v1, v2, v7, v13, v14, ()) =>
    bif ltI v14 v13 then
      bif idxOk v14 v0.length then bif idxOk v14 v1.length then bif idxOk v14 v7.length then bif Nat.blt v14.toNat v7.length then some (.inl (v0, v1, v2, (v7.set v14.toNat (wrapF .i64 ((v0.getD v14.toNat 0) + (wrapF .i64 (v2 * (v1.getD v14.toNat 0)))))), v13, (wrapF .i64 (v14 + 1)), ())) else none else none else none else none
    else some (.inr ((v7, ())))
def loop34_0 (x : Shape.den sh34_0) : Option (exDen ex34_0) := loopN step34_0 (2 ^ 64) x
def f34 (x : denK [.list (.int .i64), .list (.int .i64), .int .i64]) : Option (denK [.list (.int .i64)]) := match x with
  | (v0, v1, v2, ()) =>
    bif !(ltI (v0.length : Int) 0) then bif !(ltI (v0.length : Int) (v0.length : Int)) then bif !(ltI 1048576 (v0.length : Int)) then askO (loop34_0 (v0, v1, v2, (List.replicate ((v0.length : Int).toNat) 0), (v0.length : Int), 0, ())) fun z1 =>
    some (z1.1, ()) else none else none else none
noncomputable def c34 : Code := bodyOf Try.f34
abbrev E34 : Env := envOf []
theorem E34_ok : EnvOK Try.prog E34 := env_ok trivial
noncomputable def a34_0 : Code := loopAt c34 0
def lt34 (id : Nat) : Option LSpec := bif Nat.beq id 3 then some ⟨sh34_0, ex34_0, loop34_0⟩ else none
theorem round34_0 : ∀ x, roundK Try.prog E34 33 (keepOf Try.f34) lt34 a34_0 sh34_0 ex34_0 x = step34_0 x := by
  rintro ⟨v0, v1, v2, v7, v13, v14, ⟨⟩⟩
  kernel_rfl
theorem in34_0 : loopsOf a34_0 = [] := by kernel_rfl
theorem first34_0 : firstRegion a34_0 = 3 := by kernel_rfl
theorem spec34_0 : SpecOK Try.prog 33 a34_0 ⟨sh34_0, ex34_0, loop34_0⟩ := by
  exact loop_ok E34_ok.callee progOK.mixed _ (loops_ok in34_0 trivial) round34_0
theorem loops34 : loopsOf c34 = [a34_0] := by kernel_rfl
theorem body34 : ∀ x, bodyK Try.prog E34 Try.f34 (keepOf Try.f34) lt34 c34 [.list (.int .i64), .list (.int .i64), .int .i64] [.list (.int .i64)] x = f34 x := by
  rintro ⟨v0, v1, v2, ⟨⟩⟩
  kernel_rfl
theorem fn34 : FnOK Try.prog 34 [.list (.int .i64), .list (.int .i64), .int .i64] [.list (.int .i64)] f34 := by
  exact fun_ok progOK E34_ok Try.func34 (c := c34) (by kernel_rfl) (keep := keepOf Try.f34) (lt := lt34) (loops_ok loops34 ⟨spec_of first34_0 rfl spec34_0, trivial⟩) body34
abbrev e34 : Ent := ⟨34, [.list (.int .i64), .list (.int .i64), .int .i64], [.list (.int .i64)], f34⟩
theorem e34_ok : Ent.OK Try.prog e34 := fn34

/-! schisma/consonance.plus -/
abbrev sh34o_0 : List (Nat × Kd) := [(0, .list (.int .i64)), (1, .list (.int .i64)), (2, .int .i64), (7, .own 3 (.int .i64)), (13, .int .i64), (14, .int .i64)]
abbrev ex34o_0 : List (Ex × List (Nat × Kd)) := [(.exit 0, [(7, .own 3 (.int .i64))])]
def step34o_0 (x : Shape.den sh34o_0) : Option (Shape.den sh34o_0 ⊕ exDen ex34o_0) := match x with
  | (v0, v1, v2, v7, v13, v14, ()) =>
    bif ltI v14 v13 then
      bif idxOk v14 v0.length then bif idxOk v14 v1.length then bif idxOk v14 v7.length then bif Nat.blt v14.toNat v7.length then some (.inl (v0, v1, v2, (v7.set v14.toNat (wrapF .i64 ((v0.getD v14.toNat 0) + (wrapF .i64 (v2 * (v1.getD v14.toNat 0)))))), v13, (wrapF .i64 (v14 + 1)), ())) else none else none else none else none
    else some (.inr ((v7, ())))
def loop34o_0 (x : Shape.den sh34o_0) : Option (exDen ex34o_0) := loopN step34o_0 (2 ^ 64) x
def f34o (x : denK [.list (.int .i64), .list (.int .i64), .int .i64]) : Option (List Int) := match x with
  | (v0, v1, v2, ()) =>
    bif !(ltI (v0.length : Int) 0) then bif !(ltI (v0.length : Int) (v0.length : Int)) then bif !(ltI 1048576 (v0.length : Int)) then askO (loop34o_0 (v0, v1, v2, (List.replicate ((v0.length : Int).toNat) 0), (v0.length : Int), 0, ())) fun z1 =>
    some z1.1 else none else none else none
noncomputable def c34o : Code := bodyOf Try.f34
abbrev E34o : Env := envOf []
theorem E34o_ok : EnvOK Try.prog E34o := env_ok trivial
noncomputable def a34o_0 : Code := loopAt c34o 0
def lt34o (id : Nat) : Option LSpec := bif Nat.beq id 3 then some ⟨sh34o_0, ex34o_0, loop34o_0⟩ else none
theorem round34o_0 : ∀ x, roundK Try.prog E34o 33 (keepOf Try.f34) lt34o a34o_0 sh34o_0 ex34o_0 x = step34o_0 x := by
  rintro ⟨v0, v1, v2, v7, v13, v14, ⟨⟩⟩
  kernel_rfl
theorem in34o_0 : loopsOf a34o_0 = [] := by kernel_rfl
theorem first34o_0 : firstRegion a34o_0 = 3 := by kernel_rfl
theorem spec34o_0 : SpecOK Try.prog 33 a34o_0 ⟨sh34o_0, ex34o_0, loop34o_0⟩ := by
  exact loop_ok E34o_ok.callee progOK.mixed _ (loops_ok in34o_0 trivial) round34o_0
theorem loops34o : loopsOf c34o = [a34o_0] := by kernel_rfl
theorem body34o : ∀ x, bodyO Try.prog E34o Try.f34 (keepOf Try.f34) lt34o c34o [.list (.int .i64), .list (.int .i64), .int .i64] 6 3 (.int .i64) x = f34o x := by
  rintro ⟨v0, v1, v2, ⟨⟩⟩
  kernel_rfl
theorem fn34o : FnOwn Try.prog 34 [.list (.int .i64), .list (.int .i64), .int .i64] 3 (.int .i64) f34o := by
  exact fun_own progOK E34o_ok Try.func34 (c := c34o) (by kernel_rfl) (keep := keepOf Try.f34) (lt := lt34o) (t := 6) (by kernel_rfl) (loops_ok loops34o ⟨spec_of first34o_0 rfl spec34o_0, trivial⟩) body34o
abbrev s34o : Shr := (34, ownH [.list (.int .i64), .list (.int .i64), .int .i64] 3 (.int .i64) f34o)
theorem s34o_ok : ShrOK Try.prog s34o := ownH_ok fn34o

/-! schisma/schismalaw40.zero -/
abbrev sh40_0 : List (Nat × Kd) := [(0, .list (.int .i64)), (3, .int .i64)]
abbrev ex40_0 : List (Ex × List (Nat × Kd)) := [(.ret, [(2, .bool)]), (.exit 0, [])]
def step40_0 (x : Shape.den sh40_0) : Option (Shape.den sh40_0 ⊕ exDen ex40_0) := match x with
  | (v0, v3, ()) =>
    bif ltI v3 (v0.length : Int) then
      bif idxOk v3 v0.length then bif !(eqI (v0.getD v3.toNat 0) 0) then
        some (.inr (.inl (false, ())))
      else some (.inl (v0, (wrapF .i64 (v3 + 1)), ())) else none
    else some (.inr (.inr ((()))))
def loop40_0 (x : Shape.den sh40_0) : Option (exDen ex40_0) := loopN step40_0 (2 ^ 64) x
def f40 (x : denK [.list (.int .i64)]) : Option (denK [.bool]) := match x with
  | (v0, ()) =>
    askO (loop40_0 (v0, 0, ())) fun z1 =>
    onSum z1 (fun a2 => some (a2.1, ())) fun b3 =>
    some (true, ())
noncomputable def c40 : Code := bodyOf Try.f40
abbrev E40 : Env := envOf []
theorem E40_ok : EnvOK Try.prog E40 := env_ok trivial
noncomputable def a40_0 : Code := loopAt c40 0
def lt40 (id : Nat) : Option LSpec := bif Nat.beq id 2 then some ⟨sh40_0, ex40_0, loop40_0⟩ else none
theorem round40_0 : ∀ x, roundK Try.prog E40 15 (keepOf Try.f40) lt40 a40_0 sh40_0 ex40_0 x = step40_0 x := by
  rintro ⟨v0, v3, ⟨⟩⟩
  kernel_rfl
theorem in40_0 : loopsOf a40_0 = [] := by kernel_rfl
theorem first40_0 : firstRegion a40_0 = 2 := by kernel_rfl
theorem spec40_0 : SpecOK Try.prog 15 a40_0 ⟨sh40_0, ex40_0, loop40_0⟩ := by
  exact loop_ok E40_ok.callee progOK.mixed _ (loops_ok in40_0 trivial) round40_0
theorem loops40 : loopsOf c40 = [a40_0] := by kernel_rfl
theorem body40 : ∀ x, bodyK Try.prog E40 Try.f40 (keepOf Try.f40) lt40 c40 [.list (.int .i64)] [.bool] x = f40 x := by
  rintro ⟨v0, ⟨⟩⟩
  kernel_rfl
theorem fn40 : FnOK Try.prog 40 [.list (.int .i64)] [.bool] f40 := by
  exact fun_ok progOK E40_ok Try.func40 (c := c40) (by kernel_rfl) (keep := keepOf Try.f40) (lt := lt40) (loops_ok loops40 ⟨spec_of first40_0 rfl spec40_0, trivial⟩) body40
abbrev e40 : Ent := ⟨40, [.list (.int .i64)], [.bool], f40⟩
theorem e40_ok : Ent.OK Try.prog e40 := fn40

/-! schisma/schismalaw12.Same -/
abbrev sh39_0 : List (Nat × Kd) := [(0, .list (.int .i64)), (1, .list (.int .i64)), (5, .int .i64)]
abbrev ex39_0 : List (Ex × List (Nat × Kd)) := [(.ret, [(4, .bool)]), (.exit 0, [])]
def step39_0 (x : Shape.den sh39_0) : Option (Shape.den sh39_0 ⊕ exDen ex39_0) := match x with
  | (v0, v1, v5, ()) =>
    bif ltI v5 (v0.length : Int) then
      bif idxOk v5 v0.length then bif idxOk v5 v1.length then bif !(eqI (v0.getD v5.toNat 0) (v1.getD v5.toNat 0)) then
        some (.inr (.inl (false, ())))
      else some (.inl (v0, v1, (wrapF .i64 (v5 + 1)), ())) else none else none
    else some (.inr (.inr ((()))))
def loop39_0 (x : Shape.den sh39_0) : Option (exDen ex39_0) := loopN step39_0 (2 ^ 64) x
def f39 (x : denK [.list (.int .i64), .list (.int .i64)]) : Option (denK [.bool]) := match x with
  | (v0, v1, ()) =>
    bif !(eqI (v0.length : Int) (v1.length : Int)) then
      some (false, ())
    else askO (loop39_0 (v0, v1, 0, ())) fun z1 =>
    onSum z1 (fun a2 => some (a2.1, ())) fun b3 =>
    some (true, ())
noncomputable def c39 : Code := bodyOf Try.f39
abbrev E39 : Env := envOf []
theorem E39_ok : EnvOK Try.prog E39 := env_ok trivial
noncomputable def a39_0 : Code := loopAt c39 0
def lt39 (id : Nat) : Option LSpec := bif Nat.beq id 4 then some ⟨sh39_0, ex39_0, loop39_0⟩ else none
theorem round39_0 : ∀ x, roundK Try.prog E39 26 (keepOf Try.f39) lt39 a39_0 sh39_0 ex39_0 x = step39_0 x := by
  rintro ⟨v0, v1, v5, ⟨⟩⟩
  kernel_rfl
theorem in39_0 : loopsOf a39_0 = [] := by kernel_rfl
theorem first39_0 : firstRegion a39_0 = 4 := by kernel_rfl
theorem spec39_0 : SpecOK Try.prog 26 a39_0 ⟨sh39_0, ex39_0, loop39_0⟩ := by
  exact loop_ok E39_ok.callee progOK.mixed _ (loops_ok in39_0 trivial) round39_0
theorem loops39 : loopsOf c39 = [a39_0] := by kernel_rfl
theorem body39 : ∀ x, bodyK Try.prog E39 Try.f39 (keepOf Try.f39) lt39 c39 [.list (.int .i64), .list (.int .i64)] [.bool] x = f39 x := by
  rintro ⟨v0, v1, ⟨⟩⟩
  kernel_rfl
theorem fn39 : FnOK Try.prog 39 [.list (.int .i64), .list (.int .i64)] [.bool] f39 := by
  exact fun_ok progOK E39_ok Try.func39 (c := c39) (by kernel_rfl) (keep := keepOf Try.f39) (lt := lt39) (loops_ok loops39 ⟨spec_of first39_0 rfl spec39_0, trivial⟩) body39
abbrev e39 : Ent := ⟨39, [.list (.int .i64), .list (.int .i64)], [.bool], f39⟩
theorem e39_ok : Ent.OK Try.prog e39 := fn39

/-! schisma/schismalaw40.minus -/
abbrev sh28_0 : List (Nat × Kd) := [(0, .list (.int .i64)), (1, .list (.int .i64)), (5, .own 3 (.int .i64)), (6, .int .i64)]
abbrev ex28_0 : List (Ex × List (Nat × Kd)) := [(.exit 0, [(5, .own 3 (.int .i64))])]
def step28_0 (x : Shape.den sh28_0) : Option (Shape.den sh28_0 ⊕ exDen ex28_0) := match x with
  | (v0, v1, v5, v6, ()) =>
    bif ltI v6 (v0.length : Int) then
      bif idxOk v6 v0.length then bif idxOk v6 v1.length then bif idxOk v6 v5.length then bif Nat.blt v6.toNat v5.length then some (.inl (v0, v1, (v5.set v6.toNat (wrapF .i64 ((v0.getD v6.toNat 0) - (v1.getD v6.toNat 0)))), (wrapF .i64 (v6 + 1)), ())) else none else none else none else none
    else some (.inr ((v5, ())))
def loop28_0 (x : Shape.den sh28_0) : Option (exDen ex28_0) := loopN step28_0 (2 ^ 64) x
def f28 (x : denK [.list (.int .i64), .list (.int .i64)]) : Option (denK [.list (.int .i64)]) := match x with
  | (v0, v1, ()) =>
    bif !(ltI (v0.length : Int) 0) then bif !(ltI (v0.length : Int) (v0.length : Int)) then bif !(ltI 1048576 (v0.length : Int)) then askO (loop28_0 (v0, v1, (List.replicate ((v0.length : Int).toNat) 0), 0, ())) fun z1 =>
    some (z1.1, ()) else none else none else none
noncomputable def c28 : Code := bodyOf Try.f28
abbrev E28 : Env := envOf []
theorem E28_ok : EnvOK Try.prog E28 := env_ok trivial
noncomputable def a28_0 : Code := loopAt c28 0
def lt28 (id : Nat) : Option LSpec := bif Nat.beq id 3 then some ⟨sh28_0, ex28_0, loop28_0⟩ else none
theorem round28_0 : ∀ x, roundK Try.prog E28 29 (keepOf Try.f28) lt28 a28_0 sh28_0 ex28_0 x = step28_0 x := by
  rintro ⟨v0, v1, v5, v6, ⟨⟩⟩
  kernel_rfl
theorem in28_0 : loopsOf a28_0 = [] := by kernel_rfl
theorem first28_0 : firstRegion a28_0 = 3 := by kernel_rfl
theorem spec28_0 : SpecOK Try.prog 29 a28_0 ⟨sh28_0, ex28_0, loop28_0⟩ := by
  exact loop_ok E28_ok.callee progOK.mixed _ (loops_ok in28_0 trivial) round28_0
theorem loops28 : loopsOf c28 = [a28_0] := by kernel_rfl
theorem body28 : ∀ x, bodyK Try.prog E28 Try.f28 (keepOf Try.f28) lt28 c28 [.list (.int .i64), .list (.int .i64)] [.list (.int .i64)] x = f28 x := by
  rintro ⟨v0, v1, ⟨⟩⟩
  kernel_rfl
theorem fn28 : FnOK Try.prog 28 [.list (.int .i64), .list (.int .i64)] [.list (.int .i64)] f28 := by
  exact fun_ok progOK E28_ok Try.func28 (c := c28) (by kernel_rfl) (keep := keepOf Try.f28) (lt := lt28) (loops_ok loops28 ⟨spec_of first28_0 rfl spec28_0, trivial⟩) body28
abbrev e28 : Ent := ⟨28, [.list (.int .i64), .list (.int .i64)], [.list (.int .i64)], f28⟩
theorem e28_ok : Ent.OK Try.prog e28 := fn28

/-! schisma/schismalaw40.rows -/
abbrev sh14_0 : List (Nat × Kd) := [(0, .list (.list (.int .i64))), (1, .list (.list (.int .i64))), (5, .int .i64)]
abbrev ex14_0 : List (Ex × List (Nat × Kd)) := [(.ret, [(4, .bool)]), (.exit 0, [])]
def step14_0 (x : Shape.den sh14_0) : Option (Shape.den sh14_0 ⊕ exDen ex14_0) := match x with
  | (v0, v1, v5, ()) =>
    bif ltI v5 (v0.length : Int) then
      bif idxOk v5 v0.length then bif idxOk v5 v1.length then askO (f39 ((v0.getD v5.toNat []), (v1.getD v5.toNat []), ())) fun y2 =>
      bif y2.1 then
        some (.inl (v0, v1, (wrapF .i64 (v5 + 1)), ()))
      else some (.inr (.inl (false, ()))) else none else none
    else some (.inr (.inr ((()))))
def loop14_0 (x : Shape.den sh14_0) : Option (exDen ex14_0) := loopN step14_0 (2 ^ 64) x
def f14 (x : denK [.list (.list (.int .i64)), .list (.list (.int .i64))]) : Option (denK [.bool]) := match x with
  | (v0, v1, ()) =>
    bif !(eqI (v0.length : Int) (v1.length : Int)) then
      some (false, ())
    else askO (loop14_0 (v0, v1, 0, ())) fun z3 =>
    onSum z3 (fun a4 => some (a4.1, ())) fun b5 =>
    some (true, ())
noncomputable def c14 : Code := bodyOf Try.f14
abbrev E14 : Env := envOf [e39]
theorem E14_ok : EnvOK Try.prog E14 := env_ok ⟨e39_ok, trivial⟩
noncomputable def a14_0 : Code := loopAt c14 0
def lt14 (id : Nat) : Option LSpec := bif Nat.beq id 4 then some ⟨sh14_0, ex14_0, loop14_0⟩ else none
theorem round14_0 : ∀ x, roundK Try.prog E14 27 (keepOf Try.f14) lt14 a14_0 sh14_0 ex14_0 x = step14_0 x := by
  rintro ⟨v0, v1, v5, ⟨⟩⟩
  kernel_rfl
theorem in14_0 : loopsOf a14_0 = [] := by kernel_rfl
theorem first14_0 : firstRegion a14_0 = 4 := by kernel_rfl
theorem spec14_0 : SpecOK Try.prog 27 a14_0 ⟨sh14_0, ex14_0, loop14_0⟩ := by
  exact loop_ok E14_ok.callee progOK.mixed _ (loops_ok in14_0 trivial) round14_0
theorem loops14 : loopsOf c14 = [a14_0] := by kernel_rfl
theorem body14 : ∀ x, bodyK Try.prog E14 Try.f14 (keepOf Try.f14) lt14 c14 [.list (.list (.int .i64)), .list (.list (.int .i64))] [.bool] x = f14 x := by
  rintro ⟨v0, v1, ⟨⟩⟩
  kernel_rfl
theorem fn14 : FnOK Try.prog 14 [.list (.list (.int .i64)), .list (.list (.int .i64))] [.bool] f14 := by
  exact fun_ok progOK E14_ok Try.func14 (c := c14) (by kernel_rfl) (keep := keepOf Try.f14) (lt := lt14) (loops_ok loops14 ⟨spec_of first14_0 rfl spec14_0, trivial⟩) body14
abbrev e14 : Ent := ⟨14, [.list (.list (.int .i64)), .list (.list (.int .i64))], [.bool], f14⟩
theorem e14_ok : Ent.OK Try.prog e14 := fn14

/-! schisma/schismalaw40.same -/
abbrev sh18_0 : List (Nat × Kd) := [(0, .list (.list (.list (.int .i64)))), (1, .list (.list (.list (.int .i64)))), (5, .int .i64)]
abbrev ex18_0 : List (Ex × List (Nat × Kd)) := [(.ret, [(4, .bool)]), (.exit 0, [])]
def step18_0 (x : Shape.den sh18_0) : Option (Shape.den sh18_0 ⊕ exDen ex18_0) := match x with
  | (v0, v1, v5, ()) =>
    bif ltI v5 (v0.length : Int) then
      bif idxOk v5 v0.length then bif idxOk v5 v1.length then askO (f14 ((v0.getD v5.toNat []), (v1.getD v5.toNat []), ())) fun y2 =>
      bif y2.1 then
        some (.inl (v0, v1, (wrapF .i64 (v5 + 1)), ()))
      else some (.inr (.inl (false, ()))) else none else none
    else some (.inr (.inr ((()))))
def loop18_0 (x : Shape.den sh18_0) : Option (exDen ex18_0) := loopN step18_0 (2 ^ 64) x
def f18 (x : denK [.list (.list (.list (.int .i64))), .list (.list (.list (.int .i64)))]) : Option (denK [.bool]) := match x with
  | (v0, v1, ()) =>
    bif !(eqI (v0.length : Int) (v1.length : Int)) then
      some (false, ())
    else askO (loop18_0 (v0, v1, 0, ())) fun z3 =>
    onSum z3 (fun a4 => some (a4.1, ())) fun b5 =>
    some (true, ())
noncomputable def c18 : Code := bodyOf Try.f18
abbrev E18 : Env := envOf [e14]
theorem E18_ok : EnvOK Try.prog E18 := env_ok ⟨e14_ok, trivial⟩
noncomputable def a18_0 : Code := loopAt c18 0
def lt18 (id : Nat) : Option LSpec := bif Nat.beq id 4 then some ⟨sh18_0, ex18_0, loop18_0⟩ else none
theorem round18_0 : ∀ x, roundK Try.prog E18 27 (keepOf Try.f18) lt18 a18_0 sh18_0 ex18_0 x = step18_0 x := by
  rintro ⟨v0, v1, v5, ⟨⟩⟩
  kernel_rfl
theorem in18_0 : loopsOf a18_0 = [] := by kernel_rfl
theorem first18_0 : firstRegion a18_0 = 4 := by kernel_rfl
theorem spec18_0 : SpecOK Try.prog 27 a18_0 ⟨sh18_0, ex18_0, loop18_0⟩ := by
  exact loop_ok E18_ok.callee progOK.mixed _ (loops_ok in18_0 trivial) round18_0
theorem loops18 : loopsOf c18 = [a18_0] := by kernel_rfl
theorem body18 : ∀ x, bodyK Try.prog E18 Try.f18 (keepOf Try.f18) lt18 c18 [.list (.list (.list (.int .i64))), .list (.list (.list (.int .i64)))] [.bool] x = f18 x := by
  rintro ⟨v0, v1, ⟨⟩⟩
  kernel_rfl
theorem fn18 : FnOK Try.prog 18 [.list (.list (.list (.int .i64))), .list (.list (.list (.int .i64)))] [.bool] f18 := by
  exact fun_ok progOK E18_ok Try.func18 (c := c18) (by kernel_rfl) (keep := keepOf Try.f18) (lt := lt18) (loops_ok loops18 ⟨spec_of first18_0 rfl spec18_0, trivial⟩) body18
abbrev e18 : Ent := ⟨18, [.list (.list (.list (.int .i64))), .list (.list (.list (.int .i64)))], [.bool], f18⟩
theorem e18_ok : Ent.OK Try.prog e18 := fn18

/-! schisma/schismalaw40.few -/
abbrev sh11_0 : List (Nat × Kd) := [(0, .list (.list (.int .i64))), (3, .int .i64)]
abbrev ex11_0 : List (Ex × List (Nat × Kd)) := [(.ret, [(2, .bool)]), (.exit 0, [(0, .list (.list (.int .i64)))])]
def step11_0 (x : Shape.den sh11_0) : Option (Shape.den sh11_0 ⊕ exDen ex11_0) := match x with
  | (v0, v3, ()) =>
    bif ltI v3 (v0.length : Int) then
      bif idxOk v3 v0.length then bif ltI 14 ((v0.getD v3.toNat []).length : Int) then
        some (.inr (.inl (false, ())))
      else some (.inl (v0, (wrapF .i64 (v3 + 1)), ())) else none
    else some (.inr (.inr ((v0, ()))))
def loop11_0 (x : Shape.den sh11_0) : Option (exDen ex11_0) := loopN step11_0 (2 ^ 64) x
def f11 (x : denK [.list (.list (.int .i64))]) : Option (denK [.bool]) := match x with
  | (v0, ()) =>
    askO (loop11_0 (v0, 0, ())) fun z1 =>
    onSum z1 (fun a2 => some (a2.1, ())) fun b3 =>
    some (!(ltI 40 (b3.1.length : Int)), ())
noncomputable def c11 : Code := bodyOf Try.f11
abbrev E11 : Env := envOf []
theorem E11_ok : EnvOK Try.prog E11 := env_ok trivial
noncomputable def a11_0 : Code := loopAt c11 0
def lt11 (id : Nat) : Option LSpec := bif Nat.beq id 2 then some ⟨sh11_0, ex11_0, loop11_0⟩ else none
theorem round11_0 : ∀ x, roundK Try.prog E11 19 (keepOf Try.f11) lt11 a11_0 sh11_0 ex11_0 x = step11_0 x := by
  rintro ⟨v0, v3, ⟨⟩⟩
  kernel_rfl
theorem in11_0 : loopsOf a11_0 = [] := by kernel_rfl
theorem first11_0 : firstRegion a11_0 = 2 := by kernel_rfl
theorem spec11_0 : SpecOK Try.prog 19 a11_0 ⟨sh11_0, ex11_0, loop11_0⟩ := by
  exact loop_ok E11_ok.callee progOK.mixed _ (loops_ok in11_0 trivial) round11_0
theorem loops11 : loopsOf c11 = [a11_0] := by kernel_rfl
theorem body11 : ∀ x, bodyK Try.prog E11 Try.f11 (keepOf Try.f11) lt11 c11 [.list (.list (.int .i64))] [.bool] x = f11 x := by
  rintro ⟨v0, ⟨⟩⟩
  kernel_rfl
theorem fn11 : FnOK Try.prog 11 [.list (.list (.int .i64))] [.bool] f11 := by
  exact fun_ok progOK E11_ok Try.func11 (c := c11) (by kernel_rfl) (keep := keepOf Try.f11) (lt := lt11) (loops_ok loops11 ⟨spec_of first11_0 rfl spec11_0, trivial⟩) body11
abbrev e11 : Ent := ⟨11, [.list (.list (.int .i64))], [.bool], f11⟩
theorem e11_ok : Ent.OK Try.prog e11 := fn11

/-! schisma/schismalaw40.check -/
abbrev sh26_0 : List (Nat × Kd) := [(0, .int .i64), (1, .list (.list (.int .i64))), (5, .int .i64)]
abbrev ex26_0 : List (Ex × List (Nat × Kd)) := [(.ret, [(4, .int .i64)]), (.exit 0, [])]
def step26_0 (x : Shape.den sh26_0) : Option (Shape.den sh26_0 ⊕ exDen ex26_0) := match x with
  | (v0, v1, v5, ()) =>
    bif ltI v5 (v1.length : Int) then
      bif idxOk v5 v1.length then askO (f29 ((v1.getD v5.toNat []), ())) fun y2 =>
      bif !(eqI y2.1 0) then
        some (.inr (.inl (y2.1, ())))
      else bif idxOk v5 v1.length then bif !(eqI ((v1.getD v5.toNat []).length : Int) v0) then
        some (.inr (.inl (5, ())))
      else some (.inl (v0, v1, (wrapF .i64 (v5 + 1)), ())) else none else none
    else some (.inr (.inr ((()))))
def loop26_0 (x : Shape.den sh26_0) : Option (exDen ex26_0) := loopN step26_0 (2 ^ 64) x
def f26 (x : denK [.int .i64, .list (.list (.int .i64))]) : Option (denK [.int .i64]) := match x with
  | (v0, v1, ()) =>
    bif ltI v0 0 then
      some (3, ())
    else bif ltI 12 v0 then
      some (3, ())
    else askO (loop26_0 (v0, v1, 0, ())) fun z3 =>
    onSum z3 (fun a4 => some (a4.1, ())) fun b5 =>
    some (0, ())
noncomputable def c26 : Code := bodyOf Try.f26
abbrev E26 : Env := envOf [e29]
theorem E26_ok : EnvOK Try.prog E26 := env_ok ⟨e29_ok, trivial⟩
noncomputable def a26_0 : Code := loopAt c26 0
def lt26 (id : Nat) : Option LSpec := bif Nat.beq id 4 then some ⟨sh26_0, ex26_0, loop26_0⟩ else none
theorem round26_0 : ∀ x, roundK Try.prog E26 34 (keepOf Try.f26) lt26 a26_0 sh26_0 ex26_0 x = step26_0 x := by
  rintro ⟨v0, v1, v5, ⟨⟩⟩
  kernel_rfl
theorem in26_0 : loopsOf a26_0 = [] := by kernel_rfl
theorem first26_0 : firstRegion a26_0 = 4 := by kernel_rfl
theorem spec26_0 : SpecOK Try.prog 34 a26_0 ⟨sh26_0, ex26_0, loop26_0⟩ := by
  exact loop_ok E26_ok.callee progOK.mixed _ (loops_ok in26_0 trivial) round26_0
theorem loops26 : loopsOf c26 = [a26_0] := by kernel_rfl
theorem body26 : ∀ x, bodyK Try.prog E26 Try.f26 (keepOf Try.f26) lt26 c26 [.int .i64, .list (.list (.int .i64))] [.int .i64] x = f26 x := by
  rintro ⟨v0, v1, ⟨⟩⟩
  kernel_rfl
theorem fn26 : FnOK Try.prog 26 [.int .i64, .list (.list (.int .i64))] [.int .i64] f26 := by
  exact fun_ok progOK E26_ok Try.func26 (c := c26) (by kernel_rfl) (keep := keepOf Try.f26) (lt := lt26) (loops_ok loops26 ⟨spec_of first26_0 rfl spec26_0, trivial⟩) body26
abbrev e26 : Ent := ⟨26, [.int .i64, .list (.list (.int .i64))], [.int .i64], f26⟩
theorem e26_ok : Ent.OK Try.prog e26 := fn26

/-! schisma/schismalaw40.checkChord -/
abbrev sh22_0 : List (Nat × Kd) := [(0, .int .i64), (1, .list (.list (.int .i64))), (5, .int .i64)]
abbrev ex22_0 : List (Ex × List (Nat × Kd)) := [(.ret, [(4, .int .i64)]), (.exit 1, [])]
def step22_0 (x : Shape.den sh22_0) : Option (Shape.den sh22_0 ⊕ exDen ex22_0) := match x with
  | (v0, v1, v5, ()) =>
    bif ltI v5 (v1.length : Int) then
      bif idxOk v5 v1.length then askO (f29 ((v1.getD v5.toNat []), ())) fun y5 =>
      bif !(eqI y5.1 0) then
        some (.inr (.inl (y5.1, ())))
      else bif idxOk v5 v1.length then bif !(eqI ((v1.getD v5.toNat []).length : Int) v0) then
        some (.inr (.inl (5, ())))
      else bif eqI v5 0 then
        bif idxOk v5 v1.length then askO (f40 ((v1.getD v5.toNat []), ())) fun y6 =>
        bif y6.1 then
          bif ltI 0 v5 then
            bif idxOk (wrapF .i64 (v5 - 1)) v1.length then bif idxOk v5 v1.length then askO (f36 ((v1.getD ((wrapF .i64 (v5 - 1)).toNat) []), (v1.getD v5.toNat []), ())) fun y7 =>
            bif !(ltI y7.1 0) then
              some (.inr (.inl (6, ())))
            else some (.inl (v0, v1, (wrapF .i64 (v5 + 1)), ())) else none else none
          else some (.inl (v0, v1, (wrapF .i64 (v5 + 1)), ()))
        else some (.inr (.inl (7, ()))) else none
      else bif ltI 0 v5 then
        bif idxOk (wrapF .i64 (v5 - 1)) v1.length then bif idxOk v5 v1.length then askO (f36 ((v1.getD ((wrapF .i64 (v5 - 1)).toNat) []), (v1.getD v5.toNat []), ())) fun y8 =>
        bif !(ltI y8.1 0) then
          some (.inr (.inl (6, ())))
        else some (.inl (v0, v1, (wrapF .i64 (v5 + 1)), ())) else none else none
      else some (.inl (v0, v1, (wrapF .i64 (v5 + 1)), ())) else none else none
    else some (.inr (.inr ((()))))
def loop22_0 (x : Shape.den sh22_0) : Option (exDen ex22_0) := loopN step22_0 (2 ^ 64) x
def f22 (x : denK [.int .i64, .list (.list (.int .i64))]) : Option (denK [.int .i64]) := match x with
  | (v0, v1, ()) =>
    bif ltI v0 0 then
      some (3, ())
    else bif ltI 12 v0 then
      some (3, ())
    else bif eqI (v1.length : Int) 0 then
      some (13, ())
    else bif ltI 6 (v1.length : Int) then
      some (4, ())
    else askO (loop22_0 (v0, v1, 0, ())) fun z9 =>
    onSum z9 (fun a10 => some (a10.1, ())) fun b11 =>
    some (0, ())
noncomputable def c22 : Code := bodyOf Try.f22
abbrev E22 : Env := envOf [e29, e36, e40]
theorem E22_ok : EnvOK Try.prog E22 := env_ok ⟨e29_ok, e36_ok, e40_ok, trivial⟩
noncomputable def a22_0 : Code := loopAt c22 0
def lt22 (id : Nat) : Option LSpec := bif Nat.beq id 8 then some ⟨sh22_0, ex22_0, loop22_0⟩ else none
theorem round22_0 : ∀ x, roundK Try.prog E22 71 (keepOf Try.f22) lt22 a22_0 sh22_0 ex22_0 x = step22_0 x := by
  rintro ⟨v0, v1, v5, ⟨⟩⟩
  kernel_rfl
theorem in22_0 : loopsOf a22_0 = [] := by kernel_rfl
theorem first22_0 : firstRegion a22_0 = 8 := by kernel_rfl
theorem spec22_0 : SpecOK Try.prog 71 a22_0 ⟨sh22_0, ex22_0, loop22_0⟩ := by
  exact loop_ok E22_ok.callee progOK.mixed _ (loops_ok in22_0 trivial) round22_0
theorem loops22 : loopsOf c22 = [a22_0] := by kernel_rfl
theorem body22 : ∀ x, bodyK Try.prog E22 Try.f22 (keepOf Try.f22) lt22 c22 [.int .i64, .list (.list (.int .i64))] [.int .i64] x = f22 x := by
  rintro ⟨v0, v1, ⟨⟩⟩
  kernel_rfl
theorem fn22 : FnOK Try.prog 22 [.int .i64, .list (.list (.int .i64))] [.int .i64] f22 := by
  exact fun_ok progOK E22_ok Try.func22 (c := c22) (by kernel_rfl) (keep := keepOf Try.f22) (lt := lt22) (loops_ok loops22 ⟨spec_of first22_0 rfl spec22_0, trivial⟩) body22
abbrev e22 : Ent := ⟨22, [.int .i64, .list (.list (.int .i64))], [.int .i64], f22⟩
theorem e22_ok : Ent.OK Try.prog e22 := fn22

/-! schisma/consonance.Check -/
abbrev sh23_0 : List (Nat × Kd) := [(0, .int .i64), (1, .list (.list (.int .i64))), (23, .list (.list (.int .i64))), (24, .int .i64), (25, .int .i64)]
abbrev ex23_0 : List (Ex × List (Nat × Kd)) := [(.ret, [(4, .int .i64)]), (.exit 1, [])]
def step23_0 (x : Shape.den sh23_0) : Option (Shape.den sh23_0 ⊕ exDen ex23_0) := match x with
  | (v0, v1, v23, v24, v25, ()) =>
    bif ltI v25 v24 then
      bif idxOk v25 v23.length then askO (f29 ((v23.getD v25.toNat []), ())) fun y5 =>
      bif !(eqI y5.1 0) then
        some (.inr (.inl (y5.1, ())))
      else bif !(eqI ((v23.getD v25.toNat []).length : Int) v0) then
        some (.inr (.inl (5, ())))
      else bif eqI v25 0 then
        askO (f32 ((v23.getD v25.toNat []), ())) fun y6 =>
        bif y6.1 then
          bif ltI 0 v25 then
            bif idxOk (wrapF .i64 (v25 - 1)) v1.length then askO (f36 ((v1.getD ((wrapF .i64 (v25 - 1)).toNat) []), (v23.getD v25.toNat []), ())) fun y7 =>
            bif !(ltI y7.1 0) then
              some (.inr (.inl (6, ())))
            else some (.inl (v0, v1, v23, v24, (wrapF .i64 (v25 + 1)), ())) else none
          else some (.inl (v0, v1, v23, v24, (wrapF .i64 (v25 + 1)), ()))
        else some (.inr (.inl (7, ())))
      else bif ltI 0 v25 then
        bif idxOk (wrapF .i64 (v25 - 1)) v1.length then askO (f36 ((v1.getD ((wrapF .i64 (v25 - 1)).toNat) []), (v23.getD v25.toNat []), ())) fun y8 =>
        bif !(ltI y8.1 0) then
          some (.inr (.inl (6, ())))
        else some (.inl (v0, v1, v23, v24, (wrapF .i64 (v25 + 1)), ())) else none
      else some (.inl (v0, v1, v23, v24, (wrapF .i64 (v25 + 1)), ())) else none
    else some (.inr (.inr ((()))))
def loop23_0 (x : Shape.den sh23_0) : Option (exDen ex23_0) := loopN step23_0 (2 ^ 64) x
def f23 (x : denK [.int .i64, .list (.list (.int .i64))]) : Option (denK [.int .i64]) := match x with
  | (v0, v1, ()) =>
    bif ltI v0 0 then
      some (3, ())
    else bif ltI 12 v0 then
      some (3, ())
    else bif eqI (v1.length : Int) 0 then
      some (13, ())
    else bif ltI 6 (v1.length : Int) then
      some (4, ())
    else askO (loop23_0 (v0, v1, v1, (v1.length : Int), 0, ())) fun z9 =>
    onSum z9 (fun a10 => some (a10.1, ())) fun b11 =>
    some (0, ())
noncomputable def c23 : Code := bodyOf Try.f23
abbrev E23 : Env := envOf [e29, e32, e36]
theorem E23_ok : EnvOK Try.prog E23 := env_ok ⟨e29_ok, e32_ok, e36_ok, trivial⟩
noncomputable def a23_0 : Code := loopAt c23 0
def lt23 (id : Nat) : Option LSpec := bif Nat.beq id 8 then some ⟨sh23_0, ex23_0, loop23_0⟩ else none
theorem round23_0 : ∀ x, roundK Try.prog E23 62 (keepOf Try.f23) lt23 a23_0 sh23_0 ex23_0 x = step23_0 x := by
  rintro ⟨v0, v1, v23, v24, v25, ⟨⟩⟩
  kernel_rfl
theorem in23_0 : loopsOf a23_0 = [] := by kernel_rfl
theorem first23_0 : firstRegion a23_0 = 8 := by kernel_rfl
theorem spec23_0 : SpecOK Try.prog 62 a23_0 ⟨sh23_0, ex23_0, loop23_0⟩ := by
  exact loop_ok E23_ok.callee progOK.mixed _ (loops_ok in23_0 trivial) round23_0
theorem loops23 : loopsOf c23 = [a23_0] := by kernel_rfl
theorem body23 : ∀ x, bodyK Try.prog E23 Try.f23 (keepOf Try.f23) lt23 c23 [.int .i64, .list (.list (.int .i64))] [.int .i64] x = f23 x := by
  rintro ⟨v0, v1, ⟨⟩⟩
  kernel_rfl
theorem fn23 : FnOK Try.prog 23 [.int .i64, .list (.list (.int .i64))] [.int .i64] f23 := by
  exact fun_ok progOK E23_ok Try.func23 (c := c23) (by kernel_rfl) (keep := keepOf Try.f23) (lt := lt23) (loops_ok loops23 ⟨spec_of first23_0 rfl spec23_0, trivial⟩) body23
abbrev e23 : Ent := ⟨23, [.int .i64, .list (.list (.int .i64))], [.int .i64], f23⟩
theorem e23_ok : Ent.OK Try.prog e23 := fn23

/-! schisma/schismalaw40.has -/
abbrev sh46_0 : List (Nat × Kd) := [(0, .list (.list (.int .i64))), (1, .list (.int .i64)), (5, .int .i64)]
abbrev ex46_0 : List (Ex × List (Nat × Kd)) := [(.ret, [(4, .bool)]), (.exit 0, [])]
def step46_0 (x : Shape.den sh46_0) : Option (Shape.den sh46_0 ⊕ exDen ex46_0) := match x with
  | (v0, v1, v5, ()) =>
    bif ltI v5 (v0.length : Int) then
      bif idxOk v5 v0.length then askO (f39 ((v0.getD v5.toNat []), v1, ())) fun y2 =>
      bif y2.1 then
        some (.inr (.inl (true, ())))
      else some (.inl (v0, v1, (wrapF .i64 (v5 + 1)), ())) else none
    else some (.inr (.inr ((()))))
def loop46_0 (x : Shape.den sh46_0) : Option (exDen ex46_0) := loopN step46_0 (2 ^ 64) x
def f46 (x : denK [.list (.list (.int .i64)), .list (.int .i64)]) : Option (denK [.bool]) := match x with
  | (v0, v1, ()) =>
    askO (loop46_0 (v0, v1, 0, ())) fun z3 =>
    onSum z3 (fun a4 => some (a4.1, ())) fun b5 =>
    some (false, ())
noncomputable def c46 : Code := bodyOf Try.f46
abbrev E46 : Env := envOf [e39]
theorem E46_ok : EnvOK Try.prog E46 := env_ok ⟨e39_ok, trivial⟩
noncomputable def a46_0 : Code := loopAt c46 0
def lt46 (id : Nat) : Option LSpec := bif Nat.beq id 2 then some ⟨sh46_0, ex46_0, loop46_0⟩ else none
theorem round46_0 : ∀ x, roundK Try.prog E46 18 (keepOf Try.f46) lt46 a46_0 sh46_0 ex46_0 x = step46_0 x := by
  rintro ⟨v0, v1, v5, ⟨⟩⟩
  kernel_rfl
theorem in46_0 : loopsOf a46_0 = [] := by kernel_rfl
theorem first46_0 : firstRegion a46_0 = 2 := by kernel_rfl
theorem spec46_0 : SpecOK Try.prog 18 a46_0 ⟨sh46_0, ex46_0, loop46_0⟩ := by
  exact loop_ok E46_ok.callee progOK.mixed _ (loops_ok in46_0 trivial) round46_0
theorem loops46 : loopsOf c46 = [a46_0] := by kernel_rfl
theorem body46 : ∀ x, bodyK Try.prog E46 Try.f46 (keepOf Try.f46) lt46 c46 [.list (.list (.int .i64)), .list (.int .i64)] [.bool] x = f46 x := by
  rintro ⟨v0, v1, ⟨⟩⟩
  kernel_rfl
theorem fn46 : FnOK Try.prog 46 [.list (.list (.int .i64)), .list (.int .i64)] [.bool] f46 := by
  exact fun_ok progOK E46_ok Try.func46 (c := c46) (by kernel_rfl) (keep := keepOf Try.f46) (lt := lt46) (loops_ok loops46 ⟨spec_of first46_0 rfl spec46_0, trivial⟩) body46
abbrev e46 : Ent := ⟨46, [.list (.list (.int .i64)), .list (.int .i64)], [.bool], f46⟩
theorem e46_ok : Ent.OK Try.prog e46 := fn46

/-! schisma/schismalaw40.fits -/
abbrev sh21_0 : List (Nat × Kd) := [(0, .list (.list (.int .i64))), (1, .list (.list (.int .i64))), (2, .list (.int .i64)), (7, .int .i64)]
abbrev ex21_0 : List (Ex × List (Nat × Kd)) := [(.ret, [(6, .bool)]), (.exit 0, [])]
def step21_0 (x : Shape.den sh21_0) : Option (Shape.den sh21_0 ⊕ exDen ex21_0) := match x with
  | (v0, v1, v2, v7, ()) =>
    bif ltI v7 (v1.length : Int) then
      bif idxOk v7 v1.length then askO (f28 (v2, (v1.getD v7.toNat []), ())) fun y3 =>
      askO (f46 (v0, y3.1, ())) fun y4 =>
      bif y4.1 then
        some (.inl (v0, v1, v2, (wrapF .i64 (v7 + 1)), ()))
      else some (.inr (.inl (false, ()))) else none
    else some (.inr (.inr ((()))))
def loop21_0 (x : Shape.den sh21_0) : Option (exDen ex21_0) := loopN step21_0 (2 ^ 64) x
def f21 (x : denK [.list (.list (.int .i64)), .list (.list (.int .i64)), .list (.int .i64)]) : Option (denK [.bool]) := match x with
  | (v0, v1, v2, ()) =>
    askO (loop21_0 (v0, v1, v2, 0, ())) fun z5 =>
    onSum z5 (fun a6 => some (a6.1, ())) fun b7 =>
    some (true, ())
noncomputable def c21 : Code := bodyOf Try.f21
abbrev E21 : Env := envOf [e28, e46]
theorem E21_ok : EnvOK Try.prog E21 := env_ok ⟨e28_ok, e46_ok, trivial⟩
noncomputable def a21_0 : Code := loopAt c21 0
def lt21 (id : Nat) : Option LSpec := bif Nat.beq id 2 then some ⟨sh21_0, ex21_0, loop21_0⟩ else none
theorem round21_0 : ∀ x, roundK Try.prog E21 23 (keepOf Try.f21) lt21 a21_0 sh21_0 ex21_0 x = step21_0 x := by
  rintro ⟨v0, v1, v2, v7, ⟨⟩⟩
  kernel_rfl
theorem in21_0 : loopsOf a21_0 = [] := by kernel_rfl
theorem first21_0 : firstRegion a21_0 = 2 := by kernel_rfl
theorem spec21_0 : SpecOK Try.prog 23 a21_0 ⟨sh21_0, ex21_0, loop21_0⟩ := by
  exact loop_ok E21_ok.callee progOK.mixed _ (loops_ok in21_0 trivial) round21_0
theorem loops21 : loopsOf c21 = [a21_0] := by kernel_rfl
theorem body21 : ∀ x, bodyK Try.prog E21 Try.f21 (keepOf Try.f21) lt21 c21 [.list (.list (.int .i64)), .list (.list (.int .i64)), .list (.int .i64)] [.bool] x = f21 x := by
  rintro ⟨v0, v1, v2, ⟨⟩⟩
  kernel_rfl
theorem fn21 : FnOK Try.prog 21 [.list (.list (.int .i64)), .list (.list (.int .i64)), .list (.int .i64)] [.bool] f21 := by
  exact fun_ok progOK E21_ok Try.func21 (c := c21) (by kernel_rfl) (keep := keepOf Try.f21) (lt := lt21) (loops_ok loops21 ⟨spec_of first21_0 rfl spec21_0, trivial⟩) body21
abbrev e21 : Ent := ⟨21, [.list (.list (.int .i64)), .list (.list (.int .i64)), .list (.int .i64)], [.bool], f21⟩
theorem e21_ok : Ent.OK Try.prog e21 := fn21

/-! schisma/schismalaw40.insert -/
abbrev sh27_0 : List (Nat × Kd) := [(0, .list (.list (.int .i64))), (1, .list (.int .i64)), (5, .own 48 (.list (.int .i64))), (6, .int .i64)]
abbrev ex27_0 : List (Ex × List (Nat × Kd)) := [(.ret, [(4, .list (.list (.int .i64)))]), (.exit 0, [(1, .list (.int .i64)), (5, .own 48 (.list (.int .i64)))])]
def step27_0 (x : Shape.den sh27_0) : Option (Shape.den sh27_0 ⊕ exDen ex27_0) := match x with
  | (v0, v1, v5, v6, ()) =>
    bif ltI v6 (v0.length : Int) then
      bif idxOk v6 v0.length then askO (f36 (v1, (v0.getD v6.toNat []), ())) fun y2 =>
      bif eqI y2.1 0 then
        some (.inr (.inl (v0, ())))
      else bif ltI y2.1 0 then
        bif Nat.ble [v1].length 1048576 then bif Nat.ble v5.length 1048576 then bif !(ltI v6 0) then bif Nat.ble v6.toNat v0.length then bif Nat.ble v0.length v0.length then bif Nat.ble ((v0.drop v6.toNat).take (v0.length - v6.toNat)).length 1048576 then bif Nat.ble (v5 ++ [v1]).length 1048576 then some (.inr (.inl (((v5 ++ [v1]) ++ ((v0.drop v6.toNat).take (v0.length - v6.toNat))), ()))) else none else none else none else none else none else none else none
      else bif idxOk v6 v0.length then bif Nat.ble [(v0.getD v6.toNat [])].length 1048576 then bif Nat.ble v5.length 1048576 then some (.inl (v0, v1, (v5 ++ [(v0.getD v6.toNat [])]), (wrapF .i64 (v6 + 1)), ())) else none else none else none else none
    else some (.inr (.inr ((v1, v5, ()))))
def loop27_0 (x : Shape.den sh27_0) : Option (exDen ex27_0) := loopN step27_0 (2 ^ 64) x
def f27 (x : denK [.list (.list (.int .i64)), .list (.int .i64)]) : Option (denK [.list (.list (.int .i64))]) := match x with
  | (v0, v1, ()) =>
    askO (loop27_0 (v0, v1, [], 0, ())) fun z3 =>
    onSum z3 (fun a4 => some (a4.1, ())) fun b5 =>
    bif Nat.ble [b5.1].length 1048576 then bif Nat.ble b5.2.1.length 1048576 then some ((b5.2.1 ++ [b5.1]), ()) else none else none
noncomputable def c27 : Code := bodyOf Try.f27
abbrev E27 : Env := envOf [e36]
theorem E27_ok : EnvOK Try.prog E27 := env_ok ⟨e36_ok, trivial⟩
noncomputable def a27_0 : Code := loopAt c27 0
def lt27 (id : Nat) : Option LSpec := bif Nat.beq id 3 then some ⟨sh27_0, ex27_0, loop27_0⟩ else none
theorem round27_0 : ∀ x, roundK Try.prog E27 46 (keepOf Try.f27) lt27 a27_0 sh27_0 ex27_0 x = step27_0 x := by
  rintro ⟨v0, v1, v5, v6, ⟨⟩⟩
  kernel_rfl
theorem in27_0 : loopsOf a27_0 = [] := by kernel_rfl
theorem first27_0 : firstRegion a27_0 = 3 := by kernel_rfl
theorem spec27_0 : SpecOK Try.prog 46 a27_0 ⟨sh27_0, ex27_0, loop27_0⟩ := by
  exact loop_ok E27_ok.callee progOK.mixed _ (loops_ok in27_0 trivial) round27_0
theorem loops27 : loopsOf c27 = [a27_0] := by kernel_rfl
theorem body27 : ∀ x, bodyK Try.prog E27 Try.f27 (keepOf Try.f27) lt27 c27 [.list (.list (.int .i64)), .list (.int .i64)] [.list (.list (.int .i64))] x = f27 x := by
  rintro ⟨v0, v1, ⟨⟩⟩
  kernel_rfl
theorem fn27 : FnOK Try.prog 27 [.list (.list (.int .i64)), .list (.int .i64)] [.list (.list (.int .i64))] f27 := by
  exact fun_ok progOK E27_ok Try.func27 (c := c27) (by kernel_rfl) (keep := keepOf Try.f27) (lt := lt27) (loops_ok loops27 ⟨spec_of first27_0 rfl spec27_0, trivial⟩) body27
abbrev e27 : Ent := ⟨27, [.list (.list (.int .i64)), .list (.int .i64)], [.list (.list (.int .i64))], f27⟩
theorem e27_ok : Ent.OK Try.prog e27 := fn27
end Go.PM
