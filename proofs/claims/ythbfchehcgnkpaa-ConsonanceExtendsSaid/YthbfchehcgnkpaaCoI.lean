/- Chapter 40: functions by open runs of the plain machine (printed by a program). -/
import Derived.Test.YthbfchehcgnkpaaCoH
import Derived.Test.YthbfchehcgnkpaaPnR
set_option linter.unusedSimpArgs false
set_option linter.unusedVariables false
namespace Go.PM
open Go Go.RowKit Go.Proofs
set_option maxRecDepth 100000
set_option maxHeartbeats 4000000

/-! slices.Clone[schisma/api.Row,int] -/
def f33 (x : denK [.list (.int .i64)]) : Option (denK [.list (.int .i64)]) := match x with
  | (v0, ()) =>
    bif Nat.blt 0 v0.length then bif Nat.ble v0.length 1048576 then some (v0, ()) else none else none
noncomputable def c33 : Code := bodyOf Try.f33
abbrev E33 : Env := envOf []
theorem E33_ok : EnvOK Try.prog E33 := env_ok trivial
def lt33 (id : Nat) : Option LSpec := none
theorem loops33 : loopsOf c33 = [] := by kernel_rfl
theorem body33 : ∀ x, bodyK Try.prog E33 Try.f33 (keepOf Try.f33) lt33 c33 [.list (.int .i64)] [.list (.int .i64)] x = f33 x := by
  rintro ⟨v0, ⟨⟩⟩
  kernel_rfl
theorem fn33 : FnOK Try.prog 33 [.list (.int .i64)] [.list (.int .i64)] f33 := by
  exact fun_ok progOK E33_ok Try.func33 (c := c33) (by kernel_rfl) (keep := keepOf Try.f33) (lt := lt33) (loops_ok loops33 trivial) body33
abbrev e33 : Ent := ⟨33, [.list (.int .i64)], [.list (.int .i64)], f33⟩
theorem e33_ok : Ent.OK Try.prog e33 := fn33

/-! slices.Clone[schisma/consonance.Chord,schisma/api.Row] -/
def f64 (x : denK [.list (.list (.int .i64))]) : Option (denK [.list (.list (.int .i64))]) := match x with
  | (v0, ()) =>
    bif Nat.blt 0 v0.length then bif Nat.ble v0.length 1048576 then some (v0, ()) else none else none
noncomputable def c64 : Code := bodyOf Try.f64
abbrev E64 : Env := envOf []
theorem E64_ok : EnvOK Try.prog E64 := env_ok trivial
def lt64 (id : Nat) : Option LSpec := none
theorem loops64 : loopsOf c64 = [] := by kernel_rfl
theorem body64 : ∀ x, bodyK Try.prog E64 Try.f64 (keepOf Try.f64) lt64 c64 [.list (.list (.int .i64))] [.list (.list (.int .i64))] x = f64 x := by
  rintro ⟨v0, ⟨⟩⟩
  kernel_rfl
theorem fn64 : FnOK Try.prog 64 [.list (.list (.int .i64))] [.list (.list (.int .i64))] f64 := by
  exact fun_ok progOK E64_ok Try.func64 (c := c64) (by kernel_rfl) (keep := keepOf Try.f64) (lt := lt64) (loops_ok loops64 trivial) body64
abbrev e64 : Ent := ⟨64, [.list (.list (.int .i64))], [.list (.list (.int .i64))], f64⟩
theorem e64_ok : Ent.OK Try.prog e64 := fn64

/-! schisma/consonance.copied -/
abbrev sh42_0 : List (Nat × Kd) := [(3, .own 48 (.list (.int .i64))), (9, .list (.list (.int .i64))), (10, .int .i64), (11, .int .i64)]
abbrev ex42_0 : List (Ex × List (Nat × Kd)) := [(.exit 0, [(3, .own 48 (.list (.int .i64)))])]
def step42_0 (x : Shape.den sh42_0) : Option (Shape.den sh42_0 ⊕ exDen ex42_0) := match x with
  | (v3, v9, v10, v11, ()) =>
    bif ltI v11 v10 then
      bif idxOk v11 v9.length then askO (f33 ((v9.getD v11.toNat []), ())) fun y2 =>
      bif idxOk v11 v3.length then bif Nat.blt v11.toNat v3.length then some (.inl ((v3.set v11.toNat y2.1), v9, v10, (wrapF .i64 (v11 + 1)), ())) else none else none else none
    else some (.inr ((v3, ())))
def loop42_0 (x : Shape.den sh42_0) : Option (exDen ex42_0) := loopN step42_0 (2 ^ 64) x
def f42 (x : denK [.list (.list (.int .i64))]) : Option (denK [.list (.list (.int .i64))]) := match x with
  | (v0, ()) =>
    bif !(ltI (v0.length : Int) 0) then bif !(ltI (v0.length : Int) (v0.length : Int)) then bif !(ltI 1048576 (v0.length : Int)) then askO (loop42_0 ((List.replicate ((v0.length : Int).toNat) []), v0, (v0.length : Int), 0, ())) fun z3 =>
    some (z3.1, ()) else none else none else none
noncomputable def c42 : Code := bodyOf Try.f42
abbrev E42 : Env := envOf [e33]
theorem E42_ok : EnvOK Try.prog E42 := env_ok ⟨e33_ok, trivial⟩
noncomputable def a42_0 : Code := loopAt c42 0
def lt42 (id : Nat) : Option LSpec := bif Nat.beq id 3 then some ⟨sh42_0, ex42_0, loop42_0⟩ else none
theorem round42_0 : ∀ x, roundK Try.prog E42 23 (keepOf Try.f42) lt42 a42_0 sh42_0 ex42_0 x = step42_0 x := by
  rintro ⟨v3, v9, v10, v11, ⟨⟩⟩
  kernel_rfl
theorem in42_0 : loopsOf a42_0 = [] := by kernel_rfl
theorem first42_0 : firstRegion a42_0 = 3 := by kernel_rfl
theorem spec42_0 : SpecOK Try.prog 23 a42_0 ⟨sh42_0, ex42_0, loop42_0⟩ := by
  exact loop_ok E42_ok.callee progOK.mixed _ (loops_ok in42_0 trivial) round42_0
theorem loops42 : loopsOf c42 = [a42_0] := by kernel_rfl
theorem body42 : ∀ x, bodyK Try.prog E42 Try.f42 (keepOf Try.f42) lt42 c42 [.list (.list (.int .i64))] [.list (.list (.int .i64))] x = f42 x := by
  rintro ⟨v0, ⟨⟩⟩
  kernel_rfl
theorem fn42 : FnOK Try.prog 42 [.list (.list (.int .i64))] [.list (.list (.int .i64))] f42 := by
  exact fun_ok progOK E42_ok Try.func42 (c := c42) (by kernel_rfl) (keep := keepOf Try.f42) (lt := lt42) (loops_ok loops42 ⟨spec_of first42_0 rfl spec42_0, trivial⟩) body42
abbrev e42 : Ent := ⟨42, [.list (.list (.int .i64))], [.list (.list (.int .i64))], f42⟩
theorem e42_ok : Ent.OK Try.prog e42 := fn42

/-! schisma/consonance.each -/
def f41 (x : denK [.int .i64, .list (.list (.int .i64)), .int .i64]) : Option (denK [.clo 62 [(.int .i64), (.list (.list (.int .i64))), (.int .i64)]]) := match x with
  | (v0, v1, v2, ()) =>
    some ((v2, v1, v0, ()), ())
noncomputable def c41 : Code := bodyOf Try.f41
abbrev E41 : Env := envOf []
theorem E41_ok : EnvOK Try.prog E41 := env_ok trivial
def lt41 (id : Nat) : Option LSpec := none
theorem loops41 : loopsOf c41 = [] := by kernel_rfl
theorem body41 : ∀ x, bodyK Try.prog E41 Try.f41 (keepOf Try.f41) lt41 c41 [.int .i64, .list (.list (.int .i64)), .int .i64] [.clo 62 [(.int .i64), (.list (.list (.int .i64))), (.int .i64)]] x = f41 x := by
  rintro ⟨v0, v1, v2, ⟨⟩⟩
  kernel_rfl
theorem fn41 : FnOK Try.prog 41 [.int .i64, .list (.list (.int .i64)), .int .i64] [.clo 62 [(.int .i64), (.list (.list (.int .i64))), (.int .i64)]] f41 := by
  exact fun_ok progOK E41_ok Try.func41 (c := c41) (by kernel_rfl) (keep := keepOf Try.f41) (lt := lt41) (loops_ok loops41 trivial) body41
abbrev e41 : Ent := ⟨41, [.int .i64, .list (.list (.int .i64)), .int .i64], [.clo 62 [(.int .i64), (.list (.list (.int .i64))), (.int .i64)]], f41⟩
theorem e41_ok : Ent.OK Try.prog e41 := fn41

/-! slices.Values[[]schisma/api.Row,schisma/api.Row] -/
def f48 (x : denK [.list (.list (.int .i64))]) : Option (denK [.clo 69 [(.list (.list (.int .i64)))]]) := match x with
  | (v0, ()) =>
    some ((v0, ()), ())
noncomputable def c48 : Code := bodyOf Try.f48
abbrev E48 : Env := envOf []
theorem E48_ok : EnvOK Try.prog E48 := env_ok trivial
def lt48 (id : Nat) : Option LSpec := none
theorem loops48 : loopsOf c48 = [] := by kernel_rfl
theorem body48 : ∀ x, bodyK Try.prog E48 Try.f48 (keepOf Try.f48) lt48 c48 [.list (.list (.int .i64))] [.clo 69 [(.list (.list (.int .i64)))]] x = f48 x := by
  rintro ⟨v0, ⟨⟩⟩
  kernel_rfl
theorem fn48 : FnOK Try.prog 48 [.list (.list (.int .i64))] [.clo 69 [(.list (.list (.int .i64)))]] f48 := by
  exact fun_ok progOK E48_ok Try.func48 (c := c48) (by kernel_rfl) (keep := keepOf Try.f48) (lt := lt48) (loops_ok loops48 trivial) body48
abbrev e48 : Ent := ⟨48, [.list (.list (.int .i64))], [.clo 69 [(.list (.list (.int .i64)))]], f48⟩
theorem e48_ok : Ent.OK Try.prog e48 := fn48

/-! schisma/consonance.Close -/
abbrev sh12_0 : List (Nat × Kd) := [(0, .int .i64), (7, .own 48 (.list (.int .i64))), (16, .list (.list (.int .i64))), (17, .int .i64), (18, .int .i64)]
abbrev ex12_0 : List (Ex × List (Nat × Kd)) := [(.exit 0, [(7, .own 48 (.list (.int .i64)))])]
def step12_0 (x : Shape.den sh12_0) : Option (Shape.den sh12_0 ⊕ exDen ex12_0) := match x with
  | (v0, v7, v16, v17, v18, ()) =>
    bif ltI v18 v17 then
      bif idxOk v18 v16.length then askO (f32 ((v16.getD v18.toNat []), ())) fun y5 =>
      bif y5.1 then
        some (.inl (v0, v7, v16, v17, (wrapF .i64 (v18 + 1)), ()))
      else askO (f33 ((v16.getD v18.toNat []), ())) fun y6 =>
      bif !(ltI v0 0) then bif !(ltI v0 v0) then bif !(ltI 1048576 v0) then askO (f34 ((List.replicate v0.toNat 0), (v16.getD v18.toNat []), (-1), ())) fun y7 =>
      bif Nat.ble [y6.1, y7.1].length 1048576 then bif Nat.ble v7.length 1048576 then some (.inl (v0, (v7 ++ [y6.1, y7.1]), v16, v17, (wrapF .i64 (v18 + 1)), ())) else none else none else none else none else none else none
    else some (.inr ((v7, ())))
def loop12_0 (x : Shape.den sh12_0) : Option (exDen ex12_0) := loopN step12_0 (2 ^ 64) x
def f12 (x : denK [.int .i64, .list (.list (.int .i64))]) : Option (denK [.list (.list (.int .i64)), .int .i64]) := match x with
  | (v0, v1, ()) =>
    askO (f31 (v0, v1, ())) fun y1 =>
    bif !(eqI y1.1 0) then
      some ([], y1.1, ())
    else askO (loop12_0 (v0, [], v1, (v1.length : Int), 0, ())) fun z8 =>
    askO (sortFE (t := (.int .i64)) D64 (fun x y => decide (cmpL x y < 0)) z8.1) fun y9 =>
    askO (f37s1f38t y9 ((), ())) fun y10 =>
    bif ltI 60 (y10.1.length : Int) then
      some ([], 4, ())
    else some (y10.1, 0, ())
noncomputable def c12 : Code := bodyOf Try.f12
abbrev E12 : Env := envT [e31, e32, e33, e34] [s35a, s37s1f38t]
theorem E12_ok : EnvOK Try.prog E12 := envT_ok ⟨e31_ok, e32_ok, e33_ok, e34_ok, trivial⟩ ⟨s35a_ok, s37s1f38t_ok, trivial⟩
noncomputable def a12_0 : Code := loopAt c12 0
def lt12 (id : Nat) : Option LSpec := bif Nat.beq id 6 then some ⟨sh12_0, ex12_0, loop12_0⟩ else none
theorem round12_0 : ∀ x, roundK Try.prog E12 43 (keepOf Try.f12) lt12 a12_0 sh12_0 ex12_0 x = step12_0 x := by
  rintro ⟨v0, v7, v16, v17, v18, ⟨⟩⟩
  kernel_rfl
theorem in12_0 : loopsOf a12_0 = [] := by kernel_rfl
theorem first12_0 : firstRegion a12_0 = 6 := by kernel_rfl
theorem spec12_0 : SpecOK Try.prog 43 a12_0 ⟨sh12_0, ex12_0, loop12_0⟩ := by
  exact loop_ok E12_ok.callee progOK.mixed _ (loops_ok in12_0 trivial) round12_0
theorem loops12 : loopsOf c12 = [a12_0] := by kernel_rfl
theorem body12 : ∀ x, bodyK Try.prog E12 Try.f12 (keepOf Try.f12) lt12 c12 [.int .i64, .list (.list (.int .i64))] [.list (.list (.int .i64)), .int .i64] x = f12 x := by
  rintro ⟨v0, v1, ⟨⟩⟩
  kernel_rfl
theorem fn12 : FnOK Try.prog 12 [.int .i64, .list (.list (.int .i64))] [.list (.list (.int .i64)), .int .i64] f12 := by
  exact fun_ok progOK E12_ok Try.func12 (c := c12) (by kernel_rfl) (keep := keepOf Try.f12) (lt := lt12) (loops_ok loops12 ⟨spec_of first12_0 rfl spec12_0, trivial⟩) body12
abbrev e12 : Ent := ⟨12, [.int .i64, .list (.list (.int .i64))], [.list (.list (.int .i64)), .int .i64], f12⟩
theorem e12_ok : Ent.OK Try.prog e12 := fn12

/-! schisma/consonance.Is -/
abbrev sh24_0 : List (Nat × Kd) := [(2, .list (.list (.int .i64))), (8, .list (.list (.int .i64))), (28, .list (.list (.int .i64))), (29, .int .i64), (30, .int .i64)]
abbrev ex24_0 : List (Ex × List (Nat × Kd)) := [(.ret, [(6, .bool), (7, .int .i64)]), (.exit 0, [])]
def step24_0 (x : Shape.den sh24_0) : Option (Shape.den sh24_0 ⊕ exDen ex24_0) := match x with
  | (v2, v8, v28, v29, v30, ()) =>
    bif ltI v30 v29 then
      bif idxOk v30 v28.length then bif !(ltI v30 0) then bif Nat.ble 0 v30.toNat then bif Nat.ble v30.toNat v2.length then askO (f45 (v8, ((v2.drop 0).take (v30.toNat - 0)), (v28.getD v30.toNat []), ())) fun y4 =>
      bif y4.1 then
        some (.inl (v2, v8, v28, v29, (wrapF .i64 (v30 + 1)), ()))
      else some (.inr (.inl (false, 0, ()))) else none else none else none else none
    else some (.inr (.inr ((()))))
def loop24_0 (x : Shape.den sh24_0) : Option (exDen ex24_0) := loopN step24_0 (2 ^ 64) x
def f24 (x : denK [.int .i64, .list (.list (.int .i64)), .list (.list (.int .i64))]) : Option (denK [.bool, .int .i64]) := match x with
  | (v0, v1, v2, ()) =>
    askO (f12 (v0, v1, ())) fun y1 =>
    bif !(eqI y1.2.1 0) then
      some (false, y1.2.1, ())
    else askO (f23 (v0, v2, ())) fun y2 =>
    bif !(eqI y2.1 0) then
      some (false, y2.1, ())
    else askO (loop24_0 (v2, y1.1, v2, (v2.length : Int), 0, ())) fun z5 =>
    onSum z5 (fun a6 => some (a6.1, a6.2.1, ())) fun b7 =>
    some (true, 0, ())
noncomputable def c24 : Code := bodyOf Try.f24
abbrev E24 : Env := envOf [e12, e23, e45]
theorem E24_ok : EnvOK Try.prog E24 := env_ok ⟨e12_ok, e23_ok, e45_ok, trivial⟩
noncomputable def a24_0 : Code := loopAt c24 0
def lt24 (id : Nat) : Option LSpec := bif Nat.beq id 8 then some ⟨sh24_0, ex24_0, loop24_0⟩ else none
theorem round24_0 : ∀ x, roundK Try.prog E24 43 (keepOf Try.f24) lt24 a24_0 sh24_0 ex24_0 x = step24_0 x := by
  rintro ⟨v2, v8, v28, v29, v30, ⟨⟩⟩
  kernel_rfl
theorem in24_0 : loopsOf a24_0 = [] := by kernel_rfl
theorem first24_0 : firstRegion a24_0 = 8 := by kernel_rfl
theorem spec24_0 : SpecOK Try.prog 43 a24_0 ⟨sh24_0, ex24_0, loop24_0⟩ := by
  exact loop_ok E24_ok.callee progOK.mixed _ (loops_ok in24_0 trivial) round24_0
theorem loops24 : loopsOf c24 = [a24_0] := by kernel_rfl
theorem body24 : ∀ x, bodyK Try.prog E24 Try.f24 (keepOf Try.f24) lt24 c24 [.int .i64, .list (.list (.int .i64)), .list (.list (.int .i64))] [.bool, .int .i64] x = f24 x := by
  rintro ⟨v0, v1, v2, ⟨⟩⟩
  kernel_rfl
theorem fn24 : FnOK Try.prog 24 [.int .i64, .list (.list (.int .i64)), .list (.list (.int .i64))] [.bool, .int .i64] f24 := by
  exact fun_ok progOK E24_ok Try.func24 (c := c24) (by kernel_rfl) (keep := keepOf Try.f24) (lt := lt24) (loops_ok loops24 ⟨spec_of first24_0 rfl spec24_0, trivial⟩) body24
abbrev e24 : Ent := ⟨24, [.int .i64, .list (.list (.int .i64)), .list (.list (.int .i64))], [.bool, .int .i64], f24⟩
theorem e24_ok : Ent.OK Try.prog e24 := fn24
end Go.PM
