/- The functions of chapter 35 and of its statements, by open runs (printed by wip/tools/dc.py). -/
import Derived.Test.YtdlckpedbmjnnaaPnT
import Derived.Test.YtdlckpedbmjnnaaPnV
import Derived.Test.YtdlckpedbmjnnaaEvKnown
set_option linter.unusedSimpArgs false
namespace Go.PM
open Go Go.RowKit Go.Proofs
set_option maxRecDepth 100000
set_option linter.unusedVariables false
/-! slices.Index[[]int,int] -/
abbrev sh41_0 : List (Nat × Kd) := [(0, .list (.int .i64)), (1, .int .i64), (7, .int .i64), (8, .int .i64)]
abbrev ex41_0 : List (Ex × List (Nat × Kd)) := [(.ret, [(4, .int .i64)]), (.exit 0, [])]
def step41_0 (x : Shape.den sh41_0) : Option (Shape.den sh41_0 ⊕ exDen ex41_0) := match x with
  | (v0, v1, v7, v8, ()) =>
    bif ltI v8 v7 then
      bif idxOk v8 v0.length then bif eqI v1 (v0.getD v8.toNat 0) then
        some (.inr (.inl (v8, ())))
      else some (.inl (v0, v1, v7, (wrapF .i64 (v8 + 1)), ())) else none
    else some (.inr (.inr ((()))))
def loop41_0 (x : Shape.den sh41_0) : Option (exDen ex41_0) := loopN step41_0 (2 ^ 64) x
def f41 (x : denK [.list (.int .i64), .int .i64]) : Option (denK [.int .i64]) := match x with
  | (v0, v1, ()) =>
    askO (loop41_0 (v0, v1, (v0.length : Int), 0, ())) fun z1 =>
    onSum z1 (fun a2 => some (a2.1, ())) fun b3 =>
    some ((-1), ())
noncomputable def c41 : Code := bodyOf Try.f41
abbrev E41 : Env := envOf []
theorem E41_ok : EnvOK Try.prog E41 := env_ok trivial
noncomputable def a41_0 : Code := loopAt c41 0
def lt41 (id : Nat) : Option LSpec := bif Nat.beq id 2 then some ⟨sh41_0, ex41_0, loop41_0⟩ else none
theorem round41_0 : ∀ x, roundK Try.prog E41 19 (keepOf Try.f41) lt41 a41_0 sh41_0 ex41_0 x = step41_0 x := by
  rintro ⟨v0, v1, v7, v8, ⟨⟩⟩
  kernel_rfl
theorem in41_0 : loopsOf a41_0 = [] := by kernel_rfl
theorem first41_0 : firstRegion a41_0 = 2 := by kernel_rfl
theorem spec41_0 : SpecOK Try.prog 19 a41_0 ⟨sh41_0, ex41_0, loop41_0⟩ := by
  exact loop_ok E41_ok.callee progOK.mixed _ (loops_ok in41_0 trivial) round41_0
theorem loops41 : loopsOf c41 = [a41_0] := by kernel_rfl
theorem body41 : ∀ x, bodyK Try.prog E41 Try.f41 (keepOf Try.f41) lt41 c41 [.list (.int .i64), .int .i64] [.int .i64] x = f41 x := by
  rintro ⟨v0, v1, ⟨⟩⟩
  kernel_rfl
theorem fn41 : FnOK Try.prog 41 [.list (.int .i64), .int .i64] [.int .i64] f41 := by
  exact fun_ok progOK E41_ok Try.func41 (c := c41) (by kernel_rfl) (keep := keepOf Try.f41) (lt := lt41) (loops_ok loops41 ⟨spec_of first41_0 rfl spec41_0, trivial⟩) body41
abbrev e41 : Ent := ⟨41, [.list (.int .i64), .int .i64], [.int .i64], f41⟩
theorem e41_ok : Ent.OK Try.prog e41 := fn41

/-! slices.Contains[[]int,int] -/
def f33 (x : denK [.list (.int .i64), .int .i64]) : Option (denK [.bool]) := match x with
  | (v0, v1, ()) =>
    askO (f41 (v0, v1, ())) fun y1 =>
    some (!(ltI y1.1 0), ())
noncomputable def c33 : Code := bodyOf Try.f33
abbrev E33 : Env := envOf [e41]
theorem E33_ok : EnvOK Try.prog E33 := env_ok ⟨e41_ok, trivial⟩
def lt33 (id : Nat) : Option LSpec := none
theorem loops33 : loopsOf c33 = [] := by kernel_rfl
theorem body33 : ∀ x, bodyK Try.prog E33 Try.f33 (keepOf Try.f33) lt33 c33 [.list (.int .i64), .int .i64] [.bool] x = f33 x := by
  rintro ⟨v0, v1, ⟨⟩⟩
  kernel_rfl
theorem fn33 : FnOK Try.prog 33 [.list (.int .i64), .int .i64] [.bool] f33 := by
  exact fun_ok progOK E33_ok Try.func33 (c := c33) (by kernel_rfl) (keep := keepOf Try.f33) (lt := lt33) (loops_ok loops33 trivial) body33
abbrev e33 : Ent := ⟨33, [.list (.int .i64), .int .i64], [.bool], f33⟩
theorem e33_ok : Ent.OK Try.prog e33 := fn33

/-! schisma/evenness.division -/
def f38 (x : denK [.int .i64]) : Option (denK [.int .i64]) := match x with
  | (v0, ()) =>
    bif ltI v0 1 then
      some (3, ())
    else bif ltI 60 v0 then
      some (3, ())
    else some (0, ())
noncomputable def c38 : Code := bodyOf Try.f38
abbrev E38 : Env := envOf []
theorem E38_ok : EnvOK Try.prog E38 := env_ok trivial
def lt38 (id : Nat) : Option LSpec := none
theorem loops38 : loopsOf c38 = [] := by kernel_rfl
theorem body38 : ∀ x, bodyK Try.prog E38 Try.f38 (keepOf Try.f38) lt38 c38 [.int .i64] [.int .i64] x = f38 x := by
  rintro ⟨v0, ⟨⟩⟩
  kernel_rfl
theorem fn38 : FnOK Try.prog 38 [.int .i64] [.int .i64] f38 := by
  exact fun_ok progOK E38_ok Try.func38 (c := c38) (by kernel_rfl) (keep := keepOf Try.f38) (lt := lt38) (loops_ok loops38 trivial) body38
abbrev e38 : Ent := ⟨38, [.int .i64], [.int .i64], f38⟩
theorem e38_ok : Ent.OK Try.prog e38 := fn38

/-! schisma/evenness.Check -/
abbrev sh37_0 : List (Nat × Kd) := [(0, .int .i64), (1, .list (.int .i64)), (16, .list (.int .i64)), (17, .int .i64), (18, .int .i64)]
abbrev ex37_0 : List (Ex × List (Nat × Kd)) := [(.ret, [(4, .int .i64)]), (.exit 0, [])]
def step37_0 (x : Shape.den sh37_0) : Option (Shape.den sh37_0 ⊕ exDen ex37_0) := match x with
  | (v0, v1, v16, v17, v18, ()) =>
    bif ltI v18 v17 then
      bif idxOk v18 v16.length then bif ltI (v16.getD v18.toNat 0) 0 then
        some (.inr (.inl (3, ())))
      else bif !(ltI (v16.getD v18.toNat 0) v0) then
        some (.inr (.inl (3, ())))
      else bif ltI 0 v18 then
        bif idxOk (wrapF .i64 (v18 - 1)) v1.length then bif !(ltI (v1.getD ((wrapF .i64 (v18 - 1)).toNat) 0) (v16.getD v18.toNat 0)) then
          some (.inr (.inl (6, ())))
        else some (.inl (v0, v1, v16, v17, (wrapF .i64 (v18 + 1)), ())) else none
      else some (.inl (v0, v1, v16, v17, (wrapF .i64 (v18 + 1)), ())) else none
    else some (.inr (.inr ((()))))
def loop37_0 (x : Shape.den sh37_0) : Option (exDen ex37_0) := loopN step37_0 (2 ^ 64) x
def f37 (x : denK [.int .i64, .list (.int .i64)]) : Option (denK [.int .i64]) := match x with
  | (v0, v1, ()) =>
    askO (f38 (v0, ())) fun y1 =>
    bif !(eqI y1.1 0) then
      some (y1.1, ())
    else bif eqI (v1.length : Int) 0 then
      some (13, ())
    else askO (loop37_0 (v0, v1, v1, (v1.length : Int), 0, ())) fun z2 =>
    onSum z2 (fun a3 => some (a3.1, ())) fun b4 =>
    some (0, ())
noncomputable def c37 : Code := bodyOf Try.f37
abbrev E37 : Env := envOf [e38]
theorem E37_ok : EnvOK Try.prog E37 := env_ok ⟨e38_ok, trivial⟩
noncomputable def a37_0 : Code := loopAt c37 0
def lt37 (id : Nat) : Option LSpec := bif Nat.beq id 7 then some ⟨sh37_0, ex37_0, loop37_0⟩ else none
theorem round37_0 : ∀ x, roundK Try.prog E37 42 (keepOf Try.f37) lt37 a37_0 sh37_0 ex37_0 x = step37_0 x := by
  rintro ⟨v0, v1, v16, v17, v18, ⟨⟩⟩
  kernel_rfl
theorem in37_0 : loopsOf a37_0 = [] := by kernel_rfl
theorem first37_0 : firstRegion a37_0 = 7 := by kernel_rfl
theorem spec37_0 : SpecOK Try.prog 42 a37_0 ⟨sh37_0, ex37_0, loop37_0⟩ := by
  exact loop_ok E37_ok.callee progOK.mixed _ (loops_ok in37_0 trivial) round37_0
theorem loops37 : loopsOf c37 = [a37_0] := by kernel_rfl
theorem body37 : ∀ x, bodyK Try.prog E37 Try.f37 (keepOf Try.f37) lt37 c37 [.int .i64, .list (.int .i64)] [.int .i64] x = f37 x := by
  rintro ⟨v0, v1, ⟨⟩⟩
  kernel_rfl
theorem fn37 : FnOK Try.prog 37 [.int .i64, .list (.int .i64)] [.int .i64] f37 := by
  exact fun_ok progOK E37_ok Try.func37 (c := c37) (by kernel_rfl) (keep := keepOf Try.f37) (lt := lt37) (loops_ok loops37 ⟨spec_of first37_0 rfl spec37_0, trivial⟩) body37
abbrev e37 : Ent := ⟨37, [.int .i64, .list (.int .i64)], [.int .i64], f37⟩
theorem e37_ok : Ent.OK Try.prog e37 := fn37

/-! schisma/schismalaw35.check -/
abbrev sh36_0 : List (Nat × Kd) := [(0, .int .i64), (1, .list (.int .i64)), (16, .list (.int .i64)), (17, .int .i64), (18, .int .i64)]
abbrev ex36_0 : List (Ex × List (Nat × Kd)) := [(.ret, [(4, .int .i64)]), (.exit 0, [])]
def step36_0 (x : Shape.den sh36_0) : Option (Shape.den sh36_0 ⊕ exDen ex36_0) := match x with
  | (v0, v1, v16, v17, v18, ()) =>
    bif ltI v18 v17 then
      bif idxOk v18 v16.length then bif ltI (v16.getD v18.toNat 0) 0 then
        some (.inr (.inl (3, ())))
      else bif !(ltI (v16.getD v18.toNat 0) v0) then
        some (.inr (.inl (3, ())))
      else bif ltI 0 v18 then
        bif idxOk (wrapF .i64 (v18 - 1)) v1.length then bif !(ltI (v1.getD ((wrapF .i64 (v18 - 1)).toNat) 0) (v16.getD v18.toNat 0)) then
          some (.inr (.inl (6, ())))
        else some (.inl (v0, v1, v16, v17, (wrapF .i64 (v18 + 1)), ())) else none
      else some (.inl (v0, v1, v16, v17, (wrapF .i64 (v18 + 1)), ())) else none
    else some (.inr (.inr ((()))))
def loop36_0 (x : Shape.den sh36_0) : Option (exDen ex36_0) := loopN step36_0 (2 ^ 64) x
def f36 (x : denK [.int .i64, .list (.int .i64)]) : Option (denK [.int .i64]) := match x with
  | (v0, v1, ()) =>
    bif ltI v0 1 then
      some (3, ())
    else bif ltI 60 v0 then
      some (3, ())
    else bif eqI (v1.length : Int) 0 then
      some (13, ())
    else askO (loop36_0 (v0, v1, v1, (v1.length : Int), 0, ())) fun z1 =>
    onSum z1 (fun a2 => some (a2.1, ())) fun b3 =>
    some (0, ())
noncomputable def c36 : Code := bodyOf Try.f36
abbrev E36 : Env := envOf []
theorem E36_ok : EnvOK Try.prog E36 := env_ok trivial
noncomputable def a36_0 : Code := loopAt c36 0
def lt36 (id : Nat) : Option LSpec := bif Nat.beq id 6 then some ⟨sh36_0, ex36_0, loop36_0⟩ else none
theorem round36_0 : ∀ x, roundK Try.prog E36 42 (keepOf Try.f36) lt36 a36_0 sh36_0 ex36_0 x = step36_0 x := by
  rintro ⟨v0, v1, v16, v17, v18, ⟨⟩⟩
  kernel_rfl
theorem in36_0 : loopsOf a36_0 = [] := by kernel_rfl
theorem first36_0 : firstRegion a36_0 = 6 := by kernel_rfl
theorem spec36_0 : SpecOK Try.prog 42 a36_0 ⟨sh36_0, ex36_0, loop36_0⟩ := by
  exact loop_ok E36_ok.callee progOK.mixed _ (loops_ok in36_0 trivial) round36_0
theorem loops36 : loopsOf c36 = [a36_0] := by kernel_rfl
theorem body36 : ∀ x, bodyK Try.prog E36 Try.f36 (keepOf Try.f36) lt36 c36 [.int .i64, .list (.int .i64)] [.int .i64] x = f36 x := by
  rintro ⟨v0, v1, ⟨⟩⟩
  kernel_rfl
theorem fn36 : FnOK Try.prog 36 [.int .i64, .list (.int .i64)] [.int .i64] f36 := by
  exact fun_ok progOK E36_ok Try.func36 (c := c36) (by kernel_rfl) (keep := keepOf Try.f36) (lt := lt36) (loops_ok loops36 ⟨spec_of first36_0 rfl spec36_0, trivial⟩) body36
abbrev e36 : Ent := ⟨36, [.int .i64, .list (.int .i64)], [.int .i64], f36⟩
theorem e36_ok : Ent.OK Try.prog e36 := fn36

/-! slices.Min[[]int,int] -/
abbrev sh39_0 : List (Nat × Kd) := [(0, .list (.int .i64)), (3, .int .i64), (4, .int .i64)]
abbrev ex39_0 : List (Ex × List (Nat × Kd)) := [(.exit 0, [(3, .int .i64)])]
def step39_0 (x : Shape.den sh39_0) : Option (Shape.den sh39_0 ⊕ exDen ex39_0) := match x with
  | (v0, v3, v4, ()) =>
    bif ltI v4 (v0.length : Int) then
      bif idxOk v4 v0.length then some (.inl (v0, (if (v0.getD v4.toNat 0) < v3 then (v0.getD v4.toNat 0) else v3), (wrapF .i64 (v4 + 1)), ())) else none
    else some (.inr ((v3, ())))
def loop39_0 (x : Shape.den sh39_0) : Option (exDen ex39_0) := loopN step39_0 (2 ^ 64) x
def f39 (x : denK [.list (.int .i64)]) : Option (denK [.int .i64]) := match x with
  | (v0, ()) =>
    bif ltI (v0.length : Int) 1 then none else bif idxOk 0 v0.length then askO (loop39_0 (v0, (v0.getD 0 0), 1, ())) fun z1 =>
    some (z1.1, ()) else none
noncomputable def c39 : Code := bodyOf Try.f39
abbrev E39 : Env := envOf []
theorem E39_ok : EnvOK Try.prog E39 := env_ok trivial
noncomputable def a39_0 : Code := loopAt c39 0
def lt39 (id : Nat) : Option LSpec := bif Nat.beq id 5 then some ⟨sh39_0, ex39_0, loop39_0⟩ else none
theorem round39_0 : ∀ x, roundK Try.prog E39 25 (keepOf Try.f39) lt39 a39_0 sh39_0 ex39_0 x = step39_0 x := by
  rintro ⟨v0, v3, v4, ⟨⟩⟩
  kernel_rfl
theorem in39_0 : loopsOf a39_0 = [] := by kernel_rfl
theorem first39_0 : firstRegion a39_0 = 5 := by kernel_rfl
theorem spec39_0 : SpecOK Try.prog 25 a39_0 ⟨sh39_0, ex39_0, loop39_0⟩ := by
  exact loop_ok E39_ok.callee progOK.mixed _ (loops_ok in39_0 trivial) round39_0
theorem loops39 : loopsOf c39 = [a39_0] := by kernel_rfl
theorem body39 : ∀ x, bodyK Try.prog E39 Try.f39 (keepOf Try.f39) lt39 c39 [.list (.int .i64)] [.int .i64] x = f39 x := by
  rintro ⟨v0, ⟨⟩⟩
  kernel_rfl
theorem fn39 : FnOK Try.prog 39 [.list (.int .i64)] [.int .i64] f39 := by
  exact fun_ok progOK E39_ok Try.func39 (c := c39) (by kernel_rfl) (keep := keepOf Try.f39) (lt := lt39) (loops_ok loops39 ⟨spec_of first39_0 rfl spec39_0, trivial⟩) body39
abbrev e39 : Ent := ⟨39, [.list (.int .i64)], [.int .i64], f39⟩
theorem e39_ok : Ent.OK Try.prog e39 := fn39

/-! slices.Max[[]int,int] -/
abbrev sh40_0 : List (Nat × Kd) := [(0, .list (.int .i64)), (3, .int .i64), (4, .int .i64)]
abbrev ex40_0 : List (Ex × List (Nat × Kd)) := [(.exit 0, [(3, .int .i64)])]
def step40_0 (x : Shape.den sh40_0) : Option (Shape.den sh40_0 ⊕ exDen ex40_0) := match x with
  | (v0, v3, v4, ()) =>
    bif ltI v4 (v0.length : Int) then
      bif idxOk v4 v0.length then some (.inl (v0, (if v3 < (v0.getD v4.toNat 0) then (v0.getD v4.toNat 0) else v3), (wrapF .i64 (v4 + 1)), ())) else none
    else some (.inr ((v3, ())))
def loop40_0 (x : Shape.den sh40_0) : Option (exDen ex40_0) := loopN step40_0 (2 ^ 64) x
def f40 (x : denK [.list (.int .i64)]) : Option (denK [.int .i64]) := match x with
  | (v0, ()) =>
    bif ltI (v0.length : Int) 1 then none else bif idxOk 0 v0.length then askO (loop40_0 (v0, (v0.getD 0 0), 1, ())) fun z1 =>
    some (z1.1, ()) else none
noncomputable def c40 : Code := bodyOf Try.f40
abbrev E40 : Env := envOf []
theorem E40_ok : EnvOK Try.prog E40 := env_ok trivial
noncomputable def a40_0 : Code := loopAt c40 0
def lt40 (id : Nat) : Option LSpec := bif Nat.beq id 5 then some ⟨sh40_0, ex40_0, loop40_0⟩ else none
theorem round40_0 : ∀ x, roundK Try.prog E40 25 (keepOf Try.f40) lt40 a40_0 sh40_0 ex40_0 x = step40_0 x := by
  rintro ⟨v0, v3, v4, ⟨⟩⟩
  kernel_rfl
theorem in40_0 : loopsOf a40_0 = [] := by kernel_rfl
theorem first40_0 : firstRegion a40_0 = 5 := by kernel_rfl
theorem spec40_0 : SpecOK Try.prog 25 a40_0 ⟨sh40_0, ex40_0, loop40_0⟩ := by
  exact loop_ok E40_ok.callee progOK.mixed _ (loops_ok in40_0 trivial) round40_0
theorem loops40 : loopsOf c40 = [a40_0] := by kernel_rfl
theorem body40 : ∀ x, bodyK Try.prog E40 Try.f40 (keepOf Try.f40) lt40 c40 [.list (.int .i64)] [.int .i64] x = f40 x := by
  rintro ⟨v0, ⟨⟩⟩
  kernel_rfl
theorem fn40 : FnOK Try.prog 40 [.list (.int .i64)] [.int .i64] f40 := by
  exact fun_ok progOK E40_ok Try.func40 (c := c40) (by kernel_rfl) (keep := keepOf Try.f40) (lt := lt40) (loops_ok loops40 ⟨spec_of first40_0 rfl spec40_0, trivial⟩) body40
abbrev e40 : Ent := ⟨40, [.list (.int .i64)], [.int .i64], f40⟩
theorem e40_ok : Ent.OK Try.prog e40 := fn40

/-! slices.Equal[[]int,int] -/
abbrev sh14_0 : List (Nat × Kd) := [(0, .list (.int .i64)), (1, .list (.int .i64)), (12, .int .i64), (13, .int .i64)]
abbrev ex14_0 : List (Ex × List (Nat × Kd)) := [(.ret, [(4, .bool)]), (.exit 0, [])]
def step14_0 (x : Shape.den sh14_0) : Option (Shape.den sh14_0 ⊕ exDen ex14_0) := match x with
  | (v0, v1, v12, v13, ()) =>
    bif ltI v13 v12 then
      bif idxOk v13 v0.length then bif idxOk v13 v1.length then bif !(eqI (v0.getD v13.toNat 0) (v1.getD v13.toNat 0)) then
        some (.inr (.inl (false, ())))
      else some (.inl (v0, v1, v12, (wrapF .i64 (v13 + 1)), ())) else none else none
    else some (.inr (.inr ((()))))
def loop14_0 (x : Shape.den sh14_0) : Option (exDen ex14_0) := loopN step14_0 (2 ^ 64) x
def f14 (x : denK [.list (.int .i64), .list (.int .i64)]) : Option (denK [.bool]) := match x with
  | (v0, v1, ()) =>
    bif !(eqI (v0.length : Int) (v1.length : Int)) then
      some (false, ())
    else askO (loop14_0 (v0, v1, (v0.length : Int), 0, ())) fun z1 =>
    onSum z1 (fun a2 => some (a2.1, ())) fun b3 =>
    some (true, ())
noncomputable def c14 : Code := bodyOf Try.f14
abbrev E14 : Env := envOf []
theorem E14_ok : EnvOK Try.prog E14 := env_ok trivial
noncomputable def a14_0 : Code := loopAt c14 0
def lt14 (id : Nat) : Option LSpec := bif Nat.beq id 4 then some ⟨sh14_0, ex14_0, loop14_0⟩ else none
theorem round14_0 : ∀ x, roundK Try.prog E14 26 (keepOf Try.f14) lt14 a14_0 sh14_0 ex14_0 x = step14_0 x := by
  rintro ⟨v0, v1, v12, v13, ⟨⟩⟩
  kernel_rfl
theorem in14_0 : loopsOf a14_0 = [] := by kernel_rfl
theorem first14_0 : firstRegion a14_0 = 4 := by kernel_rfl
theorem spec14_0 : SpecOK Try.prog 26 a14_0 ⟨sh14_0, ex14_0, loop14_0⟩ := by
  exact loop_ok E14_ok.callee progOK.mixed _ (loops_ok in14_0 trivial) round14_0
theorem loops14 : loopsOf c14 = [a14_0] := by kernel_rfl
theorem body14 : ∀ x, bodyK Try.prog E14 Try.f14 (keepOf Try.f14) lt14 c14 [.list (.int .i64), .list (.int .i64)] [.bool] x = f14 x := by
  rintro ⟨v0, v1, ⟨⟩⟩
  kernel_rfl
theorem fn14 : FnOK Try.prog 14 [.list (.int .i64), .list (.int .i64)] [.bool] f14 := by
  exact fun_ok progOK E14_ok Try.func14 (c := c14) (by kernel_rfl) (keep := keepOf Try.f14) (lt := lt14) (loops_ok loops14 ⟨spec_of first14_0 rfl spec14_0, trivial⟩) body14
abbrev e14 : Ent := ⟨14, [.list (.int .i64), .list (.int .i64)], [.bool], f14⟩
theorem e14_ok : Ent.OK Try.prog e14 := fn14

/-! schisma/schismalaw35.sizes -/
abbrev sh30_0 : List (Nat × Kd) := [(0, .int .i64), (1, .list (.int .i64)), (2, .int .i64), (7, .own 3 (.int .i64)), (8, .int .i64), (13, .int .i64), (14, .int .i64)]
abbrev ex30_0 : List (Ex × List (Nat × Kd)) := [(.exit 0, [(7, .own 3 (.int .i64))])]
def step30_0 (x : Shape.den sh30_0) : Option (Shape.den sh30_0 ⊕ exDen ex30_0) := match x with
  | (v0, v1, v2, v7, v8, v13, v14, ()) =>
    bif ltI v14 v13 then
      bif eqI v8 0 then none else bif idxOk ((wrapF .i64 (v14 + v2)).tmod v8) v1.length then bif eqI v8 0 then none else bif idxOk v14 v1.length then bif Nat.ble [(wrapF .i64 ((wrapF .i64 ((v1.getD (((wrapF .i64 (v14 + v2)).tmod v8).toNat) 0) + (wrapF .i64 ((wrapF .i64 ((wrapF .i64 (v14 + v2)).tdiv v8)) * v0)))) - (v1.getD v14.toNat 0)))].length 1048576 then bif Nat.ble v7.length 1048576 then some (.inl (v0, v1, v2, (v7 ++ [(wrapF .i64 ((wrapF .i64 ((v1.getD (((wrapF .i64 (v14 + v2)).tmod v8).toNat) 0) + (wrapF .i64 ((wrapF .i64 ((wrapF .i64 (v14 + v2)).tdiv v8)) * v0)))) - (v1.getD v14.toNat 0)))]), v8, v13, (wrapF .i64 (v14 + 1)), ())) else none else none else none else none
    else some (.inr ((v7, ())))
def loop30_0 (x : Shape.den sh30_0) : Option (exDen ex30_0) := loopN step30_0 (2 ^ 64) x
def f30 (x : denK [.int .i64, .list (.int .i64), .int .i64]) : Option (denK [.list (.int .i64)]) := match x with
  | (v0, v1, v2, ()) =>
    askO (loop30_0 (v0, v1, v2, [], (v1.length : Int), (v1.length : Int), 0, ())) fun z1 =>
    some (z1.1, ())
noncomputable def c30 : Code := bodyOf Try.f30
abbrev E30 : Env := envOf []
theorem E30_ok : EnvOK Try.prog E30 := env_ok trivial
noncomputable def a30_0 : Code := loopAt c30 0
def lt30 (id : Nat) : Option LSpec := bif Nat.beq id 4 then some ⟨sh30_0, ex30_0, loop30_0⟩ else none
theorem round30_0 : ∀ x, roundK Try.prog E30 43 (keepOf Try.f30) lt30 a30_0 sh30_0 ex30_0 x = step30_0 x := by
  rintro ⟨v0, v1, v2, v7, v8, v13, v14, ⟨⟩⟩
  kernel_rfl
theorem in30_0 : loopsOf a30_0 = [] := by kernel_rfl
theorem first30_0 : firstRegion a30_0 = 4 := by kernel_rfl
theorem spec30_0 : SpecOK Try.prog 43 a30_0 ⟨sh30_0, ex30_0, loop30_0⟩ := by
  exact loop_ok E30_ok.callee progOK.mixed _ (loops_ok in30_0 trivial) round30_0
theorem loops30 : loopsOf c30 = [a30_0] := by kernel_rfl
theorem body30 : ∀ x, bodyK Try.prog E30 Try.f30 (keepOf Try.f30) lt30 c30 [.int .i64, .list (.int .i64), .int .i64] [.list (.int .i64)] x = f30 x := by
  rintro ⟨v0, v1, v2, ⟨⟩⟩
  kernel_rfl
theorem fn30 : FnOK Try.prog 30 [.int .i64, .list (.int .i64), .int .i64] [.list (.int .i64)] f30 := by
  exact fun_ok progOK E30_ok Try.func30 (c := c30) (by kernel_rfl) (keep := keepOf Try.f30) (lt := lt30) (loops_ok loops30 ⟨spec_of first30_0 rfl spec30_0, trivial⟩) body30
abbrev e30 : Ent := ⟨30, [.int .i64, .list (.int .i64), .int .i64], [.list (.int .i64)], f30⟩
theorem e30_ok : Ent.OK Try.prog e30 := fn30

/-! schisma/evenness.sizes -/
abbrev sh53_0 : List (Nat × Kd) := [(0, .int .i64), (1, .list (.int .i64)), (2, .int .i64), (7, .own 3 (.int .i64)), (11, .list (.int .i64)), (12, .int .i64), (13, .int .i64)]
abbrev ex53_0 : List (Ex × List (Nat × Kd)) := [(.exit 0, [(7, .own 3 (.int .i64))])]
def step53_0 (x : Shape.den sh53_0) : Option (Shape.den sh53_0 ⊕ exDen ex53_0) := match x with
  | (v0, v1, v2, v7, v11, v12, v13, ()) =>
    bif ltI v13 v12 then
      bif idxOk v13 v11.length then bif eqI (v1.length : Int) 0 then none else bif idxOk ((wrapF .i64 (v13 + v2)).tmod (v1.length : Int)) v1.length then bif eqI (v1.length : Int) 0 then none else bif Nat.ble [(wrapF .i64 ((wrapF .i64 ((v1.getD (((wrapF .i64 (v13 + v2)).tmod (v1.length : Int)).toNat) 0) + (wrapF .i64 ((wrapF .i64 ((wrapF .i64 (v13 + v2)).tdiv (v1.length : Int))) * v0)))) - (v11.getD v13.toNat 0)))].length 1048576 then bif Nat.ble v7.length 1048576 then some (.inl (v0, v1, v2, (v7 ++ [(wrapF .i64 ((wrapF .i64 ((v1.getD (((wrapF .i64 (v13 + v2)).tmod (v1.length : Int)).toNat) 0) + (wrapF .i64 ((wrapF .i64 ((wrapF .i64 (v13 + v2)).tdiv (v1.length : Int))) * v0)))) - (v11.getD v13.toNat 0)))]), v11, v12, (wrapF .i64 (v13 + 1)), ())) else none else none else none else none
    else some (.inr ((v7, ())))
def loop53_0 (x : Shape.den sh53_0) : Option (exDen ex53_0) := loopN step53_0 (2 ^ 64) x
def f53 (x : denK [.int .i64, .list (.int .i64), .int .i64]) : Option (denK [.list (.int .i64)]) := match x with
  | (v0, v1, v2, ()) =>
    askO (loop53_0 (v0, v1, v2, [], v1, (v1.length : Int), 0, ())) fun z1 =>
    some (z1.1, ())
noncomputable def c53 : Code := bodyOf Try.f53
abbrev E53 : Env := envOf []
theorem E53_ok : EnvOK Try.prog E53 := env_ok trivial
noncomputable def a53_0 : Code := loopAt c53 0
def lt53 (id : Nat) : Option LSpec := bif Nat.beq id 3 then some ⟨sh53_0, ex53_0, loop53_0⟩ else none
theorem round53_0 : ∀ x, roundK Try.prog E53 42 (keepOf Try.f53) lt53 a53_0 sh53_0 ex53_0 x = step53_0 x := by
  rintro ⟨v0, v1, v2, v7, v11, v12, v13, ⟨⟩⟩
  kernel_rfl
theorem in53_0 : loopsOf a53_0 = [] := by kernel_rfl
theorem first53_0 : firstRegion a53_0 = 3 := by kernel_rfl
theorem spec53_0 : SpecOK Try.prog 42 a53_0 ⟨sh53_0, ex53_0, loop53_0⟩ := by
  exact loop_ok E53_ok.callee progOK.mixed _ (loops_ok in53_0 trivial) round53_0
theorem loops53 : loopsOf c53 = [a53_0] := by kernel_rfl
theorem body53 : ∀ x, bodyK Try.prog E53 Try.f53 (keepOf Try.f53) lt53 c53 [.int .i64, .list (.int .i64), .int .i64] [.list (.int .i64)] x = f53 x := by
  rintro ⟨v0, v1, v2, ⟨⟩⟩
  kernel_rfl
theorem fn53 : FnOK Try.prog 53 [.int .i64, .list (.int .i64), .int .i64] [.list (.int .i64)] f53 := by
  exact fun_ok progOK E53_ok Try.func53 (c := c53) (by kernel_rfl) (keep := keepOf Try.f53) (lt := lt53) (loops_ok loops53 ⟨spec_of first53_0 rfl spec53_0, trivial⟩) body53
abbrev e53 : Ent := ⟨53, [.int .i64, .list (.int .i64), .int .i64], [.list (.int .i64)], f53⟩
theorem e53_ok : Ent.OK Try.prog e53 := fn53

/-! schisma/evenness.Make -/
abbrev sh13_0 : List (Nat × Kd) := [(0, .int .i64), (1, .int .i64), (2, .int .i64), (9, .own 3 (.int .i64)), (32, .int .i64), (33, .int .i64)]
abbrev ex13_0 : List (Ex × List (Nat × Kd)) := [(.exit 0, [(9, .own 3 (.int .i64))])]
def step13_0 (x : Shape.den sh13_0) : Option (Shape.den sh13_0 ⊕ exDen ex13_0) := match x with
  | (v0, v1, v2, v9, v32, v33, ()) =>
    bif ltI v33 v32 then
      bif eqI v1 0 then none else bif Nat.ble [(wrapF .i64 ((wrapF .i64 ((wrapF .i64 (v0 * v33)) + v2)).tdiv v1))].length 1048576 then bif Nat.ble v9.length 1048576 then some (.inl (v0, v1, v2, (v9 ++ [(wrapF .i64 ((wrapF .i64 ((wrapF .i64 (v0 * v33)) + v2)).tdiv v1))]), v32, (wrapF .i64 (v33 + 1)), ())) else none else none
    else some (.inr ((v9, ())))
def loop13_0 (x : Shape.den sh13_0) : Option (exDen ex13_0) := loopN step13_0 (2 ^ 64) x
def f13 (x : denK [.int .i64, .int .i64, .int .i64]) : Option (denK [.list (.int .i64), .int .i64]) := match x with
  | (v0, v1, v2, ()) =>
    askO (f38 (v0, ())) fun y1 =>
    bif !(eqI y1.1 0) then
      some ([], y1.1, ())
    else bif ltI v1 1 then
      some ([], 3, ())
    else bif ltI v0 v1 then
      some ([], 3, ())
    else bif ltI v2 0 then
      some ([], 3, ())
    else bif !(ltI v2 v1) then
      some ([], 3, ())
    else askO (loop13_0 (v0, v1, v2, [], v1, 0, ())) fun z2 =>
    some (z2.1, 0, ())
noncomputable def c13 : Code := bodyOf Try.f13
abbrev E13 : Env := envOf [e38]
theorem E13_ok : EnvOK Try.prog E13 := env_ok ⟨e38_ok, trivial⟩
noncomputable def a13_0 : Code := loopAt c13 0
def lt13 (id : Nat) : Option LSpec := bif Nat.beq id 8 then some ⟨sh13_0, ex13_0, loop13_0⟩ else none
theorem round13_0 : ∀ x, roundK Try.prog E13 48 (keepOf Try.f13) lt13 a13_0 sh13_0 ex13_0 x = step13_0 x := by
  rintro ⟨v0, v1, v2, v9, v32, v33, ⟨⟩⟩
  kernel_rfl
theorem in13_0 : loopsOf a13_0 = [] := by kernel_rfl
theorem first13_0 : firstRegion a13_0 = 8 := by kernel_rfl
theorem spec13_0 : SpecOK Try.prog 48 a13_0 ⟨sh13_0, ex13_0, loop13_0⟩ := by
  exact loop_ok E13_ok.callee progOK.mixed _ (loops_ok in13_0 trivial) round13_0
theorem loops13 : loopsOf c13 = [a13_0] := by kernel_rfl
theorem body13 : ∀ x, bodyK Try.prog E13 Try.f13 (keepOf Try.f13) lt13 c13 [.int .i64, .int .i64, .int .i64] [.list (.int .i64), .int .i64] x = f13 x := by
  rintro ⟨v0, v1, v2, ⟨⟩⟩
  kernel_rfl
theorem fn13 : FnOK Try.prog 13 [.int .i64, .int .i64, .int .i64] [.list (.int .i64), .int .i64] f13 := by
  exact fun_ok progOK E13_ok Try.func13 (c := c13) (by kernel_rfl) (keep := keepOf Try.f13) (lt := lt13) (loops_ok loops13 ⟨spec_of first13_0 rfl spec13_0, trivial⟩) body13
abbrev e13 : Ent := ⟨13, [.int .i64, .int .i64, .int .i64], [.list (.int .i64), .int .i64], f13⟩
theorem e13_ok : Ent.OK Try.prog e13 := fn13

/-! schisma/evenness.Steps -/
def f29 (x : denK [.int .i64, .list (.int .i64)]) : Option (denK [.list (.int .i64), .int .i64]) := match x with
  | (v0, v1, ()) =>
    askO (f37 (v0, v1, ())) fun y1 =>
    bif !(eqI y1.1 0) then
      some ([], y1.1, ())
    else askO (f53 (v0, v1, 1, ())) fun y2 =>
    some (y2.1, 0, ())
noncomputable def c29 : Code := bodyOf Try.f29
abbrev E29 : Env := envOf [e37, e53]
theorem E29_ok : EnvOK Try.prog E29 := env_ok ⟨e37_ok, e53_ok, trivial⟩
def lt29 (id : Nat) : Option LSpec := none
theorem loops29 : loopsOf c29 = [] := by kernel_rfl
theorem body29 : ∀ x, bodyK Try.prog E29 Try.f29 (keepOf Try.f29) lt29 c29 [.int .i64, .list (.int .i64)] [.list (.int .i64), .int .i64] x = f29 x := by
  rintro ⟨v0, v1, ⟨⟩⟩
  kernel_rfl
theorem fn29 : FnOK Try.prog 29 [.int .i64, .list (.int .i64)] [.list (.int .i64), .int .i64] f29 := by
  exact fun_ok progOK E29_ok Try.func29 (c := c29) (by kernel_rfl) (keep := keepOf Try.f29) (lt := lt29) (loops_ok loops29 trivial) body29
abbrev e29 : Ent := ⟨29, [.int .i64, .list (.int .i64)], [.list (.int .i64), .int .i64], f29⟩
theorem e29_ok : Ent.OK Try.prog e29 := fn29

/-! schisma/evenness.Complement -/
abbrev sh26_0 : List (Nat × Kd) := [(1, .list (.int .i64)), (7, .own 3 (.int .i64)), (15, .int .i64), (16, .int .i64)]
abbrev ex26_0 : List (Ex × List (Nat × Kd)) := [(.exit 0, [(7, .own 3 (.int .i64))])]
def step26_0 (x : Shape.den sh26_0) : Option (Shape.den sh26_0 ⊕ exDen ex26_0) := match x with
  | (v1, v7, v15, v16, ()) =>
    bif ltI v16 v15 then
      askO (f33 (v1, v16, ())) fun y3 =>
      bif y3.1 then
        some (.inl (v1, v7, v15, (wrapF .i64 (v16 + 1)), ()))
      else bif Nat.ble [v16].length 1048576 then bif Nat.ble v7.length 1048576 then some (.inl (v1, (v7 ++ [v16]), v15, (wrapF .i64 (v16 + 1)), ())) else none else none
    else some (.inr ((v7, ())))
def loop26_0 (x : Shape.den sh26_0) : Option (exDen ex26_0) := loopN step26_0 (2 ^ 64) x
def f26 (x : denK [.int .i64, .list (.int .i64)]) : Option (denK [.list (.int .i64), .int .i64]) := match x with
  | (v0, v1, ()) =>
    askO (f37 (v0, v1, ())) fun y1 =>
    bif !(eqI y1.1 0) then
      some ([], y1.1, ())
    else askO (loop26_0 (v1, [], v0, 0, ())) fun z4 =>
    bif eqI (z4.1.length : Int) 0 then
      some ([], 13, ())
    else some (z4.1, 0, ())
noncomputable def c26 : Code := bodyOf Try.f26
abbrev E26 : Env := envOf [e33, e37]
theorem E26_ok : EnvOK Try.prog E26 := env_ok ⟨e33_ok, e37_ok, trivial⟩
noncomputable def a26_0 : Code := loopAt c26 0
def lt26 (id : Nat) : Option LSpec := bif Nat.beq id 6 then some ⟨sh26_0, ex26_0, loop26_0⟩ else none
theorem round26_0 : ∀ x, roundK Try.prog E26 32 (keepOf Try.f26) lt26 a26_0 sh26_0 ex26_0 x = step26_0 x := by
  rintro ⟨v1, v7, v15, v16, ⟨⟩⟩
  kernel_rfl
theorem in26_0 : loopsOf a26_0 = [] := by kernel_rfl
theorem first26_0 : firstRegion a26_0 = 6 := by kernel_rfl
theorem spec26_0 : SpecOK Try.prog 32 a26_0 ⟨sh26_0, ex26_0, loop26_0⟩ := by
  exact loop_ok E26_ok.callee progOK.mixed _ (loops_ok in26_0 trivial) round26_0
theorem loops26 : loopsOf c26 = [a26_0] := by kernel_rfl
theorem body26 : ∀ x, bodyK Try.prog E26 Try.f26 (keepOf Try.f26) lt26 c26 [.int .i64, .list (.int .i64)] [.list (.int .i64), .int .i64] x = f26 x := by
  rintro ⟨v0, v1, ⟨⟩⟩
  kernel_rfl
theorem fn26 : FnOK Try.prog 26 [.int .i64, .list (.int .i64)] [.list (.int .i64), .int .i64] f26 := by
  exact fun_ok progOK E26_ok Try.func26 (c := c26) (by kernel_rfl) (keep := keepOf Try.f26) (lt := lt26) (loops_ok loops26 ⟨spec_of first26_0 rfl spec26_0, trivial⟩) body26
abbrev e26 : Ent := ⟨26, [.int .i64, .list (.int .i64)], [.list (.int .i64), .int .i64], f26⟩
theorem e26_ok : Ent.OK Try.prog e26 := fn26

/-! schisma/schismalaw35.generated -/
abbrev sh16_0 : List (Nat × Kd) := [(0, .int .i64), (1, .int .i64), (3, .int .i64), (10, .own 3 (.int .i64)), (13, .int .i64), (14, .int .i64)]
abbrev ex16_0 : List (Ex × List (Nat × Kd)) := [(.ret, [(8, .list (.int .i64)), (9, .bool)]), (.exit 0, [(10, .own 3 (.int .i64))])]
def step16_0 (x : Shape.den sh16_0) : Option (Shape.den sh16_0 ⊕ exDen ex16_0) := match x with
  | (v0, v1, v3, v10, v13, v14, ()) =>
    bif ltI v14 v13 then
      bif eqI v0 0 then none else askO (f33 (v10, ((wrapF .i64 (v3 + (wrapF .i64 (v14 * v1)))).tmod v0), ())) fun y2 =>
      bif y2.1 then
        some (.inr (.inl ([], false, ())))
      else bif Nat.ble [((wrapF .i64 (v3 + (wrapF .i64 (v14 * v1)))).tmod v0)].length 1048576 then bif Nat.ble v10.length 1048576 then some (.inl (v0, v1, v3, (v10 ++ [((wrapF .i64 (v3 + (wrapF .i64 (v14 * v1)))).tmod v0)]), v13, (wrapF .i64 (v14 + 1)), ())) else none else none
    else some (.inr (.inr ((v10, ()))))
def loop16_0 (x : Shape.den sh16_0) : Option (exDen ex16_0) := loopN step16_0 (2 ^ 64) x
def f16 (x : denK [.int .i64, .int .i64, .int .i64, .int .i64]) : Option (denK [.list (.int .i64), .bool]) := match x with
  | (v0, v1, v2, v3, ()) =>
    askO (loop16_0 (v0, v1, v3, [], v2, 0, ())) fun z3 =>
    onSum z3 (fun a4 => some (a4.1, a4.2.1, ())) fun b5 =>
    askO (sortO b5.1) fun y6 =>
    some (y6, true, ())
noncomputable def c16 : Code := bodyOf Try.f16
abbrev E16 : Env := envT [e33] [s31]
theorem E16_ok : EnvOK Try.prog E16 := envT_ok ⟨e33_ok, trivial⟩ ⟨s31_ok, trivial⟩
noncomputable def a16_0 : Code := loopAt c16 0
def lt16 (id : Nat) : Option LSpec := bif Nat.beq id 3 then some ⟨sh16_0, ex16_0, loop16_0⟩ else none
theorem round16_0 : ∀ x, roundK Try.prog E16 35 (keepOf Try.f16) lt16 a16_0 sh16_0 ex16_0 x = step16_0 x := by
  rintro ⟨v0, v1, v3, v10, v13, v14, ⟨⟩⟩
  kernel_rfl
theorem in16_0 : loopsOf a16_0 = [] := by kernel_rfl
theorem first16_0 : firstRegion a16_0 = 3 := by kernel_rfl
theorem spec16_0 : SpecOK Try.prog 35 a16_0 ⟨sh16_0, ex16_0, loop16_0⟩ := by
  exact loop_ok E16_ok.callee progOK.mixed _ (loops_ok in16_0 trivial) round16_0
theorem loops16 : loopsOf c16 = [a16_0] := by kernel_rfl
theorem body16 : ∀ x, bodyK Try.prog E16 Try.f16 (keepOf Try.f16) lt16 c16 [.int .i64, .int .i64, .int .i64, .int .i64] [.list (.int .i64), .bool] x = f16 x := by
  rintro ⟨v0, v1, v2, v3, ⟨⟩⟩
  kernel_rfl
theorem fn16 : FnOK Try.prog 16 [.int .i64, .int .i64, .int .i64, .int .i64] [.list (.int .i64), .bool] f16 := by
  exact fun_ok progOK E16_ok Try.func16 (c := c16) (by kernel_rfl) (keep := keepOf Try.f16) (lt := lt16) (loops_ok loops16 ⟨spec_of first16_0 rfl spec16_0, trivial⟩) body16
abbrev e16 : Ent := ⟨16, [.int .i64, .int .i64, .int .i64, .int .i64], [.list (.int .i64), .bool], f16⟩
theorem e16_ok : Ent.OK Try.prog e16 := fn16

/-! schisma/schismalaw35.move -/
abbrev sh34_0 : List (Nat × Kd) := [(0, .int .i64), (2, .int .i64), (7, .own 3 (.int .i64)), (10, .list (.int .i64)), (11, .int .i64), (12, .int .i64)]
abbrev ex34_0 : List (Ex × List (Nat × Kd)) := [(.exit 0, [(7, .own 3 (.int .i64))])]
def step34_0 (x : Shape.den sh34_0) : Option (Shape.den sh34_0 ⊕ exDen ex34_0) := match x with
  | (v0, v2, v7, v10, v11, v12, ()) =>
    bif ltI v12 v11 then
      bif idxOk v12 v10.length then bif eqI v0 0 then none else bif eqI v0 0 then none else bif eqI v0 0 then none else bif Nat.ble [((wrapF .i64 (((wrapF .i64 ((v10.getD v12.toNat 0) + (v2.tmod v0))).tmod v0) + v0)).tmod v0)].length 1048576 then bif Nat.ble v7.length 1048576 then some (.inl (v0, v2, (v7 ++ [((wrapF .i64 (((wrapF .i64 ((v10.getD v12.toNat 0) + (v2.tmod v0))).tmod v0) + v0)).tmod v0)]), v10, v11, (wrapF .i64 (v12 + 1)), ())) else none else none else none
    else some (.inr ((v7, ())))
def loop34_0 (x : Shape.den sh34_0) : Option (exDen ex34_0) := loopN step34_0 (2 ^ 64) x
def f34 (x : denK [.int .i64, .list (.int .i64), .int .i64]) : Option (denK [.list (.int .i64)]) := match x with
  | (v0, v1, v2, ()) =>
    askO (loop34_0 (v0, v2, [], v1, (v1.length : Int), 0, ())) fun z1 =>
    askO (sortO z1.1) fun y2 =>
    some (y2, ())
noncomputable def c34 : Code := bodyOf Try.f34
abbrev E34 : Env := envT [] [s31]
theorem E34_ok : EnvOK Try.prog E34 := envT_ok trivial ⟨s31_ok, trivial⟩
noncomputable def a34_0 : Code := loopAt c34 0
def lt34 (id : Nat) : Option LSpec := bif Nat.beq id 3 then some ⟨sh34_0, ex34_0, loop34_0⟩ else none
theorem round34_0 : ∀ x, roundK Try.prog E34 34 (keepOf Try.f34) lt34 a34_0 sh34_0 ex34_0 x = step34_0 x := by
  rintro ⟨v0, v2, v7, v10, v11, v12, ⟨⟩⟩
  kernel_rfl
theorem in34_0 : loopsOf a34_0 = [] := by kernel_rfl
theorem first34_0 : firstRegion a34_0 = 3 := by kernel_rfl
theorem spec34_0 : SpecOK Try.prog 34 a34_0 ⟨sh34_0, ex34_0, loop34_0⟩ := by
  exact loop_ok E34_ok.callee progOK.mixed _ (loops_ok in34_0 trivial) round34_0
theorem loops34 : loopsOf c34 = [a34_0] := by kernel_rfl
theorem body34 : ∀ x, bodyK Try.prog E34 Try.f34 (keepOf Try.f34) lt34 c34 [.int .i64, .list (.int .i64), .int .i64] [.list (.int .i64)] x = f34 x := by
  rintro ⟨v0, v1, v2, ⟨⟩⟩
  kernel_rfl
theorem fn34 : FnOK Try.prog 34 [.int .i64, .list (.int .i64), .int .i64] [.list (.int .i64)] f34 := by
  exact fun_ok progOK E34_ok Try.func34 (c := c34) (by kernel_rfl) (keep := keepOf Try.f34) (lt := lt34) (loops_ok loops34 ⟨spec_of first34_0 rfl spec34_0, trivial⟩) body34
abbrev e34 : Ent := ⟨34, [.int .i64, .list (.int .i64), .int .i64], [.list (.int .i64)], f34⟩
theorem e34_ok : Ent.OK Try.prog e34 := fn34

/-! schisma/schismalaw35.even -/
abbrev sh20_0 : List (Nat × Kd) := [(0, .int .i64), (1, .list (.int .i64)), (5, .box 46 (.prod (.int .i64) (.prod (.int .i64) (.int .i64)))), (6, .int .i64)]
abbrev ex20_0 : List (Ex × List (Nat × Kd)) := [(.ret, [(4, .bool), (5, .box 46 (.prod (.int .i64) (.prod (.int .i64) (.int .i64))))]), (.exit 0, [(5, .box 46 (.prod (.int .i64) (.prod (.int .i64) (.int .i64))))])]
def step20_0 (x : Shape.den sh20_0) : Option (Shape.den sh20_0 ⊕ exDen ex20_0) := match x with
  | (v0, v1, v5, v6, ()) =>
    bif ltI v6 (v1.length : Int) then
      askO (f30 (v0, v1, v6, ())) fun y6 =>
      askO (f39 (y6.1, ())) fun y7 =>
      askO (f40 (y6.1, ())) fun y8 =>
      bif ltI 1 (wrapF .i64 (y8.1 - y7.1)) then
        askO (f41 (y6.1, y7.1, ())) fun y9 =>
        askO (f41 (y6.1, y8.1, ())) fun y10 =>
        some (.inr (.inl (false, (v6, (y9.1, y10.1)), ())))
      else some (.inl (v0, v1, (v5.1, (v5.2.1, v5.2.2)), (wrapF .i64 (v6 + 1)), ()))
    else some (.inr (.inr (((v5.1, (v5.2.1, v5.2.2)), ()))))
def loop20_0 (x : Shape.den sh20_0) : Option (exDen ex20_0) := loopN step20_0 (2 ^ 64) x
def f20 (x : denK [.int .i64, .list (.int .i64)]) : Option (denK [.bool, .agg (.prod (.int .i64) (.prod (.int .i64) (.int .i64)))]) := match x with
  | (v0, v1, ()) =>
    askO (loop20_0 (v0, v1, (0, (0, 0)), 1, ())) fun z11 =>
    onSum z11 (fun a12 => some (a12.1, (a12.2.1.1, (a12.2.1.2.1, a12.2.1.2.2)), ())) fun b13 =>
    some (true, (0, (0, 0)), ())
noncomputable def c20 : Code := bodyOf Try.f20
abbrev E20 : Env := envOf [e30, e39, e40, e41]
theorem E20_ok : EnvOK Try.prog E20 := env_ok ⟨e30_ok, e39_ok, e40_ok, e41_ok, trivial⟩
noncomputable def a20_0 : Code := loopAt c20 0
def lt20 (id : Nat) : Option LSpec := bif Nat.beq id 2 then some ⟨sh20_0, ex20_0, loop20_0⟩ else none
theorem round20_0 : ∀ x, roundK Try.prog E20 37 (keepOf Try.f20) lt20 a20_0 sh20_0 ex20_0 x = step20_0 x := by
  rintro ⟨v0, v1, v5, v6, ⟨⟩⟩
  kernel_rfl
theorem in20_0 : loopsOf a20_0 = [] := by kernel_rfl
theorem first20_0 : firstRegion a20_0 = 2 := by kernel_rfl
theorem spec20_0 : SpecOK Try.prog 37 a20_0 ⟨sh20_0, ex20_0, loop20_0⟩ := by
  exact loop_ok E20_ok.callee progOK.mixed _ (loops_ok in20_0 trivial) round20_0
theorem loops20 : loopsOf c20 = [a20_0] := by kernel_rfl
theorem body20 : ∀ x, bodyK Try.prog E20 Try.f20 (keepOf Try.f20) lt20 c20 [.int .i64, .list (.int .i64)] [.bool, .agg (.prod (.int .i64) (.prod (.int .i64) (.int .i64)))] x = f20 x := by
  rintro ⟨v0, v1, ⟨⟩⟩
  kernel_rfl
theorem fn20 : FnOK Try.prog 20 [.int .i64, .list (.int .i64)] [.bool, .agg (.prod (.int .i64) (.prod (.int .i64) (.int .i64)))] f20 := by
  exact fun_ok progOK E20_ok Try.func20 (c := c20) (by kernel_rfl) (keep := keepOf Try.f20) (lt := lt20) (loops_ok loops20 ⟨spec_of first20_0 rfl spec20_0, trivial⟩) body20
abbrev e20 : Ent := ⟨20, [.int .i64, .list (.int .i64)], [.bool, .agg (.prod (.int .i64) (.prod (.int .i64) (.int .i64)))], f20⟩
theorem e20_ok : Ent.OK Try.prog e20 := fn20

/-! schisma/evenness.IsEven -/
abbrev sh27_0 : List (Nat × Kd) := [(0, .int .i64), (1, .list (.int .i64)), (5, .box 46 (.prod (.int .i64) (.prod (.int .i64) (.int .i64)))), (8, .int .i64)]
abbrev ex27_0 : List (Ex × List (Nat × Kd)) := [(.ret, [(4, .bool), (5, .box 46 (.prod (.int .i64) (.prod (.int .i64) (.int .i64)))), (6, .int .i64)]), (.exit 0, [(5, .box 46 (.prod (.int .i64) (.prod (.int .i64) (.int .i64))))])]
def step27_0 (x : Shape.den sh27_0) : Option (Shape.den sh27_0 ⊕ exDen ex27_0) := match x with
  | (v0, v1, v5, v8, ()) =>
    bif ltI v8 (v1.length : Int) then
      askO (f53 (v0, v1, v8, ())) fun y7 =>
      askO (f39 (y7.1, ())) fun y8 =>
      askO (f40 (y7.1, ())) fun y9 =>
      bif ltI 1 (wrapF .i64 (y9.1 - y8.1)) then
        askO (f41 (y7.1, y8.1, ())) fun y10 =>
        askO (f41 (y7.1, y9.1, ())) fun y11 =>
        some (.inr (.inl (false, (v8, (y10.1, y11.1)), 0, ())))
      else some (.inl (v0, v1, (v5.1, (v5.2.1, v5.2.2)), (wrapF .i64 (v8 + 1)), ()))
    else some (.inr (.inr (((v5.1, (v5.2.1, v5.2.2)), ()))))
def loop27_0 (x : Shape.den sh27_0) : Option (exDen ex27_0) := loopN step27_0 (2 ^ 64) x
def f27 (x : denK [.int .i64, .list (.int .i64)]) : Option (denK [.bool, .agg (.prod (.int .i64) (.prod (.int .i64) (.int .i64))), .int .i64]) := match x with
  | (v0, v1, ()) =>
    askO (f37 (v0, v1, ())) fun y1 =>
    bif !(eqI y1.1 0) then
      some (false, (0, (0, 0)), y1.1, ())
    else askO (loop27_0 (v0, v1, (0, (0, 0)), 1, ())) fun z12 =>
    onSum z12 (fun a13 => some (a13.1, (a13.2.1.1, (a13.2.1.2.1, a13.2.1.2.2)), a13.2.2.1, ())) fun b14 =>
    some (true, (0, (0, 0)), 0, ())
noncomputable def c27 : Code := bodyOf Try.f27
abbrev E27 : Env := envOf [e37, e39, e40, e41, e53]
theorem E27_ok : EnvOK Try.prog E27 := env_ok ⟨e37_ok, e39_ok, e40_ok, e41_ok, e53_ok, trivial⟩
noncomputable def a27_0 : Code := loopAt c27 0
def lt27 (id : Nat) : Option LSpec := bif Nat.beq id 5 then some ⟨sh27_0, ex27_0, loop27_0⟩ else none
theorem round27_0 : ∀ x, roundK Try.prog E27 46 (keepOf Try.f27) lt27 a27_0 sh27_0 ex27_0 x = step27_0 x := by
  rintro ⟨v0, v1, v5, v8, ⟨⟩⟩
  kernel_rfl
theorem in27_0 : loopsOf a27_0 = [] := by kernel_rfl
theorem first27_0 : firstRegion a27_0 = 5 := by kernel_rfl
theorem spec27_0 : SpecOK Try.prog 46 a27_0 ⟨sh27_0, ex27_0, loop27_0⟩ := by
  exact loop_ok E27_ok.callee progOK.mixed _ (loops_ok in27_0 trivial) round27_0
theorem loops27 : loopsOf c27 = [a27_0] := by kernel_rfl
theorem body27 : ∀ x, bodyK Try.prog E27 Try.f27 (keepOf Try.f27) lt27 c27 [.int .i64, .list (.int .i64)] [.bool, .agg (.prod (.int .i64) (.prod (.int .i64) (.int .i64))), .int .i64] x = f27 x := by
  rintro ⟨v0, v1, ⟨⟩⟩
  kernel_rfl
theorem fn27 : FnOK Try.prog 27 [.int .i64, .list (.int .i64)] [.bool, .agg (.prod (.int .i64) (.prod (.int .i64) (.int .i64))), .int .i64] f27 := by
  exact fun_ok progOK E27_ok Try.func27 (c := c27) (by kernel_rfl) (keep := keepOf Try.f27) (lt := lt27) (loops_ok loops27 ⟨spec_of first27_0 rfl spec27_0, trivial⟩) body27
abbrev e27 : Ent := ⟨27, [.int .i64, .list (.int .i64)], [.bool, .agg (.prod (.int .i64) (.prod (.int .i64) (.int .i64))), .int .i64], f27⟩
theorem e27_ok : Ent.OK Try.prog e27 := fn27

/-! schisma/schismalaw35.Make -/
abbrev sh17_0 : List (Nat × Kd) := [(1, .box 36 (.prod (.int .u8) (.int .u16))), (4, .int .i64), (5, .own 3 (.int .i64)), (12, .int .i64), (13, .int .i64)]
abbrev ex17_0 : List (Ex × List (Nat × Kd)) := [(.exit 0, [(4, .int .i64), (5, .own 3 (.int .i64))])]
def step17_0 (x : Shape.den sh17_0) : Option (Shape.den sh17_0 ⊕ exDen ex17_0) := match x with
  | (v1, v4, v5, v12, v13, ()) =>
    bif ltI v13 v12 then
      bif ltI v13 0 then none else bif eqI (IntKind.wrap .u16 (((BitVec.ofInt (IntKind.bits .u16) (Int.fdiv v1.2 (2 ^ (min v13.toNat (IntKind.bits .u16))))) &&& (BitVec.ofInt (IntKind.bits .u16) 1)).toNat : Int)) 1 then
        bif Nat.ble [v13].length 1048576 then bif Nat.ble v5.length 1048576 then some (.inl ((v1.1, v1.2), v4, (v5 ++ [v13]), v12, (wrapF .i64 (v13 + 1)), ())) else none else none
      else some (.inl ((v1.1, v1.2), v4, v5, v12, (wrapF .i64 (v13 + 1)), ()))
    else some (.inr ((v4, v5, ())))
def loop17_0 (x : Shape.den sh17_0) : Option (exDen ex17_0) := loopN step17_0 (2 ^ 64) x
def f17 (x : denK [.agg (.prod (.int .u8) (.int .u16))]) : Option (denK [.int .i64, .list (.int .i64)]) := match x with
  | (v0, ()) =>
    askO (loop17_0 ((v0.1, v0.2), (wrapF .i64 (1 + (IntKind.wrap .i64 (v0.1.tmod 14)))), [], (wrapF .i64 (1 + (IntKind.wrap .i64 (v0.1.tmod 14)))), 0, ())) fun z1 =>
    bif eqI (z1.2.1.length : Int) 0 then
      some (z1.1, [0], ())
    else some (z1.1, z1.2.1, ())
noncomputable def c17 : Code := bodyOf Try.f17
abbrev E17 : Env := envOf []
theorem E17_ok : EnvOK Try.prog E17 := env_ok trivial
noncomputable def a17_0 : Code := loopAt c17 0
def lt17 (id : Nat) : Option LSpec := bif Nat.beq id 4 then some ⟨sh17_0, ex17_0, loop17_0⟩ else none
theorem round17_0 : ∀ x, roundK Try.prog E17 33 (keepOf Try.f17) lt17 a17_0 sh17_0 ex17_0 x = step17_0 x := by
  rintro ⟨v1, v4, v5, v12, v13, ⟨⟩⟩
  kernel_rfl
theorem in17_0 : loopsOf a17_0 = [] := by kernel_rfl
theorem first17_0 : firstRegion a17_0 = 4 := by kernel_rfl
theorem spec17_0 : SpecOK Try.prog 33 a17_0 ⟨sh17_0, ex17_0, loop17_0⟩ := by
  exact loop_ok E17_ok.callee progOK.mixed _ (loops_ok in17_0 trivial) round17_0
theorem loops17 : loopsOf c17 = [a17_0] := by kernel_rfl
theorem body17 : ∀ x, bodyK Try.prog E17 Try.f17 (keepOf Try.f17) lt17 c17 [.agg (.prod (.int .u8) (.int .u16))] [.int .i64, .list (.int .i64)] x = f17 x := by
  rintro ⟨v0, ⟨⟩⟩
  kernel_rfl
theorem fn17 : FnOK Try.prog 17 [.agg (.prod (.int .u8) (.int .u16))] [.int .i64, .list (.int .i64)] f17 := by
  exact fun_ok progOK E17_ok Try.func17 (c := c17) (by kernel_rfl) (keep := keepOf Try.f17) (lt := lt17) (loops_ok loops17 ⟨spec_of first17_0 rfl spec17_0, trivial⟩) body17
abbrev e17 : Ent := ⟨17, [.agg (.prod (.int .u8) (.int .u16))], [.int .i64, .list (.int .i64)], f17⟩
theorem e17_ok : Ent.OK Try.prog e17 := fn17

/-! schisma/evenness.Generated -/
abbrev sh15_0 : List (Nat × Kd) := [(0, .int .i64), (1, .int .i64), (3, .int .i64), (11, .own 3 (.int .i64)), (44, .int .i64), (45, .int .i64)]
abbrev ex15_0 : List (Ex × List (Nat × Kd)) := [(.ret, [(8, .list (.int .i64)), (9, .int .i64)]), (.exit 0, [(11, .own 3 (.int .i64))])]
def step15_0 (x : Shape.den sh15_0) : Option (Shape.den sh15_0 ⊕ exDen ex15_0) := match x with
  | (v0, v1, v3, v11, v44, v45, ()) =>
    bif ltI v45 v44 then
      bif eqI v0 0 then none else askO (f33 (v11, ((wrapF .i64 (v3 + (wrapF .i64 (v45 * v1)))).tmod v0), ())) fun y3 =>
      bif y3.1 then
        some (.inr (.inl ([], 14, ())))
      else bif Nat.ble [((wrapF .i64 (v3 + (wrapF .i64 (v45 * v1)))).tmod v0)].length 1048576 then bif Nat.ble v11.length 1048576 then some (.inl (v0, v1, v3, (v11 ++ [((wrapF .i64 (v3 + (wrapF .i64 (v45 * v1)))).tmod v0)]), v44, (wrapF .i64 (v45 + 1)), ())) else none else none
    else some (.inr (.inr ((v11, ()))))
def loop15_0 (x : Shape.den sh15_0) : Option (exDen ex15_0) := loopN step15_0 (2 ^ 64) x
def f15 (x : denK [.int .i64, .int .i64, .int .i64, .int .i64]) : Option (denK [.list (.int .i64), .int .i64]) := match x with
  | (v0, v1, v2, v3, ()) =>
    askO (f38 (v0, ())) fun y1 =>
    bif !(eqI y1.1 0) then
      some ([], y1.1, ())
    else bif ltI v2 1 then
      some ([], 3, ())
    else bif ltI v0 v2 then
      some ([], 3, ())
    else bif ltI v1 0 then
      some ([], 3, ())
    else bif !(ltI v1 v0) then
      some ([], 3, ())
    else bif ltI v3 0 then
      some ([], 3, ())
    else bif !(ltI v3 v0) then
      some ([], 3, ())
    else askO (loop15_0 (v0, v1, v3, [], v2, 0, ())) fun z4 =>
    onSum z4 (fun a5 => some (a5.1, a5.2.1, ())) fun b6 =>
    askO (sortO b6.1) fun y7 =>
    some (y7, 0, ())
noncomputable def c15 : Code := bodyOf Try.f15
abbrev E15 : Env := envT [e33, e38] [s31]
theorem E15_ok : EnvOK Try.prog E15 := envT_ok ⟨e33_ok, e38_ok, trivial⟩ ⟨s31_ok, trivial⟩
noncomputable def a15_0 : Code := loopAt c15 0
def lt15 (id : Nat) : Option LSpec := bif Nat.beq id 8 then some ⟨sh15_0, ex15_0, loop15_0⟩ else none
theorem round15_0 : ∀ x, roundK Try.prog E15 66 (keepOf Try.f15) lt15 a15_0 sh15_0 ex15_0 x = step15_0 x := by
  rintro ⟨v0, v1, v3, v11, v44, v45, ⟨⟩⟩
  kernel_rfl
theorem in15_0 : loopsOf a15_0 = [] := by kernel_rfl
theorem first15_0 : firstRegion a15_0 = 8 := by kernel_rfl
theorem spec15_0 : SpecOK Try.prog 66 a15_0 ⟨sh15_0, ex15_0, loop15_0⟩ := by
  exact loop_ok E15_ok.callee progOK.mixed _ (loops_ok in15_0 trivial) round15_0
theorem loops15 : loopsOf c15 = [a15_0] := by kernel_rfl
theorem body15 : ∀ x, bodyK Try.prog E15 Try.f15 (keepOf Try.f15) lt15 c15 [.int .i64, .int .i64, .int .i64, .int .i64] [.list (.int .i64), .int .i64] x = f15 x := by
  rintro ⟨v0, v1, v2, v3, ⟨⟩⟩
  kernel_rfl
theorem fn15 : FnOK Try.prog 15 [.int .i64, .int .i64, .int .i64, .int .i64] [.list (.int .i64), .int .i64] f15 := by
  exact fun_ok progOK E15_ok Try.func15 (c := c15) (by kernel_rfl) (keep := keepOf Try.f15) (lt := lt15) (loops_ok loops15 ⟨spec_of first15_0 rfl spec15_0, trivial⟩) body15
abbrev e15 : Ent := ⟨15, [.int .i64, .int .i64, .int .i64, .int .i64], [.list (.int .i64), .int .i64], f15⟩
theorem e15_ok : Ent.OK Try.prog e15 := fn15

/-! schisma/evenness.Inverse$1 -/
def f51 (x : denK [.int .i64]) : Option (denK [.int .i64]) := match x with
  | (v0, ()) =>
    some ((IntKind.wrap .i64 (0 - v0)), ())
noncomputable def c51 : Code := bodyOf Try.f51
abbrev E51 : Env := envOf []
theorem E51_ok : EnvOK Try.prog E51 := env_ok trivial
def lt51 (id : Nat) : Option LSpec := none
theorem loops51 : loopsOf c51 = [] := by kernel_rfl
theorem body51 : ∀ x, bodyK Try.prog E51 Try.f51 (keepOf Try.f51) lt51 c51 [.int .i64] [.int .i64] x = f51 x := by
  rintro ⟨v0, ⟨⟩⟩
  kernel_rfl
theorem fn51 : FnOK Try.prog 51 [.int .i64] [.int .i64] f51 := by
  exact fun_ok progOK E51_ok Try.func51 (c := c51) (by kernel_rfl) (keep := keepOf Try.f51) (lt := lt51) (loops_ok loops51 trivial) body51
abbrev e51 : Ent := ⟨51, [.int .i64], [.int .i64], f51⟩
theorem e51_ok : Ent.OK Try.prog e51 := fn51

/-! schisma/evenness.Transpose$1 -/
def f50s1pi (x : denK [.int .i64, .ptr (.int .i64)]) : Option (denK [.int .i64]) := match x with
  | (v0, v1, ()) =>
    some ((wrapF .i64 (v0 + v1)), ())
noncomputable def c50s1pi : Code := bodyOf Try.f50
abbrev E50s1pi : Env := envOf []
theorem E50s1pi_ok : EnvOK Try.prog E50s1pi := env_ok trivial
def lt50s1pi (id : Nat) : Option LSpec := none
theorem loops50s1pi : loopsOf c50s1pi = [] := by kernel_rfl
theorem body50s1pi : ∀ x, bodyK Try.prog E50s1pi Try.f50 (keepOf Try.f50) lt50s1pi c50s1pi [.int .i64, .ptr (.int .i64)] [.int .i64] x = f50s1pi x := by
  rintro ⟨v0, v1, ⟨⟩⟩
  kernel_rfl
theorem fn50s1pi : FnOK Try.prog 50 [.int .i64, .ptr (.int .i64)] [.int .i64] f50s1pi := by
  exact fun_ok progOK E50s1pi_ok Try.func50 (c := c50s1pi) (by kernel_rfl) (keep := keepOf Try.f50) (lt := lt50s1pi) (loops_ok loops50s1pi trivial) body50s1pi
abbrev e50s1pi : Ent := ⟨50, [.int .i64, .ptr (.int .i64)], [.int .i64], f50s1pi⟩
theorem e50s1pi_ok : Ent.OK Try.prog e50s1pi := fn50s1pi

/-! schisma/evenness.Rotations$1 -/
def f52s1pi (x : denK [.int .i64, .ptr (.int .i64)]) : Option (denK [.int .i64]) := match x with
  | (v0, v1, ()) =>
    some ((wrapF .i64 (v0 + v1)), ())
noncomputable def c52s1pi : Code := bodyOf Try.f52
abbrev E52s1pi : Env := envOf []
theorem E52s1pi_ok : EnvOK Try.prog E52s1pi := env_ok trivial
def lt52s1pi (id : Nat) : Option LSpec := none
theorem loops52s1pi : loopsOf c52s1pi = [] := by kernel_rfl
theorem body52s1pi : ∀ x, bodyK Try.prog E52s1pi Try.f52 (keepOf Try.f52) lt52s1pi c52s1pi [.int .i64, .ptr (.int .i64)] [.int .i64] x = f52s1pi x := by
  rintro ⟨v0, v1, ⟨⟩⟩
  kernel_rfl
theorem fn52s1pi : FnOK Try.prog 52 [.int .i64, .ptr (.int .i64)] [.int .i64] f52s1pi := by
  exact fun_ok progOK E52s1pi_ok Try.func52 (c := c52s1pi) (by kernel_rfl) (keep := keepOf Try.f52) (lt := lt52s1pi) (loops_ok loops52s1pi trivial) body52s1pi
abbrev e52s1pi : Ent := ⟨52, [.int .i64, .ptr (.int .i64)], [.int .i64], f52s1pi⟩
theorem e52s1pi_ok : Ent.OK Try.prog e52s1pi := fn52s1pi

/-! schisma/evenness.moved -/
abbrev sh49s2f51_0 : List (Nat × Kd) := [(0, .int .i64), (2, .fn 51), (7, .own 3 (.int .i64)), (11, .list (.int .i64)), (12, .int .i64), (13, .int .i64)]
abbrev ex49s2f51_0 : List (Ex × List (Nat × Kd)) := [(.exit 0, [(7, .own 3 (.int .i64))])]
def step49s2f51_0 (x : Shape.den sh49s2f51_0) : Option (Shape.den sh49s2f51_0 ⊕ exDen ex49s2f51_0) := match x with
  | (v0, v2, v7, v11, v12, v13, ()) =>
    bif ltI v13 v12 then
      bif idxOk v13 v11.length then askO (f51 ((v11.getD v13.toNat 0), ())) fun y2 =>
      bif eqI v0 0 then none else bif ltI (y2.1.tmod v0) 0 then
        bif Nat.ble [(wrapF .i64 ((y2.1.tmod v0) + v0))].length 1048576 then bif Nat.ble v7.length 1048576 then some (.inl (v0, (), (v7 ++ [(wrapF .i64 ((y2.1.tmod v0) + v0))]), v11, v12, (wrapF .i64 (v13 + 1)), ())) else none else none
      else bif Nat.ble [(y2.1.tmod v0)].length 1048576 then bif Nat.ble v7.length 1048576 then some (.inl (v0, (), (v7 ++ [(y2.1.tmod v0)]), v11, v12, (wrapF .i64 (v13 + 1)), ())) else none else none else none
    else some (.inr ((v7, ())))
def loop49s2f51_0 (x : Shape.den sh49s2f51_0) : Option (exDen ex49s2f51_0) := loopN step49s2f51_0 (2 ^ 64) x
def f49s2f51 (x : denK [.int .i64, .list (.int .i64), .fn 51]) : Option (denK [.list (.int .i64)]) := match x with
  | (v0, v1, v2, ()) =>
    askO (loop49s2f51_0 (v0, (), [], v1, (v1.length : Int), 0, ())) fun z3 =>
    askO (sortO z3.1) fun y4 =>
    some (y4, ())
noncomputable def c49s2f51 : Code := bodyOf Try.f49
abbrev E49s2f51 : Env := envT [e51] [s31]
theorem E49s2f51_ok : EnvOK Try.prog E49s2f51 := envT_ok ⟨e51_ok, trivial⟩ ⟨s31_ok, trivial⟩
noncomputable def a49s2f51_0 : Code := loopAt c49s2f51 0
def lt49s2f51 (id : Nat) : Option LSpec := bif Nat.beq id 3 then some ⟨sh49s2f51_0, ex49s2f51_0, loop49s2f51_0⟩ else none
theorem round49s2f51_0 : ∀ x, roundK Try.prog E49s2f51 35 (keepOf Try.f49) lt49s2f51 a49s2f51_0 sh49s2f51_0 ex49s2f51_0 x = step49s2f51_0 x := by
  rintro ⟨v0, v2, v7, v11, v12, v13, ⟨⟩⟩
  kernel_rfl
theorem in49s2f51_0 : loopsOf a49s2f51_0 = [] := by kernel_rfl
theorem first49s2f51_0 : firstRegion a49s2f51_0 = 3 := by kernel_rfl
theorem spec49s2f51_0 : SpecOK Try.prog 35 a49s2f51_0 ⟨sh49s2f51_0, ex49s2f51_0, loop49s2f51_0⟩ := by
  exact loop_ok E49s2f51_ok.callee progOK.mixed _ (loops_ok in49s2f51_0 trivial) round49s2f51_0
theorem loops49s2f51 : loopsOf c49s2f51 = [a49s2f51_0] := by kernel_rfl
theorem body49s2f51 : ∀ x, bodyK Try.prog E49s2f51 Try.f49 (keepOf Try.f49) lt49s2f51 c49s2f51 [.int .i64, .list (.int .i64), .fn 51] [.list (.int .i64)] x = f49s2f51 x := by
  rintro ⟨v0, v1, v2, ⟨⟩⟩
  kernel_rfl
theorem fn49s2f51 : FnOK Try.prog 49 [.int .i64, .list (.int .i64), .fn 51] [.list (.int .i64)] f49s2f51 := by
  exact fun_ok progOK E49s2f51_ok Try.func49 (c := c49s2f51) (by kernel_rfl) (keep := keepOf Try.f49) (lt := lt49s2f51) (loops_ok loops49s2f51 ⟨spec_of first49s2f51_0 rfl spec49s2f51_0, trivial⟩) body49s2f51
abbrev e49s2f51 : Ent := ⟨49, [.int .i64, .list (.int .i64), .fn 51], [.list (.int .i64)], f49s2f51⟩
theorem e49s2f51_ok : Ent.OK Try.prog e49s2f51 := fn49s2f51

/-! schisma/evenness.moved -/
abbrev sh49s2c50i_0 : List (Nat × Kd) := [(0, .int .i64), (2, .clo 50 [(.int .i64)]), (7, .own 3 (.int .i64)), (11, .list (.int .i64)), (12, .int .i64), (13, .int .i64)]
abbrev ex49s2c50i_0 : List (Ex × List (Nat × Kd)) := [(.exit 0, [(7, .own 3 (.int .i64))])]
def step49s2c50i_0 (x : Shape.den sh49s2c50i_0) : Option (Shape.den sh49s2c50i_0 ⊕ exDen ex49s2c50i_0) := match x with
  | (v0, v2, v7, v11, v12, v13, ()) =>
    bif ltI v13 v12 then
      bif idxOk v13 v11.length then askO (f50s1pi ((v11.getD v13.toNat 0), v2.1, ())) fun y2 =>
      bif eqI v0 0 then none else bif ltI (y2.1.tmod v0) 0 then
        bif Nat.ble [(wrapF .i64 ((y2.1.tmod v0) + v0))].length 1048576 then bif Nat.ble v7.length 1048576 then some (.inl (v0, (v2.1, ()), (v7 ++ [(wrapF .i64 ((y2.1.tmod v0) + v0))]), v11, v12, (wrapF .i64 (v13 + 1)), ())) else none else none
      else bif Nat.ble [(y2.1.tmod v0)].length 1048576 then bif Nat.ble v7.length 1048576 then some (.inl (v0, (v2.1, ()), (v7 ++ [(y2.1.tmod v0)]), v11, v12, (wrapF .i64 (v13 + 1)), ())) else none else none else none
    else some (.inr ((v7, ())))
def loop49s2c50i_0 (x : Shape.den sh49s2c50i_0) : Option (exDen ex49s2c50i_0) := loopN step49s2c50i_0 (2 ^ 64) x
def f49s2c50i (x : denK [.int .i64, .list (.int .i64), .clo 50 [(.int .i64)]]) : Option (denK [.list (.int .i64)]) := match x with
  | (v0, v1, v2, ()) =>
    askO (loop49s2c50i_0 (v0, (v2.1, ()), [], v1, (v1.length : Int), 0, ())) fun z3 =>
    askO (sortO z3.1) fun y4 =>
    some (y4, ())
noncomputable def c49s2c50i : Code := bodyOf Try.f49
abbrev E49s2c50i : Env := envT [e50s1pi] [s31]
theorem E49s2c50i_ok : EnvOK Try.prog E49s2c50i := envT_ok ⟨e50s1pi_ok, trivial⟩ ⟨s31_ok, trivial⟩
noncomputable def a49s2c50i_0 : Code := loopAt c49s2c50i 0
def lt49s2c50i (id : Nat) : Option LSpec := bif Nat.beq id 3 then some ⟨sh49s2c50i_0, ex49s2c50i_0, loop49s2c50i_0⟩ else none
theorem round49s2c50i_0 : ∀ x, roundK Try.prog E49s2c50i 35 (keepOf Try.f49) lt49s2c50i a49s2c50i_0 sh49s2c50i_0 ex49s2c50i_0 x = step49s2c50i_0 x := by
  rintro ⟨v0, v2, v7, v11, v12, v13, ⟨⟩⟩
  kernel_rfl
theorem in49s2c50i_0 : loopsOf a49s2c50i_0 = [] := by kernel_rfl
theorem first49s2c50i_0 : firstRegion a49s2c50i_0 = 3 := by kernel_rfl
theorem spec49s2c50i_0 : SpecOK Try.prog 35 a49s2c50i_0 ⟨sh49s2c50i_0, ex49s2c50i_0, loop49s2c50i_0⟩ := by
  exact loop_ok E49s2c50i_ok.callee progOK.mixed _ (loops_ok in49s2c50i_0 trivial) round49s2c50i_0
theorem loops49s2c50i : loopsOf c49s2c50i = [a49s2c50i_0] := by kernel_rfl
theorem body49s2c50i : ∀ x, bodyK Try.prog E49s2c50i Try.f49 (keepOf Try.f49) lt49s2c50i c49s2c50i [.int .i64, .list (.int .i64), .clo 50 [(.int .i64)]] [.list (.int .i64)] x = f49s2c50i x := by
  rintro ⟨v0, v1, v2, ⟨⟩⟩
  kernel_rfl
theorem fn49s2c50i : FnOK Try.prog 49 [.int .i64, .list (.int .i64), .clo 50 [(.int .i64)]] [.list (.int .i64)] f49s2c50i := by
  exact fun_ok progOK E49s2c50i_ok Try.func49 (c := c49s2c50i) (by kernel_rfl) (keep := keepOf Try.f49) (lt := lt49s2c50i) (loops_ok loops49s2c50i ⟨spec_of first49s2c50i_0 rfl spec49s2c50i_0, trivial⟩) body49s2c50i
abbrev e49s2c50i : Ent := ⟨49, [.int .i64, .list (.int .i64), .clo 50 [(.int .i64)]], [.list (.int .i64)], f49s2c50i⟩
theorem e49s2c50i_ok : Ent.OK Try.prog e49s2c50i := fn49s2c50i

/-! schisma/evenness.moved -/
abbrev sh49s2c52i_0 : List (Nat × Kd) := [(0, .int .i64), (2, .clo 52 [(.int .i64)]), (7, .own 3 (.int .i64)), (11, .list (.int .i64)), (12, .int .i64), (13, .int .i64)]
abbrev ex49s2c52i_0 : List (Ex × List (Nat × Kd)) := [(.exit 0, [(7, .own 3 (.int .i64))])]
def step49s2c52i_0 (x : Shape.den sh49s2c52i_0) : Option (Shape.den sh49s2c52i_0 ⊕ exDen ex49s2c52i_0) := match x with
  | (v0, v2, v7, v11, v12, v13, ()) =>
    bif ltI v13 v12 then
      bif idxOk v13 v11.length then askO (f52s1pi ((v11.getD v13.toNat 0), v2.1, ())) fun y2 =>
      bif eqI v0 0 then none else bif ltI (y2.1.tmod v0) 0 then
        bif Nat.ble [(wrapF .i64 ((y2.1.tmod v0) + v0))].length 1048576 then bif Nat.ble v7.length 1048576 then some (.inl (v0, (v2.1, ()), (v7 ++ [(wrapF .i64 ((y2.1.tmod v0) + v0))]), v11, v12, (wrapF .i64 (v13 + 1)), ())) else none else none
      else bif Nat.ble [(y2.1.tmod v0)].length 1048576 then bif Nat.ble v7.length 1048576 then some (.inl (v0, (v2.1, ()), (v7 ++ [(y2.1.tmod v0)]), v11, v12, (wrapF .i64 (v13 + 1)), ())) else none else none else none
    else some (.inr ((v7, ())))
def loop49s2c52i_0 (x : Shape.den sh49s2c52i_0) : Option (exDen ex49s2c52i_0) := loopN step49s2c52i_0 (2 ^ 64) x
def f49s2c52i (x : denK [.int .i64, .list (.int .i64), .clo 52 [(.int .i64)]]) : Option (denK [.list (.int .i64)]) := match x with
  | (v0, v1, v2, ()) =>
    askO (loop49s2c52i_0 (v0, (v2.1, ()), [], v1, (v1.length : Int), 0, ())) fun z3 =>
    askO (sortO z3.1) fun y4 =>
    some (y4, ())
noncomputable def c49s2c52i : Code := bodyOf Try.f49
abbrev E49s2c52i : Env := envT [e52s1pi] [s31]
theorem E49s2c52i_ok : EnvOK Try.prog E49s2c52i := envT_ok ⟨e52s1pi_ok, trivial⟩ ⟨s31_ok, trivial⟩
noncomputable def a49s2c52i_0 : Code := loopAt c49s2c52i 0
def lt49s2c52i (id : Nat) : Option LSpec := bif Nat.beq id 3 then some ⟨sh49s2c52i_0, ex49s2c52i_0, loop49s2c52i_0⟩ else none
theorem round49s2c52i_0 : ∀ x, roundK Try.prog E49s2c52i 35 (keepOf Try.f49) lt49s2c52i a49s2c52i_0 sh49s2c52i_0 ex49s2c52i_0 x = step49s2c52i_0 x := by
  rintro ⟨v0, v2, v7, v11, v12, v13, ⟨⟩⟩
  kernel_rfl
theorem in49s2c52i_0 : loopsOf a49s2c52i_0 = [] := by kernel_rfl
theorem first49s2c52i_0 : firstRegion a49s2c52i_0 = 3 := by kernel_rfl
theorem spec49s2c52i_0 : SpecOK Try.prog 35 a49s2c52i_0 ⟨sh49s2c52i_0, ex49s2c52i_0, loop49s2c52i_0⟩ := by
  exact loop_ok E49s2c52i_ok.callee progOK.mixed _ (loops_ok in49s2c52i_0 trivial) round49s2c52i_0
theorem loops49s2c52i : loopsOf c49s2c52i = [a49s2c52i_0] := by kernel_rfl
theorem body49s2c52i : ∀ x, bodyK Try.prog E49s2c52i Try.f49 (keepOf Try.f49) lt49s2c52i c49s2c52i [.int .i64, .list (.int .i64), .clo 52 [(.int .i64)]] [.list (.int .i64)] x = f49s2c52i x := by
  rintro ⟨v0, v1, v2, ⟨⟩⟩
  kernel_rfl
theorem fn49s2c52i : FnOK Try.prog 49 [.int .i64, .list (.int .i64), .clo 52 [(.int .i64)]] [.list (.int .i64)] f49s2c52i := by
  exact fun_ok progOK E49s2c52i_ok Try.func49 (c := c49s2c52i) (by kernel_rfl) (keep := keepOf Try.f49) (lt := lt49s2c52i) (loops_ok loops49s2c52i ⟨spec_of first49s2c52i_0 rfl spec49s2c52i_0, trivial⟩) body49s2c52i
abbrev e49s2c52i : Ent := ⟨49, [.int .i64, .list (.int .i64), .clo 52 [(.int .i64)]], [.list (.int .i64)], f49s2c52i⟩
theorem e49s2c52i_ok : Ent.OK Try.prog e49s2c52i := fn49s2c52i

/-! schisma/evenness.Transpose -/
def f23 (x : denK [.int .i64, .list (.int .i64), .int .i64]) : Option (denK [.list (.int .i64), .int .i64]) := match x with
  | (v0, v1, v2, ()) =>
    askO (f37 (v0, v1, ())) fun y1 =>
    bif !(eqI y1.1 0) then
      some ([], y1.1, ())
    else bif eqI v0 0 then none else askO (f49s2c50i (v0, v1, ((v2.tmod v0), ()), ())) fun y2 =>
    some (y2.1, 0, ())
noncomputable def c23 : Code := bodyOf Try.f23
abbrev E23 : Env := envOf [e37, e49s2c50i]
theorem E23_ok : EnvOK Try.prog E23 := env_ok ⟨e37_ok, e49s2c50i_ok, trivial⟩
def lt23 (id : Nat) : Option LSpec := none
theorem loops23 : loopsOf c23 = [] := by kernel_rfl
theorem body23 : ∀ x, bodyK Try.prog E23 Try.f23 (keepOf Try.f23) lt23 c23 [.int .i64, .list (.int .i64), .int .i64] [.list (.int .i64), .int .i64] x = f23 x := by
  rintro ⟨v0, v1, v2, ⟨⟩⟩
  kernel_rfl
theorem fn23 : FnOK Try.prog 23 [.int .i64, .list (.int .i64), .int .i64] [.list (.int .i64), .int .i64] f23 := by
  exact fun_ok progOK E23_ok Try.func23 (c := c23) (by kernel_rfl) (keep := keepOf Try.f23) (lt := lt23) (loops_ok loops23 trivial) body23
abbrev e23 : Ent := ⟨23, [.int .i64, .list (.int .i64), .int .i64], [.list (.int .i64), .int .i64], f23⟩
theorem e23_ok : Ent.OK Try.prog e23 := fn23

/-! schisma/evenness.Inverse -/
def f24 (x : denK [.int .i64, .list (.int .i64)]) : Option (denK [.list (.int .i64), .int .i64]) := match x with
  | (v0, v1, ()) =>
    askO (f37 (v0, v1, ())) fun y1 =>
    bif !(eqI y1.1 0) then
      some ([], y1.1, ())
    else askO (f49s2f51 (v0, v1, (), ())) fun y2 =>
    some (y2.1, 0, ())
noncomputable def c24 : Code := bodyOf Try.f24
abbrev E24 : Env := envOf [e37, e49s2f51]
theorem E24_ok : EnvOK Try.prog E24 := env_ok ⟨e37_ok, e49s2f51_ok, trivial⟩
def lt24 (id : Nat) : Option LSpec := none
theorem loops24 : loopsOf c24 = [] := by kernel_rfl
theorem body24 : ∀ x, bodyK Try.prog E24 Try.f24 (keepOf Try.f24) lt24 c24 [.int .i64, .list (.int .i64)] [.list (.int .i64), .int .i64] x = f24 x := by
  rintro ⟨v0, v1, ⟨⟩⟩
  kernel_rfl
theorem fn24 : FnOK Try.prog 24 [.int .i64, .list (.int .i64)] [.list (.int .i64), .int .i64] f24 := by
  exact fun_ok progOK E24_ok Try.func24 (c := c24) (by kernel_rfl) (keep := keepOf Try.f24) (lt := lt24) (loops_ok loops24 trivial) body24
abbrev e24 : Ent := ⟨24, [.int .i64, .list (.int .i64)], [.list (.int .i64), .int .i64], f24⟩
theorem e24_ok : Ent.OK Try.prog e24 := fn24

/-! schisma/evenness.Generator -/
abbrev sh18_0 : List (Nat × Kd) := [(0, .int .i64), (1, .list (.int .i64)), (9, .int .i64), (28, .list (.int .i64)), (29, .int .i64), (30, .int .i64)]
abbrev ex18_0 : List (Ex × List (Nat × Kd)) := [(.ret, [(4, .int .i64), (5, .int .i64), (6, .bool), (7, .int .i64)]), (.exit 2, [(0, .int .i64), (1, .list (.int .i64)), (9, .int .i64)])]
def step18_0 (x : Shape.den sh18_0) : Option (Shape.den sh18_0 ⊕ exDen ex18_0) := match x with
  | (v0, v1, v9, v28, v29, v30, ()) =>
    bif ltI v30 v29 then
      bif idxOk v30 v28.length then askO (f15 (v0, v9, (v1.length : Int), (v28.getD v30.toNat 0), ())) fun y4 =>
      bif eqI y4.2.1 0 then
        askO (f14 (y4.1, v1, ())) fun y5 =>
        bif y5.1 then
          some (.inr (.inl (v9, (v28.getD v30.toNat 0), true, 0, ())))
        else some (.inl (v0, v1, v9, v28, v29, (wrapF .i64 (v30 + 1)), ()))
      else some (.inl (v0, v1, v9, v28, v29, (wrapF .i64 (v30 + 1)), ())) else none
    else some (.inr (.inr ((v0, v1, v9, ()))))
def loop18_0 (x : Shape.den sh18_0) : Option (exDen ex18_0) := loopN step18_0 (2 ^ 64) x
abbrev sh18_1 : List (Nat × Kd) := [(0, .int .i64), (1, .list (.int .i64)), (9, .int .i64)]
abbrev ex18_1 : List (Ex × List (Nat × Kd)) := [(.ret, [(4, .int .i64), (5, .int .i64), (6, .bool), (7, .int .i64)]), (.exit 0, [])]
def step18_1 (x : Shape.den sh18_1) : Option (Shape.den sh18_1 ⊕ exDen ex18_1) := match x with
  | (v0, v1, v9, ()) =>
    bif ltI v9 v0 then
      askO (loop18_0 (v0, v1, v9, v1, (v1.length : Int), 0, ())) fun z9 =>
      onSum z9 (fun a10 => some (.inr (.inl (a10.1, a10.2.1, a10.2.2.1, a10.2.2.2.1, ())))) fun b11 =>
      some (.inl (b11.1, b11.2.1, (wrapF .i64 (b11.2.2.1 + 1)), ()))
    else some (.inr (.inr ((()))))
def loop18_1 (x : Shape.den sh18_1) : Option (exDen ex18_1) := loopN step18_1 (2 ^ 64) x
def f18 (x : denK [.int .i64, .list (.int .i64)]) : Option (denK [.int .i64, .int .i64, .bool, .int .i64]) := match x with
  | (v0, v1, ()) =>
    askO (f37 (v0, v1, ())) fun y1 =>
    bif !(eqI y1.1 0) then
      some (0, 0, false, y1.1, ())
    else bif eqI (v1.length : Int) 1 then
      some (0, 0, false, 0, ())
    else askO (loop18_1 (v0, v1, 1, ())) fun z12 =>
    onSum z12 (fun a13 => some (a13.1, a13.2.1, a13.2.2.1, a13.2.2.2.1, ())) fun b14 =>
    some (0, 0, false, 0, ())
noncomputable def c18 : Code := bodyOf Try.f18
abbrev E18 : Env := envOf [e14, e15, e37]
theorem E18_ok : EnvOK Try.prog E18 := env_ok ⟨e14_ok, e15_ok, e37_ok, trivial⟩
noncomputable def a18_1 : Code := loopAt c18 0
noncomputable def a18_0 : Code := loopAt a18_1 0
def lt18 (id : Nat) : Option LSpec := bif Nat.beq id 10 then some ⟨sh18_0, ex18_0, loop18_0⟩ else bif Nat.beq id 7 then some ⟨sh18_1, ex18_1, loop18_1⟩ else none
theorem round18_0 : ∀ x, roundK Try.prog E18 53 (keepOf Try.f18) lt18 a18_0 sh18_0 ex18_0 x = step18_0 x := by
  rintro ⟨v0, v1, v9, v28, v29, v30, ⟨⟩⟩
  kernel_rfl
theorem in18_0 : loopsOf a18_0 = [] := by kernel_rfl
theorem first18_0 : firstRegion a18_0 = 10 := by kernel_rfl
theorem spec18_0 : SpecOK Try.prog 53 a18_0 ⟨sh18_0, ex18_0, loop18_0⟩ := by
  exact loop_ok E18_ok.callee progOK.mixed _ (loops_ok in18_0 trivial) round18_0
theorem round18_1 : ∀ x, roundK Try.prog E18 53 (keepOf Try.f18) lt18 a18_1 sh18_1 ex18_1 x = step18_1 x := by
  rintro ⟨v0, v1, v9, ⟨⟩⟩
  kernel_rfl
theorem in18_1 : loopsOf a18_1 = [a18_0] := by kernel_rfl
theorem first18_1 : firstRegion a18_1 = 7 := by kernel_rfl
theorem spec18_1 : SpecOK Try.prog 53 a18_1 ⟨sh18_1, ex18_1, loop18_1⟩ := by
  exact loop_ok E18_ok.callee progOK.mixed _ (loops_ok in18_1 ⟨spec_of first18_0 rfl spec18_0, trivial⟩) round18_1
theorem loops18 : loopsOf c18 = [a18_1] := by kernel_rfl
theorem body18 : ∀ x, bodyK Try.prog E18 Try.f18 (keepOf Try.f18) lt18 c18 [.int .i64, .list (.int .i64)] [.int .i64, .int .i64, .bool, .int .i64] x = f18 x := by
  rintro ⟨v0, v1, ⟨⟩⟩
  kernel_rfl
theorem fn18 : FnOK Try.prog 18 [.int .i64, .list (.int .i64)] [.int .i64, .int .i64, .bool, .int .i64] f18 := by
  exact fun_ok progOK E18_ok Try.func18 (c := c18) (by kernel_rfl) (keep := keepOf Try.f18) (lt := lt18) (loops_ok loops18 ⟨spec_of first18_1 rfl spec18_1, trivial⟩) body18
abbrev e18 : Ent := ⟨18, [.int .i64, .list (.int .i64)], [.int .i64, .int .i64, .bool, .int .i64], f18⟩
theorem e18_ok : Ent.OK Try.prog e18 := fn18

/-! schisma/evenness.sizes -/
abbrev sh53o_0 : List (Nat × Kd) := [(0, .int .i64), (1, .list (.int .i64)), (2, .int .i64), (7, .own 3 (.int .i64)), (11, .list (.int .i64)), (12, .int .i64), (13, .int .i64)]
abbrev ex53o_0 : List (Ex × List (Nat × Kd)) := [(.exit 0, [(7, .own 3 (.int .i64))])]
def step53o_0 (x : Shape.den sh53o_0) : Option (Shape.den sh53o_0 ⊕ exDen ex53o_0) := match x with
  | (v0, v1, v2, v7, v11, v12, v13, ()) =>
    bif ltI v13 v12 then
      bif idxOk v13 v11.length then bif eqI (v1.length : Int) 0 then none else bif idxOk ((wrapF .i64 (v13 + v2)).tmod (v1.length : Int)) v1.length then bif eqI (v1.length : Int) 0 then none else bif Nat.ble [(wrapF .i64 ((wrapF .i64 ((v1.getD (((wrapF .i64 (v13 + v2)).tmod (v1.length : Int)).toNat) 0) + (wrapF .i64 ((wrapF .i64 ((wrapF .i64 (v13 + v2)).tdiv (v1.length : Int))) * v0)))) - (v11.getD v13.toNat 0)))].length 1048576 then bif Nat.ble v7.length 1048576 then some (.inl (v0, v1, v2, (v7 ++ [(wrapF .i64 ((wrapF .i64 ((v1.getD (((wrapF .i64 (v13 + v2)).tmod (v1.length : Int)).toNat) 0) + (wrapF .i64 ((wrapF .i64 ((wrapF .i64 (v13 + v2)).tdiv (v1.length : Int))) * v0)))) - (v11.getD v13.toNat 0)))]), v11, v12, (wrapF .i64 (v13 + 1)), ())) else none else none else none else none
    else some (.inr ((v7, ())))
def loop53o_0 (x : Shape.den sh53o_0) : Option (exDen ex53o_0) := loopN step53o_0 (2 ^ 64) x
def f53o (x : denK [.int .i64, .list (.int .i64), .int .i64]) : Option (List Int) := match x with
  | (v0, v1, v2, ()) =>
    askO (loop53o_0 (v0, v1, v2, [], v1, (v1.length : Int), 0, ())) fun z1 =>
    some z1.1
noncomputable def c53o : Code := bodyOf Try.f53
abbrev E53o : Env := envOf []
theorem E53o_ok : EnvOK Try.prog E53o := env_ok trivial
noncomputable def a53o_0 : Code := loopAt c53o 0
def lt53o (id : Nat) : Option LSpec := bif Nat.beq id 3 then some ⟨sh53o_0, ex53o_0, loop53o_0⟩ else none
theorem round53o_0 : ∀ x, roundK Try.prog E53o 42 (keepOf Try.f53) lt53o a53o_0 sh53o_0 ex53o_0 x = step53o_0 x := by
  rintro ⟨v0, v1, v2, v7, v11, v12, v13, ⟨⟩⟩
  kernel_rfl
theorem in53o_0 : loopsOf a53o_0 = [] := by kernel_rfl
theorem first53o_0 : firstRegion a53o_0 = 3 := by kernel_rfl
theorem spec53o_0 : SpecOK Try.prog 42 a53o_0 ⟨sh53o_0, ex53o_0, loop53o_0⟩ := by
  exact loop_ok E53o_ok.callee progOK.mixed _ (loops_ok in53o_0 trivial) round53o_0
theorem loops53o : loopsOf c53o = [a53o_0] := by kernel_rfl
theorem body53o : ∀ x, bodyO Try.prog E53o Try.f53 (keepOf Try.f53) lt53o c53o [.int .i64, .list (.int .i64), .int .i64] 6 3 (.int .i64) x = f53o x := by
  rintro ⟨v0, v1, v2, ⟨⟩⟩
  kernel_rfl
theorem fn53o : FnOwn Try.prog 53 [.int .i64, .list (.int .i64), .int .i64] 3 (.int .i64) f53o := by
  exact fun_own progOK E53o_ok Try.func53 (c := c53o) (by kernel_rfl) (keep := keepOf Try.f53) (lt := lt53o) (t := 6) (by kernel_rfl) (loops_ok loops53o ⟨spec_of first53o_0 rfl spec53o_0, trivial⟩) body53o
abbrev s53o : Shr := (53, ownH [.int .i64, .list (.int .i64), .int .i64] 3 (.int .i64) f53o)
theorem s53o_ok : ShrOK Try.prog s53o := ownH_ok fn53o

/-! schisma/evenness.Spectrum -/
def f28 (x : denK [.int .i64, .list (.int .i64), .int .i64]) : Option (denK [.list (.int .i64), .int .i64]) := match x with
  | (v0, v1, v2, ()) =>
    askO (f37 (v0, v1, ())) fun y1 =>
    bif !(eqI y1.1 0) then
      some ([], y1.1, ())
    else bif ltI v2 0 then
      some ([], 3, ())
    else bif ltI (v1.length : Int) v2 then
      some ([], 3, ())
    else askO (f53o (v0, v1, v2, ())) fun y2 =>
    askO (sortO y2) fun y3 =>
    askO (compactO y3) fun y4 =>
    some (y4, 0, ())
noncomputable def c28 : Code := bodyOf Try.f28
abbrev E28 : Env := envT [e37] [s31, s32, s53o]
theorem E28_ok : EnvOK Try.prog E28 := envT_ok ⟨e37_ok, trivial⟩ ⟨s31_ok, s32_ok, s53o_ok, trivial⟩
def lt28 (id : Nat) : Option LSpec := none
theorem loops28 : loopsOf c28 = [] := by kernel_rfl
theorem body28 : ∀ x, bodyK Try.prog E28 Try.f28 (keepOf Try.f28) lt28 c28 [.int .i64, .list (.int .i64), .int .i64] [.list (.int .i64), .int .i64] x = f28 x := by
  rintro ⟨v0, v1, v2, ⟨⟩⟩
  kernel_rfl
theorem fn28 : FnOK Try.prog 28 [.int .i64, .list (.int .i64), .int .i64] [.list (.int .i64), .int .i64] f28 := by
  exact fun_ok progOK E28_ok Try.func28 (c := c28) (by kernel_rfl) (keep := keepOf Try.f28) (lt := lt28) (loops_ok loops28 trivial) body28
abbrev e28 : Ent := ⟨28, [.int .i64, .list (.int .i64), .int .i64], [.list (.int .i64), .int .i64], f28⟩
theorem e28_ok : Ent.OK Try.prog e28 := fn28

/-! schisma/schismalaw35.known -/
def f12 (x : denK []) : Option (denK [.bool]) := match x with
  | (()) =>
    askO (f13 (12, 7, 5, ())) fun y1 =>
    askO (f19k (12, 4, ())) fun y2 =>
    askO (f18 (12, [0, 2, 4, 5, 7, 9, 11], ())) fun y3 =>
    askO (f27 (12, [0, 1, 2], ())) fun y4 =>
    bif eqI y1.2.1 0 then
      bif eqI y2.2.1 0 then
        bif eqI y3.2.2.2.1 0 then
          bif eqI y4.2.2.1 0 then
            askO (f14 (y1.1, [0, 2, 4, 5, 7, 9, 11], ())) fun y5 =>
            bif y5.1 then
              bif eqI (y2.1.length : Int) 3 then
                bif y3.2.2.1 then
                  bif eqI y3.1 5 then
                    bif eqI y3.2.1 11 then
                      bif y4.1 then
                        some (false, ())
                      else some ((eqI y4.2.1.1 1 && (eqI y4.2.1.2.1 0 && (eqI y4.2.1.2.2 2 && true))), ())
                    else some (false, ())
                  else some (false, ())
                else some (false, ())
              else some (false, ())
            else some (false, ())
          else some (false, ())
        else some (false, ())
      else some (false, ())
    else some (false, ())
noncomputable def c12 : Code := bodyOf Try.f12
abbrev E12 : Env := envOf [e13, e14, e18, e19k, e27]
theorem E12_ok : EnvOK Try.prog E12 := env_ok ⟨e13_ok, e14_ok, e18_ok, e19k_ok, e27_ok, trivial⟩
def lt12 (id : Nat) : Option LSpec := none
theorem loops12 : loopsOf c12 = [] := by kernel_rfl
theorem body12 : ∀ x, bodyK Try.prog E12 Try.f12 (keepOf Try.f12) lt12 c12 [] [.bool] x = f12 x := by
  rintro ⟨⟨⟩⟩
  kernel_rfl
theorem fn12 : FnOK Try.prog 12 [] [.bool] f12 := by
  exact fun_ok progOK E12_ok Try.func12 (c := c12) (by kernel_rfl) (keep := keepOf Try.f12) (lt := lt12) (loops_ok loops12 trivial) body12
abbrev e12 : Ent := ⟨12, [], [.bool], f12⟩
theorem e12_ok : Ent.OK Try.prog e12 := fn12

/-! schisma/schismalaw35.EvennessMakes -/
abbrev sh3_0 : List (Nat × Kd) := [(0, .int .i64), (1, .int .i64), (2, .int .i64), (7, .list (.int .i64)), (8, .int .i64), (9, .own 3 (.int .i64)), (51, .int .i64), (52, .int .i64)]
abbrev ex3_0 : List (Ex × List (Nat × Kd)) := [(.exit 0, [(7, .list (.int .i64)), (8, .int .i64), (9, .own 3 (.int .i64))])]
def step3_0 (x : Shape.den sh3_0) : Option (Shape.den sh3_0 ⊕ exDen ex3_0) := match x with
  | (v0, v1, v2, v7, v8, v9, v51, v52, ()) =>
    bif ltI v52 v51 then
      bif eqI v1 0 then none else bif Nat.ble [(wrapF .i64 ((wrapF .i64 ((wrapF .i64 (v0 * v52)) + v2)).tdiv v1))].length 1048576 then bif Nat.ble v9.length 1048576 then some (.inl (v0, v1, v2, v7, v8, (v9 ++ [(wrapF .i64 ((wrapF .i64 ((wrapF .i64 (v0 * v52)) + v2)).tdiv v1))]), v51, (wrapF .i64 (v52 + 1)), ())) else none else none
    else some (.inr ((v7, v8, v9, ())))
def loop3_0 (x : Shape.den sh3_0) : Option (exDen ex3_0) := loopN step3_0 (2 ^ 64) x
def f3 (x : denK [.int .i64, .int .i64, .int .i64]) : Option (denK [.bool]) := match x with
  | (v0, v1, v2, ()) =>
    askO (f12 (())) fun y1 =>
    bif y1.1 then
      askO (f13 (v0, v1, v2, ())) fun y2 =>
      bif ltI v0 1 then
        bif eqI y2.2.1 3 then
          some (eqI (y2.1.length : Int) 0, ())
        else some (false, ())
      else bif ltI 60 v0 then
        bif eqI y2.2.1 3 then
          some (eqI (y2.1.length : Int) 0, ())
        else some (false, ())
      else bif ltI v1 1 then
        bif eqI y2.2.1 3 then
          some (eqI (y2.1.length : Int) 0, ())
        else some (false, ())
      else bif ltI v0 v1 then
        bif eqI y2.2.1 3 then
          some (eqI (y2.1.length : Int) 0, ())
        else some (false, ())
      else bif ltI v2 0 then
        bif eqI y2.2.1 3 then
          some (eqI (y2.1.length : Int) 0, ())
        else some (false, ())
      else bif !(ltI v2 v1) then
        bif eqI y2.2.1 3 then
          some (eqI (y2.1.length : Int) 0, ())
        else some (false, ())
      else askO (loop3_0 (v0, v1, v2, y2.1, y2.2.1, [], v1, 0, ())) fun z3 =>
      bif eqI z3.2.1 0 then
        askO (f14 (z3.1, z3.2.2.1, ())) fun y4 =>
        some (y4.1, ())
      else some (false, ())
    else some (false, ())
noncomputable def c3 : Code := bodyOf Try.f3
abbrev E3 : Env := envOf [e12, e13, e14]
theorem E3_ok : EnvOK Try.prog E3 := env_ok ⟨e12_ok, e13_ok, e14_ok, trivial⟩
noncomputable def a3_0 : Code := loopAt c3 0
def lt3 (id : Nat) : Option LSpec := bif Nat.beq id 8 then some ⟨sh3_0, ex3_0, loop3_0⟩ else none
theorem round3_0 : ∀ x, roundK Try.prog E3 73 (keepOf Try.f3) lt3 a3_0 sh3_0 ex3_0 x = step3_0 x := by
  rintro ⟨v0, v1, v2, v7, v8, v9, v51, v52, ⟨⟩⟩
  kernel_rfl
theorem in3_0 : loopsOf a3_0 = [] := by kernel_rfl
theorem first3_0 : firstRegion a3_0 = 8 := by kernel_rfl
theorem spec3_0 : SpecOK Try.prog 73 a3_0 ⟨sh3_0, ex3_0, loop3_0⟩ := by
  exact loop_ok E3_ok.callee progOK.mixed _ (loops_ok in3_0 trivial) round3_0
theorem loops3 : loopsOf c3 = [a3_0] := by kernel_rfl
theorem body3 : ∀ x, bodyK Try.prog E3 Try.f3 (keepOf Try.f3) lt3 c3 [.int .i64, .int .i64, .int .i64] [.bool] x = f3 x := by
  rintro ⟨v0, v1, v2, ⟨⟩⟩
  kernel_rfl
theorem fn3 : FnOK Try.prog 3 [.int .i64, .int .i64, .int .i64] [.bool] f3 := by
  exact fun_ok progOK E3_ok Try.func3 (c := c3) (by kernel_rfl) (keep := keepOf Try.f3) (lt := lt3) (loops_ok loops3 ⟨spec_of first3_0 rfl spec3_0, trivial⟩) body3
abbrev e3 : Ent := ⟨3, [.int .i64, .int .i64, .int .i64], [.bool], f3⟩
theorem e3_ok : Ent.OK Try.prog e3 := fn3

/-! schisma/schismalaw35.EvennessGenerates -/
def f4 (x : denK [.int .i64, .int .i64, .agg (.prod (.int .i64) (.int .i64))]) : Option (denK [.bool]) := match x with
  | (v0, v1, v2, ()) =>
    askO (f12 (())) fun y1 =>
    bif y1.1 then
      askO (f15 (v0, v1, v2.1, v2.2, ())) fun y2 =>
      bif ltI v0 1 then
        bif eqI y2.2.1 3 then
          some (eqI (y2.1.length : Int) 0, ())
        else some (false, ())
      else bif ltI 60 v0 then
        bif eqI y2.2.1 3 then
          some (eqI (y2.1.length : Int) 0, ())
        else some (false, ())
      else bif ltI v2.1 1 then
        bif eqI y2.2.1 3 then
          some (eqI (y2.1.length : Int) 0, ())
        else some (false, ())
      else bif ltI v0 v2.1 then
        bif eqI y2.2.1 3 then
          some (eqI (y2.1.length : Int) 0, ())
        else some (false, ())
      else bif ltI v1 0 then
        bif eqI y2.2.1 3 then
          some (eqI (y2.1.length : Int) 0, ())
        else some (false, ())
      else bif !(ltI v1 v0) then
        bif eqI y2.2.1 3 then
          some (eqI (y2.1.length : Int) 0, ())
        else some (false, ())
      else bif ltI v2.2 0 then
        bif eqI y2.2.1 3 then
          some (eqI (y2.1.length : Int) 0, ())
        else some (false, ())
      else bif !(ltI v2.2 v0) then
        bif eqI y2.2.1 3 then
          some (eqI (y2.1.length : Int) 0, ())
        else some (false, ())
      else askO (f16 (v0, v1, v2.1, v2.2, ())) fun y3 =>
      bif y3.2.1 then
        bif eqI y2.2.1 0 then
          askO (f14 (y2.1, y3.1, ())) fun y4 =>
          some (y4.1, ())
        else some (false, ())
      else bif eqI y2.2.1 14 then
        some (eqI (y2.1.length : Int) 0, ())
      else some (false, ())
    else some (false, ())
noncomputable def c4 : Code := bodyOf Try.f4
abbrev E4 : Env := envOf [e12, e14, e15, e16]
theorem E4_ok : EnvOK Try.prog E4 := env_ok ⟨e12_ok, e14_ok, e15_ok, e16_ok, trivial⟩
def lt4 (id : Nat) : Option LSpec := none
theorem loops4 : loopsOf c4 = [] := by kernel_rfl
theorem body4 : ∀ x, bodyK Try.prog E4 Try.f4 (keepOf Try.f4) lt4 c4 [.int .i64, .int .i64, .agg (.prod (.int .i64) (.int .i64))] [.bool] x = f4 x := by
  rintro ⟨v0, v1, v2, ⟨⟩⟩
  kernel_rfl
theorem fn4 : FnOK Try.prog 4 [.int .i64, .int .i64, .agg (.prod (.int .i64) (.int .i64))] [.bool] f4 := by
  exact fun_ok progOK E4_ok Try.func4 (c := c4) (by kernel_rfl) (keep := keepOf Try.f4) (lt := lt4) (loops_ok loops4 trivial) body4
abbrev e4 : Ent := ⟨4, [.int .i64, .int .i64, .agg (.prod (.int .i64) (.int .i64))], [.bool], f4⟩
theorem e4_ok : Ent.OK Try.prog e4 := fn4

/-! schisma/schismalaw35.EvennessGenerators -/
abbrev sh5_0 : List (Nat × Kd) := [(3, .int .i64), (4, .list (.int .i64)), (5, .int .i64), (6, .int .i64), (7, .bool), (9, .int .i64), (40, .int .i64), (41, .int .i64)]
abbrev ex5_0 : List (Ex × List (Nat × Kd)) := [(.ret, [(2, .bool)]), (.exit 2, [(3, .int .i64), (4, .list (.int .i64)), (5, .int .i64), (6, .int .i64), (7, .bool), (9, .int .i64)])]
def step5_0 (x : Shape.den sh5_0) : Option (Shape.den sh5_0 ⊕ exDen ex5_0) := match x with
  | (v3, v4, v5, v6, v7, v9, v40, v41, ()) =>
    bif ltI v41 v40 then
      askO (f16 (v3, v9, (v4.length : Int), v41, ())) fun y6 =>
      bif y6.2.1 then
        askO (f14 (y6.1, v4, ())) fun y7 =>
        bif y7.1 then
          bif v7 then
            bif eqI v5 v9 then
              some (.inr (.inl (eqI v6 v41, ())))
            else some (.inr (.inl (false, ())))
          else some (.inr (.inl (false, ())))
        else some (.inl (v3, v4, v5, v6, v7, v9, v40, (wrapF .i64 (v41 + 1)), ()))
      else some (.inl (v3, v4, v5, v6, v7, v9, v40, (wrapF .i64 (v41 + 1)), ()))
    else some (.inr (.inr ((v3, v4, v5, v6, v7, v9, ()))))
def loop5_0 (x : Shape.den sh5_0) : Option (exDen ex5_0) := loopN step5_0 (2 ^ 64) x
abbrev sh5_1 : List (Nat × Kd) := [(3, .int .i64), (4, .list (.int .i64)), (5, .int .i64), (6, .int .i64), (7, .bool), (9, .int .i64)]
abbrev ex5_1 : List (Ex × List (Nat × Kd)) := [(.ret, [(2, .bool)]), (.exit 0, [(5, .int .i64), (6, .int .i64), (7, .bool)])]
def step5_1 (x : Shape.den sh5_1) : Option (Shape.den sh5_1 ⊕ exDen ex5_1) := match x with
  | (v3, v4, v5, v6, v7, v9, ()) =>
    bif ltI v9 v3 then
      bif ltI 1 (v4.length : Int) then
        askO (loop5_0 (v3, v4, v5, v6, v7, v9, v3, 0, ())) fun z11 =>
        onSum z11 (fun a12 => some (.inr (.inl (a12.1, ())))) fun b13 =>
        some (.inl (b13.1, b13.2.1, b13.2.2.1, b13.2.2.2.1, b13.2.2.2.2.1, (wrapF .i64 (b13.2.2.2.2.2.1 + 1)), ()))
      else some (.inr (.inr ((v5, v6, v7, ()))))
    else some (.inr (.inr ((v5, v6, v7, ()))))
def loop5_1 (x : Shape.den sh5_1) : Option (exDen ex5_1) := loopN step5_1 (2 ^ 64) x
def f5 (x : denK [.agg (.prod (.int .u8) (.int .u16))]) : Option (denK [.bool]) := match x with
  | (v0, ()) =>
    askO (f12 (())) fun y1 =>
    bif y1.1 then
      askO (f17 ((v0.1, v0.2), ())) fun y2 =>
      askO (f18 (y2.1, y2.2.1, ())) fun y3 =>
      bif !(eqI y3.2.2.2.1 0) then
        some (false, ())
      else askO (loop5_1 (y2.1, y2.2.1, y3.1, y3.2.1, y3.2.2.1, 1, ())) fun z14 =>
      onSum z14 (fun a15 => some (a15.1, ())) fun b16 =>
      bif b16.2.2.1 then
        some (false, ())
      else bif eqI b16.1 0 then
        some (eqI b16.2.1 0, ())
      else some (false, ())
    else some (false, ())
noncomputable def c5 : Code := bodyOf Try.f5
abbrev E5 : Env := envOf [e12, e14, e16, e17, e18]
theorem E5_ok : EnvOK Try.prog E5 := env_ok ⟨e12_ok, e14_ok, e16_ok, e17_ok, e18_ok, trivial⟩
noncomputable def a5_1 : Code := loopAt c5 0
noncomputable def a5_0 : Code := loopAt a5_1 0
def lt5 (id : Nat) : Option LSpec := bif Nat.beq id 11 then some ⟨sh5_0, ex5_0, loop5_0⟩ else bif Nat.beq id 8 then some ⟨sh5_1, ex5_1, loop5_1⟩ else none
theorem round5_0 : ∀ x, roundK Try.prog E5 81 (keepOf Try.f5) lt5 a5_0 sh5_0 ex5_0 x = step5_0 x := by
  rintro ⟨v3, v4, v5, v6, v7, v9, v40, v41, ⟨⟩⟩
  kernel_rfl
theorem in5_0 : loopsOf a5_0 = [] := by kernel_rfl
theorem first5_0 : firstRegion a5_0 = 11 := by kernel_rfl
theorem spec5_0 : SpecOK Try.prog 81 a5_0 ⟨sh5_0, ex5_0, loop5_0⟩ := by
  exact loop_ok E5_ok.callee progOK.mixed _ (loops_ok in5_0 trivial) round5_0
theorem round5_1 : ∀ x, roundK Try.prog E5 81 (keepOf Try.f5) lt5 a5_1 sh5_1 ex5_1 x = step5_1 x := by
  rintro ⟨v3, v4, v5, v6, v7, v9, ⟨⟩⟩
  kernel_rfl
theorem in5_1 : loopsOf a5_1 = [a5_0] := by kernel_rfl
theorem first5_1 : firstRegion a5_1 = 8 := by kernel_rfl
theorem spec5_1 : SpecOK Try.prog 81 a5_1 ⟨sh5_1, ex5_1, loop5_1⟩ := by
  exact loop_ok E5_ok.callee progOK.mixed _ (loops_ok in5_1 ⟨spec_of first5_0 rfl spec5_0, trivial⟩) round5_1
theorem loops5 : loopsOf c5 = [a5_1] := by kernel_rfl
theorem body5 : ∀ x, bodyK Try.prog E5 Try.f5 (keepOf Try.f5) lt5 c5 [.agg (.prod (.int .u8) (.int .u16))] [.bool] x = f5 x := by
  rintro ⟨v0, ⟨⟩⟩
  kernel_rfl
theorem fn5 : FnOK Try.prog 5 [.agg (.prod (.int .u8) (.int .u16))] [.bool] f5 := by
  exact fun_ok progOK E5_ok Try.func5 (c := c5) (by kernel_rfl) (keep := keepOf Try.f5) (lt := lt5) (loops_ok loops5 ⟨spec_of first5_1 rfl spec5_1, trivial⟩) body5
abbrev e5 : Ent := ⟨5, [.agg (.prod (.int .u8) (.int .u16))], [.bool], f5⟩
theorem e5_ok : Ent.OK Try.prog e5 := fn5

/-! schisma/schismalaw35.EvennessSpectra -/
abbrev sh8_0 : List (Nat × Kd) := [(5, .int .i64), (8, .list (.int .i64)), (10, .list (.int .i64)), (57, .int .i64), (58, .int .i64)]
abbrev ex8_0 : List (Ex × List (Nat × Kd)) := [(.ret, [(4, .bool)]), (.exit 0, [])]
def step8_0 (x : Shape.den sh8_0) : Option (Shape.den sh8_0 ⊕ exDen ex8_0) := match x with
  | (v5, v8, v10, v57, v58, ()) =>
    bif ltI v58 v57 then
      bif idxOk v58 v8.length then bif idxOk (wrapF .i64 ((wrapF .i64 ((v10.length : Int) - 1)) - v58)) v10.length then bif !(eqI (wrapF .i64 ((v8.getD v58.toNat 0) + (v10.getD ((wrapF .i64 ((wrapF .i64 ((v10.length : Int) - 1)) - v58)).toNat) 0))) v5) then
        some (.inr (.inl (false, ())))
      else some (.inl (v5, v8, v10, v57, (wrapF .i64 (v58 + 1)), ())) else none else none
    else some (.inr (.inr ((()))))
def loop8_0 (x : Shape.den sh8_0) : Option (exDen ex8_0) := loopN step8_0 (2 ^ 64) x
def f8 (x : denK [.agg (.prod (.int .u8) (.int .u16)), .int .u8]) : Option (denK [.bool]) := match x with
  | (v0, v1, ()) =>
    askO (f12 (())) fun y1 =>
    bif y1.1 then
      askO (f17 ((v0.1, v0.2), ())) fun y2 =>
      bif eqI (wrapF .i64 ((y2.2.1.length : Int) + 1)) 0 then none else askO (f28 (y2.1, y2.2.1, ((IntKind.wrap .i64 v1).tmod (wrapF .i64 ((y2.2.1.length : Int) + 1))), ())) fun y3 =>
      askO (f28 (y2.1, y2.2.1, (wrapF .i64 ((y2.2.1.length : Int) - ((IntKind.wrap .i64 v1).tmod (wrapF .i64 ((y2.2.1.length : Int) + 1))))), ())) fun y4 =>
      bif !(eqI y3.2.1 0) then
        some (false, ())
      else bif !(eqI y4.2.1 0) then
        some (false, ())
      else bif !(eqI (y3.1.length : Int) (y4.1.length : Int)) then
        some (false, ())
      else askO (loop8_0 (y2.1, y3.1, y4.1, (y3.1.length : Int), 0, ())) fun z5 =>
      onSum z5 (fun a6 => some (a6.1, ())) fun b7 =>
      some (true, ())
    else some (false, ())
noncomputable def c8 : Code := bodyOf Try.f8
abbrev E8 : Env := envOf [e12, e17, e28]
theorem E8_ok : EnvOK Try.prog E8 := env_ok ⟨e12_ok, e17_ok, e28_ok, trivial⟩
noncomputable def a8_0 : Code := loopAt c8 0
def lt8 (id : Nat) : Option LSpec := bif Nat.beq id 10 then some ⟨sh8_0, ex8_0, loop8_0⟩ else none
theorem round8_0 : ∀ x, roundK Try.prog E8 77 (keepOf Try.f8) lt8 a8_0 sh8_0 ex8_0 x = step8_0 x := by
  rintro ⟨v5, v8, v10, v57, v58, ⟨⟩⟩
  kernel_rfl
theorem in8_0 : loopsOf a8_0 = [] := by kernel_rfl
theorem first8_0 : firstRegion a8_0 = 10 := by kernel_rfl
theorem spec8_0 : SpecOK Try.prog 77 a8_0 ⟨sh8_0, ex8_0, loop8_0⟩ := by
  exact loop_ok E8_ok.callee progOK.mixed _ (loops_ok in8_0 trivial) round8_0
theorem loops8 : loopsOf c8 = [a8_0] := by kernel_rfl
theorem body8 : ∀ x, bodyK Try.prog E8 Try.f8 (keepOf Try.f8) lt8 c8 [.agg (.prod (.int .u8) (.int .u16)), .int .u8] [.bool] x = f8 x := by
  rintro ⟨v0, v1, ⟨⟩⟩
  kernel_rfl
theorem fn8 : FnOK Try.prog 8 [.agg (.prod (.int .u8) (.int .u16)), .int .u8] [.bool] f8 := by
  exact fun_ok progOK E8_ok Try.func8 (c := c8) (by kernel_rfl) (keep := keepOf Try.f8) (lt := lt8) (loops_ok loops8 ⟨spec_of first8_0 rfl spec8_0, trivial⟩) body8
abbrev e8 : Ent := ⟨8, [.agg (.prod (.int .u8) (.int .u16)), .int .u8], [.bool], f8⟩
theorem e8_ok : Ent.OK Try.prog e8 := fn8

/-! schisma/schismalaw35.sizes -/
abbrev sh30o_0 : List (Nat × Kd) := [(0, .int .i64), (1, .list (.int .i64)), (2, .int .i64), (7, .own 3 (.int .i64)), (8, .int .i64), (13, .int .i64), (14, .int .i64)]
abbrev ex30o_0 : List (Ex × List (Nat × Kd)) := [(.exit 0, [(7, .own 3 (.int .i64))])]
def step30o_0 (x : Shape.den sh30o_0) : Option (Shape.den sh30o_0 ⊕ exDen ex30o_0) := match x with
  | (v0, v1, v2, v7, v8, v13, v14, ()) =>
    bif ltI v14 v13 then
      bif eqI v8 0 then none else bif idxOk ((wrapF .i64 (v14 + v2)).tmod v8) v1.length then bif eqI v8 0 then none else bif idxOk v14 v1.length then bif Nat.ble [(wrapF .i64 ((wrapF .i64 ((v1.getD (((wrapF .i64 (v14 + v2)).tmod v8).toNat) 0) + (wrapF .i64 ((wrapF .i64 ((wrapF .i64 (v14 + v2)).tdiv v8)) * v0)))) - (v1.getD v14.toNat 0)))].length 1048576 then bif Nat.ble v7.length 1048576 then some (.inl (v0, v1, v2, (v7 ++ [(wrapF .i64 ((wrapF .i64 ((v1.getD (((wrapF .i64 (v14 + v2)).tmod v8).toNat) 0) + (wrapF .i64 ((wrapF .i64 ((wrapF .i64 (v14 + v2)).tdiv v8)) * v0)))) - (v1.getD v14.toNat 0)))]), v8, v13, (wrapF .i64 (v14 + 1)), ())) else none else none else none else none
    else some (.inr ((v7, ())))
def loop30o_0 (x : Shape.den sh30o_0) : Option (exDen ex30o_0) := loopN step30o_0 (2 ^ 64) x
def f30o (x : denK [.int .i64, .list (.int .i64), .int .i64]) : Option (List Int) := match x with
  | (v0, v1, v2, ()) =>
    askO (loop30o_0 (v0, v1, v2, [], (v1.length : Int), (v1.length : Int), 0, ())) fun z1 =>
    some z1.1
noncomputable def c30o : Code := bodyOf Try.f30
abbrev E30o : Env := envOf []
theorem E30o_ok : EnvOK Try.prog E30o := env_ok trivial
noncomputable def a30o_0 : Code := loopAt c30o 0
def lt30o (id : Nat) : Option LSpec := bif Nat.beq id 4 then some ⟨sh30o_0, ex30o_0, loop30o_0⟩ else none
theorem round30o_0 : ∀ x, roundK Try.prog E30o 43 (keepOf Try.f30) lt30o a30o_0 sh30o_0 ex30o_0 x = step30o_0 x := by
  rintro ⟨v0, v1, v2, v7, v8, v13, v14, ⟨⟩⟩
  kernel_rfl
theorem in30o_0 : loopsOf a30o_0 = [] := by kernel_rfl
theorem first30o_0 : firstRegion a30o_0 = 4 := by kernel_rfl
theorem spec30o_0 : SpecOK Try.prog 43 a30o_0 ⟨sh30o_0, ex30o_0, loop30o_0⟩ := by
  exact loop_ok E30o_ok.callee progOK.mixed _ (loops_ok in30o_0 trivial) round30o_0
theorem loops30o : loopsOf c30o = [a30o_0] := by kernel_rfl
theorem body30o : ∀ x, bodyO Try.prog E30o Try.f30 (keepOf Try.f30) lt30o c30o [.int .i64, .list (.int .i64), .int .i64] 6 3 (.int .i64) x = f30o x := by
  rintro ⟨v0, v1, v2, ⟨⟩⟩
  kernel_rfl
theorem fn30o : FnOwn Try.prog 30 [.int .i64, .list (.int .i64), .int .i64] 3 (.int .i64) f30o := by
  exact fun_own progOK E30o_ok Try.func30 (c := c30o) (by kernel_rfl) (keep := keepOf Try.f30) (lt := lt30o) (t := 6) (by kernel_rfl) (loops_ok loops30o ⟨spec_of first30o_0 rfl spec30o_0, trivial⟩) body30o
abbrev s30o : Shr := (30, ownH [.int .i64, .list (.int .i64), .int .i64] 3 (.int .i64) f30o)
theorem s30o_ok : ShrOK Try.prog s30o := ownH_ok fn30o

/-! schisma/schismalaw35.EvennessClasses -/
def f9 (x : denK [.agg (.prod (.int .u8) (.int .u16)), .int .i64]) : Option (denK [.bool]) := match x with
  | (v0, v1, ()) =>
    askO (f12 (())) fun y1 =>
    bif y1.1 then
      askO (f17 ((v0.1, v0.2), ())) fun y2 =>
      askO (f29 (y2.1, y2.2.1, ())) fun y3 =>
      askO (f28 (y2.1, y2.2.1, v1, ())) fun y4 =>
      askO (f27 (y2.1, y2.2.1, ())) fun y5 =>
      askO (f20 (y2.1, y2.2.1, ())) fun y6 =>
      bif !(eqI y3.2.1 0) then
        some (false, ())
      else bif !(eqI y5.2.2.1 0) then
        some (false, ())
      else askO (f30o (y2.1, y2.2.1, 1, ())) fun y7 =>
      askO (f14 (y3.1, y7, ())) fun y8 =>
      bif y8.1 then
        bif y5.1 then
          bif y6.1 then
            bif !(eqI y5.2.1.1 y6.2.1.1 && (eqI y5.2.1.2.1 y6.2.1.2.1 && (eqI y5.2.1.2.2 y6.2.1.2.2 && true))) then
              some (false, ())
            else bif ltI v1 0 then
              bif eqI y4.2.1 3 then
                some (eqI (y4.1.length : Int) 0, ())
              else some (false, ())
            else bif ltI (y2.2.1.length : Int) v1 then
              bif eqI y4.2.1 3 then
                some (eqI (y4.1.length : Int) 0, ())
              else some (false, ())
            else askO (f30o (y2.1, y2.2.1, v1, ())) fun y9 =>
            askO (sortO y9) fun y10 =>
            bif eqI y4.2.1 0 then
              askO (compactO y10) fun y11 =>
              askO (f14 (y4.1, y11, ())) fun y12 =>
              some (y12.1, ())
            else some (false, ())
          else some (false, ())
        else bif y6.1 then
          some (false, ())
        else bif !(eqI y5.2.1.1 y6.2.1.1 && (eqI y5.2.1.2.1 y6.2.1.2.1 && (eqI y5.2.1.2.2 y6.2.1.2.2 && true))) then
          some (false, ())
        else bif ltI v1 0 then
          bif eqI y4.2.1 3 then
            some (eqI (y4.1.length : Int) 0, ())
          else some (false, ())
        else bif ltI (y2.2.1.length : Int) v1 then
          bif eqI y4.2.1 3 then
            some (eqI (y4.1.length : Int) 0, ())
          else some (false, ())
        else askO (f30o (y2.1, y2.2.1, v1, ())) fun y13 =>
        askO (sortO y13) fun y14 =>
        bif eqI y4.2.1 0 then
          askO (compactO y14) fun y15 =>
          askO (f14 (y4.1, y15, ())) fun y16 =>
          some (y16.1, ())
        else some (false, ())
      else some (false, ())
    else some (false, ())
noncomputable def c9 : Code := bodyOf Try.f9
abbrev E9 : Env := envT [e12, e14, e17, e20, e27, e28, e29] [s30o, s31, s32]
theorem E9_ok : EnvOK Try.prog E9 := envT_ok ⟨e12_ok, e14_ok, e17_ok, e20_ok, e27_ok, e28_ok, e29_ok, trivial⟩ ⟨s30o_ok, s31_ok, s32_ok, trivial⟩
def lt9 (id : Nat) : Option LSpec := none
theorem loops9 : loopsOf c9 = [] := by kernel_rfl
theorem body9 : ∀ x, bodyK Try.prog E9 Try.f9 (keepOf Try.f9) lt9 c9 [.agg (.prod (.int .u8) (.int .u16)), .int .i64] [.bool] x = f9 x := by
  rintro ⟨v0, v1, ⟨⟩⟩
  kernel_rfl
theorem fn9 : FnOK Try.prog 9 [.agg (.prod (.int .u8) (.int .u16)), .int .i64] [.bool] f9 := by
  exact fun_ok progOK E9_ok Try.func9 (c := c9) (by kernel_rfl) (keep := keepOf Try.f9) (lt := lt9) (loops_ok loops9 trivial) body9
abbrev e9 : Ent := ⟨9, [.agg (.prod (.int .u8) (.int .u16)), .int .i64], [.bool], f9⟩
theorem e9_ok : Ent.OK Try.prog e9 := fn9

/-! schisma/evenness.Rotations -/
abbrev sh25_0 : List (Nat × Kd) := [(0, .int .i64), (1, .list (.int .i64)), (7, .own 23 (.list (.int .i64))), (15, .int .i64), (16, .int .i64)]
abbrev ex25_0 : List (Ex × List (Nat × Kd)) := [(.exit 0, [(7, .own 23 (.list (.int .i64)))])]
def step25_0 (x : Shape.den sh25_0) : Option (Shape.den sh25_0 ⊕ exDen ex25_0) := match x with
  | (v0, v1, v7, v15, v16, ()) =>
    bif ltI v16 v15 then
      askO (f49s2c52i (v0, v1, (v16, ()), ())) fun y3 =>
      bif Nat.ble [y3.1].length 1048576 then bif Nat.ble v7.length 1048576 then some (.inl (v0, v1, (v7 ++ [y3.1]), v15, (wrapF .i64 (v16 + 1)), ())) else none else none
    else some (.inr ((v7, ())))
def loop25_0 (x : Shape.den sh25_0) : Option (exDen ex25_0) := loopN step25_0 (2 ^ 64) x
def f25 (x : denK [.int .i64, .list (.int .i64)]) : Option (denK [.list (.list (.int .i64)), .int .i64]) := match x with
  | (v0, v1, ()) =>
    askO (f37 (v0, v1, ())) fun y1 =>
    bif !(eqI y1.1 0) then
      some ([], y1.1, ())
    else askO (loop25_0 (v0, v1, [], v0, 0, ())) fun z4 =>
    none
noncomputable def c25 : Code := bodyOf Try.f25
abbrev E25 : Env := envOf [e37, e49s2c52i]
theorem E25_ok : EnvOK Try.prog E25 := env_ok ⟨e37_ok, e49s2c52i_ok, trivial⟩
noncomputable def a25_0 : Code := loopAt c25 0
def lt25 (id : Nat) : Option LSpec := bif Nat.beq id 6 then some ⟨sh25_0, ex25_0, loop25_0⟩ else none
theorem round25_0 : ∀ x, roundK Try.prog E25 31 (keepOf Try.f25) lt25 a25_0 sh25_0 ex25_0 x = step25_0 x := by
  rintro ⟨v0, v1, v7, v15, v16, ⟨⟩⟩
  kernel_rfl
theorem in25_0 : loopsOf a25_0 = [] := by kernel_rfl
theorem first25_0 : firstRegion a25_0 = 6 := by kernel_rfl
theorem spec25_0 : SpecOK Try.prog 31 a25_0 ⟨sh25_0, ex25_0, loop25_0⟩ := by
  exact loop_ok E25_ok.callee progOK.mixed _ (loops_ok in25_0 trivial) round25_0
theorem loops25 : loopsOf c25 = [a25_0] := by kernel_rfl
theorem body25 : ∀ x, bodyK Try.prog E25 Try.f25 (keepOf Try.f25) lt25 c25 [.int .i64, .list (.int .i64)] [.list (.list (.int .i64)), .int .i64] x = f25 x := by
  rintro ⟨v0, v1, ⟨⟩⟩
  kernel_rfl
theorem fn25 : FnOK Try.prog 25 [.int .i64, .list (.int .i64)] [.list (.list (.int .i64)), .int .i64] f25 := by
  exact fun_ok progOK E25_ok Try.func25 (c := c25) (by kernel_rfl) (keep := keepOf Try.f25) (lt := lt25) (loops_ok loops25 ⟨spec_of first25_0 rfl spec25_0, trivial⟩) body25
abbrev e25 : Ent := ⟨25, [.int .i64, .list (.int .i64)], [.list (.list (.int .i64)), .int .i64], f25⟩
theorem e25_ok : Ent.OK Try.prog e25 := fn25

/-! schisma/schismalaw35.EvennessChecks -/
def f11 (x : denK [.int .i64, .list (.int .i64)]) : Option (denK [.bool]) := match x with
  | (v0, v1, ()) =>
    askO (f12 (())) fun y1 =>
    bif y1.1 then
      bif ltI 8 (v1.length : Int) then
        askO (f12 (())) fun y2 =>
        some (y2.1, ())
      else askO (f36 (v0, v1, ())) fun y3 =>
      askO (f37 (v0, v1, ())) fun y4 =>
      bif !(eqI y4.1 y3.1) then
        some (false, ())
      else bif eqI y3.1 0 then
        some (true, ())
      else askO (f29 (v0, v1, ())) fun y5 =>
      askO (f28 (v0, v1, 0, ())) fun y6 =>
      askO (f27 (v0, v1, ())) fun y7 =>
      askO (f23 (v0, v1, 1, ())) fun y8 =>
      askO (f25 (v0, v1, ())) fun y9 =>
      askO (f26 (v0, v1, ())) fun y10 =>
      askO (f24 (v0, v1, ())) fun y11 =>
      askO (f18 (v0, v1, ())) fun y12 =>
      bif eqI y5.2.1 y3.1 then
        bif eqI y6.2.1 y3.1 then
          bif eqI y7.2.2.1 y3.1 then
            bif eqI y8.2.1 y3.1 then
              bif eqI y9.2.1 y3.1 then
                bif eqI y10.2.1 y3.1 then
                  bif eqI y11.2.1 y3.1 then
                    bif eqI y12.2.2.2.1 y3.1 then
                      bif y7.1 then
                        some (false, ())
                      else bif (eqI y7.2.1.1 0 && (eqI y7.2.1.2.1 0 && (eqI y7.2.1.2.2 0 && true))) then
                        bif y12.2.2.1 then
                          some (false, ())
                        else some (eqI (wrapF .i64 ((wrapF .i64 ((wrapF .i64 ((wrapF .i64 ((wrapF .i64 ((y5.1.length : Int) + (y6.1.length : Int))) + (y8.1.length : Int))) + (y9.1.length : Int))) + (y10.1.length : Int))) + (y11.1.length : Int))) 0, ())
                      else some (false, ())
                    else some (false, ())
                  else some (false, ())
                else some (false, ())
              else some (false, ())
            else some (false, ())
          else some (false, ())
        else some (false, ())
      else some (false, ())
    else askO (f12 (())) fun y13 =>
    some (y13.1, ())
noncomputable def c11 : Code := bodyOf Try.f11
abbrev E11 : Env := envOf [e12, e18, e23, e24, e25, e26, e27, e28, e29, e36, e37]
theorem E11_ok : EnvOK Try.prog E11 := env_ok ⟨e12_ok, e18_ok, e23_ok, e24_ok, e25_ok, e26_ok, e27_ok, e28_ok, e29_ok, e36_ok, e37_ok, trivial⟩
def lt11 (id : Nat) : Option LSpec := none
theorem loops11 : loopsOf c11 = [] := by kernel_rfl
theorem body11 : ∀ x, bodyK Try.prog E11 Try.f11 (keepOf Try.f11) lt11 c11 [.int .i64, .list (.int .i64)] [.bool] x = f11 x := by
  rintro ⟨v0, v1, ⟨⟩⟩
  kernel_rfl
theorem fn11 : FnOK Try.prog 11 [.int .i64, .list (.int .i64)] [.bool] f11 := by
  exact fun_ok progOK E11_ok Try.func11 (c := c11) (by kernel_rfl) (keep := keepOf Try.f11) (lt := lt11) (loops_ok loops11 trivial) body11
abbrev e11 : Ent := ⟨11, [.int .i64, .list (.int .i64)], [.bool], f11⟩
theorem e11_ok : Ent.OK Try.prog e11 := fn11
end Go.PM
