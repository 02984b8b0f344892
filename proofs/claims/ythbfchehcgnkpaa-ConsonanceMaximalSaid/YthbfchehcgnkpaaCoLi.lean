/- Chapter 40: functions by open runs of the plain machine (printed by a program). -/
import Derived.Test.YthbfchehcgnkpaaCoP
import Derived.Test.YthbfchehcgnkpaaCoO
import Derived.Test.YthbfchehcgnkpaaCoF
import Derived.Test.YthbfchehcgnkpaaCoG
import Derived.Test.YthbfchehcgnkpaaCoI
set_option linter.unusedSimpArgs false
set_option linter.unusedVariables false
namespace Go.PM
open Go Go.RowKit Go.Proofs
set_option maxRecDepth 100000
set_option maxHeartbeats 4000000

/-! schisma/schismalaw40.Make -/
abbrev sh16_0 : List (Nat × Kd) := [(1, .box 34 (.prod (.int .u8) (.list (.prod (.int .i8) (.prod (.int .i8) (.int .i8)))))), (5, .int .i64), (6, .own 48 (.list (.int .i64))), (7, .int .i64), (8, .own 3 (.int .i64)), (9, .int .i64)]
abbrev ex16_0 : List (Ex × List (Nat × Kd)) := [(.exit 2, [(1, .box 34 (.prod (.int .u8) (.list (.prod (.int .i8) (.prod (.int .i8) (.int .i8)))))), (5, .int .i64), (6, .own 48 (.list (.int .i64))), (7, .int .i64), (8, .own 3 (.int .i64))])]
def step16_0 (x : Shape.den sh16_0) : Option (Shape.den sh16_0 ⊕ exDen ex16_0) := match x with
  | (v1, v5, v6, v7, v8, v9, ()) =>
    bif ltI v9 v5 then
      bif idxOk v7 v1.2.length then bif eqI v9 0 then
        bif Nat.ble [((IntKind.wrap .i64 ((v1.2.getD v7.toNat (0, (0, 0))).1)).tmod 4)].length 1048576 then bif Nat.ble v8.length 1048576 then some (.inl ((v1.1, v1.2), v5, v6, v7, (v8 ++ [((IntKind.wrap .i64 ((v1.2.getD v7.toNat (0, (0, 0))).1)).tmod 4)]), (wrapF .i64 (v9 + 1)), ())) else none else none
      else bif eqI v9 1 then
        bif Nat.ble [((IntKind.wrap .i64 ((v1.2.getD v7.toNat (0, (0, 0))).2.1)).tmod 4)].length 1048576 then bif Nat.ble v8.length 1048576 then some (.inl ((v1.1, v1.2), v5, v6, v7, (v8 ++ [((IntKind.wrap .i64 ((v1.2.getD v7.toNat (0, (0, 0))).2.1)).tmod 4)]), (wrapF .i64 (v9 + 1)), ())) else none else none
      else bif eqI v9 2 then bif Nat.ble [((IntKind.wrap .i64 ((v1.2.getD v7.toNat (0, (0, 0))).2.2)).tmod 4)].length 1048576 then bif Nat.ble v8.length 1048576 then some (.inl ((v1.1, v1.2), v5, v6, v7, (v8 ++ [((IntKind.wrap .i64 ((v1.2.getD v7.toNat (0, (0, 0))).2.2)).tmod 4)]), (wrapF .i64 (v9 + 1)), ())) else none else none else none else none
    else some (.inr (((v1.1, v1.2), v5, v6, v7, v8, ())))
def loop16_0 (x : Shape.den sh16_0) : Option (exDen ex16_0) := loopN step16_0 (2 ^ 64) x
abbrev sh16_1 : List (Nat × Kd) := [(1, .box 34 (.prod (.int .u8) (.list (.prod (.int .i8) (.prod (.int .i8) (.int .i8)))))), (5, .int .i64), (6, .own 48 (.list (.int .i64))), (7, .int .i64)]
abbrev ex16_1 : List (Ex × List (Nat × Kd)) := [(.exit 0, [(5, .int .i64), (6, .own 48 (.list (.int .i64)))])]
def step16_1 (x : Shape.den sh16_1) : Option (Shape.den sh16_1 ⊕ exDen ex16_1) := match x with
  | (v1, v5, v6, v7, ()) =>
    bif ltI v7 (v1.2.length : Int) then
      askO (loop16_0 ((v1.1, v1.2), v5, v6, v7, [], 0, ())) fun z2 =>
      bif Nat.ble [z2.2.2.2.2.1].length 1048576 then bif Nat.ble z2.2.2.1.length 1048576 then some (.inl ((z2.1.1, z2.1.2), z2.2.1, (z2.2.2.1 ++ [z2.2.2.2.2.1]), (wrapF .i64 (z2.2.2.2.1 + 1)), ())) else none else none
    else some (.inr ((v5, v6, ())))
def loop16_1 (x : Shape.den sh16_1) : Option (exDen ex16_1) := loopN step16_1 (2 ^ 64) x
def f16 (x : denK [.agg (.prod (.int .u8) (.list (.prod (.int .i8) (.prod (.int .i8) (.int .i8)))))]) : Option (denK [.int .i64, .list (.list (.int .i64)), .bool]) := match x with
  | (v0, ()) =>
    bif ltI 6 (v0.2.length : Int) then
      some ((wrapF .i64 (1 + ((IntKind.wrap .i64 v0.1).tmod 3))), [], false, ())
    else askO (loop16_1 ((v0.1, v0.2), (wrapF .i64 (1 + ((IntKind.wrap .i64 v0.1).tmod 3))), [], 0, ())) fun z3 =>
    some (z3.1, z3.2.1, true, ())
noncomputable def c16 : Code := bodyOf Try.f16
abbrev E16 : Env := envOf []
theorem E16_ok : EnvOK Try.prog E16 := env_ok trivial
noncomputable def a16_1 : Code := loopAt c16 0
noncomputable def a16_0 : Code := loopAt a16_1 0
def lt16 (id : Nat) : Option LSpec := bif Nat.beq id 10 then some ⟨sh16_0, ex16_0, loop16_0⟩ else bif Nat.beq id 6 then some ⟨sh16_1, ex16_1, loop16_1⟩ else none
theorem round16_0 : ∀ x, roundK Try.prog E16 50 (keepOf Try.f16) lt16 a16_0 sh16_0 ex16_0 x = step16_0 x := by
  rintro ⟨v1, v5, v6, v7, v8, v9, ⟨⟩⟩
  kernel_rfl
theorem in16_0 : loopsOf a16_0 = [] := by kernel_rfl
theorem first16_0 : firstRegion a16_0 = 10 := by kernel_rfl
theorem spec16_0 : SpecOK Try.prog 50 a16_0 ⟨sh16_0, ex16_0, loop16_0⟩ := by
  exact loop_ok E16_ok.callee progOK.mixed _ (loops_ok in16_0 trivial) round16_0
theorem round16_1 : ∀ x, roundK Try.prog E16 50 (keepOf Try.f16) lt16 a16_1 sh16_1 ex16_1 x = step16_1 x := by
  rintro ⟨v1, v5, v6, v7, ⟨⟩⟩
  kernel_rfl
theorem in16_1 : loopsOf a16_1 = [a16_0] := by kernel_rfl
theorem first16_1 : firstRegion a16_1 = 6 := by kernel_rfl
theorem spec16_1 : SpecOK Try.prog 50 a16_1 ⟨sh16_1, ex16_1, loop16_1⟩ := by
  exact loop_ok E16_ok.callee progOK.mixed _ (loops_ok in16_1 ⟨spec_of first16_0 rfl spec16_0, trivial⟩) round16_1
theorem loops16 : loopsOf c16 = [a16_1] := by kernel_rfl
theorem body16 : ∀ x, bodyK Try.prog E16 Try.f16 (keepOf Try.f16) lt16 c16 [.agg (.prod (.int .u8) (.list (.prod (.int .i8) (.prod (.int .i8) (.int .i8)))))] [.int .i64, .list (.list (.int .i64)), .bool] x = f16 x := by
  rintro ⟨v0, ⟨⟩⟩
  kernel_rfl
theorem fn16 : FnOK Try.prog 16 [.agg (.prod (.int .u8) (.list (.prod (.int .i8) (.prod (.int .i8) (.int .i8)))))] [.int .i64, .list (.list (.int .i64)), .bool] f16 := by
  exact fun_ok progOK E16_ok Try.func16 (c := c16) (by kernel_rfl) (keep := keepOf Try.f16) (lt := lt16) (loops_ok loops16 ⟨spec_of first16_1 rfl spec16_1, trivial⟩) body16
abbrev e16 : Ent := ⟨16, [.agg (.prod (.int .u8) (.list (.prod (.int .i8) (.prod (.int .i8) (.int .i8)))))], [.int .i64, .list (.list (.int .i64)), .bool], f16⟩
theorem e16_ok : Ent.OK Try.prog e16 := fn16

/-! schisma/schismalaw40.ConsonanceLists -/
def f4 (x : denK [.agg (.prod (.int .u8) (.list (.prod (.int .i8) (.prod (.int .i8) (.int .i8))))), .int .i8]) : Option (denK [.bool]) := match x with
  | (v0, v1, ()) =>
    askO (f16 ((v0.1, v0.2), ())) fun y1 =>
    askO (f10 (())) fun y2 =>
    bif y2.1 then
      bif y1.2.2.1 then
        bif ltI v1 (-1) then
          askO (f10 (())) fun y3 =>
          some (y3.1, ())
        else bif ltI 7 v1 then
          askO (f10 (())) fun y4 =>
          some (y4.1, ())
        else askO (f17 (y1.1, y1.2.1, (IntKind.wrap .i64 v1), ())) fun y5 =>
        bif ltI v1 1 then
          bif eqI (y5.1.length : Int) 0 then
            some (eqI y5.2.1 3, ())
          else some (false, ())
        else bif ltI 6 v1 then
          bif eqI (y5.1.length : Int) 0 then
            some (eqI y5.2.1 3, ())
          else some (false, ())
        else askO (f15 (y1.2.1, ())) fun y6 =>
        askO (f19 (y1.1, y6.1, (IntKind.wrap .i64 v1), ())) fun y7 =>
        askO (f18 (y5.1, y7.1, ())) fun y8 =>
        bif y8.1 then
          some (eqI y5.2.1 0, ())
        else some (false, ())
      else askO (f10 (())) fun y9 =>
      some (y9.1, ())
    else askO (f10 (())) fun y10 =>
    some (y10.1, ())
noncomputable def c4 : Code := bodyOf Try.f4
abbrev E4 : Env := envOf [e10, e15, e16, e17, e18, e19]
theorem E4_ok : EnvOK Try.prog E4 := env_ok ⟨e10_ok, e15_ok, e16_ok, e17_ok, e18_ok, e19_ok, trivial⟩
def lt4 (id : Nat) : Option LSpec := none
theorem loops4 : loopsOf c4 = [] := by kernel_rfl
theorem body4 : ∀ x, bodyK Try.prog E4 Try.f4 (keepOf Try.f4) lt4 c4 [.agg (.prod (.int .u8) (.list (.prod (.int .i8) (.prod (.int .i8) (.int .i8))))), .int .i8] [.bool] x = f4 x := by
  rintro ⟨v0, v1, ⟨⟩⟩
  kernel_rfl
theorem fn4 : FnOK Try.prog 4 [.agg (.prod (.int .u8) (.list (.prod (.int .i8) (.prod (.int .i8) (.int .i8))))), .int .i8] [.bool] f4 := by
  exact fun_ok progOK E4_ok Try.func4 (c := c4) (by kernel_rfl) (keep := keepOf Try.f4) (lt := lt4) (loops_ok loops4 trivial) body4
abbrev e4 : Ent := ⟨4, [.agg (.prod (.int .u8) (.list (.prod (.int .i8) (.prod (.int .i8) (.int .i8))))), .int .i8], [.bool], f4⟩
theorem e4_ok : Ent.OK Try.prog e4 := fn4

/-! schisma/schismalaw40.ConsonanceMaximal -/
abbrev sh5_0 : List (Nat × Kd) := [(3, .int .i64), (6, .list (.list (.int .i64))), (7, .list (.list (.list (.int .i64)))), (8, .int .i64), (9, .own 46 (.list (.list (.int .i64)))), (10, .int .i64), (11, .list (.list (.list (.int .i64)))), (12, .int .i64), (13, .bool), (14, .int .i64)]
abbrev ex5_0 : List (Ex × List (Nat × Kd)) := [(.exit 4, [(3, .int .i64), (6, .list (.list (.int .i64))), (7, .list (.list (.list (.int .i64)))), (8, .int .i64), (9, .own 46 (.list (.list (.int .i64)))), (10, .int .i64), (11, .list (.list (.list (.int .i64)))), (12, .int .i64), (13, .bool)])]
def step5_0 (x : Shape.den sh5_0) : Option (Shape.den sh5_0 ⊕ exDen ex5_0) := match x with
  | (v3, v6, v7, v8, v9, v10, v11, v12, v13, v14, ()) =>
    bif ltI v14 (v6.length : Int) then
      bif v13 then
        some (.inl (v3, v6, v7, v8, v9, v10, v11, v12, true, (wrapF .i64 (v14 + 1)), ()))
      else bif idxOk v12 v11.length then bif idxOk v14 v6.length then askO (f21 (v6, (v11.getD v12.toNat []), (v6.getD v14.toNat []), ())) fun y7 =>
      some (.inl (v3, v6, v7, v8, v9, v10, v11, v12, y7.1, (wrapF .i64 (v14 + 1)), ())) else none else none
    else some (.inr ((v3, v6, v7, v8, v9, v10, v11, v12, v13, ())))
def loop5_0 (x : Shape.den sh5_0) : Option (exDen ex5_0) := loopN step5_0 (2 ^ 64) x
abbrev sh5_1 : List (Nat × Kd) := [(3, .int .i64), (6, .list (.list (.int .i64))), (7, .list (.list (.list (.int .i64)))), (8, .int .i64), (9, .own 46 (.list (.list (.int .i64)))), (10, .int .i64), (11, .list (.list (.list (.int .i64)))), (12, .int .i64)]
abbrev ex5_1 : List (Ex × List (Nat × Kd)) := [(.exit 2, [(3, .int .i64), (6, .list (.list (.int .i64))), (7, .list (.list (.list (.int .i64)))), (8, .int .i64), (9, .own 46 (.list (.list (.int .i64)))), (10, .int .i64)])]
def step5_1 (x : Shape.den sh5_1) : Option (Shape.den sh5_1 ⊕ exDen ex5_1) := match x with
  | (v3, v6, v7, v8, v9, v10, v11, v12, ()) =>
    bif ltI v12 (v11.length : Int) then
      askO (loop5_0 (v3, v6, v7, v8, v9, v10, v11, v12, false, 0, ())) fun z9 =>
      bif z9.2.2.2.2.2.2.2.2.1 then
        some (.inl (z9.1, z9.2.1, z9.2.2.1, z9.2.2.2.1, z9.2.2.2.2.1, z9.2.2.2.2.2.1, z9.2.2.2.2.2.2.1, (wrapF .i64 (z9.2.2.2.2.2.2.2.1 + 1)), ()))
      else bif idxOk z9.2.2.2.2.2.2.2.1 z9.2.2.2.2.2.2.1.length then bif Nat.ble [(z9.2.2.2.2.2.2.1.getD z9.2.2.2.2.2.2.2.1.toNat [])].length 1048576 then bif Nat.ble z9.2.2.2.2.1.length 1048576 then some (.inl (z9.1, z9.2.1, z9.2.2.1, z9.2.2.2.1, (z9.2.2.2.2.1 ++ [(z9.2.2.2.2.2.2.1.getD z9.2.2.2.2.2.2.2.1.toNat [])]), z9.2.2.2.2.2.1, z9.2.2.2.2.2.2.1, (wrapF .i64 (z9.2.2.2.2.2.2.2.1 + 1)), ())) else none else none else none
    else some (.inr ((v3, v6, v7, v8, v9, v10, ())))
def loop5_1 (x : Shape.den sh5_1) : Option (exDen ex5_1) := loopN step5_1 (2 ^ 64) x
abbrev sh5_2 : List (Nat × Kd) := [(3, .int .i64), (6, .list (.list (.int .i64))), (7, .list (.list (.list (.int .i64)))), (8, .int .i64), (9, .own 46 (.list (.list (.int .i64)))), (10, .int .i64)]
abbrev ex5_2 : List (Ex × List (Nat × Kd)) := [(.ret, [(2, .bool)]), (.exit 0, [(7, .list (.list (.list (.int .i64)))), (8, .int .i64), (9, .own 46 (.list (.list (.int .i64))))])]
def step5_2 (x : Shape.den sh5_2) : Option (Shape.den sh5_2 ⊕ exDen ex5_2) := match x with
  | (v3, v6, v7, v8, v9, v10, ()) =>
    bif !(ltI 7 v10) then
      askO (f19 (v3, v6, v10, ())) fun y12 =>
      bif eqI v10 7 then
        bif ltI 0 (y12.1.length : Int) then
          bif eqI (v7.length : Int) 0 then
            some (.inr (.inl (eqI v8 4, ())))
          else some (.inr (.inl (false, ())))
        else askO (loop5_1 (v3, v6, v7, v8, v9, v10, y12.1, 0, ())) fun z13 =>
        some (.inl (z13.1, z13.2.1, z13.2.2.1, z13.2.2.2.1, z13.2.2.2.2.1, (wrapF .i64 (z13.2.2.2.2.2.1 + 1)), ()))
      else askO (loop5_1 (v3, v6, v7, v8, v9, v10, y12.1, 0, ())) fun z14 =>
      some (.inl (z14.1, z14.2.1, z14.2.2.1, z14.2.2.2.1, z14.2.2.2.2.1, (wrapF .i64 (z14.2.2.2.2.2.1 + 1)), ()))
    else some (.inr (.inr ((v7, v8, v9, ()))))
def loop5_2 (x : Shape.den sh5_2) : Option (exDen ex5_2) := loopN step5_2 (2 ^ 64) x
def f5 (x : denK [.agg (.prod (.int .u8) (.list (.prod (.int .i8) (.prod (.int .i8) (.int .i8)))))]) : Option (denK [.bool]) := match x with
  | (v0, ()) =>
    askO (f16 ((v0.1, v0.2), ())) fun y1 =>
    askO (f10 (())) fun y2 =>
    bif y2.1 then
      bif y1.2.2.1 then
        askO (f15 (y1.2.1, ())) fun y3 =>
        askO (f20 (y1.1, y1.2.1, ())) fun y4 =>
        askO (loop5_2 (y1.1, y3.1, y4.1, y4.2.1, [], 1, ())) fun z15 =>
        onSum z15 (fun a16 => some (a16.1, ())) fun b17 =>
        askO (f18 (b17.1, b17.2.2.1, ())) fun y18 =>
        bif y18.1 then
          some (eqI b17.2.1 0, ())
        else some (false, ())
      else askO (f10 (())) fun y19 =>
      some (y19.1, ())
    else askO (f10 (())) fun y20 =>
    some (y20.1, ())
noncomputable def c5 : Code := bodyOf Try.f5
abbrev E5 : Env := envOf [e10, e15, e16, e18, e19, e20, e21]
theorem E5_ok : EnvOK Try.prog E5 := env_ok ⟨e10_ok, e15_ok, e16_ok, e18_ok, e19_ok, e20_ok, e21_ok, trivial⟩
noncomputable def a5_2 : Code := loopAt c5 0
noncomputable def a5_1 : Code := loopAt a5_2 0
noncomputable def a5_0 : Code := loopAt a5_1 0
def lt5 (id : Nat) : Option LSpec := bif Nat.beq id 18 then some ⟨sh5_0, ex5_0, loop5_0⟩ else bif Nat.beq id 14 then some ⟨sh5_1, ex5_1, loop5_1⟩ else bif Nat.beq id 8 then some ⟨sh5_2, ex5_2, loop5_2⟩ else none
theorem round5_0 : ∀ x, roundK Try.prog E5 99 (keepOf Try.f5) lt5 a5_0 sh5_0 ex5_0 x = step5_0 x := by
  rintro ⟨v3, v6, v7, v8, v9, v10, v11, v12, v13, v14, ⟨⟩⟩
  kernel_rfl
theorem in5_0 : loopsOf a5_0 = [] := by kernel_rfl
theorem first5_0 : firstRegion a5_0 = 18 := by kernel_rfl
theorem spec5_0 : SpecOK Try.prog 99 a5_0 ⟨sh5_0, ex5_0, loop5_0⟩ := by
  exact loop_ok E5_ok.callee progOK.mixed _ (loops_ok in5_0 trivial) round5_0
theorem round5_1 : ∀ x, roundK Try.prog E5 99 (keepOf Try.f5) lt5 a5_1 sh5_1 ex5_1 x = step5_1 x := by
  rintro ⟨v3, v6, v7, v8, v9, v10, v11, v12, ⟨⟩⟩
  kernel_rfl
theorem in5_1 : loopsOf a5_1 = [a5_0] := by kernel_rfl
theorem first5_1 : firstRegion a5_1 = 14 := by kernel_rfl
theorem spec5_1 : SpecOK Try.prog 99 a5_1 ⟨sh5_1, ex5_1, loop5_1⟩ := by
  exact loop_ok E5_ok.callee progOK.mixed _ (loops_ok in5_1 ⟨spec_of first5_0 rfl spec5_0, trivial⟩) round5_1
theorem round5_2 : ∀ x, roundK Try.prog E5 99 (keepOf Try.f5) lt5 a5_2 sh5_2 ex5_2 x = step5_2 x := by
  rintro ⟨v3, v6, v7, v8, v9, v10, ⟨⟩⟩
  kernel_rfl
theorem in5_2 : loopsOf a5_2 = [a5_1] := by kernel_rfl
theorem first5_2 : firstRegion a5_2 = 8 := by kernel_rfl
theorem spec5_2 : SpecOK Try.prog 99 a5_2 ⟨sh5_2, ex5_2, loop5_2⟩ := by
  exact loop_ok E5_ok.callee progOK.mixed _ (loops_ok in5_2 ⟨spec_of first5_1 rfl spec5_1, trivial⟩) round5_2
theorem loops5 : loopsOf c5 = [a5_2] := by kernel_rfl
theorem body5 : ∀ x, bodyK Try.prog E5 Try.f5 (keepOf Try.f5) lt5 c5 [.agg (.prod (.int .u8) (.list (.prod (.int .i8) (.prod (.int .i8) (.int .i8)))))] [.bool] x = f5 x := by
  rintro ⟨v0, ⟨⟩⟩
  kernel_rfl
theorem fn5 : FnOK Try.prog 5 [.agg (.prod (.int .u8) (.list (.prod (.int .i8) (.prod (.int .i8) (.int .i8)))))] [.bool] f5 := by
  exact fun_ok progOK E5_ok Try.func5 (c := c5) (by kernel_rfl) (keep := keepOf Try.f5) (lt := lt5) (loops_ok loops5 ⟨spec_of first5_2 rfl spec5_2, trivial⟩) body5
abbrev e5 : Ent := ⟨5, [.agg (.prod (.int .u8) (.list (.prod (.int .i8) (.prod (.int .i8) (.int .i8)))))], [.bool], f5⟩
theorem e5_ok : Ent.OK Try.prog e5 := fn5
end Go.PM
