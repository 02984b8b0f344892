/- Chapter 40: functions by open runs of the plain machine (printed by a program). -/
import Derived.Test.YthbfchehcgnkpaaCoP
import Derived.Test.YthbfchehcgnkpaaCoO
import Derived.Test.YthbfchehcgnkpaaCoF
import Derived.Test.YthbfchehcgnkpaaCoG
import Derived.Test.YthbfchehcgnkpaaCoI
import Derived.Test.YthbfchehcgnkpaaCoA
set_option linter.unusedSimpArgs false
set_option linter.unusedVariables false
namespace Go.PM
open Go Go.RowKit Go.Proofs
set_option maxRecDepth 100000
set_option maxHeartbeats 4000000

/-! schisma/schismalaw40.Make -/
abbrev sh16_0 : List (Nat × Kd) := [(1, .box 34 (.prod (.int .u8) (.list (.prod (.int .i8) (.prod (.int .i8) (.int .i8)))))), (5, .int .i64), (6, .own 48 (.list (.int .i64))), (7, .int .i64), (8, .own 3 (.int .i64)), (9, .int .i64)]
abbrev ex16_0 : List (Ex × List (Nat × Kd)) := [(.exit 2, [(1, .box 34 (.prod (.int .u8) (.list (.prod (.int .i8) (.prod (.int .i8) (.int .i8)))))), (5, .int .i64), (6, .own 48 (.list (.int .i64))), (7, .int .i64), (8, .own 3 (.int .i64))])]
def step16_0 (x : Shape.den sh16_0) : Option (Shape.den sh16_0 ⊕ exDen ex16_0) := match x with
  | (v1, v5, v6, v7, v8, v9, ()) =>
    bif ltI v9 v5 then
      bif idxOk v7 v1.2.length then bif eqI v9 0 then
        bif Nat.ble [((IntKind.wrap .i64 ((v1.2.getD v7.toNat (0, (0, 0))).1)).tmod 4)].length 1048576 then bif Nat.ble v8.length 1048576 then some (.inl ((v1.1, v1.2), v5, v6, v7, (v8 ++ [((IntKind.wrap .i64 ((v1.2.getD v7.toNat (0, (0, 0))).1)).tmod 4)]), (wrapF .i64 (v9 + 1)), ())) else none else none
      else bif eqI v9 1 then
        bif Nat.ble [((IntKind.wrap .i64 ((v1.2.getD v7.toNat (0, (0, 0))).2.1)).tmod 4)].length 1048576 then bif Nat.ble v8.length 1048576 then some (.inl ((v1.1, v1.2), v5, v6, v7, (v8 ++ [((IntKind.wrap .i64 ((v1.2.getD v7.toNat (0, (0, 0))).2.1)).tmod 4)]), (wrapF .i64 (v9 + 1)), ())) else none else none
      else bif eqI v9 2 then bif Nat.ble [((IntKind.wrap .i64 ((v1.2.getD v7.toNat (0, (0, 0))).2.2)).tmod 4)].length 1048576 then bif Nat.ble v8.length 1048576 then some (.inl ((v1.1, v1.2), v5, v6, v7, (v8 ++ [((IntKind.wrap .i64 ((v1.2.getD v7.toNat (0, (0, 0))).2.2)).tmod 4)]), (wrapF .i64 (v9 + 1)), ())) else none else none else none else none
    else some (.inr (((v1.1, v1.2), v5, v6, v7, v8, ())))
def loop16_0 (x : Shape.den sh16_0) : Option (exDen ex16_0) := loopN step16_0 (2 ^ 64) x
abbrev sh16_1 : List (Nat × Kd) := [(1, .box 34 (.prod (.int .u8) (.list (.prod (.int .i8) (.prod (.int .i8) (.int .i8)))))), (5, .int .i64), (6, .own 48 (.list (.int .i64))), (7, .int .i64)]
abbrev ex16_1 : List (Ex × List (Nat × Kd)) := [(.exit 0, [(5, .int .i64), (6, .own 48 (.list (.int .i64)))])]
def step16_1 (x : Shape.den sh16_1) : Option (Shape.den sh16_1 ⊕ exDen ex16_1) := match x with
  | (v1, v5, v6, v7, ()) =>
    bif ltI v7 (v1.2.length : Int) then
      askO (loop16_0 ((v1.1, v1.2), v5, v6, v7, [], 0, ())) fun z2 =>
      bif Nat.ble [z2.2.2.2.2.1].length 1048576 then bif Nat.ble z2.2.2.1.length 1048576 then some (.inl ((z2.1.1, z2.1.2), z2.2.1, (z2.2.2.1 ++ [z2.2.2.2.2.1]), (wrapF .i64 (z2.2.2.2.1 + 1)), ())) else none else none
    else some (.inr ((v5, v6, ())))
def loop16_1 (x : Shape.den sh16_1) : Option (exDen ex16_1) := loopN step16_1 (2 ^ 64) x
def f16 (x : denK [.agg (.prod (.int .u8) (.list (.prod (.int .i8) (.prod (.int .i8) (.int .i8)))))]) : Option (denK [.int .i64, .list (.list (.int .i64)), .bool]) := match x with
  | (v0, ()) =>
    bif ltI 6 (v0.2.length : Int) then
      some ((wrapF .i64 (1 + ((IntKind.wrap .i64 v0.1).tmod 3))), [], false, ())
    else askO (loop16_1 ((v0.1, v0.2), (wrapF .i64 (1 + ((IntKind.wrap .i64 v0.1).tmod 3))), [], 0, ())) fun z3 =>
    some (z3.1, z3.2.1, true, ())
noncomputable def c16 : Code := bodyOf Try.f16
abbrev E16 : Env := envOf []
theorem E16_ok : EnvOK Try.prog E16 := env_ok trivial
noncomputable def a16_1 : Code := loopAt c16 0
noncomputable def a16_0 : Code := loopAt a16_1 0
def lt16 (id : Nat) : Option LSpec := bif Nat.beq id 10 then some ⟨sh16_0, ex16_0, loop16_0⟩ else bif Nat.beq id 6 then some ⟨sh16_1, ex16_1, loop16_1⟩ else none
theorem round16_0 : ∀ x, roundK Try.prog E16 50 (keepOf Try.f16) lt16 a16_0 sh16_0 ex16_0 x = step16_0 x := by
  rintro ⟨v1, v5, v6, v7, v8, v9, ⟨⟩⟩
  kernel_rfl
theorem in16_0 : loopsOf a16_0 = [] := by kernel_rfl
theorem first16_0 : firstRegion a16_0 = 10 := by kernel_rfl
theorem spec16_0 : SpecOK Try.prog 50 a16_0 ⟨sh16_0, ex16_0, loop16_0⟩ := by
  exact loop_ok E16_ok.callee progOK.mixed _ (loops_ok in16_0 trivial) round16_0
theorem round16_1 : ∀ x, roundK Try.prog E16 50 (keepOf Try.f16) lt16 a16_1 sh16_1 ex16_1 x = step16_1 x := by
  rintro ⟨v1, v5, v6, v7, ⟨⟩⟩
  kernel_rfl
theorem in16_1 : loopsOf a16_1 = [a16_0] := by kernel_rfl
theorem first16_1 : firstRegion a16_1 = 6 := by kernel_rfl
theorem spec16_1 : SpecOK Try.prog 50 a16_1 ⟨sh16_1, ex16_1, loop16_1⟩ := by
  exact loop_ok E16_ok.callee progOK.mixed _ (loops_ok in16_1 ⟨spec_of first16_0 rfl spec16_0, trivial⟩) round16_1
theorem loops16 : loopsOf c16 = [a16_1] := by kernel_rfl
theorem body16 : ∀ x, bodyK Try.prog E16 Try.f16 (keepOf Try.f16) lt16 c16 [.agg (.prod (.int .u8) (.list (.prod (.int .i8) (.prod (.int .i8) (.int .i8)))))] [.int .i64, .list (.list (.int .i64)), .bool] x = f16 x := by
  rintro ⟨v0, ⟨⟩⟩
  kernel_rfl
theorem fn16 : FnOK Try.prog 16 [.agg (.prod (.int .u8) (.list (.prod (.int .i8) (.prod (.int .i8) (.int .i8)))))] [.int .i64, .list (.list (.int .i64)), .bool] f16 := by
  exact fun_ok progOK E16_ok Try.func16 (c := c16) (by kernel_rfl) (keep := keepOf Try.f16) (lt := lt16) (loops_ok loops16 ⟨spec_of first16_1 rfl spec16_1, trivial⟩) body16
abbrev e16 : Ent := ⟨16, [.agg (.prod (.int .u8) (.list (.prod (.int .i8) (.prod (.int .i8) (.int .i8)))))], [.int .i64, .list (.list (.int .i64)), .bool], f16⟩
theorem e16_ok : Ent.OK Try.prog e16 := fn16

/-! schisma/schismalaw40.ConsonanceLists -/
def f4 (x : denK [.agg (.prod (.int .u8) (.list (.prod (.int .i8) (.prod (.int .i8) (.int .i8))))), .int .i8]) : Option (denK [.bool]) := match x with
  | (v0, v1, ()) =>
    askO (f16 ((v0.1, v0.2), ())) fun y1 =>
    askO (f10 (())) fun y2 =>
    bif y2.1 then
      bif y1.2.2.1 then
        bif ltI v1 (-1) then
          askO (f10 (())) fun y3 =>
          some (y3.1, ())
        else bif ltI 7 v1 then
          askO (f10 (())) fun y4 =>
          some (y4.1, ())
        else askO (f17 (y1.1, y1.2.1, (IntKind.wrap .i64 v1), ())) fun y5 =>
        bif ltI v1 1 then
          bif eqI (y5.1.length : Int) 0 then
            some (eqI y5.2.1 3, ())
          else some (false, ())
        else bif ltI 6 v1 then
          bif eqI (y5.1.length : Int) 0 then
            some (eqI y5.2.1 3, ())
          else some (false, ())
        else askO (f15 (y1.2.1, ())) fun y6 =>
        askO (f19 (y1.1, y6.1, (IntKind.wrap .i64 v1), ())) fun y7 =>
        askO (f18 (y5.1, y7.1, ())) fun y8 =>
        bif y8.1 then
          some (eqI y5.2.1 0, ())
        else some (false, ())
      else askO (f10 (())) fun y9 =>
      some (y9.1, ())
    else askO (f10 (())) fun y10 =>
    some (y10.1, ())
noncomputable def c4 : Code := bodyOf Try.f4
abbrev E4 : Env := envOf [e10, e15, e16, e17, e18, e19]
theorem E4_ok : EnvOK Try.prog E4 := env_ok ⟨e10_ok, e15_ok, e16_ok, e17_ok, e18_ok, e19_ok, trivial⟩
def lt4 (id : Nat) : Option LSpec := none
theorem loops4 : loopsOf c4 = [] := by kernel_rfl
theorem body4 : ∀ x, bodyK Try.prog E4 Try.f4 (keepOf Try.f4) lt4 c4 [.agg (.prod (.int .u8) (.list (.prod (.int .i8) (.prod (.int .i8) (.int .i8))))), .int .i8] [.bool] x = f4 x := by
  rintro ⟨v0, v1, ⟨⟩⟩
  kernel_rfl
theorem fn4 : FnOK Try.prog 4 [.agg (.prod (.int .u8) (.list (.prod (.int .i8) (.prod (.int .i8) (.int .i8))))), .int .i8] [.bool] f4 := by
  exact fun_ok progOK E4_ok Try.func4 (c := c4) (by kernel_rfl) (keep := keepOf Try.f4) (lt := lt4) (loops_ok loops4 trivial) body4
abbrev e4 : Ent := ⟨4, [.agg (.prod (.int .u8) (.list (.prod (.int .i8) (.prod (.int .i8) (.int .i8))))), .int .i8], [.bool], f4⟩
theorem e4_ok : Ent.OK Try.prog e4 := fn4

/-! schisma/schismalaw40.ConsonanceMaximal -/
abbrev sh5_0 : List (Nat × Kd) := [(3, .int .i64), (6, .list (.list (.int .i64))), (7, .list (.list (.list (.int .i64)))), (8, .int .i64), (9, .own 46 (.list (.list (.int .i64)))), (10, .int .i64), (11, .list (.list (.list (.int .i64)))), (12, .int .i64), (13, .bool), (14, .int .i64)]
abbrev ex5_0 : List (Ex × List (Nat × Kd)) := [(.exit 4, [(3, .int .i64), (6, .list (.list (.int .i64))), (7, .list (.list (.list (.int .i64)))), (8, .int .i64), (9, .own 46 (.list (.list (.int .i64)))), (10, .int .i64), (11, .list (.list (.list (.int .i64)))), (12, .int .i64), (13, .bool)])]
def step5_0 (x : Shape.den sh5_0) : Option (Shape.den sh5_0 ⊕ exDen ex5_0) := match x with
  | (v3, v6, v7, v8, v9, v10, v11, v12, v13, v14, ()) =>
    bif ltI v14 (v6.length : Int) then
      bif v13 then
        some (.inl (v3, v6, v7, v8, v9, v10, v11, v12, true, (wrapF .i64 (v14 + 1)), ()))
      else bif idxOk v12 v11.length then bif idxOk v14 v6.length then askO (f21 (v6, (v11.getD v12.toNat []), (v6.getD v14.toNat []), ())) fun y7 =>
      some (.inl (v3, v6, v7, v8, v9, v10, v11, v12, y7.1, (wrapF .i64 (v14 + 1)), ())) else none else none
    else some (.inr ((v3, v6, v7, v8, v9, v10, v11, v12, v13, ())))
def loop5_0 (x : Shape.den sh5_0) : Option (exDen ex5_0) := loopN step5_0 (2 ^ 64) x
abbrev sh5_1 : List (Nat × Kd) := [(3, .int .i64), (6, .list (.list (.int .i64))), (7, .list (.list (.list (.int .i64)))), (8, .int .i64), (9, .own 46 (.list (.list (.int .i64)))), (10, .int .i64), (11, .list (.list (.list (.int .i64)))), (12, .int .i64)]
abbrev ex5_1 : List (Ex × List (Nat × Kd)) := [(.exit 2, [(3, .int .i64), (6, .list (.list (.int .i64))), (7, .list (.list (.list (.int .i64)))), (8, .int .i64), (9, .own 46 (.list (.list (.int .i64)))), (10, .int .i64)])]
def step5_1 (x : Shape.den sh5_1) : Option (Shape.den sh5_1 ⊕ exDen ex5_1) := match x with
  | (v3, v6, v7, v8, v9, v10, v11, v12, ()) =>
    bif ltI v12 (v11.length : Int) then
      askO (loop5_0 (v3, v6, v7, v8, v9, v10, v11, v12, false, 0, ())) fun z9 =>
      bif z9.2.2.2.2.2.2.2.2.1 then
        some (.inl (z9.1, z9.2.1, z9.2.2.1, z9.2.2.2.1, z9.2.2.2.2.1, z9.2.2.2.2.2.1, z9.2.2.2.2.2.2.1, (wrapF .i64 (z9.2.2.2.2.2.2.2.1 + 1)), ()))
      else bif idxOk z9.2.2.2.2.2.2.2.1 z9.2.2.2.2.2.2.1.length then bif Nat.ble [(z9.2.2.2.2.2.2.1.getD z9.2.2.2.2.2.2.2.1.toNat [])].length 1048576 then bif Nat.ble z9.2.2.2.2.1.length 1048576 then some (.inl (z9.1, z9.2.1, z9.2.2.1, z9.2.2.2.1, (z9.2.2.2.2.1 ++ [(z9.2.2.2.2.2.2.1.getD z9.2.2.2.2.2.2.2.1.toNat [])]), z9.2.2.2.2.2.1, z9.2.2.2.2.2.2.1, (wrapF .i64 (z9.2.2.2.2.2.2.2.1 + 1)), ())) else none else none else none
    else some (.inr ((v3, v6, v7, v8, v9, v10, ())))
def loop5_1 (x : Shape.den sh5_1) : Option (exDen ex5_1) := loopN step5_1 (2 ^ 64) x
abbrev sh5_2 : List (Nat × Kd) := [(3, .int .i64), (6, .list (.list (.int .i64))), (7, .list (.list (.list (.int .i64)))), (8, .int .i64), (9, .own 46 (.list (.list (.int .i64)))), (10, .int .i64)]
abbrev ex5_2 : List (Ex × List (Nat × Kd)) := [(.ret, [(2, .bool)]), (.exit 0, [(7, .list (.list (.list (.int .i64)))), (8, .int .i64), (9, .own 46 (.list (.list (.int .i64))))])]
def step5_2 (x : Shape.den sh5_2) : Option (Shape.den sh5_2 ⊕ exDen ex5_2) := match x with
  | (v3, v6, v7, v8, v9, v10, ()) =>
    bif !(ltI 7 v10) then
      askO (f19 (v3, v6, v10, ())) fun y12 =>
      bif eqI v10 7 then
        bif ltI 0 (y12.1.length : Int) then
          bif eqI (v7.length : Int) 0 then
            some (.inr (.inl (eqI v8 4, ())))
          else some (.inr (.inl (false, ())))
        else askO (loop5_1 (v3, v6, v7, v8, v9, v10, y12.1, 0, ())) fun z13 =>
        some (.inl (z13.1, z13.2.1, z13.2.2.1, z13.2.2.2.1, z13.2.2.2.2.1, (wrapF .i64 (z13.2.2.2.2.2.1 + 1)), ()))
      else askO (loop5_1 (v3, v6, v7, v8, v9, v10, y12.1, 0, ())) fun z14 =>
      some (.inl (z14.1, z14.2.1, z14.2.2.1, z14.2.2.2.1, z14.2.2.2.2.1, (wrapF .i64 (z14.2.2.2.2.2.1 + 1)), ()))
    else some (.inr (.inr ((v7, v8, v9, ()))))
def loop5_2 (x : Shape.den sh5_2) : Option (exDen ex5_2) := loopN step5_2 (2 ^ 64) x
def f5 (x : denK [.agg (.prod (.int .u8) (.list (.prod (.int .i8) (.prod (.int .i8) (.int .i8)))))]) : Option (denK [.bool]) := match x with
  | (v0, ()) =>
    askO (f16 ((v0.1, v0.2), ())) fun y1 =>
    askO (f10 (())) fun y2 =>
    bif y2.1 then
      bif y1.2.2.1 then
        askO (f15 (y1.2.1, ())) fun y3 =>
        askO (f20 (y1.1, y1.2.1, ())) fun y4 =>
        askO (loop5_2 (y1.1, y3.1, y4.1, y4.2.1, [], 1, ())) fun z15 =>
        onSum z15 (fun a16 => some (a16.1, ())) fun b17 =>
        askO (f18 (b17.1, b17.2.2.1, ())) fun y18 =>
        bif y18.1 then
          some (eqI b17.2.1 0, ())
        else some (false, ())
      else askO (f10 (())) fun y19 =>
      some (y19.1, ())
    else askO (f10 (())) fun y20 =>
    some (y20.1, ())
noncomputable def c5 : Code := bodyOf Try.f5
abbrev E5 : Env := envOf [e10, e15, e16, e18, e19, e20, e21]
theorem E5_ok : EnvOK Try.prog E5 := env_ok ⟨e10_ok, e15_ok, e16_ok, e18_ok, e19_ok, e20_ok, e21_ok, trivial⟩
noncomputable def a5_2 : Code := loopAt c5 0
noncomputable def a5_1 : Code := loopAt a5_2 0
noncomputable def a5_0 : Code := loopAt a5_1 0
def lt5 (id : Nat) : Option LSpec := bif Nat.beq id 18 then some ⟨sh5_0, ex5_0, loop5_0⟩ else bif Nat.beq id 14 then some ⟨sh5_1, ex5_1, loop5_1⟩ else bif Nat.beq id 8 then some ⟨sh5_2, ex5_2, loop5_2⟩ else none
theorem round5_0 : ∀ x, roundK Try.prog E5 99 (keepOf Try.f5) lt5 a5_0 sh5_0 ex5_0 x = step5_0 x := by
  rintro ⟨v3, v6, v7, v8, v9, v10, v11, v12, v13, v14, ⟨⟩⟩
  kernel_rfl
theorem in5_0 : loopsOf a5_0 = [] := by kernel_rfl
theorem first5_0 : firstRegion a5_0 = 18 := by kernel_rfl
theorem spec5_0 : SpecOK Try.prog 99 a5_0 ⟨sh5_0, ex5_0, loop5_0⟩ := by
  exact loop_ok E5_ok.callee progOK.mixed _ (loops_ok in5_0 trivial) round5_0
theorem round5_1 : ∀ x, roundK Try.prog E5 99 (keepOf Try.f5) lt5 a5_1 sh5_1 ex5_1 x = step5_1 x := by
  rintro ⟨v3, v6, v7, v8, v9, v10, v11, v12, ⟨⟩⟩
  kernel_rfl
theorem in5_1 : loopsOf a5_1 = [a5_0] := by kernel_rfl
theorem first5_1 : firstRegion a5_1 = 14 := by kernel_rfl
theorem spec5_1 : SpecOK Try.prog 99 a5_1 ⟨sh5_1, ex5_1, loop5_1⟩ := by
  exact loop_ok E5_ok.callee progOK.mixed _ (loops_ok in5_1 ⟨spec_of first5_0 rfl spec5_0, trivial⟩) round5_1
theorem round5_2 : ∀ x, roundK Try.prog E5 99 (keepOf Try.f5) lt5 a5_2 sh5_2 ex5_2 x = step5_2 x := by
  rintro ⟨v3, v6, v7, v8, v9, v10, ⟨⟩⟩
  kernel_rfl
theorem in5_2 : loopsOf a5_2 = [a5_1] := by kernel_rfl
theorem first5_2 : firstRegion a5_2 = 8 := by kernel_rfl
theorem spec5_2 : SpecOK Try.prog 99 a5_2 ⟨sh5_2, ex5_2, loop5_2⟩ := by
  exact loop_ok E5_ok.callee progOK.mixed _ (loops_ok in5_2 ⟨spec_of first5_1 rfl spec5_1, trivial⟩) round5_2
theorem loops5 : loopsOf c5 = [a5_2] := by kernel_rfl
theorem body5 : ∀ x, bodyK Try.prog E5 Try.f5 (keepOf Try.f5) lt5 c5 [.agg (.prod (.int .u8) (.list (.prod (.int .i8) (.prod (.int .i8) (.int .i8)))))] [.bool] x = f5 x := by
  rintro ⟨v0, ⟨⟩⟩
  kernel_rfl
theorem fn5 : FnOK Try.prog 5 [.agg (.prod (.int .u8) (.list (.prod (.int .i8) (.prod (.int .i8) (.int .i8)))))] [.bool] f5 := by
  exact fun_ok progOK E5_ok Try.func5 (c := c5) (by kernel_rfl) (keep := keepOf Try.f5) (lt := lt5) (loops_ok loops5 ⟨spec_of first5_2 rfl spec5_2, trivial⟩) body5
abbrev e5 : Ent := ⟨5, [.agg (.prod (.int .u8) (.list (.prod (.int .i8) (.prod (.int .i8) (.int .i8)))))], [.bool], f5⟩
theorem e5_ok : Ent.OK Try.prog e5 := fn5
end Go.PM

/- Chapter 40, plain law: copied, List, the law's list. -/
set_option linter.unusedSimpArgs false
set_option linter.unusedVariables false
namespace Go.PM
open Go Go.RowKit Go.Proofs
set_option maxRecDepth 100000

/-- A list filled from the left with another's elements. -/
def fillR (c : List (List Int)) (i : Nat) : List (List Int) := c.take i ++ List.replicate (c.length - i) []
theorem fillR_length (c : List (List Int)) {i : Nat} (h : i ≤ c.length) : (fillR c i).length = c.length := by
  simp only [fillR, List.length_append, List.length_take, List.length_replicate]; omega
theorem fillR_set (c : List (List Int)) {i : Nat} (h : i < c.length) : (fillR c i).set i (c.getD i []) = fillR c (i + 1) := by
  have hl : (c.take i).length = i := by rw [List.length_take]; omega
  unfold fillR
  rw [List.set_append_right _ _ (by omega), hl, Nat.sub_self]
  obtain ⟨k, hk⟩ : ∃ k, c.length - i = k + 1 := ⟨c.length - i - 1, by omega⟩
  rw [hk, List.replicate_succ, List.set_cons_zero, show c.length - (i + 1) = k by omega, List.take_add_one, List.getElem?_eq_getElem h, show c.getD i [] = c[i] by rw [List.getD_eq_getElem?_getD, List.getElem?_eq_getElem h]; rfl, List.append_assoc]; rfl
theorem f42_eq {c : List (List Int)} (h1 : c.length ≤ 1000) (h2 : ∀ y ∈ c, 0 < y.length ∧ y.length ≤ 1000) : f42 (c, ()) = some (c, ()) := by
  have hloop : loop42_0 (List.replicate c.length [], c, (c.length : Int), 0, ()) = some (c, ()) := by
    have h0 : List.replicate c.length [] = fillR c 0 := by simp [fillR]
    rw [h0]
    refine loopN_all (N := 2 ^ 64) (step := step42_0) (fun i => (fillR c i, c, (c.length : Int), (i : Int), ())) c.length (c, ()) (by omega) ?_ ?_
    · intro i hi
      have hr := h2 _ (getDL_mem hi)
      simp only [step42_0, ltI_eq, idxOk_eq, nblt_eq, cond_dec, Int.toNat_natCast, fillR_length c (Nat.le_of_lt hi)]
      rw [if_pos (by omega), if_pos (by omega), f33_eq hr.1 (by omega), askO_s, if_pos (by omega), if_pos (by omega), wrap64s i (by omega), fillR_set c hi]
    · simp only [step42_0, ltI_eq, cond_dec]
      rw [if_neg (by omega)]
      simp [fillR]
  unfold f42; dsimp only
  simp only [ltI_eq, not_dec, cond_dec, Int.toNat_natCast]
  rw [if_pos (by omega), if_pos (by omega), if_pos (by omega), hloop, askO_s]
/-- Chords of rows with so many elements. -/
def Chs (n m : Nat) (L : List (List (List Int))) : Prop := ∀ c ∈ L, c.length = m ∧ ∀ y ∈ c, y.length = n
theorem chs_nxt {cl c : List (List Int)} {n m : Nat} (hcl : ∀ y ∈ cl, y.length = n) (hc : c.length = m ∧ ∀ y ∈ c, y.length = n) : Chs n (m + 1) (nxt cl c) := by
  intro d hd
  obtain ⟨x, hx, hd⟩ := List.mem_flatMap.1 hd
  split at hd
  · rw [List.mem_singleton.1 hd]
    refine ⟨by rw [List.length_append, hc.1]; rfl, fun y hy => ?_⟩
    rcases List.mem_append.1 hy with hy | hy
    · exact hc.2 y hy
    · rw [List.mem_singleton.1 hy]; exact hcl x hx
  · cases hd
theorem chs_step {cl : List (List Int)} {n m : Nat} {L : List (List (List Int))} (hcl : ∀ y ∈ cl, y.length = n) (hL : Chs n m L) : Chs n (m + 1) (stepL cl L) := by
  intro d hd
  obtain ⟨c, hc, hd⟩ := List.mem_flatMap.1 hd
  exact chs_nxt hcl (hL c hc) d hd
theorem chs_iter {cl : List (List Int)} {n : Nat} (hcl : ∀ y ∈ cl, y.length = n) : ∀ (r m : Nat) {L : List (List (List Int))}, Chs n m L → Chs n (m + r) (iterL cl r L)
  | 0, m, L, h => h
  | r + 1, m, L, h => by
    have := chs_iter hcl r (m + 1) (chs_step hcl h)
    rw [show m + (r + 1) = m + 1 + r by omega]
    exact this
/-- The first chord. -/
def c0 (n : Nat) : List (List (List Int)) := [[List.replicate n 0]]
theorem chs_c0 (n : Nat) : Chs n 1 (c0 n) := by
  intro c hc
  rw [List.mem_singleton.1 hc]
  refine ⟨rfl, fun y hy => ?_⟩
  rw [List.mem_singleton.1 hy, List.length_replicate]
theorem fin17 (v6 : List (List (List Int))) (v7 : Int) (v10 : List (List (List Int))) (v30 : denT [(.int .i64), (.list (.list (.int .i64))), (.int .i64)]) : finG sh17_0 ex17_0 (v6, v7, v10, v30, ()) = some (.inl (v6, v7, v10, ())) := by kernel_rfl
theorem range17 (v30 : denT [(.int .i64), (.list (.list (.int .i64))), (.int .i64)]) : ∀ (L out : List (List (List Int))), out.length + L.length ≤ 5000 → (∀ c ∈ L, c.length ≤ 1000 ∧ ∀ y ∈ c, 0 < y.length ∧ y.length ≤ 1000) →
    rangeN step17_0 (finG sh17_0 ex17_0) (chE L) ([], 0, out, v30, ()) = some (.inl ([], 0, out ++ L, ()))
  | [], out, _, _ => by
    show finG sh17_0 ex17_0 ([], 0, out, v30, ()) = _
    rw [fin17, List.append_nil]
  | c :: L, out, hl, hL => by
    simp only [List.length_cons] at hl
    have hc := hL c (by simp)
    have hst : step17_0 ([], 0, out, v30, ()) (c, ()) = some (.inl ([], 0, out ++ [c], v30, ())) := by
      simp only [step17_0, eqI_eq, nble_eq, cond_dec]
      rw [if_neg (by omega), f42_eq hc.1 hc.2, askO_s]
      simp only [List.length_cons, List.length_nil]
      rw [if_pos (by omega), if_pos (by omega)]
    rw [show chE (c :: L) = (c, ()) :: chE L from rfl]
    unfold rangeN
    rw [hst]
    have := range17 v30 L (out ++ [c]) (by rw [List.length_append, List.length_cons, List.length_nil]; omega) (fun d hd => hL d (by simp [hd]))
    rw [List.append_assoc] at this
    exact this
/-- Rows that make a closure. -/
structure Cl (n : Nat) (cl : List (List Int)) : Prop where
  few : cl.length ≤ 60
  pos : gtN cl (List.replicate n 0) ≤ 12
  si : SI cl
  low : 0 < n
  high : n ≤ 12
  len : ∀ y ∈ cl, y.length = n
theorem Cl.count {n : Nat} {cl : List (List Int)} (h : Cl n cl) (r : Nat) : (iterL cl r (c0 n)).length ≤ 4096 := by
  have h1 := iterL_length h.si r [List.replicate n 0]
  have h3 : 2 ^ gtN cl (([List.replicate n (0 : Int)]).getD (([List.replicate n (0 : Int)]).length - 1) []) ≤ 2 ^ 12 := Nat.pow_le_pow_right (by omega) h.pos
  exact Nat.le_trans h1 h3
theorem f17_eq {n k : Nat} {l : List (List Int)} (h1 : l.length ≤ 1000) (h2 : Rws 1000 l) (hD : errD (n : Int) l = 0) (hc : Cl n (closC [] l)) (hk : 1 ≤ k ∧ k ≤ 6) : f17 ((n : Int), l, (k : Int), ()) = some (iterL (closC [] l) (k - 1) (c0 n), 0, ()) := by
  have hlow := hc.low
  have hhigh := hc.high
  have hfew := hc.few
  have hg : fEach ((k : Int), closC [] l, (n : Int), ()) = some (chE (iterL (closC [] l) (k - 1) (c0 n))) := by
    unfold fEach
    dsimp only
    have hgr := grow_eq (cl := closC [] l) (n := n) (by omega) hc.si (by omega) hc.len (k - 1) [List.replicate n 0] ((chs_c0 n _ (by simp [c0])).2) (by simp; omega) (by simp)
    rw [Int.toNat_natCast, Int.toNat_natCast, hgr]
    simp only [ltI_eq, nble_eq]
    rw [decide_eq_true (show 0 < (k : Int) by omega), decide_eq_false (show ¬ 1048576 < (k : Int) by omega), decide_eq_false (show ¬ (n : Int) < 0 by omega), decide_eq_false (show ¬ 1048576 < (n : Int) by omega), decide_eq_true (show (closC [] l).length ≤ 1048576 by omega)]
    rfl
  have hch := chs_iter hc.len (k - 1) 1 (chs_c0 n)
  have hcnt := hc.count (k - 1)
  have hloop : loop17_0 ([], 0, [], ((k : Int), closC [] l, (n : Int), ()), ()) = some (.inl ([], 0, iterL (closC [] l) (k - 1) (c0 n), ())) := by
    have hr := range17 ((k : Int), closC [] l, (n : Int), ()) (iterL (closC [] l) (k - 1) (c0 n)) [] (by simp only [List.length_nil]; omega) (fun c hcm => by
      obtain ⟨a, b⟩ := hch c hcm
      exact ⟨by omega, fun y hy => by have := b y hy; omega⟩)
    rw [List.nil_append] at hr
    unfold loop17_0 runG
    have hg' : (fun x => fEach (cap17_0 x)) ([], 0, [], ((k : Int), closC [] l, (n : Int), ()), ()) = some (chE (iterL (closC [] l) (k - 1) (c0 n))) := hg
    rw [hg']
    exact hr
  unfold f17; dsimp only
  rw [f12_errD h1 h2, if_pos hD, askO_s]
  simp only [eqI_eq, ltI_eq, not_dec, cond_dec]
  rw [if_neg (by simp), if_neg (by omega), if_neg (by omega)]
  unfold f41; dsimp only
  rw [askO_s]
  dsimp only
  rw [hloop, askO_s]; rfl
theorem f17_range {n : Int} {k : Int} {l : List (List Int)} (h1 : l.length ≤ 1000) (h2 : Rws 1000 l) (hD : errD n l = 0) (hk : k < 1 ∨ 6 < k) : f17 (n, l, k, ()) = some ([], 3, ()) := by
  unfold f17; dsimp only
  rw [f12_errD h1 h2, if_pos hD, askO_s]
  simp only [eqI_eq, ltI_eq, not_dec, cond_dec]
  rw [if_neg (by simp)]
  by_cases h : k < 1
  · rw [if_pos h]
  · rw [if_neg h, if_pos (by omega)]
end Go.PM

/- Chapter 40, plain law: the law's list; same; Make; ConsonanceLists' function answers true. -/
set_option linter.unusedSimpArgs false
set_option linter.unusedVariables false
namespace Go.PM
open Go Go.RowKit Go.Proofs
set_option maxRecDepth 100000

theorem flatMap_take {α β : Type} (f : α → List β) {l : List α} {i : Nat} (h : i < l.length) : (l.take (i + 1)).flatMap f = (l.take i).flatMap f ++ f l[i] := by
  rw [List.take_add_one, List.flatMap_append, List.getElem?_eq_getElem h]; simp
theorem flatMap_take_le {α β : Type} (f : α → List β) (l : List α) (i : Nat) : ((l.take i).flatMap f).length ≤ (l.flatMap f).length := by
  have : l.flatMap f = (l.take i).flatMap f ++ (l.drop i).flatMap f := by rw [← List.flatMap_append, List.take_append_drop]
  rw [this, List.length_append]; omega
def nx (cl c : List (List Int)) (x : List Int) : List (List (List Int)) := if 0 < cmpL x (c.getD (c.length - 1) []) ∧ fitB cl c x = true then [c ++ [x]] else []
section
variable {cl : List (List Int)} {n : Nat}
theorem loop19_0_eq (hc : Cl n cl) {out next : List (List (List Int))} {v2 : Int} {m i : Nat} (hm : 1 ≤ m ∧ m ≤ 100) (hi : i < out.length) (hout : out.length ≤ 5000) (hch : Chs n m out) (hnext : next.length + (nxt cl (out.getD i [])).length ≤ 5000) :
    loop19_0 (cl, v2, out, (m : Int), next, (i : Int), 0, ()) = some (cl, v2, out, (m : Int), next ++ nxt cl (out.getD i []), (i : Int), ()) := by
  have hlow := hc.low
  have hhigh := hc.high
  have hfew := hc.few
  have hcm : out.getD i [] ∈ out := by
    rw [List.getD_eq_getElem?_getD, List.getElem?_eq_getElem hi]; exact List.getElem_mem hi
  obtain ⟨hcl1, hcl2⟩ := hch _ hcm
  generalize hcd : out.getD i [] = c at *
  have hlast := hcl2 _ (getDL_mem (l := c) (i := m - 1) (by omega))
  suffices h0 : loop19_0 (cl, v2, out, (m : Int), next ++ (cl.take 0).flatMap (nx cl c), (i : Int), 0, ()) = some (cl, v2, out, (m : Int), next ++ nxt cl c, (i : Int), ()) by
    rwa [List.take_zero, List.flatMap_nil, List.append_nil] at h0
  refine loopN_all (N := 2 ^ 64) (step := step19_0) (fun k => (cl, v2, out, (m : Int), next ++ (cl.take k).flatMap (nx cl c), (i : Int), (k : Int), ())) cl.length (cl, v2, out, (m : Int), next ++ nxt cl c, (i : Int), ()) (by omega) ?_ ?_
  · intro k hk
    have hx := hc.len _ (getDL_mem hk)
    have hkg : cl.getD k [] = cl[k] := by rw [List.getD_eq_getElem?_getD, List.getElem?_eq_getElem hk]; rfl
    have hle := flatMap_take_le (nx cl c) cl k
    have hle' : ((cl.take k).flatMap (nx cl c)).length ≤ (nxt cl c).length := hle
    have w1 : wrapF .i64 ((m : Int) - 1) = ((m - 1 : Nat) : Int) := by rw [wrap64 (by omega) (by omega)]; omega
    rw [flatMap_take _ hk, ← List.append_assoc, ← hkg]
    simp only [step19_0, ltI_eq, idxOk_eq, nble_eq, cond_dec, Int.toNat_natCast, w1, hcd]
    rw [if_pos (by omega), if_pos (by omega), if_pos (by omega), if_pos (by omega), f36_eq _ _ (by omega) (by omega), askO_s, wrap64s k (by omega)]
    dsimp only
    have hnx : nx cl c (cl.getD k []) = if 0 < cmpL (cl.getD k []) (c.getD (m - 1) []) ∧ fitB cl c (cl.getD k []) = true then [c ++ [cl.getD k []]] else [] := by
      unfold nx
      rw [show c.length - 1 = m - 1 by omega]
    generalize List.flatMap (nx cl c) (List.take k cl) = acc at *
    by_cases h : 0 < cmpL (cl.getD k []) (c.getD (m - 1) [])
    · rw [if_pos h, if_pos (by omega), if_pos (by omega), f21_eq (by omega) (fun y hy => by rw [hc.len y hy]; omega) (by omega) (by omega) (fun y hy => by rw [hcl2 y hy]; omega), askO_s]
      cases hf : fitB cl c (cl.getD k []) with
      | false =>
        have hv : nx cl c (cl.getD k []) = [] := by rw [hnx, if_neg (fun h => by rw [hf] at h; cases h.2)]
        rw [hv, List.append_nil]
        dsimp only
        rw [cond_false]
      | true =>
        have hv : nx cl c (cl.getD k []) = [c ++ [cl.getD k []]] := by rw [hnx, if_pos ⟨h, hf⟩]
        rw [hv]
        simp only [cond_true, List.length_cons, List.length_nil, List.length_append]
        rw [if_pos (by omega), if_pos (by omega), if_pos (by omega), if_pos (by omega), if_pos (by omega), if_pos (by omega), if_pos (by omega)]
    · have hv : nx cl c (cl.getD k []) = [] := by rw [hnx, if_neg (fun h2 => h h2.1)]
      rw [if_neg h, hv, List.append_nil]
  · simp only [step19_0, ltI_eq, cond_dec]
    rw [if_neg (by omega), List.take_length]; rfl
theorem loop19_1_eq (hc : Cl n cl) {out : List (List (List Int))} {v2 : Int} {m : Nat} (hm : 1 ≤ m ∧ m ≤ 100) (hout : out.length ≤ 5000) (hch : Chs n m out) (hst : (stepL cl out).length ≤ 5000) :
    loop19_1 (cl, v2, out, (m : Int), [], 0, ()) = some (cl, v2, (m : Int), stepL cl out, ()) := by
  refine loopN_all (N := 2 ^ 64) (step := step19_1) (fun i => (cl, v2, out, (m : Int), (out.take i).flatMap (nxt cl), (i : Int), ())) out.length (cl, v2, (m : Int), stepL cl out, ()) (by omega) ?_ ?_
  · intro i hi
    have hig : out.getD i [] = out[i] := by rw [List.getD_eq_getElem?_getD, List.getElem?_eq_getElem hi]; rfl
    have hle := flatMap_take_le (nxt cl) out (i + 1)
    have hle' : ((out.take (i + 1)).flatMap (nxt cl)).length ≤ (stepL cl out).length := hle
    rw [flatMap_take _ hi] at hle' ⊢
    rw [List.length_append] at hle'
    simp only [step19_1, ltI_eq, cond_dec]
    rw [if_pos (by omega), loop19_0_eq hc hm hi hout hch (by rw [hig]; omega), askO_s]
    dsimp only
    rw [wrap64s i (by omega), hig]
  · simp only [step19_1, ltI_eq, cond_dec]
    rw [if_neg (by omega), List.take_length]; rfl
theorem f19_eq (hc : Cl n cl) {k : Nat} (hk : 1 ≤ k ∧ k ≤ 20) : f19 ((n : Int), cl, (k : Int), ()) = some (iterL cl (k - 1) (c0 n), ()) := by
  have hlow := hc.low
  have hhigh := hc.high
  have hloop : loop19_2 (cl, (k : Int), c0 n, 1, ()) = some (iterL cl (k - 1) (c0 n), ()) := by
    refine loopN_all (N := 2 ^ 64) (step := step19_2) (fun i => (cl, (k : Int), iterL cl i (c0 n), ((i + 1 : Nat) : Int), ())) (k - 1) (iterL cl (k - 1) (c0 n), ()) (by omega) ?_ ?_
    · intro i hi
      have hch := chs_iter hc.len i 1 (chs_c0 n)
      have hcnt := hc.count i
      have hcnt2 := hc.count (i + 1)
      rw [iterL_succ] at hcnt2 ⊢
      simp only [step19_2, ltI_eq, cond_dec]
      rw [if_pos (by omega), loop19_1_eq hc (m := i + 1) (by omega) (by omega) (by rwa [Nat.add_comm] at hch) (by omega), askO_s]
      dsimp only
      rw [wrap64s (i + 1) (by omega)]
    · simp only [step19_2, ltI_eq, cond_dec]
      rw [if_neg (by omega)]
  unfold f19; dsimp only
  simp only [ltI_eq, not_dec, cond_dec, Int.toNat_natCast]
  rw [if_pos (by omega), if_pos (by omega), if_pos (by omega)]
  change (askO (loop19_2 (cl, (k : Int), c0 n, 1, ())) _) = _
  rw [hloop, askO_s]
end
/-- same: a list of chords equals itself. -/
theorem f18_eq (a b : List (List (List Int))) (ha : a.length ≤ 100000) (hs : ∀ c ∈ a, c.length ≤ 100000 ∧ Rws 100000 c) : f18 (a, b, ()) = some (decide (a = b), ()) := by
  unfold f18; dsimp only
  simp only [eqI_eq, not_dec, cond_dec]
  by_cases hl : a.length = b.length
  · rw [if_neg (by omega)]
    have hloop : loop18_0 (a, b, 0, ()) = some ((((List.range a.length).find? fun i => decide (¬ a.getD i [] = b.getD i [])).map fun i : Nat => .inl (false, ())).getD (.inr ())) := by
      rw [← findSome_if (fun i => ¬ a.getD i [] = b.getD i []) (fun i : Nat => Sum.inl (false, ()))]
      refine loopN_find (N := 2 ^ 64) (step := step18_0) (fun i => (a, b, (i : Int), ())) (fun i => if ¬ a.getD i [] = b.getD i [] then some (.inl (false, ())) else none) a.length (.inr ()) (by omega) ?_ ?_
      · intro i hi
        have hm : a.getD i [] ∈ a := by rw [List.getD_eq_getElem?_getD, List.getElem?_eq_getElem hi]; exact List.getElem_mem hi
        obtain ⟨s1, s2⟩ := hs _ hm
        simp only [step18_0, ltI_eq, eqI_eq, idxOk_eq, cond_dec, not_dec, Int.toNat_natCast]
        rw [if_pos (by omega), if_pos (by omega), if_pos (by omega), f14_eq _ _ (by omega) (fun y hy => Nat.le_trans (s2 y hy) (by omega)), askO_s, wrap64s i (by omega), cond_dec]
        by_cases h : a.getD i [] = b.getD i []
        · rw [if_pos h, if_neg (not_not_intro h)]
        · rw [if_neg h, if_pos h]
      · simp only [step18_0, ltI_eq, cond_dec]
        rw [if_neg (by omega)]
    rw [hloop, askO_s]
    cases hf : (List.range a.length).find? fun i => decide (¬ a.getD i [] = b.getD i []) with
    | none =>
      have : a = b := by
        apply List.ext_getElem hl
        intro i g1 g2
        have := List.find?_eq_none.1 hf i (List.mem_range.2 g1)
        simp only [decide_eq_true_eq, Decidable.not_not] at this
        rw [List.getD_eq_getElem?_getD, List.getD_eq_getElem?_getD, List.getElem?_eq_getElem g1, List.getElem?_eq_getElem g2] at this
        exact this
      rw [decide_eq_true this]; rfl
    | some j =>
      have h1 := List.find?_some hf
      simp only [decide_eq_true_eq] at h1
      rw [decide_eq_false (fun h => h1 (by rw [h]))]; rfl
  · rw [if_pos (by omega), decide_eq_false (fun h => hl (by rw [h]))]
end Go.PM

/- Chapter 40, plain law: Make; ConsonanceLists' function answers true. -/
set_option linter.unusedSimpArgs false
set_option linter.unusedVariables false
namespace Go.PM
open Go Go.RowKit Go.Proofs
set_option maxRecDepth 100000

def elE (t : Int × (Int × Int)) (k : Nat) : Int := if k = 0 then (IntKind.wrap .i64 t.1).tmod 4 else if k = 1 then (IntKind.wrap .i64 t.2.1).tmod 4 else (IntKind.wrap .i64 t.2.2).tmod 4
/-- A plan's row. -/
def rowE (n : Nat) (t : Int × (Int × Int)) : List Int := (List.range n).map (elE t)
theorem rowE_length (n : Nat) (t : Int × (Int × Int)) : (rowE n t).length = n := by simp [rowE]
theorem elE_small (t : Int × (Int × Int)) (k : Nat) : okE (elE t k) := by
  have h : ∀ x : Int, okE (x.tmod 4) := by
    intro x
    have h1 := Int.natAbs_tmod x 4
    have h2 : x.natAbs % (4 : Int).natAbs < 4 := Nat.mod_lt _ (by decide)
    unfold okE
    omega
  unfold elE
  split
  · exact h _
  · split
    · exact h _
    · exact h _
theorem map_range_succ (f : Nat → Int) (i : Nat) : (List.range (i + 1)).map f = (List.range i).map f ++ [f i] := by
  rw [List.range_succ, List.map_append]; rfl
section
variable {a : Int} {rs : List (Int × (Int × Int))} {n : Nat}
theorem loop16_0_eq (hn : 1 ≤ n ∧ n ≤ 3) {v6 : List (List Int)} {j : Nat} (hj : j < rs.length) :
    loop16_0 ((a, rs), (n : Int), v6, (j : Int), [], 0, ()) = some ((a, rs), (n : Int), v6, (j : Int), rowE n (rs.getD j (0, (0, 0))), ()) := by
  refine loopN_all (N := 2 ^ 64) (step := step16_0) (fun i => ((a, rs), (n : Int), v6, (j : Int), (List.range i).map (elE (rs.getD j (0, (0, 0)))), (i : Int), ())) n ((a, rs), (n : Int), v6, (j : Int), rowE n (rs.getD j (0, (0, 0))), ()) (by omega) ?_ ?_
  · intro i hi
    rw [map_range_succ]
    simp only [step16_0, ltI_eq, eqI_eq, idxOk_eq, nble_eq, cond_dec, Int.toNat_natCast, List.length_cons, List.length_nil, List.length_map, List.length_range]
    rw [if_pos (by omega), if_pos (by omega), wrap64s i (by omega)]
    by_cases h0 : i = 0
    · rw [if_pos (by omega), if_pos (by omega), if_pos (by omega)]
      unfold elE
      rw [if_pos h0]
    · rw [if_neg (by omega)]
      by_cases h1 : i = 1
      · rw [if_pos (by omega), if_pos (by omega), if_pos (by omega)]
        have : elE (rs.getD j (0, (0, 0))) i = (IntKind.wrap .i64 (rs.getD j (0, (0, 0))).2.1).tmod 4 := by unfold elE; rw [if_neg h0, if_pos h1]
        rw [this]
      · rw [if_neg (by omega), if_pos (by omega), if_pos (by omega), if_pos (by omega)]
        have : elE (rs.getD j (0, (0, 0))) i = (IntKind.wrap .i64 (rs.getD j (0, (0, 0))).2.2).tmod 4 := by unfold elE; rw [if_neg h0, if_neg h1]
        rw [this]
  · simp only [step16_0, ltI_eq, cond_dec]
    rw [if_neg (by omega)]; rfl
theorem loop16_1_eq (hn : 1 ≤ n ∧ n ≤ 3) (hl : rs.length ≤ 6) : loop16_1 ((a, rs), (n : Int), [], 0, ()) = some ((n : Int), rs.map (rowE n), ()) := by
  refine loopN_all (N := 2 ^ 64) (step := step16_1) (fun i => ((a, rs), (n : Int), (rs.take i).map (rowE n), (i : Int), ())) rs.length ((n : Int), rs.map (rowE n), ()) (by omega) ?_ ?_
  · intro i hi
    have hg : rs.getD i (0, (0, 0)) = rs[i] := by rw [List.getD_eq_getElem?_getD, List.getElem?_eq_getElem hi]; rfl
    have ht : (rs.take (i + 1)).map (rowE n) = (rs.take i).map (rowE n) ++ [rowE n rs[i]] := by
      rw [List.take_add_one, List.map_append, List.getElem?_eq_getElem hi]; rfl
    rw [ht]
    simp only [step16_1, ltI_eq, cond_dec]
    rw [if_pos (by omega), loop16_0_eq hn hi, askO_s]
    simp only [nble_eq, cond_dec, List.length_cons, List.length_nil, List.length_map, List.length_take]
    rw [if_pos (by omega), if_pos (by omega), wrap64s i (by omega), hg]
  · simp only [step16_1, ltI_eq, cond_dec]
    rw [if_neg (by omega), List.take_length]
theorem f16_eq (ha : 0 ≤ a ∧ a ≤ 255) : ∃ n : Nat, (1 ≤ n ∧ n ≤ 3) ∧ ∃ b l, f16 ((a, rs), ()) = some ((n : Int), l, b, ()) ∧ (b = true → rs.length ≤ 6 ∧ l = rs.map (rowE n)) := by
  refine ⟨1 + (a % 3).toNat, by omega, ?_⟩
  have hw : wrapF .i64 (1 + (IntKind.wrap .i64 a).tmod 3) = ((1 + (a % 3).toNat : Nat) : Int) := by
    rw [wrap64' (by omega) (by omega), Int.tmod_eq_emod_of_nonneg ha.1, wrap64 (by omega) (by omega)]
    omega
  unfold f16; dsimp only
  rw [hw]
  simp only [ltI_eq, cond_dec]
  by_cases h : 6 < rs.length
  · rw [if_pos (by omega)]
    exact ⟨false, [], rfl, fun h => by cases h⟩
  · rw [if_neg (by omega), loop16_1_eq (n := 1 + (a % 3).toNat) (by omega) (by omega), askO_s]
    exact ⟨true, _, rfl, fun _ => ⟨by omega, rfl⟩⟩
/-- A plan's rows are well. -/
theorem plan_good (hn : 1 ≤ n ∧ n ≤ 3) (hl : rs.length ≤ 6) : (rs.map (rowE n)).length ≤ 1000 ∧ Rws 1000 (rs.map (rowE n)) ∧ errD (n : Int) (rs.map (rowE n)) = 0 ∧ Cl n (closC [] (rs.map (rowE n))) := by
  have hlen : ∀ y ∈ rs.map (rowE n), y.length = n := by
    intro y hy
    obtain ⟨t, -, rfl⟩ := List.mem_map.1 hy
    exact rowE_length n t
  have hrw : Rws 1000 (rs.map (rowE n)) := fun y hy => by rw [hlen y hy]; omega
  have hcl := closC_length (rs.map (rowE n)) []
  rw [List.length_nil, Nat.zero_add, List.length_map] at hcl
  have hrc : ∀ y ∈ rs.map (rowE n), rc y = 0 := by
    intro y hy
    have hy1 := hlen y hy
    obtain ⟨t, -, rfl⟩ := List.mem_map.1 hy
    unfold rc
    rw [if_neg (by omega), if_pos]
    intro i hi
    rw [rowE_length] at hi
    unfold rowE
    rw [List.getD_eq_getElem?_getD, List.getElem?_map, List.getElem?_range hi]
    exact elE_small t i
  have herr : errC (n : Int) (rs.map (rowE n)) = 0 := by
    unfold errC
    rw [if_neg (by omega), List.findSome?_eq_none_iff.2]
    · rfl
    · intro i hi
      have hm := getDL_mem (List.mem_range.1 hi)
      unfold stopC
      rw [if_neg (by rw [hrc _ hm]; simp), if_neg (by rw [hlen _ hm]; simp)]
  refine ⟨by rw [List.length_map]; omega, hrw, ?_, ⟨by omega, Nat.le_trans (gtN_le _ _) (by omega), closC_si _ (by simp [SI]), by omega, by omega, ?_⟩⟩
  · unfold errD
    rw [if_neg (not_not_intro herr), if_neg (by omega)]
  · intro y hy
    rcases (closC_mem y _ _).1 hy with hy | hy
    · cases hy
    · obtain ⟨r, hr, hy⟩ := List.mem_flatMap.1 hy
      split at hy
      · cases hy
      · rcases List.mem_cons.1 hy with rfl | hy
        · exact hlen _ hr
        · rw [List.mem_singleton.1 hy, neg_length]; exact hlen _ hr
theorem f4_true {k : Int} (ha : 0 ≤ a ∧ a ≤ 255) (hk : -128 ≤ k ∧ k ≤ 127) : f4 ((a, rs), k, ()) = some (true, ()) := by
  obtain ⟨n, hn, b, l, h16, hb⟩ := f16_eq (rs := rs) ha
  unfold f4; dsimp only
  rw [h16, askO_s, f10_eq, askO_s]
  cases b with
  | false => rfl
  | true =>
    obtain ⟨h6, rfl⟩ := hb rfl
    obtain ⟨g1, g2, g3, g4⟩ := plan_good (rs := rs) hn h6
    simp only [cond_true, ltI_eq, cond_dec]
    by_cases c1 : k < -1
    · rw [if_pos c1, askO_s]
    rw [if_neg c1]
    by_cases c2 : 7 < k
    · rw [if_pos c2, askO_s]
    rw [if_neg c2, wrap64' (by omega) (by omega)]
    by_cases c3 : k < 1 ∨ 6 < k
    · rw [f17_range g1 g2 g3 c3, askO_s]
      by_cases c4 : k < 1
      · rw [if_pos c4]; rfl
      · rw [if_neg c4, if_pos (by omega)]; rfl
    · obtain ⟨m, rfl⟩ := Int.eq_ofNat_of_zero_le (a := k) (by omega)
      rw [f17_eq g1 g2 g3 g4 (by omega), askO_s, if_neg (by omega), if_neg (by omega), f15_eq g1 g2, askO_s]
      dsimp only
      rw [f19_eq g4 (by omega), askO_s]
      have hch := chs_iter g4.len (m - 1) 1 (chs_c0 n)
      have hcnt := g4.count (m - 1)
      rw [f18_eq _ _ (by omega) (fun c hc => by
        obtain ⟨e1, e2⟩ := hch c hc
        exact ⟨by omega, fun y hy => by rw [e2 y hy]; omega⟩), askO_s]
      simp [eqI_eq]
end
end Go.PM
