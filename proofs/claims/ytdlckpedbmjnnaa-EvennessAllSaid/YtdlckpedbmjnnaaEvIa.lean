/- EvennessAll and EvennessKeeps by open runs (printed by wip/tools/dc.py). -/
import Derived.Test.YtdlckpedbmjnnaaEvI
set_option linter.unusedSimpArgs false
set_option linter.unusedVariables false
namespace Go.PM
open Go Go.RowKit Go.Proofs
set_option maxRecDepth 100000
/-! schisma/schismalaw35.EvennessAll -/
abbrev sh6_0 : List (Nat × Kd) := [(0, .int .i64), (1, .int .i64), (5, .list (.list (.int .i64))), (6, .int .i64), (7, .own 23 (.list (.int .i64))), (8, .int .i64), (9, .own 3 (.int .i64)), (53, .int .i64), (54, .int .i64), (57, .int .i64), (58, .int .i64)]
abbrev ex6_0 : List (Ex × List (Nat × Kd)) := [(.exit 2, [(0, .int .i64), (1, .int .i64), (5, .list (.list (.int .i64))), (6, .int .i64), (7, .own 23 (.list (.int .i64))), (9, .own 3 (.int .i64)), (53, .int .i64), (54, .int .i64)])]
def step6_0 (x : Shape.den sh6_0) : Option (Shape.den sh6_0 ⊕ exDen ex6_0) := match x with
  | (v0, v1, v5, v6, v7, v8, v9, v53, v54, v57, v58, ()) =>
    bif ltI v58 v57 then
      bif ltI v58 0 then none else bif eqI (IntKind.wrap .i64 (((BitVec.ofInt (IntKind.bits .i64) (Int.fdiv v8 (2 ^ (min v58.toNat (IntKind.bits .i64))))) &&& (BitVec.ofInt (IntKind.bits .i64) 1)).toNat : Int)) 1 then
        bif Nat.ble [v58].length 1048576 then bif Nat.ble v9.length 1048576 then some (.inl (v0, v1, v5, v6, v7, v8, (v9 ++ [v58]), v53, v54, v57, (wrapF .i64 (v58 + 1)), ())) else none else none
      else some (.inl (v0, v1, v5, v6, v7, v8, v9, v53, v54, v57, (wrapF .i64 (v58 + 1)), ()))
    else some (.inr ((v0, v1, v5, v6, v7, v9, v53, v54, ())))
def loop6_0 (x : Shape.den sh6_0) : Option (exDen ex6_0) := loopN step6_0 (2 ^ 64) x
abbrev sh6_1 : List (Nat × Kd) := [(0, .int .i64), (1, .int .i64), (5, .list (.list (.int .i64))), (6, .int .i64), (7, .own 23 (.list (.int .i64))), (53, .int .i64), (54, .int .i64)]
abbrev ex6_1 : List (Ex × List (Nat × Kd)) := [(.exit 0, [(5, .list (.list (.int .i64))), (6, .int .i64), (7, .own 23 (.list (.int .i64)))])]
def step6_1 (x : Shape.den sh6_1) : Option (Shape.den sh6_1 ⊕ exDen ex6_1) := match x with
  | (v0, v1, v5, v6, v7, v53, v54, ()) =>
    bif ltI v54 v53 then
      askO (loop6_0 (v0, v1, v5, v6, v7, v54, [], v53, v54, v0, 0, ())) fun z6 =>
      bif !(eqI (z6.2.2.2.2.2.1.length : Int) z6.2.1) then
        some (.inl (z6.1, z6.2.1, z6.2.2.1, z6.2.2.2.1, z6.2.2.2.2.1, z6.2.2.2.2.2.2.1, (wrapF .i64 (z6.2.2.2.2.2.2.2.1 + 1)), ()))
      else askO (f20 (z6.1, z6.2.2.2.2.2.1, ())) fun y7 =>
      bif y7.1 then
        bif Nat.ble [z6.2.2.2.2.2.1].length 1048576 then bif Nat.ble z6.2.2.2.2.1.length 1048576 then some (.inl (z6.1, z6.2.1, z6.2.2.1, z6.2.2.2.1, (z6.2.2.2.2.1 ++ [z6.2.2.2.2.2.1]), z6.2.2.2.2.2.2.1, (wrapF .i64 (z6.2.2.2.2.2.2.2.1 + 1)), ())) else none else none
      else some (.inl (z6.1, z6.2.1, z6.2.2.1, z6.2.2.2.1, z6.2.2.2.2.1, z6.2.2.2.2.2.2.1, (wrapF .i64 (z6.2.2.2.2.2.2.2.1 + 1)), ()))
    else some (.inr ((v5, v6, v7, ())))
def loop6_1 (x : Shape.den sh6_1) : Option (exDen ex6_1) := loopN step6_1 (2 ^ 64) x
def f6 (x : denK [.int .i64, .int .i64]) : Option (denK [.bool]) := match x with
  | (v0, v1, ()) =>
    askO (f12 (())) fun y1 =>
    bif y1.1 then
      bif ltI 12 v0 then
        bif !(ltI 60 v0) then
          askO (f12 (())) fun y2 =>
          some (y2.1, ())
        else askO (f19r (v0, v1, ())) fun y3 =>
        bif ltI v0 1 then
          bif eqI y3.2.1 3 then
            some (eqI (y3.1.length : Int) 0, ())
          else some (false, ())
        else bif ltI 60 v0 then
          bif eqI y3.2.1 3 then
            some (eqI (y3.1.length : Int) 0, ())
          else some (false, ())
        else bif ltI v1 1 then
          bif eqI y3.2.1 3 then
            some (eqI (y3.1.length : Int) 0, ())
          else some (false, ())
        else bif ltI v0 v1 then
          bif eqI y3.2.1 3 then
            some (eqI (y3.1.length : Int) 0, ())
          else some (false, ())
        else bif ltI v0 0 then none else askO (loop6_1 (v0, v1, y3.1, y3.2.1, [], (IntKind.wrap .i64 (1 * (2 ^ (min v0.toNat (IntKind.bits .i64))))), 0, ())) fun z8 =>
        bif eqI z8.2.1 0 then
          askO (f22t z8.2.2.1 (())) fun y9 =>
          askO (f21 (z8.1, y9.1, ())) fun y10 =>
          some (y10.1, ())
        else some (false, ())
      else askO (f19r (v0, v1, ())) fun y11 =>
      bif ltI v0 1 then
        bif eqI y11.2.1 3 then
          some (eqI (y11.1.length : Int) 0, ())
        else some (false, ())
      else bif ltI 60 v0 then
        bif eqI y11.2.1 3 then
          some (eqI (y11.1.length : Int) 0, ())
        else some (false, ())
      else bif ltI v1 1 then
        bif eqI y11.2.1 3 then
          some (eqI (y11.1.length : Int) 0, ())
        else some (false, ())
      else bif ltI v0 v1 then
        bif eqI y11.2.1 3 then
          some (eqI (y11.1.length : Int) 0, ())
        else some (false, ())
      else bif ltI v0 0 then none else askO (loop6_1 (v0, v1, y11.1, y11.2.1, [], (IntKind.wrap .i64 (1 * (2 ^ (min v0.toNat (IntKind.bits .i64))))), 0, ())) fun z12 =>
      bif eqI z12.2.1 0 then
        askO (f22t z12.2.2.1 (())) fun y13 =>
        askO (f21 (z12.1, y13.1, ())) fun y14 =>
        some (y14.1, ())
      else some (false, ())
    else askO (f12 (())) fun y15 =>
    some (y15.1, ())
noncomputable def c6 : Code := bodyOf Try.f6
abbrev E6 : Env := envT [e12, e19r, e20, e21] [s22t]
theorem E6_ok : EnvOK Try.prog E6 := envT_ok ⟨e12_ok, e19r_ok, e20_ok, e21_ok, trivial⟩ ⟨s22t_ok, trivial⟩
noncomputable def a6_1 : Code := loopAt c6 0
noncomputable def a6_0 : Code := loopAt a6_1 0
def lt6 (id : Nat) : Option LSpec := bif Nat.beq id 12 then some ⟨sh6_0, ex6_0, loop6_0⟩ else bif Nat.beq id 8 then some ⟨sh6_1, ex6_1, loop6_1⟩ else none
theorem round6_0 : ∀ x, roundK Try.prog E6 95 (keepOf Try.f6) lt6 a6_0 sh6_0 ex6_0 x = step6_0 x := by
  rintro ⟨v0, v1, v5, v6, v7, v8, v9, v53, v54, v57, v58, ⟨⟩⟩
  kernel_rfl
theorem in6_0 : loopsOf a6_0 = [] := by kernel_rfl
theorem first6_0 : firstRegion a6_0 = 12 := by kernel_rfl
theorem spec6_0 : SpecOK Try.prog 95 a6_0 ⟨sh6_0, ex6_0, loop6_0⟩ := by
  exact loop_ok E6_ok.callee progOK.mixed _ (loops_ok in6_0 trivial) round6_0
theorem round6_1 : ∀ x, roundK Try.prog E6 95 (keepOf Try.f6) lt6 a6_1 sh6_1 ex6_1 x = step6_1 x := by
  rintro ⟨v0, v1, v5, v6, v7, v53, v54, ⟨⟩⟩
  kernel_rfl
theorem in6_1 : loopsOf a6_1 = [a6_0] := by kernel_rfl
theorem first6_1 : firstRegion a6_1 = 8 := by kernel_rfl
theorem spec6_1 : SpecOK Try.prog 95 a6_1 ⟨sh6_1, ex6_1, loop6_1⟩ := by
  exact loop_ok E6_ok.callee progOK.mixed _ (loops_ok in6_1 ⟨spec_of first6_0 rfl spec6_0, trivial⟩) round6_1
theorem loops6 : loopsOf c6 = [a6_1] := by kernel_rfl
theorem body6 : ∀ x, bodyK Try.prog E6 Try.f6 (keepOf Try.f6) lt6 c6 [.int .i64, .int .i64] [.bool] x = f6 x := by
  rintro ⟨v0, v1, ⟨⟩⟩
  kernel_rfl
theorem fn6 : FnOK Try.prog 6 [.int .i64, .int .i64] [.bool] f6 := by
  exact fun_ok progOK E6_ok Try.func6 (c := c6) (by kernel_rfl) (keep := keepOf Try.f6) (lt := lt6) (loops_ok loops6 ⟨spec_of first6_1 rfl spec6_1, trivial⟩) body6
abbrev e6 : Ent := ⟨6, [.int .i64, .int .i64], [.bool], f6⟩
theorem e6_ok : Ent.OK Try.prog e6 := fn6

/-! schisma/schismalaw35.EvennessKeeps -/
abbrev sh7_0 : List (Nat × Kd) := [(7, .int .i64), (113, .list (.list (.int .i64))), (114, .int .i64), (115, .int .i64)]
abbrev ex7_0 : List (Ex × List (Nat × Kd)) := [(.ret, [(6, .bool)]), (.exit 0, [])]
def step7_0 (x : Shape.den sh7_0) : Option (Shape.den sh7_0 ⊕ exDen ex7_0) := match x with
  | (v7, v113, v114, v115, ()) =>
    bif ltI v115 v114 then
      bif idxOk v115 v113.length then askO (f27 (v7, (v113.getD v115.toNat []), ())) fun y8 =>
      bif !(eqI y8.2.2.1 0) then
        some (.inr (.inl (false, ())))
      else bif y8.1 then
        some (.inl (v7, v113, v114, (wrapF .i64 (v115 + 1)), ()))
      else some (.inr (.inl (false, ()))) else none
    else some (.inr (.inr ((()))))
def loop7_0 (x : Shape.den sh7_0) : Option (exDen ex7_0) := loopN step7_0 (2 ^ 64) x
def f7 (x : denK [.int .u8, .int .u8, .int .u8]) : Option (denK [.bool]) := match x with
  | (v0, v1, v2, ()) =>
    askO (f12 (())) fun y1 =>
    bif y1.1 then
      bif eqI (wrapF .i64 (1 + (IntKind.wrap .i64 (v0.tmod 30)))) 0 then none else bif eqI (wrapF .i64 (1 + ((IntKind.wrap .i64 v1).tmod (wrapF .i64 (1 + (IntKind.wrap .i64 (v0.tmod 30))))))) 0 then none else askO (f13 ((wrapF .i64 (1 + (IntKind.wrap .i64 (v0.tmod 30)))), (wrapF .i64 (1 + ((IntKind.wrap .i64 v1).tmod (wrapF .i64 (1 + (IntKind.wrap .i64 (v0.tmod 30))))))), ((IntKind.wrap .i64 v2).tmod (wrapF .i64 (1 + ((IntKind.wrap .i64 v1).tmod (wrapF .i64 (1 + (IntKind.wrap .i64 (v0.tmod 30)))))))), ())) fun y2 =>
      bif !(eqI y2.2.1 0) then
        some (false, ())
      else askO (f23 ((wrapF .i64 (1 + (IntKind.wrap .i64 (v0.tmod 30)))), y2.1, (IntKind.wrap .i64 v2), ())) fun y3 =>
      askO (f24 ((wrapF .i64 (1 + (IntKind.wrap .i64 (v0.tmod 30)))), y2.1, ())) fun y4 =>
      askO (f25r ((wrapF .i64 (1 + (IntKind.wrap .i64 (v0.tmod 30)))), y2.1, ())) fun y5 =>
      bif !(eqI y3.2.1 0) then
        some (false, ())
      else bif !(eqI y4.2.1 0) then
        some (false, ())
      else bif !(eqI y5.2.1 0) then
        some (false, ())
      else bif eqI (y5.1.length : Int) 0 then
        some (false, ())
      else bif eqI (y5.1.length : Int) 0 then none else bif !(eqI ((wrapF .i64 (1 + (IntKind.wrap .i64 (v0.tmod 30)))).tmod (y5.1.length : Int)) 0) then
        some (false, ())
      else askO (f26 ((wrapF .i64 (1 + (IntKind.wrap .i64 (v0.tmod 30)))), y2.1, ())) fun y6 =>
      bif eqI y6.2.1 0 then
        bif Nat.ble [y6.1].length 1048576 then bif Nat.ble [y2.1, y3.1, y4.1].length 1048576 then bif Nat.blt 3 ([y2.1, y3.1, y4.1].length + [y6.1].length) then askO (loop7_0 ((wrapF .i64 (1 + (IntKind.wrap .i64 (v0.tmod 30)))), ([y2.1, y3.1, y4.1] ++ [y6.1]), (([y2.1, y3.1, y4.1] ++ [y6.1]).length : Int), 0, ())) fun z9 =>
        onSum z9 (fun a10 => some (a10.1, ())) fun b11 =>
        some (true, ()) else none else none else none
      else bif !(eqI y6.2.1 13) then
        some (false, ())
      else bif !(eqI (wrapF .i64 (1 + ((IntKind.wrap .i64 v1).tmod (wrapF .i64 (1 + (IntKind.wrap .i64 (v0.tmod 30))))))) (wrapF .i64 (1 + (IntKind.wrap .i64 (v0.tmod 30))))) then
        some (false, ())
      else askO (loop7_0 ((wrapF .i64 (1 + (IntKind.wrap .i64 (v0.tmod 30)))), [y2.1, y3.1, y4.1], ([y2.1, y3.1, y4.1].length : Int), 0, ())) fun z12 =>
      onSum z12 (fun a13 => some (a13.1, ())) fun b14 =>
      some (true, ())
    else some (false, ())
noncomputable def c7 : Code := bodyOf Try.f7
abbrev E7 : Env := envOf [e12, e13, e23, e24, e25r, e26, e27]
theorem E7_ok : EnvOK Try.prog E7 := env_ok ⟨e12_ok, e13_ok, e23_ok, e24_ok, e25r_ok, e26_ok, e27_ok, trivial⟩
noncomputable def a7_0 : Code := loopAt c7 0
def lt7 (id : Nat) : Option LSpec := bif Nat.beq id 20 then some ⟨sh7_0, ex7_0, loop7_0⟩ else none
theorem round7_0 : ∀ x, roundK Try.prog E7 133 (keepOf Try.f7) lt7 a7_0 sh7_0 ex7_0 x = step7_0 x := by
  rintro ⟨v7, v113, v114, v115, ⟨⟩⟩
  kernel_rfl
theorem in7_0 : loopsOf a7_0 = [] := by kernel_rfl
theorem first7_0 : firstRegion a7_0 = 20 := by kernel_rfl
theorem spec7_0 : SpecOK Try.prog 133 a7_0 ⟨sh7_0, ex7_0, loop7_0⟩ := by
  exact loop_ok E7_ok.callee progOK.mixed _ (loops_ok in7_0 trivial) round7_0
theorem loops7 : loopsOf c7 = [a7_0] := by kernel_rfl
theorem body7 : ∀ x, bodyK Try.prog E7 Try.f7 (keepOf Try.f7) lt7 c7 [.int .u8, .int .u8, .int .u8] [.bool] x = f7 x := by
  rintro ⟨v0, v1, v2, ⟨⟩⟩
  kernel_rfl
theorem fn7 : FnOK Try.prog 7 [.int .u8, .int .u8, .int .u8] [.bool] f7 := by
  exact fun_ok progOK E7_ok Try.func7 (c := c7) (by kernel_rfl) (keep := keepOf Try.f7) (lt := lt7) (loops_ok loops7 ⟨spec_of first7_0 rfl spec7_0, trivial⟩) body7
abbrev e7 : Ent := ⟨7, [.int .u8, .int .u8, .int .u8], [.bool], f7⟩
theorem e7_ok : Ent.OK Try.prog e7 := fn7
end Go.PM
