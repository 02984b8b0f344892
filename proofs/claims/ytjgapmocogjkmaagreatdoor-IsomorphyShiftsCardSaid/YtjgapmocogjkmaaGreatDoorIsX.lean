/- Chapter 46: functions by open runs of the plain machine (printed by a program). -/
import Derived.Test.YtjgapmocogjkmaaGreatDoorIsGP
import Derived.Test.YtjgapmocogjkmaaGreatDoorPnR
import Derived.Test.YtjgapmocogjkmaaGreatDoorPnO
import Derived.Test.YtjgapmocogjkmaaGreatDoorPnV
set_option linter.unusedSimpArgs false
set_option linter.unusedVariables false
namespace Go.PM
open Go Go.RowKit Go.Proofs
set_option maxRecDepth 100000
set_option maxHeartbeats 4000000

/-! schisma/isomorphy.combine -/
abbrev sh65o_0 : List (Nat × Kd) := [(0, .list (.int .i64)), (1, .list (.int .i64)), (2, .int .i64), (3, .int .i64), (9, .own 3 (.int .i64)), (13, .int .i64), (14, .int .i64)]
abbrev ex65o_0 : List (Ex × List (Nat × Kd)) := [(.exit 0, [(9, .own 3 (.int .i64))])]
def step65o_0 (x : Shape.den sh65o_0) : Option (Shape.den sh65o_0 ⊕ exDen ex65o_0) := match x with
  | (v0, v1, v2, v3, v9, v13, v14, ()) =>
    bif ltI v14 v13 then
      bif idxOk v14 v0.length then bif idxOk v14 v1.length then bif Nat.ble [(wrapF .i64 ((wrapF .i64 (v2 * (v0.getD v14.toNat 0))) + (wrapF .i64 (v3 * (v1.getD v14.toNat 0)))))].length 1048576 then bif Nat.ble v9.length 1048576 then some (.inl (v0, v1, v2, v3, (v9 ++ [(wrapF .i64 ((wrapF .i64 (v2 * (v0.getD v14.toNat 0))) + (wrapF .i64 (v3 * (v1.getD v14.toNat 0)))))]), v13, (wrapF .i64 (v14 + 1)), ())) else none else none else none else none
    else some (.inr ((v9, ())))
def loop65o_0 (x : Shape.den sh65o_0) : Option (exDen ex65o_0) := loopN step65o_0 (2 ^ 64) x
def f65o (x : denK [.list (.int .i64), .list (.int .i64), .int .i64, .int .i64]) : Option (List Int) := match x with
  | (v0, v1, v2, v3, ()) =>
    askO (loop65o_0 (v0, v1, v2, v3, [], (v0.length : Int), 0, ())) fun z1 =>
    some z1.1
noncomputable def c65o : Code := bodyOf Tryz.f65
abbrev E65o : Env := envOf []
theorem E65o_ok : EnvOK Tryz.prog E65o := env_ok trivial
noncomputable def a65o_0 : Code := loopAt c65o 0
def lt65o (id : Nat) : Option LSpec := bif Nat.beq id 3 then some ⟨sh65o_0, ex65o_0, loop65o_0⟩ else none
theorem round65o_0 : ∀ x, roundK Tryz.prog E65o 35 (keepOf Tryz.f65) lt65o a65o_0 sh65o_0 ex65o_0 x = step65o_0 x := by
  rintro ⟨v0, v1, v2, v3, v9, v13, v14, ⟨⟩⟩
  kernel_rfl
theorem in65o_0 : loopsOf a65o_0 = [] := by kernel_rfl
theorem first65o_0 : firstRegion a65o_0 = 3 := by kernel_rfl
theorem spec65o_0 : SpecOK Tryz.prog 35 a65o_0 ⟨sh65o_0, ex65o_0, loop65o_0⟩ := by
  exact loop_ok E65o_ok.callee progOK.mixed _ (loops_ok in65o_0 trivial) round65o_0
theorem loops65o : loopsOf c65o = [a65o_0] := by kernel_rfl
theorem body65o : ∀ x, bodyO Tryz.prog E65o Tryz.f65 (keepOf Tryz.f65) lt65o c65o [.list (.int .i64), .list (.int .i64), .int .i64, .int .i64] 8 3 (.int .i64) x = f65o x := by
  rintro ⟨v0, v1, v2, v3, ⟨⟩⟩
  kernel_rfl
theorem fn65o : FnOwn Tryz.prog 65 [.list (.int .i64), .list (.int .i64), .int .i64, .int .i64] 3 (.int .i64) f65o := by
  exact fun_own progOK E65o_ok Tryz.func65 (c := c65o) (by kernel_rfl) (keep := keepOf Tryz.f65) (lt := lt65o) (t := 8) (by kernel_rfl) (loops_ok loops65o ⟨spec_of first65o_0 rfl spec65o_0, trivial⟩) body65o
abbrev s65o : Shr := (65, ownH [.list (.int .i64), .list (.int .i64), .int .i64, .int .i64] 3 (.int .i64) f65o)
theorem s65o_ok : ShrOK Tryz.prog s65o := ownH_ok fn65o

/-! schisma/isomorphy.shift -/
abbrev sh44_0 : List (Nat × Kd) := [(3, .box 25 (.prod (.int .i64) (.prod (.list (.int .i64)) (.prod (.list (.int .i64)) (.list (.int .i64)))))), (6, .box 25 (.prod (.int .i64) (.prod (.list (.int .i64)) (.prod (.list (.int .i64)) (.list (.int .i64)))))), (7, .bag 25 (.int .i64) 3 (.int .i64) (.prod (.list (.int .i64)) (.list (.int .i64)))), (27, .int .i64), (28, .int .i64)]
abbrev ex44_0 : List (Ex × List (Nat × Kd)) := [(.exit 0, [(6, .box 25 (.prod (.int .i64) (.prod (.list (.int .i64)) (.prod (.list (.int .i64)) (.list (.int .i64)))))), (7, .bag 25 (.int .i64) 3 (.int .i64) (.prod (.list (.int .i64)) (.list (.int .i64))))])]
def step44_0 (x : Shape.den sh44_0) : Option (Shape.den sh44_0 ⊕ exDen ex44_0) := match x with
  | (v3, v6, v7, v27, v28, ()) =>
    bif ltI v28 v27 then
      bif idxOk v28 v7.2.1.length then bif Nat.blt v28.toNat v7.2.1.length then bif idxOk v28 v3.2.1.length then bif idxOk v28 v7.2.1.length then bif Nat.blt v28.toNat v7.2.1.length then some (.inl ((v3.1, (v3.2.1, (v3.2.2.1, v3.2.2.2))), (v6.1, (v6.2.1, (v6.2.2.1, v6.2.2.2))), (v7.1, ((v7.2.1.set v28.toNat (wrapF .i64 ((v7.2.1.getD v28.toNat 0) + (v3.2.1.getD v28.toNat 0)))), (v7.2.2.1, v7.2.2.2))), v27, (wrapF .i64 (v28 + 1)), ())) else none else none else none else none else none
    else some (.inr (((v6.1, (v6.2.1, (v6.2.2.1, v6.2.2.2))), (v7.1, (v7.2.1, (v7.2.2.1, v7.2.2.2))), ())))
def loop44_0 (x : Shape.den sh44_0) : Option (exDen ex44_0) := loopN step44_0 (2 ^ 64) x
def f44 (x : denK [.agg (.prod (.int .i64) (.prod (.list (.int .i64)) (.prod (.list (.int .i64)) (.list (.int .i64))))), .int .i64, .int .i64]) : Option (denK [.agg (.prod (.int .i64) (.prod (.list (.int .i64)) (.prod (.list (.int .i64)) (.list (.int .i64)))))]) := match x with
  | (v0, v1, v2, ()) =>
    askO (f65o (v0.2.2.1, v0.2.2.2, v1, v2, ())) fun y1 =>
    askO (f64c (v0.2.2.1, ())) fun y2 =>
    askO (f64c (v0.2.2.2, ())) fun y3 =>
    askO (loop44_0 ((v0.1, (v0.2.1, (v0.2.2.1, v0.2.2.2))), (0, ([], ([], []))), (v0.1, (y1, (y2.1, y3.1))), (y1.length : Int), 0, ())) fun z4 =>
    some ((z4.2.1.1, (z4.2.1.2.1, (z4.2.1.2.2.1, z4.2.1.2.2.2))), ())
noncomputable def c44 : Code := bodyOf Tryz.f44
abbrev E44 : Env := envT [e64c] [s65o]
theorem E44_ok : EnvOK Tryz.prog E44 := envT_ok ⟨e64c_ok, trivial⟩ ⟨s65o_ok, trivial⟩
noncomputable def a44_0 : Code := inLoop (subAt c44 0)
def lt44 (id : Nat) : Option LSpec := bif Nat.beq id 3 then some ⟨sh44_0, ex44_0, loop44_0⟩ else none
def rt44 (id : Nat) : Option LSpec := none
theorem first44_0 : firstRegion a44_0 = 3 := by kernel_rfl
theorem in44_0 : subsOf a44_0 = [] := by kernel_rfl
theorem round44_0 : ∀ x, roundR Tryz.prog E44 45 (keepR Tryz.f44) lt44 rt44 false [] a44_0 sh44_0 ex44_0 x = step44_0 x := by
  rintro ⟨v3, v6, v7, v27, v28, ⟨⟩⟩
  kernel_rfl
theorem spec44_0 : SpecR Tryz.prog 45 false [] (.loop a44_0) ⟨sh44_0, ex44_0, loop44_0⟩ := by
  exact loop_okR E44_ok.callee progOK.mixed _ (subs_ok in44_0 trivial) round44_0
theorem loops44 : subsOf c44 = [.loop a44_0] := by kernel_rfl
theorem body44 : ∀ x, bodyR Tryz.prog E44 Tryz.f44 (keepR Tryz.f44) lt44 rt44 c44 [.agg (.prod (.int .i64) (.prod (.list (.int .i64)) (.prod (.list (.int .i64)) (.list (.int .i64))))), .int .i64, .int .i64] [.agg (.prod (.int .i64) (.prod (.list (.int .i64)) (.prod (.list (.int .i64)) (.list (.int .i64)))))] x = f44 x := by
  rintro ⟨v0, v1, v2, ⟨⟩⟩
  kernel_rfl
theorem fn44 : FnOK Tryz.prog 44 [.agg (.prod (.int .i64) (.prod (.list (.int .i64)) (.prod (.list (.int .i64)) (.list (.int .i64))))), .int .i64, .int .i64] [.agg (.prod (.int .i64) (.prod (.list (.int .i64)) (.prod (.list (.int .i64)) (.list (.int .i64)))))] f44 := by
  exact fun_okR progOK E44_ok Tryz.func44 (c := c44) (by kernel_rfl) (keep := keepR Tryz.f44) (lt := lt44) (rt := rt44) (subs_ok loops44 ⟨sub_loop first44_0 rfl spec44_0, trivial⟩) body44
abbrev e44 : Ent := ⟨44, [.agg (.prod (.int .i64) (.prod (.list (.int .i64)) (.prod (.list (.int .i64)) (.list (.int .i64))))), .int .i64, .int .i64], [.agg (.prod (.int .i64) (.prod (.list (.int .i64)) (.prod (.list (.int .i64)) (.list (.int .i64)))))], f44⟩
theorem e44_ok : Ent.OK Tryz.prog e44 := fn44

/-! schisma/isomorphy.Shift -/
def f20s (x : denK [.agg (.prod (.int .i64) (.prod (.list (.int .i64)) (.prod (.list (.int .i64)) (.list (.int .i64))))), .int .i64, .int .i64]) : Option (denK [.agg (.prod (.int .i64) (.prod (.list (.int .i64)) (.prod (.list (.int .i64)) (.list (.int .i64))))), .int .i64]) := match x with
  | (v0, v1, v2, ()) =>
    askO (f24 ((v0.1, (v0.2.1, (v0.2.2.1, v0.2.2.2))), ())) fun y1 =>
    bif !(eqI y1.1 0) then
      some ((0, ([], ([], []))), y1.1, ())
    else bif ltI v1 (-1000) then
      some ((0, ([], ([], []))), 3, ())
    else bif ltI 1000 v1 then
      some ((0, ([], ([], []))), 3, ())
    else bif ltI v2 (-1000) then
      some ((0, ([], ([], []))), 3, ())
    else bif ltI 1000 v2 then
      some ((0, ([], ([], []))), 3, ())
    else askO (f44 ((v0.1, (v0.2.1, (v0.2.2.1, v0.2.2.2))), v1, v2, ())) fun y2 =>
    askO (f39 ((y2.1.1, (y2.1.2.1, (y2.1.2.2.1, y2.1.2.2.2))), ())) fun y3 =>
    some ((y3.1.1, (y3.1.2.1, (y3.1.2.2.1, y3.1.2.2.2))), y3.2.1, ())
noncomputable def c20s : Code := bodyOf Tryz.f20
abbrev E20s : Env := envOf [e24, e39, e44]
theorem E20s_ok : EnvOK Tryz.prog E20s := env_ok ⟨e24_ok, e39_ok, e44_ok, trivial⟩
def lt20s (id : Nat) : Option LSpec := none
theorem loops20s : loopsOf c20s = [] := by kernel_rfl
theorem body20s : ∀ x, bodyK Tryz.prog E20s Tryz.f20 (keepOf Tryz.f20) lt20s c20s [.agg (.prod (.int .i64) (.prod (.list (.int .i64)) (.prod (.list (.int .i64)) (.list (.int .i64))))), .int .i64, .int .i64] [.agg (.prod (.int .i64) (.prod (.list (.int .i64)) (.prod (.list (.int .i64)) (.list (.int .i64))))), .int .i64] x = f20s x := by
  rintro ⟨v0, v1, v2, ⟨⟩⟩
  kernel_rfl
theorem fn20s : FnOK Tryz.prog 20 [.agg (.prod (.int .i64) (.prod (.list (.int .i64)) (.prod (.list (.int .i64)) (.list (.int .i64))))), .int .i64, .int .i64] [.agg (.prod (.int .i64) (.prod (.list (.int .i64)) (.prod (.list (.int .i64)) (.list (.int .i64))))), .int .i64] f20s := by
  exact fun_ok progOK E20s_ok Tryz.func20 (c := c20s) (by kernel_rfl) (keep := keepOf Tryz.f20) (lt := lt20s) (loops_ok loops20s trivial) body20s
abbrev e20s : Ent := ⟨20, [.agg (.prod (.int .i64) (.prod (.list (.int .i64)) (.prod (.list (.int .i64)) (.list (.int .i64))))), .int .i64, .int .i64], [.agg (.prod (.int .i64) (.prod (.list (.int .i64)) (.prod (.list (.int .i64)) (.list (.int .i64))))), .int .i64], f20s⟩
theorem e20s_ok : Ent.OK Tryz.prog e20s := fn20s

/-! schisma/schismalaw46.IsomorphyShifts -/
abbrev sh4_0 : List (Nat × Kd) := [(1, .int .i64), (2, .int .i64), (3, .box 25 (.prod (.int .i64) (.prod (.list (.int .i64)) (.prod (.list (.int .i64)) (.list (.int .i64)))))), (7, .box 25 (.prod (.int .i64) (.prod (.list (.int .i64)) (.prod (.list (.int .i64)) (.list (.int .i64)))))), (8, .int .i64), (9, .bag 25 (.int .i64) 3 (.int .i64) (.prod (.list (.int .i64)) (.list (.int .i64)))), (10, .int .i64)]
abbrev ex4_0 : List (Ex × List (Nat × Kd)) := [(.ret, [(6, .bool)]), (.exit 0, [(7, .box 25 (.prod (.int .i64) (.prod (.list (.int .i64)) (.prod (.list (.int .i64)) (.list (.int .i64)))))), (8, .int .i64), (9, .bag 25 (.int .i64) 3 (.int .i64) (.prod (.list (.int .i64)) (.list (.int .i64))))])]
def step4_0 (x : Shape.den sh4_0) : Option (Shape.den sh4_0 ⊕ exDen ex4_0) := match x with
  | (v1, v2, v3, v7, v8, v9, v10, ()) =>
    bif ltI v10 (v3.2.1.length : Int) then
      bif idxOk v10 v3.2.1.length then bif idxOk v10 v3.2.2.1.length then bif idxOk v10 v3.2.2.2.length then askO (f21 ((wrapF .i64 ((wrapF .i64 ((v3.2.1.getD v10.toNat 0) + (wrapF .i64 (v1 * (v3.2.2.1.getD v10.toNat 0))))) + (wrapF .i64 (v2 * (v3.2.2.2.getD v10.toNat 0))))), ())) fun y12 =>
      bif y12.1 then
        bif Nat.ble [(wrapF .i64 ((wrapF .i64 ((v3.2.1.getD v10.toNat 0) + (wrapF .i64 (v1 * (v3.2.2.1.getD v10.toNat 0))))) + (wrapF .i64 (v2 * (v3.2.2.2.getD v10.toNat 0)))))].length 1048576 then bif Nat.ble v9.2.1.length 1048576 then some (.inl (v1, v2, (v3.1, (v3.2.1, (v3.2.2.1, v3.2.2.2))), (v7.1, (v7.2.1, (v7.2.2.1, v7.2.2.2))), v8, (v9.1, ((v9.2.1 ++ [(wrapF .i64 ((wrapF .i64 ((v3.2.1.getD v10.toNat 0) + (wrapF .i64 (v1 * (v3.2.2.1.getD v10.toNat 0))))) + (wrapF .i64 (v2 * (v3.2.2.2.getD v10.toNat 0)))))]), (v9.2.2.1, v9.2.2.2))), (wrapF .i64 (v10 + 1)), ())) else none else none
      else askO (f17 ((v7.1, (v7.2.1, (v7.2.2.1, v7.2.2.2))), ())) fun y13 =>
      bif y13.1 then
        some (.inr (.inl (eqI v8 4, ())))
      else some (.inr (.inl (false, ()))) else none else none else none
    else some (.inr (.inr (((v7.1, (v7.2.1, (v7.2.2.1, v7.2.2.2))), v8, (v9.1, (v9.2.1, (v9.2.2.1, v9.2.2.2))), ()))))
def loop4_0 (x : Shape.den sh4_0) : Option (exDen ex4_0) := loopN step4_0 (2 ^ 64) x
def f4 (x : denK [.agg (.prod (.int .i64) (.prod (.list (.int .i64)) (.prod (.list (.int .i64)) (.list (.int .i64))))), .int .i64, .int .i64]) : Option (denK [.bool]) := match x with
  | (v0, v1, v2, ()) =>
    askO (f12 (())) fun y1 =>
    bif y1.1 then
      askO (f13 ((v0.1, (v0.2.1, (v0.2.2.1, v0.2.2.2))), ())) fun y2 =>
      bif y2.1 then
        askO (f14 ((v0.1, (v0.2.1, (v0.2.2.1, v0.2.2.2))), ())) fun y3 =>
        bif !(eqI y3.1 0) then
          askO (f12 (())) fun y4 =>
          some (y4.1, ())
        else askO (f20s ((v0.1, (v0.2.1, (v0.2.2.1, v0.2.2.2))), v1, v2, ())) fun y5 =>
        bif ltI v1 (-1000) then
          askO (f17 ((y5.1.1, (y5.1.2.1, (y5.1.2.2.1, y5.1.2.2.2))), ())) fun y6 =>
          bif y6.1 then
            some (eqI y5.2.1 3, ())
          else some (false, ())
        else bif ltI 1000 v1 then
          askO (f17 ((y5.1.1, (y5.1.2.1, (y5.1.2.2.1, y5.1.2.2.2))), ())) fun y7 =>
          bif y7.1 then
            some (eqI y5.2.1 3, ())
          else some (false, ())
        else bif ltI v2 (-1000) then
          askO (f17 ((y5.1.1, (y5.1.2.1, (y5.1.2.2.1, y5.1.2.2.2))), ())) fun y8 =>
          bif y8.1 then
            some (eqI y5.2.1 3, ())
          else some (false, ())
        else bif ltI 1000 v2 then
          askO (f17 ((y5.1.1, (y5.1.2.1, (y5.1.2.2.1, y5.1.2.2.2))), ())) fun y9 =>
          bif y9.1 then
            some (eqI y5.2.1 3, ())
          else some (false, ())
        else askO (loop4_0 (v1, v2, (v0.1, (v0.2.1, (v0.2.2.1, v0.2.2.2))), (y5.1.1, (y5.1.2.1, (y5.1.2.2.1, y5.1.2.2.2))), y5.2.1, (v0.1, ([], (v0.2.2.1, v0.2.2.2))), 0, ())) fun z14 =>
        onSum z14 (fun a15 => some (a15.1, ())) fun b16 =>
        bif eqI b16.2.1 0 then
          askO (f19 ((b16.1.1, (b16.1.2.1, (b16.1.2.2.1, b16.1.2.2.2))), (b16.2.2.1.1, (b16.2.2.1.2.1, (b16.2.2.1.2.2.1, b16.2.2.1.2.2.2))), ())) fun y17 =>
          some (y17.1, ())
        else some (false, ())
      else askO (f12 (())) fun y18 =>
      some (y18.1, ())
    else askO (f12 (())) fun y19 =>
    some (y19.1, ())
noncomputable def c4 : Code := bodyOf Tryz.f4
abbrev E4 : Env := envOf [e12, e13, e14, e17, e19, e20s, e21]
theorem E4_ok : EnvOK Tryz.prog E4 := env_ok ⟨e12_ok, e13_ok, e14_ok, e17_ok, e19_ok, e20s_ok, e21_ok, trivial⟩
noncomputable def a4_0 : Code := inLoop (subAt c4 0)
def lt4 (id : Nat) : Option LSpec := bif Nat.beq id 9 then some ⟨sh4_0, ex4_0, loop4_0⟩ else none
def rt4 (id : Nat) : Option LSpec := none
theorem first4_0 : firstRegion a4_0 = 9 := by kernel_rfl
theorem in4_0 : subsOf a4_0 = [] := by kernel_rfl
theorem round4_0 : ∀ x, roundR Tryz.prog E4 105 (keepR Tryz.f4) lt4 rt4 false [] a4_0 sh4_0 ex4_0 x = step4_0 x := by
  rintro ⟨v1, v2, v3, v7, v8, v9, v10, ⟨⟩⟩
  kernel_rfl
theorem spec4_0 : SpecR Tryz.prog 105 false [] (.loop a4_0) ⟨sh4_0, ex4_0, loop4_0⟩ := by
  exact loop_okR E4_ok.callee progOK.mixed _ (subs_ok in4_0 trivial) round4_0
theorem loops4 : subsOf c4 = [.loop a4_0] := by kernel_rfl
theorem body4 : ∀ x, bodyR Tryz.prog E4 Tryz.f4 (keepR Tryz.f4) lt4 rt4 c4 [.agg (.prod (.int .i64) (.prod (.list (.int .i64)) (.prod (.list (.int .i64)) (.list (.int .i64))))), .int .i64, .int .i64] [.bool] x = f4 x := by
  rintro ⟨v0, v1, v2, ⟨⟩⟩
  kernel_rfl
theorem fn4 : FnOK Tryz.prog 4 [.agg (.prod (.int .i64) (.prod (.list (.int .i64)) (.prod (.list (.int .i64)) (.list (.int .i64))))), .int .i64, .int .i64] [.bool] f4 := by
  exact fun_okR progOK E4_ok Tryz.func4 (c := c4) (by kernel_rfl) (keep := keepR Tryz.f4) (lt := lt4) (rt := rt4) (subs_ok loops4 ⟨sub_loop first4_0 rfl spec4_0, trivial⟩) body4
abbrev e4 : Ent := ⟨4, [.agg (.prod (.int .i64) (.prod (.list (.int .i64)) (.prod (.list (.int .i64)) (.list (.int .i64))))), .int .i64, .int .i64], [.bool], f4⟩
theorem e4_ok : Ent.OK Tryz.prog e4 := fn4
end Go.PM
