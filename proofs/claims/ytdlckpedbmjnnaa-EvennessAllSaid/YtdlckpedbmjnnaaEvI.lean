/- The functions of chapter 35 that sort lists of sets, and EvennessMoves, by open runs (printed by wip/tools/dc.py). -/
import Derived.Test.YtdlckpedbmjnnaaEvH
set_option linter.unusedSimpArgs false
set_option linter.unusedVariables false
namespace Go.PM
open Go Go.RowKit Go.Proofs
set_option maxRecDepth 100000
/-! schisma/evenness.Rotations -/
abbrev sh25r_0 : List (Nat × Kd) := [(0, .int .i64), (1, .list (.int .i64)), (7, .own 23 (.list (.int .i64))), (15, .int .i64), (16, .int .i64)]
abbrev ex25r_0 : List (Ex × List (Nat × Kd)) := [(.exit 0, [(7, .own 23 (.list (.int .i64)))])]
def step25r_0 (x : Shape.den sh25r_0) : Option (Shape.den sh25r_0 ⊕ exDen ex25r_0) := match x with
  | (v0, v1, v7, v15, v16, ()) =>
    bif ltI v16 v15 then
      askO (f49s2c52i (v0, v1, (v16, ()), ())) fun y3 =>
      bif Nat.ble [y3.1].length 1048576 then bif Nat.ble v7.length 1048576 then some (.inl (v0, v1, (v7 ++ [y3.1]), v15, (wrapF .i64 (v16 + 1)), ())) else none else none
    else some (.inr ((v7, ())))
def loop25r_0 (x : Shape.den sh25r_0) : Option (exDen ex25r_0) := loopN step25r_0 (2 ^ 64) x
def f25r (x : denK [.int .i64, .list (.int .i64)]) : Option (denK [.list (.list (.int .i64)), .int .i64]) := match x with
  | (v0, v1, ()) =>
    askO (f37 (v0, v1, ())) fun y1 =>
    bif !(eqI y1.1 0) then
      some ([], y1.1, ())
    else askO (loop25r_0 (v0, v1, [], v0, 0, ())) fun z4 =>
    askO (sortFO (t := (.int .i64)) D64 (fun x y => decide (cmpL x y < 0)) z4.1) fun y5 =>
    askO (f47s1f14t y5 ((), ())) fun y6 =>
    some (y6.1, 0, ())
noncomputable def c25r : Code := bodyOf Try.f25
abbrev E25r : Env := envT [e37, e49s2c52i] [s44a, s47s1f14t]
theorem E25r_ok : EnvOK Try.prog E25r := envT_ok ⟨e37_ok, e49s2c52i_ok, trivial⟩ ⟨s44a_ok, s47s1f14t_ok, trivial⟩
noncomputable def a25r_0 : Code := loopAt c25r 0
def lt25r (id : Nat) : Option LSpec := bif Nat.beq id 6 then some ⟨sh25r_0, ex25r_0, loop25r_0⟩ else none
theorem round25r_0 : ∀ x, roundK Try.prog E25r 31 (keepOf Try.f25) lt25r a25r_0 sh25r_0 ex25r_0 x = step25r_0 x := by
  rintro ⟨v0, v1, v7, v15, v16, ⟨⟩⟩
  kernel_rfl
theorem in25r_0 : loopsOf a25r_0 = [] := by kernel_rfl
theorem first25r_0 : firstRegion a25r_0 = 6 := by kernel_rfl
theorem spec25r_0 : SpecOK Try.prog 31 a25r_0 ⟨sh25r_0, ex25r_0, loop25r_0⟩ := by
  exact loop_ok E25r_ok.callee progOK.mixed _ (loops_ok in25r_0 trivial) round25r_0
theorem loops25r : loopsOf c25r = [a25r_0] := by kernel_rfl
theorem body25r : ∀ x, bodyK Try.prog E25r Try.f25 (keepOf Try.f25) lt25r c25r [.int .i64, .list (.int .i64)] [.list (.list (.int .i64)), .int .i64] x = f25r x := by
  rintro ⟨v0, v1, ⟨⟩⟩
  kernel_rfl
theorem fn25r : FnOK Try.prog 25 [.int .i64, .list (.int .i64)] [.list (.list (.int .i64)), .int .i64] f25r := by
  exact fun_ok progOK E25r_ok Try.func25 (c := c25r) (by kernel_rfl) (keep := keepOf Try.f25) (lt := lt25r) (loops_ok loops25r ⟨spec_of first25r_0 rfl spec25r_0, trivial⟩) body25r
abbrev e25r : Ent := ⟨25, [.int .i64, .list (.int .i64)], [.list (.list (.int .i64)), .int .i64], f25r⟩
theorem e25r_ok : Ent.OK Try.prog e25r := fn25r

/-! schisma/schismalaw35.distinct -/
def f22t (v0 : List (List Int)) (x : denK []) : Option (denK [.list (.list (.int .i64))]) := match x with
  | (()) =>
    askO (sortFO (t := (.int .i64)) D64 (fun x y => decide (cmpL x y < 0)) v0) fun y1 =>
    askO (f47s1f48t y1 ((), ())) fun y2 =>
    some (y2.1, ())
noncomputable def c22t : Code := bodyOf Try.f22
abbrev E22t : Env := envT [] [s44b, s47s1f48t]
theorem E22t_ok : EnvOK Try.prog E22t := envT_ok trivial ⟨s44b_ok, s47s1f48t_ok, trivial⟩
def lt22t (id : Nat) : Option LSpec := none
theorem loops22t : loopsOf c22t = [] := by kernel_rfl
theorem body22t : ∀ l x, bodyT Try.prog E22t Try.f22 (keepOf Try.f22) lt22t c22t 23 (.list (.int .i64)) [] [.list (.list (.int .i64))] l x = f22t l x := by
  rintro v0 ⟨⟨⟩⟩
  kernel_rfl
theorem fn22t : FnTake Try.prog 22 23 (.list (.int .i64)) [] [.list (.list (.int .i64))] f22t := by
  exact fun_take progOK E22t_ok Try.func22 (c := c22t) (by kernel_rfl) (keep := keepOf Try.f22) (lt := lt22t) (by rfl) (loops_ok loops22t trivial) body22t
abbrev s22t : Shr := (22, takeH 23 (.list (.int .i64)) [] [.list (.list (.int .i64))] f22t)
theorem s22t_ok : ShrOK Try.prog s22t := takeH_ok fn22t

/-! schisma/schismalaw35.rotations -/
abbrev sh35_0 : List (Nat × Kd) := [(0, .int .i64), (1, .list (.int .i64)), (5, .own 23 (.list (.int .i64))), (7, .int .i64), (8, .int .i64)]
abbrev ex35_0 : List (Ex × List (Nat × Kd)) := [(.exit 0, [(5, .own 23 (.list (.int .i64)))])]
def step35_0 (x : Shape.den sh35_0) : Option (Shape.den sh35_0 ⊕ exDen ex35_0) := match x with
  | (v0, v1, v5, v7, v8, ()) =>
    bif ltI v8 v7 then
      askO (f34 (v0, v1, v8, ())) fun y2 =>
      bif Nat.ble [y2.1].length 1048576 then bif Nat.ble v5.length 1048576 then some (.inl (v0, v1, (v5 ++ [y2.1]), v7, (wrapF .i64 (v8 + 1)), ())) else none else none
    else some (.inr ((v5, ())))
def loop35_0 (x : Shape.den sh35_0) : Option (exDen ex35_0) := loopN step35_0 (2 ^ 64) x
def f35 (x : denK [.int .i64, .list (.int .i64)]) : Option (denK [.list (.list (.int .i64))]) := match x with
  | (v0, v1, ()) =>
    askO (loop35_0 (v0, v1, [], v0, 0, ())) fun z3 =>
    askO (f22t z3.1 (())) fun y4 =>
    some (y4.1, ())
noncomputable def c35 : Code := bodyOf Try.f35
abbrev E35 : Env := envT [e34] [s22t]
theorem E35_ok : EnvOK Try.prog E35 := envT_ok ⟨e34_ok, trivial⟩ ⟨s22t_ok, trivial⟩
noncomputable def a35_0 : Code := loopAt c35 0
def lt35 (id : Nat) : Option LSpec := bif Nat.beq id 3 then some ⟨sh35_0, ex35_0, loop35_0⟩ else none
theorem round35_0 : ∀ x, roundK Try.prog E35 21 (keepOf Try.f35) lt35 a35_0 sh35_0 ex35_0 x = step35_0 x := by
  rintro ⟨v0, v1, v5, v7, v8, ⟨⟩⟩
  kernel_rfl
theorem in35_0 : loopsOf a35_0 = [] := by kernel_rfl
theorem first35_0 : firstRegion a35_0 = 3 := by kernel_rfl
theorem spec35_0 : SpecOK Try.prog 21 a35_0 ⟨sh35_0, ex35_0, loop35_0⟩ := by
  exact loop_ok E35_ok.callee progOK.mixed _ (loops_ok in35_0 trivial) round35_0
theorem loops35 : loopsOf c35 = [a35_0] := by kernel_rfl
theorem body35 : ∀ x, bodyK Try.prog E35 Try.f35 (keepOf Try.f35) lt35 c35 [.int .i64, .list (.int .i64)] [.list (.list (.int .i64))] x = f35 x := by
  rintro ⟨v0, v1, ⟨⟩⟩
  kernel_rfl
theorem fn35 : FnOK Try.prog 35 [.int .i64, .list (.int .i64)] [.list (.list (.int .i64))] f35 := by
  exact fun_ok progOK E35_ok Try.func35 (c := c35) (by kernel_rfl) (keep := keepOf Try.f35) (lt := lt35) (loops_ok loops35 ⟨spec_of first35_0 rfl spec35_0, trivial⟩) body35
abbrev e35 : Ent := ⟨35, [.int .i64, .list (.int .i64)], [.list (.list (.int .i64))], f35⟩
theorem e35_ok : Ent.OK Try.prog e35 := fn35

/-! schisma/schismalaw35.same -/
def f21 (x : denK [.list (.list (.int .i64)), .list (.list (.int .i64))]) : Option (denK [.bool]) := match x with
  | (v0, v1, ()) =>
    askO (f42s2f43 (v0, v1, (), ())) fun y1 =>
    some (y1.1, ())
noncomputable def c21 : Code := bodyOf Try.f21
abbrev E21 : Env := envOf [e42s2f43]
theorem E21_ok : EnvOK Try.prog E21 := env_ok ⟨e42s2f43_ok, trivial⟩
def lt21 (id : Nat) : Option LSpec := none
theorem loops21 : loopsOf c21 = [] := by kernel_rfl
theorem body21 : ∀ x, bodyK Try.prog E21 Try.f21 (keepOf Try.f21) lt21 c21 [.list (.list (.int .i64)), .list (.list (.int .i64))] [.bool] x = f21 x := by
  rintro ⟨v0, v1, ⟨⟩⟩
  kernel_rfl
theorem fn21 : FnOK Try.prog 21 [.list (.list (.int .i64)), .list (.list (.int .i64))] [.bool] f21 := by
  exact fun_ok progOK E21_ok Try.func21 (c := c21) (by kernel_rfl) (keep := keepOf Try.f21) (lt := lt21) (loops_ok loops21 trivial) body21
abbrev e21 : Ent := ⟨21, [.list (.list (.int .i64)), .list (.list (.int .i64))], [.bool], f21⟩
theorem e21_ok : Ent.OK Try.prog e21 := fn21

/-! schisma/evenness.All -/
def f19r (x : denK [.int .i64, .int .i64]) : Option (denK [.list (.list (.int .i64)), .int .i64]) := match x with
  | (v0, v1, ()) =>
    askO (f13 (v0, v1, 0, ())) fun y1 =>
    bif !(eqI y1.2.1 0) then
      some ([], y1.2.1, ())
    else askO (f25r (v0, y1.1, ())) fun y2 =>
    some (y2.1, y2.2.1, ())
noncomputable def c19r : Code := bodyOf Try.f19
abbrev E19r : Env := envOf [e13, e25r]
theorem E19r_ok : EnvOK Try.prog E19r := env_ok ⟨e13_ok, e25r_ok, trivial⟩
def lt19r (id : Nat) : Option LSpec := none
theorem loops19r : loopsOf c19r = [] := by kernel_rfl
theorem body19r : ∀ x, bodyK Try.prog E19r Try.f19 (keepOf Try.f19) lt19r c19r [.int .i64, .int .i64] [.list (.list (.int .i64)), .int .i64] x = f19r x := by
  rintro ⟨v0, v1, ⟨⟩⟩
  kernel_rfl
theorem fn19r : FnOK Try.prog 19 [.int .i64, .int .i64] [.list (.list (.int .i64)), .int .i64] f19r := by
  exact fun_ok progOK E19r_ok Try.func19 (c := c19r) (by kernel_rfl) (keep := keepOf Try.f19) (lt := lt19r) (loops_ok loops19r trivial) body19r
abbrev e19r : Ent := ⟨19, [.int .i64, .int .i64], [.list (.list (.int .i64)), .int .i64], f19r⟩
theorem e19r_ok : Ent.OK Try.prog e19r := fn19r

/-! schisma/schismalaw35.EvennessMoves -/
abbrev sh10_0 : List (Nat × Kd) := [(1, .int .i64), (5, .int .i64), (6, .list (.int .i64)), (7, .list (.int .i64)), (8, .int .i64), (9, .list (.list (.int .i64))), (10, .int .i64), (11, .list (.int .i64)), (12, .int .i64), (13, .list (.int .i64)), (14, .int .i64), (15, .own 3 (.int .i64)), (16, .own 3 (.int .i64)), (50, .int .i64), (51, .int .i64)]
abbrev ex10_0 : List (Ex × List (Nat × Kd)) := [(.exit 0, [(1, .int .i64), (5, .int .i64), (6, .list (.int .i64)), (7, .list (.int .i64)), (8, .int .i64), (9, .list (.list (.int .i64))), (10, .int .i64), (11, .list (.int .i64)), (12, .int .i64), (13, .list (.int .i64)), (14, .int .i64), (15, .own 3 (.int .i64)), (16, .own 3 (.int .i64))])]
def step10_0 (x : Shape.den sh10_0) : Option (Shape.den sh10_0 ⊕ exDen ex10_0) := match x with
  | (v1, v5, v6, v7, v8, v9, v10, v11, v12, v13, v14, v15, v16, v50, v51, ()) =>
    bif ltI v51 v50 then
      askO (f33 (v6, v51, ())) fun y10 =>
      bif y10.1 then
        bif eqI v5 0 then none else askO (f33 (v6, ((wrapF .i64 (v5 - v51)).tmod v5), ())) fun y11 =>
        bif y11.1 then
          bif Nat.ble [v51].length 1048576 then bif Nat.ble v16.length 1048576 then some (.inl (v1, v5, v6, v7, v8, v9, v10, v11, v12, v13, v14, v15, (v16 ++ [v51]), v50, (wrapF .i64 (v51 + 1)), ())) else none else none
        else some (.inl (v1, v5, v6, v7, v8, v9, v10, v11, v12, v13, v14, v15, v16, v50, (wrapF .i64 (v51 + 1)), ()))
      else bif Nat.ble [v51].length 1048576 then bif Nat.ble v15.length 1048576 then bif eqI v5 0 then none else askO (f33 (v6, ((wrapF .i64 (v5 - v51)).tmod v5), ())) fun y12 =>
      bif y12.1 then
        bif Nat.ble [v51].length 1048576 then bif Nat.ble v16.length 1048576 then some (.inl (v1, v5, v6, v7, v8, v9, v10, v11, v12, v13, v14, (v15 ++ [v51]), (v16 ++ [v51]), v50, (wrapF .i64 (v51 + 1)), ())) else none else none
      else some (.inl (v1, v5, v6, v7, v8, v9, v10, v11, v12, v13, v14, (v15 ++ [v51]), v16, v50, (wrapF .i64 (v51 + 1)), ())) else none else none
    else some (.inr ((v1, v5, v6, v7, v8, v9, v10, v11, v12, v13, v14, v15, v16, ())))
def loop10_0 (x : Shape.den sh10_0) : Option (exDen ex10_0) := loopN step10_0 (2 ^ 64) x
def f10 (x : denK [.agg (.prod (.int .u8) (.int .u16)), .int .i64]) : Option (denK [.bool]) := match x with
  | (v0, v1, ()) =>
    askO (f12 (())) fun y1 =>
    bif y1.1 then
      askO (f17 ((v0.1, v0.2), ())) fun y2 =>
      askO (f23 (y2.1, y2.2.1, v1, ())) fun y3 =>
      askO (f25r (y2.1, y2.2.1, ())) fun y4 =>
      askO (f26 (y2.1, y2.2.1, ())) fun y5 =>
      askO (f24 (y2.1, y2.2.1, ())) fun y6 =>
      askO (loop10_0 (v1, y2.1, y2.2.1, y3.1, y3.2.1, y4.1, y4.2.1, y5.1, y5.2.1, y6.1, y6.2.1, [], [], y2.1, 0, ())) fun z13 =>
      bif !(eqI z13.2.2.2.2.1 0) then
        some (false, ())
      else bif !(eqI z13.2.2.2.2.2.2.1 0) then
        some (false, ())
      else bif !(eqI z13.2.2.2.2.2.2.2.2.2.2.1 0) then
        some (false, ())
      else askO (f34 (z13.2.1, z13.2.2.1, z13.1, ())) fun y14 =>
      askO (f14 (z13.2.2.2.1, y14.1, ())) fun y15 =>
      bif y15.1 then
        askO (f35 (z13.2.1, z13.2.2.1, ())) fun y16 =>
        askO (f21 (z13.2.2.2.2.2.1, y16.1, ())) fun y17 =>
        bif y17.1 then
          askO (f14 (z13.2.2.2.2.2.2.2.2.2.1, z13.2.2.2.2.2.2.2.2.2.2.2.2.1, ())) fun y18 =>
          bif y18.1 then
            bif eqI (z13.2.2.2.2.2.2.2.2.2.2.2.1.length : Int) 0 then
              bif eqI z13.2.2.2.2.2.2.2.2.1 13 then
                some (eqI (z13.2.2.2.2.2.2.2.1.length : Int) 0, ())
              else some (false, ())
            else bif eqI z13.2.2.2.2.2.2.2.2.1 0 then
              askO (f14 (z13.2.2.2.2.2.2.2.1, z13.2.2.2.2.2.2.2.2.2.2.2.1, ())) fun y19 =>
              some (y19.1, ())
            else some (false, ())
          else some (false, ())
        else some (false, ())
      else some (false, ())
    else some (false, ())
noncomputable def c10 : Code := bodyOf Try.f10
abbrev E10 : Env := envOf [e12, e14, e17, e21, e23, e24, e25r, e26, e33, e34, e35]
theorem E10_ok : EnvOK Try.prog E10 := env_ok ⟨e12_ok, e14_ok, e17_ok, e21_ok, e23_ok, e24_ok, e25r_ok, e26_ok, e33_ok, e34_ok, e35_ok, trivial⟩
noncomputable def a10_0 : Code := loopAt c10 0
def lt10 (id : Nat) : Option LSpec := bif Nat.beq id 10 then some ⟨sh10_0, ex10_0, loop10_0⟩ else none
theorem round10_0 : ∀ x, roundK Try.prog E10 124 (keepOf Try.f10) lt10 a10_0 sh10_0 ex10_0 x = step10_0 x := by
  rintro ⟨v1, v5, v6, v7, v8, v9, v10, v11, v12, v13, v14, v15, v16, v50, v51, ⟨⟩⟩
  kernel_rfl
theorem in10_0 : loopsOf a10_0 = [] := by kernel_rfl
theorem first10_0 : firstRegion a10_0 = 10 := by kernel_rfl
theorem spec10_0 : SpecOK Try.prog 124 a10_0 ⟨sh10_0, ex10_0, loop10_0⟩ := by
  exact loop_ok E10_ok.callee progOK.mixed _ (loops_ok in10_0 trivial) round10_0
theorem loops10 : loopsOf c10 = [a10_0] := by kernel_rfl
theorem body10 : ∀ x, bodyK Try.prog E10 Try.f10 (keepOf Try.f10) lt10 c10 [.agg (.prod (.int .u8) (.int .u16)), .int .i64] [.bool] x = f10 x := by
  rintro ⟨v0, v1, ⟨⟩⟩
  kernel_rfl
theorem fn10 : FnOK Try.prog 10 [.agg (.prod (.int .u8) (.int .u16)), .int .i64] [.bool] f10 := by
  exact fun_ok progOK E10_ok Try.func10 (c := c10) (by kernel_rfl) (keep := keepOf Try.f10) (lt := lt10) (loops_ok loops10 ⟨spec_of first10_0 rfl spec10_0, trivial⟩) body10
abbrev e10 : Ent := ⟨10, [.agg (.prod (.int .u8) (.int .u16)), .int .i64], [.bool], f10⟩
theorem e10_ok : Ent.OK Try.prog e10 := fn10
end Go.PM
