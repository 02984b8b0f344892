/- The functions of chapter 35 on lists of sets, by open runs (printed by wip/tools/dc.py): comparing, compacting. -/
import Derived.Test.YtdlckpedbmjnnaaEvF
import Derived.Test.YtdlckpedbmjnnaaPnX
set_option linter.unusedSimpArgs false
set_option linter.unusedVariables false
namespace Go.PM
open Go Go.RowKit Go.Proofs
set_option maxRecDepth 100000
/-! cmp.isNaN[int] -/
def f77 (x : denK [.int .i64]) : Option (denK [.bool]) := match x with
  | (v0, ()) =>
    some (!(eqI v0 v0), ())
noncomputable def c77 : Code := bodyOf Try.f77
abbrev E77 : Env := envOf []
theorem E77_ok : EnvOK Try.prog E77 := env_ok trivial
def lt77 (id : Nat) : Option LSpec := none
theorem loops77 : loopsOf c77 = [] := by kernel_rfl
theorem body77 : ∀ x, bodyK Try.prog E77 Try.f77 (keepOf Try.f77) lt77 c77 [.int .i64] [.bool] x = f77 x := by
  rintro ⟨v0, ⟨⟩⟩
  kernel_rfl
theorem fn77 : FnOK Try.prog 77 [.int .i64] [.bool] f77 := by
  exact fun_ok progOK E77_ok Try.func77 (c := c77) (by kernel_rfl) (keep := keepOf Try.f77) (lt := lt77) (loops_ok loops77 trivial) body77
abbrev e77 : Ent := ⟨77, [.int .i64], [.bool], f77⟩
theorem e77_ok : Ent.OK Try.prog e77 := fn77

/-! cmp.Compare[int] -/
def f57 (x : denK [.int .i64, .int .i64]) : Option (denK [.int .i64]) := match x with
  | (v0, v1, ()) =>
    askO (f77 (v0, ())) fun y1 =>
    askO (f77 (v1, ())) fun y2 =>
    bif y1.1 then
      bif y2.1 then
        some (0, ())
      else some ((-1), ())
    else bif y2.1 then
      some (1, ())
    else bif ltI v0 v1 then
      some ((-1), ())
    else bif ltI v1 v0 then
      some (1, ())
    else some (0, ())
noncomputable def c57 : Code := bodyOf Try.f57
abbrev E57 : Env := envOf [e77]
theorem E57_ok : EnvOK Try.prog E57 := env_ok ⟨e77_ok, trivial⟩
def lt57 (id : Nat) : Option LSpec := none
theorem loops57 : loopsOf c57 = [] := by kernel_rfl
theorem body57 : ∀ x, bodyK Try.prog E57 Try.f57 (keepOf Try.f57) lt57 c57 [.int .i64, .int .i64] [.int .i64] x = f57 x := by
  rintro ⟨v0, v1, ⟨⟩⟩
  kernel_rfl
theorem fn57 : FnOK Try.prog 57 [.int .i64, .int .i64] [.int .i64] f57 := by
  exact fun_ok progOK E57_ok Try.func57 (c := c57) (by kernel_rfl) (keep := keepOf Try.f57) (lt := lt57) (loops_ok loops57 trivial) body57
abbrev e57 : Ent := ⟨57, [.int .i64, .int .i64], [.int .i64], f57⟩
theorem e57_ok : Ent.OK Try.prog e57 := fn57

/-! slices.Compare[[]int,int] -/
abbrev sh46_0 : List (Nat × Kd) := [(0, .list (.int .i64)), (1, .list (.int .i64)), (9, .list (.int .i64)), (10, .int .i64), (11, .int .i64)]
abbrev ex46_0 : List (Ex × List (Nat × Kd)) := [(.ret, [(4, .int .i64)]), (.exit 0, [(0, .list (.int .i64)), (1, .list (.int .i64))])]
def step46_0 (x : Shape.den sh46_0) : Option (Shape.den sh46_0 ⊕ exDen ex46_0) := match x with
  | (v0, v1, v9, v10, v11, ()) =>
    bif ltI v11 v10 then
      bif idxOk v11 v9.length then bif !(ltI v11 (v1.length : Int)) then
        some (.inr (.inl (1, ())))
      else bif idxOk v11 v1.length then askO (f57 ((v9.getD v11.toNat 0), (v1.getD v11.toNat 0), ())) fun y2 =>
      bif !(eqI y2.1 0) then
        some (.inr (.inl (y2.1, ())))
      else some (.inl (v0, v1, v9, v10, (wrapF .i64 (v11 + 1)), ())) else none else none
    else some (.inr (.inr ((v0, v1, ()))))
def loop46_0 (x : Shape.den sh46_0) : Option (exDen ex46_0) := loopN step46_0 (2 ^ 64) x
def f46 (x : denK [.list (.int .i64), .list (.int .i64)]) : Option (denK [.int .i64]) := match x with
  | (v0, v1, ()) =>
    askO (loop46_0 (v0, v1, v0, (v0.length : Int), 0, ())) fun z3 =>
    onSum z3 (fun a4 => some (a4.1, ())) fun b5 =>
    bif ltI (b5.1.length : Int) (b5.2.1.length : Int) then
      some ((-1), ())
    else some (0, ())
noncomputable def c46 : Code := bodyOf Try.f46
abbrev E46 : Env := envOf [e57]
theorem E46_ok : EnvOK Try.prog E46 := env_ok ⟨e57_ok, trivial⟩
noncomputable def a46_0 : Code := loopAt c46 0
def lt46 (id : Nat) : Option LSpec := bif Nat.beq id 2 then some ⟨sh46_0, ex46_0, loop46_0⟩ else none
theorem round46_0 : ∀ x, roundK Try.prog E46 36 (keepOf Try.f46) lt46 a46_0 sh46_0 ex46_0 x = step46_0 x := by
  rintro ⟨v0, v1, v9, v10, v11, ⟨⟩⟩
  kernel_rfl
theorem in46_0 : loopsOf a46_0 = [] := by kernel_rfl
theorem first46_0 : firstRegion a46_0 = 2 := by kernel_rfl
theorem spec46_0 : SpecOK Try.prog 36 a46_0 ⟨sh46_0, ex46_0, loop46_0⟩ := by
  exact loop_ok E46_ok.callee progOK.mixed _ (loops_ok in46_0 trivial) round46_0
theorem loops46 : loopsOf c46 = [a46_0] := by kernel_rfl
theorem body46 : ∀ x, bodyK Try.prog E46 Try.f46 (keepOf Try.f46) lt46 c46 [.list (.int .i64), .list (.int .i64)] [.int .i64] x = f46 x := by
  rintro ⟨v0, v1, ⟨⟩⟩
  kernel_rfl
theorem fn46 : FnOK Try.prog 46 [.list (.int .i64), .list (.int .i64)] [.int .i64] f46 := by
  exact fun_ok progOK E46_ok Try.func46 (c := c46) (by kernel_rfl) (keep := keepOf Try.f46) (lt := lt46) (loops_ok loops46 ⟨spec_of first46_0 rfl spec46_0, trivial⟩) body46
abbrev e46 : Ent := ⟨46, [.list (.int .i64), .list (.int .i64)], [.int .i64], f46⟩
theorem e46_ok : Ent.OK Try.prog e46 := fn46

/-! schisma/schismalaw35.distinct$1 -/
def f45 (x : denK [.list (.int .i64), .list (.int .i64)]) : Option (denK [.int .i64]) := match x with
  | (v0, v1, ()) =>
    askO (f46 (v0, v1, ())) fun y1 =>
    some (y1.1, ())
noncomputable def c45 : Code := bodyOf Try.f45
abbrev E45 : Env := envOf [e46]
theorem E45_ok : EnvOK Try.prog E45 := env_ok ⟨e46_ok, trivial⟩
def lt45 (id : Nat) : Option LSpec := none
theorem loops45 : loopsOf c45 = [] := by kernel_rfl
theorem body45 : ∀ x, bodyK Try.prog E45 Try.f45 (keepOf Try.f45) lt45 c45 [.list (.int .i64), .list (.int .i64)] [.int .i64] x = f45 x := by
  rintro ⟨v0, v1, ⟨⟩⟩
  kernel_rfl
theorem fn45 : FnOK Try.prog 45 [.list (.int .i64), .list (.int .i64)] [.int .i64] f45 := by
  exact fun_ok progOK E45_ok Try.func45 (c := c45) (by kernel_rfl) (keep := keepOf Try.f45) (lt := lt45) (loops_ok loops45 trivial) body45
abbrev e45 : Ent := ⟨45, [.list (.int .i64), .list (.int .i64)], [.int .i64], f45⟩
theorem e45_ok : Ent.OK Try.prog e45 := fn45

/-! schisma/schismalaw35.same$1 -/
def f43 (x : denK [.list (.int .i64), .list (.int .i64)]) : Option (denK [.bool]) := match x with
  | (v0, v1, ()) =>
    askO (f14 (v0, v1, ())) fun y1 =>
    some (y1.1, ())
noncomputable def c43 : Code := bodyOf Try.f43
abbrev E43 : Env := envOf [e14]
theorem E43_ok : EnvOK Try.prog E43 := env_ok ⟨e14_ok, trivial⟩
def lt43 (id : Nat) : Option LSpec := none
theorem loops43 : loopsOf c43 = [] := by kernel_rfl
theorem body43 : ∀ x, bodyK Try.prog E43 Try.f43 (keepOf Try.f43) lt43 c43 [.list (.int .i64), .list (.int .i64)] [.bool] x = f43 x := by
  rintro ⟨v0, v1, ⟨⟩⟩
  kernel_rfl
theorem fn43 : FnOK Try.prog 43 [.list (.int .i64), .list (.int .i64)] [.bool] f43 := by
  exact fun_ok progOK E43_ok Try.func43 (c := c43) (by kernel_rfl) (keep := keepOf Try.f43) (lt := lt43) (loops_ok loops43 trivial) body43
abbrev e43 : Ent := ⟨43, [.list (.int .i64), .list (.int .i64)], [.bool], f43⟩
theorem e43_ok : Ent.OK Try.prog e43 := fn43

/-! schisma/schismalaw35.distinct$2 -/
def f48 (x : denK [.list (.int .i64), .list (.int .i64)]) : Option (denK [.bool]) := match x with
  | (v0, v1, ()) =>
    askO (f14 (v0, v1, ())) fun y1 =>
    some (y1.1, ())
noncomputable def c48 : Code := bodyOf Try.f48
abbrev E48 : Env := envOf [e14]
theorem E48_ok : EnvOK Try.prog E48 := env_ok ⟨e14_ok, trivial⟩
def lt48 (id : Nat) : Option LSpec := none
theorem loops48 : loopsOf c48 = [] := by kernel_rfl
theorem body48 : ∀ x, bodyK Try.prog E48 Try.f48 (keepOf Try.f48) lt48 c48 [.list (.int .i64), .list (.int .i64)] [.bool] x = f48 x := by
  rintro ⟨v0, v1, ⟨⟩⟩
  kernel_rfl
theorem fn48 : FnOK Try.prog 48 [.list (.int .i64), .list (.int .i64)] [.bool] f48 := by
  exact fun_ok progOK E48_ok Try.func48 (c := c48) (by kernel_rfl) (keep := keepOf Try.f48) (lt := lt48) (loops_ok loops48 trivial) body48
abbrev e48 : Ent := ⟨48, [.list (.int .i64), .list (.int .i64)], [.bool], f48⟩
theorem e48_ok : Ent.OK Try.prog e48 := fn48

/-! slices.EqualFunc[[][]int,[][]int,[]int,[]int] -/
abbrev sh42s2f43_0 : List (Nat × Kd) := [(1, .list (.list (.int .i64))), (2, .fn 43), (15, .list (.list (.int .i64))), (16, .int .i64), (17, .int .i64)]
abbrev ex42s2f43_0 : List (Ex × List (Nat × Kd)) := [(.ret, [(6, .bool)]), (.exit 0, [])]
def step42s2f43_0 (x : Shape.den sh42s2f43_0) : Option (Shape.den sh42s2f43_0 ⊕ exDen ex42s2f43_0) := match x with
  | (v1, v2, v15, v16, v17, ()) =>
    bif ltI v17 v16 then
      bif idxOk v17 v15.length then bif idxOk v17 v1.length then askO (f43 ((v15.getD v17.toNat []), (v1.getD v17.toNat []), ())) fun y2 =>
      bif y2.1 then
        some (.inl (v1, (), v15, v16, (wrapF .i64 (v17 + 1)), ()))
      else some (.inr (.inl (false, ()))) else none else none
    else some (.inr (.inr ((()))))
def loop42s2f43_0 (x : Shape.den sh42s2f43_0) : Option (exDen ex42s2f43_0) := loopN step42s2f43_0 (2 ^ 64) x
def f42s2f43 (x : denK [.list (.list (.int .i64)), .list (.list (.int .i64)), .fn 43]) : Option (denK [.bool]) := match x with
  | (v0, v1, v2, ()) =>
    bif !(eqI (v0.length : Int) (v1.length : Int)) then
      some (false, ())
    else askO (loop42s2f43_0 (v1, (), v0, (v0.length : Int), 0, ())) fun z3 =>
    onSum z3 (fun a4 => some (a4.1, ())) fun b5 =>
    some (true, ())
noncomputable def c42s2f43 : Code := bodyOf Try.f42
abbrev E42s2f43 : Env := envOf [e43]
theorem E42s2f43_ok : EnvOK Try.prog E42s2f43 := env_ok ⟨e43_ok, trivial⟩
noncomputable def a42s2f43_0 : Code := loopAt c42s2f43 0
def lt42s2f43 (id : Nat) : Option LSpec := bif Nat.beq id 4 then some ⟨sh42s2f43_0, ex42s2f43_0, loop42s2f43_0⟩ else none
theorem round42s2f43_0 : ∀ x, roundK Try.prog E42s2f43 32 (keepOf Try.f42) lt42s2f43 a42s2f43_0 sh42s2f43_0 ex42s2f43_0 x = step42s2f43_0 x := by
  rintro ⟨v1, v2, v15, v16, v17, ⟨⟩⟩
  kernel_rfl
theorem in42s2f43_0 : loopsOf a42s2f43_0 = [] := by kernel_rfl
theorem first42s2f43_0 : firstRegion a42s2f43_0 = 4 := by kernel_rfl
theorem spec42s2f43_0 : SpecOK Try.prog 32 a42s2f43_0 ⟨sh42s2f43_0, ex42s2f43_0, loop42s2f43_0⟩ := by
  exact loop_ok E42s2f43_ok.callee progOK.mixed _ (loops_ok in42s2f43_0 trivial) round42s2f43_0
theorem loops42s2f43 : loopsOf c42s2f43 = [a42s2f43_0] := by kernel_rfl
theorem body42s2f43 : ∀ x, bodyK Try.prog E42s2f43 Try.f42 (keepOf Try.f42) lt42s2f43 c42s2f43 [.list (.list (.int .i64)), .list (.list (.int .i64)), .fn 43] [.bool] x = f42s2f43 x := by
  rintro ⟨v0, v1, v2, ⟨⟩⟩
  kernel_rfl
theorem fn42s2f43 : FnOK Try.prog 42 [.list (.list (.int .i64)), .list (.list (.int .i64)), .fn 43] [.bool] f42s2f43 := by
  exact fun_ok progOK E42s2f43_ok Try.func42 (c := c42s2f43) (by kernel_rfl) (keep := keepOf Try.f42) (lt := lt42s2f43) (loops_ok loops42s2f43 ⟨spec_of first42s2f43_0 rfl spec42s2f43_0, trivial⟩) body42s2f43
abbrev e42s2f43 : Ent := ⟨42, [.list (.list (.int .i64)), .list (.list (.int .i64)), .fn 43], [.bool], f42s2f43⟩
theorem e42s2f43_ok : Ent.OK Try.prog e42s2f43 := fn42s2f43

/-! slices.CompactFunc[[][]int,[]int] -/
abbrev sh47s1f14t_0 : List (Nat × Kd) := [(0, .own 23 (.list (.int .i64))), (1, .fn 14), (5, .int .i64), (6, .win 0 1), (7, .int .i64)]
abbrev ex47s1f14t_0 : List (Ex × List (Nat × Kd)) := [(.exit 2, [(0, .own 23 (.list (.int .i64))), (5, .int .i64)])]
def step47s1f14t_0 (x : Shape.den sh47s1f14t_0) : Option (Shape.den sh47s1f14t_0 ⊕ exDen ex47s1f14t_0) := match x with
  | (v0, v1, v5, v6, v7, ()) =>
    bif ltI v7 ((v6.2 : Nat) : Int) then
      bif idxOk v7 v6.2 then bif Nat.blt (v6.1 + v7.toNat) v0.length then bif idxOk (wrapF .i64 (v7 - 1)) v6.2 then bif Nat.blt (v6.1 + (wrapF .i64 (v7 - 1)).toNat) v0.length then askO (f14 ((v0.getD (v6.1 + v7.toNat) []), (v0.getD (v6.1 + (wrapF .i64 (v7 - 1)).toNat) []), ())) fun y3 =>
      bif y3.1 then
        some (.inl (v0, (), v5, (v6.1, v6.2), (wrapF .i64 (v7 + 1)), ()))
      else bif idxOk v7 v6.2 then bif Nat.blt (v6.1 + v7.toNat) v0.length then bif idxOk v5 v0.length then bif Nat.blt v5.toNat v0.length then some (.inl ((v0.set v5.toNat (v0.getD (v6.1 + v7.toNat) [])), (), (wrapF .i64 (v5 + 1)), (v6.1, v6.2), (wrapF .i64 (v7 + 1)), ())) else none else none else none else none else none else none else none else none
    else some (.inr ((v0, v5, ())))
def loop47s1f14t_0 (x : Shape.den sh47s1f14t_0) : Option (exDen ex47s1f14t_0) := loopN step47s1f14t_0 (2 ^ 64) x
abbrev sh47s1f14t_1 : List (Nat × Kd) := [(0, .own 23 (.list (.int .i64))), (1, .fn 14), (5, .int .i64)]
abbrev ex47s1f14t_1 : List (Ex × List (Nat × Kd)) := [(.ret, [(0, .own 23 (.list (.int .i64))), (4, .win 0 1)]), (.exit 0, [(0, .own 23 (.list (.int .i64)))])]
def step47s1f14t_1 (x : Shape.den sh47s1f14t_1) : Option (Shape.den sh47s1f14t_1 ⊕ exDen ex47s1f14t_1) := match x with
  | (v0, v1, v5, ()) =>
    bif ltI v5 (v0.length : Int) then
      bif idxOk v5 v0.length then bif Nat.blt v5.toNat v0.length then bif idxOk (wrapF .i64 (v5 - 1)) v0.length then bif Nat.blt ((wrapF .i64 (v5 - 1)).toNat) v0.length then askO (f14 ((v0.getD v5.toNat []), (v0.getD ((wrapF .i64 (v5 - 1)).toNat) []), ())) fun y5 =>
      bif y5.1 then
        bif !(ltI v5 0) then bif Nat.ble v5.toNat v0.length then bif Nat.ble v0.length v0.length then bif Nat.blt v5.toNat v0.length then askO (loop47s1f14t_0 (v0, (), v5, (v5.toNat, (v0.length - v5.toNat)), 1, ())) fun z6 =>
        bif !(ltI z6.2.1 0) then bif Nat.ble z6.2.1.toNat z6.1.length then bif Nat.ble z6.1.length z6.1.length then bif Nat.blt z6.2.1.toNat z6.1.length then bif Nat.ble (z6.2.1.toNat + (z6.1.length - z6.2.1.toNat)) z6.1.length then bif !(ltI z6.2.1 0) then bif Nat.ble 0 z6.2.1.toNat then bif Nat.ble z6.2.1.toNat ((clr z6.1 z6.2.1.toNat (z6.1.length - z6.2.1.toNat) []).length) then bif Nat.blt 0 ((clr z6.1 z6.2.1.toNat (z6.1.length - z6.2.1.toNat) []).length) then some (.inr (.inl ((clr z6.1 z6.2.1.toNat (z6.1.length - z6.2.1.toNat) []), (0, (z6.2.1.toNat - 0)), ()))) else none else none else none else none else none else none else none else none else none else none else none else none else none
      else some (.inl (v0, (), (wrapF .i64 (v5 + 1)), ())) else none else none else none else none
    else some (.inr (.inr ((v0, ()))))
def loop47s1f14t_1 (x : Shape.den sh47s1f14t_1) : Option (exDen ex47s1f14t_1) := loopN step47s1f14t_1 (2 ^ 64) x
def f47s1f14t (v0 : List (List Int)) (x : denK [.fn 14]) : Option (denK [.list (.list (.int .i64))]) := match x with
  | (v1, ()) =>
    bif ltI (v0.length : Int) 2 then
      some (v0, ())
    else askO (loop47s1f14t_1 (v0, (), 1, ())) fun z7 =>
    onSum z7 (fun a8 => some (((a8.1.drop a8.2.1.1).take a8.2.1.2), ())) fun b9 =>
    some (b9.1, ())
noncomputable def c47s1f14t : Code := bodyOf Try.f47
abbrev E47s1f14t : Env := envOf [e14]
theorem E47s1f14t_ok : EnvOK Try.prog E47s1f14t := env_ok ⟨e14_ok, trivial⟩
noncomputable def a47s1f14t_1 : Code := loopAt c47s1f14t 0
noncomputable def a47s1f14t_0 : Code := loopAt a47s1f14t_1 0
def lt47s1f14t (id : Nat) : Option LSpec := bif Nat.beq id 9 then some ⟨sh47s1f14t_0, ex47s1f14t_0, loop47s1f14t_0⟩ else bif Nat.beq id 4 then some ⟨sh47s1f14t_1, ex47s1f14t_1, loop47s1f14t_1⟩ else none
theorem round47s1f14t_0 : ∀ x, roundK Try.prog E47s1f14t 66 (keepOf Try.f47) lt47s1f14t a47s1f14t_0 sh47s1f14t_0 ex47s1f14t_0 x = step47s1f14t_0 x := by
  rintro ⟨v0, v1, v5, v6, v7, ⟨⟩⟩
  kernel_rfl
theorem in47s1f14t_0 : loopsOf a47s1f14t_0 = [] := by kernel_rfl
theorem first47s1f14t_0 : firstRegion a47s1f14t_0 = 9 := by kernel_rfl
theorem spec47s1f14t_0 : SpecOK Try.prog 66 a47s1f14t_0 ⟨sh47s1f14t_0, ex47s1f14t_0, loop47s1f14t_0⟩ := by
  exact loop_ok E47s1f14t_ok.callee progOK.mixed _ (loops_ok in47s1f14t_0 trivial) round47s1f14t_0
theorem round47s1f14t_1 : ∀ x, roundK Try.prog E47s1f14t 66 (keepOf Try.f47) lt47s1f14t a47s1f14t_1 sh47s1f14t_1 ex47s1f14t_1 x = step47s1f14t_1 x := by
  rintro ⟨v0, v1, v5, ⟨⟩⟩
  kernel_rfl
theorem in47s1f14t_1 : loopsOf a47s1f14t_1 = [a47s1f14t_0] := by kernel_rfl
theorem first47s1f14t_1 : firstRegion a47s1f14t_1 = 4 := by kernel_rfl
theorem spec47s1f14t_1 : SpecOK Try.prog 66 a47s1f14t_1 ⟨sh47s1f14t_1, ex47s1f14t_1, loop47s1f14t_1⟩ := by
  exact loop_ok E47s1f14t_ok.callee progOK.mixed _ (loops_ok in47s1f14t_1 ⟨spec_of first47s1f14t_0 rfl spec47s1f14t_0, trivial⟩) round47s1f14t_1
theorem loops47s1f14t : loopsOf c47s1f14t = [a47s1f14t_1] := by kernel_rfl
theorem body47s1f14t : ∀ l x, bodyT Try.prog E47s1f14t Try.f47 (keepOf Try.f47) lt47s1f14t c47s1f14t 23 (.list (.int .i64)) [.fn 14] [.list (.list (.int .i64))] l x = f47s1f14t l x := by
  rintro v0 ⟨v1, ⟨⟩⟩
  kernel_rfl
theorem fn47s1f14t : FnTake Try.prog 47 23 (.list (.int .i64)) [.fn 14] [.list (.list (.int .i64))] f47s1f14t := by
  exact fun_take progOK E47s1f14t_ok Try.func47 (c := c47s1f14t) (by kernel_rfl) (keep := keepOf Try.f47) (lt := lt47s1f14t) (by rfl) (loops_ok loops47s1f14t ⟨spec_of first47s1f14t_1 rfl spec47s1f14t_1, trivial⟩) body47s1f14t
abbrev s47s1f14t : Shr := (47, takeH 23 (.list (.int .i64)) [.fn 14] [.list (.list (.int .i64))] f47s1f14t)
theorem s47s1f14t_ok : ShrOK Try.prog s47s1f14t := takeH_ok fn47s1f14t

/-! slices.CompactFunc[[][]int,[]int] -/
abbrev sh47s1f48t_0 : List (Nat × Kd) := [(0, .own 23 (.list (.int .i64))), (1, .fn 48), (5, .int .i64), (6, .win 0 1), (7, .int .i64)]
abbrev ex47s1f48t_0 : List (Ex × List (Nat × Kd)) := [(.exit 2, [(0, .own 23 (.list (.int .i64))), (5, .int .i64)])]
def step47s1f48t_0 (x : Shape.den sh47s1f48t_0) : Option (Shape.den sh47s1f48t_0 ⊕ exDen ex47s1f48t_0) := match x with
  | (v0, v1, v5, v6, v7, ()) =>
    bif ltI v7 ((v6.2 : Nat) : Int) then
      bif idxOk v7 v6.2 then bif Nat.blt (v6.1 + v7.toNat) v0.length then bif idxOk (wrapF .i64 (v7 - 1)) v6.2 then bif Nat.blt (v6.1 + (wrapF .i64 (v7 - 1)).toNat) v0.length then askO (f48 ((v0.getD (v6.1 + v7.toNat) []), (v0.getD (v6.1 + (wrapF .i64 (v7 - 1)).toNat) []), ())) fun y3 =>
      bif y3.1 then
        some (.inl (v0, (), v5, (v6.1, v6.2), (wrapF .i64 (v7 + 1)), ()))
      else bif idxOk v7 v6.2 then bif Nat.blt (v6.1 + v7.toNat) v0.length then bif idxOk v5 v0.length then bif Nat.blt v5.toNat v0.length then some (.inl ((v0.set v5.toNat (v0.getD (v6.1 + v7.toNat) [])), (), (wrapF .i64 (v5 + 1)), (v6.1, v6.2), (wrapF .i64 (v7 + 1)), ())) else none else none else none else none else none else none else none else none
    else some (.inr ((v0, v5, ())))
def loop47s1f48t_0 (x : Shape.den sh47s1f48t_0) : Option (exDen ex47s1f48t_0) := loopN step47s1f48t_0 (2 ^ 64) x
abbrev sh47s1f48t_1 : List (Nat × Kd) := [(0, .own 23 (.list (.int .i64))), (1, .fn 48), (5, .int .i64)]
abbrev ex47s1f48t_1 : List (Ex × List (Nat × Kd)) := [(.ret, [(0, .own 23 (.list (.int .i64))), (4, .win 0 1)]), (.exit 0, [(0, .own 23 (.list (.int .i64)))])]
def step47s1f48t_1 (x : Shape.den sh47s1f48t_1) : Option (Shape.den sh47s1f48t_1 ⊕ exDen ex47s1f48t_1) := match x with
  | (v0, v1, v5, ()) =>
    bif ltI v5 (v0.length : Int) then
      bif idxOk v5 v0.length then bif Nat.blt v5.toNat v0.length then bif idxOk (wrapF .i64 (v5 - 1)) v0.length then bif Nat.blt ((wrapF .i64 (v5 - 1)).toNat) v0.length then askO (f48 ((v0.getD v5.toNat []), (v0.getD ((wrapF .i64 (v5 - 1)).toNat) []), ())) fun y5 =>
      bif y5.1 then
        bif !(ltI v5 0) then bif Nat.ble v5.toNat v0.length then bif Nat.ble v0.length v0.length then bif Nat.blt v5.toNat v0.length then askO (loop47s1f48t_0 (v0, (), v5, (v5.toNat, (v0.length - v5.toNat)), 1, ())) fun z6 =>
        bif !(ltI z6.2.1 0) then bif Nat.ble z6.2.1.toNat z6.1.length then bif Nat.ble z6.1.length z6.1.length then bif Nat.blt z6.2.1.toNat z6.1.length then bif Nat.ble (z6.2.1.toNat + (z6.1.length - z6.2.1.toNat)) z6.1.length then bif !(ltI z6.2.1 0) then bif Nat.ble 0 z6.2.1.toNat then bif Nat.ble z6.2.1.toNat ((clr z6.1 z6.2.1.toNat (z6.1.length - z6.2.1.toNat) []).length) then bif Nat.blt 0 ((clr z6.1 z6.2.1.toNat (z6.1.length - z6.2.1.toNat) []).length) then some (.inr (.inl ((clr z6.1 z6.2.1.toNat (z6.1.length - z6.2.1.toNat) []), (0, (z6.2.1.toNat - 0)), ()))) else none else none else none else none else none else none else none else none else none else none else none else none else none
      else some (.inl (v0, (), (wrapF .i64 (v5 + 1)), ())) else none else none else none else none
    else some (.inr (.inr ((v0, ()))))
def loop47s1f48t_1 (x : Shape.den sh47s1f48t_1) : Option (exDen ex47s1f48t_1) := loopN step47s1f48t_1 (2 ^ 64) x
def f47s1f48t (v0 : List (List Int)) (x : denK [.fn 48]) : Option (denK [.list (.list (.int .i64))]) := match x with
  | (v1, ()) =>
    bif ltI (v0.length : Int) 2 then
      some (v0, ())
    else askO (loop47s1f48t_1 (v0, (), 1, ())) fun z7 =>
    onSum z7 (fun a8 => some (((a8.1.drop a8.2.1.1).take a8.2.1.2), ())) fun b9 =>
    some (b9.1, ())
noncomputable def c47s1f48t : Code := bodyOf Try.f47
abbrev E47s1f48t : Env := envOf [e48]
theorem E47s1f48t_ok : EnvOK Try.prog E47s1f48t := env_ok ⟨e48_ok, trivial⟩
noncomputable def a47s1f48t_1 : Code := loopAt c47s1f48t 0
noncomputable def a47s1f48t_0 : Code := loopAt a47s1f48t_1 0
def lt47s1f48t (id : Nat) : Option LSpec := bif Nat.beq id 9 then some ⟨sh47s1f48t_0, ex47s1f48t_0, loop47s1f48t_0⟩ else bif Nat.beq id 4 then some ⟨sh47s1f48t_1, ex47s1f48t_1, loop47s1f48t_1⟩ else none
theorem round47s1f48t_0 : ∀ x, roundK Try.prog E47s1f48t 66 (keepOf Try.f47) lt47s1f48t a47s1f48t_0 sh47s1f48t_0 ex47s1f48t_0 x = step47s1f48t_0 x := by
  rintro ⟨v0, v1, v5, v6, v7, ⟨⟩⟩
  kernel_rfl
theorem in47s1f48t_0 : loopsOf a47s1f48t_0 = [] := by kernel_rfl
theorem first47s1f48t_0 : firstRegion a47s1f48t_0 = 9 := by kernel_rfl
theorem spec47s1f48t_0 : SpecOK Try.prog 66 a47s1f48t_0 ⟨sh47s1f48t_0, ex47s1f48t_0, loop47s1f48t_0⟩ := by
  exact loop_ok E47s1f48t_ok.callee progOK.mixed _ (loops_ok in47s1f48t_0 trivial) round47s1f48t_0
theorem round47s1f48t_1 : ∀ x, roundK Try.prog E47s1f48t 66 (keepOf Try.f47) lt47s1f48t a47s1f48t_1 sh47s1f48t_1 ex47s1f48t_1 x = step47s1f48t_1 x := by
  rintro ⟨v0, v1, v5, ⟨⟩⟩
  kernel_rfl
theorem in47s1f48t_1 : loopsOf a47s1f48t_1 = [a47s1f48t_0] := by kernel_rfl
theorem first47s1f48t_1 : firstRegion a47s1f48t_1 = 4 := by kernel_rfl
theorem spec47s1f48t_1 : SpecOK Try.prog 66 a47s1f48t_1 ⟨sh47s1f48t_1, ex47s1f48t_1, loop47s1f48t_1⟩ := by
  exact loop_ok E47s1f48t_ok.callee progOK.mixed _ (loops_ok in47s1f48t_1 ⟨spec_of first47s1f48t_0 rfl spec47s1f48t_0, trivial⟩) round47s1f48t_1
theorem loops47s1f48t : loopsOf c47s1f48t = [a47s1f48t_1] := by kernel_rfl
theorem body47s1f48t : ∀ l x, bodyT Try.prog E47s1f48t Try.f47 (keepOf Try.f47) lt47s1f48t c47s1f48t 23 (.list (.int .i64)) [.fn 48] [.list (.list (.int .i64))] l x = f47s1f48t l x := by
  rintro v0 ⟨v1, ⟨⟩⟩
  kernel_rfl
theorem fn47s1f48t : FnTake Try.prog 47 23 (.list (.int .i64)) [.fn 48] [.list (.list (.int .i64))] f47s1f48t := by
  exact fun_take progOK E47s1f48t_ok Try.func47 (c := c47s1f48t) (by kernel_rfl) (keep := keepOf Try.f47) (lt := lt47s1f48t) (by rfl) (loops_ok loops47s1f48t ⟨spec_of first47s1f48t_1 rfl spec47s1f48t_1, trivial⟩) body47s1f48t
abbrev s47s1f48t : Shr := (47, takeH 23 (.list (.int .i64)) [.fn 48] [.list (.list (.int .i64))] f47s1f48t)
theorem s47s1f48t_ok : ShrOK Try.prog s47s1f48t := takeH_ok fn47s1f48t
end Go.PM
