/- Chapter 40: functions by open runs of the plain machine (printed by a program). -/
import Derived.Test.YthbfchehcgnkpaaPnR
import Derived.Test.YthbfchehcgnkpaaCoE
import Derived.Test.YthbfchehcgnkpaaCoG
import Derived.Test.YthbfchehcgnkpaaCoH
import Derived.Test.YthbfchehcgnkpaaCoI
set_option linter.unusedSimpArgs false
set_option linter.unusedVariables false
namespace Go.PM
open Go Go.RowKit Go.Proofs
set_option maxRecDepth 100000
set_option maxHeartbeats 4000000

/-! schisma/consonance.List -/
abbrev sh17_0 : List (Nat × Kd) := [(6, .bown 38 46 (.list (.list (.int .i64)))), (7, .box 25 (.int .i64)), (10, .bown 38 46 (.list (.list (.int .i64)))), (30, .clo 62 [(.int .i64), (.list (.list (.int .i64))), (.int .i64)])]
abbrev ex17_0 : List (Ex × List (Nat × Kd)) := [(.normal, [(6, .bown 38 46 (.list (.list (.int .i64)))), (7, .box 25 (.int .i64)), (10, .bown 38 46 (.list (.list (.int .i64))))]), (.ret, [(6, .bown 38 46 (.list (.list (.int .i64)))), (7, .box 25 (.int .i64))])]
def step17_0 (x : Shape.den sh17_0) (e : denK [.list (.list (.int .i64))]) : Option (Shape.den sh17_0 ⊕ exDen ex17_0) := match x, e with
  | (v6, v7, v10, v30, ()), (e0, ()) =>
    bif eqI (v10.length : Int) 5000 then
      some (.inr (.inr (([], 4, ()))))
    else askO (f42 (e0, ())) fun y3 =>
    bif Nat.ble [y3.1].length 1048576 then bif Nat.ble v10.length 1048576 then some (.inl (v6, v7, (v10 ++ [y3.1]), (v30.1, v30.2.1, v30.2.2.1, ()), ())) else none else none
def cap17_0 (x : Shape.den sh17_0) : denT [(.int .i64), (.list (.list (.int .i64))), (.int .i64)] := match x with
  | (v6, v7, v10, v30, ()) => (v30.1, v30.2.1, v30.2.2.1, ())
def loop17_0 (x : Shape.den sh17_0) : Option (exDen ex17_0) := runG sh17_0 ex17_0 (fun x => fEach (cap17_0 x)) step17_0 x
def f17 (x : denK [.int .i64, .list (.list (.int .i64)), .int .i64]) : Option (denK [.list (.list (.list (.int .i64))), .int .i64]) := match x with
  | (v0, v1, v2, ()) =>
    askO (f12 (v0, v1, ())) fun y1 =>
    bif !(eqI y1.2.1 0) then
      some ([], y1.2.1, ())
    else bif ltI v2 1 then
      some ([], 3, ())
    else bif ltI 6 v2 then
      some ([], 3, ())
    else askO (f41 (v0, y1.1, v2, ())) fun y2 =>
    askO (loop17_0 ([], 0, [], (y2.1.1, y2.1.2.1, y2.1.2.2.1, ()), ())) fun z4 =>
    onSum z4 (fun a5 => some (a5.2.2.1, 0, ())) fun b6 =>
    some (b6.1, b6.2.1, ())
noncomputable def c17 : Code := bodyOf Try.f17
abbrev E17 : Env := envOf [e12, e41, e42]
theorem E17_ok : EnvOK Try.prog E17 := env_ok ⟨e12_ok, e41_ok, e42_ok, trivial⟩
noncomputable def r17_0 : Code := subAt c17 0
noncomputable def a17_0 : Code := inLoop r17_0
def lt17 (id : Nat) : Option LSpec := none
def rt17 (id : Nat) : Option LSpec := bif Nat.beq id 9 then some ⟨sh17_0, ex17_0, loop17_0⟩ else none
theorem first17_0 : firstRegion a17_0 = 9 := by kernel_rfl
theorem in17_0 : subsOf a17_0 = [] := by kernel_rfl
theorem form17_0 : r17_0 = .rangeFunc (seqOp r17_0) (psOf r17_0) (assignOf r17_0) (inLoop r17_0) := by kernel_rfl
theorem round17_0 : ∀ y e, roundG Try.prog E17 41 (keepR Try.f17) lt17 rt17 (psOf r17_0).toList (assignOf r17_0) (inLoop r17_0) [.list (.list (.int .i64))] sh17_0 ex17_0 y e = step17_0 y e := by
  rintro ⟨v6, v7, v10, v30, ⟨⟩⟩ ⟨e0, ⟨⟩⟩
  kernel_rfl
theorem seq17_0 : ∀ x, seqOf 62 [(.int .i64), (.list (.list (.int .i64))), (.int .i64)] sh17_0 (seqOp r17_0) x = some (cap17_0 x) := by
  rintro ⟨v6, v7, v10, v30, ⟨⟩⟩
  kernel_rfl
theorem spec17_0 : SpecR Try.prog 41 false [] r17_0 ⟨sh17_0, ex17_0, loop17_0⟩ := by
  exact range_okC E17_ok progOK form17_0 Try.func62 (c := bodyOf Try.f62) (by kernel_rfl) it62 (by kernel_rfl) (subs_ok in17_0 trivial) seq17_0 round17_0
theorem loops17 : subsOf c17 = [r17_0] := by kernel_rfl
theorem body17 : ∀ x, bodyR Try.prog E17 Try.f17 (keepR Try.f17) lt17 rt17 c17 [.int .i64, .list (.list (.int .i64)), .int .i64] [.list (.list (.list (.int .i64))), .int .i64] x = f17 x := by
  rintro ⟨v0, v1, v2, ⟨⟩⟩
  kernel_rfl
theorem fn17 : FnOK Try.prog 17 [.int .i64, .list (.list (.int .i64)), .int .i64] [.list (.list (.list (.int .i64))), .int .i64] f17 := by
  exact fun_okR progOK E17_ok Try.func17 (c := c17) (by kernel_rfl) (keep := keepR Try.f17) (lt := lt17) (rt := rt17) (subs_ok loops17 ⟨sub_rangeC form17_0 first17_0 rfl spec17_0, trivial⟩) body17
abbrev e17 : Ent := ⟨17, [.int .i64, .list (.list (.int .i64)), .int .i64], [.list (.list (.list (.int .i64))), .int .i64], f17⟩
theorem e17_ok : Ent.OK Try.prog e17 := fn17

/-! schisma/consonance.Maximal$1 -/
def f44s1plli2plli (x : denK [.list (.int .i64), .ptr (.list (.list (.int .i64))), .ptr (.list (.list (.int .i64)))]) : Option (denK [.bool]) := match x with
  | (v0, v1, v2, ()) =>
    askO (f45 (v1, v2, v0, ())) fun y1 =>
    some (y1.1, ())
noncomputable def c44s1plli2plli : Code := bodyOf Try.f44
abbrev E44s1plli2plli : Env := envOf [e45]
theorem E44s1plli2plli_ok : EnvOK Try.prog E44s1plli2plli := env_ok ⟨e45_ok, trivial⟩
def lt44s1plli2plli (id : Nat) : Option LSpec := none
theorem loops44s1plli2plli : loopsOf c44s1plli2plli = [] := by kernel_rfl
theorem body44s1plli2plli : ∀ x, bodyK Try.prog E44s1plli2plli Try.f44 (keepOf Try.f44) lt44s1plli2plli c44s1plli2plli [.list (.int .i64), .ptr (.list (.list (.int .i64))), .ptr (.list (.list (.int .i64)))] [.bool] x = f44s1plli2plli x := by
  rintro ⟨v0, v1, v2, ⟨⟩⟩
  kernel_rfl
theorem fn44s1plli2plli : FnOK Try.prog 44 [.list (.int .i64), .ptr (.list (.list (.int .i64))), .ptr (.list (.list (.int .i64)))] [.bool] f44s1plli2plli := by
  exact fun_ok progOK E44s1plli2plli_ok Try.func44 (c := c44s1plli2plli) (by kernel_rfl) (keep := keepOf Try.f44) (lt := lt44s1plli2plli) (loops_ok loops44s1plli2plli trivial) body44s1plli2plli
abbrev e44s1plli2plli : Ent := ⟨44, [.list (.int .i64), .ptr (.list (.list (.int .i64))), .ptr (.list (.list (.int .i64)))], [.bool], f44s1plli2plli⟩
theorem e44s1plli2plli_ok : Ent.OK Try.prog e44s1plli2plli := fn44s1plli2plli

/-! slices.IndexFunc[[]schisma/api.Row,schisma/api.Row] -/
abbrev sh65s1c44llilli_0 : List (Nat × Kd) := [(0, .list (.list (.int .i64))), (1, .clo 44 [(.list (.list (.int .i64))), (.list (.list (.int .i64)))]), (7, .int .i64), (8, .int .i64)]
abbrev ex65s1c44llilli_0 : List (Ex × List (Nat × Kd)) := [(.ret, [(4, .int .i64)]), (.exit 0, [])]
def step65s1c44llilli_0 (x : Shape.den sh65s1c44llilli_0) : Option (Shape.den sh65s1c44llilli_0 ⊕ exDen ex65s1c44llilli_0) := match x with
  | (v0, v1, v7, v8, ()) =>
    bif ltI v8 v7 then
      bif idxOk v8 v0.length then askO (f44s1plli2plli ((v0.getD v8.toNat []), v1.1, v1.2.1, ())) fun y2 =>
      bif y2.1 then
        some (.inr (.inl (v8, ())))
      else some (.inl (v0, (v1.1, v1.2.1, ()), v7, (wrapF .i64 (v8 + 1)), ())) else none
    else some (.inr (.inr ((()))))
def loop65s1c44llilli_0 (x : Shape.den sh65s1c44llilli_0) : Option (exDen ex65s1c44llilli_0) := loopN step65s1c44llilli_0 (2 ^ 64) x
def f65s1c44llilli (x : denK [.list (.list (.int .i64)), .clo 44 [(.list (.list (.int .i64))), (.list (.list (.int .i64)))]]) : Option (denK [.int .i64]) := match x with
  | (v0, v1, ()) =>
    askO (loop65s1c44llilli_0 (v0, (v1.1, v1.2.1, ()), (v0.length : Int), 0, ())) fun z3 =>
    onSum z3 (fun a4 => some (a4.1, ())) fun b5 =>
    some ((-1), ())
noncomputable def c65s1c44llilli : Code := bodyOf Try.f65
abbrev E65s1c44llilli : Env := envOf [e44s1plli2plli]
theorem E65s1c44llilli_ok : EnvOK Try.prog E65s1c44llilli := env_ok ⟨e44s1plli2plli_ok, trivial⟩
noncomputable def a65s1c44llilli_0 : Code := loopAt c65s1c44llilli 0
def lt65s1c44llilli (id : Nat) : Option LSpec := bif Nat.beq id 2 then some ⟨sh65s1c44llilli_0, ex65s1c44llilli_0, loop65s1c44llilli_0⟩ else none
theorem round65s1c44llilli_0 : ∀ x, roundK Try.prog E65s1c44llilli 19 (keepOf Try.f65) lt65s1c44llilli a65s1c44llilli_0 sh65s1c44llilli_0 ex65s1c44llilli_0 x = step65s1c44llilli_0 x := by
  rintro ⟨v0, v1, v7, v8, ⟨⟩⟩
  kernel_rfl
theorem in65s1c44llilli_0 : loopsOf a65s1c44llilli_0 = [] := by kernel_rfl
theorem first65s1c44llilli_0 : firstRegion a65s1c44llilli_0 = 2 := by kernel_rfl
theorem spec65s1c44llilli_0 : SpecOK Try.prog 19 a65s1c44llilli_0 ⟨sh65s1c44llilli_0, ex65s1c44llilli_0, loop65s1c44llilli_0⟩ := by
  exact loop_ok E65s1c44llilli_ok.callee progOK.mixed _ (loops_ok in65s1c44llilli_0 trivial) round65s1c44llilli_0
theorem loops65s1c44llilli : loopsOf c65s1c44llilli = [a65s1c44llilli_0] := by kernel_rfl
theorem body65s1c44llilli : ∀ x, bodyK Try.prog E65s1c44llilli Try.f65 (keepOf Try.f65) lt65s1c44llilli c65s1c44llilli [.list (.list (.int .i64)), .clo 44 [(.list (.list (.int .i64))), (.list (.list (.int .i64)))]] [.int .i64] x = f65s1c44llilli x := by
  rintro ⟨v0, v1, ⟨⟩⟩
  kernel_rfl
theorem fn65s1c44llilli : FnOK Try.prog 65 [.list (.list (.int .i64)), .clo 44 [(.list (.list (.int .i64))), (.list (.list (.int .i64)))]] [.int .i64] f65s1c44llilli := by
  exact fun_ok progOK E65s1c44llilli_ok Try.func65 (c := c65s1c44llilli) (by kernel_rfl) (keep := keepOf Try.f65) (lt := lt65s1c44llilli) (loops_ok loops65s1c44llilli ⟨spec_of first65s1c44llilli_0 rfl spec65s1c44llilli_0, trivial⟩) body65s1c44llilli
abbrev e65s1c44llilli : Ent := ⟨65, [.list (.list (.int .i64)), .clo 44 [(.list (.list (.int .i64))), (.list (.list (.int .i64)))]], [.int .i64], f65s1c44llilli⟩
theorem e65s1c44llilli_ok : Ent.OK Try.prog e65s1c44llilli := fn65s1c44llilli

/-! slices.ContainsFunc[[]schisma/api.Row,schisma/api.Row] -/
def f43s1c44llilli (x : denK [.list (.list (.int .i64)), .clo 44 [(.list (.list (.int .i64))), (.list (.list (.int .i64)))]]) : Option (denK [.bool]) := match x with
  | (v0, v1, ()) =>
    askO (f65s1c44llilli (v0, (v1.1, v1.2.1, ()), ())) fun y1 =>
    some (!(ltI y1.1 0), ())
noncomputable def c43s1c44llilli : Code := bodyOf Try.f43
abbrev E43s1c44llilli : Env := envOf [e65s1c44llilli]
theorem E43s1c44llilli_ok : EnvOK Try.prog E43s1c44llilli := env_ok ⟨e65s1c44llilli_ok, trivial⟩
def lt43s1c44llilli (id : Nat) : Option LSpec := none
theorem loops43s1c44llilli : loopsOf c43s1c44llilli = [] := by kernel_rfl
theorem body43s1c44llilli : ∀ x, bodyK Try.prog E43s1c44llilli Try.f43 (keepOf Try.f43) lt43s1c44llilli c43s1c44llilli [.list (.list (.int .i64)), .clo 44 [(.list (.list (.int .i64))), (.list (.list (.int .i64)))]] [.bool] x = f43s1c44llilli x := by
  rintro ⟨v0, v1, ⟨⟩⟩
  kernel_rfl
theorem fn43s1c44llilli : FnOK Try.prog 43 [.list (.list (.int .i64)), .clo 44 [(.list (.list (.int .i64))), (.list (.list (.int .i64)))]] [.bool] f43s1c44llilli := by
  exact fun_ok progOK E43s1c44llilli_ok Try.func43 (c := c43s1c44llilli) (by kernel_rfl) (keep := keepOf Try.f43) (lt := lt43s1c44llilli) (loops_ok loops43s1c44llilli trivial) body43s1c44llilli
abbrev e43s1c44llilli : Ent := ⟨43, [.list (.list (.int .i64)), .clo 44 [(.list (.list (.int .i64))), (.list (.list (.int .i64)))]], [.bool], f43s1c44llilli⟩
theorem e43s1c44llilli_ok : Ent.OK Try.prog e43s1c44llilli := fn43s1c44llilli

/-! schisma/consonance.Maximal -/
abbrev sh20_0 : List (Nat × Kd) := [(0, .int .i64), (4, .bown 38 46 (.list (.list (.int .i64)))), (5, .box 25 (.int .i64)), (6, .box 22 (.list (.list (.int .i64)))), (22, .clo 62 [(.int .i64), (.list (.list (.int .i64))), (.int .i64)])]
abbrev ex20_0 : List (Ex × List (Nat × Kd)) := [(.normal, [(0, .int .i64), (4, .bown 38 46 (.list (.list (.int .i64)))), (5, .box 25 (.int .i64)), (6, .box 22 (.list (.list (.int .i64))))]), (.ret, [(4, .bown 38 46 (.list (.list (.int .i64)))), (5, .box 25 (.int .i64))])]
def step20_0 (x : Shape.den sh20_0) (e : denK [.list (.list (.int .i64))]) : Option (Shape.den sh20_0 ⊕ exDen ex20_0) := match x, e with
  | (v0, v4, v5, v6, v22, ()), (e0, ()) =>
    some (.inr (.inr (([], 4, ()))))
def cap20_0 (x : Shape.den sh20_0) : denT [(.int .i64), (.list (.list (.int .i64))), (.int .i64)] := match x with
  | (v0, v4, v5, v6, v22, ()) => (v22.1, v22.2.1, v22.2.2.1, ())
def loop20_0 (x : Shape.den sh20_0) : Option (exDen ex20_0) := runG sh20_0 ex20_0 (fun x => fEach (cap20_0 x)) step20_0 x
abbrev sh20_1 : List (Nat × Kd) := [(0, .int .i64), (4, .bown 38 46 (.list (.list (.int .i64)))), (5, .box 25 (.int .i64)), (6, .box 22 (.list (.list (.int .i64)))), (8, .bown 38 46 (.list (.list (.int .i64)))), (9, .int .i64), (31, .clo 62 [(.int .i64), (.list (.list (.int .i64))), (.int .i64)])]
abbrev ex20_1 : List (Ex × List (Nat × Kd)) := [(.normal, [(0, .int .i64), (4, .bown 38 46 (.list (.list (.int .i64)))), (5, .box 25 (.int .i64)), (6, .box 22 (.list (.list (.int .i64)))), (8, .bown 38 46 (.list (.list (.int .i64)))), (9, .int .i64)]), (.ret, [(4, .bown 38 46 (.list (.list (.int .i64)))), (5, .box 25 (.int .i64))])]
def step20_1 (x : Shape.den sh20_1) (e : denK [.list (.list (.int .i64))]) : Option (Shape.den sh20_1 ⊕ exDen ex20_1) := match x, e with
  | (v0, v4, v5, v6, v8, v9, v31, ()), (e0, ()) =>
    askO (f43s1c44llilli (v6, (v6, e0, ()), ())) fun y7 =>
    bif y7.1 then
      some (.inl (v0, v4, v5, v6, v8, v9, (v31.1, v31.2.1, v31.2.2.1, ()), ()))
    else bif eqI (v8.length : Int) 5000 then
      some (.inr (.inr (([], 4, ()))))
    else askO (f42 (e0, ())) fun y8 =>
    bif Nat.ble [y8.1].length 1048576 then bif Nat.ble v8.length 1048576 then some (.inl (v0, v4, v5, v6, (v8 ++ [y8.1]), v9, (v31.1, v31.2.1, v31.2.2.1, ()), ())) else none else none
def cap20_1 (x : Shape.den sh20_1) : denT [(.int .i64), (.list (.list (.int .i64))), (.int .i64)] := match x with
  | (v0, v4, v5, v6, v8, v9, v31, ()) => (v31.1, v31.2.1, v31.2.2.1, ())
def loop20_1 (x : Shape.den sh20_1) : Option (exDen ex20_1) := runG sh20_1 ex20_1 (fun x => fEach (cap20_1 x)) step20_1 x
abbrev sh20_2 : List (Nat × Kd) := [(0, .int .i64), (4, .bown 38 46 (.list (.list (.int .i64)))), (5, .box 25 (.int .i64)), (6, .box 22 (.list (.list (.int .i64)))), (8, .bown 38 46 (.list (.list (.int .i64)))), (9, .int .i64)]
abbrev ex20_2 : List (Ex × List (Nat × Kd)) := [(.ret, [(4, .bown 38 46 (.list (.list (.int .i64)))), (5, .box 25 (.int .i64))]), (.exit 2, [(4, .bown 38 46 (.list (.list (.int .i64)))), (5, .box 25 (.int .i64)), (8, .bown 38 46 (.list (.list (.int .i64))))])]
def step20_2 (x : Shape.den sh20_2) : Option (Shape.den sh20_2 ⊕ exDen ex20_2) := match x with
  | (v0, v4, v5, v6, v8, v9, ()) =>
    bif !(ltI 6 v9) then
      askO (f41 (v0, v6, v9, ())) fun y12 =>
      askO (loop20_1 (v0, v4, v5, v6, v8, v9, (y12.1.1, y12.1.2.1, y12.1.2.2.1, ()), ())) fun z13 =>
      onSum z13 (fun a14 => some (.inl (a14.1, a14.2.1, a14.2.2.1, a14.2.2.2.1, a14.2.2.2.2.1, (wrapF .i64 (a14.2.2.2.2.2.1 + 1)), ()))) fun b15 =>
      some (.inr (.inl (b15.1, b15.2.1, ())))
    else some (.inr (.inr ((v4, v5, v8, ()))))
def loop20_2 (x : Shape.den sh20_2) : Option (exDen ex20_2) := loopN step20_2 (2 ^ 64) x
def f20 (x : denK [.int .i64, .list (.list (.int .i64))]) : Option (denK [.list (.list (.list (.int .i64))), .int .i64]) := match x with
  | (v0, v1, ()) =>
    askO (f12 (v0, v1, ())) fun y1 =>
    bif !(eqI y1.2.1 0) then
      some ([], y1.2.1, ())
    else askO (f41 (v0, y1.1, 7, ())) fun y2 =>
    askO (loop20_0 (v0, [], 0, y1.1, (y2.1.1, y2.1.2.1, y2.1.2.2.1, ()), ())) fun z3 =>
    onSum z3 (fun a4 => askO (loop20_2 (a4.1, a4.2.1, a4.2.2.1, a4.2.2.2.1, [], 1, ())) fun z16 =>
      onSum z16 (fun a17 => some (a17.1, a17.2.1, ())) fun b18 =>
      some (b18.2.2.1, 0, ())) fun b5 =>
    some (b5.1, b5.2.1, ())
noncomputable def c20 : Code := bodyOf Try.f20
abbrev E20 : Env := envOf [e12, e41, e42, e43s1c44llilli]
theorem E20_ok : EnvOK Try.prog E20 := env_ok ⟨e12_ok, e41_ok, e42_ok, e43s1c44llilli_ok, trivial⟩
noncomputable def r20_0 : Code := subAt c20 0
noncomputable def a20_0 : Code := inLoop r20_0
noncomputable def a20_2 : Code := inLoop (subAt c20 1)
noncomputable def r20_1 : Code := subAt a20_2 0
noncomputable def a20_1 : Code := inLoop r20_1
def lt20 (id : Nat) : Option LSpec := bif Nat.beq id 8 then some ⟨sh20_2, ex20_2, loop20_2⟩ else none
def rt20 (id : Nat) : Option LSpec := bif Nat.beq id 5 then some ⟨sh20_0, ex20_0, loop20_0⟩ else bif Nat.beq id 12 then some ⟨sh20_1, ex20_1, loop20_1⟩ else none
theorem first20_0 : firstRegion a20_0 = 5 := by kernel_rfl
theorem in20_0 : subsOf a20_0 = [] := by kernel_rfl
theorem form20_0 : r20_0 = .rangeFunc (seqOp r20_0) (psOf r20_0) (assignOf r20_0) (inLoop r20_0) := by kernel_rfl
theorem round20_0 : ∀ y e, roundG Try.prog E20 45 (keepR Try.f20) lt20 rt20 (psOf r20_0).toList (assignOf r20_0) (inLoop r20_0) [.list (.list (.int .i64))] sh20_0 ex20_0 y e = step20_0 y e := by
  rintro ⟨v0, v4, v5, v6, v22, ⟨⟩⟩ ⟨e0, ⟨⟩⟩
  kernel_rfl
theorem seq20_0 : ∀ x, seqOf 62 [(.int .i64), (.list (.list (.int .i64))), (.int .i64)] sh20_0 (seqOp r20_0) x = some (cap20_0 x) := by
  rintro ⟨v0, v4, v5, v6, v22, ⟨⟩⟩
  kernel_rfl
theorem spec20_0 : SpecR Try.prog 45 false [] r20_0 ⟨sh20_0, ex20_0, loop20_0⟩ := by
  exact range_okC E20_ok progOK form20_0 Try.func62 (c := bodyOf Try.f62) (by kernel_rfl) it62 (by kernel_rfl) (subs_ok in20_0 trivial) seq20_0 round20_0
theorem first20_1 : firstRegion a20_1 = 12 := by kernel_rfl
theorem in20_1 : subsOf a20_1 = [] := by kernel_rfl
theorem form20_1 : r20_1 = .rangeFunc (seqOp r20_1) (psOf r20_1) (assignOf r20_1) (inLoop r20_1) := by kernel_rfl
theorem round20_1 : ∀ y e, roundG Try.prog E20 45 (keepR Try.f20) lt20 rt20 (psOf r20_1).toList (assignOf r20_1) (inLoop r20_1) [.list (.list (.int .i64))] sh20_1 ex20_1 y e = step20_1 y e := by
  rintro ⟨v0, v4, v5, v6, v8, v9, v31, ⟨⟩⟩ ⟨e0, ⟨⟩⟩
  kernel_rfl
theorem seq20_1 : ∀ x, seqOf 62 [(.int .i64), (.list (.list (.int .i64))), (.int .i64)] sh20_1 (seqOp r20_1) x = some (cap20_1 x) := by
  rintro ⟨v0, v4, v5, v6, v8, v9, v31, ⟨⟩⟩
  kernel_rfl
theorem spec20_1 : SpecR Try.prog 45 false [] r20_1 ⟨sh20_1, ex20_1, loop20_1⟩ := by
  exact range_okC E20_ok progOK form20_1 Try.func62 (c := bodyOf Try.f62) (by kernel_rfl) it62 (by kernel_rfl) (subs_ok in20_1 trivial) seq20_1 round20_1
theorem first20_2 : firstRegion a20_2 = 8 := by kernel_rfl
theorem in20_2 : subsOf a20_2 = [r20_1] := by kernel_rfl
theorem round20_2 : ∀ x, roundR Try.prog E20 45 (keepR Try.f20) lt20 rt20 false [] a20_2 sh20_2 ex20_2 x = step20_2 x := by
  rintro ⟨v0, v4, v5, v6, v8, v9, ⟨⟩⟩
  kernel_rfl
theorem spec20_2 : SpecR Try.prog 45 false [] (.loop a20_2) ⟨sh20_2, ex20_2, loop20_2⟩ := by
  exact loop_okR E20_ok.callee progOK.mixed _ (subs_ok in20_2 ⟨sub_rangeC form20_1 first20_1 rfl spec20_1, trivial⟩) round20_2
theorem loops20 : subsOf c20 = [r20_0, .loop a20_2] := by kernel_rfl
theorem body20 : ∀ x, bodyR Try.prog E20 Try.f20 (keepR Try.f20) lt20 rt20 c20 [.int .i64, .list (.list (.int .i64))] [.list (.list (.list (.int .i64))), .int .i64] x = f20 x := by
  rintro ⟨v0, v1, ⟨⟩⟩
  kernel_rfl
theorem fn20 : FnOK Try.prog 20 [.int .i64, .list (.list (.int .i64))] [.list (.list (.list (.int .i64))), .int .i64] f20 := by
  exact fun_okR progOK E20_ok Try.func20 (c := c20) (by kernel_rfl) (keep := keepR Try.f20) (lt := lt20) (rt := rt20) (subs_ok loops20 ⟨sub_rangeC form20_0 first20_0 rfl spec20_0, sub_loop first20_2 rfl spec20_2, trivial⟩) body20
abbrev e20 : Ent := ⟨20, [.int .i64, .list (.list (.int .i64))], [.list (.list (.list (.int .i64))), .int .i64], f20⟩
theorem e20_ok : Ent.OK Try.prog e20 := fn20
end Go.PM
