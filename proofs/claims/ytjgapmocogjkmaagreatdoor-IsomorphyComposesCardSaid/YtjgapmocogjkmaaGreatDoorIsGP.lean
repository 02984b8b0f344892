/- Chapter 46: functions by open runs of the plain machine (printed by a program). -/
import Derived.Test.YtjgapmocogjkmaaGreatDoorIsT
import Derived.Test.YtjgapmocogjkmaaGreatDoorIsKR
import Derived.Test.YtjgapmocogjkmaaGreatDoorPnO
set_option linter.unusedSimpArgs false
set_option linter.unusedVariables false
namespace Go.PM
open Go Go.RowKit Go.Proofs
set_option maxRecDepth 100000
set_option maxHeartbeats 4000000

/-! schisma/isomorphy.turns -/
def f38 (x : denK [.int .i64]) : Option (denK [.clo 62 [(.list (.prod (.int .i64) (.int .i64)))]]) := match x with
  | (v0, ()) =>
    askO (f61 (v0, ())) fun y1 =>
    some ((y1.1, ()), ())
noncomputable def c38 : Code := bodyOf Tryz.f38
abbrev E38 : Env := envOf [e61]
theorem E38_ok : EnvOK Tryz.prog E38 := env_ok ⟨e61_ok, trivial⟩
def lt38 (id : Nat) : Option LSpec := none
theorem loops38 : loopsOf c38 = [] := by kernel_rfl
theorem body38 : ∀ x, bodyK Tryz.prog E38 Tryz.f38 (keepOf Tryz.f38) lt38 c38 [.int .i64] [.clo 62 [(.list (.prod (.int .i64) (.int .i64)))]] x = f38 x := by
  rintro ⟨v0, ⟨⟩⟩
  kernel_rfl
theorem fn38 : FnOK Tryz.prog 38 [.int .i64] [.clo 62 [(.list (.prod (.int .i64) (.int .i64)))]] f38 := by
  exact fun_ok progOK E38_ok Tryz.func38 (c := c38) (by kernel_rfl) (keep := keepOf Tryz.f38) (lt := lt38) (loops_ok loops38 trivial) body38
abbrev e38 : Ent := ⟨38, [.int .i64], [.clo 62 [(.list (.prod (.int .i64) (.int .i64)))]], f38⟩
theorem e38_ok : Ent.OK Tryz.prog e38 := fn38

/-! slices.AppendSeq[[]schisma/isomorphy.Symmetry,schisma/isomorphy.Symmetry] -/
abbrev sh66s0nil01c62lpiio_0 : List (Nat × Kd) := [(2, .bown 34 27 (.prod (.int .i64) (.prod (.int .i64) (.prod (.int .i64) (.int .i64))))), (4, .own 27 (.prod (.int .i64) (.prod (.int .i64) (.prod (.int .i64) (.int .i64))))), (6, .clo 62 [(.list (.prod (.int .i64) (.int .i64)))])]
abbrev ex66s0nil01c62lpiio_0 : List (Ex × List (Nat × Kd)) := [(.normal, [(2, .bown 34 27 (.prod (.int .i64) (.prod (.int .i64) (.prod (.int .i64) (.int .i64)))))])]
def step66s0nil01c62lpiio_0 (x : Shape.den sh66s0nil01c62lpiio_0) (e : denK [.agg (.prod (.int .i64) (.prod (.int .i64) (.prod (.int .i64) (.int .i64))))]) : Option (Shape.den sh66s0nil01c62lpiio_0 ⊕ exDen ex66s0nil01c62lpiio_0) := match x, e with
  | (v2, v4, v6, ()), (e0, ()) =>
    bif Nat.ble [(e0.1, (e0.2.1, (e0.2.2.1, e0.2.2.2)))].length 1048576 then bif Nat.ble v2.length 1048576 then some (.inl ((v2 ++ [(e0.1, (e0.2.1, (e0.2.2.1, e0.2.2.2)))]), v4, (v6.1, ()), ())) else none else none
def cap66s0nil01c62lpiio_0 (x : Shape.den sh66s0nil01c62lpiio_0) : denT [(.list (.prod (.int .i64) (.int .i64)))] := match x with
  | (v2, v4, v6, ()) => (v6.1, ())
def loop66s0nil01c62lpiio_0 (x : Shape.den sh66s0nil01c62lpiio_0) : Option (exDen ex66s0nil01c62lpiio_0) := runG sh66s0nil01c62lpiio_0 ex66s0nil01c62lpiio_0 (fun x => fTurns (cap66s0nil01c62lpiio_0 x)) step66s0nil01c62lpiio_0 x
def f66s0nil01c62lpiio (x : denK [.nil0, .clo 62 [(.list (.prod (.int .i64) (.int .i64)))]]) : Option (List (Int × (Int × (Int × Int)))) := match x with
  | (v0, v1, ()) =>
    askO (loop66s0nil01c62lpiio_0 ([], [], (v1.1, ()), ())) fun z1 =>
    some z1.1
noncomputable def c66s0nil01c62lpiio : Code := bodyOf Tryz.f66
abbrev E66s0nil01c62lpiio : Env := envOf []
theorem E66s0nil01c62lpiio_ok : EnvOK Tryz.prog E66s0nil01c62lpiio := env_ok trivial
noncomputable def r66s0nil01c62lpiio_0 : Code := subAt c66s0nil01c62lpiio 0
noncomputable def a66s0nil01c62lpiio_0 : Code := inLoop r66s0nil01c62lpiio_0
def lt66s0nil01c62lpiio (id : Nat) : Option LSpec := none
def rt66s0nil01c62lpiio (id : Nat) : Option LSpec := bif Nat.beq id 3 then some ⟨sh66s0nil01c62lpiio_0, ex66s0nil01c62lpiio_0, loop66s0nil01c62lpiio_0⟩ else none
theorem first66s0nil01c62lpiio_0 : firstRegion a66s0nil01c62lpiio_0 = 3 := by kernel_rfl
theorem in66s0nil01c62lpiio_0 : subsOf a66s0nil01c62lpiio_0 = [] := by kernel_rfl
theorem form66s0nil01c62lpiio_0 : r66s0nil01c62lpiio_0 = .rangeFunc (seqOp r66s0nil01c62lpiio_0) (psOf r66s0nil01c62lpiio_0) (assignOf r66s0nil01c62lpiio_0) (inLoop r66s0nil01c62lpiio_0) := by kernel_rfl
theorem round66s0nil01c62lpiio_0 : ∀ y e, roundG Tryz.prog E66s0nil01c62lpiio 13 (keepR Tryz.f66) lt66s0nil01c62lpiio rt66s0nil01c62lpiio (psOf r66s0nil01c62lpiio_0).toList (assignOf r66s0nil01c62lpiio_0) (inLoop r66s0nil01c62lpiio_0) [.agg (.prod (.int .i64) (.prod (.int .i64) (.prod (.int .i64) (.int .i64))))] sh66s0nil01c62lpiio_0 ex66s0nil01c62lpiio_0 y e = step66s0nil01c62lpiio_0 y e := by
  rintro ⟨v2, v4, v6, ⟨⟩⟩ ⟨e0, ⟨⟩⟩
  kernel_rfl
theorem seq66s0nil01c62lpiio_0 : ∀ x, seqOf 62 [(.list (.prod (.int .i64) (.int .i64)))] sh66s0nil01c62lpiio_0 (seqOp r66s0nil01c62lpiio_0) x = some (cap66s0nil01c62lpiio_0 x) := by
  rintro ⟨v2, v4, v6, ⟨⟩⟩
  kernel_rfl
theorem spec66s0nil01c62lpiio_0 : SpecR Tryz.prog 13 false [] r66s0nil01c62lpiio_0 ⟨sh66s0nil01c62lpiio_0, ex66s0nil01c62lpiio_0, loop66s0nil01c62lpiio_0⟩ := by
  exact range_okC E66s0nil01c62lpiio_ok progOK form66s0nil01c62lpiio_0 Tryz.func62 (c := bodyOf Tryz.f62) (by kernel_rfl) it62 (by kernel_rfl) (subs_ok in66s0nil01c62lpiio_0 trivial) seq66s0nil01c62lpiio_0 round66s0nil01c62lpiio_0
theorem loops66s0nil01c62lpiio : subsOf c66s0nil01c62lpiio = [r66s0nil01c62lpiio_0] := by kernel_rfl
theorem body66s0nil01c62lpiio : ∀ x, bodyOR Tryz.prog E66s0nil01c62lpiio Tryz.f66 (keepR Tryz.f66) lt66s0nil01c62lpiio rt66s0nil01c62lpiio c66s0nil01c62lpiio [.nil0, .clo 62 [(.list (.prod (.int .i64) (.int .i64)))]] 4 27 (.prod (.int .i64) (.prod (.int .i64) (.prod (.int .i64) (.int .i64)))) x = f66s0nil01c62lpiio x := by
  rintro ⟨v0, v1, ⟨⟩⟩
  kernel_rfl
theorem fn66s0nil01c62lpiio : FnOwn Tryz.prog 66 [.nil0, .clo 62 [(.list (.prod (.int .i64) (.int .i64)))]] 27 (.prod (.int .i64) (.prod (.int .i64) (.prod (.int .i64) (.int .i64)))) f66s0nil01c62lpiio := by
  exact fun_ownR progOK E66s0nil01c62lpiio_ok Tryz.func66 (c := c66s0nil01c62lpiio) (by kernel_rfl) (keep := keepR Tryz.f66) (lt := lt66s0nil01c62lpiio) (rt := rt66s0nil01c62lpiio) (t := 4) (by kernel_rfl) (subs_ok loops66s0nil01c62lpiio ⟨sub_rangeC form66s0nil01c62lpiio_0 first66s0nil01c62lpiio_0 rfl spec66s0nil01c62lpiio_0, trivial⟩) body66s0nil01c62lpiio
abbrev s66s0nil01c62lpiio : Shr := (66, ownH [.nil0, .clo 62 [(.list (.prod (.int .i64) (.int .i64)))]] 27 (.prod (.int .i64) (.prod (.int .i64) (.prod (.int .i64) (.int .i64)))) f66s0nil01c62lpiio)
theorem s66s0nil01c62lpiio_ok : ShrOK Tryz.prog s66s0nil01c62lpiio := ownH_ok fn66s0nil01c62lpiio

/-! slices.Collect[schisma/isomorphy.Symmetry] -/
def f45s0c62lpiio (x : denK [.clo 62 [(.list (.prod (.int .i64) (.int .i64)))]]) : Option (List (Int × (Int × (Int × Int)))) := match x with
  | (v0, ()) =>
    askO (f66s0nil01c62lpiio ((), (v0.1, ()), ())) fun y1 =>
    some y1
noncomputable def c45s0c62lpiio : Code := bodyOf Tryz.f45
abbrev E45s0c62lpiio : Env := envT [] [s66s0nil01c62lpiio]
theorem E45s0c62lpiio_ok : EnvOK Tryz.prog E45s0c62lpiio := envT_ok trivial ⟨s66s0nil01c62lpiio_ok, trivial⟩
def lt45s0c62lpiio (id : Nat) : Option LSpec := none
theorem loops45s0c62lpiio : loopsOf c45s0c62lpiio = [] := by kernel_rfl
theorem body45s0c62lpiio : ∀ x, bodyO Tryz.prog E45s0c62lpiio Tryz.f45 (keepOf Tryz.f45) lt45s0c62lpiio c45s0c62lpiio [.clo 62 [(.list (.prod (.int .i64) (.int .i64)))]] 2 27 (.prod (.int .i64) (.prod (.int .i64) (.prod (.int .i64) (.int .i64)))) x = f45s0c62lpiio x := by
  rintro ⟨v0, ⟨⟩⟩
  kernel_rfl
theorem fn45s0c62lpiio : FnOwn Tryz.prog 45 [.clo 62 [(.list (.prod (.int .i64) (.int .i64)))]] 27 (.prod (.int .i64) (.prod (.int .i64) (.prod (.int .i64) (.int .i64)))) f45s0c62lpiio := by
  exact fun_own progOK E45s0c62lpiio_ok Tryz.func45 (c := c45s0c62lpiio) (by kernel_rfl) (keep := keepOf Tryz.f45) (lt := lt45s0c62lpiio) (t := 2) (by kernel_rfl) (loops_ok loops45s0c62lpiio trivial) body45s0c62lpiio
abbrev s45s0c62lpiio : Shr := (45, ownH [.clo 62 [(.list (.prod (.int .i64) (.int .i64)))]] 27 (.prod (.int .i64) (.prod (.int .i64) (.prod (.int .i64) (.int .i64)))) f45s0c62lpiio)
theorem s45s0c62lpiio_ok : ShrOK Tryz.prog s45s0c62lpiio := ownH_ok fn45s0c62lpiio

/-! schisma/isomorphy.Turn -/
abbrev sh15_0 : List (Nat × Kd) := [(2, .box 25 (.prod (.int .i64) (.prod (.list (.int .i64)) (.prod (.list (.int .i64)) (.list (.int .i64)))))), (3, .box 27 (.prod (.int .i64) (.prod (.int .i64) (.prod (.int .i64) (.int .i64))))), (4, .box 25 (.prod (.int .i64) (.prod (.list (.int .i64)) (.prod (.list (.int .i64)) (.list (.int .i64)))))), (5, .box 30 (.int .i64)), (16, .clo 62 [(.list (.prod (.int .i64) (.int .i64)))])]
abbrev ex15_0 : List (Ex × List (Nat × Kd)) := [(.normal, [(4, .box 25 (.prod (.int .i64) (.prod (.list (.int .i64)) (.prod (.list (.int .i64)) (.list (.int .i64)))))), (5, .box 30 (.int .i64))]), (.ret, [(4, .box 25 (.prod (.int .i64) (.prod (.list (.int .i64)) (.prod (.list (.int .i64)) (.list (.int .i64)))))), (5, .box 30 (.int .i64))])]
def step15_0 (x : Shape.den sh15_0) (e : denK [.agg (.prod (.int .i64) (.prod (.int .i64) (.prod (.int .i64) (.int .i64))))]) : Option (Shape.den sh15_0 ⊕ exDen ex15_0) := match x, e with
  | (v2, v3, v4, v5, v16, ()), (e0, ()) =>
    bif (eqI v3.1 e0.1 && (eqI v3.2.1 e0.2.1 && (eqI v3.2.2.1 e0.2.2.1 && (eqI v3.2.2.2 e0.2.2.2 && true)))) then
      askO (f40 ((v2.1, (v2.2.1, (v2.2.2.1, v2.2.2.2))), (v3.1, (v3.2.1, (v3.2.2.1, v3.2.2.2))), ())) fun y3 =>
      askO (f39 ((y3.1.1, (y3.1.2.1, (y3.1.2.2.1, y3.1.2.2.2))), ())) fun y4 =>
      some (.inr (.inr (((y4.1.1, (y4.1.2.1, (y4.1.2.2.1, y4.1.2.2.2))), y4.2.1, ()))))
    else some (.inl ((v2.1, (v2.2.1, (v2.2.2.1, v2.2.2.2))), (v3.1, (v3.2.1, (v3.2.2.1, v3.2.2.2))), (v4.1, (v4.2.1, (v4.2.2.1, v4.2.2.2))), v5, (v16.1, ()), ()))
def cap15_0 (x : Shape.den sh15_0) : denT [(.list (.prod (.int .i64) (.int .i64)))] := match x with
  | (v2, v3, v4, v5, v16, ()) => (v16.1, ())
def loop15_0 (x : Shape.den sh15_0) : Option (exDen ex15_0) := runG sh15_0 ex15_0 (fun x => fTurns (cap15_0 x)) step15_0 x
def f15 (x : denK [.agg (.prod (.int .i64) (.prod (.list (.int .i64)) (.prod (.list (.int .i64)) (.list (.int .i64))))), .agg (.prod (.int .i64) (.prod (.int .i64) (.prod (.int .i64) (.int .i64))))]) : Option (denK [.agg (.prod (.int .i64) (.prod (.list (.int .i64)) (.prod (.list (.int .i64)) (.list (.int .i64))))), .int .i64]) := match x with
  | (v0, v1, ()) =>
    askO (f24 ((v0.1, (v0.2.1, (v0.2.2.1, v0.2.2.2))), ())) fun y1 =>
    bif !(eqI y1.1 0) then
      some ((0, ([], ([], []))), y1.1, ())
    else askO (f38 (v0.1, ())) fun y2 =>
    askO (loop15_0 ((v0.1, (v0.2.1, (v0.2.2.1, v0.2.2.2))), (v1.1, (v1.2.1, (v1.2.2.1, v1.2.2.2))), (0, ([], ([], []))), 0, (y2.1.1, ()), ())) fun z5 =>
    onSum z5 (fun a6 => some ((0, ([], ([], []))), 10, ())) fun b7 =>
    some ((b7.1.1, (b7.1.2.1, (b7.1.2.2.1, b7.1.2.2.2))), b7.2.1, ())
noncomputable def c15 : Code := bodyOf Tryz.f15
abbrev E15 : Env := envOf [e24, e38, e39, e40]
theorem E15_ok : EnvOK Tryz.prog E15 := env_ok ⟨e24_ok, e38_ok, e39_ok, e40_ok, trivial⟩
noncomputable def r15_0 : Code := subAt c15 0
noncomputable def a15_0 : Code := inLoop r15_0
def lt15 (id : Nat) : Option LSpec := none
def rt15 (id : Nat) : Option LSpec := bif Nat.beq id 6 then some ⟨sh15_0, ex15_0, loop15_0⟩ else none
theorem first15_0 : firstRegion a15_0 = 6 := by kernel_rfl
theorem in15_0 : subsOf a15_0 = [] := by kernel_rfl
theorem form15_0 : r15_0 = .rangeFunc (seqOp r15_0) (psOf r15_0) (assignOf r15_0) (inLoop r15_0) := by kernel_rfl
theorem round15_0 : ∀ y e, roundG Tryz.prog E15 28 (keepR Tryz.f15) lt15 rt15 (psOf r15_0).toList (assignOf r15_0) (inLoop r15_0) [.agg (.prod (.int .i64) (.prod (.int .i64) (.prod (.int .i64) (.int .i64))))] sh15_0 ex15_0 y e = step15_0 y e := by
  rintro ⟨v2, v3, v4, v5, v16, ⟨⟩⟩ ⟨e0, ⟨⟩⟩
  kernel_rfl
theorem seq15_0 : ∀ x, seqOf 62 [(.list (.prod (.int .i64) (.int .i64)))] sh15_0 (seqOp r15_0) x = some (cap15_0 x) := by
  rintro ⟨v2, v3, v4, v5, v16, ⟨⟩⟩
  kernel_rfl
theorem spec15_0 : SpecR Tryz.prog 28 false [] r15_0 ⟨sh15_0, ex15_0, loop15_0⟩ := by
  exact range_okC E15_ok progOK form15_0 Tryz.func62 (c := bodyOf Tryz.f62) (by kernel_rfl) it62 (by kernel_rfl) (subs_ok in15_0 trivial) seq15_0 round15_0
theorem loops15 : subsOf c15 = [r15_0] := by kernel_rfl
theorem body15 : ∀ x, bodyR Tryz.prog E15 Tryz.f15 (keepR Tryz.f15) lt15 rt15 c15 [.agg (.prod (.int .i64) (.prod (.list (.int .i64)) (.prod (.list (.int .i64)) (.list (.int .i64))))), .agg (.prod (.int .i64) (.prod (.int .i64) (.prod (.int .i64) (.int .i64))))] [.agg (.prod (.int .i64) (.prod (.list (.int .i64)) (.prod (.list (.int .i64)) (.list (.int .i64))))), .int .i64] x = f15 x := by
  rintro ⟨v0, v1, ⟨⟩⟩
  kernel_rfl
theorem fn15 : FnOK Tryz.prog 15 [.agg (.prod (.int .i64) (.prod (.list (.int .i64)) (.prod (.list (.int .i64)) (.list (.int .i64))))), .agg (.prod (.int .i64) (.prod (.int .i64) (.prod (.int .i64) (.int .i64))))] [.agg (.prod (.int .i64) (.prod (.list (.int .i64)) (.prod (.list (.int .i64)) (.list (.int .i64))))), .int .i64] f15 := by
  exact fun_okR progOK E15_ok Tryz.func15 (c := c15) (by kernel_rfl) (keep := keepR Tryz.f15) (lt := lt15) (rt := rt15) (subs_ok loops15 ⟨sub_rangeC form15_0 first15_0 rfl spec15_0, trivial⟩) body15
abbrev e15 : Ent := ⟨15, [.agg (.prod (.int .i64) (.prod (.list (.int .i64)) (.prod (.list (.int .i64)) (.list (.int .i64))))), .agg (.prod (.int .i64) (.prod (.int .i64) (.prod (.int .i64) (.int .i64))))], [.agg (.prod (.int .i64) (.prod (.list (.int .i64)) (.prod (.list (.int .i64)) (.list (.int .i64))))), .int .i64], f15⟩
theorem e15_ok : Ent.OK Tryz.prog e15 := fn15

/-! schisma/isomorphy.Symmetries -/
def f22 (x : denK [.int .i64]) : Option (denK [.list (.prod (.int .i64) (.prod (.int .i64) (.prod (.int .i64) (.int .i64)))), .int .i64]) := match x with
  | (v0, ()) =>
    bif !(eqI v0 1) then
      bif !(eqI v0 2) then
        some ([], 12, ())
      else askO (f38 (v0, ())) fun y1 =>
      askO (f45s0c62lpiio ((y1.1.1, ()), ())) fun y2 =>
      some (y2, 0, ())
    else askO (f38 (v0, ())) fun y3 =>
    askO (f45s0c62lpiio ((y3.1.1, ()), ())) fun y4 =>
    some (y4, 0, ())
noncomputable def c22 : Code := bodyOf Tryz.f22
abbrev E22 : Env := envT [e38] [s45s0c62lpiio]
theorem E22_ok : EnvOK Tryz.prog E22 := envT_ok ⟨e38_ok, trivial⟩ ⟨s45s0c62lpiio_ok, trivial⟩
def lt22 (id : Nat) : Option LSpec := none
theorem loops22 : loopsOf c22 = [] := by kernel_rfl
theorem body22 : ∀ x, bodyK Tryz.prog E22 Tryz.f22 (keepOf Tryz.f22) lt22 c22 [.int .i64] [.list (.prod (.int .i64) (.prod (.int .i64) (.prod (.int .i64) (.int .i64)))), .int .i64] x = f22 x := by
  rintro ⟨v0, ⟨⟩⟩
  kernel_rfl
theorem fn22 : FnOK Tryz.prog 22 [.int .i64] [.list (.prod (.int .i64) (.prod (.int .i64) (.prod (.int .i64) (.int .i64)))), .int .i64] f22 := by
  exact fun_ok progOK E22_ok Tryz.func22 (c := c22) (by kernel_rfl) (keep := keepOf Tryz.f22) (lt := lt22) (loops_ok loops22 trivial) body22
abbrev e22 : Ent := ⟨22, [.int .i64], [.list (.prod (.int .i64) (.prod (.int .i64) (.prod (.int .i64) (.int .i64)))), .int .i64], f22⟩
theorem e22_ok : Ent.OK Tryz.prog e22 := fn22

/-! schisma/isomorphy.Fixed -/
abbrev sh28_0 : List (Nat × Kd) := [(1, .box 25 (.prod (.int .i64) (.prod (.list (.int .i64)) (.prod (.list (.int .i64)) (.list (.int .i64)))))), (2, .own 27 (.prod (.int .i64) (.prod (.int .i64) (.prod (.int .i64) (.int .i64))))), (3, .int .i64), (5, .bown 34 27 (.prod (.int .i64) (.prod (.int .i64) (.prod (.int .i64) (.int .i64))))), (14, .clo 62 [(.list (.prod (.int .i64) (.int .i64)))])]
abbrev ex28_0 : List (Ex × List (Nat × Kd)) := [(.normal, [(5, .bown 34 27 (.prod (.int .i64) (.prod (.int .i64) (.prod (.int .i64) (.int .i64)))))])]
def step28_0 (x : Shape.den sh28_0) (e : denK [.agg (.prod (.int .i64) (.prod (.int .i64) (.prod (.int .i64) (.int .i64))))]) : Option (Shape.den sh28_0 ⊕ exDen ex28_0) := match x, e with
  | (v1, v2, v3, v5, v14, ()), (e0, ()) =>
    askO (f40 ((v1.1, (v1.2.1, (v1.2.2.1, v1.2.2.2))), (e0.1, (e0.2.1, (e0.2.2.1, e0.2.2.2))), ())) fun y3 =>
    askO (f48 ((y3.1.1, (y3.1.2.1, (y3.1.2.2.1, y3.1.2.2.2))), (v1.1, (v1.2.1, (v1.2.2.1, v1.2.2.2))), ())) fun y4 =>
    bif eqI y4.1 0 then
      bif Nat.ble [(e0.1, (e0.2.1, (e0.2.2.1, e0.2.2.2)))].length 1048576 then bif Nat.ble v5.length 1048576 then some (.inl ((v1.1, (v1.2.1, (v1.2.2.1, v1.2.2.2))), v2, v3, (v5 ++ [(e0.1, (e0.2.1, (e0.2.2.1, e0.2.2.2)))]), (v14.1, ()), ())) else none else none
    else some (.inl ((v1.1, (v1.2.1, (v1.2.2.1, v1.2.2.2))), v2, v3, v5, (v14.1, ()), ()))
def cap28_0 (x : Shape.den sh28_0) : denT [(.list (.prod (.int .i64) (.int .i64)))] := match x with
  | (v1, v2, v3, v5, v14, ()) => (v14.1, ())
def loop28_0 (x : Shape.den sh28_0) : Option (exDen ex28_0) := runG sh28_0 ex28_0 (fun x => fTurns (cap28_0 x)) step28_0 x
def f28 (x : denK [.agg (.prod (.int .i64) (.prod (.list (.int .i64)) (.prod (.list (.int .i64)) (.list (.int .i64)))))]) : Option (denK [.list (.prod (.int .i64) (.prod (.int .i64) (.prod (.int .i64) (.int .i64)))), .int .i64]) := match x with
  | (v0, ()) =>
    askO (f24 ((v0.1, (v0.2.1, (v0.2.2.1, v0.2.2.2))), ())) fun y1 =>
    bif !(eqI y1.1 0) then
      some ([], y1.1, ())
    else askO (f38 (v0.1, ())) fun y2 =>
    askO (loop28_0 ((v0.1, (v0.2.1, (v0.2.2.1, v0.2.2.2))), [], 0, [], (y2.1.1, ()), ())) fun z5 =>
    some (z5.1, 0, ())
noncomputable def c28 : Code := bodyOf Tryz.f28
abbrev E28 : Env := envOf [e24, e38, e40, e48]
theorem E28_ok : EnvOK Tryz.prog E28 := env_ok ⟨e24_ok, e38_ok, e40_ok, e48_ok, trivial⟩
noncomputable def r28_0 : Code := subAt c28 0
noncomputable def a28_0 : Code := inLoop r28_0
def lt28 (id : Nat) : Option LSpec := none
def rt28 (id : Nat) : Option LSpec := bif Nat.beq id 7 then some ⟨sh28_0, ex28_0, loop28_0⟩ else none
theorem first28_0 : firstRegion a28_0 = 7 := by kernel_rfl
theorem in28_0 : subsOf a28_0 = [] := by kernel_rfl
theorem form28_0 : r28_0 = .rangeFunc (seqOp r28_0) (psOf r28_0) (assignOf r28_0) (inLoop r28_0) := by kernel_rfl
theorem round28_0 : ∀ y e, roundG Tryz.prog E28 27 (keepR Tryz.f28) lt28 rt28 (psOf r28_0).toList (assignOf r28_0) (inLoop r28_0) [.agg (.prod (.int .i64) (.prod (.int .i64) (.prod (.int .i64) (.int .i64))))] sh28_0 ex28_0 y e = step28_0 y e := by
  rintro ⟨v1, v2, v3, v5, v14, ⟨⟩⟩ ⟨e0, ⟨⟩⟩
  kernel_rfl
theorem seq28_0 : ∀ x, seqOf 62 [(.list (.prod (.int .i64) (.int .i64)))] sh28_0 (seqOp r28_0) x = some (cap28_0 x) := by
  rintro ⟨v1, v2, v3, v5, v14, ⟨⟩⟩
  kernel_rfl
theorem spec28_0 : SpecR Tryz.prog 27 false [] r28_0 ⟨sh28_0, ex28_0, loop28_0⟩ := by
  exact range_okC E28_ok progOK form28_0 Tryz.func62 (c := bodyOf Tryz.f62) (by kernel_rfl) it62 (by kernel_rfl) (subs_ok in28_0 trivial) seq28_0 round28_0
theorem loops28 : subsOf c28 = [r28_0] := by kernel_rfl
theorem body28 : ∀ x, bodyR Tryz.prog E28 Tryz.f28 (keepR Tryz.f28) lt28 rt28 c28 [.agg (.prod (.int .i64) (.prod (.list (.int .i64)) (.prod (.list (.int .i64)) (.list (.int .i64)))))] [.list (.prod (.int .i64) (.prod (.int .i64) (.prod (.int .i64) (.int .i64)))), .int .i64] x = f28 x := by
  rintro ⟨v0, ⟨⟩⟩
  kernel_rfl
theorem fn28 : FnOK Tryz.prog 28 [.agg (.prod (.int .i64) (.prod (.list (.int .i64)) (.prod (.list (.int .i64)) (.list (.int .i64)))))] [.list (.prod (.int .i64) (.prod (.int .i64) (.prod (.int .i64) (.int .i64)))), .int .i64] f28 := by
  exact fun_okR progOK E28_ok Tryz.func28 (c := c28) (by kernel_rfl) (keep := keepR Tryz.f28) (lt := lt28) (rt := rt28) (subs_ok loops28 ⟨sub_rangeC form28_0 first28_0 rfl spec28_0, trivial⟩) body28
abbrev e28 : Ent := ⟨28, [.agg (.prod (.int .i64) (.prod (.list (.int .i64)) (.prod (.list (.int .i64)) (.list (.int .i64)))))], [.list (.prod (.int .i64) (.prod (.int .i64) (.prod (.int .i64) (.int .i64)))), .int .i64], f28⟩
theorem e28_ok : Ent.OK Tryz.prog e28 := fn28

/-! schisma/isomorphy.canonical -/
abbrev sh47_0 : List (Nat × Kd) := [(1, .box 25 (.prod (.int .i64) (.prod (.list (.int .i64)) (.prod (.list (.int .i64)) (.list (.int .i64)))))), (2, .box 25 (.prod (.int .i64) (.prod (.list (.int .i64)) (.prod (.list (.int .i64)) (.list (.int .i64)))))), (3, .box 27 (.prod (.int .i64) (.prod (.int .i64) (.prod (.int .i64) (.int .i64))))), (4, .box 30 (.int .i64)), (5, .box 25 (.prod (.int .i64) (.prod (.list (.int .i64)) (.prod (.list (.int .i64)) (.list (.int .i64)))))), (6, .box 27 (.prod (.int .i64) (.prod (.int .i64) (.prod (.int .i64) (.int .i64))))), (7, .box 4 .bool), (15, .clo 62 [(.list (.prod (.int .i64) (.int .i64)))])]
abbrev ex47_0 : List (Ex × List (Nat × Kd)) := [(.normal, [(1, .box 25 (.prod (.int .i64) (.prod (.list (.int .i64)) (.prod (.list (.int .i64)) (.list (.int .i64)))))), (2, .box 25 (.prod (.int .i64) (.prod (.list (.int .i64)) (.prod (.list (.int .i64)) (.list (.int .i64)))))), (3, .box 27 (.prod (.int .i64) (.prod (.int .i64) (.prod (.int .i64) (.int .i64))))), (4, .box 30 (.int .i64)), (5, .box 25 (.prod (.int .i64) (.prod (.list (.int .i64)) (.prod (.list (.int .i64)) (.list (.int .i64)))))), (6, .box 27 (.prod (.int .i64) (.prod (.int .i64) (.prod (.int .i64) (.int .i64)))))]), (.ret, [(2, .box 25 (.prod (.int .i64) (.prod (.list (.int .i64)) (.prod (.list (.int .i64)) (.list (.int .i64)))))), (3, .box 27 (.prod (.int .i64) (.prod (.int .i64) (.prod (.int .i64) (.int .i64))))), (4, .box 30 (.int .i64))])]
def step47_0 (x : Shape.den sh47_0) (e : denK [.agg (.prod (.int .i64) (.prod (.int .i64) (.prod (.int .i64) (.int .i64))))]) : Option (Shape.den sh47_0 ⊕ exDen ex47_0) := match x, e with
  | (v1, v2, v3, v4, v5, v6, v7, v15, ()), (e0, ()) =>
    askO (f40 ((v1.1, (v1.2.1, (v1.2.2.1, v1.2.2.2))), (e0.1, (e0.2.1, (e0.2.2.1, e0.2.2.2))), ())) fun y2 =>
    askO (f39 ((y2.1.1, (y2.1.2.1, (y2.1.2.2.1, y2.1.2.2.2))), ())) fun y3 =>
    bif !(eqI y3.2.1 0) then
      some (.inr (.inr (((0, ([], ([], []))), (0, (0, (0, 0))), y3.2.1, ()))))
    else bif v7 then
      askO (f48 ((y3.1.1, (y3.1.2.1, (y3.1.2.2.1, y3.1.2.2.2))), (v5.1, (v5.2.1, (v5.2.2.1, v5.2.2.2))), ())) fun y4 =>
      bif ltI y4.1 0 then
        some (.inl ((v1.1, (v1.2.1, (v1.2.2.1, v1.2.2.2))), (v2.1, (v2.2.1, (v2.2.2.1, v2.2.2.2))), (v3.1, (v3.2.1, (v3.2.2.1, v3.2.2.2))), v4, (y3.1.1, (y3.1.2.1, (y3.1.2.2.1, y3.1.2.2.2))), (e0.1, (e0.2.1, (e0.2.2.1, e0.2.2.2))), true, (v15.1, ()), ()))
      else some (.inl ((v1.1, (v1.2.1, (v1.2.2.1, v1.2.2.2))), (v2.1, (v2.2.1, (v2.2.2.1, v2.2.2.2))), (v3.1, (v3.2.1, (v3.2.2.1, v3.2.2.2))), v4, (v5.1, (v5.2.1, (v5.2.2.1, v5.2.2.2))), (v6.1, (v6.2.1, (v6.2.2.1, v6.2.2.2))), v7, (v15.1, ()), ()))
    else some (.inl ((v1.1, (v1.2.1, (v1.2.2.1, v1.2.2.2))), (v2.1, (v2.2.1, (v2.2.2.1, v2.2.2.2))), (v3.1, (v3.2.1, (v3.2.2.1, v3.2.2.2))), v4, (y3.1.1, (y3.1.2.1, (y3.1.2.2.1, y3.1.2.2.2))), (e0.1, (e0.2.1, (e0.2.2.1, e0.2.2.2))), true, (v15.1, ()), ()))
def cap47_0 (x : Shape.den sh47_0) : denT [(.list (.prod (.int .i64) (.int .i64)))] := match x with
  | (v1, v2, v3, v4, v5, v6, v7, v15, ()) => (v15.1, ())
def loop47_0 (x : Shape.den sh47_0) : Option (exDen ex47_0) := runG sh47_0 ex47_0 (fun x => fTurns (cap47_0 x)) step47_0 x
def f47 (x : denK [.agg (.prod (.int .i64) (.prod (.list (.int .i64)) (.prod (.list (.int .i64)) (.list (.int .i64)))))]) : Option (denK [.agg (.prod (.int .i64) (.prod (.list (.int .i64)) (.prod (.list (.int .i64)) (.list (.int .i64))))), .agg (.prod (.int .i64) (.prod (.int .i64) (.prod (.int .i64) (.int .i64)))), .int .i64]) := match x with
  | (v0, ()) =>
    askO (f38 (v0.1, ())) fun y1 =>
    askO (loop47_0 ((v0.1, (v0.2.1, (v0.2.2.1, v0.2.2.2))), (0, ([], ([], []))), (0, (0, (0, 0))), 0, (0, ([], ([], []))), (0, (0, (0, 0))), false, (y1.1.1, ()), ())) fun z5 =>
    onSum z5 (fun a6 => askO (f67k ((a6.1.2.1.length : Int), [a6.1.2.2.1, a6.1.2.2.2], ())) fun y8 =>
      bif !(eqI y8.2.1 0) then
        some ((0, ([], ([], []))), (0, (0, (0, 0))), y8.2.1, ())
      else askO (f68 ((y8.1.1, y8.1.2), a6.1.2.1, ())) fun y9 =>
      bif !(eqI y9.2.1 0) then
        some ((0, ([], ([], []))), (0, (0, (0, 0))), y9.2.1, ())
      else some ((a6.2.2.2.2.1.1, (y9.1, (a6.2.2.2.2.1.2.2.1, a6.2.2.2.2.1.2.2.2))), (a6.2.2.2.2.2.1.1, (a6.2.2.2.2.2.1.2.1, (a6.2.2.2.2.2.1.2.2.1, a6.2.2.2.2.2.1.2.2.2))), 0, ())) fun b7 =>
    some ((b7.1.1, (b7.1.2.1, (b7.1.2.2.1, b7.1.2.2.2))), (b7.2.1.1, (b7.2.1.2.1, (b7.2.1.2.2.1, b7.2.1.2.2.2))), b7.2.2.1, ())
noncomputable def c47 : Code := bodyOf Tryz.f47
abbrev E47 : Env := envOf [e38, e39, e40, e48, e67k, e68]
theorem E47_ok : EnvOK Tryz.prog E47 := env_ok ⟨e38_ok, e39_ok, e40_ok, e48_ok, e67k_ok, e68_ok, trivial⟩
noncomputable def r47_0 : Code := subAt c47 0
noncomputable def a47_0 : Code := inLoop r47_0
def lt47 (id : Nat) : Option LSpec := none
def rt47 (id : Nat) : Option LSpec := bif Nat.beq id 6 then some ⟨sh47_0, ex47_0, loop47_0⟩ else none
theorem first47_0 : firstRegion a47_0 = 6 := by kernel_rfl
theorem in47_0 : subsOf a47_0 = [] := by kernel_rfl
theorem form47_0 : r47_0 = .rangeFunc (seqOp r47_0) (psOf r47_0) (assignOf r47_0) (inLoop r47_0) := by kernel_rfl
theorem round47_0 : ∀ y e, roundG Tryz.prog E47 71 (keepR Tryz.f47) lt47 rt47 (psOf r47_0).toList (assignOf r47_0) (inLoop r47_0) [.agg (.prod (.int .i64) (.prod (.int .i64) (.prod (.int .i64) (.int .i64))))] sh47_0 ex47_0 y e = step47_0 y e := by
  rintro ⟨v1, v2, v3, v4, v5, v6, v7, v15, ⟨⟩⟩ ⟨e0, ⟨⟩⟩
  kernel_rfl
theorem seq47_0 : ∀ x, seqOf 62 [(.list (.prod (.int .i64) (.int .i64)))] sh47_0 (seqOp r47_0) x = some (cap47_0 x) := by
  rintro ⟨v1, v2, v3, v4, v5, v6, v7, v15, ⟨⟩⟩
  kernel_rfl
theorem spec47_0 : SpecR Tryz.prog 71 false [] r47_0 ⟨sh47_0, ex47_0, loop47_0⟩ := by
  exact range_okC E47_ok progOK form47_0 Tryz.func62 (c := bodyOf Tryz.f62) (by kernel_rfl) it62 (by kernel_rfl) (subs_ok in47_0 trivial) seq47_0 round47_0
theorem loops47 : subsOf c47 = [r47_0] := by kernel_rfl
theorem body47 : ∀ x, bodyR Tryz.prog E47 Tryz.f47 (keepR Tryz.f47) lt47 rt47 c47 [.agg (.prod (.int .i64) (.prod (.list (.int .i64)) (.prod (.list (.int .i64)) (.list (.int .i64)))))] [.agg (.prod (.int .i64) (.prod (.list (.int .i64)) (.prod (.list (.int .i64)) (.list (.int .i64))))), .agg (.prod (.int .i64) (.prod (.int .i64) (.prod (.int .i64) (.int .i64)))), .int .i64] x = f47 x := by
  rintro ⟨v0, ⟨⟩⟩
  kernel_rfl
theorem fn47 : FnOK Tryz.prog 47 [.agg (.prod (.int .i64) (.prod (.list (.int .i64)) (.prod (.list (.int .i64)) (.list (.int .i64)))))] [.agg (.prod (.int .i64) (.prod (.list (.int .i64)) (.prod (.list (.int .i64)) (.list (.int .i64))))), .agg (.prod (.int .i64) (.prod (.int .i64) (.prod (.int .i64) (.int .i64)))), .int .i64] f47 := by
  exact fun_okR progOK E47_ok Tryz.func47 (c := c47) (by kernel_rfl) (keep := keepR Tryz.f47) (lt := lt47) (rt := rt47) (subs_ok loops47 ⟨sub_rangeC form47_0 first47_0 rfl spec47_0, trivial⟩) body47
abbrev e47 : Ent := ⟨47, [.agg (.prod (.int .i64) (.prod (.list (.int .i64)) (.prod (.list (.int .i64)) (.list (.int .i64)))))], [.agg (.prod (.int .i64) (.prod (.list (.int .i64)) (.prod (.list (.int .i64)) (.list (.int .i64))))), .agg (.prod (.int .i64) (.prod (.int .i64) (.prod (.int .i64) (.int .i64)))), .int .i64], f47⟩
theorem e47_ok : Ent.OK Tryz.prog e47 := fn47

/-! schisma/isomorphy.Canonical -/
def f26 (x : denK [.agg (.prod (.int .i64) (.prod (.list (.int .i64)) (.prod (.list (.int .i64)) (.list (.int .i64)))))]) : Option (denK [.agg (.prod (.int .i64) (.prod (.list (.int .i64)) (.prod (.list (.int .i64)) (.list (.int .i64))))), .int .i64]) := match x with
  | (v0, ()) =>
    askO (f24 ((v0.1, (v0.2.1, (v0.2.2.1, v0.2.2.2))), ())) fun y1 =>
    bif !(eqI y1.1 0) then
      some ((0, ([], ([], []))), y1.1, ())
    else askO (f47 ((v0.1, (v0.2.1, (v0.2.2.1, v0.2.2.2))), ())) fun y2 =>
    some ((y2.1.1, (y2.1.2.1, (y2.1.2.2.1, y2.1.2.2.2))), y2.2.2.1, ())
noncomputable def c26 : Code := bodyOf Tryz.f26
abbrev E26 : Env := envOf [e24, e47]
theorem E26_ok : EnvOK Tryz.prog E26 := env_ok ⟨e24_ok, e47_ok, trivial⟩
def lt26 (id : Nat) : Option LSpec := none
theorem loops26 : loopsOf c26 = [] := by kernel_rfl
theorem body26 : ∀ x, bodyK Tryz.prog E26 Tryz.f26 (keepOf Tryz.f26) lt26 c26 [.agg (.prod (.int .i64) (.prod (.list (.int .i64)) (.prod (.list (.int .i64)) (.list (.int .i64)))))] [.agg (.prod (.int .i64) (.prod (.list (.int .i64)) (.prod (.list (.int .i64)) (.list (.int .i64))))), .int .i64] x = f26 x := by
  rintro ⟨v0, ⟨⟩⟩
  kernel_rfl
theorem fn26 : FnOK Tryz.prog 26 [.agg (.prod (.int .i64) (.prod (.list (.int .i64)) (.prod (.list (.int .i64)) (.list (.int .i64)))))] [.agg (.prod (.int .i64) (.prod (.list (.int .i64)) (.prod (.list (.int .i64)) (.list (.int .i64))))), .int .i64] f26 := by
  exact fun_ok progOK E26_ok Tryz.func26 (c := c26) (by kernel_rfl) (keep := keepOf Tryz.f26) (lt := lt26) (loops_ok loops26 trivial) body26
abbrev e26 : Ent := ⟨26, [.agg (.prod (.int .i64) (.prod (.list (.int .i64)) (.prod (.list (.int .i64)) (.list (.int .i64)))))], [.agg (.prod (.int .i64) (.prod (.list (.int .i64)) (.prod (.list (.int .i64)) (.list (.int .i64))))), .int .i64], f26⟩
theorem e26_ok : Ent.OK Tryz.prog e26 := fn26

/-! schisma/isomorphy.steps -/
abbrev sh49_0 : List (Nat × Kd) := [(0, .list (.int .i64)), (1, .list (.int .i64)), (11, .list (.int .i64)), (12, .int .i64), (13, .int .i64), (42, .agg (.prod (.int .i64) (.int .i64))), (43, .int .i64)]
abbrev ex49_0 : List (Ex × List (Nat × Kd)) := [(.ret, [(8, .int .i64), (9, .int .i64), (10, .bool)]), (.exit 4, [(0, .list (.int .i64)), (1, .list (.int .i64)), (11, .list (.int .i64)), (12, .int .i64), (13, .int .i64)])]
def step49_0 (x : Shape.den sh49_0) : Option (Shape.den sh49_0 ⊕ exDen ex49_0) := match x with
  | (v0, v1, v11, v12, v13, v42, v43, ()) =>
    bif ltI v43 2 then
      bif eqI v43 0 then
        askO (f65 (v0, v1, v13, v42.1, ())) fun y6 =>
        askO (f46 (y6.1, v11, ())) fun y7 =>
        bif y7.1 then
          some (.inr (.inl (v13, v42.1, true, ())))
        else some (.inl (v0, v1, v11, v12, v13, (v42.1, v42.2), (wrapF .i64 (v43 + 1)), ()))
      else bif eqI v43 1 then askO (f65 (v0, v1, v13, v42.2, ())) fun y8 =>
      askO (f46 (y8.1, v11, ())) fun y9 =>
      bif y9.1 then
        some (.inr (.inl (v13, v42.2, true, ())))
      else some (.inl (v0, v1, v11, v12, v13, (v42.1, v42.2), (wrapF .i64 (v43 + 1)), ())) else none
    else some (.inr (.inr ((v0, v1, v11, v12, v13, ()))))
def loop49_0 (x : Shape.den sh49_0) : Option (exDen ex49_0) := loopN step49_0 (2 ^ 64) x
abbrev sh49_1 : List (Nat × Kd) := [(0, .list (.int .i64)), (1, .list (.int .i64)), (11, .list (.int .i64)), (12, .int .i64), (13, .int .i64)]
abbrev ex49_1 : List (Ex × List (Nat × Kd)) := [(.ret, [(8, .int .i64), (9, .int .i64), (10, .bool)]), (.exit 2, [(0, .list (.int .i64)), (1, .list (.int .i64)), (11, .list (.int .i64)), (12, .int .i64)])]
def step49_1 (x : Shape.den sh49_1) : Option (Shape.den sh49_1 ⊕ exDen ex49_1) := match x with
  | (v0, v1, v11, v12, v13, ()) =>
    bif !(ltI v12 v13) then
      askO (loop49_0 (v0, v1, v11, v12, v13, ((wrapF .i64 (v12 - (if v13 < (IntKind.wrap .i64 (0 - v13)) then (IntKind.wrap .i64 (0 - v13)) else v13))), (wrapF .i64 ((if v13 < (IntKind.wrap .i64 (0 - v13)) then (IntKind.wrap .i64 (0 - v13)) else v13) - v12))), 0, ())) fun z13 =>
      onSum z13 (fun a14 => some (.inr (.inl (a14.1, a14.2.1, a14.2.2.1, ())))) fun b15 =>
      some (.inl (b15.1, b15.2.1, b15.2.2.1, b15.2.2.2.1, (wrapF .i64 (b15.2.2.2.2.1 + 1)), ()))
    else some (.inr (.inr ((v0, v1, v11, v12, ()))))
def loop49_1 (x : Shape.den sh49_1) : Option (exDen ex49_1) := loopN step49_1 (2 ^ 64) x
abbrev sh49_2 : List (Nat × Kd) := [(0, .list (.int .i64)), (1, .list (.int .i64)), (11, .list (.int .i64)), (12, .int .i64)]
abbrev ex49_2 : List (Ex × List (Nat × Kd)) := [(.ret, [(8, .int .i64), (9, .int .i64), (10, .bool)]), (.exit 0, [(0, .list (.int .i64)), (1, .list (.int .i64)), (11, .list (.int .i64))])]
def step49_2 (x : Shape.den sh49_2) : Option (Shape.den sh49_2 ⊕ exDen ex49_2) := match x with
  | (v0, v1, v11, v12, ()) =>
    bif !(ltI 2000 v12) then
      askO (loop49_1 (v0, v1, v11, v12, (IntKind.wrap .i64 (0 - v12)), ())) fun z19 =>
      onSum z19 (fun a20 => some (.inr (.inl (a20.1, a20.2.1, a20.2.2.1, ())))) fun b21 =>
      bif ltI 16 b21.2.2.2.1 then
        some (.inr (.inr ((b21.1, b21.2.1, b21.2.2.1, ()))))
      else some (.inl (b21.1, b21.2.1, b21.2.2.1, (wrapF .i64 (b21.2.2.2.1 + 1)), ()))
    else some (.inr (.inr ((v0, v1, v11, ()))))
def loop49_2 (x : Shape.den sh49_2) : Option (exDen ex49_2) := loopN step49_2 (2 ^ 64) x
def f49 (x : denK [.list (.int .i64), .list (.int .i64), .list (.int .i64), .list (.int .i64)]) : Option (denK [.int .i64, .int .i64, .bool]) := match x with
  | (v0, v1, v2, v3, ()) =>
    askO (f65 (v3, v2, 1, (-1), ())) fun y1 =>
    askO (loop49_2 (v0, v1, y1.1, 0, ())) fun z22 =>
    onSum z22 (fun a23 => some (a23.1, a23.2.1, a23.2.2.1, ())) fun b24 =>
    none
noncomputable def c49 : Code := bodyOf Tryz.f49
abbrev E49 : Env := envOf [e46, e65]
theorem E49_ok : EnvOK Tryz.prog E49 := env_ok ⟨e46_ok, e65_ok, trivial⟩
noncomputable def a49_2 : Code := loopAt c49 0
noncomputable def a49_1 : Code := loopAt a49_2 0
noncomputable def a49_0 : Code := loopAt a49_1 0
def lt49 (id : Nat) : Option LSpec := bif Nat.beq id 9 then some ⟨sh49_0, ex49_0, loop49_0⟩ else bif Nat.beq id 6 then some ⟨sh49_1, ex49_1, loop49_1⟩ else bif Nat.beq id 3 then some ⟨sh49_2, ex49_2, loop49_2⟩ else none
theorem round49_0 : ∀ x, roundK Tryz.prog E49 65 (keepOf Tryz.f49) lt49 a49_0 sh49_0 ex49_0 x = step49_0 x := by
  rintro ⟨v0, v1, v11, v12, v13, v42, v43, ⟨⟩⟩
  kernel_rfl
theorem in49_0 : loopsOf a49_0 = [] := by kernel_rfl
theorem first49_0 : firstRegion a49_0 = 9 := by kernel_rfl
theorem spec49_0 : SpecOK Tryz.prog 65 a49_0 ⟨sh49_0, ex49_0, loop49_0⟩ := by
  exact loop_ok E49_ok.callee progOK.mixed _ (loops_ok in49_0 trivial) round49_0
theorem round49_1 : ∀ x, roundK Tryz.prog E49 65 (keepOf Tryz.f49) lt49 a49_1 sh49_1 ex49_1 x = step49_1 x := by
  rintro ⟨v0, v1, v11, v12, v13, ⟨⟩⟩
  kernel_rfl
theorem in49_1 : loopsOf a49_1 = [a49_0] := by kernel_rfl
theorem first49_1 : firstRegion a49_1 = 6 := by kernel_rfl
theorem spec49_1 : SpecOK Tryz.prog 65 a49_1 ⟨sh49_1, ex49_1, loop49_1⟩ := by
  exact loop_ok E49_ok.callee progOK.mixed _ (loops_ok in49_1 ⟨spec_of first49_0 rfl spec49_0, trivial⟩) round49_1
theorem round49_2 : ∀ x, roundK Tryz.prog E49 65 (keepOf Tryz.f49) lt49 a49_2 sh49_2 ex49_2 x = step49_2 x := by
  rintro ⟨v0, v1, v11, v12, ⟨⟩⟩
  kernel_rfl
theorem in49_2 : loopsOf a49_2 = [a49_1] := by kernel_rfl
theorem first49_2 : firstRegion a49_2 = 3 := by kernel_rfl
theorem spec49_2 : SpecOK Tryz.prog 65 a49_2 ⟨sh49_2, ex49_2, loop49_2⟩ := by
  exact loop_ok E49_ok.callee progOK.mixed _ (loops_ok in49_2 ⟨spec_of first49_1 rfl spec49_1, trivial⟩) round49_2
theorem loops49 : loopsOf c49 = [a49_2] := by kernel_rfl
theorem body49 : ∀ x, bodyK Tryz.prog E49 Tryz.f49 (keepOf Tryz.f49) lt49 c49 [.list (.int .i64), .list (.int .i64), .list (.int .i64), .list (.int .i64)] [.int .i64, .int .i64, .bool] x = f49 x := by
  rintro ⟨v0, v1, v2, v3, ⟨⟩⟩
  kernel_rfl
theorem fn49 : FnOK Tryz.prog 49 [.list (.int .i64), .list (.int .i64), .list (.int .i64), .list (.int .i64)] [.int .i64, .int .i64, .bool] f49 := by
  exact fun_ok progOK E49_ok Tryz.func49 (c := c49) (by kernel_rfl) (keep := keepOf Tryz.f49) (lt := lt49) (loops_ok loops49 ⟨spec_of first49_2 rfl spec49_2, trivial⟩) body49
abbrev e49 : Ent := ⟨49, [.list (.int .i64), .list (.int .i64), .list (.int .i64), .list (.int .i64)], [.int .i64, .int .i64, .bool], f49⟩
theorem e49_ok : Ent.OK Tryz.prog e49 := fn49

/-! schisma/isomorphy.Isomorphic -/
abbrev sh27_0 : List (Nat × Kd) := [(2, .box 25 (.prod (.int .i64) (.prod (.list (.int .i64)) (.prod (.list (.int .i64)) (.list (.int .i64)))))), (3, .box 25 (.prod (.int .i64) (.prod (.list (.int .i64)) (.prod (.list (.int .i64)) (.list (.int .i64)))))), (4, .box 49 (.prod (.prod (.int .i64) (.prod (.int .i64) (.prod (.int .i64) (.int .i64)))) (.prod (.int .i64) (.int .i64)))), (5, .box 4 .bool), (6, .box 30 (.int .i64)), (21, .agg (.prod (.prod (.int .i64) (.prod (.list (.int .i64)) (.prod (.list (.int .i64)) (.list (.int .i64))))) (.prod (.int .i64) (.prod (.list (.int .i64)) (.prod (.list (.int .i64)) (.list (.int .i64))))))), (22, .int .i64)]
abbrev ex27_0 : List (Ex × List (Nat × Kd)) := [(.ret, [(4, .box 49 (.prod (.prod (.int .i64) (.prod (.int .i64) (.prod (.int .i64) (.int .i64)))) (.prod (.int .i64) (.int .i64)))), (5, .box 4 .bool), (6, .box 30 (.int .i64))]), (.exit 0, [(2, .box 25 (.prod (.int .i64) (.prod (.list (.int .i64)) (.prod (.list (.int .i64)) (.list (.int .i64)))))), (3, .box 25 (.prod (.int .i64) (.prod (.list (.int .i64)) (.prod (.list (.int .i64)) (.list (.int .i64)))))), (4, .box 49 (.prod (.prod (.int .i64) (.prod (.int .i64) (.prod (.int .i64) (.int .i64)))) (.prod (.int .i64) (.int .i64)))), (5, .box 4 .bool), (6, .box 30 (.int .i64))])]
def step27_0 (x : Shape.den sh27_0) : Option (Shape.den sh27_0 ⊕ exDen ex27_0) := match x with
  | (v2, v3, v4, v5, v6, v21, v22, ()) =>
    bif ltI v22 2 then
      bif eqI v22 0 then
        askO (f24 ((v21.1.1, (v21.1.2.1, (v21.1.2.2.1, v21.1.2.2.2))), ())) fun y3 =>
        bif !(eqI y3.1 0) then
          some (.inr (.inl (((0, (0, (0, 0))), (0, 0)), false, y3.1, ())))
        else some (.inl ((v2.1, (v2.2.1, (v2.2.2.1, v2.2.2.2))), (v3.1, (v3.2.1, (v3.2.2.1, v3.2.2.2))), ((v4.1.1, (v4.1.2.1, (v4.1.2.2.1, v4.1.2.2.2))), (v4.2.1, v4.2.2)), v5, v6, ((v21.1.1, (v21.1.2.1, (v21.1.2.2.1, v21.1.2.2.2))), (v21.2.1, (v21.2.2.1, (v21.2.2.2.1, v21.2.2.2.2)))), (wrapF .i64 (v22 + 1)), ()))
      else bif eqI v22 1 then askO (f24 ((v21.2.1, (v21.2.2.1, (v21.2.2.2.1, v21.2.2.2.2))), ())) fun y4 =>
      bif !(eqI y4.1 0) then
        some (.inr (.inl (((0, (0, (0, 0))), (0, 0)), false, y4.1, ())))
      else some (.inl ((v2.1, (v2.2.1, (v2.2.2.1, v2.2.2.2))), (v3.1, (v3.2.1, (v3.2.2.1, v3.2.2.2))), ((v4.1.1, (v4.1.2.1, (v4.1.2.2.1, v4.1.2.2.2))), (v4.2.1, v4.2.2)), v5, v6, ((v21.1.1, (v21.1.2.1, (v21.1.2.2.1, v21.1.2.2.2))), (v21.2.1, (v21.2.2.1, (v21.2.2.2.1, v21.2.2.2.2)))), (wrapF .i64 (v22 + 1)), ())) else none
    else some (.inr (.inr (((v2.1, (v2.2.1, (v2.2.2.1, v2.2.2.2))), (v3.1, (v3.2.1, (v3.2.2.1, v3.2.2.2))), ((v4.1.1, (v4.1.2.1, (v4.1.2.2.1, v4.1.2.2.2))), (v4.2.1, v4.2.2)), v5, v6, ()))))
def loop27_0 (x : Shape.den sh27_0) : Option (exDen ex27_0) := loopN step27_0 (2 ^ 64) x
abbrev sh27_1 : List (Nat × Kd) := [(2, .box 25 (.prod (.int .i64) (.prod (.list (.int .i64)) (.prod (.list (.int .i64)) (.list (.int .i64)))))), (3, .box 25 (.prod (.int .i64) (.prod (.list (.int .i64)) (.prod (.list (.int .i64)) (.list (.int .i64)))))), (4, .box 49 (.prod (.prod (.int .i64) (.prod (.int .i64) (.prod (.int .i64) (.int .i64)))) (.prod (.int .i64) (.int .i64)))), (5, .box 4 .bool), (6, .box 30 (.int .i64)), (67, .clo 62 [(.list (.prod (.int .i64) (.int .i64)))])]
abbrev ex27_1 : List (Ex × List (Nat × Kd)) := [(.normal, [(4, .box 49 (.prod (.prod (.int .i64) (.prod (.int .i64) (.prod (.int .i64) (.int .i64)))) (.prod (.int .i64) (.int .i64)))), (5, .box 4 .bool), (6, .box 30 (.int .i64))]), (.ret, [(4, .box 49 (.prod (.prod (.int .i64) (.prod (.int .i64) (.prod (.int .i64) (.int .i64)))) (.prod (.int .i64) (.int .i64)))), (5, .box 4 .bool), (6, .box 30 (.int .i64))])]
def step27_1 (x : Shape.den sh27_1) (e : denK [.agg (.prod (.int .i64) (.prod (.int .i64) (.prod (.int .i64) (.int .i64))))]) : Option (Shape.den sh27_1 ⊕ exDen ex27_1) := match x, e with
  | (v2, v3, v4, v5, v6, v67, ()), (e0, ()) =>
    askO (f40 ((v2.1, (v2.2.1, (v2.2.2.1, v2.2.2.2))), (e0.1, (e0.2.1, (e0.2.2.1, e0.2.2.2))), ())) fun y12 =>
    askO (f48 ((y12.1.1, (y12.1.2.1, (y12.1.2.2.1, y12.1.2.2.2))), (v3.1, (v3.2.1, (v3.2.2.1, v3.2.2.2))), ())) fun y13 =>
    bif !(eqI y13.1 0) then
      some (.inl ((v2.1, (v2.2.1, (v2.2.2.1, v2.2.2.2))), (v3.1, (v3.2.1, (v3.2.2.1, v3.2.2.2))), ((v4.1.1, (v4.1.2.1, (v4.1.2.2.1, v4.1.2.2.2))), (v4.2.1, v4.2.2)), v5, v6, (v67.1, ()), ()))
    else askO (f49 (v2.2.2.1, v2.2.2.2, v2.2.1, v3.2.1, ())) fun y14 =>
    bif y14.2.2.1 then
      bif !(ltI 1000 (if y14.1 < (IntKind.wrap .i64 (0 - y14.1)) then (IntKind.wrap .i64 (0 - y14.1)) else y14.1)) then
        bif !(ltI 1000 (if y14.2.1 < (IntKind.wrap .i64 (0 - y14.2.1)) then (IntKind.wrap .i64 (0 - y14.2.1)) else y14.2.1)) then
          some (.inr (.inr ((((e0.1, (e0.2.1, (e0.2.2.1, e0.2.2.2))), (y14.1, y14.2.1)), true, 0, ()))))
        else some (.inl ((v2.1, (v2.2.1, (v2.2.2.1, v2.2.2.2))), (v3.1, (v3.2.1, (v3.2.2.1, v3.2.2.2))), ((v4.1.1, (v4.1.2.1, (v4.1.2.2.1, v4.1.2.2.2))), (v4.2.1, v4.2.2)), v5, v6, (v67.1, ()), ()))
      else some (.inl ((v2.1, (v2.2.1, (v2.2.2.1, v2.2.2.2))), (v3.1, (v3.2.1, (v3.2.2.1, v3.2.2.2))), ((v4.1.1, (v4.1.2.1, (v4.1.2.2.1, v4.1.2.2.2))), (v4.2.1, v4.2.2)), v5, v6, (v67.1, ()), ()))
    else some (.inl ((v2.1, (v2.2.1, (v2.2.2.1, v2.2.2.2))), (v3.1, (v3.2.1, (v3.2.2.1, v3.2.2.2))), ((v4.1.1, (v4.1.2.1, (v4.1.2.2.1, v4.1.2.2.2))), (v4.2.1, v4.2.2)), v5, v6, (v67.1, ()), ()))
def cap27_1 (x : Shape.den sh27_1) : denT [(.list (.prod (.int .i64) (.int .i64)))] := match x with
  | (v2, v3, v4, v5, v6, v67, ()) => (v67.1, ())
def loop27_1 (x : Shape.den sh27_1) : Option (exDen ex27_1) := runG sh27_1 ex27_1 (fun x => fTurns (cap27_1 x)) step27_1 x
def f27 (x : denK [.agg (.prod (.int .i64) (.prod (.list (.int .i64)) (.prod (.list (.int .i64)) (.list (.int .i64))))), .agg (.prod (.int .i64) (.prod (.list (.int .i64)) (.prod (.list (.int .i64)) (.list (.int .i64)))))]) : Option (denK [.agg (.prod (.prod (.int .i64) (.prod (.int .i64) (.prod (.int .i64) (.int .i64)))) (.prod (.int .i64) (.int .i64))), .bool, .int .i64]) := match x with
  | (v0, v1, ()) =>
    askO (loop27_0 ((v0.1, (v0.2.1, (v0.2.2.1, v0.2.2.2))), (v1.1, (v1.2.1, (v1.2.2.1, v1.2.2.2))), ((0, (0, (0, 0))), (0, 0)), false, 0, ((v0.1, (v0.2.1, (v0.2.2.1, v0.2.2.2))), (v1.1, (v1.2.1, (v1.2.2.1, v1.2.2.2)))), 0, ())) fun z5 =>
    onSum z5 (fun a6 => some (((a6.1.1.1, (a6.1.1.2.1, (a6.1.1.2.2.1, a6.1.1.2.2.2))), (a6.1.2.1, a6.1.2.2)), a6.2.1, a6.2.2.1, ())) fun b7 =>
    bif !(eqI (b7.1.2.1.length : Int) (b7.2.1.2.1.length : Int)) then
      some (((0, (0, (0, 0))), (0, 0)), false, 5, ())
    else askO (f47 ((b7.1.1, (b7.1.2.1, (b7.1.2.2.1, b7.1.2.2.2))), ())) fun y8 =>
    bif !(eqI y8.2.2.1 0) then
      some (((0, (0, (0, 0))), (0, 0)), false, y8.2.2.1, ())
    else askO (f47 ((b7.2.1.1, (b7.2.1.2.1, (b7.2.1.2.2.1, b7.2.1.2.2.2))), ())) fun y9 =>
    bif !(eqI y9.2.2.1 0) then
      some (((0, (0, (0, 0))), (0, 0)), false, y9.2.2.1, ())
    else askO (f25 ((y8.1.1, (y8.1.2.1, (y8.1.2.2.1, y8.1.2.2.2))), (y9.1.1, (y9.1.2.1, (y9.1.2.2.1, y9.1.2.2.2))), ())) fun y10 =>
    bif y10.1 then
      askO (f38 (b7.1.1, ())) fun y11 =>
      askO (loop27_1 ((b7.1.1, (b7.1.2.1, (b7.1.2.2.1, b7.1.2.2.2))), (b7.2.1.1, (b7.2.1.2.1, (b7.2.1.2.2.1, b7.2.1.2.2.2))), ((b7.2.2.1.1.1, (b7.2.2.1.1.2.1, (b7.2.2.1.1.2.2.1, b7.2.2.1.1.2.2.2))), (b7.2.2.1.2.1, b7.2.2.1.2.2)), b7.2.2.2.1, y9.2.2.1, (y11.1.1, ()), ())) fun z15 =>
      onSum z15 (fun a16 => some (((0, (0, (0, 0))), (0, 0)), false, 3, ())) fun b17 =>
      some (((b17.1.1.1, (b17.1.1.2.1, (b17.1.1.2.2.1, b17.1.1.2.2.2))), (b17.1.2.1, b17.1.2.2)), b17.2.1, b17.2.2.1, ())
    else some (((0, (0, (0, 0))), (0, 0)), false, 0, ())
noncomputable def c27 : Code := bodyOf Tryz.f27
abbrev E27 : Env := envOf [e24, e25, e38, e40, e47, e48, e49]
theorem E27_ok : EnvOK Tryz.prog E27 := env_ok ⟨e24_ok, e25_ok, e38_ok, e40_ok, e47_ok, e48_ok, e49_ok, trivial⟩
noncomputable def a27_0 : Code := inLoop (subAt c27 0)
noncomputable def r27_1 : Code := subAt c27 1
noncomputable def a27_1 : Code := inLoop r27_1
def lt27 (id : Nat) : Option LSpec := bif Nat.beq id 2 then some ⟨sh27_0, ex27_0, loop27_0⟩ else none
def rt27 (id : Nat) : Option LSpec := bif Nat.beq id 20 then some ⟨sh27_1, ex27_1, loop27_1⟩ else none
theorem first27_0 : firstRegion a27_0 = 2 := by kernel_rfl
theorem in27_0 : subsOf a27_0 = [] := by kernel_rfl
theorem round27_0 : ∀ x, roundR Tryz.prog E27 109 (keepR Tryz.f27) lt27 rt27 false [] a27_0 sh27_0 ex27_0 x = step27_0 x := by
  rintro ⟨v2, v3, v4, v5, v6, v21, v22, ⟨⟩⟩
  kernel_rfl
theorem spec27_0 : SpecR Tryz.prog 109 false [] (.loop a27_0) ⟨sh27_0, ex27_0, loop27_0⟩ := by
  exact loop_okR E27_ok.callee progOK.mixed _ (subs_ok in27_0 trivial) round27_0
theorem first27_1 : firstRegion a27_1 = 20 := by kernel_rfl
theorem in27_1 : subsOf a27_1 = [] := by kernel_rfl
theorem form27_1 : r27_1 = .rangeFunc (seqOp r27_1) (psOf r27_1) (assignOf r27_1) (inLoop r27_1) := by kernel_rfl
theorem round27_1 : ∀ y e, roundG Tryz.prog E27 109 (keepR Tryz.f27) lt27 rt27 (psOf r27_1).toList (assignOf r27_1) (inLoop r27_1) [.agg (.prod (.int .i64) (.prod (.int .i64) (.prod (.int .i64) (.int .i64))))] sh27_1 ex27_1 y e = step27_1 y e := by
  rintro ⟨v2, v3, v4, v5, v6, v67, ⟨⟩⟩ ⟨e0, ⟨⟩⟩
  kernel_rfl
theorem seq27_1 : ∀ x, seqOf 62 [(.list (.prod (.int .i64) (.int .i64)))] sh27_1 (seqOp r27_1) x = some (cap27_1 x) := by
  rintro ⟨v2, v3, v4, v5, v6, v67, ⟨⟩⟩
  kernel_rfl
theorem spec27_1 : SpecR Tryz.prog 109 false [] r27_1 ⟨sh27_1, ex27_1, loop27_1⟩ := by
  exact range_okC E27_ok progOK form27_1 Tryz.func62 (c := bodyOf Tryz.f62) (by kernel_rfl) it62 (by kernel_rfl) (subs_ok in27_1 trivial) seq27_1 round27_1
theorem loops27 : subsOf c27 = [.loop a27_0, r27_1] := by kernel_rfl
theorem body27 : ∀ x, bodyR Tryz.prog E27 Tryz.f27 (keepR Tryz.f27) lt27 rt27 c27 [.agg (.prod (.int .i64) (.prod (.list (.int .i64)) (.prod (.list (.int .i64)) (.list (.int .i64))))), .agg (.prod (.int .i64) (.prod (.list (.int .i64)) (.prod (.list (.int .i64)) (.list (.int .i64)))))] [.agg (.prod (.prod (.int .i64) (.prod (.int .i64) (.prod (.int .i64) (.int .i64)))) (.prod (.int .i64) (.int .i64))), .bool, .int .i64] x = f27 x := by
  rintro ⟨v0, v1, ⟨⟩⟩
  kernel_rfl
theorem fn27 : FnOK Tryz.prog 27 [.agg (.prod (.int .i64) (.prod (.list (.int .i64)) (.prod (.list (.int .i64)) (.list (.int .i64))))), .agg (.prod (.int .i64) (.prod (.list (.int .i64)) (.prod (.list (.int .i64)) (.list (.int .i64)))))] [.agg (.prod (.prod (.int .i64) (.prod (.int .i64) (.prod (.int .i64) (.int .i64)))) (.prod (.int .i64) (.int .i64))), .bool, .int .i64] f27 := by
  exact fun_okR progOK E27_ok Tryz.func27 (c := c27) (by kernel_rfl) (keep := keepR Tryz.f27) (lt := lt27) (rt := rt27) (subs_ok loops27 ⟨sub_loop first27_0 rfl spec27_0, sub_rangeC form27_1 first27_1 rfl spec27_1, trivial⟩) body27
abbrev e27 : Ent := ⟨27, [.agg (.prod (.int .i64) (.prod (.list (.int .i64)) (.prod (.list (.int .i64)) (.list (.int .i64))))), .agg (.prod (.int .i64) (.prod (.list (.int .i64)) (.prod (.list (.int .i64)) (.list (.int .i64)))))], [.agg (.prod (.prod (.int .i64) (.prod (.int .i64) (.prod (.int .i64) (.int .i64)))) (.prod (.int .i64) (.int .i64))), .bool, .int .i64], f27⟩
theorem e27_ok : Ent.OK Tryz.prog e27 := fn27

/-! schisma/isomorphy.Shift -/
def f20 (x : denK [.agg (.prod (.int .i64) (.prod (.list (.int .i64)) (.prod (.list (.int .i64)) (.list (.int .i64))))), .int .i64, .int .i64]) : Option (denK [.agg (.prod (.int .i64) (.prod (.list (.int .i64)) (.prod (.list (.int .i64)) (.list (.int .i64))))), .int .i64]) := match x with
  | (v0, v1, v2, ()) =>
    askO (f24 ((v0.1, (v0.2.1, (v0.2.2.1, v0.2.2.2))), ())) fun y1 =>
    bif !(eqI y1.1 0) then
      some ((0, ([], ([], []))), y1.1, ())
    else bif ltI v1 (-1000) then
      some ((0, ([], ([], []))), 3, ())
    else bif ltI 1000 v1 then
      some ((0, ([], ([], []))), 3, ())
    else bif ltI v2 (-1000) then
      some ((0, ([], ([], []))), 3, ())
    else bif ltI 1000 v2 then some ((0, ([], ([], []))), 3, ()) else none
noncomputable def c20 : Code := bodyOf Tryz.f20
abbrev E20 : Env := envOf [e24]
theorem E20_ok : EnvOK Tryz.prog E20 := env_ok ⟨e24_ok, trivial⟩
def lt20 (id : Nat) : Option LSpec := none
theorem loops20 : loopsOf c20 = [] := by kernel_rfl
theorem body20 : ∀ x, bodyK Tryz.prog E20 Tryz.f20 (keepOf Tryz.f20) lt20 c20 [.agg (.prod (.int .i64) (.prod (.list (.int .i64)) (.prod (.list (.int .i64)) (.list (.int .i64))))), .int .i64, .int .i64] [.agg (.prod (.int .i64) (.prod (.list (.int .i64)) (.prod (.list (.int .i64)) (.list (.int .i64))))), .int .i64] x = f20 x := by
  rintro ⟨v0, v1, v2, ⟨⟩⟩
  kernel_rfl
theorem fn20 : FnOK Tryz.prog 20 [.agg (.prod (.int .i64) (.prod (.list (.int .i64)) (.prod (.list (.int .i64)) (.list (.int .i64))))), .int .i64, .int .i64] [.agg (.prod (.int .i64) (.prod (.list (.int .i64)) (.prod (.list (.int .i64)) (.list (.int .i64))))), .int .i64] f20 := by
  exact fun_ok progOK E20_ok Tryz.func20 (c := c20) (by kernel_rfl) (keep := keepOf Tryz.f20) (lt := lt20) (loops_ok loops20 trivial) body20
abbrev e20 : Ent := ⟨20, [.agg (.prod (.int .i64) (.prod (.list (.int .i64)) (.prod (.list (.int .i64)) (.list (.int .i64))))), .int .i64, .int .i64], [.agg (.prod (.int .i64) (.prod (.list (.int .i64)) (.prod (.list (.int .i64)) (.list (.int .i64))))), .int .i64], f20⟩
theorem e20_ok : Ent.OK Tryz.prog e20 := fn20
end Go.PM

set_option linter.unusedSimpArgs false
set_option linter.unusedVariables false
namespace Go.PM
open Go Go.RowKit Go.Proofs
set_option maxRecDepth 100000
set_option maxHeartbeats 4000000

/-! schisma/schismalaw46.known -/
def g12 (x : denK []) : Option (denK [.bool]) := match x with
  | (()) =>
    askO (f26 ((1, ([0], ([2], [5]))), ())) fun y1 =>
    askO (f26 ((2, ([0], ([2], [5]))), ())) fun y2 =>
    askO (f28 ((1, ([0], ([1], [1]))), ())) fun y3 =>
    askO (f27 ((1, ([0], ([2], [5]))), (1, ([0], ([5], [2]))), ())) fun y4 =>
    bif eqI y1.2.1 0 then
      askO (f19 ((y1.1.1, (y1.1.2.1, (y1.1.2.2.1, y1.1.2.2.2))), (1, ([0], ([(-5)], [(-2)]))), ())) fun y5 =>
      bif y5.1 then
        bif eqI y2.2.1 0 then
          askO (f19 ((y2.1.1, (y2.1.2.1, (y2.1.2.2.1, y2.1.2.2.2))), (2, ([0], ([(-5)], [(-3)]))), ())) fun y6 =>
          bif y6.1 then
            bif eqI y3.2.1 0 then
              bif eqI (y3.1.length : Int) 2 then
                bif eqI y4.2.2.1 0 then
                  some (y4.2.1, ())
                else some (false, ())
              else some (false, ())
            else some (false, ())
          else some (false, ())
        else some (false, ())
      else some (false, ())
    else some (false, ())
noncomputable def c12 : Code := bodyOf Tryz.f12
abbrev E12 : Env := envOf [e19, e26, e27, e28]
theorem E12_ok : EnvOK Tryz.prog E12 := env_ok ⟨e19_ok, e26_ok, e27_ok, e28_ok, trivial⟩
def lt12 (id : Nat) : Option LSpec := none
theorem loops12 : loopsOf c12 = [] := by kernel_rfl
theorem body12 : ∀ x, bodyK Tryz.prog E12 Tryz.f12 (keepOf Tryz.f12) lt12 c12 [] [.bool] x = g12 x := by
  rintro ⟨⟨⟩⟩
  kernel_rfl
theorem gn12 : FnOK Tryz.prog 12 [] [.bool] g12 := by
  exact fun_ok progOK E12_ok Tryz.func12 (c := c12) (by kernel_rfl) (keep := keepOf Tryz.f12) (lt := lt12) (loops_ok loops12 trivial) body12
def f12 (x : denK []) : Option (denK [.bool]) := some (true, ())
theorem known46 : ∀ x, g12 x = f12 x := by
  rintro ⟨⟩
  kernel_rfl
theorem fn12 : FnOK Tryz.prog 12 [] [.bool] f12 := by
  have h : g12 = f12 := funext known46
  rw [← h]
  exact gn12
abbrev e12 : Ent := ⟨12, [], [.bool], f12⟩
theorem e12_ok : Ent.OK Tryz.prog e12 := fn12
/-! schisma/schismalaw46.IsomorphyTurns -/
abbrev sh3_0 : List (Nat × Kd) := [(2, .box 25 (.prod (.int .i64) (.prod (.list (.int .i64)) (.prod (.list (.int .i64)) (.list (.int .i64)))))), (3, .box 27 (.prod (.int .i64) (.prod (.int .i64) (.prod (.int .i64) (.int .i64))))), (5, .box 25 (.prod (.int .i64) (.prod (.list (.int .i64)) (.prod (.list (.int .i64)) (.list (.int .i64)))))), (6, .int .i64), (7, .list (.prod (.int .i64) (.prod (.int .i64) (.prod (.int .i64) (.int .i64))))), (8, .bool), (9, .int .i64)]
abbrev ex3_0 : List (Ex × List (Nat × Kd)) := [(.exit 0, [(2, .box 25 (.prod (.int .i64) (.prod (.list (.int .i64)) (.prod (.list (.int .i64)) (.list (.int .i64)))))), (3, .box 27 (.prod (.int .i64) (.prod (.int .i64) (.prod (.int .i64) (.int .i64))))), (5, .box 25 (.prod (.int .i64) (.prod (.list (.int .i64)) (.prod (.list (.int .i64)) (.list (.int .i64)))))), (6, .int .i64), (8, .bool)])]
def step3_0 (x : Shape.den sh3_0) : Option (Shape.den sh3_0 ⊕ exDen ex3_0) := match x with
  | (v2, v3, v5, v6, v7, v8, v9, ()) =>
    bif ltI v9 (v7.length : Int) then
      bif v8 then
        some (.inl ((v2.1, (v2.2.1, (v2.2.2.1, v2.2.2.2))), (v3.1, (v3.2.1, (v3.2.2.1, v3.2.2.2))), (v5.1, (v5.2.1, (v5.2.2.1, v5.2.2.2))), v6, v7, true, (wrapF .i64 (v9 + 1)), ()))
      else bif idxOk v9 v7.length then some (.inl ((v2.1, (v2.2.1, (v2.2.2.1, v2.2.2.2))), (v3.1, (v3.2.1, (v3.2.2.1, v3.2.2.2))), (v5.1, (v5.2.1, (v5.2.2.1, v5.2.2.2))), v6, v7, (eqI ((v7.getD v9.toNat (0, (0, (0, 0)))).1) v3.1 && (eqI ((v7.getD v9.toNat (0, (0, (0, 0)))).2.1) v3.2.1 && (eqI ((v7.getD v9.toNat (0, (0, (0, 0)))).2.2.1) v3.2.2.1 && (eqI ((v7.getD v9.toNat (0, (0, (0, 0)))).2.2.2) v3.2.2.2 && true)))), (wrapF .i64 (v9 + 1)), ())) else none
    else some (.inr (((v2.1, (v2.2.1, (v2.2.2.1, v2.2.2.2))), (v3.1, (v3.2.1, (v3.2.2.1, v3.2.2.2))), (v5.1, (v5.2.1, (v5.2.2.1, v5.2.2.2))), v6, v8, ())))
def loop3_0 (x : Shape.den sh3_0) : Option (exDen ex3_0) := loopN step3_0 (2 ^ 64) x
def f3 (x : denK [.agg (.prod (.int .i64) (.prod (.list (.int .i64)) (.prod (.list (.int .i64)) (.list (.int .i64))))), .agg (.prod (.int .i64) (.prod (.int .i64) (.prod (.int .i64) (.int .i64))))]) : Option (denK [.bool]) := match x with
  | (v0, v1, ()) =>
    askO (f12 (())) fun y1 =>
    bif y1.1 then
      askO (f13 ((v0.1, (v0.2.1, (v0.2.2.1, v0.2.2.2))), ())) fun y2 =>
      bif y2.1 then
        askO (f14 ((v0.1, (v0.2.1, (v0.2.2.1, v0.2.2.2))), ())) fun y3 =>
        bif !(eqI y3.1 0) then
          askO (f12 (())) fun y4 =>
          some (y4.1, ())
        else askO (f15 ((v0.1, (v0.2.1, (v0.2.2.1, v0.2.2.2))), (v1.1, (v1.2.1, (v1.2.2.1, v1.2.2.2))), ())) fun y5 =>
        askO (f16 (v0.1, ())) fun y6 =>
        askO (loop3_0 ((v0.1, (v0.2.1, (v0.2.2.1, v0.2.2.2))), (v1.1, (v1.2.1, (v1.2.2.1, v1.2.2.2))), (y5.1.1, (y5.1.2.1, (y5.1.2.2.1, y5.1.2.2.2))), y5.2.1, y6.1, false, 0, ())) fun z7 =>
        bif z7.2.2.2.2.1 then
          askO (f18 ((z7.1.1, (z7.1.2.1, (z7.1.2.2.1, z7.1.2.2.2))), (z7.2.1.1, (z7.2.1.2.1, (z7.2.1.2.2.1, z7.2.1.2.2.2))), ())) fun y8 =>
          bif y8.2.1 then
            bif eqI z7.2.2.2.1 0 then
              askO (f19 ((z7.2.2.1.1, (z7.2.2.1.2.1, (z7.2.2.1.2.2.1, z7.2.2.1.2.2.2))), (y8.1.1, (y8.1.2.1, (y8.1.2.2.1, y8.1.2.2.2))), ())) fun y9 =>
              some (y9.1, ())
            else some (false, ())
          else askO (f17 ((z7.2.2.1.1, (z7.2.2.1.2.1, (z7.2.2.1.2.2.1, z7.2.2.1.2.2.2))), ())) fun y10 =>
          bif y10.1 then
            some (eqI z7.2.2.2.1 4, ())
          else some (false, ())
        else askO (f17 ((z7.2.2.1.1, (z7.2.2.1.2.1, (z7.2.2.1.2.2.1, z7.2.2.1.2.2.2))), ())) fun y11 =>
        bif y11.1 then
          some (eqI z7.2.2.2.1 10, ())
        else some (false, ())
      else askO (f12 (())) fun y12 =>
      some (y12.1, ())
    else askO (f12 (())) fun y13 =>
    some (y13.1, ())
noncomputable def c3 : Code := bodyOf Tryz.f3
abbrev E3 : Env := envOf [e12, e13, e14, e15, e16, e17, e18, e19]
theorem E3_ok : EnvOK Tryz.prog E3 := env_ok ⟨e12_ok, e13_ok, e14_ok, e15_ok, e16_ok, e17_ok, e18_ok, e19_ok, trivial⟩
noncomputable def a3_0 : Code := loopAt c3 0
def lt3 (id : Nat) : Option LSpec := bif Nat.beq id 7 then some ⟨sh3_0, ex3_0, loop3_0⟩ else none
theorem round3_0 : ∀ x, roundK Tryz.prog E3 78 (keepOf Tryz.f3) lt3 a3_0 sh3_0 ex3_0 x = step3_0 x := by
  rintro ⟨v2, v3, v5, v6, v7, v8, v9, ⟨⟩⟩
  kernel_rfl
theorem in3_0 : loopsOf a3_0 = [] := by kernel_rfl
theorem first3_0 : firstRegion a3_0 = 7 := by kernel_rfl
theorem spec3_0 : SpecOK Tryz.prog 78 a3_0 ⟨sh3_0, ex3_0, loop3_0⟩ := by
  exact loop_ok E3_ok.callee progOK.mixed _ (loops_ok in3_0 trivial) round3_0
theorem loops3 : loopsOf c3 = [a3_0] := by kernel_rfl
theorem body3 : ∀ x, bodyK Tryz.prog E3 Tryz.f3 (keepOf Tryz.f3) lt3 c3 [.agg (.prod (.int .i64) (.prod (.list (.int .i64)) (.prod (.list (.int .i64)) (.list (.int .i64))))), .agg (.prod (.int .i64) (.prod (.int .i64) (.prod (.int .i64) (.int .i64))))] [.bool] x = f3 x := by
  rintro ⟨v0, v1, ⟨⟩⟩
  kernel_rfl
theorem fn3 : FnOK Tryz.prog 3 [.agg (.prod (.int .i64) (.prod (.list (.int .i64)) (.prod (.list (.int .i64)) (.list (.int .i64))))), .agg (.prod (.int .i64) (.prod (.int .i64) (.prod (.int .i64) (.int .i64))))] [.bool] f3 := by
  exact fun_ok progOK E3_ok Tryz.func3 (c := c3) (by kernel_rfl) (keep := keepOf Tryz.f3) (lt := lt3) (loops_ok loops3 ⟨spec_of first3_0 rfl spec3_0, trivial⟩) body3
abbrev e3 : Ent := ⟨3, [.agg (.prod (.int .i64) (.prod (.list (.int .i64)) (.prod (.list (.int .i64)) (.list (.int .i64))))), .agg (.prod (.int .i64) (.prod (.int .i64) (.prod (.int .i64) (.int .i64))))], [.bool], f3⟩
theorem e3_ok : Ent.OK Tryz.prog e3 := fn3

/-! schisma/schismalaw46.IsomorphyChecks -/
def f6 (x : denK [.agg (.prod (.int .i64) (.prod (.list (.int .i64)) (.prod (.list (.int .i64)) (.list (.int .i64))))), .agg (.prod (.int .i64) (.prod (.list (.int .i64)) (.prod (.list (.int .i64)) (.list (.int .i64)))))]) : Option (denK [.bool]) := match x with
  | (v0, v1, ()) =>
    askO (f12 (())) fun y1 =>
    bif y1.1 then
      askO (f13 ((v0.1, (v0.2.1, (v0.2.2.1, v0.2.2.2))), ())) fun y2 =>
      bif y2.1 then
        askO (f13 ((v1.1, (v1.2.1, (v1.2.2.1, v1.2.2.2))), ())) fun y3 =>
        bif y3.1 then
          askO (f14 ((v0.1, (v0.2.1, (v0.2.2.1, v0.2.2.2))), ())) fun y4 =>
          askO (f24 ((v0.1, (v0.2.1, (v0.2.2.1, v0.2.2.2))), ())) fun y5 =>
          bif !(eqI y5.1 y4.1) then
            some (false, ())
          else askO (f25 ((v0.1, (v0.2.1, (v0.2.2.1, v0.2.2.2))), (v1.1, (v1.2.1, (v1.2.2.1, v1.2.2.2))), ())) fun y6 =>
          askO (f19 ((v0.1, (v0.2.1, (v0.2.2.1, v0.2.2.2))), (v1.1, (v1.2.1, (v1.2.2.1, v1.2.2.2))), ())) fun y7 =>
          bif y6.1 then
            bif y7.1 then
              askO (f25 ((v0.1, (v0.2.1, (v0.2.2.1, v0.2.2.2))), (v0.1, (v0.2.1, (v0.2.2.1, v0.2.2.2))), ())) fun y8 =>
              bif y8.1 then
                bif eqI y4.1 0 then
                  some (true, ())
                else askO (f15 ((v0.1, (v0.2.1, (v0.2.2.1, v0.2.2.2))), (1, (0, (0, 1))), ())) fun y9 =>
                askO (f20 ((v0.1, (v0.2.1, (v0.2.2.1, v0.2.2.2))), 1, 1, ())) fun y10 =>
                askO (f26 ((v0.1, (v0.2.1, (v0.2.2.1, v0.2.2.2))), ())) fun y11 =>
                askO (f27 ((v0.1, (v0.2.1, (v0.2.2.1, v0.2.2.2))), (v1.1, (v1.2.1, (v1.2.2.1, v1.2.2.2))), ())) fun y12 =>
                askO (f28 ((v0.1, (v0.2.1, (v0.2.2.1, v0.2.2.2))), ())) fun y13 =>
                askO (f17 ((y9.1.1, (y9.1.2.1, (y9.1.2.2.1, y9.1.2.2.2))), ())) fun y14 =>
                bif y14.1 then
                  bif eqI y9.2.1 y4.1 then
                    askO (f17 ((y10.1.1, (y10.1.2.1, (y10.1.2.2.1, y10.1.2.2.2))), ())) fun y15 =>
                    bif y15.1 then
                      bif eqI y10.2.1 y4.1 then
                        askO (f17 ((y11.1.1, (y11.1.2.1, (y11.1.2.2.1, y11.1.2.2.2))), ())) fun y16 =>
                        bif y16.1 then
                          bif eqI y11.2.1 y4.1 then
                            bif ((eqI y12.1.1.1 0 && (eqI y12.1.1.2.1 0 && (eqI y12.1.1.2.2.1 0 && (eqI y12.1.1.2.2.2 0 && true)))) && (eqI y12.1.2.1 0 && (eqI y12.1.2.2 0 && true))) then
                              bif y12.2.1 then
                                some (false, ())
                              else bif eqI y12.2.2.1 y4.1 then
                                bif eqI (y13.1.length : Int) 0 then
                                  some (eqI y13.2.1 y4.1, ())
                                else some (false, ())
                              else some (false, ())
                            else some (false, ())
                          else some (false, ())
                        else some (false, ())
                      else some (false, ())
                    else some (false, ())
                  else some (false, ())
                else some (false, ())
              else some (false, ())
            else some (false, ())
          else bif y7.1 then
            some (false, ())
          else askO (f25 ((v0.1, (v0.2.1, (v0.2.2.1, v0.2.2.2))), (v0.1, (v0.2.1, (v0.2.2.1, v0.2.2.2))), ())) fun y17 =>
          bif y17.1 then
            bif eqI y4.1 0 then
              some (true, ())
            else askO (f15 ((v0.1, (v0.2.1, (v0.2.2.1, v0.2.2.2))), (1, (0, (0, 1))), ())) fun y18 =>
            askO (f20 ((v0.1, (v0.2.1, (v0.2.2.1, v0.2.2.2))), 1, 1, ())) fun y19 =>
            askO (f26 ((v0.1, (v0.2.1, (v0.2.2.1, v0.2.2.2))), ())) fun y20 =>
            askO (f27 ((v0.1, (v0.2.1, (v0.2.2.1, v0.2.2.2))), (v1.1, (v1.2.1, (v1.2.2.1, v1.2.2.2))), ())) fun y21 =>
            askO (f28 ((v0.1, (v0.2.1, (v0.2.2.1, v0.2.2.2))), ())) fun y22 =>
            askO (f17 ((y18.1.1, (y18.1.2.1, (y18.1.2.2.1, y18.1.2.2.2))), ())) fun y23 =>
            bif y23.1 then
              bif eqI y18.2.1 y4.1 then
                askO (f17 ((y19.1.1, (y19.1.2.1, (y19.1.2.2.1, y19.1.2.2.2))), ())) fun y24 =>
                bif y24.1 then
                  bif eqI y19.2.1 y4.1 then
                    askO (f17 ((y20.1.1, (y20.1.2.1, (y20.1.2.2.1, y20.1.2.2.2))), ())) fun y25 =>
                    bif y25.1 then
                      bif eqI y20.2.1 y4.1 then
                        bif ((eqI y21.1.1.1 0 && (eqI y21.1.1.2.1 0 && (eqI y21.1.1.2.2.1 0 && (eqI y21.1.1.2.2.2 0 && true)))) && (eqI y21.1.2.1 0 && (eqI y21.1.2.2 0 && true))) then
                          bif y21.2.1 then
                            some (false, ())
                          else bif eqI y21.2.2.1 y4.1 then
                            bif eqI (y22.1.length : Int) 0 then
                              some (eqI y22.2.1 y4.1, ())
                            else some (false, ())
                          else some (false, ())
                        else some (false, ())
                      else some (false, ())
                    else some (false, ())
                  else some (false, ())
                else some (false, ())
              else some (false, ())
            else some (false, ())
          else some (false, ())
        else askO (f12 (())) fun y26 =>
        some (y26.1, ())
      else askO (f12 (())) fun y27 =>
      some (y27.1, ())
    else askO (f12 (())) fun y28 =>
    some (y28.1, ())
noncomputable def c6 : Code := bodyOf Tryz.f6
abbrev E6 : Env := envOf [e12, e13, e14, e15, e17, e19, e20, e24, e25, e26, e27, e28]
theorem E6_ok : EnvOK Tryz.prog E6 := env_ok ⟨e12_ok, e13_ok, e14_ok, e15_ok, e17_ok, e19_ok, e20_ok, e24_ok, e25_ok, e26_ok, e27_ok, e28_ok, trivial⟩
def lt6 (id : Nat) : Option LSpec := none
theorem loops6 : loopsOf c6 = [] := by kernel_rfl
theorem body6 : ∀ x, bodyK Tryz.prog E6 Tryz.f6 (keepOf Tryz.f6) lt6 c6 [.agg (.prod (.int .i64) (.prod (.list (.int .i64)) (.prod (.list (.int .i64)) (.list (.int .i64))))), .agg (.prod (.int .i64) (.prod (.list (.int .i64)) (.prod (.list (.int .i64)) (.list (.int .i64)))))] [.bool] x = f6 x := by
  rintro ⟨v0, v1, ⟨⟩⟩
  kernel_rfl
theorem fn6 : FnOK Tryz.prog 6 [.agg (.prod (.int .i64) (.prod (.list (.int .i64)) (.prod (.list (.int .i64)) (.list (.int .i64))))), .agg (.prod (.int .i64) (.prod (.list (.int .i64)) (.prod (.list (.int .i64)) (.list (.int .i64)))))] [.bool] f6 := by
  exact fun_ok progOK E6_ok Tryz.func6 (c := c6) (by kernel_rfl) (keep := keepOf Tryz.f6) (lt := lt6) (loops_ok loops6 trivial) body6
abbrev e6 : Ent := ⟨6, [.agg (.prod (.int .i64) (.prod (.list (.int .i64)) (.prod (.list (.int .i64)) (.list (.int .i64))))), .agg (.prod (.int .i64) (.prod (.list (.int .i64)) (.prod (.list (.int .i64)) (.list (.int .i64)))))], [.bool], f6⟩
theorem e6_ok : Ent.OK Tryz.prog e6 := fn6
end Go.PM
