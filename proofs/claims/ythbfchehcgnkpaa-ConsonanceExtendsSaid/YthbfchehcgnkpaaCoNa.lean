/- Chapter 40: functions by open runs of the plain machine (printed by a program). -/
import Derived.Test.YthbfchehcgnkpaaPnO
import Derived.Test.YthbfchehcgnkpaaCoE
import Derived.Test.YthbfchehcgnkpaaCoG
import Derived.Test.YthbfchehcgnkpaaCoH
import Derived.Test.YthbfchehcgnkpaaCoI
import Derived.Test.YthbfchehcgnkpaaCoA
set_option linter.unusedSimpArgs false
set_option linter.unusedVariables false
namespace Go.PM
open Go Go.RowKit Go.Proofs
set_option maxRecDepth 100000
set_option maxHeartbeats 4000000

/-! slices.AppendSeq[[]schisma/api.Row,schisma/api.Row] -/
abbrev sh83s0nil01c69llio_0 : List (Nat × Kd) := [(2, .bown 22 48 (.list (.int .i64))), (4, .own 48 (.list (.int .i64))), (6, .clo 69 [(.list (.list (.int .i64)))])]
abbrev ex83s0nil01c69llio_0 : List (Ex × List (Nat × Kd)) := [(.normal, [(2, .bown 22 48 (.list (.int .i64)))])]
def step83s0nil01c69llio_0 (x : Shape.den sh83s0nil01c69llio_0) (e : denK [.list (.int .i64)]) : Option (Shape.den sh83s0nil01c69llio_0 ⊕ exDen ex83s0nil01c69llio_0) := match x, e with
  | (v2, v4, v6, ()), (e0, ()) =>
    bif Nat.ble [e0].length 1048576 then bif Nat.ble v2.length 1048576 then some (.inl ((v2 ++ [e0]), v4, (v6.1, ()), ())) else none else none
def cap83s0nil01c69llio_0 (x : Shape.den sh83s0nil01c69llio_0) : denT [(.list (.list (.int .i64)))] := match x with
  | (v2, v4, v6, ()) => (v6.1, ())
def loop83s0nil01c69llio_0 (x : Shape.den sh83s0nil01c69llio_0) : Option (exDen ex83s0nil01c69llio_0) := runG sh83s0nil01c69llio_0 ex83s0nil01c69llio_0 (fun x => fV (cap83s0nil01c69llio_0 x)) step83s0nil01c69llio_0 x
def f83s0nil01c69llio (x : denK [.nil0, .clo 69 [(.list (.list (.int .i64)))]]) : Option (List (List Int)) := match x with
  | (v0, v1, ()) =>
    askO (loop83s0nil01c69llio_0 ([], [], (v1.1, ()), ())) fun z1 =>
    some z1.1
noncomputable def c83s0nil01c69llio : Code := bodyOf Try.f83
abbrev E83s0nil01c69llio : Env := envOf []
theorem E83s0nil01c69llio_ok : EnvOK Try.prog E83s0nil01c69llio := env_ok trivial
noncomputable def r83s0nil01c69llio_0 : Code := subAt c83s0nil01c69llio 0
noncomputable def a83s0nil01c69llio_0 : Code := inLoop r83s0nil01c69llio_0
def lt83s0nil01c69llio (id : Nat) : Option LSpec := none
def rt83s0nil01c69llio (id : Nat) : Option LSpec := bif Nat.beq id 3 then some ⟨sh83s0nil01c69llio_0, ex83s0nil01c69llio_0, loop83s0nil01c69llio_0⟩ else none
theorem first83s0nil01c69llio_0 : firstRegion a83s0nil01c69llio_0 = 3 := by kernel_rfl
theorem in83s0nil01c69llio_0 : subsOf a83s0nil01c69llio_0 = [] := by kernel_rfl
theorem form83s0nil01c69llio_0 : r83s0nil01c69llio_0 = .rangeFunc (seqOp r83s0nil01c69llio_0) (psOf r83s0nil01c69llio_0) (assignOf r83s0nil01c69llio_0) (inLoop r83s0nil01c69llio_0) := by kernel_rfl
theorem round83s0nil01c69llio_0 : ∀ y e, roundG Try.prog E83s0nil01c69llio 13 (keepR Try.f83) lt83s0nil01c69llio rt83s0nil01c69llio (psOf r83s0nil01c69llio_0).toList (assignOf r83s0nil01c69llio_0) (inLoop r83s0nil01c69llio_0) [.list (.int .i64)] sh83s0nil01c69llio_0 ex83s0nil01c69llio_0 y e = step83s0nil01c69llio_0 y e := by
  rintro ⟨v2, v4, v6, ⟨⟩⟩ ⟨e0, ⟨⟩⟩
  kernel_rfl
theorem seq83s0nil01c69llio_0 : ∀ x, seqOf 69 [(.list (.list (.int .i64)))] sh83s0nil01c69llio_0 (seqOp r83s0nil01c69llio_0) x = some (cap83s0nil01c69llio_0 x) := by
  rintro ⟨v2, v4, v6, ⟨⟩⟩
  kernel_rfl
theorem spec83s0nil01c69llio_0 : SpecR Try.prog 13 false [] r83s0nil01c69llio_0 ⟨sh83s0nil01c69llio_0, ex83s0nil01c69llio_0, loop83s0nil01c69llio_0⟩ := by
  exact range_okC E83s0nil01c69llio_ok progOK form83s0nil01c69llio_0 Try.func69 (c := bodyOf Try.f69) (by kernel_rfl) it69 (by kernel_rfl) (subs_ok in83s0nil01c69llio_0 trivial) seq83s0nil01c69llio_0 round83s0nil01c69llio_0
theorem loops83s0nil01c69llio : subsOf c83s0nil01c69llio = [r83s0nil01c69llio_0] := by kernel_rfl
theorem body83s0nil01c69llio : ∀ x, bodyOR Try.prog E83s0nil01c69llio Try.f83 (keepR Try.f83) lt83s0nil01c69llio rt83s0nil01c69llio c83s0nil01c69llio [.nil0, .clo 69 [(.list (.list (.int .i64)))]] 4 48 (.list (.int .i64)) x = f83s0nil01c69llio x := by
  rintro ⟨v0, v1, ⟨⟩⟩
  kernel_rfl
theorem fn83s0nil01c69llio : FnOwn Try.prog 83 [.nil0, .clo 69 [(.list (.list (.int .i64)))]] 48 (.list (.int .i64)) f83s0nil01c69llio := by
  exact fun_ownR progOK E83s0nil01c69llio_ok Try.func83 (c := c83s0nil01c69llio) (by kernel_rfl) (keep := keepR Try.f83) (lt := lt83s0nil01c69llio) (rt := rt83s0nil01c69llio) (t := 4) (by kernel_rfl) (subs_ok loops83s0nil01c69llio ⟨sub_rangeC form83s0nil01c69llio_0 first83s0nil01c69llio_0 rfl spec83s0nil01c69llio_0, trivial⟩) body83s0nil01c69llio
abbrev s83s0nil01c69llio : Shr := (83, ownH [.nil0, .clo 69 [(.list (.list (.int .i64)))]] 48 (.list (.int .i64)) f83s0nil01c69llio)
theorem s83s0nil01c69llio_ok : ShrOK Try.prog s83s0nil01c69llio := ownH_ok fn83s0nil01c69llio

/-! slices.Collect[schisma/api.Row] -/
def f68s0c69llio (x : denK [.clo 69 [(.list (.list (.int .i64)))]]) : Option (List (List Int)) := match x with
  | (v0, ()) =>
    askO (f83s0nil01c69llio ((), (v0.1, ()), ())) fun y1 =>
    some y1
noncomputable def c68s0c69llio : Code := bodyOf Try.f68
abbrev E68s0c69llio : Env := envT [] [s83s0nil01c69llio]
theorem E68s0c69llio_ok : EnvOK Try.prog E68s0c69llio := envT_ok trivial ⟨s83s0nil01c69llio_ok, trivial⟩
def lt68s0c69llio (id : Nat) : Option LSpec := none
theorem loops68s0c69llio : loopsOf c68s0c69llio = [] := by kernel_rfl
theorem body68s0c69llio : ∀ x, bodyO Try.prog E68s0c69llio Try.f68 (keepOf Try.f68) lt68s0c69llio c68s0c69llio [.clo 69 [(.list (.list (.int .i64)))]] 2 48 (.list (.int .i64)) x = f68s0c69llio x := by
  rintro ⟨v0, ⟨⟩⟩
  kernel_rfl
theorem fn68s0c69llio : FnOwn Try.prog 68 [.clo 69 [(.list (.list (.int .i64)))]] 48 (.list (.int .i64)) f68s0c69llio := by
  exact fun_own progOK E68s0c69llio_ok Try.func68 (c := c68s0c69llio) (by kernel_rfl) (keep := keepOf Try.f68) (lt := lt68s0c69llio) (t := 2) (by kernel_rfl) (loops_ok loops68s0c69llio trivial) body68s0c69llio
abbrev s68s0c69llio : Shr := (68, ownH [.clo 69 [(.list (.list (.int .i64)))]] 48 (.list (.int .i64)) f68s0c69llio)
theorem s68s0c69llio_ok : ShrOK Try.prog s68s0c69llio := ownH_ok fn68s0c69llio

/-! slices.SortedFunc[schisma/api.Row] -/
def f47s0c69lli1f36o (x : denK [.clo 69 [(.list (.list (.int .i64)))], .fn 36]) : Option (List (List Int)) := match x with
  | (v0, v1, ()) =>
    askO (f68s0c69llio ((v0.1, ()), ())) fun y1 =>
    askO (sortFE (t := (.int .i64)) D64 (fun x y => decide (cmpL x y < 0)) y1) fun y2 =>
    some y2
noncomputable def c47s0c69lli1f36o : Code := bodyOf Try.f47
abbrev E47s0c69lli1f36o : Env := envT [] [s35a, s68s0c69llio]
theorem E47s0c69lli1f36o_ok : EnvOK Try.prog E47s0c69lli1f36o := envT_ok trivial ⟨s35a_ok, s68s0c69llio_ok, trivial⟩
def lt47s0c69lli1f36o (id : Nat) : Option LSpec := none
theorem loops47s0c69lli1f36o : loopsOf c47s0c69lli1f36o = [] := by kernel_rfl
theorem body47s0c69lli1f36o : ∀ x, bodyO Try.prog E47s0c69lli1f36o Try.f47 (keepOf Try.f47) lt47s0c69lli1f36o c47s0c69lli1f36o [.clo 69 [(.list (.list (.int .i64)))], .fn 36] 4 48 (.list (.int .i64)) x = f47s0c69lli1f36o x := by
  rintro ⟨v0, v1, ⟨⟩⟩
  kernel_rfl
theorem fn47s0c69lli1f36o : FnOwn Try.prog 47 [.clo 69 [(.list (.list (.int .i64)))], .fn 36] 48 (.list (.int .i64)) f47s0c69lli1f36o := by
  exact fun_own progOK E47s0c69lli1f36o_ok Try.func47 (c := c47s0c69lli1f36o) (by kernel_rfl) (keep := keepOf Try.f47) (lt := lt47s0c69lli1f36o) (t := 4) (by kernel_rfl) (loops_ok loops47s0c69lli1f36o trivial) body47s0c69lli1f36o
abbrev s47s0c69lli1f36o : Shr := (47, ownH [.clo 69 [(.list (.list (.int .i64)))], .fn 36] 48 (.list (.int .i64)) f47s0c69lli1f36o)
theorem s47s0c69lli1f36o_ok : ShrOK Try.prog s47s0c69lli1f36o := ownH_ok fn47s0c69lli1f36o

/-! schisma/consonance.Normal -/
abbrev sh25_0 : List (Nat × Kd) := [(7, .list (.list (.int .i64))), (8, .own 48 (.list (.int .i64))), (29, .list (.list (.int .i64))), (30, .int .i64), (31, .int .i64)]
abbrev ex25_0 : List (Ex × List (Nat × Kd)) := [(.ret, [(4, .list (.list (.int .i64))), (5, .int .i64)]), (.exit 0, [(8, .own 48 (.list (.int .i64)))])]
def step25_0 (x : Shape.den sh25_0) : Option (Shape.den sh25_0 ⊕ exDen ex25_0) := match x with
  | (v7, v8, v29, v30, v31, ()) =>
    bif ltI v31 v30 then
      bif idxOk v31 v29.length then bif idxOk 0 v7.length then askO (f34 ((v29.getD v31.toNat []), (v7.getD 0 []), (-1), ())) fun y7 =>
      askO (f29 (y7.1, ())) fun y8 =>
      bif !(eqI y8.1 0) then
        some (.inr (.inl ([], y8.1, ())))
      else bif Nat.ble [y7.1].length 1048576 then bif Nat.ble v8.length 1048576 then some (.inl (v7, (v8 ++ [y7.1]), v29, v30, (wrapF .i64 (v31 + 1)), ())) else none else none else none else none
    else some (.inr (.inr ((v8, ()))))
def loop25_0 (x : Shape.den sh25_0) : Option (exDen ex25_0) := loopN step25_0 (2 ^ 64) x
def f25 (x : denK [.int .i64, .list (.list (.int .i64))]) : Option (denK [.list (.list (.int .i64)), .int .i64]) := match x with
  | (v0, v1, ()) =>
    askO (f31 (v0, v1, ())) fun y1 =>
    bif !(eqI y1.1 0) then
      some ([], y1.1, ())
    else bif eqI (v1.length : Int) 0 then
      some ([], 13, ())
    else askO (f48 (v1, ())) fun y2 =>
    askO (f47s0c69lli1f36o ((y2.1.1, ()), (), ())) fun y3 =>
    askO (f37s1f38t y3 ((), ())) fun y4 =>
    bif ltI 6 (y4.1.length : Int) then
      some ([], 4, ())
    else askO (loop25_0 (y4.1, [], y4.1, (y4.1.length : Int), 0, ())) fun z9 =>
    onSum z9 (fun a10 => some (a10.1, a10.2.1, ())) fun b11 =>
    some (b11.1, 0, ())
noncomputable def c25 : Code := bodyOf Try.f25
abbrev E25 : Env := envT [e29, e31, e34, e48] [s37s1f38t, s47s0c69lli1f36o]
theorem E25_ok : EnvOK Try.prog E25 := envT_ok ⟨e29_ok, e31_ok, e34_ok, e48_ok, trivial⟩ ⟨s37s1f38t_ok, s47s0c69lli1f36o_ok, trivial⟩
noncomputable def a25_0 : Code := loopAt c25 0
def lt25 (id : Nat) : Option LSpec := bif Nat.beq id 11 then some ⟨sh25_0, ex25_0, loop25_0⟩ else none
theorem round25_0 : ∀ x, roundK Try.prog E25 51 (keepOf Try.f25) lt25 a25_0 sh25_0 ex25_0 x = step25_0 x := by
  rintro ⟨v7, v8, v29, v30, v31, ⟨⟩⟩
  kernel_rfl
theorem in25_0 : loopsOf a25_0 = [] := by kernel_rfl
theorem first25_0 : firstRegion a25_0 = 11 := by kernel_rfl
theorem spec25_0 : SpecOK Try.prog 51 a25_0 ⟨sh25_0, ex25_0, loop25_0⟩ := by
  exact loop_ok E25_ok.callee progOK.mixed _ (loops_ok in25_0 trivial) round25_0
theorem loops25 : loopsOf c25 = [a25_0] := by kernel_rfl
theorem body25 : ∀ x, bodyK Try.prog E25 Try.f25 (keepOf Try.f25) lt25 c25 [.int .i64, .list (.list (.int .i64))] [.list (.list (.int .i64)), .int .i64] x = f25 x := by
  rintro ⟨v0, v1, ⟨⟩⟩
  kernel_rfl
theorem fn25 : FnOK Try.prog 25 [.int .i64, .list (.list (.int .i64))] [.list (.list (.int .i64)), .int .i64] f25 := by
  exact fun_ok progOK E25_ok Try.func25 (c := c25) (by kernel_rfl) (keep := keepOf Try.f25) (lt := lt25) (loops_ok loops25 ⟨spec_of first25_0 rfl spec25_0, trivial⟩) body25
abbrev e25 : Ent := ⟨25, [.int .i64, .list (.list (.int .i64))], [.list (.list (.int .i64)), .int .i64], f25⟩
theorem e25_ok : Ent.OK Try.prog e25 := fn25
end Go.PM

set_option linter.unusedSimpArgs false
set_option linter.unusedVariables false
namespace Go.PM
open Go Go.RowKit Go.Proofs
set_option maxRecDepth 100000
set_option maxHeartbeats 4000000

/-! schisma/schismalaw40.ConsonanceNormals -/
abbrev sh7_0 : List (Nat × Kd) := [(0, .int .i64), (1, .list (.list (.int .i64))), (5, .list (.list (.int .i64))), (6, .int .i64), (7, .int .i64), (8, .list (.list (.int .i64))), (9, .int .i64)]
abbrev ex7_0 : List (Ex × List (Nat × Kd)) := [(.exit 0, [(0, .int .i64), (5, .list (.list (.int .i64))), (6, .int .i64), (7, .int .i64), (8, .list (.list (.int .i64)))])]
def step7_0 (x : Shape.den sh7_0) : Option (Shape.den sh7_0 ⊕ exDen ex7_0) := match x with
  | (v0, v1, v5, v6, v7, v8, v9, ()) =>
    bif ltI v9 (v1.length : Int) then
      bif eqI v7 0 then
        bif idxOk v9 v1.length then askO (f27 (v8, (v1.getD v9.toNat []), ())) fun y6 =>
        some (.inl (v0, v1, v5, v6, v7, y6.1, (wrapF .i64 (v9 + 1)), ())) else none
      else some (.inr ((v0, v5, v6, v7, v8, ())))
    else some (.inr ((v0, v5, v6, v7, v8, ())))
def loop7_0 (x : Shape.den sh7_0) : Option (exDen ex7_0) := loopN step7_0 (2 ^ 64) x
abbrev sh7_1 : List (Nat × Kd) := [(0, .int .i64), (5, .list (.list (.int .i64))), (6, .int .i64), (7, .int .i64), (8, .list (.list (.int .i64))), (10, .own 48 (.list (.int .i64))), (11, .int .i64)]
abbrev ex7_1 : List (Ex × List (Nat × Kd)) := [(.exit 2, [(0, .int .i64), (5, .list (.list (.int .i64))), (6, .int .i64), (7, .int .i64), (10, .own 48 (.list (.int .i64)))])]
def step7_1 (x : Shape.den sh7_1) : Option (Shape.den sh7_1 ⊕ exDen ex7_1) := match x with
  | (v0, v5, v6, v7, v8, v10, v11, ()) =>
    bif ltI v11 (v8.length : Int) then
      bif eqI v7 0 then
        bif idxOk v11 v8.length then bif idxOk 0 v8.length then askO (f28 ((v8.getD v11.toNat []), (v8.getD 0 []), ())) fun y10 =>
        askO (f29 (y10.1, ())) fun y11 =>
        bif Nat.ble [y10.1].length 1048576 then bif Nat.ble v10.length 1048576 then some (.inl (v0, v5, v6, y11.1, v8, (v10 ++ [y10.1]), (wrapF .i64 (v11 + 1)), ())) else none else none else none else none
      else some (.inr ((v0, v5, v6, v7, v10, ())))
    else some (.inr ((v0, v5, v6, v7, v10, ())))
def loop7_1 (x : Shape.den sh7_1) : Option (exDen ex7_1) := loopN step7_1 (2 ^ 64) x
def f7 (x : denK [.int .i64, .list (.list (.int .i64))]) : Option (denK [.bool]) := match x with
  | (v0, v1, ()) =>
    askO (f10 (())) fun y1 =>
    bif y1.1 then
      askO (f11 (v1, ())) fun y2 =>
      bif y2.1 then
        askO (f25 (v0, v1, ())) fun y3 =>
        askO (f26 (v0, v1, ())) fun y4 =>
        bif eqI y4.1 0 then
          bif eqI (v1.length : Int) 0 then
            askO (loop7_0 (v0, v1, y3.1, y3.2.1, 13, [], 0, ())) fun z7 =>
            bif eqI z7.2.2.2.1 0 then
              bif ltI 6 (z7.2.2.2.2.1.length : Int) then
                askO (loop7_1 (z7.1, z7.2.1, z7.2.2.1, 4, z7.2.2.2.2.1, [], 0, ())) fun z12 =>
                bif !(eqI z12.2.2.2.1 0) then
                  bif eqI (z12.2.1.length : Int) 0 then
                    some (eqI z12.2.2.1 z12.2.2.2.1, ())
                  else some (false, ())
                else askO (f25 (z12.1, z12.2.1, ())) fun y13 =>
                askO (f14 (z12.2.1, z12.2.2.2.2.1, ())) fun y14 =>
                bif y14.1 then
                  bif eqI z12.2.2.1 0 then
                    askO (f14 (y13.1, z12.2.1, ())) fun y15 =>
                    bif y15.1 then
                      some (eqI y13.2.1 0, ())
                    else some (false, ())
                  else some (false, ())
                else some (false, ())
              else askO (loop7_1 (z7.1, z7.2.1, z7.2.2.1, z7.2.2.2.1, z7.2.2.2.2.1, [], 0, ())) fun z16 =>
              bif !(eqI z16.2.2.2.1 0) then
                bif eqI (z16.2.1.length : Int) 0 then
                  some (eqI z16.2.2.1 z16.2.2.2.1, ())
                else some (false, ())
              else askO (f25 (z16.1, z16.2.1, ())) fun y17 =>
              askO (f14 (z16.2.1, z16.2.2.2.2.1, ())) fun y18 =>
              bif y18.1 then
                bif eqI z16.2.2.1 0 then
                  askO (f14 (y17.1, z16.2.1, ())) fun y19 =>
                  bif y19.1 then
                    some (eqI y17.2.1 0, ())
                  else some (false, ())
                else some (false, ())
              else some (false, ())
            else askO (loop7_1 (z7.1, z7.2.1, z7.2.2.1, z7.2.2.2.1, z7.2.2.2.2.1, [], 0, ())) fun z20 =>
            bif !(eqI z20.2.2.2.1 0) then
              bif eqI (z20.2.1.length : Int) 0 then
                some (eqI z20.2.2.1 z20.2.2.2.1, ())
              else some (false, ())
            else askO (f25 (z20.1, z20.2.1, ())) fun y21 =>
            askO (f14 (z20.2.1, z20.2.2.2.2.1, ())) fun y22 =>
            bif y22.1 then
              bif eqI z20.2.2.1 0 then
                askO (f14 (y21.1, z20.2.1, ())) fun y23 =>
                bif y23.1 then
                  some (eqI y21.2.1 0, ())
                else some (false, ())
              else some (false, ())
            else some (false, ())
          else askO (loop7_0 (v0, v1, y3.1, y3.2.1, y4.1, [], 0, ())) fun z24 =>
          bif eqI z24.2.2.2.1 0 then
            bif ltI 6 (z24.2.2.2.2.1.length : Int) then
              askO (loop7_1 (z24.1, z24.2.1, z24.2.2.1, 4, z24.2.2.2.2.1, [], 0, ())) fun z25 =>
              bif !(eqI z25.2.2.2.1 0) then
                bif eqI (z25.2.1.length : Int) 0 then
                  some (eqI z25.2.2.1 z25.2.2.2.1, ())
                else some (false, ())
              else askO (f25 (z25.1, z25.2.1, ())) fun y26 =>
              askO (f14 (z25.2.1, z25.2.2.2.2.1, ())) fun y27 =>
              bif y27.1 then
                bif eqI z25.2.2.1 0 then
                  askO (f14 (y26.1, z25.2.1, ())) fun y28 =>
                  bif y28.1 then
                    some (eqI y26.2.1 0, ())
                  else some (false, ())
                else some (false, ())
              else some (false, ())
            else askO (loop7_1 (z24.1, z24.2.1, z24.2.2.1, z24.2.2.2.1, z24.2.2.2.2.1, [], 0, ())) fun z29 =>
            bif !(eqI z29.2.2.2.1 0) then
              bif eqI (z29.2.1.length : Int) 0 then
                some (eqI z29.2.2.1 z29.2.2.2.1, ())
              else some (false, ())
            else askO (f25 (z29.1, z29.2.1, ())) fun y30 =>
            askO (f14 (z29.2.1, z29.2.2.2.2.1, ())) fun y31 =>
            bif y31.1 then
              bif eqI z29.2.2.1 0 then
                askO (f14 (y30.1, z29.2.1, ())) fun y32 =>
                bif y32.1 then
                  some (eqI y30.2.1 0, ())
                else some (false, ())
              else some (false, ())
            else some (false, ())
          else askO (loop7_1 (z24.1, z24.2.1, z24.2.2.1, z24.2.2.2.1, z24.2.2.2.2.1, [], 0, ())) fun z33 =>
          bif !(eqI z33.2.2.2.1 0) then
            bif eqI (z33.2.1.length : Int) 0 then
              some (eqI z33.2.2.1 z33.2.2.2.1, ())
            else some (false, ())
          else askO (f25 (z33.1, z33.2.1, ())) fun y34 =>
          askO (f14 (z33.2.1, z33.2.2.2.2.1, ())) fun y35 =>
          bif y35.1 then
            bif eqI z33.2.2.1 0 then
              askO (f14 (y34.1, z33.2.1, ())) fun y36 =>
              bif y36.1 then
                some (eqI y34.2.1 0, ())
              else some (false, ())
            else some (false, ())
          else some (false, ())
        else askO (loop7_0 (v0, v1, y3.1, y3.2.1, y4.1, [], 0, ())) fun z37 =>
        bif eqI z37.2.2.2.1 0 then
          bif ltI 6 (z37.2.2.2.2.1.length : Int) then
            askO (loop7_1 (z37.1, z37.2.1, z37.2.2.1, 4, z37.2.2.2.2.1, [], 0, ())) fun z38 =>
            bif !(eqI z38.2.2.2.1 0) then
              bif eqI (z38.2.1.length : Int) 0 then
                some (eqI z38.2.2.1 z38.2.2.2.1, ())
              else some (false, ())
            else askO (f25 (z38.1, z38.2.1, ())) fun y39 =>
            askO (f14 (z38.2.1, z38.2.2.2.2.1, ())) fun y40 =>
            bif y40.1 then
              bif eqI z38.2.2.1 0 then
                askO (f14 (y39.1, z38.2.1, ())) fun y41 =>
                bif y41.1 then
                  some (eqI y39.2.1 0, ())
                else some (false, ())
              else some (false, ())
            else some (false, ())
          else askO (loop7_1 (z37.1, z37.2.1, z37.2.2.1, z37.2.2.2.1, z37.2.2.2.2.1, [], 0, ())) fun z42 =>
          bif !(eqI z42.2.2.2.1 0) then
            bif eqI (z42.2.1.length : Int) 0 then
              some (eqI z42.2.2.1 z42.2.2.2.1, ())
            else some (false, ())
          else askO (f25 (z42.1, z42.2.1, ())) fun y43 =>
          askO (f14 (z42.2.1, z42.2.2.2.2.1, ())) fun y44 =>
          bif y44.1 then
            bif eqI z42.2.2.1 0 then
              askO (f14 (y43.1, z42.2.1, ())) fun y45 =>
              bif y45.1 then
                some (eqI y43.2.1 0, ())
              else some (false, ())
            else some (false, ())
          else some (false, ())
        else askO (loop7_1 (z37.1, z37.2.1, z37.2.2.1, z37.2.2.2.1, z37.2.2.2.2.1, [], 0, ())) fun z46 =>
        bif !(eqI z46.2.2.2.1 0) then
          bif eqI (z46.2.1.length : Int) 0 then
            some (eqI z46.2.2.1 z46.2.2.2.1, ())
          else some (false, ())
        else askO (f25 (z46.1, z46.2.1, ())) fun y47 =>
        askO (f14 (z46.2.1, z46.2.2.2.2.1, ())) fun y48 =>
        bif y48.1 then
          bif eqI z46.2.2.1 0 then
            askO (f14 (y47.1, z46.2.1, ())) fun y49 =>
            bif y49.1 then
              some (eqI y47.2.1 0, ())
            else some (false, ())
          else some (false, ())
        else some (false, ())
      else askO (f10 (())) fun y50 =>
      some (y50.1, ())
    else askO (f10 (())) fun y51 =>
    some (y51.1, ())
noncomputable def c7 : Code := bodyOf Try.f7
abbrev E7 : Env := envOf [e10, e11, e14, e25, e26, e27, e28, e29]
theorem E7_ok : EnvOK Try.prog E7 := env_ok ⟨e10_ok, e11_ok, e14_ok, e25_ok, e26_ok, e27_ok, e28_ok, e29_ok, trivial⟩
noncomputable def a7_0 : Code := loopAt c7 0
noncomputable def a7_1 : Code := loopAt c7 1
def lt7 (id : Nat) : Option LSpec := bif Nat.beq id 9 then some ⟨sh7_0, ex7_0, loop7_0⟩ else bif Nat.beq id 16 then some ⟨sh7_1, ex7_1, loop7_1⟩ else none
theorem round7_0 : ∀ x, roundK Try.prog E7 118 (keepOf Try.f7) lt7 a7_0 sh7_0 ex7_0 x = step7_0 x := by
  rintro ⟨v0, v1, v5, v6, v7, v8, v9, ⟨⟩⟩
  kernel_rfl
theorem in7_0 : loopsOf a7_0 = [] := by kernel_rfl
theorem first7_0 : firstRegion a7_0 = 9 := by kernel_rfl
theorem spec7_0 : SpecOK Try.prog 118 a7_0 ⟨sh7_0, ex7_0, loop7_0⟩ := by
  exact loop_ok E7_ok.callee progOK.mixed _ (loops_ok in7_0 trivial) round7_0
theorem round7_1 : ∀ x, roundK Try.prog E7 118 (keepOf Try.f7) lt7 a7_1 sh7_1 ex7_1 x = step7_1 x := by
  rintro ⟨v0, v5, v6, v7, v8, v10, v11, ⟨⟩⟩
  kernel_rfl
theorem in7_1 : loopsOf a7_1 = [] := by kernel_rfl
theorem first7_1 : firstRegion a7_1 = 16 := by kernel_rfl
theorem spec7_1 : SpecOK Try.prog 118 a7_1 ⟨sh7_1, ex7_1, loop7_1⟩ := by
  exact loop_ok E7_ok.callee progOK.mixed _ (loops_ok in7_1 trivial) round7_1
theorem loops7 : loopsOf c7 = [a7_0, a7_1] := by kernel_rfl
theorem body7 : ∀ x, bodyK Try.prog E7 Try.f7 (keepOf Try.f7) lt7 c7 [.int .i64, .list (.list (.int .i64))] [.bool] x = f7 x := by
  rintro ⟨v0, v1, ⟨⟩⟩
  kernel_rfl
theorem fn7 : FnOK Try.prog 7 [.int .i64, .list (.list (.int .i64))] [.bool] f7 := by
  exact fun_ok progOK E7_ok Try.func7 (c := c7) (by kernel_rfl) (keep := keepOf Try.f7) (lt := lt7) (loops_ok loops7 ⟨spec_of first7_0 rfl spec7_0, spec_of first7_1 rfl spec7_1, trivial⟩) body7
abbrev e7 : Ent := ⟨7, [.int .i64, .list (.list (.int .i64))], [.bool], f7⟩
theorem e7_ok : Ent.OK Try.prog e7 := fn7
section
/-- Rows put in, one after the other. -/
def insF (l : List (List Int)) : List (List Int) := l.foldl (fun out x => insC x out) []
theorem insF_take {l : List (List Int)} {i : Nat} (h : i < l.length) : insF (l.take (i + 1)) = insC (l.getD i []) (insF (l.take i)) := by
  unfold insF
  rw [List.take_add_one, List.foldl_append, List.getElem?_eq_getElem h, show l.getD i [] = l[i] by rw [List.getD_eq_getElem?_getD, List.getElem?_eq_getElem h]; rfl]; rfl
theorem insFold_si : ∀ (l : List (List Int)) {out}, SI out → SI (l.foldl (fun out x => insC x out) out)
  | [], _, h => h
  | x :: l, out, h => insFold_si l (insC_si x h)
theorem insFold_mem (z : List Int) : ∀ (l : List (List Int)) (out), z ∈ l.foldl (fun out x => insC x out) out ↔ z ∈ out ∨ z ∈ l
  | [], out => by simp
  | x :: l, out => by
    rw [List.foldl_cons, insFold_mem z l, insC_mem, List.mem_cons]
    constructor
    · rintro ((h | h) | h)
      · exact .inr (.inl h)
      · exact .inl h
      · exact .inr (.inr h)
    · rintro (h | h | h)
      · exact .inl (.inr h)
      · exact .inl (.inl h)
      · exact .inr h
theorem insF_si (l : List (List Int)) : SI (insF l) := insFold_si l (by simp [SI])
theorem insF_mem (l : List (List Int)) (z : List Int) : z ∈ insF l ↔ z ∈ l := by unfold insF; rw [insFold_mem]; simp
theorem insFold_length : ∀ (l : List (List Int)) (out), (l.foldl (fun out x => insC x out) out).length ≤ out.length + l.length
  | [], out => by simp
  | x :: l, out => by
    have a := insFold_length l (insC x out)
    have b := insC_length x out
    rw [List.foldl_cons, List.length_cons]; omega
theorem insF_length (l : List (List Int)) : (insF l).length ≤ l.length := by
  have := insFold_length l []
  unfold insF
  simpa using this
theorem insF_eq {l : List (List Int)} (h : SI l) : insF l = l := si_unique (insF_si l) h (insF_mem l)
theorem norm_eq {l : List (List Int)} (h : Rws 1000 l) : Lib.compact (srtB ltC l) = insF l := by
  refine si_unique (si_compact (srtB_sorted loL _ fun x hx => Nat.ble_eq_true_of_le (Nat.le_trans (h x hx) (by omega)))) (insF_si l) fun x => ?_
  rw [cmp_mem, (srtB_perm _).mem_iff, insF_mem]
theorem minusL_cons (x y : Int) (a c : List Int) : minusL (x :: a) (y :: c) = wrapF .i64 (x - y) :: minusL a c := by
  unfold minusL
  rw [List.length_cons, List.range_succ_eq_map, List.map_cons, List.map_map]
  rfl
theorem minusL_nil (c : List Int) : minusL [] c = [] := rfl
theorem cmp_shift : ∀ {a b c : List Int}, a.length = b.length → a.length ≤ c.length → (∀ v ∈ a, okE v) → (∀ v ∈ b, okE v) → (∀ v ∈ c, okE v) → cmpL (minusL a c) (minusL b c) = cmpL a b
  | [], [], c, _, _, _, _, _ => rfl
  | [], y :: b, c, h, _, _, _, _ => by simp at h
  | x :: a, [], c, h, _, _, _, _ => by simp at h
  | x :: a, y :: b, [], _, h, _, _, _ => by simp at h
  | x :: a, y :: b, z :: c, h1, h2, ha, hb, hc => by
    rw [minusL_cons, minusL_cons]
    simp only [List.length_cons] at h1 h2
    have ih := cmp_shift (a := a) (b := b) (c := c) (by omega) (by omega) (fun v hv => ha v (by simp [hv])) (fun v hv => hb v (by simp [hv])) (fun v hv => hc v (by simp [hv]))
    have e1 := ha x (by simp)
    have e2 := hb y (by simp)
    have e3 := hc z (by simp)
    unfold okE at e1 e2 e3
    rw [wrap64 (by omega) (by omega), wrap64 (by omega) (by omega)]
    unfold cmpL
    rw [ih]
    by_cases g1 : x < y
    · rw [if_pos g1, if_pos (by omega)]
    · rw [if_neg g1, if_neg (by omega)]
      by_cases g2 : y < x
      · rw [if_pos g2, if_pos (by omega)]
      · rw [if_neg g2, if_neg (by omega)]
theorem minus_zero : ∀ {a : List Int} {n : Nat}, a.length ≤ n → (∀ v ∈ a, okE v) → minusL a (List.replicate n 0) = a
  | [], _, _, _ => rfl
  | x :: a, 0, h, _ => by simp at h
  | x :: a, n + 1, h, ha => by
    have e1 := ha x (by simp)
    unfold okE at e1
    rw [List.replicate_succ, minusL_cons, minus_zero (a := a) (by simp only [List.length_cons] at h; omega) (fun v hv => ha v (by simp [hv])), wrap64 (by omega) (by omega), Int.sub_zero]
theorem minus_self : ∀ (a : List Int), minusL a a = List.replicate a.length 0
  | [] => rfl
  | x :: a => by
    rw [minusL_cons, minus_self a, Int.sub_self, List.length_cons, List.replicate_succ]; rfl
theorem rc_ok {r : List Int} (h : rc r = 0) : r.length ≤ 64 ∧ ∀ v ∈ r, okE v := by
  unfold rc at h
  split at h
  · cases h
  · split at h
    · rename_i h1 h2
      refine ⟨by omega, fun v hv => ?_⟩
      obtain ⟨i, hi, rfl⟩ := List.getElem_of_mem hv
      have := h2 i hi
      rwa [List.getD_eq_getElem?_getD, List.getElem?_eq_getElem hi] at this
    · cases h
theorem errC_of {n : Int} {l : List (List Int)} (h : 0 ≤ n ∧ n ≤ 12) (hl : ∀ y ∈ l, rc y = 0 ∧ (y.length : Int) = n) : errC n l = 0 := by
  unfold errC
  rw [if_neg (by omega), List.findSome?_eq_none_iff.2]
  · rfl
  · intro i hi
    obtain ⟨a, b⟩ := hl _ (getDL_mem (List.mem_range.1 hi))
    unfold stopC
    rw [if_neg (not_not_intro a), if_neg (not_not_intro b)]
/-- The rows seen from the first. -/
def due (s : List (List Int)) : List (List Int) := s.map fun x => minusL x (s.getD 0 [])
def dueOk (s : List (List Int)) : Prop := ∀ i, i < s.length → rc (minusL (s.getD i []) (s.getD 0 [])) = 0
instance (s : List (List Int)) : Decidable (dueOk s) := by unfold dueOk; infer_instance
theorem due_take {s : List (List Int)} {i : Nat} (h : i < s.length) (x0 : List Int) : (s.take (i + 1)).map (fun x => minusL x x0) = (s.take i).map (fun x => minusL x x0) ++ [minusL (s.getD i []) x0] := by
  rw [List.take_add_one, List.map_append, List.getElem?_eq_getElem h, show s.getD i [] = s[i] by rw [List.getD_eq_getElem?_getD, List.getElem?_eq_getElem h]; rfl]; rfl
/-- What Normal says. -/
def errN (n : Int) (l : List (List Int)) : Int := if ¬ errC n l = 0 then errC n l else if l.length = 0 then 13 else if 6 < (insF l).length then 4 else if dueOk (insF l) then 0 else 4
theorem bad_first {s : List (List Int)} (h : ¬ dueOk s) : ∃ j, j < s.length ∧ rc (minusL (s.getD j []) (s.getD 0 [])) = 4 ∧ ∀ i, i < j → rc (minusL (s.getD i []) (s.getD 0 [])) = 0 := by
  cases hf : (List.range s.length).find? (fun i => decide (¬ rc (minusL (s.getD i []) (s.getD 0 [])) = 0)) with
  | none =>
    exfalso
    apply h
    intro i hi
    have := List.find?_eq_none.1 hf i (List.mem_range.2 hi)
    simpa using this
  | some j =>
    obtain ⟨a, b, c⟩ := find_first _ _ hf
    refine ⟨j, b, ?_, fun i hi => by simpa using c i hi⟩
    have a : ¬ rc (minusL (s.getD j []) (s.getD 0 [])) = 0 := by simpa using a
    exact (rc_cases _).resolve_left a
theorem fin83 (v2 v4 : List (List Int)) (v6 : denT [(.list (.list (.int .i64)))]) : finG sh83s0nil01c69llio_0 ex83s0nil01c69llio_0 (v2, v4, v6, ()) = some (v2, ()) := by kernel_rfl
theorem range83 (v4 : List (List Int)) (v6 : denT [(.list (.list (.int .i64)))]) : ∀ (l out : List (List Int)), out.length + l.length ≤ 1048576 →
    rangeN step83s0nil01c69llio_0 (finG sh83s0nil01c69llio_0 ex83s0nil01c69llio_0) (l.map fun x => (x, ())) (out, v4, v6, ()) = some (out ++ l, ())
  | [], out, _ => by
    show finG sh83s0nil01c69llio_0 ex83s0nil01c69llio_0 (out, v4, v6, ()) = _
    rw [fin83, List.append_nil]
  | x :: l, out, hl => by
    simp only [List.length_cons] at hl
    have hst : step83s0nil01c69llio_0 (out, v4, v6, ()) (x, ()) = some (.inl (out ++ [x], v4, v6, ())) := by
      simp only [step83s0nil01c69llio_0, nble_eq, cond_dec, List.length_cons, List.length_nil]
      rw [if_pos (by omega), if_pos (by omega)]
    rw [List.map_cons]
    unfold rangeN
    rw [hst]
    have := range83 v4 v6 l (out ++ [x]) (by rw [List.length_append, List.length_cons, List.length_nil]; omega)
    rw [List.append_assoc] at this
    exact this
theorem f83_eq {l : List (List Int)} (h : l.length ≤ 1048576) : f83s0nil01c69llio ((), (l, ()), ()) = some l := by
  have hg : (fun x => fV (cap83s0nil01c69llio_0 x)) ([], [], (l, ()), ()) = some (l.map fun x => (x, ())) := by
    show (bif Nat.ble l.length 1048576 then some (l.map fun x => (x, ())) else none) = _
    rw [nble_eq, decide_eq_true h]; rfl
  have hl : loop83s0nil01c69llio_0 ([], [], (l, ()), ()) = some (l, ()) := by
    unfold loop83s0nil01c69llio_0 runG
    rw [hg]
    exact range83 [] (l, ()) l [] (by simpa using h)
  unfold f83s0nil01c69llio; dsimp only
  rw [hl, askO_s]
theorem f47_eq {l : List (List Int)} (h1 : l.length ≤ 1000) (h2 : Rws 1000 l) : f47s0c69lli1f36o ((l, ()), (), ()) = some (srtB ltC l) := by
  have hs : Short l := ⟨by omega, fun y hy => by have := h2 y hy; omega⟩
  unfold f47s0c69lli1f36o f68s0c69llio; dsimp only
  rw [f83_eq (by omega), askO_s, askO_s]
  have := sortFE_eq hs (by omega)
  rw [this, askO_s]
theorem loop25_eq {s : List (List Int)} (h1 : s.length ≤ 1000) {m : Nat} (hm : m ≤ 1000) (h2 : ∀ y ∈ s, y.length = m) :
    loop25_0 (s, [], s, (s.length : Int), 0, ()) = some (if dueOk s then .inr (due s, ()) else .inl ([], 4, ())) := by
  have hstep : ∀ i, i < s.length → ∀ out : List (List Int), out.length ≤ 1000 → step25_0 (s, out, s, (s.length : Int), (i : Int), ()) = if ¬ rc (minusL (s.getD i []) (s.getD 0 [])) = 0 then some (.inr (.inl ([], rc (minusL (s.getD i []) (s.getD 0 [])), ()))) else some (.inl (s, out ++ [minusL (s.getD i []) (s.getD 0 [])], s, (s.length : Int), ((i + 1 : Nat) : Int), ())) := by
    intro i hi out ho
    have e1 := h2 _ (getDL_mem hi)
    have e2 := h2 _ (getDL_mem (l := s) (i := 0) (by omega))
    simp only [step25_0, ltI_eq, eqI_eq, idxOk_eq, nble_eq, not_dec, cond_dec, Int.toNat_natCast, List.length_cons, List.length_nil]
    rw [if_pos (by omega), if_pos (by omega), if_pos (by omega), f34_eq (-1) (by omega) (by omega), askO_s, plus_minus]
    dsimp only
    rw [f29_eq (by rw [minusL_length]; omega), askO_s]
    by_cases h : rc (minusL (s.getD i []) (s.getD 0 [])) = 0
    · rw [if_neg (not_not_intro h), if_neg (not_not_intro h), if_pos (by omega), if_pos (by omega), wrap64s i (by omega)]
    · rw [if_pos h, if_pos h]
  have hlen : ∀ i, ((s.take i).map fun x => minusL x (s.getD 0 [])).length ≤ 1000 := fun i => by rw [List.length_map, List.length_take]; omega
  by_cases h : dueOk s
  · rw [if_pos h]
    refine loopN_all (N := 2 ^ 64) (step := step25_0) (fun i => (s, (s.take i).map (fun x => minusL x (s.getD 0 [])), s, (s.length : Int), (i : Int), ())) s.length (.inr (due s, ())) (by omega) ?_ ?_
    · intro i hi
      rw [hstep i hi _ (hlen i), if_neg (not_not_intro (h i hi)), due_take hi]
    · simp only [step25_0, ltI_eq, cond_dec]
      rw [if_neg (by omega), List.take_length]; rfl
  · rw [if_neg h]
    obtain ⟨j, hj, hb, hg⟩ := bad_first h
    have hsteps := loopN_steps (step := step25_0) (fun i => (s, (s.take i).map (fun x => minusL x (s.getD 0 [])), s, (s.length : Int), (i : Int), ())) (2 ^ 64 - j - 1 + 1) j 0 (fun i _ hi => by
      rw [hstep i (by omega) _ (hlen i), if_neg (not_not_intro (hg i (by omega))), due_take (by omega)])
    have e : j + (2 ^ 64 - j - 1 + 1) = 2 ^ 64 := by omega
    rw [e, Nat.zero_add] at hsteps
    refine Eq.trans hsteps ?_
    rw [loopN_succ, hstep j hj _ (hlen j), hb]; rfl
theorem f25_eq {n : Int} {l : List (List Int)} (h1 : l.length ≤ 1000) (h2 : Rws 1000 l) : f25 (n, l, ()) = some (if errN n l = 0 then (due (insF l), 0, ()) else ([], errN n l, ())) := by
  unfold f25 errN; dsimp only
  rw [f31_eq (by omega) (fun y hy => Nat.le_trans (h2 y hy) (by omega)), askO_s]
  simp only [eqI_eq, not_dec, cond_dec]
  by_cases hC : errC n l = 0
  · obtain ⟨g1, g2, g3⟩ := errC_good hC
    have hlen := insF_length l
    have hrow : ∀ y ∈ insF l, y.length = n.toNat := fun y hy => by
      have := (g3 y ((insF_mem l y).1 hy)).2
      omega
    rw [if_neg (not_not_intro hC), if_neg (not_not_intro hC)]
    by_cases h0 : l.length = 0
    · rw [if_pos (by omega), if_pos h0]; rfl
    · rw [if_neg (by omega), if_neg h0]
      have h48 : f48 (l, ()) = some ((l, ()), ()) := rfl
      rw [h48, askO_s]
      dsimp only
      rw [f47_eq h1 h2, askO_s, f37_eq (srt_short ⟨by omega, fun y hy => by have := h2 y hy; omega⟩), askO_s, norm_eq h2]
      simp only [ltI_eq, cond_dec]
      by_cases h6 : 6 < (insF l).length
      · rw [if_pos (by omega), if_pos h6]; rfl
      · rw [if_neg (by omega), if_neg h6, loop25_eq (by omega) (by omega) hrow, askO_s]
        by_cases hd : dueOk (insF l)
        · rw [if_pos hd, if_pos hd, onSum_inr]; rfl
        · rw [if_neg hd, if_neg hd, onSum_inl]; rfl
  · rw [if_pos hC, if_pos hC, if_neg hC]
/-- Normal of a chord that it answered. -/
theorem errN_good {n : Int} {l : List (List Int)} (h : errN n l = 0) : errC n l = 0 ∧ l.length ≠ 0 ∧ (insF l).length ≤ 6 ∧ dueOk (insF l) := by
  unfold errN at h
  by_cases hC : errC n l = 0
  · rw [if_neg (not_not_intro hC)] at h
    by_cases h0 : l.length = 0
    · rw [if_pos h0] at h; omega
    · rw [if_neg h0] at h
      by_cases h6 : 6 < (insF l).length
      · rw [if_pos h6] at h; omega
      · rw [if_neg h6] at h
        by_cases hd : dueOk (insF l)
        · exact ⟨hC, h0, by omega, hd⟩
        · rw [if_neg hd] at h; omega
  · rw [if_pos hC] at h; exact absurd h hC
theorem due_length (s : List (List Int)) : (due s).length = s.length := by simp [due]
theorem due_getD {s : List (List Int)} {i : Nat} (h : i < s.length) : (due s).getD i [] = minusL (s.getD i []) (s.getD 0 []) := by
  unfold due
  rw [List.getD_eq_getElem?_getD, List.getElem?_map, List.getElem?_eq_getElem h, show s.getD i [] = s[i] by rw [List.getD_eq_getElem?_getD, List.getElem?_eq_getElem h]; rfl]; rfl
theorem due_again {n : Int} {l : List (List Int)} (h : errN n l = 0) : errN n (due (insF l)) = 0 ∧ due (insF (due (insF l))) = due (insF l) := by
  obtain ⟨hC, h0, h6, hd⟩ := errN_good h
  obtain ⟨g1, g2, g3⟩ := errC_good hC
  have hs := insF_si l
  have g4 : ∀ y ∈ insF l, rc y = 0 ∧ (y.length : Int) = n := fun y hy => g3 y ((insF_mem l y).1 hy)
  have hne : 0 < (insF l).length := by
    obtain ⟨x, hx⟩ := List.exists_mem_of_length_pos (l := l) (by omega)
    exact List.length_pos_of_mem ((insF_mem l x).2 hx)
  generalize insF l = s at *
  have hx0 := g4 _ (getDL_mem (l := s) (i := 0) hne)
  have hm : ∀ y ∈ due s, rc y = 0 ∧ (y.length : Int) = n := by
    intro y hy
    obtain ⟨x, hx, rfl⟩ := List.mem_map.1 hy
    obtain ⟨i, hi, rfl⟩ := List.getElem_of_mem hx
    have e := hd i hi
    rw [List.getD_eq_getElem?_getD, List.getElem?_eq_getElem hi] at e
    exact ⟨e, by rw [minusL_length]; exact (g4 _ (List.getElem_mem hi)).2⟩
  have hSI : SI (due s) := by
    unfold SI due
    refine List.pairwise_map.2 (List.Pairwise.imp_of_mem ?_ hs)
    intro a b ha hb hab
    have ea := g4 a ha
    have eb := g4 b hb
    rw [cmp_shift (by omega) (by omega) (rc_ok ea.1).2 (rc_ok eb.1).2 (rc_ok hx0.1).2]
    exact hab
  have hz : (due s).getD 0 [] = List.replicate n.toNat 0 := by
    rw [due_getD hne, minus_self]
    congr 1; omega
  have hfix : due (due s) = due s := by
    show (due s).map (fun x => minusL x ((due s).getD 0 [])) = due s
    rw [hz]
    conv => rhs; rw [← List.map_id (due s)]
    refine List.map_congr_left fun y hy => ?_
    have e := hm y hy
    exact minus_zero (by omega) (rc_ok e.1).2
  have hF := insF_eq hSI
  refine ⟨?_, by rw [hF, hfix]⟩
  unfold errN
  rw [if_neg (not_not_intro (errC_of ⟨g1, g2⟩ hm)), if_neg (by rw [due_length]; omega), hF, if_neg (by rw [due_length]; omega), if_pos]
  intro i hi
  rw [← due_getD hi, hfix]
  exact (hm _ (getDL_mem hi)).1
/-- The law's loops. -/
theorem loop7_0_ok {n : Int} {c l : List (List Int)} {e : Int} (h1 : l.length ≤ 1000) (h2 : Rws 1000 l) : loop7_0 (n, l, c, e, 0, [], 0, ()) = some (n, c, e, 0, insF l, ()) := by
  refine loopN_all (N := 2 ^ 64) (step := step7_0) (fun i => (n, l, c, e, 0, insF (l.take i), (i : Int), ())) l.length (n, c, e, 0, insF l, ()) (by omega) ?_ ?_
  · intro i hi
    have hlen := insF_length (l.take i)
    rw [List.length_take] at hlen
    rw [insF_take hi]
    simp only [step7_0, ltI_eq, eqI_eq, idxOk_eq, cond_dec, Int.toNat_natCast]
    rw [if_pos (by omega), if_pos trivial, if_pos (by omega), f27_eq (by omega) (fun y hy => by
      have := h2 y (List.mem_of_mem_take ((insF_mem _ y).1 hy))
      omega) (by have := h2 _ (getDL_mem hi); omega), askO_s, wrap64s i (by omega)]
  · simp only [step7_0, ltI_eq, cond_dec]
    rw [if_neg (by omega), List.take_length]
theorem loop7_0_err {n : Int} {c l : List (List Int)} {e v : Int} (hv : ¬ v = 0) : loop7_0 (n, l, c, e, v, [], 0, ()) = some (n, c, e, v, [], ()) := by
  have : step7_0 (n, l, c, e, v, [], 0, ()) = some (.inr (n, c, e, v, [], ())) := by
    simp only [step7_0, ltI_eq, eqI_eq, cond_dec]
    rw [if_neg hv]
    split <;> rfl
  unfold loop7_0
  obtain ⟨N, hN⟩ : ∃ N, 2 ^ 64 = N + 1 := ⟨2 ^ 64 - 1, by omega⟩
  rw [hN, loopN_succ, this]
theorem loop7_1_err {n : Int} {c s : List (List Int)} {e v : Int} (hv : ¬ v = 0) : loop7_1 (n, c, e, v, s, [], 0, ()) = some (n, c, e, v, [], ()) := by
  have : step7_1 (n, c, e, v, s, [], 0, ()) = some (.inr (n, c, e, v, [], ())) := by
    simp only [step7_1, ltI_eq, eqI_eq, cond_dec]
    rw [if_neg hv]
    split <;> rfl
  unfold loop7_1
  obtain ⟨N, hN⟩ : ∃ N, 2 ^ 64 = N + 1 := ⟨2 ^ 64 - 1, by omega⟩
  rw [hN, loopN_succ, this]
theorem loop7_1_ok {n : Int} {c s : List (List Int)} {e : Int} (h1 : s.length ≤ 1000) {m : Nat} (hm : m ≤ 1000) (h2 : ∀ y ∈ s, y.length = m) :
    ∃ q, loop7_1 (n, c, e, 0, s, [], 0, ()) = some (n, c, e, (if dueOk s then 0 else 4), q, ()) ∧ (dueOk s → q = due s) := by
  have hstep : ∀ i, i < s.length → ∀ out : List (List Int), out.length ≤ 1000 → step7_1 (n, c, e, 0, s, out, (i : Int), ()) = some (.inl (n, c, e, rc (minusL (s.getD i []) (s.getD 0 [])), s, out ++ [minusL (s.getD i []) (s.getD 0 [])], ((i + 1 : Nat) : Int), ())) := by
    intro i hi out ho
    have e1 := h2 _ (getDL_mem hi)
    have e2 := h2 _ (getDL_mem (l := s) (i := 0) (by omega))
    simp only [step7_1, ltI_eq, eqI_eq, idxOk_eq, nble_eq, not_dec, cond_dec, Int.toNat_natCast, List.length_cons, List.length_nil]
    rw [if_pos (by omega), if_pos trivial, if_pos (by omega), if_pos (by omega), f28_eq (by omega) (by omega), askO_s]
    dsimp only
    rw [f29_eq (by rw [minusL_length]; omega), askO_s, if_pos (by omega), if_pos (by omega), wrap64s i (by omega)]
  have hlen : ∀ i, ((s.take i).map fun x => minusL x (s.getD 0 [])).length ≤ 1000 := fun i => by rw [List.length_map, List.length_take]; omega
  by_cases h : dueOk s
  · rw [if_pos h]
    refine ⟨due s, ?_, fun _ => rfl⟩
    refine loopN_all (N := 2 ^ 64) (step := step7_1) (fun i => (n, c, e, 0, s, (s.take i).map (fun x => minusL x (s.getD 0 [])), (i : Int), ())) s.length (n, c, e, 0, due s, ()) (by omega) ?_ ?_
    · intro i hi
      rw [hstep i hi _ (hlen i), h i hi, due_take hi]
    · simp only [step7_1, ltI_eq, cond_dec]
      rw [if_neg (by omega), List.take_length]; rfl
  · rw [if_neg h]
    obtain ⟨j, hj, hb, hg⟩ := bad_first h
    have hsteps := loopN_steps (step := step7_1) (fun i => (n, c, e, 0, s, (s.take i).map (fun x => minusL x (s.getD 0 [])), (i : Int), ())) (2 ^ 64 - j - 2 + 1 + 1) j 0 (fun i _ hi => by
      rw [hstep i (by omega) _ (hlen i), hg i (by omega), due_take (by omega)])
    have e9 : j + (2 ^ 64 - j - 2 + 1 + 1) = 2 ^ 64 := by omega
    rw [e9, Nat.zero_add] at hsteps
    refine ⟨((s.take j).map fun x => minusL x (s.getD 0 [])) ++ [minusL (s.getD j []) (s.getD 0 [])], Eq.trans hsteps ?_, fun h' => absurd h' h⟩
    rw [loopN_succ, hstep j hj _ (hlen j), hb]
    dsimp only
    have : ∀ out : List (List Int), step7_1 (n, c, e, 4, s, out, ((j + 1 : Nat) : Int), ()) = some (.inr (n, c, e, 4, out, ())) := by
      intro out
      simp only [step7_1, ltI_eq, eqI_eq, cond_dec]
      rw [if_neg (show ¬ (4 : Int) = 0 by omega)]
      split <;> rfl
    rw [loopN_succ, this]
/-- What is behind the law's loops. -/
def tl7 (z : Int × List (List Int) × Int × Int × List (List Int) × Unit) : Option (denK [.bool]) :=
  bif !(eqI z.2.2.2.1 0) then
    bif eqI (z.2.1.length : Int) 0 then some (eqI z.2.2.1 z.2.2.2.1, ()) else some (false, ())
  else askO (f25 (z.1, z.2.1, ())) fun y => askO (f14 (z.2.1, z.2.2.2.2.1, ())) fun y1 => bif y1.1 then bif eqI z.2.2.1 0 then askO (f14 (y.1, z.2.1, ())) fun y2 => bif y2.1 then some (eqI y.2.1 0, ()) else some (false, ()) else some (false, ()) else some (false, ())
def md7 (z : Int × List (List Int) × Int × Int × List (List Int) × Unit) : Option (denK [.bool]) :=
  bif eqI z.2.2.2.1 0 then
    bif ltI 6 (z.2.2.2.2.1.length : Int) then askO (loop7_1 (z.1, z.2.1, z.2.2.1, 4, z.2.2.2.2.1, [], 0, ())) tl7
    else askO (loop7_1 (z.1, z.2.1, z.2.2.1, z.2.2.2.1, z.2.2.2.2.1, [], 0, ())) tl7
  else askO (loop7_1 (z.1, z.2.1, z.2.2.1, z.2.2.2.1, z.2.2.2.2.1, [], 0, ())) tl7
theorem f7_md (n : Int) (l : List (List Int)) : f7 (n, l, ()) = askO (f10 ()) fun y1 => bif y1.1 then askO (f11 (l, ())) fun y2 => bif y2.1 then askO (f25 (n, l, ())) fun y3 => askO (f26 (n, l, ())) fun y4 =>
    bif eqI y4.1 0 then bif eqI (l.length : Int) 0 then askO (loop7_0 (n, l, y3.1, y3.2.1, 13, [], 0, ())) md7 else askO (loop7_0 (n, l, y3.1, y3.2.1, y4.1, [], 0, ())) md7
    else askO (loop7_0 (n, l, y3.1, y3.2.1, y4.1, [], 0, ())) md7 else askO (f10 ()) fun y => some (y.1, ()) else askO (f10 ()) fun y => some (y.1, ()) := rfl
theorem tl7_err {n e : Int} {q : List (List Int)} (h : ¬ e = 0) : tl7 (n, [], e, e, q, ()) = some (true, ()) := by
  unfold tl7
  simp only [eqI_eq, not_dec, cond_dec]
  rw [if_pos h, if_pos (by simp)]
  simp
theorem f7_true (n : Int) {l : List (List Int)} (hl : l.length ≤ 9223372036854775807) : f7 (n, l, ()) = some (true, ()) := by
  obtain ⟨b, hb, hfew⟩ := f11_eq hl
  rw [f7_md, f10_eq, askO_s, hb, cond_true, askO_s]
  cases b with
  | false => rfl
  | true =>
    obtain ⟨h1, h2⟩ := hfew rfl
    have h2 : Rws 1000 l := fun y hy => Nat.le_trans (h2 y hy) (by omega)
    have hlen := insF_length l
    have hrow : Rws 1000 (insF l) := fun y hy => h2 y ((insF_mem l y).1 hy)
    rw [cond_true, f25_eq (by omega) h2, askO_s, f26_eq (by omega) (fun y hy => Nat.le_trans (h2 y hy) (by omega)), askO_s]
    simp only [eqI_eq, cond_dec]
    by_cases hC : errC n l = 0
    · obtain ⟨g1, g2, g3⟩ := errC_good hC
      rw [if_pos hC]
      by_cases h0 : l.length = 0
      · have hN : errN n l = 13 := by unfold errN; rw [if_neg (not_not_intro hC), if_pos h0]
        rw [if_pos (by omega), hN, if_neg (by omega)]
        dsimp only
        rw [loop7_0_err (by omega), askO_s]
        unfold md7
        simp only [eqI_eq, cond_dec]
        rw [if_neg (by omega), loop7_1_err (by omega), askO_s, tl7_err (by omega)]
      · rw [if_neg (by omega), hC, loop7_0_ok (by omega) h2, askO_s]
        unfold md7
        simp only [eqI_eq, ltI_eq, cond_dec]
        rw [if_pos True.intro]
        by_cases h6 : 6 < (insF l).length
        · have hN : errN n l = 4 := by unfold errN; rw [if_neg (not_not_intro hC), if_neg h0, if_pos h6]
          rw [if_pos (by omega), hN, if_neg (by omega)]
          dsimp only
          rw [loop7_1_err (by omega), askO_s, tl7_err (by omega)]
        · obtain ⟨q, hq, hq2⟩ := loop7_1_ok (n := n) (c := (if errN n l = 0 then (due (insF l), 0, ()) else ([], errN n l, ()) : List (List Int) × Int × Unit).1) (e := (if errN n l = 0 then (due (insF l), 0, ()) else ([], errN n l, ()) : List (List Int) × Int × Unit).2.1) (s := insF l) (by omega) (m := n.toNat) (by omega) (fun y hy => by
            have := (g3 y ((insF_mem l y).1 hy)).2
            omega)
          rw [if_neg (by omega), hq, askO_s]
          by_cases hd : dueOk (insF l)
          · have hN : errN n l = 0 := by unfold errN; rw [if_neg (not_not_intro hC), if_neg h0, if_neg h6, if_pos hd]
            obtain ⟨a1, a2⟩ := due_again hN
            have hdl := due_length (insF l)
            have hdr : Rws 1000 (due (insF l)) := by
              intro y hy
              obtain ⟨x, hx, rfl⟩ := List.mem_map.1 hy
              rw [minusL_length]; exact hrow x hx
            rw [if_pos hd, hN, if_pos rfl, hq2 hd]
            unfold tl7
            simp only [eqI_eq, not_dec, cond_dec]
            rw [if_neg (by simp), f25_eq (by omega) hdr, askO_s, a1, a2, if_pos rfl, f14_eq _ _ (by omega) (fun y hy => Nat.le_trans (hdr y hy) (by omega)), askO_s]
            simp [eqI_eq, askO_s]
          · have hN : errN n l = 4 := by unfold errN; rw [if_neg (not_not_intro hC), if_neg h0, if_neg h6, if_neg hd]
            rw [if_neg hd, hN, if_neg (by omega)]
            exact tl7_err (e := 4) (by omega)
    · have hN : errN n l = errC n l := by unfold errN; rw [if_pos hC]
      rw [if_neg hC, hN, if_neg hC]
      dsimp only
      rw [loop7_0_err hC, askO_s]
      unfold md7
      simp only [eqI_eq, cond_dec]
      rw [if_neg hC, loop7_1_err hC, askO_s, tl7_err hC]
end
end Go.PM
