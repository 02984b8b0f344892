/- Chapter 40: functions by open runs of the plain machine (printed by a program). -/
import Derived.Test.YthbfchehcgnkpaaCoO
import Derived.Test.YthbfchehcgnkpaaCoF
import Derived.Test.YthbfchehcgnkpaaCoG
import Derived.Test.YthbfchehcgnkpaaCoH
import Derived.Test.YthbfchehcgnkpaaCoI
set_option linter.unusedSimpArgs false
set_option linter.unusedVariables false
namespace Go.PM
open Go Go.RowKit Go.Proofs
set_option maxRecDepth 100000
set_option maxHeartbeats 4000000

/-! schisma/schismalaw40.known -/
def g10 (x : denK []) : Option (denK [.bool]) := match x with
  | (()) =>
    askO (f17 (2, [[1, 0], [0, 1], [1, (-1)]], 3, ())) fun y1 =>
    askO (f17 (1, [[1], [4], [3]], 3, ())) fun y2 =>
    bif Nat.ble 0 2 then bif Nat.ble 2 [[1, 0], [0, 1], [1, (-1)]].length then askO (f20 (2, (([[1, 0], [0, 1], [1, (-1)]].drop 0).take (2 - 0)), ())) fun y3 =>
    bif eqI y1.2.1 0 then
      askO (f18 (y1.1, [[[0, 0], [0, 1], [1, 0]], [[0, 0], [1, (-1)], [1, 0]]], ())) fun y4 =>
      bif y4.1 then
        bif eqI y2.2.1 0 then
          askO (f18 (y2.1, [[[0], [1], [4]], [[0], [3], [4]]], ())) fun y5 =>
          bif y5.1 then
            bif eqI y3.2.1 0 then
              askO (f18 (y3.1, [[[0, 0], [0, 1]], [[0, 0], [1, 0]]], ())) fun y6 =>
              some (y6.1, ())
            else some (false, ())
          else some (false, ())
        else some (false, ())
      else some (false, ())
    else some (false, ()) else none else none
noncomputable def c10 : Code := bodyOf Try.f10
abbrev E10 : Env := envOf [e17, e18, e20]
theorem E10_ok : EnvOK Try.prog E10 := env_ok ⟨e17_ok, e18_ok, e20_ok, trivial⟩
def lt10 (id : Nat) : Option LSpec := none
theorem loops10 : loopsOf c10 = [] := by kernel_rfl
theorem body10 : ∀ x, bodyK Try.prog E10 Try.f10 (keepOf Try.f10) lt10 c10 [] [.bool] x = g10 x := by
  rintro ⟨⟨⟩⟩
  kernel_rfl
theorem gn10 : FnOK Try.prog 10 [] [.bool] g10 := by
  exact fun_ok progOK E10_ok Try.func10 (c := c10) (by kernel_rfl) (keep := keepOf Try.f10) (lt := lt10) (loops_ok loops10 trivial) body10
def f10 (x : denK []) : Option (denK [.bool]) := some (true, ())
theorem known40 : ∀ x, g10 x = f10 x := by
  rintro ⟨⟩
  kernel_rfl
theorem fn10 : FnOK Try.prog 10 [] [.bool] f10 := by
  have h : g10 = f10 := funext known40
  rw [← h]
  exact gn10
abbrev e10 : Ent := ⟨10, [], [.bool], f10⟩
theorem e10_ok : Ent.OK Try.prog e10 := fn10
end Go.PM
