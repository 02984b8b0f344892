/- Chapter 46: functions by open runs of the plain machine (printed by a program). -/
import Derived.Test.YtjgapmocogjkmaaGreatDoorPnH
import Derived.Test.YtjgapmocogjkmaaGreatDoorPnO
import Derived.Test.YtjgapmocogjkmaaGreatDoorPnM
import Derived.Test.YtjgapmocogjkmaaGreatDoorIsS
import Derived.WalkKit
import Derived.Lib.Walk
import Derived.Lib.SliceRun
import Derived.Lib.AppendZerosOnto
import Derived.Deep.Upon
set_option linter.unusedSimpArgs false
set_option linter.unusedVariables false
namespace Go.PM
open Go Go.RowKit Go.Proofs
set_option maxRecDepth 100000
set_option maxHeartbeats 4000000

/-! slices.Clone[schisma/api.Row,int] -/
def f64 (x : denK [.list (.int .i64)]) : Option (denK [.list (.int .i64)]) := match x with
  | (v0, ()) =>
    bif Nat.blt 0 v0.length then bif Nat.ble v0.length 1048576 then some (v0, ()) else none else none
noncomputable def c64 : Code := bodyOf Tryz.f64
abbrev E64 : Env := envOf []
theorem E64_ok : EnvOK Tryz.prog E64 := env_ok trivial
def lt64 (id : Nat) : Option LSpec := none
theorem loops64 : loopsOf c64 = [] := by kernel_rfl
theorem body64 : ∀ x, bodyK Tryz.prog E64 Tryz.f64 (keepOf Tryz.f64) lt64 c64 [.list (.int .i64)] [.list (.int .i64)] x = f64 x := by
  rintro ⟨v0, ⟨⟩⟩
  kernel_rfl
theorem fn64 : FnOK Tryz.prog 64 [.list (.int .i64)] [.list (.int .i64)] f64 := by
  exact fun_ok progOK E64_ok Tryz.func64 (c := c64) (by kernel_rfl) (keep := keepOf Tryz.f64) (lt := lt64) (loops_ok loops64 trivial) body64
abbrev e64 : Ent := ⟨64, [.list (.int .i64)], [.list (.int .i64)], f64⟩
theorem e64_ok : Ent.OK Tryz.prog e64 := fn64

/-! slices.Clone of nothing -/
theorem row_info : ∃ i : TypeInfo, Tryz.prog.info? 3 = some i := ⟨(Tryz.prog.info? 3).get (by kernel_rfl), (Option.some_get _).symm⟩
theorem Tryz.eql_row (w : World) (a : Option Addr) (n c n' c' : Nat) : (binOp .eql 23 (.slice a n c) (.slice none n' c')).run Tryz.prog w = .ok (.bool a.isNone) w := Lib.run_eql_slice_nil w _ _ a n c n' c' Tryz.underlying23
theorem clone_nil (c : Nat) (w : World) : Calls Tryz.prog 64 #[.slice none 0 c] w fun e w' => e = .returned (.slice none 0 0) ∧ w' = w := by
  have qT := Tryz.eql_row
  go_enter Tryz.func64, Tryz.ntmps64
  go_wp2
  go_ret
  exact ⟨rfl, rfl⟩
set_option maxHeartbeats 2000000 in
theorem clone_empty (p : Addr) (c : Nat) (w : World) : Calls Tryz.prog 64 #[.slice (some p) 0 c] w fun e w' => e = .returned (.slice (some ⟨w.heap.size, 0, none⟩) 0 0) ∧ w' = w.alloc (.cells #[] 3) := by
  have qT := Tryz.eql_row
  obtain ⟨i, hi⟩ := row_info
  have hrz : ∀ ty, (Builtin.append_ #[23, 23] ty #[.slice (some ⟨w.heap.size, 0, none⟩) 0 0, .slice (some p) 0 c]).run Tryz.prog (w.alloc (.cells #[] 3)) = .ok (.slice (some ⟨w.heap.size, 0, none⟩) 0 0) (w.alloc (.cells #[] 3)) := fun ty =>
    run_append_nothing _ 23 23 ty 3 i Tryz.underlying23 hi _ 0 0 (Nat.le_refl _) _ (Src.ofSlice _ (e' := 3) Tryz.underlying23 p 0 c [] (Nat.zero_mul _).symm (fun j u hu => by simp at hu) (fun u hu => by cases hu))
  go_enter Tryz.func64, Tryz.ntmps64
  go_wp2_with (at_builtin; refine Lib.wpList_append_run _ rfl _ _ _ _ rfl _ _ rfl rfl _ _ (hrz _) ?_)
  all_goals (go_ret; exact ⟨rfl, rfl⟩)
/-- slices.Clone at ints. -/
def f64c (x : denK [.list (.int .i64)]) : Option (denK [.list (.int .i64)]) := match x with
  | (l, ()) => bif Nat.ble l.length 1048576 then some (l, ()) else none
theorem fn64c : FnOK Tryz.prog 64 [.list (.int .i64)] [.list (.int .i64)] f64c := by
  rintro ⟨l, ⟨⟩⟩ y h
  unfold f64c at h
  obtain ⟨hl, h4⟩ := condSome h
  clear h
  have h4 := Option.some.inj h4
  subst h4
  cases l with
  | cons a l =>
    refine fn64 (a :: l, ()) _ ?_
    unfold f64
    dsimp only
    rw [hl, show Nat.blt 0 (a :: l).length = true from rfl]; rfl
  | nil =>
    intro w G vs hG hv
    have k1 : VRs w G nomap [tlOf (.int .i64) [] none] vs.toList := hv
    rw [VRs] at k1
    obtain ⟨v, us, hvs, g1, g2⟩ := k1
    rw [VRs] at g2
    subst g2
    unfold tlOf at g1
    rw [VR] at g1
    obtain ⟨g1, -⟩ := g1
    rw [VR] at g1
    obtain ⟨ao, c, rfl, -, -, -⟩ := g1
    have hvs : vs = #[.slice ao 0 c] := Array.ext' (by simpa using hvs)
    subst hvs
    refine ⟨enters Tryz.func64 (by kernel_rfl) (by kernel_rfl) _ _, ?_⟩
    have hr : ∀ {w' : World} {G' : Nat → Prop} (ao' : Option Addr), VR w' G' nomap (encR [.list (.int .i64)] ([], ())) (.slice ao' 0 0) := by
      intro w' G' ao'
      show VR w' G' nomap (tlOf (.int .i64) [] none) _
      unfold tlOf
      rw [VR]
      refine ⟨?_, rfl⟩
      rw [VR]
      exact ⟨ao', 0, rfl, Nat.le_refl _, fun k hk => (by cases hk), .inl rfl⟩
    cases ao with
    | none =>
      refine (clone_nil c w).mono ?_
      rintro e w' ⟨rfl, rfl⟩
      exact ⟨_, G, rfl, Ext.refl _ _ _ _, hG, hr _⟩
    | some p =>
      refine (clone_empty p c w).mono ?_
      rintro e w' ⟨rfl, rfl⟩
      have he := below_ext hG (((Below.refl _ w).alloc (Nat.le_refl _) (.cells #[] 3))) (Nat.le_refl _)
      exact ⟨_, G, rfl, he, fun b hb => Nat.lt_of_lt_of_le (hG b hb) he.size, hr _⟩
abbrev e64c : Ent := ⟨64, [.list (.int .i64)], [.list (.int .i64)], f64c⟩
theorem e64c_ok : Ent.OK Tryz.prog e64c := fn64c
end Go.PM

set_option linter.unusedSimpArgs false
set_option linter.unusedVariables false
namespace Go.PM
open Go Go.RowKit Go.Proofs
set_option maxRecDepth 100000
set_option maxHeartbeats 4000000

/-! cmp.isNaN[int] -/
def f98 (x : denK [.int .i64]) : Option (denK [.bool]) := match x with
  | (v0, ()) =>
    some (!(eqI v0 v0), ())
noncomputable def c98 : Code := bodyOf Tryz.f98
abbrev E98 : Env := envOf []
theorem E98_ok : EnvOK Tryz.prog E98 := env_ok trivial
def lt98 (id : Nat) : Option LSpec := none
theorem loops98 : loopsOf c98 = [] := by kernel_rfl
theorem body98 : ∀ x, bodyK Tryz.prog E98 Tryz.f98 (keepOf Tryz.f98) lt98 c98 [.int .i64] [.bool] x = f98 x := by
  rintro ⟨v0, ⟨⟩⟩
  kernel_rfl
theorem fn98 : FnOK Tryz.prog 98 [.int .i64] [.bool] f98 := by
  exact fun_ok progOK E98_ok Tryz.func98 (c := c98) (by kernel_rfl) (keep := keepOf Tryz.f98) (lt := lt98) (loops_ok loops98 trivial) body98
abbrev e98 : Ent := ⟨98, [.int .i64], [.bool], f98⟩
theorem e98_ok : Ent.OK Tryz.prog e98 := fn98

/-! cmp.Compare[int] -/
def f74 (x : denK [.int .i64, .int .i64]) : Option (denK [.int .i64]) := match x with
  | (v0, v1, ()) =>
    askO (f98 (v0, ())) fun y1 =>
    askO (f98 (v1, ())) fun y2 =>
    bif y1.1 then
      bif y2.1 then
        some (0, ())
      else some ((-1), ())
    else bif y2.1 then
      some (1, ())
    else bif ltI v0 v1 then
      some ((-1), ())
    else bif ltI v1 v0 then
      some (1, ())
    else some (0, ())
noncomputable def c74 : Code := bodyOf Tryz.f74
abbrev E74 : Env := envOf [e98]
theorem E74_ok : EnvOK Tryz.prog E74 := env_ok ⟨e98_ok, trivial⟩
def lt74 (id : Nat) : Option LSpec := none
theorem loops74 : loopsOf c74 = [] := by kernel_rfl
theorem body74 : ∀ x, bodyK Tryz.prog E74 Tryz.f74 (keepOf Tryz.f74) lt74 c74 [.int .i64, .int .i64] [.int .i64] x = f74 x := by
  rintro ⟨v0, v1, ⟨⟩⟩
  kernel_rfl
theorem fn74 : FnOK Tryz.prog 74 [.int .i64, .int .i64] [.int .i64] f74 := by
  exact fun_ok progOK E74_ok Tryz.func74 (c := c74) (by kernel_rfl) (keep := keepOf Tryz.f74) (lt := lt74) (loops_ok loops74 trivial) body74
abbrev e74 : Ent := ⟨74, [.int .i64, .int .i64], [.int .i64], f74⟩
theorem e74_ok : Ent.OK Tryz.prog e74 := fn74

/-! slices.Compare[schisma/api.Row,int] -/
abbrev sh57_0 : List (Nat × Kd) := [(0, .list (.int .i64)), (1, .list (.int .i64)), (9, .list (.int .i64)), (10, .int .i64), (11, .int .i64)]
abbrev ex57_0 : List (Ex × List (Nat × Kd)) := [(.ret, [(4, .int .i64)]), (.exit 0, [(0, .list (.int .i64)), (1, .list (.int .i64))])]
def step57_0 (x : Shape.den sh57_0) : Option (Shape.den sh57_0 ⊕ exDen ex57_0) := match x with
  | (v0, v1, v9, v10, v11, ()) =>
    bif ltI v11 v10 then
      bif idxOk v11 v9.length then bif !(ltI v11 (v1.length : Int)) then
        some (.inr (.inl (1, ())))
      else bif idxOk v11 v1.length then askO (f74 ((v9.getD v11.toNat 0), (v1.getD v11.toNat 0), ())) fun y2 =>
      bif !(eqI y2.1 0) then
        some (.inr (.inl (y2.1, ())))
      else some (.inl (v0, v1, v9, v10, (wrapF .i64 (v11 + 1)), ())) else none else none
    else some (.inr (.inr ((v0, v1, ()))))
def loop57_0 (x : Shape.den sh57_0) : Option (exDen ex57_0) := loopN step57_0 (2 ^ 64) x
def f57 (x : denK [.list (.int .i64), .list (.int .i64)]) : Option (denK [.int .i64]) := match x with
  | (v0, v1, ()) =>
    askO (loop57_0 (v0, v1, v0, (v0.length : Int), 0, ())) fun z3 =>
    onSum z3 (fun a4 => some (a4.1, ())) fun b5 =>
    bif ltI (b5.1.length : Int) (b5.2.1.length : Int) then
      some ((-1), ())
    else some (0, ())
noncomputable def c57 : Code := bodyOf Tryz.f57
abbrev E57 : Env := envOf [e74]
theorem E57_ok : EnvOK Tryz.prog E57 := env_ok ⟨e74_ok, trivial⟩
noncomputable def a57_0 : Code := loopAt c57 0
def lt57 (id : Nat) : Option LSpec := bif Nat.beq id 2 then some ⟨sh57_0, ex57_0, loop57_0⟩ else none
theorem round57_0 : ∀ x, roundK Tryz.prog E57 36 (keepOf Tryz.f57) lt57 a57_0 sh57_0 ex57_0 x = step57_0 x := by
  rintro ⟨v0, v1, v9, v10, v11, ⟨⟩⟩
  kernel_rfl
theorem in57_0 : loopsOf a57_0 = [] := by kernel_rfl
theorem first57_0 : firstRegion a57_0 = 2 := by kernel_rfl
theorem spec57_0 : SpecOK Tryz.prog 36 a57_0 ⟨sh57_0, ex57_0, loop57_0⟩ := by
  exact loop_ok E57_ok.callee progOK.mixed _ (loops_ok in57_0 trivial) round57_0
theorem loops57 : loopsOf c57 = [a57_0] := by kernel_rfl
theorem body57 : ∀ x, bodyK Tryz.prog E57 Tryz.f57 (keepOf Tryz.f57) lt57 c57 [.list (.int .i64), .list (.int .i64)] [.int .i64] x = f57 x := by
  rintro ⟨v0, v1, ⟨⟩⟩
  kernel_rfl
theorem fn57 : FnOK Tryz.prog 57 [.list (.int .i64), .list (.int .i64)] [.int .i64] f57 := by
  exact fun_ok progOK E57_ok Tryz.func57 (c := c57) (by kernel_rfl) (keep := keepOf Tryz.f57) (lt := lt57) (loops_ok loops57 ⟨spec_of first57_0 rfl spec57_0, trivial⟩) body57
abbrev e57 : Ent := ⟨57, [.list (.int .i64), .list (.int .i64)], [.int .i64], f57⟩
theorem e57_ok : Ent.OK Tryz.prog e57 := fn57

/-! schisma/row.Compare -/
def f35 (x : denK [.list (.int .i64), .list (.int .i64)]) : Option (denK [.int .i64]) := match x with
  | (v0, v1, ()) =>
    askO (f57 (v0, v1, ())) fun y1 =>
    some (y1.1, ())
noncomputable def c35 : Code := bodyOf Tryz.f35
abbrev E35 : Env := envOf [e57]
theorem E35_ok : EnvOK Tryz.prog E35 := env_ok ⟨e57_ok, trivial⟩
def lt35 (id : Nat) : Option LSpec := none
theorem loops35 : loopsOf c35 = [] := by kernel_rfl
theorem body35 : ∀ x, bodyK Tryz.prog E35 Tryz.f35 (keepOf Tryz.f35) lt35 c35 [.list (.int .i64), .list (.int .i64)] [.int .i64] x = f35 x := by
  rintro ⟨v0, v1, ⟨⟩⟩
  kernel_rfl
theorem fn35 : FnOK Tryz.prog 35 [.list (.int .i64), .list (.int .i64)] [.int .i64] f35 := by
  exact fun_ok progOK E35_ok Tryz.func35 (c := c35) (by kernel_rfl) (keep := keepOf Tryz.f35) (lt := lt35) (loops_ok loops35 trivial) body35
abbrev e35 : Ent := ⟨35, [.list (.int .i64), .list (.int .i64)], [.int .i64], f35⟩
theorem e35_ok : Ent.OK Tryz.prog e35 := fn35

/-! schisma/row.fits -/
def f60 (x : denK [.int .i64]) : Option (denK [.bool]) := match x with
  | (v0, ()) =>
    bif !(ltI v0 (-1000000000)) then
      some (!(ltI 1000000000 v0), ())
    else some (false, ())
noncomputable def c60 : Code := bodyOf Tryz.f60
abbrev E60 : Env := envOf []
theorem E60_ok : EnvOK Tryz.prog E60 := env_ok trivial
def lt60 (id : Nat) : Option LSpec := none
theorem loops60 : loopsOf c60 = [] := by kernel_rfl
theorem body60 : ∀ x, bodyK Tryz.prog E60 Tryz.f60 (keepOf Tryz.f60) lt60 c60 [.int .i64] [.bool] x = f60 x := by
  rintro ⟨v0, ⟨⟩⟩
  kernel_rfl
theorem fn60 : FnOK Tryz.prog 60 [.int .i64] [.bool] f60 := by
  exact fun_ok progOK E60_ok Tryz.func60 (c := c60) (by kernel_rfl) (keep := keepOf Tryz.f60) (lt := lt60) (loops_ok loops60 trivial) body60
abbrev e60 : Ent := ⟨60, [.int .i64], [.bool], f60⟩
theorem e60_ok : Ent.OK Tryz.prog e60 := fn60

/-! schisma/row.Check$1 -/
def f59 (x : denK [.int .i64]) : Option (denK [.bool]) := match x with
  | (v0, ()) =>
    askO (f60 (v0, ())) fun y1 =>
    bif y1.1 then
      some (false, ())
    else some (true, ())
noncomputable def c59 : Code := bodyOf Tryz.f59
abbrev E59 : Env := envOf [e60]
theorem E59_ok : EnvOK Tryz.prog E59 := env_ok ⟨e60_ok, trivial⟩
def lt59 (id : Nat) : Option LSpec := none
theorem loops59 : loopsOf c59 = [] := by kernel_rfl
theorem body59 : ∀ x, bodyK Tryz.prog E59 Tryz.f59 (keepOf Tryz.f59) lt59 c59 [.int .i64] [.bool] x = f59 x := by
  rintro ⟨v0, ⟨⟩⟩
  kernel_rfl
theorem fn59 : FnOK Tryz.prog 59 [.int .i64] [.bool] f59 := by
  exact fun_ok progOK E59_ok Tryz.func59 (c := c59) (by kernel_rfl) (keep := keepOf Tryz.f59) (lt := lt59) (loops_ok loops59 trivial) body59
abbrev e59 : Ent := ⟨59, [.int .i64], [.bool], f59⟩
theorem e59_ok : Ent.OK Tryz.prog e59 := fn59

/-! slices.IndexFunc[schisma/api.Row,int] -/
abbrev sh73s1f59_0 : List (Nat × Kd) := [(0, .list (.int .i64)), (1, .fn 59), (7, .int .i64), (8, .int .i64)]
abbrev ex73s1f59_0 : List (Ex × List (Nat × Kd)) := [(.ret, [(4, .int .i64)]), (.exit 0, [])]
def step73s1f59_0 (x : Shape.den sh73s1f59_0) : Option (Shape.den sh73s1f59_0 ⊕ exDen ex73s1f59_0) := match x with
  | (v0, v1, v7, v8, ()) =>
    bif ltI v8 v7 then
      bif idxOk v8 v0.length then askO (f59 ((v0.getD v8.toNat 0), ())) fun y2 =>
      bif y2.1 then
        some (.inr (.inl (v8, ())))
      else some (.inl (v0, (), v7, (wrapF .i64 (v8 + 1)), ())) else none
    else some (.inr (.inr ((()))))
def loop73s1f59_0 (x : Shape.den sh73s1f59_0) : Option (exDen ex73s1f59_0) := loopN step73s1f59_0 (2 ^ 64) x
def f73s1f59 (x : denK [.list (.int .i64), .fn 59]) : Option (denK [.int .i64]) := match x with
  | (v0, v1, ()) =>
    askO (loop73s1f59_0 (v0, (), (v0.length : Int), 0, ())) fun z3 =>
    onSum z3 (fun a4 => some (a4.1, ())) fun b5 =>
    some ((-1), ())
noncomputable def c73s1f59 : Code := bodyOf Tryz.f73
abbrev E73s1f59 : Env := envOf [e59]
theorem E73s1f59_ok : EnvOK Tryz.prog E73s1f59 := env_ok ⟨e59_ok, trivial⟩
noncomputable def a73s1f59_0 : Code := loopAt c73s1f59 0
def lt73s1f59 (id : Nat) : Option LSpec := bif Nat.beq id 2 then some ⟨sh73s1f59_0, ex73s1f59_0, loop73s1f59_0⟩ else none
theorem round73s1f59_0 : ∀ x, roundK Tryz.prog E73s1f59 19 (keepOf Tryz.f73) lt73s1f59 a73s1f59_0 sh73s1f59_0 ex73s1f59_0 x = step73s1f59_0 x := by
  rintro ⟨v0, v1, v7, v8, ⟨⟩⟩
  kernel_rfl
theorem in73s1f59_0 : loopsOf a73s1f59_0 = [] := by kernel_rfl
theorem first73s1f59_0 : firstRegion a73s1f59_0 = 2 := by kernel_rfl
theorem spec73s1f59_0 : SpecOK Tryz.prog 19 a73s1f59_0 ⟨sh73s1f59_0, ex73s1f59_0, loop73s1f59_0⟩ := by
  exact loop_ok E73s1f59_ok.callee progOK.mixed _ (loops_ok in73s1f59_0 trivial) round73s1f59_0
theorem loops73s1f59 : loopsOf c73s1f59 = [a73s1f59_0] := by kernel_rfl
theorem body73s1f59 : ∀ x, bodyK Tryz.prog E73s1f59 Tryz.f73 (keepOf Tryz.f73) lt73s1f59 c73s1f59 [.list (.int .i64), .fn 59] [.int .i64] x = f73s1f59 x := by
  rintro ⟨v0, v1, ⟨⟩⟩
  kernel_rfl
theorem fn73s1f59 : FnOK Tryz.prog 73 [.list (.int .i64), .fn 59] [.int .i64] f73s1f59 := by
  exact fun_ok progOK E73s1f59_ok Tryz.func73 (c := c73s1f59) (by kernel_rfl) (keep := keepOf Tryz.f73) (lt := lt73s1f59) (loops_ok loops73s1f59 ⟨spec_of first73s1f59_0 rfl spec73s1f59_0, trivial⟩) body73s1f59
abbrev e73s1f59 : Ent := ⟨73, [.list (.int .i64), .fn 59], [.int .i64], f73s1f59⟩
theorem e73s1f59_ok : Ent.OK Tryz.prog e73s1f59 := fn73s1f59

/-! slices.ContainsFunc[schisma/api.Row,int] -/
def f55s1f59 (x : denK [.list (.int .i64), .fn 59]) : Option (denK [.bool]) := match x with
  | (v0, v1, ()) =>
    askO (f73s1f59 (v0, (), ())) fun y1 =>
    some (!(ltI y1.1 0), ())
noncomputable def c55s1f59 : Code := bodyOf Tryz.f55
abbrev E55s1f59 : Env := envOf [e73s1f59]
theorem E55s1f59_ok : EnvOK Tryz.prog E55s1f59 := env_ok ⟨e73s1f59_ok, trivial⟩
def lt55s1f59 (id : Nat) : Option LSpec := none
theorem loops55s1f59 : loopsOf c55s1f59 = [] := by kernel_rfl
theorem body55s1f59 : ∀ x, bodyK Tryz.prog E55s1f59 Tryz.f55 (keepOf Tryz.f55) lt55s1f59 c55s1f59 [.list (.int .i64), .fn 59] [.bool] x = f55s1f59 x := by
  rintro ⟨v0, v1, ⟨⟩⟩
  kernel_rfl
theorem fn55s1f59 : FnOK Tryz.prog 55 [.list (.int .i64), .fn 59] [.bool] f55s1f59 := by
  exact fun_ok progOK E55s1f59_ok Tryz.func55 (c := c55s1f59) (by kernel_rfl) (keep := keepOf Tryz.f55) (lt := lt55s1f59) (loops_ok loops55s1f59 trivial) body55s1f59
abbrev e55s1f59 : Ent := ⟨55, [.list (.int .i64), .fn 59], [.bool], f55s1f59⟩
theorem e55s1f59_ok : Ent.OK Tryz.prog e55s1f59 := fn55s1f59

/-! schisma/row.Check -/
def f37 (x : denK [.list (.int .i64)]) : Option (denK [.int .i64]) := match x with
  | (v0, ()) =>
    bif ltI 64 (v0.length : Int) then
      some (4, ())
    else askO (f55s1f59 (v0, (), ())) fun y1 =>
    bif y1.1 then
      some (4, ())
    else some (0, ())
noncomputable def c37 : Code := bodyOf Tryz.f37
abbrev E37 : Env := envOf [e55s1f59]
theorem E37_ok : EnvOK Tryz.prog E37 := env_ok ⟨e55s1f59_ok, trivial⟩
def lt37 (id : Nat) : Option LSpec := none
theorem loops37 : loopsOf c37 = [] := by kernel_rfl
theorem body37 : ∀ x, bodyK Tryz.prog E37 Tryz.f37 (keepOf Tryz.f37) lt37 c37 [.list (.int .i64)] [.int .i64] x = f37 x := by
  rintro ⟨v0, ⟨⟩⟩
  kernel_rfl
theorem fn37 : FnOK Tryz.prog 37 [.list (.int .i64)] [.int .i64] f37 := by
  exact fun_ok progOK E37_ok Tryz.func37 (c := c37) (by kernel_rfl) (keep := keepOf Tryz.f37) (lt := lt37) (loops_ok loops37 trivial) body37
abbrev e37 : Ent := ⟨37, [.list (.int .i64)], [.int .i64], f37⟩
theorem e37_ok : Ent.OK Tryz.prog e37 := fn37

/-! slices.Equal[schisma/api.Row,int] -/
abbrev sh46_0 : List (Nat × Kd) := [(0, .list (.int .i64)), (1, .list (.int .i64)), (12, .int .i64), (13, .int .i64)]
abbrev ex46_0 : List (Ex × List (Nat × Kd)) := [(.ret, [(4, .bool)]), (.exit 0, [])]
def step46_0 (x : Shape.den sh46_0) : Option (Shape.den sh46_0 ⊕ exDen ex46_0) := match x with
  | (v0, v1, v12, v13, ()) =>
    bif ltI v13 v12 then
      bif idxOk v13 v0.length then bif idxOk v13 v1.length then bif !(eqI (v0.getD v13.toNat 0) (v1.getD v13.toNat 0)) then
        some (.inr (.inl (false, ())))
      else some (.inl (v0, v1, v12, (wrapF .i64 (v13 + 1)), ())) else none else none
    else some (.inr (.inr ((()))))
def loop46_0 (x : Shape.den sh46_0) : Option (exDen ex46_0) := loopN step46_0 (2 ^ 64) x
def f46 (x : denK [.list (.int .i64), .list (.int .i64)]) : Option (denK [.bool]) := match x with
  | (v0, v1, ()) =>
    bif !(eqI (v0.length : Int) (v1.length : Int)) then
      some (false, ())
    else askO (loop46_0 (v0, v1, (v0.length : Int), 0, ())) fun z1 =>
    onSum z1 (fun a2 => some (a2.1, ())) fun b3 =>
    some (true, ())
noncomputable def c46 : Code := bodyOf Tryz.f46
abbrev E46 : Env := envOf []
theorem E46_ok : EnvOK Tryz.prog E46 := env_ok trivial
noncomputable def a46_0 : Code := loopAt c46 0
def lt46 (id : Nat) : Option LSpec := bif Nat.beq id 4 then some ⟨sh46_0, ex46_0, loop46_0⟩ else none
theorem round46_0 : ∀ x, roundK Tryz.prog E46 26 (keepOf Tryz.f46) lt46 a46_0 sh46_0 ex46_0 x = step46_0 x := by
  rintro ⟨v0, v1, v12, v13, ⟨⟩⟩
  kernel_rfl
theorem in46_0 : loopsOf a46_0 = [] := by kernel_rfl
theorem first46_0 : firstRegion a46_0 = 4 := by kernel_rfl
theorem spec46_0 : SpecOK Tryz.prog 26 a46_0 ⟨sh46_0, ex46_0, loop46_0⟩ := by
  exact loop_ok E46_ok.callee progOK.mixed _ (loops_ok in46_0 trivial) round46_0
theorem loops46 : loopsOf c46 = [a46_0] := by kernel_rfl
theorem body46 : ∀ x, bodyK Tryz.prog E46 Tryz.f46 (keepOf Tryz.f46) lt46 c46 [.list (.int .i64), .list (.int .i64)] [.bool] x = f46 x := by
  rintro ⟨v0, v1, ⟨⟩⟩
  kernel_rfl
theorem fn46 : FnOK Tryz.prog 46 [.list (.int .i64), .list (.int .i64)] [.bool] f46 := by
  exact fun_ok progOK E46_ok Tryz.func46 (c := c46) (by kernel_rfl) (keep := keepOf Tryz.f46) (lt := lt46) (loops_ok loops46 ⟨spec_of first46_0 rfl spec46_0, trivial⟩) body46
abbrev e46 : Ent := ⟨46, [.list (.int .i64), .list (.int .i64)], [.bool], f46⟩
theorem e46_ok : Ent.OK Tryz.prog e46 := fn46

/-! schisma/row.Equal -/
def f43 (x : denK [.list (.int .i64), .list (.int .i64)]) : Option (denK [.bool]) := match x with
  | (v0, v1, ()) =>
    askO (f46 (v0, v1, ())) fun y1 =>
    some (y1.1, ())
noncomputable def c43 : Code := bodyOf Tryz.f43
abbrev E43 : Env := envOf [e46]
theorem E43_ok : EnvOK Tryz.prog E43 := env_ok ⟨e46_ok, trivial⟩
def lt43 (id : Nat) : Option LSpec := none
theorem loops43 : loopsOf c43 = [] := by kernel_rfl
theorem body43 : ∀ x, bodyK Tryz.prog E43 Tryz.f43 (keepOf Tryz.f43) lt43 c43 [.list (.int .i64), .list (.int .i64)] [.bool] x = f43 x := by
  rintro ⟨v0, v1, ⟨⟩⟩
  kernel_rfl
theorem fn43 : FnOK Tryz.prog 43 [.list (.int .i64), .list (.int .i64)] [.bool] f43 := by
  exact fun_ok progOK E43_ok Tryz.func43 (c := c43) (by kernel_rfl) (keep := keepOf Tryz.f43) (lt := lt43) (loops_ok loops43 trivial) body43
abbrev e43 : Ent := ⟨43, [.list (.int .i64), .list (.int .i64)], [.bool], f43⟩
theorem e43_ok : Ent.OK Tryz.prog e43 := fn43

/-! schisma/row.IsZero$1 -/
def f56 (x : denK [.int .i64]) : Option (denK [.bool]) := match x with
  | (v0, ()) =>
    some (!(eqI v0 0), ())
noncomputable def c56 : Code := bodyOf Tryz.f56
abbrev E56 : Env := envOf []
theorem E56_ok : EnvOK Tryz.prog E56 := env_ok trivial
def lt56 (id : Nat) : Option LSpec := none
theorem loops56 : loopsOf c56 = [] := by kernel_rfl
theorem body56 : ∀ x, bodyK Tryz.prog E56 Tryz.f56 (keepOf Tryz.f56) lt56 c56 [.int .i64] [.bool] x = f56 x := by
  rintro ⟨v0, ⟨⟩⟩
  kernel_rfl
theorem fn56 : FnOK Tryz.prog 56 [.int .i64] [.bool] f56 := by
  exact fun_ok progOK E56_ok Tryz.func56 (c := c56) (by kernel_rfl) (keep := keepOf Tryz.f56) (lt := lt56) (loops_ok loops56 trivial) body56
abbrev e56 : Ent := ⟨56, [.int .i64], [.bool], f56⟩
theorem e56_ok : Ent.OK Tryz.prog e56 := fn56

/-! slices.IndexFunc[schisma/api.Row,int] -/
abbrev sh73s1f56_0 : List (Nat × Kd) := [(0, .list (.int .i64)), (1, .fn 56), (7, .int .i64), (8, .int .i64)]
abbrev ex73s1f56_0 : List (Ex × List (Nat × Kd)) := [(.ret, [(4, .int .i64)]), (.exit 0, [])]
def step73s1f56_0 (x : Shape.den sh73s1f56_0) : Option (Shape.den sh73s1f56_0 ⊕ exDen ex73s1f56_0) := match x with
  | (v0, v1, v7, v8, ()) =>
    bif ltI v8 v7 then
      bif idxOk v8 v0.length then askO (f56 ((v0.getD v8.toNat 0), ())) fun y2 =>
      bif y2.1 then
        some (.inr (.inl (v8, ())))
      else some (.inl (v0, (), v7, (wrapF .i64 (v8 + 1)), ())) else none
    else some (.inr (.inr ((()))))
def loop73s1f56_0 (x : Shape.den sh73s1f56_0) : Option (exDen ex73s1f56_0) := loopN step73s1f56_0 (2 ^ 64) x
def f73s1f56 (x : denK [.list (.int .i64), .fn 56]) : Option (denK [.int .i64]) := match x with
  | (v0, v1, ()) =>
    askO (loop73s1f56_0 (v0, (), (v0.length : Int), 0, ())) fun z3 =>
    onSum z3 (fun a4 => some (a4.1, ())) fun b5 =>
    some ((-1), ())
noncomputable def c73s1f56 : Code := bodyOf Tryz.f73
abbrev E73s1f56 : Env := envOf [e56]
theorem E73s1f56_ok : EnvOK Tryz.prog E73s1f56 := env_ok ⟨e56_ok, trivial⟩
noncomputable def a73s1f56_0 : Code := loopAt c73s1f56 0
def lt73s1f56 (id : Nat) : Option LSpec := bif Nat.beq id 2 then some ⟨sh73s1f56_0, ex73s1f56_0, loop73s1f56_0⟩ else none
theorem round73s1f56_0 : ∀ x, roundK Tryz.prog E73s1f56 19 (keepOf Tryz.f73) lt73s1f56 a73s1f56_0 sh73s1f56_0 ex73s1f56_0 x = step73s1f56_0 x := by
  rintro ⟨v0, v1, v7, v8, ⟨⟩⟩
  kernel_rfl
theorem in73s1f56_0 : loopsOf a73s1f56_0 = [] := by kernel_rfl
theorem first73s1f56_0 : firstRegion a73s1f56_0 = 2 := by kernel_rfl
theorem spec73s1f56_0 : SpecOK Tryz.prog 19 a73s1f56_0 ⟨sh73s1f56_0, ex73s1f56_0, loop73s1f56_0⟩ := by
  exact loop_ok E73s1f56_ok.callee progOK.mixed _ (loops_ok in73s1f56_0 trivial) round73s1f56_0
theorem loops73s1f56 : loopsOf c73s1f56 = [a73s1f56_0] := by kernel_rfl
theorem body73s1f56 : ∀ x, bodyK Tryz.prog E73s1f56 Tryz.f73 (keepOf Tryz.f73) lt73s1f56 c73s1f56 [.list (.int .i64), .fn 56] [.int .i64] x = f73s1f56 x := by
  rintro ⟨v0, v1, ⟨⟩⟩
  kernel_rfl
theorem fn73s1f56 : FnOK Tryz.prog 73 [.list (.int .i64), .fn 56] [.int .i64] f73s1f56 := by
  exact fun_ok progOK E73s1f56_ok Tryz.func73 (c := c73s1f56) (by kernel_rfl) (keep := keepOf Tryz.f73) (lt := lt73s1f56) (loops_ok loops73s1f56 ⟨spec_of first73s1f56_0 rfl spec73s1f56_0, trivial⟩) body73s1f56
abbrev e73s1f56 : Ent := ⟨73, [.list (.int .i64), .fn 56], [.int .i64], f73s1f56⟩
theorem e73s1f56_ok : Ent.OK Tryz.prog e73s1f56 := fn73s1f56

/-! slices.ContainsFunc[schisma/api.Row,int] -/
def f55s1f56 (x : denK [.list (.int .i64), .fn 56]) : Option (denK [.bool]) := match x with
  | (v0, v1, ()) =>
    askO (f73s1f56 (v0, (), ())) fun y1 =>
    some (!(ltI y1.1 0), ())
noncomputable def c55s1f56 : Code := bodyOf Tryz.f55
abbrev E55s1f56 : Env := envOf [e73s1f56]
theorem E55s1f56_ok : EnvOK Tryz.prog E55s1f56 := env_ok ⟨e73s1f56_ok, trivial⟩
def lt55s1f56 (id : Nat) : Option LSpec := none
theorem loops55s1f56 : loopsOf c55s1f56 = [] := by kernel_rfl
theorem body55s1f56 : ∀ x, bodyK Tryz.prog E55s1f56 Tryz.f55 (keepOf Tryz.f55) lt55s1f56 c55s1f56 [.list (.int .i64), .fn 56] [.bool] x = f55s1f56 x := by
  rintro ⟨v0, v1, ⟨⟩⟩
  kernel_rfl
theorem fn55s1f56 : FnOK Tryz.prog 55 [.list (.int .i64), .fn 56] [.bool] f55s1f56 := by
  exact fun_ok progOK E55s1f56_ok Tryz.func55 (c := c55s1f56) (by kernel_rfl) (keep := keepOf Tryz.f55) (lt := lt55s1f56) (loops_ok loops55s1f56 trivial) body55s1f56
abbrev e55s1f56 : Ent := ⟨55, [.list (.int .i64), .fn 56], [.bool], f55s1f56⟩
theorem e55s1f56_ok : Ent.OK Tryz.prog e55s1f56 := fn55s1f56

/-! schisma/row.IsZero -/
def f34 (x : denK [.list (.int .i64)]) : Option (denK [.bool]) := match x with
  | (v0, ()) =>
    askO (f55s1f56 (v0, (), ())) fun y1 =>
    bif y1.1 then
      some (false, ())
    else some (true, ())
noncomputable def c34 : Code := bodyOf Tryz.f34
abbrev E34 : Env := envOf [e55s1f56]
theorem E34_ok : EnvOK Tryz.prog E34 := env_ok ⟨e55s1f56_ok, trivial⟩
def lt34 (id : Nat) : Option LSpec := none
theorem loops34 : loopsOf c34 = [] := by kernel_rfl
theorem body34 : ∀ x, bodyK Tryz.prog E34 Tryz.f34 (keepOf Tryz.f34) lt34 c34 [.list (.int .i64)] [.bool] x = f34 x := by
  rintro ⟨v0, ⟨⟩⟩
  kernel_rfl
theorem fn34 : FnOK Tryz.prog 34 [.list (.int .i64)] [.bool] f34 := by
  exact fun_ok progOK E34_ok Tryz.func34 (c := c34) (by kernel_rfl) (keep := keepOf Tryz.f34) (lt := lt34) (loops_ok loops34 trivial) body34
abbrev e34 : Ent := ⟨34, [.list (.int .i64)], [.bool], f34⟩
theorem e34_ok : Ent.OK Tryz.prog e34 := fn34

/-! slices.Index[[]schisma/api.Key,schisma/api.Key] -/
abbrev sh75_0 : List (Nat × Kd) := [(0, .list (.prod (.int .i64) (.int .i64))), (3, .box 109 (.prod (.int .i64) (.int .i64))), (7, .int .i64), (8, .int .i64)]
abbrev ex75_0 : List (Ex × List (Nat × Kd)) := [(.ret, [(4, .int .i64)]), (.exit 0, [])]
def step75_0 (x : Shape.den sh75_0) : Option (Shape.den sh75_0 ⊕ exDen ex75_0) := match x with
  | (v0, v3, v7, v8, ()) =>
    bif ltI v8 v7 then
      bif idxOk v8 v0.length then bif (eqI v3.1 ((v0.getD v8.toNat (0, 0)).1) && (eqI v3.2 ((v0.getD v8.toNat (0, 0)).2) && true)) then
        some (.inr (.inl (v8, ())))
      else some (.inl (v0, (v3.1, v3.2), v7, (wrapF .i64 (v8 + 1)), ())) else none
    else some (.inr (.inr ((()))))
def loop75_0 (x : Shape.den sh75_0) : Option (exDen ex75_0) := loopN step75_0 (2 ^ 64) x
def f75 (x : denK [.list (.prod (.int .i64) (.int .i64)), .agg (.prod (.int .i64) (.int .i64))]) : Option (denK [.int .i64]) := match x with
  | (v0, v1, ()) =>
    askO (loop75_0 (v0, (v1.1, v1.2), (v0.length : Int), 0, ())) fun z1 =>
    onSum z1 (fun a2 => some (a2.1, ())) fun b3 =>
    some ((-1), ())
noncomputable def c75 : Code := bodyOf Tryz.f75
abbrev E75 : Env := envOf []
theorem E75_ok : EnvOK Tryz.prog E75 := env_ok trivial
noncomputable def a75_0 : Code := loopAt c75 0
def lt75 (id : Nat) : Option LSpec := bif Nat.beq id 2 then some ⟨sh75_0, ex75_0, loop75_0⟩ else none
theorem round75_0 : ∀ x, roundK Tryz.prog E75 19 (keepOf Tryz.f75) lt75 a75_0 sh75_0 ex75_0 x = step75_0 x := by
  rintro ⟨v0, v3, v7, v8, ⟨⟩⟩
  kernel_rfl
theorem in75_0 : loopsOf a75_0 = [] := by kernel_rfl
theorem first75_0 : firstRegion a75_0 = 2 := by kernel_rfl
theorem spec75_0 : SpecOK Tryz.prog 19 a75_0 ⟨sh75_0, ex75_0, loop75_0⟩ := by
  exact loop_ok E75_ok.callee progOK.mixed _ (loops_ok in75_0 trivial) round75_0
theorem loops75 : loopsOf c75 = [a75_0] := by kernel_rfl
theorem body75 : ∀ x, bodyK Tryz.prog E75 Tryz.f75 (keepOf Tryz.f75) lt75 c75 [.list (.prod (.int .i64) (.int .i64)), .agg (.prod (.int .i64) (.int .i64))] [.int .i64] x = f75 x := by
  rintro ⟨v0, v1, ⟨⟩⟩
  kernel_rfl
theorem fn75 : FnOK Tryz.prog 75 [.list (.prod (.int .i64) (.int .i64)), .agg (.prod (.int .i64) (.int .i64))] [.int .i64] f75 := by
  exact fun_ok progOK E75_ok Tryz.func75 (c := c75) (by kernel_rfl) (keep := keepOf Tryz.f75) (lt := lt75) (loops_ok loops75 ⟨spec_of first75_0 rfl spec75_0, trivial⟩) body75
abbrev e75 : Ent := ⟨75, [.list (.prod (.int .i64) (.int .i64)), .agg (.prod (.int .i64) (.int .i64))], [.int .i64], f75⟩
theorem e75_ok : Ent.OK Tryz.prog e75 := fn75

/-! slices.Contains[[]schisma/api.Key,schisma/api.Key] -/
def f63 (x : denK [.list (.prod (.int .i64) (.int .i64)), .agg (.prod (.int .i64) (.int .i64))]) : Option (denK [.bool]) := match x with
  | (v0, v1, ()) =>
    askO (f75 (v0, (v1.1, v1.2), ())) fun y1 =>
    some (!(ltI y1.1 0), ())
noncomputable def c63 : Code := bodyOf Tryz.f63
abbrev E63 : Env := envOf [e75]
theorem E63_ok : EnvOK Tryz.prog E63 := env_ok ⟨e75_ok, trivial⟩
def lt63 (id : Nat) : Option LSpec := none
theorem loops63 : loopsOf c63 = [] := by kernel_rfl
theorem body63 : ∀ x, bodyK Tryz.prog E63 Tryz.f63 (keepOf Tryz.f63) lt63 c63 [.list (.prod (.int .i64) (.int .i64)), .agg (.prod (.int .i64) (.int .i64))] [.bool] x = f63 x := by
  rintro ⟨v0, v1, ⟨⟩⟩
  kernel_rfl
theorem fn63 : FnOK Tryz.prog 63 [.list (.prod (.int .i64) (.int .i64)), .agg (.prod (.int .i64) (.int .i64))] [.bool] f63 := by
  exact fun_ok progOK E63_ok Tryz.func63 (c := c63) (by kernel_rfl) (keep := keepOf Tryz.f63) (lt := lt63) (loops_ok loops63 trivial) body63
abbrev e63 : Ent := ⟨63, [.list (.prod (.int .i64) (.int .i64)), .agg (.prod (.int .i64) (.int .i64))], [.bool], f63⟩
theorem e63_ok : Ent.OK Tryz.prog e63 := fn63

/-! schisma/isomorphy.neighbours -/
def f61 (x : denK [.int .i64]) : Option (denK [.list (.prod (.int .i64) (.int .i64))]) := match x with
  | (v0, ()) =>
    bif eqI v0 2 then
      bif Nat.ble [(1, (-1)), ((-1), 1)].length 1048576 then bif Nat.ble [(1, 0), ((-1), 0), (0, 1), (0, (-1))].length 1048576 then bif Nat.blt 4 ([(1, 0), ((-1), 0), (0, 1), (0, (-1))].length + [(1, (-1)), ((-1), 1)].length) then some (([(1, 0), ((-1), 0), (0, 1), (0, (-1))] ++ [(1, (-1)), ((-1), 1)]), ()) else none else none else none
    else some ([(1, 0), ((-1), 0), (0, 1), (0, (-1))], ())
noncomputable def c61 : Code := bodyOf Tryz.f61
abbrev E61 : Env := envOf []
theorem E61_ok : EnvOK Tryz.prog E61 := env_ok trivial
def lt61 (id : Nat) : Option LSpec := none
theorem loops61 : loopsOf c61 = [] := by kernel_rfl
theorem body61 : ∀ x, bodyK Tryz.prog E61 Tryz.f61 (keepOf Tryz.f61) lt61 c61 [.int .i64] [.list (.prod (.int .i64) (.int .i64))] x = f61 x := by
  rintro ⟨v0, ⟨⟩⟩
  kernel_rfl
theorem fn61 : FnOK Tryz.prog 61 [.int .i64] [.list (.prod (.int .i64) (.int .i64))] f61 := by
  exact fun_ok progOK E61_ok Tryz.func61 (c := c61) (by kernel_rfl) (keep := keepOf Tryz.f61) (lt := lt61) (loops_ok loops61 trivial) body61
abbrev e61 : Ent := ⟨61, [.int .i64], [.list (.prod (.int .i64) (.int .i64))], f61⟩
theorem e61_ok : Ent.OK Tryz.prog e61 := fn61

/-! schisma/isomorphy.Check -/
abbrev sh24_0 : List (Nat × Kd) := [(1, .box 25 (.prod (.int .i64) (.prod (.list (.int .i64)) (.prod (.list (.int .i64)) (.list (.int .i64)))))), (20, .agg (.prod (.list (.int .i64)) (.prod (.list (.int .i64)) (.list (.int .i64))))), (21, .int .i64)]
abbrev ex24_0 : List (Ex × List (Nat × Kd)) := [(.ret, [(2, .int .i64)]), (.exit 0, [])]
def step24_0 (x : Shape.den sh24_0) : Option (Shape.den sh24_0 ⊕ exDen ex24_0) := match x with
  | (v1, v20, v21, ()) =>
    bif ltI v21 3 then
      bif eqI v21 0 then
        askO (f37 (v20.1, ())) fun y4 =>
        bif !(eqI y4.1 0) then
          some (.inr (.inl (y4.1, ())))
        else bif !(eqI (v20.1.length : Int) (v1.2.1.length : Int)) then
          some (.inr (.inl (5, ())))
        else some (.inl ((v1.1, (v1.2.1, (v1.2.2.1, v1.2.2.2))), (v20.1, (v20.2.1, v20.2.2)), (wrapF .i64 (v21 + 1)), ()))
      else bif eqI v21 1 then
        askO (f37 (v20.2.1, ())) fun y5 =>
        bif !(eqI y5.1 0) then
          some (.inr (.inl (y5.1, ())))
        else bif !(eqI (v20.2.1.length : Int) (v1.2.1.length : Int)) then
          some (.inr (.inl (5, ())))
        else some (.inl ((v1.1, (v1.2.1, (v1.2.2.1, v1.2.2.2))), (v20.1, (v20.2.1, v20.2.2)), (wrapF .i64 (v21 + 1)), ()))
      else bif eqI v21 2 then askO (f37 (v20.2.2, ())) fun y6 =>
      bif !(eqI y6.1 0) then
        some (.inr (.inl (y6.1, ())))
      else bif !(eqI (v20.2.2.length : Int) (v1.2.1.length : Int)) then
        some (.inr (.inl (5, ())))
      else some (.inl ((v1.1, (v1.2.1, (v1.2.2.1, v1.2.2.2))), (v20.1, (v20.2.1, v20.2.2)), (wrapF .i64 (v21 + 1)), ())) else none
    else some (.inr (.inr ((()))))
def loop24_0 (x : Shape.den sh24_0) : Option (exDen ex24_0) := loopN step24_0 (2 ^ 64) x
def f24 (x : denK [.agg (.prod (.int .i64) (.prod (.list (.int .i64)) (.prod (.list (.int .i64)) (.list (.int .i64)))))]) : Option (denK [.int .i64]) := match x with
  | (v0, ()) =>
    bif !(eqI v0.1 1) then
      bif !(eqI v0.1 2) then
        some (12, ())
      else askO (loop24_0 ((v0.1, (v0.2.1, (v0.2.2.1, v0.2.2.2))), (v0.2.1, (v0.2.2.1, v0.2.2.2)), 0, ())) fun z7 =>
      onSum z7 (fun a8 => some (a8.1, ())) fun b9 =>
      some (0, ())
    else askO (loop24_0 ((v0.1, (v0.2.1, (v0.2.2.1, v0.2.2.2))), (v0.2.1, (v0.2.2.1, v0.2.2.2)), 0, ())) fun z10 =>
    onSum z10 (fun a11 => some (a11.1, ())) fun b12 =>
    some (0, ())
noncomputable def c24 : Code := bodyOf Tryz.f24
abbrev E24 : Env := envOf [e37]
theorem E24_ok : EnvOK Tryz.prog E24 := env_ok ⟨e37_ok, trivial⟩
noncomputable def a24_0 : Code := loopAt c24 0
def lt24 (id : Nat) : Option LSpec := bif Nat.beq id 4 then some ⟨sh24_0, ex24_0, loop24_0⟩ else none
theorem round24_0 : ∀ x, roundK Tryz.prog E24 36 (keepOf Tryz.f24) lt24 a24_0 sh24_0 ex24_0 x = step24_0 x := by
  rintro ⟨v1, v20, v21, ⟨⟩⟩
  kernel_rfl
theorem in24_0 : loopsOf a24_0 = [] := by kernel_rfl
theorem first24_0 : firstRegion a24_0 = 4 := by kernel_rfl
theorem spec24_0 : SpecOK Tryz.prog 36 a24_0 ⟨sh24_0, ex24_0, loop24_0⟩ := by
  exact loop_ok E24_ok.callee progOK.mixed _ (loops_ok in24_0 trivial) round24_0
theorem loops24 : loopsOf c24 = [a24_0] := by kernel_rfl
theorem body24 : ∀ x, bodyK Tryz.prog E24 Tryz.f24 (keepOf Tryz.f24) lt24 c24 [.agg (.prod (.int .i64) (.prod (.list (.int .i64)) (.prod (.list (.int .i64)) (.list (.int .i64)))))] [.int .i64] x = f24 x := by
  rintro ⟨v0, ⟨⟩⟩
  kernel_rfl
theorem fn24 : FnOK Tryz.prog 24 [.agg (.prod (.int .i64) (.prod (.list (.int .i64)) (.prod (.list (.int .i64)) (.list (.int .i64)))))] [.int .i64] f24 := by
  exact fun_ok progOK E24_ok Tryz.func24 (c := c24) (by kernel_rfl) (keep := keepOf Tryz.f24) (lt := lt24) (loops_ok loops24 ⟨spec_of first24_0 rfl spec24_0, trivial⟩) body24
abbrev e24 : Ent := ⟨24, [.agg (.prod (.int .i64) (.prod (.list (.int .i64)) (.prod (.list (.int .i64)) (.list (.int .i64)))))], [.int .i64], f24⟩
theorem e24_ok : Ent.OK Tryz.prog e24 := fn24

/-! schisma/isomorphy.Equal -/
def f25 (x : denK [.agg (.prod (.int .i64) (.prod (.list (.int .i64)) (.prod (.list (.int .i64)) (.list (.int .i64))))), .agg (.prod (.int .i64) (.prod (.list (.int .i64)) (.prod (.list (.int .i64)) (.list (.int .i64)))))]) : Option (denK [.bool]) := match x with
  | (v0, v1, ()) =>
    bif eqI v0.1 v1.1 then
      askO (f46 (v0.2.1, v1.2.1, ())) fun y1 =>
      bif y1.1 then
        askO (f46 (v0.2.2.1, v1.2.2.1, ())) fun y2 =>
        bif y2.1 then
          askO (f46 (v0.2.2.2, v1.2.2.2, ())) fun y3 =>
          some (y3.1, ())
        else some (false, ())
      else some (false, ())
    else some (false, ())
noncomputable def c25 : Code := bodyOf Tryz.f25
abbrev E25 : Env := envOf [e46]
theorem E25_ok : EnvOK Tryz.prog E25 := env_ok ⟨e46_ok, trivial⟩
def lt25 (id : Nat) : Option LSpec := none
theorem loops25 : loopsOf c25 = [] := by kernel_rfl
theorem body25 : ∀ x, bodyK Tryz.prog E25 Tryz.f25 (keepOf Tryz.f25) lt25 c25 [.agg (.prod (.int .i64) (.prod (.list (.int .i64)) (.prod (.list (.int .i64)) (.list (.int .i64))))), .agg (.prod (.int .i64) (.prod (.list (.int .i64)) (.prod (.list (.int .i64)) (.list (.int .i64)))))] [.bool] x = f25 x := by
  rintro ⟨v0, v1, ⟨⟩⟩
  kernel_rfl
theorem fn25 : FnOK Tryz.prog 25 [.agg (.prod (.int .i64) (.prod (.list (.int .i64)) (.prod (.list (.int .i64)) (.list (.int .i64))))), .agg (.prod (.int .i64) (.prod (.list (.int .i64)) (.prod (.list (.int .i64)) (.list (.int .i64)))))] [.bool] f25 := by
  exact fun_ok progOK E25_ok Tryz.func25 (c := c25) (by kernel_rfl) (keep := keepOf Tryz.f25) (lt := lt25) (loops_ok loops25 trivial) body25
abbrev e25 : Ent := ⟨25, [.agg (.prod (.int .i64) (.prod (.list (.int .i64)) (.prod (.list (.int .i64)) (.list (.int .i64))))), .agg (.prod (.int .i64) (.prod (.list (.int .i64)) (.prod (.list (.int .i64)) (.list (.int .i64)))))], [.bool], f25⟩
theorem e25_ok : Ent.OK Tryz.prog e25 := fn25

/-! schisma/isomorphy.combine -/
abbrev sh65_0 : List (Nat × Kd) := [(0, .list (.int .i64)), (1, .list (.int .i64)), (2, .int .i64), (3, .int .i64), (9, .own 3 (.int .i64)), (13, .int .i64), (14, .int .i64)]
abbrev ex65_0 : List (Ex × List (Nat × Kd)) := [(.exit 0, [(9, .own 3 (.int .i64))])]
def step65_0 (x : Shape.den sh65_0) : Option (Shape.den sh65_0 ⊕ exDen ex65_0) := match x with
  | (v0, v1, v2, v3, v9, v13, v14, ()) =>
    bif ltI v14 v13 then
      bif idxOk v14 v0.length then bif idxOk v14 v1.length then bif Nat.ble [(wrapF .i64 ((wrapF .i64 (v2 * (v0.getD v14.toNat 0))) + (wrapF .i64 (v3 * (v1.getD v14.toNat 0)))))].length 1048576 then bif Nat.ble v9.length 1048576 then some (.inl (v0, v1, v2, v3, (v9 ++ [(wrapF .i64 ((wrapF .i64 (v2 * (v0.getD v14.toNat 0))) + (wrapF .i64 (v3 * (v1.getD v14.toNat 0)))))]), v13, (wrapF .i64 (v14 + 1)), ())) else none else none else none else none
    else some (.inr ((v9, ())))
def loop65_0 (x : Shape.den sh65_0) : Option (exDen ex65_0) := loopN step65_0 (2 ^ 64) x
def f65 (x : denK [.list (.int .i64), .list (.int .i64), .int .i64, .int .i64]) : Option (denK [.list (.int .i64)]) := match x with
  | (v0, v1, v2, v3, ()) =>
    askO (loop65_0 (v0, v1, v2, v3, [], (v0.length : Int), 0, ())) fun z1 =>
    some (z1.1, ())
noncomputable def c65 : Code := bodyOf Tryz.f65
abbrev E65 : Env := envOf []
theorem E65_ok : EnvOK Tryz.prog E65 := env_ok trivial
noncomputable def a65_0 : Code := loopAt c65 0
def lt65 (id : Nat) : Option LSpec := bif Nat.beq id 3 then some ⟨sh65_0, ex65_0, loop65_0⟩ else none
theorem round65_0 : ∀ x, roundK Tryz.prog E65 35 (keepOf Tryz.f65) lt65 a65_0 sh65_0 ex65_0 x = step65_0 x := by
  rintro ⟨v0, v1, v2, v3, v9, v13, v14, ⟨⟩⟩
  kernel_rfl
theorem in65_0 : loopsOf a65_0 = [] := by kernel_rfl
theorem first65_0 : firstRegion a65_0 = 3 := by kernel_rfl
theorem spec65_0 : SpecOK Tryz.prog 35 a65_0 ⟨sh65_0, ex65_0, loop65_0⟩ := by
  exact loop_ok E65_ok.callee progOK.mixed _ (loops_ok in65_0 trivial) round65_0
theorem loops65 : loopsOf c65 = [a65_0] := by kernel_rfl
theorem body65 : ∀ x, bodyK Tryz.prog E65 Tryz.f65 (keepOf Tryz.f65) lt65 c65 [.list (.int .i64), .list (.int .i64), .int .i64, .int .i64] [.list (.int .i64)] x = f65 x := by
  rintro ⟨v0, v1, v2, v3, ⟨⟩⟩
  kernel_rfl
theorem fn65 : FnOK Tryz.prog 65 [.list (.int .i64), .list (.int .i64), .int .i64, .int .i64] [.list (.int .i64)] f65 := by
  exact fun_ok progOK E65_ok Tryz.func65 (c := c65) (by kernel_rfl) (keep := keepOf Tryz.f65) (lt := lt65) (loops_ok loops65 ⟨spec_of first65_0 rfl spec65_0, trivial⟩) body65
abbrev e65 : Ent := ⟨65, [.list (.int .i64), .list (.int .i64), .int .i64, .int .i64], [.list (.int .i64)], f65⟩
theorem e65_ok : Ent.OK Tryz.prog e65 := fn65

/-! schisma/isomorphy.turn -/
def f40 (x : denK [.agg (.prod (.int .i64) (.prod (.list (.int .i64)) (.prod (.list (.int .i64)) (.list (.int .i64))))), .agg (.prod (.int .i64) (.prod (.int .i64) (.prod (.int .i64) (.int .i64))))]) : Option (denK [.agg (.prod (.int .i64) (.prod (.list (.int .i64)) (.prod (.list (.int .i64)) (.list (.int .i64)))))]) := match x with
  | (v0, v1, ()) =>
    askO (f64c (v0.2.1, ())) fun y1 =>
    askO (f65 (v0.2.2.1, v0.2.2.2, v1.1, v1.2.2.1, ())) fun y2 =>
    askO (f65 (v0.2.2.1, v0.2.2.2, v1.2.1, v1.2.2.2, ())) fun y3 =>
    some ((v0.1, (y1.1, (y2.1, y3.1))), ())
noncomputable def c40 : Code := bodyOf Tryz.f40
abbrev E40 : Env := envOf [e64c, e65]
theorem E40_ok : EnvOK Tryz.prog E40 := env_ok ⟨e64c_ok, e65_ok, trivial⟩
def lt40 (id : Nat) : Option LSpec := none
theorem loops40 : loopsOf c40 = [] := by kernel_rfl
theorem body40 : ∀ x, bodyK Tryz.prog E40 Tryz.f40 (keepOf Tryz.f40) lt40 c40 [.agg (.prod (.int .i64) (.prod (.list (.int .i64)) (.prod (.list (.int .i64)) (.list (.int .i64))))), .agg (.prod (.int .i64) (.prod (.int .i64) (.prod (.int .i64) (.int .i64))))] [.agg (.prod (.int .i64) (.prod (.list (.int .i64)) (.prod (.list (.int .i64)) (.list (.int .i64)))))] x = f40 x := by
  rintro ⟨v0, v1, ⟨⟩⟩
  kernel_rfl
theorem fn40 : FnOK Tryz.prog 40 [.agg (.prod (.int .i64) (.prod (.list (.int .i64)) (.prod (.list (.int .i64)) (.list (.int .i64))))), .agg (.prod (.int .i64) (.prod (.int .i64) (.prod (.int .i64) (.int .i64))))] [.agg (.prod (.int .i64) (.prod (.list (.int .i64)) (.prod (.list (.int .i64)) (.list (.int .i64)))))] f40 := by
  exact fun_ok progOK E40_ok Tryz.func40 (c := c40) (by kernel_rfl) (keep := keepOf Tryz.f40) (lt := lt40) (loops_ok loops40 trivial) body40
abbrev e40 : Ent := ⟨40, [.agg (.prod (.int .i64) (.prod (.list (.int .i64)) (.prod (.list (.int .i64)) (.list (.int .i64))))), .agg (.prod (.int .i64) (.prod (.int .i64) (.prod (.int .i64) (.int .i64))))], [.agg (.prod (.int .i64) (.prod (.list (.int .i64)) (.prod (.list (.int .i64)) (.list (.int .i64)))))], f40⟩
theorem e40_ok : Ent.OK Tryz.prog e40 := fn40

/-! schisma/isomorphy.bounded -/
abbrev sh39_0 : List (Nat × Kd) := [(1, .box 25 (.prod (.int .i64) (.prod (.list (.int .i64)) (.prod (.list (.int .i64)) (.list (.int .i64)))))), (2, .box 25 (.prod (.int .i64) (.prod (.list (.int .i64)) (.prod (.list (.int .i64)) (.list (.int .i64)))))), (12, .agg (.prod (.list (.int .i64)) (.prod (.list (.int .i64)) (.list (.int .i64))))), (13, .int .i64)]
abbrev ex39_0 : List (Ex × List (Nat × Kd)) := [(.ret, [(2, .box 25 (.prod (.int .i64) (.prod (.list (.int .i64)) (.prod (.list (.int .i64)) (.list (.int .i64)))))), (3, .int .i64)]), (.exit 0, [(1, .box 25 (.prod (.int .i64) (.prod (.list (.int .i64)) (.prod (.list (.int .i64)) (.list (.int .i64)))))), (2, .box 25 (.prod (.int .i64) (.prod (.list (.int .i64)) (.prod (.list (.int .i64)) (.list (.int .i64))))))])]
def step39_0 (x : Shape.den sh39_0) : Option (Shape.den sh39_0 ⊕ exDen ex39_0) := match x with
  | (v1, v2, v12, v13, ()) =>
    bif ltI v13 3 then
      bif eqI v13 0 then
        askO (f37 (v12.1, ())) fun y4 =>
        bif !(eqI y4.1 0) then
          some (.inr (.inl ((0, ([], ([], []))), 4, ())))
        else some (.inl ((v1.1, (v1.2.1, (v1.2.2.1, v1.2.2.2))), (v2.1, (v2.2.1, (v2.2.2.1, v2.2.2.2))), (v12.1, (v12.2.1, v12.2.2)), (wrapF .i64 (v13 + 1)), ()))
      else bif eqI v13 1 then
        askO (f37 (v12.2.1, ())) fun y5 =>
        bif !(eqI y5.1 0) then
          some (.inr (.inl ((0, ([], ([], []))), 4, ())))
        else some (.inl ((v1.1, (v1.2.1, (v1.2.2.1, v1.2.2.2))), (v2.1, (v2.2.1, (v2.2.2.1, v2.2.2.2))), (v12.1, (v12.2.1, v12.2.2)), (wrapF .i64 (v13 + 1)), ()))
      else bif eqI v13 2 then askO (f37 (v12.2.2, ())) fun y6 =>
      bif !(eqI y6.1 0) then
        some (.inr (.inl ((0, ([], ([], []))), 4, ())))
      else some (.inl ((v1.1, (v1.2.1, (v1.2.2.1, v1.2.2.2))), (v2.1, (v2.2.1, (v2.2.2.1, v2.2.2.2))), (v12.1, (v12.2.1, v12.2.2)), (wrapF .i64 (v13 + 1)), ())) else none
    else some (.inr (.inr (((v1.1, (v1.2.1, (v1.2.2.1, v1.2.2.2))), (v2.1, (v2.2.1, (v2.2.2.1, v2.2.2.2))), ()))))
def loop39_0 (x : Shape.den sh39_0) : Option (exDen ex39_0) := loopN step39_0 (2 ^ 64) x
def f39 (x : denK [.agg (.prod (.int .i64) (.prod (.list (.int .i64)) (.prod (.list (.int .i64)) (.list (.int .i64)))))]) : Option (denK [.agg (.prod (.int .i64) (.prod (.list (.int .i64)) (.prod (.list (.int .i64)) (.list (.int .i64))))), .int .i64]) := match x with
  | (v0, ()) =>
    askO (loop39_0 ((v0.1, (v0.2.1, (v0.2.2.1, v0.2.2.2))), (0, ([], ([], []))), (v0.2.1, (v0.2.2.1, v0.2.2.2)), 0, ())) fun z7 =>
    onSum z7 (fun a8 => some ((a8.1.1, (a8.1.2.1, (a8.1.2.2.1, a8.1.2.2.2))), a8.2.1, ())) fun b9 =>
    some ((b9.1.1, (b9.1.2.1, (b9.1.2.2.1, b9.1.2.2.2))), 0, ())
noncomputable def c39 : Code := bodyOf Tryz.f39
abbrev E39 : Env := envOf [e37]
theorem E39_ok : EnvOK Tryz.prog E39 := env_ok ⟨e37_ok, trivial⟩
noncomputable def a39_0 : Code := loopAt c39 0
def lt39 (id : Nat) : Option LSpec := bif Nat.beq id 2 then some ⟨sh39_0, ex39_0, loop39_0⟩ else none
theorem round39_0 : ∀ x, roundK Tryz.prog E39 22 (keepOf Tryz.f39) lt39 a39_0 sh39_0 ex39_0 x = step39_0 x := by
  rintro ⟨v1, v2, v12, v13, ⟨⟩⟩
  kernel_rfl
theorem in39_0 : loopsOf a39_0 = [] := by kernel_rfl
theorem first39_0 : firstRegion a39_0 = 2 := by kernel_rfl
theorem spec39_0 : SpecOK Tryz.prog 22 a39_0 ⟨sh39_0, ex39_0, loop39_0⟩ := by
  exact loop_ok E39_ok.callee progOK.mixed _ (loops_ok in39_0 trivial) round39_0
theorem loops39 : loopsOf c39 = [a39_0] := by kernel_rfl
theorem body39 : ∀ x, bodyK Tryz.prog E39 Tryz.f39 (keepOf Tryz.f39) lt39 c39 [.agg (.prod (.int .i64) (.prod (.list (.int .i64)) (.prod (.list (.int .i64)) (.list (.int .i64)))))] [.agg (.prod (.int .i64) (.prod (.list (.int .i64)) (.prod (.list (.int .i64)) (.list (.int .i64))))), .int .i64] x = f39 x := by
  rintro ⟨v0, ⟨⟩⟩
  kernel_rfl
theorem fn39 : FnOK Tryz.prog 39 [.agg (.prod (.int .i64) (.prod (.list (.int .i64)) (.prod (.list (.int .i64)) (.list (.int .i64)))))] [.agg (.prod (.int .i64) (.prod (.list (.int .i64)) (.prod (.list (.int .i64)) (.list (.int .i64))))), .int .i64] f39 := by
  exact fun_ok progOK E39_ok Tryz.func39 (c := c39) (by kernel_rfl) (keep := keepOf Tryz.f39) (lt := lt39) (loops_ok loops39 ⟨spec_of first39_0 rfl spec39_0, trivial⟩) body39
abbrev e39 : Ent := ⟨39, [.agg (.prod (.int .i64) (.prod (.list (.int .i64)) (.prod (.list (.int .i64)) (.list (.int .i64)))))], [.agg (.prod (.int .i64) (.prod (.list (.int .i64)) (.prod (.list (.int .i64)) (.list (.int .i64))))), .int .i64], f39⟩
theorem e39_ok : Ent.OK Tryz.prog e39 := fn39

/-! schisma/isomorphy.first -/
def f48 (x : denK [.agg (.prod (.int .i64) (.prod (.list (.int .i64)) (.prod (.list (.int .i64)) (.list (.int .i64))))), .agg (.prod (.int .i64) (.prod (.list (.int .i64)) (.prod (.list (.int .i64)) (.list (.int .i64)))))]) : Option (denK [.int .i64]) := match x with
  | (v0, v1, ()) =>
    askO (f35 (v0.2.2.1, v1.2.2.1, ())) fun y1 =>
    bif !(eqI y1.1 0) then
      some (y1.1, ())
    else askO (f35 (v0.2.2.2, v1.2.2.2, ())) fun y2 =>
    some (y2.1, ())
noncomputable def c48 : Code := bodyOf Tryz.f48
abbrev E48 : Env := envOf [e35]
theorem E48_ok : EnvOK Tryz.prog E48 := env_ok ⟨e35_ok, trivial⟩
def lt48 (id : Nat) : Option LSpec := none
theorem loops48 : loopsOf c48 = [] := by kernel_rfl
theorem body48 : ∀ x, bodyK Tryz.prog E48 Tryz.f48 (keepOf Tryz.f48) lt48 c48 [.agg (.prod (.int .i64) (.prod (.list (.int .i64)) (.prod (.list (.int .i64)) (.list (.int .i64))))), .agg (.prod (.int .i64) (.prod (.list (.int .i64)) (.prod (.list (.int .i64)) (.list (.int .i64)))))] [.int .i64] x = f48 x := by
  rintro ⟨v0, v1, ⟨⟩⟩
  kernel_rfl
theorem fn48 : FnOK Tryz.prog 48 [.agg (.prod (.int .i64) (.prod (.list (.int .i64)) (.prod (.list (.int .i64)) (.list (.int .i64))))), .agg (.prod (.int .i64) (.prod (.list (.int .i64)) (.prod (.list (.int .i64)) (.list (.int .i64)))))] [.int .i64] f48 := by
  exact fun_ok progOK E48_ok Tryz.func48 (c := c48) (by kernel_rfl) (keep := keepOf Tryz.f48) (lt := lt48) (loops_ok loops48 trivial) body48
abbrev e48 : Ent := ⟨48, [.agg (.prod (.int .i64) (.prod (.list (.int .i64)) (.prod (.list (.int .i64)) (.list (.int .i64))))), .agg (.prod (.int .i64) (.prod (.list (.int .i64)) (.prod (.list (.int .i64)) (.list (.int .i64)))))], [.int .i64], f48⟩
theorem e48_ok : Ent.OK Tryz.prog e48 := fn48

/-! schisma/isomorphy.Compose -/
def f23 (x : denK [.agg (.prod (.int .i64) (.prod (.int .i64) (.prod (.int .i64) (.int .i64)))), .agg (.prod (.int .i64) (.prod (.int .i64) (.prod (.int .i64) (.int .i64))))]) : Option (denK [.agg (.prod (.int .i64) (.prod (.int .i64) (.prod (.int .i64) (.int .i64))))]) := match x with
  | (v0, v1, ()) =>
    some (((wrapF .i64 ((wrapF .i64 (v0.1 * v1.1)) + (wrapF .i64 (v0.2.1 * v1.2.2.1)))), ((wrapF .i64 ((wrapF .i64 (v0.1 * v1.2.1)) + (wrapF .i64 (v0.2.1 * v1.2.2.2)))), ((wrapF .i64 ((wrapF .i64 (v0.2.2.1 * v1.1)) + (wrapF .i64 (v0.2.2.2 * v1.2.2.1)))), (wrapF .i64 ((wrapF .i64 (v0.2.2.1 * v1.2.1)) + (wrapF .i64 (v0.2.2.2 * v1.2.2.2))))))), ())
noncomputable def c23 : Code := bodyOf Tryz.f23
abbrev E23 : Env := envOf []
theorem E23_ok : EnvOK Tryz.prog E23 := env_ok trivial
def lt23 (id : Nat) : Option LSpec := none
theorem loops23 : loopsOf c23 = [] := by kernel_rfl
theorem body23 : ∀ x, bodyK Tryz.prog E23 Tryz.f23 (keepOf Tryz.f23) lt23 c23 [.agg (.prod (.int .i64) (.prod (.int .i64) (.prod (.int .i64) (.int .i64)))), .agg (.prod (.int .i64) (.prod (.int .i64) (.prod (.int .i64) (.int .i64))))] [.agg (.prod (.int .i64) (.prod (.int .i64) (.prod (.int .i64) (.int .i64))))] x = f23 x := by
  rintro ⟨v0, v1, ⟨⟩⟩
  kernel_rfl
theorem fn23 : FnOK Tryz.prog 23 [.agg (.prod (.int .i64) (.prod (.int .i64) (.prod (.int .i64) (.int .i64)))), .agg (.prod (.int .i64) (.prod (.int .i64) (.prod (.int .i64) (.int .i64))))] [.agg (.prod (.int .i64) (.prod (.int .i64) (.prod (.int .i64) (.int .i64))))] f23 := by
  exact fun_ok progOK E23_ok Tryz.func23 (c := c23) (by kernel_rfl) (keep := keepOf Tryz.f23) (lt := lt23) (loops_ok loops23 trivial) body23
abbrev e23 : Ent := ⟨23, [.agg (.prod (.int .i64) (.prod (.int .i64) (.prod (.int .i64) (.int .i64)))), .agg (.prod (.int .i64) (.prod (.int .i64) (.prod (.int .i64) (.int .i64))))], [.agg (.prod (.int .i64) (.prod (.int .i64) (.prod (.int .i64) (.int .i64))))], f23⟩
theorem e23_ok : Ent.OK Tryz.prog e23 := fn23

/-! schisma/schismalaw46.neighbours -/
def f41 (x : denK [.int .i64]) : Option (denK [.list (.prod (.int .i64) (.int .i64))]) := match x with
  | (v0, ()) =>
    bif eqI v0 2 then
      bif Nat.ble [(1, (-1)), ((-1), 1)].length 1048576 then bif Nat.ble [(1, 0), ((-1), 0), (0, 1), (0, (-1))].length 1048576 then bif Nat.blt 4 ([(1, 0), ((-1), 0), (0, 1), (0, (-1))].length + [(1, (-1)), ((-1), 1)].length) then some (([(1, 0), ((-1), 0), (0, 1), (0, (-1))] ++ [(1, (-1)), ((-1), 1)]), ()) else none else none else none
    else some ([(1, 0), ((-1), 0), (0, 1), (0, (-1))], ())
noncomputable def c41 : Code := bodyOf Tryz.f41
abbrev E41 : Env := envOf []
theorem E41_ok : EnvOK Tryz.prog E41 := env_ok trivial
def lt41 (id : Nat) : Option LSpec := none
theorem loops41 : loopsOf c41 = [] := by kernel_rfl
theorem body41 : ∀ x, bodyK Tryz.prog E41 Tryz.f41 (keepOf Tryz.f41) lt41 c41 [.int .i64] [.list (.prod (.int .i64) (.int .i64))] x = f41 x := by
  rintro ⟨v0, ⟨⟩⟩
  kernel_rfl
theorem fn41 : FnOK Tryz.prog 41 [.int .i64] [.list (.prod (.int .i64) (.int .i64))] f41 := by
  exact fun_ok progOK E41_ok Tryz.func41 (c := c41) (by kernel_rfl) (keep := keepOf Tryz.f41) (lt := lt41) (loops_ok loops41 trivial) body41
abbrev e41 : Ent := ⟨41, [.int .i64], [.list (.prod (.int .i64) (.int .i64))], f41⟩
theorem e41_ok : Ent.OK Tryz.prog e41 := fn41

/-! schisma/schismalaw46.symmetries -/
abbrev sh16_0 : List (Nat × Kd) := [(3, .own 27 (.prod (.int .i64) (.prod (.int .i64) (.prod (.int .i64) (.int .i64))))), (4, .list (.prod (.int .i64) (.int .i64))), (5, .int .i64), (6, .box 27 (.prod (.int .i64) (.prod (.int .i64) (.prod (.int .i64) (.int .i64))))), (7, .own 4 .bool), (8, .int .i64), (9, .int .i64), (10, .int .i64), (11, .int .i64)]
abbrev ex16_0 : List (Ex × List (Nat × Kd)) := [(.exit 4, [(3, .own 27 (.prod (.int .i64) (.prod (.int .i64) (.prod (.int .i64) (.int .i64))))), (4, .list (.prod (.int .i64) (.int .i64))), (5, .int .i64), (6, .box 27 (.prod (.int .i64) (.prod (.int .i64) (.prod (.int .i64) (.int .i64))))), (7, .own 4 .bool), (8, .int .i64)])]
def step16_0 (x : Shape.den sh16_0) : Option (Shape.den sh16_0 ⊕ exDen ex16_0) := match x with
  | (v3, v4, v5, v6, v7, v8, v9, v10, v11, ()) =>
    bif ltI v11 (v4.length : Int) then
      bif idxOk v11 v4.length then bif (eqI ((v4.getD v11.toNat (0, 0)).1) v9 && (eqI ((v4.getD v11.toNat (0, 0)).2) v10 && true)) then
        bif idxOk v11 v7.length then bif Nat.blt v11.toNat v7.length then some (.inl (v3, v4, v5, (v6.1, (v6.2.1, (v6.2.2.1, v6.2.2.2))), (v7.set v11.toNat true), v8, v9, v10, (wrapF .i64 (v11 + 1)), ())) else none else none
      else some (.inl (v3, v4, v5, (v6.1, (v6.2.1, (v6.2.2.1, v6.2.2.2))), v7, v8, v9, v10, (wrapF .i64 (v11 + 1)), ())) else none
    else some (.inr ((v3, v4, v5, (v6.1, (v6.2.1, (v6.2.2.1, v6.2.2.2))), v7, v8, ())))
def loop16_0 (x : Shape.den sh16_0) : Option (exDen ex16_0) := loopN step16_0 (2 ^ 64) x
abbrev sh16_1 : List (Nat × Kd) := [(3, .own 27 (.prod (.int .i64) (.prod (.int .i64) (.prod (.int .i64) (.int .i64))))), (4, .list (.prod (.int .i64) (.int .i64))), (5, .int .i64), (6, .box 27 (.prod (.int .i64) (.prod (.int .i64) (.prod (.int .i64) (.int .i64))))), (7, .own 4 .bool), (8, .int .i64)]
abbrev ex16_1 : List (Ex × List (Nat × Kd)) := [(.exit 2, [(3, .own 27 (.prod (.int .i64) (.prod (.int .i64) (.prod (.int .i64) (.int .i64))))), (4, .list (.prod (.int .i64) (.int .i64))), (5, .int .i64), (6, .box 27 (.prod (.int .i64) (.prod (.int .i64) (.prod (.int .i64) (.int .i64))))), (7, .own 4 .bool)])]
def step16_1 (x : Shape.den sh16_1) : Option (Shape.den sh16_1 ⊕ exDen ex16_1) := match x with
  | (v3, v4, v5, v6, v7, v8, ()) =>
    bif ltI v8 (v4.length : Int) then
      bif idxOk v8 v4.length then bif idxOk v8 v4.length then bif idxOk v8 v4.length then bif idxOk v8 v4.length then askO (loop16_0 (v3, v4, v5, (v6.1, (v6.2.1, (v6.2.2.1, v6.2.2.2))), v7, v8, (wrapF .i64 ((wrapF .i64 (v6.1 * ((v4.getD v8.toNat (0, 0)).1))) + (wrapF .i64 (v6.2.1 * ((v4.getD v8.toNat (0, 0)).2))))), (wrapF .i64 ((wrapF .i64 (v6.2.2.1 * ((v4.getD v8.toNat (0, 0)).1))) + (wrapF .i64 (v6.2.2.2 * ((v4.getD v8.toNat (0, 0)).2))))), 0, ())) fun z3 =>
      some (.inl (z3.1, z3.2.1, z3.2.2.1, (z3.2.2.2.1.1, (z3.2.2.2.1.2.1, (z3.2.2.2.1.2.2.1, z3.2.2.2.1.2.2.2))), z3.2.2.2.2.1, (wrapF .i64 (z3.2.2.2.2.2.1 + 1)), ())) else none else none else none else none
    else some (.inr ((v3, v4, v5, (v6.1, (v6.2.1, (v6.2.2.1, v6.2.2.2))), v7, ())))
def loop16_1 (x : Shape.den sh16_1) : Option (exDen ex16_1) := loopN step16_1 (2 ^ 64) x
abbrev sh16_2 : List (Nat × Kd) := [(3, .own 27 (.prod (.int .i64) (.prod (.int .i64) (.prod (.int .i64) (.int .i64))))), (4, .list (.prod (.int .i64) (.int .i64))), (5, .int .i64), (6, .box 27 (.prod (.int .i64) (.prod (.int .i64) (.prod (.int .i64) (.int .i64))))), (7, .own 4 .bool), (12, .bool), (13, .int .i64)]
abbrev ex16_2 : List (Ex × List (Nat × Kd)) := [(.exit 6, [(3, .own 27 (.prod (.int .i64) (.prod (.int .i64) (.prod (.int .i64) (.int .i64))))), (4, .list (.prod (.int .i64) (.int .i64))), (5, .int .i64), (6, .box 27 (.prod (.int .i64) (.prod (.int .i64) (.prod (.int .i64) (.int .i64))))), (12, .bool)])]
def step16_2 (x : Shape.den sh16_2) : Option (Shape.den sh16_2 ⊕ exDen ex16_2) := match x with
  | (v3, v4, v5, v6, v7, v12, v13, ()) =>
    bif ltI v13 (v4.length : Int) then
      bif v12 then
        bif idxOk v13 v7.length then bif Nat.blt v13.toNat v7.length then some (.inl (v3, v4, v5, (v6.1, (v6.2.1, (v6.2.2.1, v6.2.2.2))), v7, (v7.getD v13.toNat false), (wrapF .i64 (v13 + 1)), ())) else none else none
      else some (.inl (v3, v4, v5, (v6.1, (v6.2.1, (v6.2.2.1, v6.2.2.2))), v7, false, (wrapF .i64 (v13 + 1)), ()))
    else some (.inr ((v3, v4, v5, (v6.1, (v6.2.1, (v6.2.2.1, v6.2.2.2))), v12, ())))
def loop16_2 (x : Shape.den sh16_2) : Option (exDen ex16_2) := loopN step16_2 (2 ^ 64) x
abbrev sh16_3 : List (Nat × Kd) := [(3, .own 27 (.prod (.int .i64) (.prod (.int .i64) (.prod (.int .i64) (.int .i64))))), (4, .list (.prod (.int .i64) (.int .i64))), (5, .int .i64)]
abbrev ex16_3 : List (Ex × List (Nat × Kd)) := [(.exit 0, [(3, .own 27 (.prod (.int .i64) (.prod (.int .i64) (.prod (.int .i64) (.int .i64)))))])]
def step16_3 (x : Shape.den sh16_3) : Option (Shape.den sh16_3 ⊕ exDen ex16_3) := match x with
  | (v3, v4, v5, ()) =>
    bif ltI v5 81 then
      bif !(ltI (v4.length : Int) 0) then bif !(ltI (v4.length : Int) (v4.length : Int)) then bif !(ltI 1048576 (v4.length : Int)) then askO (loop16_1 (v3, v4, v5, ((wrapF .i64 ((wrapF .i64 (v5.tdiv 27)) - 1)), ((wrapF .i64 (((wrapF .i64 (v5.tdiv 9)).tmod 3) - 1)), ((wrapF .i64 (((wrapF .i64 (v5.tdiv 3)).tmod 3) - 1)), (wrapF .i64 ((v5.tmod 3) - 1))))), (List.replicate ((v4.length : Int).toNat) false), 0, ())) fun z6 =>
      askO (loop16_2 (z6.1, z6.2.1, z6.2.2.1, (z6.2.2.2.1.1, (z6.2.2.2.1.2.1, (z6.2.2.2.1.2.2.1, z6.2.2.2.1.2.2.2))), z6.2.2.2.2.1, true, 0, ())) fun z7 =>
      bif z7.2.2.2.2.1 then
        bif Nat.ble [(z7.2.2.2.1.1, (z7.2.2.2.1.2.1, (z7.2.2.2.1.2.2.1, z7.2.2.2.1.2.2.2)))].length 1048576 then bif Nat.ble z7.1.length 1048576 then some (.inl ((z7.1 ++ [(z7.2.2.2.1.1, (z7.2.2.2.1.2.1, (z7.2.2.2.1.2.2.1, z7.2.2.2.1.2.2.2)))]), z7.2.1, (wrapF .i64 (z7.2.2.1 + 1)), ())) else none else none
      else some (.inl (z7.1, z7.2.1, (wrapF .i64 (z7.2.2.1 + 1)), ())) else none else none else none
    else some (.inr ((v3, ())))
def loop16_3 (x : Shape.den sh16_3) : Option (exDen ex16_3) := loopN step16_3 (2 ^ 64) x
def f16 (x : denK [.int .i64]) : Option (denK [.list (.prod (.int .i64) (.prod (.int .i64) (.prod (.int .i64) (.int .i64))))]) := match x with
  | (v0, ()) =>
    askO (f41 (v0, ())) fun y1 =>
    askO (loop16_3 ([], y1.1, 0, ())) fun z8 =>
    some (z8.1, ())
noncomputable def c16 : Code := bodyOf Tryz.f16
abbrev E16 : Env := envOf [e41]
theorem E16_ok : EnvOK Tryz.prog E16 := env_ok ⟨e41_ok, trivial⟩
noncomputable def a16_3 : Code := loopAt c16 0
noncomputable def a16_1 : Code := loopAt a16_3 0
noncomputable def a16_0 : Code := loopAt a16_1 0
noncomputable def a16_2 : Code := loopAt a16_3 1
def lt16 (id : Nat) : Option LSpec := bif Nat.beq id 13 then some ⟨sh16_0, ex16_0, loop16_0⟩ else bif Nat.beq id 9 then some ⟨sh16_1, ex16_1, loop16_1⟩ else bif Nat.beq id 19 then some ⟨sh16_2, ex16_2, loop16_2⟩ else bif Nat.beq id 4 then some ⟨sh16_3, ex16_3, loop16_3⟩ else none
theorem round16_0 : ∀ x, roundK Tryz.prog E16 114 (keepOf Tryz.f16) lt16 a16_0 sh16_0 ex16_0 x = step16_0 x := by
  rintro ⟨v3, v4, v5, v6, v7, v8, v9, v10, v11, ⟨⟩⟩
  kernel_rfl
theorem in16_0 : loopsOf a16_0 = [] := by kernel_rfl
theorem first16_0 : firstRegion a16_0 = 13 := by kernel_rfl
theorem spec16_0 : SpecOK Tryz.prog 114 a16_0 ⟨sh16_0, ex16_0, loop16_0⟩ := by
  exact loop_ok E16_ok.callee progOK.mixed _ (loops_ok in16_0 trivial) round16_0
theorem round16_1 : ∀ x, roundK Tryz.prog E16 114 (keepOf Tryz.f16) lt16 a16_1 sh16_1 ex16_1 x = step16_1 x := by
  rintro ⟨v3, v4, v5, v6, v7, v8, ⟨⟩⟩
  kernel_rfl
theorem in16_1 : loopsOf a16_1 = [a16_0] := by kernel_rfl
theorem first16_1 : firstRegion a16_1 = 9 := by kernel_rfl
theorem spec16_1 : SpecOK Tryz.prog 114 a16_1 ⟨sh16_1, ex16_1, loop16_1⟩ := by
  exact loop_ok E16_ok.callee progOK.mixed _ (loops_ok in16_1 ⟨spec_of first16_0 rfl spec16_0, trivial⟩) round16_1
theorem round16_2 : ∀ x, roundK Tryz.prog E16 114 (keepOf Tryz.f16) lt16 a16_2 sh16_2 ex16_2 x = step16_2 x := by
  rintro ⟨v3, v4, v5, v6, v7, v12, v13, ⟨⟩⟩
  kernel_rfl
theorem in16_2 : loopsOf a16_2 = [] := by kernel_rfl
theorem first16_2 : firstRegion a16_2 = 19 := by kernel_rfl
theorem spec16_2 : SpecOK Tryz.prog 114 a16_2 ⟨sh16_2, ex16_2, loop16_2⟩ := by
  exact loop_ok E16_ok.callee progOK.mixed _ (loops_ok in16_2 trivial) round16_2
theorem round16_3 : ∀ x, roundK Tryz.prog E16 114 (keepOf Tryz.f16) lt16 a16_3 sh16_3 ex16_3 x = step16_3 x := by
  rintro ⟨v3, v4, v5, ⟨⟩⟩
  kernel_rfl
theorem in16_3 : loopsOf a16_3 = [a16_1, a16_2] := by kernel_rfl
theorem first16_3 : firstRegion a16_3 = 4 := by kernel_rfl
theorem spec16_3 : SpecOK Tryz.prog 114 a16_3 ⟨sh16_3, ex16_3, loop16_3⟩ := by
  exact loop_ok E16_ok.callee progOK.mixed _ (loops_ok in16_3 ⟨spec_of first16_1 rfl spec16_1, spec_of first16_2 rfl spec16_2, trivial⟩) round16_3
theorem loops16 : loopsOf c16 = [a16_3] := by kernel_rfl
theorem body16 : ∀ x, bodyK Tryz.prog E16 Tryz.f16 (keepOf Tryz.f16) lt16 c16 [.int .i64] [.list (.prod (.int .i64) (.prod (.int .i64) (.prod (.int .i64) (.int .i64))))] x = f16 x := by
  rintro ⟨v0, ⟨⟩⟩
  kernel_rfl
theorem fn16 : FnOK Tryz.prog 16 [.int .i64] [.list (.prod (.int .i64) (.prod (.int .i64) (.prod (.int .i64) (.int .i64))))] f16 := by
  exact fun_ok progOK E16_ok Tryz.func16 (c := c16) (by kernel_rfl) (keep := keepOf Tryz.f16) (lt := lt16) (loops_ok loops16 ⟨spec_of first16_3 rfl spec16_3, trivial⟩) body16
abbrev e16 : Ent := ⟨16, [.int .i64], [.list (.prod (.int .i64) (.prod (.int .i64) (.prod (.int .i64) (.int .i64))))], f16⟩
theorem e16_ok : Ent.OK Tryz.prog e16 := fn16

/-! schisma/schismaref06.Fits -/
def f21 (x : denK [.int .i64]) : Option (denK [.bool]) := match x with
  | (v0, ()) =>
    bif !(ltI 1000000000 v0) then
      some (!(ltI v0 (-1000000000)), ())
    else some (false, ())
noncomputable def c21 : Code := bodyOf Tryz.f21
abbrev E21 : Env := envOf []
theorem E21_ok : EnvOK Tryz.prog E21 := env_ok trivial
def lt21 (id : Nat) : Option LSpec := none
theorem loops21 : loopsOf c21 = [] := by kernel_rfl
theorem body21 : ∀ x, bodyK Tryz.prog E21 Tryz.f21 (keepOf Tryz.f21) lt21 c21 [.int .i64] [.bool] x = f21 x := by
  rintro ⟨v0, ⟨⟩⟩
  kernel_rfl
theorem fn21 : FnOK Tryz.prog 21 [.int .i64] [.bool] f21 := by
  exact fun_ok progOK E21_ok Tryz.func21 (c := c21) (by kernel_rfl) (keep := keepOf Tryz.f21) (lt := lt21) (loops_ok loops21 trivial) body21
abbrev e21 : Ent := ⟨21, [.int .i64], [.bool], f21⟩
theorem e21_ok : Ent.OK Tryz.prog e21 := fn21

/-! schisma/schismalaw46.mix -/
abbrev sh42_0 : List (Nat × Kd) := [(0, .int .i64), (1, .list (.int .i64)), (2, .int .i64), (3, .list (.int .i64)), (10, .own 3 (.int .i64)), (11, .bool), (12, .int .i64)]
abbrev ex42_0 : List (Ex × List (Nat × Kd)) := [(.exit 0, [(10, .own 3 (.int .i64)), (11, .bool)])]
def step42_0 (x : Shape.den sh42_0) : Option (Shape.den sh42_0 ⊕ exDen ex42_0) := match x with
  | (v0, v1, v2, v3, v10, v11, v12, ()) =>
    bif ltI v12 (v1.length : Int) then
      bif idxOk v12 v1.length then bif idxOk v12 v3.length then bif v11 then
        askO (f21 ((wrapF .i64 ((wrapF .i64 (v0 * (v1.getD v12.toNat 0))) + (wrapF .i64 (v2 * (v3.getD v12.toNat 0))))), ())) fun y2 =>
        bif Nat.ble [(wrapF .i64 ((wrapF .i64 (v0 * (v1.getD v12.toNat 0))) + (wrapF .i64 (v2 * (v3.getD v12.toNat 0)))))].length 1048576 then bif Nat.ble v10.length 1048576 then some (.inl (v0, v1, v2, v3, (v10 ++ [(wrapF .i64 ((wrapF .i64 (v0 * (v1.getD v12.toNat 0))) + (wrapF .i64 (v2 * (v3.getD v12.toNat 0)))))]), y2.1, (wrapF .i64 (v12 + 1)), ())) else none else none
      else bif Nat.ble [(wrapF .i64 ((wrapF .i64 (v0 * (v1.getD v12.toNat 0))) + (wrapF .i64 (v2 * (v3.getD v12.toNat 0)))))].length 1048576 then bif Nat.ble v10.length 1048576 then some (.inl (v0, v1, v2, v3, (v10 ++ [(wrapF .i64 ((wrapF .i64 (v0 * (v1.getD v12.toNat 0))) + (wrapF .i64 (v2 * (v3.getD v12.toNat 0)))))]), false, (wrapF .i64 (v12 + 1)), ())) else none else none else none else none
    else some (.inr ((v10, v11, ())))
def loop42_0 (x : Shape.den sh42_0) : Option (exDen ex42_0) := loopN step42_0 (2 ^ 64) x
def f42 (x : denK [.int .i64, .list (.int .i64), .int .i64, .list (.int .i64)]) : Option (denK [.list (.int .i64), .bool]) := match x with
  | (v0, v1, v2, v3, ()) =>
    askO (loop42_0 (v0, v1, v2, v3, [], true, 0, ())) fun z3 =>
    some (z3.1, z3.2.1, ())
noncomputable def c42 : Code := bodyOf Tryz.f42
abbrev E42 : Env := envOf [e21]
theorem E42_ok : EnvOK Tryz.prog E42 := env_ok ⟨e21_ok, trivial⟩
noncomputable def a42_0 : Code := loopAt c42 0
def lt42 (id : Nat) : Option LSpec := bif Nat.beq id 4 then some ⟨sh42_0, ex42_0, loop42_0⟩ else none
theorem round42_0 : ∀ x, roundK Tryz.prog E42 45 (keepOf Tryz.f42) lt42 a42_0 sh42_0 ex42_0 x = step42_0 x := by
  rintro ⟨v0, v1, v2, v3, v10, v11, v12, ⟨⟩⟩
  kernel_rfl
theorem in42_0 : loopsOf a42_0 = [] := by kernel_rfl
theorem first42_0 : firstRegion a42_0 = 4 := by kernel_rfl
theorem spec42_0 : SpecOK Tryz.prog 45 a42_0 ⟨sh42_0, ex42_0, loop42_0⟩ := by
  exact loop_ok E42_ok.callee progOK.mixed _ (loops_ok in42_0 trivial) round42_0
theorem loops42 : loopsOf c42 = [a42_0] := by kernel_rfl
theorem body42 : ∀ x, bodyK Tryz.prog E42 Tryz.f42 (keepOf Tryz.f42) lt42 c42 [.int .i64, .list (.int .i64), .int .i64, .list (.int .i64)] [.list (.int .i64), .bool] x = f42 x := by
  rintro ⟨v0, v1, v2, v3, ⟨⟩⟩
  kernel_rfl
theorem fn42 : FnOK Tryz.prog 42 [.int .i64, .list (.int .i64), .int .i64, .list (.int .i64)] [.list (.int .i64), .bool] f42 := by
  exact fun_ok progOK E42_ok Tryz.func42 (c := c42) (by kernel_rfl) (keep := keepOf Tryz.f42) (lt := lt42) (loops_ok loops42 ⟨spec_of first42_0 rfl spec42_0, trivial⟩) body42
abbrev e42 : Ent := ⟨42, [.int .i64, .list (.int .i64), .int .i64, .list (.int .i64)], [.list (.int .i64), .bool], f42⟩
theorem e42_ok : Ent.OK Tryz.prog e42 := fn42

/-! schisma/schismalaw46.turn -/
def f18 (x : denK [.agg (.prod (.int .i64) (.prod (.list (.int .i64)) (.prod (.list (.int .i64)) (.list (.int .i64))))), .agg (.prod (.int .i64) (.prod (.int .i64) (.prod (.int .i64) (.int .i64))))]) : Option (denK [.agg (.prod (.int .i64) (.prod (.list (.int .i64)) (.prod (.list (.int .i64)) (.list (.int .i64))))), .bool]) := match x with
  | (v0, v1, ()) =>
    askO (f42 (v1.1, v0.2.2.1, v1.2.2.1, v0.2.2.2, ())) fun y1 =>
    askO (f42 (v1.2.1, v0.2.2.1, v1.2.2.2, v0.2.2.2, ())) fun y2 =>
    bif y1.2.1 then
      some ((v0.1, (v0.2.1, (y1.1, y2.1))), y2.2.1, ())
    else some ((v0.1, (v0.2.1, (y1.1, y2.1))), false, ())
noncomputable def c18 : Code := bodyOf Tryz.f18
abbrev E18 : Env := envOf [e42]
theorem E18_ok : EnvOK Tryz.prog E18 := env_ok ⟨e42_ok, trivial⟩
def lt18 (id : Nat) : Option LSpec := none
theorem loops18 : loopsOf c18 = [] := by kernel_rfl
theorem body18 : ∀ x, bodyK Tryz.prog E18 Tryz.f18 (keepOf Tryz.f18) lt18 c18 [.agg (.prod (.int .i64) (.prod (.list (.int .i64)) (.prod (.list (.int .i64)) (.list (.int .i64))))), .agg (.prod (.int .i64) (.prod (.int .i64) (.prod (.int .i64) (.int .i64))))] [.agg (.prod (.int .i64) (.prod (.list (.int .i64)) (.prod (.list (.int .i64)) (.list (.int .i64))))), .bool] x = f18 x := by
  rintro ⟨v0, v1, ⟨⟩⟩
  kernel_rfl
theorem fn18 : FnOK Tryz.prog 18 [.agg (.prod (.int .i64) (.prod (.list (.int .i64)) (.prod (.list (.int .i64)) (.list (.int .i64))))), .agg (.prod (.int .i64) (.prod (.int .i64) (.prod (.int .i64) (.int .i64))))] [.agg (.prod (.int .i64) (.prod (.list (.int .i64)) (.prod (.list (.int .i64)) (.list (.int .i64))))), .bool] f18 := by
  exact fun_ok progOK E18_ok Tryz.func18 (c := c18) (by kernel_rfl) (keep := keepOf Tryz.f18) (lt := lt18) (loops_ok loops18 trivial) body18
abbrev e18 : Ent := ⟨18, [.agg (.prod (.int .i64) (.prod (.list (.int .i64)) (.prod (.list (.int .i64)) (.list (.int .i64))))), .agg (.prod (.int .i64) (.prod (.int .i64) (.prod (.int .i64) (.int .i64))))], [.agg (.prod (.int .i64) (.prod (.list (.int .i64)) (.prod (.list (.int .i64)) (.list (.int .i64))))), .bool], f18⟩
theorem e18_ok : Ent.OK Tryz.prog e18 := fn18

/-! schisma/schismalaw46.same -/
def f19 (x : denK [.agg (.prod (.int .i64) (.prod (.list (.int .i64)) (.prod (.list (.int .i64)) (.list (.int .i64))))), .agg (.prod (.int .i64) (.prod (.list (.int .i64)) (.prod (.list (.int .i64)) (.list (.int .i64)))))]) : Option (denK [.bool]) := match x with
  | (v0, v1, ()) =>
    bif eqI v0.1 v1.1 then
      askO (f43 (v0.2.1, v1.2.1, ())) fun y1 =>
      bif y1.1 then
        askO (f43 (v0.2.2.1, v1.2.2.1, ())) fun y2 =>
        bif y2.1 then
          askO (f43 (v0.2.2.2, v1.2.2.2, ())) fun y3 =>
          some (y3.1, ())
        else some (false, ())
      else some (false, ())
    else some (false, ())
noncomputable def c19 : Code := bodyOf Tryz.f19
abbrev E19 : Env := envOf [e43]
theorem E19_ok : EnvOK Tryz.prog E19 := env_ok ⟨e43_ok, trivial⟩
def lt19 (id : Nat) : Option LSpec := none
theorem loops19 : loopsOf c19 = [] := by kernel_rfl
theorem body19 : ∀ x, bodyK Tryz.prog E19 Tryz.f19 (keepOf Tryz.f19) lt19 c19 [.agg (.prod (.int .i64) (.prod (.list (.int .i64)) (.prod (.list (.int .i64)) (.list (.int .i64))))), .agg (.prod (.int .i64) (.prod (.list (.int .i64)) (.prod (.list (.int .i64)) (.list (.int .i64)))))] [.bool] x = f19 x := by
  rintro ⟨v0, v1, ⟨⟩⟩
  kernel_rfl
theorem fn19 : FnOK Tryz.prog 19 [.agg (.prod (.int .i64) (.prod (.list (.int .i64)) (.prod (.list (.int .i64)) (.list (.int .i64))))), .agg (.prod (.int .i64) (.prod (.list (.int .i64)) (.prod (.list (.int .i64)) (.list (.int .i64)))))] [.bool] f19 := by
  exact fun_ok progOK E19_ok Tryz.func19 (c := c19) (by kernel_rfl) (keep := keepOf Tryz.f19) (lt := lt19) (loops_ok loops19 trivial) body19
abbrev e19 : Ent := ⟨19, [.agg (.prod (.int .i64) (.prod (.list (.int .i64)) (.prod (.list (.int .i64)) (.list (.int .i64))))), .agg (.prod (.int .i64) (.prod (.list (.int .i64)) (.prod (.list (.int .i64)) (.list (.int .i64)))))], [.bool], f19⟩
theorem e19_ok : Ent.OK Tryz.prog e19 := fn19

/-! schisma/schismalaw46.none -/
def f17 (x : denK [.agg (.prod (.int .i64) (.prod (.list (.int .i64)) (.prod (.list (.int .i64)) (.list (.int .i64)))))]) : Option (denK [.bool]) := match x with
  | (v0, ()) =>
    askO (f19 ((v0.1, (v0.2.1, (v0.2.2.1, v0.2.2.2))), (0, ([], ([], []))), ())) fun y1 =>
    some (y1.1, ())
noncomputable def c17 : Code := bodyOf Tryz.f17
abbrev E17 : Env := envOf [e19]
theorem E17_ok : EnvOK Tryz.prog E17 := env_ok ⟨e19_ok, trivial⟩
def lt17 (id : Nat) : Option LSpec := none
theorem loops17 : loopsOf c17 = [] := by kernel_rfl
theorem body17 : ∀ x, bodyK Tryz.prog E17 Tryz.f17 (keepOf Tryz.f17) lt17 c17 [.agg (.prod (.int .i64) (.prod (.list (.int .i64)) (.prod (.list (.int .i64)) (.list (.int .i64)))))] [.bool] x = f17 x := by
  rintro ⟨v0, ⟨⟩⟩
  kernel_rfl
theorem fn17 : FnOK Tryz.prog 17 [.agg (.prod (.int .i64) (.prod (.list (.int .i64)) (.prod (.list (.int .i64)) (.list (.int .i64)))))] [.bool] f17 := by
  exact fun_ok progOK E17_ok Tryz.func17 (c := c17) (by kernel_rfl) (keep := keepOf Tryz.f17) (lt := lt17) (loops_ok loops17 trivial) body17
abbrev e17 : Ent := ⟨17, [.agg (.prod (.int .i64) (.prod (.list (.int .i64)) (.prod (.list (.int .i64)) (.list (.int .i64)))))], [.bool], f17⟩
theorem e17_ok : Ent.OK Tryz.prog e17 := fn17

/-! schisma/schismalaw46.check -/
abbrev sh14_0 : List (Nat × Kd) := [(1, .box 25 (.prod (.int .i64) (.prod (.list (.int .i64)) (.prod (.list (.int .i64)) (.list (.int .i64)))))), (20, .list (.list (.int .i64))), (21, .int .i64), (22, .int .i64)]
abbrev ex14_0 : List (Ex × List (Nat × Kd)) := [(.ret, [(2, .int .i64)]), (.exit 0, [])]
def step14_0 (x : Shape.den sh14_0) : Option (Shape.den sh14_0 ⊕ exDen ex14_0) := match x with
  | (v1, v20, v21, v22, ()) =>
    bif ltI v22 v21 then
      bif idxOk v22 v20.length then askO (f37 ((v20.getD v22.toNat []), ())) fun y2 =>
      bif !(eqI y2.1 0) then
        some (.inr (.inl (y2.1, ())))
      else bif !(eqI ((v20.getD v22.toNat []).length : Int) (v1.2.1.length : Int)) then
        some (.inr (.inl (5, ())))
      else some (.inl ((v1.1, (v1.2.1, (v1.2.2.1, v1.2.2.2))), v20, v21, (wrapF .i64 (v22 + 1)), ())) else none
    else some (.inr (.inr ((()))))
def loop14_0 (x : Shape.den sh14_0) : Option (exDen ex14_0) := loopN step14_0 (2 ^ 64) x
def f14 (x : denK [.agg (.prod (.int .i64) (.prod (.list (.int .i64)) (.prod (.list (.int .i64)) (.list (.int .i64)))))]) : Option (denK [.int .i64]) := match x with
  | (v0, ()) =>
    bif !(eqI v0.1 1) then
      bif !(eqI v0.1 2) then
        some (12, ())
      else askO (loop14_0 ((v0.1, (v0.2.1, (v0.2.2.1, v0.2.2.2))), [v0.2.1, v0.2.2.1, v0.2.2.2], ([v0.2.1, v0.2.2.1, v0.2.2.2].length : Int), 0, ())) fun z3 =>
      onSum z3 (fun a4 => some (a4.1, ())) fun b5 =>
      some (0, ())
    else askO (loop14_0 ((v0.1, (v0.2.1, (v0.2.2.1, v0.2.2.2))), [v0.2.1, v0.2.2.1, v0.2.2.2], ([v0.2.1, v0.2.2.1, v0.2.2.2].length : Int), 0, ())) fun z6 =>
    onSum z6 (fun a7 => some (a7.1, ())) fun b8 =>
    some (0, ())
noncomputable def c14 : Code := bodyOf Tryz.f14
abbrev E14 : Env := envOf [e37]
theorem E14_ok : EnvOK Tryz.prog E14 := env_ok ⟨e37_ok, trivial⟩
noncomputable def a14_0 : Code := loopAt c14 0
def lt14 (id : Nat) : Option LSpec := bif Nat.beq id 4 then some ⟨sh14_0, ex14_0, loop14_0⟩ else none
theorem round14_0 : ∀ x, roundK Tryz.prog E14 38 (keepOf Tryz.f14) lt14 a14_0 sh14_0 ex14_0 x = step14_0 x := by
  rintro ⟨v1, v20, v21, v22, ⟨⟩⟩
  kernel_rfl
theorem in14_0 : loopsOf a14_0 = [] := by kernel_rfl
theorem first14_0 : firstRegion a14_0 = 4 := by kernel_rfl
theorem spec14_0 : SpecOK Tryz.prog 38 a14_0 ⟨sh14_0, ex14_0, loop14_0⟩ := by
  exact loop_ok E14_ok.callee progOK.mixed _ (loops_ok in14_0 trivial) round14_0
theorem loops14 : loopsOf c14 = [a14_0] := by kernel_rfl
theorem body14 : ∀ x, bodyK Tryz.prog E14 Tryz.f14 (keepOf Tryz.f14) lt14 c14 [.agg (.prod (.int .i64) (.prod (.list (.int .i64)) (.prod (.list (.int .i64)) (.list (.int .i64)))))] [.int .i64] x = f14 x := by
  rintro ⟨v0, ⟨⟩⟩
  kernel_rfl
theorem fn14 : FnOK Tryz.prog 14 [.agg (.prod (.int .i64) (.prod (.list (.int .i64)) (.prod (.list (.int .i64)) (.list (.int .i64)))))] [.int .i64] f14 := by
  exact fun_ok progOK E14_ok Tryz.func14 (c := c14) (by kernel_rfl) (keep := keepOf Tryz.f14) (lt := lt14) (loops_ok loops14 ⟨spec_of first14_0 rfl spec14_0, trivial⟩) body14
abbrev e14 : Ent := ⟨14, [.agg (.prod (.int .i64) (.prod (.list (.int .i64)) (.prod (.list (.int .i64)) (.list (.int .i64)))))], [.int .i64], f14⟩
theorem e14_ok : Ent.OK Tryz.prog e14 := fn14

/-! schisma/schismalaw46.few -/
abbrev sh13_0 : List (Nat × Kd) := [(11, .list (.list (.int .i64))), (12, .int .i64), (13, .int .i64)]
abbrev ex13_0 : List (Ex × List (Nat × Kd)) := [(.ret, [(2, .bool)]), (.exit 0, [])]
def step13_0 (x : Shape.den sh13_0) : Option (Shape.den sh13_0 ⊕ exDen ex13_0) := match x with
  | (v11, v12, v13, ()) =>
    bif ltI v13 v12 then
      bif idxOk v13 v11.length then bif ltI 5 ((v11.getD v13.toNat []).length : Int) then
        bif ltI ((v11.getD v13.toNat []).length : Int) 63 then
          some (.inr (.inl (false, ())))
        else bif ltI 66 ((v11.getD v13.toNat []).length : Int) then
          some (.inr (.inl (false, ())))
        else some (.inl (v11, v12, (wrapF .i64 (v13 + 1)), ()))
      else some (.inl (v11, v12, (wrapF .i64 (v13 + 1)), ())) else none
    else some (.inr (.inr ((()))))
def loop13_0 (x : Shape.den sh13_0) : Option (exDen ex13_0) := loopN step13_0 (2 ^ 64) x
def f13 (x : denK [.agg (.prod (.int .i64) (.prod (.list (.int .i64)) (.prod (.list (.int .i64)) (.list (.int .i64)))))]) : Option (denK [.bool]) := match x with
  | (v0, ()) =>
    askO (loop13_0 ([v0.2.1, v0.2.2.1, v0.2.2.2], ([v0.2.1, v0.2.2.1, v0.2.2.2].length : Int), 0, ())) fun z1 =>
    onSum z1 (fun a2 => some (a2.1, ())) fun b3 =>
    some (true, ())
noncomputable def c13 : Code := bodyOf Tryz.f13
abbrev E13 : Env := envOf []
theorem E13_ok : EnvOK Tryz.prog E13 := env_ok trivial
noncomputable def a13_0 : Code := loopAt c13 0
def lt13 (id : Nat) : Option LSpec := bif Nat.beq id 2 then some ⟨sh13_0, ex13_0, loop13_0⟩ else none
theorem round13_0 : ∀ x, roundK Tryz.prog E13 31 (keepOf Tryz.f13) lt13 a13_0 sh13_0 ex13_0 x = step13_0 x := by
  rintro ⟨v11, v12, v13, ⟨⟩⟩
  kernel_rfl
theorem in13_0 : loopsOf a13_0 = [] := by kernel_rfl
theorem first13_0 : firstRegion a13_0 = 2 := by kernel_rfl
theorem spec13_0 : SpecOK Tryz.prog 31 a13_0 ⟨sh13_0, ex13_0, loop13_0⟩ := by
  exact loop_ok E13_ok.callee progOK.mixed _ (loops_ok in13_0 trivial) round13_0
theorem loops13 : loopsOf c13 = [a13_0] := by kernel_rfl
theorem body13 : ∀ x, bodyK Tryz.prog E13 Tryz.f13 (keepOf Tryz.f13) lt13 c13 [.agg (.prod (.int .i64) (.prod (.list (.int .i64)) (.prod (.list (.int .i64)) (.list (.int .i64)))))] [.bool] x = f13 x := by
  rintro ⟨v0, ⟨⟩⟩
  kernel_rfl
theorem fn13 : FnOK Tryz.prog 13 [.agg (.prod (.int .i64) (.prod (.list (.int .i64)) (.prod (.list (.int .i64)) (.list (.int .i64)))))] [.bool] f13 := by
  exact fun_ok progOK E13_ok Tryz.func13 (c := c13) (by kernel_rfl) (keep := keepOf Tryz.f13) (lt := lt13) (loops_ok loops13 ⟨spec_of first13_0 rfl spec13_0, trivial⟩) body13
abbrev e13 : Ent := ⟨13, [.agg (.prod (.int .i64) (.prod (.list (.int .i64)) (.prod (.list (.int .i64)) (.list (.int .i64)))))], [.bool], f13⟩
theorem e13_ok : Ent.OK Tryz.prog e13 := fn13

/-! schisma/schismalaw46.quick -/
abbrev sh58_0 : List (Nat × Kd) := [(1, .box 25 (.prod (.int .i64) (.prod (.list (.int .i64)) (.prod (.list (.int .i64)) (.list (.int .i64)))))), (3, .int .i64)]
abbrev ex58_0 : List (Ex × List (Nat × Kd)) := [(.ret, [(2, .bool)]), (.exit 0, [])]
def step58_0 (x : Shape.den sh58_0) : Option (Shape.den sh58_0 ⊕ exDen ex58_0) := match x with
  | (v1, v3, ()) =>
    bif ltI v3 (v1.2.2.1.length : Int) then
      bif idxOk v3 v1.2.2.1.length then bif !(eqI (v1.2.2.1.getD v3.toNat 0) 0) then
        bif idxOk v3 v1.2.2.1.length then some (.inr (.inl (ltI 0 (v1.2.2.1.getD v3.toNat 0), ()))) else none
      else some (.inl ((v1.1, (v1.2.1, (v1.2.2.1, v1.2.2.2))), (wrapF .i64 (v3 + 1)), ())) else none
    else some (.inr (.inr ((()))))
def loop58_0 (x : Shape.den sh58_0) : Option (exDen ex58_0) := loopN step58_0 (2 ^ 64) x
def f58 (x : denK [.agg (.prod (.int .i64) (.prod (.list (.int .i64)) (.prod (.list (.int .i64)) (.list (.int .i64)))))]) : Option (denK [.bool]) := match x with
  | (v0, ()) =>
    askO (loop58_0 ((v0.1, (v0.2.1, (v0.2.2.1, v0.2.2.2))), 0, ())) fun z1 =>
    onSum z1 (fun a2 => some (a2.1, ())) fun b3 =>
    some (false, ())
noncomputable def c58 : Code := bodyOf Tryz.f58
abbrev E58 : Env := envOf []
theorem E58_ok : EnvOK Tryz.prog E58 := env_ok trivial
noncomputable def a58_0 : Code := loopAt c58 0
def lt58 (id : Nat) : Option LSpec := bif Nat.beq id 2 then some ⟨sh58_0, ex58_0, loop58_0⟩ else none
theorem round58_0 : ∀ x, roundK Tryz.prog E58 23 (keepOf Tryz.f58) lt58 a58_0 sh58_0 ex58_0 x = step58_0 x := by
  rintro ⟨v1, v3, ⟨⟩⟩
  kernel_rfl
theorem in58_0 : loopsOf a58_0 = [] := by kernel_rfl
theorem first58_0 : firstRegion a58_0 = 2 := by kernel_rfl
theorem spec58_0 : SpecOK Tryz.prog 23 a58_0 ⟨sh58_0, ex58_0, loop58_0⟩ := by
  exact loop_ok E58_ok.callee progOK.mixed _ (loops_ok in58_0 trivial) round58_0
theorem loops58 : loopsOf c58 = [a58_0] := by kernel_rfl
theorem body58 : ∀ x, bodyK Tryz.prog E58 Tryz.f58 (keepOf Tryz.f58) lt58 c58 [.agg (.prod (.int .i64) (.prod (.list (.int .i64)) (.prod (.list (.int .i64)) (.list (.int .i64)))))] [.bool] x = f58 x := by
  rintro ⟨v0, ⟨⟩⟩
  kernel_rfl
theorem fn58 : FnOK Tryz.prog 58 [.agg (.prod (.int .i64) (.prod (.list (.int .i64)) (.prod (.list (.int .i64)) (.list (.int .i64)))))] [.bool] f58 := by
  exact fun_ok progOK E58_ok Tryz.func58 (c := c58) (by kernel_rfl) (keep := keepOf Tryz.f58) (lt := lt58) (loops_ok loops58 ⟨spec_of first58_0 rfl spec58_0, trivial⟩) body58
abbrev e58 : Ent := ⟨58, [.agg (.prod (.int .i64) (.prod (.list (.int .i64)) (.prod (.list (.int .i64)) (.list (.int .i64)))))], [.bool], f58⟩
theorem e58_ok : Ent.OK Tryz.prog e58 := fn58

/-! schisma/schismalaw46.right -/
abbrev sh31_0 : List (Nat × Kd) := [(3, .box 25 (.prod (.int .i64) (.prod (.list (.int .i64)) (.prod (.list (.int .i64)) (.list (.int .i64)))))), (4, .box 25 (.prod (.int .i64) (.prod (.list (.int .i64)) (.prod (.list (.int .i64)) (.list (.int .i64)))))), (5, .box 49 (.prod (.prod (.int .i64) (.prod (.int .i64) (.prod (.int .i64) (.int .i64)))) (.prod (.int .i64) (.int .i64)))), (7, .list (.prod (.int .i64) (.prod (.int .i64) (.prod (.int .i64) (.int .i64))))), (8, .bool), (9, .int .i64)]
abbrev ex31_0 : List (Ex × List (Nat × Kd)) := [(.exit 0, [(3, .box 25 (.prod (.int .i64) (.prod (.list (.int .i64)) (.prod (.list (.int .i64)) (.list (.int .i64)))))), (4, .box 25 (.prod (.int .i64) (.prod (.list (.int .i64)) (.prod (.list (.int .i64)) (.list (.int .i64)))))), (5, .box 49 (.prod (.prod (.int .i64) (.prod (.int .i64) (.prod (.int .i64) (.int .i64)))) (.prod (.int .i64) (.int .i64)))), (8, .bool)])]
def step31_0 (x : Shape.den sh31_0) : Option (Shape.den sh31_0 ⊕ exDen ex31_0) := match x with
  | (v3, v4, v5, v7, v8, v9, ()) =>
    bif ltI v9 (v7.length : Int) then
      bif v8 then
        some (.inl ((v3.1, (v3.2.1, (v3.2.2.1, v3.2.2.2))), (v4.1, (v4.2.1, (v4.2.2.1, v4.2.2.2))), ((v5.1.1, (v5.1.2.1, (v5.1.2.2.1, v5.1.2.2.2))), (v5.2.1, v5.2.2)), v7, true, (wrapF .i64 (v9 + 1)), ()))
      else bif idxOk v9 v7.length then some (.inl ((v3.1, (v3.2.1, (v3.2.2.1, v3.2.2.2))), (v4.1, (v4.2.1, (v4.2.2.1, v4.2.2.2))), ((v5.1.1, (v5.1.2.1, (v5.1.2.2.1, v5.1.2.2.2))), (v5.2.1, v5.2.2)), v7, (eqI ((v7.getD v9.toNat (0, (0, (0, 0)))).1) v5.1.1 && (eqI ((v7.getD v9.toNat (0, (0, (0, 0)))).2.1) v5.1.2.1 && (eqI ((v7.getD v9.toNat (0, (0, (0, 0)))).2.2.1) v5.1.2.2.1 && (eqI ((v7.getD v9.toNat (0, (0, (0, 0)))).2.2.2) v5.1.2.2.2 && true)))), (wrapF .i64 (v9 + 1)), ())) else none
    else some (.inr (((v3.1, (v3.2.1, (v3.2.2.1, v3.2.2.2))), (v4.1, (v4.2.1, (v4.2.2.1, v4.2.2.2))), ((v5.1.1, (v5.1.2.1, (v5.1.2.2.1, v5.1.2.2.2))), (v5.2.1, v5.2.2)), v8, ())))
def loop31_0 (x : Shape.den sh31_0) : Option (exDen ex31_0) := loopN step31_0 (2 ^ 64) x
abbrev sh31_1 : List (Nat × Kd) := [(3, .box 25 (.prod (.int .i64) (.prod (.list (.int .i64)) (.prod (.list (.int .i64)) (.list (.int .i64)))))), (4, .box 25 (.prod (.int .i64) (.prod (.list (.int .i64)) (.prod (.list (.int .i64)) (.list (.int .i64)))))), (5, .box 49 (.prod (.prod (.int .i64) (.prod (.int .i64) (.prod (.int .i64) (.int .i64)))) (.prod (.int .i64) (.int .i64)))), (8, .bool), (10, .box 25 (.prod (.int .i64) (.prod (.list (.int .i64)) (.prod (.list (.int .i64)) (.list (.int .i64)))))), (12, .int .i64)]
abbrev ex31_1 : List (Ex × List (Nat × Kd)) := [(.ret, [(6, .bool)]), (.exit 2, [(4, .box 25 (.prod (.int .i64) (.prod (.list (.int .i64)) (.prod (.list (.int .i64)) (.list (.int .i64)))))), (8, .bool), (10, .box 25 (.prod (.int .i64) (.prod (.list (.int .i64)) (.prod (.list (.int .i64)) (.list (.int .i64))))))])]
def step31_1 (x : Shape.den sh31_1) : Option (Shape.den sh31_1 ⊕ exDen ex31_1) := match x with
  | (v3, v4, v5, v8, v10, v12, ()) =>
    bif ltI v12 (v3.2.1.length : Int) then
      bif idxOk v12 v4.2.1.length then bif idxOk v12 v3.2.1.length then bif idxOk v12 v3.2.2.1.length then bif idxOk v12 v3.2.2.2.length then bif !(eqI (v4.2.1.getD v12.toNat 0) (wrapF .i64 ((wrapF .i64 ((v3.2.1.getD v12.toNat 0) + (wrapF .i64 (v5.2.1 * (v3.2.2.1.getD v12.toNat 0))))) + (wrapF .i64 (v5.2.2 * (v3.2.2.2.getD v12.toNat 0)))))) then
        some (.inr (.inl (false, ())))
      else some (.inl ((v3.1, (v3.2.1, (v3.2.2.1, v3.2.2.2))), (v4.1, (v4.2.1, (v4.2.2.1, v4.2.2.2))), ((v5.1.1, (v5.1.2.1, (v5.1.2.2.1, v5.1.2.2.2))), (v5.2.1, v5.2.2)), v8, (v10.1, (v10.2.1, (v10.2.2.1, v10.2.2.2))), (wrapF .i64 (v12 + 1)), ())) else none else none else none else none
    else some (.inr (.inr (((v4.1, (v4.2.1, (v4.2.2.1, v4.2.2.2))), v8, (v10.1, (v10.2.1, (v10.2.2.1, v10.2.2.2))), ()))))
def loop31_1 (x : Shape.den sh31_1) : Option (exDen ex31_1) := loopN step31_1 (2 ^ 64) x
def f31 (x : denK [.agg (.prod (.int .i64) (.prod (.list (.int .i64)) (.prod (.list (.int .i64)) (.list (.int .i64))))), .agg (.prod (.int .i64) (.prod (.list (.int .i64)) (.prod (.list (.int .i64)) (.list (.int .i64))))), .agg (.prod (.prod (.int .i64) (.prod (.int .i64) (.prod (.int .i64) (.int .i64)))) (.prod (.int .i64) (.int .i64)))]) : Option (denK [.bool]) := match x with
  | (v0, v1, v2, ()) =>
    bif ltI v2.2.1 (-1000) then
      some (false, ())
    else bif ltI 1000 v2.2.1 then
      some (false, ())
    else bif ltI v2.2.2 (-1000) then
      some (false, ())
    else bif ltI 1000 v2.2.2 then
      some (false, ())
    else askO (f16 (v0.1, ())) fun y1 =>
    askO (loop31_0 ((v0.1, (v0.2.1, (v0.2.2.1, v0.2.2.2))), (v1.1, (v1.2.1, (v1.2.2.1, v1.2.2.2))), ((v2.1.1, (v2.1.2.1, (v2.1.2.2.1, v2.1.2.2.2))), (v2.2.1, v2.2.2)), y1.1, false, 0, ())) fun z2 =>
    askO (f18 ((z2.1.1, (z2.1.2.1, (z2.1.2.2.1, z2.1.2.2.2))), (z2.2.2.1.1.1, (z2.2.2.1.1.2.1, (z2.2.2.1.1.2.2.1, z2.2.2.1.1.2.2.2))), ())) fun y3 =>
    askO (loop31_1 ((z2.1.1, (z2.1.2.1, (z2.1.2.2.1, z2.1.2.2.2))), (z2.2.1.1, (z2.2.1.2.1, (z2.2.1.2.2.1, z2.2.1.2.2.2))), ((z2.2.2.1.1.1, (z2.2.2.1.1.2.1, (z2.2.2.1.1.2.2.1, z2.2.2.1.1.2.2.2))), (z2.2.2.1.2.1, z2.2.2.1.2.2)), z2.2.2.2.1, (y3.1.1, (y3.1.2.1, (y3.1.2.2.1, y3.1.2.2.2))), 0, ())) fun z4 =>
    onSum z4 (fun a5 => some (a5.1, ())) fun b6 =>
    bif b6.2.1 then
      askO (f43 (b6.2.2.1.2.2.1, b6.1.2.2.1, ())) fun y7 =>
      bif y7.1 then
        askO (f43 (b6.2.2.1.2.2.2, b6.1.2.2.2, ())) fun y8 =>
        some (y8.1, ())
      else some (false, ())
    else some (false, ())
noncomputable def c31 : Code := bodyOf Tryz.f31
abbrev E31 : Env := envOf [e16, e18, e43]
theorem E31_ok : EnvOK Tryz.prog E31 := env_ok ⟨e16_ok, e18_ok, e43_ok, trivial⟩
noncomputable def a31_0 : Code := loopAt c31 0
noncomputable def a31_1 : Code := loopAt c31 1
def lt31 (id : Nat) : Option LSpec := bif Nat.beq id 6 then some ⟨sh31_0, ex31_0, loop31_0⟩ else bif Nat.beq id 11 then some ⟨sh31_1, ex31_1, loop31_1⟩ else none
theorem round31_0 : ∀ x, roundK Tryz.prog E31 108 (keepOf Tryz.f31) lt31 a31_0 sh31_0 ex31_0 x = step31_0 x := by
  rintro ⟨v3, v4, v5, v7, v8, v9, ⟨⟩⟩
  kernel_rfl
theorem in31_0 : loopsOf a31_0 = [] := by kernel_rfl
theorem first31_0 : firstRegion a31_0 = 6 := by kernel_rfl
theorem spec31_0 : SpecOK Tryz.prog 108 a31_0 ⟨sh31_0, ex31_0, loop31_0⟩ := by
  exact loop_ok E31_ok.callee progOK.mixed _ (loops_ok in31_0 trivial) round31_0
theorem round31_1 : ∀ x, roundK Tryz.prog E31 108 (keepOf Tryz.f31) lt31 a31_1 sh31_1 ex31_1 x = step31_1 x := by
  rintro ⟨v3, v4, v5, v8, v10, v12, ⟨⟩⟩
  kernel_rfl
theorem in31_1 : loopsOf a31_1 = [] := by kernel_rfl
theorem first31_1 : firstRegion a31_1 = 11 := by kernel_rfl
theorem spec31_1 : SpecOK Tryz.prog 108 a31_1 ⟨sh31_1, ex31_1, loop31_1⟩ := by
  exact loop_ok E31_ok.callee progOK.mixed _ (loops_ok in31_1 trivial) round31_1
theorem loops31 : loopsOf c31 = [a31_0, a31_1] := by kernel_rfl
theorem body31 : ∀ x, bodyK Tryz.prog E31 Tryz.f31 (keepOf Tryz.f31) lt31 c31 [.agg (.prod (.int .i64) (.prod (.list (.int .i64)) (.prod (.list (.int .i64)) (.list (.int .i64))))), .agg (.prod (.int .i64) (.prod (.list (.int .i64)) (.prod (.list (.int .i64)) (.list (.int .i64))))), .agg (.prod (.prod (.int .i64) (.prod (.int .i64) (.prod (.int .i64) (.int .i64)))) (.prod (.int .i64) (.int .i64)))] [.bool] x = f31 x := by
  rintro ⟨v0, v1, v2, ⟨⟩⟩
  kernel_rfl
theorem fn31 : FnOK Tryz.prog 31 [.agg (.prod (.int .i64) (.prod (.list (.int .i64)) (.prod (.list (.int .i64)) (.list (.int .i64))))), .agg (.prod (.int .i64) (.prod (.list (.int .i64)) (.prod (.list (.int .i64)) (.list (.int .i64))))), .agg (.prod (.prod (.int .i64) (.prod (.int .i64) (.prod (.int .i64) (.int .i64)))) (.prod (.int .i64) (.int .i64)))] [.bool] f31 := by
  exact fun_ok progOK E31_ok Tryz.func31 (c := c31) (by kernel_rfl) (keep := keepOf Tryz.f31) (lt := lt31) (loops_ok loops31 ⟨spec_of first31_0 rfl spec31_0, spec_of first31_1 rfl spec31_1, trivial⟩) body31
abbrev e31 : Ent := ⟨31, [.agg (.prod (.int .i64) (.prod (.list (.int .i64)) (.prod (.list (.int .i64)) (.list (.int .i64))))), .agg (.prod (.int .i64) (.prod (.list (.int .i64)) (.prod (.list (.int .i64)) (.list (.int .i64))))), .agg (.prod (.prod (.int .i64) (.prod (.int .i64) (.prod (.int .i64) (.int .i64)))) (.prod (.int .i64) (.int .i64)))], [.bool], f31⟩
theorem e31_ok : Ent.OK Tryz.prog e31 := fn31
end Go.PM
