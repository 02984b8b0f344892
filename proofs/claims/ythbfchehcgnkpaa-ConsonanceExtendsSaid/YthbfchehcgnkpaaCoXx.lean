/- slices.Grow of nothing, at rows: an empty slice with room, owned by the caller. -/
import Derived.Test.YthbfchehcgnkpaaPnV
import Derived.Test.YthbfchehcgnkpaaPnH
import Derived.Lib.AppendZerosOnto
import Derived.Test.YthbfchehcgnkpaaCoB
import Derived.Test.YthbfchehcgnkpaaCoNa
set_option linter.unusedSimpArgs false
set_option linter.unusedVariables false
namespace Go.PM
open Go Go.RowKit Go.Proofs
set_option maxRecDepth 100000

theorem grow_info : ∃ i : TypeInfo, Try.prog.info? 48 = some i ∧ i.size = 1 ∧ i.bytes ≤ 100 ∧ i.zero = some (.slice none 0 0) := by
  refine ⟨(Try.prog.info? 48).get (by kernel_rfl), ?_, ?_, ?_, ?_⟩
  · exact (Option.some_get _).symm
  · kernel_rfl
  · exact Nat.le_of_ble_eq_true (by kernel_rfl)
  · kernel_rfl
theorem grow_none (w : World) : Calls Try.prog 71 #[.slice none 0 0, .int .i64 (0 : Nat)] w fun e w' => e = .returned (.slice none 0 0) ∧ w' = w := by
  go_enter Try.func71, Try.ntmps71
  go_wp2
  go_ret
  exact ⟨rfl, rfl⟩
set_option maxHeartbeats 4000000 in
theorem grow_room {i : TypeInfo} {z : Value} (hi : Try.prog.info? 48 = some i) (hz : i.zero = some z) (hs : 0 < i.size) (hb : i.bytes ≤ 100) {n : Nat} (h0 : 0 < n) (hn : n ≤ 1048576) (w : World) :
    (∃ s : Sem Value, s.run Try.prog w = .ok (.slice (some ⟨w.heap.size, 0, none⟩) n (grownCap w n 0 48)) (w.drew.alloc (.cells (#[] ++ Builtin.zeroCells z.cells n ++ Builtin.zeroCells z.cells (grownCap w n 0 48 - n)) 48)))
    ∧ Calls Try.prog 71 #[.slice none 0 0, .int .i64 n] w fun e w' =>
      e = .returned (.slice (some ⟨w.heap.size, 0, none⟩) 0 (grownCap w n 0 48)) ∧
      w' = w.drew.alloc (.cells (#[] ++ Builtin.zeroCells z.cells n ++ Builtin.zeroCells z.cells (grownCap w n 0 48 - n)) 48) := by
  have h1 : ¬ ((n : Int) < 0) := by omega
  have h4 : (n : Int) - ((0 : Int) - (0 : Int)) > 0 := by omega
  have hrz : ∀ ty, (Builtin.append_ #[22, 3] ty #[.slice none 0 0, .int .i64 n]).run Try.prog w = .ok (.slice (some ⟨w.heap.size, 0, none⟩) n (grownCap w n 0 48)) (w.drew.alloc (.cells (#[] ++ Builtin.zeroCells z.cells n ++ Builtin.zeroCells z.cells (grownCap w n 0 48 - n)) 48)) := fun ty => by
    have h := Lib.run_append_grow_zeros w 22 3 ty 48 i z .i64 .i64 Try.underlying22 Try.underlying3 hi hz none 0 0 [] (run_firstCells_none w.drew i.size 0 0 0) n h0 hs (by omega) (by omega)
      (by have : n * i.bytes ≤ 1048576 * 100 := Nat.mul_le_mul hn hb
          omega)
      (growslice_fits (by omega) (by
        have : (0 + n) * i.bytes ≤ 1048576 * 100 := Nat.mul_le_mul (by omega) hb
        omega))
    rw [Nat.zero_add] at h
    exact h
  refine ⟨⟨_, hrz 22⟩, ?_⟩
  have hGn : n ≤ grownCap w n 0 48 := grownCap_ge w _ _ _
  have hG63 : grownCap w n 0 48 ≤ 9223372036854775807 := by
    have := grownCap_le_maxLen w n 0 48 (by unfold maxLen; omega)
    unfold maxLen at this
    omega
  obtain ⟨Gc, hG⟩ : ∃ Gc, Gc = grownCap w n 0 48 := ⟨_, rfl⟩
  rw [← hG] at hrz hGn hG63 ⊢
  clear hG
  have hw : Go.RowKit.wrap64 ((n : Int) - 0) = n := by unfold Go.RowKit.wrap64; omega
  go_enter Try.func71, Try.ntmps71
  go_wp2_with (at_builtin; refine Lib.wpList_append_run _ rfl _ _ _ _ rfl _ _ rfl rfl _ _ (hrz _) ?_)
  all_goals (go_ret; exact ⟨rfl, rfl⟩)
/-- The function: an empty row. -/
def f71g (x : denK [.nil0, .int .i64]) : Option (List (List Int)) := match x with
  | (_, n, ()) => bif !(ltI n 0) && Nat.ble n.toNat 1048576 then some [] else none
theorem grow_own : FnOwn Try.prog 71 [.nil0, .int .i64] 48 (.list (.int .i64)) f71g := by
  rintro ⟨u, n, ⟨⟩⟩ l hy n0 G μ w us hW hv
  unfold f71g at hy
  obtain ⟨hb, hy⟩ := condSome hy
  simp only [Option.some.injEq] at hy
  subst hy
  simp only [Bool.and_eq_true, Bool.not_eq_true', ltI_eq, decide_eq_false_iff_not] at hb
  obtain ⟨h1, h2⟩ := hb
  have h2 := Nat.le_of_ble_eq_true h2
  obtain ⟨m, rfl⟩ := Int.eq_ofNat_of_zero_le (a := n) (by omega)
  rw [Int.toNat_natCast] at h2
  have k1 : VRs w G μ [.lit (.slice none 0 0), .lit (.int .i64 (m : Int))] us := hv
  clear hv hy
  rw [VRs] at k1
  obtain ⟨v, us1, rfl, g1, k2⟩ := k1
  rw [VRs] at k2
  obtain ⟨v2, us2, rfl, g2, k3⟩ := k2
  rw [VRs] at k3
  rw [VR] at g1 g2
  subst g1; subst g2; subst k3
  refine ⟨enters Try.func71 (by kernel_rfl) (by kernel_rfl) _ _, ?_⟩
  show Calls Try.prog 71 #[.slice none 0 0, .int .i64 (m : Int)] w _
  rcases Nat.eq_zero_or_pos m with rfl | hm
  · refine (grow_none w).mono ?_
    rintro e w' ⟨rfl, rfl⟩
    obtain ⟨e1, w1⟩ := unborn_winv hW ⟨encAll (.list (.int .i64)) [], 48, true, false, some ⟨.list (.int .i64), []⟩⟩ (on := some 0) (fun g hg => by cases hg; exact ⟨rfl, rfl⟩)
    refine ⟨_, G, _, rfl, e1, w1, ?_⟩
    rw [VR]
    exact ⟨0, upd_len .., .inl ⟨rfl, none, rfl⟩⟩
  · obtain ⟨i, hi, hs, hb, hz⟩ := grow_info
    obtain ⟨⟨s, hsr⟩, hc⟩ := grow_room hi hz (by omega) hb hm h2 w
    refine hc.mono ?_
    rintro e w' ⟨rfl, rfl⟩
    have hG : m ≤ grownCap w m 0 48 := grownCap_ge w _ _ _
    have hz1 : (Value.slice none 0 0).cells.size = 1 := rfl
    obtain ⟨v', w', G', μ', a1, a2, a3, a4⟩ := tgrow_new (P := Try.prog) hW (e := 48) (ty := .list (.int .i64)) (l := []) (c' := grownCap w m 0 48) (os := #[]) (vs := #[]) (rest := Builtin.zeroCells (Value.slice none 0 0).cells m ++ Builtin.zeroCells (Value.slice none 0 0).cells (grownCap w m 0 48 - m))
      (s := s >>= fun _ => pure (.slice (some ⟨w.heap.size, 0, none⟩) 0 (grownCap w m 0 48))) (by show VRs w G μ [] []; rw [VRs]) (Nat.zero_le _)
      (by rw [Array.size_append, zeroCells_size, zeroCells_size, hz1]; show _ = (grownCap w m 0 48 - 0) * 1; omega)
      (by rw [Sem.run_bind, hsr, Result.andThen_ok, Sem.run_pure]; simp)
    rw [Sem.run_bind, hsr, Result.andThen_ok, Sem.run_pure] at a1
    cases a1
    exact ⟨_, G', μ', rfl, a2, a3, a4⟩
abbrev s71g : Shr := (71, ownH [.nil0, .int .i64] 48 (.list (.int .i64)) f71g)
theorem s71g_ok : ShrOK Try.prog s71g := ownH_ok grow_own
end Go.PM

/- Chapter 40: slices.Concat, Extend, and ConsonanceExtends: functions (printed by a program) and plain law. -/
set_option linter.unusedSimpArgs false
set_option linter.unusedVariables false
namespace Go.PM
open Go Go.RowKit Go.Proofs
set_option maxRecDepth 100000
set_option maxHeartbeats 4000000

/-! slices.Concat[[]schisma/api.Row,schisma/api.Row] -/
abbrev sh55_0 : List (Nat × Kd) := [(0, .list (.list (.list (.int .i64)))), (3, .int .i64), (9, .list (.list (.list (.int .i64)))), (10, .int .i64), (11, .int .i64)]
abbrev ex55_0 : List (Ex × List (Nat × Kd)) := [(.exit 0, [(0, .list (.list (.list (.int .i64)))), (3, .int .i64)])]
def step55_0 (x : Shape.den sh55_0) : Option (Shape.den sh55_0 ⊕ exDen ex55_0) := match x with
  | (v0, v3, v9, v10, v11, ()) =>
    bif ltI v11 v10 then
      bif idxOk v11 v9.length then bif ltI (wrapF .i64 (v3 + ((v9.getD v11.toNat []).length : Int))) 0 then none else some (.inl (v0, (wrapF .i64 (v3 + ((v9.getD v11.toNat []).length : Int))), v9, v10, (wrapF .i64 (v11 + 1)), ())) else none
    else some (.inr ((v0, v3, ())))
def loop55_0 (x : Shape.den sh55_0) : Option (exDen ex55_0) := loopN step55_0 (2 ^ 64) x
abbrev sh55_1 : List (Nat × Kd) := [(6, .own 48 (.list (.int .i64))), (25, .list (.list (.list (.int .i64)))), (26, .int .i64), (27, .int .i64)]
abbrev ex55_1 : List (Ex × List (Nat × Kd)) := [(.exit 2, [(6, .own 48 (.list (.int .i64)))])]
def step55_1 (x : Shape.den sh55_1) : Option (Shape.den sh55_1 ⊕ exDen ex55_1) := match x with
  | (v6, v25, v26, v27, ()) =>
    bif ltI v27 v26 then
      bif idxOk v27 v25.length then bif Nat.ble (v25.getD v27.toNat []).length 1048576 then bif Nat.ble v6.length 1048576 then some (.inl ((v6 ++ (v25.getD v27.toNat [])), v25, v26, (wrapF .i64 (v27 + 1)), ())) else none else none else none
    else some (.inr ((v6, ())))
def loop55_1 (x : Shape.den sh55_1) : Option (exDen ex55_1) := loopN step55_1 (2 ^ 64) x
def f55 (x : denK [.list (.list (.list (.int .i64)))]) : Option (denK [.list (.list (.int .i64))]) := match x with
  | (v0, ()) =>
    askO (loop55_0 (v0, 0, v0, (v0.length : Int), 0, ())) fun z1 =>
    askO (f71g ((), z1.2.1, ())) fun y2 =>
    askO (loop55_1 (y2, z1.1, (z1.1.length : Int), 0, ())) fun z3 =>
    some (z3.1, ())
noncomputable def c55 : Code := bodyOf Try.f55
abbrev E55 : Env := envT [] [s71g]
theorem E55_ok : EnvOK Try.prog E55 := envT_ok trivial ⟨s71g_ok, trivial⟩
noncomputable def a55_0 : Code := loopAt c55 0
noncomputable def a55_1 : Code := loopAt c55 1
def lt55 (id : Nat) : Option LSpec := bif Nat.beq id 3 then some ⟨sh55_0, ex55_0, loop55_0⟩ else bif Nat.beq id 11 then some ⟨sh55_1, ex55_1, loop55_1⟩ else none
theorem round55_0 : ∀ x, roundK Try.prog E55 36 (keepOf Try.f55) lt55 a55_0 sh55_0 ex55_0 x = step55_0 x := by
  rintro ⟨v0, v3, v9, v10, v11, ⟨⟩⟩
  kernel_rfl
theorem in55_0 : loopsOf a55_0 = [] := by kernel_rfl
theorem first55_0 : firstRegion a55_0 = 3 := by kernel_rfl
theorem spec55_0 : SpecOK Try.prog 36 a55_0 ⟨sh55_0, ex55_0, loop55_0⟩ := by
  exact loop_ok E55_ok.callee progOK.mixed _ (loops_ok in55_0 trivial) round55_0
theorem round55_1 : ∀ x, roundK Try.prog E55 36 (keepOf Try.f55) lt55 a55_1 sh55_1 ex55_1 x = step55_1 x := by
  rintro ⟨v6, v25, v26, v27, ⟨⟩⟩
  kernel_rfl
theorem in55_1 : loopsOf a55_1 = [] := by kernel_rfl
theorem first55_1 : firstRegion a55_1 = 11 := by kernel_rfl
theorem spec55_1 : SpecOK Try.prog 36 a55_1 ⟨sh55_1, ex55_1, loop55_1⟩ := by
  exact loop_ok E55_ok.callee progOK.mixed _ (loops_ok in55_1 trivial) round55_1
theorem loops55 : loopsOf c55 = [a55_0, a55_1] := by kernel_rfl
theorem body55 : ∀ x, bodyK Try.prog E55 Try.f55 (keepOf Try.f55) lt55 c55 [.list (.list (.list (.int .i64)))] [.list (.list (.int .i64))] x = f55 x := by
  rintro ⟨v0, ⟨⟩⟩
  kernel_rfl
theorem fn55 : FnOK Try.prog 55 [.list (.list (.list (.int .i64)))] [.list (.list (.int .i64))] f55 := by
  exact fun_ok progOK E55_ok Try.func55 (c := c55) (by kernel_rfl) (keep := keepOf Try.f55) (lt := lt55) (loops_ok loops55 ⟨spec_of first55_0 rfl spec55_0, spec_of first55_1 rfl spec55_1, trivial⟩) body55
abbrev e55 : Ent := ⟨55, [.list (.list (.list (.int .i64)))], [.list (.list (.int .i64))], f55⟩
theorem e55_ok : Ent.OK Try.prog e55 := fn55

/-! schisma/consonance.Extend -/
def f30 (x : denK [.int .i64, .list (.list (.int .i64)), .list (.list (.int .i64)), .int .i64, .list (.list (.list (.int .i64)))]) : Option (denK [.list (.list (.list (.int .i64))), .int .i64]) := match x with
  | (v0, v1, v2, v3, v4, ()) =>
    askO (f17 (v0, v1, v3, ())) fun y1 =>
    bif !(eqI y1.2.1 0) then
      some ([], y1.2.1, ())
    else askO (f52s2f53 (y1.1, v4, (), ())) fun y2 =>
    bif y2.1 then
      askO (f55 ([v1, v2], ())) fun y3 =>
      askO (f17 (v0, y3.1, v3, ())) fun y4 =>
      some (y4.1, y4.2.1, ())
    else some ([], 23, ())
noncomputable def c30 : Code := bodyOf Try.f30
abbrev E30 : Env := envOf [e17, e52s2f53, e55]
theorem E30_ok : EnvOK Try.prog E30 := env_ok ⟨e17_ok, e52s2f53_ok, e55_ok, trivial⟩
def lt30 (id : Nat) : Option LSpec := none
theorem loops30 : loopsOf c30 = [] := by kernel_rfl
theorem body30 : ∀ x, bodyK Try.prog E30 Try.f30 (keepOf Try.f30) lt30 c30 [.int .i64, .list (.list (.int .i64)), .list (.list (.int .i64)), .int .i64, .list (.list (.list (.int .i64)))] [.list (.list (.list (.int .i64))), .int .i64] x = f30 x := by
  rintro ⟨v0, v1, v2, v3, v4, ⟨⟩⟩
  kernel_rfl
theorem fn30 : FnOK Try.prog 30 [.int .i64, .list (.list (.int .i64)), .list (.list (.int .i64)), .int .i64, .list (.list (.list (.int .i64)))] [.list (.list (.list (.int .i64))), .int .i64] f30 := by
  exact fun_ok progOK E30_ok Try.func30 (c := c30) (by kernel_rfl) (keep := keepOf Try.f30) (lt := lt30) (loops_ok loops30 trivial) body30
abbrev e30 : Ent := ⟨30, [.int .i64, .list (.list (.int .i64)), .list (.list (.int .i64)), .int .i64, .list (.list (.list (.int .i64)))], [.list (.list (.list (.int .i64))), .int .i64], f30⟩
theorem e30_ok : Ent.OK Try.prog e30 := fn30

/-! schisma/schismalaw40.ConsonanceExtends -/
def f9 (x : denK [.agg (.prod (.int .u8) (.list (.prod (.int .i8) (.prod (.int .i8) (.int .i8))))), .list (.prod (.int .i8) (.prod (.int .i8) (.int .i8))), .agg (.prod (.int .u8) (.int .u8))]) : Option (denK [.bool]) := match x with
  | (v0, v1, v2, ()) =>
    askO (f16 ((v0.1, v0.2), ())) fun y1 =>
    askO (f10 (())) fun y2 =>
    bif y2.1 then
      bif y1.2.2.1 then
        bif ltI 3 (v1.length : Int) then
          askO (f10 (())) fun y3 =>
          some (y3.1, ())
        else askO (f16 ((v0.1, v1), ())) fun y4 =>
        askO (f15 (y1.2.1, ())) fun y5 =>
        askO (f19 (y1.1, y5.1, (wrapF .i64 (1 + ((IntKind.wrap .i64 v2.1).tmod 5))), ())) fun y6 =>
        bif eqI (v2.2.tmod 4) 0 then
          bif !(ltI (wrapF .i64 ((y6.1.length : Int).tdiv 2)) 0) then bif Nat.ble 0 ((wrapF .i64 ((y6.1.length : Int).tdiv 2)).toNat) then bif Nat.ble ((wrapF .i64 ((y6.1.length : Int).tdiv 2)).toNat) y6.1.length then askO (f30 (y1.1, y1.2.1, y4.2.1, (wrapF .i64 (1 + ((IntKind.wrap .i64 v2.1).tmod 5))), ((y6.1.drop 0).take ((wrapF .i64 ((y6.1.length : Int).tdiv 2)).toNat - 0)), ())) fun y7 =>
          bif ltI 0 (y6.1.length : Int) then
            bif eqI (y7.1.length : Int) 0 then
              some (eqI y7.2.1 23, ())
            else some (false, ())
          else bif Nat.ble y1.2.1.length 1048576 then bif Nat.ble y4.2.1.length 1048576 then bif Nat.ble y1.2.1.length 1048576 then askO (f15 ((y1.2.1 ++ y4.2.1), ())) fun y8 =>
          askO (f19 (y1.1, y8.1, (wrapF .i64 (1 + ((IntKind.wrap .i64 v2.1).tmod 5))), ())) fun y9 =>
          askO (f18 (y7.1, y9.1, ())) fun y10 =>
          bif y10.1 then
            some (eqI y7.2.1 0, ())
          else some (false, ()) else none else none else none else none else none else none
        else bif eqI (v2.2.tmod 4) 1 then
          bif Nat.ble y6.1.length 1048576 then bif !(ltI y1.1 0) then bif !(ltI y1.1 y1.1) then bif !(ltI 1048576 y1.1) then bif Nat.ble [[(List.replicate y1.1.toNat 0)]].length 1048576 then bif Nat.ble y6.1.length 1048576 then askO (f30 (y1.1, y1.2.1, y4.2.1, (wrapF .i64 (1 + ((IntKind.wrap .i64 v2.1).tmod 5))), (y6.1 ++ [[(List.replicate y1.1.toNat 0)]]), ())) fun y11 =>
          bif eqI (y11.1.length : Int) 0 then
            some (eqI y11.2.1 23, ())
          else some (false, ()) else none else none else none else none else none else none
        else askO (f30 (y1.1, y1.2.1, y4.2.1, (wrapF .i64 (1 + ((IntKind.wrap .i64 v2.1).tmod 5))), y6.1, ())) fun y12 =>
        bif Nat.ble y1.2.1.length 1048576 then bif Nat.ble y4.2.1.length 1048576 then bif Nat.ble y1.2.1.length 1048576 then askO (f15 ((y1.2.1 ++ y4.2.1), ())) fun y13 =>
        askO (f19 (y1.1, y13.1, (wrapF .i64 (1 + ((IntKind.wrap .i64 v2.1).tmod 5))), ())) fun y14 =>
        askO (f18 (y12.1, y14.1, ())) fun y15 =>
        bif y15.1 then
          some (eqI y12.2.1 0, ())
        else some (false, ()) else none else none else none
      else askO (f10 (())) fun y16 =>
      some (y16.1, ())
    else askO (f10 (())) fun y17 =>
    some (y17.1, ())
noncomputable def c9 : Code := bodyOf Try.f9
abbrev E9 : Env := envOf [e10, e15, e16, e18, e19, e30]
theorem E9_ok : EnvOK Try.prog E9 := env_ok ⟨e10_ok, e15_ok, e16_ok, e18_ok, e19_ok, e30_ok, trivial⟩
def lt9 (id : Nat) : Option LSpec := none
theorem loops9 : loopsOf c9 = [] := by kernel_rfl
theorem body9 : ∀ x, bodyK Try.prog E9 Try.f9 (keepOf Try.f9) lt9 c9 [.agg (.prod (.int .u8) (.list (.prod (.int .i8) (.prod (.int .i8) (.int .i8))))), .list (.prod (.int .i8) (.prod (.int .i8) (.int .i8))), .agg (.prod (.int .u8) (.int .u8))] [.bool] x = f9 x := by
  rintro ⟨v0, v1, v2, ⟨⟩⟩
  kernel_rfl
theorem fn9 : FnOK Try.prog 9 [.agg (.prod (.int .u8) (.list (.prod (.int .i8) (.prod (.int .i8) (.int .i8))))), .list (.prod (.int .i8) (.prod (.int .i8) (.int .i8))), .agg (.prod (.int .u8) (.int .u8))] [.bool] f9 := by
  exact fun_ok progOK E9_ok Try.func9 (c := c9) (by kernel_rfl) (keep := keepOf Try.f9) (lt := lt9) (loops_ok loops9 trivial) body9
abbrev e9 : Ent := ⟨9, [.agg (.prod (.int .u8) (.list (.prod (.int .i8) (.prod (.int .i8) (.int .i8))))), .list (.prod (.int .i8) (.prod (.int .i8) (.int .i8))), .agg (.prod (.int .u8) (.int .u8))], [.bool], f9⟩
theorem e9_ok : Ent.OK Try.prog e9 := fn9
set_option maxHeartbeats 400000
/-! plain law -/
theorem eq_of_find {α : Type} (d : α) {a b : List α} (hl : a.length = b.length) [DecidableEq α] (h : (List.range a.length).find? (fun i => decide (¬ a.getD i d = b.getD i d)) = none) : a = b := by
  apply List.ext_getElem hl
  intro i g1 g2
  have := List.find?_eq_none.1 h i (List.mem_range.2 g1)
  simp only [decide_eq_true_eq, Decidable.not_not] at this
  rw [List.getD_eq_getElem?_getD, List.getD_eq_getElem?_getD, List.getElem?_eq_getElem g1, List.getElem?_eq_getElem g2] at this
  exact this
theorem f54_eq (a b : List (List Int)) (ha : a.length ≤ 9223372036854775806) (hs : Rws 9223372036854775806 a) : f54s2f38 (a, b, (), ()) = some (decide (a = b), ()) := by
  unfold f54s2f38; dsimp only
  simp only [eqI_eq, not_dec, cond_dec]
  by_cases hl : a.length = b.length
  · rw [if_neg (by omega)]
    have hloop : loop54s2f38_0 (b, (), a, (a.length : Int), 0, ()) = some ((((List.range a.length).find? fun i => decide (¬ a.getD i [] = b.getD i [])).map fun i : Nat => .inl (false, ())).getD (.inr ())) := by
      rw [← findSome_if (fun i => ¬ a.getD i [] = b.getD i []) (fun i : Nat => Sum.inl (false, ()))]
      refine loopN_find (N := 2 ^ 64) (step := step54s2f38_0) (fun i => (b, (), a, (a.length : Int), (i : Int), ())) (fun i => if ¬ a.getD i [] = b.getD i [] then some (.inl (false, ())) else none) a.length (.inr ()) (by omega) ?_ ?_
      · intro i hi
        simp only [step54s2f38_0, ltI_eq, idxOk_eq, cond_dec, Int.toNat_natCast]
        rw [if_pos (by omega), if_pos (by omega), if_pos (by omega), f38_eq _ _ (hs _ (getDL_mem hi)), askO_s, wrap64s i (by omega), cond_dec]
        by_cases h : a.getD i [] = b.getD i []
        · rw [if_pos h, if_neg (not_not_intro h)]
        · rw [if_neg h, if_pos h]
      · simp only [step54s2f38_0, ltI_eq, cond_dec]
        rw [if_neg (by omega)]
    rw [hloop, askO_s]
    cases hf : (List.range a.length).find? fun i => decide (¬ a.getD i [] = b.getD i []) with
    | none =>
      rw [decide_eq_true (eq_of_find [] hl hf)]; rfl
    | some j =>
      have h1 := List.find?_some hf
      simp only [decide_eq_true_eq] at h1
      rw [decide_eq_false (fun h => h1 (by rw [h]))]; rfl
  · rw [if_pos (by omega), decide_eq_false (fun h => hl (by rw [h]))]
theorem f52_eq (a b : List (List (List Int))) (ha : a.length ≤ 100000) (hs : ∀ c ∈ a, c.length ≤ 100000 ∧ Rws 100000 c) : f52s2f53 (a, b, (), ()) = some (decide (a = b), ()) := by
  unfold f52s2f53; dsimp only
  simp only [eqI_eq, not_dec, cond_dec]
  by_cases hl : a.length = b.length
  · rw [if_neg (by omega)]
    have hloop : loop52s2f53_0 (b, (), a, (a.length : Int), 0, ()) = some ((((List.range a.length).find? fun i => decide (¬ a.getD i [] = b.getD i [])).map fun i : Nat => .inl (false, ())).getD (.inr ())) := by
      rw [← findSome_if (fun i => ¬ a.getD i [] = b.getD i []) (fun i : Nat => Sum.inl (false, ()))]
      refine loopN_find (N := 2 ^ 64) (step := step52s2f53_0) (fun i => (b, (), a, (a.length : Int), (i : Int), ())) (fun i => if ¬ a.getD i [] = b.getD i [] then some (.inl (false, ())) else none) a.length (.inr ()) (by omega) ?_ ?_
      · intro i hi
        have hm : a.getD i [] ∈ a := by rw [List.getD_eq_getElem?_getD, List.getElem?_eq_getElem hi]; exact List.getElem_mem hi
        obtain ⟨s1, s2⟩ := hs _ hm
        simp only [step52s2f53_0, ltI_eq, idxOk_eq, cond_dec, Int.toNat_natCast]
        rw [if_pos (by omega), if_pos (by omega), if_pos (by omega)]
        have h53 : f53 (a.getD i [], b.getD i [], ()) = some (decide (a.getD i [] = b.getD i []), ()) := by
          unfold f53; dsimp only
          rw [f54_eq _ _ (by omega) (fun y hy => Nat.le_trans (s2 y hy) (by omega)), askO_s]
        rw [h53, askO_s, wrap64s i (by omega), cond_dec]
        by_cases h : a.getD i [] = b.getD i []
        · rw [if_pos h, if_neg (not_not_intro h)]
        · rw [if_neg h, if_pos h]
      · simp only [step52s2f53_0, ltI_eq, cond_dec]
        rw [if_neg (by omega)]
    rw [hloop, askO_s]
    cases hf : (List.range a.length).find? fun i => decide (¬ a.getD i [] = b.getD i []) with
    | none =>
      rw [decide_eq_true (eq_of_find [] hl hf)]; rfl
    | some j =>
      have h1 := List.find?_some hf
      simp only [decide_eq_true_eq] at h1
      rw [decide_eq_false (fun h => h1 (by rw [h]))]; rfl
  · rw [if_pos (by omega), decide_eq_false (fun h => hl (by rw [h]))]
theorem f55_eq {a b : List (List Int)} (ha : a.length ≤ 1000) (hb : b.length ≤ 1000) : f55 ([a, b], ()) = some (a ++ b, ()) := by
  have e0 : ([a, b] : List (List (List Int))).length = 2 := rfl
  have ga : ([a, b] : List (List (List Int))).getD 0 [] = a := rfl
  have gb : ([a, b] : List (List (List Int))).getD 1 [] = b := rfl
  obtain ⟨N, hN⟩ : ∃ N, 2 ^ 64 = N + 1 + 1 + 1 := ⟨2 ^ 64 - 3, by omega⟩
  have s0 : step55_0 ([a, b], 0, [a, b], (([a, b] : List (List (List Int))).length : Int), 0, ()) = some (.inl ([a, b], (a.length : Int), [a, b], (([a, b] : List (List (List Int))).length : Int), 1, ())) := by
    simp only [step55_0, ltI_eq, idxOk_eq, cond_dec, Int.toNat_zero, ga, e0]
    rw [if_pos (by omega), if_pos (by omega), wrap64 (x := 0 + (a.length : Int)) (by omega) (by omega), if_neg (by omega), wrap64 (x := 0 + 1) (by omega) (by omega), Int.zero_add, Int.zero_add]
  have s1 : step55_0 ([a, b], (a.length : Int), [a, b], (([a, b] : List (List (List Int))).length : Int), 1, ()) = some (.inl ([a, b], ((a.length + b.length : Nat) : Int), [a, b], (([a, b] : List (List (List Int))).length : Int), 2, ())) := by
    have hx : wrapF .i64 ((a.length : Int) + (b.length : Int)) = ((a.length + b.length : Nat) : Int) := by rw [wrap64 (by omega) (by omega)]; omega
    have h1 : (1 : Int).toNat = 1 := rfl
    simp only [step55_0, ltI_eq, idxOk_eq, cond_dec, h1, gb, e0, hx]
    rw [if_pos (by omega), if_pos (by omega), if_neg (by omega), wrap64 (x := 1 + 1) (by omega) (by omega)]; rfl
  have s2 : step55_0 ([a, b], ((a.length + b.length : Nat) : Int), [a, b], (([a, b] : List (List (List Int))).length : Int), 2, ()) = some (.inr ([a, b], ((a.length + b.length : Nat) : Int), ())) := by
    simp only [step55_0, ltI_eq, cond_dec, e0]
    rw [if_neg (by omega)]
  have h0 : loop55_0 ([a, b], 0, [a, b], (([a, b] : List (List (List Int))).length : Int), 0, ()) = some ([a, b], ((a.length + b.length : Nat) : Int), ()) := by
    unfold loop55_0
    rw [hN, loopN_succ, s0]
    dsimp only
    rw [loopN_succ, s1]
    dsimp only
    rw [loopN_succ, s2]
  have t0 : step55_1 ([], [a, b], (([a, b] : List (List (List Int))).length : Int), 0, ()) = some (.inl (a, [a, b], (([a, b] : List (List (List Int))).length : Int), 1, ())) := by
    simp only [step55_1, ltI_eq, idxOk_eq, nble_eq, cond_dec, Int.toNat_zero, ga, e0, List.length_nil, List.nil_append]
    rw [if_pos (by omega), if_pos (by omega), if_pos (by omega), if_pos (by omega), wrap64 (x := 0 + 1) (by omega) (by omega)]; rfl
  have t1 : step55_1 (a, [a, b], (([a, b] : List (List (List Int))).length : Int), 1, ()) = some (.inl (a ++ b, [a, b], (([a, b] : List (List (List Int))).length : Int), 2, ())) := by
    have h1 : (1 : Int).toNat = 1 := rfl
    simp only [step55_1, ltI_eq, idxOk_eq, nble_eq, cond_dec, h1, gb, e0]
    rw [if_pos (by omega), if_pos (by omega), if_pos (by omega), if_pos (by omega), wrap64 (x := 1 + 1) (by omega) (by omega)]; rfl
  have t2 : step55_1 (a ++ b, [a, b], (([a, b] : List (List (List Int))).length : Int), 2, ()) = some (.inr (a ++ b, ())) := by
    simp only [step55_1, ltI_eq, cond_dec, e0]
    rw [if_neg (by omega)]
  have h1 : loop55_1 ([], [a, b], (([a, b] : List (List (List Int))).length : Int), 0, ()) = some (a ++ b, ()) := by
    unfold loop55_1
    rw [hN, loopN_succ, t0]
    dsimp only
    rw [loopN_succ, t1]
    dsimp only
    rw [loopN_succ, t2]
  unfold f55; dsimp only
  rw [h0, askO_s]
  have h71 : f71g ((), ((a.length + b.length : Nat) : Int), ()) = some [] := by
    unfold f71g
    dsimp only
    rw [ltI_eq, nble_eq, decide_eq_false (by omega), decide_eq_true (by omega)]; rfl
  dsimp only
  rw [h71, askO_s, h1, askO_s]
theorem nodup_length_le : ∀ {P Q : List (List Int)}, P.Nodup → (∀ x ∈ P, x ∈ Q) → P.length ≤ Q.length
  | [], _, _, _ => Nat.zero_le _
  | x :: P, Q, h, hs => by
    obtain ⟨hx, hP⟩ := List.nodup_cons.1 h
    have hq := hs x (by simp)
    have := nodup_length_le (P := P) (Q := Q.erase x) hP fun y hy => (List.mem_erase_of_ne (fun e => hx (by rw [← e]; exact hy))).2 (hs y (by simp [hy]))
    rw [List.length_erase_of_mem hq] at this
    have h0 := List.length_pos_of_mem hq
    rw [List.length_cons]; omega
theorem neg_flip {r : List Int} (h : ∀ v ∈ r, okE v) : cmpL (neg r) (List.replicate r.length 0) = cmpL (List.replicate r.length 0) r := by
  have hz : ∀ v ∈ List.replicate r.length (0 : Int), okE v := fun v hv => by
    rw [(List.mem_replicate.1 hv).2]; unfold okE; omega
  have := cmp_shift (a := List.replicate r.length 0) (b := r) (c := r) (by rw [List.length_replicate]) (by rw [List.length_replicate]; omega) hz h h
  rw [minus_self] at this
  exact this
/-- A closure of few rows has few positive ones. -/
theorem closC_pos {n : Nat} {l : List (List Int)} (h : ∀ y ∈ l, y.length = n ∧ ∀ v ∈ y, okE v) : gtN (closC [] l) (List.replicate n 0) ≤ l.length := by
  unfold gtN
  have hn : ((closC [] l).filter fun y => decide (0 < cmpL y (List.replicate n 0))).Nodup := List.Pairwise.filter _ (si_nodup (closC_si l (by simp [SI])))
  refine Nat.le_trans (nodup_length_le (Q := l.map fun r => if 0 < cmpL r (List.replicate n 0) then r else neg r) hn ?_) (by rw [List.length_map]; omega)
  intro y hy
  obtain ⟨hy, hp⟩ := List.mem_filter.1 hy
  have hp : 0 < cmpL y (List.replicate n 0) := by simpa using hp
  rcases (closC_mem y _ _).1 hy with hy | hy
  · cases hy
  · obtain ⟨r, hr, hy⟩ := List.mem_flatMap.1 hy
    split at hy
    · cases hy
    · refine List.mem_map.2 ⟨r, hr, ?_⟩
      rcases List.mem_cons.1 hy with rfl | hy
      · rw [if_pos hp]
      · have hy := List.mem_singleton.1 hy
        subst hy
        obtain ⟨e1, e2⟩ := h r hr
        subst e1
        rw [neg_flip e2] at hp
        rw [if_neg]
        intro h2
        exact cmpL_asym (cmpL_gt.1 h2) (cmpL_gt.1 hp)
section
variable {a : Int} {rs : List (Int × (Int × Int))} {n : Nat}
/-- A plan's rows, and further ones. -/
theorem plan_good9 (hn : 1 ≤ n ∧ n ≤ 3) (hl : rs.length ≤ 9) : (rs.map (rowE n)).length ≤ 1000 ∧ Rws 1000 (rs.map (rowE n)) ∧ errD (n : Int) (rs.map (rowE n)) = 0 ∧ Cl n (closC [] (rs.map (rowE n))) := by
  have hlen : ∀ y ∈ rs.map (rowE n), y.length = n := by
    intro y hy
    obtain ⟨t, -, rfl⟩ := List.mem_map.1 hy
    exact rowE_length n t
  have hrw : Rws 1000 (rs.map (rowE n)) := fun y hy => by rw [hlen y hy]; omega
  have hcl := closC_length (rs.map (rowE n)) []
  rw [List.length_nil, Nat.zero_add, List.length_map] at hcl
  have hok : ∀ y ∈ rs.map (rowE n), ∀ v ∈ y, okE v := by
    intro y hy v hv
    obtain ⟨t, -, rfl⟩ := List.mem_map.1 hy
    obtain ⟨i, -, rfl⟩ := List.mem_map.1 hv
    exact elE_small t i
  have hrc : ∀ y ∈ rs.map (rowE n), rc y = 0 := by
    intro y hy
    have hy1 := hlen y hy
    unfold rc
    rw [if_neg (by omega), if_pos]
    intro i hi
    exact hok y hy _ (by rw [List.getD_eq_getElem?_getD, List.getElem?_eq_getElem hi]; exact List.getElem_mem hi)
  have herr : errC (n : Int) (rs.map (rowE n)) = 0 := errC_of ⟨by omega, by omega⟩ fun y hy => ⟨hrc y hy, by rw [hlen y hy]⟩
  have hpos := closC_pos (n := n) (l := rs.map (rowE n)) fun y hy => ⟨hlen y hy, hok y hy⟩
  rw [List.length_map] at hpos
  refine ⟨by rw [List.length_map]; omega, hrw, ?_, ⟨by omega, by omega, closC_si _ (by simp [SI]), by omega, by omega, ?_⟩⟩
  · unfold errD
    rw [if_neg (not_not_intro herr), if_neg (by omega)]
  · intro y hy
    rcases (closC_mem y _ _).1 hy with hy | hy
    · cases hy
    · obtain ⟨r, hr, hy⟩ := List.mem_flatMap.1 hy
      split at hy
      · cases hy
      · rcases List.mem_cons.1 hy with rfl | hy
        · exact hlen _ hr
        · rw [List.mem_singleton.1 hy, neg_length]; exact hlen _ hr
theorem f16_few (ha : 0 ≤ a ∧ a ≤ 255) (h : rs.length ≤ 6) : f16 ((a, rs), ()) = some (((1 + (a % 3).toNat : Nat) : Int), rs.map (rowE (1 + (a % 3).toNat)), true, ()) := by
  have hw : wrapF .i64 (1 + (IntKind.wrap .i64 a).tmod 3) = ((1 + (a % 3).toNat : Nat) : Int) := by
    rw [wrap64' (by omega) (by omega), Int.tmod_eq_emod_of_nonneg ha.1, wrap64 (by omega) (by omega)]
    omega
  unfold f16; dsimp only
  rw [hw]
  simp only [ltI_eq, cond_dec]
  rw [if_neg (by omega), loop16_1_eq (n := 1 + (a % 3).toNat) (by omega) (by omega), askO_s]
theorem f16_many (ha : 0 ≤ a ∧ a ≤ 255) (h : 6 < rs.length) : ∃ x, f16 ((a, rs), ()) = some (x, [], false, ()) := by
  unfold f16; dsimp only
  simp only [ltI_eq, cond_dec]
  rw [if_pos (by omega)]
  exact ⟨_, rfl⟩
theorem f30_eq {more : List (Int × (Int × Int))} (hn : 1 ≤ n ∧ n ≤ 3) (h1 : rs.length ≤ 6) (h2 : more.length ≤ 3) {k : Nat} (hk : 1 ≤ k ∧ k ≤ 5) (before : List (List (List Int))) :
    f30 ((n : Int), rs.map (rowE n), more.map (rowE n), (k : Int), before, ()) = some (if iterL (closC [] (rs.map (rowE n))) (k - 1) (c0 n) = before then (iterL (closC [] ((rs ++ more).map (rowE n))) (k - 1) (c0 n), 0, ()) else ([], 23, ())) := by
  obtain ⟨g1, g2, g3, g4⟩ := plan_good9 (rs := rs) hn (by omega)
  obtain ⟨p1, p2, p3, p4⟩ := plan_good9 (rs := rs ++ more) hn (by rw [List.length_append]; omega)
  unfold f30; dsimp only
  rw [f17_eq g1 g2 g3 g4 (by omega), askO_s]
  simp only [eqI_eq, not_dec, cond_dec]
  rw [if_neg (by simp)]
  have hch := chs_iter g4.len (k - 1) 1 (chs_c0 n)
  have hcnt := g4.count (k - 1)
  rw [f52_eq _ _ (by omega) (fun c hc => by
    obtain ⟨e1, e2⟩ := hch c hc
    exact ⟨by omega, fun y hy => by rw [e2 y hy]; omega⟩), askO_s, cond_dec]
  by_cases hb : iterL (closC [] (rs.map (rowE n))) (k - 1) (c0 n) = before
  · rw [if_pos hb, if_pos hb, f55_eq (by omega) (by rw [List.length_map]; omega), askO_s, ← List.map_append]
    dsimp only
    rw [f17_eq p1 p2 p3 p4 (by omega), askO_s]
  · rw [if_neg hb, if_neg hb]
/-- What the law asks of a right list. -/
theorem fin9 {more : List (Int × (Int × Int))} (hn : 1 ≤ n ∧ n ≤ 3) (h1 : rs.length ≤ 6) (h2 : more.length ≤ 3) {k : Nat} (hk : 1 ≤ k ∧ k ≤ 5) :
    (bif Nat.ble (rs.map (rowE n)).length 1048576 then bif Nat.ble (more.map (rowE n)).length 1048576 then bif Nat.ble (rs.map (rowE n)).length 1048576 then askO (f15 ((rs.map (rowE n) ++ more.map (rowE n)), ())) fun y8 =>
          askO (f19 ((n : Int), y8.1, (k : Int), ())) fun y9 =>
          askO (f18 (iterL (closC [] ((rs ++ more).map (rowE n))) (k - 1) (c0 n), y9.1, ())) fun y10 =>
          bif y10.1 then some (eqI 0 0, ()) else some (false, ()) else none else none else none) = (some (true, ()) : Option (denK [.bool])) := by
  obtain ⟨p1, p2, p3, p4⟩ := plan_good9 (rs := rs ++ more) hn (by rw [List.length_append]; omega)
  simp only [nble_eq, cond_dec, List.length_map]
  rw [if_pos (by omega), if_pos (by omega), if_pos (by omega), ← List.map_append, f15_eq p1 p2, askO_s]
  dsimp only
  rw [f19_eq p4 (by omega), askO_s]
  have hch := chs_iter p4.len (k - 1) 1 (chs_c0 n)
  have hcnt := p4.count (k - 1)
  rw [f18_eq _ _ (by omega) (fun c hc => by
    obtain ⟨e1, e2⟩ := hch c hc
    exact ⟨by omega, fun y hy => by rw [e2 y hy]; omega⟩), askO_s]
  simp [eqI_eq]
theorem f9_true {more : List (Int × (Int × Int))} {w1 w2 : Int} (ha : 0 ≤ a ∧ a ≤ 255) (hw1 : 0 ≤ w1 ∧ w1 ≤ 255) (hw2 : 0 ≤ w2 ∧ w2 ≤ 255) : f9 ((a, rs), more, (w1, w2), ()) = some (true, ()) := by
  unfold f9; dsimp only
  by_cases h6 : rs.length ≤ 6
  · rw [f16_few ha h6, askO_s, f10_eq, askO_s]
    simp only [cond_true, ltI_eq, cond_dec]
    by_cases h3 : more.length ≤ 3
    · rw [if_neg (by omega), f16_few ha (by omega), askO_s]
      have hn : 1 ≤ 1 + (a % 3).toNat ∧ 1 + (a % 3).toNat ≤ 3 := by omega
      generalize 1 + (a % 3).toNat = n at *
      obtain ⟨g1, g2, g3, g4⟩ := plan_good9 (rs := rs) hn (by omega)
      have hlow := g4.low
      have hhigh := g4.high
      have hk : wrapF .i64 (1 + (IntKind.wrap .i64 w1).tmod 5) = ((1 + (w1 % 5).toNat : Nat) : Int) := by
        rw [wrap64' (by omega) (by omega), Int.tmod_eq_emod_of_nonneg hw1.1, wrap64 (by omega) (by omega)]
        omega
      have hk5 : 1 ≤ 1 + (w1 % 5).toNat ∧ 1 + (w1 % 5).toNat ≤ 5 := by omega
      rw [hk]
      generalize 1 + (w1 % 5).toNat = k at *
      rw [f15_eq g1 g2, askO_s]
      dsimp only
      rw [f19_eq g4 (by omega), askO_s]
      dsimp only
      have hcnt := g4.count (k - 1)
      generalize hL : iterL (closC [] (rs.map (rowE n))) (k - 1) (c0 n) = L at *
      simp only [eqI_eq, cond_dec]
      by_cases q0 : w2.tmod 4 = 0
      · have hd : wrapF .i64 ((L.length : Int).tdiv 2) = ((L.length / 2 : Nat) : Int) := by
          rw [Int.tdiv_eq_ediv_of_nonneg (by omega), wrap64 (by omega) (by omega)]; omega
        rw [if_pos q0, hd]
        simp only [nble_eq, not_dec, cond_dec, Int.toNat_natCast, List.drop_zero, Nat.sub_zero]
        rw [if_pos (by omega), if_pos (by omega), if_pos (by omega)]
        by_cases hz : L.length = 0
        · have hL0 := List.eq_nil_of_length_eq_zero hz
          have e30 : f30 ((n : Int), rs.map (rowE n), more.map (rowE n), (k : Int), L.take (L.length / 2), ()) = some (iterL (closC [] ((rs ++ more).map (rowE n))) (k - 1) (c0 n), 0, ()) := by
            rw [f30_eq hn h6 h3 hk5, hL, if_pos (by rw [hL0]; rfl)]
          rw [e30, askO_s, if_neg (by omega)]
          have := fin9 (rs := rs) (more := more) hn h6 h3 hk5
          simp only [nble_eq, cond_dec, eqI_eq] at this ⊢
          exact this
        · have e30 : f30 ((n : Int), rs.map (rowE n), more.map (rowE n), (k : Int), L.take (L.length / 2), ()) = some ([], 23, ()) := by
            rw [f30_eq hn h6 h3 hk5, hL, if_neg (fun h => by
              have := congrArg List.length h
              rw [List.length_take] at this
              omega)]
          rw [e30, askO_s, if_pos (by omega)]
          simp
      · rw [if_neg q0]
        by_cases q1 : w2.tmod 4 = 1
        · rw [if_pos q1]
          have e30 : f30 ((n : Int), rs.map (rowE n), more.map (rowE n), (k : Int), L ++ [[List.replicate n 0]], ()) = some ([], 23, ()) := by
            rw [f30_eq hn h6 h3 hk5, hL, if_neg (fun h => by
              have := congrArg List.length h
              rw [List.length_append] at this
              simp at this)]
          simp only [nble_eq, not_dec, cond_dec, Int.toNat_natCast, List.length_cons, List.length_nil]
          rw [if_pos (by omega), if_pos (by omega), if_pos (by omega), if_pos (by omega), if_pos (by omega), if_pos (by omega), e30, askO_s]
          simp
        · rw [if_neg q1, f30_eq hn h6 h3 hk5, hL, askO_s, if_pos rfl]
          have := fin9 (rs := rs) (more := more) hn h6 h3 hk5
          simp only [nble_eq, cond_dec, eqI_eq] at this ⊢
          exact this
    · rw [if_pos (by omega)]; rfl
  · obtain ⟨x, hx⟩ := f16_many (rs := rs) ha (by omega)
    rw [hx, askO_s]; rfl
end
end Go.PM
