/- Chapter 46: functions by open runs of the plain machine (printed by a program). -/
import Derived.Test.YtjgapmocogjkmaaGreatDoorIsFC
import Derived.Test.YtjgapmocogjkmaaGreatDoorPnI
import Derived.Test.YtjgapmocogjkmaaGreatDoorPnM
set_option linter.unusedSimpArgs false
set_option linter.unusedVariables false
namespace Go.PM
open Go Go.RowKit Go.Proofs
set_option maxRecDepth 100000
set_option maxHeartbeats 4000000

/-! schisma/isomorphy.turns$1 -/
abbrev shY62_0 : List (Nat × Kd) := [(0, .val), (1, .ptr (.list (.prod (.int .i64) (.int .i64)))), (4, .box 27 (.prod (.int .i64) (.prod (.int .i64) (.prod (.int .i64) (.int .i64))))), (5, .bool), (8, .int .i64), (26, .list (.prod (.int .i64) (.int .i64))), (27, .int .i64), (28, .int .i64)]
abbrev exY62_0 : List (Ex × List (Nat × Kd)) := [(.exit 2, [(0, .val), (1, .ptr (.list (.prod (.int .i64) (.int .i64)))), (4, .box 27 (.prod (.int .i64) (.prod (.int .i64) (.prod (.int .i64) (.int .i64))))), (5, .bool), (8, .int .i64)])]
def stepY62_0 (x : Shape.den shY62_0) : Option (Shape.den shY62_0 ⊕ exDen exY62_0) := match x with
  | (v0, v1, v4, v5, v8, v26, v27, v28, ()) =>
    bif ltI v28 v27 then
      bif idxOk v28 v26.length then bif v5 then
        askO (f63 (v1, ((wrapF .i64 ((wrapF .i64 (v4.1 * ((v26.getD v28.toNat (0, 0)).1))) + (wrapF .i64 (v4.2.1 * ((v26.getD v28.toNat (0, 0)).2))))), (wrapF .i64 ((wrapF .i64 (v4.2.2.1 * ((v26.getD v28.toNat (0, 0)).1))) + (wrapF .i64 (v4.2.2.2 * ((v26.getD v28.toNat (0, 0)).2)))))), ())) fun y2 =>
        some (.inl (v0, v1, (v4.1, (v4.2.1, (v4.2.2.1, v4.2.2.2))), y2.1, v8, v26, v27, (wrapF .i64 (v28 + 1)), ()))
      else some (.inl (v0, v1, (v4.1, (v4.2.1, (v4.2.2.1, v4.2.2.2))), false, v8, v26, v27, (wrapF .i64 (v28 + 1)), ())) else none
    else some (.inr ((v0, v1, (v4.1, (v4.2.1, (v4.2.2.1, v4.2.2.2))), v5, v8, ())))
def loopY62_0 (x : Shape.den shY62_0) : Option (exDen exY62_0) := loopN stepY62_0 (2 ^ 64) x
abbrev shY62_1 : List (Nat × Kd) := [(0, .val), (1, .ptr (.list (.prod (.int .i64) (.int .i64)))), (8, .int .i64)]
abbrev exY62_1 : List (Ex × List (Nat × Kd)) := [(.exit 0, [])]
def stepY62_1 (x : Shape.den shY62_1) : Option (List (Value × denK [.agg (.prod (.int .i64) (.prod (.int .i64) (.prod (.int .i64) (.int .i64))))]) × (Shape.den shY62_1 ⊕ exDen exY62_1)) := match x with
  | (v0, v1, v8, ()) =>
    bif ltI v8 81 then
      askO (loopY62_0 (v0, v1, ((wrapF .i64 ((wrapF .i64 (v8.tdiv 27)) - 1)), ((wrapF .i64 (((wrapF .i64 (v8.tdiv 9)).tmod 3) - 1)), ((wrapF .i64 (((wrapF .i64 (v8.tdiv 3)).tmod 3) - 1)), (wrapF .i64 ((v8.tmod 3) - 1))))), true, v8, v1, (v1.length : Int), 0, ())) fun z4 =>
      bif z4.2.2.2.1 then
        bif !(eqI (wrapF .i64 ((wrapF .i64 (z4.2.2.1.1 * z4.2.2.1.2.2.2)) - (wrapF .i64 (z4.2.2.1.2.1 * z4.2.2.1.2.2.1)))) 0) then
          outs [(z4.1, ((z4.2.2.1.1, (z4.2.2.1.2.1, (z4.2.2.1.2.2.1, z4.2.2.1.2.2.2))), ()))] (some ([], .inl (z4.1, z4.2.1, (wrapF .i64 (z4.2.2.2.2.1 + 1)), ())))
        else some ([], .inl (z4.1, z4.2.1, (wrapF .i64 (z4.2.2.2.2.1 + 1)), ()))
      else some ([], .inl (z4.1, z4.2.1, (wrapF .i64 (z4.2.2.2.2.1 + 1)), ()))
    else some ([], .inr ((())))
def loopY62_1 (x : Shape.den shY62_1) : Option (List (Value × denK [.agg (.prod (.int .i64) (.prod (.int .i64) (.prod (.int .i64) (.int .i64))))]) × exDen exY62_1) := loopI stepY62_1 (2 ^ 64) x
def fY62 (v0 : Value) (x : denT [(.list (.prod (.int .i64) (.int .i64)))]) : Option (List (Value × denK [.agg (.prod (.int .i64) (.prod (.int .i64) (.prod (.int .i64) (.int .i64))))])) := match x with
  | (v1, ()) =>
    fstI (bindI (loopY62_1 (v0, v1, 0, ())) fun z5 =>
    some ([], ()))
noncomputable def cY62 : Code := bodyOf Tryz.f62
abbrev EY62 : Env := envT [e63] []
theorem EY62_ok : EnvOK Tryz.prog EY62 := envT_ok ⟨e63_ok, trivial⟩ trivial
noncomputable def aY62_1 : Code := inLoop (subAt cY62 0)
noncomputable def aY62_0 : Code := inLoop (subAt aY62_1 0)
def ltY62 (id : Nat) : Option LSpec := bif Nat.beq id 6 then some ⟨shY62_0, exY62_0, loopY62_0⟩ else none
def liY62 (id : Nat) : Option (LSpecI (Value × denK [.agg (.prod (.int .i64) (.prod (.int .i64) (.prod (.int .i64) (.int .i64))))])) := bif Nat.beq id 1 then some ⟨shY62_1, exY62_1, loopY62_1⟩ else none
theorem firstY62_0 : firstRegion aY62_0 = 6 := by kernel_rfl
theorem inY62_0 : subsOf aY62_0 = [] := by kernel_rfl
theorem roundY62_0 : ∀ x, roundR Tryz.prog EY62 83 (keepOf Tryz.f62) ltY62 (fun _ => none) true [] aY62_0 shY62_0 exY62_0 x = stepY62_0 x := by
  rintro ⟨v0, v1, v4, v5, v8, v26, v27, v28, ⟨⟩⟩
  kernel_rfl
theorem specY62_0 : SpecR Tryz.prog 83 true [] (.loop aY62_0) ⟨shY62_0, exY62_0, loopY62_0⟩ := by
  exact loop_okR EY62_ok.callee progOK.mixed _ (subs_ok inY62_0 trivial) roundY62_0
theorem firstY62_1 : firstRegion aY62_1 = 1 := by kernel_rfl
theorem inY62_1 : subsOf aY62_1 = [.loop aY62_0] := by kernel_rfl
theorem roundY62_1 : ∀ x, roundI Tryz.prog EY62 83 (keepOf Tryz.f62) ltY62 [.agg (.prod (.int .i64) (.prod (.int .i64) (.prod (.int .i64) (.int .i64))))] liY62 aY62_1 shY62_1 exY62_1 x = stepY62_1 x := by
  rintro ⟨v0, v1, v8, ⟨⟩⟩
  kernel_rfl
theorem specY62_1 : SpecI Tryz.prog 83 [.agg (.prod (.int .i64) (.prod (.int .i64) (.prod (.int .i64) (.int .i64))))] aY62_1 ⟨shY62_1, exY62_1, loopY62_1⟩ := by
  exact loop_okI EY62_ok.callee progOK.mixed _ (subsI_ok inY62_1 ⟨subI_loop firstY62_0 rfl rfl specY62_0, trivial⟩) roundY62_1
theorem loopsY62 : subsOf cY62 = [.loop aY62_1] := by kernel_rfl
theorem bodyY62 : ∀ v0 x, bodyI Tryz.prog EY62 Tryz.f62 (keepOf Tryz.f62) ltY62 [.agg (.prod (.int .i64) (.prod (.int .i64) (.prod (.int .i64) (.int .i64))))] liY62 cY62 [(.list (.prod (.int .i64) (.int .i64)))] v0 x = fY62 v0 x := by
  rintro v0 ⟨v1, ⟨⟩⟩
  kernel_rfl
theorem iterY62 {f : denT [(.list (.prod (.int .i64) (.int .i64)))] → Option (List (denK [.agg (.prod (.int .i64) (.prod (.int .i64) (.prod (.int .i64) (.int .i64))))]))} (h : ∀ yv x all, f x = some all → fY62 yv x = some (all.map fun e => (yv, e))) : IterOK Tryz.prog 62 [(.list (.prod (.int .i64) (.int .i64)))] [.agg (.prod (.int .i64) (.prod (.int .i64) (.prod (.int .i64) (.int .i64))))] f := by
  exact iter_ok progOK EY62_ok Tryz.func62 (c := cY62) (by kernel_rfl) (by kernel_rfl) (keep := keepOf Tryz.f62) (lt := ltY62) (li := liY62) (subsI_ok loopsY62 ⟨subI_yld firstY62_1 rfl rfl specY62_1, trivial⟩) (fun yv x all hx => (bodyY62 yv x).trans (h yv x all hx))

/-! the neighbours and the symmetries, in order -/
abbrev S4 : Type := Int × Int × Int × Int
def near4 : List (Int × Int) := [(1, 0), ((-1), 0), (0, 1), (0, (-1))]
def near6 : List (Int × Int) := [(1, 0), ((-1), 0), (0, 1), (0, (-1)), (1, (-1)), ((-1), 1)]
def turns4 : List S4 := [((-1), 0, 0, (-1)), ((-1), 0, 0, 1), (0, (-1), (-1), 0), (0, (-1), 1, 0), (0, 1, (-1), 0), (0, 1, 1, 0), (1, 0, 0, (-1)), (1, 0, 0, 1)]
def turns6 : List S4 := [((-1), (-1), 0, 1), ((-1), (-1), 1, 0), ((-1), 0, 0, (-1)), ((-1), 0, 1, 1), (0, (-1), (-1), 0), (0, (-1), 1, 1), (0, 1, (-1), (-1)), (0, 1, 1, 0), (1, 0, (-1), (-1)), (1, 0, 0, 1), (1, 1, (-1), 0), (1, 1, 0, (-1))]
def eqK : List (Int × Int) → List (Int × Int) → Bool
  | [], [] => true
  | a :: l, b :: m => bif eqI a.1 b.1 && eqI a.2 b.2 then eqK l m else false
  | _, _ => false
theorem eqK_eq : ∀ {l m : List (Int × Int)}, eqK l m = true → l = m
  | [], [], _ => rfl
  | [], _ :: _, h => by cases h
  | _ :: _, [], h => by cases h
  | (a1, a2) :: l, (b1, b2) :: m, h => by
    simp only [eqK, eqI_eq] at h
    by_cases h1 : a1 = b1
    · by_cases h2 : a2 = b2
      · simp [h1, h2] at h
        rw [h1, h2, eqK_eq h]
      · simp [h2] at h
    · simp [h1] at h
/-- The turns of a kind's neighbours. -/
def fTurns (x : denT [(.list (.prod (.int .i64) (.int .i64)))]) : Option (List (denK [.agg (.prod (.int .i64) (.prod (.int .i64) (.prod (.int .i64) (.int .i64))))])) := match x with
  | (near, ()) => bif eqK near near4 then some (turns4.map fun g => (g, ())) else bif eqK near near6 then some (turns6.map fun g => (g, ())) else none
theorem run4 (yv : Value) : fY62 yv (near4, ()) = some ((turns4.map fun g => (g, ())).map fun e => (yv, e)) := by kernel_rfl
theorem run6 (yv : Value) : fY62 yv (near6, ()) = some ((turns6.map fun g => (g, ())).map fun e => (yv, e)) := by kernel_rfl
theorem it62 : IterOK Tryz.prog 62 [(.list (.prod (.int .i64) (.int .i64)))] [.agg (.prod (.int .i64) (.prod (.int .i64) (.prod (.int .i64) (.int .i64))))] fTurns := by
  refine iterY62 ?_
  rintro yv ⟨near, ⟨⟩⟩ all h
  unfold fTurns at h
  dsimp only at h
  cases h4 : eqK near near4 with
  | true =>
    rw [h4, cond_true] at h
    rw [eqK_eq h4, run4, Option.some.inj h]
  | false =>
    rw [h4, cond_false] at h
    cases h6 : eqK near near6 with
    | true =>
      rw [h6, cond_true] at h
      rw [eqK_eq h6, run6, Option.some.inj h]
    | false => rw [h6, cond_false] at h; cases h
end Go.PM
