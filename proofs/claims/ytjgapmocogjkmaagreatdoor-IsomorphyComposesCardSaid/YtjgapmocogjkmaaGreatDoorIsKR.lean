/- lattice.Of and lattice.Represent at the inputs of the chapter's example: closed runs, evaluated by the kernel. -/
import Derived.Test.YtjgapmocogjkmaaGreatDoorIsS
import Derived.Test.YtjgapmocogjkmaaGreatDoorPnI
import Derived.Test.YtjgapmocogjkmaaGreatDoorPnM
import Derived.Test.YtjgapmocogjkmaaGreatDoorPnO
set_option linter.unusedSimpArgs false
set_option linter.unusedVariables false
namespace Go.PM
open Go Go.RowKit Go.Proofs
set_option maxRecDepth 100000
/-- Functions whose answers their callers write. -/
def sharingI : List Nat := [104, 106, 78, 77, 100, 81]
def isShI : List Nat → Nat → Bool
  | [], _ => false
  | a :: r, g => bif Nat.beq a g then true else isShI r g
abbrev LatTy : Ty := .prod (.int .i64) (.list (.list (.int .i64)))
theorem of_run1 : runP Tryz.prog (cfgOf Tryz.prog) (isShI sharingI) primS 1000 14 67 (encA [.int .i64, .list (.list (.int .i64))] (1, [[2], [5]], ())) = some (encR [.agg LatTy, .int .i64] ((1, [[1]]), 0, ())) := by kernel_rfl
theorem of_run2 : runP Tryz.prog (cfgOf Tryz.prog) (isShI sharingI) primS 1000 14 67 (encA [.int .i64, .list (.list (.int .i64))] (1, [[5], [2]], ())) = some (encR [.agg LatTy, .int .i64] ((1, [[1]]), 0, ())) := by kernel_rfl
def f67k (x : denK [.int .i64, .list (.list (.int .i64))]) : Option (denK [.agg LatTy, .int .i64]) := match x with
  | (n, [[a], [b]], ()) => bif eqI n 1 && eqI a 2 && eqI b 5 then some ((1, [[1]]), 0, ()) else bif eqI n 1 && eqI a 5 && eqI b 2 then some ((1, [[1]]), 0, ()) else none
  | _ => none
theorem fn67k : FnOK Tryz.prog 67 [.int .i64, .list (.list (.int .i64))] [.agg LatTy, .int .i64] f67k := by
  intro x y h
  unfold f67k at h
  split at h
  · rename_i n a b
    cases hc : (eqI n 1 && eqI a 2 && eqI b 5) with
    | true =>
      rw [hc] at h
      simp only [Bool.and_eq_true, eqI_eq, decide_eq_true_eq] at hc
      obtain ⟨⟨rfl, rfl⟩, rfl⟩ := hc
      obtain rfl := Option.some.inj h
      exact runP_sound progOK primS_ok of_run1
    | false =>
      rw [hc] at h
      obtain ⟨hc, h⟩ := condSome h
      simp only [Bool.and_eq_true, eqI_eq, decide_eq_true_eq] at hc
      obtain ⟨⟨rfl, rfl⟩, rfl⟩ := hc
      obtain rfl := Option.some.inj h
      exact runP_sound progOK primS_ok of_run2
  · cases h
abbrev e67k : Ent := ⟨67, [.int .i64, .list (.list (.int .i64))], [.agg LatTy, .int .i64], f67k⟩
theorem e67k_ok : Ent.OK Tryz.prog e67k := fn67k
end Go.PM

/- lattice.Represent at the input of the chapter's example. -/
set_option linter.unusedSimpArgs false
set_option linter.unusedVariables false
namespace Go.PM
open Go Go.RowKit Go.Proofs
set_option maxRecDepth 100000
set_option maxHeartbeats 4000000
abbrev s0 : ByteArray := "0".toUTF8
abbrev s1 : ByteArray := "1".toUTF8
def eqB (a b : ByteArray) : Bool := a.data.toList == b.data.toList
theorem eqB_eq {a b : ByteArray} (h : eqB a b = true) : a = b := by
  have h1 : a.data.toList = b.data.toList := by simpa [eqB] using h
  cases a; cases b
  congr 1
  exact Array.ext' h1
def eqSs : List ByteArray → List ByteArray → Bool
  | [], [] => true
  | a :: l, b :: m => bif eqB a b then eqSs l m else false
  | _, _ => false
theorem eqSs_eq : ∀ {l m : List ByteArray}, eqSs l m = true → l = m
  | [], [], _ => rfl
  | [], _ :: _, h => by cases h
  | _ :: _, [], h => by cases h
  | a :: l, b :: m, h => by
    unfold eqSs at h
    cases hc : eqB a b with
    | true => rw [hc] at h; rw [eqB_eq hc, eqSs_eq h]
    | false => rw [hc] at h; cases h
def eqIs : List Int → List Int → Bool
  | [], [] => true
  | a :: l, b :: m => bif eqI a b then eqIs l m else false
  | _, _ => false
theorem eqIs_eq : ∀ {l m : List Int}, eqIs l m = true → l = m
  | [], [], _ => rfl
  | [], _ :: _, h => by cases h
  | _ :: _, [], h => by cases h
  | a :: l, b :: m, h => by
    unfold eqIs at h
    simp only [eqI_eq] at h
    by_cases hc : a = b
    · simp [hc] at h; rw [hc, eqIs_eq h]
    · simp [hc] at h
def eqIss : List (List Int) → List (List Int) → Bool
  | [], [] => true
  | a :: l, b :: m => bif eqIs a b then eqIss l m else false
  | _, _ => false
theorem eqIss_eq : ∀ {l m : List (List Int)}, eqIss l m = true → l = m
  | [], [], _ => rfl
  | [], _ :: _, h => by cases h
  | _ :: _, [], h => by cases h
  | a :: l, b :: m, h => by
    unfold eqIss at h
    cases hc : eqIs a b with
    | true => rw [hc] at h; rw [eqIs_eq hc, eqIss_eq h]
    | false => rw [hc] at h; cases h
theorem run100k0 : runP Tryz.prog (cfgOf Tryz.prog) (isShI []) primS 1000 14 100 (encA [.list (.int .i64)] ([1], ())) = some (encR [.list .str] ([s1], ())) := by kernel_rfl
theorem run100k1 : runP Tryz.prog (cfgOf Tryz.prog) (isShI []) primS 1000 14 100 (encA [.list (.int .i64)] ([0], ())) = some (encR [.list .str] ([s0], ())) := by kernel_rfl
def f100k (x : denK [.list (.int .i64)]) : Option (denK [.list .str]) := match x with
  | (r, ()) => bif eqIs r [1] then some ([s1], ()) else bif eqIs r [0] then some ([s0], ()) else none
theorem fn100k : FnOK Tryz.prog 100 [.list (.int .i64)] [.list .str] f100k := by
  intro x y h
  obtain ⟨r, ⟨⟩⟩ := x
  unfold f100k at h
  dsimp only at h
  cases hc : (eqIs r [1]) with
  | true =>
    rw [hc, cond_true] at h
    have h1 := hc
    obtain rfl := eqIs_eq h1
    obtain rfl := Option.some.inj h
    exact runP_sound progOK primS_ok run100k0
  | false =>
    rw [hc, cond_false] at h
    obtain ⟨hc, h⟩ := condSome h
    have h1 := hc
    obtain rfl := eqIs_eq h1
    obtain rfl := Option.some.inj h
    exact runP_sound progOK primS_ok run100k1
abbrev e100k : Ent := ⟨100, [.list (.int .i64)], [.list .str], f100k⟩
theorem e100k_ok : Ent.OK Tryz.prog e100k := fn100k

theorem run142k0 : runP Tryz.prog (cfgOf Tryz.prog) (isShI []) primS 1000 14 142 (encA [.list .str] ([s1], ())) = some (encR [.int .i64] (0, ())) := by kernel_rfl
def f142k (x : denK [.list .str]) : Option (denK [.int .i64]) := match x with
  | (r, ()) => bif eqSs r [s1] then some (0, ()) else none
theorem fn142k : FnOK Tryz.prog 142 [.list .str] [.int .i64] f142k := by
  intro x y h
  obtain ⟨r, ⟨⟩⟩ := x
  unfold f142k at h
  dsimp only at h
  obtain ⟨hc, h⟩ := condSome h
  have h1 := hc
  obtain rfl := eqSs_eq h1
  obtain rfl := Option.some.inj h
  exact runP_sound progOK primS_ok run142k0
abbrev e142k : Ent := ⟨142, [.list .str], [.int .i64], f142k⟩
theorem e142k_ok : Ent.OK Tryz.prog e142k := fn142k

theorem run103k0 : runP Tryz.prog (cfgOf Tryz.prog) (isShI []) primS 1000 14 103 (encA [.str, .str] (s0, s1, ())) = some (encR [.str, .str, .int .i64] (s0, s0, 0, ())) := by kernel_rfl
def f103k (x : denK [.str, .str]) : Option (denK [.str, .str, .int .i64]) := match x with
  | (a, b, ()) => bif eqB a s0 && eqB b s1 then some (s0, s0, 0, ()) else none
theorem fn103k : FnOK Tryz.prog 103 [.str, .str] [.str, .str, .int .i64] f103k := by
  intro x y h
  obtain ⟨a, b, ⟨⟩⟩ := x
  unfold f103k at h
  dsimp only at h
  obtain ⟨hc, h⟩ := condSome h
  simp only [Bool.and_eq_true] at hc
  obtain ⟨h1, h2⟩ := hc
  obtain rfl := eqB_eq h1
  obtain rfl := eqB_eq h2
  obtain rfl := Option.some.inj h
  exact runP_sound progOK primS_ok run103k0
abbrev e103k : Ent := ⟨103, [.str, .str], [.str, .str, .int .i64], f103k⟩
theorem e103k_ok : Ent.OK Tryz.prog e103k := fn103k

theorem run104k0 : runP Tryz.prog (cfgOf Tryz.prog) (isShI []) primS 1000 14 104 (encA [.list .str, .str, .list .str] ([s0], s0, [s1], ())) = some (encR [] ()) := by kernel_rfl
def f104k (x : denK [.list .str, .str, .list .str]) : Option (denK []) := match x with
  | (r, k, s, ()) => bif eqSs r [s0] && eqB k s0 && eqSs s [s1] then some () else none
theorem fn104k : FnOK Tryz.prog 104 [.list .str, .str, .list .str] [] f104k := by
  intro x y h
  obtain ⟨r, k, s, ⟨⟩⟩ := x
  unfold f104k at h
  dsimp only at h
  obtain ⟨hc, h⟩ := condSome h
  simp only [Bool.and_eq_true] at hc
  obtain ⟨⟨h1, h2⟩, h3⟩ := hc
  obtain rfl := eqSs_eq h1
  obtain rfl := eqB_eq h2
  obtain rfl := eqSs_eq h3
  obtain rfl := Option.some.inj h
  exact runP_sound progOK primS_ok run104k0
abbrev e104k : Ent := ⟨104, [.list .str, .str, .list .str], [], f104k⟩
theorem e104k_ok : Ent.OK Tryz.prog e104k := fn104k

theorem run82k0 : runP Tryz.prog (cfgOf Tryz.prog) (isShI []) primS 1000 14 82 (encA [.list .str] ([s0], ())) = some (encR [.list (.int .i64), .int .i64] ([0], 0, ())) := by kernel_rfl
def f82k (x : denK [.list .str]) : Option (denK [.list (.int .i64), .int .i64]) := match x with
  | (r, ()) => bif eqSs r [s0] then some ([0], 0, ()) else none
theorem fn82k : FnOK Tryz.prog 82 [.list .str] [.list (.int .i64), .int .i64] f82k := by
  intro x y h
  obtain ⟨r, ⟨⟩⟩ := x
  unfold f82k at h
  dsimp only at h
  obtain ⟨hc, h⟩ := condSome h
  have h1 := hc
  obtain rfl := eqSs_eq h1
  obtain rfl := Option.some.inj h
  exact runP_sound progOK primS_ok run82k0
abbrev e82k : Ent := ⟨82, [.list .str], [.list (.int .i64), .int .i64], f82k⟩
theorem e82k_ok : Ent.OK Tryz.prog e82k := fn82k

theorem run80k0 : runP Tryz.prog (cfgOf Tryz.prog) (isShI []) primS 1000 14 80 (encA [.agg LatTy, .list (.int .i64)] ((1, [[1]]), [0], ())) = some (encR [.int .i64] (0, ())) := by kernel_rfl
def f80k (x : denK [.agg LatTy, .list (.int .i64)]) : Option (denK [.int .i64]) := match x with
  | ((n, b), r, ()) => bif eqI n 1 && eqIss b [[1]] && eqIs r [0] then some (0, ()) else none
theorem fn80k : FnOK Tryz.prog 80 [.agg LatTy, .list (.int .i64)] [.int .i64] f80k := by
  intro x y h
  obtain ⟨⟨n, b⟩, r, ⟨⟩⟩ := x
  unfold f80k at h
  dsimp only at h
  obtain ⟨hc, h⟩ := condSome h
  simp only [Bool.and_eq_true] at hc
  obtain ⟨⟨h1, h2⟩, h3⟩ := hc
  obtain rfl : n = 1 := by simpa [eqI_eq] using h1
  obtain rfl := eqIss_eq h2
  obtain rfl := eqIs_eq h3
  obtain rfl := Option.some.inj h
  exact runP_sound progOK primS_ok run80k0
abbrev e80k : Ent := ⟨80, [.agg LatTy, .list (.int .i64)], [.int .i64], f80k⟩
theorem e80k_ok : Ent.OK Tryz.prog e80k := fn80k

/-! (schisma/lattice.Lattice).pivots$1 -/
abbrev shY141_0 : List (Nat × Kd) := [(0, .val), (7, .list (.list (.int .i64))), (8, .int .i64), (9, .int .i64)]
abbrev exY141_0 : List (Ex × List (Nat × Kd)) := [(.exit 0, [])]
def stepY141_0 (x : Shape.den shY141_0) : Option (List (Value × denK [.int .i64, .list .str]) × (Shape.den shY141_0 ⊕ exDen exY141_0)) := match x with
  | (v0, v7, v8, v9, ()) =>
    bif ltI v9 v8 then
      bif idxOk v9 v7.length then askO (f100k ((v7.getD v9.toNat []), ())) fun y3 =>
      askO (f142k (y3.1, ())) fun y4 =>
      outs [(v0, (y4.1, y3.1, ()))] (some ([], .inl (v0, v7, v8, (wrapF .i64 (v9 + 1)), ()))) else none
    else some ([], .inr ((())))
def loopY141_0 (x : Shape.den shY141_0) : Option (List (Value × denK [.int .i64, .list .str]) × exDen exY141_0) := loopI stepY141_0 (2 ^ 64) x
def fY141 (v0 : Value) (x : denT [(.prod (.int .i64) (.list (.list (.int .i64))))]) : Option (List (Value × denK [.int .i64, .list .str])) := match x with
  | (v1, ()) =>
    fstI (bindI (loopY141_0 (v0, v1.2, (v1.2.length : Int), 0, ())) fun z5 =>
    some ([], ()))
noncomputable def cY141 : Code := bodyOf Tryz.f141
abbrev EY141 : Env := envT [e100k, e142k] []
theorem EY141_ok : EnvOK Tryz.prog EY141 := envT_ok ⟨e100k_ok, e142k_ok, trivial⟩ trivial
noncomputable def aY141_0 : Code := inLoop (subAt cY141 0)
def ltY141 (id : Nat) : Option LSpec := none
def liY141 (id : Nat) : Option (LSpecI (Value × denK [.int .i64, .list .str])) := bif Nat.beq id 1 then some ⟨shY141_0, exY141_0, loopY141_0⟩ else none
theorem firstY141_0 : firstRegion aY141_0 = 1 := by kernel_rfl
theorem inY141_0 : subsOf aY141_0 = [] := by kernel_rfl
theorem roundY141_0 : ∀ x, roundI Tryz.prog EY141 22 (keepOf Tryz.f141) ltY141 [.int .i64, .list .str] liY141 aY141_0 shY141_0 exY141_0 x = stepY141_0 x := by
  rintro ⟨v0, v7, v8, v9, ⟨⟩⟩
  kernel_rfl
theorem specY141_0 : SpecI Tryz.prog 22 [.int .i64, .list .str] aY141_0 ⟨shY141_0, exY141_0, loopY141_0⟩ := by
  exact loop_okI EY141_ok.callee progOK.mixed _ (subsI_ok inY141_0 trivial) roundY141_0
theorem loopsY141 : subsOf cY141 = [.loop aY141_0] := by kernel_rfl
theorem bodyY141 : ∀ v0 x, bodyI Tryz.prog EY141 Tryz.f141 (keepOf Tryz.f141) ltY141 [.int .i64, .list .str] liY141 cY141 [(.prod (.int .i64) (.list (.list (.int .i64))))] v0 x = fY141 v0 x := by
  rintro v0 ⟨v1, ⟨⟩⟩
  kernel_rfl
theorem iterY141 {f : denT [(.prod (.int .i64) (.list (.list (.int .i64))))] → Option (List (denK [.int .i64, .list .str]))} (h : ∀ yv x all, f x = some all → fY141 yv x = some (all.map fun e => (yv, e))) : IterOK Tryz.prog 141 [(.prod (.int .i64) (.list (.list (.int .i64))))] [.int .i64, .list .str] f := by
  exact iter_ok progOK EY141_ok Tryz.func141 (c := cY141) (by kernel_rfl) (by kernel_rfl) (keep := keepOf Tryz.f141) (lt := ltY141) (li := liY141) (subsI_ok loopsY141 ⟨subI_yld firstY141_0 rfl rfl specY141_0, trivial⟩) (fun yv x all hx => (bodyY141 yv x).trans (h yv x all hx))

theorem piv_run (yv : Value) : fY141 yv ((1, [[1]]), ()) = some ([((0 : Int), [s1], ())].map fun e => (yv, e)) := by kernel_rfl
def fPiv (x : denT [(.prod (.int .i64) (.list (.list (.int .i64))))]) : Option (List (denK [.int .i64, .list .str])) := match x with
  | ((n, b), ()) => bif eqI n 1 && eqIss b [[1]] then some [((0 : Int), [s1], ())] else none
theorem it141 : IterOK Tryz.prog 141 [(.prod (.int .i64) (.list (.list (.int .i64))))] [.int .i64, .list .str] fPiv := by
  refine iterY141 ?_
  rintro yv ⟨⟨n, b⟩, ⟨⟩⟩ all h
  unfold fPiv at h
  dsimp only at h
  obtain ⟨hc, h⟩ := condSome h
  simp only [Bool.and_eq_true] at hc
  obtain ⟨h1, h2⟩ := hc
  obtain rfl : n = 1 := by simpa [eqI_eq] using h1
  obtain rfl := eqIss_eq h2
  obtain rfl := Option.some.inj h
  exact piv_run yv
/-! (schisma/lattice.Lattice).pivots -/
def f108 (x : denK [.agg (.prod (.int .i64) (.list (.list (.int .i64))))]) : Option (denK [.clo 141 [(.prod (.int .i64) (.list (.list (.int .i64))))]]) := match x with
  | (v0, ()) =>
    some (((v0.1, v0.2), ()), ())
noncomputable def c108 : Code := bodyOf Tryz.f108
abbrev E108 : Env := envOf []
theorem E108_ok : EnvOK Tryz.prog E108 := env_ok trivial
def lt108 (id : Nat) : Option LSpec := none
theorem loops108 : loopsOf c108 = [] := by kernel_rfl
theorem body108 : ∀ x, bodyK Tryz.prog E108 Tryz.f108 (keepOf Tryz.f108) lt108 c108 [.agg (.prod (.int .i64) (.list (.list (.int .i64))))] [.clo 141 [(.prod (.int .i64) (.list (.list (.int .i64))))]] x = f108 x := by
  rintro ⟨v0, ⟨⟩⟩
  kernel_rfl
theorem fn108 : FnOK Tryz.prog 108 [.agg (.prod (.int .i64) (.list (.list (.int .i64))))] [.clo 141 [(.prod (.int .i64) (.list (.list (.int .i64))))]] f108 := by
  exact fun_ok progOK E108_ok Tryz.func108 (c := c108) (by kernel_rfl) (keep := keepOf Tryz.f108) (lt := lt108) (loops_ok loops108 trivial) body108
abbrev e108 : Ent := ⟨108, [.agg (.prod (.int .i64) (.list (.list (.int .i64))))], [.clo 141 [(.prod (.int .i64) (.list (.list (.int .i64))))]], f108⟩
theorem e108_ok : Ent.OK Tryz.prog e108 := fn108

/-! (schisma/lattice.Lattice).reduce -/
abbrev sh81_0 : List (Nat × Kd) := [(4, .box 137 (.list .str)), (5, .bown 137 144 .str), (14, .clo 141 [(.prod (.int .i64) (.list (.list (.int .i64))))])]
abbrev ex81_0 : List (Ex × List (Nat × Kd)) := [(.normal, [(4, .box 137 (.list .str)), (5, .bown 137 144 .str)])]
def step81_0 (x : Shape.den sh81_0) (e : denK [.int .i64, .list .str]) : Option (Shape.den sh81_0 ⊕ exDen ex81_0) := match x, e with
  | (v4, v5, v14, ()), (e0, e1, ()) =>
    bif idxOk e0 v4.length then bif idxOk e0 e1.length then askO (f103k ((v4.getD e0.toNat ByteArray.empty), (e1.getD e0.toNat ByteArray.empty), ())) fun y3 =>
    askO (f104k (v4, y3.1, e1, ())) fun y4 =>
    bif Nat.ble [y3.1].length 1048576 then bif Nat.ble v5.length 1048576 then some (.inl (v4, (v5 ++ [y3.1]), ((v14.1.1, v14.1.2), ()), ())) else none else none else none else none
def cap81_0 (x : Shape.den sh81_0) : denT [(.prod (.int .i64) (.list (.list (.int .i64))))] := match x with
  | (v4, v5, v14, ()) => ((v14.1.1, v14.1.2), ())
def loop81_0 (x : Shape.den sh81_0) : Option (exDen ex81_0) := runG sh81_0 ex81_0 (fun x => fPiv (cap81_0 x)) step81_0 x
def f81 (x : denK [.agg (.prod (.int .i64) (.list (.list (.int .i64)))), .list (.int .i64)]) : Option (denK [.list .str, .list .str]) := match x with
  | (v0, v1, ()) =>
    askO (f100k (v1, ())) fun y1 =>
    askO (f108 ((v0.1, v0.2), ())) fun y2 =>
    askO (loop81_0 (y1.1, [], ((y2.1.1.1, y2.1.1.2), ()), ())) fun z5 =>
    some (z5.1, z5.2.1, ())
noncomputable def c81 : Code := bodyOf Tryz.f81
abbrev E81 : Env := envOf [e100k, e103k, e104k, e108]
theorem E81_ok : EnvOK Tryz.prog E81 := env_ok ⟨e100k_ok, e103k_ok, e104k_ok, e108_ok, trivial⟩
noncomputable def r81_0 : Code := subAt c81 0
noncomputable def a81_0 : Code := inLoop r81_0
def lt81 (id : Nat) : Option LSpec := none
def rt81 (id : Nat) : Option LSpec := bif Nat.beq id 5 then some ⟨sh81_0, ex81_0, loop81_0⟩ else none
theorem first81_0 : firstRegion a81_0 = 5 := by kernel_rfl
theorem in81_0 : subsOf a81_0 = [] := by kernel_rfl
theorem form81_0 : r81_0 = .rangeFunc (seqOp r81_0) (psOf r81_0) (assignOf r81_0) (inLoop r81_0) := by kernel_rfl
theorem round81_0 : ∀ y e, roundG Tryz.prog E81 40 (keepR Tryz.f81) lt81 rt81 (psOf r81_0).toList (assignOf r81_0) (inLoop r81_0) [.int .i64, .list .str] sh81_0 ex81_0 y e = step81_0 y e := by
  rintro ⟨v4, v5, v14, ⟨⟩⟩ ⟨e0, e1, ⟨⟩⟩
  kernel_rfl
theorem seq81_0 : ∀ x, seqOf 141 [(.prod (.int .i64) (.list (.list (.int .i64))))] sh81_0 (seqOp r81_0) x = some (cap81_0 x) := by
  rintro ⟨v4, v5, v14, ⟨⟩⟩
  kernel_rfl
theorem spec81_0 : SpecR Tryz.prog 40 false [] r81_0 ⟨sh81_0, ex81_0, loop81_0⟩ := by
  exact range_okC E81_ok progOK form81_0 Tryz.func141 (c := bodyOf Tryz.f141) (by kernel_rfl) it141 (by kernel_rfl) (subs_ok in81_0 trivial) seq81_0 round81_0
theorem loops81 : subsOf c81 = [r81_0] := by kernel_rfl
theorem body81 : ∀ x, bodyR Tryz.prog E81 Tryz.f81 (keepR Tryz.f81) lt81 rt81 c81 [.agg (.prod (.int .i64) (.list (.list (.int .i64)))), .list (.int .i64)] [.list .str, .list .str] x = f81 x := by
  rintro ⟨v0, v1, ⟨⟩⟩
  kernel_rfl
theorem fn81 : FnOK Tryz.prog 81 [.agg (.prod (.int .i64) (.list (.list (.int .i64)))), .list (.int .i64)] [.list .str, .list .str] f81 := by
  exact fun_okR progOK E81_ok Tryz.func81 (c := c81) (by kernel_rfl) (keep := keepR Tryz.f81) (lt := lt81) (rt := rt81) (subs_ok loops81 ⟨sub_rangeC form81_0 first81_0 rfl spec81_0, trivial⟩) body81
abbrev e81 : Ent := ⟨81, [.agg (.prod (.int .i64) (.list (.list (.int .i64)))), .list (.int .i64)], [.list .str, .list .str], f81⟩
theorem e81_ok : Ent.OK Tryz.prog e81 := fn81

/-! schisma/lattice.Represent -/
def f68 (x : denK [.agg (.prod (.int .i64) (.list (.list (.int .i64)))), .list (.int .i64)]) : Option (denK [.list (.int .i64), .int .i64]) := match x with
  | (v0, v1, ()) =>
    askO (f80k ((v0.1, v0.2), v1, ())) fun y1 =>
    bif !(eqI y1.1 0) then
      some ([], y1.1, ())
    else askO (f81 ((v0.1, v0.2), v1, ())) fun y2 =>
    askO (f82k (y2.1, ())) fun y3 =>
    some (y3.1, y3.2.1, ())
noncomputable def c68 : Code := bodyOf Tryz.f68
abbrev E68 : Env := envOf [e80k, e81, e82k]
theorem E68_ok : EnvOK Tryz.prog E68 := env_ok ⟨e80k_ok, e81_ok, e82k_ok, trivial⟩
def lt68 (id : Nat) : Option LSpec := none
theorem loops68 : loopsOf c68 = [] := by kernel_rfl
theorem body68 : ∀ x, bodyK Tryz.prog E68 Tryz.f68 (keepOf Tryz.f68) lt68 c68 [.agg (.prod (.int .i64) (.list (.list (.int .i64)))), .list (.int .i64)] [.list (.int .i64), .int .i64] x = f68 x := by
  rintro ⟨v0, v1, ⟨⟩⟩
  kernel_rfl
theorem fn68 : FnOK Tryz.prog 68 [.agg (.prod (.int .i64) (.list (.list (.int .i64)))), .list (.int .i64)] [.list (.int .i64), .int .i64] f68 := by
  exact fun_ok progOK E68_ok Tryz.func68 (c := c68) (by kernel_rfl) (keep := keepOf Tryz.f68) (lt := lt68) (loops_ok loops68 trivial) body68
abbrev e68 : Ent := ⟨68, [.agg (.prod (.int .i64) (.list (.list (.int .i64)))), .list (.int .i64)], [.list (.int .i64), .int .i64], f68⟩
theorem e68_ok : Ent.OK Tryz.prog e68 := fn68
theorem rep_known : f68 ((1, [[1]]), [0], ()) = some ([0], 0, ()) := by kernel_rfl
end Go.PM
