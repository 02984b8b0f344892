/- Chapter 46: Make, by an open run with unrolled loops. -/
import Derived.Test.YtjgapmocogjkmaaGreatDoorPnN
import Derived.Test.YtjgapmocogjkmaaGreatDoorIsS
import Derived.Test.YtjgapmocogjkmaaGreatDoorIsGP
import Derived.Test.YtjgapmocogjkmaaGreatDoorIsY
import Derived.Test.YtjgapmocogjkmaaGreatDoorIsAB
import Derived.Test.YtjgapmocogjkmaaGreatDoorIsZ
set_option linter.unusedSimpArgs false
set_option linter.unusedVariables false
namespace Go.PM
open Go Go.RowKit Go.Proofs
set_option maxRecDepth 100000
set_option maxHeartbeats 4000000

def mk29 (v0 : Ty.den (.prod .bool (.prod (.int .u8) (.prod (.prod (.int .i8) (.prod (.int .i8) (.int .i8))) (.prod (.prod (.int .i8) (.prod (.int .i8) (.int .i8))) (.prod (.int .i8) (.prod (.int .i8) (.int .i8)))))))) (t : Int) : Option (denK [.agg (.prod (.int .i64) (.prod (.list (.int .i64)) (.prod (.list (.int .i64)) (.list (.int .i64)))))]) :=
    bif v0.1 then
      bif eqI t 0 then some ((2, ([], [], [])), ())
      else bif eqI t 1 then some ((2, ([(Int.tmod (IntKind.wrap .i64 v0.2.2.1.1) 10)], [(Int.tmod (IntKind.wrap .i64 v0.2.2.2.1.1) 10)], [(Int.tmod (IntKind.wrap .i64 v0.2.2.2.2.1) 10)])), ())
      else bif eqI t 2 then some ((2, ([(Int.tmod (IntKind.wrap .i64 v0.2.2.1.1) 10), (Int.tmod (IntKind.wrap .i64 v0.2.2.1.2.1) 10)], [(Int.tmod (IntKind.wrap .i64 v0.2.2.2.1.1) 10), (Int.tmod (IntKind.wrap .i64 v0.2.2.2.1.2.1) 10)], [(Int.tmod (IntKind.wrap .i64 v0.2.2.2.2.1) 10), (Int.tmod (IntKind.wrap .i64 v0.2.2.2.2.2.1) 10)])), ())
      else bif eqI t 3 then some ((2, ([(Int.tmod (IntKind.wrap .i64 v0.2.2.1.1) 10), (Int.tmod (IntKind.wrap .i64 v0.2.2.1.2.1) 10), (Int.tmod (IntKind.wrap .i64 v0.2.2.1.2.2) 10)], [(Int.tmod (IntKind.wrap .i64 v0.2.2.2.1.1) 10), (Int.tmod (IntKind.wrap .i64 v0.2.2.2.1.2.1) 10), (Int.tmod (IntKind.wrap .i64 v0.2.2.2.1.2.2) 10)], [(Int.tmod (IntKind.wrap .i64 v0.2.2.2.2.1) 10), (Int.tmod (IntKind.wrap .i64 v0.2.2.2.2.2.1) 10), (Int.tmod (IntKind.wrap .i64 v0.2.2.2.2.2.2) 10)])), ())
      else none
    else
      bif eqI t 0 then some ((1, ([], [], [])), ())
      else bif eqI t 1 then some ((1, ([(Int.tmod (IntKind.wrap .i64 v0.2.2.1.1) 10)], [(Int.tmod (IntKind.wrap .i64 v0.2.2.2.1.1) 10)], [(Int.tmod (IntKind.wrap .i64 v0.2.2.2.2.1) 10)])), ())
      else bif eqI t 2 then some ((1, ([(Int.tmod (IntKind.wrap .i64 v0.2.2.1.1) 10), (Int.tmod (IntKind.wrap .i64 v0.2.2.1.2.1) 10)], [(Int.tmod (IntKind.wrap .i64 v0.2.2.2.1.1) 10), (Int.tmod (IntKind.wrap .i64 v0.2.2.2.1.2.1) 10)], [(Int.tmod (IntKind.wrap .i64 v0.2.2.2.2.1) 10), (Int.tmod (IntKind.wrap .i64 v0.2.2.2.2.2.1) 10)])), ())
      else bif eqI t 3 then some ((1, ([(Int.tmod (IntKind.wrap .i64 v0.2.2.1.1) 10), (Int.tmod (IntKind.wrap .i64 v0.2.2.1.2.1) 10), (Int.tmod (IntKind.wrap .i64 v0.2.2.1.2.2) 10)], [(Int.tmod (IntKind.wrap .i64 v0.2.2.2.1.1) 10), (Int.tmod (IntKind.wrap .i64 v0.2.2.2.1.2.1) 10), (Int.tmod (IntKind.wrap .i64 v0.2.2.2.1.2.2) 10)], [(Int.tmod (IntKind.wrap .i64 v0.2.2.2.2.1) 10), (Int.tmod (IntKind.wrap .i64 v0.2.2.2.2.2.1) 10), (Int.tmod (IntKind.wrap .i64 v0.2.2.2.2.2.2) 10)])), ())
      else none
def f29 (x : denK [.agg (.prod .bool (.prod (.int .u8) (.prod (.prod (.int .i8) (.prod (.int .i8) (.int .i8))) (.prod (.prod (.int .i8) (.prod (.int .i8) (.int .i8))) (.prod (.int .i8) (.prod (.int .i8) (.int .i8)))))))]) : Option (denK [.agg (.prod (.int .i64) (.prod (.list (.int .i64)) (.prod (.list (.int .i64)) (.list (.int .i64)))))]) := match x with
  | (v0, ()) => mk29 v0 (IntKind.wrap .i64 (Int.tmod v0.2.1 4))
noncomputable def c29 : Code := bodyOf Tryz.f29
abbrev E29 : Env := envOf []
theorem E29_ok : EnvOK Tryz.prog E29 := env_ok trivial
def hs29 (id : Nat) : Option (Nat × Nat) := bif Nat.beq id 4 then some (4, 4) else none
theorem body29 : ∀ x, bodyU Tryz.prog E29 Tryz.f29 (keepOf Tryz.f29) hs29 60 c29 [.agg (.prod .bool (.prod (.int .u8) (.prod (.prod (.int .i8) (.prod (.int .i8) (.int .i8))) (.prod (.prod (.int .i8) (.prod (.int .i8) (.int .i8))) (.prod (.int .i8) (.prod (.int .i8) (.int .i8)))))))] [.agg (.prod (.int .i64) (.prod (.list (.int .i64)) (.prod (.list (.int .i64)) (.list (.int .i64)))))] x = f29 x := by
  rintro ⟨⟨a, b, ⟨c, d, e⟩, ⟨f, g, h⟩, ⟨i, j, k⟩⟩, ⟨⟩⟩
  kernel_rfl
theorem fn29 : FnOK Tryz.prog 29 [.agg (.prod .bool (.prod (.int .u8) (.prod (.prod (.int .i8) (.prod (.int .i8) (.int .i8))) (.prod (.prod (.int .i8) (.prod (.int .i8) (.int .i8))) (.prod (.int .i8) (.prod (.int .i8) (.int .i8)))))))] [.agg (.prod (.int .i64) (.prod (.list (.int .i64)) (.prod (.list (.int .i64)) (.list (.int .i64)))))] f29 := by
  exact fun_okU progOK E29_ok Tryz.func29 (c := c29) (by kernel_rfl) body29
abbrev e29 : Ent := ⟨29, [.agg (.prod .bool (.prod (.int .u8) (.prod (.prod (.int .i8) (.prod (.int .i8) (.int .i8))) (.prod (.prod (.int .i8) (.prod (.int .i8) (.int .i8))) (.prod (.int .i8) (.prod (.int .i8) (.int .i8)))))))], [.agg (.prod (.int .i64) (.prod (.list (.int .i64)) (.prod (.list (.int .i64)) (.list (.int .i64)))))], f29⟩
theorem e29_ok : Ent.OK Tryz.prog e29 := fn29
end Go.PM

/- Chapter 46: functions by open runs of the plain machine (printed by a program). -/
set_option linter.unusedSimpArgs false
set_option linter.unusedVariables false
namespace Go.PM
open Go Go.RowKit Go.Proofs
set_option maxRecDepth 100000
set_option maxHeartbeats 4000000

/-! schisma/schismalaw46.IsomorphyComposes -/
def f9 (x : denK [.agg (.prod .bool (.prod (.int .u8) (.prod (.prod (.int .i8) (.prod (.int .i8) (.int .i8))) (.prod (.prod (.int .i8) (.prod (.int .i8) (.int .i8))) (.prod (.int .i8) (.prod (.int .i8) (.int .i8))))))), .int .u8, .int .u8]) : Option (denK [.bool]) := match x with
  | (v0, v1, v2, ()) =>
    askO (f12 (())) fun y1 =>
    bif y1.1 then
      askO (f29 ((v0.1, (v0.2.1, ((v0.2.2.1.1, (v0.2.2.1.2.1, v0.2.2.1.2.2)), ((v0.2.2.2.1.1, (v0.2.2.2.1.2.1, v0.2.2.2.1.2.2)), (v0.2.2.2.2.1, (v0.2.2.2.2.2.1, v0.2.2.2.2.2.2)))))), ())) fun y2 =>
      askO (f22 (y2.1.1, ())) fun y3 =>
      bif !(eqI y3.2.1 0) then
        some (false, ())
      else bif eqI (y3.1.length : Int) 0 then
        some (false, ())
      else bif eqI (y3.1.length : Int) 0 then none else bif idxOk ((IntKind.wrap .i64 v1).tmod (y3.1.length : Int)) y3.1.length then bif eqI (y3.1.length : Int) 0 then none else bif idxOk ((IntKind.wrap .i64 v2).tmod (y3.1.length : Int)) y3.1.length then askO (f23 (((y3.1.getD (((IntKind.wrap .i64 v1).tmod (y3.1.length : Int)).toNat) (0, (0, (0, 0)))).1, ((y3.1.getD (((IntKind.wrap .i64 v1).tmod (y3.1.length : Int)).toNat) (0, (0, (0, 0)))).2.1, ((y3.1.getD (((IntKind.wrap .i64 v1).tmod (y3.1.length : Int)).toNat) (0, (0, (0, 0)))).2.2.1, (y3.1.getD (((IntKind.wrap .i64 v1).tmod (y3.1.length : Int)).toNat) (0, (0, (0, 0)))).2.2.2))), ((y3.1.getD (((IntKind.wrap .i64 v2).tmod (y3.1.length : Int)).toNat) (0, (0, (0, 0)))).1, ((y3.1.getD (((IntKind.wrap .i64 v2).tmod (y3.1.length : Int)).toNat) (0, (0, (0, 0)))).2.1, ((y3.1.getD (((IntKind.wrap .i64 v2).tmod (y3.1.length : Int)).toNat) (0, (0, (0, 0)))).2.2.1, (y3.1.getD (((IntKind.wrap .i64 v2).tmod (y3.1.length : Int)).toNat) (0, (0, (0, 0)))).2.2.2))), ())) fun y4 =>
      askO (f15 ((y2.1.1, (y2.1.2.1, (y2.1.2.2.1, y2.1.2.2.2))), (y4.1.1, (y4.1.2.1, (y4.1.2.2.1, y4.1.2.2.2))), ())) fun y5 =>
      askO (f15 ((y2.1.1, (y2.1.2.1, (y2.1.2.2.1, y2.1.2.2.2))), ((y3.1.getD (((IntKind.wrap .i64 v1).tmod (y3.1.length : Int)).toNat) (0, (0, (0, 0)))).1, ((y3.1.getD (((IntKind.wrap .i64 v1).tmod (y3.1.length : Int)).toNat) (0, (0, (0, 0)))).2.1, ((y3.1.getD (((IntKind.wrap .i64 v1).tmod (y3.1.length : Int)).toNat) (0, (0, (0, 0)))).2.2.1, (y3.1.getD (((IntKind.wrap .i64 v1).tmod (y3.1.length : Int)).toNat) (0, (0, (0, 0)))).2.2.2))), ())) fun y6 =>
      askO (f15 ((y6.1.1, (y6.1.2.1, (y6.1.2.2.1, y6.1.2.2.2))), ((y3.1.getD (((IntKind.wrap .i64 v2).tmod (y3.1.length : Int)).toNat) (0, (0, (0, 0)))).1, ((y3.1.getD (((IntKind.wrap .i64 v2).tmod (y3.1.length : Int)).toNat) (0, (0, (0, 0)))).2.1, ((y3.1.getD (((IntKind.wrap .i64 v2).tmod (y3.1.length : Int)).toNat) (0, (0, (0, 0)))).2.2.1, (y3.1.getD (((IntKind.wrap .i64 v2).tmod (y3.1.length : Int)).toNat) (0, (0, (0, 0)))).2.2.2))), ())) fun y7 =>
      bif eqI y5.2.1 0 then
        bif eqI y6.2.1 0 then
          bif eqI y7.2.1 0 then
            askO (f19 ((y5.1.1, (y5.1.2.1, (y5.1.2.2.1, y5.1.2.2.2))), (y7.1.1, (y7.1.2.1, (y7.1.2.2.1, y7.1.2.2.2))), ())) fun y8 =>
            some (y8.1, ())
          else some (false, ())
        else some (false, ())
      else some (false, ()) else none else none
    else some (false, ())
noncomputable def c9 : Code := bodyOf Tryz.f9
abbrev E9 : Env := envOf [e12, e15, e19, e22, e23, e29]
theorem E9_ok : EnvOK Tryz.prog E9 := env_ok ⟨e12_ok, e15_ok, e19_ok, e22_ok, e23_ok, e29_ok, trivial⟩
def lt9 (id : Nat) : Option LSpec := none
theorem loops9 : loopsOf c9 = [] := by kernel_rfl
theorem body9 : ∀ x, bodyK Tryz.prog E9 Tryz.f9 (keepOf Tryz.f9) lt9 c9 [.agg (.prod .bool (.prod (.int .u8) (.prod (.prod (.int .i8) (.prod (.int .i8) (.int .i8))) (.prod (.prod (.int .i8) (.prod (.int .i8) (.int .i8))) (.prod (.int .i8) (.prod (.int .i8) (.int .i8))))))), .int .u8, .int .u8] [.bool] x = f9 x := by
  rintro ⟨v0, v1, v2, ⟨⟩⟩
  kernel_rfl
theorem fn9 : FnOK Tryz.prog 9 [.agg (.prod .bool (.prod (.int .u8) (.prod (.prod (.int .i8) (.prod (.int .i8) (.int .i8))) (.prod (.prod (.int .i8) (.prod (.int .i8) (.int .i8))) (.prod (.int .i8) (.prod (.int .i8) (.int .i8))))))), .int .u8, .int .u8] [.bool] f9 := by
  exact fun_ok progOK E9_ok Tryz.func9 (c := c9) (by kernel_rfl) (keep := keepOf Tryz.f9) (lt := lt9) (loops_ok loops9 trivial) body9
abbrev e9 : Ent := ⟨9, [.agg (.prod .bool (.prod (.int .u8) (.prod (.prod (.int .i8) (.prod (.int .i8) (.int .i8))) (.prod (.prod (.int .i8) (.prod (.int .i8) (.int .i8))) (.prod (.int .i8) (.prod (.int .i8) (.int .i8))))))), .int .u8, .int .u8], [.bool], f9⟩
theorem e9_ok : Ent.OK Tryz.prog e9 := fn9
end Go.PM

/- Chapter 46, plain law: Make's layouts are small; turning by a composed symmetry. -/
set_option linter.unusedSimpArgs false
set_option linter.unusedVariables false
namespace Go.PM
open Go Go.RowKit Go.Proofs
set_option maxRecDepth 100000

/-- Elements of at most B. -/
def Sm (B : Int) (r : List Int) : Prop := ∀ v ∈ r, -B ≤ v ∧ v ≤ B
/-- A right layout with elements of at most B, and at most three columns. -/
structure GoodL (B : Int) (l : Lay) : Prop where
  kind : l.1 = 1 ∨ l.1 = 2
  len : l.2.1.length ≤ 3
  right : l.2.2.1.length = l.2.1.length
  up : l.2.2.2.length = l.2.1.length
  o : Sm B l.2.1
  r : Sm B l.2.2.1
  u : Sm B l.2.2.2
theorem Sm.get {B : Int} {r : List Int} (h : Sm B r) {i : Nat} (hi : i < r.length) : -B ≤ r.getD i 0 ∧ r.getD i 0 ≤ B := h _ (getD_mem hi)
theorem tmod_ten (a : Int) : -9 ≤ a.tmod 10 ∧ a.tmod 10 ≤ 9 := by
  cases a with
  | ofNat m =>
    have h : (Int.ofNat m).tmod 10 = ((m % 10 : Nat) : Int) := rfl
    rw [h]; omega
  | negSucc m =>
    have h : (Int.negSucc m).tmod 10 = -(((m + 1) % 10 : Nat) : Int) := rfl
    rw [h]; omega
theorem rank_cases {r : Int} (h : 0 ≤ r ∧ r ≤ 255) : IntKind.wrap .i64 (Int.tmod r 4) = 0 ∨ IntKind.wrap .i64 (Int.tmod r 4) = 1 ∨ IntKind.wrap .i64 (Int.tmod r 4) = 2 ∨ IntKind.wrap .i64 (Int.tmod r 4) = 3 := by
  obtain ⟨m, rfl⟩ : ∃ m : Nat, r = m := ⟨r.toNat, by omega⟩
  have h1 : Int.tmod (m : Int) 4 = ((m % 4 : Nat) : Int) := rfl
  rw [h1, IntKind.wrap_i64]
  omega
theorem sm_nil (B : Int) : Sm B [] := fun v hv => by cases hv
theorem sm_cons {B : Int} {x : Int} {l : List Int} (h : -B ≤ x ∧ x ≤ B) (hl : Sm B l) : Sm B (x :: l) := fun v hv => by
  rcases List.mem_cons.1 hv with rfl | hv
  · exact h
  · exact hl v hv
theorem mk29_good (d : Ty.den (.prod .bool (.prod (.int .u8) (.prod (.prod (.int .i8) (.prod (.int .i8) (.int .i8))) (.prod (.prod (.int .i8) (.prod (.int .i8) (.int .i8))) (.prod (.int .i8) (.prod (.int .i8) (.int .i8)))))))) {t : Int} (ht : t = 0 ∨ t = 1 ∨ t = 2 ∨ t = 3) : ∃ l : Lay, mk29 d t = some (l, ()) ∧ GoodL 9 l := by
  obtain ⟨x, b, ⟨c, d, e⟩, ⟨f, g, h⟩, ⟨i, j, k⟩⟩ := d
  cases x <;> rcases ht with rfl | rfl | rfl | rfl <;> refine ⟨_, rfl, ?_⟩ <;> constructor <;> first
    | exact .inl rfl
    | exact .inr rfl
    | exact sm_nil 9
    | exact sm_cons (tmod_ten _) (sm_nil 9)
    | exact sm_cons (tmod_ten _) (sm_cons (tmod_ten _) (sm_nil 9))
    | exact sm_cons (tmod_ten _) (sm_cons (tmod_ten _) (sm_cons (tmod_ten _) (sm_nil 9)))
    | (show ([] : List Int).length ≤ 3; decide)
    | rfl
    | exact Nat.le_of_ble_eq_true rfl
theorem f29_good (d : Ty.den (.prod .bool (.prod (.int .u8) (.prod (.prod (.int .i8) (.prod (.int .i8) (.int .i8))) (.prod (.prod (.int .i8) (.prod (.int .i8) (.int .i8))) (.prod (.int .i8) (.prod (.int .i8) (.int .i8)))))))) (hr : 0 ≤ d.2.1 ∧ d.2.1 ≤ 255) : ∃ l : Lay, f29 (d, ()) = some (l, ()) ∧ GoodL 9 l :=
  mk29_good d (rank_cases hr)

theorem rc_small {r : List Int} {B : Int} (h : Sm B r) (hB : B ≤ 1000000000) (hl : r.length ≤ 64) : rc r = 0 := by
  unfold rc
  rw [if_neg (by omega), if_pos]
  intro i hi
  have := h.get hi
  unfold okE
  omega
theorem ce_zero {B : Int} {l : Lay} (h : GoodL B l) (hB : B ≤ 1000000000) : ce l = 0 := by
  have h1 := h.len
  have h2 := h.right
  have h3 := h.up
  have e1 : rc l.2.1 = 0 := rc_small h.o hB (by omega)
  have e2 : rc l.2.2.1 = 0 := rc_small h.r hB (by omega)
  have e3 : rc l.2.2.2 = 0 := rc_small h.u hB (by omega)
  have hk := h.kind
  unfold ce
  simp only [e1, e2, e3, h2, h3]
  rcases hk with hk | hk <;> simp [hk]
/-- Coefficients of symmetries. -/
def Unit4 (g : S4) : Prop := (-1 ≤ g.1 ∧ g.1 ≤ 1) ∧ (-1 ≤ g.2.1 ∧ g.2.1 ≤ 1) ∧ (-1 ≤ g.2.2.1 ∧ g.2.2.1 ≤ 1) ∧ (-1 ≤ g.2.2.2 ∧ g.2.2.2 ≤ 1)
instance (g : S4) : Decidable (Unit4 g) := by unfold Unit4; infer_instance
theorem unit_of {k : Int} {g : S4} (h : g ∈ turnsOf k) : Unit4 g := by
  have h4 : ∀ g ∈ turns4, Unit4 g := by decide
  have h6 : ∀ g ∈ turns6, Unit4 g := by decide
  unfold turnsOf at h
  split at h
  · exact h6 g h
  · exact h4 g h
theorem unit_mul {a x B : Int} (ha : -1 ≤ a ∧ a ≤ 1) (hx : -B ≤ x ∧ x ≤ B) : -B ≤ a * x ∧ a * x ≤ B := by
  rcases (by omega : a = -1 ∨ a = 0 ∨ a = 1) with rfl | rfl | rfl <;> omega
theorem mxE_unit {a b B : Int} {r s : List Int} {i : Nat} (ha : -1 ≤ a ∧ a ≤ 1) (hb : -1 ≤ b ∧ b ≤ 1) (hr : -B ≤ r.getD i 0 ∧ r.getD i 0 ≤ B) (hs : -B ≤ s.getD i 0 ∧ s.getD i 0 ≤ B) (hB : B ≤ 1000000000) :
    mxE a b r s i = a * r.getD i 0 + b * s.getD i 0 ∧ -(2 * B) ≤ mxE a b r s i ∧ mxE a b r s i ≤ 2 * B := by
  have h1 := unit_mul ha hr
  have h2 := unit_mul hb hs
  have : mxE a b r s i = a * r.getD i 0 + b * s.getD i 0 := by
    unfold mxE
    rw [wrap64 (x := a * r.getD i 0) (by omega) (by omega), wrap64 (x := b * s.getD i 0) (by omega) (by omega), wrap64 (by omega) (by omega)]
  rw [this]
  omega
theorem mx_get {a b : Int} {r s : List Int} {i : Nat} (h : i < r.length) : (mx a b r s).getD i 0 = mxE a b r s i := by
  unfold mx
  simp [List.getD_eq_getElem?_getD, h]
theorem mx_small {a b B : Int} {r s : List Int} (ha : -1 ≤ a ∧ a ≤ 1) (hb : -1 ≤ b ∧ b ≤ 1) (hr : Sm B r) (hs : Sm B s) (hl : s.length = r.length) (hB : B ≤ 1000000000) : Sm (2 * B) (mx a b r s) := by
  intro v hv
  unfold mx at hv
  obtain ⟨i, hi, rfl⟩ := List.mem_map.1 hv
  have hi := List.mem_range.1 hi
  exact (mxE_unit ha hb (hr.get hi) (hs.get (by omega)) hB).2
theorem trn_good {B : Int} {l : Lay} {g : S4} (h : GoodL B l) (hg : Unit4 g) (hB0 : 0 ≤ B) (hB : B ≤ 1000000000) : GoodL (2 * B) (trn l g) := by
  have h1 := h.right
  have h2 := h.up
  refine ⟨h.kind, h.len, by show (mx _ _ _ _).length = _; rw [mx_length]; exact h1, by show (mx _ _ _ _).length = _; rw [mx_length]; exact h1, ?_, ?_, ?_⟩
  · intro v hv
    have := h.o v hv
    omega
  · exact mx_small hg.1 hg.2.2.1 h.r h.u (by omega) hB
  · exact mx_small hg.2.1 hg.2.2.2 h.r h.u (by omega) hB
/-- Turning a small layout. -/
theorem f15_small {B : Int} {l : Lay} {g : S4} (h : GoodL B l) (hg : g ∈ turnsOf l.1) (hB0 : 0 ≤ B) (hB : B ≤ 500000000) : f15 (l, g, ()) = some (trn l g, 0, ()) := by
  have h0 := h.len
  have h1 := h.right
  have h2 := h.up
  have ht := trn_good h (unit_of hg) hB0 (by omega)
  have e1 : rc (trn l g).2.1 = 0 := rc_small ht.o (by omega) (by have := ht.len; omega)
  have e2 : rc (trn l g).2.2.1 = 0 := rc_small ht.r (by omega) (by have := ht.len; have := ht.right; omega)
  have e3 : rc (trn l g).2.2.2 = 0 := rc_small ht.u (by omega) (by have := ht.len; have := ht.up; omega)
  rw [f15_eq g (by omega) (by omega) (by omega) (ce_zero h (by omega)), if_pos hg, if_pos ⟨e1, e2, e3⟩]
def cmp4 (g h : S4) : S4 := (g.1 * h.1 + g.2.1 * h.2.2.1, g.1 * h.2.1 + g.2.1 * h.2.2.2, g.2.2.1 * h.1 + g.2.2.2 * h.2.2.1, g.2.2.1 * h.2.1 + g.2.2.2 * h.2.2.2)
def chk23 (L : List S4) : Bool := L.all fun g => L.all fun h => match f23 (g, h, ()) with
  | some (c, ()) => eq4 c (cmp4 g h) && L.any fun x => eq4 x c
  | none => false
theorem chk23_4 : chk23 turns4 = true := by kernel_rfl
theorem chk23_6 : chk23 turns6 = true := by kernel_rfl
theorem f23_eq {k : Int} {g h : S4} (hg : g ∈ turnsOf k) (hh : h ∈ turnsOf k) : f23 (g, h, ()) = some (cmp4 g h, ()) ∧ cmp4 g h ∈ turnsOf k := by
  have hc : chk23 (turnsOf k) = true := by
    unfold turnsOf
    split
    · exact chk23_6
    · exact chk23_4
  have h1 := List.all_eq_true.1 (List.all_eq_true.1 hc g hg) h hh
  split at h1
  · rename_i c hc
    simp only [Bool.and_eq_true, List.any_eq_true] at h1
    obtain ⟨h2, x, h3, h4⟩ := h1
    rw [eq4_eq, decide_eq_true_eq] at h2 h4
    rw [hc, h2]
    exact ⟨rfl, by rw [← h2, ← h4]; exact h3⟩
  · cases h1
theorem mx_mx {a b a1 b1 a2 b2 B : Int} {r s : List Int} (ha : -1 ≤ a ∧ a ≤ 1) (hb : -1 ≤ b ∧ b ≤ 1) (ha1 : -1 ≤ a1 ∧ a1 ≤ 1) (hb1 : -1 ≤ b1 ∧ b1 ≤ 1) (ha2 : -1 ≤ a2 ∧ a2 ≤ 1) (hb2 : -1 ≤ b2 ∧ b2 ≤ 1)
    (hc : -1 ≤ a1 * a + a2 * b ∧ a1 * a + a2 * b ≤ 1) (hd : -1 ≤ b1 * a + b2 * b ∧ b1 * a + b2 * b ≤ 1) (hr : Sm B r) (hs : Sm B s) (hl : s.length = r.length) (hB0 : 0 ≤ B) (hB : B ≤ 100000000) :
    mx a b (mx a1 b1 r s) (mx a2 b2 r s) = mx (a1 * a + a2 * b) (b1 * a + b2 * b) r s := by
  show List.map _ (List.range (mx a1 b1 r s).length) = List.map _ (List.range r.length)
  rw [mx_length]
  refine List.map_congr_left fun i hi => ?_
  have hi := List.mem_range.1 hi
  have h1 := hr.get hi
  have h2 := hs.get (i := i) (by omega)
  obtain ⟨e1, e1'⟩ := mxE_unit ha1 hb1 h1 h2 (by omega)
  obtain ⟨e2, e2'⟩ := mxE_unit ha2 hb2 h1 h2 (by omega)
  obtain ⟨e3, -⟩ := mxE_unit hc hd h1 h2 (by omega)
  obtain ⟨e4, -⟩ := mxE_unit (r := mx a1 b1 r s) (s := mx a2 b2 r s) (i := i) (B := 2 * B) ha hb (by rw [mx_get hi]; omega) (by rw [mx_get hi]; omega) (by omega)
  rw [e4, e3, mx_get hi, mx_get hi, e1, e2]
  generalize r.getD i 0 = x
  generalize s.getD i 0 = y
  simp only [Int.mul_add, Int.add_mul]
  have q1 : a * (a1 * x) = a1 * a * x := by rw [← Int.mul_assoc, Int.mul_comm a a1]
  have q2 : a * (b1 * y) = b1 * a * y := by rw [← Int.mul_assoc, Int.mul_comm a b1]
  have q3 : b * (a2 * x) = a2 * b * x := by rw [← Int.mul_assoc, Int.mul_comm b a2]
  have q4 : b * (b2 * y) = b2 * b * y := by rw [← Int.mul_assoc, Int.mul_comm b b2]
  omega
theorem trn_trn {B : Int} {l : Lay} {g h : S4} (hl : GoodL B l) (hg : g ∈ turnsOf l.1) (hh : h ∈ turnsOf l.1) (hB0 : 0 ≤ B) (hB : B ≤ 100000000) : trn (trn l g) h = trn l (cmp4 g h) := by
  have ug := unit_of hg
  have uh := unit_of hh
  have uc := unit_of (f23_eq hg hh).2
  have h1 := hl.right
  have h2 := hl.up
  unfold trn
  simp only
  rw [mx_mx uh.1 uh.2.2.1 ug.1 ug.2.2.1 ug.2.1 ug.2.2.2 uc.1 uc.2.2.1 hl.r hl.u (by omega) hB0 hB, mx_mx uh.2.1 uh.2.2.2 ug.1 ug.2.2.1 ug.2.1 ug.2.2.2 uc.2.1 uc.2.2.2 hl.r hl.u (by omega) hB0 hB]
  rfl
theorem f22_1 : f22 (1, ()) = some (turns4, 0, ()) := by kernel_rfl
theorem f22_2 : f22 (2, ()) = some (turns6, 0, ()) := by kernel_rfl
theorem f22_eq {k : Int} (h : k = 1 ∨ k = 2) : f22 (k, ()) = some (turnsOf k, 0, ()) := by
  rcases h with rfl | rfl
  · exact f22_1
  · exact f22_2
theorem turns_pos {k : Int} : 0 < (turnsOf k).length := by unfold turnsOf; split <;> decide
/-- The law behind its symmetries. -/
def tl9 (l : Lay) (g h : S4) : Option (denK [.bool]) :=
  askO (f23 (g, h, ())) fun y4 =>
  askO (f15 (l, y4.1, ())) fun y5 =>
  askO (f15 (l, g, ())) fun y6 =>
  askO (f15 (y6.1, h, ())) fun y7 =>
  bif eqI y5.2.1 0 then
    bif eqI y6.2.1 0 then
      bif eqI y7.2.1 0 then
        askO (f19 (y5.1, y7.1, ())) fun y8 =>
        some (y8.1, ())
      else some (false, ())
    else some (false, ())
  else some (false, ())
theorem tl9_true {l : Lay} {g h : S4} (hl : GoodL 9 l) (hg : g ∈ turnsOf l.1) (hh : h ∈ turnsOf l.1) : tl9 l g h = some (true, ()) := by
  obtain ⟨e1, e2⟩ := f23_eq hg hh
  have ht := trn_good hl (unit_of hg) (by decide) (by decide)
  unfold tl9
  rw [e1, askO_s, f15_small hl e2 (by decide) (by decide), askO_s, f15_small hl hg (by decide) (by decide), askO_s]
  show askO (f15 (trn l g, h, ())) _ = _
  rw [f15_small ht hh (by decide) (by decide), askO_s]
  show (askO (f19 (trn l (cmp4 g h), trn (trn l g) h, ())) _) = _
  have hs : ShL l := ⟨by have := hl.len; omega, by have := hl.len; have := hl.right; omega, by have := hl.len; have := hl.up; omega⟩
  rw [f19_eq _ (trn_sh _ hs), askO_s, trn_trn hl hg hh (by decide) (by decide), decide_eq_true rfl]
theorem f9_true (d : Ty.den (.prod .bool (.prod (.int .u8) (.prod (.prod (.int .i8) (.prod (.int .i8) (.int .i8))) (.prod (.prod (.int .i8) (.prod (.int .i8) (.int .i8))) (.prod (.int .i8) (.prod (.int .i8) (.int .i8)))))))) {x y : Int}
    (hr : 0 ≤ d.2.1 ∧ d.2.1 ≤ 255) (hx : 0 ≤ x ∧ x ≤ 255) (hy : 0 ≤ y ∧ y ≤ 255) : f9 (d, x, y, ()) = some (true, ()) := by
  have h12 : f12 () = some (true, ()) := rfl
  obtain ⟨l, hm, hl⟩ := f29_good d hr
  unfold f9
  show (askO (f12 ()) _) = _
  rw [h12, askO_s]
  show (askO (f29 (d, ())) _) = _
  rw [hm, askO_s]
  show (askO (f22 (l.1, ())) _) = _
  rw [f22_eq hl.kind, askO_s]
  have hn := turns_pos (k := l.1)
  have m1 := mod_nat hx hn
  have m2 := mod_nat hy hn
  have l1 := Nat.mod_lt x.toNat hn
  have l2 := Nat.mod_lt y.toNat hn
  have g1 : (turnsOf l.1).getD (x.toNat % (turnsOf l.1).length) (0, (0, (0, 0))) ∈ turnsOf l.1 := by
    rw [List.getD_eq_getElem?_getD, List.getElem?_eq_getElem l1]; exact List.getElem_mem l1
  have g2 : (turnsOf l.1).getD (y.toNat % (turnsOf l.1).length) (0, (0, (0, 0))) ∈ turnsOf l.1 := by
    rw [List.getD_eq_getElem?_getD, List.getElem?_eq_getElem l2]; exact List.getElem_mem l2
  have hz : eqI ((turnsOf l.1).length : Int) 0 = false := by rw [eqI_eq]; exact decide_eq_false (by omega)
  have i1 : idxOk ((x.toNat % (turnsOf l.1).length : Nat) : Int) (turnsOf l.1).length = true := by
    show Nat.blt _ _ = true
    rw [nblt_eq]; exact decide_eq_true l1
  have i2 : idxOk ((y.toNat % (turnsOf l.1).length : Nat) : Int) (turnsOf l.1).length = true := by
    show Nat.blt _ _ = true
    rw [nblt_eq]; exact decide_eq_true l2
  have key := tl9_true hl g1 g2
  rw [← Int.toNat_natCast (x.toNat % (turnsOf l.1).length), ← m1, ← Int.toNat_natCast (y.toNat % (turnsOf l.1).length), ← m2] at key
  rw [← m1] at i1
  rw [← m2] at i2
  show (bif eqI ((turnsOf l.1).length : Int) 0 then _ else bif eqI ((turnsOf l.1).length : Int) 0 then _ else bif idxOk _ _ then bif eqI ((turnsOf l.1).length : Int) 0 then _ else bif idxOk _ _ then _ else _ else _) = _
  rw [hz, cond_false, cond_false, cond_false, i1, cond_true, i2, cond_true]
  exact key
end Go.PM
