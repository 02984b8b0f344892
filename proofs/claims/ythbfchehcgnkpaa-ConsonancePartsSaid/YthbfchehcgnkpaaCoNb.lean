/- Chapter 40, ConsonanceParts: its function (printed by a program) and its plain law. -/
import Derived.Test.YthbfchehcgnkpaaCoNa
import Derived.Test.YthbfchehcgnkpaaCoB
set_option linter.unusedSimpArgs false
set_option linter.unusedVariables false
namespace Go.PM
open Go Go.RowKit Go.Proofs
set_option maxRecDepth 100000
set_option maxHeartbeats 4000000

/-! schisma/schismalaw40.ConsonanceParts -/
abbrev sh8_0 : List (Nat × Kd) := [(3, .int .i64), (6, .list (.list (.list (.int .i64)))), (8, .list (.list (.list (.int .i64)))), (10, .int .i64), (11, .int .i64), (13, .list (.list (.int .i64))), (14, .int .i64), (15, .bool), (16, .int .i64)]
abbrev ex8_0 : List (Ex × List (Nat × Kd)) := [(.exit 4, [(3, .int .i64), (6, .list (.list (.list (.int .i64)))), (8, .list (.list (.list (.int .i64)))), (10, .int .i64), (11, .int .i64), (14, .int .i64), (15, .bool)])]
def step8_0 (x : Shape.den sh8_0) : Option (Shape.den sh8_0 ⊕ exDen ex8_0) := match x with
  | (v3, v6, v8, v10, v11, v13, v14, v15, v16, ()) =>
    bif ltI v16 (v8.length : Int) then
      bif v15 then
        some (.inl (v3, v6, v8, v10, v11, v13, v14, true, (wrapF .i64 (v16 + 1)), ()))
      else bif idxOk v16 v8.length then askO (f14 ((v8.getD v16.toNat []), v13, ())) fun y7 =>
      some (.inl (v3, v6, v8, v10, v11, v13, v14, y7.1, (wrapF .i64 (v16 + 1)), ())) else none
    else some (.inr ((v3, v6, v8, v10, v11, v14, v15, ())))
def loop8_0 (x : Shape.den sh8_0) : Option (exDen ex8_0) := loopN step8_0 (2 ^ 64) x
abbrev sh8_1 : List (Nat × Kd) := [(3, .int .i64), (6, .list (.list (.list (.int .i64)))), (8, .list (.list (.list (.int .i64)))), (10, .int .i64), (11, .int .i64)]
abbrev ex8_1 : List (Ex × List (Nat × Kd)) := [(.ret, [(2, .bool)]), (.exit 2, [(3, .int .i64), (6, .list (.list (.list (.int .i64)))), (8, .list (.list (.list (.int .i64)))), (10, .int .i64)])]
def step8_1 (x : Shape.den sh8_1) : Option (Shape.den sh8_1 ⊕ exDen ex8_1) := match x with
  | (v3, v6, v8, v10, v11, ()) =>
    bif idxOk v10 v6.length then bif ltI v11 ((v6.getD v10.toNat []).length : Int) then
      bif idxOk v10 v6.length then bif !(ltI v11 0) then bif Nat.ble 0 v11.toNat then bif Nat.ble v11.toNat (v6.getD v10.toNat []).length then bif Nat.ble (((v6.getD v10.toNat []).drop 0).take (v11.toNat - 0)).length 1048576 then bif idxOk v10 v6.length then bif !(ltI (wrapF .i64 (v11 + 1)) 0) then bif Nat.ble ((wrapF .i64 (v11 + 1)).toNat) ((v6.getD v10.toNat []).length) then bif Nat.ble ((v6.getD v10.toNat []).length) (v6.getD v10.toNat []).length then bif Nat.ble (((v6.getD v10.toNat []).drop ((wrapF .i64 (v11 + 1)).toNat)).take ((v6.getD v10.toNat []).length - (wrapF .i64 (v11 + 1)).toNat)).length 1048576 then bif Nat.ble (((v6.getD v10.toNat []).drop 0).take (v11.toNat - 0)).length 1048576 then askO (f25 (v3, ((((v6.getD v10.toNat []).drop 0).take (v11.toNat - 0)) ++ (((v6.getD v10.toNat []).drop ((wrapF .i64 (v11 + 1)).toNat)).take ((v6.getD v10.toNat []).length - (wrapF .i64 (v11 + 1)).toNat))), ())) fun y9 =>
      askO (loop8_0 (v3, v6, v8, v10, v11, y9.1, y9.2.1, false, 0, ())) fun z10 =>
      bif !(eqI z10.2.2.2.2.2.1 0) then
        some (.inr (.inl (false, ())))
      else bif z10.2.2.2.2.2.2.1 then
        some (.inl (z10.1, z10.2.1, z10.2.2.1, z10.2.2.2.1, (wrapF .i64 (z10.2.2.2.2.1 + 1)), ()))
      else some (.inr (.inl (false, ()))) else none else none else none else none else none else none else none else none else none else none else none
    else some (.inr (.inr ((v3, v6, v8, v10, ())))) else none
def loop8_1 (x : Shape.den sh8_1) : Option (exDen ex8_1) := loopN step8_1 (2 ^ 64) x
abbrev sh8_2 : List (Nat × Kd) := [(3, .int .i64), (6, .list (.list (.list (.int .i64)))), (8, .list (.list (.list (.int .i64)))), (10, .int .i64)]
abbrev ex8_2 : List (Ex × List (Nat × Kd)) := [(.ret, [(2, .bool)]), (.exit 0, [])]
def step8_2 (x : Shape.den sh8_2) : Option (Shape.den sh8_2 ⊕ exDen ex8_2) := match x with
  | (v3, v6, v8, v10, ()) =>
    bif ltI v10 (v6.length : Int) then
      askO (loop8_1 (v3, v6, v8, v10, 0, ())) fun z14 =>
      onSum z14 (fun a15 => some (.inr (.inl (a15.1, ())))) fun b16 =>
      some (.inl (b16.1, b16.2.1, b16.2.2.1, (wrapF .i64 (b16.2.2.2.1 + 1)), ()))
    else some (.inr (.inr ((()))))
def loop8_2 (x : Shape.den sh8_2) : Option (exDen ex8_2) := loopN step8_2 (2 ^ 64) x
def f8 (x : denK [.agg (.prod (.int .u8) (.list (.prod (.int .i8) (.prod (.int .i8) (.int .i8)))))]) : Option (denK [.bool]) := match x with
  | (v0, ()) =>
    askO (f16 ((v0.1, v0.2), ())) fun y1 =>
    askO (f10 (())) fun y2 =>
    bif y2.1 then
      bif y1.2.2.1 then
        askO (f17 (y1.1, y1.2.1, 3, ())) fun y3 =>
        askO (f17 (y1.1, y1.2.1, 2, ())) fun y4 =>
        bif !(eqI y3.2.1 0) then
          some (false, ())
        else bif !(eqI y4.2.1 0) then
          some (false, ())
        else askO (loop8_2 (y1.1, y3.1, y4.1, 0, ())) fun z17 =>
        onSum z17 (fun a18 => some (a18.1, ())) fun b19 =>
        some (true, ())
      else askO (f10 (())) fun y20 =>
      some (y20.1, ())
    else askO (f10 (())) fun y21 =>
    some (y21.1, ())
noncomputable def c8 : Code := bodyOf Try.f8
abbrev E8 : Env := envOf [e10, e14, e16, e17, e25]
theorem E8_ok : EnvOK Try.prog E8 := env_ok ⟨e10_ok, e14_ok, e16_ok, e17_ok, e25_ok, trivial⟩
noncomputable def a8_2 : Code := loopAt c8 0
noncomputable def a8_1 : Code := loopAt a8_2 0
noncomputable def a8_0 : Code := loopAt a8_1 0
def lt8 (id : Nat) : Option LSpec := bif Nat.beq id 19 then some ⟨sh8_0, ex8_0, loop8_0⟩ else bif Nat.beq id 12 then some ⟨sh8_1, ex8_1, loop8_1⟩ else bif Nat.beq id 9 then some ⟨sh8_2, ex8_2, loop8_2⟩ else none
theorem round8_0 : ∀ x, roundK Try.prog E8 106 (keepOf Try.f8) lt8 a8_0 sh8_0 ex8_0 x = step8_0 x := by
  rintro ⟨v3, v6, v8, v10, v11, v13, v14, v15, v16, ⟨⟩⟩
  kernel_rfl
theorem in8_0 : loopsOf a8_0 = [] := by kernel_rfl
theorem first8_0 : firstRegion a8_0 = 19 := by kernel_rfl
theorem spec8_0 : SpecOK Try.prog 106 a8_0 ⟨sh8_0, ex8_0, loop8_0⟩ := by
  exact loop_ok E8_ok.callee progOK.mixed _ (loops_ok in8_0 trivial) round8_0
theorem round8_1 : ∀ x, roundK Try.prog E8 106 (keepOf Try.f8) lt8 a8_1 sh8_1 ex8_1 x = step8_1 x := by
  rintro ⟨v3, v6, v8, v10, v11, ⟨⟩⟩
  kernel_rfl
theorem in8_1 : loopsOf a8_1 = [a8_0] := by kernel_rfl
theorem first8_1 : firstRegion a8_1 = 12 := by kernel_rfl
theorem spec8_1 : SpecOK Try.prog 106 a8_1 ⟨sh8_1, ex8_1, loop8_1⟩ := by
  exact loop_ok E8_ok.callee progOK.mixed _ (loops_ok in8_1 ⟨spec_of first8_0 rfl spec8_0, trivial⟩) round8_1
theorem round8_2 : ∀ x, roundK Try.prog E8 106 (keepOf Try.f8) lt8 a8_2 sh8_2 ex8_2 x = step8_2 x := by
  rintro ⟨v3, v6, v8, v10, ⟨⟩⟩
  kernel_rfl
theorem in8_2 : loopsOf a8_2 = [a8_1] := by kernel_rfl
theorem first8_2 : firstRegion a8_2 = 9 := by kernel_rfl
theorem spec8_2 : SpecOK Try.prog 106 a8_2 ⟨sh8_2, ex8_2, loop8_2⟩ := by
  exact loop_ok E8_ok.callee progOK.mixed _ (loops_ok in8_2 ⟨spec_of first8_1 rfl spec8_1, trivial⟩) round8_2
theorem loops8 : loopsOf c8 = [a8_2] := by kernel_rfl
theorem body8 : ∀ x, bodyK Try.prog E8 Try.f8 (keepOf Try.f8) lt8 c8 [.agg (.prod (.int .u8) (.list (.prod (.int .i8) (.prod (.int .i8) (.int .i8)))))] [.bool] x = f8 x := by
  rintro ⟨v0, ⟨⟩⟩
  kernel_rfl
theorem fn8 : FnOK Try.prog 8 [.agg (.prod (.int .u8) (.list (.prod (.int .i8) (.prod (.int .i8) (.int .i8)))))] [.bool] f8 := by
  exact fun_ok progOK E8_ok Try.func8 (c := c8) (by kernel_rfl) (keep := keepOf Try.f8) (lt := lt8) (loops_ok loops8 ⟨spec_of first8_2 rfl spec8_2, trivial⟩) body8
abbrev e8 : Ent := ⟨8, [.agg (.prod (.int .u8) (.list (.prod (.int .i8) (.prod (.int .i8) (.int .i8)))))], [.bool], f8⟩
theorem e8_ok : Ent.OK Try.prog e8 := fn8
set_option maxHeartbeats 400000
/-! plain law -/
theorem any_takeG {α : Type} (d : α) (p : α → Bool) {l : List α} {i : Nat} (h : i < l.length) : (l.take (i + 1)).any p = ((l.take i).any p || p (l.getD i d)) := by
  rw [List.take_add_one, List.any_append, List.getElem?_eq_getElem h, show l.getD i d = l[i] by rw [List.getD_eq_getElem?_getD, List.getElem?_eq_getElem h]; rfl]
  simp
theorem fitB_iff {cl notes : List (List Int)} {x : List Int} : fitB cl notes x = true ↔ ∀ i, i < notes.length → minusL x (notes.getD i []) ∈ cl := by
  unfold fitB
  cases hf : (List.range notes.length).find? fun i => decide (¬ minusL x (notes.getD i []) ∈ cl) with
  | none =>
    refine ⟨fun _ i hi => ?_, fun _ => rfl⟩
    have := List.find?_eq_none.1 hf i (List.mem_range.2 hi)
    simpa using this
  | some j =>
    refine ⟨fun h => (by cases h), fun h => ?_⟩
    have h1 := List.find?_some hf
    have h2 := List.mem_range.1 (List.mem_of_find?_eq_some hf)
    simp only [decide_eq_true_eq] at h1
    exact absurd (h j h2) h1
theorem rc_rep (n : Nat) (h : n ≤ 64) : rc (List.replicate n 0) = 0 := by
  unfold rc
  rw [List.length_replicate, if_neg (by omega), if_pos]
  intro i hi
  rw [List.getD_eq_getElem?_getD, List.getElem?_replicate_of_lt hi]
  unfold okE
  exact ⟨by decide, by decide⟩
theorem rc_neg {r : List Int} (h : rc r = 0) : rc (neg r) = 0 := by
  obtain ⟨h1, h2⟩ := rc_ok h
  unfold rc
  rw [neg_length, if_neg (by omega), if_pos]
  intro i hi
  have e : (neg r).getD i 0 = wrapF .i64 (0 - r.getD i 0) := by
    unfold neg minusL
    rw [List.getD_eq_getElem?_getD, List.getElem?_map, List.length_replicate, List.getElem?_range hi, Option.map_some]
    show wrapF .i64 ((List.replicate r.length (0 : Int)).getD i 0 - r.getD i 0) = _
    have h0 : (List.replicate r.length (0 : Int)).getD i 0 = 0 := by rw [List.getD_eq_getElem?_getD, List.getElem?_replicate_of_lt hi]; rfl
    rw [h0]
  have hv := h2 (r.getD i 0) (getD_mem hi)
  unfold okE at hv
  rw [e, wrap64 (by omega) (by omega)]
  unfold okE
  omega
section
variable {cl : List (List Int)} {n : Nat}
/-- Two rows, normalized, are a chord of the list. -/
theorem two_norm (hc : Cl n cl) (hr : ∀ y ∈ cl, rc y = 0) {p q : List Int} (hp : rc p = 0 ∧ p.length = n) (hq : rc q = 0 ∧ q.length = n) (hpq : cmpL p q < 0) (hm : minusL q p ∈ cl) :
    errN (n : Int) [p, q] = 0 ∧ due (insF [p, q]) ∈ iterL cl 1 (c0 n) := by
  have hhigh := hc.high
  have hSI : SI [p, q] := by simp [SI, hpq]
  have hF := insF_eq hSI
  have hz : minusL p p = List.replicate n 0 := by rw [minus_self, hp.2]
  have hdue : due [p, q] = [List.replicate n 0, minusL q p] := by
    show [minusL p p, minusL q p] = _
    rw [hz]
  constructor
  · unfold errN
    rw [if_neg (not_not_intro (errC_of ⟨by omega, by omega⟩ ?_)), if_neg (by simp), hF, if_neg (by simp), if_pos]
    · intro i hi
      rcases (show i = 0 ∨ i = 1 by simp at hi; omega) with rfl | rfl
      · show rc (minusL p p) = 0
        rw [hz]; exact rc_rep n (by omega)
      · exact hr _ hm
    · intro y hy
      rcases List.mem_cons.1 hy with rfl | hy
      · exact ⟨hp.1, by rw [hp.2]⟩
      · rw [List.mem_singleton.1 hy]; exact ⟨hq.1, by rw [hq.2]⟩
  · rw [hF, hdue]
    show _ ∈ stepL cl (c0 n)
    refine List.mem_flatMap.2 ⟨[List.replicate n 0], by simp [c0], List.mem_flatMap.2 ⟨minusL q p, hm, ?_⟩⟩
    have hgt : 0 < cmpL (minusL q p) (List.replicate n 0) := by
      rw [← hz, cmp_shift (by omega) (by omega) (rc_ok hq.1).2 (rc_ok hp.1).2 (rc_ok hp.1).2]
      exact cmpL_gt.2 hpq
    have hfit : fitB cl [List.replicate n 0] (minusL q p) = true := by
      rw [fitB_iff]
      intro i hi
      have : i = 0 := by simp at hi; omega
      subst this
      show minusL (minusL q p) (List.replicate n 0) ∈ cl
      rw [minus_zero (by rw [minusL_length]; omega) (rc_ok (hr _ hm)).2]
      exact hm
    rw [if_pos ⟨hgt, hfit⟩]; simp
/-- A chord of three notes. -/
theorem three_form (hc : Cl n cl) {c : List (List Int)} (h : c ∈ iterL cl 2 (c0 n)) : ∃ x y, c = [List.replicate n 0, x, y] ∧ x ∈ cl ∧ y ∈ cl ∧ 0 < cmpL x (List.replicate n 0) ∧ 0 < cmpL y x ∧ minusL y x ∈ cl := by
  have h : c ∈ stepL cl (stepL cl (c0 n)) := h
  obtain ⟨d, hd, h⟩ := List.mem_flatMap.1 h
  obtain ⟨d0, hd0, hd⟩ := List.mem_flatMap.1 hd
  rw [List.mem_singleton.1 hd0] at hd
  obtain ⟨x, hx, hd⟩ := List.mem_flatMap.1 hd
  split at hd
  · rename_i h1
    have hd := List.mem_singleton.1 hd
    subst hd
    obtain ⟨y, hy, h⟩ := List.mem_flatMap.1 h
    split at h
    · rename_i h2
      have h := List.mem_singleton.1 h
      subst h
      refine ⟨x, y, rfl, hx, hy, h1.1, h2.1, ?_⟩
      exact fitB_iff.1 h2.2 1 (by simp)
    · cases h
  · cases hd
theorem loop8_0_eq {v3 v10 v11 v14 : Int} {v6 two : List (List (List Int))} {c : List (List Int)} (h1 : two.length ≤ 5000) (h2 : ∀ d ∈ two, d.length ≤ 100000 ∧ Rws 100000 d) :
    loop8_0 (v3, v6, two, v10, v11, c, v14, false, 0, ()) = some (v3, v6, two, v10, v11, v14, two.any (fun d => decide (d = c)), ()) := by
  refine loopN_all (N := 2 ^ 64) (step := step8_0) (fun j => (v3, v6, two, v10, v11, c, v14, (two.take j).any (fun d => decide (d = c)), (j : Int), ())) two.length _ (by omega) ?_ ?_
  · intro j hj
    have hm : two.getD j [] ∈ two := by rw [List.getD_eq_getElem?_getD, List.getElem?_eq_getElem hj]; exact List.getElem_mem hj
    obtain ⟨s1, s2⟩ := h2 _ hm
    rw [any_takeG [] _ hj]
    simp only [step8_0, ltI_eq, idxOk_eq, cond_dec, Int.toNat_natCast]
    rw [if_pos (by omega), wrap64s j (by omega)]
    cases ha : (two.take j).any (fun d => decide (d = c)) with
    | true => rfl
    | false =>
      rw [cond_false, if_pos (by omega), f14_eq _ _ (by omega) (fun y hy => Nat.le_trans (s2 y hy) (by omega)), askO_s]
      rfl
  · simp only [step8_0, ltI_eq, cond_dec]
    rw [if_neg (by omega), List.take_length]
theorem step8_1_eq (hc : Cl n cl) (hr : ∀ y ∈ cl, rc y = 0) {three : List (List (List Int))} {i k : Nat} (hi : i < three.length) (h3 : three.length ≤ 5000) (hl : (three.getD i []).length = 3) (hk : k < 3) {p q : List Int}
    (hpq : (((three.getD i []).drop 0).take (k - 0)) ++ (((three.getD i []).drop (k + 1)).take ((three.getD i []).length - (k + 1))) = [p, q])
    (hp : rc p = 0 ∧ p.length = n) (hq : rc q = 0 ∧ q.length = n) (hlt : cmpL p q < 0) (hm : minusL q p ∈ cl) :
    step8_1 ((n : Int), three, iterL cl 1 (c0 n), (i : Int), (k : Int), ()) = some (.inl ((n : Int), three, iterL cl 1 (c0 n), (i : Int), ((k + 1 : Nat) : Int), ())) := by
  have hhigh := hc.high
  obtain ⟨e1, e2⟩ := two_norm hc hr hp hq hlt hm
  have hcnt := hc.count 1
  have hch := chs_iter hc.len 1 1 (chs_c0 n)
  have hany : (iterL cl 1 (c0 n)).any (fun d => decide (d = due (insF [p, q]))) = true := List.any_eq_true.2 ⟨_, e2, by simp⟩
  simp only [step8_1, ltI_eq, idxOk_eq, nble_eq, not_dec, cond_dec, Int.toNat_natCast]
  rw [if_pos (by omega), if_pos (by omega), wrap64s k (by omega)]
  simp only [Int.toNat_natCast, hpq]
  rw [if_pos (by omega), if_pos (by omega), if_pos (by omega), if_pos (by omega), if_pos (by rw [List.length_take]; omega), if_pos (by omega), if_pos (by omega), if_pos (by omega), if_pos (by omega), if_pos (by rw [List.length_take, List.length_drop]; omega), if_pos (by rw [List.length_take]; omega),
    f25_eq (by simp) (fun y hy => by
      rcases List.mem_cons.1 hy with rfl | hy
      · omega
      · rw [List.mem_singleton.1 hy]; omega), askO_s, e1, if_pos rfl]
  dsimp only
  rw [loop8_0_eq (by omega) (fun d hd => by
    obtain ⟨a, b⟩ := hch d hd
    exact ⟨by omega, fun y hy => by rw [b y hy]; omega⟩), askO_s, hany]
  simp only [eqI_eq, not_dec, cond_dec, cond_true]
  rw [if_neg (by simp), wrap64s k (by omega)]
theorem loop8_1_eq (hc : Cl n cl) (hr : ∀ y ∈ cl, rc y = 0) {i : Nat} (hi : i < (iterL cl 2 (c0 n)).length) :
    loop8_1 ((n : Int), iterL cl 2 (c0 n), iterL cl 1 (c0 n), (i : Int), 0, ()) = some (.inr ((n : Int), iterL cl 2 (c0 n), iterL cl 1 (c0 n), (i : Int), ())) := by
  have hcnt := hc.count 2
  have hhigh := hc.high
  have hcm : (iterL cl 2 (c0 n)).getD i [] ∈ iterL cl 2 (c0 n) := by rw [List.getD_eq_getElem?_getD, List.getElem?_eq_getElem hi]; exact List.getElem_mem hi
  obtain ⟨x, y, hxy, hx, hy, g1, g2, g3⟩ := three_form hc hcm
  have hl : ((iterL cl 2 (c0 n)).getD i []).length = 3 := by rw [hxy]; rfl
  have rx : rc x = 0 ∧ x.length = n := ⟨hr x hx, hc.len x hx⟩
  have ry : rc y = 0 ∧ y.length = n := ⟨hr y hy, hc.len y hy⟩
  have rz : rc (List.replicate n 0) = 0 ∧ (List.replicate n (0 : Int)).length = n := ⟨rc_rep n (by omega), List.length_replicate⟩
  refine loopN_all (N := 2 ^ 64) (step := step8_1) (fun k => ((n : Int), iterL cl 2 (c0 n), iterL cl 1 (c0 n), (i : Int), (k : Int), ())) 3 _ (by omega) ?_ ?_
  · intro k hk
    rcases (show k = 0 ∨ k = 1 ∨ k = 2 by omega) with rfl | rfl | rfl
    · exact step8_1_eq hc hr hi (by omega) hl hk (p := x) (q := y) (by rw [hxy]; rfl) rx ry (cmpL_gt.1 g2) g3
    · exact step8_1_eq hc hr hi (by omega) hl hk (p := List.replicate n 0) (q := y) (by rw [hxy]; rfl) rz ry (cmpL_trans (cmpL_gt.1 g1) (cmpL_gt.1 g2)) (by rw [minus_zero (by omega) (rc_ok ry.1).2]; exact hy)
    · exact step8_1_eq hc hr hi (by omega) hl hk (p := List.replicate n 0) (q := x) (by rw [hxy]; rfl) rz rx (cmpL_gt.1 g1) (by rw [minus_zero (by omega) (rc_ok rx.1).2]; exact hx)
  · simp only [step8_1, ltI_eq, idxOk_eq, cond_dec, Int.toNat_natCast]
    rw [if_pos (by omega), if_neg (by omega)]
theorem loop8_2_eq (hc : Cl n cl) (hr : ∀ y ∈ cl, rc y = 0) : loop8_2 ((n : Int), iterL cl 2 (c0 n), iterL cl 1 (c0 n), 0, ()) = some (.inr ()) := by
  have hcnt := hc.count 2
  refine loopN_all (N := 2 ^ 64) (step := step8_2) (fun i => ((n : Int), iterL cl 2 (c0 n), iterL cl 1 (c0 n), (i : Int), ())) (iterL cl 2 (c0 n)).length _ (by omega) ?_ ?_
  · intro i hi
    simp only [step8_2, ltI_eq, cond_dec]
    rw [if_pos (by omega), loop8_1_eq hc hr hi, askO_s, onSum_inr]
    dsimp only
    rw [wrap64s i (by omega)]
  · simp only [step8_2, ltI_eq, cond_dec]
    rw [if_neg (by omega)]
theorem plan_rc {rs : List (Int × (Int × Int))} (hn : 1 ≤ n ∧ n ≤ 3) : ∀ y ∈ closC [] (rs.map (rowE n)), rc y = 0 := by
  have hrow : ∀ r ∈ rs.map (rowE n), rc r = 0 := by
    intro r hr
    obtain ⟨t, -, rfl⟩ := List.mem_map.1 hr
    have hl := rowE_length n t
    unfold rc
    rw [if_neg (by omega), if_pos]
    intro i hi
    have hm := getD_mem hi
    obtain ⟨j, -, hj⟩ := List.mem_map.1 hm
    rw [← hj]
    exact elE_small t j
  intro y hy
  rcases (closC_mem y _ _).1 hy with hy | hy
  · cases hy
  · obtain ⟨r, hr, hy⟩ := List.mem_flatMap.1 hy
    split at hy
    · cases hy
    · rcases List.mem_cons.1 hy with rfl | hy
      · exact hrow _ hr
      · rw [List.mem_singleton.1 hy]; exact rc_neg (hrow _ hr)
theorem f8_true {a : Int} {rs : List (Int × (Int × Int))} (ha : 0 ≤ a ∧ a ≤ 255) : f8 ((a, rs), ()) = some (true, ()) := by
  obtain ⟨n, hn, b, l, h16, hb⟩ := f16_eq (rs := rs) ha
  unfold f8; dsimp only
  rw [h16, askO_s, f10_eq, askO_s]
  cases b with
  | false => rfl
  | true =>
    obtain ⟨h6, rfl⟩ := hb rfl
    obtain ⟨g1, g2, g3, g4⟩ := plan_good (rs := rs) hn h6
    simp only [cond_true]
    have e3 := f17_eq (k := 3) g1 g2 g3 g4 (by omega)
    have e2 := f17_eq (k := 2) g1 g2 g3 g4 (by omega)
    rw [show ((3 : Nat) : Int) = 3 from rfl] at e3
    rw [show ((2 : Nat) : Int) = 2 from rfl] at e2
    rw [e3, askO_s, e2, askO_s]
    simp only [eqI_eq, not_dec, cond_dec]
    rw [if_neg (by simp), if_neg (by simp), loop8_2_eq g4 (plan_rc hn), askO_s, onSum_inr]
end
end Go.PM
