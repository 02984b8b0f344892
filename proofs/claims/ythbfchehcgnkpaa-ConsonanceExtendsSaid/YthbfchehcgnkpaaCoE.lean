/- consonance.each as an iterator: its regions by the plain machine. -/
import Derived.Test.YthbfchehcgnkpaaPnQ
import Derived.Test.YthbfchehcgnkpaaCoI
import Derived.Test.YthbfchehcgnkpaaPnM
import Derived.Test.YthbfchehcgnkpaaPnH
set_option linter.unusedSimpArgs false
set_option linter.unusedVariables false
namespace Go.PM
open Go Go.RowKit Go.Proofs
set_option maxRecDepth 100000
abbrev rowK : Ty := .list (.int .i64)
abbrev rowsK : Ty := .list rowK
def hb (L : List (List Int)) : Heap := [some ⟨encAll rowK L, 48, true, false, some ⟨rowK, L⟩⟩]
/-- slices.Clone of a window: what it holds. -/
def cloneWH (args : List PV) (H : Heap) : Option ResH := match args with
  | [.win r lo n sz] => match H with
    | [some k] => match k.tag with
      | some g => match castL g.t rowK g.l with
        | some L => bif Nat.beq r 0 && Nat.beq lo 0 && Nat.beq sz 1 && Nat.beq k.ty 48 && k.grown && !k.frozen then
            some ⟨List (List Int), (bif Nat.ble n 1048576 then some (L.take n) else none), fun l => (.own 1 1, [some k, some ⟨encAll rowK l, 48, true, false, some ⟨rowK, l⟩⟩])⟩ else none
        | none => none
      | none => none
    | _ => none
  | _ => none
noncomputable def c64i : Code := bodyOf Try.f64
theorem run64 (L : List (List Int)) (n : Nat) : execR Try.prog (envOf []) 8 255 (fun _ => none) (fun _ => none) true [0] c64i [(0, .win 0 0 n 1)] (hb L) (fun ex F H => match ex with
    | .exit _ => none
    | _ => some (pickF [2] F, H)) = bif Nat.ble ((L.drop 0).take n).length 1048576 then some ([(2, .own 1 1)], hb L ++ [some ⟨encAll rowK ((L.drop 0).take n), 48, true, false, some ⟨rowK, (L.drop 0).take n⟩⟩]) else none := by kernel_rfl

noncomputable def c63i : Code := bodyOf Try.f63
theorem form63i : c63i = .seq (.region 0 (opsAt c63i 0) false) (.seq (.seq (.region 1 (opsAt c63i 1) false) (.cond (.tmp 12) (.seq (.region 2 (opsAt c63i 2) true) .ret) .skip))
    (.seq (.seq (.region 3 (opsAt c63i 3) false) (.block 0 (.loop (.seq (.region 4 (opsAt c63i 4) false) (.seq (.cond (.tmp 20) .skip (.exit 0)) (.seq (.block 1 (.seq (.region 5 (opsAt c63i 5) false) (.seq (.region 6 (opsAt c63i 6) true) (.cond (.tmp 46) (.seq (.region 7 (opsAt c63i 7) false) .ret) .skip)))) (.region 8 (opsAt c63i 8) false)))))))
      (.seq (.region 9 (opsAt c63i 9) false) .ret))) := by kernel_rfl
abbrev E63i : Env := envT [e36, e45] [(64, cloneWH)]
def fr63 (k : Nat) (notes : Int) (yv addv : Value) (cl : List (List Int)) : Frm := [(0, .win 0 0 k 1), (1, .iptr [.lit (.int .i64 notes)]), (2, .iptr [.lit yv]), (3, .iptr [tlOf rowK cl none]), (4, .iptr [.lit addv])]
def fr63b (k : Nat) (notes : Int) (yv addv : Value) (cl : List (List Int)) (j : Int) : Frm := fr63 k notes yv addv cl ++ [(17, tlOf rowK cl none), (18, .lit (.int .i64 cl.length)), (19, .lit (.int .i64 j))]
section
variable (k : Nat) (notes : Int) (yv addv : Value) (cl L : List (List Int)) (j : Int) (x : List Int)
theorem reg63_0 : regionK Try.prog E63i 48 (opsAt c63i 0) false (fr63 k notes yv addv cl) (hb L) (fun F H => some (pickF [0, 1, 2, 3, 4] F, H)) = some (fr63 k notes yv addv cl, hb L) := by kernel_rfl
theorem reg63_1 : regionK Try.prog E63i 48 (opsAt c63i 1) false (fr63 k notes yv addv cl) (hb L) (fun F H => some (pickF [0, 1, 2, 3, 4, 12] F, H)) = some (fr63 k notes yv addv cl ++ [(12, .lit (.bool (eqI (k : Int) notes)))], hb L) := by kernel_rfl
theorem reg63_2 : regionK Try.prog E63i 48 ((opsAt c63i 2).toList.take 3).toArray true (fr63 k notes yv addv cl) (hb L) (fun F H => some (pickF [0, 1, 2, 3, 4, 13, 15] F, H)) = askO (bif Nat.ble k 1048576 then some (L.take k) else none) fun y => some (fr63 k notes yv addv cl ++ [(13, .lit yv), (15, .own 1 1)], hb L ++ [some ⟨encAll rowK y, 48, true, false, some ⟨rowK, y⟩⟩]) := by kernel_rfl
theorem reg63_3 : regionK Try.prog E63i 48 (opsAt c63i 3) false (fr63 k notes yv addv cl) (hb L) (fun F H => some (pickF [0, 1, 2, 3, 4, 17, 18, 19] F, H)) = some (fr63b k notes yv addv cl 0, hb L) := by kernel_rfl
theorem reg63_4 : regionK Try.prog E63i 48 (opsAt c63i 4) false (fr63b k notes yv addv cl j) (hb L) (fun F H => some (pickF [0, 1, 2, 3, 4, 17, 18, 19, 20] F, H)) = some (fr63b k notes yv addv cl j ++ [(20, .lit (.bool (ltI j cl.length)))], hb L) := by kernel_rfl
theorem reg63_5 : regionK Try.prog E63i 48 (opsAt c63i 5) false (fr63b k notes yv addv cl j) (hb L) (fun F H => some (pickF [0, 1, 2, 3, 4, 17, 18, 19, 8] F, H)) = bif idxOk j cl.length then some (fr63b k notes yv addv cl j ++ [(8, tlOf (.int .i64) (cl.getD j.toNat []) none)], hb L) else none := by kernel_rfl
theorem reg63_8 : regionK Try.prog E63i 48 (opsAt c63i 8) false (fr63b k notes yv addv cl j) (hb L) (fun F H => some (pickF [0, 1, 2, 3, 4, 17, 18, 19] F, H)) = some (fr63b k notes yv addv cl (wrapF .i64 (j + 1)), hb L) := by kernel_rfl
theorem reg63_7 (H : Heap) : regionK Try.prog E63i 48 (opsAt c63i 7) false [] H (fun F H => some (pickF [6] F, H)) = some ([(6, .lit (.bool false))], H) := by kernel_rfl
theorem reg63_9 (H : Heap) : regionK Try.prog E63i 48 (opsAt c63i 9) false [] H (fun F H => some (pickF [6] F, H)) = some ([(6, .lit (.bool true))], H) := by kernel_rfl
theorem reg63_2r (b : Bool) (H : Heap) : runOpsK Try.prog E63i 48 (opsAt c63i 2).toList ((opsAt c63i 2).toList.drop 4) [(16, .lit (.bool b))] H (fun F H => some (pickF [6] F, H)) = some ([(6, .lit (.bool b))], H) := by kernel_rfl
/-- Behind region 6's first part. -/
def fr63c (k : Nat) (notes : Int) (yv addv : Value) (cl : List (List Int)) (j : Int) (b : Bool) : Frm := fr63b k notes yv addv cl j ++ (bif b then [(38, .lit (.bool true)), (39, .lit addv), (43, .win 0 0 (k + 1) 1)] else [(38, .lit (.bool false)), (39, .lit undef), (43, .lit undef)])
theorem reg63_6 : regionK Try.prog E63i 48 ((opsAt c63i 6).toList.take 21).toArray true (fr63b k notes yv addv cl j ++ [(8, tlOf (.int .i64) x none)]) (hb L) (fun F H => some (pickF [0, 1, 2, 3, 4, 17, 18, 19, 38, 39, 43] F, H)) =
    bif idxOk (wrapF .i64 ((k : Int) - 1)) k then bif Nat.blt (0 + (wrapF .i64 ((k : Int) - 1)).toNat) L.length then askO (f36 (x, L.getD (0 + (wrapF .i64 ((k : Int) - 1)).toNat) [], ())) fun y1 =>
      bif ltI 0 y1.1 then askO (f45 (cl, (L.drop 0).take k, x, ())) fun y2 =>
        bif y2.1 then (bif Nat.ble (0 + k + 1) L.length then some (fr63c k notes yv addv cl j true, hb (spl L (0 + k) [x])) else none) else some (fr63c k notes yv addv cl j false, hb L)
      else some (fr63c k notes yv addv cl j false, hb L) else none else none := by kernel_rfl
end
end Go.PM

/- consonance.each as an iterator. -/
set_option linter.unusedSimpArgs false
set_option linter.unusedVariables false
namespace Go.PM
open Go Go.RowKit Go.Proofs
set_option maxRecDepth 100000

theorem body64i : Try.f64.body = some c64i := by kernel_rfl
theorem res64 : Try.f64.results = #[.tmp 2] := by kernel_rfl
theorem subs64 : subsOf c64i = [] := by kernel_rfl
theorem nt64 : Try.f64.ntmps = 8 := by kernel_rfl
theorem s64w_ok : ShrOK Try.prog (64, cloneWH) := by
  intro args H rh h y hy n0 G μ w us hW hv
  change cloneWH args H = some rh at h
  show CallOK Try.prog n0 w G μ 64 us.toArray (rh.out y).1 (rh.out y).2
  unfold cloneWH at h
  split at h
  · rename_i r lo n sz
    split at h
    · rename_i k
      split at h
      · rename_i g hg
        split at h
        · rename_i L hL
          obtain ⟨hb1, h9⟩ := condSome1 h
          clear h
          simp only [Option.some.injEq] at h9
          subst h9
          simp only [Bool.and_eq_true, Bool.not_eq_true'] at hb1
          obtain ⟨⟨⟨⟨⟨b1, b2⟩, b3⟩, b4⟩, b5⟩, b6⟩ := hb1
          have b1 := Nat.eq_of_beq_eq_true b1
          have b2 := Nat.eq_of_beq_eq_true b2
          have b3 := Nat.eq_of_beq_eq_true b3
          have b4 := Nat.eq_of_beq_eq_true b4
          subst b1; subst b2; subst b3
          have hgg := castL_to hL
          subst hgg
          have hk : k = ⟨encAll rowK L, 48, true, false, some ⟨rowK, L⟩⟩ := by
            have ht := (hW.tags 0 k _ rfl hg).1
            obtain ⟨k1, k2, k3, k4, k5⟩ := k
            dsimp only at ht hg b4 b5 b6
            rw [ht, hg, b4, b5, b6]
          subst hk
          dsimp only at hy ⊢
          obtain ⟨hle, hy⟩ := condSome hy
          simp only [Option.some.injEq] at hy
          subst hy
          have hrun := run64 L n
          have hlen : Nat.ble ((L.drop 0).take n).length 1048576 = true := by
            refine Nat.ble_eq_true_of_le ?_
            have := Nat.le_of_ble_eq_true hle
            rw [List.length_take]; omega
          rw [hlen, cond_true] at hrun
          obtain ⟨⟨ex, F', H'⟩, h1, h2⟩ := execR_sound (env_ok (P := Try.prog) (l := []) trivial).callee progOK.mixed c64i _ _ _ _ (fun b hb => by rw [subs64] at hb; cases hb) hrun
          have hex : (ex = .normal ∨ ex = .ret) ∧ pickF [2] F' = [(2, .own 1 1)] ∧ H' = hb L ++ [some ⟨encAll rowK ((L.drop 0).take n), 48, true, false, some ⟨rowK, (L.drop 0).take n⟩⟩] := by
            cases ex with
            | exit i => cases h1
            | normal =>
              simp only [Option.some.injEq, Prod.mk.injEq] at h1
              exact ⟨.inl rfl, h1.1, h1.2⟩
            | ret =>
              simp only [Option.some.injEq, Prod.mk.injEq] at h1
              exact ⟨.inr rfl, h1.1, h1.2⟩
          obtain ⟨hex, hF', rfl⟩ := hex
          refine ⟨enters Try.func64 (by kernel_rfl) (by kernel_rfl) _ _, calls_of_wp Try.func64 body64i (wpIn_wide (n := 0) |>.1 ?_)⟩
          have hF0 := start_finv (m := 1) (n := Try.f64.ntmps) (vs := us.toArray) (by simpa using hv) (by rw [nt64]; show 1 ≤ 8; decide)
          rw [nt64] at hF0 ⊢
          have hF0 : FInv w G μ 8 [(0, .win 0 0 n 1)] _ := hF0
          have hI : I n0 w G μ 8 [(0, .win 0 0 n 1)] (hb L) _ w := ⟨G, μ, Ext.refl _ _ _ _, hW, hF0⟩
          refine wpIn_mono (h2 none 0 n0 w G μ _ w (fun h => by cases h) (fun r hr => hW.top r (by
            cases r with
            | zero => exact absurd (by simp) hr
            | succ r => simp)) hI.toIM) ?_
          rintro e a' w' ⟨rfl, ⟨G', μ', e', hW', hF2, hm⟩, hdd⟩
          have hI' : FInv w' G' μ' 8 [(2, .own 1 1)] { a' with defers := [] } := by rw [← hF']; exact hF2.pick [2]
          have hd : a'.defers = [] := hdd rfl
          have hv2 := hI'.slot 2
          have hpost : a'.defers = [] ∧ ∃ v, (results Try.f64 a'.tmps).run Try.prog w' = .ok v w' ∧ (∃ v' G'' μ'', Ending.returned v = .returned v' ∧ Ext n0 w G μ w' G'' μ'' ∧ WInv n0 G'' μ'' (hb L ++ [some ⟨encAll rowK ((L.drop 0).take n), 48, true, false, some ⟨rowK, (L.drop 0).take n⟩⟩]) w' ∧ VR w' G'' μ'' (.own 1 1) v') :=
            ⟨hd, _, results_tmp res64 _ _ _, _, G', μ', rfl, e', hW', hv2⟩
          rcases hex with rfl | rfl
          · exact hpost
          · exact hpost
        · cases h
      · cases h
    · cases h
  · cases h
theorem E63i_ok : EnvOK Try.prog E63i := envT_ok ⟨e36_ok, e45_ok, trivial⟩ ⟨s64w_ok, trivial⟩

/-! ### what comes -/
def growL (f : List Int → Option (List (List (List Int)))) : List (List Int) → Option (List (List (List Int)))
  | [] => some []
  | x :: xs => match f x with
    | some a => match growL f xs with
      | some b => some (a ++ b)
      | none => none
    | none => none
/-- Those that begin with c, with r more notes each. -/
def grow (cl : List (List Int)) : Nat → List (List Int) → Option (List (List (List Int)))
  | 0, c => some [c]
  | r + 1, c => growL (fun x => askO (f36 (x, c.getD (c.length - 1) [], ())) fun y1 =>
      bif ltI 0 y1.1 then askO (f45 (cl, c, x, ())) fun y2 => bif y2.1 then grow cl r (c ++ [x]) else some []
      else some []) cl
theorem growL_append {f : List Int → Option (List (List (List Int)))} : ∀ {l1 l2 : List (List Int)} {g : List (List (List Int))}, growL f (l1 ++ l2) = some g → ∃ a b, growL f l1 = some a ∧ growL f l2 = some b ∧ g = a ++ b
  | [], l2, g, h => ⟨[], g, rfl, h, rfl⟩
  | x :: l1, l2, g, h => by
    simp only [List.cons_append, growL] at h
    split at h
    · rename_i a ha
      split at h
      · rename_i b hb
        simp only [Option.some.injEq] at h
        subst h
        obtain ⟨a1, b1, h1, h2, rfl⟩ := growL_append hb
        exact ⟨a ++ a1, b1, by simp only [growL, ha, h1], h2, by rw [List.append_assoc]⟩
      · cases h
    · cases h
theorem growL_at {f : List Int → Option (List (List (List Int)))} {l : List (List Int)} {g : List (List (List Int))} (h : growL f l = some g) {j : Nat} (hj : j < l.length) :
    ∃ gd a b, growL f (l.take j) = some gd ∧ f l[j] = some a ∧ growL f (l.take (j + 1)) = some (gd ++ a) ∧ g = gd ++ a ++ b := by
  have e : l = l.take j ++ (l[j] :: l.drop (j + 1)) := by rw [← List.drop_eq_getElem_cons hj, List.take_append_drop]
  rw [e] at h
  obtain ⟨gd, b0, h1, h2, rfl⟩ := growL_append h
  simp only [growL] at h2
  split at h2
  · rename_i a ha
    split at h2
    · rename_i b hb
      simp only [Option.some.injEq] at h2
      subst h2
      refine ⟨gd, a, b, h1, ha, ?_, by rw [List.append_assoc]⟩
      rw [List.take_succ_eq_append_getElem hj]
      have key : ∀ {l1 : List (List Int)} {g1 : List (List (List Int))}, growL f l1 = some g1 → growL f (l1 ++ [l[j]]) = some (g1 ++ a) := by
        intro l1
        induction l1 with
        | nil =>
          intro g1 h
          simp only [growL, Option.some.injEq] at h
          subst h
          simp [growL, ha]
        | cons x l1 ih =>
          intro g1 h
          simp only [growL] at h
          split at h
          · rename_i a1 ha1
            split at h
            · rename_i b1 hb1
              simp only [Option.some.injEq] at h
              subst h
              simp only [List.cons_append, growL, ha1, ih hb1, List.append_assoc]
            · cases h
          · cases h
      exact key h1
    · cases h2
  · cases h2
abbrev chE (g : List (List (List Int))) : List (denK [.list rowK]) := g.map fun c => (c, ())

theorem body63i : Try.f63.body = some c63i := by kernel_rfl
theorem nt63 : Try.f63.ntmps = 48 := by kernel_rfl
theorem res63 : Try.f63.results = #[.tmp 6] := by kernel_rfl
theorem d63_2 : (opsAt c63i 2).toList.drop 3 = operAt c63i 2 3 :: (opsAt c63i 2).toList.drop 4 := by kernel_rfl
theorem sp63_2 : splitOk (opsAt c63i 2) 3 = true := by kernel_rfl
theorem re63_2 : (((opsAt c63i 2).toList.drop 4).all fun o => !isDefer o.op) = true := by kernel_rfl
theorem ca63_2a : (operAt c63i 2 3).op = .call (callOf (operAt c63i 2 3)) := by kernel_rfl
theorem ca63_2b : (callOf (operAt c63i 2 3)).callee = .value (.tmp 13) := by kernel_rfl
theorem ca63_2c : (callOf (operAt c63i 2 3)).args = #[.tmp 15] := by kernel_rfl
theorem ca63_2d : (operAt c63i 2 3).guard = none := by kernel_rfl
theorem ca63_2e : (operAt c63i 2 3).dst = some 16 := by kernel_rfl
theorem d63_6 : (opsAt c63i 6).toList.drop 21 = operAt c63i 6 21 :: (opsAt c63i 6).toList.drop 22 := by kernel_rfl
theorem sp63_6 : splitOk (opsAt c63i 6) 21 = true := by kernel_rfl
theorem re63_6 : (((opsAt c63i 6).toList.drop 22).all fun o => !isDefer o.op) = true := by kernel_rfl
theorem ca63_6a : (operAt c63i 6 21).op = .call (callOf (operAt c63i 6 21)) := by kernel_rfl
theorem ca63_6b : (callOf (operAt c63i 6 21)).callee = .value (.tmp 39) := by kernel_rfl
theorem ca63_6c : (callOf (operAt c63i 6 21)).args = #[.tmp 43] := by kernel_rfl
theorem ca63_6e : (operAt c63i 6 21).dst = some 44 := by kernel_rfl
section
variable (k : Nat) (notes : Int) (yv addv : Value) (cl L : List (List Int)) (j : Int) (x : List Int) (H : Heap)
theorem gu63 (b : Bool) : guardOf (fr63c k notes yv addv cl j b) (opsAt c63i 6).toList (operAt c63i 6 21) = some b := by
  cases b
  · kernel_rfl
  · kernel_rfl
theorem reg63_6t : runOpsK Try.prog E63i 48 (opsAt c63i 6).toList ((opsAt c63i 6).toList.drop 22) ((44, .lit (.bool true)) :: fr63c k notes yv addv cl j true) H (fun F H => some (pickF [0, 1, 2, 3, 4, 17, 18, 19, 46] F, H)) = some (fr63b k notes yv addv cl j ++ [(46, .lit (.bool false))], H) := by kernel_rfl
theorem reg63_6f : runOpsK Try.prog E63i 48 (opsAt c63i 6).toList ((opsAt c63i 6).toList.drop 22) ((44, .lit (.bool false)) :: fr63c k notes yv addv cl j true) H (fun F H => some (pickF [46] F, H)) = some ([(46, .lit (.bool true))], H) := by kernel_rfl
theorem reg63_6s : runOpsK Try.prog E63i 48 (opsAt c63i 6).toList ((opsAt c63i 6).toList.drop 22) ((44, .lit undef) :: fr63c k notes yv addv cl j false) H (fun F H => some (pickF [0, 1, 2, 3, 4, 17, 18, 19, 46] F, H)) = some (fr63b k notes yv addv cl j ++ [(46, .lit (.bool false))], H) := by kernel_rfl
end
end Go.PM

/- consonance.each as an iterator: the recursion. -/
set_option linter.unusedSimpArgs false
set_option linter.unusedVariables false
namespace Go.PM
open Go Go.RowKit Go.Proofs
set_option maxRecDepth 100000

section
variable {l : Nat} {G0 : Nat → Prop} {all : List (denK [.list rowK])} {J Jx : List (denK [.list rowK]) → (Nat → Prop) → (Nat → Prop) → World → Prop}

/-- What a call of add comes to. -/
def AddPost (G0 : Nat → Prop) (J Jx : List (denK [.list rowK]) → (Nat → Prop) → (Nat → Prop) → World → Prop) (pre : List (denK [.list rowK])) (g : List (List (List Int))) (notes : Nat) (c : List (List Int)) (A : World) (G : Nat → Prop) (μ : Mp) (en : Ending) (A' : World) : Prop :=
  ∃ bb G' μ' H', en = .returned (.bool bb) ∧ Mono A G μ A' G' μ' ∧ (bb = true → ∃ L', H' = hb L' ∧ Sg (J (pre ++ chE g)) G0 G' μ' H' A' ∧ L'.length = notes ∧ L'.take c.length = c) ∧ (bb = false → ∃ q, Sg (Jx q) G0 G' μ' H' A')

set_option maxHeartbeats 4000000 in
theorem add63 (hY : ∀ pre e post T X B T' X' A us Gx m', all = pre ++ e :: post → J pre T X B → Stp X B A → (∀ b, T' b → (T b ∨ B.heap.size ≤ b) ∧ b < A.heap.size) → (∀ b, X' b → T' b ∧ (X b ∨ B.heap.size ≤ b)) →
      (∀ b, Gx b → (G0 b ∨ T' b) ∧ ¬ X' b) → VRs A Gx nomap (encA [.list rowK] e) us →
      YieldAt Fence.wide m' Try.prog l us.toArray A fun en C =>
        ((∀ b, b < A.heap.size → G0 b ∨ T' b → C.heap[b]? = A.heap[b]?) ∧ (∀ b n, Room A b n → Room C b n) ∧ A.heap.size ≤ C.heap.size ∧ A.drawn ≤ C.drawn) ∧ ((en = .returned (.bool true) ∧ J (pre ++ [e]) T' X' C) ∨ (en = .returned (.bool false) ∧ Jx (pre ++ [e]) T' X' C)))
    {notes : Nat} {cl : List (List Int)} (hn : notes ≤ 1048576) (hcl : cl.length ≤ 1048576) {v1 v2 v3 v4 yv addv : Value} (hyv : yv = .func (.yield l) #[] #[]) (hadd : addv = .func (.func 63) #[] #[v1, v2, v3, v4]) :
    ∀ (r : Nat) (c : List (List Int)) (g : List (List (List Int))) (pre post : List (denK [.list rowK])) (A : World) (G : Nat → Prop) (μ : Mp) (L : List (List Int)) (m : Nat) (vc : Value), c.length + r = notes → 0 < c.length → grow cl r c = some g → all = pre ++ chE g ++ post →
      Sg (J pre) G0 G μ (hb L) A → L.length = notes → L.take c.length = c → VRs A G μ [.win 0 0 c.length 1, .iptr [.lit (.int .i64 notes)], .iptr [.lit yv], .iptr [tlOf rowK cl none], .iptr [.lit addv]] [vc, v1, v2, v3, v4] →
      CallsIn Fence.wide m Try.prog 63 #[vc, v1, v2, v3, v4] A (AddPost G0 J Jx pre g notes c A G μ) := by
  have hcal : CalleeOK Try.prog (calleeE Try.prog E63i) := E63i_ok.callee
  have hP := progOK.mixed
  intro r
  induction r with
  | zero =>
    intro c g pre post A G μ L m vc hlen hc0 hgrow hall hS hL hLc hvs
    simp only [grow, Option.some.injEq] at hgrow
    subst hgrow
    obtain ⟨k, hk⟩ : ∃ k, c.length = k := ⟨_, rfl⟩
    rw [hk] at hvs hLc
    refine callsIn_of_wp Try.func63 body63i trivial ?_ rfl
    have hF0 := start_finv (m := 31) (n := Try.f63.ntmps) (vs := #[vc, v1, v2, v3, v4]) hvs (by rw [nt63]; show 5 ≤ 48; decide)
    rw [nt63] at hF0 ⊢
    have hF0 : FInv A G μ 48 (fr63 k notes yv addv cl) _ := hF0
    rw [form63i]
    refine wpIn_seq (sg_region hcal hP (reg63_0 k notes yv addv cl L) hS hF0 ?_)
    intro G1 μ1 a1 A1 hS1 mo1 hF1
    refine wpIn_seq (wpIn_seq (sg_region hcal hP (reg63_1 k notes yv addv cl L) hS1 hF1 ?_))
    intro G2 μ2 a2 A2 hS2 mo2 hF2
    have hc := finv_bool (t := 12) hF2 rfl
    rw [eqI_eq, decide_eq_true (by omega)] at hc
    have hF2' : FInv A2 G2 μ2 48 (fr63 k notes yv addv cl) a2 := hF2.pick [0, 1, 2, 3, 4]
    refine wpIn_cond_true hc (wpIn_seq (sg_splitD hcal hP (s := 3) (sl := [0, 1, 2, 3, 4, 13, 15]) sp63_2 (by rw [reg63_2, Nat.ble_eq_true_of_le (by omega)]; rfl) hS2 hF2' ?_))
    intro G3 μ3 a3 A3 hS3 mo3 hF3
    rw [d63_2]
    obtain ⟨hS4, mo4⟩ := hS3.freeze (r := 1) (k := ⟨encAll rowK (L.take k), 48, true, false, some ⟨rowK, L.take k⟩⟩) rfl rfl
    obtain ⟨n4, hW4, _, _⟩ := hS4.open_
    have h15 : VR A3 (fun x => G3 x ∨ μ3.loc 1 = some x) nomap (tlOf rowK (L.take k) none) (a3.tmps.getD 15 undef) := by
      have hv := VR.mono mo4 _ _ (hF3.slot 15)
      exact own_frozen hW4 (r := 1) (sz := 1) (k := ⟨encAll rowK (L.take k), 48, true, true, some ⟨rowK, L.take k⟩⟩) hv rfl rfl (fun b h => h) (fun b h => .inr h)
    rw [hLc] at h15
    have hall' : all = pre ++ (c, ()) :: post := by rw [hall]; simp [chE]
    have hy := fun m' => hS4.yield (us := [a3.tmps.getD 15 undef]) hY hall' (by
      simp only [encA, encK]
      rw [VRs]
      exact ⟨_, [], rfl, h15, by rw [VRs]⟩) m'
    refine op_yield ca63_2a ca63_2b (wanted_none ca63_2d) (by rw [← hyv]; exact finv_lit (t := 13) hF3 rfl) (us := [a3.tmps.getD 15 undef].toArray) (by rw [ca63_2c]; exact args_tmp1 a3 15) hy ?_
    rintro en C ⟨moY, hout⟩
    have hmono : Mono A G μ C (fun x => G3 x ∨ μ3.loc 1 = some x) μ3 := (((mo1.trans mo2).trans mo3).trans mo4).trans moY
    obtain ⟨nT, hWT, _, _⟩ := hS.open_
    have htop : ∀ r, 1 ≤ r → μ.loc r = none ∧ μ.len r = none := fun r hr => hWT.top r hr
    have key : ∀ (b : Bool) {Ψ : (Nat → Prop) → (Nat → Prop) → World → Prop}, Sg Ψ G0 (fun x => G3 x ∨ μ3.loc 1 = some x) μ3 ((hb L ++ [some ⟨encAll rowK (L.take k), 48, true, false, some ⟨rowK, L.take k⟩⟩] : Heap).set 1 (some ⟨encAll rowK (L.take k), 48, true, true, some ⟨rowK, L.take k⟩⟩)) C →
        (∀ G' μ' A', Sg Ψ G0 G' μ' (hb L) A' → Mono A G μ A' G' μ' → AddPost G0 J Jx pre [c] notes c A G μ (.returned (.bool b)) A') →
        ∀ (Q : Exit → Act → World → Prop), (∀ a w, bodyPost Try.prog Try.f63 (AddPost G0 J Jx pre [c] notes c A G μ) .ret a w → Q .ret a w) →
        wpListIn Fence.wide m Try.prog (opsAt c63i 2) (Exit.then (Code.ret.wpIn Fence.wide m Try.prog Q) Q) ((opsAt c63i 2).toList.drop 4) (a3.put (operAt c63i 2 3).dst (.bool b)) C := by
      intro b Ψ hSy hfin Q hQ
      rw [ca63_2e]
      have hF5 : FInv C (fun x => G3 x ∨ μ3.loc 1 = some x) μ3 48 [(16, .lit (.bool b))] (a3.put (some 16) (.bool b)) := ((hF3.mono (mo4.trans moY)).pick []).cons (by decide) (by rw [VR])
      refine sg_rest hcal (sl := [6]) (reg63_2r b _) re63_2 hSy hF5 ?_
      intro G6 μ6 a6 A6 hS6 mo6 hF6
      refine wpIn_ret ?_
      have h6 := finv_bool (t := 6) hF6 rfl
      refine hQ _ _ ⟨hF6.defers, _, results_tmp res63 _ _ _, ?_⟩
      have e6 : a6.tmps.getD 6 undef = .bool b := h6
      rw [e6]
      exact hfin _ _ A6 (hS6.only0 (k := ⟨encAll rowK L, 48, true, false, some ⟨rowK, L⟩⟩) rfl) (only0_mono (hmono.trans mo6) htop)
    rcases hout with ⟨rfl, hS5⟩ | ⟨rfl, hS5⟩
    · refine ⟨_, rfl, key true hS5 (fun G' μ' A' hS' mo' => ⟨true, G', μ', hb L, rfl, mo', fun _ => ⟨L, rfl, hS', hL, by rw [hk]; exact hLc⟩, fun h => by cases h⟩) _ fun _ _ h => h⟩
    · refine ⟨_, rfl, key false hS5 (fun G' μ' A' hS' mo' => ⟨false, G', μ', hb L, rfl, mo', fun h => (by cases h), fun _ => ⟨_, hS'⟩⟩) _ fun _ _ h => h⟩
  | succ r ih =>
    intro c g pre post A G μ L m vc hlen hc0 hgrow hall hS hL hLc hvs
    obtain ⟨k, hk⟩ : ∃ k, c.length = k := ⟨_, rfl⟩
    rw [hk] at hvs hLc
    simp only [grow] at hgrow
    rw [hk] at hgrow
    obtain ⟨f, hf⟩ : ∃ f : List Int → Option (List (List (List Int))), f = fun x => askO (f36 (x, c.getD (k - 1) [], ())) fun y1 => bif ltI 0 y1.1 then askO (f45 (cl, c, x, ())) fun y2 => bif y2.1 then grow cl r (c ++ [x]) else some [] else some [] := ⟨_, rfl⟩
    rw [← hf] at hgrow
    refine callsIn_of_wp Try.func63 body63i trivial ?_ rfl
    have hF0 := start_finv (m := 31) (n := Try.f63.ntmps) (vs := #[vc, v1, v2, v3, v4]) hvs (by rw [nt63]; show 5 ≤ 48; decide)
    rw [nt63] at hF0 ⊢
    have hF0 : FInv A G μ 48 (fr63 k notes yv addv cl) _ := hF0
    rw [form63i]
    refine wpIn_seq (sg_region hcal hP (reg63_0 k notes yv addv cl L) hS hF0 ?_)
    intro G1 μ1 a1 A1 hS1 mo1 hF1
    refine wpIn_seq (wpIn_seq (sg_region hcal hP (reg63_1 k notes yv addv cl L) hS1 hF1 ?_))
    intro G2 μ2 a2 A2 hS2 mo2 hF2
    have hc := finv_bool (t := 12) hF2 rfl
    rw [eqI_eq, decide_eq_false (by omega)] at hc
    have hF2' : FInv A2 G2 μ2 48 (fr63 k notes yv addv cl) a2 := hF2.pick [0, 1, 2, 3, 4]
    refine wpIn_cond_false hc (wpIn_skip ?_)
    refine wpIn_seq (wpIn_seq (sg_region hcal hP (reg63_3 k notes yv addv cl L) hS2 hF2' ?_))
    intro G3 μ3 a3 A3 hS3 mo3 hF3
    have mo03 := (mo1.trans mo2).trans mo3
    refine wpIn_block (wpIn_loop_ghost (fun n a B => ∃ j gd G' μ' L', j ≤ cl.length ∧ n = cl.length - j ∧ growL f (cl.take j) = some gd ∧ Sg (J (pre ++ chE gd)) G0 G' μ' (hb L') B ∧ Mono A G μ B G' μ' ∧ L'.length = notes ∧ L'.take k = c ∧ FInv B G' μ' 48 (fr63b k notes yv addv cl j) a) cl.length
      ⟨0, [], G3, μ3, L, Nat.zero_le _, rfl, rfl, by simpa [chE] using hS3, mo03, hL, hLc, hF3⟩ ?_)
    rintro n a B ⟨j, gd, G4, μ4, L', hj, rfl, hgd, hS4, mo4, hL', hLc', hF4⟩
    refine wpIn_seq (sg_region hcal hP (reg63_4 k notes yv addv cl L' j) hS4 hF4 ?_)
    intro G5 μ5 a5 A5 hS5 mo5 hF5
    have hc5 := finv_bool (t := 20) hF5 rfl
    by_cases hlt : j < cl.length
    · rw [ltI_eq, decide_eq_true (by omega)] at hc5
      refine wpIn_seq (wpIn_cond_true hc5 (wpIn_skip ?_))
      have hF5' : FInv A5 G5 μ5 48 (fr63b k notes yv addv cl j) a5 := hF5.pick [0, 1, 2, 3, 4, 17, 18, 19]
      refine wpIn_seq (wpIn_block (wpIn_seq (sg_region hcal hP (sl := [0, 1, 2, 3, 4, 17, 18, 19, 8]) (by rw [reg63_5, idxOk_eq, decide_eq_true (by omega)]; rfl) hS5 hF5' ?_)))
      intro G6 μ6 a6 A6 hS6 mo6 hF6
      have hx : cl.getD (Int.toNat (j : Int)) [] = cl[j] := by simp [hlt]
      rw [hx] at hF6
      obtain ⟨gd', ga, gb, hg1, hg2, hg3, hg4⟩ := growL_at hgrow hlt
      rw [hgd] at hg1
      cases hg1
      have hfx := hg2
      rw [hf] at hfx
      dsimp only at hfx
      have hkk : wrapF .i64 ((k : Int) - 1) = ((k - 1 : Nat) : Int) := by rw [wrap64 (by omega) (by omega)]; omega
      have hlast : L'.getD (0 + (wrapF .i64 ((k : Int) - 1)).toNat) [] = c.getD (k - 1) [] := by
        rw [hkk, Int.toNat_natCast, Nat.zero_add, ← hLc']
        rw [List.getD_eq_getElem?_getD, List.getD_eq_getElem?_getD, List.getElem?_take, if_pos (by omega)]
      have hmo6 := (mo4.trans mo5).trans mo6
      have hreg := reg63_6 k notes yv addv cl L' j cl[j]
      rw [hkk, idxOk_eq, decide_eq_true (by omega), cond_true, ← hkk, nblt_eq, decide_eq_true (by rw [hkk, Int.toNat_natCast]; omega), cond_true, hlast, List.drop_zero, hLc'] at hreg
      cases hy1 : f36 (cl[j], c.getD (k - 1) [], ()) with
      | none => rw [hy1] at hfx; cases hfx
      | some y1 =>
      rw [hy1, askO_s] at hfx hreg
      -- what the rest of a round comes to
      have next : ∀ (L2 : List (List Int)) (G' : Nat → Prop) (μ' : Mp) (a' : Act) (A' : World), Sg (J (pre ++ chE (gd ++ ga))) G0 G' μ' (hb L2) A' → Mono A G μ A' G' μ' → L2.length = notes → L2.take k = c → FInv A' G' μ' 48 (fr63b k notes yv addv cl j) a' →
          (Code.region 8 (opsAt c63i 8) false).wpIn Fence.wide m Try.prog (Exit.then (fun a' w' => ∃ n', n' < cl.length - j ∧ ∃ j gd G' μ' L', j ≤ cl.length ∧ n' = cl.length - j ∧ growL f (cl.take j) = some gd ∧ Sg (J (pre ++ chE gd)) G0 G' μ' (hb L') w' ∧ Mono A G μ w' G' μ' ∧ L'.length = notes ∧ L'.take k = c ∧ FInv w' G' μ' 48 (fr63b k notes yv addv cl j) a')
            (Exit.inBlock 0 (Exit.then ((Code.seq (.region 9 (opsAt c63i 9) false) .ret).wpIn Fence.wide m Try.prog (bodyPost Try.prog Try.f63 (AddPost G0 J Jx pre g notes c A G μ))) (bodyPost Try.prog Try.f63 (AddPost G0 J Jx pre g notes c A G μ))))) a' A' := by
        intro L2 G' μ' a' A' hS' mo' hl2 ht2 hF'
        refine sg_region hcal hP (reg63_8 k notes yv addv cl L2 j) hS' hF' ?_
        intro G9 μ9 a9 A9 hS9 mo9 hF9
        rw [wrap64s j (by omega)] at hF9
        exact ⟨cl.length - (j + 1), by omega, j + 1, gd ++ ga, G9, μ9, L2, hlt, rfl, hg3, hS9, mo'.trans mo9, hl2, ht2, hF9⟩
      cases hb1 : ltI 0 y1.1 with
      | false =>
        rw [hb1, cond_false] at hfx hreg
        simp only [Option.some.injEq] at hfx
        subst hfx
        refine wpIn_seq (sg_splitD hcal hP (s := 21) (sl := [0, 1, 2, 3, 4, 17, 18, 19, 38, 39, 43]) sp63_6 hreg hS6 hF6 ?_)
        intro G7 μ7 a7 A7 hS7 mo7 hF7
        rw [d63_6]
        refine op_skip (guardOf_sound hF7 (gu63 k notes yv addv cl j false)) ?_
        rw [ca63_6e]
        have hF8 : FInv A7 G7 μ7 48 ((44, .lit undef) :: fr63c k notes yv addv cl j false) (a7.put (some 44) undef) := hF7.cons (by decide) (by rw [VR])
        refine sg_rest hcal (sl := [0, 1, 2, 3, 4, 17, 18, 19, 46]) (reg63_6s k notes yv addv cl j _) re63_6 hS7 hF8 ?_
        intro G9 μ9 a9 A9 hS9 mo9 hF9
        refine wpIn_cond_false (finv_bool (t := 46) hF9 rfl) (wpIn_skip ?_)
        exact next L' G9 μ9 a9 A9 (by rw [List.append_nil]; exact hS9) ((hmo6.trans mo7).trans mo9) hL' hLc' (hF9.pick [0, 1, 2, 3, 4, 17, 18, 19])
      | true =>
        rw [hb1, cond_true] at hfx hreg
        cases hy2 : f45 (cl, c, cl[j], ()) with
        | none => rw [hy2] at hfx; cases hfx
        | some y2 =>
        rw [hy2, askO_s] at hfx hreg
        cases hb2 : y2.1 with
        | false =>
          rw [hb2, cond_false] at hfx hreg
          simp only [Option.some.injEq] at hfx
          subst hfx
          refine wpIn_seq (sg_splitD hcal hP (s := 21) (sl := [0, 1, 2, 3, 4, 17, 18, 19, 38, 39, 43]) sp63_6 hreg hS6 hF6 ?_)
          intro G7 μ7 a7 A7 hS7 mo7 hF7
          rw [d63_6]
          refine op_skip (guardOf_sound hF7 (gu63 k notes yv addv cl j false)) ?_
          rw [ca63_6e]
          have hF8 : FInv A7 G7 μ7 48 ((44, .lit undef) :: fr63c k notes yv addv cl j false) (a7.put (some 44) undef) := hF7.cons (by decide) (by rw [VR])
          refine sg_rest hcal (sl := [0, 1, 2, 3, 4, 17, 18, 19, 46]) (reg63_6s k notes yv addv cl j _) re63_6 hS7 hF8 ?_
          intro G9 μ9 a9 A9 hS9 mo9 hF9
          refine wpIn_cond_false (finv_bool (t := 46) hF9 rfl) (wpIn_skip ?_)
          exact next L' G9 μ9 a9 A9 (by rw [List.append_nil]; exact hS9) ((hmo6.trans mo7).trans mo9) hL' hLc' (hF9.pick [0, 1, 2, 3, 4, 17, 18, 19])
        | true =>
          rw [hb2, cond_true] at hfx hreg
          rw [nble_eq, decide_eq_true (by omega), cond_true] at hreg
          refine wpIn_seq (sg_splitD hcal hP (s := 21) (sl := [0, 1, 2, 3, 4, 17, 18, 19, 38, 39, 43]) sp63_6 hreg hS6 hF6 ?_)
          intro G7 μ7 a7 A7 hS7 mo7 hF7
          rw [d63_6]
          have hcl1 : (c ++ [cl[j]]).length = k + 1 := by rw [List.length_append, hk]; rfl
          have hsl : (spl L' (0 + k) [cl[j]]).length = notes := by
            simp only [spl, List.length_append, List.length_take, List.length_drop, List.length_cons, List.length_nil]; omega
          have hst : (spl L' (0 + k) [cl[j]]).take (k + 1) = c ++ [cl[j]] := by
            simp only [spl, Nat.zero_add, List.length_cons, List.length_nil]
            rw [hLc', ← List.append_assoc, ← hcl1, List.take_left]
          have hall2 : all = (pre ++ chE gd) ++ chE ga ++ (chE gb ++ post) := by
            rw [hall, hg4]; simp only [chE, List.map_append, List.append_assoc]
          have hvs7 : VRs A7 G7 μ7 [.win 0 0 (k + 1) 1, .iptr [.lit (.int .i64 notes)], .iptr [.lit yv], .iptr [tlOf rowK cl none], .iptr [.lit addv]] [a7.tmps.getD 43 undef, v1, v2, v3, v4] := by
            have h1 := VRs.mono (hmo6.trans mo7) _ _ hvs
            rw [VRs] at h1 ⊢
            obtain ⟨x0, xs0, e0, _, h3⟩ := h1
            cases e0
            exact ⟨_, _, rfl, hF7.slot 43, h3⟩
          have hih := fun m' => ih (c ++ [cl[j]]) ga (pre ++ chE gd) (chE gb ++ post) A7 G7 μ7 (spl L' (0 + k) [cl[j]]) m' (a7.tmps.getD 43 undef) (by rw [hcl1]; omega) (by rw [hcl1]; omega) hfx hall2 hS7 hsl (by rw [hcl1]; exact hst) (by rw [hcl1]; exact hvs7)
          refine op_enter ca63_6a ca63_6b (guardOf_sound hF7 (gu63 k notes yv addv cl j true)) (by rw [finv_lit (t := 39) hF7 rfl, hadd]) (us := #[a7.tmps.getD 43 undef, v1, v2, v3, v4]) (by rw [ca63_6c, args_tmp1]; rfl) (enters Try.func63 (by kernel_rfl) (by kernel_rfl) _ _) hih ?_
          rintro en C ⟨bb, G', μ', H', rfl, moC, ht, hff⟩
          cases bb with
          | true =>
            obtain ⟨L3, rfl, hS8, hl3, ht3⟩ := ht rfl
            refine ⟨_, rfl, ?_⟩
            rw [ca63_6e]
            have hF8 : FInv C G' μ' 48 ((44, .lit (.bool true)) :: fr63c k notes yv addv cl j true) (a7.put (some 44) (.bool true)) := (hF7.mono moC).cons (by decide) (by rw [VR])
            refine sg_rest hcal (sl := [0, 1, 2, 3, 4, 17, 18, 19, 46]) (reg63_6t k notes yv addv cl j _) re63_6 hS8 hF8 ?_
            intro G9 μ9 a9 A9 hS9 mo9 hF9
            refine wpIn_cond_false (finv_bool (t := 46) hF9 rfl) (wpIn_skip ?_)
            have ht4 : L3.take k = c := by
              have := congrArg (List.take k) ht3
              rw [List.take_take, hcl1, Nat.min_eq_left (by omega)] at this
              rw [this, ← hk, List.take_left]
            exact next L3 G9 μ9 a9 A9 (by rw [chE, List.map_append, ← List.append_assoc]; exact hS9) (((hmo6.trans mo7).trans moC).trans mo9) hl3 ht4 (hF9.pick [0, 1, 2, 3, 4, 17, 18, 19])
          | false =>
            obtain ⟨q, hS8⟩ := hff rfl
            refine ⟨_, rfl, ?_⟩
            rw [ca63_6e]
            have hF8 : FInv C G' μ' 48 ((44, .lit (.bool false)) :: fr63c k notes yv addv cl j true) (a7.put (some 44) (.bool false)) := (hF7.mono moC).cons (by decide) (by rw [VR])
            refine sg_rest hcal (sl := [46]) (reg63_6f k notes yv addv cl j _) re63_6 hS8 hF8 ?_
            intro G9 μ9 a9 A9 hS9 mo9 hF9
            refine wpIn_cond_true (finv_bool (t := 46) hF9 rfl) ?_
            have hF9' : FInv A9 G9 μ9 48 [] a9 := hF9.pick []
            refine wpIn_seq (sg_region hcal hP (reg63_7 H') hS9 hF9' ?_)
            intro G10 μ10 a10 A10 hS10 mo10 hF10
            refine wpIn_ret ?_
            have h6 : a10.tmps.getD 6 undef = .bool false := finv_bool (t := 6) hF10 rfl
            refine ⟨hF10.defers, _, results_tmp res63 _ _ _, ?_⟩
            rw [h6]
            exact ⟨false, G10, μ10, H', rfl, (((hmo6.trans mo7).trans moC).trans mo9).trans mo10, fun h => (by cases h), fun _ => ⟨q, hS10⟩⟩
    · rw [ltI_eq, decide_eq_false (by omega)] at hc5
      refine wpIn_seq (wpIn_cond_false hc5 (wpIn_exit ?_))
      have hje : j = cl.length := by omega
      subst hje
      rw [List.take_length, hgrow] at hgd
      cases hgd
      have hF5' : FInv A5 G5 μ5 48 [] a5 := hF5.pick []
      refine wpIn_seq (sg_region hcal hP (reg63_9 (hb L')) hS5 hF5' ?_)
      intro G9 μ9 a9 A9 hS9 mo9 hF9
      refine wpIn_ret ⟨hF9.defers, _, results_tmp res63 _ _ _, ?_⟩
      have h6 : a9.tmps.getD 6 undef = .bool true := finv_bool (t := 6) hF9 rfl
      rw [h6]
      exact ⟨true, G9, μ9, hb L', rfl, (mo4.trans mo5).trans mo9, fun _ => ⟨L', rfl, hS9, hL', by rw [hk]; exact hLc'⟩, fun h => by cases h⟩
end
end Go.PM

/- slices.Values over rows as an iterator. -/
set_option linter.unusedSimpArgs false
set_option linter.unusedVariables false
namespace Go.PM
open Go Go.RowKit Go.Proofs
set_option maxRecDepth 100000
abbrev E0 : Env := envOf []
theorem E0_ok : EnvOK Try.prog E0 := env_ok trivial

noncomputable def c69i : Code := bodyOf Try.f69
theorem form69i : c69i = .seq (.region 0 (opsAt c69i 0) false) (.block 0 (.loop (.seq (.region 1 (opsAt c69i 1) false) (.seq (.cond (.tmp 8) .skip (.exit 0)) (.seq (.block 1 (.seq (.region 2 (opsAt c69i 2) false) (.seq (.region 3 (opsAt c69i 3) false) (.cond (.tmp 14) .ret .skip)))) (.region 4 (opsAt c69i 4) false)))))) := by kernel_rfl
/-- The elements, one by one. -/
def fV (x : denT [.list (.list (.int .i64))]) : Option (List (denK [.list (.int .i64)])) := match x with
  | (l, ()) => bif Nat.ble l.length 1048576 then some (l.map fun x => (x, ())) else none
abbrev rowT : Ty := .list (.int .i64)
def fr69 (yv : Value) (cl : List (List Int)) (i : Int) : Frm := [(0, .lit yv), (5, tlOf rowT cl none), (6, .lit (.int .i64 cl.length)), (7, .lit (.int .i64 i))]
theorem reg69_0 (yv : Value) (cl : List (List Int)) : regionK Try.prog E0 16 (opsAt c69i 0) false [(0, .lit yv), (1, .iptr (enc (.list rowT) cl))] [] (fun F H => some (pickF [0, 5, 6, 7] F, H)) = some (fr69 yv cl 0, []) := by kernel_rfl
theorem reg69_1 (yv : Value) (cl : List (List Int)) (i : Int) : regionK Try.prog E0 16 (opsAt c69i 1) false (fr69 yv cl i) [] (fun F H => some (pickF [0, 5, 6, 7, 8] F, H)) = some (fr69 yv cl i ++ [(8, .lit (.bool (ltI i cl.length)))], []) := by kernel_rfl
theorem reg69_2 (yv : Value) (cl : List (List Int)) (i : Int) : regionK Try.prog E0 16 (opsAt c69i 2) false (fr69 yv cl i) [] (fun F H => some (pickF [0, 5, 6, 7, 4] F, H)) = bif idxOk i cl.length then some (fr69 yv cl i ++ [(4, tlOf (.int .i64) (cl.getD i.toNat []) none)], []) else none := by kernel_rfl
theorem reg69_3a (yv : Value) (cl : List (List Int)) (i : Int) (x : List Int) : runOpsK Try.prog E0 16 (opsAt c69i 3).toList ((opsAt c69i 3).toList.take 2) (fr69 yv cl i ++ [(4, tlOf (.int .i64) x none)]) [] (fun F H => some (pickF [0, 5, 6, 7, 11, 12] F, H)) = some (fr69 yv cl i ++ [(11, .lit yv), (12, tlOf (.int .i64) x none)], []) := by kernel_rfl
theorem reg69_3t (yv : Value) (cl : List (List Int)) (i : Int) : runOpsK Try.prog E0 16 (opsAt c69i 3).toList ((opsAt c69i 3).toList.drop 3) ((13, .lit (.bool true)) :: fr69 yv cl i) [] (fun F H => some (pickF [0, 5, 6, 7, 14] F, H)) = some (fr69 yv cl i ++ [(14, .lit (.bool false))], []) := by kernel_rfl
theorem reg69_3f (yv : Value) (cl : List (List Int)) (i : Int) : runOpsK Try.prog E0 16 (opsAt c69i 3).toList ((opsAt c69i 3).toList.drop 3) ((13, .lit (.bool false)) :: fr69 yv cl i) [] (fun F H => some (pickF [0, 5, 6, 7, 14] F, H)) = some (fr69 yv cl i ++ [(14, .lit (.bool true))], []) := by kernel_rfl
theorem reg69_4 (yv : Value) (cl : List (List Int)) (i : Int) : regionK Try.prog E0 16 (opsAt c69i 4) false (fr69 yv cl i) [] (fun F H => some (pickF [0, 5, 6, 7] F, H)) = some (fr69 yv cl (wrapF .i64 (i + 1)), []) := by kernel_rfl
theorem drop69 : (opsAt c69i 3).toList.drop 2 = operAt c69i 3 2 :: (opsAt c69i 3).toList.drop 3 := by kernel_rfl
theorem split69 : splitOk (opsAt c69i 3) 2 = true := by kernel_rfl
theorem rest69 : (((opsAt c69i 3).toList.drop 3).all fun o => !isDefer o.op) = true := by kernel_rfl
theorem call69a : (operAt c69i 3 2).op = .call (callOf (operAt c69i 3 2)) := by kernel_rfl
theorem call69b : (callOf (operAt c69i 3 2)).callee = .value (.tmp 11) := by kernel_rfl
theorem call69c : (callOf (operAt c69i 3 2)).args = #[.tmp 12] := by kernel_rfl
theorem call69d : (operAt c69i 3 2).guard = none := by kernel_rfl
theorem call69e : (operAt c69i 3 2).dst = some 13 := by kernel_rfl
theorem res69 : Try.f69.results = #[] := by kernel_rfl
theorem body69i : Try.f69.body = some c69i := by kernel_rfl
theorem nt69 : Try.f69.ntmps = 16 := by kernel_rfl

theorem it69 : IterOK Try.prog 69 [.list (.list (.int .i64))] [.list (.int .i64)] fV := by
  rintro ⟨cl, ⟨⟩⟩ all hall m l W G vs hlt hvs J Jx hY hJ
  unfold fV at hall
  obtain ⟨hlen, hall⟩ := condSome hall
  have hlen := Nat.le_of_ble_eq_true hlen
  simp only [Option.some.injEq] at hall
  subst hall
  obtain ⟨yv, hyv⟩ : ∃ yv : Value, yv = .func (.yield l) #[] #[] := ⟨_, rfl⟩
  have hcl : CalleeOK Try.prog (calleeE Try.prog E0) := E0_ok.callee
  have hP := progOK.mixed
  refine callsIn_of_wp Try.func69 body69i trivial ?_ rfl
  have hargs : VRs W G nomap [.lit yv, .iptr (enc (.list rowT) cl)] ((#[.func (.yield l) #[] #[]] : Array Value) ++ vs.toArray).toList := by
    rw [← hyv]
    simp only [encP] at hvs
    simp only [Array.toList_append, List.cons_append, List.nil_append]
    rw [VRs]
    exact ⟨yv, vs, rfl, by rw [VR], hvs⟩
  have hF0 := start_finv (m := 3) (n := Try.f69.ntmps) hargs (by rw [nt69]; show 2 ≤ 16; decide)
  rw [nt69] at hF0 ⊢
  have hF0 : FInv W G nomap 16 [(0, .lit yv), (1, .iptr (enc (.list rowT) cl))] _ := hF0
  have hS0 : Sg (J []) G G nomap [] W := Sg.start hlt hJ
  rw [form69i]
  refine wpIn_seq (sg_region hcl hP (reg69_0 yv cl) hS0 hF0 ?_)
  intro G1 μ1 a1 A1 hS1 _ hF1
  have hret : ∀ (ex : Exit) (a : Act) (A : World), (ex = .normal ∨ ex = .ret) → a.defers = [] → (∃ Φ, Sg Φ G G1 μ1 [] A1 ∧ True) → ∀ (T X : Nat → Prop) (B : World), Stp X B A → (J (cl.map fun x => (x, ())) T X B ∨ ∃ pre, Jx pre T X B) →
      bodyPost Try.prog Try.f69 (fun en C => (∃ v, en = .returned v) ∧ ∃ T X B, Stp X B C ∧ (J (cl.map fun x => (x, ())) T X B ∨ ∃ pre, Jx pre T X B)) ex a A := by
    intro ex a A hex hd _ T X B hst hj
    have hr : (results Try.f69 a.tmps).run Try.prog A = .ok (.tuple #[]) A := by simp [results, res69]
    rcases hex with rfl | rfl
    · exact ⟨hd, _, hr, ⟨_, rfl⟩, T, X, B, hst, hj⟩
    · exact ⟨hd, _, hr, ⟨_, rfl⟩, T, X, B, hst, hj⟩
  refine wpIn_block (wpIn_loop_ghost (fun k a A => ∃ j G' μ', j ≤ cl.length ∧ k = cl.length - j ∧ Sg (J ((cl.take j).map fun x => (x, ()))) G G' μ' [] A ∧ FInv A G' μ' 16 (fr69 yv cl j) a) cl.length ⟨0, G1, μ1, Nat.zero_le _, rfl, hS1, hF1⟩ ?_)
  rintro k a A ⟨j, G2, μ2, hj, rfl, hS2, hF2⟩
  refine wpIn_seq (sg_region hcl hP (reg69_1 yv cl j) hS2 hF2 ?_)
  intro G3 μ3 a3 A3 hS3 _ hF3
  have hc := finv_bool (t := 8) hF3 rfl
  by_cases hlt2 : j < cl.length
  · rw [ltI_eq, decide_eq_true (by omega)] at hc
    refine wpIn_seq (wpIn_cond_true hc (wpIn_skip ?_))
    have hF3' : FInv A3 G3 μ3 16 (fr69 yv cl j) a3 := hF3.pick [0, 5, 6, 7]
    refine wpIn_seq (wpIn_block (wpIn_seq (sg_region hcl hP (sl := [0, 5, 6, 7, 4]) (by rw [reg69_2, idxOk_eq, decide_eq_true (by omega)]; rfl) hS3 hF3' ?_)))
    intro G4 μ4 a4 A4 hS4 _ hF4
    refine wpIn_seq (sg_splitL hcl hP (s := 2) (sl := [0, 5, 6, 7, 11, 12]) split69 (reg69_3a yv cl j _) hS4 hF4 ?_)
    intro G5 μ5 a5 A5 hS5 _ hF5
    rw [drop69]
    have hx : cl.getD (Int.toNat (j : Int)) [] = cl[j] := by simp [hlt2]
    have h12 := hF5.slot 12
    have h12 : VR A5 G5 nomap (tlOf (.int .i64) cl[j] none) (a5.tmps.getD 12 undef) := by
      rw [← hx]
      exact noRef_vr _ _ rfl h12
    have hall : (cl.map fun x => ((x, ()) : denK [.list (.int .i64)])) = ((cl.take j).map fun x => (x, ())) ++ (cl[j], ()) :: ((cl.drop (j + 1)).map fun x => (x, ())) := by
      rw [← List.map_cons (f := fun x => ((x, ()) : denK [.list (.int .i64)])), ← List.map_append, ← List.drop_eq_getElem_cons hlt2, List.take_append_drop]
    have hy := fun m' => hS5.yield (us := [a5.tmps.getD 12 undef]) hY hall (by
      simp only [encA, encK]
      rw [VRs]
      exact ⟨_, [], rfl, h12, by rw [VRs]⟩) m'
    refine op_yield call69a call69b (wanted_none call69d) (by rw [← hyv]; exact finv_lit (t := 11) hF5 rfl) (us := [a5.tmps.getD 12 undef].toArray) (by rw [call69c]; exact args_tmp1 a5 12) hy ?_
    rintro en C ⟨hmo, hout⟩
    have hF6 : FInv C G5 μ5 16 (fr69 yv cl j) a5 := (hF5.mono hmo).pick [0, 5, 6, 7]
    have htake : (cl.take (j + 1)).map (fun x => ((x, ()) : denK [.list (.int .i64)])) = ((cl.take j).map fun x => (x, ())) ++ [(cl[j], ())] := by
      rw [List.take_succ_eq_append_getElem hlt2, List.map_append]; rfl
    rcases hout with ⟨rfl, hS6⟩ | ⟨rfl, hS6⟩
    · refine ⟨_, rfl, ?_⟩
      rw [call69e]
      have hF7 : FInv C G5 μ5 16 ((13, .lit (.bool true)) :: fr69 yv cl j) (a5.put (some 13) (.bool true)) := hF6.cons (by decide) (by rw [VR])
      refine sg_rest hcl (sl := [0, 5, 6, 7, 14]) (reg69_3t yv cl j) rest69 hS6 hF7 ?_
      intro G8 μ8 a8 A8 hS8 _ hF8
      refine wpIn_cond_false (finv_bool (t := 14) hF8 rfl) (wpIn_skip ?_)
      have hF8' : FInv A8 G8 μ8 16 (fr69 yv cl j) a8 := hF8.pick [0, 5, 6, 7]
      refine sg_region hcl hP (reg69_4 yv cl j) hS8 hF8' ?_
      intro G9 μ9 a9 A9 hS9 _ hF9
      rw [wrap64s j (by omega)] at hF9
      exact ⟨cl.length - (j + 1), by omega, j + 1, G9, μ9, hlt2, rfl, by rw [htake]; exact hS9, hF9⟩
    · refine ⟨_, rfl, ?_⟩
      rw [call69e]
      have hF7 : FInv C G5 μ5 16 ((13, .lit (.bool false)) :: fr69 yv cl j) (a5.put (some 13) (.bool false)) := hF6.cons (by decide) (by rw [VR])
      refine sg_rest hcl (sl := [0, 5, 6, 7, 14]) (reg69_3f yv cl j) rest69 hS6 hF7 ?_
      intro G8 μ8 a8 A8 hS8 _ hF8
      refine wpIn_cond_true (finv_bool (t := 14) hF8 rfl) (wpIn_ret ?_)
      obtain ⟨T, X, B, hst, hjx⟩ := hS8.stp
      exact hret .ret a8 A8 (.inr rfl) hF8.defers ⟨_, hS1, trivial⟩ T X B hst (.inr ⟨_, hjx⟩)
  · rw [ltI_eq, decide_eq_false (by omega)] at hc
    refine wpIn_seq (wpIn_cond_false hc (wpIn_exit ?_))
    have hje : j = cl.length := by omega
    subst hje
    rw [List.take_length] at hS3
    obtain ⟨T, X, B, hst, hj2⟩ := hS3.stp
    exact hret .normal a3 A3 (.inl rfl) hF3.defers ⟨_, hS1, trivial⟩ T X B hst (.inl hj2)
end Go.PM

/- consonance.each as an iterator. -/
set_option linter.unusedSimpArgs false
set_option linter.unusedVariables false
namespace Go.PM
open Go Go.RowKit Go.Proofs
set_option maxRecDepth 100000

noncomputable def c62i : Code := bodyOf Try.f62
theorem form62i : c62i = .seq (.region 0 (opsAt c62i 0) false) (.seq (.region 1 (opsAt c62i 1) false) (.seq (.region 2 (opsAt c62i 2) false) (.region 3 (opsAt c62i 3) true))) := by kernel_rfl
def fr62 (notes col : Int) (cl : List (List Int)) : Frm := [(1, .iptr [.lit (.int .i64 notes)]), (2, .iptr [tlOf rowK cl none]), (3, .iptr [.lit (.int .i64 col)])]
def clo63 (notes : Int) (cl : List (List Int)) : PV := .clo (.func 63) [] [.iptr [.lit (.int .i64 notes)], .hptr 0 0, .iptr [tlOf rowK cl none], .hptr 1 0]
section
variable (notes col : Int) (cl : List (List Int)) (yv addv : Value)
theorem reg62_0 (l : Nat) : regionK Try.prog E0 15 (opsAt c62i 0) false ((0, .lit (.func (.yield l) #[] #[])) :: fr62 notes col cl) [] (fun F H => some (pickF [1, 2, 3, 4] F, H)) = some (fr62 notes col cl ++ [(4, .hptr 0 0)], [some ⟨[.lit (.func (.yield l) #[] #[])], 90, false, false, none⟩]) := by kernel_rfl
theorem reg62_1 : regionK Try.prog E0 15 (opsAt c62i 1) false (fr62 notes col cl ++ [(4, .hptr 0 0)]) [some ⟨[.lit yv], 90, false, false, none⟩] (fun F H => some (pickF [1, 2, 3, 4, 5] F, H)) = some (fr62 notes col cl ++ [(4, .hptr 0 0), (5, .hptr 1 0)], [some ⟨[.lit yv], 90, false, false, none⟩, some ⟨[.lit .nilFunc], 90, false, false, none⟩]) := by kernel_rfl
theorem reg62_2 : regionK Try.prog E0 15 (opsAt c62i 2) false (fr62 notes col cl ++ [(4, .hptr 0 0), (5, .hptr 1 0)]) [some ⟨[.lit yv], 90, false, false, none⟩, some ⟨[.lit .nilFunc], 90, false, false, none⟩] (fun F H => some (pickF [1, 2, 3, 4, 5] F, H)) = some (fr62 notes col cl ++ [(4, .hptr 0 0), (5, .hptr 1 0)], [some ⟨[.lit yv], 90, false, false, none⟩, some ⟨[clo63 notes cl], 90, false, false, none⟩]) := by kernel_rfl
theorem reg62_3 : regionK Try.prog E0 15 ((opsAt c62i 3).toList.take 7).toArray true (fr62 notes col cl ++ [(5, .iptr [.lit addv])]) [] (fun F H => some (pickF [7, 13] F, H)) =
    bif !(ltI notes 0) then bif !(ltI 1048576 notes) then bif !(ltI col 0) then bif !(ltI col col) then bif !(ltI 1048576 col) then bif Nat.ble (0 + 0 + 1) (List.replicate notes.toNat ([] : List Int)).length then
      some ([(7, .lit addv), (13, .win 0 0 1 1)], hb (spl (List.replicate notes.toNat []) (0 + 0) [List.replicate col.toNat 0])) else none else none else none else none else none else none := by kernel_rfl
end
theorem d62_3 : (opsAt c62i 3).toList.drop 7 = [operAt c62i 3 7] := by kernel_rfl
theorem sp62_3 : splitOk (opsAt c62i 3) 7 = true := by kernel_rfl
theorem ca62a : (operAt c62i 3 7).op = .call (callOf (operAt c62i 3 7)) := by kernel_rfl
theorem ca62b : (callOf (operAt c62i 3 7)).callee = .value (.tmp 7) := by kernel_rfl
theorem ca62c : (callOf (operAt c62i 3 7)).args = #[.tmp 13] := by kernel_rfl
theorem ca62d : (operAt c62i 3 7).guard = none := by kernel_rfl
theorem ca62e : (operAt c62i 3 7).dst = some 14 := by kernel_rfl
theorem body62i : Try.f62.body = some c62i := by kernel_rfl
theorem nt62 : Try.f62.ntmps = 15 := by kernel_rfl
theorem res62 : Try.f62.results = #[] := by kernel_rfl
/-- The chords that each yields. -/
def fEach (x : denT [.int .i64, .list (.list (.int .i64)), .int .i64]) : Option (List (denK [.list (.list (.int .i64))])) := match x with
  | (notes, cl, col, ()) => bif ltI 0 notes && !ltI 1048576 notes && !ltI col 0 && !ltI 1048576 col && Nat.ble cl.length 1048576 then (match grow cl (notes.toNat - 1) [List.replicate col.toNat 0] with
    | some g => some (chE g)
    | none => none) else none

set_option maxHeartbeats 2000000 in
theorem it62 : IterOK Try.prog 62 [.int .i64, .list (.list (.int .i64)), .int .i64] [.list (.list (.int .i64))] fEach := by
  rintro ⟨notes, cl, col, ⟨⟩⟩ all hall m l W G vs hlt hvs J Jx hY hJ
  unfold fEach at hall
  dsimp only at hall
  obtain ⟨hcond, hall⟩ := condSome hall
  simp only [Bool.and_eq_true, Bool.not_eq_true', ltI_eq, decide_eq_true_eq, decide_eq_false_iff_not] at hcond
  obtain ⟨⟨⟨⟨c1, c2⟩, c3⟩, c4⟩, c5⟩ := hcond
  have c5 := Nat.le_of_ble_eq_true c5
  obtain ⟨g, hg⟩ : ∃ g, grow cl (notes.toNat - 1) [List.replicate col.toNat 0] = some g := by
    cases h : grow cl (notes.toNat - 1) [List.replicate col.toNat 0] with
    | none => rw [h] at hall; cases hall
    | some g => exact ⟨g, rfl⟩
  rw [hg] at hall
  simp only [Option.some.injEq] at hall
  subst hall
  obtain ⟨nn, hnn⟩ := Int.eq_ofNat_of_zero_le (a := notes) (Int.le_of_lt c1)
  subst hnn
  rw [Int.toNat_natCast] at hg
  have hcal : CalleeOK Try.prog (calleeE Try.prog E0) := E0_ok.callee
  have hP := progOK.mixed
  refine callsIn_of_wp Try.func62 body62i trivial ?_ rfl
  have hargs : VRs W G nomap [.lit (.func (.yield l) #[] #[]), .iptr [.lit (.int .i64 nn)], .iptr [tlOf rowK cl none], .iptr [.lit (.int .i64 col)]] ((#[.func (.yield l) #[] #[]] : Array Value) ++ vs.toArray).toList := by
    simp only [encP] at hvs
    simp only [Array.toList_append, List.cons_append, List.nil_append]
    rw [VRs]
    exact ⟨_, vs, rfl, by rw [VR], hvs⟩
  have hF0 := start_finv (m := 15) (n := Try.f62.ntmps) hargs (by rw [nt62]; show 4 ≤ 15; decide)
  rw [nt62] at hF0 ⊢
  have hF0 : FInv W G nomap 15 ((0, .lit (.func (.yield l) #[] #[])) :: fr62 nn col cl) _ := hF0
  have hS0 : Sg (J []) G G nomap [] W := Sg.start hlt hJ
  rw [form62i]
  refine wpIn_seq (sg_region hcal hP (reg62_0 nn col cl l) hS0 hF0 ?_)
  intro G1 μ1 a1 A1 hS1 _ hF1
  refine wpIn_seq (sg_region hcal hP (reg62_1 nn col cl (.func (.yield l) #[] #[])) hS1 hF1 ?_)
  intro G2 μ2 a2 A2 hS2 _ hF2
  refine wpIn_seq (sg_region hcal hP (reg62_2 nn col cl (.func (.yield l) #[] #[])) hS2 hF2 ?_)
  intro G3 μ3 a3 A3 hS3 _ hF3
  -- the two variables are data from now on
  obtain ⟨hS4, mo4⟩ := hS3.freeze (r := 0) (k := ⟨[.lit (.func (.yield l) #[] #[])], 90, false, false, none⟩) rfl rfl
  obtain ⟨hS5, mo5⟩ := hS4.freeze (r := 1) (k := ⟨[clo63 nn cl], 90, false, false, none⟩) rfl rfl
  obtain ⟨G5, hG5⟩ : ∃ G5 : Nat → Prop, G5 = fun x => (G3 x ∨ μ3.loc 0 = some x) ∨ μ3.loc 1 = some x := ⟨_, rfl⟩
  rw [← hG5] at hS5 mo5
  have hF5 : FInv A3 G5 μ3 15 (fr62 nn col cl ++ [(4, .hptr 0 0), (5, .hptr 1 0)]) a3 := hF3.mono (mo4.trans mo5)
  obtain ⟨n5, hW5, _, _⟩ := hS5.open_
  have s5 := hF5.slot 5
  have s5 : VR A3 G5 μ3 (.hptr 1 0) (a3.tmps.getD 5 undef) := s5
  rw [VR] at s5
  obtain ⟨b1, hb1, hp1⟩ := s5
  obtain ⟨_, _, q1, _, q2, _⟩ := hW5.blk 1 ⟨[clo63 nn cl], 90, false, true, none⟩ b1 rfl hb1
  have hGb1 := q2 rfl
  rw [VCells] at q1
  obtain ⟨⟨addv, hcell, hclo⟩, _⟩ := q1
  unfold clo63 at hclo
  rw [VR] at hclo
  obtain ⟨fs, cs, hadd, hfs, hcs⟩ := hclo
  have hfs : fs = #[] := by
    rw [VRs] at hfs
    apply Array.ext'; simpa using hfs
  subst hfs
  rw [VRs] at hcs
  obtain ⟨v1, cs1, e1, hv1, hcs⟩ := hcs
  rw [VRs] at hcs
  obtain ⟨v2, cs2, rfl, hv2, hcs⟩ := hcs
  rw [VRs] at hcs
  obtain ⟨v3, cs3, rfl, hv3, hcs⟩ := hcs
  rw [VRs] at hcs
  obtain ⟨v4, cs4, rfl, hv4, hcs⟩ := hcs
  rw [VRs] at hcs
  subst hcs
  have hcsA : cs = #[v1, v2, v3, v4] := by apply Array.ext'; simpa using e1
  subst hcsA
  have hbox : ∀ {u : Value}, u = .pointer (some ⟨b1, 0, none⟩) → VR A3 G5 nomap (.iptr [.lit addv]) u := by
    rintro u rfl
    rw [VR]
    refine ⟨b1, 0, rfl, hGb1, ?_⟩
    rw [VCells]
    exact ⟨⟨addv, hcell, by rw [VR]⟩, by rw [VCells]; trivial⟩
  have hv2' : VR A3 G5 nomap (.iptr [.lit (.func (.yield l) #[] #[])]) v2 := by
    rw [VR] at hv2
    obtain ⟨b0, hb0, rfl⟩ := hv2
    obtain ⟨_, _, q3, _, q4, _⟩ := hW5.blk 0 ⟨[.lit (.func (.yield l) #[] #[])], 90, false, true, none⟩ b0 rfl hb0
    rw [VR]
    refine ⟨b0, 0, rfl, q4 rfl, ?_⟩
    rw [VCells] at q3 ⊢
    obtain ⟨⟨u, hu1, hu2⟩, _⟩ := q3
    rw [VR] at hu2
    exact ⟨⟨u, hu1, by rw [VR]; exact hu2⟩, by rw [VCells]; trivial⟩
  have hv4' : VR A3 G5 nomap (.iptr [.lit addv]) v4 := by
    rw [VR] at hv4
    obtain ⟨b4, hb4, rfl⟩ := hv4
    rw [hb1] at hb4
    cases hb4
    exact hbox rfl
  have hS6 : Sg (J []) G G5 nomap [] A3 := hS5.renamed fun n0 hW => ⟨fun r k b h => by simp at h, fun r k g h => by simp at h, fun r s k l b h => by simp at h, hW.lt, fun _ _ => ⟨rfl, rfl⟩, hW.base⟩
  have hF6 : FInv A3 G5 nomap 15 (fr62 nn col cl ++ [(5, .iptr [.lit addv])]) a3 := by
    refine ⟨hF5.size, fun t => ?_, hF5.defers⟩
    by_cases h5 : t = 5
    · subst h5; exact hbox hp1
    · have := hF5.slot t
      have e : fget (fr62 nn col cl ++ [(5, .iptr [.lit addv])]) t = fget (fr62 nn col cl) t := by
        by_cases h1 : t = 1
        · subst h1; rfl
        · by_cases h2 : t = 2
          · subst h2; rfl
          · by_cases h3 : t = 3
            · subst h3; rfl
            · simp only [fr62, List.cons_append, List.nil_append]
              rw [fget_cons, if_neg h1, fget_cons, if_neg h2, fget_cons, if_neg h3, fget_cons, if_neg h5]
              rw [fget_cons, if_neg h1, fget_cons, if_neg h2, fget_cons, if_neg h3]
      rw [e]
      by_cases h1 : t = 1
      · subst h1; exact noRef_vr (.iptr [.lit (.int .i64 nn)]) _ rfl this
      · by_cases h2 : t = 2
        · subst h2; exact noRef_vr (.iptr [tlOf rowK cl none]) _ rfl this
        · by_cases h3 : t = 3
          · subst h3; exact noRef_vr (.iptr [.lit (.int .i64 col)]) _ rfl this
          · simp only [fr62]
            rw [fget_cons, if_neg h1, fget_cons, if_neg h2, fget_cons, if_neg h3]
            simp only [fget]
            rw [VR]; trivial
  refine sg_splitD hcal hP (s := 7) (sl := [7, 13]) sp62_3 (by
    rw [reg62_3]
    simp only [ltI_eq, nble_eq]
    rw [decide_eq_false (by omega), decide_eq_false (by omega), decide_eq_false (by omega), decide_eq_false (by omega), decide_eq_false (by omega), decide_eq_true (by rw [List.length_replicate]; omega)]
    rfl) hS6 hF6 ?_
  intro G7 μ7 a7 A7 hS7 mo7 hF7
  rw [d62_3]
  have hS7 : Sg (J []) G G7 μ7 (hb (spl (List.replicate nn []) 0 [List.replicate col.toNat 0])) A7 := by
    have := hS7
    rwa [Int.toNat_natCast] at this
  have hvs7 : VRs A7 G7 μ7 [.win 0 0 1 1, .iptr [.lit (.int .i64 nn)], .iptr [.lit (.func (.yield l) #[] #[])], .iptr [tlOf rowK cl none], .iptr [.lit addv]] [a7.tmps.getD 13 undef, v1, v2, v3, v4] := by
    have m7 : Mono A3 G5 nomap A7 G7 μ7 := mo7
    rw [VRs]; refine ⟨_, _, rfl, hF7.slot 13, ?_⟩
    rw [VRs]; refine ⟨_, _, rfl, VR.mono m7 _ _ (noRef_vr _ _ rfl hv1), ?_⟩
    rw [VRs]; refine ⟨_, _, rfl, VR.mono m7 _ _ hv2', ?_⟩
    rw [VRs]; refine ⟨_, _, rfl, VR.mono m7 _ _ (noRef_vr _ _ rfl hv3), ?_⟩
    rw [VRs]; refine ⟨_, _, rfl, VR.mono m7 _ _ hv4', ?_⟩
    rw [VRs]
  have hcall := fun m' => add63 hY (notes := nn) (cl := cl) (by omega) c5 (v1 := v1) (v2 := v2) (v3 := v3) (v4 := v4) rfl hadd (nn - 1) [List.replicate col.toNat 0] g [] [] A7 G7 μ7 (spl (List.replicate nn []) 0 [List.replicate col.toNat 0]) m' (a7.tmps.getD 13 undef)
    (by simp only [List.length_cons, List.length_nil]; omega) (by simp) hg (by simp) hS7 (by simp only [spl, List.length_append, List.length_take, List.length_drop, List.length_replicate, List.length_cons, List.length_nil]; omega) (by simp [spl]) hvs7
  refine op_enter ca62a ca62b (wanted_none ca62d) (by rw [finv_lit (t := 7) hF7 rfl, hadd]) (us := #[a7.tmps.getD 13 undef, v1, v2, v3, v4]) (by rw [ca62c, args_tmp1]; rfl) (enters Try.func63 (by kernel_rfl) (by kernel_rfl) _ _) hcall ?_
  rintro en C ⟨bb, G', μ', H', rfl, moC, ht, hff⟩
  refine ⟨_, rfl, ?_⟩
  have hd : (a7.put (operAt c62i 3 7).dst (.bool bb)).defers = [] := by
    rw [ca62e]; exact hF7.defers
  have hr : ∀ tmps, (results Try.f62 tmps).run Try.prog C = .ok (.tuple #[]) C := fun tmps => by simp [results, res62]
  cases bb with
  | true =>
    obtain ⟨L', rfl, hS8, _, _⟩ := ht rfl
    obtain ⟨T, X, B, hst, hj⟩ := hS8.stp
    rw [List.nil_append] at hj
    exact ⟨hd, _, hr _, ⟨_, rfl⟩, T, X, B, hst, .inl hj⟩
  | false =>
    obtain ⟨q, hS8⟩ := hff rfl
    obtain ⟨T, X, B, hst, hj⟩ := hS8.stp
    exact ⟨hd, _, hr _, ⟨_, rfl⟩, T, X, B, hst, .inr ⟨q, hj⟩⟩
end Go.PM
