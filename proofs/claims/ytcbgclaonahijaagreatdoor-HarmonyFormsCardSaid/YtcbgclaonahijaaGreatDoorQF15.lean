/- 15 -/
import Derived.Test.YtcbgclaonahijaaGreatDoorQF14
set_option linter.all false
namespace Go.PM
open Go Go.RowKit
def zq0K (P : Program) (E : Env) (fn : Func) (keep : Nat) (lt rt : Nat → Option cI) (c : Code) (ae : TypeId) (t : Ty) args rets (x : aM args) : Option (aM rets) :=
  bif Nat.ble (lF args x).length fn.ntmps then TP P E fn.ntmps keep lt rt false [] c (start keep 0 (lF args x)) [some (arB ae t [])] (bK2 P fn.results.toList rets) else none
section
variable {P : Program}
theorem zq1Y {E} (hP : WV P) (hE : dN P E) {g : Nat} {fn} (hg : P.funcs[g]? = some fn) {c} (hc : fn.body = some c) {keep lt rt ae t args rets f}
    (hl : ∀ a ∈ dV c, aKL P fn.ntmps lt rt false [] a) (hb : ∀ x, zq0K P E fn keep lt rt c ae t args rets x = f x) : WA P g args rets f := by
  intro x y hy
  rw [← hb] at hy
  unfold zq0K at hy
  obtain ⟨hlen, hy⟩ := aJ hy
  obtain ⟨⟨ex, F', H'⟩, h1, h2⟩ := vG hE.callee hP.mixed c _ _ _ _ hl hy
  obtain ⟨vs, q, hex, hvs, hq, hd⟩ : ∃ vs q, (ex = .normal ∨ ex = .ret) ∧ yG P F' H' fn.results.toList = some vs ∧ bFH H' (pI vs) = some q ∧ bFX rets q = some y := by
    unfold bK2 at h1
    split at h1
    · cases h1
    · rename_i hne
      split at h1
      · rename_i vs hvs
        split at h1
        · rename_i q hq
          refine ⟨vs, q, ?_, hvs, hq, h1⟩
          cases ex with
          | normal => exact .inl rfl
          | ret => exact .inr rfl
          | exit i => exact absurd rfl (hne i)
        · cases h1
      · cases h1
  obtain ⟨hq1, hq2⟩ := OL hq
  intro w G us hlt hv
  have at0 : ∀ (s : Nat) (k1 : Blk), ([some (arB ae t [])] : Heap)[s]? = some (some k1) → s = 0 ∧ k1 = arB ae t [] := by
    intro s k1 hs
    cases s with
    | zero => simp only [List.getElem?_cons_zero, Option.some.injEq] at hs; exact ⟨rfl, hs.symm⟩
    | succ s => simp at hs
  have hW : aX (RL w) (Gd.of G) ⟨fun _ => none, fun r => if r = 0 then some 0 else none, fun _ => 0⟩ [some (arB ae t [])] w := by
    refine ⟨(fun r k b h hb => by cases hb), (fun r k g h hg => ?_), (fun r s k l b h _ _ _ hb => by cases hb), hlt, (fun r hr => ⟨rfl, ?_⟩), fun _ h => h, ⟨(fun _ _ _ h => by cases h), (fun _ _ h => by cases h), (fun _ _ h => by cases h), (fun r k u l h hgr ht => ?_), (fun r s k k' u l u' l' h1 g1 t1 h2 g2 t2 => by rw [(at0 r k h1).1, (at0 s k' h2).1])⟩⟩
    · obtain ⟨rfl, rfl⟩ := at0 r k h
      cases hg
      exact ⟨rfl, rfl⟩
    · have : r ≠ 0 := by rintro rfl; simp at hr
      simp [this]
    · obtain ⟨rfl, rfl⟩ := at0 r k h
      cases ht
      exact ⟨rfl, fun _ _ => rfl, fun j row hj => by simp at hj⟩
  have e0 : Ext (RL w) w (Gd.of G) aH w (Gd.of G) ⟨fun _ => none, fun r => if r = 0 then some 0 else none, fun _ => 0⟩ :=
    ⟨⟨fun b hb => ⟨hb, rfl⟩, fun _ _ h => (by cases h), fun _ _ h => (by cases h), fun _ _ h => h, fun _ _ h => h, fun _ _ h => (by cases h)⟩, rfl, rfl, rfl, Nat.le_refl _, fun _ _ _ => rfl, fun _ h => .inl h⟩
  refine ⟨enters hg (hP.names g fn hg) (by rw [hc]; rfl) _ _, (callsIn_wide (n := 0)).1 (callsIn_of_wp_marks hg hc trivial ?_)⟩
  have hI : I (RL w) w (Gd.of G) aH fn.ntmps (start keep 0 (lF args x)) [some (arB ae t [])] ⟨us ++ Array.replicate (fn.ntmps - us.size) undef, []⟩ w := ⟨Gd.of G, _, e0, hW, E6 hv.bF (Nat.le_of_ble_eq_true hlen)⟩
  refine wpIn_mono (h2 none 0 _ w (Gd.of G) aH _ w (fun _ => rfl) (fun r _ => ⟨rfl, rfl⟩) hI.b09) ?_
  rintro e1 ⟨tm, ds⟩ w' ⟨rfl, hI', _⟩
  have hend : ∀ w', IM (RL w) w (Gd.of G) aH fn.ntmps F' H' { tmps := tm, defers := [] } w' → LeavesIn Fence.wide 0 P fn tm (fun en w' => ∃ v' G', en = .returned v' ∧ Ext (RL w) w (Gd.of G) aH w' (Gd.of G') aH ∧ (∀ b, G' b → b < w'.heap.size) ∧ VR w' (Gd.of G') aH (aLV rets y) v') [] .returning w' := by
    rintro w' ⟨G1, μ1, e1, e2, hF', _⟩
    obtain ⟨ws, h3, h4⟩ := uB (P := P) e2 hF' hvs
    have hres : (results fn tm).run P w' = .ok (if hh : ws.toArray.size = 1 then ws.toArray[0] else .tuple ws.toArray) w' := by
      rw [J0, Array.mapM_eq_mapM_toList]
      simp only [Sem.run_bind, Sem.run_map, h3, Result.andThen_ok, Sem.run_pure]
    have hval := XU (G := ⟨fun b => G1 b ∨ ∃ r k, H'[r]? = some (some k) ∧ μ1.loc r = some b, G1.row⟩) (G' := Gd.of fun b => G1 b ∨ ∃ r k, H'[r]? = some (some k) ∧ μ1.loc r = some b) (fun b h => h) _ _ _ hq2
        (ZP (G' := ⟨fun b => G1 b ∨ ∃ r k, H'[r]? = some (some k) ∧ μ1.loc r = some b, G1.row⟩) e2 (fun _ _ h => h) (fun b hb => .inl hb) (fun r k b hr _ hb => .inr ⟨r, k, hr, hb⟩) depth _ q _ hq1 (xE h4))
    have hext : Ext (RL w) w (Gd.of G) aH w' (Gd.of fun b => G1 b ∨ ∃ r k, H'[r]? = some (some k) ∧ μ1.loc r = some b) aH := {
      good := fun b hb => ⟨.inl (e1.good b hb).1, (e1.good b hb).2⟩
      map := fun _ _ h => h
      len := fun _ _ h => h
      room := e1.room
      row := fun _ _ h => h
      os := e1.os
      tape := e1.tape
      output := e1.output
      size := e1.size
      old := e1.old
      new := fun b hb => by
        rcases hb with hb | ⟨r, k, hr, hb⟩
        · exact e1.new b hb
        · obtain ⟨c, _, _, _, g5, g6⟩ := e2.blk r k b hr hb
          cases hf : k.frozen with
          | true => exact e1.new b (g5 hf)
          | false => exact .inr (g6 hf).1 }
    have hlt' : ∀ b, (G1 b ∨ ∃ r k, H'[r]? = some (some k) ∧ μ1.loc r = some b) → b < w'.heap.size := by
      rintro b (hb | ⟨r, k, hr, hb⟩)
      · exact e2.lt b hb
      · exact e2.vB hr hb
    exact ⟨_, hres, _, _, rfl, hext, hlt', aOH hd hval⟩
  rcases hex with rfl | rfl
  · exact MZ (fun b hb => hW.base b hb) hend ds w' hI'
  · exact MZ (fun b hb => hW.base b hb) hend ds w' hI'
end
def zq2N {α : Type} : Option α → Option α → Option α
  | some z, _ => some z
  | none, y => y
section
variable {P : Program} {ae : TypeId} {t : Ty}
theorem zq1S {g e u args an} {f : Unit → aM (.list u :: args) → List (List t.den) → Option (An.den an × List (List t.den))} (hf : Z6 P g ae t .none (.list u :: args) an f) : Z6 P g ae t (.own e u) args an fun l x A => f () (l, x) A := by
  intro l x A y B hy n0 G μ H w us ra r hW har ho hv
  have h0 : H[r]? = some (some (owB e u l)) := (ho.at_ r _ rfl).1
  obtain ⟨e1, w1⟩ := aJZ hW h0 rfl
  have w2 := wB w1 r
  rw [List.set_set] at w2
  have hne : ra ≠ r := by
    rintro rfl
    rw [h0] at har
    simp at har
  have har2 : (H.set r none)[ra]? = some (some (arB ae t A)) := by rw [List.getElem?_set_ne (Ne.symm hne)]; exact har
  have hv2 : VRs w (G.or fun x => μ.loc r = some x) μ (zX u l none :: lF args x) us := by
    change VRs w G μ (.own r u.size :: lF args x) us at hv
    rw [VRs] at hv ⊢
    obtain ⟨v, us', rfl, q1, q2⟩ := hv
    exact ⟨v, us', rfl, (U3 (g := ⟨u, l⟩) (G' := G.or fun x => μ.loc r = some x) hW q1 (by unfold iN; rw [h0]) rfl (fun b h => .inl h) (fun b hb => .inr hb)).bF, VRs.mono e1.toMono _ _ q2⟩
  obtain ⟨h1, h2⟩ := hf () (l, x) A y B hy w2 har2 (r := 0) ⟨fun _ _ h => by cases h⟩ hv2
  refine ⟨h1, h2.mono ?_⟩
  rintro e' w' ⟨v', G', μ1, rfl, q1, q2, q3⟩
  have hl : (H.set r none).length = H.length := List.length_set
  rw [hl] at q3
  exact ⟨v', G', μ1, rfl, e1.trans q1, q2, q3⟩
theorem zq2O {g tk args an} {f1 f2 : Tk.den tk → aM args → List (List t.den) → Option (An.den an × List (List t.den))} (h1 : Z6 P g ae t tk args an f1) (h2 : Z6 P g ae t tk args an f2) : Z6 P g ae t tk args an fun l x A => zq2N (f1 l x A) (f2 l x A) := by
  intro l x A y B hy
  dsimp only at hy
  cases hz : f1 l x A with
  | some z => exact h1 l x A y B (by rw [hz] at hy ⊢; exact hy)
  | none => exact h2 l x A y B (by rw [hz] at hy; exact hy)
theorem zq2P {g args rets} {f1 f2 : aM args → Option (aM rets)} (h1 : WA P g args rets f1) (h2 : WA P g args rets f2) : WA P g args rets fun x => zq2N (f1 x) (f2 x) := by
  intro x y hy
  dsimp only at hy
  cases hz : f1 x with
  | some z => exact h1 x y (by rw [hz] at hy ⊢; exact hy)
  | none => exact h2 x y (by rw [hz] at hy; exact hy)
end
open Go Go.RowKit Go.Proofs
set_option maxRecDepth 100000
set_option maxHeartbeats 4000000
abbrev zq36 : List (Nat × Kd) := [(0, .own 29 (.list (.int .i64))), (1, .list (.int .i64)), (5, .int .i64), (100000, .ar 3 (.int .i64))]
abbrev zq1B : List (Ex × List (Nat × Kd)) := [(.exit 0, [(0, .own 29 (.list (.int .i64))), (1, .list (.int .i64)), (5, .int .i64), (100000, .ar 3 (.int .i64))])]
def zq3Q (x : Shape.den zq36) : Option (Shape.den zq36 ⊕ AQ zq1B) := match x with
  | (v0, v1, v5, v100000, ()) =>
    bif ltI v5 (v0.length : Int) then
      bif aE v5 v0.length then bif Nat.blt v5.toNat v0.length then aB (XM ((v0.getD v5.toNat []), v1, ())) fun y2 =>
      bif ltI y2.1 0 then
        some (.inl (v0, v1, (aA .i64 (v5 + 1)), v100000, ()))
      else some (.inr ((v0, v1, v5, v100000, ()))) else none else none
    else some (.inr ((v0, v1, v5, v100000, ())))
def zq2C (x : Shape.den zq36) : Option (AQ zq1B) := aV zq3Q (2 ^ 64) x
def zq1X (v0 : List (List Int)) (x : aM [.list (.int .i64)]) (A : List (List Int)) : Option ((List (List Int)) × List (List Int)) := match x with
  | (v1, ()) =>
    aB (zq2C (v0, v1, 0, A, ())) fun z3 =>
    bif ltI z3.2.2.1 (z3.1.length : Int) then bif aE z3.2.2.1 z3.1.length then bif Nat.blt z3.2.2.1.toNat z3.1.length then aB (kJ ((z3.1.getD z3.2.2.1.toNat []), z3.2.1, ())) fun y4 =>
    bif y4.1 then some (z3.1, z3.2.2.2.1) else none else none else none else none
noncomputable def zq11 : Code := bY Tryz.f31
abbrev zq08 : Env := B1 [bER, aWV]
theorem zq09 : dN Tryz.prog zq08 := aS ⟨aP9, D9, trivial⟩
noncomputable def zq0J : Code := inLoop (QF zq11 0)
def zq2M (id : Nat) : Option cI := bif Nat.beq id 2 then some ⟨zq36, zq1B, zq2C⟩ else none
def zq2Z (id : Nat) : Option cI := none
theorem zq1I : bM zq0J = 2 := by kernel_rfl
theorem zq27 : dV zq0J = [] := by kernel_rfl
theorem zq2U : ∀ x, TD Tryz.prog zq08 45 (xD Tryz.f31) zq2M zq2Z false [] zq0J zq36 zq1B x = zq3Q x := by
  rintro ⟨v0, v1, v5, v100000, ⟨⟩⟩
  kernel_rfl
theorem zq3D : H7 Tryz.prog 45 false [] (.loop zq0J) ⟨zq36, zq1B, zq2C⟩ := by
  exact FI zq09.callee aQ.mixed _ (nK zq27 trivial) zq2U
theorem zq2H : dV zq11 = [.loop zq0J] := by kernel_rfl
theorem zq0P : ∀ l x A, bN9 Tryz.prog zq08 Tryz.f31 (xD Tryz.f31) zq2M zq2Z zq11 3 (.int .i64) (.own 29 (.list (.int .i64))) [.list (.int .i64)] (.own 29 (.list (.int .i64))) l x A = zq1X l x A := by
  rintro u0 ⟨v1, ⟨⟩⟩ A
  kernel_rfl
theorem zq1P : Z6 Tryz.prog 31 3 (.int .i64) (.own 29 (.list (.int .i64))) [.list (.int .i64)] (.own 29 (.list (.int .i64))) zq1X := by
  exact bY6 aQ zq09 Tryz.func31 (c := zq11) Y (keep := xD Tryz.f31) (lt := zq2M) (rt := zq2Z) (by rfl) (nK zq2H ⟨E7 zq1I rfl zq3D, trivial⟩) zq0P
abbrev zq3I : Shr := (31, aGA 1 (arH 3 (.int .i64) (.own 29 (.list (.int .i64))) [.list (.int .i64)] (.own 29 (.list (.int .i64))) zq1X))
theorem zq3J : sT Tryz.prog zq3I := yZ (g := 31) (f := arH 3 (.int .i64) (.own 29 (.list (.int .i64))) [.list (.int .i64)] (.own 29 (.list (.int .i64))) zq1X) (QD zq1P)
abbrev zq35 : List (Nat × Kd) := [(0, .list (.list (.int .i64))), (1, .list (.int .i64)), (5, .int .i64), (100000, .ar 3 (.int .i64))]
abbrev zq1A : List (Ex × List (Nat × Kd)) := [(.exit 0, [(0, .list (.list (.int .i64))), (1, .list (.int .i64)), (5, .int .i64), (100000, .ar 3 (.int .i64))])]
def zq3P (x : Shape.den zq35) : Option (Shape.den zq35 ⊕ AQ zq1A) := match x with
  | (v0, v1, v5, v100000, ()) =>
    bif ltI v5 (v0.length : Int) then
      bif aE v5 v0.length then aB (XM ((v0.getD v5.toNat []), v1, ())) fun y2 =>
      bif ltI y2.1 0 then
        some (.inl (v0, v1, (aA .i64 (v5 + 1)), v100000, ()))
      else some (.inr ((v0, v1, v5, v100000, ()))) else none
    else some (.inr ((v0, v1, v5, v100000, ())))
def zq2B (x : Shape.den zq35) : Option (AQ zq1A) := aV zq3P (2 ^ 64) x
def zq1W (u0 : Unit) (x : aM [.list (.list (.int .i64)), .list (.int .i64)]) (A : List (List Int)) : Option ((List (List Int)) × List (List Int)) := match x with
  | (v0, v1, ()) =>
    aB (zq2B (v0, v1, 0, A, ())) fun z3 =>
    bif ltI z3.2.2.1 (z3.1.length : Int) then
      bif aE z3.2.2.1 z3.1.length then aB (kJ ((z3.1.getD z3.2.2.1.toNat []), z3.2.1, ())) fun y4 =>
      bif y4.1 then none else bif !(ltI z3.2.2.1 0) then bif !(ltI z3.2.2.1 0) then bif Nat.ble 0 z3.2.2.1.toNat then bif Nat.ble z3.2.2.1.toNat z3.2.2.1.toNat then bif Nat.ble z3.2.2.1.toNat z3.1.length then bif !(ltI z3.2.2.1 0) then bif Nat.ble z3.2.2.1.toNat z3.1.length then bif Nat.ble z3.1.length z3.1.length then bif Nat.ble ((z3.1.drop z3.2.2.1.toNat).take (z3.1.length - z3.2.2.1.toNat)).length 1048576 then bif Nat.ble [z3.2.1].length 1048576 then bif Nat.ble ([z3.2.1] ++ ((z3.1.drop z3.2.2.1.toNat).take (z3.1.length - z3.2.2.1.toNat))).length 1048576 then bif Nat.ble ((z3.1.drop 0).take (z3.2.2.1.toNat - 0)).length 1048576 then bif (Nat.beq (z3.2.2.1.toNat - 0) 0 || Nat.blt (z3.2.2.1.toNat - 0) (((z3.1.drop 0).take (z3.2.2.1.toNat - 0)).length + ([z3.2.1] ++ ((z3.1.drop z3.2.2.1.toNat).take (z3.1.length - z3.2.2.1.toNat))).length)) then some ((((z3.1.drop 0).take (z3.2.2.1.toNat - 0)) ++ ([z3.2.1] ++ ((z3.1.drop z3.2.2.1.toNat).take (z3.1.length - z3.2.2.1.toNat)))), z3.2.2.2.1) else none else none else none else none else none else none else none else none else none else none else none else none else none else none
    else bif !(ltI z3.2.2.1 0) then bif !(ltI z3.2.2.1 0) then bif Nat.ble 0 z3.2.2.1.toNat then bif Nat.ble z3.2.2.1.toNat z3.2.2.1.toNat then bif Nat.ble z3.2.2.1.toNat z3.1.length then bif !(ltI z3.2.2.1 0) then bif Nat.ble z3.2.2.1.toNat z3.1.length then bif Nat.ble z3.1.length z3.1.length then bif Nat.ble ((z3.1.drop z3.2.2.1.toNat).take (z3.1.length - z3.2.2.1.toNat)).length 1048576 then bif Nat.ble [z3.2.1].length 1048576 then bif Nat.ble ([z3.2.1] ++ ((z3.1.drop z3.2.2.1.toNat).take (z3.1.length - z3.2.2.1.toNat))).length 1048576 then bif Nat.ble ((z3.1.drop 0).take (z3.2.2.1.toNat - 0)).length 1048576 then bif (Nat.beq (z3.2.2.1.toNat - 0) 0 || Nat.blt (z3.2.2.1.toNat - 0) (((z3.1.drop 0).take (z3.2.2.1.toNat - 0)).length + ([z3.2.1] ++ ((z3.1.drop z3.2.2.1.toNat).take (z3.1.length - z3.2.2.1.toNat))).length)) then some ((((z3.1.drop 0).take (z3.2.2.1.toNat - 0)) ++ ([z3.2.1] ++ ((z3.1.drop z3.2.2.1.toNat).take (z3.1.length - z3.2.2.1.toNat)))), z3.2.2.2.1) else none else none else none else none else none else none else none else none else none else none else none else none else none
noncomputable def zq10 : Code := bY Tryz.f31
abbrev zq06 : Env := B1 [bER, aWV]
theorem zq07 : dN Tryz.prog zq06 := aS ⟨aP9, D9, trivial⟩
noncomputable def zq0I : Code := inLoop (QF zq10 0)
def zq2L (id : Nat) : Option cI := bif Nat.beq id 2 then some ⟨zq35, zq1A, zq2B⟩ else none
def zq2Y (id : Nat) : Option cI := none
theorem zq1H : bM zq0I = 2 := by kernel_rfl
theorem zq26 : dV zq0I = [] := by kernel_rfl
theorem zq2T : ∀ x, TD Tryz.prog zq06 45 (xD Tryz.f31) zq2L zq2Y false [] zq0I zq35 zq1A x = zq3P x := by
  rintro ⟨v0, v1, v5, v100000, ⟨⟩⟩
  kernel_rfl
theorem zq3C : H7 Tryz.prog 45 false [] (.loop zq0I) ⟨zq35, zq1A, zq2B⟩ := by
  exact FI zq07.callee aQ.mixed _ (nK zq26 trivial) zq2T
theorem zq2G : dV zq10 = [.loop zq0I] := by kernel_rfl
theorem zq0O : ∀ l x A, bN9 Tryz.prog zq06 Tryz.f31 (xD Tryz.f31) zq2L zq2Y zq10 3 (.int .i64) .none [.list (.list (.int .i64)), .list (.int .i64)] (.own 29 (.list (.int .i64))) l x A = zq1W l x A := by
  rintro u0 ⟨v0, v1, ⟨⟩⟩ A
  kernel_rfl
theorem zq1O : Z6 Tryz.prog 31 3 (.int .i64) .none [.list (.list (.int .i64)), .list (.int .i64)] (.own 29 (.list (.int .i64))) zq1W := by
  exact bY6 aQ zq07 Tryz.func31 (c := zq10) Y (keep := xD Tryz.f31) (lt := zq2L) (rt := zq2Y) (by rfl) (nK zq2G ⟨E7 zq1H rfl zq3C, trivial⟩) zq0O
abbrev zq3G : Shr := (31, aGA 0 (arH 3 (.int .i64) .none [.list (.list (.int .i64)), .list (.int .i64)] (.own 29 (.list (.int .i64))) zq1W))
theorem zq3H : sT Tryz.prog zq3G := yZ (g := 31) (f := arH 3 (.int .i64) .none [.list (.list (.int .i64)), .list (.int .i64)] (.own 29 (.list (.int .i64))) zq1W) (QD zq1O)
def zq1D (l : List (List Int)) (x : aM [.list (.int .i64)]) (A : List (List Int)) : Option (List (List Int) × List (List Int)) := zq2N (zq1X l x A) (zq1W () (l, x) A)
theorem zq1K : Z6 Tryz.prog 31 3 (.int .i64) (.own 29 (.list (.int .i64))) [.list (.int .i64)] (.own 29 (.list (.int .i64))) zq1D := zq2O zq1P (zq1S zq1O)
abbrev zq37 : Shr := (31, aGA 1 (arH 3 (.int .i64) (.own 29 (.list (.int .i64))) [.list (.int .i64)] (.own 29 (.list (.int .i64))) zq1D))
theorem zq38 : sT Tryz.prog zq37 := yZ (g := 31) (f := arH 3 (.int .i64) (.own 29 (.list (.int .i64))) [.list (.int .i64)] (.own 29 (.list (.int .i64))) zq1D) (QD zq1K)
abbrev zq32 : List (Nat × Kd) := [(1, .box 27 (.prod (.prod (.int .u8) (.prod (.list (.prod (.int .i8) (.prod (.int .i8) (.prod (.int .i8) (.int .i8))))) .bool)) (.prod (.list (.prod (.int .i8) (.prod (.int .i8) (.prod (.int .i8) (.int .i8))))) (.prod (.list (.list (.prod (.int .i8) (.prod (.int .i8) (.prod (.int .i8) (.int .i8)))))) (.int .u8))))), (2, .box 41 (.prod (.prod (.prod (.list (.int .i64)) (.prod (.list (.list (.int .i64))) (.list (.list (.int .i64))))) (.list (.list (.int .i64)))) (.prod (.list (.list (.list (.int .i64)))) (.int .i64)))), (4, .box 36 (.prod (.list (.int .i64)) (.prod (.list (.list (.int .i64))) (.list (.list (.int .i64)))))), (5, .bag 41 (.prod (.list (.int .i64)) (.prod (.list (.list (.int .i64))) (.prod (.list (.list (.int .i64))) (.list (.list (.int .i64)))))) 33 (.list (.list (.int .i64))) (some (.int .i64))), (6, .own 3 (.int .i64)), (7, .own 29 (.list (.int .i64))), (8, .own 69 (.prod (.int .i8) (.prod (.int .i8) (.prod (.int .i8) (.int .i8))))), (9, .int .i64), (100000, .ar 3 (.int .i64))]
abbrev zq17 : List (Ex × List (Nat × Kd)) := [(.exit 0, [(1, .box 27 (.prod (.prod (.int .u8) (.prod (.list (.prod (.int .i8) (.prod (.int .i8) (.prod (.int .i8) (.int .i8))))) .bool)) (.prod (.list (.prod (.int .i8) (.prod (.int .i8) (.prod (.int .i8) (.int .i8))))) (.prod (.list (.list (.prod (.int .i8) (.prod (.int .i8) (.prod (.int .i8) (.int .i8)))))) (.int .u8))))), (2, .box 41 (.prod (.prod (.prod (.list (.int .i64)) (.prod (.list (.list (.int .i64))) (.list (.list (.int .i64))))) (.list (.list (.int .i64)))) (.prod (.list (.list (.list (.int .i64)))) (.int .i64)))), (4, .box 36 (.prod (.list (.int .i64)) (.prod (.list (.list (.int .i64))) (.list (.list (.int .i64)))))), (5, .bag 41 (.prod (.list (.int .i64)) (.prod (.list (.list (.int .i64))) (.prod (.list (.list (.int .i64))) (.list (.list (.int .i64)))))) 33 (.list (.list (.int .i64))) (some (.int .i64))), (6, .own 3 (.int .i64)), (7, .own 29 (.list (.int .i64))), (100000, .ar 3 (.int .i64))])]
def zq3M (x : Shape.den zq32) : Option (Shape.den zq32 ⊕ AQ zq17) := match x with
  | (v1, v2, v4, v5, v6, v7, v8, v9, v100000, ()) =>
    bif ltI v9 (v8.length : Int) then
      bif aE v9 v8.length then bif Nat.blt v9.toNat v8.length then aB (mI (v4.1, ((v8.getD v9.toNat (0, (0, (0, 0)))).1, ((v8.getD v9.toNat (0, (0, (0, 0)))).2.1, ((v8.getD v9.toNat (0, (0, (0, 0)))).2.2.1, (v8.getD v9.toNat (0, (0, (0, 0)))).2.2.2))), ())) fun y7 =>
      aB (lV ((v4.1, (v4.2.1, v4.2.2)), y7.1, ())) fun y8 =>
      aB (eH ((v4.1, (v4.2.1, v4.2.2)), y8.1, ())) fun y9 =>
      aB (zq1D v7 (y9.1, ()) v100000) fun y10 =>
      some (.inl (((v1.1.1, (v1.1.2.1, v1.1.2.2)), (v1.2.1, (v1.2.2.1, v1.2.2.2))), (((v2.1.1.1, (v2.1.1.2.1, v2.1.1.2.2)), v2.1.2), (v2.2.1, v2.2.2)), (v4.1, (v4.2.1, v4.2.2)), ((v5.1.1, (v5.1.2.1, (v5.1.2.2.1, v5.1.2.2.2))), (v5.2.1, v5.2.2)), v6, y10.1, v8, (aA .i64 (v9 + 1)), y10.2, ())) else none else none
    else some (.inr ((((v1.1.1, (v1.1.2.1, v1.1.2.2)), (v1.2.1, (v1.2.2.1, v1.2.2.2))), (((v2.1.1.1, (v2.1.1.2.1, v2.1.1.2.2)), v2.1.2), (v2.2.1, v2.2.2)), (v4.1, (v4.2.1, v4.2.2)), ((v5.1.1, (v5.1.2.1, (v5.1.2.2.1, v5.1.2.2.2))), (v5.2.1, v5.2.2)), v6, v7, v100000, ())))
def zq28 (x : Shape.den zq32) : Option (AQ zq17) := aV zq3M (2 ^ 64) x
abbrev zq33 : List (Nat × Kd) := [(1, .box 27 (.prod (.prod (.int .u8) (.prod (.list (.prod (.int .i8) (.prod (.int .i8) (.prod (.int .i8) (.int .i8))))) .bool)) (.prod (.list (.prod (.int .i8) (.prod (.int .i8) (.prod (.int .i8) (.int .i8))))) (.prod (.list (.list (.prod (.int .i8) (.prod (.int .i8) (.prod (.int .i8) (.int .i8)))))) (.int .u8))))), (2, .box 41 (.prod (.prod (.prod (.list (.int .i64)) (.prod (.list (.list (.int .i64))) (.list (.list (.int .i64))))) (.list (.list (.int .i64)))) (.prod (.list (.list (.list (.int .i64)))) (.int .i64)))), (4, .box 36 (.prod (.list (.int .i64)) (.prod (.list (.list (.int .i64))) (.list (.list (.int .i64)))))), (5, .bag2 41 ((.prod (.list (.int .i64)) (.prod (.list (.list (.int .i64))) (.list (.list (.int .i64))))), some (.int .i64)) 29 (.list (.int .i64)) 33 (.list (.list (.int .i64)))), (6, .list (.int .i64)), (10, .int .i64), (11, .own 29 (.list (.int .i64))), (12, .int .i64), (100000, .ar 3 (.int .i64))]
abbrev zq18 : List (Ex × List (Nat × Kd)) := [(.exit 4, [(1, .box 27 (.prod (.prod (.int .u8) (.prod (.list (.prod (.int .i8) (.prod (.int .i8) (.prod (.int .i8) (.int .i8))))) .bool)) (.prod (.list (.prod (.int .i8) (.prod (.int .i8) (.prod (.int .i8) (.int .i8))))) (.prod (.list (.list (.prod (.int .i8) (.prod (.int .i8) (.prod (.int .i8) (.int .i8)))))) (.int .u8))))), (2, .box 41 (.prod (.prod (.prod (.list (.int .i64)) (.prod (.list (.list (.int .i64))) (.list (.list (.int .i64))))) (.list (.list (.int .i64)))) (.prod (.list (.list (.list (.int .i64)))) (.int .i64)))), (4, .box 36 (.prod (.list (.int .i64)) (.prod (.list (.list (.int .i64))) (.list (.list (.int .i64)))))), (5, .bag2 41 ((.prod (.list (.int .i64)) (.prod (.list (.list (.int .i64))) (.list (.list (.int .i64))))), some (.int .i64)) 29 (.list (.int .i64)) 33 (.list (.list (.int .i64)))), (6, .list (.int .i64)), (10, .int .i64), (11, .own 29 (.list (.int .i64))), (100000, .ar 3 (.int .i64))])]
def zq3N (x : Shape.den zq33) : Option (Shape.den zq33 ⊕ AQ zq18) := match x with
  | (v1, v2, v4, v5, v6, v10, v11, v12, v100000, ()) =>
    bif aE v10 v1.2.2.1.length then bif ltI v12 ((v1.2.2.1.getD v10.toNat []).length : Int) then
      bif aE v10 v1.2.2.1.length then bif aE v12 (v1.2.2.1.getD v10.toNat []).length then aB (mI (v4.1, (((v1.2.2.1.getD v10.toNat []).getD v12.toNat (0, (0, (0, 0)))).1, (((v1.2.2.1.getD v10.toNat []).getD v12.toNat (0, (0, (0, 0)))).2.1, (((v1.2.2.1.getD v10.toNat []).getD v12.toNat (0, (0, (0, 0)))).2.2.1, ((v1.2.2.1.getD v10.toNat []).getD v12.toNat (0, (0, (0, 0)))).2.2.2))), ())) fun y13 =>
      bif Nat.ble [y13.1].length 1048576 then bif Nat.ble v11.length 1048576 then some (.inl (((v1.1.1, (v1.1.2.1, v1.1.2.2)), (v1.2.1, (v1.2.2.1, v1.2.2.2))), (((v2.1.1.1, (v2.1.1.2.1, v2.1.1.2.2)), v2.1.2), (v2.2.1, v2.2.2)), (v4.1, (v4.2.1, v4.2.2)), (((v5.1.1.1, (v5.1.1.2.1, v5.1.1.2.2)), v5.1.2), (v5.2.1, v5.2.2)), v6, v10, (v11 ++ [y13.1]), (aA .i64 (v12 + 1)), v100000, ())) else none else none else none else none
    else some (.inr ((((v1.1.1, (v1.1.2.1, v1.1.2.2)), (v1.2.1, (v1.2.2.1, v1.2.2.2))), (((v2.1.1.1, (v2.1.1.2.1, v2.1.1.2.2)), v2.1.2), (v2.2.1, v2.2.2)), (v4.1, (v4.2.1, v4.2.2)), (((v5.1.1.1, (v5.1.1.2.1, v5.1.1.2.2)), v5.1.2), (v5.2.1, v5.2.2)), v6, v10, v11, v100000, ()))) else none
def zq29 (x : Shape.den zq33) : Option (AQ zq18) := aV zq3N (2 ^ 64) x
abbrev zq34 : List (Nat × Kd) := [(1, .box 27 (.prod (.prod (.int .u8) (.prod (.list (.prod (.int .i8) (.prod (.int .i8) (.prod (.int .i8) (.int .i8))))) .bool)) (.prod (.list (.prod (.int .i8) (.prod (.int .i8) (.prod (.int .i8) (.int .i8))))) (.prod (.list (.list (.prod (.int .i8) (.prod (.int .i8) (.prod (.int .i8) (.int .i8)))))) (.int .u8))))), (2, .box 41 (.prod (.prod (.prod (.list (.int .i64)) (.prod (.list (.list (.int .i64))) (.list (.list (.int .i64))))) (.list (.list (.int .i64)))) (.prod (.list (.list (.list (.int .i64)))) (.int .i64)))), (4, .box 36 (.prod (.list (.int .i64)) (.prod (.list (.list (.int .i64))) (.list (.list (.int .i64)))))), (5, .bag2 41 ((.prod (.list (.int .i64)) (.prod (.list (.list (.int .i64))) (.list (.list (.int .i64))))), some (.int .i64)) 29 (.list (.int .i64)) 33 (.list (.list (.int .i64)))), (6, .list (.int .i64)), (10, .int .i64), (100000, .ar 3 (.int .i64))]
abbrev zq19 : List (Ex × List (Nat × Kd)) := [(.exit 2, [(2, .box 41 (.prod (.prod (.prod (.list (.int .i64)) (.prod (.list (.list (.int .i64))) (.list (.list (.int .i64))))) (.list (.list (.int .i64)))) (.prod (.list (.list (.list (.int .i64)))) (.int .i64)))), (5, .bag2 41 ((.prod (.list (.int .i64)) (.prod (.list (.list (.int .i64))) (.list (.list (.int .i64))))), some (.int .i64)) 29 (.list (.int .i64)) 33 (.list (.list (.int .i64)))), (6, .list (.int .i64)), (100000, .ar 3 (.int .i64))])]
def zq3O (x : Shape.den zq34) : Option (Shape.den zq34 ⊕ AQ zq19) := match x with
  | (v1, v2, v4, v5, v6, v10, v100000, ()) =>
    bif ltI v10 (v1.2.2.1.length : Int) then
      aB (zq29 (((v1.1.1, (v1.1.2.1, v1.1.2.2)), (v1.2.1, (v1.2.2.1, v1.2.2.2))), (((v2.1.1.1, (v2.1.1.2.1, v2.1.1.2.2)), v2.1.2), (v2.2.1, v2.2.2)), (v4.1, (v4.2.1, v4.2.2)), (((v5.1.1.1, (v5.1.1.2.1, v5.1.1.2.2)), v5.1.2), (v5.2.1, v5.2.2)), v6, v10, [v6], 0, v100000, ())) fun z15 =>
      bif Nat.ble [z15.2.2.2.2.2.2.1].length 1048576 then bif Nat.ble z15.2.2.2.1.2.2.length 1048576 then some (.inl (((z15.1.1.1, (z15.1.1.2.1, z15.1.1.2.2)), (z15.1.2.1, (z15.1.2.2.1, z15.1.2.2.2))), (((z15.2.1.1.1.1, (z15.2.1.1.1.2.1, z15.2.1.1.1.2.2)), z15.2.1.1.2), (z15.2.1.2.1, z15.2.1.2.2)), (z15.2.2.1.1, (z15.2.2.1.2.1, z15.2.2.1.2.2)), (((z15.2.2.2.1.1.1.1, (z15.2.2.2.1.1.1.2.1, z15.2.2.2.1.1.1.2.2)), z15.2.2.2.1.1.2), (z15.2.2.2.1.2.1, (z15.2.2.2.1.2.2 ++ [z15.2.2.2.2.2.2.1]))), z15.2.2.2.2.1, (aA .i64 (z15.2.2.2.2.2.1 + 1)), z15.2.2.2.2.2.2.2.1, ())) else none else none
    else some (.inr (((((v2.1.1.1, (v2.1.1.2.1, v2.1.1.2.2)), v2.1.2), (v2.2.1, v2.2.2)), (((v5.1.1.1, (v5.1.1.2.1, v5.1.1.2.2)), v5.1.2), (v5.2.1, v5.2.2)), v6, v100000, ())))
def zq2A (x : Shape.den zq34) : Option (AQ zq19) := aV zq3O (2 ^ 64) x
def zq1V (u0 : Unit) (x : aM [.agg (.prod (.prod (.int .u8) (.prod (.list (.prod (.int .i8) (.prod (.int .i8) (.prod (.int .i8) (.int .i8))))) .bool)) (.prod (.list (.prod (.int .i8) (.prod (.int .i8) (.prod (.int .i8) (.int .i8))))) (.prod (.list (.list (.prod (.int .i8) (.prod (.int .i8) (.prod (.int .i8) (.int .i8)))))) (.int .u8))))]) (A : List (List Int)) : Option ((((List Int) × ((List (List Int)) × (List (List Int)))) × List (List Int) × ((List (List (List Int))) × Int)) × List (List Int)) := match x with
  | (v0, ()) =>
    aB (vF ((v0.1.1, (v0.1.2.1, v0.1.2.2)), ())) fun y1 =>
    bif !(ltI (y1.1.1.length : Int) 0) then bif !(ltI (y1.1.1.length : Int) (y1.1.1.length : Int)) then bif !(ltI 1048576 (y1.1.1.length : Int)) then aB (AA ((y1.1.1, (y1.1.2.1, y1.1.2.2)), ())) fun y2 =>
    bif y2.1 then none else bif Nat.ble v0.2.1.length 1048576 then bif Nat.ble [(0, (0, (0, 0)))].length 1048576 then aB (zq28 (((v0.1.1, (v0.1.2.1, v0.1.2.2)), (v0.2.1, (v0.2.2.1, v0.2.2.2))), ((([], ([], [])), []), ([], 0)), (y1.1.1, (y1.1.2.1, y1.1.2.2)), ((y1.1.1, (y1.1.2.1, (y1.1.2.2, []))), ([], (aA .i64 (1 + (IntKind.wrap .i64 (v0.2.2.2.tmod 3)))))), (List.replicate ((y1.1.1.length : Int).toNat) (0 : Ty.den (.int .i64))), [], ([(0, (0, (0, 0)))] ++ v0.2.1), 0, A, ())) fun z11 =>
    aB (zq2A (((z11.1.1.1, (z11.1.1.2.1, z11.1.1.2.2)), (z11.1.2.1, (z11.1.2.2.1, z11.1.2.2.2))), (((z11.2.1.1.1.1, (z11.2.1.1.1.2.1, z11.2.1.1.1.2.2)), z11.2.1.1.2), (z11.2.1.2.1, z11.2.1.2.2)), (z11.2.2.1.1, (z11.2.2.1.2.1, z11.2.2.1.2.2)), (((z11.2.2.2.1.1.1, (z11.2.2.2.1.1.2.1, z11.2.2.2.1.1.2.2.1)), z11.2.2.2.1.2.2), (z11.2.2.2.2.2.1, z11.2.2.2.1.2.1)), z11.2.2.2.2.1, 0, z11.2.2.2.2.2.2.1, ())) fun z16 =>
    bif eqI (z16.2.1.2.2.length : Int) 0 then
      some (((z16.2.1.1.1.1, (z16.2.1.1.1.2.1, z16.2.1.1.1.2.2)), (z16.2.1.2.1, ([[z16.2.2.1]], z16.2.1.1.2))), z16.2.2.2.1)
    else some (((z16.2.1.1.1.1, (z16.2.1.1.1.2.1, z16.2.1.1.1.2.2)), (z16.2.1.2.1, (z16.2.1.2.2, z16.2.1.1.2))), z16.2.2.2.1) else none else none else none else none else none
noncomputable def zq0Z : Code := bY Tryz.f14
abbrev zq04 : Env := RP [MK, UN, S1, U7, P9] [zq37]
theorem zq05 : dN Tryz.prog zq04 := jH ⟨HG, YP, M3, YX, LS, trivial⟩ ⟨zq38, trivial⟩
noncomputable def zq0F : Code := inLoop (QF zq0Z 0)
noncomputable def zq0H : Code := inLoop (QF zq0Z 1)
noncomputable def zq0G : Code := inLoop (QF zq0H 0)
def zq2K (id : Nat) : Option cI := bif Nat.beq id 9 then some ⟨zq32, zq17, zq28⟩ else bif Nat.beq id 18 then some ⟨zq33, zq18, zq29⟩ else bif Nat.beq id 14 then some ⟨zq34, zq19, zq2A⟩ else none
def zq2X (id : Nat) : Option cI := none
theorem zq1E : bM zq0F = 9 := by kernel_rfl
theorem zq23 : dV zq0F = [] := by kernel_rfl
theorem zq2Q : ∀ x, TD Tryz.prog zq04 106 (xD Tryz.f14) zq2K zq2X false [] zq0F zq32 zq17 x = zq3M x := by
  rintro ⟨v1, v2, v4, v5, v6, v7, v8, v9, v100000, ⟨⟩⟩
  kernel_rfl
theorem zq39 : H7 Tryz.prog 106 false [] (.loop zq0F) ⟨zq32, zq17, zq28⟩ := by
  exact FI zq05.callee aQ.mixed _ (nK zq23 trivial) zq2Q
theorem zq1F : bM zq0G = 18 := by kernel_rfl
theorem zq24 : dV zq0G = [] := by kernel_rfl
theorem zq2R : ∀ x, TD Tryz.prog zq04 106 (xD Tryz.f14) zq2K zq2X false [] zq0G zq33 zq18 x = zq3N x := by
  rintro ⟨v1, v2, v4, v5, v6, v10, v11, v12, v100000, ⟨⟩⟩
  kernel_rfl
theorem zq3A : H7 Tryz.prog 106 false [] (.loop zq0G) ⟨zq33, zq18, zq29⟩ := by
  exact FI zq05.callee aQ.mixed _ (nK zq24 trivial) zq2R
theorem zq1G : bM zq0H = 14 := by kernel_rfl
theorem zq25 : dV zq0H = [.loop zq0G] := by kernel_rfl
theorem zq2S : ∀ x, TD Tryz.prog zq04 106 (xD Tryz.f14) zq2K zq2X false [] zq0H zq34 zq19 x = zq3O x := by
  rintro ⟨v1, v2, v4, v5, v6, v10, v100000, ⟨⟩⟩
  kernel_rfl
theorem zq3B : H7 Tryz.prog 106 false [] (.loop zq0H) ⟨zq34, zq19, zq2A⟩ := by
  exact FI zq05.callee aQ.mixed _ (nK zq25 ⟨E7 zq1F rfl zq3A, trivial⟩) zq2S
theorem zq2F : dV zq0Z = [.loop zq0F, .loop zq0H] := by kernel_rfl
theorem zq0N : ∀ l x A, bN9 Tryz.prog zq04 Tryz.f14 (xD Tryz.f14) zq2K zq2X zq0Z 3 (.int .i64) .none [.agg (.prod (.prod (.int .u8) (.prod (.list (.prod (.int .i8) (.prod (.int .i8) (.prod (.int .i8) (.int .i8))))) .bool)) (.prod (.list (.prod (.int .i8) (.prod (.int .i8) (.prod (.int .i8) (.int .i8))))) (.prod (.list (.list (.prod (.int .i8) (.prod (.int .i8) (.prod (.int .i8) (.int .i8)))))) (.int .u8))))] (.str (.prod (.list (.int .i64)) (.prod (.list (.list (.int .i64))) (.list (.list (.int .i64))))) 29 (.list (.int .i64)) (.prod (.list (.list (.list (.int .i64)))) (.int .i64))) l x A = zq1V l x A := by
  rintro u0 ⟨v0, ⟨⟩⟩ A
  kernel_rfl
theorem zq1N : Z6 Tryz.prog 14 3 (.int .i64) .none [.agg (.prod (.prod (.int .u8) (.prod (.list (.prod (.int .i8) (.prod (.int .i8) (.prod (.int .i8) (.int .i8))))) .bool)) (.prod (.list (.prod (.int .i8) (.prod (.int .i8) (.prod (.int .i8) (.int .i8))))) (.prod (.list (.list (.prod (.int .i8) (.prod (.int .i8) (.prod (.int .i8) (.int .i8)))))) (.int .u8))))] (.str (.prod (.list (.int .i64)) (.prod (.list (.list (.int .i64))) (.list (.list (.int .i64))))) 29 (.list (.int .i64)) (.prod (.list (.list (.list (.int .i64)))) (.int .i64))) zq1V := by
  exact bY6 aQ zq05 Tryz.func14 (c := zq0Z) Y (keep := xD Tryz.f14) (lt := zq2K) (rt := zq2X) (by rfl) (nK zq2F ⟨E7 zq1E rfl zq39, E7 zq1G rfl zq3B, trivial⟩) zq0N
abbrev zq3E : Shr := (14, aGA 0 (arH 3 (.int .i64) .none [.agg (.prod (.prod (.int .u8) (.prod (.list (.prod (.int .i8) (.prod (.int .i8) (.prod (.int .i8) (.int .i8))))) .bool)) (.prod (.list (.prod (.int .i8) (.prod (.int .i8) (.prod (.int .i8) (.int .i8))))) (.prod (.list (.list (.prod (.int .i8) (.prod (.int .i8) (.prod (.int .i8) (.int .i8)))))) (.int .u8))))] (.str (.prod (.list (.int .i64)) (.prod (.list (.list (.int .i64))) (.list (.list (.int .i64))))) 29 (.list (.int .i64)) (.prod (.list (.list (.list (.int .i64)))) (.int .i64))) zq1V))
theorem zq3F : sT Tryz.prog zq3E := yZ (g := 14) (f := arH 3 (.int .i64) .none [.agg (.prod (.prod (.int .u8) (.prod (.list (.prod (.int .i8) (.prod (.int .i8) (.prod (.int .i8) (.int .i8))))) .bool)) (.prod (.list (.prod (.int .i8) (.prod (.int .i8) (.prod (.int .i8) (.int .i8))))) (.prod (.list (.list (.prod (.int .i8) (.prod (.int .i8) (.prod (.int .i8) (.int .i8)))))) (.int .u8))))] (.str (.prod (.list (.int .i64)) (.prod (.list (.list (.int .i64))) (.list (.list (.int .i64))))) 29 (.list (.int .i64)) (.prod (.list (.list (.list (.int .i64)))) (.int .i64))) zq1V) (QD zq1N)
def zq1T (x : aM [.agg (.prod (.prod (.int .u8) (.prod (.list (.prod (.int .i8) (.prod (.int .i8) (.prod (.int .i8) (.int .i8))))) .bool)) (.prod (.list (.prod (.int .i8) (.prod (.int .i8) (.prod (.int .i8) (.int .i8))))) (.prod (.list (.list (.prod (.int .i8) (.prod (.int .i8) (.prod (.int .i8) (.int .i8)))))) (.int .u8)))), .int .u8, .list (.int .i64)]) : Option (aM [.bool]) := match x with
  | (v0, v1, v2, ()) =>
    aB (aZ (())) fun y1 =>
    bif y1.1 then
      aB (dU (((v0.1.1, (v0.1.2.1, v0.1.2.2)), (v0.2.1, (v0.2.2.1, v0.2.2.2))), ())) fun y2 =>
      bif y2.1 then
        bif ltI 8 (v2.length : Int) then
          aB (aZ (())) fun y3 =>
          some (y3.1, ())
        else aB (zq1V () (((v0.1.1, (v0.1.2.1, v0.1.2.2)), (v0.2.1, (v0.2.2.1, v0.2.2.2))), ()) []) fun y4 =>
        bif eqI (y4.1.2.1.length : Int) 0 then none else bif aE ((IntKind.wrap .i64 v1).tmod (y4.1.2.1.length : Int)) y4.1.2.1.length then bif Nat.blt (((IntKind.wrap .i64 v1).tmod (y4.1.2.1.length : Int)).toNat) y4.1.2.1.length then aB (kH (v2, ())) fun y5 =>
        aB (W9 (v2, ())) fun y6 =>
        bif eqI y5.1 0 then
          bif ltI 10000 y6.1 then
            some (true, ())
          else bif !(eqI y5.1 0) then
            aB (K4 ((((y4.1.1.1, (y4.1.1.2.1, y4.1.1.2.2)), (y4.1.2.1.set (((IntKind.wrap .i64 v1).tmod (y4.1.2.1.length : Int)).toNat) v2)), (y4.1.2.2.1, y4.1.2.2.2)), ())) fun y7 =>
            some (eqI y7.1 y5.1, ())
          else bif !(eqI (v2.length : Int) (y4.1.1.2.2.length : Int)) then
            aB (K4 ((((y4.1.1.1, (y4.1.1.2.1, y4.1.1.2.2)), (y4.1.2.1.set (((IntKind.wrap .i64 v1).tmod (y4.1.2.1.length : Int)).toNat) v2)), (y4.1.2.2.1, y4.1.2.2.2)), ())) fun y8 =>
            some (eqI y8.1 5, ())
          else aB (eH ((y4.1.1.1, (y4.1.1.2.1, y4.1.1.2.2)), v2, ())) fun y9 =>
          aB (kJ (y9.1, v2, ())) fun y10 =>
          bif y10.1 then
            bif ltI 0 ((IntKind.wrap .i64 v1).tmod (y4.1.2.1.length : Int)) then
              bif aE (aA .i64 (((IntKind.wrap .i64 v1).tmod (y4.1.2.1.length : Int)) - 1)) (y4.1.2.1.set (((IntKind.wrap .i64 v1).tmod (y4.1.2.1.length : Int)).toNat) v2).length then bif Nat.blt ((aA .i64 (((IntKind.wrap .i64 v1).tmod (y4.1.2.1.length : Int)) - 1)).toNat) (y4.1.2.1.set (((IntKind.wrap .i64 v1).tmod (y4.1.2.1.length : Int)).toNat) v2).length then aB (XM (((y4.1.2.1.set (((IntKind.wrap .i64 v1).tmod (y4.1.2.1.length : Int)).toNat) v2).getD ((aA .i64 (((IntKind.wrap .i64 v1).tmod (y4.1.2.1.length : Int)) - 1)).toNat) []), v2, ())) fun y11 =>
              bif !(ltI y11.1 0) then
                aB (K4 ((((y4.1.1.1, (y4.1.1.2.1, y4.1.1.2.2)), (y4.1.2.1.set (((IntKind.wrap .i64 v1).tmod (y4.1.2.1.length : Int)).toNat) v2)), (y4.1.2.2.1, y4.1.2.2.2)), ())) fun y12 =>
                some (eqI y12.1 6, ())
              else bif ltI (aA .i64 (((IntKind.wrap .i64 v1).tmod (y4.1.2.1.length : Int)) + 1)) ((y4.1.2.1.set (((IntKind.wrap .i64 v1).tmod (y4.1.2.1.length : Int)).toNat) v2).length : Int) then
                bif aE (aA .i64 (((IntKind.wrap .i64 v1).tmod (y4.1.2.1.length : Int)) + 1)) (y4.1.2.1.set (((IntKind.wrap .i64 v1).tmod (y4.1.2.1.length : Int)).toNat) v2).length then bif Nat.blt ((aA .i64 (((IntKind.wrap .i64 v1).tmod (y4.1.2.1.length : Int)) + 1)).toNat) (y4.1.2.1.set (((IntKind.wrap .i64 v1).tmod (y4.1.2.1.length : Int)).toNat) v2).length then aB (XM (v2, ((y4.1.2.1.set (((IntKind.wrap .i64 v1).tmod (y4.1.2.1.length : Int)).toNat) v2).getD ((aA .i64 (((IntKind.wrap .i64 v1).tmod (y4.1.2.1.length : Int)) + 1)).toNat) []), ())) fun y13 =>
                bif !(ltI y13.1 0) then
                  aB (K4 ((((y4.1.1.1, (y4.1.1.2.1, y4.1.1.2.2)), (y4.1.2.1.set (((IntKind.wrap .i64 v1).tmod (y4.1.2.1.length : Int)).toNat) v2)), (y4.1.2.2.1, y4.1.2.2.2)), ())) fun y14 =>
                  some (eqI y14.1 6, ())
                else aB (K4 ((((y4.1.1.1, (y4.1.1.2.1, y4.1.1.2.2)), (y4.1.2.1.set (((IntKind.wrap .i64 v1).tmod (y4.1.2.1.length : Int)).toNat) v2)), (y4.1.2.2.1, y4.1.2.2.2)), ())) fun y15 =>
                some (eqI y15.1 y5.1, ()) else none else none
              else aB (K4 ((((y4.1.1.1, (y4.1.1.2.1, y4.1.1.2.2)), (y4.1.2.1.set (((IntKind.wrap .i64 v1).tmod (y4.1.2.1.length : Int)).toNat) v2)), (y4.1.2.2.1, y4.1.2.2.2)), ())) fun y16 =>
              some (eqI y16.1 y5.1, ()) else none else none
            else bif ltI (aA .i64 (((IntKind.wrap .i64 v1).tmod (y4.1.2.1.length : Int)) + 1)) ((y4.1.2.1.set (((IntKind.wrap .i64 v1).tmod (y4.1.2.1.length : Int)).toNat) v2).length : Int) then
              bif aE (aA .i64 (((IntKind.wrap .i64 v1).tmod (y4.1.2.1.length : Int)) + 1)) (y4.1.2.1.set (((IntKind.wrap .i64 v1).tmod (y4.1.2.1.length : Int)).toNat) v2).length then bif Nat.blt ((aA .i64 (((IntKind.wrap .i64 v1).tmod (y4.1.2.1.length : Int)) + 1)).toNat) (y4.1.2.1.set (((IntKind.wrap .i64 v1).tmod (y4.1.2.1.length : Int)).toNat) v2).length then aB (XM (v2, ((y4.1.2.1.set (((IntKind.wrap .i64 v1).tmod (y4.1.2.1.length : Int)).toNat) v2).getD ((aA .i64 (((IntKind.wrap .i64 v1).tmod (y4.1.2.1.length : Int)) + 1)).toNat) []), ())) fun y17 =>
              bif !(ltI y17.1 0) then
                aB (K4 ((((y4.1.1.1, (y4.1.1.2.1, y4.1.1.2.2)), (y4.1.2.1.set (((IntKind.wrap .i64 v1).tmod (y4.1.2.1.length : Int)).toNat) v2)), (y4.1.2.2.1, y4.1.2.2.2)), ())) fun y18 =>
                some (eqI y18.1 6, ())
              else aB (K4 ((((y4.1.1.1, (y4.1.1.2.1, y4.1.1.2.2)), (y4.1.2.1.set (((IntKind.wrap .i64 v1).tmod (y4.1.2.1.length : Int)).toNat) v2)), (y4.1.2.2.1, y4.1.2.2.2)), ())) fun y19 =>
              some (eqI y19.1 y5.1, ()) else none else none
            else aB (K4 ((((y4.1.1.1, (y4.1.1.2.1, y4.1.1.2.2)), (y4.1.2.1.set (((IntKind.wrap .i64 v1).tmod (y4.1.2.1.length : Int)).toNat) v2)), (y4.1.2.2.1, y4.1.2.2.2)), ())) fun y20 =>
            some (eqI y20.1 y5.1, ())
          else aB (K4 ((((y4.1.1.1, (y4.1.1.2.1, y4.1.1.2.2)), (y4.1.2.1.set (((IntKind.wrap .i64 v1).tmod (y4.1.2.1.length : Int)).toNat) v2)), (y4.1.2.2.1, y4.1.2.2.2)), ())) fun y21 =>
          some (eqI y21.1 7, ())
        else bif !(eqI y5.1 0) then
          aB (K4 ((((y4.1.1.1, (y4.1.1.2.1, y4.1.1.2.2)), (y4.1.2.1.set (((IntKind.wrap .i64 v1).tmod (y4.1.2.1.length : Int)).toNat) v2)), (y4.1.2.2.1, y4.1.2.2.2)), ())) fun y22 =>
          some (eqI y22.1 y5.1, ())
        else bif !(eqI (v2.length : Int) (y4.1.1.2.2.length : Int)) then
          aB (K4 ((((y4.1.1.1, (y4.1.1.2.1, y4.1.1.2.2)), (y4.1.2.1.set (((IntKind.wrap .i64 v1).tmod (y4.1.2.1.length : Int)).toNat) v2)), (y4.1.2.2.1, y4.1.2.2.2)), ())) fun y23 =>
          some (eqI y23.1 5, ())
        else aB (eH ((y4.1.1.1, (y4.1.1.2.1, y4.1.1.2.2)), v2, ())) fun y24 =>
        aB (kJ (y24.1, v2, ())) fun y25 =>
        bif y25.1 then
          bif ltI 0 ((IntKind.wrap .i64 v1).tmod (y4.1.2.1.length : Int)) then
            bif aE (aA .i64 (((IntKind.wrap .i64 v1).tmod (y4.1.2.1.length : Int)) - 1)) (y4.1.2.1.set (((IntKind.wrap .i64 v1).tmod (y4.1.2.1.length : Int)).toNat) v2).length then bif Nat.blt ((aA .i64 (((IntKind.wrap .i64 v1).tmod (y4.1.2.1.length : Int)) - 1)).toNat) (y4.1.2.1.set (((IntKind.wrap .i64 v1).tmod (y4.1.2.1.length : Int)).toNat) v2).length then aB (XM (((y4.1.2.1.set (((IntKind.wrap .i64 v1).tmod (y4.1.2.1.length : Int)).toNat) v2).getD ((aA .i64 (((IntKind.wrap .i64 v1).tmod (y4.1.2.1.length : Int)) - 1)).toNat) []), v2, ())) fun y26 =>
            bif !(ltI y26.1 0) then
              aB (K4 ((((y4.1.1.1, (y4.1.1.2.1, y4.1.1.2.2)), (y4.1.2.1.set (((IntKind.wrap .i64 v1).tmod (y4.1.2.1.length : Int)).toNat) v2)), (y4.1.2.2.1, y4.1.2.2.2)), ())) fun y27 =>
              some (eqI y27.1 6, ())
            else bif ltI (aA .i64 (((IntKind.wrap .i64 v1).tmod (y4.1.2.1.length : Int)) + 1)) ((y4.1.2.1.set (((IntKind.wrap .i64 v1).tmod (y4.1.2.1.length : Int)).toNat) v2).length : Int) then
              bif aE (aA .i64 (((IntKind.wrap .i64 v1).tmod (y4.1.2.1.length : Int)) + 1)) (y4.1.2.1.set (((IntKind.wrap .i64 v1).tmod (y4.1.2.1.length : Int)).toNat) v2).length then bif Nat.blt ((aA .i64 (((IntKind.wrap .i64 v1).tmod (y4.1.2.1.length : Int)) + 1)).toNat) (y4.1.2.1.set (((IntKind.wrap .i64 v1).tmod (y4.1.2.1.length : Int)).toNat) v2).length then aB (XM (v2, ((y4.1.2.1.set (((IntKind.wrap .i64 v1).tmod (y4.1.2.1.length : Int)).toNat) v2).getD ((aA .i64 (((IntKind.wrap .i64 v1).tmod (y4.1.2.1.length : Int)) + 1)).toNat) []), ())) fun y28 =>
              bif !(ltI y28.1 0) then
                aB (K4 ((((y4.1.1.1, (y4.1.1.2.1, y4.1.1.2.2)), (y4.1.2.1.set (((IntKind.wrap .i64 v1).tmod (y4.1.2.1.length : Int)).toNat) v2)), (y4.1.2.2.1, y4.1.2.2.2)), ())) fun y29 =>
                some (eqI y29.1 6, ())
              else aB (K4 ((((y4.1.1.1, (y4.1.1.2.1, y4.1.1.2.2)), (y4.1.2.1.set (((IntKind.wrap .i64 v1).tmod (y4.1.2.1.length : Int)).toNat) v2)), (y4.1.2.2.1, y4.1.2.2.2)), ())) fun y30 =>
              some (eqI y30.1 y5.1, ()) else none else none
            else aB (K4 ((((y4.1.1.1, (y4.1.1.2.1, y4.1.1.2.2)), (y4.1.2.1.set (((IntKind.wrap .i64 v1).tmod (y4.1.2.1.length : Int)).toNat) v2)), (y4.1.2.2.1, y4.1.2.2.2)), ())) fun y31 =>
            some (eqI y31.1 y5.1, ()) else none else none
          else bif ltI (aA .i64 (((IntKind.wrap .i64 v1).tmod (y4.1.2.1.length : Int)) + 1)) ((y4.1.2.1.set (((IntKind.wrap .i64 v1).tmod (y4.1.2.1.length : Int)).toNat) v2).length : Int) then
            bif aE (aA .i64 (((IntKind.wrap .i64 v1).tmod (y4.1.2.1.length : Int)) + 1)) (y4.1.2.1.set (((IntKind.wrap .i64 v1).tmod (y4.1.2.1.length : Int)).toNat) v2).length then bif Nat.blt ((aA .i64 (((IntKind.wrap .i64 v1).tmod (y4.1.2.1.length : Int)) + 1)).toNat) (y4.1.2.1.set (((IntKind.wrap .i64 v1).tmod (y4.1.2.1.length : Int)).toNat) v2).length then aB (XM (v2, ((y4.1.2.1.set (((IntKind.wrap .i64 v1).tmod (y4.1.2.1.length : Int)).toNat) v2).getD ((aA .i64 (((IntKind.wrap .i64 v1).tmod (y4.1.2.1.length : Int)) + 1)).toNat) []), ())) fun y32 =>
            bif !(ltI y32.1 0) then
              aB (K4 ((((y4.1.1.1, (y4.1.1.2.1, y4.1.1.2.2)), (y4.1.2.1.set (((IntKind.wrap .i64 v1).tmod (y4.1.2.1.length : Int)).toNat) v2)), (y4.1.2.2.1, y4.1.2.2.2)), ())) fun y33 =>
              some (eqI y33.1 6, ())
            else aB (K4 ((((y4.1.1.1, (y4.1.1.2.1, y4.1.1.2.2)), (y4.1.2.1.set (((IntKind.wrap .i64 v1).tmod (y4.1.2.1.length : Int)).toNat) v2)), (y4.1.2.2.1, y4.1.2.2.2)), ())) fun y34 =>
            some (eqI y34.1 y5.1, ()) else none else none
          else aB (K4 ((((y4.1.1.1, (y4.1.1.2.1, y4.1.1.2.2)), (y4.1.2.1.set (((IntKind.wrap .i64 v1).tmod (y4.1.2.1.length : Int)).toNat) v2)), (y4.1.2.2.1, y4.1.2.2.2)), ())) fun y35 =>
          some (eqI y35.1 y5.1, ())
        else aB (K4 ((((y4.1.1.1, (y4.1.1.2.1, y4.1.1.2.2)), (y4.1.2.1.set (((IntKind.wrap .i64 v1).tmod (y4.1.2.1.length : Int)).toNat) v2)), (y4.1.2.2.1, y4.1.2.2.2)), ())) fun y36 =>
        some (eqI y36.1 7, ()) else none else none
      else aB (aZ (())) fun y37 =>
      some (y37.1, ())
    else aB (aZ (())) fun y38 =>
    some (y38.1, ())
noncomputable def zq0X : Code := bY Tryz.f3
abbrev zq00 : Env := RP [aIH, a7I, bER, aWV, bKE, MP, S1, DA] [zq3E]
theorem zq01 : dN Tryz.prog zq00 := jH ⟨aKN, xF, aP9, D9, bJL, zR, M3, rV, trivial⟩ ⟨zq3F, trivial⟩
def zq2I (id : Nat) : Option cI := none
def zq2V (id : Nat) : Option cI := none
theorem zq2D : dV zq0X = [] := by kernel_rfl
theorem zq0L : ∀ x, zq0K Tryz.prog zq00 Tryz.f3 (xD Tryz.f3) zq2I zq2V zq0X 3 (.int .i64) [.agg (.prod (.prod (.int .u8) (.prod (.list (.prod (.int .i8) (.prod (.int .i8) (.prod (.int .i8) (.int .i8))))) .bool)) (.prod (.list (.prod (.int .i8) (.prod (.int .i8) (.prod (.int .i8) (.int .i8))))) (.prod (.list (.list (.prod (.int .i8) (.prod (.int .i8) (.prod (.int .i8) (.int .i8)))))) (.int .u8)))), .int .u8, .list (.int .i64)] [.bool] x = zq1T x := by
  rintro ⟨v0, v1, v2, ⟨⟩⟩
  kernel_rfl
theorem zq1L : WA Tryz.prog 3 [.agg (.prod (.prod (.int .u8) (.prod (.list (.prod (.int .i8) (.prod (.int .i8) (.prod (.int .i8) (.int .i8))))) .bool)) (.prod (.list (.prod (.int .i8) (.prod (.int .i8) (.prod (.int .i8) (.int .i8))))) (.prod (.list (.list (.prod (.int .i8) (.prod (.int .i8) (.prod (.int .i8) (.int .i8)))))) (.int .u8)))), .int .u8, .list (.int .i64)] [.bool] zq1T := by
  exact zq1Y aQ zq01 Tryz.func3 (c := zq0X) Y (keep := xD Tryz.f3) (lt := zq2I) (rt := zq2V) (nK zq2D trivial) zq0L
abbrev zq13 : Ent := ⟨3, [.agg (.prod (.prod (.int .u8) (.prod (.list (.prod (.int .i8) (.prod (.int .i8) (.prod (.int .i8) (.int .i8))))) .bool)) (.prod (.list (.prod (.int .i8) (.prod (.int .i8) (.prod (.int .i8) (.int .i8))))) (.prod (.list (.list (.prod (.int .i8) (.prod (.int .i8) (.prod (.int .i8) (.int .i8)))))) (.int .u8)))), .int .u8, .list (.int .i64)], [.bool], zq1T⟩
theorem zq14 : Ent.OK Tryz.prog zq13 := zq1L
def zq1U (x : aM [.agg (.prod (.prod (.int .u8) (.prod (.list (.prod (.int .i8) (.prod (.int .i8) (.prod (.int .i8) (.int .i8))))) .bool)) (.prod (.list (.prod (.int .i8) (.prod (.int .i8) (.prod (.int .i8) (.int .i8))))) (.prod (.list (.list (.prod (.int .i8) (.prod (.int .i8) (.prod (.int .i8) (.int .i8)))))) (.int .u8)))), .int .u8, .list (.int .i64)]) : Option (aM [.bool]) := match x with
  | (v0, v1, v2, ()) =>
    aB (aZ (())) fun y1 =>
    bif y1.1 then
      aB (dU (((v0.1.1, (v0.1.2.1, v0.1.2.2)), (v0.2.1, (v0.2.2.1, v0.2.2.2))), ())) fun y2 =>
      bif y2.1 then
        bif ltI 8 (v2.length : Int) then
          aB (aZ (())) fun y3 =>
          some (y3.1, ())
        else aB (eG (((v0.1.1, (v0.1.2.1, v0.1.2.2)), (v0.2.1, (v0.2.2.1, v0.2.2.2))), ())) fun y4 =>
        bif y4.2.1 then
          bif eqI (y4.1.1.2.length : Int) 0 then none else bif aE ((IntKind.wrap .i64 v1).tmod (y4.1.1.2.length : Int)) y4.1.1.2.length then none else none
        else some (true, ())
      else aB (aZ (())) fun y5 =>
      some (y5.1, ())
    else aB (aZ (())) fun y6 =>
    some (y6.1, ())
noncomputable def zq0Y : Code := bY Tryz.f3
abbrev zq02 : Env := B1 [MP, M6, DA]
theorem zq03 : dN Tryz.prog zq02 := aS ⟨zR, zS, rV, trivial⟩
def zq2J (id : Nat) : Option cI := none
def zq2W (id : Nat) : Option cI := none
theorem zq2E : dV zq0Y = [] := by kernel_rfl
theorem zq0M : ∀ x, a0L Tryz.prog zq02 Tryz.f3 (xD Tryz.f3) zq2J zq2W zq0Y [.agg (.prod (.prod (.int .u8) (.prod (.list (.prod (.int .i8) (.prod (.int .i8) (.prod (.int .i8) (.int .i8))))) .bool)) (.prod (.list (.prod (.int .i8) (.prod (.int .i8) (.prod (.int .i8) (.int .i8))))) (.prod (.list (.list (.prod (.int .i8) (.prod (.int .i8) (.prod (.int .i8) (.int .i8)))))) (.int .u8)))), .int .u8, .list (.int .i64)] [.bool] x = zq1U x := by
  rintro ⟨v0, v1, v2, ⟨⟩⟩
  kernel_rfl
theorem zq1M : WA Tryz.prog 3 [.agg (.prod (.prod (.int .u8) (.prod (.list (.prod (.int .i8) (.prod (.int .i8) (.prod (.int .i8) (.int .i8))))) .bool)) (.prod (.list (.prod (.int .i8) (.prod (.int .i8) (.prod (.int .i8) (.int .i8))))) (.prod (.list (.list (.prod (.int .i8) (.prod (.int .i8) (.prod (.int .i8) (.int .i8)))))) (.int .u8)))), .int .u8, .list (.int .i64)] [.bool] zq1U := by
  exact aJK aQ zq03 Tryz.func3 (c := zq0Y) Y (keep := xD Tryz.f3) (lt := zq2J) (rt := zq2W) (nK zq2E trivial) zq0M
abbrev zq15 : Ent := ⟨3, [.agg (.prod (.prod (.int .u8) (.prod (.list (.prod (.int .i8) (.prod (.int .i8) (.prod (.int .i8) (.int .i8))))) .bool)) (.prod (.list (.prod (.int .i8) (.prod (.int .i8) (.prod (.int .i8) (.int .i8))))) (.prod (.list (.list (.prod (.int .i8) (.prod (.int .i8) (.prod (.int .i8) (.int .i8)))))) (.int .u8)))), .int .u8, .list (.int .i64)], [.bool], zq1U⟩
theorem zq16 : Ent.OK Tryz.prog zq15 := zq1M
def zq1C (x : aM [.agg (.prod (.prod (.int .u8) (.prod (.list (.prod (.int .i8) (.prod (.int .i8) (.prod (.int .i8) (.int .i8))))) .bool)) (.prod (.list (.prod (.int .i8) (.prod (.int .i8) (.prod (.int .i8) (.int .i8))))) (.prod (.list (.list (.prod (.int .i8) (.prod (.int .i8) (.prod (.int .i8) (.int .i8)))))) (.int .u8)))), .int .u8, .list (.int .i64)]) : Option (aM [.bool]) := zq2N (zq1T x) (zq1U x)
theorem zq1J : WA Tryz.prog 3 [.agg (.prod (.prod (.int .u8) (.prod (.list (.prod (.int .i8) (.prod (.int .i8) (.prod (.int .i8) (.int .i8))))) .bool)) (.prod (.list (.prod (.int .i8) (.prod (.int .i8) (.prod (.int .i8) (.int .i8))))) (.prod (.list (.list (.prod (.int .i8) (.prod (.int .i8) (.prod (.int .i8) (.int .i8)))))) (.int .u8)))), .int .u8, .list (.int .i64)] [.bool] zq1C := zq2P zq1L zq1M
open Go Go.RowKit Go.Proofs Go.Lz
section
variable {ps : List Int} {n d r : Nat} {C K : Nat → V}
def zq0E (ps : List Int) (c : List (List Int)) : Prop := 0 < c.length ∧ c.length ≤ 8 ∧ rK (ps, c, ()) = some (0, ())
abbrev zq3K (p : List Int) (A B l : List (List Int)) (qs : List (List (List Int))) (s : Int) (t : Nat) : Shape.den XO := ((((p, (A, B)), l), (qs, s)), qs, (qs.length : Int), (t : Int), ())
theorem zq0V {A B l qs s} {t : Nat} (ht : t < qs.length) (hl : qs.length ≤ 12) (h : zq0E ps (qs.getD t [])) : KK (zq3K ps A B l qs s t) = some (.inl (zq3K ps A B l qs s (t + 1))) := by
  obtain ⟨g1, g2, g3⟩ := h
  have q4 : eqI ((qs.getD t []).length : Int) 0 = false := by rw [bN]; exact decide_eq_false Z
  have q5 : ltI 8 ((qs.getD t []).length : Int) = false := by rw [aF]; exact decide_eq_false Z
  have q7 := bP t Z
  simp only [KK, zq3K, lI ht, iO ht, tN, q4, q5, g3, q7, e00, aC, Bool.not_true, cond_true, cond_false]
section
variable {A B l : List (List Int)} {qs : List (List (List Int))} {s e : Int} (hgm : C7 (((ps, (A, B)), l), ()) = some (0, ()))
include hgm
theorem zq0R (h12 : qs.length ≤ 12) {j : Nat} (hj : j < qs.length) (hpre : ∀ i, i < j → zq0E ps (qs.getD i [])) (hres : KK (zq3K ps A B l qs s j) = some (.inr (.inl (e, ())))) : K4 ((((ps, (A, B)), l), (qs, s)), ()) = some (e, ()) := by
  have e1 : eqI (qs.length : Int) 0 = false := by rw [bN]; exact decide_eq_false Z
  have e2 : ltI 12 (qs.length : Int) = false := by rw [aF]; exact decide_eq_false Z
  have key : TB (zq3K ps A B l qs s 0) = some (.inl (e, ())) := aK (step := KK) (N := 2 ^ 64) (zq3K ps A B l qs s) j (.inl (e, ())) Z (fun t ht => zq0V Z h12 (hpre t ht)) hres
  simp only [K4, hgm, aC, e00, e1, e2, key, rT, Bool.not_true, cond_false]
  rw [show TB ((((ps, (A, B)), l), (qs, s)), qs, (qs.length : Int), 0, ()) = some (.inl (e, ())) from key]
  rfl
theorem zq0Q (h0 : 0 < qs.length) (h12 : qs.length ≤ 12) (hpre : ∀ i, i < qs.length → zq0E ps (qs.getD i [])) : K4 ((((ps, (A, B)), l), (qs, s)), ()) = some (if s < 1 ∨ 8 < s then 3 else 0, ()) := by
  have e1 : eqI (qs.length : Int) 0 = false := by rw [bN]; exact decide_eq_false Z
  have e2 : ltI 12 (qs.length : Int) = false := by rw [aF]; exact decide_eq_false Z
  have key : TB (zq3K ps A B l qs s 0) = some (.inr ((((ps, (A, B)), l), (qs, s)), ())) := aK (step := KK) (N := 2 ^ 64) (zq3K ps A B l qs s) qs.length (.inr ((((ps, (A, B)), l), (qs, s)), ())) Z (fun t ht => zq0V ht h12 (hpre t ht)) (by simp only [KK, zq3K, lN, cond_false])
  have key : TB ((((ps, (A, B)), l), (qs, s)), qs, (qs.length : Int), 0, ()) = some (.inr ((((ps, (A, B)), l), (qs, s)), ())) := key
  by_cases c1 : s < 1
  · have e3 : ltI s 1 = true := by rw [aF]; exact decide_eq_true c1
    rw [if_pos (.inl c1)]
    simp only [K4, hgm, aC, e00, e1, e2, e3, key, bV, Bool.not_true, cond_false, cond_true]
  · have e3 : ltI s 1 = false := by rw [aF]; exact decide_eq_false c1
    by_cases c2 : 8 < s
    · have e4 : ltI 8 s = true := by rw [aF]; exact decide_eq_true c2
      rw [if_pos (.inr c2)]
      simp only [K4, hgm, aC, e00, e1, e2, e3, e4, key, bV, Bool.not_true, cond_false, cond_true]
    · have e4 : ltI 8 s = false := by rw [aF]; exact decide_eq_false c2
      rw [if_neg (by rintro (h | h) <;> contradiction)]
      simp only [K4, hgm, aC, e00, e1, e2, e3, e4, key, bV, Bool.not_true, cond_false]
theorem zq0U : K4 ((((ps, (A, B)), l), ([], s)), ()) = some (13, ()) := by
  simp only [K4, hgm, aC, e00, Bool.not_true, cond_false]
  rfl
theorem zq0T (h : 12 < qs.length) : K4 ((((ps, (A, B)), l), (qs, s)), ()) = some (4, ()) := by
  have e1 : eqI (qs.length : Int) 0 = false := by rw [bN]; exact decide_eq_false Z
  have e2 : ltI 12 (qs.length : Int) = true := by rw [aF]; exact decide_eq_true Z
  simp only [K4, hgm, aC, e00, e1, e2, Bool.not_true, cond_false, cond_true]
end
theorem zq0S {A B l qs s e} (hgm : C7 (((ps, (A, B)), l), ()) = some (e, ())) (he : eqI e 0 = false) : K4 ((((ps, (A, B)), l), (qs, s)), ()) = some (e, ()) := by
  simp only [K4, hgm, aC, he, Bool.not_false, cond_true]
end
section
variable {ps : List Int} {n d r : Nat} {C K : Nat → V}
abbrev zq3L (ps : List Int) (A B : List (List Int)) (L : Ty.den (.prod (.int .i64) (.list (.list (.int .i64))))) (l : List (List Int)) (i : Nat) : Shape.den M9 := (((ps, (A, B)), l), L, l, (l.length : Int), (i : Int), ())
theorem zq21 (h : RT ps n d r C K) (hr : 1 ≤ r) (hg : 0 < K 0 0) {l : List (List Int)} {i : Nat} (hi : i < l.length) (h60 : l.length ≤ 60) {ec : Int} (hc : kH (l.getD i [], ()) = some (ec, ())) (hb : ec = 0 → ∀ a ∈ l.getD i [], a.natAbs ≤ 1000000000) (hp : i ≠ 0 → (l.getD (i - 1) []).length ≤ 64) :
    uK (zq3L ps (Mr d n C) (Mr r n K) ((r : Int), [Vr r (eV (K 0 0))]) l i) = some (if ec ≠ 0 then .inr (.inl (ec, ())) else if (l.getD i []).length ≠ r then .inr (.inl (5, ())) else if cl r (K 0 0) (l.getD i []) ≠ l.getD i [] then .inr (.inl (7, ())) else
      if i = 0 ∨ 0 < cmpL (l.getD i []) (l.getD (i - 1) []) then .inl (zq3L ps (Mr d n C) (Mr r n K) ((r : Int), [Vr r (eV (K 0 0))]) l (i + 1)) else .inr (.inl (6, ()))) := by
  have n4 := h.n4
  obtain ⟨p, hk⟩ := h.hk
  have r4 := (Hn.wR hk h.wk).1
  have hb0 := h.bk 0 Z 0 Z
  by_cases c1 : ec = 0
  case neg =>
    have e1 : eqI ec 0 = false := by rw [bN]; exact decide_eq_false c1
    rw [if_pos c1]
    simp only [uK, lI hi, iO hi, tN, xM, hc, e1, aC, cond_true, Bool.not_false]
  subst c1
  rw [if_neg O]
  by_cases c2 : (l.getD i []).length = r
  case neg =>
    have e1 : eqI ((l.getD i []).length : Int) ((Mr r n K).length : Int) = false := by rw [bN, eO]; exact decide_eq_false Z
    have e5 : eqI 5 0 = false := by decide
    rw [if_pos c2]
    simp only [uK, lI hi, iO hi, tN, xM, hc, e00, e1, e5, aC, cond_true, Bool.not_false, Bool.not_true, cond_false]
  rw [if_neg Z]
  have q4 := a3Y (ps := ps) (n := n) (d := d) (C := C) (K := K) Z _ c2 (hb rfl)
  have q5 := UB hr Z hg Z _ c2 (hb rfl)
  have q6 : kJ (cl r (K 0 0) (l.getD i []), l.getD i [], ()) = some (decide (cl r (K 0 0) (l.getD i []) = l.getD i []), ()) := ON _ _ (by rw [HO]; omega)
  by_cases c3 : cl r (K 0 0) (l.getD i []) = l.getD i []
  case neg =>
    rw [decide_eq_false c3] at q6
    rw [if_pos c3]
    simp only [uK, lI hi, iO hi, tN, q4, q5, q6, e00, aC, cond_true, Bool.not_true, cond_false]
  rw [decide_eq_true c3] at q6
  rw [if_neg (fun hh => hh c3)]
  have q7 := bP i Z
  by_cases hi0 : i = 0
  · have q8 : ltI 0 (i : Int) = false := by subst hi0; decide
    rw [if_pos (.inl hi0)]
    simp only [uK, lI hi, iO hi, tN, q4, q5, q6, q7, q8, e00, aC, cond_true, Bool.not_true, cond_false]
  · have q8 : ltI 0 (i : Int) = true := by rw [aF]; exact decide_eq_true Z
    have q9 : aA .i64 ((i : Int) - 1) = ((i - 1 : Nat) : Int) := by rw [wrap64 Z Z]; omega
    have q10 : aE (((i - 1 : Nat) : Int)) l.length = true := iO Z
    have q12 := aDB (l.getD i []) (l.getD (i - 1) []) Z (by have := hp hi0; omega)
    by_cases hc : 0 < cmpL (l.getD i []) (l.getD (i - 1) [])
    · have q13 : ltI 0 (cmpL (l.getD i []) (l.getD (i - 1) [])) = true := by rw [aF]; exact decide_eq_true hc
      rw [if_pos (.inr hc)]
      simp only [uK, lI hi, iO hi, tN, q4, q5, q6, q7, q8, q9, q10, q12, q13, aC, e00, cond_true, Bool.not_true, cond_false]
    · have q13 : ltI 0 (cmpL (l.getD i []) (l.getD (i - 1) [])) = false := by rw [aF]; exact decide_eq_false hc
      rw [if_neg (by rintro (h | h) <;> contradiction)]
      simp only [uK, lI hi, iO hi, tN, q4, q5, q6, q7, q8, q9, q10, q12, q13, aC, e00, cond_true, Bool.not_true, Bool.not_false, cond_false]
theorem zq1Z (h : RT ps n d r C K) (hn1 : 1 ≤ n) (hr : 1 ≤ r) (hg : 0 < K 0 0) {l : List (List Int)} {j : Nat} (hj : j < l.length) (h60 : l.length ≤ 60) {e : Int}
    (hpre : ∀ i, i < j → uK (zq3L ps (Mr d n C) (Mr r n K) ((r : Int), [Vr r (eV (K 0 0))]) l i) = some (.inl (zq3L ps (Mr d n C) (Mr r n K) ((r : Int), [Vr r (eV (K 0 0))]) l (i + 1))))
    (hat : uK (zq3L ps (Mr d n C) (Mr r n K) ((r : Int), [Vr r (eV (K 0 0))]) l j) = some (.inr (.inl (e, ())))) : C7 (((ps, (Mr d n C, Mr r n K)), l), ()) = some (e, ()) := by
  have t1 := U0 h hn1 hr hg
  have e1 : eqI (l.length : Int) 0 = false := by rw [bN]; exact decide_eq_false Z
  have e2 : ltI 60 (l.length : Int) = false := by rw [aF]; exact decide_eq_false Z
  have key : JD (((ps, (Mr d n C, Mr r n K)), l), ((r : Int), [Vr r (eV (K 0 0))]), l, (l.length : Int), 0, ()) = some (.inl (e, ())) :=
    aK (N := 2 ^ 64) (step := uK) (zq3L ps (Mr d n C) (Mr r n K) ((r : Int), [Vr r (eV (K 0 0))]) l) j (.inl (e, ())) Z hpre hat
  simp only [C7, t1, aC, e00, e1, e2, Bool.not_true, cond_false, key, rT]
def zq12 (r : Nat) (g : Int) (l : List (List Int)) (k : Nat) (x : List Int) (ec : Int) : Int :=
  if ec ≠ 0 then ec else if x.length ≠ r then 5 else if cl r g x ≠ x then 7 else if (k ≠ 0 ∧ ¬ 0 < cmpL x (l.getD (k - 1) [])) ∨ (k + 1 < l.length ∧ ¬ 0 < cmpL (l.getD (k + 1) []) x) then 6 else 0
theorem zq30 {l : List (List Int)} {k i : Nat} {x : List Int} (h : i ≠ k) : (l.set k x).getD i [] = l.getD i [] := by
  simp [List.getD_eq_getElem?_getD, List.getElem?_set_ne (Ne.symm h)]
theorem zq31 {l : List (List Int)} {k : Nat} {x : List Int} (h : k < l.length) : (l.set k x).getD k [] = x := by
  simp [List.getD_eq_getElem?_getD, h]
theorem zq20 (h : RT ps n d r C K) (hn1 : 1 ≤ n) (hr : 1 ≤ r) (hg : 0 < K 0 0) {l} (hw : Rw r l) (h60 : l.length ≤ 60) (hcl : ∀ a ∈ l, cl r (K 0 0) a = a) (hs : ∀ i, i + 1 < l.length → 0 < cmpL (l.getD (i + 1) []) (l.getD i [])) {k : Nat} (hk : k < l.length) {x : List Int} (hx : x.length ≤ 64) {ec : Int} (hc : kH (x, ()) = some (ec, ())) (hb : ec = 0 → ∀ a ∈ x, a.natAbs ≤ 1000000000) :
    C7 (((ps, (Mr d n C, Mr r n K)), l.set k x), ()) = some (zq12 r (K 0 0) l k x ec, ()) := by
  have n4 := h.n4
  obtain ⟨p, hkk⟩ := h.hk
  have r4 := (Hn.wR hkk h.wk).1
  have hL : (l.set k x).length = l.length := List.length_set
  have hgl : ∀ i, (l.getD i []).length ≤ 64 := fun i => by
    rcases Nat.lt_or_ge i l.length with c | c
    · rw [getD_at c]; have := (hw _ (List.getElem_mem c)).1; omega
    · rw [List.getD_eq_getElem?_getD, List.getElem?_eq_none c]; simp
  have hsl : ∀ i, ((l.set k x).getD i []).length ≤ 64 := fun i => by
    by_cases c : i = k
    · rw [c, zq31 hk]; exact hx
    · rw [zq30 c]; exact hgl i
  have hok : ∀ i, i < l.length → i ≠ k → uK (zq3L ps (Mr d n C) (Mr r n K) ((r : Int), [Vr r (eV (K 0 0))]) (l.set k x) i) = some (if i = 0 ∨ 0 < cmpL (l.getD i []) ((l.set k x).getD (i - 1) []) then .inl (zq3L ps (Mr d n C) (Mr r n K) ((r : Int), [Vr r (eV (K 0 0))]) (l.set k x) (i + 1)) else .inr (.inl (6, ()))) := fun i hi hne => by
    have hm := List.getElem_mem hi
    have hwm := hw _ hm
    have he : (l.set k x).getD i [] = l[i] := by rw [zq30 hne, getD_at hi]
    have := zq21 h hr hg (l := l.set k x) (i := i) Z Z (ec := 0) (by rw [he]; exact A9 _ Z hwm.2) (fun _ => by rw [he]; exact hwm.2) (fun _ => hsl _)
    rw [if_neg O, he, if_neg (by have := hwm.1; omega), if_neg (fun hh => hh (hcl _ hm))] at this
    rw [this, getD_at hi]
  have hpre : ∀ i, i < k → uK (zq3L ps (Mr d n C) (Mr r n K) ((r : Int), [Vr r (eV (K 0 0))]) (l.set k x) i) = some (.inl (zq3L ps (Mr d n C) (Mr r n K) ((r : Int), [Vr r (eV (K 0 0))]) (l.set k x) (i + 1))) := fun i hi => by
    rw [hok i Z Z, if_pos]
    by_cases c : i = 0
    · exact .inl c
    · right
      rw [zq30 Z]
      have := hs (i - 1) Z
      rwa [show i - 1 + 1 = i by omega] at this
  have hat := zq21 h hr hg (l := l.set k x) (i := k) Z Z (ec := ec) (by rw [zq31 hk]; exact hc) (fun hh => by rw [zq31 hk]; exact hb hh) (fun _ => hsl _)
  rw [zq31 hk] at hat
  unfold zq12
  by_cases c1 : ec = 0
  case neg =>
    rw [if_pos c1] at hat ⊢
    exact zq1Z h hn1 hr hg Z Z hpre hat
  rw [if_neg (by simp [c1])] at hat ⊢
  by_cases c2 : x.length = r
  case neg =>
    rw [if_pos c2] at hat ⊢
    exact zq1Z h hn1 hr hg Z Z hpre hat
  rw [if_neg (by simp [c2])] at hat ⊢
  by_cases c3 : cl r (K 0 0) x = x
  case neg =>
    rw [if_pos c3] at hat ⊢
    exact zq1Z h hn1 hr hg Z Z hpre hat
  rw [if_neg (by simp [c3])] at hat ⊢
  by_cases c4 : k = 0 ∨ 0 < cmpL x (l.getD (k - 1) [])
  case neg =>
    have c5 : k ≠ 0 := fun hh => c4 (.inl hh)
    rw [if_pos (.inl ⟨c5, fun hh => c4 (.inr hh)⟩)]
    rw [if_neg (by rw [zq30 Z]; exact c4)] at hat
    exact zq1Z h hn1 hr hg Z Z hpre hat
  have hat2 : uK (zq3L ps (Mr d n C) (Mr r n K) ((r : Int), [Vr r (eV (K 0 0))]) (l.set k x) k) = some (.inl (zq3L ps (Mr d n C) (Mr r n K) ((r : Int), [Vr r (eV (K 0 0))]) (l.set k x) (k + 1))) := by
    rw [hat, if_pos]
    by_cases c5 : k = 0
    · exact .inl c5
    · rw [zq30 Z]; exact c4
  by_cases c6 : k + 1 < l.length ∧ ¬ 0 < cmpL (l.getD (k + 1) []) x
  · rw [if_pos (.inr c6)]
    refine zq1Z h hn1 hr hg (j := k + 1) Z Z (fun i hi => ?_) ?_
    · by_cases c : i = k
      · rw [c]; exact hat2
      · exact hpre i Z
    · rw [hok (k + 1) c6.1 Z, if_neg]
      rintro (c | c)
      · omega
      · rw [show k + 1 - 1 = k by omega, zq31 hk] at c
        exact c6.2 c
  · rw [if_neg (by rintro (⟨a, b⟩ | hh); exact c4.elim a b; exact c6 hh)]
    refine bBS h hn1 hr hg (fun a ha => ?_) Z Z (fun a ha => ?_) (fun i hi => ?_)
    · rcases List.mem_or_eq_of_mem_set ha with ha | rfl
      · exact hw a ha
      · exact ⟨c2, hb c1⟩
    · rcases List.mem_or_eq_of_mem_set ha with ha | rfl
      · exact hcl a ha
      · exact c3
    · rw [hL] at hi
      by_cases d1 : i = k
      · rw [d1, zq31 hk, zq30 Z]
        exact Decidable.not_not.1 fun hh => c6 ⟨by omega, hh⟩
      · by_cases d2 : i + 1 = k
        · rw [d2, zq31 hk, zq30 d1]
          have := c4.elim (fun h => absurd h Z) id
          rwa [show k - 1 = i by omega] at this
        · rw [zq30 d1, zq30 d2]
          exact hs i hi
end
theorem zq22 (l : List (List Int)) (r : List Int) (A : List (List Int)) (hl : l.length ≤ 1000000) (hr : r.length ≤ 1000000) (hw : ∀ a ∈ l, a.length ≤ 1000000) : zq1D l (r, ()) A = some (a0U l r, A) := by
  have iN : ∀ t, (l.getD t []).length ≤ 1000000 := fun t => by
    by_cases h : t < l.length
    · have : l.getD t [] = l[t] := by simp [List.getD, h]
      rw [this]; exact hw _ (List.getElem_mem h)
    · simp [List.getD, List.getElem?_eq_none (show l.length ≤ t by omega)]
  have hk := bO2 l r
  generalize hkk : aZJ l r = k at hk
  have kA : zq2C (l, r, 0, A, ()) = some (l, r, (k : Int), A, ()) := by
    refine aK (step := zq3Q) (N := 2 ^ 64) (fun t => (l, r, (t : Int), A, ())) k (l, r, (k : Int), A, ()) Z (fun t ht => ?_) ?_
    · have hl2 : t < l.length := by omega
      have e4 := aDB (l.getD t []) r (by have := iN t; omega) Z
      have e5 : ltI (cmpL (l.getD t []) r) 0 = true := by rw [aF]; exact decide_eq_true (bO5 l r t Z)
      simp only [zq3Q, lI hl2, iO hl2, bT hl2, tN, cond_true, e4, aC, e5, bP t Z]
    · by_cases hlt : k < l.length
      · have e4 := aDB (l.getD k []) r (by have := iN k; omega) Z
        have e5 : ltI (cmpL (l.getD k []) r) 0 = false := by
          rw [aF]
          refine decide_eq_false ?_
          have := bPA l r Z
          rw [hkk] at this
          exact this
        simp only [zq3Q, lI hlt, iO hlt, bT hlt, tN, cond_true, e4, aC, e5, cond_false]
      · have e1 : ltI (k : Int) (l.length : Int) = false := by rw [aF]; exact decide_eq_false Z
        simp only [zq3Q, e1, cond_false]
  have kB : zq2B (l, r, 0, A, ()) = some (l, r, (k : Int), A, ()) := by
    refine aK (step := zq3P) (N := 2 ^ 64) (fun t => (l, r, (t : Int), A, ())) k (l, r, (k : Int), A, ()) Z (fun t ht => ?_) ?_
    · have hl2 : t < l.length := by omega
      have e4 := aDB (l.getD t []) r (by have := iN t; omega) Z
      have e5 : ltI (cmpL (l.getD t []) r) 0 = true := by rw [aF]; exact decide_eq_true (bO5 l r t Z)
      simp only [zq3P, lI hl2, iO hl2, tN, cond_true, e4, aC, e5, bP t Z]
    · by_cases hlt : k < l.length
      · have e4 := aDB (l.getD k []) r (by have := iN k; omega) Z
        have e5 : ltI (cmpL (l.getD k []) r) 0 = false := by
          rw [aF]
          refine decide_eq_false ?_
          have := bPA l r Z
          rw [hkk] at this
          exact this
        simp only [zq3P, lI hlt, iO hlt, tN, cond_true, e4, aC, e5, cond_false]
      · have e1 : ltI (k : Int) (l.length : Int) = false := by rw [aF]; exact decide_eq_false Z
        simp only [zq3P, e1, cond_false]
  have e1 : ltI (k : Int) 0 = false := by rw [aF]; exact decide_eq_false Z
  have b1 : Nat.ble 0 k = true := Nat.ble_eq_true_of_le (Nat.zero_le _)
  have b2 : Nat.ble k k = true := Nat.ble_eq_true_of_le (Nat.le_refl _)
  have b3 : Nat.ble k l.length = true := Nat.ble_eq_true_of_le hk
  have b4 : Nat.ble l.length l.length = true := Nat.ble_eq_true_of_le (Nat.le_refl _)
  have b5 : Nat.ble ((l.drop k).take (l.length - k)).length 1048576 = true := Nat.ble_eq_true_of_le (by simp; omega)
  have b6 : Nat.ble [r].length 1048576 = true := rfl
  have b7 : Nat.ble ([r] ++ ((l.drop k).take (l.length - k))).length 1048576 = true := Nat.ble_eq_true_of_le (by simp; omega)
  have b8 : Nat.ble ((l.drop 0).take (k - 0)).length 1048576 = true := Nat.ble_eq_true_of_le (by simp; omega)
  have b9 : (Nat.beq (k - 0) 0 || Nat.blt (k - 0) (((l.drop 0).take (k - 0)).length + ([r] ++ ((l.drop k).take (l.length - k))).length)) = true := by
    rw [Bool.or_eq_true]
    right
    rw [cF]
    exact decide_eq_true (by simp; omega)
  have hins : ((l.drop 0).take (k - 0)) ++ ([r] ++ ((l.drop k).take (l.length - k))) = l.take k ++ r :: l.drop k := by
    rw [List.drop_zero, Nat.sub_zero, List.take_of_length_le (l := l.drop k) R]; rfl
  rw [bEH, hkk]
  unfold zq1D
  by_cases hlt : k < l.length
  · have e5 := ON (l.getD k []) r (by have := iN k; omega)
    by_cases he : l.getD k [] = r
    · rw [if_pos ⟨hlt, he⟩]
      rw [decide_eq_true he] at e5
      simp only [zq1X, kA, aC, lI hlt, iO hlt, bT hlt, tN, e5, cond_true, zq2N]
    · rw [if_neg (fun h => he h.2)]
      rw [decide_eq_false he] at e5
      simp only [zq1X, kA, zq1W, kB, aC, lI hlt, iO hlt, bT hlt, tN, e5, cond_true, cond_false, e1, Bool.not_false, b1, b2, b3, b4, b5, b6, b7, b8, b9, hins, zq2N]
  · have e2 : ltI (k : Int) (l.length : Int) = false := by rw [aF]; exact decide_eq_false Z
    rw [if_neg (fun h => hlt h.1)]
    simp only [zq1X, kA, zq1W, kB, aC, e2, tN, cond_true, cond_false, e1, Bool.not_false, b1, b2, b3, b4, b5, b6, b7, b8, b9, hins, zq2N]
section
variable {ps : List Int} {n d r : Nat} {C K : Nat → V}
theorem zq0B (h : RT ps n d r C K) (hk : Big r n K 960000) (hn1 : 1 ≤ n) (hr : 1 ≤ r) (hg : 0 < K 0 0) (v1 : Ty.den (.prod (.prod (.int .u8) (.prod (.list (.prod (.int .i8) (.prod (.int .i8) (.prod (.int .i8) (.int .i8))))) .bool)) (.prod (.list (.prod (.int .i8) (.prod (.int .i8) (.prod (.int .i8) (.int .i8))))) (.prod (.list (.list (.prod (.int .i8) (.prod (.int .i8) (.prod (.int .i8) (.int .i8)))))) (.int .u8)))))
    (v2 : Ty.den (.prod (.prod (.prod (.list (.int .i64)) (.prod (.list (.list (.int .i64))) (.list (.list (.int .i64))))) (.list (.list (.int .i64)))) (.prod (.list (.list (.list (.int .i64)))) (.int .i64)))) (v5 : (List Int × List (List Int) × List (List Int) × List (List Int)) × List (List (List Int)) × Int) (v6 : List Int) {ts : List I4} (hts : ts.length ≤ 1000) (hI : ∀ t ∈ ts, I8 t) :
    zq28 (v1, v2, (ps, (Mr d n C, Mr r n K)), v5, v6, [], ts, 0, [], ()) = some (v1, v2, (ps, (Mr d n C, Mr r n K)), v5, v6, MB (ts.map fun t => tcl n r K (ivL n t)), [], ()) := by
  have n4 := h.n4
  obtain ⟨p, hkk⟩ := h.hk
  have r4 := (Hn.wR hkk h.wk).1
  refine aK (step := zq3M) (N := 2 ^ 64) (fun t => (v1, v2, (ps, (Mr d n C, Mr r n K)), v5, v6, MB ((ts.take t).map fun t => tcl n r K (ivL n t)), ts, (t : Int), [], ())) ts.length (v1, v2, (ps, (Mr d n C, Mr r n K)), v5, v6, MB (ts.map fun t => tcl n r K (ivL n t)), [], ()) Z (fun t ht => ?_) ?_
  · have l1 := aJ2 ps (by rw [h.len]; omega) ts[t] (hI _ (List.getElem_mem ht))
    rw [h.len] at l1
    have l2 := aXF h (ivL n ts[t]) aO6 (fun a ha => by have := aLW a ha; omega) (fun i hi => bG0 hk n4 aLW hi)
    have l3 := aXX h hn1 hr hg (tmp n r K (ivL n ts[t])) aIC (fun a ha => by have := bGY (fun i hi => bG0 hk n4 (x := ivL n ts[t]) aLW hi) a ha; omega)
    have hp := xK ((ts.take t).map fun t => tcl n r K (ivL n t))
    have l4 := zq22 (MB ((ts.take t).map fun t => tcl n r K (ivL n t))) (tcl n r K (ivL n ts[t])) [] (by have := hp.2.2; rw [List.length_map, List.length_take] at this; omega) (by unfold tcl; rw [HO]; omega) (fun a ha => by
      obtain ⟨x, _, rfl⟩ := List.mem_map.1 ((hp.2.1 a).1 ha)
      unfold tcl; rw [HO]; omega)
    have l5 := wS ht Z
    rw [List.take_succ_eq_append_getElem ht, List.map_append, List.map_cons, List.map_nil, aY5]
    simp only [zq3M, lI ht, iO ht, bT ht, tN, b1G ht, cond_true]
    rw [l1]
    show aB (lV ((ps, (Mr d n C, Mr r n K)), ivL n ts[t], ())) _ = _
    rw [l2, aC]
    rw [l3, aC]
    show aB (zq1D _ (tcl n r K (ivL n ts[t]), ()) []) _ = _
    rw [l4, aC, l5]
  · have : ts.take ts.length = ts := List.take_length
    simp only [zq3M, lN, cond_false, this]
theorem zq0C (n4 : ps.length ≤ 4) (v2 : Ty.den (.prod (.prod (.prod (.list (.int .i64)) (.prod (.list (.list (.int .i64))) (.list (.list (.int .i64))))) (.list (.list (.int .i64)))) (.prod (.list (.list (.list (.int .i64)))) (.int .i64)))) (A B : List (List Int)) (v5 : ((List Int × List (List Int) × List (List Int)) × Int) × List (List Int) × List (List (List Int))) (v6 : List Int)
    w (ns : List I4) {cs : List (List I4)} (le : Int) {k : Nat} hk (hc : cs[k].length ≤ 1000) (hI : ∀ t ∈ cs[k], I8 t) :
    zq29 ((w, (ns, (cs, le))), v2, (ps, (A, B)), v5, v6, (k : Int), [v6], 0, [], ()) = some ((w, (ns, (cs, le))), v2, (ps, (A, B)), v5, v6, (k : Int), v6 :: cs[k].map (ivL ps.length), [], ()) := by
  refine aK (step := zq3N) (N := 2 ^ 64) (fun t => ((w, (ns, (cs, le))), v2, (ps, (A, B)), v5, v6, (k : Int), v6 :: (cs[k].take t).map (ivL ps.length), (t : Int), [], ())) cs[k].length _ Z (fun t ht => ?_) ?_
  · have l1 := aJ2 ps n4 cs[k][t] (hI _ (List.getElem_mem ht))
    have l2 : Nat.ble (v6 :: (cs[k].take t).map (ivL ps.length)).length 1048576 = true := bL W
    have l5 := wS ht Z
    rw [List.take_succ_eq_append_getElem ht, List.map_append]
    simp only [zq3N, iO hk, tN, b0B hk, lI ht, iO ht, b1G ht, cond_true]
    rw [l1]
    simp only [aC, l2, l5, bO, cond_true]
    rfl
  · simp only [zq3N, iO hk, tN, b0B hk, lN, cond_true, cond_false, List.take_length]
theorem zq0D (n4 : ps.length ≤ 4) (v2 : Ty.den (.prod (.prod (.prod (.list (.int .i64)) (.prod (.list (.list (.int .i64))) (.list (.list (.int .i64))))) (.list (.list (.int .i64)))) (.prod (.list (.list (.list (.int .i64)))) (.int .i64)))) (A B : List (List Int)) (u : (List Int × List (List Int) × List (List Int)) × Int) (N : List (List Int)) (v6 : List Int)
    w (ns : List I4) {cs : List (List I4)} (le : Int) (hn : cs.length ≤ 1000) (hc : ∀ c ∈ cs, c.length ≤ 1000) (hI : ∀ c ∈ cs, ∀ t ∈ c, I8 t) :
    zq2A ((w, (ns, (cs, le))), v2, (ps, (A, B)), (u, (N, [])), v6, 0, [], ()) = some (v2, (u, (N, cs.map (fun c => v6 :: c.map (ivL ps.length)))), v6, [], ()) := by
  refine aK (step := zq3O) (N := 2 ^ 64) (fun t => ((w, (ns, (cs, le))), v2, (ps, (A, B)), (u, (N, (cs.take t).map (fun c => v6 :: c.map (ivL ps.length)))), v6, (t : Int), [], ())) cs.length _ Z (fun t ht => ?_) ?_
  · have hm := List.getElem_mem ht
    have l1 := zq0C n4 v2 A B (u, (N, (cs.take t).map (fun c => v6 :: c.map (ivL ps.length)))) v6 w ns le ht (hc _ hm) (hI _ hm)
    have l2 : Nat.ble ((cs.take t).map (fun c => v6 :: c.map (ivL ps.length))).length 1048576 = true := bL W
    have l5 := wS ht Z
    rw [List.take_succ_eq_append_getElem ht, List.map_append]
    simp only [zq3O, lI ht, cond_true]
    rw [l1]
    simp only [aC, l2, l5, bO, cond_true]
    rfl
  · simp only [zq3O, lN, cond_false, List.take_length]
theorem zq0A {v : Int} {rows : List I4} {vals : Bool} {ns : List I4} {cs : List (List I4)} {le : Int} (m1 : vF ((v, (rows, vals)), ()) = some ((ps, (Mr d n C, Mr r n K)), ())) (rt : RT ps n d r C K) (k8 : Big r n K 960000) (hn1 : 1 ≤ n) (hr1 : 1 ≤ r) (hg : 0 < K 0 0) (hlost : S6 r K = false)
    (hns : ns.length ≤ 9) (hnI : ∀ t ∈ ns, I8 t) (hcs : cs.length ≤ 4) (hcl : ∀ c ∈ cs, c.length ≤ 4) (hcI : ∀ c ∈ cs, ∀ t ∈ c, I8 t) (hl0 : 0 ≤ le) (hl1 : le < 256) :
    zq1V () (((v, (rows, vals)), (ns, (cs, le))), ()) [] = some (((ps, (Mr d n C, Mr r n K)), (aV5 n r K ns, (aAR n cs, 1 + le % 3))), []) := by
  have n4 := rt.n4
  have hnn := rt.len
  have e1 : ltI (n : Int) 0 = false := by rw [aF]; exact decide_eq_false Z
  have e2 : ltI (n : Int) (n : Int) = false := lN n
  have e3 : ltI 1048576 (n : Int) = false := by rw [aF]; exact decide_eq_false Z
  have e4 := bPH rt hn1
  rw [hlost] at e4
  have e5 := bMU hl0 hl1
  have e6 : Nat.ble ns.length 1048576 = true := bL Z
  have e7 : Nat.ble [(((0 : Int), ((0 : Int), ((0 : Int), (0 : Int)))) : I4)].length 1048576 = true := rfl
  have l0 := zq0B rt k8 hn1 hr1 hg ((v, (rows, vals)), (ns, (cs, le))) ((([], ([], [])), []), ([], 0)) ((ps, (Mr d n C, (Mr r n K, []))), ([], 1 + le % 3)) (List.replicate n 0) (ts := (0, (0, (0, 0))) :: ns) (by rw [List.length_cons]; omega) (fun t ht => by
    rcases List.mem_cons.1 ht with rfl | ht
    · intro i hi
      rcases (show i = 0 ∨ i = 1 ∨ i = 2 ∨ i = 3 by omega) with rfl | rfl | rfl | rfl <;> decide
    · exact hnI t ht)
  have l2 := zq0D (ps := ps) Z ((([], ([], [])), []), ([], 0)) (Mr d n C) (Mr r n K) ((ps, (Mr d n C, Mr r n K)), 1 + le % 3) (aV5 n r K ns) (List.replicate n 0) (v, (rows, vals)) ns (cs := cs) le Z (fun c hc => by have := hcl c hc; omega) hcI
  rw [hnn] at l2
  have hadd : [((0, (0, (0, 0))) : I4)] ++ ns = (0, (0, (0, 0))) :: ns := rfl
  simp only [zq1V, m1, aC, hnn, e1, e2, e3, e4, e5, e6, e7, Bool.not_false, cond_true, cond_false, tN, hadd]
  have l0 : zq28 (((v, (rows, vals)), (ns, (cs, le))), ((([], ([], [])), []), ([], 0)), (ps, (Mr d n C, Mr r n K)), ((ps, (Mr d n C, (Mr r n K, []))), ([], 1 + le % 3)), List.replicate n (0 : Ty.den (.int .i64)), [], (0, (0, (0, 0))) :: ns, 0, [], ()) = _ := l0
  rw [l0]
  simp only [aC]
  show aB (zq2A (((v, (rows, vals)), (ns, (cs, le))), ((([], ([], [])), []), ([], 0)), (ps, (Mr d n C, Mr r n K)), (((ps, (Mr d n C, Mr r n K)), 1 + le % 3), (aV5 n r K ns, [])), List.replicate n 0, 0, [], ())) _ = _
  rw [l2]
  simp only [aC]
  unfold aAR
  by_cases c0 : cs.length = 0
  · have e8 : eqI (((cs.map (fun c => List.replicate n 0 :: c.map (ivL n))).length : Nat) : Int) 0 = true := by rw [List.length_map, c0]; rfl
    rw [if_pos c0, e8]; rfl
  · have e8 : eqI (((cs.map (fun c => List.replicate n 0 :: c.map (ivL n))).length : Nat) : Int) 0 = false := by rw [List.length_map, bN]; exact decide_eq_false Z
    rw [if_neg c0, e8]; rfl
end
theorem zq0W {x y : List Int} : 0 < cmpL y x ↔ cmpL x y < 0 := by
  constructor
  · intro h
    refine Decidable.not_not.1 fun hh => ?_
    have := aFY hh Z
    subst this
    rw [aFO] at h
    omega
  · intro h
    have h1 := a06 h
    have h2 : ¬ cmpL y x = 0 := fun hh => by
      have := bH1 hh
      subst this
      rw [aFO] at h
      omega
    omega
theorem zq1Q {ps : List Int} {n d r : Nat} {C K : Nat → V} {l : List (List Int)} {qs : List (List (List Int))} {s : Int} (hg : GQ ps n d r C K l qs s) {k : Nat} (hk : k < l.length) {y : List Int} (hy : y.length ≤ 8) {e : Int} (t1 : kH (y, ()) = some (e, ())) (t2 : e = 0 → ∀ a ∈ y, a.natAbs ≤ 1000000000) :
    K4 ((((ps, (Mr d n C, Mr r n K)), l.set k y), (qs, s)), ()) = some (zq12 r (K 0 0) l k y e, ()) := by
  have n4 := hg.rt.n4
  have hw : Rw r l := fun a ha => ⟨hg.lr a ha, fun c hc => by have := hg.lb a ha c hc; omega⟩
  have l10 := hg.l10
  have q4 := hg.q4
  have hgm := zq20 hg.rt hg.n1 hg.r1 hg.g hw Z hg.lc (fun i hi => bYL hg.si hi) hk Z t1 t2
  by_cases c : zq12 r (K 0 0) l k y e = 0
  · rw [c] at hgm ⊢
    have hok : ∀ i, i < qs.length → zq0E ps (qs.getD i []) := fun i hi => by
      have hm := List.getElem_mem hi
      have hgd : qs.getD i [] = qs[i] := by rw [List.getD_eq_getElem?_getD, List.getElem?_eq_getElem hi]; rfl
      rw [hgd]
      have hcc := hg.qc _ hm
      exact ⟨hcc.1, hcc.2, aN9 hg.rt.pr hg.rt.len Z _ Z (fun x hx => (hg.qr _ hm x hx).1) fun x hx => (hg.qr _ hm x hx).2.1⟩
    rw [zq0Q hgm hg.q0 Z hok, if_neg (by have := hg.s1; have := hg.s8; omega)]
  · exact zq0S hgm (by rw [bN]; exact decide_eq_false c)
theorem zq1R (x : PT) (h : XP x) (a : Int) (h0 : 0 ≤ a) (h1 : a < 256) (y : List Int) : zq1C (x, a, y, ()) = some (true, ()) := by
  unfold zq1C
  obtain ⟨b, hf, hb⟩ := bS7 x h.k
  cases b with
  | false => simp only [zq1T, aHL, hf, aC, cond_true, cond_false, zq2N]
  | true =>
  by_cases hl : y.length ≤ 8
  case neg =>
    have e1 : ltI 8 (y.length : Int) = true := by rw [aF]; exact decide_eq_true Z
    simp only [zq1T, aHL, hf, e1, aC, cond_true, zq2N]
  have hl8 : ltI 8 (y.length : Int) = false := by rw [aF]; exact decide_eq_false Z
  obtain ⟨b1, b2, b3, b4⟩ := hb rfl
  obtain ⟨ps, n, d, r, C, K, ⟨rt, k8⟩, hn1, m1, h4⟩ := bRB x.1.1 h.p.1.1 h.p.1.2 x.1.2.1 b1 h.p.2 x.1.2.2 x.2.1 b2 h.n x.2.2.1 b3 b4 h.c x.2.2.2 h.l.1 h.l.2
  have hxn := h.n
  have hxc := h.c
  have hxl := h.l
  obtain ⟨⟨v, rows, vals⟩, ns, cs, le⟩ := x
  dsimp only at b1 b2 b3 b4 m1 h4 hxn hxc hxl
  rcases h4 with ⟨hL, hm⟩ | ⟨hL, hm, hg⟩
  · have n4 := rt.n4
    have hnn := rt.len
    have e1 : ltI (n : Int) 0 = false := by rw [aF]; exact decide_eq_false Z
    have e2 : ltI (n : Int) (n : Int) = false := lN n
    have e3 : ltI 1048576 (n : Int) = false := by rw [aF]; exact decide_eq_false Z
    have e4 := bPH rt hn1
    rw [hL] at e4
    have hR : zq1V () (((v, (rows, vals)), (ns, (cs, le))), ()) [] = none := by
      simp only [zq1V, m1, aC, hnn, e1, e2, e3, e4, Bool.not_false, cond_true]
    have hA : zq1T (((v, (rows, vals)), (ns, (cs, le))), a, y, ()) = none := by
      simp only [zq1T, aHL, hf, hl8, hR, aC, cond_true, cond_false]
      rfl
    rw [hA]
    simp only [zq2N, zq1U, aHL, hf, hl8, hm, aC, cond_true, cond_false]
  have hM := zq0A m1 hg.rt hg.k8 hg.n1 hg.r1 hg.g hL b2 hxn b3 b4 hxc hxl.1 hxl.2
  generalize aV5 n r K ns = l at hM hg
  generalize aAR n cs = qs at hM hg
  generalize 1 + le % 3 = s at hM hg
  have hkm := a04 h0 h1 hg.l0
  have hk : a.toNat % l.length < l.length := Nat.mod_lt _ hg.l0
  generalize a.toNat % l.length = k at hkm hk
  obtain ⟨e, t1, t1b⟩ := aY0 y Z
  obtain ⟨m, me, t2⟩ := bXP y Z
  have hC := zq1Q hg hk hl t1 t1b
  have l10 := hg.l10
  have z1 : eqI (l.length : Int) 0 = false := by rw [bN]; exact decide_eq_false (by have := hg.l0; omega)
  suffices hS : zq1T (((v, (rows, vals)), (ns, (cs, le))), a, y, ()) = some (true, ()) by rw [hS]; rfl
  unfold zq12 at hC
  by_cases c1 : e = 0
  case neg =>
    have e1 : eqI e 0 = false := by rw [bN]; exact decide_eq_false c1
    have e2 := a0C e
    rw [if_pos c1] at hC
    simp only [zq1T, aHL, hf, hl8, hM, aC, cond_true, cond_false, z1, hkm, iO hk, bT hk, tN, t1, t2, e1, hC, e2, Bool.not_false]
  subst c1
  rw [if_neg O] at hC
  cases hm1 : ltI 10000 m with
  | true => simp only [zq1T, aHL, hf, hl8, hM, aC, cond_true, cond_false, z1, hkm, iO hk, bT hk, tN, t1, t2, e00, hm1]
  | false =>
  by_cases c2 : y.length = r
  case neg =>
    have e1 : eqI (y.length : Int) ((Mr r n K).length : Int) = false := by rw [bN, eO]; exact decide_eq_false Z
    have e2 := a0C 5
    rw [if_pos c2] at hC
    simp only [zq1T, aHL, hf, hl8, hM, aC, cond_true, cond_false, z1, hkm, iO hk, bT hk, tN, t1, t2, e00, hm1, e1, hC, e2, Bool.not_false, Bool.not_true]
  have e3 : eqI (y.length : Int) ((Mr r n K).length : Int) = true := by rw [bN, eO]; exact decide_eq_true Z
  rw [if_neg (fun hh => hh c2)] at hC
  have t3 := aXX hg.rt hg.n1 hg.r1 hg.g y c2 (t1b rfl)
  have t4 := ON (cl r (K 0 0) y) y (by rw [HO]; omega)
  by_cases c3 : cl r (K 0 0) y = y
  case neg =>
    have e2 := a0C 7
    rw [if_pos c3] at hC
    rw [decide_eq_false c3] at t4
    simp only [zq1T, aHL, hf, hl8, hM, aC, cond_true, cond_false, z1, hkm, iO hk, bT hk, tN, t1, t2, e00, hm1, e3, t3, t4, hC, e2, Bool.not_false, Bool.not_true]
  rw [decide_eq_true c3] at t4
  rw [if_neg (fun hh => hh c3)] at hC
  have e6 := a0C 6
  have hr64 : ∀ i, (l.getD i []).length ≤ 8 := fun i => by
    rcases Nat.lt_or_ge i l.length with c | c
    · rw [getD_at c, hg.lr _ (List.getElem_mem c)]; omega
    · rw [List.getD_eq_getElem?_getD, List.getElem?_eq_none c]; simp
  have wN : aA .i64 ((k : Int) + 1) = ((k + 1 : Nat) : Int) := bP k Z
  have hb1 : k + 1 < l.length → XM (y, l.getD (k + 1) [], ()) = some (cmpL y (l.getD (k + 1) []), ()) := fun _ => aDB _ _ Z (by have := hr64 (k + 1); omega)
  have hs1 : (l.set k y).getD (k + 1) [] = l.getD (k + 1) [] := zq30 Z
  by_cases ck : k = 0
  · have e7 : ltI 0 (k : Int) = false := by rw [aF]; exact decide_eq_false Z
    by_cases cn : k + 1 < l.length
    · have e8 : ltI ((k + 1 : Nat) : Int) (l.length : Int) = true := lI cn
      have t5 := hb1 cn
      by_cases co : cmpL y (l.getD (k + 1) []) < 0
      · have e9 : ltI (cmpL y (l.getD (k + 1) [])) 0 = true := by rw [aF]; exact decide_eq_true co
        rw [if_neg (by rintro (⟨hh, _⟩ | ⟨_, hh⟩); exact hh ck; exact hh (zq0W.2 co))] at hC
        simp only [zq1T, aHL, hf, hl8, hM, aC, cond_true, cond_false, z1, hkm, iO hk, bT hk, tN, t1, t2, e00, hm1, e3, t3, t4, e7, wN, List.length_set, e8, iO cn, bT cn, hs1, t5, e9, hC, Bool.not_false, Bool.not_true]
      · have e9 : ltI (cmpL y (l.getD (k + 1) [])) 0 = false := by rw [aF]; exact decide_eq_false co
        rw [if_pos (.inr ⟨cn, fun hh => co (zq0W.1 hh)⟩)] at hC
        simp only [zq1T, aHL, hf, hl8, hM, aC, cond_true, cond_false, z1, hkm, iO hk, bT hk, tN, t1, t2, e00, hm1, e3, t3, t4, e7, wN, List.length_set, e8, iO cn, bT cn, hs1, t5, e9, hC, e6, Bool.not_false, Bool.not_true]
    · have e8 : ltI ((k + 1 : Nat) : Int) (l.length : Int) = false := by rw [aF]; exact decide_eq_false Z
      rw [if_neg (by rintro (⟨hh, _⟩ | ⟨hh, _⟩); exact hh ck; exact cn hh)] at hC
      simp only [zq1T, aHL, hf, hl8, hM, aC, cond_true, cond_false, z1, hkm, iO hk, bT hk, tN, t1, t2, e00, hm1, e3, t3, t4, e7, wN, List.length_set, e8, hC, Bool.not_false, Bool.not_true]
  · have e7 : ltI 0 (k : Int) = true := by rw [aF]; exact decide_eq_true Z
    have wP : aA .i64 ((k : Int) - 1) = ((k - 1 : Nat) : Int) := by rw [wrap64 Z Z]; omega
    have hkp : k - 1 < l.length := by omega
    have hs0 : (l.set k y).getD (k - 1) [] = l.getD (k - 1) [] := zq30 Z
    have t6 := aDB (l.getD (k - 1) []) y (by have := hr64 (k - 1); omega) Z
    by_cases cp : cmpL (l.getD (k - 1) []) y < 0
    case neg =>
      have e9 : ltI (cmpL (l.getD (k - 1) []) y) 0 = false := by rw [aF]; exact decide_eq_false cp
      rw [if_pos (.inl ⟨ck, fun hh => cp (zq0W.1 hh)⟩)] at hC
      simp only [zq1T, aHL, hf, hl8, hM, aC, cond_true, cond_false, z1, hkm, iO hk, bT hk, tN, t1, t2, e00, hm1, e3, t3, t4, e7, wP, List.length_set, iO hkp, bT hkp, hs0, t6, e9, hC, e6, Bool.not_false, Bool.not_true]
    have e10 : ltI (cmpL (l.getD (k - 1) []) y) 0 = true := by rw [aF]; exact decide_eq_true cp
    have hcp : 0 < cmpL y (l.getD (k - 1) []) := zq0W.2 cp
    by_cases cn : k + 1 < l.length
    · have e8 : ltI ((k + 1 : Nat) : Int) (l.length : Int) = true := lI cn
      have t5 := hb1 cn
      by_cases co : cmpL y (l.getD (k + 1) []) < 0
      · have e9 : ltI (cmpL y (l.getD (k + 1) [])) 0 = true := by rw [aF]; exact decide_eq_true co
        rw [if_neg (by rintro (⟨_, hh⟩ | ⟨_, hh⟩); exact hh hcp; exact hh (zq0W.2 co))] at hC
        simp only [zq1T, aHL, hf, hl8, hM, aC, cond_true, cond_false, z1, hkm, iO hk, bT hk, tN, t1, t2, e00, hm1, e3, t3, t4, e7, wN, wP, List.length_set, iO hkp, bT hkp, hs0, t6, e10, e8, iO cn, bT cn, hs1, t5, e9, hC, Bool.not_false, Bool.not_true]
      · have e9 : ltI (cmpL y (l.getD (k + 1) [])) 0 = false := by rw [aF]; exact decide_eq_false co
        rw [if_pos (.inr ⟨cn, fun hh => co (zq0W.1 hh)⟩)] at hC
        simp only [zq1T, aHL, hf, hl8, hM, aC, cond_true, cond_false, z1, hkm, iO hk, bT hk, tN, t1, t2, e00, hm1, e3, t3, t4, e7, wN, wP, List.length_set, iO hkp, bT hkp, hs0, t6, e10, e8, iO cn, bT cn, hs1, t5, e9, hC, e6, Bool.not_false, Bool.not_true]
    · have e8 : ltI ((k + 1 : Nat) : Int) (l.length : Int) = false := by rw [aF]; exact decide_eq_false Z
      rw [if_neg (by rintro (⟨_, hh⟩ | ⟨hh, _⟩); exact hh hcp; exact cn hh)] at hC
      simp only [zq1T, aHL, hf, hl8, hM, aC, cond_true, cond_false, z1, hkm, iO hk, bT hk, tN, t1, t2, e00, hm1, e3, t3, t4, e7, wN, wP, List.length_set, iO hkp, bT hkp, hs0, t6, e10, e8, hC, Bool.not_false, Bool.not_true]
end Go.PM
