/- The plain machine, 6: slice expressions, append, copy, numbers. No program. -/
import Derived.ChangeKeysEq
import Derived.Test.YtjgapmocogjkmaaGreatDoorPmE
import Derived.Laws.Append
set_option linter.unusedSimpArgs false
set_option linter.unusedVariables false
namespace Go.PM
open Go Go.RowKit

section
variable {P : Program} {n0 : Nat → Prop} {w : World} {G : Nat → Prop} {μ : Mp} {H : Heap} {F : Frm} {a : Act} {nt : Nat}

/-- How a bound of a slice expression reads. -/
def BndAt (y : Option Value) (d l : Nat) : Prop := (y = none ∧ l = d) ∨ (∃ k i, y = some (.int k i) ∧ 0 ≤ i ∧ l = i.toNat)
theorem bnd_at (hF : FInv w G μ nt F a) {x : Option Operand} {d l : Nat} (h : bnd (x.map (ev F)) d = some l) : BndAt (x.map a.eval) d l := by
  cases x with
  | none => simp only [Option.map_none, bnd, Option.some.injEq] at h; exact .inl ⟨rfl, h.symm⟩
  | some x =>
    rcases bnd_run (w := w) (G := G) (μ := μ) (y := some (a.eval x)) h (ev_vr hF x) with ⟨h1, _⟩ | ⟨k, i, h1, h2, h3, _⟩
    · cases h1
    · exact .inr ⟨k, i, h1, h2, h3⟩
theorem sliceBounds_run {isSlice : Bool} {lo hi : Option Value} {l h len cap : Nat} (hlo : BndAt lo 0 l) (hhi : BndAt hi len h) (h1 : l ≤ h) (h2 : h ≤ cap) (w1 : World) :
    (Instr.sliceBounds isSlice len cap lo hi none).run P w1 = .ok (l, h, cap) w1 := by
  rcases hlo with ⟨rfl, rfl⟩ | ⟨k, i, rfl, hi0, rfl⟩ <;> rcases hhi with ⟨rfl, rfl⟩ | ⟨k', i', rfl, hi0', rfl⟩
  · simp [Instr.sliceBounds]
  · have : i' ≤ (cap : Int) := by omega
    simp [Instr.sliceBounds, Instr.sliceBound, asIntOf, hi0', this]
  · have : i ≤ (h : Int) := by omega
    simp [Instr.sliceBounds, Instr.sliceBound, asIntOf, hi0, this]
  · have a1 : i' ≤ (cap : Int) := by omega
    have a2 : i ≤ (i'.toNat : Int) := by omega
    simp only [Instr.sliceBounds, Instr.sliceBound, asIntOf, Sem.run_bind, Sem.run_pure, Result.andThen_ok, if_pos (And.intro hi0' a1), if_pos (And.intro hi0 a2)]

theorem room_le {b m n : Nat} (h : Room w b n) (hm : m ≤ n) : Room w b m := by
  obtain ⟨c, t, fr, h1, h2⟩ := h
  exact ⟨c, t, fr, h1, by omega⟩

theorem xSlice_sound (hF : FInv w G μ nt F a) {t : TypeId} {p v : PV} {x : Value} {lo hi : Option Operand} (hp : VR w G μ p x) (h : xSlice P t p (lo.map (ev F)) (hi.map (ev F)) = some v) (w1 : World) :
    ∃ v', (Instr.sliceAt t x (lo.map a.eval) (hi.map a.eval) none).run P w1 = .ok v' w1 ∧ VR w G μ v v' := by
  unfold xSlice at h
  split at h
  · rename_i e hu
    split at h
    · rename_i sz hs
      split at h
      · rename_i cs n cap
        split at h
        · rename_i l hh hl hhi
          cases hb : (Nat.ble l hh && Nat.ble hh n) with
          | false => rw [hb] at h; cases h
          | true =>
            rw [hb] at h
            simp only [cond_true, Option.some.injEq] at h
            subst h
            simp only [Bool.and_eq_true] at hb
            have h1 := Nat.le_of_ble_eq_true hb.1
            have h2 := Nat.le_of_ble_eq_true hb.2
            rw [VR] at hp
            obtain ⟨ao, c, rfl, h3, -, h4⟩ := hp
            have hr := sliceBounds_run (P := P) (isSlice := true) (bnd_at hF hl) (bnd_at hF hhi) h1 (Nat.le_trans h2 h3) w1
            refine ⟨.slice (if c = l then ao else ao.map (·.add (l * sz))) (hh - l) (c - l), ?_, ?_⟩
            · simp [Instr.sliceAt, Instr.slice, run_underlying hu, hr, run_sizeOf hs]
            · rw [VR]
              refine ⟨_, _, rfl, by omega, fun k hk => (by cases hk), ?_⟩
              by_cases hcl : c = l
              · left
                have : hh - l = 0 := by omega
                rw [this, Nat.zero_mul, List.take_zero]
              · rcases h4 with rfl | ⟨b, off, rfl, hg, hcs⟩
                · left; simp
                · right
                  exact ⟨b, off + l * sz, by simp [hcl, Addr.add_lit], hg, hcs.sub _ _⟩
        · cases h
      · rename_i r off n cap sz'
        cases hsz : Nat.beq sz sz' with
        | false => rw [hsz] at h; cases h
        | true =>
          rw [hsz] at h
          have hsz := Nat.eq_of_beq_eq_true hsz
          subst hsz
          simp only [cond_true] at h
          split at h
          · rename_i l hh hl hhi
            rw [VR] at hp
            obtain ⟨b, c, hb, rfl, h3, hcap, hroom⟩ := hp
            split at h
            · rename_i c'
              have := hcap c' rfl
              subst this
              cases hbb : (Nat.ble l hh && Nat.ble hh c) with
              | false => rw [hbb] at h; cases h
              | true =>
                rw [hbb] at h
                simp only [cond_true] at h
                simp only [Bool.and_eq_true] at hbb
                have h1 := Nat.le_of_ble_eq_true hbb.1
                have h2 := Nat.le_of_ble_eq_true hbb.2
                have hr := sliceBounds_run (P := P) (isSlice := true) (bnd_at hF hl) (bnd_at hF hhi) h1 h2 w1
                refine ⟨.slice (if c = l then some ⟨b, off, none⟩ else (some (⟨b, off, none⟩ : Addr)).map (·.add (l * sz))) (hh - l) (c - l), ?_, ?_⟩
                · simp only [Instr.sliceAt, Sem.run_bind, run_underlying hu, Result.andThen_ok, Instr.slice, hr, run_sizeOf hs, Sem.run_pure]
                · cases hcl : Nat.beq c l with
                  | true =>
                    rw [hcl] at h
                    simp only [cond_true, Option.some.injEq] at h
                    subst h
                    have hcl := Nat.eq_of_beq_eq_true hcl
                    subst hcl
                    have e1 : hh - c = 0 := by omega
                    rw [VR]
                    exact ⟨b, 0, hb, by simp [e1], Nat.le_refl _, fun k hk => (by cases hk; rfl), room_le hroom (by simp)⟩
                  | false =>
                    rw [hcl] at h
                    simp only [cond_false, Option.some.injEq] at h
                    subst h
                    have hne : ¬ c = l := fun e => (by rw [e] at hcl; simp at hcl)
                    rw [VR]
                    refine ⟨b, c - l, hb, by simp [hne, Addr.add_lit], by omega, fun k hk => (by cases hk; rfl), room_le hroom ?_⟩
                    have : l * sz + (c - l) * sz = c * sz := by rw [← Nat.add_mul]; congr 1; omega
                    omega
            · cases hbb : (Nat.ble l hh && Nat.ble hh n) with
              | false => rw [hbb] at h; cases h
              | true =>
                rw [hbb] at h
                simp only [cond_true] at h
                simp only [Bool.and_eq_true] at hbb
                have h1 := Nat.le_of_ble_eq_true hbb.1
                have h2 := Nat.le_of_ble_eq_true hbb.2
                have hr := sliceBounds_run (P := P) (isSlice := true) (bnd_at hF hl) (bnd_at hF hhi) h1 (Nat.le_trans h2 h3) w1
                refine ⟨.slice (if c = l then some ⟨b, off, none⟩ else (some (⟨b, off, none⟩ : Addr)).map (·.add (l * sz))) (hh - l) (c - l), ?_, ?_⟩
                · simp only [Instr.sliceAt, Sem.run_bind, run_underlying hu, Result.andThen_ok, Instr.slice, hr, run_sizeOf hs, Sem.run_pure]
                · cases hln : Nat.blt l n with
                  | true =>
                    rw [hln] at h
                    simp only [cond_true, Option.some.injEq] at h
                    subst h
                    have hln : l < n := by have := Nat.le_of_ble_eq_true hln; omega
                    have hne : ¬ c = l := by omega
                    rw [VR]
                    refine ⟨b, c - l, hb, by simp [hne, Addr.add_lit], by omega, fun k hk => (by cases hk), room_le hroom ?_⟩
                    have : l * sz + (c - l) * sz = c * sz := by rw [← Nat.add_mul]; congr 1; omega
                    omega
                  | false =>
                    rw [hln] at h
                    simp only [cond_false] at h
                    cases hl0 : Nat.beq l 0 with
                    | true =>
                      rw [hl0] at h
                      simp only [cond_true, Option.some.injEq] at h
                      subst h
                      have hl0 := Nat.eq_of_beq_eq_true hl0
                      subst hl0
                      have hn : n = 0 := by
                        rcases Nat.eq_zero_or_pos n with h0 | h0
                        · exact h0
                        · have : Nat.blt 0 n = true := Nat.ble_eq_true_of_le h0
                          rw [this] at hln; cases hln
                      subst hn
                      have : hh = 0 := by omega
                      subst this
                      rw [VR]
                      refine ⟨b, c, hb, ?_, Nat.zero_le _, fun k hk => (by cases hk), hroom⟩
                      by_cases hc0 : c = 0 <;> simp [hc0, Addr.add]
                    | false =>
                      rw [hl0] at h
                      simp only [cond_false, Option.some.injEq] at h
                      subst h
                      have hln : n ≤ l := by
                        rcases Nat.lt_or_ge l n with h0 | h0
                        · have : Nat.blt l n = true := Nat.ble_eq_true_of_le h0
                          rw [this] at hln; cases hln
                        · exact h0
                      have e1 : hh - l = 0 := by omega
                      rw [VR]
                      exact ⟨_, _, by rw [e1], Nat.zero_le _, fun k hk => (by cases hk), .inl rfl⟩
          · cases h
      · cases h
    · cases h
  · rename_i n e hu
    split at h
    · rename_i sz hs
      split at h
      · rename_i l hh hl hhi
        cases hbb : (Nat.ble l hh && Nat.ble hh n && Nat.blt l n) with
        | false => rw [hbb] at h; cases h
        | true =>
          rw [hbb] at h
          simp only [cond_true] at h
          simp only [Bool.and_eq_true] at hbb
          have h1 := Nat.le_of_ble_eq_true hbb.1.1
          have h2 := Nat.le_of_ble_eq_true hbb.1.2
          have h3 : l < n := by have := Nat.le_of_ble_eq_true hbb.2; omega
          split at h
          · rename_i cs
            simp only [Option.some.injEq] at h
            subst h
            rw [VR] at hp
            obtain ⟨b, off, rfl, hg, hcs⟩ := hp
            have hr := sliceBounds_run (P := P) (isSlice := false) (bnd_at hF hl) (bnd_at hF hhi) h1 h2 w1
            have hne : ¬ n = l := by omega
            refine ⟨.slice (some ⟨b, off + l * sz, none⟩) (hh - l) (n - l), ?_, ?_⟩
            · simp [Instr.sliceAt, run_underlying hu, hr, run_sizeOf hs, Instr.sureAddr, hne, Addr.add_lit]
            · rw [VR]
              exact ⟨_, _, rfl, by omega, fun k hk => (by cases hk), .inr ⟨b, _, rfl, hg, hcs.sub _ _⟩⟩
          · cases h
      · cases h
    · cases h
  · cases h

theorem xBin_sound {op : BinOp} {k : IntKind} {x y : Int} {v : Value} {t : TypeId} {p q : Operand} (h : xBin op k x y = some v) (w1 : World) : (do eqGuard op t p q (.int k x) (.int k y); binOp op t (.int k x) (.int k y) : Sem Value).run P w1 = .ok v w1 := by
  have hg : (eqGuard op t p q (.int k x) (.int k y)).run P w1 = .ok () w1 := by
    cases op <;> simp [eqGuard]
  have hle : ∀ a b : Int, (!decide (a < b)) = decide (b ≤ a) := fun a b => by
    rw [← decide_not]; exact decide_eq_decide.2 (by omega)
  simp only [Sem.run_bind, hg, Result.andThen_ok]
  cases op <;> simp only [xBin, Option.some.injEq, wrapF_eq, ltI_eq, eqI_eq] at h <;> try (cases h; done)
  all_goals first
    | (subst h; simp [binOp, Op.intArith, Op.intCmp]; done)
    | (cases hd : decide (y = 0) with
       | true => rw [hd] at h; cases h
       | false =>
         rw [hd] at h
         simp only [cond_false, Option.some.injEq] at h
         subst h
         have : ¬ y = 0 := of_decide_eq_false hd
         simp [binOp, Op.intDiv, this])
    | skip
  all_goals (subst h; simp only [hle, binOp, Op.intCmp, ne_eq, not_true_eq_false, if_false, ite_false, Sem.run_pure]; try rfl)
theorem run_eqFieldsW {xs ys : Array Value} {cs ds : List PV} (hx : VRs w G μ cs xs.toList) (hy : VRs w G μ ds ys.toList) (d : Nat) (w1 : World) {sub : List Field → List PV → List PV → Option Bool}
    (hs : ∀ (xs ys : Array Value) (cs ds : List PV) (gs : List Field) (r : Bool), VRs w G μ cs xs.toList → VRs w G μ ds ys.toList → sub gs cs ds = some r → (Op.eqFields d xs ys gs).run P w1 = .ok r w1) :
    ∀ (fs : List Field) {r : Bool}, eqFieldsW P sub fs cs ds = some r → (Op.eqFields (d + 1) xs ys fs).run P w1 = .ok r w1
  | [], r, h => by
    simp only [eqFieldsW, Option.some.injEq] at h
    subst h
    simp only [Op.eqFields, Sem.run_pure]
  | f :: fs, r, h => by
    simp only [eqFieldsW] at h
    cases hn : f.name == "_" with
    | true => rw [hn] at h; cases h
    | false =>
      rw [hn] at h
      simp only [cond_false] at h
      have hne : f.name ≠ "_" := by simpa using hn
      split at h
      · rename_i k0 hu
        split at h
        · rename_i k a l b e1 e2
          cases hk : kindEq k l with
          | false => rw [hk] at h; cases h
          | true =>
            rw [hk] at h
            simp only [cond_true] at h
            have hk := kindEq_eq hk
            subst hk
            split at h
            · rename_i r' hr
              simp only [Option.some.injEq] at h
              subst h
              obtain ⟨u, g1, g2⟩ := run_part (P := P) hx e1 w1
              obtain ⟨v, g3, g4⟩ := run_part (P := P) hy e2 w1
              rw [VR] at g2 g4
              subst g2; subst g4
              have ih := run_eqFieldsW hx hy d w1 hs fs hr
              simp only [Op.eqFields, if_pos hne, Sem.run_bind, g1, g3, Result.andThen_ok, run_equalIn_int w1 d f.type k k0 a b hu]
              rw [eqI_eq]
              by_cases hab : a = b
              · subst hab
                simp only [beq_self_eq_true, Bool.not_true, Bool.false_eq_true, if_false, ih, decide_true, Bool.true_and]
              · have : (a == b) = false := by simpa using hab
                simp only [this, Bool.not_false, if_true, Sem.run_pure, decide_eq_false hab, Bool.false_and]
            · cases h
        · cases h
      · rename_i gs hu
        cases hh : P.stoodInHeld f.type with
        | true => rw [hh] at h; cases h
        | false =>
          rw [hh] at h
          simp only [cond_false] at h
          split at h
          · rename_i cs' ds' e1 e2
            split at h
            · rename_i q r' hq hr
              simp only [Option.some.injEq] at h
              subst h
              obtain ⟨u, g1, g2⟩ := run_part (P := P) hx e1 w1
              obtain ⟨v, g3, g4⟩ := run_part (P := P) hy e2 w1
              rw [VR] at g2 g4
              obtain ⟨us, rfl, hus⟩ := g2
              obtain ⟨vs, rfl, hvs⟩ := g4
              have ih := run_eqFieldsW hx hy d w1 hs fs hr
              have hf : P.fieldsOf f.type = gs := by simp only [Program.fieldsOf, hu]
              have hu' : P.underlying f.type = some (.struct (P.fieldsOf f.type)) := by rw [hf]; exact hu
              have ihs := hs _ _ cs' ds' gs.toList q hus hvs hq
              simp only [Op.eqFields, if_pos hne, Sem.run_bind, g1, g3, Result.andThen_ok, run_equalIn_struct w1 d f.type _ _ hu' hh, hf, ihs]
              cases q with
              | true => simp only [Bool.not_true, Bool.false_eq_true, if_false, ih, Bool.true_and]
              | false => simp only [Bool.not_false, if_true, Sem.run_pure, Bool.false_and]
            · cases h
          · cases h
      · cases h
theorem run_eqPlainN (w1 : World) : ∀ (n d : Nat) (xs ys : Array Value) (cs ds : List PV) (fs : List Field) (r : Bool), VRs w G μ cs xs.toList → VRs w G μ ds ys.toList → eqPlainN P n fs cs ds = some r → (Op.eqFields (d + n) xs ys fs).run P w1 = .ok r w1
  | 0, d, xs, ys, cs, ds, fs, r, hx, hy, h => by cases h
  | n + 1, d, xs, ys, cs, ds, fs, r, hx, hy, h => run_eqFieldsW hx hy (d + n) w1 (fun xs ys cs ds gs r h1 h2 h3 => run_eqPlainN w1 n d xs ys cs ds gs r h1 h2 h3) fs h
theorem run_eqPlain {xs ys : Array Value} {cs ds : List PV} (hx : VRs w G μ cs xs.toList) (hy : VRs w G μ ds ys.toList) (w1 : World) (fs : List Field) {r : Bool} (h : eqPlain P fs cs ds = some r) : (Op.eqFields 9999 xs ys fs).run P w1 = .ok r w1 :=
  run_eqPlainN w1 3 9996 xs ys cs ds fs r hx hy h
theorem run_eqItemsP {xs ys : Array Value} {cs ds : List PV} (hx : VRs w G μ cs xs.toList) (hy : VRs w G μ ds ys.toList) (d : Nat) (w1 : World) {e : TypeId} : ∀ (is : List Nat) {r : Bool}, eqItemsP P e is cs ds = some r → (Op.eqItems (d + 1) e (P.cellsOf e) xs ys is).run P w1 = .ok r w1
  | [], r, h => by
    simp only [eqItemsP, Option.some.injEq] at h
    subst h
    simp only [Op.eqItems, Sem.run_pure]
  | f :: fs, r, h => by
    simp only [eqItemsP] at h
    split at h
    · rename_i k0 hu
      split at h
      · rename_i k a l b e1 e2
        cases hk : kindEq k l with
        | false => rw [hk] at h; cases h
        | true =>
          rw [hk] at h
          simp only [cond_true] at h
          have hk := kindEq_eq hk
          subst hk
          split at h
          · rename_i r' hr
            simp only [Option.some.injEq] at h
            subst h
            obtain ⟨u, g1, g2⟩ := run_part (P := P) hx e1 w1
            obtain ⟨v, g3, g4⟩ := run_part (P := P) hy e2 w1
            rw [VR] at g2 g4
            subst g2; subst g4
            have ih := run_eqItemsP hx hy d w1 fs hr
            simp only [Op.eqItems, Sem.run_bind, g1, g3, Result.andThen_ok, run_equalIn_int w1 d e k k0 a b hu]
            rw [eqI_eq]
            by_cases hab : a = b
            · subst hab
              simp only [beq_self_eq_true, Bool.not_true, Bool.false_eq_true, if_false, ih, decide_true, Bool.true_and]
            · have : (a == b) = false := by simpa using hab
              simp only [this, Bool.not_false, if_true, Sem.run_pure, decide_eq_false hab, Bool.false_and]
          · cases h
      · cases h
    · cases h
theorem xAgg_sound {op : BinOp} {t : TypeId} {xs ys : Array Value} {cs ds : List PV} {v : PV} {p q : Operand} (hx : VRs w G μ cs xs.toList) (hy : VRs w G μ ds ys.toList) (h : xAgg P op t cs ds = some v) (w1 : World) :
    ∃ v', (do eqGuard op t p q (.agg xs) (.agg ys); binOp op t (.agg xs) (.agg ys) : Sem Value).run P w1 = .ok v' w1 ∧ VR w G μ v v' := by
  unfold xAgg at h
  split at h
  · rename_i fs hu
    cases hb : (P.stoodInHeld t || P.eqGuardType P.depth t) with
    | true => rw [hb] at h; cases h
    | false =>
      rw [hb] at h
      simp only [cond_false] at h
      rw [Bool.or_eq_false_iff] at hb
      have hf : P.fieldsOf t = fs := by simp only [Program.fieldsOf, hu]
      have hu' : P.underlying t = some (.struct (P.fieldsOf t)) := by rw [hf]; exact hu
      split at h
      · rename_i r hr
        simp only [Option.some.injEq] at h
        subst h
        refine ⟨.bool r, ?_, by rw [VR]⟩
        have := run_eqPlain (P := P) hx hy w1 fs.toList hr
        simp only [Sem.run_bind, run_eqGuard_agg w1 .eql t p q xs ys hb.2, Result.andThen_ok, run_eql_struct, run_equalIn_struct w1 9999 t xs ys hu' hb.1, hf, this]
      · rename_i r hr
        simp only [Option.some.injEq] at h
        subst h
        refine ⟨.bool (!r), ?_, by rw [VR]⟩
        have := run_eqPlain (P := P) hx hy w1 fs.toList hr
        simp only [Sem.run_bind, run_eqGuard_agg w1 .neq t p q xs ys hb.2, Result.andThen_ok, run_neq_struct, run_equalIn_struct w1 9999 t xs ys hu' hb.1, hf, this]
      · cases h
  · rename_i n e hu
    cases hb : (P.eqGuardType P.depth t || !(P.info? e).isSome) with
    | true => rw [hb] at h; cases h
    | false =>
      rw [hb] at h
      simp only [cond_false] at h
      rw [Bool.or_eq_false_iff, Bool.not_eq_false'] at hb
      obtain ⟨i, hi⟩ := Option.isSome_iff_exists.1 hb.2
      split at h
      · rename_i r hr
        simp only [Option.some.injEq] at h
        subst h
        refine ⟨.bool r, ?_, by rw [VR]⟩
        have := run_eqItemsP (P := P) hx hy 9998 w1 (List.range n) hr
        simp only [Sem.run_bind, run_eqGuard_agg w1 .eql t p q xs ys hb.1, Result.andThen_ok, run_eql_struct, run_equalIn_array w1 9999 xs ys hu hi, this]
      · rename_i r hr
        simp only [Option.some.injEq] at h
        subst h
        refine ⟨.bool (!r), ?_, by rw [VR]⟩
        have := run_eqItemsP (P := P) hx hy 9998 w1 (List.range n) hr
        simp only [Sem.run_bind, run_eqGuard_agg w1 .neq t p q xs ys hb.1, Result.andThen_ok, run_neq_struct, run_equalIn_array w1 9999 xs ys hu hi, this]
      · cases h
  · cases h
end
end Go.PM
