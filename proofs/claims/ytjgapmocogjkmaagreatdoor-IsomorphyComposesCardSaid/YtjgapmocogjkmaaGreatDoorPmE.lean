/- The plain machine, 5: parts, literals, make, slices, length. No program. -/
import Derived.Test.YtjgapmocogjkmaaGreatDoorPmD
import Derived.Laws.Tables
import Derived.Laws.MakeOwn
set_option linter.unusedSimpArgs false
set_option linter.unusedVariables false
namespace Go.PM
open Go Go.RowKit

section
variable {P : Program} {n0 : Nat → Prop} {w : World} {G : Nat → Prop} {μ : Mp} {H : Heap} {F : Frm} {a : Act} {nt : Nat}

theorem run_part {t : TypeId} {cs : List PV} {v : PV} {vs : Array Value} {off : Nat} (hv : VRs w G μ cs vs.toList) (h : xPart P t (cs.drop off) = some v) (w1 : World) : ∃ v', (part t vs off).run P w1 = .ok v' w1 ∧ VR w G μ v v' := by
  unfold xPart at h
  cases ha : aggT P t with
  | none => rw [ha] at h; cases h
  | some g =>
    rw [ha] at h
    cases g with
    | false =>
      simp only [List.head?_drop] at h
      obtain ⟨v', h1, h2⟩ := hv.get h
      refine ⟨v', ?_, h2⟩
      have h1 : vs[off]? = some v' := by simpa using h1
      simp [part, run_isAgg ha, h1]
    | true =>
      simp only at h
      cases hs : sizeT P t with
      | none => rw [hs] at h; cases h
      | some n =>
        rw [hs] at h
        simp only at h
        cases hn : Nat.ble n (cs.drop off).length with
        | false => rw [hn] at h; cases h
        | true =>
          rw [hn] at h
          simp only [cond_true, Option.some.injEq] at h
          subst h
          refine ⟨.agg (vs.extract off (off + n)), by simp [part, run_isAgg ha, run_sizeOf hs], ?_⟩
          rw [VR]
          refine ⟨_, rfl, ?_⟩
          have := (hv.drop off).take n
          simpa [Array.toList_extract, List.extract_eq_take_drop] using this
theorem xField_sound {s : TypeId} {f : Nat} {fd : Field} {cs : List PV} {v : PV} {x : Value} (hx : VR w G μ (.agg cs) x) (hf : xField P s f = some fd) (h : xPart P fd.type (cs.drop fd.offset) = some v) (w1 : World) : ∃ v', (Instr.field s x f).run P w1 = .ok v' w1 ∧ VR w G μ v v' := by
  rw [VR] at hx
  obtain ⟨vs, rfl, hv⟩ := hx
  unfold xField at hf
  split at hf
  · rename_i fs hu
    obtain ⟨v', h1, h2⟩ := run_part (P := P) hv h w1
    exact ⟨v', by simp [Instr.field, run_underlying hu, hf, asAgg, h1], h2⟩
  · cases hf
theorem xIndex_sound {t e : TypeId} {n sz : Nat} {k : IntKind} {i : Int} {cs : List PV} {v : PV} {x : Value} (hx : VR w G μ (.agg cs) x) (hu : P.underlying t = some (.array n e)) (hs : sizeT P e = some sz) (hi : idxOk i n = true)
    (h : xPart P e (cs.drop (i.toNat * sz)) = some v) (w1 : World) : ∃ v', (Instr.index t x (.int k i)).run P w1 = .ok v' w1 ∧ VR w G μ v v' := by
  rw [VR] at hx
  obtain ⟨vs, rfl, hv⟩ := hx
  have hi := idxOk_iff hi
  obtain ⟨v', h1, h2⟩ := run_part (P := P) hv h w1
  exact ⟨v', by simp [Instr.index, asIntOf, run_underlying hu, hi.1, hi.2, run_sizeOf hs, h1], h2⟩
theorem xExtract_sound {i : Nat} {cs : List PV} {v : PV} {x : Value} (hx : VR w G μ (.tuple cs) x) (h : cs[i]? = some v) (w1 : World) : ∃ v', (Instr.extract x i).run P w1 = .ok v' w1 ∧ VR w G μ v v' := by
  rw [VR] at hx
  obtain ⟨vs, rfl, hv⟩ := hx
  obtain ⟨v', h1, h2⟩ := hv.get h
  have h1 : vs[i]? = some v' := by simpa using h1
  exact ⟨v', by simp [Instr.extract, h1], h2⟩

theorem foldl_splice {off : Nat} : ∀ (l : List Value) (j : Nat) (cells : Array Value), off + j + l.length ≤ cells.size → (l.zipIdx j).foldl (fun cs (x : Value × Nat) => cs.setIfInBounds (off + x.2) x.1) cells = spliceV cells (off + j) l
  | [], j, cells, _ => by simp [spliceV]
  | v :: l, j, cells, h => by
    simp only [List.length_cons] at h
    rw [List.zipIdx_cons, List.foldl_cons, foldl_splice l (j + 1) _ (by simp only [Array.size_setIfInBounds]; omega), ← Nat.add_assoc, spliceV_cons (by omega)]
theorem splice_all {cs new : List PV} {c : Array Value} {vs : List Value} {off : Nat} (h : VRs w G μ cs c.toList) (hn : VRs w G μ new vs) : VRs w G μ (splice cs off new) (spliceV c off vs).toList := by
  simp only [splice, spliceV, hn.length]
  exact ((h.take off).append hn).append (h.drop _)
theorem fill_sound (hF : FInv w G μ nt F a) (place : Nat → Option (Nat × Nat)) : ∀ (parts : List (Nat × Operand)) (cs out : List PV) (c : Array Value), VRs w G μ cs c.toList → xFill place cs (parts.map fun p => (p.1, ev F p.2)) = some out →
    ∃ c', Instr.fill place c (parts.map fun p => (p.1, a.eval p.2)) = some c' ∧ VRs w G μ out c'.toList
  | [], cs, out, c, hc, h => by
    simp only [List.map_nil, xFill, Option.some.injEq] at h
    exact ⟨c, rfl, h ▸ hc⟩
  | (i, x) :: parts, cs, out, c, hc, h => by
    simp only [List.map_cons, xFill] at h
    split at h
    · rename_i off size new hp hcp
      cases hb : (Nat.beq new.length size && Nat.ble (off + new.length) cs.length) with
      | false => rw [hb] at h; cases h
      | true =>
        rw [hb] at h
        simp only [cond_true] at h
        simp only [Bool.and_eq_true] at hb
        have h1 := Nat.eq_of_beq_eq_true hb.1
        have h2 := Nat.le_of_ble_eq_true hb.2
        have hv := cellsP_vrs hcp (ev_vr hF x)
        have hl := hv.length
        have hcl := hc.length
        simp only [Array.length_toList] at hl hcl
        obtain ⟨c', h3, h4⟩ := fill_sound hF place parts _ out _ (splice_all (off := off) hc hv) h
        refine ⟨c', ?_, h4⟩
        simp only [List.map_cons, Instr.fill, hp]
        have hno : (((a.eval x).cells.size != size) || decide (off + (a.eval x).cells.size > c.size)) = false := by
          rw [Bool.or_eq_false_iff]
          constructor
          · rw [← hl, h1]; simp
          · rw [decide_eq_false_iff_not]; omega
        have hno' : ¬ ((a.eval x).cells.size ≠ size ∨ off + (a.eval x).cells.size > c.size) := by omega
        have hf := foldl_splice (off := off) (a.eval x).cells.toList 0 c (by simp only [Array.length_toList]; omega)
        rw [Nat.add_zero] at hf
        rw [← Array.foldl_toList]
        simp only [Array.toList_zipIdx]
        rw [hf]
        simp [hno', h3]
    · cases h

theorem mapPairs (parts : Array (Nat × Operand)) (ρ : Operand → Value) : (parts.map fun (i, x) => (i, ρ x)).toList = parts.toList.map fun p => (p.1, ρ p.2) := by simp
theorem xBuild_sound (hF : FInv w G μ nt F a) {t : TypeId} {parts : Array (Nat × Operand)} {v : PV} (h : xBuild P F t parts.toList = some v) (w1 : World) : ∃ v', (Instr.build t (parts.map fun (i, x) => (i, a.eval x))).run P w1 = .ok v' w1 ∧ VR w G μ v v' := by
  unfold xBuild at h
  split at h
  · rename_i it n e hit hu
    split at h
    · rename_i z ie hz hie
      split at h
      · rename_i cs hf
        simp only [Option.some.injEq] at h
        subst h
        obtain ⟨c', h1, h2⟩ := fill_sound hF _ _ _ _ _ (lits_vr _) hf
        refine ⟨.agg c', run_build w1 t _ c' ?_, by rw [VR]; exact ⟨_, rfl, h2⟩⟩
        simp only [Program.built, hit, hu, hz, hie, mapPairs, h1]
      · cases h
    · cases h
  · rename_i it fields hit hu
    split at h
    · rename_i z places hz hpl
      split at h
      · rename_i cs hf
        simp only [Option.some.injEq] at h
        subst h
        obtain ⟨c', h1, h2⟩ := fill_sound hF _ _ _ _ _ (lits_vr _) hf
        refine ⟨.agg c', run_build w1 t _ c' ?_, by rw [VR]; exact ⟨_, rfl, h2⟩⟩
        simp only [Program.built, hit, hu, hz, hpl, mapPairs, h1]
      · cases h
    · cases h
  · cases h

theorem zeroRow_vrs (z : Value) (n : Nat) : VRs w G μ (zeroRow z n) (madeCells z.cells n).toList := by
  unfold zeroRow
  split
  · rename_i v hz
    have e : madeCells z.cells n = Array.replicate n v := by
      have hz' : z.cells = #[v] := by apply Array.ext'; simpa using hz
      apply Array.ext
      · simp [madeCells]
      · intro i h1 h2
        simp [madeCells, hz', Nat.mod_one]
    rw [e]
    have := VRs.lits (w := w) (G := G) (μ := μ) (List.replicate n v)
    simpa using this
  · have := VRs.lits (w := w) (G := G) (μ := μ) ((List.range n).map fun i => z.cells[i % z.cells.size]!)
    simp only [List.map_map] at this
    simpa [madeCells, Function.comp_def] using this

theorem xBuildSlice_sound (hW : WInv n0 G μ H w) (hF : FInv w G μ nt F a) {t : TypeId} {len : Nat} {parts : Array (Nat × Operand)} {v : PV} (h : xBuildSlice P F t len parts.toList = some v) :
    OpOK P n0 w G μ (Instr.buildSlice t len (parts.map fun (i, x) => (i, a.eval x))) v H := by
  unfold xBuildSlice at h
  split at h
  · rename_i e hu
    split at h
    · rename_i sz z hs hz
      cases hb : (Nat.ble (len * sz) 16777216 && Nat.ble 1 z.cells.size) with
      | false => rw [hb] at h; cases h
      | true =>
        rw [hb] at h
        simp only [cond_true] at h
        simp only [Bool.and_eq_true] at hb
        have h1 := Nat.le_of_ble_eq_true hb.1
        have h2 := Nat.le_of_ble_eq_true hb.2
        split at h
        · rename_i cs hf
          cases hj : noRef.noRefs cs with
          | false => rw [hj] at h; cases h
          | true =>
            rw [hj] at h
            simp only [cond_true, Option.some.injEq] at h
            subst h
            obtain ⟨c', h3, h4⟩ := fill_sound hF _ _ _ _ _ (zeroRow_vrs z (len * sz)) hf
            have hzero : ∃ i, P.info? e = some i ∧ i.zero = some z := by
              unfold zeroT at hz
              split at hz
              · rename_i i hi; exact ⟨i, hi, hz⟩
              · cases hz
            obtain ⟨i, hi, hz'⟩ := hzero
            obtain ⟨e1, e2⟩ := good_winv hW (.cells c' e)
            refine ⟨.slice (some ⟨w.heap.size, 0, none⟩) len len, w.alloc (.cells c' e), _, _, ?_, e1, e2, ?_⟩
            · have hn : ¬ (len * sz > 2 ^ 24) := by omega
              have hrow : (Array.range (len * sz)).map (fun x => z.cells[x % z.cells.size]!) = madeCells z.cells (len * sz) := rfl
              have h3' : Instr.fill (fun i => some (i * sz, sz)) (Array.map (fun x => z.cells[x % z.cells.size]!) (Array.range (len * sz))) (parts.map fun (i, x) => (i, a.eval x)).toList = some c' := by rw [mapPairs, hrow]; exact h3
              by_cases h0 : len * sz = 0
              · have h3'' : Instr.fill (fun i => some (i * sz, sz)) (Array.map (fun x => (#[] : Array Value)[x % 0]!) (Array.range (len * sz))) (parts.map fun (i, x) => (i, a.eval x)).toList = some c' := by
                  rw [← h3']; congr 1; rw [h0]; simp [Array.range_zero']
                rw [h0] at h3''
                simp [Instr.buildSlice, run_underlying hu, run_sizeOf hs, h0, newRow]
                simp at h3''
                rw [h3'']
                simp
              · simp only [Instr.buildSlice, Sem.run_bind, run_underlying hu, Result.andThen_ok, run_sizeOf hs, if_neg hn, if_neg h0]
                simp only [Sem.run_pure, Result.andThen_ok, Sem.run_bind, zeroValue, run_info hi, hz', h3']
                simp [newRow]
            · rw [VR]
              refine ⟨_, _, rfl, Nat.le_refl _, fun k hk => (by cases hk; rfl), ?_⟩
              refine .inr ⟨w.heap.size, 0, rfl, .inr rfl, ?_⟩
              refine VCells.mk fun j p hp => ?_
              obtain ⟨u, g1, g2⟩ := (noRefs_vrs _ _ hj h4).get hp
              refine ⟨u, ?_, VR.mono e1.toMono.nomap p u g2⟩
              rw [Nat.zero_add, World.cell?_alloc_new]
              simpa using g1
        · cases h
    · cases h
  · cases h

theorem fill_size {place : Nat → Option (Nat × Nat)} : ∀ {parts : List (Nat × Value)} {c c' : Array Value}, Instr.fill place c parts = some c' → c'.size = c.size
  | [], c, c', h => by
    simp only [Instr.fill, Option.some.injEq] at h
    rw [h]
  | (i, v) :: rest, c, c', h => by
    unfold Instr.fill at h
    split at h
    · cases h
    · rename_i off size hp
      split at h
      · cases h
      · have := fill_size h
        rw [this]
        have key : ∀ (l : List (Value × Nat)) (cs : Array Value), (l.foldl (fun cs (x : Value × Nat) => cs.setIfInBounds (off + x.2) x.1) cs).size = cs.size := by
          intro l
          induction l with
          | nil => intro cs; rfl
          | cons x l ih => intro cs; rw [List.foldl_cons, ih]; simp
        rw [← Array.foldl_toList]
        exact key _ _
theorem xBuildSliceH_sound (hW : WInv n0 G μ H w) (hF : FInv w G μ nt F a) {t : TypeId} {len : Nat} {parts : Array (Nat × Operand)} {v : PV} {H' : Heap} (h : xBuildSliceH P F H t len parts.toList = some (v, H')) :
    OpOK P n0 w G μ (Instr.buildSlice t len (parts.map fun (i, x) => (i, a.eval x))) v H' := by
  unfold xBuildSliceH at h
  split at h
  · rename_i e hu
    split at h
    · rename_i sz z hs hz
      cases hb : (Nat.ble (len * sz) 16777216 && Nat.ble 1 z.cells.size) with
      | false => rw [hb] at h; cases h
      | true =>
        rw [hb] at h
        simp only [cond_true] at h
        simp only [Bool.and_eq_true] at hb
        have h1 := Nat.le_of_ble_eq_true hb.1
        have h2 := Nat.le_of_ble_eq_true hb.2
        split at h
        · rename_i cs hf
          simp only [Option.some.injEq, Prod.mk.injEq] at h
          obtain ⟨rfl, rfl⟩ := h
          obtain ⟨c', h3, h4⟩ := fill_sound hF _ _ _ _ _ (zeroRow_vrs z (len * sz)) hf
          have hzero : ∃ i, P.info? e = some i ∧ i.zero = some z := by
            unfold zeroT at hz
            split at hz
            · rename_i i hi; exact ⟨i, hi, hz⟩
            · cases hz
          obtain ⟨i, hi, hz'⟩ := hzero
          have hl := h4.length
          rw [Array.length_toList] at hl
          have hk := alloc_winv (on := none) hW c' ⟨cs, e, false, false, none⟩ (fun j p hp => by
            obtain ⟨u, g1, g2⟩ := h4.get hp
            exact ⟨u, by simpa using g1, g2⟩) (fun _ => hl.symm) rfl (fun g hg => by cases hg)
          have hsz : c'.size = len * sz := by
            have h5 := fill_size h3
            rw [h5]; simp [madeCells]
          refine ⟨.slice (some ⟨w.heap.size, 0, none⟩) len len, w.alloc (.cells c' e), G, _, ?_, alloc_ext hW _ _ _, hk, ?_⟩
          · have hn : ¬ (len * sz > 2 ^ 24) := by omega
            have hrow : (Array.range (len * sz)).map (fun x => z.cells[x % z.cells.size]!) = madeCells z.cells (len * sz) := rfl
            have h3' : Instr.fill (fun i => some (i * sz, sz)) (Array.map (fun x => z.cells[x % z.cells.size]!) (Array.range (len * sz))) (parts.map fun (i, x) => (i, a.eval x)).toList = some c' := by rw [mapPairs, hrow]; exact h3
            by_cases h0 : len * sz = 0
            · have h3'' : Instr.fill (fun i => some (i * sz, sz)) (Array.map (fun x => (#[] : Array Value)[x % 0]!) (Array.range (len * sz))) (parts.map fun (i, x) => (i, a.eval x)).toList = some c' := by
                rw [← h3']; congr 1; rw [h0]; simp [Array.range_zero']
              rw [h0] at h3''
              simp [Instr.buildSlice, run_underlying hu, run_sizeOf hs, h0, newRow]
              simp at h3''
              rw [h3'']
              simp
            · simp only [Instr.buildSlice, Sem.run_bind, run_underlying hu, Result.andThen_ok, run_sizeOf hs, if_neg hn, if_neg h0]
              simp only [Sem.run_pure, Result.andThen_ok, Sem.run_bind, zeroValue, run_info hi, hz', h3']
              simp [newRow]
          · rw [VR]
            refine ⟨w.heap.size, _, upd_loc _ _ _ _, rfl, Nat.le_refl _, fun k hk => (by cases hk; rfl), ?_⟩
            refine ⟨c', e, (0, 0), ?_, ?_⟩
            · show (w.heap.push _)[w.heap.size]? = _
              simp
            · rw [Nat.zero_add, hsz]; exact Nat.le_refl _
        · cases h
    · cases h
  · cases h
theorem xMakeSlice_sound (hW : WInv n0 G μ H w) {t : TypeId} {l c v : PV} {H' : Heap} {x y : Value} (hx : VR w G μ l x) (hy : VR w G μ c y) (h : xMakeSlice P H t l c = some (v, H')) : OpOK P n0 w G μ (Instr.makeSlice t x y) v H' := by
  unfold xMakeSlice at h
  split at h
  · rename_i e kl l kc c hu
    rw [VR] at hx hy
    subst hx; subst hy
    split at h
    · rename_i i hi
      split at h
      · rename_i z hz
        cases hb : (decide (0 ≤ l) && decide (l ≤ c) && decide (c ≤ 1048576) && Nat.ble i.bytes 65536 && Nat.ble 1 i.size && Nat.beq z.cells.size i.size) with
        | false => rw [hb] at h; cases h
        | true =>
          rw [hb] at h
          simp only [cond_true, Option.some.injEq, Prod.mk.injEq] at h
          obtain ⟨rfl, rfl⟩ := h
          simp only [Bool.and_eq_true, decide_eq_true_eq] at hb
          obtain ⟨⟨⟨⟨⟨h1, h2⟩, h3⟩, h4⟩, h5⟩, h6⟩ := hb
          have h4 := Nat.le_of_ble_eq_true h4
          have hbytes : (i.bytes : Int) * c ≤ 281474976710656 := by
            have : (i.bytes : Int) * c ≤ 65536 * 1048576 := Int.mul_le_mul (by omega) h3 (by omega) (by omega)
            omega
          have hr := run_make (P := P) w t e i z hu hi hz kl kc l c h1 h2 hbytes (by omega)
          have hv := zeroRow_vrs (w := w) (G := G) (μ := μ) z (c.toNat * i.size)
          have hl := hv.length
          rw [Array.length_toList] at hl
          have hk := alloc_winv (on := none) hW (madeCells z.cells (c.toNat * i.size)) ⟨zeroRow z (c.toNat * i.size), e, false, false, none⟩ (fun j p hp => by
            obtain ⟨u, g1, g2⟩ := hv.get hp
            exact ⟨u, by simpa using g1, g2⟩) (fun _ => hl.symm) rfl (fun g hg => by cases hg)
          refine ⟨_, _, G, _, hr, alloc_ext hW _ _ _, hk, ?_⟩
          rw [VR]
          refine ⟨w.heap.size, _, upd_loc _ _ _ _, rfl, by omega, fun k hk => (by cases hk; rfl), ?_⟩
          refine ⟨madeCells z.cells (c.toNat * i.size), e, (0, 0), ?_, ?_⟩
          · show (w.heap.push _)[w.heap.size]? = _
            simp
          · simp [madeCells]
      · cases h
    · cases h
  · cases h

theorem bnd_run {x : Option PV} {d l : Nat} {y : Option Value} (h : bnd x d = some l) (hx : match x, y with | some p, some v => VR w G μ p v | none, none => True | _, _ => False) :
    (x = none ∧ y = none ∧ l = d) ∨ (∃ k i, y = some (.int k i) ∧ 0 ≤ i ∧ l = i.toNat ∧ x ≠ none) := by
  cases x with
  | none => cases y with
    | none => simp only [bnd, Option.some.injEq] at h; exact .inl ⟨rfl, rfl, h.symm⟩
    | some v => exact hx.elim
  | some p => cases y with
    | none => exact hx.elim
    | some v =>
      cases p with
      | lit u =>
        simp only [VR] at hx
        subst hx
        cases v with
        | int k i =>
          simp only [bnd] at h
          cases hd : decide (0 ≤ i) with
          | false => rw [hd] at h; cases h
          | true =>
            rw [hd] at h
            simp only [cond_true, Option.some.injEq] at h
            exact .inr ⟨k, i, rfl, of_decide_eq_true hd, h.symm, by simp⟩
        | _ => simp [bnd] at h
      | _ => simp [bnd] at h

theorem xLen_sound {tys : Array TypeId} {ty : TypeId} {p v : PV} {x : Value} (hp : VR w G μ p x) (h : xLen P tys p = some v) (w1 : World) : ∃ v', (Builtin.len_ tys ty #[x]).run P w1 = .ok v' w1 ∧ VR w G μ v v' := by
  unfold xLen at h
  split at h
  · rename_i t ts ht
    have ht' : tys[0]? = some t := by rw [← Array.getElem?_toList, ht]; rfl
    split at h
    · rename_i e cs n cap hu
      simp only [Option.some.injEq] at h
      subst h
      rw [VR] at hp
      obtain ⟨ao, c, rfl, _⟩ := hp
      exact ⟨goInt n, by simp [Builtin.len_, ht', run_underlying hu], by rw [VR]⟩
    · rename_i e r off n cap sz hu
      simp only [Option.some.injEq] at h
      subst h
      rw [VR] at hp
      obtain ⟨b, c, _, rfl, _⟩ := hp
      exact ⟨goInt n, by simp [Builtin.len_, ht', run_underlying hu], by rw [VR]⟩
    · rename_i _ n e hu
      simp only [Option.some.injEq] at h
      subst h
      exact ⟨goInt n, by simp [Builtin.len_, ht', run_underlying hu], by rw [VR]⟩
    · cases h
  · cases h
end
end Go.PM
