/- The plain machine: literals and make of typed data; operations whole. No program. -/
import Derived.Test.YtjgapmocogjkmaaGreatDoorPmW
set_option linter.unusedSimpArgs false
set_option linter.unusedVariables false
namespace Go.PM
open Go Go.RowKit

section
variable {P : Program} {n0 : Nat → Prop} {w : World} {G : Nat → Prop} {μ : Mp} {H : Heap} {F : Frm} {a : Act} {nt : Nat}

theorem freezeOne_winv (hW : WInv n0 G μ H w) (r : Nat) : ∃ G', Ext n0 w G μ w G' μ ∧ WInv n0 G' μ (freezeOne H r) w := by
  unfold freezeOne
  split
  · rename_i k hk
    cases hf : k.frozen with
    | true => exact ⟨G, Ext.refl _ _ _ _, hW⟩
    | false => exact ⟨_, freeze_winv hW (hget_some hk) hf⟩
  · exact ⟨G, Ext.refl _ _ _ _, hW⟩
theorem freezeList_winv : ∀ (rs : List Nat) (H : Heap) (G : Nat → Prop), WInv n0 G μ H w → ∃ G', Ext n0 w G μ w G' μ ∧ WInv n0 G' μ (freezeList H rs) w
  | [], H, G, hW => ⟨G, Ext.refl _ _ _ _, hW⟩
  | r :: rs, H, G, hW => by
    obtain ⟨G1, e1, h1⟩ := freezeOne_winv hW r
    obtain ⟨G2, e2, h2⟩ := freezeList_winv rs _ G1 h1
    exact ⟨G2, e1.trans e2, h2⟩

/-- Typed memory that nobody writes any more. -/
theorem own_frozen (hW : WInv n0 G μ H w) {r sz : Nat} {k : Blk} {g : Tg} {v : Value} (hv : VR w G μ (.own r sz) v) (hk : hget H r = some k) (hg : k.tag = some g) {G' : Nat → Prop} (hG : ∀ b, G b → G' b) (hB : ∀ b, μ.loc r = some b → G' b) : VR w G' nomap (tlOf g.t g.l none) v := by
  obtain ⟨ht1, ht2⟩ := hW.tags r k g (hget_some hk) hg
  have hm : Mono w G μ w G' μ := ⟨fun b hb => ⟨hG b hb, rfl⟩, fun _ _ h => h, fun _ _ h => h, fun _ _ h => h⟩
  rw [VR] at hv
  obtain ⟨n, h1, h2⟩ := hv
  rw [ht2] at h1
  cases h1
  refine tlOf_vr ?_
  rw [VR]
  rcases h2 with ⟨h2, ao, rfl⟩ | ⟨b, c, h3, rfl, h5, h6⟩
  · have hnil : g.l = [] := List.eq_nil_of_length_eq_zero h2
    exact ⟨ao, 0, by rw [hnil]; rfl, by omega, fun k hk => (by cases hk), .inl (by rw [hnil]; rfl)⟩
  · obtain ⟨c', g2, g3, _⟩ := hW.blk r k b (hget_some hk) h3
    rw [ht1] at g3
    refine ⟨_, c, rfl, h5, fun k hk => (by cases hk), .inr ⟨b, 0, rfl, hB b h3, ?_⟩⟩
    obtain ⟨vs, h7, h8⟩ := g3.values
    exact VCells.of_values (noRefs_vrs _ _ (encAll_noRefs _ _) (VRs.mono hm _ _ h7)) h8
theorem win_frozen (hW : WInv n0 G μ H w) {r lo n sz : Nat} {k : Blk} {g : Tg} {v : Value} (hv : VR w G μ (.win r lo n sz) v) (hk : hget H r = some k) (hg : k.tag = some g) (hsz : sz = g.t.size) {G' : Nat → Prop} (hG : ∀ b, G b → G' b) (hB : ∀ b, μ.loc r = some b → G' b) :
    VR w G' nomap (tlOf g.t ((g.l.drop lo).take n) none) v := by
  subst hsz
  obtain ⟨ht1, ht2⟩ := hW.tags r k g (hget_some hk) hg
  have hm : Mono w G μ w G' μ := ⟨fun b hb => ⟨hG b hb, rfl⟩, fun _ _ h => h, fun _ _ h => h, fun _ _ h => h⟩
  rw [VR] at hv
  obtain ⟨b, c, m, h3, rfl, h5, h6, hm, hle, _⟩ := hv
  rw [ht2] at hm
  cases hm
  refine tlOf_vr ?_
  rw [VR]
  have hlen : ((g.l.drop lo).take n).length = n := by rw [List.length_take, List.length_drop]; omega
  rw [hlen]
  obtain ⟨c', g2, g3, _⟩ := hW.blk r k b (hget_some hk) h3
  rw [ht1] at g3
  refine ⟨_, c, rfl, h5, fun k hk => (by cases hk), .inr ⟨b, lo * g.t.size, rfl, hB b h3, ?_⟩⟩
  have g4 := g3.sub (lo * g.t.size) (n * g.t.size)
  rw [Nat.zero_add, encAll_drop, encAll_take] at g4
  obtain ⟨vs, h7, h8⟩ := g4.values
  exact VCells.of_values (noRefs_vrs _ _ (encAll_noRefs _ _) (VRs.mono hm _ _ h7)) h8
theorem inlT_vr (hW : WInv n0 G μ H w) {p q : PV} {v : Value} (h : tParts.inlT H p = some q) (hv : VR w G μ p v) : VR w G nomap q v := by
  unfold tParts.inlT at h
  split at h
  · rename_i r sz
    split at h
    · rename_i k hk
      split at h
      · rename_i g hg
        cases hf : k.frozen with
        | false => rw [hf] at h; cases h
        | true =>
          rw [hf] at h
          simp only [cond_true, Option.some.injEq] at h
          subst h
          exact own_frozen hW hv hk hg (fun b h => h) (fun b hb => by
            obtain ⟨_, _, _, _, h5, _⟩ := hW.blk r k b (hget_some hk) hb
            exact h5 hf)
      · cases h
    · cases h
  · cases hn : noRef p with
    | false => rw [hn] at h; cases h
    | true =>
      rw [hn] at h
      simp only [cond_true, Option.some.injEq] at h
      subst h
      exact noRef_vr p v hn hv

/-- Parts of a literal, and what they are in the machine. -/
def PartsR (w : World) (G : Nat → Prop) (μ : Mp) : List (Nat × PV) → List (Nat × Value) → Prop
  | [], vs => vs = []
  | (i, p) :: ps, vs => ∃ x xs, vs = (i, x) :: xs ∧ VR w G μ p x ∧ PartsR w G μ ps xs
theorem tParts_r (hW : WInv n0 G μ H w) (ρ : Operand → Value) : ∀ (ops : List (Nat × Operand)) (qs : List (Nat × PV)), (∀ x, VR w G μ (ev F x) (ρ x)) → tParts H (ops.map fun p => (p.1, ev F p.2)) = some qs → PartsR w G nomap qs (ops.map fun p => (p.1, ρ p.2))
  | [], qs, _, h => by
    simp only [List.map_nil, tParts, Option.some.injEq] at h
    subst h
    simp [PartsR]
  | (i, x) :: ops, qs, hF, h => by
    simp only [List.map_cons, tParts] at h
    split at h
    · rename_i q hq
      split at h
      · rename_i qs' hqs
        simp only [Option.some.injEq] at h
        subst h
        exact ⟨_, _, rfl, inlT_vr hW hq (hF x), tParts_r hW ρ ops qs' hF hqs⟩
      · cases h
    · cases h
theorem tParts_nil {H1 : Heap} : ∀ (ps : List (Nat × PV)), owns ps = [] → tParts H1 ps = tParts [] ps
  | [], _ => rfl
  | (i, p) :: ps, h => by
    have hp : owns ps = [] ∧ tParts.inlT H1 p = tParts.inlT [] p := by
      cases p <;> simp only [owns] at h <;> first | exact ⟨h, rfl⟩ | cases h
    simp only [tParts, hp.2, tParts_nil ps hp.1]
theorem fill_r (place : Nat → Option (Nat × Nat)) : ∀ (ps : List (Nat × PV)) (vs : List (Nat × Value)) (cs out : List PV) (c : Array Value), PartsR w G μ ps vs → VRs w G μ cs c.toList → xFill place cs ps = some out → ∃ c', Instr.fill place c vs = some c' ∧ VRs w G μ out c'.toList
  | [], vs, cs, out, c, hp, hc, h => by
    simp only [PartsR] at hp
    subst hp
    simp only [xFill, Option.some.injEq] at h
    exact ⟨c, rfl, h ▸ hc⟩
  | (i, p) :: ps, vs, cs, out, c, hp, hc, h => by
    obtain ⟨x, xs, rfl, hx, hps⟩ := hp
    simp only [xFill] at h
    split at h
    · rename_i off size new hpl hcp
      cases hb : (Nat.beq new.length size && Nat.ble (off + new.length) cs.length) with
      | false => rw [hb] at h; cases h
      | true =>
        rw [hb] at h
        simp only [cond_true] at h
        simp only [Bool.and_eq_true] at hb
        have h1 := Nat.eq_of_beq_eq_true hb.1
        have h2 := Nat.le_of_ble_eq_true hb.2
        have hv := cellsP_vrs hcp hx
        have hl : new.length = x.cells.size := by simpa using hv.length
        have hcl : cs.length = c.size := by simpa using hc.length
        obtain ⟨c', h3, h4⟩ := fill_r place ps xs _ out _ hps (splice_all (off := off) hc hv) h
        refine ⟨c', ?_, h4⟩
        simp only [Instr.fill, hpl]
        have hno' : ¬ (x.cells.size ≠ size ∨ off + x.cells.size > c.size) := by omega
        have hf := foldl_splice (off := off) x.cells.toList 0 c (by simp only [Array.length_toList]; omega)
        rw [Nat.add_zero] at hf
        rw [← Array.foldl_toList]
        simp only [Array.toList_zipIdx]
        rw [hf]
        simp [hno', h3]
    · cases h

theorem literal_ok (hW : WInv n0 G μ H w) {t e : TypeId} {ty : Ty} (hel : elemTy P t = some (e, ty)) {z : Value} (hz : zeroT P e = some z) {len : Nat} (h1 : len * ty.size ≤ 16777216) {qs : List (Nat × PV)} {vs : Array (Nat × Value)} (hp : PartsR w G nomap qs vs.toList) {cs : List PV}
    (hf : xFill (fun i => some (i * ty.size, ty.size)) (zeroRow z (len * ty.size)) qs = some cs) {l : List ty.den} (hd : decMany (dec ty) ty.size len cs = some l) : OpOK P n0 w G μ (Instr.buildSlice t len vs) (tlOf ty l (some len)) H := by
  obtain ⟨hu, hs⟩ := elemTy_some hel
  obtain ⟨c', h3, h4⟩ := fill_r (w := w) (G := G) (μ := nomap) _ qs vs.toList _ cs _ hp (zeroRow_vrs z (len * ty.size)) hf
  have hzero : ∃ i, P.info? e = some i ∧ i.zero = some z := by
    unfold zeroT at hz
    split at hz
    · rename_i i hi; exact ⟨i, hi, hz⟩
    · cases hz
  obtain ⟨i, hi, hz'⟩ := hzero
  obtain ⟨h5, h6⟩ := decMany_vrs (g := enc ty) (fun cs x vs h hv => dec_vr ty nomap cs x vs h hv) hd h4
  obtain ⟨e1, e2⟩ := good_winv hW (.cells c' e)
  refine ⟨.slice (some ⟨w.heap.size, 0, none⟩) len len, w.alloc (.cells c' e), _, _, ?_, e1, e2, ?_⟩
  · have hn : ¬ (len * ty.size > 2 ^ 24) := by omega
    have hrow : (Array.range (len * ty.size)).map (fun x => z.cells[x % z.cells.size]!) = madeCells z.cells (len * ty.size) := rfl
    have h3' : Instr.fill (fun i => some (i * ty.size, ty.size)) (Array.map (fun x => z.cells[x % z.cells.size]!) (Array.range (len * ty.size))) vs.toList = some c' := by rw [hrow]; exact h3
    by_cases h0 : len * ty.size = 0
    · have h3'' : Instr.fill (fun i => some (i * ty.size, ty.size)) (Array.map (fun x => (#[] : Array Value)[x % 0]!) (Array.range (len * ty.size))) vs.toList = some c' := by
        rw [← h3']; congr 1; rw [h0]; simp [Array.range_zero']
      rw [h0] at h3''
      simp [Instr.buildSlice, run_underlying hu, run_sizeOf hs, h0, newRow]
      simp at h3''
      rw [h3'']
      simp
    · simp only [Instr.buildSlice, Sem.run_bind, run_underlying hu, Result.andThen_ok, run_sizeOf hs, if_neg hn, if_neg h0]
      simp only [Sem.run_pure, Result.andThen_ok, Sem.run_bind, zeroValue, run_info hi, hz', h3']
      simp [newRow]
  · refine tlOf_vr ?_
    rw [VR]
    refine ⟨_, _, by rw [h6], by omega, fun k hk => (by cases hk; rfl), ?_⟩
    refine .inr ⟨w.heap.size, 0, rfl, .inr rfl, ?_⟩
    refine VCells.mk fun j p hp => ?_
    obtain ⟨u, g1, g2⟩ := h5.get hp
    refine ⟨u, ?_, VR.mono e1.toMono.nomap p u g2⟩
    rw [Nat.zero_add, World.cell?_alloc_new]
    simpa using g1
theorem OpOK.trans {s : Sem Value} {v : PV} {H' : Heap} {G1 : Nat → Prop} (e : Ext n0 w G μ w G1 μ) (h : OpOK P n0 w G1 μ s v H') : OpOK P n0 w G μ s v H' := by
  obtain ⟨v', w', G', μ', h1, h2, h3⟩ := h
  exact ⟨v', w', G', μ', h1, e.trans h2, h3⟩
theorem tBuildSlice_sound (hW : WInv n0 G μ H w) (hF : FInv w G μ nt F a) {t : TypeId} {len : Nat} {parts : Array (Nat × Operand)} {v : PV} {cs : List Bool} {H' : Heap} {c : Nat} (h : tBuildSlice P F H t len parts.toList = some (cs, v, H', c)) :
    OpOK P n0 w G μ (Instr.buildSlice t len (parts.map fun (i, x) => (i, a.eval x))) v H' := by
  unfold tBuildSlice at h
  split at h
  · rename_i e ty hel
    split at h
    · rename_i z hz
      cases hb : (Nat.ble (len * ty.size) 16777216 && Nat.ble 1 z.cells.size) with
      | false => rw [hb] at h; cases h
      | true =>
        rw [hb] at h
        simp only [cond_true] at h
        simp only [Bool.and_eq_true] at hb
        have hb1 := Nat.le_of_ble_eq_true hb.1
        split at h
        · rename_i how
          split at h
          · rename_i ps hps
            split at h
            · rename_i cs' hf
              split at h
              · rename_i l hd
                simp only [Option.some.injEq, Prod.mk.injEq] at h
                obtain ⟨rfl, rfl, rfl, rfl⟩ := h
                rw [← tParts_nil (H1 := H) _ how] at hps
                exact literal_ok hW hel hz hb1 (by rw [mapPairs]; exact tParts_r hW a.eval _ _ (ev_vr hF) hps) hf hd
              · cases h
            · cases h
          · cases h
        · rename_i r rs how
          split at h
          · rename_i ps hps
            split at h
            · rename_i cs' hf
              split at h
              · rename_i l hd
                simp only [Option.some.injEq, Prod.mk.injEq] at h
                obtain ⟨rfl, rfl, rfl, rfl⟩ := h
                obtain ⟨G1, e1, hW1⟩ := freezeList_winv (r :: rs) H G hW
                exact (literal_ok hW1 hel hz hb1 (by rw [mapPairs]; exact tParts_r hW1 a.eval _ _ (fun x => VR.mono e1.toMono _ _ (ev_vr hF x)) hps) hf hd).trans e1
              · cases h
            · cases h
          · cases h
    · cases h
  · cases h

theorem madeCells_list (z : Array Value) : ∀ n : Nat, (madeCells z (n * z.size)).toList = (List.replicate n z.toList).flatten
  | 0 => by simp [madeCells, Array.range_zero']
  | n + 1 => by
    have ih := madeCells_list z n
    rw [List.replicate_succ', List.flatten_append, ← ih]
    apply List.ext_getElem
    · simp [madeCells, Nat.add_mul]
    · intro i h1 h2
      simp only [madeCells, Array.toList_map, Array.toList_range, List.getElem_map, List.getElem_range]
      simp only [madeCells, Array.toList_map, Array.toList_range, List.length_map, List.length_range, Nat.add_mul, Nat.one_mul] at h1
      by_cases hi : i < n * z.size
      · rw [List.getElem_append_left (by simpa using hi)]
        simp
      · rw [List.getElem_append_right (by simpa using hi)]
        have hlt : i - n * z.size < z.size := by omega
        have hmod : i % z.size = i - n * z.size := by
          have : i = (i - n * z.size) + z.size * n := by rw [Nat.mul_comm z.size n]; omega
          rw [this, Nat.add_mul_mod_self_left, Nat.mod_eq_of_lt hlt]
          rw [Nat.mul_comm z.size n]; omega
        simp [hmod, hlt]
theorem replicate_vrs {ty : Ty} {d : ty.den} {zs : List Value} (h : VRs w G nomap (enc ty d) zs) : ∀ n : Nat, VRs w G nomap (encAll ty (List.replicate n d)) (List.replicate n zs).flatten
  | 0 => by simp [encAll, VRs]
  | n + 1 => by
    rw [List.replicate_succ, List.replicate_succ, encAll_cons, List.flatten_cons]
    exact h.append (replicate_vrs h n)
theorem tMakeSlice_sound (hW : WInv n0 G μ H w) {t : TypeId} {p q v : PV} {x y : Value} {cs : List Bool} {H' : Heap} {c : Nat} (hp : VR w G μ p x) (hq : VR w G μ q y) (h : tMakeSlice P H t p q = some (cs, v, H', c)) (hcs : allB cs = true) :
    c = 2 ∧ OpOK P n0 w G μ (Instr.makeSlice t x y) v H' := by
  unfold tMakeSlice at h
  split at h
  · rename_i e ty kl l kc cc hel
    rw [VR] at hp hq
    subst hp; subst hq
    obtain ⟨hu, hs⟩ := elemTy_some hel
    split at h
    · rename_i i hi
      have hsz := sizeT_info hs hi
      split at h
      · rename_i z hz
        split at h
        · rename_i d hd
          cases hb : (Nat.ble i.bytes 65536 && Nat.beq z.cells.size i.size) with
          | false => rw [hb] at h; cases h
          | true =>
            rw [hb] at h
            simp only [cond_true, Option.some.injEq, Prod.mk.injEq] at h
            obtain ⟨rfl, rfl, rfl, rfl⟩ := h
            refine ⟨rfl, ?_⟩
            simp only [Bool.and_eq_true] at hb
            have hb1 := Nat.le_of_ble_eq_true hb.1
            have hb2 := Nat.eq_of_beq_eq_true hb.2
            obtain ⟨c1, hcs⟩ := allB_cons hcs
            obtain ⟨c2, hcs⟩ := allB_cons hcs
            obtain ⟨c3, _⟩ := allB_cons hcs
            rw [ltI_eq, Bool.not_eq_true', decide_eq_false_iff_not] at c1 c2 c3
            have hbytes : (i.bytes : Int) * cc ≤ 281474976710656 := by
              have : (i.bytes : Int) * cc ≤ 65536 * 1048576 := Int.mul_le_mul (by omega) (by omega) (by omega) (by omega)
              omega
            have hr := run_make (P := P) w t e i z hu hi hz kl kc l cc (by omega) (by omega) hbytes (by omega)
            have hdz : VRs w G nomap (enc ty d) z.cells.toList := dec_vr ty nomap _ d _ hd (lits_vr _)
            have hrep := replicate_vrs hdz l.toNat
            have hmade : (madeCells z.cells (cc.toNat * i.size)).toList = (List.replicate cc.toNat z.cells.toList).flatten := by rw [← hb2]; exact madeCells_list z.cells cc.toNat
            have hsplit : (List.replicate cc.toNat z.cells.toList).flatten = (List.replicate l.toNat z.cells.toList).flatten ++ (List.replicate (cc.toNat - l.toNat) z.cells.toList).flatten := by
              rw [← List.flatten_append, List.replicate_append_replicate]
              congr 2; omega
            have hk := alloc_winv (on := some l.toNat) hW (madeCells z.cells (cc.toNat * i.size)) ⟨encAll ty (List.replicate l.toNat d), e, true, false, some ⟨ty, List.replicate l.toNat d⟩⟩ (fun j p hp => by
              obtain ⟨u, g1, g2⟩ := hrep.get hp
              refine ⟨u, ?_, g2.of_nomap⟩
              rw [← Array.getElem?_toList, hmade, hsplit, List.getElem?_append_left (List.getElem?_eq_some_iff.1 g1).1]
              exact g1) (fun h => by cases h) rfl (fun g hg => by cases hg; exact ⟨rfl, by simp⟩)
            refine ⟨_, _, G, _, hr, alloc_ext hW _ _ _, hk, ?_⟩
            rw [VR]
            refine ⟨l.toNat, upd_len _ _ _ _, .inr ⟨w.heap.size, cc.toNat, upd_loc _ _ _ _, rfl, by omega, madeCells z.cells (cc.toNat * i.size), e, (0, 0), ?_, ?_⟩⟩
            · show (w.heap.push _)[w.heap.size]? = _
              simp
            · simp [madeCells, hsz]
        · cases h
      · cases h
    · cases h
  · cases h
theorem run_zeroT' {e : TypeId} {z : Value} (hz : zeroT P e = some z) (w : World) : (zeroValue e).run P w = .ok z w := by
  unfold zeroT at hz
  split at hz
  · rename_i i hi
    simp [zeroValue, run_info hi, hz]
  · cases hz
theorem zeroCells_list (z : Array Value) (n : Nat) : (Builtin.zeroCells z n).toList = (List.replicate n z.toList).flatten := by
  exact madeCells_list z n
theorem tClear_sound (hW : WInv n0 G μ H w) {tys : Array TypeId} {ty : TypeId} {p v : PV} {x : Value} {cs : List Bool} {H' : Heap} {c : Nat} (hp : VR w G μ p x) (h : tClear P H tys p = some (cs, v, H', c)) (hcs : allB cs = true) : OpOK P n0 w G μ (Builtin.clear_ tys ty #[x]) v H' := by
  unfold tClear at h
  split at h
  · rename_i t ts ht
    have ht' : tys[0]? = some t := by rw [← Array.getElem?_toList, ht]; rfl
    split at h
    · rename_i e ety hel
      obtain ⟨hu, hse⟩ := elemTy_some hel
      split at h
      · rename_i z hz
        split at h
        · rename_i r lo n sz
          split at h
          · rename_i k hk
            split at h
            · rename_i g hg
              split at h
              · rename_i d hd
                obtain ⟨hb, h⟩ := condSomeT h
                simp only [Option.some.injEq, Prod.mk.injEq] at h
                obtain ⟨rfl, rfl, rfl, rfl⟩ := h
                simp only [Bool.and_eq_true, Bool.not_eq_true'] at hb
                obtain ⟨⟨⟨b1, b2⟩, hf⟩, hok⟩ := hb
                have b1 := Nat.eq_of_beq_eq_true b1
                have b2 := Nat.eq_of_beq_eq_true b2
                subst b1
                have hle := Nat.le_of_ble_eq_true (allB_cons hcs).1
                obtain ⟨ht1, ht2⟩ := hW.tags r k g (hget_some hk) hg
                rw [VR] at hp
                obtain ⟨b, cc, _, hloc, rfl, h5, h6, _⟩ := hp
                have htu : VR w G μ (.tuple []) (.tuple #[]) := by rw [VR]; exact ⟨#[], rfl, by rw [VRs]⟩
                have q2 : (#[Value.slice (some ⟨b, lo * g.t.size, none⟩) n cc] : Array Value)[0]? = some (Value.slice (some ⟨b, lo * g.t.size, none⟩) n cc) := rfl
                obtain ⟨C, g2, g3, g4, g5, g6⟩ := hW.blk r k b (hget_some hk) hloc
                rw [ht1] at g3
                obtain ⟨i1, i2⟩ := vcells_take g2 g3
                have hlen := encAll_length g.t g.l
                have hdz : VRs w G nomap (enc g.t d) z.cells.toList := dec_vr g.t nomap _ d _ hd (lits_vr _)
                have hrep := replicate_vrs hdz n
                have hone : ∀ v ∈ (List.replicate n z.cells.toList).flatten, v.oneCell' = true := by
                  intro v hv
                  obtain ⟨l, h1, h2⟩ := List.mem_flatten.1 hv
                  rw [List.mem_replicate] at h1
                  rw [h1.2] at h2
                  exact okCells_one hok (lits_vr (w := w) (G := G) (μ := μ) _) v h2
                have hrl : ((List.replicate n z.cells.toList).flatten).length = n * g.t.size := by
                  rw [← hrep.length, encAll_length, List.length_replicate]
                have hmul : (lo + n) * g.t.size ≤ g.l.length * g.t.size := Nat.mul_le_mul_right _ hle
                rw [Nat.add_mul] at hmul
                obtain ⟨w', h1, h2⟩ := run_storeCells (P := P) (off := lo * g.t.size) (List.replicate n z.cells.toList).flatten 0 w C hone g2 (by omega)
                rw [Nat.add_zero] at h2
                have hsz : (spliceV C (lo * g.t.size) (List.replicate n z.cells.toList).flatten).size = C.size := spliceV_size (by omega)
                have e1 := turned_ext hW (hget_some hk) hf hloc g2 h2 hsz
                have hclr : (clr g.l lo n d).length = g.l.length := by
                  simp only [clr, List.length_append, List.length_take, List.length_replicate, List.length_drop]; omega
                have e2 : WInv n0 G μ (H.set r (some { k with cells := encAll g.t (clr g.l lo n d), tag := some ⟨g.t, clr g.l lo n d⟩ })) w' := by
                  refine turned_winv (k' := { k with cells := encAll g.t (clr g.l lo n d), tag := some ⟨g.t, clr g.l lo n d⟩ }) hW (hget_some hk) hf hloc g2 h2 hsz hf ?_ ?_ ?_
                  · refine vcells_of_take (n := g.l.length * g.t.size) h2.at_ (VRs.mono e1.toMono _ _ ?_)
                    have hspl : (spliceV C (lo * g.t.size) (List.replicate n z.cells.toList).flatten).toList.take (g.l.length * g.t.size) = (C.toList.take (encAll g.t g.l).length).take (lo * g.t.size) ++ ((List.replicate n z.cells.toList).flatten ++ (C.toList.take (encAll g.t g.l).length).drop (lo * g.t.size + n * g.t.size)) := by
                      simp only [spliceV, hlen]
                      rw [List.take_append, List.take_append, List.take_take, List.take_of_length_le (l := (List.replicate n z.cells.toList).flatten) (by simp only [List.length_take, Array.length_toList]; omega), List.drop_take, List.take_take, Nat.min_comm (lo * g.t.size), List.append_assoc, hrl]
                      congr 3
                      simp only [List.length_append, List.length_take, Array.length_toList, hrl]; omega
                    rw [hspl]
                    unfold clr
                    rw [encAll_append, encAll_append, ← encAll_take, ← encAll_drop]
                    refine (i1.take _).append ((VRs.of_nomap hrep).append ?_)
                    have := i1.drop ((lo + n) * g.t.size)
                    rw [Nat.add_mul] at this ⊢
                    exact this
                  · intro hgr
                    rw [hsz, g4 hgr, ht1, encAll_length, encAll_length, hclr]
                  · intro g' hg'
                    cases hg'
                    exact ⟨rfl, by rw [hclr]; exact ht2⟩
                cases n with
                | zero =>
                  have hw : w' = w := by
                    have : (List.replicate 0 z.cells.toList).flatten = [] := rfl
                    rw [this] at h1
                    simp only [storeCells, Sem.run_pure, Result.ok.injEq, true_and] at h1
                    exact h1.symm
                  subst hw
                  refine .put (v' := .tuple #[]) (w' := w') ?_ e1 e2 htu
                  unfold Builtin.clear_
                  simp only [ht', q2, Sem.run_bind, run_underlying hu, Result.andThen_ok, Sem.run_pure]
                | succ n =>
                  refine .put (v' := .tuple #[]) (w' := w') ?_ e1 e2 (VR.mono e1.toMono _ _ htu)
                  unfold Builtin.clear_
                  simp only [ht', q2, Sem.run_bind, run_underlying hu, Result.andThen_ok, run_zeroT' hz, zeroCells_list, h1, Sem.run_pure]
              · cases h
            · cases h
          · cases h
        · cases h
      · cases h
    · cases h
  · cases h
end
end Go.PM
