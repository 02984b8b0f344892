/- The plain machine, 4: stores, new variables, addresses, parts. No program. -/
import Derived.Test.YtjgapmocogjkmaaGreatDoorPmC
set_option linter.unusedSimpArgs false
set_option linter.unusedVariables false
namespace Go.PM
open Go Go.RowKit

section
variable {P : Program} {n0 : Nat → Prop} {w : World} {G : Nat → Prop} {μ : Mp} {H : Heap}

theorem tl_slice {t : Ty} {l : List t.den} {cap : Option Nat} {e : PV} {v : Value} (hv : VR w G μ (.tl t l cap e) v) : ∃ ao c, v = .slice ao l.length c := by
  rw [VR] at hv
  obtain ⟨h1, rfl⟩ := hv
  rw [VR] at h1
  obtain ⟨ao, c, rfl, _⟩ := h1
  exact ⟨ao, c, rfl⟩
theorem tp_pointer {t : Ty} {l : List t.den} {i off : Nat} {e : PV} {v : Value} (hv : VR w G μ (.tp t l i off e) v) : ∃ p, v = .pointer (some p) := by
  rw [VR] at hv
  obtain ⟨h1, rfl, _⟩ := hv
  rw [VR] at h1
  obtain ⟨b, o, rfl, _⟩ := h1
  exact ⟨_, rfl⟩
theorem own_slice {r sz : Nat} {v : Value} (hv : VR w G μ (.own r sz) v) : ∃ ao n c, v = .slice ao n c := by
  rw [VR] at hv
  obtain ⟨n, _, ⟨_, ao, rfl⟩ | ⟨b, c, _, rfl, _⟩⟩ := hv
  · exact ⟨_, _, _, rfl⟩
  · exact ⟨_, _, _, rfl⟩
theorem cellsP_vrs {p : PV} {cs : List PV} {v : Value} (h : cellsP p = some cs) (hv : VR w G μ p v) : VRs w G μ cs v.cells.toList := by
  have one : ∀ {v : Value}, VR w G μ p v → v.cells = #[v] → VRs w G μ [p] v.cells.toList := fun hv e => by
    rw [e, VRs]; exact ⟨_, [], rfl, hv, by rw [VRs]⟩
  cases p with
  | lit u =>
    have hv' := hv
    rw [VR] at hv'
    subst hv'
    cases v <;> simp only [cellsP, Option.some.injEq] at h <;> subst h <;> first | exact one hv rfl | exact lits_vr _
  | agg cs' =>
    simp only [cellsP, Option.some.injEq] at h
    subst h
    rw [VR] at hv
    obtain ⟨vs, rfl, hv⟩ := hv
    exact hv
  | tuple vs => cases h
  | junk => cases h
  | vals cs' n cap =>
    simp only [cellsP, Option.some.injEq] at h
    subst h
    have hv' := hv
    rw [VR] at hv'
    obtain ⟨_, _, rfl, _⟩ := hv'
    exact one hv rfl
  | iptr cs' =>
    simp only [cellsP, Option.some.injEq] at h
    subst h
    have hv' := hv
    rw [VR] at hv'
    obtain ⟨_, _, rfl, _⟩ := hv'
    exact one hv rfl
  | hptr r off =>
    simp only [cellsP, Option.some.injEq] at h
    subst h
    have hv' := hv
    rw [VR] at hv'
    obtain ⟨_, _, rfl⟩ := hv'
    exact one hv rfl
  | hs r off len cap sz =>
    simp only [cellsP, Option.some.injEq] at h
    subst h
    have hv' := hv
    rw [VR] at hv'
    obtain ⟨_, _, _, rfl, _⟩ := hv'
    exact one hv rfl
  | clo fn f c =>
    simp only [cellsP, Option.some.injEq] at h
    subst h
    have hv' := hv
    rw [VR] at hv'
    obtain ⟨_, _, rfl, _⟩ := hv'
    exact one hv rfl
  | tl t l cap e =>
    simp only [cellsP, Option.some.injEq] at h
    subst h
    obtain ⟨_, _, rfl⟩ := tl_slice hv
    exact one hv rfl
  | tp t l i off e =>
    simp only [cellsP, Option.some.injEq] at h
    subst h
    obtain ⟨_, rfl⟩ := tp_pointer hv
    exact one hv rfl
  | own r sz =>
    simp only [cellsP, Option.some.injEq] at h
    subst h
    obtain ⟨_, _, _, rfl⟩ := own_slice hv
    exact one hv rfl
  | op r i off sz =>
    simp only [cellsP, Option.some.injEq] at h
    subst h
    have hv' := hv
    rw [VR] at hv'
    obtain ⟨_, _, rfl⟩ := hv'
    exact one hv rfl
  | win r lo n sz =>
    simp only [cellsP, Option.some.injEq] at h
    subst h
    have hv' := hv
    rw [VR] at hv'
    obtain ⟨_, _, _, _, rfl, _⟩ := hv'
    exact one hv rfl
theorem okCell_one {p : PV} {v : Value} (h : okCell p = true) (hv : VR w G μ p v) : v.oneCell' = true := by
  cases p <;> simp only [okCell] at h <;> try (cases h; done)
  all_goals (rw [VR] at hv)
  · rw [hv]; exact h
  · obtain ⟨_, _, rfl, _⟩ := hv; rfl
  · obtain ⟨_, _, rfl, _⟩ := hv; rfl
  · obtain ⟨_, _, rfl⟩ := hv; rfl
  · obtain ⟨_, _, _, rfl, _⟩ := hv; rfl
  · obtain ⟨_, _, rfl, _⟩ := hv; rfl
  · obtain ⟨h1, rfl⟩ := hv
    rw [VR] at h1
    obtain ⟨_, _, rfl, _⟩ := h1; rfl
  · obtain ⟨h1, rfl, _⟩ := hv
    rw [VR] at h1
    obtain ⟨_, _, rfl, _⟩ := h1; rfl
  · obtain ⟨_, _, ⟨_, _, rfl⟩ | ⟨_, _, _, rfl, _⟩⟩ := hv <;> rfl
  · obtain ⟨_, _, rfl⟩ := hv; rfl
  · obtain ⟨_, _, _, _, rfl, _⟩ := hv; rfl
theorem okCells_one : ∀ {ps : List PV} {vs : List Value}, ps.all okCell = true → VRs w G μ ps vs → ∀ v ∈ vs, v.oneCell' = true
  | [], vs, _, h, v, hv => by rw [VRs] at h; subst h; cases hv
  | p :: ps, vs, ho, h, v, hv => by
    rw [VRs] at h
    obtain ⟨x, xs, rfl, h1, h2⟩ := h
    simp only [List.all_cons, Bool.and_eq_true] at ho
    rcases List.mem_cons.1 hv with rfl | hv
    · exact okCell_one ho.1 h1
    · exact okCells_one ho.2 h2 v hv

def spliceV (c : Array Value) (off : Nat) (vs : List Value) : Array Value := (c.toList.take off ++ vs ++ c.toList.drop (off + vs.length)).toArray
theorem spliceV_size {c : Array Value} {off : Nat} {vs : List Value} (h : off + vs.length ≤ c.size) : (spliceV c off vs).size = c.size := by
  simp [spliceV]; omega
theorem spliceV_cons {c : Array Value} {off : Nat} {v : Value} {vs : List Value} (h : off < c.size) : spliceV (c.setIfInBounds off v) (off + 1) vs = spliceV c off (v :: vs) := by
  have hl : off < c.toList.length := by simpa using h
  simp only [spliceV, Array.toList_setIfInBounds, List.length_cons]
  congr 1
  rw [List.drop_set_of_lt (by omega), List.take_set, List.take_succ_eq_append_getElem hl, List.set_append_right _ _ (by simp; omega)]
  simp
  rw [Nat.min_eq_left (by omega)]
  simp [Nat.add_assoc, Nat.add_comm 1]

theorem Turned.trans {w w1 w2 : World} {b : Nat} {c1 c2 : Array Value} {t : TypeId} (h : Turned w w1 b c1 t) (k : Turned w1 w2 b c2 t) : Turned w w2 b c2 t :=
  ⟨k.at_, fun x hx => (k.other x hx).trans (h.other x hx), k.os.trans h.os, k.tape.trans h.tape, k.output.trans h.output, k.size.trans h.size, k.drawn.trans h.drawn⟩
theorem setCell_turned {b off : Nat} {c : Array Value} {t : TypeId} (h : w.heap[b]? = some (.cells c t (0, 0))) (v : Value) : Turned w (w.setCell ⟨b, off, none⟩ v) b (c.setIfInBounds off v) t :=
  ⟨by simp [World.setCell, Array.getElem?_modify, h], fun x hx => Below.heap_setCell _ _ _ _ hx, rfl, rfl, rfl, by simp, rfl⟩
theorem run_storeCells {b off : Nat} {t : TypeId} : ∀ (vs : List Value) (i : Nat) (w : World) (c : Array Value), (∀ v ∈ vs, v.oneCell' = true) → w.heap[b]? = some (.cells c t (0, 0)) → off + i + vs.length ≤ c.size →
    ∃ w', (storeCells ⟨b, off, none⟩ vs i).run P w = .ok () w' ∧ Turned w w' b (spliceV c (off + i) vs) t
  | [], i, w, c, _, hc, _ => ⟨w, rfl, by simpa [spliceV] using hc, fun _ _ => rfl, rfl, rfl, rfl, rfl, rfl⟩
  | v :: vs, i, w, c, h1, hc, hl => by
    simp only [List.length_cons] at hl
    have ht := setCell_turned (off := off + i) hc v
    obtain ⟨w', h2, h3⟩ := run_storeCells (b := b) (off := off) vs (i + 1) _ _ (fun u hu => h1 u (List.mem_cons_of_mem _ hu)) ht.at_ (by simp only [Array.size_setIfInBounds]; omega)
    refine ⟨w', ?_, ?_⟩
    · have hcell : w.cell? ⟨b, off + i, none⟩ = some c[off + i] := by
        simp only [World.cell?, hc]
        simp
      have hfr : w.frozen? ⟨b, off + i, none⟩ = false := by simp [World.frozen?, hc]
      simp only [storeCells, Sem.run_bind, run_store _ _ _ _ _ (h1 v List.mem_cons_self), Addr.add_lit, hcell, hfr, Bool.false_eq_true, if_false, Result.andThen_ok, h2]
    · have := ht.trans h3
      rwa [← Nat.add_assoc, spliceV_cons (c := c) (by omega)] at this

/-- The cells of a block as a list. -/
theorem vcells_take {b : Nat} {c : Array Value} {t : TypeId} {fr : Nat × Nat} {cs : List PV} (hb : w.heap[b]? = some (.cells c t fr)) (h : VCells w G μ b 0 cs) : VRs w G μ cs (c.toList.take cs.length) ∧ cs.length ≤ c.size := by
  obtain ⟨vs, h1, h2⟩ := h.values
  have hl := h1.length
  have hcell : ∀ i, w.cell? ⟨b, i, none⟩ = c[i]? := fun i => by simp [World.cell?, hb]
  have hlen : cs.length ≤ c.size := by
    rcases Nat.eq_zero_or_pos cs.length with h0 | h0
    · omega
    · have := h2 (cs.length - 1) (by omega)
      rw [Nat.zero_add, hcell] at this
      have := (Array.getElem?_eq_some_iff.1 this).1
      omega
  refine ⟨?_, hlen⟩
  have : vs = c.toList.take cs.length := by
    apply List.ext_getElem
    · simp; omega
    · intro i h3 h4
      have := h2 i h3
      rw [Nat.zero_add, hcell, Array.getElem?_eq_some_iff] at this
      obtain ⟨_, h5⟩ := this
      simp [← h5]
  rw [← this]; exact h1
theorem vcells_of_take {b : Nat} {c : Array Value} {t : TypeId} {fr : Nat × Nat} {cs : List PV} {n : Nat} (hb : w.heap[b]? = some (.cells c t fr)) (h : VRs w G μ cs (c.toList.take n)) : VCells w G μ b 0 cs :=
  VCells.mk fun i p hp => by
    obtain ⟨v, h1, h2⟩ := h.get hp
    refine ⟨v, ?_, h2⟩
    rw [List.getElem?_take] at h1
    split at h1
    · simp only [World.cell?, hb, Nat.zero_add]
      simpa using h1
    · cases h1
theorem splice_length {cs new : List PV} {off : Nat} (h : off + new.length ≤ cs.length) : (splice cs off new).length = cs.length := by
  simp [splice]; omega
theorem splice_vrs {cs new : List PV} {c : Array Value} {vs : List Value} {off : Nat} (h : VRs w G μ cs (c.toList.take cs.length)) (hn : VRs w G μ new vs) (hl : off + new.length ≤ cs.length) (hc : cs.length ≤ c.size) :
    VRs w G μ (splice cs off new) ((spliceV c off vs).toList.take cs.length) := by
  have e : (spliceV c off vs).toList.take cs.length = (c.toList.take cs.length).take off ++ vs ++ (c.toList.take cs.length).drop (off + new.length) := by
    have hvl := hn.length
    simp only [spliceV]
    rw [List.take_append, List.take_append, List.take_take, List.take_of_length_le (l := vs) (by simp; omega), List.drop_take, List.take_take, Nat.min_comm off, hvl]
    congr 2
    simp; omega
  rw [e]
  exact ((h.take off).append hn).append (h.drop _)
theorem xWrite_sound (hW : WInv n0 G μ H w) {r off : Nat} {new : List PV} {H' : Heap} (h : xWrite H r off new = some H') {b : Nat} (hb : μ.loc r = some b) {vs : List Value} (hv : VRs w G μ new vs) :
    ∃ w', (storeCells ⟨b, off, none⟩ vs).run P w = .ok () w' ∧ Ext n0 w G μ w' G μ ∧ WInv n0 G μ H' w' := by
  unfold xWrite at h
  cases hk : hget H r with
  | none => rw [hk] at h; cases h
  | some k =>
    rw [hk] at h
    simp only at h
    cases hc : (!k.frozen && Nat.ble (off + new.length) k.cells.length && new.all okCell) with
    | false => rw [hc] at h; cases h
    | true =>
      rw [hc] at h
      simp only [cond_true, Option.some.injEq] at h
      subst h
      simp only [Bool.and_eq_true, Bool.not_eq_true'] at hc
      obtain ⟨⟨hf, hle⟩, hok⟩ := hc
      have hle := Nat.le_of_ble_eq_true hle
      obtain ⟨c, g2, g3, g4, g5, g6⟩ := hW.blk r k b (hget_some hk) hb
      obtain ⟨i1, i2⟩ := vcells_take g2 g3
      have hvl := hv.length
      obtain ⟨w', h1, h2⟩ := run_storeCells (P := P) (off := off) vs 0 w c (okCells_one hok hv) g2 (by omega)
      rw [Nat.add_zero] at h2
      have hsz : (spliceV c off vs).size = c.size := spliceV_size (by omega)
      have e := turned_ext hW (hget_some hk) hf hb g2 h2 hsz
      refine ⟨w', h1, e, ?_⟩
      refine turned_winv hW (hget_some hk) hf hb g2 h2 hsz hf ?_ ?_ (fun g hg => by cases hg)
      · exact vcells_of_take h2.at_ (VRs.mono e.toMono _ _ (splice_vrs i1 hv hle i2))
      · intro hg
        rw [hsz, splice_length hle]; exact g4 hg

theorem xStore_sound (hW : WInv n0 G μ H w) {t : TypeId} {p v : PV} {H' : Heap} {x y : Value} (hp : VR w G μ p x) (hv : VR w G μ v y) (h : xStore P H t p v = some H') :
    ∃ w', (Instr.storeAt t x y).run P w = .ok () w' ∧ Ext n0 w G μ w' G μ ∧ WInv n0 G μ H' w' := by
  unfold xStore at h
  split at h
  · rename_i r off new n hc hs
    cases hn : Nat.beq new.length n with
    | false => rw [hn] at h; cases h
    | true =>
      rw [hn] at h
      simp only [cond_true] at h
      have hn := Nat.eq_of_beq_eq_true hn
      rw [VR] at hp
      obtain ⟨b, hb, rfl⟩ := hp
      have hcv := cellsP_vrs hc hv
      obtain ⟨w', h1, h2, h3⟩ := xWrite_sound (P := P) hW h hb hcv
      refine ⟨w', ?_, h2, h3⟩
      have hl := hcv.length
      have hl' : y.cells.size = n := by rw [← hn, hl]; simp
      simp [Instr.storeAt, Instr.sureAddr, storeVar, run_sizeOf hs, hl', h1]
  · cases h

theorem new_sound (hW : WInv n0 G μ H w) {t : TypeId} {cs : List PV} {c : Array Value} (hv : VRs w G μ cs c.toList) : OpOK P n0 w G μ (do pure (.pointer (some (← newRow t c)))) (xNew H t cs).1 (xNew H t cs).2 := by
  have hl := hv.length
  rw [Array.length_toList] at hl
  have hk := alloc_winv (on := none) hW c ⟨cs, t, false, false, none⟩ (fun i p hp => by
    obtain ⟨v, h1, h2⟩ := hv.get hp
    exact ⟨v, by simpa using h1, h2⟩) (fun _ => hl.symm) rfl (fun g hg => by cases hg)
  refine ⟨.pointer (some ⟨w.heap.size, 0, none⟩), w.alloc (.cells c t), G, _, by simp [newRow], alloc_ext hW _ _ _, hk, ?_⟩
  simp only [xNew]
  rw [VR]
  exact ⟨_, upd_loc _ _ _ _, rfl⟩

theorem xFieldAddr_sound {s : TypeId} {f : Nat} {p v : PV} {x : Value} (hp : VR w G μ p x) (h : xFieldAddr P s f p = some v) : ∃ v', (Instr.fieldAt s x f).run P w = .ok v' w ∧ VR w G μ v v' := by
  unfold xFieldAddr xField at h
  split at h
  · rename_i fd hfd
    split at hfd
    · rename_i fs hu
      split at h
      · rename_i n hs
        have hz : ¬ (n + 1 = 0) := by omega
        cases p <;> simp only [Option.some.injEq] at h <;> try (cases h; done)
        all_goals subst h
        · rw [VR] at hp
          obtain ⟨b, off, rfl, hg, hc⟩ := hp
          refine ⟨.pointer (some ⟨b, off + fd.offset, none⟩), ?_, ?_⟩
          · simp [Instr.fieldAt, run_underlying hu, hfd, Instr.sureAddr, fieldPlace, run_sizeOf hs, Addr.add_lit]
          · rw [VR]; exact ⟨b, _, rfl, hg, hc.drop _⟩
        · rename_i r off
          rw [VR] at hp
          obtain ⟨b, hb, rfl⟩ := hp
          refine ⟨.pointer (some ⟨b, off + fd.offset, none⟩), ?_, ?_⟩
          · simp [Instr.fieldAt, run_underlying hu, hfd, Instr.sureAddr, fieldPlace, run_sizeOf hs, Addr.add_lit]
          · rw [VR]; exact ⟨b, hb, rfl⟩
      · cases h
    · cases hfd
  · cases h

theorem idxOk_iff {i : Int} {n : Nat} (h : idxOk i n = true) : 0 ≤ i ∧ i < n := by
  cases i with
  | ofNat m =>
    simp only [idxOk, nblt_eq, decide_eq_true_eq] at h
    simp only [Int.ofNat_eq_natCast]
    omega
  | negSucc m => cases h

theorem xIndexAddr_sound {t : TypeId} {p v : PV} {x : Value} {k : IntKind} {i : Int} (hp : VR w G μ p x) (h : xIndexAddr P t p i = some v) : ∃ v', (Instr.indexAt t x (.int k i)).run P w = .ok v' w ∧ VR w G μ v v' := by
  unfold xIndexAddr at h
  split at h
  · rename_i e hu
    split at h
    · rename_i sz hs
      cases p <;> simp only at h <;> try (cases h; done)
      · rename_i cs n cap
        cases hc : (idxOk i n && Nat.blt (i.toNat * sz) cs.length) with
        | false => rw [hc] at h; cases h
        | true =>
          rw [hc] at h
          simp only [cond_true, Option.some.injEq] at h
          subst h
          simp only [Bool.and_eq_true] at hc
          have hi := idxOk_iff hc.1
          have hlt : i.toNat * sz < cs.length := by have := Nat.le_of_ble_eq_true hc.2; omega
          rw [VR] at hp
          obtain ⟨ao, c, rfl, h2, -, h3⟩ := hp
          rcases h3 with rfl | ⟨b, off, rfl, hg, hcs⟩
          · simp at hlt
          · refine ⟨.pointer (some ⟨b, off + i.toNat * sz, none⟩), ?_, ?_⟩
            · simp [Instr.indexAt, asIntOf, run_underlying hu, hi.1, hi.2, run_sizeOf hs, Addr.add_lit]
            · rw [VR]; exact ⟨b, _, rfl, hg, hcs.drop _⟩
      · rename_i r off n cap sz'
        cases hc : idxOk i n with
        | false => rw [hc] at h; cases h
        | true =>
          rw [hc] at h
          simp only [cond_true, Option.some.injEq] at h
          subst h
          have hi := idxOk_iff hc
          rw [VR] at hp
          obtain ⟨b, c, hb, rfl, _⟩ := hp
          refine ⟨.pointer (some ⟨b, off + i.toNat * sz, none⟩), ?_, ?_⟩
          · simp [Instr.indexAt, asIntOf, run_underlying hu, hi.1, hi.2, run_sizeOf hs, Addr.add_lit]
          · rw [VR]; exact ⟨b, hb, rfl⟩
    · cases h
  · rename_i n e hu
    split at h
    · rename_i sz hs
      cases p <;> simp only at h <;> try (cases h; done)
      · rename_i cs
        cases hc : idxOk i n with
        | false => rw [hc] at h; cases h
        | true =>
          rw [hc] at h
          simp only [cond_true, Option.some.injEq] at h
          subst h
          have hi := idxOk_iff hc
          rw [VR] at hp
          obtain ⟨b, off, rfl, hg, hcs⟩ := hp
          refine ⟨.pointer (some ⟨b, off + i.toNat * sz, none⟩), ?_, ?_⟩
          · simp [Instr.indexAt, asIntOf, run_underlying hu, hi.1, hi.2, run_sizeOf hs, Addr.add_lit, Instr.sureAddr]
          · rw [VR]; exact ⟨b, _, rfl, hg, hcs.drop _⟩
      · rename_i r off
        cases hc : idxOk i n with
        | false => rw [hc] at h; cases h
        | true =>
          rw [hc] at h
          simp only [cond_true, Option.some.injEq] at h
          subst h
          have hi := idxOk_iff hc
          rw [VR] at hp
          obtain ⟨b, hb, rfl⟩ := hp
          refine ⟨.pointer (some ⟨b, off + i.toNat * sz, none⟩), ?_, ?_⟩
          · simp [Instr.indexAt, asIntOf, run_underlying hu, hi.1, hi.2, run_sizeOf hs, Addr.add_lit, Instr.sureAddr]
          · rw [VR]; exact ⟨b, hb, rfl⟩
    · cases h
  · cases h
end
end Go.PM
