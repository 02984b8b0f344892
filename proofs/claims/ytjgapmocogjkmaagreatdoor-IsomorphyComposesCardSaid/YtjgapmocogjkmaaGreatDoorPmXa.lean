/- The plain machine: a slice that is made as an argument alone (nobody writes it) is data at once. No program. -/
import Derived.Test.YtjgapmocogjkmaaGreatDoorPmX
set_option linter.unusedSimpArgs false
set_option linter.unusedVariables false
namespace Go.PM
open Go Go.RowKit
variable {P : Program} {n0 : Nat → Prop} {w : World} {G : Nat → Prop} {μ : Mp} {H : Heap}

/-- A made slice as data: its conditions and its value. -/
def tMakeData (P : Program) (t : TypeId) (l c : PV) : Option (List Bool × PV) :=
  match elemTy P t, l, c with
  | some (e, ty), .lit (.int _ l), .lit (.int _ c) => match P.info? e with
    | some i => match i.zero with
      | some z => match dec ty (lits z.cells) with
        | some d => bif Nat.ble i.bytes 65536 && Nat.beq z.cells.size i.size then
            some ([!ltI l 0, !ltI c l, !ltI 1048576 c], tlOf ty (List.replicate l.toNat d) (some c.toNat))
          else none
        | none => none
      | none => none
    | none => none
  | _, _, _ => none
theorem tMakeData_sound (hW : WInv n0 G μ H w) {t : TypeId} {p q v : PV} {x y : Value} {cs : List Bool} (hp : VR w G μ p x) (hq : VR w G μ q y) (h : tMakeData P t p q = some (cs, v)) (hcs : allB cs = true) :
    OpOK P n0 w G μ (Instr.makeSlice t x y) v H := by
  unfold tMakeData at h
  split at h
  · rename_i e ty kl l kc cc hel
    rw [VR] at hp hq
    subst hp; subst hq
    obtain ⟨hu, hs⟩ := elemTy_some hel
    split at h
    · rename_i i hi
      have hsz := sizeT_info hs hi
      split at h
      · rename_i z hz
        split at h
        · rename_i d hd
          cases hb : (Nat.ble i.bytes 65536 && Nat.beq z.cells.size i.size) with
          | false => rw [hb] at h; cases h
          | true =>
            rw [hb] at h
            simp only [cond_true, Option.some.injEq, Prod.mk.injEq] at h
            obtain ⟨rfl, rfl⟩ := h
            simp only [Bool.and_eq_true] at hb
            have hb1 := Nat.le_of_ble_eq_true hb.1
            have hb2 := Nat.eq_of_beq_eq_true hb.2
            obtain ⟨c1, hcs⟩ := allB_cons hcs
            obtain ⟨c2, hcs⟩ := allB_cons hcs
            obtain ⟨c3, _⟩ := allB_cons hcs
            rw [ltI_eq, Bool.not_eq_true', decide_eq_false_iff_not] at c1 c2 c3
            have hbytes : (i.bytes : Int) * cc ≤ 281474976710656 := by
              have : (i.bytes : Int) * cc ≤ 65536 * 1048576 := Int.mul_le_mul (by omega) (by omega) (by omega) (by omega)
              omega
            have hr := run_make (P := P) w t e i z hu hi hz kl kc l cc (by omega) (by omega) hbytes (by omega)
            have hdz : VRs w G nomap (enc ty d) z.cells.toList := dec_vr ty nomap _ d _ hd (lits_vr _)
            have hrep := replicate_vrs hdz l.toNat
            have hmade : (madeCells z.cells (cc.toNat * i.size)).toList = (List.replicate cc.toNat z.cells.toList).flatten := by rw [← hb2]; exact madeCells_list z.cells cc.toNat
            have hsplit : (List.replicate cc.toNat z.cells.toList).flatten = (List.replicate l.toNat z.cells.toList).flatten ++ (List.replicate (cc.toNat - l.toNat) z.cells.toList).flatten := by
              rw [← List.flatten_append, List.replicate_append_replicate]
              congr 2; omega
            obtain ⟨e1, e2⟩ := good_winv hW (.cells (madeCells z.cells (cc.toNat * i.size)) e)
            refine ⟨_, _, _, _, hr, e1, e2, tlOf_vr ?_⟩
            rw [VR]
            refine ⟨_, _, by rw [List.length_replicate], by rw [List.length_replicate]; omega, fun k hk => by cases hk; rfl, .inr ⟨w.heap.size, 0, rfl, .inr rfl, ?_⟩⟩
            refine VCells.mk fun j p hp => ?_
            obtain ⟨u, g1, g2⟩ := hrep.get hp
            refine ⟨u, ?_, VR.mono e1.toMono.nomap p u g2⟩
            rw [Nat.zero_add, World.cell?_alloc_new, ← Array.getElem?_toList, hmade, hsplit, List.getElem?_append_left (List.getElem?_eq_some_iff.1 g1).1]
            exact g1
        · cases h
      · cases h
    · cases h
  · cases h
/-- A made slice that is appended to in place: a window of a row as long as its capacity. -/
def tMakeWin (P : Program) (H : Heap) (t : TypeId) (l c : PV) : TRes :=
  match elemTy P t, l, c with
  | some (e, ty), .lit (.int _ l), .lit (.int _ c) => match P.info? e with
    | some i => match i.zero with
      | some z => match dec ty (lits z.cells) with
        | some d => bif Nat.ble i.bytes 65536 && Nat.beq z.cells.size i.size then
            some ([!ltI l 0, !ltI c l, !ltI 1048576 c], .win H.length 0 l.toNat ty.size, H ++ [some ⟨encAll ty (List.replicate c.toNat d), e, true, false, some ⟨ty, List.replicate c.toNat d⟩⟩], 2)
          else none
        | none => none
      | none => none
    | none => none
  | _, _, _ => none
theorem tMakeWin_sound (hW : WInv n0 G μ H w) {t : TypeId} {p q v : PV} {x y : Value} {cs : List Bool} {H' : Heap} {c : Nat} (hp : VR w G μ p x) (hq : VR w G μ q y) (h : tMakeWin P H t p q = some (cs, v, H', c)) (hcs : allB cs = true) :
    c = 2 ∧ OpOK P n0 w G μ (Instr.makeSlice t x y) v H' := by
  unfold tMakeWin at h
  split at h
  · rename_i e ty kl l kc cc hel
    rw [VR] at hp hq
    subst hp; subst hq
    obtain ⟨hu, hs⟩ := elemTy_some hel
    split at h
    · rename_i i hi
      have hsz := sizeT_info hs hi
      split at h
      · rename_i z hz
        split at h
        · rename_i d hd
          cases hb : (Nat.ble i.bytes 65536 && Nat.beq z.cells.size i.size) with
          | false => rw [hb] at h; cases h
          | true =>
            rw [hb] at h
            simp only [cond_true, Option.some.injEq, Prod.mk.injEq] at h
            obtain ⟨rfl, rfl, rfl, rfl⟩ := h
            refine ⟨rfl, ?_⟩
            simp only [Bool.and_eq_true] at hb
            have hb1 := Nat.le_of_ble_eq_true hb.1
            have hb2 := Nat.eq_of_beq_eq_true hb.2
            obtain ⟨c1, hcs⟩ := allB_cons hcs
            obtain ⟨c2, hcs⟩ := allB_cons hcs
            obtain ⟨c3, _⟩ := allB_cons hcs
            rw [ltI_eq, Bool.not_eq_true', decide_eq_false_iff_not] at c1 c2 c3
            have hbytes : (i.bytes : Int) * cc ≤ 281474976710656 := by
              have : (i.bytes : Int) * cc ≤ 65536 * 1048576 := Int.mul_le_mul (by omega) (by omega) (by omega) (by omega)
              omega
            have hr := run_make (P := P) w t e i z hu hi hz kl kc l cc (by omega) (by omega) hbytes (by omega)
            have hdz : VRs w G nomap (enc ty d) z.cells.toList := dec_vr ty nomap _ d _ hd (lits_vr _)
            have hrep := replicate_vrs hdz cc.toNat
            have hmade : (madeCells z.cells (cc.toNat * i.size)).toList = (List.replicate cc.toNat z.cells.toList).flatten := by rw [← hb2]; exact madeCells_list z.cells cc.toNat
            have hk := alloc_winv (on := some cc.toNat) hW (madeCells z.cells (cc.toNat * i.size)) ⟨encAll ty (List.replicate cc.toNat d), e, true, false, some ⟨ty, List.replicate cc.toNat d⟩⟩ (fun j p hp => by
              obtain ⟨u, g1, g2⟩ := hrep.get hp
              refine ⟨u, ?_, g2.of_nomap⟩
              rw [← Array.getElem?_toList, hmade]
              exact g1) (fun h => by cases h) rfl (fun g hg => by cases hg; exact ⟨rfl, by simp⟩)
            refine ⟨_, _, G, _, hr, alloc_ext hW _ _ _, hk, ?_⟩
            rw [VR]
            refine ⟨w.heap.size, cc.toNat, cc.toNat, upd_loc _ _ _ _, by rw [Nat.zero_mul], by omega, ⟨madeCells z.cells (cc.toNat * i.size), e, (0, 0), ?_, ?_⟩, upd_len _ _ _ _, by omega, by omega⟩
            · show (w.heap.push _)[w.heap.size]? = _
              simp
            · simp [madeCells, hsz]
        · cases h
      · cases h
    · cases h
  · cases h
end Go.PM
