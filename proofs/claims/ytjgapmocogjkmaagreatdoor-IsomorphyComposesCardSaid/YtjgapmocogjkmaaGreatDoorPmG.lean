/- The plain machine, 7: append and copy. No program. -/
import Derived.Test.YtjgapmocogjkmaaGreatDoorPmF
set_option linter.unusedSimpArgs false
set_option linter.unusedVariables false
namespace Go.PM
open Go Go.RowKit

section
variable {P : Program} {n0 : Nat → Prop} {w : World} {G : Nat → Prop} {μ : Mp} {H : Heap}

/-- What is appended or copied, as a value: n elements; the first m of them read so in every world with these blocks. -/
def Source (P : Program) (w : World) (G : Nat → Prop) (μ : Mp) (sz : Nat) (v : Value) (new : List PV) (n : Nat) : Prop :=
  (∀ w1 : World, (Builtin.lenOf v).run P w1 = .ok n w1) ∧ new.length = n * sz ∧
    ∀ m, m ≤ n → ∃ vs : Array Value, VRs w G μ (new.take (m * sz)) vs.toList ∧ ∀ w1 : World, w1.heap = w.heap → (Builtin.firstCells sz m v).run P w1 = .ok vs w1
theorem cell_heap {w1 : World} (h : w1.heap = w.heap) (p : Addr) : w1.cell? p = w.cell? p := by simp [World.cell?, h]
theorem source_at {b off n c sz : Nat} {cs : List PV} (hc : VCells w G μ b off cs) (hl : cs.length = n * sz) : Source P w G μ sz (.slice (some ⟨b, off, none⟩) n c) cs n := by
  refine ⟨fun w1 => rfl, hl, fun m hm => ?_⟩
  obtain ⟨vs, h1, h2⟩ := (hc.take (m * sz)).values
  have hvl := h1.length
  rw [List.length_take, hl, Nat.min_eq_left (Nat.mul_le_mul_right _ hm)] at hvl
  refine ⟨vs.toArray, by simpa using h1, fun w1 hw => ?_⟩
  have := run_loadCells (P := P) (w := w1) (b := b) (off := off) (vs := vs) fun j hj => by rw [cell_heap hw]; exact h2 j hj
  rw [← hvl] at this
  exact this
theorem xSource_sound (hW : WInv n0 G μ H w) {sz n : Nat} {p : PV} {new : List PV} {v : Value} (hp : VR w G μ p v) (h : xSource H sz p = some (new, n)) : Source P w G μ sz v new n := by
  unfold xSource at h
  split at h
  · rename_i cs n' cap
    cases hb : Nat.beq cs.length (n' * sz) with
    | false => rw [hb] at h; cases h
    | true =>
      rw [hb] at h
      simp only [cond_true, Option.some.injEq, Prod.mk.injEq] at h
      obtain ⟨rfl, rfl⟩ := h
      have hb := Nat.eq_of_beq_eq_true hb
      rw [VR] at hp
      obtain ⟨ao, c, rfl, _, _, h3⟩ := hp
      rcases h3 with rfl | ⟨b, off, rfl, _, hc⟩
      · refine ⟨fun w1 => rfl, hb, fun m hm => ⟨#[], by simp [VRs], fun w1 _ => ?_⟩⟩
        have h0 : m * sz = 0 := by
          have := Nat.mul_le_mul_right sz hm
          simp only [List.length_nil] at hb
          omega
        cases ao with
        | none => rfl
        | some a => simp [Builtin.firstCells, h0, loadCells, loadCellsFrom]
      · exact source_at hc.of_nomap hb
  · rename_i r off n' cap sz'
    split at h
    · rename_i k hk
      cases hb : Nat.ble (off + n' * sz) k.cells.length with
      | false => rw [hb] at h; cases h
      | true =>
        rw [hb] at h
        simp only [cond_true, Option.some.injEq, Prod.mk.injEq] at h
        obtain ⟨rfl, rfl⟩ := h
        have hb := Nat.le_of_ble_eq_true hb
        rw [VR] at hp
        obtain ⟨b, c, hμ, rfl, _⟩ := hp
        obtain ⟨c', g2, g3, _⟩ := hW.blk r k b (hget_some hk) hμ
        have := g3.sub off (n' * sz)
        rw [Nat.zero_add] at this
        exact source_at this (by simp; omega)
    · cases h
  · rename_i n' c
    cases hb : Nat.beq n' 0 with
    | false => rw [hb] at h; cases h
    | true =>
      rw [hb] at h
      simp only [cond_true, Option.some.injEq, Prod.mk.injEq] at h
      obtain ⟨rfl, rfl⟩ := h
      have hb := Nat.eq_of_beq_eq_true hb
      subst hb
      rw [VR] at hp
      subst hp
      exact ⟨fun w1 => rfl, by simp, fun m hm => ⟨#[], by simp [VRs], fun w1 _ => rfl⟩⟩
  · rename_i s
    cases hb : Nat.beq sz 1 with
    | false => rw [hb] at h; cases h
    | true =>
      rw [hb] at h
      simp only [cond_true, Option.some.injEq, Prod.mk.injEq] at h
      obtain ⟨rfl, rfl⟩ := h
      have hb := Nat.eq_of_beq_eq_true hb
      subst hb
      rw [VR] at hp
      subst hp
      have hsz : s.data.size = s.size := rfl
      refine ⟨fun w1 => rfl, by simp [bytesP, hsz], fun m hm => ⟨(s.extract 0 m).data.map fun b => .int .u8 b.toNat, ?_, fun w1 _ => rfl⟩⟩
      have := VRs.lits (w := w) (G := G) (μ := μ) ((s.data.toList.take m).map fun b => Value.int .u8 b.toNat)
      simpa [bytesP, List.map_take, List.map_map, Function.comp_def] using this
  · cases h

theorem underlying_noInt {u : TypeId} {d : TypeDesc} (h : P.underlying u = some d) (hd : ∀ k, d ≠ .int k) (w1 : World) :
    (do pure ((← underlying u) matches .int _) : Sem Bool).run P w1 = .ok false w1 := by
  simp only [Sem.run_bind, run_underlying h, Result.andThen_ok, Sem.run_pure]

section
variable {t u e : TypeId} {i : TypeInfo} {z : Value} {d : TypeDesc} (ht : P.underlying t = some (.slice e)) (hu : P.underlying u = some d) (hd : ∀ k, d ≠ .int k) (hi : P.info? e = some i)
include ht hu hd hi
/-- append into the room that there is. -/
theorem run_append_fit {x : Value} {n l c : Nat} {ty : TypeId} {ao : Option Addr} (hlen : ∀ w1 : World, (Builtin.lenOf x).run P w1 = .ok n w1) (hfit : l + n ≤ c) {vs : Array Value} (hx : (Builtin.firstCells i.size n x).run P w = .ok vs w) {w' : World}
    (hst : match ao with | some a => (storeCells (a.add (l * i.size)) vs.toList).run P w = .ok () w' | none => w' = w) :
    (Builtin.append_ #[t, u] ty #[.slice ao l c, x]).run P w = .ok (.slice ao (l + n) c) w' := by
  have hsz : (sizeOf e).run P w = .ok i.size w := by simp [sizeOf, run_info hi]
  have hb := underlying_noInt hu hd w
  have q0 : (#[t, u] : Array TypeId)[0]? = some t := rfl
  have q1 : (#[t, u] : Array TypeId)[1]? = some u := rfl
  have q2 : (#[Value.slice ao l c, x] : Array Value)[0]? = some (Value.slice ao l c) := rfl
  have q3 : (#[Value.slice ao l c, x] : Array Value)[1]? = some x := rfl
  unfold Builtin.append_
  simp only [q0, q1, q2, q3, Sem.run_bind, run_underlying ht, Result.andThen_ok, hsz, hb, hlen]
  simp only [Sem.run_bind, Sem.run_pure, run_underlying hu, Result.andThen_ok]
  have hm : (match (generalizing := false) d with | .int _ => true | _ => false) = false := by cases d <;> first | rfl | exact absurd rfl (hd _)
  simp only [hm, Bool.false_eq_true, if_false, hlen, Result.andThen_ok, if_pos hfit, Bool.not_false, if_true, hx, Sem.run_bind]
  cases ao with
  | none => simp only at hst; subst hst; simp
  | some a => simp only at hst; simp [hst]
/-- append that makes a new row. -/
theorem run_append_new (hz : i.zero = some z) {x : Value} {n l c : Nat} {ty : TypeId} {ao : Option Addr} (hlen : ∀ w1 : World, (Builtin.lenOf x).run P w1 = .ok n w1) (hfit : ¬ l + n ≤ c) (hb1 : i.bytes ≤ 65536) (hb2 : n ≤ 1048576) (hb3 : l ≤ 1048576)
    {vs os : Array Value} (hx : ∀ w1 : World, w1.heap = w.heap → (Builtin.firstCells i.size n x).run P w1 = .ok vs w1) (ho : ∀ w1 : World, w1.heap = w.heap → (Builtin.firstCells i.size l (.slice ao l c)).run P w1 = .ok os w1) :
    ∃ c', l + n ≤ c' ∧ (Builtin.append_ #[t, u] ty #[.slice ao l c, x]).run P w = .ok (.slice (some ⟨w.heap.size, 0, none⟩) (l + n) c') (w.drew.alloc (.cells (os ++ vs ++ Builtin.zeroCells z.cells (c' - (l + n))) e)) := by
  have hsz : (sizeOf e).run P w = .ok i.size w := by simp [sizeOf, run_info hi]
  have hb := underlying_noInt hu hd w
  have q0 : (#[t, u] : Array TypeId)[0]? = some t := rfl
  have q1 : (#[t, u] : Array TypeId)[1]? = some u := rfl
  have q2 : (#[Value.slice ao l c, x] : Array Value)[0]? = some (Value.slice ao l c) := rfl
  have q3 : (#[Value.slice ao l c, x] : Array Value)[1]? = some x := rfl
  have hcap : Builtin.nextslicecap (l + n) c * i.bytes ≤ 281474976710656 := by
    have h1 := nextslicecap_le (need := l + n) (old := c) (by omega)
    have h2 : Builtin.nextslicecap (l + n) c * i.bytes ≤ 4194304 * 65536 := Nat.mul_le_mul (by omega) hb1
    omega
  have hcap' : ¬ (Builtin.nextslicecap (l + n) c * i.bytes > 2 ^ 48) := by omega
  have hmax : IntKind.i64.max = 9223372036854775807 := rfl
  have h63 : ¬ (((l + n : Nat) : Int) > IntKind.i64.max ∧ (false = true ∨ i.bytes = 0)) := by rw [hmax]; omega
  refine ⟨grownCap w (l + n) c e, ?_, ?_⟩
  · simp only [grownCap, Question.cut]; omega
  · unfold Builtin.append_
    simp only [q0, q1, q2, q3, Sem.run_bind, run_underlying ht, Result.andThen_ok, hsz, hb, hlen]
    simp only [Sem.run_bind, Sem.run_pure, run_underlying hu, Result.andThen_ok]
    have hm : (match (generalizing := false) d with | .int _ => true | _ => false) = false := by cases d <;> first | rfl | exact absurd rfl (hd _)
    simp only [hm, Bool.false_eq_true, if_false, hlen, Result.andThen_ok, if_neg hfit, Bool.not_false, if_true]
    have h63' : ¬ (((l + n : Nat) : Int) > IntKind.i64.max ∧ (False ∨ i.bytes = 0)) := by rw [hmax]; omega
    simp only [Sem.run_bind, hlen, Result.andThen_ok, if_neg hfit, run_info hi]
    rw [if_neg h63']
    have e1 := hx w.drew rfl
    have e2 := ho w.drew rfl
    simp only [World.drew] at e1 e2
    simp only [Sem.run_bind, run_info hi, Result.andThen_ok, if_neg hcap', run_choose, Question.forced, Bool.false_eq_true, if_false, run_askRoom, e1, e2, zeroValue, hz, Sem.run_pure, newRow, run_newObj]
    rfl
end

/-- append of nothing. -/
theorem run_append_none {t u e : TypeId} {i : TypeInfo} {d : TypeDesc} (ht : P.underlying t = some (.slice e)) (hu : P.underlying u = some d) (hd : ∀ k, d ≠ .int k) (hi : P.info? e = some i) {x : Value} {new : List PV} {l c : Nat} {ty : TypeId} {ao : Option Addr}
    (hs : Source P w G μ i.size x new 0) (hl : l ≤ c) : (Builtin.append_ #[t, u] ty #[.slice ao l c, x]).run P w = .ok (.slice ao l c) w := by
  obtain ⟨h1, h2, h3⟩ := hs
  obtain ⟨vs, h4, h5⟩ := h3 0 (Nat.le_refl _)
  rw [Nat.zero_mul, List.take_zero, VRs] at h4
  have := run_append_fit (w := w) (w' := w) ht hu hd hi (ty := ty) (ao := ao) (l := l) (c := c) h1 (by simpa using hl) (h5 w rfl) (by
    rw [h4]
    cases ao <;> simp [storeCells])
  simpa using this

theorem grow_ok (hW : WInv n0 G μ H w) {e : TypeId} {sz need c' : Nat} {cells : List PV} {os vs rest : Array Value} (hv : VRs w G μ cells (os ++ vs).toList) (hneed : need ≤ c') (hl : (os ++ vs).size = need * sz) (hr : rest.size = (c' - need) * sz) {s : Sem Value}
    (h : s.run P w = .ok (.slice (some ⟨w.heap.size, 0, none⟩) need c') (w.drew.alloc (.cells (os ++ vs ++ rest) e))) : OpOK P n0 w G μ s (xGrow H e sz need cells).1 (xGrow H e sz need cells).2 := by
  have hW' : WInv n0 G μ H w.drew := drew_winv hW (w.drawn + 1)
  have e1 : Ext n0 w G μ w.drew G μ := drew_ext (Nat.le_succ _)
  have hk := alloc_winv (on := none) hW' (os ++ vs ++ rest) ⟨cells, e, true, false, none⟩ (fun j p hp => by
    obtain ⟨u, g1, g2⟩ := hv.get hp
    refine ⟨u, ?_, VR.mono e1.toMono p u g2⟩
    have hlt : j < (os ++ vs).size := by
      have := (List.getElem?_eq_some_iff.1 g1).1
      simpa using this
    rw [Array.getElem?_append_left hlt, ← Array.getElem?_toList]
    exact g1) (fun h => by cases h) rfl (fun g hg => by cases hg)
  refine ⟨_, _, G, _, h, e1.trans (alloc_ext hW' _ _ _), hk, ?_⟩
  simp only [xGrow]
  rw [VR]
  refine ⟨w.heap.size, c', upd_loc _ _ _ _, rfl, hneed, fun k hk => (by cases hk), os ++ vs ++ rest, e, (0, 0), ?_, ?_⟩
  · show (w.heap.push _)[w.heap.size]? = _
    simp
  · rw [Array.size_append, hl, hr, ← Nat.add_mul, Nat.zero_add]
    exact Nat.mul_le_mul_right _ (by omega)

theorem OpOK.of_pair {s : Sem Value} {x : PV × Heap} {v : PV} {H' : Heap} (h : x = (v, H')) (k : OpOK P n0 w G μ s x.1 x.2) : OpOK P n0 w G μ s v H' := by subst h; exact k
theorem zeroCells_size (z : Array Value) (n : Nat) : (Builtin.zeroCells z n).size = n * z.size := by simp [Builtin.zeroCells]

theorem OpOK.put {s : Sem Value} {v' : Value} {w' : World} {v : PV} {H' : Heap} (h : s.run P w = .ok v' w') (e : Ext n0 w G μ w' G μ) (hW : WInv n0 G μ H' w') (hv : VR w G μ v v') : OpOK P n0 w G μ s v H' := ⟨v', w', G, μ, h, e, hW, VR.mono e.toMono _ _ hv⟩

/-- The row appended to has unknown room behind it: it stays, or a new one is made. -/
theorem append_onto (hW : WInv n0 G μ H w) {t u e : TypeId} {i : TypeInfo} {z : Value} {d : TypeDesc} (ht : P.underlying t = some (.slice e)) (hu : P.underlying u = some d) (hd : ∀ k, d ≠ .int k) (hi : P.info? e = some i) (hz : i.zero = some z)
    (hb1 : i.bytes ≤ 65536) (hzs : z.cells.size = i.size) {x : Value} {new : List PV} {n l : Nat} {ty : TypeId} (hs : Source P w G μ i.size x new n) (hn : n ≤ 1048576) (hl : l ≤ 1048576) (hok : new.all okCell = true)
    {r : Nat} {k : Blk} (hk : hget H r = some k) (hf : k.frozen = false) (hg : k.grown = true) (hte : k.ty = e) (hle : l * i.size ≤ k.cells.length) {b c : Nat} (hb : μ.loc r = some b) (hlc : l ≤ c) (hroom : Room w b (0 + c * i.size)) :
    OpOK P n0 w G μ (Builtin.append_ #[t, u] ty #[.slice (some ⟨b, 0, none⟩) l c, x]) (xGrow (H.set r none) e i.size (l + n) (k.cells.take (l * i.size) ++ new)).1 (xGrow (H.set r none) e i.size (l + n) (k.cells.take (l * i.size) ++ new)).2 := by
  obtain ⟨cs, g2, g3, g4, g5, g6⟩ := hW.blk r k b (hget_some hk) hb
  obtain ⟨s1, s2, s3⟩ := hs
  obtain ⟨vs, v1, v2⟩ := s3 n (Nat.le_refl _)
  rw [List.take_of_length_le (by omega)] at v1
  have hvl : new.length = vs.size := by simpa using v1.length
  obtain ⟨i1, i2⟩ := vcells_take g2 g3
  by_cases hfit : l + n ≤ c
  · obtain ⟨c2, t2, fr2, r1, r2⟩ := hroom
    rw [g2] at r1; cases r1
    have hmul : (l + n) * i.size ≤ c * i.size := Nat.mul_le_mul_right _ hfit
    rw [Nat.add_mul] at hmul
    obtain ⟨w', h1, h2⟩ := run_storeCells (P := P) (off := l * i.size) vs.toList 0 w cs (okCells_one hok v1) g2 (by simp only [Array.length_toList]; omega)
    rw [Nat.add_zero] at h2
    have hsz : (spliceV cs (l * i.size) vs.toList).size = cs.size := spliceV_size (by simp only [Array.length_toList]; omega)
    have e1 := turned_ext hW (hget_some hk) hf hb g2 h2 hsz
    have hW' := turned_winv (k' := ⟨k.cells.take (l * i.size) ++ new, e, true, false, none⟩) hW (hget_some hk) hf hb g2 (hte ▸ h2) hsz rfl (by
      refine vcells_of_take (n := l * i.size + vs.size) h2.at_ (VRs.mono e1.toMono _ _ ?_)
      have := i1.take (l * i.size)
      rw [List.take_take, Nat.min_eq_left hle] at this
      have h3 := this.append v1
      have e2 : (spliceV cs (l * i.size) vs.toList).toList.take (l * i.size + vs.size) = cs.toList.take (l * i.size) ++ vs.toList := by
        simp only [spliceV]
        rw [List.take_append_of_le_length (by simp; omega), List.take_of_length_le (by simp; omega)]
      rw [e2]; exact h3) (fun h => by cases h) (fun g hg => by cases hg)
    have hrl : r < H.length := (List.getElem?_eq_some_iff.1 (hget_some hk)).1
    obtain ⟨e3, hW''⟩ := rename_winv (r := r) (on := none) hW' (List.getElem?_set_self hrl) hb (fun g hg => by cases hg)
    simp only [List.length_set, List.set_set] at e3 hW''
    have hrun := run_append_fit (w := w) (w' := w') (ty := ty) (ao := some ⟨b, 0, none⟩) ht hu hd hi s1 hfit (v2 w rfl) (by simp only [Addr.add_lit, Nat.zero_add]; exact h1)
    refine ⟨_, w', G, _, hrun, e1.trans e3, by simpa [xGrow] using hW'', ?_⟩
    simp only [xGrow]
    rw [VR]
    exact ⟨b, c, by simp [upd_loc], rfl, hfit, fun k hk => (by cases hk), _, _, _, h2.at_, by rw [hsz]; omega⟩
  · have hsub := g3.sub 0 (l * i.size)
    rw [Nat.zero_add, List.drop_zero] at hsub
    obtain ⟨os, o1, o2⟩ := (source_at (P := P) (c := c) hsub (by simp; omega) : Source P w G μ i.size (.slice (some ⟨b, 0, none⟩) l c) _ l).2.2 l (Nat.le_refl _)
    rw [List.take_of_length_le (by simp; omega)] at o1
    have hol : l * i.size = os.size := by have := o1.length; rw [List.length_take, Nat.min_eq_left hle] at this; simpa using this
    obtain ⟨c', q1, q2⟩ := run_append_new (w := w) (ty := ty) (ao := some ⟨b, 0, none⟩) ht hu hd hi hz s1 hfit hb1 hn hl v2 o2
    exact grow_ok (kill_winv hW r) (os := os) (vs := vs) (by rw [Array.toList_append]; exact o1.append v1) q1 (by rw [Array.size_append, Nat.add_mul, ← hol, ← hvl, s2]) (by rw [zeroCells_size, hzs]) q2

set_option maxHeartbeats 2000000 in
theorem xAppend_sound (hW : WInv n0 G μ H w) {tys : Array TypeId} {ty : TypeId} {p q v : PV} {H' : Heap} {s x : Value} (hp : VR w G μ p s) (hq : VR w G μ q x) (h : xAppend P H tys p q = some (v, H')) : OpOK P n0 w G μ (Builtin.append_ tys ty #[s, x]) v H' := by
  unfold xAppend at h
  split at h
  · rename_i t u htys
    have htys : tys = #[t, u] := by apply Array.ext'; simpa using htys
    subst htys
    split at h
    · cases h
    · cases h
    · rename_i e d hnot ht hu
      have hd : ∀ k, d ≠ .int k := fun k hk => hnot k (by rw [hk])
      split at h
      · rename_i i hi
        split at h
        · rename_i z hz
          cases hb : (Nat.ble i.bytes 65536 && Nat.ble 1 i.size && Nat.beq z.cells.size i.size) with
          | false => rw [hb] at h; cases h
          | true =>
            rw [hb] at h
            simp only [cond_true] at h
            simp only [Bool.and_eq_true] at hb
            have hb1 := Nat.le_of_ble_eq_true hb.1.1
            have hzs := Nat.eq_of_beq_eq_true hb.2
            split at h
            · rename_i new n hsrc
              cases hc : (Nat.ble n 1048576 && new.all okCell) with
              | false => rw [hc] at h; cases h
              | true =>
                rw [hc] at h
                simp only [cond_true] at h
                simp only [Bool.and_eq_true] at hc
                have hn := Nat.le_of_ble_eq_true hc.1
                have hs := xSource_sound (P := P) hW hq hsrc
                have hs' := hs
                obtain ⟨s1, s2, s3⟩ := hs
                obtain ⟨vs, v1, v2⟩ := s3 n (Nat.le_refl _)
                rw [List.take_of_length_le (by omega)] at v1
                have hvl : new.length = vs.size := by simpa using v1.length
                split at h
                · rename_i l c
                  rw [VR] at hp
                  subst hp
                  cases hlc : (Nat.beq l 0 && Nat.beq c 0) with
                  | false => rw [hlc] at h; cases h
                  | true =>
                    rw [hlc] at h
                    simp only [cond_true] at h
                    simp only [Bool.and_eq_true] at hlc
                    have e1 := Nat.eq_of_beq_eq_true hlc.1
                    have e2 := Nat.eq_of_beq_eq_true hlc.2
                    subst e1; subst e2
                    cases hn0 : Nat.beq n 0 with
                    | true =>
                      rw [hn0] at h
                      simp only [cond_true, Option.some.injEq, Prod.mk.injEq] at h
                      obtain ⟨rfl, rfl⟩ := h
                      have hn0 := Nat.eq_of_beq_eq_true hn0
                      subst hn0
                      exact .same hW (run_append_none ht hu hd hi hs' (Nat.le_refl _)) (by rw [VR])
                    | false =>
                      rw [hn0] at h
                      simp only [cond_false, Option.some.injEq] at h
                      have hn1 : n ≠ 0 := fun e => (by rw [e] at hn0; cases hn0)
                      obtain ⟨c', q1, q2⟩ := run_append_new (w := w) (ty := ty) (ao := none) (l := 0) (c := 0) ht hu hd hi hz s1 (by omega) hb1 hn (by omega) (os := #[]) v2 (fun w1 _ => rfl)
                      refine OpOK.of_pair h ?_
                      have := grow_ok hW (os := #[]) (vs := vs) (cells := new) (sz := i.size) (by simpa using v1) q1 (by rw [Array.size_append, Array.size_empty, Nat.zero_add, Nat.zero_add, ← hvl, s2]) (by rw [zeroCells_size, hzs]) q2
                      rwa [Nat.zero_add] at this
                · rename_i cs l cap
                  have hp' := hp
                  rw [VR] at hp
                  obtain ⟨ao, c, rfl, h3, h4, h5⟩ := hp
                  cases hn0 : Nat.beq n 0 with
                  | true =>
                    rw [hn0] at h
                    simp only [cond_true, Option.some.injEq, Prod.mk.injEq] at h
                    obtain ⟨rfl, rfl⟩ := h
                    have hn0 := Nat.eq_of_beq_eq_true hn0
                    subst hn0
                    exact .same hW (run_append_none ht hu hd hi hs' h3) hp'
                  | false =>
                    rw [hn0] at h
                    simp only [cond_false] at h
                    cases hcl : (Nat.beq cs.length (l * i.size) && Nat.ble l 1048576) with
                    | false => rw [hcl] at h; cases h
                    | true =>
                      rw [hcl] at h
                      simp only [cond_true] at h
                      simp only [Bool.and_eq_true] at hcl
                      have hcl1 := Nat.eq_of_beq_eq_true hcl.1
                      have hl := Nat.le_of_ble_eq_true hcl.2
                      cases cap with
                      | none => cases h
                      | some c' =>
                        simp only at h
                        have := h4 c' rfl
                        subst this
                        cases hfit : Nat.ble (l + n) c with
                        | true => rw [hfit] at h; cases h
                        | false =>
                          rw [hfit] at h
                          simp only [cond_false, Option.some.injEq] at h
                          have hfit : ¬ l + n ≤ c := fun hle => (by rw [Nat.ble_eq_true_of_le hle] at hfit; cases hfit)
                          obtain ⟨os, o1, o2⟩ : ∃ os : Array Value, VRs w G μ cs os.toList ∧ ∀ w1 : World, w1.heap = w.heap → (Builtin.firstCells i.size l (.slice ao l c)).run P w1 = .ok os w1 := by
                            rcases h5 with rfl | ⟨b, off, rfl, _, hcs⟩
                            · refine ⟨#[], by simp [VRs], fun w1 _ => ?_⟩
                              simp only [List.length_nil] at hcl1
                              cases ao with
                              | none => rfl
                              | some a => simp [Builtin.firstCells, ← hcl1, loadCells, loadCellsFrom]
                            · have := (source_at (P := P) (μ := μ) (c := c) hcs.of_nomap hcl1).2.2 l (Nat.le_refl _)
                              rwa [List.take_of_length_le (by omega)] at this
                          have hol : cs.length = os.size := by simpa using o1.length
                          obtain ⟨c', q1, q2⟩ := run_append_new (w := w) (ty := ty) (ao := ao) ht hu hd hi hz s1 hfit hb1 hn hl v2 o2
                          refine OpOK.of_pair h ?_
                          exact grow_ok hW (os := os) (vs := vs) (by rw [Array.toList_append]; exact o1.append v1) q1 (by rw [Array.size_append, Nat.add_mul, ← hol, ← hvl, s2, hcl1]) (by rw [zeroCells_size, hzs]) q2
                · rename_i r off l cap sz
                  have hp' := hp
                  rw [VR] at hp
                  obtain ⟨b, c, hb, rfl, h3, h4, hroom⟩ := hp
                  cases hn0 : Nat.beq n 0 with
                  | true =>
                    rw [hn0] at h
                    simp only [cond_true, Option.some.injEq, Prod.mk.injEq] at h
                    obtain ⟨rfl, rfl⟩ := h
                    have hn0 := Nat.eq_of_beq_eq_true hn0
                    subst hn0
                    exact .same hW (run_append_none ht hu hd hi hs' h3) hp'
                  | false =>
                    rw [hn0] at h
                    simp only [cond_false] at h
                    split at h
                    · rename_i k hk
                      cases hcl : (Nat.beq sz i.size && Nat.ble (off + l * sz) k.cells.length && Nat.ble l 1048576 && Nat.beq k.ty e) with
                      | false => rw [hcl] at h; cases h
                      | true =>
                        rw [hcl] at h
                        simp only [cond_true] at h
                        simp only [Bool.and_eq_true] at hcl
                        obtain ⟨⟨⟨k1, k2⟩, k3⟩, k4⟩ := hcl
                        have k1 := Nat.eq_of_beq_eq_true k1
                        have k2 := Nat.le_of_ble_eq_true k2
                        have k3 := Nat.le_of_ble_eq_true k3
                        have k4 := Nat.eq_of_beq_eq_true k4
                        subst k1
                        obtain ⟨cs, g2, g3, g4, g5, g6⟩ := hW.blk r k b (hget_some hk) hb
                        split at h
                        · rename_i c'
                          have := h4 c' rfl
                          subst this
                          cases hfit : Nat.ble (l + n) c with
                          | true =>
                            rw [hfit] at h
                            simp only [cond_true] at h
                            split at h
                            · rename_i H2 hw2
                              simp only [Option.some.injEq, Prod.mk.injEq] at h
                              obtain ⟨rfl, rfl⟩ := h
                              obtain ⟨w', a1, a2, a3⟩ := xWrite_sound (P := P) hW hw2 hb v1
                              have hrun := run_append_fit (w := w) (w' := w') (ty := ty) (ao := some ⟨b, off, none⟩) ht hu hd hi s1 (Nat.le_of_ble_eq_true hfit) (v2 w rfl) (by simp only [Addr.add_lit]; exact a1)
                              refine .put hrun a2 a3 ?_
                              rw [VR]
                              exact ⟨b, c, hb, rfl, Nat.le_of_ble_eq_true hfit, fun k hk => (by cases hk; rfl), hroom⟩
                            · cases h
                          | false =>
                            rw [hfit] at h
                            simp only [cond_false, Option.some.injEq] at h
                            have hfit : ¬ l + n ≤ c := fun hle => (by rw [Nat.ble_eq_true_of_le hle] at hfit; cases hfit)
                            have hsub := g3.sub off (l * i.size)
                            rw [Nat.zero_add] at hsub
                            obtain ⟨os, o1, o2⟩ := (source_at (P := P) (c := c) hsub (by simp; omega) : Source P w G μ i.size (.slice (some ⟨b, off, none⟩) l c) _ l).2.2 l (Nat.le_refl _)
                            rw [List.take_of_length_le (by simp; omega)] at o1
                            have hol : l * i.size = os.size := by have := o1.length; rw [List.length_take, List.length_drop, Nat.min_eq_left (by omega)] at this; simpa using this
                            obtain ⟨c', q1, q2⟩ := run_append_new (w := w) (ty := ty) (ao := some ⟨b, off, none⟩) ht hu hd hi hz s1 hfit hb1 hn k3 v2 o2
                            refine OpOK.of_pair h ?_
                            exact grow_ok hW (os := os) (vs := vs) (by rw [Array.toList_append]; exact o1.append v1) q1 (by rw [Array.size_append, Nat.add_mul, ← hol, ← hvl, s2]) (by rw [zeroCells_size, hzs]) q2
                        · cases hoff : (Nat.beq off 0 && !k.frozen && k.grown) with
                          | false => rw [hoff] at h; cases h
                          | true =>
                            rw [hoff] at h
                            simp only [cond_true, Option.some.injEq] at h
                            simp only [Bool.and_eq_true, Bool.not_eq_true'] at hoff
                            have o1 := Nat.eq_of_beq_eq_true hoff.1.1
                            subst o1
                            have hmore : xMore k.cells (l * i.size) new = k.cells.take (l * i.size) ++ new := by
                              unfold xMore
                              cases hm : Nat.beq k.cells.length (l * i.size) with
                              | true => rw [cond_true, List.take_of_length_le (Nat.le_of_eq (Nat.eq_of_beq_eq_true hm))]
                              | false => rfl
                            rw [hmore] at h
                            refine OpOK.of_pair h ?_
                            exact append_onto hW ht hu hd hi hz hb1 hzs hs' hn k3 hc.2 hk hoff.1.2 hoff.2 k4 (by omega) hb h3 hroom
                    · cases h
                · cases h
            · cases h
        · cases h
      · cases h
    · cases h
  · cases h

theorem xCopy_sound (hW : WInv n0 G μ H w) {tys : Array TypeId} {ty : TypeId} {p q v : PV} {H' : Heap} {s x : Value} (hp : VR w G μ p s) (hq : VR w G μ q x) (h : xCopy P H tys p q = some (v, H')) : OpOK P n0 w G μ (Builtin.copy_ tys ty #[s, x]) v H' := by
  unfold xCopy at h
  split at h
  · rename_i t ts htys
    have q0 : tys[0]? = some t := by rw [← Array.getElem?_toList, htys]; rfl
    split at h
    · rename_i e hu
      split at h
      · rename_i sz hs
        split at h
        · rename_i new n hsrc
          obtain ⟨s1, s2, s3⟩ := xSource_sound (P := P) hW hq hsrc
          split at h
          · rename_i r off l cap sz'
            split at h
            · rename_i H2 hw2
              simp only [Option.some.injEq, Prod.mk.injEq] at h
              obtain ⟨rfl, rfl⟩ := h
              rw [VR] at hp
              obtain ⟨b, c, hb, rfl, h3, h4, hroom⟩ := hp
              obtain ⟨vs, v1, v2⟩ := s3 (min n l) (Nat.min_le_left _ _)
              obtain ⟨w', a1, a2, a3⟩ := xWrite_sound (P := P) hW hw2 hb v1
              have hrun : (Builtin.copy_ tys ty #[.slice (some ⟨b, off, none⟩) l c, x]).run P w = .ok (goInt ((min n l : Nat) : Int)) w' := by
                have q2 : (#[Value.slice (some ⟨b, off, none⟩) l c, x] : Array Value)[0]? = some (Value.slice (some ⟨b, off, none⟩) l c) := rfl
                have q3 : (#[Value.slice (some ⟨b, off, none⟩) l c, x] : Array Value)[1]? = some x := rfl
                unfold Builtin.copy_
                have hm : Nat.min n l = min n l := rfl
                simp only [q0, q2, q3, Sem.run_bind, run_underlying hu, Result.andThen_ok, s1, run_sizeOf hs, hm, v2 w rfl, a1, Sem.run_pure]
              refine .put hrun a2 a3 ?_
              rw [VR]
            · cases h
          · cases h
        · cases h
      · cases h
    · cases h
  · cases h
theorem run_zeroT {e : TypeId} {z : Value} (hz : zeroT P e = some z) (w : World) : (zeroValue e).run P w = .ok z w := by
  unfold zeroT at hz
  split at hz
  · rename_i i hi
    simp [zeroValue, run_info hi, hz]
  · cases hz
theorem xClear_sound (hW : WInv n0 G μ H w) {tys : Array TypeId} {ty : TypeId} {p v : PV} {H' : Heap} {s : Value} (hp : VR w G μ p s) (h : xClear P H tys p = some (v, H')) : OpOK P n0 w G μ (Builtin.clear_ tys ty #[s]) v H' := by
  unfold xClear at h
  split at h
  · rename_i t ts htys
    have q0 : tys[0]? = some t := by rw [← Array.getElem?_toList, htys]; rfl
    split at h
    · rename_i e hu
      split at h
      · rename_i z hz
        split at h
        · rename_i r off l cap sz
          rw [VR] at hp
          obtain ⟨b, c, hb, rfl, h3, h4, hroom⟩ := hp
          have q2 : (#[Value.slice (some ⟨b, off, none⟩) l c] : Array Value)[0]? = some (Value.slice (some ⟨b, off, none⟩) l c) := rfl
          have ht : VR w G μ (.tuple []) (.tuple #[]) := by rw [VR]; exact ⟨#[], rfl, by rw [VRs]⟩
          cases hl : Nat.beq l 0 with
          | true =>
            rw [hl] at h
            simp only [cond_true, Option.some.injEq, Prod.mk.injEq] at h
            obtain ⟨rfl, rfl⟩ := h
            have hl0 := Nat.eq_of_beq_eq_true hl
            subst hl0
            refine .same hW ?_ ht
            unfold Builtin.clear_
            simp only [q0, q2, Sem.run_bind, run_underlying hu, Result.andThen_ok, Sem.run_pure]
          | false =>
            rw [hl] at h
            simp only [cond_false] at h
            have hl0 : l ≠ 0 := fun e => by subst e; cases hl
            split at h
            · rename_i H2 hw2
              simp only [Option.some.injEq, Prod.mk.injEq] at h
              obtain ⟨rfl, rfl⟩ := h
              obtain ⟨w', a1, a2, a3⟩ := xWrite_sound (P := P) hW hw2 hb (lits_vr _)
              refine .put (v' := .tuple #[]) (w' := w') ?_ a2 a3 (by rw [VR]; exact ⟨#[], rfl, by rw [VRs]⟩)
              unfold Builtin.clear_
              obtain ⟨l', rfl⟩ : ∃ l', l = l' + 1 := ⟨l - 1, by omega⟩
              simp only [q0, q2, Sem.run_bind, run_underlying hu, Result.andThen_ok, run_zeroT hz, a1, Sem.run_pure]
            · cases h
        · cases h
      · cases h
    · cases h
  · cases h
end
end Go.PM
