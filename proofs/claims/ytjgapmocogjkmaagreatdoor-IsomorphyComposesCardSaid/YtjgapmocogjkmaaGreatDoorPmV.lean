/- The plain machine, typed data: addresses, loads, stores, lengths, slices. No program. -/
import Derived.Test.YtjgapmocogjkmaaGreatDoorPmU
set_option linter.unusedSimpArgs false
set_option linter.unusedVariables false
namespace Go.PM
open Go Go.RowKit

theorem allB_cons {b : Bool} {r : List Bool} (h : allB (b :: r) = true) : b = true ∧ allB r = true := by
  cases b with
  | true => exact ⟨rfl, h⟩
  | false => cases h
theorem nblt_iff {m n : Nat} (h : Nat.blt m n = true) : m < n := by rw [nblt_eq] at h; exact of_decide_eq_true h

section
variable {P : Program} {n0 : Nat → Prop} {w : World} {G : Nat → Prop} {μ : Mp} {H : Heap}

theorem hTag_some {r : Nat} {g : Tg} (h : hTag H r = some g) : ∃ k, hget H r = some k ∧ k.tag = some g := by
  unfold hTag at h
  split at h
  · rename_i k hk; exact ⟨k, hk, h⟩
  · cases h

theorem condSomeT {α : Type} {b : Bool} {x : Option α} {y : α} (h : (bif b then x else none) = some y) : b = true ∧ x = some y := by
  cases b with
  | true => exact ⟨rfl, h⟩
  | false => cases h
theorem tIndexAddr_sound (hW : WInv n0 G μ H w) {t : TypeId} {p v : PV} {x : Value} {k : IntKind} {i : Int} {cs : List Bool} {H' : Heap} {c : Nat} (hp : VR w G μ p x) (h : tIndexAddr P H t p i = some (cs, v, H', c)) (hcs : allB cs = true) :
    H' = H ∧ ∃ v', (Instr.indexAt t x (.int k i)).run P w = .ok v' w ∧ VR w G μ v v' := by
  unfold tIndexAddr at h
  split at h
  · rename_i e hu
    split at h
    · rename_i n hs
      split at h
      · rename_i ty l cap ee
        cases hb : Nat.beq n ty.size with
        | false => rw [hb] at h; cases h
        | true =>
          rw [hb] at h
          simp only [cond_true, Option.some.injEq, Prod.mk.injEq] at h
          obtain ⟨rfl, rfl, rfl, rfl⟩ := h
          refine ⟨rfl, ?_⟩
          have hb := Nat.eq_of_beq_eq_true hb
          subst hb
          have hi := idxOk_iff (allB_cons hcs).1
          have hv := tl_vals hp
          rw [VR] at hv
          obtain ⟨ao, c', rfl, h2, -, h3⟩ := hv
          have hlt : i.toNat < l.length := by omega
          rcases h3 with h3 | ⟨b, off, rfl, hg, hc⟩
          · have := encAll_length ty l
            rw [h3, List.length_nil] at this
            have hp := ty.size_pos
            have : 0 < l.length * ty.size := Nat.mul_pos (by omega) hp
            omega
          · refine ⟨.pointer (some ⟨b, off + i.toNat * ty.size, none⟩), ?_, ?_⟩
            · simp [Instr.indexAt, asIntOf, run_underlying hu, hi.1, hi.2, run_sizeOf hs, Addr.add_lit]
            · unfold tpOf
              rw [VR]
              refine ⟨?_, rfl, hlt⟩
              rw [VR]
              exact ⟨b, _, rfl, hg, by rw [Nat.add_zero]; exact hc.drop _⟩
      · rename_i r sz
        split at h
        · rename_i g hg
          cases hb : (Nat.beq n sz && Nat.beq sz g.t.size) with
          | false => rw [hb] at h; cases h
          | true =>
            rw [hb] at h
            simp only [cond_true, Option.some.injEq, Prod.mk.injEq] at h
            obtain ⟨rfl, rfl, rfl, rfl⟩ := h
            refine ⟨rfl, ?_⟩
            simp only [Bool.and_eq_true] at hb
            have hb1 := Nat.eq_of_beq_eq_true hb.1
            subst hb1
            have hi := idxOk_iff (allB_cons hcs).1
            obtain ⟨kb, hk1, hk2⟩ := hTag_some hg
            obtain ⟨ht1, ht2⟩ := hW.tags r kb g (hget_some hk1) hk2
            rw [VR] at hp
            obtain ⟨m, h1, h2⟩ := hp
            rw [ht2] at h1
            cases h1
            rcases h2 with ⟨h2, _⟩ | ⟨b, c', h3, rfl, h5, h6⟩
            · omega
            · refine ⟨.pointer (some ⟨b, i.toNat * n, none⟩), ?_, ?_⟩
              · simp [Instr.indexAt, asIntOf, run_underlying hu, hi.1, hi.2, run_sizeOf hs, Addr.add_lit]
              · rw [VR]
                exact ⟨b, h3, by simp⟩
        · cases h
      · rename_i r lo m sz
        obtain ⟨hb, h⟩ := condSomeT h
        simp only [Option.some.injEq, Prod.mk.injEq] at h
        obtain ⟨rfl, rfl, rfl, rfl⟩ := h
        refine ⟨rfl, ?_⟩
        have hb1 := Nat.eq_of_beq_eq_true hb
        subst hb1
        have hi := idxOk_iff (allB_cons hcs).1
        rw [VR] at hp
        obtain ⟨b, c', _, h3, rfl, h5, h6, _⟩ := hp
        refine ⟨.pointer (some ⟨b, lo * n + i.toNat * n, none⟩), ?_, ?_⟩
        · simp [Instr.indexAt, asIntOf, run_underlying hu, hi.1, hi.2, run_sizeOf hs, Addr.add_lit]
        · rw [VR]
          exact ⟨b, h3, by rw [Nat.add_mul, Nat.add_zero]⟩
      · cases h
    · cases h
  · rename_i n e hu
    split at h
    · rename_i sz hs
      split at h
      · rename_i ty l j off ee
        simp only [Option.some.injEq, Prod.mk.injEq] at h
        obtain ⟨rfl, rfl, rfl, rfl⟩ := h
        refine ⟨rfl, ?_⟩
        have hi := idxOk_iff (allB_cons hcs).1
        rw [VR] at hp
        obtain ⟨h1, rfl, h3⟩ := hp
        rw [VR] at h1
        obtain ⟨b, o, rfl, hg, hc⟩ := h1
        refine ⟨.pointer (some ⟨b, o + i.toNat * sz, none⟩), ?_, ?_⟩
        · simp [Instr.indexAt, asIntOf, run_underlying hu, hi.1, hi.2, run_sizeOf hs, Addr.add_lit, Instr.sureAddr]
        · unfold tpOf
          rw [VR]
          refine ⟨?_, rfl, h3⟩
          rw [VR]
          refine ⟨b, _, rfl, hg, ?_⟩
          have := hc.drop (i.toNat * sz)
          rwa [List.drop_drop, Nat.add_assoc] at this
      · cases h
    · cases h
  · cases h

theorem tFieldAddr_sound {s : TypeId} {f : Nat} {p v : PV} {x : Value} {cs : List Bool} {H' : Heap} {c : Nat} (hp : VR w G μ p x) (h : tFieldAddr P H s f p = some (cs, v, H', c)) : H' = H ∧ c = 0 ∧ ∃ v', (Instr.fieldAt s x f).run P w = .ok v' w ∧ VR w G μ v v' := by
  unfold tFieldAddr xField at h
  split at h
  · rename_i fd hfd
    split at hfd
    · rename_i fs hu
      split at h
      · rename_i n hs
        split at h
        · rename_i t l i off e
          simp only [Option.some.injEq, Prod.mk.injEq] at h
          obtain ⟨rfl, rfl, rfl, rfl⟩ := h
          refine ⟨rfl, rfl, ?_⟩
          rw [VR] at hp
          obtain ⟨h1, rfl, h3⟩ := hp
          rw [VR] at h1
          obtain ⟨b, o, rfl, hg, hc⟩ := h1
          refine ⟨.pointer (some ⟨b, o + fd.offset, none⟩), ?_, ?_⟩
          · simp [Instr.fieldAt, run_underlying hu, hfd, Instr.sureAddr, fieldPlace, run_sizeOf hs, Addr.add_lit]
          · unfold tpOf
            rw [VR]
            refine ⟨?_, rfl, h3⟩
            rw [VR]
            refine ⟨b, _, rfl, hg, ?_⟩
            have := hc.drop fd.offset
            rwa [List.drop_drop, Nat.add_assoc] at this
        · rename_i r i off sz
          simp only [Option.some.injEq, Prod.mk.injEq] at h
          obtain ⟨rfl, rfl, rfl, rfl⟩ := h
          refine ⟨rfl, rfl, ?_⟩
          rw [VR] at hp
          obtain ⟨b, h1, rfl⟩ := hp
          refine ⟨.pointer (some ⟨b, i * sz + off + fd.offset, none⟩), ?_, ?_⟩
          · simp [Instr.fieldAt, run_underlying hu, hfd, Instr.sureAddr, fieldPlace, run_sizeOf hs, Addr.add_lit]
          · rw [VR]
            exact ⟨b, h1, by rw [Nat.add_assoc]⟩
        · cases h
      · cases h
    · cases hfd
  · cases h

theorem tLoad_sound (hW : WInv n0 G μ H w) {T : TypeId} {p v : PV} {x : Value} {cs : List Bool} {H' : Heap} {c : Nat} (hp : VR w G μ p x) (h : tLoad P H T p = some (cs, v, H', c)) (hcs : allB cs = true) : H' = H ∧ ∃ v', (Instr.loadAt T x).run P w = .ok v' w ∧ VR w G μ v v' := by
  unfold tLoad at h
  split at h
  · rename_i t l i off e
    split at h
    · rename_i u hu
      simp only [Option.some.injEq, Prod.mk.injEq] at h
      obtain ⟨rfl, rfl, rfl, rfl⟩ := h
      refine ⟨rfl, ?_⟩
      rw [VR] at hp
      obtain ⟨h1, rfl, h3⟩ := hp
      rw [VR] at h1
      obtain ⟨b, o, rfl, hg, hc⟩ := h1
      obtain ⟨rest, hr⟩ := encAll_at t h3 off
      rw [hr] at hc
      obtain ⟨v', h4, h5⟩ := run_loadVar (P := P) hc (xPart_append rest hu)
      exact ⟨v', by simp [Instr.loadAt, Instr.sureAddr, h4], h5.of_nomap⟩
    · cases h
  · rename_i r i off sz
    split at h
    · rename_i g hg
      cases hb : Nat.beq sz g.t.size with
      | false => rw [hb] at h; cases h
      | true =>
        rw [hb] at h
        simp only [cond_true] at h
        split at h
        · rename_i u hu
          simp only [Option.some.injEq, Prod.mk.injEq] at h
          obtain ⟨rfl, rfl, rfl, rfl⟩ := h
          refine ⟨rfl, ?_⟩
          have hb := Nat.eq_of_beq_eq_true hb
          subst hb
          have hlt := nblt_iff (allB_cons hcs).1
          obtain ⟨kb, hk1, hk2⟩ := hTag_some hg
          obtain ⟨ht1, ht2⟩ := hW.tags r kb g (hget_some hk1) hk2
          rw [VR] at hp
          obtain ⟨b, h1, rfl⟩ := hp
          obtain ⟨c', g2, g3, _⟩ := hW.blk r kb b (hget_some hk1) h1
          rw [ht1] at g3
          obtain ⟨rest, hr⟩ := encAll_at g.t hlt off
          have hd := g3.drop (i * g.t.size + off)
          rw [Nat.zero_add, hr] at hd
          obtain ⟨v', h4, h5⟩ := run_loadVar (P := P) hd (xPart_append rest hu)
          exact ⟨v', by simp [Instr.loadAt, Instr.sureAddr, h4], h5⟩
        · cases h
    · cases h
  · cases h

theorem tLen_sound (hW : WInv n0 G μ H w) {tys : Array TypeId} {ty : TypeId} {p v : PV} {x : Value} {cs : List Bool} {H' : Heap} {c : Nat} (hp : VR w G μ p x) (h : tLen P H tys p = some (cs, v, H', c)) : H' = H ∧ ∃ v', (Builtin.len_ tys ty #[x]).run P w = .ok v' w ∧ VR w G μ v v' := by
  unfold tLen at h
  split at h
  · rename_i t ts ht
    have ht' : tys[0]? = some t := by rw [← Array.getElem?_toList, ht]; rfl
    split at h
    · rename_i e hu
      split at h
      · rename_i tt l cap ee
        simp only [Option.some.injEq, Prod.mk.injEq] at h
        obtain ⟨rfl, rfl, rfl, rfl⟩ := h
        obtain ⟨ao, c', rfl⟩ := tl_slice hp
        exact ⟨rfl, goInt l.length, by simp [Builtin.len_, ht', run_underlying hu], by rw [VR]⟩
      · rename_i r sz
        split at h
        · rename_i g hg
          simp only [Option.some.injEq, Prod.mk.injEq] at h
          obtain ⟨rfl, rfl, rfl, rfl⟩ := h
          obtain ⟨kb, hk1, hk2⟩ := hTag_some hg
          obtain ⟨ht1, ht2⟩ := hW.tags r kb g (hget_some hk1) hk2
          rw [VR] at hp
          obtain ⟨m, h1, h2⟩ := hp
          rw [ht2] at h1
          cases h1
          refine ⟨rfl, goInt g.l.length, ?_, by rw [VR]⟩
          rcases h2 with ⟨h2, ao, rfl⟩ | ⟨b, c', h3, rfl, h5, h6⟩
          · simp [Builtin.len_, ht', run_underlying hu, h2]
          · simp [Builtin.len_, ht', run_underlying hu]
        · cases h
      · rename_i r lo n sz
        simp only [Option.some.injEq, Prod.mk.injEq] at h
        obtain ⟨rfl, rfl, rfl, rfl⟩ := h
        rw [VR] at hp
        obtain ⟨b, c', _, h3, rfl, h5, h6, _⟩ := hp
        exact ⟨rfl, goInt n, by simp [Builtin.len_, ht', run_underlying hu], by rw [VR]⟩
      · cases h
    · cases h
  · cases h

theorem tBnd_bnd {x : Option PV} {d i : Nat} {b : Bool} (h : tBnd x d = some (b, i)) (hb : b = true) : bnd x d = some i := by
  unfold tBnd at h
  unfold bnd
  split at h
  · simp only [Option.some.injEq, Prod.mk.injEq] at h
    rw [h.2]
  · rename_i k j
    simp only [Option.some.injEq, Prod.mk.injEq] at h
    obtain ⟨h1, h2⟩ := h
    subst h1
    have : decide (0 ≤ j) = true := by
      rw [ltI_eq, Bool.not_eq_true', decide_eq_false_iff_not] at hb
      exact decide_eq_true (by omega)
    simp only [this, cond_true, h2]
  · cases h
theorem win_slice {F : Frm} {a : Act} {nt : Nat} (hF : FInv w G μ nt F a) {t e : TypeId} {r l0 m n i j : Nat} {x : Value} {lo hi : Option Operand} (hp : VR w G μ (.win r l0 m n) x) (hu : P.underlying t = some (.slice e)) (hs : sizeT P e = some n)
    (h1 : bnd (lo.map (ev F)) 0 = some i) (h2 : bnd (hi.map (ev F)) m = some j) (h3 : i ≤ j) (h4 : j ≤ m) (h5 : i < m) (w1 : World) : ∃ v', (Instr.sliceAt t x (lo.map a.eval) (hi.map a.eval) none).run P w1 = .ok v' w1 ∧ VR w G μ (.win r (l0 + i) (j - i) n) v' := by
  obtain ⟨mm, c0, hm1, hm2, hm3, hm4, hv⟩ : ∃ mm c0, μ.len r = some mm ∧ l0 + m ≤ mm ∧ mm ≤ l0 + c0 ∧ m ≤ c0 ∧ VR w G μ (.hs r (l0 * n) m (some c0) n) x := by
    rw [VR] at hp
    obtain ⟨b, c, mm, e1, e2, e3, e4, q1, q2, q3⟩ := hp
    refine ⟨mm, c, q1, q2, q3, e3, ?_⟩
    rw [VR]
    exact ⟨b, c, e1, e2, e3, fun k hk => (by cases hk; rfl), by rw [← Nat.add_mul]; exact e4⟩
  have hx : xSlice P t (.hs r (l0 * n) m (some c0) n) (lo.map (ev F)) (hi.map (ev F)) = some (.hs r (l0 * n + i * n) (j - i) (some (c0 - i)) n) := by
    have q1 : Nat.beq n n = true := by rw [nbeq_eq, decide_eq_true rfl]
    have q2 : Nat.beq c0 i = false := by rw [nbeq_eq, decide_eq_false (by omega)]
    have q3 : Nat.ble j c0 = true := Nat.ble_eq_true_of_le (by omega)
    simp only [xSlice, hu, hs, h1, h2, q1, q2, q3, Nat.ble_eq_true_of_le h3, Bool.and_self, cond_true, cond_false]
  obtain ⟨v', h6, h7⟩ := xSlice_sound hF hv hx w1
  refine ⟨v', h6, ?_⟩
  rw [VR] at h7; rw [VR]
  obtain ⟨b, c, e1, e2, e3, ec, e4⟩ := h7
  have ec := ec _ rfl
  refine ⟨b, c, mm, e1, by rw [e2, Nat.add_mul], e3, ?_, hm1, by omega, by omega⟩
  rw [Nat.add_mul, Nat.add_mul]
  exact e4
theorem tSlice_sound {F : Frm} {a : Act} {nt : Nat} (hW : WInv n0 G μ H w) (hF : FInv w G μ nt F a) {t : TypeId} {p v : PV} {x : Value} {lo hi : Option Operand} {cs : List Bool} {H' : Heap} {c : Nat} (hp : VR w G μ p x) (h : tSlice P H t p (lo.map (ev F)) (hi.map (ev F)) = some (cs, v, H', c)) (hcs : allB cs = true) (w1 : World) :
    H' = H ∧ ∃ v', (Instr.sliceAt t x (lo.map a.eval) (hi.map a.eval) none).run P w1 = .ok v' w1 ∧ VR w G μ v v' := by
  unfold tSlice at h
  split at h
  · rename_i e hu
    split at h
    · rename_i n hs
      split at h
      · rename_i ty l cap ee
        cases hb : Nat.beq n ty.size with
        | false => rw [hb] at h; cases h
        | true =>
          rw [hb] at h
          simp only [cond_true] at h
          have hb := Nat.eq_of_beq_eq_true hb
          subst hb
          split at h
          · rename_i b1 i b2 j h1 h2
            simp only [Option.some.injEq, Prod.mk.injEq] at h
            obtain ⟨rfl, rfl, rfl, rfl⟩ := h
            refine ⟨rfl, ?_⟩
            obtain ⟨c1, hcs⟩ := allB_cons hcs
            obtain ⟨c2, hcs⟩ := allB_cons hcs
            obtain ⟨c3, hcs⟩ := allB_cons hcs
            obtain ⟨c4, _⟩ := allB_cons hcs
            have hv : VR w G μ (.vals (encAll ty l) l.length cap) x := (tl_vals hp).of_nomap
            have hx : xSlice P t (.vals (encAll ty l) l.length cap) (lo.map (ev F)) (hi.map (ev F)) = some (.vals (((encAll ty l).drop (i * ty.size)).take ((j - i) * ty.size)) (j - i) none) := by
              simp only [xSlice, hu, hs, tBnd_bnd h1 c1, tBnd_bnd h2 c2, c3, c4, Bool.and_self, cond_true]
            obtain ⟨v', h3, h4⟩ := xSlice_sound hF hv hx w1
            refine ⟨v', h3, tlOf_vr ?_⟩
            have hle1 := Nat.le_of_ble_eq_true c3
            have hle2 := Nat.le_of_ble_eq_true c4
            have hlen : ((l.drop i).take (j - i)).length = j - i := by simp; omega
            rw [encAll_drop, encAll_take] at h4
            rw [hlen]
            exact noRef_vr _ _ rfl h4
          · cases h
      · rename_i r sz
        split at h
        · rename_i g hg
          obtain ⟨hb, h⟩ := condSomeT h
          have hb := Nat.eq_of_beq_eq_true hb
          subst hb
          split at h
          · rename_i b1 i b2 j h1 h2
            simp only [Option.some.injEq, Prod.mk.injEq] at h
            obtain ⟨rfl, rfl, rfl, rfl⟩ := h
            refine ⟨rfl, ?_⟩
            obtain ⟨c1, hcs⟩ := allB_cons hcs
            obtain ⟨c2, hcs⟩ := allB_cons hcs
            obtain ⟨c3, hcs⟩ := allB_cons hcs
            obtain ⟨c4, hcs⟩ := allB_cons hcs
            obtain ⟨c5, _⟩ := allB_cons hcs
            obtain ⟨kb, hk1, hk2⟩ := hTag_some hg
            obtain ⟨ht1, ht2⟩ := hW.tags r kb g (hget_some hk1) hk2
            have hlt := nblt_iff c5
            have hv : VR w G μ (.win r 0 g.l.length n) x := by
              rw [VR] at hp; rw [VR]
              obtain ⟨m, e1, e2⟩ := hp
              rw [ht2] at e1
              cases e1
              rcases e2 with ⟨e2, _⟩ | ⟨b, c', e3, rfl, e5, e6⟩
              · omega
              · exact ⟨b, c', _, e3, by rw [Nat.zero_mul], e5, by rw [Nat.zero_add]; exact e6, ht2, by rw [Nat.zero_add]; exact Nat.le_refl _, by rw [Nat.zero_add]; exact e5⟩
            have := win_slice hF hv hu hs (tBnd_bnd h1 c1) (tBnd_bnd h2 c2) (Nat.le_of_ble_eq_true c3) (Nat.le_of_ble_eq_true c4) hlt w1
            rw [Nat.zero_add] at this
            exact this
          · cases h
        · cases h
      · rename_i r l0 m sz
        obtain ⟨hb, h⟩ := condSomeT h
        have hb := Nat.eq_of_beq_eq_true hb
        subst hb
        split at h
        · rename_i b1 i b2 j h1 h2
          simp only [Option.some.injEq, Prod.mk.injEq] at h
          obtain ⟨rfl, rfl, rfl, rfl⟩ := h
          refine ⟨rfl, ?_⟩
          obtain ⟨c1, hcs⟩ := allB_cons hcs
          obtain ⟨c2, hcs⟩ := allB_cons hcs
          obtain ⟨c3, hcs⟩ := allB_cons hcs
          obtain ⟨c4, hcs⟩ := allB_cons hcs
          obtain ⟨c5, _⟩ := allB_cons hcs
          exact win_slice hF hp hu hs (tBnd_bnd h1 c1) (tBnd_bnd h2 c2) (Nat.le_of_ble_eq_true c3) (Nat.le_of_ble_eq_true c4) (nblt_iff c5) w1
        · cases h
      · cases h
    · cases h
  · cases h

def spliceL (c : List Value) (off : Nat) (vs : List Value) : List Value := c.take off ++ vs ++ c.drop (off + vs.length)
theorem spliceL_mid (a m b vs : List Value) {off : Nat} (h : off + vs.length ≤ m.length) : spliceL (a ++ m ++ b) (a.length + off) vs = a ++ spliceL m off vs ++ b := by
  unfold spliceL
  have e1 : (a ++ m ++ b).take (a.length + off) = a ++ m.take off := by
    rw [List.append_assoc, List.take_append, List.take_of_length_le (by omega), Nat.add_sub_cancel_left, List.take_append_of_le_length (by omega)]
  have e2 : (a ++ m ++ b).drop (a.length + off + vs.length) = m.drop (off + vs.length) ++ b := by
    rw [Nat.add_assoc, ← List.drop_drop, List.append_assoc, List.drop_left, List.drop_append_of_le_length h]
  rw [e1, e2]
  simp [List.append_assoc]

theorem tStore_sound (hW : WInv n0 G μ H w) {T : TypeId} {p v u : PV} {x y : Value} {cs : List Bool} {H' : Heap} {c : Nat} (hp : VR w G μ p x) (hv : VR w G μ v y) (h : tStore P H T p v = some (cs, u, H', c)) (hcs : allB cs = true) :
    u = .lit undef ∧ c = 2 ∧ ∃ w', (Instr.storeAt T x y).run P w = .ok () w' ∧ Ext n0 w G μ w' G μ ∧ WInv n0 G μ H' w' := by
  unfold tStore at h
  split at h
  · rename_i r i off sz
    split at h
    · rename_i k hk
      split at h
      · rename_i g hg
        split at h
        · rename_i new n hnew hn
          cases hb : (Nat.beq new.length n && Nat.beq sz g.t.size && !k.frozen && Nat.ble (off + n) sz && new.all okCell) with
          | false => rw [hb] at h; cases h
          | true =>
            rw [hb] at h
            simp only [cond_true] at h
            split at h
            · rename_i d hd
              simp only [Option.some.injEq, Prod.mk.injEq] at h
              obtain ⟨rfl, rfl, rfl, rfl⟩ := h
              refine ⟨rfl, rfl, ?_⟩
              simp only [Bool.and_eq_true, Bool.not_eq_true'] at hb
              obtain ⟨⟨⟨⟨b1, b2⟩, hf⟩, b3⟩, hok⟩ := hb
              have b1 := Nat.eq_of_beq_eq_true b1
              have b2 := Nat.eq_of_beq_eq_true b2
              have b3 := Nat.le_of_ble_eq_true b3
              subst b2
              have hlt := nblt_iff (allB_cons hcs).1
              obtain ⟨ht1, ht2⟩ := hW.tags r k g (hget_some hk) hg
              rw [VR] at hp
              obtain ⟨b, hloc, rfl⟩ := hp
              obtain ⟨C, g2, g3, g4, g5, g6⟩ := hW.blk r k b (hget_some hk) hloc
              rw [ht1] at g3
              obtain ⟨i1, i2⟩ := vcells_take g2 g3
              have hlen := encAll_length g.t g.l
              have hcv := cellsP_vrs hnew hv
              have hvl : new.length = y.cells.size := by simpa using hcv.length
              have hmul : (i + 1) * g.t.size ≤ g.l.length * g.t.size := Nat.mul_le_mul_right _ hlt
              rw [Nat.add_mul, Nat.one_mul] at hmul
              obtain ⟨w', h1, h2⟩ := run_storeCells (P := P) (off := i * g.t.size + off) y.cells.toList 0 w C (okCells_one hok hcv) g2 (by simp only [Array.length_toList]; omega)
              rw [Nat.add_zero] at h2
              have hsz : (spliceV C (i * g.t.size + off) y.cells.toList).size = C.size := spliceV_size (by simp only [Array.length_toList]; omega)
              have e1 := turned_ext hW (hget_some hk) hf hloc g2 h2 hsz
              refine ⟨w', ?_, e1, ?_⟩
              · have hl' : y.cells.size = n := by omega
                simp [Instr.storeAt, Instr.sureAddr, storeVar, run_sizeOf hn, hl', h1]
              · refine turned_winv (k' := { k with cells := encAll g.t (g.l.set i d), tag := some ⟨g.t, g.l.set i d⟩ }) hW (hget_some hk) hf hloc g2 h2 hsz hf ?_ ?_ ?_
                · -- the cells of the element are new
                  have hget : g.l.getD i g.t.dflt = g.l[i] := by simp [List.getD_eq_getElem?_getD, hlt]
                  rw [hget] at hd
                  have hsplit : g.l = g.l.take i ++ g.l[i] :: g.l.drop (i + 1) := by
                    rw [← List.drop_eq_getElem_cons hlt, List.take_append_drop]
                  have hset : g.l.set i d = g.l.take i ++ d :: g.l.drop (i + 1) := by
                    rw [List.set_eq_take_append_cons_drop, if_pos hlt]
                  have hA : (encAll g.t (g.l.take i)).length = i * g.t.size := by rw [encAll_length, List.length_take, Nat.min_eq_left (Nat.le_of_lt hlt)]
                  obtain ⟨C0, hC0⟩ : ∃ C0, C0 = C.toList.take (encAll g.t g.l).length := ⟨_, rfl⟩
                  rw [← hC0] at i1
                  have hsp : encAll g.t g.l = encAll g.t (g.l.take i) ++ (enc g.t g.l[i] ++ encAll g.t (g.l.drop (i + 1))) := by
                    conv => lhs; rw [hsplit]
                    rw [encAll_append, encAll_cons]
                  have j0 := i1
                  rw [hsp] at j0
                  have jA := j0.take (i * g.t.size)
                  rw [List.take_left' hA] at jA
                  have jR := j0.drop (i * g.t.size)
                  rw [List.drop_left' hA] at jR
                  have jM := jR.take g.t.size
                  rw [List.take_left' (enc_length _ _)] at jM
                  have jB := jR.drop g.t.size
                  rw [List.drop_left' (enc_length _ _)] at jB
                  have hC0len : C0.length = g.l.length * g.t.size := by rw [hC0, List.length_take, hlen, Array.length_toList]; omega
                  have hCeq : C0 = C0.take (i * g.t.size) ++ (C0.drop (i * g.t.size)).take g.t.size ++ (C0.drop (i * g.t.size)).drop g.t.size := by
                    rw [List.append_assoc, List.take_append_drop, List.take_append_drop]
                  have hta : (C0.take (i * g.t.size)).length = i * g.t.size := by rw [List.length_take]; omega
                  have htm : ((C0.drop (i * g.t.size)).take g.t.size).length = g.t.size := by rw [List.length_take, List.length_drop]; omega
                  have hspl : (spliceV C (i * g.t.size + off) y.cells.toList).toList.take (g.l.length * g.t.size) = spliceL C0 (i * g.t.size + off) y.cells.toList := by
                    simp only [spliceV, spliceL, hC0, hlen]
                    rw [List.take_append, List.take_append, List.take_take, List.take_of_length_le (l := y.cells.toList) (by simp; omega), List.drop_take, List.take_take, Nat.min_comm (i * g.t.size + off)]
                    congr 2
                    simp; omega
                  have hmid : spliceL C0 (i * g.t.size + off) y.cells.toList = C0.take (i * g.t.size) ++ spliceL ((C0.drop (i * g.t.size)).take g.t.size) off y.cells.toList ++ (C0.drop (i * g.t.size)).drop g.t.size := by
                    have := spliceL_mid (C0.take (i * g.t.size)) ((C0.drop (i * g.t.size)).take g.t.size) ((C0.drop (i * g.t.size)).drop g.t.size) y.cells.toList (off := off) (by rw [htm]; simp only [Array.length_toList]; omega)
                    rw [hta] at this
                    rw [← this]
                    congr 1
                  have hnewv : VRs w G μ (enc g.t d) (spliceL ((C0.drop (i * g.t.size)).take g.t.size) off y.cells.toList) := by
                    refine VRs.of_nomap (dec_vr g.t μ _ d _ hd ?_)
                    simp only [splice, spliceL, hcv.length]
                    exact ((jM.take off).append hcv).append (jM.drop _)
                  refine vcells_of_take (n := g.l.length * g.t.size) h2.at_ (VRs.mono e1.toMono _ _ ?_)
                  rw [hspl, hmid, hset, encAll_append, encAll_cons, ← List.append_assoc]
                  exact (jA.append hnewv).append jB
                · intro hgr
                  rw [hsz, g4 hgr, ht1, encAll_length, encAll_length, List.length_set]
                · intro g' hg'
                  cases hg'
                  exact ⟨rfl, by simp only [List.length_set]; exact ht2⟩
            · cases h
        · cases h
      · cases h
    · cases h
  · cases h
end
end Go.PM
