/- The plain machine, typed data: append, literals, make. No program. -/
import Derived.Test.YtjgapmocogjkmaaGreatDoorPmV
set_option linter.unusedSimpArgs false
set_option linter.unusedVariables false
namespace Go.PM
open Go Go.RowKit

section
variable {P : Program} {n0 : Nat → Prop} {w : World} {G : Nat → Prop} {μ : Mp} {H : Heap}

theorem elemTy_some {t e : TypeId} {ty : Ty} (h : elemTy P t = some (e, ty)) : P.underlying t = some (.slice e) ∧ sizeT P e = some ty.size := by
  unfold elemTy at h
  cases hm : memTy noTy t with
  | true => rw [hm] at h; cases h
  | false =>
  rw [hm, cond_false] at h
  split at h
  · rename_i e' hu
    split at h
    · rename_i ty' n h1 h2
      cases hb : Nat.beq n ty'.size with
      | false => rw [hb] at h; cases h
      | true =>
        rw [hb] at h
        simp only [cond_true, Option.some.injEq, Prod.mk.injEq] at h
        obtain ⟨rfl, rfl⟩ := h
        exact ⟨hu, by rw [h2, Nat.eq_of_beq_eq_true hb]⟩
    · cases h
  · cases h
theorem sizeT_info {e : TypeId} {n : Nat} {i : TypeInfo} (h : sizeT P e = some n) (hi : P.info? e = some i) : i.size = n := by
  unfold sizeT at h
  rw [hi] at h
  simpa using h

/-- What is appended. -/
def TSource (P : Program) (w : World) (G : Nat → Prop) (μ : Mp) (ty : Ty) (v : Value) (new : List ty.den) : Prop :=
  (∀ w1 : World, (Builtin.lenOf v).run P w1 = .ok new.length w1) ∧ ∃ vs : Array Value, VRs w G μ (encAll ty new) vs.toList ∧ ∀ w1 : World, w1.heap = w.heap → (Builtin.firstCells ty.size new.length v).run P w1 = .ok vs w1
theorem tsource_of {ty : Ty} {new : List ty.den} {v : Value} {cs : List PV} (h : Source P w G μ ty.size v cs new.length) (hc : ∀ vs, VRs w G μ cs vs → VRs w G μ (encAll ty new) vs) : TSource P w G μ ty v new := by
  obtain ⟨h1, h2, h3⟩ := h
  obtain ⟨vs, h4, h5⟩ := h3 new.length (Nat.le_refl _)
  rw [List.take_of_length_le (by omega)] at h4
  exact ⟨h1, vs, hc _ h4, h5⟩
theorem source_vals {cs : List PV} {n sz : Nat} {cap : Option Nat} {v : Value} (h : VR w G μ (.vals cs n cap) v) (hl : cs.length = n * sz) : Source P w G μ sz v cs n := by
  rw [VR] at h
  obtain ⟨ao, c, rfl, _, _, h3⟩ := h
  rcases h3 with rfl | ⟨b, off, rfl, _, hc⟩
  · refine ⟨fun w1 => rfl, hl, fun m hm => ⟨#[], by simp [VRs], fun w1 _ => ?_⟩⟩
    have h0 : m * sz = 0 := by
      have := Nat.mul_le_mul_right sz hm
      simp only [List.length_nil] at hl
      omega
    cases ao with
    | none => rfl
    | some a => simp [Builtin.firstCells, h0, loadCells, loadCellsFrom]
  · exact source_at hc.of_nomap hl
theorem tSource_sound (hW : WInv n0 G μ H w) {ty : Ty} {p : PV} {new : List ty.den} {v : Value} (hp : VR w G μ p v) (h : tSource H ty p = some new) : TSource P w G μ ty v new := by
  unfold tSource at h
  split at h
  · rename_i u l cap e
    obtain ⟨rfl, rfl⟩ := castL_some h
    exact tsource_of (source_vals (tl_vals hp).of_nomap (encAll_length _ _)) (fun _ h => h)
  · rename_i r sz
    split at h
    · rename_i g hg
      obtain ⟨t, l⟩ := g
      obtain ⟨rfl, rfl⟩ := castL_some h
      obtain ⟨kb, hk1, hk2⟩ := hTag_some hg
      obtain ⟨ht1, ht2⟩ := hW.tags r kb _ (hget_some hk1) hk2
      rw [VR] at hp
      obtain ⟨m, h1, h2⟩ := hp
      rw [ht2] at h1
      cases h1
      rcases h2 with ⟨h2, ao, rfl⟩ | ⟨b, c', h3, rfl, h5, h6⟩
      · have hnil : l = [] := List.eq_nil_of_length_eq_zero h2
        subst hnil
        refine ⟨fun w1 => rfl, #[], by simp [encAll, VRs], fun w1 _ => ?_⟩
        cases ao with
        | none => rfl
        | some a => simp [Builtin.firstCells, loadCells, loadCellsFrom]
      · obtain ⟨c, g2, g3, _⟩ := hW.blk r kb b (hget_some hk1) h3
        simp only at ht1
        rw [ht1] at g3
        exact tsource_of (source_at g3 (encAll_length _ _)) (fun _ h => h)
    · cases h
  · rename_i n c
    cases hn : Nat.beq n 0 with
    | false => rw [hn] at h; cases h
    | true =>
      rw [hn] at h
      simp only [cond_true, Option.some.injEq] at h
      subst h
      have hn := Nat.eq_of_beq_eq_true hn
      subst hn
      rw [VR] at hp
      subst hp
      exact ⟨fun w1 => rfl, #[], by simp [encAll, VRs], fun w1 _ => rfl⟩
  · rename_i cs n cap
    have hlen : ∀ {m : Nat} {cs : List PV} {l : List ty.den}, decMany (dec ty) ty.size m cs = some l → l.length = m := by
      intro m
      induction m with
      | zero =>
        intro cs l h
        cases cs with
        | nil => simp only [decMany, Option.some.injEq] at h; subst h; rfl
        | cons _ _ => simp only [decMany] at h; cases h
      | succ m ih =>
        intro cs l h
        simp only [decMany] at h
        split at h
        · split at h
          · rename_i l' hl
            simp only [Option.some.injEq] at h
            subst h
            rw [List.length_cons, ih hl]
          · cases h
        · cases h
    have hn := hlen h
    subst hn
    have hvl := hp
    rw [VR] at hvl
    obtain ⟨ao, c, rfl, _, _, h3⟩ := hvl
    have hcs : ∀ vs, VRs w G μ cs vs → VRs w G μ (encAll ty new) vs := fun vs hv => VRs.of_nomap (decMany_vrs (g := enc ty) (fun cs x vs h hv => dec_vr ty μ cs x vs h hv) h hv).1
    rcases h3 with rfl | ⟨b, off, rfl, _, hc⟩
    · have h0 := hcs [] (by rw [VRs])
      have h1 := h0.length
      rw [encAll_length, List.length_nil] at h1
      have hz : new.length = 0 := by
        rcases Nat.eq_zero_or_pos new.length with h | h
        · exact h
        · have := Nat.mul_pos h ty.size_pos; omega
      rw [hz]
      refine ⟨fun w1 => by rw [hz]; rfl, #[], by simpa using h0, fun w1 _ => ?_⟩
      rw [hz]
      cases ao with
      | none => rfl
      | some a => simp [Builtin.firstCells, loadCells, loadCellsFrom]
    · obtain ⟨vs, h4, h5⟩ := hc.values
      have h6 := hcs vs h4.of_nomap
      have h7 := h6.length
      rw [encAll_length] at h7
      refine ⟨fun w1 => rfl, vs.toArray, by simpa using h6, fun w1 hw => ?_⟩
      have := run_loadCells (P := P) (w := w1) (b := b) (off := off) (vs := vs) fun j hj => by rw [cell_heap hw]; exact h5 j hj
      rw [← h7] at this
      exact this
  · rename_i r lo m sz
    split at h
    · rename_i g hg
      split at h
      · rename_i l hl
        obtain ⟨gt, gl⟩ := g
        obtain ⟨rfl, rfl⟩ := castL_some hl
        obtain ⟨hb0, h9⟩ := condSomeT h
        clear h
        have hb := Nat.eq_of_beq_eq_true hb0
        clear hb0
        subst hb
        simp only [Option.some.injEq] at h9
        subst h9
        obtain ⟨kb, hk1, hk2⟩ := hTag_some hg
        obtain ⟨ht1, ht2⟩ := hW.tags r kb _ (hget_some hk1) hk2
        rw [VR] at hp
        obtain ⟨b, c', mm, h3, rfl, h5, h6, h7, h8, _⟩ := hp
        rw [ht2] at h7
        cases h7
        simp only at ht1 h8
        obtain ⟨c, g2, g3, _⟩ := hW.blk r kb b (hget_some hk1) h3
        rw [ht1] at g3
        have g4 := g3.sub (lo * gt.size) (m * gt.size)
        rw [Nat.zero_add, encAll_drop, encAll_take] at g4
        have hlen : ((gl.drop lo).take m).length = m := by rw [List.length_take, List.length_drop]; omega
        have := tsource_of (P := P) (new := (gl.drop lo).take m) (source_at (c := c') g4 (encAll_length _ _)) (fun _ h => h)
        rwa [hlen] at this
      · cases h
    · cases h
  · cases h

/-- The new row of an append, typed. -/
theorem tgrow_new (hW : WInv n0 G μ H w) {e : TypeId} {ty : Ty} {l : List ty.den} {c' : Nat} {os vs rest : Array Value} (hv : VRs w G μ (encAll ty l) (os ++ vs).toList) (hneed : l.length ≤ c') (hr : rest.size = (c' - l.length) * ty.size) {s : Sem Value}
    (h : s.run P w = .ok (.slice (some ⟨w.heap.size, 0, none⟩) l.length c') (w.drew.alloc (.cells (os ++ vs ++ rest) e))) : OpOK P n0 w G μ s (.own H.length ty.size) (H ++ [some ⟨encAll ty l, e, true, false, some ⟨ty, l⟩⟩]) := by
  have hW' : WInv n0 G μ H w.drew := drew_winv hW (w.drawn + 1)
  have e1 : Ext n0 w G μ w.drew G μ := drew_ext (Nat.le_succ _)
  have hl : l.length * ty.size = (os ++ vs).size := by have := hv.length; rw [encAll_length] at this; simpa using this
  have hk := alloc_winv (on := some l.length) hW' (os ++ vs ++ rest) ⟨encAll ty l, e, true, false, some ⟨ty, l⟩⟩ (fun j p hp => by
    obtain ⟨u, g1, g2⟩ := hv.get hp
    refine ⟨u, ?_, VR.mono e1.toMono p u g2⟩
    have hlt : j < (os ++ vs).size := by
      have := (List.getElem?_eq_some_iff.1 g1).1
      simpa using this
    rw [Array.getElem?_append_left hlt, ← Array.getElem?_toList]
    exact g1) (fun h => by cases h) rfl (fun g hg => by cases hg; exact ⟨rfl, rfl⟩)
  refine ⟨_, _, G, _, h, e1.trans (alloc_ext hW' _ _ _), hk, ?_⟩
  rw [VR]
  refine ⟨l.length, upd_len _ _ _ _, .inr ⟨w.heap.size, c', upd_loc _ _ _ _, rfl, hneed, os ++ vs ++ rest, e, (0, 0), ?_, ?_⟩⟩
  · show (w.heap.push _)[w.heap.size]? = _
    simp
  · rw [Array.size_append, ← hl, hr, ← Nat.add_mul]
    exact Nat.mul_le_mul_right _ (by omega)
/-- Nothing was there and nothing is appended. -/
theorem tgrow_nil (hW : WInv n0 G μ H w) {e : TypeId} {ty : Ty} {l : List ty.den} (hl : l.length = 0) {s : Sem Value} {ao : Option Addr} (h : s.run P w = .ok (.slice ao 0 0) w) : OpOK P n0 w G μ s (.own H.length ty.size) (H ++ [some ⟨encAll ty l, e, true, false, some ⟨ty, l⟩⟩]) := by
  obtain ⟨e1, h1⟩ := unborn_winv (on := some l.length) hW ⟨encAll ty l, e, true, false, some ⟨ty, l⟩⟩ (fun g hg => by cases hg; exact ⟨rfl, rfl⟩)
  refine ⟨_, w, G, _, h, e1, h1, ?_⟩
  rw [VR]
  exact ⟨l.length, upd_len _ _ _ _, .inl ⟨hl, ao, rfl⟩⟩

section
variable {t u e : TypeId} {i : TypeInfo} {z : Value} {d : TypeDesc} (ht : P.underlying t = some (.slice e)) (hu : P.underlying u = some d) (hd : ∀ k, d ≠ .int k) (hi : P.info? e = some i) (hz : i.zero = some z)
include ht hu hd hi hz
/-- append to a slice without room. -/
theorem tappend_zero (hW : WInv n0 G μ H w) {ty : Ty} (hsz : i.size = ty.size) (hb1 : i.bytes ≤ 65536) (hzs : z.cells.size = i.size) {x : Value} {new : List ty.den} {tt : TypeId} {ao : Option Addr} (hs : TSource P w G μ ty x new) (hn : new.length ≤ 1048576) :
    OpOK P n0 w G μ (Builtin.append_ #[t, u] tt #[.slice ao 0 0, x]) (.own H.length ty.size) (H ++ [some ⟨encAll ty new, e, true, false, some ⟨ty, new⟩⟩]) := by
  obtain ⟨s1, vs, s2, s3⟩ := hs
  rw [← hsz] at s3
  by_cases h0 : new.length = 0
  · have hvs : vs = #[] := by
      have := s2.length
      rw [encAll_length, h0, Nat.zero_mul, Array.length_toList] at this
      exact Array.eq_empty_of_size_eq_zero this.symm
    subst hvs
    have := run_append_fit (w := w) (w' := w) (ty := tt) (ao := ao) (l := 0) (c := 0) ht hu hd hi s1 (by omega) (s3 w rfl) (by cases ao <;> simp [storeCells])
    rw [h0] at this
    exact tgrow_nil hW h0 this
  · obtain ⟨c', q1, q2⟩ := run_append_new (w := w) (ty := tt) (ao := ao) (l := 0) (c := 0) ht hu hd hi hz s1 (by omega) hb1 hn (by omega) (os := #[]) s3 (fun w1 _ => by
      cases ao with
      | none => rfl
      | some a => simp [Builtin.firstCells, loadCells, loadCellsFrom])
    rw [Nat.zero_add] at q1 q2
    exact tgrow_new hW (os := #[]) (vs := vs) (by simpa using s2) q1 (by rw [zeroCells_size, hzs, hsz]) q2
/-- append to a row of typed data with room behind it that is not known. -/
theorem tappend_own (hW : WInv n0 G μ H w) {ty : Ty} (hsz : i.size = ty.size) (hb1 : i.bytes ≤ 65536) (hzs : z.cells.size = i.size) {x : Value} {new l : List ty.den} {tt : TypeId} (hs : TSource P w G μ ty x new) (hn : new.length ≤ 1048576) (hl : l.length ≤ 1048576)
    (hok : ∀ vs : List Value, VRs w G μ (encAll ty new) vs → ∀ v ∈ vs, v.oneCell' = true)
    {r : Nat} {k : Blk} (hk : hget H r = some k) (hf : k.frozen = false) (hg : k.grown = true) (hte : k.ty = e) (htag : k.tag = some ⟨ty, l⟩) {b c : Nat} (hb : μ.loc r = some b) (hlc : l.length ≤ c) (hroom : Room w b (c * ty.size)) :
    OpOK P n0 w G μ (Builtin.append_ #[t, u] tt #[.slice (some ⟨b, 0, none⟩) l.length c, x]) (.own H.length ty.size) (H.set r none ++ [some ⟨encAll ty (l ++ new), e, true, false, some ⟨ty, l ++ new⟩⟩]) := by
  obtain ⟨cs, g2, g3, g4, g5, g6⟩ := hW.blk r k b (hget_some hk) hb
  obtain ⟨ht1, ht2⟩ := hW.tags r k _ (hget_some hk) htag
  simp only at ht1 ht2
  rw [ht1] at g3
  obtain ⟨s1, vs, s2, s3⟩ := hs
  rw [← hsz] at s3
  have hvl : new.length * ty.size = vs.size := by have := s2.length; rw [encAll_length] at this; simpa using this
  obtain ⟨i1, i2⟩ := vcells_take g2 g3
  have hel := encAll_length ty l
  rw [hel] at i1 i2
  by_cases hfit : l.length + new.length ≤ c
  · obtain ⟨c2, t2, fr2, r1, r2⟩ := hroom
    rw [g2] at r1; cases r1
    have hmul : (l.length + new.length) * ty.size ≤ c * ty.size := Nat.mul_le_mul_right _ hfit
    rw [Nat.add_mul] at hmul
    obtain ⟨w', h1, h2⟩ := run_storeCells (P := P) (off := l.length * ty.size) vs.toList 0 w cs (hok _ s2) g2 (by simp only [Array.length_toList]; omega)
    rw [Nat.add_zero] at h2
    have hszV : (spliceV cs (l.length * ty.size) vs.toList).size = cs.size := spliceV_size (by simp only [Array.length_toList]; omega)
    have e1 := turned_ext hW (hget_some hk) hf hb g2 h2 hszV
    have hW' := turned_winv (k' := ⟨encAll ty (l ++ new), e, true, false, none⟩) hW (hget_some hk) hf hb g2 (hte ▸ h2) hszV rfl (by
      refine vcells_of_take (n := l.length * ty.size + vs.size) h2.at_ (VRs.mono e1.toMono _ _ ?_)
      have h3 := i1.append s2
      rw [← encAll_append] at h3
      have e2 : (spliceV cs (l.length * ty.size) vs.toList).toList.take (l.length * ty.size + vs.size) = cs.toList.take (l.length * ty.size) ++ vs.toList := by
        simp only [spliceV]
        rw [List.take_append_of_le_length (by simp; omega), List.take_of_length_le (by simp; omega)]
      rw [e2]; exact h3) (fun h => by cases h) (fun g hg => by cases hg)
    have hrl : r < H.length := (List.getElem?_eq_some_iff.1 (hget_some hk)).1
    obtain ⟨e3, hW''⟩ := rename_winv (r := r) (on := some (l ++ new).length) hW' (List.getElem?_set_self hrl) hb (fun g hg => by cases hg)
    simp only [List.length_set, List.set_set] at e3 hW''
    have hW3 : WInv n0 G (upd μ H.length (some b) (some (l ++ new).length)) (H.set r none ++ [some ⟨encAll ty (l ++ new), e, true, false, some ⟨ty, l ++ new⟩⟩]) w' := by
      have hkill := kill_winv hW' r
      simp only [List.set_set] at hkill
      have hlen : (H.set r none).length = H.length := by simp
      have e4 : Ext n0 w' G μ w' G (upd μ (H.set r none).length (some b) (some (l ++ new).length)) := by rw [hlen]; exact e3
      have := push_winv hkill e4 ⟨encAll ty (l ++ new), e, true, false, some ⟨ty, l ++ new⟩⟩ (fun _ _ _ _ _ => rfl) (by
        rintro b' hb'
        cases hb'
        obtain ⟨c9, k2, k3, k4, k5, k6⟩ := hW'.blk r _ b (List.getElem?_set_self hrl) hb
        exact ⟨c9, k2, VCells.mono e4.toMono rfl 0 _ k3, fun h => (by cases h), fun h => (by cases h), k6⟩) (fun g hg => by cases hg; exact ⟨rfl, rfl⟩) (by
        intro s k' b' hs hf' hb' hh
        cases hh
        obtain ⟨hs1, hs2⟩ := set_none hs
        exact hs2 (hW.inj s r k' k b hs1 (hget_some hk) hf' hf hb' hb))
      rwa [hlen] at this
    have hrun := run_append_fit (w := w) (w' := w') (ty := tt) (ao := some ⟨b, 0, none⟩) ht hu hd hi s1 hfit (s3 w rfl) (by simp only [Addr.add_lit, Nat.zero_add, hsz]; exact h1)
    refine ⟨_, w', G, _, hrun, e1.trans e3, hW3, ?_⟩
    rw [VR]
    refine ⟨_, upd_len _ _ _ _, .inr ⟨b, c, upd_loc _ _ _ _, by rw [List.length_append], by rw [List.length_append]; exact hfit, _, _, _, h2.at_, by rw [hszV]; exact r2⟩⟩
  · obtain ⟨os, o1, o2⟩ := (source_at (P := P) (c := c) g3 (encAll_length _ _) : Source P w G μ ty.size (.slice (some ⟨b, 0, none⟩) l.length c) _ l.length).2.2 l.length (Nat.le_refl _)
    rw [List.take_of_length_le (by rw [hel]; exact Nat.le_refl _)] at o1
    rw [← hsz] at o2
    obtain ⟨c', q1, q2⟩ := run_append_new (w := w) (ty := tt) (ao := some ⟨b, 0, none⟩) ht hu hd hi hz s1 hfit hb1 hn hl s3 o2
    have hlen : (H.set r none).length = H.length := by simp
    have := tgrow_new (kill_winv hW r) (e := e) (ty := ty) (l := l ++ new) (c' := c') (os := os) (vs := vs) (rest := Builtin.zeroCells z.cells (c' - (l.length + new.length))) (by rw [encAll_append, Array.toList_append]; exact o1.append s2) (by rw [List.length_append]; exact q1) (by rw [zeroCells_size, hzs, hsz, List.length_append]) (s := Builtin.append_ #[t, u] tt #[.slice (some ⟨b, 0, none⟩) l.length c, x]) (by rw [List.length_append]; exact q2)
    rwa [hlen] at this
omit hz in
/-- append in place: behind a window of a longer row. -/
theorem tappend_win (hW : WInv n0 G μ H w) {ty : Ty} (hsz : i.size = ty.size) {x : Value} {new l : List ty.den} {tt : TypeId} (hs : TSource P w G μ ty x new)
    (hok : ∀ vs : List Value, VRs w G μ (encAll ty new) vs → ∀ v ∈ vs, v.oneCell' = true)
    {r lo n : Nat} {k : Blk} (hk : hget H r = some k) (hf : k.frozen = false) (hte : k.ty = e) (htag : k.tag = some ⟨ty, l⟩) {b c m : Nat} (hb : μ.loc r = some b) (hroom : Room w b ((lo + c) * ty.size)) (hm : μ.len r = some m) (hcap : m ≤ lo + c) (hfit : lo + n + new.length ≤ l.length) :
    OpOK P n0 w G μ (Builtin.append_ #[t, u] tt #[.slice (some ⟨b, lo * ty.size, none⟩) n c, x]) (.win r lo (n + new.length) ty.size) (H.set r (some { k with cells := encAll ty (spl l (lo + n) new), tag := some ⟨ty, spl l (lo + n) new⟩ })) := by
  obtain ⟨cs, g2, g3, g4, g5, g6⟩ := hW.blk r k b (hget_some hk) hb
  obtain ⟨ht1, ht2⟩ := hW.tags r k _ (hget_some hk) htag
  simp only at ht1 ht2
  rw [ht2] at hm
  cases hm
  rw [ht1] at g3
  obtain ⟨s1, vs, s2, s3⟩ := hs
  rw [← hsz] at s3
  have hvl : new.length * ty.size = vs.size := by have := s2.length; rw [encAll_length] at this; simpa using this
  obtain ⟨i1, i2⟩ := vcells_take g2 g3
  have hel := encAll_length ty l
  rw [hel] at i2
  have hmul : (lo + n + new.length) * ty.size ≤ l.length * ty.size := Nat.mul_le_mul_right _ hfit
  rw [Nat.add_mul] at hmul
  obtain ⟨w', h1, h2⟩ := run_storeCells (P := P) (off := (lo + n) * ty.size) vs.toList 0 w cs (hok _ s2) g2 (by simp only [Array.length_toList]; omega)
  rw [Nat.add_zero] at h2
  have hszV : (spliceV cs ((lo + n) * ty.size) vs.toList).size = cs.size := spliceV_size (by simp only [Array.length_toList]; omega)
  have e1 := turned_ext hW (hget_some hk) hf hb g2 h2 hszV
  have hlen : (spl l (lo + n) new).length = l.length := by
    simp only [spl, List.length_append, List.length_take, List.length_drop]; omega
  have hW' : WInv n0 G μ (H.set r (some { k with cells := encAll ty (spl l (lo + n) new), tag := some ⟨ty, spl l (lo + n) new⟩ })) w' := by
    refine turned_winv (k' := { k with cells := encAll ty (spl l (lo + n) new), tag := some ⟨ty, spl l (lo + n) new⟩ }) hW (hget_some hk) hf hb g2 h2 hszV hf ?_ ?_ ?_
    · refine vcells_of_take (n := l.length * ty.size) h2.at_ (VRs.mono e1.toMono _ _ ?_)
      have hspl : (spliceV cs ((lo + n) * ty.size) vs.toList).toList.take (l.length * ty.size) = (cs.toList.take (encAll ty l).length).take ((lo + n) * ty.size) ++ (vs.toList ++ (cs.toList.take (encAll ty l).length).drop ((lo + n) * ty.size + new.length * ty.size)) := by
        simp only [spliceV, hel]
        rw [List.take_append, List.take_append, List.take_take, List.take_of_length_le (l := vs.toList) (by simp only [List.length_take, Array.length_toList]; omega), List.drop_take, List.take_take, Nat.min_comm ((lo + n) * ty.size), List.append_assoc, Array.length_toList, hvl]
        congr 3
        simp only [List.length_append, List.length_take, Array.length_toList]; omega
      rw [hspl]
      unfold spl
      rw [encAll_append, encAll_append, ← encAll_take, ← encAll_drop]
      refine (i1.take _).append (s2.append ?_)
      have := i1.drop ((lo + n + new.length) * ty.size)
      rw [Nat.add_mul] at this ⊢
      exact this
    · intro hgr
      rw [hszV, g4 hgr, ht1, encAll_length, encAll_length, hlen]
    · intro g' hg'
      cases hg'
      exact ⟨rfl, by rw [hlen]; exact ht2⟩
  have hrun := run_append_fit (w := w) (w' := w') (ty := tt) (ao := some ⟨b, lo * ty.size, none⟩) (l := n) (c := c) ht hu hd hi s1 (by omega) (s3 w rfl) (by simp only [Addr.add_lit, hsz, ← Nat.add_mul]; exact h1)
  refine ⟨_, w', G, μ, hrun, e1, hW', ?_⟩
  rw [VR]
  obtain ⟨c2, t2, fr2, r1, r2⟩ := hroom
  rw [g2] at r1; cases r1
  exact ⟨b, c, l.length, hb, rfl, by omega, ⟨_, _, _, h2.at_, by rw [hszV]; exact r2⟩, ht2, by omega, hcap⟩
end
theorem enc_one : ∀ (t : Ty) (x : t.den) (vs : List Value), VRs w G μ (enc t x) vs → ∀ v ∈ vs, v.oneCell' = true
  | .int k, x, vs, h, v, hv => by obtain ⟨u, rfl, h1⟩ := vrs_one h; rw [VR] at h1; subst h1; rcases List.mem_singleton.1 hv with rfl; rfl
  | .bool, x, vs, h, v, hv => by obtain ⟨u, rfl, h1⟩ := vrs_one h; rw [VR] at h1; subst h1; rcases List.mem_singleton.1 hv with rfl; rfl
  | .str, x, vs, h, v, hv => by obtain ⟨u, rfl, h1⟩ := vrs_one h; rw [VR] at h1; subst h1; rcases List.mem_singleton.1 hv with rfl; rfl
  | .list t, x, vs, h, v, hv => by
    obtain ⟨u, rfl, h1⟩ := vrs_one h
    obtain ⟨_, _, rfl⟩ := tl_slice h1
    rcases List.mem_singleton.1 hv with rfl; rfl
  | .prod a b, (x, y), vs, h, v, hv => by
    simp only [enc] at h
    have h1 := h.take (enc a x).length
    have h2 := h.drop (enc a x).length
    rw [List.take_left] at h1
    rw [List.drop_left] at h2
    rw [← List.take_append_drop (enc a x).length vs] at hv
    rcases List.mem_append.1 hv with hv | hv
    · exact enc_one a x _ h1 v hv
    · exact enc_one b y _ h2 v hv
theorem encAll_one (t : Ty) : ∀ (l : List t.den) (vs : List Value), VRs w G μ (encAll t l) vs → ∀ v ∈ vs, v.oneCell' = true
  | [], vs, h, v, hv => by simp only [encAll, List.flatMap_nil] at h; rw [VRs] at h; subst h; cases hv
  | x :: l, vs, h, v, hv => by
    rw [encAll_cons] at h
    have h1 := h.take (enc t x).length
    have h2 := h.drop (enc t x).length
    rw [List.take_left] at h1
    rw [List.drop_left] at h2
    rw [← List.take_append_drop (enc t x).length vs] at hv
    rcases List.mem_append.1 hv with hv | hv
    · exact enc_one t x _ h1 v hv
    · exact encAll_one t l _ h2 v hv

theorem tGrow_some {H1 : Heap} {e : TypeId} {ty : Ty} {l : List ty.den} {cs0 cs : List Bool} {v : PV} {H' : Heap} {c : Nat} (h : tGrow H1 e ty l cs0 = some (cs, v, H', c)) : cs = cs0 ∧ v = .own H1.length ty.size ∧ H' = H1 ++ [some ⟨encAll ty l, e, true, false, some ⟨ty, l⟩⟩] ∧ c = 2 := by
  simp only [tGrow, Option.some.injEq, Prod.mk.injEq] at h
  obtain ⟨rfl, rfl, rfl, rfl⟩ := h
  exact ⟨rfl, rfl, rfl, rfl⟩
set_option maxHeartbeats 1000000 in
theorem tAppend_sound (hW : WInv n0 G μ H w) {tys : Array TypeId} {tt : TypeId} {p q v : PV} {s x : Value} {cs : List Bool} {H' : Heap} {c : Nat} (hp : VR w G μ p s) (hq : VR w G μ q x) (h : tAppend P H tys p q = some (cs, v, H', c)) (hcs : allB cs = true) :
    c = 2 ∧ OpOK P n0 w G μ (Builtin.append_ tys tt #[s, x]) v H' := by
  unfold tAppend at h
  split at h
  · rename_i t u htys
    have htys : tys = #[t, u] := by apply Array.ext'; simpa using htys
    subst htys
    split at h
    · cases h
    · cases h
    · rename_i d hnot hu
      have hd : ∀ k, d ≠ .int k := fun k hk => hnot k hk
      split at h
      · rename_i e ty hel
        obtain ⟨ht, hsz0⟩ := elemTy_some hel
        split at h
        · rename_i i hi
          have hsz := sizeT_info hsz0 hi
          split at h
          · rename_i z hz
            cases hb : (Nat.ble i.bytes 65536 && Nat.beq z.cells.size i.size) with
            | false => rw [hb] at h; cases h
            | true =>
              rw [hb] at h
              simp only [cond_true] at h
              simp only [Bool.and_eq_true] at hb
              have hb1 := Nat.le_of_ble_eq_true hb.1
              have hzs := Nat.eq_of_beq_eq_true hb.2
              split at h
              · rename_i new hnew
                have hs := tSource_sound (P := P) hW hq hnew
                split at h
                · rename_i m c0
                  cases hm : (Nat.beq m 0 && Nat.beq c0 0) with
                  | false => rw [hm] at h; cases h
                  | true =>
                    rw [hm] at h
                    simp only [cond_true] at h
                    simp only [Bool.and_eq_true] at hm
                    have e1 := Nat.eq_of_beq_eq_true hm.1
                    have e2 := Nat.eq_of_beq_eq_true hm.2
                    subst e1; subst e2
                    obtain ⟨rfl, rfl, rfl, rfl⟩ := tGrow_some h
                    rw [VR] at hp
                    subst hp
                    exact ⟨rfl, tappend_zero ht hu hd hi hz hW hsz hb1 hzs hs (Nat.le_of_ble_eq_true (allB_cons hcs).1)⟩
                · rename_i r sz
                  split at h
                  · rename_i k hk
                    split at h
                    · rename_i g hg
                      obtain ⟨gt, gl⟩ := g
                      split at h
                      · rename_i l hl
                        obtain ⟨rfl, rfl⟩ := castL_some hl
                        cases hm : (Nat.beq sz gt.size && !k.frozen && Nat.beq k.ty e && k.grown) with
                        | false => rw [hm] at h; cases h
                        | true =>
                          rw [hm] at h
                          simp only [cond_true] at h
                          simp only [Bool.and_eq_true, Bool.not_eq_true'] at hm
                          obtain ⟨⟨⟨m1, m2⟩, m3⟩, m4⟩ := hm
                          have m1 := Nat.eq_of_beq_eq_true m1
                          have m3 := Nat.eq_of_beq_eq_true m3
                          subst m1
                          obtain ⟨rfl, rfl, rfl, rfl⟩ := tGrow_some h
                          refine ⟨rfl, ?_⟩
                          obtain ⟨c1, hcs⟩ := allB_cons hcs
                          obtain ⟨c2, _⟩ := allB_cons hcs
                          obtain ⟨ht1, ht2⟩ := hW.tags r k _ (hget_some hk) hg
                          have hlenset : (H.set r none).length = H.length := by simp
                          rw [VR] at hp
                          obtain ⟨n, h1, h2⟩ := hp
                          simp only at ht2
                          rw [ht2] at h1
                          cases h1
                          rcases h2 with ⟨h2, ao, rfl⟩ | ⟨b, cc, h3, rfl, h5, h6⟩
                          · have hnil : gl = [] := List.eq_nil_of_length_eq_zero h2
                            subst hnil
                            have := tappend_zero (tt := tt) (ao := ao) (e := e) ht hu hd hi hz (kill_winv hW r) hsz hb1 hzs hs (Nat.le_of_ble_eq_true c1)
                            simpa using this
                          · rw [hlenset]
                            exact tappend_own ht hu hd hi hz hW hsz hb1 hzs hs (Nat.le_of_ble_eq_true c1) (Nat.le_of_ble_eq_true c2) (fun vs h => encAll_one _ _ vs h) hk m2 m4 m3 hg h3 h5 h6
                      · cases h
                    · cases h
                  · cases h
                · rename_i r lo n sz
                  split at h
                  · rename_i k hk
                    split at h
                    · rename_i g hg
                      obtain ⟨gt, gl⟩ := g
                      split at h
                      · rename_i l hl
                        obtain ⟨rfl, rfl⟩ := castL_some hl
                        cases hm : (Nat.beq sz gt.size && !k.frozen && Nat.beq k.ty e) with
                        | false => rw [hm] at h; cases h
                        | true =>
                          rw [hm] at h
                          simp only [cond_true, Option.some.injEq, Prod.mk.injEq] at h
                          obtain ⟨rfl, rfl, rfl, rfl⟩ := h
                          simp only [Bool.and_eq_true, Bool.not_eq_true'] at hm
                          obtain ⟨⟨m1, m2⟩, m3⟩ := hm
                          have m1 := Nat.eq_of_beq_eq_true m1
                          have m3 := Nat.eq_of_beq_eq_true m3
                          subst m1
                          refine ⟨rfl, ?_⟩
                          have c1 := Nat.le_of_ble_eq_true (allB_cons hcs).1
                          rw [VR] at hp
                          obtain ⟨b, cc, m, h3, rfl, h5, h6, h7, _, h8⟩ := hp
                          exact tappend_win ht hu hd hi hW hsz hs (fun vs h => encAll_one _ _ vs h) hk m2 m3 hg h3 h6 h7 h8 c1
                      · cases h
                    · cases h
                  · cases h
                · rename_i u' l0 c0 ee
                  split at h
                  · rename_i l hl
                    obtain ⟨rfl, rfl⟩ := castL_some hl
                    have hv := tl_vals hp
                    rw [VR] at hv
                    obtain ⟨ao, cc, rfl, h2, h3, h4⟩ := hv
                    have := h3 c0 rfl
                    subst this
                    cases hc0 : Nat.beq cc 0 with
                    | true =>
                      rw [hc0] at h
                      simp only [cond_true] at h
                      obtain ⟨rfl, rfl, rfl, rfl⟩ := tGrow_some h
                      have hc0 := Nat.eq_of_beq_eq_true hc0
                      subst hc0
                      have hl0 : l0.length = 0 := by omega
                      refine ⟨rfl, ?_⟩
                      rw [hl0]
                      exact tappend_zero ht hu hd hi hz hW hsz hb1 hzs hs (Nat.le_of_ble_eq_true (allB_cons hcs).1)
                    | false =>
                      rw [hc0] at h
                      simp only [cond_false] at h
                      obtain ⟨rfl, rfl, rfl, rfl⟩ := tGrow_some h
                      refine ⟨rfl, ?_⟩
                      obtain ⟨c1, hcs⟩ := allB_cons hcs
                      obtain ⟨c2, hcs⟩ := allB_cons hcs
                      obtain ⟨c3, _⟩ := allB_cons hcs
                      have c3 := nblt_iff c3
                      obtain ⟨s1, vs, s2, s3⟩ := hs
                      obtain ⟨os, o1, o2⟩ := (source_vals (P := P) (μ := μ) (tl_vals hp).of_nomap (encAll_length _ _)).2.2 l0.length (Nat.le_refl _)
                      rw [List.take_of_length_le (by rw [encAll_length]; exact Nat.le_refl _)] at o1
                      rw [← hsz] at s3 o2
                      obtain ⟨c', q1, q2⟩ := run_append_new (w := w) (ty := tt) (ao := ao) ht hu hd hi hz s1 (by omega) hb1 (Nat.le_of_ble_eq_true c1) (Nat.le_of_ble_eq_true c2) s3 o2
                      exact tgrow_new hW (e := e) (l := l0 ++ new) (c' := c') (os := os) (vs := vs) (by rw [encAll_append, Array.toList_append]; exact o1.append s2) (by rw [List.length_append]; exact q1) (by rw [zeroCells_size, hzs, hsz, List.length_append]) (by rw [List.length_append]; exact q2)
                  · cases h
                · cases h
              · cases h
          · cases h
        · cases h
      · cases h
  · cases h
end
end Go.PM
