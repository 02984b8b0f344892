/- The plain machine: the heap tidied up at the head of a loop. No program. -/
import Derived.Test.YtjgapmocogjkmaaGreatDoorPmK
set_option linter.unusedSimpArgs false
set_option linter.unusedVariables false
namespace Go.PM
open Go Go.RowKit

/-- What is done at the head of a loop: the slots that are kept; those that shall be owned slices (the elements' type), or (none) pointers to blocks; how much of the heap stays ahead of these. -/
structure Plan where
  slots : List Nat
  own : List (Nat × TypeId × Option Ty)
  base : Nat

def below (m : Nat) : PV → Bool
  | .hptr r _ => Nat.blt r m
  | .hs r _ _ _ _ => Nat.blt r m
  | .own r _ => Nat.blt r m
  | .op r _ _ _ => Nat.blt r m
  | .win r _ _ _ => Nat.blt r m
  | .agg cs | .tuple cs => belows m cs
  | .clo _ f c => belows m f && belows m c
  | _ => true
where belows (m : Nat) : List PV → Bool
  | [] => true
  | p :: ps => below m p && belows m ps

/-- Windows on block s become windows on block n. -/
def renOne (s n : Nat) : PV → PV
  | .win r lo m sz => bif Nat.beq r s then .win n lo m sz else .win r lo m sz
  | p => p
def renW (s n : Nat) : Frm → Frm
  | [] => []
  | (t, p) :: r => (t, renOne s n p) :: renW s n r
def giveOwn : List (Nat × TypeId × Option Ty) → Frm → Heap → Option (Frm × Heap)
  | [], F, H => some (F, H)
  | (t, e, none) :: r, F, H => match fget F t with
    | .hptr s off => match hget H s with
      | some k => bif Nat.beq k.ty e && !k.tag.isSome then giveOwn r ((t, .hptr H.length off) :: F) (H.set s none ++ [some k]) else none
      | none => none
    | _ => none
  | (t, e, some ty) :: r, F, H => match fget F t with
    | .lit (.slice none m c) => bif Nat.beq m 0 && Nat.beq c 0 then giveOwn r ((t, .own H.length ty.size) :: F) (H ++ [some ⟨encAll ty [], e, true, false, some ⟨ty, []⟩⟩]) else none
    | .tl _ [] (some 0) _ => giveOwn r ((t, .own H.length ty.size) :: F) (H ++ [some ⟨encAll ty [], e, true, false, some ⟨ty, []⟩⟩])
    | .own s sz => match hget H s with
      | some k => match k.tag with
        | some g => match castL g.t ty g.l with
          | some l => bif Nat.beq sz ty.size && !k.frozen && Nat.beq k.ty e && k.grown then giveOwn r ((t, .own H.length sz) :: renW s H.length F) (H.set s none ++ [some ⟨encAll ty l, e, true, false, some ⟨ty, l⟩⟩]) else none
          | none => none
        | none => none
      | none => none
    | _ => none
def cutOne (m d : Nat) : PV → Option PV
  | .own r sz => bif Nat.blt r m then some (.own r sz) else bif Nat.ble (m + d) r then some (.own (r - d) sz) else none
  | .hptr r off => bif Nat.blt r m then some (.hptr r off) else bif Nat.ble (m + d) r then some (.hptr (r - d) off) else none
  | .win r lo n sz => bif Nat.blt r m then some (.win r lo n sz) else bif Nat.ble (m + d) r then some (.win (r - d) lo n sz) else none
  | p => bif below m p then some p else none
def cutFrm (m d : Nat) (F : Frm) : List Nat → Option Frm
  | [] => some []
  | t :: r => match cutOne m d (fget F t), cutFrm m d F r with
    | some p, some F' => some ((t, p) :: F')
    | _, _ => none
def preOk (m : Nat) : List (Option Blk) → Bool
  | [] => true
  | none :: r => preOk m r
  | some k :: r => (k.tag.isSome || below.belows m k.cells) && preOk m r
def tagsOk : List (Option Blk) → Bool
  | [] => true
  | none :: r => tagsOk r
  | some k :: r => (k.tag.isSome || noRef.noRefs k.cells) && tagsOk r
def tidy (pl : Plan) (F : Frm) (H : Heap) : Option (Frm × Heap) :=
  bif Nat.ble pl.base H.length then match giveOwn pl.own F H with
    | some (F1, H1) => bif preOk pl.base (H1.take pl.base) && tagsOk (H1.drop (pl.base + (H.length - pl.base))) then match cutFrm pl.base (H.length - pl.base) F1 pl.slots with
      | some F2 => some (F2, H1.take pl.base ++ H1.drop (pl.base + (H.length - pl.base)))
      | none => none
      else none
    | none => none
  else none

section
variable {P : Program} {n0 : Nat → Prop} {w wi : World} {G Gi : Nat → Prop} {μ μi μ' : Mp} {H : Heap} {F : Frm} {a : Act} {nt : Nat}

mutual
theorem below_vr {m : Nat} (h : ∀ r, r < m → μ'.loc r = μ.loc r ∧ μ'.len r = μ.len r) : ∀ (p : PV) (v : Value), below m p = true → VR w G μ p v → VR w G μ' p v
  | .lit u, v, _, hv => by rw [VR] at hv ⊢; exact hv
  | .vals .., v, _, hv => by rw [VR] at hv ⊢; exact hv
  | .iptr _, v, _, hv => by rw [VR] at hv ⊢; exact hv
  | .tl .., v, _, hv => by rw [VR] at hv ⊢; exact hv
  | .tp .., v, _, hv => by rw [VR] at hv ⊢; exact hv
  | .junk, v, _, hv => by rw [VR]; trivial
  | .hptr r off, v, hb, hv => by
    have := h r (nblt_iff (by simpa only [below] using hb))
    rw [VR] at hv ⊢; rw [this.1]; exact hv
  | .hs r off l c s, v, hb, hv => by
    have := h r (nblt_iff (by simpa only [below] using hb))
    rw [VR] at hv ⊢; rw [this.1]; exact hv
  | .own r s, v, hb, hv => by
    have := h r (nblt_iff (by simpa only [below] using hb))
    rw [VR] at hv ⊢; rw [this.1, this.2]; exact hv
  | .op r i off s, v, hb, hv => by
    have := h r (nblt_iff (by simpa only [below] using hb))
    rw [VR] at hv ⊢; rw [this.1]; exact hv
  | .win r lo n s, v, hb, hv => by
    have := h r (nblt_iff (by simpa only [below] using hb))
    rw [VR] at hv ⊢; rw [this.1, this.2]; exact hv
  | .agg cs, v, hb, hv => by
    rw [VR] at hv ⊢
    obtain ⟨vs, h1, h2⟩ := hv
    exact ⟨vs, h1, belows_vr h cs _ (by simpa only [below] using hb) h2⟩
  | .tuple cs, v, hb, hv => by
    rw [VR] at hv ⊢
    obtain ⟨vs, h1, h2⟩ := hv
    exact ⟨vs, h1, belows_vr h cs _ (by simpa only [below] using hb) h2⟩
  | .clo fn f c, v, hb, hv => by
    rw [VR] at hv ⊢
    simp only [below, Bool.and_eq_true] at hb
    obtain ⟨fs, cs, h1, h2, h3⟩ := hv
    exact ⟨fs, cs, h1, belows_vr h f _ hb.1 h2, belows_vr h c _ hb.2 h3⟩
theorem belows_vr {m : Nat} (h : ∀ r, r < m → μ'.loc r = μ.loc r ∧ μ'.len r = μ.len r) : ∀ (ps : List PV) (vs : List Value), below.belows m ps = true → VRs w G μ ps vs → VRs w G μ' ps vs
  | [], vs, _, hv => by rw [VRs] at hv ⊢; exact hv
  | p :: ps, vs, hb, hv => by
    rw [VRs] at hv ⊢
    simp only [below.belows, Bool.and_eq_true] at hb
    obtain ⟨x, xs, h1, h2, h3⟩ := hv
    exact ⟨x, xs, h1, below_vr h p x hb.1 h2, belows_vr h ps xs hb.2 h3⟩
end
theorem noRefs_cells {b off : Nat} {ps : List PV} (hn : noRef.noRefs ps = true) (h : VCells w G μ b off ps) : VCells w G μ' b off ps := by
  obtain ⟨vs, h1, h2⟩ := h.values
  exact VCells.of_values (VRs.of_nomap (noRefs_vrs ps vs hn h1)) h2
theorem belows_cells {m : Nat} (hm : ∀ r, r < m → μ'.loc r = μ.loc r ∧ μ'.len r = μ.len r) {b off : Nat} {ps : List PV} (hn : below.belows m ps = true) (h : VCells w G μ b off ps) : VCells w G μ' b off ps := by
  obtain ⟨vs, h1, h2⟩ := h.values
  exact VCells.of_values (belows_vr hm ps vs hn h1) h2

theorem tl_nil_vr {t : Ty} {e : PV} {v : Value} (h : VR w G μ (.tl t [] (some 0) e) v) : ∃ ao, v = .slice ao 0 0 := by
  rw [VR] at h
  obtain ⟨h1, rfl⟩ := h
  rw [VR] at h1
  obtain ⟨ao, c, rfl, _, h2, _⟩ := h1
  have := h2 0 rfl
  subst this
  exact ⟨ao, rfl⟩
theorem FInv.named (h : FInv w G μ nt F a) {t : Nat} {p : PV} (hv : VR w G μ p (a.tmps.getD t undef)) : FInv w G μ nt ((t, p) :: F) a :=
  ⟨h.size, fun s => by
    rw [fget_cons]
    by_cases hs : s = t
    · subst hs; rw [if_pos rfl]; exact hv
    · rw [if_neg hs]; exact h.slot s, h.defers⟩

theorem fget_renW (s n t : Nat) : ∀ F : Frm, fget (renW s n F) t = renOne s n (fget F t)
  | [] => rfl
  | (u, p) :: r => by
    simp only [renW]
    rw [fget_cons, fget_cons]
    by_cases h : t = u
    · rw [if_pos h, if_pos h]
    · rw [if_neg h, if_neg h]; exact fget_renW s n t r
theorem renOne_vr {s n : Nat} (e : Mono w G μ w G μ') (hl : μ'.loc n = μ.loc s) (hn : μ'.len n = μ.len s) {p : PV} {v : Value} (h : VR w G μ p v) : VR w G μ' (renOne s n p) v := by
  cases p with
  | win r lo m sz =>
    simp only [renOne]
    cases hb : Nat.beq r s with
    | true =>
      have hb := Nat.eq_of_beq_eq_true hb
      subst hb
      simp only [cond_true]
      rw [VR] at h; rw [VR]
      obtain ⟨b, c, m', h1, h2, h3, h4, h5, h6⟩ := h
      exact ⟨b, c, m', by rw [hl]; exact h1, h2, h3, h4, by rw [hn]; exact h5, h6⟩
    | false => exact VR.mono e _ _ h
  | _ => exact VR.mono e _ _ h
theorem FInv.renW (h : FInv w G μ nt F a) {s n : Nat} (e : Mono w G μ w G μ') (hl : μ'.loc n = μ.loc s) (hn : μ'.len n = μ.len s) : FInv w G μ' nt (PM.renW s n F) a :=
  ⟨h.size, fun t => by rw [fget_renW]; exact renOne_vr e hl hn (h.slot t), h.defers⟩
theorem giveOwn_sound : ∀ (l : List (Nat × TypeId × Option Ty)) (F : Frm) (H : Heap) (F' : Frm) (H' : Heap), giveOwn l F H = some (F', H') → I n0 wi Gi μi nt F H a w → I n0 wi Gi μi nt F' H' a w ∧ H.length ≤ H'.length ∧ ∀ t, fget F t = .junk → fget F' t = .junk
  | [], F, H, F', H', h, hI => by
    simp only [giveOwn, Option.some.injEq, Prod.mk.injEq] at h
    obtain ⟨rfl, rfl⟩ := h
    exact ⟨hI, Nat.le_refl _, fun _ h => h⟩
  | (t, e, none) :: l, F, H, F', H', h, hI => by
    simp only [giveOwn] at h
    obtain ⟨G, μ, e0, hW, hF⟩ := hI
    have hs := hF.slot t
    split at h
    · rename_i s off ht
      split at h
      · rename_i k hk
        obtain ⟨hb, h⟩ := condSome h
        simp only [Bool.and_eq_true, Bool.not_eq_true'] at hb
        rw [ht, VR] at hs
        obtain ⟨b, h1, h2⟩ := hs
        obtain ⟨e1, w1⟩ := rename_winv hW (hget_some hk) h1 (on := none) (fun g hg => by rw [hg] at hb; simp at hb)
        have f1 : FInv w G (upd μ H.length (some b) none) nt ((t, .hptr H.length off) :: F) a := by
          refine FInv.named (hF.mono e1.toMono) ?_
          rw [VR]
          exact ⟨b, upd_loc .., h2⟩
        obtain ⟨g1, g2, g3⟩ := giveOwn_sound l _ _ F' H' h ⟨G, _, e0.trans e1, w1, f1⟩
        refine ⟨g1, by simp only [List.length_append, List.length_set] at g2; omega, fun x hx => g3 x ?_⟩
        rw [fget_cons, if_neg, hx]
        rintro rfl
        rw [ht] at hx; cases hx
      · cases h
    · cases h
  | (t, e, some ty) :: l, F, H, F', H', h, hI => by
    simp only [giveOwn] at h
    obtain ⟨G, μ, e0, hW, hF⟩ := hI
    have hs := hF.slot t
    split at h
    · rename_i m c ht
      obtain ⟨hb, h⟩ := condSome h
      simp only [Bool.and_eq_true] at hb
      have h1 := Nat.eq_of_beq_eq_true hb.1
      have h2 := Nat.eq_of_beq_eq_true hb.2
      subst h1; subst h2
      rw [ht, VR] at hs
      obtain ⟨e1, w1⟩ := unborn_winv hW ⟨encAll ty [], e, true, false, some ⟨ty, []⟩⟩ (on := some 0) (fun g hg => by cases hg; exact ⟨rfl, rfl⟩)
      have f1 : FInv w G (upd μ H.length none (some 0)) nt ((t, .own H.length ty.size) :: F) a := by
        refine FInv.named (hF.mono e1.toMono) ?_
        rw [VR]
        exact ⟨0, upd_len .., .inl ⟨rfl, none, hs⟩⟩
      obtain ⟨g1, g2, g3⟩ := giveOwn_sound l _ _ F' H' h ⟨G, _, e0.trans e1, w1, f1⟩
      refine ⟨g1, by simp only [List.length_append] at g2; omega, fun s hx => g3 s ?_⟩
      rw [fget_cons, if_neg, hx]
      rintro rfl
      rw [ht] at hx; cases hx
    · rename_i t' e' ht
      rw [ht] at hs
      obtain ⟨ao, hs⟩ := tl_nil_vr hs
      obtain ⟨e1, w1⟩ := unborn_winv hW ⟨encAll ty [], e, true, false, some ⟨ty, []⟩⟩ (on := some 0) (fun g hg => by cases hg; exact ⟨rfl, rfl⟩)
      have f1 : FInv w G (upd μ H.length none (some 0)) nt ((t, .own H.length ty.size) :: F) a := by
        refine FInv.named (hF.mono e1.toMono) ?_
        rw [VR]
        exact ⟨0, upd_len .., .inl ⟨rfl, ao, hs⟩⟩
      obtain ⟨g1, g2, g3⟩ := giveOwn_sound l _ _ F' H' h ⟨G, _, e0.trans e1, w1, f1⟩
      refine ⟨g1, by simp only [List.length_append] at g2; omega, fun s hx => g3 s ?_⟩
      rw [fget_cons, if_neg, hx]
      rintro rfl
      rw [ht] at hx; cases hx
    · rename_i s sz ht
      split at h
      · rename_i k hk
        split at h
        · rename_i g hg
          split at h
          · rename_i l' hc
            obtain ⟨hb, h⟩ := condSome h
            simp only [Bool.and_eq_true, Bool.not_eq_true'] at hb
            obtain ⟨⟨⟨hb1, hb2⟩, hb3⟩, hb4⟩ := hb
            have hb1 := Nat.eq_of_beq_eq_true hb1
            have hb3 := Nat.eq_of_beq_eq_true hb3
            obtain ⟨ht1, ht2⟩ := hW.tags s k g (hget_some hk) hg
            obtain ⟨gt, gl⟩ := g
            obtain ⟨rfl, rfl⟩ := castL_some hc
            dsimp only at hc ht1 ht2 h hb1
            rw [ht, VR] at hs
            obtain ⟨n, h1, h2⟩ := hs
            rw [ht2] at h1
            cases h1
            have hkk : k = ⟨encAll gt gl, e, true, false, some ⟨gt, gl⟩⟩ := by
              obtain ⟨k1, k2, k3, k4, k5⟩ := k
              simp only at ht1 hb2 hb3 hb4 hg
              rw [ht1, hb2, hb3, hb4, hg]
            have junk : ∀ x, fget F x = .junk → fget ((t, .own H.length sz) :: renW s H.length F) x = .junk := fun x hx => by
              rw [fget_cons, if_neg, fget_renW, hx]; rfl
              rintro rfl
              rw [ht] at hx; cases hx
            have fin : ∀ (ob : Option Nat), μ.loc s = ob → Ext n0 w G μ w G (upd μ H.length ob (some gl.length)) → WInv n0 G (upd μ H.length ob (some gl.length)) (H.set s none ++ [some ⟨encAll gt gl, e, true, false, some ⟨gt, gl⟩⟩]) w →
                VR w G (upd μ H.length ob (some gl.length)) (.own H.length sz) (a.tmps.getD t undef) → I n0 wi Gi μi nt F' H' a w ∧ H.length ≤ H'.length ∧ ∀ t, fget F t = .junk → fget F' t = .junk := fun ob hob e1 w1 v1 => by
              obtain ⟨g1, g2, g3⟩ := giveOwn_sound l _ _ F' H' h ⟨G, _, e0.trans e1, w1, FInv.named (hF.renW e1.toMono (by rw [upd_loc, hob]) (by rw [upd_len, ht2])) v1⟩
              exact ⟨g1, by simp only [List.length_append, List.length_set] at g2; omega, fun x hx => g3 x (junk x hx)⟩
            cases hls : μ.loc s with
            | none =>
              rcases h2 with ⟨h2, ao, h3⟩ | ⟨b, c, h3, h4, h5, h6⟩
              · have hk0 := kill_winv hW s
                obtain ⟨e1, w1⟩ := unborn_winv hk0 ⟨encAll gt gl, e, true, false, some ⟨gt, gl⟩⟩ (on := some gl.length) (fun g hg => by cases hg; exact ⟨rfl, rfl⟩)
                rw [List.length_set] at e1 w1
                refine fin none hls e1 w1 ?_
                rw [VR]
                exact ⟨_, upd_len .., .inl ⟨h2, ao, h3⟩⟩
              · rw [hls] at h3; cases h3
            | some b =>
              rw [hkk] at hk
              obtain ⟨e1, w1⟩ := rename_winv hW (hget_some hk) hls (on := some gl.length) (fun g hg => by cases hg; exact ⟨rfl, rfl⟩)
              refine fin (some b) hls e1 w1 ?_
              rw [VR]
              refine ⟨_, upd_len .., ?_⟩
              rcases h2 with ⟨h2, ao, h3⟩ | ⟨b', c, h3, h4, h5, h6⟩
              · exact .inl ⟨h2, ao, h3⟩
              · rw [hls] at h3; cases h3
                exact .inr ⟨b, c, upd_loc .., h4, h5, h6⟩
          · cases h
        · cases h
      · cases h
    · cases h

theorem preOk_get {m : Nat} : ∀ {l : List (Option Blk)} {r : Nat} {k : Blk}, preOk m l = true → l[r]? = some (some k) → k.tag.isSome = true ∨ below.belows m k.cells = true
  | [], r, k, _, h => by simp at h
  | none :: l, 0, k, _, h => by simp at h
  | some k' :: l, 0, k, hp, h => by
    simp only [List.getElem?_cons_zero, Option.some.injEq] at h
    subst h
    simp only [preOk, Bool.and_eq_true, Bool.or_eq_true] at hp
    exact hp.1
  | none :: l, r + 1, k, hp, h => preOk_get (l := l) (r := r) (by simpa only [preOk] using hp) (by simpa using h)
  | some k' :: l, r + 1, k, hp, h => by
    simp only [preOk, Bool.and_eq_true] at hp
    exact preOk_get (l := l) (r := r) hp.2 (by simpa using h)
theorem tagsOk_get : ∀ {l : List (Option Blk)} {r : Nat} {k : Blk}, tagsOk l = true → l[r]? = some (some k) → k.tag.isSome = true ∨ noRef.noRefs k.cells = true
  | [], r, k, _, h => by simp at h
  | none :: l, 0, k, _, h => by simp at h
  | some k' :: l, 0, k, hp, h => by
    simp only [List.getElem?_cons_zero, Option.some.injEq] at h
    subst h
    simp only [tagsOk, Bool.and_eq_true, Bool.or_eq_true] at hp
    exact hp.1
  | none :: l, r + 1, k, hp, h => tagsOk_get (l := l) (r := r) (by simpa only [tagsOk] using hp) (by simpa using h)
  | some k' :: l, r + 1, k, hp, h => by
    simp only [tagsOk, Bool.and_eq_true] at hp
    exact tagsOk_get (l := l) (r := r) hp.2 (by simpa using h)

/-- The names behind the cut. -/
def cutMp (μ : Mp) (m d : Nat) : Mp := ⟨fun r => if r < m then μ.loc r else μ.loc (r + d), fun r => if r < m then μ.len r else μ.len (r + d)⟩
theorem cutMp_lt {m d r : Nat} (h : r < m) : (cutMp μ m d).loc r = μ.loc r ∧ (cutMp μ m d).len r = μ.len r := by simp [cutMp, h]
theorem cutMp_ge {m d r : Nat} (h : m + d ≤ r) : (cutMp μ m d).loc (r - d) = μ.loc r ∧ (cutMp μ m d).len (r - d) = μ.len r := by
  have h1 : ¬ r - d < m := by omega
  have h2 : r - d + d = r := by omega
  simp [cutMp, h1, h2]
theorem cut_winv (hW : WInv n0 G μ H w) {m d : Nat} (hm : m + d ≤ H.length) (h1 : preOk m (H.take m) = true) (h2 : tagsOk (H.drop (m + d)) = true) : WInv n0 G (cutMp μ m d) (H.take m ++ H.drop (m + d)) w := by
  have key : ∀ (r : Nat) (k : Blk), (H.take m ++ H.drop (m + d))[r]? = some (some k) → ∃ s, H[s]? = some (some k) ∧ (cutMp μ m d).loc r = μ.loc s ∧ (cutMp μ m d).len r = μ.len s ∧ (k.tag.isSome = true ∨ below.belows m k.cells = true ∨ noRef.noRefs k.cells = true) ∧ ((r < m ∧ s = r) ∨ (m ≤ r ∧ s = r + d)) := by
    intro r k hr
    rcases Nat.lt_or_ge r m with hl | hl
    · rw [List.getElem?_append_left (by simp; omega)] at hr
      have hp := preOk_get h1 hr
      rw [List.getElem?_take, if_pos hl] at hr
      exact ⟨r, hr, (cutMp_lt hl).1, (cutMp_lt hl).2, hp.elim .inl fun h => .inr (.inl h), .inl ⟨hl, rfl⟩⟩
    · rw [List.getElem?_append_right (by simp; omega)] at hr
      have hp := tagsOk_get h2 hr
      rw [List.getElem?_drop] at hr
      have e : m + d + (r - (H.take m).length) = r + d := by simp only [List.length_take]; omega
      rw [e] at hr
      have hn : ¬ r < m := by omega
      exact ⟨r + d, hr, by simp [cutMp, hn], by simp [cutMp, hn], hp.elim .inl fun h => .inr (.inr h), .inr ⟨hl, rfl⟩⟩
  refine ⟨?_, ?_, ?_, hW.lt, ?_, hW.base⟩
  · intro r k b hr hb
    obtain ⟨s, g1, g2, g3, g4, _⟩ := key r k hr
    rw [g2] at hb
    obtain ⟨c, a1, a2, a3⟩ := hW.blk s k b g1 hb
    refine ⟨c, a1, ?_, a3⟩
    rcases g4 with g4 | g4 | g4
    · obtain ⟨g, hg⟩ := Option.isSome_iff_exists.1 g4
      have := (hW.tags s k g g1 hg).1
      rw [this] at a2 ⊢
      exact noRefs_cells (encAll_noRefs _ _) a2
    · exact belows_cells (fun r hr => cutMp_lt hr) g4 a2
    · exact noRefs_cells g4 a2
  · intro r k g hr hg
    obtain ⟨s, g1, g2, g3, _⟩ := key r k hr
    rw [g3]
    exact hW.tags s k g g1 hg
  · intro r1 r2 k1 k2 b e1 e2 f1 f2 m1 m2
    obtain ⟨s1, a1, a2, _, _, a5⟩ := key r1 k1 e1
    obtain ⟨s2, b1, b2, _, _, b5⟩ := key r2 k2 e2
    rw [a2] at m1
    rw [b2] at m2
    have := hW.inj s1 s2 k1 k2 b a1 b1 f1 f2 m1 m2
    omega
  · intro r hr
    simp only [List.length_append, List.length_take, List.length_drop] at hr
    have hn : ¬ r < m := by omega
    have := hW.top (r + d) (by omega)
    simpa [cutMp, hn] using this
theorem cutOne_vr {m d : Nat} {p q : PV} {v : Value} (h : cutOne m d p = some q) (hv : VR w G μ p v) : VR w G (cutMp μ m d) q v := by
  unfold cutOne at h
  split at h
  · rename_i r sz
    cases hb : Nat.blt r m with
    | true =>
      rw [hb] at h
      simp only [cond_true, Option.some.injEq] at h
      subst h
      exact below_vr (fun r hr => cutMp_lt hr) _ v (by simpa only [below] using hb) hv
    | false =>
      rw [hb] at h
      simp only [cond_false] at h
      obtain ⟨hc, h⟩ := condSome h
      simp only [Option.some.injEq] at h
      subst h
      have := cutMp_ge (μ := μ) (Nat.le_of_ble_eq_true hc)
      rw [VR] at hv ⊢
      rw [this.1, this.2]
      exact hv
  · rename_i r off
    cases hb : Nat.blt r m with
    | true =>
      rw [hb] at h
      simp only [cond_true, Option.some.injEq] at h
      subst h
      exact below_vr (fun r hr => cutMp_lt hr) _ v (by simpa only [below] using hb) hv
    | false =>
      rw [hb] at h
      simp only [cond_false] at h
      obtain ⟨hc, h⟩ := condSome h
      simp only [Option.some.injEq] at h
      subst h
      have := cutMp_ge (μ := μ) (Nat.le_of_ble_eq_true hc)
      rw [VR] at hv ⊢
      rw [this.1]
      exact hv
  · rename_i r lo n sz
    cases hb : Nat.blt r m with
    | true =>
      rw [hb] at h
      simp only [cond_true, Option.some.injEq] at h
      subst h
      exact below_vr (fun r hr => cutMp_lt hr) _ v (by simpa only [below] using hb) hv
    | false =>
      rw [hb] at h
      simp only [cond_false] at h
      obtain ⟨hc, h⟩ := condSome h
      simp only [Option.some.injEq] at h
      subst h
      have := cutMp_ge (μ := μ) (Nat.le_of_ble_eq_true hc)
      rw [VR] at hv ⊢
      rw [this.1, this.2]
      exact hv
  · obtain ⟨hb, h⟩ := condSome h
    simp only [Option.some.injEq] at h
    subst h
    exact below_vr (fun r hr => cutMp_lt hr) _ v hb hv
theorem cutFrm_get {m d : Nat} : ∀ {l : List Nat} {F' : Frm}, cutFrm m d F l = some F' → ∀ t, fget F' t = .junk ∨ cutOne m d (fget F t) = some (fget F' t)
  | [], F', h, t => by
    simp only [cutFrm, Option.some.injEq] at h
    subst h
    exact .inl rfl
  | s :: l, F', h, t => by
    simp only [cutFrm] at h
    split at h
    · rename_i p F1 hp hl
      simp only [Option.some.injEq] at h
      subst h
      rw [fget_cons]
      by_cases hs : t = s
      · subst hs; rw [if_pos rfl]; exact .inr hp
      · rw [if_neg hs]; exact cutFrm_get hl t
    · cases h

theorem tidy_sound {pl : Plan} {F' : Frm} {H' : Heap} (h : tidy pl F H = some (F', H')) (hfl : ∀ r, pl.base ≤ r → μi.loc r = none ∧ μi.len r = none) (hI : I n0 wi Gi μi nt F H a w) : I n0 wi Gi μi nt F' H' a w ∧ ∀ t, fget F t = .junk → fget F' t = .junk := by
  unfold tidy at h
  obtain ⟨hb, h⟩ := condSome h
  have hb := Nat.le_of_ble_eq_true hb
  split at h
  · rename_i F1 H1 h1
    obtain ⟨hc, h⟩ := condSome h
    simp only [Bool.and_eq_true] at hc
    split at h
    · rename_i F2 hF2
      simp only [Option.some.injEq, Prod.mk.injEq] at h
      obtain ⟨rfl, rfl⟩ := h
      obtain ⟨⟨G, μ, e, hW, hF⟩, hlen, hj⟩ := giveOwn_sound pl.own F H F1 H1 h1 hI
      have hget := cutFrm_get hF2
      refine ⟨⟨G, cutMp μ pl.base (H.length - pl.base), ?_, cut_winv hW (by omega) hc.1 hc.2, hF.size, fun t => ?_, hF.defers⟩, fun t ht => ?_⟩
      · exact {
          good := e.good
          map := fun r b hr => by
            rcases Nat.lt_or_ge r pl.base with hl | hl
            · rw [(cutMp_lt hl).1]; exact e.map r b hr
            · rw [(hfl r hl).1] at hr; cases hr
          len := fun r b hr => by
            rcases Nat.lt_or_ge r pl.base with hl | hl
            · rw [(cutMp_lt hl).2]; exact e.len r b hr
            · rw [(hfl r hl).2] at hr; cases hr
          room := e.room
          os := e.os
          tape := e.tape
          output := e.output
          size := e.size
          drawn := e.drawn
          old := e.old
          new := e.new }
      · rcases hget t with h3 | h3
        · rw [h3, VR]; trivial
        · exact cutOne_vr h3 (hF.slot t)
      · rcases hget t with h3 | h3
        · exact h3
        · rw [hj t ht] at h3
          have e3 : cutOne pl.base (H.length - pl.base) .junk = some .junk := rfl
          rw [e3] at h3
          exact (Option.some.inj h3).symm
    · cases h
  · cases h
end
end Go.PM
