/- The plain machine: slices.Compact at ints. No program. -/
import Derived.Test.YtjgapmocogjkmaaGreatDoorPnS
import Derived.Shelf.Slices.CompactI
set_option linter.unusedSimpArgs false
set_option linter.unusedVariables false
namespace Go.PM
open Go Go.RowKit

section
variable {P : Program} {n0 : Nat → Prop} {w : World} {G : Nat → Prop} {μ : Mp} {H : Heap}

/-- The ints of an owned slice are overwritten by as many. -/
theorem putRow_own (hW : WInv n0 G μ H w) {s : Nat} {k : Blk} {l l' : List Int} (hk : H[s]? = some (some k)) (hfz : k.frozen = false) (htag : k.tag = some ⟨.int .i64, l⟩) {b : Nat} (hb : μ.loc s = some b) (hl : l'.length = l.length) (m : Nat) :
    Ext n0 w G μ (Sort.putRow (Value.int .i64) (Sort.ahead w m) b 0 l'.toArray) G μ ∧ WInv n0 G μ (H.set s (some ⟨encAll (.int .i64) l', k.ty, k.grown, false, some ⟨.int .i64, l'⟩⟩)) (Sort.putRow (Value.int .i64) (Sort.ahead w m) b 0 l'.toArray) := by
  obtain ⟨hcells, hmlen⟩ := hW.tags s k _ hk htag
  dsimp only at hcells hmlen
  obtain ⟨cc, a1, a2, a3, _, a5⟩ := hW.blk s k b hk hb
  rw [hcells, encInts] at a2
  have hcs : l.length ≤ cc.size := by
    rcases Nat.lt_or_ge cc.size l.length with hlt | hge
    · obtain ⟨v, b1, b2⟩ := a2.get (i := cc.size) (p := .lit (.int .i64 l[cc.size])) (by simp [hlt])
      simp [World.cell?, a1] at b1
    · exact hge
  have e1 := drew_ext (n0 := n0) (w := w) (G := G) (μ := μ) (Nat.le_add_right w.drawn m)
  have w1 := drew_winv hW (w.drawn + m)
  have hT : Turned { w with drawn := w.drawn + m } (Sort.putRow (Value.int .i64) (Sort.ahead w m) b 0 l'.toArray) b (Sort.putCells (Value.int .i64) 0 l'.toArray cc) k.ty := {
    at_ := by
      show (w.heap.modify b _)[b]? = _
      rw [Array.getElem?_modify, if_pos rfl, a1]; rfl
    other := fun x hx => by
      show (w.heap.modify b _)[x]? = _
      rw [Array.getElem?_modify, if_neg (Ne.symm hx)]
    os := rfl
    tape := rfl
    output := rfl
    size := by show (w.heap.modify b _).size = _; simp
    drawn := rfl }
  have hps : (Sort.putCells (Value.int .i64) 0 l'.toArray cc).size = cc.size := by simp [Sort.putCells]
  have hnew : ∀ i (hi : i < l'.length), (Sort.putCells (Value.int .i64) 0 l'.toArray cc)[i]? = some (.int .i64 l'[i]) := fun i hi => by
    have h9 : i < cc.size := by omega
    simp only [Sort.putCells, Array.getElem?_mapIdx, Array.getElem?_eq_getElem h9, Option.map_some, Nat.zero_le, true_and, Nat.zero_add, List.size_toArray, hi, if_true, Nat.sub_zero]
    rw [getElem!_pos _ i (by simpa using hi)]
    simp
  have hkk : VCells (Sort.putRow (Value.int .i64) (Sort.ahead w m) b 0 l'.toArray) G μ b 0 (encAll (.int .i64) l') := by
    rw [encInts]
    refine VCells.mk fun i p hp => ?_
    rw [List.getElem?_map] at hp
    cases hi : l'[i]? with
    | none => rw [hi] at hp; cases hp
    | some x =>
      rw [hi] at hp
      simp only [Option.map_some, Option.some.injEq] at hp
      subst hp
      obtain ⟨hlt, hx⟩ := List.getElem?_eq_some_iff.1 hi
      refine ⟨.int .i64 x, ?_, by rw [VR]⟩
      simp only [World.cell?, hT.at_, Nat.zero_add]
      rw [← hx]
      simpa using hnew i hlt
  have e2 := turned_ext w1 hk hfz hb (c := cc) (by exact a1) hT hps
  have w2 := turned_winv w1 hk hfz hb (c := cc) (k' := ⟨encAll (.int .i64) l', k.ty, k.grown, false, some ⟨.int .i64, l'⟩⟩) (by exact a1) hT hps rfl hkk
    (fun hg => by
      rw [hps, a3 hg, hcells, encAll_length, encAll_length, hl])
    (fun g hg => by cases hg; exact ⟨rfl, by rw [hmlen, hl]⟩)
  exact ⟨e1.trans e2, w2⟩

/-- The call compacts what the first argument owns, and returns it. -/
def compactO (l : List Int) : Option (List Int) := bif Nat.ble l.length 9223372036854775807 then some (Lib.compact l) else none
def compactH (args : List PV) (H : Heap) : Option ResH := match args with
  | [.own r sz] => match hget H r with
    | some k => match k.tag with
      | some g => match castL g.t (.int .i64) g.l with
        | some l => bif Nat.beq sz 1 && !k.frozen then some ⟨List Int, compactO l, fun l' => (.own H.length 1, H.set r none ++ [some ⟨encAll (.int .i64) l', k.ty, true, false, some ⟨.int .i64, l'⟩⟩])⟩ else none
        | none => none
      | none => none
    | none => none
  | _ => none

/-- An owned slice gets a new name, and fewer elements. -/
theorem shrink_winv (hW : WInv n0 G μ H w) {s : Nat} {e : TypeId} {gr : Bool} {l l' zs : List Int} (hk : H[s]? = some (some ⟨encAll (.int .i64) l, e, gr, false, some ⟨.int .i64, l⟩⟩)) (hl : l = l' ++ zs) {b : Nat} (hb : μ.loc s = some b) :
    Ext n0 w G μ w G (upd μ H.length (some b) (some l'.length)) ∧ WInv n0 G (upd μ H.length (some b) (some l'.length)) (H.set s none ++ [some ⟨encAll (.int .i64) l', e, true, false, some ⟨.int .i64, l'⟩⟩]) w := by
  have hk0 := kill_winv hW s
  have hlen : (H.set s none).length = H.length := by simp
  have e1 := upd_ext hW (some b) (some l'.length)
  have e2 : Ext n0 w G μ w G (upd μ (H.set s none).length (some b) (some l'.length)) := by rw [hlen]; exact e1
  refine ⟨e1, ?_⟩
  have := push_winv hk0 e2 ⟨encAll (.int .i64) l', e, true, false, some ⟨.int .i64, l'⟩⟩ (fun _ _ _ _ _ => rfl) ?_ (fun g hg => by cases hg; exact ⟨rfl, rfl⟩) ?_
  · rwa [hlen] at this
  · rintro b' hb'
    cases hb'
    obtain ⟨c, h2, h3, _, _, h6⟩ := hW.blk s _ b hk hb
    refine ⟨c, h2, ?_, fun h => (by cases h), fun h => (by cases h), fun _ => h6 rfl⟩
    have h7 := h3.take (encAll (.int .i64) l').length
    rw [hl, encAll_append, List.take_left' rfl] at h7
    exact VCells.mono e2.toMono rfl 0 _ h7
  · intro r k' b' hs hf hb' hh
    cases hh
    obtain ⟨hs1, hs2⟩ := set_none hs
    exact hs2 (hW.inj r s k' _ b hs1 hk hf rfl hb' hb)

theorem compact_own {g : FuncId} (henter : ∀ (xs : Array Value) (w : World), (callFunc g xs).run P w = .ok (.enter g xs) w) (hlen : ∀ l : List Int, (Lib.compact l).length ≤ l.length)
    (hS : ∀ (blk off cap : Nat) (zs : List Int) (w : World), Sort.Holds (Value.int .i64) w blk off zs.toArray → zs.length ≤ 9223372036854775807 → zs.length ≤ cap →
      Calls P g #[.slice (some ⟨blk, off, none⟩) zs.length cap] w fun e w' => e = .returned (.slice (some ⟨blk, off, none⟩) (Lib.compact zs).length cap) ∧ ∃ q, w' = Sort.putRow (Value.int .i64) (Sort.ahead w q) blk off (Lib.compact zs ++ List.replicate (zs.length - (Lib.compact zs).length) 0).toArray)
    (hN : ∀ (p : Option Addr) (cap : Nat) (w : World), Calls P g #[.slice p 0 cap] w fun e w' => e = .returned (.slice p 0 cap) ∧ w' = w)
    {args : List PV} {r : ResH} (h : compactH args H = some r) : ∀ y, r.val = some y → ∀ {n0 G μ w vs}, WInv n0 G μ H w → VRs w G μ args vs → CallOK P n0 w G μ g vs.toArray (r.out y).1 (r.out y).2 := by
  unfold compactH at h
  split at h
  · rename_i s sz
    split at h
    · rename_i k hk
      split at h
      · rename_i t ht
        split at h
        · rename_i l hl
          obtain ⟨hb, h⟩ := condSome1 h
          simp only [Bool.and_eq_true, Bool.not_eq_true'] at hb
          have hfz := hb.2
          replace hb := Nat.eq_of_beq_eq_true hb.1
          simp only [Option.some.injEq] at h
          subst h
          subst hb
          intro y hy n0 G μ w vs hW hv
          unfold compactO at hy
          obtain ⟨hle, hy⟩ := condSome hy
          simp only [Option.some.injEq] at hy
          subst hy
          have hle := Nat.le_of_ble_eq_true hle
          obtain ⟨tt, tl⟩ := t
          obtain ⟨e0, he⟩ := castL_some hl
          dsimp only at e0 he
          subst e0
          dsimp only at he
          subst he
          obtain ⟨hcells, hmlen⟩ := hW.tags s k _ (hget_some hk) ht
          dsimp only at hcells hmlen hle ⊢
          rw [VRs] at hv
          obtain ⟨v, us, rfl, h1, h2⟩ := hv
          rw [VRs] at h2
          subst h2
          rw [VR] at h1
          obtain ⟨n, h3, h4⟩ := h1
          rw [hmlen] at h3
          cases h3
          refine ⟨henter _ _, ?_⟩
          rcases h4 with ⟨h5, ao, rfl⟩ | ⟨b, c, h5, rfl, h7, h8⟩
          · have hnil : tl = [] := List.eq_nil_of_length_eq_zero h5
            subst hnil
            have hc0 : Lib.compact ([] : List Int) = [] := List.eq_nil_of_length_eq_zero (Nat.le_zero.1 (hlen []))
            refine (hN ao 0 w).mono ?_
            rintro e w' ⟨rfl, rfl⟩
            have hk0 := kill_winv hW s
            obtain ⟨e1, w1⟩ := unborn_winv hk0 ⟨encAll (.int .i64) [], k.ty, true, false, some ⟨.int .i64, []⟩⟩ (on := some 0) (fun g hg => by cases hg; exact ⟨rfl, rfl⟩)
            rw [List.length_set] at e1 w1
            rw [hc0]
            refine ⟨_, G, _, rfl, e1, w1, ?_⟩
            rw [VR]
            exact ⟨0, upd_len .., .inl ⟨rfl, ao, rfl⟩⟩
          · obtain ⟨cc, a1, a2, a3, _, a5⟩ := hW.blk s k b (hget_some hk) h5
            rw [hcells, encInts] at a2
            have hcell : ∀ i (hi : i < tl.length), w.cell? ⟨b, i, none⟩ = some (.int .i64 tl[i]) := fun i hi => by
              obtain ⟨v, b1, b2⟩ := a2.get (i := i) (p := .lit (.int .i64 tl[i])) (by simp [hi])
              rw [VR] at b2
              rw [Nat.zero_add] at b1
              rw [b1, b2]
            have hholds : Sort.Holds (Value.int .i64) w b 0 tl.toArray := by
              intro j hj
              have hj' : j < tl.length := by simpa using hj
              refine ⟨?_, ?_⟩
              · rw [Nat.zero_add, hcell j hj']
                congr 2
                rw [getElem!_pos _ j hj]
                simp
              · simp [World.frozen?, a1]
            refine (hS b 0 c tl w hholds hle h7).mono ?_
            rintro e w' ⟨rfl, m, rfl⟩
            have hcl := hlen tl
            have hsl : (Lib.compact tl ++ List.replicate (tl.length - (Lib.compact tl).length) 0).length = tl.length := by
              simp only [List.length_append, List.length_replicate]; omega
            obtain ⟨e1, w1⟩ := putRow_own hW (hget_some hk) hfz ht h5 hsl m
            have hsl2 : s < H.length := (List.getElem?_eq_some_iff.1 (hget_some hk)).1
            obtain ⟨e2, w2⟩ := shrink_winv w1 (s := s) (List.getElem?_set_self hsl2) rfl h5
            rw [List.set_set, List.length_set] at w2
            rw [List.length_set] at e2
            refine ⟨_, G, _, rfl, e1.trans e2, w2, ?_⟩
            rw [VR]
            exact ⟨_, upd_len .., .inr ⟨b, c, upd_loc .., rfl, by omega, (e1.trans e2).room b _ h8⟩⟩
        · cases h
      · cases h
    · cases h
  · cases h
end

/-- Functions that work on the caller's heap. -/
abbrev Shr := FuncId × (List PV → Heap → Option ResH)
def ShrOK (P : Program) (s : Shr) : Prop := SortOKs P s.1 s.2
where SortOKs (P : Program) (g : FuncId) (f : List PV → Heap → Option ResH) : Prop := ∀ args H r, f args H = some r → ∀ y, r.val = some y → ∀ {n0 G μ w vs}, WInv n0 G μ H w → VRs w G μ args vs → CallOK P n0 w G μ g vs.toArray (r.out y).1 (r.out y).2
def shrE : List Shr → FuncId → List PV → Heap → Option ResH
  | [], _, _, _ => none
  | s :: r, g, args, H => bif Nat.beq g s.1 then s.2 args H else shrE r g args H
def shE : List Shr → FuncId → Bool
  | [], _ => false
  | s :: r, g => bif Nat.beq g s.1 then true else shE r g
def shrsOK (P : Program) : List Shr → Prop
  | [] => True
  | s :: r => ShrOK P s ∧ shrsOK P r
theorem shrE_ok {P : Program} : ∀ {l : List Shr}, shrsOK P l → ∀ g args H r, shrE l g args H = some r → ∀ y, r.val = some y → ∀ {n0 G μ w vs}, WInv n0 G μ H w → VRs w G μ args vs → CallOK P n0 w G μ g vs.toArray (r.out y).1 (r.out y).2
  | [], _, g, args, H, r, h => by cases h
  | s :: l, hl, g, args, H, r, h => by
    simp only [shrE] at h
    cases hb : Nat.beq g s.1 with
    | true =>
      rw [hb] at h
      have := Nat.eq_of_beq_eq_true hb
      subst this
      exact hl.1 args H r h
    | false =>
      rw [hb] at h
      exact shrE_ok hl.2 g args H r h
/-- A table of functions on data, and of functions on the caller's heap. -/
def envT (l : List Ent) (s : List Shr) : Env := ⟨pureE l, shrE s, shE s⟩
theorem envT_ok {P : Program} {l : List Ent} {s : List Shr} (h : entsOK P l) (hs : shrsOK P s) : EnvOK P (envT l s) where
  pure := pureE_ok (entsOK_mem h)
  shr := shrE_ok hs
end Go.PM
