/- The plain machine: a function that sorts the ints of a slice in place. No program. -/
import Derived.Test.YtjgapmocogjkmaaGreatDoorPnC
import Derived.Shelf.Sort.Plain
set_option linter.unusedSimpArgs false
set_option linter.unusedVariables false
namespace Go.PM
open Go Go.RowKit

/-- Sorted, by insertion (so that the kernel computes it). -/
def ins (x : Int) : List Int → List Int
  | [] => [x]
  | y :: l => bif ltI y x then y :: ins x l else x :: y :: l
def srt : List Int → List Int
  | [] => []
  | x :: l => ins x (srt l)
theorem ins_perm (x : Int) : ∀ l, List.Perm (ins x l) (x :: l)
  | [] => .refl _
  | y :: l => by
    unfold ins
    cases ltI y x with
    | true => exact ((ins_perm x l).cons y).trans (.swap x y l)
    | false => exact .refl _
theorem srt_perm : ∀ l, List.Perm (srt l) l
  | [] => .refl _
  | x :: l => (ins_perm x (srt l)).trans ((srt_perm l).cons x)
theorem ins_sorted (x : Int) : ∀ l : List Int, l.Pairwise (· ≤ ·) → (ins x l).Pairwise (· ≤ ·)
  | [], _ => by simp [ins]
  | y :: l, h => by
    have ⟨h1, h2⟩ := List.pairwise_cons.1 h
    unfold ins
    rw [ltI_eq]
    by_cases hy : y < x
    · rw [decide_eq_true hy]
      refine List.pairwise_cons.2 ⟨fun z hz => ?_, ins_sorted x l h2⟩
      rcases List.mem_cons.1 ((ins_perm x l).mem_iff.1 hz) with rfl | hz
      · exact Int.le_of_lt hy
      · exact h1 z hz
    · rw [decide_eq_false hy]
      refine List.pairwise_cons.2 ⟨fun z hz => ?_, h⟩
      rcases List.mem_cons.1 hz with rfl | hz
      · omega
      · have := h1 z hz; omega
theorem srt_sorted : ∀ l, (srt l).Pairwise (· ≤ ·)
  | [] => .nil
  | x :: l => ins_sorted x _ (srt_sorted l)
theorem srt_unique {l l' : List Int} (hp : List.Perm l l') (hs : l.Pairwise (· ≤ ·)) : srt l' = l :=
  List.Perm.eq_of_pairwise (le := (· ≤ ·)) (fun _ _ _ _ h k => Int.le_antisymm h k) (srt_sorted l') hs ((srt_perm l').trans hp.symm)
theorem srt_merge (l : List Int) : (l.mergeSort fun x y => decide (x ≤ y)) = srt l := by
  refine (srt_unique (List.mergeSort_perm l _) ?_).symm
  refine (List.pairwise_mergeSort (le := fun x y => decide (x ≤ y)) ?_ ?_ l).imp (fun h => by simpa using h)
  · intro a b c h k
    simp only [decide_eq_true_eq] at h k ⊢; omega
  · intro a b
    simp only [Bool.or_eq_true, decide_eq_true_eq]; omega
theorem srt_length (l : List Int) : (srt l).length = l.length := (srt_perm l).length_eq
/-- Where ints lie that are sorted. -/
def sortO (l : List Int) : Option (List Int) := bif Nat.blt l.length 4611686018427387904 then some (srt l) else none
/-- The call sorts what the first argument owns. -/
def sortH (args : List PV) (H : Heap) : Option ResH := match args with
  | [.own r sz] => match hget H r with
    | some k => match k.tag with
      | some g => match castL g.t (.int .i64) g.l with
        | some l => bif Nat.beq sz 1 && !k.frozen then some ⟨List Int, sortO l, fun l' => (.tuple [], H.set r (some ⟨encAll (.int .i64) l', k.ty, k.grown, false, some ⟨.int .i64, l'⟩⟩))⟩ else none
        | none => none
      | none => none
    | none => none
  | _ => none

section
variable {P : Program} {n0 : Nat → Prop} {w : World} {G : Nat → Prop} {μ : Mp} {H : Heap}

theorem condSome1 {α : Type 1} {b : Bool} {x : Option α} {y : α} (h : (bif b then x else none) = some y) : b = true ∧ x = some y := by
  cases b with
  | true => exact ⟨rfl, h⟩
  | false => cases h
theorem encInts : ∀ (l : List Int), encAll (.int .i64) l = l.map fun n => PV.lit (.int .i64 n)
  | [] => rfl
  | x :: l => by rw [encAll_cons, encInts l]; rfl
theorem lits_vrs : ∀ {l : List Int} {vs : List Value}, VRs w G μ (l.map fun n => PV.lit (.int .i64 n)) vs → vs = l.map (Value.int .i64)
  | [], vs, h => by rw [List.map_nil, VRs] at h; exact h
  | x :: l, vs, h => by
    rw [List.map_cons, VRs] at h
    obtain ⟨y, ys, rfl, h1, h2⟩ := h
    rw [VR] at h1
    rw [h1, lits_vrs h2]; rfl

theorem grow_ext (hW : WInv n0 G μ H w) (os : Array Obj) : Ext n0 w G μ (Sort.grow w os) G μ ∧ WInv n0 G μ H (Sort.grow w os) := by
  have hg : ∀ b, b < w.heap.size → (Sort.grow w os).heap[b]? = w.heap[b]? := fun b hb => by
    show (w.heap ++ os)[b]? = _
    rw [Array.getElem?_append_left hb]
  have e : Ext n0 w G μ (Sort.grow w os) G μ := {
    good := fun b hb => ⟨hb, hg b (hW.lt b hb)⟩
    map := fun _ _ h => h
    len := fun _ _ h => h
    room := fun b n hb => by
      obtain ⟨c, t, fr, h1, h2⟩ := hb
      exact ⟨c, t, fr, by rw [hg b (heap_lt h1)]; exact h1, h2⟩
    os := rfl
    tape := rfl
    output := rfl
    size := by show _ ≤ (w.heap ++ os).size; simp
    drawn := Nat.le_refl _
    old := fun b hb _ => hg b hb
    new := fun b hb => .inl hb }
  refine ⟨e, hW.keep e (fun r k b hr hb => ⟨hg b (hW.loc_lt hr hb), id⟩) fun b hb => Nat.lt_of_lt_of_le (hW.lt b hb) e.size⟩

theorem sort_own {g : FuncId} (henter : ∀ (xs : Array Value) (w : World), (callFunc g xs).run P w = .ok (.enter g xs) w)
    (hS : ∀ (blk off cap : Nat) (zs : List Int) (w : World), Sort.Holds (Value.int .i64) w blk off zs.toArray → blk < w.heap.size → zs.length < 4611686018427387904 →
      Calls P g #[.slice (some ⟨blk, off, none⟩) zs.length cap] w fun e w' => e = .returned (.tuple #[]) ∧ ∃ n os, w' = Sort.grow (Sort.putRow (Value.int .i64) (Sort.ahead w n) blk off (zs.mergeSort fun x y => decide (x ≤ y)).toArray) os)
    (hN : ∀ (p : Option Addr) (cap : Nat) (w : World), Calls P g #[.slice p 0 cap] w fun e w' => e = .returned (.tuple #[]) ∧ w' = w)
    {args : List PV} {r : ResH} (h : sortH args H = some r) : ∀ y, r.val = some y → ∀ {n0 G μ w vs}, WInv n0 G μ H w → VRs w G μ args vs → CallOK P n0 w G μ g vs.toArray (r.out y).1 (r.out y).2 := by
  unfold sortH at h
  split at h
  · rename_i s sz
    split at h
    · rename_i k hk
      split at h
      · rename_i t ht
        split at h
        · rename_i l hl
          obtain ⟨hb, h⟩ := condSome1 h
          simp only [Bool.and_eq_true, Bool.not_eq_true'] at hb
          have hfz := hb.2
          replace hb := Nat.eq_of_beq_eq_true hb.1
          simp only [Option.some.injEq] at h
          subst h
          subst hb
          intro y hy n0 G μ w vs hW hv
          unfold sortO at hy
          obtain ⟨hlen, hy⟩ := condSome hy
          simp only [Option.some.injEq] at hy
          subst hy
          have hlen := nblt_iff hlen
          obtain ⟨tt, tl⟩ := t
          obtain ⟨e0, he⟩ := castL_some hl
          dsimp only at e0 he
          subst e0
          dsimp only at he
          subst he
          obtain ⟨hcells, hmlen⟩ := hW.tags s k _ (hget_some hk) ht
          dsimp only at hcells hmlen hlen ⊢
          rw [VRs] at hv
          obtain ⟨v, us, rfl, h1, h2⟩ := hv
          rw [VRs] at h2
          subst h2
          rw [VR] at h1
          obtain ⟨n, h3, h4⟩ := h1
          rw [hmlen] at h3
          cases h3
          refine ⟨henter _ _, ?_⟩
          rcases h4 with ⟨h5, ao, rfl⟩ | ⟨b, c, h5, rfl, h7, h8⟩
          · have hnil : tl = [] := List.eq_nil_of_length_eq_zero h5
            subst hnil
            refine (hN ao 0 w).mono ?_
            rintro e w' ⟨rfl, rfl⟩
            have hk' : (⟨encAll (.int .i64) (srt []), k.ty, k.grown, false, some ⟨.int .i64, srt []⟩⟩ : Blk) = k := by
              obtain ⟨k1, k2, k3, k4, k5⟩ := k
              dsimp only at hcells hfz ht
              have hs0 : srt [] = [] := by simp [srt]
              rw [hcells, hfz, ht, hs0]
            have hset : H.set s (some ⟨encAll (.int .i64) (srt []), k.ty, k.grown, false, some ⟨.int .i64, srt []⟩⟩) = H := by
              rw [hk']
              apply List.ext_getElem?
              intro i
              by_cases hi : s = i
              · subst hi
                rw [List.getElem?_set_self (List.getElem?_eq_some_iff.1 (hget_some hk)).1, hget_some hk]
              · rw [List.getElem?_set_ne hi]
            refine ⟨_, G, μ, rfl, Ext.refl _ _ _ _, ?_, ?_⟩
            · rw [hset]; exact hW
            · rw [VR]; exact ⟨#[], rfl, by simp [VRs]⟩
          · obtain ⟨cc, a1, a2, a3, _, a5⟩ := hW.blk s k b (hget_some hk) h5
            rw [hcells, encInts] at a2
            have hcell : ∀ i (hi : i < tl.length), w.cell? ⟨b, i, none⟩ = some (.int .i64 tl[i]) := fun i hi => by
              obtain ⟨v, b1, b2⟩ := a2.get (i := i) (p := .lit (.int .i64 tl[i])) (by simp [hi])
              rw [VR] at b2
              rw [Nat.zero_add] at b1
              rw [b1, b2]
            have hcc : ∀ i (hi : i < tl.length), cc[i]? = some (.int .i64 tl[i]) := fun i hi => by
              have := hcell i hi
              simp only [World.cell?, a1] at this
              simpa using this
            have hholds : Sort.Holds (Value.int .i64) w b 0 tl.toArray := by
              intro j hj
              have hj' : j < tl.length := by simpa using hj
              refine ⟨?_, ?_⟩
              · rw [Nat.zero_add, hcell j hj']
                congr 2
                rw [getElem!_pos _ j hj]
                simp
              · simp [World.frozen?, a1]
            have hS' := hS b 0 c tl w hholds (heap_lt a1) hlen
            rw [srt_merge] at hS'
            refine hS'.mono ?_
            rintro e w' ⟨rfl, m, os, rfl⟩
            have e1 := drew_ext (n0 := n0) (w := w) (G := G) (μ := μ) (Nat.le_add_right w.drawn m)
            have w1 := drew_winv hW (w.drawn + m)
            have hsl : (srt tl).length = tl.length := srt_length tl
            have hcs : tl.length ≤ cc.size := by
              rcases Nat.lt_or_ge cc.size tl.length with hlt | hge
              · have := hcc cc.size hlt
                simp at this
              · exact hge
            have hT : Turned { w with drawn := w.drawn + m } (Sort.putRow (Value.int .i64) (Sort.ahead w m) b 0 (srt tl).toArray) b (Sort.putCells (Value.int .i64) 0 (srt tl).toArray cc) k.ty := {
              at_ := by
                show (w.heap.modify b _)[b]? = _
                rw [Array.getElem?_modify, if_pos rfl, a1]; rfl
              other := fun x hx => by
                show (w.heap.modify b _)[x]? = _
                rw [Array.getElem?_modify, if_neg (Ne.symm hx)]
              os := rfl
              tape := rfl
              output := rfl
              size := by show (w.heap.modify b _).size = _; simp
              drawn := rfl }
            have hps : (Sort.putCells (Value.int .i64) 0 (srt tl).toArray cc).size = cc.size := by simp [Sort.putCells]
            have hnew : ∀ i (hi : i < (srt tl).length), (Sort.putCells (Value.int .i64) 0 (srt tl).toArray cc)[i]? = some (.int .i64 (srt tl)[i]) := fun i hi => by
              have h9 : i < cc.size := by omega
              simp only [Sort.putCells, Array.getElem?_mapIdx, Array.getElem?_eq_getElem h9, Option.map_some, Nat.zero_le, true_and, Nat.zero_add, List.size_toArray, hi, if_true, Nat.sub_zero]
              rw [getElem!_pos _ i (by simpa using hi)]
              simp
            have hkk : VCells (Sort.putRow (Value.int .i64) (Sort.ahead w m) b 0 (srt tl).toArray) G μ b 0 (encAll (.int .i64) (srt tl)) := by
              rw [encInts]
              refine VCells.mk fun i p hp => ?_
              rw [List.getElem?_map] at hp
              cases hi : (srt tl)[i]? with
              | none => rw [hi] at hp; cases hp
              | some x =>
                rw [hi] at hp
                simp only [Option.map_some, Option.some.injEq] at hp
                subst hp
                obtain ⟨hlt, hx⟩ := List.getElem?_eq_some_iff.1 hi
                refine ⟨.int .i64 x, ?_, by rw [VR]⟩
                simp only [World.cell?, hT.at_, Nat.zero_add]
                rw [← hx]
                simpa using hnew i hlt
            have e2 := turned_ext w1 (hget_some hk) hfz h5 (c := cc) (by exact a1) hT hps
            have w2 := turned_winv w1 (hget_some hk) hfz h5 (c := cc) (k' := ⟨encAll (.int .i64) (srt tl), k.ty, k.grown, false, some ⟨.int .i64, srt tl⟩⟩) (by exact a1) hT hps rfl hkk
              (fun hg => by
                rw [hps, a3 hg, hcells, encAll_length, encAll_length, hsl])
              (fun g hg => by cases hg; exact ⟨rfl, by rw [hmlen, hsl]⟩)
            obtain ⟨e3, w3⟩ := grow_ext w2 os
            refine ⟨_, G, μ, rfl, (e1.trans e2).trans e3, w3, ?_⟩
            rw [VR]; exact ⟨#[], rfl, by simp [VRs]⟩
        · cases h
      · cases h
    · cases h
  · cases h
end

/-- A table of functions, and one function that sorts ints. -/
def envS (l : List Ent) (s : FuncId) : Env := ⟨pureE l, fun g args H => bif Nat.beq g s then sortH args H else none, fun g => Nat.beq g s⟩
/-- What is known of the function that sorts. -/
def SortOK (P : Program) (s : FuncId) : Prop := ∀ args H r, sortH args H = some r → ∀ y, r.val = some y → ∀ {n0 G μ w vs}, WInv n0 G μ H w → VRs w G μ args vs → CallOK P n0 w G μ s vs.toArray (r.out y).1 (r.out y).2
theorem envS_ok {P : Program} {l : List Ent} {s : FuncId} (h : entsOK P l) (hs : SortOK P s) : EnvOK P (envS l s) where
  pure := pureE_ok (entsOK_mem h)
  shr := by
    intro g args H r hr y hy n0 G μ w vs hW hv
    simp only [envS] at hr
    obtain ⟨hb, hr2⟩ := condSome1 hr
    have := Nat.eq_of_beq_eq_true hb
    subst this
    exact hs args H r hr2 y hy (n0 := n0) (G := G) (μ := μ) (w := w) (vs := vs) hW hv
end Go.PM
