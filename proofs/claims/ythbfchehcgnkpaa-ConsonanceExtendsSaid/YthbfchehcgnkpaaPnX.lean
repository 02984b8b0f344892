/- The plain machine: slices.SortFunc at a slice of lists, by the shelf's contract, under a comparator that is a function on data. No program. -/
import Derived.Test.YthbfchehcgnkpaaPnW
import Derived.Shelf.SlSortCmp.Whole1
set_option linter.unusedSimpArgs false
set_option linter.unusedVariables false
namespace Go.PM
open Go Go.RowKit

/-- Sorted, by insertion. -/
def insB {α : Type} (lt : α → α → Bool) (x : α) : List α → List α
  | [] => [x]
  | y :: l => bif lt y x then y :: insB lt x l else x :: y :: l
def srtB {α : Type} (lt : α → α → Bool) : List α → List α
  | [] => []
  | x :: l => insB lt x (srtB lt l)
/-- A linear order on what D lets by. -/
structure LO {α : Type} (D : α → Bool) (lt : α → α → Bool) : Prop where
  irrefl : ∀ x, D x = true → lt x x = false
  trans : ∀ x y z, D x = true → D y = true → D z = true → lt x y = true → lt y z = true → lt x z = true
  ntrans : ∀ x y z, D x = true → D y = true → D z = true → lt x y = false → lt y z = false → lt x z = false
  anti : ∀ x y, D x = true → D y = true → lt x y = false → lt y x = false → x = y
section
variable {α : Type} {D : α → Bool} {lt : α → α → Bool}
theorem insB_perm (x : α) : ∀ l, List.Perm (insB lt x l) (x :: l)
  | [] => .refl _
  | y :: l => by
    unfold insB
    cases lt y x with
    | true => exact ((insB_perm x l).cons y).trans (.swap x y l)
    | false => exact .refl _
theorem srtB_perm : ∀ l : List α, List.Perm (srtB lt l) l
  | [] => .refl _
  | x :: l => (insB_perm x (srtB lt l)).trans ((srtB_perm l).cons x)
theorem insB_sorted (h : LO D lt) (x : α) (hx : D x = true) : ∀ l : List α, (∀ y ∈ l, D y = true) → l.Pairwise (fun a b => lt b a = false) → (insB lt x l).Pairwise (fun a b => lt b a = false)
  | [], _, _ => by simp [insB]
  | y :: l, hd, hs => by
    have ⟨h1, h2⟩ := List.pairwise_cons.1 hs
    have hy := hd y (by simp)
    unfold insB
    cases hb : lt y x with
    | true =>
      refine List.pairwise_cons.2 ⟨fun z hz => ?_, insB_sorted h x hx l (fun z hz => hd z (by simp [hz])) h2⟩
      rcases List.mem_cons.1 ((insB_perm x l).mem_iff.1 hz) with rfl | hz
      · cases hc : lt z y with
        | false => rfl
        | true => have := h.trans z y z hx hy hx hc hb; rw [h.irrefl z hx] at this; cases this
      · exact h1 z hz
    | false =>
      refine List.pairwise_cons.2 ⟨fun z hz => ?_, hs⟩
      rcases List.mem_cons.1 hz with rfl | hz
      · exact hb
      · exact h.ntrans z y x (hd z (by simp [hz])) hy hx (h1 z hz) hb
theorem srtB_sorted (h : LO D lt) : ∀ l : List α, (∀ y ∈ l, D y = true) → (srtB lt l).Pairwise (fun a b => lt b a = false)
  | [], _ => .nil
  | x :: l, hd => insB_sorted h x (hd x (by simp)) _ (fun y hy => hd y (by simp [(srtB_perm l).mem_iff.1 hy])) (srtB_sorted h l fun y hy => hd y (by simp [hy]))
theorem srtB_unique (h : LO D lt) {l l' : List α} (hd : ∀ y ∈ l, D y = true) (hp : List.Perm l' l) (hs : l'.Pairwise (fun a b => lt b a = false)) : srtB lt l = l' := by
  refine List.Perm.eq_of_pairwise (le := fun a b => lt b a = false) (fun a b ha hb h1 h2 => ?_) (srtB_sorted h l hd) hs ((srtB_perm l).trans hp.symm)
  exact h.anti a b (hd a ((srtB_perm l).mem_iff.1 ha)) (hd b (hp.mem_iff.1 hb)) h2 h1
theorem srtB_length (l : List α) : (srtB lt l).length = l.length := (srtB_perm l).length_eq
end

section
variable {P : Program} {n0 : Nat → Prop} {w w' : World} {G G' : Nat → Prop} {μ μ' : Mp} {H : Heap}

/-- What a call leaves, as the shelf writes it. -/
theorem ext_grow {W : World} (e : Ext (Fresh W) W G μ w' G' μ') : ∃ q os, w' = Sort.grow (W.drewN q) os := by
  refine ⟨w'.drawn - W.drawn, w'.heap.extract W.heap.size w'.heap.size, ?_⟩
  have h1 := e.os
  have h2 := e.tape
  have h3 := e.output
  have h4 := e.size
  have h5 := e.drawn
  have h6 := e.old
  obtain ⟨hp, tp, dr, os, ou⟩ := w'
  obtain ⟨hp0, tp0, dr0, os0, ou0⟩ := W
  simp only at h1 h2 h3 h4 h5 h6
  subst h1; subst h2; subst h3
  simp only [Sort.grow, World.drewN]
  congr 1
  · apply Array.ext
    · simp only [Array.size_append, Array.size_extract, Nat.min_self]; omega
    · intro i hi1 hi2
      by_cases hb : i < hp0.size
      · rw [Array.getElem_append_left hb]
        have := h6 i hb (Nat.not_le.2 hb)
        rw [Array.getElem?_eq_getElem hb, Array.getElem?_eq_getElem hi1] at this
        exact Option.some.inj this
      · rw [Array.getElem_append_right (by omega), Array.getElem_extract]
        congr 1; omega
  · omega
/-- A list, with where it lies. -/
structure El (t : Ty) where
  l : List t.den
  ao : Option Addr
  cap : Nat
def El.v {t : Ty} (e : El t) : Value := .slice e.ao e.l.length e.cap
def ElOK {t : Ty} (w : World) (G : Nat → Prop) (D : List t.den → Bool) (e : El t) : Prop := D e.l = true ∧ VR w G nomap (tlOf t e.l none) e.v
theorem tl_el {t : Ty} {l : List t.den} {v : Value} (h : VR w G nomap (tlOf t l none) v) : ∃ e : El t, e.l = l ∧ e.v = v := by
  unfold tlOf at h
  rw [VR] at h
  obtain ⟨h, -⟩ := h
  rw [VR] at h
  obtain ⟨ao, c, rfl, -⟩ := h
  exact ⟨⟨l, ao, c⟩, rfl, rfl⟩
theorem encLists {t : Ty} : ∀ (l : List (List t.den)), encAll (.list t) l = l.map fun x => tlOf t x none
  | [] => rfl
  | x :: l => by rw [encAll_cons, encLists l]; rfl
def sortFO {t : Ty} (D : List t.den → Bool) (lt : List t.den → List t.den → Bool) (l : List (List t.den)) : Option (List (List t.den)) := bif Nat.blt 0 l.length && Nat.blt l.length 4611686018427387904 && l.all D then some (srtB lt l) else none
def sortFH (t : Ty) (ck : Kd) (D : List t.den → Bool) (lt : List t.den → List t.den → Bool) (args : List PV) (H : Heap) : Option ResH := match args with
  | [.own r sz, p] => match hget H r with
    | some k => match k.tag with
      | some g => match castL g.t (.list t) g.l with
        | some l => match decK ck p [] 0 with
          | some _ => bif Nat.beq sz 1 && !k.frozen then some ⟨List (List t.den), sortFO D lt l, fun l' => (.tuple [], H.set r (some ⟨encAll (.list t) l', k.ty, k.grown, false, some ⟨.list t, l'⟩⟩))⟩ else none
          | none => none
        | none => none
      | none => none
    | none => none
  | _ => none

theorem sortf_own {g g2 : FuncId} {t : Ty} {ck : Kd} (hck : ck = .fn g2 ∨ ck = .clo g2 []) {D : List t.den → Bool} {cf : List t.den → List t.den → Int} {f2 : denK [.list t, .list t] → Option (denK [.int .i64])}
    (hLO : LO D fun x y => decide (cf x y < 0)) (hf : FnOK P g2 [.list t, .list t] [.int .i64] f2) (hcf : ∀ x y, D x = true → D y = true → f2 (x, y, ()) = some (cf x y, ()))
    (henter : ∀ (xs : Array Value) (w : World), (callFunc g xs).run P w = .ok (.enter g xs) w) (eg : ∀ (xs : Array Value) (w : World), (callFunc g2 xs).run P w = .ok (.enter g2 xs) w)
    (hS : ∀ {α : Type} [Inhabited α] (enc : α → Value) (h1 : Proofs.OneCell enc) (cf : α → α → Int) (hO : Sort.SWO (Proofs.ltOf cf)) (cb : Array Value) (blk off cap : Nat) (d : Array α) (w : World) (hcmp : Proofs.CmpLays1 P g2 cb enc cf blk off d.size w) (hH : Sort.Holds enc w blk off d) (hblk : blk < w.heap.size) (hsz : d.size < 4611686018427387904),
      Calls P g #[.slice (some ⟨blk, off, none⟩) d.size cap, .func (.func g2) #[] cb] w fun e w' => e = .returned (.tuple #[]) ∧ ∃ d' n os, Sort.PermIn 0 d.size d d' ∧ Sort.SortedIn (Proofs.ltOf cf) 0 d.size d' ∧ w' = Proofs.sortWorld enc w blk off n d' os) :
    ShrOK P (g, sortFH t ck D (fun x y => decide (cf x y < 0))) := by
  intro args H rh h y hy n0 G μ w us hW hv
  change sortFH t ck D (fun x y => decide (cf x y < 0)) args H = some rh at h
  show CallOK P n0 w G μ g us.toArray (rh.out y).1 (rh.out y).2
  unfold sortFH at h
  split at h
  · rename_i r sz p
    split at h
    · rename_i k hk
      split at h
      · rename_i gg hg
        split at h
        · rename_i l hl
          split at h
          · rename_i pk hpk
            obtain ⟨hb, h⟩ := condSome1 h
            simp only [Bool.and_eq_true, Bool.not_eq_true'] at hb
            have hfz := hb.2
            replace hb := Nat.eq_of_beq_eq_true hb.1
            simp only [Option.some.injEq] at h
            subst h
            subst hb
            unfold sortFO at hy
            obtain ⟨hlen, hy⟩ := condSome hy
            simp only [Option.some.injEq] at hy
            subst hy
            simp only [Bool.and_eq_true] at hlen
            obtain ⟨⟨hl0, hlen⟩, hall⟩ := hlen
            have hl0 := nblt_iff hl0
            have hlen := nblt_iff hlen
            obtain ⟨gt, gl⟩ := gg
            obtain ⟨e0, he⟩ := castL_some hl
            dsimp only at e0 he
            subst e0
            dsimp only at he
            subst he
            clear hl
            dsimp only at hl0 hlen hall hg ⊢
            obtain ⟨hcells, hmlen⟩ := hW.tags r k _ (hget_some hk) hg
            dsimp only at hcells hmlen
            have hD : ∀ x ∈ gl, D x = true := List.all_eq_true.1 hall
            rw [VRs] at hv
            obtain ⟨v, us1, rfl, h1, h2⟩ := hv
            rw [VRs] at h2
            obtain ⟨pv, us2, rfl, h2, h3⟩ := h2
            rw [VRs] at h3
            subst h3
            have hpv : pv = .func (.func g2) #[] #[] := by
              rcases hck with rfl | rfl
              · have := decFn_sound (g := g2) (p := p) hpk
                rw [this, VR] at h2
                exact h2
              · have := decClo_sound (g := g2) (ts := []) (p := p) hpk h2
                rw [VR] at this
                obtain ⟨fs, cs, e1, e2, e3⟩ := this
                simp only [encP] at e3
                rw [VRs] at e2 e3
                rw [e1]
                congr 1
                · exact Array.ext' (by simpa using e2)
                · exact Array.ext' (by simpa using e3)
            subst hpv
            rw [VR] at h1
            obtain ⟨n, h3, h4⟩ := h1
            rw [hmlen] at h3
            cases h3
            rcases h4 with ⟨h5, ao, rfl⟩ | ⟨b, c, h5, rfl, h7, h8⟩
            · omega
            refine ⟨henter _ _, ?_⟩
            obtain ⟨cc, a1, a2, a3, _, a5⟩ := hW.blk r k b (hget_some hk) h5
            have hnG := (a5 hfz).2
            rw [hcells, encLists] at a2
            have each : ∀ i (hi : i < gl.length), ∃ e : El t, ElOK w G D e ∧ e.l = gl[i] ∧ w.cell? ⟨b, i, none⟩ = some e.v := fun i hi => by
              obtain ⟨v, b1, b2⟩ := a2.get (i := i) (p := tlOf t gl[i] none) (by simp [hi])
              have b2 : VR w G nomap (tlOf t gl[i] none) v := noRef_vr _ _ rfl b2
              obtain ⟨e, e1, e2⟩ := tl_el b2
              rw [Nat.zero_add] at b1
              refine ⟨e, ⟨?_, ?_⟩, e1, ?_⟩
              · rw [e1]; exact hD _ (List.getElem_mem hi)
              · rw [e1, e2]; exact b2
              · rw [e2]; exact b1
            obtain ⟨x0, x0ok, _⟩ := each 0 hl0
            have inst : Inhabited {e : El t // ElOK w G D e} := ⟨⟨x0, x0ok⟩⟩
            have each2 : ∀ i, ∃ e : {e : El t // ElOK w G D e}, ∀ hi : i < gl.length, e.1.l = gl[i] ∧ w.cell? ⟨b, i, none⟩ = some e.1.v := fun i => by
              by_cases hi : i < gl.length
              · obtain ⟨e, e1, e2⟩ := each i hi
                exact ⟨⟨e, e1⟩, fun _ => e2⟩
              · exact ⟨default, fun h => absurd h hi⟩
            obtain ⟨f, hfx⟩ := Classical.axiomOfChoice each2
            obtain ⟨d, hd⟩ : ∃ d : Array {e : El t // ElOK w G D e}, d = ((List.range gl.length).map f).toArray := ⟨_, rfl⟩
            have hds : d.size = gl.length := by rw [hd]; simp
            have hdg : ∀ i, i < gl.length → d[i]! = f i := fun i hi => by
              rw [getElem!_pos d i (by omega)]
              simp [hd]
            have hcs : gl.length ≤ cc.size := by
              rcases Nat.lt_or_ge cc.size gl.length with hlt | hge
              · have := (hfx cc.size hlt).2
                simp [World.cell?, a1] at this
              · exact hge
            have hT : ∀ (m : Nat) (dk : Array {e : El t // ElOK w G D e}), Turned { w with drawn := w.drawn + m } (Sort.putRow (fun x => x.1.v) (Sort.ahead w m) b 0 dk) b (Sort.putCells (fun x => x.1.v) 0 dk cc) k.ty := fun m dk => {
              at_ := by
                show (w.heap.modify b _)[b]? = _
                rw [Array.getElem?_modify, if_pos rfl, a1]; rfl
              other := fun x hx => by
                show (w.heap.modify b _)[x]? = _
                rw [Array.getElem?_modify, if_neg (Ne.symm hx)]
              os := rfl
              tape := rfl
              output := rfl
              size := by show (w.heap.modify b _).size = _; simp
              drawn := rfl }
            have hps : ∀ dk : Array {e : El t // ElOK w G D e}, (Sort.putCells (fun x => x.1.v) 0 dk cc).size = cc.size := fun dk => by simp [Sort.putCells]
            have e12 : ∀ (m : Nat) (dk : Array {e : El t // ElOK w G D e}), Ext n0 w G μ (Sort.putRow (fun x => x.1.v) (Sort.ahead w m) b 0 dk) G μ := fun m dk =>
              (drew_ext (n0 := n0) (w := w) (G := G) (μ := μ) (Nat.le_add_right w.drawn m)).trans (turned_ext (drew_winv hW (w.drawn + m)) (hget_some hk) hfz h5 (c := cc) (by exact a1) (hT m dk) (hps dk))
            have growE : ∀ {w1 : World} (os : Array Obj), (∀ b, G b → b < w1.heap.size) → Ext n0 w1 G μ (Sort.grow w1 os) G μ := fun {w1} os hlt => by
              have hgr : ∀ b, b < w1.heap.size → (Sort.grow w1 os).heap[b]? = w1.heap[b]? := fun b hb => by
                show (w1.heap ++ os)[b]? = _
                rw [Array.getElem?_append_left hb]
              exact {
                good := fun b hb => ⟨hb, hgr b (hlt b hb)⟩
                map := fun _ _ h => h
                len := fun _ _ h => h
                room := fun b n hb => by
                  obtain ⟨c, t, fr, h1, h2⟩ := hb
                  exact ⟨c, t, fr, by rw [hgr b (heap_lt h1)]; exact h1, h2⟩
                os := rfl
                tape := rfl
                output := rfl
                size := by show _ ≤ (w1.heap ++ os).size; simp
                drawn := Nat.le_refl _
                old := fun b hb _ => hgr b hb
                new := fun b hb => .inl hb }
            have hlt1 : ∀ (m : Nat) (dk : Array {e : El t // ElOK w G D e}) b', G b' → b' < (Sort.putRow (fun x : {e : El t // ElOK w G D e} => x.1.v) (Sort.ahead w m) b 0 dk).heap.size := fun m dk b' hb' => Nat.lt_of_lt_of_le (hW.lt b' hb') (e12 m dk).size
            have e123 : ∀ (m : Nat) (dk : Array {e : El t // ElOK w G D e}) (os : Array Obj), Ext n0 w G μ (Proofs.sortWorld (fun x : {e : El t // ElOK w G D e} => x.1.v) w b 0 m dk os) G μ := fun m dk os => (e12 m dk).trans (growE os (hlt1 m dk))
            have hH : Sort.Holds (fun x : {e : El t // ElOK w G D e} => x.1.v) w b 0 d := by
              intro j hj
              refine ⟨?_, by simp [World.frozen?, a1]⟩
              rw [Nat.zero_add, hdg j (by omega)]
              exact (hfx j (by omega)).2
            have hO : Sort.SWO (Proofs.ltOf fun x y : {e : El t // ElOK w G D e} => cf x.1.l y.1.l) :=
              ⟨fun x => hLO.irrefl _ x.2.1, fun x y z => hLO.trans _ _ _ x.2.1 y.2.1 z.2.1, fun x y z => hLO.ntrans _ _ _ x.2.1 y.2.1 z.2.1⟩
            have hcmp : Proofs.CmpLays1 P g2 #[] (fun x : {e : El t // ElOK w G D e} => x.1.v) (fun x y => cf x.1.l y.1.l) b 0 d.size w := by
              intro m os dk _ x y
              have eW := e123 m dk os
              have hvs : VRs (Proofs.sortWorld (fun x : {e : El t // ElOK w G D e} => x.1.v) w b 0 m dk os) G nomap (encA [.list t, .list t] (x.1.l, y.1.l, ())) (#[x.1.v, y.1.v] ++ #[] : Array Value).toList := by
                have hx := VR.mono eW.toMono.nomap _ _ x.2.2
                have hy := VR.mono eW.toMono.nomap _ _ y.2.2
                show VRs _ G nomap [tlOf t x.1.l none, tlOf t y.1.l none] [x.1.v, y.1.v]
                rw [VRs]
                refine ⟨_, _, rfl, hx, ?_⟩
                rw [VRs]
                exact ⟨_, _, rfl, hy, by rw [VRs]⟩
              obtain ⟨-, hc⟩ := hf (x.1.l, y.1.l, ()) _ (hcf _ _ x.2.1 y.2.1) _ G _ (fun b' hb' => Nat.lt_of_lt_of_le (hW.lt b' hb') eW.size) hvs
              refine hc.mono ?_
              rintro e w' ⟨v', G1, rfl, q1, q2, q3⟩
              have q3 : VR w' G1 nomap (.lit (.int .i64 (cf x.1.l y.1.l))) v' := q3
              rw [VR] at q3
              subst q3
              obtain ⟨q, os', hw⟩ := ext_grow q1
              exact ⟨rfl, q, os', hw⟩
            have hcall := hS (fun x : {e : El t // ElOK w G D e} => x.1.v) (fun _ => rfl) (fun x y => cf x.1.l y.1.l) hO #[] b 0 c d w hcmp hH (heap_lt a1) (by omega)
            rw [hds] at hcall
            refine hcall.mono ?_
            rintro e w' ⟨rfl, d', m, os, ⟨hp1, -, hp3⟩, hs, rfl⟩
            have hd's : d'.size = gl.length := by rw [hp1, hds]
            -- the lists, sorted
            have hgl : d.toList.map (fun x => x.1.l) = gl := by
              apply List.ext_getElem
              · simp [hds]
              · intro i h1 h2
                have := hdg i h2
                rw [getElem!_pos d i (by omega)] at this
                simp only [List.getElem_map, Array.getElem_toList, this]
                exact (hfx i h2).1
            have hperm : List.Perm (d'.toList.map fun x => x.1.l) gl := by
              rw [← hgl]
              refine List.Perm.map _ ?_
              have q1 : d'.extract 0 gl.length = d' := by rw [← hd's]; simp
              have q2 : d.extract 0 gl.length = d := by rw [← hds]; simp
              rw [q1, q2] at hp3
              exact hp3
            have hsort : (d'.toList.map fun x => x.1.l).Pairwise (fun a b => decide (cf b a < 0) = false) := by
              refine List.pairwise_map.2 (List.pairwise_iff_getElem.2 fun i j hi hj hij => ?_)
              have := hs i j (Nat.zero_le _) hij (by simpa [hd's] using hj)
              rw [getElem!_pos d' i (by simpa using hi), getElem!_pos d' j (by simpa using hj)] at this
              simpa [Proofs.ltOf] using this
            have hL : srtB (fun x y => decide (cf x y < 0)) gl = d'.toList.map fun x => x.1.l := srtB_unique hLO hD hperm hsort
            have hLl : (d'.toList.map fun x => x.1.l).length = gl.length := by simp [hd's]
            rw [hL]
            have hnew : ∀ i (hi : i < d'.size), (Sort.putCells (fun x : {e : El t // ElOK w G D e} => x.1.v) 0 d' cc)[i]? = some d'[i].1.v := fun i hi => by
              have h9 : i < cc.size := by omega
              simp only [Sort.putCells, Array.getElem?_mapIdx, Array.getElem?_eq_getElem h9, Option.map_some, Nat.zero_le, true_and, Nat.zero_add, hi, if_true, Nat.sub_zero]
              rw [getElem!_pos _ i hi]
            have hkk : VCells (Sort.putRow (fun x : {e : El t // ElOK w G D e} => x.1.v) (Sort.ahead w m) b 0 d') G μ b 0 (encAll (.list t) (d'.toList.map fun x => x.1.l)) := by
              rw [encLists, List.map_map]
              refine VCells.mk fun i p hp => ?_
              rw [List.getElem?_map] at hp
              cases hi : d'.toList[i]? with
              | none => rw [hi] at hp; cases hp
              | some x =>
                rw [hi] at hp
                simp only [Option.map_some, Option.some.injEq, Function.comp_apply] at hp
                subst hp
                obtain ⟨hlt, hx⟩ := List.getElem?_eq_some_iff.1 hi
                have hlt' : i < d'.size := by simpa using hlt
                refine ⟨x.1.v, ?_, (VR.mono (e12 m d').toMono.nomap _ _ x.2.2).of_nomap⟩
                simp only [World.cell?, (hT m d').at_, Nat.zero_add]
                have := hnew i hlt'
                rw [← hx]
                simpa using this
            have w1 := drew_winv hW (w.drawn + m)
            have w2 := turned_winv w1 (hget_some hk) hfz h5 (c := cc) (k' := ⟨encAll (.list t) (d'.toList.map fun x => x.1.l), k.ty, k.grown, false, some ⟨.list t, d'.toList.map fun x => x.1.l⟩⟩) (by exact a1) (hT m d') (hps d') rfl hkk
              (fun hgr => by rw [hps, a3 hgr, hcells, encAll_length, encAll_length, hLl])
              (fun g hg => by cases hg; exact ⟨rfl, by rw [hmlen, hLl]⟩)
            obtain ⟨e3, w3⟩ := grow_ext w2 os
            refine ⟨_, G, μ, rfl, (e12 m d').trans e3, w3, ?_⟩
            rw [VR]; exact ⟨#[], rfl, by rw [VRs]⟩
          · cases h
        · cases h
      · cases h
    · cases h
  · cases h
end
end Go.PM
