/- Contract of reach.Least. -/
import Derived.Test.YtcnpanmkpfgdjaaClone
namespace Go.Proofs.Ytcnpanmkpfgdjaa
open Go.RowKit Go.Sch
attribute [local go_sem] Oper.semAt_some

theorem choices1_iter' (m bl N0 n : Nat) (K : Nat → Prop) (vl : Value) (ls : List (List Key2)) (W : World) (hN : W.heap.size = N0) (hl : ls.length = n)
    (hbox : Blk W bl #[vl] 72) (hbl : K bl ∧ bl < N0) (hls : (sliceR keysR).R W (fun b => K b ∧ b < N0) [vl] ls) (hK : ∀ b, N0 ≤ b → b < N0 + 3 → K b) (hn : n ≤ 8) :
    Iter m Try.prog 53 #[.pointer (some ⟨bl, 0, none⟩)] (fun _ : List Key2 => #[.slice (some ⟨N0 + 2, 0, none⟩) n n]) (fun b => N0 ≤ b ∧ b < N0 + 3) K
      (fun x A => BufOk A (N0 + 2) n x ∧ x.length = n) (chs ls) W := by
  subst hN
  subst hl
  exact choices1_iter m bl K vl ls W hbox hbl hls hK hn

/-- The least choice so far, with its diameter. -/
def stepL (D : Int → Int → Int) (acc : Option (List Key2 × Int)) (c : List Key2) : Option (List Key2 × Int) :=
  match acc with
  | none => some (c, diam D c)
  | some (b, d) => if diam D c < d then some (c, diam D c) else some (b, d)
def leastOf (D : Int → Int → Int) (all : List (List Key2)) : Option (List Key2 × Int) := all.foldl (stepL D) none
theorem leastOf_snoc (D : Int → Int → Int) (pre : List (List Key2)) (x : List Key2) : leastOf D (pre ++ [x]) = stepL D (leastOf D pre) x := by simp [leastOf]
theorem foldl_zero {D : Int → Int → Int} {c : List Key2} : ∀ post : List (List Key2), (∀ x ∈ post, 0 ≤ diam D x) → post.foldl (stepL D) (some (c, 0)) = some (c, 0)
  | [], _ => rfl
  | x :: post, h => by
    have hx := h x (by simp)
    rw [List.foldl_cons, stepL, if_neg (by omega)]
    exact foldl_zero post fun y hy => h y (by simp [hy])
/-- A choice of diameter 0 is the least one. -/
theorem leastOf_zero {D : Int → Int → Int} {pre post : List (List Key2)} {c : List Key2} (h : leastOf D pre = some (c, 0)) (hp : ∀ x ∈ post, 0 ≤ diam D x) : leastOf D (pre ++ post) = some (c, 0) := by
  unfold leastOf at h ⊢
  rw [List.foldl_append, h]
  exact foldl_zero post hp

theorem rowMax_ge (D : Int → Int → Int) (a : Key2) : ∀ (l : List Key2) (n : Int), n ≤ rowMax D a l n
  | [], n => Int.le_refl n
  | b :: l, n => by
    have := rowMax_ge D a l (max n (pairD D a b))
    simp only [rowMax, List.foldl_cons] at this ⊢
    omega
theorem diamTo_ge (D : Int → Int → Int) (l : List Key2) : ∀ i, 0 ≤ diamTo D l i
  | 0 => Int.le_refl 0
  | i + 1 => Int.le_trans (diamTo_ge D l i) (rowMax_ge _ _ _ _)
theorem diam_ge (D : Int → Int → Int) (l : List Key2) : 0 ≤ diam D l := diamTo_ge D l _

theorem chs_mem : ∀ {ls : List (List Key2)} {c : List Key2}, c ∈ chs ls → c.length = ls.length ∧ ∀ k ∈ c, ∃ l ∈ ls, k ∈ l
  | [], c, h => by
    simp only [chs, List.mem_singleton] at h
    subst h
    simp
  | l :: ls, c, h => by
    simp only [chs, List.mem_flatMap, List.mem_map] at h
    obtain ⟨k, hk, t, ht, rfl⟩ := h
    obtain ⟨h1, h2⟩ := chs_mem ht
    refine ⟨by simp [h1], fun x hx => ?_⟩
    rcases List.mem_cons.1 hx with rfl | hx
    · exact ⟨l, by simp, hk⟩
    · obtain ⟨l', hl', hx'⟩ := h2 x hx
      exact ⟨l', by simp [hl'], hx'⟩
theorem qLists_in {q : Quest} (h : reachCheck q = 0) {c : List Key2} (hc : c ∈ chs (qLists q)) : ∀ k ∈ c, (-20 ≤ k.1 ∧ k.1 ≤ 20) ∧ (-20 ≤ k.2 ∧ k.2 ≤ 20) := by
  intro k hk
  obtain ⟨l, hl, hkl⟩ := (chs_mem hc).2 k hk
  obtain ⟨r, _, rfl⟩ := List.mem_map.1 hl
  have := reachCheck_good h
  exact keysOf_in (by omega) k hkl

/-- What the two variables hold when pre has come. -/
def LeastInv (D : Int → Int → Int) (n z bd : Nat) (pre : List (List Key2)) (A : World) : Prop :=
  match leastOf D pre with
  | none => Blk A (z + 1) #[.slice none 0 0] 31 ∧ Blk A bd #[.int .i64 0] 3
  | some (c, d) => ∃ g cap, Blk A (z + 1) #[.slice (some ⟨g, 0, none⟩) n cap] 31 ∧ Blk A bd #[.int .i64 d] 3 ∧ keysR.R A (fun b => z + 8 ≤ b) [.slice (some ⟨g, 0, none⟩) n cap] c
theorem LeastInv.keep {D : Int → Int → Int} {n z bd : Nat} {pre : List (List Key2)} {A B : World} {ok : Nat → Prop} (h : LeastInv D n z bd pre A) (k : Keeps ok A B) (h1 : ok (z + 1)) (h2 : ok bd) (h3 : ∀ b, z + 8 ≤ b → ok b) : LeastInv D n z bd pre B := by
  unfold LeastInv at h ⊢
  split
  · rename_i e; rw [e] at h; exact ⟨h.1.keep k h1, h.2.keep k h2⟩
  · rename_i c d e
    rw [e] at h
    obtain ⟨g, cap, p1, p2, p3⟩ := h
    exact ⟨g, cap, p1.keep k h1, p2.keep k h2, keysR.keep p3 (k.mono h3)⟩
/-- What Least hands back. -/
def leastRes (D : Int → Int → Int) (all : List (List Key2)) (B : Nat) (e : Ending) (w' : World) : Prop :=
  match leastOf D all with
  | none => e = .returned (.tuple #[.slice none 0 0, .int .i64 0, .bool false, .int .i64 0])
  | some (c, d) => ∃ g cap, e = .returned (.tuple #[.slice (some ⟨g, 0, none⟩) c.length cap, .int .i64 d, .bool true, .int .i64 0]) ∧ keysR.R w' (fun b => B ≤ b) [.slice (some ⟨g, 0, none⟩) c.length cap] c

theorem BufOk.read {A : World} {buf n : Nat} {x : List Key2} (h : BufOk A buf n x) (hx : x.length = n) (hn : n ≤ 8) (hin : ∀ k ∈ x, (-20 ≤ k.1 ∧ k.1 ≤ 20) ∧ (-20 ≤ k.2 ∧ k.2 ≤ 20)) :
    keysR.R A (fun _ => True) [.slice (some ⟨buf, 0, none⟩) n n] x ∧ At A buf 0 (x.flatMap keyC) := by
  obtain ⟨cur, h1, h2, h3⟩ := h
  subst hx
  have ho : A.ownsRow 0 23 2 (.slice (some ⟨buf, 0, none⟩) x.length x.length) x.length (x.flatMap keyC) :=
    ⟨keyC_len x, .inr ⟨buf, x.length, cur, rfl, Nat.zero_le _, h1, Nat.le_refl _, by unfold maxLen; omega, h2, h3⟩⟩
  refine ⟨keys_of_own ho (fun _ _ => trivial) fun k hk => ?_, ?_⟩
  · have := hin k hk
    exact ⟨wf64_mk (by omega) (by omega), wf64_mk (by omega) (by omega)⟩
  · refine h1.at _ _ fun i hi => ?_
    have hi' := hi
    rw [keyC_len] at hi'
    have e : (x.flatMap keyC)[i] = (cur.toList.take (x.length * 2))[i]'(by rw [h3]; exact hi) := by simp only [h3]
    rw [e, List.getElem_take, Nat.zero_add, Array.getElem?_eq_getElem (by omega)]
    simp
theorem leastInv_put {D : Int → Int → Int} {n z bd : Nat} {pre : List (List Key2)} {B : World} {v1 v2 : Value} {g cap : Nat} {x : List Key2} {dx : Int} (h1 : Blk B (z + 1) #[v1] 31) (h2 : Blk B bd #[v2] 3) (hne : bd < z)
    (h3 : keysR.R B (fun b => z + 8 ≤ b) [.slice (some ⟨g, 0, none⟩) n cap] x) (h4 : leastOf D pre = some (x, dx)) :
    LeastInv D n z bd pre ((B.setCell ⟨z + 1, 0, none⟩ (.slice (some ⟨g, 0, none⟩) n cap)).setCell ⟨bd, 0, none⟩ (.int .i64 dx)) := by
  unfold LeastInv
  rw [h4]
  have k1 : Keeps (fun b => b ≠ z + 1) B (B.setCell ⟨z + 1, 0, none⟩ (.slice (some ⟨g, 0, none⟩) n cap)) := Keeps.setCell (p := ⟨z + 1, 0, none⟩) (by simp)
  have k2 : ∀ A : World, Keeps (fun b => b ≠ bd) A (A.setCell ⟨bd, 0, none⟩ (.int .i64 dx)) := fun A => Keeps.setCell (p := ⟨bd, 0, none⟩) (by simp)
  exact ⟨g, cap, (h1.set 0 _).keep (k2 _) (by omega), (h2.keep k1 (by omega)).set 0 _, keysR.keep (keysR.keep h3 (k1.mono fun b hb => by omega)) ((k2 _).mono fun b hb => by omega)⟩
theorem leastInv_all {D : Int → Int → Int} {n z bd : Nat} {pre post : List (List Key2)} {B : World} {c : List Key2} {d : Int} (h : LeastInv D n z bd pre B) (h1 : leastOf D pre = some (c, d)) (h0 : d = 0) : LeastInv D n z bd (pre ++ post) B := by
  subst h0
  have h2 := leastOf_zero h1 (post := post) fun x _ => diam_ge D x
  unfold LeastInv at h ⊢
  rw [h2]
  rw [h1] at h
  exact h
theorem foldl_mem {D : Int → Int → Int} : ∀ (l : List (List Key2)) (acc : Option (List Key2 × Int)) {c : List Key2} {d : Int}, l.foldl (stepL D) acc = some (c, d) → c ∈ l ∨ acc = some (c, d)
  | [], acc, c, d, h => .inr h
  | x :: l, acc, c, d, h => by
    rw [List.foldl_cons] at h
    rcases foldl_mem l _ h with h1 | h1
    · exact .inl (by simp [h1])
    · unfold stepL at h1
      split at h1
      · simp only [Option.some.injEq, Prod.mk.injEq] at h1
        exact .inl (by simp [← h1.1])
      · split at h1
        · simp only [Option.some.injEq, Prod.mk.injEq] at h1
          exact .inl (by simp [← h1.1])
        · exact .inr h1
theorem leastOf_mem {D : Int → Int → Int} {all : List (List Key2)} {c : List Key2} {d : Int} (h : leastOf D all = some (c, d)) : c ∈ all := by
  rcases foldl_mem all none h with h1 | h1
  · exact h1
  · cases h1
theorem enters_choices1 : ∀ (xs : Array Value) (w : World), (callFunc 53 xs).run Try.prog w = .ok (.enter 53 xs) w := enters Try.func53 (by kernel_rfl) (by kernel_rfl)
/-- What else holds between two rounds. -/
structure LeastFr (w : World) (z F : Nat) (A : World) : Prop where
  far : Blk A z #[.func (.func F) #[] #[]] 76
  bel : Below w.heap.size w A
  size : z + 3 ≤ A.heap.size
set_option maxRecDepth 100000 in
set_option maxHeartbeats 4000000 in
theorem least_good {w : World} {ok : Nat → Prop} {cs : List Value} {q : Quest} (h : questR.R w ok cs q) (hg : reachCheck q = 0) (hc : (qCount q).2 = 0) :
    Calls Try.prog 17 #[.agg cs.toArray] w fun e w' => leastRes (farD q.l.kind) (chs (qLists q)) w.heap.size e w' ∧ Below w.heap.size w w' := by
  have hT := questR.mono h (fun _ _ => trivial : ∀ b, ok b → (fun _ => True) b)
  have HQK := Lib.hid (fun w' (k : Keeps (fun _ => True) w w') => callsIn_wide (n := 2).2 (qkeys_good (questR.keep hT k) hg))
  obtain ⟨a1, c1, a2, c2, a3, c3, a4, c4, rfl, -, -, -, -⟩ := quest_cells h
  clear h hT
  have hkind : q.l.kind = 1 ∨ q.l.kind = 2 := (layCheck_right (reachCheck_good hg).1).1
  obtain ⟨hm1, hm2⟩ := measure_good hkind (show ([] : List Key2).any outK = false from rfl)
  have HM := Lib.hid (fun w' => callsIn_wide (n := 2).2 (measure_calls (w := w') (ok := fun _ => True) (v := .slice none 0 0) (l := []) ⟨none, 0, rfl, Nat.le_refl _, by decide, .inl rfl⟩ q.l.kind))
  have HE := Lib.hid hc
  have HG := Lib.hid hg
  have hc0 : ((qCount q).2 != 0) = false := by simp [hc]
  have hm0 : (measureErr q.l.kind [] != 0) = false := by simp [hm1]
  have HM2 := Lib.hid hm2
  have HM1 := Lib.hid hm1
  clear hc hg hm1 hm2
  have hfw : ∀ f, Fence.wide.fn f := fun _ => trivial
  have hdw : Fence.wide.depth.isSome = false := rfl
  refine callsIn_wide (n := 3).1 ?_
  refine callsIn_of_wp_marks Try.func17 rfl trivial ?_ rfl
  simp only [Try.ntmps17, List.size_toArray, List.length_cons, List.length_nil, Nat.reduceAdd, Nat.reduceSub, Array.replicate_succ, Array.replicate_zero, List.push_toArray, List.append_toArray, List.nil_append, List.cons_append]
  gi_wp2_with fail
  refine (HQK.out _ ?_).mono ?_
  · exact (Keeps.alloc _ _ _).of_alloc _
  rintro e w1 ⟨v, rfl, hb1, hr1, -⟩
  have HLS := Lib.hid (hr1 HE.out)
  obtain ⟨ao, cap, rfl, hcp1, hcp2, -⟩ := slice1_cases rfl HLS.out
  have hlen : (qLists q).length = q.chord.length := by simp [qLists]
  have hrg := reachCheck_good HG.out
  have D1 : Blk w1 w.heap.size #[.int .i64 q.l.kind, .slice a1 q.l.o.length c1, .slice a2 q.l.r.length c2, .slice a3 q.l.u.length c3, .slice a4 q.chord.length c4, .int .i64 q.most] 46 := ((Blk.new w _ _).keep (Keeps.alloc _ _ (fun _ => True)) trivial).keep (Keeps.all hb1 (fun _ => True)) trivial
  have D2 : Blk w1 (w.heap.size + 1) #[.int .i64 0] 3 := (Blk.newAt _ _ (by simp)).keep (Keeps.all hb1 (fun _ => True)) trivial
  have X0 : w1.cell? ⟨w.heap.size, 0, none⟩ = some (.int .i64 q.l.kind) := by rw [D1.cell]; rfl
  have hs1 : w.heap.size + 2 ≤ w1.heap.size := by have := hb1.size; simpa using this
  have HBW1 := Lib.hid ((((Below.refl _ _).alloc (Nat.le_refl _) _).alloc (by simp) _).trans (hb1.mono (by simp; omega)) : Below w.heap.size w w1)
  have HD2 := Lib.hid D2
  obtain ⟨n, hn⟩ : ∃ n, n = (qLists q).length := ⟨_, rfl⟩
  have hn8 : n ≤ 8 := by omega
  have hn0 : 0 < n := by omega
  rw [← hn] at hcp1 HLS ⊢
  have HN := Lib.hid hn
  clear hr1 D1 D2 hlen hrg hb1 hn
  gi_wp2_with fail
  refine (HM.out _).mono ?_
  rintro e w2 ⟨rfl, hb2⟩
  rw [HM2.out]
  have HB2 := Lib.hid hb2
  have HD22 := Lib.hid (HD2.out.keep (Keeps.all hb2 (fun _ => True)) trivial)
  have hs2 : w.heap.size + 2 ≤ w2.heap.size := Nat.le_trans hs1 hb2.size
  have HLS2 := Lib.hid ((sliceR keysR).keep ((sliceR keysR).lt HLS.out) (Keeps.all hb2 _))
  clear hb2
  gi_wp2_with (gi_at_call 38; refine (callsIn_wide.2 (choices_calls _ _ ⟨_, _, _, rfl⟩)).mono ?_; rintro e w3 ⟨rfl, rfl⟩)
  obtain ⟨W3, hW3⟩ : ∃ W3, W3 = ((w2.alloc (.cells #[.func (.func (farF q.l.kind)) #[] #[]] 76)).alloc (.cells #[.slice none 0 0] 31)).alloc (.cells #[.slice ao n cap] 72) := ⟨_, rfl⟩
  have s3 : W3.heap.size = w2.heap.size + 3 := by rw [hW3]; simp
  have k3 : Keeps (fun _ => True) w2 W3 := by rw [hW3]; exact ((Keeps.alloc _ _ _).of_alloc _).of_alloc _
  have f3 : Blk W3 w2.heap.size #[.func (.func (farF q.l.kind)) #[] #[]] 76 := by
    rw [hW3]; exact ((Blk.new w2 _ _).keep (Keeps.alloc _ _ (fun _ => True)) trivial).keep (Keeps.alloc _ _ (fun _ => True)) trivial
  have n3 : Blk W3 (w2.heap.size + 1) #[.slice none 0 0] 31 := by
    rw [hW3]; exact (Blk.newAt _ _ (by simp)).keep (Keeps.alloc _ _ (fun _ => True)) trivial
  have l3 : Blk W3 (w2.heap.size + 2) #[.slice ao n cap] 72 := by
    rw [hW3]; exact Blk.newAt _ _ (by simp)
  have d3 := HD22.out.keep k3 trivial
  have b3 : Below w.heap.size w W3 := by
    rw [hW3]; exact (((HBW1.out.trans (HB2.out.mono (by omega))).alloc (by omega) _).alloc (by simp; omega) _).alloc (by simp; omega) _
  have ls3 := (sliceR keysR).keep HLS2.out (k3.mono fun _ _ => trivial)
  have hb2s := HB2.out.size
  rw [← hW3]
  have HF3 := Lib.hid (And.intro f3 (And.intro n3 (And.intro l3 (And.intro d3 (And.intro b3 ls3)))))
  have s31 : W3.heap.size ≤ w2.heap.size + 3 := by omega
  have s32 : w2.heap.size + 3 ≤ W3.heap.size := by omega
  have HS3 := Lib.hid s3
  clear hW3 f3 n3 l3 d3 b3 ls3 k3 s3
  refine wpIn_range (gf := 53) (lb := #[.pointer (some ⟨w2.heap.size + 1 + 1, 0, none⟩)]) rfl enters_choices1 (encs := fun _ : List Key2 => #[.slice (some ⟨W3.heap.size + 2 + 2, 0, none⟩) n n]) (fun _ => rfl)
    (S := fun b => b < W3.heap.size + 5) (K := fun b => b ≠ W3.heap.size + 1 ∧ b ≠ W3.heap.size ∧ b ≠ w2.heap.size + 1 ∧ b ≠ w.heap.size + 1) (X := fun x A => BufOk A (W3.heap.size + 2 + 2) n x ∧ x.length = n) (all := chs (qLists q))
    ?hit ?hKL ?hKD ?hX (fun pre A => LeastInv (farD q.l.kind) n w2.heap.size (w.heap.size + 1) pre A ∧ LeastFr w w2.heap.size (farF q.l.kind) A)
    (fun c _ A => c = .exit 0 ∧ LeastInv (farD q.l.kind) n w2.heap.size (w.heap.size + 1) (chs (qLists q)) A ∧ LeastFr w w2.heap.size (farF q.l.kind) A) ?hI ?hIx ?h0 ?hround ?hdone ?hstop
  case hit =>
    intro rec
    have hsW : ((W3.alloc (.deferred (some []))).alloc (.loop rec)).heap.size = W3.heap.size + 2 := by simp
    have hkW : Keeps (fun _ => True) W3 ((W3.alloc (.deferred (some []))).alloc (.loop rec)) := (Keeps.alloc _ _ _).of_alloc _
    have := choices1_iter' 2 (w2.heap.size + 2) (W3.heap.size + 2) n (fun b => b ≠ W3.heap.size + 1 ∧ b ≠ W3.heap.size ∧ b ≠ w2.heap.size + 1 ∧ b ≠ w.heap.size + 1) (.slice ao n cap) (qLists q) _ hsW HN.out.symm
      (HF3.out.2.2.1.keep hkW trivial) ⟨⟨by omega, by omega, by omega, by omega⟩, by omega⟩ ((sliceR keysR).mono ((sliceR keysR).keep HF3.out.2.2.2.2.2 (hkW.mono fun _ _ => trivial)) fun b hb => ⟨⟨by omega, by omega, by omega, by have := hb.1; simp at this; omega⟩, by omega⟩) (fun b h1 h2 => ⟨by omega, by omega, by omega, by omega⟩) hn8
    exact this
  case hKL => simp
  case hKD => simp
  case hX =>
    rintro x A B ⟨h1, h2⟩ k
    exact ⟨h1.keep k (by omega), h2⟩
  case hI =>
    rintro s A B ⟨h1, h2⟩ k b
    refine ⟨h1.keep k (by omega) (by omega) (fun b hb => by omega), h2.far.keep k (by omega), h2.bel.trans (b.mono (by omega)), Nat.le_trans h2.size b.size⟩
  case hIx =>
    rintro c s A B ⟨h0, h1, h2⟩ k b
    refine ⟨h0, h1.keep k (by omega) (by omega) (fun b hb => by omega), h2.far.keep k (by omega), h2.bel.trans (b.mono (by omega)), Nat.le_trans h2.size b.size⟩
  case h0 =>
    refine ⟨⟨HF3.out.2.1, HF3.out.2.2.2.1⟩, HF3.out.1, HF3.out.2.2.2.2.1, ?_⟩
    omega
  case hround =>
    rintro pre x A B ⟨hinv, hfr⟩ ⟨post, hpost⟩ ⟨hx, hxl⟩ hlt
    have hxm : x ∈ chs (qLists q) := by rw [hpost]; simp
    have hin := qLists_in HG.out hxm
    obtain ⟨hrx, hatx⟩ := hx.read hxl hn8 hin
    have hsB : w2.heap.size + 8 ≤ B.heap.size := by
      obtain ⟨cur, hb, -⟩ := hx
      have := hb.lt
      omega
    have HDI := Lib.hid (callsIn_wide (n := 1).2 (diameter_calls (far_ok q.l.kind) hrx (fun i => by
      rcases Nat.lt_or_ge i x.length with hi | hi
      · rw [List.getElem?_eq_getElem hi]
        have := hin _ (List.getElem_mem hi)
        simp only [Option.getD_some, keyIn]
        omega
      · rw [List.getElem?_eq_none hi]; simp [keyIn])))
    have HCL := Lib.hid (fun B' (k : Keeps (fun _ => True) B B') => callsIn_wide (n := 1).2 (cloneKeys_calls (cap := n) (hatx.keep k trivial) hxl hn0 (by omega)))
    have HIN := Lib.hid hin
    have Y0 : B.cell? ⟨w2.heap.size, 0, none⟩ = some (.func (.func (farF q.l.kind)) #[] #[]) := by rw [hfr.far.cell]; rfl
    have HFR := Lib.hid hfr
    have HINV := Lib.hid hinv
    have HPO := Lib.hid hpost
    have qT := Try.eql_keys
    have hD0 := diam_ge (farD q.l.kind) x
    obtain ⟨dx, hdx⟩ : ∃ dx, dx = diam (farD q.l.kind) x := ⟨_, rfl⟩
    rw [← hdx] at HDI hD0
    have HDX := Lib.hid hdx
    clear hx hrx hatx hin hfr hinv hpost hxm hdx hb2s
    gi_wp2
    refine ⟨trivial, ?_⟩
    gi_wp2_with fail
    refine (CallsIn.inRound _ HDI.out).mono ?_
    rintro e B2 ⟨rfl, hb2⟩
    have HB2' := Lib.hid hb2
    have D1 := (HFR.out.far).keep (Keeps.all hb2 (fun _ => True)) trivial
    have hsB2 : w2.heap.size + 8 ≤ B2.heap.size := Nat.le_trans hsB hb2.size
    have HKB2 := Lib.hid (Keeps.all hb2 (fun _ => True))
    clear hb2 Y0
    cases hle : leastOf (farD q.l.kind) pre with
    | none =>
      have hiv := HINV.out
      unfold LeastInv at hiv
      rw [hle] at hiv
      have E1 := hiv.1.keep HKB2.out trivial
      have E2 := hiv.2.keep HKB2.out trivial
      have Z1 : B2.cell? ⟨w2.heap.size + 1, 0, none⟩ = some (.slice none 0 0) := by rw [E1.cell]; rfl
      have HE12 := Lib.hid (And.intro E1 E2)
      have HST := Lib.hid (show leastOf (farD q.l.kind) (pre ++ [x]) = some (x, dx) by rw [leastOf_snoc, hle, stepL, HDX.out])
      clear hiv E1 E2 hle D1
      by_cases hd0 : dx = 0
      · have hd0' : (dx == 0) = true := by simp [hd0]
        have HD0 := Lib.hid hd0
        clear hd0
        gi_wp2_with fail
        refine (CallsIn.inRound _ (HCL.out _ HKB2.out)).mono ?_
        rintro e B3 ⟨g, c, rfl, hown, hg, hb3⟩
        have HB3' := Lib.hid hb3
        have G1 := HE12.out.1.keep (Keeps.all hb3 (fun _ => True)) trivial
        have G2 := HE12.out.2.keep (Keeps.all hb3 (fun _ => True)) trivial
        have V1 : B3.cell? ⟨w2.heap.size + 1, 0, none⟩ = some (.slice none 0 0) := by rw [G1.cell]; rfl
        have V2 : B3.frozen? ⟨w2.heap.size + 1, 0, none⟩ = false := G1.free 0
        have V3 : B3.cell? ⟨w.heap.size + 1, 0, none⟩ = some (.int .i64 0) := by rw [G2.cell]; rfl
        have V4 : B3.frozen? ⟨w.heap.size + 1, 0, none⟩ = false := G2.free 0
        have hown' := hown
        rw [← hxl] at hown'
        have hky := keys_of_own (ok := fun b => w2.heap.size + 8 ≤ b) (l := x) hown' (fun b hb => by omega) (fun k hk => by have := HIN.out k hk; exact ⟨wf64_mk (by omega) (by omega), wf64_mk (by omega) (by omega)⟩)
        rw [hxl] at hky
        have HPUT := Lib.hid (leastInv_put (n := n) G1 G2 (by omega) hky HST.out)
        have KB3 := HKB2.out.trans (Keeps.all hb3 (fun _ => True))
        have KS : ∀ v v' : Value, Keeps (fun b => b ≠ w2.heap.size + 1 ∧ b ≠ w.heap.size + 1) B ((B3.setCell ⟨w2.heap.size + 1, 0, none⟩ v).setCell ⟨w.heap.size + 1, 0, none⟩ v') := fun v v' => ((KB3.mono fun _ _ => trivial).trans (Keeps.setCell (p := ⟨w2.heap.size + 1, 0, none⟩) (by simp))).trans (Keeps.setCell (p := ⟨w.heap.size + 1, 0, none⟩) (by simp))
        have BS : ∀ v v' : Value, Below w.heap.size w ((B3.setCell ⟨w2.heap.size + 1, 0, none⟩ v).setCell ⟨w.heap.size + 1, 0, none⟩ v') := fun v v' => (((HFR.out.bel.trans (HB2'.out.mono (by omega))).trans (hb3.mono (by omega))).setCell (p := ⟨w2.heap.size + 1, 0, none⟩) (by simp; omega) _).setCell (p := ⟨w.heap.size + 1, 0, none⟩) (by simp) _
        have SS : ∀ v v' : Value, B.heap.size ≤ ((B3.setCell ⟨w2.heap.size + 1, 0, none⟩ v).setCell ⟨w.heap.size + 1, 0, none⟩ v').heap.size := fun v v' => by
          have h1 := HB2'.out.size
          have h2 := hb3.size
          simp [World.setCell]; omega
        have HKS := Lib.hid KS
        have HBS := Lib.hid BS
        have HSS := Lib.hid SS
        clear KS BS SS KB3 hky hown' hown hg G1 G2 hb3
        gi_wp2
        exact ⟨(HKS.out _ _).mono (fun b hb => by omega), rfl, by rw [HPO.out, show pre ++ x :: post = (pre ++ [x]) ++ post by simp]; exact leastInv_all HPUT.out HST.out HD0.out, (HFR.out.far).keep (HKS.out _ _) (by omega), HBS.out _ _, Nat.le_trans HFR.out.size (HSS.out _ _)⟩
      · have hd0' : (dx == 0) = false := beq_eq_false_iff_ne.2 hd0
        gi_wp2_with fail
        refine (CallsIn.inRound _ (HCL.out _ HKB2.out)).mono ?_
        rintro e B3 ⟨g, c, rfl, hown, hg, hb3⟩
        have HB3' := Lib.hid hb3
        have G1 := HE12.out.1.keep (Keeps.all hb3 (fun _ => True)) trivial
        have G2 := HE12.out.2.keep (Keeps.all hb3 (fun _ => True)) trivial
        have V1 : B3.cell? ⟨w2.heap.size + 1, 0, none⟩ = some (.slice none 0 0) := by rw [G1.cell]; rfl
        have V2 : B3.frozen? ⟨w2.heap.size + 1, 0, none⟩ = false := G1.free 0
        have V3 : B3.cell? ⟨w.heap.size + 1, 0, none⟩ = some (.int .i64 0) := by rw [G2.cell]; rfl
        have V4 : B3.frozen? ⟨w.heap.size + 1, 0, none⟩ = false := G2.free 0
        have hown' := hown
        rw [← hxl] at hown'
        have hky := keys_of_own (ok := fun b => w2.heap.size + 8 ≤ b) (l := x) hown' (fun b hb => by omega) (fun k hk => by have := HIN.out k hk; exact ⟨wf64_mk (by omega) (by omega), wf64_mk (by omega) (by omega)⟩)
        rw [hxl] at hky
        have HPUT := Lib.hid (leastInv_put (n := n) G1 G2 (by omega) hky HST.out)
        have KB3 := HKB2.out.trans (Keeps.all hb3 (fun _ => True))
        have KS : ∀ v v' : Value, Keeps (fun b => b ≠ w2.heap.size + 1 ∧ b ≠ w.heap.size + 1) B ((B3.setCell ⟨w2.heap.size + 1, 0, none⟩ v).setCell ⟨w.heap.size + 1, 0, none⟩ v') := fun v v' => ((KB3.mono fun _ _ => trivial).trans (Keeps.setCell (p := ⟨w2.heap.size + 1, 0, none⟩) (by simp))).trans (Keeps.setCell (p := ⟨w.heap.size + 1, 0, none⟩) (by simp))
        have BS : ∀ v v' : Value, Below w.heap.size w ((B3.setCell ⟨w2.heap.size + 1, 0, none⟩ v).setCell ⟨w.heap.size + 1, 0, none⟩ v') := fun v v' => (((HFR.out.bel.trans (HB2'.out.mono (by omega))).trans (hb3.mono (by omega))).setCell (p := ⟨w2.heap.size + 1, 0, none⟩) (by simp; omega) _).setCell (p := ⟨w.heap.size + 1, 0, none⟩) (by simp) _
        have SS : ∀ v v' : Value, B.heap.size ≤ ((B3.setCell ⟨w2.heap.size + 1, 0, none⟩ v).setCell ⟨w.heap.size + 1, 0, none⟩ v').heap.size := fun v v' => by
          have h1 := HB2'.out.size
          have h2 := hb3.size
          simp [World.setCell]; omega
        have HKS := Lib.hid KS
        have HBS := Lib.hid BS
        have HSS := Lib.hid SS
        clear KS BS SS KB3 hky hown' hown hg G1 G2 hb3
        gi_wp2
        exact ⟨(HKS.out _ _).mono (fun b hb => by omega), (HKS.out _ _).mono (fun b hb => by omega), HSS.out _ _, HPUT.out, (HFR.out.far).keep (HKS.out _ _) (by omega), HBS.out _ _, Nat.le_trans HFR.out.size (HSS.out _ _)⟩
    | some cd =>
      obtain ⟨bc, bd⟩ := cd
      have hiv := HINV.out
      unfold LeastInv at hiv
      rw [hle] at hiv
      obtain ⟨g0, cap0, q1, q2, q3⟩ := hiv
      have E1 := q1.keep HKB2.out trivial
      have E2 := q2.keep HKB2.out trivial
      have Z1 : B2.cell? ⟨w2.heap.size + 1, 0, none⟩ = some (.slice (some ⟨g0, 0, none⟩) n cap0) := by rw [E1.cell]; rfl
      have Z2 : B2.cell? ⟨w.heap.size + 1, 0, none⟩ = some (.int .i64 bd) := by rw [E2.cell]; rfl
      have HE12 := Lib.hid (And.intro E1 E2)
      by_cases hlt2 : dx < bd
      · have HST := Lib.hid (show leastOf (farD q.l.kind) (pre ++ [x]) = some (x, dx) by rw [leastOf_snoc, hle, stepL, ← HDX.out, if_pos hlt2])
        clear E1 E2 hle D1 q1 q2 q3
        by_cases hd0 : dx = 0
        · have hd0' : (dx == 0) = true := by simp [hd0]
          have HD0 := Lib.hid hd0
          clear hd0
          gi_wp2_with fail
          refine (CallsIn.inRound _ (HCL.out _ HKB2.out)).mono ?_
          rintro e B3 ⟨g, c, rfl, hown, hg, hb3⟩
          have HB3' := Lib.hid hb3
          have G1 := HE12.out.1.keep (Keeps.all hb3 (fun _ => True)) trivial
          have G2 := HE12.out.2.keep (Keeps.all hb3 (fun _ => True)) trivial
          have V1 : B3.cell? ⟨w2.heap.size + 1, 0, none⟩ = some (.slice (some ⟨g0, 0, none⟩) n cap0) := by rw [G1.cell]; rfl
          have V2 : B3.frozen? ⟨w2.heap.size + 1, 0, none⟩ = false := G1.free 0
          have V3 : B3.cell? ⟨w.heap.size + 1, 0, none⟩ = some (.int .i64 bd) := by rw [G2.cell]; rfl
          have V4 : B3.frozen? ⟨w.heap.size + 1, 0, none⟩ = false := G2.free 0
          have hown' := hown
          rw [← hxl] at hown'
          have hky := keys_of_own (ok := fun b => w2.heap.size + 8 ≤ b) (l := x) hown' (fun b hb => by omega) (fun k hk => by have := HIN.out k hk; exact ⟨wf64_mk (by omega) (by omega), wf64_mk (by omega) (by omega)⟩)
          rw [hxl] at hky
          have HPUT := Lib.hid (leastInv_put (n := n) G1 G2 (by omega) hky HST.out)
          have KB3 := HKB2.out.trans (Keeps.all hb3 (fun _ => True))
          have KS : ∀ v v' : Value, Keeps (fun b => b ≠ w2.heap.size + 1 ∧ b ≠ w.heap.size + 1) B ((B3.setCell ⟨w2.heap.size + 1, 0, none⟩ v).setCell ⟨w.heap.size + 1, 0, none⟩ v') := fun v v' => ((KB3.mono fun _ _ => trivial).trans (Keeps.setCell (p := ⟨w2.heap.size + 1, 0, none⟩) (by simp))).trans (Keeps.setCell (p := ⟨w.heap.size + 1, 0, none⟩) (by simp))
          have BS : ∀ v v' : Value, Below w.heap.size w ((B3.setCell ⟨w2.heap.size + 1, 0, none⟩ v).setCell ⟨w.heap.size + 1, 0, none⟩ v') := fun v v' => (((HFR.out.bel.trans (HB2'.out.mono (by omega))).trans (hb3.mono (by omega))).setCell (p := ⟨w2.heap.size + 1, 0, none⟩) (by simp; omega) _).setCell (p := ⟨w.heap.size + 1, 0, none⟩) (by simp) _
          have SS : ∀ v v' : Value, B.heap.size ≤ ((B3.setCell ⟨w2.heap.size + 1, 0, none⟩ v).setCell ⟨w.heap.size + 1, 0, none⟩ v').heap.size := fun v v' => by
            have h1 := HB2'.out.size
            have h2 := hb3.size
            simp [World.setCell]; omega
          have HKS := Lib.hid KS
          have HBS := Lib.hid BS
          have HSS := Lib.hid SS
          clear KS BS SS KB3 hky hown' hown hg G1 G2 hb3
          gi_wp2
          exact ⟨(HKS.out _ _).mono (fun b hb => by omega), rfl, by rw [HPO.out, show pre ++ x :: post = (pre ++ [x]) ++ post by simp]; exact leastInv_all HPUT.out HST.out HD0.out, (HFR.out.far).keep (HKS.out _ _) (by omega), HBS.out _ _, Nat.le_trans HFR.out.size (HSS.out _ _)⟩
        · have hd0' : (dx == 0) = false := beq_eq_false_iff_ne.2 hd0
          gi_wp2_with fail
          refine (CallsIn.inRound _ (HCL.out _ HKB2.out)).mono ?_
          rintro e B3 ⟨g, c, rfl, hown, hg, hb3⟩
          have HB3' := Lib.hid hb3
          have G1 := HE12.out.1.keep (Keeps.all hb3 (fun _ => True)) trivial
          have G2 := HE12.out.2.keep (Keeps.all hb3 (fun _ => True)) trivial
          have V1 : B3.cell? ⟨w2.heap.size + 1, 0, none⟩ = some (.slice (some ⟨g0, 0, none⟩) n cap0) := by rw [G1.cell]; rfl
          have V2 : B3.frozen? ⟨w2.heap.size + 1, 0, none⟩ = false := G1.free 0
          have V3 : B3.cell? ⟨w.heap.size + 1, 0, none⟩ = some (.int .i64 bd) := by rw [G2.cell]; rfl
          have V4 : B3.frozen? ⟨w.heap.size + 1, 0, none⟩ = false := G2.free 0
          have hown' := hown
          rw [← hxl] at hown'
          have hky := keys_of_own (ok := fun b => w2.heap.size + 8 ≤ b) (l := x) hown' (fun b hb => by omega) (fun k hk => by have := HIN.out k hk; exact ⟨wf64_mk (by omega) (by omega), wf64_mk (by omega) (by omega)⟩)
          rw [hxl] at hky
          have HPUT := Lib.hid (leastInv_put (n := n) G1 G2 (by omega) hky HST.out)
          have KB3 := HKB2.out.trans (Keeps.all hb3 (fun _ => True))
          have KS : ∀ v v' : Value, Keeps (fun b => b ≠ w2.heap.size + 1 ∧ b ≠ w.heap.size + 1) B ((B3.setCell ⟨w2.heap.size + 1, 0, none⟩ v).setCell ⟨w.heap.size + 1, 0, none⟩ v') := fun v v' => ((KB3.mono fun _ _ => trivial).trans (Keeps.setCell (p := ⟨w2.heap.size + 1, 0, none⟩) (by simp))).trans (Keeps.setCell (p := ⟨w.heap.size + 1, 0, none⟩) (by simp))
          have BS : ∀ v v' : Value, Below w.heap.size w ((B3.setCell ⟨w2.heap.size + 1, 0, none⟩ v).setCell ⟨w.heap.size + 1, 0, none⟩ v') := fun v v' => (((HFR.out.bel.trans (HB2'.out.mono (by omega))).trans (hb3.mono (by omega))).setCell (p := ⟨w2.heap.size + 1, 0, none⟩) (by simp; omega) _).setCell (p := ⟨w.heap.size + 1, 0, none⟩) (by simp) _
          have SS : ∀ v v' : Value, B.heap.size ≤ ((B3.setCell ⟨w2.heap.size + 1, 0, none⟩ v).setCell ⟨w.heap.size + 1, 0, none⟩ v').heap.size := fun v v' => by
            have h1 := HB2'.out.size
            have h2 := hb3.size
            simp [World.setCell]; omega
          have HKS := Lib.hid KS
          have HBS := Lib.hid BS
          have HSS := Lib.hid SS
          clear KS BS SS KB3 hky hown' hown hg G1 G2 hb3
          gi_wp2
          exact ⟨(HKS.out _ _).mono (fun b hb => by omega), (HKS.out _ _).mono (fun b hb => by omega), HSS.out _ _, HPUT.out, (HFR.out.far).keep (HKS.out _ _) (by omega), HBS.out _ _, Nat.le_trans HFR.out.size (HSS.out _ _)⟩
      · have HST := Lib.hid (show leastOf (farD q.l.kind) (pre ++ [x]) = leastOf (farD q.l.kind) pre by rw [leastOf_snoc, hle, stepL, ← HDX.out, if_neg hlt2])
        have HIV2 := Lib.hid (show LeastInv (farD q.l.kind) n w2.heap.size (w.heap.size + 1) (pre ++ [x]) B2 by
          have := HINV.out.keep HKB2.out trivial trivial (fun _ _ => trivial)
          unfold LeastInv at this ⊢
          rw [HST.out]; exact this)
        clear E1 E2 hle D1 q1 q2 q3
        gi_wp2
        exact ⟨HKB2.out.mono (fun _ _ => trivial), HKB2.out.mono (fun _ _ => trivial), HB2'.out.size, HIV2.out, (HFR.out.far).keep HKB2.out trivial, HFR.out.bel.trans (HB2'.out.mono (by omega)), Nat.le_trans HFR.out.size HB2'.out.size⟩
  case hdone =>
    rintro B ⟨hinv, hfr⟩ hdef
    have qN := Try.neq_keys
    cases hle : leastOf (farD q.l.kind) (chs (qLists q)) with
    | none =>
      have hiv := hinv
      unfold LeastInv at hiv
      rw [hle] at hiv
      have Z1 : B.cell? ⟨w2.heap.size + 1, 0, none⟩ = some (.slice none 0 0) := by rw [hiv.1.cell]; rfl
      have Z2 : B.cell? ⟨w.heap.size + 1, 0, none⟩ = some (.int .i64 0) := by rw [hiv.2.cell]; rfl
      have Z3 : B.frozen? ⟨w.heap.size + 1, 0, none⟩ = false := hiv.2.free 0
      have HH := Lib.hid (And.intro hiv.2 (And.intro hfr (And.intro hdef hle)))
      clear hinv hfr hdef hle hiv
      gi_wp2
      gi_region
      gi_wp2
      refine ⟨by simp, .inl ⟨_, _, rfl, run_takeDeferred (w := (B.setCell ⟨w.heap.size + 1, 0, none⟩ (.int .i64 0)).drew) ((Below.heap_setCell _ _ _ _ (by simp; omega)).trans HH.out.2.2.1), ?_⟩⟩
      have Zf : ((B.setCell ⟨w.heap.size + 1, 0, none⟩ (.int .i64 0)).drew.putObj W3.heap.size (.deferred none)).cell? ⟨w.heap.size + 1, 0, none⟩ = some (.int .i64 0) := by
        rw [(Blk.keep (w := (B.setCell ⟨w.heap.size + 1, 0, none⟩ (.int .i64 0)).drew) (HH.out.1.set 0 (.int .i64 0)) (keeps_putObj (ok := fun b => b ≠ W3.heap.size) _ (by simp)) (by omega)).cell]; rfl
      refine ⟨.tuple #[.slice none 0 0, .int .i64 0, .bool false, .int .i64 0], ?_, ?_⟩
      · simp [results, Try.results17, go_sem, Zf]
      · refine ⟨?_, ((HH.out.2.1.bel.setCell (p := ⟨w.heap.size + 1, 0, none⟩) (by simp) _).drew).trans (below_putObj _ (by omega))⟩
        unfold leastRes
        rw [HH.out.2.2.2]
    | some cd =>
      obtain ⟨bc, bd⟩ := cd
      have hiv := hinv
      unfold LeastInv at hiv
      rw [hle] at hiv
      obtain ⟨g0, cap0, q1, q2, q3⟩ := hiv
      have Z1 : B.cell? ⟨w2.heap.size + 1, 0, none⟩ = some (.slice (some ⟨g0, 0, none⟩) n cap0) := by rw [q1.cell]; rfl
      have Z2 : B.cell? ⟨w.heap.size + 1, 0, none⟩ = some (.int .i64 bd) := by rw [q2.cell]; rfl
      have Z3 : B.frozen? ⟨w.heap.size + 1, 0, none⟩ = false := q2.free 0
      have hbl : bc.length = n := (chs_mem (leastOf_mem hle)).1.trans HN.out.symm
      have HH := Lib.hid (And.intro q2 (And.intro hfr (And.intro hdef (And.intro hle (And.intro q3 hbl)))))
      clear hinv hfr hdef hle q1 q2 q3 hbl
      gi_wp2
      gi_region
      gi_wp2
      refine ⟨by simp, .inl ⟨_, _, rfl, run_takeDeferred (w := (B.setCell ⟨w.heap.size + 1, 0, none⟩ (.int .i64 bd)).drew) ((Below.heap_setCell _ _ _ _ (by simp; omega)).trans HH.out.2.2.1), ?_⟩⟩
      have Zf : ((B.setCell ⟨w.heap.size + 1, 0, none⟩ (.int .i64 bd)).drew.putObj W3.heap.size (.deferred none)).cell? ⟨w.heap.size + 1, 0, none⟩ = some (.int .i64 bd) := by
        rw [(Blk.keep (w := (B.setCell ⟨w.heap.size + 1, 0, none⟩ (.int .i64 bd)).drew) (HH.out.1.set 0 (.int .i64 bd)) (keeps_putObj (ok := fun b => b ≠ W3.heap.size) _ (by simp)) (by omega)).cell]; rfl
      refine ⟨.tuple #[.slice (some ⟨g0, 0, none⟩) n cap0, .int .i64 bd, .bool true, .int .i64 0], ?_, ?_⟩
      · simp [results, Try.results17, go_sem, Zf]
      · refine ⟨?_, ((HH.out.2.1.bel.setCell (p := ⟨w.heap.size + 1, 0, none⟩) (by simp) _).drew).trans (below_putObj _ (by omega))⟩
        unfold leastRes
        rw [HH.out.2.2.2.1]
        dsimp only
        rw [HH.out.2.2.2.2.2]
        refine ⟨g0, cap0, rfl, keysR.mono (keysR.keep (keysR.keep HH.out.2.2.2.2.1 (w' := (B.setCell ⟨w.heap.size + 1, 0, none⟩ (.int .i64 bd)).drew) (Keeps.setCell (p := ⟨w.heap.size + 1, 0, none⟩) (by simp; omega))) (keeps_putObj _ (by simp; omega))) fun b hb => by omega⟩
  case hstop =>
    rintro c pre B hpre ⟨rfl, hinv, hfr⟩ hdef
    have qN := Try.neq_keys
    cases hle : leastOf (farD q.l.kind) (chs (qLists q)) with
    | none =>
      have hiv := hinv
      unfold LeastInv at hiv
      rw [hle] at hiv
      have Z1 : B.cell? ⟨w2.heap.size + 1, 0, none⟩ = some (.slice none 0 0) := by rw [hiv.1.cell]; rfl
      have Z2 : B.cell? ⟨w.heap.size + 1, 0, none⟩ = some (.int .i64 0) := by rw [hiv.2.cell]; rfl
      have Z3 : B.frozen? ⟨w.heap.size + 1, 0, none⟩ = false := hiv.2.free 0
      have HH := Lib.hid (And.intro hiv.2 (And.intro hfr (And.intro hdef hle)))
      clear hinv hfr hdef hle hiv
      gi_wp2
      gi_region
      gi_wp2
      refine ⟨by simp, .inl ⟨_, _, rfl, run_takeDeferred (w := (B.setCell ⟨w.heap.size + 1, 0, none⟩ (.int .i64 0)).drew) ((Below.heap_setCell _ _ _ _ (by simp; omega)).trans HH.out.2.2.1), ?_⟩⟩
      have Zf : ((B.setCell ⟨w.heap.size + 1, 0, none⟩ (.int .i64 0)).drew.putObj W3.heap.size (.deferred none)).cell? ⟨w.heap.size + 1, 0, none⟩ = some (.int .i64 0) := by
        rw [(Blk.keep (w := (B.setCell ⟨w.heap.size + 1, 0, none⟩ (.int .i64 0)).drew) (HH.out.1.set 0 (.int .i64 0)) (keeps_putObj (ok := fun b => b ≠ W3.heap.size) _ (by simp)) (by omega)).cell]; rfl
      refine ⟨.tuple #[.slice none 0 0, .int .i64 0, .bool false, .int .i64 0], ?_, ?_⟩
      · simp [results, Try.results17, go_sem, Zf]
      · refine ⟨?_, ((HH.out.2.1.bel.setCell (p := ⟨w.heap.size + 1, 0, none⟩) (by simp) _).drew).trans (below_putObj _ (by omega))⟩
        unfold leastRes
        rw [HH.out.2.2.2]
    | some cd =>
      obtain ⟨bc, bd⟩ := cd
      have hiv := hinv
      unfold LeastInv at hiv
      rw [hle] at hiv
      obtain ⟨g0, cap0, q1, q2, q3⟩ := hiv
      have Z1 : B.cell? ⟨w2.heap.size + 1, 0, none⟩ = some (.slice (some ⟨g0, 0, none⟩) n cap0) := by rw [q1.cell]; rfl
      have Z2 : B.cell? ⟨w.heap.size + 1, 0, none⟩ = some (.int .i64 bd) := by rw [q2.cell]; rfl
      have Z3 : B.frozen? ⟨w.heap.size + 1, 0, none⟩ = false := q2.free 0
      have hbl : bc.length = n := (chs_mem (leastOf_mem hle)).1.trans HN.out.symm
      have HH := Lib.hid (And.intro q2 (And.intro hfr (And.intro hdef (And.intro hle (And.intro q3 hbl)))))
      clear hinv hfr hdef hle q1 q2 q3 hbl
      gi_wp2
      gi_region
      gi_wp2
      refine ⟨by simp, .inl ⟨_, _, rfl, run_takeDeferred (w := (B.setCell ⟨w.heap.size + 1, 0, none⟩ (.int .i64 bd)).drew) ((Below.heap_setCell _ _ _ _ (by simp; omega)).trans HH.out.2.2.1), ?_⟩⟩
      have Zf : ((B.setCell ⟨w.heap.size + 1, 0, none⟩ (.int .i64 bd)).drew.putObj W3.heap.size (.deferred none)).cell? ⟨w.heap.size + 1, 0, none⟩ = some (.int .i64 bd) := by
        rw [(Blk.keep (w := (B.setCell ⟨w.heap.size + 1, 0, none⟩ (.int .i64 bd)).drew) (HH.out.1.set 0 (.int .i64 bd)) (keeps_putObj (ok := fun b => b ≠ W3.heap.size) _ (by simp)) (by omega)).cell]; rfl
      refine ⟨.tuple #[.slice (some ⟨g0, 0, none⟩) n cap0, .int .i64 bd, .bool true, .int .i64 0], ?_, ?_⟩
      · simp [results, Try.results17, go_sem, Zf]
      · refine ⟨?_, ((HH.out.2.1.bel.setCell (p := ⟨w.heap.size + 1, 0, none⟩) (by simp) _).drew).trans (below_putObj _ (by omega))⟩
        unfold leastRes
        rw [HH.out.2.2.2.1]
        dsimp only
        rw [HH.out.2.2.2.2.2]
        refine ⟨g0, cap0, rfl, keysR.mono (keysR.keep (keysR.keep HH.out.2.2.2.2.1 (w' := (B.setCell ⟨w.heap.size + 1, 0, none⟩ (.int .i64 bd)).drew) (Keeps.setCell (p := ⟨w.heap.size + 1, 0, none⟩) (by simp; omega))) (keeps_putObj _ (by simp; omega))) fun b hb => by omega⟩
-- Least, where the question is wrong or has too many choices.
set_option maxRecDepth 100000 in
set_option maxHeartbeats 1000000 in
theorem least_bad {w : World} {ok : Nat → Prop} {cs : List Value} {q : Quest} (h : questR.R w ok cs q) (hc : (qCount q).2 ≠ 0) :
    Calls Try.prog 17 #[.agg cs.toArray] w fun e w' => e = .returned (.tuple #[.slice none 0 0, .int .i64 0, .bool false, .int .i64 (qCount q).2]) ∧ Below w.heap.size w w' := by
  have hT := questR.mono h (fun _ _ => trivial : ∀ b, ok b → (fun _ => True) b)
  have HQK := Lib.hid (show ∀ w' (k : Keeps (fun _ => True) w w'), CallsIn Fence.wide 2 Try.prog 37 #[.agg cs.toArray] w' fun e w'' => e = .returned (.tuple #[.slice none 0 0, .int .i64 (qCount q).1, .int .i64 (qCount q).2]) ∧ Below w'.heap.size w' w'' from fun w' k => by
    refine callsIn_wide.2 ?_
    by_cases hg : reachCheck q = 0
    · refine (qkeys_good (questR.keep hT k) hg).mono ?_
      rintro e w'' ⟨v, he, hb, _, hv⟩
      rw [hv hc] at he
      exact ⟨he, hb⟩
    · have e1 : qCount q = (0, reachCheck q) := by rw [qCount, if_pos hg]
      rw [e1]
      exact qkeys_bad (questR.keep hT k) hg)
  obtain ⟨a1, c1, a2, c2, a3, c3, a4, c4, rfl, -, -, -, -⟩ := quest_cells h
  clear h hT
  have hc0 : ((qCount q).2 != 0) = true := by simp [hc]
  clear hc
  have hfw : ∀ f, Fence.wide.fn f := fun _ => trivial
  have hdw : Fence.wide.depth.isSome = false := rfl
  refine callsIn_wide (n := 3).1 ?_
  refine callsIn_of_wp_marks Try.func17 rfl trivial ?_ rfl
  simp only [Try.ntmps17, List.size_toArray, List.length_cons, List.length_nil, Nat.reduceAdd, Nat.reduceSub, Array.replicate_succ, Array.replicate_zero, List.push_toArray, List.append_toArray, List.nil_append, List.cons_append]
  gi_wp2_with fail
  refine (HQK.out _ ?_).mono ?_
  · exact (Keeps.alloc _ _ _).of_alloc _
  rintro e w1 ⟨rfl, hb1⟩
  have D2 : Blk w1 (w.heap.size + 1) #[.int .i64 0] 3 := (Blk.newAt _ _ (by simp)).keep (Keeps.all hb1 (fun _ => True)) trivial
  have Z2 : w1.cell? ⟨w.heap.size + 1, 0, none⟩ = some (.int .i64 0) := by rw [D2.cell]; rfl
  have Z3 : w1.frozen? ⟨w.heap.size + 1, 0, none⟩ = false := D2.free 0
  have HBW1 := Lib.hid ((((Below.refl _ _).alloc (Nat.le_refl _) _).alloc (by simp) _).trans (hb1.mono (by simp; omega)) : Below w.heap.size w w1)
  have HD2 := Lib.hid D2
  clear hb1 D2
  gi_wp2
  have Zf : (w1.setCell ⟨w.heap.size + 1, 0, none⟩ (.int .i64 0)).cell? ⟨w.heap.size + 1, 0, none⟩ = some (.int .i64 0) := by rw [(HD2.out.set 0 (.int .i64 0)).cell]; rfl
  refine ⟨.tuple #[.slice none 0 0, .int .i64 0, .bool false, .int .i64 (qCount q).2], ?_, ?_⟩
  · simp [results, Try.results17, go_sem, Zf]
  · exact ⟨rfl, HBW1.out.setCell (p := ⟨w.heap.size + 1, 0, none⟩) (by simp) _⟩
end Go.Proofs.Ytcnpanmkpfgdjaa
