/- Contract of reach.choices' inner function: one key of each list. -/
import Derived.Test.YtcnpanmkpfgdjaaQKeys
import Derived.Test.YtcnpanmkpfgdjaaIter
import Derived.Stop.RegionWithIn
namespace Go.Proofs.Ytcnpanmkpfgdjaa
open Go.RowKit Go.Sch
attribute [local go_sem] Oper.semAt_some

abbrev Key2 := Int × Int
/-- All choices, in order. -/
def chs : List (List Key2) → List (List Key2)
  | [] => [[]]
  | l :: ls => l.flatMap fun k => (chs ls).map (k :: ·)

/-- The buffer holds c at its head. -/
def BufOk (A : World) (buf n : Nat) (c : List Key2) : Prop := ∃ cur : Array Value, Blk A buf cur 23 ∧ cur.size = n * 2 ∧ cur.toList.take (c.length * 2) = c.flatMap keyC
theorem BufOk.keep {A B : World} {buf n : Nat} {c : List Key2} {ok : Nat → Prop} (h : BufOk A buf n c) (k : Keeps ok A B) (ho : ok buf) : BufOk B buf n c := by
  obtain ⟨cur, h1, h2, h3⟩ := h
  exact ⟨cur, h1.keep k ho, h2, h3⟩

theorem BufOk.front {A : World} {buf n : Nat} {c : List Key2} {key : Key2} (h : BufOk A buf n (c ++ [key])) : BufOk A buf n c := by
  obtain ⟨cur, h1, h2, h3⟩ := h
  refine ⟨cur, h1, h2, ?_⟩
  have h4 := congrArg (List.take (c.length * 2)) h3
  rw [List.take_take, List.length_append, List.length_singleton, Nat.min_eq_left (by omega), List.flatMap_append] at h4
  rw [h4]
  have hl : (c.flatMap keyC).length = c.length * 2 := by
    clear h4 h3 h2 h1
    induction c with
    | nil => rfl
    | cons x c ih => rw [List.flatMap_cons, List.length_append, ih]; simp [keyC]; omega
  rw [← hl, List.take_left]
theorem keyC_len : ∀ c : List Key2, (c.flatMap keyC).length = c.length * 2
  | [] => rfl
  | x :: c => by rw [List.flatMap_cons, List.length_append, keyC_len c]; simp [keyC]; omega
theorem BufOk.push {A : World} {buf n k : Nat} {c : List Key2} (key : Key2) (h : BufOk A buf n c) (hk : c.length = k) (hkn : k < n) :
    BufOk ((A.setCell ⟨buf, k * 2, none⟩ (.int .i64 key.1)).setCell ⟨buf, k * 2 + 1, none⟩ (.int .i64 key.2)) buf n (c ++ [key]) := by
  obtain ⟨cur, h1, h2, h3⟩ := h
  refine ⟨_, (h1.set _ _).set _ _, by simp [h2], ?_⟩
  rw [hk] at h3
  rw [List.length_append, List.length_singleton, hk, List.flatMap_append, ← h3]
  have hl : cur.toList.length = n * 2 := by rw [Array.length_toList, h2]
  apply List.ext_getElem
  · simp [keyC]; omega
  · intro i hi1 hi2
    simp only [List.length_take, Array.toList_setIfInBounds, List.length_set, hl] at hi1
    simp only [Array.toList_setIfInBounds, List.getElem_take, List.getElem_set]
    by_cases ha : i < k * 2
    · rw [if_neg (by omega), if_neg (by omega), List.getElem_append_left (by simp; omega), List.getElem_take]
    · rw [List.getElem_append_right (by simp; omega)]
      simp only [List.length_take, hl]
      by_cases hb : k * 2 + 1 = i
      · subst hb
        rw [if_pos rfl]
        have : k * 2 + 1 - min (k * 2) (n * 2) = 1 := by omega
        simp only [this]; rfl
      · have : i = k * 2 := by omega
        subst this
        rw [if_neg (by omega), if_pos rfl]
        have : k * 2 - min (k * 2) (n * 2) = 0 := by omega
        simp only [this]; rfl

/-- What stays as it is while the choices are gone through: the boxes and the lists (ok: their blocks). -/
structure FromSt (A : World) (ok : Nat → Prop) (l bl N0 : Nat) (vl : Value) (ls : List (List Key2)) : Prop where
  box : Blk A bl #[vl] 72
  okb : ok bl
  y : Blk A N0 #[.func (.yield l) #[] #[]] 100
  f : Blk A (N0 + 1) #[.func (.func 54) #[] #[.pointer (some ⟨bl, 0, none⟩), .pointer (some ⟨N0, 0, none⟩), .pointer (some ⟨N0 + 1, 0, none⟩)]] 100
  ok0 : ok N0
  ok1 : ok (N0 + 1)
  ls : (sliceR keysR).R A ok [vl] ls
theorem FromSt.keep {A B : World} {ok : Nat → Prop} {l bl N0 : Nat} {vl : Value} {ls : List (List Key2)} (h : FromSt A ok l bl N0 vl ls) (k : Keeps ok A B) : FromSt B ok l bl N0 vl ls :=
  ⟨h.box.keep k h.okb, h.okb, h.y.keep k h.ok0, h.f.keep k h.ok1, h.ok0, h.ok1, (sliceR keysR).keep h.ls k⟩
/-- What has come of the choices that begin with c, behind j keys of the next list. -/
def part (c : List Key2) (lk : List Key2) (D : List (List Key2)) (j : Nat) : List (List Key2) := (lk.take j).flatMap fun kk => (chs D).map ((c ++ [kk]) ++ ·)
theorem part_succ {c : List Key2} {lk : List Key2} {D : List (List Key2)} {j : Nat} (h : j < lk.length) : part c lk D (j + 1) = part c lk D j ++ (chs D).map ((c ++ [lk[j]]) ++ ·) := by
  rw [part, take_snoc h, List.flatMap_append, List.flatMap_cons, List.flatMap_nil, List.append_nil]
  rfl
theorem chs_cons (c : List Key2) (lk : List Key2) (D : List (List Key2)) : (chs (lk :: D)).map (c ++ ·) = part c lk D lk.length := by
  simp only [chs, part, List.take_length, List.map_flatMap, List.map_map]
  congr 1
  funext kk
  apply List.map_congr_left
  intro t _
  simp
theorem part_split {c : List Key2} {lk : List Key2} {D : List (List Key2)} {j : Nat} (h : j < lk.length) : ∃ rest, part c lk D lk.length = part c lk D j ++ (chs D).map ((c ++ [lk[j]]) ++ ·) ++ rest := by
  refine ⟨(lk.drop (j + 1)).flatMap fun kk => (chs D).map ((c ++ [kk]) ++ ·), ?_⟩
  rw [← part_succ h]
  simp only [part, List.take_length]
  rw [← List.flatMap_append, List.take_append_drop]

/-- It hands back a Bool: what holds then, by the Bool. -/
def BoolEnd (T F : World → Prop) (e : Ending) (B : World) : Prop := ∃ b, e = .returned (.bool b) ∧ (b = true → T B) ∧ (b = false → F B)
theorem enters_from : ∀ (xs : Array Value) (w : World), (callFunc 54 xs).run Try.prog w = .ok (.enter 54 xs) w := enters Try.func54 (by kernel_rfl) (by kernel_rfl)

set_option maxRecDepth 100000 in
set_option maxHeartbeats 4000000 in
theorem from_calls (l bl N0 n : Nat) (K : Nat → Prop) (vl : Value) (ls : List (List Key2)) (hn : ls.length = n) (hK2 : K (N0 + 2)) (all : List (List Key2)) (J Jx : List (List Key2) → World → Prop)
    (hJ : ∀ s A B, J s A → Keeps (fun b => ¬ (N0 ≤ b ∧ b < N0 + 3)) A B → Below N0 A B → J s B)
    (hY : ∀ m pre x A, J pre A → (∃ post, all = pre ++ x :: post) → BufOk A (N0 + 2) n x ∧ x.length = n → YieldAt Fence.wide m Try.prog l #[.slice (some ⟨N0 + 2, 0, none⟩) n n] A fun e B =>
      (e = .returned (.bool true) ∧ J (pre ++ [x]) B ∧ Keeps K A B ∧ A.heap.size ≤ B.heap.size) ∨ (e = .returned (.bool false) ∧ Jx (pre ++ [x]) B)) (r : Nat) :
    ∀ (m : Nat) (c : List Key2) (pre post : List (List Key2)) (A : World), c.length + r = n → all = pre ++ (chs (ls.drop c.length)).map (c ++ ·) ++ post → J pre A → FromSt A (fun b => K b ∧ b ≠ N0 + 2) l bl N0 vl ls → BufOk A (N0 + 2) n c → N0 + 3 ≤ A.heap.size →
      CallsIn Fence.wide m Try.prog 54 #[.slice (some ⟨N0 + 2, 0, none⟩) c.length n, .pointer (some ⟨bl, 0, none⟩), .pointer (some ⟨N0, 0, none⟩), .pointer (some ⟨N0 + 1, 0, none⟩)] A
        (BoolEnd (fun B => J (pre ++ (chs (ls.drop c.length)).map (c ++ ·)) B ∧ Keeps (fun b => K b ∧ b ≠ N0 + 2) A B ∧ BufOk B (N0 + 2) n c ∧ A.heap.size ≤ B.heap.size) (fun B => ∃ q, q <+: all ∧ Jx q B)) := by
  induction r with
  | zero =>
    intro m c pre post A hc hall hj hst hbuf hsz
    have hcn : c.length = n := by omega
    have hd : ls.drop c.length = [] := List.drop_of_length_le (by omega)
    rw [hd] at hall ⊢
    have hp : (chs []).map (c ++ ·) = [c] := by simp [chs]
    rw [hp] at hall ⊢
    obtain ⟨fn, tmps, assign, body, hy, hR⟩ := hY (m - 1) pre c A hj ⟨post, by simpa using hall⟩ ⟨hbuf, hcn⟩
    obtain ⟨ao, cap, rfl, -⟩ := slice1_cases rfl hst.ls
    have c1 : A.cell? ⟨bl, 0, none⟩ = some (.slice ao ls.length cap) := by rw [hst.box.cell]; rfl
    have c2 : A.cell? ⟨N0, 0, none⟩ = some (.func (.yield l) #[] #[]) := by rw [hst.y.cell]; rfl
    rw [hn] at c1
    rw [hcn]
    have HY := Lib.hid hR
    have HB := Lib.hid hbuf
    have HALL := Lib.hid hall
    have HK2 := Lib.hid hK2
    clear hJ hY hK2 hj hd hp hR hst hbuf hall hc
    refine callsIn_of_wp Try.func54 rfl trivial ?_ rfl
    simp only [Try.ntmps54, List.size_toArray, List.length_cons, List.length_nil, Nat.reduceAdd, Nat.reduceSub, Array.replicate_succ, Array.replicate_zero, List.push_toArray, List.append_toArray, List.nil_append, List.cons_append]
    gi_wp2
    refine ⟨fun h => (by cases h), HY.out.mono ?_⟩
    rintro e B (⟨rfl, hj2, hk2, hs2⟩ | ⟨rfl, hx2⟩)
    · have H2 := Lib.hid (And.intro hj2 (And.intro hk2 hs2))
      clear hj2 hk2 hs2
      gi_wp2
      go_ret
      exact ⟨true, rfl, fun _ => ⟨H2.out.1, H2.out.2.1.mono fun b hb => hb.1, HB.out.keep H2.out.2.1 HK2.out, H2.out.2.2⟩, fun h => (by cases h)⟩
    · have H2 := Lib.hid hx2
      clear hx2
      gi_wp2
      go_ret
      exact ⟨false, rfl, fun h => (by cases h), fun _ => ⟨_, ⟨post, HALL.out.symm⟩, H2.out⟩⟩
  | succ r ih =>
    intro m c pre post A hc hall hj hst hbuf hsz
    obtain ⟨k, hk⟩ : ∃ k, c.length = k := ⟨_, rfl⟩
    have hkn : k < ls.length := by omega
    have hd : ls.drop c.length = ls[k] :: ls.drop (k + 1) := by rw [hk]; exact List.drop_eq_getElem_cons hkn
    rw [hd] at hall ⊢
    rw [chs_cons] at hall ⊢
    rw [hk]
    obtain ⟨ao, cap, rfl, hcap1, hcap2, hcs⟩ := slice1_cases rfl hst.ls
    rcases hcs with ⟨e, _⟩ | ⟨b, off, cf, rfl, hokb, -, hcf⟩
    · rw [e] at hkn; simp at hkn
    obtain ⟨p1, p2⟩ := hcf k hkn
    obtain ⟨ao2, cap2, hv2, hl1, hl2, -, hl3⟩ := keys_cases p2
    rw [hv2] at p1
    have c1 : A.cell? ⟨bl, 0, none⟩ = some (.slice (some ⟨b, off, none⟩) n cap) := by rw [hst.box.cell, hn]; rfl
    have hlk : n = ls.length := hn.symm
    obtain ⟨lk, hlke⟩ : ∃ lk, lk = ls[k] := ⟨_, rfl⟩
    rw [← hlke] at p1 hl1 hl3 hall hd ⊢
    have HC := Lib.hid hl3
    have HK := Lib.hid hk
    have HST := Lib.hid hst
    have HALL := Lib.hid hall
    have HD := Lib.hid hd
    have HIH := Lib.hid ih
    have HJ := Lib.hid hJ
    have HN := Lib.hid hn
    have hkn' : k < n := by omega
    have hrk : k + 1 + r = n := by omega
    unfold maxLen at hl2 hcap2
    have i1 : n ≤ 9223372036854775807 := by omega
    have J0 := Lib.hid hj
    have B0 := Lib.hid hbuf
    clear hl3 hk hst hall hd hlke ih hJ hY hK2 hn hlk hc hcf p2 hv2 hkn hj hbuf
    refine callsIn_of_wp Try.func54 rfl trivial ?_ rfl
    simp only [Try.ntmps54, List.size_toArray, List.length_cons, List.length_nil, Nat.reduceAdd, Nat.reduceSub, Array.replicate_succ, Array.replicate_zero, List.push_toArray, List.append_toArray, List.nil_append, List.cons_append]
    gi_wp2
    gi_loopw [7, 22] (fun _ i wr => ∃ j : Nat, j ≤ lk.length ∧ i = .int .i64 j ∧ Hid (J (pre ++ part c lk (ls.drop (k + 1)) j) wr) ∧ Hid (Keeps (fun b => K b ∧ b ≠ N0 + 2) A wr) ∧ Hid (BufOk wr (N0 + 2) n c) ∧ A.heap.size ≤ wr.heap.size) (fun _ i _ => lk.length - (intOf i).toNat)
    case atStart => exact ⟨0, Nat.zero_le _, rfl, by simpa [part] using J0, Keeps.refl _ _, B0, Nat.le_refl _⟩
    case round =>
      obtain ⟨j, hj, rfl, hjj, hkp, hbuf, hsz2⟩ := hrel
      by_cases hlt : j < lk.length
      · rcases HC.out with ⟨_, e2⟩ | ⟨b2, off2, e2, hok2, _, hc2⟩
        · omega
        subst e2
        have hst2 := HST.out.keep hkp.out
        have X := hc2 j hlt
        have X0 := hkp.out.cell (a := ⟨b2, off2 + j * 2, none⟩) hok2 X.1
        have X1 := hkp.out.cell (a := ⟨b2, off2 + j * 2 + 1, none⟩) hok2 X.2
        have X2 : wr.cell? ⟨N0 + 1, 0, none⟩ = some (.func (.func 54) #[] #[.pointer (some ⟨bl, 0, none⟩), .pointer (some ⟨N0, 0, none⟩), .pointer (some ⟨N0 + 1, 0, none⟩)]) := by rw [hst2.f.cell]; rfl
        obtain ⟨cur, hb1, hb2, hb3⟩ := hbuf.out
        have Y0 : ∃ v, wr.cell? ⟨N0 + 2, k * 2, none⟩ = some v := by rw [hb1.cell]; exact ⟨cur[k * 2]'(by omega), by simp⟩
        have Y1 : ∃ v, wr.cell? ⟨N0 + 2, k * 2 + 1, none⟩ = some v := by rw [hb1.cell]; exact ⟨cur[k * 2 + 1]'(by omega), by simp⟩
        obtain ⟨y0, Y0⟩ := Y0
        obtain ⟨y1, Y1⟩ := Y1
        have Y2 := hb1.free (k * 2)
        have Y3 := hb1.free (k * 2 + 1)
        have hlt2 : N0 + 2 < wr.heap.size := hb1.lt
        have hlt1 : N0 + 1 < wr.heap.size := by omega
        have hlt0 : N0 < wr.heap.size := by omega
        obtain ⟨key, hkey⟩ : ∃ key, key = lk[j]?.getD (0, 0) := ⟨_, rfl⟩
        rw [← hkey] at X0 X1
        have HKEY := Lib.hid hkey
        have HBUF := Lib.hid (And.intro hb1 (And.intro hb2 hb3))
        have HST2 := Lib.hid hst2
        have hcapk : k + 1 ≤ n := by omega
        clear hkey hb1 hb2 hb3 hst2 X hc2
        have hkl : key = lk[j] := by rw [HKEY.out, List.getElem?_eq_getElem hlt]; rfl
        have IH2 := Lib.hid (show ∀ (m : Nat) (A' : World), (J (pre ++ part c lk (ls.drop (k + 1)) j) A' ∧ FromSt A' (fun b => K b ∧ b ≠ N0 + 2) l bl N0 (.slice (some ⟨b, off, none⟩) ls.length cap) ls ∧ BufOk A' (N0 + 2) n (c ++ [key]) ∧ N0 + 3 ≤ A'.heap.size) →
            CallsIn Fence.wide m Try.prog 54 #[.slice (some ⟨N0 + 2, 0, none⟩) (k + 1) n, .pointer (some ⟨bl, 0, none⟩), .pointer (some ⟨N0, 0, none⟩), .pointer (some ⟨N0 + 1, 0, none⟩)] A'
            (BoolEnd (fun B => J (pre ++ part c lk (ls.drop (k + 1)) (j + 1)) B ∧ Keeps (fun b => K b ∧ b ≠ N0 + 2) A' B ∧ BufOk B (N0 + 2) n c ∧ A'.heap.size ≤ B.heap.size) (fun B => ∃ q, q <+: all ∧ Jx q B)) from by
          rintro m A' ⟨q1, q2, q3, q4⟩
          have hcl : (c ++ [key]).length = k + 1 := by simp [HK.out]
          obtain ⟨rest, hrest⟩ := part_split (c := c) (D := ls.drop (k + 1)) hlt
          have hh := HIH.out m (c ++ [key]) (pre ++ part c lk (ls.drop (k + 1)) j) (rest ++ post) A' (by rw [hcl]; omega) (by rw [HALL.out, hcl, hrest, hkl]; simp only [List.append_assoc]) q1 q2 q3 q4
          rw [hcl] at hh
          refine hh.mono ?_
          rintro e B ⟨b, he, ht, hf⟩
          refine ⟨b, he, fun hb => ?_, hf⟩
          obtain ⟨r1, r2, r3, r4⟩ := ht hb
          refine ⟨?_, r2, r3.front, r4⟩
          rw [part_succ hlt, ← List.append_assoc, ← hkl]
          exact r1)
        have hbk : Keeps (fun b => b ≠ N0 + 2) wr ((wr.setCell ⟨N0 + 2, k * 2, none⟩ (.int .i64 key.1)).setCell ⟨N0 + 2, k * 2 + 1, none⟩ (.int .i64 key.2)) := (Keeps.setCell (p := ⟨N0 + 2, k * 2, none⟩) (by simp)).trans (Keeps.setCell (p := ⟨N0 + 2, k * 2 + 1, none⟩) (by simp))
        have hbb : Below N0 wr ((wr.setCell ⟨N0 + 2, k * 2, none⟩ (.int .i64 key.1)).setCell ⟨N0 + 2, k * 2 + 1, none⟩ (.int .i64 key.2)) := ((Below.refl _ _).setCell (p := ⟨N0 + 2, k * 2, none⟩) (by simp) _).setCell (p := ⟨N0 + 2, k * 2 + 1, none⟩) (by simp) _
        have hsz3 : ((wr.setCell ⟨N0 + 2, k * 2, none⟩ (.int .i64 key.1)).setCell ⟨N0 + 2, k * 2 + 1, none⟩ (.int .i64 key.2)).heap.size = wr.heap.size := by simp [World.setCell]
        obtain ⟨ws, hws⟩ : ∃ ws, ws = (wr.setCell ⟨N0 + 2, k * 2, none⟩ (.int .i64 key.1)).setCell ⟨N0 + 2, k * 2 + 1, none⟩ (.int .i64 key.2) := ⟨_, rfl⟩
        have hpush : BufOk ws (N0 + 2) n (c ++ [key]) := by rw [hws]; exact BufOk.push key hbuf.out HK.out hkn'
        rw [← hws] at hbk hbb hsz3
        have hK4 : Keeps (fun b => b ≠ N0 + 2) wr ((ws.alloc (.cells #[.int .i64 key.1, .int .i64 key.2] 23)).alloc (.cells #[.int .i64 key.1, .int .i64 key.2] 23)).drew := (hbk.of_alloc _).of_alloc _
        have hB4 : Below N0 wr ((ws.alloc (.cells #[.int .i64 key.1, .int .i64 key.2] 23)).alloc (.cells #[.int .i64 key.1, .int .i64 key.2] 23)).drew := ((hbb.alloc (by omega) _).alloc (by simp; omega) _).drew
        have COND : J (pre ++ part c lk (ls.drop (k + 1)) j) ((ws.alloc (.cells #[.int .i64 key.1, .int .i64 key.2] 23)).alloc (.cells #[.int .i64 key.1, .int .i64 key.2] 23)).drew ∧ FromSt ((ws.alloc (.cells #[.int .i64 key.1, .int .i64 key.2] 23)).alloc (.cells #[.int .i64 key.1, .int .i64 key.2] 23)).drew (fun b => K b ∧ b ≠ N0 + 2) l bl N0 (.slice (some ⟨b, off, none⟩) ls.length cap) ls ∧ BufOk ((ws.alloc (.cells #[.int .i64 key.1, .int .i64 key.2] 23)).alloc (.cells #[.int .i64 key.1, .int .i64 key.2] 23)).drew (N0 + 2) n (c ++ [key]) ∧ N0 + 3 ≤ ((ws.alloc (.cells #[.int .i64 key.1, .int .i64 key.2] 23)).alloc (.cells #[.int .i64 key.1, .int .i64 key.2] 23)).drew.heap.size :=
          ⟨HJ.out _ _ _ hjj.out (hK4.mono fun b hb e => hb ⟨by omega, by omega⟩) hB4, HST2.out.keep (hK4.mono fun b hb => hb.2), (hpush.keep (Keeps.alloc _ _ (fun _ => True)) trivial).keep (Keeps.alloc _ _ (fun _ => True)) trivial, by show N0 + 3 ≤ ((ws.alloc _).alloc _).heap.size; simp; omega⟩
        have KA : Keeps (fun b => K b ∧ b ≠ N0 + 2) A ((ws.alloc (.cells #[.int .i64 key.1, .int .i64 key.2] 23)).alloc (.cells #[.int .i64 key.1, .int .i64 key.2] 23)).drew := hkp.out.trans (hK4.mono fun b hb => hb.2)
        have SA : A.heap.size ≤ ((ws.alloc (.cells #[.int .i64 key.1, .int .i64 key.2] 23)).alloc (.cells #[.int .i64 key.1, .int .i64 key.2] 23)).drew.heap.size := by show A.heap.size ≤ ((ws.alloc _).alloc _).heap.size; simp; omega
        rw [hws] at COND KA SA
        have HCOND := Lib.hid COND
        have HKA := Lib.hid KA
        have HSA := Lib.hid SA
        clear COND KA SA hB4 hK4 hpush hbk hbb hsz3 hws hkl
        have X2b : ((wr.setCell ⟨N0 + 2, k * 2, none⟩ (.int .i64 key.1)).setCell ⟨N0 + 2, k * 2 + 1, none⟩ (.int .i64 key.2)).cell? ⟨N0 + 1, 0, none⟩ = some (.func (.func 54) #[] #[.pointer (some ⟨bl, 0, none⟩), .pointer (some ⟨N0, 0, none⟩), .pointer (some ⟨N0 + 1, 0, none⟩)]) := by
          rw [World.cell?_setCell_other _ _ _ _ (by simp), World.cell?_setCell_other _ _ _ _ (by simp)]; exact X2
        have hfw : ∀ f, Fence.wide.fn f := fun _ => trivial
        have hdw : Fence.wide.depth.isSome = false := rfl
        gi_wp2
        gi_region_with (gi_at_call 54; refine (IH2.out _ _ HCOND.out).mono ?_; rintro e B ⟨bb, rfl, hbt⟩; have HBT := Lib.hid hbt; clear hbt)
        all_goals
          cases bb
          · gi_wp2
            go_ret
            exact ⟨false, rfl, fun h => (by cases h), fun _ => HBT.out.2 (by first | rfl | trivial)⟩
          · gi_wp2
            go_roundw
            case rel => exact ⟨j + 1, by omega, by go_num, (HBT.out.1 rfl).1, HKA.out.trans (HBT.out.1 rfl).2.1, (HBT.out.1 rfl).2.2.1, Nat.le_trans HSA.out (HBT.out.1 rfl).2.2.2⟩
            case measure => simp [intOf]; omega
      · have hjl : j = lk.length := by omega
        subst hjl
        gi_wp2
        go_ret
        exact ⟨true, rfl, fun _ => ⟨hjj.out, hkp.out, hbuf.out, hsz2⟩, fun h => (by cases h)⟩
end Go.Proofs.Ytcnpanmkpfgdjaa
