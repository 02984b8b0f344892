/- Contracts of reach.Hardest, Cost and Choose, from what diameters hands back. -/
import Derived.Test.YtcnpanmkpfgdjaaDiams
namespace Go.Proofs.Ytcnpanmkpfgdjaa
open Go.RowKit Go.Sch

/-- diameters hands back an error, in this and every later world. -/
def DErr (w : World) (cs : List Value) (v : Value) (m er : Int) : Prop :=
  ∀ w', Keeps (fun _ => True) w w' → Calls Try.prog 45 #[.agg cs.toArray, v, .int .i64 m] w' fun e w'' => e = .returned (.tuple #[.slice none 0 0, .int .i64 er]) ∧ Below w'.heap.size w' w''
/-- diameters hands back zeros. -/
def DZero (w : World) (cs : List Value) (v : Value) (m : Int) (n : Nat) : Prop :=
  ∀ w', Keeps (fun _ => True) w w' → Calls Try.prog 45 #[.agg cs.toArray, v, .int .i64 m] w' fun e w'' => ∃ u, e = .returned (.tuple #[u, .int .i64 0]) ∧ (sliceR (intR .i64)).R w'' (fun _ => True) [u] (List.replicate n 0) ∧ Below w'.heap.size w' w''
theorem DErr.keep {w w1 : World} {cs : List Value} {v : Value} {m er : Int} (h : DErr w cs v m er) (k : Keeps (fun _ => True) w w1) : DErr w1 cs v m er := fun w' k' => h w' (k.trans k')
theorem DZero.keep {w w1 : World} {cs : List Value} {v : Value} {m : Int} {n : Nat} (h : DZero w cs v m n) (k : Keeps (fun _ => True) w w1) : DZero w1 cs v m n := fun w' k' => h w' (k.trans k')
theorem results_tmp4 {fn : Func} {t u v x : Tmp} (h : fn.results = #[.tmp t, .tmp u, .tmp v, .tmp x]) (tmps : Array Value) (P : Program) (w : World) :
    (results fn tmps).run P w = .ok (.tuple #[tmps.getD t undef, tmps.getD u undef, tmps.getD v undef, tmps.getD x undef]) w := by
  simp [results, h, go_sem]
theorem ret_three' {a b c a' b' c' : Value} (h : a = a') (h1 : b = b') (h2 : c = c') : Ending.returned (.tuple #[a, b, c]) = .returned (.tuple #[a', b', c']) := by rw [h, h1, h2]
set_option maxRecDepth 100000 in
set_option maxHeartbeats 1000000 in
theorem hardest_err {w : World} {k : Int} {a1 a2 a3 : Option Addr} {n1 n2 n3 c1 c2 c3 : Nat} {v : Value} {m er : Int} (h : DErr w [.int .i64 k, .slice a1 n1 c1, .slice a2 n2 c2, .slice a3 n3 c3] v m er) (he : er ≠ 0) :
    Calls Try.prog 23 #[.agg #[.int .i64 k, .slice a1 n1 c1, .slice a2 n2 c2, .slice a3 n3 c3], v, .int .i64 m] w fun e w' => e = .returned (.tuple #[.int .i64 0, .int .i64 0, .int .i64 er]) ∧ Below w.heap.size w w' := by
  have HD := Lib.hid h
  have hz : (er != 0) = true := by simp [he]
  clear h he
  go_enter Try.func23, Try.ntmps23
  go_wp2_with fail
  refine (HD.out _ ?_).mono ?_
  · exact Keeps.alloc _ _ _
  rintro e w1 ⟨rfl, hb⟩
  have HB1 := Lib.hid (((Below.refl _ _).alloc (Nat.le_refl _) _).trans (hb.mono (by simp)) : Below w.heap.size w w1)
  clear hb
  go_wp2
  refine bodyPost_ret (results_tmp3 rfl _ _ _) rfl ?_
  exact ⟨rfl, HB1.out⟩
set_option maxRecDepth 100000 in
set_option maxHeartbeats 1000000 in
theorem cost_err {w : World} {k : Int} {a1 a2 a3 : Option Addr} {n1 n2 n3 c1 c2 c3 : Nat} {v : Value} {m er : Int} (h : DErr w [.int .i64 k, .slice a1 n1 c1, .slice a2 n2 c2, .slice a3 n3 c3] v m er) (he : er ≠ 0) :
    Calls Try.prog 24 #[.agg #[.int .i64 k, .slice a1 n1 c1, .slice a2 n2 c2, .slice a3 n3 c3], v, .int .i64 m] w fun e w' => e = .returned (.tuple #[.int .i64 0, .int .i64 er]) ∧ Below w.heap.size w w' := by
  have HD := Lib.hid h
  have hz : (er != 0) = true := by simp [he]
  clear h he
  go_enter Try.func24, Try.ntmps24
  go_wp2_with fail
  refine (HD.out _ ?_).mono ?_
  · exact Keeps.alloc _ _ _
  rintro e w1 ⟨rfl, hb⟩
  have HB1 := Lib.hid (((Below.refl _ _).alloc (Nat.le_refl _) _).trans (hb.mono (by simp)) : Below w.heap.size w w1)
  clear hb
  go_wp2
  refine bodyPost_ret (results_tmp2 rfl _ _ _) rfl ?_
  exact ⟨rfl, HB1.out⟩
theorem rep_zero (n i : Nat) : (List.replicate n (0 : Int))[i]?.getD 0 = 0 := by
  rcases Nat.lt_or_ge i n with h | h
  · rw [List.getElem?_replicate, if_pos h]; rfl
  · rw [List.getElem?_eq_none (by simpa using h)]; rfl
set_option maxRecDepth 100000 in
set_option maxHeartbeats 1000000 in
theorem cost_zero {w : World} {k : Int} {a1 a2 a3 : Option Addr} {n1 n2 n3 c1 c2 c3 : Nat} {v : Value} {m : Int} {n : Nat} (h : DZero w [.int .i64 k, .slice a1 n1 c1, .slice a2 n2 c2, .slice a3 n3 c3] v m n) (hn : 0 < n) :
    Calls Try.prog 24 #[.agg #[.int .i64 k, .slice a1 n1 c1, .slice a2 n2 c2, .slice a3 n3 c3], v, .int .i64 m] w fun e w' => e = .returned (.tuple #[.int .i64 0, .int .i64 0]) ∧ Below w.heap.size w w' := by
  have HD := Lib.hid h
  clear h
  go_enter Try.func24, Try.ntmps24
  go_wp2_with fail
  refine (HD.out _ ?_).mono ?_
  · exact Keeps.alloc _ _ _
  rintro e w1 ⟨u, rfl, hu, hb⟩
  have HB1 := Lib.hid (((Below.refl _ _).alloc (Nat.le_refl _) _).trans (hb.mono (by simp)) : Below w.heap.size w w1)
  obtain ⟨ao, cap, rfl, k1, k2, -, k3⟩ := ints_cases hu
  rw [List.length_replicate] at k1 k3 ⊢
  rcases k3 with ⟨-, k3⟩ | ⟨b, off, rfl, -, -, hcf⟩
  · omega
  have HC := Lib.hid hcf
  unfold maxLen at k2
  clear hb hu hcf
  go_wp2_with fail
  go_loop [10, 12, 25] (fun s _ i => ∃ j : Nat, j ≤ n ∧ i = .int .i64 j ∧ s = .int .i64 0) (fun _ _ i => n - (intOf i).toNat)
  case atStart => exact ⟨0, Nat.zero_le _, rfl, rfl⟩
  case round =>
    obtain ⟨j, hj, rfl, rfl⟩ := hrel
    by_cases hlt : j < n
    · have y := HC.out j hlt
      rw [rep_zero] at y
      have i1 : (0 : Int) ≤ (j : Int) ∧ (j : Int) < (n : Int) := by omega
      go_wp2
      go_round
      case rel => exact ⟨j + 1, by omega, by go_num, rfl⟩
      case measure => simp [intOf]; omega
    · have : j = n := by omega
      subst this
      go_wp2
      refine bodyPost_ret (results_tmp2 rfl _ _ _) rfl ?_
      exact ⟨rfl, HB1.out⟩
set_option maxRecDepth 100000 in
theorem choose_empty (ao : Option Addr) (cap : Nat) (v : Value) (m : Int) (w : World) :
    Calls Try.prog 25 #[.slice ao 0 cap, v, .int .i64 m] w fun e w' => e = .returned (.tuple #[.int .i64 0, .int .i64 0, .bool false, .int .i64 13]) ∧ w = w' := by
  go_enter Try.func25, Try.ntmps25
  go_wp2
  refine bodyPost_ret (results_tmp4 rfl _ _ _) rfl ?_
  exact ⟨rfl, rfl⟩
set_option maxRecDepth 100000 in
theorem choose_many (ao : Option Addr) (n cap : Nat) (hn : 40 < n ∧ n ≤ 9223372036854775807) (v : Value) (m : Int) (w : World) :
    Calls Try.prog 25 #[.slice ao n cap, v, .int .i64 m] w fun e w' => e = .returned (.tuple #[.int .i64 0, .int .i64 0, .bool false, .int .i64 4]) ∧ w = w' := by
  obtain ⟨h1, h2⟩ := hn
  have hz : ((n : Int) == 0) = false := beq_eq_false_iff_ne.2 (by omega)
  go_enter Try.func25, Try.ntmps25
  go_wp2
  refine bodyPost_ret (results_tmp4 rfl _ _ _) rfl ?_
  exact ⟨rfl, rfl⟩
/-- The cells of a list of layouts. -/
abbrev laysR : Rep (List Lay) := sliceR layR
theorem lays_cases {w : World} {ok : Nat → Prop} {v : Value} {L : List Lay} (h : laysR.R w ok [v] L) :
    ∃ ao cap, v = .slice ao L.length cap ∧ L.length ≤ cap ∧ cap ≤ maxLen ∧ (L.length = 0 ∨ ∃ b off, ao = some ⟨b, off, none⟩ ∧ ok b ∧ ∀ i (hi : i < L.length), ∃ a1 c1 a2 c2 a3 c3,
      (w.cell? ⟨b, off + i * 4, none⟩ = some (.int .i64 L[i].kind) ∧ w.cell? ⟨b, off + i * 4 + 1, none⟩ = some (.slice a1 L[i].o.length c1) ∧ w.cell? ⟨b, off + i * 4 + 2, none⟩ = some (.slice a2 L[i].r.length c2) ∧ w.cell? ⟨b, off + i * 4 + 3, none⟩ = some (.slice a3 L[i].u.length c3)) ∧
      layR.R w ok [.int .i64 L[i].kind, .slice a1 L[i].o.length c1, .slice a2 L[i].r.length c2, .slice a3 L[i].u.length c3] L[i]) := by
  obtain ⟨ao, cap, hv, h2, h3, h4⟩ := h
  refine ⟨ao, cap, by simpa using hv, h2, h3, ?_⟩
  rcases h4 with rfl | ⟨b, off, ha, ho, he⟩
  · exact .inl rfl
  · refine .inr ⟨b, off, ha, ho, fun i hi => ?_⟩
    obtain ⟨es, hat, hr⟩ := he i hi
    have hr0 := hr
    obtain ⟨v1, v2, v3, rfl, hk, q1, q2, q3⟩ := hr0
    obtain ⟨a1, c1, rfl, -⟩ := ints_cases q1
    obtain ⟨a2, c2, rfl, -⟩ := ints_cases q2
    obtain ⟨a3, c3, rfl, -⟩ := ints_cases q3
    have e0 := hat 0 (by simp)
    have e1 := hat 1 (by simp)
    have e2 := hat 2 (by simp)
    have e3 := hat 3 (by simp)
    simp only [layR, Nat.add_zero, List.getElem_cons_zero, List.getElem_cons_succ] at e0 e1 e2 e3
    exact ⟨a1, c1, a2, c2, a3, c3, ⟨e0, e1, e2, e3⟩, hr⟩
set_option maxRecDepth 100000 in
set_option maxHeartbeats 2000000 in
theorem choose_err {w : World} {ok : Nat → Prop} {v0 : Value} {L : List Lay} (h : laysR.R w ok [v0] L) (hn : 0 < L.length ∧ L.length ≤ 40) {v : Value} {m er : Int}
    (hd : ∀ w' cs, Keeps (fun _ => True) w w' → layR.R w' (fun _ => True) cs (L[0]'hn.1) → DErr w' cs v m er) (he : er ≠ 0) (he2 : er ≠ 19) :
    Calls Try.prog 25 #[v0, v, .int .i64 m] w fun e w' => e = .returned (.tuple #[.int .i64 0, .int .i64 0, .bool false, .int .i64 er]) ∧ Below w.heap.size w w' := by
  obtain ⟨ao, cap, rfl, k1, k2, k3⟩ := lays_cases h
  rcases k3 with k3 | ⟨b, off, rfl, -, hcf⟩
  · omega
  obtain ⟨a1, c1, a2, c2, a3, c3, ⟨y0, y1, y2, y3⟩, hl⟩ := hcf 0 hn.1
  have hlT := layR.mono hl (fun _ _ => trivial : ∀ b, ok b → (fun _ => True) b)
  obtain ⟨N, hN⟩ : ∃ N, N = L.length := ⟨_, rfl⟩
  obtain ⟨K, hK⟩ : ∃ K, K = L[0].kind := ⟨_, rfl⟩
  obtain ⟨n1, hn1⟩ : ∃ n, n = L[0].o.length := ⟨_, rfl⟩
  obtain ⟨n2, hn2⟩ : ∃ n, n = L[0].r.length := ⟨_, rfl⟩
  obtain ⟨n3, hn3⟩ : ∃ n, n = L[0].u.length := ⟨_, rfl⟩
  rw [← hn1, ← hn2, ← hn3, ← hK] at hlT
  rw [← hK] at y0
  rw [← hn1] at y1
  rw [← hn2] at y2
  rw [← hn3] at y3
  simp only [Nat.zero_mul, Nat.add_zero] at y0 y1 y2 y3
  have HD := Lib.hid (fun w' (k : Keeps (fun _ => True) w w') => cost_err (hd w' _ k (layR.keep hlT k)) he)
  obtain ⟨hna, hnb⟩ := hn
  rw [← hN] at hna hnb k1
  rw [← hN]
  have hz : ((N : Int) == 0) = false := beq_eq_false_iff_ne.2 (by omega)
  have hz1 : (er != 0) = true := by simp [he]
  have hz2 : (er == 19) = false := beq_eq_false_iff_ne.2 he2
  unfold maxLen at k2
  clear hd he he2 hlT hl hcf hN hK hn1 hn2 hn3 k1
  go_enter Try.func25, Try.ntmps25
  go_wp2_with fail
  refine wp_loop_rounds 1 ?_
  rw [rounds_succ]
  go_wp2_with fail
  refine (HD.out _ ?_).mono ?_
  · exact Keeps.alloc _ _ _
  rintro e w1 ⟨rfl, hb⟩
  have HB1 := Lib.hid (((Below.refl _ _).alloc (Nat.le_refl _) _).trans (hb.mono (by simp)) : Below w.heap.size w w1)
  clear hb
  go_wp2
  refine bodyPost_ret (results_tmp4 rfl _ _ _) rfl ?_
  exact ⟨rfl, HB1.out⟩
set_option maxRecDepth 100000 in
set_option maxHeartbeats 2000000 in
theorem choose_zero {w : World} {ok : Nat → Prop} {v0 : Value} {L : List Lay} (h : laysR.R w ok [v0] L) (hn : 0 < L.length ∧ L.length ≤ 40) {v : Value} {m : Int} {n : Nat} (hn0 : 0 < n)
    (hd : ∀ w' cs i (hi : i < L.length), Keeps (fun _ => True) w w' → layR.R w' (fun _ => True) cs L[i] → DZero w' cs v m n) :
    Calls Try.prog 25 #[v0, v, .int .i64 m] w fun e w' => e = .returned (.tuple #[.int .i64 0, .int .i64 0, .bool true, .int .i64 0]) ∧ Below w.heap.size w w' := by
  obtain ⟨ao, cap, rfl, k1, k2, k3⟩ := lays_cases h
  rcases k3 with k3 | ⟨b, off, rfl, -, hcf⟩
  · omega
  have HCF := Lib.hid hcf
  have HD := Lib.hid (fun w' cs i (hi : i < L.length) k hl => hd w' cs i hi k hl)
  obtain ⟨N, hN⟩ : ∃ N, N = L.length := ⟨_, rfl⟩
  obtain ⟨hna, hnb⟩ := hn
  rw [← hN] at hna hnb k1
  rw [← hN]
  have HN := Lib.hid hN
  have hz : ((N : Int) == 0) = false := beq_eq_false_iff_ne.2 (by omega)
  unfold maxLen at k2
  clear hd hcf hN h
  go_enter Try.func25, Try.ntmps25
  go_wp2_with fail
  go_loopw [6, 7, 8, 9, 10, 11, 12, 13, 24] (fun s6 s7 s8 _ _ _ _ _ i wr => ∃ k : Nat, k ≤ N ∧ i = .int .i64 k ∧ s6 = .int .i64 0 ∧ s7 = .int .i64 0 ∧ Hid ((k = 0 ∧ s8 = .bool false) ∨ (0 < k ∧ s8 = .bool true)) ∧ Hid (Below w.heap.size w wr)) (fun _ _ _ _ _ _ _ _ i _ => N - (intOf i).toNat)
  case atStart => exact ⟨0, Nat.zero_le _, rfl, rfl, rfl, .inl ⟨rfl, rfl⟩, Below.refl _ _⟩
  case round =>
    obtain ⟨k, hk, rfl, rfl, rfl, hs8, hbl⟩ := hrel
    have hs8' := hs8.out
    clear hs8
    by_cases hlt : k < N
    · have hkl : k < L.length := by rw [← HN.out]; exact hlt
      obtain ⟨a1, c1, a2, c2, a3, c3, ⟨y0, y1, y2, y3⟩, hl⟩ := HCF.out k hkl
      have KW : Keeps (fun _ => True) w wr := Keeps.all hbl.out _
      have z0 := KW.cell (a := ⟨b, off + k * 4, none⟩) trivial y0
      have z1 := KW.cell (a := ⟨b, off + k * 4 + 1, none⟩) trivial y1
      have z2 := KW.cell (a := ⟨b, off + k * 4 + 2, none⟩) trivial y2
      have z3 := KW.cell (a := ⟨b, off + k * 4 + 3, none⟩) trivial y3
      have HC := Lib.hid (fun w' (kp : Keeps (fun _ => True) wr w') => cost_zero (HD.out w' _ k hkl (KW.trans kp) (layR.keep (layR.mono hl fun _ _ => trivial) (KW.trans kp))) hn0)
      obtain ⟨K, hK⟩ : ∃ K, K = L[k].kind := ⟨_, rfl⟩
      obtain ⟨n1, hn1⟩ : ∃ n, n = L[k].o.length := ⟨_, rfl⟩
      obtain ⟨n2, hn2⟩ : ∃ n, n = L[k].r.length := ⟨_, rfl⟩
      obtain ⟨n3, hn3⟩ : ∃ n, n = L[k].u.length := ⟨_, rfl⟩
      rw [← hn1, ← hn2, ← hn3, ← hK] at HC
      rw [← hK] at z0
      rw [← hn1] at z1
      rw [← hn2] at z2
      rw [← hn3] at z3
      have i1 : (0 : Int) ≤ (k : Int) ∧ (k : Int) < (N : Int) := by omega
      have hsz : w.heap.size ≤ wr.heap.size := hbl.out.size
      clear y0 y1 y2 y3 hl KW hK hn1 hn2 hn3
      rcases hs8' with ⟨rfl, rfl⟩ | ⟨hk0, rfl⟩
      · simp only [Nat.zero_mul, Nat.add_zero] at z0 z1 z2 z3
        go_wp2_with fail
        refine (HC.out _ ?_).mono ?_
        · exact Keeps.alloc _ _ _
        rintro e w1 ⟨rfl, hb⟩
        have HB1 := Lib.hid ((hbl.out.alloc hsz _).trans (hb.mono (by simp; omega)))
        clear hb
        go_wp2
        go_roundw
        case rel => exact ⟨1, by omega, rfl, rfl, rfl, .inr ⟨by decide, rfl⟩, HB1⟩
        case measure => simp [intOf]; omega
      · go_wp2_with fail
        refine (HC.out _ ?_).mono ?_
        · exact Keeps.alloc _ _ _
        rintro e w1 ⟨rfl, hb⟩
        have HB1 := Lib.hid ((hbl.out.alloc hsz _).trans (hb.mono (by simp; omega)))
        clear hb
        go_wp2
        go_roundw
        case rel => exact ⟨k + 1, by omega, by go_num, rfl, rfl, .inr ⟨by omega, rfl⟩, HB1⟩
        case measure => simp [intOf]; omega
    · have : k = N := by omega
      subst this
      rcases hs8' with ⟨rfl, rfl⟩ | ⟨hk0, rfl⟩
      · omega
      · go_wp2
        refine bodyPost_ret (results_tmp4 rfl _ _ _) rfl ?_
        exact ⟨rfl, hbl.out⟩
end Go.Proofs.Ytcnpanmkpfgdjaa
