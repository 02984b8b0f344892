/- Contracts of reach.diameters: no chord, too many, a first one that is wrong, and chords of diameter 0. -/
import Derived.Test.YtcnpanmkpfgdjaaNote
import Derived.Test.YtcnpanmkpfgdjaaWinLaw
namespace Go.Proofs.Ytcnpanmkpfgdjaa
open Go.RowKit Go.Sch

abbrev chordsR : Rep (List (List (List Int))) := sliceR rowsR
set_option maxRecDepth 100000 in
theorem diams_empty {w : World} {cs : List Value} {l : Lay} {ok : Nat → Prop} (h : layR.R w ok cs l) (ao : Option Addr) (cap : Nat) (m : Int) :
    Calls Try.prog 45 #[.agg cs.toArray, .slice ao 0 cap, .int .i64 m] w fun e w' => e = .returned (.tuple #[.slice none 0 0, .int .i64 13]) ∧ Below w.heap.size w w' := by
  obtain ⟨v1, v2, v3, rfl, -⟩ := h
  go_enter Try.func45, Try.ntmps45
  go_wp2
  refine bodyPost_ret (results_tmp2 rfl _ _ _) rfl ?_
  exact ⟨rfl, (Below.refl _ _).alloc (Nat.le_refl _) _⟩
set_option maxRecDepth 100000 in
theorem diams_many {w : World} {cs : List Value} {l : Lay} {ok : Nat → Prop} (h : layR.R w ok cs l) (ao : Option Addr) (n cap : Nat) (hn : 40 < n ∧ n ≤ 9223372036854775807) (m : Int) :
    Calls Try.prog 45 #[.agg cs.toArray, .slice ao n cap, .int .i64 m] w fun e w' => e = .returned (.tuple #[.slice none 0 0, .int .i64 4]) ∧ Below w.heap.size w w' := by
  obtain ⟨v1, v2, v3, rfl, -⟩ := h
  obtain ⟨h1, h2⟩ := hn
  have hz : ((n : Int) == 0) = false := beq_eq_false_iff_ne.2 (by omega)
  go_enter Try.func45, Try.ntmps45
  go_wp2
  refine bodyPost_ret (results_tmp2 rfl _ _ _) rfl ?_
  exact ⟨rfl, (Below.refl _ _).alloc (Nat.le_refl _) _⟩
/-- A question's cells, from those of its parts. -/
theorem quest_mk {w : World} {ok : Nat → Prop} {k m : Int} {v1 v2 v3 v4 : Value} {l : Lay} {c : List (List Int)} (hl : layR.R w ok [.int .i64 k, v1, v2, v3] l) (hc : rowsR.R w ok [v4] c) (hm : (Lit.int .i64 m).wf = true) :
    questR.R w ok [.int .i64 k, v1, v2, v3, v4, .int .i64 m] ⟨l, c, m⟩ := ⟨[.int .i64 k, v1, v2, v3], v4, rfl, hl, hc, hm⟩
set_option maxRecDepth 100000 in
set_option maxHeartbeats 2000000 in
theorem diams_bad {w : World} {ok : Nat → Prop} {cs : List Value} {l : Lay} (h : layR.R w ok cs l) {v : Value} {chords : List (List (List Int))} (hv : chordsR.R w ok [v] chords) (hn : 0 < chords.length ∧ chords.length ≤ 40) (m : Int) (hm : (Lit.int .i64 m).wf = true)
    (he : (qCount ⟨l, chords[0]'hn.1, m⟩).2 ≠ 0) :
    Calls Try.prog 45 #[.agg cs.toArray, v, .int .i64 m] w fun e w' => e = .returned (.tuple #[.slice none 0 0, .int .i64 (qCount ⟨l, chords[0]'hn.1, m⟩).2]) ∧ Below w.heap.size w w' := by
  have hT := layR.mono h (fun _ _ => trivial : ∀ b, ok b → (fun _ => True) b)
  obtain ⟨v1, v2, v3, rfl, -, ho, hr, hu⟩ := h
  obtain ⟨a1, c1, rfl, -⟩ := ints_cases ho
  obtain ⟨a2, c2, rfl, -⟩ := ints_cases hr
  obtain ⟨a3, c3, rfl, -⟩ := ints_cases hu
  obtain ⟨ao, cap, rfl, k1, k2, k3⟩ := slice1_cases rfl hv
  rcases k3 with ⟨-, k3⟩ | ⟨b, off, cf, rfl, -, -, hcf⟩
  · omega
  obtain ⟨f1, f2⟩ := hcf 0 hn.1
  obtain ⟨a4, c4, e4, -⟩ := slice1_cases rfl f2
  rw [e4] at f1 f2
  have HL := Lib.hid (fun w' (k : Keeps (fun _ => True) w w') => least_bad (quest_mk (layR.keep hT k) (rowsR.keep (rowsR.mono f2 fun _ _ => trivial) k) hm) he)
  obtain ⟨er, her⟩ : ∃ er, er = (qCount ⟨l, chords[0]'hn.1, m⟩).2 := ⟨_, rfl⟩
  rw [← her] at HL he
  rw [← her]
  have hz2 : (er != 0) = true := by simp [he]
  obtain ⟨N, hN⟩ : ∃ N, N = chords.length := ⟨_, rfl⟩
  rw [← hN] at hn k1
  rw [← hN]
  obtain ⟨n1, hn1⟩ : ∃ n, n = l.o.length := ⟨_, rfl⟩
  obtain ⟨n2, hn2⟩ : ∃ n, n = l.r.length := ⟨_, rfl⟩
  obtain ⟨n3, hn3⟩ : ∃ n, n = l.u.length := ⟨_, rfl⟩
  obtain ⟨n4, hn4⟩ : ∃ n, n = chords[0].length := ⟨_, rfl⟩
  rw [← hn1, ← hn2, ← hn3, ← hn4] at HL
  rw [← hn1, ← hn2, ← hn3]
  rw [← hn4] at f1
  rw [Nat.add_zero] at f1
  obtain ⟨hna, hnb⟩ := hn
  unfold maxLen at k2
  have hz : ((N : Int) == 0) = false := beq_eq_false_iff_ne.2 (by omega)
  have f1' := (Keeps.alloc w (.cells #[.int .i64 l.kind, .slice a1 n1 c1, .slice a2 n2 c2, .slice a3 n3 c3] 43) (fun _ => True)).cell (a := ⟨b, off, none⟩) trivial f1
  have hNz : (0 : Nat) < N := hna
  clear hT ho hr hu hcf f2 e4 her he hN hn1 hn2 hn3 hn4 hv hm k1
  go_enter Try.func45, Try.ntmps45
  go_wp2_with fail
  refine wp_loop_rounds 1 ?_
  rw [rounds_succ]
  go_wp2_with fail
  refine (HL.out _ ?_).mono ?_
  · exact Keeps.alloc _ _ _
  rintro e w1 ⟨rfl, hb⟩
  have HB1 := Lib.hid (((Below.refl _ _).alloc (Nat.le_refl _) _).trans (hb.mono (by simp)) : Below w.heap.size w w1)
  clear hb
  go_wp2
  refine bodyPost_ret (results_tmp2 rfl _ _ _) rfl ?_
  exact ⟨rfl, HB1.out⟩
theorem ints_of_own {w : World} {base : Nat} {e : TypeId} {v : Value} {l : List Int} {ok : Nat → Prop} (h : w.ownsRow base e 1 v l.length (l.map (Value.int .i64))) (hok : ∀ b, base ≤ b → ok b) (hwf : ∀ x ∈ l, (Lit.int .i64 x).wf = true) : (sliceR (intR .i64)).R w ok [v] l := by
  refine slice_of_own (E := intR .i64) h rfl hok fun i hi => ?_
  refine ⟨?_, hwf _ (List.getElem_mem hi)⟩
  have hl : i < (l.map (Value.int .i64)).length := by simpa using hi
  show ((l.map (Value.int .i64)).drop (i * 1)).take 1 = _
  rw [Nat.mul_one, List.drop_eq_getElem_cons hl]
  simp
theorem rep_succ {α : Type} (k : Nat) (x : α) : List.replicate (k + 1) x = List.replicate k x ++ [x] := List.replicate_succ'
set_option maxRecDepth 100000 in
set_option maxHeartbeats 2000000 in
theorem diams_zero {w : World} {ok : Nat → Prop} {cs : List Value} {l : Lay} (h : layR.R w ok cs l) {v : Value} {chords : List (List (List Int))} (hv : chordsR.R w ok [v] chords) (hn : 0 < chords.length ∧ chords.length ≤ 40) (m : Int) (hm : (Lit.int .i64 m).wf = true)
    (he : ∀ c ∈ chords, reachCheck ⟨l, c, m⟩ = 0 ∧ (qCount ⟨l, c, m⟩).2 = 0 ∧ ∃ x, leastOf (farD l.kind) (chs (qLists ⟨l, c, m⟩)) = some (x, 0)) :
    Calls Try.prog 45 #[.agg cs.toArray, v, .int .i64 m] w fun e w' => ∃ u, e = .returned (.tuple #[u, .int .i64 0]) ∧ (sliceR (intR .i64)).R w' (fun _ => True) [u] (List.replicate chords.length 0) ∧ Below w.heap.size w w' := by
  have hT := layR.mono h (fun _ _ => trivial : ∀ b, ok b → (fun _ => True) b)
  obtain ⟨v1, v2, v3, rfl, -, ho, hr, hu⟩ := h
  obtain ⟨a1, c1, rfl, -⟩ := ints_cases ho
  obtain ⟨a2, c2, rfl, -⟩ := ints_cases hr
  obtain ⟨a3, c3, rfl, -⟩ := ints_cases hu
  obtain ⟨ao, cap, rfl, k1, k2, k3⟩ := slice1_cases rfl hv
  rcases k3 with ⟨-, k3⟩ | ⟨b, off, cf, rfl, -, -, hcf⟩
  · omega
  have HL := Lib.hid (fun i (hi : i < chords.length) w' (k : Keeps (fun _ => True) w w') v4 (f2 : rowsR.R w ok [v4] chords[i]) => (least_good (quest_mk (layR.keep hT k) (rowsR.keep (rowsR.mono f2 fun _ _ => trivial) k) hm) (he _ (List.getElem_mem hi)).1 (he _ (List.getElem_mem hi)).2.1))
  have HE := Lib.hid (fun i (hi : i < chords.length) => (he _ (List.getElem_mem hi)).2.2)
  have HCF := Lib.hid hcf
  obtain ⟨n1, hn1⟩ : ∃ n, n = l.o.length := ⟨_, rfl⟩
  obtain ⟨n2, hn2⟩ : ∃ n, n = l.r.length := ⟨_, rfl⟩
  obtain ⟨n3, hn3⟩ : ∃ n, n = l.u.length := ⟨_, rfl⟩
  rw [← hn1, ← hn2, ← hn3] at HL
  rw [← hn1, ← hn2, ← hn3]
  obtain ⟨N, hN⟩ : ∃ N, N = chords.length := ⟨_, rfl⟩
  rw [← hN] at hn k1
  rw [← hN]
  have HN := Lib.hid hN
  obtain ⟨hna, hnb⟩ := hn
  unfold maxLen at k2
  have hz : ((N : Int) == 0) = false := beq_eq_false_iff_ne.2 (by omega)
  clear hT ho hr hu hcf he hN hn1 hn2 hn3 hv hm
  have HB0 := Lib.hid (Blk.new w #[.int .i64 l.kind, .slice a1 n1 c1, .slice a2 n2 c2, .slice a3 n3 c3] 43)
  obtain ⟨i0, hi, hz0, hz1, hz2⟩ := info_parts Try.info_int
  have HI := Lib.hid (And.intro hi (And.intro hz0 (And.intro hz1 hz2)))
  clear hi hz0 hz1 hz2
  go_enter Try.func45, Try.ntmps45
  go_wp2_with fail
  have HBe := Lib.hid ((Below.refl _ w).alloc (Nat.le_refl _) (.cells #[.int .i64 l.kind, .slice a1 n1 c1, .slice a2 n2 c2, .slice a3 n3 c3] 43))
  have HKe := Lib.hid (Keeps.refl (fun b => b < w.heap.size + 1) (w.alloc (.cells #[.int .i64 l.kind, .slice a1 n1 c1, .slice a2 n2 c2, .slice a3 n3 c3] 43)))
  obtain ⟨w1, hw1⟩ : ∃ w1, w1 = w.alloc (.cells #[.int .i64 l.kind, .slice a1 n1 c1, .slice a2 n2 c2, .slice a3 n3 c3] 43) := ⟨_, rfl⟩
  rw [← hw1] at HB0 HBe HKe
  rw [← hw1]
  clear hw1
  go_loopw [8, 9, 11, 12, 13, 14, 15, 26] (fun u al _ _ _ _ _ i wr => ∃ k : Nat, k ≤ N ∧ i = .int .i64 k ∧ al = .bool true ∧ Hid (wr.ownsRow (w.heap.size + 1) 3 1 u k (List.replicate k (.int .i64 0))) ∧ Hid (Keeps (fun b => b < w.heap.size + 1) w1 wr) ∧ Hid (Below w.heap.size w wr)) (fun _ _ _ _ _ _ _ i _ => N - (intOf i).toNat)
  case atStart => exact ⟨0, Nat.zero_le _, rfl, rfl, World.ownsRow_nil _ _ _ _, HKe, HBe⟩
  case round =>
    obtain ⟨k, hk, rfl, rfl, hown, hkp, hbl⟩ := hrel
    by_cases hlt : k < N
    · have hkc : k < chords.length := by rw [← HN.out]; exact hlt
      obtain ⟨f1, f2⟩ := HCF.out k hkc
      obtain ⟨a4, c4, e4, -⟩ := slice1_cases rfl f2
      rw [e4] at f1 f2
      have KW : Keeps (fun _ => True) w wr := Keeps.all hbl.out _
      have y0 := KW.cell (a := ⟨b, off + k, none⟩) trivial f1
      obtain ⟨x, hx⟩ := HE.out k hkc
      have HLK := Lib.hid (HL.out k hkc wr KW _ f2)
      have HX := Lib.hid hx
      obtain ⟨n4, hn4⟩ : ∃ n, n = chords[k].length := ⟨_, rfl⟩
      rw [← hn4] at HLK y0
      have hB := HB0.out.keep hkp.out (by omega)
      have hsz : w.heap.size < wr.heap.size := hB.lt
      obtain ⟨x0, x1, x2, x3⟩ := blk4c hB
      have i1 : (0 : Int) ≤ (k : Int) ∧ (k : Int) < (N : Int) := by omega
      clear f1 f2 e4 KW hx hn4 hB
      go_wp2_with fail
      refine HLK.out.mono ?_
      rintro e w3 ⟨hres, hb⟩
      simp only [leastRes] at hres
      rw [HX.out] at hres
      obtain ⟨g, cp, rfl, -⟩ := hres
      have HB3 := Lib.hid hb
      have hs3 : wr.heap.size ≤ w3.heap.size := hb.size
      have HO3 := Lib.hid (own_all hown.out (Keeps.all hb _))
      have HBD : Hid ((k + 1) * 8 ≤ 140737488355328) := Lib.hid (by omega)
      clear hb x0 x1 x2 x3 y0
      go_wp2_with ((with_reducible refine wpList_append_one (o := ⟨some 50, _, _, _, _, _⟩) ?_ (.tmp 47) (.tmp 49) 40 ?_ (w.heap.size + 1) 3 (.int .i64 0) 1 8 Try.underlying40 Try.info_int ?_ ?_ ?_ u8 _ _ ?_ (own_all HO3.out ?_) w3.heap.size ?_ [.int .i64 0] ?_ ?_ ?_ HBD.out ?_ ?_); rfl; rfl; rfl; decide; decide; rfl; (exact Keeps.alloc _ _ _); rfl; rfl; (exact (Blk.newAt _ _ rfl).at _ _ (by intro t ht; match t, ht with | 0, _ => rfl)); (simp [Value.oneCell']); (simp; omega); intro g' cap' w5 hown5 hk5 hb5 hg5; have HO5 := Lib.hid hown5; have HK6 := Lib.hid hk5; have HB5 := Lib.hid hb5; clear hown5 hk5 hb5 hg5)
      go_roundw
      case rel =>
        refine ⟨k + 1, by omega, by go_num, rfl, ?_, ?_, ?_⟩
        · rw [rep_succ]; exact HO5.out
        · exact (hkp.out.trans (Keeps.all HB3.out _)).trans ((Keeps.alloc w3 _ _).trans (Keeps.below HB5.out))
        · exact (hbl.out.trans (HB3.out.mono (by omega))).trans (((Below.refl _ w3).alloc (by omega) _).trans (HB5.out.mono (by omega)))
      case measure => simp [intOf]; omega
    · have hkn : k = N := by omega
      subst hkn
      have HO := Lib.hid (ints_of_own (l := List.replicate k 0) (ok := fun _ => True) (show wr.ownsRow (w.heap.size + 1) 3 1 u8 (List.replicate k (0 : Int)).length ((List.replicate k (0 : Int)).map (Value.int .i64)) by rw [List.length_replicate, List.map_replicate]; exact hown.out) (fun _ _ => trivial) (fun x hx => by
        have := List.eq_of_mem_replicate hx
        subst this
        rfl))
      go_wp2
      refine bodyPost_ret (results_tmp2 rfl _ _ _) rfl ?_
      exact ⟨_, rfl, HO.out, hbl.out⟩
end Go.Proofs.Ytcnpanmkpfgdjaa
