/- THE WALK of ReachBalls. -/
import Derived.Test.YtcnpanmkpfgdjaaBall
import Derived.Test.YtcnpanmkpfgdjaaDistances
import Derived.Deep.RegionWith
namespace Go.Proofs.Ytcnpanmkpfgdjaa
open Go.RowKit Go.Sch

/-- A boxed key before a call. -/
theorem front1 {w w1 : World} {c : Array Value} {t : TypeId} (h : Below (w.alloc (.cells c t)).heap.size (w.alloc (.cells c t)) w1) : Below w.heap.size w w1 ∧ Blk w1 w.heap.size c t :=
  ⟨((Below.refl _ _).alloc (Nat.le_refl _) _).trans (h.mono (by simp)), (Blk.new w _ _).keep (Keeps.all h (fun _ => True)) trivial⟩
set_option maxRecDepth 100000 in
set_option maxHeartbeats 1000000 in
theorem same_true {w : World} {ok ok' : Nat → Prop} {v u : Value} {l : List Key2} (ha : keysR.R w ok [v] l) (hb : keysR.R w ok' [u] l) :
    Calls Try.prog 21 #[v, u] w fun e w' => e = .returned (.bool true) ∧ ∃ n, w' = w.drewN n := by
  obtain ⟨ao, cap, rfl, h2, h3, -, h4⟩ := keys_cases ha
  obtain ⟨ao', cap', rfl, h2', h3', -, h4'⟩ := keys_cases hb
  clear ha hb
  unfold maxLen at h3 h3'
  obtain ⟨N, hN⟩ : ∃ N, N = l.length := ⟨_, rfl⟩
  rw [← hN] at h2 h2' h4 h4' ⊢
  rcases h4 with ⟨-, h5⟩ | ⟨b1, off, rfl, -, h0, hc⟩
  · subst h5
    clear h4' hN
    go_enter Try.func21, Try.ntmps21
    go_wp2
    refine wp_loop_rounds 1 ?_
    rw [rounds_succ]
    go_wp2
    go_ret
    exact ⟨rfl, 0, rfl⟩
  · rcases h4' with ⟨-, h5'⟩ | ⟨b2, off2, rfl, -, -, hc'⟩
    · omega
    · have HC := Lib.hid hc
      have HC' := Lib.hid hc'
      clear hc hc' hN
      go_enter Try.func21, Try.ntmps21
      go_wp2
      go_loopw [5] (fun i wr => ∃ k : Nat, k ≤ N ∧ i = .int .i64 k ∧ ∃ q, Hid (wr = w.drewN q)) (fun i _ => N - (intOf i).toNat)
      case atStart => exact ⟨0, Nat.zero_le _, rfl, 0, Lib.hid rfl⟩
      case round =>
        obtain ⟨k, hk, rfl, q, hq⟩ := hrel
        have hq' := hq.out
        subst hq'
        by_cases hlt : k < N
        · obtain ⟨x1, x2⟩ := HC.out k hlt
          obtain ⟨y1, y2⟩ := HC'.out k hlt
          obtain ⟨a, hA⟩ : ∃ a, a = l[k]?.getD (0, 0) := ⟨_, rfl⟩
          rw [← hA] at x1 x2 y1 y2
          clear hA
          have i1 : (0 : Int) ≤ (k : Int) ∧ (k : Int) < (N : Int) := by omega
          go_wp2
          go_quiet (fail)
          go_wp2
          go_roundw
          case rel => exact ⟨k + 1, by omega, by go_num, _, Lib.hid rfl⟩
          case measure => simp [intOf]; omega
        · have : k = N := by omega
          subst this
          go_wp2
          go_ret
          exact ⟨rfl, _, rfl⟩

theorem gAll_mem {f : Int → Int → List Key2} {m : Int} {c j : Nat} {k : Key2} (h : k ∈ gAll f m c j) : ∃ i a : Nat, i < c ∧ a < j ∧ k ∈ f ((i : Int) - m) ((a : Int) - m) := by
  simp only [gAll, gLine, List.mem_flatMap, List.mem_range] at h
  obtain ⟨a, ha, i, hi, hk⟩ := h
  exact ⟨i, a, hi, ha, hk⟩
theorem ball_wf {D : Int → Int → Int} {c1 c2 : Int} {m : Nat} (hm : m ≤ 12) (h1 : -1000000 ≤ c1 ∧ c1 ≤ 1000000) (h2 : -1000000 ≤ c2 ∧ c2 ≤ 1000000) : ∀ k ∈ ballOf D c1 c2 m, (Lit.int .i64 k.1).wf = true ∧ (Lit.int .i64 k.2).wf = true := by
  intro k hk
  obtain ⟨i, a, hi, ha, hk⟩ := gAll_mem hk
  unfold ballF at hk
  split at hk
  · simp only [List.mem_cons, List.not_mem_nil, or_false] at hk
    subst hk
    exact ⟨wf64_mk (by dsimp only; omega) (by dsimp only; omega), wf64_mk (by dsimp only; omega) (by dsimp only; omega)⟩
  · cases hk
def ballN (D : Int → Int → Int) (m : Nat) : Nat := (ballOf D 0 0 m).length
theorem ball_length (D : Int → Int → Int) (c1 c2 : Int) (m : Nat) : (ballOf D c1 c2 m).length = ballN D m := by
  have e : ∀ x y : Int, (ballF D c1 c2 m x y).length = (ballF D 0 0 m x y).length := by
    intro x y; unfold ballF; split <;> simp
  simp only [ballN, ballOf, gAll, gLine, List.length_flatMap, e]
theorem ball_one : ∀ m : Fin 13, (ballN (farD 1) m.1 : Int) = 2 * (m.1 : Int) * (m.1 : Int) + 2 * (m.1 : Int) + 1 := by decide +kernel
theorem ball_two : ∀ m : Fin 13, (ballN (farD 2) m.1 : Int) = 3 * (m.1 : Int) * (m.1 : Int) + 3 * (m.1 : Int) + 1 := by decide +kernel
end Go.Proofs.Ytcnpanmkpfgdjaa
