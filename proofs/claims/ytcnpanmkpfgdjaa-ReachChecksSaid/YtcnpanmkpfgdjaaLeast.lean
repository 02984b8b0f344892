/- Contracts of reach.choices and reach.Least. -/
import Derived.Test.YtcnpanmkpfgdjaaFrom
namespace Go.Proofs.Ytcnpanmkpfgdjaa
open Go.RowKit Go.Sch
attribute [local go_sem] Oper.semAt_some

theorem choices_calls (vl : Value) (w : World) (hv : ∃ ao n cap, vl = .slice ao n cap) :
    Calls Try.prog 38 #[vl] w fun e w' => e = .returned (.func (.func 53) #[] #[.pointer (some ⟨w.heap.size, 0, none⟩)]) ∧ w' = w.alloc (.cells #[vl] 72) := by
  obtain ⟨ao, n, cap, rfl⟩ := hv
  go_enter Try.func38, Try.ntmps38
  go_wp2
  go_ret
  exact ⟨rfl, rfl⟩

set_option maxRecDepth 100000 in
set_option maxHeartbeats 4000000 in
theorem choices1_iter (m bl : Nat) (K : Nat → Prop) (vl : Value) (ls : List (List Key2)) (W : World)
    (hbox : Blk W bl #[vl] 72) (hbl : K bl ∧ bl < W.heap.size) (hls : (sliceR keysR).R W (fun b => K b ∧ b < W.heap.size) [vl] ls) (hK : ∀ b, W.heap.size ≤ b → b < W.heap.size + 3 → K b) (hn : ls.length ≤ 8) :
    Iter m Try.prog 53 #[.pointer (some ⟨bl, 0, none⟩)] (fun _ : List Key2 => #[.slice (some ⟨W.heap.size + 2, 0, none⟩) ls.length ls.length]) (fun b => W.heap.size ≤ b ∧ b < W.heap.size + 3) K
      (fun x A => BufOk A (W.heap.size + 2) ls.length x ∧ x.length = ls.length) (chs ls) W := by
  intro l J Jx hJ hJx hY h0
  have hY' : ∀ m' pre x A, J pre A → (∃ post, chs ls = pre ++ x :: post) → BufOk A (W.heap.size + 2) ls.length x ∧ x.length = ls.length → YieldAt Fence.wide m' Try.prog l #[.slice (some ⟨W.heap.size + 2, 0, none⟩) ls.length ls.length] A fun e B =>
      (e = .returned (.bool true) ∧ J (pre ++ [x]) B ∧ Keeps K A B ∧ A.heap.size ≤ B.heap.size) ∨ (e = .returned (.bool false) ∧ Jx (pre ++ [x]) B) := by
    intro m' pre x A h1 h2 h3
    obtain ⟨fn, tmps, assign, body, hy, hR⟩ := hY pre x A h1 h2 h3
    exact ⟨fn, tmps, assign, body, hy, RoundIn.any hR⟩
  have HF := Lib.hid (show ∀ (m : Nat) (A : World), J [] A ∧ FromSt A (fun b => K b ∧ b ≠ W.heap.size + 2) l bl W.heap.size vl ls ∧ BufOk A (W.heap.size + 2) ls.length [] ∧ W.heap.size + 3 ≤ A.heap.size →
      CallsIn Fence.wide m Try.prog 54 #[.slice (some ⟨W.heap.size + 2, 0, none⟩) 0 ls.length, .pointer (some ⟨bl, 0, none⟩), .pointer (some ⟨W.heap.size, 0, none⟩), .pointer (some ⟨W.heap.size + 1, 0, none⟩)] A (BoolEnd (fun B => J (chs ls) B) (fun B => ∃ q, q <+: chs ls ∧ Jx q B)) from by
    rintro m A ⟨q1, q2, q3, q4⟩
    have := from_calls l bl W.heap.size ls.length K vl ls rfl (hK _ (by omega) (by omega)) (chs ls) J Jx hJ hY' ls.length m [] [] [] A (by simp) (by simp) q1 q2 q3 q4
    refine this.mono ?_
    rintro e B ⟨b, he, ht, hf⟩
    exact ⟨b, he, fun hb => by simpa using (ht hb).1, hf⟩)
  obtain ⟨ao, cap, rfl, -⟩ := slice1_cases rfl hls
  obtain ⟨n, hnn⟩ : ∃ n, n = ls.length := ⟨_, rfl⟩
  rw [← hnn] at hn HF hbox hls
  have c1 : W.cell? ⟨bl, 0, none⟩ = some (.slice ao n cap) := by rw [hbox.cell]; rfl
  have HH := Lib.hid (And.intro hbox (And.intro hls (And.intro hJ h0)))
  have HKK := Lib.hid hK
  have HBL := Lib.hid hbl
  have hbls := hbl.2
  have HNN := Lib.hid hnn
  clear hbox hls hJ hJx hY hY' h0 hK hbl hnn
  have hfw : ∀ f, Fence.wide.fn f := fun _ => trivial
  have hdw : Fence.wide.depth.isSome = false := rfl
  refine callsIn_of_wp Try.func53 rfl trivial ?_ rfl
  simp only [Try.ntmps53, List.size_toArray, List.length_cons, List.length_nil, Nat.reduceAdd, Nat.reduceSub, Array.replicate_succ, Array.replicate_zero, List.push_toArray, List.append_toArray, List.nil_append, List.cons_append]
  have hmk : ∀ wx : World, (Instr.makeSlice 31 (.int .i64 0) (.int .i64 (n : Int))).run Try.prog wx = .ok (.slice (some ⟨wx.heap.size, 0, none⟩) 0 n) (wx.alloc (.cells (madeCells #[.int .i64 0, .int .i64 0] (n * 2)) 23)) := fun wx => run_make_lc (P := Try.prog) wx 31 23 (.agg #[.int .i64 0, .int .i64 0]) 2 16 Try.underlying31 Try.info_key 0 n (Nat.zero_le _) (by omega) (by omega)
  have W3 : ∃ W3, W3 = (((W.alloc (.cells #[.func (.yield l) #[] #[]] 100)).alloc (.cells #[.func (.func 54) #[] #[.pointer (some ⟨bl, 0, none⟩), .pointer (some ⟨W.heap.size, 0, none⟩), .pointer (some ⟨W.heap.size + 1, 0, none⟩)]] 100)).alloc (.cells (madeCells #[.int .i64 0, .int .i64 0] (n * 2)) 23)).drew := ⟨_, rfl⟩
  obtain ⟨W3, hW3⟩ := W3
  have k3 : Keeps (fun _ => True) W W3 := by rw [hW3]; exact ((Keeps.alloc _ _ _).of_alloc _).of_alloc _
  have b3 : Below W.heap.size W W3 := by rw [hW3]; exact ((((Below.refl _ _).alloc (Nat.le_refl _) _).alloc (by simp) _).alloc (by simp; omega) _).drew
  have s3 : W3.heap.size = W.heap.size + 3 := by
    rw [hW3]
    show (((W.alloc _).alloc _).alloc _).heap.size = _
    simp
  have y3 : Blk W3 W.heap.size #[.func (.yield l) #[] #[]] 100 := by
    rw [hW3]
    exact ((Blk.new W _ _).keep (Keeps.alloc _ _ (fun _ => True)) trivial).keep (Keeps.alloc _ _ (fun _ => True)) trivial
  have f3 : Blk W3 (W.heap.size + 1) #[.func (.func 54) #[] #[.pointer (some ⟨bl, 0, none⟩), .pointer (some ⟨W.heap.size, 0, none⟩), .pointer (some ⟨W.heap.size + 1, 0, none⟩)]] 100 := by
    rw [hW3]
    exact (Blk.newAt _ _ (by simp)).keep (Keeps.alloc _ _ (fun _ => True)) trivial
  have m3 : BufOk W3 (W.heap.size + 2) n [] := by
    refine ⟨madeCells #[.int .i64 0, .int .i64 0] (n * 2), ?_, size_madeCells _ _, by simp⟩
    rw [hW3]
    exact Blk.newAt _ _ (by simp)
  have COND : J [] W3 ∧ FromSt W3 (fun b => K b ∧ b ≠ W.heap.size + 2) l bl W.heap.size (.slice ao n cap) ls ∧ BufOk W3 (W.heap.size + 2) n [] ∧ W.heap.size + 3 ≤ W3.heap.size :=
    ⟨HH.out.2.2.1 _ _ _ HH.out.2.2.2 (k3.mono fun _ _ => trivial) b3,
      ⟨HH.out.1.keep k3 trivial, ⟨HBL.out.1, by omega⟩, y3, f3, ⟨HKK.out _ (by omega) (by omega), by omega⟩, ⟨HKK.out _ (by omega) (by omega), by omega⟩,
        (sliceR keysR).mono ((sliceR keysR).keep HH.out.2.1 (k3.mono fun _ _ => trivial)) fun b hb => ⟨hb.1, by omega⟩⟩, m3, by omega⟩
  rw [hW3] at COND
  have HCOND := Lib.hid COND
  clear COND m3 f3 y3 s3 b3 k3 hW3
  gi_wp2
  gi_region_with (gi_at_call 54; refine (HF.out _ _ HCOND.out).mono ?_; rintro e B ⟨bb, rfl, hbt⟩; have HBT := Lib.hid hbt; clear hbt)
  all_goals
    cases bb
    · gi_wp2
      go_end0
      exact ⟨⟨_, rfl⟩, .inr (HBT.out.2 (by first | rfl | trivial))⟩
    · gi_wp2
      go_end0
      exact ⟨⟨_, rfl⟩, .inl (HBT.out.1 (by first | rfl | trivial))⟩
end Go.Proofs.Ytcnpanmkpfgdjaa
