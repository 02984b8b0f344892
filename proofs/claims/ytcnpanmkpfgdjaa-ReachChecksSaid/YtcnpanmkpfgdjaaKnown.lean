/- The law package's 'known': the first two examples of the chapter. -/
import Derived.Test.YtcnpanmkpfgdjaaLawA
namespace Go.Proofs.Ytcnpanmkpfgdjaa
open Go.RowKit Go.Sch

def Q0 : Quest := ⟨⟨2, [0], [7], [4]⟩, [[0], [4], [7]], 3⟩
theorem q0_least : leastOf (farD 2) (chs (qLists Q0)) = some ([(0, 0), (0, 1), (1, 0)], 1) := by kernel_rfl
theorem q0_count : (qCount Q0).2 = 0 := by kernel_rfl
theorem q0_check : reachCheck Q0 = 0 := by kernel_rfl
theorem one_int {w : World} {g : Nat} {t : TypeId} (n : Int) (h : Blk w g #[.int .i64 n] t) (hn : (Lit.int .i64 n).wf = true) : rowR.R w (fun _ => True) [.slice (some ⟨g, 0, none⟩) 1 1] [n] :=
  ints_of_blk (k := .i64) (zs := [n]) h trivial (show 1 ≤ maxLen by decide) (by simpa using hn)
theorem q0_rep {w : World} {a b c d e f g : Nat} {t t' : TypeId} (ha : Blk w a #[.int .i64 0] t) (hb : Blk w b #[.int .i64 7] t) (hc : Blk w c #[.int .i64 4] t) (hd : Blk w d #[.int .i64 0] t) (he : Blk w e #[.int .i64 4] t) (hf : Blk w f #[.int .i64 7] t)
    (hg : Blk w g #[.slice (some ⟨d, 0, none⟩) 1 1, .slice (some ⟨e, 0, none⟩) 1 1, .slice (some ⟨f, 0, none⟩) 1 1] t') :
    questR.R w (fun _ => True) [.int .i64 2, .slice (some ⟨a, 0, none⟩) 1 1, .slice (some ⟨b, 0, none⟩) 1 1, .slice (some ⟨c, 0, none⟩) 1 1, .slice (some ⟨g, 0, none⟩) 3 3, .int .i64 3] Q0 := by
  refine ⟨[.int .i64 2, .slice (some ⟨a, 0, none⟩) 1 1, .slice (some ⟨b, 0, none⟩) 1 1, .slice (some ⟨c, 0, none⟩) 1 1], .slice (some ⟨g, 0, none⟩) 3 3, rfl, ⟨_, _, _, rfl, rfl, one_int 0 ha rfl, one_int 7 hb rfl, one_int 4 hc rfl⟩, ?_, rfl⟩
  refine ⟨_, _, rfl, Nat.le_refl _, show 3 ≤ maxLen by decide, .inr ⟨g, 0, rfl, trivial, fun i hi => ?_⟩⟩
  have hA : ∀ v, #[Value.slice (some ⟨d, 0, none⟩) 1 1, .slice (some ⟨e, 0, none⟩) 1 1, .slice (some ⟨f, 0, none⟩) 1 1][i]? = some v → At w g (0 + i * 1) [v] := by
    intro v hv
    refine hg.at _ _ fun j hj => ?_
    match j, hj with
    | 0, _ => simpa using hv
  match i, hi with
  | 0, _ => exact ⟨_, hA _ rfl, one_int 0 hd rfl⟩
  | 1, _ => exact ⟨_, hA _ rfl, one_int 4 he rfl⟩
  | 2, _ => exact ⟨_, hA _ rfl, one_int 7 hf rfl⟩
set_option maxRecDepth 100000 in
set_option maxHeartbeats 2000000 in
theorem known_calls (w : World) : Calls Try.prog 10 #[] w fun e w' => e = .returned (.bool true) ∧ Below w.heap.size w w' := by
  have H1 := Lib.hid (fun w' => distance_calls 1 0 0 2 (-3) w' (by decide))
  have H2 := Lib.hid (fun w' => distance_calls 2 0 0 2 (-3) w' (by decide))
  have E1 := Lib.hid (show distRes 1 (0, 0) (2, -3) = (5, 0) by kernel_rfl)
  have E2 := Lib.hid (show distRes 2 (0, 0) (2, -3) = (3, 0) by kernel_rfl)
  have H3 := Lib.hid (fun w' cs (h : questR.R w' (fun _ => True) cs Q0) => least_good h q0_check q0_count)
  go_enter Try.func10, Try.ntmps10
  go_wp2_with fail
  refine (H1.out _).mono ?_
  rintro e w1 ⟨rfl, hb1⟩
  rw [E1.out]
  have HB1 := Lib.hid hb1
  clear hb1
  go_wp2_with fail
  refine (H2.out _).mono ?_
  rintro e w2 ⟨rfl, hb2⟩
  rw [E2.out]
  have HB2 := Lib.hid (HB1.out.trans (hb2.mono HB1.out.size))
  clear hb2 HB1
  go_wp2_with fail
  refine (H3.out _ _ (q0_rep (t := 3) (t' := 41) (d := w2.heap.size + 1 + 1 + 1) (e := w2.heap.size + 1 + 1 + 1 + 1) (f := w2.heap.size + 1 + 1 + 1 + 1 + 1) ?_ ?_ ?_ ?_ ?_ ?_ ?_)).mono ?_
  iterate 7
    · repeat (first | (refine Blk.newAt _ _ ?_; simp; done) | refine Blk.keep (ok := fun _ => True) ?_ (Keeps.alloc _ _ _) trivial)
  rintro e w3 ⟨hl, hb3⟩
  have HB3 : Hid (Below w.heap.size w w3) := Lib.hid (by
    refine Below.trans ?_ (hb3.mono (by have := HB2.out.size; simp; omega))
    repeat (first | exact HB2.out | refine Below.alloc ?_ (by have := HB2.out.size; simp; omega) _))
  clear hb3
  simp only [leastRes, q0_least, show Q0.l.kind = 2 from rfl] at hl
  obtain ⟨g, cap, rfl, hk⟩ := hl
  obtain ⟨ao, cap', hv, -, -, -, hc⟩ := keys_cases hk
  obtain ⟨rfl, rfl⟩ : some (⟨g, 0, none⟩ : Addr) = ao ∧ cap = cap' := by simpa using hv
  rcases hc with ⟨hc, -⟩ | ⟨b, off, hb, -, -, hc⟩
  · cases hc
  obtain ⟨rfl, rfl⟩ : g = b ∧ 0 = off := by simpa using hb
  obtain ⟨X1, X2⟩ : w3.cell? ⟨g, 2, none⟩ = some (.int .i64 0) ∧ w3.cell? ⟨g, 3, none⟩ = some (.int .i64 1) := hc 1 (by decide)
  obtain ⟨X3, X4⟩ : w3.cell? ⟨g, 4, none⟩ = some (.int .i64 1) ∧ w3.cell? ⟨g, 5, none⟩ = some (.int .i64 0) := hc 2 (by decide)
  clear hc hb hv hk
  go_wp2
  go_ret
  exact ⟨rfl, HB3.out⟩
end Go.Proofs.Ytcnpanmkpfgdjaa
