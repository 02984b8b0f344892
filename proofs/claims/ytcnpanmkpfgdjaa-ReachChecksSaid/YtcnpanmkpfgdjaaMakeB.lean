/- Contract of the law package's Make. -/
import Derived.Test.YtcnpanmkpfgdjaaMake
import Derived.Deep.DeepCutAuto
namespace Go.Proofs.Ytcnpanmkpfgdjaa
open Go.RowKit Go.Sch

theorem s7_keep {N0 : Nat} {v1 v2 v3 v4 v5 v6 v7 : Value} {W W' : World} (h : W.cell? ⟨N0, 1, none⟩ = some v1 ∧ W.cell? ⟨N0, 2, none⟩ = some v2 ∧ W.cell? ⟨N0, 3, none⟩ = some v3 ∧ W.cell? ⟨N0, 4, none⟩ = some v4 ∧ W.cell? ⟨N0, 5, none⟩ = some v5 ∧ W.cell? ⟨N0, 6, none⟩ = some v6 ∧ W.cell? ⟨N0, 7, none⟩ = some v7) (k : Keeps (fun _ => True) W W') :
    W'.cell? ⟨N0, 1, none⟩ = some v1 ∧ W'.cell? ⟨N0, 2, none⟩ = some v2 ∧ W'.cell? ⟨N0, 3, none⟩ = some v3 ∧ W'.cell? ⟨N0, 4, none⟩ = some v4 ∧ W'.cell? ⟨N0, 5, none⟩ = some v5 ∧ W'.cell? ⟨N0, 6, none⟩ = some v6 ∧ W'.cell? ⟨N0, 7, none⟩ = some v7 := by
  obtain ⟨h1, h2, h3, h4, h5, h6, h7⟩ := h
  exact ⟨k.cell (a := ⟨N0, 1, none⟩) trivial h1, k.cell (a := ⟨N0, 2, none⟩) trivial h2, k.cell (a := ⟨N0, 3, none⟩) trivial h3, k.cell (a := ⟨N0, 4, none⟩) trivial h4, k.cell (a := ⟨N0, 5, none⟩) trivial h5, k.cell (a := ⟨N0, 6, none⟩) trivial h6, k.cell (a := ⟨N0, 7, none⟩) trivial h7⟩
theorem s7_of {W : World} {N0 : Nat} {t : TypeId} {a b c d e f g v1 v2 v3 : Value} (h : Blk W N0 #[v1, a, b, c, d, e, f, g, v2, v3] t) :
    W.drew.cell? ⟨N0, 1, none⟩ = some a ∧ W.drew.cell? ⟨N0, 2, none⟩ = some b ∧ W.drew.cell? ⟨N0, 3, none⟩ = some c ∧ W.drew.cell? ⟨N0, 4, none⟩ = some d ∧ W.drew.cell? ⟨N0, 5, none⟩ = some e ∧ W.drew.cell? ⟨N0, 6, none⟩ = some f ∧ W.drew.cell? ⟨N0, 7, none⟩ = some g := by
  have h' : Blk W.drew N0 #[v1, a, b, c, d, e, f, g, v2, v3] t := h
  exact ⟨by rw [h'.cell]; rfl, by rw [h'.cell]; rfl, by rw [h'.cell]; rfl, by rw [h'.cell]; rfl, by rw [h'.cell]; rfl, by rw [h'.cell]; rfl, by rw [h'.cell]; rfl⟩
theorem s7_set {N0 g : Nat} {v1 v2 v3 v4 v5 v6 v7 a b c d : Value} {W : World} (h : W.cell? ⟨N0, 1, none⟩ = some v1 ∧ W.cell? ⟨N0, 2, none⟩ = some v2 ∧ W.cell? ⟨N0, 3, none⟩ = some v3 ∧ W.cell? ⟨N0, 4, none⟩ = some v4 ∧ W.cell? ⟨N0, 5, none⟩ = some v5 ∧ W.cell? ⟨N0, 6, none⟩ = some v6 ∧ W.cell? ⟨N0, 7, none⟩ = some v7) (hg : N0 < g) :
    ((((W.setCell ⟨g, 0, none⟩ a).setCell ⟨g, 1, none⟩ b).setCell ⟨g, 2, none⟩ c).setCell ⟨g, 3, none⟩ d).cell? ⟨N0, 1, none⟩ = some v1 ∧ ((((W.setCell ⟨g, 0, none⟩ a).setCell ⟨g, 1, none⟩ b).setCell ⟨g, 2, none⟩ c).setCell ⟨g, 3, none⟩ d).cell? ⟨N0, 2, none⟩ = some v2 ∧
    ((((W.setCell ⟨g, 0, none⟩ a).setCell ⟨g, 1, none⟩ b).setCell ⟨g, 2, none⟩ c).setCell ⟨g, 3, none⟩ d).cell? ⟨N0, 3, none⟩ = some v3 ∧ ((((W.setCell ⟨g, 0, none⟩ a).setCell ⟨g, 1, none⟩ b).setCell ⟨g, 2, none⟩ c).setCell ⟨g, 3, none⟩ d).cell? ⟨N0, 4, none⟩ = some v4 ∧
    ((((W.setCell ⟨g, 0, none⟩ a).setCell ⟨g, 1, none⟩ b).setCell ⟨g, 2, none⟩ c).setCell ⟨g, 3, none⟩ d).cell? ⟨N0, 5, none⟩ = some v5 ∧ ((((W.setCell ⟨g, 0, none⟩ a).setCell ⟨g, 1, none⟩ b).setCell ⟨g, 2, none⟩ c).setCell ⟨g, 3, none⟩ d).cell? ⟨N0, 6, none⟩ = some v6 ∧
    ((((W.setCell ⟨g, 0, none⟩ a).setCell ⟨g, 1, none⟩ b).setCell ⟨g, 2, none⟩ c).setCell ⟨g, 3, none⟩ d).cell? ⟨N0, 7, none⟩ = some v7 := by
  have k : Keeps (fun b => b ≠ g) W ((((W.setCell ⟨g, 0, none⟩ a).setCell ⟨g, 1, none⟩ b).setCell ⟨g, 2, none⟩ c).setCell ⟨g, 3, none⟩ d) :=
    (((Keeps.setCell (p := ⟨g, 0, none⟩) (by simp)).trans (Keeps.setCell (p := ⟨g, 1, none⟩) (by simp))).trans (Keeps.setCell (p := ⟨g, 2, none⟩) (by simp))).trans (Keeps.setCell (p := ⟨g, 3, none⟩) (by simp))
  have hn : N0 ≠ g := by omega
  obtain ⟨h1, h2, h3, h4, h5, h6, h7⟩ := h
  exact ⟨k.cell (a := ⟨N0, 1, none⟩) hn h1, k.cell (a := ⟨N0, 2, none⟩) hn h2, k.cell (a := ⟨N0, 3, none⟩) hn h3, k.cell (a := ⟨N0, 4, none⟩) hn h4, k.cell (a := ⟨N0, 5, none⟩) hn h5, k.cell (a := ⟨N0, 6, none⟩) hn h6, k.cell (a := ⟨N0, 7, none⟩) hn h7⟩
theorem rowOf_any (two : Bool) (a b : Int) (w : World) : Calls Try.prog 35 #[.bool two, .agg #[.int .i8 a, .int .i8 b]] w fun e w' => ∃ g n, e = .returned (.slice (some ⟨g, 0, none⟩) n n) ∧
      rowR.R w' (fun b => w.heap.size ≤ b) [.slice (some ⟨g, 0, none⟩) n n] (rowOfL two (a, b)) ∧ Below w.heap.size w w' :=
  (rowOf_calls two a b w).mono fun _ _ ⟨g, h1, h2, h3⟩ => ⟨g, _, h1, h2, h3⟩
theorem t7_keep {N0 g : Nat} {ok : Nat → Prop} {v1 v2 v3 v4 v5 v6 v7 : Value} {W W' : World} (h : W.cell? ⟨g, 0, none⟩ = some v1 ∧ W.cell? ⟨g, 1, none⟩ = some v2 ∧ W.cell? ⟨g, 2, none⟩ = some v3 ∧ W.cell? ⟨g, 3, none⟩ = some v4 ∧ W.cell? ⟨N0, 1, none⟩ = some v5 ∧ W.cell? ⟨N0, 8, none⟩ = some v6 ∧ W.cell? ⟨N0, 9, none⟩ = some v7)
    (k : Keeps ok W W') (hg : ok g) (hn : ok N0) : W'.cell? ⟨g, 0, none⟩ = some v1 ∧ W'.cell? ⟨g, 1, none⟩ = some v2 ∧ W'.cell? ⟨g, 2, none⟩ = some v3 ∧ W'.cell? ⟨g, 3, none⟩ = some v4 ∧ W'.cell? ⟨N0, 1, none⟩ = some v5 ∧ W'.cell? ⟨N0, 8, none⟩ = some v6 ∧ W'.cell? ⟨N0, 9, none⟩ = some v7 := by
  obtain ⟨h1, h2, h3, h4, h5, h6, h7⟩ := h
  exact ⟨k.cell (a := ⟨g, 0, none⟩) hg h1, k.cell (a := ⟨g, 1, none⟩) hg h2, k.cell (a := ⟨g, 2, none⟩) hg h3, k.cell (a := ⟨g, 3, none⟩) hg h4, k.cell (a := ⟨N0, 1, none⟩) hn h5, k.cell (a := ⟨N0, 8, none⟩) hn h6, k.cell (a := ⟨N0, 9, none⟩) hn h7⟩
theorem keeps_set6 {W : World} {g : Nat} {a b c d e f : Value} : Keeps (fun x => x ≠ g) W ((((((W.setCell ⟨g, 0, none⟩ a).setCell ⟨g, 1, none⟩ b).setCell ⟨g, 2, none⟩ c).setCell ⟨g, 3, none⟩ d).setCell ⟨g, 4, none⟩ e).setCell ⟨g, 5, none⟩ f) :=
  (((((Keeps.setCell (p := ⟨g, 0, none⟩) (by simp)).trans (Keeps.setCell (p := ⟨g, 1, none⟩) (by simp))).trans (Keeps.setCell (p := ⟨g, 2, none⟩) (by simp))).trans (Keeps.setCell (p := ⟨g, 3, none⟩) (by simp))).trans (Keeps.setCell (p := ⟨g, 4, none⟩) (by simp))).trans (Keeps.setCell (p := ⟨g, 5, none⟩) (by simp))
theorem below_set6 {W0 W : World} {B g : Nat} {a b c d e f : Value} (h : Below B W0 W) (hg : B ≤ g) : Below B W0 ((((((W.setCell ⟨g, 0, none⟩ a).setCell ⟨g, 1, none⟩ b).setCell ⟨g, 2, none⟩ c).setCell ⟨g, 3, none⟩ d).setCell ⟨g, 4, none⟩ e).setCell ⟨g, 5, none⟩ f) :=
  (((((h.setCell (p := ⟨g, 0, none⟩) hg _).setCell (p := ⟨g, 1, none⟩) hg _).setCell (p := ⟨g, 2, none⟩) hg _).setCell (p := ⟨g, 3, none⟩) hg _).setCell (p := ⟨g, 4, none⟩) hg _).setCell (p := ⟨g, 5, none⟩) hg _
theorem blk6z {w : World} {g : Nat} {t : TypeId} {a b c d e f : Value} (h : Blk w g #[a, b, c, d, e, f] t) :
    (w.cell? ⟨g, 0, none⟩ = some a ∧ w.cell? ⟨g, 1, none⟩ = some b ∧ w.cell? ⟨g, 2, none⟩ = some c ∧ w.cell? ⟨g, 3, none⟩ = some d ∧ w.cell? ⟨g, 4, none⟩ = some e ∧ w.cell? ⟨g, 5, none⟩ = some f) ∧
    (w.frozen? ⟨g, 0, none⟩ = false ∧ w.frozen? ⟨g, 1, none⟩ = false ∧ w.frozen? ⟨g, 2, none⟩ = false ∧ w.frozen? ⟨g, 3, none⟩ = false ∧ w.frozen? ⟨g, 4, none⟩ = false ∧ w.frozen? ⟨g, 5, none⟩ = false) :=
  ⟨⟨by rw [h.cell]; rfl, by rw [h.cell]; rfl, by rw [h.cell]; rfl, by rw [h.cell]; rfl, by rw [h.cell]; rfl, by rw [h.cell]; rfl⟩, ⟨h.free 0, h.free 1, h.free 2, h.free 3, h.free 4, h.free 5⟩⟩
/-- What the three rows and their layout come to. -/
structure LayMade (W0 : World) (two : Bool) (o r u : Int × Int) (s3 : Value) (wx : World) : Prop where
  ex : ∃ g v1 v2 v3, s3 = .pointer (some ⟨g, 0, none⟩) ∧ Blk wx g #[.int .i64 1, v1, v2, v3] 43 ∧ W0.heap.size ≤ g ∧ Below W0.heap.size W0 wx ∧
    rowR.R wx (fun b => W0.heap.size ≤ b ∧ b ≠ g) [v1] (rowOfL two o) ∧ rowR.R wx (fun b => W0.heap.size ≤ b ∧ b ≠ g) [v2] (rowOfL two r) ∧ rowR.R wx (fun b => W0.heap.size ≤ b ∧ b ≠ g) [v3] (rowOfL two u)
theorem layMade {W0 wc : World} {two : Bool} {o r u : Int × Int} {v1 v2 v3 : Value} (hb : Below W0.heap.size W0 wc)
    (h1 : rowR.R wc (fun b => W0.heap.size ≤ b ∧ b < wc.heap.size) [v1] (rowOfL two o)) (h2 : rowR.R wc (fun b => W0.heap.size ≤ b ∧ b < wc.heap.size) [v2] (rowOfL two r)) (h3 : rowR.R wc (fun b => W0.heap.size ≤ b ∧ b < wc.heap.size) [v3] (rowOfL two u)) :
    LayMade W0 two o r u (.pointer (some ⟨wc.heap.size, 0, none⟩)) (wc.alloc (.cells #[.int .i64 1, v1, v2, v3] 43)) := by
  have key : ∀ {v : Value} {x : List Int}, rowR.R wc (fun b => W0.heap.size ≤ b ∧ b < wc.heap.size) [v] x → rowR.R (wc.alloc (.cells #[.int .i64 1, v1, v2, v3] 43)) (fun b => W0.heap.size ≤ b ∧ b ≠ wc.heap.size) [v] x :=
    fun h => rowR.mono (rowR.keep h (Keeps.alloc _ _ _)) fun b hb => ⟨hb.1, by omega⟩
  exact ⟨_, v1, v2, v3, rfl, Blk.new _ _ _, hb.size, hb.alloc hb.size _, key h1, key h2, key h3⟩
theorem layMadeB {W0 wc : World} {two : Bool} {o r u : Int × Int} {v1 v2 v3 : Value} {g : Nat} (hb : Below W0.heap.size W0 wc) (hg : W0.heap.size ≤ g) (hz : Blk wc g #[.int .i64 0, .slice none 0 0, .slice none 0 0, .slice none 0 0] 43)
    (h1 : rowR.R wc (fun b => W0.heap.size ≤ b ∧ b ≠ g) [v1] (rowOfL two o)) (h2 : rowR.R wc (fun b => W0.heap.size ≤ b ∧ b ≠ g) [v2] (rowOfL two r)) (h3 : rowR.R wc (fun b => W0.heap.size ≤ b ∧ b ≠ g) [v3] (rowOfL two u)) :
    LayMade W0 two o r u (.pointer (some ⟨g, 0, none⟩)) ((((wc.setCell ⟨g, 0, none⟩ (.int .i64 1)).setCell ⟨g, 1, none⟩ v1).setCell ⟨g, 2, none⟩ v2).setCell ⟨g, 3, none⟩ v3) := by
  have k : Keeps (fun b => W0.heap.size ≤ b ∧ b ≠ g) wc ((((wc.setCell ⟨g, 0, none⟩ (.int .i64 1)).setCell ⟨g, 1, none⟩ v1).setCell ⟨g, 2, none⟩ v2).setCell ⟨g, 3, none⟩ v3) :=
    (((Keeps.setCell (p := ⟨g, 0, none⟩) (by simp)).trans (Keeps.setCell (p := ⟨g, 1, none⟩) (by simp))).trans (Keeps.setCell (p := ⟨g, 2, none⟩) (by simp))).trans (Keeps.setCell (p := ⟨g, 3, none⟩) (by simp))
  refine ⟨_, v1, v2, v3, rfl, ?_, hg, ?_, rowR.keep h1 k, rowR.keep h2 k, rowR.keep h3 k⟩
  · exact (((hz.set 0 (.int .i64 1)).set 1 v1).set 2 v2).set 3 v3
  · exact (((hb.setCell (p := ⟨g, 0, none⟩) hg _).setCell (p := ⟨g, 1, none⟩) hg _).setCell (p := ⟨g, 2, none⟩) hg _).setCell (p := ⟨g, 3, none⟩) hg _
theorem blk4z {w : World} {g : Nat} {t : TypeId} (h : Blk w g #[.int .i64 0, .slice none 0 0, .slice none 0 0, .slice none 0 0] t) :
    (w.cell? ⟨g, 0, none⟩ = some (.int .i64 0) ∧ w.cell? ⟨g, 1, none⟩ = some (.slice none 0 0) ∧ w.cell? ⟨g, 2, none⟩ = some (.slice none 0 0) ∧ w.cell? ⟨g, 3, none⟩ = some (.slice none 0 0)) ∧
    (w.frozen? ⟨g, 0, none⟩ = false ∧ w.frozen? ⟨g, 1, none⟩ = false ∧ w.frozen? ⟨g, 2, none⟩ = false ∧ w.frozen? ⟨g, 3, none⟩ = false) :=
  ⟨⟨by rw [h.cell]; rfl, by rw [h.cell]; rfl, by rw [h.cell]; rfl, by rw [h.cell]; rfl⟩, ⟨h.free 0, h.free 1, h.free 2, h.free 3⟩⟩
set_option maxRecDepth 100000 in
set_option maxHeartbeats 4000000 in
theorem make_calls (hex two : Bool) (o1 o2 r1 r2 u1 u2 m : Int) {w : World} {ok : Nat → Prop} {v : Value} {l : List (Int × Int)} (h : (sliceR pair8R).R w ok [v] l) :
    Calls Try.prog 16 #[.agg #[.bool hex, .bool two, .int .i8 o1, .int .i8 o2, .int .i8 r1, .int .i8 r2, .int .i8 u1, .int .i8 u2, v, .int .u8 m]] w fun e w' =>
      ∃ cs : List Value, e = .returned (.agg cs.toArray) ∧ questR.R w' (fun b => w.heap.size ≤ b) cs (planQ ⟨hex, two, (o1, o2), (r1, r2), (u1, u2), l, m⟩) ∧ Below w.heap.size w w' := by
  obtain ⟨ao, cap, rfl, h2, h3, hbd, h4⟩ := pairs8_cases h
  have hT := (sliceR pair8R).mono h (fun _ _ => trivial : ∀ b, ok b → (fun _ => True) b)
  have HR := Lib.hid (fun w' (k : Keeps (fun _ => True) w w') => lawRows_calls two ((sliceR pair8R).keep hT k))
  clear h hT hbd h4
  have HQ := Lib.hid (fun a b w' => rowOf_any two a b w')
  go_enter Try.func16, Try.ntmps16
  go_wp2_with fail
  obtain ⟨W0, hW0⟩ : ∃ W0, W0 = (w.alloc (.cells #[.bool hex, .bool two, .int .i8 o1, .int .i8 o2, .int .i8 r1, .int .i8 r2, .int .i8 u1, .int .i8 u2, .slice ao l.length cap, .int .u8 m] 39)).alloc (.cells #[.int .i64 0, .slice none 0 0, .slice none 0 0, .slice none 0 0, .slice none 0 0, .int .i64 0] 46) := ⟨_, rfl⟩
  have HX0 : Hid (Blk W0 w.heap.size #[.bool hex, .bool two, .int .i8 o1, .int .i8 o2, .int .i8 r1, .int .i8 r2, .int .i8 u1, .int .i8 u2, .slice ao l.length cap, .int .u8 m] 39) := Lib.hid (by rw [hW0]; exact (Blk.new w _ _).keep (Keeps.alloc _ _ (fun _ => True)) trivial)
  have HY0 : Hid (Blk W0 (w.heap.size + 1) #[.int .i64 0, .slice none 0 0, .slice none 0 0, .slice none 0 0, .slice none 0 0, .int .i64 0] 46) := Lib.hid (by rw [hW0]; exact Blk.newAt _ _ (by simp))
  have HB0 : Hid (Below w.heap.size w W0) := Lib.hid (by rw [hW0]; exact ((Below.refl _ _).alloc (Nat.le_refl _) _).alloc (by simp) _)
  have hz0 : W0.heap.size = w.heap.size + 2 := by rw [hW0]; simp
  have HZ0 := Lib.hid hz0
  rw [← hW0]
  clear hW0 hz0
  obtain ⟨N0, hN0⟩ : ∃ N0, N0 = w.heap.size := ⟨_, rfl⟩
  have HN0 := Lib.hid hN0
  rw [← hN0] at HX0 HY0 HZ0 ⊢
  clear hN0
  go_cut [3] (fun s3 wx => Hid (LayMade W0 two (o1, o2) (r1, r2) (u1, u2) s3 wx))
  case first =>
    have hs0 : W0.drew.cell? ⟨N0, 1, none⟩ = some (.bool two) ∧ W0.drew.cell? ⟨N0, 2, none⟩ = some (.int .i8 o1) ∧ W0.drew.cell? ⟨N0, 3, none⟩ = some (.int .i8 o2) ∧ W0.drew.cell? ⟨N0, 4, none⟩ = some (.int .i8 r1) ∧ W0.drew.cell? ⟨N0, 5, none⟩ = some (.int .i8 r2) ∧ W0.drew.cell? ⟨N0, 6, none⟩ = some (.int .i8 u1) ∧ W0.drew.cell? ⟨N0, 7, none⟩ = some (.int .i8 u2) :=
      s7_of HX0.out
    have hsd : (W0.alloc (.cells #[.int .i64 0, .slice none 0 0, .slice none 0 0, .slice none 0 0] 43)).drew.cell? ⟨N0, 1, none⟩ = some (.bool two) ∧ (W0.alloc (.cells #[.int .i64 0, .slice none 0 0, .slice none 0 0, .slice none 0 0] 43)).drew.cell? ⟨N0, 2, none⟩ = some (.int .i8 o1) ∧ (W0.alloc (.cells #[.int .i64 0, .slice none 0 0, .slice none 0 0, .slice none 0 0] 43)).drew.cell? ⟨N0, 3, none⟩ = some (.int .i8 o2) ∧ (W0.alloc (.cells #[.int .i64 0, .slice none 0 0, .slice none 0 0, .slice none 0 0] 43)).drew.cell? ⟨N0, 4, none⟩ = some (.int .i8 r1) ∧ (W0.alloc (.cells #[.int .i64 0, .slice none 0 0, .slice none 0 0, .slice none 0 0] 43)).drew.cell? ⟨N0, 5, none⟩ = some (.int .i8 r2) ∧ (W0.alloc (.cells #[.int .i64 0, .slice none 0 0, .slice none 0 0, .slice none 0 0] 43)).drew.cell? ⟨N0, 6, none⟩ = some (.int .i8 u1) ∧ (W0.alloc (.cells #[.int .i64 0, .slice none 0 0, .slice none 0 0, .slice none 0 0] 43)).drew.cell? ⟨N0, 7, none⟩ = some (.int .i8 u2) :=
      s7_of (HX0.out.keep (Keeps.alloc W0 (.cells #[.int .i64 0, .slice none 0 0, .slice none 0 0, .slice none 0 0] 43) (fun _ => True)) trivial)
    have HBc0 : Hid (Below W0.heap.size W0 W0.drew) := Lib.hid (Below.refl _ _).drew
    have hn0 : N0 < W0.heap.size := by have := HZ0.out; omega
    have tk1 : True := trivial
    have tk2 : True := trivial
    have tk3 : True := trivial
    go_region_held3 (fun w' => w'.cell? ⟨N0, 1, none⟩ = some (.bool two) ∧ w'.cell? ⟨N0, 2, none⟩ = some (.int .i8 o1) ∧ w'.cell? ⟨N0, 3, none⟩ = some (.int .i8 o2) ∧ w'.cell? ⟨N0, 4, none⟩ = some (.int .i8 r1) ∧ w'.cell? ⟨N0, 5, none⟩ = some (.int .i8 r2) ∧ w'.cell? ⟨N0, 6, none⟩ = some (.int .i8 u1) ∧ w'.cell? ⟨N0, 7, none⟩ = some (.int .i8 u2)) ((first | with_reducible exact s7_set hs3 (Nat.lt_of_lt_of_le hn0 hg1) | with_reducible exact s7_set hs3 (Nat.lt_of_lt_of_le hn0 hg2) | with_reducible exact s7_set hs3 hn0 | with_reducible exact hs0 | with_reducible exact hsd | with_reducible exact hs1 | with_reducible exact hs2 | with_reducible exact hs3 | with_reducible exact s7_keep hs1 (Keeps.alloc _ _ _) | with_reducible exact s7_keep hs2 (Keeps.alloc _ _ _) | with_reducible exact s7_keep hs3 (Keeps.alloc _ _ _)))
      (first | (have _t := tk1; go_at_call 35; refine (HQ.out _ _ _).mono ?_; rintro e wc1 ⟨gc1, nc1, rfl, hu, hb⟩; have hul := rowR.lt hu; (first | (have hb1 : Below (W0.drew).heap.size (W0.drew) wc1 := (by with_reducible exact hb); have HK1 := Lib.hid (show Keeps (fun _ => True) (W0.drew) wc1 from Keeps.all hb1 _); have hs1 := s7_keep hs0 HK1.out; have HBc1 := Lib.hid (HBc0.out.trans (hb1.mono HBc0.out.size)); have sz1 : W0.heap.size ≤ wc1.heap.size := hb1.size; have hg1 : W0.heap.size ≤ wc1.heap.size := HBc1.out.size; have HU1 := Lib.hid (show rowR.R wc1 (fun b => W0.heap.size ≤ b ∧ b < wc1.heap.size) _ _ from hul); clear hb1; (try (have hz := HZB.out.keep HK1.out trivial; have HZB := Lib.hid hz; obtain ⟨⟨zc1, zc2, zc3, zc4⟩, ⟨zc5, zc6, zc7, zc8⟩⟩ := blk4z hz; clear hz))) | (have hb1 : Below ((W0.alloc (.cells #[.int .i64 0, .slice none 0 0, .slice none 0 0, .slice none 0 0] 43)).drew).heap.size ((W0.alloc (.cells #[.int .i64 0, .slice none 0 0, .slice none 0 0, .slice none 0 0] 43)).drew) wc1 := (by with_reducible exact hb); have hka : Keeps (fun _ => True) (W0.drew) ((W0.alloc (.cells #[.int .i64 0, .slice none 0 0, .slice none 0 0, .slice none 0 0] 43)).drew) := (show Keeps (fun _ => True) W0 (W0.alloc (.cells #[.int .i64 0, .slice none 0 0, .slice none 0 0, .slice none 0 0] 43)) from Keeps.alloc _ _ _); have HK1 := Lib.hid (hka.trans (Keeps.all hb1 _)); have hs1 := s7_keep hs0 HK1.out; have HBa : Below W0.heap.size W0 ((W0.alloc (.cells #[.int .i64 0, .slice none 0 0, .slice none 0 0, .slice none 0 0] 43)).drew) := ((Below.refl _ W0).alloc (Nat.le_refl _) _ |>.drew); have HBc1 := Lib.hid (HBa.trans (hb1.mono HBa.size)); have sz1 : (W0.alloc (.cells #[.int .i64 0, .slice none 0 0, .slice none 0 0, .slice none 0 0] 43)).heap.size ≤ wc1.heap.size := hb1.size; rw [World.size_alloc] at sz1; have hg1 : W0.heap.size ≤ wc1.heap.size := HBc1.out.size; have HU1 := Lib.hid (show rowR.R wc1 (fun b => W0.heap.size + 1 ≤ b ∧ b < wc1.heap.size) _ _ from rowR.mono hul (fun b hb => ⟨Nat.le_trans (Nat.le_of_eq (World.size_alloc _ _).symm) hb.1, hb.2⟩)); have hz0 : Blk ((W0.alloc (.cells #[.int .i64 0, .slice none 0 0, .slice none 0 0, .slice none 0 0] 43)).drew) W0.heap.size #[.int .i64 0, .slice none 0 0, .slice none 0 0, .slice none 0 0] 43 := (show Blk (W0.alloc (.cells #[.int .i64 0, .slice none 0 0, .slice none 0 0, .slice none 0 0] 43)) W0.heap.size #[.int .i64 0, .slice none 0 0, .slice none 0 0, .slice none 0 0] 43 from Blk.new _ _ _); have hz := hz0.keep (Keeps.all hb1 (fun _ => True)) trivial; have HZB := Lib.hid hz; obtain ⟨⟨zc1, zc2, zc3, zc4⟩, ⟨zc5, zc6, zc7, zc8⟩⟩ := blk4z hz; clear hz hz0 hb1 hka HBa)); clear hu hul hb tk1 hs0 hsd) | (have _t := tk2; go_at_call 35; refine (HQ.out _ _ _).mono ?_; rintro e wc2 ⟨gc2, nc2, rfl, hu, hb⟩; have hul := rowR.lt hu; (first | (have hb1 : Below (wc1).heap.size (wc1) wc2 := (by with_reducible exact hb); have HK2 := Lib.hid (show Keeps (fun _ => True) (wc1) wc2 from Keeps.all hb1 _); have hs2 := s7_keep hs1 HK2.out; have HBc2 := Lib.hid (HBc1.out.trans (hb1.mono HBc1.out.size)); have sz2 : wc1.heap.size ≤ wc2.heap.size := hb1.size; have hg2 : W0.heap.size ≤ wc2.heap.size := HBc2.out.size; have HU2 := Lib.hid (show rowR.R wc2 (fun b => wc1.heap.size ≤ b ∧ b < wc2.heap.size) _ _ from hul); clear hb1; (try (have hz := HZB.out.keep HK2.out trivial; have HZB := Lib.hid hz; obtain ⟨⟨zc1, zc2, zc3, zc4⟩, ⟨zc5, zc6, zc7, zc8⟩⟩ := blk4z hz; clear hz))) | (have hb1 : Below ((wc1.alloc (.cells #[.int .i64 0, .slice none 0 0, .slice none 0 0, .slice none 0 0] 43))).heap.size ((wc1.alloc (.cells #[.int .i64 0, .slice none 0 0, .slice none 0 0, .slice none 0 0] 43))) wc2 := (by with_reducible exact hb); have hka : Keeps (fun _ => True) (wc1) ((wc1.alloc (.cells #[.int .i64 0, .slice none 0 0, .slice none 0 0, .slice none 0 0] 43))) := (show Keeps (fun _ => True) wc1 (wc1.alloc (.cells #[.int .i64 0, .slice none 0 0, .slice none 0 0, .slice none 0 0] 43)) from Keeps.alloc _ _ _); have HK2 := Lib.hid (hka.trans (Keeps.all hb1 _)); have hs2 := s7_keep hs1 HK2.out; have HBa : Below W0.heap.size W0 ((wc1.alloc (.cells #[.int .i64 0, .slice none 0 0, .slice none 0 0, .slice none 0 0] 43))) := (HBc1.out.alloc HBc1.out.size _); have HBc2 := Lib.hid (HBa.trans (hb1.mono HBa.size)); have sz2 : (wc1.alloc (.cells #[.int .i64 0, .slice none 0 0, .slice none 0 0, .slice none 0 0] 43)).heap.size ≤ wc2.heap.size := hb1.size; rw [World.size_alloc] at sz2; have hg2 : W0.heap.size ≤ wc2.heap.size := HBc2.out.size; have HU2 := Lib.hid (show rowR.R wc2 (fun b => wc1.heap.size + 1 ≤ b ∧ b < wc2.heap.size) _ _ from rowR.mono hul (fun b hb => ⟨Nat.le_trans (Nat.le_of_eq (World.size_alloc _ _).symm) hb.1, hb.2⟩)); have hz0 : Blk ((wc1.alloc (.cells #[.int .i64 0, .slice none 0 0, .slice none 0 0, .slice none 0 0] 43))) wc1.heap.size #[.int .i64 0, .slice none 0 0, .slice none 0 0, .slice none 0 0] 43 := (show Blk (wc1.alloc (.cells #[.int .i64 0, .slice none 0 0, .slice none 0 0, .slice none 0 0] 43)) wc1.heap.size #[.int .i64 0, .slice none 0 0, .slice none 0 0, .slice none 0 0] 43 from Blk.new _ _ _); have hz := hz0.keep (Keeps.all hb1 (fun _ => True)) trivial; have HZB := Lib.hid hz; obtain ⟨⟨zc1, zc2, zc3, zc4⟩, ⟨zc5, zc6, zc7, zc8⟩⟩ := blk4z hz; clear hz hz0 hb1 hka HBa)); clear hu hul hb tk2 hs1) | (have _t := tk3; go_at_call 35; refine (HQ.out _ _ _).mono ?_; rintro e wc3 ⟨gc3, nc3, rfl, hu, hb⟩; have hul := rowR.lt hu; (first | (have hb1 : Below (wc2).heap.size (wc2) wc3 := (by with_reducible exact hb); have HK3 := Lib.hid (show Keeps (fun _ => True) (wc2) wc3 from Keeps.all hb1 _); have hs3 := s7_keep hs2 HK3.out; have HBc3 := Lib.hid (HBc2.out.trans (hb1.mono HBc2.out.size)); have sz3 : wc2.heap.size ≤ wc3.heap.size := hb1.size; have hg3 : W0.heap.size ≤ wc3.heap.size := HBc3.out.size; have HU3 := Lib.hid (show rowR.R wc3 (fun b => wc2.heap.size ≤ b ∧ b < wc3.heap.size) _ _ from hul); clear hb1; (try (have hz := HZB.out.keep HK3.out trivial; have HZB := Lib.hid hz; obtain ⟨⟨zc1, zc2, zc3, zc4⟩, ⟨zc5, zc6, zc7, zc8⟩⟩ := blk4z hz; clear hz))) | (have hb1 : Below ((wc2.alloc (.cells #[.int .i64 0, .slice none 0 0, .slice none 0 0, .slice none 0 0] 43))).heap.size ((wc2.alloc (.cells #[.int .i64 0, .slice none 0 0, .slice none 0 0, .slice none 0 0] 43))) wc3 := (by with_reducible exact hb); have hka : Keeps (fun _ => True) (wc2) ((wc2.alloc (.cells #[.int .i64 0, .slice none 0 0, .slice none 0 0, .slice none 0 0] 43))) := (show Keeps (fun _ => True) wc2 (wc2.alloc (.cells #[.int .i64 0, .slice none 0 0, .slice none 0 0, .slice none 0 0] 43)) from Keeps.alloc _ _ _); have HK3 := Lib.hid (hka.trans (Keeps.all hb1 _)); have hs3 := s7_keep hs2 HK3.out; have HBa : Below W0.heap.size W0 ((wc2.alloc (.cells #[.int .i64 0, .slice none 0 0, .slice none 0 0, .slice none 0 0] 43))) := (HBc2.out.alloc HBc2.out.size _); have HBc3 := Lib.hid (HBa.trans (hb1.mono HBa.size)); have sz3 : (wc2.alloc (.cells #[.int .i64 0, .slice none 0 0, .slice none 0 0, .slice none 0 0] 43)).heap.size ≤ wc3.heap.size := hb1.size; rw [World.size_alloc] at sz3; have hg3 : W0.heap.size ≤ wc3.heap.size := HBc3.out.size; have HU3 := Lib.hid (show rowR.R wc3 (fun b => wc2.heap.size + 1 ≤ b ∧ b < wc3.heap.size) _ _ from rowR.mono hul (fun b hb => ⟨Nat.le_trans (Nat.le_of_eq (World.size_alloc _ _).symm) hb.1, hb.2⟩)); have hz0 : Blk ((wc2.alloc (.cells #[.int .i64 0, .slice none 0 0, .slice none 0 0, .slice none 0 0] 43))) wc2.heap.size #[.int .i64 0, .slice none 0 0, .slice none 0 0, .slice none 0 0] 43 := (show Blk (wc2.alloc (.cells #[.int .i64 0, .slice none 0 0, .slice none 0 0, .slice none 0 0] 43)) wc2.heap.size #[.int .i64 0, .slice none 0 0, .slice none 0 0, .slice none 0 0] 43 from Blk.new _ _ _); have hz := hz0.keep (Keeps.all hb1 (fun _ => True)) trivial; have HZB := Lib.hid hz; obtain ⟨⟨zc1, zc2, zc3, zc4⟩, ⟨zc5, zc6, zc7, zc8⟩⟩ := blk4z hz; clear hz hz0 hb1 hka HBa)); clear hu hul hb tk3 hs2))
    all_goals
      go_wp2_with fail
      go_meet
      have F1 := rowR.keep (rowR.keep HU1.out (HK2.out.mono fun _ _ => trivial)) (HK3.out.mono fun _ _ => trivial)
      have F2 := rowR.keep HU2.out (HK3.out.mono fun _ _ => trivial)
      have F3 := HU3.out
      first
        | (refine Lib.hid (layMade HBc3.out ?_ ?_ ?_) <;> first | exact rowR.mono F1 (fun b hb => ⟨by omega, by omega⟩) | exact rowR.mono F2 (fun b hb => ⟨by omega, by omega⟩) | exact rowR.mono F3 (fun b hb => ⟨by omega, by omega⟩))
        | (refine Lib.hid (layMadeB HBc3.out (by omega) HZB.out ?_ ?_ ?_) <;> first | exact rowR.mono F1 (fun b hb => ⟨by omega, by omega⟩) | exact rowR.mono F2 (fun b hb => ⟨by omega, by omega⟩) | exact rowR.mono F3 (fun b hb => ⟨by omega, by omega⟩))
  case rest =>
    obtain ⟨g, v1, v2, v3, rfl, hl, hg, hb, q1, q2, q3⟩ := hcut.out.ex
    obtain ⟨b1, d1, rfl, -⟩ := ints_cases q1
    obtain ⟨b2, d2, rfl, -⟩ := ints_cases q2
    obtain ⟨b3, d3, rfl, -⟩ := ints_cases q3
    obtain ⟨n1, hn1⟩ : ∃ n, n = (rowOfL two (o1, o2)).length := ⟨_, rfl⟩
    obtain ⟨n2, hn2⟩ : ∃ n, n = (rowOfL two (r1, r2)).length := ⟨_, rfl⟩
    obtain ⟨n3, hn3⟩ : ∃ n, n = (rowOfL two (u1, u2)).length := ⟨_, rfl⟩
    rw [← hn1] at q1 hl
    rw [← hn2] at q2 hl
    rw [← hn3] at q3 hl
    have Q1 := Lib.hid q1
    have Q2 := Lib.hid q2
    have Q3 := Lib.hid q3
    have HBx := Lib.hid hb
    have KW : Keeps (fun _ => True) W0 wc := Keeps.all hb _
    have HX := Lib.hid (HX0.out.keep KW trivial)
    have HY := Lib.hid (HY0.out.keep KW trivial)
    have KWW := Lib.hid ((Keeps.all HB0.out (fun _ => True)).trans KW)
    have hgt : N0 + 2 ≤ g := by have := HZ0.out; omega
    have hgl : g < wc.heap.size := hl.lt
    have hx0 : wc.cell? ⟨N0, 0, none⟩ = some (.bool hex) := by rw [HX.out.cell]; rfl
    have hx1 : wc.cell? ⟨N0, 1, none⟩ = some (.bool two) := by rw [HX.out.cell]; rfl
    have hx8 : wc.cell? ⟨N0, 8, none⟩ = some (.slice ao l.length cap) := by rw [HX.out.cell]; rfl
    have hx9 : wc.cell? ⟨N0, 9, none⟩ = some (.int .u8 m) := by rw [HX.out.cell]; rfl
    have HLC := Lib.hid hl
    have hlf := hl.free 0
    have hlc : wc.cell? ⟨g, 0, none⟩ = some (.int .i64 1) := by rw [hl.cell]; rfl
    clear hl hb KW hn1 hn2 hn3 q1 q2 q3 hcut
    cases hex
    · go_wp2_with fail
      have HL := Lib.hid HLC.out
      have HBy := Lib.hid HBx.out
      have HKd : Hid (Keeps (fun b => b ≠ g) wc wc) := Lib.hid (Keeps.refl _ _)
      obtain ⟨wd, hwd⟩ : ∃ wd, wd = wc := ⟨_, rfl⟩
      rw [← hwd]
      rw [← hwd] at HL HBy
      have HKd : Hid (Keeps (fun b => b ≠ g) wc wd) := Lib.hid (by rw [hwd]; exact Keeps.refl _ _)
      clear hwd hx0 hx1 hx8 hx9 hlc hlf
      have hl : Blk wd g #[.int .i64 1, .slice b1 n1 d1, .slice b2 n2 d2, .slice b3 n3 d3] 43 := HL.out
      have hX2 := HX.out.keep HKd.out (show N0 ≠ g by omega)
      have hY2 := HY.out.keep HKd.out (show N0 + 1 ≠ g by omega)
      have HY2 := Lib.hid hY2
      have hs0 : wd.drew.cell? ⟨g, 0, none⟩ = some (.int .i64 1) ∧ wd.drew.cell? ⟨g, 1, none⟩ = some (.slice b1 n1 d1) ∧ wd.drew.cell? ⟨g, 2, none⟩ = some (.slice b2 n2 d2) ∧ wd.drew.cell? ⟨g, 3, none⟩ = some (.slice b3 n3 d3) ∧ wd.drew.cell? ⟨N0, 1, none⟩ = some (.bool two) ∧ wd.drew.cell? ⟨N0, 8, none⟩ = some (.slice ao l.length cap) ∧ wd.drew.cell? ⟨N0, 9, none⟩ = some (.int .u8 m) := by
        have e : ∀ a, wd.drew.cell? a = wd.cell? a := fun _ => rfl
        simp only [e]
        exact ⟨by rw [hl.cell]; rfl, by rw [hl.cell]; rfl, by rw [hl.cell]; rfl, by rw [hl.cell]; rfl, by rw [hX2.cell]; rfl, by rw [hX2.cell]; rfl, by rw [hX2.cell]; rfl⟩
      have hgd : W0.heap.size ≤ wd.heap.size := HBy.out.size
      have hgw : g < wd.heap.size := hl.lt
      have HLL := Lib.hid hl
      have hng : g ≠ N0 + 1 := by omega
      have hnn : N0 ≠ N0 + 1 := by omega
      have HRR := Lib.hid (HR.out wd.drew (by
        have k1 : Keeps (fun b => b < w.heap.size) wc wd := HKd.out.mono fun b hb => by have := HN0.out; omega
        have k2 : Keeps (fun b => b < w.heap.size) w wd := (KWW.out.mono fun _ _ => trivial).trans k1
        exact fun b _ hb => k2 b hb hb))
      clear hl hX2 hY2
      go_region_held3 (fun w' => w'.cell? ⟨g, 0, none⟩ = some (.int .i64 1) ∧ w'.cell? ⟨g, 1, none⟩ = some (.slice b1 n1 d1) ∧ w'.cell? ⟨g, 2, none⟩ = some (.slice b2 n2 d2) ∧ w'.cell? ⟨g, 3, none⟩ = some (.slice b3 n3 d3) ∧ w'.cell? ⟨N0, 1, none⟩ = some (.bool two) ∧ w'.cell? ⟨N0, 8, none⟩ = some (.slice ao l.length cap) ∧ w'.cell? ⟨N0, 9, none⟩ = some (.int .u8 m))
        ((first | with_reducible exact hs0 | with_reducible exact hs1 | with_reducible exact t7_keep hs1 keeps_set6 hng hnn))
        (first | (go_at_call 36; refine HRR.out.mono ?_; rintro e w5 ⟨uu, rfl, hu, hb⟩; have hs1 := t7_keep hs0 (Keeps.all hb (fun _ => True)) trivial trivial; have hy := HY2.out.keep (show Keeps (fun _ => True) wd w5 from Keeps.all hb _) trivial; have HY5 := Lib.hid hy; obtain ⟨⟨y1, y2, y3, y4, y5, y6⟩, ⟨z1, z2, z3, z4, z5, z6⟩⟩ := blk6z hy; obtain ⟨a4, c4, rfl, -⟩ := slice1_cases rfl hu; have HU5 := Lib.hid hu; have HB5 := Lib.hid hb; clear hu hb hy))
      have hwr : IntKind.i64.wrap (m.tmod 4) = m.tmod 4 := IntWalk.i64_in _ (by have := tmod_in m (b := 4) (by decide); omega)
      rw [hwr]
      have KF : Keeps (fun b => W0.heap.size ≤ b ∧ b ≠ g) wc _ := ((HKd.out.mono fun b hb => hb.2).trans (show Keeps _ wd w5 from Keeps.all HB5.out _)).trans ((keeps_set6 (a := .int .i64 1) (b := .slice b1 n1 d1) (c := .slice b2 n2 d2) (d := .slice b3 n3 d3) (e := .slice a4 (rowsL two l).length c4) (f := .int .i64 (m.tmod 4))).mono fun b hb => (by have := HZ0.out; omega : b ≠ N0 + 1))
      have KG : Keeps (fun b => wd.heap.size ≤ b) w5 _ := (keeps_set6 (g := N0 + 1) (a := .int .i64 1) (b := .slice b1 n1 d1) (c := .slice b2 n2 d2) (d := .slice b3 n3 d3) (e := .slice a4 (rowsL two l).length c4) (f := .int .i64 (m.tmod 4))).mono fun b hb => (by omega : b ≠ N0 + 1)
      have BF : Below w.heap.size w _ := below_set6 (g := N0 + 1) (a := .int .i64 1) (b := .slice b1 n1 d1) (c := .slice b2 n2 d2) (d := .slice b3 n3 d3) (e := .slice a4 (rowsL two l).length c4) (f := .int .i64 (m.tmod 4)) (((HB0.out.trans (HBy.out.mono HB0.out.size)).drew).trans (HB5.out.mono (show w.heap.size ≤ wd.heap.size from Nat.le_trans HB0.out.size hgd))) (by have := HN0.out; omega)
      have YF := ((((((HY5.out.set 0 (.int .i64 1)).set 1 (.slice b1 n1 d1)).set 2 (.slice b2 n2 d2)).set 3 (.slice b3 n3 d3)).set 4 (.slice a4 (rowsL two l).length c4)).set 5 (.int .i64 (m.tmod 4)))
      obtain ⟨W6, hW6⟩ : ∃ W6, W6 = ((((((w5.setCell ⟨N0 + 1, 0, none⟩ (.int .i64 1)).setCell ⟨N0 + 1, 1, none⟩ (.slice b1 n1 d1)).setCell ⟨N0 + 1, 2, none⟩ (.slice b2 n2 d2)).setCell ⟨N0 + 1, 3, none⟩ (.slice b3 n3 d3)).setCell ⟨N0 + 1, 4, none⟩ (.slice a4 (rowsL two l).length c4)).setCell ⟨N0 + 1, 5, none⟩ (.int .i64 (m.tmod 4))) := ⟨_, rfl⟩
      rw [← hW6] at KF KG BF YF
      rw [← hW6]
      obtain ⟨⟨r0, r1', r2', r3, r4, r5⟩, -⟩ := blk6z (show Blk W6 (N0 + 1) #[.int .i64 1, .slice b1 n1 d1, .slice b2 n2 d2, .slice b3 n3 d3, .slice a4 (rowsL two l).length c4, .int .i64 (m.tmod 4)] 46 from YF)
      have HKF := Lib.hid KF
      have HKG := Lib.hid KG
      have HBF := Lib.hid BF
      clear hW6 KF KG BF YF y1 y2 y3 y4 y5 y6 z1 z2 z3 z4 z5 z6
      clear hs1
      go_wp2
      refine bodyPost_ret (v := .agg #[.int .i64 1, .slice b1 n1 d1, .slice b2 n2 d2, .slice b3 n3 d3, .slice a4 (rowsL two l).length c4, .int .i64 (m.tmod 4)]) (by simp [results, Try.results16, go_sem, r0, r1', r2', r3, r4, r5]) rfl ?_
      refine ⟨[.int .i64 1, .slice b1 n1 d1, .slice b2 n2 d2, .slice b3 n3 d3, .slice a4 (rowsL two l).length c4, .int .i64 (m.tmod 4)], rfl, ?_, HBF.out⟩
      have hw0 : w.heap.size ≤ W0.heap.size := HB0.out.size
      refine ⟨[.int .i64 1, .slice b1 n1 d1, .slice b2 n2 d2, .slice b3 n3 d3], .slice a4 (rowsL two l).length c4, rfl, ⟨_, _, _, rfl, rfl, ?_, ?_, ?_⟩, ?_, ?_⟩
      · exact rowR.mono (rowR.keep Q1.out HKF.out) fun b hb => by omega
      · exact rowR.mono (rowR.keep Q2.out HKF.out) fun b hb => by omega
      · exact rowR.mono (rowR.keep Q3.out HKF.out) fun b hb => by omega
      · exact rowsR.mono (rowsR.keep HU5.out HKG.out) fun b hb => (by have : wd.heap.size ≤ b := hb; omega)
      · exact wf64_mk (by have := tmod_in m (b := 4) (by decide); show -9223372036854775808 ≤ m.tmod 4; omega) (by have := tmod_in m (b := 4) (by decide); show m.tmod 4 ≤ 9223372036854775807; omega)
    · go_wp2_with fail
      have HL := Lib.hid (HLC.out.set 0 (.int .i64 2))
      have HBy := Lib.hid (HBx.out.setCell (p := ⟨g, 0, none⟩) (by show W0.heap.size ≤ g; exact hg) (.int .i64 2))
      have HKd := Lib.hid (Keeps.setCell (w := wc) (p := ⟨g, 0, none⟩) (v := .int .i64 2) (ok := fun b => b ≠ g) (by simp))
      obtain ⟨wd, hwd⟩ : ∃ wd, wd = wc.setCell ⟨g, 0, none⟩ (.int .i64 2) := ⟨_, rfl⟩
      rw [← hwd]
      rw [← hwd] at HL HBy HKd
      clear hwd hx0 hx1 hx8 hx9 hlc hlf
      have hl : Blk wd g #[.int .i64 2, .slice b1 n1 d1, .slice b2 n2 d2, .slice b3 n3 d3] 43 := HL.out
      have hX2 := HX.out.keep HKd.out (show N0 ≠ g by omega)
      have hY2 := HY.out.keep HKd.out (show N0 + 1 ≠ g by omega)
      have HY2 := Lib.hid hY2
      have hs0 : wd.drew.cell? ⟨g, 0, none⟩ = some (.int .i64 2) ∧ wd.drew.cell? ⟨g, 1, none⟩ = some (.slice b1 n1 d1) ∧ wd.drew.cell? ⟨g, 2, none⟩ = some (.slice b2 n2 d2) ∧ wd.drew.cell? ⟨g, 3, none⟩ = some (.slice b3 n3 d3) ∧ wd.drew.cell? ⟨N0, 1, none⟩ = some (.bool two) ∧ wd.drew.cell? ⟨N0, 8, none⟩ = some (.slice ao l.length cap) ∧ wd.drew.cell? ⟨N0, 9, none⟩ = some (.int .u8 m) := by
        have e : ∀ a, wd.drew.cell? a = wd.cell? a := fun _ => rfl
        simp only [e]
        exact ⟨by rw [hl.cell]; rfl, by rw [hl.cell]; rfl, by rw [hl.cell]; rfl, by rw [hl.cell]; rfl, by rw [hX2.cell]; rfl, by rw [hX2.cell]; rfl, by rw [hX2.cell]; rfl⟩
      have hgd : W0.heap.size ≤ wd.heap.size := HBy.out.size
      have hgw : g < wd.heap.size := hl.lt
      have HLL := Lib.hid hl
      have hng : g ≠ N0 + 1 := by omega
      have hnn : N0 ≠ N0 + 1 := by omega
      have HRR := Lib.hid (HR.out wd.drew (by
        have k1 : Keeps (fun b => b < w.heap.size) wc wd := HKd.out.mono fun b hb => by have := HN0.out; omega
        have k2 : Keeps (fun b => b < w.heap.size) w wd := (KWW.out.mono fun _ _ => trivial).trans k1
        exact fun b _ hb => k2 b hb hb))
      clear hl hX2 hY2
      go_region_held3 (fun w' => w'.cell? ⟨g, 0, none⟩ = some (.int .i64 2) ∧ w'.cell? ⟨g, 1, none⟩ = some (.slice b1 n1 d1) ∧ w'.cell? ⟨g, 2, none⟩ = some (.slice b2 n2 d2) ∧ w'.cell? ⟨g, 3, none⟩ = some (.slice b3 n3 d3) ∧ w'.cell? ⟨N0, 1, none⟩ = some (.bool two) ∧ w'.cell? ⟨N0, 8, none⟩ = some (.slice ao l.length cap) ∧ w'.cell? ⟨N0, 9, none⟩ = some (.int .u8 m))
        ((first | with_reducible exact hs0 | with_reducible exact hs1 | with_reducible exact t7_keep hs1 keeps_set6 hng hnn))
        (first | (go_at_call 36; refine HRR.out.mono ?_; rintro e w5 ⟨uu, rfl, hu, hb⟩; have hs1 := t7_keep hs0 (Keeps.all hb (fun _ => True)) trivial trivial; have hy := HY2.out.keep (show Keeps (fun _ => True) wd w5 from Keeps.all hb _) trivial; have HY5 := Lib.hid hy; obtain ⟨⟨y1, y2, y3, y4, y5, y6⟩, ⟨z1, z2, z3, z4, z5, z6⟩⟩ := blk6z hy; obtain ⟨a4, c4, rfl, -⟩ := slice1_cases rfl hu; have HU5 := Lib.hid hu; have HB5 := Lib.hid hb; clear hu hb hy))
      have hwr : IntKind.i64.wrap (m.tmod 4) = m.tmod 4 := IntWalk.i64_in _ (by have := tmod_in m (b := 4) (by decide); omega)
      rw [hwr]
      have KF : Keeps (fun b => W0.heap.size ≤ b ∧ b ≠ g) wc _ := ((HKd.out.mono fun b hb => hb.2).trans (show Keeps _ wd w5 from Keeps.all HB5.out _)).trans ((keeps_set6 (a := .int .i64 2) (b := .slice b1 n1 d1) (c := .slice b2 n2 d2) (d := .slice b3 n3 d3) (e := .slice a4 (rowsL two l).length c4) (f := .int .i64 (m.tmod 4))).mono fun b hb => (by have := HZ0.out; omega : b ≠ N0 + 1))
      have KG : Keeps (fun b => wd.heap.size ≤ b) w5 _ := (keeps_set6 (g := N0 + 1) (a := .int .i64 2) (b := .slice b1 n1 d1) (c := .slice b2 n2 d2) (d := .slice b3 n3 d3) (e := .slice a4 (rowsL two l).length c4) (f := .int .i64 (m.tmod 4))).mono fun b hb => (by omega : b ≠ N0 + 1)
      have BF : Below w.heap.size w _ := below_set6 (g := N0 + 1) (a := .int .i64 2) (b := .slice b1 n1 d1) (c := .slice b2 n2 d2) (d := .slice b3 n3 d3) (e := .slice a4 (rowsL two l).length c4) (f := .int .i64 (m.tmod 4)) (((HB0.out.trans (HBy.out.mono HB0.out.size)).drew).trans (HB5.out.mono (show w.heap.size ≤ wd.heap.size from Nat.le_trans HB0.out.size hgd))) (by have := HN0.out; omega)
      have YF := ((((((HY5.out.set 0 (.int .i64 2)).set 1 (.slice b1 n1 d1)).set 2 (.slice b2 n2 d2)).set 3 (.slice b3 n3 d3)).set 4 (.slice a4 (rowsL two l).length c4)).set 5 (.int .i64 (m.tmod 4)))
      obtain ⟨W6, hW6⟩ : ∃ W6, W6 = ((((((w5.setCell ⟨N0 + 1, 0, none⟩ (.int .i64 2)).setCell ⟨N0 + 1, 1, none⟩ (.slice b1 n1 d1)).setCell ⟨N0 + 1, 2, none⟩ (.slice b2 n2 d2)).setCell ⟨N0 + 1, 3, none⟩ (.slice b3 n3 d3)).setCell ⟨N0 + 1, 4, none⟩ (.slice a4 (rowsL two l).length c4)).setCell ⟨N0 + 1, 5, none⟩ (.int .i64 (m.tmod 4))) := ⟨_, rfl⟩
      rw [← hW6] at KF KG BF YF
      rw [← hW6]
      obtain ⟨⟨r0, r1', r2', r3, r4, r5⟩, -⟩ := blk6z (show Blk W6 (N0 + 1) #[.int .i64 2, .slice b1 n1 d1, .slice b2 n2 d2, .slice b3 n3 d3, .slice a4 (rowsL two l).length c4, .int .i64 (m.tmod 4)] 46 from YF)
      have HKF := Lib.hid KF
      have HKG := Lib.hid KG
      have HBF := Lib.hid BF
      clear hW6 KF KG BF YF y1 y2 y3 y4 y5 y6 z1 z2 z3 z4 z5 z6
      clear hs1
      go_wp2
      refine bodyPost_ret (v := .agg #[.int .i64 2, .slice b1 n1 d1, .slice b2 n2 d2, .slice b3 n3 d3, .slice a4 (rowsL two l).length c4, .int .i64 (m.tmod 4)]) (by simp [results, Try.results16, go_sem, r0, r1', r2', r3, r4, r5]) rfl ?_
      refine ⟨[.int .i64 2, .slice b1 n1 d1, .slice b2 n2 d2, .slice b3 n3 d3, .slice a4 (rowsL two l).length c4, .int .i64 (m.tmod 4)], rfl, ?_, HBF.out⟩
      have hw0 : w.heap.size ≤ W0.heap.size := HB0.out.size
      refine ⟨[.int .i64 2, .slice b1 n1 d1, .slice b2 n2 d2, .slice b3 n3 d3], .slice a4 (rowsL two l).length c4, rfl, ⟨_, _, _, rfl, rfl, ?_, ?_, ?_⟩, ?_, ?_⟩
      · exact rowR.mono (rowR.keep Q1.out HKF.out) fun b hb => by omega
      · exact rowR.mono (rowR.keep Q2.out HKF.out) fun b hb => by omega
      · exact rowR.mono (rowR.keep Q3.out HKF.out) fun b hb => by omega
      · exact rowsR.mono (rowsR.keep HU5.out HKG.out) fun b hb => (by have : wd.heap.size ≤ b := hb; omega)
      · exact wf64_mk (by have := tmod_in m (b := 4) (by decide); show -9223372036854775808 ≤ m.tmod 4; omega) (by have := tmod_in m (b := 4) (by decide); show m.tmod 4 ≤ 9223372036854775807; omega)
end Go.Proofs.Ytcnpanmkpfgdjaa
