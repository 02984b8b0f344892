/- THE WALK of ReachWindows. -/
import Derived.Test.YtcnpanmkpfgdjaaMakeB
import Derived.Test.YtcnpanmkpfgdjaaNote
import Derived.Test.YtcnpanmkpfgdjaaKnown
namespace Go.Proofs.Ytcnpanmkpfgdjaa
open Go.RowKit Go.Sch

theorem blk10 {w : World} {g : Nat} {t : TypeId} {a b c d e f x y z u : Value} (h : Blk w g #[a, b, c, d, e, f, x, y, z, u] t) :
    (w.cell? ⟨g, 0, none⟩ = some a ∧ w.cell? ⟨g, 1, none⟩ = some b ∧ w.cell? ⟨g, 2, none⟩ = some c ∧ w.cell? ⟨g, 3, none⟩ = some d ∧ w.cell? ⟨g, 4, none⟩ = some e) ∧
    (w.cell? ⟨g, 5, none⟩ = some f ∧ w.cell? ⟨g, 6, none⟩ = some x ∧ w.cell? ⟨g, 7, none⟩ = some y ∧ w.cell? ⟨g, 8, none⟩ = some z ∧ w.cell? ⟨g, 9, none⟩ = some u) :=
  ⟨⟨by rw [h.cell]; rfl, by rw [h.cell]; rfl, by rw [h.cell]; rfl, by rw [h.cell]; rfl, by rw [h.cell]; rfl⟩, ⟨by rw [h.cell]; rfl, by rw [h.cell]; rfl, by rw [h.cell]; rfl, by rw [h.cell]; rfl, by rw [h.cell]; rfl⟩⟩
theorem least_none {q : Quest} (hg : reachCheck q = 0) (hc : (qCount q).2 = 0) (hn : leastOf (farD q.l.kind) (chs (qLists q)) = none) {w : World} {ok : Nat → Prop} {cs : List Value} (h : questR.R w ok cs q) :
    Calls Try.prog 17 #[.agg cs.toArray] w fun e w' => e = .returned (.tuple #[.slice none 0 0, .int .i64 0, .bool false, .int .i64 0]) ∧ Below w.heap.size w w' := by
  refine (least_good h hg hc).mono ?_
  rintro e w' ⟨h1, h2⟩
  simp only [leastRes, hn] at h1
  exact ⟨h1, h2⟩
theorem least_limit {q : Quest} (hc : (qCount q).2 = 4) {w : World} {ok : Nat → Prop} {cs : List Value} (h : questR.R w ok cs q) :
    Calls Try.prog 17 #[.agg cs.toArray] w fun e w' => e = .returned (.tuple #[.slice none 0 0, .int .i64 0, .bool false, .int .i64 4]) ∧ Below w.heap.size w w' := by
  have := least_bad h (by rw [hc]; decide)
  rwa [hc] at this
theorem least_some {q : Quest} (hg : reachCheck q = 0) (hc : (qCount q).2 = 0) {c : List Key2} {d : Int} (hn : leastOf (farD q.l.kind) (chs (qLists q)) = some (c, d)) {w : World} {ok : Nat → Prop} {cs : List Value} (h : questR.R w ok cs q) :
    Calls Try.prog 17 #[.agg cs.toArray] w fun e w' => ∃ g cap, e = .returned (.tuple #[.slice (some ⟨g, 0, none⟩) c.length cap, .int .i64 d, .bool true, .int .i64 0]) ∧ keysR.R w' (fun _ => True) [.slice (some ⟨g, 0, none⟩) c.length cap] c ∧ Below w.heap.size w w' := by
  refine (least_good h hg hc).mono ?_
  rintro e w' ⟨h1, h2⟩
  simp only [leastRes, hn] at h1
  obtain ⟨g, cap, he, hk⟩ := h1
  exact ⟨g, cap, he, keysR.mono hk fun _ _ => trivial, h2⟩
theorem rowCheck_chord {q : Quest} (hg : reachCheck q = 0) {i : Nat} (hi : i < q.chord.length) : rowCheck q.chord[i] = 0 := by
  have h := (reachCheck_good hg).2.2.2.1 _ (List.getElem_mem hi)
  have hl := (reachCheck_good hg).1
  rw [sizedCheck, if_neg (by rw [hl]; decide)] at h
  exact (rowsCheck_all h _ (by simp)).1
theorem quest_parts {w : World} {ok : Nat → Prop} {k M : Int} {v1 v2 v3 v4 : Value} {q : Quest} (h : questR.R w ok [.int .i64 k, v1, v2, v3, v4, .int .i64 M] q) : layR.R w ok [.int .i64 k, v1, v2, v3] q.l ∧ rowsR.R w ok [v4] q.chord := by
  obtain ⟨c, v, e, hl, hc, -⟩ := h
  obtain ⟨u1, u2, u3, rfl, h0⟩ := id hl
  simp only [List.cons_append, List.nil_append, List.cons.injEq, and_true] at e
  obtain ⟨e0, rfl, rfl, rfl, rfl, -⟩ := e
  rw [e0]
  exact ⟨hl, hc⟩
theorem g6_keep {G g k : Nat} {v1 v2 v3 v4 v5 v6 : Value} {W W' : World} (h : W.cell? ⟨G, 0, none⟩ = some v1 ∧ W.cell? ⟨G, 1, none⟩ = some v2 ∧ W.cell? ⟨G, 2, none⟩ = some v3 ∧ W.cell? ⟨G, 3, none⟩ = some v4 ∧ W.cell? ⟨g, k, none⟩ = some v5 ∧ W.cell? ⟨g, k + 1, none⟩ = some v6) (kp : Keeps (fun _ => True) W W') :
    W'.cell? ⟨G, 0, none⟩ = some v1 ∧ W'.cell? ⟨G, 1, none⟩ = some v2 ∧ W'.cell? ⟨G, 2, none⟩ = some v3 ∧ W'.cell? ⟨G, 3, none⟩ = some v4 ∧ W'.cell? ⟨g, k, none⟩ = some v5 ∧ W'.cell? ⟨g, k + 1, none⟩ = some v6 := by
  obtain ⟨h1, h2, h3, h4, h5, h6⟩ := h
  exact ⟨kp.cell (a := ⟨G, 0, none⟩) trivial h1, kp.cell (a := ⟨G, 1, none⟩) trivial h2, kp.cell (a := ⟨G, 2, none⟩) trivial h3, kp.cell (a := ⟨G, 3, none⟩) trivial h4, kp.cell (a := ⟨g, k, none⟩) trivial h5, kp.cell (a := ⟨g, k + 1, none⟩) trivial h6⟩
theorem quest_turn {w w' : World} {ok : Nat → Prop} {k k' M M' : Int} {v1 v2 v3 v4 : Value} {q : Quest} (h : questR.R w ok [.int .i64 k, v1, v2, v3, v4, .int .i64 M] q) (kp : Keeps ok w w') (hk : (Lit.int .i64 k').wf = true) (hM : (Lit.int .i64 M').wf = true) :
    questR.R w' (fun _ => True) [.int .i64 k', v1, v2, v3, v4, .int .i64 M'] ⟨⟨k', q.l.o, q.l.r, q.l.u⟩, q.chord, M'⟩ := by
  obtain ⟨c, v, e, ⟨u1, u2, u3, rfl, -, ho, hr, hu⟩, hc, -⟩ := h
  simp only [List.cons_append, List.nil_append, List.cons.injEq, and_true] at e
  obtain ⟨-, rfl, rfl, rfl, rfl, -⟩ := e
  exact ⟨[.int .i64 k', v1, v2, v3], v4, rfl, ⟨v1, v2, v3, rfl, hk, rowR.mono (rowR.keep ho kp) fun _ _ => trivial, rowR.mono (rowR.keep hr kp) fun _ _ => trivial, rowR.mono (rowR.keep hu kp) fun _ _ => trivial⟩, rowsR.mono (rowsR.keep hc kp) fun _ _ => trivial, hM⟩
set_option maxRecDepth 100000 in
set_option maxHeartbeats 8000000 in
theorem windows_limit (hex two : Bool) (o1 o2 r1 r2 u1 u2 m : Int) {w : World} {ok : Nat → Prop} {v : Value} {l : List (Int × Int)} (h : (sliceR pair8R).R w ok [v] l)
    {Q : Quest} (hQ : Q = planQ ⟨false, two, (o1, o2), (r1, r2), (u1, u2), l, m⟩) (hc : (qCount Q).2 = 4) :
    Calls Try.prog 5 #[.agg #[.bool hex, .bool two, .int .i8 o1, .int .i8 o2, .int .i8 r1, .int .i8 r2, .int .i8 u1, .int .i8 u2, v, .int .u8 m]] w fun e w' => e = .returned (.bool true) ∧ Below w.heap.size w w' := by
  have HK := Lib.hid (fun w' => known_calls w')
  have hlt := (sliceR pair8R).lt h
  have HMK := Lib.hid (fun w' (k : Keeps (fun b => b < w.heap.size) w w') => make_calls false two o1 o2 r1 r2 u1 u2 m ((sliceR pair8R).keep ((sliceR pair8R).mono hlt (fun b hb => hb.2)) k))
  obtain ⟨ao, cap, rfl, -⟩ := pairs8_cases h
  have HL := Lib.hid (fun w' cs (h : questR.R w' (fun _ => True) cs _) => least_limit hc h)
  clear hc
  obtain ⟨N, hN⟩ : ∃ N, N = l.length := ⟨_, rfl⟩
  rw [← hN] at HMK
  rw [← hN]
  rw [← hQ] at HMK
  have HQQ := Lib.hid hQ
  clear h hlt hQ hN
  go_enter Try.func5, Try.ntmps5
  go_wp2_with fail
  refine (HK.out _).mono ?_
  rintro e w1 ⟨rfl, hb⟩
  obtain ⟨hB, hX⟩ := front1 hb
  have HB1 := Lib.hid hB
  obtain ⟨⟨x0, x1, x2, x3, x4⟩, ⟨x5, x6, x7, x8, x9⟩⟩ := blk10 hX
  have xf := hX.free 0
  clear hb hB hX
  go_wp2_with fail
  refine (HMK.out _ ?_).mono ?_
  · exact (Keeps.below HB1.out).trans (Keeps.setCell (p := ⟨w.heap.size, 0, none⟩) (by simp))
  rintro e w2 ⟨cs, rfl, hq, hb⟩
  have HB2 : Hid (Below w.heap.size w w2) := Lib.hid ((HB1.out.setCell (p := ⟨w.heap.size, 0, none⟩) (Nat.le_refl _) _).trans (hb.mono (by have := HB1.out.size; simp [World.setCell]; omega)))
  have HQ0 := Lib.hid (questR.lt hq)
  obtain ⟨a1, e1, a2, e2, a3, e3, a4, e4, rfl, -, -, -, -⟩ := quest_cells hq
  clear hb hq x0 x1 x2 x3 x4 x5 x6 x7 x8 x9 xf
  go_wp2_with fail
  refine (HL.out _ _ (questR.mono (questR.keep HQ0.out (Keeps.alloc _ _ _)) fun _ _ => trivial)).mono ?_
  rintro e w3 ⟨rfl, hb⟩
  have HB3 := Lib.hid ((HB2.out.alloc HB2.out.size _).trans (hb.mono (by have := HB2.out.size; simp; omega)))
  clear hb
  go_wp2
  go_ret
  exact ⟨rfl, HB3.out⟩
set_option maxRecDepth 100000 in
set_option maxHeartbeats 8000000 in
theorem windows_none (hex two : Bool) (o1 o2 r1 r2 u1 u2 m : Int) {w : World} {ok : Nat → Prop} {v : Value} {l : List (Int × Int)} (h : (sliceR pair8R).R w ok [v] l)
    {Q : Quest} (hQ : Q = planQ ⟨false, two, (o1, o2), (r1, r2), (u1, u2), l, m⟩) (hg : reachCheck Q = 0) (hc : (qCount Q).2 = 0) (hn : leastOf (farD Q.l.kind) (chs (qLists Q)) = none) :
    Calls Try.prog 5 #[.agg #[.bool hex, .bool two, .int .i8 o1, .int .i8 o2, .int .i8 r1, .int .i8 r2, .int .i8 u1, .int .i8 u2, v, .int .u8 m]] w fun e w' => e = .returned (.bool true) ∧ Below w.heap.size w w' := by
  have HK := Lib.hid (fun w' => known_calls w')
  have hlt := (sliceR pair8R).lt h
  have HMK := Lib.hid (fun w' (k : Keeps (fun b => b < w.heap.size) w w') => make_calls false two o1 o2 r1 r2 u1 u2 m ((sliceR pair8R).keep ((sliceR pair8R).mono hlt (fun b hb => hb.2)) k))
  obtain ⟨ao, cap, rfl, -⟩ := pairs8_cases h
  have HL := Lib.hid (fun w' cs (h : questR.R w' (fun _ => True) cs _) => least_none hg hc hn h)
  clear hc hg hn
  obtain ⟨N, hN⟩ : ∃ N, N = l.length := ⟨_, rfl⟩
  rw [← hN] at HMK
  rw [← hN]
  rw [← hQ] at HMK
  have HQQ := Lib.hid hQ
  clear h hlt hQ hN
  go_enter Try.func5, Try.ntmps5
  go_wp2_with fail
  refine (HK.out _).mono ?_
  rintro e w1 ⟨rfl, hb⟩
  obtain ⟨hB, hX⟩ := front1 hb
  have HB1 := Lib.hid hB
  obtain ⟨⟨x0, x1, x2, x3, x4⟩, ⟨x5, x6, x7, x8, x9⟩⟩ := blk10 hX
  have xf := hX.free 0
  clear hb hB hX
  go_wp2_with fail
  refine (HMK.out _ ?_).mono ?_
  · exact (Keeps.below HB1.out).trans (Keeps.setCell (p := ⟨w.heap.size, 0, none⟩) (by simp))
  rintro e w2 ⟨cs, rfl, hq, hb⟩
  have HB2 : Hid (Below w.heap.size w w2) := Lib.hid ((HB1.out.setCell (p := ⟨w.heap.size, 0, none⟩) (Nat.le_refl _) _).trans (hb.mono (by have := HB1.out.size; simp [World.setCell]; omega)))
  have HQ0 := Lib.hid (questR.lt hq)
  obtain ⟨a1, e1, a2, e2, a3, e3, a4, e4, rfl, -, -, -, -⟩ := quest_cells hq
  clear hb hq x0 x1 x2 x3 x4 x5 x6 x7 x8 x9 xf
  go_wp2_with fail
  refine (HL.out _ _ (questR.mono (questR.keep HQ0.out (Keeps.alloc _ _ _)) fun _ _ => trivial)).mono ?_
  rintro e w3 ⟨rfl, hb⟩
  have HB3 := Lib.hid ((HB2.out.alloc HB2.out.size _).trans (hb.mono (by have := HB2.out.size; simp; omega)))
  clear hb
  go_wp2
  go_ret
  exact ⟨rfl, HB3.out⟩
set_option maxRecDepth 100000 in
set_option maxHeartbeats 8000000 in
theorem windows_some (hex two : Bool) (o1 o2 r1 r2 u1 u2 m : Int) {w : World} {ok : Nat → Prop} {v : Value} {l : List (Int × Int)} (h : (sliceR pair8R).R w ok [v] l)
    {Q : Quest} (hQ : Q = planQ ⟨false, two, (o1, o2), (r1, r2), (u1, u2), l, m⟩) (hg : reachCheck Q = 0) (hc : (qCount Q).2 = 0) {c : List Key2} {d : Int} (hn : leastOf (farD Q.l.kind) (chs (qLists Q)) = some (c, d))
    (hx1 : reachCheck (hexed Q) = 0) (hx2 : (qCount (hexed Q)).2 = 0) {c3 : List Key2} {d3 : Int} (hx3 : leastOf (farD (hexed Q).l.kind) (chs (qLists (hexed Q))) = some (c3, d3)) (hd3 : d3 ≤ d)
    (hw1 : reachCheck (wider Q) = 0) (hw2 : (qCount (wider Q)).2 = 0) {c2 : List Key2} {d2 : Int} (hw3 : leastOf (farD (wider Q).l.kind) (chs (qLists (wider Q))) = some (c2, d2)) (hd2 : d2 ≤ d) :
    Calls Try.prog 5 #[.agg #[.bool hex, .bool two, .int .i8 o1, .int .i8 o2, .int .i8 r1, .int .i8 r2, .int .i8 u1, .int .i8 u2, v, .int .u8 m]] w fun e w' => e = .returned (.bool true) ∧ Below w.heap.size w w' := by
  have HK := Lib.hid (fun w' => known_calls w')
  have hlt := (sliceR pair8R).lt h
  have HMK := Lib.hid (fun w' (k : Keeps (fun b => b < w.heap.size) w w') => make_calls false two o1 o2 r1 r2 u1 u2 m ((sliceR pair8R).keep ((sliceR pair8R).mono hlt (fun b hb => hb.2)) k))
  obtain ⟨ao, cap, rfl, -⟩ := pairs8_cases h
  have hk1 : Q.l.kind = 1 := by rw [hQ]; rfl
  have hmost : 0 ≤ Q.most ∧ Q.most ≤ 3 := by
    have e : Q.most = m.tmod 4 := by rw [hQ]; rfl
    have := tmod_in m (b := 4) (by decide)
    have h5 := (reachCheck_good hg).2.2.2.2.1
    omega
  obtain ⟨hlen, hkeys⟩ := least_keys hn
  have h4 : d ≤ 4 * Q.most := least_four (q := Q) hmost.1 (by rw [hk1] at hn; exact hn)
  have hd0 : 0 ≤ d := by rw [(leastOf_min hn).2.1]; exact diam_ge _ _
  have hpos : 0 < c.length := by have := (reachCheck_good hg).2.1; omega
  have HL := Lib.hid (fun w' cs (h : questR.R w' (fun _ => True) cs Q) => least_some hg hc hn h)
  have HL3 := Lib.hid (fun w' cs (h : questR.R w' (fun _ => True) cs (hexed Q)) => least_some hx1 hx2 hx3 h)
  have HL2 := Lib.hid (fun w' cs (h : questR.R w' (fun _ => True) cs (wider Q)) => least_some hw1 hw2 hw3 h)
  have HLC := Lib.hid (reachCheck_good hg).1
  have HKEYS := Lib.hid hkeys
  have HG := Lib.hid hg
  have HK1 := Lib.hid hk1
  obtain ⟨M, hM⟩ : ∃ M, M = Q.most := ⟨_, rfl⟩
  rw [← hM] at hmost h4
  obtain ⟨NC, hNC⟩ : ∃ NC, NC = c.length := ⟨_, rfl⟩
  rw [← hNC] at hlen hpos HL
  have HNC := Lib.hid hNC
  have HLEN := Lib.hid hlen.symm
  obtain ⟨m0, m3⟩ := hmost
  have HM := Lib.hid hM
  clear hM hNC hlen hkeys hc hg hn hx1 hx2 hx3 hk1
  obtain ⟨N, hN⟩ : ∃ N, N = l.length := ⟨_, rfl⟩
  rw [← hN] at HMK
  rw [← hN]
  rw [← hQ] at HMK
  have HQQ := Lib.hid hQ
  clear h hlt hQ hN
  go_enter Try.func5, Try.ntmps5
  go_wp2_with fail
  refine (HK.out _).mono ?_
  rintro e w1 ⟨rfl, hb⟩
  obtain ⟨hB, hX⟩ := front1 hb
  have HB1 := Lib.hid hB
  obtain ⟨⟨x0, x1, x2, x3, x4⟩, ⟨x5, x6, x7, x8, x9⟩⟩ := blk10 hX
  have xf := hX.free 0
  clear hb hB hX
  go_wp2_with fail
  refine (HMK.out _ ?_).mono ?_
  · exact (Keeps.below HB1.out).trans (Keeps.setCell (p := ⟨w.heap.size, 0, none⟩) (by simp))
  rintro e w2 ⟨cs, rfl, hq, hb⟩
  have HB2 : Hid (Below w.heap.size w w2) := Lib.hid ((HB1.out.setCell (p := ⟨w.heap.size, 0, none⟩) (Nat.le_refl _) _).trans (hb.mono (by have := HB1.out.size; simp [World.setCell]; omega)))
  have HQ0 := Lib.hid (questR.lt hq)
  obtain ⟨a1, e1, a2, e2, a3, e3, a4, e4, rfl, -, -, -, -⟩ := quest_cells hq
  clear hb hq x0 x1 x2 x3 x4 x5 x6 x7 x8 x9 xf
  go_wp2_with fail
  have HREP := Lib.hid (fun (k' M' : Int) w' (k : Keeps (fun b => b < w2.heap.size) w2 w') hk hM => quest_turn HQ0.out (k.mono fun b hb => hb.2) (k' := k') (M' := M') hk hM)
  rw [HLEN.out, ← HM.out]
  rw [HLEN.out] at HREP
  rw [HLEN.out, ← HM.out] at HQ0
  obtain ⟨G, hG⟩ : ∃ G, G = w2.heap.size := ⟨_, rfl⟩
  obtain ⟨K, hK⟩ : ∃ K, K = Q.l.kind := ⟨_, rfl⟩
  obtain ⟨n1, hn1⟩ : ∃ n, n = Q.l.o.length := ⟨_, rfl⟩
  obtain ⟨n2, hn2⟩ : ∃ n, n = Q.l.r.length := ⟨_, rfl⟩
  obtain ⟨n3, hn3⟩ : ∃ n, n = Q.l.u.length := ⟨_, rfl⟩
  rw [← hn1, ← hn2, ← hn3, ← hK] at HQ0
  rw [← hn1, ← hn2, ← hn3] at HREP
  rw [← hn1, ← hn2, ← hn3, ← hK]
  have HKK := Lib.hid hK
  clear hn1 hn2 hn3 hK
  refine (HL.out _ _ (questR.mono (questR.keep HQ0.out (Keeps.alloc _ _ _)) fun _ _ => trivial)).mono ?_
  rintro e w3 ⟨g, cap3, rfl, hks, hb⟩
  have HB3 := Lib.hid ((HB2.out.alloc HB2.out.size _).trans (hb.mono (by have := HB2.out.size; simp; omega)))
  have hblk := (Blk.new w2 #[.int .i64 K, .slice a1 n1 e1, .slice a2 n2 e2, .slice a3 n3 e3, .slice a4 NC e4, .int .i64 M] 46).keep (Keeps.all hb (fun _ => True)) trivial
  have HK3 : Hid (Keeps (fun b => b < w2.heap.size) w2 w3) := Lib.hid ((Keeps.alloc _ _ _).trans (Keeps.all hb _))
  rw [← hG] at hblk HK3 HREP
  rw [← hG]
  have HBK := Lib.hid hblk
  obtain ⟨⟨x0, x1, x2, x3, x4, x5⟩, -⟩ := blk6z hblk
  have hG3 : G < w3.heap.size := hblk.lt
  have hwG : w.heap.size ≤ G := by rw [hG]; exact HB2.out.size
  obtain ⟨ao3, cp3, hv3, hc31, hc32, -, hcells⟩ := keys_cases hks
  rw [← HNC.out] at hv3 hcells hc31
  obtain ⟨rfl, rfl⟩ : some (⟨g, 0, none⟩ : Addr) = ao3 ∧ cap3 = cp3 := by simpa using hv3
  rcases hcells with ⟨-, hcells⟩ | ⟨bk, ok3, hbk, -, -, hcells⟩
  · omega
  obtain ⟨rfl, rfl⟩ : g = bk ∧ 0 = ok3 := by simpa using hbk
  have HCE := Lib.hid hcells
  unfold maxLen at hc32
  clear hv3 hbk hcells hks hb hblk hG
  go_wp2_with fail
  go_loopw [8, 9, 10] (fun i _ _ wr => ∃ k : Nat, k ≤ NC ∧ i = .int .i64 k ∧ Hid (Keeps (fun _ => True) w3 wr) ∧ Hid (Below w.heap.size w wr)) (fun i _ _ _ => NC - (intOf i).toNat)
  case atStart => exact ⟨0, Nat.zero_le _, rfl, Keeps.refl _ _, HB3⟩
  case round =>
    clear x0 x1 x2 x3 x4 x5
    obtain ⟨k, hk, rfl, hkp, hbl⟩ := hrel
    have hBr := HBK.out.keep hkp.out trivial
    obtain ⟨⟨x0, x1, x2, x3, x4, x5⟩, ⟨-, -, -, -, -, xf⟩⟩ := blk6z hBr
    have HBR := Lib.hid hBr
    clear hBr
    by_cases hlt : k < NC
    · have hkc : k < c.length := by rw [← HNC.out]; exact hlt
      have hkq : k < Q.chord.length := by rw [HLEN.out]; exact hlt
      obtain ⟨g1, g2, g3⟩ := HKEYS.out k hkc hkq
      obtain ⟨y0, y1⟩ := HCE.out k hlt
      have hkk : c[k]?.getD (0, 0) = c[k] := by rw [List.getElem?_eq_getElem hkc]; rfl
      rw [hkk] at y0 y1
      obtain ⟨kk, hkk2⟩ : ∃ kk, kk = c[k] := ⟨_, rfl⟩
      obtain ⟨rk, hrk⟩ : ∃ rk, rk = Q.chord[k] := ⟨_, rfl⟩
      rw [← hkk2] at y0 y1 g1 g2 g3
      rw [← hrk] at g1
      have z0 := hkp.out.cell (a := ⟨g, 0 + k * 2, none⟩) trivial y0
      have z1 := hkp.out.cell (a := ⟨g, 0 + k * 2 + 1, none⟩) trivial y1
      rw [Nat.zero_add] at z0 z1
      have hrow : rowCheck Q.chord[k] = 0 := rowCheck_chord HG.out hkq
      -- the chord's row
      obtain ⟨hlay0, hchd⟩ := quest_parts (HREP.out K M wr (HK3.out.trans (hkp.out.mono fun _ _ => trivial)) (by rw [HKK.out, HK1.out]; rfl) (wf64_mk (by omega) (by omega)))
      have hlay : layR.R wr (fun _ => True) [.int .i64 K, .slice a1 n1 e1, .slice a2 n2 e2, .slice a3 n3 e3] Q.l := by
        have e : (⟨K, Q.l.o, Q.l.r, Q.l.u⟩ : Lay) = Q.l := by rw [HKK.out]
        rw [← e]
        exact hlay0
      have hb20 := (reachCheck_good HG.out).2.2.2.2
      have HNOTE := Lib.hid (fun w' (kp : Keeps (fun _ => True) wr w') => note_calls (layR.keep hlay kp) HLC.out kk.1 kk.2 (by omega) (by omega) (by rw [g1, hrk]; exact hrow))
      rw [g1] at HNOTE
      obtain ⟨ac, cc, hcv, hcd, hcc, hcx⟩ := slice1_cases rfl hchd
      simp only [Value.slice.injEq] at hcv
      obtain ⟨rfl, -, rfl⟩ := hcv
      rcases hcx with ⟨-, hcx⟩ | ⟨bc, oc, cf, rfl, -, -, hcx⟩
      · have hcx' : Q.chord.length = 0 := hcx
        omega
      obtain ⟨f1, f2⟩ := hcx k hkq
      obtain ⟨ar, cr, hcf, -⟩ := ints_cases f2
      rw [hcf] at f1 f2
      have f2' : rowR.R wr (fun _ => True) [.slice ar Q.chord[k].length cr] Q.chord[k] := f2
      have f1' : wr.cell? ⟨bc, oc + k, none⟩ = some (.slice ar Q.chord[k].length cr) := f1
      obtain ⟨nr, hnr⟩ : ∃ nr, nr = Q.chord[k].length := ⟨_, rfl⟩
      rw [← hnr, ← hrk] at f2'
      rw [← hnr] at f1'
      have HF2 := Lib.hid f2'
      have HHRK := Lib.hid hrk
      have ccb : NC ≤ e4 ∧ e4 ≤ 9223372036854775807 := by
        unfold maxLen at hcc
        have hcd' : Q.chord.length ≤ e4 := hcd
        have := HLEN.out
        omega
      have hs0 : wr.drew.cell? ⟨G, 0, none⟩ = some (.int .i64 K) ∧ wr.drew.cell? ⟨G, 1, none⟩ = some (.slice a1 n1 e1) ∧ wr.drew.cell? ⟨G, 2, none⟩ = some (.slice a2 n2 e2) ∧ wr.drew.cell? ⟨G, 3, none⟩ = some (.slice a3 n3 e3) ∧ wr.drew.cell? ⟨g, k * 2, none⟩ = some (.int .i64 kk.1) ∧ wr.drew.cell? ⟨g, k * 2 + 1, none⟩ = some (.int .i64 kk.2) := ⟨x0, x1, x2, x3, z0, z1⟩
      have HX4 := Lib.hid x4
      have HF1 := Lib.hid f1'
      have i1 : (0 : Int) ≤ (k : Int) ∧ (k : Int) < (NC : Int) := by omega
      clear x0 x1 x2 x3 x4 x5 xf f1 f2 f1' f2' hcx hcf hchd hlay hlay0 hnr hrk hkk hkk2 g1 g2 g3 y0 y1 z0 z1 hrow hb20 hcc hcd
      go_wp2_with fail
      go_region_held3 (fun w' => w'.cell? ⟨G, 0, none⟩ = some (.int .i64 K) ∧ w'.cell? ⟨G, 1, none⟩ = some (.slice a1 n1 e1) ∧ w'.cell? ⟨G, 2, none⟩ = some (.slice a2 n2 e2) ∧ w'.cell? ⟨G, 3, none⟩ = some (.slice a3 n3 e3) ∧ w'.cell? ⟨g, k * 2, none⟩ = some (.int .i64 kk.1) ∧ w'.cell? ⟨g, k * 2 + 1, none⟩ = some (.int .i64 kk.2))
        ((first | with_reducible exact hs0 | with_reducible exact hs1))
        (first | (go_at_call 18; refine (HNOTE.out wr.drew (show Keeps (fun _ => True) wr wr from Keeps.refl _ _)).mono ?_; rintro e w5 ⟨gr, ng, rfl, hu, hb⟩; have hs1 := g6_keep hs0 (Keeps.all hb (fun _ => True)); have hk5 : Keeps (fun _ => True) wr w5 := Keeps.all (w := wr.drew) hb _; have v4 := hk5.cell (a := ⟨G, 4, none⟩) trivial HX4.out; have v5 := hk5.cell (a := ⟨bc, oc + k, none⟩) trivial HF1.out; have HU5 := Lib.hid hu; have HB5 := Lib.hid hb; have HK5 := Lib.hid hk5; clear hu hb hk5))
      go_wp2_with fail
      refine (rowEqual_calls HU5.out (rowR.keep HF2.out HK5.out)).mono ?_
      rintro e w6 ⟨rfl, n6, rfl⟩
      rw [show decide (rk = rk) = true from decide_eq_true rfl]
      go_wp2
      go_roundw
      case rel => exact ⟨k + 1, by omega, by go_num, keeps_drawn (hkp.out.trans HK5.out) n6, below_drawn ((hbl.out.drew).trans (HB5.out.mono hbl.out.size)) n6⟩
      case measure => simp [intOf]; omega
    · go_wp2_with fail
      have KS := Lib.hid ((HK3.out.trans (hkp.out.mono fun _ _ => trivial)).trans (Keeps.setCell (w := wr) (p := ⟨G, 5, none⟩) (v := .int .i64 (M + 1)) (ok := fun b => b < G) (by simp)))
      have BS := Lib.hid (hbl.out.setCell (p := ⟨G, 5, none⟩) hwG (.int .i64 (M + 1)))
      have hBS := HBR.out.set 5 (.int .i64 (M + 1))
      have hrep : questR.R (wr.setCell ⟨G, 5, none⟩ (.int .i64 (M + 1))) (fun _ => True) [.int .i64 K, .slice a1 n1 e1, .slice a2 n2 e2, .slice a3 n3 e3, .slice a4 NC e4, .int .i64 (M + 1)] (wider Q) := by
        have e : (⟨⟨K, Q.l.o, Q.l.r, Q.l.u⟩, Q.chord, M + 1⟩ : Quest) = wider Q := by rw [HKK.out, HM.out]; rfl
        rw [← e]
        exact HREP.out K (M + 1) _ KS.out (by rw [HKK.out, HK1.out]; rfl) (wf64_mk (by omega) (by omega))
      refine (HL2.out _ _ hrep).mono ?_
      rintro e w4 ⟨g2, cp2, rfl, -, hb⟩
      have HB4 := Lib.hid (BS.out.trans (hb.mono BS.out.size))
      have hB4 : Blk w4 G #[.int .i64 K, .slice a1 n1 e1, .slice a2 n2 e2, .slice a3 n3 e3, .slice a4 NC e4, .int .i64 (M + 1)] 46 := hBS.keep (Keeps.all hb (fun _ => True)) trivial
      have KS4 := Lib.hid (KS.out.trans (Keeps.all hb _))
      clear x0 x1 x2 x3 x4 x5 xf hBS hrep hb
      obtain ⟨⟨x0, x1, x2, x3, x4, x5⟩, ⟨xf, -, -, -, -, xg⟩⟩ := blk6z hB4
      have HB4K := Lib.hid hB4
      clear hB4
      go_wp2_with fail
      have KS5 := Lib.hid ((KS4.out.trans (Keeps.setCell (w := w4) (p := ⟨G, 5, none⟩) (v := .int .i64 M) (ok := fun b => b < G) (by simp))).trans (Keeps.setCell (p := ⟨G, 0, none⟩) (v := .int .i64 2) (ok := fun b => b < G) (by simp)))
      have BS5 := Lib.hid ((HB4.out.setCell (p := ⟨G, 5, none⟩) hwG (.int .i64 M)).setCell (p := ⟨G, 0, none⟩) hwG (.int .i64 2))
      have hrep : questR.R ((w4.setCell ⟨G, 5, none⟩ (.int .i64 M)).setCell ⟨G, 0, none⟩ (.int .i64 2)) (fun _ => True) [.int .i64 2, .slice a1 n1 e1, .slice a2 n2 e2, .slice a3 n3 e3, .slice a4 NC e4, .int .i64 M] (hexed Q) := by
        have e : (⟨⟨2, Q.l.o, Q.l.r, Q.l.u⟩, Q.chord, M⟩ : Quest) = hexed Q := by rw [HM.out]; rfl
        rw [← e]
        exact HREP.out 2 M _ KS5.out rfl (wf64_mk (by omega) (by omega))
      refine (HL3.out _ _ hrep).mono ?_
      rintro e w8 ⟨g3, cp3, rfl, -, hb⟩
      have HB8 := Lib.hid (BS5.out.trans (hb.mono BS5.out.size))
      clear x0 x1 x2 x3 x4 x5 xf xg hrep hb
      go_wp2
      go_ret
      exact ⟨rfl, HB8.out⟩
set_option maxRecDepth 100000 in
set_option maxHeartbeats 8000000 in
theorem windows_wide (hex two : Bool) (o1 o2 r1 r2 u1 u2 m : Int) {w : World} {ok : Nat → Prop} {v : Value} {l : List (Int × Int)} (h : (sliceR pair8R).R w ok [v] l)
    {Q : Quest} (hQ : Q = planQ ⟨false, two, (o1, o2), (r1, r2), (u1, u2), l, m⟩) (hg : reachCheck Q = 0) (hc : (qCount Q).2 = 0) {c : List Key2} {d : Int} (hn : leastOf (farD Q.l.kind) (chs (qLists Q)) = some (c, d))
    (hx1 : reachCheck (hexed Q) = 0) (hx2 : (qCount (hexed Q)).2 = 0) {c3 : List Key2} {d3 : Int} (hx3 : leastOf (farD (hexed Q).l.kind) (chs (qLists (hexed Q))) = some (c3, d3)) (hd3 : d3 ≤ d)
    (hw2 : (qCount (wider Q)).2 = 4) :
    Calls Try.prog 5 #[.agg #[.bool hex, .bool two, .int .i8 o1, .int .i8 o2, .int .i8 r1, .int .i8 r2, .int .i8 u1, .int .i8 u2, v, .int .u8 m]] w fun e w' => e = .returned (.bool true) ∧ Below w.heap.size w w' := by
  have HK := Lib.hid (fun w' => known_calls w')
  have hlt := (sliceR pair8R).lt h
  have HMK := Lib.hid (fun w' (k : Keeps (fun b => b < w.heap.size) w w') => make_calls false two o1 o2 r1 r2 u1 u2 m ((sliceR pair8R).keep ((sliceR pair8R).mono hlt (fun b hb => hb.2)) k))
  obtain ⟨ao, cap, rfl, -⟩ := pairs8_cases h
  have hk1 : Q.l.kind = 1 := by rw [hQ]; rfl
  have hmost : 0 ≤ Q.most ∧ Q.most ≤ 3 := by
    have e : Q.most = m.tmod 4 := by rw [hQ]; rfl
    have := tmod_in m (b := 4) (by decide)
    have h5 := (reachCheck_good hg).2.2.2.2.1
    omega
  obtain ⟨hlen, hkeys⟩ := least_keys hn
  have h4 : d ≤ 4 * Q.most := least_four (q := Q) hmost.1 (by rw [hk1] at hn; exact hn)
  have hd0 : 0 ≤ d := by rw [(leastOf_min hn).2.1]; exact diam_ge _ _
  have hpos : 0 < c.length := by have := (reachCheck_good hg).2.1; omega
  have HL := Lib.hid (fun w' cs (h : questR.R w' (fun _ => True) cs Q) => least_some hg hc hn h)
  have HL3 := Lib.hid (fun w' cs (h : questR.R w' (fun _ => True) cs (hexed Q)) => least_some hx1 hx2 hx3 h)
  have HL2 := Lib.hid (fun w' cs (h : questR.R w' (fun _ => True) cs (wider Q)) => least_limit hw2 h)
  have HLC := Lib.hid (reachCheck_good hg).1
  have HKEYS := Lib.hid hkeys
  have HG := Lib.hid hg
  have HK1 := Lib.hid hk1
  obtain ⟨M, hM⟩ : ∃ M, M = Q.most := ⟨_, rfl⟩
  rw [← hM] at hmost h4
  obtain ⟨NC, hNC⟩ : ∃ NC, NC = c.length := ⟨_, rfl⟩
  rw [← hNC] at hlen hpos HL
  have HNC := Lib.hid hNC
  have HLEN := Lib.hid hlen.symm
  obtain ⟨m0, m3⟩ := hmost
  have HM := Lib.hid hM
  clear hM hNC hlen hkeys hc hg hn hx1 hx2 hx3 hk1
  obtain ⟨N, hN⟩ : ∃ N, N = l.length := ⟨_, rfl⟩
  rw [← hN] at HMK
  rw [← hN]
  rw [← hQ] at HMK
  have HQQ := Lib.hid hQ
  clear h hlt hQ hN
  go_enter Try.func5, Try.ntmps5
  go_wp2_with fail
  refine (HK.out _).mono ?_
  rintro e w1 ⟨rfl, hb⟩
  obtain ⟨hB, hX⟩ := front1 hb
  have HB1 := Lib.hid hB
  obtain ⟨⟨x0, x1, x2, x3, x4⟩, ⟨x5, x6, x7, x8, x9⟩⟩ := blk10 hX
  have xf := hX.free 0
  clear hb hB hX
  go_wp2_with fail
  refine (HMK.out _ ?_).mono ?_
  · exact (Keeps.below HB1.out).trans (Keeps.setCell (p := ⟨w.heap.size, 0, none⟩) (by simp))
  rintro e w2 ⟨cs, rfl, hq, hb⟩
  have HB2 : Hid (Below w.heap.size w w2) := Lib.hid ((HB1.out.setCell (p := ⟨w.heap.size, 0, none⟩) (Nat.le_refl _) _).trans (hb.mono (by have := HB1.out.size; simp [World.setCell]; omega)))
  have HQ0 := Lib.hid (questR.lt hq)
  obtain ⟨a1, e1, a2, e2, a3, e3, a4, e4, rfl, -, -, -, -⟩ := quest_cells hq
  clear hb hq x0 x1 x2 x3 x4 x5 x6 x7 x8 x9 xf
  go_wp2_with fail
  have HREP := Lib.hid (fun (k' M' : Int) w' (k : Keeps (fun b => b < w2.heap.size) w2 w') hk hM => quest_turn HQ0.out (k.mono fun b hb => hb.2) (k' := k') (M' := M') hk hM)
  rw [HLEN.out, ← HM.out]
  rw [HLEN.out] at HREP
  rw [HLEN.out, ← HM.out] at HQ0
  obtain ⟨G, hG⟩ : ∃ G, G = w2.heap.size := ⟨_, rfl⟩
  obtain ⟨K, hK⟩ : ∃ K, K = Q.l.kind := ⟨_, rfl⟩
  obtain ⟨n1, hn1⟩ : ∃ n, n = Q.l.o.length := ⟨_, rfl⟩
  obtain ⟨n2, hn2⟩ : ∃ n, n = Q.l.r.length := ⟨_, rfl⟩
  obtain ⟨n3, hn3⟩ : ∃ n, n = Q.l.u.length := ⟨_, rfl⟩
  rw [← hn1, ← hn2, ← hn3, ← hK] at HQ0
  rw [← hn1, ← hn2, ← hn3] at HREP
  rw [← hn1, ← hn2, ← hn3, ← hK]
  have HKK := Lib.hid hK
  clear hn1 hn2 hn3 hK
  refine (HL.out _ _ (questR.mono (questR.keep HQ0.out (Keeps.alloc _ _ _)) fun _ _ => trivial)).mono ?_
  rintro e w3 ⟨g, cap3, rfl, hks, hb⟩
  have HB3 := Lib.hid ((HB2.out.alloc HB2.out.size _).trans (hb.mono (by have := HB2.out.size; simp; omega)))
  have hblk := (Blk.new w2 #[.int .i64 K, .slice a1 n1 e1, .slice a2 n2 e2, .slice a3 n3 e3, .slice a4 NC e4, .int .i64 M] 46).keep (Keeps.all hb (fun _ => True)) trivial
  have HK3 : Hid (Keeps (fun b => b < w2.heap.size) w2 w3) := Lib.hid ((Keeps.alloc _ _ _).trans (Keeps.all hb _))
  rw [← hG] at hblk HK3 HREP
  rw [← hG]
  have HBK := Lib.hid hblk
  obtain ⟨⟨x0, x1, x2, x3, x4, x5⟩, -⟩ := blk6z hblk
  have hG3 : G < w3.heap.size := hblk.lt
  have hwG : w.heap.size ≤ G := by rw [hG]; exact HB2.out.size
  obtain ⟨ao3, cp3, hv3, hc31, hc32, -, hcells⟩ := keys_cases hks
  rw [← HNC.out] at hv3 hcells hc31
  obtain ⟨rfl, rfl⟩ : some (⟨g, 0, none⟩ : Addr) = ao3 ∧ cap3 = cp3 := by simpa using hv3
  rcases hcells with ⟨-, hcells⟩ | ⟨bk, ok3, hbk, -, -, hcells⟩
  · omega
  obtain ⟨rfl, rfl⟩ : g = bk ∧ 0 = ok3 := by simpa using hbk
  have HCE := Lib.hid hcells
  unfold maxLen at hc32
  clear hv3 hbk hcells hks hb hblk hG
  go_wp2_with fail
  go_loopw [8, 9, 10] (fun i _ _ wr => ∃ k : Nat, k ≤ NC ∧ i = .int .i64 k ∧ Hid (Keeps (fun _ => True) w3 wr) ∧ Hid (Below w.heap.size w wr)) (fun i _ _ _ => NC - (intOf i).toNat)
  case atStart => exact ⟨0, Nat.zero_le _, rfl, Keeps.refl _ _, HB3⟩
  case round =>
    clear x0 x1 x2 x3 x4 x5
    obtain ⟨k, hk, rfl, hkp, hbl⟩ := hrel
    have hBr := HBK.out.keep hkp.out trivial
    obtain ⟨⟨x0, x1, x2, x3, x4, x5⟩, ⟨-, -, -, -, -, xf⟩⟩ := blk6z hBr
    have HBR := Lib.hid hBr
    clear hBr
    by_cases hlt : k < NC
    · have hkc : k < c.length := by rw [← HNC.out]; exact hlt
      have hkq : k < Q.chord.length := by rw [HLEN.out]; exact hlt
      obtain ⟨g1, g2, g3⟩ := HKEYS.out k hkc hkq
      obtain ⟨y0, y1⟩ := HCE.out k hlt
      have hkk : c[k]?.getD (0, 0) = c[k] := by rw [List.getElem?_eq_getElem hkc]; rfl
      rw [hkk] at y0 y1
      obtain ⟨kk, hkk2⟩ : ∃ kk, kk = c[k] := ⟨_, rfl⟩
      obtain ⟨rk, hrk⟩ : ∃ rk, rk = Q.chord[k] := ⟨_, rfl⟩
      rw [← hkk2] at y0 y1 g1 g2 g3
      rw [← hrk] at g1
      have z0 := hkp.out.cell (a := ⟨g, 0 + k * 2, none⟩) trivial y0
      have z1 := hkp.out.cell (a := ⟨g, 0 + k * 2 + 1, none⟩) trivial y1
      rw [Nat.zero_add] at z0 z1
      have hrow : rowCheck Q.chord[k] = 0 := rowCheck_chord HG.out hkq
      -- the chord's row
      obtain ⟨hlay0, hchd⟩ := quest_parts (HREP.out K M wr (HK3.out.trans (hkp.out.mono fun _ _ => trivial)) (by rw [HKK.out, HK1.out]; rfl) (wf64_mk (by omega) (by omega)))
      have hlay : layR.R wr (fun _ => True) [.int .i64 K, .slice a1 n1 e1, .slice a2 n2 e2, .slice a3 n3 e3] Q.l := by
        have e : (⟨K, Q.l.o, Q.l.r, Q.l.u⟩ : Lay) = Q.l := by rw [HKK.out]
        rw [← e]
        exact hlay0
      have hb20 := (reachCheck_good HG.out).2.2.2.2
      have HNOTE := Lib.hid (fun w' (kp : Keeps (fun _ => True) wr w') => note_calls (layR.keep hlay kp) HLC.out kk.1 kk.2 (by omega) (by omega) (by rw [g1, hrk]; exact hrow))
      rw [g1] at HNOTE
      obtain ⟨ac, cc, hcv, hcd, hcc, hcx⟩ := slice1_cases rfl hchd
      simp only [Value.slice.injEq] at hcv
      obtain ⟨rfl, -, rfl⟩ := hcv
      rcases hcx with ⟨-, hcx⟩ | ⟨bc, oc, cf, rfl, -, -, hcx⟩
      · have hcx' : Q.chord.length = 0 := hcx
        omega
      obtain ⟨f1, f2⟩ := hcx k hkq
      obtain ⟨ar, cr, hcf, -⟩ := ints_cases f2
      rw [hcf] at f1 f2
      have f2' : rowR.R wr (fun _ => True) [.slice ar Q.chord[k].length cr] Q.chord[k] := f2
      have f1' : wr.cell? ⟨bc, oc + k, none⟩ = some (.slice ar Q.chord[k].length cr) := f1
      obtain ⟨nr, hnr⟩ : ∃ nr, nr = Q.chord[k].length := ⟨_, rfl⟩
      rw [← hnr, ← hrk] at f2'
      rw [← hnr] at f1'
      have HF2 := Lib.hid f2'
      have HHRK := Lib.hid hrk
      have ccb : NC ≤ e4 ∧ e4 ≤ 9223372036854775807 := by
        unfold maxLen at hcc
        have hcd' : Q.chord.length ≤ e4 := hcd
        have := HLEN.out
        omega
      have hs0 : wr.drew.cell? ⟨G, 0, none⟩ = some (.int .i64 K) ∧ wr.drew.cell? ⟨G, 1, none⟩ = some (.slice a1 n1 e1) ∧ wr.drew.cell? ⟨G, 2, none⟩ = some (.slice a2 n2 e2) ∧ wr.drew.cell? ⟨G, 3, none⟩ = some (.slice a3 n3 e3) ∧ wr.drew.cell? ⟨g, k * 2, none⟩ = some (.int .i64 kk.1) ∧ wr.drew.cell? ⟨g, k * 2 + 1, none⟩ = some (.int .i64 kk.2) := ⟨x0, x1, x2, x3, z0, z1⟩
      have HX4 := Lib.hid x4
      have HF1 := Lib.hid f1'
      have i1 : (0 : Int) ≤ (k : Int) ∧ (k : Int) < (NC : Int) := by omega
      clear x0 x1 x2 x3 x4 x5 xf f1 f2 f1' f2' hcx hcf hchd hlay hlay0 hnr hrk hkk hkk2 g1 g2 g3 y0 y1 z0 z1 hrow hb20 hcc hcd
      go_wp2_with fail
      go_region_held3 (fun w' => w'.cell? ⟨G, 0, none⟩ = some (.int .i64 K) ∧ w'.cell? ⟨G, 1, none⟩ = some (.slice a1 n1 e1) ∧ w'.cell? ⟨G, 2, none⟩ = some (.slice a2 n2 e2) ∧ w'.cell? ⟨G, 3, none⟩ = some (.slice a3 n3 e3) ∧ w'.cell? ⟨g, k * 2, none⟩ = some (.int .i64 kk.1) ∧ w'.cell? ⟨g, k * 2 + 1, none⟩ = some (.int .i64 kk.2))
        ((first | with_reducible exact hs0 | with_reducible exact hs1))
        (first | (go_at_call 18; refine (HNOTE.out wr.drew (show Keeps (fun _ => True) wr wr from Keeps.refl _ _)).mono ?_; rintro e w5 ⟨gr, ng, rfl, hu, hb⟩; have hs1 := g6_keep hs0 (Keeps.all hb (fun _ => True)); have hk5 : Keeps (fun _ => True) wr w5 := Keeps.all (w := wr.drew) hb _; have v4 := hk5.cell (a := ⟨G, 4, none⟩) trivial HX4.out; have v5 := hk5.cell (a := ⟨bc, oc + k, none⟩) trivial HF1.out; have HU5 := Lib.hid hu; have HB5 := Lib.hid hb; have HK5 := Lib.hid hk5; clear hu hb hk5))
      go_wp2_with fail
      refine (rowEqual_calls HU5.out (rowR.keep HF2.out HK5.out)).mono ?_
      rintro e w6 ⟨rfl, n6, rfl⟩
      rw [show decide (rk = rk) = true from decide_eq_true rfl]
      go_wp2
      go_roundw
      case rel => exact ⟨k + 1, by omega, by go_num, keeps_drawn (hkp.out.trans HK5.out) n6, below_drawn ((hbl.out.drew).trans (HB5.out.mono hbl.out.size)) n6⟩
      case measure => simp [intOf]; omega
    · go_wp2_with fail
      have KS := Lib.hid ((HK3.out.trans (hkp.out.mono fun _ _ => trivial)).trans (Keeps.setCell (w := wr) (p := ⟨G, 5, none⟩) (v := .int .i64 (M + 1)) (ok := fun b => b < G) (by simp)))
      have BS := Lib.hid (hbl.out.setCell (p := ⟨G, 5, none⟩) hwG (.int .i64 (M + 1)))
      have hBS := HBR.out.set 5 (.int .i64 (M + 1))
      have hrep : questR.R (wr.setCell ⟨G, 5, none⟩ (.int .i64 (M + 1))) (fun _ => True) [.int .i64 K, .slice a1 n1 e1, .slice a2 n2 e2, .slice a3 n3 e3, .slice a4 NC e4, .int .i64 (M + 1)] (wider Q) := by
        have e : (⟨⟨K, Q.l.o, Q.l.r, Q.l.u⟩, Q.chord, M + 1⟩ : Quest) = wider Q := by rw [HKK.out, HM.out]; rfl
        rw [← e]
        exact HREP.out K (M + 1) _ KS.out (by rw [HKK.out, HK1.out]; rfl) (wf64_mk (by omega) (by omega))
      refine (HL2.out _ _ hrep).mono ?_
      rintro e w4 ⟨rfl, hb⟩
      have HB4 := Lib.hid (BS.out.trans (hb.mono BS.out.size))
      have hB4 : Blk w4 G #[.int .i64 K, .slice a1 n1 e1, .slice a2 n2 e2, .slice a3 n3 e3, .slice a4 NC e4, .int .i64 (M + 1)] 46 := hBS.keep (Keeps.all hb (fun _ => True)) trivial
      have KS4 := Lib.hid (KS.out.trans (Keeps.all hb _))
      clear x0 x1 x2 x3 x4 x5 xf hBS hrep hb
      obtain ⟨⟨x0, x1, x2, x3, x4, x5⟩, ⟨xf, -, -, -, -, xg⟩⟩ := blk6z hB4
      have HB4K := Lib.hid hB4
      clear hB4
      go_wp2_with fail
      have KS5 := Lib.hid ((KS4.out.trans (Keeps.setCell (w := w4) (p := ⟨G, 5, none⟩) (v := .int .i64 M) (ok := fun b => b < G) (by simp))).trans (Keeps.setCell (p := ⟨G, 0, none⟩) (v := .int .i64 2) (ok := fun b => b < G) (by simp)))
      have BS5 := Lib.hid ((HB4.out.setCell (p := ⟨G, 5, none⟩) hwG (.int .i64 M)).setCell (p := ⟨G, 0, none⟩) hwG (.int .i64 2))
      have hrep : questR.R ((w4.setCell ⟨G, 5, none⟩ (.int .i64 M)).setCell ⟨G, 0, none⟩ (.int .i64 2)) (fun _ => True) [.int .i64 2, .slice a1 n1 e1, .slice a2 n2 e2, .slice a3 n3 e3, .slice a4 NC e4, .int .i64 M] (hexed Q) := by
        have e : (⟨⟨2, Q.l.o, Q.l.r, Q.l.u⟩, Q.chord, M⟩ : Quest) = hexed Q := by rw [HM.out]; rfl
        rw [← e]
        exact HREP.out 2 M _ KS5.out rfl (wf64_mk (by omega) (by omega))
      refine (HL3.out _ _ hrep).mono ?_
      rintro e w8 ⟨g3, cp3, rfl, -, hb⟩
      have HB8 := Lib.hid (BS5.out.trans (hb.mono BS5.out.size))
      clear x0 x1 x2 x3 x4 x5 xf xg hrep hb
      go_wp2
      go_ret
      exact ⟨rfl, HB8.out⟩
end Go.Proofs.Ytcnpanmkpfgdjaa
