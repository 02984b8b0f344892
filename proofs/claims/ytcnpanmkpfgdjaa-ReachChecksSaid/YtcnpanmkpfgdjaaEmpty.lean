/- THE WALK of ReachEmpty. -/
import Derived.Test.YtcnpanmkpfgdjaaEmptyA
import Derived.Test.YtcnpanmkpfgdjaaMakeB
import Derived.Test.YtcnpanmkpfgdjaaKnown
namespace Go.Proofs.Ytcnpanmkpfgdjaa
open Go.RowKit Go.Sch

theorem blk10' {w : World} {g : Nat} {t : TypeId} {a b c d e f x y z u : Value} (h : Blk w g #[a, b, c, d, e, f, x, y, z, u] t) :
    (w.cell? ⟨g, 0, none⟩ = some a ∧ w.cell? ⟨g, 1, none⟩ = some b ∧ w.cell? ⟨g, 2, none⟩ = some c ∧ w.cell? ⟨g, 3, none⟩ = some d ∧ w.cell? ⟨g, 4, none⟩ = some e) ∧
    (w.cell? ⟨g, 5, none⟩ = some f ∧ w.cell? ⟨g, 6, none⟩ = some x ∧ w.cell? ⟨g, 7, none⟩ = some y ∧ w.cell? ⟨g, 8, none⟩ = some z ∧ w.cell? ⟨g, 9, none⟩ = some u) :=
  ⟨⟨by rw [h.cell]; rfl, by rw [h.cell]; rfl, by rw [h.cell]; rfl, by rw [h.cell]; rfl, by rw [h.cell]; rfl⟩, ⟨by rw [h.cell]; rfl, by rw [h.cell]; rfl, by rw [h.cell]; rfl, by rw [h.cell]; rfl, by rw [h.cell]; rfl⟩⟩
theorem front_alloc {w0 w w1 : World} {o : Obj} (h : Below w0.heap.size w0 w) (hb : Below (w.alloc o).heap.size (w.alloc o) w1) : Below w0.heap.size w0 w1 := (h.alloc h.size o).trans (hb.mono (by have := h.size; simp; omega))
theorem lays_one {w : World} {C : List Value} {l : Lay} {g : Nat} {t : TypeId} (hb : Blk w g C.toArray t) (hx : layR.R w (fun _ => True) C l) : laysR.R w (fun _ => True) [.slice (some ⟨g, 0, none⟩) 1 1] [l] := by
  refine ⟨some ⟨g, 0, none⟩, 1, rfl, Nat.le_refl _, by decide, .inr ⟨g, 0, rfl, trivial, fun i hi => ?_⟩⟩
  match i, hi with
  | 0, _ =>
    refine ⟨C, hb.at _ _ fun j hj => ?_, hx⟩
    simp only [Nat.zero_mul, Nat.zero_add]
    simp [List.getElem?_eq_getElem hj]
theorem slice_front {α : Type} {E : Rep α} {w : World} {ok : Nat → Prop} {ao : Option Addr} {n cap k : Nat} {xs : List α} (h : (sliceR E).R w ok [.slice ao n cap] xs) (hk : k ≤ xs.length) : (sliceR E).R w ok [.slice ao k cap] (xs.take k) := by
  obtain ⟨ao', cap', hv, h2, h3, h4⟩ := h
  simp only [List.cons.injEq, Value.slice.injEq, and_true] at hv
  obtain ⟨rfl, -, rfl⟩ := hv
  have hl : (xs.take k).length = k := by rw [List.length_take]; omega
  refine ⟨ao, cap, by rw [hl], by rw [hl]; omega, h3, ?_⟩
  rcases h4 with rfl | ⟨b, off, ha, ho, he⟩
  · exact .inl (by simp)
  · refine .inr ⟨b, off, ha, ho, fun i hi => ?_⟩
    rw [hl] at hi
    obtain ⟨es, h5, h6⟩ := he i (by omega)
    exact ⟨es, h5, by simpa using h6⟩
theorem derr_empty {w : World} {cs : List Value} {l : Lay} (h : layR.R w (fun _ => True) cs l) (m : Int) : DErr w cs (.slice none 0 0) m 13 := fun _ k => diams_empty (layR.keep h k) none 0 m
set_option maxRecDepth 100000 in
set_option maxHeartbeats 8000000 in
theorem empty_calls (hex two : Bool) (o1 o2 r1 r2 u1 u2 m mo : Int) (hmo : 0 ≤ mo ∧ mo ≤ 255) {w : World} {ok : Nat → Prop} {v : Value} {l : List (Int × Int)} (h : (sliceR pair8R).R w ok [v] l) :
    Calls Try.prog 8 #[.agg #[.bool hex, .bool two, .int .i8 o1, .int .i8 o2, .int .i8 r1, .int .i8 r2, .int .i8 u1, .int .i8 u2, v, .int .u8 m], .int .u8 mo] w fun e w' => e = .returned (.bool true) ∧ Below w.heap.size w w' := by
  have HK := Lib.hid (fun w' => known_calls w')
  have hlt := (sliceR pair8R).lt h
  have HMK := Lib.hid (fun w' (k : Keeps (fun b => b < w.heap.size) w w') => make_calls hex two o1 o2 r1 r2 u1 u2 m ((sliceR pair8R).keep ((sliceR pair8R).mono hlt (fun b hb => hb.2)) k))
  obtain ⟨ao, cap, rfl, -⟩ := pairs8_cases h
  obtain ⟨N, hN⟩ : ∃ N, N = l.length := ⟨_, rfl⟩
  rw [← hN] at HMK
  rw [← hN]
  obtain ⟨Q, hQ⟩ : ∃ Q, Q = planQ ⟨hex, two, (o1, o2), (r1, r2), (u1, u2), l, m⟩ := ⟨_, rfl⟩
  rw [← hQ] at HMK
  have HQQ := Lib.hid hQ
  clear h hlt hN hQ
  go_enter Try.func8, Try.ntmps8
  go_wp2_with fail
  refine (HK.out _).mono ?_
  rintro e w1 ⟨rfl, hb⟩
  obtain ⟨hB, hX⟩ := front1 hb
  have HB1 := Lib.hid hB
  obtain ⟨⟨x0, x1, x2, x3, x4⟩, ⟨x5, x6, x7, x8, x9⟩⟩ := blk10' hX
  clear hb hB hX
  go_wp2_with fail
  refine (HMK.out _ ?_).mono ?_
  · exact Keeps.below HB1.out
  rintro e w2 ⟨cs, rfl, hq, hb⟩
  have HB2 : Hid (Below w.heap.size w w2) := Lib.hid (HB1.out.trans (hb.mono HB1.out.size))
  obtain ⟨a1, e1, a2, e2, a3, e3, a4, e4, rfl, hlay, hch, -, -⟩ := quest_cells hq
  have HLAY := Lib.hid (layR.mono hlay (fun _ _ => trivial : ∀ b, w1.heap.size ≤ b → (fun _ => True) b))
  have HROW := Lib.hid (show rowR.R w2 (fun _ => True) [.slice a1 Q.l.o.length e1] Q.l.o by
    obtain ⟨v1, v2, v3, he, -, ho, -, -⟩ := hlay
    simp only [List.cons.injEq, and_true] at he
    obtain ⟨-, rfl, -, -⟩ := he
    exact rowR.mono ho fun _ _ => trivial)
  obtain ⟨K, hK⟩ : ∃ K, K = Q.l.kind := ⟨_, rfl⟩
  obtain ⟨n1, hn1⟩ : ∃ n, n = Q.l.o.length := ⟨_, rfl⟩
  obtain ⟨n2, hn2⟩ : ∃ n, n = Q.l.r.length := ⟨_, rfl⟩
  obtain ⟨n3, hn3⟩ : ∃ n, n = Q.l.u.length := ⟨_, rfl⟩
  obtain ⟨n4, hn4⟩ : ∃ n, n = Q.chord.length := ⟨_, rfl⟩
  obtain ⟨M, hM⟩ : ∃ M, M = Q.most := ⟨_, rfl⟩
  rw [← hn1, ← hn2, ← hn3, ← hK] at HLAY
  rw [← hn1] at HROW
  rw [← hn1, ← hn2, ← hn3, ← hn4, ← hK, ← hM]
  clear hb hq hlay hch x0 x1 x2 x3 x4 x5 x6 x7 x8 x9 hn1 hn2 hn3 hn4 hK hM
  obtain ⟨G, hG⟩ : ∃ G, G = w2.heap.size := ⟨_, rfl⟩
  have hwG : w.heap.size ≤ G := by rw [hG]; exact HB2.out.size
  go_wp2_with fail
  rw [← hG]
  have HC6 := Lib.hid (show Blk (w2.alloc (.cells #[.int .i64 K, .slice a1 n1 e1, .slice a2 n2 e2, .slice a3 n3 e3, .slice a4 n4 e4, .int .i64 0] 46)) G #[.int .i64 K, .slice a1 n1 e1, .slice a2 n2 e2, .slice a3 n3 e3, .slice a4 n4 e4, .int .i64 0] 46 by rw [hG]; exact Blk.new _ _ _)
  have HL3 := Lib.hid (layR.keep HLAY.out (Keeps.alloc w2 (.cells #[.int .i64 K, .slice a1 n1 e1, .slice a2 n2 e2, .slice a3 n3 e3, .slice a4 n4 e4, .int .i64 0] 46) (fun _ => True)))
  have HR3 := Lib.hid (rowR.keep HROW.out (Keeps.alloc w2 (.cells #[.int .i64 K, .slice a1 n1 e1, .slice a2 n2 e2, .slice a3 n3 e3, .slice a4 n4 e4, .int .i64 0] 46) (fun _ => True)))
  have HLg := Lib.hid (layR.mono (layR.keep (layR.lt HLAY.out) (Keeps.alloc w2 (.cells #[.int .i64 K, .slice a1 n1 e1, .slice a2 n2 e2, .slice a3 n3 e3, .slice a4 n4 e4, .int .i64 0] 46) _)) (fun b hb => (by omega : b ≤ G)))
  have HRg := Lib.hid (rowR.mono (rowR.keep (rowR.lt HROW.out) (Keeps.alloc w2 (.cells #[.int .i64 K, .slice a1 n1 e1, .slice a2 n2 e2, .slice a3 n3 e3, .slice a4 n4 e4, .int .i64 0] 46) _)) (fun b hb => (by omega : b ≤ G)))
  have HB3 := Lib.hid (HB2.out.alloc HB2.out.size (.cells #[.int .i64 K, .slice a1 n1 e1, .slice a2 n2 e2, .slice a3 n3 e3, .slice a4 n4 e4, .int .i64 0] 46))
  obtain ⟨w3, hw3⟩ : ∃ w3, w3 = w2.alloc (.cells #[.int .i64 K, .slice a1 n1 e1, .slice a2 n2 e2, .slice a3 n3 e3, .slice a4 n4 e4, .int .i64 0] 46) := ⟨_, rfl⟩
  rw [← hw3] at HC6 HL3 HR3 HB3 HLg HRg
  rw [← hw3]
  clear hw3 HB1 HB2 hG HLAY HROW
  refine (hardest_err (derr_empty HL3.out 1) (by decide)).mono ?_
  rintro e w4 ⟨rfl, hb⟩
  have HB4 := Lib.hid (HB3.out.trans (hb.mono HB3.out.size))
  have K4 := Lib.hid (Keeps.all hb (fun _ => True))
  obtain ⟨⟨x0, x1, x2, x3, x4, x5⟩, -⟩ := blk6z (HC6.out.keep K4.out trivial)
  clear hb
  go_wp2_with fail
  refine (cost_err (derr_empty (layR.keep HL3.out K4.out) 1) (by decide)).mono ?_
  rintro e w5 ⟨rfl, hb⟩
  have HB5 := Lib.hid (HB4.out.trans (hb.mono HB4.out.size))
  have K5 := Lib.hid (K4.out.trans (Keeps.all hb (fun _ => True)))
  obtain ⟨⟨x0, x1, x2, x3, x4, x5⟩, -⟩ := blk6z (HC6.out.keep K5.out trivial)
  have hG5 : G < w5.heap.size := (HC6.out.keep K5.out trivial).lt
  clear hb
  go_wp2_with fail
  refine (choose_empty _ _ _ _ _).mono ?_
  rintro e w' ⟨rfl, rfl⟩
  go_wp2_with fail
  refine (choose_err (lays_one (C := [.int .i64 K, .slice a1 n1 e1, .slice a2 n2 e2, .slice a3 n3 e3]) (t := 43) (Blk.newAt _ _ (by simp)) (layR.keep HL3.out (K5.out.trans ((Keeps.alloc _ _ _).of_alloc _)))) (show 0 < 1 ∧ 1 ≤ 40 by decide) (er := 13) (fun w' cs _ hl => derr_empty hl 1) (by decide) (by decide)).mono ?_
  rintro e w7 ⟨rfl, hb⟩
  have HB7 : Hid (Below w.heap.size w w7) := Lib.hid (front_alloc (HB5.out.alloc HB5.out.size _) hb)
  have K7 : Hid (Keeps (fun _ => True) w3 w7) := Lib.hid (K5.out.trans (((Keeps.alloc _ _ _).of_alloc _).trans (Keeps.all hb (fun _ => True))))
  have hG7 : G < w7.heap.size := (HC6.out.keep K7.out trivial).lt
  clear hb x0 x1 x2 x3 x4 x5 hG5 HB3 HB4 HB5 K4 K5
  go_wp2_with fail
  obtain ⟨NN, hNN⟩ : ∃ NN : Nat, 38 + mo % 5 = NN := ⟨(38 + mo % 5).toNat, by omega⟩
  have hNb : 38 ≤ NN ∧ NN ≤ 42 := by omega
  obtain ⟨hN38, hN42⟩ := hNb
  rw [hNN]
  have HNN := Lib.hid hNN
  clear hNN
  go_loopw [20, 21, 22] (fun u t i wr => ∃ k : Nat, k ≤ NN ∧ i = .int .i64 k ∧ Hid (Chs wr w.heap.size G (.slice a1 n1 e1) u t k) ∧ Hid (Lys wr w.heap.size [.int .i64 K, .slice a1 n1 e1, .slice a2 n2 e2, .slice a3 n3 e3] t k) ∧ Hid (Apart G u t) ∧ Hid (Keeps (fun b => b ≤ G) w7 wr) ∧ Hid (Below w.heap.size w wr) ∧ G < wr.heap.size) (fun _ _ i _ => NN - (intOf i).toNat)
  case atStart => exact ⟨0, Nat.zero_le _, rfl, chs_nil _ _ _ _ _, lys_nil _ _ _, apart_nil _, Keeps.refl _ _, HB7, hG7⟩
  case round =>
    obtain ⟨k, hk, rfl, hchs, HLY, HAP, hkp, hbl, hGr⟩ := hrel
    have HX := Lib.hid ((HC6.out.keep K7.out trivial).keep hkp.out (Nat.le_refl _))
    obtain ⟨⟨x0, x1, x2, x3, x4, x5⟩, -⟩ := blk6z HX.out
    by_cases hlt : k < NN
    · obtain ⟨xs, ho, hx⟩ := hchs.out
      have HO := Lib.hid ho
      have HXS := Lib.hid hx
      have HBD : Hid ((k + 1) * 24 ≤ 140737488355328) := Lib.hid (by omega)
      have HBE : Hid ((k + 1) * 80 ≤ 140737488355328) := Lib.hid (by omega)
      clear ho hx hchs
      go_wp2_with (first | ((with_reducible refine wpList_append_one (o := ⟨some 95, _, _, _, _, _⟩) ?_ (.tmp 89) (.tmp 94) 66 ?_ w.heap.size 44 (.slice none 0 0) 1 24 Try.underlying66 Try.info_rows ?_ ?_ ?_ u20 _ _ ?_ (own_all HO.out ?_) (wr.heap.size + 1) ?_ [.slice (some ⟨wr.heap.size, 0, none⟩) 1 1] ?_ ?_ ?_ HBD.out ?_ ?_); rfl; rfl; rfl; decide; decide; rfl; (exact (Keeps.alloc _ _ _).of_alloc _); rfl; rfl; (exact (Blk.newAt _ _ (by simp)).at _ _ (by intro t ht; match t, ht with | 0, _ => rfl)); (simp [Value.oneCell']); (simp; omega); intro g5 cap5 w5 hown5 hk5 hb5 hg5; obtain ⟨hc5, hl5, ha5⟩ := chs_more (t := u21) HO.out HXS.out HLY.out HAP.out hGr hown5 hk5 (fun g' e => by (cases e); (have h5 := hg5.2.2); (simp at h5 ⊢); exact h5); have HC5 := Lib.hid hc5; have HL5 := Lib.hid (show w5.ownsRow w.heap.size 43 4 u21 k (List.replicate k [.int .i64 K, .slice a1 n1 e1, .slice a2 n2 e2, .slice a3 n3 e3]).flatten from hl5); have HA5 := Lib.hid ha5; have KG5 := Lib.hid (((Keeps.alloc wr (.cells #[.slice a1 n1 e1] 41) (fun b => b ≤ G)).trans (Keeps.alloc _ (.cells #[.slice (some ⟨wr.heap.size, 0, none⟩) 1 1] 44) _)).trans (hk5.mono fun b hb e => by (have := HAP.out.1 b e); omega)); have BE5 := Lib.hid (((hbl.out.alloc hbl.out.size (.cells #[.slice a1 n1 e1] 41)).alloc (by simp; omega) (.cells #[.slice (some ⟨wr.heap.size, 0, none⟩) 1 1] 44)).trans hb5); have hG5 : G < w5.heap.size := (by (have h6 := hb5.size); simp at h6; omega); obtain ⟨⟨x0, x1, x2, x3, x4, x5⟩, -⟩ := blk6z ((HX.out).keep KG5.out (Nat.le_refl _)); clear hc5 hl5 ha5 hown5 hk5 hb5 hg5) | ((with_reducible refine wpList_append_one (o := ⟨some 100, _, _, _, _, _⟩) ?_ (.tmp 96) (.tmp 99) 67 ?_ w.heap.size 43 (.agg #[.int .i64 0, .slice none 0 0, .slice none 0 0, .slice none 0 0]) 4 80 Try.underlying67 Try.info_lay ?_ ?_ ?_ u21 _ _ ?_ (own_all HL5.out ?_) w5.heap.size ?_ [.int .i64 K, .slice a1 n1 e1, .slice a2 n2 e2, .slice a3 n3 e3] ?_ ?_ ?_ HBE.out ?_ ?_); rfl; rfl; rfl; decide; decide; rfl; (exact Keeps.alloc _ _ _); rfl; rfl; (exact (Blk.newAt _ _ (by simp)).at _ _ (by intro t ht; match t, ht with | 0, _ => rfl | 1, _ => rfl | 2, _ => rfl | 3, _ => rfl)); (simp [Value.oneCell']); (simp; omega); intro g6 cap6 w6 hown6 hk6 hb6 hg6; obtain ⟨hc6, hl6, ha6⟩ := lys_more HC5.out HA5.out hG5 hown6 hk6 (fun g' e => by (cases e); (have h5 := hg6.2.2); (simp at h5 ⊢); exact h5); have HC6' := Lib.hid hc6; have HL6 := Lib.hid hl6; have HA6 := Lib.hid ha6; have KG6 := Lib.hid ((Keeps.alloc w5 (.cells #[.int .i64 K, .slice a1 n1 e1, .slice a2 n2 e2, .slice a3 n3 e3] 43) (fun b => b ≤ G)).trans (hk6.mono fun b hb e => by (have := HA5.out.2.1 b e); omega)); have BE6 := Lib.hid ((BE5.out.alloc BE5.out.size (.cells #[.int .i64 K, .slice a1 n1 e1, .slice a2 n2 e2, .slice a3 n3 e3] 43)).trans hb6); have hG6 : G < w6.heap.size := (by (have h6 := hb6.size); simp at h6; omega); clear hc6 hl6 ha6 hown6 hk6 hb6 hg6))
      go_roundw
      case rel => exact ⟨k + 1, by omega, by go_num, HC6', HL6, HA6, (hkp.out.trans KG5.out).trans KG6.out, BE6, hG6⟩
      case measure => simp [intOf]; omega
    · obtain rfl : k = NN := by omega
      have KR : Keeps (fun b => b ≤ G) w3 wr := (K7.out.mono fun _ _ => trivial).trans hkp.out
      have HLr := Lib.hid (layR.mono (layR.keep HLg.out KR) fun _ _ => trivial : layR.R wr (fun _ => True) _ _)
      have HRr := Lib.hid (rowR.mono (rowR.keep HRg.out KR) fun _ _ => trivial : rowR.R wr (fun _ => True) _ _)
      have HCH := Lib.hid (chs_read hchs.out HRr.out)
      have HLYS := Lib.hid (lys_read HLY.out rfl HLr.out)
      obtain ⟨au, cu, rfl, hcu, hcm, -⟩ := slice1_cases rfl HCH.out
      obtain ⟨at', ct, rfl, -⟩ := lays_cases HLYS.out
      rw [List.length_replicate] at HCH HLYS hcu ⊢
      rw [List.length_replicate]
      unfold maxLen at hcm
      clear hchs HLY HAP KR
      by_cases h40 : 40 < k
      · go_wp2_with fail
        refine (cost_err (er := 4) (fun w' kp => diams_many (layR.keep HLr.out kp) _ _ _ ⟨h40, by omega⟩ 0) (by decide)).mono ?_
        rintro e w8 ⟨rfl, hb⟩
        have HB8 := Lib.hid (hbl.out.trans (hb.mono hbl.out.size))
        clear hb x0 x1 x2 x3 x4 x5
        go_wp2_with fail
        refine (choose_many _ _ _ ⟨h40, by omega⟩ _ _ _).mono ?_
        rintro e w' ⟨rfl, rfl⟩
        go_wp2
        go_ret
        exact ⟨rfl, HB8.out⟩
      · have HFN := Lib.hid (show reachCheck ⟨Q.l, [Q.l.o], 0⟩ = 0 ∧ (qCount ⟨Q.l, [Q.l.o], 0⟩).2 = 0 ∧ ∃ x, leastOf (farD Q.l.kind) (chs (qLists ⟨Q.l, [Q.l.o], 0⟩)) = some (x, 0) by
          rw [HQQ.out]
          exact origin_fine (two_le two) (by unfold planQ; cases hex <;> simp) (rowOfL_small _ _) (rowOfL_small _ _) (rowOfL_small _ _))
        have HDZ := Lib.hid (fun w' (kp : Keeps (fun _ => True) wr w') n (hn : 0 < n ∧ n ≤ k) cs (hcs : layR.R w' (fun _ => True) cs Q.l) => show DZero w' cs (.slice au n cu) 0 n from fun w'' kp' => by
          have hf := chordsR.keep (slice_front HCH.out (k := n) (by rw [List.length_replicate]; omega)) (kp.trans kp')
          have e : (List.replicate k [Q.l.o]).take n = List.replicate n [Q.l.o] := by rw [List.take_replicate, Nat.min_eq_left hn.2]
          rw [e] at hf
          have := diams_zero (layR.keep hcs kp') hf (by rw [List.length_replicate]; omega) 0 rfl (fun c hc => by rw [List.eq_of_mem_replicate hc]; exact HFN.out)
          rw [List.length_replicate] at this
          exact this)
        go_wp2_with fail
        refine (cost_zero (n := k) (HDZ.out wr (Keeps.refl _ _) k ⟨by omega, Nat.le_refl _⟩ _ HLr.out) (by omega)).mono ?_
        rintro e w8 ⟨rfl, hb⟩
        have HB8 := Lib.hid (hbl.out.trans (hb.mono hbl.out.size))
        have K8 := Lib.hid (Keeps.all hb (fun _ => True))
        clear hb x0 x1 x2 x3 x4 x5
        go_wp2_with fail
        refine (choose_zero (laysR.keep HLYS.out K8.out) (by rw [List.length_replicate]; omega) (n := 1) (by decide) (fun w' cs i hi kp hl => HDZ.out w' (K8.out.trans kp) 1 ⟨by decide, by omega⟩ cs (by rw [List.getElem_replicate] at hl; exact hl))).mono ?_
        rintro e w9 ⟨rfl, hb⟩
        have HB9 := Lib.hid (HB8.out.trans (hb.mono HB8.out.size))
        clear hb
        go_wp2
        go_ret
        exact ⟨rfl, HB9.out⟩
end Go.Proofs.Ytcnpanmkpfgdjaa
