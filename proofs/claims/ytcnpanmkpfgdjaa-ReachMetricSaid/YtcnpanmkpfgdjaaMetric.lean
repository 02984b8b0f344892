/- THE WALK of ReachMetric. -/
import Derived.Test.YtcnpanmkpfgdjaaNear
import Derived.Test.YtcnpanmkpfgdjaaNum
import Derived.Deep.RegionHeld3
namespace Go.Proofs.Ytcnpanmkpfgdjaa
open Go.RowKit Go.Sch

theorem pairD_sym (kind : Int) (a b : Key2) : pairD (farD kind) a b = pairD (farD kind) b a := by
  simp only [pairD, farD]
  split <;> omega
theorem pairD_zero (kind : Int) (a b : Key2) : (pairD (farD kind) a b = 0) ↔ a = b := by
  obtain ⟨a1, a2⟩ := a
  obtain ⟨b1, b2⟩ := b
  simp only [pairD, farD, Prod.mk.injEq]
  split <;> omega
theorem abs_tri (x y z : Int) (h : z = x + y) : (z.natAbs : Int) ≤ x.natAbs + y.natAbs := by omega
theorem pairD_tri (kind : Int) (a b c : Key2) : pairD (farD kind) a c ≤ pairD (farD kind) a b + pairD (farD kind) b c := by
  have h1 := abs_tri (b.1 - a.1) (c.1 - b.1) (c.1 - a.1) (by omega)
  have h2 := abs_tri (b.2 - a.2) (c.2 - b.2) (c.2 - a.2) (by omega)
  have h3 := abs_tri (b.1 - a.1 + (b.2 - a.2)) (c.1 - b.1 + (c.2 - b.2)) (c.1 - a.1 + (c.2 - a.2)) (by omega)
  simp only [pairD, farD]
  generalize ((c.1 - a.1).natAbs : Int) = u1 at *
  generalize ((c.2 - a.2).natAbs : Int) = u2 at *
  generalize ((c.1 - a.1 + (c.2 - a.2)).natAbs : Int) = u3 at *
  generalize ((b.1 - a.1).natAbs : Int) = u4 at *
  generalize ((b.2 - a.2).natAbs : Int) = u5 at *
  generalize ((b.1 - a.1 + (b.2 - a.2)).natAbs : Int) = u6 at *
  generalize ((c.1 - b.1).natAbs : Int) = u7 at *
  generalize ((c.2 - b.2).natAbs : Int) = u8 at *
  generalize ((c.1 - b.1 + (c.2 - b.2)).natAbs : Int) = u9 at *
  split
  · exact Int.max_le.2 ⟨Int.max_le.2 ⟨by omega, by omega⟩, by omega⟩
  · omega
theorem pairD_hex (a b : Key2) : pairD (farD 2) a b ≤ pairD (farD 1) a b := by
  simp only [pairD, farD, if_true, if_neg (show ¬ (1 : Int) = 2 by decide)]
  omega
theorem pairD_hundred (kind : Int) {a b : Key2} (ha : (-100 ≤ a.1 ∧ a.1 ≤ 100) ∧ (-100 ≤ a.2 ∧ a.2 ≤ 100)) (hb : (-100 ≤ b.1 ∧ b.1 ≤ 100) ∧ (-100 ≤ b.2 ∧ b.2 ≤ 100)) : 0 ≤ pairD (farD kind) a b ∧ pairD (farD kind) a b ≤ 400 := by
  simp only [pairD, farD]
  split <;> omega

theorem blk6 {w : World} {g : Nat} {a b c d e f : Value} {t : TypeId} (h : Blk w g #[a, b, c, d, e, f] t) : (w.cell? ⟨g, 0, none⟩ = some a ∧ w.cell? ⟨g, 1, none⟩ = some b) ∧ (w.cell? ⟨g, 2, none⟩ = some c ∧ w.cell? ⟨g, 3, none⟩ = some d) ∧ (w.cell? ⟨g, 4, none⟩ = some e ∧ w.cell? ⟨g, 5, none⟩ = some f) :=
  ⟨⟨by rw [h.cell]; rfl, by rw [h.cell]; rfl⟩, ⟨by rw [h.cell]; rfl, by rw [h.cell]; rfl⟩, ⟨by rw [h.cell]; rfl, by rw [h.cell]; rfl⟩⟩
theorem dist_in (kind : Int) {a b : Key2} (hk : kind = 1 ∨ kind = 2) (ha : (-101 ≤ a.1 ∧ a.1 ≤ 101) ∧ (-101 ≤ a.2 ∧ a.2 ≤ 101)) (hb : (-101 ≤ b.1 ∧ b.1 ≤ 101) ∧ (-101 ≤ b.2 ∧ b.2 ≤ 101)) (w : World) :
    Calls Try.prog 11 #[.int .i64 kind, .agg #[.int .i64 a.1, .int .i64 a.2], .agg #[.int .i64 b.1, .int .i64 b.2]] w fun e w' => e = .returned (.tuple #[.int .i64 (pairD (farD kind) a b), .int .i64 0]) ∧ Below w.heap.size w w' := by
  have h := distance_calls kind a.1 a.2 b.1 b.2 w ⟨wf64_mk (by omega) (by omega), wf64_mk (by omega) (by omega), wf64_mk (by omega) (by omega), wf64_mk (by omega) (by omega)⟩
  have e : distRes kind (a.1, a.2) (b.1, b.2) = (pairD (farD kind) a b, 0) := by
    rw [distRes, if_neg (by omega), if_neg]
    simp [outK, outB]
    omega
  rw [e] at h
  exact h
theorem nb_near (kind : Int) (hk : kind = 1 ∨ kind = 2) (c1 c2 : Int) (h1 : -100 ≤ c1 ∧ c1 ≤ 100) (h2 : -100 ≤ c2 ∧ c2 ≤ 100) : ∀ k ∈ nbOf kind c1 c2, pairD (farD kind) (c1, c2) k = 1 ∧ (-101 ≤ k.1 ∧ k.1 ≤ 101) ∧ (-101 ≤ k.2 ∧ k.2 ≤ 101) := by
  rcases hk with rfl | rfl
  · rw [nb_one]
    intro k hk
    simp only [List.mem_cons, List.not_mem_nil, or_false] at hk
    simp only [pairD, farD, if_neg (show ¬ (1 : Int) = 2 by decide)]
    rcases hk with rfl | rfl | rfl | rfl <;> dsimp only <;> omega
  · rw [nb_two]
    intro k hk
    simp only [List.mem_cons, List.not_mem_nil, or_false] at hk
    simp only [pairD, farD, if_true]
    rcases hk with rfl | rfl | rfl | rfl | rfl | rfl <;> dsimp only <;> omega
set_option maxRecDepth 100000 in
set_option maxHeartbeats 8000000 in
theorem metric_calls (a1 a2 b1 b2 c1 c2 : Int) (w : World) :
    Calls Try.prog 7 #[.agg #[.int .i8 a1, .int .i8 a2], .agg #[.int .i8 b1, .int .i8 b2], .agg #[.int .i8 c1, .int .i8 c2]] w fun e w' => e = .returned (.bool true) ∧ Below w.heap.size w w' := by
  have HK := Lib.hid (fun w' => known_calls w')
  have t1 : -100 ≤ a1.tmod 101 ∧ a1.tmod 101 ≤ 100 := by have := tmod_in a1 (b := 101) (by decide); omega
  have t2 : -100 ≤ a2.tmod 101 ∧ a2.tmod 101 ≤ 100 := by have := tmod_in a2 (b := 101) (by decide); omega
  have t3 : -100 ≤ b1.tmod 101 ∧ b1.tmod 101 ≤ 100 := by have := tmod_in b1 (b := 101) (by decide); omega
  have t4 : -100 ≤ b2.tmod 101 ∧ b2.tmod 101 ≤ 100 := by have := tmod_in b2 (b := 101) (by decide); omega
  have t5 : -100 ≤ c1.tmod 101 ∧ c1.tmod 101 ≤ 100 := by have := tmod_in c1 (b := 101) (by decide); omega
  have t6 : -100 ≤ c2.tmod 101 ∧ c2.tmod 101 ≤ 100 := by have := tmod_in c2 (b := 101) (by decide); omega
  go_enter Try.func7, Try.ntmps7
  go_wp2_with fail
  refine (HK.out _).mono ?_
  rintro e w1 ⟨rfl, hb⟩
  have B1 : Blk w1 w.heap.size #[.int .i8 a1, .int .i8 a2] 36 := (((Blk.new w _ _).keep (Keeps.alloc _ _ (fun _ => True)) trivial).keep (Keeps.alloc _ _ (fun _ => True)) trivial).keep (Keeps.all hb (fun _ => True)) trivial
  have B2 : Blk w1 (w.heap.size + 1) #[.int .i8 b1, .int .i8 b2] 36 := ((Blk.newAt _ _ (by simp)).keep (Keeps.alloc _ _ (fun _ => True)) trivial).keep (Keeps.all hb (fun _ => True)) trivial
  have B3 : Blk w1 (w.heap.size + 1 + 1) #[.int .i8 c1, .int .i8 c2] 36 := (Blk.newAt _ _ (by simp)).keep (Keeps.all hb (fun _ => True)) trivial
  obtain ⟨x1, x2⟩ := blk2 B1
  obtain ⟨x3, x4⟩ := blk2 B2
  obtain ⟨x5, x6⟩ := blk2 B3
  have HB1 := Lib.hid (((((Below.refl _ _).alloc (Nat.le_refl _) _).alloc (by simp) _).alloc (by simp; omega) _).trans (hb.mono (by simp; omega)) : Below w.heap.size w w1)
  clear B1 B2 B3 hb
  go_wp2_with fail
  clear x1 x2 x3 x4 x5 x6
  generalize a1.tmod 101 = p1 at *
  generalize a2.tmod 101 = p2 at *
  generalize b1.tmod 101 = q1 at *
  generalize b2.tmod 101 = q2 at *
  generalize c1.tmod 101 = r1 at *
  generalize c2.tmod 101 = r2 at *
  have HL1 := Lib.hid (Blk.new w1 #[.int .i64 p1, .int .i64 p2, .int .i64 q1, .int .i64 q2, .int .i64 r1, .int .i64 r2] 58)
  have HB1' := Lib.hid (HB1.out.alloc HB1.out.size (.cells #[.int .i64 p1, .int .i64 p2, .int .i64 q1, .int .i64 q2, .int .i64 r1, .int .i64 r2] 58))
  clear HB1 HK
  go_loopw [8, 9, 10, 11, 12, 13, 14, 15, 16, 17, 18, 19, 20, 21] (fun last kind _ _ _ _ _ _ _ _ _ _ _ _ wr => Hid ((kind = .int .i64 1 ∧ last = .int .i64 1000) ∨ (kind = .int .i64 2 ∧ last = .int .i64 (pairD (farD 1) (p1, p2) (q1, q2))) ∨ kind = .int .i64 3) ∧ Hid (Blk wr w1.heap.size #[.int .i64 p1, .int .i64 p2, .int .i64 q1, .int .i64 q2, .int .i64 r1, .int .i64 r2] 58) ∧ Hid (Below w.heap.size w wr)) (fun _ kind _ _ _ _ _ _ _ _ _ _ _ _ _ => (3 - intOf kind).toNat)
  case atStart => exact ⟨.inl ⟨rfl, rfl⟩, HL1, HB1'⟩
  case round =>
    clear HL1 HB1'
    obtain ⟨hcase, HL0, HB0⟩ := hrel
    have hcase' := hcase.out
    clear hcase
    obtain ⟨⟨x1, x2⟩, ⟨x3, x4⟩, ⟨x5, x6⟩⟩ := blk6 HL0.out
    rcases hcase' with ⟨rfl, rfl⟩ | ⟨rfl, rfl⟩ | rfl
    · have H1 := Lib.hid (fun w' => dist_in 1 (a := (p1, p2)) (b := (q1, q2)) (by decide) (by dsimp only; omega) (by dsimp only; omega) w')
      have H2 := Lib.hid (fun w' => dist_in 1 (a := (q1, q2)) (b := (p1, p2)) (by decide) (by dsimp only; omega) (by dsimp only; omega) w')
      have H3 := Lib.hid (fun w' => dist_in 1 (a := (q1, q2)) (b := (r1, r2)) (by decide) (by dsimp only; omega) (by dsimp only; omega) w')
      have H4 := Lib.hid (fun w' => dist_in 1 (a := (p1, p2)) (b := (r1, r2)) (by decide) (by dsimp only; omega) (by dsimp only; omega) w')
      dsimp only at H1 H2 H3 H4
      go_wp2_with fail
      refine (H1.out _).mono ?_
      rintro e W1 ⟨rfl, hb⟩
      have HB1 := Lib.hid (HB0.out.trans (hb.mono HB0.out.size))
      have HL1 := Lib.hid (HL0.out.keep (Keeps.all hb (fun _ => True)) trivial)
      obtain ⟨⟨x1, x2⟩, ⟨x3, x4⟩, ⟨x5, x6⟩⟩ := blk6 HL1.out
      clear hb
      go_wp2_with fail
      refine (H2.out _).mono ?_
      rintro e W2 ⟨rfl, hb⟩
      have HB2 := Lib.hid (HB1.out.trans (hb.mono HB1.out.size))
      have HL2 := Lib.hid (HL1.out.keep (Keeps.all hb (fun _ => True)) trivial)
      obtain ⟨⟨x1, x2⟩, ⟨x3, x4⟩, ⟨x5, x6⟩⟩ := blk6 HL2.out
      clear hb
      go_wp2_with fail
      refine (H3.out _).mono ?_
      rintro e W3 ⟨rfl, hb⟩
      have HB3 := Lib.hid (HB2.out.trans (hb.mono HB2.out.size))
      have HL3 := Lib.hid (HL2.out.keep (Keeps.all hb (fun _ => True)) trivial)
      obtain ⟨⟨x1, x2⟩, ⟨x3, x4⟩, ⟨x5, x6⟩⟩ := blk6 HL3.out
      clear hb
      go_wp2_with fail
      refine (H4.out _).mono ?_
      rintro e W4 ⟨rfl, hb⟩
      have HB4 := Lib.hid (HB3.out.trans (hb.mono HB3.out.size))
      have HL4 := Lib.hid (HL3.out.keep (Keeps.all hb (fun _ => True)) trivial)
      obtain ⟨⟨x1, x2⟩, ⟨x3, x4⟩, ⟨x5, x6⟩⟩ := blk6 HL4.out
      clear hb
      have s1 := pairD_hundred 1 (a := (p1, p2)) (b := (q1, q2)) (by dsimp only; omega) (by dsimp only; omega)
      have s2 := pairD_hundred 1 (a := (q1, q2)) (b := (r1, r2)) (by dsimp only; omega) (by dsimp only; omega)
      have s3 := pairD_tri 1 (p1, p2) (q1, q2) (r1, r2)
      have HZ := Lib.hid (pairD_zero 1 (p1, p2) (q1, q2))
      rw [pairD_sym 1 (q1, q2) (p1, p2)]
      obtain ⟨d1, hd1⟩ : ∃ d, d = pairD (farD 1) (p1, p2) (q1, q2) := ⟨_, rfl⟩
      obtain ⟨d2, hd2⟩ : ∃ d, d = pairD (farD 1) (q1, q2) (r1, r2) := ⟨_, rfl⟩
      obtain ⟨d3, hd3⟩ : ∃ d, d = pairD (farD 1) (p1, p2) (r1, r2) := ⟨_, rfl⟩
      rw [← hd1] at s1 s3 HZ
      rw [← hd2] at s2 s3
      rw [← hd3] at s3
      rw [← hd1, ← hd2, ← hd3]
      have HD1 := Lib.hid hd1
      clear hd1 hd2 hd3 H1 H2 H3 H4
      have hcases : (p1 = q1 ∧ p2 = q2 ∧ d1 = 0) ∨ (p1 = q1 ∧ ¬ p2 = q2 ∧ (d1 == 0) = false) ∨ (¬ p1 = q1 ∧ (d1 == 0) = false) := by
        by_cases hab : p1 = q1 ∧ p2 = q2
        · exact .inl ⟨hab.1, hab.2, HZ.out.2 (by rw [hab.1, hab.2])⟩
        · have hz : (d1 == 0) = false := by
            rw [beq_eq_false_iff_ne]
            intro h
            have := HZ.out.1 h
            simp only [Prod.mk.injEq] at this
            exact hab this
          by_cases hp : p1 = q1
          · exact .inr (.inl ⟨hp, fun h => hab ⟨hp, h⟩, hz⟩)
          · exact .inr (.inr ⟨hp, hz⟩)
      clear HZ
      have HN := Lib.hid (fun w' => neighbours_one p1 p2 (by omega) (by omega) w')
      have HNR := Lib.hid (nb_near 1 (by decide) p1 p2 t1 t2)
      have HD5 := Lib.hid (fun b w' (hb : (-101 ≤ b.1 ∧ b.1 ≤ 101) ∧ (-101 ≤ b.2 ∧ b.2 ≤ 101)) => dist_in 1 (a := (p1, p2)) (b := b) (by decide) (by dsimp only; omega) hb w' : ∀ b : Key2, ∀ w' : World, _)
      dsimp only at HD5
      rcases hcases with ⟨rfl, rfl, rfl⟩ | ⟨rfl, h2, hz⟩ | ⟨h1, hz⟩
      all_goals
        go_wp2_with fail
        refine (HN.out _).mono ?_
        rintro e W5 ⟨u, rfl, hu, hb⟩
        have HU := Lib.hid (keys_of_own (ok := fun _ => True) hu (fun _ _ => trivial) (fun k hk => by have := HNR.out k hk; exact ⟨wf64_mk (by omega) (by omega), wf64_mk (by omega) (by omega)⟩))
        have HB5 := Lib.hid (HB4.out.trans (hb.mono HB4.out.size))
        have HL5 := Lib.hid (HL4.out.keep (Keeps.all hb (fun _ => True)) trivial)
        clear hb hu x1 x2 x3 x4 x5 x6
        obtain ⟨au, cu, rfl, hu1, hu2, -, hu3⟩ := keys_cases HU.out
        have hlen : (nbOf 1 p1 p2).length = 4 := by rw [nb_one]; rfl
        rw [hlen] at hu1 hu3 ⊢
        rcases hu3 with ⟨-, hu3⟩ | ⟨ub, uo, rfl, -, -, hu3⟩
        · omega
        have HC := Lib.hid hu3
        have HLEN := Lib.hid hlen
        unfold maxLen at hu2
        clear hu3 hlen HU
        go_wp2_with fail
        go_loopw [19, 20, 21] (fun i _ _ wr => ∃ k : Nat, k ≤ 4 ∧ i = .int .i64 k ∧ Hid (Blk wr w1.heap.size #[.int .i64 p1, .int .i64 p2, .int .i64 _, .int .i64 _, .int .i64 r1, .int .i64 r2] 58) ∧ Hid (Below w.heap.size w wr) ∧ Hid (Keeps (fun _ => True) W5 wr)) (fun i _ _ _ => 4 - (intOf i).toNat)
        case atStart => exact ⟨0, Nat.zero_le _, rfl, HL5, HB5, Keeps.refl _ _⟩
        case round =>
          obtain ⟨k, hk, rfl, hl, hbl, hkp⟩ := hrel
          by_cases hlt : k < 4
          · obtain ⟨y1, y2⟩ := HC.out k hlt
            obtain ⟨kk, hkk⟩ : ∃ kk, kk = (nbOf 1 p1 p2)[k]?.getD (0, 0) := ⟨_, rfl⟩
            have hmem : kk ∈ nbOf 1 p1 p2 := by rw [hkk, List.getElem?_eq_getElem (by rw [HLEN.out]; exact hlt)]; exact List.getElem_mem _
            obtain ⟨n1, n2⟩ := HNR.out kk hmem
            rw [← hkk] at y1 y2
            have HQ := Lib.hid (HD5.out kk)
            rw [n1] at HQ
            have HN2 := Lib.hid n2
            obtain ⟨⟨x1, x2⟩, -, -⟩ := blk6 hl.out
            have y3 := hkp.out.cell (a := ⟨ub, uo + k * 2, none⟩) trivial y1
            have y4 := hkp.out.cell (a := ⟨ub, uo + k * 2 + 1, none⟩) trivial y2
            clear y1 y2 hkk hmem n1 n2
            have i1 : (0 : Int) ≤ (k : Int) ∧ (k : Int) < 4 := by omega
            go_wp2_with fail
            go_region_held3 (fun w' => w'.cell? ⟨w1.heap.size, 0, none⟩ = some (.int .i64 p1) ∧ w'.cell? ⟨w1.heap.size, 1, none⟩ = some (.int .i64 p2) ∧ w'.cell? ⟨ub, uo + k * 2, none⟩ = some (.int .i64 kk.1) ∧ w'.cell? ⟨ub, uo + k * 2 + 1, none⟩ = some (.int .i64 kk.2)) (first | exact ⟨x1, x2, y3, y4⟩ | exact ⟨z1, z2, z3, z4⟩) (first | (go_at_call 11; refine (HQ.out _ HN2.out).mono ?_; rintro e W6 ⟨rfl, hb⟩; have z1 := (Keeps.all hb (fun _ => True)).cell (a := ⟨w1.heap.size, 0, none⟩) trivial x1; have z2 := (Keeps.all hb (fun _ => True)).cell (a := ⟨w1.heap.size, 1, none⟩) trivial x2; have z3 := (Keeps.all hb (fun _ => True)).cell (a := ⟨ub, uo + k * 2, none⟩) trivial y3; have z4 := (Keeps.all hb (fun _ => True)).cell (a := ⟨ub, uo + k * 2 + 1, none⟩) trivial y4; have HB6 := Lib.hid hb; clear hb))
            go_wp2
            go_roundw
            case rel => exact ⟨k + 1, by omega, by go_num, hl.out.keep (Keeps.all HB6.out (fun _ => True)) trivial, (hbl.out.drew).trans (HB6.out.mono hbl.out.size), hkp.out.trans (Keeps.all HB6.out (fun _ => True))⟩
            case measure => simp [intOf]; omega
          · have : k = 4 := by omega
            subst this
            go_wp2
            go_roundw
            case rel => exact ⟨.inr (.inl ⟨rfl, by rw [HD1.out]⟩), hl, hbl⟩
            case measure => simp [intOf]
    · have H1 := Lib.hid (fun w' => dist_in 2 (a := (p1, p2)) (b := (q1, q2)) (by decide) (by dsimp only; omega) (by dsimp only; omega) w')
      have H2 := Lib.hid (fun w' => dist_in 2 (a := (q1, q2)) (b := (p1, p2)) (by decide) (by dsimp only; omega) (by dsimp only; omega) w')
      have H3 := Lib.hid (fun w' => dist_in 2 (a := (q1, q2)) (b := (r1, r2)) (by decide) (by dsimp only; omega) (by dsimp only; omega) w')
      have H4 := Lib.hid (fun w' => dist_in 2 (a := (p1, p2)) (b := (r1, r2)) (by decide) (by dsimp only; omega) (by dsimp only; omega) w')
      dsimp only at H1 H2 H3 H4
      go_wp2_with fail
      refine (H1.out _).mono ?_
      rintro e W1 ⟨rfl, hb⟩
      have HB1 := Lib.hid (HB0.out.trans (hb.mono HB0.out.size))
      have HL1 := Lib.hid (HL0.out.keep (Keeps.all hb (fun _ => True)) trivial)
      obtain ⟨⟨x1, x2⟩, ⟨x3, x4⟩, ⟨x5, x6⟩⟩ := blk6 HL1.out
      clear hb
      go_wp2_with fail
      refine (H2.out _).mono ?_
      rintro e W2 ⟨rfl, hb⟩
      have HB2 := Lib.hid (HB1.out.trans (hb.mono HB1.out.size))
      have HL2 := Lib.hid (HL1.out.keep (Keeps.all hb (fun _ => True)) trivial)
      obtain ⟨⟨x1, x2⟩, ⟨x3, x4⟩, ⟨x5, x6⟩⟩ := blk6 HL2.out
      clear hb
      go_wp2_with fail
      refine (H3.out _).mono ?_
      rintro e W3 ⟨rfl, hb⟩
      have HB3 := Lib.hid (HB2.out.trans (hb.mono HB2.out.size))
      have HL3 := Lib.hid (HL2.out.keep (Keeps.all hb (fun _ => True)) trivial)
      obtain ⟨⟨x1, x2⟩, ⟨x3, x4⟩, ⟨x5, x6⟩⟩ := blk6 HL3.out
      clear hb
      go_wp2_with fail
      refine (H4.out _).mono ?_
      rintro e W4 ⟨rfl, hb⟩
      have HB4 := Lib.hid (HB3.out.trans (hb.mono HB3.out.size))
      have HL4 := Lib.hid (HL3.out.keep (Keeps.all hb (fun _ => True)) trivial)
      obtain ⟨⟨x1, x2⟩, ⟨x3, x4⟩, ⟨x5, x6⟩⟩ := blk6 HL4.out
      clear hb
      have s1 := pairD_hundred 2 (a := (p1, p2)) (b := (q1, q2)) (by dsimp only; omega) (by dsimp only; omega)
      have s2 := pairD_hundred 2 (a := (q1, q2)) (b := (r1, r2)) (by dsimp only; omega) (by dsimp only; omega)
      have s3 := pairD_tri 2 (p1, p2) (q1, q2) (r1, r2)
      have s4 := pairD_hex (p1, p2) (q1, q2)
      have HZ := Lib.hid (pairD_zero 2 (p1, p2) (q1, q2))
      rw [pairD_sym 2 (q1, q2) (p1, p2)]
      obtain ⟨d1, hd1⟩ : ∃ d, d = pairD (farD 2) (p1, p2) (q1, q2) := ⟨_, rfl⟩
      obtain ⟨d2, hd2⟩ : ∃ d, d = pairD (farD 2) (q1, q2) (r1, r2) := ⟨_, rfl⟩
      obtain ⟨d3, hd3⟩ : ∃ d, d = pairD (farD 2) (p1, p2) (r1, r2) := ⟨_, rfl⟩
      rw [← hd1] at s1 s3 HZ s4
      rw [← hd2] at s2 s3
      rw [← hd3] at s3
      rw [← hd1, ← hd2, ← hd3]
      obtain ⟨d0, hd0⟩ : ∃ d, d = pairD (farD 1) (p1, p2) (q1, q2) := ⟨_, rfl⟩
      rw [← hd0] at s4
      rw [← hd0]
      clear hd0
      have HD1 := Lib.hid hd1
      clear hd1 hd2 hd3 H1 H2 H3 H4
      have hcases : (p1 = q1 ∧ p2 = q2 ∧ d1 = 0) ∨ (p1 = q1 ∧ ¬ p2 = q2 ∧ (d1 == 0) = false) ∨ (¬ p1 = q1 ∧ (d1 == 0) = false) := by
        by_cases hab : p1 = q1 ∧ p2 = q2
        · exact .inl ⟨hab.1, hab.2, HZ.out.2 (by rw [hab.1, hab.2])⟩
        · have hz : (d1 == 0) = false := by
            rw [beq_eq_false_iff_ne]
            intro h
            have := HZ.out.1 h
            simp only [Prod.mk.injEq] at this
            exact hab this
          by_cases hp : p1 = q1
          · exact .inr (.inl ⟨hp, fun h => hab ⟨hp, h⟩, hz⟩)
          · exact .inr (.inr ⟨hp, hz⟩)
      clear HZ
      have HN := Lib.hid (fun w' => neighbours_two p1 p2 (by omega) (by omega) w')
      have HNR := Lib.hid (nb_near 2 (by decide) p1 p2 t1 t2)
      have HD5 := Lib.hid (fun b w' (hb : (-101 ≤ b.1 ∧ b.1 ≤ 101) ∧ (-101 ≤ b.2 ∧ b.2 ≤ 101)) => dist_in 2 (a := (p1, p2)) (b := b) (by decide) (by dsimp only; omega) hb w' : ∀ b : Key2, ∀ w' : World, _)
      dsimp only at HD5
      rcases hcases with ⟨rfl, rfl, rfl⟩ | ⟨rfl, h2, hz⟩ | ⟨h1, hz⟩
      all_goals
        go_wp2_with fail
        refine (HN.out _).mono ?_
        rintro e W5 ⟨u, rfl, hu, hb⟩
        have HU := Lib.hid (keys_of_own (ok := fun _ => True) hu (fun _ _ => trivial) (fun k hk => by have := HNR.out k hk; exact ⟨wf64_mk (by omega) (by omega), wf64_mk (by omega) (by omega)⟩))
        have HB5 := Lib.hid (HB4.out.trans (hb.mono HB4.out.size))
        have HL5 := Lib.hid (HL4.out.keep (Keeps.all hb (fun _ => True)) trivial)
        clear hb hu x1 x2 x3 x4 x5 x6
        obtain ⟨au, cu, rfl, hu1, hu2, -, hu3⟩ := keys_cases HU.out
        have hlen : (nbOf 2 p1 p2).length = 6 := by rw [nb_two]; rfl
        rw [hlen] at hu1 hu3 ⊢
        rcases hu3 with ⟨-, hu3⟩ | ⟨ub, uo, rfl, -, -, hu3⟩
        · omega
        have HC := Lib.hid hu3
        have HLEN := Lib.hid hlen
        unfold maxLen at hu2
        clear hu3 hlen HU
        go_wp2_with fail
        go_loopw [19, 20, 21] (fun i _ _ wr => ∃ k : Nat, k ≤ 6 ∧ i = .int .i64 k ∧ Hid (Blk wr w1.heap.size #[.int .i64 p1, .int .i64 p2, .int .i64 _, .int .i64 _, .int .i64 r1, .int .i64 r2] 58) ∧ Hid (Below w.heap.size w wr) ∧ Hid (Keeps (fun _ => True) W5 wr)) (fun i _ _ _ => 6 - (intOf i).toNat)
        case atStart => exact ⟨0, Nat.zero_le _, rfl, HL5, HB5, Keeps.refl _ _⟩
        case round =>
          obtain ⟨k, hk, rfl, hl, hbl, hkp⟩ := hrel
          by_cases hlt : k < 6
          · obtain ⟨y1, y2⟩ := HC.out k hlt
            obtain ⟨kk, hkk⟩ : ∃ kk, kk = (nbOf 2 p1 p2)[k]?.getD (0, 0) := ⟨_, rfl⟩
            have hmem : kk ∈ nbOf 2 p1 p2 := by rw [hkk, List.getElem?_eq_getElem (by rw [HLEN.out]; exact hlt)]; exact List.getElem_mem _
            obtain ⟨n1, n2⟩ := HNR.out kk hmem
            rw [← hkk] at y1 y2
            have HQ := Lib.hid (HD5.out kk)
            rw [n1] at HQ
            have HN2 := Lib.hid n2
            obtain ⟨⟨x1, x2⟩, -, -⟩ := blk6 hl.out
            have y3 := hkp.out.cell (a := ⟨ub, uo + k * 2, none⟩) trivial y1
            have y4 := hkp.out.cell (a := ⟨ub, uo + k * 2 + 1, none⟩) trivial y2
            clear y1 y2 hkk hmem n1 n2
            have i1 : (0 : Int) ≤ (k : Int) ∧ (k : Int) < 6 := by omega
            go_wp2_with fail
            go_region_held3 (fun w' => w'.cell? ⟨w1.heap.size, 0, none⟩ = some (.int .i64 p1) ∧ w'.cell? ⟨w1.heap.size, 1, none⟩ = some (.int .i64 p2) ∧ w'.cell? ⟨ub, uo + k * 2, none⟩ = some (.int .i64 kk.1) ∧ w'.cell? ⟨ub, uo + k * 2 + 1, none⟩ = some (.int .i64 kk.2)) (first | exact ⟨x1, x2, y3, y4⟩ | exact ⟨z1, z2, z3, z4⟩) (first | (go_at_call 11; refine (HQ.out _ HN2.out).mono ?_; rintro e W6 ⟨rfl, hb⟩; have z1 := (Keeps.all hb (fun _ => True)).cell (a := ⟨w1.heap.size, 0, none⟩) trivial x1; have z2 := (Keeps.all hb (fun _ => True)).cell (a := ⟨w1.heap.size, 1, none⟩) trivial x2; have z3 := (Keeps.all hb (fun _ => True)).cell (a := ⟨ub, uo + k * 2, none⟩) trivial y3; have z4 := (Keeps.all hb (fun _ => True)).cell (a := ⟨ub, uo + k * 2 + 1, none⟩) trivial y4; have HB6 := Lib.hid hb; clear hb))
            go_wp2
            go_roundw
            case rel => exact ⟨k + 1, by omega, by go_num, hl.out.keep (Keeps.all HB6.out (fun _ => True)) trivial, (hbl.out.drew).trans (HB6.out.mono hbl.out.size), hkp.out.trans (Keeps.all HB6.out (fun _ => True))⟩
            case measure => simp [intOf]; omega
          · have : k = 6 := by omega
            subst this
            go_wp2
            go_roundw
            case rel => exact ⟨.inr (.inr rfl), hl, hbl⟩
            case measure => simp [intOf]
    · go_wp2
      go_ret
      exact ⟨rfl, HB0.out⟩
end Go.Proofs.Ytcnpanmkpfgdjaa
