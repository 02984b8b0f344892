/- Contracts of package reach: between, diameter, Distance, Diameter. -/
import Derived.Test.YtcnpanmkpfgdjaaFar
namespace Go.Proofs.Ytcnpanmkpfgdjaa
open Go.RowKit Go.Sch

/-- F measures the distance D. -/
structure FarOk (F : Nat) (D : Int → Int → Int) : Prop where
  enter : ∀ (xs : Array Value) (w : World), (callFunc F xs).run Try.prog w = .ok (.enter F xs) w
  calls : ∀ x y w, -10000000000 ≤ x → x ≤ 10000000000 → -10000000000 ≤ y → y ≤ 10000000000 → Calls Try.prog F #[.int .i64 x, .int .i64 y] w fun e w' => e = .returned (.int .i64 (D x y)) ∧ w = w'
  bd : ∀ x y, -10000000000 ≤ x → x ≤ 10000000000 → -10000000000 ≤ y → y ≤ 10000000000 → 0 ≤ D x y ∧ D x y ≤ 20000000000
def farD (kind x y : Int) : Int := if kind = 2 then max (max (x.natAbs : Int) (y.natAbs : Int)) ((x + y).natAbs : Int) else (x.natAbs : Int) + (y.natAbs : Int)
theorem enters_square : ∀ (xs : Array Value) (w : World), (callFunc 51 xs).run Try.prog w = .ok (.enter 51 xs) w := enters Try.func51 (by kernel_rfl) (by kernel_rfl)
theorem enters_hex : ∀ (xs : Array Value) (w : World), (callFunc 50 xs).run Try.prog w = .ok (.enter 50 xs) w := enters Try.func50 (by kernel_rfl) (by kernel_rfl)
theorem far_ok (kind : Int) : FarOk (farF kind) (farD kind) := by
  by_cases h : kind = 2
  · subst h
    exact ⟨enters_hex, fun x y w h1 h2 h3 h4 => hex_calls x y w h1 h2 h3 h4, fun x y h1 h2 h3 h4 => by simp only [farD, if_true]; omega⟩
  · have e : farF kind = 51 := by rw [farF, if_neg h]
    rw [e]
    refine ⟨enters_square, fun x y w h1 h2 h3 h4 => ?_, fun x y h1 h2 h3 h4 => by simp only [farD, if_neg h]; omega⟩
    simp only [farD, if_neg h]
    exact square_calls x y w h1 h2 h3 h4

def keyIn (k : Int × Int) : Prop := (-1000200 ≤ k.1 ∧ k.1 ≤ 1000200) ∧ (-1000200 ≤ k.2 ∧ k.2 ≤ 1000200)
theorem between_calls {F : Nat} {D : Int → Int → Int} (hF : FarOk F D) (a1 a2 b1 b2 : Int) (ha : keyIn (a1, a2)) (hb : keyIn (b1, b2)) (w : World) :
    Calls Try.prog 32 #[.func (.func F) #[] #[], .agg #[.int .i64 a1, .int .i64 a2], .agg #[.int .i64 b1, .int .i64 b2]] w fun e w' => e = .returned (.int .i64 (D (b1 - a1) (b2 - a2))) ∧ Below w.heap.size w w' := by
  have HC := Lib.hid hF.calls
  have HE := hF.enter
  obtain ⟨⟨p1, p2⟩, ⟨p3, p4⟩⟩ := ha
  obtain ⟨⟨q1, q2⟩, ⟨q3, q4⟩⟩ := hb
  dsimp only at p1 p2 p3 p4 q1 q2 q3 q4
  clear hF
  go_enter Try.func32, Try.ntmps32
  go_wp2_with fail
  refine (HC.out _ _ _ (by omega) (by omega) (by omega) (by omega)).mono ?_
  rintro e w' ⟨rfl, rfl⟩
  go_wp2
  go_ret
  exact ⟨rfl, ((Below.refl _ _).alloc (Nat.le_refl _) _).alloc (by simp) _⟩

def pairD (D : Int → Int → Int) (a b : Int × Int) : Int := D (b.1 - a.1) (b.2 - a.2)
def rowMax (D : Int → Int → Int) (a : Int × Int) (l : List (Int × Int)) (n : Int) : Int := l.foldl (fun n b => max n (pairD D a b)) n
theorem rowMax_snoc (D : Int → Int → Int) (a b : Int × Int) (l : List (Int × Int)) (n : Int) : rowMax D a (l ++ [b]) n = max (rowMax D a l n) (pairD D a b) := by simp [rowMax]
def diamTo (D : Int → Int → Int) (l : List (Int × Int)) : Nat → Int
  | 0 => 0
  | i + 1 => rowMax D (l[i]?.getD (0, 0)) (l.take i) (diamTo D l i)
def diam (D : Int → Int → Int) (l : List (Int × Int)) : Int := diamTo D l l.length

theorem pairD_bd {F : Nat} {D : Int → Int → Int} (hF : FarOk F D) {a b : Int × Int} (ha : keyIn a) (hb : keyIn b) : 0 ≤ pairD D a b ∧ pairD D a b ≤ 20000000000 := by
  obtain ⟨⟨p1, p2⟩, ⟨p3, p4⟩⟩ := ha
  obtain ⟨⟨q1, q2⟩, ⟨q3, q4⟩⟩ := hb
  exact hF.bd _ _ (by omega) (by omega) (by omega) (by omega)

set_option maxRecDepth 100000 in
set_option maxHeartbeats 2000000 in
theorem diameter_calls {F : Nat} {D : Int → Int → Int} (hF : FarOk F D) {w : World} {ok : Nat → Prop} {v : Value} {l : List (Int × Int)} (h : keysR.R w ok [v] l) (hk : ∀ i : Nat, keyIn (l[i]?.getD (0, 0))) :
    Calls Try.prog 34 #[.func (.func F) #[] #[], v] w fun e w' => e = .returned (.int .i64 (diam D l)) ∧ Below w.heap.size w w' := by
  obtain ⟨ao, cap, rfl, h2, h3, -, h4⟩ := keys_cases h
  clear h
  unfold maxLen at h3
  rcases h4 with ⟨h4, h5⟩ | ⟨b, off, rfl, -, h0, hc⟩
  · have HR := Lib.hid (show (0 : Int) = diam D l by rw [h4]; rfl)
    rw [h5]
    clear h4 h5 h2
    go_enter Try.func34, Try.ntmps34
    go_wp2
    refine wp_loop_rounds 1 ?_
    rw [rounds_succ]
    go_wp2
    go_ret
    exact ⟨ret_int HR.out, Below.refl _ _⟩
  · have HC := Lib.hid hc
    have HK := Lib.hid hk
    have HF := Lib.hid hF
    clear hc hk hF
    have HD := Lib.hid (show diam D l = diamTo D l l.length from rfl)
    obtain ⟨n, hn⟩ : ∃ n, n = l.length := ⟨_, rfl⟩
    rw [← hn] at h2 h0 HC HD ⊢
    have HN := Lib.hid hn
    clear hn
    go_enter Try.func34, Try.ntmps34
    go_wp2
    go_loopw [5, 6, 7, 12] (fun m _ _ i wr => ∃ k : Nat, k ≤ n ∧ i = .int .i64 k ∧ Hid (Below w.heap.size w wr) ∧ m = .int .i64 (diamTo D l k)) (fun _ _ _ i _ => n - (intOf i).toNat)
    case atStart => exact ⟨0, Nat.zero_le _, rfl, Below.refl _ _, rfl⟩
    case round =>
      obtain ⟨k, hk, rfl, hbl, rfl⟩ := hrel
      by_cases hlt : k < n
      · have X := HC.out k hlt
        have X0 := (Keeps.all hbl.out (fun _ => True)).cell (a := ⟨b, off + k * 2, none⟩) trivial X.1
        have X1 := (Keeps.all hbl.out (fun _ => True)).cell (a := ⟨b, off + k * 2 + 1, none⟩) trivial X.2
        clear X
        have hka := HK.out k
        obtain ⟨a, hA⟩ : ∃ a, a = l[k]?.getD (0, 0) := ⟨_, rfl⟩
        rw [← hA] at X0 X1 hka
        have HA := Lib.hid hA
        have HKA := Lib.hid hka
        clear hA hka
        have HDK := Lib.hid (show diamTo D l (k + 1) = rowMax D a (l.take k) (diamTo D l k) by rw [diamTo, ← HA.out])
        have i1 : (0 : Int) ≤ (k : Int) ∧ (k : Int) ≤ (cap : Int) := by omega
        go_wp2
        obtain ⟨wo, hwo⟩ : ∃ wo : World, wo = wr := ⟨_, rfl⟩
        subst hwo
        have hbo : Blk (wo.alloc (.cells #[.int .i64 a.1, .int .i64 a.2] 23)) wo.heap.size #[.int .i64 a.1, .int .i64 a.2] 23 := Blk.new _ _ _
        have HBO := Lib.hid hbo
        have HBL := Lib.hid (hbl.out.alloc hbl.out.size (.cells #[.int .i64 a.1, .int .i64 a.2] 23))
        have hso : w.heap.size ≤ wo.heap.size := hbl.out.size
        clear hbo hbl X0 X1
        go_loopw [5, 9, 21] (fun m _ i wr => ∃ j : Nat, j ≤ k ∧ i = .int .i64 j ∧ Hid (Below w.heap.size w wr) ∧ Hid (Blk wr wo.heap.size #[.int .i64 a.1, .int .i64 a.2] 23) ∧ m = .int .i64 (rowMax D a (l.take j) (diamTo D l k))) (fun _ _ i _ => k - (intOf i).toNat)
        case atStart => exact ⟨0, Nat.zero_le _, rfl, HBL, HBO, rfl⟩
        case round =>
          obtain ⟨j, hj, rfl, hbl, hbk, rfl⟩ := hrel
          by_cases hlj : j < k
          · have X := HC.out j (by omega)
            have X0 := (Keeps.all hbl.out (fun _ => True)).cell (a := ⟨b, off + j * 2, none⟩) trivial X.1
            have X1 := (Keeps.all hbl.out (fun _ => True)).cell (a := ⟨b, off + j * 2 + 1, none⟩) trivial X.2
            have Y0 : wr.cell? ⟨wo.heap.size, 0, none⟩ = some (.int .i64 a.1) := by rw [hbk.out.cell]; rfl
            have Y1 : wr.cell? ⟨wo.heap.size, 1, none⟩ = some (.int .i64 a.2) := by rw [hbk.out.cell]; rfl
            have hlo : wo.heap.size < wr.heap.size := hbk.out.lt
            clear X
            have hkb := HK.out j
            have hts : l.take (j + 1) = l.take j ++ [l[j]?.getD (0, 0)] := by
              rw [List.take_succ_eq_append_getElem (by rw [← HN.out]; omega), List.getElem?_eq_getElem (by rw [← HN.out]; omega)]; rfl
            obtain ⟨bk, hB⟩ : ∃ bk, bk = l[j]?.getD (0, 0) := ⟨_, rfl⟩
            rw [← hB] at X0 X1 hkb hts
            have HKB := Lib.hid hkb
            obtain ⟨cur, hcur⟩ : ∃ cur, cur = rowMax D a (l.take j) (diamTo D l k) := ⟨_, rfl⟩
            have HM := Lib.hid (show rowMax D a (l.take (j + 1)) (diamTo D l k) = max cur (pairD D a bk) by rw [hts, rowMax_snoc, hcur])
            rw [← hcur]
            clear hB hkb hts hcur
            go_wp2_with (go_at_call 32; refine (between_calls HF.out _ _ _ _ HKA.out HKB.out _).mono ?_; rintro e w3 ⟨rfl, hb3⟩; have HB3 := Lib.hid hb3; clear hb3)
            all_goals
              go_roundw
              case rel =>
                refine ⟨j + 1, by omega, by go_num, ?_, ?_, ?_⟩
                · exact (hbl.out.alloc (by omega) _).trans (HB3.out.mono (by simp; omega))
                · exact (hbk.out.keep (Keeps.alloc _ _ (fun _ => True)) trivial).keep (Keeps.all HB3.out (fun _ => True)) trivial
                · rw [HM.out]; congr 1; unfold pairD at *; omega
              case measure => simp [intOf]; omega
          · have hjk : j = k := by omega
            subst hjk
            go_wp2
            go_roundw
            case rel => exact ⟨j + 1, by omega, by go_num, hbl, by rw [HDK.out]⟩
            case measure => simp [intOf]; omega
      · have hkn : k = n := by omega
        subst hkn
        go_wp2
        go_ret
        exact ⟨ret_int HD.out.symm, hbl.out⟩
end Go.Proofs.Ytcnpanmkpfgdjaa
