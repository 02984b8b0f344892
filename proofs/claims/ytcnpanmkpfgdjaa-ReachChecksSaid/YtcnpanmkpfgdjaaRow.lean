/- Contracts of package row's checks and of slices.ContainsFunc, slices.Equal over rows of ints. -/
import Derived.Test.YtcnpanmkpfgdjaaBase
import Derived.Test.YtcnpanmkpfgdjaaProg
namespace Go.Proofs.Ytcnpanmkpfgdjaa
open Go.RowKit Go.Sch

def fitsB (n : Int) : Bool := decide (-1000000000 ≤ n) && decide (n ≤ 1000000000)
theorem fitsB_tt {n : Int} (h1 : (-1000000000 : Int) ≤ n) (h2 : n ≤ 1000000000) : true = fitsB n := by simp [fitsB, *]
theorem fitsB_hi {n : Int} (h2 : 1000000000 < n) : false = fitsB n := by simp [fitsB]; omega
theorem fitsB_lo {n : Int} (h2 : n < -1000000000) : false = fitsB n := by simp [fitsB]; omega
theorem fits_any (n : Int) (w : World) :
    Calls Try.prog 57 #[.int .i64 n] w fun e w' => e = .returned (.bool (fitsB n)) ∧ w = w' := by
  by_cases h1 : (-1000000000 : Int) ≤ n
  · by_cases h2 : n ≤ 1000000000
    · have H := Lib.hid (fitsB_tt h1 h2)
      go_enter Try.func57, Try.ntmps57
      go_wp2
      go_ret
      exact ⟨ret_bool H.out, rfl⟩
    · have H := Lib.hid (fitsB_hi (Int.not_le.1 h2))
      go_enter Try.func57, Try.ntmps57
      go_wp2
      go_ret
      exact ⟨ret_bool H.out, rfl⟩
  · have H := Lib.hid (fitsB_lo (Int.not_le.1 h1))
    go_enter Try.func57, Try.ntmps57
    go_wp2
    go_ret
    exact ⟨ret_bool H.out, rfl⟩
theorem check1_any (n : Int) (w : World) :
    Calls Try.prog 56 #[.int .i64 n] w fun e w' => e = .returned (.bool (!fitsB n)) ∧ w = w' := by
  go_enter Try.func56, Try.ntmps56
  go_wp2_with (go_at_call 57; refine (fits_any _ _).mono ?_; rintro e w' ⟨rfl, rfl⟩)
  go_ret
  exact ⟨rfl, rfl⟩

def IdxPost (p : Nat → Bool) (n : Nat) (J : World → Prop) (e : Ending) (w' : World) : Prop :=
  ∃ r : Int, e = .returned (.int .i64 r) ∧ ((r = -1 ∧ NoneYet p n) ∨ ∃ k, k < n ∧ r = (k : Int) ∧ p k = true ∧ NoneYet p k) ∧ J w'

set_option maxHeartbeats 400000 in
theorem indexFunc_some (p : Nat → Bool) (g : Nat) (fc : Array Value) (J : World → Prop) (c : Nat → Value) (b off n cap : Nat)
    (hp : ∀ i, i < n → ∀ w, J w → Calls Try.prog g (#[c i] ++ fc) w fun e w' => e = .returned (.bool (p i)) ∧ J w')
    (hg : ∀ (xs : Array Value) (w : World), (callFunc g xs).run Try.prog w = .ok (.enter g xs) w)
    (hc : ∀ w, J w → ∀ i, i < n → w.cell? ⟨b, off + i, none⟩ = some (c i)) (hmax : n ≤ maxLen) (w : World) (hJ : J w) :
    Calls Try.prog 61 #[.slice (some ⟨b, off, none⟩) n cap, .func (.func g) #[] fc] w (IdxPost p n J) := by
  unfold maxLen at hmax
  have HP := Lib.hid hp
  have HC := Lib.hid hc
  have HJ := Lib.hid hJ
  clear hp hc hJ
  go_enter Try.func61, Try.ntmps61
  go_wp2
  go_loopw [5, 8] (fun _ i wr => ∃ k : Nat, k ≤ n ∧ i = .int .i64 k ∧ Hid (NoneYet p k) ∧ Hid (J wr)) (fun _ i _ => n - (intOf i).toNat)
  case atStart => exact ⟨0, Nat.zero_le _, rfl, NoneYet.zero p, HJ⟩
  case round =>
    obtain ⟨k, hk, rfl, hno, hj⟩ := hrel
    by_cases hlt : k < n
    · have hcell := HC.out wr hj k hlt
      go_wp2_with fail
      refine (HP.out k hlt wr hj).mono ?_
      rintro e w' ⟨rfl, hj'⟩
      have hj'' := Lib.hid hj'
      clear hj'
      cases hb : p k
      · have hno' := hno.succ hb
        go_wp2
        go_roundw
        case rel => exact ⟨k + 1, by omega, by go_num, hno', hj''⟩
        case measure => simp [intOf]; omega
      · go_wp2
        go_ret
        exact ⟨k, rfl, .inr ⟨k, hlt, rfl, hb, hno⟩, hj''⟩
    · have : k = n := by omega
      subst this
      go_wp2
      go_ret
      exact ⟨-1, rfl, .inl ⟨rfl, hno⟩, hj⟩
theorem indexFunc_none (p : Nat → Bool) (fv : Value) (J : World → Prop) (ao : Option Addr) (cap : Nat) (w : World) (hJ : J w) :
    Calls Try.prog 61 #[.slice ao 0 cap, fv] w (IdxPost p 0 J) := by
  have HJ := Lib.hid hJ
  clear hJ
  go_enter Try.func61, Try.ntmps61
  go_wp2
  refine wp_loop_rounds 1 ?_
  rw [rounds_succ]
  go_wp2
  go_ret
  exact ⟨-1, rfl, .inl ⟨rfl, NoneYet.zero p⟩, HJ⟩

/-- ContainsFunc over a row of ints: a function that only computes. -/
theorem containsFunc_any (q : Int → Bool) (g : Nat) (hq : ∀ n w, Calls Try.prog g #[.int .i64 n] w fun e w' => e = .returned (.bool (q n)) ∧ w = w')
    (hg : ∀ (xs : Array Value) (w : World), (callFunc g xs).run Try.prog w = .ok (.enter g xs) w) {w : World} {ok : Nat → Prop} {v : Value} {zs : List Int} (h : (sliceR (intR .i64)).R w ok [v] zs) :
    Calls Try.prog 55 #[v, .func (.func g) #[] #[]] w fun e w' => e = .returned (.bool (zs.any q)) ∧ w = w' := by
  obtain ⟨ao, cap, rfl, h2, h3, hwf, h4⟩ := ints_cases h
  clear h
  have H1 : Calls Try.prog 61 #[.slice ao zs.length cap, .func (.func g) #[] #[]] w (IdxPost (fun i => q (zs[i]?.getD 0)) zs.length (· = w)) := by
    rcases h4 with ⟨h4, h5⟩ | ⟨b, off, rfl, _, _, hc⟩
    · subst h4
      exact indexFunc_none _ _ _ _ _ _ rfl
    · exact indexFunc_some _ g #[] _ (fun i => .int .i64 (zs[i]?.getD 0)) b off _ cap (fun i hi w' hw' => by subst hw'; exact (hq _ _).mono fun e w'' ⟨he, hw⟩ => ⟨he, hw.symm⟩) hg (fun w' hw' i hi => by subst hw'; exact hc i hi) (by omega) w rfl
  have H1' := Lib.hid H1
  clear H1 h4 hg
  have fin : ∀ r : Int, ((r = -1 ∧ NoneYet (fun i => q (zs[i]?.getD 0)) zs.length) ∨ ∃ k, k < zs.length ∧ r = (k : Int) ∧ q (zs[k]?.getD 0) = true ∧ NoneYet (fun i => q (zs[i]?.getD 0)) k) → decide (0 ≤ r) = zs.any q := by
    rintro r (⟨rfl, hn⟩ | ⟨k, hk, rfl, ht, _⟩)
    · rw [eq_comm, show decide ((0 : Int) ≤ -1) = false from rfl, List.any_eq_false]
      intro x hx
      obtain ⟨i, hi, rfl⟩ := List.getElem_of_mem hx
      have := hn i hi
      simp only [List.getElem?_eq_getElem hi, Option.getD_some] at this
      simp [this]
    · rw [eq_comm, show decide ((0 : Int) ≤ (k : Int)) = true from by simp, List.any_eq_true]
      refine ⟨zs[k], List.getElem_mem hk, ?_⟩
      simpa only [List.getElem?_eq_getElem hk, Option.getD_some] using ht
  have FIN := Lib.hid fin
  clear fin
  go_enter Try.func55, Try.ntmps55
  go_wp2_with fail
  refine H1'.out.mono ?_
  rintro e w' ⟨r, rfl, hr, rfl⟩
  have hr' := Lib.hid (FIN.out r hr)
  clear hr
  go_wp2
  go_ret
  exact ⟨ret_bool hr'.out, rfl⟩

/-- The error of a row. -/
def rowCheck (zs : List Int) : Int := if 64 < zs.length ∨ zs.any (fun n => !fitsB n) = true then 4 else 0
theorem rowCheck_long {zs : List Int} (h : 64 < zs.length) : 4 = rowCheck zs := by simp [rowCheck, h]
theorem rowCheck_any {zs : List Int} (h : zs.any (fun n => !fitsB n) = true) : 4 = rowCheck zs := by simp only [rowCheck, h, or_true, if_true]
theorem rowCheck_ok {zs : List Int} (h : ¬ 64 < zs.length) (h' : zs.any (fun n => !fitsB n) = false) : 0 = rowCheck zs := by simp only [rowCheck, h, h']; rfl
theorem enters_check1 : ∀ (xs : Array Value) (w : World), (callFunc 56 xs).run Try.prog w = .ok (.enter 56 xs) w := enters Try.func56 (by kernel_rfl) (by kernel_rfl)
theorem rowCheck_calls {w : World} {ok : Nat → Prop} {v : Value} {zs : List Int} (h : (sliceR (intR .i64)).R w ok [v] zs) :
    Calls Try.prog 43 #[v] w fun e w' => e = .returned (.int .i64 (rowCheck zs)) ∧ w = w' := by
  have H := Lib.hid (containsFunc_any (fun n => !fitsB n) 56 check1_any enters_check1 h)
  obtain ⟨ao, cap, rfl, h2, h3, hwf, h4⟩ := ints_cases h
  clear h h4
  unfold maxLen at h3
  by_cases hl : 64 < zs.length
  · have HR := Lib.hid (rowCheck_long hl)
    go_enter Try.func43, Try.ntmps43
    go_wp2
    go_ret
    exact ⟨ret_int HR.out, rfl⟩
  · cases ha : zs.any (fun n => !fitsB n)
    · have HR := Lib.hid (rowCheck_ok hl ha)
      have HA := Lib.hid ha
      clear ha
      go_enter Try.func43, Try.ntmps43
      go_wp2_with (go_at_call 55; refine H.out.mono ?_; rintro e w' ⟨rfl, rfl⟩; rw [HA.out])
      go_ret
      exact ⟨ret_int HR.out, rfl⟩
    · have HR := Lib.hid (rowCheck_any ha)
      have HA := Lib.hid ha
      clear ha
      go_enter Try.func43, Try.ntmps43
      go_wp2_with (go_at_call 55; refine H.out.mono ?_; rintro e w' ⟨rfl, rfl⟩; rw [HA.out])
      go_ret
      exact ⟨ret_int HR.out, rfl⟩
end Go.Proofs.Ytcnpanmkpfgdjaa
