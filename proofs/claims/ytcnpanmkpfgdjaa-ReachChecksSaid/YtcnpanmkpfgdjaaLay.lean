/- Contracts of package layout: Check, sized, window. -/
import Derived.Test.YtcnpanmkpfgdjaaRowB
namespace Go.Proofs.Ytcnpanmkpfgdjaa
open Go.RowKit Go.Sch

structure Lay where
  kind : Int
  o : List Int
  r : List Int
  u : List Int
def layR : Rep Lay where
  size := 4
  R w ok cs x := ∃ v1 v2 v3, cs = [.int .i64 x.kind, v1, v2, v3] ∧ (Lit.int .i64 x.kind).wf = true ∧ rowR.R w ok [v1] x.o ∧ rowR.R w ok [v2] x.r ∧ rowR.R w ok [v3] x.u
  len := by rintro w ok cs x ⟨v1, v2, v3, rfl, _⟩; rfl
  keep := by rintro w w' ok cs x ⟨v1, v2, v3, rfl, h, h1, h2, h3⟩ k; exact ⟨v1, v2, v3, rfl, h, rowR.keep h1 k, rowR.keep h2 k, rowR.keep h3 k⟩
  mono := by rintro w ok ok' cs x ⟨v1, v2, v3, rfl, h, h1, h2, h3⟩ k; exact ⟨v1, v2, v3, rfl, h, rowR.mono h1 k, rowR.mono h2 k, rowR.mono h3 k⟩
  pos := by decide
  lt := by rintro w ok cs x ⟨v1, v2, v3, rfl, h, h1, h2, h3⟩; exact ⟨v1, v2, v3, rfl, h, rowR.lt h1, rowR.lt h2, rowR.lt h3⟩

def layCheck (l : Lay) : Int :=
  if l.kind ≠ 1 ∧ l.kind ≠ 2 then 12
  else if rowCheck l.o ≠ 0 then rowCheck l.o
  else if 12 < l.o.length then 4
  else rowsCheck [l.r, l.u] l.o.length
theorem layCheck_kind {l : Lay} (h1 : l.kind ≠ 1) (h2 : l.kind ≠ 2) : 12 = layCheck l := by simp [layCheck, h1, h2]
theorem layCheck_o {l : Lay} (h : l.kind = 1 ∨ l.kind = 2) (h1 : rowCheck l.o ≠ 0) : rowCheck l.o = layCheck l := by
  rw [layCheck, if_neg (by omega), if_pos h1]
theorem layCheck_long {l : Lay} (h : l.kind = 1 ∨ l.kind = 2) (h1 : rowCheck l.o = 0) (h2 : 12 < l.o.length) : 4 = layCheck l := by
  rw [layCheck, if_neg (by omega), if_neg (by omega), if_pos h2]
theorem layCheck_rest {l : Lay} (h : l.kind = 1 ∨ l.kind = 2) (h1 : rowCheck l.o = 0) (h2 : ¬ 12 < l.o.length) : rowsCheck [l.r, l.u] l.o.length = layCheck l := by
  rw [layCheck, if_neg (by omega), if_neg (by omega), if_neg h2]

theorem rows_two {w : World} {ok : Nat → Prop} {v u : Value} {a b : List Int} {g : Nat} {t : TypeId} (hb : Blk w g #[v, u] t) (hg : ok g) (h1 : rowR.R w ok [v] a) (h2 : rowR.R w ok [u] b) :
    rowsR.R w ok [.slice (some ⟨g, 0, none⟩) 2 2] [a, b] := by
  refine ⟨some ⟨g, 0, none⟩, 2, rfl, Nat.le_refl _, by decide, .inr ⟨g, 0, rfl, hg, fun i hi => ?_⟩⟩
  match i, hi with
  | 0, _ => exact ⟨[v], hb.at _ _ (fun j hj => by match j, hj with | 0, _ => rfl), h1⟩
  | 1, _ => exact ⟨[u], hb.at _ _ (fun j hj => by match j, hj with | 0, _ => rfl), h2⟩
theorem rows_one {w : World} {ok : Nat → Prop} {v : Value} {a : List Int} {g : Nat} {t : TypeId} (hb : Blk w g #[v] t) (hg : ok g) (h1 : rowR.R w ok [v] a) :
    rowsR.R w ok [.slice (some ⟨g, 0, none⟩) 1 1] [a] := by
  refine ⟨some ⟨g, 0, none⟩, 1, rfl, Nat.le_refl _, by decide, .inr ⟨g, 0, rfl, hg, fun i hi => ?_⟩⟩
  match i, hi with
  | 0, _ => exact ⟨[v], hb.at _ _ (fun j hj => by match j, hj with | 0, _ => rfl), h1⟩

set_option maxHeartbeats 1000000 in
theorem layCheck_calls {w : World} {ok : Nat → Prop} {cs : List Value} {l : Lay} (h : layR.R w ok cs l) :
    Calls Try.prog 40 #[.agg cs.toArray] w fun e w' => e = .returned (.int .i64 (layCheck l)) ∧ Below w.heap.size w w' := by
  obtain ⟨v1, v2, v3, rfl, hk, ho, hr, hu⟩ := h
  have ho' := rowR.mono ho (fun _ _ => trivial : ∀ b, ok b → (fun _ => True) b)
  have hr' := rowR.mono hr (fun _ _ => trivial : ∀ b, ok b → (fun _ => True) b)
  have hu' := rowR.mono hu (fun _ _ => trivial : ∀ b, ok b → (fun _ => True) b)
  obtain ⟨a1, c1, rfl, h11, h12, -, -⟩ := ints_cases ho
  obtain ⟨a2, c2, rfl, h21, h22, -, -⟩ := ints_cases hr
  obtain ⟨a3, c3, rfl, h31, h32, -, -⟩ := ints_cases hu
  clear ho hr hu
  unfold maxLen at h12 h22 h32
  have HO := Lib.hid (fun w' (k : Keeps (fun _ => True) w w') => rowCheck_calls (rowR.keep ho' k))
  have HA := Lib.hid (fun w' (k : Keeps (fun _ => True) w w') g t (hb : Blk w' g #[.slice a2 l.r.length c2, .slice a3 l.u.length c3] t) n => checkAll_calls (rows_two hb trivial (rowR.keep hr' k) (rowR.keep hu' k)) n)
  clear ho' hr' hu'
  by_cases hkind : l.kind = 1 ∨ l.kind = 2
  · by_cases hz : rowCheck l.o = 0
    · have hz' : (rowCheck l.o != 0) = false := by simp [hz]
      by_cases hn : 12 < l.o.length
      · have HR := Lib.hid (layCheck_long hkind hz hn)
        clear hz
        rcases hkind with hkind | hkind
        all_goals
          rw [hkind]
          clear hkind hk
          go_enter Try.func40, Try.ntmps40
          go_wp2_with (go_at_call 43; refine (HO.out _ ?_).mono ?_; (exact Keeps.alloc _ _ _); rintro e w' ⟨rfl, rfl⟩)
          go_ret
          exact ⟨ret_int HR.out, (Below.refl _ _).alloc (Nat.le_refl _) _⟩
      · have HR := Lib.hid (layCheck_rest hkind hz hn)
        clear hz
        rcases hkind with hkind | hkind
        all_goals
          rw [hkind]
          clear hkind hk
          go_enter Try.func40, Try.ntmps40
          go_wp2_with (go_at_call 43; refine (HO.out _ ?_).mono ?_; (exact Keeps.alloc _ _ _); rintro e w' ⟨rfl, rfl⟩)
          refine (HA.out _ ?_ _ 41 ?_ _).mono ?_
          · exact (Keeps.alloc _ _ _).of_alloc _
          · exact Blk.newAt _ _ (by simp)
          rintro e w' ⟨rfl, rfl⟩
          go_wp2
          go_ret
          exact ⟨ret_int HR.out, ((Below.refl _ _).alloc (Nat.le_refl _) _).alloc (by simp) _⟩
    · have hz' : (rowCheck l.o != 0) = true := by simp [hz]
      have HR := Lib.hid (layCheck_o hkind hz)
      clear hz
      rcases hkind with hkind | hkind
      all_goals
        rw [hkind]
        clear hkind hk
        go_enter Try.func40, Try.ntmps40
        go_wp2_with (go_at_call 43; refine (HO.out _ ?_).mono ?_; (exact Keeps.alloc _ _ _); rintro e w' ⟨rfl, rfl⟩)
        go_ret
        exact ⟨ret_int HR.out, (Below.refl _ _).alloc (Nat.le_refl _) _⟩
  · have hk1 : (l.kind != 1) = true := by simp; omega
    have hk2 : (l.kind != 2) = true := by simp; omega
    have HR := Lib.hid (layCheck_kind (l := l) (by omega) (by omega))
    clear hkind
    go_enter Try.func40, Try.ntmps40
    go_wp2
    go_ret
    exact ⟨ret_int HR.out, (Below.refl _ _).alloc (Nat.le_refl _) _⟩

def windowCheck (n : Int) : Int := if n < 0 ∨ 20 < n then 3 else 0
theorem window_calls (n : Int) (w : World) : Calls Try.prog 60 #[.int .i64 n] w fun e w' => e = .returned (.int .i64 (windowCheck n)) ∧ w = w' := by
  by_cases h1 : n < 0
  · have HR := Lib.hid (show 3 = windowCheck n by simp [windowCheck, h1])
    go_enter Try.func60, Try.ntmps60
    go_wp2
    go_ret
    exact ⟨ret_int HR.out, rfl⟩
  · by_cases h2 : 20 < n
    · have HR := Lib.hid (show 3 = windowCheck n by simp [windowCheck, h2])
      go_enter Try.func60, Try.ntmps60
      go_wp2
      go_ret
      exact ⟨ret_int HR.out, rfl⟩
    · have HR := Lib.hid (show 0 = windowCheck n by rw [windowCheck, if_neg (by omega)])
      go_enter Try.func60, Try.ntmps60
      go_wp2
      go_ret
      exact ⟨ret_int HR.out, rfl⟩

def sizedCheck (l : Lay) (x : List Int) : Int := if layCheck l ≠ 0 then layCheck l else rowsCheck [x] l.o.length
set_option maxHeartbeats 1000000 in
theorem sized_calls {w : World} {ok : Nat → Prop} {cs : List Value} {v : Value} {l : Lay} {x : List Int} (h : layR.R w ok cs l) (hx : rowR.R w ok [v] x) :
    Calls Try.prog 59 #[.agg cs.toArray, v] w fun e w' => e = .returned (.int .i64 (sizedCheck l x)) ∧ Below w.heap.size w w' := by
  have h' := layR.mono h (fun _ _ => trivial : ∀ b, ok b → (fun _ => True) b)
  have hx' := rowR.mono hx (fun _ _ => trivial : ∀ b, ok b → (fun _ => True) b)
  obtain ⟨ax, cx, rfl, hx1, hx2, -, -⟩ := ints_cases hx
  have HL := Lib.hid (fun w' (k : Keeps (fun _ => True) w w') => layCheck_calls (layR.keep h' k))
  have HA := Lib.hid (fun w' (k : Keeps (fun _ => True) w w') g t (hb : Blk w' g #[.slice ax x.length cx] t) n => checkAll_calls (rows_one hb trivial (rowR.keep hx' k)) n)
  obtain ⟨v1, v2, v3, rfl, hk, ho, -, -⟩ := h
  obtain ⟨a1, c1, rfl, h11, h12, -, -⟩ := ints_cases ho
  clear ho h' hx' hx
  unfold maxLen at h12
  by_cases hz : layCheck l = 0
  · have hz' : (layCheck l != 0) = false := by simp [hz]
    have HR := Lib.hid (show rowsCheck [x] l.o.length = sizedCheck l x by rw [sizedCheck, if_neg (by simp [hz])])
    clear hz
    go_enter Try.func59, Try.ntmps59
    go_wp2_with fail
    refine (HL.out _ ?_).mono ?_
    · exact Keeps.alloc _ _ _
    rintro e w1 ⟨rfl, hb⟩
    have hc : w1.cell? ⟨w.heap.size, 1, none⟩ = some (.slice a1 l.o.length c1) := (hb.cell (p := ⟨w.heap.size, 1, none⟩) (by simp)).trans (by rw [(Blk.new w _ _).cell]; rfl)
    have hz1 : w.heap.size < w1.heap.size := by have := hb.size; simp at this; omega
    go_wp2_with fail
    refine (HA.out _ ?_ _ 41 ?_ _).mono ?_
    · exact ((Keeps.alloc _ _ _).trans (Keeps.all hb _)).of_alloc _
    · exact Blk.newAt _ _ (by simp)
    rintro e w' ⟨rfl, rfl⟩
    go_wp2
    go_ret
    exact ⟨ret_int HR.out, (((Below.refl _ _).alloc (Nat.le_refl _) _).trans (hb.mono (by simp))).alloc (by omega) _⟩
  · have hz' : (layCheck l != 0) = true := by simp [hz]
    have HR := Lib.hid (show layCheck l = sizedCheck l x by rw [sizedCheck, if_pos hz])
    clear hz
    go_enter Try.func59, Try.ntmps59
    go_wp2_with fail
    refine (HL.out _ ?_).mono ?_
    · exact Keeps.alloc _ _ _
    rintro e w1 ⟨rfl, hb⟩
    go_wp2_with fail
    go_ret
    exact ⟨ret_int HR.out, (((Below.refl _ _).alloc (Nat.le_refl _) _).trans (hb.mono (by simp)))⟩
end Go.Proofs.Ytcnpanmkpfgdjaa
