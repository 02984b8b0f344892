/- The law package's few hands back some Bool, and keeps the memory. -/
import Derived.Test.YtcnpanmkpfgdjaaChecksA
import Derived.Deep.AppendLies
import Derived.Deep.RegionLaw
import Derived.Deep.Upon
import Derived.Deep.AppendSrc
namespace Go.Proofs.Ytcnpanmkpfgdjaa
open Go.RowKit Go.Sch

def SomeBool (w : World) (e : Ending) (w' : World) : Prop := ∃ b, e = .returned (.bool b) ∧ Below w.heap.size w w'
theorem blk_drew {w : World} {g : Nat} {c : Array Value} {t : TypeId} (h : Blk w g c t) : Blk w.drew g c t := h
theorem own_mt {w : World} {B g : Nat} {e : TypeId} (h : Blk w g #[] e) (hB : B ≤ g) : w.ownsRow B e 1 (.slice (some ⟨g, 0, none⟩) 0 0) 0 [] := by
  refine ⟨rfl, .inr ⟨g, 0, #[], rfl, hB, h, ?_⟩⟩
  simp
theorem s4_keep {N0 : Nat} {ok : Nat → Prop} {v1 v2 v3 v4 : Value} {W W' : World} (h : W.cell? ⟨N0, 1, none⟩ = some v1 ∧ W.cell? ⟨N0, 2, none⟩ = some v2 ∧ W.cell? ⟨N0, 3, none⟩ = some v3 ∧ W.cell? ⟨N0, 4, none⟩ = some v4) (k : Keeps ok W W') (hn : ok N0) :
    W'.cell? ⟨N0, 1, none⟩ = some v1 ∧ W'.cell? ⟨N0, 2, none⟩ = some v2 ∧ W'.cell? ⟨N0, 3, none⟩ = some v3 ∧ W'.cell? ⟨N0, 4, none⟩ = some v4 :=
  ⟨k.cell (a := ⟨N0, 1, none⟩) hn h.1, k.cell (a := ⟨N0, 2, none⟩) hn h.2.1, k.cell (a := ⟨N0, 3, none⟩) hn h.2.2.1, k.cell (a := ⟨N0, 4, none⟩) hn h.2.2.2⟩
/-- A new list of rows in memory, that the call owns. -/
def Rw (w : World) (g n cap : Nat) : Prop := ∃ xs, w.ownsRow 0 41 1 (.slice (some ⟨g, 0, none⟩) n cap) n xs ∧ ∀ u ∈ xs, ∃ a l c, u = .slice a l c ∧ l ≤ 9223372036854775807
/-- What is appended: rows in memory, or nothing. -/
def Sr (w : World) (x : Value) (m : Nat) : Prop := ∃ c, (∃ ad, x = .slice (some ad) m c ∧ ∀ j, j < m → ∃ a l c', w.cell? (ad.add j) = some (.slice a l c') ∧ l ≤ 9223372036854775807) ∨ (x = .slice none 0 c ∧ m = 0)
theorem step_few {ops : Array Oper} {o : Oper} {a : Act} {K : Act → World → Prop} {Q : Exit → Act → World → Prop} {E : Prop} (w : World) (hgd : o.guard = none) (s x : Operand)
    (ho : o.op = .call { callee := .builtin .append, args := #[s, x], argTypes := #[44, 44] }) (g n cap m : Nat) (hs : a.eval s = .slice (some ⟨g, 0, none⟩) n cap) (hr : Rw w g n cap)
    (hx : Sr w (a.eval x) m) (hb : (n + m) * 24 ≤ 140737488355328)
    (h : ∀ g' cap' w', Rw w' g' (n + m) cap' → w.grownBy w' (some g) → (g = g' ∨ g' = w.heap.size) → g' < w'.heap.size → K (a.put o.dst (.slice (some ⟨g', 0, none⟩) (n + m) cap')) w') :
    if Region.wanted o (yielded ops a.tmps) = true then Oper.wp Try.prog o a w K Q else E := by
  obtain ⟨xs, hown, hxs⟩ := hr
  have h63 : n + m ≤ maxLen := by unfold maxLen; omega
  have key : ∀ g' cap' w' xs', (Builtin.append_ #[44, 44] o.type #[.slice (some ⟨g, 0, none⟩) n cap, a.eval x]).run Try.prog w = .ok (.slice (some ⟨g', 0, none⟩) (n + m) cap') w' →
      w'.ownsRow 0 41 1 (.slice (some ⟨g', 0, none⟩) (n + m) cap') (n + m) xs' → (∀ u ∈ xs', ∃ a l c, u = .slice a l c ∧ l ≤ 9223372036854775807) → w.grownBy w' (some g) → (g = g' ∨ g' = w.heap.size) → g' < w'.heap.size →
      if Region.wanted o (yielded ops a.tmps) = true then Oper.wp Try.prog o a w K Q else E := by
    intro g' cap' w' xs' hrun h1 h2 h3 h4 h5
    have hw : Region.wanted o (yielded ops a.tmps) = true := by simp [Region.wanted, hgd]
    rw [if_pos hw]
    unfold Oper.wp execOp
    simp only [ho, resolve, invoke, builtin, Sem.run_bind, Sem.run_pure, Result.andThen_ok, List.map_toArray, List.map_cons, List.map_nil, hs, hrun]
    exact h g' cap' w' ⟨xs', h1, h2⟩ h3 h4 h5
  have hnc : n ≤ cap ∧ g < w.heap.size := by
    rcases hown.2 with ⟨h0, _⟩ | ⟨g1, cap1, cur, h0, _, hg, h1, _⟩
    · cases h0
    · cases h0
      refine ⟨h1, ?_⟩
      rcases Nat.lt_or_ge g w.heap.size with hlt | hge
      · exact hlt
      · rw [Array.getElem?_eq_none hge] at hg; cases hg
  have hinfo := Try.info_row
  obtain ⟨i, hi, hzz⟩ := Option.map_eq_some_iff.mp hinfo
  simp only [Prod.mk.injEq] at hzz
  obtain ⟨hz, hsi, hby⟩ := hzz
  rcases Nat.eq_zero_or_pos m with h0 | hpos
  · subst h0
    have hsrc : Src Try.prog i.size 44 (a.eval x) 0 [] w := by
      obtain ⟨c, ⟨ad, he, _⟩ | ⟨he, _⟩⟩ := hx
      · rw [he]
        exact Src.ofSlice w (e' := 41) (by kernel_rfl) ad 0 c [] (Nat.zero_mul _).symm (fun j u hu => by simp at hu) (fun u hu => by cases hu)
      · rw [he]
        exact Src.ofNil w (e' := 41) (by kernel_rfl) c
    exact key g cap w xs (run_append_nothing w _ _ _ 41 i (by kernel_rfl) hi _ _ _ hnc.1 _ hsrc) hown hxs (World.grownBy.refl _ _) (.inl rfl) hnc.2
  · obtain ⟨c, ⟨ad, he, hcell⟩ | ⟨_, h0⟩⟩ := hx
    · obtain ⟨g', cap', w', h1, h2, h3, h4, h5⟩ := run_append_lies (P := Try.prog) w 44 o.type 0 41 i (.slice none 0 0) 1 24 (by kernel_rfl) hi hz hsi hby rfl (by decide)
        _ n xs hown ad m c ((List.range m).map fun j => (w.cell? (ad.add j)).getD undef) (by simp) (fun j u hu => by
          by_cases hj : j < m
          · rw [List.getElem?_map, List.getElem?_range hj] at hu
            obtain ⟨a', l, c', hc, _⟩ := hcell j hj
            simp only [Option.map_some, hc, Option.getD_some] at hu
            rw [hc]
            exact hu
          · rw [List.getElem?_eq_none (by simp; omega)] at hu
            cases hu) (fun u hu => by
          simp only [List.mem_map, List.mem_range] at hu
          obtain ⟨j, hj, rfl⟩ := hu
          obtain ⟨a', l, c', hc, _⟩ := hcell j hj
          rw [hc]; rfl) hpos h63 hb (Nat.zero_le _) _ rfl
      refine key g' cap' w' _ (by rw [he]; exact h1) h2 ?_ h3 ?_ h5
      · intro u hu
        rcases List.mem_append.mp hu with hu | hu
        · exact hxs u hu
        · simp only [List.mem_map, List.mem_range] at hu
          obtain ⟨j, hj, rfl⟩ := hu
          obtain ⟨a', l, c', hc, hl⟩ := hcell j hj
          exact ⟨a', l, c', by rw [hc]; rfl, hl⟩
      · rcases h4 with h4 | h4
        · left; simpa [Value.ownBlock] using h4
        · exact .inr h4
    · omega
/-- What the region keeps. -/
def St (N0 : Nat) (v1 v2 v3 v4 : Value) (w W : World) : Prop :=
  (W.cell? ⟨N0, 1, none⟩ = some v1 ∧ W.cell? ⟨N0, 2, none⟩ = some v2 ∧ W.cell? ⟨N0, 3, none⟩ = some v3 ∧ W.cell? ⟨N0, 4, none⟩ = some v4) ∧ Below N0 w W ∧ N0 < W.heap.size
theorem St.drew {N0 : Nat} {v1 v2 v3 v4 : Value} {w W : World} (h : St N0 v1 v2 v3 v4 w W) : St N0 v1 v2 v3 v4 w W.drew := ⟨h.1, h.2.1.drew, h.2.2⟩
theorem St.alloc {N0 : Nat} {v1 v2 v3 v4 : Value} {w W : World} (h : St N0 v1 v2 v3 v4 w W) (o : Obj) : St N0 v1 v2 v3 v4 w (W.alloc o) :=
  ⟨s4_keep h.1 (ok := fun _ => True) (Keeps.alloc _ _ _) trivial, h.2.1.alloc (Nat.le_of_lt h.2.2) o, by have := h.2.2; simp; omega⟩
theorem St.grown {N0 g : Nat} {v1 v2 v3 v4 : Value} {w W W' : World} (h : St N0 v1 v2 v3 v4 w W) (hg : W.grownBy W' (some g)) (hN : N0 < g) (hlt : W.heap.size ≤ W'.heap.size) : St N0 v1 v2 v3 v4 w W' := by
  have hne : some N0 ≠ some g := by intro e; cases e; omega
  exact ⟨⟨hg.cell h.1.1 hne, hg.cell h.1.2.1 hne, hg.cell h.1.2.2.1 hne, hg.cell h.1.2.2.2 hne⟩, h.2.1.grown hg (Nat.le_of_lt h.2.2) (fun k hk => by cases hk; omega), by have := h.2.2; omega⟩
theorem Rw.drew {w : World} {g n cap : Nat} (h : Rw w g n cap) : Rw w.drew g n cap := h
theorem Rw.alloc {w : World} {g n cap : Nat} (h : Rw w g n cap) (o : Obj) : Rw (w.alloc o) g n cap := by
  obtain ⟨xs, h1, h2⟩ := h
  exact ⟨xs, h1.alloc o, h2⟩
theorem Rw.new (w : World) : Rw (w.alloc (.cells #[] 41)) w.heap.size 0 0 := ⟨[], own_mt (Blk.new _ _ _) (Nat.zero_le _), fun _ h => by cases h⟩
theorem Sr.drew {w : World} {x : Value} {m : Nat} (h : Sr w x m) : Sr w.drew x m := h
theorem Sr.alloc {w : World} {x : Value} {m : Nat} (h : Sr w x m) (o : Obj) : Sr (w.alloc o) x m := by
  obtain ⟨c, ⟨ad, he, hc⟩ | h0⟩ := h
  · refine ⟨c, .inl ⟨ad, he, fun j hj => ?_⟩⟩
    obtain ⟨a, l, c', h1, h2⟩ := hc j hj
    exact ⟨a, l, c', (Keeps.alloc _ _ (fun _ => True)).cell trivial h1, h2⟩
  · exact ⟨c, .inr h0⟩
theorem Sr.new (w : World) (a1 a2 a3 : Option Addr) (n1 n2 n3 c1 c2 c3 : Nat) (hn1 : n1 ≤ 9223372036854775807) (hn2 : n2 ≤ 9223372036854775807) (hn3 : n3 ≤ 9223372036854775807) :
    Sr (w.alloc (.cells #[.slice a1 n1 c1, .slice a2 n2 c2, .slice a3 n3 c3] 41)) (.slice (some ⟨w.heap.size, 0, none⟩) 3 3) 3 := by
  have hB : Blk (w.alloc (.cells #[.slice a1 n1 c1, .slice a2 n2 c2, .slice a3 n3 c3] 41)) w.heap.size #[.slice a1 n1 c1, .slice a2 n2 c2, .slice a3 n3 c3] 41 := Blk.new _ _ _
  refine ⟨3, .inl ⟨_, rfl, fun j hj => ?_⟩⟩
  rw [Addr.add_lit, hB.cell]
  match j, hj with
  | 0, _ => exact ⟨_, _, _, rfl, hn1⟩
  | 1, _ => exact ⟨_, _, _, rfl, hn2⟩
  | 2, _ => exact ⟨_, _, _, rfl, hn3⟩
theorem step_few2 {ops : Array Oper} {o : Oper} {a : Act} {K : Act → World → Prop} {Q : Exit → Act → World → Prop} {E : Prop} {N0 : Nat} {v1 v2 v3 v4 : Value} {w W : World} (hst : St N0 v1 v2 v3 v4 w W) (hgd : o.guard = none) (s x : Operand)
    (ho : o.op = .call { callee := .builtin .append, args := #[s, x], argTypes := #[44, 44] }) (g n cap m : Nat) (hs : a.eval s = .slice (some ⟨g, 0, none⟩) n cap) (hr : Rw W g n cap) (hN : N0 < g) (hgl : g < W.heap.size)
    (X : Value) (hX : a.eval x = X) (hx : Sr W X m) (hb : (n + m) * 24 ≤ 140737488355328)
    (h : ∀ g' cap' w', Rw w' g' (n + m) cap' → St N0 v1 v2 v3 v4 w w' → N0 < g' → g' < w'.heap.size → (∀ b, b < W.heap.size → b ≠ g → Sr W (.slice (some ⟨b, 0, none⟩) 3 3) 3 → Sr w' (.slice (some ⟨b, 0, none⟩) 3 3) 3) → K (a.put o.dst (.slice (some ⟨g', 0, none⟩) (n + m) cap')) w') :
    if Region.wanted o (yielded ops a.tmps) = true then Oper.wp Try.prog o a W K Q else E := by
  refine step_few W hgd s x ho g n cap m hs hr (by rw [hX]; exact hx) hb fun g' cap' w' h1 h2 h3 h4 => ?_
  refine h g' cap' w' h1 (hst.grown h2 hN h2.size) ?_ h4 ?_
  · rcases h3 with h3 | h3
    · omega
    · have := hst.2.2; omega
  · intro b hb1 hne ⟨c, hc⟩
    rcases hc with ⟨ad, he, hc⟩ | ⟨he, _⟩
    · cases he
      refine ⟨_, .inl ⟨_, rfl, fun j hj => ?_⟩⟩
      obtain ⟨a', l, c', h5, h6⟩ := hc j hj
      refine ⟨a', l, c', h2.cell h5 ?_, h6⟩
      rw [Addr.add_lit]
      intro e
      cases e
      exact hne rfl
    · cases he
end Go.Proofs.Ytcnpanmkpfgdjaa
