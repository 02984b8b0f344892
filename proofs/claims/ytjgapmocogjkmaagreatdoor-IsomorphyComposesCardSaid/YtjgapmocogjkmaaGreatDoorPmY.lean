/- The plain machine, typed data: what an operation does, all kinds. No program. -/
import Derived.Test.YtjgapmocogjkmaaGreatDoorPmX
import Derived.Lib.SliceRun
import Derived.WalkSpells
set_option linter.unusedSimpArgs false
set_option linter.unusedVariables false
namespace Go.PM
open Go Go.RowKit

section
variable {P : Program} {n0 : Nat → Prop} {w : World} {G : Nat → Prop} {μ : Mp} {H : Heap} {F F' : Frm} {a : Act} {nt : Nat}

theorem args1 {xs : Array Operand} {x : Operand} (h : xs.toList = [x]) : xs = #[x] := by apply Array.ext'; simpa using h
theorem args2 {xs : Array Operand} {x y : Operand} (h : xs.toList = [x, y]) : xs = #[x, y] := by apply Array.ext'; simpa using h

theorem tNil_sound {t : TypeId} {op : BinOp} {x y p : PV} {v u : Value} {qx qy : Operand} {cs : List Bool} {H' : Heap} {k : Nat} (hx : VR w G μ x v) (hy : VR w G μ y u) (h : tNil P H t op x y = some (cs, p, H', k)) (hcs : allB cs = true) :
    H' = H ∧ ∃ v', (∀ w1 : World, (do eqGuard op t qx qy v u; binOp op t v u : Sem Value).run P w1 = .ok v' w1) ∧ VR w G μ p v' := by
  unfold tNil at h
  split at h
  · rename_i e hu
    split at h
    · rename_i m c
      split at h
      · rename_i ty l cap e'
        have h1 := tl_vals hx
        rw [VR] at h1
        obtain ⟨ao, c', rfl, _, _, h2⟩ := h1
        rw [VR] at hy
        subst hy
        have key : Nat.blt 0 l.length = true → ao.isNone = false := by
          intro hb
          rcases h2 with h2 | ⟨b, off, rfl, _⟩
          · exfalso
            have h3 : 0 < l.length := nblt_iff hb
            cases l with
            | nil => simp at h3
            | cons a l =>
              have h4 := congrArg List.length h2
              have h5 := enc_length ty a
              have h6 := ty.size_pos
              simp only [encAll, List.flatMap_cons, List.length_append, List.length_nil] at h4
              omega
          · rfl
        split at h
        · simp only [Option.some.injEq, Prod.mk.injEq] at h
          obtain ⟨rfl, rfl, rfl, rfl⟩ := h
          have hcs : Nat.blt 0 l.length = true := by
            cases hb : Nat.blt 0 l.length with
            | true => rfl
            | false => simp only [allB, hb] at hcs; cases hcs
          refine ⟨rfl, .bool false, fun w1 => ?_, by rw [VR]⟩
          have := Lib.run_eql_slice_nil w1 t e ao l.length c' m c hu
          rw [key hcs] at this
          simp [eqGuard, this]
        · simp only [Option.some.injEq, Prod.mk.injEq] at h
          obtain ⟨rfl, rfl, rfl, rfl⟩ := h
          have hcs : Nat.blt 0 l.length = true := by
            cases hb : Nat.blt 0 l.length with
            | true => rfl
            | false => simp only [allB, hb] at hcs; cases hcs
          refine ⟨rfl, .bool true, fun w1 => ?_, by rw [VR]⟩
          have := run_neq_slice_nil_any w1 t e ao l.length c' m c hu
          rw [key hcs] at this
          simp [eqGuard, this]
        · cases h
      · rename_i r lo nn sz
        rw [VR] at hx
        rw [VR] at hy
        subst hy
        obtain ⟨b, c', mm, _, rfl, _⟩ := hx
        split at h
        · simp only [Option.some.injEq, Prod.mk.injEq] at h
          obtain ⟨rfl, rfl, rfl, rfl⟩ := h
          refine ⟨rfl, .bool false, fun w1 => ?_, by rw [VR]⟩
          have := Lib.run_eql_slice_nil w1 t e (some ⟨b, lo * sz, none⟩) nn c' m c hu
          simp [eqGuard, this]
        · simp only [Option.some.injEq, Prod.mk.injEq] at h
          obtain ⟨rfl, rfl, rfl, rfl⟩ := h
          refine ⟨rfl, .bool true, fun w1 => ?_, by rw [VR]⟩
          have := run_neq_slice_nil_any w1 t e (some ⟨b, lo * sz, none⟩) nn c' m c hu
          simp [eqGuard, this]
        · cases h
      · cases h
    · cases h
  · cases h
theorem tNil_cls {t : TypeId} {op : BinOp} {x y p : PV} {cs : List Bool} {H' : Heap} {c : Nat} (h : tNil P H t op x y = some (cs, p, H', c)) : H' = H ∧ c = 0 ∧ ∀ H2, tNil P H2 t op x y = some (cs, p, H2, 0) := by
  unfold tNil at h
  split at h
  · rename_i e hu
    split at h
    · split at h
      · split at h
        · simp only [Option.some.injEq, Prod.mk.injEq] at h
          obtain ⟨rfl, rfl, rfl, rfl⟩ := h
          exact ⟨rfl, rfl, fun H2 => by simp only [tNil, hu]⟩
        · simp only [Option.some.injEq, Prod.mk.injEq] at h
          obtain ⟨rfl, rfl, rfl, rfl⟩ := h
          exact ⟨rfl, rfl, fun H2 => by simp only [tNil, hu]⟩
        · cases h
      · split at h
        · simp only [Option.some.injEq, Prod.mk.injEq] at h
          obtain ⟨rfl, rfl, rfl, rfl⟩ := h
          exact ⟨rfl, rfl, fun H2 => by simp only [tNil, hu]⟩
        · simp only [Option.some.injEq, Prod.mk.injEq] at h
          obtain ⟨rfl, rfl, rfl, rfl⟩ := h
          exact ⟨rfl, rfl, fun H2 => by simp only [tNil, hu]⟩
        · cases h
      · cases h
    · cases h
  · cases h

set_option maxHeartbeats 1000000 in
theorem top_sound (hW : WInv n0 G μ H w) (hF : FInv w G μ nt F a) {o : Oper} {v : PV} {cs : List Bool} {H' : Heap} {k : Nat} (ht : typed P F o = true) (h : top P F H o = some (cs, v, H', k)) (hcs : allB cs = true) : OperOK P n0 w G μ o a v H' := by
  unfold top at h
  split at h
  · rename_i t x i ho
    split at h
    · rename_i k1 i1 hi
      obtain ⟨rfl, v', h1, h2⟩ := tIndexAddr_sound (k := k1) hW (ev_vr hF x) h hcs
      have h3 := ev_vr hF i
      rw [hi, VR] at h3
      exact .value (s := Instr.indexAt t (a.eval x) (a.eval i)) (by simp only [execOp, ho]) (.same hW (by rw [h3]; exact h1) h2)
    · cases h
  · rename_i s x f ho
    obtain ⟨rfl, rfl, v', h1, h2⟩ := tFieldAddr_sound (ev_vr hF x) h
    exact .value (by simp only [execOp, ho]) (.same hW h1 h2)
  · rename_i t x ho
    obtain ⟨rfl, v', h1, h2⟩ := tLoad_sound hW (ev_vr hF x) h hcs
    exact .value (by simp only [execOp, ho]) (.same hW h1 h2)
  · rename_i t x y ho
    obtain ⟨rfl, rfl, w', h1, h2, h3⟩ := tStore_sound hW (ev_vr hF x) (ev_vr hF y) h hcs
    intro K Q hK
    unfold Oper.wp
    have hx : (execOp a.eval o).run P w = .ok .skip w' := by simp [execOp, ho, h1]
    rw [hx]
    exact hK undef w' G μ h2 h3 (by rw [VR])
  · rename_i x ho
    simp only [Option.some.injEq, Prod.mk.injEq] at h
    obtain ⟨rfl, rfl, rfl, rfl⟩ := h
    have h1 := ev_vr hF x
    simp only [typed, ho] at ht
    obtain ⟨b, hb⟩ : ∃ b, a.eval x = .pointer (some b) := by
      cases hx : ev F x <;> rw [hx] at ht h1 <;> simp only [isTp] at ht <;> try (cases ht; done)
      · rw [VR] at h1
        obtain ⟨h2, rfl, _⟩ := h1
        rw [VR] at h2
        obtain ⟨b, off, h3, _⟩ := h2
        exact ⟨_, h3⟩
      · rw [VR] at h1
        obtain ⟨b, _, h3⟩ := h1
        exact ⟨_, h3⟩
    exact .pure hW (v' := a.eval x) (by simp [execOp, ho, hb]) h1
  · rename_i t x lo hi ho
    obtain ⟨rfl, v', h1, h2⟩ := tSlice_sound hW hF (ev_vr hF x) h hcs w
    exact .value (by simp only [execOp, ho]; rfl) (.same hW h1 h2)
  · rename_i t n parts ho
    exact .value (by simp only [execOp, ho]) (tBuildSlice_sound hW hF h)
  · rename_i t l c ho
    exact .value (by simp only [execOp, ho]) (tMakeSlice_sound hW (ev_vr hF l) (ev_vr hF c) h hcs).2
  · rename_i op t x y ty ho
    obtain ⟨rfl, v', h1, h2⟩ := tNil_sound (qx := x) (qy := y) (ev_vr hF x) (ev_vr hF y) h hcs
    exact .value (by simp only [execOp, ho]) (.same hW (h1 w) h2)
  · rename_i c ho
    split at h
    · rename_i hc
      split at h
      · rename_i x hx
        have hx := args1 hx
        obtain ⟨rfl, v', h1, h2⟩ := tLen_sound (ty := o.type) hW (ev_vr hF x) h
        refine .value (s := Builtin.len_ c.argTypes o.type #[a.eval x]) ?_ (.same hW h1 h2)
        simp [execOp, ho, resolve, hc, hx, invoke, builtin]
      · cases h
    · rename_i hc
      split at h
      · rename_i s x hx
        have hx := args2 hx
        refine .value (s := Builtin.append_ c.argTypes o.type #[a.eval s, a.eval x]) ?_ (tAppend_sound hW (ev_vr hF s) (ev_vr hF x) h hcs).2
        simp [execOp, ho, resolve, hc, hx, invoke, builtin]
      · cases h
    · rename_i hc
      split at h
      · rename_i x hx
        have hx := args1 hx
        refine .value (s := Builtin.clear_ c.argTypes o.type #[a.eval x]) ?_ (tClear_sound hW (ev_vr hF x) h hcs)
        simp [execOp, ho, resolve, hc, hx, invoke, builtin]
      · cases h
    · cases h
  · cases h
theorem opx_some {cl : Callee} {o : Oper} {v : PV} {H' : Heap} {k : Nat} (h : opx P cl F H o = some (v, H', k)) : (typed P F o = true ∧ ∃ cs, top P F H o = some (cs, v, H', k) ∧ allB cs = true) ∨ (typed P F o = false ∧ opu P cl F H o = some (v, H', k)) := by
  unfold opx at h
  cases ht : typed P F o with
  | false => rw [ht] at h; exact .inr ⟨rfl, h⟩
  | true =>
    rw [ht] at h
    simp only [cond_true] at h
    split at h
    · rename_i cs v1 H1 c1 h1
      cases hb : allB cs with
      | false => rw [hb] at h; cases h
      | true =>
        rw [hb] at h
        simp only [cond_true, Option.some.injEq, Prod.mk.injEq] at h
        obtain ⟨rfl, rfl, rfl⟩ := h
        exact .inl ⟨rfl, cs, h1, hb⟩
    · cases h
theorem opx_sound {cl : Callee} (hcl : CalleeOK P cl) (hW : WInv n0 G μ H w) (hF : FInv w G μ nt F a) {o : Oper} {v : PV} {H' : Heap} {k : Nat} (h : opx P cl F H o = some (v, H', k)) : OperOK P n0 w G μ o a v H' := by
  rcases opx_some h with ⟨ht, cs, h1, h2⟩ | ⟨_, h⟩
  · exact top_sound hW hF ht h1 h2
  · exact opu_sound hcl hW hF h

/-- What a typed operation reads. -/
def TCls (c : Nat) (cs : List Bool) (v : PV) (H H' : Heap) (f : Heap → TRes) : Prop := (c = 0 → H' = H ∧ ∀ H2, f H2 = some (cs, v, H2, 0)) ∧ (c = 1 → H' = H)
/-- An operation whose answer is of the third class, if there is one. -/
def T2 (x : TRes) : Prop := ∀ cs v H' c, x = some (cs, v, H', c) → c = 2
theorem T2.no : T2 none := fun _ _ _ _ h => by cases h
theorem T2.cond {b : Bool} {x y : TRes} (hx : T2 x) (hy : T2 y) : T2 (bif b then x else y) := by cases b <;> assumption
theorem T2.grow {H1 : Heap} {e : TypeId} {ty : Ty} {l : List ty.den} {cs : List Bool} : T2 (tGrow H1 e ty l cs) := fun _ _ _ _ h => (tGrow_some h).2.2.2
theorem T2.yes {cs : List Bool} {v : PV} {H1 : Heap} : T2 (some (cs, v, H1, 2)) := fun _ _ _ _ h => by
  simp only [Option.some.injEq, Prod.mk.injEq] at h; exact h.2.2.2.symm
theorem T2.cls {x : TRes} (hx : T2 x) {cs : List Bool} {v : PV} {H' : Heap} {c : Nat} {f : Heap → TRes} (h : x = some (cs, v, H', c)) : TCls c cs v H H' f := by
  have := hx _ _ _ _ h
  subst this
  exact ⟨fun h => (by cases h), fun h => by cases h⟩
theorem TCls.zero {cs cs' : List Bool} {v v' : PV} {H' : Heap} {c : Nat} {f : Heap → TRes} (h : some (cs', v', H, 0) = some (cs, v, H', c)) (hf : ∀ H2, f H2 = some (cs', v', H2, 0)) : TCls c cs v H H' f := by
  simp only [Option.some.injEq, Prod.mk.injEq] at h
  obtain ⟨rfl, rfl, rfl, rfl⟩ := h
  exact ⟨fun _ => ⟨rfl, hf⟩, fun _ => rfl⟩
theorem TCls.one {cs cs' : List Bool} {v v' : PV} {H' : Heap} {c : Nat} {f : Heap → TRes} (h : some (cs', v', H, 1) = some (cs, v, H', c)) : TCls c cs v H H' f := by
  simp only [Option.some.injEq, Prod.mk.injEq] at h
  obtain ⟨rfl, rfl, rfl, rfl⟩ := h
  exact ⟨fun h => (by cases h), fun _ => rfl⟩

theorem tAppend_two {tys : Array TypeId} {p q : PV} : T2 (tAppend P H tys p q) := by
  unfold tAppend
  repeat' first
    | exact T2.no
    | exact T2.grow
    | exact T2.yes
    | apply T2.cond
    | split
theorem tMakeSlice_two {t : TypeId} {p q : PV} : T2 (tMakeSlice P H t p q) := by
  unfold tMakeSlice
  repeat' first
    | exact T2.no
    | exact T2.yes
    | apply T2.cond
    | split
theorem tStore_two {t : TypeId} {p q : PV} : T2 (tStore P H t p q) := by
  unfold tStore
  repeat' first
    | exact T2.no
    | exact T2.yes
    | apply T2.cond
    | split
theorem tClear_two {tys : Array TypeId} {p : PV} : T2 (tClear P H tys p) := by
  unfold tClear
  repeat' first
    | exact T2.no
    | exact T2.yes
    | apply T2.cond
    | split
theorem condSome {α : Type} {b : Bool} {x : Option α} {y : α} (h : (bif b then x else none) = some y) : b = true ∧ x = some y := by
  cases b with
  | true => exact ⟨rfl, h⟩
  | false => cases h
theorem tIndexAddr_cls {t : TypeId} {p v : PV} {i : Int} {cs : List Bool} {H' : Heap} {c : Nat} (h : tIndexAddr P H t p i = some (cs, v, H', c)) : TCls c cs v H H' fun H2 => tIndexAddr P H2 t p i := by
  unfold tIndexAddr at h
  split at h
  · rename_i e hu
    split at h
    · rename_i n hs
      split at h
      · obtain ⟨hb, h⟩ := condSome h
        exact .zero h fun H2 => by simp only [tIndexAddr, hu, hs, hb, cond_true]
      · split at h
        · obtain ⟨_, h⟩ := condSome h
          exact .one h
        · cases h
      · obtain ⟨hb, h⟩ := condSome h
        exact .zero h fun H2 => by simp only [tIndexAddr, hu, hs, hb, cond_true]
      · cases h
    · cases h
  · rename_i n e hu
    split at h
    · rename_i sz hs
      split at h
      · exact .zero h fun H2 => by simp only [tIndexAddr, hu, hs]
      · cases h
    · cases h
  · cases h
theorem tFieldAddr_cls {t : TypeId} {f : Nat} {p v : PV} {cs : List Bool} {H' : Heap} {c : Nat} (h : tFieldAddr P H t f p = some (cs, v, H', c)) : TCls c cs v H H' fun H2 => tFieldAddr P H2 t f p := by
  unfold tFieldAddr at h
  split at h
  · rename_i fd hf
    split at h
    · rename_i n hs
      split at h
      · exact .zero h fun H2 => by simp only [tFieldAddr, hf, hs]
      · exact .zero h fun H2 => by simp only [tFieldAddr, hf, hs]
      · cases h
    · cases h
  · cases h
theorem tLoad_cls {t : TypeId} {p v : PV} {cs : List Bool} {H' : Heap} {c : Nat} (h : tLoad P H t p = some (cs, v, H', c)) : TCls c cs v H H' fun H2 => tLoad P H2 t p := by
  unfold tLoad at h
  split at h
  · split at h
    · rename_i u hu
      exact .zero h fun H2 => by simp only [tLoad, hu]
    · cases h
  · split at h
    · obtain ⟨_, h⟩ := condSome h
      split at h
      · exact .one h
      · cases h
    · cases h
  · cases h
theorem tLen_cls {tys : Array TypeId} {p v : PV} {cs : List Bool} {H' : Heap} {c : Nat} (h : tLen P H tys p = some (cs, v, H', c)) : TCls c cs v H H' fun H2 => tLen P H2 tys p := by
  unfold tLen at h
  split at h
  · rename_i t ts ht
    split at h
    · rename_i e hu
      split at h
      · exact .zero h fun H2 => by simp only [tLen, ht, hu]
      · split at h
        · exact .one h
        · cases h
      · exact .zero h fun H2 => by simp only [tLen, ht, hu]
      · cases h
    · cases h
  · cases h
theorem tSlice_cls {t : TypeId} {p v : PV} {lo hi : Option PV} {cs : List Bool} {H' : Heap} {c : Nat} (h : tSlice P H t p lo hi = some (cs, v, H', c)) : TCls c cs v H H' fun H2 => tSlice P H2 t p lo hi := by
  unfold tSlice at h
  split at h
  · rename_i e hu
    split at h
    · rename_i n hs
      split at h
      · obtain ⟨hb, h⟩ := condSome h
        split at h
        · rename_i b1 i b2 j h1 h2
          exact .zero h fun H2 => by simp only [tSlice, hu, hs, hb, cond_true, h1, h2]
        · cases h
      · split at h
        · obtain ⟨hb, h⟩ := condSome h
          split at h
          · exact .one h
          · cases h
        · cases h
      · obtain ⟨hb, h⟩ := condSome h
        split at h
        · rename_i b1 i b2 j h1 h2
          exact .zero h fun H2 => by simp only [tSlice, hu, hs, hb, cond_true, h1, h2]
        · cases h
      · cases h
    · cases h
  · cases h
theorem tBuildSlice_cls {t : TypeId} {n : Nat} {parts : List (Nat × Operand)} {v : PV} {cs : List Bool} {H' : Heap} {c : Nat} (h : tBuildSlice P F H t n parts = some (cs, v, H', c)) : TCls c cs v H H' fun H2 => tBuildSlice P F H2 t n parts := by
  unfold tBuildSlice at h
  split at h
  · rename_i e ty hel
    split at h
    · rename_i z hz
      obtain ⟨hb, h⟩ := condSome h
      split at h
      · rename_i ho
        split at h
        · rename_i ps hps
          split at h
          · rename_i cc hcc
            split at h
            · rename_i l hl
              exact .zero h fun H2 => by simp only [tBuildSlice, hel, hz, hb, cond_true, ho, hps, hcc, hl]
            · cases h
          · cases h
        · cases h
      · dsimp only at h
        refine T2.cls ?_ h
        repeat' first
          | exact T2.no
          | exact T2.yes
          | apply T2.cond
          | split
    · cases h
  · cases h

theorem top_cls {o : Oper} {v : PV} {cs : List Bool} {H' : Heap} {k : Nat} (h : top P F H o = some (cs, v, H', k)) : TCls k cs v H H' fun H2 => top P F H2 o := by
  unfold top at h
  split at h
  · rename_i t x i ho
    split at h
    · rename_i k1 i1 hi
      have := tIndexAddr_cls h
      simpa only [top, ho, hi] using this
    · cases h
  · rename_i s x f ho
    have := tFieldAddr_cls h
    simpa only [top, ho] using this
  · rename_i t x ho
    have := tLoad_cls h
    simpa only [top, ho] using this
  · exact tStore_two.cls h
  · rename_i x ho
    exact .zero h fun H2 => by simp only [top, ho]
  · rename_i t x lo hi ho
    have := tSlice_cls h
    simpa only [top, ho] using this
  · rename_i t n parts ho
    have := tBuildSlice_cls h
    simpa only [top, ho] using this
  · exact tMakeSlice_two.cls h
  · rename_i op t x y ty ho
    obtain ⟨rfl, rfl, h3⟩ := tNil_cls h
    exact ⟨fun _ => ⟨rfl, fun H2 => by simpa only [top, ho] using h3 H2⟩, fun _ => rfl⟩
  · rename_i c ho
    split at h
    · rename_i hc
      split at h
      · rename_i x hx
        have := tLen_cls h
        simpa only [top, ho, hc, hx] using this
      · cases h
    · split at h
      · exact tAppend_two.cls h
      · cases h
    · split at h
      · exact tClear_two.cls h
      · cases h
    · cases h
  · cases h

theorem opx_cls {cl : Callee} (hcl : CalleeOK P cl) {o : Oper} {v : PV} {H' : Heap} {k : Nat} (h : opx P cl F H o = some (v, H', k)) : ClsOK k H H' v (fun H2 => opx P cl F H2 o) := by
  rcases opx_some h with ⟨ht, cs, h1, h2⟩ | ⟨ht, h⟩
  · obtain ⟨a1, a2⟩ := top_cls h1
    refine ⟨fun hk => ⟨(a1 hk).1, fun H2 => ?_⟩, a2⟩
    simp only [opx, ht, cond_true, (a1 hk).2 H2, h2]
  · obtain ⟨a1, a2⟩ := opu_cls hcl h
    refine ⟨fun hk => ⟨(a1 hk).1, fun H2 => ?_⟩, a2⟩
    simp only [opx, ht, cond_false, (a1 hk).2 H2]

theorem opx_congr {cl : Callee} {o : Oper} (h : ∀ x ∈ o.op.operands, ev F' x = ev F x) : opx P cl F' H o = opx P cl F H o := by
  have hu := opu_congr (P := P) (cl := cl) (H := H) h
  have hm : ∀ {xs : List Operand}, (∀ x ∈ xs, x ∈ o.op.operands) → xs.map (ev F') = xs.map (ev F) := fun hx => List.map_congr_left fun x hm => h x (hx x hm)
  have both : typed P F' o = typed P F o ∧ top P F' H o = top P F H o := by
    unfold typed top
    cases hop : o.op
    case buildSlice t n parts =>
      have := mapPair_congr (F := F) (F' := F') (ps := parts.toList) fun p hpm => h p.2 (by simp only [hop, Op.operands]; simp; exact ⟨p.1, by simpa using hpm⟩)
      simp only [tBuildSlice, this, and_self]
    case slice t x lo hi mx =>
      have hx := h x (by simp [hop, Op.operands])
      have hlo : lo.map (ev F') = lo.map (ev F) := by
        cases lo with
        | none => rfl
        | some y => simp [h y (by simp [hop, Op.operands])]
      have hhi : hi.map (ev F') = hi.map (ev F) := by
        cases hi with
        | none => rfl
        | some y => simp [h y (by simp [hop, Op.operands])]
      cases mx <;> simp only [hx, hlo, hhi, and_self]
    case call c =>
      have hargs := hm (xs := c.args.toList) fun x hx => by simp [hop, Op.operands, Call.operands]; exact .inr (by simpa using hx)
      have h0 : ev F' (c.args.getD 0 (.const undef)) = ev F (c.args.getD 0 (.const undef)) := by
        by_cases h1 : 0 < c.args.size
        · refine h _ ?_
          simp only [hop, Op.operands, Call.operands, Array.mem_append]
          right
          simp [h1]
        · have : c.args = #[] := Array.eq_empty_of_size_eq_zero (by omega)
          rw [this]; rfl
      have h1 : ∀ s, c.args.toList = [s] → ev F' s = ev F s := fun s hc => by
        have := hargs
        rw [hc] at this
        simpa using this
      have h2 : ∀ s x, c.args.toList = [s, x] → ev F' s = ev F s ∧ ev F' x = ev F x := fun s x hc => by
        have := hargs
        rw [hc] at this
        simpa using this
      constructor
      · simp only [h0]
        split
        · rfl
        · rfl
        · cases hl : c.args.toList with
          | nil => rfl
          | cons s l =>
            cases l with
            | nil => rfl
            | cons x l =>
              cases l with
              | nil => (cases c.argTypes.toList <;> first | rfl | simp only [(h2 s x hl).1])
              | cons y l => rfl
        · rfl
      · simp only
        split
        · cases hl : c.args.toList with
          | nil => rfl
          | cons s l =>
            cases l with
            | nil => simp only [h1 s hl]
            | cons x l => rfl
        · cases hl : c.args.toList with
          | nil => rfl
          | cons s l =>
            cases l with
            | nil => rfl
            | cons x l =>
              cases l with
              | nil => simp only [(h2 s x hl).1, (h2 s x hl).2]
              | cons y l => rfl
        · cases hl : c.args.toList with
          | nil => rfl
          | cons s l =>
            cases l with
            | nil => simp only [h1 s hl]
            | cons x l => rfl
        · rfl
    all_goals
      first
      | exact ⟨rfl, rfl⟩
      | (simp only [hop, Op.operands] at h
         simp at h
         simp [h])
  unfold opx
  rw [both.1, both.2, hu]
end
end Go.PM
