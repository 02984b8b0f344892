/- The plain machine, open runs: in continuation style; a condition that is not known is asked. No program. -/
import Derived.Test.YtjgapmocogjkmaaGreatDoorPmR
set_option linter.unusedSimpArgs false
set_option linter.unusedVariables false
namespace Go.PM
open Go Go.RowKit

def ask {α : Type} (b : Bool) (k : Bool → Option α) : Option α := bif b then k true else k false
def askAll {α : Type} : List Bool → Option α → Option α
  | [], r => r
  | b :: l, r => bif b then askAll l r else none
def askO {τ α : Type} (x : Option τ) (k : τ → Option α) : Option α := match x with
  | some x => k x
  | none => none
def onSum {β γ α : Type} (z : β ⊕ γ) (f : β → Option α) (g : γ → Option α) : Option α := match z with
  | .inl a => f a
  | .inr b => g b

/-- What a function on data answers: a typed answer, and how it is written down. -/
structure Res where
  τ : Type
  val : Option τ
  out : τ → PV
structure ResH where
  τ : Type
  val : Option τ
  out : τ → PV × Heap
/-- What is known of the functions called. -/
structure Env where
  pure : FuncId → List PV → Option Res
  shr : FuncId → List PV → Heap → Option ResH
  sh : FuncId → Bool
def pureOf (E : Env) (g : FuncId) (args : List PV) : Option PV := match E.pure g args with
  | some r => match r.val with
    | some x => some (r.out x)
    | none => none
  | none => none
def sharedOf (E : Env) (g : FuncId) (args : List PV) (H : Heap) : Option (PV × Heap) := match E.shr g args H with
  | some r => match r.val with
    | some x => some (r.out x)
    | none => none
  | none => none
def calleeE (P : Program) (E : Env) : Callee := callee P E.sh (pureOf E) (sharedOf E)

section
variable {α : Type} (P : Program) (E : Env)
def calK (g : FuncId) (args : List PV) (H : Heap) (k : PV → Heap → Nat → Option α) : Option α :=
  bif E.sh g then match E.shr g args H with
    | some r => askO r.val fun x => k (r.out x).1 (r.out x).2 2
    | none => none
  else bif noRef.noRefs args then match E.pure g args with
    | some r => askO r.val fun x => k (r.out x) H 0
    | none => none
  else bif flatFn P g then match mapO (fun p => inl false H depth p) args with
    | some qs => match E.pure g qs with
      | some r => askO r.val fun x => bif flat (r.out x) then k (r.out x) H 1 else none
      | none => none
    | none => none
  else match freezeList H (args.flatMap (fun p => reach H depth p)) with
    | H1 => match mapO (fun p => inl true H1 depth p) args with
      | some qs => match E.pure g qs with
        | some r => askO r.val fun x => k (r.out x) H1 2
        | none => none
      | none => none
/-- The slot's Bool becomes known. -/
def fsub : Frm → Nat → Bool → Frm
  | [], _, _ => []
  | (s, p) :: r, t, b => bif Nat.beq s t then (s, .lit (.bool b)) :: r else (s, p) :: fsub r t b
def askT (F : Frm) (x : Operand) (b : Bool) (k : Frm → Bool → Option α) : Option α := match x with
  | .tmp t => ask b fun b => k (fsub F t b) b
  | _ => ask b fun b => k F b
def guardK (F : Frm) (l : List Oper) (o : Oper) (k : Frm → Bool → Option α) : Option α :=
  match o.guard with
  | none => k F true
  | some (j, want) => match l[j]? with
    | some p => match p.dst with
      | some t => match fget F t with
        | .lit (.bool b) => ask b fun b => k (fsub F t b) (bif b then want else !want)
        | .lit _ => k F false
        | _ => none
      | none => none
    | none => none
def binK (op : BinOp) (k1 : IntKind) (a b : Int) (k : Value → Option α) : Option α := match op with
  | .quo => bif eqI b 0 then none else k (.int k1 (wrapF k1 (a.tdiv b)))
  | .rem => bif eqI b 0 then none else k (.int k1 (a.tmod b))
  | op => match xBin op k1 a b with
    | some v => k v
    | none => none
def isX : BinOp → Bool
  | .add | .sub | .mul | .quo | .rem | .eql | .neq | .lss | .leq | .gtr | .geq => true
  | _ => false
def isShift : BinOp → Bool
  | .shl | .shr => true
  | _ => false
def shiftV (op : BinOp) (k : IntKind) (x y : Int) : Option Value := match op with
  | .shl => some (.int k (k.wrap (x * 2 ^ (min y.toNat k.bits))))
  | .shr => some (.int k (x.fdiv (2 ^ (min y.toNat k.bits))))
  | _ => none
def otherK (F : Frm) (H : Heap) (o : Oper) (k : Frm → PV → Heap → Nat → Option α) : Option α := match opu P (calleeE P E) F H o with
  | some (v, H', c) => k F v H' c
  | none => none
/-- A slot's Bool, asked for. -/
def boolK (F : Frm) (x : Operand) (k : Frm → Option α) : Option α := match ev F x with
  | .lit (.bool b) => askT F x b fun F _ => k F
  | _ => k F
def boolsK : List Operand → Frm → (Frm → Option α) → Option α
  | [], F, k => k F
  | x :: r, F, k => boolK F x fun F => boolsK r F k
def opK (F : Frm) (H : Heap) (o : Oper) (k : Frm → PV → Heap → Nat → Option α) : Option α :=
  bif typed P F o then match top P F H o with
    | some (cs, v, H', c) => askAll cs (k F v H' c)
    | none => none
  else match o.op with
    | .binOp op _ x y _ => match ev F x, ev F y with
      | .lit (.int k1 a), .lit (.int k2 b) => bif isShift op then (bif ltI b 0 then none else match shiftV op k1 a b with
          | some v => k F (.lit v) H 0
          | none => none)
        else bif kindEq k1 k2 && isX op then binK op k1 a b fun v => k F (.lit v) H 0 else otherK P E F H o k
      | _, _ => boolsK [x, y] F fun F => otherK P E F H o k
    | .unOp .. => boolsK o.op.operands.toList F fun F => otherK P E F H o k
    | .pick c a b => match ev F c with
      | .lit (.bool t) => askT F c t fun F t => k F (bif t then ev F a else ev F b) H 0
      | _ => none
    | .call c => match c.callee with
      | .value f => match ev F f with
        | .lit (.func (.func g) first caps) => calK P E g (lits first ++ c.args.toList.map (ev F) ++ lits caps) H (k F)
        | .clo (.func g) first caps => calK P E g (first ++ c.args.toList.map (ev F) ++ caps) H (k F)
        | _ => none
      | _ => otherK P E F H o k
    | _ => otherK P E F H o k
/-- An array's element at an index that is not known: the indices one by one. -/
def splitI : Nat → Nat → Int → (Int → Option α) → Option α
  | 0, _, _, _ => none
  | n + 1, j, v, f => bif eqI v (j : Int) then f j else splitI n (j + 1) v f
def arrN (t : TypeId) : Option Nat := match P.underlying t with
  | some (.array n _) => some n
  | _ => none
def isHp : PV → Bool
  | .hptr _ _ | .iptr _ => true
  | _ => false
def isAg : PV → Bool
  | .agg _ => true
  | _ => false
/-- An array's element. -/
def xIdx (H : Heap) (t : TypeId) (p : PV) (i : Int) : Option (PV × Heap × Nat) := match p, P.underlying t with
  | .agg cs, some (.array n e) => match sizeT P e with
    | some sz => bif idxOk i n then p0 H (xPart P e (cs.drop (i.toNat * sz))) else none
    | none => none
  | _, _ => none
def opZK (l : List Oper) (F : Frm) (H : Heap) (o : Oper) (k : Frm → PV → Heap → Nat → Option α) : Option α := match o.op with
  | .makeSlice t n c => bif baseIn l o.dst then (match tMakeWin P H t (ev F n) (ev F c) with
      | some (cs, v, H', c') => askAll cs (k F v H' c')
      | none => none) else opK P E F H o k
  | .indexAddr t x i => match arrN P t, ev F i with
    | some n, .lit (.int _ v) => bif isTp (ev F x) then splitI n 0 v (fun j => match tIndexAddr P H t (ev F x) j with
        | some (cs, p, H', c) => askAll cs (k F p H' c)
        | none => none) else bif isHp (ev F x) then splitI n 0 v (fun j => match p0 H (xIndexAddr P t (ev F x) j) with
        | some (p, H', c) => k F p H' c
        | none => none) else opK P E F H o k
    | _, _ => opK P E F H o k
  | .index t x i => match arrN P t, ev F i with
    | some n, .lit (.int _ v) => bif isAg (ev F x) then splitI n 0 v (fun j => match xIdx P H t (ev F x) j with
        | some (p, H', c) => k F p H' c
        | none => none) else opK P E F H o k
    | _, _ => opK P E F H o k
  | _ => opK P E F H o k
def stepK (l : List Oper) (o : Oper) (F : Frm) (H : Heap) (k : Frm → PV → Heap → Nat → Option α) : Option α :=
  guardK F l o fun F b => bif b then (match mkData P F l o with
    | none => opZK P E l F H o k
    | some none => none
    | some (some (cs, v)) => askAll cs (k F v H 0)) else k F (.lit undef) H 0
def runOpsK (nt : Nat) (l : List Oper) : List Oper → Frm → Heap → (Frm → Heap → Option α) → Option α
  | [], F, H, k => k F H
  | o :: rest, F, H, k => stepK P E l o F H fun F v H' _ => match xPut nt F o.dst v with
    | some F' => runOpsK nt l rest F' H' k
    | none => none
def stK (nt : Nat) (m : Option Nat) (ms : List Nat) (l : List Oper) : List Oper → Nat → Frm → Heap → Hits → (Frm → Heap → Hits → Option α) → Option α
  | [], _, F, H, hl, k => k F H hl
  | o :: rest, j, F, H, hl, k => match resM m o j with
    | none => stepK P E l o F H fun F v H' c => bif okT m (ms.getD j 0) j (blkOf F o) c v H' then (match xPut nt F o.dst v with
      | some F' => stK nt m ms l rest (j + 1) F' H' (bif Nat.beq c 0 then hl else (j, c, blkOf F o) :: hl) k
      | none => none) else none
    | some q => bif isCall o then (bif noRef.noRefs (o.op.operands.toList.map (ev F)) then stepK P E l o F [] fun F v X _ => match callT q v X H with
        | some (v, H', c) => bif okT m (ms.getD j 0) j (some q) c v H' then (match xPut nt F o.dst v with
          | some F' => stK nt m ms l rest (j + 1) F' H' (bif Nat.beq c 0 then hl else (j, c, some q) :: hl) k
          | none => none) else none
        | none => none else none)
      else match stepT (some q) P (calleeE P E) l o F H with
      | some (v, H', c) => bif okT m (ms.getD j 0) j (some q) c v H' then (match xPut nt F o.dst v with
        | some F' => stK nt m ms l rest (j + 1) F' H' ((j, 2, some q) :: hl) k
        | none => none) else none
      | none => none
def regionK (nt : Nat) (ops : Array Oper) (draw : Bool) (F : Frm) (H : Heap) (k : Frm → Heap → Option α) : Option α :=
  bif draw then (bif staticOk ops && startOk (modeOf ops H) F H then stK P E nt (modeOf ops H) (masks ops) ops.toList ops.toList 0 F (startH (modeOf ops H) ops.toList.length H) [] fun F H hl => bif hitsOk (masks ops) hl then k F H else none else none)
  else runOpsK P E nt ops.toList ops.toList F H k
end

section
variable {α : Type} {P : Program} {E : Env} {z : α}
theorem ask_some {b : Bool} {k : Bool → Option α} (h : ask b k = some z) : k b = some z := by cases b <;> exact h
theorem askAll_some : ∀ {l : List Bool} {r : Option α}, askAll l r = some z → allB l = true ∧ r = some z
  | [], r, h => ⟨rfl, h⟩
  | b :: l, r, h => by
    simp only [askAll] at h
    obtain ⟨rfl, h⟩ := condSome h
    exact askAll_some (l := l) h
theorem askO_some {τ : Type} {x : Option τ} {k : τ → Option α} (h : askO x k = some z) : ∃ y, x = some y ∧ k y = some z := by
  cases x with
  | none => cases h
  | some y => exact ⟨y, rfl, h⟩
theorem calK_some {g : FuncId} {args : List PV} {H : Heap} {k : PV → Heap → Nat → Option α} (h : calK P E g args H k = some z) : ∃ v H' c, calleeE P E g args H = some (v, H', c) ∧ k v H' c = some z := by
  unfold calK at h
  unfold calleeE callee
  cases hsh : E.sh g with
  | true =>
    rw [hsh] at h
    simp only [cond_true] at h ⊢
    split at h
    · rename_i r hr
      obtain ⟨x, h1, h2⟩ := askO_some h
      exact ⟨_, _, _, by simp only [sharedOf, hr, h1], h2⟩
    · cases h
  | false =>
    rw [hsh] at h
    simp only [cond_false] at h ⊢
    cases hn : noRef.noRefs args with
    | true =>
      rw [hn] at h
      simp only [cond_true] at h ⊢
      split at h
      · rename_i r hr
        obtain ⟨x, h1, h2⟩ := askO_some h
        exact ⟨_, _, _, by simp only [pureOf, hr, h1], h2⟩
      · cases h
    | false =>
      rw [hn] at h
      simp only [cond_false] at h ⊢
      cases hf : flatFn P g with
      | true =>
        rw [hf] at h
        simp only [cond_true] at h ⊢
        split at h
        · rename_i qs hq
          split at h
          · rename_i r hr
            obtain ⟨x, h1, h2⟩ := askO_some h
            obtain ⟨h3, h2⟩ := condSome h2
            exact ⟨_, _, _, by simp only [hq, pureOf, hr, h1, h3, cond_true], h2⟩
          · cases h
        · cases h
      | false =>
        rw [hf] at h
        simp only [cond_false] at h ⊢
        split at h
        · rename_i qs hq
          split at h
          · rename_i r hr
            obtain ⟨x, h1, h2⟩ := askO_some h
            exact ⟨_, _, _, by simp only [hq, pureOf, hr, h1], h2⟩
          · cases h
        · cases h
theorem fsub_eq {t : Nat} {b : Bool} : ∀ {F : Frm}, fget F t = .lit (.bool b) → fsub F t b = F
  | [], _ => rfl
  | (s, p) :: r, h => by
    simp only [fget] at h
    simp only [fsub]
    cases hs : Nat.beq s t with
    | true => rw [hs] at h; simp only [cond_true] at h ⊢; rw [h]
    | false => rw [hs] at h; simp only [cond_false] at h ⊢; rw [fsub_eq h]
theorem askT_some {F : Frm} {x : Operand} {b : Bool} {k : Frm → Bool → Option α} (h : askT F x b k = some z) (hx : ev F x = .lit (.bool b)) : k F b = some z := by
  unfold askT at h
  split at h
  · have := ask_some h
    rwa [fsub_eq (by simpa only [ev] using hx)] at this
  · exact ask_some h
theorem guardK_some {F : Frm} {l : List Oper} {o : Oper} {k : Frm → Bool → Option α} (h : guardK F l o k = some z) : ∃ b, guardOf F l o = some b ∧ k F b = some z := by
  unfold guardK at h
  unfold guardOf
  cases hg : o.guard with
  | none => rw [hg] at h; exact ⟨true, rfl, h⟩
  | some g =>
    obtain ⟨j, want⟩ := g
    rw [hg] at h
    simp only at h ⊢
    cases hp : l[j]? with
    | none => rw [hp] at h; cases h
    | some p =>
      rw [hp] at h
      simp only at h ⊢
      cases ht : p.dst with
      | none => rw [ht] at h; cases h
      | some t =>
        rw [ht] at h
        simp only at h ⊢
        split at h
        · rename_i b hb
          have := ask_some h
          rw [fsub_eq hb] at this
          exact ⟨_, by rw [hb], this⟩
        · rename_i u hu hb
          refine ⟨false, ?_, h⟩
          rw [hb]
          cases u <;> first | rfl | exact absurd rfl (hu _)
        · cases h
theorem binK_some {op : BinOp} {k1 : IntKind} {a b : Int} {k : Value → Option α} (h : binK op k1 a b k = some z) : ∃ v, xBin op k1 a b = some v ∧ k v = some z := by
  unfold binK at h
  split at h
  · cases hb : eqI b 0 with
    | true => rw [hb] at h; cases h
    | false => rw [hb] at h; exact ⟨_, by simp only [xBin, hb, cond_false], h⟩
  · cases hb : eqI b 0 with
    | true => rw [hb] at h; cases h
    | false => rw [hb] at h; exact ⟨_, by simp only [xBin, hb, cond_false], h⟩
  · split at h
    · rename_i v hv; exact ⟨v, hv, h⟩
    · cases h
theorem otherK_some {F : Frm} {H : Heap} {o : Oper} {k : Frm → PV → Heap → Nat → Option α} (h : otherK P E F H o k = some z) : ∃ v H' c, opu P (calleeE P E) F H o = some (v, H', c) ∧ k F v H' c = some z := by
  unfold otherK at h
  split at h
  · rename_i v H' c hc; exact ⟨v, H', c, hc, h⟩
  · cases h
theorem xPure_shift {F : Frm} {o : Oper} {op : BinOp} {xt yt : TypeId} {x y : Operand} {k1 k2 : IntKind} {a b : Int} {v : Value} (ho : o.op = .binOp op xt x y yt) (hx : ev F x = .lit (.int k1 a)) (hy : ev F y = .lit (.int k2 b)) (hb : ltI b 0 = false) (hv : shiftV op k1 a b = some v) : xPure P F o = some (.lit v) := by
  have hb : ¬ b < 0 := by rw [ltI_eq] at hb; exact of_decide_eq_false hb
  have h1 : valOf F x = .int k1 a := by simp [valOf, hx, toVal]
  have h2 : valOf F y = .int k2 b := by simp [valOf, hy, toVal]
  have h3 : allVal F o.op.operands.toList = true := by simp [ho, Op.operands, allVal, hx, hy, toVal]
  have h4 : isSelect o.op = false := by simp [ho, isSelect]
  unfold xPure
  rw [h3, h4]
  simp only [Bool.not_true, Bool.or_self, cond_false]
  cases op <;> simp only [shiftV] at hv <;> try (cases hv; done)
  all_goals
    simp only [Option.some.injEq] at hv
    subst hv
    simp [execOp, ho, h1, h2, eqGuard, binOp, Op.shift, hb, evalPure, constPV]
    try rfl
theorem boolK_some {F : Frm} {x : Operand} {k : Frm → Option α} (h : boolK F x k = some z) : k F = some z := by
  unfold boolK at h
  split at h
  · rename_i b hb; exact askT_some h hb
  · exact h
theorem boolsK_some : ∀ {l : List Operand} {F : Frm} {k : Frm → Option α}, boolsK l F k = some z → k F = some z
  | [], F, k, h => h
  | x :: r, F, k, h => boolsK_some (l := r) (boolK_some h)
theorem opK_some {F : Frm} {H : Heap} {o : Oper} {k : Frm → PV → Heap → Nat → Option α} (h : opK P E F H o k = some z) : ∃ v H' c, opx P (calleeE P E) F H o = some (v, H', c) ∧ k F v H' c = some z := by
  unfold opK at h
  unfold opx
  cases ht : typed P F o with
  | true =>
    rw [ht] at h
    simp only [cond_true] at h ⊢
    split at h
    · rename_i cs v H' c hc
      obtain ⟨h1, h2⟩ := askAll_some h
      exact ⟨v, H', c, by simp only [hc, h1, cond_true], h2⟩
    · cases h
  | false =>
    rw [ht] at h
    simp only [cond_false] at h ⊢
    split at h
    · rename_i op xt x y yt ho
      split at h
      · rename_i k1 a k2 b hx hy
        cases hsh : isShift op with
        | true =>
          rw [hsh] at h
          simp only [cond_true] at h
          cases hb : ltI b 0 with
          | true => rw [hb] at h; cases h
          | false =>
            rw [hb] at h
            simp only [cond_false] at h
            split at h
            · rename_i v hv
              have hp := xPure_shift (P := P) ho hx hy hb hv
              have hxb : xBin op k1 a b = none := by cases op <;> simp only [isShift] at hsh <;> first | rfl | (cases hsh; done)
              refine ⟨_, _, _, ?_, h⟩
              simp only [opu, ho, hx, hy, hxb, hp, p0, Bool.cond_self]
            · cases h
        | false =>
        rw [hsh] at h
        simp only [cond_false] at h
        cases hb : (kindEq k1 k2 && isX op) with
        | true =>
          rw [hb] at h
          simp only [cond_true] at h
          simp only [Bool.and_eq_true] at hb
          obtain ⟨v, h1, h2⟩ := binK_some h
          exact ⟨_, _, _, by simp only [opu, ho, hx, hy, hb.1, cond_true, h1], h2⟩
        | false => rw [hb] at h; exact otherK_some h
      · exact otherK_some (boolsK_some h)
    · exact otherK_some (boolsK_some h)
    · rename_i c a b ho
      split at h
      · rename_i t hc
        exact ⟨_, _, _, by simp only [opu, ho, hc], askT_some h hc⟩
      · cases h
    · rename_i c ho
      split at h
      · rename_i f hc
        split at h
        · rename_i g first caps hf
          obtain ⟨v, H', c', h1, h2⟩ := calK_some h
          exact ⟨v, H', c', by simp only [opu, ho, hc, hf, h1], h2⟩
        · rename_i g first caps hf
          obtain ⟨v, H', c', h1, h2⟩ := calK_some h
          exact ⟨v, H', c', by simp only [opu, ho, hc, hf, h1], h2⟩
        · cases h
      · exact otherK_some h
    · exact otherK_some h
theorem splitI_some {f : Int → Option α} {v : Int} : ∀ {n j : Nat}, splitI n j v f = some z → f v = some z
  | 0, _, h => by cases h
  | n + 1, j, h => by
    unfold splitI at h
    cases hb : eqI v (j : Int) with
    | true =>
      rw [hb] at h
      rw [eqI_eq, decide_eq_true_eq] at hb
      rw [hb]; exact h
    | false =>
      rw [hb] at h
      exact splitI_some h
theorem hp_notT {p : PV} (h : isHp p = true) : isT p = false := by cases p <;> first | rfl | cases h
theorem opZK_some {l : List Oper} {F : Frm} {H : Heap} {o : Oper} {k : Frm → PV → Heap → Nat → Option α} (h : opZK P E l F H o k = some z) : ∃ v H' c, opz P (calleeE P E) l F H o = some (v, H', c) ∧ k F v H' c = some z := by
  unfold opZK at h
  split at h
  · rename_i t n c ho
    cases hb : baseIn l o.dst with
    | false =>
      rw [hb] at h
      obtain ⟨v, H', c', h1, h2⟩ := opK_some h
      exact ⟨v, H', c', by simp only [opz, ho, hb, cond_false, h1], h2⟩
    | true =>
      rw [hb] at h
      simp only [cond_true] at h
      split at h
      · rename_i cs v1 H1 k1 h1
        obtain ⟨h3, h4⟩ := askAll_some h
        exact ⟨_, _, _, by simp only [opz, ho, hb, cond_true, h1, h3], h4⟩
      · cases h
  · rename_i t x i ho
    have plain : opK P E F H o k = some z → ∃ v H' c, opz P (calleeE P E) l F H o = some (v, H', c) ∧ k F v H' c = some z := fun h => by
      obtain ⟨v, H', c', h1, h2⟩ := opK_some h
      exact ⟨v, H', c', by simp only [opz, ho, h1], h2⟩
    split at h
    · rename_i n k1 v hn hv
      cases hb : isTp (ev F x) with
      | false =>
        rw [hb] at h
        simp only [cond_false] at h
        cases hb2 : isHp (ev F x) with
        | false => rw [hb2] at h; exact plain h
        | true =>
          rw [hb2] at h
          simp only [cond_true] at h
          have h := splitI_some h
          split at h
          · rename_i p H1 c1 h1
            refine ⟨_, _, _, ?_, h⟩
            have ht : typed P F o = false := by simp only [typed, ho, hb, hp_notT hb2, Bool.or_false]
            simp only [opz, ho, opx, ht, cond_false, opu, hv, h1]
          · cases h
      | true =>
        rw [hb] at h
        simp only [cond_true] at h
        have h := splitI_some h
        split at h
        · rename_i cs p H1 c1 h1
          obtain ⟨h3, h4⟩ := askAll_some h
          refine ⟨_, _, _, ?_, h4⟩
          have ht : typed P F o = true := by simp only [typed, ho, hb, Bool.or_true]
          simp only [opz, ho, opx, ht, cond_true, top, hv, h1, h3]
        · cases h
    · exact plain h
  · rename_i t x i ho
    have plain : opK P E F H o k = some z → ∃ v H' c, opz P (calleeE P E) l F H o = some (v, H', c) ∧ k F v H' c = some z := fun h => by
      obtain ⟨v, H', c', h1, h2⟩ := opK_some h
      exact ⟨v, H', c', by simp only [opz, ho, h1], h2⟩
    split at h
    · rename_i n k1 v hn hv
      cases hb : isAg (ev F x) with
      | false => rw [hb] at h; exact plain h
      | true =>
        rw [hb] at h
        simp only [cond_true] at h
        have h := splitI_some h
        split at h
        · rename_i p H1 c1 h1
          refine ⟨_, _, _, ?_, h⟩
          have ht : typed P F o = false := by simp only [typed, ho]
          obtain ⟨cs, hcs⟩ : ∃ cs, ev F x = .agg cs := by
            revert hb
            cases ev F x <;> intro hb <;> first | exact ⟨_, rfl⟩ | cases hb
          simp only [opz, ho, opx, ht, cond_false, opu, hv, hcs]
          rw [hcs] at h1
          unfold arrN at hn
          split at hn
          · rename_i n1 e1 hu
            unfold xIdx at h1
            simp only [hu] at h1 ⊢
            exact h1
          · cases hn
        · cases h
    · exact plain h
  · rename_i hno hno2 hno3
    obtain ⟨v, H', c', h1, h2⟩ := opK_some h
    refine ⟨v, H', c', ?_, h2⟩
    unfold opz
    split
    · rename_i t n c ho
      exact (hno t n c ho).elim
    · exact h1
theorem stepK_some {l : List Oper} {F : Frm} {H : Heap} {o : Oper} {k : Frm → PV → Heap → Nat → Option α} (h : stepK P E l o F H k = some z) : ∃ v H' c, opStep P (calleeE P E) l o F H = some (v, H', c) ∧ k F v H' c = some z := by
  unfold stepK at h
  obtain ⟨b, h1, h2⟩ := guardK_some h
  unfold opStep
  cases b with
  | true =>
    simp only [h1]
    simp only [cond_true] at h2
    split at h2
    · rename_i hm
      simp only [hm]
      exact opZK_some h2
    · cases h2
    · rename_i cs v hm
      obtain ⟨h3, h4⟩ := askAll_some h2
      exact ⟨_, _, _, by simp only [hm, h3, cond_true], h4⟩
  | false => exact ⟨_, _, _, by simp only [h1], h2⟩
theorem runOpsK_some {nt : Nat} {l : List Oper} {k : Frm → Heap → Option α} : ∀ {r : List Oper} {F : Frm} {H : Heap}, runOpsK P E nt l r F H k = some z → ∃ F' H', runOps P (calleeE P E) nt l r F H = some (F', H') ∧ k F' H' = some z
  | [], F, H, h => ⟨F, H, rfl, h⟩
  | o :: r, F, H, h => by
    simp only [runOpsK] at h
    obtain ⟨v, H1, c, h1, h2⟩ := stepK_some h
    split at h2
    · rename_i F1 hp
      obtain ⟨F', H', h3, h4⟩ := runOpsK_some h2
      refine ⟨F', H', ?_, h4⟩
      simp only [runOps, h1, fPV_eq, hp, fHeap_eq, Bool.cond_self, h3]
    · cases h2
theorem stK_some {nt : Nat} {m : Option Nat} {ms : List Nat} {l : List Oper} {F0 : Frm} {H0 : Heap} {k : Frm → Heap → Hits → Option α} : ∀ {r : List Oper} {j : Nat} {F : Frm} {H : Heap} {hl : Hits}, stK P E nt m ms l r j F H hl k = some z → r = l.drop j → j ≤ l.length → stAt P (calleeE P E) nt m ms l F0 H0 j = some (F, H, hl) → ∃ F' H' hl', stAt P (calleeE P E) nt m ms l F0 H0 l.length = some (F', H', hl') ∧ k F' H' hl' = some z
  | [], j, F, H, hl, h, hr, hjl, hs => by
    have h1 : (l.drop j).length = 0 := by rw [← hr]; rfl
    rw [List.length_drop] at h1
    have h2 : j = l.length := by omega
    subst h2
    exact ⟨F, H, hl, hs, h⟩
  | o :: r, j, F, H, hl, h, hr, hjl, hs => by
    have hj : l[j]? = some o := by
      have : (l.drop j)[0]? = some o := by rw [← hr]; rfl
      simpa using this
    have hr' : r = l.drop (j + 1) := by
      have : (l.drop j).tail = r := by rw [← hr]; rfl
      rw [← this, List.tail_drop]
    simp only [stK] at h
    split at h
    · rename_i hres
      obtain ⟨v, H1, c, h1, h2⟩ := stepK_some h
      obtain ⟨hok, h2⟩ := condSome h2
      split at h2
      · rename_i F1 hp
        refine stK_some h2 hr' (List.getElem?_eq_some_iff.1 hj).1 ?_
        simp only [stAt, hs, hj, hres, stepT, h1, hok, cond_true, fPV_eq, hp, fHeap_eq, blkT]
        cases Nat.beq c 0 <;> rfl
      · cases h2
    · rename_i q hres
      cases hcall : isCall o with
      | true =>
        rw [hcall] at h
        simp only [cond_true] at h
        obtain ⟨hnr, h⟩ := condSome h
        obtain ⟨v0, X, c0, h1, h⟩ := stepK_some h
        split at h
        · rename_i v H1 c hct
          obtain ⟨hok, h2⟩ := condSome h
          split at h2
          · rename_i F1 hp
            refine stK_some h2 hr' (List.getElem?_eq_some_iff.1 hj).1 ?_
            have hop : ∃ cc, o.op = .call cc := by
              unfold isCall at hcall
              split at hcall
              · unfold isOwnCall at hcall
                split at hcall
                · rename_i cc hcc; exact ⟨cc, hcc⟩
                · cases hcall
              · cases hcall
            obtain ⟨cc, hop⟩ := hop
            have hst : stepT (some q) P (calleeE P E) l o F H = some (v, H1, c) := by
              simp only [stepT, hop]
              rw [← hop, hnr, cond_true, h1]
              exact hct
            simp only [stAt, hs, hj, hres, hst, hok, cond_true, fPV_eq, hp, fHeap_eq, blkT]
            cases Nat.beq c 0 <;> rfl
          · cases h2
        · cases h
      | false =>
      rw [hcall] at h
      simp only [cond_false] at h
      split at h
      · rename_i v H1 c h1
        obtain ⟨hok, h2⟩ := condSome h
        split at h2
        · rename_i F1 hp
          refine stK_some h2 hr' (List.getElem?_eq_some_iff.1 hj).1 ?_
          have hc : c = 2 := by
            simp only [stepT] at h1
            split at h1
            · split at h1
              · obtain ⟨_, h1⟩ := condSome h1
                simp only [Option.some.injEq, Prod.mk.injEq] at h1
                exact h1.2.2.symm
              · cases h1
            · obtain ⟨_, h1⟩ := condSome h1
              split at h1
              · rcases callT_some h1 with ⟨_, _, _, _, _, _, h1, _⟩ | ⟨_, _, _, _, _⟩
                · exact h1
                · obtain ⟨_, _, _, ha⟩ := resM_some hres
                  unfold isAlloc at ha
                  rw [hcall, Bool.or_false] at ha
                  unfold isVar at ha
                  split at ha
                  · simp_all
                  · cases ha
              · cases h1
            · cases h1
          subst hc
          simp only [stAt, hs, hj, hres, h1, hok, cond_true, fPV_eq, hp, fHeap_eq, blkT]
          rfl
        · cases h2
      · cases h
theorem regionK_draw {nt : Nat} {ops : Array Oper} {F : Frm} {H : Heap} {k : Frm → Heap → Option α} (h : regionK P E nt ops true F H k = some z) : ∃ F' H', runDraw P (calleeE P E) nt ops F H = some (F', H') ∧ k F' H' = some z := by
  unfold regionK at h
  simp only [cond_true] at h
  obtain ⟨h1, h⟩ := condSome h
  obtain ⟨F', H', hl, h2, h3⟩ := stK_some h (F0 := F) (H0 := startH (modeOf ops H) ops.toList.length H) (by simp) (Nat.zero_le _) rfl
  obtain ⟨h4, h3⟩ := condSome h3
  exact ⟨F', H', by simp only [runDraw, h1, cond_true, h2, h4], h3⟩
theorem regionK_sound {nt : Nat} {id : Nat} {ops : Array Oper} {draw : Bool} {F : Frm} {H : Heap} {k : Frm → Heap → Option α} (hcl : CalleeOK P (calleeE P E)) (hP : P.follows .mixedOrders = true) (h : regionK P E nt ops draw F H k = some z) :
    ∃ F' H', k F' H' = some z ∧ ∀ {n0 wi Gi μi a w} {Q : Exit → Act → World → Prop}, I n0 wi Gi μi nt F H a w → (∀ a' w', I n0 wi Gi μi nt F' H' a' w' → Q .normal a' w') → (Code.region id ops draw).wp P Q a w := by
  cases draw with
  | true =>
    obtain ⟨F', H', h2, h3⟩ := regionK_draw h
    exact ⟨F', H', h3, fun hI hQ => runDraw_sound hcl hP h2 hI hQ⟩
  | false =>
    unfold regionK at h
    simp only [cond_false] at h
    obtain ⟨F', H', h2, h3⟩ := runOpsK_some h
    exact ⟨F', H', h3, fun hI hQ => wp_region_list (runOps_sound hcl ops.toList F H _ _ h2 hI hQ)⟩
end
end Go.PM
