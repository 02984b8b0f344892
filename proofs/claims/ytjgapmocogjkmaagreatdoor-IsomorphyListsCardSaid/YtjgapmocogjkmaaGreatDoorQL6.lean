/- Texts of one proof, joined (6). -/
import Derived.Test.YtjgapmocogjkmaaGreatDoorQL5
set_option linter.unusedSimpArgs false
set_option linter.unusedVariables false
namespace Go.PM
open Go Go.RowKit
structure D8 (Y : Type) where
 sh : List (Nat×Kd)
 exits : List (Ex×List (Nat×Kd))
 run : Shape.den sh→Option (List Y×aR exits)
def bDV (o : Oper) : Bool:=match o.op with
 | .call c=>match c.callee with
  | .value (.tmp _)=>true
  | _=>false
 | _=>false
def a5J : List Oper→Nat→Option Nat
 | [],_=>none
 | o :: r,i=>bif bDV o then some i else a5J r (i + 1)
def outs {Y α : Type} (l : List Y) : Option (List Y×α)→Option (List Y×α)
 | some (m,z)=>some (l ++ m,z)
 | none=>none
def aML {Y τ α : Type} (r : Option (List Y×τ)) (k : τ→Option (List Y×α)) : Option (List Y×α):=match r with
 | some (l,z)=>outs l (k z)
 | none=>none
def aVN {Y : Type} : Option (List Y×Unit)→Option (List Y)
 | some (l,_)=>some l
 | none=>none
section
variable {α : Type} (P : Program) (E : Env) (nt aU : Nat) (lt : Nat→Option aS) (ks : List Kd) (li : Nat→Option (D8 (Value×aI ks)))
def bEA (ops : Array Oper) (o : Oper) (rest : List Oper) (F : Frm) (H : Heap) (k : Frm→Heap→Option (List (Value×aI ks)×α)) (kx : Frm→Heap→Option Unit) : Option (List (Value×aI ks)×α) :=
 aIN F ops.toList o fun F b=>bif b then (match o.op with
  | .call c=>match c.callee with
   | .value f=>match ev F f with
    | .lit yv=>bif c6.noRefs (c.args.toList.map (ev F)) && ks.all Kd.plain then (match aGQ ks (c.args.toList.map (ev F)) with
     | some e=>match GI nt F o.dst (.lit (.bool true)),GI nt F o.dst (.lit (.bool false)) with
      | some F1,some F2=>match AG P E nt ops.toList rest F2 H kx with
       | some _=>outs [(yv,e)] (AG P E nt ops.toList rest F1 H k)
       | none=>none
      | _,_=>none
     | none=>none) else none
    | _=>none
   | _=>none
  | _=>none) else match GI nt F o.dst (.lit undef) with
   | some F1=>AG P E nt ops.toList rest F1 H k
   | none=>none
def xJ : Code→Frm→Heap→(Ex→Frm→Heap→Option (List (Value×aI ks)×α))→(Ex→Frm→Heap→Option Unit)→Option (List (Value×aI ks)×α)
 | .skip,F,H,k,_=>k .normal F H
 | .label _,F,H,k,_=>k .normal F H
 | .region _ ops draw,F,H,k,kx=>match a5J ops.toList 0 with
  | none=>bif I4 ops then sX P E nt ops draw F H fun F H=>K7 aU F fun F=>k .normal F H else none
  | some s=>bif YY ops s then match ops.toList.drop s with
   | o :: rest=>bif rest.all (fun o=>!aJC o.op) then
     (bif draw then sX P E nt (ops.toList.take s).toArray true F H else AG P E nt ops.toList (ops.toList.take s) F H) fun F H =>
      bEA P E nt ks ops o rest F H (fun F H=>K7 aU F fun F=>k .normal F H) (fun F H=>kx .normal F H)
    else none
   | []=>none
   else none
 | .seq a b,F,H,k,kx=>xJ a F H (fun ex F H=>match ex with
  | .normal=>xJ b F H k kx
  | .exit i=>k (.exit i) F H
  | .ret=>k .ret F H) (fun ex F H=>match ex with
  | .normal=>qS P E nt aU lt (fun _=>none) true [] b F H kx
  | .exit i=>kx (.exit i) F H
  | .ret=>kx .ret F H)
 | .cond c a b,F,H,k,kx=>match ev F c with
  | .lit (.bool t)=>aOL F c t fun F t=>bif t then xJ a F H k kx else xJ b F H k kx
  | _=>none
 | .block id a,F,H,k,kx=>xJ a F H (fun ex F H=>match ex with
  | .exit i=>bif Nat.beq i id then k .normal F H else k (.exit i) F H
  | .normal=>k .normal F H
  | .ret=>k .ret F H) (fun ex F H=>match ex with
  | .exit i=>bif Nat.beq i id then kx .normal F H else kx (.exit i) F H
  | .normal=>kx .normal F H
  | .ret=>kx .ret F H)
 | .loop a,F,H,k,_=>match li (aG a) with
  | some s=>match pO [] s.sh F H with
   | some x=>aML (s.run x) fun z=>aPN s.exits z k
   | none=>none
  | none=>match lt (aG a) with
   | some s=>match pO [] s.sh F H with
    | some x=>aB (s.run x) fun z=>aPN s.exits z k
    | none=>none
   | none=>none
 | .exit id,F,H,k,_=>k (.exit id) F H
 | .ret,F,H,k,_=>k .ret F H
 | _,_,_,_,_=>none
end
def a1K : Ex→Frm→Heap→Option Unit:=fun ex _ _=>match ex with
 | .ret=>some ()
 | _=>none
def aW3 {Y : Type} (sh : List (Nat×Kd)) (exits : List (Ex×List (Nat×Kd))) (ex : Ex) (F : Frm) (H : Heap) : Option (List Y×(Shape.den sh ⊕ aR exits)):=match XJ [] sh exits ex F H with
 | some z=>some ([],z)
 | none=>none
def aPI (P : Program) (E : Env) (nt aU : Nat) (lt : Nat→Option aS) (ks : List Kd) (li : Nat→Option (D8 (Value×aI ks))) (a : Code) (sh : List (Nat×Kd)) (exits : List (Ex×List (Nat×Kd))) (x : Shape.den sh) : Option (List (Value×aI ks)×(Shape.den sh ⊕ aR exits)) :=
 xJ P E nt aU lt ks li a (pJ sh x 0) (wQ sh x) (aW3 sh exits) a1K
def RJ {Y σ τ : Type} (step : σ→Option (List Y×(σ ⊕ τ))) : Nat→σ→Option (List Y×τ)
 | 0,_=>none
 | n + 1,x=>match step x with
  | some (l,.inl y)=>outs l (RJ step n y)
  | some (l,.inr z)=>some (l,z)
  | none=>none

theorem TO {Y α : Type} {l : List Y} {r : Option (List Y×α)} {m : List Y} {z : α} (h : outs l r = some (m,z)) : ∃ m',r = some (m',z)∧m = l ++ m':=by
 cases r with
 | none=>cases h
 | some p =>
  obtain ⟨m',z'⟩:=p
  simp only [outs,Option.some.injEq,Prod.mk.injEq] at h
  obtain ⟨h1,h2⟩:=h
  subst h2
  exact ⟨m',rfl,h1.symm⟩

section
variable {P : Program} {E : Env} {nt aU : Nat} {lt : Nat→Option aS} {ks : List Kd} {li : Nat→Option (D8 (Value×aI ks))}
variable {Φ : (Nat→Prop)→(Nat→Prop)→World→Prop} {G0 G G' : Gd} {μ μ' : Mp} {H H' : Heap} {A A' W : World} {F F' : Frm} {n : Nat} {a : Act}
theorem Sg.aYC (h : Sg Φ G0 G μ H A) : ∃ n0,aV n0 G μ H A∧(∀ b,G0 b→G b)∧∀ A' G' μ' H',Ext n0 A G aL A' G' μ'→aV n0 G' μ' H' A'→Sg Φ G0 G' μ' H' A':=by
 obtain ⟨T,X,B,GB,μB,h1,h2,h3,h4,h5,h6,h7⟩:=h
 refine ⟨_,h7,fun b hb=>(h6.cW b (h5 b hb)).1,fun A' G' μ' H' e w=>⟨T,X,B,GB,aL,h1,h2,h3,h4,h5,?_,w⟩⟩
 have h6' : Ext (fun b=>X b ∨ B.heap.size ≤ b) B GB aL A G aL:=h6.plain
 exact h6'.trans e
theorem aP5 {c : Code} {r : Ex×Frm×Heap} (h : aJX P nt true [] c F H r) {Q : Exit→Act→World→Prop} (hS : Sg Φ G0 G μ H A) (hF : eP A G μ nt F a)
  (hQ : ∀ G' μ' a' A',Sg Φ G0 G' μ' r.2.2 A'→eP A' G' μ' nt r.2.1 a'→Q r.1.to a' A') : c.wpIn Fence.wide n P Q a A:=by
 obtain ⟨n0,hW,_,hS2⟩:=hS.aYC
 have e0 : Ext n0 A G aL A G μ:={ cW:=fun _ h=>⟨h,rfl⟩,map:=fun _ _ h=>(by cases h),len:=fun _ _ h=>(by cases h),room:=fun _ _ h=>h,row:=fun _ _ h=>h,os:=rfl,tape:=rfl,output:=rfl,size:=Nat.le_refl _,old:=fun _ _ _=>rfl,new:=fun _ h=>.inl h }
 refine wpIn_mono (h none n n0 A G aL a A (fun h=>(by cases h)) (fun r _=>⟨rfl,rfl⟩) ⟨G,μ,e0,hW,hF.same,by rw [hF.defers]; trivial⟩) ?_
 rintro e a' w' ⟨rfl,⟨G',μ',e',hW',hF',_⟩,hd⟩
 refine hQ G' μ' a' w' (hS2 _ _ _ _ e' hW') ⟨hF'.size,hF'.slot,?_⟩
 rw [hd rfl]; exact hF.defers

def bFL (P : Program) (ks : List Kd) (l : Nat) (G0 : Gd) (all : List (aI ks)) (J Jx : List (aI ks)→(Nat→Prop)→(Nat→Prop)→World→Prop) : Prop :=
 ∀ pre e post T X B T' X' A us Gx m',all = pre ++ e :: post→J pre T X B→Stp X B A→(∀ b,T' b→(T b ∨ B.heap.size ≤ b)∧b < A.heap.size)→(∀ b,X' b→T' b∧(X b ∨ B.heap.size ≤ b)) →
   (∀ b,Gx b→(G0 b ∨ T' b)∧¬ X' b)→VRs A (Gd.of Gx) aL (iP ks e) us →
   YieldAt Fence.wide m' P l us.toArray A fun en C =>
    ((∀ b,b < A.heap.size→G0 b ∨ T' b→C.heap[b]? = A.heap[b]?)∧(∀ b n,Room A b n→Room C b n)∧A.heap.size ≤ C.heap.size)∧((en = .returned (.bool true)∧J (pre ++ [e]) T' X' C) ∨ (en = .returned (.bool false)∧Jx (pre ++ [e]) T' X' C))
def aXD (P : Program) (nt : Nat) (ks : List Kd) (c : Code) (F : Frm) (H : Heap) (ys : List (Value×aI ks)) (r : Ex×Frm×Heap) (kx : Ex→Frm→Heap→Option Unit) : Prop :=
 ∀ (l : Nat) (yv : Value),yv = .func (.yield l) #[] #[]→∀ (G0 : Gd) (all : List (aI ks)) (J Jx : List (aI ks)→(Nat→Prop)→(Nat→Prop)→World→Prop),bFL P ks l G0 all J Jx →
  ∀ (pre post : List (aI ks)) (n : Nat) (a : Act) (A : World) (G : Gd) (μ : Mp),all = pre ++ (ys.map (·.2) ++ post)→(∀ y ∈ ys,y.1 = yv)→Sg (J pre) G0 G μ H A→eP A G μ nt F a →
  c.wpIn Fence.wide n P (fun e a' A'=>(e = r.1.to∧∃ G' μ',Sg (J (pre ++ ys.map (·.2))) G0 G' μ' r.2.2 A'∧eP A' G' μ' nt r.2.1 a') ∨
   (∃ ex' F' H' pre' G' μ',kx ex' F' H' = some ()∧e = ex'.to∧Sg (Jx pre') G0 G' μ' H' A'∧eP A' G' μ' nt F' a')) a A
def aM9 (P : Program) (nt : Nat) (ks : List Kd) (a : Code) (s : D8 (Value×aI ks)) : Prop :=
 ∀ x ys z,s.run x = some (ys,z)→aXD P nt ks (.loop a) (pJ s.sh x 0) (wQ s.sh x) ys (rJ s.exits z) a1K
def WN (P : Program) (nt : Nat) (lt : Nat→Option aS) (ks : List Kd) (li : Nat→Option (D8 (Value×aI ks))) : Code→Prop
 | .loop a=>(∀ s,lt (aG a) = some s→qJ P nt true [] (.loop a) s)∧(∀ s,li (aG a) = some s→aM9 P nt ks a s)
 | _=>True

theorem GC {c : Code} {r : Ex×Frm×Heap} {kx : Ex→Frm→Heap→Option Unit} (h : aJX P nt true [] c F H r) : aXD P nt ks c F H [] r kx:=by
 intro l yv hyv G0 all J Jx hY pre post n a A G μ hall hys hS hF
 refine aP5 h hS hF fun G' μ' a' A' hS' hF'=>.inl ⟨rfl,G',μ',?_,hF'⟩
 rw [List.map_nil,List.append_nil]; exact hS'
theorem aI6 (hcl : cV P (dR P E)) (hP : P.follows .mixedOrders = true) {α : Type} {id : Nat} {ops : Array Oper} {draw : Bool} {k : Ex→Frm→Heap→Option α} {z : α} (h : sX P E nt ops draw F H (fun F H=>K7 aU F fun F=>k .normal F H) = some z) (hd : I4 ops = true) :
  ∃ r : Ex×Frm×Heap,k r.1 r.2.1 r.2.2 = some z∧aJX P nt true [] (.region id ops draw) F H r:=by
 obtain ⟨F1,H1,h1,h2⟩:=aA9 (id:=id) hcl hP hd h
 obtain ⟨F2,h3,h4⟩:=AU aU F1 fun F=>k .normal F H1
 rw [h3] at h1
 exact ⟨(.normal,F2,H1),h1,fun _ _ _ _ _ _ _ _ _ _ hI=>h2 hI fun a' w' hd' hI'=>⟨rfl,hI'.a1C h4,fun _=>hd'⟩⟩
theorem aA8 (hcl : cV P (dR P E)) {ops : Array Oper} {l : List Oper} (hrun : D9 P (dR P E) nt ops.toList l F H = some (F',H')) (hnd : (l.all fun o=>!aJC o.op) = true) {Q : Exit→Act→World→Prop}
  (hS : Sg Φ G0 G μ H A) (hF : eP A G μ nt F a) (hQ : ∀ G' μ' a' A',Sg Φ G0 G' μ' H' A'→eP A' G' μ' nt F' a'→Q .normal a' A') : wpListIn Fence.wide n P ops Q l a A:=by
 obtain ⟨n0,hW,_,hS2⟩:=hS.open_
 have h1:=rR (Q:=fun e a' w'=>e = .normal∧I n0 A G μ nt F' H' a' w') hcl l F H a A hrun ⟨G,μ,Ext.refl _ _ _ _,hW,hF⟩ (fun a' w' h=>⟨rfl,h⟩)
 have h2:=R7 (ro:=none) (n:=n) (ds:=[]) (Q':=Q) (fun a w h=>by cases h.1) (fun e a' w' h=>by
  obtain ⟨rfl,G',μ',e,hW',hF'⟩:=h
  have e1 : nM [] a' = a':=by simp [nM]
  rw [e1]
  exact hQ G' μ' a' w' (hS2 _ _ _ _ e hW') hF') (fun o ho c hc=>by
  have:=List.all_eq_true.1 hnd o ho
  rw [hc] at this
  cases this) h1
 have e1 : nM [] a = a:=by simp [nM]
 rw [e1] at h2
 exact h2
theorem aRG (hcl : cV P (dR P E)) (hP : P.follows .mixedOrders = true) {α : Type} {id s : Nat} {ops : Array Oper} {draw : Bool} (hsp : YY ops s = true) {k : Frm→Heap→Option α} {z : α}
  (h : (bif draw then sX P E nt (ops.toList.take s).toArray true F H else AG P E nt ops.toList (ops.toList.take s) F H) k = some z) :
  ∃ F1 H1,k F1 H1 = some z∧∀ {Φ : (Nat→Prop)→(Nat→Prop)→World→Prop} {G0 G : Gd} {μ : Mp} {A : World} {a : Act} {n : Nat} {Q : Exit→Act→World→Prop},Sg Φ G0 G μ H A→eP A G μ nt F a →
   (∀ G' μ' a' A',Sg Φ G0 G' μ' H1 A'→eP A' G' μ' nt F1 a'→wpListIn Fence.wide n P ops Q (ops.toList.drop s) a' A')→(Code.region id ops draw).wpIn Fence.wide n P Q a A:=by
 obtain ⟨F1,H1,hrun,hk⟩ : ∃ F1 H1,(bif draw then I0 P (dR P E) nt (ops.toList.take s).toArray F H else D9 P (dR P E) nt ops.toList (ops.toList.take s) F H) = some (F1,H1)∧k F1 H1 = some z:=by
  cases draw with
  | true =>
   simp only [cond_true] at h ⊢
   exact HC h
  | false =>
   simp only [cond_false] at h ⊢
   obtain ⟨F1,H1,h2,h3⟩:=o9 h
   exact ⟨F1,H1,h2,h3⟩
 refine ⟨F1,H1,hk,?_⟩
 intro Φ G0 G μ A a n Q hS hF hQ
 obtain ⟨n0,hW,_,hS2⟩:=hS.open_
 have:=aGT (ro:=none) (n:=n) (ds:=[]) (Q:=Q) hcl hP (id:=id) hsp hrun (n0:=n0) (wi:=A) (Gi:=G) (μi:=μ) (a:=a) (w:=A) ⟨G,μ,Ext.refl _ _ _ _,hW,hF⟩ (fun a' w' h=>by
  obtain ⟨G',μ',e,hW',hF'⟩:=h
  have e1 : nM [] a' = a':=by simp [nM]
  rw [e1]
  exact hQ G' μ' a' w' (hS2 _ _ _ _ e hW') hF')
 have e1 : nM [] a = a:=by simp [nM]
 rw [e1] at this
 exact this
theorem aWG {l : List Operand} (hF : eP A G μ nt F a) : VRs A G μ (l.map (ev F)) (l.map a.eval):=by
 induction l with
 | nil=>rw [List.map_nil,List.map_nil,VRs]
 | cons x l ih =>
  rw [List.map_cons,List.map_cons,VRs]
  exact ⟨_,_,rfl,bX hF x,ih⟩

theorem oY {α : Type} (hcl : cV P (dR P E)) (hP : P.follows .mixedOrders = true) : ∀ (c : Code) (F : Frm) (H : Heap) (k : Ex→Frm→Heap→Option (List (Value×aI ks)×α)) (kx : Ex→Frm→Heap→Option Unit) (ys : List (Value×aI ks)) (z : α),
  (∀ F H,kx .ret F H = some ())→(∀ a ∈ bQ c,WN P nt lt ks li a)→xJ P E nt aU lt ks li c F H k kx = some (ys,z) →
  ∃ ys1 ys2 r,k r.1 r.2.1 r.2.2 = some (ys2,z)∧ys = ys1 ++ ys2∧aXD P nt ks c F H ys1 r kx
 | .skip,F,H,k,kx,ys,z,hx,hl,h=>⟨[],ys,(.normal,F,H),h,rfl,GC fun _ _ _ _ _ _ _ _ _ _ hI=>wpIn_skip ⟨rfl,hI,fun _=>rfl⟩⟩
 | .label l,F,H,k,kx,ys,z,hx,hl,h=>⟨[],ys,(.normal,F,H),h,rfl,GC fun _ _ _ _ _ _ _ _ _ _ hI=>wpIn_label ⟨rfl,hI,fun _=>rfl⟩⟩
 | .exit id,F,H,k,kx,ys,z,hx,hl,h=>⟨[],ys,(.exit id,F,H),h,rfl,GC fun _ _ _ _ _ _ _ _ _ _ hI=>wpIn_exit ⟨rfl,hI,fun _=>rfl⟩⟩
 | .ret,F,H,k,kx,ys,z,hx,hl,h=>⟨[],ys,(.ret,F,H),h,rfl,GC fun _ _ _ _ _ _ _ _ _ _ hI=>wpIn_ret ⟨rfl,hI,fun _=>rfl⟩⟩
 | .region id ops draw,F,H,k,kx,ys,z,hx,hl,h=>by
  simp only [xJ] at h
  split at h
  ·obtain ⟨hd,h⟩:=aM h
   obtain ⟨r,h1,h2⟩:=aI6 (id:=id) hcl hP h hd
   exact ⟨[],ys,r,h1,rfl,GC h2⟩
  ·rename_i s hs
   obtain ⟨hsp,h⟩:=aM h
   split at h
   ·rename_i o rest hdrop
    obtain ⟨hnd,h⟩:=aM h
    obtain ⟨F1,H1,hk,hsplit⟩:=aRG (id:=id) hcl hP hsp h
    unfold bEA at hk
    obtain ⟨b,hg,hk⟩:=WU hk
    cases b with
    | true =>
     simp only [cond_true] at hk
     split at hk
     ·rename_i c hoc
      split at hk
      ·rename_i f hcf
       split at hk
       ·rename_i yv hyv
        obtain ⟨hnr,hk⟩:=aM hk
        rw [Bool.and_eq_true] at hnr
        obtain ⟨hnr,hplk⟩:=hnr
        split at hk
        ·rename_i e he
         split at hk
         ·rename_i F2 F3 hp2 hp3
          split at hk
          ·rename_i u hstop
           obtain ⟨ys2,hlive,rfl⟩:=TO hk
           obtain ⟨F4,H4,hrun4,hk4⟩:=o9 hlive
           obtain ⟨F5,H5,hrun5,hk5⟩:=o9 hstop
           obtain ⟨F6,h6,h7⟩:=AU aU F4 fun F=>k .normal F H4
           rw [h6] at hk4
           refine ⟨[(yv,e)],ys2,(.normal,F6,H4),hk4,rfl,?_⟩
           intro l yv' hyv' G0 all J Jx hY pre post n a A G μ hall hys hS hF
           have hyy:=hys _ (List.mem_singleton.2 rfl)
           dsimp only at hyy
           subst hyy
           refine hsplit hS hF fun G1 μ1 a1 A1 hS1 hF1=>?_
           rw [hdrop]
           have hw:=pX hF1 hg
           have hv:=aWG (l:=c.args.toList) hF1
           have hv0:=cH _ _ hnr hv
           have hve:=yN ks he hv0
           have hfe:=bX hF1 f
           rw [hyv,VR] at hfe
           have hall' : all = pre ++ e :: post:=by rw [hall]; rfl
           refine aWT hoc hcf hw (hfe.trans hyv') (us:=(c.args.toList.map a1.eval).toArray) (by rw [← Array.toList_map]) (fun m'=>hS1.yield hY hall' hve (aB8 ks e hplk) m') ?_
           rintro en C ⟨hmo,hout⟩
           rcases hout with ⟨rfl,hS2⟩ | ⟨rfl,hS2⟩
           ·refine ⟨_,rfl,aA8 hcl hrun4 hnd hS2 ((hF1.mono hmo).ZO hp2 (by rw [VR])) fun G2 μ2 a2 A2 hS3 hF3=>.inl ⟨rfl,G2,μ2,hS3,?_⟩⟩
            exact ⟨hF3.size,fun t=>by
             rcases h7 t with h8 | h8
             ·rw [h8]; exact hF3.slot t
             ·rw [h8,VR]; trivial,hF3.defers⟩
           ·exact ⟨_,rfl,aA8 hcl hrun5 hnd hS2 ((hF1.mono hmo).ZO hp3 (by rw [VR])) fun G2 μ2 a2 A2 hS3 hF3=>.inr ⟨.normal,F5,H5,_,G2,μ2,hk5,rfl,hS3,hF3⟩⟩
          ·cases hk
         ·cases hk
        ·cases hk
       ·cases hk
      ·cases hk
     ·cases hk
    | false =>
     simp only [cond_false] at hk
     split at hk
     ·rename_i F2 hp2
      obtain ⟨F4,H4,hrun4,hk4⟩:=o9 hk
      obtain ⟨F6,h6,h7⟩:=AU aU F4 fun F=>k .normal F H4
      rw [h6] at hk4
      refine ⟨[],ys,(.normal,F6,H4),hk4,rfl,?_⟩
      intro l yv' hyv' G0 all J Jx hY pre post n a A G μ hall hys hS hF
      refine hsplit hS hF fun G1 μ1 a1 A1 hS1 hF1=>?_
      rw [hdrop]
      refine a4W (pX hF1 hg) (aA8 hcl hrun4 hnd hS1 (hF1.ZO hp2 (by rw [VR])) fun G2 μ2 a2 A2 hS3 hF3=>.inl ⟨rfl,G2,μ2,?_,?_⟩)
      ·rw [List.map_nil,List.append_nil]; exact hS3
      ·exact ⟨hF3.size,fun t=>by
        rcases h7 t with h8 | h8
        ·rw [h8]; exact hF3.slot t
        ·rw [h8,VR]; trivial,hF3.defers⟩
     ·cases hk
   ·cases h
 | .seq x y,F,H,k,kx,ys,z,hx,hl,h=>by
  simp only [xJ] at h
  obtain ⟨ys1,ys2,⟨ex,F1,H1⟩,h1,rfl,h2⟩:=oY hcl hP x F H _ _ ys z (by intro F H; exact hx F H) (fun a ha=>hl a (by simp [bQ,ha])) h
  have stop : ∀ {l : Nat} {yv : Value} {G0 : Gd} {all : List (aI ks)} {J Jx : List (aI ks)→(Nat→Prop)→(Nat→Prop)→World→Prop} {n : Nat} {R : Exit→Act→World→Prop},
    (∀ e a' A',(∃ ex' F' H' pre' G' μ',kx ex' F' H' = some ()∧e = ex'.to∧Sg (Jx pre') G0 G' μ' H' A'∧eP A' G' μ' nt F' a')→R e a' A')→∀ ex' F' H' pre' G' μ' a' A',
    (match ex' with
     | Ex.normal=>qS P E nt aU lt (fun _=>none) true [] y F' H' kx
     | Ex.exit i=>kx (Ex.exit i) F' H'
     | Ex.ret=>kx Ex.ret F' H') = some ()→Sg (Jx pre') G0 G' μ' H' A'→eP A' G' μ' nt F' a' →
    Exit.then (y.wpIn Fence.wide n P R) R ex'.to a' A':=by
   intro l yv G0 all J Jx n R hR ex' F' H' pre' G' μ' a' A' hm hS hF
   cases ex' with
   | normal =>
    obtain ⟨r,h3,h4⟩:=iG hcl hP y F' H' kx () (fun a ha=>by
     have:=hl a (by simp [bQ,ha])
     cases a with
     | loop b=>exact this.1
     | rangeFunc g ps as1 b=>intro h; cases h
     | _=>trivial) hm
    refine aP5 h4 hS hF fun G2 μ2 a2 A2 hS2 hF2=>hR _ _ _ ⟨r.1,r.2.1,r.2.2,pre',G2,μ2,h3,rfl,hS2,hF2⟩
   | exit i=>exact hR _ _ _ ⟨.exit i,F',H',pre',G',μ',hm,rfl,hS,hF⟩
   | ret=>exact hR _ _ _ ⟨.ret,F',H',pre',G',μ',hm,rfl,hS,hF⟩
  cases ex with
  | normal =>
   obtain ⟨ys3,ys4,r,h3,rfl,h4⟩:=oY hcl hP y F1 H1 k kx ys2 z hx (fun a ha=>hl a (by simp [bQ,ha])) h1
   refine ⟨ys1 ++ ys3,ys4,r,h3,by rw [List.append_assoc],?_⟩
   intro l yv hyv G0 all J Jx hY pre post n a A G μ hall hys hS hF
   refine wpIn_seq (wpIn_mono (h2 l yv hyv G0 all J Jx hY pre (ys3.map (·.2) ++ post) n a A G μ (by rw [hall,List.map_append,List.append_assoc]) (fun y hy=>hys y (List.mem_append_left _ hy)) hS hF) ?_)
   rintro e a' w' (⟨rfl,G',μ',hS',hF'⟩ | ⟨ex',F',H',pre',G',μ',hm,rfl,hS',hF'⟩)
   ·refine wpIn_mono (h4 l yv hyv G0 all J Jx hY (pre ++ ys1.map (·.2)) post n a' w' G' μ' (by rw [hall,List.map_append,List.append_assoc,List.append_assoc]) (fun y hy=>hys y (List.mem_append_right _ hy)) hS' hF') ?_
    rintro e a'' w'' (⟨rfl,G2,μ2,hS2,hF2⟩ | hst)
    ·refine .inl ⟨rfl,G2,μ2,?_,hF2⟩
     rw [List.map_append,← List.append_assoc]; exact hS2
    ·exact .inr hst
   ·exact stop (l:=l) (yv:=yv) (all:=all) (J:=J) (fun e a' A' h=>Or.inr h) ex' F' H' pre' G' μ' a' w' hm hS' hF'
  | exit i =>
   refine ⟨ys1,ys2,(.exit i,F1,H1),h1,rfl,?_⟩
   intro l yv hyv G0 all J Jx hY pre post n a A G μ hall hys hS hF
   refine wpIn_seq (wpIn_mono (h2 l yv hyv G0 all J Jx hY pre post n a A G μ hall hys hS hF) ?_)
   rintro e a' w' (⟨rfl,G',μ',hS',hF'⟩ | ⟨ex',F',H',pre',G',μ',hm,rfl,hS',hF'⟩)
   ·exact .inl ⟨rfl,G',μ',hS',hF'⟩
   ·exact stop (l:=l) (yv:=yv) (all:=all) (J:=J) (fun e a' A' h=>Or.inr h) ex' F' H' pre' G' μ' a' w' hm hS' hF'
  | ret =>
   refine ⟨ys1,ys2,(.ret,F1,H1),h1,rfl,?_⟩
   intro l yv hyv G0 all J Jx hY pre post n a A G μ hall hys hS hF
   refine wpIn_seq (wpIn_mono (h2 l yv hyv G0 all J Jx hY pre post n a A G μ hall hys hS hF) ?_)
   rintro e a' w' (⟨rfl,G',μ',hS',hF'⟩ | ⟨ex',F',H',pre',G',μ',hm,rfl,hS',hF'⟩)
   ·exact .inl ⟨rfl,G',μ',hS',hF'⟩
   ·exact stop (l:=l) (yv:=yv) (all:=all) (J:=J) (fun e a' A' h=>Or.inr h) ex' F' H' pre' G' μ' a' w' hm hS' hF'
 | .cond c x y,F,H,k,kx,ys,z,hx,hl,h=>by
  simp only [xJ] at h
  split at h
  ·rename_i t ht
   replace h:=FV h ht
   have hc : ∀ {A : World} {G : Gd} {μ : Mp} {a : Act},eP A G μ nt F a→a.eval c = .bool t:=fun {A G μ a} hF=>by
    have hc:=bX hF c
    rw [ht,VR] at hc
    exact hc
   cases t with
   | true =>
    obtain ⟨ys1,ys2,r,h3,h4,h5⟩:=oY hcl hP x F H k kx ys z hx (fun a ha=>hl a (by simp [bQ,ha])) h
    exact ⟨ys1,ys2,r,h3,h4,fun l yv hyv G0 all J Jx hY pre post n a A G μ hall hys hS hF=>wpIn_cond (hc hF) (h5 l yv hyv G0 all J Jx hY pre post n a A G μ hall hys hS hF)⟩
   | false =>
    obtain ⟨ys1,ys2,r,h3,h4,h5⟩:=oY hcl hP y F H k kx ys z hx (fun a ha=>hl a (by simp [bQ,ha])) h
    exact ⟨ys1,ys2,r,h3,h4,fun l yv hyv G0 all J Jx hY pre post n a A G μ hall hys hS hF=>wpIn_cond (hc hF) (h5 l yv hyv G0 all J Jx hY pre post n a A G μ hall hys hS hF)⟩
  ·cases h
 | .block id x,F,H,k,kx,ys,z,hx,hl,h=>by
  simp only [xJ] at h
  obtain ⟨ys1,ys2,⟨ex,F1,H1⟩,h1,rfl,h2⟩:=oY hcl hP x F H _ _ ys z (by intro F H; exact hx F H) (fun a ha=>hl a (by simp [bQ,ha])) h
  have stop : ∀ (ex' : Ex) (F' : Frm) (H' : Heap),(match ex' with
     | Ex.exit i=>bif Nat.beq i id then kx .normal F' H' else kx (.exit i) F' H'
     | Ex.normal=>kx Ex.normal F' H'
     | Ex.ret=>kx Ex.ret F' H') = some ()→∃ ex2 : Ex,kx ex2 F' H' = some ()∧∀ (Q : Exit→Act→World→Prop) a w,Q ex2.to a w→ex'.to.inBlock id Q a w:=by
   intro ex' F' H' hm
   cases ex' with
   | normal=>exact ⟨.normal,hm,fun Q a w h=>h⟩
   | ret=>exact ⟨.ret,hm,fun Q a w h=>h⟩
   | exit i =>
    simp only at hm
    cases hi : Nat.beq i id with
    | true =>
     rw [hi] at hm
     have:=Nat.eq_of_beq_eq_true hi
     subst this
     exact ⟨.normal,hm,fun Q a w h=>by simp only [Ex.to,Exit.inBlock,if_true]; exact h⟩
    | false =>
     rw [hi] at hm
     have hne : ¬ i = id:=fun e=>by rw [e] at hi; simp at hi
     exact ⟨.exit i,hm,fun Q a w h=>by simp only [Ex.to,Exit.inBlock,hne,if_false]; exact h⟩
  have live : ∃ ex2 : Ex,k ex2 F1 H1 = some (ys2,z)∧∀ (Q : Exit→Act→World→Prop) a w,Q ex2.to a w→ex.to.inBlock id Q a w:=by
   cases ex with
   | normal=>exact ⟨.normal,h1,fun Q a w h=>h⟩
   | ret=>exact ⟨.ret,h1,fun Q a w h=>h⟩
   | exit i =>
    simp only at h1
    cases hi : Nat.beq i id with
    | true =>
     rw [hi] at h1
     have:=Nat.eq_of_beq_eq_true hi
     subst this
     exact ⟨.normal,h1,fun Q a w h=>by simp only [Ex.to,Exit.inBlock,if_true]; exact h⟩
    | false =>
     rw [hi] at h1
     have hne : ¬ i = id:=fun e=>by rw [e] at hi; simp at hi
     exact ⟨.exit i,h1,fun Q a w h=>by simp only [Ex.to,Exit.inBlock,hne,if_false]; exact h⟩
  obtain ⟨ex2,hk2,hex2⟩:=live
  refine ⟨ys1,ys2,(ex2,F1,H1),hk2,rfl,?_⟩
  intro l yv hyv G0 all J Jx hY pre post n a A G μ hall hys hS hF
  refine wpIn_block (wpIn_mono (h2 l yv hyv G0 all J Jx hY pre post n a A G μ hall hys hS hF) ?_)
  rintro e a' w' (⟨rfl,G',μ',hS',hF'⟩ | ⟨ex',F',H',pre',G',μ',hm,rfl,hS',hF'⟩)
  ·exact hex2 _ _ _ (Or.inl ⟨rfl,G',μ',hS',hF'⟩)
  ·obtain ⟨ex3,h3,h4⟩:=stop ex' F' H' hm
   exact h4 _ _ _ (Or.inr ⟨ex3,F',H',pre',G',μ',h3,rfl,hS',hF'⟩)
 | .loop x,F,H,k,kx,ys,z,hx,hl,h=>by
  simp only [xJ] at h
  have hsub:=hl (.loop x) (by simp [bQ])
  split at h
  ·rename_i s hs
   split at h
   ·rename_i x0 hx0
    unfold aML at h
    split at h
    ·rename_i ys1 z1 hr
     obtain ⟨ys2,h1,rfl⟩:=TO h
     refine ⟨ys1,ys2,rJ s.exits z1,A7 h1,rfl,?_⟩
     intro l yv hyv G0 all J Jx hY pre post n a A G μ hall hys hS hF
     obtain ⟨n0,hW,_,hS2⟩:=hS.aYC
     have e0 : Ext n0 A G aL A G μ:={ cW:=fun _ h=>⟨h,rfl⟩,map:=fun _ _ h=>(by cases h),len:=fun _ _ h=>(by cases h),room:=fun _ _ h=>h,row:=fun _ _ h=>h,os:=rfl,tape:=rfl,output:=rfl,size:=Nat.le_refl _,old:=fun _ _ _=>rfl,new:=fun _ h=>.inl h }
     obtain ⟨G1,μ1,e1,hW1,hF1⟩:=uZ hx0 (fun r _=>⟨rfl,rfl⟩) (⟨G,μ,e0,hW,hF⟩ : I n0 A G aL nt F H a A)
     refine wpIn_mono (hsub.2 s hs x0 ys1 z1 hr l yv hyv G0 all J Jx hY pre post n a A G1 μ1 hall hys (hS2 _ _ _ _ e1 hW1) hF1) ?_
     rintro e a' w' (h | ⟨ex',F',H',pre',G',μ',hm,rfl,hS',hF'⟩)
     ·exact .inl h
     ·refine .inr ⟨ex',F',H',pre',G',μ',?_,rfl,hS',hF'⟩
      cases ex' with
      | ret=>exact hx F' H'
      | normal=>cases hm
      | exit i=>cases hm
    ·cases h
   ·cases h
  ·split at h
   ·rename_i s hs
    split at h
    ·rename_i x0 hx0
     obtain ⟨y,h1,h2⟩:=n9 h
     refine ⟨[],ys,rJ s.exits y,A7 h2,rfl,GC fun ro n n0 wi Gi μi a w hro hfl hI=>?_⟩
     exact hsub.1 s hs x0 y h1 ro n n0 wi Gi μi a w hro hfl (hI.dec hfl hx0)
    ·cases h
   ·cases h
 | .scope x,F,H,k,kx,ys,z,hx,hl,h=>by simp only [xJ] at h; cases h
 | .rangeFunc g ps as1 x,F,H,k,kx,ys,z,hx,hl,h=>by simp only [xJ] at h; cases h
 | .goto l,F,H,k,kx,ys,z,hx,hl,h=>by simp only [xJ] at h; cases h
 | .refuse s,F,H,k,kx,ys,z,hx,hl,h=>by simp only [xJ] at h; cases h

theorem aE5 {Y : Type} {sh : List (Nat×Kd)} {exits : List (Ex×List (Nat×Kd))} {ex : Ex} {F : Frm} {H : Heap} {l : List Y} {y : Shape.den sh ⊕ aR exits} (h : aW3 sh exits ex F H = some (l,y)) : l = []∧XJ [] sh exits ex F H = some y:=by
 unfold aW3 at h
 split at h
 ·rename_i z hz
  simp only [Option.some.injEq,Prod.mk.injEq] at h
  obtain ⟨h1,h2⟩:=h
  subst h2
  exact ⟨h1.symm,hz⟩
 ·cases h
theorem aQG {F1 : Frm} {H1 : Heap} (hs : ∀ {n0 : Nat→Prop},I n0 A G aL nt F H a A→I n0 A G aL nt F1 H1 a A) (hS : Sg Φ G0 G μ H A) (hF : eP A G μ nt F a) : ∃ G' μ',Sg Φ G0 G' μ' H1 A∧eP A G' μ' nt F1 a:=by
 obtain ⟨n0,hW,_,hS2⟩:=hS.aYC
 have e0 : Ext n0 A G aL A G μ:={ cW:=fun _ h=>⟨h,rfl⟩,map:=fun _ _ h=>(by cases h),len:=fun _ _ h=>(by cases h),room:=fun _ _ h=>h,row:=fun _ _ h=>h,os:=rfl,tape:=rfl,output:=rfl,size:=Nat.le_refl _,old:=fun _ _ _=>rfl,new:=fun _ h=>.inl h }
 obtain ⟨G1,μ1,e1,hW1,hF1⟩:=hs ⟨G,μ,e0,hW,hF⟩
 exact ⟨G1,μ1,hS2 _ _ _ _ e1 hW1,hF1⟩
theorem aHE : ∀ {l : List (Ex×List (Nat×Kd))} {z : aR l} {ex : Ex},EJ [] l ex F H = some z→(rJ l z).1 = ex∧∀ {n0 : Nat→Prop},I n0 A G aL nt F H a A→I n0 A G aL nt (rJ l z).2.1 (rJ l z).2.2 a A:=by
 intro l z ex h
 obtain ⟨h1,sh,x,h2,h3,h4⟩:=zY h
 refine ⟨h1,fun hI=>?_⟩
 rw [h3,h4]
 exact uZ h2 (fun r _=>⟨rfl,rfl⟩) hI
theorem aKC (hcl : cV P (dR P E)) (hP : P.follows .mixedOrders = true) {b : Code} {sh : List (Nat×Kd)} {exits : List (Ex×List (Nat×Kd))} {step : Shape.den sh→Option (List (Value×aI ks)×(Shape.den sh ⊕ aR exits))} (L : Nat)
  (hl : ∀ a ∈ bQ b,WN P nt lt ks li a) (hr : ∀ x,aPI P E nt aU lt ks li b sh exits x = step x) : aM9 P nt ks b ⟨sh,exits,RJ step L⟩:=by
 intro x ys z hz l yv hyv G0 all J Jx hY pre post n a A G μ hall hys hS hF
 refine wpIn_loop_ghost (fun k a A=>∃ pre1 ys1 x G μ,RJ step k x = some (ys1,z)∧pre ++ ys.map (·.2) = pre1 ++ ys1.map (·.2)∧(∀ y ∈ ys1,y.1 = yv)∧Sg (J pre1) G0 G μ (wQ sh x) A∧eP A G μ nt (pJ sh x 0) a) L ⟨pre,ys,x,G,μ,hz,rfl,hys,hS,hF⟩ ?_
 rintro k a1 A1 ⟨pre1,ys1,x,G,μ,hz,hpre,hys1,hS,hF⟩
 cases k with
 | zero=>cases hz
 | succ k =>
  simp only [RJ] at hz
  have hall1 : all = pre1 ++ (ys1.map (·.2) ++ post):=by rw [hall,← List.append_assoc,hpre,List.append_assoc]
  split at hz
  ·rename_i m y hs
   obtain ⟨m2,hz2,rfl⟩:=TO hz
   rw [← hr] at hs
   obtain ⟨y1,y2,⟨ex,F',H'⟩,h1,h2,h3⟩:=oY hcl hP b _ _ _ a1K m _ (fun _ _=>rfl) hl hs
   obtain ⟨e1,h4⟩:=aE5 h1
   clear h1
   subst e1
   rw [List.append_nil] at h2
   subst h2
   refine wpIn_mono (h3 l yv hyv G0 all J Jx hY pre1 (m2.map (·.2) ++ post) n a1 A1 G μ (by rw [hall1,List.map_append,List.append_assoc]) (fun y hy=>hys1 y (List.mem_append_left _ hy)) hS hF) ?_
   rintro e a' A' (⟨rfl,G',μ',hS',hF'⟩ | ⟨ex',F',H',pre',G',μ',hm,rfl,hS',hF'⟩)
   ·rcases FD h4 with ⟨y',e1,e2,e3⟩ | ⟨z',e1,_,_⟩
    ·cases e1
     dsimp only at e2
     subst e2
     obtain ⟨G2,μ2,hS2,hF2⟩:=aQG (fun hI=>uZ e3 (fun r _=>⟨rfl,rfl⟩) hI) hS' hF'
     exact ⟨k,by omega,_,m2,y,G2,μ2,hz2,by rw [hpre,List.map_append,List.append_assoc],fun y hy=>hys1 y (List.mem_append_right _ hy),hS2,hF2⟩
    ·cases e1
   ·cases ex' with
    | ret=>exact .inr ⟨.ret,F',H',pre',G',μ',rfl,rfl,hS',hF'⟩
    | normal=>cases hm
    | exit i=>cases hm
  ·rename_i m y hs
   simp only [Option.some.injEq,Prod.mk.injEq] at hz
   obtain ⟨rfl,rfl⟩:=hz
   rw [← hr] at hs
   obtain ⟨y1,y2,⟨ex,F',H'⟩,h1,h2,h3⟩:=oY hcl hP b _ _ _ a1K m _ (fun _ _=>rfl) hl hs
   obtain ⟨e1,h4⟩:=aE5 h1
   clear h1
   subst e1
   rw [List.append_nil] at h2
   subst h2
   refine wpIn_mono (h3 l yv hyv G0 all J Jx hY pre1 post n a1 A1 G μ hall1 hys1 hS hF) ?_
   rintro e a' A' (⟨rfl,G',μ',hS',hF'⟩ | ⟨ex',F',H',pre',G',μ',hm,rfl,hS',hF'⟩)
   ·rcases FD h4 with ⟨y',e1,e2,e3⟩ | ⟨z',e1,e2,e3⟩
    ·cases e1
    ·cases e1
     dsimp only at e2 e3
     obtain ⟨h5,h6⟩:=aHE (A:=A') (G:=G') (a:=a') (nt:=nt) e3
     obtain ⟨G2,μ2,hS2,hF2⟩:=aQG (fun hI=>h6 hI) hS' hF'
     have hout : (Exit.normal ≠ ex.to→True):=fun _=>trivial
     cases ex with
     | normal=>exact absurd rfl e2
     | exit i=>exact .inl ⟨by rw [h5],G2,μ2,by rw [hpre]; exact hS2,hF2⟩
     | ret=>exact .inl ⟨by rw [h5],G2,μ2,by rw [hpre]; exact hS2,hF2⟩
   ·cases ex' with
    | ret=>exact .inr ⟨.ret,F',H',pre',G',μ',rfl,rfl,hS',hF'⟩
    | normal=>cases hm
    | exit i=>cases hm
  ·cases hz

def aQF (P : Program) (E : Env) (fn : Func) (aU : Nat) (lt : Nat→Option aS) (ks : List Kd) (li : Nat→Option (D8 (Value×aI ks))) (c : Code) (ts : List Ty) (yv : Value) (x : tN ts) : Option (List (Value×aI ks)) :=
 bif Nat.ble (1 + (HK ts x).length) fn.ntmps then aVN (xJ P E fn.ntmps aU lt ks li c (start aU 0 (.lit yv :: HK ts x)) [] (fun ex _ _=>match ex with
  | .exit _=>none
  | _=>some ([],())) (fun ex _ _=>match ex with
  | .exit _=>none
  | _=>some ())) else none
theorem aQT (hP : B0 P) (hE : aZ P E) {g : Nat} {fn : Func} (hg : P.funcs[g]? = some fn) {c : Code} (hc : fn.body = some c) (hres : fn.results = #[]) {ts : List Ty} {f : tN ts→Option (List (aI ks))}
  (hl : ∀ a ∈ bQ c,WN P fn.ntmps lt ks li a) (hb : ∀ yv x all,f x = some all→aQF P E fn aU lt ks li c ts yv x = some (all.map fun e=>(yv,e))) : PG P g ts ks f:=by
 intro x all hall m l W G vs hlt hvs J Jx hY hJ
 obtain ⟨yv,hyv⟩ : ∃ yv : Value,yv = .func (.yield l) #[] #[]:=⟨_,rfl⟩
 have hbx:=hb yv x all hall
 unfold aQF at hbx
 obtain ⟨hlen,hbx⟩:=aM hbx
 unfold aVN at hbx
 split at hbx
 ·rename_i l0 u hex
  have hl0:=Option.some.inj hbx
  obtain ⟨ys1,ys2,⟨ex,F',H'⟩,h1,h2,h3⟩:=oY hE.callee hP.mixed c _ _ _ _ _ _ (fun _ _=>rfl) hl hex
  have hex : (ex = .normal ∨ ex = .ret)∧ys2 = []:=by
   cases ex with
   | exit i=>cases h1
   | normal =>
    simp only [Option.some.injEq,Prod.mk.injEq] at h1
    exact ⟨.inl rfl,h1.1.symm⟩
   | ret =>
    simp only [Option.some.injEq,Prod.mk.injEq] at h1
    exact ⟨.inr rfl,h1.1.symm⟩
  obtain ⟨hex,rfl⟩:=hex
  rw [List.append_nil] at h2
  subst h2
  have hys : ∀ y ∈ l0,y.1 = yv:=by
   intro y hy
   rw [hl0] at hy
   obtain ⟨e,-,rfl⟩:=List.mem_map.1 hy
   rfl
  have hmap : l0.map (·.2) = all:=by
   rw [hl0,List.map_map]
   exact List.map_id all
  refine callsIn_of_wp hg hc trivial ?_ rfl
  have hargs : VRs W (Gd.of G) aL (.lit yv :: HK ts x) ((#[.func (.yield l) #[] #[]] : Array Value) ++ vs.toArray).toList:=by
   rw [← hyv]
   simp only [Array.toList_append,List.cons_append,List.nil_append]
   rw [VRs]
   exact ⟨yv,vs,rfl,by rw [VR],hvs⟩
  have hF0:=rA (m:=aU) (n:=fn.ntmps) hargs (by simpa [Nat.add_comm] using Nat.le_of_ble_eq_true hlen)
  have hS0 : Sg (J []) (Gd.of G) (Gd.of G) aL [] W:=Sg.start hlt hJ
  have post : ∀ (ex : Exit) (a : Act) (A : World),(ex = .normal ∨ ex = .ret)→a.defers = []→∀ (T X : Nat→Prop) (B : World),Stp X B A→(J all T X B ∨ ∃ pre,Jx pre T X B) →
    bodyPost P fn (fun en C=>(∃ v,en = .returned v)∧∃ T X B,Stp X B C∧(J all T X B ∨ ∃ pre,Jx pre T X B)) ex a A:=by
   intro ex a A hex hd T X B hst hj
   have hr : (results fn a.tmps).run P A = .ok (.tuple #[]) A:=by simp [results,hres]
   rcases hex with rfl | rfl
   ·exact ⟨hd,_,hr,⟨_,rfl⟩,T,X,B,hst,hj⟩
   ·exact ⟨hd,_,hr,⟨_,rfl⟩,T,X,B,hst,hj⟩
  refine wpIn_mono (h3 l yv hyv (Gd.of G) all J Jx hY [] [] m _ W (Gd.of G) aL (by rw [hmap]; simp) hys hS0 hF0) ?_
  rintro e a' A' (⟨rfl,G',μ',hS',hF'⟩ | ⟨ex',F',H',pre',G',μ',hm,rfl,hS',hF'⟩)
  ·obtain ⟨T,X,B,hst,hj⟩:=hS'.stp
   rw [List.nil_append,hmap] at hj
   refine post _ a' A' ?_ hF'.defers T X B hst (.inl hj)
   rcases hex with rfl | rfl
   ·exact .inl rfl
   ·exact .inr rfl
  ·obtain ⟨T,X,B,hst,hj⟩:=hS'.stp
   refine post _ a' A' ?_ hF'.defers T X B hst (.inr ⟨_,hj⟩)
   cases ex' with
   | normal=>exact .inl rfl
   | ret=>exact .inr rfl
   | exit i=>cases hm
 ·cases hbx
theorem aUS {a : Code} {i : Nat} {s0 : aS} (hf : aG a = i) (hlt : lt i = some s0) (hli : li i = none) (h : qJ P nt true [] (.loop a) s0) : WN P nt lt ks li (.loop a):=by
 refine ⟨fun s hs=>?_,fun s hs=>?_⟩
 ·rw [hf,hlt] at hs
  cases hs
  exact h
 ·rw [hf,hli] at hs
  cases hs
theorem aJ4 {a : Code} {i : Nat} {s0 : D8 (Value×aI ks)} (hf : aG a = i) (hlt : lt i = none) (hli : li i = some s0) (h : aM9 P nt ks a s0) : WN P nt lt ks li (.loop a):=by
 refine ⟨fun s hs=>?_,fun s hs=>?_⟩
 ·rw [hf,hlt] at hs
  cases hs
 ·rw [hf,hli] at hs
  cases hs
  exact h
def aCB (P : Program) (nt : Nat) (lt : Nat→Option aS) (ks : List Kd) (li : Nat→Option (D8 (Value×aI ks))) : List Code→Prop
 | []=>True
 | c :: r=>WN P nt lt ks li c∧aCB P nt lt ks li r
theorem Q7 : ∀ {l : List Code},aCB P nt lt ks li l→∀ a ∈ l,WN P nt lt ks li a
 | [],_,a,ha=>by cases ha
 | c :: r,h,a,ha=>by
  rcases List.mem_cons.1 ha with rfl | ha
  ·exact h.1
  ·exact Q7 h.2 a ha
theorem QR {c : Code} {l : List Code} (hc : bQ c = l) (h : aCB P nt lt ks li l) : ∀ a ∈ bQ c,WN P nt lt ks li a:=by
 rw [hc]; exact Q7 h
end
end Go.PM
set_option linter.unusedSimpArgs false
set_option linter.unusedVariables false
namespace Go.PM
open Go Go.RowKit Go.Proofs
set_option maxRecDepth 100000
set_option maxHeartbeats 4000000
/-! schisma/isomorphy.turns$1 -/
abbrev MV : List (Nat×Kd):=[(0,.val),(1,.ptr (.list TyF)),(4,.box 27 TyB),(5,.bool),(8,.int .i64),(26,.list TyF),(27,.int .i64),(28,.int .i64)]
abbrev R1 : List (Ex×List (Nat×Kd)):=[(.exit 2,[(0,.val),(1,.ptr (.list TyF)),(4,.box 27 TyB),(5,.bool),(8,.int .i64)])]
def aGB (x : Shape.den MV) : Option (Shape.den MV ⊕ aR R1):=match x with
 | (v0,v1,v4,v5,v8,v26,v27,v28,()) =>
  bif ltI v28 v27 then
   bif aQ v28 v26.length then bif v5 then
    aB (f63 (v1,((aE .i64 ((aE .i64 (v4.1 * ((v26.getD v28.toNat (0,0)).1))) + (aE .i64 (v4.2.1 * ((v26.getD v28.toNat (0,0)).2))))),(aE .i64 ((aE .i64 (v4.2.2.1 * ((v26.getD v28.toNat (0,0)).1))) + (aE .i64 (v4.2.2.2 * ((v26.getD v28.toNat (0,0)).2)))))),())) fun y2 =>
    some (.inl (v0,v1,v4,y2.1,v8,v26,v27,(aE .i64 (v28 + 1)),()))
   else some (.inl (v0,v1,v4,false,v8,v26,v27,(aE .i64 (v28 + 1)),())) else none
  else some (.inr ((v0,v1,v4,v5,v8,())))
def V4 (x : Shape.den MV) : Option (aR R1):=bM aGB (2 ^ 64) x
abbrev MW : List (Nat×Kd):=[(0,.val),(1,.ptr (.list TyF)),(8,.int .i64)]
abbrev RQ : List (Ex×List (Nat×Kd)):=[(.exit 0,[])]
def aEY (x : Shape.den MW) : Option (List (Value×aI [.agg TyB])×(Shape.den MW ⊕ aR RQ)):=match x with
 | (v0,v1,v8,()) =>
  bif ltI v8 81 then
   aB (V4 (v0,v1,((aE .i64 ((aE .i64 (v8.tdiv 27)) - 1)),((aE .i64 (((aE .i64 (v8.tdiv 9)).tmod 3) - 1)),((aE .i64 (((aE .i64 (v8.tdiv 3)).tmod 3) - 1)),(aE .i64 ((v8.tmod 3) - 1))))),true,v8,v1,(v1.length : Int),0,())) fun z4 =>
   bif z4.2.2.2.1 then
    bif !(eqI (aE .i64 ((aE .i64 (z4.2.2.1.1 * z4.2.2.1.2.2.2)) - (aE .i64 (z4.2.2.1.2.1 * z4.2.2.1.2.2.1)))) 0) then
     outs [(z4.1,(z4.2.2.1,()))] (some ([],.inl (z4.1,z4.2.1,(aE .i64 (z4.2.2.2.2.1 + 1)),())))
    else some ([],.inl (z4.1,z4.2.1,(aE .i64 (z4.2.2.2.2.1 + 1)),()))
   else some ([],.inl (z4.1,z4.2.1,(aE .i64 (z4.2.2.2.2.1 + 1)),()))
  else some ([],.inr ((())))
def T4 (x : Shape.den MW) : Option (List (Value×aI [.agg TyB])×aR RQ):=RJ aEY (2 ^ 64) x
def a3E (v0 : Value) (x : tN [(.list TyF)]) : Option (List (Value×aI [.agg TyB])):=match x with
 | (v1,()) =>
  aVN (aML (T4 (v0,v1,0,())) fun z5 =>
  some ([],()))
noncomputable def a3P : Code:=aT Tryz.f62
abbrev a1O : Env:=aIL [e63] []
theorem aH0 : aZ Tryz.prog a1O:=DX ⟨bBG,trivial⟩ trivial
noncomputable def VL : Code:=inLoop (zO a3P 0)
noncomputable def aDC : Code:=inLoop (zO VL 0)
def aQC (id : Nat) : Option aS:=bif Nat.beq id 6 then some ⟨MV,R1,V4⟩ else none
def aZP (id : Nat) : Option (D8 (Value×aI [.agg TyB])):=bif Nat.beq id 1 then some ⟨MW,RQ,T4⟩ else none
theorem aN5 : aG aDC = 6:=by kernel_rfl
theorem a3X : bQ aDC = []:=by kernel_rfl
theorem aPK : ∀ x,EM Tryz.prog a1O 83 (aC Tryz.f62) aQC (fun _=>none) true [] aDC MV R1 x = aGB x:=by
 rintro ⟨v0,v1,v4,v5,v8,v26,v27,v28,⟨⟩⟩
 kernel_rfl
theorem aSM : qJ Tryz.prog 83 true [] (.loop aDC) ⟨MV,R1,V4⟩:=by
 exact vF aH0.callee aK.mixed _ (kK a3X trivial) aPK
theorem aOK : aG VL = 1:=by kernel_rfl
theorem a4A : bQ VL = [.loop aDC]:=by kernel_rfl
theorem aOS : ∀ x,aPI Tryz.prog a1O 83 (aC Tryz.f62) aQC [.agg TyB] aZP VL MW RQ x = aEY x:=by
 rintro ⟨v0,v1,v8,⟨⟩⟩
 kernel_rfl
theorem aRE : aM9 Tryz.prog 83 [.agg TyB] VL ⟨MW,RQ,T4⟩:=by
 exact aKC aH0.callee aK.mixed _ (QR a4A ⟨aUS aN5 rfl rfl aSM,trivial⟩) aOS
theorem aXV : bQ a3P = [.loop VL]:=by kernel_rfl
theorem a01 : ∀ v0 x,aQF Tryz.prog a1O Tryz.f62 (aC Tryz.f62) aQC [.agg TyB] aZP a3P [(.list TyF)] v0 x = a3E v0 x:=by
 rintro v0 ⟨v1,⟨⟩⟩
 kernel_rfl
theorem a4Z {f : tN [(.list TyF)]→Option (List (aI [.agg TyB]))} (h : ∀ yv x all,f x = some all→a3E yv x = some (all.map fun e=>(yv,e))) : PG Tryz.prog 62 [(.list TyF)] [.agg TyB] f:=by
 exact aQT aK aH0 Tryz.func62 (c:=a3P) (by kernel_rfl) (by kernel_rfl) (aU:=aC Tryz.f62) (lt:=aQC) (li:=aZP) (QR aXV ⟨aJ4 aOK rfl rfl aRE,trivial⟩) (fun yv x all hx=>(a01 yv x).trans (h yv x all hx))

/-! the neighbours and the symmetries,in order -/
abbrev S4 : Type:=Int×Int×Int×Int
def aQH : List (Int×Int):=[(1,0),((-1),0),(0,1),(0,(-1))]
def aQX : List (Int×Int):=[(1,0),((-1),0),(0,1),(0,(-1)),(1,(-1)),((-1),1)]
def aCX : List S4:=[((-1),0,0,(-1)),((-1),0,0,1),(0,(-1),(-1),0),(0,(-1),1,0),(0,1,(-1),0),(0,1,1,0),(1,0,0,(-1)),(1,0,0,1)]
def aBF : List S4:=[((-1),(-1),0,1),((-1),(-1),1,0),((-1),0,0,(-1)),((-1),0,1,1),(0,(-1),(-1),0),(0,(-1),1,1),(0,1,(-1),(-1)),(0,1,1,0),(1,0,(-1),(-1)),(1,0,0,1),(1,1,(-1),0),(1,1,0,(-1))]
def eqK : List (Int×Int)→List (Int×Int)→Bool
 | [],[]=>true
 | a :: l,b :: m=>bif eqI a.1 b.1 && eqI a.2 b.2 then eqK l m else false
 | _,_=>false
theorem aPS : ∀ {l m : List (Int×Int)},eqK l m = true→l = m
 | [],[],_=>rfl
 | [],_ :: _,h=>by cases h
 | _ :: _,[],h=>by cases h
 | (a1,a2) :: l,(b1,b2) :: m,h=>by
  simp only [eqK,dY] at h
  by_cases h1 : a1 = b1
  ·by_cases h2 : a2 = b2
   ·simp [h1,h2] at h
    rw [h1,h2,aPS h]
   ·simp [h2] at h
  ·simp [h1] at h
def GU (x : tN [(.list TyF)]) : Option (List (aI [.agg TyB])):=match x with
 | (near,())=>bif eqK near aQH then some (aCX.map fun g=>(g,())) else bif eqK near aQX then some (aBF.map fun g=>(g,())) else none
theorem bEP (yv : Value) : a3E yv (aQH,()) = some ((aCX.map fun g=>(g,())).map fun e=>(yv,e)):=by kernel_rfl
theorem bE8 (yv : Value) : a3E yv (aQX,()) = some ((aBF.map fun g=>(g,())).map fun e=>(yv,e)):=by kernel_rfl
theorem a3M : PG Tryz.prog 62 [(.list TyF)] [.agg TyB] GU:=by
 refine a4Z ?_
 rintro yv ⟨near,⟨⟩⟩ all h
 unfold GU at h
 dsimp only at h
 cases h4 : eqK near aQH with
 | true =>
  rw [h4,cond_true] at h
  rw [aPS h4,bEP,Option.some.inj h]
 | false =>
  rw [h4,cond_false] at h
  cases h6 : eqK near aQX with
  | true =>
   rw [h6,cond_true] at h
   rw [aPS h6,bE8,Option.some.inj h]
  | false=>rw [h6,cond_false] at h; cases h
end Go.PM
set_option linter.unusedSimpArgs false
set_option linter.unusedVariables false
namespace Go.PM
open Go Go.RowKit
abbrev arB (ae : TypeId) (t : Ty) (A : List (List t.den)) : Blk:=⟨aJ (.rows t) A,ae,false,false,some ⟨.rows t,A⟩⟩
abbrev owB (e : TypeId) (t : Ty) (l : List t.den) : Blk:=⟨aJ t l,e,true,false,some ⟨t,l⟩⟩
abbrev OwA:=Option (Nat×Blk)
def DR : OwA→Heap→Heap
 | none,H=>H
 | some (r,_),H=>H.set r none
def yR : OwA→Heap
 | none=>[]
 | some (_,k)=>[some k]
def bDE (μ : Mp) : OwA→Option Nat
 | none=>none
 | some (r,_)=>μ.loc r
def bFT (μ : Mp) : OwA→Option Nat
 | none=>none
 | some (r,_)=>μ.len r
def wrA (w : World) (G : Gd) (μ : Mp) (ow : OwA) : Nat→Prop:=fun b=>w.heap.size ≤ b ∨ bDE μ ow = some b ∨ ∃ j,G.row j = some b
def mpA (μ : Mp) (ow : OwA) (n : Nat) : Mp:=⟨fun q=>if q < (yR ow).length then bDE μ ow else none,fun q=>if q < (yR ow).length then bFT μ ow else if q = (yR ow).length then some n else none⟩
structure aRD (H : Heap) (ow : OwA) : Prop where
 at_ : ∀ r k,ow = some (r,k)→H[r]? = some (some k)∧k.grown = true∧k.frozen = false∧k.tag.isSome = true

section
variable {P : Program} {n0 : Nat→Prop} {w w' : World} {G G1 G2 : Gd} {μ μ2 : Mp} {H H' : Heap} {ae : TypeId} {t : Ty} {A B : List (List t.den)}
theorem aQ8 {ow : OwA} {s : Nat} {k : Blk} (h : (DR ow H)[s]? = some (some k)) : H[s]? = some (some k)∧∀ r k',ow = some (r,k')→s ≠ r:=by
 cases ow with
 | none=>exact ⟨h,fun r k' e=>by cases e⟩
 | some p =>
  obtain ⟨r,k'⟩:=p
  obtain ⟨h1,h2⟩:=k7 h
  exact ⟨h1,fun r' k2 e=>by cases e; exact h2⟩
theorem aIW {ow : OwA} : (DR ow H).length = H.length:=by
 cases ow with
 | none=>rfl
 | some p=>simp [DR]
theorem a8E (hW : aV n0 G μ H w) {ow : OwA} (ho : aRD H ow) : ∀ b,wrA w G μ ow b→n0 b:=by
 rintro b (h | h | ⟨j,h⟩)
 ·exact hW.base b h
 ·cases ow with
  | none=>cases h
  | some p =>
   obtain ⟨r,k⟩:=p
   obtain ⟨h1,_,h3,_⟩:=ho.at_ r k rfl
   obtain ⟨_,_,_,_,_,h6⟩:=hW.blk r k b h1 h
   exact (h6 h3).1
 ·exact (hW.rows.sep j b h).2.1
theorem aTV (hW : aV n0 G μ H w) {ow : OwA} (ho : aRD H ow) {s : Nat} {k : Blk} {b : Nat} (hs : H[s]? = some (some k)) (hne : ∀ r k',ow = some (r,k')→s ≠ r) (hb : μ.loc s = some b) : ¬ wrA w G μ ow b:=by
 rintro (h | h | ⟨j,h⟩)
 ·exact Nat.not_lt.2 h (hW.iS hs hb)
 ·cases ow with
  | none=>cases h
  | some p =>
   obtain ⟨r,k'⟩:=p
   obtain ⟨h1,_,h3,_⟩:=ho.at_ r k' rfl
   cases hf : k.frozen with
   | false=>exact hne r k' rfl (hW.inj s r k k' b hs h1 hf h3 hb h)
   | true =>
    obtain ⟨_,_,_,_,h5,_⟩:=hW.blk s k b hs hb
    obtain ⟨_,_,_,_,_,h6⟩:=hW.blk r k' b h1 h
    exact (h6 h3).2 (h5 hf)
 ·obtain ⟨_,_,a3,a4⟩:=hW.rows.sep j b h
  cases hf : k.frozen with
  | false=>exact a4 s k hs hf hb
  | true =>
   obtain ⟨_,_,_,_,h5,_⟩:=hW.blk s k b hs hb
   exact a3 (h5 hf)
theorem Q0 (hW : aV n0 G μ H w) {ow : OwA} (ho : aRD H ow) {ra : Nat} (har : H[ra]? = some (some (arB ae t A))) :
  aV (wrA w G μ ow) G (mpA μ ow A.length) (yR ow ++ [some (arB ae t A)]) w:=by
 have key : ∀ (s : Nat) (k : Blk),(yR ow ++ [some (arB ae t A)])[s]? = some (some k)→(s < (yR ow).length∧∃ r,ow = some (r,k)∧s = 0) ∨ (s = (yR ow).length∧k = arB ae t A):=by
  intro s k hs
  rcases BE (H:=yR ow) s k hs with ⟨h1,h2⟩ | ⟨h1,h2⟩
  ·exact .inr ⟨h1,h2⟩
  ·left
   refine ⟨h1,?_⟩
   cases ow with
   | none=>simp [yR] at h1
   | some p =>
    obtain ⟨r,k'⟩:=p
    simp only [yR,List.length_cons,List.length_nil] at h1
    have : s = 0:=by omega
    subst this
    simp only [yR,List.getElem?_cons_zero,Option.some.injEq] at h2
    subst h2
    exact ⟨r,rfl,rfl⟩
 refine ⟨?_,?_,?_,hW.lt,?_,fun b hb=>.inl hb,?_⟩
 ·intro s k b hs hb
  rcases key s k hs with ⟨h1,r,rfl,rfl⟩ | ⟨h1,rfl⟩
  ·have hb : μ.loc r = some b:=by
    have : (mpA μ (some (r,k)) A.length).loc 0 = μ.loc r:=rfl
    rw [this] at hb; exact hb
   obtain ⟨q1,q2,q3,q4⟩:=ho.at_ r k rfl
   obtain ⟨c,a1,a2,a3,a4,a5⟩:=hW.blk r k b q1 hb
   refine ⟨c,a1,?_,a3,a4,fun hf=>⟨.inr (.inl hb),(a5 hf).2⟩⟩
   obtain ⟨g,hg⟩:=Option.isSome_iff_exists.1 q4
   rw [(hW.tags r k g q1 hg).1] at a2 ⊢
   exact kH (fL _ _) a2
  ·subst h1
   simp only [mpA,Nat.lt_irrefl,if_false] at hb
   cases hb
 ·intro s k g hs hg
  rcases key s k hs with ⟨h1,r,rfl,rfl⟩ | ⟨h1,rfl⟩
  ·obtain ⟨q1,_⟩:=ho.at_ r k rfl
   obtain ⟨a1,a2⟩:=hW.tags r k g q1 hg
   exact ⟨a1,a2⟩
  ·cases hg
   subst h1
   refine ⟨rfl,?_⟩
   simp only [mpA,Nat.lt_irrefl,if_false,if_true]
 ·intro s1 s2 k1 k2 b h1 h2 f1 f2 m1 m2
  rcases key s1 k1 h1 with ⟨p1,r1,e1,rfl⟩ | ⟨p1,rfl⟩
  ·rcases key s2 k2 h2 with ⟨p2,r2,e2,rfl⟩ | ⟨p2,rfl⟩
   ·rfl
   ·subst p2
    simp only [mpA,Nat.lt_irrefl,if_false] at m2
    cases m2
  ·subst p1
   simp only [mpA,Nat.lt_irrefl,if_false] at m1
   cases m1
 ·intro s hs
  rw [List.length_append] at hs
  simp only [List.length_cons,List.length_nil] at hs
  have h1 : ¬ s < (yR ow).length:=by omega
  have h2 : ¬ s = (yR ow).length:=by omega
  simp only [mpA,h1,h2,if_false,and_self]
 ·refine (hW.rows.rel (fun s s'=>(s < (yR ow).length∧∃ r k,ow = some (r,k)∧s' = r) ∨ (s = (yR ow).length∧s' = ra)) ?_ ?_).QV fun j b hj _=>.inr (.inr ⟨j,hj⟩)
  ·rintro s s2 q (⟨h1,r,k,h3,h4⟩ | ⟨h1,h3⟩) (⟨h2,r2,k2,h5,h6⟩ | ⟨h2,h5⟩)
   ·have : (yR ow).length ≤ 1:=by rw [h3]; simp [yR]
    omega
   ·exfalso
    obtain ⟨q1,q2,_⟩:=ho.at_ r k h3
    rw [← h4,h5,har] at q1
    cases q1
    cases q2
   ·exfalso
    obtain ⟨q1,q2,_⟩:=ho.at_ r2 k2 h5
    rw [← h6,h3,har] at q1
    cases q1
    cases q2
   ·rw [h1,h2]
  ·intro s k' hs
   rcases key s k' hs with ⟨h1,r,rfl,rfl⟩ | ⟨h1,rfl⟩
   ·exact ⟨r,k',.inl ⟨h1,r,k',rfl,rfl⟩,(ho.at_ r k' rfl).1,rfl,rfl,rfl,rfl,rfl⟩
   ·refine ⟨ra,_,.inr ⟨h1,rfl⟩,har,rfl,rfl,rfl,rfl,?_⟩
    subst h1
    simp only [mpA,Nat.lt_irrefl,if_false]
    exact (hW.rows.arn ra _ t A har rfl rfl).1.symm

abbrev OsA:=Option (Nat×Blk×Blk)
def aPL : OsA→Heap
 | none=>[]
 | some (_,_,k)=>[some k]
def a2S (μ : Mp) : OsA→Option Nat
 | none=>none
 | some (r,_,_)=>μ.loc r
def aV8 : OsA→Option Nat
 | none=>none
 | some (_,_,k)=>match k.tag with
  | some g=>some g.l.length
  | none=>none
structure bA8 (H : Heap) (os : OsA) : Prop where
 at_ : ∀ r k k',os = some (r,k,k')→H[r]? = some (some k)∧k'.grown = true∧k.frozen = false∧k'.frozen = false∧k'.ty = k.ty∧∃ g n,k'.tag = some g∧k'.cells = aJ g.t g.l∧k'.cells = k.cells.take n
def nY (μ μ2 : Mp) (N n : Nat) (os : OsA) : Mp:=⟨fun q=>if q < N then μ.loc q else if q = N + 1 then a2S μ2 os else none,fun q=>if q < N then μ.len q else if q = N then some n else if q = N + 1 then aV8 os else none⟩
theorem Y4 (hW : aV n0 G μ H w) {ow : OwA} (ho : aRD H ow) {ra : Nat} (har : H[ra]? = some (some (arB ae t A))) (ee : Ext (wrA w G μ ow) w G aL w' G1 μ2) (hW' : aV (wrA w G μ ow) G1 μ2 H' w')
  {rb : Nat} (hrb : H'[rb]? = some (some (arB ae t B))) {os : OsA} (hos : bA8 H' os) (hrow : ∀ j,G2.row j = G1.row j) (h12 : ∀ b,G1 b→G2 b)
  (h21 : ∀ b,G2 b→G1 b ∨ ∃ s k,H'[s]? = some (some k)∧k.frozen = false∧μ2.loc s = some b∧∀ r k' k2,os = some (r,k',k2)→s ≠ r) :
  Ext n0 w G μ w' G2 (nY μ μ2 H.length B.length os)∧aV n0 G2 (nY μ μ2 H.length B.length os) (((DR ow H).set ra none) ++ (some (arB ae t B) :: aPL os)) w':=by
 have hwr:=a8E hW ho
 have hblk : ∀ s k b,H'[s]? = some (some k)→k.frozen = false→μ2.loc s = some b→wrA w G μ ow b:=fun s k b hs hf hb=>by
  obtain ⟨_,_,_,_,_,h6⟩:=hW'.blk s k b hs hb
  exact (h6 hf).1
 have hG2 : ∀ b,G2 b→G b ∨ wrA w G μ ow b:=fun b hb=>by
  rcases h21 b hb with h | ⟨s,k,h1,h2,h3,_⟩
  ·exact ee.new b h
  ·exact .inr (hblk s k b h1 h2 h3)
 have hlt2 : Lt w' G2.ok:=hW'.lt.step (fun b hb=>⟨h12 b hb,rfl⟩) fun b hb=>by
  rcases h21 b hb with h | ⟨s,k,h1,_,h3,_⟩
  ·exact hW'.lt b h
  ·exact hW'.iS h1 h3
 have e2 : Ext n0 w G μ w' G2 (nY μ μ2 H.length B.length os):={
  cW:=fun b hb=>⟨h12 b (ee.cW b hb).1,(ee.cW b hb).2⟩
  map:=fun r b hr=>by
   have : r < H.length:=by
    rcases Nat.lt_or_ge r H.length with h | h
    ·exact h
    ·rw [(hW.top r h).1] at hr; cases hr
   simp only [nY,this,if_true]; exact hr
  len:=fun r b hr=>by
   have : r < H.length:=by
    rcases Nat.lt_or_ge r H.length with h | h
    ·exact h
    ·rw [(hW.top r h).2] at hr; cases hr
   simp only [nY,this,if_true]; exact hr
  room:=ee.room
  row:=fun j b hj=>by rw [hrow]; exact ee.row j b hj
  os:=ee.os
  tape:=ee.tape
  output:=ee.output
  size:=ee.size
  old:=fun b hb hn=>ee.old b hb fun h=>hn (hwr b h)
  new:=fun b hb=>(hG2 b hb).imp id (hwr b) }
 have hlen : ((DR ow H).set ra none).length = H.length:=by rw [List.length_set,aIW]
 have key : ∀ (s : Nat) (k : Blk),(((DR ow H).set ra none) ++ (some (arB ae t B) :: aPL os))[s]? = some (some k) →
   (s < H.length∧s ≠ ra∧H[s]? = some (some k)∧∀ r k',ow = some (r,k')→s ≠ r) ∨ (s = H.length∧k = arB ae t B) ∨ (s = H.length + 1∧∃ r k0,os = some (r,k0,k)):=by
  intro s k hs
  rcases Nat.lt_or_ge s H.length with hl | hl
  ·rw [List.getElem?_append_left (by rw [hlen]; exact hl)] at hs
   obtain ⟨h1,h2⟩:=k7 hs
   obtain ⟨h3,h4⟩:=aQ8 h1
   exact .inl ⟨hl,h2,h3,h4⟩
  ·rw [List.getElem?_append_right (by rw [hlen]; exact hl),hlen] at hs
   rcases Nat.eq_zero_or_pos (s - H.length) with h0 | h0
   ·rw [h0] at hs
    simp only [List.getElem?_cons_zero,Option.some.injEq] at hs
    exact .inr (.inl ⟨by omega,hs.symm⟩)
   ·obtain ⟨m,hm⟩ : ∃ m,s - H.length = m + 1:=⟨s - H.length - 1,by omega⟩
    rw [hm,List.getElem?_cons_succ] at hs
    cases os with
    | none=>simp [aPL] at hs
    | some p =>
     obtain ⟨r,k0,k'⟩:=p
     cases m with
     | zero =>
      simp only [aPL,List.getElem?_cons_zero,Option.some.injEq] at hs
      subst hs
      exact .inr (.inr ⟨by omega,r,k0,rfl⟩)
     | succ m=>simp [aPL] at hs
 have l0 : ∀ s,s < H.length→(nY μ μ2 H.length B.length os).loc s = μ.loc s∧(nY μ μ2 H.length B.length os).len s = μ.len s:=fun s hs=>by simp [nY,hs]
 have l1 : (nY μ μ2 H.length B.length os).loc H.length = none∧(nY μ μ2 H.length B.length os).len H.length = some B.length:=by simp [nY]
 have l2 : (nY μ μ2 H.length B.length os).loc (H.length + 1) = a2S μ2 os∧(nY μ μ2 H.length B.length os).len (H.length + 1) = aV8 os:=by
  have h1 : ¬ H.length + 1 < H.length:=by omega
  have h2 : ¬ H.length + 1 = H.length:=by omega
  simp only [nY,h1,h2,if_false,if_true,and_self]
 have hold : ∀ s k b,H[s]? = some (some k)→(∀ r k',ow = some (r,k')→s ≠ r)→μ.loc s = some b→w'.heap[b]? = w.heap[b]?∧¬ wrA w G μ ow b:=fun s k b h1 h2 h3=>by
  have h4:=aTV hW ho h1 h2 h3
  exact ⟨ee.old b (hW.iS h1 h3) h4,h4⟩
 refine ⟨e2,?_,?_,?_,hlt2,?_,fun b hb=>hW.base b (Nat.le_trans ee.size hb),?_⟩
 ·intro s k b hs hb
  rcases key s k hs with ⟨h1,h2,h3,h4⟩ | ⟨h1,rfl⟩ | ⟨h1,r,k0,h2⟩
  ·rw [(l0 s h1).1] at hb
   obtain ⟨c,a1,a2,a3,a4,a5⟩:=hW.blk s k b h3 hb
   obtain ⟨g1,g2⟩:=hold s k b h3 h4 hb
   refine ⟨c,g1.trans a1,aP.mono e2.toMono g1 0 _ a2,a3,fun hf=>h12 b (ee.cW b (a4 hf)).1,fun hf=>⟨(a5 hf).1,fun hg=>?_⟩⟩
   rcases hG2 b hg with h | h
   ·exact (a5 hf).2 h
   ·exact g2 h
  ·subst h1
   rw [l1.1] at hb; cases hb
  ·subst h1; subst h2
   rw [l2.1] at hb
   obtain ⟨q1,q2,q3,q4,q5,g,nc,q6,q7,q8⟩:=hos.at_ r k0 k rfl
   obtain ⟨c,a1,a2,a3,a4,a5⟩:=hW'.blk r k0 b q1 hb
   refine ⟨c,by rw [q5]; exact a1,?_,(fun hf=>by rw [q2] at hf; cases hf),(fun hf=>by rw [q4] at hf; cases hf),fun hf=>⟨hwr b (a5 q3).1,fun hg=>?_⟩⟩
   ·replace a2:=a2.take nc
    rw [← q8,q7] at a2
    rw [q7]
    obtain ⟨us,u1,u2⟩:=a2.values
    have m12 : Mono w' G1 aL w' G2 (nY μ μ2 H.length B.length (some (r,k0,k))):=⟨fun b hb=>⟨h12 b hb,rfl⟩,fun _ _ h=>(by cases h),fun _ _ h=>(by cases h),fun _ _ h=>h,fun j b hj=>by rw [hrow]; exact hj⟩
    exact aP.iH (VRs.mono m12 _ _ (cH _ _ (fL _ _) u1)) u2
   ·rcases h21 b hg with h | ⟨s2,k2,z1,z2,z3,z4⟩
    ·exact (a5 q3).2 h
    ·exact z4 r k0 k rfl (hW'.inj s2 r k2 k0 b z1 q1 z2 q3 z3 hb)
 ·intro s k g hs hg
  rcases key s k hs with ⟨h1,h2,h3,h4⟩ | ⟨h1,rfl⟩ | ⟨h1,r,k0,h2⟩
  ·rw [(l0 s h1).2]
   exact hW.tags s k g h3 hg
  ·cases hg
   subst h1
   exact ⟨rfl,l1.2⟩
  ·subst h1; subst h2
   rw [l2.2]
   obtain ⟨_,_,_,_,_,g',_,q6,q7,_⟩:=hos.at_ r k0 k rfl
   rw [hg] at q6
   cases q6
   exact ⟨q7,by simp only [aV8,hg]⟩
 ·intro s1 s2 k1 k2 b h1 h2 f1 f2 m1 m2
  rcases key s1 k1 h1 with ⟨p1,p2,p3,p4⟩ | ⟨p1,rfl⟩ | ⟨p1,r,k0,p2⟩
  ·rw [(l0 s1 p1).1] at m1
   rcases key s2 k2 h2 with ⟨q1,q2,q3,q4⟩ | ⟨q1,rfl⟩ | ⟨q1,r2,k02,q2⟩
   ·rw [(l0 s2 q1).1] at m2
    exact hW.inj s1 s2 k1 k2 b p3 q3 f1 f2 m1 m2
   ·subst q1; rw [l1.1] at m2; cases m2
   ·subst q1; subst q2
    rw [l2.1] at m2
    exact absurd (hblk r2 k02 b (hos.at_ r2 k02 k2 rfl).1 (hos.at_ r2 k02 k2 rfl).2.2.1 m2) (hold s1 k1 b p3 p4 m1).2
  ·subst p1; rw [l1.1] at m1; cases m1
  ·subst p1; subst p2
   rw [l2.1] at m1
   rcases key s2 k2 h2 with ⟨q1,q2,q3,q4⟩ | ⟨q1,rfl⟩ | ⟨q1,r2,k02,q2⟩
   ·rw [(l0 s2 q1).1] at m2
    exact absurd (hblk r k0 b (hos.at_ r k0 k1 rfl).1 (hos.at_ r k0 k1 rfl).2.2.1 m1) (hold s2 k2 b q3 q4 m2).2
   ·subst q1; rw [l1.1] at m2; cases m2
   ·exact q1.symm
 ·intro s hs
  rw [List.length_append,hlen,List.length_cons] at hs
  have h1 : ¬ s < H.length:=by omega
  have h2 : ¬ s = H.length:=by omega
  by_cases h3 : s = H.length + 1
  ·cases os with
   | none=>rw [h3]; exact l2
   | some p =>
    obtain ⟨r,k0,k1⟩:=p
    simp only [aPL,List.length_cons,List.length_nil] at hs
    omega
  ·simp [nY,h1,h2,h3]
 ·have hr':=hW'.rows
  refine ⟨fun i j b h1 h2=>hr'.inj i j b (by rw [← hrow]; exact h1) (by rw [← hrow]; exact h2),?_,?_,?_,?_⟩
  ·intro j b hj
   rw [hrow] at hj
   obtain ⟨a1,a2,a3,a4⟩:=hr'.sep j b hj
   refine ⟨a1,hwr b a2,fun hg=>?_,fun s k hs hf hl=>?_⟩
   ·rcases h21 b hg with h | ⟨s,k,z1,z2,z3,_⟩
    ·exact a3 h
    ·exact a4 s k z1 z2 z3
   ·rcases key s k hs with ⟨p1,p2,p3,p4⟩ | ⟨p1,rfl⟩ | ⟨p1,r,k0,p2⟩
    ·rw [(l0 s p1).1] at hl
     exact (hold s k b p3 p4 hl).2 a2
    ·subst p1; rw [l1.1] at hl; cases hl
    ·subst p1; subst p2
     rw [l2.1] at hl
     exact a4 r k0 (hos.at_ r k0 k rfl).1 (hos.at_ r k0 k rfl).2.2.1 hl
  ·intro j b hj
   rw [hrow] at hj
   exact hr'.cel j b hj
  ·intro s k t1 l1' hs hg ht
   rcases key s k hs with ⟨p1,p2,p3,p4⟩ | ⟨p1,rfl⟩ | ⟨p1,r,k0,p2⟩
   ·exact absurd (hW.rows.one s ra k _ t1 l1' t A p3 hg ht har rfl rfl) p2
   ·cases ht
    subst p1
    obtain ⟨_,a2,a3⟩:=hr'.arn rb _ t B hrb rfl rfl
    refine ⟨l1.1,fun j hj=>by rw [hrow]; exact a2 j hj,fun j row hj=>?_⟩
    rcases a3 j row hj with h | ⟨b,z1,z2⟩
    ·exact .inl h
    ·have m12 : Mono w' G1 aL w' G2 aL:=⟨fun b hb=>⟨h12 b hb,rfl⟩,fun _ _ h=>h,fun _ _ h=>h,fun _ _ h=>h,fun j b hj=>by rw [hrow]; exact hj⟩
     exact .inr ⟨b,by rw [hrow]; exact z1,z2.mono m12 rfl⟩
   ·subst p2
    rw [(hos.at_ r k0 k rfl).2.1] at hg; cases hg
  ·have only : ∀ (s : Nat) (k : Blk) (t1 : Ty) (l1' : List (List t1.den)),(((DR ow H).set ra none) ++ (some (arB ae t B) :: aPL os))[s]? = some (some k)→k.grown = false→k.tag = some ⟨.rows t1,l1'⟩→s = H.length:=by
    intro s k t1 l1' hs hg ht
    rcases key s k hs with ⟨p1,p2,p3,p4⟩ | ⟨p1,_⟩ | ⟨p1,r,k0,p2⟩
    ·exact absurd (hW.rows.one s ra k _ t1 l1' t A p3 hg ht har rfl rfl) p2
    ·exact p1
    ·subst p2
     rw [(hos.at_ r k0 k rfl).2.1] at hg; cases hg
   intro r s k k' t1 l1' t2 l2' h1 g1 t1' h2 g2 t2'
   rw [only r k t1 l1' h1 g1 t1',only s k' t2 l2' h2 g2 t2']
end
end Go.PM
set_option linter.unusedSimpArgs false
set_option linter.unusedVariables false
namespace Go.PM
open Go Go.RowKit
theorem RP : ∀ (ts : List Ty) (x : tN ts),c6.noRefs (HK ts x) = true
 | [],_=>rfl
 | t :: r,(x,xs)=>by simp only [HK,c6.noRefs,c6,RP r xs,Bool.and_self]
theorem aJW : ∀ (k : Kd) (x : k.den) (r : List Kd),D5 (k :: r) = true→c6 (oR k x 0) = true∧D5 r = true
 | .int _,_,_,h=>⟨rfl,h⟩
 | .bool,_,_,h=>⟨rfl,h⟩
 | .str,_,_,h=>⟨rfl,h⟩
 | .list _,_,_,h=>⟨rfl,h⟩
 | .agg t,x,_,h=>⟨by simp only [oR,c6]; exact wR t x,h⟩
 | .own _ _,_,_,h=>by simp only [D5] at h; cases h
 | .box _ _,_,_,h=>by simp only [D5] at h; cases h
 | .win _ _,_,_,h=>by simp only [D5] at h; cases h
 | .bown _ _ _,_,_,h=>by simp only [D5] at h; cases h
 | .bag _ _ _ _ _,_,_,h=>by simp only [D5] at h; cases h
 | .bag2 _ _ _ _ _ _,_,_,h=>by simp only [D5] at h; cases h
 | .ar _ _,_,_,h=>by simp only [D5] at h; cases h
 | .hnd _,_,_,h=>⟨rfl,h⟩
 | .mpk _,_,_,h=>⟨rfl,h⟩
 | .ptr t,x,_,h=>⟨rfl,h⟩
 | .fn _,_,_,h=>⟨rfl,h⟩
 | .nil0,_,_,h=>⟨rfl,h⟩
 | .val,_,_,h=>⟨rfl,h⟩
 | .nilI,_,_,h=>⟨rfl,h⟩
 | .clo _ ts,x,_,h=>⟨by simp only [oR,c6,c6.noRefs,RP ts x,Bool.and_self],h⟩
theorem AK : ∀ (l : List Kd) (x : aI l),D5 l = true→c6.noRefs (iP l x) = true
 | [],_,_=>rfl
 | k :: r,(x,xs),h=>by
  obtain ⟨h1,h2⟩:=aJW k x r h
  simp only [iP,c6.noRefs,h1,AK r xs h2,Bool.and_self]

inductive Tk where
 | none
 | own (e : TypeId) (t : Ty)
@[reducible] def Tk.den : Tk→Type
 | .none=>Unit
 | .own _ t=>List t.den
def Tk.pv : Tk→Nat→List PV
 | .none,_=>[]
 | .own _ t,r=>[.own r t.size]
def Tk.ow : (k : Tk)→k.den→Nat→OwA
 | .none,_,_=>Option.none
 | .own e t,l,r=>some (r,owB e t l)
inductive An where
 | data (l : List Kd)
 | own (e : TypeId) (t : Ty)
@[reducible] def An.den : An→Type
 | .data l=>aI l
 | .own _ t=>List t.den
def An.pv : (a : An)→a.den→Nat→PV
 | .data l,y,_=>aG9 l y
 | .own _ t,_,n=>.own n t.size
def An.hp : (a : An)→a.den→Heap
 | .data _,_=>[]
 | .own e t,l=>[some (owB e t l)]

def aDD (P : Program) (g : FuncId) (ae : TypeId) (t : Ty) (tk : Tk) (args : List Kd) (an : An) (f : tk.den→aI args→List (List t.den)→Option (an.den×List (List t.den))) : Prop :=
 ∀ l x A y B,f l x A = some (y,B)→∀ {n0 G μ H w us ra r},aV n0 G μ H w→H[ra]? = some (some (arB ae t A))→aRD H (tk.ow l r)→VRs w G μ (tk.pv r ++ iP args x) us →
  pL P n0 w G μ g us.toArray (an.pv y (H.length + 1)) (((DR (tk.ow l r) H).set ra none) ++ (some (arB ae t B) :: an.hp y))

def aRU (ae : TypeId) (t : Ty) (H : Heap) : Option (Nat×List (List t.den)):=match Q6 0 H with
 | some (r,k)=>match k.tag with
  | some g=>match vW g.t (.rows t) g.l with
   | some l=>bif Nat.beq k.ty ae && !k.frozen then some (r,l) else none
   | none=>none
  | none=>none
 | none=>none
def bAU (e : TypeId) (t : Ty) (H : Heap) : PV→Option (List t.den)
 | .own r sz=>zC e t (.own r sz) H r
 | .win r lo n sz=>bif Nat.beq lo 0 then match zC e t (.own r sz) H r with
  | some l=>some (l.take n)
  | none=>none
  else none
 | _=>none
def aOM : (an : An)→PV→Heap→Option an.den
 | .data l,q,H=>match inl false H depth q with
  | some q'=>aL8 l q'
  | none=>none
 | .own e t,q,H=>bAU e t H q
def a5A (P : Program) (rs : List ResultVar) (ae : TypeId) (t : Ty) (an : An) (ex : Ex) (F : Frm) (H : Heap) : Option (an.den×List (List t.den)):=match ex with
 | .exit _=>none
 | _=>match mY P F H rs with
  | some vs=>match aRU ae t H with
   | some B=>match aOM an (fC vs) H with
    | some y=>some (y,B.2)
    | none=>none
   | none=>none
  | none=>none
def WK (P : Program) (E : Env) (fn : Func) (aU : Nat) (lt : Nat→Option aS) (c : Code) (ae : TypeId) (t : Ty) (tk : Tk) (args : List Kd) (an : An) (l : tk.den) (x : aI args) (A : List (List t.den)) : Option (an.den×List (List t.den)) :=
 bif Nat.ble (tk.pv 0 ++ iP args x).length fn.ntmps then sN P E fn.ntmps aU lt c (start aU 0 (tk.pv 0 ++ iP args x)) (yR (tk.ow l 0) ++ [some (arB ae t A)]) (a5A P fn.results.toList ae t an) else none

section
variable {P : Program} {n0 : Nat→Prop} {w w' : World} {G G1 G2 : Gd} {μ μ2 : Mp} {H H' : Heap} {ae : TypeId} {t : Ty} {A B : List (List t.den)}
theorem PF (hW : aV n0 G μ H w) {p : Nat×List (List t.den)} (h : aRU ae t H = some p) : H[p.1]? = some (some (arB ae t p.2)):=by
 unfold aRU at h
 split at h
 ·rename_i r k hk
  obtain ⟨h1,h2⟩:=FN hk
  split at h
  ·rename_i g hg
   split at h
   ·rename_i l hc
    obtain ⟨hb,h⟩:=aM h
    simp only [Bool.and_eq_true,Bool.not_eq_true'] at hb
    simp only [Option.some.injEq] at h
    subst h
    have hb3:=Nat.eq_of_beq_eq_true hb.1
    have ht:=(hW.tags r k g h1 hg).1
    have hge:=aMS hc
    rw [hge] at hg ht
    rw [h1]
    obtain ⟨k1,k2,k3,k4,k5⟩:=k
    dsimp only at ht hg hb hb3 h2 ⊢
    rw [ht,hg,hb3,h2,hb.2]
   ·cases h
  ·cases h
 ·cases h
theorem aBP (hW : aV n0 G μ H w) {e : TypeId} {u : Ty} {p : PV} {l : List u.den} {v : Value} (h : bAU e u H p = some l) (hv : VR w G μ p v) :
  ∃ r l0,bA8 H (some (r,owB e u l0,owB e u l))∧∀ G2 μ3 n,μ3.loc n = μ.loc r→μ3.len n = some l.length→VR w G2 μ3 (.own n u.size) v:=by
 have key : ∀ (l0 : List u.den) (r m : Nat),H[r]? = some (some (owB e u l0))→bA8 H (some (r,owB e u l0,owB e u (l0.take m))):=fun l0 r m h0=>⟨fun r' k k' he=>by
  cases he
  exact ⟨h0,rfl,rfl,rfl,rfl,⟨u,l0.take m⟩,m * u.size,rfl,rfl,(oU u m l0).symm⟩⟩
 unfold bAU at h
 split at h
 ·rename_i r sz
  obtain ⟨h1,h2⟩:=mS hW h
  cases h1
  refine ⟨r,l,by have:=key l r l.length h2; rwa [List.take_length] at this,fun G2 μ3 n q1 q2=>?_⟩
  rw [VR] at hv ⊢
  obtain ⟨m,a1,a2⟩:=hv
  have:=(hW.tags r _ _ h2 rfl).2
  rw [this] at a1
  cases a1
  refine ⟨_,q2,?_⟩
  rw [q1]
  exact a2
 ·rename_i r lo n sz
  obtain ⟨hb,h⟩:=aM h
  have hb:=Nat.eq_of_beq_eq_true hb
  subst hb
  split at h
  ·rename_i l0 hl0
   obtain rfl:=Option.some.inj h
   obtain ⟨h1,h2⟩:=mS hW hl0
   cases h1
   refine ⟨r,l0,key l0 r n h2,fun G2 μ3 m q1 q2=>?_⟩
   rw [VR] at hv
   rw [VR]
   obtain ⟨b,c,m',a1,a2,a3,a4,a5,a6,a7⟩:=hv
   have:=(hW.tags r _ _ h2 rfl).2
   rw [this] at a5
   cases a5
   refine ⟨n,by rw [q2,List.length_take]; change 0 + n ≤ l0.length at a6; congr 1; omega,.inr ⟨b,c,by rw [q1]; exact a1,by rw [a2,Nat.zero_mul],a3,?_⟩⟩
   simpa using a4
  ·cases h
 ·cases h

theorem aR2 {α : Type 1} {b : Bool} {x : Option α} {y : α} (h : (bif b then x else none) = some y) : b = true∧x = some y:=by
 cases b with
 | true=>exact ⟨rfl,h⟩
 | false=>cases h
theorem UA {E : Env} (hP : B0 P) (hE : aZ P E) {g : Nat} {fn : Func} (hg : P.funcs[g]? = some fn) {c : Code} (hc : fn.body = some c) {aU : Nat} {lt : Nat→Option aS} {ae : TypeId} {t : Ty} {tk : Tk} {args : List Kd} {an : An} {f : tk.den→aI args→List (List t.den)→Option (an.den×List (List t.den))}
  (hd : D5 args = true) (hl : ∀ a ∈ aF c,∀ s,lt (aG a) = some s→cE P fn.ntmps a s) (hb : ∀ l x A,WK P E fn aU lt c ae t tk args an l x A = f l x A) : aDD P g ae t tk args an f:=by
 intro l x A y B hy n0 G μ H w us ra r hW har ho hv
 rw [← hb] at hy
 unfold WK at hy
 obtain ⟨hlen,hy⟩:=aM hy
 obtain ⟨⟨ex,F',H'⟩,h1,h2⟩:=jO hE.callee hP.mixed c _ _ _ _ hl hy
 obtain ⟨vs,B',hex,hvs,hB,hq,rfl⟩ : ∃ vs B',(ex = .normal ∨ ex = .ret)∧mY P F' H' fn.results.toList = some vs∧aRU ae t H' = some B'∧aOM an (fC vs) H' = some y∧B'.2 = B:=by
  unfold a5A at h1
  split at h1
  ·cases h1
  ·rename_i hne
   split at h1
   ·rename_i vs hvs
    split at h1
    ·rename_i B' hB
     split at h1
     ·rename_i y' hy'
      simp only [Option.some.injEq,Prod.mk.injEq] at h1
      obtain ⟨rfl,h1⟩:=h1
      refine ⟨vs,B',?_,hvs,hB,hy',h1⟩
      cases ex with
      | normal=>exact .inl rfl
      | ret=>exact .inr rfl
      | exit i=>exact absurd rfl (hne i)
     ·cases h1
    ·cases h1
   ·cases h1
 have hargs : VRs w G (mpA μ (tk.ow l r) A.length) (tk.pv 0 ++ iP args x) us:=by
  have hn:=AK args x hd
  cases tk with
  | none=>exact VRs.bD (cH _ _ hn hv)
  | own e u =>
   change VRs w G μ (.own r u.size :: iP args x) us at hv
   change VRs w G _ (.own 0 u.size :: iP args x) us
   rw [VRs] at hv ⊢
   obtain ⟨v,us',rfl,q1,q2⟩:=hv
   refine ⟨v,us',rfl,?_,VRs.bD (cH _ _ hn q2)⟩
   rw [VR] at q1 ⊢
   exact q1
 have howb : yR (tk.ow l 0) = yR (tk.ow l r):=by cases tk <;> rfl
 have hW1:=Q0 hW ho har
 rw [← howb] at hW1
 have e0 : Ext (wrA w G μ (tk.ow l r)) w G aL w G (mpA μ (tk.ow l r) A.length) :=
  ⟨⟨fun b hb=>⟨hb,rfl⟩,fun _ _ h=>(by cases h),fun _ _ h=>(by cases h),fun _ _ h=>h,fun _ _ h=>h⟩,rfl,rfl,rfl,Nat.le_refl _,fun _ _ _=>rfl,fun _ h=>.inl h⟩
 refine ⟨enters hg (hP.names g fn hg) (by rw [hc]; rfl) _ _,calls_of_wp hg hc ?_⟩
 have hI : I (wrA w G μ (tk.ow l r)) w G aL fn.ntmps (start aU 0 (tk.pv 0 ++ iP args x)) (yR (tk.ow l 0) ++ [some (arB ae t A)]) ⟨us.toArray ++ Array.replicate (fn.ntmps - us.toArray.size) undef,[]⟩ w :=
  ⟨G,_,e0,hW1,rA (by simpa using hargs) (Nat.le_of_ble_eq_true hlen)⟩
 refine wp_mono (h2 _ w G aL _ w (fun r=>⟨rfl,rfl⟩) hI) ?_
 rintro e1 a' w' ⟨rfl,G1,μ1,ee,hW',hF'⟩
 obtain ⟨ws,h3,h4⟩:=lM (P:=P) hW' hF' hvs
 have hres : (results fn a'.tmps).run P w' = .ok (if hh : ws.toArray.size = 1 then ws.toArray[0] else .tuple ws.toArray) w':=by
  rw [tL,Array.mapM_eq_mapM_toList]
  simp only [Sem.run_bind,Sem.run_map,h3,Result.andThen_ok,Sem.run_pure]
 have hrb:=PF hW' hB
 obtain ⟨G2,μ3,b1,b2,b3⟩ : ∃ G2 μ3,Ext n0 w G μ w' G2 μ3∧aV n0 G2 μ3 (((DR (tk.ow l r) H).set ra none) ++ (some (arB ae t B'.2) :: an.hp y)) w'∧VR w' G2 μ3 (an.pv y (H.length + 1)) (if hh : ws.toArray.size = 1 then ws.toArray[0] else .tuple ws.toArray):=by
  have hvr:=nH h4
  cases an with
  | data rets =>
   simp only [aOM] at hq
   split at hq
   ·rename_i q hq'
    have hb:=Y4 (G2:=⟨fun b=>G1 b ∨ ∃ s k,H'[s]? = some (some k)∧k.frozen = false∧μ1.loc s = some b,G1.row⟩) hW ho har ee hW' hrb (os:=none) ⟨fun _ _ _ h=>by cases h⟩ (fun _=>rfl) (fun b hb=>.inl hb) (fun b hb=>by
     rcases hb with h | ⟨s,k,z1,z2,z3⟩
     ·exact .inl h
     ·exact .inr ⟨s,k,z1,z2,z3,fun _ _ _ h=>by cases h⟩)
    refine ⟨_,_,hb.1,hb.2,?_⟩
    have:=wS (G':=⟨fun b=>G1 b ∨ ∃ s k,H'[s]? = some (some k)∧k.frozen = false∧μ1.loc s = some b,G1.row⟩) hW' (fun _ _ h=>h) (fun b hb=>.inl hb) (fun s k1 b hs _ hb=>by
     obtain ⟨_,_,_,_,g5,_⟩:=hW'.blk s k1 b hs hb
     cases hf : k1.frozen with
     | true=>exact .inl (g5 hf)
     | false=>exact .inr ⟨s,k1,hs,hf,hb⟩) depth _ q _ hq' hvr
    exact (M4 hq this).bD
   ·cases hq
  | own e u =>
   simp only [aOM] at hq
   obtain ⟨r1,l0,hos,hvv⟩:=aBP hW' hq hvr
   have hb:=Y4 (G2:=G1) hW ho har ee hW' hrb hos (fun _=>rfl) (fun b hb=>hb) (fun b hb=>.inl hb)
   refine ⟨_,_,hb.1,hb.2,hvv _ _ _ ?_ ?_⟩
   ·have h1 : ¬ H.length + 1 < H.length:=by omega
    simp [nY,h1,a2S]
   ·have h1 : ¬ H.length + 1 < H.length:=by omega
    simp [nY,h1,aV8]
 have hpost : a'.defers = []∧∃ v,(results fn a'.tmps).run P w' = .ok v w'∧(∃ v' G'' μ'',Ending.returned v = .returned v'∧Ext n0 w G μ w' G'' μ''∧aV n0 G'' μ'' (((DR (tk.ow l r) H).set ra none) ++ (some (arB ae t B'.2) :: an.hp y)) w'∧VR w' G'' μ'' (an.pv y (H.length + 1)) v') :=
  ⟨hF'.defers,_,hres,_,G2,μ3,rfl,b1,b2,b3⟩
 rcases hex with rfl | rfl
 ·exact hpost
 ·exact hpost

def aZS (P : Program) (E : Env) (fn : Func) (aU : Nat) (lt : Nat→Option aS) (c : Code) (ae : TypeId) (t : Ty) (args rets : List Kd) (x : aI args) : Option (aI rets) :=
 bif Nat.ble (iP args x).length fn.ntmps then sN P E fn.ntmps aU lt c (start aU 0 (iP args x)) [some (arB ae t [])] (aKT P fn.results.toList rets) else none
theorem bDX {E : Env} (hP : B0 P) (hE : aZ P E) {g : Nat} {fn : Func} (hg : P.funcs[g]? = some fn) {c : Code} (hc : fn.body = some c) {aU : Nat} {lt : Nat→Option aS} {ae : TypeId} {t : Ty} {args rets : List Kd} {f : aI args→Option (aI rets)}
  (hl : ∀ a ∈ aF c,∀ s,lt (aG a) = some s→cE P fn.ntmps a s) (hb : ∀ x,aZS P E fn aU lt c ae t args rets x = f x) : bY P g args rets f:=by
 intro x y hy
 rw [← hb] at hy
 unfold aZS at hy
 obtain ⟨hlen,hy⟩:=aM hy
 obtain ⟨⟨ex,F',H'⟩,h1,h2⟩:=jO hE.callee hP.mixed c _ _ _ _ hl hy
 obtain ⟨vs,q,hex,hvs,hq,hd⟩ : ∃ vs q,(ex = .normal ∨ ex = .ret)∧mY P F' H' fn.results.toList = some vs∧aNT H' (fC vs) = some q∧aL8 rets q = some y:=by
  unfold aKT at h1
  split at h1
  ·cases h1
  ·rename_i hne
   split at h1
   ·rename_i vs hvs
    split at h1
    ·rename_i q hq
     refine ⟨vs,q,?_,hvs,hq,h1⟩
     cases ex with
     | normal=>exact .inl rfl
     | ret=>exact .inr rfl
     | exit i=>exact absurd rfl (hne i)
    ·cases h1
   ·cases h1
 obtain ⟨hq1,hq2⟩:=A5 hq
 intro w G us hlt hv
 have at0 : ∀ (s : Nat) (k1 : Blk),([some (arB ae t [])] : Heap)[s]? = some (some k1)→s = 0∧k1 = arB ae t []:=by
  intro s k1 hs
  cases s with
  | zero=>simp only [List.getElem?_cons_zero,Option.some.injEq] at hs; exact ⟨rfl,hs.symm⟩
  | succ s=>simp at hs
 have hW : aV (oX w) (Gd.of G) ⟨fun _=>none,fun r=>if r = 0 then some 0 else none⟩ [some (arB ae t [])] w:=by
  refine ⟨(fun r k b h hb=>by cases hb),(fun r k g h hg=>?_),(fun r s k l b h _ _ _ hb=>by cases hb),hlt,(fun r hr=>⟨rfl,?_⟩),fun _ h=>h,⟨(fun _ _ _ h=>by cases h),(fun _ _ h=>by cases h),(fun _ _ h=>by cases h),(fun r k u l h hgr ht=>?_),(fun r s k k' u l u' l' h1 g1 t1 h2 g2 t2=>by rw [(at0 r k h1).1,(at0 s k' h2).1])⟩⟩
  ·obtain ⟨rfl,rfl⟩:=at0 r k h
   cases hg
   exact ⟨rfl,rfl⟩
  ·have : r ≠ 0:=by rintro rfl; simp at hr
   simp [this]
  ·obtain ⟨rfl,rfl⟩:=at0 r k h
   cases ht
   exact ⟨rfl,fun _ _=>rfl,fun j row hj=>by simp at hj⟩
 have e0 : Ext (oX w) w (Gd.of G) aL w (Gd.of G) ⟨fun _=>none,fun r=>if r = 0 then some 0 else none⟩ :=
  ⟨⟨fun b hb=>⟨hb,rfl⟩,fun _ _ h=>(by cases h),fun _ _ h=>(by cases h),fun _ _ h=>h,fun _ _ h=>h⟩,rfl,rfl,rfl,Nat.le_refl _,fun _ _ _=>rfl,fun _ h=>.inl h⟩
 refine ⟨enters hg (hP.names g fn hg) (by rw [hc]; rfl) _ _,calls_of_wp hg hc ?_⟩
 have hI : I (oX w) w (Gd.of G) aL fn.ntmps (start aU 0 (iP args x)) [some (arB ae t [])] ⟨us ++ Array.replicate (fn.ntmps - us.size) undef,[]⟩ w:=⟨Gd.of G,_,e0,hW,rA hv.bD (Nat.le_of_ble_eq_true hlen)⟩
 refine wp_mono (h2 _ w (Gd.of G) aL _ w (fun r=>⟨rfl,rfl⟩) hI) ?_
 rintro e a' w' ⟨rfl,G1,μ1,e1,e2,hF'⟩
 obtain ⟨ws,h3,h4⟩:=lM (P:=P) e2 hF' hvs
 have hres : (results fn a'.tmps).run P w' = .ok (if hh : ws.toArray.size = 1 then ws.toArray[0] else .tuple ws.toArray) w':=by
  rw [tL,Array.mapM_eq_mapM_toList]
  simp only [Sem.run_bind,Sem.run_map,h3,Result.andThen_ok,Sem.run_pure]
 have hval:=xR (G:=⟨fun b=>G1 b ∨ ∃ r k,H'[r]? = some (some k)∧μ1.loc r = some b,G1.row⟩) (G':=Gd.of fun b=>G1 b ∨ ∃ r k,H'[r]? = some (some k)∧μ1.loc r = some b) (fun b h=>h) _ _ _ hq2
   (wS (G':=⟨fun b=>G1 b ∨ ∃ r k,H'[r]? = some (some k)∧μ1.loc r = some b,G1.row⟩) e2 (fun _ _ h=>h) (fun b hb=>.inl hb) (fun r k b hr _ hb=>.inr ⟨r,k,hr,hb⟩) depth _ q _ hq1 (nH h4))
 have hext : Ext (oX w) w (Gd.of G) aL w' (Gd.of fun b=>G1 b ∨ ∃ r k,H'[r]? = some (some k)∧μ1.loc r = some b) aL:={
  cW:=fun b hb=>⟨.inl (e1.cW b hb).1,(e1.cW b hb).2⟩
  map:=fun _ _ h=>h
  len:=fun _ _ h=>h
  room:=e1.room
  row:=fun _ _ h=>h
  os:=e1.os
  tape:=e1.tape
  output:=e1.output
  size:=e1.size
  old:=e1.old
  new:=fun b hb=>by
   rcases hb with hb | ⟨r,k,hr,hb⟩
   ·exact e1.new b hb
   ·obtain ⟨c,_,_,_,g5,g6⟩:=e2.blk r k b hr hb
    cases hf : k.frozen with
    | true=>exact e1.new b (g5 hf)
    | false=>exact .inr (g6 hf).1 }
 have hlt' : ∀ b,(G1 b ∨ ∃ r k,H'[r]? = some (some k)∧μ1.loc r = some b)→b < w'.heap.size:=by
  rintro b (hb | ⟨r,k,hr,hb⟩)
  ·exact e2.lt b hb
  ·exact e2.iS hr hb
 have hpost : a'.defers = []∧∃ v,(results fn a'.tmps).run P w' = .ok v w'∧(∃ v' G',Ending.returned v = .returned v'∧Ext (oX w) w (Gd.of G) aL w' (Gd.of G') aL∧(∀ b,G' b→b < w'.heap.size)∧VR w' (Gd.of G') aL (aG9 rets y) v') :=
  ⟨hF'.defers,_,hres,_,_,rfl,hext,hlt',M4 hd hval⟩
 rcases hex with rfl | rfl
 ·exact hpost
 ·exact hpost

def aMK (e : TypeId) (t : Ty) (H : Heap) : List PV→Option (List t.den×Nat×List PV)
 | .own r sz :: ps=>match zC e t (.own r sz) H r with
  | some l=>some (l,r,ps)
  | none=>none
 | _=>none
def Tk.dec : (tk : Tk)→List PV→Heap→Option (tk.den×Nat×List PV)
 | .none,qs,_=>some ((),0,qs)
 | .own e t,qs,H=>aMK e t H qs
theorem XM (hW : aV n0 G μ H w) {e : TypeId} {u : Ty} {qs : List PV} {l : List u.den} {r : Nat} {ps : List PV} (h : aMK e u H qs = some (l,r,ps)) : H[r]? = some (some (owB e u l))∧qs = .own r u.size :: ps:=by
 unfold aMK at h
 split at h
 ·rename_i r1 sz ps1
  split at h
  ·rename_i l1 hl1
   simp only [Option.some.injEq,Prod.mk.injEq] at h
   obtain ⟨rfl,rfl,rfl⟩:=h
   obtain ⟨g1,g2⟩:=mS hW hl1
   exact ⟨g2,by rw [g1]⟩
  ·cases h
 ·cases h
theorem Tk.aR5 (hW : aV n0 G μ H w) {tk : Tk} {qs : List PV} {l : tk.den} {r : Nat} {ps : List PV} (h : tk.dec qs H = some (l,r,ps)) : aRD H (tk.ow l r)∧qs = tk.pv r ++ ps:=by
 cases tk with
 | none =>
  simp only [Tk.dec,Option.some.injEq,Prod.mk.injEq] at h
  obtain ⟨_,_,rfl⟩:=h
  exact ⟨⟨fun _ _ h=>by cases h⟩,rfl⟩
 | own e u =>
  obtain ⟨h1,h2⟩:=XM hW (h : aMK e u H qs = some (l,r,ps))
  refine ⟨⟨fun r' k he=>?_⟩,h2⟩
  cases he
  exact ⟨h1,rfl,rfl,rfl⟩
def arH (ae : TypeId) (t : Ty) (tk : Tk) (args : List Kd) (an : An) (f : tk.den→aI args→List (List t.den)→Option (an.den×List (List t.den))) (qs : List PV) (H : Heap) : Option aM8:=match tk.dec qs H with
 | some (l,r,ps)=>match aRU ae t H with
  | some (ra,A)=>match aGQ args ps with
   | some x=>bif c6.noRefs ps then some ⟨an.den×List (List t.den),f l x A,fun y=>(an.pv y.1 (H.length + 1),((DR (tk.ow l r) H).set ra none) ++ (some (arB ae t y.2) :: an.hp y.1))⟩ else none
   | none=>none
  | none=>none
 | none=>none
theorem US {g : FuncId} {tk : Tk} {args : List Kd} {an : An} {f : tk.den→aI args→List (List t.den)→Option (an.den×List (List t.den))} (hf : aDD P g ae t tk args an f) :
  ∀ qs H r,arH ae t tk args an f qs H = some r→∀ y,r.val = some y→∀ {n0 G μ w vs},aV n0 G μ H w→VRs w G μ qs vs→pL P n0 w G μ g vs.toArray (r.out y).1 (r.out y).2:=by
 intro qs H rh h y hy n0 G μ w vs hW hv
 unfold arH at h
 split at h
 ·rename_i l r ps hl
  split at h
  ·rename_i ra A hA
   split at h
   ·rename_i x hx
    obtain ⟨hb,h⟩:=aR2 h
    simp only [Option.some.injEq] at h
    subst h
    obtain ⟨ho,rfl⟩:=Tk.aR5 hW hl
    have hv' : VRs w G μ (tk.pv r ++ iP args x) vs:=by
     cases tk with
     | none=>exact (yN args hx (cH _ _ hb hv)).bD
     | own e u =>
      change VRs w G μ (.own r u.size :: ps) vs at hv
      change VRs w G μ (.own r u.size :: iP args x) vs
      rw [VRs] at hv ⊢
      obtain ⟨v,us,rfl,q1,q2⟩:=hv
      exact ⟨v,us,rfl,q1,(yN args hx (cH _ _ hb q2)).bD⟩
    obtain ⟨y1,y2⟩:=y
    exact hf l x A y1 y2 hy hW (PF hW hA) ho hv'
   ·cases h
  ·cases h
 ·cases h
end
end Go.PM
set_option linter.unusedSimpArgs false
set_option linter.unusedVariables false
namespace Go.PM
open Go Go.RowKit Go.Proofs
set_option maxRecDepth 100000
set_option maxHeartbeats 4000000
/-! schisma/whole.split -/
def bJ (x : aI [.str]) : Option (aI [.bool,.str]):=match x with
 | (v0,()) =>
  bif ltI 0 (v0.size : Int) then
   bif aQ 0 v0.size then bif eqI (aDQ v0 0) 45 then
    bif Nat.ble 1 v0.size then bif Nat.ble v0.size v0.size then some (true,(v0.extract 1 v0.size),()) else none else none
   else some (false,v0,()) else none
  else some (false,v0,())
noncomputable def HE : Code:=aT Tryz.f130
abbrev Q3 : Env:=bE []
theorem XU : aZ Tryz.prog Q3:=aW trivial
def OI (id : Nat) : Option aS:=none
theorem UJ : aF HE = []:=by kernel_rfl
theorem YM : ∀ x,bI Tryz.prog Q3 Tryz.f130 (aC Tryz.f130) OI HE [.str] [.bool,.str] x = bJ x:=by
 rintro ⟨v0,⟨⟩⟩
 kernel_rfl
theorem aEV : bY Tryz.prog 130 [.str] [.bool,.str] bJ:=by
 exact aY aK XU Tryz.func130 (c:=HE) (by kernel_rfl) (aU:=aC Tryz.f130) (lt:=OI) (aD UJ trivial) YM
abbrev pD : Ent:=⟨130,[.str],[.bool,.str],bJ⟩
theorem mO : Ent.OK Tryz.prog pD:=aEV

/-! schisma/whole.join -/
def aA (x : aI [.bool,.str]) : Option (aI [.str]):=match x with
 | (v0,v1,()) =>
  bif v0 then
   bif !(eqS v1 (ByteArray.mk #[48])) then
    bif Nat.ble ((ByteArray.mk #[45]).size + v1.size) 9223372036854775807 then some (((ByteArray.mk #[45]) ++ v1),()) else none
   else some (v1,())
  else some (v1,())
noncomputable def LV : Code:=aT Tryz.f136
abbrev XI : Env:=bE []
theorem aAE : aZ Tryz.prog XI:=aW trivial
def QZ (id : Nat) : Option aS:=none
theorem YN : aF LV = []:=by kernel_rfl
theorem aC7 : ∀ x,bI Tryz.prog XI Tryz.f136 (aC Tryz.f136) QZ LV [.bool,.str] [.str] x = aA x:=by
 rintro ⟨v0,v1,⟨⟩⟩
 kernel_rfl
theorem aG1 : bY Tryz.prog 136 [.bool,.str] [.str] aA:=by
 exact aY aK aAE Tryz.func136 (c:=LV) (by kernel_rfl) (aU:=aC Tryz.f136) (lt:=QZ) (aD YN trivial) aC7
abbrev xG : Ent:=⟨136,[.bool,.str],[.str],aA⟩
theorem vM : Ent.OK Tryz.prog xG:=aG1

/-! schisma/whole.little -/
def hZ (x : aI [.str,.int .i64]) : Option (aI [.int .i64,.bool]):=match x with
 | (v0,v1,()) =>
  bif ltI v1 (v0.size : Int) then
   some (0,false,())
  else aB (sV (v0,())) fun y1 =>
  some (y1.1,true,())
noncomputable def E4 : Code:=aT Tryz.f132
abbrev N9 : Env:=bE [N2]
theorem T7 : aZ Tryz.prog N9:=aW ⟨UY,trivial⟩
def MB (id : Nat) : Option aS:=none
theorem RW : aF E4 = []:=by kernel_rfl
theorem VD : ∀ x,bI Tryz.prog N9 Tryz.f132 (aC Tryz.f132) MB E4 [.str,.int .i64] [.int .i64,.bool] x = hZ x:=by
 rintro ⟨v0,v1,⟨⟩⟩
 kernel_rfl
theorem ZF : bY Tryz.prog 132 [.str,.int .i64] [.int .i64,.bool] hZ:=by
 exact aY aK T7 Tryz.func132 (c:=E4) (by kernel_rfl) (aU:=aC Tryz.f132) (lt:=MB) (aD RW trivial) VD
abbrev xD : Ent:=⟨132,[.str,.int .i64],[.int .i64,.bool],hZ⟩
theorem wK : Ent.OK Tryz.prog xD:=ZF

/-! schisma/whole.Of -/
def gK (x : aI [.int .i64]) : Option (aI [.str]):=match x with
 | (v0,()) =>
  aB (lJ (v0,())) fun y1 =>
  some (y1.1,())
noncomputable def V3 : Code:=aT Tryz.f115
abbrev aE6 : Env:=bE [EV]
theorem aGW : aZ Tryz.prog aE6:=aW ⟨FJ,trivial⟩
def aA0 (id : Nat) : Option aS:=none
theorem aDV : aF V3 = []:=by kernel_rfl
theorem aHZ : ∀ x,bI Tryz.prog aE6 Tryz.f115 (aC Tryz.f115) aA0 V3 [.int .i64] [.str] x = gK x:=by
 rintro ⟨v0,⟨⟩⟩
 kernel_rfl
theorem aOA : bY Tryz.prog 115 [.int .i64] [.str] gK:=by
 exact aY aK aGW Tryz.func115 (c:=V3) (by kernel_rfl) (aU:=aC Tryz.f115) (lt:=aA0) (aD aDV trivial) aHZ
abbrev A4 : Ent:=⟨115,[.int .i64],[.str],gK⟩
theorem vB : Ent.OK Tryz.prog A4:=aOA

/-! schisma/whole.Small -/
def o6 (x : aI [.str]) : Option (aI [.int .i64,.bool]):=match x with
 | (v0,()) =>
  aB (nA (v0,10,64,())) fun y1 =>
  some (y1.1,true,())
noncomputable def G7 : Code:=aT Tryz.f109
abbrev QQ : Env:=bE [DM]
theorem YI : aZ Tryz.prog QQ:=aW ⟨KR,trivial⟩
def OA (id : Nat) : Option aS:=none
theorem TW : aF G7 = []:=by kernel_rfl
theorem YO : ∀ x,bI Tryz.prog QQ Tryz.f109 (aC Tryz.f109) OA G7 [.str] [.int .i64,.bool] x = o6 x:=by
 rintro ⟨v0,⟨⟩⟩
 kernel_rfl
theorem aEH : bY Tryz.prog 109 [.str] [.int .i64,.bool] o6:=by
 exact aY aK YI Tryz.func109 (c:=G7) (by kernel_rfl) (aU:=aC Tryz.f109) (lt:=OA) (aD TW trivial) YO
abbrev HD : Ent:=⟨109,[.str],[.int .i64,.bool],o6⟩
theorem JB : Ent.OK Tryz.prog HD:=aEH

/-! schisma/whole.Sign -/
def mW (x : aI [.str]) : Option (aI [.int .i64]):=match x with
 | (v0,()) =>
  bif eqS v0 (ByteArray.mk #[48]) then
   some (0,())
  else bif aQ 0 v0.size then bif eqI (aDQ v0 0) 45 then
   some ((-1),())
  else some (1,()) else none
noncomputable def MF : Code:=aT Tryz.f105
abbrev XB : Env:=bE []
theorem aDE : aZ Tryz.prog XB:=aW trivial
def S0 (id : Nat) : Option aS:=none
theorem XS : aF MF = []:=by kernel_rfl
theorem aCC : ∀ x,bI Tryz.prog XB Tryz.f105 (aC Tryz.f105) S0 MF [.str] [.int .i64] x = mW x:=by
 rintro ⟨v0,⟨⟩⟩
 kernel_rfl
theorem aHL : bY Tryz.prog 105 [.str] [.int .i64] mW:=by
 exact aY aK aDE Tryz.func105 (c:=MF) (by kernel_rfl) (aU:=aC Tryz.f105) (lt:=S0) (aD XS trivial) aCC
abbrev L9 : Ent:=⟨105,[.str],[.int .i64],mW⟩
theorem KH : Ent.OK Tryz.prog L9:=aHL

/-! schisma/decimal.Of -/
def lL (x : aI [.int .u64]) : Option (aI [.str]):=match x with
 | (v0,()) =>
  aB (kZ (v0,10,())) fun y1 =>
  some (y1.1,())
noncomputable def LG : Code:=aT Tryz.f156
abbrev XA : Env:=bE [zQ]
theorem aBL : aZ Tryz.prog XA:=aW ⟨IF,trivial⟩
def RM (id : Nat) : Option aS:=none
theorem YG : aF LG = []:=by kernel_rfl
theorem ZC : ∀ x,bI Tryz.prog XA Tryz.f156 (aC Tryz.f156) RM LG [.int .u64] [.str] x = lL x:=by
 rintro ⟨v0,⟨⟩⟩
 kernel_rfl
theorem aGV : bY Tryz.prog 156 [.int .u64] [.str] lL:=by
 exact aY aK aBL Tryz.func156 (c:=LG) (by kernel_rfl) (aU:=aC Tryz.f156) (lt:=RM) (aD YG trivial) ZC
abbrev xM : Ent:=⟨156,[.int .u64],[.str],lL⟩
theorem vC : Ent.OK Tryz.prog xM:=aGV

/-! schisma/decimal.Small -/
def lZ (x : aI [.str]) : Option (aI [.int .u64,.bool]):=match x with
 | (v0,()) =>
  aB (lR (v0,10,64,())) fun y1 =>
  some (y1.1,true,())
noncomputable def B1 : Code:=aT Tryz.f185
abbrev MK : Env:=bE [B2]
theorem SZ : aZ Tryz.prog MK:=aW ⟨JQ,trivial⟩
def JM (id : Nat) : Option aS:=none
theorem PD : aF B1 = []:=by kernel_rfl
theorem SJ : ∀ x,bI Tryz.prog MK Tryz.f185 (aC Tryz.f185) JM B1 [.str] [.int .u64,.bool] x = lZ x:=by
 rintro ⟨v0,⟨⟩⟩
 kernel_rfl
theorem YE : bY Tryz.prog 185 [.str] [.int .u64,.bool] lZ:=by
 exact aY aK SZ Tryz.func185 (c:=B1) (by kernel_rfl) (aU:=aC Tryz.f185) (lt:=JM) (aD PD trivial) SJ
abbrev LU : Ent:=⟨185,[.str],[.int .u64,.bool],lZ⟩
theorem QM : Ent.OK Tryz.prog LU:=YE

/-! schisma/decimal.both -/
def kI (x : aI [.str,.str]) : Option (aI [.int .u64,.int .u64,.bool]):=match x with
 | (v0,v1,()) =>
  bif ltI 18 (v0.size : Int) then
   some (0,0,false,())
  else bif ltI 18 (v1.size : Int) then
   some (0,0,false,())
  else aB (lZ (v0,())) fun y1 =>
  aB (lZ (v1,())) fun y2 =>
  some (y1.1,y2.1,true,())
noncomputable def EW : Code:=aT Tryz.f155
abbrev N5 : Env:=bE [LU]
theorem TQ : aZ Tryz.prog N5:=aW ⟨QM,trivial⟩
def KI (id : Nat) : Option aS:=none
theorem R6 : aF EW = []:=by kernel_rfl
theorem VT : ∀ x,bI Tryz.prog N5 Tryz.f155 (aC Tryz.f155) KI EW [.str,.str] [.int .u64,.int .u64,.bool] x = kI x:=by
 rintro ⟨v0,v1,⟨⟩⟩
 kernel_rfl
theorem aC1 : bY Tryz.prog 155 [.str,.str] [.int .u64,.int .u64,.bool] kI:=by
 exact aY aK TQ Tryz.func155 (c:=EW) (by kernel_rfl) (aU:=aC Tryz.f155) (lt:=KI) (aD R6 trivial) VT
abbrev sQ : Ent:=⟨155,[.str,.str],[.int .u64,.int .u64,.bool],kI⟩
theorem rH : Ent.OK Tryz.prog sQ:=aC1

/-! schisma/decimal.Compare -/
def cP (x : aI [.str,.str]) : Option (aI [.int .i64]):=match x with
 | (v0,v1,()) =>
  bif !(eqI (v0.size : Int) (v1.size : Int)) then
   some ((if (if (-1) < (aE .i64 ((v0.size : Int) - (v1.size : Int))) then (aE .i64 ((v0.size : Int) - (v1.size : Int))) else (-1)) < 1 then (if (-1) < (aE .i64 ((v0.size : Int) - (v1.size : Int))) then (aE .i64 ((v0.size : Int) - (v1.size : Int))) else (-1)) else 1),())
  else bif ltS v0 v1 then
   some ((-1),())
  else bif !(ltS v0 v1 || eqS v0 v1) then
   some (1,())
  else some (0,())
noncomputable def wP : Code:=aT Tryz.f131
abbrev GG : Env:=bE []
theorem NK : aZ Tryz.prog GG:=aW trivial
def DV (id : Nat) : Option aS:=none
theorem ML : aF wP = []:=by kernel_rfl
theorem NJ : ∀ x,bI Tryz.prog GG Tryz.f131 (aC Tryz.f131) DV wP [.str,.str] [.int .i64] x = cP x:=by
 rintro ⟨v0,v1,⟨⟩⟩
 kernel_rfl
theorem SX : bY Tryz.prog 131 [.str,.str] [.int .i64] cP:=by
 exact aY aK NK Tryz.func131 (c:=wP) (by kernel_rfl) (aU:=aC Tryz.f131) (lt:=DV) (aD ML trivial) NJ
abbrev rU : Ent:=⟨131,[.str,.str],[.int .i64],cP⟩
theorem sA : Ent.OK Tryz.prog rU:=SX

/-! schisma/whole.Compare -/
def nW (x : aI [.str,.str]) : Option (aI [.int .i64]):=match x with
 | (v0,v1,()) =>
  aB (mW (v0,())) fun y1 =>
  aB (mW (v1,())) fun y2 =>
  bif !(eqI y1.1 y2.1) then
   bif ltI y1.1 y2.1 then
    some ((-1),())
   else some (1,())
  else aB (bJ (v0,())) fun y3 =>
  aB (bJ (v1,())) fun y4 =>
  bif y3.1 then
   aB (cP (y4.2.1,y3.2.1,())) fun y5 =>
   some (y5.1,())
  else aB (cP (y3.2.1,y4.2.1,())) fun y6 =>
  some (y6.1,())
noncomputable def CV : Code:=aT Tryz.f101
abbrev LR : Env:=bE [rU,L9,pD]
theorem SS : aZ Tryz.prog LR:=aW ⟨sA,KH,mO,trivial⟩
def I7 (id : Nat) : Option aS:=none
theorem PQ : aF CV = []:=by kernel_rfl
theorem RU : ∀ x,bI Tryz.prog LR Tryz.f101 (aC Tryz.f101) I7 CV [.str,.str] [.int .i64] x = nW x:=by
 rintro ⟨v0,v1,⟨⟩⟩
 kernel_rfl
theorem X7 : bY Tryz.prog 101 [.str,.str] [.int .i64] nW:=by
 exact aY aK SS Tryz.func101 (c:=CV) (by kernel_rfl) (aU:=aC Tryz.f101) (lt:=I7) (aD PQ trivial) RU
abbrev L4 : Ent:=⟨101,[.str,.str],[.int .i64],nW⟩
theorem QP : Ent.OK Tryz.prog L4:=X7

/-! schisma/whole.Neg -/
def tE (x : aI [.str]) : Option (aI [.str]):=match x with
 | (v0,()) =>
  aB (bJ (v0,())) fun y1 =>
  bif y1.1 then
   aB (aA (false,y1.2.1,())) fun y2 =>
   some (y2.1,())
  else aB (aA (true,y1.2.1,())) fun y3 =>
  some (y3.1,())
noncomputable def O4 : Code:=aT Tryz.f139
abbrev aCA : Env:=bE [xG,pD]
theorem aEF : aZ Tryz.prog aCA:=aW ⟨vM,mO,trivial⟩
def W5 (id : Nat) : Option aS:=none
theorem aCG : aF O4 = []:=by kernel_rfl
theorem aDT : ∀ x,bI Tryz.prog aCA Tryz.f139 (aC Tryz.f139) W5 O4 [.str] [.str] x = tE x:=by
 rintro ⟨v0,⟨⟩⟩
 kernel_rfl
theorem aL6 : bY Tryz.prog 139 [.str] [.str] tE:=by
 exact aY aK aEF Tryz.func139 (c:=O4) (by kernel_rfl) (aU:=aC Tryz.f139) (lt:=W5) (aD aCG trivial) aDT
abbrev QH : Ent:=⟨139,[.str],[.str],tE⟩
theorem OB : Ent.OK Tryz.prog QH:=aL6

/-! schisma/whole.Abs -/
def s8 (x : aI [.str]) : Option (aI [.str]):=match x with
 | (v0,()) =>
  aB (bJ (v0,())) fun y1 =>
  some (y1.2.1,())
noncomputable def O9 : Code:=aT Tryz.f102
abbrev aDO : Env:=bE [pD]
theorem aEA : aZ Tryz.prog aDO:=aW ⟨mO,trivial⟩
def WR (id : Nat) : Option aS:=none
theorem ZI : aF O9 = []:=by kernel_rfl
theorem aD4 : ∀ x,bI Tryz.prog aDO Tryz.f102 (aC Tryz.f102) WR O9 [.str] [.str] x = s8 x:=by
 rintro ⟨v0,⟨⟩⟩
 kernel_rfl
theorem aK4 : bY Tryz.prog 102 [.str] [.str] s8:=by
 exact aY aK aEA Tryz.func102 (c:=O9) (by kernel_rfl) (aU:=aC Tryz.f102) (lt:=WR) (aD ZI trivial) aD4
abbrev aBJ : Ent:=⟨102,[.str],[.str],s8⟩
theorem aES : Ent.OK Tryz.prog aBJ:=aK4

/-! schisma/decimal.Add -/
def dN (x : aI [.str,.str]) : Option (aI [.str]):=match x with
 | (v0,v1,()) =>
  aB (kI (v0,v1,())) fun y1 =>
  bif y1.2.2.1 then aB (lL ((aE .u64 (y1.1 + y1.2.1)),())) fun y2 =>
  some (y2.1,()) else none
noncomputable def IN : Code:=aT Tryz.f134
abbrev SO : Env:=bE [xM,sQ]
theorem X3 : aZ Tryz.prog SO:=aW ⟨vC,rH,trivial⟩
def NX (id : Nat) : Option aS:=none
theorem WA : aF IN = []:=by kernel_rfl
theorem YB : ∀ x,bI Tryz.prog SO Tryz.f134 (aC Tryz.f134) NX IN [.str,.str] [.str] x = dN x:=by
 rintro ⟨v0,v1,⟨⟩⟩
 kernel_rfl
theorem aD9 : bY Tryz.prog 134 [.str,.str] [.str] dN:=by
 exact aY aK X3 Tryz.func134 (c:=IN) (by kernel_rfl) (aU:=aC Tryz.f134) (lt:=NX) (aD WA trivial) YB
abbrev IA : Ent:=⟨134,[.str,.str],[.str],dN⟩
theorem JJ : Ent.OK Tryz.prog IA:=aD9

/-! schisma/decimal.Sub -/
def bS (x : aI [.str,.str]) : Option (aI [.str,.int .i64]):=match x with
 | (v0,v1,()) =>
  aB (cP (v0,v1,())) fun y1 =>
  bif ltI y1.1 0 then
   some ((ByteArray.mk #[]),3,())
  else aB (kI (v0,v1,())) fun y2 =>
  bif y2.2.2.1 then aB (lL ((aE .u64 (y2.1 - y2.2.1)),())) fun y3 =>
  some (y3.1,0,()) else none
noncomputable def IB : Code:=aT Tryz.f135
abbrev RH : Env:=bE [rU,xM,sQ]
theorem YC : aZ Tryz.prog RH:=aW ⟨sA,vC,rH,trivial⟩
def NW (id : Nat) : Option aS:=none
theorem VB : aF IB = []:=by kernel_rfl
theorem XW : ∀ x,bI Tryz.prog RH Tryz.f135 (aC Tryz.f135) NW IB [.str,.str] [.str,.int .i64] x = bS x:=by
 rintro ⟨v0,v1,⟨⟩⟩
 kernel_rfl
theorem aEP : bY Tryz.prog 135 [.str,.str] [.str,.int .i64] bS:=by
 exact aY aK YC Tryz.func135 (c:=IB) (by kernel_rfl) (aU:=aC Tryz.f135) (lt:=NW) (aD VB trivial) XW
abbrev HB : Ent:=⟨135,[.str,.str],[.str,.int .i64],bS⟩
theorem JE : Ent.OK Tryz.prog HB:=aEP

/-! schisma/decimal.Mul -/
def dQ (x : aI [.str,.str]) : Option (aI [.str]):=match x with
 | (v0,v1,()) =>
  bif !(ltI 18 (aE .i64 ((v0.size : Int) + (v1.size : Int)))) then aB (kI (v0,v1,())) fun y1 =>
  aB (lL ((aE .u64 (y1.1 * y1.2.1)),())) fun y2 =>
  some (y2.1,()) else none
noncomputable def IL : Code:=aT Tryz.f166
abbrev SL : Env:=bE [xM,sQ]
theorem YA : aZ Tryz.prog SL:=aW ⟨vC,rH,trivial⟩
def OC (id : Nat) : Option aS:=none
theorem TP : aF IL = []:=by kernel_rfl
theorem X8 : ∀ x,bI Tryz.prog SL Tryz.f166 (aC Tryz.f166) OC IL [.str,.str] [.str] x = dQ x:=by
 rintro ⟨v0,v1,⟨⟩⟩
 kernel_rfl
theorem aEK : bY Tryz.prog 166 [.str,.str] [.str] dQ:=by
 exact aY aK YA Tryz.func166 (c:=IL) (by kernel_rfl) (aU:=aC Tryz.f166) (lt:=OC) (aD TP trivial) X8
abbrev RC : Ent:=⟨166,[.str,.str],[.str],dQ⟩
theorem X1 : Ent.OK Tryz.prog RC:=aEK

/-! schisma/decimal.DivMod -/
def jN (x : aI [.str,.str]) : Option (aI [.str,.str,.int .i64]):=match x with
 | (v0,v1,()) =>
  bif eqS v1 (ByteArray.mk #[48]) then
   some ((ByteArray.mk #[]),(ByteArray.mk #[]),17,())
  else aB (kI (v0,v1,())) fun y1 =>
  bif y1.2.2.1 then bif eqI y1.2.1 0 then none else aB (lL ((aE .u64 (y1.1.tdiv y1.2.1)),())) fun y2 =>
  bif eqI y1.2.1 0 then none else aB (lL ((y1.1.tmod y1.2.1),())) fun y3 =>
  some (y2.1,y3.1,0,()) else none
noncomputable def yY : Code:=aT Tryz.f133
abbrev I8 : Env:=bE [xM,sQ]
theorem PY : aZ Tryz.prog I8:=aW ⟨vC,rH,trivial⟩
def FE (id : Nat) : Option aS:=none
theorem NL : aF yY = []:=by kernel_rfl
theorem P4 : ∀ x,bI Tryz.prog I8 Tryz.f133 (aC Tryz.f133) FE yY [.str,.str] [.str,.str,.int .i64] x = jN x:=by
 rintro ⟨v0,v1,⟨⟩⟩
 kernel_rfl
theorem VK : bY Tryz.prog 133 [.str,.str] [.str,.str,.int .i64] jN:=by
 exact aY aK PY Tryz.func133 (c:=yY) (by kernel_rfl) (aU:=aC Tryz.f133) (lt:=FE) (aD NL trivial) P4
abbrev JL : Ent:=⟨133,[.str,.str],[.str,.str,.int .i64],jN⟩
theorem PX : Ent.OK Tryz.prog JL:=VK

/-! schisma/whole.Add -/
def wD (x : aI [.str,.str]) : Option (aI [.str]):=match x with
 | (v0,v1,()) =>
  aB (hZ (v0,18,())) fun y1 =>
  bif y1.2.1 then
   aB (hZ (v1,18,())) fun y2 =>
   bif y2.2.1 then
    aB (gK ((aE .i64 (y1.1 + y2.1)),())) fun y3 =>
    some (y3.1,())
   else aB (bJ (v0,())) fun y4 =>
   aB (bJ (v1,())) fun y5 =>
   bif y4.1 then
    bif y5.1 then
     aB (dN (y4.2.1,y5.2.1,())) fun y6 =>
     aB (aA (y4.1,y6.1,())) fun y7 =>
     some (y7.1,())
    else aB (cP (y4.2.1,y5.2.1,())) fun y8 =>
    bif ltI y8.1 0 then
     aB (bS (y5.2.1,y4.2.1,())) fun y9 =>
     aB (aA (y5.1,y9.1,())) fun y10 =>
     some (y10.1,())
    else aB (bS (y4.2.1,y5.2.1,())) fun y11 =>
    aB (aA (y4.1,y11.1,())) fun y12 =>
    some (y12.1,())
   else bif y5.1 then
    aB (cP (y4.2.1,y5.2.1,())) fun y13 =>
    bif ltI y13.1 0 then
     aB (bS (y5.2.1,y4.2.1,())) fun y14 =>
     aB (aA (y5.1,y14.1,())) fun y15 =>
     some (y15.1,())
    else aB (bS (y4.2.1,y5.2.1,())) fun y16 =>
    aB (aA (y4.1,y16.1,())) fun y17 =>
    some (y17.1,())
   else aB (dN (y4.2.1,y5.2.1,())) fun y18 =>
   aB (aA (y4.1,y18.1,())) fun y19 =>
   some (y19.1,())
  else aB (bJ (v0,())) fun y20 =>
  aB (bJ (v1,())) fun y21 =>
  bif y20.1 then
   bif y21.1 then
    aB (dN (y20.2.1,y21.2.1,())) fun y22 =>
    aB (aA (y20.1,y22.1,())) fun y23 =>
    some (y23.1,())
   else aB (cP (y20.2.1,y21.2.1,())) fun y24 =>
   bif ltI y24.1 0 then
    aB (bS (y21.2.1,y20.2.1,())) fun y25 =>
    aB (aA (y21.1,y25.1,())) fun y26 =>
    some (y26.1,())
   else aB (bS (y20.2.1,y21.2.1,())) fun y27 =>
   aB (aA (y20.1,y27.1,())) fun y28 =>
   some (y28.1,())
  else bif y21.1 then
   aB (cP (y20.2.1,y21.2.1,())) fun y29 =>
   bif ltI y29.1 0 then
    aB (bS (y21.2.1,y20.2.1,())) fun y30 =>
    aB (aA (y21.1,y30.1,())) fun y31 =>
    some (y31.1,())
   else aB (bS (y20.2.1,y21.2.1,())) fun y32 =>
   aB (aA (y20.1,y32.1,())) fun y33 =>
   some (y33.1,())
  else aB (dN (y20.2.1,y21.2.1,())) fun y34 =>
  aB (aA (y20.1,y34.1,())) fun y35 =>
  some (y35.1,())
noncomputable def OY : Code:=aT Tryz.f165
abbrev aAI : Env:=bE [IA,rU,HB,A4,xG,xD,pD]
theorem aDU : aZ Tryz.prog aAI:=aW ⟨JJ,sA,JE,vB,vM,wK,mO,trivial⟩
def WG (id : Nat) : Option aS:=none
theorem aDG : aF OY = []:=by kernel_rfl
theorem aDX : ∀ x,bI Tryz.prog aAI Tryz.f165 (aC Tryz.f165) WG OY [.str,.str] [.str] x = wD x:=by
 rintro ⟨v0,v1,⟨⟩⟩
 kernel_rfl
theorem aMU : bY Tryz.prog 165 [.str,.str] [.str] wD:=by
 exact aY aK aDU Tryz.func165 (c:=OY) (by kernel_rfl) (aU:=aC Tryz.f165) (lt:=WG) (aD aDG trivial) aDX
abbrev aBD : Ent:=⟨165,[.str,.str],[.str],wD⟩
theorem aD3 : Ent.OK Tryz.prog aBD:=aMU

/-! schisma/whole.Sub -/
def tH (x : aI [.str,.str]) : Option (aI [.str]):=match x with
 | (v0,v1,()) =>
  aB (tE (v1,())) fun y1 =>
  aB (wD (v0,y1.1,())) fun y2 =>
  some (y2.1,())
noncomputable def OS : Code:=aT Tryz.f137
abbrev aAH : Env:=bE [aBD,QH]
theorem aD5 : aZ Tryz.prog aAH:=aW ⟨aD3,OB,trivial⟩
def WX (id : Nat) : Option aS:=none
theorem aA6 : aF OS = []:=by kernel_rfl
theorem aEQ : ∀ x,bI Tryz.prog aAH Tryz.f137 (aC Tryz.f137) WX OS [.str,.str] [.str] x = tH x:=by
 rintro ⟨v0,v1,⟨⟩⟩
 kernel_rfl
theorem aKJ : bY Tryz.prog 137 [.str,.str] [.str] tH:=by
 exact aY aK aD5 Tryz.func137 (c:=OS) (by kernel_rfl) (aU:=aC Tryz.f137) (lt:=WX) (aD aA6 trivial) aEQ
abbrev PC : Ent:=⟨137,[.str,.str],[.str],tH⟩
theorem N7 : Ent.OK Tryz.prog PC:=aKJ

/-! schisma/whole.Mul -/
def tA (x : aI [.str,.str]) : Option (aI [.str]):=match x with
 | (v0,v1,()) =>
  aB (hZ (v0,9,())) fun y1 =>
  bif y1.2.1 then
   aB (hZ (v1,9,())) fun y2 =>
   bif y2.2.1 then
    aB (gK ((aE .i64 (y1.1 * y2.1)),())) fun y3 =>
    some (y3.1,())
   else aB (bJ (v0,())) fun y4 =>
   aB (bJ (v1,())) fun y5 =>
   bif y4.1 then
    bif y5.1 then
     aB (dQ (y4.2.1,y5.2.1,())) fun y6 =>
     aB (aA (false,y6.1,())) fun y7 =>
     some (y7.1,())
    else aB (dQ (y4.2.1,y5.2.1,())) fun y8 =>
    aB (aA (true,y8.1,())) fun y9 =>
    some (y9.1,())
   else bif y5.1 then
    aB (dQ (y4.2.1,y5.2.1,())) fun y10 =>
    aB (aA (true,y10.1,())) fun y11 =>
    some (y11.1,())
   else aB (dQ (y4.2.1,y5.2.1,())) fun y12 =>
   aB (aA (false,y12.1,())) fun y13 =>
   some (y13.1,())
  else aB (bJ (v0,())) fun y14 =>
  aB (bJ (v1,())) fun y15 =>
  bif y14.1 then
   bif y15.1 then
    aB (dQ (y14.2.1,y15.2.1,())) fun y16 =>
    aB (aA (false,y16.1,())) fun y17 =>
    some (y17.1,())
   else aB (dQ (y14.2.1,y15.2.1,())) fun y18 =>
   aB (aA (true,y18.1,())) fun y19 =>
   some (y19.1,())
  else bif y15.1 then
   aB (dQ (y14.2.1,y15.2.1,())) fun y20 =>
   aB (aA (true,y20.1,())) fun y21 =>
   some (y21.1,())
  else aB (dQ (y14.2.1,y15.2.1,())) fun y22 =>
  aB (aA (false,y22.1,())) fun y23 =>
  some (y23.1,())
noncomputable def PE : Code:=aT Tryz.f138
abbrev aC2 : Env:=bE [RC,A4,xG,xD,pD]
theorem aEB : aZ Tryz.prog aC2:=aW ⟨X1,vB,vM,wK,mO,trivial⟩
def W9 (id : Nat) : Option aS:=none
theorem Z6 : aF PE = []:=by kernel_rfl
theorem aEC : ∀ x,bI Tryz.prog aC2 Tryz.f138 (aC Tryz.f138) W9 PE [.str,.str] [.str] x = tA x:=by
 rintro ⟨v0,v1,⟨⟩⟩
 kernel_rfl
theorem aLN : bY Tryz.prog 138 [.str,.str] [.str] tA:=by
 exact aY aK aEB Tryz.func138 (c:=PE) (by kernel_rfl) (aU:=aC Tryz.f138) (lt:=W9) (aD Z6 trivial) aEC
abbrev QI : Ent:=⟨138,[.str,.str],[.str],tA⟩
theorem N4 : Ent.OK Tryz.prog QI:=aLN

/-! schisma/whole.DivMod -/
def lK (x : aI [.str,.str]) : Option (aI [.str,.str,.int .i64]):=match x with
 | (v0,v1,()) =>
  bif eqS v1 (ByteArray.mk #[48]) then
   some ((ByteArray.mk #[]),(ByteArray.mk #[]),17,())
  else aB (hZ (v0,18,())) fun y1 =>
  bif y1.2.1 then
   aB (hZ (v1,18,())) fun y2 =>
   bif y2.2.1 then
    bif eqI y2.1 0 then none else bif eqI y2.1 0 then none else bif !(eqI (y1.1.tmod y2.1) 0) then
     bif ltI (y1.1.tmod y2.1) 0 then
      bif ltI y2.1 0 then
       aB (gK ((aE .i64 (y1.1.tdiv y2.1)),())) fun y3 =>
       aB (gK ((y1.1.tmod y2.1),())) fun y4 =>
       some (y3.1,y4.1,0,())
      else aB (gK ((aE .i64 ((aE .i64 (y1.1.tdiv y2.1)) - 1)),())) fun y5 =>
      aB (gK ((aE .i64 ((y1.1.tmod y2.1) + y2.1)),())) fun y6 =>
      some (y5.1,y6.1,0,())
     else bif ltI y2.1 0 then
      aB (gK ((aE .i64 ((aE .i64 (y1.1.tdiv y2.1)) - 1)),())) fun y7 =>
      aB (gK ((aE .i64 ((y1.1.tmod y2.1) + y2.1)),())) fun y8 =>
      some (y7.1,y8.1,0,())
     else aB (gK ((aE .i64 (y1.1.tdiv y2.1)),())) fun y9 =>
     aB (gK ((y1.1.tmod y2.1),())) fun y10 =>
     some (y9.1,y10.1,0,())
    else aB (gK ((aE .i64 (y1.1.tdiv y2.1)),())) fun y11 =>
    aB (gK ((y1.1.tmod y2.1),())) fun y12 =>
    some (y11.1,y12.1,0,())
   else aB (bJ (v0,())) fun y13 =>
   aB (bJ (v1,())) fun y14 =>
   aB (jN (y13.2.1,y14.2.1,())) fun y15 =>
   bif !(eqI y15.2.2.1 0) then
    some ((ByteArray.mk #[]),(ByteArray.mk #[]),y15.2.2.1,())
   else bif y13.1 then
    bif y14.1 then
     bif y13.1 then
      bif y14.1 then
       aB (aA (false,y15.1,())) fun y16 =>
       aB (aA (y14.1,y15.2.1,())) fun y17 =>
       some (y16.1,y17.1,0,())
      else aB (aA (true,y15.1,())) fun y18 =>
      aB (aA (y14.1,y15.2.1,())) fun y19 =>
      some (y18.1,y19.1,0,())
     else bif y14.1 then
      aB (aA (true,y15.1,())) fun y20 =>
      aB (aA (y14.1,y15.2.1,())) fun y21 =>
      some (y20.1,y21.1,0,())
     else aB (aA (false,y15.1,())) fun y22 =>
     aB (aA (y14.1,y15.2.1,())) fun y23 =>
     some (y22.1,y23.1,0,())
    else bif !(eqS y15.2.1 (ByteArray.mk #[48])) then
     aB (dN (y15.1,(ByteArray.mk #[49]),())) fun y24 =>
     aB (bS (y14.2.1,y15.2.1,())) fun y25 =>
     bif y13.1 then
      bif y14.1 then
       aB (aA (false,y24.1,())) fun y26 =>
       aB (aA (y14.1,y25.1,())) fun y27 =>
       some (y26.1,y27.1,0,())
      else aB (aA (true,y24.1,())) fun y28 =>
      aB (aA (y14.1,y25.1,())) fun y29 =>
      some (y28.1,y29.1,0,())
     else bif y14.1 then
      aB (aA (true,y24.1,())) fun y30 =>
      aB (aA (y14.1,y25.1,())) fun y31 =>
      some (y30.1,y31.1,0,())
     else aB (aA (false,y24.1,())) fun y32 =>
     aB (aA (y14.1,y25.1,())) fun y33 =>
     some (y32.1,y33.1,0,())
    else bif y13.1 then
     bif y14.1 then
      aB (aA (false,y15.1,())) fun y34 =>
      aB (aA (y14.1,y15.2.1,())) fun y35 =>
      some (y34.1,y35.1,0,())
     else aB (aA (true,y15.1,())) fun y36 =>
     aB (aA (y14.1,y15.2.1,())) fun y37 =>
     some (y36.1,y37.1,0,())
    else bif y14.1 then
     aB (aA (true,y15.1,())) fun y38 =>
     aB (aA (y14.1,y15.2.1,())) fun y39 =>
     some (y38.1,y39.1,0,())
    else aB (aA (false,y15.1,())) fun y40 =>
    aB (aA (y14.1,y15.2.1,())) fun y41 =>
    some (y40.1,y41.1,0,())
   else bif y14.1 then
    bif !(eqS y15.2.1 (ByteArray.mk #[48])) then
     aB (dN (y15.1,(ByteArray.mk #[49]),())) fun y42 =>
     aB (bS (y14.2.1,y15.2.1,())) fun y43 =>
     bif y13.1 then
      bif y14.1 then
       aB (aA (false,y42.1,())) fun y44 =>
       aB (aA (y14.1,y43.1,())) fun y45 =>
       some (y44.1,y45.1,0,())
      else aB (aA (true,y42.1,())) fun y46 =>
      aB (aA (y14.1,y43.1,())) fun y47 =>
      some (y46.1,y47.1,0,())
     else bif y14.1 then
      aB (aA (true,y42.1,())) fun y48 =>
      aB (aA (y14.1,y43.1,())) fun y49 =>
      some (y48.1,y49.1,0,())
     else aB (aA (false,y42.1,())) fun y50 =>
     aB (aA (y14.1,y43.1,())) fun y51 =>
     some (y50.1,y51.1,0,())
    else bif y13.1 then
     bif y14.1 then
      aB (aA (false,y15.1,())) fun y52 =>
      aB (aA (y14.1,y15.2.1,())) fun y53 =>
      some (y52.1,y53.1,0,())
     else aB (aA (true,y15.1,())) fun y54 =>
     aB (aA (y14.1,y15.2.1,())) fun y55 =>
     some (y54.1,y55.1,0,())
    else bif y14.1 then
     aB (aA (true,y15.1,())) fun y56 =>
     aB (aA (y14.1,y15.2.1,())) fun y57 =>
     some (y56.1,y57.1,0,())
    else aB (aA (false,y15.1,())) fun y58 =>
    aB (aA (y14.1,y15.2.1,())) fun y59 =>
    some (y58.1,y59.1,0,())
   else bif y13.1 then
    bif y14.1 then
     aB (aA (false,y15.1,())) fun y60 =>
     aB (aA (y14.1,y15.2.1,())) fun y61 =>
     some (y60.1,y61.1,0,())
    else aB (aA (true,y15.1,())) fun y62 =>
    aB (aA (y14.1,y15.2.1,())) fun y63 =>
    some (y62.1,y63.1,0,())
   else bif y14.1 then
    aB (aA (true,y15.1,())) fun y64 =>
    aB (aA (y14.1,y15.2.1,())) fun y65 =>
    some (y64.1,y65.1,0,())
   else aB (aA (false,y15.1,())) fun y66 =>
   aB (aA (y14.1,y15.2.1,())) fun y67 =>
   some (y66.1,y67.1,0,())
  else aB (bJ (v0,())) fun y68 =>
  aB (bJ (v1,())) fun y69 =>
  aB (jN (y68.2.1,y69.2.1,())) fun y70 =>
  bif !(eqI y70.2.2.1 0) then
   some ((ByteArray.mk #[]),(ByteArray.mk #[]),y70.2.2.1,())
  else bif y68.1 then
   bif y69.1 then
    bif y68.1 then
     bif y69.1 then
      aB (aA (false,y70.1,())) fun y71 =>
      aB (aA (y69.1,y70.2.1,())) fun y72 =>
      some (y71.1,y72.1,0,())
     else aB (aA (true,y70.1,())) fun y73 =>
     aB (aA (y69.1,y70.2.1,())) fun y74 =>
     some (y73.1,y74.1,0,())
    else bif y69.1 then
     aB (aA (true,y70.1,())) fun y75 =>
     aB (aA (y69.1,y70.2.1,())) fun y76 =>
     some (y75.1,y76.1,0,())
    else aB (aA (false,y70.1,())) fun y77 =>
    aB (aA (y69.1,y70.2.1,())) fun y78 =>
    some (y77.1,y78.1,0,())
   else bif !(eqS y70.2.1 (ByteArray.mk #[48])) then
    aB (dN (y70.1,(ByteArray.mk #[49]),())) fun y79 =>
    aB (bS (y69.2.1,y70.2.1,())) fun y80 =>
    bif y68.1 then
     bif y69.1 then
      aB (aA (false,y79.1,())) fun y81 =>
      aB (aA (y69.1,y80.1,())) fun y82 =>
      some (y81.1,y82.1,0,())
     else aB (aA (true,y79.1,())) fun y83 =>
     aB (aA (y69.1,y80.1,())) fun y84 =>
     some (y83.1,y84.1,0,())
    else bif y69.1 then
     aB (aA (true,y79.1,())) fun y85 =>
     aB (aA (y69.1,y80.1,())) fun y86 =>
     some (y85.1,y86.1,0,())
    else aB (aA (false,y79.1,())) fun y87 =>
    aB (aA (y69.1,y80.1,())) fun y88 =>
    some (y87.1,y88.1,0,())
   else bif y68.1 then
    bif y69.1 then
     aB (aA (false,y70.1,())) fun y89 =>
     aB (aA (y69.1,y70.2.1,())) fun y90 =>
     some (y89.1,y90.1,0,())
    else aB (aA (true,y70.1,())) fun y91 =>
    aB (aA (y69.1,y70.2.1,())) fun y92 =>
    some (y91.1,y92.1,0,())
   else bif y69.1 then
    aB (aA (true,y70.1,())) fun y93 =>
    aB (aA (y69.1,y70.2.1,())) fun y94 =>
    some (y93.1,y94.1,0,())
   else aB (aA (false,y70.1,())) fun y95 =>
   aB (aA (y69.1,y70.2.1,())) fun y96 =>
   some (y95.1,y96.1,0,())
  else bif y69.1 then
   bif !(eqS y70.2.1 (ByteArray.mk #[48])) then
    aB (dN (y70.1,(ByteArray.mk #[49]),())) fun y97 =>
    aB (bS (y69.2.1,y70.2.1,())) fun y98 =>
    bif y68.1 then
     bif y69.1 then
      aB (aA (false,y97.1,())) fun y99 =>
      aB (aA (y69.1,y98.1,())) fun y100 =>
      some (y99.1,y100.1,0,())
     else aB (aA (true,y97.1,())) fun y101 =>
     aB (aA (y69.1,y98.1,())) fun y102 =>
     some (y101.1,y102.1,0,())
    else bif y69.1 then
     aB (aA (true,y97.1,())) fun y103 =>
     aB (aA (y69.1,y98.1,())) fun y104 =>
     some (y103.1,y104.1,0,())
    else aB (aA (false,y97.1,())) fun y105 =>
    aB (aA (y69.1,y98.1,())) fun y106 =>
    some (y105.1,y106.1,0,())
   else bif y68.1 then
    bif y69.1 then
     aB (aA (false,y70.1,())) fun y107 =>
     aB (aA (y69.1,y70.2.1,())) fun y108 =>
     some (y107.1,y108.1,0,())
    else aB (aA (true,y70.1,())) fun y109 =>
    aB (aA (y69.1,y70.2.1,())) fun y110 =>
    some (y109.1,y110.1,0,())
   else bif y69.1 then
    aB (aA (true,y70.1,())) fun y111 =>
    aB (aA (y69.1,y70.2.1,())) fun y112 =>
    some (y111.1,y112.1,0,())
   else aB (aA (false,y70.1,())) fun y113 =>
   aB (aA (y69.1,y70.2.1,())) fun y114 =>
   some (y113.1,y114.1,0,())
  else bif y68.1 then
   bif y69.1 then
    aB (aA (false,y70.1,())) fun y115 =>
    aB (aA (y69.1,y70.2.1,())) fun y116 =>
    some (y115.1,y116.1,0,())
   else aB (aA (true,y70.1,())) fun y117 =>
   aB (aA (y69.1,y70.2.1,())) fun y118 =>
   some (y117.1,y118.1,0,())
  else bif y69.1 then
   aB (aA (true,y70.1,())) fun y119 =>
   aB (aA (y69.1,y70.2.1,())) fun y120 =>
   some (y119.1,y120.1,0,())
  else aB (aA (false,y70.1,())) fun y121 =>
  aB (aA (y69.1,y70.2.1,())) fun y122 =>
  some (y121.1,y122.1,0,())
noncomputable def EU : Code:=aT Tryz.f103
abbrev NZ : Env:=bE [IA,JL,HB,A4,xG,xD,pD]
theorem TU : aZ Tryz.prog NZ:=aW ⟨JJ,PX,JE,vB,vM,wK,mO,trivial⟩
def K9 (id : Nat) : Option aS:=none
theorem QY : aF EU = []:=by kernel_rfl
theorem V5 : ∀ x,bI Tryz.prog NZ Tryz.f103 (aC Tryz.f103) K9 EU [.str,.str] [.str,.str,.int .i64] x = lK x:=by
 rintro ⟨v0,v1,⟨⟩⟩
 kernel_rfl
theorem ZA : bY Tryz.prog 103 [.str,.str] [.str,.str,.int .i64] lK:=by
 exact aY aK TU Tryz.func103 (c:=EU) (by kernel_rfl) (aU:=aC Tryz.f103) (lt:=K9) (aD QY trivial) V5
abbrev ED : Ent:=⟨103,[.str,.str],[.str,.str,.int .i64],lK⟩
theorem FX : Ent.OK Tryz.prog ED:=ZA
end Go.PM
set_option linter.unusedSimpArgs false
set_option linter.unusedVariables false
namespace Go.PM
open Go Go.RowKit
section
variable {P : Program} {n0 : Nat→Prop} {w w' : World} {G G' : Gd} {μ μ1 : Mp} {H H1 : Heap}
theorem aK3 (hW : aV n0 G μ H w) {r : Nat} (hr : H[r]? = some none) (k : Blk) (hf : k.frozen = false) (hg : k.grown = true)
  (hblk : ∀ b,μ.loc r = some b→(∃ c,w.heap[b]? = some (.cells c k.ty (0,0))∧aP w G μ b 0 k.cells)∧n0 b∧¬ G b∧(∀ s k1,H[s]? = some (some k1)→k1.frozen = false→μ.loc s ≠ some b)∧∀ j,G.row j ≠ some b)
  (htag : ∀ g,k.tag = some g→k.cells = aJ g.t g.l∧μ.len r = some g.l.length) : aV n0 G μ (H.set r (some k)) w:=by
 have hlt : r < H.length:=(List.getElem?_eq_some_iff.1 hr).1
 have key : ∀ s k1,(H.set r (some k))[s]? = some (some k1)→(s = r∧k1 = k) ∨ (s ≠ r∧H[s]? = some (some k1)):=by
  intro s k1 hs
  by_cases e : r = s
  ·subst e
   rw [List.getElem?_set_self hlt] at hs
   exact .inl ⟨rfl,(Option.some.inj (Option.some.inj hs)).symm⟩
  ·rw [List.getElem?_set_ne e] at hs
   exact .inr ⟨Ne.symm e,hs⟩
 refine ⟨?_,?_,?_,hW.lt,fun s hs=>hW.top s (by simpa using hs),hW.base,?_⟩
 ·intro s k1 b hs hb
  rcases key s k1 hs with ⟨rfl,rfl⟩ | ⟨_,hs⟩
  ·obtain ⟨⟨c,h1,h2⟩,h3,h4,_⟩:=hblk b hb
   exact ⟨c,h1,h2,fun h=>(by rw [hg] at h; cases h),fun h=>(by rw [hf] at h; cases h),fun _=>⟨h3,h4⟩⟩
  ·exact hW.blk s k1 b hs hb
 ·intro s k1 g hs h1
  rcases key s k1 hs with ⟨rfl,rfl⟩ | ⟨_,hs⟩
  ·exact htag g h1
  ·exact hW.tags s k1 g hs h1
 ·intro s1 s2 k1 k2 b h1 h2 f1 f2 m1 m2
  rcases key s1 k1 h1 with ⟨rfl,rfl⟩ | ⟨_,h3⟩
  ·rcases key s2 k2 h2 with ⟨rfl,rfl⟩ | ⟨_,h4⟩
   ·rfl
   ·exact absurd m2 ((hblk b m1).2.2.2.1 s2 k2 h4 f2)
  ·rcases key s2 k2 h2 with ⟨rfl,rfl⟩ | ⟨_,h4⟩
   ·exact absurd m1 ((hblk b m2).2.2.2.1 s1 k1 h3 f1)
   ·exact hW.inj s1 s2 k1 k2 b h3 h4 f1 f2 m1 m2
 ·refine ⟨hW.rows.inj,?_,hW.rows.cel,?_,?_⟩
  ·intro j b hj
   obtain ⟨a1,a2,a3,a4⟩:=hW.rows.sep j b hj
   refine ⟨a1,a2,a3,fun s k1 hs f1 m1=>?_⟩
   rcases key s k1 hs with ⟨rfl,rfl⟩ | ⟨_,hs⟩
   ·exact (hblk b m1).2.2.2.2 j hj
   ·exact a4 s k1 hs f1 m1
  ·intro s k1 t l hs h1 h2
   rcases key s k1 hs with ⟨rfl,rfl⟩ | ⟨_,hs⟩
   ·rw [hg] at h1; cases h1
   ·exact hW.rows.arn s k1 t l hs h1 h2
  ·intro s1 s2 k1 k2 t l t' l' h1 g1 t1 h2 g2 t2
   rcases key s1 k1 h1 with ⟨rfl,rfl⟩ | ⟨_,h1⟩
   ·rw [hg] at g1; cases g1
   ·rcases key s2 k2 h2 with ⟨rfl,rfl⟩ | ⟨_,h2⟩
    ·rw [hg] at g2; cases g2
    ·exact hW.rows.one s1 s2 k1 k2 t l t' l' h1 g1 t1 h2 g2 t2

def aXY (P : Program) (g : FuncId) (e : TypeId) (t : Ty) (args : List Kd) (f : List t.den→aI args→Option (List t.den)) : Prop :=
 ∀ l x l',f l x = some l'→∀ {n0 G μ H w us r},aV n0 G μ H w→H[r]? = some (some (owB e t l))→VRs w G μ (.own r t.size :: iP args x) us→dK.noRows (iP args x) = true→pL P n0 w G μ g us.toArray (.tuple []) (H.set r (some (owB e t l')))
def aPC {t : Ty} {args : List Kd} (f : Unit→aI (.hnd t.size :: args)→List (List t.den)→Option (aI []×List (List t.den))) (l : List t.den) (x : aI args) : Option (List t.den):=match f () ((0,0,l.length),x) [l] with
 | some ((),[l'])=>bif Nat.beq l'.length l.length then some l' else none
 | _=>none
theorem aSE {g : FuncId} {e : TypeId} {t : Ty} {args : List Kd} {f : Unit→aI (.hnd t.size :: args)→List (List t.den)→Option (aI []×List (List t.den))} (hf : aDD P g e t .none (.hnd t.size :: args) (.data []) f) (hd : D5 args = true) (hpl : t.plain = true) (he : e ≠ DK:=by decide) : aXY P g e t args (aPC f):=by
 intro l x l' hy n0 G μ H w us r hW hk hv hnr
 unfold aPC at hy
 split at hy
 ·rename_i l1 hfl
  obtain ⟨hlen,hy⟩:=aM hy
  obtain rfl:=Option.some.inj hy
  have hlen:=Nat.eq_of_beq_eq_true hlen
  have ht2:=(hW.tags r _ _ hk rfl).2
  have hlt : r < H.length:=(List.getElem?_eq_some_iff.1 hk).1
  obtain ⟨rb,hrb⟩ : ∃ rb : Option Nat,rb = if l = [] then none else μ.loc r:=⟨_,rfl⟩
  have hrbl : ∀ b,rb = some b→μ.loc r = some b∧l ≠ []:=fun b hb=>by
   rw [hrb] at hb
   split at hb
   ·cases hb
   ·rename_i hne; exact ⟨hb,hne⟩
  have hmine : ∀ b,μ.loc r = some b→n0 b∧¬ G b:=fun b hb=>by
   obtain ⟨_,_,_,_,_,h6⟩:=hW.blk r _ b hk hb
   exact h6 rfl
  have hrow : ∀ j b,G.row j = some b→μ.loc r ≠ some b:=fun j b hj=>(hW.rows.sep j b hj).2.2.2 r _ hk rfl
  obtain ⟨u,us',rfl,q1,q2⟩ : ∃ u us',us = u :: us'∧VR w G μ (.own r t.size) u∧VRs w G μ (iP args x) us':=by
   rw [VRs] at hv; exact hv
  have at0 : ∀ (s : Nat) (k1 : Blk),([some (arB e t [l])] : Heap)[s]? = some (some k1)→s = 0∧k1 = arB e t [l]:=by
   intro s k1 hs
   cases s with
   | zero=>simp only [List.getElem?_cons_zero,Option.some.injEq] at hs; exact ⟨rfl,hs.symm⟩
   | succ s=>simp at hs
  have hG0 : ∃ G0 : Gd,G0 = ⟨G.ok,fun j=>if j = 0 then rb else none⟩:=⟨_,rfl⟩
  obtain ⟨G0,hG0⟩:=hG0
  have hok : G0.ok = G.ok:=by rw [hG0]
  have hr0 : ∀ j b,G0.row j = some b→j = 0∧rb = some b:=fun j b hj=>by
   rw [hG0] at hj
   dsimp only at hj
   split at hj
   ·exact ⟨‹_›,hj⟩
   ·cases hj
  have hW1 : aV (fun b=>w.heap.size ≤ b ∨ rb = some b) G0 ⟨fun _=>none,fun s=>if s = 0 then some 1 else none⟩ [some (arB e t [l])] w:=by
   refine ⟨fun s k1 b hs hb=>(by cases hb),?_,fun s1 s2 k1 k2 b _ _ _ _ m=>(by cases m),by rw [hok]; exact hW.lt,?_,fun b hb=>.inl hb,?_⟩
   ·intro s k1 gg hs hg
    obtain ⟨rfl,rfl⟩:=at0 s k1 hs
    cases hg
    exact ⟨rfl,rfl⟩
   ·intro s hs
    have : s ≠ 0:=by rintro rfl; simp at hs
    exact ⟨rfl,by simp [this]⟩
   ·refine ⟨fun i j b h1 h2=>(hr0 i b h1).1.trans (hr0 j b h2).1.symm,fun j b hj=>?_,fun j b hj=>?_,fun s k1 t1 l1 hs h1 h2=>?_,fun s1 s2 k1 k2 t1 l1 t2 l2 h1 _ _ h2 _ _=>((at0 s1 k1 h1).1.trans (at0 s2 k2 h2).1.symm)⟩
    ·obtain ⟨_,h2⟩:=hr0 j b hj
     exact ⟨hW.iS hk (hrbl b h2).1,.inr h2,by rw [hok]; exact (hmine b (hrbl b h2).1).2,fun _ _ _ _ h=>by cases h⟩
    ·obtain ⟨_,h2⟩:=hr0 j b hj
     obtain ⟨c,h3,_⟩:=hW.blk r _ b hk (hrbl b h2).1
     exact .inl ⟨c,_,_,h3⟩
    ·obtain ⟨rfl,rfl⟩:=at0 s k1 hs
     cases h2
     refine ⟨rfl,fun j hj=>?_,fun j row hj=>?_⟩
     ·rw [hG0]
      have : j ≠ 0:=by rintro rfl; simp at hj
      simp [this]
     ·cases j with
      | zero =>
       simp only [List.getElem?_cons_zero,Option.some.injEq] at hj
       subst hj
       by_cases hl : l = []
       ·exact .inl ⟨hl,he⟩
       ·right
        rw [VR] at q1
        obtain ⟨n,z1,z2⟩:=q1
        rw [ht2] at z1
        obtain rfl:=Option.some.inj z1
        rcases z2 with ⟨z2,_⟩ | ⟨b,c,z2,_⟩
        ·exact absurd (List.eq_nil_of_length_eq_zero z2) hl
        ·obtain ⟨cc,a1,a2,_⟩:=hW.blk r _ b hk z2
         refine ⟨b,by rw [hG0,hrb]; simp [hl,z2],.inl ⟨he,cc,a1,?_⟩⟩
         exact mV (G:=G) (G':=G0) (fun b h=>by rw [hok]; exact h) _ _ _ _ (pE t hpl l) (kH (fL _ _) a2)
      | succ j=>simp at hj
  have hv1 : VRs w G0 ⟨fun _=>none,fun s=>if s = 0 then some 1 else none⟩ (Tk.none.pv 0 ++ iP (.hnd t.size :: args) ((0,0,l.length),x)) (u :: us'):=by
   change VRs w G0 _ (.row 0 0 l.length t.size :: iP args x) (u :: us')
   rw [VRs]
   refine ⟨u,us',rfl,?_,VRs.bD (lP (G:=G) (G':=G0) (fun b h=>by rw [hok]; exact h) _ _ _ hnr (cH _ _ (AK args x hd) q2))⟩
   rw [VR] at q1
   rw [VR]
   obtain ⟨n,z1,z2⟩:=q1
   rw [ht2] at z1
   obtain rfl:=Option.some.inj z1
   rcases z2 with ⟨z2,ao,rfl⟩ | ⟨b,c,z2,rfl,z3,z4⟩
   ·exact ⟨ao,0,by rw [show l.length = 0 from z2],by rw [show l.length = 0 from z2]; exact Nat.le_refl _,.inl z2⟩
   ·refine ⟨_,c,rfl,z3,?_⟩
    by_cases hl : l = []
    ·exact .inl (by rw [hl]; rfl)
    ·exact .inr ⟨b,by rw [hG0,hrb]; simp [hl,z2],by simp,by simpa using z4⟩
  obtain ⟨c1,c2⟩:=hf () ((0,0,l.length),x) [l] () [l1] hfl (ra:=0) (r:=0) hW1 rfl ⟨fun _ _ h=>by cases h⟩ hv1
  refine ⟨c1,c2.mono ?_⟩
  rintro e' w' ⟨v',G1,μ1,rfl,ee,hW',hvv⟩
  have hb1 : ∀ b,rb = some b→G1.row 0 = some b:=fun b hb=>ee.row 0 b (by rw [hG0]; simp [hb])
  have hH1 : (((DR (Tk.none.ow () 0) [some (arB e t [l])]).set 0 none) ++ (some (arB e t [l1]) :: (An.data []).hp ()) : Heap)[1]? = some (some (arB e t [l1])):=rfl
  have hn0 : ∀ b,b < w.heap.size→¬ n0 b→w'.heap[b]? = w.heap[b]?:=fun b hb hn=>ee.old b hb (by
   rintro (h | h)
   ·exact Nat.not_le.2 hb h
   ·exact hn (hmine b (hrbl b h).1).1)
  have hgg : ∀ b,G b→G0 b:=fun b hb=>by rw [hok]; exact hb
  have e2 : Ext n0 w G μ w' (G1.with G) μ:={
   cW:=fun b hb=>⟨(ee.cW b (hgg b hb)).1,(ee.cW b (hgg b hb)).2⟩
   map:=fun _ _ h=>h
   len:=fun _ _ h=>h
   room:=ee.room
   row:=fun _ _ h=>h
   os:=ee.os
   tape:=ee.tape
   output:=ee.output
   size:=ee.size
   old:=hn0
   new:=fun b hb=>by
    rcases ee.new b hb with h | h | h
    ·rw [hok] at h; exact .inl h
    ·exact .inr (hW.base b h)
    ·exact .inr (hmine b (hrbl b h).1).1 }
  have hold : ∀ b,b < w.heap.size→rb ≠ some b→w'.heap[b]? = w.heap[b]?∧(G1 b→G b):=fun b hb hne =>
   ⟨ee.old b hb (by rintro (h | h); exact Nat.not_le.2 hb h; exact hne h),fun hg=>by
    rcases ee.new b hg with h | h | h
    ·rw [hok] at h; exact h
    ·exact absurd hb (Nat.not_lt.2 h)
    ·exact absurd h hne⟩
  have hk2 : aV n0 (G1.with G) μ (H.set r none) w':=by
   refine (tO hW r).aU e2 ⟨fun _=>rfl,fun j b hj=>hold b (hW.rows.sep j b hj).1 fun h=>hrow j b hj (hrbl b h).1⟩ ?_ (fun b hb=>hW'.lt b hb)
   intro s k1 b hs hb
   obtain ⟨hs,hsr⟩:=k7 hs
   refine hold b (hW.iS hs hb) fun h=>?_
   have hrb:=(hrbl b h).1
   cases hf : k1.frozen with
   | false=>exact hsr (hW.inj s r k1 _ b hs hk hf rfl hb hrb)
   | true =>
    obtain ⟨_,_,_,_,h5,_⟩:=hW.blk s k1 b hs hb
    exact (hmine b hrb).2 (h5 hf)
  have hfin : aV n0 (G1.with G) μ (H.set r (some (owB e t l1))) w':=by
   have:=aK3 hk2 (r:=r) (List.getElem?_set_self hlt) (owB e t l1) rfl rfl ?_ ?_
   ·rwa [List.set_set] at this
   ·intro b hb
    have hcells : (∃ c,w'.heap[b]? = some (.cells c e (0,0))∧aP w' (G1.with G) μ b 0 (aJ t l1))∧¬ G1 b:=by
     by_cases hl : l = []
     ·have hl1 : l1 = []:=List.eq_nil_of_length_eq_zero (by rw [hlen,hl]; rfl)
      have hne : rb ≠ some b:=fun h=>(hrbl b h).2 hl
      obtain ⟨o1,o2⟩:=hold b (hW.iS hk hb) hne
      obtain ⟨c,h3,_⟩:=hW.blk r _ b hk hb
      refine ⟨⟨c,o1.trans h3,?_⟩,fun h=>(hmine b hb).2 (o2 h)⟩
      rw [hl1]; simp [aJ,aP]
     ·have hbb : rb = some b:=by rw [hrb,if_neg hl]; exact hb
      have hrow1:=hb1 b hbb
      obtain ⟨_,_,a3⟩:=hW'.rows.arn 1 _ t [l1] hH1 rfl rfl
      rcases a3 0 l1 rfl with h | ⟨b',z1,z2⟩
      ·exact absurd (List.eq_nil_of_length_eq_zero (by rw [← hlen,h.1]; rfl)) hl
      ·rw [hrow1] at z1
       obtain rfl:=Option.some.inj z1
       obtain ⟨c0,y1,_⟩:=hW.blk r _ b hk hb
       obtain ⟨c,z2,z3⟩:=z2.cells (.inr (e2.room b 0 ⟨c0,_,_,y1,Nat.zero_le _⟩))
       refine ⟨⟨c,z2,?_⟩,(hW'.rows.sep 0 b hrow1).2.2.1⟩
       exact mV (G:=G1) (G':=G1.with G) (fun b h=>h) _ _ _ _ (pE t hpl l1) (kH (fL _ _) z3)
    refine ⟨hcells.1,(hmine b hb).1,hcells.2,fun s k1 hs hf hsb=>?_,fun j hj=>hrow j b hj hb⟩
    obtain ⟨hs,hsr⟩:=k7 hs
    exact hsr (hW.inj s r k1 _ b hs hk hf rfl hsb hb)
   ·intro g hg
    cases hg
    exact ⟨rfl,by rw [ht2,hlen]⟩
  refine ⟨v',G1.with G,μ,rfl,e2,hfin,?_⟩
  have hvv : VR w' G1 μ1 (.tuple []) v':=hvv
  rw [VR] at hvv ⊢
  obtain ⟨vs,h1,h2⟩:=hvv
  rw [VRs] at h2
  exact ⟨vs,h1,by rw [VRs]; exact h2⟩
 ·cases hy
def a1R (e : TypeId) (t : Ty) (args : List Kd) (f : List t.den→aI args→Option (List t.den)) (qs : List PV) (H : Heap) : Option aM8:=match aMK e t H qs with
 | some (l,r,ps)=>match aGQ args ps with
  | some x=>bif c6.noRefs ps && dK.noRows (iP args x) then some ⟨List t.den,f l x,fun l'=>(.tuple [],H.set r (some (owB e t l')))⟩ else none
  | none=>none
 | none=>none
theorem a0S {g : FuncId} {e : TypeId} {t : Ty} {args : List Kd} {f : List t.den→aI args→Option (List t.den)} (hf : aXY P g e t args f) : FH P (g,a1R e t args f):=by
 intro qs H rh h y hy n0 G μ w vs hW hv
 change a1R e t args f qs H = some rh at h
 show pL P n0 w G μ g vs.toArray (rh.out y).1 (rh.out y).2
 unfold a1R at h
 split at h
 ·rename_i l r ps hl
  split at h
  ·rename_i x hx
   obtain ⟨hb,h⟩:=VN h
   simp only [Option.some.injEq] at h
   subst h
   simp only [Bool.and_eq_true] at hb
   obtain ⟨h0,rfl⟩:=XM hW hl
   rw [VRs] at hv
   obtain ⟨u,us,rfl,q1,q2⟩:=hv
   exact hf l x y hy hW h0 (by rw [VRs]; exact ⟨u,us,rfl,q1,(yN args hx (cH _ _ hb.1 q2)).bD⟩) hb.2
  ·cases h
 ·cases h
end
end Go.PM
set_option linter.unusedSimpArgs false
set_option linter.unusedVariables false
namespace Go.PM
open Go Go.RowKit Go.Proofs
set_option maxRecDepth 100000
set_option maxHeartbeats 4000000
/-! schisma/lattice.longOf -/
abbrev jG : List (Nat×Kd):=[(3,.own 144 .str),(9,.list TyE),(10,.int .i64),(11,.int .i64)]
abbrev k8 : List (Ex×List (Nat×Kd)):=[(.exit 0,[(3,.own 144 .str)])]
def jY (x : Shape.den jG) : Option (Shape.den jG ⊕ aR k8):=match x with
 | (v3,v9,v10,v11,()) =>
  bif ltI v11 v10 then
   bif aQ v11 v9.length then aB (gK ((v9.getD v11.toNat 0),())) fun y2 =>
   bif Nat.ble [y2.1].length 1048576 then bif Nat.ble v3.length 1048576 then some (.inl ((v3 ++ [y2.1]),v9,v10,(aE .i64 (v11 + 1)),())) else none else none else none
  else some (.inr ((v3,())))
def mE (x : Shape.den jG) : Option (aR k8):=bM jY (2 ^ 64) x
def kA (x : aI [.list TyE]) : Option (List ByteArray):=match x with
 | (v0,()) =>
  bif !(ltI (v0.length : Int) 0) then bif !(ltI 1048576 (v0.length : Int)) then aB (mE ((List.replicate 0 ByteArray.empty),v0,(v0.length : Int),0,())) fun z3 =>
  some z3.1 else none else none
noncomputable def rG : Code:=aT Tryz.f100
abbrev wM : Env:=bE [A4]
theorem zR : aZ Tryz.prog wM:=aW ⟨vB,trivial⟩
noncomputable def lT : Code:=dT rG 0
def u6 (id : Nat) : Option aS:=bif Nat.beq id 3 then some ⟨jG,k8,mE⟩ else none
theorem IY : ∀ x,dJ Tryz.prog wM 22 (aC Tryz.f100) u6 lT jG k8 x = jY x:=by
 rintro ⟨v3,v9,v10,v11,⟨⟩⟩
 kernel_rfl
theorem NB : aF lT = []:=by kernel_rfl
theorem GR : aG lT = 3:=by kernel_rfl
theorem J3 : cE Tryz.prog 22 lT ⟨jG,k8,mE⟩:=by
 exact cF zR.callee aK.mixed _ (aD NB trivial) IY
theorem J8 : aF rG = [lT]:=by kernel_rfl
theorem NM : ∀ x,aVJ Tryz.prog wM Tryz.f100 (aC Tryz.f100) u6 rG [.list TyE] 2 144 .str x = kA x:=by
 rintro ⟨v0,⟨⟩⟩
 kernel_rfl
theorem R5 : aYV Tryz.prog 100 [.list TyE] 144 .str kA:=by
 exact a2G aK zR Tryz.func100 (c:=rG) (by kernel_rfl) (aU:=aC Tryz.f100) (lt:=u6) (t:=2) (by kernel_rfl) (aD J8 ⟨cG GR rfl J3,trivial⟩) NM
abbrev wJ : Shr:=(100,bBH [.list TyE] 144 .str kA)
theorem zN : FH Tryz.prog wJ:=aZ0 R5

/-! (schisma/lattice.long).less -/
abbrev fY : List (Nat×Kd):=[(0,.hnd 1),(1,.str),(10,.hnd 1),(11,.int .i64),(12,.int .i64),(100000,.ar 144 .str)]
abbrev iF : List (Ex×List (Nat×Kd)):=[(.exit 0,[(100000,.ar 144 .str)])]
def gR (x : Shape.den fY) : Option (Shape.den fY ⊕ aR iF):=match x with
 | (v0,v1,v10,v11,v12,v100000,()) =>
  bif ltI v12 v11 then
   bif aQ v12 v10.2.2 then bif Nat.blt ((v10.2.1 + v12.toNat) * 1) (eU v100000 v10.1) then bif aQ v12 v0.2.2 then bif Nat.blt ((v0.2.1 + v12.toNat) * 1) (eU v100000 v0.1) then aB (tA (v1,(gI v100000 v10.1 ((v10.2.1 + v12.toNat) * 1) ByteArray.empty),())) fun y3 =>
   aB (tH ((gI v100000 v0.1 ((v0.2.1 + v12.toNat) * 1) ByteArray.empty),y3.1,())) fun y4 =>
   bif aQ v12 v0.2.2 then bif Nat.blt ((v0.2.1 + v12.toNat) * 1) (eU v100000 v0.1) then some (.inl ((v0.1,v0.2.1,v0.2.2),v1,(v10.1,v10.2.1,v10.2.2),v11,(aE .i64 (v12 + 1)),(wB v100000 v0.1 ((v0.2.1 + v12.toNat) * 1) y4.1),())) else none else none else none else none else none else none
  else some (.inr ((v100000,())))
def jU (x : Shape.den fY) : Option (aR iF):=bM gR (2 ^ 64) x
def eV (u0 : Unit) (x : aI [.hnd 1,.str,.hnd 1]) (A : List (List ByteArray)) : Option ((aI [])×List (List ByteArray)):=match x with
 | (v0,v1,v2,()) =>
  bif eqS v1 (ByteArray.mk #[48]) then
   some ((()),A)
  else aB (jU ((v0.1,v0.2.1,v0.2.2),v1,(v2.1,v2.2.1,v2.2.2),((v2.2.2 : Nat) : Int),0,A,())) fun z5 =>
  some ((()),z5.1)
noncomputable def nB : Code:=aT Tryz.f104
abbrev q9 : Env:=bE [QI,PC]
theorem tR : aZ Tryz.prog q9:=aW ⟨N4,N7,trivial⟩
noncomputable def jC : Code:=dT nB 0
def qA (id : Nat) : Option aS:=bif Nat.beq id 2 then some ⟨fY,iF,jU⟩ else none
theorem B4 : ∀ x,dJ Tryz.prog q9 29 (aC Tryz.f104) qA jC fY iF x = gR x:=by
 rintro ⟨v0,v1,v10,v11,v12,v100000,⟨⟩⟩
 kernel_rfl
theorem GJ : aF jC = []:=by kernel_rfl
theorem CN : aG jC = 2:=by kernel_rfl
theorem C8 : cE Tryz.prog 29 jC ⟨fY,iF,jU⟩:=by
 exact cF tR.callee aK.mixed _ (aD GJ trivial) B4
theorem EN : aF nB = [jC]:=by kernel_rfl
theorem FM : ∀ l x A,WK Tryz.prog q9 Tryz.f104 (aC Tryz.f104) qA nB 144 .str .none [.hnd 1,.str,.hnd 1] (.data []) l x A = eV l x A:=by
 rintro u0 ⟨v0,v1,v2,⟨⟩⟩ A
 kernel_rfl
theorem JT : aDD Tryz.prog 104 144 .str .none [.hnd 1,.str,.hnd 1] (.data []) eV:=by
 exact UA aK tR Tryz.func104 (c:=nB) (by kernel_rfl) (aU:=aC Tryz.f104) (lt:=qA) (by rfl) (aD EN ⟨cG CN rfl C8,trivial⟩) FM
abbrev yO : Shr:=(104,arH 144 .str .none [.hnd 1,.str,.hnd 1] (.data []) eV)
theorem FU : FH Tryz.prog yO:=US JT

/-! (schisma/lattice.long).less -/
abbrev fU : List (Nat×Kd):=[(0,.hnd 1),(1,.str),(10,.list .str),(11,.int .i64),(12,.int .i64),(100000,.ar 144 .str)]
abbrev iN : List (Ex×List (Nat×Kd)):=[(.exit 0,[(100000,.ar 144 .str)])]
def fB (x : Shape.den fU) : Option (Shape.den fU ⊕ aR iN):=match x with
 | (v0,v1,v10,v11,v12,v100000,()) =>
  bif ltI v12 v11 then
   bif aQ v12 v10.length then bif aQ v12 v0.2.2 then bif Nat.blt ((v0.2.1 + v12.toNat) * 1) (eU v100000 v0.1) then aB (tA (v1,(v10.getD v12.toNat ByteArray.empty),())) fun y3 =>
   aB (tH ((gI v100000 v0.1 ((v0.2.1 + v12.toNat) * 1) ByteArray.empty),y3.1,())) fun y4 =>
   bif aQ v12 v0.2.2 then bif Nat.blt ((v0.2.1 + v12.toNat) * 1) (eU v100000 v0.1) then some (.inl ((v0.1,v0.2.1,v0.2.2),v1,v10,v11,(aE .i64 (v12 + 1)),(wB v100000 v0.1 ((v0.2.1 + v12.toNat) * 1) y4.1),())) else none else none else none else none else none
  else some (.inr ((v100000,())))
def jT (x : Shape.den fU) : Option (aR iN):=bM fB (2 ^ 64) x
def eX (u0 : Unit) (x : aI [.hnd 1,.str,.list .str]) (A : List (List ByteArray)) : Option ((aI [])×List (List ByteArray)):=match x with
 | (v0,v1,v2,()) =>
  bif eqS v1 (ByteArray.mk #[48]) then
   some ((()),A)
  else aB (jT ((v0.1,v0.2.1,v0.2.2),v1,v2,(v2.length : Int),0,A,())) fun z5 =>
  some ((()),z5.1)
noncomputable def mU : Code:=aT Tryz.f104
abbrev qM : Env:=bE [QI,PC]
theorem uE : aZ Tryz.prog qM:=aW ⟨N4,N7,trivial⟩
noncomputable def iU : Code:=dT mU 0
def qB (id : Nat) : Option aS:=bif Nat.beq id 2 then some ⟨fU,iN,jT⟩ else none
theorem BZ : ∀ x,dJ Tryz.prog qM 29 (aC Tryz.f104) qB iU fU iN x = fB x:=by
 rintro ⟨v0,v1,v10,v11,v12,v100000,⟨⟩⟩
 kernel_rfl
theorem GN : aF iU = []:=by kernel_rfl
theorem BB : aG iU = 2:=by kernel_rfl
theorem C5 : cE Tryz.prog 29 iU ⟨fU,iN,jT⟩:=by
 exact cF uE.callee aK.mixed _ (aD GN trivial) BZ
theorem EP : aF mU = [iU]:=by kernel_rfl
theorem F8 : ∀ l x A,WK Tryz.prog qM Tryz.f104 (aC Tryz.f104) qB mU 144 .str .none [.hnd 1,.str,.list .str] (.data []) l x A = eX l x A:=by
 rintro u0 ⟨v0,v1,v2,⟨⟩⟩ A
 kernel_rfl
theorem JZ : aDD Tryz.prog 104 144 .str .none [.hnd 1,.str,.list .str] (.data []) eX:=by
 exact UA aK uE Tryz.func104 (c:=mU) (by kernel_rfl) (aU:=aC Tryz.f104) (lt:=qB) (by rfl) (aD EP ⟨cG BB rfl C5,trivial⟩) F8
theorem IZ : aXY Tryz.prog 104 144 .str [.str,.list .str] (aPC eX):=aSE JZ (by rfl) (by rfl)
abbrev vX : Shr:=(104,a1R 144 .str [.str,.list .str] (aPC eX))
theorem EH : FH Tryz.prog vX:=a0S IZ

/-! (schisma/lattice.long).negate -/
abbrev eZ : List (Nat×Kd):=[(0,.hnd 1),(4,.hnd 1),(5,.int .i64),(6,.int .i64),(100000,.ar 144 .str)]
abbrev gU : List (Ex×List (Nat×Kd)):=[(.exit 0,[(100000,.ar 144 .str)])]
def fS (x : Shape.den eZ) : Option (Shape.den eZ ⊕ aR gU):=match x with
 | (v0,v4,v5,v6,v100000,()) =>
  bif ltI v6 v5 then
   bif aQ v6 v4.2.2 then bif Nat.blt ((v4.2.1 + v6.toNat) * 1) (eU v100000 v4.1) then aB (tE ((gI v100000 v4.1 ((v4.2.1 + v6.toNat) * 1) ByteArray.empty),())) fun y2 =>
   bif aQ v6 v0.2.2 then bif Nat.blt ((v0.2.1 + v6.toNat) * 1) (eU v100000 v0.1) then some (.inl ((v0.1,v0.2.1,v0.2.2),(v4.1,v4.2.1,v4.2.2),v5,(aE .i64 (v6 + 1)),(wB v100000 v0.1 ((v0.2.1 + v6.toNat) * 1) y2.1),())) else none else none else none else none
  else some (.inr ((v100000,())))
def iO (x : Shape.den eZ) : Option (aR gU):=bM fS (2 ^ 64) x
def dU (u0 : Unit) (x : aI [.hnd 1]) (A : List (List ByteArray)) : Option ((aI [])×List (List ByteArray)):=match x with
 | (v0,()) =>
  aB (iO ((v0.1,v0.2.1,v0.2.2),(v0.1,v0.2.1,v0.2.2),((v0.2.2 : Nat) : Int),0,A,())) fun z3 =>
  some ((()),z3.1)
noncomputable def lC : Code:=aT Tryz.f106
abbrev o7 : Env:=bE [QH]
theorem rW : aZ Tryz.prog o7:=aW ⟨OB,trivial⟩
noncomputable def hX : Code:=dT lC 0
def oB (id : Nat) : Option aS:=bif Nat.beq id 1 then some ⟨eZ,gU,iO⟩ else none
theorem zH : ∀ x,dJ Tryz.prog o7 17 (aC Tryz.f106) oB hX eZ gU x = fS x:=by
 rintro ⟨v0,v4,v5,v6,v100000,⟨⟩⟩
 kernel_rfl
theorem DA : aF hX = []:=by kernel_rfl
theorem yT : aG hX = 1:=by kernel_rfl
theorem AJ : cE Tryz.prog 17 hX ⟨eZ,gU,iO⟩:=by
 exact cF rW.callee aK.mixed _ (aD DA trivial) zH
theorem CO : aF lC = [hX]:=by kernel_rfl
theorem C3 : ∀ l x A,WK Tryz.prog o7 Tryz.f106 (aC Tryz.f106) oB lC 144 .str .none [.hnd 1] (.data []) l x A = dU l x A:=by
 rintro u0 ⟨v0,⟨⟩⟩ A
 kernel_rfl
theorem GO : aDD Tryz.prog 106 144 .str .none [.hnd 1] (.data []) dU:=by
 exact UA aK rW Tryz.func106 (c:=lC) (by kernel_rfl) (aU:=aC Tryz.f106) (lt:=oB) (by rfl) (aD CO ⟨cG yT rfl AJ,trivial⟩) C3
abbrev vL : Shr:=(106,arH 144 .str .none [.hnd 1] (.data []) dU)
theorem C9 : FH Tryz.prog vL:=US GO

/-! (schisma/lattice.long).lead$1 -/
def iI (x : aI [.str]) : Option (aI [.bool]):=match x with
 | (v0,()) =>
  some (!(eqS v0 (ByteArray.mk #[48])),())
noncomputable def qZ : Code:=aT Tryz.f169
abbrev xH : Env:=bE []
theorem GP : aZ Tryz.prog xH:=aW trivial
def vU (id : Nat) : Option aS:=none
theorem E6 : aF qZ = []:=by kernel_rfl
theorem FC : ∀ x,bI Tryz.prog xH Tryz.f169 (aC Tryz.f169) vU qZ [.str] [.bool] x = iI x:=by
 rintro ⟨v0,⟨⟩⟩
 kernel_rfl
theorem JS : bY Tryz.prog 169 [.str] [.bool] iI:=by
 exact aY aK GP Tryz.func169 (c:=qZ) (by kernel_rfl) (aU:=aC Tryz.f169) (lt:=vU) (aD E6 trivial) FC
abbrev xP : Ent:=⟨169,[.str],[.bool],iI⟩
theorem F9 : Ent.OK Tryz.prog xP:=JS

/-! slices.IndexFunc[schisma/lattice.long,schisma/api.Int] -/
abbrev bK : List (Nat×Kd):=[(0,.list .str),(1,.fn 169),(7,.int .i64),(8,.int .i64)]
abbrev bR : List (Ex×List (Nat×Kd)):=[(.ret,[(4,.int .i64)]),(.exit 0,[])]
def bH (x : Shape.den bK) : Option (Shape.den bK ⊕ aR bR):=match x with
 | (v0,v1,v7,v8,()) =>
  bif ltI v8 v7 then
   bif aQ v8 v0.length then aB (iI ((v0.getD v8.toNat ByteArray.empty),())) fun y2 =>
   bif y2.1 then
    some (.inr (.inl (v8,())))
   else some (.inl (v0,(),v7,(aE .i64 (v8 + 1)),())) else none
  else some (.inr (.inr ((()))))
def cR (x : Shape.den bK) : Option (aR bR):=bM bH (2 ^ 64) x
def cI (x : aI [.list .str,.fn 169]) : Option (aI [.int .i64]):=match x with
 | (v0,v1,()) =>
  aB (cR (v0,(),(v0.length : Int),0,())) fun z3 =>
  gY z3 (fun a4=>some (a4.1,())) fun b5 =>
  some ((-1),())
noncomputable def dI : Code:=aT Tryz.f168
abbrev fT : Env:=bE [xP]
theorem iX : aZ Tryz.prog fT:=aW ⟨F9,trivial⟩
noncomputable def bT : Code:=dT dI 0
def fP (id : Nat) : Option aS:=bif Nat.beq id 2 then some ⟨bK,bR,cR⟩ else none
theorem nO : ∀ x,dJ Tryz.prog fT 19 (aC Tryz.f168) fP bT bK bR x = bH x:=by
 rintro ⟨v0,v1,v7,v8,⟨⟩⟩
 kernel_rfl
theorem o4 : aF bT = []:=by kernel_rfl
theorem nN : aG bT = 2:=by kernel_rfl
theorem nV : cE Tryz.prog 19 bT ⟨bK,bR,cR⟩:=by
 exact cF iX.callee aK.mixed _ (aD o4 trivial) nO
theorem oM : aF dI = [bT]:=by kernel_rfl
theorem pG : ∀ x,bI Tryz.prog fT Tryz.f168 (aC Tryz.f168) fP dI [.list .str,.fn 169] [.int .i64] x = cI x:=by
 rintro ⟨v0,v1,⟨⟩⟩
 kernel_rfl
theorem qE : bY Tryz.prog 168 [.list .str,.fn 169] [.int .i64] cI:=by
 exact aY aK iX Tryz.func168 (c:=dI) (by kernel_rfl) (aU:=aC Tryz.f168) (lt:=fP) (aD oM ⟨cG nN rfl nV,trivial⟩) pG
abbrev kF : Ent:=⟨168,[.list .str,.fn 169],[.int .i64],cI⟩
theorem o5 : Ent.OK Tryz.prog kF:=qE

/-! (schisma/lattice.long).lead -/
def iE (x : aI [.list .str]) : Option (aI [.int .i64]):=match x with
 | (v0,()) =>
  aB (cI (v0,(),())) fun y1 =>
  some (y1.1,())
noncomputable def sZ : Code:=aT Tryz.f142
abbrev B6 : Env:=bE [kF]
theorem JX : aZ Tryz.prog B6:=aW ⟨o5,trivial⟩
def zP (id : Nat) : Option aS:=none
theorem IV : aF sZ = []:=by kernel_rfl
theorem JW : ∀ x,bI Tryz.prog B6 Tryz.f142 (aC Tryz.f142) zP sZ [.list .str] [.int .i64] x = iE x:=by
 rintro ⟨v0,⟨⟩⟩
 kernel_rfl
theorem M9 : bY Tryz.prog 142 [.list .str] [.int .i64] iE:=by
 exact aY aK JX Tryz.func142 (c:=sZ) (by kernel_rfl) (aU:=aC Tryz.f142) (lt:=zP) (aD IV trivial) JW
abbrev CJ : Ent:=⟨142,[.list .str],[.int .i64],iE⟩
theorem JY : Ent.OK Tryz.prog CJ:=M9

/-! (schisma/lattice.long).short -/
abbrev gJ : List (Nat×Kd):=[(4,.own 3 TyE),(12,.list .str),(13,.int .i64),(14,.int .i64)]
abbrev jE : List (Ex×List (Nat×Kd)):=[(.ret,[(2,.list TyE),(3,.int .i64)]),(.exit 0,[(4,.own 3 TyE)])]
def fM (x : Shape.den gJ) : Option (Shape.den gJ ⊕ aR jE):=match x with
 | (v4,v12,v13,v14,()) =>
  bif ltI v14 v13 then
   bif aQ v14 v12.length then aB (o6 ((v12.getD v14.toNat ByteArray.empty),())) fun y2 =>
   bif y2.2.1 then
    bif ltI 1000000000 y2.1 then
     some (.inr (.inl ([],4,())))
    else bif ltI y2.1 (-1000000000) then
     some (.inr (.inl ([],4,())))
    else bif Nat.ble [y2.1].length 1048576 then bif Nat.ble v4.length 1048576 then some (.inl ((v4 ++ [y2.1]),v12,v13,(aE .i64 (v14 + 1)),())) else none else none
   else some (.inr (.inl ([],4,()))) else none
  else some (.inr (.inr ((v4,()))))
def kG (x : Shape.den gJ) : Option (aR jE):=bM fM (2 ^ 64) x
def jK (x : aI [.list .str]) : Option (aI [.list TyE,.int .i64]):=match x with
 | (v0,()) =>
  bif !(ltI (v0.length : Int) 0) then bif !(ltI 1048576 (v0.length : Int)) then aB (kG ((List.replicate 0 0),v0,(v0.length : Int),0,())) fun z3 =>
  gY z3 (fun a4=>some (a4.1,a4.2.1,())) fun b5 =>
  some (b5.1,0,()) else none else none
noncomputable def nP : Code:=aT Tryz.f82
abbrev sE : Env:=bE [HD]
theorem vK : aZ Tryz.prog sE:=aW ⟨JB,trivial⟩
noncomputable def jX : Code:=dT nP 0
def qV (id : Nat) : Option aS:=bif Nat.beq id 3 then some ⟨gJ,jE,kG⟩ else none
theorem C4 : ∀ x,dJ Tryz.prog sE 39 (aC Tryz.f82) qV jX gJ jE x = fM x:=by
 rintro ⟨v4,v12,v13,v14,⟨⟩⟩
 kernel_rfl
theorem H8 : aF jX = []:=by kernel_rfl
theorem DC : aG jX = 3:=by kernel_rfl
theorem ES : cE Tryz.prog 39 jX ⟨gJ,jE,kG⟩:=by
 exact cF vK.callee aK.mixed _ (aD H8 trivial) C4
theorem FT : aF nP = [jX]:=by kernel_rfl
theorem IS : ∀ x,bI Tryz.prog sE Tryz.f82 (aC Tryz.f82) qV nP [.list .str] [.list TyE,.int .i64] x = jK x:=by
 rintro ⟨v0,⟨⟩⟩
 kernel_rfl
theorem MI : bY Tryz.prog 82 [.list .str] [.list TyE,.int .i64] jK:=by
 exact aY aK vK Tryz.func82 (c:=nP) (by kernel_rfl) (aU:=aC Tryz.f82) (lt:=qV) (aD FT ⟨cG DC rfl ES,trivial⟩) IS
abbrev zK : Ent:=⟨82,[.list .str],[.list TyE,.int .i64],jK⟩
theorem G8 : Ent.OK Tryz.prog zK:=MI

/-! (schisma/lattice.long).short -/
abbrev fN : List (Nat×Kd):=[(4,.own 3 TyE),(12,.hnd 1),(13,.int .i64),(14,.int .i64),(100000,.ar 144 .str)]
abbrev gZ : List (Ex×List (Nat×Kd)):=[(.ret,[(2,.list TyE),(3,.int .i64),(100000,.ar 144 .str)]),(.exit 0,[(4,.own 3 TyE),(100000,.ar 144 .str)])]
def eL (x : Shape.den fN) : Option (Shape.den fN ⊕ aR gZ):=match x with
 | (v4,v12,v13,v14,v100000,()) =>
  bif ltI v14 v13 then
   bif aQ v14 v12.2.2 then bif Nat.blt ((v12.2.1 + v14.toNat) * 1) (eU v100000 v12.1) then aB (o6 ((gI v100000 v12.1 ((v12.2.1 + v14.toNat) * 1) ByteArray.empty),())) fun y2 =>
   bif y2.2.1 then
    bif ltI 1000000000 y2.1 then
     some (.inr (.inl ([],4,v100000,())))
    else bif ltI y2.1 (-1000000000) then
     some (.inr (.inl ([],4,v100000,())))
    else bif Nat.ble [y2.1].length 1048576 then bif Nat.ble v4.length 1048576 then some (.inl ((v4 ++ [y2.1]),(v12.1,v12.2.1,v12.2.2),v13,(aE .i64 (v14 + 1)),v100000,())) else none else none
   else some (.inr (.inl ([],4,v100000,()))) else none else none
  else some (.inr (.inr ((v4,v100000,()))))
def jD (x : Shape.den fN) : Option (aR gZ):=bM eL (2 ^ 64) x
def gX (u0 : Unit) (x : aI [.hnd 1]) (A : List (List ByteArray)) : Option ((aI [.list TyE,.int .i64])×List (List ByteArray)):=match x with
 | (v0,()) =>
  bif !(ltI ((v0.2.2 : Nat) : Int) 0) then bif !(ltI 1048576 ((v0.2.2 : Nat) : Int)) then aB (jD ((List.replicate 0 0),(v0.1,v0.2.1,v0.2.2),((v0.2.2 : Nat) : Int),0,A,())) fun z3 =>
  gY z3 (fun a4=>some ((a4.1,a4.2.1,()),a4.2.2.1)) fun b5 =>
  some ((b5.1,0,()),b5.2.1) else none else none
noncomputable def mC : Code:=aT Tryz.f82
abbrev p8 : Env:=bE [HD]
theorem sS : aZ Tryz.prog p8:=aW ⟨JB,trivial⟩
noncomputable def iJ : Code:=dT mC 0
def o0 (id : Nat) : Option aS:=bif Nat.beq id 3 then some ⟨fN,gZ,jD⟩ else none
theorem zV : ∀ x,dJ Tryz.prog p8 39 (aC Tryz.f82) o0 iJ fN gZ x = eL x:=by
 rintro ⟨v4,v12,v13,v14,v100000,⟨⟩⟩
 kernel_rfl
theorem E8 : aF iJ = []:=by kernel_rfl
theorem AE : aG iJ = 3:=by kernel_rfl
theorem BO : cE Tryz.prog 39 iJ ⟨fN,gZ,jD⟩:=by
 exact cF sS.callee aK.mixed _ (aD E8 trivial) zV
theorem C7 : aF mC = [iJ]:=by kernel_rfl
theorem EG : ∀ l x A,WK Tryz.prog p8 Tryz.f82 (aC Tryz.f82) o0 mC 144 .str .none [.hnd 1] (.data [.list TyE,.int .i64]) l x A = gX l x A:=by
 rintro u0 ⟨v0,⟨⟩⟩ A
 kernel_rfl
theorem IH : aDD Tryz.prog 82 144 .str .none [.hnd 1] (.data [.list TyE,.int .i64]) gX:=by
 exact UA aK sS Tryz.func82 (c:=mC) (by kernel_rfl) (aU:=aC Tryz.f82) (lt:=o0) (by rfl) (aD C7 ⟨cG AE rfl BO,trivial⟩) EG
abbrev vV : Shr:=(82,arH 144 .str .none [.hnd 1] (.data [.list TyE,.int .i64]) gX)
theorem EB : FH Tryz.prog vV:=US IH

/-! schisma/lattice.longsOf -/
abbrev gO : List (Nat×Kd):=[(3,.own 137 (.hnd 1)),(6,.list TyD),(7,.int .i64),(8,.int .i64),(100000,.ar 144 .str)]
abbrev iZ : List (Ex×List (Nat×Kd)):=[(.exit 0,[(3,.own 137 (.hnd 1)),(100000,.ar 144 .str)])]
def fK (x : Shape.den gO) : Option (Shape.den gO ⊕ aR iZ):=match x with
 | (v3,v6,v7,v8,v100000,()) =>
  bif ltI v8 v7 then
   bif aQ v8 v6.length then aB (kA ((v6.getD v8.toNat []),())) fun y2 =>
   bif Nat.ble [(v100000.length,0,y2.length)].length 1048576 then bif Nat.ble v3.length 1048576 then some (.inl ((v3 ++ [(v100000.length,0,y2.length)]),v6,v7,(aE .i64 (v8 + 1)),(v100000 ++ [y2]),())) else none else none else none
  else some (.inr ((v3,v100000,())))
def kN (x : Shape.den gO) : Option (aR iZ):=bM fK (2 ^ 64) x
def jI (u0 : Unit) (x : aI [.list TyD]) (A : List (List ByteArray)) : Option ((List (Nat×Nat×Nat))×List (List ByteArray)):=match x with
 | (v0,()) =>
  aB (kN ([],v0,(v0.length : Int),0,A,())) fun z3 =>
  some (z3.1,z3.2.1)
noncomputable def nQ : Code:=aT Tryz.f77
abbrev sG : Env:=aIL [] [wJ]
theorem uT : aZ Tryz.prog sG:=DX trivial ⟨zN,trivial⟩
noncomputable def jW : Code:=dT nQ 0
def qP (id : Nat) : Option aS:=bif Nat.beq id 3 then some ⟨gO,iZ,kN⟩ else none
theorem C6 : ∀ x,dJ Tryz.prog sG 19 (aC Tryz.f77) qP jW gO iZ x = fK x:=by
 rintro ⟨v3,v6,v7,v8,v100000,⟨⟩⟩
 kernel_rfl
theorem H9 : aF jW = []:=by kernel_rfl
theorem DD : aG jW = 3:=by kernel_rfl
theorem EY : cE Tryz.prog 19 jW ⟨gO,iZ,kN⟩:=by
 exact cF uT.callee aK.mixed _ (aD H9 trivial) C6
theorem FQ : aF nQ = [jW]:=by kernel_rfl
theorem G6 : ∀ l x A,WK Tryz.prog sG Tryz.f77 (aC Tryz.f77) qP nQ 144 .str .none [.list TyD] (.own 137 (.hnd 1)) l x A = jI l x A:=by
 rintro u0 ⟨v0,⟨⟩⟩ A
 kernel_rfl
theorem KU : aDD Tryz.prog 77 144 .str .none [.list TyD] (.own 137 (.hnd 1)) jI:=by
 exact UA aK uT Tryz.func77 (c:=nQ) (by kernel_rfl) (aU:=aC Tryz.f77) (lt:=qP) (by rfl) (aD FQ ⟨cG DD rfl EY,trivial⟩) G6
abbrev zM : Shr:=(77,arH 144 .str .none [.list TyD] (.own 137 (.hnd 1)) jI)
theorem GY : FH Tryz.prog zM:=US KU

/-! (schisma/lattice.longs).form -/
abbrev eN : List (Nat×Kd):=[(0,.own 137 (.hnd 1)),(1,.int .i64),(5,.int .i64),(6,.int .i64),(7,.int .i64),(8,.int .i64),(100000,.ar 144 .str)]
abbrev gC : List (Ex×List (Nat×Kd)):=[(.exit 4,[(0,.own 137 (.hnd 1)),(1,.int .i64),(5,.int .i64),(6,.int .i64),(7,.int .i64),(100000,.ar 144 .str)])]
def bV (x : Shape.den eN) : Option (Shape.den eN ⊕ aR gC):=match x with
 | (v0,v1,v5,v6,v7,v8,v100000,()) =>
  bif ltI v8 (v0.length : Int) then
   bif aQ v8 v0.length then bif Nat.blt v8.toNat v0.length then bif aQ v6 ((v0.getD v8.toNat (0,0,0)).2.2) then bif Nat.blt (((v0.getD v8.toNat (0,0,0)).2.1 + v6.toNat) * 1) (eU v100000 ((v0.getD v8.toNat (0,0,0)).1)) then bif !(eqS (gI v100000 ((v0.getD v8.toNat (0,0,0)).1) (((v0.getD v8.toNat (0,0,0)).2.1 + v6.toNat) * 1) ByteArray.empty) (ByteArray.mk #[48])) then
    bif ltI v7 0 then
     some (.inl (v0,v1,v5,v6,v8,(aE .i64 (v8 + 1)),v100000,()))
    else bif aQ v8 v0.length then bif Nat.blt v8.toNat v0.length then bif aQ v6 ((v0.getD v8.toNat (0,0,0)).2.2) then bif Nat.blt (((v0.getD v8.toNat (0,0,0)).2.1 + v6.toNat) * 1) (eU v100000 ((v0.getD v8.toNat (0,0,0)).1)) then aB (s8 ((gI v100000 ((v0.getD v8.toNat (0,0,0)).1) (((v0.getD v8.toNat (0,0,0)).2.1 + v6.toNat) * 1) ByteArray.empty),())) fun y4 =>
    bif aQ v7 v0.length then bif Nat.blt v7.toNat v0.length then bif aQ v6 ((v0.getD v7.toNat (0,0,0)).2.2) then bif Nat.blt (((v0.getD v7.toNat (0,0,0)).2.1 + v6.toNat) * 1) (eU v100000 ((v0.getD v7.toNat (0,0,0)).1)) then aB (s8 ((gI v100000 ((v0.getD v7.toNat (0,0,0)).1) (((v0.getD v7.toNat (0,0,0)).2.1 + v6.toNat) * 1) ByteArray.empty),())) fun y5 =>
    aB (nW (y4.1,y5.1,())) fun y6 =>
    bif ltI y6.1 0 then
     some (.inl (v0,v1,v5,v6,v8,(aE .i64 (v8 + 1)),v100000,()))
    else some (.inl (v0,v1,v5,v6,v7,(aE .i64 (v8 + 1)),v100000,())) else none else none else none else none else none else none else none else none
   else some (.inl (v0,v1,v5,v6,v7,(aE .i64 (v8 + 1)),v100000,())) else none else none else none else none
  else some (.inr ((v0,v1,v5,v6,v7,v100000,())))
def fI (x : Shape.den eN) : Option (aR gC):=bM bV (2 ^ 64) x
abbrev eO : List (Nat×Kd):=[(0,.own 137 (.hnd 1)),(1,.int .i64),(5,.int .i64),(6,.int .i64),(9,.bool),(10,.int .i64),(100000,.ar 144 .str)]
abbrev gG : List (Ex×List (Nat×Kd)):=[(.exit 6,[(0,.own 137 (.hnd 1)),(1,.int .i64),(5,.int .i64),(6,.int .i64),(9,.bool),(100000,.ar 144 .str)])]
def cS (x : Shape.den eO) : Option (Shape.den eO ⊕ aR gG):=match x with
 | (v0,v1,v5,v6,v9,v10,v100000,()) =>
  bif ltI v10 (v0.length : Int) then
   bif aQ v10 v0.length then bif Nat.blt v10.toNat v0.length then bif aQ v6 ((v0.getD v10.toNat (0,0,0)).2.2) then bif Nat.blt (((v0.getD v10.toNat (0,0,0)).2.1 + v6.toNat) * 1) (eU v100000 ((v0.getD v10.toNat (0,0,0)).1)) then bif aQ v5 v0.length then bif Nat.blt v5.toNat v0.length then bif aQ v6 ((v0.getD v5.toNat (0,0,0)).2.2) then bif Nat.blt (((v0.getD v5.toNat (0,0,0)).2.1 + v6.toNat) * 1) (eU v100000 ((v0.getD v5.toNat (0,0,0)).1)) then aB (lK ((gI v100000 ((v0.getD v10.toNat (0,0,0)).1) (((v0.getD v10.toNat (0,0,0)).2.1 + v6.toNat) * 1) ByteArray.empty),(gI v100000 ((v0.getD v5.toNat (0,0,0)).1) (((v0.getD v5.toNat (0,0,0)).2.1 + v6.toNat) * 1) ByteArray.empty),())) fun y10 =>
   bif aQ v10 v0.length then bif Nat.blt v10.toNat v0.length then bif aQ v5 v0.length then bif Nat.blt v5.toNat v0.length then aB (eV () (((v0.getD v10.toNat (0,0,0)).1,(v0.getD v10.toNat (0,0,0)).2.1,(v0.getD v10.toNat (0,0,0)).2.2),y10.1,((v0.getD v5.toNat (0,0,0)).1,(v0.getD v5.toNat (0,0,0)).2.1,(v0.getD v5.toNat (0,0,0)).2.2),()) v100000) fun y11 =>
   bif v9 then
    some (.inl (v0,v1,v5,v6,true,(aE .i64 (v10 + 1)),y11.2,()))
   else some (.inl (v0,v1,v5,v6,!(eqS y10.2.1 (ByteArray.mk #[48])),(aE .i64 (v10 + 1)),y11.2,())) else none else none else none else none else none else none else none else none else none else none else none else none
  else some (.inr ((v0,v1,v5,v6,v9,v100000,())))
def iA (x : Shape.den eO) : Option (aR gG):=bM cS (2 ^ 64) x
abbrev eD : List (Nat×Kd):=[(0,.own 137 (.hnd 1)),(1,.int .i64),(5,.int .i64),(6,.int .i64),(142,.int .i64),(143,.int .i64),(100000,.ar 144 .str)]
abbrev gB : List (Ex×List (Nat×Kd)):=[(.exit 8,[(0,.own 137 (.hnd 1)),(1,.int .i64),(5,.int .i64),(6,.int .i64),(100000,.ar 144 .str)])]
def fD (x : Shape.den eD) : Option (Shape.den eD ⊕ aR gB):=match x with
 | (v0,v1,v5,v6,v142,v143,v100000,()) =>
  bif ltI v143 v142 then
   bif aQ v143 v0.length then bif Nat.blt v143.toNat v0.length then bif aQ v6 ((v0.getD v143.toNat (0,0,0)).2.2) then bif Nat.blt (((v0.getD v143.toNat (0,0,0)).2.1 + v6.toNat) * 1) (eU v100000 ((v0.getD v143.toNat (0,0,0)).1)) then bif aQ v5 v0.length then bif Nat.blt v5.toNat v0.length then bif aQ v6 ((v0.getD v5.toNat (0,0,0)).2.2) then bif Nat.blt (((v0.getD v5.toNat (0,0,0)).2.1 + v6.toNat) * 1) (eU v100000 ((v0.getD v5.toNat (0,0,0)).1)) then aB (lK ((gI v100000 ((v0.getD v143.toNat (0,0,0)).1) (((v0.getD v143.toNat (0,0,0)).2.1 + v6.toNat) * 1) ByteArray.empty),(gI v100000 ((v0.getD v5.toNat (0,0,0)).1) (((v0.getD v5.toNat (0,0,0)).2.1 + v6.toNat) * 1) ByteArray.empty),())) fun y17 =>
   bif aQ v143 v0.length then bif Nat.blt v143.toNat v0.length then bif aQ v5 v0.length then bif Nat.blt v5.toNat v0.length then aB (eV () (((v0.getD v143.toNat (0,0,0)).1,(v0.getD v143.toNat (0,0,0)).2.1,(v0.getD v143.toNat (0,0,0)).2.2),y17.1,((v0.getD v5.toNat (0,0,0)).1,(v0.getD v5.toNat (0,0,0)).2.1,(v0.getD v5.toNat (0,0,0)).2.2),()) v100000) fun y18 =>
   some (.inl (v0,v1,v5,v6,v142,(aE .i64 (v143 + 1)),y18.2,())) else none else none else none else none else none else none else none else none else none else none else none else none
  else some (.inr ((v0,v1,v5,v6,v100000,())))
def bW (x : Shape.den eD) : Option (aR gB):=bM fD (2 ^ 64) x
abbrev eJ : List (Nat×Kd):=[(0,.own 137 (.hnd 1)),(1,.int .i64),(5,.int .i64),(6,.int .i64),(100000,.ar 144 .str)]
abbrev gF : List (Ex×List (Nat×Kd)):=[(.exit 2,[(0,.own 137 (.hnd 1)),(1,.int .i64),(5,.int .i64),(6,.int .i64),(100000,.ar 144 .str)])]
def bU (x : Shape.den eJ) : Option (Shape.den eJ ⊕ aR gF):=match x with
 | (v0,v1,v5,v6,v100000,()) =>
  aB (fI (v0,v1,v5,v6,(-1),v5,v100000,())) fun z21 =>
  bif ltI z21.2.2.2.2.1 0 then
   some (.inr ((z21.1,z21.2.1,z21.2.2.1,z21.2.2.2.1,z21.2.2.2.2.2.1,())))
  else bif aQ z21.2.2.2.2.1 z21.1.length then bif Nat.blt z21.2.2.2.2.1.toNat z21.1.length then bif aQ z21.2.2.1 z21.1.length then bif Nat.blt z21.2.2.1.toNat z21.1.length then bif aQ z21.2.2.1 z21.1.length then bif Nat.blt z21.2.2.1.toNat z21.1.length then bif aQ z21.2.2.2.2.1 (z21.1.set z21.2.2.1.toNat ((z21.1.getD z21.2.2.2.2.1.toNat (0,0,0)).1,(z21.1.getD z21.2.2.2.2.1.toNat (0,0,0)).2.1,(z21.1.getD z21.2.2.2.2.1.toNat (0,0,0)).2.2)).length then bif Nat.blt z21.2.2.2.2.1.toNat (z21.1.set z21.2.2.1.toNat ((z21.1.getD z21.2.2.2.2.1.toNat (0,0,0)).1,(z21.1.getD z21.2.2.2.2.1.toNat (0,0,0)).2.1,(z21.1.getD z21.2.2.2.2.1.toNat (0,0,0)).2.2)).length then aB (iA (((z21.1.set z21.2.2.1.toNat ((z21.1.getD z21.2.2.2.2.1.toNat (0,0,0)).1,(z21.1.getD z21.2.2.2.2.1.toNat (0,0,0)).2.1,(z21.1.getD z21.2.2.2.2.1.toNat (0,0,0)).2.2)).set z21.2.2.2.2.1.toNat ((z21.1.getD z21.2.2.1.toNat (0,0,0)).1,(z21.1.getD z21.2.2.1.toNat (0,0,0)).2.1,(z21.1.getD z21.2.2.1.toNat (0,0,0)).2.2)),z21.2.1,z21.2.2.1,z21.2.2.2.1,false,(aE .i64 (z21.2.2.1 + 1)),z21.2.2.2.2.2.1,())) fun z22 =>
  bif z22.2.2.2.2.1 then
   some (.inl (z22.1,z22.2.1,z22.2.2.1,z22.2.2.2.1,z22.2.2.2.2.2.1,()))
  else bif aQ z22.2.2.1 z22.1.length then bif Nat.blt z22.2.2.1.toNat z22.1.length then bif aQ z22.2.2.2.1 ((z22.1.getD z22.2.2.1.toNat (0,0,0)).2.2) then bif Nat.blt (((z22.1.getD z22.2.2.1.toNat (0,0,0)).2.1 + z22.2.2.2.1.toNat) * 1) (eU z22.2.2.2.2.2.1 ((z22.1.getD z22.2.2.1.toNat (0,0,0)).1)) then aB (mW ((gI z22.2.2.2.2.2.1 ((z22.1.getD z22.2.2.1.toNat (0,0,0)).1) (((z22.1.getD z22.2.2.1.toNat (0,0,0)).2.1 + z22.2.2.2.1.toNat) * 1) ByteArray.empty),())) fun y23 =>
  bif ltI y23.1 0 then
   bif aQ z22.2.2.1 z22.1.length then bif Nat.blt z22.2.2.1.toNat z22.1.length then aB (dU () (((z22.1.getD z22.2.2.1.toNat (0,0,0)).1,(z22.1.getD z22.2.2.1.toNat (0,0,0)).2.1,(z22.1.getD z22.2.2.1.toNat (0,0,0)).2.2),()) z22.2.2.2.2.2.1) fun y24 =>
   aB (bW (z22.1,z22.2.1,z22.2.2.1,z22.2.2.2.1,z22.2.2.1,0,y24.2,())) fun z25 =>
   some (.inr ((z25.1,z25.2.1,(aE .i64 (z25.2.2.1 + 1)),z25.2.2.2.1,z25.2.2.2.2.1,()))) else none else none
  else aB (bW (z22.1,z22.2.1,z22.2.2.1,z22.2.2.2.1,z22.2.2.1,0,z22.2.2.2.2.2.1,())) fun z26 =>
  some (.inr ((z26.1,z26.2.1,(aE .i64 (z26.2.2.1 + 1)),z26.2.2.2.1,z26.2.2.2.2.1,()))) else none else none else none else none else none else none else none else none else none else none else none else none
def fE (x : Shape.den eJ) : Option (aR gF):=bM bU (2 ^ 64) x
abbrev eC : List (Nat×Kd):=[(0,.own 137 (.hnd 1)),(1,.int .i64),(5,.int .i64),(6,.int .i64),(100000,.ar 144 .str)]
abbrev gD : List (Ex×List (Nat×Kd)):=[(.exit 0,[(0,.own 137 (.hnd 1)),(5,.int .i64),(100000,.ar 144 .str)])]
def cT (x : Shape.den eC) : Option (Shape.den eC ⊕ aR gD):=match x with
 | (v0,v1,v5,v6,v100000,()) =>
  bif ltI v6 v1 then
   bif ltI v5 (v0.length : Int) then
    aB (fE (v0,v1,v5,v6,v100000,())) fun z28 =>
    some (.inl (z28.1,z28.2.1,z28.2.2.1,(aE .i64 (z28.2.2.2.1 + 1)),z28.2.2.2.2.1,()))
   else some (.inr ((v0,v5,v100000,())))
  else some (.inr ((v0,v5,v100000,())))
def iC (x : Shape.den eC) : Option (aR gD):=bM cT (2 ^ 64) x
def fW (v0 : List (Nat×Nat×Nat)) (x : aI [.int .i64]) (A : List (List ByteArray)) : Option ((List (Nat×Nat×Nat))×List (List ByteArray)):=match x with
 | (v1,()) =>
  aB (iC (v0,v1,0,0,A,())) fun z29 =>
  bif Nat.beq z29.1.length 0 then
   bif !(ltI z29.2.1 0) then bif Nat.beq z29.2.1.toNat 0 then some (z29.1,z29.2.2.1) else none else none
  else bif !(ltI z29.2.1 0) then bif Nat.ble 0 z29.2.1.toNat then bif Nat.ble z29.2.1.toNat z29.1.length then bif Nat.blt 0 z29.1.length then some (z29.1.take (z29.2.1.toNat - 0),z29.2.2.1) else none else none else none else none
noncomputable def kX : Code:=aT Tryz.f78
abbrev eE : Env:=aIL [aBJ,L4,ED,L9] [yO,vL]
theorem eH : aZ Tryz.prog eE:=DX ⟨aES,QP,FX,KH,trivial⟩ ⟨FU,C9,trivial⟩
noncomputable def fA : Code:=dT kX 0
noncomputable def cU : Code:=dT fA 0
noncomputable def gV : Code:=dT cU 0
noncomputable def gT : Code:=dT cU 1
noncomputable def gS : Code:=dT cU 2
def dX (id : Nat) : Option aS:=bif Nat.beq id 7 then some ⟨eN,gC,fI⟩ else bif Nat.beq id 15 then some ⟨eO,gG,iA⟩ else bif Nat.beq id 24 then some ⟨eD,gB,bW⟩ else bif Nat.beq id 5 then some ⟨eJ,gF,fE⟩ else bif Nat.beq id 3 then some ⟨eC,gD,iC⟩ else none
theorem xX : ∀ x,dJ Tryz.prog eE 181 (aC Tryz.f78) dX gV eN gC x = bV x:=by
 rintro ⟨v0,v1,v5,v6,v7,v8,v100000,⟨⟩⟩
 kernel_rfl
theorem BK : aF gV = []:=by kernel_rfl
theorem yF : aG gV = 7:=by kernel_rfl
theorem zG : cE Tryz.prog 181 gV ⟨eN,gC,fI⟩:=by
 exact cF eH.callee aK.mixed _ (aD BK trivial) xX
theorem yD : ∀ x,dJ Tryz.prog eE 181 (aC Tryz.f78) dX gT eO gG x = cS x:=by
 rintro ⟨v0,v1,v5,v6,v9,v10,v100000,⟨⟩⟩
 kernel_rfl
theorem BA : aF gT = []:=by kernel_rfl
theorem yI : aG gT = 15:=by kernel_rfl
theorem zI : cE Tryz.prog 181 gT ⟨eO,gG,iA⟩:=by
 exact cF eH.callee aK.mixed _ (aD BA trivial) yD
theorem xZ : ∀ x,dJ Tryz.prog eE 181 (aC Tryz.f78) dX gS eD gB x = fD x:=by
 rintro ⟨v0,v1,v5,v6,v142,v143,v100000,⟨⟩⟩
 kernel_rfl
theorem A9 : aF gS = []:=by kernel_rfl
theorem yB : aG gS = 24:=by kernel_rfl
theorem yP : cE Tryz.prog 181 gS ⟨eD,gB,bW⟩:=by
 exact cF eH.callee aK.mixed _ (aD A9 trivial) xZ
theorem xL : ∀ x,dJ Tryz.prog eE 181 (aC Tryz.f78) dX cU eJ gF x = bU x:=by
 rintro ⟨v0,v1,v5,v6,v100000,⟨⟩⟩
 kernel_rfl
theorem B9 : aF cU = [gV,gT,gS]:=by kernel_rfl
theorem yL : aG cU = 5:=by kernel_rfl
theorem yV : cE Tryz.prog 181 cU ⟨eJ,gF,fE⟩:=by
 exact cF eH.callee aK.mixed _ (aD B9 ⟨cG yF rfl zG,cG yI rfl zI,cG yB rfl yP,trivial⟩) xL
theorem xI : ∀ x,dJ Tryz.prog eE 181 (aC Tryz.f78) dX fA eC gD x = cT x:=by
 rintro ⟨v0,v1,v5,v6,v100000,⟨⟩⟩
 kernel_rfl
theorem CH : aF fA = [cU]:=by kernel_rfl
theorem xF : aG fA = 3:=by kernel_rfl
theorem yW : cE Tryz.prog 181 fA ⟨eC,gD,iC⟩:=by
 exact cF eH.callee aK.mixed _ (aD CH ⟨cG yL rfl yV,trivial⟩) xI
theorem AH : aF kX = [fA]:=by kernel_rfl
theorem BP : ∀ l x A,WK Tryz.prog eE Tryz.f78 (aC Tryz.f78) dX kX 144 .str (.own 137 (.hnd 1)) [.int .i64] (.own 137 (.hnd 1)) l x A = fW l x A:=by
 rintro u0 ⟨v1,⟨⟩⟩ A
 kernel_rfl
theorem EA : aDD Tryz.prog 78 144 .str (.own 137 (.hnd 1)) [.int .i64] (.own 137 (.hnd 1)) fW:=by
 exact UA aK eH Tryz.func78 (c:=kX) (by kernel_rfl) (aU:=aC Tryz.f78) (lt:=dX) (by rfl) (aD AH ⟨cG xF rfl yW,trivial⟩) BP
abbrev uF : Shr:=(78,arH 144 .str (.own 137 (.hnd 1)) [.int .i64] (.own 137 (.hnd 1)) fW)
theorem BU : FH Tryz.prog uF:=US EA
end Go.PM
set_option linter.unusedSimpArgs false
set_option linter.unusedVariables false
namespace Go.PM
open Go Go.RowKit
def aO8 (P : Program) (E : Env) (fn : Func) (aU : Nat) (lt rt : Nat→Option aS) (c : Code) (ae : TypeId) (t : Ty) (tk : Tk) (args : List Kd) (an : An) (l : tk.den) (x : aI args) (A : List (List t.den)) : Option (an.den×List (List t.den)) :=
 bif Nat.ble (tk.pv 0 ++ iP args x).length fn.ntmps then qS P E fn.ntmps aU lt rt false [] c (start aU 0 (tk.pv 0 ++ iP args x)) (yR (tk.ow l 0) ++ [some (arB ae t A)]) (a5A P fn.results.toList ae t an) else none
section
variable {P : Program} {n0 : Nat→Prop} {w w' : World} {G G1 G2 : Gd} {μ μ2 : Mp} {H H' : Heap} {ae : TypeId} {t : Ty} {A B : List (List t.den)}
theorem a0G {E : Env} (hP : B0 P) (hE : aZ P E) {g : Nat} {fn : Func} (hg : P.funcs[g]? = some fn) {c : Code} (hc : fn.body = some c) {aU : Nat} {lt rt : Nat→Option aS} {ae : TypeId} {t : Ty} {tk : Tk} {args : List Kd} {an : An} {f : tk.den→aI args→List (List t.den)→Option (an.den×List (List t.den))}
  (hd : D5 args = true) (hl : ∀ a ∈ bQ c,DI P fn.ntmps lt rt false [] a) (hb : ∀ l x A,aO8 P E fn aU lt rt c ae t tk args an l x A = f l x A) : aDD P g ae t tk args an f:=by
 intro l x A y B hy n0 G μ H w us ra r hW har ho hv
 rw [← hb] at hy
 unfold aO8 at hy
 obtain ⟨hlen,hy⟩:=aM hy
 obtain ⟨⟨ex,F',H'⟩,h1,h2⟩:=iG hE.callee hP.mixed c _ _ _ _ hl hy
 obtain ⟨vs,B',hex,hvs,hB,hq,rfl⟩ : ∃ vs B',(ex = .normal ∨ ex = .ret)∧mY P F' H' fn.results.toList = some vs∧aRU ae t H' = some B'∧aOM an (fC vs) H' = some y∧B'.2 = B:=by
  unfold a5A at h1
  split at h1
  ·cases h1
  ·rename_i hne
   split at h1
   ·rename_i vs hvs
    split at h1
    ·rename_i B' hB
     split at h1
     ·rename_i y' hy'
      simp only [Option.some.injEq,Prod.mk.injEq] at h1
      obtain ⟨rfl,h1⟩:=h1
      refine ⟨vs,B',?_,hvs,hB,hy',h1⟩
      cases ex with
      | normal=>exact .inl rfl
      | ret=>exact .inr rfl
      | exit i=>exact absurd rfl (hne i)
     ·cases h1
    ·cases h1
   ·cases h1
 have hargs : VRs w G (mpA μ (tk.ow l r) A.length) (tk.pv 0 ++ iP args x) us:=by
  have hn:=AK args x hd
  cases tk with
  | none=>exact VRs.bD (cH _ _ hn hv)
  | own e u =>
   change VRs w G μ (.own r u.size :: iP args x) us at hv
   change VRs w G _ (.own 0 u.size :: iP args x) us
   rw [VRs] at hv ⊢
   obtain ⟨v,us',rfl,q1,q2⟩:=hv
   refine ⟨v,us',rfl,?_,VRs.bD (cH _ _ hn q2)⟩
   rw [VR] at q1 ⊢
   exact q1
 have howb : yR (tk.ow l 0) = yR (tk.ow l r):=by cases tk <;> rfl
 have hW1:=Q0 hW ho har
 rw [← howb] at hW1
 have e0 : Ext (wrA w G μ (tk.ow l r)) w G aL w G (mpA μ (tk.ow l r) A.length) :=
  ⟨⟨fun b hb=>⟨hb,rfl⟩,fun _ _ h=>(by cases h),fun _ _ h=>(by cases h),fun _ _ h=>h,fun _ _ h=>h⟩,rfl,rfl,rfl,Nat.le_refl _,fun _ _ _=>rfl,fun _ h=>.inl h⟩
 refine ⟨enters hg (hP.names g fn hg) (by rw [hc]; rfl) _ _,(callsIn_wide (n:=0)).1 (callsIn_of_wp_marks hg hc trivial ?_)⟩
 have hI : I (wrA w G μ (tk.ow l r)) w G aL fn.ntmps (start aU 0 (tk.pv 0 ++ iP args x)) (yR (tk.ow l 0) ++ [some (arB ae t A)]) ⟨us.toArray ++ Array.replicate (fn.ntmps - us.toArray.size) undef,[]⟩ w :=
  ⟨G,_,e0,hW1,rA (by simpa using hargs) (Nat.le_of_ble_eq_true hlen)⟩
 refine wpIn_mono (h2 none 0 _ w G aL _ w (fun _=>rfl) (fun r _=>⟨rfl,rfl⟩) hI.a8F) ?_
 rintro e1 ⟨tm,ds⟩ w' ⟨rfl,hI',_⟩
 have hend : ∀ w',IM (wrA w G μ (tk.ow l r)) w G aL fn.ntmps F' H' { tmps:=tm,defers:=[] } w'→LeavesIn Fence.wide 0 P fn tm (fun en w'=>∃ v' G'' μ'',en = .returned v'∧Ext n0 w G μ w' G'' μ''∧aV n0 G'' μ'' (((DR (tk.ow l r) H).set ra none) ++ (some (arB ae t B'.2) :: an.hp y)) w'∧VR w' G'' μ'' (an.pv y (H.length + 1)) v') [] .returning w':=by
  rintro w' ⟨G1,μ1,ee,hW',hF',_⟩
  obtain ⟨ws,h3,h4⟩:=lM (P:=P) hW' hF' hvs
  have hres : (results fn tm).run P w' = .ok (if hh : ws.toArray.size = 1 then ws.toArray[0] else .tuple ws.toArray) w':=by
   rw [tL,Array.mapM_eq_mapM_toList]
   simp only [Sem.run_bind,Sem.run_map,h3,Result.andThen_ok,Sem.run_pure]
  have hrb:=PF hW' hB
  obtain ⟨G2,μ3,b1,b2,b3⟩ : ∃ G2 μ3,Ext n0 w G μ w' G2 μ3∧aV n0 G2 μ3 (((DR (tk.ow l r) H).set ra none) ++ (some (arB ae t B'.2) :: an.hp y)) w'∧VR w' G2 μ3 (an.pv y (H.length + 1)) (if hh : ws.toArray.size = 1 then ws.toArray[0] else .tuple ws.toArray):=by
   have hvr:=nH h4
   cases an with
   | data rets =>
    simp only [aOM] at hq
    split at hq
    ·rename_i q hq'
     have hb:=Y4 (G2:=⟨fun b=>G1 b ∨ ∃ s k,H'[s]? = some (some k)∧k.frozen = false∧μ1.loc s = some b,G1.row⟩) hW ho har ee hW' hrb (os:=none) ⟨fun _ _ _ h=>by cases h⟩ (fun _=>rfl) (fun b hb=>.inl hb) (fun b hb=>by
      rcases hb with h | ⟨s,k,z1,z2,z3⟩
      ·exact .inl h
      ·exact .inr ⟨s,k,z1,z2,z3,fun _ _ _ h=>by cases h⟩)
     refine ⟨_,_,hb.1,hb.2,?_⟩
     have:=wS (G':=⟨fun b=>G1 b ∨ ∃ s k,H'[s]? = some (some k)∧k.frozen = false∧μ1.loc s = some b,G1.row⟩) hW' (fun _ _ h=>h) (fun b hb=>.inl hb) (fun s k1 b hs _ hb=>by
      obtain ⟨_,_,_,_,g5,_⟩:=hW'.blk s k1 b hs hb
      cases hf : k1.frozen with
      | true=>exact .inl (g5 hf)
      | false=>exact .inr ⟨s,k1,hs,hf,hb⟩) depth _ q _ hq' hvr
     exact (M4 hq this).bD
    ·cases hq
   | own e u =>
    simp only [aOM] at hq
    obtain ⟨r1,l0,hos,hvv⟩:=aBP hW' hq hvr
    have hb:=Y4 (G2:=G1) hW ho har ee hW' hrb hos (fun _=>rfl) (fun b hb=>hb) (fun b hb=>.inl hb)
    refine ⟨_,_,hb.1,hb.2,hvv _ _ _ ?_ ?_⟩
    ·have h1 : ¬ H.length + 1 < H.length:=by omega
     simp [nY,h1,a2S]
    ·have h1 : ¬ H.length + 1 < H.length:=by omega
     simp [nY,h1,aV8]
  exact ⟨_,hres,_,G2,μ3,rfl,b1,b2,b3⟩
 rcases hex with rfl | rfl
 ·exact pK (fun b hb=>(Q0 hW ho har).base b hb) hend ds w' hI'
 ·exact pK (fun b hb=>(Q0 hW ho har).base b hb) hend ds w' hI'
end
end Go.PM
set_option linter.unusedSimpArgs false
set_option linter.unusedVariables false
namespace Go.PM
open Go Go.RowKit Go.Proofs
set_option maxRecDepth 100000
set_option maxHeartbeats 4000000
/-! schisma/row.fits -/
def GD (x : aI [.int .i64]) : Option (aI [.bool]):=match x with
 | (v0,()) =>
  bif !(ltI v0 (-1000000000)) then
   some (!(ltI 1000000000 v0),())
  else some (false,())
noncomputable def WB : Code:=aT Tryz.f60
abbrev aF9 : Env:=bE []
theorem aI3 : aZ Tryz.prog aF9:=aW trivial
def ZB (id : Nat) : Option aS:=none
theorem aEI : aF WB = []:=by kernel_rfl
theorem aHQ : ∀ x,bI Tryz.prog aF9 Tryz.f60 (aC Tryz.f60) ZB WB [.int .i64] [.bool] x = GD x:=by
 rintro ⟨v0,⟨⟩⟩
 kernel_rfl
theorem aOR : bY Tryz.prog 60 [.int .i64] [.bool] GD:=by
 exact aY aK aI3 Tryz.func60 (c:=WB) (by kernel_rfl) (aU:=aC Tryz.f60) (lt:=ZB) (aD aEI trivial) aHQ
abbrev aGD : Ent:=⟨60,[.int .i64],[.bool],GD⟩
theorem aIF : Ent.OK Tryz.prog aGD:=aOR

/-! schisma/row.Check$1 -/
def vH (x : aI [.int .i64]) : Option (aI [.bool]):=match x with
 | (v0,()) =>
  aB (GD (v0,())) fun y1 =>
  bif y1.1 then
   some (false,())
  else some (true,())
noncomputable def I1 : Code:=aT Tryz.f59
abbrev RE : Env:=bE [aGD]
theorem XT : aZ Tryz.prog RE:=aW ⟨aIF,trivial⟩
def N6 (id : Nat) : Option aS:=none
theorem TX : aF I1 = []:=by kernel_rfl
theorem YL : ∀ x,bI Tryz.prog RE Tryz.f59 (aC Tryz.f59) N6 I1 [.int .i64] [.bool] x = vH x:=by
 rintro ⟨v0,⟨⟩⟩
 kernel_rfl
theorem aEN : bY Tryz.prog 59 [.int .i64] [.bool] vH:=by
 exact aY aK XT Tryz.func59 (c:=I1) (by kernel_rfl) (aU:=aC Tryz.f59) (lt:=N6) (aD TX trivial) YL
abbrev RL : Ent:=⟨59,[.int .i64],[.bool],vH⟩
theorem YJ : Ent.OK Tryz.prog RL:=aEN

/-! slices.IndexFunc[schisma/api.Row,int] -/
abbrev cM : List (Nat×Kd):=[(0,.list TyE),(1,.fn 59),(7,.int .i64),(8,.int .i64)]
abbrev dF : List (Ex×List (Nat×Kd)):=[(.ret,[(4,.int .i64)]),(.exit 0,[])]
def cA (x : Shape.den cM) : Option (Shape.den cM ⊕ aR dF):=match x with
 | (v0,v1,v7,v8,()) =>
  bif ltI v8 v7 then
   bif aQ v8 v0.length then aB (vH ((v0.getD v8.toNat 0),())) fun y2 =>
   bif y2.1 then
    some (.inr (.inl (v8,())))
   else some (.inl (v0,(),v7,(aE .i64 (v8 + 1)),())) else none
  else some (.inr (.inr ((()))))
def eR (x : Shape.den cM) : Option (aR dF):=bM cA (2 ^ 64) x
def eK (x : aI [.list TyE,.fn 59]) : Option (aI [.int .i64]):=match x with
 | (v0,v1,()) =>
  aB (eR (v0,(),(v0.length : Int),0,())) fun z3 =>
  gY z3 (fun a4=>some (a4.1,())) fun b5 =>
  some ((-1),())
noncomputable def gL : Code:=aT Tryz.f73
abbrev kC : Env:=bE [RL]
theorem mL : aZ Tryz.prog kC:=aW ⟨YJ,trivial⟩
noncomputable def dW : Code:=dT gL 0
def jQ (id : Nat) : Option aS:=bif Nat.beq id 2 then some ⟨cM,dF,eR⟩ else none
theorem rZ : ∀ x,dJ Tryz.prog kC 19 (aC Tryz.f73) jQ dW cM dF x = cA x:=by
 rintro ⟨v0,v1,v7,v8,⟨⟩⟩
 kernel_rfl
theorem uP : aF dW = []:=by kernel_rfl
theorem r9 : aG dW = 2:=by kernel_rfl
theorem sM : cE Tryz.prog 19 dW ⟨cM,dF,eR⟩:=by
 exact cF mL.callee aK.mixed _ (aD uP trivial) rZ
theorem tD : aF gL = [dW]:=by kernel_rfl
theorem uQ : ∀ x,bI Tryz.prog kC Tryz.f73 (aC Tryz.f73) jQ gL [.list TyE,.fn 59] [.int .i64] x = eK x:=by
 rintro ⟨v0,v1,⟨⟩⟩
 kernel_rfl
theorem vT : bY Tryz.prog 73 [.list TyE,.fn 59] [.int .i64] eK:=by
 exact aY aK mL Tryz.func73 (c:=gL) (by kernel_rfl) (aU:=aC Tryz.f73) (lt:=jQ) (aD tD ⟨cG r9 rfl sM,trivial⟩) uQ
abbrev oA : Ent:=⟨73,[.list TyE,.fn 59],[.int .i64],eK⟩
theorem uM : Ent.OK Tryz.prog oA:=vT

/-! slices.ContainsFunc[schisma/api.Row,int] -/
def dE (x : aI [.list TyE,.fn 59]) : Option (aI [.bool]):=match x with
 | (v0,v1,()) =>
  aB (eK (v0,(),())) fun y1 =>
  some (!(ltI y1.1 0),())
noncomputable def iQ : Code:=aT Tryz.f55
abbrev mK : Env:=bE [oA]
theorem r8 : aZ Tryz.prog mK:=aW ⟨uM,trivial⟩
def lS (id : Nat) : Option aS:=none
theorem rM : aF iQ = []:=by kernel_rfl
theorem sF : ∀ x,bI Tryz.prog mK Tryz.f55 (aC Tryz.f55) lS iQ [.list TyE,.fn 59] [.bool] x = dE x:=by
 rintro ⟨v0,v1,⟨⟩⟩
 kernel_rfl
theorem tM : bY Tryz.prog 55 [.list TyE,.fn 59] [.bool] dE:=by
 exact aY aK r8 Tryz.func55 (c:=iQ) (by kernel_rfl) (aU:=aC Tryz.f55) (lt:=lS) (aD rM trivial) sF
abbrev mJ : Ent:=⟨55,[.list TyE,.fn 59],[.bool],dE⟩
theorem rY : Ent.OK Tryz.prog mJ:=tM

/-! schisma/row.Check -/
def pA (x : aI [.list TyE]) : Option (aI [.int .i64]):=match x with
 | (v0,()) =>
  bif ltI 64 (v0.length : Int) then
   some (4,())
  else aB (dE (v0,(),())) fun y1 =>
  bif y1.1 then
   some (4,())
  else some (0,())
noncomputable def QD : Code:=aT Tryz.f37
abbrev ZM : Env:=bE [mJ]
theorem aD0 : aZ Tryz.prog ZM:=aW ⟨rY,trivial⟩
def W3 (id : Nat) : Option aS:=none
theorem aDK : aF QD = []:=by kernel_rfl
theorem aDW : ∀ x,bI Tryz.prog ZM Tryz.f37 (aC Tryz.f37) W3 QD [.list TyE] [.int .i64] x = pA x:=by
 rintro ⟨v0,⟨⟩⟩
 kernel_rfl
theorem aKO : bY Tryz.prog 37 [.list TyE] [.int .i64] pA:=by
 exact aY aK aD0 Tryz.func37 (c:=QD) (by kernel_rfl) (aU:=aC Tryz.f37) (lt:=W3) (aD aDK trivial) aDW
abbrev IK : Ent:=⟨37,[.list TyE],[.int .i64],pA⟩
theorem EZ : Ent.OK Tryz.prog IK:=aKO

/-! schisma/row.CheckAll -/
abbrev lO : List (Nat×Kd):=[(1,.int .i64),(8,.list TyD),(9,.int .i64),(10,.int .i64)]
abbrev nR : List (Ex×List (Nat×Kd)):=[(.ret,[(4,.int .i64)]),(.exit 0,[])]
def j8 (x : Shape.den lO) : Option (Shape.den lO ⊕ aR nR):=match x with
 | (v1,v8,v9,v10,()) =>
  bif ltI v10 v9 then
   bif aQ v10 v8.length then aB (pA ((v8.getD v10.toNat []),())) fun y2 =>
   bif !(eqI y2.1 0) then
    some (.inr (.inl (y2.1,())))
   else bif !(eqI ((v8.getD v10.toNat []).length : Int) v1) then
    some (.inr (.inl (5,())))
   else some (.inl (v1,v8,v9,(aE .i64 (v10 + 1)),())) else none
  else some (.inr (.inr ((()))))
def pF (x : Shape.den lO) : Option (aR nR):=bM j8 (2 ^ 64) x
def p5 (x : aI [.list TyD,.int .i64]) : Option (aI [.int .i64]):=match x with
 | (v0,v1,()) =>
  aB (pF (v1,v0,(v0.length : Int),0,())) fun z3 =>
  gY z3 (fun a4=>some (a4.1,())) fun b5 =>
  some (0,())
noncomputable def wW : Code:=aT Tryz.f99
abbrev EL : Env:=bE [IK]
theorem FI : aZ Tryz.prog EL:=aW ⟨EZ,trivial⟩
noncomputable def pM : Code:=dT wW 0
def CY (id : Nat) : Option aS:=bif Nat.beq id 2 then some ⟨lO,nR,pF⟩ else none
theorem NC : ∀ x,dJ Tryz.prog EL 24 (aC Tryz.f99) CY pM lO nR x = j8 x:=by
 rintro ⟨v1,v8,v9,v10,⟨⟩⟩
 kernel_rfl
theorem UC : aF pM = []:=by kernel_rfl
theorem NS : aG pM = 2:=by kernel_rfl
theorem QJ : cE Tryz.prog 24 pM ⟨lO,nR,pF⟩:=by
 exact cF FI.callee aK.mixed _ (aD UC trivial) NC
theorem SI : aF wW = [pM]:=by kernel_rfl
theorem VG : ∀ x,bI Tryz.prog EL Tryz.f99 (aC Tryz.f99) CY wW [.list TyD,.int .i64] [.int .i64] x = p5 x:=by
 rintro ⟨v0,v1,⟨⟩⟩
 kernel_rfl
theorem aBK : bY Tryz.prog 99 [.list TyD,.int .i64] [.int .i64] p5:=by
 exact aY aK FI Tryz.func99 (c:=wW) (by kernel_rfl) (aU:=aC Tryz.f99) (lt:=CY) (aD SI ⟨cG NS rfl QJ,trivial⟩) VG
abbrev N3 : Ent:=⟨99,[.list TyD,.int .i64],[.int .i64],p5⟩
theorem UW : Ent.OK Tryz.prog N3:=aBK

/-! schisma/lattice.check -/
def l3 (x : aI [.int .i64,.list TyD]) : Option (aI [.int .i64]):=match x with
 | (v0,v1,()) =>
  bif ltI v0 0 then
   some (3,())
  else bif ltI 12 v0 then
   some (3,())
  else bif ltI 12 (v1.length : Int) then
   some (4,())
  else aB (p5 (v1,v0,())) fun y1 =>
  some (y1.1,())
noncomputable def CA : Code:=aT Tryz.f76
abbrev LB : Env:=bE [N3]
theorem S1 : aZ Tryz.prog LB:=aW ⟨UW,trivial⟩
def I6 (id : Nat) : Option aS:=none
theorem OU : aF CA = []:=by kernel_rfl
theorem SA : ∀ x,bI Tryz.prog LB Tryz.f76 (aC Tryz.f76) I6 CA [.int .i64,.list TyD] [.int .i64] x = l3 x:=by
 rintro ⟨v0,v1,⟨⟩⟩
 kernel_rfl
theorem YS : bY Tryz.prog 76 [.int .i64,.list TyD] [.int .i64] l3:=by
 exact aY aK S1 Tryz.func76 (c:=CA) (by kernel_rfl) (aU:=aC Tryz.f76) (lt:=I6) (aD OU trivial) SA
abbrev CG : Ent:=⟨76,[.int .i64,.list TyD],[.int .i64],l3⟩
theorem DG : Ent.OK Tryz.prog CG:=YS

/-! (schisma/lattice.longs).short -/
abbrev eF : List (Nat×Kd):=[(4,.bag 116 TyE 23 TyD none),(6,.bag 116 TyE 23 TyD none),(13,.own 137 (.hnd 1)),(14,.int .i64),(15,.int .i64),(100000,.ar 144 .str)]
abbrev gH : List (Ex×List (Nat×Kd)):=[(.ret,[(4,.bag 116 TyE 23 TyD none),(5,.int .i64),(100000,.ar 144 .str)]),(.exit 0,[(4,.bag 116 TyE 23 TyD none),(6,.bag 116 TyE 23 TyD none),(100000,.ar 144 .str)])]
def dM (x : Shape.den eF) : Option (Shape.den eF ⊕ aR gH):=match x with
 | (v4,v6,v13,v14,v15,v100000,()) =>
  bif ltI v15 v14 then
   bif aQ v15 v13.length then bif Nat.blt v15.toNat v13.length then aB (gX () (((v13.getD v15.toNat (0,0,0)).1,(v13.getD v15.toNat (0,0,0)).2.1,(v13.getD v15.toNat (0,0,0)).2.2),()) v100000) fun y2 =>
   bif !(eqI y2.1.2.1 0) then
    some (.inr (.inl ((0,([],())),y2.1.2.1,y2.2,())))
   else bif Nat.ble [y2.1.1].length 1048576 then bif Nat.ble v6.2.1.length 1048576 then some (.inl ((v4.1,(v4.2.1,())),(v6.1,((v6.2.1 ++ [y2.1.1]),())),v13,v14,(aE .i64 (v15 + 1)),y2.2,())) else none else none else none else none
  else some (.inr (.inr (((v4.1,(v4.2.1,())),(v6.1,(v6.2.1,())),v100000,()))))
def iB (x : Shape.den eF) : Option (aR gH):=bM dM (2 ^ 64) x
def fV (v0 : List (Nat×Nat×Nat)) (x : aI [.int .i64]) (A : List (List ByteArray)) : Option ((aI [.agg (.prod TyE TyC),.int .i64])×List (List ByteArray)):=match x with
 | (v1,()) =>
  aB (iB ((0,([],())),(v1,([],())),v0,(v0.length : Int),0,A,())) fun z3 =>
  gY z3 (fun a4=>some (((a4.1.1,a4.1.2.1),a4.2.1,()),a4.2.2.1)) fun b5 =>
  some (((b5.2.1.1,b5.2.1.2.1),0,()),b5.2.2.1)
noncomputable def kU : Code:=aT Tryz.f79
abbrev oE : Env:=aIL [] [vV]
theorem qO : aZ Tryz.prog oE:=DX trivial ⟨EB,trivial⟩
noncomputable def gQ : Code:=inLoop (zO kU 0)
def nE (id : Nat) : Option aS:=bif Nat.beq id 3 then some ⟨eF,gH,iB⟩ else none
def nI (id : Nat) : Option aS:=none
theorem xE : aG gQ = 3:=by kernel_rfl
theorem BY : bQ gQ = []:=by kernel_rfl
theorem xY : ∀ x,EM Tryz.prog oE 36 (nU Tryz.f79) nE nI false [] gQ eF gH x = dM x:=by
 rintro ⟨v4,v6,v13,v14,v15,v100000,⟨⟩⟩
 kernel_rfl
theorem yQ : qJ Tryz.prog 36 false [] (.loop gQ) ⟨eF,gH,iB⟩:=by
 exact vF qO.callee aK.mixed _ (kK BY trivial) xY
theorem AF : bQ kU = [.loop gQ]:=by kernel_rfl
theorem BG : ∀ l x A,aO8 Tryz.prog oE Tryz.f79 (nU Tryz.f79) nE nI kU 144 .str (.own 137 (.hnd 1)) [.int .i64] (.data [.agg (.prod TyE TyC),.int .i64]) l x A = fV l x A:=by
 rintro u0 ⟨v1,⟨⟩⟩ A
 kernel_rfl
theorem E5 : aDD Tryz.prog 79 144 .str (.own 137 (.hnd 1)) [.int .i64] (.data [.agg (.prod TyE TyC),.int .i64]) fV:=by
 exact a0G aK qO Tryz.func79 (c:=kU) (by kernel_rfl) (aU:=nU Tryz.f79) (lt:=nE) (rt:=nI) (by rfl) (kK AF ⟨xW xE rfl yQ,trivial⟩) BG
abbrev tV : Shr:=(79,arH 144 .str (.own 137 (.hnd 1)) [.int .i64] (.data [.agg (.prod TyE TyC),.int .i64]) fV)
theorem BM : FH Tryz.prog tV:=US E5

/-! schisma/lattice.Of -/
def kP (x : aI [.int .i64,.list TyD]) : Option (aI [.agg (.prod TyE TyC),.int .i64]):=match x with
 | (v0,v1,()) =>
  aB (l3 (v0,v1,())) fun y1 =>
  bif !(eqI y1.1 0) then
   some ((0,[]),y1.1,())
  else aB (jI () (v1,()) []) fun y2 =>
  aB (fW y2.1 (v0,()) y2.2) fun y3 =>
  aB (fV y3.1 (v0,()) y3.2) fun y4 =>
  some ((y4.1.1.1,y4.1.1.2),y4.1.2.1,())
noncomputable def KC : Code:=aT Tryz.f67
abbrev XC : Env:=aIL [CG] [zM,uF,tV]
theorem aBX : aZ Tryz.prog XC:=DX ⟨DG,trivial⟩ ⟨GY,BU,BM,trivial⟩
def S2 (id : Nat) : Option aS:=none
theorem YK : aF KC = []:=by kernel_rfl
theorem aDM : ∀ x,aZS Tryz.prog XC Tryz.f67 (aC Tryz.f67) S2 KC 144 .str [.int .i64,.list TyD] [.agg (.prod TyE TyC),.int .i64] x = kP x:=by
 rintro ⟨v0,v1,⟨⟩⟩
 kernel_rfl
theorem aG2 : bY Tryz.prog 67 [.int .i64,.list TyD] [.agg (.prod TyE TyC),.int .i64] kP:=by
 exact bDX aK aBX Tryz.func67 (c:=KC) (by kernel_rfl) (aU:=aC Tryz.f67) (lt:=S2) (aD YK trivial) aDM
abbrev L7 : Ent:=⟨67,[.int .i64,.list TyD],[.agg (.prod TyE TyC),.int .i64],kP⟩
theorem K6 : Ent.OK Tryz.prog L7:=aG2
end Go.PM
set_option linter.unusedSimpArgs false
set_option linter.unusedVariables false
namespace Go.PM
open Go Go.RowKit Go.Proofs
set_option maxRecDepth 100000
set_option maxHeartbeats 4000000
/-! schisma/lattice.longOf -/
abbrev jJ : List (Nat×Kd):=[(3,.own 144 .str),(9,.list TyE),(10,.int .i64),(11,.int .i64)]
abbrev lA : List (Ex×List (Nat×Kd)):=[(.exit 0,[(3,.own 144 .str)])]
def vY (x : Shape.den jJ) : Option (Shape.den jJ ⊕ aR lA):=match x with
 | (v3,v9,v10,v11,()) =>
  bif ltI v11 v10 then
   bif aQ v11 v9.length then aB (gK ((v9.getD v11.toNat 0),())) fun y2 =>
   bif Nat.ble [y2.1].length 1048576 then bif Nat.ble v3.length 1048576 then some (.inl ((v3 ++ [y2.1]),v9,v10,(aE .i64 (v11 + 1)),())) else none else none else none
  else some (.inr ((v3,())))
def mD (x : Shape.den jJ) : Option (aR lA):=bM vY (2 ^ 64) x
def kB (x : aI [.list TyE]) : Option (aI [.list .str]):=match x with
 | (v0,()) =>
  bif !(ltI (v0.length : Int) 0) then bif !(ltI 1048576 (v0.length : Int)) then aB (mD ((List.replicate 0 ByteArray.empty),v0,(v0.length : Int),0,())) fun z3 =>
  some (z3.1,()) else none else none
noncomputable def rN : Code:=aT Tryz.f100
abbrev wG : Env:=bE [A4]
theorem zT : aZ Tryz.prog wG:=aW ⟨vB,trivial⟩
noncomputable def mB : Code:=dT rN 0
def uY (id : Nat) : Option aS:=bif Nat.beq id 3 then some ⟨jJ,lA,mD⟩ else none
theorem IX : ∀ x,dJ Tryz.prog wG 22 (aC Tryz.f100) uY mB jJ lA x = vY x:=by
 rintro ⟨v3,v9,v10,v11,⟨⟩⟩
 kernel_rfl
theorem NH : aF mB = []:=by kernel_rfl
theorem IC : aG mB = 3:=by kernel_rfl
theorem J0 : cE Tryz.prog 22 mB ⟨jJ,lA,mD⟩:=by
 exact cF zT.callee aK.mixed _ (aD NH trivial) IX
theorem K0 : aF rN = [mB]:=by kernel_rfl
theorem M8 : ∀ x,bI Tryz.prog wG Tryz.f100 (aC Tryz.f100) uY rN [.list TyE] [.list .str] x = kB x:=by
 rintro ⟨v0,⟨⟩⟩
 kernel_rfl
theorem SF : bY Tryz.prog 100 [.list TyE] [.list .str] kB:=by
 exact aY aK zT Tryz.func100 (c:=rN) (by kernel_rfl) (aU:=aC Tryz.f100) (lt:=uY) (aD K0 ⟨cG IC rfl J0,trivial⟩) M8
abbrev FP : Ent:=⟨100,[.list TyE],[.list .str],kB⟩
theorem NF : Ent.OK Tryz.prog FP:=SF

/-! (schisma/lattice.Lattice).pivots$1 -/
abbrev dD : List (Nat×Kd):=[(0,.val),(7,.list TyD),(8,.int .i64),(9,.int .i64)]
abbrev eY : List (Ex×List (Nat×Kd)):=[(.exit 0,[])]
def eA (x : Shape.den dD) : Option (List (Value×aI [.int .i64,.list .str])×(Shape.den dD ⊕ aR eY)):=match x with
 | (v0,v7,v8,v9,()) =>
  bif ltI v9 v8 then
   bif aQ v9 v7.length then aB (kB ((v7.getD v9.toNat []),())) fun y3 =>
   aB (iE (y3.1,())) fun y4 =>
   outs [(v0,(y4.1,y3.1,()))] (some ([],.inl (v0,v7,v8,(aE .i64 (v9 + 1)),()))) else none
  else some ([],.inr ((())))
def gA (x : Shape.den dD) : Option (List (Value×aI [.int .i64,.list .str])×aR eY):=RJ eA (2 ^ 64) x
def l8 (v0 : Value) (x : tN [(.prod TyE TyC)]) : Option (List (Value×aI [.int .i64,.list .str])):=match x with
 | (v1,()) =>
  aVN (aML (gA (v0,v1.2,(v1.2.length : Int),0,())) fun z5 =>
  some ([],()))
noncomputable def iV : Code:=aT Tryz.f141
abbrev l6 : Env:=aIL [FP,CJ] []
theorem oT : aZ Tryz.prog l6:=DX ⟨NF,JY,trivial⟩ trivial
noncomputable def fG : Code:=inLoop (zO iV 0)
def lF (id : Nat) : Option aS:=none
def lG (id : Nat) : Option (D8 (Value×aI [.int .i64,.list .str])):=bif Nat.beq id 1 then some ⟨dD,eY,gA⟩ else none
theorem vI : aG fG = 1:=by kernel_rfl
theorem yJ : bQ fG = []:=by kernel_rfl
theorem vA : ∀ x,aPI Tryz.prog l6 22 (aC Tryz.f141) lF [.int .i64,.list .str] lG fG dD eY x = eA x:=by
 rintro ⟨v0,v7,v8,v9,⟨⟩⟩
 kernel_rfl
theorem vS : aM9 Tryz.prog 22 [.int .i64,.list .str] fG ⟨dD,eY,gA⟩:=by
 exact aKC oT.callee aK.mixed _ (QR yJ trivial) vA
theorem wC : bQ iV = [.loop fG]:=by kernel_rfl
theorem xN : ∀ v0 x,aQF Tryz.prog l6 Tryz.f141 (aC Tryz.f141) lF [.int .i64,.list .str] lG iV [(.prod TyE TyC)] v0 x = l8 v0 x:=by
 rintro v0 ⟨v1,⟨⟩⟩
 kernel_rfl
theorem xV {f : tN [(.prod TyE TyC)]→Option (List (aI [.int .i64,.list .str]))} (h : ∀ yv x all,f x = some all→l8 yv x = some (all.map fun e=>(yv,e))) : PG Tryz.prog 141 [(.prod TyE TyC)] [.int .i64,.list .str] f:=by
 exact aQT aK oT Tryz.func141 (c:=iV) (by kernel_rfl) (by kernel_rfl) (aU:=aC Tryz.f141) (lt:=lF) (li:=lG) (QR wC ⟨aJ4 vI rfl rfl vS,trivial⟩) (fun yv x all hx=>(xN yv x).trans (h yv x all hx))

/-! the iterator pivots -/
def aA5 : List (List Int)→Option (List (aI [.int .i64,.list .str]))
 | []=>some []
 | r :: l=>aB (kB (r,())) fun y=>aB (iE (y.1,())) fun z=>aB (aA5 l) fun rest=>some ((z.1,y.1,()) :: rest)
def Q2 (x : tN [(.prod TyE TyC)]) : Option (List (aI [.int .i64,.list .str])):=match x with
 | ((_,b),())=>bif Nat.ble b.length 1048576 then aA5 b else none
theorem W6 (yv : Value) (l : List (List Int)) (hl : l.length ≤ 1048576) : ∀ (rest pre : List (List Int)) (all : List (aI [.int .i64,.list .str])) (N : Nat),aA5 rest = some all→pre ++ rest = l→rest.length < N →
  RJ eA N (yv,l,(l.length : Int),(pre.length : Int),()) = some (all.map fun e=>(yv,e),())
 | [],pre,all,N + 1,h,hp,_=>by
  obtain rfl:=Option.some.inj h
  rw [List.append_nil] at hp
  subst hp
  have h1 : ltI (pre.length : Int) (pre.length : Int) = false:=by simp [aN]
  simp only [RJ,eA,h1,cond_false]
  rfl
 | r :: rest,pre,all,N + 1,h,hp,hN=>by
  obtain ⟨y,hy,h⟩:=n9 h
  obtain ⟨z,hz,h⟩:=n9 h
  obtain ⟨all',ha,h⟩:=n9 h
  obtain rfl:=Option.some.inj h
  have hlen : l.length = pre.length + (rest.length + 1):=by rw [← hp]; simp
  have h1 : ltI (pre.length : Int) (l.length : Int) = true:=by simp [aN]; omega
  have h2 : aQ (pre.length : Int) l.length = true:=by simp [bA]; omega
  have h3 : l.getD ((pre.length : Int)).toNat [] = r:=by rw [← hp]; simp
  have h4:=W6 yv l hl rest (pre ++ [r]) all' N ha (by rw [← hp]; simp) (by simp at hN; omega)
  have h5 : aE .i64 ((pre.length : Int) + 1) = ((pre ++ [r]).length : Int):=by rw [wrap64 (by omega) (by omega)]; simp
  simp only [RJ,eA,h1,cond_true,h2,h3,hy,aH,hz,outs,h5]
  rw [h4]
  rfl
theorem aT9 : PG Tryz.prog 141 [(.prod TyE TyC)] [.int .i64,.list .str] Q2:=by
 refine xV ?_
 rintro yv ⟨⟨n,b⟩,⟨⟩⟩ all h
 unfold Q2 at h
 dsimp only at h
 obtain ⟨hb,h⟩:=aM h
 have hb:=Nat.le_of_ble_eq_true hb
 have:=W6 yv b hb b [] all (2 ^ 64) h rfl (by omega)
 unfold l8
 dsimp only
 unfold gA
 have h0 : ((([] : List (List Int)).length : Nat) : Int) = 0:=rfl
 rw [h0] at this
 rw [this]
 simp [aML,outs,aVN]
end Go.PM
