/- Texts of one proof, joined (5). -/
import Derived.Lib.AtoiTie
import Derived.Lib.ParseIntBTie
import Derived.Test.YtmghkhgpkefgeaaGreatDoorQE4
set_option linter.unusedSimpArgs false
set_option linter.unusedVariables false
set_option maxRecDepth 100000
noncomputable section
namespace Go.PM
open Go Go.RowKit
structure ZI (Y:Type) where
 sh:List (Nat×Kd)
 exits:List (Ex×List (Nat×Kd))
 run:Shape.den sh->Option (List Y×aS exits)
def bB3(o:Oper):Bool:=match o.op with
 | .call c=>match c.callee with
  | .value (.tmp _)=>true
  | _=>false
 | _=>false
def bAP:List Oper->Nat->Option Nat
 | [],_=>none
 | o::r,i=>bif bB3 o then some i else bAP r (i+1)
def outs {Y α:Type}(l:List Y):Option (List Y×α)->Option (List Y×α)
 | some (m,z)=>some (l++m,z)
 | none=>none
def a14 {Y τ α:Type} (r:Option (List Y×τ)) (k:τ->Option (List Y×α)):Option (List Y×α):=match r with
 | some (l,z)=>outs l (k z)
 | none=>none
def a8Y {Y:Type}:Option (List Y×Unit)->Option (List Y)
 | some (l,_)=>some l
 | none=>none
section
variable {α:Type} (P:Program) (E:Env) (nt aT:Nat) (lt:Nat->Option bI) (ks:List Kd) (li:Nat->Option (ZI (Value×aH ks)))
def bCG(ops:Array Oper) (o:Oper) (rest:List Oper) (F:Frm) (H:Heap) (k:Frm->Heap->Option (List (Value×aH ks)×α)) (kx:Frm->Heap->Option Unit):Option (List (Value×aH ks)×α) :=
 aV1 F ops.toList o λF b=>bif b then (match o.op with
  | .call c=>match c.callee with
   | .value f=>match ev F f with
    | .lit yv=>bif fB.noRefs (c.args.toList.map (ev F))&&ks.all Kd.plain then (match aRH ks (c.args.toList.map (ev F))with
     | some e=>match X4 nt F o.dst (.lit (.bool true)),X4 nt F o.dst (.lit (.bool false))with
      | some F1,some F2=>match R1 P E nt ops.toList rest F2 H kx with
       | some _=>outs [(yv,e)] (R1 P E nt ops.toList rest F1 H k)
       | none=>none
      | _,_=>none
     | none=>none) else none
    | _=>none
   | _=>none
  | _=>none) else match X4 nt F o.dst (.lit undef)with
   | some F1=>R1 P E nt ops.toList rest F1 H k
   | none=>none
def N8:Code->Frm->Heap->(Ex->Frm->Heap->Option (List (Value×aH ks)×α))->(Ex->Frm->Heap->Option Unit)->Option (List (Value×aH ks)×α)
 | .skip,F,H,k,_=>k .normal F H
 | .label _,F,H,k,_=>k .normal F H
 | .region _ ops draw,F,H,k,kx=>match bAP ops.toList 0 with
  | none=>bif aAO ops then IK P E nt ops draw F H λF H=>aD0 aT F λF=>k .normal F H else none
  | some s=>bif aOK ops s then match ops.toList.drop s with
   | o::rest=>bif rest.all (λo=>!aU8 o.op) then
     (bif draw then IK P E nt (ops.toList.take s).toArray true F H else R1 P E nt ops.toList (ops.toList.take s) F H) λF H =>
      bCG P E nt ks ops o rest F H (λF H=>aD0 aT F λF=>k .normal F H) (λF H=>kx .normal F H)
    else none
   | []=>none
   else none
 | .seq a b,F,H,k,kx=>N8 a F H (λex F H=>match ex with
  | .normal=>N8 b F H k kx
  | .exit i=>k (.exit i) F H
  | .ret=>k .ret F H) (λex F H=>match ex with
  | .normal=>FG P E nt aT lt (λ_=>none) true [] b F H kx
  | .exit i=>kx (.exit i) F H
  | .ret=>kx .ret F H)
 | .cond c a b,F,H,k,kx=>match ev F c with
  | .lit (.bool t)=>a0A F c t λF t=>bif t then N8 a F H k kx else N8 b F H k kx
  | _=>none
 | .block id a,F,H,k,kx=>N8 a F H (λex F H=>match ex with
  | .exit i=>bif Nat.beq i id then k .normal F H else k (.exit i) F H
  | .normal=>k .normal F H
  | .ret=>k .ret F H) (λex F H=>match ex with
  | .exit i=>bif Nat.beq i id then kx .normal F H else kx (.exit i) F H
  | .normal=>kx .normal F H
  | .ret=>kx .ret F H)
 | .loop a,F,H,k,_=>match li (cE a)with
  | some s=>match DD [] s.sh F H with
   | some x=>a14 (s.run x) λz=>a0Y s.exits z k
   | none=>none
  | none=>match lt (cE a)with
   | some s=>match DD [] s.sh F H with
    | some x=>aC (s.run x) λz=>a0Y s.exits z k
    | none=>none
   | none=>none
 | .exit id,F,H,k,_=>k (.exit id) F H
 | .ret,F,H,k,_=>k .ret F H
 | _,_,_,_,_=>none
end
def a9S:Ex->Frm->Heap->Option Unit:=λex _ _=>match ex with
 | .ret=>some ()
 | _=>none
def a56 {Y:Type}(sh:List (Nat×Kd))(exits:List (Ex×List (Nat×Kd)))(ex:Ex)(F:Frm)(H:Heap):Option (List Y×(Shape.den sh⊕aS exits)):=match aML [] sh exits ex F H with
 | some z=>some ([],z)
 | none=>none
def a6O(P:Program) (E:Env) (nt aT:Nat) (lt:Nat->Option bI) (ks:List Kd) (li:Nat->Option (ZI (Value×aH ks))) (a:Code) (sh:List (Nat×Kd)) (exits:List (Ex×List (Nat×Kd))) (x:Shape.den sh):Option (List (Value×aH ks)×(Shape.den sh⊕aS exits)) :=
 N8 P E nt aT lt ks li a (CP sh x 0) (NG sh x) (a56 sh exits) a9S
def aMN {Y σ τ:Type}(step:σ->Option (List Y×(σ⊕τ))):Nat->σ->Option (List Y×τ)
 | 0,_=>none
 | n+1,x=>match step x with
  | some (l,.inl y)=>outs l (aMN step n y)
  | some (l,.inr z)=>some (l,z)
  | none=>none
theorem aL1 {Y α:Type}{l:List Y}{r:Option (List Y×α)}{m:List Y}{z:α}(h:outs l r=some (m,z)):∃ m',r=some (m',z)/\m=l++m':=by
 cases r with
 | none=>cases h
 | some p =>
  obtain⟨m',z'⟩:=p;simp only[outs,oJ,oP]at h;obtain⟨h1,h2⟩:=h;subst h2;exact⟨m',rfl,h1.symm⟩
section
variable {P:Program} {E:Env} {nt aT:Nat} {lt:Nat->Option bI} {ks:List Kd} {li:Nat->Option (ZI (Value×aH ks))}
variable {Φ:(Nat->Prop)->(Nat->Prop)->World->Prop} {G0 G G':Gd} {μ μ':Mp} {H H':Heap} {A A' W:World} {F F':Frm} {n:Nat} {a:Act}
theorem Sg.a5Y (h:Sg Φ G0 G μ H A):∃ n0,aW n0 G μ H A/\(∀ b,G0 b->G b)/\∀ A' G' μ' H',Ext n0 A G aL A' G' μ'->aW n0 G' μ' H' A'->Sg Φ G0 G' μ' H' A':=by
 obtain⟨T,X,B,GB,μB,h1,h2,h3,h4,h5,h6,h7⟩:=h;refine⟨_,h7,λb hb=>(h6.good b (h5 b hb)).1,λA' G' μ' H' e w=>⟨T,X,B,GB,aL,h1,h2,h3,h4,h5,?_,w⟩⟩;have h6':Ext (λb=>X b\/B.heap.size<=b) B GB aL A G aL:=h6.plain;exact h6'.trans e
theorem a1Z {c:Code} {r:Ex×Frm×Heap} (h:aW0 P nt true [] c F H r) {Q:Exit->Act->World->Prop} (hS:Sg Φ G0 G μ H A) (hF:jE A G μ nt F a)
  (hQ:∀ G' μ' a' A',Sg Φ G0 G' μ' r.2.2 A'->jE A' G' μ' nt r.2.1 a'->Q r.1.to a' A'):c.wpIn Fence.wide n P Q a A:=by
 obtain⟨n0,hW,_,hS2⟩:=hS.a5Y;have e0:Ext n0 A G aL A G μ:={ good:=λ_ h=>⟨h,rfl⟩,map:=λ_ _ h=>(by cases h),len:=λ_ _ h=>(by cases h),room:=λ_ _ h=>h,row:=λ_ _ h=>h,os:=rfl,tape:=rfl,output:=rfl,size:=Nat.le_refl _,old:=λ_ _ _=>rfl,new:=λ_ h=>.inl h };refine wpIn_mono (h none n n0 A G aL a A (λh=>(by cases h)) (λr _=>⟨rfl,rfl⟩) ⟨G,μ,e0,hW,hF.same,by rw[hF.defers]; trivial⟩) ?_;rintro e a' w' ⟨rfl,⟨G',μ',e',hW',hF',_⟩,hd⟩
 refine hQ G' μ' a' w' (hS2 _ _ _ _ e' hW') ⟨hF'.size,hF'.slot,?_⟩;rw[hd rfl]; exact hF.defers
def bCP(P:Program) (ks:List Kd) (l:Nat) (G0:Gd) (all:List (aH ks)) (J Jx:List (aH ks)->(Nat->Prop)->(Nat->Prop)->World->Prop):Prop :=
 ∀ pre e post T X B T' X' A us Gx m',all=pre++e::post->J pre T X B->Stp X B A->(∀ b,T' b->(T b\/B.heap.size<=b)/\b<A.heap.size)->(∀ b,X' b->T' b/\(X b\/B.heap.size<=b)) ->
   (∀ b,Gx b->(G0 b\/T' b)/\¬ X' b)->VRs A (Gd.of Gx) aL (oK ks e) us ->
   YieldAt Fence.wide m' P l us.toArray A λen C =>
    ((∀ b,b<A.heap.size->G0 b\/T' b->C.heap[b]?=A.heap[b]?)/\(∀ b n,Room A b n->Room C b n)/\A.heap.size<=C.heap.size)/\((en=.returned (.bool true)/\J (pre++[e]) T' X' C)\/(en=.returned (.bool false)/\Jx (pre++[e]) T' X' C))
def a8R(P:Program) (nt:Nat) (ks:List Kd) (c:Code) (F:Frm) (H:Heap) (ys:List (Value×aH ks)) (r:Ex×Frm×Heap) (kx:Ex->Frm->Heap->Option Unit):Prop :=
 ∀ (l:Nat) (yv:Value),yv=.func (.yield l) #[] #[]->∀ (G0:Gd) (all:List (aH ks)) (J Jx:List (aH ks)->(Nat->Prop)->(Nat->Prop)->World->Prop),bCP P ks l G0 all J Jx ->
  ∀ (pre post:List (aH ks)) (n:Nat) (a:Act) (A:World) (G:Gd) (μ:Mp),all=pre++(ys.map (·.2)++post)->(∀ y∈ys,y.1=yv)->Sg (J pre) G0 G μ H A->jE A G μ nt F a ->
  c.wpIn Fence.wide n P (λe a' A'=>(e=r.1.to/\∃ G' μ',Sg (J (pre++ys.map (·.2))) G0 G' μ' r.2.2 A'/\jE A' G' μ' nt r.2.1 a') \/
   (∃ ex' F' H' pre' G' μ',kx ex' F' H'=some ()/\e=ex'.to/\Sg (Jx pre') G0 G' μ' H' A'/\jE A' G' μ' nt F' a')) a A
def a18(P:Program) (nt:Nat) (ks:List Kd) (a:Code) (s:ZI (Value×aH ks)):Prop :=
 ∀ x ys z,s.run x=some (ys,z)->a8R P nt ks (.loop a) (CP s.sh x 0) (NG s.sh x) ys (GO s.exits z) a9S
def aPH(P:Program)(nt:Nat)(lt:Nat->Option bI)(ks:List Kd)(li:Nat->Option (ZI (Value×aH ks))):Code->Prop
 | .loop a=>(∀ s,lt (cE a)=some s->OZ P nt true [] (.loop a) s)/\(∀ s,li (cE a)=some s->a18 P nt ks a s)
 | _=>True
theorem XX {c:Code}{r:Ex×Frm×Heap}{kx:Ex->Frm->Heap->Option Unit}(h:aW0 P nt true [] c F H r):a8R P nt ks c F H [] r kx:=by
 intro l yv hyv G0 all J Jx hY pre post n a A G μ hall hys hS hF;refine a1Z h hS hF λG' μ' a' A' hS' hF'=>.inl ⟨rfl,G',μ',?_,hF'⟩
 rw[List.map_nil,List.append_nil]; exact hS'
theorem aV0(hcl:fA P (gN P E))(hP:P.follows .mixedOrders=true){α:Type}{id:Nat}{ops:Array Oper}{draw:Bool}{k:Ex->Frm->Heap->Option α}{z:α}(h:IK P E nt ops draw F H (λF H=>aD0 aT F λF=>k .normal F H)=some z)(hd:aAO ops=true) :
  ∃ r:Ex×Frm×Heap,k r.1 r.2.1 r.2.2=some z/\aW0 P nt true [] (.region id ops draw) F H r:=by
 obtain⟨F1,H1,h1,h2⟩:=aPJ (id:=id) hcl hP hd h;obtain⟨F2,h3,h4⟩:=SC aT F1 λF=>k .normal F H1
 rw[h3]at h1;exact⟨(.normal,F2,H1),h1,λ_ _ _ _ _ _ _ _ _ _ hI=>h2 hI λa' w' hd' hI'=>⟨rfl,hI'.a9V h4,λ_=>hd'⟩⟩
theorem aOR(hcl:fA P (gN P E)) {ops:Array Oper} {l:List Oper} (hrun:XR P (gN P E) nt ops.toList l F H=some (F',H')) (hnd:(l.all λo=>!aU8 o.op)=true) {Q:Exit->Act->World->Prop}
  (hS:Sg Φ G0 G μ H A) (hF:jE A G μ nt F a) (hQ:∀ G' μ' a' A',Sg Φ G0 G' μ' H' A'->jE A' G' μ' nt F' a'->Q .normal a' A'):wpListIn Fence.wide n P ops Q l a A:=by
 obtain⟨n0,hW,_,hS2⟩:=hS.open_;have h1:=GD (Q:=λe a' w'=>e=.normal/\I n0 A G μ nt F' H' a' w') hcl l F H a A hrun ⟨G,μ,Ext.refl _ _ _ _,hW,hF⟩ (λa' w' h=>⟨rfl,h⟩);have h2:=aJX (ro:=none) (n:=n) (ds:=[]) (Q':=Q) (λa w h=>by cases h.1) (λe a' w' h=>by
  obtain⟨rfl,G',μ',e,hW',hF'⟩:=h;have e1:zN [] a'=a':=by simp[zN]
  rw[e1];exact hQ G' μ' a' w' (hS2 _ _ _ _ e hW') hF') (λo ho c hc=>by
  have:=List.all_eq_true.1 hnd o ho;rw[hc]at this;cases this) h1
 have e1:zN [] a=a:=by simp[zN]
 rw[e1]at h2;exact h2
theorem a33(hcl:fA P (gN P E)) (hP:P.follows .mixedOrders=true) {α:Type} {id s:Nat} {ops:Array Oper} {draw:Bool} (hsp:aOK ops s=true) {k:Frm->Heap->Option α} {z:α}
  (h:(bif draw then IK P E nt (ops.toList.take s).toArray true F H else R1 P E nt ops.toList (ops.toList.take s) F H) k=some z) :
  ∃ F1 H1,k F1 H1=some z/\∀ {Φ:(Nat->Prop)->(Nat->Prop)->World->Prop} {G0 G:Gd} {μ:Mp} {A:World} {a:Act} {n:Nat} {Q:Exit->Act->World->Prop},Sg Φ G0 G μ H A->jE A G μ nt F a ->
   (∀ G' μ' a' A',Sg Φ G0 G' μ' H1 A'->jE A' G' μ' nt F1 a'->wpListIn Fence.wide n P ops Q (ops.toList.drop s) a' A')->(Code.region id ops draw).wpIn Fence.wide n P Q a A:=by
 obtain⟨F1,H1,hrun,hk⟩:∃ F1 H1,(bif draw then aAA P (gN P E) nt (ops.toList.take s).toArray F H else XR P (gN P E) nt ops.toList (ops.toList.take s) F H)=some (F1,H1)/\k F1 H1=some z:=by
  cases draw with
  | true =>
   simp only[oC]at h ⊢;exact ZQ h
  | false =>
   simp only[oD]at h ⊢;obtain⟨F1,H1,h2,h3⟩:=C8 h;exact⟨F1,H1,h2,h3⟩
 refine⟨F1,H1,hk,?_⟩;intro Φ G0 G μ A a n Q hS hF hQ;obtain⟨n0,hW,_,hS2⟩:=hS.open_;have:=aVE (ro:=none) (n:=n) (ds:=[]) (Q:=Q) hcl hP (id:=id) hsp hrun (n0:=n0) (wi:=A) (Gi:=G) (μi:=μ) (a:=a) (w:=A) ⟨G,μ,Ext.refl _ _ _ _,hW,hF⟩ (λa' w' h=>by
  obtain⟨G',μ',e,hW',hF'⟩:=h;have e1:zN [] a'=a':=by simp[zN]
  rw[e1];exact hQ G' μ' a' w' (hS2 _ _ _ _ e hW') hF')
 have e1:zN [] a=a:=by simp[zN]
 rw[e1]at this;exact this
theorem a5J {l:List Operand}(hF:jE A G μ nt F a):VRs A G μ (l.map (ev F)) (l.map a.eval):=by
 induction l with
 | nil=>rw[List.map_nil,List.map_nil,VRs]
 | cons x l ih =>
  rw[List.map_cons,List.map_cons,VRs];exact⟨_,_,rfl,dJ hF x,ih⟩
theorem B6 {α:Type}(hcl:fA P (gN P E))(hP:P.follows .mixedOrders=true):∀ (c:Code) (F:Frm) (H:Heap) (k:Ex->Frm->Heap->Option (List (Value×aH ks)×α)) (kx:Ex->Frm->Heap->Option Unit) (ys:List (Value×aH ks)) (z:α),
  (∀ F H,kx .ret F H=some ())->(∀ a∈fG c,aPH P nt lt ks li a)->N8 P E nt aT lt ks li c F H k kx=some (ys,z) ->
  ∃ ys1 ys2 r,k r.1 r.2.1 r.2.2=some (ys2,z)/\ys=ys1++ys2/\a8R P nt ks c F H ys1 r kx
 | .skip,F,H,k,kx,ys,z,hx,hl,h=>⟨[],ys,(.normal,F,H),h,rfl,XX λ_ _ _ _ _ _ _ _ _ _ hI=>wpIn_skip ⟨rfl,hI,λ_=>rfl⟩⟩
 | .label l,F,H,k,kx,ys,z,hx,hl,h=>⟨[],ys,(.normal,F,H),h,rfl,XX λ_ _ _ _ _ _ _ _ _ _ hI=>wpIn_label ⟨rfl,hI,λ_=>rfl⟩⟩
 | .exit id,F,H,k,kx,ys,z,hx,hl,h=>⟨[],ys,(.exit id,F,H),h,rfl,XX λ_ _ _ _ _ _ _ _ _ _ hI=>wpIn_exit ⟨rfl,hI,λ_=>rfl⟩⟩
 | .ret,F,H,k,kx,ys,z,hx,hl,h=>⟨[],ys,(.ret,F,H),h,rfl,XX λ_ _ _ _ _ _ _ _ _ _ hI=>wpIn_ret ⟨rfl,hI,λ_=>rfl⟩⟩
 | .region id ops draw,F,H,k,kx,ys,z,hx,hl,h=>by
  simp only[N8]at h;split at h
  ·obtain⟨hd,h⟩:=aM h;obtain⟨r,h1,h2⟩:=aV0 (id:=id) hcl hP h hd;exact⟨[],ys,r,h1,rfl,XX h2⟩
  ·rename_i s hs;obtain⟨hsp,h⟩:=aM h;split at h
   ·rename_i o rest hdrop;obtain⟨hnd,h⟩:=aM h;obtain⟨F1,H1,hk,hsplit⟩:=a33 (id:=id) hcl hP hsp h;unfold bCG at hk;obtain⟨b,hg,hk⟩:=aMX hk;cases b with
    | true =>
     simp only[oC]at hk;split at hk
     ·rename_i c hoc;split at hk
      ·rename_i f hcf;split at hk
       ·rename_i yv hyv;obtain⟨hnr,hk⟩:=aM hk;rw[oA]at hnr;obtain⟨hnr,hplk⟩:=hnr;split at hk
        ·rename_i e he;split at hk
         ·rename_i F2 F3 hp2 hp3;split at hk
          ·rename_i u hstop;obtain⟨ys2,hlive,rfl⟩:=aL1 hk;obtain⟨F4,H4,hrun4,hk4⟩:=C8 hlive;obtain⟨F5,H5,hrun5,hk5⟩:=C8 hstop;obtain⟨F6,h6,h7⟩:=SC aT F4 λF=>k .normal F H4
           rw[h6]at hk4;refine⟨[(yv,e)],ys2,(.normal,F6,H4),hk4,rfl,?_⟩;intro l yv' hyv' G0 all J Jx hY pre post n a A G μ hall hys hS hF;have hyy:=hys _ (List.mem_singleton.2 rfl);dsimp only at hyy;subst hyy;refine hsplit hS hF λG1 μ1 a1 A1 hS1 hF1=>?_
           rw[hdrop];have hw:=DV hF1 hg;have hv:=a5J (l:=c.args.toList) hF1;have hv0:=dT _ _ hnr hv;have hve:=LM ks he hv0;have hfe:=dJ hF1 f;rw[hyv,VR]at hfe;have hall':all=pre++e::post:=by rw[hall]; rfl
           refine a5W hoc hcf hw (hfe.trans hyv') (us:=(c.args.toList.map a1.eval).toArray) (by rw[<- Array.toList_map]) (λm'=>hS1.yield hY hall' hve (aP1 ks e hplk) m') ?_;rintro en C ⟨hmo,hout⟩;rcases hout with ⟨rfl,hS2⟩|⟨rfl,hS2⟩
           ·refine⟨_,rfl,aOR hcl hrun4 hnd hS2 ((hF1.mono hmo).aPO hp2 (by rw[VR])) λG2 μ2 a2 A2 hS3 hF3=>.inl ⟨rfl,G2,μ2,hS3,?_⟩⟩;exact⟨hF3.size,λt=>by
             rcases h7 t with h8|h8
             ·rw[h8]; exact hF3.slot t
             ·rw[h8,VR]; trivial,hF3.defers⟩
           ·exact⟨_,rfl,aOR hcl hrun5 hnd hS2 ((hF1.mono hmo).aPO hp3 (by rw[VR])) λG2 μ2 a2 A2 hS3 hF3=>.inr ⟨.normal,F5,H5,_,G2,μ2,hk5,rfl,hS3,hF3⟩⟩
          ·cases hk
         ·cases hk
        ·cases hk
       ·cases hk
      ·cases hk
     ·cases hk
    | false =>
     simp only[oD]at hk;split at hk
     ·rename_i F2 hp2;obtain⟨F4,H4,hrun4,hk4⟩:=C8 hk;obtain⟨F6,h6,h7⟩:=SC aT F4 λF=>k .normal F H4
      rw[h6]at hk4;refine⟨[],ys,(.normal,F6,H4),hk4,rfl,?_⟩;intro l yv' hyv' G0 all J Jx hY pre post n a A G μ hall hys hS hF;refine hsplit hS hF λG1 μ1 a1 A1 hS1 hF1=>?_
      rw[hdrop];refine a9P (DV hF1 hg) (aOR hcl hrun4 hnd hS1 (hF1.aPO hp2 (by rw[VR])) λG2 μ2 a2 A2 hS3 hF3=>.inl ⟨rfl,G2,μ2,?_,?_⟩)
      ·rw[List.map_nil,List.append_nil]; exact hS3
      ·exact⟨hF3.size,λt=>by
        rcases h7 t with h8|h8
        ·rw[h8]; exact hF3.slot t
        ·rw[h8,VR]; trivial,hF3.defers⟩
     ·cases hk
   ·cases h
 | .seq x y,F,H,k,kx,ys,z,hx,hl,h=>by
  simp only[N8]at h;obtain⟨ys1,ys2,⟨ex,F1,H1⟩,h1,rfl,h2⟩:=B6 hcl hP x F H _ _ ys z (by intro F H; exact hx F H) (λa ha=>hl a (by simp[fG,ha])) h;have stop:∀ {l:Nat} {yv:Value} {G0:Gd} {all:List (aH ks)} {J Jx:List (aH ks)->(Nat->Prop)->(Nat->Prop)->World->Prop} {n:Nat} {R:Exit->Act->World->Prop},
    (∀ e a' A',(∃ ex' F' H' pre' G' μ',kx ex' F' H'=some ()/\e=ex'.to/\Sg (Jx pre') G0 G' μ' H' A'/\jE A' G' μ' nt F' a')->R e a' A')->∀ ex' F' H' pre' G' μ' a' A',
    (match ex' with
     | Ex.normal=>FG P E nt aT lt (λ_=>none) true [] y F' H' kx
     | Ex.exit i=>kx (Ex.exit i) F' H'
     | Ex.ret=>kx Ex.ret F' H')=some ()->Sg (Jx pre') G0 G' μ' H' A'->jE A' G' μ' nt F' a' ->
    Exit.then (y.wpIn Fence.wide n P R) R ex'.to a' A':=by
   intro l yv G0 all J Jx n R hR ex' F' H' pre' G' μ' a' A' hm hS hF;cases ex' with
   | normal =>
    obtain⟨r,h3,h4⟩:=oW hcl hP y F' H' kx () (λa ha=>by
     have:=hl a (by simp[fG,ha]);cases a with
     | loop b=>exact this.1
     | rangeFunc g ps as1 b=>intro h; cases h
     | _=>trivial) hm
    refine a1Z h4 hS hF λG2 μ2 a2 A2 hS2 hF2=>hR _ _ _ ⟨r.1,r.2.1,r.2.2,pre',G2,μ2,h3,rfl,hS2,hF2⟩
   | exit i=>exact hR _ _ _ ⟨.exit i,F',H',pre',G',μ',hm,rfl,hS,hF⟩
   | ret=>exact hR _ _ _ ⟨.ret,F',H',pre',G',μ',hm,rfl,hS,hF⟩
  cases ex with
  | normal =>
   obtain⟨ys3,ys4,r,h3,rfl,h4⟩:=B6 hcl hP y F1 H1 k kx ys2 z hx (λa ha=>hl a (by simp[fG,ha])) h1;refine⟨ys1++ys3,ys4,r,h3,by rw[List.append_assoc],?_⟩;intro l yv hyv G0 all J Jx hY pre post n a A G μ hall hys hS hF;refine wpIn_seq (wpIn_mono (h2 l yv hyv G0 all J Jx hY pre (ys3.map (·.2)++post) n a A G μ (by rw[hall,List.map_append,List.append_assoc]) (λy hy=>hys y (List.mem_append_left _ hy)) hS hF) ?_)
   rintro e a' w' (⟨rfl,G',μ',hS',hF'⟩|⟨ex',F',H',pre',G',μ',hm,rfl,hS',hF'⟩)
   ·refine wpIn_mono (h4 l yv hyv G0 all J Jx hY (pre++ys1.map (·.2)) post n a' w' G' μ' (by rw[hall,List.map_append,List.append_assoc,List.append_assoc]) (λy hy=>hys y (List.mem_append_right _ hy)) hS' hF') ?_;rintro e a'' w'' (⟨rfl,G2,μ2,hS2,hF2⟩|hst)
    ·refine .inl ⟨rfl,G2,μ2,?_,hF2⟩;rw[List.map_append,<- List.append_assoc]; exact hS2
    ·exact .inr hst
   ·exact stop (l:=l) (yv:=yv) (all:=all) (J:=J) (λe a' A' h=>Or.inr h) ex' F' H' pre' G' μ' a' w' hm hS' hF'
  | exit i =>
   refine⟨ys1,ys2,(.exit i,F1,H1),h1,rfl,?_⟩;intro l yv hyv G0 all J Jx hY pre post n a A G μ hall hys hS hF;refine wpIn_seq (wpIn_mono (h2 l yv hyv G0 all J Jx hY pre post n a A G μ hall hys hS hF) ?_);rintro e a' w' (⟨rfl,G',μ',hS',hF'⟩|⟨ex',F',H',pre',G',μ',hm,rfl,hS',hF'⟩)
   ·exact .inl ⟨rfl,G',μ',hS',hF'⟩
   ·exact stop (l:=l) (yv:=yv) (all:=all) (J:=J) (λe a' A' h=>Or.inr h) ex' F' H' pre' G' μ' a' w' hm hS' hF'
  | ret =>
   refine⟨ys1,ys2,(.ret,F1,H1),h1,rfl,?_⟩;intro l yv hyv G0 all J Jx hY pre post n a A G μ hall hys hS hF;refine wpIn_seq (wpIn_mono (h2 l yv hyv G0 all J Jx hY pre post n a A G μ hall hys hS hF) ?_);rintro e a' w' (⟨rfl,G',μ',hS',hF'⟩|⟨ex',F',H',pre',G',μ',hm,rfl,hS',hF'⟩)
   ·exact .inl ⟨rfl,G',μ',hS',hF'⟩
   ·exact stop (l:=l) (yv:=yv) (all:=all) (J:=J) (λe a' A' h=>Or.inr h) ex' F' H' pre' G' μ' a' w' hm hS' hF'
 | .cond c x y,F,H,k,kx,ys,z,hx,hl,h=>by
  simp only[N8]at h;split at h
  ·rename_i t ht;replace h:=YY h ht;have hc:∀ {A:World} {G:Gd} {μ:Mp} {a:Act},jE A G μ nt F a->a.eval c=.bool t:=λ{A G μ a} hF=>by
    have hc:=dJ hF c;rw[ht,VR]at hc;exact hc
   cases t with
   | true =>
    obtain⟨ys1,ys2,r,h3,h4,h5⟩:=B6 hcl hP x F H k kx ys z hx (λa ha=>hl a (by simp[fG,ha])) h;exact⟨ys1,ys2,r,h3,h4,λl yv hyv G0 all J Jx hY pre post n a A G μ hall hys hS hF=>wpIn_cond (hc hF) (h5 l yv hyv G0 all J Jx hY pre post n a A G μ hall hys hS hF)⟩
   | false =>
    obtain⟨ys1,ys2,r,h3,h4,h5⟩:=B6 hcl hP y F H k kx ys z hx (λa ha=>hl a (by simp[fG,ha])) h;exact⟨ys1,ys2,r,h3,h4,λl yv hyv G0 all J Jx hY pre post n a A G μ hall hys hS hF=>wpIn_cond (hc hF) (h5 l yv hyv G0 all J Jx hY pre post n a A G μ hall hys hS hF)⟩
  ·cases h
 | .block id x,F,H,k,kx,ys,z,hx,hl,h=>by
  simp only[N8]at h;obtain⟨ys1,ys2,⟨ex,F1,H1⟩,h1,rfl,h2⟩:=B6 hcl hP x F H _ _ ys z (by intro F H; exact hx F H) (λa ha=>hl a (by simp[fG,ha])) h;have stop:∀ (ex':Ex) (F':Frm) (H':Heap),(match ex' with
     | Ex.exit i=>bif Nat.beq i id then kx .normal F' H' else kx (.exit i) F' H'
     | Ex.normal=>kx Ex.normal F' H'
     | Ex.ret=>kx Ex.ret F' H')=some ()->∃ ex2:Ex,kx ex2 F' H'=some ()/\∀ (Q:Exit->Act->World->Prop) a w,Q ex2.to a w->ex'.to.inBlock id Q a w:=by
   intro ex' F' H' hm;cases ex' with
   | normal=>exact⟨.normal,hm,λQ a w h=>h⟩
   | ret=>exact⟨.ret,hm,λQ a w h=>h⟩
   | exit i =>
    simp only at hm;cases hi:Nat.beq i id with
    | true =>
     rw[hi]at hm;have:=oE hi;subst this;exact⟨.normal,hm,λQ a w h=>by simp only[Ex.to,Exit.inBlock,if_true]; exact h⟩
    | false =>
     rw[hi]at hm;have hne:¬ i=id:=λe=>by rw[e]at hi; simp at hi
     exact⟨.exit i,hm,λQ a w h=>by simp only[Ex.to,Exit.inBlock,hne,if_false]; exact h⟩
  have live:∃ ex2:Ex,k ex2 F1 H1=some (ys2,z)/\∀ (Q:Exit->Act->World->Prop) a w,Q ex2.to a w->ex.to.inBlock id Q a w:=by
   cases ex with
   | normal=>exact⟨.normal,h1,λQ a w h=>h⟩
   | ret=>exact⟨.ret,h1,λQ a w h=>h⟩
   | exit i =>
    simp only at h1;cases hi:Nat.beq i id with
    | true =>
     rw[hi]at h1;have:=oE hi;subst this;exact⟨.normal,h1,λQ a w h=>by simp only[Ex.to,Exit.inBlock,if_true]; exact h⟩
    | false =>
     rw[hi]at h1;have hne:¬ i=id:=λe=>by rw[e]at hi; simp at hi
     exact⟨.exit i,h1,λQ a w h=>by simp only[Ex.to,Exit.inBlock,hne,if_false]; exact h⟩
  obtain⟨ex2,hk2,hex2⟩:=live;refine⟨ys1,ys2,(ex2,F1,H1),hk2,rfl,?_⟩;intro l yv hyv G0 all J Jx hY pre post n a A G μ hall hys hS hF;refine wpIn_block (wpIn_mono (h2 l yv hyv G0 all J Jx hY pre post n a A G μ hall hys hS hF) ?_);rintro e a' w' (⟨rfl,G',μ',hS',hF'⟩|⟨ex',F',H',pre',G',μ',hm,rfl,hS',hF'⟩)
  ·exact hex2 _ _ _ (Or.inl ⟨rfl,G',μ',hS',hF'⟩)
  ·obtain⟨ex3,h3,h4⟩:=stop ex' F' H' hm;exact h4 _ _ _ (Or.inr ⟨ex3,F',H',pre',G',μ',h3,rfl,hS',hF'⟩)
 | .loop x,F,H,k,kx,ys,z,hx,hl,h=>by
  simp only[N8]at h;have hsub:=hl (.loop x) (by simp[fG]);split at h
  ·rename_i s hs;split at h
   ·rename_i x0 hx0;unfold a14 at h;split at h
    ·rename_i ys1 z1 hr;obtain⟨ys2,h1,rfl⟩:=aL1 h;refine⟨ys1,ys2,GO s.exits z1,SB h1,rfl,?_⟩;intro l yv hyv G0 all J Jx hY pre post n a A G μ hall hys hS hF;obtain⟨n0,hW,_,hS2⟩:=hS.a5Y;have e0:Ext n0 A G aL A G μ:={ good:=λ_ h=>⟨h,rfl⟩,map:=λ_ _ h=>(by cases h),len:=λ_ _ h=>(by cases h),room:=λ_ _ h=>h,row:=λ_ _ h=>h,os:=rfl,tape:=rfl,output:=rfl,size:=Nat.le_refl _,old:=λ_ _ _=>rfl,new:=λ_ h=>.inl h }
     obtain⟨G1,μ1,e1,hW1,hF1⟩:=LC hx0 (λr _=>⟨rfl,rfl⟩) (⟨G,μ,e0,hW,hF⟩:I n0 A G aL nt F H a A);refine wpIn_mono (hsub.2 s hs x0 ys1 z1 hr l yv hyv G0 all J Jx hY pre post n a A G1 μ1 hall hys (hS2 _ _ _ _ e1 hW1) hF1) ?_;rintro e a' w' (h|⟨ex',F',H',pre',G',μ',hm,rfl,hS',hF'⟩)
     ·exact .inl h
     ·refine .inr ⟨ex',F',H',pre',G',μ',?_,rfl,hS',hF'⟩;cases ex' with
      | ret=>exact hx F' H'
      | normal=>cases hm
      | exit i=>cases hm
    ·cases h
   ·cases h
  ·split at h
   ·rename_i s hs;split at h
    ·rename_i x0 hx0;obtain⟨y,h1,h2⟩:=AE h;refine⟨[],ys,GO s.exits y,SB h2,rfl,XX λro n n0 wi Gi μi a w hro hfl hI=>?_⟩;exact hsub.1 s hs x0 y h1 ro n n0 wi Gi μi a w hro hfl (hI.dec hfl hx0)
    ·cases h
   ·cases h
 | .scope x,F,H,k,kx,ys,z,hx,hl,h=>by simp only[N8]at h; cases h
 | .rangeFunc g ps as1 x,F,H,k,kx,ys,z,hx,hl,h=>by simp only[N8]at h; cases h
 | .goto l,F,H,k,kx,ys,z,hx,hl,h=>by simp only[N8]at h; cases h
 | .refuse s,F,H,k,kx,ys,z,hx,hl,h=>by simp only[N8]at h; cases h
theorem aSU {Y:Type}{sh:List (Nat×Kd)}{exits:List (Ex×List (Nat×Kd))}{ex:Ex}{F:Frm}{H:Heap}{l:List Y}{y:Shape.den sh⊕aS exits}(h:a56 sh exits ex F H=some (l,y)):l=[]/\aML [] sh exits ex F H=some y:=by
 unfold a56 at h;split at h
 ·rename_i z hz;simp only[oJ,oP]at h;obtain⟨h1,h2⟩:=h;subst h2;exact⟨h1.symm,hz⟩
 ·cases h
theorem a2B {F1:Frm} {H1:Heap} (hs:∀ {n0:Nat->Prop},I n0 A G aL nt F H a A->I n0 A G aL nt F1 H1 a A) (hS:Sg Φ G0 G μ H A) (hF:jE A G μ nt F a):∃ G' μ',Sg Φ G0 G' μ' H1 A/\jE A G' μ' nt F1 a:=by
 obtain⟨n0,hW,_,hS2⟩:=hS.a5Y;have e0:Ext n0 A G aL A G μ:={ good:=λ_ h=>⟨h,rfl⟩,map:=λ_ _ h=>(by cases h),len:=λ_ _ h=>(by cases h),room:=λ_ _ h=>h,row:=λ_ _ h=>h,os:=rfl,tape:=rfl,output:=rfl,size:=Nat.le_refl _,old:=λ_ _ _=>rfl,new:=λ_ h=>.inl h };obtain⟨G1,μ1,e1,hW1,hF1⟩:=hs ⟨G,μ,e0,hW,hF⟩;exact⟨G1,μ1,hS2 _ _ _ _ e1 hW1,hF1⟩
theorem aWN:∀ {l:List (Ex×List (Nat×Kd))} {z:aS l} {ex:Ex},XQ [] l ex F H=some z->(GO l z).1=ex/\∀ {n0:Nat->Prop},I n0 A G aL nt F H a A->I n0 A G aL nt (GO l z).2.1 (GO l z).2.2 a A:=by
 intro l z ex h;obtain⟨h1,sh,x,h2,h3,h4⟩:=RY h;refine⟨h1,λhI=>?_⟩;rw[h3,h4];exact LC h2 (λr _=>⟨rfl,rfl⟩) hI
theorem a77(hcl:fA P (gN P E)) (hP:P.follows .mixedOrders=true) {b:Code} {sh:List (Nat×Kd)} {exits:List (Ex×List (Nat×Kd))} {step:Shape.den sh->Option (List (Value×aH ks)×(Shape.den sh⊕aS exits))} (L:Nat)
  (hl:∀ a∈fG b,aPH P nt lt ks li a) (hr:∀ x,a6O P E nt aT lt ks li b sh exits x=step x):a18 P nt ks b ⟨sh,exits,aMN step L⟩:=by
 intro x ys z hz l yv hyv G0 all J Jx hY pre post n a A G μ hall hys hS hF;refine wpIn_loop_ghost (λk a A=>∃ pre1 ys1 x G μ,aMN step k x=some (ys1,z)/\pre++ys.map (·.2)=pre1++ys1.map (·.2)/\(∀ y∈ys1,y.1=yv)/\Sg (J pre1) G0 G μ (NG sh x) A/\jE A G μ nt (CP sh x 0) a) L ⟨pre,ys,x,G,μ,hz,rfl,hys,hS,hF⟩ ?_;rintro k a1 A1 ⟨pre1,ys1,x,G,μ,hz,hpre,hys1,hS,hF⟩;cases k with
 | zero=>cases hz
 | succ k =>
  simp only[aMN]at hz;have hall1:all=pre1++(ys1.map (·.2)++post):=by rw[hall,<- List.append_assoc,hpre,List.append_assoc]
  split at hz
  ·rename_i m y hs;obtain⟨m2,hz2,rfl⟩:=aL1 hz;rw[<- hr]at hs;obtain⟨y1,y2,⟨ex,F',H'⟩,h1,h2,h3⟩:=B6 hcl hP b _ _ _ a9S m _ (λ_ _=>rfl) hl hs;obtain⟨e1,h4⟩:=aSU h1;clear h1;subst e1;rw[List.append_nil]at h2;subst h2;refine wpIn_mono (h3 l yv hyv G0 all J Jx hY pre1 (m2.map (·.2)++post) n a1 A1 G μ (by rw[hall1,List.map_append,List.append_assoc]) (λy hy=>hys1 y (List.mem_append_left _ hy)) hS hF) ?_;rintro e a' A' (⟨rfl,G',μ',hS',hF'⟩|⟨ex',F',H',pre',G',μ',hm,rfl,hS',hF'⟩)
   ·rcases ZD h4 with ⟨y',e1,e2,e3⟩|⟨z',e1,_,_⟩
    ·cases e1;dsimp only at e2;subst e2;obtain⟨G2,μ2,hS2,hF2⟩:=a2B (λhI=>LC e3 (λr _=>⟨rfl,rfl⟩) hI) hS' hF';exact⟨k,by omega,_,m2,y,G2,μ2,hz2,by rw[hpre,List.map_append,List.append_assoc],λy hy=>hys1 y (List.mem_append_right _ hy),hS2,hF2⟩
    ·cases e1
   ·cases ex' with
    | ret=>exact .inr ⟨.ret,F',H',pre',G',μ',rfl,rfl,hS',hF'⟩
    | normal=>cases hm
    | exit i=>cases hm
  ·rename_i m y hs;simp only[oJ,oP]at hz;obtain⟨rfl,rfl⟩:=hz;rw[<- hr]at hs;obtain⟨y1,y2,⟨ex,F',H'⟩,h1,h2,h3⟩:=B6 hcl hP b _ _ _ a9S m _ (λ_ _=>rfl) hl hs;obtain⟨e1,h4⟩:=aSU h1;clear h1;subst e1;rw[List.append_nil]at h2;subst h2;refine wpIn_mono (h3 l yv hyv G0 all J Jx hY pre1 post n a1 A1 G μ hall1 hys1 hS hF) ?_;rintro e a' A' (⟨rfl,G',μ',hS',hF'⟩|⟨ex',F',H',pre',G',μ',hm,rfl,hS',hF'⟩)
   ·rcases ZD h4 with ⟨y',e1,e2,e3⟩|⟨z',e1,e2,e3⟩
    ·cases e1
    ·cases e1;dsimp only at e2 e3;obtain⟨h5,h6⟩:=aWN (A:=A') (G:=G') (a:=a') (nt:=nt) e3;obtain⟨G2,μ2,hS2,hF2⟩:=a2B (λhI=>h6 hI) hS' hF';have hout:(Exit.normal≠ex.to->True):=λ_=>trivial
     cases ex with
     | normal=>exact absurd rfl e2
     | exit i=>exact .inl ⟨by rw[h5],G2,μ2,by rw[hpre]; exact hS2,hF2⟩
     | ret=>exact .inl ⟨by rw[h5],G2,μ2,by rw[hpre]; exact hS2,hF2⟩
   ·cases ex' with
    | ret=>exact .inr ⟨.ret,F',H',pre',G',μ',rfl,rfl,hS',hF'⟩
    | normal=>cases hm
    | exit i=>cases hm
  ·cases hz
def a6J(P:Program) (E:Env) (fn:Func) (aT:Nat) (lt:Nat->Option bI) (ks:List Kd) (li:Nat->Option (ZI (Value×aH ks))) (c:Code) (ts:List Ty) (yv:Value) (x:U0 ts):Option (List (Value×aH ks)) :=
 bif Nat.ble (1+(aAY ts x).length) fn.ntmps then a8Y (N8 P E fn.ntmps aT lt ks li c (start aT 0 (.lit yv::aAY ts x)) [] (λex _ _=>match ex with
  | .exit _=>none
  | _=>some ([],())) (λex _ _=>match ex with
  | .exit _=>none
  | _=>some ())) else none
theorem a9G(hP:UB P) (hE:aY P E) {g:Nat} {fn:Func} (hg:P.funcs[g]?=some fn) {c:Code} (hc:fn.body=some c) (hres:fn.results=#[]) {ts:List Ty} {f:U0 ts->Option (List (aH ks))}
  (hl:∀ a∈fG c,aPH P fn.ntmps lt ks li a) (hb:∀ yv x all,f x=some all->a6J P E fn aT lt ks li c ts yv x=some (all.map λe=>(yv,e))):aP4 P g ts ks f:=by
 intro x all hall m l W G vs hlt hvs J Jx hY hJ;obtain⟨yv,hyv⟩:∃ yv:Value,yv=.func (.yield l) #[] #[]:=⟨_,rfl⟩;have hbx:=hb yv x all hall;unfold a6J at hbx;obtain⟨hlen,hbx⟩:=aM hbx;unfold a8Y at hbx;split at hbx
 ·rename_i l0 u hex;have hl0:=Option.some.inj hbx;obtain⟨ys1,ys2,⟨ex,F',H'⟩,h1,h2,h3⟩:=B6 hE.callee hP.mixed c _ _ _ _ _ _ (λ_ _=>rfl) hl hex;have hex:(ex=.normal\/ex=.ret)/\ys2=[]:=by
   cases ex with
   | exit i=>cases h1
   | normal =>
    simp only[oJ,oP]at h1;exact⟨.inl rfl,h1.1.symm⟩
   | ret =>
    simp only[oJ,oP]at h1;exact⟨.inr rfl,h1.1.symm⟩
  obtain⟨hex,rfl⟩:=hex;rw[List.append_nil]at h2;subst h2;have hys:∀ y∈l0,y.1=yv:=by
   intro y hy;rw[hl0]at hy;obtain⟨e,-,rfl⟩:=List.mem_map.1 hy;rfl
  have hmap:l0.map (·.2)=all:=by
   rw[hl0,List.map_map];exact List.map_id all
  refine callsIn_of_wp hg hc trivial ?_ rfl;have hargs:VRs W (Gd.of G) aL (.lit yv::aAY ts x) ((#[.func (.yield l) #[] #[]]:Array Value)++vs.toArray).toList:=by
   rw[<- hyv];simp only[Array.toList_append,List.cons_append,List.nil_append];rw[VRs];exact⟨yv,vs,rfl,by rw[VR],hvs⟩
  have hF0:=EX (m:=aT) (n:=fn.ntmps) hargs (by simpa[Nat.add_comm]using oL hlen);have hS0:Sg (J []) (Gd.of G) (Gd.of G) aL [] W:=Sg.start hlt hJ;have post:∀ (ex:Exit) (a:Act) (A:World),(ex=.normal\/ex=.ret)->a.defers=[]->∀ (T X:Nat->Prop) (B:World),Stp X B A->(J all T X B\/∃ pre,Jx pre T X B) ->
    bodyPost P fn (λen C=>(∃ v,en=.returned v)/\∃ T X B,Stp X B C/\(J all T X B\/∃ pre,Jx pre T X B)) ex a A:=by
   intro ex a A hex hd T X B hst hj;have hr:(results fn a.tmps).run P A=.ok (.tuple #[]) A:=by simp[results,hres]
   rcases hex with rfl|rfl
   ·exact⟨hd,_,hr,⟨_,rfl⟩,T,X,B,hst,hj⟩
   ·exact⟨hd,_,hr,⟨_,rfl⟩,T,X,B,hst,hj⟩
  refine wpIn_mono (h3 l yv hyv (Gd.of G) all J Jx hY [] [] m _ W (Gd.of G) aL (by rw[hmap]; simp) hys hS0 hF0) ?_;rintro e a' A' (⟨rfl,G',μ',hS',hF'⟩|⟨ex',F',H',pre',G',μ',hm,rfl,hS',hF'⟩)
  ·obtain⟨T,X,B,hst,hj⟩:=hS'.stp;rw[List.nil_append,hmap]at hj;refine post _ a' A' ?_ hF'.defers T X B hst (.inl hj);rcases hex with rfl|rfl
   ·exact .inl rfl
   ·exact .inr rfl
  ·obtain⟨T,X,B,hst,hj⟩:=hS'.stp;refine post _ a' A' ?_ hF'.defers T X B hst (.inr ⟨_,hj⟩);cases ex' with
   | normal=>exact .inl rfl
   | ret=>exact .inr rfl
   | exit i=>cases hm
 ·cases hbx
theorem a7R {a:Code}{i:Nat}{s0:ZI (Value×aH ks)}(hf:cE a=i)(hlt:lt i=none)(hli:li i=some s0)(h:a18 P nt ks a s0):aPH P nt lt ks li (.loop a):=by
 refine⟨λs hs=>?_,λs hs=>?_⟩
 ·rw[hf,hlt]at hs;cases hs
 ·rw[hf,hli]at hs;cases hs;exact h
def aQW(P:Program)(nt:Nat)(lt:Nat->Option bI)(ks:List Kd)(li:Nat->Option (ZI (Value×aH ks))):List Code->Prop
 | []=>True
 | c::r=>aPH P nt lt ks li c/\aQW P nt lt ks li r
theorem aKD:∀ {l:List Code},aQW P nt lt ks li l->∀ a∈l,aPH P nt lt ks li a
 | [],_,a,ha=>by cases ha
 | c::r,h,a,ha=>by
  rcases List.mem_cons.1 ha with rfl|ha
  ·exact h.1
  ·exact aKD h.2 a ha
theorem aYW {c:Code}{l:List Code}(hc:fG c=l)(h:aQW P nt lt ks li l):∀ a∈fG c,aPH P nt lt ks li a:=by rw[hc]; exact aKD h
end
end Go.PM
namespace Go.PM
open Go
theorem aP(i:Int)(n:Nat):aJ i n=decide (0<=i/\i<n):=by
 cases i with
 | ofNat m =>
  show Nat.blt m n=_;rw[cV]
  by_cases h:m<n
  ·rw[oT h,oT]; exact⟨Int.natCast_nonneg m,Int.ofNat_lt.2 h⟩
  ·rw[oF h,oF]; rintro⟨-,h2⟩; exact h (Int.ofNat_lt.1 h2)
 | negSucc m =>
  show false=_;rw[oF]; rintro⟨h,-⟩; exact absurd h (by omega)
theorem gG(m n:Nat):Nat.ble m n=decide (m<=n):=by
 cases h:Nat.ble m n with
 | true=>exact(oT (oL h)).symm
 | false =>
  refine(oF λhl=>?_).symm;rw[Nat.ble_eq_true_of_le hl]at h;cases h
theorem wrap64 {x:Int}(h1 : -9223372036854775808<=x)(h2:x<9223372036854775808):aB .i64 x=x:=by
 cases x with
 | ofNat m =>
  have:m<9223372036854775808:=by have:(m:Int)<9223372036854775808:=h2; omega
  unfold aB;simp only[cV,oT this,oC]
 | negSucc m =>
  have:m<9223372036854775808:=by omega
  unfold aB;simp only[cV,oT this,oC]
theorem cZ(i:Nat)(h:i<9223372036854775807):aB .i64 ((i:Int)+1)=((i+1:Nat):Int):=by rw[wrap64 (by omega) (by omega)]; rfl
theorem aBD {x:Int}(h1 : -9223372036854775808<=x)(h2:x<9223372036854775808):IntKind.wrap .i64 x=x:=by rw[<- Y4]; exact wrap64 h1 h2
theorem aJ4 {α:Type}(p:Prop) [Decidable p](a b:α):(bif decide p then a else b)=if p then a else b:=by by_cases h:p <;> simp[h]
theorem aE {τ α:Type}(x:τ)(k:τ->Option α):aC (some x) k=k x:=rfl
theorem a83(p:Prop) [Decidable p]:(!decide p)=decide (¬ p):=by by_cases h:p <;> simp[h]
theorem qK {β γ α:Type}(z:β)(f:β->Option α)(g:γ->Option α):zM (.inl z) f g=f z:=rfl
theorem kE {β γ α:Type}(z:γ)(f:β->Option α)(g:γ->Option α):zM (.inr z) f g=g z:=rfl
section
variable {σ τ:Type} {step:σ->Option (σ⊕τ)}
theorem fI(n:Nat)(x:σ):bY step (n+1) x=match step x with
  | some (.inl y)=>bY step n y
  | some (.inr z)=>some z
  | none=>none:=rfl
theorem aM7(F:Nat->σ)(k:Nat):∀ (m j:Nat),(∀ i,j<=i->i<j+m->step (F i)=some (.inl (F (i+1))))->bY step (m+k) (F j)=bY step k (F (j+m))
 | 0,j,_=>by rw[Nat.zero_add,Nat.add_zero]
 | m+1,j,h=>by
  rw[Nat.add_right_comm,fI,h j (Nat.le_refl _) (by omega)];show bY step (m+k) (F (j+1))=_;rw[aM7 F k m (j+1) λi h1 h2=>h i (by omega) (by omega)]
  congr 2; omega
theorem cC {N:Nat} (F:Nat->σ) (m:Nat) (z:τ) (hN:m<N) (h:∀ i,i<m->step (F i)=some (.inl (F (i+1)))) (he:step (F m)=some (.inr z)):bY step N (F 0)=some z:=by
 obtain⟨k,rfl⟩:∃ k,N=m+(k+1):=⟨N-m-1,by omega⟩;rw[aM7 F (k+1) m 0 (λi _ h2=>h i (by omega)),Nat.zero_add,fI,he]
end
open Go Go.RowKit
section
variable {P:Program} {n0:Nat->Prop} {w w':World} {G G':Gd} {μ μ1:Mp} {H H1:Heap}
def XF(μ μ1:Mp)(h:Nat):Mp:=⟨λr=>if r<h then μ.loc r else μ1.loc (r-h),λr=>if r<h then μ.len r else μ1.len (r-h)⟩
theorem DU {h r:Nat}(hr:r<h):(XF μ μ1 h).loc r=μ.loc r/\(XF μ μ1 h).len r=μ.len r:=by simp[XF,hr]
theorem DX {h r:Nat}(hr:h<=r):(XF μ μ1 h).loc r=μ1.loc (r-h)/\(XF μ μ1 h).len r=μ1.len (r-h):=by
 have:¬ r<h:=by omega
 simp[XF,this]
theorem aYF(hW:aW n0 G μ H w)(e:Ext (B5 w) w G.bare aL w' G' μ1):Ext n0 w G μ w' (G'.with G) (XF μ μ1 H.length):={
 good:=e.good
 map:=λr b hr=>by
  rcases Nat.lt_or_ge r H.length with hl|hl
  ·rw[(DU hl).1]; exact hr
  ·rw[(hW.top r hl).1]at hr; cases hr
 len:=λr b hr=>by
  rcases Nat.lt_or_ge r H.length with hl|hl
  ·rw[(DU hl).2]; exact hr
  ·rw[(hW.top r hl).2]at hr; cases hr
 room:=e.room
 row:=λ_ _ h=>h
 os:=e.os
 tape:=e.tape
 output:=e.output
 size:=e.size
 old:=λb hb _=>e.old b hb (Nat.not_le.2 hb)
 new:=λb hb=>by
  rcases e.new b hb with h|h
  ·exact .inl h
  ·exact .inr (hW.base b h) }
theorem a3W(hW:aW n0 G μ H w)(e:Ext (B5 w) w G.bare aL w' G' μ1)(h1:aW (B5 w) G' μ1 H1 w')(ht:ZM H1=true)(hp:∀ (r:Nat) (k:Blk),H1[r]?=some (some k)->fW.noRows k.cells=true/\∀ t l,k.tag≠some ⟨.rows t,l⟩):aW n0 (G'.with G) (XF μ μ1 H.length) (H++H1) w':=by
 have e':=aYF hW e;have key:∀ (r:Nat) (k:Blk),(H++H1)[r]?=some (some k)->(r<H.length/\H[r]?=some (some k))\/(H.length<=r/\H1[r-H.length]?=some (some k)):=by
  intro r k hr;rcases Nat.lt_or_ge r H.length with hl|hl
  ·rw[List.getElem?_append_left hl]at hr; exact .inl ⟨hl,hr⟩
  ·rw[List.getElem?_append_right hl]at hr; exact .inr ⟨hl,hr⟩
 refine⟨?_,?_,?_,h1.lt,?_,λb hb=>hW.base b (Nat.le_trans e.size hb),hW.rows.step e'.toMono.aL e.size (λ_=>rfl) (λj b hj=>?_) (λr k t l hr hg htg=>?_)⟩
 case refine_5 =>
  have hlt:=(hW.rows.sep j b hj).1;refine⟨e.old b hlt (Nat.not_le.2 hlt),λhg=>?_,λr k hr hf hl=>?_⟩
  ·rcases e.new b hg with h|h
   ·exact h
   ·exact absurd hlt (Nat.not_lt.2 h)
  ·rcases key r k hr with ⟨hl2,hr⟩|⟨hl2,hr⟩
   ·rw[(DU hl2).1]at hl; exact⟨r,k,hr,hf,hl⟩
   ·rw[(DX hl2).1]at hl;obtain⟨_,_,_,_,_,a5⟩:=h1.blk _ k b hr hl;exact absurd hlt (Nat.not_lt.2 (a5 hf).1)
 case refine_6 =>
  rcases key r k hr with ⟨hl2,hr⟩|⟨hl2,hr⟩
  ·exact⟨k,hr,rfl,rfl,rfl,(DU hl2).1⟩
  ·exact absurd htg ((hp _ k hr).2 t l)
 ·intro r k b hr hb;rcases key r k hr with ⟨hl,hr⟩|⟨hl,hr⟩
  ·rw[(DU hl).1]at hb;obtain⟨c,a1,a2,a3,a4,a5⟩:=hW.blk r k b hr hb;have hlt:=hW.pH hr hb;have ho:=e.old b hlt (Nat.not_le.2 hlt);refine⟨c,ho.trans a1,aO.mono e'.toMono ho 0 _ a2,a3,λhf=>(e.good b (a4 hf)).1,λhf=>⟨(a5 hf).1,λhg=>?_⟩⟩;rcases e.new b hg with h|h
   ·exact(a5 hf).2 h
   ·omega
  ·rw[(DX hl).1]at hb;obtain⟨c,a1,a2,a3,a4,a5⟩:=h1.blk _ k b hr hb;refine⟨c,a1,?_,a3,a4,λhf=>⟨hW.base b (a5 hf).1,(a5 hf).2⟩⟩;refine xU (G:=G') (G':=G'.with G) (λb h=>h) _ _ _ _ (hp _ k hr).1 ?_;rcases aBF ht hr with hg|hg
   ·obtain⟨g,hg⟩:=Option.isSome_iff_exists.1 hg;have:=(h1.tags _ k g hr hg).1;rw[this]at a2 ⊢;exact sC (kX _ _) a2
   ·exact sC hg a2
 ·intro r k g hr hg;rcases key r k hr with ⟨hl,hr⟩|⟨hl,hr⟩
  ·rw[(DU hl).2]; exact hW.tags r k g hr hg
  ·rw[(DX hl).2]; exact h1.tags _ k g hr hg
 ·intro r s k l b hr hs fk fl m1 m2;rcases key r k hr with ⟨hl,hr⟩|⟨hl,hr⟩ <;> rcases key s l hs with ⟨hl2,hs⟩|⟨hl2,hs⟩
  ·rw[(DU hl).1]at m1;rw[(DU hl2).1]at m2;exact hW.inj r s k l b hr hs fk fl m1 m2
  ·rw[(DU hl).1]at m1;rw[(DX hl2).1]at m2;obtain⟨_,_,_,_,_,a5⟩:=h1.blk _ l b hs m2;have:=hW.pH hr m1;have:=(a5 fl).1;omega
  ·rw[(DX hl).1]at m1;rw[(DU hl2).1]at m2;obtain⟨_,_,_,_,_,a5⟩:=h1.blk _ k b hr m1;have:=hW.pH hs m2;have:=(a5 fk).1;omega
  ·rw[(DX hl).1]at m1;rw[(DX hl2).1]at m2;have:=h1.inj _ _ k l b hr hs fk fl m1 m2;omega
 ·intro r hr;simp only[List.length_append]at hr;have hl:H.length<=r:=by omega
  rw[(DX hl).1,(DX hl).2];exact h1.top _ (by omega)
theorem a8P {r sz:Nat}{v:Value}(h:VR w' G' μ1 (.own r sz) v):VR w' G' (XF μ μ1 H.length) (.own (H.length+r) sz) v:=by
 have e:=DX (μ:=μ) (μ1:=μ1) (h:=H.length) (r:=H.length+r) (by omega);rw[VR]at h ⊢;rw[e.1,e.2,Nat.add_sub_cancel_left];exact h
def aYG(P:Program) (g:FuncId) (args:List Kd) (e:TypeId) (ty:Ty) (f:aH args->Option (List ty.den)):Prop :=
 ∀ x l,f x=some l->∀ {n0 G μ w us},aW n0 G μ [] w->VRs w G μ (oK args x) us->AB P n0 w G μ g us.toArray (.own 0 ty.size) [some ⟨aK ty l,e,true,false,some ⟨ty,l⟩⟩]
def bB2(t:Nat)(e:TypeId)(ty:Ty)(ex:Ex)(F:Frm)(H:Heap):Option (List ty.den):=match ex with
 | .exit _=>none
 | _=>match WD [(t,.own e ty)] F H with
  | some x=>some x.1
  | none=>none
def aXY(P:Program)(E:Env)(fn:Func)(aT:Nat)(lt:Nat->Option bI)(c:Code)(args:List Kd)(t:Nat)(e:TypeId)(ty:Ty)(x:aH args):Option (List ty.den) :=
 bif Nat.ble (oK args x).length fn.ntmps then IB P E fn.ntmps aT lt c (start aT 0 (oK args x)) [] (bB2 t e ty) else none
theorem aV3 {E:Env} (hP:UB P) (hE:aY P E) {g:Nat} {fn:Func} (hg:P.funcs[g]?=some fn) {c:Code} (hc:fn.body=some c) {aT:Nat} {lt:Nat->Option bI} {args:List Kd} {t:Nat} (hr:fn.results.toList=[.tmp t]) {e:TypeId} {ty:Ty} {f:aH args->Option (List ty.den)}
  (hl:∀ a∈cB c,∀ s,lt (cE a)=some s->cN P fn.ntmps a s) (hb:∀ x,aXY P E fn aT lt c args t e ty x=f x):aYG P g args e ty f:=by
 intro x l hy n0 G μ w us hW hv;rw[<- hb]at hy;unfold aXY at hy;obtain⟨hlen,hy⟩:=aM hy;obtain⟨⟨ex,F',H'⟩,h1,h2⟩:=qO hE.callee hP.mixed c _ _ _ _ hl hy;obtain⟨y,hex,hd,hyl⟩:∃ y,(ex=.normal\/ex=.ret)/\WD [(t,.own e ty)] F' H'=some y/\y.1=l:=by
  unfold bB2 at h1;split at h1
  ·cases h1
  ·rename_i hne;split at h1
   ·rename_i y hy;simp only[oJ]at h1;refine⟨y,?_,hy,h1⟩;cases ex with
    | normal=>exact .inl rfl
    | ret=>exact .inr rfl
    | exit i=>exact absurd rfl (hne i)
   ·cases h1
 obtain⟨yl,⟨⟩⟩:=y;dsimp only at hyl;subst hyl;refine⟨enters hg (hP.names g fn hg) (by rw[hc]; rfl) _ _,calls_of_wp hg hc ?_⟩;have hI:I n0 w G μ fn.ntmps (start aT 0 (oK args x)) [] ⟨us.toArray++Array.replicate (fn.ntmps-us.toArray.size) undef,[]⟩ w:=⟨G,μ,Ext.refl _ _ _ _,hW,EX (by simpa using hv) (oL hlen)⟩;refine wp_mono (h2 n0 w G μ _ w (λr=>hW.top r (Nat.zero_le _)) hI) ?_;rintro e0 a' w' ⟨rfl,hI'⟩
 obtain⟨G',μ',e',hW',hF'⟩:=HV hd (λr=>hW.top r (Nat.zero_le _)) hI';have hvs:yB P (CP [(t,.own e ty)] (yl,()) 0) (NG [(t,.own e ty)] (yl,())) fn.results.toList=some [.own 0 ty.size]:=by
  rw[hr];simp[yB,aOD,CP,CU,eQ]
 obtain⟨ws,h3,h4⟩:=vE (P:=P) hW' hF' hvs;have hres:(results fn a'.tmps).run P w'=.ok (if hh:ws.toArray.size=1 then ws.toArray[0] else .tuple ws.toArray) w':=by
  rw[I9,Array.mapM_eq_mapM_toList];simp only[Sem.run_bind,Sem.run_map,h3,Result.andThen_ok,Sem.run_pure]
 have hpost:a'.defers=[]/\∃ v,(results fn a'.tmps).run P w'=.ok v w'/\(∃ v' G'' μ'',Ending.returned v=.returned v'/\Ext n0 w G μ w' G'' μ''/\aW n0 G'' μ'' (NG [(t,.own e ty)] (yl,())) w'/\VR w' G'' μ'' (.own 0 ty.size) v') :=
  ⟨hF'.defers,_,hres,_,G',μ',rfl,e',hW',yZ h4⟩
 rcases hex with rfl|rfl
 ·exact hpost
 ·exact hpost
def a8N(args:List Kd) (e:TypeId) (ty:Ty) (f:aH args->Option (List ty.den)) (qs:List PV) (H:Heap):Option aPK :=
 bif fB.noRefs qs&&(fW.noRows qs&&ty.plain) then match aRH args qs with
  | some x=>some ⟨List ty.den,f x,λl=>(.own H.length ty.size,H++[some ⟨aK ty l,e,true,false,some ⟨ty,l⟩⟩])⟩
  | none=>none
 else none
theorem aWL {g:FuncId}{args:List Kd}{e:TypeId}{ty:Ty}{f:aH args->Option (List ty.den)}(hf:aYG P g args e ty f):wN P (g,a8N args e ty f):=by
 intro qs H r h y hy n0 G μ w vs hW hv;dsimp only at h;unfold a8N at h;obtain⟨hn,h⟩:=aMA h;split at h
 ·rename_i x hx;have h:=Option.some.inj h;subst h;simp only[oA]at hn;obtain⟨hn,hnr,hpl⟩:=hn;have hW0:aW (B5 w) G.bare aL [] w:=⟨λr k b h=>by simp at h,λr k g h=>by simp at h,λr s k l b h=>by simp at h,hW.lt,λ_ _=>⟨rfl,rfl⟩,λ_ h=>h,uY.none _ _ (λ_=>rfl) _ _ (λr k h=>by simp at h)⟩;obtain⟨h1,h2⟩:=hf x y hy hW0 (LM args hx (xO (G:=G) (G':=G.bare) (λb h=>h) _ _ _ hnr (dT _ _ hn hv)));refine⟨h1,h2.mono ?_⟩
  rintro e' w' ⟨v',G',μ1,rfl,e1,e2,e3⟩;refine⟨v',G'.with G,XF μ μ1 H.length,rfl,aYF hW e1,a3W hW e1 e2 rfl (λr k hr=>?_),?_⟩
  ·cases r with
   | zero =>
    simp only[List.getElem?_cons_zero,oJ]at hr;subst hr;exact⟨CG _ hpl _,λt l h=>by simp only[oJ,Tg.mk.injEq]at h; obtain⟨rfl,_⟩:=h; cases hpl⟩
   | succ r=>simp at hr
  have:=a8P (H:=H) (μ:=μ) e3;rw[VR]at this ⊢;simpa using this
 ·cases h
end
section
variable {P:Program} {n0:Nat->Prop} {w w':World} {G G':Gd} {μ μ1:Mp} {H H1:Heap}
theorem aXK(hW:aW n0 G μ H w) {r:Nat} (hr:H[r]?=some none) (k:Blk) (hf:k.frozen=false) (hg:k.grown=true)
  (hblk:∀ b,μ.loc r=some b->(∃ c,w.heap[b]?=some (.cells c k.ty (0,0))/\aO w G μ b 0 k.cells)/\n0 b/\¬ G b/\(∀ s k1,H[s]?=some (some k1)->k1.frozen=false->μ.loc s≠some b)/\∀ j,G.row j≠some b)
  (htag:∀ g,k.tag=some g->k.cells=aK g.t g.l/\μ.len r=some g.l.length):aW n0 G μ (H.set r (some k)) w:=by
 have hlt:r<H.length:=(List.getElem?_eq_some_iff.1 hr).1;have key:∀ s k1,(H.set r (some k))[s]?=some (some k1)->(s=r/\k1=k)\/(s≠r/\H[s]?=some (some k1)):=by
  intro s k1 hs
  by_cases e:r=s
  ·subst e;rw[List.getElem?_set_self hlt]at hs;exact .inl ⟨rfl,(Option.some.inj (Option.some.inj hs)).symm⟩
  ·rw[List.getElem?_set_ne e]at hs;exact .inr ⟨Ne.symm e,hs⟩
 refine⟨?_,?_,?_,hW.lt,λs hs=>hW.top s (by simpa using hs),hW.base,?_⟩
 ·intro s k1 b hs hb;rcases key s k1 hs with ⟨rfl,rfl⟩|⟨_,hs⟩
  ·obtain⟨⟨c,h1,h2⟩,h3,h4,_⟩:=hblk b hb;exact⟨c,h1,h2,λh=>(by rw[hg]at h; cases h),λh=>(by rw[hf]at h; cases h),λ_=>⟨h3,h4⟩⟩
  ·exact hW.blk s k1 b hs hb
 ·intro s k1 g hs h1;rcases key s k1 hs with ⟨rfl,rfl⟩|⟨_,hs⟩
  ·exact htag g h1
  ·exact hW.tags s k1 g hs h1
 ·intro s1 s2 k1 k2 b h1 h2 f1 f2 m1 m2;rcases key s1 k1 h1 with ⟨rfl,rfl⟩|⟨_,h3⟩
  ·rcases key s2 k2 h2 with ⟨rfl,rfl⟩|⟨_,h4⟩
   ·rfl
   ·exact absurd m2 ((hblk b m1).2.2.2.1 s2 k2 h4 f2)
  ·rcases key s2 k2 h2 with ⟨rfl,rfl⟩|⟨_,h4⟩
   ·exact absurd m1 ((hblk b m2).2.2.2.1 s1 k1 h3 f1)
   ·exact hW.inj s1 s2 k1 k2 b h3 h4 f1 f2 m1 m2
 ·refine⟨hW.rows.inj,?_,hW.rows.cel,?_,?_⟩
  ·intro j b hj;obtain⟨a1,a2,a3,a4⟩:=hW.rows.sep j b hj;refine⟨a1,a2,a3,λs k1 hs f1 m1=>?_⟩;rcases key s k1 hs with ⟨rfl,rfl⟩|⟨_,hs⟩
   ·exact(hblk b m1).2.2.2.2 j hj
   ·exact a4 s k1 hs f1 m1
  ·intro s k1 t l hs h1 h2;rcases key s k1 hs with ⟨rfl,rfl⟩|⟨_,hs⟩
   ·rw[hg]at h1; cases h1
   ·exact hW.rows.arn s k1 t l hs h1 h2
  ·intro s1 s2 k1 k2 t l t' l' h1 g1 t1 h2 g2 t2;rcases key s1 k1 h1 with ⟨rfl,rfl⟩|⟨_,h1⟩
   ·rw[hg]at g1; cases g1
   ·rcases key s2 k2 h2 with ⟨rfl,rfl⟩|⟨_,h2⟩
    ·rw[hg]at g2; cases g2
    ·exact hW.rows.one s1 s2 k1 k2 t l t' l' h1 g1 t1 h2 g2 t2
def aWT(P:Program) (g:FuncId) (e:TypeId) (t:Ty) (args:List Kd) (f:List t.den->aH args->Option (List t.den)):Prop :=
 ∀ l x l',f l x=some l'->∀ {n0 G μ H w us r},aW n0 G μ H w->H[r]?=some (some (owB e t l))->VRs w G μ (.own r t.size::oK args x) us->fW.noRows (oK args x)=true->AB P n0 w G μ g us.toArray (.tuple []) (H.set r (some (owB e t l')))
def XS {t:Ty} {args:List Kd} (f:Unit->aH (.hnd t.size::args)->List (List t.den)->Option (aH []×List (List t.den))) (l:List t.den) (x:aH args):Option (List t.den):=match f () ((0,0,l.length),x) [l]with
 | some ((),[l'])=>bif Nat.beq l'.length l.length then some l' else none
 | _=>none
def a0B(P:Program) (g:FuncId) (e:TypeId) (t:Ty) (args rets:List Kd) (f:List t.den->aH args->Option (aH rets×List t.den)):Prop :=
 ∀ l x y l',f l x=some (y,l')->∀ {n0 G μ H w us r},aW n0 G μ H w->H[r]?=some (some (owB e t l))->VRs w G μ (.own r t.size::oK args x) us->fW.noRows (oK args x)=true->AB P n0 w G μ g us.toArray (aNJ rets y) (H.set r (some (owB e t l')))
def aD1 {t:Ty} {args rets:List Kd} (f:Unit->aH (.hnd t.size::args)->List (List t.den)->Option (aH rets×List (List t.den))) (l:List t.den) (x:aH args):Option (aH rets×List t.den):=match f () ((0,0,l.length),x) [l]with
 | some (y,[l'])=>bif Nat.beq l'.length l.length then some (y,l') else none
 | _=>none
def a7Q:List Kd->Bool
 | []=>true
 | [.bool]=>true
 | [.int _]=>true
 | _=>false
theorem a6K {rets:List Kd}(h:a7Q rets=true)(y:aH rets){w:World}{G G':Gd}{μ μ':Mp}{v:Value}(hv:VR w G μ (aNJ rets y) v):VR w G' μ' (aNJ rets y) v:=by
 unfold a7Q at h;split at h
 ·change VR w G μ (.tuple []) v at hv;change VR w G' μ' (.tuple []) v;rw[VR]at hv ⊢;obtain⟨vs,h1,h2⟩:=hv;rw[VRs]at h2;exact⟨vs,h1,by rw[VRs]; exact h2⟩
 ·obtain⟨b,⟨⟩⟩:=y;change VR w G μ (.lit (.bool b)) v at hv;change VR w G' μ' (.lit (.bool b)) v;rw[VR]at hv ⊢;exact hv
 ·rename_i k;obtain⟨b,⟨⟩⟩:=y;change VR w G μ (.lit (.int k b)) v at hv;change VR w G' μ' (.lit (.int k b)) v;rw[VR]at hv ⊢;exact hv
 ·cases h
theorem aP5 {g:FuncId} {e:TypeId} {t:Ty} {args rets:List Kd} {f:Unit->aH (.hnd t.size::args)->List (List t.den)->Option (aH rets×List (List t.den))} (hf:N0 P g e t .none (.hnd t.size::args) (.data rets) f) (hd:SW args=true) (hpl:t.plain=true) (hlr:a7Q rets=true) (he:e≠QM:=by decide):a0B P g e t args rets (aD1 f):=by
 intro l x yy l' hy n0 G μ H w us r hW hk hv hnr;unfold aD1 at hy;split at hy
 ·rename_i y1 l1 hfl;obtain⟨hlen,hy⟩:=aM hy;obtain⟨rfl,rfl⟩:=Prod.mk.inj (Option.some.inj hy);have hlen:=oE hlen;have ht2:=(hW.tags r _ _ hk rfl).2;have hlt:r<H.length:=(List.getElem?_eq_some_iff.1 hk).1;obtain⟨rb,hrb⟩:∃ rb:Option Nat,rb=if l=[] then none else μ.loc r:=⟨_,rfl⟩
  have hrbl:∀ b,rb=some b->μ.loc r=some b/\l≠[]:=λb hb=>by
   rw[hrb]at hb;split at hb
   ·cases hb
   ·rename_i hne; exact⟨hb,hne⟩
  have hmine:∀ b,μ.loc r=some b->n0 b/\¬ G b:=λb hb=>by
   obtain⟨_,_,_,_,_,h6⟩:=hW.blk r _ b hk hb;exact h6 rfl
  have hrow:∀ j b,G.row j=some b->μ.loc r≠some b:=λj b hj=>(hW.rows.sep j b hj).2.2.2 r _ hk rfl
  obtain⟨u,us',rfl,q1,q2⟩:∃ u us',us=u::us'/\VR w G μ (.own r t.size) u/\VRs w G μ (oK args x) us':=by rw[VRs]at hv; exact hv
  have at0:∀ (s:Nat) (k1:Blk),([some (arB e t [l])]:Heap)[s]?=some (some k1)->s=0/\k1=arB e t [l]:=by
   intro s k1 hs;cases s with
   | zero=>simp only[List.getElem?_cons_zero,oJ]at hs; exact⟨rfl,hs.symm⟩
   | succ s=>simp at hs
  have hG0:∃ G0:Gd,G0=⟨G.ok,λj=>if j=0 then rb else none⟩:=⟨_,rfl⟩;obtain⟨G0,hG0⟩:=hG0;have hok:G0.ok=G.ok:=by rw[hG0]
  have hr0:∀ j b,G0.row j=some b->j=0/\rb=some b:=λj b hj=>by
   rw[hG0]at hj;dsimp only at hj;split at hj
   ·exact⟨‹_›,hj⟩
   ·cases hj
  have hW1:aW (λb=>w.heap.size<=b\/rb=some b) G0 ⟨λ_=>none,λs=>if s=0 then some 1 else none⟩ [some (arB e t [l])] w:=by
   refine⟨λs k1 b hs hb=>(by cases hb),?_,λs1 s2 k1 k2 b _ _ _ _ m=>(by cases m),by rw[hok]; exact hW.lt,?_,λb hb=>.inl hb,?_⟩
   ·intro s k1 gg hs hg;obtain⟨rfl,rfl⟩:=at0 s k1 hs;cases hg;exact⟨rfl,rfl⟩
   ·intro s hs;have:s≠0:=by rintro rfl; simp at hs
    exact⟨rfl,by simp[this]⟩
   ·refine⟨λi j b h1 h2=>(hr0 i b h1).1.trans (hr0 j b h2).1.symm,λj b hj=>?_,λj b hj=>?_,λs k1 t1 l1 hs h1 h2=>?_,λs1 s2 k1 k2 t1 l1 t2 l2 h1 _ _ h2 _ _=>((at0 s1 k1 h1).1.trans (at0 s2 k2 h2).1.symm)⟩
    ·obtain⟨_,h2⟩:=hr0 j b hj;exact⟨hW.pH hk (hrbl b h2).1,.inr h2,by rw[hok]; exact(hmine b (hrbl b h2).1).2,λ_ _ _ _ h=>by cases h⟩
    ·obtain⟨_,h2⟩:=hr0 j b hj;obtain⟨c,h3,_⟩:=hW.blk r _ b hk (hrbl b h2).1;exact .inl ⟨c,_,_,h3⟩
    ·obtain⟨rfl,rfl⟩:=at0 s k1 hs;cases h2;refine⟨rfl,λj hj=>?_,λj row hj=>?_⟩
     ·rw[hG0];have:j≠0:=by rintro rfl; simp at hj
      simp[this]
     ·cases j with
      | zero =>
       simp only[List.getElem?_cons_zero,oJ]at hj;subst hj
       by_cases hl:l=[]
       ·exact .inl ⟨hl,he⟩
       ·right;rw[VR]at q1;obtain⟨n,z1,z2⟩:=q1;rw[ht2]at z1;obtain rfl:=Option.some.inj z1;rcases z2 with ⟨z2,_⟩|⟨b,c,z2,_⟩
        ·exact absurd (List.eq_nil_of_length_eq_zero z2) hl
        ·obtain⟨cc,a1,a2,_⟩:=hW.blk r _ b hk z2;refine⟨b,by rw[hG0,hrb]; simp[hl,z2],.inl ⟨he,cc,a1,?_⟩⟩;exact xU (G:=G) (G':=G0) (λb h=>by rw[hok]; exact h) _ _ _ _ (CG t hpl l) (sC (kX _ _) a2)
      | succ j=>simp at hj
  have hv1:VRs w G0 ⟨λ_=>none,λs=>if s=0 then some 1 else none⟩ (Tk.none.pv 0++oK (.hnd t.size::args) ((0,0,l.length),x)) (u::us'):=by
   change VRs w G0 _ (.row 0 0 l.length t.size::oK args x) (u::us');rw[VRs];refine⟨u,us',rfl,?_,VRs.bJ (xO (G:=G) (G':=G0) (λb h=>by rw[hok]; exact h) _ _ _ hnr (dT _ _ (RF args x hd) q2))⟩;rw[VR]at q1;rw[VR];obtain⟨n,z1,z2⟩:=q1;rw[ht2]at z1;obtain rfl:=Option.some.inj z1;rcases z2 with ⟨z2,ao,rfl⟩|⟨b,c,z2,rfl,z3,z4⟩
   ·exact⟨ao,0,by rw[show l.length=0 from z2],by rw[show l.length=0 from z2]; exact Nat.le_refl _,.inl z2⟩
   ·refine⟨_,c,rfl,z3,?_⟩
    by_cases hl:l=[]
    ·exact .inl (by rw[hl]; rfl)
    ·exact .inr ⟨b,by rw[hG0,hrb]; simp[hl,z2],by simp,by simpa using z4⟩
  obtain⟨c1,c2⟩:=hf () ((0,0,l.length),x) [l] y1 [l1] hfl (ra:=0) (r:=0) hW1 rfl ⟨λ_ _ h=>by cases h⟩ hv1;refine⟨c1,c2.mono ?_⟩;rintro e' w' ⟨v',G1,μ1,rfl,ee,hW',hvv⟩;have hb1:∀ b,rb=some b->G1.row 0=some b:=λb hb=>ee.row 0 b (by rw[hG0]; simp[hb])
  have hH1:(((VT (Tk.none.ow () 0) [some (arB e t [l])]).set 0 none)++(some (arB e t [l1])::(An.data rets).hp y1):Heap)[1]?=some (some (arB e t [l1])):=rfl;have hn0:∀ b,b<w.heap.size->¬ n0 b->w'.heap[b]?=w.heap[b]?:=λb hb hn=>ee.old b hb (by
   rintro(h|h)
   ·exact Nat.not_le.2 hb h
   ·exact hn (hmine b (hrbl b h).1).1)
  have hgg:∀ b,G b->G0 b:=λb hb=>by rw[hok]; exact hb
  have e2:Ext n0 w G μ w' (G1.with G) μ:={
   good:=λb hb=>⟨(ee.good b (hgg b hb)).1,(ee.good b (hgg b hb)).2⟩
   map:=λ_ _ h=>h
   len:=λ_ _ h=>h
   room:=ee.room
   row:=λ_ _ h=>h
   os:=ee.os
   tape:=ee.tape
   output:=ee.output
   size:=ee.size
   old:=hn0
   new:=λb hb=>by
    rcases ee.new b hb with h|h|h
    ·rw[hok]at h; exact .inl h
    ·exact .inr (hW.base b h)
    ·exact .inr (hmine b (hrbl b h).1).1 }
  have hold:∀ b,b<w.heap.size->rb≠some b->w'.heap[b]?=w.heap[b]?/\(G1 b->G b):=λb hb hne =>
   ⟨ee.old b hb (by rintro(h|h); exact Nat.not_le.2 hb h; exact hne h),λhg=>by
    rcases ee.new b hg with h|h|h
    ·rw[hok]at h; exact h
    ·exact absurd hb (Nat.not_lt.2 h)
    ·exact absurd h hne⟩
  have hk2:aW n0 (G1.with G) μ (H.set r none) w':=by
   refine(xK hW r).aT e2 ⟨λ_=>rfl,λj b hj=>hold b (hW.rows.sep j b hj).1 λh=>hrow j b hj (hrbl b h).1⟩ ?_ (λb hb=>hW'.lt b hb);intro s k1 b hs hb;obtain⟨hs,hsr⟩:=qV hs;refine hold b (hW.pH hs hb) λh=>?_
   have hrb:=(hrbl b h).1;cases hf:k1.frozen with
   | false=>exact hsr (hW.inj s r k1 _ b hs hk hf rfl hb hrb)
   | true =>
    obtain⟨_,_,_,_,h5,_⟩:=hW.blk s k1 b hs hb;exact(hmine b hrb).2 (h5 hf)
  have hfin:aW n0 (G1.with G) μ (H.set r (some (owB e t l1))) w':=by
   have:=aXK hk2 (r:=r) (List.getElem?_set_self hlt) (owB e t l1) rfl rfl ?_ ?_
   ·rwa[List.set_set]at this
   ·intro b hb;have hcells:(∃ c,w'.heap[b]?=some (.cells c e (0,0))/\aO w' (G1.with G) μ b 0 (aK t l1))/\¬ G1 b:=by
     by_cases hl:l=[]
     ·have hl1:l1=[]:=List.eq_nil_of_length_eq_zero (by rw[hlen,hl]; rfl);have hne:rb≠some b:=λh=>(hrbl b h).2 hl
      obtain⟨o1,o2⟩:=hold b (hW.pH hk hb) hne;obtain⟨c,h3,_⟩:=hW.blk r _ b hk hb;refine⟨⟨c,o1.trans h3,?_⟩,λh=>(hmine b hb).2 (o2 h)⟩;rw[hl1]; simp[aK,aO]
     ·have hbb:rb=some b:=by rw[hrb,if_neg hl]; exact hb
      have hrow1:=hb1 b hbb;obtain⟨_,_,a3⟩:=hW'.rows.arn 1 _ t [l1] hH1 rfl rfl;rcases a3 0 l1 rfl with h|⟨b',z1,z2⟩
      ·exact absurd (List.eq_nil_of_length_eq_zero (by rw[<- hlen,h.1]; rfl)) hl
      ·rw[hrow1]at z1;obtain rfl:=Option.some.inj z1;obtain⟨c0,y1,_⟩:=hW.blk r _ b hk hb;obtain⟨c,z2,z3⟩:=z2.cells (.inr (e2.room b 0 ⟨c0,_,_,y1,Nat.zero_le _⟩));refine⟨⟨c,z2,?_⟩,(hW'.rows.sep 0 b hrow1).2.2.1⟩;exact xU (G:=G1) (G':=G1.with G) (λb h=>h) _ _ _ _ (CG t hpl l1) (sC (kX _ _) z3)
    refine⟨hcells.1,(hmine b hb).1,hcells.2,λs k1 hs hf hsb=>?_,λj hj=>hrow j b hj hb⟩;obtain⟨hs,hsr⟩:=qV hs;exact hsr (hW.inj s r k1 _ b hs hk hf rfl hsb hb)
   ·intro g hg;cases hg;exact⟨rfl,by rw[ht2,hlen]⟩
  refine⟨v',G1.with G,μ,rfl,e2,hfin,?_⟩;exact a6K hlr y1 hvv
 ·cases hy
theorem aLU {g:FuncId}{e:TypeId}{t:Ty}{args:List Kd}{f:Unit->aH (.hnd t.size::args)->List (List t.den)->Option (aH []×List (List t.den))}(hf:N0 P g e t .none (.hnd t.size::args) (.data []) f)(hd:SW args=true)(hpl:t.plain=true)(he:e≠QM:=by decide):aWT P g e t args (XS f):=by
 intro l x l' hy n0 G μ H w us r hW hk hv hnr;refine aP5 hf hd hpl rfl he l x () l' ?_ hW hk hv hnr;unfold XS at hy;unfold aD1;split at hy
 ·rename_i l1 hfl;obtain⟨hlen,hy⟩:=aM hy;obtain rfl:=Option.some.inj hy;rw[hfl];show (bif Nat.beq l1.length l.length then some ((),l1) else none)=_;rw[hlen];rfl
 ·cases hy
def a15(e:TypeId) (t:Ty) (args rets:List Kd) (f:List t.den->aH args->Option (aH rets×List t.den)) (qs:List PV) (H:Heap):Option aPK:=match aTD e t H qs with
 | some (l,r,ps)=>match aRH args ps with
  | some x=>bif fB.noRefs ps&&fW.noRows (oK args x) then some ⟨aH rets×List t.den,f l x,λz=>(aNJ rets z.1,H.set r (some (owB e t z.2)))⟩ else none
  | none=>none
 | none=>none
theorem a5U {g:FuncId}{e:TypeId}{t:Ty}{args rets:List Kd}{f:List t.den->aH args->Option (aH rets×List t.den)}(hf:a0B P g e t args rets f):wN P (g,a15 e t args rets f):=by
 intro qs H rh h y hy n0 G μ w vs hW hv;change a15 e t args rets f qs H=some rh at h;show AB P n0 w G μ g vs.toArray (rh.out y).1 (rh.out y).2;unfold a15 at h;split at h
 ·rename_i l r ps hl;split at h
  ·rename_i x hx;obtain⟨hb,h⟩:=aMA h;simp only[oJ]at h;subst h;simp only[oA]at hb;obtain⟨h0,rfl⟩:=aDM hW hl;rw[VRs]at hv;obtain⟨u,us,rfl,q1,q2⟩:=hv;exact hf l x y.1 y.2 hy hW h0 (by rw[VRs]; exact⟨u,us,rfl,q1,(LM args hx (dT _ _ hb.1 q2)).bJ⟩) hb.2
  ·cases h
 ·cases h
def a4L(e:TypeId) (t:Ty) (args:List Kd) (f:List t.den->aH args->Option (List t.den)) (qs:List PV) (H:Heap):Option aPK:=match aTD e t H qs with
 | some (l,r,ps)=>match aRH args ps with
  | some x=>bif fB.noRefs ps&&fW.noRows (oK args x) then some ⟨List t.den,f l x,λl'=>(.tuple [],H.set r (some (owB e t l')))⟩ else none
  | none=>none
 | none=>none
theorem aVS {g:FuncId}{e:TypeId}{t:Ty}{args:List Kd}{f:List t.den->aH args->Option (List t.den)}(hf:aWT P g e t args f):wN P (g,a4L e t args f):=by
 intro qs H rh h y hy n0 G μ w vs hW hv;change a4L e t args f qs H=some rh at h;show AB P n0 w G μ g vs.toArray (rh.out y).1 (rh.out y).2;unfold a4L at h;split at h
 ·rename_i l r ps hl;split at h
  ·rename_i x hx;obtain⟨hb,h⟩:=aMA h;simp only[oJ]at h;subst h;simp only[oA]at hb;obtain⟨h0,rfl⟩:=aDM hW hl;rw[VRs]at hv;obtain⟨u,us,rfl,q1,q2⟩:=hv;exact hf l x y hy hW h0 (by rw[VRs]; exact⟨u,us,rfl,q1,(LM args hx (dT _ _ hb.1 q2)).bJ⟩) hb.2
  ·cases h
 ·cases h
end
def aZ0(P:Program)(E:Env)(fn:Func)(aT:Nat)(lt rt:Nat->Option bI)(c:Code)(ae:TypeId)(t:Ty)(tk:Tk)(args:List Kd)(an:An)(l:tk.den)(x:aH args)(A:List (List t.den)):Option (an.den×List (List t.den)) :=
 bif Nat.ble (tk.pv 0++oK args x).length fn.ntmps then FG P E fn.ntmps aT lt rt false [] c (start aT 0 (tk.pv 0++oK args x)) (PY (tk.ow l 0)++[some (arB ae t A)]) (bAF P fn.results.toList ae t an) else none
section
variable {P:Program} {n0:Nat->Prop} {w w':World} {G G1 G2:Gd} {μ μ2:Mp} {H H':Heap} {ae:TypeId} {t:Ty} {A B:List (List t.den)}
theorem bAK {E:Env} (hP:UB P) (hE:aY P E) {g:Nat} {fn:Func} (hg:P.funcs[g]?=some fn) {c:Code} (hc:fn.body=some c) {aT:Nat} {lt rt:Nat->Option bI} {ae:TypeId} {t:Ty} {tk:Tk} {args:List Kd} {an:An} {f:tk.den->aH args->List (List t.den)->Option (an.den×List (List t.den))}
  (hd:SW args=true) (hl:∀ a∈fG c,SY P fn.ntmps lt rt false [] a) (hb:∀ l x A,aZ0 P E fn aT lt rt c ae t tk args an l x A=f l x A):N0 P g ae t tk args an f:=by
 intro l x A y B hy n0 G μ H w us ra r hW har ho hv;rw[<- hb]at hy;unfold aZ0 at hy;obtain⟨hlen,hy⟩:=aM hy;obtain⟨⟨ex,F',H'⟩,h1,h2⟩:=oW hE.callee hP.mixed c _ _ _ _ hl hy;obtain⟨vs,B',hex,hvs,hB,hq,rfl⟩:∃ vs B',(ex=.normal\/ex=.ret)/\yB P F' H' fn.results.toList=some vs/\a3P ae t H'=some B'/\a1I an (kK vs) H'=some y/\B'.2=B:=by
  unfold bAF at h1;split at h1
  ·cases h1
  ·rename_i hne;split at h1
   ·rename_i vs hvs;split at h1
    ·rename_i B' hB;split at h1
     ·rename_i y' hy';simp only[oJ,oP]at h1;obtain⟨rfl,h1⟩:=h1;refine⟨vs,B',?_,hvs,hB,hy',h1⟩;cases ex with
      | normal=>exact .inl rfl
      | ret=>exact .inr rfl
      | exit i=>exact absurd rfl (hne i)
     ·cases h1
    ·cases h1
   ·cases h1
 have hargs:VRs w G (mpA μ (tk.ow l r) A.length) (tk.pv 0++oK args x) us:=by
  have hn:=RF args x hd;cases tk with
  | none=>exact VRs.bJ (dT _ _ hn hv)
  | own e u =>
   change VRs w G μ (.own r u.size::oK args x) us at hv;change VRs w G _ (.own 0 u.size::oK args x) us;rw[VRs]at hv ⊢;obtain⟨v,us',rfl,q1,q2⟩:=hv;refine⟨v,us',rfl,?_,VRs.bJ (dT _ _ hn q2)⟩;rw[VR]at q1 ⊢;exact q1
 have howb:PY (tk.ow l 0)=PY (tk.ow l r):=by cases tk <;> rfl
 have hW1:=aJ0 hW ho har;rw[<- howb]at hW1;have e0:Ext (wrA w G μ (tk.ow l r)) w G aL w G (mpA μ (tk.ow l r) A.length) :=
  ⟨⟨λb hb=>⟨hb,rfl⟩,λ_ _ h=>(by cases h),λ_ _ h=>(by cases h),λ_ _ h=>h,λ_ _ h=>h⟩,rfl,rfl,rfl,Nat.le_refl _,λ_ _ _=>rfl,λ_ h=>.inl h⟩
 refine⟨enters hg (hP.names g fn hg) (by rw[hc]; rfl) _ _,(callsIn_wide (n:=0)).1 (callsIn_of_wp_marks hg hc trivial ?_)⟩;have hI:I (wrA w G μ (tk.ow l r)) w G aL fn.ntmps (start aT 0 (tk.pv 0++oK args x)) (PY (tk.ow l 0)++[some (arB ae t A)]) ⟨us.toArray++Array.replicate (fn.ntmps-us.toArray.size) undef,[]⟩ w :=
  ⟨G,_,e0,hW1,EX (by simpa using hargs) (oL hlen)⟩
 refine wpIn_mono (h2 none 0 _ w G aL _ w (λ_=>rfl) (λr _=>⟨rfl,rfl⟩) hI.bA5) ?_;rintro e1 ⟨tm,ds⟩ w' ⟨rfl,hI',_⟩;have hend:∀ w',IM (wrA w G μ (tk.ow l r)) w G aL fn.ntmps F' H' { tmps:=tm,defers:=[] } w'->LeavesIn Fence.wide 0 P fn tm (λen w'=>∃ v' G'' μ'',en=.returned v'/\Ext n0 w G μ w' G'' μ''/\aW n0 G'' μ'' (((VT (tk.ow l r) H).set ra none)++(some (arB ae t B'.2)::an.hp y)) w'/\VR w' G'' μ'' (an.pv y (H.length+1)) v') [] .returning w':=by
  rintro w' ⟨G1,μ1,ee,hW',hF',_⟩;obtain⟨ws,h3,h4⟩:=vE (P:=P) hW' hF' hvs;have hres:(results fn tm).run P w'=.ok (if hh:ws.toArray.size=1 then ws.toArray[0] else .tuple ws.toArray) w':=by
   rw[I9,Array.mapM_eq_mapM_toList];simp only[Sem.run_bind,Sem.run_map,h3,Result.andThen_ok,Sem.run_pure]
  have hrb:=aHL hW' hB;obtain⟨G2,μ3,b1,b2,b3⟩:∃ G2 μ3,Ext n0 w G μ w' G2 μ3/\aW n0 G2 μ3 (((VT (tk.ow l r) H).set ra none)++(some (arB ae t B'.2)::an.hp y)) w'/\VR w' G2 μ3 (an.pv y (H.length+1)) (if hh:ws.toArray.size=1 then ws.toArray[0] else .tuple ws.toArray):=by
   have hvr:=yZ h4;cases an with
   | data rets =>
    simp only[a1I]at hq;split at hq
    ·rename_i q hq';have hb:=aOM (G2:=⟨λb=>G1 b\/∃ s k,H'[s]?=some (some k)/\k.frozen=false/\μ1.loc s=some b,G1.row⟩) hW ho har ee hW' hrb (os:=none) ⟨λ_ _ _ h=>by cases h⟩ (λ_=>rfl) (λb hb=>.inl hb) (λb hb=>by
      rcases hb with h|⟨s,k,z1,z2,z3⟩
      ·exact .inl h
      ·exact .inr ⟨s,k,z1,z2,z3,λ_ _ _ h=>by cases h⟩)
     refine⟨_,_,hb.1,hb.2,?_⟩;have:=MY (G':=⟨λb=>G1 b\/∃ s k,H'[s]?=some (some k)/\k.frozen=false/\μ1.loc s=some b,G1.row⟩) hW' (λ_ _ h=>h) (λb hb=>.inl hb) (λs k1 b hs _ hb=>by
      obtain⟨_,_,_,_,g5,_⟩:=hW'.blk s k1 b hs hb;cases hf:k1.frozen with
      | true=>exact .inl (g5 hf)
      | false=>exact .inr ⟨s,k1,hs,hf,hb⟩) depth _ q _ hq' hvr
     exact(aFI hq this).bJ
    ·cases hq
   | own e u =>
    simp only[a1I]at hq;obtain⟨r1,l0,hos,hvv⟩:=aQ7 hW' hq hvr;have hb:=aOM (G2:=G1) hW ho har ee hW' hrb hos (λ_=>rfl) (λb hb=>hb) (λb hb=>.inl hb);refine⟨_,_,hb.1,hb.2,hvv _ _ _ ?_ ?_⟩
    ·have h1:¬ H.length+1<H.length:=by omega
     simp[BI,h1,a9Z]
    ·have h1:¬ H.length+1<H.length:=by omega
     simp[BI,h1,a5Q]
  exact⟨_,hres,_,G2,μ3,rfl,b1,b2,b3⟩
 rcases hex with rfl|rfl
 ·exact CT (λb hb=>(aJ0 hW ho har).base b hb) hend ds w' hI'
 ·exact CT (λb hb=>(aJ0 hW ho har).base b hb) hend ds w' hI'
end
def aZ9(P:Program)(E:Env)(fn:Func)(aT:Nat)(lt rt:Nat->Option bI)(c:Code)(ae:TypeId)(t:Ty)(args rets:List Kd)(x:aH args):Option (aH rets) :=
 bif Nat.ble (oK args x).length fn.ntmps then FG P E fn.ntmps aT lt rt false [] c (start aT 0 (oK args x)) [some (arB ae t [])] (aZJ P fn.results.toList rets) else none
section
variable {P:Program}
theorem bBN {E:Env} (hP:UB P) (hE:aY P E) {g:Nat} {fn:Func} (hg:P.funcs[g]?=some fn) {c:Code} (hc:fn.body=some c) {aT:Nat} {lt rt:Nat->Option bI} {ae:TypeId} {t:Ty} {args rets:List Kd} {f:aH args->Option (aH rets)}
  (hl:∀ a∈fG c,SY P fn.ntmps lt rt false [] a) (hb:∀ x,aZ9 P E fn aT lt rt c ae t args rets x=f x):dK P g args rets f:=by
 intro x y hy;rw[<- hb]at hy;unfold aZ9 at hy;obtain⟨hlen,hy⟩:=aM hy;obtain⟨⟨ex,F',H'⟩,h1,h2⟩:=oW hE.callee hP.mixed c _ _ _ _ hl hy;obtain⟨vs,q,hex,hvs,hq,hd⟩:∃ vs q,(ex=.normal\/ex=.ret)/\yB P F' H' fn.results.toList=some vs/\a0W H' (kK vs)=some q/\aYO rets q=some y:=by
  unfold aZJ at h1;split at h1
  ·cases h1
  ·rename_i hne;split at h1
   ·rename_i vs hvs;split at h1
    ·rename_i q hq;refine⟨vs,q,?_,hvs,hq,h1⟩;cases ex with
     | normal=>exact .inl rfl
     | ret=>exact .inr rfl
     | exit i=>exact absurd rfl (hne i)
    ·cases h1
   ·cases h1
 obtain⟨hq1,hq2⟩:=R9 hq;intro w G us hlt hv;have at0:∀ (s:Nat) (k1:Blk),([some (arB ae t [])]:Heap)[s]?=some (some k1)->s=0/\k1=arB ae t []:=by
  intro s k1 hs;cases s with
  | zero=>simp only[List.getElem?_cons_zero,oJ]at hs; exact⟨rfl,hs.symm⟩
  | succ s=>simp at hs
 have hW:aW (B5 w) (Gd.of G) ⟨λ_=>none,λr=>if r=0 then some 0 else none⟩ [some (arB ae t [])] w:=by
  refine⟨(λr k b h hb=>by cases hb),(λr k g h hg=>?_),(λr s k l b h _ _ _ hb=>by cases hb),hlt,(λr hr=>⟨rfl,?_⟩),λ_ h=>h,⟨(λ_ _ _ h=>by cases h),(λ_ _ h=>by cases h),(λ_ _ h=>by cases h),(λr k u l h hgr ht=>?_),(λr s k k' u l u' l' h1 g1 t1 h2 g2 t2=>by rw[(at0 r k h1).1,(at0 s k' h2).1])⟩⟩
  ·obtain⟨rfl,rfl⟩:=at0 r k h;cases hg;exact⟨rfl,rfl⟩
  ·have:r≠0:=by rintro rfl; simp at hr
   simp[this]
  ·obtain⟨rfl,rfl⟩:=at0 r k h;cases ht;exact⟨rfl,λ_ _=>rfl,λj row hj=>by simp at hj⟩
 have e0:Ext (B5 w) w (Gd.of G) aL w (Gd.of G) ⟨λ_=>none,λr=>if r=0 then some 0 else none⟩ :=
  ⟨⟨λb hb=>⟨hb,rfl⟩,λ_ _ h=>(by cases h),λ_ _ h=>(by cases h),λ_ _ h=>h,λ_ _ h=>h⟩,rfl,rfl,rfl,Nat.le_refl _,λ_ _ _=>rfl,λ_ h=>.inl h⟩
 refine⟨enters hg (hP.names g fn hg) (by rw[hc]; rfl) _ _,(callsIn_wide (n:=0)).1 (callsIn_of_wp_marks hg hc trivial ?_)⟩;have hI:I (B5 w) w (Gd.of G) aL fn.ntmps (start aT 0 (oK args x)) [some (arB ae t [])] ⟨us++Array.replicate (fn.ntmps-us.size) undef,[]⟩ w:=⟨Gd.of G,_,e0,hW,EX hv.bJ (oL hlen)⟩;refine wpIn_mono (h2 none 0 _ w (Gd.of G) aL _ w (λ_=>rfl) (λr _=>⟨rfl,rfl⟩) hI.bA5) ?_;rintro e1 ⟨tm,ds⟩ w' ⟨rfl,hI',_⟩
 have hend:∀ w',IM (B5 w) w (Gd.of G) aL fn.ntmps F' H' { tmps:=tm,defers:=[] } w'->LeavesIn Fence.wide 0 P fn tm (λen w'=>∃ v' G',en=.returned v'/\Ext (B5 w) w (Gd.of G) aL w' (Gd.of G') aL/\(∀ b,G' b->b<w'.heap.size)/\VR w' (Gd.of G') aL (aNJ rets y) v') [] .returning w':=by
  rintro w' ⟨G1,μ1,e1,e2,hF',_⟩;obtain⟨ws,h3,h4⟩:=vE (P:=P) e2 hF' hvs;have hres:(results fn tm).run P w'=.ok (if hh:ws.toArray.size=1 then ws.toArray[0] else .tuple ws.toArray) w':=by
   rw[I9,Array.mapM_eq_mapM_toList];simp only[Sem.run_bind,Sem.run_map,h3,Result.andThen_ok,Sem.run_pure]
  have hval:=TM (G:=⟨λb=>G1 b\/∃ r k,H'[r]?=some (some k)/\μ1.loc r=some b,G1.row⟩) (G':=Gd.of λb=>G1 b\/∃ r k,H'[r]?=some (some k)/\μ1.loc r=some b) (λb h=>h) _ _ _ hq2
    (MY (G':=⟨λb=>G1 b\/∃ r k,H'[r]?=some (some k)/\μ1.loc r=some b,G1.row⟩) e2 (λ_ _ h=>h) (λb hb=>.inl hb) (λr k b hr _ hb=>.inr ⟨r,k,hr,hb⟩) depth _ q _ hq1 (yZ h4))
  have hext:Ext (B5 w) w (Gd.of G) aL w' (Gd.of λb=>G1 b\/∃ r k,H'[r]?=some (some k)/\μ1.loc r=some b) aL:={
   good:=λb hb=>⟨.inl (e1.good b hb).1,(e1.good b hb).2⟩
   map:=λ_ _ h=>h
   len:=λ_ _ h=>h
   room:=e1.room
   row:=λ_ _ h=>h
   os:=e1.os
   tape:=e1.tape
   output:=e1.output
   size:=e1.size
   old:=e1.old
   new:=λb hb=>by
    rcases hb with hb|⟨r,k,hr,hb⟩
    ·exact e1.new b hb
    ·obtain⟨c,_,_,_,g5,g6⟩:=e2.blk r k b hr hb;cases hf:k.frozen with
     | true=>exact e1.new b (g5 hf)
     | false=>exact .inr (g6 hf).1 }
  have hlt':∀ b,(G1 b\/∃ r k,H'[r]?=some (some k)/\μ1.loc r=some b)->b<w'.heap.size:=by
   rintro b (hb|⟨r,k,hr,hb⟩)
   ·exact e2.lt b hb
   ·exact e2.pH hr hb
  exact⟨_,hres,_,_,rfl,hext,hlt',aFI hd hval⟩
 rcases hex with rfl|rfl
 ·exact CT (λb hb=>hW.base b hb) hend ds w' hI'
 ·exact CT (λb hb=>hW.base b hb) hend ds w' hI'
end
open Go Go.RowKit Go.Proofs
set_option maxHeartbeats 4000000
def cO(x:aH [.str]):Option (aH [.bool,.str]):=match x with
 | (v0,()) =>
  bif ltI 0 (v0.size:Int) then
   bif aJ 0 v0.size then bif eqI (aRY v0 0) 45 then
    bif Nat.ble 1 v0.size then bif Nat.ble v0.size v0.size then some (true,(v0.extract 1 v0.size),()) else none else none
   else some (false,v0,()) else none
  else some (false,v0,())
theorem aN4:aY tP (bZ []):=bB trivial
theorem aRF:dK tP 179 _ _ cO:=by exact bO aI aN4 Tryz.func179 (c:=aQ Tryz.f179) (by kernel_rfl) (aT:=aG Tryz.f179) (lt:=λ_=>none) (aD (lt:=λ_=>none) (l:=[]) (by kernel_rfl) trivial) (by rintro⟨v0,⟨⟩⟩; kernel_rfl)
abbrev CL:Ent:=⟨179,_,_,cO⟩
theorem xJ:Ent.OK tP CL:=aRF
def aA(x:aH [.bool,.str]):Option (aH [.str]):=match x with
 | (v0,v1,()) =>
  bif v0 then
   bif !(eqS v1 (ByteArray.mk #[48])) then
    bif Nat.ble ((ByteArray.mk #[45]).size+v1.size) 9223372036854775807 then some (((ByteArray.mk #[45])++v1),()) else none
   else some (v1,())
  else some (v1,())
theorem aQV:aY tP (bZ []):=bB trivial
theorem aVL:dK tP 180 _ _ aA:=by exact bO aI aQV Tryz.func180 (c:=aQ Tryz.f180) (by kernel_rfl) (aT:=aG Tryz.f180) (lt:=λ_=>none) (aD (lt:=λ_=>none) (l:=[]) (by kernel_rfl) trivial) (by rintro⟨v0,v1,⟨⟩⟩; kernel_rfl)
abbrev NS:Ent:=⟨180,_,_,aA⟩
theorem KD:Ent.OK tP NS:=aVL
def pJ(x:aH [.str,.int .i64]):Option (aH [.int .i64,.bool]):=match x with
 | (v0,v1,()) =>
  bif ltI v1 (v0.size:Int) then
   some (0,false,())
  else aC (HZ (v0,())) λy1 =>
  some (y1.1,true,())
theorem aK5:aY tP (bZ [aG3]):=bB ⟨aMC,trivial⟩
theorem aQG:dK tP 178 _ _ pJ:=by exact bO aI aK5 Tryz.func178 (c:=aQ Tryz.f178) (by kernel_rfl) (aT:=aG Tryz.f178) (lt:=λ_=>none) (aD (lt:=λ_=>none) (l:=[]) (by kernel_rfl) trivial) (by rintro⟨v0,v1,⟨⟩⟩; kernel_rfl)
abbrev NM:Ent:=⟨178,_,_,pJ⟩
theorem MT:Ent.OK tP NM:=aQG
def nO(x:aH [.int .i64]):Option (aH [.str]):=match x with
 | (v0,()) =>
  aC (H7 (v0,())) λy1 =>
  some (y1.1,())
theorem aWO:aY tP (bZ [aG5]):=bB ⟨aK2,trivial⟩
theorem a1N:dK tP 137 _ _ nO:=by exact bO aI aWO Tryz.func137 (c:=aQ Tryz.f137) (by kernel_rfl) (aT:=aG Tryz.f137) (lt:=λ_=>none) (aD (lt:=λ_=>none) (l:=[]) (by kernel_rfl) trivial) (by rintro⟨v0,⟨⟩⟩; kernel_rfl)
abbrev SF:Ent:=⟨137,_,_,nO⟩
theorem KG:Ent.OK tP SF:=a1N
def CA(x:aH [.str]):Option (aH [.int .i64]):=match x with
 | (v0,()) =>
  bif eqS v0 (ByteArray.mk #[48]) then
   some (0,())
  else bif aJ 0 v0.size then bif eqI (aRY v0 0) 45 then
   some ((-1),())
  else some (1,()) else none
theorem aQQ:aY tP (bZ []):=bB trivial
theorem aWM:dK tP 167 _ _ CA:=by exact bO aI aQQ Tryz.func167 (c:=aQ Tryz.f167) (by kernel_rfl) (aT:=aG Tryz.f167) (lt:=λ_=>none) (aD (lt:=λ_=>none) (l:=[]) (by kernel_rfl) trivial) (by rintro⟨v0,⟨⟩⟩; kernel_rfl)
abbrev aC8:Ent:=⟨167,_,_,CA⟩
theorem aEC:Ent.OK tP aC8:=aWM
def tC(x:aH [.int .u64]):Option (aH [.str]):=match x with
 | (v0,()) =>
  aC (uF (v0,10,())) λy1 =>
  some (y1.1,())
theorem aQL:aY tP (bZ [QX]):=bB ⟨aAL,trivial⟩
theorem aWF:dK tP 214 _ _ tC:=by exact bO aI aQL Tryz.func214 (c:=aQ Tryz.f214) (by kernel_rfl) (aT:=aG Tryz.f214) (lt:=λ_=>none) (aD (lt:=λ_=>none) (l:=[]) (by kernel_rfl) trivial) (by rintro⟨v0,⟨⟩⟩; kernel_rfl)
abbrev NX:Ent:=⟨214,_,_,tC⟩
theorem LB:Ent.OK tP NX:=aWF
def BG(x:aH [.str]):Option (aH [.int .u64,.bool]):=match x with
 | (v0,()) =>
  aC (wB (v0,10,64,())) λy1 =>
  some (y1.1,true,())
theorem aKO:aY tP (bZ [UT]):=bB ⟨aCC,trivial⟩
theorem aNG:dK tP 234 _ _ BG:=by exact bO aI aKO Tryz.func234 (c:=aQ Tryz.f234) (by kernel_rfl) (aT:=aG Tryz.f234) (lt:=λ_=>none) (aD (lt:=λ_=>none) (l:=[]) (by kernel_rfl) trivial) (by rintro⟨v0,⟨⟩⟩; kernel_rfl)
abbrev aFC:Ent:=⟨234,_,_,BG⟩
theorem aJO:Ent.OK tP aFC:=aNG
def pK(x:aH [.str,.str]):Option (aH [.int .u64,.int .u64,.bool]):=match x with
 | (v0,v1,()) =>
  bif ltI 18 (v0.size:Int) then
   some (0,0,false,())
  else bif ltI 18 (v1.size:Int) then
   some (0,0,false,())
  else aC (BG (v0,())) λy1 =>
  aC (BG (v1,())) λy2 =>
  some (y1.1,y2.1,true,())
theorem aLM:aY tP (bZ [aFC]):=bB ⟨aJO,trivial⟩
theorem aPV:dK tP 213 _ _ pK:=by exact bO aI aLM Tryz.func213 (c:=aQ Tryz.f213) (by kernel_rfl) (aT:=aG Tryz.f213) (lt:=λ_=>none) (aD (lt:=λ_=>none) (l:=[]) (by kernel_rfl) trivial) (by rintro⟨v0,v1,⟨⟩⟩; kernel_rfl)
abbrev IG:Ent:=⟨213,_,_,pK⟩
theorem GC:Ent.OK tP IG:=aPV
def fQ(x:aH [.str,.str]):Option (aH [.int .i64]):=match x with
 | (v0,v1,()) =>
  bif !(eqI (v0.size:Int) (v1.size:Int)) then
   some ((if (if (-1)<(aB .i64 ((v0.size:Int)-(v1.size:Int))) then (aB .i64 ((v0.size:Int)-(v1.size:Int))) else (-1))<1 then (if (-1)<(aB .i64 ((v0.size:Int)-(v1.size:Int))) then (aB .i64 ((v0.size:Int)-(v1.size:Int))) else (-1)) else 1),())
  else bif ltS v0 v1 then
   some ((-1),())
  else bif !(ltS v0 v1||eqS v0 v1) then
   some (1,())
  else some (0,())
theorem aGI:aY tP (bZ []):=bB trivial
theorem aKC:dK tP 182 _ _ fQ:=by exact bO aI aGI Tryz.func182 (c:=aQ Tryz.f182) (by kernel_rfl) (aT:=aG Tryz.f182) (lt:=λ_=>none) (aD (lt:=λ_=>none) (l:=[]) (by kernel_rfl) trivial) (by rintro⟨v0,v1,⟨⟩⟩; kernel_rfl)
abbrev GG:Ent:=⟨182,_,_,fQ⟩
theorem HP:Ent.OK tP GG:=aKC
def EV(x:aH [.str,.str]):Option (aH [.int .i64]):=match x with
 | (v0,v1,()) =>
  aC (CA (v0,())) λy1 =>
  aC (CA (v1,())) λy2 =>
  bif !(eqI y1.1 y2.1) then
   bif ltI y1.1 y2.1 then
    some ((-1),())
   else some (1,())
  else aC (cO (v0,())) λy3 =>
  aC (cO (v1,())) λy4 =>
  bif y3.1 then
   aC (fQ (y4.2.1,y3.2.1,())) λy5 =>
   some (y5.1,())
  else aC (fQ (y3.2.1,y4.2.1,())) λy6 =>
  some (y6.1,())
theorem aJ9:aY tP (bZ [GG,aC8,CL]):=bB ⟨HP,aEC,xJ,trivial⟩
theorem aN6:dK tP 163 _ _ EV:=by exact bO aI aJ9 Tryz.func163 (c:=aQ Tryz.f163) (by kernel_rfl) (aT:=aG Tryz.f163) (lt:=λ_=>none) (aD (lt:=λ_=>none) (l:=[]) (by kernel_rfl) trivial) (by rintro⟨v0,v1,⟨⟩⟩; kernel_rfl)
abbrev aDT:Ent:=⟨163,_,_,EV⟩
theorem aKM:Ent.OK tP aDT:=aN6
def MU(x:aH [.str]):Option (aH [.str]):=match x with
 | (v0,()) =>
  aC (cO (v0,())) λy1 =>
  bif y1.1 then
   aC (aA (false,y1.2.1,())) λy2 =>
   some (y2.1,())
  else aC (aA (true,y1.2.1,())) λy3 =>
  some (y3.1,())
theorem aRU:aY tP (bZ [NS,CL]):=bB ⟨KD,xJ,trivial⟩
theorem aXO:dK tP 207 _ _ MU:=by exact bO aI aRU Tryz.func207 (c:=aQ Tryz.f207) (by kernel_rfl) (aT:=aG Tryz.f207) (lt:=λ_=>none) (aD (lt:=λ_=>none) (l:=[]) (by kernel_rfl) trivial) (by rintro⟨v0,⟨⟩⟩; kernel_rfl)
abbrev aH0:Ent:=⟨207,_,_,MU⟩
theorem aGO:Ent.OK tP aH0:=aXO
def M9(x:aH [.str]):Option (aH [.str]):=match x with
 | (v0,()) =>
  aC (cO (v0,())) λy1 =>
  some (y1.2.1,())
theorem aRK:aY tP (bZ [CL]):=bB ⟨xJ,trivial⟩
theorem aYU:dK tP 164 _ _ M9:=by exact bO aI aRK Tryz.func164 (c:=aQ Tryz.f164) (by kernel_rfl) (aT:=aG Tryz.f164) (lt:=λ_=>none) (aD (lt:=λ_=>none) (l:=[]) (by kernel_rfl) trivial) (by rintro⟨v0,⟨⟩⟩; kernel_rfl)
abbrev aPU:Ent:=⟨164,_,_,M9⟩
theorem aRZ:Ent.OK tP aPU:=aYU
abbrev fP:List (Nat×Kd):=[(0,.hnd 1),(2,.int .i64),(3,.int .i64),(100000,.ar 5 (.int .u8))]
abbrev jC:List (Ex×List (Nat×Kd)):=[(.exit 0,[(100000,.ar 5 (.int .u8))])]
def gS(x:Shape.den fP):Option (Shape.den fP⊕aS jC):=match x with
 | (v0,v2,v3,v100000,()) =>
  bif ltI v2 v3 then
   bif aJ v3 v0.2.2 then bif Nat.blt ((v0.2.1+v3.toNat)*1) (dB v100000 v0.1) then bif aJ v2 v0.2.2 then bif Nat.blt ((v0.2.1+v2.toNat)*1) (dB v100000 v0.1) then bif aJ v2 v0.2.2 then bif Nat.blt ((v0.2.1+v2.toNat)*1) (dB v100000 v0.1) then bif aJ v3 v0.2.2 then bif Nat.blt ((v0.2.1+v3.toNat)*1) (dB (xF v100000 v0.1 ((v0.2.1+v2.toNat)*1) (dS v100000 v0.1 ((v0.2.1+v3.toNat)*1) 0)) v0.1) then some (.inl ((v0.1,v0.2.1,v0.2.2),(aB .i64 (v2+1)),(aB .i64 (v3-1)),(xF (xF v100000 v0.1 ((v0.2.1+v2.toNat)*1) (dS v100000 v0.1 ((v0.2.1+v3.toNat)*1) 0)) v0.1 ((v0.2.1+v3.toNat)*1) (dS v100000 v0.1 ((v0.2.1+v2.toNat)*1) 0)),())) else none else none else none else none else none else none else none else none
  else some (.inr ((v100000,())))
def lL(x:Shape.den fP):Option (aS jC):=bY gS (2^64) x
def eE(u0:Unit)(x:aH [.hnd 1])(A:List (List Int)):Option ((aH [])×List (List Int)):=match x with
 | (v0,()) =>
  aC (lL ((v0.1,v0.2.1,v0.2.2),0,(aB .i64 (((v0.2.2:Nat):Int)-1)),A,())) λz1 =>
  some ((()),z1.1)
def pB:Code:=aQ Tryz.f236
abbrev uT:Env:=bZ []
theorem AM:aY tP uT:=bB trivial
def sY:Code:=eG pB 0
def tY(id:Nat):Option bI:=bif Nat.beq id 1 then some ⟨fP,jC,lL⟩ else none
theorem KA:∀ x,dY tP uT 28 (aG Tryz.f236) tY sY fP jC x=gS x:=by
 rintro⟨v0,v2,v3,v100000,⟨⟩⟩
 kernel_rfl
theorem K9:cN tP 28 sY ⟨fP,jC,lL⟩:=by exact cL AM.callee aI.mixed _ (aD (l:=[]) (by kernel_rfl) trivial) KA
theorem LZ:cB pB=[sY]:=by kernel_rfl
theorem MJ:∀ l x A,G6 tP uT Tryz.f236 (aG Tryz.f236) tY pB 5 (.int .u8) .none [.hnd 1] (.data []) l x A=eE l x A:=by
 rintro u0 ⟨v0,⟨⟩⟩ A
 kernel_rfl
theorem P6:N0 tP 236 5 (.int .u8) .none [.hnd 1] (.data []) eE:=by exact BE aI AM Tryz.func236 (c:=pB) (by kernel_rfl) (aT:=aG Tryz.f236) (lt:=tY) (by rfl) (aD LZ ⟨cK (i:=1) (by kernel_rfl) rfl K9,trivial⟩) MJ
theorem N4:aWT tP 236 5 (.int .u8) [] (XS eE):=aLU P6 (by rfl) (by rfl)
abbrev DH:Shr:=(236,U5 1 (a4L 5 (.int .u8) [] (XS eE)))
theorem LY:wN tP DH:=sG (aVS N4)
abbrev kU:List (Nat×Kd):=[(0,.list (.int .u64))]
abbrev nZ:List (Ex×List (Nat×Kd)):=[(.exit 0,[(0,.list (.int .u64))])]
def jD(x:Shape.den kU):Option (Shape.den kU⊕aS nZ):=match x with
 | (v0,()) =>
  bif ltI 0 (v0.length:Int) then
   bif aJ (aB .i64 ((v0.length:Int)-1)) v0.length then bif eqI (v0.getD ((aB .i64 ((v0.length:Int)-1)).toNat) 0) 0 then
    bif !(ltI (aB .i64 ((v0.length:Int)-1)) 0) then bif Nat.ble 0 ((aB .i64 ((v0.length:Int)-1)).toNat) then bif Nat.ble ((aB .i64 ((v0.length:Int)-1)).toNat) v0.length then some (.inl (((v0.drop 0).take ((aB .i64 ((v0.length:Int)-1)).toNat-0)),())) else none else none else none
   else some (.inr ((v0,()))) else none
  else some (.inr ((v0,())))
def vO(x:Shape.den kU):Option (aS nZ):=bY jD (2^64) x
def nN(x:aH [.list (.int .u64)]):Option (aH [.list (.int .u64)]):=match x with
 | (v0,()) =>
  aC (vO (v0,())) λz1 =>
  some (z1.1,())
def L9:Code:=aQ Tryz.f217
abbrev MC:Env:=bZ []
theorem HY:aY tP MC:=bB trivial
def A6:Code:=eG L9 0
def KZ(id:Nat):Option bI:=bif Nat.beq id 1 then some ⟨kU,nZ,vO⟩ else none
theorem RU:∀ x,dY tP MC 21 (aG Tryz.f217) KZ A6 kU nZ x=jD x:=by
 rintro⟨v0,⟨⟩⟩
 kernel_rfl
theorem SN:cN tP 21 A6 ⟨kU,nZ,vO⟩:=by exact cL HY.callee aI.mixed _ (aD (l:=[]) (by kernel_rfl) trivial) RU
theorem ZU:dK tP 217 _ _ nN:=by exact bO aI HY Tryz.func217 (c:=L9) (by kernel_rfl) (aT:=aG Tryz.f217) (lt:=KZ) (aD (l:=[A6]) (by kernel_rfl) ⟨cK (i:=1) (by kernel_rfl) rfl SN,trivial⟩) (by rintro⟨v0,⟨⟩⟩; kernel_rfl)
abbrev L6:Ent:=⟨217,_,_,nN⟩
theorem WY:Ent.OK tP L6:=ZU
abbrev hZ:List (Nat×Kd):=[(0,.own 180 (.int .u64)),(100000,.ar 180 (.int .u64))]
abbrev lJ:List (Ex×List (Nat×Kd)):=[(.exit 0,[(0,.own 180 (.int .u64)),(100000,.ar 180 (.int .u64))])]
def jS(x:Shape.den hZ):Option (Shape.den hZ⊕aS lJ):=match x with
 | (v0,v100000,()) =>
  bif ltI 0 (v0.length:Int) then
   bif aJ (aB .i64 ((v0.length:Int)-1)) v0.length then bif Nat.blt ((aB .i64 ((v0.length:Int)-1)).toNat) v0.length then bif eqI (v0.getD ((aB .i64 ((v0.length:Int)-1)).toNat) 0) 0 then
    bif !(ltI (aB .i64 ((v0.length:Int)-1)) 0) then bif Nat.ble 0 ((aB .i64 ((v0.length:Int)-1)).toNat) then bif Nat.ble ((aB .i64 ((v0.length:Int)-1)).toNat) v0.length then bif Nat.blt 0 v0.length then some (.inl ((v0.take ((aB .i64 ((v0.length:Int)-1)).toNat-0)),v100000,())) else none else none else none else none
   else some (.inr ((v0,v100000,()))) else none else none
  else some (.inr ((v0,v100000,())))
def sM(x:Shape.den hZ):Option (aS lJ):=bY jS (2^64) x
def bH(v0:List Int)(x:aH [])(A:List (List Int)):Option ((List Int)×List (List Int)):=match x with
 | (()) =>
  aC (sM (v0,A,())) λz1 =>
  some (z1.1,z1.2.1)
def sF:Code:=aQ Tryz.f217
abbrev zE:Env:=bZ []
theorem EI:aY tP zE:=bB trivial
def wD:Code:=eG sF 0
def xA(id:Nat):Option bI:=bif Nat.beq id 1 then some ⟨hZ,lJ,sM⟩ else none
theorem MM:∀ x,dY tP zE 21 (aG Tryz.f217) xA wD hZ lJ x=jS x:=by
 rintro⟨v0,v100000,⟨⟩⟩
 kernel_rfl
theorem O8:cN tP 21 wD ⟨hZ,lJ,sM⟩:=by exact cL EI.callee aI.mixed _ (aD (l:=[]) (by kernel_rfl) trivial) MM
theorem P4:cB sF=[wD]:=by kernel_rfl
theorem RR:∀ l x A,G6 tP zE Tryz.f217 (aG Tryz.f217) xA sF 180 (.int .u64) (.own 180 (.int .u64)) [] (.own 180 (.int .u64)) l x A=bH l x A:=by
 rintro u0 ⟨⟨⟩⟩ A
 kernel_rfl
theorem U1:N0 tP 217 180 (.int .u64) (.own 180 (.int .u64)) [] (.own 180 (.int .u64)) bH:=by exact BE aI EI Tryz.func217 (c:=sF) (by kernel_rfl) (aT:=aG Tryz.f217) (lt:=xA) (by rfl) (aD P4 ⟨cK (i:=1) (by kernel_rfl) rfl O8,trivial⟩) RR
abbrev gY:Shr:=(217,U5 1 (arH 180 (.int .u64) (.own 180 (.int .u64)) [] (.own 180 (.int .u64)) bH))
theorem iD:wN tP gY:=sG (g:=217) (f:=arH 180 (.int .u64) (.own 180 (.int .u64)) [] (.own 180 (.int .u64)) bH) (FV U1)
abbrev rT:List (Nat×Kd):=[(0,.str),(3,.own 180 (.int .u64)),(4,.int .i64),(5,.int .u64),(25,.list (.int .u8)),(26,.int .i64),(27,.int .i64),(100000,.ar 180 (.int .u64))]
abbrev wF:List (Ex×List (Nat×Kd)):=[(.exit 2,[(0,.str),(3,.own 180 (.int .u64)),(4,.int .i64),(5,.int .u64),(100000,.ar 180 (.int .u64))])]
def sT(x:Shape.den rT):Option (Shape.den rT⊕aS wF):=match x with
 | (v0,v3,v4,v5,v25,v26,v27,v100000,()) =>
  bif ltI v27 v26 then
   bif aJ v27 v25.length then some (.inl (v0,v3,v4,(aB .u64 ((aB .u64 (10*v5))+(IntKind.wrap .u64 (aB .u8 ((v25.getD v27.toNat 0)-48))))),v25,v26,(aB .i64 (v27+1)),v100000,())) else none
  else some (.inr ((v0,v3,v4,v5,v100000,())))
def yE(x:Shape.den rT):Option (aS wF):=bY sT (2^64) x
abbrev rM:List (Nat×Kd):=[(0,.str),(3,.own 180 (.int .u64)),(4,.int .i64),(100000,.ar 180 (.int .u64))]
abbrev vL:List (Ex×List (Nat×Kd)):=[(.exit 0,[(3,.own 180 (.int .u64)),(100000,.ar 180 (.int .u64))])]
def sL(x:Shape.den rM):Option (Shape.den rM⊕aS vL):=match x with
 | (v0,v3,v4,v100000,()) =>
  bif ltI 0 v4 then
   bif !(ltI (if 0<(aB .i64 (v4-9)) then (aB .i64 (v4-9)) else 0) 0) then bif !(ltI v4 0) then bif Nat.ble ((if 0<(aB .i64 (v4-9)) then (aB .i64 (v4-9)) else 0).toNat) v4.toNat then bif Nat.ble v4.toNat v0.size then aC (yE (v0,v3,v4,0,(XO (v0.extract ((if 0<(aB .i64 (v4-9)) then (aB .i64 (v4-9)) else 0).toNat) v4.toNat)),((XO (v0.extract ((if 0<(aB .i64 (v4-9)) then (aB .i64 (v4-9)) else 0).toNat) v4.toNat)).length:Int),0,v100000,())) λz2 =>
   bif Nat.ble [z2.2.2.2.1].length 1048576 then bif Nat.ble z2.2.1.length 1048576 then some (.inl (z2.1,(z2.2.1++[z2.2.2.2.1]),(aB .i64 (z2.2.2.1-9)),z2.2.2.2.2.1,())) else none else none else none else none else none else none
  else some (.inr ((v3,v100000,())))
def yI(x:Shape.den rM):Option (aS vL):=bY sL (2^64) x
def eV(u0:Unit)(x:aH [.str])(A:List (List Int)):Option ((List Int)×List (List Int)):=match x with
 | (v0,()) =>
  bif !(ltI (aB .i64 ((aB .i64 ((v0.size:Int).tdiv 9))+1)) 0) then bif !(ltI 1048576 (aB .i64 ((aB .i64 ((v0.size:Int).tdiv 9))+1))) then aC (yI (v0,(List.replicate 0 0),(v0.size:Int),A,())) λz3 =>
  aC (bH z3.1 (()) z3.2.1) λy4 =>
  some y4 else none else none
def IH:Code:=aQ Tryz.f215
abbrev IJ:Env:=OP [] [gY]
theorem IY:aY tP IJ:=oB trivial ⟨iD,trivial⟩
def xV:Code:=eG IH 0
def KJ:Code:=eG xV 0
def GL(id:Nat):Option bI:=bif Nat.beq id 7 then some ⟨rT,wF,yE⟩ else bif Nat.beq id 3 then some ⟨rM,vL,yI⟩ else none
theorem aCF:∀ x,dY tP IJ 44 (aG Tryz.f215) GL KJ rT wF x=sT x:=by
 rintro⟨v0,v3,v4,v5,v25,v26,v27,v100000,⟨⟩⟩
 kernel_rfl
theorem aC6:cN tP 44 KJ ⟨rT,wF,yE⟩:=by exact cL IY.callee aI.mixed _ (aD (l:=[]) (by kernel_rfl) trivial) aCF
theorem aCB:∀ x,dY tP IJ 44 (aG Tryz.f215) GL xV rM vL x=sL x:=by
 rintro⟨v0,v3,v4,v100000,⟨⟩⟩
 kernel_rfl
theorem aHI:cB xV=[KJ]:=by kernel_rfl
theorem aDY:cN tP 44 xV ⟨rM,vL,yI⟩:=by exact cL IY.callee aI.mixed _ (aD aHI ⟨cK (i:=7) (by kernel_rfl) rfl aC6,trivial⟩) aCB
theorem aF0:cB IH=[xV]:=by kernel_rfl
theorem aHT:∀ l x A,G6 tP IJ Tryz.f215 (aG Tryz.f215) GL IH 180 (.int .u64) .none [.str] (.own 180 (.int .u64)) l x A=eV l x A:=by
 rintro u0 ⟨v0,⟨⟩⟩ A
 kernel_rfl
theorem aL0:N0 tP 215 180 (.int .u64) .none [.str] (.own 180 (.int .u64)) eV:=by exact BE aI IY Tryz.func215 (c:=IH) (by kernel_rfl) (aT:=aG Tryz.f215) (lt:=GL) (by rfl) (aD aF0 ⟨cK (i:=3) (by kernel_rfl) rfl aDY,trivial⟩) aHT
abbrev DI:Shr:=(215,U5 0 (arH 180 (.int .u64) .none [.str] (.own 180 (.int .u64)) eV))
theorem CH:wN tP DI:=sG (g:=215) (f:=arH 180 (.int .u64) .none [.str] (.own 180 (.int .u64)) eV) (FV aL0)
abbrev iU:List (Nat×Kd):=[(0,.list (.int .u64)),(1,.list (.int .u64)),(5,.int .i64)]
abbrev mD:List (Ex×List (Nat×Kd)):=[(.ret,[(4,.int .i64)]),(.exit 0,[])]
def kL(x:Shape.den iU):Option (Shape.den iU⊕aS mD):=match x with
 | (v0,v1,v5,()) =>
  bif !(ltI v5 0) then
   bif aJ v5 v0.length then bif aJ v5 v1.length then bif ltI (v0.getD v5.toNat 0) (v1.getD v5.toNat 0) then
    some (.inr (.inl ((-1),())))
   else bif aJ v5 v0.length then bif aJ v5 v1.length then bif ltI (v1.getD v5.toNat 0) (v0.getD v5.toNat 0) then
    some (.inr (.inl (1,())))
   else some (.inl (v0,v1,(aB .i64 (v5-1)),())) else none else none else none else none
  else some (.inr (.inr ((()))))
def uA(x:Shape.den iU):Option (aS mD):=bY kL (2^64) x
def oQ(x:aH [.list (.int .u64),.list (.int .u64)]):Option (aH [.int .i64]):=match x with
 | (v0,v1,()) =>
  bif !(eqI (v0.length:Int) (v1.length:Int)) then
   some ((if (if (-1)<(aB .i64 ((v0.length:Int)-(v1.length:Int))) then (aB .i64 ((v0.length:Int)-(v1.length:Int))) else (-1))<1 then (if (-1)<(aB .i64 ((v0.length:Int)-(v1.length:Int))) then (aB .i64 ((v0.length:Int)-(v1.length:Int))) else (-1)) else 1),())
  else aC (uA (v0,v1,(aB .i64 ((v0.length:Int)-1)),())) λz1 =>
  zM z1 (λa2=>some (a2.1,())) λb3 =>
  some (0,())
def JZ:Code:=aQ Tryz.f228
abbrev JL:Env:=bZ []
theorem FX:aY tP JL:=bB trivial
def xH:Code:=eG JZ 0
def HX(id:Nat):Option bI:=bif Nat.beq id 4 then some ⟨iU,mD,uA⟩ else none
theorem ON:∀ x,dY tP JL 45 (aG Tryz.f228) HX xH iU mD x=kL x:=by
 rintro⟨v0,v1,v5,⟨⟩⟩
 kernel_rfl
theorem PN:cN tP 45 xH ⟨iU,mD,uA⟩:=by exact cL FX.callee aI.mixed _ (aD (l:=[]) (by kernel_rfl) trivial) ON
theorem XN:dK tP 228 _ _ oQ:=by exact bO aI FX Tryz.func228 (c:=JZ) (by kernel_rfl) (aT:=aG Tryz.f228) (lt:=HX) (aD (l:=[xH]) (by kernel_rfl) ⟨cK (i:=4) (by kernel_rfl) rfl PN,trivial⟩) (by rintro⟨v0,v1,⟨⟩⟩; kernel_rfl)
abbrev J0:Ent:=⟨228,_,_,oQ⟩
theorem SX:Ent.OK tP J0:=XN
abbrev iE:List (Nat×Kd):=[(1,.list (.int .u64)),(5,.own 180 (.int .u64)),(6,.int .i64),(7,.int .u64),(8,.int .u64),(17,.list (.int .u64)),(18,.int .i64),(19,.int .i64),(24,.list (.int .u64)),(25,.int .i64),(26,.int .i64),(100000,.ar 180 (.int .u64))]
abbrev lG:List (Ex×List (Nat×Kd)):=[(.exit 2,[(1,.list (.int .u64)),(5,.own 180 (.int .u64)),(6,.int .i64),(8,.int .u64),(17,.list (.int .u64)),(18,.int .i64),(19,.int .i64),(100000,.ar 180 (.int .u64))])]
def j4(x:Shape.den iE):Option (Shape.den iE⊕aS lG):=match x with
 | (v1,v5,v6,v7,v8,v17,v18,v19,v24,v25,v26,v100000,()) =>
  bif ltI v26 v25 then
   bif aJ v26 v24.length then bif aJ (aB .i64 (v6+v26)) v5.length then bif Nat.blt ((aB .i64 (v6+v26)).toNat) v5.length then bif aJ (aB .i64 (v6+v26)) v5.length then bif Nat.blt ((aB .i64 (v6+v26)).toNat) v5.length then some (.inl (v1,(v5.set ((aB .i64 (v6+v26)).toNat) ((aB .u64 (v8+(aB .u64 ((v5.getD ((aB .i64 (v6+v26)).toNat) 0)+(aB .u64 (v7*(v24.getD v26.toNat 0))))))).tmod 1000000000)),v6,v7,(aB .u64 ((aB .u64 (v8+(aB .u64 ((v5.getD ((aB .i64 (v6+v26)).toNat) 0)+(aB .u64 (v7*(v24.getD v26.toNat 0))))))).tdiv 1000000000)),v17,v18,v19,v24,v25,(aB .i64 (v26+1)),v100000,())) else none else none else none else none else none
  else some (.inr ((v1,v5,v6,v8,v17,v18,v19,v100000,())))
def nF(x:Shape.den iE):Option (aS lG):=bY j4 (2^64) x
abbrev gZ:List (Nat×Kd):=[(1,.list (.int .u64)),(5,.own 180 (.int .u64)),(17,.list (.int .u64)),(18,.int .i64),(19,.int .i64),(100000,.ar 180 (.int .u64))]
abbrev lD:List (Ex×List (Nat×Kd)):=[(.exit 0,[(5,.own 180 (.int .u64)),(100000,.ar 180 (.int .u64))])]
def j8(x:Shape.den gZ):Option (Shape.den gZ⊕aS lD):=match x with
 | (v1,v5,v17,v18,v19,v100000,()) =>
  bif ltI v19 v18 then
   bif aJ v19 v17.length then aC (nF (v1,v5,v19,(v17.getD v19.toNat 0),0,v17,v18,v19,v1,(v1.length:Int),0,v100000,())) λz2 =>
   bif aJ (aB .i64 (z2.2.2.1+(z2.1.length:Int))) z2.2.1.length then bif Nat.blt ((aB .i64 (z2.2.2.1+(z2.1.length:Int))).toNat) z2.2.1.length then some (.inl (z2.1,(z2.2.1.set ((aB .i64 (z2.2.2.1+(z2.1.length:Int))).toNat) z2.2.2.2.1),z2.2.2.2.2.1,z2.2.2.2.2.2.1,(aB .i64 (z2.2.2.2.2.2.2.1+1)),z2.2.2.2.2.2.2.2.1,())) else none else none else none
  else some (.inr ((v5,v100000,())))
def nJ(x:Shape.den gZ):Option (aS lD):=bY j8 (2^64) x
def eL(u0:Unit)(x:aH [.list (.int .u64),.list (.int .u64)])(A:List (List Int)):Option ((List Int)×List (List Int)):=match x with
 | (v0,v1,()) =>
  bif !(ltI (aB .i64 ((v0.length:Int)+(v1.length:Int))) 0) then bif !(ltI (aB .i64 ((v0.length:Int)+(v1.length:Int))) (aB .i64 ((v0.length:Int)+(v1.length:Int)))) then bif !(ltI 1048576 (aB .i64 ((v0.length:Int)+(v1.length:Int)))) then aC (nJ (v1,(List.replicate ((aB .i64 ((v0.length:Int)+(v1.length:Int))).toNat) 0),v0,(v0.length:Int),0,A,())) λz3 =>
  aC (bH z3.1 (()) z3.2.1) λy4 =>
  some y4 else none else none else none
def sK:Code:=aQ Tryz.f220
abbrev sJ:Env:=OP [] [gY]
theorem uW:aY tP sJ:=oB trivial ⟨iD,trivial⟩
def mG:Code:=eG sK 0
def vP:Code:=eG mG 0
def qR(id:Nat):Option bI:=bif Nat.beq id 7 then some ⟨iE,lG,nF⟩ else bif Nat.beq id 3 then some ⟨gZ,lD,nJ⟩ else none
theorem ML:∀ x,dY tP sJ 63 (aG Tryz.f220) qR vP iE lG x=j4 x:=by
 rintro⟨v1,v5,v6,v7,v8,v17,v18,v19,v24,v25,v26,v100000,⟨⟩⟩
 kernel_rfl
theorem OL:cN tP 63 vP ⟨iE,lG,nF⟩:=by exact cL uW.callee aI.mixed _ (aD (l:=[]) (by kernel_rfl) trivial) ML
theorem M5:∀ x,dY tP sJ 63 (aG Tryz.f220) qR mG gZ lD x=j8 x:=by
 rintro⟨v1,v5,v17,v18,v19,v100000,⟨⟩⟩
 kernel_rfl
theorem RC:cB mG=[vP]:=by kernel_rfl
theorem N3:cN tP 63 mG ⟨gZ,lD,nJ⟩:=by exact cL uW.callee aI.mixed _ (aD RC ⟨cK (i:=7) (by kernel_rfl) rfl OL,trivial⟩) M5
theorem PF:cB sK=[mG]:=by kernel_rfl
theorem RL:∀ l x A,G6 tP sJ Tryz.f220 (aG Tryz.f220) qR sK 180 (.int .u64) .none [.list (.int .u64),.list (.int .u64)] (.own 180 (.int .u64)) l x A=eL l x A:=by
 rintro u0 ⟨v0,v1,⟨⟩⟩ A
 kernel_rfl
theorem VG:N0 tP 220 180 (.int .u64) .none [.list (.int .u64),.list (.int .u64)] (.own 180 (.int .u64)) eL:=by exact BE aI uW Tryz.func220 (c:=sK) (by kernel_rfl) (aT:=aG Tryz.f220) (lt:=qR) (by rfl) (aD PF ⟨cK (i:=3) (by kernel_rfl) rfl N3,trivial⟩) RL
abbrev yP:Shr:=(220,U5 0 (arH 180 (.int .u64) .none [.list (.int .u64),.list (.int .u64)] (.own 180 (.int .u64)) eL))
theorem EG:wN tP yP:=sG (g:=220) (f:=arH 180 (.int .u64) .none [.list (.int .u64),.list (.int .u64)] (.own 180 (.int .u64)) eL) (FV VG)
def eZ(u0:Unit) (x:aH [.list (.int .u64),.int .u64]) (A:List (List Int)):Option ((List Int)×List (List Int)):=match x with
 | (v0,v1,()) =>
  aC (nN ([v1],())) λy1 =>
  aC (eL () (v0,y1.1,()) A) λy2 =>
  some y2
def wV:Code:=aQ Tryz.f240
abbrev G7:Env:=OP [L6] [yP]
theorem QB:aY tP G7:=oB ⟨WY,trivial⟩ ⟨EG,trivial⟩
def FI(id:Nat):Option bI:=none
theorem O0:cB wV=[]:=by kernel_rfl
theorem PH:∀ l x A,G6 tP G7 Tryz.f240 (aG Tryz.f240) FI wV 180 (.int .u64) .none [.list (.int .u64),.int .u64] (.own 180 (.int .u64)) l x A=eZ l x A:=by
 rintro u0 ⟨v0,v1,⟨⟩⟩ A
 kernel_rfl
theorem SI:N0 tP 240 180 (.int .u64) .none [.list (.int .u64),.int .u64] (.own 180 (.int .u64)) eZ:=by exact BE aI QB Tryz.func240 (c:=wV) (by kernel_rfl) (aT:=aG Tryz.f240) (lt:=FI) (by rfl) (aD O0 trivial) PH
abbrev GZ:Shr:=(240,U5 0 (arH 180 (.int .u64) .none [.list (.int .u64),.int .u64] (.own 180 (.int .u64)) eZ))
theorem PU:wN tP GZ:=sG (g:=240) (f:=arH 180 (.int .u64) .none [.list (.int .u64),.int .u64] (.own 180 (.int .u64)) eZ) (FV SI)
abbrev iP:List (Nat×Kd):=[(0,.list (.int .u64)),(1,.int .u64),(6,.own 180 (.int .u64)),(7,.int .u64),(8,.int .i64),(100000,.ar 180 (.int .u64))]
abbrev mA:List (Ex×List (Nat×Kd)):=[(.exit 0,[(6,.own 180 (.int .u64)),(7,.int .u64),(100000,.ar 180 (.int .u64))])]
def kP(x:Shape.den iP):Option (Shape.den iP⊕aS mA):=match x with
 | (v0,v1,v6,v7,v8,v100000,()) =>
  bif !(ltI v8 0) then
   bif aJ v8 v0.length then bif eqI v1 0 then none else bif aJ v8 v6.length then bif Nat.blt v8.toNat v6.length then bif eqI v1 0 then none else some (.inl (v0,v1,(v6.set v8.toNat (aB .u64 ((aB .u64 ((aB .u64 (v7*1000000000))+(v0.getD v8.toNat 0))).tdiv v1))),((aB .u64 ((aB .u64 (v7*1000000000))+(v0.getD v8.toNat 0))).tmod v1),(aB .i64 (v8-1)),v100000,())) else none else none else none
  else some (.inr ((v6,v7,v100000,())))
def oI(x:Shape.den iP):Option (aS mA):=bY kP (2^64) x
def eR(u0:Unit)(x:aH [.list (.int .u64),.int .u64])(A:List (List Int)):Option ((aH [.list (.int .u64),.int .u64])×List (List Int)):=match x with
 | (v0,v1,()) =>
  bif !(ltI (v0.length:Int) 0) then bif !(ltI (v0.length:Int) (v0.length:Int)) then bif !(ltI 1048576 (v0.length:Int)) then aC (oI (v0,v1,(List.replicate ((v0.length:Int).toNat) 0),0,(aB .i64 ((v0.length:Int)-1)),A,())) λz1 =>
  aC (bH z1.1 (()) z1.2.2.1) λy2 =>
  some ((y2.1,z1.2.1,()),y2.2) else none else none else none
def tT:Code:=aQ Tryz.f229
abbrev BN:Env:=OP [] [gY]
theorem EU:aY tP BN:=oB trivial ⟨iD,trivial⟩
def wX:Code:=eG tT 0
def zC(id:Nat):Option bI:=bif Nat.beq id 4 then some ⟨iP,mA,oI⟩ else none
theorem OC:∀ x,dY tP BN 38 (aG Tryz.f229) zC wX iP mA x=kP x:=by
 rintro⟨v0,v1,v6,v7,v8,v100000,⟨⟩⟩
 kernel_rfl
theorem PA:cN tP 38 wX ⟨iP,mA,oI⟩:=by exact cL EU.callee aI.mixed _ (aD (l:=[]) (by kernel_rfl) trivial) OC
theorem RI:cB tT=[wX]:=by kernel_rfl
theorem TE:∀ l x A,G6 tP BN Tryz.f229 (aG Tryz.f229) zC tT 180 (.int .u64) .none [.list (.int .u64),.int .u64] (.data [.list (.int .u64),.int .u64]) l x A=eR l x A:=by
 rintro u0 ⟨v0,v1,⟨⟩⟩ A
 kernel_rfl
theorem W8:N0 tP 229 180 (.int .u64) .none [.list (.int .u64),.int .u64] (.data [.list (.int .u64),.int .u64]) eR:=by exact BE aI EU Tryz.func229 (c:=tT) (by kernel_rfl) (aT:=aG Tryz.f229) (lt:=zC) (by rfl) (aD RI ⟨cK (i:=4) (by kernel_rfl) rfl PA,trivial⟩) TE
abbrev BK:Shr:=(229,U5 0 (arH 180 (.int .u64) .none [.list (.int .u64),.int .u64] (.data [.list (.int .u64),.int .u64]) eR))
theorem E7:wN tP BK:=sG (g:=229) (f:=arH 180 (.int .u64) .none [.list (.int .u64),.int .u64] (.data [.list (.int .u64),.int .u64]) eR) (FV W8)
abbrev gI:List (Nat×Kd):=[(0,.hnd 1),(1,.list (.int .u64)),(2,.int .u64),(3,.int .i64),(9,.int .i64),(10,.int .u64),(11,.int .i64),(100000,.ar 180 (.int .u64))]
abbrev kA:List (Ex×List (Nat×Kd)):=[(.exit 0,[(9,.int .i64),(100000,.ar 180 (.int .u64))])]
def fL(x:Shape.den gI):Option (Shape.den gI⊕aS kA):=match x with
 | (v0,v1,v2,v3,v9,v10,v11,v100000,()) =>
  bif !(ltI (v1.length:Int) v11) then
   bif ltI v11 (v1.length:Int) then
    bif aJ v11 v1.length then bif aJ (aB .i64 (v3+v11)) v0.2.2 then bif Nat.blt ((v0.2.1+(aB .i64 (v3+v11)).toNat)*1) (dB v100000 v0.1) then bif ltI (aB .i64 ((aB .i64 ((IntKind.wrap .i64 (dS v100000 v0.1 ((v0.2.1+(aB .i64 (v3+v11)).toNat)*1) 0))-(IntKind.wrap .i64 ((aB .u64 (v10+(aB .u64 (v2*(v1.getD v11.toNat 0))))).tmod 1000000000))))-v9)) 0 then
     bif aJ (aB .i64 (v3+v11)) v0.2.2 then bif Nat.blt ((v0.2.1+(aB .i64 (v3+v11)).toNat)*1) (dB v100000 v0.1) then some (.inl ((v0.1,v0.2.1,v0.2.2),v1,v2,v3,1,(aB .u64 ((aB .u64 (v10+(aB .u64 (v2*(v1.getD v11.toNat 0))))).tdiv 1000000000)),(aB .i64 (v11+1)),(xF v100000 v0.1 ((v0.2.1+(aB .i64 (v3+v11)).toNat)*1) (IntKind.wrap .u64 (aB .i64 ((aB .i64 ((aB .i64 ((IntKind.wrap .i64 (dS v100000 v0.1 ((v0.2.1+(aB .i64 (v3+v11)).toNat)*1) 0))-(IntKind.wrap .i64 ((aB .u64 (v10+(aB .u64 (v2*(v1.getD v11.toNat 0))))).tmod 1000000000))))-v9))+1000000000)))),())) else none else none
    else bif aJ (aB .i64 (v3+v11)) v0.2.2 then bif Nat.blt ((v0.2.1+(aB .i64 (v3+v11)).toNat)*1) (dB v100000 v0.1) then some (.inl ((v0.1,v0.2.1,v0.2.2),v1,v2,v3,0,(aB .u64 ((aB .u64 (v10+(aB .u64 (v2*(v1.getD v11.toNat 0))))).tdiv 1000000000)),(aB .i64 (v11+1)),(xF v100000 v0.1 ((v0.2.1+(aB .i64 (v3+v11)).toNat)*1) (IntKind.wrap .u64 (aB .i64 ((aB .i64 ((IntKind.wrap .i64 (dS v100000 v0.1 ((v0.2.1+(aB .i64 (v3+v11)).toNat)*1) 0))-(IntKind.wrap .i64 ((aB .u64 (v10+(aB .u64 (v2*(v1.getD v11.toNat 0))))).tmod 1000000000))))-v9)))),())) else none else none else none else none else none
   else bif aJ (aB .i64 (v3+v11)) v0.2.2 then bif Nat.blt ((v0.2.1+(aB .i64 (v3+v11)).toNat)*1) (dB v100000 v0.1) then bif ltI (aB .i64 ((aB .i64 ((IntKind.wrap .i64 (dS v100000 v0.1 ((v0.2.1+(aB .i64 (v3+v11)).toNat)*1) 0))-(IntKind.wrap .i64 (v10.tmod 1000000000))))-v9)) 0 then
    bif aJ (aB .i64 (v3+v11)) v0.2.2 then bif Nat.blt ((v0.2.1+(aB .i64 (v3+v11)).toNat)*1) (dB v100000 v0.1) then some (.inl ((v0.1,v0.2.1,v0.2.2),v1,v2,v3,1,(aB .u64 (v10.tdiv 1000000000)),(aB .i64 (v11+1)),(xF v100000 v0.1 ((v0.2.1+(aB .i64 (v3+v11)).toNat)*1) (IntKind.wrap .u64 (aB .i64 ((aB .i64 ((aB .i64 ((IntKind.wrap .i64 (dS v100000 v0.1 ((v0.2.1+(aB .i64 (v3+v11)).toNat)*1) 0))-(IntKind.wrap .i64 (v10.tmod 1000000000))))-v9))+1000000000)))),())) else none else none
   else bif aJ (aB .i64 (v3+v11)) v0.2.2 then bif Nat.blt ((v0.2.1+(aB .i64 (v3+v11)).toNat)*1) (dB v100000 v0.1) then some (.inl ((v0.1,v0.2.1,v0.2.2),v1,v2,v3,0,(aB .u64 (v10.tdiv 1000000000)),(aB .i64 (v11+1)),(xF v100000 v0.1 ((v0.2.1+(aB .i64 (v3+v11)).toNat)*1) (IntKind.wrap .u64 (aB .i64 ((aB .i64 ((IntKind.wrap .i64 (dS v100000 v0.1 ((v0.2.1+(aB .i64 (v3+v11)).toNat)*1) 0))-(IntKind.wrap .i64 (v10.tmod 1000000000))))-v9)))),())) else none else none else none else none
  else some (.inr ((v9,v100000,())))
def pC(x:Shape.den gI):Option (aS kA):=bY fL (2^64) x
def eK(u0:Unit)(x:aH [.hnd 1,.list (.int .u64),.int .u64,.int .i64])(A:List (List Int)):Option ((aH [.bool])×List (List Int)):=match x with
 | (v0,v1,v2,v3,()) =>
  aC (pC ((v0.1,v0.2.1,v0.2.2),v1,v2,v3,0,0,0,A,())) λz1 =>
  some ((ltI 0 z1.1,()),z1.2.1)
def uU:Code:=aQ Tryz.f219
abbrev CF:Env:=bZ []
theorem HA:aY tP CF:=bB trivial
def yO:Code:=eG uU 0
def BH(id:Nat):Option bI:=bif Nat.beq id 4 then some ⟨gI,kA,pC⟩ else none
theorem O9:∀ x,dY tP CF 59 (aG Tryz.f219) BH yO gI kA x=fL x:=by
 rintro⟨v0,v1,v2,v3,v9,v10,v11,v100000,⟨⟩⟩
 kernel_rfl
theorem RA:cN tP 59 yO ⟨gI,kA,pC⟩:=by exact cL HA.callee aI.mixed _ (aD (l:=[]) (by kernel_rfl) trivial) O9
theorem TU:cB uU=[yO]:=by kernel_rfl
theorem U3:∀ l x A,G6 tP CF Tryz.f219 (aG Tryz.f219) BH uU 180 (.int .u64) .none [.hnd 1,.list (.int .u64),.int .u64,.int .i64] (.data [.bool]) l x A=eK l x A:=by
 rintro u0 ⟨v0,v1,v2,v3,⟨⟩⟩ A
 kernel_rfl
theorem YP:N0 tP 219 180 (.int .u64) .none [.hnd 1,.list (.int .u64),.int .u64,.int .i64] (.data [.bool]) eK:=by exact BE aI HA Tryz.func219 (c:=uU) (by kernel_rfl) (aT:=aG Tryz.f219) (lt:=BH) (by rfl) (aD TU ⟨cK (i:=4) (by kernel_rfl) rfl RA,trivial⟩) U3
theorem WU:a0B tP 219 180 (.int .u64) [.list (.int .u64),.int .u64,.int .i64] [.bool] (aD1 eK):=aP5 YP (by rfl) (by rfl) (by rfl)
abbrev BA:Shr:=(219,U5 1 (a15 180 (.int .u64) [.list (.int .u64),.int .u64,.int .i64] [.bool] (aD1 eK)))
theorem FR:wN tP BA:=sG (a5U WU)
abbrev j9:List (Nat×Kd):=[(0,.hnd 1),(1,.list (.int .u64)),(2,.int .i64),(6,.int .u64),(7,.int .i64),(100000,.ar 180 (.int .u64))]
abbrev mX:List (Ex×List (Nat×Kd)):=[(.exit 0,[(100000,.ar 180 (.int .u64))])]
def fK(x:Shape.den j9):Option (Shape.den j9⊕aS mX):=match x with
 | (v0,v1,v2,v6,v7,v100000,()) =>
  bif !(ltI (v1.length:Int) v7) then
   bif aJ (aB .i64 (v2+v7)) v0.2.2 then bif Nat.blt ((v0.2.1+(aB .i64 (v2+v7)).toNat)*1) (dB v100000 v0.1) then bif ltI v7 (v1.length:Int) then
    bif aJ v7 v1.length then bif aJ (aB .i64 (v2+v7)) v0.2.2 then bif Nat.blt ((v0.2.1+(aB .i64 (v2+v7)).toNat)*1) (dB v100000 v0.1) then some (.inl ((v0.1,v0.2.1,v0.2.2),v1,v2,(aB .u64 ((aB .u64 ((aB .u64 (v6+(dS v100000 v0.1 ((v0.2.1+(aB .i64 (v2+v7)).toNat)*1) 0)))+(v1.getD v7.toNat 0))).tdiv 1000000000)),(aB .i64 (v7+1)),(xF v100000 v0.1 ((v0.2.1+(aB .i64 (v2+v7)).toNat)*1) ((aB .u64 ((aB .u64 (v6+(dS v100000 v0.1 ((v0.2.1+(aB .i64 (v2+v7)).toNat)*1) 0)))+(v1.getD v7.toNat 0))).tmod 1000000000)),())) else none else none else none
   else bif aJ (aB .i64 (v2+v7)) v0.2.2 then bif Nat.blt ((v0.2.1+(aB .i64 (v2+v7)).toNat)*1) (dB v100000 v0.1) then some (.inl ((v0.1,v0.2.1,v0.2.2),v1,v2,(aB .u64 ((aB .u64 (v6+(dS v100000 v0.1 ((v0.2.1+(aB .i64 (v2+v7)).toNat)*1) 0))).tdiv 1000000000)),(aB .i64 (v7+1)),(xF v100000 v0.1 ((v0.2.1+(aB .i64 (v2+v7)).toNat)*1) ((aB .u64 (v6+(dS v100000 v0.1 ((v0.2.1+(aB .i64 (v2+v7)).toNat)*1) 0))).tmod 1000000000)),())) else none else none else none else none
  else some (.inr ((v100000,())))
def pD(x:Shape.den j9):Option (aS mX):=bY fK (2^64) x
def cX(u0:Unit)(x:aH [.hnd 1,.list (.int .u64),.int .i64])(A:List (List Int)):Option ((aH [])×List (List Int)):=match x with
 | (v0,v1,v2,()) =>
  aC (pD ((v0.1,v0.2.1,v0.2.2),v1,v2,0,0,A,())) λz1 =>
  some ((()),z1.1)
def uZ:Code:=aQ Tryz.f216
abbrev C4:Env:=bZ []
theorem G8:aY tP C4:=bB trivial
def yL:Code:=eG uZ 0
def BF(id:Nat):Option bI:=bif Nat.beq id 2 then some ⟨j9,mX,pD⟩ else none
theorem PE:∀ x,dY tP C4 41 (aG Tryz.f216) BF yL j9 mX x=fK x:=by
 rintro⟨v0,v1,v2,v6,v7,v100000,⟨⟩⟩
 kernel_rfl
theorem RZ:cN tP 41 yL ⟨j9,mX,pD⟩:=by exact cL G8.callee aI.mixed _ (aD (l:=[]) (by kernel_rfl) trivial) PE
theorem UM:cB uZ=[yL]:=by kernel_rfl
theorem U8:∀ l x A,G6 tP C4 Tryz.f216 (aG Tryz.f216) BF uZ 180 (.int .u64) .none [.hnd 1,.list (.int .u64),.int .i64] (.data []) l x A=cX l x A:=by
 rintro u0 ⟨v0,v1,v2,⟨⟩⟩ A
 kernel_rfl
theorem X0:N0 tP 216 180 (.int .u64) .none [.hnd 1,.list (.int .u64),.int .i64] (.data []) cX:=by exact BE aI G8 Tryz.func216 (c:=uZ) (by kernel_rfl) (aT:=aG Tryz.f216) (lt:=BF) (by rfl) (aD UM ⟨cK (i:=2) (by kernel_rfl) rfl RZ,trivial⟩) U8
theorem XT:aWT tP 216 180 (.int .u64) [.list (.int .u64),.int .i64] (XS cX):=aLU X0 (by rfl) (by rfl)
abbrev AS:Shr:=(216,U5 1 (a4L 180 (.int .u64) [.list (.int .u64),.int .i64] (XS cX)))
theorem FT:wN tP AS:=sG (aVS XT)
abbrev lW:List (Nat×Kd):=[(0,.list (.int .u64)),(3,.own 5 (.int .u8)),(4,.int .i64),(5,.int .u64),(6,.int .i64),(14,.list (.int .u64)),(15,.int .i64),(16,.int .i64)]
abbrev o4:List (Ex×List (Nat×Kd)):=[(.exit 2,[(0,.list (.int .u64)),(3,.own 5 (.int .u8)),(14,.list (.int .u64)),(15,.int .i64),(16,.int .i64)])]
def eY(x:Shape.den lW):Option (Shape.den lW⊕aS o4):=match x with
 | (v0,v3,v4,v5,v6,v14,v15,v16,()) =>
  bif ltI v6 9 then
   bif ltI (aB .i64 (v4+1)) (v0.length:Int) then
    bif Nat.ble [(IntKind.wrap .u8 (aB .u64 (48+(v5.tmod 10))))].length 1048576 then bif Nat.ble v3.length 1048576 then some (.inl (v0,(v3++[(IntKind.wrap .u8 (aB .u64 (48+(v5.tmod 10))))]),v4,(aB .u64 (v5.tdiv 10)),(aB .i64 (v6+1)),v14,v15,v16,())) else none else none
   else bif ltI 0 v5 then
    bif Nat.ble [(IntKind.wrap .u8 (aB .u64 (48+(v5.tmod 10))))].length 1048576 then bif Nat.ble v3.length 1048576 then some (.inl (v0,(v3++[(IntKind.wrap .u8 (aB .u64 (48+(v5.tmod 10))))]),v4,(aB .u64 (v5.tdiv 10)),(aB .i64 (v6+1)),v14,v15,v16,())) else none else none
   else some (.inr ((v0,v3,v14,v15,v16,())))
  else some (.inr ((v0,v3,v14,v15,v16,())))
def nA(x:Shape.den lW):Option (aS o4):=bY eY (2^64) x
abbrev lY:List (Nat×Kd):=[(0,.list (.int .u64)),(3,.own 5 (.int .u8)),(14,.list (.int .u64)),(15,.int .i64),(16,.int .i64)]
abbrev oS:List (Ex×List (Nat×Kd)):=[(.exit 0,[(3,.own 5 (.int .u8))])]
def kB(x:Shape.den lY):Option (Shape.den lY⊕aS oS):=match x with
 | (v0,v3,v14,v15,v16,()) =>
  bif ltI v16 v15 then
   bif aJ v16 v14.length then aC (nA (v0,v3,v16,(v14.getD v16.toNat 0),0,v14,v15,v16,())) λz2 =>
   some (.inl (z2.1,z2.2.1,z2.2.2.1,z2.2.2.2.1,(aB .i64 (z2.2.2.2.2.1+1)),())) else none
  else some (.inr ((v3,())))
def mU(x:Shape.den lY):Option (aS oS):=bY kB (2^64) x
def b8(x:aH [.list (.int .u64)]):Option (aH [.str]):=match x with
 | (v0,()) =>
  bif eqI (v0.length:Int) 0 then
   some ((ByteArray.mk #[48]),())
  else bif !(ltI (aB .i64 (9*(v0.length:Int))) 0) then bif !(ltI 1048576 (aB .i64 (9*(v0.length:Int)))) then aC (mU (v0,(List.replicate 0 0),v0,(v0.length:Int),0,())) λz3 =>
  aC (XS (t:=(.int .u8)) eE z3.1 (())) λy4 =>
  some ((aQA y4),()) else none else none
def NQ:Code:=aQ Tryz.f218
abbrev EW:Env:=OP [] [DH]
theorem AH:aY tP EW:=oB trivial ⟨LY,trivial⟩
def qA:Code:=eG NQ 0
def C2:Code:=eG qA 0
def D6(id:Nat):Option bI:=bif Nat.beq id 8 then some ⟨lW,o4,nA⟩ else bif Nat.beq id 5 then some ⟨lY,oS,mU⟩ else none
theorem TF:∀ x,dY tP EW 50 (aG Tryz.f218) D6 C2 lW o4 x=eY x:=by
 rintro⟨v0,v3,v4,v5,v6,v14,v15,v16,⟨⟩⟩
 kernel_rfl
theorem UX:cN tP 50 C2 ⟨lW,o4,nA⟩:=by exact cL AH.callee aI.mixed _ (aD (l:=[]) (by kernel_rfl) trivial) TF
theorem T6:∀ x,dY tP EW 50 (aG Tryz.f218) D6 qA lY oS x=kB x:=by
 rintro⟨v0,v3,v14,v15,v16,⟨⟩⟩
 kernel_rfl
theorem ZE:cB qA=[C2]:=by kernel_rfl
theorem VK:cN tP 50 qA ⟨lY,oS,mU⟩:=by exact cL AH.callee aI.mixed _ (aD ZE ⟨cK (i:=8) (by kernel_rfl) rfl UX,trivial⟩) T6
theorem aB7:dK tP 218 _ _ b8:=by exact bO aI AH Tryz.func218 (c:=NQ) (by kernel_rfl) (aT:=aG Tryz.f218) (lt:=D6) (aD (l:=[qA]) (by kernel_rfl) ⟨cK (i:=5) (by kernel_rfl) rfl VK,trivial⟩) (by rintro⟨v0,⟨⟩⟩; kernel_rfl)
abbrev sR:Ent:=⟨218,_,_,b8⟩
theorem tI:Ent.OK tP sR:=aB7
abbrev hX:List (Nat×Kd):=[(0,.list (.int .u64)),(6,.int .u64),(7,.own 180 (.int .u64)),(8,.list (.int .u64)),(9,.int .i64),(100000,.ar 180 (.int .u64))]
abbrev lM:List (Ex×List (Nat×Kd)):=[(.exit 0,[(6,.int .u64),(7,.own 180 (.int .u64)),(8,.list (.int .u64)),(9,.int .i64),(100000,.ar 180 (.int .u64))])]
def nG(x:Shape.den hX):Option (Shape.den hX⊕aS lM):=match x with
 | (v0,v6,v7,v8,v9,v100000,()) =>
  bif !(ltI (v0.length:Int) (v7.length:Int)) then
   bif Nat.ble [0].length 1048576 then bif Nat.ble v7.length 1048576 then some (.inl (v0,v6,(v7++[0]),v8,v9,v100000,())) else none else none
  else some (.inr ((v6,v7,v8,v9,v100000,())))
def nI(x:Shape.den hX):Option (aS lM):=bY nG (2^64) x
abbrev iC:List (Nat×Kd):=[(6,.int .u64),(7,.own 180 (.int .u64)),(8,.list (.int .u64)),(9,.int .i64),(10,.own 180 (.int .u64)),(11,.int .i64),(13,.int .u64),(14,.int .u64),(100000,.ar 180 (.int .u64))]
abbrev lK:List (Ex×List (Nat×Kd)):=[(.exit 4,[(6,.int .u64),(7,.own 180 (.int .u64)),(8,.list (.int .u64)),(9,.int .i64),(10,.own 180 (.int .u64)),(11,.int .i64),(13,.int .u64),(100000,.ar 180 (.int .u64))])]
def jT(x:Shape.den iC):Option (Shape.den iC⊕aS lK):=match x with
 | (v6,v7,v8,v9,v10,v11,v13,v14,v100000,()) =>
  bif !(ltI v13 1000000000) then
   bif aJ (aB .i64 (v9-1)) v8.length then some (.inl (v6,v7,v8,v9,v10,v11,(aB .u64 (v13-1)),(aB .u64 (v14+(v8.getD ((aB .i64 (v9-1)).toNat) 0))),v100000,())) else none
  else bif ltI v14 1000000000 then
   bif aJ (aB .i64 (v9-2)) v8.length then bif aJ (aB .i64 ((aB .i64 (v11+v9))-2)) v7.length then bif Nat.blt ((aB .i64 ((aB .i64 (v11+v9))-2)).toNat) v7.length then bif ltI (aB .u64 ((aB .u64 (v14*1000000000))+(v7.getD ((aB .i64 ((aB .i64 (v11+v9))-2)).toNat) 0))) (aB .u64 (v13*(v8.getD ((aB .i64 (v9-2)).toNat) 0))) then
    bif aJ (aB .i64 (v9-1)) v8.length then some (.inl (v6,v7,v8,v9,v10,v11,(aB .u64 (v13-1)),(aB .u64 (v14+(v8.getD ((aB .i64 (v9-1)).toNat) 0))),v100000,())) else none
   else some (.inr ((v6,v7,v8,v9,v10,v11,v13,v100000,()))) else none else none else none
  else some (.inr ((v6,v7,v8,v9,v10,v11,v13,v100000,())))
def nE(x:Shape.den iC):Option (aS lK):=bY jT (2^64) x
abbrev hU:List (Nat×Kd):=[(6,.int .u64),(7,.own 180 (.int .u64)),(8,.list (.int .u64)),(9,.int .i64),(10,.own 180 (.int .u64)),(11,.int .i64),(100000,.ar 180 (.int .u64))]
abbrev lF:List (Ex×List (Nat×Kd)):=[(.exit 2,[(6,.int .u64),(7,.own 180 (.int .u64)),(10,.own 180 (.int .u64)),(100000,.ar 180 (.int .u64))])]
def eP(x:Shape.den hU):Option (Shape.den hU⊕aS lF):=match x with
 | (v6,v7,v8,v9,v10,v11,v100000,()) =>
  bif !(ltI v11 0) then
   bif aJ (aB .i64 (v11+v9)) v7.length then bif Nat.blt ((aB .i64 (v11+v9)).toNat) v7.length then bif aJ (aB .i64 ((aB .i64 (v11+v9))-1)) v7.length then bif Nat.blt ((aB .i64 ((aB .i64 (v11+v9))-1)).toNat) v7.length then bif aJ (aB .i64 (v9-1)) v8.length then bif eqI (v8.getD ((aB .i64 (v9-1)).toNat) 0) 0 then none else bif aJ (aB .i64 (v9-1)) v8.length then bif eqI (v8.getD ((aB .i64 (v9-1)).toNat) 0) 0 then none else aC (nE (v6,v7,v8,v9,v10,v11,(aB .u64 ((aB .u64 ((aB .u64 ((v7.getD ((aB .i64 (v11+v9)).toNat) 0)*1000000000))+(v7.getD ((aB .i64 ((aB .i64 (v11+v9))-1)).toNat) 0))).tdiv (v8.getD ((aB .i64 (v9-1)).toNat) 0))),((aB .u64 ((aB .u64 ((v7.getD ((aB .i64 (v11+v9)).toNat) 0)*1000000000))+(v7.getD ((aB .i64 ((aB .i64 (v11+v9))-1)).toNat) 0))).tmod (v8.getD ((aB .i64 (v9-1)).toNat) 0)),v100000,())) λz7 =>
   aC (aD1 (t:=(.int .u64)) (rets:=[.bool]) eK z7.2.1 (z7.2.2.1,z7.2.2.2.2.2.2.1,z7.2.2.2.2.2.1,())) λy8 =>
   bif y8.1.1 then
    aC (XS (t:=(.int .u64)) cX y8.2 (z7.2.2.1,z7.2.2.2.2.2.1,())) λy9 =>
    bif aJ z7.2.2.2.2.2.1 z7.2.2.2.2.1.length then bif Nat.blt z7.2.2.2.2.2.1.toNat z7.2.2.2.2.1.length then some (.inl (z7.1,y9,z7.2.2.1,z7.2.2.2.1,(z7.2.2.2.2.1.set z7.2.2.2.2.2.1.toNat (aB .u64 (z7.2.2.2.2.2.2.1-1))),(aB .i64 (z7.2.2.2.2.2.1-1)),z7.2.2.2.2.2.2.2.1,())) else none else none
   else bif aJ z7.2.2.2.2.2.1 z7.2.2.2.2.1.length then bif Nat.blt z7.2.2.2.2.2.1.toNat z7.2.2.2.2.1.length then some (.inl (z7.1,y8.2,z7.2.2.1,z7.2.2.2.1,(z7.2.2.2.2.1.set z7.2.2.2.2.2.1.toNat z7.2.2.2.2.2.2.1),(aB .i64 (z7.2.2.2.2.2.1-1)),z7.2.2.2.2.2.2.2.1,())) else none else none else none else none else none else none else none else none
  else some (.inr ((v6,v7,v10,v100000,())))
def nC(x:Shape.den hU):Option (aS lF):=bY eP (2^64) x
def fN(u0:Unit)(x:aH [.list (.int .u64),.list (.int .u64)])(A:List (List Int)):Option ((aH [.list (.int .u64),.list (.int .u64)])×List (List Int)):=match x with
 | (v0,v1,()) =>
  bif aJ (aB .i64 ((v1.length:Int)-1)) v1.length then bif eqI (aB .u64 ((v1.getD ((aB .i64 ((v1.length:Int)-1)).toNat) 0)+1)) 0 then none else aC (eZ () (v0,(aB .u64 ((1000000000:Int).tdiv (aB .u64 ((v1.getD ((aB .i64 ((v1.length:Int)-1)).toNat) 0)+1)))),()) A) λy1 =>
  bif Nat.ble [0].length 1048576 then bif Nat.ble y1.1.length 1048576 then aC (eZ () (v1,(aB .u64 ((1000000000:Int).tdiv (aB .u64 ((v1.getD ((aB .i64 ((v1.length:Int)-1)).toNat) 0)+1)))),()) y1.2) λy2 =>
  aC (nI (v0,(aB .u64 ((1000000000:Int).tdiv (aB .u64 ((v1.getD ((aB .i64 ((v1.length:Int)-1)).toNat) 0)+1)))),(y1.1++[0]),y2.1,(y2.1.length:Int),y2.2,())) λz3 =>
  bif !(ltI (aB .i64 ((z3.2.1.length:Int)-z3.2.2.2.1)) 0) then bif !(ltI (aB .i64 ((z3.2.1.length:Int)-z3.2.2.2.1)) (aB .i64 ((z3.2.1.length:Int)-z3.2.2.2.1))) then bif !(ltI 1048576 (aB .i64 ((z3.2.1.length:Int)-z3.2.2.2.1))) then aC (nC (z3.1,z3.2.1,z3.2.2.1,z3.2.2.2.1,(List.replicate ((aB .i64 ((z3.2.1.length:Int)-z3.2.2.2.1)).toNat) 0),(aB .i64 ((aB .i64 ((z3.2.1.length:Int)-z3.2.2.2.1))-1)),z3.2.2.2.2.1,())) λz10 =>
  aC (bH z10.2.1 (()) z10.2.2.2.1) λy11 =>
  aC (eR () (y11.1,z10.1,()) y11.2) λy12 =>
  aC (bH z10.2.2.1 (()) y12.2) λy13 =>
  some ((y13.1,y12.1.1,()),y13.2) else none else none else none else none else none else none
def n9:Code:=aQ Tryz.f230
abbrev nW:Env:=OP [] [AS,GZ,BK,BA,gY]
theorem pF:aY tP nW:=oB trivial ⟨FT,PU,E7,FR,iD,trivial⟩
def vY:Code:=eG n9 0
def l9:Code:=eG n9 1
def vQ:Code:=eG l9 0
def nB(id:Nat):Option bI:=bif Nat.beq id 4 then some ⟨hX,lM,nI⟩ else bif Nat.beq id 12 then some ⟨iC,lK,nE⟩ else bif Nat.beq id 8 then some ⟨hU,lF,nC⟩ else none
theorem M4:∀ x,dY tP nW 146 (aG Tryz.f230) nB vY hX lM x=nG x:=by
 rintro⟨v0,v6,v7,v8,v9,v100000,⟨⟩⟩
 kernel_rfl
theorem O2:cN tP 146 vY ⟨hX,lM,nI⟩:=by exact cL pF.callee aI.mixed _ (aD (l:=[]) (by kernel_rfl) trivial) M4
theorem NA:∀ x,dY tP nW 146 (aG Tryz.f230) nB vQ iC lK x=jT x:=by
 rintro⟨v6,v7,v8,v9,v10,v11,v13,v14,v100000,⟨⟩⟩
 kernel_rfl
theorem OH:cN tP 146 vQ ⟨iC,lK,nE⟩:=by exact cL pF.callee aI.mixed _ (aD (l:=[]) (by kernel_rfl) trivial) NA
theorem ND:∀ x,dY tP nW 146 (aG Tryz.f230) nB l9 hU lF x=eP x:=by
 rintro⟨v6,v7,v8,v9,v10,v11,v100000,⟨⟩⟩
 kernel_rfl
theorem RW:cB l9=[vQ]:=by kernel_rfl
theorem O1:cN tP 146 l9 ⟨hU,lF,nC⟩:=by exact cL pF.callee aI.mixed _ (aD RW ⟨cK (i:=12) (by kernel_rfl) rfl OH,trivial⟩) ND
theorem QE:cB n9=[vY,l9]:=by kernel_rfl
theorem RS:∀ l x A,G6 tP nW Tryz.f230 (aG Tryz.f230) nB n9 180 (.int .u64) .none [.list (.int .u64),.list (.int .u64)] (.data [.list (.int .u64),.list (.int .u64)]) l x A=fN l x A:=by
 rintro u0 ⟨v0,v1,⟨⟩⟩ A
 kernel_rfl
theorem VJ:N0 tP 230 180 (.int .u64) .none [.list (.int .u64),.list (.int .u64)] (.data [.list (.int .u64),.list (.int .u64)]) fN:=by exact BE aI pF Tryz.func230 (c:=n9) (by kernel_rfl) (aT:=aG Tryz.f230) (lt:=nB) (by rfl) (aD QE ⟨cK (i:=4) (by kernel_rfl) rfl O2,cK (i:=8) (by kernel_rfl) rfl O1,trivial⟩) RS
abbrev IE:Shr:=(230,U5 0 (arH 180 (.int .u64) .none [.list (.int .u64),.list (.int .u64)] (.data [.list (.int .u64),.list (.int .u64)]) fN))
theorem Q8:wN tP IE:=sG (g:=230) (f:=arH 180 (.int .u64) .none [.list (.int .u64),.list (.int .u64)] (.data [.list (.int .u64),.list (.int .u64)]) fN) (FV VJ)
def fE(x:aH [.str,.str]):Option (aH [.str]):=match x with
 | (v0,v1,()) =>
  aC (pK (v0,v1,())) λy1 =>
  bif y1.2.2.1 then
   aC (tC ((aB .u64 (y1.1+y1.2.1)),())) λy2 =>
   some (y2.1,())
  else aC (eV () (v0,()) []) λy3 =>
  aC (eV () (v1,()) y3.2) λy4 =>
  bif ltI (y3.1.length:Int) (y4.1.length:Int) then
   bif Nat.ble [0].length 1048576 then bif Nat.ble y4.1.length 1048576 then bif !(ltI (aB .i64 ((aB .i64 (((y4.1++[0]).length:Int)-1))-(y3.1.length:Int))) 0) then bif !(ltI 1048576 (aB .i64 ((aB .i64 (((y4.1++[0]).length:Int)-1))-(y3.1.length:Int)))) then bif Nat.ble y3.1.length 1048576 then aC (XS (t:=(.int .u64)) cX (y4.1++[0]) ((y3.1++List.replicate (aB .i64 ((aB .i64 (((y4.1++[0]).length:Int)-1))-(y3.1.length:Int))).toNat (0:Ty.den (.int .u64))),0,())) λy5 =>
   aC (bH y5 (()) y4.2) λy6 =>
   aC (b8 (y6.1,())) λy7 =>
   some (y7.1,()) else none else none else none else none else none
  else bif Nat.ble [0].length 1048576 then bif Nat.ble y3.1.length 1048576 then bif !(ltI (aB .i64 ((aB .i64 (((y3.1++[0]).length:Int)-1))-(y4.1.length:Int))) 0) then bif !(ltI 1048576 (aB .i64 ((aB .i64 (((y3.1++[0]).length:Int)-1))-(y4.1.length:Int)))) then bif Nat.ble y4.1.length 1048576 then aC (XS (t:=(.int .u64)) cX (y3.1++[0]) ((y4.1++List.replicate (aB .i64 ((aB .i64 (((y3.1++[0]).length:Int)-1))-(y4.1.length:Int))).toNat (0:Ty.den (.int .u64))),0,())) λy8 =>
  aC (bH y8 (()) y4.2) λy9 =>
  aC (b8 (y9.1,())) λy10 =>
  some (y10.1,()) else none else none else none else none else none
def ZO:Code:=aQ Tryz.f181
abbrev aKZ:Env:=OP [NX,IG,sR] [DI,AS,gY]
theorem aNO:aY tP aKZ:=oB ⟨LB,GC,tI,trivial⟩ ⟨CH,FT,iD,trivial⟩
def aG8(id:Nat):Option bI:=none
theorem aK6:cB ZO=[]:=by kernel_rfl
theorem aNY:∀ x,aGR tP aKZ Tryz.f181 (aG Tryz.f181) aG8 ZO 180 (.int .u64) _ _ x=fE x:=by
 rintro⟨v0,v1,⟨⟩⟩
 kernel_rfl
theorem aSF:dK tP 181 _ _ fE:=by exact aM5 aI aNO Tryz.func181 (c:=ZO) (by kernel_rfl) (aT:=aG Tryz.f181) (lt:=aG8) (aD aK6 trivial) aNY
abbrev ZR:Ent:=⟨181,_,_,fE⟩
theorem aBQ:Ent.OK tP ZR:=aSF
def cY(x:aH [.str,.str]):Option (aH [.str,.int .i64]):=match x with
 | (v0,v1,()) =>
  aC (fQ (v0,v1,())) λy1 =>
  bif ltI y1.1 0 then
   some ((ByteArray.mk #[]),3,())
  else aC (pK (v0,v1,())) λy2 =>
  bif y2.2.2.1 then
   aC (tC ((aB .u64 (y2.1-y2.2.1)),())) λy3 =>
   some (y3.1,0,())
  else aC (eV () (v0,()) []) λy4 =>
  bif Nat.ble [0].length 1048576 then bif Nat.ble y4.1.length 1048576 then aC (eV () (v1,()) y4.2) λy5 =>
  aC (eV () (v1,()) y5.2) λy6 =>
  bif !(ltI (aB .i64 ((aB .i64 (((y4.1++[0]).length:Int)-1))-(y6.1.length:Int))) 0) then bif !(ltI 1048576 (aB .i64 ((aB .i64 (((y4.1++[0]).length:Int)-1))-(y6.1.length:Int)))) then bif Nat.ble y5.1.length 1048576 then aC (aD1 (t:=(.int .u64)) (rets:=[.bool]) eK (y4.1++[0]) ((y5.1++List.replicate (aB .i64 ((aB .i64 (((y4.1++[0]).length:Int)-1))-(y6.1.length:Int))).toNat (0:Ty.den (.int .u64))),1,0,())) λy7 =>
  aC (bH y7.2 (()) y6.2) λy8 =>
  aC (b8 (y8.1,())) λy9 =>
  some (y9.1,0,()) else none else none else none else none else none
def aA9:Code:=aQ Tryz.f183
abbrev aJQ:Env:=OP [GG,NX,IG,sR] [DI,BA,gY]
theorem aN1:aY tP aJQ:=oB ⟨HP,LB,GC,tI,trivial⟩ ⟨CH,FR,iD,trivial⟩
def aHB(id:Nat):Option bI:=none
theorem aLF:cB aA9=[]:=by kernel_rfl
theorem aNW:∀ x,aGR tP aJQ Tryz.f183 (aG Tryz.f183) aHB aA9 180 (.int .u64) _ _ x=cY x:=by
 rintro⟨v0,v1,⟨⟩⟩
 kernel_rfl
theorem aRI:dK tP 183 _ _ cY:=by exact aM5 aI aN1 Tryz.func183 (c:=aA9) (by kernel_rfl) (aT:=aG Tryz.f183) (lt:=aHB) (aD aLF trivial) aNW
abbrev ZV:Ent:=⟨183,_,_,cY⟩
theorem aBJ:Ent.OK tP ZV:=aRI
def fH(x:aH [.str,.str]):Option (aH [.str]):=match x with
 | (v0,v1,()) =>
  bif !(ltI 18 (aB .i64 ((v0.size:Int)+(v1.size:Int)))) then
   aC (pK (v0,v1,())) λy1 =>
   aC (tC ((aB .u64 (y1.1*y1.2.1)),())) λy2 =>
   some (y2.1,())
  else aC (eV () (v0,()) []) λy3 =>
  aC (eV () (v1,()) y3.2) λy4 =>
  aC (eL () (y3.1,y4.1,()) y4.2) λy5 =>
  aC (b8 (y5.1,())) λy6 =>
  some (y6.1,())
def ZT:Code:=aQ Tryz.f184
abbrev aKT:Env:=OP [NX,IG,sR] [DI,yP]
theorem aNT:aY tP aKT:=oB ⟨LB,GC,tI,trivial⟩ ⟨CH,EG,trivial⟩
def aGP(id:Nat):Option bI:=none
theorem aK3:cB ZT=[]:=by kernel_rfl
theorem aN0:∀ x,aGR tP aKT Tryz.f184 (aG Tryz.f184) aGP ZT 180 (.int .u64) _ _ x=fH x:=by
 rintro⟨v0,v1,⟨⟩⟩
 kernel_rfl
theorem aR1:dK tP 184 _ _ fH:=by exact aM5 aI aNT Tryz.func184 (c:=ZT) (by kernel_rfl) (aT:=aG Tryz.f184) (lt:=aGP) (aD aK3 trivial) aN0
abbrev aJ6:Ent:=⟨184,_,_,fH⟩
theorem aNM:Ent.OK tP aJ6:=aR1
def mL(x:aH [.str,.str]):Option (aH [.str,.str,.int .i64]):=match x with
 | (v0,v1,()) =>
  bif eqS v1 (ByteArray.mk #[48]) then
   some ((ByteArray.mk #[]),(ByteArray.mk #[]),17,())
  else aC (pK (v0,v1,())) λy1 =>
  bif y1.2.2.1 then
   bif eqI y1.2.1 0 then none else aC (tC ((aB .u64 (y1.1.tdiv y1.2.1)),())) λy2 =>
   bif eqI y1.2.1 0 then none else aC (tC ((y1.1.tmod y1.2.1),())) λy3 =>
   some (y2.1,y3.1,0,())
  else aC (eV () (v0,()) []) λy4 =>
  aC (eV () (v1,()) y4.2) λy5 =>
  aC (oQ (y4.1,y5.1,())) λy6 =>
  bif ltI y6.1 0 then
   some ((ByteArray.mk #[48]),v0,0,())
  else bif eqI (y5.1.length:Int) 1 then
   bif aJ 0 y5.1.length then bif Nat.blt 0 y5.1.length then aC (eR () (y4.1,(y5.1.getD 0 0),()) y5.2) λy7 =>
   aC (b8 (y7.1.1,())) λy8 =>
   aC (tC (y7.1.2.1,())) λy9 =>
   some (y8.1,y9.1,0,()) else none else none
  else aC (fN () (y4.1,y5.1,()) y5.2) λy10 =>
  aC (b8 (y10.1.1,())) λy11 =>
  aC (b8 (y10.1.2.1,())) λy12 =>
  some (y11.1,y12.1,0,())
def QD:Code:=aQ Tryz.f205
abbrev aBO:Env:=OP [NX,IG,J0,sR] [DI,IE,BK]
theorem aIL:aY tP aBO:=oB ⟨LB,GC,SX,tI,trivial⟩ ⟨CH,Q8,E7,trivial⟩
def Y2(id:Nat):Option bI:=none
theorem aFW:cB QD=[]:=by kernel_rfl
theorem aIS:∀ x,aGR tP aBO Tryz.f205 (aG Tryz.f205) Y2 QD 180 (.int .u64) _ _ x=mL x:=by
 rintro⟨v0,v1,⟨⟩⟩
 kernel_rfl
theorem aLY:dK tP 205 _ _ mL:=by exact aM5 aI aIL Tryz.func205 (c:=QD) (by kernel_rfl) (aT:=aG Tryz.f205) (lt:=Y2) (aD aFW trivial) aIS
abbrev aBK:Ent:=⟨205,_,_,mL⟩
theorem aIB:Ent.OK tP aBK:=aLY
def TJ(x:aH [.str,.str]):Option (aH [.str]):=match x with
 | (v0,v1,()) =>
  aC (pJ (v0,18,())) λy1 =>
  bif y1.2.1 then
   aC (pJ (v1,18,())) λy2 =>
   bif y2.2.1 then
    aC (nO ((aB .i64 (y1.1+y2.1)),())) λy3 =>
    some (y3.1,())
   else aC (cO (v0,())) λy4 =>
   aC (cO (v1,())) λy5 =>
   bif y4.1 then
    bif y5.1 then
     aC (fE (y4.2.1,y5.2.1,())) λy6 =>
     aC (aA (y4.1,y6.1,())) λy7 =>
     some (y7.1,())
    else aC (fQ (y4.2.1,y5.2.1,())) λy8 =>
    bif ltI y8.1 0 then
     aC (cY (y5.2.1,y4.2.1,())) λy9 =>
     aC (aA (y5.1,y9.1,())) λy10 =>
     some (y10.1,())
    else aC (cY (y4.2.1,y5.2.1,())) λy11 =>
    aC (aA (y4.1,y11.1,())) λy12 =>
    some (y12.1,())
   else bif y5.1 then
    aC (fQ (y4.2.1,y5.2.1,())) λy13 =>
    bif ltI y13.1 0 then
     aC (cY (y5.2.1,y4.2.1,())) λy14 =>
     aC (aA (y5.1,y14.1,())) λy15 =>
     some (y15.1,())
    else aC (cY (y4.2.1,y5.2.1,())) λy16 =>
    aC (aA (y4.1,y16.1,())) λy17 =>
    some (y17.1,())
   else aC (fE (y4.2.1,y5.2.1,())) λy18 =>
   aC (aA (y4.1,y18.1,())) λy19 =>
   some (y19.1,())
  else aC (cO (v0,())) λy20 =>
  aC (cO (v1,())) λy21 =>
  bif y20.1 then
   bif y21.1 then
    aC (fE (y20.2.1,y21.2.1,())) λy22 =>
    aC (aA (y20.1,y22.1,())) λy23 =>
    some (y23.1,())
   else aC (fQ (y20.2.1,y21.2.1,())) λy24 =>
   bif ltI y24.1 0 then
    aC (cY (y21.2.1,y20.2.1,())) λy25 =>
    aC (aA (y21.1,y25.1,())) λy26 =>
    some (y26.1,())
   else aC (cY (y20.2.1,y21.2.1,())) λy27 =>
   aC (aA (y20.1,y27.1,())) λy28 =>
   some (y28.1,())
  else bif y21.1 then
   aC (fQ (y20.2.1,y21.2.1,())) λy29 =>
   bif ltI y29.1 0 then
    aC (cY (y21.2.1,y20.2.1,())) λy30 =>
    aC (aA (y21.1,y30.1,())) λy31 =>
    some (y31.1,())
   else aC (cY (y20.2.1,y21.2.1,())) λy32 =>
   aC (aA (y20.1,y32.1,())) λy33 =>
   some (y33.1,())
  else aC (fE (y20.2.1,y21.2.1,())) λy34 =>
  aC (aA (y20.1,y34.1,())) λy35 =>
  some (y35.1,())
theorem aSI:aY tP (bZ [ZR,GG,ZV,SF,NS,NM,CL]):=bB ⟨aBQ,HP,aBJ,KG,KD,MT,xJ,trivial⟩
theorem aW4:dK tP 135 _ _ TJ:=by exact bO aI aSI Tryz.func135 (c:=aQ Tryz.f135) (by kernel_rfl) (aT:=aG Tryz.f135) (lt:=λ_=>none) (aD (lt:=λ_=>none) (l:=[]) (by kernel_rfl) trivial) (by rintro⟨v0,v1,⟨⟩⟩; kernel_rfl)
abbrev aP3:Ent:=⟨135,_,_,TJ⟩
theorem aSJ:Ent.OK tP aP3:=aW4
def MO(x:aH [.str,.str]):Option (aH [.str]):=match x with
 | (v0,v1,()) =>
  aC (MU (v1,())) λy1 =>
  aC (TJ (v0,y1.1,())) λy2 =>
  some (y2.1,())
theorem aR5:aY tP (bZ [aP3,aH0]):=bB ⟨aSJ,aGO,trivial⟩
theorem aW8:dK tP 206 _ _ MO:=by exact bO aI aR5 Tryz.func206 (c:=aQ Tryz.f206) (by kernel_rfl) (aT:=aG Tryz.f206) (lt:=λ_=>none) (aD (lt:=λ_=>none) (l:=[]) (by kernel_rfl) trivial) (by rintro⟨v0,v1,⟨⟩⟩; kernel_rfl)
abbrev aIM:Ent:=⟨206,_,_,MO⟩
theorem aGT:Ent.OK tP aIM:=aW8
def MW(x:aH [.str,.str]):Option (aH [.str]):=match x with
 | (v0,v1,()) =>
  aC (pJ (v0,9,())) λy1 =>
  bif y1.2.1 then
   aC (pJ (v1,9,())) λy2 =>
   bif y2.2.1 then
    aC (nO ((aB .i64 (y1.1*y2.1)),())) λy3 =>
    some (y3.1,())
   else aC (cO (v0,())) λy4 =>
   aC (cO (v1,())) λy5 =>
   bif y4.1 then
    bif y5.1 then
     aC (fH (y4.2.1,y5.2.1,())) λy6 =>
     aC (aA (false,y6.1,())) λy7 =>
     some (y7.1,())
    else aC (fH (y4.2.1,y5.2.1,())) λy8 =>
    aC (aA (true,y8.1,())) λy9 =>
    some (y9.1,())
   else bif y5.1 then
    aC (fH (y4.2.1,y5.2.1,())) λy10 =>
    aC (aA (true,y10.1,())) λy11 =>
    some (y11.1,())
   else aC (fH (y4.2.1,y5.2.1,())) λy12 =>
   aC (aA (false,y12.1,())) λy13 =>
   some (y13.1,())
  else aC (cO (v0,())) λy14 =>
  aC (cO (v1,())) λy15 =>
  bif y14.1 then
   bif y15.1 then
    aC (fH (y14.2.1,y15.2.1,())) λy16 =>
    aC (aA (false,y16.1,())) λy17 =>
    some (y17.1,())
   else aC (fH (y14.2.1,y15.2.1,())) λy18 =>
   aC (aA (true,y18.1,())) λy19 =>
   some (y19.1,())
  else bif y15.1 then
   aC (fH (y14.2.1,y15.2.1,())) λy20 =>
   aC (aA (true,y20.1,())) λy21 =>
   some (y21.1,())
  else aC (fH (y14.2.1,y15.2.1,())) λy22 =>
  aC (aA (false,y22.1,())) λy23 =>
  some (y23.1,())
theorem aRS:aY tP (bZ [aJ6,SF,NS,NM,CL]):=bB ⟨aNM,KG,KD,MT,xJ,trivial⟩
theorem aW7:dK tP 136 _ _ MW:=by exact bO aI aRS Tryz.func136 (c:=aQ Tryz.f136) (by kernel_rfl) (aT:=aG Tryz.f136) (lt:=λ_=>none) (aD (lt:=λ_=>none) (l:=[]) (by kernel_rfl) trivial) (by rintro⟨v0,v1,⟨⟩⟩; kernel_rfl)
abbrev aIN:Ent:=⟨136,_,_,MW⟩
theorem aG6:Ent.OK tP aIN:=aW7
def yX(x:aH [.str,.str]):Option (aH [.str,.str,.int .i64]):=match x with
 | (v0,v1,()) =>
  bif eqS v1 (ByteArray.mk #[48]) then
   some ((ByteArray.mk #[]),(ByteArray.mk #[]),17,())
  else aC (pJ (v0,18,())) λy1 =>
  bif y1.2.1 then
   aC (pJ (v1,18,())) λy2 =>
   bif y2.2.1 then
    bif eqI y2.1 0 then none else bif eqI y2.1 0 then none else bif !(eqI (y1.1.tmod y2.1) 0) then
     bif ltI (y1.1.tmod y2.1) 0 then
      bif ltI y2.1 0 then
       aC (nO ((aB .i64 (y1.1.tdiv y2.1)),())) λy3 =>
       aC (nO ((y1.1.tmod y2.1),())) λy4 =>
       some (y3.1,y4.1,0,())
      else aC (nO ((aB .i64 ((aB .i64 (y1.1.tdiv y2.1))-1)),())) λy5 =>
      aC (nO ((aB .i64 ((y1.1.tmod y2.1)+y2.1)),())) λy6 =>
      some (y5.1,y6.1,0,())
     else bif ltI y2.1 0 then
      aC (nO ((aB .i64 ((aB .i64 (y1.1.tdiv y2.1))-1)),())) λy7 =>
      aC (nO ((aB .i64 ((y1.1.tmod y2.1)+y2.1)),())) λy8 =>
      some (y7.1,y8.1,0,())
     else aC (nO ((aB .i64 (y1.1.tdiv y2.1)),())) λy9 =>
     aC (nO ((y1.1.tmod y2.1),())) λy10 =>
     some (y9.1,y10.1,0,())
    else aC (nO ((aB .i64 (y1.1.tdiv y2.1)),())) λy11 =>
    aC (nO ((y1.1.tmod y2.1),())) λy12 =>
    some (y11.1,y12.1,0,())
   else aC (cO (v0,())) λy13 =>
   aC (cO (v1,())) λy14 =>
   aC (mL (y13.2.1,y14.2.1,())) λy15 =>
   bif !(eqI y15.2.2.1 0) then
    some ((ByteArray.mk #[]),(ByteArray.mk #[]),y15.2.2.1,())
   else bif y13.1 then
    bif y14.1 then
     bif y13.1 then
      bif y14.1 then
       aC (aA (false,y15.1,())) λy16 =>
       aC (aA (y14.1,y15.2.1,())) λy17 =>
       some (y16.1,y17.1,0,())
      else aC (aA (true,y15.1,())) λy18 =>
      aC (aA (y14.1,y15.2.1,())) λy19 =>
      some (y18.1,y19.1,0,())
     else bif y14.1 then
      aC (aA (true,y15.1,())) λy20 =>
      aC (aA (y14.1,y15.2.1,())) λy21 =>
      some (y20.1,y21.1,0,())
     else aC (aA (false,y15.1,())) λy22 =>
     aC (aA (y14.1,y15.2.1,())) λy23 =>
     some (y22.1,y23.1,0,())
    else bif !(eqS y15.2.1 (ByteArray.mk #[48])) then
     aC (fE (y15.1,(ByteArray.mk #[49]),())) λy24 =>
     aC (cY (y14.2.1,y15.2.1,())) λy25 =>
     bif y13.1 then
      bif y14.1 then
       aC (aA (false,y24.1,())) λy26 =>
       aC (aA (y14.1,y25.1,())) λy27 =>
       some (y26.1,y27.1,0,())
      else aC (aA (true,y24.1,())) λy28 =>
      aC (aA (y14.1,y25.1,())) λy29 =>
      some (y28.1,y29.1,0,())
     else bif y14.1 then
      aC (aA (true,y24.1,())) λy30 =>
      aC (aA (y14.1,y25.1,())) λy31 =>
      some (y30.1,y31.1,0,())
     else aC (aA (false,y24.1,())) λy32 =>
     aC (aA (y14.1,y25.1,())) λy33 =>
     some (y32.1,y33.1,0,())
    else bif y13.1 then
     bif y14.1 then
      aC (aA (false,y15.1,())) λy34 =>
      aC (aA (y14.1,y15.2.1,())) λy35 =>
      some (y34.1,y35.1,0,())
     else aC (aA (true,y15.1,())) λy36 =>
     aC (aA (y14.1,y15.2.1,())) λy37 =>
     some (y36.1,y37.1,0,())
    else bif y14.1 then
     aC (aA (true,y15.1,())) λy38 =>
     aC (aA (y14.1,y15.2.1,())) λy39 =>
     some (y38.1,y39.1,0,())
    else aC (aA (false,y15.1,())) λy40 =>
    aC (aA (y14.1,y15.2.1,())) λy41 =>
    some (y40.1,y41.1,0,())
   else bif y14.1 then
    bif !(eqS y15.2.1 (ByteArray.mk #[48])) then
     aC (fE (y15.1,(ByteArray.mk #[49]),())) λy42 =>
     aC (cY (y14.2.1,y15.2.1,())) λy43 =>
     bif y13.1 then
      bif y14.1 then
       aC (aA (false,y42.1,())) λy44 =>
       aC (aA (y14.1,y43.1,())) λy45 =>
       some (y44.1,y45.1,0,())
      else aC (aA (true,y42.1,())) λy46 =>
      aC (aA (y14.1,y43.1,())) λy47 =>
      some (y46.1,y47.1,0,())
     else bif y14.1 then
      aC (aA (true,y42.1,())) λy48 =>
      aC (aA (y14.1,y43.1,())) λy49 =>
      some (y48.1,y49.1,0,())
     else aC (aA (false,y42.1,())) λy50 =>
     aC (aA (y14.1,y43.1,())) λy51 =>
     some (y50.1,y51.1,0,())
    else bif y13.1 then
     bif y14.1 then
      aC (aA (false,y15.1,())) λy52 =>
      aC (aA (y14.1,y15.2.1,())) λy53 =>
      some (y52.1,y53.1,0,())
     else aC (aA (true,y15.1,())) λy54 =>
     aC (aA (y14.1,y15.2.1,())) λy55 =>
     some (y54.1,y55.1,0,())
    else bif y14.1 then
     aC (aA (true,y15.1,())) λy56 =>
     aC (aA (y14.1,y15.2.1,())) λy57 =>
     some (y56.1,y57.1,0,())
    else aC (aA (false,y15.1,())) λy58 =>
    aC (aA (y14.1,y15.2.1,())) λy59 =>
    some (y58.1,y59.1,0,())
   else bif y13.1 then
    bif y14.1 then
     aC (aA (false,y15.1,())) λy60 =>
     aC (aA (y14.1,y15.2.1,())) λy61 =>
     some (y60.1,y61.1,0,())
    else aC (aA (true,y15.1,())) λy62 =>
    aC (aA (y14.1,y15.2.1,())) λy63 =>
    some (y62.1,y63.1,0,())
   else bif y14.1 then
    aC (aA (true,y15.1,())) λy64 =>
    aC (aA (y14.1,y15.2.1,())) λy65 =>
    some (y64.1,y65.1,0,())
   else aC (aA (false,y15.1,())) λy66 =>
   aC (aA (y14.1,y15.2.1,())) λy67 =>
   some (y66.1,y67.1,0,())
  else aC (cO (v0,())) λy68 =>
  aC (cO (v1,())) λy69 =>
  aC (mL (y68.2.1,y69.2.1,())) λy70 =>
  bif !(eqI y70.2.2.1 0) then
   some ((ByteArray.mk #[]),(ByteArray.mk #[]),y70.2.2.1,())
  else bif y68.1 then
   bif y69.1 then
    bif y68.1 then
     bif y69.1 then
      aC (aA (false,y70.1,())) λy71 =>
      aC (aA (y69.1,y70.2.1,())) λy72 =>
      some (y71.1,y72.1,0,())
     else aC (aA (true,y70.1,())) λy73 =>
     aC (aA (y69.1,y70.2.1,())) λy74 =>
     some (y73.1,y74.1,0,())
    else bif y69.1 then
     aC (aA (true,y70.1,())) λy75 =>
     aC (aA (y69.1,y70.2.1,())) λy76 =>
     some (y75.1,y76.1,0,())
    else aC (aA (false,y70.1,())) λy77 =>
    aC (aA (y69.1,y70.2.1,())) λy78 =>
    some (y77.1,y78.1,0,())
   else bif !(eqS y70.2.1 (ByteArray.mk #[48])) then
    aC (fE (y70.1,(ByteArray.mk #[49]),())) λy79 =>
    aC (cY (y69.2.1,y70.2.1,())) λy80 =>
    bif y68.1 then
     bif y69.1 then
      aC (aA (false,y79.1,())) λy81 =>
      aC (aA (y69.1,y80.1,())) λy82 =>
      some (y81.1,y82.1,0,())
     else aC (aA (true,y79.1,())) λy83 =>
     aC (aA (y69.1,y80.1,())) λy84 =>
     some (y83.1,y84.1,0,())
    else bif y69.1 then
     aC (aA (true,y79.1,())) λy85 =>
     aC (aA (y69.1,y80.1,())) λy86 =>
     some (y85.1,y86.1,0,())
    else aC (aA (false,y79.1,())) λy87 =>
    aC (aA (y69.1,y80.1,())) λy88 =>
    some (y87.1,y88.1,0,())
   else bif y68.1 then
    bif y69.1 then
     aC (aA (false,y70.1,())) λy89 =>
     aC (aA (y69.1,y70.2.1,())) λy90 =>
     some (y89.1,y90.1,0,())
    else aC (aA (true,y70.1,())) λy91 =>
    aC (aA (y69.1,y70.2.1,())) λy92 =>
    some (y91.1,y92.1,0,())
   else bif y69.1 then
    aC (aA (true,y70.1,())) λy93 =>
    aC (aA (y69.1,y70.2.1,())) λy94 =>
    some (y93.1,y94.1,0,())
   else aC (aA (false,y70.1,())) λy95 =>
   aC (aA (y69.1,y70.2.1,())) λy96 =>
   some (y95.1,y96.1,0,())
  else bif y69.1 then
   bif !(eqS y70.2.1 (ByteArray.mk #[48])) then
    aC (fE (y70.1,(ByteArray.mk #[49]),())) λy97 =>
    aC (cY (y69.2.1,y70.2.1,())) λy98 =>
    bif y68.1 then
     bif y69.1 then
      aC (aA (false,y97.1,())) λy99 =>
      aC (aA (y69.1,y98.1,())) λy100 =>
      some (y99.1,y100.1,0,())
     else aC (aA (true,y97.1,())) λy101 =>
     aC (aA (y69.1,y98.1,())) λy102 =>
     some (y101.1,y102.1,0,())
    else bif y69.1 then
     aC (aA (true,y97.1,())) λy103 =>
     aC (aA (y69.1,y98.1,())) λy104 =>
     some (y103.1,y104.1,0,())
    else aC (aA (false,y97.1,())) λy105 =>
    aC (aA (y69.1,y98.1,())) λy106 =>
    some (y105.1,y106.1,0,())
   else bif y68.1 then
    bif y69.1 then
     aC (aA (false,y70.1,())) λy107 =>
     aC (aA (y69.1,y70.2.1,())) λy108 =>
     some (y107.1,y108.1,0,())
    else aC (aA (true,y70.1,())) λy109 =>
    aC (aA (y69.1,y70.2.1,())) λy110 =>
    some (y109.1,y110.1,0,())
   else bif y69.1 then
    aC (aA (true,y70.1,())) λy111 =>
    aC (aA (y69.1,y70.2.1,())) λy112 =>
    some (y111.1,y112.1,0,())
   else aC (aA (false,y70.1,())) λy113 =>
   aC (aA (y69.1,y70.2.1,())) λy114 =>
   some (y113.1,y114.1,0,())
  else bif y68.1 then
   bif y69.1 then
    aC (aA (false,y70.1,())) λy115 =>
    aC (aA (y69.1,y70.2.1,())) λy116 =>
    some (y115.1,y116.1,0,())
   else aC (aA (true,y70.1,())) λy117 =>
   aC (aA (y69.1,y70.2.1,())) λy118 =>
   some (y117.1,y118.1,0,())
  else bif y69.1 then
   aC (aA (true,y70.1,())) λy119 =>
   aC (aA (y69.1,y70.2.1,())) λy120 =>
   some (y119.1,y120.1,0,())
  else aC (aA (false,y70.1,())) λy121 =>
  aC (aA (y69.1,y70.2.1,())) λy122 =>
  some (y121.1,y122.1,0,())
theorem aLE:aY tP (bZ [ZR,aBK,ZV,SF,NS,NM,CL]):=bB ⟨aBQ,aIB,aBJ,KG,KD,MT,xJ,trivial⟩
theorem aQN:dK tP 165 _ _ yX:=by exact bO aI aLE Tryz.func165 (c:=aQ Tryz.f165) (by kernel_rfl) (aT:=aG Tryz.f165) (lt:=λ_=>none) (aD (lt:=λ_=>none) (l:=[]) (by kernel_rfl) trivial) (by rintro⟨v0,v1,⟨⟩⟩; kernel_rfl)
abbrev WT:Ent:=⟨165,_,_,yX⟩
theorem YA:Ent.OK tP WT:=aQN
end Go.PM
namespace Go.PM
open Go Go.RowKit Go.Proofs
set_option maxHeartbeats 4000000
abbrev qF:List (Nat×Kd):=[(3,.own 110 .str),(9,.list TyE),(10,.int .i64),(11,.int .i64)]
abbrev uJ:List (Ex×List (Nat×Kd)):=[(.exit 0,[(3,.own 110 .str)])]
def qZ(x:Shape.den qF):Option (Shape.den qF⊕aS uJ):=match x with
 | (v3,v9,v10,v11,()) =>
  bif ltI v11 v10 then
   bif aJ v11 v9.length then aC (nO ((v9.getD v11.toNat 0),())) λy2 =>
   bif Nat.ble [y2.1].length 1048576 then bif Nat.ble v3.length 1048576 then some (.inl ((v3++[y2.1]),v9,v10,(aB .i64 (v11+1)),())) else none else none else none
  else some (.inr ((v3,())))
def wM(x:Shape.den qF):Option (aS uJ):=bY qZ (2^64) x
def oY(x:aH [.list TyE]):Option (List ByteArray):=match x with
 | (v0,()) =>
  bif !(ltI (v0.length:Int) 0) then bif !(ltI 1048576 (v0.length:Int)) then aC (wM ((List.replicate 0 ByteArray.empty),v0,(v0.length:Int),0,())) λz3 =>
  some z3.1 else none else none
def GJ:Code:=aQ Tryz.f119
abbrev NC:Env:=bZ [SF]
theorem QU:aY tP NC:=bB ⟨KG,trivial⟩
def I5:Code:=eG GJ 0
def KC(id:Nat):Option bI:=bif Nat.beq id 3 then some ⟨qF,uJ,wM⟩ else none
theorem Z6:∀ x,dY tP NC 22 (aG Tryz.f119) KC I5 qF uJ x=qZ x:=by
 rintro⟨v3,v9,v10,v11,⟨⟩⟩
 kernel_rfl
theorem aCW:cN tP 22 I5 ⟨qF,uJ,wM⟩:=by exact cL QU.callee aI.mixed _ (aD (l:=[]) (by kernel_rfl) trivial) Z6
theorem aER:cB GJ=[I5]:=by kernel_rfl
theorem aF7:∀ x,aXY tP NC Tryz.f119 (aG Tryz.f119) KC GJ [.list TyE] 2 110 .str x=oY x:=by
 rintro⟨v0,⟨⟩⟩
 kernel_rfl
theorem aJ3:aYG tP 119 [.list TyE] 110 .str oY:=by exact aV3 aI QU Tryz.func119 (c:=GJ) (by kernel_rfl) (aT:=aG Tryz.f119) (lt:=KC) (t:=2) (by kernel_rfl) (aD aER ⟨cK (i:=3) (by kernel_rfl) rfl aCW,trivial⟩) aF7
abbrev GF:Shr:=(119,a8N [.list TyE] 110 .str oY)
theorem HL:wN tP GF:=aWL aJ3
abbrev lT:List (Nat×Kd):=[(0,.hnd 1),(1,.str),(10,.hnd 1),(11,.int .i64),(12,.int .i64),(100000,.ar 110 .str)]
abbrev o3:List (Ex×List (Nat×Kd)):=[(.exit 0,[(100000,.ar 110 .str)])]
def mW(x:Shape.den lT):Option (Shape.den lT⊕aS o3):=match x with
 | (v0,v1,v10,v11,v12,v100000,()) =>
  bif ltI v12 v11 then
   bif aJ v12 v10.2.2 then bif Nat.blt ((v10.2.1+v12.toNat)*1) (dB v100000 v10.1) then bif aJ v12 v0.2.2 then bif Nat.blt ((v0.2.1+v12.toNat)*1) (dB v100000 v0.1) then aC (MW (v1,(dS v100000 v10.1 ((v10.2.1+v12.toNat)*1) ByteArray.empty),())) λy3 =>
   aC (MO ((dS v100000 v0.1 ((v0.2.1+v12.toNat)*1) ByteArray.empty),y3.1,())) λy4 =>
   bif aJ v12 v0.2.2 then bif Nat.blt ((v0.2.1+v12.toNat)*1) (dB v100000 v0.1) then some (.inl ((v0.1,v0.2.1,v0.2.2),v1,(v10.1,v10.2.1,v10.2.2),v11,(aB .i64 (v12+1)),(xF v100000 v0.1 ((v0.2.1+v12.toNat)*1) y4.1),())) else none else none else none else none else none else none
  else some (.inr ((v100000,())))
def qT(x:Shape.den lT):Option (aS o3):=bY mW (2^64) x
def gU(u0:Unit)(x:aH [.hnd 1,.str,.hnd 1])(A:List (List ByteArray)):Option ((aH [])×List (List ByteArray)):=match x with
 | (v0,v1,v2,()) =>
  bif eqS v1 (ByteArray.mk #[48]) then
   some ((()),A)
  else aC (qT ((v0.1,v0.2.1,v0.2.2),v1,(v2.1,v2.2.1,v2.2.2),((v2.2.2:Nat):Int),0,A,())) λz5 =>
  some ((()),z5.1)
def xW:Code:=aQ Tryz.f166
abbrev E0:Env:=bZ [aIN,aIM]
theorem J4:aY tP E0:=bB ⟨aG6,aGT,trivial⟩
def CM:Code:=eG xW 0
def EC(id:Nat):Option bI:=bif Nat.beq id 2 then some ⟨lT,o3,qT⟩ else none
theorem TV:∀ x,dY tP E0 29 (aG Tryz.f166) EC CM lT o3 x=mW x:=by
 rintro⟨v0,v1,v10,v11,v12,v100000,⟨⟩⟩
 kernel_rfl
theorem U9:cN tP 29 CM ⟨lT,o3,qT⟩:=by exact cL J4.callee aI.mixed _ (aD (l:=[]) (by kernel_rfl) trivial) TV
theorem W0:cB xW=[CM]:=by kernel_rfl
theorem YZ:∀ l x A,G6 tP E0 Tryz.f166 (aG Tryz.f166) EC xW 110 .str .none [.hnd 1,.str,.hnd 1] (.data []) l x A=gU l x A:=by
 rintro u0 ⟨v0,v1,v2,⟨⟩⟩ A
 kernel_rfl
theorem aB9:N0 tP 166 110 .str .none [.hnd 1,.str,.hnd 1] (.data []) gU:=by exact BE aI J4 Tryz.func166 (c:=xW) (by kernel_rfl) (aT:=aG Tryz.f166) (lt:=EC) (by rfl) (aD W0 ⟨cK (i:=2) (by kernel_rfl) rfl U9,trivial⟩) YZ
abbrev N2:Shr:=(166,U5 0 (arH 110 .str .none [.hnd 1,.str,.hnd 1] (.data []) gU))
theorem YD:wN tP N2:=sG (g:=166) (f:=arH 110 .str .none [.hnd 1,.str,.hnd 1] (.data []) gU) (FV aB9)
abbrev lV:List (Nat×Kd):=[(0,.hnd 1),(1,.str),(10,.list .str),(11,.int .i64),(12,.int .i64),(100000,.ar 110 .str)]
abbrev o7:List (Ex×List (Nat×Kd)):=[(.exit 0,[(100000,.ar 110 .str)])]
def G9(x:Shape.den lV):Option (Shape.den lV⊕aS o7):=match x with
 | (v0,v1,v10,v11,v12,v100000,()) =>
  bif ltI v12 v11 then
   bif aJ v12 v10.length then bif aJ v12 v0.2.2 then bif Nat.blt ((v0.2.1+v12.toNat)*1) (dB v100000 v0.1) then aC (MW (v1,(v10.getD v12.toNat ByteArray.empty),())) λy3 =>
   aC (MO ((dS v100000 v0.1 ((v0.2.1+v12.toNat)*1) ByteArray.empty),y3.1,())) λy4 =>
   bif aJ v12 v0.2.2 then bif Nat.blt ((v0.2.1+v12.toNat)*1) (dB v100000 v0.1) then some (.inl ((v0.1,v0.2.1,v0.2.2),v1,v10,v11,(aB .i64 (v12+1)),(xF v100000 v0.1 ((v0.2.1+v12.toNat)*1) y4.1),())) else none else none else none else none else none
  else some (.inr ((v100000,())))
def wW(x:Shape.den lV):Option (aS o7):=bY G9 (2^64) x
def sX(u0:Unit)(x:aH [.hnd 1,.str,.list .str])(A:List (List ByteArray)):Option ((aH [])×List (List ByteArray)):=match x with
 | (v0,v1,v2,()) =>
  bif eqS v1 (ByteArray.mk #[48]) then
   some ((()),A)
  else aC (wW ((v0.1,v0.2.1,v0.2.2),v1,v2,(v2.length:Int),0,A,())) λz5 =>
  some ((()),z5.1)
def yF:Code:=aQ Tryz.f166
abbrev FK:Env:=bZ [aIN,aIM]
theorem JK:aY tP FK:=bB ⟨aG6,aGT,trivial⟩
def CZ:Code:=eG yF 0
def EB(id:Nat):Option bI:=bif Nat.beq id 2 then some ⟨lV,o7,wW⟩ else none
theorem UN:∀ x,dY tP FK 29 (aG Tryz.f166) EB CZ lV o7 x=G9 x:=by
 rintro⟨v0,v1,v10,v11,v12,v100000,⟨⟩⟩
 kernel_rfl
theorem VA:cN tP 29 CZ ⟨lV,o7,wW⟩:=by exact cL JK.callee aI.mixed _ (aD (l:=[]) (by kernel_rfl) trivial) UN
theorem WR:cB yF=[CZ]:=by kernel_rfl
theorem X6:∀ l x A,G6 tP FK Tryz.f166 (aG Tryz.f166) EB yF 110 .str .none [.hnd 1,.str,.list .str] (.data []) l x A=sX l x A:=by
 rintro u0 ⟨v0,v1,v2,⟨⟩⟩ A
 kernel_rfl
theorem aCI:N0 tP 166 110 .str .none [.hnd 1,.str,.list .str] (.data []) sX:=by exact BE aI JK Tryz.func166 (c:=yF) (by kernel_rfl) (aT:=aG Tryz.f166) (lt:=EB) (by rfl) (aD WR ⟨cK (i:=2) (by kernel_rfl) rfl VA,trivial⟩) X6
theorem ZZ:aWT tP 166 110 .str [.str,.list .str] (XS sX):=aLU aCI (by rfl) (by rfl)
abbrev L2:Shr:=(166,U5 1 (a4L 110 .str [.str,.list .str] (XS sX)))
theorem XP:wN tP L2:=sG (aVS ZZ)
abbrev kD:List (Nat×Kd):=[(0,.hnd 1),(4,.hnd 1),(5,.int .i64),(6,.int .i64),(100000,.ar 110 .str)]
abbrev mY:List (Ex×List (Nat×Kd)):=[(.exit 0,[(100000,.ar 110 .str)])]
def lB(x:Shape.den kD):Option (Shape.den kD⊕aS mY):=match x with
 | (v0,v4,v5,v6,v100000,()) =>
  bif ltI v6 v5 then
   bif aJ v6 v4.2.2 then bif Nat.blt ((v4.2.1+v6.toNat)*1) (dB v100000 v4.1) then aC (MU ((dS v100000 v4.1 ((v4.2.1+v6.toNat)*1) ByteArray.empty),())) λy2 =>
   bif aJ v6 v0.2.2 then bif Nat.blt ((v0.2.1+v6.toNat)*1) (dB v100000 v0.1) then some (.inl ((v0.1,v0.2.1,v0.2.2),(v4.1,v4.2.1,v4.2.2),v5,(aB .i64 (v6+1)),(xF v100000 v0.1 ((v0.2.1+v6.toNat)*1) y2.1),())) else none else none else none else none
  else some (.inr ((v100000,())))
def pG(x:Shape.den kD):Option (aS mY):=bY lB (2^64) x
def fJ(u0:Unit)(x:aH [.hnd 1])(A:List (List ByteArray)):Option ((aH [])×List (List ByteArray)):=match x with
 | (v0,()) =>
  aC (pG ((v0.1,v0.2.1,v0.2.2),(v0.1,v0.2.1,v0.2.2),((v0.2.2:Nat):Int),0,A,())) λz3 =>
  some ((()),z3.1)
def uS:Code:=aQ Tryz.f168
abbrev CQ:Env:=bZ [aH0]
theorem GX:aY tP CQ:=bB ⟨aGO,trivial⟩
def zA:Code:=eG uS 0
def AX(id:Nat):Option bI:=bif Nat.beq id 1 then some ⟨kD,mY,pG⟩ else none
theorem PQ:∀ x,dY tP CQ 17 (aG Tryz.f168) AX zA kD mY x=lB x:=by
 rintro⟨v0,v4,v5,v6,v100000,⟨⟩⟩
 kernel_rfl
theorem R6:cN tP 17 zA ⟨kD,mY,pG⟩:=by exact cL GX.callee aI.mixed _ (aD (l:=[]) (by kernel_rfl) trivial) PQ
theorem SJ:cB uS=[zA]:=by kernel_rfl
theorem VI:∀ l x A,G6 tP CQ Tryz.f168 (aG Tryz.f168) AX uS 110 .str .none [.hnd 1] (.data []) l x A=fJ l x A:=by
 rintro u0 ⟨v0,⟨⟩⟩ A
 kernel_rfl
theorem Y9:N0 tP 168 110 .str .none [.hnd 1] (.data []) fJ:=by exact BE aI GX Tryz.func168 (c:=uS) (by kernel_rfl) (aT:=aG Tryz.f168) (lt:=AX) (by rfl) (aD SJ ⟨cK (i:=1) (by kernel_rfl) rfl R6,trivial⟩) VI
abbrev KK:Shr:=(168,U5 0 (arH 110 .str .none [.hnd 1] (.data []) fJ))
theorem VE:wN tP KK:=sG (g:=168) (f:=arH 110 .str .none [.hnd 1] (.data []) fJ) (FV Y9)
def sP(x:aH [.str]):Option (aH [.bool]):=match x with
 | (v0,()) =>
  some (!(eqS v0 (ByteArray.mk #[48])),())
theorem ZA:aY tP (bZ []):=bB trivial
theorem aB3:dK tP 209 _ _ sP:=by exact bO aI ZA Tryz.func209 (c:=aQ Tryz.f209) (by kernel_rfl) (aT:=aG Tryz.f209) (lt:=λ_=>none) (aD (lt:=λ_=>none) (l:=[]) (by kernel_rfl) trivial) (by rintro⟨v0,⟨⟩⟩; kernel_rfl)
abbrev FC:Ent:=⟨209,_,_,sP⟩
theorem JG:Ent.OK tP FC:=aB3
abbrev cM:List (Nat×Kd):=[(0,.list .str),(1,.fn 209),(7,.int .i64),(8,.int .i64)]
abbrev dM:List (Ex×List (Nat×Kd)):=[(.ret,[(4,.int .i64)]),(.exit 0,[])]
def oX(x:Shape.den cM):Option (Shape.den cM⊕aS dM):=match x with
 | (v0,v1,v7,v8,()) =>
  bif ltI v8 v7 then
   bif aJ v8 v0.length then aC (sP ((v0.getD v8.toNat ByteArray.empty),())) λy2 =>
   bif y2.1 then
    some (.inr (.inl (v8,())))
   else some (.inl (v0,(),v7,(aB .i64 (v8+1)),())) else none
  else some (.inr (.inr ((()))))
def iZ(x:Shape.den cM):Option (aS dM):=bY oX (2^64) x
def lO(x:aH [.list .str,.fn 209]):Option (aH [.int .i64]):=match x with
 | (v0,v1,()) =>
  aC (iZ (v0,(),(v0.length:Int),0,())) λz3 =>
  zM z3 (λa4=>some (a4.1,())) λb5 =>
  some ((-1),())
def r8:Code:=aQ Tryz.f208
abbrev r7:Env:=bZ [FC]
theorem pQ:aY tP r7:=bB ⟨JG,trivial⟩
def kT:Code:=eG r8 0
def rI(id:Nat):Option bI:=bif Nat.beq id 2 then some ⟨cM,dM,iZ⟩ else none
theorem zQ:∀ x,dY tP r7 19 (aG Tryz.f208) rI kT cM dM x=oX x:=by
 rintro⟨v0,v1,v7,v8,⟨⟩⟩
 kernel_rfl
theorem AP:cN tP 19 kT ⟨cM,dM,iZ⟩:=by exact cL pQ.callee aI.mixed _ (aD (l:=[]) (by kernel_rfl) trivial) zQ
theorem D9:dK tP 208 _ _ lO:=by exact bO aI pQ Tryz.func208 (c:=r8) (by kernel_rfl) (aT:=aG Tryz.f208) (lt:=rI) (aD (l:=[kT]) (by kernel_rfl) ⟨cK (i:=2) (by kernel_rfl) rfl AP,trivial⟩) (by rintro⟨v0,v1,⟨⟩⟩; kernel_rfl)
abbrev r6:Ent:=⟨208,_,_,lO⟩
theorem CR:Ent.OK tP r6:=D9
def vV(x:aH [.list .str]):Option (aH [.int .i64]):=match x with
 | (v0,()) =>
  aC (lO (v0,(),())) λy1 =>
  some (y1.1,())
theorem aCM:aY tP (bZ [r6]):=bB ⟨CR,trivial⟩
theorem aGD:dK tP 169 _ _ vV:=by exact bO aI aCM Tryz.func169 (c:=aQ Tryz.f169) (by kernel_rfl) (aT:=aG Tryz.f169) (lt:=λ_=>none) (aD (lt:=λ_=>none) (l:=[]) (by kernel_rfl) trivial) (by rintro⟨v0,⟨⟩⟩; kernel_rfl)
abbrev JB:Ent:=⟨169,_,_,vV⟩
theorem L7:Ent.OK tP JB:=aGD
abbrev cH:List (Nat×Kd):=[(0,.hnd 1),(1,.fn 209),(7,.int .i64),(8,.int .i64),(100000,.ar 110 .str)]
abbrev dH:List (Ex×List (Nat×Kd)):=[(.ret,[(4,.int .i64),(100000,.ar 110 .str)]),(.exit 0,[(100000,.ar 110 .str)])]
def bQ(x:Shape.den cH):Option (Shape.den cH⊕aS dH):=match x with
 | (v0,v1,v7,v8,v100000,()) =>
  bif ltI v8 v7 then
   bif aJ v8 v0.2.2 then bif Nat.blt ((v0.2.1+v8.toNat)*1) (dB v100000 v0.1) then aC (sP ((dS v100000 v0.1 ((v0.2.1+v8.toNat)*1) ByteArray.empty),())) λy2 =>
   bif y2.1 then
    some (.inr (.inl (v8,v100000,())))
   else some (.inl ((v0.1,v0.2.1,v0.2.2),(),v7,(aB .i64 (v8+1)),v100000,())) else none else none
  else some (.inr (.inr ((v100000,()))))
def c8(x:Shape.den cH):Option (aS dH):=bY bQ (2^64) x
def cF(u0:Unit)(x:aH [.hnd 1,.fn 209])(A:List (List ByteArray)):Option ((aH [.int .i64])×List (List ByteArray)):=match x with
 | (v0,v1,()) =>
  aC (c8 ((v0.1,v0.2.1,v0.2.2),(),((v0.2.2:Nat):Int),0,A,())) λz3 =>
  zM z3 (λa4=>some ((a4.1,()),a4.2.1)) λb5 =>
  some (((-1),()),b5.1)
def fV:Code:=aQ Tryz.f208
abbrev lA:Env:=bZ [FC]
theorem pI:aY tP lA:=bB ⟨JG,trivial⟩
def kI:Code:=eG fV 0
def kS(id:Nat):Option bI:=bif Nat.beq id 2 then some ⟨cH,dH,c8⟩ else none
theorem yV:∀ x,dY tP lA 19 (aG Tryz.f208) kS kI cH dH x=bQ x:=by
 rintro⟨v0,v1,v7,v8,v100000,⟨⟩⟩
 kernel_rfl
theorem zO:cN tP 19 kI ⟨cH,dH,c8⟩:=by exact cL pI.callee aI.mixed _ (aD (l:=[]) (by kernel_rfl) trivial) yV
theorem AV:cB fV=[kI]:=by kernel_rfl
theorem B3:∀ l x A,G6 tP lA Tryz.f208 (aG Tryz.f208) kS fV 110 .str .none [.hnd 1,.fn 209] (.data [.int .i64]) l x A=cF l x A:=by
 rintro u0 ⟨v0,v1,⟨⟩⟩ A
 kernel_rfl
theorem DT:N0 tP 208 110 .str .none [.hnd 1,.fn 209] (.data [.int .i64]) cF:=by exact BE aI pI Tryz.func208 (c:=fV) (by kernel_rfl) (aT:=aG Tryz.f208) (lt:=kS) (by rfl) (aD AV ⟨cK (i:=2) (by kernel_rfl) rfl zO,trivial⟩) B3
abbrev rH:Shr:=(208,U5 0 (arH 110 .str .none [.hnd 1,.fn 209] (.data [.int .i64]) cF))
theorem BU:wN tP rH:=sG (g:=208) (f:=arH 110 .str .none [.hnd 1,.fn 209] (.data [.int .i64]) cF) (FV DT)
def j6(u0:Unit) (x:aH [.hnd 1]) (A:List (List ByteArray)):Option ((aH [.int .i64])×List (List ByteArray)):=match x with
 | (v0,()) =>
  aC (cF () ((v0.1,v0.2.1,v0.2.2),(),()) A) λy1 =>
  some ((y1.1.1,()),y1.2)
def F7:Code:=aQ Tryz.f169
abbrev NY:Env:=OP [] [rH]
theorem YS:aY tP NY:=oB trivial ⟨BU,trivial⟩
def L4(id:Nat):Option bI:=none
theorem XA:cB F7=[]:=by kernel_rfl
theorem Y8:∀ l x A,G6 tP NY Tryz.f169 (aG Tryz.f169) L4 F7 110 .str .none [.hnd 1] (.data [.int .i64]) l x A=j6 l x A:=by
 rintro u0 ⟨v0,⟨⟩⟩ A
 kernel_rfl
theorem aCG:N0 tP 169 110 .str .none [.hnd 1] (.data [.int .i64]) j6:=by exact BE aI YS Tryz.func169 (c:=F7) (by kernel_rfl) (aT:=aG Tryz.f169) (lt:=L4) (by rfl) (aD XA trivial) Y8
abbrev N6:Shr:=(169,U5 0 (arH 110 .str .none [.hnd 1] (.data [.int .i64]) j6))
theorem YF:wN tP N6:=sG (g:=169) (f:=arH 110 .str .none [.hnd 1] (.data [.int .i64]) j6) (FV aCG)
abbrev kV:List (Nat×Kd):=[(4,.own 3 TyE),(12,.hnd 1),(13,.int .i64),(14,.int .i64),(100000,.ar 110 .str)]
abbrev n8:List (Ex×List (Nat×Kd)):=[(.ret,[(2,.list TyE),(3,.int .i64),(100000,.ar 110 .str)]),(.exit 0,[(4,.own 3 TyE),(100000,.ar 110 .str)])]
def bW(x:Shape.den kV):Option (Shape.den kV⊕aS n8):=match x with
 | (v4,v12,v13,v14,v100000,()) =>
  bif ltI v14 v13 then
   bif aJ v14 v12.2.2 then bif Nat.blt ((v12.2.1+v14.toNat)*1) (dB v100000 v12.1) then aC (p6 ((dS v100000 v12.1 ((v12.2.1+v14.toNat)*1) ByteArray.empty),())) λy2 =>
   bif y2.2.1 then
    bif ltI 1000000000 y2.1 then
     some (.inr (.inl ([],4,v100000,())))
    else bif ltI y2.1 (-1000000000) then
     some (.inr (.inl ([],4,v100000,())))
    else bif Nat.ble [y2.1].length 1048576 then bif Nat.ble v4.length 1048576 then some (.inl ((v4++[y2.1]),(v12.1,v12.2.1,v12.2.2),v13,(aB .i64 (v14+1)),v100000,())) else none else none
   else some (.inr (.inl ([],4,v100000,()))) else none else none
  else some (.inr (.inr ((v4,v100000,()))))
def iM(x:Shape.den kV):Option (aS n8):=bY bW (2^64) x
def eC(u0:Unit)(x:aH [.hnd 1])(A:List (List ByteArray)):Option ((aH [.list TyE,.int .i64])×List (List ByteArray)):=match x with
 | (v0,()) =>
  bif !(ltI ((v0.2.2:Nat):Int) 0) then bif !(ltI 1048576 ((v0.2.2:Nat):Int)) then aC (iM ((List.replicate 0 0),(v0.1,v0.2.1,v0.2.2),((v0.2.2:Nat):Int),0,A,())) λz3 =>
  zM z3 (λa4=>some ((a4.1,a4.2.1,()),a4.2.2.1)) λb5 =>
  some ((b5.1,0,()),b5.2.1) else none else none
def wJ:Code:=aQ Tryz.f170
abbrev DZ:Env:=bZ [aKH]
theorem IC:aY tP DZ:=bB ⟨aN9,trivial⟩
def AW:Code:=eG wJ 0
def CX(id:Nat):Option bI:=bif Nat.beq id 3 then some ⟨kV,n8,iM⟩ else none
theorem RN:∀ x,dY tP DZ 39 (aG Tryz.f170) CX AW kV n8 x=bW x:=by
 rintro⟨v4,v12,v13,v14,v100000,⟨⟩⟩
 kernel_rfl
theorem TI:cN tP 39 AW ⟨kV,n8,iM⟩:=by exact cL IC.callee aI.mixed _ (aD (l:=[]) (by kernel_rfl) trivial) RN
theorem U6:cB wJ=[AW]:=by kernel_rfl
theorem XU:∀ l x A,G6 tP DZ Tryz.f170 (aG Tryz.f170) CX wJ 110 .str .none [.hnd 1] (.data [.list TyE,.int .i64]) l x A=eC l x A:=by
 rintro u0 ⟨v0,⟨⟩⟩ A
 kernel_rfl
theorem ZW:N0 tP 170 110 .str .none [.hnd 1] (.data [.list TyE,.int .i64]) eC:=by exact BE aI IC Tryz.func170 (c:=wJ) (by kernel_rfl) (aT:=aG Tryz.f170) (lt:=CX) (by rfl) (aD U6 ⟨cK (i:=3) (by kernel_rfl) rfl TI,trivial⟩) XU
abbrev MB:Shr:=(170,U5 0 (arH 110 .str .none [.hnd 1] (.data [.list TyE,.int .i64]) eC))
theorem XK:wN tP MB:=sG (g:=170) (f:=arH 110 .str .none [.hnd 1] (.data [.list TyE,.int .i64]) eC) (FV ZW)
abbrev mT:List (Nat×Kd):=[(3,.own 148 (.hnd 1)),(6,.list TyD),(7,.int .i64),(8,.int .i64),(100000,.ar 110 .str)]
abbrev pZ:List (Ex×List (Nat×Kd)):=[(.exit 0,[(3,.own 148 (.hnd 1)),(100000,.ar 110 .str)])]
def kY(x:Shape.den mT):Option (Shape.den mT⊕aS pZ):=match x with
 | (v3,v6,v7,v8,v100000,()) =>
  bif ltI v8 v7 then
   bif aJ v8 v6.length then aC (oY ((v6.getD v8.toNat []),())) λy2 =>
   bif Nat.ble [(v100000.length,0,y2.length)].length 1048576 then bif Nat.ble v3.length 1048576 then some (.inl ((v3++[(v100000.length,0,y2.length)]),v6,v7,(aB .i64 (v8+1)),(v100000++[y2]),())) else none else none else none
  else some (.inr ((v3,v100000,())))
def sE(x:Shape.den mT):Option (aS pZ):=bY kY (2^64) x
def eJ(u0:Unit)(x:aH [.list TyD])(A:List (List ByteArray)):Option ((List (Nat×Nat×Nat))×List (List ByteArray)):=match x with
 | (v0,()) =>
  aC (sE ([],v0,(v0.length:Int),0,A,())) λz3 =>
  some (z3.1,z3.2.1)
def zU:Code:=aQ Tryz.f129
abbrev HI:Env:=OP [] [GF]
theorem KW:aY tP HI:=oB trivial ⟨HL,trivial⟩
def D1:Code:=eG zU 0
def FF(id:Nat):Option bI:=bif Nat.beq id 3 then some ⟨mT,pZ,sE⟩ else none
theorem VM:∀ x,dY tP HI 19 (aG Tryz.f129) FF D1 mT pZ x=kY x:=by
 rintro⟨v3,v6,v7,v8,v100000,⟨⟩⟩
 kernel_rfl
theorem XI:cN tP 19 D1 ⟨mT,pZ,sE⟩:=by exact cL KW.callee aI.mixed _ (aD (l:=[]) (by kernel_rfl) trivial) VM
theorem XW:cB zU=[D1]:=by kernel_rfl
theorem aAZ:∀ l x A,G6 tP HI Tryz.f129 (aG Tryz.f129) FF zU 110 .str .none [.list TyD] (.own 148 (.hnd 1)) l x A=eJ l x A:=by
 rintro u0 ⟨v0,⟨⟩⟩ A
 kernel_rfl
theorem aEU:N0 tP 129 110 .str .none [.list TyD] (.own 148 (.hnd 1)) eJ:=by exact BE aI KW Tryz.func129 (c:=zU) (by kernel_rfl) (aT:=aG Tryz.f129) (lt:=FF) (by rfl) (aD XW ⟨cK (i:=3) (by kernel_rfl) rfl XI,trivial⟩) aAZ
abbrev uK:Shr:=(129,U5 0 (arH 110 .str .none [.list TyD] (.own 148 (.hnd 1)) eJ))
theorem u9:wN tP uK:=sG (g:=129) (f:=arH 110 .str .none [.list TyD] (.own 148 (.hnd 1)) eJ) (FV aEU)
abbrev iX:List (Nat×Kd):=[(0,.own 148 (.hnd 1)),(1,.int .i64),(5,.int .i64),(6,.int .i64),(7,.int .i64),(8,.int .i64),(100000,.ar 110 .str)]
abbrev mB:List (Ex×List (Nat×Kd)):=[(.exit 4,[(0,.own 148 (.hnd 1)),(1,.int .i64),(5,.int .i64),(6,.int .i64),(7,.int .i64),(100000,.ar 110 .str)])]
def dP(x:Shape.den iX):Option (Shape.den iX⊕aS mB):=match x with
 | (v0,v1,v5,v6,v7,v8,v100000,()) =>
  bif ltI v8 (v0.length:Int) then
   bif aJ v8 v0.length then bif Nat.blt v8.toNat v0.length then bif aJ v6 ((v0.getD v8.toNat (0,0,0)).2.2) then bif Nat.blt (((v0.getD v8.toNat (0,0,0)).2.1+v6.toNat)*1) (dB v100000 ((v0.getD v8.toNat (0,0,0)).1)) then bif !(eqS (dS v100000 ((v0.getD v8.toNat (0,0,0)).1) (((v0.getD v8.toNat (0,0,0)).2.1+v6.toNat)*1) ByteArray.empty) (ByteArray.mk #[48])) then
    bif ltI v7 0 then
     some (.inl (v0,v1,v5,v6,v8,(aB .i64 (v8+1)),v100000,()))
    else bif aJ v8 v0.length then bif Nat.blt v8.toNat v0.length then bif aJ v6 ((v0.getD v8.toNat (0,0,0)).2.2) then bif Nat.blt (((v0.getD v8.toNat (0,0,0)).2.1+v6.toNat)*1) (dB v100000 ((v0.getD v8.toNat (0,0,0)).1)) then aC (M9 ((dS v100000 ((v0.getD v8.toNat (0,0,0)).1) (((v0.getD v8.toNat (0,0,0)).2.1+v6.toNat)*1) ByteArray.empty),())) λy4 =>
    bif aJ v7 v0.length then bif Nat.blt v7.toNat v0.length then bif aJ v6 ((v0.getD v7.toNat (0,0,0)).2.2) then bif Nat.blt (((v0.getD v7.toNat (0,0,0)).2.1+v6.toNat)*1) (dB v100000 ((v0.getD v7.toNat (0,0,0)).1)) then aC (M9 ((dS v100000 ((v0.getD v7.toNat (0,0,0)).1) (((v0.getD v7.toNat (0,0,0)).2.1+v6.toNat)*1) ByteArray.empty),())) λy5 =>
    aC (EV (y4.1,y5.1,())) λy6 =>
    bif ltI y6.1 0 then
     some (.inl (v0,v1,v5,v6,v8,(aB .i64 (v8+1)),v100000,()))
    else some (.inl (v0,v1,v5,v6,v7,(aB .i64 (v8+1)),v100000,())) else none else none else none else none else none else none else none else none
   else some (.inl (v0,v1,v5,v6,v7,(aB .i64 (v8+1)),v100000,())) else none else none else none else none
  else some (.inr ((v0,v1,v5,v6,v7,v100000,())))
def kQ(x:Shape.den iX):Option (aS mB):=bY dP (2^64) x
abbrev iW:List (Nat×Kd):=[(0,.own 148 (.hnd 1)),(1,.int .i64),(5,.int .i64),(6,.int .i64),(9,.bool),(10,.int .i64),(100000,.ar 110 .str)]
abbrev mJ:List (Ex×List (Nat×Kd)):=[(.exit 6,[(0,.own 148 (.hnd 1)),(1,.int .i64),(5,.int .i64),(6,.int .i64),(9,.bool),(100000,.ar 110 .str)])]
def eX(x:Shape.den iW):Option (Shape.den iW⊕aS mJ):=match x with
 | (v0,v1,v5,v6,v9,v10,v100000,()) =>
  bif ltI v10 (v0.length:Int) then
   bif aJ v10 v0.length then bif Nat.blt v10.toNat v0.length then bif aJ v6 ((v0.getD v10.toNat (0,0,0)).2.2) then bif Nat.blt (((v0.getD v10.toNat (0,0,0)).2.1+v6.toNat)*1) (dB v100000 ((v0.getD v10.toNat (0,0,0)).1)) then bif aJ v5 v0.length then bif Nat.blt v5.toNat v0.length then bif aJ v6 ((v0.getD v5.toNat (0,0,0)).2.2) then bif Nat.blt (((v0.getD v5.toNat (0,0,0)).2.1+v6.toNat)*1) (dB v100000 ((v0.getD v5.toNat (0,0,0)).1)) then aC (yX ((dS v100000 ((v0.getD v10.toNat (0,0,0)).1) (((v0.getD v10.toNat (0,0,0)).2.1+v6.toNat)*1) ByteArray.empty),(dS v100000 ((v0.getD v5.toNat (0,0,0)).1) (((v0.getD v5.toNat (0,0,0)).2.1+v6.toNat)*1) ByteArray.empty),())) λy10 =>
   bif aJ v10 v0.length then bif Nat.blt v10.toNat v0.length then bif aJ v5 v0.length then bif Nat.blt v5.toNat v0.length then aC (gU () (((v0.getD v10.toNat (0,0,0)).1,(v0.getD v10.toNat (0,0,0)).2.1,(v0.getD v10.toNat (0,0,0)).2.2),y10.1,((v0.getD v5.toNat (0,0,0)).1,(v0.getD v5.toNat (0,0,0)).2.1,(v0.getD v5.toNat (0,0,0)).2.2),()) v100000) λy11 =>
   bif v9 then
    some (.inl (v0,v1,v5,v6,true,(aB .i64 (v10+1)),y11.2,()))
   else some (.inl (v0,v1,v5,v6,!(eqS y10.2.1 (ByteArray.mk #[48])),(aB .i64 (v10+1)),y11.2,())) else none else none else none else none else none else none else none else none else none else none else none else none
  else some (.inr ((v0,v1,v5,v6,v9,v100000,())))
def oG(x:Shape.den iW):Option (aS mJ):=bY eX (2^64) x
abbrev iY:List (Nat×Kd):=[(0,.own 148 (.hnd 1)),(1,.int .i64),(5,.int .i64),(6,.int .i64),(142,.int .i64),(143,.int .i64),(100000,.ar 110 .str)]
abbrev mF:List (Ex×List (Nat×Kd)):=[(.exit 8,[(0,.own 148 (.hnd 1)),(1,.int .i64),(5,.int .i64),(6,.int .i64),(100000,.ar 110 .str)])]
def kM(x:Shape.den iY):Option (Shape.den iY⊕aS mF):=match x with
 | (v0,v1,v5,v6,v142,v143,v100000,()) =>
  bif ltI v143 v142 then
   bif aJ v143 v0.length then bif Nat.blt v143.toNat v0.length then bif aJ v6 ((v0.getD v143.toNat (0,0,0)).2.2) then bif Nat.blt (((v0.getD v143.toNat (0,0,0)).2.1+v6.toNat)*1) (dB v100000 ((v0.getD v143.toNat (0,0,0)).1)) then bif aJ v5 v0.length then bif Nat.blt v5.toNat v0.length then bif aJ v6 ((v0.getD v5.toNat (0,0,0)).2.2) then bif Nat.blt (((v0.getD v5.toNat (0,0,0)).2.1+v6.toNat)*1) (dB v100000 ((v0.getD v5.toNat (0,0,0)).1)) then aC (yX ((dS v100000 ((v0.getD v143.toNat (0,0,0)).1) (((v0.getD v143.toNat (0,0,0)).2.1+v6.toNat)*1) ByteArray.empty),(dS v100000 ((v0.getD v5.toNat (0,0,0)).1) (((v0.getD v5.toNat (0,0,0)).2.1+v6.toNat)*1) ByteArray.empty),())) λy17 =>
   bif aJ v143 v0.length then bif Nat.blt v143.toNat v0.length then bif aJ v5 v0.length then bif Nat.blt v5.toNat v0.length then aC (gU () (((v0.getD v143.toNat (0,0,0)).1,(v0.getD v143.toNat (0,0,0)).2.1,(v0.getD v143.toNat (0,0,0)).2.2),y17.1,((v0.getD v5.toNat (0,0,0)).1,(v0.getD v5.toNat (0,0,0)).2.1,(v0.getD v5.toNat (0,0,0)).2.2),()) v100000) λy18 =>
   some (.inl (v0,v1,v5,v6,v142,(aB .i64 (v143+1)),y18.2,())) else none else none else none else none else none else none else none else none else none else none else none else none
  else some (.inr ((v0,v1,v5,v6,v100000,())))
def dN(x:Shape.den iY):Option (aS mF):=bY kM (2^64) x
abbrev jH:List (Nat×Kd):=[(0,.own 148 (.hnd 1)),(1,.int .i64),(5,.int .i64),(6,.int .i64),(100000,.ar 110 .str)]
abbrev l7:List (Ex×List (Nat×Kd)):=[(.exit 2,[(0,.own 148 (.hnd 1)),(1,.int .i64),(5,.int .i64),(6,.int .i64),(100000,.ar 110 .str)])]
def dO(x:Shape.den jH):Option (Shape.den jH⊕aS l7):=match x with
 | (v0,v1,v5,v6,v100000,()) =>
  aC (kQ (v0,v1,v5,v6,(-1),v5,v100000,())) λz21 =>
  bif ltI z21.2.2.2.2.1 0 then
   some (.inr ((z21.1,z21.2.1,z21.2.2.1,z21.2.2.2.1,z21.2.2.2.2.2.1,())))
  else bif aJ z21.2.2.2.2.1 z21.1.length then bif Nat.blt z21.2.2.2.2.1.toNat z21.1.length then bif aJ z21.2.2.1 z21.1.length then bif Nat.blt z21.2.2.1.toNat z21.1.length then bif aJ z21.2.2.1 z21.1.length then bif Nat.blt z21.2.2.1.toNat z21.1.length then bif aJ z21.2.2.2.2.1 (z21.1.set z21.2.2.1.toNat ((z21.1.getD z21.2.2.2.2.1.toNat (0,0,0)).1,(z21.1.getD z21.2.2.2.2.1.toNat (0,0,0)).2.1,(z21.1.getD z21.2.2.2.2.1.toNat (0,0,0)).2.2)).length then bif Nat.blt z21.2.2.2.2.1.toNat (z21.1.set z21.2.2.1.toNat ((z21.1.getD z21.2.2.2.2.1.toNat (0,0,0)).1,(z21.1.getD z21.2.2.2.2.1.toNat (0,0,0)).2.1,(z21.1.getD z21.2.2.2.2.1.toNat (0,0,0)).2.2)).length then aC (oG (((z21.1.set z21.2.2.1.toNat ((z21.1.getD z21.2.2.2.2.1.toNat (0,0,0)).1,(z21.1.getD z21.2.2.2.2.1.toNat (0,0,0)).2.1,(z21.1.getD z21.2.2.2.2.1.toNat (0,0,0)).2.2)).set z21.2.2.2.2.1.toNat ((z21.1.getD z21.2.2.1.toNat (0,0,0)).1,(z21.1.getD z21.2.2.1.toNat (0,0,0)).2.1,(z21.1.getD z21.2.2.1.toNat (0,0,0)).2.2)),z21.2.1,z21.2.2.1,z21.2.2.2.1,false,(aB .i64 (z21.2.2.1+1)),z21.2.2.2.2.2.1,())) λz22 =>
  bif z22.2.2.2.2.1 then
   some (.inl (z22.1,z22.2.1,z22.2.2.1,z22.2.2.2.1,z22.2.2.2.2.2.1,()))
  else bif aJ z22.2.2.1 z22.1.length then bif Nat.blt z22.2.2.1.toNat z22.1.length then bif aJ z22.2.2.2.1 ((z22.1.getD z22.2.2.1.toNat (0,0,0)).2.2) then bif Nat.blt (((z22.1.getD z22.2.2.1.toNat (0,0,0)).2.1+z22.2.2.2.1.toNat)*1) (dB z22.2.2.2.2.2.1 ((z22.1.getD z22.2.2.1.toNat (0,0,0)).1)) then aC (CA ((dS z22.2.2.2.2.2.1 ((z22.1.getD z22.2.2.1.toNat (0,0,0)).1) (((z22.1.getD z22.2.2.1.toNat (0,0,0)).2.1+z22.2.2.2.1.toNat)*1) ByteArray.empty),())) λy23 =>
  bif ltI y23.1 0 then
   bif aJ z22.2.2.1 z22.1.length then bif Nat.blt z22.2.2.1.toNat z22.1.length then aC (fJ () (((z22.1.getD z22.2.2.1.toNat (0,0,0)).1,(z22.1.getD z22.2.2.1.toNat (0,0,0)).2.1,(z22.1.getD z22.2.2.1.toNat (0,0,0)).2.2),()) z22.2.2.2.2.2.1) λy24 =>
   aC (dN (z22.1,z22.2.1,z22.2.2.1,z22.2.2.2.1,z22.2.2.1,0,y24.2,())) λz25 =>
   some (.inr ((z25.1,z25.2.1,(aB .i64 (z25.2.2.1+1)),z25.2.2.2.1,z25.2.2.2.2.1,()))) else none else none
  else aC (dN (z22.1,z22.2.1,z22.2.2.1,z22.2.2.2.1,z22.2.2.1,0,z22.2.2.2.2.2.1,())) λz26 =>
  some (.inr ((z26.1,z26.2.1,(aB .i64 (z26.2.2.1+1)),z26.2.2.2.1,z26.2.2.2.2.1,()))) else none else none else none else none else none else none else none else none else none else none else none else none
def kN(x:Shape.den jH):Option (aS l7):=bY dO (2^64) x
abbrev jG:List (Nat×Kd):=[(0,.own 148 (.hnd 1)),(1,.int .i64),(5,.int .i64),(6,.int .i64),(100000,.ar 110 .str)]
abbrev mE:List (Ex×List (Nat×Kd)):=[(.exit 0,[(0,.own 148 (.hnd 1)),(5,.int .i64),(100000,.ar 110 .str)])]
def eW(x:Shape.den jG):Option (Shape.den jG⊕aS mE):=match x with
 | (v0,v1,v5,v6,v100000,()) =>
  bif ltI v6 v1 then
   bif ltI v5 (v0.length:Int) then
    aC (kN (v0,v1,v5,v6,v100000,())) λz28 =>
    some (.inl (z28.1,z28.2.1,z28.2.2.1,(aB .i64 (z28.2.2.2.1+1)),z28.2.2.2.2.1,()))
   else some (.inr ((v0,v5,v100000,())))
  else some (.inr ((v0,v5,v100000,())))
def oH(x:Shape.den jG):Option (aS mE):=bY eW (2^64) x
def dD(v0:List (Nat×Nat×Nat))(x:aH [.int .i64])(A:List (List ByteArray)):Option ((List (Nat×Nat×Nat))×List (List ByteArray)):=match x with
 | (v1,()) =>
  aC (oH (v0,v1,0,0,A,())) λz29 =>
  bif Nat.beq z29.1.length 0 then
   bif !(ltI z29.2.1 0) then bif Nat.beq z29.2.1.toNat 0 then some (z29.1,z29.2.2.1) else none else none
  else bif !(ltI z29.2.1 0) then bif Nat.ble 0 z29.2.1.toNat then bif Nat.ble z29.2.1.toNat z29.1.length then bif Nat.blt 0 z29.1.length then some (z29.1.take (z29.2.1.toNat-0),z29.2.2.1) else none else none else none else none
def tW:Code:=aQ Tryz.f121
abbrev iV:Env:=OP [aPU,aDT,WT,aC8] [N2,KK]
theorem iS:aY tP iV:=oB ⟨aRZ,aKM,YA,aEC,trivial⟩ ⟨YD,VE,trivial⟩
def mV:Code:=eG tW 0
def gJ:Code:=eG mV 0
def wU:Code:=eG gJ 0
def xG:Code:=eG gJ 1
def xC:Code:=eG gJ 2
def gW(id:Nat):Option bI:=bif Nat.beq id 7 then some ⟨iX,mB,kQ⟩ else bif Nat.beq id 15 then some ⟨iW,mJ,oG⟩ else bif Nat.beq id 24 then some ⟨iY,mF,dN⟩ else bif Nat.beq id 5 then some ⟨jH,l7,kN⟩ else bif Nat.beq id 3 then some ⟨jG,mE,oH⟩ else none
theorem OJ:∀ x,dY tP iV 181 (aG Tryz.f121) gW wU iX mB x=dP x:=by
 rintro⟨v0,v1,v5,v6,v7,v8,v100000,⟨⟩⟩
 kernel_rfl
theorem PD:cN tP 181 wU ⟨iX,mB,kQ⟩:=by exact cL iS.callee aI.mixed _ (aD (l:=[]) (by kernel_rfl) trivial) OJ
theorem OA:∀ x,dY tP iV 181 (aG Tryz.f121) gW xG iW mJ x=eX x:=by
 rintro⟨v0,v1,v5,v6,v9,v10,v100000,⟨⟩⟩
 kernel_rfl
theorem PL:cN tP 181 xG ⟨iW,mJ,oG⟩:=by exact cL iS.callee aI.mixed _ (aD (l:=[]) (by kernel_rfl) trivial) OA
theorem OD:∀ x,dY tP iV 181 (aG Tryz.f121) gW xC iY mF x=kM x:=by
 rintro⟨v0,v1,v5,v6,v142,v143,v100000,⟨⟩⟩
 kernel_rfl
theorem PS:cN tP 181 xC ⟨iY,mF,dN⟩:=by exact cL iS.callee aI.mixed _ (aD (l:=[]) (by kernel_rfl) trivial) OD
theorem OV:∀ x,dY tP iV 181 (aG Tryz.f121) gW gJ jH l7 x=dO x:=by
 rintro⟨v0,v1,v5,v6,v100000,⟨⟩⟩
 kernel_rfl
theorem TN:cB gJ=[wU,xG,xC]:=by kernel_rfl
theorem PR:cN tP 181 gJ ⟨jH,l7,kN⟩:=by exact cL iS.callee aI.mixed _ (aD TN ⟨cK (i:=7) (by kernel_rfl) rfl PD,cK (i:=15) (by kernel_rfl) rfl PL,cK (i:=24) (by kernel_rfl) rfl PS,trivial⟩) OV
theorem OG:∀ x,dY tP iV 181 (aG Tryz.f121) gW mV jG mE x=eW x:=by
 rintro⟨v0,v1,v5,v6,v100000,⟨⟩⟩
 kernel_rfl
theorem T3:cB mV=[gJ]:=by kernel_rfl
theorem PT:cN tP 181 mV ⟨jG,mE,oH⟩:=by exact cL iS.callee aI.mixed _ (aD T3 ⟨cK (i:=5) (by kernel_rfl) rfl PR,trivial⟩) OG
theorem RO:cB tW=[mV]:=by kernel_rfl
theorem SP:∀ l x A,G6 tP iV Tryz.f121 (aG Tryz.f121) gW tW 110 .str (.own 148 (.hnd 1)) [.int .i64] (.own 148 (.hnd 1)) l x A=dD l x A:=by
 rintro u0 ⟨v1,⟨⟩⟩ A
 kernel_rfl
theorem XB:N0 tP 121 110 .str (.own 148 (.hnd 1)) [.int .i64] (.own 148 (.hnd 1)) dD:=by exact BE aI iS Tryz.func121 (c:=tW) (by kernel_rfl) (aT:=aG Tryz.f121) (lt:=gW) (by rfl) (aD RO ⟨cK (i:=3) (by kernel_rfl) rfl PT,trivial⟩) SP
abbrev lX:Shr:=(121,U5 1 (arH 110 .str (.own 148 (.hnd 1)) [.int .i64] (.own 148 (.hnd 1)) dD))
theorem mH:wN tP lX:=sG (g:=121) (f:=arH 110 .str (.own 148 (.hnd 1)) [.int .i64] (.own 148 (.hnd 1)) dD) (FV XB)
end Go.PM
namespace Go.PM
open Go Go.RowKit Go.Proofs
def Dn(u:Nat):ByteArray:=⟨(Lib.decDigits u).toArray⟩
def Zn(n:Int):ByteArray:=⟨(Lib.itoa n).toArray⟩
theorem yG(u:Nat):(Dn u).data.toList=Lib.decDigits u:=by simp[Dn]
theorem bAC(n:Int):(Zn n).data.toList=Lib.itoa n:=by simp[Zn]
theorem aHS(u:Nat):Zn (u:Int)=Dn u:=by unfold Zn Dn; rw[Lib.itoa_nonneg]
theorem aX9 {n:Int}(h:n.natAbs<10^20):aYB n=Zn n:=aO2 h
theorem W6 {n:Int}(h:n<0):(Zn n).data.toList=45::Lib.decDigits n.natAbs:=by rw[bAC,Lib.itoa,if_pos h]
theorem PC {n:Int}(h:0<=n):Zn n=Dn n.natAbs:=by
 obtain⟨u,rfl⟩:∃ u:Nat,n=u:=⟨n.natAbs,by omega⟩;rw[aHS]; congr 1
theorem TP {a b:ByteArray}(h:a.data.toList=b.data.toList):a=b:=by
 cases a; cases b
 congr 1
 exact Array.ext' h
theorem X7(a:ByteArray):a.size=a.data.toList.length:=by cases a; rfl
theorem aQE(l m:List UInt8):∀ (acc:Nat),Lib.decFrom acc (l++m)=(Lib.decFrom acc l).bind λa=>Lib.decFrom a m:=by
 induction l with
 | nil=>intro acc; rfl
 | cons b l ih =>
  intro acc;rw[List.cons_append,Lib.decFrom,Lib.decFrom];split
  ·exact ih _
  ·rfl
theorem aSN {d:Nat}(h:d<10):Lib.digitVal (UInt8.ofNat (48+d))=some d:=by
 have h1:(UInt8.ofNat (48+d)).toNat=48+d:=by
  rw[UInt8.toNat_ofNat'];omega
 unfold Lib.digitVal;rw[h1,if_pos (by omega)]
 congr 1
 omega
theorem p5(u:Nat):Lib.decFrom 0 (Lib.decDigits u)=some u:=by
 induction u using Nat.strongRecOn with
 | _ u ih =>
  rw[Lib.decDigits];split
  ·rename_i h;rw[Lib.decFrom,aSN h];simp[Lib.decFrom]
  ·rename_i h;rw[aQE,ih (u/10) (by omega)];simp only[Option.bind_some];rw[Lib.decFrom,aSN (Nat.mod_lt _ (by decide))];simp only[Lib.decFrom]
   congr 1
   omega
theorem GK(u:Nat):Lib.decDigits u≠[]:=by
 rw[Lib.decDigits];split <;> simp
theorem HU(u:Nat):∀ b∈Lib.decDigits u,48<=b.toNat/\b.toNat<=57:=by
 induction u using Nat.strongRecOn with
 | _ u ih =>
  intro b hb;rw[Lib.decDigits]at hb;have key:∀ d,d<10->48<=(UInt8.ofNat (48+d)).toNat/\(UInt8.ofNat (48+d)).toNat<=57:=λd h=>by rw[UInt8.toNat_ofNat']; omega
  split at hb
  ·rename_i h;simp only[List.mem_singleton]at hb;subst hb;exact key u h
  ·rename_i h;simp only[List.mem_append,List.mem_singleton]at hb;rcases hb with hb|rfl
   ·exact ih (u/10) (by omega) b hb
   ·exact key _ (Nat.mod_lt _ (by decide))
theorem a8H {a b:Nat}(h:Dn a=Dn b):a=b:=by
 have h1:=congrArg (λx:ByteArray=>Lib.decFrom 0 x.data.toList) h;simp only[yG,p5]at h1;exact Option.some.inj h1
theorem aM1 {n:Int}(h:n<0)(m:Nat):Zn n≠Dn m:=by
 intro e;have h1:=congrArg (λx:ByteArray=>x.data.toList) e;simp only[W6 h,yG]at h1;have:=HU m 45 (by rw[<- h1]; simp);have e45:(45:UInt8).toNat=45:=by decide
 omega
theorem bA9 {a b:Int}(h:Zn a=Zn b):a=b:=by
 rcases(by omega:a<0\/0<=a)with ha|ha
 ·rcases(by omega:b<0\/0<=b)with hb|hb
  ·have h1:=congrArg (λx:ByteArray=>x.data.toList) h;simp only[W6 ha,W6 hb,List.cons.injEq,true_and]at h1;have h2:=congrArg (Lib.decFrom 0) h1;rw[p5,p5]at h2;have:=Option.some.inj h2;omega
  ·rw[PC hb]at h;exact absurd h (aM1 ha _)
 ·rcases(by omega:b<0\/0<=b)with hb|hb
  ·rw[PC ha]at h;exact absurd h.symm (aM1 hb _)
  ·rw[PC ha,PC hb]at h;have:=a8H h;omega
theorem a8O(a b:ByteArray):eqS a b=decide (a=b):=by
 unfold eqS
 by_cases h:a=b
 ·subst h; simp
 ·have:¬ a.data=b.data:=λe=>h (TP (by rw[e]))
  simp[h,this]
theorem bBP:ByteArray.mk #[48]=Dn 0:=TP (by rw[yG,Lib.decDigits]; rfl)
theorem bCW:ByteArray.mk #[49]=Dn 1:=TP (by rw[yG,Lib.decDigits]; rfl)
theorem VN(n:Int):eqS (Zn n) (ByteArray.mk #[48])=decide (n=0):=by
 rw[a8O,bBP,show Dn 0=Zn 0 from(aHS 0).symm]
 by_cases h:n=0
 ·subst h; simp
 ·have:¬ Zn n=Zn 0:=λe=>h (bA9 e)
  simp[h,this]
theorem aOJ(n:Nat):eqS (Dn n) (ByteArray.mk #[48])=decide (n=0):=by
 rw[<- aHS,VN];simp
theorem EL(u:Nat):(Dn u).size=Lib.nDigits u:=by rw[X7,yG,Lib.decDigits_length]
theorem E9 {n:Int}(h:n<0):(Zn n).size=Lib.nDigits n.natAbs+1:=by rw[X7,W6 h,List.length_cons,Lib.decDigits_length]
theorem JA {u k:Nat}:u<10^(k+1)->Lib.nDigits u<=k+1:=by
 induction k generalizing u with
 | zero=>intro h; rw[Lib.nDigits_small (by simpa using h)]; exact Nat.le_refl _
 | succ k ih =>
  intro h
  by_cases h1:u<10
  ·rw[Lib.nDigits_small h1]; omega
  ·rw[Lib.nDigits_big h1];have:=ih (u:=u/10) (by rw[Nat.pow_succ]at h; omega);omega
theorem kW(u:Nat):u<10^Lib.nDigits u:=by
 have:=Lib.decFrom_lt _ _ _ (p5 u);rw[Lib.decDigits_length]at this;simpa using this
theorem nDigits_pos(u:Nat):1<=Lib.nDigits u:=by rw[Lib.nDigits]; split <;> omega
theorem a90(n:Int):Lib.atoi (Zn n).data.toList=some n:=by
 rcases(by omega:n<0\/0<=n)with h|h
 ·rw[W6 h];have hne:(Lib.decDigits n.natAbs).isEmpty=false:=by
   cases e:Lib.decDigits n.natAbs with
   | nil=>exact absurd e (GK _)
   | cons _ _=>rfl
  simp only[Lib.atoi,Lib.decNat,hne,p5];simp;omega
 ·rw[PC h,yG];have h1:=p5 n.natAbs;have h2:=HU n.natAbs;cases e:Lib.decDigits n.natAbs with
  | nil=>exact absurd e (GK _)
  | cons b r =>
   rw[e]at h1 h2;have hb:=h2 b (by simp);have n45:(b==45)=false:=by
    rw[beq_eq_false_iff_ne]; rintro rfl;have:(45:UInt8).toNat=45:=by decide
    omega
   have n43:(b==43)=false:=by
    rw[beq_eq_false_iff_ne]; rintro rfl;have:(43:UInt8).toNat=43:=by decide
    omega
   simp only[Lib.atoi,n45,n43,Lib.decNat,h1];simp;omega
theorem aL8(u:Nat):Lib.decNat (Dn u).data.toList=some u:=by
 have hne:(Lib.decDigits u).isEmpty=false:=by
  cases e:Lib.decDigits u with
  | nil=>exact absurd e (GK _)
  | cons _ _=>rfl
 simp only[yG,Lib.decNat,hne,p5];simp
theorem aHW:∀ (l:List UInt8) (acc n:Nat),Lib.decFrom acc l=some n->acc*10^l.length<=n
 | [],acc,n,h=>by
  obtain rfl:=Option.some.inj h;simp
 | b::l,acc,n,h=>by
  rw[Lib.decFrom]at h;split at h
  ·rename_i d hd;have:=aHW l _ n h;rw[List.length_cons,Nat.pow_succ];have h1:(acc*10+d)*10^l.length=acc*(10^l.length*10)+d*10^l.length:=by grind
   omega
  ·cases h
theorem YW:∀ (l m:List UInt8) (acc x y:Nat),l.length=m.length->Lib.decFrom acc l=some x->Lib.decFrom acc m=some y->Op.bytesLess l m=decide (x<y)
 | [],[],acc,x,y,_,h1,h2=>by
  obtain rfl:=Option.some.inj h1;obtain rfl:=Option.some.inj h2;simp[Op.bytesLess]
 | [],_::_,_,_,_,h,_,_=>by simp at h
 | _::_,[],_,_,_,h,_,_=>by simp at h
 | c::l,d::m,acc,x,y,h,h1,h2=>by
  have hl:l.length=m.length:=by simpa using h
  have digit:∀ (b:UInt8) (e:Nat),Lib.digitVal b=some e->b.toNat=48+e/\e<10:=by
   intro b e he;unfold Lib.digitVal at he;split at he
   ·have:=Option.some.inj he;omega
   ·cases he
  rw[Lib.decFrom]at h1 h2;split at h1
  ·rename_i e1 he1;split at h2
   ·rename_i e2 he2;obtain⟨c1,c2⟩:=digit c e1 he1;obtain⟨d1,d2⟩:=digit d e2 he2;have x1:=Lib.decFrom_lt l _ x h1;have x2:=aHW l _ x h1;have y1:=Lib.decFrom_lt m _ y h2;have y2:=aHW m _ y h2;rw[hl]at x1 x2;rw[Op.bytesLess];rcases Nat.lt_trichotomy e1 e2 with g|g|g
    ·have lt:c<d:=by rw[UInt8.lt_iff_toNat_lt]; omega
     have:(acc*10+e1+1)*10^m.length<=(acc*10+e2)*10^m.length:=Nat.mul_le_mul_right _ (by omega);have hxy:x<y:=by omega
     simp[lt,hxy]
    ·subst g;have e:c=d:=UInt8.toNat_inj.1 (by omega);subst e;have lt:¬ c<c:=by rw[UInt8.lt_iff_toNat_lt]; omega
     simp[lt,YW l m _ x y hl h1 h2]
    ·have lt:¬ c<d:=by rw[UInt8.lt_iff_toNat_lt]; omega
     have ne:¬ c=d:=by rintro rfl; omega
     have:(acc*10+e2+1)*10^m.length<=(acc*10+e1)*10^m.length:=Nat.mul_le_mul_right _ (by omega);have hxy:¬ x<y:=by omega
     simp[lt,ne,hxy]
   ·cases h2
  ·cases h1
theorem bAV {a b:Nat}(h:Lib.nDigits a=Lib.nDigits b):ltS (Dn a) (Dn b)=decide (a<b):=by
 unfold ltS;rw[yG,yG];exact YW _ _ 0 a b (by rw[Lib.decDigits_length,Lib.decDigits_length,h]) (p5 a) (p5 b)
theorem yR {a b:Nat}(h:a<=b):Lib.nDigits a<=Lib.nDigits b:=by
 obtain⟨k,hk⟩:∃ k,Lib.nDigits b=k+1:=⟨Lib.nDigits b-1,by have:=nDigits_pos b; omega⟩;rw[hk];refine JA (Nat.lt_of_le_of_lt h ?_);rw[<- hk];exact kW b
theorem bBG(a b:Nat):eqS (Dn a) (Dn b)=decide (a=b):=by
 rw[a8O]
 by_cases h:a=b
 ·subst h; simp
 ·have:¬ Dn a=Dn b:=λe=>h (a8H e)
  simp[h,this]
def aF1(a b:Nat):Int:=if a<b then -1 else if b<a then 1 else 0
theorem xI(a b:Nat)(ha:Lib.nDigits a<2^32)(hb:Lib.nDigits b<2^32):fQ (Dn a,Dn b,())=some (aF1 a b,()):=by
 unfold fQ;dsimp only;rw[EL,EL];have hpa:=nDigits_pos a;have hpb:=nDigits_pos b
 by_cases h:Lib.nDigits a=Lib.nDigits b
 ·have h1:eqI (Lib.nDigits a:Int) (Lib.nDigits b:Int)=true:=by rw[fO]; simp[h]
  rw[h1,bAV h,bBG];simp only[Bool.not_true,oD];unfold aF1
  by_cases h2:a<b
  ·simp[h2]
  ·by_cases h3:a=b
   ·subst h3; simp
   ·have:b<a:=by omega
    simp[h2,h3,this]
 ·have h1:eqI (Lib.nDigits a:Int) (Lib.nDigits b:Int)=false:=by rw[fO]; simp; omega
  rw[h1];simp only[Bool.not_false,oC];rw[wrap64 (by omega) (by omega)]
  congr 2
  unfold aF1
  by_cases h2:a<b
  ·have:=yR (Nat.le_of_lt h2);have h4:¬ (-1:Int)<(Lib.nDigits a:Int)-(Lib.nDigits b:Int):=by omega
   rw[if_pos h2,if_neg h4];rfl
  ·have h3:b<a:=by
    rcases Nat.lt_or_ge b a with g|g
    ·exact g
    ·have:a=b:=by omega
     subst this; exact absurd rfl h
   have:=yR (Nat.le_of_lt h3);have h4:(-1:Int)<(Lib.nDigits a:Int)-(Lib.nDigits b:Int):=by omega
   have h5:¬ (Lib.nDigits a:Int)-(Lib.nDigits b:Int)<1:=by omega
   rw[if_neg h2,if_pos h3,if_pos h4,if_neg h5]
theorem AD(n:Int) (h1 : -9223372036854775808<=n) (h2:n<9223372036854775808):nO (n,())=some (Zn n,()):=by
 unfold nO H7;have e1:ltI n (-9223372036854775808)=false:=by rw[aF]; simp; omega
 have e2:ltI 9223372036854775807 n=false:=by rw[aF]; simp; omega
 simp only[e1,e2,Bool.not_false,Bool.and_self,oC,aE,aX9 (n:=n) (by omega)]
theorem MG(u:Nat)(h:u<18446744073709551616):tC ((u:Int),())=some (Dn u,()):=by
 unfold tC uF;have e1:ltI (u:Int) 0=false:=by rw[aF]; simp
 have e2:ltI (u:Int) 18446744073709551616=true:=by rw[aF]; simp; omega
 have e3:eqI 10 10=true:=by decide
 simp only[e1,e2,e3,Bool.not_false,Bool.and_self,oC,aE,aX9 (n:=(u:Int)) (by simp; omega),aHS]
theorem aGV(u:Nat)(h:Lib.nDigits u<=18):BG (Dn u,())=some ((u:Int),true,()):=by
 unfold BG wB;have e1:Nat.ble (Dn u).size 1000000000=true:=by rw[gG,EL]; simp; omega
 have e2:eqI 10 10=true:=by decide
 have e3:eqI 64 64=true:=by decide
 have e4:Lib.parseUintB 64 (Dn u).data.toList=.ok u:=by
  rw[Lib.parseUintB_64,Lib.parseMag_short _ (by rw[yG,Lib.decDigits_length]; exact h),aL8];rfl
 simp only[e1,e2,e3,Bool.and_self,oC,aE,e4]
theorem RX(a b:Nat)(ha:Lib.nDigits a<=18)(hb:Lib.nDigits b<=18):pK (Dn a,Dn b,())=some ((a:Int),(b:Int),true,()):=by
 unfold pK;have e1:ltI 18 ((Dn a).size:Int)=false:=by rw[aF,EL]; simp; omega
 have e2:ltI 18 ((Dn b).size:Int)=false:=by rw[aF,EL]; simp; omega
 simp only[e1,e2,oD,aGV a ha,aGV b hb,aE]
theorem aFN {s:ByteArray}{c:UInt8}{l:List UInt8}(h:s.data.toList=c::l):aRY s 0=(c.toNat:Int):=by
 have h1:s[0]?=some c:=by
  have h2:s.size=l.length+1:=by rw[X7,h]; rfl
  have h3:s.data[0]?=some c:=by rw[<- Array.getElem?_toList,h]; rfl
  have h4:s[0]?=s.data[0]?:=by cases s; rfl
  rw[h4,h3]
 unfold aRY;rw[h1]
theorem a2C(u:Nat):∃ c l,(Dn u).data.toList=c::l/\c.toNat≠45:=by
 have h:=HU u;rw[yG];cases e:Lib.decDigits u with
 | nil=>exact absurd e (GK _)
 | cons c l =>
  rw[e]at h;have:=h c (by simp);exact⟨c,l,rfl,by omega⟩
theorem aUO {s:ByteArray}{c:UInt8}{l:List UInt8}(h:s.data.toList=c::l):s.extract 1 s.size=⟨l.toArray⟩:=by
 refine TP ?_;have h1:(s.extract 1 s.size).data=s.data.extract 1 s.data.size:=ByteArray.data_extract;rw[h1,Array.toList_extract,List.extract_eq_take_drop,h];have h2:s.data.size=l.length+1:=by rw[<- Array.length_toList,h]; rfl
 rw[h2];simp
theorem vC(n:Int):cO (Zn n,())=some (decide (n<0),Dn n.natAbs,()):=by
 unfold cO
 by_cases h:n<0
 ·have hz:=W6 h;have e1:ltI 0 ((Zn n).size:Int)=true:=by rw[aF,E9 h]; simp <;> omega
  have e2:aJ 0 (Zn n).size=true:=by rw[aP,E9 h]; simp <;> omega
  have e3:aRY (Zn n) 0=45:=by rw[aFN hz]; rfl
  have e4:Nat.ble 1 (Zn n).size=true:=by rw[gG,E9 h]; simp
  have e5:Nat.ble (Zn n).size (Zn n).size=true:=by rw[gG]; simp
  have e6:eqI 45 45=true:=by decide
  simp only[e1,e2,e3,e4,e5,e6,oC,aUO hz,h,decide_true,Dn]
 ·rw[PC (by omega)];obtain⟨c,l,h1,h2⟩:=a2C n.natAbs;have hs:(Dn n.natAbs).size=l.length+1:=by rw[X7,h1]; rfl
  have e1:ltI 0 ((Dn n.natAbs).size:Int)=true:=by rw[aF,hs]; simp <;> omega
  have e2:aJ 0 (Dn n.natAbs).size=true:=by rw[aP,hs]; simp <;> omega
  have e3:eqI (aRY (Dn n.natAbs) 0) 45=false:=by rw[aFN h1,fO]; simp <;> omega
  simp only[e1,e2,e3,oC,oD,h,decide_false]
theorem aPX(b:Bool)(m:Nat)(hm:Lib.nDigits m<2^32):aA (b,Dn m,())=some (Zn (if b then -(m:Int) else m),()):=by
 unfold aA;cases b with
 | false=>simp[aHS]
 | true =>
  have e2:Nat.ble ((ByteArray.mk #[45]).size+(Dn m).size) 9223372036854775807=true:=by
   rw[gG,EL];have:(ByteArray.mk #[45]).size=1:=rfl;rw[this]; simp <;> omega
  simp only[oC,aOJ,e2]
  by_cases h:m=0
  ·subst h;simp only[decide_true,Bool.not_true,oD];simp only[if_true];have : -((0:Nat):Int)=((0:Nat):Int):=rfl;rw[this,aHS]
  ·simp only[h,decide_false,Bool.not_false,oC];simp only[if_true]
   congr 2
   refine TP ?_;rw[W6 (by omega),Joins.data_append,yG];have:(-(m:Int)).natAbs=m:=by omega
   rw[this];rfl
theorem o0(m:Nat)(hm:Lib.nDigits m<2^32):aA (true,Dn m,())=some (Zn (-(m:Int)),()):=(aPX true m hm).trans (by simp)
theorem sQ(m:Nat)(hm:Lib.nDigits m<2^32):aA (false,Dn m,())=some (Zn (m:Int),()):=(aPX false m hm).trans (by simp)
theorem GQ(n k:Int)(hk:k<=18):pJ (Zn n,k,())=if ((Zn n).size:Int)<=k then some (n,true,()) else some (0,false,()):=by
 unfold pJ
 by_cases h:((Zn n).size:Int)<=k
 ·have e1:ltI k ((Zn n).size:Int)=false:=by rw[aF]; simp <;> omega
  have e2:Nat.ble (Zn n).size 18=true:=by rw[gG]; simp <;> omega
  rw[if_pos h];simp only[e1,oD,HZ,e2,oC,a90,aE]
 ·have e1:ltI k ((Zn n).size:Int)=true:=by rw[aF]; simp <;> omega
  rw[if_neg h];simp only[e1,oC]
theorem aHO(n:Int):CA (Zn n,())=some (n.sign,()):=by
 unfold CA;simp only[VN]
 by_cases h0:n=0
 ·subst h0; simp
 ·by_cases h:n<0
  ·have hz:=W6 h;have e2:aJ 0 (Zn n).size=true:=by rw[aP,E9 h]; simp <;> omega
   have e3:aRY (Zn n) 0=45:=by rw[aFN hz]; rfl
   have e6:eqI 45 45=true:=by decide
   simp only[h0,decide_false,oD,e2,e3,e6,oC,Int.sign_eq_neg_one_of_neg h]
  ·rw[PC (by omega)];obtain⟨c,l,h1,h2⟩:=a2C n.natAbs;have hs:(Dn n.natAbs).size=l.length+1:=by rw[X7,h1]; rfl
   have e2:aJ 0 (Dn n.natAbs).size=true:=by rw[aP,hs]; simp <;> omega
   have e3:eqI (aRY (Dn n.natAbs) 0) 45=false:=by rw[aFN h1,fO]; simp <;> omega
   simp only[h0,decide_false,oD,e2,e3,oC,Int.sign_eq_one_of_pos (show 0<n by omega)]
theorem aTG(n:Int)(h:Lib.nDigits n.natAbs<2^32):MU (Zn n,())=some (Zn (-n),()):=by
 unfold MU;simp only[vC n,aE]
 by_cases h0:n<0
 ·simp only[h0,decide_true,oC,sQ _ h,aE];have:(n.natAbs:Int) = -n:=by omega
  rw[this]
 ·simp only[h0,decide_false,oD,o0 _ h,aE];have : -(n.natAbs:Int) = -n:=by omega
  rw[this]
theorem aS4(n:Int):M9 (Zn n,())=some (Zn (n.natAbs:Int),()):=by
 unfold M9;simp only[vC n,aE,aHS]
theorem aRG(a b:Nat) (ha:Lib.nDigits a<2^32) (hb:Lib.nDigits b<2^32):EV (Zn (a:Int),Zn (b:Int),())=some (aF1 a b,()):=by
 unfold EV;have sg:∀ n:Nat,(n:Int).sign=if n=0 then 0 else 1:=λn=>by
  by_cases h:n=0
  ·subst h; rfl
  ·rw[if_neg h,Int.sign_eq_one_of_pos (by omega)]
 simp only[aHO (a:Int),aHO (b:Int),vC (a:Int),vC (b:Int),aE,sg];have e0:∀ n:Nat,decide ((n:Int)<0)=false:=λn=>by simp
 by_cases h1:a=0
 ·by_cases h2:b=0
  ·have e:eqI 0 0=true:=by decide
   simp only[h1,h2,if_true,e,Bool.not_true,oD,e0,Int.natAbs_natCast];have:=xI a b ha hb;rw[h1,h2]at this;simp only[this,aE]
  ·have:eqI 0 1=false:=by decide
   have e:ltI 0 1=true:=by decide
   simp only[h1,h2,if_true,if_false,this,e,Bool.not_false,oC];unfold aF1;rw[if_pos (by omega)]
 ·by_cases h2:b=0
  ·have:eqI 1 0=false:=by decide
   have e:ltI 1 0=false:=by decide
   simp only[h1,h2,if_true,if_false,this,e,Bool.not_false,oC,oD];unfold aF1;rw[if_neg (by omega),if_pos (by omega)]
  ·have e:eqI 1 1=true:=by decide
   simp only[h1,h2,if_false,e,Bool.not_true,oD,e0,Int.natAbs_natCast,xI a b ha hb,aE]
theorem aD3 {u:Nat}(h:Lib.nDigits u<=18):u<1000000000000000000:=by
 have h1:=kW u;have h2:10^Lib.nDigits u<=10^18:=Nat.pow_le_pow_right (by decide) h;omega
theorem rZ {x:Int}(h1:0<=x)(h2:x<18446744073709551616):aB .u64 x=x:=by
 rw[Y4,IntKind.wrap_u64];omega
theorem aWV(a b:Nat)(ha:Lib.nDigits a<=18)(hb:Lib.nDigits b<=18):fE (Dn a,Dn b,())=some (Dn (a+b),()):=by
 have h1:=aD3 ha;have h2:=aD3 hb;unfold fE;simp only[RX a b ha hb,aE,oC];rw[rZ (by omega) (by omega)];have:(a:Int)+(b:Int)=((a+b:Nat):Int):=by omega
 rw[this,MG _ (by omega)];rfl
theorem aYS(a b:Nat)(ha:Lib.nDigits a<=18)(hb:Lib.nDigits b<=18)(h:b<=a):cY (Dn a,Dn b,())=some (Dn (a-b),0,()):=by
 have h1:=aD3 ha;have h2:=aD3 hb;unfold cY;have e:ltI (aF1 a b) 0=false:=by
  rw[aF]; unfold aF1;rw[if_neg (by omega)];split <;> rfl
 simp only[xI a b (by omega) (by omega),RX a b ha hb,aE,oC,e,oD];rw[rZ (by omega) (by omega)];have:(a:Int)-(b:Int)=((a-b:Nat):Int):=by omega
 rw[this,MG _ (by omega)];rfl
theorem aX8(a b:Nat)(h:Lib.nDigits a+Lib.nDigits b<=18):fH (Dn a,Dn b,())=some (Dn (a*b),()):=by
 have p1:=nDigits_pos a;have p2:=nDigits_pos b;have h3:a*b<1000000000000000000:=by
  have h1:=kW a;have h2:=kW b;have h4:a*b<10^Lib.nDigits a*10^Lib.nDigits b:=Nat.mul_lt_mul'' h1 h2;rw[<- Nat.pow_add]at h4;have h5:10^(Lib.nDigits a+Lib.nDigits b)<=10^18:=Nat.pow_le_pow_right (by decide) h;omega
 unfold fH;have e:ltI 18 (aB .i64 (((Dn a).size:Int)+((Dn b).size:Int)))=false:=by
  rw[EL,EL,wrap64 (by omega) (by omega),aF];simp only[decide_eq_false_iff_not];omega
 simp only[e,Bool.not_false,oC,RX a b (by omega) (by omega),aE];have e2:(a:Int)*(b:Int)=((a*b:Nat):Int):=by rw[Int.natCast_mul]
 rw[e2,rZ (by omega) (by omega),MG _ (by omega)];rfl
theorem aP7(a b:Nat)(ha:Lib.nDigits a<=18)(hb:Lib.nDigits b<=18)(h:b≠0):mL (Dn a,Dn b,())=some (Dn (a/b),Dn (a%b),0,()):=by
 have h1:=aD3 ha;have h2:=aD3 hb;unfold mL;have e1:eqI (b:Int) 0=false:=by rw[fO]; simp; omega
 have q1:(a:Int).tdiv (b:Int)=((a/b:Nat):Int):=rfl;have q2:(a:Int).tmod (b:Int)=((a%b:Nat):Int):=rfl;have l1:a/b<=a:=Nat.div_le_self _ _;have l2:a%b<=a:=Nat.mod_le _ _;simp only[aOJ,h,decide_false,oD,RX a b ha hb,aE,oC,e1,q1,q2];clear q1 q2;generalize a/b=q at *;generalize a%b=r at *;rw[rZ (by omega) (by omega),MG _ (by omega),aE,MG _ (by omega)];rfl
theorem MN {n:Int}{k:Nat}(h:((Zn n).size:Int)<=(k:Int)):Lib.nDigits n.natAbs<=k:=by
 rcases(by omega:n<0\/0<=n)with g|g
 ·rw[E9 g]at h; omega
 ·rw[PC g,EL]at h; omega
theorem pO {x y f g:Int} (h:x=y*f+g) (hp:0<y->0<=g/\g<y) (hn:y<0->y<g/\g<=0) (h0:y≠0):x.fdiv y=f/\x.fmod y=g:=by
 have key:∀ x y f g:Int,x=y*f+g->0<y->0<=g->g<y->x.fdiv y=f/\x.fmod y=g:=by
  intro x y f g h hy h1 h2;have e1:=Int.fmod_def x y;have e2:=Int.fmod_nonneg_of_pos x hy;have e3:=Int.fmod_lt_of_pos x hy;have e4:y*(x.fdiv y-f)=g-x.fmod y:=by rw[Int.mul_sub]; omega
  have e5:x.fdiv y-f=0:=by
   rcases Int.lt_trichotomy (x.fdiv y-f) 0 with g1|g1|g1
   ·have:y*(x.fdiv y-f)<=y*(-1):=Int.mul_le_mul_of_nonneg_left (by omega) (by omega);omega
   ·exact g1
   ·have:y*1<=y*(x.fdiv y-f):=Int.mul_le_mul_of_nonneg_left (by omega) (by omega);omega
  rw[e5]at e4;omega
 rcases Int.lt_or_gt_of_ne h0 with g1|g1
 ·obtain⟨h1,h2⟩:=hn g1;have:=key (-x) (-y) f (-g) (by rw[h]; grind) (by omega) (by omega) (by omega);rw[Int.neg_fdiv_neg,Int.neg_fmod_neg]at this;omega
 ·obtain⟨h1,h2⟩:=hp g1;exact key x y f g h g1 h1 h2
end Go.PM
