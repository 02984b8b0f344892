/- Texts of one proof, joined (6). -/
import Derived.Test.YtfjcjchcmdhmnaaGreatDoorTP5
set_option linter.unusedSimpArgs false
set_option linter.unusedVariables false
set_option maxRecDepth 100000
noncomputable section
namespace Go.PM
open Go Go.RowKit
structure E7 (Y:Type) where
 sh:List (Nat×Kd)
 exits:List (Ex×List (Nat×Kd))
 run:Shape.den sh->Option (List Y×eB exits)
def aWJ(o:Oper):Bool:=match o.op with
 | .call c=>match c.callee with
  | .value (.tmp _)=>true
  | _=>false
 | _=>false
def aSO:List Oper->Nat->Option Nat
 | [],_=>none
 | o::r,i=>bif aWJ o then some i else aSO r (i+1)
def outs {Y α:Type}(l:List Y):Option (List Y×α)->Option (List Y×α)
 | some (m,z)=>some (l++m,z)
 | none=>none
def aBZ {Y τ α:Type} (r:Option (List Y×τ)) (k:τ->Option (List Y×α)):Option (List Y×α):=match r with
 | some (l,z)=>outs l (k z)
 | none=>none
def aM7 {Y:Type}:Option (List Y×Unit)->Option (List Y)
 | some (l,_)=>some l
 | none=>none
section
variable {α:Type} (P:Program) (E:Env) (nt aU:Nat) (lt:Nat->Option bT) (ks:List Kd) (li:Nat->Option (E7 (Value×aL ks)))
def aW7(ops:Array Oper) (o:Oper) (rest:List Oper) (F:Frm) (H:Heap) (k:Frm->Heap->Option (List (Value×aL ks)×α)) (kx:Frm->Heap->Option Unit):Option (List (Value×aL ks)×α) :=
 YP F ops.toList o λF b=>bif b then (match o.op with
  | .call c=>match c.callee with
   | .value f=>match ev F f with
    | .lit yv=>bif bU.noRefs (c.args.toList.map (ev F))&&ks.all Kd.plain then (match TX ks (c.args.toList.map (ev F))with
     | some e=>match CN nt F o.dst (.lit (.bool true)),CN nt F o.dst (.lit (.bool false))with
      | some F1,some F2=>match yW P E nt ops.toList rest F2 H kx with
       | some _=>outs [(yv,e)] (yW P E nt ops.toList rest F1 H k)
       | none=>none
      | _,_=>none
     | none=>none) else none
    | _=>none
   | _=>none
  | _=>none) else match CN nt F o.dst (.lit undef)with
   | some F1=>yW P E nt ops.toList rest F1 H k
   | none=>none
def xG:Code->Frm->Heap->(Ex->Frm->Heap->Option (List (Value×aL ks)×α))->(Ex->Frm->Heap->Option Unit)->Option (List (Value×aL ks)×α)
 | .skip,F,H,k,_=>k .normal F H
 | .label _,F,H,k,_=>k .normal F H
 | .region _ ops draw,F,H,k,kx=>match aSO ops.toList 0 with
  | none=>bif FP ops then uB P E nt ops draw F H λF H=>GG aU F λF=>k .normal F H else none
  | some s=>bif SA ops s then match ops.toList.drop s with
   | o::rest=>bif rest.all (λo=>!aAC o.op) then
     (bif draw then uB P E nt (ops.toList.take s).toArray true F H else yW P E nt ops.toList (ops.toList.take s) F H) λF H =>
      aW7 P E nt ks ops o rest F H (λF H=>GG aU F λF=>k .normal F H) (λF H=>kx .normal F H)
    else none
   | []=>none
   else none
 | .seq a b,F,H,k,kx=>xG a F H (λex F H=>match ex with
  | .normal=>xG b F H k kx
  | .exit i=>k (.exit i) F H
  | .ret=>k .ret F H) (λex F H=>match ex with
  | .normal=>sC P E nt aU lt (λ_=>none) true [] b F H kx
  | .exit i=>kx (.exit i) F H
  | .ret=>kx .ret F H)
 | .cond c a b,F,H,k,kx=>match ev F c with
  | .lit (.bool t)=>aC3 F c t λF t=>bif t then xG a F H k kx else xG b F H k kx
  | _=>none
 | .block id a,F,H,k,kx=>xG a F H (λex F H=>match ex with
  | .exit i=>bif Nat.beq i id then k .normal F H else k (.exit i) F H
  | .normal=>k .normal F H
  | .ret=>k .ret F H) (λex F H=>match ex with
  | .exit i=>bif Nat.beq i id then kx .normal F H else kx (.exit i) F H
  | .normal=>kx .normal F H
  | .ret=>kx .ret F H)
 | .loop a,F,H,k,_=>match li (aO a)with
  | some s=>match pH [] s.sh F H with
   | some x=>aBZ (s.run x) λz=>aGH s.exits z k
   | none=>none
  | none=>match lt (aO a)with
   | some s=>match pH [] s.sh F H with
    | some x=>aB (s.run x) λz=>aGH s.exits z k
    | none=>none
   | none=>none
 | .exit id,F,H,k,_=>k (.exit id) F H
 | .ret,F,H,k,_=>k .ret F H
 | _,_,_,_,_=>none
end
def aQ9:Ex->Frm->Heap->Option Unit:=λex _ _=>match ex with
 | .ret=>some ()
 | _=>none
def aPA {Y:Type} sh exits (ex:Ex)(F:Frm)(H:Heap):Option (List Y×(Shape.den sh⊕eB exits)):=match Q0 [] sh exits ex F H with
 | some z=>some ([],z)
 | none=>none
def aG1(P:Program) (E:Env) (nt aU:Nat) (lt:Nat->Option bT) (ks:List Kd) (li:Nat->Option (E7 (Value×aL ks))) (a:Code) (sh:List (Nat×Kd)) (exits:List (Ex×List (Nat×Kd))) (x:Shape.den sh):Option (List (Value×aL ks)×(Shape.den sh⊕eB exits)) :=
 xG P E nt aU lt ks li a (nZ sh x 0) (vD sh x) (aPA sh exits) aQ9
def LP {Y σ τ:Type}(step:σ->Option (List Y×(σ⊕τ))):Nat->σ->Option (List Y×τ)
 | 0,_=>none
 | n+1,x=>match step x with
  | some (l,.inl y)=>outs l (LP step n y)
  | some (l,.inr z)=>some (l,z)
  | none=>none
theorem OR {Y α}{l:List Y}{r m}{z:α}(h:outs l r=some (m,z)):∃ m',r=some (m',z)/\m=l++m':=by
 cases r with
 | none=>cases h
 | some p =>
  simp only[outs]at h;grind
section
variable {P:Program} {E:Env} {nt aU:Nat} {lt:Nat->Option bT} {ks:List Kd} {li:Nat->Option (E7 (Value×aL ks))}
variable {Φ:(Nat->Prop)->(Nat->Prop)->World->Prop} {G0 G G':Gd} {μ μ':Mp} {H H':Heap} {A A' W:World} {F F':Frm} {n:Nat} {a:Act}
theorem Sg.aOQ (h:Sg Φ G0 G μ H A):∃ n0,aM n0 G μ H A/\(∀ b,G0 b->G b)/\∀ A' G' μ' H',Ext n0 A G aF A' G' μ'->aM n0 G' μ' H' A'->Sg Φ G0 G' μ' H' A':=by
 obtain⟨T,X,B,GB,μB,h1,h2,h3,h4,h5,h6,h7⟩:=h;refine⟨_,h7,λb hb=>(h6.bS b (h5 b hb)).1,λA' G' μ' H' e w=>⟨T,X,B,GB,aF,h1,h2,h3,h4,h5,?_,w⟩⟩;have h6':Ext (λb=>X b\/B.heap.size<=b) B GB aF A G aF:=h6.plain;exact h6'.trans e
theorem aIM {c:Code} {r:Ex×Frm×Heap} (h:aC9 P nt true [] c F H r) {Q:Exit->Act->World->Prop} (hS:Sg Φ G0 G μ H A) (hF:cY A G μ nt F a)
  (hQ:∀ G' μ' a' A',Sg Φ G0 G' μ' r.2.2 A'->cY A' G' μ' nt r.2.1 a'->Q r.1.to a' A'):c.wpIn Fence.wide n P Q a A:=by
 obtain⟨n0,hW,_,hS2⟩:=hS.aOQ;have e0:Ext n0 A G aF A G μ:={ bS:=λ_ h=>⟨h,rfl⟩,map:=λ_ _ h=>(by cases h),len:=λ_ _ h=>(by cases h),room:=λ_ _ h=>h,row:=λ_ _ h=>h,os:=rfl,tape:=rfl,output:=rfl,size:=oM _,old:=λ_ _ _=>rfl,new:=λ_ h=>.inl h };refine wpIn_mono (h none n n0 A G aF a A (λh=>(by cases h)) (λr _=>⟨rfl,rfl⟩) ⟨G,μ,e0,hW,hF.same,by rw[hF.defers]; trivial⟩) ?_;rintro e a' w' ⟨rfl,⟨G',μ',e',hW',hF',_⟩,hd⟩
 refine hQ G' μ' a' w' (hS2 _ _ _ _ e' hW') ⟨hF'.size,hF'.slot,?_⟩;rw[hd rfl]; exact hF.defers
def aW9(P:Program) (ks:List Kd) (l:Nat) (G0:Gd) (all:List (aL ks)) (J Jx:List (aL ks)->(Nat->Prop)->(Nat->Prop)->World->Prop):Prop :=
 ∀ pre e post T X B T' X' A us Gx m',all=pre++e::post->J pre T X B->Stp X B A->(∀ b,T' b->(T b\/B.heap.size<=b)/\b<A.heap.size)->(∀ b,X' b->T' b/\(X b\/B.heap.size<=b)) ->
   (∀ b,Gx b->(G0 b\/T' b)/\¬ X' b)->VRs A (Gd.of Gx) aF (eX ks e) us ->
   YieldAt Fence.wide m' P l us.toArray A λen C =>
    ((∀ b,b<A.heap.size->G0 b\/T' b->C.heap[b]?=A.heap[b]?)/\(∀ b n,Room A b n->Room C b n)/\A.heap.size<=C.heap.size)/\((en=.returned (.bool true)/\J (pre++[e]) T' X' C)\/(en=.returned (.bool false)/\Jx (pre++[e]) T' X' C))
def aM9(P:Program) (nt:Nat) (ks:List Kd) (c:Code) (F:Frm) (H:Heap) (ys:List (Value×aL ks)) (r:Ex×Frm×Heap) (kx:Ex->Frm->Heap->Option Unit):Prop :=
 ∀ (l:Nat) (yv:Value),yv=.func (.yield l) #[] #[]->∀ (G0:Gd) (all:List (aL ks)) (J Jx:List (aL ks)->(Nat->Prop)->(Nat->Prop)->World->Prop),aW9 P ks l G0 all J Jx ->
  ∀ (pre post:List (aL ks)) (n:Nat) (a:Act) (A:World) (G:Gd) (μ:Mp),all=pre++(ys.map (·.2)++post)->(∀ y∈ys,y.1=yv)->Sg (J pre) G0 G μ H A->cY A G μ nt F a ->
  c.wpIn Fence.wide n P (λe a' A'=>(e=r.1.to/\∃ G' μ',Sg (J (pre++ys.map (·.2))) G0 G' μ' r.2.2 A'/\cY A' G' μ' nt r.2.1 a') \/
   (∃ ex' F' H' pre' G' μ',kx ex' F' H'=some ()/\e=ex'.to/\Sg (Jx pre') G0 G' μ' H' A'/\cY A' G' μ' nt F' a')) a A
def aCS(P:Program) (nt:Nat) (ks:List Kd) (a:Code) (s:E7 (Value×aL ks)):Prop :=
 ∀ x ys z,s.run x=some (ys,z)->aM9 P nt ks (.loop a) (nZ s.sh x 0) (vD s.sh x) ys (rP s.exits z) aQ9
def RC(P:Program)(nt:Nat)(lt:Nat->Option bT) ks (li:Nat->Option (E7 (Value×aL ks))):Code->Prop
 | .loop a=>(∀ s,lt (aO a)=some s->qL P nt true [] (.loop a) s)/\(∀ s,li (aO a)=some s->aCS P nt ks a s)
 | _=>True
theorem DX {c r kx}(h:aC9 P nt true [] c F H r):aM9 P nt ks c F H [] r kx:=by
 intro l yv hyv G0 all J Jx hY pre post n a A G μ hall hys hS hF;refine aIM h hS hF λG' μ' a' A' hS' hF'=>.inl ⟨rfl,G',μ',?_,hF'⟩
 grind
theorem ZS(hcl:bN P (cJ P E))(hP:P.follows .mixedOrders=true){α id ops draw}{k:Ex->Frm->Heap->Option α}{z}(h:uB P E nt ops draw F H (λF H=>GG aU F λF=>k .normal F H)=some z)(hd:FP ops=true) :
  ∃ r ,k r.1 r.2.1 r.2.2=some z/\aC9 P nt true [] (.region id ops draw) F H r:=by
 obtain⟨F1,H1,h1,h2⟩:=SP hcl hP hd h;obtain⟨F2,h3,h4⟩:=vO aU F1 λF=>k .normal F H1
 rw[h3]at h1;exact⟨(.normal,F2,H1),h1,λ_ _ _ _ _ _ _ _ _ _ hI=>h2 hI λa' w' hd' hI'=>⟨rfl,hI'.WG h4,λ_=>hd'⟩⟩
theorem UO(hcl:bN P (cJ P E)) {ops:Array Oper} {l:List Oper} (hrun:yB P (cJ P E) nt ops.toList l F H=some (F',H')) (hnd:(l.all λo=>!aAC o.op)=true) {Q:Exit->Act->World->Prop}
  (hS:Sg Φ G0 G μ H A) (hF:cY A G μ nt F a) (hQ:∀ G' μ' a' A',Sg Φ G0 G' μ' H' A'->cY A' G' μ' nt F' a'->Q .normal a' A'):wpListIn Fence.wide n P ops Q l a A:=by
 obtain⟨n0,hW,_,hS2⟩:=hS.open_;have h1:=rU (Q:=λe a' w'=>e=.normal/\I n0 A G μ nt F' H' a' w') hcl l F H a A hrun ⟨G,μ,Ext.refl _ _ _ _,hW,hF⟩ (λa' w' h=>⟨rfl,h⟩);have h2:=MD (ro:=none) (n:=n) (ds:=[]) (Q':=Q) (λa w h=>by cases h.1) (λe a' w' h=>by
  obtain⟨rfl,G',μ',e,hW',hF'⟩:=h;have e1:nC [] a'=a':=by simp[nC]
  rw[e1];exact hQ G' μ' a' w' (hS2 _ _ _ _ e hW') hF') (λo ho c hc=>by
  have:=List.all_eq_true.1 hnd o ho;rw[hc]at this;cases this) h1
 have e1:nC [] a=a:=by simp[nC]
 rw[e1]at h2;exact h2
theorem aK5(hcl:bN P (cJ P E)) (hP:P.follows .mixedOrders=true) {α:Type} {id s:Nat} {ops:Array Oper} {draw:Bool} (hsp:SA ops s=true) {k:Frm->Heap->Option α} {z:α}
  (h:(bif draw then uB P E nt (ops.toList.take s).toArray true F H else yW P E nt ops.toList (ops.toList.take s) F H) k=some z) :
  ∃ F1 H1,k F1 H1=some z/\∀ {Φ:(Nat->Prop)->(Nat->Prop)->World->Prop} {G0 G:Gd} {μ:Mp} {A:World} {a:Act} {n:Nat} {Q:Exit->Act->World->Prop},Sg Φ G0 G μ H A->cY A G μ nt F a ->
   (∀ G' μ' a' A',Sg Φ G0 G' μ' H1 A'->cY A' G' μ' nt F1 a'->wpListIn Fence.wide n P ops Q (ops.toList.drop s) a' A')->(Code.region id ops draw).wpIn Fence.wide n P Q a A:=by
 obtain⟨F1,H1,hrun,hk⟩:∃ F1 H1,(bif draw then I9 P (cJ P E) nt (ops.toList.take s).toArray F H else yB P (cJ P E) nt ops.toList (ops.toList.take s) F H)=some (F1,H1)/\k F1 H1=some z:=by
  cases draw with
  | true =>
   exact EL h
  | false =>
   obtain⟨F1,H1,h2,h3⟩:=mE h;grind
 refine⟨F1,H1,hk,?_⟩;intro Φ G0 G μ A a n Q hS hF hQ;obtain⟨n0,hW,_,hS2⟩:=hS.open_;have:=Y3 (ro:=none) (n:=n) (ds:=[]) (Q:=Q) hcl hP (id:=id) hsp hrun (n0:=n0) (wi:=A) (Gi:=G) (μi:=μ) (a:=a) (w:=A) ⟨G,μ,Ext.refl _ _ _ _,hW,hF⟩ (λa' w' h=>by
  obtain⟨G',μ',e,hW',hF'⟩:=h;have e1:nC [] a'=a':=by simp[nC]
  rw[e1];exact hQ G' μ' a' w' (hS2 _ _ _ _ e hW') hF')
 have e1:nC [] a=a:=by simp[nC]
 rw[e1]at this;exact this
theorem aNZ {l:List Operand}(hF:cY A G μ nt F a):VRs A G μ (l.map (ev F)) (l.map a.eval):=by
 induction l with
 | nil=>rfl
 | cons x l ih =>
  exact⟨_,_,rfl,aZ hF x,ih⟩
theorem nU {α}(hcl:bN P (cJ P E))(hP:P.follows .mixedOrders=true):∀ c F H k kx ys (z:α),
  (∀ F H,kx .ret F H=some ())->(∀ a∈bP c,RC P nt lt ks li a)->xG P E nt aU lt ks li c F H k kx=some (ys,z) ->
  ∃ ys1 ys2 r,k r.1 r.2.1 r.2.2=some (ys2,z)/\ys=ys1++ys2/\aM9 P nt ks c F H ys1 r kx
 | .skip,F,H,k,kx,ys,z,hx,hl,h=>⟨[],ys,(.normal,F,H),h,rfl,DX λ_ _ _ _ _ _ _ _ _ _ hI=>wpIn_skip ⟨rfl,hI,λ_=>rfl⟩⟩
 | .label l,F,H,k,kx,ys,z,hx,hl,h=>⟨[],ys,(.normal,F,H),h,rfl,DX λ_ _ _ _ _ _ _ _ _ _ hI=>wpIn_label ⟨rfl,hI,λ_=>rfl⟩⟩
 | .exit id,F,H,k,kx,ys,z,hx,hl,h=>⟨[],ys,(.exit id,F,H),h,rfl,DX λ_ _ _ _ _ _ _ _ _ _ hI=>wpIn_exit ⟨rfl,hI,λ_=>rfl⟩⟩
 | .ret,F,H,k,kx,ys,z,hx,hl,h=>⟨[],ys,(.ret,F,H),h,rfl,DX λ_ _ _ _ _ _ _ _ _ _ hI=>wpIn_ret ⟨rfl,hI,λ_=>rfl⟩⟩
 | .region id ops draw,F,H,k,kx,ys,z,hx,hl,h=>by
  simp only[xG]at h;split at h
  ·obtain⟨hd,h⟩:=aG h;obtain⟨r,h1,h2⟩:=ZS (id:=id) hcl hP h hd;exact⟨[],ys,r,h1,rfl,DX h2⟩
  ·rename_i s hs;obtain⟨hsp,h⟩:=aG h;split at h
   ·rename_i o rest hdrop;obtain⟨hnd,h⟩:=aG h;obtain⟨F1,H1,hk,hsplit⟩:=aK5 (id:=id) hcl hP hsp h;obtain⟨b,hg,hk⟩:=P8 hk;cases b with
    | true =>
     simp only[oC]at hk;split at hk
     ·rename_i c hoc;split at hk
      ·rename_i f hcf;split at hk
       ·rename_i yv hyv;obtain⟨hnr,hk⟩:=aG hk;rw[oA]at hnr;obtain⟨hnr,hplk⟩:=hnr;split at hk
        ·rename_i e he;split at hk
         ·rename_i F2 F3 hp2 hp3;split at hk
          ·rename_i u hstop;obtain⟨ys2,hlive,rfl⟩:=OR hk;obtain⟨F4,H4,hrun4,hk4⟩:=mE hlive;obtain⟨F5,H5,hrun5,hk5⟩:=mE hstop;obtain⟨F6,h6,h7⟩:=vO aU F4 λF=>k .normal F H4
           rw[h6]at hk4;refine⟨[(yv,e)],ys2,(.normal,F6,H4),hk4,rfl,?_⟩;intro l yv' hyv' G0 all J Jx hY pre post n a A G μ hall hys hS hF;have hyy:=hys _ (List.mem_singleton.2 rfl);dsimp only at hyy;subst hyy;refine hsplit hS hF λG1 μ1 a1 A1 hS1 hF1=>?_
           rw[hdrop];have hw:=pR hF1 hg;have hv:=aNZ (l:=c.args.toList) hF1;have hv0:=bG _ _ hnr hv;have hve:=uK ks he hv0;have hfe:=aZ hF1 f;rw[hyv,VR]at hfe;have hall':all=pre++e::post:=by rw[hall]; rfl
           refine aPJ hoc hcf hw (hfe.trans hyv') (us:=(c.args.toList.map a1.eval).toArray) (by rw[<- Array.toList_map]) (λm'=>hS1.yield hY hall' hve (SR ks e hplk) m') ?_;rintro en C ⟨hmo,hout⟩;rcases hout with ⟨rfl,hS2⟩|⟨rfl,hS2⟩
           ·refine⟨_,rfl,UO hcl hrun4 hnd hS2 ((hF1.mono hmo).N4 hp2 (by rw[VR])) λG2 μ2 a2 A2 hS3 hF3=>.inl ⟨rfl,G2,μ2,hS3,?_⟩⟩;exact⟨hF3.size,λt=>by
             rcases h7 t with h8|h8
             ·rw[h8]; exact hF3.slot t
             ·rw[h8,VR]; trivial,hF3.defers⟩
           ·exact⟨_,rfl,UO hcl hrun5 hnd hS2 ((hF1.mono hmo).N4 hp3 (by rw[VR])) λG2 μ2 a2 A2 hS3 hF3=>.inr ⟨.normal,F5,H5,_,G2,μ2,hk5,rfl,hS3,hF3⟩⟩
          ·cases hk
         ·cases hk
        ·cases hk
       ·cases hk
      ·cases hk
     ·cases hk
    | false =>
     simp only[oD]at hk;split at hk
     ·rename_i F2 hp2;obtain⟨F4,H4,hrun4,hk4⟩:=mE hk;obtain⟨F6,h6,h7⟩:=vO aU F4 λF=>k .normal F H4
      rw[h6]at hk4;refine⟨[],ys,(.normal,F6,H4),hk4,rfl,?_⟩;intro l yv' hyv' G0 all J Jx hY pre post n a A G μ hall hys hS hF;refine hsplit hS hF λG1 μ1 a1 A1 hS1 hF1=>?_
      rw[hdrop];refine aQ2 (pR hF1 hg) (UO hcl hrun4 hnd hS1 (hF1.N4 hp2 (by rw[VR])) λG2 μ2 a2 A2 hS3 hF3=>.inl ⟨rfl,G2,μ2,?_,?_⟩)
      ·rw[List.map_nil,List.append_nil]; exact hS3
      ·exact⟨hF3.size,λt=>by
        rcases h7 t with h8|h8
        ·rw[h8]; exact hF3.slot t
        ·rw[h8,VR]; trivial,hF3.defers⟩
     ·cases hk
   ·cases h
 | .seq x y,F,H,k,kx,ys,z,hx,hl,h=>by
  simp only[xG]at h;obtain⟨ys1,ys2,⟨ex,F1,H1⟩,h1,rfl,h2⟩:=nU hcl hP x F H _ _ ys z (by intro F H; exact hx F H) (λa ha=>hl a (by simp[bP,ha])) h;have stop:∀ {l:Nat} {yv:Value} {G0:Gd} {all:List (aL ks)} {J Jx:List (aL ks)->(Nat->Prop)->(Nat->Prop)->World->Prop} {n:Nat} {R:Exit->Act->World->Prop},
    (∀ e a' A',(∃ ex' F' H' pre' G' μ',kx ex' F' H'=some ()/\e=ex'.to/\Sg (Jx pre') G0 G' μ' H' A'/\cY A' G' μ' nt F' a')->R e a' A')->∀ ex' F' H' pre' G' μ' a' A',
    (match ex' with
     | Ex.normal=>sC P E nt aU lt (λ_=>none) true [] y F' H' kx
     | Ex.exit i=>kx (Ex.exit i) F' H'
     | Ex.ret=>kx Ex.ret F' H')=some ()->Sg (Jx pre') G0 G' μ' H' A'->cY A' G' μ' nt F' a' ->
    Exit.then (y.wpIn Fence.wide n P R) R ex'.to a' A':=by
   intro l yv G0 all J Jx n R hR ex' F' H' pre' G' μ' a' A' hm hS hF;cases ex' with
   | normal =>
    obtain⟨r,h3,h4⟩:=gR hcl hP y F' H' kx () (λa ha=>by
     have:=hl a (by simp[bP,ha]);cases a with
     | loop b=>exact this.1
     | rangeFunc g ps as1 b=>intro h; cases h
     | _=>trivial) hm
    refine aIM h4 hS hF λG2 μ2 a2 A2 hS2 hF2=>hR _ _ _ ⟨r.1,r.2.1,r.2.2,pre',G2,μ2,h3,rfl,hS2,hF2⟩
   | exit i=>exact hR _ _ _ ⟨.exit i,F',H',pre',G',μ',hm,rfl,hS,hF⟩
   | ret=>exact hR _ _ _ ⟨.ret,F',H',pre',G',μ',hm,rfl,hS,hF⟩
  cases ex with
  | normal =>
   obtain⟨ys3,ys4,r,h3,rfl,h4⟩:=nU hcl hP y F1 H1 k kx ys2 z hx (λa ha=>hl a (by simp[bP,ha])) h1;refine⟨ys1++ys3,ys4,r,h3,by rw[List.append_assoc],?_⟩;intro l yv hyv G0 all J Jx hY pre post n a A G μ hall hys hS hF;refine wpIn_seq (wpIn_mono (h2 l yv hyv G0 all J Jx hY pre (ys3.map (·.2)++post) n a A G μ (by rw[hall,List.map_append,List.append_assoc]) (λy hy=>hys y (List.mem_append_left _ hy)) hS hF) ?_)
   rintro e a' w' (⟨rfl,G',μ',hS',hF'⟩|⟨ex',F',H',pre',G',μ',hm,rfl,hS',hF'⟩)
   ·refine wpIn_mono (h4 l yv hyv G0 all J Jx hY (pre++ys1.map (·.2)) post n a' w' G' μ' (by rw[hall,List.map_append,List.append_assoc,List.append_assoc]) (λy hy=>hys y (List.mem_append_right _ hy)) hS' hF') ?_;rintro e a'' w'' (⟨rfl,G2,μ2,hS2,hF2⟩|hst)
    ·refine .inl ⟨rfl,G2,μ2,?_,hF2⟩;rw[List.map_append,<- List.append_assoc]; exact hS2
    ·exact .inr hst
   ·exact stop (l:=l) (yv:=yv) (all:=all) (J:=J) (λe a' A' h=>Or.inr h) ex' F' H' pre' G' μ' a' w' hm hS' hF'
  | exit i =>
   refine⟨ys1,ys2,(.exit i,F1,H1),h1,rfl,?_⟩;intro l yv hyv G0 all J Jx hY pre post n a A G μ hall hys hS hF;refine wpIn_seq (wpIn_mono (h2 l yv hyv G0 all J Jx hY pre post n a A G μ hall hys hS hF) ?_);rintro e a' w' (⟨rfl,G',μ',hS',hF'⟩|⟨ex',F',H',pre',G',μ',hm,rfl,hS',hF'⟩)
   ·exact .inl ⟨rfl,G',μ',hS',hF'⟩
   ·exact stop (l:=l) (yv:=yv) (all:=all) (J:=J) (λe a' A' h=>Or.inr h) ex' F' H' pre' G' μ' a' w' hm hS' hF'
  | ret =>
   refine⟨ys1,ys2,(.ret,F1,H1),h1,rfl,?_⟩;intro l yv hyv G0 all J Jx hY pre post n a A G μ hall hys hS hF;refine wpIn_seq (wpIn_mono (h2 l yv hyv G0 all J Jx hY pre post n a A G μ hall hys hS hF) ?_);rintro e a' w' (⟨rfl,G',μ',hS',hF'⟩|⟨ex',F',H',pre',G',μ',hm,rfl,hS',hF'⟩)
   ·exact .inl ⟨rfl,G',μ',hS',hF'⟩
   ·exact stop (l:=l) (yv:=yv) (all:=all) (J:=J) (λe a' A' h=>Or.inr h) ex' F' H' pre' G' μ' a' w' hm hS' hF'
 | .cond c x y,F,H,k,kx,ys,z,hx,hl,h=>by
  simp only[xG]at h;split at h
  ·rename_i t ht;replace h:=zI h ht;have hc:∀ {A:World} {G:Gd} {μ:Mp} {a:Act},cY A G μ nt F a->a.eval c=.bool t:=λ{A G μ a} hF=>by
    have hc:=aZ hF c;rw[ht,VR]at hc;exact hc
   cases t with
   | true =>
    obtain⟨ys1,ys2,r,h3,h4,h5⟩:=nU hcl hP x F H k kx ys z hx (λa ha=>hl a (by simp[bP,ha])) h;exact⟨ys1,ys2,r,h3,h4,λl yv hyv G0 all J Jx hY pre post n a A G μ hall hys hS hF=>wpIn_cond (hc hF) (h5 l yv hyv G0 all J Jx hY pre post n a A G μ hall hys hS hF)⟩
   | false =>
    obtain⟨ys1,ys2,r,h3,h4,h5⟩:=nU hcl hP y F H k kx ys z hx (λa ha=>hl a (by simp[bP,ha])) h;exact⟨ys1,ys2,r,h3,h4,λl yv hyv G0 all J Jx hY pre post n a A G μ hall hys hS hF=>wpIn_cond (hc hF) (h5 l yv hyv G0 all J Jx hY pre post n a A G μ hall hys hS hF)⟩
  ·cases h
 | .block id x,F,H,k,kx,ys,z,hx,hl,h=>by
  simp only[xG]at h;obtain⟨ys1,ys2,⟨ex,F1,H1⟩,h1,rfl,h2⟩:=nU hcl hP x F H _ _ ys z (by intro F H; exact hx F H) (λa ha=>hl a (by simp[bP,ha])) h;have stop:∀ (ex':Ex) (F':Frm) (H':Heap),(match ex' with
     | Ex.exit i=>bif Nat.beq i id then kx .normal F' H' else kx (.exit i) F' H'
     | Ex.normal=>kx Ex.normal F' H'
     | Ex.ret=>kx Ex.ret F' H')=some ()->∃ ex2:Ex,kx ex2 F' H'=some ()/\∀ (Q:Exit->Act->World->Prop) a w,Q ex2.to a w->ex'.to.inBlock id Q a w:=by
   intro ex' F' H' hm;cases ex' with
   | normal=>exact⟨.normal,hm,λQ a w h=>h⟩
   | ret=>exact⟨.ret,hm,λQ a w h=>h⟩
   | exit i =>
    simp only at hm;cases hi:Nat.beq i id with
    | true =>
     rw[hi]at hm;have:=oE hi;subst this;exact⟨.normal,hm,λQ a w h=>by simp only[Ex.to,Exit.inBlock,if_true]; exact h⟩
    | false =>
     rw[hi]at hm;have hne:¬ i=id:=λe=>by rw[e]at hi; simp at hi
     exact⟨.exit i,hm,λQ a w h=>by simp only[Ex.to,Exit.inBlock,hne,if_false]; exact h⟩
  have live:∃ ex2:Ex,k ex2 F1 H1=some (ys2,z)/\∀ (Q:Exit->Act->World->Prop) a w,Q ex2.to a w->ex.to.inBlock id Q a w:=by
   cases ex with
   | normal=>exact⟨.normal,h1,λQ a w h=>h⟩
   | ret=>exact⟨.ret,h1,λQ a w h=>h⟩
   | exit i =>
    simp only at h1;cases hi:Nat.beq i id with
    | true =>
     rw[hi]at h1;have:=oE hi;subst this;exact⟨.normal,h1,λQ a w h=>by simp only[Ex.to,Exit.inBlock,if_true]; exact h⟩
    | false =>
     rw[hi]at h1;have hne:¬ i=id:=λe=>by rw[e]at hi; simp at hi
     exact⟨.exit i,h1,λQ a w h=>by simp only[Ex.to,Exit.inBlock,hne,if_false]; exact h⟩
  obtain⟨ex2,hk2,hex2⟩:=live;refine⟨ys1,ys2,(ex2,F1,H1),hk2,rfl,?_⟩;intro l yv hyv G0 all J Jx hY pre post n a A G μ hall hys hS hF;refine wpIn_block (wpIn_mono (h2 l yv hyv G0 all J Jx hY pre post n a A G μ hall hys hS hF) ?_);rintro e a' w' (⟨rfl,G',μ',hS',hF'⟩|⟨ex',F',H',pre',G',μ',hm,rfl,hS',hF'⟩)
  ·exact hex2 _ _ _ (Or.inl ⟨rfl,G',μ',hS',hF'⟩)
  ·obtain⟨ex3,h3,h4⟩:=stop ex' F' H' hm;exact h4 _ _ _ (Or.inr ⟨ex3,F',H',pre',G',μ',h3,rfl,hS',hF'⟩)
 | .loop x,F,H,k,kx,ys,z,hx,hl,h=>by
  simp only[xG]at h;have hsub:=hl (.loop x) (by simp[bP]);split at h
  ·rename_i s hs;split at h
   ·rename_i x0 hx0;unfold aBZ at h;split at h
    ·rename_i ys1 z1 hr;obtain⟨ys2,h1,rfl⟩:=OR h;refine⟨ys1,ys2,rP s.exits z1,zH h1,rfl,?_⟩;intro l yv hyv G0 all J Jx hY pre post n a A G μ hall hys hS hF;obtain⟨n0,hW,_,hS2⟩:=hS.aOQ;have e0:Ext n0 A G aF A G μ:={ bS:=λ_ h=>⟨h,rfl⟩,map:=λ_ _ h=>(by cases h),len:=λ_ _ h=>(by cases h),room:=λ_ _ h=>h,row:=λ_ _ h=>h,os:=rfl,tape:=rfl,output:=rfl,size:=oM _,old:=λ_ _ _=>rfl,new:=λ_ h=>.inl h };obtain⟨G1,μ1,e1,hW1,hF1⟩:=uS hx0 (λr _=>⟨rfl,rfl⟩) (⟨G,μ,e0,hW,hF⟩:I n0 A G aF nt F H a A)
     refine wpIn_mono (hsub.2 s hs x0 ys1 z1 hr l yv hyv G0 all J Jx hY pre post n a A G1 μ1 hall hys (hS2 _ _ _ _ e1 hW1) hF1) ?_;rintro e a' w' (h|⟨ex',F',H',pre',G',μ',hm,rfl,hS',hF'⟩)
     ·exact .inl h
     ·refine .inr ⟨ex',F',H',pre',G',μ',?_,rfl,hS',hF'⟩;cases ex' with
      | ret=>exact hx F' H'
      | normal=>cases hm
      | exit i=>cases hm
    ·cases h
   ·cases h
  ·split at h
   ·rename_i s hs;split at h
    ·rename_i x0 hx0;obtain⟨y,h1,h2⟩:=kZ h;refine⟨[],ys,rP s.exits y,zH h2,rfl,DX λro n n0 wi Gi μi a w hro hfl hI=>?_⟩;exact hsub.1 s hs x0 y h1 ro n n0 wi Gi μi a w hro hfl (hI.dec hfl hx0)
    ·cases h
   ·cases h
 | .scope x,F,H,k,kx,ys,z,hx,hl,h=>by simp only[xG]at h; cases h
 | .rangeFunc g ps as1 x,F,H,k,kx,ys,z,hx,hl,h=>by simp only[xG]at h; cases h
 | .goto l,F,H,k,kx,ys,z,hx,hl,h=>by simp only[xG]at h; cases h
 | .refuse s,F,H,k,kx,ys,z,hx,hl,h=>by simp only[xG]at h; cases h
theorem XC {Y sh exits ex F H}{l:List Y}{y}(h:aPA sh exits ex F H=some (l,y)):l=[]/\Q0 [] sh exits ex F H=some y:=by
 unfold aPA at h;grind
theorem aHL {F1:Frm} {H1:Heap} (hs:∀ {n0:Nat->Prop},I n0 A G aF nt F H a A->I n0 A G aF nt F1 H1 a A) (hS:Sg Φ G0 G μ H A) (hF:cY A G μ nt F a):∃ G' μ',Sg Φ G0 G' μ' H1 A/\cY A G' μ' nt F1 a:=by
 obtain⟨n0,hW,_,hS2⟩:=hS.aOQ;have e0:Ext n0 A G aF A G μ:={ bS:=λ_ h=>⟨h,rfl⟩,map:=λ_ _ h=>(by cases h),len:=λ_ _ h=>(by cases h),room:=λ_ _ h=>h,row:=λ_ _ h=>h,os:=rfl,tape:=rfl,output:=rfl,size:=oM _,old:=λ_ _ _=>rfl,new:=λ_ h=>.inl h };obtain⟨G1,μ1,e1,hW1,hF1⟩:=hs ⟨G,μ,e0,hW,hF⟩;grind
theorem ZU:∀ {l z ex},EG [] l ex F H=some z->(rP l z).1=ex/\∀ {n0},I n0 A G aF nt F H a A->I n0 A G aF nt (rP l z).2.1 (rP l z).2.2 a A:=by
 intro l z ex h;obtain⟨h1,sh,x,h2,h3,h4⟩:=yR h;refine⟨h1,λhI=>?_⟩;rw[h3,h4];exact uS h2 (λr _=>⟨rfl,rfl⟩) hI
theorem aDP(hcl:bN P (cJ P E)) (hP:P.follows .mixedOrders=true) {b:Code} {sh:List (Nat×Kd)} {exits:List (Ex×List (Nat×Kd))} {step:Shape.den sh->Option (List (Value×aL ks)×(Shape.den sh⊕eB exits))} (L:Nat)
  (hl:∀ a∈bP b,RC P nt lt ks li a) (hr:∀ x,aG1 P E nt aU lt ks li b sh exits x=step x):aCS P nt ks b ⟨sh,exits,LP step L⟩:=by
 intro x ys z hz l yv hyv G0 all J Jx hY pre post n a A G μ hall hys hS hF;refine wpIn_loop_ghost (λk a A=>∃ pre1 ys1 x G μ,LP step k x=some (ys1,z)/\pre++ys.map (·.2)=pre1++ys1.map (·.2)/\(∀ y∈ys1,y.1=yv)/\Sg (J pre1) G0 G μ (vD sh x) A/\cY A G μ nt (nZ sh x 0) a) L ⟨pre,ys,x,G,μ,hz,rfl,hys,hS,hF⟩ ?_;rintro k a1 A1 ⟨pre1,ys1,x,G,μ,hz,hpre,hys1,hS,hF⟩;cases k with
 | zero=>cases hz
 | succ k =>
  simp only[LP]at hz;have hall1:all=pre1++(ys1.map (·.2)++post):=by rw[hall,<- List.append_assoc,hpre,List.append_assoc]
  split at hz
  ·rename_i m y hs;obtain⟨m2,hz2,rfl⟩:=OR hz;rw[<- hr]at hs;obtain⟨y1,y2,⟨ex,F',H'⟩,h1,h2,h3⟩:=nU hcl hP b _ _ _ aQ9 m _ (λ_ _=>rfl) hl hs;obtain⟨e1,h4⟩:=XC h1;subst e1;rw[List.append_nil]at h2;subst h2;refine wpIn_mono (h3 l yv hyv G0 all J Jx hY pre1 (m2.map (·.2)++post) n a1 A1 G μ (by rw[hall1,List.map_append,List.append_assoc]) (λy hy=>hys1 y (List.mem_append_left _ hy)) hS hF) ?_;rintro e a' A' (⟨rfl,G',μ',hS',hF'⟩|⟨ex',F',H',pre',G',μ',hm,rfl,hS',hF'⟩)
   ·rcases DO h4 with ⟨y',e1,e2,e3⟩|⟨z',e1,_,_⟩
    ·cases e1;subst e2;obtain⟨G2,μ2,hS2,hF2⟩:=aHL (λhI=>uS e3 (λr _=>⟨rfl,rfl⟩) hI) hS' hF';exact⟨k,by omega,_,m2,y,G2,μ2,hz2,by rw[hpre,List.map_append,List.append_assoc],λy hy=>hys1 y (List.mem_append_right _ hy),hS2,hF2⟩
    ·cases e1
   ·cases ex' with
    | ret=>exact .inr ⟨.ret,F',H',pre',G',μ',rfl,rfl,hS',hF'⟩
    | normal=>cases hm
    | exit i=>cases hm
  ·rename_i m y hs;simp only[oJ,oP]at hz;obtain⟨rfl,rfl⟩:=hz;rw[<- hr]at hs;obtain⟨y1,y2,⟨ex,F',H'⟩,h1,h2,h3⟩:=nU hcl hP b _ _ _ aQ9 m _ (λ_ _=>rfl) hl hs;obtain⟨e1,h4⟩:=XC h1;subst e1;rw[List.append_nil]at h2;subst h2;refine wpIn_mono (h3 l yv hyv G0 all J Jx hY pre1 post n a1 A1 G μ hall1 hys1 hS hF) ?_;rintro e a' A' (⟨rfl,G',μ',hS',hF'⟩|⟨ex',F',H',pre',G',μ',hm,rfl,hS',hF'⟩)
   ·rcases DO h4 with ⟨y',e1,e2,e3⟩|⟨z',e1,e2,e3⟩
    ·cases e1
    ·cases e1;dsimp only at e2 e3;obtain⟨h5,h6⟩:=ZU (A:=A') (G:=G') (a:=a') (nt:=nt) e3;obtain⟨G2,μ2,hS2,hF2⟩:=aHL (λhI=>h6 hI) hS' hF';have hout:(Exit.normal≠ex.to->True):=λ_=>trivial
     cases ex with
     | normal=>exact absurd rfl e2
     | exit i=>exact .inl ⟨by rw[h5],G2,μ2,by rw[hpre]; exact hS2,hF2⟩
     | ret=>exact .inl ⟨by rw[h5],G2,μ2,by rw[hpre]; exact hS2,hF2⟩
   ·cases ex' with
    | ret=>exact .inr ⟨.ret,F',H',pre',G',μ',rfl,rfl,hS',hF'⟩
    | normal=>cases hm
    | exit i=>cases hm
  ·cases hz
def aPG(P:Program) (E:Env) (fn:Func) (aU:Nat) (lt:Nat->Option bT) (ks:List Kd) (li:Nat->Option (E7 (Value×aL ks))) (c:Code) (ts:List Ty) (yv:Value) (x:AS ts):Option (List (Value×aL ks)) :=
 bif Nat.ble (1+(GQ ts x).length) fn.ntmps then aM7 (xG P E fn.ntmps aU lt ks li c (start aU 0 (.lit yv::GQ ts x)) [] (λex _ _=>match ex with
  | .exit _=>none
  | _=>some ([],())) (λex _ _=>match ex with
  | .exit _=>none
  | _=>some ())) else none
theorem aH5(hP:tW P) (hE:fC P E) {g:Nat} {fn:Func} (hg:P.funcs[g]?=some fn) {c:Code} (hc:fn.body=some c) (hres:fn.results=#[]) {ts:List Ty} {f:AS ts->Option (List (aL ks))}
  (hl:∀ a∈bP c,RC P fn.ntmps lt ks li a) (hb:∀ yv x all,f x=some all->aPG P E fn aU lt ks li c ts yv x=some (all.map λe=>(yv,e))):KY P g ts ks f:=by
 intro x all hall m l W G vs hlt hvs J Jx hY hJ;obtain⟨yv,hyv⟩:∃ yv:Value,yv=.func (.yield l) #[] #[]:=⟨_,rfl⟩;have hbx:=hb yv x all hall;obtain⟨hlen,hbx⟩:=aG hbx;unfold aM7 at hbx;split at hbx
 ·rename_i l0 u hex;have hl0:=oB hbx;obtain⟨ys1,ys2,⟨ex,F',H'⟩,h1,h2,h3⟩:=nU hE.callee hP.mixed c _ _ _ _ _ _ (λ_ _=>rfl) hl hex;have hex:(ex=.normal\/ex=.ret)/\ys2=[]:=by
   cases ex with
   | exit i=>cases h1
   | normal =>
    grind
   | ret =>
    grind
  obtain⟨hex,rfl⟩:=hex;rw[List.append_nil]at h2;subst h2;have hys:∀ y∈l0,y.1=yv:=by grind
  have hmap:l0.map (·.2)=all:=by
   rw[hl0,List.map_map];exact List.map_id all
  refine callsIn_of_wp hg hc trivial ?_ rfl;have hargs:VRs W (Gd.of G) aF (.lit yv::GQ ts x) ((#[.func (.yield l) #[] #[]]:Array Value)++vs.toArray).toList:=by
   rw[<- hyv];simp only[Array.toList_append,List.cons_append,List.nil_append];exact⟨yv,vs,rfl,by rw[VR],hvs⟩
  have hF0:=lB (m:=aU) (n:=fn.ntmps) hargs (by simpa[Nat.add_comm]using oL hlen);have hS0:Sg (J []) (Gd.of G) (Gd.of G) aF [] W:=Sg.start hlt hJ;have post:∀ (ex:Exit) (a:Act) (A:World),(ex=.normal\/ex=.ret)->a.defers=[]->∀ (T X:Nat->Prop) (B:World),Stp X B A->(J all T X B\/∃ pre,Jx pre T X B) ->
    bodyPost P fn (λen C=>(∃ v,en=.returned v)/\∃ T X B,Stp X B C/\(J all T X B\/∃ pre,Jx pre T X B)) ex a A:=by
   intro ex a A hex hd T X B hst hj;have hr:(results fn a.tmps).run P A=.ok (.tuple #[]) A:=by simp[results,hres]
   rcases hex with rfl|rfl
   ·exact⟨hd,_,hr,⟨_,rfl⟩,T,X,B,hst,hj⟩
   ·exact⟨hd,_,hr,⟨_,rfl⟩,T,X,B,hst,hj⟩
  refine wpIn_mono (h3 l yv hyv (Gd.of G) all J Jx hY [] [] m _ W (Gd.of G) aF (by rw[hmap]; simp) hys hS0 hF0) ?_;rintro e a' A' (⟨rfl,G',μ',hS',hF'⟩|⟨ex',F',H',pre',G',μ',hm,rfl,hS',hF'⟩)
  ·obtain⟨T,X,B,hst,hj⟩:=hS'.stp;rw[List.nil_append,hmap]at hj;refine post _ a' A' ?_ hF'.defers T X B hst (.inl hj);rcases hex with rfl|rfl
   ·exact .inl rfl
   ·exact .inr rfl
  ·obtain⟨T,X,B,hst,hj⟩:=hS'.stp;refine post _ a' A' ?_ hF'.defers T X B hst (.inr ⟨_,hj⟩);cases ex' with
   | normal=>exact .inl rfl
   | ret=>exact .inr rfl
   | exit i=>cases hm
 ·cases hbx
theorem aKL {a i s0}(hf:aO a=i)(hlt:lt i=some s0)(hli:li i=none)(h:qL P nt true [] (.loop a) s0):RC P nt lt ks li (.loop a):=by
 refine⟨λs hs=>?_,λs hs=>?_⟩
 ·grind
 grind
theorem aDN {a i s0}(hf:aO a=i)(hlt:lt i=none)(hli:li i=some s0)(h:aCS P nt ks a s0):RC P nt lt ks li (.loop a):=by
 refine⟨λs hs=>?_,λs hs=>?_⟩
 ·grind
 grind
def T9(P:Program)(nt:Nat)(lt:Nat->Option bT) ks (li:Nat->Option (E7 (Value×aL ks))):List Code->Prop
 | []=>True
 | c::r=>RC P nt lt ks li c/\T9 P nt lt ks li r
theorem NQ:∀ {l},T9 P nt lt ks li l->∀ a∈l,RC P nt lt ks li a
 | [],_,a,ha=>by grind
 | c::r,h,a,ha=>by
  rcases List.mem_cons.1 ha with rfl|ha
  ·exact h.1
  ·exact NQ h.2 a ha
theorem MA {c l}(hc:bP c=l)(h:T9 P nt lt ks li l):∀ a∈bP c,RC P nt lt ks li a:=by rw[hc]; exact NQ h
end
open Go Go.RowKit Go.Proofs Tryz
set_option maxHeartbeats 4000000
abbrev JD:List (Nat×Kd):=[(0,.val),(1,.ptr (.list TyO)),(4,.box 40 (.prod TyE (.prod TyE TyO))),(5,.bool),(8,.int .i64),(26,.list TyO),(27,.int .i64),(28,.int .i64)]
abbrev MQ:List (Ex×List (Nat×Kd)):=[(.exit 2,[(0,.val),(1,.ptr (.list TyO)),(4,.box 40 (.prod TyE (.prod TyE TyO))),(5,.bool),(8,.int .i64)])]
def YH(x:Shape.den JD):oS JD MQ:=match x with
 | (v0,v1,v4,v5,v8,v26,v27,v28,()) =>
  bif ltI v28 v27 then
   bif aN v28 v26.length then bif v5 then
    aB (f63 (v1,((aH .i64 ((aH .i64 (v4.1*((v26.getD v28.toNat (0,0)).1)))+(aH .i64 (v4.2.1*((v26.getD v28.toNat (0,0)).2))))),(aH .i64 ((aH .i64 (v4.2.2.1*((v26.getD v28.toNat (0,0)).1)))+(aH .i64 (v4.2.2.2*((v26.getD v28.toNat (0,0)).2)))))),())) λy2 =>
    some (.inl (v0,v1,v4,y2.1,v8,v26,v27,(aH .i64 (v28+1)),()))
   else some (.inl (v0,v1,v4,false,v8,v26,v27,(aH .i64 (v28+1)),())) else none
  else some (.inr ((v0,v1,v4,v5,v8,())))
def O8(x:Shape.den JD):oX MQ:=bF YH (2^64) x
abbrev I3:List (Nat×Kd):=[(0,.val),(1,.ptr (.list TyO)),(8,.int .i64)]
abbrev NZ:List (Ex×List (Nat×Kd)):=[(.exit 0,[])]
def W7(x:Shape.den I3):Option (List (Value×aL [.agg (.prod TyE (.prod TyE TyO))])×(Shape.den I3⊕eB NZ)):=match x with
 | (v0,v1,v8,()) =>
  bif ltI v8 81 then
   aB (O8 (v0,v1,((aH .i64 ((aH .i64 (v8.tdiv 27))-1)),((aH .i64 (((aH .i64 (v8.tdiv 9)).tmod 3)-1)),((aH .i64 (((aH .i64 (v8.tdiv 3)).tmod 3)-1)),(aH .i64 ((v8.tmod 3)-1))))),true,v8,v1,(v1.length:Int),0,())) λz4 =>
   bif z4.2.2.2.1 then
    bif !(eqI (aH .i64 ((aH .i64 (z4.2.2.1.1*z4.2.2.1.2.2.2))-(aH .i64 (z4.2.2.1.2.1*z4.2.2.1.2.2.1)))) 0) then
     outs [(z4.1,(z4.2.2.1,()))] (some ([],.inl (z4.1,z4.2.1,(aH .i64 (z4.2.2.2.2.1+1)),())))
    else some ([],.inl (z4.1,z4.2.1,(aH .i64 (z4.2.2.2.2.1+1)),()))
   else some ([],.inl (z4.1,z4.2.1,(aH .i64 (z4.2.2.2.2.1+1)),()))
  else some ([],.inr ((())))
def O9(x:Shape.den I3):Option (List (Value×aL [.agg (.prod TyE (.prod TyE TyO))])×eB NZ):=LP W7 (2^64) x
def aQ7(v0:Value)(x:AS [(.list TyO)]):Option (List (Value×aL [.agg (.prod TyE (.prod TyE TyO))])):=match x with
 | (v1,()) =>
  aM7 (aBZ (O9 (v0,v1,0,())) λz5 =>
  some ([],()))
def aPR:Code:=cM f31
abbrev aRD:Env:=WH [e63] []
theorem ZY:fC Tryz.prog aRD:=yX ⟨aU6,trivial⟩ trivial
def P3:Code:=inLoop (zT aPR 0)
def Y6:Code:=inLoop (zT P3 0)
def aHG(id:Nat):Option bT:=bif Nat.beq id 6 then some ⟨JD,MQ,O8⟩ else none
def aMJ(id:Nat):Option (E7 (Value×aL [.agg (.prod TyE (.prod TyE TyO))])):=bif Nat.beq id 1 then some ⟨I3,NZ,O9⟩ else none
theorem aGK:aO Y6=6:=by kernel_rfl
theorem aFM:∀ x,E8 Tryz.prog aRD 83 (bO f31) aHG (λ_=>none) true [] Y6 JD MQ x=YH x:=by
 rintro⟨v0,v1,v4,v5,v8,v26,v27,v28,⟨⟩⟩
 kernel_rfl
theorem aI9:qL Tryz.prog 83 true [] (.loop Y6) ⟨JD,MQ,O8⟩:=xB ZY.callee aV.mixed _ (gY (l:=[]) (by kernel_rfl) trivial) aFM
theorem aEL:aO P3=1:=by kernel_rfl
theorem aRK:bP P3=[.loop Y6]:=by kernel_rfl
theorem aG6:∀ x,aG1 Tryz.prog aRD 83 (bO f31) aHG [.agg (.prod TyE (.prod TyE TyO))] aMJ P3 I3 NZ x=W7 x:=by
 rintro⟨v0,v1,v8,⟨⟩⟩
 kernel_rfl
theorem aKC:aCS Tryz.prog 83 [.agg (.prod TyE (.prod TyE TyO))] P3 ⟨I3,NZ,O9⟩:=aDP ZY.callee aV.mixed _ (MA aRK ⟨aKL aGK rfl rfl aI9,trivial⟩) aG6
theorem aM1:bP aPR=[.loop P3]:=by kernel_rfl
theorem aRA:∀ v0 x,aPG Tryz.prog aRD f31 (bO f31) aHG [.agg (.prod TyE (.prod TyE TyO))] aMJ aPR [(.list TyO)] v0 x=aQ7 v0 x:=by
 rintro v0 ⟨v1,⟨⟩⟩
 kernel_rfl
theorem aQL {f:AS [(.list TyO)]->Option (List (aL [.agg (.prod TyE (.prod TyE TyO))]))}(h:∀ yv x all,f x=some all->aQ7 yv x=some (all.map λe=>(yv,e))):KY Tryz.prog 31 [(.list TyO)] [.agg (.prod TyE (.prod TyE TyO))] f:=aH5 aV ZY func31 (c:=aPR) (by kernel_rfl) (by kernel_rfl) (aU:=bO f31) (lt:=aHG) (li:=aMJ) (MA aM1 ⟨aDN aEL rfl rfl aKC,trivial⟩) (λyv x all hx=>(aRA yv x).trans (h yv x all hx))
abbrev S4:Type:=Int×Int×Int×Int
def aHK:List (Int×Int):=[(1,0),((-1),0),(0,1),(0,(-1))]
def aH2:List (Int×Int):=[(1,0),((-1),0),(0,1),(0,(-1)),(1,(-1)),((-1),1)]
def aBF:List S4:=[((-1),0,0,(-1)),((-1),0,0,1),(0,(-1),(-1),0),(0,(-1),1,0),(0,1,(-1),0),(0,1,1,0),(1,0,0,(-1)),(1,0,0,1)]
def aAO:List S4:=[((-1),(-1),0,1),((-1),(-1),1,0),((-1),0,0,(-1)),((-1),0,1,1),(0,(-1),(-1),0),(0,(-1),1,1),(0,1,(-1),(-1)),(0,1,1,0),(1,0,(-1),(-1)),(1,0,0,1),(1,1,(-1),0),(1,1,0,(-1))]
def eqK:List (Int×Int)->List (Int×Int)->Bool
 | [],[]=>true
 | a::l,b::m=>bif eqI a.1 b.1&&eqI a.2 b.2 then eqK l m else false
 | _,_=>false
theorem aGP:∀ {l m:List (Int×Int)},eqK l m=true->l=m
 | [],[],_=>rfl
 | [],_::_,h=>by cases h
 | _::_,[],h=>by cases h
 | (a1,a2)::l,(b1,b2)::m,h=>by
  simp only[eqK,dE]at h
  by_cases h1:a1=b1
  ·by_cases h2:a2=b2
   ·simp[h1,h2]at h;rw[h1,h2,aGP h]
   ·simp[h2]at h
  ·simp[h1]at h
def CH(x:AS [(.list TyO)]):Option (List (aL [.agg (.prod TyE (.prod TyE TyO))])):=match x with
 | (near,())=>bif eqK near aHK then some (aBF.map λg=>(g,())) else bif eqK near aH2 then some (aAO.map λg=>(g,())) else none
theorem aXK(yv:Value):aQ7 yv (aHK,())=some ((aBF.map λg=>(g,())).map λe=>(yv,e)):=by kernel_rfl
theorem aXE(yv:Value):aQ7 yv (aH2,())=some ((aAO.map λg=>(g,())).map λe=>(yv,e)):=by kernel_rfl
theorem aRO:KY Tryz.prog 31 [(.list TyO)] [.agg (.prod TyE (.prod TyE TyO))] CH:=by
 refine aQL ?_;rintro yv ⟨near,⟨⟩⟩ all h;unfold CH at h;dsimp only at h;cases h4:eqK near aHK with
 | true =>
  rw[h4,oC]at h;rw[aGP h4,aXK,oB h]
 | false =>
  rw[h4,oD]at h;cases h6:eqK near aH2 with
  | true =>
   rw[h6,oC]at h;rw[aGP h6,aXE,oB h]
  | false=>rw[h6,oD]at h; cases h
end Go.PM
namespace Go.PM
open Go Go.RowKit
abbrev arB(ae:TypeId) (t:Ty) (A:List (List t.den)):Blk:=⟨aD (.rows t) A,ae,false,false,some ⟨.rows t,A⟩⟩
abbrev owB(e:TypeId)(t:Ty)(l:List t.den):Blk:=⟨aD t l,e,true,false,some ⟨t,l⟩⟩
abbrev OwA:=Option (Nat×Blk)
def B1:OwA->Heap->Heap
 | none,H=>H
 | some (r,_),H=>H.set r none
def xJ:OwA->Heap
 | none=>[]
 | some (_,k)=>[some k]
def aVU(μ:Mp):OwA->Option Nat
 | none=>none
 | some (r,_)=>μ.loc r
def aW5(μ:Mp):OwA->Option Nat
 | none=>none
 | some (r,_)=>μ.len r
def shA(μ:Mp):OwA->Nat
 | none=>0
 | some (r,_)=>μ.sh r
def wrA(w:World) (G:Gd) (μ:Mp) (ow:OwA):Nat->Prop:=λb=>w.heap.size<=b\/aVU μ ow=some b\/∃ j,G.row j=some b
def mpA(μ:Mp) (ow:OwA) (n:Nat):Mp:=⟨λq=>if q<(xJ ow).length then aVU μ ow else none,λq=>if q<(xJ ow).length then aW5 μ ow else if q=(xJ ow).length then some n else none,λq=>if q<(xJ ow).length then shA μ ow else 0⟩
structure aI1 (H:Heap) (ow:OwA):Prop where
 at_:∀ r k,ow=some (r,k)->H[r]?=some (some k)/\k.grown=true/\k.frozen=false/\k.tag.isSome=true
section
variable {P:Program} {n0:Nat->Prop} {w w':World} {G G1 G2:Gd} {μ μ2:Mp} {H H':Heap} {ae:TypeId} {t:Ty} {A B:List (List t.den)}
theorem aKK {ow s k}(h:(B1 ow H)[s]?=some (some k)):H[s]?=some (some k)/\∀ r k',ow=some (r,k')->s≠r:=by
 cases ow with
 | none=>exact⟨h,λr k' e=>by grind⟩
 | some p =>
  obtain⟨h1,h2⟩:=jU h;grind
theorem Z7 {ow}:(B1 ow H).length=H.length:=by
 cases ow with
 | none=>rfl
 | some p=>simp[B1]
theorem aUP(hW:aM n0 G μ H w) {ow:OwA} (ho:aI1 H ow):∀ b,wrA w G μ ow b->n0 b:=by
 rintro b (h|h|⟨j,h⟩)
 ·exact hW.base b h
 ·cases ow with
  | none=>cases h
  | some p =>
   obtain⟨r,k⟩:=p;obtain⟨h1,_,h3,_⟩:=ho.at_ r k rfl;obtain⟨_,_,_,_,_,h6⟩:=hW.blk r k b h1 h;grind
 ·exact(hW.rows.sep j b h).2.1
theorem aKD(hW:aM n0 G μ H w) {ow:OwA} (ho:aI1 H ow) {s:Nat} {k:Blk} {b:Nat} (hs:H[s]?=some (some k)) (hne:∀ r k',ow=some (r,k')->s≠r) (hb:μ.loc s=some b):¬ wrA w G μ ow b:=by
 rintro(h|h|⟨j,h⟩)
 ·exact Nat.not_lt.2 h (hW.hZ hs hb)
 ·cases ow with
  | none=>cases h
  | some p =>
   obtain⟨r,k'⟩:=p;obtain⟨h1,_,h3,_⟩:=ho.at_ r k' rfl;cases hf:k.frozen with
   | false=>exact hne r k' rfl (hW.inj s r k k' b hs h1 hf h3 hb h)
   | true =>
    obtain⟨_,_,_,_,h5,_⟩:=hW.blk s k b hs hb;obtain⟨_,_,_,_,_,h6⟩:=hW.blk r k' b h1 h;grind
 ·obtain⟨_,_,a3,a4⟩:=hW.rows.sep j b h;cases hf:k.frozen with
  | false=>exact a4 s k hs hf hb
  | true =>
   obtain⟨_,_,_,_,h5,_⟩:=hW.blk s k b hs hb;grind
theorem LU(hW:aM n0 G μ H w) {ow:OwA} (ho:aI1 H ow) {ra:Nat} (har:H[ra]?=some (some (arB ae t A))) :
  aM (wrA w G μ ow) G (mpA μ ow A.length) (xJ ow++[some (arB ae t A)]) w:=by
 have key:∀ (s:Nat) (k:Blk),(xJ ow++[some (arB ae t A)])[s]?=some (some k)->(s<(xJ ow).length/\∃ r,ow=some (r,k)/\s=0)\/(s=(xJ ow).length/\k=arB ae t A):=by
  intro s k hs;rcases IU (H:=xJ ow) s k hs with ⟨h1,h2⟩|⟨h1,h2⟩
  ·grind
  ·left;refine⟨h1,?_⟩;cases ow with
   | none=>simp[xJ]at h1
   | some p =>
    obtain⟨r,k'⟩:=p;simp only[xJ,List.length_cons,List.length_nil]at h1;have:s=0:=by omega
    subst this;simp only[xJ,List.getElem?_cons_zero,oJ]at h2;grind
 refine⟨?_,?_,?_,hW.lt,?_,λb hb=>.inl hb,?_⟩
 ·intro s k b hs hb;rcases key s k hs with ⟨h1,r,rfl,rfl⟩|⟨h1,rfl⟩
  ·have hb:μ.loc r=some b:=by
    have:(mpA μ (some (r,k)) A.length).loc 0=μ.loc r:=rfl;grind
   obtain⟨q1,q2,q3,q4⟩:=ho.at_ r k rfl;obtain⟨c,a1,a2,a3,a4,a5⟩:=hW.blk r k b q1 hb;refine⟨c,a1,?_,a3,a4,λhf=>⟨.inr (.inl hb),(a5 hf).2⟩⟩;obtain⟨g,hg⟩:=Option.isSome_iff_exists.1 q4;rw[(hW.tags r k g q1 hg).1]at a2 ⊢;exact iQ (eA _ _) a2
  ·subst h1;simp only[mpA,Nat.lt_irrefl,if_false]at hb;cases hb
 ·intro s k g hs hg;rcases key s k hs with ⟨h1,r,rfl,rfl⟩|⟨h1,rfl⟩
  ·obtain⟨q1,_⟩:=ho.at_ r k rfl;obtain⟨a1,a2⟩:=hW.tags r k g q1 hg;exact⟨a1,a2⟩
  ·cases hg;subst h1;refine⟨rfl,?_⟩;simp only[mpA,Nat.lt_irrefl,if_false,if_true]
 ·intro s1 s2 k1 k2 b h1 h2 f1 f2 m1 m2;rcases key s1 k1 h1 with ⟨p1,r1,e1,rfl⟩|⟨p1,rfl⟩
  ·rcases key s2 k2 h2 with ⟨p2,r2,e2,rfl⟩|⟨p2,rfl⟩
   ·rfl
   ·subst p2;simp only[mpA,Nat.lt_irrefl,if_false]at m2;cases m2
  ·subst p1;simp only[mpA,Nat.lt_irrefl,if_false]at m1;cases m1
 ·intro s hs;rw[oH]at hs;simp only[List.length_cons,List.length_nil]at hs;have h1:¬ s<(xJ ow).length:=by omega
  have h2:¬ s=(xJ ow).length:=by omega
  simp only[mpA,h1,h2,if_false,and_self]
 ·refine(hW.rows.rel (λs s'=>(s<(xJ ow).length/\∃ r k,ow=some (r,k)/\s'=r)\/(s=(xJ ow).length/\s'=ra)) ?_ ?_).OG λj b hj _=>.inr (.inr ⟨j,hj⟩)
  ·rintro s s2 q (⟨h1,r,k,h3,h4⟩|⟨h1,h3⟩) (⟨h2,r2,k2,h5,h6⟩|⟨h2,h5⟩)
   ·have:(xJ ow).length<=1:=by rw[h3]; simp[xJ]
    omega
   ·exfalso;obtain⟨q1,q2,_⟩:=ho.at_ r k h3;rw[<- h4,h5,har]at q1;cases q1;cases q2
   ·exfalso;obtain⟨q1,q2,_⟩:=ho.at_ r2 k2 h5;rw[<- h6,h3,har]at q1;cases q1;cases q2
   ·rw[h1,h2]
  ·intro s k' hs;rcases key s k' hs with ⟨h1,r,rfl,rfl⟩|⟨h1,rfl⟩
   ·exact⟨r,k',.inl ⟨h1,r,k',rfl,rfl⟩,(ho.at_ r k' rfl).1,rfl,rfl,rfl,rfl,rfl⟩
   ·refine⟨ra,_,.inr ⟨h1,rfl⟩,har,rfl,rfl,rfl,rfl,?_⟩;subst h1;simp only[mpA,Nat.lt_irrefl,if_false];exact(hW.rows.arn ra _ t A har rfl rfl).1.symm
abbrev OsA:=Option (Nat×Blk×Blk)
def aFI:OsA->Heap
 | none=>[]
 | some (_,_,k)=>[some k]
def aIX(μ:Mp):OsA->Option Nat
 | none=>none
 | some (r,_,_)=>μ.loc r
def shS(μ:Mp):OsA->Nat
 | none=>0
 | some (r,_,_)=>μ.sh r
def aG7:OsA->Option Nat
 | none=>none
 | some (_,_,k)=>match k.tag with
  | some g=>some g.l.length
  | none=>none
structure aP9 (H:Heap) (os:OsA):Prop where
 at_:∀ r k k',os=some (r,k,k')->H[r]?=some (some k)/\k'.grown=true/\k.frozen=false/\k'.frozen=false/\k'.ty=k.ty/\∃ g n,k'.tag=some g/\k'.cells=aD g.t g.l/\k'.cells=k.cells.take n
def gI(μ μ2:Mp) (N n:Nat) (os:OsA):Mp:=⟨λq=>if q<N then μ.loc q else if q=N+1 then aIX μ2 os else none,λq=>if q<N then μ.len q else if q=N then some n else if q=N+1 then aG7 os else none,λq=>if q<N then μ.sh q else if q=N+1 then shS μ2 os else 0⟩
theorem I1(hW:aM n0 G μ H w) {ow:OwA} (ho:aI1 H ow) {ra:Nat} (har:H[ra]?=some (some (arB ae t A))) (ee:Ext (wrA w G μ ow) w G aF w' G1 μ2) (hW':aM (wrA w G μ ow) G1 μ2 H' w')
  {rb:Nat} (hrb:H'[rb]?=some (some (arB ae t B))) {os:OsA} (hos:aP9 H' os) (hrow:∀ j,G2.row j=G1.row j) (h12:∀ b,G1 b->G2 b)
  (h21:∀ b,G2 b->G1 b\/∃ s k,H'[s]?=some (some k)/\k.frozen=false/\μ2.loc s=some b/\∀ r k' k2,os=some (r,k',k2)->s≠r) :
  Ext n0 w G μ w' G2 (gI μ μ2 H.length B.length os)/\aM n0 G2 (gI μ μ2 H.length B.length os) (((B1 ow H).set ra none)++(some (arB ae t B)::aFI os)) w':=by
 have hwr:=aUP hW ho;have hblk:∀ s k b,H'[s]?=some (some k)->k.frozen=false->μ2.loc s=some b->wrA w G μ ow b:=λs k b hs hf hb=>by
  obtain⟨_,_,_,_,_,h6⟩:=hW'.blk s k b hs hb;grind
 have hG2:∀ b,G2 b->G b\/wrA w G μ ow b:=λb hb=>by
  rcases h21 b hb with h|⟨s,k,h1,h2,h3,_⟩
  ·exact ee.new b h
  ·grind
 have hlt2:Lt w' G2.ok:=hW'.lt.step (λb hb=>⟨h12 b hb,rfl⟩) λb hb=>by
  rcases h21 b hb with h|⟨s,k,h1,_,h3,_⟩
  ·exact hW'.lt b h
  ·exact hW'.hZ h1 h3
 have e2:Ext n0 w G μ w' G2 (gI μ μ2 H.length B.length os):={
  bS:=λb hb=>⟨h12 b (ee.bS b hb).1,(ee.bS b hb).2⟩
  map:=λr b hr=>by
   have:r<H.length:=by
    rcases oG r H.length with h|h
    ·exact h
    ·rw[(hW.top r h).1]at hr; cases hr
   simp only[gI,this,if_true]; exact hr
  len:=λr b hr=>by
   have:r<H.length:=by
    rcases oG r H.length with h|h
    ·exact h
    ·rw[(hW.top r h).2]at hr; cases hr
   simp only[gI,this,if_true]; exact hr
  sh:=λr b hr=>by
   have:r<H.length:=by
    rcases oG r H.length with h|h
    ·exact h
    ·rw[(hW.top r h).1]at hr; cases hr
   simp only[gI,this,if_true]
  room:=ee.room
  row:=λj b hj=>by rw[hrow]; exact ee.row j b hj
  os:=ee.os
  tape:=ee.tape
  output:=ee.output
  size:=ee.size
  old:=λb hb hn=>ee.old b hb λh=>hn (hwr b h)
  new:=λb hb=>(hG2 b hb).imp id (hwr b) }
 have hlen:((B1 ow H).set ra none).length=H.length:=by rw[List.length_set,Z7]
 have key:∀ (s:Nat) (k:Blk),(((B1 ow H).set ra none)++(some (arB ae t B)::aFI os))[s]?=some (some k) ->
   (s<H.length/\s≠ra/\H[s]?=some (some k)/\∀ r k',ow=some (r,k')->s≠r)\/(s=H.length/\k=arB ae t B)\/(s=H.length+1/\∃ r k0,os=some (r,k0,k)):=by
  intro s k hs;rcases oG s H.length with hl|hl
  ·rw[List.getElem?_append_left (by rw[hlen]; exact hl)]at hs;obtain⟨h1,h2⟩:=jU hs;obtain⟨h3,h4⟩:=aKK h1;exact .inl ⟨hl,h2,h3,h4⟩
  ·rw[List.getElem?_append_right (by rw[hlen]; exact hl),hlen]at hs;rcases Nat.eq_zero_or_pos (s-H.length)with h0|h0
   ·rw[h0]at hs;simp only[List.getElem?_cons_zero,oJ]at hs;exact .inr (.inl ⟨by omega,hs.symm⟩)
   ·obtain⟨m,hm⟩:∃ m,s-H.length=m+1:=⟨s-H.length-1,by omega⟩;rw[hm,List.getElem?_cons_succ]at hs;cases os with
    | none=>simp[aFI]at hs
    | some p =>
     obtain⟨r,k0,k'⟩:=p;cases m with
     | zero =>
      simp only[aFI,List.getElem?_cons_zero,oJ]at hs;subst hs;exact .inr (.inr ⟨by omega,r,k0,rfl⟩)
     | succ m=>simp[aFI]at hs
 have l0:∀ s,s<H.length->(gI μ μ2 H.length B.length os).loc s=μ.loc s/\(gI μ μ2 H.length B.length os).len s=μ.len s/\(gI μ μ2 H.length B.length os).sh s=μ.sh s:=λs hs=>by simp[gI,hs]
 have l1:(gI μ μ2 H.length B.length os).loc H.length=none/\(gI μ μ2 H.length B.length os).len H.length=some B.length:=by simp[gI]
 have l2:(gI μ μ2 H.length B.length os).loc (H.length+1)=aIX μ2 os/\(gI μ μ2 H.length B.length os).len (H.length+1)=aG7 os:=by
  have h1:¬ H.length+1<H.length:=by omega
  have h2:¬ H.length+1=H.length:=by omega
  simp only[gI,h1,h2,if_false,if_true,and_self]
 have l3:(gI μ μ2 H.length B.length os).sh (H.length+1)=shS μ2 os:=by
  have h1:¬ H.length+1<H.length:=by omega
  simp only[gI,h1,if_false,if_true]
 have hold:∀ s k b,H[s]?=some (some k)->(∀ r k',ow=some (r,k')->s≠r)->μ.loc s=some b->w'.heap[b]?=w.heap[b]?/\¬ wrA w G μ ow b:=λs k b h1 h2 h3=>by
  have h4:=aKD hW ho h1 h2 h3;exact⟨ee.old b (hW.hZ h1 h3) h4,h4⟩
 refine⟨e2,?_,?_,?_,hlt2,?_,λb hb=>hW.base b (oR ee.size hb),?_⟩
 ·intro s k b hs hb;rcases key s k hs with ⟨h1,h2,h3,h4⟩|⟨h1,rfl⟩|⟨h1,r,k0,h2⟩
  ·rw[(l0 s h1).1]at hb;obtain⟨c,a1,a2,a3,a4,a5⟩:=hW.blk s k b h3 hb;obtain⟨g1,g2⟩:=hold s k b h3 h4 hb;rw[(l0 s h1).2.2];refine⟨c,g1.trans a1,aK.mono e2.toMono g1 _ _ a2,a3,λhf=>h12 b (ee.bS b (a4 hf)).1,λhf=>⟨(a5 hf).1,λhg=>?_⟩⟩;rcases hG2 b hg with h|h
   ·exact(a5 hf).2 h
   ·exact g2 h
  ·subst h1;rw[l1.1]at hb; cases hb
  ·subst h1; subst h2;rw[l2.1]at hb;obtain⟨q1,q2,q3,q4,q5,g,nc,q6,q7,q8⟩:=hos.at_ r k0 k rfl;obtain⟨c,a1,a2,a3,a4,a5⟩:=hW'.blk r k0 b q1 hb;rw[l3];refine⟨c,by rw[q5]; exact a1,?_,(λhf=>by rw[q2]at hf; cases hf),(λhf=>by rw[q4]at hf; cases hf),λhf=>⟨hwr b (a5 q3).1,λhg=>?_⟩⟩
   ·replace a2:=a2.take nc;rw[<- q8,q7]at a2;rw[q7];obtain⟨us,u1,u2⟩:=a2.values;have m12:Mono w' G1 aF w' G2 (gI μ μ2 H.length B.length (some (r,k0,k))):=⟨λb hb=>⟨h12 b hb,rfl⟩,λ_ _ h=>(by cases h),λ_ _ h=>(by cases h),λ_ _ h=>h,λj b hj=>by rw[hrow]; exact hj,λ_ _ h=>(by cases h)⟩;exact aK.gD (VRs.mono m12 _ _ (bG _ _ (eA _ _) u1)) u2
   ·rcases h21 b hg with h|⟨s2,k2,z1,z2,z3,z4⟩
    ·exact(a5 q3).2 h
    ·exact z4 r k0 k rfl (hW'.inj s2 r k2 k0 b z1 q1 z2 q3 z3 hb)
 ·intro s k g hs hg;rcases key s k hs with ⟨h1,h2,h3,h4⟩|⟨h1,rfl⟩|⟨h1,r,k0,h2⟩
  ·rw[(l0 s h1).2.1];exact hW.tags s k g h3 hg
  ·cases hg;subst h1;exact⟨rfl,l1.2⟩
  ·subst h1; subst h2;rw[l2.2];obtain⟨_,_,_,_,_,g',_,q6,q7,_⟩:=hos.at_ r k0 k rfl;rw[hg]at q6;cases q6;exact⟨q7,by simp only[aG7,hg]⟩
 ·intro s1 s2 k1 k2 b h1 h2 f1 f2 m1 m2;rcases key s1 k1 h1 with ⟨p1,p2,p3,p4⟩|⟨p1,rfl⟩|⟨p1,r,k0,p2⟩
  ·rw[(l0 s1 p1).1]at m1;rcases key s2 k2 h2 with ⟨q1,q2,q3,q4⟩|⟨q1,rfl⟩|⟨q1,r2,k02,q2⟩
   ·rw[(l0 s2 q1).1]at m2;exact hW.inj s1 s2 k1 k2 b p3 q3 f1 f2 m1 m2
   ·subst q1; rw[l1.1]at m2; cases m2
   ·subst q1; subst q2;rw[l2.1]at m2;exact absurd (hblk r2 k02 b (hos.at_ r2 k02 k2 rfl).1 (hos.at_ r2 k02 k2 rfl).2.2.1 m2) (hold s1 k1 b p3 p4 m1).2
  ·subst p1; rw[l1.1]at m1; cases m1
  ·subst p1; subst p2;rw[l2.1]at m1;rcases key s2 k2 h2 with ⟨q1,q2,q3,q4⟩|⟨q1,rfl⟩|⟨q1,r2,k02,q2⟩
   ·rw[(l0 s2 q1).1]at m2;exact absurd (hblk r k0 b (hos.at_ r k0 k1 rfl).1 (hos.at_ r k0 k1 rfl).2.2.1 m1) (hold s2 k2 b q3 q4 m2).2
   ·subst q1; rw[l1.1]at m2; cases m2
   ·exact q1.symm
 ·intro s hs;rw[oH,hlen,List.length_cons]at hs;have h1:¬ s<H.length:=by omega
  have h2:¬ s=H.length:=by omega
  by_cases h3:s=H.length+1
  ·cases os with
   | none=>rw[h3]; exact l2
   | some p =>
    obtain⟨r,k0,k1⟩:=p;simp only[aFI,List.length_cons,List.length_nil]at hs;omega
  ·simp[gI,h1,h2,h3]
 ·have hr':=hW'.rows;refine⟨λi j b h1 h2=>hr'.inj i j b (by rw[<- hrow]; exact h1) (by rw[<- hrow]; exact h2),?_,?_,?_,?_⟩
  ·intro j b hj;rw[hrow]at hj;obtain⟨a1,a2,a3,a4⟩:=hr'.sep j b hj;refine⟨a1,hwr b a2,λhg=>?_,λs k hs hf hl=>?_⟩
   ·rcases h21 b hg with h|⟨s,k,z1,z2,z3,_⟩
    ·exact a3 h
    ·exact a4 s k z1 z2 z3
   ·rcases key s k hs with ⟨p1,p2,p3,p4⟩|⟨p1,rfl⟩|⟨p1,r,k0,p2⟩
    ·rw[(l0 s p1).1]at hl;exact(hold s k b p3 p4 hl).2 a2
    ·subst p1; rw[l1.1]at hl; cases hl
    ·subst p1; subst p2;rw[l2.1]at hl;exact a4 r k0 (hos.at_ r k0 k rfl).1 (hos.at_ r k0 k rfl).2.2.1 hl
  ·intro j b hj;rw[hrow]at hj;exact hr'.cel j b hj
  ·intro s k t1 l1' hs hg ht;rcases key s k hs with ⟨p1,p2,p3,p4⟩|⟨p1,rfl⟩|⟨p1,r,k0,p2⟩
   ·exact absurd (hW.rows.one s ra k _ t1 l1' t A p3 hg ht har rfl rfl) p2
   ·cases ht;subst p1;obtain⟨_,a2,a3⟩:=hr'.arn rb _ t B hrb rfl rfl;refine⟨l1.1,λj hj=>by rw[hrow]; exact a2 j hj,λj row hj=>?_⟩;rcases a3 j row hj with h|⟨b,z1,z2⟩
    ·exact .inl h
    ·have m12:Mono w' G1 aF w' G2 aF:=⟨λb hb=>⟨h12 b hb,rfl⟩,λ_ _ h=>h,λ_ _ h=>h,λ_ _ h=>h,λj b hj=>by rw[hrow]; exact hj,λ_ _ _=>rfl⟩;exact .inr ⟨b,by rw[hrow]; exact z1,z2.mono m12 rfl⟩
   ·subst p2;rw[(hos.at_ r k0 k rfl).2.1]at hg; cases hg
  ·have only:∀ (s:Nat) (k:Blk) (t1:Ty) (l1':List (List t1.den)),(((B1 ow H).set ra none)++(some (arB ae t B)::aFI os))[s]?=some (some k)->k.grown=false->k.tag=some ⟨.rows t1,l1'⟩->s=H.length:=by
    intro s k t1 l1' hs hg ht;rcases key s k hs with ⟨p1,p2,p3,p4⟩|⟨p1,_⟩|⟨p1,r,k0,p2⟩
    ·exact absurd (hW.rows.one s ra k _ t1 l1' t A p3 hg ht har rfl rfl) p2
    ·exact p1
    ·subst p2;rw[(hos.at_ r k0 k rfl).2.1]at hg; cases hg
   intro r s k k' t1 l1' t2 l2' h1 g1 t1' h2 g2 t2';rw[only r k t1 l1' h1 g1 t1',only s k' t2 l2' h2 g2 t2']
end
theorem OA:∀ ts x,bU.noRefs (GQ ts x)=true
 | [],_=>rfl
 | t::r,(x,xs)=>by simp only[GQ,bU.noRefs,bU,OA r xs,Bool.and_self]
theorem aDJ:∀ k x r,ME (k::r)=true->bU (qB k x 0)=true/\ME r=true
 | .int _,_,_,h=>⟨rfl,h⟩
 | .bool,_,_,h=>⟨rfl,h⟩
 | .str,_,_,h=>⟨rfl,h⟩
 | .list _,_,_,h=>⟨rfl,h⟩
 | .agg t,x,_,h=>⟨vH t x,h⟩
 | .own _ _,_,_,h=>by cases h
 | .box _ _,_,_,h=>by cases h
 | .win _ _,_,_,h=>by cases h
 | .bown _ _ _,_,_,h=>by cases h
 | .bque _ _ _,_,_,h=>by cases h
 | .bag _ _ _ _ _,_,_,h=>by cases h
 | .bag2 _ _ _ _ _ _,_,_,h=>by simp only[ME]at h; grind
 | .ar _ _,_,_,h=>by cases h
 | .hnd _,_,_,h=>⟨rfl,h⟩
 | .mpk _,_,_,h=>⟨rfl,h⟩
 | .ptr t,x,_,h=>⟨rfl,h⟩
 | .fn _,_,_,h=>⟨rfl,h⟩
 | .nil0,_,_,h=>⟨rfl,h⟩
 | .val,_,_,h=>⟨rfl,h⟩
 | .nilI,_,_,h=>⟨rfl,h⟩
 | .clo _ ts,x,_,h=>⟨by simp only[qB,bU,bU.noRefs,OA ts x,Bool.and_self],h⟩
theorem yZ:∀ l x,ME l=true->bU.noRefs (eX l x)=true
 | [],_,_=>rfl
 | k::r,(x,xs),h=>by
  obtain⟨h1,h2⟩:=aDJ k x r h;simp only[eX,bU.noRefs,h1,yZ r xs h2,Bool.and_self]
inductive Tk where
 | none
 | own (e:TypeId) (t:Ty)
@[reducible] def Tk.den:Tk->Type
 | .none=>Unit
 | .own _ t=>List t.den
def Tk.pv:Tk->Nat->List PV
 | .none,_=>[]
 | .own _ t,r=>[.own r t.size]
def Tk.ow:(k:Tk)->k.den->Nat->OwA
 | .none,_,_=>Option.none
 | .own e t,l,r=>some (r,owB e t l)
inductive An where
 | data (l:List Kd)
 | own (e:TypeId) (t:Ty)
 | str (t1:Ty) (e:TypeId) (t:Ty) (t2:Ty)
@[reducible] def An.den:An->Type
 | .data l=>aL l
 | .own _ t=>List t.den
 | .str t1 _ t t2=>t1.den×List t.den×t2.den
def An.pv:(a:An)->a.den->Nat->PV
 | .data l,y,_=>VA l y
 | .own _ t,_,n=>.own n t.size
 | .str t1 _ t t2,y,n=>.tuple [.agg (enc t1 y.1++.own n t.size::enc t2 y.2.2),.lit (.bool true)]
def An.hp:(a:An)->a.den->Heap
 | .data _,_=>[]
 | .own e t,l=>[some (owB e t l)]
 | .str _ e t _,y=>[some (owB e t y.2.1)]
def RY(P:Program) (g:FuncId) (ae:TypeId) (t:Ty) (tk:Tk) (args:List Kd) (an:An) (f:tk.den->aL args->List (List t.den)->Option (an.den×List (List t.den))):Prop :=
 ∀ l x A y B,f l x A=some (y,B)->∀ {n0 G μ H w us ra r},aM n0 G μ H w->H[ra]?=some (some (arB ae t A))->aI1 H (tk.ow l r)->VRs w G μ (tk.pv r++eX args x) us ->
  lN P n0 w G μ g us.toArray (an.pv y (H.length+1)) (((B1 (tk.ow l r) H).set ra none)++(some (arB ae t B)::an.hp y))
def aKM(ae:TypeId) (t:Ty) (H:Heap):Option (Nat×List (List t.den)):=match JJ 0 H with
 | some (r,k)=>match k.tag with
  | some g=>match qM g.t (.rows t) g.l with
   | some l=>bif Nat.beq k.ty ae&&!k.frozen then some (r,l) else none
   | none=>none
  | none=>none
 | none=>none
def aU7(e:TypeId)(t:Ty)(H:Heap):PV->Option (List t.den)
 | .own r sz=>p7 e t (.own r sz) H r
 | .win r lo n sz=>bif Nat.beq lo 0 then match p7 e t (.own r sz) H r with
  | some l=>some (l.take n)
  | none=>none
  else none
 | _=>none
def aU5(t1:Ty) (e:TypeId) (t:Ty) (t2:Ty) (H:Heap):PV->Option (t1.den×List t.den×t2.den)
 | .tuple [.agg cs,.lit (.bool true)]=>match cs.drop t1.size with
  | .own r sz::rest=>match p7 e t (.own r sz) H r with
   | some l=>match inl false (H.set r none) depth (.agg (cs.take t1.size++rest))with
    | some (.agg ds)=>match dec (.prod t1 t2) ds with
     | some x=>some (x.1,l,x.2)
     | none=>none
    | _=>none
   | none=>none
  | _=>none
 | _=>none
def aAQ:(an:An)->PV->Heap->Option an.den
 | .data l,q,H=>match inl false H depth q with
  | some q'=>V5 l q'
  | none=>none
 | .own e t,q,H=>aU7 e t H q
 | .str t1 e t t2,q,H=>aU5 t1 e t t2 H q
def aQ6(P:Program)(rs:List ResultVar)(ae:TypeId)(t:Ty)(an:An)(ex:Ex)(F:Frm)(H:Heap):Option (an.den×List (List t.den)):=match ex with
 | .exit _=>none
 | _=>match jF P F H rs with
  | some vs=>match aKM ae t H with
   | some B=>match aAQ an (cG vs) H with
    | some y=>some (y,B.2)
    | none=>none
   | none=>none
  | none=>none
def TO(P:Program)(E:Env)(fn:Func)(aU:Nat)(lt:Nat->Option bT)(c:Code)(ae:TypeId)(t:Ty)(tk:Tk) args (an:An)(l:tk.den)(x:aL args)(A:List (List t.den)):Option (an.den×List (List t.den)) :=
 bif Nat.ble (tk.pv 0++eX args x).length fn.ntmps then jO P E fn.ntmps aU lt c (start aU 0 (tk.pv 0++eX args x)) (xJ (tk.ow l 0)++[some (arB ae t A)]) (aQ6 P fn.results.toList ae t an) else none
section
variable {P:Program} {n0:Nat->Prop} {w w':World} {G G1 G2:Gd} {μ μ2:Mp} {H H':Heap} {ae:TypeId} {t:Ty} {A B:List (List t.den)}
theorem K6(hW:aM n0 G μ H w){p}(h:aKM ae t H=some p):H[p.1]?=some (some (arB ae t p.2)):=by
 unfold aKM at h;split at h
 ·rename_i r k hk;obtain⟨h1,h2⟩:=DV hk;split at h
  ·rename_i g hg;split at h
   ·rename_i l hc;obtain⟨hb,h⟩:=aG h;simp only[oA]at hb;simp only[oJ]at h;subst h;have hb3:=oE hb.1;have ht:=(hW.tags r k g h1 hg).1;have hge:=aDI hc;obtain⟨k1,k2,k3,k4,k5⟩:=k;grind
   grind
  grind
 grind
theorem VG(hW:aM n0 G μ H w) {e:TypeId} {u:Ty} {p:PV} {l:List u.den} {v:Value} (h:aU7 e u H p=some l) (hv:VR w G μ p v) :
  ∃ r l0,aP9 H (some (r,owB e u l0,owB e u l))/\∀ G2 μ3 n,μ3.loc n=μ.loc r->μ3.len n=some l.length->μ3.sh n=μ.sh r->VR w G2 μ3 (.own n u.size) v:=by
 have key:∀ (l0:List u.den) (r m:Nat),H[r]?=some (some (owB e u l0))->aP9 H (some (r,owB e u l0,owB e u (l0.take m))):=λl0 r m h0=>⟨λr' k k' he=>by
  cases he;exact⟨h0,rfl,rfl,rfl,rfl,⟨u,l0.take m⟩,m*u.size,rfl,rfl,(gV u m l0).symm⟩⟩
 unfold aU7 at h;split at h
 ·rename_i r sz;obtain⟨h1,h2⟩:=fS hW h;cases h1;refine⟨r,l,by have:=key l r l.length h2; rwa[List.take_length]at this,λG2 μ3 n q1 q2 q3=>?_⟩;obtain⟨m,a1,a2⟩:=hv;have:=(hW.tags r _ _ h2 rfl).2;rw[this]at a1;cases a1;refine⟨_,q2,?_⟩;grind
 ·rename_i r lo n sz;obtain⟨hb,h⟩:=aG h;have hb:=oE hb;subst hb;split at h
  ·rename_i l0 hl0;obtain rfl:=oB h;obtain⟨h1,h2⟩:=fS hW hl0;cases h1;refine⟨r,l0,key l0 r n h2,λG2 μ3 m q1 q2 q3=>?_⟩;obtain⟨b,c,m',a1,a2,a3,a4,a5,a6,a7⟩:=hv;have:=(hW.tags r _ _ h2 rfl).2;rw[this]at a5;cases a5;refine⟨n,by rw[q2,List.length_take]; change 0+n<=l0.length at a6; congr 1; omega,.inr ⟨b,c,by rw[q1]; exact a1,by rw[a2,q3,Nat.zero_mul]; rfl,a3,?_,by rw[q3]; exact a7.2⟩⟩;grind
  ·cases h
 ·cases h
theorem SJ(hW:aM n0 G μ H w) {t1 t2 u:Ty} {e:TypeId} {q:PV} {y:t1.den×List u.den×t2.den} {v:Value} (h:aU5 t1 e u t2 H q=some y) (hv:VR w G μ q v) :
  ∃ r,aP9 H (some (r,owB e u y.2.1,owB e u y.2.1))/\∀ G2:Gd,(∀ j b,G.row j=some b->G2.row j=some b)->(∀ b,G b->G2 b)->(∀ s k b,H[s]?=some (some k)->k.frozen=false->s≠r->μ.loc s=some b->G2 b) ->
   ∀ μ3 n,μ3.loc n=μ.loc r->μ3.len n=some y.2.1.length->μ3.sh n=μ.sh r->VR w G2 μ3 ((An.str t1 e u t2).pv y n) v:=by
 unfold aU5 at h;split at h
 ·rename_i cs;split at h
  ·rename_i r sz rest hd;split at h
   ·rename_i l hl;split at h
    ·rename_i ds hds;split at h
     ·rename_i x hx;obtain rfl:=oB h;obtain⟨h1,h2⟩:=fS hW hl;cases h1;refine⟨r,⟨λr' k k' he=>by
       cases he;exact⟨h2,rfl,rfl,rfl,rfl,⟨u,l⟩,l.length*u.size,rfl,rfl,by have:=(gV u l.length l).symm; rwa[List.take_length]at this⟩⟩,λG2 hR hG hB μ3 n q1 q2 q3=>?_⟩
      show VR w G2 μ3 (.tuple [.agg (enc t1 x.1++.own n u.size::enc t2 x.2),.lit (.bool true)]) v;rw[VR]at hv ⊢;obtain⟨vs,e1,e2⟩:=hv;refine⟨vs,e1,?_⟩;rw[VRs]at e2 ⊢;obtain⟨v1,vs1,g1,g2,g3⟩:=e2;refine⟨v1,vs1,g1,?_,?_⟩
      ·rw[VR]at g2 ⊢;obtain⟨us,f1,f2⟩:=g2;refine⟨us,f1,?_⟩;have p1:=f2.take t1.size;have p2:=f2.drop t1.size;rw[hd,VRs]at p2;obtain⟨vo,vr,k1,k2,k3⟩:=p2;have hag:VR w G μ (.agg (cs.take t1.size++rest)) (.agg (us.toList.take t1.size++vr).toArray):=by
        rw[VR];exact⟨_,rfl,by simpa using VRs.append p1 k3⟩
       have hq:=tA (jJ hW r) hR hG (λs k1 b hs _ hb=>by
        obtain⟨hs,hne⟩:=jU hs;cases hf:k1.frozen with
        | true =>
         obtain⟨_,_,_,_,g5,_⟩:=hW.blk s k1 b hs hb;exact hG b (g5 hf)
        | false=>exact hB s k1 b hs hf hne hb) depth _ _ _ hds hag
       rw[VR]at hq;obtain⟨us2,f3,f4⟩:=hq;obtain rfl:(us.toList.take t1.size++vr).toArray=us2:=by injection f3
       have p3:=lR (.prod t1 t2) _ ds x _ hx f4;rw[show enc (.prod t1 t2) x=enc t1 x.1++enc t2 x.2 from rfl]at p3;have hlen:(us.toList.take t1.size).length=t1.size:=by
        have a1:=f2.length;have a2:=oZ List.length hd;simp only[List.length_drop,List.length_cons]at a2;rw[List.length_take];omega
       have p4:=p3.take t1.size;have p5:=p3.drop t1.size;rw[List.take_left' (fX t1 x.1),List.take_left' hlen]at p4;rw[List.drop_left' (fX t1 x.1),List.drop_left' hlen]at p5;rw[<- List.take_append_drop t1.size us.toList,k1];refine VRs.append p4.aP ?_;rw[VRs];refine⟨vo,vr,rfl,?_,p5.aP⟩;obtain⟨m,a1,a2⟩:=k2;have:=(hW.tags r _ _ h2 rfl).2;rw[this]at a1;cases a1;refine⟨_,q2,?_⟩;grind
      ·rw[VRs]at g3 ⊢;obtain⟨b,bs,f1,f2,f3⟩:=g3;rw[VR]at f2;rw[VRs]at f3;exact⟨b,bs,f1,by rw[VR]; exact f2,by rw[VRs]; exact f3⟩
     ·cases h
    ·cases h
   ·cases h
  ·cases h
 ·cases h
theorem aJG {α:Type 1}{b x}{y:α}(h:(bif b then x else none)=some y):b=true/\x=some y:=by grind
theorem OD {E:Env} (hP:tW P) (hE:fC P E) {g:Nat} {fn:Func} (hg:P.funcs[g]?=some fn) {c:Code} (hc:fn.body=some c) {aU:Nat} {lt:Nat->Option bT} {ae:TypeId} {t:Ty} {tk:Tk} {args:List Kd} {an:An} {f:tk.den->aL args->List (List t.den)->Option (an.den×List (List t.den))}
  (hd:ME args=true) (hl:∀ a∈bI c,∀ s,lt (aO a)=some s->fJ P fn.ntmps a s) (hb:∀ l x A,TO P E fn aU lt c ae t tk args an l x A=f l x A):RY P g ae t tk args an f:=by
 intro l x A y B hy n0 G μ H w us ra r hW har ho hv;rw[<- hb]at hy;obtain⟨hlen,hy⟩:=aG hy;obtain⟨⟨ex,F',H'⟩,h1,h2⟩:=fL hE.callee hP.mixed c _ _ _ _ hl hy;obtain⟨vs,B',hex,hvs,hB,hq,rfl⟩:∃ vs B',(ex=.normal\/ex=.ret)/\jF P F' H' fn.results.toList=some vs/\aKM ae t H'=some B'/\aAQ an (cG vs) H'=some y/\B'.2=B:=by
  unfold aQ6 at h1;split at h1
  ·cases h1
  ·rename_i hne;split at h1
   ·rename_i vs hvs;split at h1
    ·rename_i B' hB;split at h1
     ·rename_i y' hy';simp only[oJ,oP]at h1;obtain⟨rfl,h1⟩:=h1;refine⟨vs,B',?_,hvs,hB,hy',h1⟩;cases ex with
      | normal=>exact .inl rfl
      | ret=>exact .inr rfl
      | exit i=>exact absurd rfl (hne i)
     ·cases h1
    ·cases h1
   ·cases h1
 have hargs:VRs w G (mpA μ (tk.ow l r) A.length) (tk.pv 0++eX args x) us:=by
  have hn:=yZ args x hd;cases tk with
  | none=>exact VRs.aP (bG _ _ hn hv)
  | own e u =>
   change VRs w G μ (.own r u.size::eX args x) us at hv;change VRs w G _ (.own 0 u.size::eX args x) us;rw[VRs]at hv ⊢;obtain⟨v,us',rfl,q1,q2⟩:=hv;refine⟨v,us',rfl,?_,VRs.aP (bG _ _ hn q2)⟩;rw[VR]at q1 ⊢;exact q1
 have howb:xJ (tk.ow l 0)=xJ (tk.ow l r):=by cases tk <;> rfl
 have hW1:=LU hW ho har;rw[<- howb]at hW1;have e0:Ext (wrA w G μ (tk.ow l r)) w G aF w G (mpA μ (tk.ow l r) A.length) :=
  ⟨⟨λb hb=>⟨hb,rfl⟩,λ_ _ h=>(by cases h),λ_ _ h=>(by cases h),λ_ _ h=>h,λ_ _ h=>h,λ_ _ h=>(by cases h)⟩,rfl,rfl,rfl,oM _,λ_ _ _=>rfl,λ_ h=>.inl h⟩
 refine⟨enters hg (hP.names g fn hg) (by rw[hc]; rfl) _ _,calls_of_wp hg hc ?_⟩;have hI:I (wrA w G μ (tk.ow l r)) w G aF fn.ntmps (start aU 0 (tk.pv 0++eX args x)) (xJ (tk.ow l 0)++[some (arB ae t A)]) ⟨us.toArray++Array.replicate (fn.ntmps-us.toArray.size) undef,[]⟩ w :=
  ⟨G,_,e0,hW1,lB (by simpa using hargs) (oL hlen)⟩
 refine wp_mono (h2 _ w G aF _ w (λr=>⟨rfl,rfl⟩) hI) ?_;rintro e1 a' w' ⟨rfl,G1,μ1,ee,hW',hF'⟩;obtain⟨ws,h3,h4⟩:=gH (P:=P) hW' hF' hvs;have hres:(results fn a'.tmps).run P w'=.ok (if hh:ws.toArray.size=1 then ws.toArray[0] else .tuple ws.toArray) w':=by
  rw[mR,Array.mapM_eq_mapM_toList];simp only[Sem.run_bind,Sem.run_map,h3,Result.andThen_ok,Sem.run_pure]
 have hrb:=K6 hW' hB;obtain⟨G2,μ3,b1,b2,b3⟩:∃ G2 μ3,Ext n0 w G μ w' G2 μ3/\aM n0 G2 μ3 (((B1 (tk.ow l r) H).set ra none)++(some (arB ae t B'.2)::an.hp y)) w'/\VR w' G2 μ3 (an.pv y (H.length+1)) (if hh:ws.toArray.size=1 then ws.toArray[0] else .tuple ws.toArray):=by
  have hvr:=iH h4;cases an with
  | data rets =>
   simp only[aAQ]at hq;split at hq
   ·rename_i q hq';have hb:=I1 (G2:=⟨λb=>G1 b\/∃ s k,H'[s]?=some (some k)/\k.frozen=false/\μ1.loc s=some b,G1.row⟩) hW ho har ee hW' hrb (os:=none) ⟨λ_ _ _ h=>by cases h⟩ (λ_=>rfl) (λb hb=>.inl hb) (λb hb=>by
     rcases hb with h|⟨s,k,z1,z2,z3⟩
     ·exact .inl h
     ·exact .inr ⟨s,k,z1,z2,z3,λ_ _ _ h=>by cases h⟩)
    refine⟨_,_,hb.1,hb.2,?_⟩;have:=tA (G':=⟨λb=>G1 b\/∃ s k,H'[s]?=some (some k)/\k.frozen=false/\μ1.loc s=some b,G1.row⟩) hW' (λ_ _ h=>h) (λb hb=>.inl hb) (λs k1 b hs _ hb=>by
     obtain⟨_,_,_,_,g5,_⟩:=hW'.blk s k1 b hs hb;cases hf:k1.frozen with
     | true=>exact .inl (g5 hf)
     | false=>exact .inr ⟨s,k1,hs,hf,hb⟩) depth _ q _ hq' hvr
    exact(BW hq this).aP
   ·cases hq
  | own e u =>
   simp only[aAQ]at hq;obtain⟨r1,l0,hos,hvv⟩:=VG hW' hq hvr;have hb:=I1 (G2:=G1) hW ho har ee hW' hrb hos (λ_=>rfl) (λb hb=>hb) (λb hb=>.inl hb);refine⟨_,_,hb.1,hb.2,hvv _ _ _ ?_ ?_ ?_⟩
   ·have h1:¬ H.length+1<H.length:=by omega
    simp[gI,h1,aIX]
   ·have h1:¬ H.length+1<H.length:=by omega
    simp[gI,h1,aG7]
   ·have h1:¬ H.length+1<H.length:=by omega
    simp[gI,h1,shS]
  | str t1 e u t2 =>
   simp only[aAQ]at hq;obtain⟨r1,hos,hvv⟩:=SJ hW' hq hvr;have hb:=I1 (G2:=⟨λb=>G1 b\/∃ s k,H'[s]?=some (some k)/\k.frozen=false/\μ1.loc s=some b/\s≠r1,G1.row⟩) hW ho har ee hW' hrb hos (λ_=>rfl) (λb hb=>.inl hb) (λb hb=>by
    rcases hb with h|⟨s,k,z1,z2,z3,z4⟩
    ·exact .inl h
    ·exact .inr ⟨s,k,z1,z2,z3,λ_ _ _ h=>by cases h; exact z4⟩)
   refine⟨_,_,hb.1,hb.2,hvv ⟨λb=>G1 b\/∃ s k,H'[s]?=some (some k)/\k.frozen=false/\μ1.loc s=some b/\s≠r1,G1.row⟩ (λ_ _ h=>h) (λb hb=>.inl hb) (λs k b z1 z2 z3 z4=>.inr ⟨s,k,z1,z2,z4,z3⟩) _ _ ?_ ?_ ?_⟩
   ·have h1:¬ H.length+1<H.length:=by omega
    simp[gI,h1,aIX]
   ·have h1:¬ H.length+1<H.length:=by omega
    simp[gI,h1,aG7]
   ·have h1:¬ H.length+1<H.length:=by omega
    simp[gI,h1,shS]
 have hpost:a'.defers=[]/\∃ v,(results fn a'.tmps).run P w'=.ok v w'/\(∃ v' G'' μ'',Ending.returned v=.returned v'/\Ext n0 w G μ w' G'' μ''/\aM n0 G'' μ'' (((B1 (tk.ow l r) H).set ra none)++(some (arB ae t B'.2)::an.hp y)) w'/\VR w' G'' μ'' (an.pv y (H.length+1)) v') :=
  ⟨hF'.defers,_,hres,_,G2,μ3,rfl,b1,b2,b3⟩
 rcases hex with rfl|rfl
 ·exact hpost
 ·exact hpost
def aSJ(P:Program) (E:Env) (fn:Func) (aU:Nat) (lt:Nat->Option bT) (c:Code) (ae:TypeId) (t:Ty) (args rets:List Kd) (x:aL args):Option (aL rets) :=
 bif Nat.ble (eX args x).length fn.ntmps then jO P E fn.ntmps aU lt c (start aU 0 (eX args x)) [some (arB ae t [])] (NV P fn.results.toList rets) else none
theorem aWP {E} (hP:tW P) (hE:fC P E) {g:Nat} {fn} (hg:P.funcs[g]?=some fn) {c} (hc:fn.body=some c) {aU lt ae t args rets f}
  (hl:∀ a∈bI c,∀ s,lt (aO a)=some s->fJ P fn.ntmps a s) (hb:∀ x,aSJ P E fn aU lt c ae t args rets x=f x):wO P g args rets f:=by
 intro x y hy;rw[<- hb]at hy;obtain⟨hlen,hy⟩:=aG hy;obtain⟨⟨ex,F',H'⟩,h1,h2⟩:=fL hE.callee hP.mixed c _ _ _ _ hl hy;obtain⟨vs,q,hex,hvs,hq,hd⟩:∃ vs q,(ex=.normal\/ex=.ret)/\jF P F' H' fn.results.toList=some vs/\ZJ H' (cG vs)=some q/\V5 rets q=some y:=by
  unfold NV at h1;split at h1
  ·cases h1
  ·rename_i hne;split at h1
   ·rename_i vs hvs;split at h1
    ·rename_i q hq;refine⟨vs,q,?_,hvs,hq,h1⟩;cases ex with
     | normal=>exact .inl rfl
     | ret=>exact .inr rfl
     | exit i=>exact absurd rfl (hne i)
    ·cases h1
   ·cases h1
 obtain⟨hq1,hq2⟩:=pP hq;intro w G us hlt hv;have at0:∀ (s:Nat) (k1:Blk),([some (arB ae t [])]:Heap)[s]?=some (some k1)->s=0/\k1=arB ae t []:=by grind
 have hW:aM (nO w) (Gd.of G) ⟨λ_=>none,λr=>if r=0 then some 0 else none,λ_=>0⟩ [some (arB ae t [])] w:=by
  refine⟨(λr k b h hb=>by cases hb),(λr k g h hg=>?_),(λr s k l b h _ _ _ hb=>by cases hb),hlt,(λr hr=>⟨rfl,?_⟩),λ_ h=>h,⟨(λ_ _ _ h=>by cases h),(λ_ _ h=>by cases h),(λ_ _ h=>by cases h),(λr k u l h hgr ht=>?_),(λr s k k' u l u' l' h1 g1 t1 h2 g2 t2=>by rw[(at0 r k h1).1,(at0 s k' h2).1])⟩⟩
  ·obtain⟨rfl,rfl⟩:=at0 r k h;cases hg;grind
  ·grind
  ·obtain⟨rfl,rfl⟩:=at0 r k h;cases ht;exact⟨rfl,λ_ _=>rfl,λj row hj=>by simp at hj⟩
 have e0:Ext (nO w) w (Gd.of G) aF w (Gd.of G) ⟨λ_=>none,λr=>if r=0 then some 0 else none,λ_=>0⟩ :=
  ⟨⟨λb hb=>⟨hb,rfl⟩,λ_ _ h=>(by cases h),λ_ _ h=>(by cases h),λ_ _ h=>h,λ_ _ h=>h,λ_ _ h=>(by cases h)⟩,rfl,rfl,rfl,oM _,λ_ _ _=>rfl,λ_ h=>.inl h⟩
 refine⟨enters hg (hP.names g fn hg) (by rw[hc]; rfl) _ _,calls_of_wp hg hc ?_⟩;have hI:I (nO w) w (Gd.of G) aF fn.ntmps (start aU 0 (eX args x)) [some (arB ae t [])] ⟨us++Array.replicate (fn.ntmps-us.size) undef,[]⟩ w:=⟨Gd.of G,_,e0,hW,lB hv.aP (oL hlen)⟩;refine wp_mono (h2 _ w (Gd.of G) aF _ w (λr=>⟨rfl,rfl⟩) hI) ?_;rintro e a' w' ⟨rfl,G1,μ1,e1,e2,hF'⟩;obtain⟨ws,h3,h4⟩:=gH (P:=P) e2 hF' hvs;have hres:(results fn a'.tmps).run P w'=.ok (if hh:ws.toArray.size=1 then ws.toArray[0] else .tuple ws.toArray) w':=by
  rw[mR,Array.mapM_eq_mapM_toList];simp only[Sem.run_bind,Sem.run_map,h3,Result.andThen_ok,Sem.run_pure]
 have hval:=xI (G:=⟨λb=>G1 b\/∃ r k,H'[r]?=some (some k)/\μ1.loc r=some b,G1.row⟩) (G':=Gd.of λb=>G1 b\/∃ r k,H'[r]?=some (some k)/\μ1.loc r=some b) (λb h=>h) _ _ _ hq2
   (tA (G':=⟨λb=>G1 b\/∃ r k,H'[r]?=some (some k)/\μ1.loc r=some b,G1.row⟩) e2 (λ_ _ h=>h) (λb hb=>.inl hb) (λr k b hr _ hb=>.inr ⟨r,k,hr,hb⟩) depth _ q _ hq1 (iH h4))
 have hext:Ext (nO w) w (Gd.of G) aF w' (Gd.of λb=>G1 b\/∃ r k,H'[r]?=some (some k)/\μ1.loc r=some b) aF:={
  bS:=λb hb=>⟨.inl (e1.bS b hb).1,(e1.bS b hb).2⟩
  map:=λ_ _ h=>h
  len:=λ_ _ h=>h
  room:=e1.room
  row:=λ_ _ h=>h
  os:=e1.os
  tape:=e1.tape
  output:=e1.output
  size:=e1.size
  old:=e1.old
  new:=λb hb=>by
   rcases hb with hb|⟨r,k,hr,hb⟩
   ·exact e1.new b hb
   ·obtain⟨c,_,_,_,g5,g6⟩:=e2.blk r k b hr hb;cases hf:k.frozen with
    | true=>exact e1.new b (g5 hf)
    | false=>exact .inr (g6 hf).1 }
 have hlt':∀ b,(G1 b\/∃ r k,H'[r]?=some (some k)/\μ1.loc r=some b)->b<w'.heap.size:=by
  rintro b (hb|⟨r,k,hr,hb⟩)
  ·exact e2.lt b hb
  ·exact e2.hZ hr hb
 have hpost:a'.defers=[]/\∃ v,(results fn a'.tmps).run P w'=.ok v w'/\(∃ v' G',Ending.returned v=.returned v'/\Ext (nO w) w (Gd.of G) aF w' (Gd.of G') aF/\(∀ b,G' b->b<w'.heap.size)/\VR w' (Gd.of G') aF (VA rets y) v') :=
  ⟨hF'.defers,_,hres,_,_,rfl,hext,hlt',BW hd hval⟩
 rcases hex with rfl|rfl
 ·exact hpost
 ·exact hpost
def aBR(e:TypeId)(t:Ty)(H:Heap):List PV->Option (List t.den×Nat×List PV)
 | .own r sz::ps=>match p7 e t (.own r sz) H r with
  | some l=>some (l,r,ps)
  | none=>none
 | _=>none
def Tk.dec:(tk:Tk)->List PV->Heap->Option (tk.den×Nat×List PV)
 | .none,qs,_=>some ((),0,qs)
 | .own e t,qs,H=>aBR e t H qs
theorem P9(hW:aM n0 G μ H w){e u qs l r ps}(h:aBR e u H qs=some (l,r,ps)):H[r]?=some (some (owB e u l))/\qs=.own r u.size::ps:=by
 unfold aBR at h;split at h
 ·split at h
  ·rename_i l1 hl1;obtain⟨g1,g2⟩:=fS hW hl1;grind
  grind
 grind
theorem Tk.aIZ (hW:aM n0 G μ H w){tk:Tk}{qs l r ps}(h:tk.dec qs H=some (l,r,ps)):aI1 H (tk.ow l r)/\qs=tk.pv r++ps:=by
 cases tk with
 | none =>
  obtain⟨_,_,rfl⟩:=h;exact⟨⟨λ_ _ h=>by cases h⟩,rfl⟩
 | own e u =>
  obtain⟨h1,h2⟩:=P9 hW h;refine⟨⟨λr' k he=>?_⟩,h2⟩;cases he;grind
def arH(ae:TypeId) (t:Ty) (tk:Tk) (args:List Kd) (an:An) (f:tk.den->aL args->List (List t.den)->Option (an.den×List (List t.den))) (qs:List PV) (H:Heap):Option RK:=match tk.dec qs H with
 | some (l,r,ps)=>match aKM ae t H with
  | some (ra,A)=>match TX args ps with
   | some x=>bif bU.noRefs ps then some ⟨an.den×List (List t.den),f l x A,λy=>(an.pv y.1 (H.length+1),((B1 (tk.ow l r) H).set ra none)++(some (arB ae t y.2)::an.hp y.1))⟩ else none
   | none=>none
  | none=>none
 | none=>none
theorem OM {g tk args an f}(hf:RY P g ae t tk args an f) :
  ∀ qs H r,arH ae t tk args an f qs H=some r->∀ y,r.val=some y->∀ {n0 G μ w vs},aM n0 G μ H w->VRs w G μ qs vs->lN P n0 w G μ g vs.toArray (r.out y).1 (r.out y).2:=by
 intro qs H rh h y hy n0 G μ w vs hW hv;unfold arH at h;split at h
 ·rename_i l r ps hl;split at h
  ·rename_i ra A hA;split at h
   ·rename_i x hx;obtain⟨hb,h⟩:=aJG h;simp only[oJ]at h;subst h;obtain⟨ho,rfl⟩:=Tk.aIZ hW hl;have hv':VRs w G μ (tk.pv r++eX args x) vs:=by
     cases tk with
     | none=>exact(uK args hx (bG _ _ hb hv)).aP
     | own e u =>
      obtain⟨v,us,rfl,q1,q2⟩:=hv;exact⟨v,us,rfl,q1,(uK args hx (bG _ _ hb q2)).aP⟩
    obtain⟨y1,y2⟩:=y;exact hf l x A y1 y2 hy hW (K6 hW hA) ho hv'
   grind
  grind
 grind
end
open Go Go.RowKit Go.Proofs Tryz
set_option maxHeartbeats 4000000
def bC(x:aL [.str]):oK [.bool,.str]:=match x with
 | (v0,()) =>
  bif ltI 0 (v0.size:Int) then
   bif aN 0 v0.size then bif eqI (VS v0 0) 45 then
    bif Nat.ble 1 v0.size then bif Nat.ble v0.size v0.size then some (true,(v0.extract 1 v0.size),()) else none else none
   else some (false,v0,()) else none
  else some (false,v0,())
abbrev Z2:Ent:=⟨108,_,_,bC⟩
theorem lW:Ent.OK tP Z2:=oI (aQ oW) func108 (by kernel_rfl) (by rintro⟨v0,⟨⟩⟩; kernel_rfl)
def aA(x:aL [.bool,.str]):oK [.str]:=match x with
 | (v0,v1,()) =>
  bif v0 then
   bif !(eqS v1 (ByteArray.mk #[48])) then
    bif Nat.ble ((ByteArray.mk #[45]).size+v1.size) 9223372036854775807 then some (((ByteArray.mk #[45])++v1),()) else none
   else some (v1,())
  else some (v1,())
abbrev aEJ:Ent:=⟨114,_,_,aA⟩
theorem uU:Ent.OK tP aEJ:=oI (aQ oW) func114 (by kernel_rfl) (by rintro⟨v0,v1,⟨⟩⟩; kernel_rfl)
def jP(x:aL [.str,.int .i64]):oK [.int .i64,.bool]:=match x with
 | (v0,v1,()) =>
  bif ltI v1 (v0.size:Int) then
   some (0,false,())
  else aB (sJ (v0,())) λy1 =>
  some (y1.1,true,())
abbrev WO:Ent:=⟨110,_,_,jP⟩
theorem vG:Ent.OK tP WO:=oI (aQ (oV PN oW)) func110 (by kernel_rfl) (by rintro⟨v0,v1,⟨⟩⟩; kernel_rfl)
def gT(x:aL [.int .i64]):oK [.str]:=match x with
 | (v0,()) =>
  aB (kY (v0,())) λy1 =>
  some (y1.1,())
abbrev XN:Ent:=⟨97,_,_,gT⟩
theorem tU:Ent.OK tP XN:=oI (aQ (oV D3 oW)) func97 (by kernel_rfl) (by rintro⟨v0,⟨⟩⟩; kernel_rfl)
def uD(x:aL [.str]):oK [.int .i64,.bool]:=match x with
 | (v0,()) =>
  aB (l7 (v0,10,64,())) λy1 =>
  some (y1.1,true,())
abbrev N8:Ent:=⟨91,_,_,uD⟩
theorem GF:Ent.OK tP N8:=oI (aQ (oV HT oW)) func91 (by kernel_rfl) (by rintro⟨v0,⟨⟩⟩; kernel_rfl)
def rH(x:aL [.str]):oK [.int .i64]:=match x with
 | (v0,()) =>
  bif eqS v0 (ByteArray.mk #[48]) then
   some (0,())
  else bif aN 0 v0.size then bif eqI (VS v0 0) 45 then
   some ((-1),())
  else some (1,()) else none
abbrev RF:Ent:=⟨87,_,_,rH⟩
theorem HZ:Ent.OK tP RF:=oI (aQ oW) func87 (by kernel_rfl) (by rintro⟨v0,⟨⟩⟩; kernel_rfl)
def nX(x:aL [.int .u64]):oK [.str]:=match x with
 | (v0,()) =>
  aB (kJ (v0,10,())) λy1 =>
  some (y1.1,())
abbrev wR:Ent:=⟨136,_,_,nX⟩
theorem tX:Ent.OK tP wR:=oI (aQ (oV FC oW)) func136 (by kernel_rfl) (by rintro⟨v0,⟨⟩⟩; kernel_rfl)
def rF(x:aL [.str]):oK [.int .u64,.bool]:=match x with
 | (v0,()) =>
  aB (lC (v0,10,64,())) λy1 =>
  some (y1.1,true,())
abbrev UK:Ent:=⟨163,_,_,rF⟩
theorem M6:Ent.OK tP UK:=oI (aQ (oV GK oW)) func163 (by kernel_rfl) (by rintro⟨v0,⟨⟩⟩; kernel_rfl)
def mN(x:aL [.str,.str]):oK [.int .u64,.int .u64,.bool]:=match x with
 | (v0,v1,()) =>
  bif ltI 18 (v0.size:Int) then
   some (0,0,false,())
  else bif ltI 18 (v1.size:Int) then
   some (0,0,false,())
  else aB (rF (v0,())) λy1 =>
  aB (rF (v1,())) λy2 =>
  some (y1.1,y2.1,true,())
abbrev sH:Ent:=⟨135,_,_,mN⟩
theorem rO:Ent.OK tP sH:=oI (aQ (oV M6 oW)) func135 (by kernel_rfl) (by rintro⟨v0,v1,⟨⟩⟩; kernel_rfl)
def cU(x:aL [.str,.str]):oK [.int .i64]:=match x with
 | (v0,v1,()) =>
  bif !(eqI (v0.size:Int) (v1.size:Int)) then
   some ((if (if (-1)<(aH .i64 ((v0.size:Int)-(v1.size:Int))) then (aH .i64 ((v0.size:Int)-(v1.size:Int))) else (-1))<1 then (if (-1)<(aH .i64 ((v0.size:Int)-(v1.size:Int))) then (aH .i64 ((v0.size:Int)-(v1.size:Int))) else (-1)) else 1),())
  else bif ltS v0 v1 then
   some ((-1),())
  else bif !(ltS v0 v1||eqS v0 v1) then
   some (1,())
  else some (0,())
abbrev DL:Ent:=⟨109,_,_,cU⟩
theorem rZ:Ent.OK tP DL:=oI (aQ oW) func109 (by kernel_rfl) (by rintro⟨v0,v1,⟨⟩⟩; kernel_rfl)
def tR(x:aL [.str,.str]):oK [.int .i64]:=match x with
 | (v0,v1,()) =>
  aB (rH (v0,())) λy1 =>
  aB (rH (v1,())) λy2 =>
  bif !(eqI y1.1 y2.1) then
   bif ltI y1.1 y2.1 then
    some ((-1),())
   else some (1,())
  else aB (bC (v0,())) λy3 =>
  aB (bC (v1,())) λy4 =>
  bif y3.1 then
   aB (cU (y4.2.1,y3.2.1,())) λy5 =>
   some (y5.1,())
  else aB (cU (y3.2.1,y4.2.1,())) λy6 =>
  some (y6.1,())
abbrev HB:Ent:=⟨83,_,_,tR⟩
theorem NW:Ent.OK tP HB:=oI (aQ (oV rZ (oV HZ (oV lW oW)))) func83 (by kernel_rfl) (by rintro⟨v0,v1,⟨⟩⟩; kernel_rfl)
def zZ(x:aL [.str]):oK [.str]:=match x with
 | (v0,()) =>
  aB (bC (v0,())) λy1 =>
  bif y1.1 then
   aB (aA (false,y1.2.1,())) λy2 =>
   some (y2.1,())
  else aB (aA (true,y1.2.1,())) λy3 =>
  some (y3.1,())
abbrev TU:Ent:=⟨117,_,_,zZ⟩
theorem J0:Ent.OK tP TU:=oI (aQ (oV uU (oV lW oW))) func117 (by kernel_rfl) (by rintro⟨v0,⟨⟩⟩; kernel_rfl)
def BE(x:aL [.str]):oK [.str]:=match x with
 | (v0,()) =>
  aB (bC (v0,())) λy1 =>
  some (y1.2.1,())
abbrev TQ:Ent:=⟨84,_,_,BE⟩
theorem VU:Ent.OK tP TQ:=oI (aQ (oV lW oW)) func84 (by kernel_rfl) (by rintro⟨v0,⟨⟩⟩; kernel_rfl)
def dG(x:aL [.str,.str]):oK [.str]:=match x with
 | (v0,v1,()) =>
  aB (mN (v0,v1,())) λy1 =>
  bif y1.2.2.1 then aB (nX ((aH .u64 (y1.1+y1.2.1)),())) λy2 =>
  some (y2.1,()) else none
def E0:Code:=cM f112
abbrev M8:Env:=qK [wR,sH]
theorem RJ:fC tP M8:=aQ ⟨tX,rO,trivial⟩
def JZ(id:Nat):Option bT:=none
def J4(id:Nat):Option bT:=none
theorem OW:bP E0=[]:=by kernel_rfl
theorem RL:∀ x,KB tP M8 f112 (j7 f112) JZ J4 E0 [.str,.str] [.str] x=dG x:=by
 rintro⟨v0,v1,⟨⟩⟩
 kernel_rfl
abbrev ZM:Ent:=⟨112,_,_,dG⟩
theorem FZ:Ent.OK tP ZM:=yL aV RJ func112 (c:=E0) (by kernel_rfl) (aU:=j7 f112) (lt:=JZ) (rt:=J4) (gY OW trivial) RL
def bM(x:aL [.str,.str]):oK [.str,.int .i64]:=match x with
 | (v0,v1,()) =>
  aB (cU (v0,v1,())) λy1 =>
  bif ltI y1.1 0 then
   some ((ByteArray.mk #[]),3,())
  else aB (mN (v0,v1,())) λy2 =>
  bif y2.2.2.1 then aB (nX ((aH .u64 (y2.1-y2.2.1)),())) λy3 =>
  some (y3.1,0,()) else none
def FB:Code:=cM f113
abbrev ML:Env:=qK [DL,wR,sH]
theorem R1:fC tP ML:=aQ ⟨rZ,tX,rO,trivial⟩
def J7(id:Nat):Option bT:=none
def JU(id:Nat):Option bT:=none
theorem PA:bP FB=[]:=by kernel_rfl
theorem RW:∀ x,KB tP ML f113 (j7 f113) J7 JU FB [.str,.str] [.str,.int .i64] x=bM x:=by
 rintro⟨v0,v1,⟨⟩⟩
 kernel_rfl
abbrev Z3:Ent:=⟨113,_,_,bM⟩
theorem GC:Ent.OK tP Z3:=yL aV R1 func113 (c:=FB) (by kernel_rfl) (aU:=j7 f113) (lt:=J7) (rt:=JU) (gY PA trivial) RW
def dH(x:aL [.str,.str]):oK [.str]:=match x with
 | (v0,v1,()) =>
  bif !(ltI 18 (aH .i64 ((v0.size:Int)+(v1.size:Int)))) then aB (mN (v0,v1,())) λy1 =>
  aB (nX ((aH .u64 (y1.1*y1.2.1)),())) λy2 =>
  some (y2.1,()) else none
def EK:Code:=cM f146
abbrev NI:Env:=qK [wR,sH]
theorem RI:fC tP NI:=aQ ⟨tX,rO,trivial⟩
def J1(id:Nat):Option bT:=none
def KA(id:Nat):Option bT:=none
theorem PQ:bP EK=[]:=by kernel_rfl
theorem RR:∀ x,KB tP NI f146 (j7 f146) J1 KA EK [.str,.str] [.str] x=dH x:=by
 rintro⟨v0,v1,⟨⟩⟩
 kernel_rfl
abbrev aAD:Ent:=⟨146,_,_,dH⟩
theorem RP:Ent.OK tP aAD:=yL aV RI func146 (c:=EK) (by kernel_rfl) (aU:=j7 f146) (lt:=J1) (rt:=KA) (gY PQ trivial) RR
def kE(x:aL [.str,.str]):oK [.str,.str,.int .i64]:=match x with
 | (v0,v1,()) =>
  bif eqS v1 (ByteArray.mk #[48]) then
   some ((ByteArray.mk #[]),(ByteArray.mk #[]),17,())
  else aB (mN (v0,v1,())) λy1 =>
  bif y1.2.2.1 then bif eqI y1.2.1 0 then none else aB (nX ((aH .u64 (y1.1.tdiv y1.2.1)),())) λy2 =>
  bif eqI y1.2.1 0 then none else aB (nX ((y1.1.tmod y1.2.1),())) λy3 =>
  some (y2.1,y3.1,0,()) else none
def yA:Code:=cM f111
abbrev F8:Env:=qK [wR,sH]
theorem KW:fC tP F8:=aQ ⟨tX,rO,trivial⟩
def D7(id:Nat):Option bT:=none
def EE(id:Nat):Option bT:=none
theorem JR:bP yA=[]:=by kernel_rfl
theorem KO:∀ x,KB tP F8 f111 (j7 f111) D7 EE yA [.str,.str] [.str,.str,.int .i64] x=kE x:=by
 rintro⟨v0,v1,⟨⟩⟩
 kernel_rfl
abbrev RZ:Ent:=⟨111,_,_,kE⟩
theorem KN:Ent.OK tP RZ:=yL aV KW func111 (c:=yA) (by kernel_rfl) (aU:=j7 f111) (lt:=D7) (rt:=EE) (gY JR trivial) KO
def FT(x:aL [.str,.str]):oK [.str]:=match x with
 | (v0,v1,()) =>
  aB (jP (v0,18,())) λy1 =>
  bif y1.2.1 then
   aB (jP (v1,18,())) λy2 =>
   bif y2.2.1 then
    aB (gT ((aH .i64 (y1.1+y2.1)),())) λy3 =>
    some (y3.1,())
   else aB (bC (v0,())) λy4 =>
   aB (bC (v1,())) λy5 =>
   bif y4.1 then
    bif y5.1 then
     aB (dG (y4.2.1,y5.2.1,())) λy6 =>
     aB (aA (y4.1,y6.1,())) λy7 =>
     some (y7.1,())
    else aB (cU (y4.2.1,y5.2.1,())) λy8 =>
    bif ltI y8.1 0 then
     aB (bM (y5.2.1,y4.2.1,())) λy9 =>
     aB (aA (y5.1,y9.1,())) λy10 =>
     some (y10.1,())
    else aB (bM (y4.2.1,y5.2.1,())) λy11 =>
    aB (aA (y4.1,y11.1,())) λy12 =>
    some (y12.1,())
   else bif y5.1 then
    aB (cU (y4.2.1,y5.2.1,())) λy13 =>
    bif ltI y13.1 0 then
     aB (bM (y5.2.1,y4.2.1,())) λy14 =>
     aB (aA (y5.1,y14.1,())) λy15 =>
     some (y15.1,())
    else aB (bM (y4.2.1,y5.2.1,())) λy16 =>
    aB (aA (y4.1,y16.1,())) λy17 =>
    some (y17.1,())
   else aB (dG (y4.2.1,y5.2.1,())) λy18 =>
   aB (aA (y4.1,y18.1,())) λy19 =>
   some (y19.1,())
  else aB (bC (v0,())) λy20 =>
  aB (bC (v1,())) λy21 =>
  bif y20.1 then
   bif y21.1 then
    aB (dG (y20.2.1,y21.2.1,())) λy22 =>
    aB (aA (y20.1,y22.1,())) λy23 =>
    some (y23.1,())
   else aB (cU (y20.2.1,y21.2.1,())) λy24 =>
   bif ltI y24.1 0 then
    aB (bM (y21.2.1,y20.2.1,())) λy25 =>
    aB (aA (y21.1,y25.1,())) λy26 =>
    some (y26.1,())
   else aB (bM (y20.2.1,y21.2.1,())) λy27 =>
   aB (aA (y20.1,y27.1,())) λy28 =>
   some (y28.1,())
  else bif y21.1 then
   aB (cU (y20.2.1,y21.2.1,())) λy29 =>
   bif ltI y29.1 0 then
    aB (bM (y21.2.1,y20.2.1,())) λy30 =>
    aB (aA (y21.1,y30.1,())) λy31 =>
    some (y31.1,())
   else aB (bM (y20.2.1,y21.2.1,())) λy32 =>
   aB (aA (y20.1,y32.1,())) λy33 =>
   some (y33.1,())
  else aB (dG (y20.2.1,y21.2.1,())) λy34 =>
  aB (aA (y20.1,y34.1,())) λy35 =>
  some (y35.1,())
abbrev aF8:Ent:=⟨145,_,_,FT⟩
theorem VY:Ent.OK tP aF8:=oI (aQ (oV FZ (oV rZ (oV GC (oV tU (oV uU (oV vG (oV lW oW)))))))) func145 (by kernel_rfl) (by rintro⟨v0,v1,⟨⟩⟩; kernel_rfl)
def AB(x:aL [.str,.str]):oK [.str]:=match x with
 | (v0,v1,()) =>
  aB (zZ (v1,())) λy1 =>
  aB (FT (v0,y1.1,())) λy2 =>
  some (y2.1,())
abbrev K8:Ent:=⟨115,_,_,AB⟩
theorem JW:Ent.OK tP K8:=oI (aQ (oV VY (oV J0 oW))) func115 (by kernel_rfl) (by rintro⟨v0,v1,⟨⟩⟩; kernel_rfl)
def AE(x:aL [.str,.str]):oK [.str]:=match x with
 | (v0,v1,()) =>
  aB (jP (v0,9,())) λy1 =>
  bif y1.2.1 then
   aB (jP (v1,9,())) λy2 =>
   bif y2.2.1 then
    aB (gT ((aH .i64 (y1.1*y2.1)),())) λy3 =>
    some (y3.1,())
   else aB (bC (v0,())) λy4 =>
   aB (bC (v1,())) λy5 =>
   bif y4.1 then
    bif y5.1 then
     aB (dH (y4.2.1,y5.2.1,())) λy6 =>
     aB (aA (false,y6.1,())) λy7 =>
     some (y7.1,())
    else aB (dH (y4.2.1,y5.2.1,())) λy8 =>
    aB (aA (true,y8.1,())) λy9 =>
    some (y9.1,())
   else bif y5.1 then
    aB (dH (y4.2.1,y5.2.1,())) λy10 =>
    aB (aA (true,y10.1,())) λy11 =>
    some (y11.1,())
   else aB (dH (y4.2.1,y5.2.1,())) λy12 =>
   aB (aA (false,y12.1,())) λy13 =>
   some (y13.1,())
  else aB (bC (v0,())) λy14 =>
  aB (bC (v1,())) λy15 =>
  bif y14.1 then
   bif y15.1 then
    aB (dH (y14.2.1,y15.2.1,())) λy16 =>
    aB (aA (false,y16.1,())) λy17 =>
    some (y17.1,())
   else aB (dH (y14.2.1,y15.2.1,())) λy18 =>
   aB (aA (true,y18.1,())) λy19 =>
   some (y19.1,())
  else bif y15.1 then
   aB (dH (y14.2.1,y15.2.1,())) λy20 =>
   aB (aA (true,y20.1,())) λy21 =>
   some (y21.1,())
  else aB (dH (y14.2.1,y15.2.1,())) λy22 =>
  aB (aA (false,y22.1,())) λy23 =>
  some (y23.1,())
abbrev K2:Ent:=⟨116,_,_,AE⟩
theorem JX:Ent.OK tP K2:=oI (aQ (oV RP (oV tU (oV uU (oV vG (oV lW oW)))))) func116 (by kernel_rfl) (by rintro⟨v0,v1,⟨⟩⟩; kernel_rfl)
def pV(x:aL [.str,.str]):oK [.str,.str,.int .i64]:=match x with
 | (v0,v1,()) =>
  bif eqS v1 (ByteArray.mk #[48]) then
   some ((ByteArray.mk #[]),(ByteArray.mk #[]),17,())
  else aB (jP (v0,18,())) λy1 =>
  bif y1.2.1 then
   aB (jP (v1,18,())) λy2 =>
   bif y2.2.1 then
    bif eqI y2.1 0 then none else bif eqI y2.1 0 then none else bif !(eqI (y1.1.tmod y2.1) 0) then
     bif ltI (y1.1.tmod y2.1) 0 then
      bif ltI y2.1 0 then
       aB (gT ((aH .i64 (y1.1.tdiv y2.1)),())) λy3 =>
       aB (gT ((y1.1.tmod y2.1),())) λy4 =>
       some (y3.1,y4.1,0,())
      else aB (gT ((aH .i64 ((aH .i64 (y1.1.tdiv y2.1))-1)),())) λy5 =>
      aB (gT ((aH .i64 ((y1.1.tmod y2.1)+y2.1)),())) λy6 =>
      some (y5.1,y6.1,0,())
     else bif ltI y2.1 0 then
      aB (gT ((aH .i64 ((aH .i64 (y1.1.tdiv y2.1))-1)),())) λy7 =>
      aB (gT ((aH .i64 ((y1.1.tmod y2.1)+y2.1)),())) λy8 =>
      some (y7.1,y8.1,0,())
     else aB (gT ((aH .i64 (y1.1.tdiv y2.1)),())) λy9 =>
     aB (gT ((y1.1.tmod y2.1),())) λy10 =>
     some (y9.1,y10.1,0,())
    else aB (gT ((aH .i64 (y1.1.tdiv y2.1)),())) λy11 =>
    aB (gT ((y1.1.tmod y2.1),())) λy12 =>
    some (y11.1,y12.1,0,())
   else aB (bC (v0,())) λy13 =>
   aB (bC (v1,())) λy14 =>
   aB (kE (y13.2.1,y14.2.1,())) λy15 =>
   bif !(eqI y15.2.2.1 0) then
    some ((ByteArray.mk #[]),(ByteArray.mk #[]),y15.2.2.1,())
   else bif y13.1 then
    bif y14.1 then
     bif y13.1 then
      bif y14.1 then
       aB (aA (false,y15.1,())) λy16 =>
       aB (aA (y14.1,y15.2.1,())) λy17 =>
       some (y16.1,y17.1,0,())
      else aB (aA (true,y15.1,())) λy18 =>
      aB (aA (y14.1,y15.2.1,())) λy19 =>
      some (y18.1,y19.1,0,())
     else bif y14.1 then
      aB (aA (true,y15.1,())) λy20 =>
      aB (aA (y14.1,y15.2.1,())) λy21 =>
      some (y20.1,y21.1,0,())
     else aB (aA (false,y15.1,())) λy22 =>
     aB (aA (y14.1,y15.2.1,())) λy23 =>
     some (y22.1,y23.1,0,())
    else bif !(eqS y15.2.1 (ByteArray.mk #[48])) then
     aB (dG (y15.1,(ByteArray.mk #[49]),())) λy24 =>
     aB (bM (y14.2.1,y15.2.1,())) λy25 =>
     bif y13.1 then
      bif y14.1 then
       aB (aA (false,y24.1,())) λy26 =>
       aB (aA (y14.1,y25.1,())) λy27 =>
       some (y26.1,y27.1,0,())
      else aB (aA (true,y24.1,())) λy28 =>
      aB (aA (y14.1,y25.1,())) λy29 =>
      some (y28.1,y29.1,0,())
     else bif y14.1 then
      aB (aA (true,y24.1,())) λy30 =>
      aB (aA (y14.1,y25.1,())) λy31 =>
      some (y30.1,y31.1,0,())
     else aB (aA (false,y24.1,())) λy32 =>
     aB (aA (y14.1,y25.1,())) λy33 =>
     some (y32.1,y33.1,0,())
    else bif y13.1 then
     bif y14.1 then
      aB (aA (false,y15.1,())) λy34 =>
      aB (aA (y14.1,y15.2.1,())) λy35 =>
      some (y34.1,y35.1,0,())
     else aB (aA (true,y15.1,())) λy36 =>
     aB (aA (y14.1,y15.2.1,())) λy37 =>
     some (y36.1,y37.1,0,())
    else bif y14.1 then
     aB (aA (true,y15.1,())) λy38 =>
     aB (aA (y14.1,y15.2.1,())) λy39 =>
     some (y38.1,y39.1,0,())
    else aB (aA (false,y15.1,())) λy40 =>
    aB (aA (y14.1,y15.2.1,())) λy41 =>
    some (y40.1,y41.1,0,())
   else bif y14.1 then
    bif !(eqS y15.2.1 (ByteArray.mk #[48])) then
     aB (dG (y15.1,(ByteArray.mk #[49]),())) λy42 =>
     aB (bM (y14.2.1,y15.2.1,())) λy43 =>
     bif y13.1 then
      bif y14.1 then
       aB (aA (false,y42.1,())) λy44 =>
       aB (aA (y14.1,y43.1,())) λy45 =>
       some (y44.1,y45.1,0,())
      else aB (aA (true,y42.1,())) λy46 =>
      aB (aA (y14.1,y43.1,())) λy47 =>
      some (y46.1,y47.1,0,())
     else bif y14.1 then
      aB (aA (true,y42.1,())) λy48 =>
      aB (aA (y14.1,y43.1,())) λy49 =>
      some (y48.1,y49.1,0,())
     else aB (aA (false,y42.1,())) λy50 =>
     aB (aA (y14.1,y43.1,())) λy51 =>
     some (y50.1,y51.1,0,())
    else bif y13.1 then
     bif y14.1 then
      aB (aA (false,y15.1,())) λy52 =>
      aB (aA (y14.1,y15.2.1,())) λy53 =>
      some (y52.1,y53.1,0,())
     else aB (aA (true,y15.1,())) λy54 =>
     aB (aA (y14.1,y15.2.1,())) λy55 =>
     some (y54.1,y55.1,0,())
    else bif y14.1 then
     aB (aA (true,y15.1,())) λy56 =>
     aB (aA (y14.1,y15.2.1,())) λy57 =>
     some (y56.1,y57.1,0,())
    else aB (aA (false,y15.1,())) λy58 =>
    aB (aA (y14.1,y15.2.1,())) λy59 =>
    some (y58.1,y59.1,0,())
   else bif y13.1 then
    bif y14.1 then
     aB (aA (false,y15.1,())) λy60 =>
     aB (aA (y14.1,y15.2.1,())) λy61 =>
     some (y60.1,y61.1,0,())
    else aB (aA (true,y15.1,())) λy62 =>
    aB (aA (y14.1,y15.2.1,())) λy63 =>
    some (y62.1,y63.1,0,())
   else bif y14.1 then
    aB (aA (true,y15.1,())) λy64 =>
    aB (aA (y14.1,y15.2.1,())) λy65 =>
    some (y64.1,y65.1,0,())
   else aB (aA (false,y15.1,())) λy66 =>
   aB (aA (y14.1,y15.2.1,())) λy67 =>
   some (y66.1,y67.1,0,())
  else aB (bC (v0,())) λy68 =>
  aB (bC (v1,())) λy69 =>
  aB (kE (y68.2.1,y69.2.1,())) λy70 =>
  bif !(eqI y70.2.2.1 0) then
   some ((ByteArray.mk #[]),(ByteArray.mk #[]),y70.2.2.1,())
  else bif y68.1 then
   bif y69.1 then
    bif y68.1 then
     bif y69.1 then
      aB (aA (false,y70.1,())) λy71 =>
      aB (aA (y69.1,y70.2.1,())) λy72 =>
      some (y71.1,y72.1,0,())
     else aB (aA (true,y70.1,())) λy73 =>
     aB (aA (y69.1,y70.2.1,())) λy74 =>
     some (y73.1,y74.1,0,())
    else bif y69.1 then
     aB (aA (true,y70.1,())) λy75 =>
     aB (aA (y69.1,y70.2.1,())) λy76 =>
     some (y75.1,y76.1,0,())
    else aB (aA (false,y70.1,())) λy77 =>
    aB (aA (y69.1,y70.2.1,())) λy78 =>
    some (y77.1,y78.1,0,())
   else bif !(eqS y70.2.1 (ByteArray.mk #[48])) then
    aB (dG (y70.1,(ByteArray.mk #[49]),())) λy79 =>
    aB (bM (y69.2.1,y70.2.1,())) λy80 =>
    bif y68.1 then
     bif y69.1 then
      aB (aA (false,y79.1,())) λy81 =>
      aB (aA (y69.1,y80.1,())) λy82 =>
      some (y81.1,y82.1,0,())
     else aB (aA (true,y79.1,())) λy83 =>
     aB (aA (y69.1,y80.1,())) λy84 =>
     some (y83.1,y84.1,0,())
    else bif y69.1 then
     aB (aA (true,y79.1,())) λy85 =>
     aB (aA (y69.1,y80.1,())) λy86 =>
     some (y85.1,y86.1,0,())
    else aB (aA (false,y79.1,())) λy87 =>
    aB (aA (y69.1,y80.1,())) λy88 =>
    some (y87.1,y88.1,0,())
   else bif y68.1 then
    bif y69.1 then
     aB (aA (false,y70.1,())) λy89 =>
     aB (aA (y69.1,y70.2.1,())) λy90 =>
     some (y89.1,y90.1,0,())
    else aB (aA (true,y70.1,())) λy91 =>
    aB (aA (y69.1,y70.2.1,())) λy92 =>
    some (y91.1,y92.1,0,())
   else bif y69.1 then
    aB (aA (true,y70.1,())) λy93 =>
    aB (aA (y69.1,y70.2.1,())) λy94 =>
    some (y93.1,y94.1,0,())
   else aB (aA (false,y70.1,())) λy95 =>
   aB (aA (y69.1,y70.2.1,())) λy96 =>
   some (y95.1,y96.1,0,())
  else bif y69.1 then
   bif !(eqS y70.2.1 (ByteArray.mk #[48])) then
    aB (dG (y70.1,(ByteArray.mk #[49]),())) λy97 =>
    aB (bM (y69.2.1,y70.2.1,())) λy98 =>
    bif y68.1 then
     bif y69.1 then
      aB (aA (false,y97.1,())) λy99 =>
      aB (aA (y69.1,y98.1,())) λy100 =>
      some (y99.1,y100.1,0,())
     else aB (aA (true,y97.1,())) λy101 =>
     aB (aA (y69.1,y98.1,())) λy102 =>
     some (y101.1,y102.1,0,())
    else bif y69.1 then
     aB (aA (true,y97.1,())) λy103 =>
     aB (aA (y69.1,y98.1,())) λy104 =>
     some (y103.1,y104.1,0,())
    else aB (aA (false,y97.1,())) λy105 =>
    aB (aA (y69.1,y98.1,())) λy106 =>
    some (y105.1,y106.1,0,())
   else bif y68.1 then
    bif y69.1 then
     aB (aA (false,y70.1,())) λy107 =>
     aB (aA (y69.1,y70.2.1,())) λy108 =>
     some (y107.1,y108.1,0,())
    else aB (aA (true,y70.1,())) λy109 =>
    aB (aA (y69.1,y70.2.1,())) λy110 =>
    some (y109.1,y110.1,0,())
   else bif y69.1 then
    aB (aA (true,y70.1,())) λy111 =>
    aB (aA (y69.1,y70.2.1,())) λy112 =>
    some (y111.1,y112.1,0,())
   else aB (aA (false,y70.1,())) λy113 =>
   aB (aA (y69.1,y70.2.1,())) λy114 =>
   some (y113.1,y114.1,0,())
  else bif y68.1 then
   bif y69.1 then
    aB (aA (false,y70.1,())) λy115 =>
    aB (aA (y69.1,y70.2.1,())) λy116 =>
    some (y115.1,y116.1,0,())
   else aB (aA (true,y70.1,())) λy117 =>
   aB (aA (y69.1,y70.2.1,())) λy118 =>
   some (y117.1,y118.1,0,())
  else bif y69.1 then
   aB (aA (true,y70.1,())) λy119 =>
   aB (aA (y69.1,y70.2.1,())) λy120 =>
   some (y119.1,y120.1,0,())
  else aB (aA (false,y70.1,())) λy121 =>
  aB (aA (y69.1,y70.2.1,())) λy122 =>
  some (y121.1,y122.1,0,())
abbrev CK:Ent:=⟨85,_,_,pV⟩
theorem D4:Ent.OK tP CK:=oI (aQ (oV FZ (oV KN (oV GC (oV tU (oV uU (oV vG (oV lW oW)))))))) func85 (by kernel_rfl) (by rintro⟨v0,v1,⟨⟩⟩; kernel_rfl)
end Go.PM
namespace Go.PM
open Go Go.RowKit
section
variable {P:Program} {n0:Nat->Prop} {w w':World} {G G':Gd} {μ μ1:Mp} {H H1:Heap}
theorem aCY(hW:aM n0 G μ H w) {r:Nat} (hr:H[r]?=some none) (k:Blk) (hf:k.frozen=false) (hg:k.grown=true)
  (hblk:∀ b,μ.loc r=some b->(∃ c,w.heap[b]?=some (.cells c k.ty (0,0))/\aK w G μ b (μ.sh r) k.cells)/\n0 b/\¬ G b/\(∀ s k1,H[s]?=some (some k1)->k1.frozen=false->μ.loc s≠some b)/\∀ j,G.row j≠some b)
  (htag:∀ g,k.tag=some g->k.cells=aD g.t g.l/\μ.len r=some g.l.length):aM n0 G μ (H.set r (some k)) w:=by
 have hlt:r<H.length:=(oO.1 hr).1;have key:∀ s k1,(H.set r (some k))[s]?=some (some k1)->(s=r/\k1=k)\/(s≠r/\H[s]?=some (some k1)):=by
  intro s k1 hs
  by_cases e:r=s
  ·subst e;rw[List.getElem?_set_self hlt]at hs;exact .inl ⟨rfl,(oB (oB hs)).symm⟩
  ·rw[List.getElem?_set_ne e]at hs;exact .inr ⟨Ne.symm e,hs⟩
 refine⟨?_,?_,?_,hW.lt,λs hs=>hW.top s (by simpa using hs),hW.base,?_⟩
 ·intro s k1 b hs hb;rcases key s k1 hs with ⟨rfl,rfl⟩|⟨_,hs⟩
  ·obtain⟨⟨c,h1,h2⟩,h3,h4,_⟩:=hblk b hb;exact⟨c,h1,h2,λh=>(by rw[hg]at h; cases h),λh=>(by rw[hf]at h; cases h),λ_=>⟨h3,h4⟩⟩
  ·exact hW.blk s k1 b hs hb
 ·intro s k1 g hs h1;rcases key s k1 hs with ⟨rfl,rfl⟩|⟨_,hs⟩
  ·exact htag g h1
  ·exact hW.tags s k1 g hs h1
 ·intro s1 s2 k1 k2 b h1 h2 f1 f2 m1 m2;rcases key s1 k1 h1 with ⟨rfl,rfl⟩|⟨_,h3⟩
  ·rcases key s2 k2 h2 with ⟨rfl,rfl⟩|⟨_,h4⟩
   ·rfl
   ·exact absurd m2 ((hblk b m1).2.2.2.1 s2 k2 h4 f2)
  ·rcases key s2 k2 h2 with ⟨rfl,rfl⟩|⟨_,h4⟩
   ·exact absurd m1 ((hblk b m2).2.2.2.1 s1 k1 h3 f1)
   ·exact hW.inj s1 s2 k1 k2 b h3 h4 f1 f2 m1 m2
 ·refine⟨hW.rows.inj,?_,hW.rows.cel,?_,?_⟩
  ·intro j b hj;obtain⟨a1,a2,a3,a4⟩:=hW.rows.sep j b hj;refine⟨a1,a2,a3,λs k1 hs f1 m1=>?_⟩;rcases key s k1 hs with ⟨rfl,rfl⟩|⟨_,hs⟩
   ·exact(hblk b m1).2.2.2.2 j hj
   ·exact a4 s k1 hs f1 m1
  ·intro s k1 t l hs h1 h2;rcases key s k1 hs with ⟨rfl,rfl⟩|⟨_,hs⟩
   ·rw[hg]at h1; cases h1
   ·exact hW.rows.arn s k1 t l hs h1 h2
  ·intro s1 s2 k1 k2 t l t' l' h1 g1 t1 h2 g2 t2;rcases key s1 k1 h1 with ⟨rfl,rfl⟩|⟨_,h1⟩
   ·rw[hg]at g1; cases g1
   ·rcases key s2 k2 h2 with ⟨rfl,rfl⟩|⟨_,h2⟩
    ·rw[hg]at g2; cases g2
    ·exact hW.rows.one s1 s2 k1 k2 t l t' l' h1 g1 t1 h2 g2 t2
def aN1(P:Program) (g:FuncId) (e:TypeId) (t:Ty) (args:List Kd) (f:List t.den->aL args->Option (List t.den)):Prop :=
 ∀ l x l',f l x=some l'->∀ {n0 G μ H w us r},aM n0 G μ H w->H[r]?=some (some (owB e t l))->VRs w G μ (.own r t.size::eX args x) us->cR.noRows (eX args x)=true->lN P n0 w G μ g us.toArray (.tuple []) (H.set r (some (owB e t l')))
def aF6 {t:Ty} {args:List Kd} (f:Unit->aL (.hnd t.size::args)->List (List t.den)->Option (aL []×List (List t.den))) (l:List t.den) (x:aL args):Option (List t.den):=match f () ((0,0,l.length),x) [l]with
 | some ((),[l'])=>bif Nat.beq l'.length l.length then some l' else none
 | _=>none
def aUI(P:Program) (g:FuncId) (e:TypeId) (t:Ty) (args rets:List Kd) (f:List t.den->aL args->Option (aL rets×List t.den)):Prop :=
 ∀ l x y l',f l x=some (y,l')->∀ {n0 G μ H w us r},aM n0 G μ H w->H[r]?=some (some (owB e t l))->VRs w G μ (.own r t.size::eX args x) us->cR.noRows (eX args x)=true->lN P n0 w G μ g us.toArray (VA rets y) (H.set r (some (owB e t l')))
def aLB {t:Ty} {args rets:List Kd} (f:Unit->aL (.hnd t.size::args)->List (List t.den)->Option (aL rets×List (List t.den))) (l:List t.den) (x:aL args):Option (aL rets×List t.den):=match f () ((0,0,l.length),x) [l]with
 | some (y,[l'])=>bif Nat.beq l'.length l.length then some (y,l') else none
 | _=>none
def aNF:List Kd->Bool
 | []=>true
 | [.bool]=>true
 | [.int _]=>true
 | _=>false
theorem aMS {rets}(h:aNF rets=true) y {w G G' μ μ' v}(hv:VR w G μ (VA rets y) v):VR w G' μ' (VA rets y) v:=by
 unfold aNF at h;split at h
 ·change VR w G μ (.tuple []) v at hv;change VR w G' μ' (.tuple []) v;obtain⟨vs,h1,h2⟩:=hv;exact⟨vs,h1,h2⟩
 ·obtain⟨b,⟨⟩⟩:=y;change VR w G μ (.lit (.bool b)) v at hv;change VR w G' μ' (.lit (.bool b)) v;exact hv
 ·rename_i k;obtain⟨b,⟨⟩⟩:=y;change VR w G μ (.lit (.int k b)) v at hv;change VR w G' μ' (.lit (.int k b)) v;exact hv
 grind
theorem aER {g:FuncId} {e:TypeId} {t:Ty} {args rets:List Kd} {f:Unit->aL (.hnd t.size::args)->List (List t.den)->Option (aL rets×List (List t.den))} (hf:RY P g e t .none (.hnd t.size::args) (.data rets) f) (hd:ME args=true) (hpl:t.plain=true) (hlr:aNF rets=true) (he:e≠yH:=by decide):aUI P g e t args rets (aLB f):=by
 intro l x yy l' hy n0 G μ H w us r hW hk hv hnr;unfold aLB at hy;split at hy
 ·rename_i y1 l1 hfl;obtain⟨hlen,hy⟩:=aG hy;obtain⟨rfl,rfl⟩:=Prod.mk.inj (oB hy);have hlen:=oE hlen;have ht2:=(hW.tags r _ _ hk rfl).2;have hlt:r<H.length:=(oO.1 hk).1;obtain⟨rb,hrb⟩:∃ rb:Option Nat,rb=if l=[] then none else μ.loc r:=⟨_,rfl⟩
  have hrbl:∀ b,rb=some b->μ.loc r=some b/\l≠[]:=λb hb=>by
   rw[hrb]at hb;split at hb
   ·cases hb
   ·rename_i hne; exact⟨hb,hne⟩
  have hmine:∀ b,μ.loc r=some b->n0 b/\¬ G b:=λb hb=>by
   obtain⟨_,_,_,_,_,h6⟩:=hW.blk r _ b hk hb;exact h6 rfl
  have hrow:∀ j b,G.row j=some b->μ.loc r≠some b:=λj b hj=>(hW.rows.sep j b hj).2.2.2 r _ hk rfl
  obtain⟨u,us',rfl,q1,q2⟩:∃ u us',us=u::us'/\VR w G μ (.own r t.size) u/\VRs w G μ (eX args x) us':=by rw[VRs]at hv; exact hv
  have at0:∀ (s:Nat) (k1:Blk),([some (arB e t [l])]:Heap)[s]?=some (some k1)->s=0/\k1=arB e t [l]:=by
   intro s k1 hs;cases s with
   | zero=>simp only[List.getElem?_cons_zero,oJ]at hs; exact⟨rfl,hs.symm⟩
   | succ s=>simp at hs
  have hG0:∃ G0:Gd,G0=⟨G.ok,λj=>if j=0 then rb else none⟩:=⟨_,rfl⟩;obtain⟨G0,hG0⟩:=hG0;have hok:G0.ok=G.ok:=by rw[hG0]
  have hr0:∀ j b,G0.row j=some b->j=0/\rb=some b:=λj b hj=>by
   rw[hG0]at hj;dsimp only at hj;split at hj
   ·exact⟨‹_›,hj⟩
   ·cases hj
  have hW1:aM (λb=>w.heap.size<=b\/rb=some b) G0 ⟨λ_=>none,λs=>if s=0 then some 1 else none,λ_=>0⟩ [some (arB e t [l])] w:=by
   refine⟨λs k1 b hs hb=>(by cases hb),?_,λs1 s2 k1 k2 b _ _ _ _ m=>(by cases m),by rw[hok]; exact hW.lt,?_,λb hb=>.inl hb,?_⟩
   ·intro s k1 gg hs hg;obtain⟨rfl,rfl⟩:=at0 s k1 hs;cases hg;exact⟨rfl,rfl⟩
   ·intro s hs;have:s≠0:=by rintro rfl; simp at hs
    exact⟨rfl,by simp[this]⟩
   ·refine⟨λi j b h1 h2=>(hr0 i b h1).1.trans (hr0 j b h2).1.symm,λj b hj=>?_,λj b hj=>?_,λs k1 t1 l1 hs h1 h2=>?_,λs1 s2 k1 k2 t1 l1 t2 l2 h1 _ _ h2 _ _=>((at0 s1 k1 h1).1.trans (at0 s2 k2 h2).1.symm)⟩
    ·obtain⟨_,h2⟩:=hr0 j b hj;exact⟨hW.hZ hk (hrbl b h2).1,.inr h2,by rw[hok]; exact(hmine b (hrbl b h2).1).2,λ_ _ _ _ h=>by cases h⟩
    ·obtain⟨_,h2⟩:=hr0 j b hj;obtain⟨c,h3,_⟩:=hW.blk r _ b hk (hrbl b h2).1;exact .inl ⟨c,_,_,h3⟩
    ·obtain⟨rfl,rfl⟩:=at0 s k1 hs;cases h2;refine⟨rfl,λj hj=>?_,λj row hj=>?_⟩
     ·rw[hG0];have:j≠0:=by rintro rfl; simp at hj
      simp[this]
     ·cases j with
      | zero =>
       simp only[List.getElem?_cons_zero,oJ]at hj;subst hj
       by_cases hl:l=[]
       ·exact .inl ⟨hl,he⟩
       ·right;rw[VR]at q1;obtain⟨n,z1,z2⟩:=q1;rw[ht2]at z1;obtain rfl:=oB z1;rcases z2 with ⟨z2,_⟩|⟨b,c,z2,_,_,_,z5⟩
        ·exact absurd (List.eq_nil_of_length_eq_zero z2) hl
        ·obtain⟨cc,a1,a2,_⟩:=hW.blk r _ b hk z2;rw[z5]at a2;refine⟨b,by rw[hG0,hrb]; simp[hl,z2],.inl ⟨he,cc,a1,?_⟩⟩;exact lX (G:=G) (G':=G0) (λb h=>by rw[hok]; exact h) _ _ _ _ (mF t hpl l) (iQ (eA _ _) a2)
      | succ j=>simp at hj
  have hsh:l≠[]->μ.sh r=0:=λhl=>by
   rw[VR]at q1;obtain⟨n,z1,z2⟩:=q1;rw[ht2]at z1;obtain rfl:=oB z1;rcases z2 with ⟨z2,_⟩|⟨_,_,_,_,_,_,z5⟩
   ·exact absurd (List.eq_nil_of_length_eq_zero z2) hl
   ·exact z5
  have hv1:VRs w G0 ⟨λ_=>none,λs=>if s=0 then some 1 else none,λ_=>0⟩ (Tk.none.pv 0++eX (.hnd t.size::args) ((0,0,l.length),x)) (u::us'):=by
   change VRs w G0 _ (.row 0 0 l.length t.size::eX args x) (u::us');rw[VRs];refine⟨u,us',rfl,?_,VRs.aP (j9 (G:=G) (G':=G0) (λb h=>by rw[hok]; exact h) _ _ _ hnr (bG _ _ (yZ args x hd) q2))⟩;rw[VR]at q1;rw[VR];obtain⟨n,z1,z2⟩:=q1;rw[ht2]at z1;obtain rfl:=oB z1;rcases z2 with ⟨z2,ao,rfl⟩|⟨b,c,z2,rfl,z3,z4⟩
   ·exact⟨ao,0,by rw[show l.length=0 from z2],by rw[show l.length=0 from z2]; exact oM _,.inl z2⟩
   ·obtain⟨z4,z5⟩:=z4;rw[z5];rw[z5]at z4;refine⟨_,c,rfl,z3,?_⟩
    by_cases hl:l=[]
    ·exact .inl (by rw[hl]; rfl)
    ·exact .inr ⟨b,by rw[hG0,hrb]; simp[hl,z2],by simp,by simpa using z4⟩
  obtain⟨c1,c2⟩:=hf () ((0,0,l.length),x) [l] y1 [l1] hfl (ra:=0) (r:=0) hW1 rfl ⟨λ_ _ h=>by cases h⟩ hv1;refine⟨c1,c2.mono ?_⟩;rintro e' w' ⟨v',G1,μ1,rfl,ee,hW',hvv⟩;have hb1:∀ b,rb=some b->G1.row 0=some b:=λb hb=>ee.row 0 b (by rw[hG0]; simp[hb])
  have hH1:(((B1 (Tk.none.ow () 0) [some (arB e t [l])]).set 0 none)++(some (arB e t [l1])::(An.data rets).hp y1):Heap)[1]?=some (some (arB e t [l1])):=rfl;have hn0:∀ b,b<w.heap.size->¬ n0 b->w'.heap[b]?=w.heap[b]?:=λb hb hn=>ee.old b hb (by
   rintro(h|h)
   ·exact Nat.not_le.2 hb h
   ·exact hn (hmine b (hrbl b h).1).1)
  have hgg:∀ b,G b->G0 b:=λb hb=>by rw[hok]; exact hb
  have e2:Ext n0 w G μ w' (G1.with G) μ:={
   bS:=λb hb=>⟨(ee.bS b (hgg b hb)).1,(ee.bS b (hgg b hb)).2⟩
   map:=λ_ _ h=>h
   len:=λ_ _ h=>h
   room:=ee.room
   row:=λ_ _ h=>h
   os:=ee.os
   tape:=ee.tape
   output:=ee.output
   size:=ee.size
   old:=hn0
   new:=λb hb=>by
    rcases ee.new b hb with h|h|h
    ·rw[hok]at h; exact .inl h
    ·exact .inr (hW.base b h)
    ·exact .inr (hmine b (hrbl b h).1).1 }
  have hold:∀ b,b<w.heap.size->rb≠some b->w'.heap[b]?=w.heap[b]?/\(G1 b->G b):=λb hb hne =>
   ⟨ee.old b hb (by rintro(h|h); exact Nat.not_le.2 hb h; exact hne h),λhg=>by
    rcases ee.new b hg with h|h|h
    ·rw[hok]at h; exact h
    ·exact absurd hb (Nat.not_lt.2 h)
    ·exact absurd h hne⟩
  have hk2:aM n0 (G1.with G) μ (H.set r none) w':=by
   refine(jJ hW r).aU e2 ⟨λ_=>rfl,λj b hj=>hold b (hW.rows.sep j b hj).1 λh=>hrow j b hj (hrbl b h).1⟩ ?_ (λb hb=>hW'.lt b hb);intro s k1 b hs hb;obtain⟨hs,hsr⟩:=jU hs;refine hold b (hW.hZ hs hb) λh=>?_
   have hrb:=(hrbl b h).1;cases hf:k1.frozen with
   | false=>exact hsr (hW.inj s r k1 _ b hs hk hf rfl hb hrb)
   | true =>
    obtain⟨_,_,_,_,h5,_⟩:=hW.blk s k1 b hs hb;exact(hmine b hrb).2 (h5 hf)
  have hfin:aM n0 (G1.with G) μ (H.set r (some (owB e t l1))) w':=by
   have:=aCY hk2 (r:=r) (List.getElem?_set_self hlt) (owB e t l1) rfl rfl ?_ ?_
   ·rwa[List.set_set]at this
   ·intro b hb;have hcells:(∃ c,w'.heap[b]?=some (.cells c e (0,0))/\aK w' (G1.with G) μ b (μ.sh r) (aD t l1))/\¬ G1 b:=by
     by_cases hl:l=[]
     ·have hl1:l1=[]:=List.eq_nil_of_length_eq_zero (by rw[hlen,hl]; rfl);have hne:rb≠some b:=λh=>(hrbl b h).2 hl
      obtain⟨o1,o2⟩:=hold b (hW.hZ hk hb) hne;obtain⟨c,h3,_⟩:=hW.blk r _ b hk hb;refine⟨⟨c,o1.trans h3,?_⟩,λh=>(hmine b hb).2 (o2 h)⟩;rw[hl1]; simp[aD,aK]
     ·have hbb:rb=some b:=by rw[hrb,if_neg hl]; exact hb
      have hrow1:=hb1 b hbb;obtain⟨_,_,a3⟩:=hW'.rows.arn 1 _ t [l1] hH1 rfl rfl;rcases a3 0 l1 rfl with h|⟨b',z1,z2⟩
      ·exact absurd (List.eq_nil_of_length_eq_zero (by rw[<- hlen,h.1]; rfl)) hl
      ·rw[hrow1]at z1;obtain rfl:=oB z1;obtain⟨c0,y1,_⟩:=hW.blk r _ b hk hb;obtain⟨c,z2,z3⟩:=z2.cells (.inr (e2.room b 0 ⟨c0,_,_,y1,Nat.zero_le _⟩));refine⟨⟨c,z2,?_⟩,(hW'.rows.sep 0 b hrow1).2.2.1⟩;rw[hsh hl];exact lX (G:=G1) (G':=G1.with G) (λb h=>h) _ _ _ _ (mF t hpl l1) (iQ (eA _ _) z3)
    refine⟨hcells.1,(hmine b hb).1,hcells.2,λs k1 hs hf hsb=>?_,λj hj=>hrow j b hj hb⟩;obtain⟨hs,hsr⟩:=jU hs;exact hsr (hW.inj s r k1 _ b hs hk hf rfl hsb hb)
   ·intro g hg;cases hg;exact⟨rfl,by rw[ht2,hlen]⟩
  refine⟨v',G1.with G,μ,rfl,e2,hfin,?_⟩;exact aMS hlr y1 hvv
 ·cases hy
theorem aKY {g:FuncId}{e:TypeId}{t:Ty}{args:List Kd}{f:Unit->aL (.hnd t.size::args)->List (List t.den)->Option (aL []×List (List t.den))}(hf:RY P g e t .none (.hnd t.size::args) (.data []) f)(hd:ME args=true)(hpl:t.plain=true)(he:e≠yH:=by decide):aN1 P g e t args (aF6 f):=by
 intro l x l' hy n0 G μ H w us r hW hk hv hnr;refine aER hf hd hpl rfl he l x () l' ?_ hW hk hv hnr;unfold aF6 at hy;unfold aLB;split at hy
 ·rename_i l1 hfl;obtain⟨hlen,hy⟩:=aG hy;obtain rfl:=oB hy;rw[hfl];show (bif Nat.beq l1.length l.length then some ((),l1) else none)=_;rw[hlen];rfl
 ·cases hy
def aXV(e:TypeId) (t:Ty) (args rets:List Kd) (f:List t.den->aL args->Option (aL rets×List t.den)) (qs:List PV) (H:Heap):Option RK:=match aBR e t H qs with
 | some (l,r,ps)=>match TX args ps with
  | some x=>bif bU.noRefs ps&&cR.noRows (eX args x) then some ⟨aL rets×List t.den,f l x,λz=>(VA rets z.1,H.set r (some (owB e t z.2)))⟩ else none
  | none=>none
 | none=>none
def aRI(e:TypeId) (t:Ty) (args:List Kd) (f:List t.den->aL args->Option (List t.den)) (qs:List PV) (H:Heap):Option RK:=match aBR e t H qs with
 | some (l,r,ps)=>match TX args ps with
  | some x=>bif bU.noRefs ps&&cR.noRows (eX args x) then some ⟨List t.den,f l x,λl'=>(.tuple [],H.set r (some (owB e t l')))⟩ else none
  | none=>none
 | none=>none
theorem aPX {g e t args f}(hf:aN1 P g e t args f):vB P (g,aRI e t args f):=by
 intro qs H rh h y hy n0 G μ w vs hW hv;change aRI e t args f qs H=some rh at h;unfold aRI at h;split at h
 ·rename_i l r ps hl;split at h
  ·rename_i x hx;obtain⟨hb,h⟩:=IZ h;simp only[oJ]at h;subst h;simp only[oA]at hb;obtain⟨h0,rfl⟩:=P9 hW hl;obtain⟨u,us,rfl,q1,q2⟩:=hv;exact hf l x y hy hW h0 (⟨u,us,rfl,q1,(uK args hx (bG _ _ hb.1 q2)).aP⟩) hb.2
  grind
 grind
end
open Go Go.RowKit Go.Proofs Tryz
set_option maxHeartbeats 4000000
abbrev iW:List (Nat×Kd):=[(3,.own 133 .str),(9,.list TyE),(10,.int .i64),(11,.int .i64)]
abbrev kL:List (Ex×List (Nat×Kd)):=[(.exit 0,[(3,.own 133 .str)])]
def jE(x:Shape.den iW):oS iW kL:=match x with
 | (v3,v9,v10,v11,()) =>
  bif ltI v11 v10 then
   bif aN v11 v9.length then aB (gT ((v9.getD v11.toNat 0),())) λy2 =>
   bif Nat.ble [y2.1].length 1048576 then bif Nat.ble v3.length 1048576 then some (.inl ((v3++[y2.1]),v9,v10,(aH .i64 (v11+1)),())) else none else none else none
  else some (.inr ((v3,())))
def lH(x:Shape.den iW):oX kL:=bF jE (2^64) x
def jN(x:aL [.list TyE]):Option (List ByteArray):=match x with
 | (v0,()) =>
  bif !(ltI (v0.length:Int) 0) then bif !(ltI 1048576 (v0.length:Int)) then aB (lH ((List.replicate 0 (ByteArray.empty:Ty.den .str)),v0,(v0.length:Int),0,())) λz3 =>
  some z3.1 else none else none
def rL:Code:=cM f82
abbrev vF:Env:=qK [XN]
theorem yE:fC tP vF:=aQ ⟨tU,trivial⟩
def sQ:Code:=kW rL 0
def uC(id:Nat):Option bT:=bif Nat.beq id 3 then some ⟨iW,kL,lH⟩ else none
theorem FF:∀ x,nP tP vF 22 (bO f82) uC sQ iW kL x=jE x:=by
 rintro⟨v3,v9,v10,v11,⟨⟩⟩
 kernel_rfl
theorem GR:fJ tP 22 sQ ⟨iW,kL,lH⟩:=kT yE.callee aV.mixed _ (bQ (l:=[]) (by kernel_rfl) trivial) FF
theorem IF:bI rL=[sQ]:=by kernel_rfl
theorem JS:∀ x,aOT tP vF f82 (bO f82) uC rL [.list TyE] 2 133 .str x=jN x:=by
 rintro⟨v0,⟨⟩⟩
 kernel_rfl
theorem NH:aHP tP 82 [.list TyE] 133 .str jN:=aR2 aV yE func82 (c:=rL) (by kernel_rfl) (aU:=bO f82) (lt:=uC) (t:=2) (by kernel_rfl) (bQ IF ⟨j5 (i:=3) (by kernel_rfl) rfl GR,trivial⟩) JS
abbrev vU:Shr:=(82,aTT [.list TyE] 133 .str jN)
theorem yF:vB tP vU:=aQ4 NH
abbrev fD:List (Nat×Kd):=[(0,.hnd 1),(1,.str),(10,.hnd 1),(11,.int .i64),(12,.int .i64),(100000,.ar 133 .str)]
abbrev gW:List (Ex×List (Nat×Kd)):=[(.exit 0,[(100000,.ar 133 .str)])]
def fW(x:Shape.den fD):oS fD gW:=match x with
 | (v0,v1,v10,v11,v12,u00,()) =>
  bif ltI v12 v11 then
   bif aN v12 v10.2.2 then bif Nat.blt ((v10.2.1+v12.toNat)*1) (dF u00 v10.1) then bif aN v12 v0.2.2 then bif Nat.blt ((v0.2.1+v12.toNat)*1) (dF u00 v0.1) then aB (AE (v1,(fG u00 v10.1 ((v10.2.1+v12.toNat)*1) ByteArray.empty),())) λy3 =>
   aB (AB ((fG u00 v0.1 ((v0.2.1+v12.toNat)*1) ByteArray.empty),y3.1,())) λy4 =>
   bif aN v12 v0.2.2 then bif Nat.blt ((v0.2.1+v12.toNat)*1) (dF u00 v0.1) then some (.inl ((v0.1,v0.2.1,v0.2.2),v1,(v10.1,v10.2.1,v10.2.2),v11,(aH .i64 (v12+1)),(vM u00 v0.1 ((v0.2.1+v12.toNat)*1) y4.1),())) else none else none else none else none else none else none
  else some (.inr ((u00,())))
def iZ(x:Shape.den fD):oX gW:=bF fW (2^64) x
def cX(u0:Unit)(x:aL [.hnd 1,.str,.hnd 1])(A:List (List ByteArray)):Option ((aL [])×List (List ByteArray)):=match x with
 | (v0,v1,v2,()) =>
  bif eqS v1 (ByteArray.mk #[48]) then
   some ((()),A)
  else aB (iZ ((v0.1,v0.2.1,v0.2.2),v1,(v2.1,v2.2.1,v2.2.2),((v2.2.2:Nat):Int),0,A,())) λz5 =>
  some ((()),z5.1)
def l9:Code:=cM f86
abbrev rA:Env:=qK [K2,K8]
theorem sW:fC tP rA:=aQ ⟨JX,JW,trivial⟩
def o9:Code:=kW l9 0
def p6(id:Nat):Option bT:=bif Nat.beq id 2 then some ⟨fD,gW,iZ⟩ else none
theorem zY:∀ x,nP tP rA 29 (bO f86) p6 o9 fD gW x=fW x:=by
 rintro⟨v0,v1,v10,v11,v12,u00,⟨⟩⟩
 kernel_rfl
theorem BI:fJ tP 29 o9 ⟨fD,gW,iZ⟩:=kT sW.callee aV.mixed _ (bQ (l:=[]) (by kernel_rfl) trivial) zY
theorem CL:bI l9=[o9]:=by kernel_rfl
theorem DP:∀ l x A,TO tP rA f86 (bO f86) p6 l9 133 .str .none [.hnd 1,.str,.hnd 1] (.data []) l x A=cX l x A:=by
 rintro u0 ⟨v0,v1,v2,⟨⟩⟩ A
 kernel_rfl
theorem GO:RY tP 86 133 .str .none [.hnd 1,.str,.hnd 1] (.data []) cX:=OD aV sW func86 (c:=l9) (by kernel_rfl) (aU:=bO f86) (lt:=p6) (by rfl) (bQ CL ⟨j5 (i:=2) (by kernel_rfl) rfl BI,trivial⟩) DP
abbrev wU:Shr:=(86,aB8 0 (arH 133 .str .none [.hnd 1,.str,.hnd 1] (.data []) cX))
theorem DW:vB tP wU:=EV (g:=86) (f:=arH 133 .str .none [.hnd 1,.str,.hnd 1] (.data []) cX) (OM GO)
abbrev fB:List (Nat×Kd):=[(0,.hnd 1),(1,.str),(10,.list .str),(11,.int .i64),(12,.int .i64),(100000,.ar 133 .str)]
abbrev gU:List (Ex×List (Nat×Kd)):=[(.exit 0,[(100000,.ar 133 .str)])]
def eG(x:Shape.den fB):oS fB gU:=match x with
 | (v0,v1,v10,v11,v12,u00,()) =>
  bif ltI v12 v11 then
   bif aN v12 v10.length then bif aN v12 v0.2.2 then bif Nat.blt ((v0.2.1+v12.toNat)*1) (dF u00 v0.1) then aB (AE (v1,(v10.getD v12.toNat ByteArray.empty),())) λy3 =>
   aB (AB ((fG u00 v0.1 ((v0.2.1+v12.toNat)*1) ByteArray.empty),y3.1,())) λy4 =>
   bif aN v12 v0.2.2 then bif Nat.blt ((v0.2.1+v12.toNat)*1) (dF u00 v0.1) then some (.inl ((v0.1,v0.2.1,v0.2.2),v1,v10,v11,(aH .i64 (v12+1)),(vM u00 v0.1 ((v0.2.1+v12.toNat)*1) y4.1),())) else none else none else none else none else none
  else some (.inr ((u00,())))
def jC(x:Shape.den fB):oX gU:=bF eG (2^64) x
def eC(u0:Unit)(x:aL [.hnd 1,.str,.list .str])(A:List (List ByteArray)):Option ((aL [])×List (List ByteArray)):=match x with
 | (v0,v1,v2,()) =>
  bif eqS v1 (ByteArray.mk #[48]) then
   some ((()),A)
  else aB (jC ((v0.1,v0.2.1,v0.2.2),v1,v2,(v2.length:Int),0,A,())) λz5 =>
  some ((()),z5.1)
def l6:Code:=cM f86
abbrev qY:Env:=qK [K2,K8]
theorem tB:fC tP qY:=aQ ⟨JX,JW,trivial⟩
def o3:Code:=kW l6 0
def pY(id:Nat):Option bT:=bif Nat.beq id 2 then some ⟨fB,gU,jC⟩ else none
theorem AJ:∀ x,nP tP qY 29 (bO f86) pY o3 fB gU x=eG x:=by
 rintro⟨v0,v1,v10,v11,v12,u00,⟨⟩⟩
 kernel_rfl
theorem BK:fJ tP 29 o3 ⟨fB,gU,jC⟩:=kT tB.callee aV.mixed _ (bQ (l:=[]) (by kernel_rfl) trivial) AJ
theorem CP:bI l6=[o3]:=by kernel_rfl
theorem EA:∀ l x A,TO tP qY f86 (bO f86) pY l6 133 .str .none [.hnd 1,.str,.list .str] (.data []) l x A=eC l x A:=by
 rintro u0 ⟨v0,v1,v2,⟨⟩⟩ A
 kernel_rfl
theorem GU:RY tP 86 133 .str .none [.hnd 1,.str,.list .str] (.data []) eC:=OD aV tB func86 (c:=l6) (by kernel_rfl) (aU:=bO f86) (lt:=pY) (by rfl) (bQ CP ⟨j5 (i:=2) (by kernel_rfl) rfl BK,trivial⟩) EA
theorem FD:aN1 tP 86 133 .str [.str,.list .str] (aF6 eC):=aKY GU (by rfl) (by rfl)
abbrev u7:Shr:=(86,aB8 1 (aRI 133 .str [.str,.list .str] (aF6 eC)))
theorem C2:vB tP u7:=EV (aPX FD)
abbrev eF:List (Nat×Kd):=[(0,.hnd 1),(4,.hnd 1),(5,.int .i64),(6,.int .i64),(100000,.ar 133 .str)]
abbrev fV:List (Ex×List (Nat×Kd)):=[(.exit 0,[(100000,.ar 133 .str)])]
def eY(x:Shape.den eF):oS eF fV:=match x with
 | (v0,v4,v5,v6,u00,()) =>
  bif ltI v6 v5 then
   bif aN v6 v4.2.2 then bif Nat.blt ((v4.2.1+v6.toNat)*1) (dF u00 v4.1) then aB (zZ ((fG u00 v4.1 ((v4.2.1+v6.toNat)*1) ByteArray.empty),())) λy2 =>
   bif aN v6 v0.2.2 then bif Nat.blt ((v0.2.1+v6.toNat)*1) (dF u00 v0.1) then some (.inl ((v0.1,v0.2.1,v0.2.2),(v4.1,v4.2.1,v4.2.2),v5,(aH .i64 (v6+1)),(vM u00 v0.1 ((v0.2.1+v6.toNat)*1) y2.1),())) else none else none else none else none
  else some (.inr ((u00,())))
def gZ(x:Shape.den eF):oX fV:=bF eY (2^64) x
def b8(u0:Unit)(x:aL [.hnd 1])(A:List (List ByteArray)):Option ((aL [])×List (List ByteArray)):=match x with
 | (v0,()) =>
  aB (gZ ((v0.1,v0.2.1,v0.2.2),(v0.1,v0.2.1,v0.2.2),((v0.2.2:Nat):Int),0,A,())) λz3 =>
  some ((()),z3.1)
def kR:Code:=cM f88
abbrev pF:Env:=qK [TU]
theorem rW:fC tP pF:=aQ ⟨J0,trivial⟩
def mL:Code:=kW kR 0
def nE(id:Nat):Option bT:=bif Nat.beq id 1 then some ⟨eF,fV,gZ⟩ else none
theorem xT:∀ x,nP tP pF 17 (bO f88) nE mL eF fV x=eY x:=by
 rintro⟨v0,v4,v5,v6,u00,⟨⟩⟩
 kernel_rfl
theorem zB:fJ tP 17 mL ⟨eF,fV,gZ⟩:=kT rW.callee aV.mixed _ (bQ (l:=[]) (by kernel_rfl) trivial) xT
theorem zV:bI kR=[mL]:=by kernel_rfl
theorem BM:∀ l x A,TO tP pF f88 (bO f88) nE kR 133 .str .none [.hnd 1] (.data []) l x A=b8 l x A:=by
 rintro u0 ⟨v0,⟨⟩⟩ A
 kernel_rfl
theorem DD:RY tP 88 133 .str .none [.hnd 1] (.data []) b8:=OD aV rW func88 (c:=kR) (by kernel_rfl) (aU:=bO f88) (lt:=nE) (by rfl) (bQ zV ⟨j5 (i:=1) (by kernel_rfl) rfl zB,trivial⟩) BM
abbrev tV:Shr:=(88,aB8 0 (arH 133 .str .none [.hnd 1] (.data []) b8))
theorem BN:vB tP tV:=EV (g:=88) (f:=arH 133 .str .none [.hnd 1] (.data []) b8) (OM DD)
def l4(x:aL [.str]):oK [.bool]:=match x with
 | (v0,()) =>
  some (!(eqS v0 (ByteArray.mk #[48])),())
abbrev HD:Ent:=⟨149,_,_,l4⟩
theorem DI:Ent.OK tP HD:=oI (aQ oW) func149 (by kernel_rfl) (by rintro⟨v0,⟨⟩⟩; kernel_rfl)
abbrev eJ:List (Nat×Kd):=[(0,.list .str),(1,.fn 149),(7,.int .i64),(8,.int .i64)]
abbrev iN:List (Ex×List (Nat×Kd)):=[(.ret,[(4,.int .i64)]),(.exit 0,[])]
def bE(x:Shape.den eJ):oS eJ iN:=match x with
 | (v0,v1,v7,v8,()) =>
  bif ltI v8 v7 then
   bif aN v8 v0.length then aB (l4 ((v0.getD v8.toNat ByteArray.empty),())) λy2 =>
   bif y2.1 then
    some (.inr (.inl (v8,())))
   else some (.inl (v0,(),v7,(aH .i64 (v8+1)),())) else none
  else some (.inr (.inr ((()))))
def dW(x:Shape.den eJ):oX iN:=bF bE (2^64) x
def eZ(x:aL [.list .str,.fn 149]):oK [.int .i64]:=match x with
 | (v0,v1,()) =>
  aB (dW (v0,(),(v0.length:Int),0,())) λz3 =>
  j8 z3 (λa4=>some (a4.1,())) λb5 =>
  some ((-1),())
abbrev qI:Ent:=⟨148,_,_,eZ⟩
theorem o4:Ent.OK tP qI:=oU (aQ (oV DI oW)) func148 2 (lp:=dW) rfl (by kernel_rfl) (by rintro⟨v0,v1,v7,v8,⟨⟩⟩; kernel_rfl) (by rintro⟨v0,v1,⟨⟩⟩; kernel_rfl)
def k7(x:aL [.list .str]):oK [.int .i64]:=match x with
 | (v0,()) =>
  aB (eZ (v0,(),())) λy1 =>
  some (y1.1,())
abbrev AD:Ent:=⟨120,_,_,k7⟩
theorem GS:Ent.OK tP AD:=oI (aQ (oV o4 oW)) func120 (by kernel_rfl) (by rintro⟨v0,⟨⟩⟩; kernel_rfl)
abbrev pA:List (Nat×Kd):=[(4,.own 3 TyE),(12,.list .str),(13,.int .i64),(14,.int .i64)]
abbrev uH:List (Ex×List (Nat×Kd)):=[(.ret,[(2,.list TyE),(3,.int .i64)]),(.exit 0,[(4,.own 3 TyE)])]
def gK(x:Shape.den pA):oS pA uH:=match x with
 | (v4,v12,v13,v14,()) =>
  bif ltI v14 v13 then
   bif aN v14 v12.length then aB (uD ((v12.getD v14.toNat ByteArray.empty),())) λy2 =>
   bif y2.2.1 then
    bif ltI 1000000000 y2.1 then
     some (.inr (.inl ([],4,())))
    else bif ltI y2.1 (-1000000000) then
     some (.inr (.inl ([],4,())))
    else bif Nat.ble [y2.1].length 1048576 then bif Nat.ble v4.length 1048576 then some (.inl ((v4++[y2.1]),v12,v13,(aH .i64 (v14+1)),())) else none else none
   else some (.inr (.inl ([],4,()))) else none
  else some (.inr (.inr ((v4,()))))
def mO(x:Shape.den pA):oX uH:=bF gK (2^64) x
def mX(x:aL [.list .str]):oK [.list TyE,.int .i64]:=match x with
 | (v0,()) =>
  bif !(ltI (v0.length:Int) 0) then bif !(ltI 1048576 (v0.length:Int)) then aB (mO ((List.replicate 0 (0:Ty.den TyE)),v0,(v0.length:Int),0,())) λz3 =>
  j8 z3 (λa4=>some (a4.1,a4.2.1,())) λb5 =>
  some (b5.1,0,()) else none else none
abbrev JK:Ent:=⟨67,_,_,mX⟩
theorem E5:Ent.OK tP JK:=oU (aQ (oV GF oW)) func67 3 (lp:=mO) rfl (by kernel_rfl) (by rintro⟨v4,v12,v13,v14,⟨⟩⟩; kernel_rfl) (by rintro⟨v0,⟨⟩⟩; kernel_rfl)
abbrev eS:List (Nat×Kd):=[(4,.own 3 TyE),(12,.hnd 1),(13,.int .i64),(14,.int .i64),(100000,.ar 133 .str)]
abbrev gG:List (Ex×List (Nat×Kd)):=[(.ret,[(2,.list TyE),(3,.int .i64),(100000,.ar 133 .str)]),(.exit 0,[(4,.own 3 TyE),(100000,.ar 133 .str)])]
def dK(x:Shape.den eS):oS eS gG:=match x with
 | (v4,v12,v13,v14,u00,()) =>
  bif ltI v14 v13 then
   bif aN v14 v12.2.2 then bif Nat.blt ((v12.2.1+v14.toNat)*1) (dF u00 v12.1) then aB (uD ((fG u00 v12.1 ((v12.2.1+v14.toNat)*1) ByteArray.empty),())) λy2 =>
   bif y2.2.1 then
    bif ltI 1000000000 y2.1 then
     some (.inr (.inl ([],4,u00,())))
    else bif ltI y2.1 (-1000000000) then
     some (.inr (.inl ([],4,u00,())))
    else bif Nat.ble [y2.1].length 1048576 then bif Nat.ble v4.length 1048576 then some (.inl ((v4++[y2.1]),(v12.1,v12.2.1,v12.2.2),v13,(aH .i64 (v14+1)),u00,())) else none else none
   else some (.inr (.inl ([],4,u00,()))) else none else none
  else some (.inr (.inr ((v4,u00,()))))
def iR(x:Shape.den eS):oX gG:=bF dK (2^64) x
def eV(u0:Unit)(x:aL [.hnd 1])(A:List (List ByteArray)):Option ((aL [.list TyE,.int .i64])×List (List ByteArray)):=match x with
 | (v0,()) =>
  bif !(ltI ((v0.2.2:Nat):Int) 0) then bif !(ltI 1048576 ((v0.2.2:Nat):Int)) then aB (iR ((List.replicate 0 (0:Ty.den TyE)),(v0.1,v0.2.1,v0.2.2),((v0.2.2:Nat):Int),0,A,())) λz3 =>
  j8 z3 (λa4=>some ((a4.1,a4.2.1,()),a4.2.2.1)) λb5 =>
  some ((b5.1,0,()),b5.2.1) else none else none
def lJ:Code:=cM f67
abbrev qA:Env:=qK [N8]
theorem sD:fC tP qA:=aQ ⟨GF,trivial⟩
def nF:Code:=kW lJ 0
def n9(id:Nat):Option bT:=bif Nat.beq id 3 then some ⟨eS,gG,iR⟩ else none
theorem yQ:∀ x,nP tP qA 39 (bO f67) n9 nF eS gG x=dK x:=by
 rintro⟨v4,v12,v13,v14,u00,⟨⟩⟩
 kernel_rfl
theorem BC:fJ tP 39 nF ⟨eS,gG,iR⟩:=kT sD.callee aV.mixed _ (bQ (l:=[]) (by kernel_rfl) trivial) yQ
theorem BJ:bI lJ=[nF]:=by kernel_rfl
theorem CT:∀ l x A,TO tP qA f67 (bO f67) n9 lJ 133 .str .none [.hnd 1] (.data [.list TyE,.int .i64]) l x A=eV l x A:=by
 rintro u0 ⟨v0,⟨⟩⟩ A
 kernel_rfl
theorem EH:RY tP 67 133 .str .none [.hnd 1] (.data [.list TyE,.int .i64]) eV:=OD aV sD func67 (c:=lJ) (by kernel_rfl) (aU:=bO f67) (lt:=n9) (by rfl) (bQ BJ ⟨j5 (i:=3) (by kernel_rfl) rfl BC,trivial⟩) CT
abbrev u9:Shr:=(67,aB8 0 (arH 133 .str .none [.hnd 1] (.data [.list TyE,.int .i64]) eV))
theorem C4:vB tP u9:=EV (g:=67) (f:=arH 133 .str .none [.hnd 1] (.data [.list TyE,.int .i64]) eV) (OM EH)
abbrev fT:List (Nat×Kd):=[(3,.own 126 (.hnd 1)),(6,.list TyD),(7,.int .i64),(8,.int .i64),(100000,.ar 133 .str)]
abbrev iS:List (Ex×List (Nat×Kd)):=[(.exit 0,[(3,.own 126 (.hnd 1)),(100000,.ar 133 .str)])]
def eT(x:Shape.den fT):oS fT iS:=match x with
 | (v3,v6,v7,v8,u00,()) =>
  bif ltI v8 v7 then
   bif aN v8 v6.length then aB (jN ((v6.getD v8.toNat []),())) λy2 =>
   bif Nat.ble [(u00.length,0,y2.length)].length 1048576 then bif Nat.ble v3.length 1048576 then some (.inl ((v3++[(u00.length,0,y2.length)]),v6,v7,(aH .i64 (v8+1)),(u00++[y2]),())) else none else none else none
  else some (.inr ((v3,u00,())))
def jS(x:Shape.den fT):oX iS:=bF eT (2^64) x
def fZ(u0:Unit)(x:aL [.list TyD])(A:List (List ByteArray)):Option ((List (Nat×Nat×Nat))×List (List ByteArray)):=match x with
 | (v0,()) =>
  aB (jS ([],v0,(v0.length:Int),0,A,())) λz3 =>
  some (z3.1,z3.2.1)
def mY:Code:=cM f62
abbrev rX:Env:=WH [] [vU]
theorem uR:fC tP rX:=yX trivial ⟨yF,trivial⟩
def pW:Code:=kW mY 0
def rB(id:Nat):Option bT:=bif Nat.beq id 3 then some ⟨fT,iS,jS⟩ else none
theorem BO:∀ x,nP tP rX 19 (bO f62) rB pW fT iS x=eT x:=by
 rintro⟨v3,v6,v7,v8,u00,⟨⟩⟩
 kernel_rfl
theorem CO:fJ tP 19 pW ⟨fT,iS,jS⟩:=kT uR.callee aV.mixed _ (bQ (l:=[]) (by kernel_rfl) trivial) BO
theorem C9:bI mY=[pW]:=by kernel_rfl
theorem FJ:∀ l x A,TO tP rX f62 (bO f62) rB mY 133 .str .none [.list TyD] (.own 126 (.hnd 1)) l x A=fZ l x A:=by
 rintro u0 ⟨v0,⟨⟩⟩ A
 kernel_rfl
theorem HJ:RY tP 62 133 .str .none [.list TyD] (.own 126 (.hnd 1)) fZ:=OD aV uR func62 (c:=mY) (by kernel_rfl) (aU:=bO f62) (lt:=rB) (by rfl) (bQ C9 ⟨j5 (i:=3) (by kernel_rfl) rfl CO,trivial⟩) FJ
abbrev yG:Shr:=(62,aB8 0 (arH 133 .str .none [.list TyD] (.own 126 (.hnd 1)) fZ))
theorem FR:vB tP yG:=EV (g:=62) (f:=arH 133 .str .none [.list TyD] (.own 126 (.hnd 1)) fZ) (OM HJ)
abbrev dJ:List (Nat×Kd):=[(0,.own 126 (.hnd 1)),(1,.int .i64),(5,.int .i64),(6,.int .i64),(7,.int .i64),(8,.int .i64),(100000,.ar 133 .str)]
abbrev fN:List (Ex×List (Nat×Kd)):=[(.exit 4,[(0,.own 126 (.hnd 1)),(1,.int .i64),(5,.int .i64),(6,.int .i64),(7,.int .i64),(100000,.ar 133 .str)])]
def bK(x:Shape.den dJ):oS dJ fN:=match x with
 | (v0,v1,v5,v6,v7,v8,u00,()) =>
  bif ltI v8 (v0.length:Int) then
   bif aN v8 v0.length then bif Nat.blt v8.toNat v0.length then bif aN v6 ((v0.getD v8.toNat (0,0,0)).2.2) then bif Nat.blt (((v0.getD v8.toNat (0,0,0)).2.1+v6.toNat)*1) (dF u00 ((v0.getD v8.toNat (0,0,0)).1)) then bif !(eqS (fG u00 ((v0.getD v8.toNat (0,0,0)).1) (((v0.getD v8.toNat (0,0,0)).2.1+v6.toNat)*1) ByteArray.empty) (ByteArray.mk #[48])) then
    bif ltI v7 0 then
     some (.inl (v0,v1,v5,v6,v8,(aH .i64 (v8+1)),u00,()))
    else bif aN v8 v0.length then bif Nat.blt v8.toNat v0.length then bif aN v6 ((v0.getD v8.toNat (0,0,0)).2.2) then bif Nat.blt (((v0.getD v8.toNat (0,0,0)).2.1+v6.toNat)*1) (dF u00 ((v0.getD v8.toNat (0,0,0)).1)) then aB (BE ((fG u00 ((v0.getD v8.toNat (0,0,0)).1) (((v0.getD v8.toNat (0,0,0)).2.1+v6.toNat)*1) ByteArray.empty),())) λy4 =>
    bif aN v7 v0.length then bif Nat.blt v7.toNat v0.length then bif aN v6 ((v0.getD v7.toNat (0,0,0)).2.2) then bif Nat.blt (((v0.getD v7.toNat (0,0,0)).2.1+v6.toNat)*1) (dF u00 ((v0.getD v7.toNat (0,0,0)).1)) then aB (BE ((fG u00 ((v0.getD v7.toNat (0,0,0)).1) (((v0.getD v7.toNat (0,0,0)).2.1+v6.toNat)*1) ByteArray.empty),())) λy5 =>
    aB (tR (y4.1,y5.1,())) λy6 =>
    bif ltI y6.1 0 then
     some (.inl (v0,v1,v5,v6,v8,(aH .i64 (v8+1)),u00,()))
    else some (.inl (v0,v1,v5,v6,v7,(aH .i64 (v8+1)),u00,())) else none else none else none else none else none else none else none else none
   else some (.inl (v0,v1,v5,v6,v7,(aH .i64 (v8+1)),u00,())) else none else none else none else none
  else some (.inr ((v0,v1,v5,v6,v7,u00,())))
def eP(x:Shape.den dJ):oX fN:=bF bK (2^64) x
abbrev dR:List (Nat×Kd):=[(0,.own 126 (.hnd 1)),(1,.int .i64),(5,.int .i64),(6,.int .i64),(9,.bool),(10,.int .i64),(100000,.ar 133 .str)]
abbrev fM:List (Ex×List (Nat×Kd)):=[(.exit 6,[(0,.own 126 (.hnd 1)),(1,.int .i64),(5,.int .i64),(6,.int .i64),(9,.bool),(100000,.ar 133 .str)])]
def bV(x:Shape.den dR):oS dR fM:=match x with
 | (v0,v1,v5,v6,v9,v10,u00,()) =>
  bif ltI v10 (v0.length:Int) then
   bif aN v10 v0.length then bif Nat.blt v10.toNat v0.length then bif aN v6 ((v0.getD v10.toNat (0,0,0)).2.2) then bif Nat.blt (((v0.getD v10.toNat (0,0,0)).2.1+v6.toNat)*1) (dF u00 ((v0.getD v10.toNat (0,0,0)).1)) then bif aN v5 v0.length then bif Nat.blt v5.toNat v0.length then bif aN v6 ((v0.getD v5.toNat (0,0,0)).2.2) then bif Nat.blt (((v0.getD v5.toNat (0,0,0)).2.1+v6.toNat)*1) (dF u00 ((v0.getD v5.toNat (0,0,0)).1)) then aB (pV ((fG u00 ((v0.getD v10.toNat (0,0,0)).1) (((v0.getD v10.toNat (0,0,0)).2.1+v6.toNat)*1) ByteArray.empty),(fG u00 ((v0.getD v5.toNat (0,0,0)).1) (((v0.getD v5.toNat (0,0,0)).2.1+v6.toNat)*1) ByteArray.empty),())) λy10 =>
   bif aN v10 v0.length then bif Nat.blt v10.toNat v0.length then bif aN v5 v0.length then bif Nat.blt v5.toNat v0.length then aB (cX () (((v0.getD v10.toNat (0,0,0)).1,(v0.getD v10.toNat (0,0,0)).2.1,(v0.getD v10.toNat (0,0,0)).2.2),y10.1,((v0.getD v5.toNat (0,0,0)).1,(v0.getD v5.toNat (0,0,0)).2.1,(v0.getD v5.toNat (0,0,0)).2.2),()) u00) λy11 =>
   bif v9 then
    some (.inl (v0,v1,v5,v6,true,(aH .i64 (v10+1)),y11.2,()))
   else some (.inl (v0,v1,v5,v6,!(eqS y10.2.1 (ByteArray.mk #[48])),(aH .i64 (v10+1)),y11.2,())) else none else none else none else none else none else none else none else none else none else none else none else none
  else some (.inr ((v0,v1,v5,v6,v9,u00,())))
def gM(x:Shape.den dR):oX fM:=bF bV (2^64) x
abbrev dI:List (Nat×Kd):=[(0,.own 126 (.hnd 1)),(1,.int .i64),(5,.int .i64),(6,.int .i64),(142,.int .i64),(143,.int .i64),(100000,.ar 133 .str)]
abbrev fI:List (Ex×List (Nat×Kd)):=[(.exit 8,[(0,.own 126 (.hnd 1)),(1,.int .i64),(5,.int .i64),(6,.int .i64),(100000,.ar 133 .str)])]
def eL(x:Shape.den dI):oS dI fI:=match x with
 | (v0,v1,v5,v6,v142,v143,u00,()) =>
  bif ltI v143 v142 then
   bif aN v143 v0.length then bif Nat.blt v143.toNat v0.length then bif aN v6 ((v0.getD v143.toNat (0,0,0)).2.2) then bif Nat.blt (((v0.getD v143.toNat (0,0,0)).2.1+v6.toNat)*1) (dF u00 ((v0.getD v143.toNat (0,0,0)).1)) then bif aN v5 v0.length then bif Nat.blt v5.toNat v0.length then bif aN v6 ((v0.getD v5.toNat (0,0,0)).2.2) then bif Nat.blt (((v0.getD v5.toNat (0,0,0)).2.1+v6.toNat)*1) (dF u00 ((v0.getD v5.toNat (0,0,0)).1)) then aB (pV ((fG u00 ((v0.getD v143.toNat (0,0,0)).1) (((v0.getD v143.toNat (0,0,0)).2.1+v6.toNat)*1) ByteArray.empty),(fG u00 ((v0.getD v5.toNat (0,0,0)).1) (((v0.getD v5.toNat (0,0,0)).2.1+v6.toNat)*1) ByteArray.empty),())) λy17 =>
   bif aN v143 v0.length then bif Nat.blt v143.toNat v0.length then bif aN v5 v0.length then bif Nat.blt v5.toNat v0.length then aB (cX () (((v0.getD v143.toNat (0,0,0)).1,(v0.getD v143.toNat (0,0,0)).2.1,(v0.getD v143.toNat (0,0,0)).2.2),y17.1,((v0.getD v5.toNat (0,0,0)).1,(v0.getD v5.toNat (0,0,0)).2.1,(v0.getD v5.toNat (0,0,0)).2.2),()) u00) λy18 =>
   some (.inl (v0,v1,v5,v6,v142,(aH .i64 (v143+1)),y18.2,())) else none else none else none else none else none else none else none else none else none else none else none else none
  else some (.inr ((v0,v1,v5,v6,u00,())))
def bJ(x:Shape.den dI):oX fI:=bF eL (2^64) x
abbrev dM:List (Nat×Kd):=[(0,.own 126 (.hnd 1)),(1,.int .i64),(5,.int .i64),(6,.int .i64),(100000,.ar 133 .str)]
abbrev fO:List (Ex×List (Nat×Kd)):=[(.exit 2,[(0,.own 126 (.hnd 1)),(1,.int .i64),(5,.int .i64),(6,.int .i64),(100000,.ar 133 .str)])]
def bL(x:Shape.den dM):oS dM fO:=match x with
 | (v0,v1,v5,v6,u00,()) =>
  aB (eP (v0,v1,v5,v6,(-1),v5,u00,())) λz21 =>
  bif ltI z21.2.2.2.2.1 0 then
   some (.inr ((z21.1,z21.2.1,z21.2.2.1,z21.2.2.2.1,z21.2.2.2.2.2.1,())))
  else bif aN z21.2.2.2.2.1 z21.1.length then bif Nat.blt z21.2.2.2.2.1.toNat z21.1.length then bif aN z21.2.2.1 z21.1.length then bif Nat.blt z21.2.2.1.toNat z21.1.length then bif aN z21.2.2.1 z21.1.length then bif Nat.blt z21.2.2.1.toNat z21.1.length then bif aN z21.2.2.2.2.1 (z21.1.set z21.2.2.1.toNat ((z21.1.getD z21.2.2.2.2.1.toNat (0,0,0)).1,(z21.1.getD z21.2.2.2.2.1.toNat (0,0,0)).2.1,(z21.1.getD z21.2.2.2.2.1.toNat (0,0,0)).2.2)).length then bif Nat.blt z21.2.2.2.2.1.toNat (z21.1.set z21.2.2.1.toNat ((z21.1.getD z21.2.2.2.2.1.toNat (0,0,0)).1,(z21.1.getD z21.2.2.2.2.1.toNat (0,0,0)).2.1,(z21.1.getD z21.2.2.2.2.1.toNat (0,0,0)).2.2)).length then aB (gM (((z21.1.set z21.2.2.1.toNat ((z21.1.getD z21.2.2.2.2.1.toNat (0,0,0)).1,(z21.1.getD z21.2.2.2.2.1.toNat (0,0,0)).2.1,(z21.1.getD z21.2.2.2.2.1.toNat (0,0,0)).2.2)).set z21.2.2.2.2.1.toNat ((z21.1.getD z21.2.2.1.toNat (0,0,0)).1,(z21.1.getD z21.2.2.1.toNat (0,0,0)).2.1,(z21.1.getD z21.2.2.1.toNat (0,0,0)).2.2)),z21.2.1,z21.2.2.1,z21.2.2.2.1,false,(aH .i64 (z21.2.2.1+1)),z21.2.2.2.2.2.1,())) λz22 =>
  bif z22.2.2.2.2.1 then
   some (.inl (z22.1,z22.2.1,z22.2.2.1,z22.2.2.2.1,z22.2.2.2.2.2.1,()))
  else bif aN z22.2.2.1 z22.1.length then bif Nat.blt z22.2.2.1.toNat z22.1.length then bif aN z22.2.2.2.1 ((z22.1.getD z22.2.2.1.toNat (0,0,0)).2.2) then bif Nat.blt (((z22.1.getD z22.2.2.1.toNat (0,0,0)).2.1+z22.2.2.2.1.toNat)*1) (dF z22.2.2.2.2.2.1 ((z22.1.getD z22.2.2.1.toNat (0,0,0)).1)) then aB (rH ((fG z22.2.2.2.2.2.1 ((z22.1.getD z22.2.2.1.toNat (0,0,0)).1) (((z22.1.getD z22.2.2.1.toNat (0,0,0)).2.1+z22.2.2.2.1.toNat)*1) ByteArray.empty),())) λy23 =>
  bif ltI y23.1 0 then
   bif aN z22.2.2.1 z22.1.length then bif Nat.blt z22.2.2.1.toNat z22.1.length then aB (b8 () (((z22.1.getD z22.2.2.1.toNat (0,0,0)).1,(z22.1.getD z22.2.2.1.toNat (0,0,0)).2.1,(z22.1.getD z22.2.2.1.toNat (0,0,0)).2.2),()) z22.2.2.2.2.2.1) λy24 =>
   aB (bJ (z22.1,z22.2.1,z22.2.2.1,z22.2.2.2.1,z22.2.2.1,0,y24.2,())) λz25 =>
   some (.inr ((z25.1,z25.2.1,(aH .i64 (z25.2.2.1+1)),z25.2.2.2.1,z25.2.2.2.2.1,()))) else none else none
  else aB (bJ (z22.1,z22.2.1,z22.2.2.1,z22.2.2.2.1,z22.2.2.1,0,z22.2.2.2.2.2.1,())) λz26 =>
  some (.inr ((z26.1,z26.2.1,(aH .i64 (z26.2.2.1+1)),z26.2.2.2.1,z26.2.2.2.2.1,()))) else none else none else none else none else none else none else none else none else none else none else none else none
def eK(x:Shape.den dM):oX fO:=bF bL (2^64) x
abbrev dO:List (Nat×Kd):=[(0,.own 126 (.hnd 1)),(1,.int .i64),(5,.int .i64),(6,.int .i64),(100000,.ar 133 .str)]
abbrev fQ:List (Ex×List (Nat×Kd)):=[(.exit 0,[(0,.own 126 (.hnd 1)),(5,.int .i64),(100000,.ar 133 .str)])]
def bW(x:Shape.den dO):oS dO fQ:=match x with
 | (v0,v1,v5,v6,u00,()) =>
  bif ltI v6 v1 then
   bif ltI v5 (v0.length:Int) then
    aB (eK (v0,v1,v5,v6,u00,())) λz28 =>
    some (.inl (z28.1,z28.2.1,z28.2.2.1,(aH .i64 (z28.2.2.2.1+1)),z28.2.2.2.2.1,()))
   else some (.inr ((v0,v5,u00,())))
  else some (.inr ((v0,v5,u00,())))
def gN(x:Shape.den dO):oX fQ:=bF bW (2^64) x
def dS(v0:List (Nat×Nat×Nat))(x:aL [.int .i64])(A:List (List ByteArray)):Option ((List (Nat×Nat×Nat))×List (List ByteArray)):=match x with
 | (v1,()) =>
  aB (gN (v0,v1,0,0,A,())) λz29 =>
  bif Nat.beq z29.1.length 0 then
   bif !(ltI z29.2.1 0) then bif Nat.beq z29.2.1.toNat 0 then some (z29.1,z29.2.2.1) else none else none
  else bif !(ltI z29.2.1 0) then bif Nat.ble 0 z29.2.1.toNat then bif Nat.ble z29.2.1.toNat z29.1.length then bif Nat.blt 0 z29.1.length then some (z29.1.take (z29.2.1.toNat-0),z29.2.2.1) else none else none else none else none
def kC:Code:=cM Tryz.f63
abbrev dN:Env:=WH [TQ,HB,CK,RF] [wU,tV]
theorem dX:fC tP dN:=yX ⟨VU,NW,D4,HZ,trivial⟩ ⟨DW,BN,trivial⟩
def fU:Code:=kW kC 0
def cQ:Code:=kW fU 0
def lS:Code:=kW cQ 0
def lT:Code:=kW cQ 1
def lP:Code:=kW cQ 2
def cZ(id:Nat):Option bT:=bif Nat.beq id 7 then some ⟨dJ,fN,eP⟩ else bif Nat.beq id 15 then some ⟨dR,fM,gM⟩ else bif Nat.beq id 24 then some ⟨dI,fI,bJ⟩ else bif Nat.beq id 5 then some ⟨dM,fO,eK⟩ else bif Nat.beq id 3 then some ⟨dO,fQ,gN⟩ else none
theorem wJ:∀ x,nP tP dN 181 (bO Tryz.f63) cZ lS dJ fN x=bK x:=by
 rintro⟨v0,v1,v5,v6,v7,v8,u00,⟨⟩⟩
 kernel_rfl
theorem xY:fJ tP 181 lS ⟨dJ,fN,eP⟩:=kT dX.callee aV.mixed _ (bQ (l:=[]) (by kernel_rfl) trivial) wJ
theorem wT:∀ x,nP tP dN 181 (bO Tryz.f63) cZ lT dR fM x=bV x:=by
 rintro⟨v0,v1,v5,v6,v9,v10,u00,⟨⟩⟩
 kernel_rfl
theorem xS:fJ tP 181 lT ⟨dR,fM,gM⟩:=kT dX.callee aV.mixed _ (bQ (l:=[]) (by kernel_rfl) trivial) wT
theorem xC:∀ x,nP tP dN 181 (bO Tryz.f63) cZ lP dI fI x=eL x:=by
 rintro⟨v0,v1,v5,v6,v142,v143,u00,⟨⟩⟩
 kernel_rfl
theorem yC:fJ tP 181 lP ⟨dI,fI,bJ⟩:=kT dX.callee aV.mixed _ (bQ (l:=[]) (by kernel_rfl) trivial) xC
theorem xA:∀ x,nP tP dN 181 (bO Tryz.f63) cZ cQ dM fO x=bL x:=by
 rintro⟨v0,v1,v5,v6,u00,⟨⟩⟩
 kernel_rfl
theorem A5:bI cQ=[lS,lT,lP]:=by kernel_rfl
theorem xQ:fJ tP 181 cQ ⟨dM,fO,eK⟩:=kT dX.callee aV.mixed _ (bQ A5 ⟨j5 (i:=7) (by kernel_rfl) rfl xY,j5 (i:=15) (by kernel_rfl) rfl xS,j5 (i:=24) (by kernel_rfl) rfl yC,trivial⟩) xA
theorem xL:∀ x,nP tP dN 181 (bO Tryz.f63) cZ fU dO fQ x=bW x:=by
 rintro⟨v0,v1,v5,v6,u00,⟨⟩⟩
 kernel_rfl
theorem AV:bI fU=[cQ]:=by kernel_rfl
theorem xX:fJ tP 181 fU ⟨dO,fQ,gN⟩:=kT dX.callee aV.mixed _ (bQ AV ⟨j5 (i:=5) (by kernel_rfl) rfl xQ,trivial⟩) xL
theorem yN:bI kC=[fU]:=by kernel_rfl
theorem zX:∀ l x A,TO tP dN Tryz.f63 (bO Tryz.f63) cZ kC 133 .str (.own 126 (.hnd 1)) [.int .i64] (.own 126 (.hnd 1)) l x A=dS l x A:=by
 rintro u0 ⟨v1,⟨⟩⟩ A
 kernel_rfl
theorem CX:RY tP 63 133 .str (.own 126 (.hnd 1)) [.int .i64] (.own 126 (.hnd 1)) dS:=OD aV dX func63 (c:=kC) (by kernel_rfl) (aU:=bO Tryz.f63) (lt:=cZ) (by rfl) (bQ yN ⟨j5 (i:=3) (by kernel_rfl) rfl xX,trivial⟩) zX
abbrev tD:Shr:=(63,aB8 1 (arH 133 .str (.own 126 (.hnd 1)) [.int .i64] (.own 126 (.hnd 1)) dS))
theorem BB:vB tP tD:=EV (g:=63) (f:=arH 133 .str (.own 126 (.hnd 1)) [.int .i64] (.own 126 (.hnd 1)) dS) (OM CX)
end Go.PM
namespace Go.PM
open Go Go.RowKit
def aGV(P:Program)(E:Env)(fn:Func)(aU:Nat)(lt rt:Nat->Option bT)(c:Code)(ae:TypeId)(t:Ty)(tk:Tk) args (an:An)(l:tk.den)(x:aL args)(A:List (List t.den)):Option (an.den×List (List t.den)) :=
 bif Nat.ble (tk.pv 0++eX args x).length fn.ntmps then sC P E fn.ntmps aU lt rt false [] c (start aU 0 (tk.pv 0++eX args x)) (xJ (tk.ow l 0)++[some (arB ae t A)]) (aQ6 P fn.results.toList ae t an) else none
section
variable {P:Program} {n0:Nat->Prop} {w w':World} {G G1 G2:Gd} {μ μ2:Mp} {H H':Heap} {ae:TypeId} {t:Ty} {A B:List (List t.den)}
theorem aRY {E:Env} (hP:tW P) (hE:fC P E) {g:Nat} {fn:Func} (hg:P.funcs[g]?=some fn) {c:Code} (hc:fn.body=some c) {aU:Nat} {lt rt:Nat->Option bT} {ae:TypeId} {t:Ty} {tk:Tk} {args:List Kd} {an:An} {f:tk.den->aL args->List (List t.den)->Option (an.den×List (List t.den))}
  (hd:ME args=true) (hl:∀ a∈bP c,CB P fn.ntmps lt rt false [] a) (hb:∀ l x A,aGV P E fn aU lt rt c ae t tk args an l x A=f l x A):RY P g ae t tk args an f:=by
 intro l x A y B hy n0 G μ H w us ra r hW har ho hv;rw[<- hb]at hy;unfold aGV at hy;obtain⟨hlen,hy⟩:=aG hy;obtain⟨⟨ex,F',H'⟩,h1,h2⟩:=gR hE.callee hP.mixed c _ _ _ _ hl hy;obtain⟨vs,B',hex,hvs,hB,hq,rfl⟩:∃ vs B',(ex=.normal\/ex=.ret)/\jF P F' H' fn.results.toList=some vs/\aKM ae t H'=some B'/\aAQ an (cG vs) H'=some y/\B'.2=B:=by
  unfold aQ6 at h1;split at h1
  ·cases h1
  ·rename_i hne;split at h1
   ·rename_i vs hvs;split at h1
    ·rename_i B' hB;split at h1
     ·rename_i y' hy';simp only[oJ,oP]at h1;obtain⟨rfl,h1⟩:=h1;refine⟨vs,B',?_,hvs,hB,hy',h1⟩;cases ex with
      | normal=>exact .inl rfl
      | ret=>exact .inr rfl
      | exit i=>exact absurd rfl (hne i)
     ·cases h1
    ·cases h1
   ·cases h1
 have hargs:VRs w G (mpA μ (tk.ow l r) A.length) (tk.pv 0++eX args x) us:=by
  have hn:=yZ args x hd;cases tk with
  | none=>exact VRs.aP (bG _ _ hn hv)
  | own e u =>
   change VRs w G μ (.own r u.size::eX args x) us at hv;change VRs w G _ (.own 0 u.size::eX args x) us;rw[VRs]at hv ⊢;obtain⟨v,us',rfl,q1,q2⟩:=hv;refine⟨v,us',rfl,?_,VRs.aP (bG _ _ hn q2)⟩;rw[VR]at q1 ⊢;exact q1
 have howb:xJ (tk.ow l 0)=xJ (tk.ow l r):=by cases tk <;> rfl
 have hW1:=LU hW ho har;rw[<- howb]at hW1;have e0:Ext (wrA w G μ (tk.ow l r)) w G aF w G (mpA μ (tk.ow l r) A.length) :=
  ⟨⟨λb hb=>⟨hb,rfl⟩,λ_ _ h=>(by cases h),λ_ _ h=>(by cases h),λ_ _ h=>h,λ_ _ h=>h,λ_ _ h=>(by cases h)⟩,rfl,rfl,rfl,oM _,λ_ _ _=>rfl,λ_ h=>.inl h⟩
 refine⟨enters hg (hP.names g fn hg) (by rw[hc]; rfl) _ _,(callsIn_wide (n:=0)).1 (callsIn_of_wp_marks hg hc trivial ?_)⟩;have hI:I (wrA w G μ (tk.ow l r)) w G aF fn.ntmps (start aU 0 (tk.pv 0++eX args x)) (xJ (tk.ow l 0)++[some (arB ae t A)]) ⟨us.toArray++Array.replicate (fn.ntmps-us.toArray.size) undef,[]⟩ w :=
  ⟨G,_,e0,hW1,lB (by simpa using hargs) (oL hlen)⟩
 refine wpIn_mono (h2 none 0 _ w G aF _ w (λ_=>rfl) (λr _=>⟨rfl,rfl⟩) hI.aUK) ?_;rintro e1 ⟨tm,ds⟩ w' ⟨rfl,hI',_⟩;have hend:∀ w',IM (wrA w G μ (tk.ow l r)) w G aF fn.ntmps F' H' { tmps:=tm,defers:=[] } w'->LeavesIn Fence.wide 0 P fn tm (λen w'=>∃ v' G'' μ'',en=.returned v'/\Ext n0 w G μ w' G'' μ''/\aM n0 G'' μ'' (((B1 (tk.ow l r) H).set ra none)++(some (arB ae t B'.2)::an.hp y)) w'/\VR w' G'' μ'' (an.pv y (H.length+1)) v') [] .returning w':=by
  rintro w' ⟨G1,μ1,ee,hW',hF',_⟩;obtain⟨ws,h3,h4⟩:=gH (P:=P) hW' hF' hvs;have hres:(results fn tm).run P w'=.ok (if hh:ws.toArray.size=1 then ws.toArray[0] else .tuple ws.toArray) w':=by
   rw[mR,Array.mapM_eq_mapM_toList];simp only[Sem.run_bind,Sem.run_map,h3,Result.andThen_ok,Sem.run_pure]
  have hrb:=K6 hW' hB;obtain⟨G2,μ3,b1,b2,b3⟩:∃ G2 μ3,Ext n0 w G μ w' G2 μ3/\aM n0 G2 μ3 (((B1 (tk.ow l r) H).set ra none)++(some (arB ae t B'.2)::an.hp y)) w'/\VR w' G2 μ3 (an.pv y (H.length+1)) (if hh:ws.toArray.size=1 then ws.toArray[0] else .tuple ws.toArray):=by
   have hvr:=iH h4;cases an with
   | data rets =>
    simp only[aAQ]at hq;split at hq
    ·rename_i q hq';have hb:=I1 (G2:=⟨λb=>G1 b\/∃ s k,H'[s]?=some (some k)/\k.frozen=false/\μ1.loc s=some b,G1.row⟩) hW ho har ee hW' hrb (os:=none) ⟨λ_ _ _ h=>by cases h⟩ (λ_=>rfl) (λb hb=>.inl hb) (λb hb=>by
      rcases hb with h|⟨s,k,z1,z2,z3⟩
      ·exact .inl h
      ·exact .inr ⟨s,k,z1,z2,z3,λ_ _ _ h=>by cases h⟩)
     refine⟨_,_,hb.1,hb.2,?_⟩;have:=tA (G':=⟨λb=>G1 b\/∃ s k,H'[s]?=some (some k)/\k.frozen=false/\μ1.loc s=some b,G1.row⟩) hW' (λ_ _ h=>h) (λb hb=>.inl hb) (λs k1 b hs _ hb=>by
      obtain⟨_,_,_,_,g5,_⟩:=hW'.blk s k1 b hs hb;cases hf:k1.frozen with
      | true=>exact .inl (g5 hf)
      | false=>exact .inr ⟨s,k1,hs,hf,hb⟩) depth _ q _ hq' hvr
     exact(BW hq this).aP
    ·cases hq
   | own e u =>
    simp only[aAQ]at hq;obtain⟨r1,l0,hos,hvv⟩:=VG hW' hq hvr;have hb:=I1 (G2:=G1) hW ho har ee hW' hrb hos (λ_=>rfl) (λb hb=>hb) (λb hb=>.inl hb);refine⟨_,_,hb.1,hb.2,hvv _ _ _ ?_ ?_ ?_⟩
    ·have h1:¬ H.length+1<H.length:=by omega
     simp[gI,h1,aIX]
    ·have h1:¬ H.length+1<H.length:=by omega
     simp[gI,h1,aG7]
    ·have h1:¬ H.length+1<H.length:=by omega
     simp[gI,h1,shS]
   | str t1 e u t2 =>
    simp only[aAQ]at hq;obtain⟨r1,hos,hvv⟩:=SJ hW' hq hvr;have hb:=I1 (G2:=⟨λb=>G1 b\/∃ s k,H'[s]?=some (some k)/\k.frozen=false/\μ1.loc s=some b/\s≠r1,G1.row⟩) hW ho har ee hW' hrb hos (λ_=>rfl) (λb hb=>.inl hb) (λb hb=>by
     rcases hb with h|⟨s,k,z1,z2,z3,z4⟩
     ·exact .inl h
     ·exact .inr ⟨s,k,z1,z2,z3,λ_ _ _ h=>by cases h; exact z4⟩)
    refine⟨_,_,hb.1,hb.2,hvv ⟨λb=>G1 b\/∃ s k,H'[s]?=some (some k)/\k.frozen=false/\μ1.loc s=some b/\s≠r1,G1.row⟩ (λ_ _ h=>h) (λb hb=>.inl hb) (λs k b z1 z2 z3 z4=>.inr ⟨s,k,z1,z2,z4,z3⟩) _ _ ?_ ?_ ?_⟩
    ·have h1:¬ H.length+1<H.length:=by omega
     simp[gI,h1,aIX]
    ·have h1:¬ H.length+1<H.length:=by omega
     simp[gI,h1,aG7]
    ·have h1:¬ H.length+1<H.length:=by omega
     simp[gI,h1,shS]
  exact⟨_,hres,_,G2,μ3,rfl,b1,b2,b3⟩
 rcases hex with rfl|rfl
 ·exact o5 (λb hb=>(LU hW ho har).base b hb) hend ds w' hI'
 ·exact o5 (λb hb=>(LU hW ho har).base b hb) hend ds w' hI'
end
open Go Go.RowKit Go.Proofs Tryz
set_option maxHeartbeats 4000000
def PO(x:aL [.int .i64]):oK [.bool]:=match x with
 | (v0,()) =>
  bif !(ltI v0 (-1000000000)) then
   some (!(ltI 1000000000 v0),())
  else some (false,())
abbrev aJ8:Ent:=⟨46,_,_,PO⟩
theorem YT:Ent.OK tP aJ8:=oI (aQ oW) func46 (by kernel_rfl) (by rintro⟨v0,⟨⟩⟩; kernel_rfl)
def EZ(x:aL [.int .i64]):oK [.bool]:=match x with
 | (v0,()) =>
  aB (PO (v0,())) λy1 =>
  bif y1.1 then
   some (false,())
  else some (true,())
abbrev aA3:Ent:=⟨45,_,_,EZ⟩
theorem RH:Ent.OK tP aA3:=oI (aQ (oV YT oW)) func45 (by kernel_rfl) (by rintro⟨v0,⟨⟩⟩; kernel_rfl)
abbrev iD:List (Nat×Kd):=[(0,.list TyE),(1,.fn 45),(7,.int .i64),(8,.int .i64)]
abbrev lM:List (Ex×List (Nat×Kd)):=[(.ret,[(4,.int .i64)]),(.exit 0,[])]
def cC(x:Shape.den iD):oS iD lM:=match x with
 | (v0,v1,v7,v8,()) =>
  bif ltI v8 v7 then
   bif aN v8 v0.length then aB (EZ ((v0.getD v8.toNat 0),())) λy2 =>
   bif y2.1 then
    some (.inr (.inl (v8,())))
   else some (.inl (v0,(),v7,(aH .i64 (v8+1)),())) else none
  else some (.inr (.inr ((()))))
def gF(x:Shape.den iD):oX lM:=bF cC (2^64) x
def jK(x:aL [.list TyE,.fn 45]):oK [.int .i64]:=match x with
 | (v0,v1,()) =>
  aB (gF (v0,(),(v0.length:Int),0,())) λz3 =>
  j8 z3 (λa4=>some (a4.1,())) λb5 =>
  some ((-1),())
abbrev vS:Ent:=⟨71,_,_,jK⟩
theorem tI:Ent.OK tP vS:=oU (aQ (oV RH oW)) func71 2 (lp:=gF) rfl (by kernel_rfl) (by rintro⟨v0,v1,v7,v8,⟨⟩⟩; kernel_rfl) (by rintro⟨v0,v1,⟨⟩⟩; kernel_rfl)
def iF(x:aL [.list TyE,.fn 45]):oK [.bool]:=match x with
 | (v0,v1,()) =>
  aB (jK (v0,(),())) λy1 =>
  some (!(ltI y1.1 0),())
abbrev tL:Ent:=⟨44,_,_,iF⟩
theorem rY:Ent.OK tP tL:=oI (aQ (oV tI oW)) func44 (by kernel_rfl) (by rintro⟨v0,v1,⟨⟩⟩; kernel_rfl)
def sP(x:aL [.list TyE]):oK [.int .i64]:=match x with
 | (v0,()) =>
  bif ltI 64 (v0.length:Int) then
   some (4,())
  else aB (iF (v0,(),())) λy1 =>
  bif y1.1 then
   some (4,())
  else some (0,())
abbrev aFF:Ent:=⟨25,_,_,sP⟩
theorem CV:Ent.OK tP aFF:=oI (aQ (oV rY oW)) func25 (by kernel_rfl) (by rintro⟨v0,⟨⟩⟩; kernel_rfl)
abbrev vV:List (Nat×Kd):=[(1,.int .i64),(8,.list TyD),(9,.int .i64),(10,.int .i64)]
abbrev DT:List (Ex×List (Nat×Kd)):=[(.ret,[(4,.int .i64)]),(.exit 0,[])]
def lG(x:Shape.den vV):oS vV DT:=match x with
 | (v1,v8,v9,v10,()) =>
  bif ltI v10 v9 then
   bif aN v10 v8.length then aB (sP ((v8.getD v10.toNat []),())) λy2 =>
   bif !(eqI y2.1 0) then
    some (.inr (.inl (y2.1,())))
   else bif !(eqI ((v8.getD v10.toNat []).length:Int) v1) then
    some (.inr (.inl (5,())))
   else some (.inl (v1,v8,v9,(aH .i64 (v10+1)),())) else none
  else some (.inr (.inr ((()))))
def sR(x:Shape.den vV):oX DT:=bF lG (2^64) x
def pO(x:aL [.list TyD,.int .i64]):oK [.int .i64]:=match x with
 | (v0,v1,()) =>
  aB (sR (v1,v0,(v0.length:Int),0,())) λz3 =>
  j8 z3 (λa4=>some (a4.1,())) λb5 =>
  some (0,())
abbrev WM:Ent:=⟨43,_,_,pO⟩
theorem DH:Ent.OK tP WM:=oU (aQ (oV CV oW)) func43 2 (lp:=sR) rfl (by kernel_rfl) (by rintro⟨v1,v8,v9,v10,⟨⟩⟩; kernel_rfl) (by rintro⟨v0,v1,⟨⟩⟩; kernel_rfl)
def qV(x:aL [.int .i64,.list TyD]):oK [.int .i64]:=match x with
 | (v0,v1,()) =>
  bif ltI v0 0 then
   some (3,())
  else bif ltI 12 v0 then
   some (3,())
  else bif ltI 12 (v1.length:Int) then
   some (4,())
  else aB (pO (v1,v0,())) λy1 =>
  some (y1.1,())
abbrev GY:Ent:=⟨61,_,_,qV⟩
theorem BX:Ent.OK tP GY:=oI (aQ (oV DH oW)) func61 (by kernel_rfl) (by rintro⟨v0,v1,⟨⟩⟩; kernel_rfl)
abbrev dV:List (Nat×Kd):=[(4,.bag 93 TyE 29 TyD none),(6,.bag 93 TyE 29 TyD none),(13,.own 126 (.hnd 1)),(14,.int .i64),(15,.int .i64),(100000,.ar 133 .str)]
abbrev fK:List (Ex×List (Nat×Kd)):=[(.ret,[(4,.bag 93 TyE 29 TyD none),(5,.int .i64),(100000,.ar 133 .str)]),(.exit 0,[(4,.bag 93 TyE 29 TyD none),(6,.bag 93 TyE 29 TyD none),(100000,.ar 133 .str)])]
def cV(x:Shape.den dV):oS dV fK:=match x with
 | (v4,v6,v13,v14,v15,u00,()) =>
  bif ltI v15 v14 then
   bif aN v15 v13.length then bif Nat.blt v15.toNat v13.length then aB (eV () (((v13.getD v15.toNat (0,0,0)).1,(v13.getD v15.toNat (0,0,0)).2.1,(v13.getD v15.toNat (0,0,0)).2.2),()) u00) λy2 =>
   bif !(eqI y2.1.2.1 0) then
    some (.inr (.inl ((0,([],())),y2.1.2.1,y2.2,())))
   else bif Nat.ble [y2.1.1].length 1048576 then bif Nat.ble v6.2.1.length 1048576 then some (.inl ((v4.1,(v4.2.1,())),(v6.1,((v6.2.1++[y2.1.1]),())),v13,v14,(aH .i64 (v15+1)),y2.2,())) else none else none else none else none
  else some (.inr (.inr (((v4.1,(v4.2.1,())),(v6.1,(v6.2.1,())),u00,()))))
def gO(x:Shape.den dV):oX fK:=bF cV (2^64) x
def dU(v0:List (Nat×Nat×Nat))(x:aL [.int .i64])(A:List (List ByteArray)):Option ((aL [.agg TyH,.int .i64])×List (List ByteArray)):=match x with
 | (v1,()) =>
  aB (gO ((0,([],())),(v1,([],())),v0,(v0.length:Int),0,A,())) λz3 =>
  j8 z3 (λa4=>some (((a4.1.1,a4.1.2.1),a4.2.1,()),a4.2.2.1)) λb5 =>
  some (((b5.2.1.1,b5.2.1.2.1),0,()),b5.2.2.1)
def kB:Code:=cM Tryz.f64
abbrev nA:Env:=WH [] [u9]
theorem qZ:fC tP nA:=yX trivial ⟨C4,trivial⟩
def lQ:Code:=inLoop (zT kB 0)
def mM(id:Nat):Option bT:=bif Nat.beq id 3 then some ⟨dV,fK,gO⟩ else none
def mK(id:Nat):Option bT:=none
theorem xD:∀ x,E8 tP nA 36 (j7 Tryz.f64) mM mK false [] lQ dV fK x=cV x:=by
 rintro⟨v4,v6,v13,v14,v15,u00,⟨⟩⟩
 kernel_rfl
theorem xW:qL tP 36 false [] (.loop lQ) ⟨dV,fK,gO⟩:=xB qZ.callee aV.mixed _ (gY (l:=[]) (by kernel_rfl) trivial) xD
theorem yO:bP kB=[.loop lQ]:=by kernel_rfl
theorem A9:∀ l x A,aGV tP nA Tryz.f64 (j7 Tryz.f64) mM mK kB 133 .str (.own 126 (.hnd 1)) [.int .i64] (.data [.agg TyH,.int .i64]) l x A=dU l x A:=by
 rintro u0 ⟨v1,⟨⟩⟩ A
 kernel_rfl
theorem CS:RY tP 64 133 .str (.own 126 (.hnd 1)) [.int .i64] (.data [.agg TyH,.int .i64]) dU:=aRY aV qZ func64 (c:=kB) (by kernel_rfl) (aU:=j7 Tryz.f64) (lt:=mM) (rt:=mK) (by rfl) (gY yO ⟨AR (i:=3) (by kernel_rfl) rfl xW,trivial⟩) A9
abbrev sZ:Shr:=(64,aB8 1 (arH 133 .str (.own 126 (.hnd 1)) [.int .i64] (.data [.agg TyH,.int .i64]) dU))
theorem A6:vB tP sZ:=EV (g:=64) (f:=arH 133 .str (.own 126 (.hnd 1)) [.int .i64] (.data [.agg TyH,.int .i64]) dU) (OM CS)
def nY(x:aL [.int .i64,.list TyD]):oK [.agg TyH,.int .i64]:=match x with
 | (v0,v1,()) =>
  aB (qV (v0,v1,())) λy1 =>
  bif !(eqI y1.1 0) then
   some ((0,[]),y1.1,())
  else aB (fZ () (v1,()) []) λy2 =>
  aB (dS y2.1 (v0,()) y2.2) λy3 =>
  aB (dU y3.1 (v0,()) y3.2) λy4 =>
  some (y4.1.1,y4.1.2.1,())
def ID:Code:=cM Tryz.f40
abbrev QL:Env:=WH [GY] [yG,tD,sZ]
theorem UF:fC tP QL:=yX ⟨BX,trivial⟩ ⟨FR,BB,A6,trivial⟩
def OB(id:Nat):Option bT:=none
theorem RQ:bI ID=[]:=by kernel_rfl
theorem TE:∀ x,aSJ tP QL Tryz.f40 (bO Tryz.f40) OB ID 133 .str _ _ x=nY x:=by
 rintro⟨v0,v1,⟨⟩⟩
 kernel_rfl
abbrev Q2:Ent:=⟨40,_,_,nY⟩
theorem UI:Ent.OK tP Q2:=aWP aV UF func40 (c:=ID) (by kernel_rfl) (aU:=bO Tryz.f40) (lt:=OB) (bQ RQ trivial) TE
end Go.PM
namespace Go.PM
open Go Go.RowKit Go.Proofs Tryz
set_option maxHeartbeats 4000000
abbrev r6:List (Nat×Kd):=[(3,.own 133 .str),(9,.list TyE),(10,.int .i64),(11,.int .i64)]
abbrev yI:List (Ex×List (Nat×Kd)):=[(.exit 0,[(3,.own 133 .str)])]
def GN(x:Shape.den r6):oS r6 yI:=match x with
 | (v3,v9,v10,v11,()) =>
  bif ltI v11 v10 then
   bif aN v11 v9.length then aB (gT ((v9.getD v11.toNat 0),())) λy2 =>
   bif Nat.ble [y2.1].length 1048576 then bif Nat.ble v3.length 1048576 then some (.inl ((v3++[y2.1]),v9,v10,(aH .i64 (v11+1)),())) else none else none else none
  else some (.inr ((v3,())))
def pZ(x:Shape.den r6):oX yI:=bF GN (2^64) x
def nI(x:aL [.list TyE]):oK [.list .str]:=match x with
 | (v0,()) =>
  bif !(ltI (v0.length:Int) 0) then bif !(ltI 1048576 (v0.length:Int)) then aB (pZ ((List.replicate 0 (ByteArray.empty:Ty.den .str)),v0,(v0.length:Int),0,())) λz3 =>
  some (z3.1,()) else none else none
abbrev DB:Ent:=⟨82,_,_,nI⟩
theorem JP:Ent.OK tP DB:=oU (aQ (oV tU oW)) func82 3 (lp:=pZ) rfl (by kernel_rfl) (by rintro⟨v3,v9,v10,v11,⟨⟩⟩; kernel_rfl) (by rintro⟨v0,⟨⟩⟩; kernel_rfl)
abbrev cK:List (Nat×Kd):=[(0,.val),(7,.list TyD),(8,.int .i64),(9,.int .i64)]
abbrev eE:List (Ex×List (Nat×Kd)):=[(.exit 0,[])]
def dC(x:Shape.den cK):Option (List (Value×aL [.int .i64,.list .str])×(Shape.den cK⊕eB eE)):=match x with
 | (v0,v7,v8,v9,()) =>
  bif ltI v9 v8 then
   bif aN v9 v7.length then aB (nI ((v7.getD v9.toNat []),())) λy3 =>
   aB (k7 (y3.1,())) λy4 =>
   outs [(v0,(y4.1,y3.1,()))] (some ([],.inl (v0,v7,v8,(aH .i64 (v9+1)),()))) else none
  else some ([],.inr ((())))
def fE(x:Shape.den cK):Option (List (Value×aL [.int .i64,.list .str])×eB eE):=LP dC (2^64) x
def lA(v0:Value)(x:AS [TyH]):Option (List (Value×aL [.int .i64,.list .str])):=match x with
 | (v1,()) =>
  aM7 (aBZ (fE (v0,v1.2,(v1.2.length:Int),0,())) λz5 =>
  some ([],()))
def iL:Code:=cM f119
abbrev lE:Env:=WH [DB,AD] []
theorem nW:fC tP lE:=yX ⟨JP,GS,trivial⟩ trivial
def eM:Code:=inLoop (zT iL 0)
def kQ(id:Nat):Option bT:=none
def kN(id:Nat):Option (E7 (Value×aL [.int .i64,.list .str])):=bif Nat.beq id 1 then some ⟨cK,eE,fE⟩ else none
theorem uV:aO eM=1:=by kernel_rfl
theorem wZ:bP eM=[]:=by kernel_rfl
theorem uJ:∀ x,aG1 tP lE 22 (bO f119) kQ [.int .i64,.list .str] kN eM cK eE x=dC x:=by
 rintro⟨v0,v7,v8,v9,⟨⟩⟩
 kernel_rfl
theorem uY:aCS tP 22 [.int .i64,.list .str] eM ⟨cK,eE,fE⟩:=aDP nW.callee aV.mixed _ (MA wZ trivial) uJ
theorem vW:bP iL=[.loop eM]:=by kernel_rfl
theorem wX:∀ v0 x,aPG tP lE f119 (bO f119) kQ [.int .i64,.list .str] kN iL [TyH] v0 x=lA v0 x:=by
 rintro v0 ⟨v1,⟨⟩⟩
 kernel_rfl
theorem xE {f:AS [TyH]->Option (List (aL [.int .i64,.list .str]))}(h:∀ yv x all,f x=some all->lA yv x=some (all.map λe=>(yv,e))):KY tP 119 [TyH] [.int .i64,.list .str] f:=aH5 aV nW func119 (c:=iL) (by kernel_rfl) (by kernel_rfl) (aU:=bO f119) (lt:=kQ) (li:=kN) (MA vW ⟨aDN uV rfl rfl uY,trivial⟩) (λyv x all hx=>(wX yv x).trans (h yv x all hx))
def VB:List (List Int)->Option (List (aL [.int .i64,.list .str]))
 | []=>some []
 | r::l=>aB (nI (r,())) λy=>aB (k7 (y.1,())) λz=>aB (VB l) λrest=>some ((z.1,y.1,())::rest)
def MM(x:AS [TyH]):Option (List (aL [.int .i64,.list .str])):=match x with
 | ((_,b),())=>bif Nat.ble b.length 1048576 then VB b else none
theorem Q5(yv:Value)(l:List (List Int))(hl:l.length<=1048576):∀ (rest pre:List (List Int)) (all:List (aL [.int .i64,.list .str])) (N:Nat),VB rest=some all->pre++rest=l->rest.length<N ->
  LP dC N (yv,l,(l.length:Int),(pre.length:Int),())=some (all.map λe=>(yv,e),())
 | [],pre,all,N+1,h,hp,_=>by
  obtain rfl:=oB h;rw[List.append_nil]at hp;subst hp;have h1:ltI (pre.length:Int) (pre.length:Int)=false:=by simp[aI]
  simp only[LP,dC,h1,oD];rfl
 | r::rest,pre,all,N+1,h,hp,hN=>by
  obtain⟨y,hy,h⟩:=kZ h;obtain⟨z,hz,h⟩:=kZ h;obtain⟨all',ha,h⟩:=kZ h;obtain rfl:=oB h;have hlen:l.length=pre.length+(rest.length+1):=by rw[<- hp]; simp
  have h1:ltI (pre.length:Int) (l.length:Int)=true:=by simp[aI]; omega
  have h2:aN (pre.length:Int) l.length=true:=by simp[aX]; omega
  have h3:l.getD ((pre.length:Int)).toNat []=r:=by rw[<- hp]; simp
  have h4:=Q5 yv l hl rest (pre++[r]) all' N ha (by rw[<- hp]; simp) (by simp at hN; omega);have h5:aH .i64 ((pre.length:Int)+1)=((pre++[r]).length:Int):=by rw[wrap64 (by omega) (by omega)]; simp
  simp only[LP,dC,h1,oC,h2,h3,hy,aC,hz,outs,h5];rw[h4];rfl
theorem aKR:KY tP 119 [TyH] [.int .i64,.list .str] MM:=by
 refine xE ?_;rintro yv ⟨⟨n,b⟩,⟨⟩⟩ all h;unfold MM at h;dsimp only at h;obtain⟨hb,h⟩:=aG h;have hb:=oL hb;have:=Q5 yv b hb b [] all (2^64) h rfl (by omega);unfold lA;dsimp only;unfold fE;have h0:((([]:List (List Int)).length:Nat):Int)=0:=rfl;rw[h0]at this;rw[this];simp[aBZ,outs,aM7]
end Go.PM
namespace Go.PM
open Go Go.RowKit Go.Proofs Tryz
set_option maxHeartbeats 4000000
def FQ(x:aL [.int .i64]):oK [.bool]:=match x with
 | (v0,()) =>
  bif ltI 1000000000 v0 then
   some (true,())
  else some (ltI v0 (-1000000000),())
abbrev aBI:Ent:=⟨93,_,_,FQ⟩
theorem RX:Ent.OK tP aBI:=oI (aQ oW) func93 (by kernel_rfl) (by rintro⟨v0,⟨⟩⟩; kernel_rfl)
abbrev iB:List (Nat×Kd):=[(0,.list TyE),(1,.fn 93),(7,.int .i64),(8,.int .i64)]
abbrev lK:List (Ex×List (Nat×Kd)):=[(.ret,[(4,.int .i64)]),(.exit 0,[])]
def cD(x:Shape.den iB):oS iB lK:=match x with
 | (v0,v1,v7,v8,()) =>
  bif ltI v8 v7 then
   bif aN v8 v0.length then aB (FQ ((v0.getD v8.toNat 0),())) λy2 =>
   bif y2.1 then
    some (.inr (.inl (v8,())))
   else some (.inl (v0,(),v7,(aH .i64 (v8+1)),())) else none
  else some (.inr (.inr ((()))))
def gJ(x:Shape.den iB):oX lK:=bF cD (2^64) x
def jI(x:aL [.list TyE,.fn 93]):oK [.int .i64]:=match x with
 | (v0,v1,()) =>
  aB (gJ (v0,(),(v0.length:Int),0,())) λz3 =>
  j8 z3 (λa4=>some (a4.1,())) λb5 =>
  some ((-1),())
abbrev vK:Ent:=⟨71,_,_,jI⟩
theorem tM:Ent.OK tP vK:=oU (aQ (oV RX oW)) func71 2 (lp:=gJ) rfl (by kernel_rfl) (by rintro⟨v0,v1,v7,v8,⟨⟩⟩; kernel_rfl) (by rintro⟨v0,v1,⟨⟩⟩; kernel_rfl)
def eR(x:aL [.list TyE,.fn 93]):oK [.bool]:=match x with
 | (v0,v1,()) =>
  aB (jI (v0,(),())) λy1 =>
  some (!(ltI y1.1 0),())
abbrev tK:Ent:=⟨44,_,_,eR⟩
theorem sA:Ent.OK tP tK:=oI (aQ (oV tM oW)) func44 (by kernel_rfl) (by rintro⟨v0,v1,⟨⟩⟩; kernel_rfl)
abbrev xR:List (Nat×Kd):=[(0,.list TyD),(8,.list TyD),(9,.int .i64),(10,.int .i64)]
abbrev F9:List (Ex×List (Nat×Kd)):=[(.ret,[(2,.int .i64)]),(.exit 0,[])]
def lY(x:Shape.den xR):oS xR F9:=match x with
 | (v0,v8,v9,v10,()) =>
  bif ltI v10 v9 then
   bif aN v10 v8.length then bif ltI 12 ((v8.getD v10.toNat []).length:Int) then
    some (.inr (.inl (4,())))
   else bif aN 0 v0.length then bif !(eqI ((v8.getD v10.toNat []).length:Int) ((v0.getD 0 []).length:Int)) then
    some (.inr (.inl (5,())))
   else aB (eR ((v8.getD v10.toNat []),(),())) λy2 =>
   bif y2.1 then
    some (.inr (.inl (4,())))
   else some (.inl (v0,v8,v9,(aH .i64 (v10+1)),())) else none else none
  else some (.inr (.inr ((()))))
def uE(x:Shape.den xR):oX F9:=bF lY (2^64) x
def zE(x:aL [.list TyD]):oK [.int .i64]:=match x with
 | (v0,()) =>
  bif ltI 12 (v0.length:Int) then
   some (4,())
  else aB (uE (v0,v0,(v0.length:Int),0,())) λz3 =>
  j8 z3 (λa4=>some (a4.1,())) λb5 =>
  some (0,())
abbrev aAV:Ent:=⟨92,_,_,zE⟩
theorem RO:Ent.OK tP aAV:=oU (aQ (oV sA oW)) func92 4 (lp:=uE) rfl (by kernel_rfl) (by rintro⟨v0,v8,v9,v10,⟨⟩⟩; kernel_rfl) (by rintro⟨v0,⟨⟩⟩; kernel_rfl)
def rM(x:aL [.int .i64]):oK [.bool]:=match x with
 | (v0,()) =>
  some (!(eqI v0 0),())
abbrev PR:Ent:=⟨182,_,_,rM⟩
theorem JO:Ent.OK tP PR:=oI (aQ oW) func182 (by kernel_rfl) (by rintro⟨v0,⟨⟩⟩; kernel_rfl)
abbrev iE:List (Nat×Kd):=[(0,.list TyE),(1,.fn 182),(7,.int .i64),(8,.int .i64)]
abbrev lL:List (Ex×List (Nat×Kd)):=[(.ret,[(4,.int .i64)]),(.exit 0,[])]
def cB(x:Shape.den iE):oS iE lL:=match x with
 | (v0,v1,v7,v8,()) =>
  bif ltI v8 v7 then
   bif aN v8 v0.length then aB (rM ((v0.getD v8.toNat 0),())) λy2 =>
   bif y2.1 then
    some (.inr (.inl (v8,())))
   else some (.inl (v0,(),v7,(aH .i64 (v8+1)),())) else none
  else some (.inr (.inr ((()))))
def gL(x:Shape.den iE):oX lL:=bF cB (2^64) x
def jG(x:aL [.list TyE,.fn 182]):oK [.int .i64]:=match x with
 | (v0,v1,()) =>
  aB (gL (v0,(),(v0.length:Int),0,())) λz3 =>
  j8 z3 (λa4=>some (a4.1,())) λb5 =>
  some ((-1),())
abbrev vC:Ent:=⟨71,_,_,jG⟩
theorem tQ:Ent.OK tP vC:=oU (aQ (oV JO oW)) func71 2 (lp:=gL) rfl (by kernel_rfl) (by rintro⟨v0,v1,v7,v8,⟨⟩⟩; kernel_rfl) (by rintro⟨v0,v1,⟨⟩⟩; kernel_rfl)
def uF(x:aL [.list TyE]):oK [.int .i64]:=match x with
 | (v0,()) =>
  aB (jG (v0,(),())) λy1 =>
  some (y1.1,())
abbrev UJ:Ent:=⟨168,_,_,uF⟩
theorem N1:Ent.OK tP UJ:=oI (aQ (oV tQ oW)) func168 (by kernel_rfl) (by rintro⟨v0,⟨⟩⟩; kernel_rfl)
def sU(x:aL [.list TyE,.ptr TyE,.ptr TyD]):oK [.bool]:=match x with
 | (v0,v1,v2,()) =>
  bif aN v1 v0.length then bif ltI (v0.getD v1.toNat 0) 0 then
   some (true,())
  else bif aN v1 v0.length then bif aN v1 v2.length then some (!(ltI (v0.getD v1.toNat 0) (v2.getD v1.toNat 0)),()) else none else none else none
abbrev KL:Ent:=⟨170,_,_,sU⟩
theorem GJ:Ent.OK tP KL:=oI (aQ oW) func170 (by kernel_rfl) (by rintro⟨v0,v1,v2,⟨⟩⟩; kernel_rfl)
abbrev eU:List (Nat×Kd):=[(0,.list TyD),(1,.clo 170 [TyE,TyD]),(7,.int .i64),(8,.int .i64)]
abbrev jD:List (Ex×List (Nat×Kd)):=[(.ret,[(4,.int .i64)]),(.exit 0,[])]
def bH(x:Shape.den eU):oS eU jD:=match x with
 | (v0,v1,v7,v8,()) =>
  bif ltI v8 v7 then
   bif aN v8 v0.length then aB (sU ((v0.getD v8.toNat []),v1.1,v1.2.1,())) λy2 =>
   bif y2.1 then
    some (.inr (.inl (v8,())))
   else some (.inl (v0,(v1.1,v1.2.1,()),v7,(aH .i64 (v8+1)),())) else none
  else some (.inr (.inr ((()))))
def eH(x:Shape.den eU):oX jD:=bF bH (2^64) x
def fR(x:aL [.list TyD,.clo 170 [TyE,TyD]]):oK [.int .i64]:=match x with
 | (v0,v1,()) =>
  aB (eH (v0,(v1.1,v1.2.1,()),(v0.length:Int),0,())) λz3 =>
  j8 z3 (λa4=>some (a4.1,())) λb5 =>
  some ((-1),())
abbrev rR:Ent:=⟨183,_,_,fR⟩
theorem p9:Ent.OK tP rR:=oU (aQ (oV GJ oW)) func183 2 (lp:=eH) rfl (by kernel_rfl) (by rintro⟨v0,v1,v7,v8,⟨⟩⟩; kernel_rfl) (by rintro⟨v0,v1,⟨⟩⟩; kernel_rfl)
def cI(x:aL [.list TyD,.clo 170 [TyE,TyD]]):oK [.bool]:=match x with
 | (v0,v1,()) =>
  aB (fR (v0,(v1.1,v1.2.1,()),())) λy1 =>
  some (!(ltI y1.1 0),())
abbrev p8:Ent:=⟨169,_,_,cI⟩
theorem nQ:Ent.OK tP p8:=oI (aQ (oV p9 oW)) func169 (by kernel_rfl) (by rintro⟨v0,v1,⟨⟩⟩; kernel_rfl)
abbrev sS:List (Nat×Kd):=[(0,.list TyD),(3,.int .i64),(7,.list TyD),(8,.int .i64),(9,.int .i64)]
abbrev AY:List (Ex×List (Nat×Kd)):=[(.ret,[(2,.bool)]),(.exit 0,[])]
def jZ(x:Shape.den sS):oS sS AY:=match x with
 | (v0,v3,v7,v8,v9,()) =>
  bif ltI v9 v8 then
   bif aN v9 v7.length then aB (uF ((v7.getD v9.toNat []),())) λy3 =>
   bif !(ltI v3 y3.1) then
    some (.inr (.inl (false,())))
   else bif aN y3.1 (v7.getD v9.toNat []).length then bif ltI ((v7.getD v9.toNat []).getD y3.1.toNat 0) 0 then
    some (.inr (.inl (false,())))
   else bif !(ltI v9 0) then bif Nat.ble 0 v9.toNat then bif Nat.ble v9.toNat v0.length then aB (cI (((v0.drop 0).take (v9.toNat-0)),(y3.1,(v7.getD v9.toNat []),()),())) λy4 =>
   bif y4.1 then
    some (.inr (.inl (false,())))
   else some (.inl (v0,y3.1,v7,v8,(aH .i64 (v9+1)),())) else none else none else none else none else none
  else some (.inr (.inr ((()))))
def qS(x:Shape.den sS):oX AY:=bF jZ (2^64) x
def sK(x:aL [.list TyD]):oK [.bool]:=match x with
 | (v0,()) =>
  aB (qS (v0,(-1),v0,(v0.length:Int),0,())) λz5 =>
  j8 z5 (λa6=>some (a6.1,())) λb7 =>
  some (true,())
abbrev RN:Ent:=⟨147,_,_,sK⟩
theorem K1:Ent.OK tP RN:=oU (aQ (oV N1 (oV nQ oW))) func147 3 (lp:=qS) rfl (by kernel_rfl) (by rintro⟨v0,v3,v7,v8,v9,⟨⟩⟩; kernel_rfl) (by rintro⟨v0,⟨⟩⟩; kernel_rfl)
def xP(x:aL [.list TyD]):oK [.bool,.int .i64]:=match x with
 | (v0,()) =>
  aB (zE (v0,())) λy1 =>
  bif !(eqI y1.1 0) then
   some (false,y1.1,())
  else aB (sK (v0,())) λy2 =>
  some (y2.1,0,())
abbrev RM:Ent:=⟨118,_,_,xP⟩
theorem KD:Ent.OK tP RM:=oI (aQ (oV K1 (oV RO oW))) func118 (by kernel_rfl) (by rintro⟨v0,⟨⟩⟩; kernel_rfl)
def uA(x:aL [.agg TyH]):oK [.int .i64]:=match x with
 | (v0,()) =>
  aB (qV (v0.1,v0.2,())) λy1 =>
  bif !(eqI y1.1 0) then
   some (y1.1,())
  else aB (xP (v0.2,())) λy2 =>
  bif !(eqI y2.2.1 0) then
   some (7,())
  else bif y2.1 then
   some (0,())
  else some (7,())
abbrev S2:Ent:=⟨89,_,_,uA⟩
theorem N9:Ent.OK tP S2:=oI (aQ (oV KD (oV BX oW))) func89 (by kernel_rfl) (by rintro⟨v0,⟨⟩⟩; kernel_rfl)
def qE(x:aL [.agg TyH,.list TyE]):oK [.int .i64]:=match x with
 | (v0,v1,()) =>
  aB (uA (v0,())) λy1 =>
  bif !(eqI y1.1 0) then
   some (y1.1,())
  else aB (sP (v1,())) λy2 =>
  bif !(eqI y2.1 0) then
   some (y2.1,())
  else bif !(eqI (v1.length:Int) v0.1) then
   some (5,())
  else some (0,())
abbrev MG:Ent:=⟨65,_,_,qE⟩
theorem HX:Ent.OK tP MG:=oI (aQ (oV N9 (oV CV oW))) func65 (by kernel_rfl) (by rintro⟨v0,v1,⟨⟩⟩; kernel_rfl)
def nJ(x:aL [.agg TyH]):oK [.clo 119 [TyH]]:=match x with
 | (v0,()) =>
  some ((v0,()),())
abbrev sX:Ent:=⟨90,_,_,nJ⟩
theorem BF:Ent.OK tP sX:=oI (aQ oW) func90 (by kernel_rfl) (by rintro⟨v0,⟨⟩⟩; kernel_rfl)
abbrev bA:List (Nat×Kd):=[(4,.bown 126 133 .str),(5,.bown 126 133 .str),(14,.clo 119 [TyH])]
abbrev cH:List (Ex×List (Nat×Kd)):=[(.normal,[(4,.bown 126 133 .str),(5,.bown 126 133 .str)])]
def eO(x:Shape.den bA)(e:aL [.int .i64,.list .str]):oS bA cH:=match x,e with
 | (v4,v5,v14,()),(e0,e1,()) =>
  bif aN e0 v4.length then bif Nat.blt e0.toNat v4.length then bif aN e0 e1.length then aB (pV ((v4.getD e0.toNat ByteArray.empty),(e1.getD e0.toNat ByteArray.empty),())) λy3 =>
  aB (aF6 (t:=.str) eC v4 (y3.1,e1,())) λy4 =>
  bif Nat.ble [y3.1].length 1048576 then bif Nat.ble v5.length 1048576 then some (.inl (y4,(v5++[y3.1]),(v14.1,()),())) else none else none else none else none else none
def kU(x:Shape.den bA):AS [TyH]:=match x with
 | (v4,v5,v14,())=>(v14.1,())
def eQ(x:Shape.den bA):oX cH:=RU bA cH (λx=>MM (kU x)) eO x
def gX(x:aL [.agg TyH,.list TyE]):oK [.list .str,.list .str]:=match x with
 | (v0,v1,()) =>
  aB (jN (v1,())) λy1 =>
  aB (nJ (v0,())) λy2 =>
  aB (eQ (y1,[],(y2.1.1,()),())) λz5 =>
  some (z5.1,z5.2.1,())
def j6:Code:=cM f66
abbrev nH:Env:=WH [sX,CK] [vU,u7]
theorem qR:fC tP nH:=yX ⟨BF,D4,trivial⟩ ⟨yF,C2,trivial⟩
def aY:Code:=zT j6 0
def BQ:Code:=inLoop aY
def mP(id:Nat):Option bT:=none
def mS(id:Nat):Option bT:=bif Nat.beq id 5 then some ⟨bA,cH,eQ⟩ else none
theorem wI:aO BQ=5:=by kernel_rfl
theorem pK:aY=.rangeFunc (D9 aY) (PB aY) (l8 aY) (inLoop aY):=by kernel_rfl
theorem xH:∀ y e,IC tP nH 40 (j7 f66) mP mS (PB aY).toList (l8 aY) (inLoop aY) [.int .i64,.list .str] bA cH y e=eO y e:=by
 rintro⟨v4,v5,v14,⟨⟩⟩ ⟨e0,e1,⟨⟩⟩
 kernel_rfl
theorem yM:∀ x,TR 119 [TyH] bA (D9 aY) x=some (kU x):=by
 rintro⟨v4,v5,v14,⟨⟩⟩
 kernel_rfl
theorem yD:qL tP 40 false [] aY ⟨bA,cH,eQ⟩:=EC qR aV pK func119 (c:=cM f119) (by kernel_rfl) aKR (by kernel_rfl) (gY (l:=[]) (by kernel_rfl) trivial) yM xH
theorem yS:bP j6=[aY]:=by kernel_rfl
theorem AO:∀ x,KB tP nH f66 (j7 f66) mP mS j6 [.agg TyH,.list TyE] [.list .str,.list .str] x=gX x:=by
 rintro⟨v0,v1,⟨⟩⟩
 kernel_rfl
abbrev DU:Ent:=⟨66,_,_,gX⟩
theorem zS:Ent.OK tP DU:=yL aV qR func66 (c:=j6) (by kernel_rfl) (aU:=j7 f66) (lt:=mP) (rt:=mS) (gY yS ⟨zO pK wI rfl yD,trivial⟩) AO
def gQ(x:aL [.agg TyH,.list TyE]):oK [.list TyE,.int .i64]:=match x with
 | (v0,v1,()) =>
  aB (qE (v0,v1,())) λy1 =>
  bif !(eqI y1.1 0) then
   some ([],y1.1,())
  else aB (gX (v0,v1,())) λy2 =>
  aB (mX (y2.1,())) λy3 =>
  some (y3.1,y3.2.1,())
abbrev zQ:Ent:=⟨41,_,_,gQ⟩
theorem GP:Ent.OK tP zQ:=oI (aQ (oV zS (oV HX (oV E5 oW)))) func41 (by kernel_rfl) (by rintro⟨v0,v1,⟨⟩⟩; kernel_rfl)
end Go.PM
