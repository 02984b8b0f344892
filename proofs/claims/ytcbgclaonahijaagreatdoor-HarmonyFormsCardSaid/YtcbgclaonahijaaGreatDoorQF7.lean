/- Texts of one proof, joined (7). -/
import Derived.Test.YtcbgclaonahijaaGreatDoorQF6
set_option linter.unusedSimpArgs false
set_option linter.unusedVariables false
set_option linter.defProp false
set_option maxRecDepth 100000
noncomputable section
namespace Go.PM
open Go Go.RowKit
structure aLI (Y:Type) where
 sh:zb
 exits:zc
 run:Shape.den sh->Option (List Y×AQ exits)
def b2T(o:Oper):Bool:=match o.op with
 | .call c=>match c.callee with
  | .value (.tmp _)=>true
  | _=>false
 | _=>false
def bZX:List Oper->Nat->Option Nat| [],_=>none| o::r,i=>bif b2T o then some i else bZX r (i+1)
def outs {Y α:Type}(l:List Y):Option (List Y×α)->Option (List Y×α)| some (m,z)=>some (l++m,z)| none=>none
def a3D {Y τ α:Type} (r:Option (List Y×τ)) (k:τ->Option (List Y×α)):Option (List Y×α):=match r with| some (l,z)=>outs l (k z)| none=>none
def bI3 {Y:Type}:Option (List Y×Unit)->Option (List Y)| some (l,_)=>some l| none=>none
section
variable {α:Type} (P:Program) (E:Env) (nt keep:Nat) (lt:Nat->Option cI) (ks:List Kd) (li:Nat->Option (aLI (Value×aM ks)))
def b3H(ops:Array Oper) (o:Oper) (rest:List Oper) (F:Frm) (H:Heap) (k:Frm->Heap->Option (List (Value×aM ks)×α)) (kx:Frm->Heap->Option Unit):Option (List (Value×aM ks)×α) :=
 bEK F ops.toList o λF b=>bif b then (match o.op with
  | .call c=>match c.callee with
   | .value f=>match ev F f with
    | .lit yv=>bif eM.noRefs (c.args.toList.map (ev F))&&ks.all Kd.plain then (match a8P ks (c.args.toList.map (ev F))with
     | some e=>match aER nt F o.dst (.lit (.bool true)),aER nt F o.dst (.lit (.bool false))with
      | some F1,some F2=>match R7 P E nt ops.toList rest F2 H kx with
       | some _=>outs [(yv,e)] (R7 P E nt ops.toList rest F1 H k)
       | none=>none
      | _,_=>none
     | none=>none) else none
    | _=>none
   | _=>none
  | _=>none) else match aER nt F o.dst (.lit undef)with
   | some F1=>R7 P E nt ops.toList rest F1 H k
   | none=>none
def aB7:Code->Frm->Heap->(Ex->Frm->Heap->Option (List (Value×aM ks)×α))->(Ex->Frm->Heap->Option Unit)->Option (List (Value×aM ks)×α)
 | .skip,F,H,k,_=>k .normal F H
 | .label _,F,H,k,_=>k .normal F H
 | .region _ ops draw,F,H,k,kx=>match bZX ops.toList 0 with
  | none=>bif aPU ops then aAL P E nt ops draw F H λF H=>aSZ keep F λF=>k .normal F H else none
  | some s=>bif a6E ops s then match ops.toList.drop s with
   | o::rest=>bif rest.all (λo=>!bGK o.op) then
     (bif draw then aAL P E nt (ops.toList.take s).toArray true F H else R7 P E nt ops.toList (ops.toList.take s) F H) λF H =>
      b3H P E nt ks ops o rest F H (λF H=>aSZ keep F λF=>k .normal F H) (λF H=>kx .normal F H)
    else none
   | []=>none
   else none
 | .seq a b,F,H,k,kx=>aB7 a F H (λex F H=>match ex with
  | .normal=>aB7 b F H k kx
  | .exit i=>k (.exit i) F H
  | .ret=>k .ret F H) (λex F H=>match ex with
  | .normal=>TP P E nt keep lt (λ_=>none) true [] b F H kx
  | .exit i=>kx (.exit i) F H
  | .ret=>kx .ret F H)
 | .cond c a b,F,H,k,kx=>match ev F c with
  | .lit (.bool t)=>bM8 F c t λF t=>bif t then aB7 a F H k kx else aB7 b F H k kx
  | _=>none
 | .block id a,F,H,k,kx=>aB7 a F H (λex F H=>match ex with
  | .exit i=>bif Nat.beq i id then k .normal F H else k (.exit i) F H
  | .normal=>k .normal F H
  | .ret=>k .ret F H) (λex F H=>match ex with
  | .exit i=>bif Nat.beq i id then kx .normal F H else kx (.exit i) F H
  | .normal=>kx .normal F H
  | .ret=>kx .ret F H)
 | .loop a,F,H,k,_=>match li (bM a)with
  | some s=>match NU [] s.sh F H with
   | some x=>a3D (s.run x) λz=>bNM s.exits z k
   | none=>none
  | none=>match lt (bM a)with
   | some s=>match NU [] s.sh F H with
    | some x=>aB (s.run x) λz=>bNM s.exits z k
    | none=>none
   | none=>none
 | .exit id,F,H,k,_=>k (.exit id) F H
 | .ret,F,H,k,_=>k .ret F H
 | _,_,_,_,_=>none
end
def bYR:Ex->Frm->Heap->Option Unit:=λex _ _=>match ex with| .ret=>some ()| _=>none
def bW7 {Y:Type} sh exits (ex:Ex)(F:Frm)(H:Heap):Option (List Y×(Shape.den sh⊕AQ exits)):=match a4E [] sh exits ex F H with| some z=>some ([],z)| none=>none
def bHJ(P:Program) (E:Env) (nt keep:Nat) (lt:Nat->Option cI) (ks:List Kd) (li:Nat->Option (aLI (Value×aM ks))) (a:Code) (sh:zb) (exits:zc) (x:Shape.den sh):Option (List (Value×aM ks)×(Shape.den sh⊕AQ exits)) :=aB7 P E nt keep lt ks li a (KT sh x 0) (WN sh x) (bW7 sh exits) bYR
def YL {Y σ τ:Type}(step:σ->Option (List Y×(σ⊕τ))):Nat->σ->Option (List Y×τ)| 0,_=>none| n+1,x=>match step x with| some (l,.inl y)=>outs l (YL step n y)| some (l,.inr z)=>some (l,z)| none=>none
def a05 {Y α}{l:List Y}{r m}{z:α}(h:outs l r=some (m,z)):∃ a,r=some (a,z)/\m=l++a:=by
 cases r with
 | none=>cases h
 | some p =>
  simp only[outs]at h;grind
section
variable {P:Program} {E:Env} {nt keep:Nat} {lt:Nat->Option cI} {ks:List Kd} {li:Nat->Option (aLI (Value×aM ks))}
variable {Φ:(Nat->Prop)->(Nat->Prop)->World->Prop} {G0 G G':Gd} {μ μ':Mp} {H H':Heap} {A A' W:World} {F F':Frm} {n:Nat} {a:Act}
def Sg.bWL (h:Sg Φ G0 G μ H A):∃ n0,aX n0 G μ H A/\(∀ b,G0 b->G b)/\∀ A' G' μ' H',Ext n0 A G aH A' G' μ'->aX n0 G' μ' H' A'->Sg Φ G0 G' μ' H' A':=by
 have⟨T,X,B,d,μB,g,j,k,m,c,f,i⟩:=h;refine⟨_,i,λb l=>(f.good b (c b l)).1,λA' G' μ' H' e w=>⟨T,X,B,d,aH,g,j,k,m,c,?_,w⟩⟩;have a:Ext (λb=>X b\/B.heap.size<=b) B d aH A G aH:=f.plain;exact a.trans e
def bQA {c:Code} {r:Ex×Frm×Heap} (h:bJY P nt true [] c F H r) {Q:Exit->Act->World->Prop} (i:Sg Φ G0 G μ H A) (d:fG A G μ nt F a)
  (g:∀ G' μ' a' A',Sg Φ G0 G' μ' r.2.2 A'->fG A' G' μ' nt r.2.1 a'->Q r.1.to a' A'):c.wpIn Fence.wide n P Q a A:=by
 have⟨n0,f,_,b⟩:=i.bWL;have j:Ext n0 A G aH A G μ:={ good:=λ_ h=>⟨h,rfl⟩,map:=λ_ _ h=>(by cases h),len:=λ_ _ h=>(by cases h),room:=λ_ _ h=>h,row:=λ_ _ h=>h,os:=rfl,tape:=rfl,output:=rfl,size:=oM _,old:=λ_ _ _=>rfl,new:=λ_ h=>.inl h };refine wpIn_mono (h none n n0 A G aH a A (λh=>(by cases h)) (λr _=>⟨rfl,rfl⟩) ⟨G,μ,j,f,d.same,by rw[d.defers]; trivial⟩) ?_;rintro e a' w' ⟨rfl,⟨G',μ',e',hW',hF',_⟩,hd⟩;refine g G' μ' a' w' (b _ _ _ _ e' hW') ⟨hF'.size,hF'.slot,?_⟩;rw[hd rfl]; exact d.defers
def b3I(P:Program) (ks:List Kd) (l:Nat) (G0:Gd) (all:List (aM ks)) (J Jx:List (aM ks)->(Nat->Prop)->(Nat->Prop)->World->Prop):Prop :=∀ pre e post T X B T' X' A us Gx m',all=pre++e::post->J pre T X B->Stp X B A->(∀ b,T' b->(T b\/B.heap.size<=b)/\b<A.heap.size)->(∀ b,X' b->T' b/\(X b\/B.heap.size<=b)) ->(∀ b,Gx b->(G0 b\/T' b)/\¬ X' b)->VRs A (Gd.of Gx) aH (lF ks e) us ->YieldAt Fence.wide m' P l us.toArray A λen C=>((∀ b,b<A.heap.size->G0 b\/T' b->C.heap[b]?=A.heap[b]?)/\(∀ b n,Room A b n->Room C b n)/\A.heap.size<=C.heap.size)/\((en=.returned (.bool true)/\J (pre++[e]) T' X' C)\/(en=.returned (.bool false)/\Jx (pre++[e]) T' X' C))
def bU1(P:Program) (nt:Nat) (ks:List Kd) (c:Code) (F:Frm) (H:Heap) (ys:List (Value×aM ks)) (r:Ex×Frm×Heap) (kx:Ex->Frm->Heap->Option Unit):Prop :=∀ (l:Nat) (yv:Value),yv=.func (.yield l) #[] #[]->∀ (G0:Gd) (all:List (aM ks)) (J Jx:List (aM ks)->(Nat->Prop)->(Nat->Prop)->World->Prop),b3I P ks l G0 all J Jx ->∀ (pre post:List (aM ks)) (n:Nat) (a:Act) (A:World) (G:Gd) (μ:Mp),all=pre++(ys.map (·.2)++post)->(∀ y∈ys,y.1=yv)->Sg (J pre) G0 G μ H A->fG A G μ nt F a ->c.wpIn Fence.wide n P (λe a' A'=>(e=r.1.to/\∃ G' μ',Sg (J (pre++ys.map (·.2))) G0 G' μ' r.2.2 A'/\fG A' G' μ' nt r.2.1 a') \/(∃ ex' F' H' pre' G' μ',kx ex' F' H'=some ()/\e=ex'.to/\Sg (Jx pre') G0 G' μ' H' A'/\fG A' G' μ' nt F' a')) a A
def bC5(P:Program) (nt:Nat) (ks:List Kd) (a:Code) (s:aLI (Value×aM ks)):Prop :=∀ x ys z,s.run x=some (ys,z)->bU1 P nt ks (.loop a) (KT s.sh x 0) (WN s.sh x) ys (R8 s.exits z) bYR
def bAW(P:Program)(nt:Nat)(lt:Nat->Option cI) ks (li:Nat->Option (aLI (Value×aM ks))):Code->Prop| .loop a=>(∀ s,lt (bM a)=some s->H7 P nt true [] (.loop a) s)/\(∀ s,li (bM a)=some s->bC5 P nt ks a s)| _=>True
def aNF {c r kx}(h:bJY P nt true [] c F H r):bU1 P nt ks c F H [] r kx:=by
 intro l yv f G0 all J m k pre post n a A G μ d g i e;refine bQA h i e λG' μ' o A' j b=>.inl ⟨rfl,G',μ',?_,b⟩;grind
def bFQ(hcl:dS P (gJ P E))(hP:P.follows .mixedOrders=true){α id ops draw}{k:Ex->Frm->Heap->Option α}{z}(h:aAL P E nt ops draw F H (λF H=>aSZ keep F λF=>k .normal F H)=some z)(hd:aPU ops=true) :
  ∃ r ,k r.1 r.2.1 r.2.2=some z/\bJY P nt true [] (.region id ops draw) F H r:=by
 obtain⟨F1,H1,h1,h2⟩:=a6V hcl hP hd h;obtain⟨F2,h3,h4⟩:=aFU keep F1 λF=>k .normal F H1;rw[h3]at h1;exact⟨(.normal,F2,H1),h1,λ_ _ _ _ _ _ _ _ _ _ hI=>h2 hI λa' w' hd' hI'=>⟨rfl,hI'.bNR h4,λ_=>hd'⟩⟩
def a9R(k:dS P (gJ P E)) {ops:Array Oper} {l:List Oper} (d:TI P (gJ P E) nt ops.toList l F H=some (F',H')) (g:(l.all λo=>!bGK o.op)=true) {Q:Exit->Act->World->Prop}
  (u:Sg Φ G0 G μ H A) (t:fG A G μ nt F a) (r:∀ G' μ' b A',Sg Φ G0 G' μ' H' A'->fG A' G' μ' nt F' b->Q .normal b A'):wpListIn Fence.wide n P ops Q l a A:=by
 have⟨n0,q,_,f⟩:=u.open_;have s:=NT (Q:=λe b w'=>e=.normal/\I n0 A G μ nt F' H' b w') k l F H a A d ⟨G,μ,Ext.refl _ _ _ _,q,t⟩ (λb w' h=>⟨rfl,h⟩);have p:=aX6 (ro:=none) (n:=n) (ds:=[]) (Q':=Q) (λa w h=>by cases h.1) (λe b w' h=>by
  obtain⟨rfl,G',μ',e,j,i⟩:=h;have m:KY [] b=b:=by simp[KY]
  rw[m];exact r G' μ' b w' (f _ _ _ _ e j) i) (λo v c x=>by
  have:=List.all_eq_true.1 g o v;rw[x]at this;cases this) s
 have m:KY [] a=a:=by simp[KY]
 rw[m]at p;exact p
def bSY(l:dS P (gJ P E)) (r:P.follows .mixedOrders=true) {α:Type} {id s:Nat} {ops:Array Oper} {draw:Bool} (g:a6E ops s=true) {k:Frm->Heap->Option α} {z:α}
  (h:(bif draw then aAL P E nt (ops.toList.take s).toArray true F H else R7 P E nt ops.toList (ops.toList.take s) F H) k=some z) :
  ∃ b H1,k b H1=some z/\∀ {Φ:(Nat->Prop)->(Nat->Prop)->World->Prop} {G0 G:Gd} {μ:Mp} {A:World} {a:Act} {n:Nat} {Q:Exit->Act->World->Prop},Sg Φ G0 G μ H A->fG A G μ nt F a ->
   (∀ G' μ' c A',Sg Φ G0 G' μ' H1 A'->fG A' G' μ' nt b c->wpListIn Fence.wide n P ops Q (ops.toList.drop s) c A')->(Code.region id ops draw).wpIn Fence.wide n P Q a A:=by
 obtain⟨b,H1,d,q⟩:∃ b H1,(bif draw then aKD P (gJ P E) nt (ops.toList.take s).toArray F H else TI P (gJ P E) nt ops.toList (ops.toList.take s) F H)=some (b,H1)/\k b H1=some z:=by
  cases draw with
  | true =>
   exact aOC h
  | false =>
   have⟨b,H1,v,x⟩:=IU h;grind
 refine⟨b,H1,q,?_⟩;intro Φ G0 G μ A a n Q u t p;have⟨n0,o,_,f⟩:=u.open_;have:=bEZ (ro:=none) (n:=n) (ds:=[]) (Q:=Q) l r (id:=id) g d (n0:=n0) (wi:=A) (Gi:=G) (μi:=μ) (a:=a) (w:=A) ⟨G,μ,Ext.refl _ _ _ _,o,t⟩ (λc w' h=>by
  have⟨G',μ',e,j,i⟩:=h;have m:KY [] c=c:=by simp[KY]
  rw[m];exact p G' μ' c w' (f _ _ _ _ e j) i)
 have m:KY [] a=a:=by simp[KY]
 rw[m]at this;exact this
def bVQ {l:List Operand}(c:fG A G μ nt F a):VRs A G μ (l.map (ev F)) (l.map a.eval):=by
 induction l with
 | nil=>rfl
 | cons x l b =>
  exact⟨_,_,rfl,cT c x,b⟩
def MD {α}(hcl:dS P (gJ P E))(hP:P.follows .mixedOrders=true):∀ c F H k kx ys (z:α),
  (∀ F H,kx .ret F H=some ())->(∀ a∈dV c,bAW P nt lt ks li a)->aB7 P E nt keep lt ks li c F H k kx=some (ys,z) ->
  ∃ ys1 ys2 r,k r.1 r.2.1 r.2.2=some (ys2,z)/\ys=ys1++ys2/\bU1 P nt ks c F H ys1 r kx
 | .skip,F,H,k,kx,ys,z,hx,hl,h=>⟨[],ys,(.normal,F,H),h,rfl,aNF λ_ _ _ _ _ _ _ _ _ _ hI=>wpIn_skip ⟨rfl,hI,λ_=>rfl⟩⟩
 | .label l,F,H,k,kx,ys,z,hx,hl,h=>⟨[],ys,(.normal,F,H),h,rfl,aNF λ_ _ _ _ _ _ _ _ _ _ hI=>wpIn_label ⟨rfl,hI,λ_=>rfl⟩⟩
 | .exit id,F,H,k,kx,ys,z,hx,hl,h=>⟨[],ys,(.exit id,F,H),h,rfl,aNF λ_ _ _ _ _ _ _ _ _ _ hI=>wpIn_exit ⟨rfl,hI,λ_=>rfl⟩⟩
 | .ret,F,H,k,kx,ys,z,hx,hl,h=>⟨[],ys,(.ret,F,H),h,rfl,aNF λ_ _ _ _ _ _ _ _ _ _ hI=>wpIn_ret ⟨rfl,hI,λ_=>rfl⟩⟩
 | .region id ops draw,F,H,k,kx,ys,z,hx,hl,h=>by
  simp only[aB7]at h;split at h
  ·have⟨hd,h⟩:=aJ h;have⟨r,h1,h2⟩:=bFQ (id:=id) hcl hP h hd;exact⟨[],ys,r,h1,rfl,aNF h2⟩
  next s hs=>
   have⟨hsp,h⟩:=aJ h;split at h
   ·rename_i o rest hdrop;have⟨hnd,h⟩:=aJ h;have⟨F1,H1,hk,hsplit⟩:=bSY (id:=id) hcl hP hsp h;have⟨b,hg,hk⟩:=a3A hk;cases b with
    | true =>
     simp only[oC]at hk;split at hk
     ·rename_i c hoc;split at hk
      ·rename_i f hcf;split at hk
       ·rename_i yv hyv;have⟨hnr,hk⟩:=aJ hk;rw[oA]at hnr;have⟨hnr,hplk⟩:=hnr;split at hk
        ·rename_i e he;split at hk
         ·rename_i F2 F3 hp2 hp3;split at hk
          ·rename_i u hstop;obtain⟨ys2,hlive,rfl⟩:=a05 hk;have⟨F4,H4,hrun4,hk4⟩:=IU hlive;have⟨F5,H5,hrun5,hk5⟩:=IU hstop;have⟨F6,h6,h7⟩:=aFU keep F4 λF=>k .normal F H4
           rw[h6]at hk4;refine⟨[(yv,e)],ys2,(.normal,F6,H4),hk4,rfl,?_⟩;intro l yv' hyv' G0 all J Jx hY pre post n a A G μ hall hys hS hF;have hyy:=hys _ (List.mem_singleton.2 rfl);dsimp only at hyy;subst hyy;refine hsplit hS hF λG1 μ1 a1 A1 hS1 hF1=>?_
           rw[hdrop];have hw:=OO hF1 hg;have hv:=bVQ (l:=c.args.toList) hF1;have hv0:=cZ _ _ hnr hv;have hve:=T4 ks he hv0;have hfe:=cT hF1 f;rw[hyv,VR]at hfe;have hall':all=pre++e::post:=by rw[hall]; rfl
           refine bXF hoc hcf hw (hfe.trans hyv') (us:=(c.args.toList.map a1.eval).toArray) (by rw[<- Array.toList_map]) (λm'=>hS1.yield hY hall' hve (a63 ks e hplk) m') ?_;rintro en C ⟨hmo,hout⟩;rcases hout with ⟨rfl,hS2⟩|⟨rfl,hS2⟩
           ·refine⟨_,rfl,a9R hcl hrun4 hnd hS2 ((hF1.mono hmo).aXJ hp2 (by rw[VR])) λG2 μ2 a2 A2 hS3 hF3=>.inl ⟨rfl,G2,μ2,hS3,?_⟩⟩;exact⟨hF3.size,λt=>by
             rcases h7 t with h8|h8
             ·rw[h8]; exact hF3.slot t
             ·rw[h8,VR]; trivial,hF3.defers⟩
           ·exact⟨_,rfl,a9R hcl hrun5 hnd hS2 ((hF1.mono hmo).aXJ hp3 (by rw[VR])) λG2 μ2 a2 A2 hS3 hF3=>.inr ⟨.normal,F5,H5,_,G2,μ2,hk5,rfl,hS3,hF3⟩⟩
          ·cases hk
         ·cases hk
        ·cases hk
       ·cases hk
      ·cases hk
     ·cases hk
    | false =>
     simp only[oD]at hk;split at hk
     ·rename_i F2 hp2;have⟨F4,H4,hrun4,hk4⟩:=IU hk;have⟨F6,h6,h7⟩:=aFU keep F4 λF=>k .normal F H4
      rw[h6]at hk4;refine⟨[],ys,(.normal,F6,H4),hk4,rfl,?_⟩;intro l yv' hyv' G0 all J Jx hY pre post n a A G μ hall hys hS hF;refine hsplit hS hF λG1 μ1 a1 A1 hS1 hF1=>?_
      rw[hdrop];refine bYM (OO hF1 hg) (a9R hcl hrun4 hnd hS1 (hF1.aXJ hp2 (by rw[VR])) λG2 μ2 a2 A2 hS3 hF3=>.inl ⟨rfl,G2,μ2,?_,?_⟩)
      ·rw[List.map_nil,List.append_nil]; exact hS3
      ·exact⟨hF3.size,λt=>by
        rcases h7 t with h8|h8
        ·rw[h8]; exact hF3.slot t
        ·rw[h8,VR]; trivial,hF3.defers⟩
     ·cases hk
   ·cases h
 | .seq x y,F,H,k,kx,ys,z,hx,hl,h=>by
  simp only[aB7]at h;obtain⟨ys1,ys2,⟨ex,F1,H1⟩,h1,rfl,h2⟩:=MD hcl hP x F H _ _ ys z (by intro F H; exact hx F H) (λa ha=>hl a (by simp[dV,ha])) h;have stop:∀ {l:Nat} {yv:Value} {G0:Gd} {all:List (aM ks)} {J Jx:List (aM ks)->(Nat->Prop)->(Nat->Prop)->World->Prop} {n:Nat} {R:Exit->Act->World->Prop},
    (∀ e a' A',(∃ ex' F' H' pre' G' μ',kx ex' F' H'=some ()/\e=ex'.to/\Sg (Jx pre') G0 G' μ' H' A'/\fG A' G' μ' nt F' a')->R e a' A')->∀ ex' F' H' pre' G' μ' a' A',
    (match ex' with
     | Ex.normal=>TP P E nt keep lt (λ_=>none) true [] y F' H' kx
     | Ex.exit i=>kx (Ex.exit i) F' H'
     | Ex.ret=>kx Ex.ret F' H')=some ()->Sg (Jx pre') G0 G' μ' H' A'->fG A' G' μ' nt F' a' ->
    Exit.then (y.wpIn Fence.wide n P R) R ex'.to a' A':=by
   intro l yv G0 all J Jx n R hR ex' F' H' pre' G' μ' a' A' hm hS hF;cases ex' with
   | normal =>
    have⟨r,h3,h4⟩:=vG hcl hP y F' H' kx () (λa ha=>by
     have:=hl a (by simp[dV,ha]);cases a with
     | loop b=>exact this.1
     | rangeFunc g ps as1 b=>intro h; cases h
     | _=>trivial) hm
    refine bQA h4 hS hF λG2 μ2 a2 A2 hS2 hF2=>hR _ _ _ ⟨r.1,r.2.1,r.2.2,pre',G2,μ2,h3,rfl,hS2,hF2⟩
   | exit i=>exact hR _ _ _ ⟨.exit i,F',H',pre',G',μ',hm,rfl,hS,hF⟩
   | ret=>exact hR _ _ _ ⟨.ret,F',H',pre',G',μ',hm,rfl,hS,hF⟩
  cases ex with
  | normal =>
   obtain⟨ys3,ys4,r,h3,rfl,h4⟩:=MD hcl hP y F1 H1 k kx ys2 z hx (λa ha=>hl a (by simp[dV,ha])) h1;refine⟨ys1++ys3,ys4,r,h3,by rw[List.append_assoc],?_⟩;intro l yv hyv G0 all J Jx hY pre post n a A G μ hall hys hS hF;refine wpIn_seq (wpIn_mono (h2 l yv hyv G0 all J Jx hY pre (ys3.map (·.2)++post) n a A G μ (by rw[hall,List.map_append,List.append_assoc]) (λy hy=>hys y (List.mem_append_left _ hy)) hS hF) ?_)
   rintro e a' w' (⟨rfl,G',μ',hS',hF'⟩|⟨ex',F',H',pre',G',μ',hm,rfl,hS',hF'⟩)
   ·refine wpIn_mono (h4 l yv hyv G0 all J Jx hY (pre++ys1.map (·.2)) post n a' w' G' μ' (by rw[hall,List.map_append,List.append_assoc,List.append_assoc]) (λy hy=>hys y (List.mem_append_right _ hy)) hS' hF') ?_;rintro e a'' w'' (⟨rfl,G2,μ2,hS2,hF2⟩|hst)
    ·refine .inl ⟨rfl,G2,μ2,?_,hF2⟩;rw[List.map_append,<- List.append_assoc]; exact hS2
    ·exact .inr hst
   ·exact stop (l:=l) (yv:=yv) (all:=all) (J:=J) (λe a' A' h=>Or.inr h) ex' F' H' pre' G' μ' a' w' hm hS' hF'
  | exit i =>
   refine⟨ys1,ys2,(.exit i,F1,H1),h1,rfl,?_⟩;intro l yv hyv G0 all J Jx hY pre post n a A G μ hall hys hS hF;refine wpIn_seq (wpIn_mono (h2 l yv hyv G0 all J Jx hY pre post n a A G μ hall hys hS hF) ?_);rintro e a' w' (⟨rfl,G',μ',hS',hF'⟩|⟨ex',F',H',pre',G',μ',hm,rfl,hS',hF'⟩)
   ·exact .inl ⟨rfl,G',μ',hS',hF'⟩
   ·exact stop (l:=l) (yv:=yv) (all:=all) (J:=J) (λe a' A' h=>Or.inr h) ex' F' H' pre' G' μ' a' w' hm hS' hF'
  | ret =>
   refine⟨ys1,ys2,(.ret,F1,H1),h1,rfl,?_⟩;intro l yv hyv G0 all J Jx hY pre post n a A G μ hall hys hS hF;refine wpIn_seq (wpIn_mono (h2 l yv hyv G0 all J Jx hY pre post n a A G μ hall hys hS hF) ?_);rintro e a' w' (⟨rfl,G',μ',hS',hF'⟩|⟨ex',F',H',pre',G',μ',hm,rfl,hS',hF'⟩)
   ·exact .inl ⟨rfl,G',μ',hS',hF'⟩
   ·exact stop (l:=l) (yv:=yv) (all:=all) (J:=J) (λe a' A' h=>Or.inr h) ex' F' H' pre' G' μ' a' w' hm hS' hF'
 | .cond c x y,F,H,k,kx,ys,z,hx,hl,h=>by
  simp only[aB7]at h;split at h
  next t ht=>
   replace h:=aMV h ht;have hc:∀ {A:World} {G:Gd} {μ:Mp} {a:Act},fG A G μ nt F a->a.eval c=.bool t:=λ{A G μ a} hF=>by
    have hc:=cT hF c;rw[ht,VR]at hc;exact hc
   cases t with
   | true =>
    have⟨ys1,ys2,r,h3,h4,h5⟩:=MD hcl hP x F H k kx ys z hx (λa ha=>hl a (by simp[dV,ha])) h;exact⟨ys1,ys2,r,h3,h4,λl yv hyv G0 all J Jx hY pre post n a A G μ hall hys hS hF=>wpIn_cond (hc hF) (h5 l yv hyv G0 all J Jx hY pre post n a A G μ hall hys hS hF)⟩
   | false =>
    have⟨ys1,ys2,r,h3,h4,h5⟩:=MD hcl hP y F H k kx ys z hx (λa ha=>hl a (by simp[dV,ha])) h;exact⟨ys1,ys2,r,h3,h4,λl yv hyv G0 all J Jx hY pre post n a A G μ hall hys hS hF=>wpIn_cond (hc hF) (h5 l yv hyv G0 all J Jx hY pre post n a A G μ hall hys hS hF)⟩
  ·cases h
 | .block id x,F,H,k,kx,ys,z,hx,hl,h=>by
  simp only[aB7]at h;obtain⟨ys1,ys2,⟨ex,F1,H1⟩,h1,rfl,h2⟩:=MD hcl hP x F H _ _ ys z (by intro F H; exact hx F H) (λa ha=>hl a (by simp[dV,ha])) h;have stop:∀ (ex':Ex) (F':Frm) (H':Heap),(match ex' with
     | Ex.exit i=>bif Nat.beq i id then kx .normal F' H' else kx (.exit i) F' H'
     | Ex.normal=>kx Ex.normal F' H'
     | Ex.ret=>kx Ex.ret F' H')=some ()->∃ ex2:Ex,kx ex2 F' H'=some ()/\∀ (Q:Exit->Act->World->Prop) a w,Q ex2.to a w->ex'.to.inBlock id Q a w:=by
   intro ex' F' H' hm;cases ex' with
   | normal=>exact⟨.normal,hm,λQ a w h=>h⟩
   | ret=>exact⟨.ret,hm,λQ a w h=>h⟩
   | exit i =>
    simp only at hm;cases hi:Nat.beq i id with
    | true =>
     rw[hi]at hm;have:=oE hi;subst this;exact⟨.normal,hm,λQ a w h=>by simp only[Ex.to,Exit.inBlock,if_true]; exact h⟩
    | false =>
     rw[hi]at hm;have hne:¬ i=id:=λe=>by rw[e]at hi; simp at hi
     exact⟨.exit i,hm,λQ a w h=>by simp only[Ex.to,Exit.inBlock,hne,if_false]; exact h⟩
  have live:∃ ex2:Ex,k ex2 F1 H1=some (ys2,z)/\∀ (Q:Exit->Act->World->Prop) a w,Q ex2.to a w->ex.to.inBlock id Q a w:=by
   cases ex with
   | normal=>exact⟨.normal,h1,λQ a w h=>h⟩
   | ret=>exact⟨.ret,h1,λQ a w h=>h⟩
   | exit i =>
    simp only at h1;cases hi:Nat.beq i id with
    | true =>
     rw[hi]at h1;have:=oE hi;subst this;exact⟨.normal,h1,λQ a w h=>by simp only[Ex.to,Exit.inBlock,if_true]; exact h⟩
    | false =>
     rw[hi]at h1;have hne:¬ i=id:=λe=>by rw[e]at hi; simp at hi
     exact⟨.exit i,h1,λQ a w h=>by simp only[Ex.to,Exit.inBlock,hne,if_false]; exact h⟩
  have⟨ex2,hk2,hex2⟩:=live;refine⟨ys1,ys2,(ex2,F1,H1),hk2,rfl,?_⟩;intro l yv hyv G0 all J Jx hY pre post n a A G μ hall hys hS hF;refine wpIn_block (wpIn_mono (h2 l yv hyv G0 all J Jx hY pre post n a A G μ hall hys hS hF) ?_);rintro e a' w' (⟨rfl,G',μ',hS',hF'⟩|⟨ex',F',H',pre',G',μ',hm,rfl,hS',hF'⟩)
  ·exact hex2 _ _ _ (Or.inl ⟨rfl,G',μ',hS',hF'⟩)
  ·have⟨ex3,h3,h4⟩:=stop ex' F' H' hm;exact h4 _ _ _ (Or.inr ⟨ex3,F',H',pre',G',μ',h3,rfl,hS',hF'⟩)
 | .loop x,F,H,k,kx,ys,z,hx,hl,h=>by
  simp only[aB7]at h;have hsub:=hl (.loop x) (by simp[dV]);split at h
  next s hs=>
   split at h
   ·rename_i x0 hx0;unfold a3D at h;split at h
    ·rename_i ys1 z1 hr;obtain⟨ys2,h1,rfl⟩:=a05 h;refine⟨ys1,ys2,R8 s.exits z1,aFQ h1,rfl,?_⟩;intro l yv hyv G0 all J Jx hY pre post n a A G μ hall hys hS hF;have⟨n0,hW,_,hS2⟩:=hS.bWL;have e0:Ext n0 A G aH A G μ:={ good:=λ_ h=>⟨h,rfl⟩,map:=λ_ _ h=>(by cases h),len:=λ_ _ h=>(by cases h),room:=λ_ _ h=>h,row:=λ_ _ h=>h,os:=rfl,tape:=rfl,output:=rfl,size:=oM _,old:=λ_ _ _=>rfl,new:=λ_ h=>.inl h };have⟨G1,μ1,e1,hW1,hF1⟩:=XV hx0 (λr _=>⟨rfl,rfl⟩) (⟨G,μ,e0,hW,hF⟩:I n0 A G aH nt F H a A)
     refine wpIn_mono (hsub.2 s hs x0 ys1 z1 hr l yv hyv G0 all J Jx hY pre post n a A G1 μ1 hall hys (hS2 _ _ _ _ e1 hW1) hF1) ?_;rintro e a' w' (h|⟨ex',F',H',pre',G',μ',hm,rfl,hS',hF'⟩)
     ·exact .inl h
     ·refine .inr ⟨ex',F',H',pre',G',μ',?_,rfl,hS',hF'⟩;cases ex' with
      | ret=>exact hx F' H'
      | normal=>cases hm
      | exit i=>cases hm
    ·cases h
   ·cases h
  ·split at h
   ·rename_i s hs;split at h
    next x0 hx0=>have⟨y,h1,h2⟩:=wA h;refine⟨[],ys,R8 s.exits y,aFQ h2,rfl,aNF λro n n0 wi Gi μi a w hro hfl hI=>?_⟩;exact hsub.1 s hs x0 y h1 ro n n0 wi Gi μi a w hro hfl (hI.dec hfl hx0)
    ·cases h
   ·cases h
 | .scope x,F,H,k,kx,ys,z,hx,hl,h=>by simp only[aB7]at h; cases h
 | .rangeFunc g ps as1 x,F,H,k,kx,ys,z,hx,hl,h=>by simp only[aB7]at h; cases h
 | .goto l,F,H,k,kx,ys,z,hx,hl,h=>by simp only[aB7]at h; cases h
 | .refuse s,F,H,k,kx,ys,z,hx,hl,h=>by simp only[aB7]at h; cases h
def bCQ {Y sh exits ex F H}{l:List Y}{y}(h:bW7 sh exits ex F H=some (l,y)):l=[]/\a4E [] sh exits ex F H=some y:=by
 unfold bW7 at h;grind
def bOY {b:Frm} {H1:Heap} (j:∀ {n0:Nat->Prop},I n0 A G aH nt F H a A->I n0 A G aH nt b H1 a A) (i:Sg Φ G0 G μ H A) (g:fG A G μ nt F a):∃ G' μ',Sg Φ G0 G' μ' H1 A/\fG A G' μ' nt b a:=by
 have⟨n0,c,_,d⟩:=i.bWL;have k:Ext n0 A G aH A G μ:={ good:=λ_ h=>⟨h,rfl⟩,map:=λ_ _ h=>(by cases h),len:=λ_ _ h=>(by cases h),room:=λ_ _ h=>h,row:=λ_ _ h=>h,os:=rfl,tape:=rfl,output:=rfl,size:=oM _,old:=λ_ _ _=>rfl,new:=λ_ h=>.inl h };have⟨G1,μ1,l,e,f⟩:=j ⟨G,μ,k,c,g⟩;grind
def bFV:∀ {l z ex},aN3 [] l ex F H=some z->(R8 l z).1=ex/\∀ {n0},I n0 A G aH nt F H a A->I n0 A G aH nt (R8 l z).2.1 (R8 l z).2.2 a A:=by
 intro l z ex h;have⟨c,sh,x,d,e,f⟩:=aEW h;refine⟨c,λb=>?_⟩;rw[e,f];exact XV d (λr _=>⟨rfl,rfl⟩) b
theorem a9X(w:dS P (gJ P E)) (T:P.follows .mixedOrders=true) {b:Code} {sh:zb} {d:zc} {step:Shape.den sh->Option (List (Value×aM ks)×(Shape.den sh⊕AQ d))} (L:Nat)
  (Q:∀ a∈dV b,bAW P nt lt ks li a) (V:∀ x,bHJ P E nt keep lt ks li b sh d x=step x):bC5 P nt ks b ⟨sh,d,YL step L⟩:=by
 intro x Y z hz l yv v G0 all J S R pre post n a A G μ t I C B;refine wpIn_loop_ghost (λk a A=>∃ c j x G μ,YL step k x=some (j,z)/\pre++Y.map (·.2)=c++j.map (·.2)/\(∀ y∈j,y.1=yv)/\Sg (J c) G0 G μ (WN sh x) A/\fG A G μ nt (KT sh x 0) a) L ⟨pre,Y,x,G,μ,hz,rfl,I,C,B⟩ ?_;rintro k U X ⟨c,j,x,G,μ,hz,f,h,C,B⟩;cases k with
 | zero=>cases hz
 | succ k =>
  simp only[YL]at hz;have g:all=c++(j.map (·.2)++post):=by rw[t,<- List.append_assoc,f,List.append_assoc]
  split at hz
  next m y s=>
   obtain⟨m2,F,rfl⟩:=a05 hz;rw[<- V]at s;have⟨y1,y2,⟨ex,F',H'⟩,D,u,K⟩:=MD w T b _ _ _ bYR m _ (λ_ _=>rfl) Q s;have⟨o,M⟩:=bCQ D;subst o;rw[List.append_nil]at u;subst u;refine wpIn_mono (K l yv v G0 all J S R c (m2.map (·.2)++post) n U X G μ (by rw[g,List.map_append,List.append_assoc]) (λy N=>h y (List.mem_append_left _ N)) C B) ?_;rintro e a' A' (⟨rfl,G',μ',hS',hF'⟩|⟨ex',F',H',pre',G',μ',hm,rfl,hS',hF'⟩)
   ·rcases aM2 M with ⟨y',o,e2,e3⟩|⟨z',o,_,_⟩
    ·cases o;subst e2;have⟨G2,μ2,q,p⟩:=bOY (λH=>XV e3 (λr _=>⟨rfl,rfl⟩) H) hS' hF';exact⟨k,by omega,_,m2,y,G2,μ2,F,by rw[f,List.map_append,List.append_assoc],λy N=>h y (List.mem_append_right _ N),q,p⟩
    ·cases o
   ·cases ex' with
    | ret=>exact .inr ⟨.ret,F',H',pre',G',μ',rfl,rfl,hS',hF'⟩
    | normal=>cases hm
    | exit i=>cases hm
  next m y s=>
   simp only[oJ,oP]at hz;obtain⟨rfl,rfl⟩:=hz;rw[<- V]at s;have⟨y1,y2,⟨ex,F',H'⟩,D,u,K⟩:=MD w T b _ _ _ bYR m _ (λ_ _=>rfl) Q s;have⟨o,M⟩:=bCQ D;subst o;rw[List.append_nil]at u;subst u;refine wpIn_mono (K l yv v G0 all J S R c post n U X G μ g h C B) ?_;rintro e a' A' (⟨rfl,G',μ',hS',hF'⟩|⟨ex',F',H',pre',G',μ',hm,rfl,hS',hF'⟩)
   ·rcases aM2 M with ⟨y',o,e2,e3⟩|⟨z',o,e2,e3⟩
    ·cases o
    ·cases o;dsimp only at e2 e3;have⟨O,Z⟩:=bFV (A:=A') (G:=G') (a:=a') (nt:=nt) e3;have⟨G2,μ2,q,p⟩:=bOY (λH=>Z H) hS' hF';have W:(Exit.normal≠ex.to->True):=λ_=>trivial
     cases ex with
     | normal=>exact absurd rfl e2
     | exit i=>exact .inl ⟨by rw[O],G2,μ2,by rw[f]; exact q,p⟩
     | ret=>exact .inl ⟨by rw[O],G2,μ2,by rw[f]; exact q,p⟩
   ·cases ex' with
    | ret=>exact .inr ⟨.ret,F',H',pre',G',μ',rfl,rfl,hS',hF'⟩
    | normal=>cases hm
    | exit i=>cases hm
  ·cases hz
def bQB(P:Program) (E:Env) (fn:Func) (keep:Nat) (lt:Nat->Option cI) (ks:List Kd) (li:Nat->Option (aLI (Value×aM ks))) (c:Code) (ts:List Ty) (yv:Value) (x:TZ ts):Option (List (Value×aM ks)) :=bif Nat.ble (1+(aOU ts x).length) fn.ntmps then bI3 (aB7 P E fn.ntmps keep lt ks li c (start keep 0 (.lit yv::aOU ts x)) [] (λex _ _=>match ex with| .exit _=>none| _=>some ([],())) (λex _ _=>match ex with| .exit _=>none| _=>some ())) else none
def bGG(R:WV P) (V:dN P E) {g:Nat} {fn:Func} (hg:P.funcs[g]?=some fn) {c:Code} (hc:fn.body=some c) (q:fn.results=#[]) {ts:List Ty} {f:TZ ts->Option (List (aM ks))}
  (N:∀ a∈dV c,bAW P fn.ntmps lt ks li a) (Y:∀ yv x all,f x=some all->bQB P E fn keep lt ks li c ts yv x=some (all.map λe=>(yv,e))):aOQ P g ts ks f:=by
 intro x all o m l W G vs s H J r Q Z;obtain⟨yv,p⟩:∃ yv:Value,yv=.func (.yield l) #[] #[]:=⟨_,rfl⟩;have b:=Y yv x all o;have⟨hlen,b⟩:=aJ b;unfold bI3 at b;split at b
 next K u hex=>
  have z:=oB b;have⟨O,F,⟨ex,F',H'⟩,M,I,S⟩:=MD V.callee R.mixed c _ _ _ _ _ _ (λ_ _=>rfl) N hex;have hex:(ex=.normal\/ex=.ret)/\F=[]:=by
   cases ex with
   | exit i=>cases M
   | normal =>
    grind
   | ret =>
    grind
  obtain⟨hex,rfl⟩:=hex;rw[List.append_nil]at I;subst I;have t:∀ y∈K,y.1=yv:=zt;have h:K.map (·.2)=all:=(by rw[z,List.map_map];exact List.map_id all)
  refine callsIn_of_wp hg hc trivial ?_ rfl;have j:VRs W (Gd.of G) aH (.lit yv::aOU ts x) ((#[.func (.yield l) #[] #[]]:Array Value)++vs.toArray).toList:=by
   rw[<- p];simp only[Array.toList_append,List.cons_append,List.nil_append];exact⟨yv,vs,rfl,by rw[VR],H⟩
  have w:=E6 (m:=keep) (n:=fn.ntmps) j (by simpa[Nat.add_comm]using oL hlen);have D:Sg (J []) (Gd.of G) (Gd.of G) aH [] W:=Sg.start s Z;have post:∀ (ex:Exit) (a:Act) (A:World),(ex=.normal\/ex=.ret)->a.defers=[]->∀ (T X:Nat->Prop) (B:World),Stp X B A->(J all T X B\/∃ pre,r pre T X B) ->
    bodyPost P fn (λU C=>(∃ v,U=.returned v)/\∃ T X B,Stp X B C/\(J all T X B\/∃ pre,r pre T X B)) ex a A:=by
   intro ex a A hex hd T X B d k;have L:(results fn a.tmps).run P A=.ok (.tuple #[]) A:=by simp[results,q]
   rcases hex with rfl|rfl
   ·exact⟨hd,_,L,⟨_,rfl⟩,T,X,B,d,k⟩
   ·exact⟨hd,_,L,⟨_,rfl⟩,T,X,B,d,k⟩
  refine wpIn_mono (S l yv p (Gd.of G) all J r Q [] [] m _ W (Gd.of G) aH (by rw[h]; simp) t D w) ?_;rintro e a' A' (⟨rfl,G',μ',hS',hF'⟩|⟨ex',F',H',pre',G',μ',hm,rfl,hS',hF'⟩);have⟨T,X,B,d,k⟩:=hS'.stp;rw[List.nil_append,h]at k;refine post _ a' A' ?_ hF'.defers T X B d (.inl k);rcases hex with rfl|rfl;exact .inl rfl;exact .inr rfl
  ·have⟨T,X,B,d,k⟩:=hS'.stp;refine post _ a' A' ?_ hF'.defers T X B d (.inr ⟨_,k⟩);cases ex' with
   | normal=>exact .inl rfl;| ret=>exact .inr rfl;| exit i=>cases hm
 cases b
def a9V {a i s0}(e:bM a=i)(d:lt i=none)(c:li i=some s0)(h:bC5 P nt ks a s0):bAW P nt lt ks li (.loop a):=by
 refine⟨λs b=>?_,λs b=>?_⟩;grind;grind
def a9A(P:Program)(nt:Nat)(lt:Nat->Option cI) ks (li:Nat->Option (aLI (Value×aM ks))):List Code->Prop| []=>True| c::r=>bAW P nt lt ks li c/\a9A P nt lt ks li r
def aZ1:∀ {l},a9A P nt lt ks li l->∀ a∈l,bAW P nt lt ks li a
 | [],_,a,ha=>zt
 | c::r,h,a,ha=>by
  rcases List.mem_cons.1 ha with rfl|ha
  ·exact h.1
  ·exact aZ1 h.2 a ha
theorem aML {c l}(b:dV c=l)(h:a9A P nt lt ks li l):∀ a∈dV c,bAW P nt lt ks li a:=by rw[b]; exact aZ1 h
end
def aL i n:aE i n=decide (0<=i/\i<n):=by
 cases i with
 | ofNat m =>
  show Nat.blt m n=_;rw[cF];simp
 | negSucc m =>
  rfl
def zi{i:Int}{n:Nat}(h:0<=i/\i<n:=by omega):aE i n=true:=by rw[aL]; exact oT h
def zj{i:Int}{n:Nat}(h:¬(0<=i/\i<n):=by omega):aE i n=false:=by rw[aL]; exact oF h
def eL(m n:Nat):Nat.ble m n=decide (m<=n):=by
 cases h:Nat.ble m n with
 | true=>simp_all
 | false =>
  refine(oF λa=>?_).symm;rw[Nat.ble_eq_true_of_le a]at h;grind
def zm{a b:Nat}(h:a<=b:=by omega):Nat.ble a b=true:=by rw[eL]; exact oT h
def zn{a b:Nat}(h:¬(a<=b):=by omega):Nat.ble a b=false:=by rw[eL]; exact oF h
def wrap64 {x}(b : -9223372036854775808<=x)(a:x<9223372036854775808):aA .i64 x=x:=by
 cases x with
 | ofNat m =>
  have:m<9223372036854775808:=zt
  unfold aA;simp only[cF,oT this,oC]
 | negSucc m =>
  have:m<9223372036854775808:=Z
  unfold aA;simp only[cF,oT this,oC]
def bP(i:Nat)(h:i<9223372036854775807):aA .i64 (i+1)=((i+1:Nat)):=by rw[wrap64 Z Z]; rfl
def aAM {x}(b : -9223372036854775808<=x)(a:x<9223372036854775808):IntKind.wrap .i64 x=x:=by rw[<- a9N]; exact wrap64 b a
def yJ {α:Type} p [Decidable p](a b:α):(bif decide p then a else b)=if p then a else b:=R
def aC {τ α} x (k:τ->Option α):aB (some x) k=k x:=rfl
def aYS p [Decidable p]:(!decide p)=decide (¬ p):=R
def rT {β γ α}(z:β) f (g:γ->Option α):mN (.inl z) f g=f z:=rfl
def bV {β γ α}(z:γ)(f:β->Option α) g:mN (.inr z) f g=g z:=rfl
def zz:(∀ {τ α:Type}(x:τ)(k:τ->Option α),aB (some x) k=k x)/\(∀ {α:Type}(a b:α),cond true a b=a)/\(∀ {α:Type}(a b:α),cond false a b=b)/\(∀ {β γ α:Type}(z:β)(f:β->Option α)(g:γ->Option α),mN (.inl z) f g=f z)/\(∀ {β γ α:Type}(z:γ)(f:β->Option α)(g:γ->Option α),mN (.inr z) f g=g z)/\((!true)=false)/\((!false)=true):=⟨λ _ _=>rfl,λ _ _=>rfl,λ _ _=>rfl,λ _ _ _=>rfl,λ _ _ _=>rfl,rfl,rfl⟩
section
variable {σ τ:Type} {step:σ->Option (σ⊕τ)}
def eF n x:aV step (n+1) x=match step x with| some (.inl y)=>aV step n y| some (.inr z)=>some z| none=>none:=rfl
def aRZ(F:Nat->σ) k:∀ m j,(∀ i,j<=i->i<j+m->step (F i)=some (.inl (F (i+1))))->aV step (m+k) (F j)=aV step k (F (j+m))
 | 0,j,_=>R
 | m+1,j,h=>by
  rw[Nat.add_right_comm,eF,h j (oM _) R];show aV step (m+k) (F (j+1))=_;rw[aRZ F k m (j+1) λi b a=>h i Z Z];grind
def aK {N:Nat} (F:Nat->σ) (m:Nat) (z:τ) (a:m<N) (h:∀ i,i<m->step (F i)=some (.inl (F (i+1)))) (he:step (F m)=some (.inr z)):aV step N (F 0)=some z:=by
 obtain⟨k,rfl⟩:∃ k,N=m+(k+1):=⟨N-m-1,by omega⟩;rw[aRZ F (k+1) m 0 (λi _ b=>h i Z),Nat.zero_add,eF,he]
def aS4(F:Nat->σ) (stop:Nat->Option τ) (z:τ) (k:Nat):∀ (m j:Nat),(∀ i,j<=i->i<j+m->step (F i)=some (match stop i with|some y=>.inr y|none=>.inl (F (i+1))))->step (F (j+m))=some (.inr z) ->
   aV step (m+(k+1)) (F j)=some (((List.range' j m).findSome? stop).getD z)
 | 0,j,_,he=>by rw[Nat.zero_add,eF,show F j=F (j+0) from rfl,he]; rfl
 | m+1,j,h,he=>by
  rw[Nat.add_right_comm,eF,h j (oM _) Z,List.range'_succ,List.findSome?_cons];cases a:stop j with
  | some y=>rfl
  | none =>
   show aV step (m+(k+1)) (F (j+1))=_;exact aS4 F stop z k m (j+1) (λi c b=>h i Z Z) (by rw[<- he]; congr 2; omega)
def aPW {N}(F:Nat->σ) stop m z (a:m<N)(h:∀ i,i<m->step (F i)=some (match stop i with|some y=>.inr y|none=>.inl (F (i+1))))(he:step (F m)=some (.inr z)) :
  aV step N (F 0)=some (((List.range m).findSome? stop).getD z):=by
 obtain⟨k,rfl⟩:∃ k,N=m+(k+1):=⟨N-m-1,by omega⟩;rw[List.range_eq_range'];exact aS4 F stop z k m 0 (λi _ b=>h i Z) zt
end
section
variable {P:Program} {n0:Nat->Prop} {w w':World} {G G':Gd} {μ μ1:Mp} {H H1:Heap}
def aCN(μ μ1:Mp)(h:Nat):Mp:=⟨λr=>if r<h then μ.loc r else μ1.loc (r-h),λr=>if r<h then μ.len r else μ1.len (r-h),λr=>if r<h then μ.sh r else μ1.sh (r-h)⟩
def HU {h r}(a:r<h):(aCN μ μ1 h).loc r=μ.loc r/\(aCN μ μ1 h).len r=μ.len r/\(aCN μ μ1 h).sh r=μ.sh r:=by simp[aCN,a]
def KX {h r}(a:h<=r):(aCN μ μ1 h).loc r=μ1.loc (r-h)/\(aCN μ μ1 h).len r=μ1.len (r-h)/\(aCN μ μ1 h).sh r=μ1.sh (r-h):=by
 have:¬ r<h:=Z
 simp[aCN,this]
def bJP(c:aX n0 G μ H w)(e:Ext (RL w) w G.bare aH w' G' μ1):Ext n0 w G μ w' (G'.with G) (aCN μ μ1 H.length):={
 good:=e.good
 map:=λr b a=>by
  rcases oG r H.length with hl|hl
  ·rw[(HU hl).1]; omega
  ·rw[(c.top r hl).1]at a; grind
 len:=λr b a=>by
  rcases oG r H.length with hl|hl
  ·rw[(HU hl).2.1]; omega
  ·rw[(c.top r hl).2]at a; grind
 sh:=λr b a=>by
  rcases oG r H.length with hl|hl
  ·exact(HU hl).2.2
  ·rw[(c.top r hl).1]at a; cases a
 room:=e.room
 row:=λ_ _ h=>h
 os:=e.os
 tape:=e.tape
 output:=e.output
 size:=e.size
 old:=λb d _=>e.old b d (Nat.not_le.2 d)
 new:=λb d=>by
  rcases e.new b d with h|h
  ·exact .inl h
  ·exact .inr (c.base b h) }
def bSH(m:aX n0 G μ H w)(e:Ext (RL w) w G.bare aH w' G' μ1)(o:aX (RL w) G' μ1 H1 w')(ht:aN8 H1=true)(hp:∀ (r:Nat) k,H1[r]?=some (some k)->gP.noRows k.cells=true/\∀ t l,k.tag≠some ⟨.rows t,l⟩):aX n0 (G'.with G) (aCN μ μ1 H.length) (H++H1) w':=by
 have z:=bJP m e;have key:∀ (r:Nat) (k:Blk),(H++H1)[r]?=some (some k)->(r<H.length/\H[r]?=some (some k))\/(H.length<=r/\H1[r-H.length]?=some (some k)):=(by intro r k a;rcases oG r H.length with d|d;rw[List.getElem?_append_left d]at a; exact .inl ⟨d,a⟩;rw[List.getElem?_append_right d]at a; exact .inr ⟨d,a⟩);refine⟨?_,?_,?_,o.lt,?_,λb p=>m.base b (oR e.size p),m.rows.step z.toMono.aH e.size (λ_=>rfl) (λj b B=>?_) (λr k t l a i y=>?_)⟩
 case refine_5 =>
  have f:=(m.rows.sep j b B).1;refine⟨e.old b f (Nat.not_le.2 f),λi=>?_,λr k a n d=>?_⟩
  ·rcases e.new b i with h|h
   ·exact h
   ·exact absurd f (Nat.not_lt.2 h)
  ·rcases key r k a with ⟨hl2,a⟩|⟨hl2,a⟩
   ·rw[(HU hl2).1]at d; exact⟨r,k,a,n,d⟩
   ·rw[(KX hl2).1]at d;have⟨_,_,_,_,_,a5⟩:=o.blk _ k b a d;exact absurd f (Nat.not_lt.2 (a5 n).1)
 case refine_6 =>
  rcases key r k a with ⟨hl2,a⟩|⟨hl2,a⟩
  ·exact⟨k,a,rfl,rfl,rfl,(HU hl2).1⟩
  ·exact absurd y ((hp _ k a).2 t l)
 intro r k b a p;rcases key r k a with ⟨d,a⟩|⟨d,a⟩;rw[(HU d).1]at p;have⟨c,x,a2,a3,a4,a5⟩:=m.blk r k b a p;have f:=m.vB a p;have A:=e.old b f (Nat.not_le.2 f);rw[(HU d).2.2];refine⟨c,A.trans x,aT.mono z.toMono A _ _ a2,a3,λn=>(e.good b (a4 n)).1,λn=>⟨(a5 n).1,λi=>?_⟩⟩;rcases e.new b i with h|h;exact(a5 n).2 h;omega;rw[(KX d).1]at p;have⟨c,x,a2,a3,a4,a5⟩:=o.blk _ k b a p;rw[(KX d).2.2];refine⟨c,x,?_,a3,a4,λn=>⟨m.base b (a5 n).1,(a5 n).2⟩⟩;refine D8 (G:=G') (G':=G'.with G) (λb h=>h) _ _ _ _ (hp _ k a).1 ?_;rcases aO7 ht a with i|i;have⟨g,i⟩:=Option.isSome_iff_exists.1 i;have:=(o.tags _ k g a i).1;rw[this]at a2 ⊢;exact xZ (lB _ _) a2;exact xZ i a2;intro r k g a i;rcases key r k a with ⟨d,a⟩|⟨d,a⟩;rw[(HU d).2.1]; exact m.tags r k g a i;rw[(KX d).2.1]; exact o.tags _ k g a i;intro r s k l b a q u v m1 m2;rcases key r k a with ⟨d,a⟩|⟨d,a⟩ <;> rcases key s l q with ⟨hl2,q⟩|⟨hl2,q⟩;rw[(HU d).1]at m1;rw[(HU hl2).1]at m2;exact m.inj r s k l b a q u v m1 m2;rw[(HU d).1]at m1;rw[(KX hl2).1]at m2;have⟨_,_,_,_,_,a5⟩:=o.blk _ l b q m2;have:=m.vB a m1;have:=(a5 v).1;omega;rw[(KX d).1]at m1;rw[(HU hl2).1]at m2;have⟨_,_,_,_,_,a5⟩:=o.blk _ k b a m1;have:=m.vB q m2;have:=(a5 u).1;omega;rw[(KX d).1]at m1;rw[(KX hl2).1]at m2;have:=o.inj _ _ k l b a q u v m1 m2;omega;intro r a;simp only[oH]at a;have d:H.length<=r:=Z;rw[(KX d).1,(KX d).2.1];exact o.top _ Z
def bTE {r sz v}(h:VR w' G' μ1 (.own r sz) v):VR w' G' (aCN μ μ1 H.length) (.own (H.length+r) sz) v:=by
 have e:=KX (μ:=μ) (μ1:=μ1) (h:=H.length) (r:=H.length+r) R;rw[VR]at h ⊢;grind
def aYH(P:Program) (g:FuncId) (args:List Kd) (e:TypeId) (ty:Ty) (f:aM args->Option (List ty.den)):Prop :=∀ x l,f x=some l->∀ {n0 G μ w us},aX n0 G μ [] w->VRs w G μ (lF args x) us->DI P n0 w G μ g us.toArray (.own 0 ty.size) [some ⟨aI ty l,e,true,false,some ⟨ty,l⟩⟩]
def bYU(t:Nat)(e:TypeId)(ty:Ty)(ex:Ex)(F:Frm)(H:Heap):Option (List ty.den):=match ex with| .exit _=>none| _=>match aE4 [(t,.own e ty)] F H with| some x=>some x.1| none=>none
def bDW(P:Program)(E:Env)(fn:Func)(keep:Nat)(lt:Nat->Option cI)(c:Code) args (t:Nat)(e:TypeId)(ty:Ty)(x:aM args):Option (List ty.den) :=bif Nat.ble (lF args x).length fn.ntmps then C1 P E fn.ntmps keep lt c (start keep 0 (lF args x)) [] (bYU t e ty) else none
def a6M {E} (B:WV P) (M:dN P E) {g:Nat} {fn} (A:P.funcs[g]?=some fn) {c} (C:fn.body=some c) {keep lt args} {t:Nat} (Q:fn.results.toList=[.tmp t]) {e ty f}
  (D:∀ a∈bA c,∀ s,lt (bM a)=some s->cJ P fn.ntmps a s) (N:∀ x,bDW P E fn keep lt c args t e ty x=f x):aYH P g args e ty f:=by
 intro x l j n0 G μ w us p O;rw[<- N]at j;unfold bDW at j;have⟨hlen,j⟩:=aJ j;have⟨⟨ex,F',H'⟩,d,J⟩:=sZ M.callee B.mixed c _ _ _ _ D j;obtain⟨y,hex,hd,k⟩:∃ y,(ex=.normal\/ex=.ret)/\aE4 [(t,.own e ty)] F' H'=some y/\y.1=l:=by
  unfold bYU at d;split at d
  ·cases d
  next u=>
   split at d
   ·rename_i y j;simp only[oJ]at d;refine⟨y,?_,j,d⟩;cases ex with
    | normal=>exact .inl rfl
    | ret=>exact .inr rfl
    | exit i=>exact absurd rfl (u i)
   ·cases d
 obtain⟨q,⟨⟩⟩:=y;dsimp only at k;subst k;refine⟨enters A (B.names g fn A) (by rw[C]; rfl) _ _,calls_of_wp A C ?_⟩;have H:I n0 w G μ fn.ntmps (start keep 0 (lF args x)) [] ⟨us.toArray++Array.replicate (fn.ntmps-us.toArray.size) undef,[]⟩ w:=⟨G,μ,Ext.refl _ _ _ _,p,E6 (by simpa using O) (oL hlen)⟩;refine wp_mono (J n0 w G μ _ w (λr=>p.top r (Nat.zero_le _)) H) ?_;rintro e0 a' w' ⟨rfl,hI'⟩;have⟨G',μ',F,m,o⟩:=OH hd (λr=>p.top r (Nat.zero_le _)) hI';have z:yG P (KT [(t,.own e ty)] (q,()) 0) (WN [(t,.own e ty)] (q,())) fn.results.toList=some [.own 0 ty.size]:=(by rw[Q];simp[yG,aZD,KT,OB,cR]);have⟨ws,K,L⟩:=uB (P:=P) m o z;have n:(results fn a'.tmps).run P w'=.ok (if R:ws.toArray.size=1 then ws.toArray[0] else .tuple ws.toArray) w':=(by rw[J0,Array.mapM_eq_mapM_toList];simp only[Sem.run_bind,Sem.run_map,K,Result.andThen_ok,Sem.run_pure])
 have b:a'.defers=[]/\∃ v,(results fn a'.tmps).run P w'=.ok v w'/\(∃ v' h μ'',Ending.returned v=.returned v'/\Ext n0 w G μ w' h μ''/\aX n0 h μ'' (WN [(t,.own e ty)] (q,())) w'/\VR w' h μ'' (.own 0 ty.size) v') :=
  ⟨o.defers,_,n,_,G',μ',rfl,F,m,xE L⟩
 rcases hex with rfl|rfl;exact b;exact b
def bWQ(args:List Kd) (e:TypeId) (ty:Ty) (f:aM args->Option (List ty.den)) (qs:List PV) (H:Heap):Option aV3 :=bif eM.noRefs qs&&(gP.noRows qs&&ty.plain) then match a8P args qs with| some x=>some ⟨List ty.den,f x,λl=>(.own H.length ty.size,H++[some ⟨aI ty l,e,true,false,some ⟨ty,l⟩⟩])⟩| none=>none else none
def bMW(args:List Kd) (e:TypeId) (ty:Ty) (f:aM args->Option (List ty.den)) (qs:List PV) (H:Heap):Option aV3 :=match bJ0 (NC H (bG9 qs)) qs with| some ps=>bWQ args e ty f ps (NC H (bG9 qs))| none=>none
def bWY {g args e ty f}(o:aYH P g args e ty f):sT P (g,bWQ args e ty f):=by
 intro qs H r h y z n0 G μ w vs c v;dsimp only at h;unfold bWQ at h;have⟨hn,h⟩:=VI h;split at h
 next x n=>
  have h:=oB h;subst h;simp only[oA]at hn;have⟨hn,d,a⟩:=hn;have j:aX (RL w) G.bare aH [] w:=⟨λr k b h=>by simp at h,λr k g h=>by simp at h,λr s k l b h=>by simp at h,c.lt,λ_ _=>⟨rfl,rfl⟩,λ_ h=>h,BU.none _ _ (λ_=>rfl) _ _ (λr k h=>by simp at h)⟩;have⟨p,u⟩:=o x y z j (T4 args n (CC (G:=G) (G':=G.bare) (λb h=>h) _ _ _ d (cZ _ _ hn v)));refine⟨p,u.mono ?_⟩;rintro e' w' ⟨v',G',μ1,rfl,m,q,e3⟩;refine⟨v',G'.with G,aCN μ μ1 H.length,rfl,bJP c m,bSH c m q rfl (λr k i=>?_),?_⟩
  ·cases r with
   | zero =>
    simp only[List.getElem?_cons_zero,oJ]at i;subst i;exact⟨IW _ a _,λt l h=>by obtain⟨rfl,_⟩:=h; cases a⟩
   | succ r=>simp at i
  have:=bTE (H:=H) (μ:=μ) e3;rw[VR]at this ⊢;simpa using this
 cases h
def aY4 {g args e ty f}(i:aYH P g args e ty f):sT P (g,bMW args e ty f):=by
 intro qs H r h y p n0 G μ w vs d n;dsimp only at h;unfold bMW at h;split at h;rename_i ps b;have⟨G1,c,a⟩:=NW (bG9 qs) H G d;have⟨j,k⟩:=bWY i ps _ r h y p a (bGB a b (VRs.mono c.toMono _ _ n)).bF;refine⟨j,k.mono ?_⟩;rintro q w' ⟨v',G',μ1,rfl,o,l,m⟩;exact⟨v',G',μ1,rfl,c.trans o,l,m⟩;grind
end
section
variable {P:Program} {n0:Nat->Prop} {w w':World} {G G':Gd} {μ μ1:Mp} {H H1:Heap}
def bJK(i:aX n0 G μ H w) {r:Nat} (C:H[r]?=some none) (k:Blk) (z:k.frozen=false) (u:k.grown=true)
  (hblk:∀ b,μ.loc r=some b->(∃ c,w.heap[b]?=some (.cells c k.ty (0,0))/\aT w G μ b (μ.sh r) k.cells)/\n0 b/\¬ G b/\(∀ s a,H[s]?=some (some a)->a.frozen=false->μ.loc s≠some b)/\∀ j,G.row j≠some b)
  (o:∀ g,k.tag=some g->k.cells=aI g.t g.l/\μ.len r=some g.l.length):aX n0 G μ (H.set r (some k)) w:=by
 have v:r<H.length:=(oO.1 C).1;have key:∀ s a,(H.set r (some k))[s]?=some (some a)->(s=r/\a=k)\/(s≠r/\H[s]?=some (some a)):=(by intro s a d;by_cases e:r=s;subst e;rw[List.getElem?_set_self v]at d;exact .inl ⟨rfl,(oB (oB d)).symm⟩;rw[List.getElem?_set_ne e]at d;exact .inr ⟨Ne.symm e,d⟩);refine⟨?_,?_,?_,i.lt,λs d=>i.top s (by simpa using d),i.base,?_⟩;intro s a b d x;rcases key s a d with ⟨rfl,rfl⟩|⟨_,d⟩;have⟨⟨c,f,m⟩,q,p,_⟩:=hblk b x;exact⟨c,f,m,λh=>(by rw[u]at h; cases h),λh=>(by rw[z]at h; cases h),λ_=>⟨q,p⟩⟩;exact i.blk s a b d x;intro s a g d f;rcases key s a d with ⟨rfl,rfl⟩|⟨_,d⟩;exact o g f;exact i.tags s a g d f;intro s1 s2 a n b f m f1 f2 m1 m2;rcases key s1 a f with ⟨rfl,rfl⟩|⟨_,q⟩;rcases key s2 n m with ⟨rfl,rfl⟩|⟨_,p⟩;rfl;exact absurd m2 ((hblk b m1).2.2.2.1 s2 n p f2);rcases key s2 n m with ⟨rfl,rfl⟩|⟨_,p⟩;exact absurd m1 ((hblk b m2).2.2.2.1 s1 a q f1);exact i.inj s1 s2 a n b q p f1 f2 m1 m2;refine⟨i.rows.inj,?_,i.rows.cel,?_,?_⟩;intro j b y;have⟨A,a2,a3,a4⟩:=i.rows.sep j b y;refine⟨A,a2,a3,λs a d f1 m1=>?_⟩;rcases key s a d with ⟨rfl,rfl⟩|⟨_,d⟩;exact(hblk b m1).2.2.2.2 j y;exact a4 s a d f1 m1;intro s a t l d f m;rcases key s a d with ⟨rfl,rfl⟩|⟨_,d⟩;rw[u]at f; cases f;exact i.rows.arn s a t l d f m;intro s1 s2 a n t l B D f g1 t1 m g2 t2;rcases key s1 a f with ⟨rfl,rfl⟩|⟨_,f⟩;rw[u]at g1; cases g1;rcases key s2 n m with ⟨rfl,rfl⟩|⟨_,m⟩;rw[u]at g2; cases g2;exact i.rows.one s1 s2 a n t l B D f g1 t1 m g2 t2
def bDJ(P:Program) (g:FuncId) (e:TypeId) (t:Ty) (args:List Kd) (f:List t.den->aM args->Option (List t.den)):Prop :=∀ l x l',f l x=some l'->∀ {n0 G μ H w us r},aX n0 G μ H w->H[r]?=some (some (owB e t l))->VRs w G μ (.own r t.size::lF args x) us->gP.noRows (lF args x)=true->DI P n0 w G μ g us.toArray (.tuple []) (H.set r (some (owB e t l')))
def aBW {t:Ty} {args:List Kd} (f:Unit->aM (.hnd t.size::args)->List (List t.den)->Option (aM []×List (List t.den))) (l:List t.den) (x:aM args):Option (List t.den):=match f () ((0,0,l.length),x) [l]with| some ((),[l'])=>bif Nat.beq l'.length l.length then some l' else none| _=>none
def bNU(P:Program) (g:FuncId) (e:TypeId) (t:Ty) (args rets:List Kd) (f:List t.den->aM args->Option (aM rets×List t.den)):Prop :=∀ l x y l',f l x=some (y,l')->∀ {n0 G μ H w us r},aX n0 G μ H w->H[r]?=some (some (owB e t l))->VRs w G μ (.own r t.size::lF args x) us->gP.noRows (lF args x)=true->DI P n0 w G μ g us.toArray (aLV rets y) (H.set r (some (owB e t l')))
def aU7 {t:Ty} {args rets:List Kd} (f:Unit->aM (.hnd t.size::args)->List (List t.den)->Option (aM rets×List (List t.den))) (l:List t.den) (x:aM args):Option (aM rets×List t.den):=match f () ((0,0,l.length),x) [l]with| some (y,[l'])=>bif Nat.beq l'.length l.length then some (y,l') else none| _=>none
def bU9:List Kd->Bool| []=>true| [.bool]=>true| [.int _]=>true| _=>false
def bUG {rets}(h:bU9 rets=true) y {w G G' μ μ' v}(a:VR w G μ (aLV rets y) v):VR w G' μ' (aLV rets y) v:=by
 unfold bU9 at h;split at h;change VR w G μ (.tuple []) v at a;change VR w G' μ' (.tuple []) v;have⟨vs,d,c⟩:=a;exact⟨vs,d,c⟩;obtain⟨b,⟨⟩⟩:=y;change VR w G μ (.lit (.bool b)) v at a;change VR w G' μ' (.lit (.bool b)) v;exact a;rename_i k;obtain⟨b,⟨⟩⟩:=y;change VR w G μ (.lit (.int k b)) v at a;change VR w G' μ' (.lit (.int k b)) v;exact a;grind
def a62 {g:FuncId} {e:TypeId} {t:Ty} {args rets:List Kd} {f:Unit->aM (.hnd t.size::args)->List (List t.den)->Option (aM rets×List (List t.den))} (X:Z6 P g e t .none (.hnd t.size::args) (.data rets) f) (hd:aU8 args=true) (hpl:t.plain=true) (hlr:bU9 rets=true) (he:e≠aHV:=by decide):bNU P g e t args rets (aU7 f):=by
 intro l x yy l' W n0 G μ H w us r q J hv hnr;unfold aU7 at W;split at W
 next y1 F hfl=>
  have⟨hlen,W⟩:=aJ W;obtain⟨rfl,rfl⟩:=Prod.mk.inj (oB W);have hlen:=oE hlen;have R:=(q.tags r _ _ J rfl).2;have hlt:r<H.length:=(oO.1 J).1;obtain⟨N,A⟩:∃ N:Option Nat,N=if l=[] then none else μ.loc r:=⟨_,rfl⟩
  have k:∀ b,N=some b->μ.loc r=some b/\l≠[]:=λb a=>by
   rw[A]at a;split at a
   ·cases a
   next E=> exact⟨a,E⟩
  have d:∀ b,μ.loc r=some b->n0 b/\¬ G b:=λb a=>by
   have⟨_,_,_,_,_,h6⟩:=q.blk r _ b J a;exact h6 rfl
  have S:∀ j b,G.row j=some b->μ.loc r≠some b:=λj b o=>(q.rows.sep j b o).2.2.2 r _ J rfl
  obtain⟨u,D,rfl,V,q2⟩:∃ u D,us=u::D/\VR w G μ (.own r t.size) u/\VRs w G μ (lF args x) D:=by rw[VRs]at hv; exact hv
  have O:∀ (s:Nat) (v:Blk),([some (arB e t [l])]:Heap)[s]?=some (some v)->s=0/\v=arB e t [l]:=by
   intro s v p;cases s with
   | zero=>simp only[List.getElem?_cons_zero,oJ]at p; exact⟨rfl,p.symm⟩;| succ s=>simp at p
  have y:∃ G0:Gd,G0=⟨G.ok,λj=>if j=0 then N else none⟩:=⟨_,rfl⟩;have⟨G0,y⟩:=y;have z:G0.ok=G.ok:=(by rw[y])
  have Q:∀ j b,G0.row j=some b->j=0/\N=some b:=λj b o=>by
   rw[y]at o;dsimp only at o;split at o
   ·exact⟨‹_›,o⟩
   ·cases o
  have hW1:aX (λb=>w.heap.size<=b\/N=some b) G0 ⟨λ_=>none,λs=>if s=0 then some 1 else none,λ_=>0⟩ [some (arB e t [l])] w:=by
   refine⟨λs v b p a=>(by cases a),?_,λs1 s2 v k2 b _ _ _ _ m=>(by cases m),by rw[z]; exact q.lt,?_,λb a=>.inl a,?_⟩;intro s v gg p hg;obtain⟨rfl,rfl⟩:=O s v p;cases hg;exact⟨rfl,rfl⟩
   ·intro s p;have:s≠0:=by rintro rfl; simp at p
    exact⟨rfl,by simp[this]⟩
   ·refine⟨λi j b h1 L=>(Q i b h1).1.trans (Q j b L).1.symm,λj b o=>?_,λj b o=>?_,λs v t1 F p h1 L=>?_,λs1 s2 v k2 t1 F t2 l2 h1 _ _ L _ _=>((O s1 v h1).1.trans (O s2 k2 L).1.symm)⟩;have⟨_,L⟩:=Q j b o;exact⟨q.vB J (k b L).1,.inr L,by rw[z]; exact(d b (k b L).1).2,λ_ _ _ _ h=>by cases h⟩;have⟨_,L⟩:=Q j b o;have⟨c,h3,_⟩:=q.blk r _ b J (k b L).1;exact .inl ⟨c,_,_,h3⟩
    ·obtain⟨rfl,rfl⟩:=O s v p;cases L;refine⟨rfl,λj o=>?_,λj row o=>?_⟩
     ·rw[y];have:j≠0:=by rintro rfl; simp at o
      simp[this]
     ·cases j with
      | zero =>
       simp only[List.getElem?_cons_zero,oJ]at o;subst o
       by_cases B:l=[]
       ·exact .inl ⟨B,he⟩
       ·right;rw[VR]at V;have⟨n,M,z2⟩:=V;rw[R]at M;obtain rfl:=oB M;rcases z2 with ⟨z2,_⟩|⟨b,c,z2,_,_,_,z5⟩
        ·exact absurd (List.eq_nil_of_length_eq_zero z2) B
        ·have⟨cc,a1,a2,_⟩:=q.blk r _ b J z2;rw[z5]at a2;refine⟨b,by rw[y,A]; simp[B,z2],.inl ⟨he,cc,a1,?_⟩⟩;exact D8 (G:=G) (G':=G0) (λb h=>by rw[z]; exact h) _ _ _ _ (IW t hpl l) (xZ (lB _ _) a2)
      | succ j=>simp at o
  have hsh:l≠[]->μ.sh r=0:=λB=>by
   rw[VR]at V;have⟨n,M,z2⟩:=V;rw[R]at M;obtain rfl:=oB M;rcases z2 with ⟨z2,_⟩|⟨_,_,_,_,_,_,z5⟩
   ·exact absurd (List.eq_nil_of_length_eq_zero z2) B
   ·exact z5
  have hv1:VRs w G0 ⟨λ_=>none,λs=>if s=0 then some 1 else none,λ_=>0⟩ (Tk.none.pv 0++lF (.hnd t.size::args) ((0,0,l.length),x)) (u::D):=(by change VRs w G0 _ (.row 0 0 l.length t.size::lF args x) (u::D);rw[VRs];refine⟨u,D,rfl,?_,VRs.bF (CC (G:=G) (G':=G0) (λb h=>by rw[z]; exact h) _ _ _ hnr (cZ _ _ (aE5 args x hd) q2))⟩;rw[VR]at V;rw[VR];have⟨n,M,z2⟩:=V;rw[R]at M;obtain rfl:=oB M;rcases z2 with ⟨z2,ao,rfl⟩|⟨b,c,z2,rfl,z3,z4⟩;exact⟨ao,0,by rw[show l.length=0 from z2],by rw[show l.length=0 from z2]; exact oM _,.inl z2⟩;have⟨z4,z5⟩:=z4;rw[z5];rw[z5]at z4;refine⟨_,c,rfl,z3,?_⟩;by_cases B:l=[];exact .inl (by rw[B]; rfl);exact .inr ⟨b,by rw[y,A]; simp[B,z2],by simp,by simpa using z4⟩);have⟨c1,c2⟩:=X () ((0,0,l.length),x) [l] y1 [F] hfl (ra:=0) (r:=0) hW1 rfl ⟨λ_ _ h=>by cases h⟩ hv1;refine⟨c1,c2.mono ?_⟩;rintro e' w' ⟨v',G1,μ1,rfl,I,U,hvv⟩;have hb1:∀ b,N=some b->G1.row 0=some b:=λb a=>I.row 0 b (by rw[y]; simp[a])
  have hH1:(((aJ5 (Tk.none.ow () 0) [some (arB e t [l])]).set 0 none)++(some (arB e t [F])::(An.data rets).hp y1):Heap)[1]?=some (some (arB e t [F])):=rfl;have hn0:∀ b,b<w.heap.size->¬ n0 b->w'.heap[b]?=w.heap[b]?:=λb a hn=>I.old b a (by
   rintro(h|h)
   ·exact Nat.not_le.2 a h
   ·exact hn (d b (k b h).1).1)
  have Z:∀ b,G b->G0 b:=λb a=>by rw[z]; exact a
  have e2:Ext n0 w G μ w' (G1.with G) μ:={
   good:=λb a=>⟨(I.good b (Z b a)).1,(I.good b (Z b a)).2⟩
   map:=λ_ _ h=>h
   len:=λ_ _ h=>h
   room:=I.room
   row:=λ_ _ h=>h
   os:=I.os
   tape:=I.tape
   output:=I.output
   size:=I.size
   old:=hn0
   new:=λb a=>by
    rcases I.new b a with h|h|h
    ·rw[z]at h; exact .inl h
    ·exact .inr (q.base b h)
    ·exact .inr (d b (k b h).1).1 }
  have hold:∀ b,b<w.heap.size->N≠some b->w'.heap[b]?=w.heap[b]?/\(G1 b->G b):=λb a E =>
   ⟨I.old b a (by rintro(h|h); exact Nat.not_le.2 a h; exact E h),λhg=>by
    rcases I.new b hg with h|h|h
    ·rw[z]at h; exact h
    ·exact absurd a (Nat.not_lt.2 h)
    ·exact absurd h E⟩
  have hk2:aX n0 (G1.with G) μ (H.set r none) w':=by
   refine(wB q r).keep e2 ⟨λ_=>rfl,λj b o=>hold b (q.rows.sep j b o).1 λh=>S j b o (k b h).1⟩ ?_ (λb a=>U.lt b a);intro s v b p a;have⟨p,T⟩:=zI p;refine hold b (q.vB p a) λh=>?_;have A:=(k b h).1;cases X:v.frozen with
   | false=>exact T (q.inj s r v _ b p J X rfl a A)
   | true =>
    have⟨_,_,_,_,h5,_⟩:=q.blk s v b p a;exact(d b A).2 (h5 X)
  have Y:aX n0 (G1.with G) μ (H.set r (some (owB e t F))) w':=by
   have:=bJK hk2 (r:=r) (List.getElem?_set_self hlt) (owB e t F) rfl rfl ?_ ?_;rwa[List.set_set]at this
   ·intro b a;have C:(∃ c,w'.heap[b]?=some (.cells c e (0,0))/\aT w' (G1.with G) μ b (μ.sh r) (aI t F))/\¬ G1 b:=by
     by_cases B:l=[]
     ·have hl1:F=[]:=List.eq_nil_of_length_eq_zero (by rw[hlen,B]; rfl);have E:N≠some b:=λh=>(k b h).2 B
      have⟨o1,o2⟩:=hold b (q.vB J a) E;have⟨c,h3,_⟩:=q.blk r _ b J a;refine⟨⟨c,o1.trans h3,?_⟩,λh=>(d b a).2 (o2 h)⟩;rw[hl1]; simp[aI,aT]
     ·have hbb:N=some b:=by rw[A,if_neg B]; exact a
      have K:=hb1 b hbb;have⟨_,_,a3⟩:=U.rows.arn 1 _ t [F] hH1 rfl rfl;rcases a3 0 F rfl with h|⟨b',M,z2⟩
      ·exact absurd (List.eq_nil_of_length_eq_zero (by rw[<- hlen,h.1]; rfl)) B
      ·rw[K]at M;obtain rfl:=oB M;have⟨c0,y1,_⟩:=q.blk r _ b J a;have⟨c,z2,z3⟩:=z2.cells (.inr (e2.room b 0 ⟨c0,_,_,y1,Nat.zero_le _⟩));refine⟨⟨c,z2,?_⟩,(U.rows.sep 0 b K).2.2.1⟩;rw[hsh B];exact D8 (G:=G1) (G':=G1.with G) (λb h=>h) _ _ _ _ (IW t hpl F) (xZ (lB _ _) z3)
    refine⟨C.1,(d b a).1,C.2,λs v p X hsb=>?_,λj o=>S j b o a⟩;have⟨p,T⟩:=zI p;exact T (q.inj s r v _ b p J X rfl hsb a)
   intro g hg;cases hg;exact⟨rfl,by rw[R,hlen]⟩
  refine⟨v',G1.with G,μ,rfl,e2,Y,?_⟩;exact bUG hlr y1 hvv
 cases W
def aTT {g:FuncId}{e:TypeId}{t:Ty}{args:List Kd}{f:Unit->aM (.hnd t.size::args)->List (List t.den)->Option (aM []×List (List t.den))}(j:Z6 P g e t .none (.hnd t.size::args) (.data []) f)(hd:aU8 args=true)(d:t.plain=true)(he:e≠aHV:=by decide):bDJ P g e t args (aBW f):=by
 intro l x n a n0 G μ H w us r i k m c;refine a62 j hd d rfl he l x () n ?_ i k m c;unfold aBW at a;unfold aU7;split at a;rename_i h b;have⟨hlen,a⟩:=aJ a;obtain rfl:=oB a;rw[b];show (bif Nat.beq h.length l.length then some ((),h) else none)=_;rw[hlen];rfl;cases a
def bPN(e:TypeId) (t:Ty) (args rets:List Kd) (f:List t.den->aM args->Option (aM rets×List t.den)) (qs:List PV) (H:Heap):Option aV3:=match bH4 e t H qs with
 | some (l,r,ps)=>match a8P args ps with
  | some x=>bif eM.noRefs ps&&gP.noRows (lF args x) then some ⟨aM rets×List t.den,f l x,λz=>(aLV rets z.1,H.set r (some (owB e t z.2)))⟩ else none
  | none=>none
 | none=>none
def bU3 {g e t args rets f}(j:bNU P g e t args rets f):sT P (g,bPN e t args rets f):=by
 intro qs H i h y p n0 G μ w vs b n;change bPN e t args rets f qs H=some i at h;unfold bPN at h;split at h;rename_i l r ps k;split at h;rename_i x c;have⟨a,h⟩:=VI h;simp only[oJ]at h;subst h;simp only[oA]at a;obtain⟨d,rfl⟩:=aQ6 b k;obtain⟨u,us,rfl,o,m⟩:=n;exact j l x y.1 y.2 p b d (⟨u,us,rfl,o,(T4 args c (cZ _ _ a.1 m)).bF⟩) a.2;grind;grind
def bND(e:TypeId) (t:Ty) (args:List Kd) (f:List t.den->aM args->Option (List t.den)) (qs:List PV) (H:Heap):Option aV3:=match bH4 e t H qs with
 | some (l,r,ps)=>match a8P args ps with
  | some x=>bif eM.noRefs ps&&gP.noRows (lF args x) then some ⟨List t.den,f l x,λl'=>(.tuple [],H.set r (some (owB e t l')))⟩ else none
  | none=>none
 | none=>none
def a5X {g e t args f}(j:bDJ P g e t args f):sT P (g,bND e t args f):=by
 intro qs H i h y p n0 G μ w vs b n;change bND e t args f qs H=some i at h;unfold bND at h;split at h;rename_i l r ps k;split at h;rename_i x c;have⟨a,h⟩:=VI h;simp only[oJ]at h;subst h;simp only[oA]at a;obtain⟨d,rfl⟩:=aQ6 b k;obtain⟨u,us,rfl,o,m⟩:=n;exact j l x y p b d (⟨u,us,rfl,o,(T4 args c (cZ _ _ a.1 m)).bF⟩) a.2;grind;grind
end
def bN9(P:Program)(E:Env)(fn:Func)(keep:Nat)(lt rt:Nat->Option cI)(c:Code)(ae:TypeId)(t:Ty)(tk:Tk) args (an:An)(l:tk.den)(x:aM args)(A:List (List t.den)):Option (an.den×List (List t.den)) :=bif Nat.ble (tk.pv 0++lF args x).length fn.ntmps then TP P E fn.ntmps keep lt rt false [] c (start keep 0 (tk.pv 0++lF args x)) (aB9 (tk.ow l 0)++[some (arB ae t A)]) (bYP P fn.results.toList ae t an) else none
section
variable {P:Program} {n0:Nat->Prop} {w w':World} {G G1 G2:Gd} {μ μ2:Mp} {H H':Heap} {ae:TypeId} {t:Ty} {A B:List (List t.den)}
def bY6 {E:Env} (hP:WV P) (hE:dN P E) {g:Nat} {fn:Func} (hg:P.funcs[g]?=some fn) {c:Code} (hc:fn.body=some c) {keep:Nat} {lt rt:Nat->Option cI} {ae:TypeId} {t:Ty} {m:Tk} {args:List Kd} {z:An} {f:m.den->aM args->List (List t.den)->Option (z.den×List (List t.den))}
  (hd:aU8 args=true) (hl:∀ a∈dV c,aKL P fn.ntmps lt rt false [] a) (d:∀ l x A,bN9 P E fn keep lt rt c ae t m args z l x A=f l x A):Z6 P g ae t m args z f:=by
 intro l x A y B Q n0 G μ H w us ra r M p V W;rw[<- d]at Q;unfold bN9 at Q;have⟨hlen,Q⟩:=aJ Q;have⟨⟨ex,F',H'⟩,j,h2⟩:=vG hE.callee hP.mixed c _ _ _ _ hl Q;obtain⟨vs,J,hex,K,X,L,rfl⟩:∃ vs J,(ex=.normal\/ex=.ret)/\yG P F' H' fn.results.toList=some vs/\bR7 ae t H'=some J/\bNQ z (pI vs) H'=some y/\J.2=B:=by
  unfold bYP at j;split at j
  ·cases j
  next hne=>
   split at j
   ·rename_i vs K;split at j
    ·rename_i J X;split at j
     ·rename_i y' Y;simp only[oJ,oP]at j;obtain⟨rfl,j⟩:=j;refine⟨vs,J,?_,K,X,Y,j⟩;cases ex with
      | normal=>exact .inl rfl
      | ret=>exact .inr rfl
      | exit i=>exact absurd rfl (hne i)
     ·cases j
    ·cases j
   ·cases j
 have D:VRs w G (mpA μ (m.ow l r) A.length) (m.pv 0++lF args x) us:=by
  have hn:=aE5 args x hd;cases m with
  | none=>exact VRs.bF (cZ _ _ hn W)
  | own e u =>
   change VRs w G μ (.own r u.size::lF args x) us at W;change VRs w G _ (.own 0 u.size::lF args x) us;rw[VRs]at W ⊢;obtain⟨v,us',rfl,q1,q2⟩:=W;refine⟨v,us',rfl,?_,VRs.bF (cZ _ _ hn q2)⟩;rw[VR]at q1 ⊢;exact q1
 have O:aB9 (m.ow l 0)=aB9 (m.ow l r):=by cases m <;> rfl
 have T:=aXO M V p;rw[<- O]at T;have e0:Ext (wrA w G μ (m.ow l r)) w G aH w G (mpA μ (m.ow l r) A.length) :=
  ⟨⟨λb d=>⟨d,rfl⟩,λ_ _ h=>(by cases h),λ_ _ h=>(by cases h),λ_ _ h=>h,λ_ _ h=>h,λ_ _ h=>(by cases h)⟩,rfl,rfl,rfl,oM _,λ_ _ _=>rfl,λ_ h=>.inl h⟩
 refine⟨enters hg (hP.names g fn hg) (by rw[hc]; rfl) _ _,(callsIn_wide (n:=0)).1 (callsIn_of_wp_marks hg hc trivial ?_)⟩;have hI:I (wrA w G μ (m.ow l r)) w G aH fn.ntmps (start keep 0 (m.pv 0++lF args x)) (aB9 (m.ow l 0)++[some (arB ae t A)]) ⟨us.toArray++Array.replicate (fn.ntmps-us.toArray.size) undef,[]⟩ w :=
  ⟨G,_,e0,T,E6 (by simpa using D) (oL hlen)⟩
 refine wpIn_mono (h2 none 0 _ w G aH _ w (λ_=>rfl) (λr _=>⟨rfl,rfl⟩) hI.b09) ?_;rintro e1 ⟨tm,ds⟩ w' ⟨rfl,R,_⟩;have C:∀ w',IM (wrA w G μ (m.ow l r)) w G aH fn.ntmps F' H' { tmps:=tm,defers:=[] } w'->LeavesIn Fence.wide 0 P fn tm (λen w'=>∃ v' F μ'',en=.returned v'/\Ext n0 w G μ w' F μ''/\aX n0 F μ'' (((aJ5 (m.ow l r) H).set ra none)++(some (arB ae t J.2)::z.hp y)) w'/\VR w' F μ'' (z.pv y (H.length+1)) v') [] .returning w':=by
  rintro w' ⟨G1,μ1,ee,o,hF',_⟩;have⟨ws,h3,h4⟩:=uB (P:=P) o hF' K;have S:(results fn tm).run P w'=.ok (if hh:ws.toArray.size=1 then ws.toArray[0] else .tuple ws.toArray) w':=by
   rw[J0,Array.mapM_eq_mapM_toList];simp only[Sem.run_bind,Sem.run_map,h3,Result.andThen_ok,Sem.run_pure]
  have N:=aWX o X;obtain⟨G2,μ3,b1,b2,b3⟩:∃ G2 μ3,Ext n0 w G μ w' G2 μ3/\aX n0 G2 μ3 (((aJ5 (m.ow l r) H).set ra none)++(some (arB ae t J.2)::z.hp y)) w'/\VR w' G2 μ3 (z.pv y (H.length+1)) (if hh:ws.toArray.size=1 then ws.toArray[0] else .tuple ws.toArray):=by
   have U:=xE h4;cases z with
   | data rets =>
    simp only[bNQ]at L;split at L
    ·rename_i q hq';have d:=a6B (G2:=⟨λb=>G1 b\/∃ s k,H'[s]?=some (some k)/\k.frozen=false/\μ1.loc s=some b,G1.row⟩) M V p ee o N (os:=none) ⟨λ_ _ _ h=>by cases h⟩ (λ_=>rfl) (λb d=>.inl d) (λb d=>by
      rcases d with h|⟨s,k,z1,z2,z3⟩
      ·exact .inl h
      ·exact .inr ⟨s,k,z1,z2,z3,λ_ _ _ h=>by cases h⟩)
     refine⟨_,_,d.1,d.2,?_⟩;have:=ZP (G':=⟨λb=>G1 b\/∃ s k,H'[s]?=some (some k)/\k.frozen=false/\μ1.loc s=some b,G1.row⟩) o (λ_ _ h=>h) (λb d=>.inl d) (λs Z b hs _ d=>by
      have⟨_,_,_,_,g5,_⟩:=o.blk s Z b hs d;cases hf:Z.frozen with
      | true=>exact .inl (g5 hf)
      | false=>exact .inr ⟨s,Z,hs,hf,d⟩) depth _ q _ hq' U
     exact(aOH L this).bF
    ·cases L
   | own e u =>
    simp only[bNQ]at L;have⟨r1,l0,hos,hvv⟩:=bAR o L U;have d:=a6B (G2:=G1) M V p ee o N hos (λ_=>rfl) (λb d=>d) (λb d=>.inl d);refine⟨_,_,d.1,d.2,hvv _ _ _ ?_ ?_ ?_⟩
    ·have j:¬ H.length+1<H.length:=zN
     simp[BO,j,bXU]
    ·have j:¬ H.length+1<H.length:=zN
     simp[BO,j,bXC]
    ·have j:¬ H.length+1<H.length:=zN
     simp[BO,j,shS]
   | str t1 e u t2=>
    simp only[bNQ]at L;have⟨r1,hos,hvv⟩:=zqe2 o L U;have d:=a6B (G2:=⟨λb=>G1 b\/∃ s k,H'[s]?=some (some k)/\k.frozen=false/\μ1.loc s=some b/\s≠r1,G1.row⟩) M V p ee o N hos (λ_=>rfl) (λb d=>.inl d) (λb d=>by
      rcases d with h|⟨s,k,z1,z2,z3,z4⟩
      ·exact .inl h
      ·exact .inr ⟨s,k,z1,z2,z3,λ_ _ _ h=>by cases h; exact z4⟩)
    refine⟨_,_,d.1,d.2,hvv ⟨λb=>G1 b\/∃ s k,H'[s]?=some (some k)/\k.frozen=false/\μ1.loc s=some b/\s≠r1,G1.row⟩ (λ_ _ h=>h) (λb d=>.inl d) (λs k b z1 z2 z3 z4=>.inr ⟨s,k,z1,z2,z4,z3⟩) _ _ ?_ ?_ ?_⟩
    ·have j:¬ H.length+1<H.length:=zN
     simp[BO,j,bXU]
    ·have j:¬ H.length+1<H.length:=zN
     simp[BO,j,bXC]
    ·have j:¬ H.length+1<H.length:=zN
     simp[BO,j,shS]
  exact⟨_,S,_,G2,μ3,rfl,b1,b2,b3⟩
 rcases hex with rfl|rfl;exact MZ (λb d=>(aXO M V p).base b d) C ds w' R;exact MZ (λb d=>(aXO M V p).base b d) C ds w' R
end
open Go.Proofs Tryz
set_option maxHeartbeats 4000000
def dE:zo [.str] [.bool,.str]:=λ(a,())=>bif ltI 0 (a.size:Int) then za (aE 0 a.size)<|bif eqI (bA6 a 0) 45 then za (Nat.ble 1 a.size)<|za (Nat.ble a.size a.size)<|some (true,(a.extract 1 a.size),())else some (false,a,())else some (false,a,())
abbrev bF8:Ent:=⟨195,_,_,dE⟩
def HV:Ent.OK tP bF8:=oI (aS oW) func195
def aD:zo [.bool,.str] [.str]:=λ(b,a,())=>bif b then bif !(eqS a (ByteArray.mk #[48])) then za (Nat.ble ((ByteArray.mk #[45]).size+a.size) 9223372036854775807)<|some (((ByteArray.mk #[45])++a),())else some (a,())else some (a,())
abbrev bLG:Ent:=⟨196,_,_,aD⟩
def X3:Ent.OK tP bLG:=oI (aS oW) func196
def AU:zo [.str,zd] [zd,.bool]:=λ(a,b,())=>bif ltI b (a.size:Int) then some (0,false,())else aB (UA (a,())) λc=>some (c.1,true,())
abbrev bB3:Ent:=⟨194,_,_,AU⟩
def ZC:Ent.OK tP bB3:=oI (aS (oV a2F oW)) func194
def pA:zo [zd] [.str]:=λ(a,())=>aB (EE (a,())) λb=>some (b.1,())
abbrev a1U:Ent:=⟨149,_,_,pA⟩
def RZ:Ent.OK tP a1U:=oI (aS (oV aNL oW)) func149
def RQ:zo [.str] [zd]:=λ(a,())=>bif eqS a (ByteArray.mk #[48]) then some (0,())else za (aE 0 a.size)<|bif eqI (bA6 a 0) 45 then some ((-1),())else some (1,())
abbrev a4T:Ent:=⟨182,_,_,RQ⟩
def aSA:Ent.OK tP a4T:=oI (aS oW) func182
def EF:zo [.int .u64] [.str]:=λ(a,())=>aB (C4 (a,10,())) λb=>some (b.1,())
abbrev aBE:Ent:=⟨253,_,_,EF⟩
def WX:Ent.OK tP aBE:=oI (aS (oV aPB oW)) func253
def RN:zo [.str] [.int .u64,.bool]:=λ(a,())=>aB (FF (a,10,64,())) λb=>some (b.1,true,())
abbrev a9K:Ent:=⟨287,_,_,RN⟩
def aY3:Ent.OK tP a9K:=oI (aS (oV aQI oW)) func287
def A6:zo [.str,.str] [.int .u64,.int .u64,.bool]:=λ(a,b,())=>bif ltI 18 (a.size:Int) then some (0,0,false,())else bif ltI 18 (b.size:Int) then some (0,0,false,())else aB (RN (a,())) λd=>aB (RN (b,())) λc=>some (d.1,c.1,true,())
abbrev T0:Ent:=⟨252,_,_,A6⟩
def R6:Ent.OK tP T0:=oI (aS (oV aY3 oW)) func252
def iF:zo [.str,.str] [zd]:=λ(a,b,())=>bif !(eqI (a.size:Int) (b.size:Int)) then some ((if (if (-1)<(aA .i64 ((a.size:Int)-(b.size:Int))) then (aA .i64 ((a.size:Int)-(b.size:Int))) else (-1))<1 then (if (-1)<(aA .i64 ((a.size:Int)-(b.size:Int))) then (aA .i64 ((a.size:Int)-(b.size:Int))) else (-1)) else 1),())else bif ltS a b then some ((-1),())else bif !(ltS a b||eqS a b) then some (1,())else some (0,())
abbrev aMY:Ent:=⟨198,_,_,iF⟩
def TA:Ent.OK tP aMY:=oI (aS oW) func198
def WM:zo [.str,.str] [zd]:=λ(b,f,())=>aB (RQ (b,())) λc=>aB (RQ (f,())) λd=>bif !(eqI c.1 d.1) then bif ltI c.1 d.1 then some ((-1),())else some (1,())else aB (dE (b,())) λa=>aB (dE (f,())) λe=>bif a.1 then aB (iF (e.2.1,a.2.1,())) λg=>some (g.1,())else aB (iF (a.2.1,e.2.1,())) λh=>some (h.1,())
abbrev aRK:Ent:=⟨180,_,_,WM⟩
def aZ8:Ent.OK tP aRK:=oI (aS (oV TA (oV aSA (oV HV oW)))) func180
def aGM:zo [.str] [.str]:=λ(b,())=>aB (dE (b,())) λa=>bif a.1 then aB (aD (false,a.2.1,())) λc=>some (c.1,())else aB (aD (true,a.2.1,())) λd=>some (d.1,())
abbrev a8N:Ent:=⟨244,_,_,aGM⟩
def aVH:Ent.OK tP a8N:=oI (aS (oV X3 (oV HV oW))) func244
def aII:zo [.str] [.str]:=λ(a,())=>aB (dE (a,())) λb=>some (b.2.1,())
abbrev a8G:Ent:=⟨181,_,_,aII⟩
def bA8:Ent.OK tP a8G:=oI (aS (oV HV oW)) func181
abbrev gA:zb:=[(0,.hnd 1),(2,zd),(3,zd),(100000,.ar 5 (.int .u8))]
abbrev kD:zc:=[(.exit 0,[(100000,.ar 5 (.int .u8))])]
def iS:zp gA kD:=λ(a,b,c,u00,())=>bif ltI b c then za (aE c a.2.2)<|za (Nat.blt ((a.2.1+c.toNat)*1) (dG u00 a.1))<|za (aE b a.2.2)<|za (Nat.blt ((a.2.1+b.toNat)*1) (dG u00 a.1))<|za (aE b a.2.2)<|za (Nat.blt ((a.2.1+b.toNat)*1) (dG u00 a.1))<|za (aE c a.2.2)<|za (Nat.blt ((a.2.1+c.toNat)*1) (dG (DQ u00 a.1 ((a.2.1+b.toNat)*1) (dZ u00 a.1 ((a.2.1+c.toNat)*1) 0)) a.1))<|some (.inl ((a.1,a.2.1,a.2.2),(aA .i64 (b+1)),(aA .i64 (c-1)),(DQ (DQ u00 a.1 ((a.2.1+b.toNat)*1) (dZ u00 a.1 ((a.2.1+c.toNat)*1) 0)) a.1 ((a.2.1+c.toNat)*1) (dZ u00 a.1 ((a.2.1+b.toNat)*1) 0)),()))else some (.inr ((u00,())))
def pU:zq gA kD:=aV iS (2^64)
def fN(u0:Unit)(x:aM [.hnd 1])(A:List (List Int)):Option ((aM [])×List (List Int)):=match x with|(a,())=>aB (pU ((a.1,a.2.1,a.2.2),0,(aA .i64 (((a.2.2:Nat):Int)-1)),A,())) λb=>some ((()),b.1)
def wM:Code:=bY f289
abbrev D5:Env:=B1 []
def KQ:dN tP D5:=aS trivial
def BS:Code:=dC wM 0
def CW(id:Nat):Option cI:=bif Nat.beq id 1 then some ⟨gA,kD,pU⟩ else none
def WE:∀ x,dL tP D5 28 (aP f289) CW BS gA kD x=iS x:=λ_=>Y
def XA:cJ tP 28 BS ⟨gA,kD,pU⟩:=cC KQ.callee aQ.mixed _ (aO (l:=[]) Y trivial) WE
def YJ:bA wM=[BS]:=Y
def ZQ:∀ l x A,SQ tP D5 f289 (aP f289) CW wM 5 (.int .u8) .none [.hnd 1] (.data []) l x A=fN l x A:=by
 rintro u0 ⟨v0,⟨⟩⟩ A;kernel_rfl
def aDS:Z6 tP 289 5 (.int .u8) .none [.hnd 1] (.data []) fN:=I7 aQ KQ func289 (c:=wM) Y (keep:=aP f289) (lt:=CW) (by rfl) (aO YJ ⟨cB (i:=1) Y rfl XA,trivial⟩) ZQ
def aA1:bDJ tP 289 5 (.int .u8) [] (aBW fN):=aTT aDS (by rfl) (by rfl)
abbrev OD:Shr:=(289,aGA 1 (bND 5 (.int .u8) [] (aBW fN)))
def YK:sT tP OD:=yZ (a5X aA1)
abbrev JR:zb:=[(0,.list (.int .u64))]
abbrev TX:zc:=[(.exit 0,[(0,.list (.int .u64))])]
def FH:zp JR TX:=λ(a,())=>bif ltI 0 (a.length:Int) then za (aE (aA .i64 ((a.length:Int)-1)) a.length)<|bif eqI (a.getD ((aA .i64 ((a.length:Int)-1)).toNat) 0) 0 then za (!(ltI (aA .i64 ((a.length:Int)-1)) 0))<|za (Nat.ble 0 ((aA .i64 ((a.length:Int)-1)).toNat))<|za (Nat.ble ((aA .i64 ((a.length:Int)-1)).toNat) a.length)<|some (.inl (((a.drop 0).take ((aA .i64 ((a.length:Int)-1)).toNat-0)),()))else some (.inr ((a,())))else some (.inr ((a,())))
def RX:zq JR TX:=aV FH (2^64)
def GH:zo [.list (.int .u64)] [.list (.int .u64)]:=λ(a,())=>aB (RX (a,())) λb=>some (b.1,())
abbrev YV:Ent:=⟨256,_,_,GH⟩
def aLX:Ent.OK tP YV:=oU (aS oW) func256 1 (lp:=RX) rfl
abbrev jE:zb:=[(0,.own 287 (.int .u64)),(100000,.ar 287 (.int .u64))]
abbrev p7:zc:=[(.exit 0,[(0,.own 287 (.int .u64)),(100000,.ar 287 (.int .u64))])]
def lO:zp jE p7:=λ(a,u00,())=>bif ltI 0 (a.length:Int) then za (aE (aA .i64 ((a.length:Int)-1)) a.length)<|za (Nat.blt ((aA .i64 ((a.length:Int)-1)).toNat) a.length)<|bif eqI (a.getD ((aA .i64 ((a.length:Int)-1)).toNat) 0) 0 then za (!(ltI (aA .i64 ((a.length:Int)-1)) 0))<|za (Nat.ble 0 ((aA .i64 ((a.length:Int)-1)).toNat))<|za (Nat.ble ((aA .i64 ((a.length:Int)-1)).toNat) a.length)<|za (Nat.blt 0 a.length)<|some (.inl ((a.take ((aA .i64 ((a.length:Int)-1)).toNat-0)),u00,()))else some (.inr ((a,u00,())))else some (.inr ((a,u00,())))
def BV:zq jE p7:=aV lO (2^64)
def bU(b:List Int)(x:aM [])(A:List (List Int)):Option ((List Int)×List (List Int)):=match x with|(())=>aB (BV (b,A,())) λa=>some (a.1,a.2.1)
def BA:Code:=bY f256
abbrev JC:Env:=B1 []
def PK:dN tP JC:=aS trivial
def FQ:Code:=dC BA 0
def G9(id:Nat):Option cI:=bif Nat.beq id 1 then some ⟨jE,p7,BV⟩ else none
def aAF:∀ x,dL tP JC 21 (aP f256) G9 FQ jE p7 x=lO x:=λ_=>Y
def aA0:cJ tP 21 FQ ⟨jE,p7,BV⟩:=cC PK.callee aQ.mixed _ (aO (l:=[]) Y trivial) aAF
def aCX:bA BA=[FQ]:=Y
def aFD:∀ l x A,SQ tP JC f256 (aP f256) G9 BA 287 (.int .u64) (.own 287 (.int .u64)) [] (.own 287 (.int .u64)) l x A=bU l x A:=by
 rintro u0 ⟨⟨⟩⟩ A;kernel_rfl
def aI2:Z6 tP 256 287 (.int .u64) (.own 287 (.int .u64)) [] (.own 287 (.int .u64)) bU:=I7 aQ PK func256 (c:=BA) Y (keep:=aP f256) (lt:=G9) (by rfl) (aO aCX ⟨cB (i:=1) Y rfl aA0,trivial⟩) aFD
abbrev iU:Shr:=(256,aGA 1 (arH 287 (.int .u64) (.own 287 (.int .u64)) [] (.own 287 (.int .u64)) bU))
def jL:sT tP iU:=yZ (g:=256) (f:=arH 287 (.int .u64) (.own 287 (.int .u64)) [] (.own 287 (.int .u64)) bU) (QD aI2)
abbrev AO:zb:=[(0,.str),(3,.own 287 (.int .u64)),(4,zd),(5,.int .u64),(25,.list (.int .u8)),(26,zd),(27,zd),(100000,.ar 287 (.int .u64))]
abbrev FJ:zc:=[(.exit 2,[(0,.str),(3,.own 287 (.int .u64)),(4,zd),(5,.int .u64),(100000,.ar 287 (.int .u64))])]
def BG:zp AO FJ:=λ(d,e,g,f,b,c,a,u00,())=>bif ltI a c then za (aE a b.length)<|some (.inl (d,e,g,(aA .u64 ((aA .u64 (10*f))+(IntKind.wrap .u64 (aA .u8 ((b.getD a.toNat 0)-48))))),b,c,(aA .i64 (a+1)),u00,()))else some (.inr ((d,e,g,f,u00,())))
def H6:zq AO FJ:=aV BG (2^64)
abbrev AL:zb:=[(0,.str),(3,.own 287 (.int .u64)),(4,zd),(100000,.ar 287 (.int .u64))]
abbrev E0:zc:=[(.exit 0,[(3,.own 287 (.int .u64)),(100000,.ar 287 (.int .u64))])]
def BZ:zp AL E0:=λ(c,d,a,u00,())=>bif ltI 0 a then bif !(ltI (if 0<(aA .i64 (a-9)) then (aA .i64 (a-9)) else 0) 0) then bif !(ltI a 0) then bif Nat.ble ((if 0<(aA .i64 (a-9)) then (aA .i64 (a-9)) else 0).toNat) a.toNat then bif Nat.ble a.toNat c.size then aB (H6 (c,d,a,0,(aLK (c.extract ((if 0<(aA .i64 (a-9)) then (aA .i64 (a-9)) else 0).toNat) a.toNat)),((aLK (c.extract ((if 0<(aA .i64 (a-9)) then (aA .i64 (a-9)) else 0).toNat) a.toNat)).length:Int),0,u00,())) λb=>bif Nat.ble [b.2.2.2.1].length 1048576 then bif Nat.ble b.2.1.length 1048576 then some (.inl (b.1,(b.2.1++[b.2.2.2.1]),(aA .i64 (b.2.2.1-9)),b.2.2.2.2.1,())) else none else none else none else none else none else none else some (.inr ((d,u00,())))
def IK:zq AL E0:=aV BZ (2^64)
def eS(u0:Unit)(x:aM [.str])(A:List (List Int)):Option ((List Int)×List (List Int)):=match x with|(a,())=>bif !(ltI (aA .i64 ((aA .i64 ((a.size:Int).tdiv 9))+1)) 0) then bif !(ltI 1048576 (aA .i64 ((aA .i64 ((a.size:Int).tdiv 9))+1))) then aB (IK (a,(List.replicate 0 (0:Ty.den (.int .u64))),(a.size:Int),A,())) λb=>aB (bU b.1 (()) b.2.1) λc=>some c else none else none
def UC:Code:=bY f254
abbrev UF:Env:=RP [] [iU]
def US:dN tP UF:=jH trivial ⟨jL,trivial⟩
def IG:Code:=dC UC 0
def XR:Code:=dC IG 0
def SB(id:Nat):Option cI:=bif Nat.beq id 7 then some ⟨AO,FJ,H6⟩ else bif Nat.beq id 3 then some ⟨AL,E0,IK⟩ else none
def aQG:∀ x,dL tP UF 44 (aP f254) SB XR AO FJ x=BG x:=λ_=>Y
def aSX:cJ tP 44 XR ⟨AO,FJ,H6⟩:=cC US.callee aQ.mixed _ (aO (l:=[]) Y trivial) aQG
def aQ1:∀ x,dL tP UF 44 (aP f254) SB IG AL E0 x=BZ x:=λ_=>Y
def aWO:bA IG=[XR]:=Y
def aRM:cJ tP 44 IG ⟨AL,E0,IK⟩:=cC US.callee aQ.mixed _ (aO aWO ⟨cB (i:=7) Y rfl aSX,trivial⟩) aQ1
def aUJ:bA UC=[IG]:=Y
def aXC:∀ l x A,SQ tP UF f254 (aP f254) SB UC 287 (.int .u64) .none [.str] (.own 287 (.int .u64)) l x A=eS l x A:=by
 rintro u0 ⟨v0,⟨⟩⟩ A;kernel_rfl
def a2D:Z6 tP 254 287 (.int .u64) .none [.str] (.own 287 (.int .u64)) eS:=I7 aQ US func254 (c:=UC) Y (keep:=aP f254) (lt:=SB) (by rfl) (aO aUJ ⟨cB (i:=3) Y rfl aRM,trivial⟩) aXC
abbrev N3:Shr:=(254,aGA 0 (arH 287 (.int .u64) .none [.str] (.own 287 (.int .u64)) eS))
def MO:sT tP N3:=yZ (g:=254) (f:=arH 287 (.int .u64) .none [.str] (.own 287 (.int .u64)) eS) (QD a2D)
abbrev E4:zb:=[(0,.list (.int .u64)),(1,.list (.int .u64)),(5,zd)]
abbrev Q9:zc:=[(.ret,[(4,zd)]),(.exit 0,[])]
def uY:zp E4 Q9:=λ(b,c,a,())=>bif !(ltI a 0) then za (aE a b.length)<|za (aE a c.length)<|bif ltI (b.getD a.toNat 0) (c.getD a.toNat 0) then some (.inr (.inl ((-1),())))else za (aE a b.length)<|za (aE a c.length)<|bif ltI (c.getD a.toNat 0) (b.getD a.toNat 0) then some (.inr (.inl (1,())))else some (.inl (b,c,(aA .i64 (a-1)),()))else some (.inr (.inr ((()))))
def N0:zq E4 Q9:=aV uY (2^64)
def B8:zo [.list (.int .u64),.list (.int .u64)] [zd]:=λ(a,b,())=>bif !(eqI (a.length:Int) (b.length:Int)) then some ((if (if (-1)<(aA .i64 ((a.length:Int)-(b.length:Int))) then (aA .i64 ((a.length:Int)-(b.length:Int))) else (-1))<1 then (if (-1)<(aA .i64 ((a.length:Int)-(b.length:Int))) then (aA .i64 ((a.length:Int)-(b.length:Int))) else (-1)) else 1),())else aB (N0 (a,b,(aA .i64 ((a.length:Int)-1)),())) λd=>mN d (λc=>some (c.1,())) λe=>some (0,())
abbrev VL:Ent:=⟨270,_,_,B8⟩
def aGS:Ent.OK tP VL:=oU (aS oW) func270 4 (lp:=N0) rfl
abbrev jG:zb:=[(1,.list (.int .u64)),(5,.own 287 (.int .u64)),(6,zd),(7,.int .u64),(8,.int .u64),(17,.list (.int .u64)),(18,zd),(19,zd),(24,.list (.int .u64)),(25,zd),(26,zd),(100000,.ar 287 (.int .u64))]
abbrev pO:zc:=[(.exit 2,[(1,.list (.int .u64)),(5,.own 287 (.int .u64)),(6,zd),(8,.int .u64),(17,.list (.int .u64)),(18,zd),(19,zd),(100000,.ar 287 (.int .u64))])]
def lG:zp jG pO:=λ(k,d,c,i,j,g,e,f,b,h,a,u00,())=>bif ltI a h then bif aE a b.length then bif aE (aA .i64 (c+a)) d.length then bif Nat.blt ((aA .i64 (c+a)).toNat) d.length then bif aE (aA .i64 (c+a)) d.length then bif Nat.blt ((aA .i64 (c+a)).toNat) d.length then some (.inl (k,(d.set ((aA .i64 (c+a)).toNat) ((aA .u64 (j+(aA .u64 ((d.getD ((aA .i64 (c+a)).toNat) 0)+(aA .u64 (i*(b.getD a.toNat 0))))))).tmod 1000000000)),c,i,(aA .u64 ((aA .u64 (j+(aA .u64 ((d.getD ((aA .i64 (c+a)).toNat) 0)+(aA .u64 (i*(b.getD a.toNat 0))))))).tdiv 1000000000)),g,e,f,b,h,(aA .i64 (a+1)),u00,())) else none else none else none else none else none else some (.inr ((k,d,c,j,g,e,f,u00,())))
def tG:zq jG pO:=aV lG (2^64)
abbrev jK:zb:=[(1,.list (.int .u64)),(5,.own 287 (.int .u64)),(17,.list (.int .u64)),(18,zd),(19,zd),(100000,.ar 287 (.int .u64))]
abbrev p5:zc:=[(.exit 0,[(5,.own 287 (.int .u64)),(100000,.ar 287 (.int .u64))])]
def lQ:zp jK p5:=λ(e,f,c,d,b,u00,())=>bif ltI b d then bif aE b c.length then aB (tG (e,f,b,(c.getD b.toNat 0),0,c,d,b,e,(e.length:Int),0,u00,())) λa=>bif aE (aA .i64 (a.2.2.1+(a.1.length:Int))) a.2.1.length then bif Nat.blt ((aA .i64 (a.2.2.1+(a.1.length:Int))).toNat) a.2.1.length then some (.inl (a.1,(a.2.1.set ((aA .i64 (a.2.2.1+(a.1.length:Int))).toNat) a.2.2.2.1),a.2.2.2.2.1,a.2.2.2.2.2.1,(aA .i64 (a.2.2.2.2.2.2.1+1)),a.2.2.2.2.2.2.2.1,())) else none else none else none else some (.inr ((f,u00,())))
def tE:zq jK p5:=aV lQ (2^64)
def fS(u0:Unit)(x:aM [.list (.int .u64),.list (.int .u64)])(A:List (List Int)):Option ((List Int)×List (List Int)):=match x with|(a,b,())=>bif !(ltI (aA .i64 ((a.length:Int)+(b.length:Int))) 0) then bif !(ltI (aA .i64 ((a.length:Int)+(b.length:Int))) (aA .i64 ((a.length:Int)+(b.length:Int)))) then bif !(ltI 1048576 (aA .i64 ((a.length:Int)+(b.length:Int)))) then aB (tE (b,(List.replicate ((aA .i64 ((a.length:Int)+(b.length:Int))).toNat) (0:Ty.den (.int .u64))),a,(a.length:Int),0,A,())) λc=>aB (bU c.1 (()) c.2.1) λd=>some d else none else none else none
def AX:Code:=bY f259
abbrev A4:Env:=RP [] [iU]
def D2:dN tP A4:=jH trivial ⟨jL,trivial⟩
def rE:Code:=dC AX 0
def EV:Code:=dC rE 0
def zB(id:Nat):Option cI:=bif Nat.beq id 7 then some ⟨jG,pO,tG⟩ else bif Nat.beq id 3 then some ⟨jK,p5,tE⟩ else none
def ZV:∀ x,dL tP A4 63 (aP f259) zB EV jG pO x=lG x:=λ_=>Y
def aAW:cJ tP 63 EV ⟨jG,pO,tG⟩:=cC D2.callee aQ.mixed _ (aO (l:=[]) Y trivial) ZV
def ZZ:∀ x,dL tP A4 63 (aP f259) zB rE jK p5 x=lQ x:=λ_=>Y
def aFJ:bA rE=[EV]:=Y
def aCJ:cJ tP 63 rE ⟨jK,p5,tE⟩:=cC D2.callee aQ.mixed _ (aO aFJ ⟨cB (i:=7) Y rfl aAW,trivial⟩) ZZ
def aDC:bA AX=[rE]:=Y
def aFA:∀ l x A,SQ tP A4 f259 (aP f259) zB AX 287 (.int .u64) .none [.list (.int .u64),.list (.int .u64)] (.own 287 (.int .u64)) l x A=fS l x A:=by
 rintro u0 ⟨v0,v1,⟨⟩⟩ A;kernel_rfl
def aI8:Z6 tP 259 287 (.int .u64) .none [.list (.int .u64),.list (.int .u64)] (.own 287 (.int .u64)) fS:=I7 aQ D2 func259 (c:=AX) Y (keep:=aP f259) (lt:=zB) (by rfl) (aO aDC ⟨cB (i:=3) Y rfl aCJ,trivial⟩) aFA
abbrev J4:Shr:=(259,aGA 0 (arH 287 (.int .u64) .none [.list (.int .u64),.list (.int .u64)] (.own 287 (.int .u64)) fS))
def PN:sT tP J4:=yZ (g:=259) (f:=arH 287 (.int .u64) .none [.list (.int .u64),.list (.int .u64)] (.own 287 (.int .u64)) fS) (QD aI8)
def hZ(u0:Unit) (x:aM [.list (.int .u64),.int .u64]) (A:List (List Int)):Option ((List Int)×List (List Int)):=match x with|(a,b,())=>aB (GH ([b],())) λd=>aB (fS () (a,d.1,()) A) λc=>some c
def G7:Code:=bY f295
abbrev SV:Env:=RP [YV] [J4]
def aDP:dN tP SV:=jH ⟨aLX,trivial⟩ ⟨PN,trivial⟩
def Q7(id:Nat):Option cI:=none
def aAY:bA G7=[]:=Y
def aCV:∀ l x A,SQ tP SV f295 (aP f295) Q7 G7 287 (.int .u64) .none [.list (.int .u64),.int .u64] (.own 287 (.int .u64)) l x A=hZ l x A:=by
 rintro u0 ⟨v0,v1,⟨⟩⟩ A;kernel_rfl
def aG6:Z6 tP 295 287 (.int .u64) .none [.list (.int .u64),.int .u64] (.own 287 (.int .u64)) hZ:=I7 aQ aDP func295 (c:=G7) Y (keep:=aP f295) (lt:=Q7) (by rfl) (aO aAY trivial) aCV
abbrev SJ:Shr:=(295,aGA 0 (arH 287 (.int .u64) .none [.list (.int .u64),.int .u64] (.own 287 (.int .u64)) hZ))
def aCM:sT tP SJ:=yZ (g:=295) (f:=arH 287 (.int .u64) .none [.list (.int .u64),.int .u64] (.own 287 (.int .u64)) hZ) (QD aG6)
abbrev j5:zb:=[(0,.list (.int .u64)),(1,.int .u64),(6,.own 287 (.int .u64)),(7,.int .u64),(8,zd),(100000,.ar 287 (.int .u64))]
abbrev qY:zc:=[(.exit 0,[(6,.own 287 (.int .u64)),(7,.int .u64),(100000,.ar 287 (.int .u64))])]
def mW:zp j5 qY:=λ(c,b,d,e,a,u00,())=>bif !(ltI a 0) then bif aE a c.length then bif eqI b 0 then none else bif aE a d.length then bif Nat.blt a.toNat d.length then bif eqI b 0 then none else some (.inl (c,b,(d.set a.toNat (aA .u64 ((aA .u64 ((aA .u64 (e*1000000000))+(c.getD a.toNat 0))).tdiv b))),((aA .u64 ((aA .u64 (e*1000000000))+(c.getD a.toNat 0))).tmod b),(aA .i64 (a-1)),u00,())) else none else none else none else some (.inr ((d,e,u00,())))
def u9:zq j5 qY:=aV mW (2^64)
def gR(u0:Unit)(x:aM [.list (.int .u64),.int .u64])(A:List (List Int)):Option ((aM [.list (.int .u64),.int .u64])×List (List Int)):=match x with|(a,d,())=>bif !(ltI (a.length:Int) 0) then bif !(ltI (a.length:Int) (a.length:Int)) then bif !(ltI 1048576 (a.length:Int)) then aB (u9 (a,d,(List.replicate ((a.length:Int).toNat) (0:Ty.den (.int .u64))),0,(aA .i64 ((a.length:Int)-1)),A,())) λb=>aB (bU b.1 (()) b.2.2.1) λc=>some ((c.1,b.2.1,()),c.2) else none else none else none
def CJ:Code:=bY f271
abbrev LZ:Env:=RP [] [iU]
def P4:dN tP LZ:=jH trivial ⟨jL,trivial⟩
def GS:Code:=dC CJ 0
def JI(id:Nat):Option cI:=bif Nat.beq id 4 then some ⟨j5,qY,u9⟩ else none
def aB3:∀ x,dL tP LZ 38 (aP f271) JI GS j5 qY x=mW x:=λ_=>Y
def aDJ:cJ tP 38 GS ⟨j5,qY,u9⟩:=cC P4.callee aQ.mixed _ (aO (l:=[]) Y trivial) aB3
def aEP:bA CJ=[GS]:=Y
def aHE:∀ l x A,SQ tP LZ f271 (aP f271) JI CJ 287 (.int .u64) .none [.list (.int .u64),.int .u64] (.data [.list (.int .u64),.int .u64]) l x A=gR l x A:=by
 rintro u0 ⟨v0,v1,⟨⟩⟩ A;kernel_rfl
def aLJ:Z6 tP 271 287 (.int .u64) .none [.list (.int .u64),.int .u64] (.data [.list (.int .u64),.int .u64]) gR:=I7 aQ P4 func271 (c:=CJ) Y (keep:=aP f271) (lt:=JI) (by rfl) (aO aEP ⟨cB (i:=4) Y rfl aDJ,trivial⟩) aHE
abbrev LD:Shr:=(271,aGA 0 (arH 287 (.int .u64) .none [.list (.int .u64),.int .u64] (.data [.list (.int .u64),.int .u64]) gR))
def RD:sT tP LD:=yZ (g:=271) (f:=arH 287 (.int .u64) .none [.list (.int .u64),.int .u64] (.data [.list (.int .u64),.int .u64]) gR) (QD aLJ)
abbrev iA:zb:=[(0,.hnd 1),(1,.list (.int .u64)),(2,.int .u64),(3,zd),(9,zd),(10,.int .u64),(11,zd),(100000,.ar 287 (.int .u64))]
abbrev lZ:zc:=[(.exit 0,[(9,zd),(100000,.ar 287 (.int .u64))])]
def fM:zp iA lZ:=λ(b,e,f,c,g,d,a,u00,())=>bif !(ltI (e.length:Int) a) then bif ltI a (e.length:Int) then bif aE a e.length then bif aE (aA .i64 (c+a)) b.2.2 then bif Nat.blt ((b.2.1+(aA .i64 (c+a)).toNat)*1) (dG u00 b.1) then bif ltI (aA .i64 ((aA .i64 ((IntKind.wrap .i64 (dZ u00 b.1 ((b.2.1+(aA .i64 (c+a)).toNat)*1) 0))-(IntKind.wrap .i64 ((aA .u64 (d+(aA .u64 (f*(e.getD a.toNat 0))))).tmod 1000000000))))-g)) 0 then bif aE (aA .i64 (c+a)) b.2.2 then bif Nat.blt ((b.2.1+(aA .i64 (c+a)).toNat)*1) (dG u00 b.1) then some (.inl ((b.1,b.2.1,b.2.2),e,f,c,1,(aA .u64 ((aA .u64 (d+(aA .u64 (f*(e.getD a.toNat 0))))).tdiv 1000000000)),(aA .i64 (a+1)),(DQ u00 b.1 ((b.2.1+(aA .i64 (c+a)).toNat)*1) (IntKind.wrap .u64 (aA .i64 ((aA .i64 ((aA .i64 ((IntKind.wrap .i64 (dZ u00 b.1 ((b.2.1+(aA .i64 (c+a)).toNat)*1) 0))-(IntKind.wrap .i64 ((aA .u64 (d+(aA .u64 (f*(e.getD a.toNat 0))))).tmod 1000000000))))-g))+1000000000)))),())) else none else none else bif aE (aA .i64 (c+a)) b.2.2 then bif Nat.blt ((b.2.1+(aA .i64 (c+a)).toNat)*1) (dG u00 b.1) then some (.inl ((b.1,b.2.1,b.2.2),e,f,c,0,(aA .u64 ((aA .u64 (d+(aA .u64 (f*(e.getD a.toNat 0))))).tdiv 1000000000)),(aA .i64 (a+1)),(DQ u00 b.1 ((b.2.1+(aA .i64 (c+a)).toNat)*1) (IntKind.wrap .u64 (aA .i64 ((aA .i64 ((IntKind.wrap .i64 (dZ u00 b.1 ((b.2.1+(aA .i64 (c+a)).toNat)*1) 0))-(IntKind.wrap .i64 ((aA .u64 (d+(aA .u64 (f*(e.getD a.toNat 0))))).tmod 1000000000))))-g)))),())) else none else none else none else none else none else bif aE (aA .i64 (c+a)) b.2.2 then bif Nat.blt ((b.2.1+(aA .i64 (c+a)).toNat)*1) (dG u00 b.1) then bif ltI (aA .i64 ((aA .i64 ((IntKind.wrap .i64 (dZ u00 b.1 ((b.2.1+(aA .i64 (c+a)).toNat)*1) 0))-(IntKind.wrap .i64 (d.tmod 1000000000))))-g)) 0 then bif aE (aA .i64 (c+a)) b.2.2 then bif Nat.blt ((b.2.1+(aA .i64 (c+a)).toNat)*1) (dG u00 b.1) then some (.inl ((b.1,b.2.1,b.2.2),e,f,c,1,(aA .u64 (d.tdiv 1000000000)),(aA .i64 (a+1)),(DQ u00 b.1 ((b.2.1+(aA .i64 (c+a)).toNat)*1) (IntKind.wrap .u64 (aA .i64 ((aA .i64 ((aA .i64 ((IntKind.wrap .i64 (dZ u00 b.1 ((b.2.1+(aA .i64 (c+a)).toNat)*1) 0))-(IntKind.wrap .i64 (d.tmod 1000000000))))-g))+1000000000)))),())) else none else none else bif aE (aA .i64 (c+a)) b.2.2 then bif Nat.blt ((b.2.1+(aA .i64 (c+a)).toNat)*1) (dG u00 b.1) then some (.inl ((b.1,b.2.1,b.2.2),e,f,c,0,(aA .u64 (d.tdiv 1000000000)),(aA .i64 (a+1)),(DQ u00 b.1 ((b.2.1+(aA .i64 (c+a)).toNat)*1) (IntKind.wrap .u64 (aA .i64 ((aA .i64 ((IntKind.wrap .i64 (dZ u00 b.1 ((b.2.1+(aA .i64 (c+a)).toNat)*1) 0))-(IntKind.wrap .i64 (d.tmod 1000000000))))-g)))),())) else none else none else none else none else some (.inr ((g,u00,())))
def wP:zq iA lZ:=aV fM (2^64)
def fK(u0:Unit)(x:aM [.hnd 1,.list (.int .u64),.int .u64,zd])(A:List (List Int)):Option ((aM [.bool])×List (List Int)):=match x with|(a,d,e,c,())=>aB (wP ((a.1,a.2.1,a.2.2),d,e,c,0,0,0,A,())) λb=>some ((ltI 0 b.1,()),b.2.1)
def DZ:Code:=bY f258
abbrev MW:Env:=B1 []
def SX:dN tP MW:=aS trivial
def JB:Code:=dC DZ 0
def L7(id:Nat):Option cI:=bif Nat.beq id 4 then some ⟨iA,lZ,wP⟩ else none
def aC6:∀ x,dL tP MW 59 (aP f258) L7 JB iA lZ x=fM x:=λ_=>Y
def aE1:cJ tP 59 JB ⟨iA,lZ,wP⟩:=cC SX.callee aQ.mixed _ (aO (l:=[]) Y trivial) aC6
def aHU:bA DZ=[JB]:=Y
def aI7:∀ l x A,SQ tP MW f258 (aP f258) L7 DZ 287 (.int .u64) .none [.hnd 1,.list (.int .u64),.int .u64,.int .i64] (.data [.bool]) l x A=fK l x A:=by
 rintro u0 ⟨v0,v1,v2,v3,⟨⟩⟩ A;kernel_rfl
def aMC:Z6 tP 258 287 (.int .u64) .none [.hnd 1,.list (.int .u64),.int .u64,.int .i64] (.data [.bool]) fK:=I7 aQ SX func258 (c:=DZ) Y (keep:=aP f258) (lt:=L7) (by rfl) (aO aHU ⟨cB (i:=4) Y rfl aE1,trivial⟩) aI7
def aLS:bNU tP 258 287 (.int .u64) [.list (.int .u64),.int .u64,.int .i64] [.bool] (aU7 fK):=a62 aMC (by rfl) (by rfl) (by rfl)
abbrev L3:Shr:=(258,aGA 1 (bPN 287 (.int .u64) [.list (.int .u64),.int .u64,.int .i64] [.bool] (aU7 fK)))
def RW:sT tP L3:=yZ (bU3 aLS)
abbrev mG:zb:=[(0,.hnd 1),(1,.list (.int .u64)),(2,zd),(6,.int .u64),(7,zd),(100000,.ar 287 (.int .u64))]
abbrev sU:zc:=[(.exit 0,[(100000,.ar 287 (.int .u64))])]
def fI:zp mG sU:=λ(a,d,c,e,b,u00,())=>bif !(ltI (d.length:Int) b) then bif aE (aA .i64 (c+b)) a.2.2 then bif Nat.blt ((a.2.1+(aA .i64 (c+b)).toNat)*1) (dG u00 a.1) then bif ltI b (d.length:Int) then bif aE b d.length then bif aE (aA .i64 (c+b)) a.2.2 then bif Nat.blt ((a.2.1+(aA .i64 (c+b)).toNat)*1) (dG u00 a.1) then some (.inl ((a.1,a.2.1,a.2.2),d,c,(aA .u64 ((aA .u64 ((aA .u64 (e+(dZ u00 a.1 ((a.2.1+(aA .i64 (c+b)).toNat)*1) 0)))+(d.getD b.toNat 0))).tdiv 1000000000)),(aA .i64 (b+1)),(DQ u00 a.1 ((a.2.1+(aA .i64 (c+b)).toNat)*1) ((aA .u64 ((aA .u64 (e+(dZ u00 a.1 ((a.2.1+(aA .i64 (c+b)).toNat)*1) 0)))+(d.getD b.toNat 0))).tmod 1000000000)),())) else none else none else none else bif aE (aA .i64 (c+b)) a.2.2 then bif Nat.blt ((a.2.1+(aA .i64 (c+b)).toNat)*1) (dG u00 a.1) then some (.inl ((a.1,a.2.1,a.2.2),d,c,(aA .u64 ((aA .u64 (e+(dZ u00 a.1 ((a.2.1+(aA .i64 (c+b)).toNat)*1) 0))).tdiv 1000000000)),(aA .i64 (b+1)),(DQ u00 a.1 ((a.2.1+(aA .i64 (c+b)).toNat)*1) ((aA .u64 (e+(dZ u00 a.1 ((a.2.1+(aA .i64 (c+b)).toNat)*1) 0))).tmod 1000000000)),())) else none else none else none else none else some (.inr ((u00,())))
def wO:zq mG sU:=aV fI (2^64)
def dT(u0:Unit)(x:aM [.hnd 1,.list (.int .u64),zd])(A:List (List Int)):Option ((aM [])×List (List Int)):=match x with|(a,b,c,())=>aB (wO ((a.1,a.2.1,a.2.2),b,c,0,0,A,())) λd=>some ((()),d.1)
def DT:Code:=bY f255
abbrev MJ:Env:=B1 []
def SL:dN tP MJ:=aS trivial
def JM:Code:=dC DT 0
def LX(id:Nat):Option cI:=bif Nat.beq id 2 then some ⟨mG,sU,wO⟩ else none
def aDA:∀ x,dL tP MJ 41 (aP f255) LX JM mG sU x=fI x:=λ_=>Y
def aFM:cJ tP 41 JM ⟨mG,sU,wO⟩:=cC SL.callee aQ.mixed _ (aO (l:=[]) Y trivial) aDA
def aIA:bA DT=[JM]:=Y
def aI0:∀ l x A,SQ tP MJ f255 (aP f255) LX DT 287 (.int .u64) .none [.hnd 1,.list (.int .u64),.int .i64] (.data []) l x A=dT l x A:=by
 rintro u0 ⟨v0,v1,v2,⟨⟩⟩ A;kernel_rfl
def aMD:Z6 tP 255 287 (.int .u64) .none [.hnd 1,.list (.int .u64),.int .i64] (.data []) dT:=I7 aQ SL func255 (c:=DT) Y (keep:=aP f255) (lt:=LX) (by rfl) (aO aIA ⟨cB (i:=2) Y rfl aFM,trivial⟩) aI0
def aLE:bDJ tP 255 287 (.int .u64) [.list (.int .u64),.int .i64] (aBW dT):=aTT aMD (by rfl) (by rfl)
abbrev LV:Shr:=(255,aGA 1 (bND 287 (.int .u64) [.list (.int .u64),.int .i64] (aBW dT)))
def QS:sT tP LV:=yZ (a5X aLE)
abbrev qJ:zb:=[(0,.list (.int .u64)),(3,.own 5 (.int .u8)),(4,zd),(5,.int .u64),(6,zd),(14,.list (.int .u64)),(15,zd),(16,zd)]
abbrev wI:zc:=[(.exit 2,[(0,.list (.int .u64)),(3,.own 5 (.int .u8)),(14,.list (.int .u64)),(15,zd),(16,zd)])]
def eX:zp qJ wI:=λ(f,e,h,d,g,c,b,a,())=>bif ltI g 9 then bif ltI (aA .i64 (h+1)) (f.length:Int) then za (Nat.ble [(IntKind.wrap .u8 (aA .u64 (48+(d.tmod 10))))].length 1048576)<|za (Nat.ble e.length 1048576)<|some (.inl (f,(e++[(IntKind.wrap .u8 (aA .u64 (48+(d.tmod 10))))]),h,(aA .u64 (d.tdiv 10)),(aA .i64 (g+1)),c,b,a,()))else bif ltI 0 d then za (Nat.ble [(IntKind.wrap .u8 (aA .u64 (48+(d.tmod 10))))].length 1048576)<|za (Nat.ble e.length 1048576)<|some (.inl (f,(e++[(IntKind.wrap .u8 (aA .u64 (48+(d.tmod 10))))]),h,(aA .u64 (d.tdiv 10)),(aA .i64 (g+1)),c,b,a,()))else some (.inr ((f,e,c,b,a,())))else some (.inr ((f,e,c,b,a,())))
def sN:zq qJ wI:=aV eX (2^64)
abbrev qI:zb:=[(0,.list (.int .u64)),(3,.own 5 (.int .u8)),(14,.list (.int .u64)),(15,zd),(16,zd)]
abbrev vH:zc:=[(.exit 0,[(3,.own 5 (.int .u8))])]
def mC:zp qI vH:=λ(f,e,b,c,a,())=>bif ltI a c then za (aE a b.length)<|aB (sN (f,e,a,(b.getD a.toNat 0),0,b,c,a,())) λd=>some (.inl (d.1,d.2.1,d.2.2.1,d.2.2.2.1,(aA .i64 (d.2.2.2.2.1+1)),()))else some (.inr ((e,())))
def yY:zq qI vH:=aV mC (2^64)
def dK:zo [.list (.int .u64)] [.str]:=λ(a,())=>bif eqI (a.length:Int) 0 then some ((ByteArray.mk #[48]),())else za (!(ltI (aA .i64 (9*(a.length:Int))) 0))<|za (!(ltI 1048576 (aA .i64 (9*(a.length:Int)))))<|aB (yY (a,(List.replicate 0 (0:Ty.den (.int .u8))),a,(a.length:Int),0,())) λb=>aB (aBW (t:=(.int .u8)) fN b.1 (())) λc=>some ((a7M c),())
def aA5:Code:=bY f257
abbrev RE:Env:=RP [] [OD]
def K5:dN tP RE:=jH trivial ⟨YK,trivial⟩
def yC:Code:=dC aA5 0
def NJ:Code:=dC yC 0
def O3(id:Nat):Option cI:=bif Nat.beq id 8 then some ⟨qJ,wI,sN⟩ else bif Nat.beq id 5 then some ⟨qI,vH,yY⟩ else none
def aHQ:∀ x,dL tP RE 50 (aP f257) O3 NJ qJ wI x=eX x:=λ_=>Y
def aIV:cJ tP 50 NJ ⟨qJ,wI,sN⟩:=cC K5.callee aQ.mixed _ (aO (l:=[]) Y trivial) aHQ
def aH4:∀ x,dL tP RE 50 (aP f257) O3 yC qI vH x=mC x:=λ_=>Y
def aM8:bA yC=[NJ]:=Y
def aJD:cJ tP 50 yC ⟨qI,vH,yY⟩:=cC K5.callee aQ.mixed _ (aO aM8 ⟨cB (i:=8) Y rfl aIV,trivial⟩) aH4
abbrev BK:Ent:=⟨257,_,_,dK⟩
def CE:Ent.OK tP BK:=W4 aQ K5 func257 (c:=aA5) Y (keep:=aP f257) (lt:=O3) (aO (l:=[yC]) Y ⟨cB (i:=5) Y rfl aJD,trivial⟩) (λ_=>by kernel_rfl)
abbrev jN:zb:=[(0,.list (.int .u64)),(6,.int .u64),(7,.own 287 (.int .u64)),(8,.list (.int .u64)),(9,zd),(100000,.ar 287 (.int .u64))]
abbrev p6:zc:=[(.exit 0,[(6,.int .u64),(7,.own 287 (.int .u64)),(8,.list (.int .u64)),(9,zd),(100000,.ar 287 (.int .u64))])]
def tF:zp jN p6:=λ(b,e,a,d,c,u00,())=>bif !(ltI (b.length:Int) (a.length:Int)) then za (Nat.ble [0].length 1048576)<|za (Nat.ble a.length 1048576)<|some (.inl (b,e,(a++[0]),d,c,u00,()))else some (.inr ((e,a,d,c,u00,())))
def tB:zq jN p6:=aV tF (2^64)
abbrev jD:zb:=[(6,.int .u64),(7,.own 287 (.int .u64)),(8,.list (.int .u64)),(9,zd),(10,.own 287 (.int .u64)),(11,zd),(13,.int .u64),(14,.int .u64),(100000,.ar 287 (.int .u64))]
abbrev pV:zc:=[(.exit 4,[(6,.int .u64),(7,.own 287 (.int .u64)),(8,.list (.int .u64)),(9,zd),(10,.own 287 (.int .u64)),(11,zd),(13,.int .u64),(100000,.ar 287 (.int .u64))])]
def lW:zp jD pV:=λ(h,g,d,c,e,a,b,f,u00,())=>bif !(ltI b 1000000000) then za (aE (aA .i64 (c-1)) d.length)<|some (.inl (h,g,d,c,e,a,(aA .u64 (b-1)),(aA .u64 (f+(d.getD ((aA .i64 (c-1)).toNat) 0))),u00,()))else bif ltI f 1000000000 then za (aE (aA .i64 (c-2)) d.length)<|za (aE (aA .i64 ((aA .i64 (a+c))-2)) g.length)<|za (Nat.blt ((aA .i64 ((aA .i64 (a+c))-2)).toNat) g.length)<|bif ltI (aA .u64 ((aA .u64 (f*1000000000))+(g.getD ((aA .i64 ((aA .i64 (a+c))-2)).toNat) 0))) (aA .u64 (b*(d.getD ((aA .i64 (c-2)).toNat) 0))) then za (aE (aA .i64 (c-1)) d.length)<|some (.inl (h,g,d,c,e,a,(aA .u64 (b-1)),(aA .u64 (f+(d.getD ((aA .i64 (c-1)).toNat) 0))),u00,()))else some (.inr ((h,g,d,c,e,a,b,u00,())))else some (.inr ((h,g,d,c,e,a,b,u00,())))
def tA:zq jD pV:=aV lW (2^64)
abbrev jF:zb:=[(6,.int .u64),(7,.own 287 (.int .u64)),(8,.list (.int .u64)),(9,zd),(10,.own 287 (.int .u64)),(11,zd),(100000,.ar 287 (.int .u64))]
abbrev pQ:zc:=[(.exit 2,[(6,.int .u64),(7,.own 287 (.int .u64)),(10,.own 287 (.int .u64)),(100000,.ar 287 (.int .u64))])]
def eP:zp jF pQ:=λ(h,d,e,c,f,b,u00,())=>bif !(ltI b 0) then za (aE (aA .i64 (b+c)) d.length)<|za (Nat.blt ((aA .i64 (b+c)).toNat) d.length)<|za (aE (aA .i64 ((aA .i64 (b+c))-1)) d.length)<|za (Nat.blt ((aA .i64 ((aA .i64 (b+c))-1)).toNat) d.length)<|za (aE (aA .i64 (c-1)) e.length)<|bif eqI (e.getD ((aA .i64 (c-1)).toNat) 0) 0 then none else za (aE (aA .i64 (c-1)) e.length)<|bif eqI (e.getD ((aA .i64 (c-1)).toNat) 0) 0 then none else aB (tA (h,d,e,c,f,b,(aA .u64 ((aA .u64 ((aA .u64 ((d.getD ((aA .i64 (b+c)).toNat) 0)*1000000000))+(d.getD ((aA .i64 ((aA .i64 (b+c))-1)).toNat) 0))).tdiv (e.getD ((aA .i64 (c-1)).toNat) 0))),((aA .u64 ((aA .u64 ((d.getD ((aA .i64 (b+c)).toNat) 0)*1000000000))+(d.getD ((aA .i64 ((aA .i64 (b+c))-1)).toNat) 0))).tmod (e.getD ((aA .i64 (c-1)).toNat) 0)),u00,())) λa=>aB (aU7 (t:=(.int .u64)) (rets:=[.bool]) fK a.2.1 (a.2.2.1,a.2.2.2.2.2.2.1,a.2.2.2.2.2.1,())) λg=>bif g.1.1 then aB (aBW (t:=(.int .u64)) dT g.2 (a.2.2.1,a.2.2.2.2.2.1,())) λi=>za (aE a.2.2.2.2.2.1 a.2.2.2.2.1.length)<|za (Nat.blt a.2.2.2.2.2.1.toNat a.2.2.2.2.1.length)<|some (.inl (a.1,i,a.2.2.1,a.2.2.2.1,(a.2.2.2.2.1.set a.2.2.2.2.2.1.toNat (aA .u64 (a.2.2.2.2.2.2.1-1))),(aA .i64 (a.2.2.2.2.2.1-1)),a.2.2.2.2.2.2.2.1,()))else za (aE a.2.2.2.2.2.1 a.2.2.2.2.1.length)<|za (Nat.blt a.2.2.2.2.2.1.toNat a.2.2.2.2.1.length)<|some (.inl (a.1,g.2,a.2.2.1,a.2.2.2.1,(a.2.2.2.2.1.set a.2.2.2.2.2.1.toNat a.2.2.2.2.2.2.1),(aA .i64 (a.2.2.2.2.2.1-1)),a.2.2.2.2.2.2.2.1,()))else some (.inr ((h,d,f,u00,())))
def tD:zq jF pQ:=aV eP (2^64)
def iX(u0:Unit)(x:aM [.list (.int .u64),.list (.int .u64)])(A:List (List Int)):Option ((aM [.list (.int .u64),.list (.int .u64)])×List (List Int)):=match x with|(i,b,())=>bif aE (aA .i64 ((b.length:Int)-1)) b.length then bif eqI (aA .u64 ((b.getD ((aA .i64 ((b.length:Int)-1)).toNat) 0)+1)) 0 then none else aB (hZ () (i,(aA .u64 ((1000000000:Int).tdiv (aA .u64 ((b.getD ((aA .i64 ((b.length:Int)-1)).toNat) 0)+1)))),()) A) λg=>bif Nat.ble [0].length 1048576 then bif Nat.ble g.1.length 1048576 then aB (hZ () (b,(aA .u64 ((1000000000:Int).tdiv (aA .u64 ((b.getD ((aA .i64 ((b.length:Int)-1)).toNat) 0)+1)))),()) g.2) λh=>aB (tB (i,(aA .u64 ((1000000000:Int).tdiv (aA .u64 ((b.getD ((aA .i64 ((b.length:Int)-1)).toNat) 0)+1)))),(g.1++[0]),h.1,(h.1.length:Int),h.2,())) λa=>bif !(ltI (aA .i64 ((a.2.1.length:Int)-a.2.2.2.1)) 0) then bif !(ltI (aA .i64 ((a.2.1.length:Int)-a.2.2.2.1)) (aA .i64 ((a.2.1.length:Int)-a.2.2.2.1))) then bif !(ltI 1048576 (aA .i64 ((a.2.1.length:Int)-a.2.2.2.1))) then aB (tD (a.1,a.2.1,a.2.2.1,a.2.2.2.1,(List.replicate ((aA .i64 ((a.2.1.length:Int)-a.2.2.2.1)).toNat) (0:Ty.den (.int .u64))),(aA .i64 ((aA .i64 ((a.2.1.length:Int)-a.2.2.2.1))-1)),a.2.2.2.2.1,())) λc=>aB (bU c.2.1 (()) c.2.2.2.1) λf=>aB (gR () (f.1,c.1,()) f.2) λd=>aB (bU c.2.2.1 (()) d.2) λe=>some ((e.1,d.1.1,()),e.2) else none else none else none else none else none else none
def uC:Code:=bY f272
abbrev tR:Env:=RP [] [LV,SJ,LD,L3,iU]
def wQ:dN tP tR:=jH trivial ⟨QS,aCM,RD,RW,jL,trivial⟩
def FV:Code:=dC uC 0
def qX:Code:=dC uC 1
def FZ:Code:=dC qX 0
def sV(id:Nat):Option cI:=bif Nat.beq id 4 then some ⟨jN,p6,tB⟩ else bif Nat.beq id 12 then some ⟨jD,pV,tA⟩ else bif Nat.beq id 8 then some ⟨jF,pQ,tD⟩ else none
def aAG:∀ x,dL tP tR 146 (aP f272) sV FV jN p6 x=tF x:=λ_=>Y
def aCA:cJ tP 146 FV ⟨jN,p6,tB⟩:=cC wQ.callee aQ.mixed _ (aO (l:=[]) Y trivial) aAG
def ZT:∀ x,dL tP tR 146 (aP f272) sV FZ jD pV x=lW x:=λ_=>Y
def aB0:cJ tP 146 FZ ⟨jD,pV,tA⟩:=cC wQ.callee aQ.mixed _ (aO (l:=[]) Y trivial) ZT
def aAA:∀ x,dL tP tR 146 (aP f272) sV qX jF pQ x=eP x:=λ_=>Y
def aEL:bA qX=[FZ]:=Y
def aCI:cJ tP 146 qX ⟨jF,pQ,tD⟩:=cC wQ.callee aQ.mixed _ (aO aEL ⟨cB (i:=12) Y rfl aB0,trivial⟩) aAA
def aDF:bA uC=[FV,qX]:=Y
def aFE:∀ l x A,SQ tP tR f272 (aP f272) sV uC 287 (.int .u64) .none [.list (.int .u64),.list (.int .u64)] (.data [.list (.int .u64),.list (.int .u64)]) l x A=iX l x A:=by
 rintro u0 ⟨v0,v1,⟨⟩⟩ A;kernel_rfl
def aI3:Z6 tP 272 287 (.int .u64) .none [.list (.int .u64),.list (.int .u64)] (.data [.list (.int .u64),.list (.int .u64)]) iX:=I7 aQ wQ func272 (c:=uC) Y (keep:=aP f272) (lt:=sV) (by rfl) (aO aDF ⟨cB (i:=4) Y rfl aCA,cB (i:=8) Y rfl aCI,trivial⟩) aFE
abbrev T7:Shr:=(272,aGA 0 (arH 287 (.int .u64) .none [.list (.int .u64),.list (.int .u64)] (.data [.list (.int .u64),.list (.int .u64)]) iX))
def aEI:sT tP T7:=yZ (g:=272) (f:=arH 287 (.int .u64) .none [.list (.int .u64),.list (.int .u64)] (.data [.list (.int .u64),.list (.int .u64)]) iX) (QD aI3)
def gM:zo [.str,.str] [.str]:=λ(e,f,())=>aB (A6 (e,f,())) λc=>bif c.2.2.1 then aB (EF ((aA .u64 (c.1+c.2.1)),())) λk=>some (k.1,())else aB (eS () (e,()) []) λb=>aB (eS () (f,()) b.2) λa=>bif ltI (b.1.length:Int) (a.1.length:Int) then za (Nat.ble [0].length 1048576)<|za (Nat.ble a.1.length 1048576)<|za (!(ltI (aA .i64 ((aA .i64 (((a.1++[0]).length:Int)-1))-(b.1.length:Int))) 0))<|za (!(ltI 1048576 (aA .i64 ((aA .i64 (((a.1++[0]).length:Int)-1))-(b.1.length:Int)))))<|za (Nat.ble b.1.length 1048576)<|aB (aBW (t:=(.int .u64)) dT (a.1++[0]) ((b.1++List.replicate (aA .i64 ((aA .i64 (((a.1++[0]).length:Int)-1))-(b.1.length:Int))).toNat (0:Ty.den (.int .u64))),0,())) λh=>aB (bU h (()) a.2) λi=>aB (dK (i.1,())) λl=>some (l.1,())else za (Nat.ble [0].length 1048576)<|za (Nat.ble b.1.length 1048576)<|za (!(ltI (aA .i64 ((aA .i64 (((b.1++[0]).length:Int)-1))-(a.1.length:Int))) 0))<|za (!(ltI 1048576 (aA .i64 ((aA .i64 (((b.1++[0]).length:Int)-1))-(a.1.length:Int)))))<|za (Nat.ble a.1.length 1048576)<|aB (aBW (t:=(.int .u64)) dT (b.1++[0]) ((a.1++List.replicate (aA .i64 ((aA .i64 (((b.1++[0]).length:Int)-1))-(a.1.length:Int))).toNat (0:Ty.den (.int .u64))),0,())) λj=>aB (bU j (()) a.2) λg=>aB (dK (g.1,())) λd=>some (d.1,())
def aOR:Code:=bY f197
abbrev aY9:Env:=RP [aBE,T0,BK] [N3,LV,iU]
def a4Z:dN tP aY9:=jH ⟨WX,R6,CE,trivial⟩ ⟨MO,QS,jL,trivial⟩
def aVF(id:Nat):Option cI:=none
def a1H:bA aOR=[]:=Y
def a42:∀ x,a3G tP aY9 f197 (aP f197) aVF aOR 287 (.int .u64) _ _ x=gM x:=λ_=>Y
abbrev bFI:Ent:=⟨197,_,_,gM⟩
def aP1:Ent.OK tP bFI:=bAO aQ a4Z func197 (c:=aOR) Y (keep:=aP f197) (lt:=aVF) (aO a1H trivial) a42
def dM:zo [.str,.str] [.str,zd]:=λ(d,c,())=>aB (iF (d,c,())) λg=>bif ltI g.1 0 then some ((ByteArray.mk #[]),3,())else aB (A6 (d,c,())) λf=>bif f.2.2.1 then aB (EF ((aA .u64 (f.1-f.2.1)),())) λj=>some (j.1,0,())else aB (eS () (d,()) []) λa=>za (Nat.ble [0].length 1048576)<|za (Nat.ble a.1.length 1048576)<|aB (eS () (c,()) a.2) λe=>aB (eS () (c,()) e.2) λb=>za (!(ltI (aA .i64 ((aA .i64 (((a.1++[0]).length:Int)-1))-(b.1.length:Int))) 0))<|za (!(ltI 1048576 (aA .i64 ((aA .i64 (((a.1++[0]).length:Int)-1))-(b.1.length:Int)))))<|za (Nat.ble e.1.length 1048576)<|aB (aU7 (t:=(.int .u64)) (rets:=[.bool]) fK (a.1++[0]) ((e.1++List.replicate (aA .i64 ((aA .i64 (((a.1++[0]).length:Int)-1))-(b.1.length:Int))).toNat (0:Ty.den (.int .u64))),1,0,())) λk=>aB (bU k.2 (()) b.2) λi=>aB (dK (i.1,())) λh=>some (h.1,0,())
def aO9:Code:=bY f199
abbrev aYF:Env:=RP [aMY,aBE,T0,BK] [N3,L3,iU]
def a5S:dN tP aYF:=jH ⟨TA,WX,R6,CE,trivial⟩ ⟨MO,RW,jL,trivial⟩
def aVO(id:Nat):Option cI:=none
def a1S:bA aO9=[]:=Y
def a5O:∀ x,a3G tP aYF f199 (aP f199) aVO aO9 287 (.int .u64) _ _ x=dM x:=λ_=>Y
abbrev bF9:Ent:=⟨199,_,_,dM⟩
def aP8:Ent.OK tP bF9:=bAO aQ a5S func199 (c:=aO9) Y (keep:=aP f199) (lt:=aVO) (aO a1S trivial) a5O
def gO:zo [.str,.str] [.str]:=λ(a,b,())=>bif !(ltI 18 (aA .i64 ((a.size:Int)+(b.size:Int)))) then aB (A6 (a,b,())) λc=>aB (EF ((aA .u64 (c.1*c.2.1)),())) λh=>some (h.1,())else aB (eS () (a,()) []) λe=>aB (eS () (b,()) e.2) λd=>aB (fS () (e.1,d.1,()) d.2) λf=>aB (dK (f.1,())) λg=>some (g.1,())
def aOB:Code:=bY f200
abbrev aZV:Env:=RP [aBE,T0,BK] [N3,J4]
def a4X:dN tP aZV:=jH ⟨WX,R6,CE,trivial⟩ ⟨MO,PN,trivial⟩
def aVI(id:Nat):Option cI:=none
def a2G:bA aOB=[]:=Y
def a5I:∀ x,a3G tP aZV f200 (aP f200) aVI aOB 287 (.int .u64) _ _ x=gO x:=λ_=>Y
abbrev bGM:Ent:=⟨200,_,_,gO⟩
def a5E:Ent.OK tP bGM:=bAO aQ a4X func200 (c:=aOB) Y (keep:=aP f200) (lt:=aVI) (aO a2G trivial) a5I
def u7:zo [.str,.str] [.str,.str,zd]:=λ(e,h,())=>bif eqS h (ByteArray.mk #[48]) then some ((ByteArray.mk #[]),(ByteArray.mk #[]),17,())else aB (A6 (e,h,())) λb=>bif b.2.2.1 then bif eqI b.2.1 0 then none else aB (EF ((aA .u64 (b.1.tdiv b.2.1)),())) λm=>bif eqI b.2.1 0 then none else aB (EF ((b.1.tmod b.2.1),())) λn=>some (m.1,n.1,0,())else aB (eS () (e,()) []) λd=>aB (eS () (h,()) d.2) λa=>aB (B8 (d.1,a.1,())) λk=>bif ltI k.1 0 then some ((ByteArray.mk #[48]),e,0,())else bif eqI (a.1.length:Int) 1 then za (aE 0 a.1.length)<|za (Nat.blt 0 a.1.length)<|aB (gR () (d.1,(a.1.getD 0 0),()) a.2) λi=>aB (dK (i.1.1,())) λl=>aB (EF (i.1.2.1,())) λj=>some (l.1,j.1,0,())else aB (iX () (d.1,a.1,()) a.2) λc=>aB (dK (c.1.1,())) λg=>aB (dK (c.1.2.1,())) λf=>some (g.1,f.1,0,())
def aDN:Code:=bY f217
abbrev aP5:Env:=RP [aBE,T0,VL,BK] [N3,T7,LD]
def aWL:dN tP aP5:=jH ⟨WX,R6,aGS,CE,trivial⟩ ⟨MO,aEI,RD,trivial⟩
def aNO(id:Nat):Option cI:=none
def aUY:bA aDN=[]:=Y
def aWB:∀ x,a3G tP aP5 f217 (aP f217) aNO aDN 287 (.int .u64) _ _ x=u7 x:=λ_=>Y
abbrev a5R:Ent:=⟨217,_,_,u7⟩
def aV9:Ent.OK tP a5R:=bAO aQ aWL func217 (c:=aDN) Y (keep:=aP f217) (lt:=aNO) (aO aUY trivial) aWB
def aIG:zo [.str,.str] [.str]:=λ(A,y,())=>aB (AU (A,18,())) λG=>bif G.2.1 then aB (AU (y,18,())) λF=>bif F.2.1 then aB (pA ((aA .i64 (G.1+F.1)),())) λI=>some (I.1,())else aB (dE (A,())) λc=>aB (dE (y,())) λd=>bif c.1 then bif d.1 then aB (gM (c.2.1,d.2.1,())) λJ=>aB (aD (c.1,J.1,())) λH=>some (H.1,())else aB (iF (c.2.1,d.2.1,())) λK=>bif ltI K.1 0 then aB (dM (d.2.1,c.2.1,())) λL=>aB (aD (d.1,L.1,())) λC=>some (C.1,())else aB (dM (c.2.1,d.2.1,())) λD=>aB (aD (c.1,D.1,())) λp=>some (p.1,())else bif d.1 then aB (iF (c.2.1,d.2.1,())) λq=>bif ltI q.1 0 then aB (dM (d.2.1,c.2.1,())) λf=>aB (aD (d.1,f.1,())) λn=>some (n.1,())else aB (dM (c.2.1,d.2.1,())) λo=>aB (aD (c.1,o.1,())) λh=>some (h.1,())else aB (gM (c.2.1,d.2.1,())) λi=>aB (aD (c.1,i.1,())) λv=>some (v.1,())else aB (dE (A,())) λa=>aB (dE (y,())) λb=>bif a.1 then bif b.1 then aB (gM (a.2.1,b.2.1,())) λE=>aB (aD (a.1,E.1,())) λt=>some (t.1,())else aB (iF (a.2.1,b.2.1,())) λk=>bif ltI k.1 0 then aB (dM (b.2.1,a.2.1,())) λw=>aB (aD (b.1,w.1,())) λl=>some (l.1,())else aB (dM (a.2.1,b.2.1,())) λm=>aB (aD (a.1,m.1,())) λu=>some (u.1,())else bif b.1 then aB (iF (a.2.1,b.2.1,())) λr=>bif ltI r.1 0 then aB (dM (b.2.1,a.2.1,())) λj=>aB (aD (b.1,j.1,())) λe=>some (e.1,())else aB (dM (a.2.1,b.2.1,())) λs=>aB (aD (a.1,s.1,())) λg=>some (g.1,())else aB (gM (a.2.1,b.2.1,())) λB=>aB (aD (a.1,B.1,())) λz=>some (z.1,())
abbrev a9Y:Ent:=⟨147,_,_,aIG⟩
def aU9:Ent.OK tP a9Y:=oI (aS (oV aP1 (oV TA (oV aP8 (oV RZ (oV X3 (oV ZC (oV HV oW)))))))) func147
def aGT:zo [.str,.str] [.str]:=λ(a,b,())=>aB (aGM (b,())) λd=>aB (aIG (a,d.1,())) λc=>some (c.1,())
abbrev aWZ:Ent:=⟨218,_,_,aGT⟩
def aVC:Ent.OK tP aWZ:=oI (aS (oV aU9 (oV aVH oW))) func218
def ZN:zo [.str,.str] [.str]:=λ(o,n,())=>aB (AU (o,9,())) λt=>bif t.2.1 then aB (AU (n,9,())) λs=>bif s.2.1 then aB (pA ((aA .i64 (t.1*s.1)),())) λv=>some (v.1,())else aB (dE (o,())) λd=>aB (dE (n,())) λc=>bif d.1 then bif c.1 then aB (gO (d.2.1,c.2.1,())) λw=>aB (aD (false,w.1,())) λu=>some (u.1,())else aB (gO (d.2.1,c.2.1,())) λy=>aB (aD (true,y.1,())) λz=>some (z.1,())else bif c.1 then aB (gO (d.2.1,c.2.1,())) λp=>aB (aD (true,p.1,())) λq=>some (q.1,())else aB (gO (d.2.1,c.2.1,())) λh=>aB (aD (false,h.1,())) λi=>some (i.1,())else aB (dE (o,())) λb=>aB (dE (n,())) λa=>bif b.1 then bif a.1 then aB (gO (b.2.1,a.2.1,())) λg=>aB (aD (false,g.1,())) λe=>some (e.1,())else aB (gO (b.2.1,a.2.1,())) λf=>aB (aD (true,f.1,())) λm=>some (m.1,())else bif a.1 then aB (gO (b.2.1,a.2.1,())) λk=>aB (aD (true,k.1,())) λl=>some (l.1,())else aB (gO (b.2.1,a.2.1,())) λr=>aB (aD (false,r.1,())) λj=>some (j.1,())
abbrev aOT:Ent:=⟨148,_,_,ZN⟩
def aK7:Ent.OK tP aOT:=oI (aS (oV a5E (oV RZ (oV X3 (oV ZC (oV HV oW)))))) func148
def OP:zo [.str,.str] [.str,.str,zd]:=λ(v0,O,())=>bif eqS O (ByteArray.mk #[48]) then some ((ByteArray.mk #[]),(ByteArray.mk #[]),17,())else aB (AU (v0,18,())) λh=>bif h.2.1 then aB (AU (O,18,())) λe=>bif e.2.1 then bif eqI e.1 0 then none else bif eqI e.1 0 then none else bif !(eqI (h.1.tmod e.1) 0) then bif ltI (h.1.tmod e.1) 0 then bif ltI e.1 0 then aB (pA ((aA .i64 (h.1.tdiv e.1)),())) λy3=>aB (pA ((h.1.tmod e.1),())) λy4=>some (y3.1,y4.1,0,())else aB (pA ((aA .i64 ((aA .i64 (h.1.tdiv e.1))-1)),())) λy5=>aB (pA ((aA .i64 ((h.1.tmod e.1)+e.1)),())) λy6=>some (y5.1,y6.1,0,())else bif ltI e.1 0 then aB (pA ((aA .i64 ((aA .i64 (h.1.tdiv e.1))-1)),())) λy7=>aB (pA ((aA .i64 ((h.1.tmod e.1)+e.1)),())) λy8=>some (y7.1,y8.1,0,())else aB (pA ((aA .i64 (h.1.tdiv e.1)),())) λy9=>aB (pA ((h.1.tmod e.1),())) λy10=>some (y9.1,y10.1,0,())else aB (pA ((aA .i64 (h.1.tdiv e.1)),())) λy11=>aB (pA ((h.1.tmod e.1),())) λT=>some (y11.1,T.1,0,())else aB (dE (v0,())) λg=>aB (dE (O,())) λb=>aB (u7 (g.2.1,b.2.1,())) λd=>bif !(eqI d.2.2.1 0) then some ((ByteArray.mk #[]),(ByteArray.mk #[]),d.2.2.1,())else bif g.1 then bif b.1 then bif g.1 then bif b.1 then aB (aD (false,d.1,())) λy16=>aB (aD (b.1,d.2.1,())) λy17=>some (y16.1,y17.1,0,())else aB (aD (true,d.1,())) λy18=>aB (aD (b.1,d.2.1,())) λy19=>some (y18.1,y19.1,0,())else bif b.1 then aB (aD (true,d.1,())) λY=>aB (aD (b.1,d.2.1,())) λy21=>some (Y.1,y21.1,0,())else aB (aD (false,d.1,())) λy22=>aB (aD (b.1,d.2.1,())) λX=>some (y22.1,X.1,0,())else bif !(eqS d.2.1 (ByteArray.mk #[48])) then aB (gM (d.1,(ByteArray.mk #[49]),())) λn=>aB (dM (b.2.1,d.2.1,())) λj=>bif g.1 then bif b.1 then aB (aD (false,n.1,())) λy26=>aB (aD (b.1,j.1,())) λS=>some (y26.1,S.1,0,())else aB (aD (true,n.1,())) λy28=>aB (aD (b.1,j.1,())) λV=>some (y28.1,V.1,0,())else bif b.1 then aB (aD (true,n.1,())) λy30=>aB (aD (b.1,j.1,())) λy31=>some (y30.1,y31.1,0,())else aB (aD (false,n.1,())) λy32=>aB (aD (b.1,j.1,())) λy33=>some (y32.1,y33.1,0,())else bif g.1 then bif b.1 then aB (aD (false,d.1,())) λy34=>aB (aD (b.1,d.2.1,())) λy35=>some (y34.1,y35.1,0,())else aB (aD (true,d.1,())) λy36=>aB (aD (b.1,d.2.1,())) λy37=>some (y36.1,y37.1,0,())else bif b.1 then aB (aD (true,d.1,())) λy38=>aB (aD (b.1,d.2.1,())) λy39=>some (y38.1,y39.1,0,())else aB (aD (false,d.1,())) λR=>aB (aD (b.1,d.2.1,())) λy41=>some (R.1,y41.1,0,())else bif b.1 then bif !(eqS d.2.1 (ByteArray.mk #[48])) then aB (gM (d.1,(ByteArray.mk #[49]),())) λk=>aB (dM (b.2.1,d.2.1,())) λl=>bif g.1 then bif b.1 then aB (aD (false,k.1,())) λy44=>aB (aD (b.1,l.1,())) λy45=>some (y44.1,y45.1,0,())else aB (aD (true,k.1,())) λQ=>aB (aD (b.1,l.1,())) λy47=>some (Q.1,y47.1,0,())else bif b.1 then aB (aD (true,k.1,())) λy48=>aB (aD (b.1,l.1,())) λy49=>some (y48.1,y49.1,0,())else aB (aD (false,k.1,())) λy50=>aB (aD (b.1,l.1,())) λy51=>some (y50.1,y51.1,0,())else bif g.1 then bif b.1 then aB (aD (false,d.1,())) λW=>aB (aD (b.1,d.2.1,())) λy53=>some (W.1,y53.1,0,())else aB (aD (true,d.1,())) λy54=>aB (aD (b.1,d.2.1,())) λy55=>some (y54.1,y55.1,0,())else bif b.1 then aB (aD (true,d.1,())) λy56=>aB (aD (b.1,d.2.1,())) λy57=>some (y56.1,y57.1,0,())else aB (aD (false,d.1,())) λy58=>aB (aD (b.1,d.2.1,())) λy59=>some (y58.1,y59.1,0,())else bif g.1 then bif b.1 then aB (aD (false,d.1,())) λy60=>aB (aD (b.1,d.2.1,())) λy61=>some (y60.1,y61.1,0,())else aB (aD (true,d.1,())) λZ=>aB (aD (b.1,d.2.1,())) λy63=>some (Z.1,y63.1,0,())else bif b.1 then aB (aD (true,d.1,())) λy64=>aB (aD (b.1,d.2.1,())) λy65=>some (y64.1,y65.1,0,())else aB (aD (false,d.1,())) λy66=>aB (aD (b.1,d.2.1,())) λy67=>some (y66.1,y67.1,0,())else aB (dE (v0,())) λf=>aB (dE (O,())) λa=>aB (u7 (f.2.1,a.2.1,())) λc=>bif !(eqI c.2.2.1 0) then some ((ByteArray.mk #[]),(ByteArray.mk #[]),c.2.2.1,())else bif f.1 then bif a.1 then bif f.1 then bif a.1 then aB (aD (false,c.1,())) λy71=>aB (aD (a.1,c.2.1,())) λy72=>some (y71.1,y72.1,0,())else aB (aD (true,c.1,())) λy73=>aB (aD (a.1,c.2.1,())) λy74=>some (y73.1,y74.1,0,())else bif a.1 then aB (aD (true,c.1,())) λy75=>aB (aD (a.1,c.2.1,())) λy76=>some (y75.1,y76.1,0,())else aB (aD (false,c.1,())) λy77=>aB (aD (a.1,c.2.1,())) λP=>some (y77.1,P.1,0,())else bif !(eqS c.2.1 (ByteArray.mk #[48])) then aB (gM (c.1,(ByteArray.mk #[49]),())) λo=>aB (dM (a.2.1,c.2.1,())) λi=>bif f.1 then bif a.1 then aB (aD (false,o.1,())) λy81=>aB (aD (a.1,i.1,())) λy82=>some (y81.1,y82.1,0,())else aB (aD (true,o.1,())) λy83=>aB (aD (a.1,i.1,())) λy84=>some (y83.1,y84.1,0,())else bif a.1 then aB (aD (true,o.1,())) λy85=>aB (aD (a.1,i.1,())) λy86=>some (y85.1,y86.1,0,())else aB (aD (false,o.1,())) λy87=>aB (aD (a.1,i.1,())) λU=>some (y87.1,U.1,0,())else bif f.1 then bif a.1 then aB (aD (false,c.1,())) λy89=>aB (aD (a.1,c.2.1,())) λy90=>some (y89.1,y90.1,0,())else aB (aD (true,c.1,())) λy91=>aB (aD (a.1,c.2.1,())) λy92=>some (y91.1,y92.1,0,())else bif a.1 then aB (aD (true,c.1,())) λy93=>aB (aD (a.1,c.2.1,())) λy94=>some (y93.1,y94.1,0,())else aB (aD (false,c.1,())) λy95=>aB (aD (a.1,c.2.1,())) λy96=>some (y95.1,y96.1,0,())else bif a.1 then bif !(eqS c.2.1 (ByteArray.mk #[48])) then aB (gM (c.1,(ByteArray.mk #[49]),())) λm=>aB (dM (a.2.1,c.2.1,())) λp=>bif f.1 then bif a.1 then aB (aD (false,m.1,())) λy99=>aB (aD (a.1,p.1,())) λN=>some (y99.1,N.1,0,())else aB (aD (true,m.1,())) λL=>aB (aD (a.1,p.1,())) λz=>some (L.1,z.1,0,())else bif a.1 then aB (aD (true,m.1,())) λt=>aB (aD (a.1,p.1,())) λE=>some (t.1,E.1,0,())else aB (aD (false,m.1,())) λA=>aB (aD (a.1,p.1,())) λs=>some (A.1,s.1,0,())else bif f.1 then bif a.1 then aB (aD (false,c.1,())) λG=>aB (aD (a.1,c.2.1,())) λq=>some (G.1,q.1,0,())else aB (aD (true,c.1,())) λF=>aB (aD (a.1,c.2.1,())) λw=>some (F.1,w.1,0,())else bif a.1 then aB (aD (true,c.1,())) λI=>aB (aD (a.1,c.2.1,())) λy=>some (I.1,y.1,0,())else aB (aD (false,c.1,())) λK=>aB (aD (a.1,c.2.1,())) λD=>some (K.1,D.1,0,())else bif f.1 then bif a.1 then aB (aD (false,c.1,())) λv=>aB (aD (a.1,c.2.1,())) λB=>some (v.1,B.1,0,())else aB (aD (true,c.1,())) λC=>aB (aD (a.1,c.2.1,())) λH=>some (C.1,H.1,0,())else bif a.1 then aB (aD (true,c.1,())) λJ=>aB (aD (a.1,c.2.1,())) λr=>some (J.1,r.1,0,())else aB (aD (false,c.1,())) λM=>aB (aD (a.1,c.2.1,())) λu=>some (M.1,u.1,0,())
abbrev aKV:Ent:=⟨158,_,_,OP⟩
def aNN:Ent.OK tP aKV:=oI (aS (oV aP1 (oV aV9 (oV aP8 (oV RZ (oV X3 (oV ZC (oV HV oW)))))))) func158
end Go.PM
