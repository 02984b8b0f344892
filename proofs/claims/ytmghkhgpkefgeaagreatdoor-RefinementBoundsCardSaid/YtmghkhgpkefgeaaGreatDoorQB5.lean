/- Texts of one proof, joined (5). -/
import Derived.Lib.AtoiTie
import Derived.Lib.ParseIntBTie
import Derived.Test.YtmghkhgpkefgeaaGreatDoorQB4
set_option linter.unusedSimpArgs false
set_option linter.unusedVariables false
set_option maxRecDepth 100000
noncomputable section
namespace Go.PM
open Go Go.RowKit
structure ZE (Y:Type) where
 sh:List (Nat×Kd)
 exits:List (Ex×List (Nat×Kd))
 run:Shape.den sh->Option (List Y×aW exits)
def bBJ(o:Oper):Bool:=match o.op with
 | .call c=>match c.callee with
  | .value (.tmp _)=>true
  | _=>false
 | _=>false
def a9G:List Oper->Nat->Option Nat
 | [],_=>none
 | o::r,i=>bif bBJ o then some i else a9G r (i+1)
def outs {Y α:Type}(l:List Y):Option (List Y×α)->Option (List Y×α)
 | some (m,z)=>some (l++m,z)
 | none=>none
def a1L {Y τ α:Type} (r:Option (List Y×τ)) (k:τ->Option (List Y×α)):Option (List Y×α):=match r with
 | some (l,z)=>outs l (k z)
 | none=>none
def a7W {Y:Type}:Option (List Y×Unit)->Option (List Y)
 | some (l,_)=>some l
 | none=>none
section
variable {α:Type} (P:Program) (E:Env) (nt aV:Nat) (lt:Nat->Option b9) (ks:List Kd) (li:Nat->Option (ZE (Value×aH ks)))
def bBF(ops:Array Oper) (o:Oper) (rest:List Oper) (F:Frm) (H:Heap) (k:Frm->Heap->Option (List (Value×aH ks)×α)) (kx:Frm->Heap->Option Unit):Option (List (Value×aH ks)×α) :=
 aUN F ops.toList o λF b=>bif b then (match o.op with
  | .call c=>match c.callee with
   | .value f=>match ev F f with
    | .lit yv=>bif fI.noRefs (c.args.toList.map (ev F))&&ks.all Kd.plain then (match aQH ks (c.args.toList.map (ev F))with
     | some e=>match V6 nt F o.dst (.lit (.bool true)),V6 nt F o.dst (.lit (.bool false))with
      | some F1,some F2=>match QC P E nt ops.toList rest F2 H kx with
       | some _=>outs [(yv,e)] (QC P E nt ops.toList rest F1 H k)
       | none=>none
      | _,_=>none
     | none=>none) else none
    | _=>none
   | _=>none
  | _=>none) else match V6 nt F o.dst (.lit undef)with
   | some F1=>QC P E nt ops.toList rest F1 H k
   | none=>none
def NR:Code->Frm->Heap->(Ex->Frm->Heap->Option (List (Value×aH ks)×α))->(Ex->Frm->Heap->Option Unit)->Option (List (Value×aH ks)×α)
 | .skip,F,H,k,_=>k .normal F H
 | .label _,F,H,k,_=>k .normal F H
 | .region _ ops draw,F,H,k,kx=>match a9G ops.toList 0 with
  | none=>bif XU ops then HW P E nt ops draw F H λF H=>aAP aV F λF=>k .normal F H else none
  | some s=>bif aL9 ops s then match ops.toList.drop s with
   | o::rest=>bif rest.all (λo=>!aSH o.op) then
     (bif draw then HW P E nt (ops.toList.take s).toArray true F H else QC P E nt ops.toList (ops.toList.take s) F H) λF H =>
      bBF P E nt ks ops o rest F H (λF H=>aAP aV F λF=>k .normal F H) (λF H=>kx .normal F H)
    else none
   | []=>none
   else none
 | .seq a b,F,H,k,kx=>NR a F H (λex F H=>match ex with
  | .normal=>NR b F H k kx
  | .exit i=>k (.exit i) F H
  | .ret=>k .ret F H) (λex F H=>match ex with
  | .normal=>E7 P E nt aV lt (λ_=>none) true [] b F H kx
  | .exit i=>kx (.exit i) F H
  | .ret=>kx .ret F H)
 | .cond c a b,F,H,k,kx=>match ev F c with
  | .lit (.bool t)=>aZ8 F c t λF t=>bif t then NR a F H k kx else NR b F H k kx
  | _=>none
 | .block id a,F,H,k,kx=>NR a F H (λex F H=>match ex with
  | .exit i=>bif Nat.beq i id then k .normal F H else k (.exit i) F H
  | .normal=>k .normal F H
  | .ret=>k .ret F H) (λex F H=>match ex with
  | .exit i=>bif Nat.beq i id then kx .normal F H else kx (.exit i) F H
  | .normal=>kx .normal F H
  | .ret=>kx .ret F H)
 | .loop a,F,H,k,_=>match li (cH a)with
  | some s=>match DF [] s.sh F H with
   | some x=>a1L (s.run x) λz=>aYQ s.exits z k
   | none=>none
  | none=>match lt (cH a)with
   | some s=>match DF [] s.sh F H with
    | some x=>aC (s.run x) λz=>aYQ s.exits z k
    | none=>none
   | none=>none
 | .exit id,F,H,k,_=>k (.exit id) F H
 | .ret,F,H,k,_=>k .ret F H
 | _,_,_,_,_=>none
end
def a86:Ex->Frm->Heap->Option Unit:=λex _ _=>match ex with
 | .ret=>some ()
 | _=>none
def a3V {Y:Type}(sh:List (Nat×Kd))(exits:List (Ex×List (Nat×Kd)))(ex:Ex)(F:Frm)(H:Heap):Option (List Y×(Shape.den sh⊕aW exits)):=match aKE [] sh exits ex F H with
 | some z=>some ([],z)
 | none=>none
def a5M(P:Program) (E:Env) (nt aV:Nat) (lt:Nat->Option b9) (ks:List Kd) (li:Nat->Option (ZE (Value×aH ks))) (a:Code) (sh:List (Nat×Kd)) (exits:List (Ex×List (Nat×Kd))) (x:Shape.den sh):Option (List (Value×aH ks)×(Shape.den sh⊕aW exits)) :=
 NR P E nt aV lt ks li a (CC sh x 0) (LX sh x) (a3V sh exits) a86
def aK9 {Y σ τ:Type}(step:σ->Option (List Y×(σ⊕τ))):Nat->σ->Option (List Y×τ)
 | 0,_=>none
 | n+1,x=>match step x with
  | some (l,.inl y)=>outs l (aK9 step n y)
  | some (l,.inr z)=>some (l,z)
  | none=>none
theorem aJH {Y α:Type}{l:List Y}{r:Option (List Y×α)}{m:List Y}{z:α}(h:outs l r=some (m,z)):∃ m',r=some (m',z)/\m=l++m':=by
 cases r with
 | none=>cases h
 | some p =>
  obtain⟨m',z'⟩:=p;simp only[outs,oJ,oP]at h;obtain⟨h1,h2⟩:=h;subst h2;exact⟨m',rfl,h1.symm⟩
section
variable {P:Program} {E:Env} {nt aV:Nat} {lt:Nat->Option b9} {ks:List Kd} {li:Nat->Option (ZE (Value×aH ks))}
variable {Φ:(Nat->Prop)->(Nat->Prop)->World->Prop} {G0 G G':Gd} {μ μ':Mp} {H H':Heap} {A A' W:World} {F F':Frm} {n:Nat} {a:Act}
theorem Sg.a32 (h:Sg Φ G0 G μ H A):∃ n0,aU n0 G μ H A/\(∀ b,G0 b->G b)/\∀ A' G' μ' H',Ext n0 A G aL A' G' μ'->aU n0 G' μ' H' A'->Sg Φ G0 G' μ' H' A':=by
 obtain⟨T,X,B,GB,μB,h1,h2,h3,h4,h5,h6,h7⟩:=h;refine⟨_,h7,λb hb=>(h6.good b (h5 b hb)).1,λA' G' μ' H' e w=>⟨T,X,B,GB,aL,h1,h2,h3,h4,h5,?_,w⟩⟩;have h6':Ext (λb=>X b\/B.heap.size<=b) B GB aL A G aL:=h6.plain;exact h6'.trans e
theorem a00 {c:Code} {r:Ex×Frm×Heap} (h:aVT P nt true [] c F H r) {Q:Exit->Act->World->Prop} (hS:Sg Φ G0 G μ H A) (hF:jD A G μ nt F a)
  (hQ:∀ G' μ' a' A',Sg Φ G0 G' μ' r.2.2 A'->jD A' G' μ' nt r.2.1 a'->Q r.1.to a' A'):c.wpIn Fence.wide n P Q a A:=by
 obtain⟨n0,hW,_,hS2⟩:=hS.a32;have e0:Ext n0 A G aL A G μ:={ good:=λ_ h=>⟨h,rfl⟩,map:=λ_ _ h=>(by cases h),len:=λ_ _ h=>(by cases h),room:=λ_ _ h=>h,row:=λ_ _ h=>h,os:=rfl,tape:=rfl,output:=rfl,size:=Nat.le_refl _,old:=λ_ _ _=>rfl,new:=λ_ h=>.inl h };refine wpIn_mono (h none n n0 A G aL a A (λh=>(by cases h)) (λr _=>⟨rfl,rfl⟩) ⟨G,μ,e0,hW,hF.same,by rw[hF.defers]; trivial⟩) ?_;rintro e a' w' ⟨rfl,⟨G',μ',e',hW',hF',_⟩,hd⟩
 refine hQ G' μ' a' w' (hS2 _ _ _ _ e' hW') ⟨hF'.size,hF'.slot,?_⟩;rw[hd rfl]; exact hF.defers
def bB7(P:Program) (ks:List Kd) (l:Nat) (G0:Gd) (all:List (aH ks)) (J Jx:List (aH ks)->(Nat->Prop)->(Nat->Prop)->World->Prop):Prop :=
 ∀ pre e post T X B T' X' A us Gx m',all=pre++e::post->J pre T X B->Stp X B A->(∀ b,T' b->(T b\/B.heap.size<=b)/\b<A.heap.size)->(∀ b,X' b->T' b/\(X b\/B.heap.size<=b)) ->
   (∀ b,Gx b->(G0 b\/T' b)/\¬ X' b)->VRs A (Gd.of Gx) aL (pA ks e) us ->
   YieldAt Fence.wide m' P l us.toArray A λen C =>
    ((∀ b,b<A.heap.size->G0 b\/T' b->C.heap[b]?=A.heap[b]?)/\(∀ b n,Room A b n->Room C b n)/\A.heap.size<=C.heap.size)/\((en=.returned (.bool true)/\J (pre++[e]) T' X' C)\/(en=.returned (.bool false)/\Jx (pre++[e]) T' X' C))
def a5B(P:Program) (nt:Nat) (ks:List Kd) (c:Code) (F:Frm) (H:Heap) (ys:List (Value×aH ks)) (r:Ex×Frm×Heap) (kx:Ex->Frm->Heap->Option Unit):Prop :=
 ∀ (l:Nat) (yv:Value),yv=.func (.yield l) #[] #[]->∀ (G0:Gd) (all:List (aH ks)) (J Jx:List (aH ks)->(Nat->Prop)->(Nat->Prop)->World->Prop),bB7 P ks l G0 all J Jx ->
  ∀ (pre post:List (aH ks)) (n:Nat) (a:Act) (A:World) (G:Gd) (μ:Mp),all=pre++(ys.map (·.2)++post)->(∀ y∈ys,y.1=yv)->Sg (J pre) G0 G μ H A->jD A G μ nt F a ->
  c.wpIn Fence.wide n P (λe a' A'=>(e=r.1.to/\∃ G' μ',Sg (J (pre++ys.map (·.2))) G0 G' μ' r.2.2 A'/\jD A' G' μ' nt r.2.1 a') \/
   (∃ ex' F' H' pre' G' μ',kx ex' F' H'=some ()/\e=ex'.to/\Sg (Jx pre') G0 G' μ' H' A'/\jD A' G' μ' nt F' a')) a A
def a1K(P:Program) (nt:Nat) (ks:List Kd) (a:Code) (s:ZE (Value×aH ks)):Prop :=
 ∀ x ys z,s.run x=some (ys,z)->a5B P nt ks (.loop a) (CC s.sh x 0) (LX s.sh x) ys (FZ s.exits z) a86
def aOA(P:Program)(nt:Nat)(lt:Nat->Option b9)(ks:List Kd)(li:Nat->Option (ZE (Value×aH ks))):Code->Prop
 | .loop a=>(∀ s,lt (cH a)=some s->XB P nt true [] (.loop a) s)/\(∀ s,li (cH a)=some s->a1K P nt ks a s)
 | _=>True
theorem V9 {c:Code}{r:Ex×Frm×Heap}{kx:Ex->Frm->Heap->Option Unit}(h:aVT P nt true [] c F H r):a5B P nt ks c F H [] r kx:=by
 intro l yv hyv G0 all J Jx hY pre post n a A G μ hall hys hS hF;refine a00 h hS hF λG' μ' a' A' hS' hF'=>.inl ⟨rfl,G',μ',?_,hF'⟩
 rw[List.map_nil,List.append_nil]; exact hS'
theorem aSX(hcl:fJ P (gY P E))(hP:P.follows .mixedOrders=true){α:Type}{id:Nat}{ops:Array Oper}{draw:Bool}{k:Ex->Frm->Heap->Option α}{z:α}(h:HW P E nt ops draw F H (λF H=>aAP aV F λF=>k .normal F H)=some z)(hd:XU ops=true) :
  ∃ r:Ex×Frm×Heap,k r.1 r.2.1 r.2.2=some z/\aVT P nt true [] (.region id ops draw) F H r:=by
 obtain⟨F1,H1,h1,h2⟩:=aMU (id:=id) hcl hP hd h;obtain⟨F2,h3,h4⟩:=QO aV F1 λF=>k .normal F H1
 rw[h3]at h1;exact⟨(.normal,F2,H1),h1,λ_ _ _ _ _ _ _ _ _ _ hI=>h2 hI λa' w' hd' hI'=>⟨rfl,hI'.a8O h4,λ_=>hd'⟩⟩
theorem aN8(hcl:fJ P (gY P E)) {ops:Array Oper} {l:List Oper} (hrun:U9 P (gY P E) nt ops.toList l F H=some (F',H')) (hnd:(l.all λo=>!aSH o.op)=true) {Q:Exit->Act->World->Prop}
  (hS:Sg Φ G0 G μ H A) (hF:jD A G μ nt F a) (hQ:∀ G' μ' a' A',Sg Φ G0 G' μ' H' A'->jD A' G' μ' nt F' a'->Q .normal a' A'):wpListIn Fence.wide n P ops Q l a A:=by
 obtain⟨n0,hW,_,hS2⟩:=hS.open_;have h1:=FV (Q:=λe a' w'=>e=.normal/\I n0 A G μ nt F' H' a' w') hcl l F H a A hrun ⟨G,μ,Ext.refl _ _ _ _,hW,hF⟩ (λa' w' h=>⟨rfl,h⟩);have h2:=aHD (ro:=none) (n:=n) (ds:=[]) (Q':=Q) (λa w h=>by cases h.1) (λe a' w' h=>by
  obtain⟨rfl,G',μ',e,hW',hF'⟩:=h;have e1:zP [] a'=a':=by simp[zP]
  rw[e1];exact hQ G' μ' a' w' (hS2 _ _ _ _ e hW') hF') (λo ho c hc=>by
  have:=List.all_eq_true.1 hnd o ho;rw[hc]at this;cases this) h1
 have e1:zP [] a=a:=by simp[zP]
 rw[e1]at h2;exact h2
theorem a29(hcl:fJ P (gY P E)) (hP:P.follows .mixedOrders=true) {α:Type} {id s:Nat} {ops:Array Oper} {draw:Bool} (hsp:aL9 ops s=true) {k:Frm->Heap->Option α} {z:α}
  (h:(bif draw then HW P E nt (ops.toList.take s).toArray true F H else QC P E nt ops.toList (ops.toList.take s) F H) k=some z) :
  ∃ F1 H1,k F1 H1=some z/\∀ {Φ:(Nat->Prop)->(Nat->Prop)->World->Prop} {G0 G:Gd} {μ:Mp} {A:World} {a:Act} {n:Nat} {Q:Exit->Act->World->Prop},Sg Φ G0 G μ H A->jD A G μ nt F a ->
   (∀ G' μ' a' A',Sg Φ G0 G' μ' H1 A'->jD A' G' μ' nt F1 a'->wpListIn Fence.wide n P ops Q (ops.toList.drop s) a' A')->(Code.region id ops draw).wpIn Fence.wide n P Q a A:=by
 obtain⟨F1,H1,hrun,hk⟩:∃ F1 H1,(bif draw then XS P (gY P E) nt (ops.toList.take s).toArray F H else U9 P (gY P E) nt ops.toList (ops.toList.take s) F H)=some (F1,H1)/\k F1 H1=some z:=by
  cases draw with
  | true =>
   simp only[oC]at h ⊢;exact YP h
  | false =>
   simp only[oD]at h ⊢;obtain⟨F1,H1,h2,h3⟩:=CW h;exact⟨F1,H1,h2,h3⟩
 refine⟨F1,H1,hk,?_⟩;intro Φ G0 G μ A a n Q hS hF hQ;obtain⟨n0,hW,_,hS2⟩:=hS.open_;have:=aS2 (ro:=none) (n:=n) (ds:=[]) (Q:=Q) hcl hP (id:=id) hsp hrun (n0:=n0) (wi:=A) (Gi:=G) (μi:=μ) (a:=a) (w:=A) ⟨G,μ,Ext.refl _ _ _ _,hW,hF⟩ (λa' w' h=>by
  obtain⟨G',μ',e,hW',hF'⟩:=h;have e1:zP [] a'=a':=by simp[zP]
  rw[e1];exact hQ G' μ' a' w' (hS2 _ _ _ _ e hW') hF')
 have e1:zP [] a=a:=by simp[zP]
 rw[e1]at this;exact this
theorem a33 {l:List Operand}(hF:jD A G μ nt F a):VRs A G μ (l.map (ev F)) (l.map a.eval):=by
 induction l with
 | nil=>rw[List.map_nil,List.map_nil,VRs]
 | cons x l ih =>
  rw[List.map_cons,List.map_cons,VRs];exact⟨_,_,rfl,dM hF x,ih⟩
theorem B2 {α:Type}(hcl:fJ P (gY P E))(hP:P.follows .mixedOrders=true):∀ (c:Code) (F:Frm) (H:Heap) (k:Ex->Frm->Heap->Option (List (Value×aH ks)×α)) (kx:Ex->Frm->Heap->Option Unit) (ys:List (Value×aH ks)) (z:α),
  (∀ F H,kx .ret F H=some ())->(∀ a∈jN c,aOA P nt lt ks li a)->NR P E nt aV lt ks li c F H k kx=some (ys,z) ->
  ∃ ys1 ys2 r,k r.1 r.2.1 r.2.2=some (ys2,z)/\ys=ys1++ys2/\a5B P nt ks c F H ys1 r kx
 | .skip,F,H,k,kx,ys,z,hx,hl,h=>⟨[],ys,(.normal,F,H),h,rfl,V9 λ_ _ _ _ _ _ _ _ _ _ hI=>wpIn_skip ⟨rfl,hI,λ_=>rfl⟩⟩
 | .label l,F,H,k,kx,ys,z,hx,hl,h=>⟨[],ys,(.normal,F,H),h,rfl,V9 λ_ _ _ _ _ _ _ _ _ _ hI=>wpIn_label ⟨rfl,hI,λ_=>rfl⟩⟩
 | .exit id,F,H,k,kx,ys,z,hx,hl,h=>⟨[],ys,(.exit id,F,H),h,rfl,V9 λ_ _ _ _ _ _ _ _ _ _ hI=>wpIn_exit ⟨rfl,hI,λ_=>rfl⟩⟩
 | .ret,F,H,k,kx,ys,z,hx,hl,h=>⟨[],ys,(.ret,F,H),h,rfl,V9 λ_ _ _ _ _ _ _ _ _ _ hI=>wpIn_ret ⟨rfl,hI,λ_=>rfl⟩⟩
 | .region id ops draw,F,H,k,kx,ys,z,hx,hl,h=>by
  simp only[NR]at h;split at h
  ·obtain⟨hd,h⟩:=aM h;obtain⟨r,h1,h2⟩:=aSX (id:=id) hcl hP h hd;exact⟨[],ys,r,h1,rfl,V9 h2⟩
  ·rename_i s hs;obtain⟨hsp,h⟩:=aM h;split at h
   ·rename_i o rest hdrop;obtain⟨hnd,h⟩:=aM h;obtain⟨F1,H1,hk,hsplit⟩:=a29 (id:=id) hcl hP hsp h;unfold bBF at hk;obtain⟨b,hg,hk⟩:=aKF hk;cases b with
    | true =>
     simp only[oC]at hk;split at hk
     ·rename_i c hoc;split at hk
      ·rename_i f hcf;split at hk
       ·rename_i yv hyv;obtain⟨hnr,hk⟩:=aM hk;rw[oA]at hnr;obtain⟨hnr,hplk⟩:=hnr;split at hk
        ·rename_i e he;split at hk
         ·rename_i F2 F3 hp2 hp3;split at hk
          ·rename_i u hstop;obtain⟨ys2,hlive,rfl⟩:=aJH hk;obtain⟨F4,H4,hrun4,hk4⟩:=CW hlive;obtain⟨F5,H5,hrun5,hk5⟩:=CW hstop;obtain⟨F6,h6,h7⟩:=QO aV F4 λF=>k .normal F H4
           rw[h6]at hk4;refine⟨[(yv,e)],ys2,(.normal,F6,H4),hk4,rfl,?_⟩;intro l yv' hyv' G0 all J Jx hY pre post n a A G μ hall hys hS hF;have hyy:=hys _ (List.mem_singleton.2 rfl);dsimp only at hyy;subst hyy;refine hsplit hS hF λG1 μ1 a1 A1 hS1 hF1=>?_
           rw[hdrop];have hw:=DL hF1 hg;have hv:=a33 (l:=c.args.toList) hF1;have hv0:=dU _ _ hnr hv;have hve:=JJ ks he hv0;have hfe:=dM hF1 f;rw[hyv,VR]at hfe;have hall':all=pre++e::post:=by rw[hall]; rfl
           refine a6Y hoc hcf hw (hfe.trans hyv') (us:=(c.args.toList.map a1.eval).toArray) (by rw[<- Array.toList_map]) (λm'=>hS1.yield hY hall' hve (aPD ks e hplk) m') ?_;rintro en C ⟨hmo,hout⟩;rcases hout with ⟨rfl,hS2⟩|⟨rfl,hS2⟩
           ·refine⟨_,rfl,aN8 hcl hrun4 hnd hS2 ((hF1.mono hmo).aPA hp2 (by rw[VR])) λG2 μ2 a2 A2 hS3 hF3=>.inl ⟨rfl,G2,μ2,hS3,?_⟩⟩;exact⟨hF3.size,λt=>by
             rcases h7 t with h8|h8
             ·rw[h8]; exact hF3.slot t
             ·rw[h8,VR]; trivial,hF3.defers⟩
           ·exact⟨_,rfl,aN8 hcl hrun5 hnd hS2 ((hF1.mono hmo).aPA hp3 (by rw[VR])) λG2 μ2 a2 A2 hS3 hF3=>.inr ⟨.normal,F5,H5,_,G2,μ2,hk5,rfl,hS3,hF3⟩⟩
          ·cases hk
         ·cases hk
        ·cases hk
       ·cases hk
      ·cases hk
     ·cases hk
    | false =>
     simp only[oD]at hk;split at hk
     ·rename_i F2 hp2;obtain⟨F4,H4,hrun4,hk4⟩:=CW hk;obtain⟨F6,h6,h7⟩:=QO aV F4 λF=>k .normal F H4
      rw[h6]at hk4;refine⟨[],ys,(.normal,F6,H4),hk4,rfl,?_⟩;intro l yv' hyv' G0 all J Jx hY pre post n a A G μ hall hys hS hF;refine hsplit hS hF λG1 μ1 a1 A1 hS1 hF1=>?_
      rw[hdrop];refine a8G (DL hF1 hg) (aN8 hcl hrun4 hnd hS1 (hF1.aPA hp2 (by rw[VR])) λG2 μ2 a2 A2 hS3 hF3=>.inl ⟨rfl,G2,μ2,?_,?_⟩)
      ·rw[List.map_nil,List.append_nil]; exact hS3
      ·exact⟨hF3.size,λt=>by
        rcases h7 t with h8|h8
        ·rw[h8]; exact hF3.slot t
        ·rw[h8,VR]; trivial,hF3.defers⟩
     ·cases hk
   ·cases h
 | .seq x y,F,H,k,kx,ys,z,hx,hl,h=>by
  simp only[NR]at h;obtain⟨ys1,ys2,⟨ex,F1,H1⟩,h1,rfl,h2⟩:=B2 hcl hP x F H _ _ ys z (by intro F H; exact hx F H) (λa ha=>hl a (by simp[jN,ha])) h;have stop:∀ {l:Nat} {yv:Value} {G0:Gd} {all:List (aH ks)} {J Jx:List (aH ks)->(Nat->Prop)->(Nat->Prop)->World->Prop} {n:Nat} {R:Exit->Act->World->Prop},
    (∀ e a' A',(∃ ex' F' H' pre' G' μ',kx ex' F' H'=some ()/\e=ex'.to/\Sg (Jx pre') G0 G' μ' H' A'/\jD A' G' μ' nt F' a')->R e a' A')->∀ ex' F' H' pre' G' μ' a' A',
    (match ex' with
     | Ex.normal=>E7 P E nt aV lt (λ_=>none) true [] y F' H' kx
     | Ex.exit i=>kx (Ex.exit i) F' H'
     | Ex.ret=>kx Ex.ret F' H')=some ()->Sg (Jx pre') G0 G' μ' H' A'->jD A' G' μ' nt F' a' ->
    Exit.then (y.wpIn Fence.wide n P R) R ex'.to a' A':=by
   intro l yv G0 all J Jx n R hR ex' F' H' pre' G' μ' a' A' hm hS hF;cases ex' with
   | normal =>
    obtain⟨r,h3,h4⟩:=pK hcl hP y F' H' kx () (λa ha=>by
     have:=hl a (by simp[jN,ha]);cases a with
     | loop b=>exact this.1
     | rangeFunc g ps as1 b=>intro h; cases h
     | _=>trivial) hm
    refine a00 h4 hS hF λG2 μ2 a2 A2 hS2 hF2=>hR _ _ _ ⟨r.1,r.2.1,r.2.2,pre',G2,μ2,h3,rfl,hS2,hF2⟩
   | exit i=>exact hR _ _ _ ⟨.exit i,F',H',pre',G',μ',hm,rfl,hS,hF⟩
   | ret=>exact hR _ _ _ ⟨.ret,F',H',pre',G',μ',hm,rfl,hS,hF⟩
  cases ex with
  | normal =>
   obtain⟨ys3,ys4,r,h3,rfl,h4⟩:=B2 hcl hP y F1 H1 k kx ys2 z hx (λa ha=>hl a (by simp[jN,ha])) h1;refine⟨ys1++ys3,ys4,r,h3,by rw[List.append_assoc],?_⟩;intro l yv hyv G0 all J Jx hY pre post n a A G μ hall hys hS hF;refine wpIn_seq (wpIn_mono (h2 l yv hyv G0 all J Jx hY pre (ys3.map (·.2)++post) n a A G μ (by rw[hall,List.map_append,List.append_assoc]) (λy hy=>hys y (List.mem_append_left _ hy)) hS hF) ?_)
   rintro e a' w' (⟨rfl,G',μ',hS',hF'⟩|⟨ex',F',H',pre',G',μ',hm,rfl,hS',hF'⟩)
   ·refine wpIn_mono (h4 l yv hyv G0 all J Jx hY (pre++ys1.map (·.2)) post n a' w' G' μ' (by rw[hall,List.map_append,List.append_assoc,List.append_assoc]) (λy hy=>hys y (List.mem_append_right _ hy)) hS' hF') ?_;rintro e a'' w'' (⟨rfl,G2,μ2,hS2,hF2⟩|hst)
    ·refine .inl ⟨rfl,G2,μ2,?_,hF2⟩;rw[List.map_append,<- List.append_assoc]; exact hS2
    ·exact .inr hst
   ·exact stop (l:=l) (yv:=yv) (all:=all) (J:=J) (λe a' A' h=>Or.inr h) ex' F' H' pre' G' μ' a' w' hm hS' hF'
  | exit i =>
   refine⟨ys1,ys2,(.exit i,F1,H1),h1,rfl,?_⟩;intro l yv hyv G0 all J Jx hY pre post n a A G μ hall hys hS hF;refine wpIn_seq (wpIn_mono (h2 l yv hyv G0 all J Jx hY pre post n a A G μ hall hys hS hF) ?_);rintro e a' w' (⟨rfl,G',μ',hS',hF'⟩|⟨ex',F',H',pre',G',μ',hm,rfl,hS',hF'⟩)
   ·exact .inl ⟨rfl,G',μ',hS',hF'⟩
   ·exact stop (l:=l) (yv:=yv) (all:=all) (J:=J) (λe a' A' h=>Or.inr h) ex' F' H' pre' G' μ' a' w' hm hS' hF'
  | ret =>
   refine⟨ys1,ys2,(.ret,F1,H1),h1,rfl,?_⟩;intro l yv hyv G0 all J Jx hY pre post n a A G μ hall hys hS hF;refine wpIn_seq (wpIn_mono (h2 l yv hyv G0 all J Jx hY pre post n a A G μ hall hys hS hF) ?_);rintro e a' w' (⟨rfl,G',μ',hS',hF'⟩|⟨ex',F',H',pre',G',μ',hm,rfl,hS',hF'⟩)
   ·exact .inl ⟨rfl,G',μ',hS',hF'⟩
   ·exact stop (l:=l) (yv:=yv) (all:=all) (J:=J) (λe a' A' h=>Or.inr h) ex' F' H' pre' G' μ' a' w' hm hS' hF'
 | .cond c x y,F,H,k,kx,ys,z,hx,hl,h=>by
  simp only[NR]at h;split at h
  ·rename_i t ht;replace h:=XH h ht;have hc:∀ {A:World} {G:Gd} {μ:Mp} {a:Act},jD A G μ nt F a->a.eval c=.bool t:=λ{A G μ a} hF=>by
    have hc:=dM hF c;rw[ht,VR]at hc;exact hc
   cases t with
   | true =>
    obtain⟨ys1,ys2,r,h3,h4,h5⟩:=B2 hcl hP x F H k kx ys z hx (λa ha=>hl a (by simp[jN,ha])) h;exact⟨ys1,ys2,r,h3,h4,λl yv hyv G0 all J Jx hY pre post n a A G μ hall hys hS hF=>wpIn_cond (hc hF) (h5 l yv hyv G0 all J Jx hY pre post n a A G μ hall hys hS hF)⟩
   | false =>
    obtain⟨ys1,ys2,r,h3,h4,h5⟩:=B2 hcl hP y F H k kx ys z hx (λa ha=>hl a (by simp[jN,ha])) h;exact⟨ys1,ys2,r,h3,h4,λl yv hyv G0 all J Jx hY pre post n a A G μ hall hys hS hF=>wpIn_cond (hc hF) (h5 l yv hyv G0 all J Jx hY pre post n a A G μ hall hys hS hF)⟩
  ·cases h
 | .block id x,F,H,k,kx,ys,z,hx,hl,h=>by
  simp only[NR]at h;obtain⟨ys1,ys2,⟨ex,F1,H1⟩,h1,rfl,h2⟩:=B2 hcl hP x F H _ _ ys z (by intro F H; exact hx F H) (λa ha=>hl a (by simp[jN,ha])) h;have stop:∀ (ex':Ex) (F':Frm) (H':Heap),(match ex' with
     | Ex.exit i=>bif Nat.beq i id then kx .normal F' H' else kx (.exit i) F' H'
     | Ex.normal=>kx Ex.normal F' H'
     | Ex.ret=>kx Ex.ret F' H')=some ()->∃ ex2:Ex,kx ex2 F' H'=some ()/\∀ (Q:Exit->Act->World->Prop) a w,Q ex2.to a w->ex'.to.inBlock id Q a w:=by
   intro ex' F' H' hm;cases ex' with
   | normal=>exact⟨.normal,hm,λQ a w h=>h⟩
   | ret=>exact⟨.ret,hm,λQ a w h=>h⟩
   | exit i =>
    simp only at hm;cases hi:Nat.beq i id with
    | true =>
     rw[hi]at hm;have:=oE hi;subst this;exact⟨.normal,hm,λQ a w h=>by simp only[Ex.to,Exit.inBlock,if_true]; exact h⟩
    | false =>
     rw[hi]at hm;have hne:¬ i=id:=λe=>by rw[e]at hi; simp at hi
     exact⟨.exit i,hm,λQ a w h=>by simp only[Ex.to,Exit.inBlock,hne,if_false]; exact h⟩
  have live:∃ ex2:Ex,k ex2 F1 H1=some (ys2,z)/\∀ (Q:Exit->Act->World->Prop) a w,Q ex2.to a w->ex.to.inBlock id Q a w:=by
   cases ex with
   | normal=>exact⟨.normal,h1,λQ a w h=>h⟩
   | ret=>exact⟨.ret,h1,λQ a w h=>h⟩
   | exit i =>
    simp only at h1;cases hi:Nat.beq i id with
    | true =>
     rw[hi]at h1;have:=oE hi;subst this;exact⟨.normal,h1,λQ a w h=>by simp only[Ex.to,Exit.inBlock,if_true]; exact h⟩
    | false =>
     rw[hi]at h1;have hne:¬ i=id:=λe=>by rw[e]at hi; simp at hi
     exact⟨.exit i,h1,λQ a w h=>by simp only[Ex.to,Exit.inBlock,hne,if_false]; exact h⟩
  obtain⟨ex2,hk2,hex2⟩:=live;refine⟨ys1,ys2,(ex2,F1,H1),hk2,rfl,?_⟩;intro l yv hyv G0 all J Jx hY pre post n a A G μ hall hys hS hF;refine wpIn_block (wpIn_mono (h2 l yv hyv G0 all J Jx hY pre post n a A G μ hall hys hS hF) ?_);rintro e a' w' (⟨rfl,G',μ',hS',hF'⟩|⟨ex',F',H',pre',G',μ',hm,rfl,hS',hF'⟩)
  ·exact hex2 _ _ _ (Or.inl ⟨rfl,G',μ',hS',hF'⟩)
  ·obtain⟨ex3,h3,h4⟩:=stop ex' F' H' hm;exact h4 _ _ _ (Or.inr ⟨ex3,F',H',pre',G',μ',h3,rfl,hS',hF'⟩)
 | .loop x,F,H,k,kx,ys,z,hx,hl,h=>by
  simp only[NR]at h;have hsub:=hl (.loop x) (by simp[jN]);split at h
  ·rename_i s hs;split at h
   ·rename_i x0 hx0;unfold a1L at h;split at h
    ·rename_i ys1 z1 hr;obtain⟨ys2,h1,rfl⟩:=aJH h;refine⟨ys1,ys2,FZ s.exits z1,QW h1,rfl,?_⟩;intro l yv hyv G0 all J Jx hY pre post n a A G μ hall hys hS hF;obtain⟨n0,hW,_,hS2⟩:=hS.a32;have e0:Ext n0 A G aL A G μ:={ good:=λ_ h=>⟨h,rfl⟩,map:=λ_ _ h=>(by cases h),len:=λ_ _ h=>(by cases h),room:=λ_ _ h=>h,row:=λ_ _ h=>h,os:=rfl,tape:=rfl,output:=rfl,size:=Nat.le_refl _,old:=λ_ _ _=>rfl,new:=λ_ h=>.inl h }
     obtain⟨G1,μ1,e1,hW1,hF1⟩:=JP hx0 (λr _=>⟨rfl,rfl⟩) (⟨G,μ,e0,hW,hF⟩:I n0 A G aL nt F H a A);refine wpIn_mono (hsub.2 s hs x0 ys1 z1 hr l yv hyv G0 all J Jx hY pre post n a A G1 μ1 hall hys (hS2 _ _ _ _ e1 hW1) hF1) ?_;rintro e a' w' (h|⟨ex',F',H',pre',G',μ',hm,rfl,hS',hF'⟩)
     ·exact .inl h
     ·refine .inr ⟨ex',F',H',pre',G',μ',?_,rfl,hS',hF'⟩;cases ex' with
      | ret=>exact hx F' H'
      | normal=>cases hm
      | exit i=>cases hm
    ·cases h
   ·cases h
  ·split at h
   ·rename_i s hs;split at h
    ·rename_i x0 hx0;obtain⟨y,h1,h2⟩:=BA h;refine⟨[],ys,FZ s.exits y,QW h2,rfl,V9 λro n n0 wi Gi μi a w hro hfl hI=>?_⟩;exact hsub.1 s hs x0 y h1 ro n n0 wi Gi μi a w hro hfl (hI.dec hfl hx0)
    ·cases h
   ·cases h
 | .scope x,F,H,k,kx,ys,z,hx,hl,h=>by simp only[NR]at h; cases h
 | .rangeFunc g ps as1 x,F,H,k,kx,ys,z,hx,hl,h=>by simp only[NR]at h; cases h
 | .goto l,F,H,k,kx,ys,z,hx,hl,h=>by simp only[NR]at h; cases h
 | .refuse s,F,H,k,kx,ys,z,hx,hl,h=>by simp only[NR]at h; cases h
theorem aRI {Y:Type}{sh:List (Nat×Kd)}{exits:List (Ex×List (Nat×Kd))}{ex:Ex}{F:Frm}{H:Heap}{l:List Y}{y:Shape.den sh⊕aW exits}(h:a3V sh exits ex F H=some (l,y)):l=[]/\aKE [] sh exits ex F H=some y:=by
 unfold a3V at h;split at h
 ·rename_i z hz;simp only[oJ,oP]at h;obtain⟨h1,h2⟩:=h;subst h2;exact⟨h1.symm,hz⟩
 ·cases h
theorem a1G {F1:Frm} {H1:Heap} (hs:∀ {n0:Nat->Prop},I n0 A G aL nt F H a A->I n0 A G aL nt F1 H1 a A) (hS:Sg Φ G0 G μ H A) (hF:jD A G μ nt F a):∃ G' μ',Sg Φ G0 G' μ' H1 A/\jD A G' μ' nt F1 a:=by
 obtain⟨n0,hW,_,hS2⟩:=hS.a32;have e0:Ext n0 A G aL A G μ:={ good:=λ_ h=>⟨h,rfl⟩,map:=λ_ _ h=>(by cases h),len:=λ_ _ h=>(by cases h),room:=λ_ _ h=>h,row:=λ_ _ h=>h,os:=rfl,tape:=rfl,output:=rfl,size:=Nat.le_refl _,old:=λ_ _ _=>rfl,new:=λ_ h=>.inl h };obtain⟨G1,μ1,e1,hW1,hF1⟩:=hs ⟨G,μ,e0,hW,hF⟩;exact⟨G1,μ1,hS2 _ _ _ _ e1 hW1,hF1⟩
theorem aUY:∀ {l:List (Ex×List (Nat×Kd))} {z:aW l} {ex:Ex},UO [] l ex F H=some z->(FZ l z).1=ex/\∀ {n0:Nat->Prop},I n0 A G aL nt F H a A->I n0 A G aL nt (FZ l z).2.1 (FZ l z).2.2 a A:=by
 intro l z ex h;obtain⟨h1,sh,x,h2,h3,h4⟩:=QB h;refine⟨h1,λhI=>?_⟩;rw[h3,h4];exact JP h2 (λr _=>⟨rfl,rfl⟩) hI
theorem a43(hcl:fJ P (gY P E)) (hP:P.follows .mixedOrders=true) {b:Code} {sh:List (Nat×Kd)} {exits:List (Ex×List (Nat×Kd))} {step:Shape.den sh->Option (List (Value×aH ks)×(Shape.den sh⊕aW exits))} (L:Nat)
  (hl:∀ a∈jN b,aOA P nt lt ks li a) (hr:∀ x,a5M P E nt aV lt ks li b sh exits x=step x):a1K P nt ks b ⟨sh,exits,aK9 step L⟩:=by
 intro x ys z hz l yv hyv G0 all J Jx hY pre post n a A G μ hall hys hS hF;refine wpIn_loop_ghost (λk a A=>∃ pre1 ys1 x G μ,aK9 step k x=some (ys1,z)/\pre++ys.map (·.2)=pre1++ys1.map (·.2)/\(∀ y∈ys1,y.1=yv)/\Sg (J pre1) G0 G μ (LX sh x) A/\jD A G μ nt (CC sh x 0) a) L ⟨pre,ys,x,G,μ,hz,rfl,hys,hS,hF⟩ ?_;rintro k a1 A1 ⟨pre1,ys1,x,G,μ,hz,hpre,hys1,hS,hF⟩;cases k with
 | zero=>cases hz
 | succ k =>
  simp only[aK9]at hz;have hall1:all=pre1++(ys1.map (·.2)++post):=by rw[hall,<- List.append_assoc,hpre,List.append_assoc]
  split at hz
  ·rename_i m y hs;obtain⟨m2,hz2,rfl⟩:=aJH hz;rw[<- hr]at hs;obtain⟨y1,y2,⟨ex,F',H'⟩,h1,h2,h3⟩:=B2 hcl hP b _ _ _ a86 m _ (λ_ _=>rfl) hl hs;obtain⟨e1,h4⟩:=aRI h1;clear h1;subst e1;rw[List.append_nil]at h2;subst h2;refine wpIn_mono (h3 l yv hyv G0 all J Jx hY pre1 (m2.map (·.2)++post) n a1 A1 G μ (by rw[hall1,List.map_append,List.append_assoc]) (λy hy=>hys1 y (List.mem_append_left _ hy)) hS hF) ?_;rintro e a' A' (⟨rfl,G',μ',hS',hF'⟩|⟨ex',F',H',pre',G',μ',hm,rfl,hS',hF'⟩)
   ·rcases V7 h4 with ⟨y',e1,e2,e3⟩|⟨z',e1,_,_⟩
    ·cases e1;dsimp only at e2;subst e2;obtain⟨G2,μ2,hS2,hF2⟩:=a1G (λhI=>JP e3 (λr _=>⟨rfl,rfl⟩) hI) hS' hF';exact⟨k,by omega,_,m2,y,G2,μ2,hz2,by rw[hpre,List.map_append,List.append_assoc],λy hy=>hys1 y (List.mem_append_right _ hy),hS2,hF2⟩
    ·cases e1
   ·cases ex' with
    | ret=>exact .inr ⟨.ret,F',H',pre',G',μ',rfl,rfl,hS',hF'⟩
    | normal=>cases hm
    | exit i=>cases hm
  ·rename_i m y hs;simp only[oJ,oP]at hz;obtain⟨rfl,rfl⟩:=hz;rw[<- hr]at hs;obtain⟨y1,y2,⟨ex,F',H'⟩,h1,h2,h3⟩:=B2 hcl hP b _ _ _ a86 m _ (λ_ _=>rfl) hl hs;obtain⟨e1,h4⟩:=aRI h1;clear h1;subst e1;rw[List.append_nil]at h2;subst h2;refine wpIn_mono (h3 l yv hyv G0 all J Jx hY pre1 post n a1 A1 G μ hall1 hys1 hS hF) ?_;rintro e a' A' (⟨rfl,G',μ',hS',hF'⟩|⟨ex',F',H',pre',G',μ',hm,rfl,hS',hF'⟩)
   ·rcases V7 h4 with ⟨y',e1,e2,e3⟩|⟨z',e1,e2,e3⟩
    ·cases e1
    ·cases e1;dsimp only at e2 e3;obtain⟨h5,h6⟩:=aUY (A:=A') (G:=G') (a:=a') (nt:=nt) e3;obtain⟨G2,μ2,hS2,hF2⟩:=a1G (λhI=>h6 hI) hS' hF';have hout:(Exit.normal≠ex.to->True):=λ_=>trivial
     cases ex with
     | normal=>exact absurd rfl e2
     | exit i=>exact .inl ⟨by rw[h5],G2,μ2,by rw[hpre]; exact hS2,hF2⟩
     | ret=>exact .inl ⟨by rw[h5],G2,μ2,by rw[hpre]; exact hS2,hF2⟩
   ·cases ex' with
    | ret=>exact .inr ⟨.ret,F',H',pre',G',μ',rfl,rfl,hS',hF'⟩
    | normal=>cases hm
    | exit i=>cases hm
  ·cases hz
def a6M(P:Program) (E:Env) (fn:Func) (aV:Nat) (lt:Nat->Option b9) (ks:List Kd) (li:Nat->Option (ZE (Value×aH ks))) (c:Code) (ts:List Ty) (yv:Value) (x:SO ts):Option (List (Value×aH ks)) :=
 bif Nat.ble (1+(Y1 ts x).length) fn.ntmps then a7W (NR P E fn.ntmps aV lt ks li c (start aV 0 (.lit yv::Y1 ts x)) [] (λex _ _=>match ex with
  | .exit _=>none
  | _=>some ([],())) (λex _ _=>match ex with
  | .exit _=>none
  | _=>some ())) else none
theorem a8J(hP:SM P) (hE:bC P E) {g:Nat} {fn:Func} (hg:P.funcs[g]?=some fn) {c:Code} (hc:fn.body=some c) (hres:fn.results=#[]) {ts:List Ty} {f:SO ts->Option (List (aH ks))}
  (hl:∀ a∈jN c,aOA P fn.ntmps lt ks li a) (hb:∀ yv x all,f x=some all->a6M P E fn aV lt ks li c ts yv x=some (all.map λe=>(yv,e))):aNR P g ts ks f:=by
 intro x all hall m l W G vs hlt hvs J Jx hY hJ;obtain⟨yv,hyv⟩:∃ yv:Value,yv=.func (.yield l) #[] #[]:=⟨_,rfl⟩;have hbx:=hb yv x all hall;unfold a6M at hbx;obtain⟨hlen,hbx⟩:=aM hbx;unfold a7W at hbx;split at hbx
 ·rename_i l0 u hex;have hl0:=Option.some.inj hbx;obtain⟨ys1,ys2,⟨ex,F',H'⟩,h1,h2,h3⟩:=B2 hE.callee hP.mixed c _ _ _ _ _ _ (λ_ _=>rfl) hl hex;have hex:(ex=.normal\/ex=.ret)/\ys2=[]:=by
   cases ex with
   | exit i=>cases h1
   | normal =>
    simp only[oJ,oP]at h1;exact⟨.inl rfl,h1.1.symm⟩
   | ret =>
    simp only[oJ,oP]at h1;exact⟨.inr rfl,h1.1.symm⟩
  obtain⟨hex,rfl⟩:=hex;rw[List.append_nil]at h2;subst h2;have hys:∀ y∈l0,y.1=yv:=by
   intro y hy;rw[hl0]at hy;obtain⟨e,-,rfl⟩:=List.mem_map.1 hy;rfl
  have hmap:l0.map (·.2)=all:=by
   rw[hl0,List.map_map];exact List.map_id all
  refine callsIn_of_wp hg hc trivial ?_ rfl;have hargs:VRs W (Gd.of G) aL (.lit yv::Y1 ts x) ((#[.func (.yield l) #[] #[]]:Array Value)++vs.toArray).toList:=by
   rw[<- hyv];simp only[Array.toList_append,List.cons_append,List.nil_append];rw[VRs];exact⟨yv,vs,rfl,by rw[VR],hvs⟩
  have hF0:=E5 (m:=aV) (n:=fn.ntmps) hargs (by simpa[Nat.add_comm]using oL hlen);have hS0:Sg (J []) (Gd.of G) (Gd.of G) aL [] W:=Sg.start hlt hJ;have post:∀ (ex:Exit) (a:Act) (A:World),(ex=.normal\/ex=.ret)->a.defers=[]->∀ (T X:Nat->Prop) (B:World),Stp X B A->(J all T X B\/∃ pre,Jx pre T X B) ->
    bodyPost P fn (λen C=>(∃ v,en=.returned v)/\∃ T X B,Stp X B C/\(J all T X B\/∃ pre,Jx pre T X B)) ex a A:=by
   intro ex a A hex hd T X B hst hj;have hr:(results fn a.tmps).run P A=.ok (.tuple #[]) A:=by simp[results,hres]
   rcases hex with rfl|rfl
   ·exact⟨hd,_,hr,⟨_,rfl⟩,T,X,B,hst,hj⟩
   ·exact⟨hd,_,hr,⟨_,rfl⟩,T,X,B,hst,hj⟩
  refine wpIn_mono (h3 l yv hyv (Gd.of G) all J Jx hY [] [] m _ W (Gd.of G) aL (by rw[hmap]; simp) hys hS0 hF0) ?_;rintro e a' A' (⟨rfl,G',μ',hS',hF'⟩|⟨ex',F',H',pre',G',μ',hm,rfl,hS',hF'⟩)
  ·obtain⟨T,X,B,hst,hj⟩:=hS'.stp;rw[List.nil_append,hmap]at hj;refine post _ a' A' ?_ hF'.defers T X B hst (.inl hj);rcases hex with rfl|rfl
   ·exact .inl rfl
   ·exact .inr rfl
  ·obtain⟨T,X,B,hst,hj⟩:=hS'.stp;refine post _ a' A' ?_ hF'.defers T X B hst (.inr ⟨_,hj⟩);cases ex' with
   | normal=>exact .inl rfl
   | ret=>exact .inr rfl
   | exit i=>cases hm
 ·cases hbx
theorem a6V {a:Code}{i:Nat}{s0:ZE (Value×aH ks)}(hf:cH a=i)(hlt:lt i=none)(hli:li i=some s0)(h:a1K P nt ks a s0):aOA P nt lt ks li (.loop a):=by
 refine⟨λs hs=>?_,λs hs=>?_⟩
 ·rw[hf,hlt]at hs;cases hs
 ·rw[hf,hli]at hs;cases hs;exact h
def aMY(P:Program)(nt:Nat)(lt:Nat->Option b9)(ks:List Kd)(li:Nat->Option (ZE (Value×aH ks))):List Code->Prop
 | []=>True
 | c::r=>aOA P nt lt ks li c/\aMY P nt lt ks li r
theorem aIB:∀ {l:List Code},aMY P nt lt ks li l->∀ a∈l,aOA P nt lt ks li a
 | [],_,a,ha=>by cases ha
 | c::r,h,a,ha=>by
  rcases List.mem_cons.1 ha with rfl|ha
  ·exact h.1
  ·exact aIB h.2 a ha
theorem aV4 {c:Code}{l:List Code}(hc:jN c=l)(h:aMY P nt lt ks li l):∀ a∈jN c,aOA P nt lt ks li a:=by rw[hc]; exact aIB h
end
end Go.PM
namespace Go.PM
open Go
theorem aP(i:Int)(n:Nat):aI i n=decide (0<=i/\i<n):=by
 cases i with
 | ofNat m =>
  show Nat.blt m n=_;rw[cP]
  by_cases h:m<n
  ·rw[oT h,oT]; exact⟨Int.natCast_nonneg m,Int.ofNat_lt.2 h⟩
  ·rw[oF h,oF]; rintro⟨-,h2⟩; exact h (Int.ofNat_lt.1 h2)
 | negSucc m =>
  show false=_;rw[oF]; rintro⟨h,-⟩; exact absurd h (by omega)
theorem eI(m n:Nat):Nat.ble m n=decide (m<=n):=by
 cases h:Nat.ble m n with
 | true=>exact(oT (oL h)).symm
 | false =>
  refine(oF λhl=>?_).symm;rw[Nat.ble_eq_true_of_le hl]at h;cases h
theorem wrap64 {x:Int}(h1 : -9223372036854775808<=x)(h2:x<9223372036854775808):aB .i64 x=x:=by
 cases x with
 | ofNat m =>
  have:m<9223372036854775808:=by have:(m:Int)<9223372036854775808:=h2; omega
  unfold aB;simp only[cP,oT this,oC]
 | negSucc m =>
  have:m<9223372036854775808:=by omega
  unfold aB;simp only[cP,oT this,oC]
theorem cS(i:Nat)(h:i<9223372036854775807):aB .i64 ((i:Int)+1)=((i+1:Nat):Int):=by rw[wrap64 (by omega) (by omega)]; rfl
theorem XX {x:Int}(h1 : -9223372036854775808<=x)(h2:x<9223372036854775808):IntKind.wrap .i64 x=x:=by rw[<- WR]; exact wrap64 h1 h2
theorem aG7 {α:Type}(p:Prop) [Decidable p](a b:α):(bif decide p then a else b)=if p then a else b:=by by_cases h:p <;> simp[h]
theorem aE {τ α:Type}(x:τ)(k:τ->Option α):aC (some x) k=k x:=rfl
theorem a8N(p:Prop) [Decidable p]:(!decide p)=decide (¬ p):=by by_cases h:p <;> simp[h]
theorem FY {β γ α:Type}(z:β)(f:β->Option α)(g:γ->Option α):C5 (.inl z) f g=f z:=rfl
theorem nQ {β γ α:Type}(z:γ)(f:β->Option α)(g:γ->Option α):C5 (.inr z) f g=g z:=rfl
section
variable {σ τ:Type} {step:σ->Option (σ⊕τ)}
theorem iC(n:Nat)(x:σ):cE step (n+1) x=match step x with
  | some (.inl y)=>cE step n y
  | some (.inr z)=>some z
  | none=>none:=rfl
theorem aKD(F:Nat->σ)(k:Nat):∀ (m j:Nat),(∀ i,j<=i->i<j+m->step (F i)=some (.inl (F (i+1))))->cE step (m+k) (F j)=cE step k (F (j+m))
 | 0,j,_=>by rw[Nat.zero_add,Nat.add_zero]
 | m+1,j,h=>by
  rw[Nat.add_right_comm,iC,h j (Nat.le_refl _) (by omega)];show cE step (m+k) (F (j+1))=_;rw[aKD F k m (j+1) λi h1 h2=>h i (by omega) (by omega)]
  congr 2; omega
theorem bF {N:Nat} (F:Nat->σ) (m:Nat) (z:τ) (hN:m<N) (h:∀ i,i<m->step (F i)=some (.inl (F (i+1)))) (he:step (F m)=some (.inr z)):cE step N (F 0)=some z:=by
 obtain⟨k,rfl⟩:∃ k,N=m+(k+1):=⟨N-m-1,by omega⟩;rw[aKD F (k+1) m 0 (λi _ h2=>h i (by omega)),Nat.zero_add,iC,he]
end
open Go Go.RowKit
section
variable {P:Program} {n0:Nat->Prop} {w w':World} {G G':Gd} {μ μ1:Mp} {H H1:Heap}
def UU(μ μ1:Mp)(h:Nat):Mp:=⟨λr=>if r<h then μ.loc r else μ1.loc (r-h),λr=>if r<h then μ.len r else μ1.len (r-h)⟩
theorem DM {h r:Nat}(hr:r<h):(UU μ μ1 h).loc r=μ.loc r/\(UU μ μ1 h).len r=μ.len r:=by simp[UU,hr]
theorem DK {h r:Nat}(hr:h<=r):(UU μ μ1 h).loc r=μ1.loc (r-h)/\(UU μ μ1 h).len r=μ1.len (r-h):=by
 have:¬ r<h:=by omega
 simp[UU,this]
theorem aXI(hW:aU n0 G μ H w)(e:Ext (BX w) w G.bare aL w' G' μ1):Ext n0 w G μ w' (G'.with G) (UU μ μ1 H.length):={
 good:=e.good
 map:=λr b hr=>by
  rcases Nat.lt_or_ge r H.length with hl|hl
  ·rw[(DM hl).1]; exact hr
  ·rw[(hW.top r hl).1]at hr; cases hr
 len:=λr b hr=>by
  rcases Nat.lt_or_ge r H.length with hl|hl
  ·rw[(DM hl).2]; exact hr
  ·rw[(hW.top r hl).2]at hr; cases hr
 room:=e.room
 row:=λ_ _ h=>h
 os:=e.os
 tape:=e.tape
 output:=e.output
 size:=e.size
 old:=λb hb _=>e.old b hb (Nat.not_le.2 hb)
 new:=λb hb=>by
  rcases e.new b hb with h|h
  ·exact .inl h
  ·exact .inr (hW.base b h) }
theorem a2L(hW:aU n0 G μ H w)(e:Ext (BX w) w G.bare aL w' G' μ1)(h1:aU (BX w) G' μ1 H1 w')(ht:XL H1=true)(hp:∀ (r:Nat) (k:Blk),H1[r]?=some (some k)->gG.noRows k.cells=true/\∀ t l,k.tag≠some ⟨.rows t,l⟩):aU n0 (G'.with G) (UU μ μ1 H.length) (H++H1) w':=by
 have e':=aXI hW e;have key:∀ (r:Nat) (k:Blk),(H++H1)[r]?=some (some k)->(r<H.length/\H[r]?=some (some k))\/(H.length<=r/\H1[r-H.length]?=some (some k)):=by
  intro r k hr;rcases Nat.lt_or_ge r H.length with hl|hl
  ·rw[List.getElem?_append_left hl]at hr; exact .inl ⟨hl,hr⟩
  ·rw[List.getElem?_append_right hl]at hr; exact .inr ⟨hl,hr⟩
 refine⟨?_,?_,?_,h1.lt,?_,λb hb=>hW.base b (Nat.le_trans e.size hb),hW.rows.step e'.toMono.aL e.size (λ_=>rfl) (λj b hj=>?_) (λr k t l hr hg htg=>?_)⟩
 case refine_5 =>
  have hlt:=(hW.rows.sep j b hj).1;refine⟨e.old b hlt (Nat.not_le.2 hlt),λhg=>?_,λr k hr hf hl=>?_⟩
  ·rcases e.new b hg with h|h
   ·exact h
   ·exact absurd hlt (Nat.not_lt.2 h)
  ·rcases key r k hr with ⟨hl2,hr⟩|⟨hl2,hr⟩
   ·rw[(DM hl2).1]at hl; exact⟨r,k,hr,hf,hl⟩
   ·rw[(DK hl2).1]at hl;obtain⟨_,_,_,_,_,a5⟩:=h1.blk _ k b hr hl;exact absurd hlt (Nat.not_lt.2 (a5 hf).1)
 case refine_6 =>
  rcases key r k hr with ⟨hl2,hr⟩|⟨hl2,hr⟩
  ·exact⟨k,hr,rfl,rfl,rfl,(DM hl2).1⟩
  ·exact absurd htg ((hp _ k hr).2 t l)
 ·intro r k b hr hb;rcases key r k hr with ⟨hl,hr⟩|⟨hl,hr⟩
  ·rw[(DM hl).1]at hb;obtain⟨c,a1,a2,a3,a4,a5⟩:=hW.blk r k b hr hb;have hlt:=hW.qG hr hb;have ho:=e.old b hlt (Nat.not_le.2 hlt);refine⟨c,ho.trans a1,aO.mono e'.toMono ho 0 _ a2,a3,λhf=>(e.good b (a4 hf)).1,λhf=>⟨(a5 hf).1,λhg=>?_⟩⟩;rcases e.new b hg with h|h
   ·exact(a5 hf).2 h
   ·omega
  ·rw[(DK hl).1]at hb;obtain⟨c,a1,a2,a3,a4,a5⟩:=h1.blk _ k b hr hb;refine⟨c,a1,?_,a3,a4,λhf=>⟨hW.base b (a5 hf).1,(a5 hf).2⟩⟩;refine yA (G:=G') (G':=G'.with G) (λb h=>h) _ _ _ _ (hp _ k hr).1 ?_;rcases YU ht hr with hg|hg
   ·obtain⟨g,hg⟩:=Option.isSome_iff_exists.1 hg;have:=(h1.tags _ k g hr hg).1;rw[this]at a2 ⊢;exact sQ (lQ _ _) a2
   ·exact sQ hg a2
 ·intro r k g hr hg;rcases key r k hr with ⟨hl,hr⟩|⟨hl,hr⟩
  ·rw[(DM hl).2]; exact hW.tags r k g hr hg
  ·rw[(DK hl).2]; exact h1.tags _ k g hr hg
 ·intro r s k l b hr hs fk fl m1 m2;rcases key r k hr with ⟨hl,hr⟩|⟨hl,hr⟩ <;> rcases key s l hs with ⟨hl2,hs⟩|⟨hl2,hs⟩
  ·rw[(DM hl).1]at m1;rw[(DM hl2).1]at m2;exact hW.inj r s k l b hr hs fk fl m1 m2
  ·rw[(DM hl).1]at m1;rw[(DK hl2).1]at m2;obtain⟨_,_,_,_,_,a5⟩:=h1.blk _ l b hs m2;have:=hW.qG hr m1;have:=(a5 fl).1;omega
  ·rw[(DK hl).1]at m1;rw[(DM hl2).1]at m2;obtain⟨_,_,_,_,_,a5⟩:=h1.blk _ k b hr m1;have:=hW.qG hs m2;have:=(a5 fk).1;omega
  ·rw[(DK hl).1]at m1;rw[(DK hl2).1]at m2;have:=h1.inj _ _ k l b hr hs fk fl m1 m2;omega
 ·intro r hr;simp only[List.length_append]at hr;have hl:H.length<=r:=by omega
  rw[(DK hl).1,(DK hl).2];exact h1.top _ (by omega)
theorem a5S {r sz:Nat}{v:Value}(h:VR w' G' μ1 (.own r sz) v):VR w' G' (UU μ μ1 H.length) (.own (H.length+r) sz) v:=by
 have e:=DK (μ:=μ) (μ1:=μ1) (h:=H.length) (r:=H.length+r) (by omega);rw[VR]at h ⊢;rw[e.1,e.2,Nat.add_sub_cancel_left];exact h
def aVC(P:Program) (g:FuncId) (args:List Kd) (e:TypeId) (ty:Ty) (f:aH args->Option (List ty.den)):Prop :=
 ∀ x l,f x=some l->∀ {n0 G μ w us},aU n0 G μ [] w->VRs w G μ (pA args x) us->AA P n0 w G μ g us.toArray (.own 0 ty.size) [some ⟨aJ ty l,e,true,false,some ⟨ty,l⟩⟩]
def bB1(t:Nat)(e:TypeId)(ty:Ty)(ex:Ex)(F:Frm)(H:Heap):Option (List ty.den):=match ex with
 | .exit _=>none
 | _=>match TR [(t,.own e ty)] F H with
  | some x=>some x.1
  | none=>none
def aXC(P:Program)(E:Env)(fn:Func)(aV:Nat)(lt:Nat->Option b9)(c:Code)(args:List Kd)(t:Nat)(e:TypeId)(ty:Ty)(x:aH args):Option (List ty.den) :=
 bif Nat.ble (pA args x).length fn.ntmps then HC P E fn.ntmps aV lt c (start aV 0 (pA args x)) [] (bB1 t e ty) else none
theorem aSG {E:Env} (hP:SM P) (hE:bC P E) {g:Nat} {fn:Func} (hg:P.funcs[g]?=some fn) {c:Code} (hc:fn.body=some c) {aV:Nat} {lt:Nat->Option b9} {args:List Kd} {t:Nat} (hr:fn.results.toList=[.tmp t]) {e:TypeId} {ty:Ty} {f:aH args->Option (List ty.den)}
  (hl:∀ a∈cB c,∀ s,lt (cH a)=some s->cT P fn.ntmps a s) (hb:∀ x,aXC P E fn aV lt c args t e ty x=f x):aVC P g args e ty f:=by
 intro x l hy n0 G μ w us hW hv;rw[<- hb]at hy;unfold aXC at hy;obtain⟨hlen,hy⟩:=aM hy;obtain⟨⟨ex,F',H'⟩,h1,h2⟩:=rF hE.callee hP.mixed c _ _ _ _ hl hy;obtain⟨y,hex,hd,hyl⟩:∃ y,(ex=.normal\/ex=.ret)/\TR [(t,.own e ty)] F' H'=some y/\y.1=l:=by
  unfold bB1 at h1;split at h1
  ·cases h1
  ·rename_i hne;split at h1
   ·rename_i y hy;simp only[oJ]at h1;refine⟨y,?_,hy,h1⟩;cases ex with
    | normal=>exact .inl rfl
    | ret=>exact .inr rfl
    | exit i=>exact absurd rfl (hne i)
   ·cases h1
 obtain⟨yl,⟨⟩⟩:=y;dsimp only at hyl;subst hyl;refine⟨enters hg (hP.names g fn hg) (by rw[hc]; rfl) _ _,calls_of_wp hg hc ?_⟩;have hI:I n0 w G μ fn.ntmps (start aV 0 (pA args x)) [] ⟨us.toArray++Array.replicate (fn.ntmps-us.toArray.size) undef,[]⟩ w:=⟨G,μ,Ext.refl _ _ _ _,hW,E5 (by simpa using hv) (oL hlen)⟩;refine wp_mono (h2 n0 w G μ _ w (λr=>hW.top r (Nat.zero_le _)) hI) ?_;rintro e0 a' w' ⟨rfl,hI'⟩
 obtain⟨G',μ',e',hW',hF'⟩:=HF hd (λr=>hW.top r (Nat.zero_le _)) hI';have hvs:xW P (CC [(t,.own e ty)] (yl,()) 0) (LX [(t,.own e ty)] (yl,())) fn.results.toList=some [.own 0 ty.size]:=by
  rw[hr];simp[xW,aMG,CC,CK,eZ]
 obtain⟨ws,h3,h4⟩:=vC (P:=P) hW' hF' hvs;have hres:(results fn a'.tmps).run P w'=.ok (if hh:ws.toArray.size=1 then ws.toArray[0] else .tuple ws.toArray) w':=by
  rw[IE,Array.mapM_eq_mapM_toList];simp only[Sem.run_bind,Sem.run_map,h3,Result.andThen_ok,Sem.run_pure]
 have hpost:a'.defers=[]/\∃ v,(results fn a'.tmps).run P w'=.ok v w'/\(∃ v' G'' μ'',Ending.returned v=.returned v'/\Ext n0 w G μ w' G'' μ''/\aU n0 G'' μ'' (LX [(t,.own e ty)] (yl,())) w'/\VR w' G'' μ'' (.own 0 ty.size) v') :=
  ⟨hF'.defers,_,hres,_,G',μ',rfl,e',hW',zA h4⟩
 rcases hex with rfl|rfl
 ·exact hpost
 ·exact hpost
def a5F(args:List Kd) (e:TypeId) (ty:Ty) (f:aH args->Option (List ty.den)) (qs:List PV) (H:Heap):Option aN9 :=
 bif fI.noRefs qs&&(gG.noRows qs&&ty.plain) then match aQH args qs with
  | some x=>some ⟨List ty.den,f x,λl=>(.own H.length ty.size,H++[some ⟨aJ ty l,e,true,false,some ⟨ty,l⟩⟩])⟩
  | none=>none
 else none
theorem aSP {g:FuncId}{args:List Kd}{e:TypeId}{ty:Ty}{f:aH args->Option (List ty.den)}(hf:aVC P g args e ty f):xB P (g,a5F args e ty f):=by
 intro qs H r h y hy n0 G μ w vs hW hv;dsimp only at h;unfold a5F at h;obtain⟨hn,h⟩:=aJB h;split at h
 ·rename_i x hx;have h:=Option.some.inj h;subst h;simp only[oA]at hn;obtain⟨hn,hnr,hpl⟩:=hn;have hW0:aU (BX w) G.bare aL [] w:=⟨λr k b h=>by simp at h,λr k g h=>by simp at h,λr s k l b h=>by simp at h,hW.lt,λ_ _=>⟨rfl,rfl⟩,λ_ h=>h,uW.none _ _ (λ_=>rfl) _ _ (λr k h=>by simp at h)⟩;obtain⟨h1,h2⟩:=hf x y hy hW0 (JJ args hx (xR (G:=G) (G':=G.bare) (λb h=>h) _ _ _ hnr (dU _ _ hn hv)));refine⟨h1,h2.mono ?_⟩
  rintro e' w' ⟨v',G',μ1,rfl,e1,e2,e3⟩;refine⟨v',G'.with G,UU μ μ1 H.length,rfl,aXI hW e1,a2L hW e1 e2 rfl (λr k hr=>?_),?_⟩
  ·cases r with
   | zero =>
    simp only[List.getElem?_cons_zero,oJ]at hr;subst hr;exact⟨CM _ hpl _,λt l h=>by simp only[oJ,Tg.mk.injEq]at h; obtain⟨rfl,_⟩:=h; cases hpl⟩
   | succ r=>simp at hr
  have:=a5S (H:=H) (μ:=μ) e3;rw[VR]at this ⊢;simpa using this
 ·cases h
end
section
variable {P:Program} {n0:Nat->Prop} {w w':World} {G G':Gd} {μ μ1:Mp} {H H1:Heap}
theorem aWQ(hW:aU n0 G μ H w) {r:Nat} (hr:H[r]?=some none) (k:Blk) (hf:k.frozen=false) (hg:k.grown=true)
  (hblk:∀ b,μ.loc r=some b->(∃ c,w.heap[b]?=some (.cells c k.ty (0,0))/\aO w G μ b 0 k.cells)/\n0 b/\¬ G b/\(∀ s k1,H[s]?=some (some k1)->k1.frozen=false->μ.loc s≠some b)/\∀ j,G.row j≠some b)
  (htag:∀ g,k.tag=some g->k.cells=aJ g.t g.l/\μ.len r=some g.l.length):aU n0 G μ (H.set r (some k)) w:=by
 have hlt:r<H.length:=(List.getElem?_eq_some_iff.1 hr).1;have key:∀ s k1,(H.set r (some k))[s]?=some (some k1)->(s=r/\k1=k)\/(s≠r/\H[s]?=some (some k1)):=by
  intro s k1 hs
  by_cases e:r=s
  ·subst e;rw[List.getElem?_set_self hlt]at hs;exact .inl ⟨rfl,(Option.some.inj (Option.some.inj hs)).symm⟩
  ·rw[List.getElem?_set_ne e]at hs;exact .inr ⟨Ne.symm e,hs⟩
 refine⟨?_,?_,?_,hW.lt,λs hs=>hW.top s (by simpa using hs),hW.base,?_⟩
 ·intro s k1 b hs hb;rcases key s k1 hs with ⟨rfl,rfl⟩|⟨_,hs⟩
  ·obtain⟨⟨c,h1,h2⟩,h3,h4,_⟩:=hblk b hb;exact⟨c,h1,h2,λh=>(by rw[hg]at h; cases h),λh=>(by rw[hf]at h; cases h),λ_=>⟨h3,h4⟩⟩
  ·exact hW.blk s k1 b hs hb
 ·intro s k1 g hs h1;rcases key s k1 hs with ⟨rfl,rfl⟩|⟨_,hs⟩
  ·exact htag g h1
  ·exact hW.tags s k1 g hs h1
 ·intro s1 s2 k1 k2 b h1 h2 f1 f2 m1 m2;rcases key s1 k1 h1 with ⟨rfl,rfl⟩|⟨_,h3⟩
  ·rcases key s2 k2 h2 with ⟨rfl,rfl⟩|⟨_,h4⟩
   ·rfl
   ·exact absurd m2 ((hblk b m1).2.2.2.1 s2 k2 h4 f2)
  ·rcases key s2 k2 h2 with ⟨rfl,rfl⟩|⟨_,h4⟩
   ·exact absurd m1 ((hblk b m2).2.2.2.1 s1 k1 h3 f1)
   ·exact hW.inj s1 s2 k1 k2 b h3 h4 f1 f2 m1 m2
 ·refine⟨hW.rows.inj,?_,hW.rows.cel,?_,?_⟩
  ·intro j b hj;obtain⟨a1,a2,a3,a4⟩:=hW.rows.sep j b hj;refine⟨a1,a2,a3,λs k1 hs f1 m1=>?_⟩;rcases key s k1 hs with ⟨rfl,rfl⟩|⟨_,hs⟩
   ·exact(hblk b m1).2.2.2.2 j hj
   ·exact a4 s k1 hs f1 m1
  ·intro s k1 t l hs h1 h2;rcases key s k1 hs with ⟨rfl,rfl⟩|⟨_,hs⟩
   ·rw[hg]at h1; cases h1
   ·exact hW.rows.arn s k1 t l hs h1 h2
  ·intro s1 s2 k1 k2 t l t' l' h1 g1 t1 h2 g2 t2;rcases key s1 k1 h1 with ⟨rfl,rfl⟩|⟨_,h1⟩
   ·rw[hg]at g1; cases g1
   ·rcases key s2 k2 h2 with ⟨rfl,rfl⟩|⟨_,h2⟩
    ·rw[hg]at g2; cases g2
    ·exact hW.rows.one s1 s2 k1 k2 t l t' l' h1 g1 t1 h2 g2 t2
def aWR(P:Program) (g:FuncId) (e:TypeId) (t:Ty) (args:List Kd) (f:List t.den->aH args->Option (List t.den)):Prop :=
 ∀ l x l',f l x=some l'->∀ {n0 G μ H w us r},aU n0 G μ H w->H[r]?=some (some (owB e t l))->VRs w G μ (.own r t.size::pA args x) us->gG.noRows (pA args x)=true->AA P n0 w G μ g us.toArray (.tuple []) (H.set r (some (owB e t l')))
def SQ {t:Ty} {args:List Kd} (f:Unit->aH (.hnd t.size::args)->List (List t.den)->Option (aH []×List (List t.den))) (l:List t.den) (x:aH args):Option (List t.den):=match f () ((0,0,l.length),x) [l]with
 | some ((),[l'])=>bif Nat.beq l'.length l.length then some l' else none
 | _=>none
def a0C(P:Program) (g:FuncId) (e:TypeId) (t:Ty) (args rets:List Kd) (f:List t.den->aH args->Option (aH rets×List t.den)):Prop :=
 ∀ l x y l',f l x=some (y,l')->∀ {n0 G μ H w us r},aU n0 G μ H w->H[r]?=some (some (owB e t l))->VRs w G μ (.own r t.size::pA args x) us->gG.noRows (pA args x)=true->AA P n0 w G μ g us.toArray (aLN rets y) (H.set r (some (owB e t l')))
def aB4 {t:Ty} {args rets:List Kd} (f:Unit->aH (.hnd t.size::args)->List (List t.den)->Option (aH rets×List (List t.den))) (l:List t.den) (x:aH args):Option (aH rets×List t.den):=match f () ((0,0,l.length),x) [l]with
 | some (y,[l'])=>bif Nat.beq l'.length l.length then some (y,l') else none
 | _=>none
def a4E:List Kd->Bool
 | []=>true
 | [.bool]=>true
 | [.int _]=>true
 | _=>false
theorem a56 {rets:List Kd}(h:a4E rets=true)(y:aH rets){w:World}{G G':Gd}{μ μ':Mp}{v:Value}(hv:VR w G μ (aLN rets y) v):VR w G' μ' (aLN rets y) v:=by
 unfold a4E at h;split at h
 ·change VR w G μ (.tuple []) v at hv;change VR w G' μ' (.tuple []) v;rw[VR]at hv ⊢;obtain⟨vs,h1,h2⟩:=hv;rw[VRs]at h2;exact⟨vs,h1,by rw[VRs]; exact h2⟩
 ·obtain⟨b,⟨⟩⟩:=y;change VR w G μ (.lit (.bool b)) v at hv;change VR w G' μ' (.lit (.bool b)) v;rw[VR]at hv ⊢;exact hv
 ·rename_i k;obtain⟨b,⟨⟩⟩:=y;change VR w G μ (.lit (.int k b)) v at hv;change VR w G' μ' (.lit (.int k b)) v;rw[VR]at hv ⊢;exact hv
 ·cases h
theorem aON {g:FuncId} {e:TypeId} {t:Ty} {args rets:List Kd} {f:Unit->aH (.hnd t.size::args)->List (List t.den)->Option (aH rets×List (List t.den))} (hf:MZ P g e t .none (.hnd t.size::args) (.data rets) f) (hd:Q3 args=true) (hpl:t.plain=true) (hlr:a4E rets=true) (he:e≠O4:=by decide):a0C P g e t args rets (aB4 f):=by
 intro l x yy l' hy n0 G μ H w us r hW hk hv hnr;unfold aB4 at hy;split at hy
 ·rename_i y1 l1 hfl;obtain⟨hlen,hy⟩:=aM hy;obtain⟨rfl,rfl⟩:=Prod.mk.inj (Option.some.inj hy);have hlen:=oE hlen;have ht2:=(hW.tags r _ _ hk rfl).2;have hlt:r<H.length:=(List.getElem?_eq_some_iff.1 hk).1;obtain⟨rb,hrb⟩:∃ rb:Option Nat,rb=if l=[] then none else μ.loc r:=⟨_,rfl⟩
  have hrbl:∀ b,rb=some b->μ.loc r=some b/\l≠[]:=λb hb=>by
   rw[hrb]at hb;split at hb
   ·cases hb
   ·rename_i hne; exact⟨hb,hne⟩
  have hmine:∀ b,μ.loc r=some b->n0 b/\¬ G b:=λb hb=>by
   obtain⟨_,_,_,_,_,h6⟩:=hW.blk r _ b hk hb;exact h6 rfl
  have hrow:∀ j b,G.row j=some b->μ.loc r≠some b:=λj b hj=>(hW.rows.sep j b hj).2.2.2 r _ hk rfl
  obtain⟨u,us',rfl,q1,q2⟩:∃ u us',us=u::us'/\VR w G μ (.own r t.size) u/\VRs w G μ (pA args x) us':=by rw[VRs]at hv; exact hv
  have at0:∀ (s:Nat) (k1:Blk),([some (arB e t [l])]:Heap)[s]?=some (some k1)->s=0/\k1=arB e t [l]:=by
   intro s k1 hs;cases s with
   | zero=>simp only[List.getElem?_cons_zero,oJ]at hs; exact⟨rfl,hs.symm⟩
   | succ s=>simp at hs
  have hG0:∃ G0:Gd,G0=⟨G.ok,λj=>if j=0 then rb else none⟩:=⟨_,rfl⟩;obtain⟨G0,hG0⟩:=hG0;have hok:G0.ok=G.ok:=by rw[hG0]
  have hr0:∀ j b,G0.row j=some b->j=0/\rb=some b:=λj b hj=>by
   rw[hG0]at hj;dsimp only at hj;split at hj
   ·exact⟨‹_›,hj⟩
   ·cases hj
  have hW1:aU (λb=>w.heap.size<=b\/rb=some b) G0 ⟨λ_=>none,λs=>if s=0 then some 1 else none⟩ [some (arB e t [l])] w:=by
   refine⟨λs k1 b hs hb=>(by cases hb),?_,λs1 s2 k1 k2 b _ _ _ _ m=>(by cases m),by rw[hok]; exact hW.lt,?_,λb hb=>.inl hb,?_⟩
   ·intro s k1 gg hs hg;obtain⟨rfl,rfl⟩:=at0 s k1 hs;cases hg;exact⟨rfl,rfl⟩
   ·intro s hs;have:s≠0:=by rintro rfl; simp at hs
    exact⟨rfl,by simp[this]⟩
   ·refine⟨λi j b h1 h2=>(hr0 i b h1).1.trans (hr0 j b h2).1.symm,λj b hj=>?_,λj b hj=>?_,λs k1 t1 l1 hs h1 h2=>?_,λs1 s2 k1 k2 t1 l1 t2 l2 h1 _ _ h2 _ _=>((at0 s1 k1 h1).1.trans (at0 s2 k2 h2).1.symm)⟩
    ·obtain⟨_,h2⟩:=hr0 j b hj;exact⟨hW.qG hk (hrbl b h2).1,.inr h2,by rw[hok]; exact(hmine b (hrbl b h2).1).2,λ_ _ _ _ h=>by cases h⟩
    ·obtain⟨_,h2⟩:=hr0 j b hj;obtain⟨c,h3,_⟩:=hW.blk r _ b hk (hrbl b h2).1;exact .inl ⟨c,_,_,h3⟩
    ·obtain⟨rfl,rfl⟩:=at0 s k1 hs;cases h2;refine⟨rfl,λj hj=>?_,λj row hj=>?_⟩
     ·rw[hG0];have:j≠0:=by rintro rfl; simp at hj
      simp[this]
     ·cases j with
      | zero =>
       simp only[List.getElem?_cons_zero,oJ]at hj;subst hj
       by_cases hl:l=[]
       ·exact .inl ⟨hl,he⟩
       ·right;rw[VR]at q1;obtain⟨n,z1,z2⟩:=q1;rw[ht2]at z1;obtain rfl:=Option.some.inj z1;rcases z2 with ⟨z2,_⟩|⟨b,c,z2,_⟩
        ·exact absurd (List.eq_nil_of_length_eq_zero z2) hl
        ·obtain⟨cc,a1,a2,_⟩:=hW.blk r _ b hk z2;refine⟨b,by rw[hG0,hrb]; simp[hl,z2],.inl ⟨he,cc,a1,?_⟩⟩;exact yA (G:=G) (G':=G0) (λb h=>by rw[hok]; exact h) _ _ _ _ (CM t hpl l) (sQ (lQ _ _) a2)
      | succ j=>simp at hj
  have hv1:VRs w G0 ⟨λ_=>none,λs=>if s=0 then some 1 else none⟩ (Tk.none.pv 0++pA (.hnd t.size::args) ((0,0,l.length),x)) (u::us'):=by
   change VRs w G0 _ (.row 0 0 l.length t.size::pA args x) (u::us');rw[VRs];refine⟨u,us',rfl,?_,VRs.bO (xR (G:=G) (G':=G0) (λb h=>by rw[hok]; exact h) _ _ _ hnr (dU _ _ (QJ args x hd) q2))⟩;rw[VR]at q1;rw[VR];obtain⟨n,z1,z2⟩:=q1;rw[ht2]at z1;obtain rfl:=Option.some.inj z1;rcases z2 with ⟨z2,ao,rfl⟩|⟨b,c,z2,rfl,z3,z4⟩
   ·exact⟨ao,0,by rw[show l.length=0 from z2],by rw[show l.length=0 from z2]; exact Nat.le_refl _,.inl z2⟩
   ·refine⟨_,c,rfl,z3,?_⟩
    by_cases hl:l=[]
    ·exact .inl (by rw[hl]; rfl)
    ·exact .inr ⟨b,by rw[hG0,hrb]; simp[hl,z2],by simp,by simpa using z4⟩
  obtain⟨c1,c2⟩:=hf () ((0,0,l.length),x) [l] y1 [l1] hfl (ra:=0) (r:=0) hW1 rfl ⟨λ_ _ h=>by cases h⟩ hv1;refine⟨c1,c2.mono ?_⟩;rintro e' w' ⟨v',G1,μ1,rfl,ee,hW',hvv⟩;have hb1:∀ b,rb=some b->G1.row 0=some b:=λb hb=>ee.row 0 b (by rw[hG0]; simp[hb])
  have hH1:(((T8 (Tk.none.ow () 0) [some (arB e t [l])]).set 0 none)++(some (arB e t [l1])::(An.data rets).hp y1):Heap)[1]?=some (some (arB e t [l1])):=rfl;have hn0:∀ b,b<w.heap.size->¬ n0 b->w'.heap[b]?=w.heap[b]?:=λb hb hn=>ee.old b hb (by
   rintro(h|h)
   ·exact Nat.not_le.2 hb h
   ·exact hn (hmine b (hrbl b h).1).1)
  have hgg:∀ b,G b->G0 b:=λb hb=>by rw[hok]; exact hb
  have e2:Ext n0 w G μ w' (G1.with G) μ:={
   good:=λb hb=>⟨(ee.good b (hgg b hb)).1,(ee.good b (hgg b hb)).2⟩
   map:=λ_ _ h=>h
   len:=λ_ _ h=>h
   room:=ee.room
   row:=λ_ _ h=>h
   os:=ee.os
   tape:=ee.tape
   output:=ee.output
   size:=ee.size
   old:=hn0
   new:=λb hb=>by
    rcases ee.new b hb with h|h|h
    ·rw[hok]at h; exact .inl h
    ·exact .inr (hW.base b h)
    ·exact .inr (hmine b (hrbl b h).1).1 }
  have hold:∀ b,b<w.heap.size->rb≠some b->w'.heap[b]?=w.heap[b]?/\(G1 b->G b):=λb hb hne =>
   ⟨ee.old b hb (by rintro(h|h); exact Nat.not_le.2 hb h; exact hne h),λhg=>by
    rcases ee.new b hg with h|h|h
    ·rw[hok]at h; exact h
    ·exact absurd hb (Nat.not_lt.2 h)
    ·exact absurd h hne⟩
  have hk2:aU n0 (G1.with G) μ (H.set r none) w':=by
   refine(xO hW r).aV e2 ⟨λ_=>rfl,λj b hj=>hold b (hW.rows.sep j b hj).1 λh=>hrow j b hj (hrbl b h).1⟩ ?_ (λb hb=>hW'.lt b hb);intro s k1 b hs hb;obtain⟨hs,hsr⟩:=rW hs;refine hold b (hW.qG hs hb) λh=>?_
   have hrb:=(hrbl b h).1;cases hf:k1.frozen with
   | false=>exact hsr (hW.inj s r k1 _ b hs hk hf rfl hb hrb)
   | true =>
    obtain⟨_,_,_,_,h5,_⟩:=hW.blk s k1 b hs hb;exact(hmine b hrb).2 (h5 hf)
  have hfin:aU n0 (G1.with G) μ (H.set r (some (owB e t l1))) w':=by
   have:=aWQ hk2 (r:=r) (List.getElem?_set_self hlt) (owB e t l1) rfl rfl ?_ ?_
   ·rwa[List.set_set]at this
   ·intro b hb;have hcells:(∃ c,w'.heap[b]?=some (.cells c e (0,0))/\aO w' (G1.with G) μ b 0 (aJ t l1))/\¬ G1 b:=by
     by_cases hl:l=[]
     ·have hl1:l1=[]:=List.eq_nil_of_length_eq_zero (by rw[hlen,hl]; rfl);have hne:rb≠some b:=λh=>(hrbl b h).2 hl
      obtain⟨o1,o2⟩:=hold b (hW.qG hk hb) hne;obtain⟨c,h3,_⟩:=hW.blk r _ b hk hb;refine⟨⟨c,o1.trans h3,?_⟩,λh=>(hmine b hb).2 (o2 h)⟩;rw[hl1]; simp[aJ,aO]
     ·have hbb:rb=some b:=by rw[hrb,if_neg hl]; exact hb
      have hrow1:=hb1 b hbb;obtain⟨_,_,a3⟩:=hW'.rows.arn 1 _ t [l1] hH1 rfl rfl;rcases a3 0 l1 rfl with h|⟨b',z1,z2⟩
      ·exact absurd (List.eq_nil_of_length_eq_zero (by rw[<- hlen,h.1]; rfl)) hl
      ·rw[hrow1]at z1;obtain rfl:=Option.some.inj z1;obtain⟨c0,y1,_⟩:=hW.blk r _ b hk hb;obtain⟨c,z2,z3⟩:=z2.cells (.inr (e2.room b 0 ⟨c0,_,_,y1,Nat.zero_le _⟩));refine⟨⟨c,z2,?_⟩,(hW'.rows.sep 0 b hrow1).2.2.1⟩;exact yA (G:=G1) (G':=G1.with G) (λb h=>h) _ _ _ _ (CM t hpl l1) (sQ (lQ _ _) z3)
    refine⟨hcells.1,(hmine b hb).1,hcells.2,λs k1 hs hf hsb=>?_,λj hj=>hrow j b hj hb⟩;obtain⟨hs,hsr⟩:=rW hs;exact hsr (hW.inj s r k1 _ b hs hk hf rfl hsb hb)
   ·intro g hg;cases hg;exact⟨rfl,by rw[ht2,hlen]⟩
  refine⟨v',G1.with G,μ,rfl,e2,hfin,?_⟩;exact a56 hlr y1 hvv
 ·cases hy
theorem aJS {g:FuncId}{e:TypeId}{t:Ty}{args:List Kd}{f:Unit->aH (.hnd t.size::args)->List (List t.den)->Option (aH []×List (List t.den))}(hf:MZ P g e t .none (.hnd t.size::args) (.data []) f)(hd:Q3 args=true)(hpl:t.plain=true)(he:e≠O4:=by decide):aWR P g e t args (SQ f):=by
 intro l x l' hy n0 G μ H w us r hW hk hv hnr;refine aON hf hd hpl rfl he l x () l' ?_ hW hk hv hnr;unfold SQ at hy;unfold aB4;split at hy
 ·rename_i l1 hfl;obtain⟨hlen,hy⟩:=aM hy;obtain rfl:=Option.some.inj hy;rw[hfl];show (bif Nat.beq l1.length l.length then some ((),l1) else none)=_;rw[hlen];rfl
 ·cases hy
def a0N(e:TypeId) (t:Ty) (args rets:List Kd) (f:List t.den->aH args->Option (aH rets×List t.den)) (qs:List PV) (H:Heap):Option aN9:=match aQV e t H qs with
 | some (l,r,ps)=>match aQH args ps with
  | some x=>bif fI.noRefs ps&&gG.noRows (pA args x) then some ⟨aH rets×List t.den,f l x,λz=>(aLN rets z.1,H.set r (some (owB e t z.2)))⟩ else none
  | none=>none
 | none=>none
theorem a3Y {g:FuncId}{e:TypeId}{t:Ty}{args rets:List Kd}{f:List t.den->aH args->Option (aH rets×List t.den)}(hf:a0C P g e t args rets f):xB P (g,a0N e t args rets f):=by
 intro qs H rh h y hy n0 G μ w vs hW hv;change a0N e t args rets f qs H=some rh at h;show AA P n0 w G μ g vs.toArray (rh.out y).1 (rh.out y).2;unfold a0N at h;split at h
 ·rename_i l r ps hl;split at h
  ·rename_i x hx;obtain⟨hb,h⟩:=aJB h;simp only[oJ]at h;subst h;simp only[oA]at hb;obtain⟨h0,rfl⟩:=aBA hW hl;rw[VRs]at hv;obtain⟨u,us,rfl,q1,q2⟩:=hv;exact hf l x y.1 y.2 hy hW h0 (by rw[VRs]; exact⟨u,us,rfl,q1,(JJ args hx (dU _ _ hb.1 q2)).bO⟩) hb.2
  ·cases h
 ·cases h
def a1X(e:TypeId) (t:Ty) (args:List Kd) (f:List t.den->aH args->Option (List t.den)) (qs:List PV) (H:Heap):Option aN9:=match aQV e t H qs with
 | some (l,r,ps)=>match aQH args ps with
  | some x=>bif fI.noRefs ps&&gG.noRows (pA args x) then some ⟨List t.den,f l x,λl'=>(.tuple [],H.set r (some (owB e t l')))⟩ else none
  | none=>none
 | none=>none
theorem aSZ {g:FuncId}{e:TypeId}{t:Ty}{args:List Kd}{f:List t.den->aH args->Option (List t.den)}(hf:aWR P g e t args f):xB P (g,a1X e t args f):=by
 intro qs H rh h y hy n0 G μ w vs hW hv;change a1X e t args f qs H=some rh at h;show AA P n0 w G μ g vs.toArray (rh.out y).1 (rh.out y).2;unfold a1X at h;split at h
 ·rename_i l r ps hl;split at h
  ·rename_i x hx;obtain⟨hb,h⟩:=aJB h;simp only[oJ]at h;subst h;simp only[oA]at hb;obtain⟨h0,rfl⟩:=aBA hW hl;rw[VRs]at hv;obtain⟨u,us,rfl,q1,q2⟩:=hv;exact hf l x y hy hW h0 (by rw[VRs]; exact⟨u,us,rfl,q1,(JJ args hx (dU _ _ hb.1 q2)).bO⟩) hb.2
  ·cases h
 ·cases h
end
def aY1(P:Program)(E:Env)(fn:Func)(aV:Nat)(lt rt:Nat->Option b9)(c:Code)(ae:TypeId)(t:Ty)(tk:Tk)(args:List Kd)(an:An)(l:tk.den)(x:aH args)(A:List (List t.den)):Option (an.den×List (List t.den)) :=
 bif Nat.ble (tk.pv 0++pA args x).length fn.ntmps then E7 P E fn.ntmps aV lt rt false [] c (start aV 0 (tk.pv 0++pA args x)) (OH (tk.ow l 0)++[some (arB ae t A)]) (a8L P fn.results.toList ae t an) else none
section
variable {P:Program} {n0:Nat->Prop} {w w':World} {G G1 G2:Gd} {μ μ2:Mp} {H H':Heap} {ae:TypeId} {t:Ty} {A B:List (List t.den)}
theorem a7U {E:Env} (hP:SM P) (hE:bC P E) {g:Nat} {fn:Func} (hg:P.funcs[g]?=some fn) {c:Code} (hc:fn.body=some c) {aV:Nat} {lt rt:Nat->Option b9} {ae:TypeId} {t:Ty} {tk:Tk} {args:List Kd} {an:An} {f:tk.den->aH args->List (List t.den)->Option (an.den×List (List t.den))}
  (hd:Q3 args=true) (hl:∀ a∈jN c,UG P fn.ntmps lt rt false [] a) (hb:∀ l x A,aY1 P E fn aV lt rt c ae t tk args an l x A=f l x A):MZ P g ae t tk args an f:=by
 intro l x A y B hy n0 G μ H w us ra r hW har ho hv;rw[<- hb]at hy;unfold aY1 at hy;obtain⟨hlen,hy⟩:=aM hy;obtain⟨⟨ex,F',H'⟩,h1,h2⟩:=pK hE.callee hP.mixed c _ _ _ _ hl hy;obtain⟨vs,B',hex,hvs,hB,hq,rfl⟩:∃ vs B',(ex=.normal\/ex=.ret)/\xW P F' H' fn.results.toList=some vs/\a2J ae t H'=some B'/\aZE an (kZ vs) H'=some y/\B'.2=B:=by
  unfold a8L at h1;split at h1
  ·cases h1
  ·rename_i hne;split at h1
   ·rename_i vs hvs;split at h1
    ·rename_i B' hB;split at h1
     ·rename_i y' hy';simp only[oJ,oP]at h1;obtain⟨rfl,h1⟩:=h1;refine⟨vs,B',?_,hvs,hB,hy',h1⟩;cases ex with
      | normal=>exact .inl rfl
      | ret=>exact .inr rfl
      | exit i=>exact absurd rfl (hne i)
     ·cases h1
    ·cases h1
   ·cases h1
 have hargs:VRs w G (mpA μ (tk.ow l r) A.length) (tk.pv 0++pA args x) us:=by
  have hn:=QJ args x hd;cases tk with
  | none=>exact VRs.bO (dU _ _ hn hv)
  | own e u =>
   change VRs w G μ (.own r u.size::pA args x) us at hv;change VRs w G _ (.own 0 u.size::pA args x) us;rw[VRs]at hv ⊢;obtain⟨v,us',rfl,q1,q2⟩:=hv;refine⟨v,us',rfl,?_,VRs.bO (dU _ _ hn q2)⟩;rw[VR]at q1 ⊢;exact q1
 have howb:OH (tk.ow l 0)=OH (tk.ow l r):=by cases tk <;> rfl
 have hW1:=aHZ hW ho har;rw[<- howb]at hW1;have e0:Ext (wrA w G μ (tk.ow l r)) w G aL w G (mpA μ (tk.ow l r) A.length) :=
  ⟨⟨λb hb=>⟨hb,rfl⟩,λ_ _ h=>(by cases h),λ_ _ h=>(by cases h),λ_ _ h=>h,λ_ _ h=>h⟩,rfl,rfl,rfl,Nat.le_refl _,λ_ _ _=>rfl,λ_ h=>.inl h⟩
 refine⟨enters hg (hP.names g fn hg) (by rw[hc]; rfl) _ _,(callsIn_wide (n:=0)).1 (callsIn_of_wp_marks hg hc trivial ?_)⟩;have hI:I (wrA w G μ (tk.ow l r)) w G aL fn.ntmps (start aV 0 (tk.pv 0++pA args x)) (OH (tk.ow l 0)++[some (arB ae t A)]) ⟨us.toArray++Array.replicate (fn.ntmps-us.toArray.size) undef,[]⟩ w :=
  ⟨G,_,e0,hW1,E5 (by simpa using hargs) (oL hlen)⟩
 refine wpIn_mono (h2 none 0 _ w G aL _ w (λ_=>rfl) (λr _=>⟨rfl,rfl⟩) hI.a95) ?_;rintro e1 ⟨tm,ds⟩ w' ⟨rfl,hI',_⟩;have hend:∀ w',IM (wrA w G μ (tk.ow l r)) w G aL fn.ntmps F' H' { tmps:=tm,defers:=[] } w'->LeavesIn Fence.wide 0 P fn tm (λen w'=>∃ v' G'' μ'',en=.returned v'/\Ext n0 w G μ w' G'' μ''/\aU n0 G'' μ'' (((T8 (tk.ow l r) H).set ra none)++(some (arB ae t B'.2)::an.hp y)) w'/\VR w' G'' μ'' (an.pv y (H.length+1)) v') [] .returning w':=by
  rintro w' ⟨G1,μ1,ee,hW',hF',_⟩;obtain⟨ws,h3,h4⟩:=vC (P:=P) hW' hF' hvs;have hres:(results fn tm).run P w'=.ok (if hh:ws.toArray.size=1 then ws.toArray[0] else .tuple ws.toArray) w':=by
   rw[IE,Array.mapM_eq_mapM_toList];simp only[Sem.run_bind,Sem.run_map,h3,Result.andThen_ok,Sem.run_pure]
  have hrb:=aFX hW' hB;obtain⟨G2,μ3,b1,b2,b3⟩:∃ G2 μ3,Ext n0 w G μ w' G2 μ3/\aU n0 G2 μ3 (((T8 (tk.ow l r) H).set ra none)++(some (arB ae t B'.2)::an.hp y)) w'/\VR w' G2 μ3 (an.pv y (H.length+1)) (if hh:ws.toArray.size=1 then ws.toArray[0] else .tuple ws.toArray):=by
   have hvr:=zA h4;cases an with
   | data rets =>
    simp only[aZE]at hq;split at hq
    ·rename_i q hq';have hb:=aMJ (G2:=⟨λb=>G1 b\/∃ s k,H'[s]?=some (some k)/\k.frozen=false/\μ1.loc s=some b,G1.row⟩) hW ho har ee hW' hrb (os:=none) ⟨λ_ _ _ h=>by cases h⟩ (λ_=>rfl) (λb hb=>.inl hb) (λb hb=>by
      rcases hb with h|⟨s,k,z1,z2,z3⟩
      ·exact .inl h
      ·exact .inr ⟨s,k,z1,z2,z3,λ_ _ _ h=>by cases h⟩)
     refine⟨_,_,hb.1,hb.2,?_⟩;have:=LU (G':=⟨λb=>G1 b\/∃ s k,H'[s]?=some (some k)/\k.frozen=false/\μ1.loc s=some b,G1.row⟩) hW' (λ_ _ h=>h) (λb hb=>.inl hb) (λs k1 b hs _ hb=>by
      obtain⟨_,_,_,_,g5,_⟩:=hW'.blk s k1 b hs hb;cases hf:k1.frozen with
      | true=>exact .inl (g5 hf)
      | false=>exact .inr ⟨s,k1,hs,hf,hb⟩) depth _ q _ hq' hvr
     exact(aC0 hq this).bO
    ·cases hq
   | own e u =>
    simp only[aZE]at hq;obtain⟨r1,l0,hos,hvv⟩:=aMT hW' hq hvr;have hb:=aMJ (G2:=G1) hW ho har ee hW' hrb hos (λ_=>rfl) (λb hb=>hb) (λb hb=>.inl hb);refine⟨_,_,hb.1,hb.2,hvv _ _ _ ?_ ?_⟩
    ·have h1:¬ H.length+1<H.length:=by omega
     simp[AQ,h1,a89]
    ·have h1:¬ H.length+1<H.length:=by omega
     simp[AQ,h1,a58]
  exact⟨_,hres,_,G2,μ3,rfl,b1,b2,b3⟩
 rcases hex with rfl|rfl
 ·exact CX (λb hb=>(aHZ hW ho har).base b hb) hend ds w' hI'
 ·exact CX (λb hb=>(aHZ hW ho har).base b hb) hend ds w' hI'
end
def aZQ(P:Program)(E:Env)(fn:Func)(aV:Nat)(lt rt:Nat->Option b9)(c:Code)(ae:TypeId)(t:Ty)(args rets:List Kd)(x:aH args):Option (aH rets) :=
 bif Nat.ble (pA args x).length fn.ntmps then E7 P E fn.ntmps aV lt rt false [] c (start aV 0 (pA args x)) [some (arB ae t [])] (aWU P fn.results.toList rets) else none
section
variable {P:Program}
theorem a9Y {E:Env} (hP:SM P) (hE:bC P E) {g:Nat} {fn:Func} (hg:P.funcs[g]?=some fn) {c:Code} (hc:fn.body=some c) {aV:Nat} {lt rt:Nat->Option b9} {ae:TypeId} {t:Ty} {args rets:List Kd} {f:aH args->Option (aH rets)}
  (hl:∀ a∈jN c,UG P fn.ntmps lt rt false [] a) (hb:∀ x,aZQ P E fn aV lt rt c ae t args rets x=f x):eX P g args rets f:=by
 intro x y hy;rw[<- hb]at hy;unfold aZQ at hy;obtain⟨hlen,hy⟩:=aM hy;obtain⟨⟨ex,F',H'⟩,h1,h2⟩:=pK hE.callee hP.mixed c _ _ _ _ hl hy;obtain⟨vs,q,hex,hvs,hq,hd⟩:∃ vs q,(ex=.normal\/ex=.ret)/\xW P F' H' fn.results.toList=some vs/\aY0 H' (kZ vs)=some q/\aW4 rets q=some y:=by
  unfold aWU at h1;split at h1
  ·cases h1
  ·rename_i hne;split at h1
   ·rename_i vs hvs;split at h1
    ·rename_i q hq;refine⟨vs,q,?_,hvs,hq,h1⟩;cases ex with
     | normal=>exact .inl rfl
     | ret=>exact .inr rfl
     | exit i=>exact absurd rfl (hne i)
    ·cases h1
   ·cases h1
 obtain⟨hq1,hq2⟩:=QR hq;intro w G us hlt hv;have at0:∀ (s:Nat) (k1:Blk),([some (arB ae t [])]:Heap)[s]?=some (some k1)->s=0/\k1=arB ae t []:=by
  intro s k1 hs;cases s with
  | zero=>simp only[List.getElem?_cons_zero,oJ]at hs; exact⟨rfl,hs.symm⟩
  | succ s=>simp at hs
 have hW:aU (BX w) (Gd.of G) ⟨λ_=>none,λr=>if r=0 then some 0 else none⟩ [some (arB ae t [])] w:=by
  refine⟨(λr k b h hb=>by cases hb),(λr k g h hg=>?_),(λr s k l b h _ _ _ hb=>by cases hb),hlt,(λr hr=>⟨rfl,?_⟩),λ_ h=>h,⟨(λ_ _ _ h=>by cases h),(λ_ _ h=>by cases h),(λ_ _ h=>by cases h),(λr k u l h hgr ht=>?_),(λr s k k' u l u' l' h1 g1 t1 h2 g2 t2=>by rw[(at0 r k h1).1,(at0 s k' h2).1])⟩⟩
  ·obtain⟨rfl,rfl⟩:=at0 r k h;cases hg;exact⟨rfl,rfl⟩
  ·have:r≠0:=by rintro rfl; simp at hr
   simp[this]
  ·obtain⟨rfl,rfl⟩:=at0 r k h;cases ht;exact⟨rfl,λ_ _=>rfl,λj row hj=>by simp at hj⟩
 have e0:Ext (BX w) w (Gd.of G) aL w (Gd.of G) ⟨λ_=>none,λr=>if r=0 then some 0 else none⟩ :=
  ⟨⟨λb hb=>⟨hb,rfl⟩,λ_ _ h=>(by cases h),λ_ _ h=>(by cases h),λ_ _ h=>h,λ_ _ h=>h⟩,rfl,rfl,rfl,Nat.le_refl _,λ_ _ _=>rfl,λ_ h=>.inl h⟩
 refine⟨enters hg (hP.names g fn hg) (by rw[hc]; rfl) _ _,(callsIn_wide (n:=0)).1 (callsIn_of_wp_marks hg hc trivial ?_)⟩;have hI:I (BX w) w (Gd.of G) aL fn.ntmps (start aV 0 (pA args x)) [some (arB ae t [])] ⟨us++Array.replicate (fn.ntmps-us.size) undef,[]⟩ w:=⟨Gd.of G,_,e0,hW,E5 hv.bO (oL hlen)⟩;refine wpIn_mono (h2 none 0 _ w (Gd.of G) aL _ w (λ_=>rfl) (λr _=>⟨rfl,rfl⟩) hI.a95) ?_;rintro e1 ⟨tm,ds⟩ w' ⟨rfl,hI',_⟩
 have hend:∀ w',IM (BX w) w (Gd.of G) aL fn.ntmps F' H' { tmps:=tm,defers:=[] } w'->LeavesIn Fence.wide 0 P fn tm (λen w'=>∃ v' G',en=.returned v'/\Ext (BX w) w (Gd.of G) aL w' (Gd.of G') aL/\(∀ b,G' b->b<w'.heap.size)/\VR w' (Gd.of G') aL (aLN rets y) v') [] .returning w':=by
  rintro w' ⟨G1,μ1,e1,e2,hF',_⟩;obtain⟨ws,h3,h4⟩:=vC (P:=P) e2 hF' hvs;have hres:(results fn tm).run P w'=.ok (if hh:ws.toArray.size=1 then ws.toArray[0] else .tuple ws.toArray) w':=by
   rw[IE,Array.mapM_eq_mapM_toList];simp only[Sem.run_bind,Sem.run_map,h3,Result.andThen_ok,Sem.run_pure]
  have hval:=RI (G:=⟨λb=>G1 b\/∃ r k,H'[r]?=some (some k)/\μ1.loc r=some b,G1.row⟩) (G':=Gd.of λb=>G1 b\/∃ r k,H'[r]?=some (some k)/\μ1.loc r=some b) (λb h=>h) _ _ _ hq2
    (LU (G':=⟨λb=>G1 b\/∃ r k,H'[r]?=some (some k)/\μ1.loc r=some b,G1.row⟩) e2 (λ_ _ h=>h) (λb hb=>.inl hb) (λr k b hr _ hb=>.inr ⟨r,k,hr,hb⟩) depth _ q _ hq1 (zA h4))
  have hext:Ext (BX w) w (Gd.of G) aL w' (Gd.of λb=>G1 b\/∃ r k,H'[r]?=some (some k)/\μ1.loc r=some b) aL:={
   good:=λb hb=>⟨.inl (e1.good b hb).1,(e1.good b hb).2⟩
   map:=λ_ _ h=>h
   len:=λ_ _ h=>h
   room:=e1.room
   row:=λ_ _ h=>h
   os:=e1.os
   tape:=e1.tape
   output:=e1.output
   size:=e1.size
   old:=e1.old
   new:=λb hb=>by
    rcases hb with hb|⟨r,k,hr,hb⟩
    ·exact e1.new b hb
    ·obtain⟨c,_,_,_,g5,g6⟩:=e2.blk r k b hr hb;cases hf:k.frozen with
     | true=>exact e1.new b (g5 hf)
     | false=>exact .inr (g6 hf).1 }
  have hlt':∀ b,(G1 b\/∃ r k,H'[r]?=some (some k)/\μ1.loc r=some b)->b<w'.heap.size:=by
   rintro b (hb|⟨r,k,hr,hb⟩)
   ·exact e2.lt b hb
   ·exact e2.qG hr hb
  exact⟨_,hres,_,_,rfl,hext,hlt',aC0 hd hval⟩
 rcases hex with rfl|rfl
 ·exact CX (λb hb=>hW.base b hb) hend ds w' hI'
 ·exact CX (λb hb=>hW.base b hb) hend ds w' hI'
end
open Go Go.RowKit Go.Proofs
set_option maxHeartbeats 4000000
def cR(x:aH [.str]):Option (aH [.bool,.str]):=match x with
 | (v0,()) =>
  bif ltI 0 (v0.size:Int) then
   bif aI 0 v0.size then bif eqI (aQK v0 0) 45 then
    bif Nat.ble 1 v0.size then bif Nat.ble v0.size v0.size then some (true,(v0.extract 1 v0.size),()) else none else none
   else some (false,v0,()) else none
  else some (false,v0,())
theorem aL2:bC tP (cG []):=bG trivial
theorem aQJ:eX tP 179 _ _ cR:=by exact bX aK aL2 Tryz.func179 (c:=aQ Tryz.f179) (by kernel_rfl) (aV:=aG Tryz.f179) (lt:=λ_=>none) (aD (lt:=λ_=>none) (l:=[]) (by kernel_rfl) trivial) (by rintro⟨v0,⟨⟩⟩; kernel_rfl)
abbrev CL:Ent:=⟨179,_,_,cR⟩
theorem xS:Ent.OK tP CL:=aQJ
def aA(x:aH [.bool,.str]):Option (aH [.str]):=match x with
 | (v0,v1,()) =>
  bif v0 then
   bif !(eqS v1 (ByteArray.mk #[48])) then
    bif Nat.ble ((ByteArray.mk #[45]).size+v1.size) 9223372036854775807 then some (((ByteArray.mk #[45])++v1),()) else none
   else some (v1,())
  else some (v1,())
theorem aOV:bC tP (cG []):=bG trivial
theorem aSU:eX tP 180 _ _ aA:=by exact bX aK aOV Tryz.func180 (c:=aQ Tryz.f180) (by kernel_rfl) (aV:=aG Tryz.f180) (lt:=λ_=>none) (aD (lt:=λ_=>none) (l:=[]) (by kernel_rfl) trivial) (by rintro⟨v0,v1,⟨⟩⟩; kernel_rfl)
abbrev MI:Ent:=⟨180,_,_,aA⟩
theorem KE:Ent.OK tP MI:=aSU
def qI(x:aH [.str,.int .i64]):Option (aH [.int .i64,.bool]):=match x with
 | (v0,v1,()) =>
  bif ltI v1 (v0.size:Int) then
   some (0,false,())
  else aC (HG (v0,())) λy1 =>
  some (y1.1,true,())
theorem aJ5:bC tP (cG [aEP]):=bG ⟨aJW,trivial⟩
theorem aO5:eX tP 178 _ _ qI:=by exact bX aK aJ5 Tryz.func178 (c:=aQ Tryz.f178) (by kernel_rfl) (aV:=aG Tryz.f178) (lt:=λ_=>none) (aD (lt:=λ_=>none) (l:=[]) (by kernel_rfl) trivial) (by rintro⟨v0,v1,⟨⟩⟩; kernel_rfl)
abbrev MB:Ent:=⟨178,_,_,qI⟩
theorem LJ:Ent.OK tP MB:=aO5
def oU(x:aH [.int .i64]):Option (aH [.str]):=match x with
 | (v0,()) =>
  aC (HD (v0,())) λy1 =>
  some (y1.1,())
theorem aT2:bC tP (cG [aEQ]):=bG ⟨aI3,trivial⟩
theorem aYW:eX tP 137 _ _ oU:=by exact bX aK aT2 Tryz.func137 (c:=aQ Tryz.f137) (by kernel_rfl) (aV:=aG Tryz.f137) (lt:=λ_=>none) (aD (lt:=λ_=>none) (l:=[]) (by kernel_rfl) trivial) (by rintro⟨v0,⟨⟩⟩; kernel_rfl)
abbrev QM:Ent:=⟨137,_,_,oU⟩
theorem JX:Ent.OK tP QM:=aYW
def JR(x:aH [.str]):Option (aH [.int .i64,.bool]):=match x with
 | (v0,()) =>
  aC (yE (v0,10,64,())) λy1 =>
  some (y1.1,true,())
theorem aLV:bC tP (cG [TS]):=bG ⟨aCJ,trivial⟩
theorem aPY:eX tP 210 _ _ JR:=by exact bX aK aLV Tryz.func210 (c:=aQ Tryz.f210) (by kernel_rfl) (aV:=aG Tryz.f210) (lt:=λ_=>none) (aD (lt:=λ_=>none) (l:=[]) (by kernel_rfl) trivial) (by rintro⟨v0,⟨⟩⟩; kernel_rfl)
abbrev aIM:Ent:=⟨210,_,_,JR⟩
theorem aLO:Ent.OK tP aIM:=aPY
def BZ(x:aH [.str]):Option (aH [.int .i64]):=match x with
 | (v0,()) =>
  bif eqS v0 (ByteArray.mk #[48]) then
   some (0,())
  else bif aI 0 v0.size then bif eqI (aQK v0 0) 45 then
   some ((-1),())
  else some (1,()) else none
theorem aN1:bC tP (cG []):=bG trivial
theorem aTF:eX tP 167 _ _ BZ:=by exact bX aK aN1 Tryz.func167 (c:=aQ Tryz.f167) (by kernel_rfl) (aV:=aG Tryz.f167) (lt:=λ_=>none) (aD (lt:=λ_=>none) (l:=[]) (by kernel_rfl) trivial) (by rintro⟨v0,⟨⟩⟩; kernel_rfl)
abbrev aBS:Ent:=⟨167,_,_,BZ⟩
theorem aCK:Ent.OK tP aBS:=aTF
def tE(x:aH [.int .u64]):Option (aH [.str]):=match x with
 | (v0,()) =>
  aC (uL (v0,10,())) λy1 =>
  some (y1.1,())
theorem aNH:bC tP (cG [O7]):=bG ⟨X9,trivial⟩
theorem aSR:eX tP 214 _ _ tE:=by exact bX aK aNH Tryz.func214 (c:=aQ Tryz.f214) (by kernel_rfl) (aV:=aG Tryz.f214) (lt:=λ_=>none) (aD (lt:=λ_=>none) (l:=[]) (by kernel_rfl) trivial) (by rintro⟨v0,⟨⟩⟩; kernel_rfl)
abbrev MN:Ent:=⟨214,_,_,tE⟩
theorem JZ:Ent.OK tP MN:=aSR
def zZ(x:aH [.str]):Option (aH [.int .u64,.bool]):=match x with
 | (v0,()) =>
  aC (vT (v0,10,64,())) λy1 =>
  some (y1.1,true,())
theorem aIK:bC tP (cG [RM]):=bG ⟨Z6,trivial⟩
theorem aLU:eX tP 234 _ _ zZ:=by exact bX aK aIK Tryz.func234 (c:=aQ Tryz.f234) (by kernel_rfl) (aV:=aG Tryz.f234) (lt:=λ_=>none) (aD (lt:=λ_=>none) (l:=[]) (by kernel_rfl) trivial) (by rintro⟨v0,⟨⟩⟩; kernel_rfl)
abbrev aBI:Ent:=⟨234,_,_,zZ⟩
theorem aGX:Ent.OK tP aBI:=aLU
def qJ(x:aH [.str,.str]):Option (aH [.int .u64,.int .u64,.bool]):=match x with
 | (v0,v1,()) =>
  bif ltI 18 (v0.size:Int) then
   some (0,0,false,())
  else bif ltI 18 (v1.size:Int) then
   some (0,0,false,())
  else aC (zZ (v0,())) λy1 =>
  aC (zZ (v1,())) λy2 =>
  some (y1.1,y2.1,true,())
theorem aJG:bC tP (cG [aBI]):=bG ⟨aGX,trivial⟩
theorem aOY:eX tP 213 _ _ qJ:=by exact bX aK aJG Tryz.func213 (c:=aQ Tryz.f213) (by kernel_rfl) (aV:=aG Tryz.f213) (lt:=λ_=>none) (aD (lt:=λ_=>none) (l:=[]) (by kernel_rfl) trivial) (by rintro⟨v0,v1,⟨⟩⟩; kernel_rfl)
abbrev HB:Ent:=⟨213,_,_,qJ⟩
theorem GA:Ent.OK tP HB:=aOY
def fY(x:aH [.str,.str]):Option (aH [.int .i64]):=match x with
 | (v0,v1,()) =>
  bif !(eqI (v0.size:Int) (v1.size:Int)) then
   some ((if (if (-1)<(aB .i64 ((v0.size:Int)-(v1.size:Int))) then (aB .i64 ((v0.size:Int)-(v1.size:Int))) else (-1))<1 then (if (-1)<(aB .i64 ((v0.size:Int)-(v1.size:Int))) then (aB .i64 ((v0.size:Int)-(v1.size:Int))) else (-1)) else 1),())
  else bif ltS v0 v1 then
   some ((-1),())
  else bif !(ltS v0 v1||eqS v0 v1) then
   some (1,())
  else some (0,())
theorem aDZ:bC tP (cG []):=bG trivial
theorem aHH:eX tP 182 _ _ fY:=by exact bX aK aDZ Tryz.func182 (c:=aQ Tryz.f182) (by kernel_rfl) (aV:=aG Tryz.f182) (lt:=λ_=>none) (aD (lt:=λ_=>none) (l:=[]) (by kernel_rfl) trivial) (by rintro⟨v0,v1,⟨⟩⟩; kernel_rfl)
abbrev GC:Ent:=⟨182,_,_,fY⟩
theorem GY:Ent.OK tP GC:=aHH
def FN(x:aH [.str,.str]):Option (aH [.int .i64]):=match x with
 | (v0,v1,()) =>
  aC (BZ (v0,())) λy1 =>
  aC (BZ (v1,())) λy2 =>
  bif !(eqI y1.1 y2.1) then
   bif ltI y1.1 y2.1 then
    some ((-1),())
   else some (1,())
  else aC (cR (v0,())) λy3 =>
  aC (cR (v1,())) λy4 =>
  bif y3.1 then
   aC (fY (y4.2.1,y3.2.1,())) λy5 =>
   some (y5.1,())
  else aC (fY (y3.2.1,y4.2.1,())) λy6 =>
  some (y6.1,())
theorem aH5:bC tP (cG [GC,aBS,CL]):=bG ⟨GY,aCK,xS,trivial⟩
theorem aLL:eX tP 163 _ _ FN:=by exact bX aK aH5 Tryz.func163 (c:=aQ Tryz.f163) (by kernel_rfl) (aV:=aG Tryz.f163) (lt:=λ_=>none) (aD (lt:=λ_=>none) (l:=[]) (by kernel_rfl) trivial) (by rintro⟨v0,v1,⟨⟩⟩; kernel_rfl)
abbrev aCM:Ent:=⟨163,_,_,FN⟩
theorem aIA:Ent.OK tP aCM:=aLL
def L3(x:aH [.str]):Option (aH [.str]):=match x with
 | (v0,()) =>
  aC (cR (v0,())) λy1 =>
  bif y1.1 then
   aC (aA (false,y1.2.1,())) λy2 =>
   some (y2.1,())
  else aC (aA (true,y1.2.1,())) λy3 =>
  some (y3.1,())
theorem aPV:bC tP (cG [MI,CL]):=bG ⟨KE,xS,trivial⟩
theorem aV6:eX tP 207 _ _ L3:=by exact bX aK aPV Tryz.func207 (c:=aQ Tryz.f207) (by kernel_rfl) (aV:=aG Tryz.f207) (lt:=λ_=>none) (aD (lt:=λ_=>none) (l:=[]) (by kernel_rfl) trivial) (by rintro⟨v0,⟨⟩⟩; kernel_rfl)
abbrev aGH:Ent:=⟨207,_,_,L3⟩
theorem aED:Ent.OK tP aGH:=aV6
def LF(x:aH [.str]):Option (aH [.str]):=match x with
 | (v0,()) =>
  aC (cR (v0,())) λy1 =>
  some (y1.2.1,())
theorem aPI:bC tP (cG [CL]):=bG ⟨xS,trivial⟩
theorem aVF:eX tP 164 _ _ LF:=by exact bX aK aPI Tryz.func164 (c:=aQ Tryz.f164) (by kernel_rfl) (aV:=aG Tryz.f164) (lt:=λ_=>none) (aD (lt:=λ_=>none) (l:=[]) (by kernel_rfl) trivial) (by rintro⟨v0,⟨⟩⟩; kernel_rfl)
abbrev aN0:Ent:=⟨164,_,_,LF⟩
theorem aPR:Ent.OK tP aN0:=aVF
abbrev fZ:List (Nat×Kd):=[(0,.hnd 1),(2,.int .i64),(3,.int .i64),(100000,.ar 5 (.int .u8))]
abbrev iY:List (Ex×List (Nat×Kd)):=[(.exit 0,[(100000,.ar 5 (.int .u8))])]
def gZ(x:Shape.den fZ):Option (Shape.den fZ⊕aW iY):=match x with
 | (v0,v2,v3,v100000,()) =>
  bif ltI v2 v3 then
   bif aI v3 v0.2.2 then bif Nat.blt ((v0.2.1+v3.toNat)*1) (dJ v100000 v0.1) then bif aI v2 v0.2.2 then bif Nat.blt ((v0.2.1+v2.toNat)*1) (dJ v100000 v0.1) then bif aI v2 v0.2.2 then bif Nat.blt ((v0.2.1+v2.toNat)*1) (dJ v100000 v0.1) then bif aI v3 v0.2.2 then bif Nat.blt ((v0.2.1+v3.toNat)*1) (dJ (vK v100000 v0.1 ((v0.2.1+v2.toNat)*1) (eD v100000 v0.1 ((v0.2.1+v3.toNat)*1) 0)) v0.1) then some (.inl ((v0.1,v0.2.1,v0.2.2),(aB .i64 (v2+1)),(aB .i64 (v3-1)),(vK (vK v100000 v0.1 ((v0.2.1+v2.toNat)*1) (eD v100000 v0.1 ((v0.2.1+v3.toNat)*1) 0)) v0.1 ((v0.2.1+v3.toNat)*1) (eD v100000 v0.1 ((v0.2.1+v2.toNat)*1) 0)),())) else none else none else none else none else none else none else none else none
  else some (.inr ((v100000,())))
def lY(x:Shape.den fZ):Option (aW iY):=cE gZ (2^64) x
def eH(u0:Unit)(x:aH [.hnd 1])(A:List (List Int)):Option ((aH [])×List (List Int)):=match x with
 | (v0,()) =>
  aC (lY ((v0.1,v0.2.1,v0.2.2),0,(aB .i64 (((v0.2.2:Nat):Int)-1)),A,())) λz1 =>
  some ((()),z1.1)
def qE:Code:=aQ Tryz.f236
abbrev uQ:Env:=cG []
theorem BC:bC tP uQ:=bG trivial
def sZ:Code:=eR qE 0
def uE(id:Nat):Option b9:=bif Nat.beq id 1 then some ⟨fZ,iY,lY⟩ else none
theorem I9:∀ x,eM tP uQ 28 (aG Tryz.f236) uE sZ fZ iY x=gZ x:=by
 rintro⟨v0,v2,v3,v100000,⟨⟩⟩
 kernel_rfl
theorem JI:cT tP 28 sZ ⟨fZ,iY,lY⟩:=by exact cQ BC.callee aK.mixed _ (aD (l:=[]) (by kernel_rfl) trivial) I9
theorem KO:cB qE=[sZ]:=by kernel_rfl
theorem LL:∀ l x A,GM tP uQ Tryz.f236 (aG Tryz.f236) uE qE 5 (.int .u8) .none [.hnd 1] (.data []) l x A=eH l x A:=by
 rintro u0 ⟨v0,⟨⟩⟩ A
 kernel_rfl
theorem OO:MZ tP 236 5 (.int .u8) .none [.hnd 1] (.data []) eH:=by exact BG aK BC Tryz.func236 (c:=qE) (by kernel_rfl) (aV:=aG Tryz.f236) (lt:=uE) (by rfl) (aD KO ⟨cO (i:=1) (by kernel_rfl) rfl JI,trivial⟩) LL
theorem NA:aWR tP 236 5 (.int .u8) [] (SQ eH):=aJS OO (by rfl) (by rfl)
abbrev DD:Shr:=(236,TG 1 (a1X 5 (.int .u8) [] (SQ eH)))
theorem KK:xB tP DD:=sO (aSZ NA)
abbrev lP:List (Nat×Kd):=[(0,.list (.int .u64))]
abbrev o3:List (Ex×List (Nat×Kd)):=[(.exit 0,[(0,.list (.int .u64))])]
def jH(x:Shape.den lP):Option (Shape.den lP⊕aW o3):=match x with
 | (v0,()) =>
  bif ltI 0 (v0.length:Int) then
   bif aI (aB .i64 ((v0.length:Int)-1)) v0.length then bif eqI (v0.getD ((aB .i64 ((v0.length:Int)-1)).toNat) 0) 0 then
    bif !(ltI (aB .i64 ((v0.length:Int)-1)) 0) then bif Nat.ble 0 ((aB .i64 ((v0.length:Int)-1)).toNat) then bif Nat.ble ((aB .i64 ((v0.length:Int)-1)).toNat) v0.length then some (.inl (((v0.drop 0).take ((aB .i64 ((v0.length:Int)-1)).toNat-0)),())) else none else none else none
   else some (.inr ((v0,()))) else none
  else some (.inr ((v0,())))
def wL(x:Shape.den lP):Option (aW o3):=cE jH (2^64) x
def oV(x:aH [.list (.int .u64)]):Option (aH [.list (.int .u64)]):=match x with
 | (v0,()) =>
  aC (wL (v0,())) λz1 =>
  some (z1.1,())
def KY:Code:=aQ Tryz.f217
abbrev K4:Env:=cG []
theorem HP:bC tP K4:=bG trivial
def AK:Code:=eR KY 0
def JL(id:Nat):Option b9:=bif Nat.beq id 1 then some ⟨lP,o3,wL⟩ else none
theorem QI:∀ x,eM tP K4 21 (aG Tryz.f217) JL AK lP o3 x=jH x:=by
 rintro⟨v0,⟨⟩⟩
 kernel_rfl
theorem R8:cT tP 21 AK ⟨lP,o3,wL⟩:=by exact cQ HP.callee aK.mixed _ (aD (l:=[]) (by kernel_rfl) trivial) QI
theorem YS:eX tP 217 _ _ oV:=by exact bX aK HP Tryz.func217 (c:=KY) (by kernel_rfl) (aV:=aG Tryz.f217) (lt:=JL) (aD (l:=[AK]) (by kernel_rfl) ⟨cO (i:=1) (by kernel_rfl) rfl R8,trivial⟩) (by rintro⟨v0,⟨⟩⟩; kernel_rfl)
abbrev KW:Ent:=⟨217,_,_,oV⟩
theorem UY:Ent.OK tP KW:=YS
abbrev iO:List (Nat×Kd):=[(0,.own 180 (.int .u64)),(100000,.ar 180 (.int .u64))]
abbrev mB:List (Ex×List (Nat×Kd)):=[(.exit 0,[(0,.own 180 (.int .u64)),(100000,.ar 180 (.int .u64))])]
def kL(x:Shape.den iO):Option (Shape.den iO⊕aW mB):=match x with
 | (v0,v100000,()) =>
  bif ltI 0 (v0.length:Int) then
   bif aI (aB .i64 ((v0.length:Int)-1)) v0.length then bif Nat.blt ((aB .i64 ((v0.length:Int)-1)).toNat) v0.length then bif eqI (v0.getD ((aB .i64 ((v0.length:Int)-1)).toNat) 0) 0 then
    bif !(ltI (aB .i64 ((v0.length:Int)-1)) 0) then bif Nat.ble 0 ((aB .i64 ((v0.length:Int)-1)).toNat) then bif Nat.ble ((aB .i64 ((v0.length:Int)-1)).toNat) v0.length then bif Nat.blt 0 v0.length then some (.inl ((v0.take ((aB .i64 ((v0.length:Int)-1)).toNat-0)),v100000,())) else none else none else none else none
   else some (.inr ((v0,v100000,()))) else none else none
  else some (.inr ((v0,v100000,())))
def tB(x:Shape.den iO):Option (aW mB):=cE kL (2^64) x
def bH(v0:List Int)(x:aH [])(A:List (List Int)):Option ((List Int)×List (List Int)):=match x with
 | (()) =>
  aC (tB (v0,A,())) λz1 =>
  some (z1.1,z1.2.1)
def sN:Code:=aQ Tryz.f217
abbrev zG:Env:=cG []
theorem D4:bC tP zG:=bG trivial
def wD:Code:=eR sN 0
def xM(id:Nat):Option b9:=bif Nat.beq id 1 then some ⟨iO,mB,tB⟩ else none
theorem LO:∀ x,eM tP zG 21 (aG Tryz.f217) xM wD iO mB x=kL x:=by
 rintro⟨v0,v100000,⟨⟩⟩
 kernel_rfl
theorem NM:cT tP 21 wD ⟨iO,mB,tB⟩:=by exact cQ D4.callee aK.mixed _ (aD (l:=[]) (by kernel_rfl) trivial) LO
theorem N1:cB sN=[wD]:=by kernel_rfl
theorem PW:∀ l x A,GM tP zG Tryz.f217 (aG Tryz.f217) xM sN 180 (.int .u64) (.own 180 (.int .u64)) [] (.own 180 (.int .u64)) l x A=bH l x A:=by
 rintro u0 ⟨⟨⟩⟩ A
 kernel_rfl
theorem TC:MZ tP 217 180 (.int .u64) (.own 180 (.int .u64)) [] (.own 180 (.int .u64)) bH:=by exact BG aK D4 Tryz.func217 (c:=sN) (by kernel_rfl) (aV:=aG Tryz.f217) (lt:=xM) (by rfl) (aD N1 ⟨cO (i:=1) (by kernel_rfl) rfl NM,trivial⟩) PW
abbrev iD:Shr:=(217,TG 1 (arH 180 (.int .u64) (.own 180 (.int .u64)) [] (.own 180 (.int .u64)) bH))
theorem iE:xB tP iD:=sO (g:=217) (f:=arH 180 (.int .u64) (.own 180 (.int .u64)) [] (.own 180 (.int .u64)) bH) (FJ TC)
abbrev sF:List (Nat×Kd):=[(0,.str),(3,.own 180 (.int .u64)),(4,.int .i64),(5,.int .u64),(25,.list (.int .u8)),(26,.int .i64),(27,.int .i64),(100000,.ar 180 (.int .u64))]
abbrev vP:List (Ex×List (Nat×Kd)):=[(.exit 2,[(0,.str),(3,.own 180 (.int .u64)),(4,.int .i64),(5,.int .u64),(100000,.ar 180 (.int .u64))])]
def sX(x:Shape.den sF):Option (Shape.den sF⊕aW vP):=match x with
 | (v0,v3,v4,v5,v25,v26,v27,v100000,()) =>
  bif ltI v27 v26 then
   bif aI v27 v25.length then some (.inl (v0,v3,v4,(aB .u64 ((aB .u64 (10*v5))+(IntKind.wrap .u64 (aB .u8 ((v25.getD v27.toNat 0)-48))))),v25,v26,(aB .i64 (v27+1)),v100000,())) else none
  else some (.inr ((v0,v3,v4,v5,v100000,())))
def yC(x:Shape.den sF):Option (aW vP):=cE sX (2^64) x
abbrev sA:List (Nat×Kd):=[(0,.str),(3,.own 180 (.int .u64)),(4,.int .i64),(100000,.ar 180 (.int .u64))]
abbrev vV:List (Ex×List (Nat×Kd)):=[(.exit 0,[(3,.own 180 (.int .u64)),(100000,.ar 180 (.int .u64))])]
def tD(x:Shape.den sA):Option (Shape.den sA⊕aW vV):=match x with
 | (v0,v3,v4,v100000,()) =>
  bif ltI 0 v4 then
   bif !(ltI (if 0<(aB .i64 (v4-9)) then (aB .i64 (v4-9)) else 0) 0) then bif !(ltI v4 0) then bif Nat.ble ((if 0<(aB .i64 (v4-9)) then (aB .i64 (v4-9)) else 0).toNat) v4.toNat then bif Nat.ble v4.toNat v0.size then aC (yC (v0,v3,v4,0,(VI (v0.extract ((if 0<(aB .i64 (v4-9)) then (aB .i64 (v4-9)) else 0).toNat) v4.toNat)),((VI (v0.extract ((if 0<(aB .i64 (v4-9)) then (aB .i64 (v4-9)) else 0).toNat) v4.toNat)).length:Int),0,v100000,())) λz2 =>
   bif Nat.ble [z2.2.2.2.1].length 1048576 then bif Nat.ble z2.2.1.length 1048576 then some (.inl (z2.1,(z2.2.1++[z2.2.2.2.1]),(aB .i64 (z2.2.2.1-9)),z2.2.2.2.2.1,())) else none else none else none else none else none else none
  else some (.inr ((v3,v100000,())))
def xY(x:Shape.den sA):Option (aW vV):=cE tD (2^64) x
def fE(u0:Unit)(x:aH [.str])(A:List (List Int)):Option ((List Int)×List (List Int)):=match x with
 | (v0,()) =>
  bif !(ltI (aB .i64 ((aB .i64 ((v0.size:Int).tdiv 9))+1)) 0) then bif !(ltI 1048576 (aB .i64 ((aB .i64 ((v0.size:Int).tdiv 9))+1))) then aC (xY (v0,(List.replicate 0 0),(v0.size:Int),A,())) λz3 =>
  aC (bH z3.1 (()) z3.2.1) λy4 =>
  some y4 else none else none
def HX:Code:=aQ Tryz.f215
abbrev HT:Env:=NN [] [iD]
theorem H9:bC tP HT:=o9 trivial ⟨iE,trivial⟩
def xZ:Code:=eR HX 0
def JV:Code:=eR xZ 0
def FR(id:Nat):Option b9:=bif Nat.beq id 7 then some ⟨sF,vP,yC⟩ else bif Nat.beq id 3 then some ⟨sA,vV,xY⟩ else none
theorem Z0:∀ x,eM tP HT 44 (aG Tryz.f215) FR JV sF vP x=sX x:=by
 rintro⟨v0,v3,v4,v5,v25,v26,v27,v100000,⟨⟩⟩
 kernel_rfl
theorem aA2:cT tP 44 JV ⟨sF,vP,yC⟩:=by exact cQ H9.callee aK.mixed _ (aD (l:=[]) (by kernel_rfl) trivial) Z0
theorem aAO:∀ x,eM tP HT 44 (aG Tryz.f215) FR xZ sA vV x=tD x:=by
 rintro⟨v0,v3,v4,v100000,⟨⟩⟩
 kernel_rfl
theorem aGD:cB xZ=[JV]:=by kernel_rfl
theorem aCE:cT tP 44 xZ ⟨sA,vV,xY⟩:=by exact cQ H9.callee aK.mixed _ (aD aGD ⟨cO (i:=7) (by kernel_rfl) rfl aA2,trivial⟩) aAO
theorem aDM:cB HX=[xZ]:=by kernel_rfl
theorem aEY:∀ l x A,GM tP HT Tryz.f215 (aG Tryz.f215) FR HX 180 (.int .u64) .none [.str] (.own 180 (.int .u64)) l x A=fE l x A:=by
 rintro u0 ⟨v0,⟨⟩⟩ A
 kernel_rfl
theorem aJL:MZ tP 215 180 (.int .u64) .none [.str] (.own 180 (.int .u64)) fE:=by exact BG aK H9 Tryz.func215 (c:=HX) (by kernel_rfl) (aV:=aG Tryz.f215) (lt:=FR) (by rfl) (aD aDM ⟨cO (i:=3) (by kernel_rfl) rfl aCE,trivial⟩) aEY
abbrev CZ:Shr:=(215,TG 0 (arH 180 (.int .u64) .none [.str] (.own 180 (.int .u64)) fE))
theorem B5:xB tP CZ:=sO (g:=215) (f:=arH 180 (.int .u64) .none [.str] (.own 180 (.int .u64)) fE) (FJ aJL)
abbrev jL:List (Nat×Kd):=[(0,.list (.int .u64)),(1,.list (.int .u64)),(5,.int .i64)]
abbrev nB:List (Ex×List (Nat×Kd)):=[(.ret,[(4,.int .i64)]),(.exit 0,[])]
def lN(x:Shape.den jL):Option (Shape.den jL⊕aW nB):=match x with
 | (v0,v1,v5,()) =>
  bif !(ltI v5 0) then
   bif aI v5 v0.length then bif aI v5 v1.length then bif ltI (v0.getD v5.toNat 0) (v1.getD v5.toNat 0) then
    some (.inr (.inl ((-1),())))
   else bif aI v5 v0.length then bif aI v5 v1.length then bif ltI (v1.getD v5.toNat 0) (v0.getD v5.toNat 0) then
    some (.inr (.inl (1,())))
   else some (.inl (v0,v1,(aB .i64 (v5-1)),())) else none else none else none else none
  else some (.inr (.inr ((()))))
def uF(x:Shape.den jL):Option (aW nB):=cE lN (2^64) x
def pV(x:aH [.list (.int .u64),.list (.int .u64)]):Option (aH [.int .i64]):=match x with
 | (v0,v1,()) =>
  bif !(eqI (v0.length:Int) (v1.length:Int)) then
   some ((if (if (-1)<(aB .i64 ((v0.length:Int)-(v1.length:Int))) then (aB .i64 ((v0.length:Int)-(v1.length:Int))) else (-1))<1 then (if (-1)<(aB .i64 ((v0.length:Int)-(v1.length:Int))) then (aB .i64 ((v0.length:Int)-(v1.length:Int))) else (-1)) else 1),())
  else aC (uF (v0,v1,(aB .i64 ((v0.length:Int)-1)),())) λz1 =>
  C5 z1 (λa2=>some (a2.1,())) λb3 =>
  some (0,())
def IZ:Code:=aQ Tryz.f228
abbrev I0:Env:=cG []
theorem FB:bC tP I0:=bG trivial
def xG:Code:=eR IZ 0
def HJ(id:Nat):Option b9:=bif Nat.beq id 4 then some ⟨jL,nB,uF⟩ else none
theorem ND:∀ x,eM tP I0 45 (aG Tryz.f228) HJ xG jL nB x=lN x:=by
 rintro⟨v0,v1,v5,⟨⟩⟩
 kernel_rfl
theorem OC:cT tP 45 xG ⟨jL,nB,uF⟩:=by exact cQ FB.callee aK.mixed _ (aD (l:=[]) (by kernel_rfl) trivial) ND
theorem UM:eX tP 228 _ _ pV:=by exact bX aK FB Tryz.func228 (c:=IZ) (by kernel_rfl) (aV:=aG Tryz.f228) (lt:=HJ) (aD (l:=[xG]) (by kernel_rfl) ⟨cO (i:=4) (by kernel_rfl) rfl OC,trivial⟩) (by rintro⟨v0,v1,⟨⟩⟩; kernel_rfl)
abbrev IP:Ent:=⟨228,_,_,pV⟩
theorem SC:Ent.OK tP IP:=UM
abbrev iL:List (Nat×Kd):=[(1,.list (.int .u64)),(5,.own 180 (.int .u64)),(6,.int .i64),(7,.int .u64),(8,.int .u64),(17,.list (.int .u64)),(18,.int .i64),(19,.int .i64),(24,.list (.int .u64)),(25,.int .i64),(26,.int .i64),(100000,.ar 180 (.int .u64))]
abbrev mC:List (Ex×List (Nat×Kd)):=[(.exit 2,[(1,.list (.int .u64)),(5,.own 180 (.int .u64)),(6,.int .i64),(8,.int .u64),(17,.list (.int .u64)),(18,.int .i64),(19,.int .i64),(100000,.ar 180 (.int .u64))])]
def j9(x:Shape.den iL):Option (Shape.den iL⊕aW mC):=match x with
 | (v1,v5,v6,v7,v8,v17,v18,v19,v24,v25,v26,v100000,()) =>
  bif ltI v26 v25 then
   bif aI v26 v24.length then bif aI (aB .i64 (v6+v26)) v5.length then bif Nat.blt ((aB .i64 (v6+v26)).toNat) v5.length then bif aI (aB .i64 (v6+v26)) v5.length then bif Nat.blt ((aB .i64 (v6+v26)).toNat) v5.length then some (.inl (v1,(v5.set ((aB .i64 (v6+v26)).toNat) ((aB .u64 (v8+(aB .u64 ((v5.getD ((aB .i64 (v6+v26)).toNat) 0)+(aB .u64 (v7*(v24.getD v26.toNat 0))))))).tmod 1000000000)),v6,v7,(aB .u64 ((aB .u64 (v8+(aB .u64 ((v5.getD ((aB .i64 (v6+v26)).toNat) 0)+(aB .u64 (v7*(v24.getD v26.toNat 0))))))).tdiv 1000000000)),v17,v18,v19,v24,v25,(aB .i64 (v26+1)),v100000,())) else none else none else none else none else none
  else some (.inr ((v1,v5,v6,v8,v17,v18,v19,v100000,())))
def n9(x:Shape.den iL):Option (aW mC):=cE j9 (2^64) x
abbrev iK:List (Nat×Kd):=[(1,.list (.int .u64)),(5,.own 180 (.int .u64)),(17,.list (.int .u64)),(18,.int .i64),(19,.int .i64),(100000,.ar 180 (.int .u64))]
abbrev lZ:List (Ex×List (Nat×Kd)):=[(.exit 0,[(5,.own 180 (.int .u64)),(100000,.ar 180 (.int .u64))])]
def kN(x:Shape.den iK):Option (Shape.den iK⊕aW lZ):=match x with
 | (v1,v5,v17,v18,v19,v100000,()) =>
  bif ltI v19 v18 then
   bif aI v19 v17.length then aC (n9 (v1,v5,v19,(v17.getD v19.toNat 0),0,v17,v18,v19,v1,(v1.length:Int),0,v100000,())) λz2 =>
   bif aI (aB .i64 (z2.2.2.1+(z2.1.length:Int))) z2.2.1.length then bif Nat.blt ((aB .i64 (z2.2.2.1+(z2.1.length:Int))).toNat) z2.2.1.length then some (.inl (z2.1,(z2.2.1.set ((aB .i64 (z2.2.2.1+(z2.1.length:Int))).toNat) z2.2.2.2.1),z2.2.2.2.2.1,z2.2.2.2.2.2.1,(aB .i64 (z2.2.2.2.2.2.2.1+1)),z2.2.2.2.2.2.2.2.1,())) else none else none else none
  else some (.inr ((v5,v100000,())))
def oH(x:Shape.den iK):Option (aW lZ):=cE kN (2^64) x
def eQ(u0:Unit)(x:aH [.list (.int .u64),.list (.int .u64)])(A:List (List Int)):Option ((List Int)×List (List Int)):=match x with
 | (v0,v1,()) =>
  bif !(ltI (aB .i64 ((v0.length:Int)+(v1.length:Int))) 0) then bif !(ltI (aB .i64 ((v0.length:Int)+(v1.length:Int))) (aB .i64 ((v0.length:Int)+(v1.length:Int)))) then bif !(ltI 1048576 (aB .i64 ((v0.length:Int)+(v1.length:Int)))) then aC (oH (v1,(List.replicate ((aB .i64 ((v0.length:Int)+(v1.length:Int))).toNat) 0),v0,(v0.length:Int),0,A,())) λz3 =>
  aC (bH z3.1 (()) z3.2.1) λy4 =>
  some y4 else none else none else none
def sV:Code:=aQ Tryz.f220
abbrev sP:Env:=NN [] [iD]
theorem uR:bC tP sP:=o9 trivial ⟨iE,trivial⟩
def mY:Code:=eR sV 0
def vL:Code:=eR mY 0
def rL(id:Nat):Option b9:=bif Nat.beq id 7 then some ⟨iL,mC,n9⟩ else bif Nat.beq id 3 then some ⟨iK,lZ,oH⟩ else none
theorem LY:∀ x,eM tP sP 63 (aG Tryz.f220) rL vL iL mC x=j9 x:=by
 rintro⟨v1,v5,v6,v7,v8,v17,v18,v19,v24,v25,v26,v100000,⟨⟩⟩
 kernel_rfl
theorem MV:cT tP 63 vL ⟨iL,mC,n9⟩:=by exact cQ uR.callee aK.mixed _ (aD (l:=[]) (by kernel_rfl) trivial) LY
theorem L5:∀ x,eM tP sP 63 (aG Tryz.f220) rL mY iK lZ x=kN x:=by
 rintro⟨v1,v5,v17,v18,v19,v100000,⟨⟩⟩
 kernel_rfl
theorem QG:cB mY=[vL]:=by kernel_rfl
theorem MJ:cT tP 63 mY ⟨iK,lZ,oH⟩:=by exact cQ uR.callee aK.mixed _ (aD QG ⟨cO (i:=7) (by kernel_rfl) rfl MV,trivial⟩) L5
theorem N0:cB sV=[mY]:=by kernel_rfl
theorem PO:∀ l x A,GM tP sP Tryz.f220 (aG Tryz.f220) rL sV 180 (.int .u64) .none [.list (.int .u64),.list (.int .u64)] (.own 180 (.int .u64)) l x A=eQ l x A:=by
 rintro u0 ⟨v0,v1,⟨⟩⟩ A
 kernel_rfl
theorem TK:MZ tP 220 180 (.int .u64) .none [.list (.int .u64),.list (.int .u64)] (.own 180 (.int .u64)) eQ:=by exact BG aK uR Tryz.func220 (c:=sV) (by kernel_rfl) (aV:=aG Tryz.f220) (lt:=rL) (by rfl) (aD N0 ⟨cO (i:=3) (by kernel_rfl) rfl MJ,trivial⟩) PO
abbrev yU:Shr:=(220,TG 0 (arH 180 (.int .u64) .none [.list (.int .u64),.list (.int .u64)] (.own 180 (.int .u64)) eQ))
theorem EC:xB tP yU:=sO (g:=220) (f:=arH 180 (.int .u64) .none [.list (.int .u64),.list (.int .u64)] (.own 180 (.int .u64)) eQ) (FJ TK)
def fH(u0:Unit) (x:aH [.list (.int .u64),.int .u64]) (A:List (List Int)):Option ((List Int)×List (List Int)):=match x with
 | (v0,v1,()) =>
  aC (oV ([v1],())) λy1 =>
  aC (eQ () (v0,y1.1,()) A) λy2 =>
  some y2
def xD:Code:=aQ Tryz.f240
abbrev GL:Env:=NN [KW] [yU]
theorem OA:bC tP GL:=o9 ⟨UY,trivial⟩ ⟨EC,trivial⟩
def EN(id:Nat):Option b9:=none
theorem NW:cB xD=[]:=by kernel_rfl
theorem N8:∀ l x A,GM tP GL Tryz.f240 (aG Tryz.f240) EN xD 180 (.int .u64) .none [.list (.int .u64),.int .u64] (.own 180 (.int .u64)) l x A=fH l x A:=by
 rintro u0 ⟨v0,v1,⟨⟩⟩ A
 kernel_rfl
theorem SF:MZ tP 240 180 (.int .u64) .none [.list (.int .u64),.int .u64] (.own 180 (.int .u64)) fH:=by exact BG aK OA Tryz.func240 (c:=xD) (by kernel_rfl) (aV:=aG Tryz.f240) (lt:=EN) (by rfl) (aD NW trivial) N8
abbrev GH:Shr:=(240,TG 0 (arH 180 (.int .u64) .none [.list (.int .u64),.int .u64] (.own 180 (.int .u64)) fH))
theorem OJ:xB tP GH:=sO (g:=240) (f:=arH 180 (.int .u64) .none [.list (.int .u64),.int .u64] (.own 180 (.int .u64)) fH) (FJ SF)
abbrev jJ:List (Nat×Kd):=[(0,.list (.int .u64)),(1,.int .u64),(6,.own 180 (.int .u64)),(7,.int .u64),(8,.int .i64),(100000,.ar 180 (.int .u64))]
abbrev mU:List (Ex×List (Nat×Kd)):=[(.exit 0,[(6,.own 180 (.int .u64)),(7,.int .u64),(100000,.ar 180 (.int .u64))])]
def lG(x:Shape.den jJ):Option (Shape.den jJ⊕aW mU):=match x with
 | (v0,v1,v6,v7,v8,v100000,()) =>
  bif !(ltI v8 0) then
   bif aI v8 v0.length then bif eqI v1 0 then none else bif aI v8 v6.length then bif Nat.blt v8.toNat v6.length then bif eqI v1 0 then none else some (.inl (v0,v1,(v6.set v8.toNat (aB .u64 ((aB .u64 ((aB .u64 (v7*1000000000))+(v0.getD v8.toNat 0))).tdiv v1))),((aB .u64 ((aB .u64 (v7*1000000000))+(v0.getD v8.toNat 0))).tmod v1),(aB .i64 (v8-1)),v100000,())) else none else none else none
  else some (.inr ((v6,v7,v100000,())))
def pB(x:Shape.den jJ):Option (aW mU):=cE lG (2^64) x
def fA(u0:Unit)(x:aH [.list (.int .u64),.int .u64])(A:List (List Int)):Option ((aH [.list (.int .u64),.int .u64])×List (List Int)):=match x with
 | (v0,v1,()) =>
  bif !(ltI (v0.length:Int) 0) then bif !(ltI (v0.length:Int) (v0.length:Int)) then bif !(ltI 1048576 (v0.length:Int)) then aC (pB (v0,v1,(List.replicate ((v0.length:Int).toNat) 0),0,(aB .i64 ((v0.length:Int)-1)),A,())) λz1 =>
  aC (bH z1.1 (()) z1.2.2.1) λy2 =>
  some ((y2.1,z1.2.1,()),y2.2) else none else none else none
def tR:Code:=aQ Tryz.f229
abbrev AG:Env:=NN [] [iD]
theorem E4:bC tP AG:=o9 trivial ⟨iE,trivial⟩
def xH:Code:=eR tR 0
def zC(id:Nat):Option b9:=bif Nat.beq id 4 then some ⟨jJ,mU,pB⟩ else none
theorem M8:∀ x,eM tP AG 38 (aG Tryz.f229) zC xH jJ mU x=lG x:=by
 rintro⟨v0,v1,v6,v7,v8,v100000,⟨⟩⟩
 kernel_rfl
theorem OM:cT tP 38 xH ⟨jJ,mU,pB⟩:=by exact cQ E4.callee aK.mixed _ (aD (l:=[]) (by kernel_rfl) trivial) M8
theorem PN:cB tR=[xH]:=by kernel_rfl
theorem S0:∀ l x A,GM tP AG Tryz.f229 (aG Tryz.f229) zC tR 180 (.int .u64) .none [.list (.int .u64),.int .u64] (.data [.list (.int .u64),.int .u64]) l x A=fA l x A:=by
 rintro u0 ⟨v0,v1,⟨⟩⟩ A
 kernel_rfl
theorem UW:MZ tP 229 180 (.int .u64) .none [.list (.int .u64),.int .u64] (.data [.list (.int .u64),.int .u64]) fA:=by exact BG aK E4 Tryz.func229 (c:=tR) (by kernel_rfl) (aV:=aG Tryz.f229) (lt:=zC) (by rfl) (aD PN ⟨cO (i:=4) (by kernel_rfl) rfl OM,trivial⟩) S0
abbrev BD:Shr:=(229,TG 0 (arH 180 (.int .u64) .none [.list (.int .u64),.int .u64] (.data [.list (.int .u64),.int .u64]) fA))
theorem EO:xB tP BD:=sO (g:=229) (f:=arH 180 (.int .u64) .none [.list (.int .u64),.int .u64] (.data [.list (.int .u64),.int .u64]) fA) (FJ UW)
abbrev gQ:List (Nat×Kd):=[(0,.hnd 1),(1,.list (.int .u64)),(2,.int .u64),(3,.int .i64),(9,.int .i64),(10,.int .u64),(11,.int .i64),(100000,.ar 180 (.int .u64))]
abbrev kW:List (Ex×List (Nat×Kd)):=[(.exit 0,[(9,.int .i64),(100000,.ar 180 (.int .u64))])]
def fQ(x:Shape.den gQ):Option (Shape.den gQ⊕aW kW):=match x with
 | (v0,v1,v2,v3,v9,v10,v11,v100000,()) =>
  bif !(ltI (v1.length:Int) v11) then
   bif ltI v11 (v1.length:Int) then
    bif aI v11 v1.length then bif aI (aB .i64 (v3+v11)) v0.2.2 then bif Nat.blt ((v0.2.1+(aB .i64 (v3+v11)).toNat)*1) (dJ v100000 v0.1) then bif ltI (aB .i64 ((aB .i64 ((IntKind.wrap .i64 (eD v100000 v0.1 ((v0.2.1+(aB .i64 (v3+v11)).toNat)*1) 0))-(IntKind.wrap .i64 ((aB .u64 (v10+(aB .u64 (v2*(v1.getD v11.toNat 0))))).tmod 1000000000))))-v9)) 0 then
     bif aI (aB .i64 (v3+v11)) v0.2.2 then bif Nat.blt ((v0.2.1+(aB .i64 (v3+v11)).toNat)*1) (dJ v100000 v0.1) then some (.inl ((v0.1,v0.2.1,v0.2.2),v1,v2,v3,1,(aB .u64 ((aB .u64 (v10+(aB .u64 (v2*(v1.getD v11.toNat 0))))).tdiv 1000000000)),(aB .i64 (v11+1)),(vK v100000 v0.1 ((v0.2.1+(aB .i64 (v3+v11)).toNat)*1) (IntKind.wrap .u64 (aB .i64 ((aB .i64 ((aB .i64 ((IntKind.wrap .i64 (eD v100000 v0.1 ((v0.2.1+(aB .i64 (v3+v11)).toNat)*1) 0))-(IntKind.wrap .i64 ((aB .u64 (v10+(aB .u64 (v2*(v1.getD v11.toNat 0))))).tmod 1000000000))))-v9))+1000000000)))),())) else none else none
    else bif aI (aB .i64 (v3+v11)) v0.2.2 then bif Nat.blt ((v0.2.1+(aB .i64 (v3+v11)).toNat)*1) (dJ v100000 v0.1) then some (.inl ((v0.1,v0.2.1,v0.2.2),v1,v2,v3,0,(aB .u64 ((aB .u64 (v10+(aB .u64 (v2*(v1.getD v11.toNat 0))))).tdiv 1000000000)),(aB .i64 (v11+1)),(vK v100000 v0.1 ((v0.2.1+(aB .i64 (v3+v11)).toNat)*1) (IntKind.wrap .u64 (aB .i64 ((aB .i64 ((IntKind.wrap .i64 (eD v100000 v0.1 ((v0.2.1+(aB .i64 (v3+v11)).toNat)*1) 0))-(IntKind.wrap .i64 ((aB .u64 (v10+(aB .u64 (v2*(v1.getD v11.toNat 0))))).tmod 1000000000))))-v9)))),())) else none else none else none else none else none
   else bif aI (aB .i64 (v3+v11)) v0.2.2 then bif Nat.blt ((v0.2.1+(aB .i64 (v3+v11)).toNat)*1) (dJ v100000 v0.1) then bif ltI (aB .i64 ((aB .i64 ((IntKind.wrap .i64 (eD v100000 v0.1 ((v0.2.1+(aB .i64 (v3+v11)).toNat)*1) 0))-(IntKind.wrap .i64 (v10.tmod 1000000000))))-v9)) 0 then
    bif aI (aB .i64 (v3+v11)) v0.2.2 then bif Nat.blt ((v0.2.1+(aB .i64 (v3+v11)).toNat)*1) (dJ v100000 v0.1) then some (.inl ((v0.1,v0.2.1,v0.2.2),v1,v2,v3,1,(aB .u64 (v10.tdiv 1000000000)),(aB .i64 (v11+1)),(vK v100000 v0.1 ((v0.2.1+(aB .i64 (v3+v11)).toNat)*1) (IntKind.wrap .u64 (aB .i64 ((aB .i64 ((aB .i64 ((IntKind.wrap .i64 (eD v100000 v0.1 ((v0.2.1+(aB .i64 (v3+v11)).toNat)*1) 0))-(IntKind.wrap .i64 (v10.tmod 1000000000))))-v9))+1000000000)))),())) else none else none
   else bif aI (aB .i64 (v3+v11)) v0.2.2 then bif Nat.blt ((v0.2.1+(aB .i64 (v3+v11)).toNat)*1) (dJ v100000 v0.1) then some (.inl ((v0.1,v0.2.1,v0.2.2),v1,v2,v3,0,(aB .u64 (v10.tdiv 1000000000)),(aB .i64 (v11+1)),(vK v100000 v0.1 ((v0.2.1+(aB .i64 (v3+v11)).toNat)*1) (IntKind.wrap .u64 (aB .i64 ((aB .i64 ((IntKind.wrap .i64 (eD v100000 v0.1 ((v0.2.1+(aB .i64 (v3+v11)).toNat)*1) 0))-(IntKind.wrap .i64 (v10.tmod 1000000000))))-v9)))),())) else none else none else none else none
  else some (.inr ((v9,v100000,())))
def p8(x:Shape.den gQ):Option (aW kW):=cE fQ (2^64) x
def eS(u0:Unit)(x:aH [.hnd 1,.list (.int .u64),.int .u64,.int .i64])(A:List (List Int)):Option ((aH [.bool])×List (List Int)):=match x with
 | (v0,v1,v2,v3,()) =>
  aC (p8 ((v0.1,v0.2.1,v0.2.2),v1,v2,v3,0,0,0,A,())) λz1 =>
  some ((ltI 0 z1.1,()),z1.2.1)
def uU:Code:=aQ Tryz.f219
abbrev CD:Env:=cG []
theorem GJ:bC tP CD:=bG trivial
def zE:Code:=eR uU 0
def AL(id:Nat):Option b9:=bif Nat.beq id 4 then some ⟨gQ,kW,p8⟩ else none
theorem OD:∀ x,eM tP CD 59 (aG Tryz.f219) AL zE gQ kW x=fQ x:=by
 rintro⟨v0,v1,v2,v3,v9,v10,v11,v100000,⟨⟩⟩
 kernel_rfl
theorem PJ:cT tP 59 zE ⟨gQ,kW,p8⟩:=by exact cQ GJ.callee aK.mixed _ (aD (l:=[]) (by kernel_rfl) trivial) OD
theorem SV:cB uU=[zE]:=by kernel_rfl
theorem S5:∀ l x A,GM tP CD Tryz.f219 (aG Tryz.f219) AL uU 180 (.int .u64) .none [.hnd 1,.list (.int .u64),.int .u64,.int .i64] (.data [.bool]) l x A=eS l x A:=by
 rintro u0 ⟨v0,v1,v2,v3,⟨⟩⟩ A
 kernel_rfl
theorem W3:MZ tP 219 180 (.int .u64) .none [.hnd 1,.list (.int .u64),.int .u64,.int .i64] (.data [.bool]) eS:=by exact BG aK GJ Tryz.func219 (c:=uU) (by kernel_rfl) (aV:=aG Tryz.f219) (lt:=AL) (by rfl) (aD SV ⟨cO (i:=4) (by kernel_rfl) rfl PJ,trivial⟩) S5
theorem UT:a0C tP 219 180 (.int .u64) [.list (.int .u64),.int .u64,.int .i64] [.bool] (aB4 eS):=aON W3 (by rfl) (by rfl) (by rfl)
abbrev AR:Shr:=(219,TG 1 (a0N 180 (.int .u64) [.list (.int .u64),.int .u64,.int .i64] [.bool] (aB4 eS)))
theorem FG:xB tP AR:=sO (a3Y UT)
abbrev kV:List (Nat×Kd):=[(0,.hnd 1),(1,.list (.int .u64)),(2,.int .i64),(6,.int .u64),(7,.int .i64),(100000,.ar 180 (.int .u64))]
abbrev nU:List (Ex×List (Nat×Kd)):=[(.exit 0,[(100000,.ar 180 (.int .u64))])]
def fT(x:Shape.den kV):Option (Shape.den kV⊕aW nU):=match x with
 | (v0,v1,v2,v6,v7,v100000,()) =>
  bif !(ltI (v1.length:Int) v7) then
   bif aI (aB .i64 (v2+v7)) v0.2.2 then bif Nat.blt ((v0.2.1+(aB .i64 (v2+v7)).toNat)*1) (dJ v100000 v0.1) then bif ltI v7 (v1.length:Int) then
    bif aI v7 v1.length then bif aI (aB .i64 (v2+v7)) v0.2.2 then bif Nat.blt ((v0.2.1+(aB .i64 (v2+v7)).toNat)*1) (dJ v100000 v0.1) then some (.inl ((v0.1,v0.2.1,v0.2.2),v1,v2,(aB .u64 ((aB .u64 ((aB .u64 (v6+(eD v100000 v0.1 ((v0.2.1+(aB .i64 (v2+v7)).toNat)*1) 0)))+(v1.getD v7.toNat 0))).tdiv 1000000000)),(aB .i64 (v7+1)),(vK v100000 v0.1 ((v0.2.1+(aB .i64 (v2+v7)).toNat)*1) ((aB .u64 ((aB .u64 (v6+(eD v100000 v0.1 ((v0.2.1+(aB .i64 (v2+v7)).toNat)*1) 0)))+(v1.getD v7.toNat 0))).tmod 1000000000)),())) else none else none else none
   else bif aI (aB .i64 (v2+v7)) v0.2.2 then bif Nat.blt ((v0.2.1+(aB .i64 (v2+v7)).toNat)*1) (dJ v100000 v0.1) then some (.inl ((v0.1,v0.2.1,v0.2.2),v1,v2,(aB .u64 ((aB .u64 (v6+(eD v100000 v0.1 ((v0.2.1+(aB .i64 (v2+v7)).toNat)*1) 0))).tdiv 1000000000)),(aB .i64 (v7+1)),(vK v100000 v0.1 ((v0.2.1+(aB .i64 (v2+v7)).toNat)*1) ((aB .u64 (v6+(eD v100000 v0.1 ((v0.2.1+(aB .i64 (v2+v7)).toNat)*1) 0))).tmod 1000000000)),())) else none else none else none else none
  else some (.inr ((v100000,())))
def qD(x:Shape.den kV):Option (aW nU):=cE fT (2^64) x
def dC(u0:Unit)(x:aH [.hnd 1,.list (.int .u64),.int .i64])(A:List (List Int)):Option ((aH [])×List (List Int)):=match x with
 | (v0,v1,v2,()) =>
  aC (qD ((v0.1,v0.2.1,v0.2.2),v1,v2,0,0,A,())) λz1 =>
  some ((()),z1.1)
def uZ:Code:=aQ Tryz.f216
abbrev CP:Env:=cG []
theorem GG:bC tP CP:=bG trivial
def yX:Code:=eR uZ 0
def AY(id:Nat):Option b9:=bif Nat.beq id 2 then some ⟨kV,nU,qD⟩ else none
theorem N6:∀ x,eM tP CP 41 (aG Tryz.f216) AY yX kV nU x=fT x:=by
 rintro⟨v0,v1,v2,v6,v7,v100000,⟨⟩⟩
 kernel_rfl
theorem P7:cT tP 41 yX ⟨kV,nU,qD⟩:=by exact cQ GG.callee aK.mixed _ (aD (l:=[]) (by kernel_rfl) trivial) N6
theorem RF:cB uZ=[yX]:=by kernel_rfl
theorem TF:∀ l x A,GM tP CP Tryz.f216 (aG Tryz.f216) AY uZ 180 (.int .u64) .none [.hnd 1,.list (.int .u64),.int .i64] (.data []) l x A=dC l x A:=by
 rintro u0 ⟨v0,v1,v2,⟨⟩⟩ A
 kernel_rfl
theorem WO:MZ tP 216 180 (.int .u64) .none [.hnd 1,.list (.int .u64),.int .i64] (.data []) dC:=by exact BG aK GG Tryz.func216 (c:=uZ) (by kernel_rfl) (aV:=aG Tryz.f216) (lt:=AY) (by rfl) (aD RF ⟨cO (i:=2) (by kernel_rfl) rfl P7,trivial⟩) TF
theorem VB:aWR tP 216 180 (.int .u64) [.list (.int .u64),.int .i64] (SQ dC):=aJS WO (by rfl) (by rfl)
abbrev AB:Shr:=(216,TG 1 (a1X 180 (.int .u64) [.list (.int .u64),.int .i64] (SQ dC)))
theorem EU:xB tP AB:=sO (aSZ VB)
abbrev mJ:List (Nat×Kd):=[(0,.list (.int .u64)),(3,.own 5 (.int .u8)),(4,.int .i64),(5,.int .u64),(6,.int .i64),(14,.list (.int .u64)),(15,.int .i64),(16,.int .i64)]
abbrev pS:List (Ex×List (Nat×Kd)):=[(.exit 2,[(0,.list (.int .u64)),(3,.own 5 (.int .u8)),(14,.list (.int .u64)),(15,.int .i64),(16,.int .i64)])]
def fG(x:Shape.den mJ):Option (Shape.den mJ⊕aW pS):=match x with
 | (v0,v3,v4,v5,v6,v14,v15,v16,()) =>
  bif ltI v6 9 then
   bif ltI (aB .i64 (v4+1)) (v0.length:Int) then
    bif Nat.ble [(IntKind.wrap .u8 (aB .u64 (48+(v5.tmod 10))))].length 1048576 then bif Nat.ble v3.length 1048576 then some (.inl (v0,(v3++[(IntKind.wrap .u8 (aB .u64 (48+(v5.tmod 10))))]),v4,(aB .u64 (v5.tdiv 10)),(aB .i64 (v6+1)),v14,v15,v16,())) else none else none
   else bif ltI 0 v5 then
    bif Nat.ble [(IntKind.wrap .u8 (aB .u64 (48+(v5.tmod 10))))].length 1048576 then bif Nat.ble v3.length 1048576 then some (.inl (v0,(v3++[(IntKind.wrap .u8 (aB .u64 (48+(v5.tmod 10))))]),v4,(aB .u64 (v5.tdiv 10)),(aB .i64 (v6+1)),v14,v15,v16,())) else none else none
   else some (.inr ((v0,v3,v14,v15,v16,())))
  else some (.inr ((v0,v3,v14,v15,v16,())))
def nX(x:Shape.den mJ):Option (aW pS):=cE fG (2^64) x
abbrev mM:List (Nat×Kd):=[(0,.list (.int .u64)),(3,.own 5 (.int .u8)),(14,.list (.int .u64)),(15,.int .i64),(16,.int .i64)]
abbrev pQ:List (Ex×List (Nat×Kd)):=[(.exit 0,[(3,.own 5 (.int .u8))])]
def kU(x:Shape.den mM):Option (Shape.den mM⊕aW pQ):=match x with
 | (v0,v3,v14,v15,v16,()) =>
  bif ltI v16 v15 then
   bif aI v16 v14.length then aC (nX (v0,v3,v16,(v14.getD v16.toNat 0),0,v14,v15,v16,())) λz2 =>
   some (.inl (z2.1,z2.2.1,z2.2.2.1,z2.2.2.2.1,(aB .i64 (z2.2.2.2.2.1+1)),())) else none
  else some (.inr ((v3,())))
def nY(x:Shape.den mM):Option (aW pQ):=cE kU (2^64) x
def b8(x:aH [.list (.int .u64)]):Option (aH [.str]):=match x with
 | (v0,()) =>
  bif eqI (v0.length:Int) 0 then
   some ((ByteArray.mk #[48]),())
  else bif !(ltI (aB .i64 (9*(v0.length:Int))) 0) then bif !(ltI 1048576 (aB .i64 (9*(v0.length:Int)))) then aC (nY (v0,(List.replicate 0 0),v0,(v0.length:Int),0,())) λz3 =>
  aC (SQ (t:=(.int .u8)) eH z3.1 (())) λy4 =>
  some ((aN4 y4),()) else none else none
def NT:Code:=aQ Tryz.f218
abbrev E3:Env:=NN [] [DD]
theorem BE:bC tP E3:=o9 trivial ⟨KK,trivial⟩
def qW:Code:=eR NT 0
def CQ:Code:=eR qW 0
def D2(id:Nat):Option b9:=bif Nat.beq id 8 then some ⟨mJ,pS,nX⟩ else bif Nat.beq id 5 then some ⟨mM,pQ,nY⟩ else none
theorem S1:∀ x,eM tP E3 50 (aG Tryz.f218) D2 CQ mJ pS x=fG x:=by
 rintro⟨v0,v3,v4,v5,v6,v14,v15,v16,⟨⟩⟩
 kernel_rfl
theorem TJ:cT tP 50 CQ ⟨mJ,pS,nX⟩:=by exact cQ BE.callee aK.mixed _ (aD (l:=[]) (by kernel_rfl) trivial) S1
theorem R1:∀ x,eM tP E3 50 (aG Tryz.f218) D2 qW mM pQ x=kU x:=by
 rintro⟨v0,v3,v14,v15,v16,⟨⟩⟩
 kernel_rfl
theorem W2:cB qW=[CQ]:=by kernel_rfl
theorem TI:cT tP 50 qW ⟨mM,pQ,nY⟩:=by exact cQ BE.callee aK.mixed _ (aD W2 ⟨cO (i:=8) (by kernel_rfl) rfl TJ,trivial⟩) R1
theorem aAJ:eX tP 218 _ _ b8:=by exact bX aK BE Tryz.func218 (c:=NT) (by kernel_rfl) (aV:=aG Tryz.f218) (lt:=D2) (aD (l:=[qW]) (by kernel_rfl) ⟨cO (i:=5) (by kernel_rfl) rfl TI,trivial⟩) (by rintro⟨v0,⟨⟩⟩; kernel_rfl)
abbrev tG:Ent:=⟨218,_,_,b8⟩
theorem uC:Ent.OK tP tG:=aAJ
abbrev iJ:List (Nat×Kd):=[(0,.list (.int .u64)),(6,.int .u64),(7,.own 180 (.int .u64)),(8,.list (.int .u64)),(9,.int .i64),(100000,.ar 180 (.int .u64))]
abbrev l4:List (Ex×List (Nat×Kd)):=[(.exit 0,[(6,.int .u64),(7,.own 180 (.int .u64)),(8,.list (.int .u64)),(9,.int .i64),(100000,.ar 180 (.int .u64))])]
def oB(x:Shape.den iJ):Option (Shape.den iJ⊕aW l4):=match x with
 | (v0,v6,v7,v8,v9,v100000,()) =>
  bif !(ltI (v0.length:Int) (v7.length:Int)) then
   bif Nat.ble [0].length 1048576 then bif Nat.ble v7.length 1048576 then some (.inl (v0,v6,(v7++[0]),v8,v9,v100000,())) else none else none
  else some (.inr ((v6,v7,v8,v9,v100000,())))
def oO(x:Shape.den iJ):Option (aW l4):=cE oB (2^64) x
abbrev iM:List (Nat×Kd):=[(6,.int .u64),(7,.own 180 (.int .u64)),(8,.list (.int .u64)),(9,.int .i64),(10,.own 180 (.int .u64)),(11,.int .i64),(13,.int .u64),(14,.int .u64),(100000,.ar 180 (.int .u64))]
abbrev l6:List (Ex×List (Nat×Kd)):=[(.exit 4,[(6,.int .u64),(7,.own 180 (.int .u64)),(8,.list (.int .u64)),(9,.int .i64),(10,.own 180 (.int .u64)),(11,.int .i64),(13,.int .u64),(100000,.ar 180 (.int .u64))])]
def kA(x:Shape.den iM):Option (Shape.den iM⊕aW l6):=match x with
 | (v6,v7,v8,v9,v10,v11,v13,v14,v100000,()) =>
  bif !(ltI v13 1000000000) then
   bif aI (aB .i64 (v9-1)) v8.length then some (.inl (v6,v7,v8,v9,v10,v11,(aB .u64 (v13-1)),(aB .u64 (v14+(v8.getD ((aB .i64 (v9-1)).toNat) 0))),v100000,())) else none
  else bif ltI v14 1000000000 then
   bif aI (aB .i64 (v9-2)) v8.length then bif aI (aB .i64 ((aB .i64 (v11+v9))-2)) v7.length then bif Nat.blt ((aB .i64 ((aB .i64 (v11+v9))-2)).toNat) v7.length then bif ltI (aB .u64 ((aB .u64 (v14*1000000000))+(v7.getD ((aB .i64 ((aB .i64 (v11+v9))-2)).toNat) 0))) (aB .u64 (v13*(v8.getD ((aB .i64 (v9-2)).toNat) 0))) then
    bif aI (aB .i64 (v9-1)) v8.length then some (.inl (v6,v7,v8,v9,v10,v11,(aB .u64 (v13-1)),(aB .u64 (v14+(v8.getD ((aB .i64 (v9-1)).toNat) 0))),v100000,())) else none
   else some (.inr ((v6,v7,v8,v9,v10,v11,v13,v100000,()))) else none else none else none
  else some (.inr ((v6,v7,v8,v9,v10,v11,v13,v100000,())))
def oM(x:Shape.den iM):Option (aW l6):=cE kA (2^64) x
abbrev iP:List (Nat×Kd):=[(6,.int .u64),(7,.own 180 (.int .u64)),(8,.list (.int .u64)),(9,.int .i64),(10,.own 180 (.int .u64)),(11,.int .i64),(100000,.ar 180 (.int .u64))]
abbrev mE:List (Ex×List (Nat×Kd)):=[(.exit 2,[(6,.int .u64),(7,.own 180 (.int .u64)),(10,.own 180 (.int .u64)),(100000,.ar 180 (.int .u64))])]
def eY(x:Shape.den iP):Option (Shape.den iP⊕aW mE):=match x with
 | (v6,v7,v8,v9,v10,v11,v100000,()) =>
  bif !(ltI v11 0) then
   bif aI (aB .i64 (v11+v9)) v7.length then bif Nat.blt ((aB .i64 (v11+v9)).toNat) v7.length then bif aI (aB .i64 ((aB .i64 (v11+v9))-1)) v7.length then bif Nat.blt ((aB .i64 ((aB .i64 (v11+v9))-1)).toNat) v7.length then bif aI (aB .i64 (v9-1)) v8.length then bif eqI (v8.getD ((aB .i64 (v9-1)).toNat) 0) 0 then none else bif aI (aB .i64 (v9-1)) v8.length then bif eqI (v8.getD ((aB .i64 (v9-1)).toNat) 0) 0 then none else aC (oM (v6,v7,v8,v9,v10,v11,(aB .u64 ((aB .u64 ((aB .u64 ((v7.getD ((aB .i64 (v11+v9)).toNat) 0)*1000000000))+(v7.getD ((aB .i64 ((aB .i64 (v11+v9))-1)).toNat) 0))).tdiv (v8.getD ((aB .i64 (v9-1)).toNat) 0))),((aB .u64 ((aB .u64 ((v7.getD ((aB .i64 (v11+v9)).toNat) 0)*1000000000))+(v7.getD ((aB .i64 ((aB .i64 (v11+v9))-1)).toNat) 0))).tmod (v8.getD ((aB .i64 (v9-1)).toNat) 0)),v100000,())) λz7 =>
   aC (aB4 (t:=(.int .u64)) (rets:=[.bool]) eS z7.2.1 (z7.2.2.1,z7.2.2.2.2.2.2.1,z7.2.2.2.2.2.1,())) λy8 =>
   bif y8.1.1 then
    aC (SQ (t:=(.int .u64)) dC y8.2 (z7.2.2.1,z7.2.2.2.2.2.1,())) λy9 =>
    bif aI z7.2.2.2.2.2.1 z7.2.2.2.2.1.length then bif Nat.blt z7.2.2.2.2.2.1.toNat z7.2.2.2.2.1.length then some (.inl (z7.1,y9,z7.2.2.1,z7.2.2.2.1,(z7.2.2.2.2.1.set z7.2.2.2.2.2.1.toNat (aB .u64 (z7.2.2.2.2.2.2.1-1))),(aB .i64 (z7.2.2.2.2.2.1-1)),z7.2.2.2.2.2.2.2.1,())) else none else none
   else bif aI z7.2.2.2.2.2.1 z7.2.2.2.2.1.length then bif Nat.blt z7.2.2.2.2.2.1.toNat z7.2.2.2.2.1.length then some (.inl (z7.1,y8.2,z7.2.2.1,z7.2.2.2.1,(z7.2.2.2.2.1.set z7.2.2.2.2.2.1.toNat z7.2.2.2.2.2.2.1),(aB .i64 (z7.2.2.2.2.2.1-1)),z7.2.2.2.2.2.2.2.1,())) else none else none else none else none else none else none else none else none
  else some (.inr ((v6,v7,v10,v100000,())))
def oI(x:Shape.den iP):Option (aW mE):=cE eY (2^64) x
def fX(u0:Unit)(x:aH [.list (.int .u64),.list (.int .u64)])(A:List (List Int)):Option ((aH [.list (.int .u64),.list (.int .u64)])×List (List Int)):=match x with
 | (v0,v1,()) =>
  bif aI (aB .i64 ((v1.length:Int)-1)) v1.length then bif eqI (aB .u64 ((v1.getD ((aB .i64 ((v1.length:Int)-1)).toNat) 0)+1)) 0 then none else aC (fH () (v0,(aB .u64 ((1000000000:Int).tdiv (aB .u64 ((v1.getD ((aB .i64 ((v1.length:Int)-1)).toNat) 0)+1)))),()) A) λy1 =>
  bif Nat.ble [0].length 1048576 then bif Nat.ble y1.1.length 1048576 then aC (fH () (v1,(aB .u64 ((1000000000:Int).tdiv (aB .u64 ((v1.getD ((aB .i64 ((v1.length:Int)-1)).toNat) 0)+1)))),()) y1.2) λy2 =>
  aC (oO (v0,(aB .u64 ((1000000000:Int).tdiv (aB .u64 ((v1.getD ((aB .i64 ((v1.length:Int)-1)).toNat) 0)+1)))),(y1.1++[0]),y2.1,(y2.1.length:Int),y2.2,())) λz3 =>
  bif !(ltI (aB .i64 ((z3.2.1.length:Int)-z3.2.2.2.1)) 0) then bif !(ltI (aB .i64 ((z3.2.1.length:Int)-z3.2.2.2.1)) (aB .i64 ((z3.2.1.length:Int)-z3.2.2.2.1))) then bif !(ltI 1048576 (aB .i64 ((z3.2.1.length:Int)-z3.2.2.2.1))) then aC (oI (z3.1,z3.2.1,z3.2.2.1,z3.2.2.2.1,(List.replicate ((aB .i64 ((z3.2.1.length:Int)-z3.2.2.2.1)).toNat) 0),(aB .i64 ((aB .i64 ((z3.2.1.length:Int)-z3.2.2.2.1))-1)),z3.2.2.2.2.1,())) λz10 =>
  aC (bH z10.2.1 (()) z10.2.2.2.1) λy11 =>
  aC (fA () (y11.1,z10.1,()) y11.2) λy12 =>
  aC (bH z10.2.2.1 (()) y12.2) λy13 =>
  some ((y13.1,y12.1.1,()),y13.2) else none else none else none else none else none else none
def oZ:Code:=aQ Tryz.f230
abbrev o0:Env:=NN [] [AB,GH,BD,AR,iD]
theorem qC:bC tP o0:=o9 trivial ⟨EU,OJ,EO,FG,iE,trivial⟩
def vY:Code:=eR oZ 0
def mS:Code:=eR oZ 1
def vU:Code:=eR mS 0
def nR(id:Nat):Option b9:=bif Nat.beq id 4 then some ⟨iJ,l4,oO⟩ else bif Nat.beq id 12 then some ⟨iM,l6,oM⟩ else bif Nat.beq id 8 then some ⟨iP,mE,oI⟩ else none
theorem L7:∀ x,eM tP o0 146 (aG Tryz.f230) nR vY iJ l4 x=oB x:=by
 rintro⟨v0,v6,v7,v8,v9,v100000,⟨⟩⟩
 kernel_rfl
theorem MY:cT tP 146 vY ⟨iJ,l4,oO⟩:=by exact cQ qC.callee aK.mixed _ (aD (l:=[]) (by kernel_rfl) trivial) L7
theorem LC:∀ x,eM tP o0 146 (aG Tryz.f230) nR vU iM l6 x=kA x:=by
 rintro⟨v6,v7,v8,v9,v10,v11,v13,v14,v100000,⟨⟩⟩
 kernel_rfl
theorem NP:cT tP 146 vU ⟨iM,l6,oM⟩:=by exact cQ qC.callee aK.mixed _ (aD (l:=[]) (by kernel_rfl) trivial) LC
theorem LR:∀ x,eM tP o0 146 (aG Tryz.f230) nR mS iP mE x=eY x:=by
 rintro⟨v6,v7,v8,v9,v10,v11,v100000,⟨⟩⟩
 kernel_rfl
theorem QK:cB mS=[vU]:=by kernel_rfl
theorem MP:cT tP 146 mS ⟨iP,mE,oI⟩:=by exact cQ qC.callee aK.mixed _ (aD QK ⟨cO (i:=12) (by kernel_rfl) rfl NP,trivial⟩) LR
theorem OZ:cB oZ=[vY,mS]:=by kernel_rfl
theorem PZ:∀ l x A,GM tP o0 Tryz.f230 (aG Tryz.f230) nR oZ 180 (.int .u64) .none [.list (.int .u64),.list (.int .u64)] (.data [.list (.int .u64),.list (.int .u64)]) l x A=fX l x A:=by
 rintro u0 ⟨v0,v1,⟨⟩⟩ A
 kernel_rfl
theorem TE:MZ tP 230 180 (.int .u64) .none [.list (.int .u64),.list (.int .u64)] (.data [.list (.int .u64),.list (.int .u64)]) fX:=by exact BG aK qC Tryz.func230 (c:=oZ) (by kernel_rfl) (aV:=aG Tryz.f230) (lt:=nR) (by rfl) (aD OZ ⟨cO (i:=4) (by kernel_rfl) rfl MY,cO (i:=8) (by kernel_rfl) rfl MP,trivial⟩) PZ
abbrev HQ:Shr:=(230,TG 0 (arH 180 (.int .u64) .none [.list (.int .u64),.list (.int .u64)] (.data [.list (.int .u64),.list (.int .u64)]) fX))
theorem P4:xB tP HQ:=sO (g:=230) (f:=arH 180 (.int .u64) .none [.list (.int .u64),.list (.int .u64)] (.data [.list (.int .u64),.list (.int .u64)]) fX) (FJ TE)
def fU(x:aH [.str,.str]):Option (aH [.str]):=match x with
 | (v0,v1,()) =>
  aC (qJ (v0,v1,())) λy1 =>
  bif y1.2.2.1 then
   aC (tE ((aB .u64 (y1.1+y1.2.1)),())) λy2 =>
   some (y2.1,())
  else aC (fE () (v0,()) []) λy3 =>
  aC (fE () (v1,()) y3.2) λy4 =>
  bif ltI (y3.1.length:Int) (y4.1.length:Int) then
   bif Nat.ble [0].length 1048576 then bif Nat.ble y4.1.length 1048576 then bif !(ltI (aB .i64 ((aB .i64 (((y4.1++[0]).length:Int)-1))-(y3.1.length:Int))) 0) then bif !(ltI 1048576 (aB .i64 ((aB .i64 (((y4.1++[0]).length:Int)-1))-(y3.1.length:Int)))) then bif Nat.ble y3.1.length 1048576 then aC (SQ (t:=(.int .u64)) dC (y4.1++[0]) ((y3.1++List.replicate (aB .i64 ((aB .i64 (((y4.1++[0]).length:Int)-1))-(y3.1.length:Int))).toNat (0:Ty.den (.int .u64))),0,())) λy5 =>
   aC (bH y5 (()) y4.2) λy6 =>
   aC (b8 (y6.1,())) λy7 =>
   some (y7.1,()) else none else none else none else none else none
  else bif Nat.ble [0].length 1048576 then bif Nat.ble y3.1.length 1048576 then bif !(ltI (aB .i64 ((aB .i64 (((y3.1++[0]).length:Int)-1))-(y4.1.length:Int))) 0) then bif !(ltI 1048576 (aB .i64 ((aB .i64 (((y3.1++[0]).length:Int)-1))-(y4.1.length:Int)))) then bif Nat.ble y4.1.length 1048576 then aC (SQ (t:=(.int .u64)) dC (y3.1++[0]) ((y4.1++List.replicate (aB .i64 ((aB .i64 (((y3.1++[0]).length:Int)-1))-(y4.1.length:Int))).toNat (0:Ty.den (.int .u64))),0,())) λy8 =>
  aC (bH y8 (()) y4.2) λy9 =>
  aC (b8 (y9.1,())) λy10 =>
  some (y10.1,()) else none else none else none else none else none
def X0:Code:=aQ Tryz.f181
abbrev aHL:Env:=NN [MN,HB,tG] [CZ,AB,iD]
theorem aL7:bC tP aHL:=o9 ⟨JZ,GA,uC,trivial⟩ ⟨B5,EU,iE,trivial⟩
def aES(id:Nat):Option b9:=none
theorem aJP:cB X0=[]:=by kernel_rfl
theorem aLF:∀ x,aEA tP aHL Tryz.f181 (aG Tryz.f181) aES X0 180 (.int .u64) _ _ x=fU x:=by
 rintro⟨v0,v1,⟨⟩⟩
 kernel_rfl
theorem aP8:eX tP 181 _ _ fU:=by exact aKN aK aL7 Tryz.func181 (c:=X0) (by kernel_rfl) (aV:=aG Tryz.f181) (lt:=aES) (aD aJP trivial) aLF
abbrev YC:Ent:=⟨181,_,_,fU⟩
theorem ZL:Ent.OK tP YC:=aP8
def dB(x:aH [.str,.str]):Option (aH [.str,.int .i64]):=match x with
 | (v0,v1,()) =>
  aC (fY (v0,v1,())) λy1 =>
  bif ltI y1.1 0 then
   some ((ByteArray.mk #[]),3,())
  else aC (qJ (v0,v1,())) λy2 =>
  bif y2.2.2.1 then
   aC (tE ((aB .u64 (y2.1-y2.2.1)),())) λy3 =>
   some (y3.1,0,())
  else aC (fE () (v0,()) []) λy4 =>
  bif Nat.ble [0].length 1048576 then bif Nat.ble y4.1.length 1048576 then aC (fE () (v1,()) y4.2) λy5 =>
  aC (fE () (v1,()) y5.2) λy6 =>
  bif !(ltI (aB .i64 ((aB .i64 (((y4.1++[0]).length:Int)-1))-(y6.1.length:Int))) 0) then bif !(ltI 1048576 (aB .i64 ((aB .i64 (((y4.1++[0]).length:Int)-1))-(y6.1.length:Int)))) then bif Nat.ble y5.1.length 1048576 then aC (aB4 (t:=(.int .u64)) (rets:=[.bool]) eS (y4.1++[0]) ((y5.1++List.replicate (aB .i64 ((aB .i64 (((y4.1++[0]).length:Int)-1))-(y6.1.length:Int))).toNat (0:Ty.den (.int .u64))),1,0,())) λy7 =>
  aC (bH y7.2 (()) y6.2) λy8 =>
  aC (b8 (y8.1,())) λy9 =>
  some (y9.1,0,()) else none else none else none else none else none
def XW:Code:=aQ Tryz.f183
abbrev aG9:Env:=NN [GC,MN,HB,tG] [CZ,AR,iD]
theorem aLE:bC tP aG9:=o9 ⟨GY,JZ,GA,uC,trivial⟩ ⟨B5,FG,iE,trivial⟩
def aEF(id:Nat):Option b9:=none
theorem aIW:cB XW=[]:=by kernel_rfl
theorem aLY:∀ x,aEA tP aG9 Tryz.f183 (aG Tryz.f183) aEF XW 180 (.int .u64) _ _ x=dB x:=by
 rintro⟨v0,v1,⟨⟩⟩
 kernel_rfl
theorem aQE:eX tP 183 _ _ dB:=by exact aKN aK aLE Tryz.func183 (c:=XW) (by kernel_rfl) (aV:=aG Tryz.f183) (lt:=aEF) (aD aIW trivial) aLY
abbrev YL:Ent:=⟨183,_,_,dB⟩
theorem ZI:Ent.OK tP YL:=aQE
def fR(x:aH [.str,.str]):Option (aH [.str]):=match x with
 | (v0,v1,()) =>
  bif !(ltI 18 (aB .i64 ((v0.size:Int)+(v1.size:Int)))) then
   aC (qJ (v0,v1,())) λy1 =>
   aC (tE ((aB .u64 (y1.1*y1.2.1)),())) λy2 =>
   some (y2.1,())
  else aC (fE () (v0,()) []) λy3 =>
  aC (fE () (v1,()) y3.2) λy4 =>
  aC (eQ () (y3.1,y4.1,()) y4.2) λy5 =>
  aC (b8 (y5.1,())) λy6 =>
  some (y6.1,())
def ZD:Code:=aQ Tryz.f184
abbrev aGV:Env:=NN [MN,HB,tG] [CZ,yU]
theorem aLI:bC tP aGV:=o9 ⟨JZ,GA,uC,trivial⟩ ⟨B5,EC,trivial⟩
def aEM(id:Nat):Option b9:=none
theorem aJ3:cB ZD=[]:=by kernel_rfl
theorem aLP:∀ x,aEA tP aGV Tryz.f184 (aG Tryz.f184) aEM ZD 180 (.int .u64) _ _ x=fR x:=by
 rintro⟨v0,v1,⟨⟩⟩
 kernel_rfl
theorem aQO:eX tP 184 _ _ fR:=by exact aKN aK aLI Tryz.func184 (c:=ZD) (by kernel_rfl) (aV:=aG Tryz.f184) (lt:=aEM) (aD aJ3 trivial) aLP
abbrev aGT:Ent:=⟨184,_,_,fR⟩
theorem aLC:Ent.OK tP aGT:=aQO
def nH(x:aH [.str,.str]):Option (aH [.str,.str,.int .i64]):=match x with
 | (v0,v1,()) =>
  bif eqS v1 (ByteArray.mk #[48]) then
   some ((ByteArray.mk #[]),(ByteArray.mk #[]),17,())
  else aC (qJ (v0,v1,())) λy1 =>
  bif y1.2.2.1 then
   bif eqI y1.2.1 0 then none else aC (tE ((aB .u64 (y1.1.tdiv y1.2.1)),())) λy2 =>
   bif eqI y1.2.1 0 then none else aC (tE ((y1.1.tmod y1.2.1),())) λy3 =>
   some (y2.1,y3.1,0,())
  else aC (fE () (v0,()) []) λy4 =>
  aC (fE () (v1,()) y4.2) λy5 =>
  aC (pV (y4.1,y5.1,())) λy6 =>
  bif ltI y6.1 0 then
   some ((ByteArray.mk #[48]),v0,0,())
  else bif eqI (y5.1.length:Int) 1 then
   bif aI 0 y5.1.length then bif Nat.blt 0 y5.1.length then aC (fA () (y4.1,(y5.1.getD 0 0),()) y5.2) λy7 =>
   aC (b8 (y7.1.1,())) λy8 =>
   aC (tE (y7.1.2.1,())) λy9 =>
   some (y8.1,y9.1,0,()) else none else none
  else aC (fX () (y4.1,y5.1,()) y5.2) λy10 =>
  aC (b8 (y10.1.1,())) λy11 =>
  aC (b8 (y10.1.2.1,())) λy12 =>
  some (y11.1,y12.1,0,())
def OS:Code:=aQ Tryz.f205
abbrev ZN:Env:=NN [MN,HB,IP,tG] [CZ,HQ,BD]
theorem aF0:bC tP ZN:=o9 ⟨JZ,GA,SC,uC,trivial⟩ ⟨B5,P4,EO,trivial⟩
def VZ(id:Nat):Option b9:=none
theorem aDV:cB OS=[]:=by kernel_rfl
theorem aE3:∀ x,aEA tP ZN Tryz.f205 (aG Tryz.f205) VZ OS 180 (.int .u64) _ _ x=nH x:=by
 rintro⟨v0,v1,⟨⟩⟩
 kernel_rfl
theorem aI5:eX tP 205 _ _ nH:=by exact aKN aK aF0 Tryz.func205 (c:=OS) (by kernel_rfl) (aV:=aG Tryz.f205) (lt:=VZ) (aD aDV trivial) aE3
abbrev ZH:Ent:=⟨205,_,_,nH⟩
theorem aE2:Ent.OK tP ZH:=aI5
def R0(x:aH [.str,.str]):Option (aH [.str]):=match x with
 | (v0,v1,()) =>
  aC (qI (v0,18,())) λy1 =>
  bif y1.2.1 then
   aC (qI (v1,18,())) λy2 =>
   bif y2.2.1 then
    aC (oU ((aB .i64 (y1.1+y2.1)),())) λy3 =>
    some (y3.1,())
   else aC (cR (v0,())) λy4 =>
   aC (cR (v1,())) λy5 =>
   bif y4.1 then
    bif y5.1 then
     aC (fU (y4.2.1,y5.2.1,())) λy6 =>
     aC (aA (y4.1,y6.1,())) λy7 =>
     some (y7.1,())
    else aC (fY (y4.2.1,y5.2.1,())) λy8 =>
    bif ltI y8.1 0 then
     aC (dB (y5.2.1,y4.2.1,())) λy9 =>
     aC (aA (y5.1,y9.1,())) λy10 =>
     some (y10.1,())
    else aC (dB (y4.2.1,y5.2.1,())) λy11 =>
    aC (aA (y4.1,y11.1,())) λy12 =>
    some (y12.1,())
   else bif y5.1 then
    aC (fY (y4.2.1,y5.2.1,())) λy13 =>
    bif ltI y13.1 0 then
     aC (dB (y5.2.1,y4.2.1,())) λy14 =>
     aC (aA (y5.1,y14.1,())) λy15 =>
     some (y15.1,())
    else aC (dB (y4.2.1,y5.2.1,())) λy16 =>
    aC (aA (y4.1,y16.1,())) λy17 =>
    some (y17.1,())
   else aC (fU (y4.2.1,y5.2.1,())) λy18 =>
   aC (aA (y4.1,y18.1,())) λy19 =>
   some (y19.1,())
  else aC (cR (v0,())) λy20 =>
  aC (cR (v1,())) λy21 =>
  bif y20.1 then
   bif y21.1 then
    aC (fU (y20.2.1,y21.2.1,())) λy22 =>
    aC (aA (y20.1,y22.1,())) λy23 =>
    some (y23.1,())
   else aC (fY (y20.2.1,y21.2.1,())) λy24 =>
   bif ltI y24.1 0 then
    aC (dB (y21.2.1,y20.2.1,())) λy25 =>
    aC (aA (y21.1,y25.1,())) λy26 =>
    some (y26.1,())
   else aC (dB (y20.2.1,y21.2.1,())) λy27 =>
   aC (aA (y20.1,y27.1,())) λy28 =>
   some (y28.1,())
  else bif y21.1 then
   aC (fY (y20.2.1,y21.2.1,())) λy29 =>
   bif ltI y29.1 0 then
    aC (dB (y21.2.1,y20.2.1,())) λy30 =>
    aC (aA (y21.1,y30.1,())) λy31 =>
    some (y31.1,())
   else aC (dB (y20.2.1,y21.2.1,())) λy32 =>
   aC (aA (y20.1,y32.1,())) λy33 =>
   some (y33.1,())
  else aC (fU (y20.2.1,y21.2.1,())) λy34 =>
  aC (aA (y20.1,y34.1,())) λy35 =>
  some (y35.1,())
theorem aPZ:bC tP (cG [YC,GC,YL,QM,MI,MB,CL]):=bG ⟨ZL,GY,ZI,JX,KE,LJ,xS,trivial⟩
theorem aXZ:eX tP 135 _ _ R0:=by exact bX aK aPZ Tryz.func135 (c:=aQ Tryz.f135) (by kernel_rfl) (aV:=aG Tryz.f135) (lt:=λ_=>none) (aD (lt:=λ_=>none) (l:=[]) (by kernel_rfl) trivial) (by rintro⟨v0,v1,⟨⟩⟩; kernel_rfl)
abbrev aOC:Ent:=⟨135,_,_,R0⟩
theorem aPO:Ent.OK tP aOC:=aXZ
def L8(x:aH [.str,.str]):Option (aH [.str]):=match x with
 | (v0,v1,()) =>
  aC (L3 (v1,())) λy1 =>
  aC (R0 (v0,y1.1,())) λy2 =>
  some (y2.1,())
theorem aP9:bC tP (cG [aOC,aGH]):=bG ⟨aPO,aED,trivial⟩
theorem aWF:eX tP 206 _ _ L8:=by exact bX aK aP9 Tryz.func206 (c:=aQ Tryz.f206) (by kernel_rfl) (aV:=aG Tryz.f206) (lt:=λ_=>none) (aD (lt:=λ_=>none) (l:=[]) (by kernel_rfl) trivial) (by rintro⟨v0,v1,⟨⟩⟩; kernel_rfl)
abbrev aF6:Ent:=⟨206,_,_,L8⟩
theorem aEI:Ent.OK tP aF6:=aWF
def L9(x:aH [.str,.str]):Option (aH [.str]):=match x with
 | (v0,v1,()) =>
  aC (qI (v0,9,())) λy1 =>
  bif y1.2.1 then
   aC (qI (v1,9,())) λy2 =>
   bif y2.2.1 then
    aC (oU ((aB .i64 (y1.1*y2.1)),())) λy3 =>
    some (y3.1,())
   else aC (cR (v0,())) λy4 =>
   aC (cR (v1,())) λy5 =>
   bif y4.1 then
    bif y5.1 then
     aC (fR (y4.2.1,y5.2.1,())) λy6 =>
     aC (aA (false,y6.1,())) λy7 =>
     some (y7.1,())
    else aC (fR (y4.2.1,y5.2.1,())) λy8 =>
    aC (aA (true,y8.1,())) λy9 =>
    some (y9.1,())
   else bif y5.1 then
    aC (fR (y4.2.1,y5.2.1,())) λy10 =>
    aC (aA (true,y10.1,())) λy11 =>
    some (y11.1,())
   else aC (fR (y4.2.1,y5.2.1,())) λy12 =>
   aC (aA (false,y12.1,())) λy13 =>
   some (y13.1,())
  else aC (cR (v0,())) λy14 =>
  aC (cR (v1,())) λy15 =>
  bif y14.1 then
   bif y15.1 then
    aC (fR (y14.2.1,y15.2.1,())) λy16 =>
    aC (aA (false,y16.1,())) λy17 =>
    some (y17.1,())
   else aC (fR (y14.2.1,y15.2.1,())) λy18 =>
   aC (aA (true,y18.1,())) λy19 =>
   some (y19.1,())
  else bif y15.1 then
   aC (fR (y14.2.1,y15.2.1,())) λy20 =>
   aC (aA (true,y20.1,())) λy21 =>
   some (y21.1,())
  else aC (fR (y14.2.1,y15.2.1,())) λy22 =>
  aC (aA (false,y22.1,())) λy23 =>
  some (y23.1,())
theorem aPT:bC tP (cG [aGT,QM,MI,MB,CL]):=bG ⟨aLC,JX,KE,LJ,xS,trivial⟩
theorem aWB:eX tP 136 _ _ L9:=by exact bX aK aPT Tryz.func136 (c:=aQ Tryz.f136) (by kernel_rfl) (aV:=aG Tryz.f136) (lt:=λ_=>none) (aD (lt:=λ_=>none) (l:=[]) (by kernel_rfl) trivial) (by rintro⟨v0,v1,⟨⟩⟩; kernel_rfl)
abbrev aFL:Ent:=⟨136,_,_,L9⟩
theorem aEJ:Ent.OK tP aFL:=aWB
def yT(x:aH [.str,.str]):Option (aH [.str,.str,.int .i64]):=match x with
 | (v0,v1,()) =>
  bif eqS v1 (ByteArray.mk #[48]) then
   some ((ByteArray.mk #[]),(ByteArray.mk #[]),17,())
  else aC (qI (v0,18,())) λy1 =>
  bif y1.2.1 then
   aC (qI (v1,18,())) λy2 =>
   bif y2.2.1 then
    bif eqI y2.1 0 then none else bif eqI y2.1 0 then none else bif !(eqI (y1.1.tmod y2.1) 0) then
     bif ltI (y1.1.tmod y2.1) 0 then
      bif ltI y2.1 0 then
       aC (oU ((aB .i64 (y1.1.tdiv y2.1)),())) λy3 =>
       aC (oU ((y1.1.tmod y2.1),())) λy4 =>
       some (y3.1,y4.1,0,())
      else aC (oU ((aB .i64 ((aB .i64 (y1.1.tdiv y2.1))-1)),())) λy5 =>
      aC (oU ((aB .i64 ((y1.1.tmod y2.1)+y2.1)),())) λy6 =>
      some (y5.1,y6.1,0,())
     else bif ltI y2.1 0 then
      aC (oU ((aB .i64 ((aB .i64 (y1.1.tdiv y2.1))-1)),())) λy7 =>
      aC (oU ((aB .i64 ((y1.1.tmod y2.1)+y2.1)),())) λy8 =>
      some (y7.1,y8.1,0,())
     else aC (oU ((aB .i64 (y1.1.tdiv y2.1)),())) λy9 =>
     aC (oU ((y1.1.tmod y2.1),())) λy10 =>
     some (y9.1,y10.1,0,())
    else aC (oU ((aB .i64 (y1.1.tdiv y2.1)),())) λy11 =>
    aC (oU ((y1.1.tmod y2.1),())) λy12 =>
    some (y11.1,y12.1,0,())
   else aC (cR (v0,())) λy13 =>
   aC (cR (v1,())) λy14 =>
   aC (nH (y13.2.1,y14.2.1,())) λy15 =>
   bif !(eqI y15.2.2.1 0) then
    some ((ByteArray.mk #[]),(ByteArray.mk #[]),y15.2.2.1,())
   else bif y13.1 then
    bif y14.1 then
     bif y13.1 then
      bif y14.1 then
       aC (aA (false,y15.1,())) λy16 =>
       aC (aA (y14.1,y15.2.1,())) λy17 =>
       some (y16.1,y17.1,0,())
      else aC (aA (true,y15.1,())) λy18 =>
      aC (aA (y14.1,y15.2.1,())) λy19 =>
      some (y18.1,y19.1,0,())
     else bif y14.1 then
      aC (aA (true,y15.1,())) λy20 =>
      aC (aA (y14.1,y15.2.1,())) λy21 =>
      some (y20.1,y21.1,0,())
     else aC (aA (false,y15.1,())) λy22 =>
     aC (aA (y14.1,y15.2.1,())) λy23 =>
     some (y22.1,y23.1,0,())
    else bif !(eqS y15.2.1 (ByteArray.mk #[48])) then
     aC (fU (y15.1,(ByteArray.mk #[49]),())) λy24 =>
     aC (dB (y14.2.1,y15.2.1,())) λy25 =>
     bif y13.1 then
      bif y14.1 then
       aC (aA (false,y24.1,())) λy26 =>
       aC (aA (y14.1,y25.1,())) λy27 =>
       some (y26.1,y27.1,0,())
      else aC (aA (true,y24.1,())) λy28 =>
      aC (aA (y14.1,y25.1,())) λy29 =>
      some (y28.1,y29.1,0,())
     else bif y14.1 then
      aC (aA (true,y24.1,())) λy30 =>
      aC (aA (y14.1,y25.1,())) λy31 =>
      some (y30.1,y31.1,0,())
     else aC (aA (false,y24.1,())) λy32 =>
     aC (aA (y14.1,y25.1,())) λy33 =>
     some (y32.1,y33.1,0,())
    else bif y13.1 then
     bif y14.1 then
      aC (aA (false,y15.1,())) λy34 =>
      aC (aA (y14.1,y15.2.1,())) λy35 =>
      some (y34.1,y35.1,0,())
     else aC (aA (true,y15.1,())) λy36 =>
     aC (aA (y14.1,y15.2.1,())) λy37 =>
     some (y36.1,y37.1,0,())
    else bif y14.1 then
     aC (aA (true,y15.1,())) λy38 =>
     aC (aA (y14.1,y15.2.1,())) λy39 =>
     some (y38.1,y39.1,0,())
    else aC (aA (false,y15.1,())) λy40 =>
    aC (aA (y14.1,y15.2.1,())) λy41 =>
    some (y40.1,y41.1,0,())
   else bif y14.1 then
    bif !(eqS y15.2.1 (ByteArray.mk #[48])) then
     aC (fU (y15.1,(ByteArray.mk #[49]),())) λy42 =>
     aC (dB (y14.2.1,y15.2.1,())) λy43 =>
     bif y13.1 then
      bif y14.1 then
       aC (aA (false,y42.1,())) λy44 =>
       aC (aA (y14.1,y43.1,())) λy45 =>
       some (y44.1,y45.1,0,())
      else aC (aA (true,y42.1,())) λy46 =>
      aC (aA (y14.1,y43.1,())) λy47 =>
      some (y46.1,y47.1,0,())
     else bif y14.1 then
      aC (aA (true,y42.1,())) λy48 =>
      aC (aA (y14.1,y43.1,())) λy49 =>
      some (y48.1,y49.1,0,())
     else aC (aA (false,y42.1,())) λy50 =>
     aC (aA (y14.1,y43.1,())) λy51 =>
     some (y50.1,y51.1,0,())
    else bif y13.1 then
     bif y14.1 then
      aC (aA (false,y15.1,())) λy52 =>
      aC (aA (y14.1,y15.2.1,())) λy53 =>
      some (y52.1,y53.1,0,())
     else aC (aA (true,y15.1,())) λy54 =>
     aC (aA (y14.1,y15.2.1,())) λy55 =>
     some (y54.1,y55.1,0,())
    else bif y14.1 then
     aC (aA (true,y15.1,())) λy56 =>
     aC (aA (y14.1,y15.2.1,())) λy57 =>
     some (y56.1,y57.1,0,())
    else aC (aA (false,y15.1,())) λy58 =>
    aC (aA (y14.1,y15.2.1,())) λy59 =>
    some (y58.1,y59.1,0,())
   else bif y13.1 then
    bif y14.1 then
     aC (aA (false,y15.1,())) λy60 =>
     aC (aA (y14.1,y15.2.1,())) λy61 =>
     some (y60.1,y61.1,0,())
    else aC (aA (true,y15.1,())) λy62 =>
    aC (aA (y14.1,y15.2.1,())) λy63 =>
    some (y62.1,y63.1,0,())
   else bif y14.1 then
    aC (aA (true,y15.1,())) λy64 =>
    aC (aA (y14.1,y15.2.1,())) λy65 =>
    some (y64.1,y65.1,0,())
   else aC (aA (false,y15.1,())) λy66 =>
   aC (aA (y14.1,y15.2.1,())) λy67 =>
   some (y66.1,y67.1,0,())
  else aC (cR (v0,())) λy68 =>
  aC (cR (v1,())) λy69 =>
  aC (nH (y68.2.1,y69.2.1,())) λy70 =>
  bif !(eqI y70.2.2.1 0) then
   some ((ByteArray.mk #[]),(ByteArray.mk #[]),y70.2.2.1,())
  else bif y68.1 then
   bif y69.1 then
    bif y68.1 then
     bif y69.1 then
      aC (aA (false,y70.1,())) λy71 =>
      aC (aA (y69.1,y70.2.1,())) λy72 =>
      some (y71.1,y72.1,0,())
     else aC (aA (true,y70.1,())) λy73 =>
     aC (aA (y69.1,y70.2.1,())) λy74 =>
     some (y73.1,y74.1,0,())
    else bif y69.1 then
     aC (aA (true,y70.1,())) λy75 =>
     aC (aA (y69.1,y70.2.1,())) λy76 =>
     some (y75.1,y76.1,0,())
    else aC (aA (false,y70.1,())) λy77 =>
    aC (aA (y69.1,y70.2.1,())) λy78 =>
    some (y77.1,y78.1,0,())
   else bif !(eqS y70.2.1 (ByteArray.mk #[48])) then
    aC (fU (y70.1,(ByteArray.mk #[49]),())) λy79 =>
    aC (dB (y69.2.1,y70.2.1,())) λy80 =>
    bif y68.1 then
     bif y69.1 then
      aC (aA (false,y79.1,())) λy81 =>
      aC (aA (y69.1,y80.1,())) λy82 =>
      some (y81.1,y82.1,0,())
     else aC (aA (true,y79.1,())) λy83 =>
     aC (aA (y69.1,y80.1,())) λy84 =>
     some (y83.1,y84.1,0,())
    else bif y69.1 then
     aC (aA (true,y79.1,())) λy85 =>
     aC (aA (y69.1,y80.1,())) λy86 =>
     some (y85.1,y86.1,0,())
    else aC (aA (false,y79.1,())) λy87 =>
    aC (aA (y69.1,y80.1,())) λy88 =>
    some (y87.1,y88.1,0,())
   else bif y68.1 then
    bif y69.1 then
     aC (aA (false,y70.1,())) λy89 =>
     aC (aA (y69.1,y70.2.1,())) λy90 =>
     some (y89.1,y90.1,0,())
    else aC (aA (true,y70.1,())) λy91 =>
    aC (aA (y69.1,y70.2.1,())) λy92 =>
    some (y91.1,y92.1,0,())
   else bif y69.1 then
    aC (aA (true,y70.1,())) λy93 =>
    aC (aA (y69.1,y70.2.1,())) λy94 =>
    some (y93.1,y94.1,0,())
   else aC (aA (false,y70.1,())) λy95 =>
   aC (aA (y69.1,y70.2.1,())) λy96 =>
   some (y95.1,y96.1,0,())
  else bif y69.1 then
   bif !(eqS y70.2.1 (ByteArray.mk #[48])) then
    aC (fU (y70.1,(ByteArray.mk #[49]),())) λy97 =>
    aC (dB (y69.2.1,y70.2.1,())) λy98 =>
    bif y68.1 then
     bif y69.1 then
      aC (aA (false,y97.1,())) λy99 =>
      aC (aA (y69.1,y98.1,())) λy100 =>
      some (y99.1,y100.1,0,())
     else aC (aA (true,y97.1,())) λy101 =>
     aC (aA (y69.1,y98.1,())) λy102 =>
     some (y101.1,y102.1,0,())
    else bif y69.1 then
     aC (aA (true,y97.1,())) λy103 =>
     aC (aA (y69.1,y98.1,())) λy104 =>
     some (y103.1,y104.1,0,())
    else aC (aA (false,y97.1,())) λy105 =>
    aC (aA (y69.1,y98.1,())) λy106 =>
    some (y105.1,y106.1,0,())
   else bif y68.1 then
    bif y69.1 then
     aC (aA (false,y70.1,())) λy107 =>
     aC (aA (y69.1,y70.2.1,())) λy108 =>
     some (y107.1,y108.1,0,())
    else aC (aA (true,y70.1,())) λy109 =>
    aC (aA (y69.1,y70.2.1,())) λy110 =>
    some (y109.1,y110.1,0,())
   else bif y69.1 then
    aC (aA (true,y70.1,())) λy111 =>
    aC (aA (y69.1,y70.2.1,())) λy112 =>
    some (y111.1,y112.1,0,())
   else aC (aA (false,y70.1,())) λy113 =>
   aC (aA (y69.1,y70.2.1,())) λy114 =>
   some (y113.1,y114.1,0,())
  else bif y68.1 then
   bif y69.1 then
    aC (aA (false,y70.1,())) λy115 =>
    aC (aA (y69.1,y70.2.1,())) λy116 =>
    some (y115.1,y116.1,0,())
   else aC (aA (true,y70.1,())) λy117 =>
   aC (aA (y69.1,y70.2.1,())) λy118 =>
   some (y117.1,y118.1,0,())
  else bif y69.1 then
   aC (aA (true,y70.1,())) λy119 =>
   aC (aA (y69.1,y70.2.1,())) λy120 =>
   some (y119.1,y120.1,0,())
  else aC (aA (false,y70.1,())) λy121 =>
  aC (aA (y69.1,y70.2.1,())) λy122 =>
  some (y121.1,y122.1,0,())
theorem aJ0:bC tP (cG [YC,ZH,YL,QM,MI,MB,CL]):=bG ⟨ZL,aE2,ZI,JX,KE,LJ,xS,trivial⟩
theorem aOR:eX tP 165 _ _ yT:=by exact bX aK aJ0 Tryz.func165 (c:=aQ Tryz.f165) (by kernel_rfl) (aV:=aG Tryz.f165) (lt:=λ_=>none) (aD (lt:=λ_=>none) (l:=[]) (by kernel_rfl) trivial) (by rintro⟨v0,v1,⟨⟩⟩; kernel_rfl)
abbrev VJ:Ent:=⟨165,_,_,yT⟩
theorem WX:Ent.OK tP VJ:=aOR
end Go.PM
namespace Go.PM
open Go Go.RowKit Go.Proofs
set_option maxHeartbeats 4000000
abbrev rA:List (Nat×Kd):=[(3,.own 110 .str),(9,.list TyE),(10,.int .i64),(11,.int .i64)]
abbrev uO:List (Ex×List (Nat×Kd)):=[(.exit 0,[(3,.own 110 .str)])]
def rR(x:Shape.den rA):Option (Shape.den rA⊕aW uO):=match x with
 | (v3,v9,v10,v11,()) =>
  bif ltI v11 v10 then
   bif aI v11 v9.length then aC (oU ((v9.getD v11.toNat 0),())) λy2 =>
   bif Nat.ble [y2.1].length 1048576 then bif Nat.ble v3.length 1048576 then some (.inl ((v3++[y2.1]),v9,v10,(aB .i64 (v11+1)),())) else none else none else none
  else some (.inr ((v3,())))
def wP(x:Shape.den rA):Option (aW uO):=cE rR (2^64) x
def pM(x:aH [.list TyE]):Option (List ByteArray):=match x with
 | (v0,()) =>
  bif !(ltI (v0.length:Int) 0) then bif !(ltI 1048576 (v0.length:Int)) then aC (wP ((List.replicate 0 ByteArray.empty),v0,(v0.length:Int),0,())) λz3 =>
  some z3.1 else none else none
def FT:Code:=aQ Tryz.f119
abbrev LA:Env:=cG [QM]
theorem O0:bC tP LA:=bG ⟨JX,trivial⟩
def IF:Code:=eR FT 0
def JG(id:Nat):Option b9:=bif Nat.beq id 3 then some ⟨rA,uO,wP⟩ else none
theorem Y2:∀ x,eM tP LA 22 (aG Tryz.f119) JG IF rA uO x=rR x:=by
 rintro⟨v3,v9,v10,v11,⟨⟩⟩
 kernel_rfl
theorem ZT:cT tP 22 IF ⟨rA,uO,wP⟩:=by exact cQ O0.callee aK.mixed _ (aD (l:=[]) (by kernel_rfl) trivial) Y2
theorem aCG:cB FT=[IF]:=by kernel_rfl
theorem aD1:∀ x,aXC tP LA Tryz.f119 (aG Tryz.f119) JG FT [.list TyE] 2 110 .str x=pM x:=by
 rintro⟨v0,⟨⟩⟩
 kernel_rfl
theorem aGN:aVC tP 119 [.list TyE] 110 .str pM:=by exact aSG aK O0 Tryz.func119 (c:=FT) (by kernel_rfl) (aV:=aG Tryz.f119) (lt:=JG) (t:=2) (by kernel_rfl) (aD aCG ⟨cO (i:=3) (by kernel_rfl) rfl ZT,trivial⟩) aD1
abbrev F7:Shr:=(119,a5F [.list TyE] 110 .str pM)
theorem GZ:xB tP F7:=aSP aGN
abbrev mN:List (Nat×Kd):=[(0,.hnd 1),(1,.str),(10,.hnd 1),(11,.int .i64),(12,.int .i64),(100000,.ar 110 .str)]
abbrev pY:List (Ex×List (Nat×Kd)):=[(.exit 0,[(100000,.ar 110 .str)])]
def nV(x:Shape.den mN):Option (Shape.den mN⊕aW pY):=match x with
 | (v0,v1,v10,v11,v12,v100000,()) =>
  bif ltI v12 v11 then
   bif aI v12 v10.2.2 then bif Nat.blt ((v10.2.1+v12.toNat)*1) (dJ v100000 v10.1) then bif aI v12 v0.2.2 then bif Nat.blt ((v0.2.1+v12.toNat)*1) (dJ v100000 v0.1) then aC (L9 (v1,(eD v100000 v10.1 ((v10.2.1+v12.toNat)*1) ByteArray.empty),())) λy3 =>
   aC (L8 ((eD v100000 v0.1 ((v0.2.1+v12.toNat)*1) ByteArray.empty),y3.1,())) λy4 =>
   bif aI v12 v0.2.2 then bif Nat.blt ((v0.2.1+v12.toNat)*1) (dJ v100000 v0.1) then some (.inl ((v0.1,v0.2.1,v0.2.2),v1,(v10.1,v10.2.1,v10.2.2),v11,(aB .i64 (v12+1)),(vK v100000 v0.1 ((v0.2.1+v12.toNat)*1) y4.1),())) else none else none else none else none else none else none
  else some (.inr ((v100000,())))
def rJ(x:Shape.den mN):Option (aW pY):=cE nV (2^64) x
def gX(u0:Unit)(x:aH [.hnd 1,.str,.hnd 1])(A:List (List ByteArray)):Option ((aH [])×List (List ByteArray)):=match x with
 | (v0,v1,v2,()) =>
  bif eqS v1 (ByteArray.mk #[48]) then
   some ((()),A)
  else aC (rJ ((v0.1,v0.2.1,v0.2.2),v1,(v2.1,v2.2.1,v2.2.2),((v2.2.2:Nat):Int),0,A,())) λz5 =>
  some ((()),z5.1)
def yM:Code:=aQ Tryz.f166
abbrev FL:Env:=cG [aFL,aF6]
theorem IQ:bC tP FL:=bG ⟨aEJ,aEI,trivial⟩
def CO:Code:=eR yM 0
def DN(id:Nat):Option b9:=bif Nat.beq id 2 then some ⟨mN,pY,rJ⟩ else none
theorem Q6:∀ x,eM tP FL 29 (aG Tryz.f166) DN CO mN pY x=nV x:=by
 rintro⟨v0,v1,v10,v11,v12,v100000,⟨⟩⟩
 kernel_rfl
theorem S9:cT tP 29 CO ⟨mN,pY,rJ⟩:=by exact cQ IQ.callee aK.mixed _ (aD (l:=[]) (by kernel_rfl) trivial) Q6
theorem UI:cB yM=[CO]:=by kernel_rfl
theorem WU:∀ l x A,GM tP FL Tryz.f166 (aG Tryz.f166) DN yM 110 .str .none [.hnd 1,.str,.hnd 1] (.data []) l x A=gX l x A:=by
 rintro u0 ⟨v0,v1,v2,⟨⟩⟩ A
 kernel_rfl
theorem Z9:MZ tP 166 110 .str .none [.hnd 1,.str,.hnd 1] (.data []) gX:=by exact BG aK IQ Tryz.func166 (c:=yM) (by kernel_rfl) (aV:=aG Tryz.f166) (lt:=DN) (by rfl) (aD UI ⟨cO (i:=2) (by kernel_rfl) rfl S9,trivial⟩) WU
abbrev MU:Shr:=(166,TG 0 (arH 110 .str .none [.hnd 1,.str,.hnd 1] (.data []) gX))
theorem WV:xB tP MU:=sO (g:=166) (f:=arH 110 .str .none [.hnd 1,.str,.hnd 1] (.data []) gX) (FJ Z9)
abbrev mP:List (Nat×Kd):=[(0,.hnd 1),(1,.str),(10,.list .str),(11,.int .i64),(12,.int .i64),(100000,.ar 110 .str)]
abbrev pR:List (Ex×List (Nat×Kd)):=[(.exit 0,[(100000,.ar 110 .str)])]
def kS(x:Shape.den mP):Option (Shape.den mP⊕aW pR):=match x with
 | (v0,v1,v10,v11,v12,v100000,()) =>
  bif ltI v12 v11 then
   bif aI v12 v10.length then bif aI v12 v0.2.2 then bif Nat.blt ((v0.2.1+v12.toNat)*1) (dJ v100000 v0.1) then aC (L9 (v1,(v10.getD v12.toNat ByteArray.empty),())) λy3 =>
   aC (L8 ((eD v100000 v0.1 ((v0.2.1+v12.toNat)*1) ByteArray.empty),y3.1,())) λy4 =>
   bif aI v12 v0.2.2 then bif Nat.blt ((v0.2.1+v12.toNat)*1) (dJ v100000 v0.1) then some (.inl ((v0.1,v0.2.1,v0.2.2),v1,v10,v11,(aB .i64 (v12+1)),(vK v100000 v0.1 ((v0.2.1+v12.toNat)*1) y4.1),())) else none else none else none else none else none
  else some (.inr ((v100000,())))
def rK(x:Shape.den mP):Option (aW pR):=cE kS (2^64) x
def kE(u0:Unit)(x:aH [.hnd 1,.str,.list .str])(A:List (List ByteArray)):Option ((aH [])×List (List ByteArray)):=match x with
 | (v0,v1,v2,()) =>
  bif eqS v1 (ByteArray.mk #[48]) then
   some ((()),A)
  else aC (rK ((v0.1,v0.2.1,v0.2.2),v1,v2,(v2.length:Int),0,A,())) λz5 =>
  some ((()),z5.1)
def yB:Code:=aQ Tryz.f166
abbrev E6:Env:=cG [aFL,aF6]
theorem I3:bC tP E6:=bG ⟨aEJ,aEI,trivial⟩
def B4:Code:=eR yB 0
def DX(id:Nat):Option b9:=bif Nat.beq id 2 then some ⟨mP,pR,rK⟩ else none
theorem Q5:∀ x,eM tP E6 29 (aG Tryz.f166) DX B4 mP pR x=kS x:=by
 rintro⟨v0,v1,v10,v11,v12,v100000,⟨⟩⟩
 kernel_rfl
theorem S6:cT tP 29 B4 ⟨mP,pR,rK⟩:=by exact cQ I3.callee aK.mixed _ (aD (l:=[]) (by kernel_rfl) trivial) Q5
theorem UX:cB yB=[B4]:=by kernel_rfl
theorem XD:∀ l x A,GM tP E6 Tryz.f166 (aG Tryz.f166) DX yB 110 .str .none [.hnd 1,.str,.list .str] (.data []) l x A=kE l x A:=by
 rintro u0 ⟨v0,v1,v2,⟨⟩⟩ A
 kernel_rfl
theorem aAH:MZ tP 166 110 .str .none [.hnd 1,.str,.list .str] (.data []) kE:=by exact BG aK I3 Tryz.func166 (c:=yB) (by kernel_rfl) (aV:=aG Tryz.f166) (lt:=DX) (by rfl) (aD UX ⟨cO (i:=2) (by kernel_rfl) rfl S6,trivial⟩) XD
theorem ZB:aWR tP 166 110 .str [.str,.list .str] (SQ kE):=aJS aAH (by rfl) (by rfl)
abbrev KZ:Shr:=(166,TG 1 (a1X 110 .str [.str,.list .str] (SQ kE)))
theorem VL:xB tP KZ:=sO (aSZ ZB)
abbrev kR:List (Nat×Kd):=[(0,.hnd 1),(4,.hnd 1),(5,.int .i64),(6,.int .i64),(100000,.ar 110 .str)]
abbrev nW:List (Ex×List (Nat×Kd)):=[(.exit 0,[(100000,.ar 110 .str)])]
def l7(x:Shape.den kR):Option (Shape.den kR⊕aW nW):=match x with
 | (v0,v4,v5,v6,v100000,()) =>
  bif ltI v6 v5 then
   bif aI v6 v4.2.2 then bif Nat.blt ((v4.2.1+v6.toNat)*1) (dJ v100000 v4.1) then aC (L3 ((eD v100000 v4.1 ((v4.2.1+v6.toNat)*1) ByteArray.empty),())) λy2 =>
   bif aI v6 v0.2.2 then bif Nat.blt ((v0.2.1+v6.toNat)*1) (dJ v100000 v0.1) then some (.inl ((v0.1,v0.2.1,v0.2.2),(v4.1,v4.2.1,v4.2.2),v5,(aB .i64 (v6+1)),(vK v100000 v0.1 ((v0.2.1+v6.toNat)*1) y2.1),())) else none else none else none else none
  else some (.inr ((v100000,())))
def qA(x:Shape.den kR):Option (aW nW):=cE l7 (2^64) x
def fP(u0:Unit)(x:aH [.hnd 1])(A:List (List ByteArray)):Option ((aH [])×List (List ByteArray)):=match x with
 | (v0,()) =>
  aC (qA ((v0.1,v0.2.1,v0.2.2),(v0.1,v0.2.1,v0.2.2),((v0.2.2:Nat):Int),0,A,())) λz3 =>
  some ((()),z3.1)
def uT:Code:=aQ Tryz.f168
abbrev B3:Env:=cG [aGH]
theorem GK:bC tP B3:=bG ⟨aED,trivial⟩
def zB:Code:=eR uT 0
def AH(id:Nat):Option b9:=bif Nat.beq id 1 then some ⟨kR,nW,qA⟩ else none
theorem OP:∀ x,eM tP B3 17 (aG Tryz.f168) AH zB kR nW x=l7 x:=by
 rintro⟨v0,v4,v5,v6,v100000,⟨⟩⟩
 kernel_rfl
theorem PX:cT tP 17 zB ⟨kR,nW,qA⟩:=by exact cQ GK.callee aK.mixed _ (aD (l:=[]) (by kernel_rfl) trivial) OP
theorem S2:cB uT=[zB]:=by kernel_rfl
theorem TN:∀ l x A,GM tP B3 Tryz.f168 (aG Tryz.f168) AH uT 110 .str .none [.hnd 1] (.data []) l x A=fP l x A:=by
 rintro u0 ⟨v0,⟨⟩⟩ A
 kernel_rfl
theorem XC:MZ tP 168 110 .str .none [.hnd 1] (.data []) fP:=by exact BG aK GK Tryz.func168 (c:=uT) (by kernel_rfl) (aV:=aG Tryz.f168) (lt:=AH) (by rfl) (aD S2 ⟨cO (i:=1) (by kernel_rfl) rfl PX,trivial⟩) TN
abbrev J3:Shr:=(168,TG 0 (arH 110 .str .none [.hnd 1] (.data []) fP))
theorem TM:xB tP J3:=sO (g:=168) (f:=arH 110 .str .none [.hnd 1] (.data []) fP) (FJ XC)
def kH(x:aH [.str]):Option (aH [.bool]):=match x with
 | (v0,()) =>
  some (!(eqS v0 (ByteArray.mk #[48])),())
theorem V4:bC tP (cG []):=bG trivial
theorem aAN:eX tP 209 _ _ kH:=by exact bX aK V4 Tryz.func209 (c:=aQ Tryz.f209) (by kernel_rfl) (aV:=aG Tryz.f209) (lt:=λ_=>none) (aD (lt:=λ_=>none) (l:=[]) (by kernel_rfl) trivial) (by rintro⟨v0,⟨⟩⟩; kernel_rfl)
abbrev FO:Ent:=⟨209,_,_,kH⟩
theorem IL:Ent.OK tP FO:=aAN
abbrev cJ:List (Nat×Kd):=[(0,.list .str),(1,.fn 209),(7,.int .i64),(8,.int .i64)]
abbrev dN:List (Ex×List (Nat×Kd)):=[(.ret,[(4,.int .i64)]),(.exit 0,[])]
def aT(x:Shape.den cJ):Option (Shape.den cJ⊕aW dN):=match x with
 | (v0,v1,v7,v8,()) =>
  bif ltI v8 v7 then
   bif aI v8 v0.length then aC (kH ((v0.getD v8.toNat ByteArray.empty),())) λy2 =>
   bif y2.1 then
    some (.inr (.inl (v8,())))
   else some (.inl (v0,(),v7,(aB .i64 (v8+1)),())) else none
  else some (.inr (.inr ((()))))
def dI(x:Shape.den cJ):Option (aW dN):=cE aT (2^64) x
def eO(x:aH [.list .str,.fn 209]):Option (aH [.int .i64]):=match x with
 | (v0,v1,()) =>
  aC (dI (v0,(),(v0.length:Int),0,())) λz3 =>
  C5 z3 (λa4=>some (a4.1,())) λb5 =>
  some ((-1),())
def sJ:Code:=aQ Tryz.f208
abbrev sK:Env:=cG [FO]
theorem qV:bC tP sK:=bG ⟨IL,trivial⟩
def lE:Code:=eR sJ 0
def rZ(id:Nat):Option b9:=bif Nat.beq id 2 then some ⟨cJ,dN,dI⟩ else none
theorem zN:∀ x,eM tP sK 19 (aG Tryz.f208) rZ lE cJ dN x=aT x:=by
 rintro⟨v0,v1,v7,v8,⟨⟩⟩
 kernel_rfl
theorem AW:cT tP 19 lE ⟨cJ,dN,dI⟩:=by exact cQ qV.callee aK.mixed _ (aD (l:=[]) (by kernel_rfl) trivial) zN
theorem DR:eX tP 208 _ _ eO:=by exact bX aK qV Tryz.func208 (c:=sJ) (by kernel_rfl) (aV:=aG Tryz.f208) (lt:=rZ) (aD (l:=[lE]) (by kernel_rfl) ⟨cO (i:=2) (by kernel_rfl) rfl AW,trivial⟩) (by rintro⟨v0,v1,⟨⟩⟩; kernel_rfl)
abbrev sL:Ent:=⟨208,_,_,eO⟩
theorem CI:Ent.OK tP sL:=DR
def k9(x:aH [.list .str]):Option (aH [.int .i64]):=match x with
 | (v0,()) =>
  aC (eO (v0,(),())) λy1 =>
  some (y1.1,())
theorem ZX:bC tP (cG [sL]):=bG ⟨CI,trivial⟩
theorem aDY:eX tP 169 _ _ k9:=by exact bX aK ZX Tryz.func169 (c:=aQ Tryz.f169) (by kernel_rfl) (aV:=aG Tryz.f169) (lt:=λ_=>none) (aD (lt:=λ_=>none) (l:=[]) (by kernel_rfl) trivial) (by rintro⟨v0,⟨⟩⟩; kernel_rfl)
abbrev II:Ent:=⟨169,_,_,k9⟩
theorem KS:Ent.OK tP II:=aDY
abbrev cI:List (Nat×Kd):=[(0,.hnd 1),(1,.fn 209),(7,.int .i64),(8,.int .i64),(100000,.ar 110 .str)]
abbrev dL:List (Ex×List (Nat×Kd)):=[(.ret,[(4,.int .i64),(100000,.ar 110 .str)]),(.exit 0,[(100000,.ar 110 .str)])]
def bT(x:Shape.den cI):Option (Shape.den cI⊕aW dL):=match x with
 | (v0,v1,v7,v8,v100000,()) =>
  bif ltI v8 v7 then
   bif aI v8 v0.2.2 then bif Nat.blt ((v0.2.1+v8.toNat)*1) (dJ v100000 v0.1) then aC (kH ((eD v100000 v0.1 ((v0.2.1+v8.toNat)*1) ByteArray.empty),())) λy2 =>
   bif y2.1 then
    some (.inr (.inl (v8,v100000,())))
   else some (.inl ((v0.1,v0.2.1,v0.2.2),(),v7,(aB .i64 (v8+1)),v100000,())) else none else none
  else some (.inr (.inr ((v100000,()))))
def dD(x:Shape.den cI):Option (aW dL):=cE bT (2^64) x
def cD(u0:Unit)(x:aH [.hnd 1,.fn 209])(A:List (List ByteArray)):Option ((aH [.int .i64])×List (List ByteArray)):=match x with
 | (v0,v1,()) =>
  aC (dD ((v0.1,v0.2.1,v0.2.2),(),((v0.2.2:Nat):Int),0,A,())) λz3 =>
  C5 z3 (λa4=>some ((a4.1,()),a4.2.1)) λb5 =>
  some (((-1),()),b5.1)
def gD:Code:=aQ Tryz.f208
abbrev lU:Env:=cG [FO]
theorem qH:bC tP lU:=bG ⟨IL,trivial⟩
def kY:Code:=eR gD 0
def lK(id:Nat):Option b9:=bif Nat.beq id 2 then some ⟨cI,dL,dD⟩ else none
theorem zD:∀ x,eM tP lU 19 (aG Tryz.f208) lK kY cI dL x=bT x:=by
 rintro⟨v0,v1,v7,v8,v100000,⟨⟩⟩
 kernel_rfl
theorem zM:cT tP 19 kY ⟨cI,dL,dD⟩:=by exact cQ qH.callee aK.mixed _ (aD (l:=[]) (by kernel_rfl) trivial) zD
theorem A8:cB gD=[kY]:=by kernel_rfl
theorem BP:∀ l x A,GM tP lU Tryz.f208 (aG Tryz.f208) lK gD 110 .str .none [.hnd 1,.fn 209] (.data [.int .i64]) l x A=cD l x A:=by
 rintro u0 ⟨v0,v1,⟨⟩⟩ A
 kernel_rfl
theorem C7:MZ tP 208 110 .str .none [.hnd 1,.fn 209] (.data [.int .i64]) cD:=by exact BG aK qH Tryz.func208 (c:=gD) (by kernel_rfl) (aV:=aG Tryz.f208) (lt:=lK) (by rfl) (aD A8 ⟨cO (i:=2) (by kernel_rfl) rfl zM,trivial⟩) BP
abbrev rQ:Shr:=(208,TG 0 (arH 110 .str .none [.hnd 1,.fn 209] (.data [.int .i64]) cD))
theorem BL:xB tP rQ:=sO (g:=208) (f:=arH 110 .str .none [.hnd 1,.fn 209] (.data [.int .i64]) cD) (FJ C7)
def j7(u0:Unit) (x:aH [.hnd 1]) (A:List (List ByteArray)):Option ((aH [.int .i64])×List (List ByteArray)):=match x with
 | (v0,()) =>
  aC (cD () ((v0.1,v0.2.1,v0.2.2),(),()) A) λy1 =>
  some ((y1.1.1,()),y1.2)
def FA:Code:=aQ Tryz.f169
abbrev MS:Env:=NN [] [rQ]
theorem WN:bC tP MS:=o9 trivial ⟨BL,trivial⟩
def KU(id:Nat):Option b9:=none
theorem UK:cB FA=[]:=by kernel_rfl
theorem XF:∀ l x A,GM tP MS Tryz.f169 (aG Tryz.f169) KU FA 110 .str .none [.hnd 1] (.data [.int .i64]) l x A=j7 l x A:=by
 rintro u0 ⟨v0,⟨⟩⟩ A
 kernel_rfl
theorem ZY:MZ tP 169 110 .str .none [.hnd 1] (.data [.int .i64]) j7:=by exact BG aK WN Tryz.func169 (c:=FA) (by kernel_rfl) (aV:=aG Tryz.f169) (lt:=KU) (by rfl) (aD UK trivial) XF
abbrev M6:Shr:=(169,TG 0 (arH 110 .str .none [.hnd 1] (.data [.int .i64]) j7))
theorem V8:xB tP M6:=sO (g:=169) (f:=arH 110 .str .none [.hnd 1] (.data [.int .i64]) j7) (FJ ZY)
abbrev lR:List (Nat×Kd):=[(4,.own 3 TyE),(12,.hnd 1),(13,.int .i64),(14,.int .i64),(100000,.ar 110 .str)]
abbrev o7:List (Ex×List (Nat×Kd)):=[(.ret,[(2,.list TyE),(3,.int .i64),(100000,.ar 110 .str)]),(.exit 0,[(4,.own 3 TyE),(100000,.ar 110 .str)])]
def jI(x:Shape.den lR):Option (Shape.den lR⊕aW o7):=match x with
 | (v4,v12,v13,v14,v100000,()) =>
  bif ltI v14 v13 then
   bif aI v14 v12.2.2 then bif Nat.blt ((v12.2.1+v14.toNat)*1) (dJ v100000 v12.1) then aC (JR ((eD v100000 v12.1 ((v12.2.1+v14.toNat)*1) ByteArray.empty),())) λy2 =>
   bif y2.2.1 then
    bif ltI 1000000000 y2.1 then
     some (.inr (.inl ([],4,v100000,())))
    else bif ltI y2.1 (-1000000000) then
     some (.inr (.inl ([],4,v100000,())))
    else bif Nat.ble [y2.1].length 1048576 then bif Nat.ble v4.length 1048576 then some (.inl ((v4++[y2.1]),(v12.1,v12.2.1,v12.2.2),v13,(aB .i64 (v14+1)),v100000,())) else none else none
   else some (.inr (.inl ([],4,v100000,()))) else none else none
  else some (.inr (.inr ((v4,v100000,()))))
def qY(x:Shape.den lR):Option (aW o7):=cE jI (2^64) x
def lW(u0:Unit)(x:aH [.hnd 1])(A:List (List ByteArray)):Option ((aH [.list TyE,.int .i64])×List (List ByteArray)):=match x with
 | (v0,()) =>
  bif !(ltI ((v0.2.2:Nat):Int) 0) then bif !(ltI 1048576 ((v0.2.2:Nat):Int)) then aC (qY ((List.replicate 0 0),(v0.1,v0.2.1,v0.2.2),((v0.2.2:Nat):Int),0,A,())) λz3 =>
  C5 z3 (λa4=>some ((a4.1,a4.2.1,()),a4.2.2.1)) λb5 =>
  some ((b5.1,0,()),b5.2.1) else none else none
def wO:Code:=aQ Tryz.f170
abbrev DZ:Env:=cG [aIM]
theorem HK:bC tP DZ:=bG ⟨aLO,trivial⟩
def AI:Code:=eR wO 0
def B9(id:Nat):Option b9:=bif Nat.beq id 3 then some ⟨lR,o7,qY⟩ else none
theorem PK:∀ x,eM tP DZ 39 (aG Tryz.f170) B9 AI lR o7 x=jI x:=by
 rintro⟨v4,v12,v13,v14,v100000,⟨⟩⟩
 kernel_rfl
theorem RY:cT tP 39 AI ⟨lR,o7,qY⟩:=by exact cQ HK.callee aK.mixed _ (aD (l:=[]) (by kernel_rfl) trivial) PK
theorem TL:cB wO=[AI]:=by kernel_rfl
theorem U5:∀ l x A,GM tP DZ Tryz.f170 (aG Tryz.f170) B9 wO 110 .str .none [.hnd 1] (.data [.list TyE,.int .i64]) l x A=lW l x A:=by
 rintro u0 ⟨v0,⟨⟩⟩ A
 kernel_rfl
theorem XJ:MZ tP 170 110 .str .none [.hnd 1] (.data [.list TyE,.int .i64]) lW:=by exact BG aK HK Tryz.func170 (c:=wO) (by kernel_rfl) (aV:=aG Tryz.f170) (lt:=B9) (by rfl) (aD TL ⟨cO (i:=3) (by kernel_rfl) rfl RY,trivial⟩) U5
abbrev K5:Shr:=(170,TG 0 (arH 110 .str .none [.hnd 1] (.data [.list TyE,.int .i64]) lW))
theorem U8:xB tP K5:=sO (g:=170) (f:=arH 110 .str .none [.hnd 1] (.data [.list TyE,.int .i64]) lW) (FJ XJ)
abbrev nP:List (Nat×Kd):=[(3,.own 148 (.hnd 1)),(6,.list TyD),(7,.int .i64),(8,.int .i64),(100000,.ar 110 .str)]
abbrev qR:List (Ex×List (Nat×Kd)):=[(.exit 0,[(3,.own 148 (.hnd 1)),(100000,.ar 110 .str)])]
def eT(x:Shape.den nP):Option (Shape.den nP⊕aW qR):=match x with
 | (v3,v6,v7,v8,v100000,()) =>
  bif ltI v8 v7 then
   bif aI v8 v6.length then aC (pM ((v6.getD v8.toNat []),())) λy2 =>
   bif Nat.ble [(v100000.length,0,y2.length)].length 1048576 then bif Nat.ble v3.length 1048576 then some (.inl ((v3++[(v100000.length,0,y2.length)]),v6,v7,(aB .i64 (v8+1)),(v100000++[y2]),())) else none else none else none
  else some (.inr ((v3,v100000,())))
def o5(x:Shape.den nP):Option (aW qR):=cE eT (2^64) x
def dE(u0:Unit)(x:aH [.list TyD])(A:List (List ByteArray)):Option ((List (Nat×Nat×Nat))×List (List ByteArray)):=match x with
 | (v0,()) =>
  aC (o5 ([],v0,(v0.length:Int),0,A,())) λz3 =>
  some (z3.1,z3.2.1)
def zR:Code:=aQ Tryz.f129
abbrev GO:Env:=NN [] [F7]
theorem J0:bC tP GO:=o9 trivial ⟨GZ,trivial⟩
def DO:Code:=eR zR 0
def FD(id:Nat):Option b9:=bif Nat.beq id 3 then some ⟨nP,qR,o5⟩ else none
theorem TA:∀ x,eM tP GO 19 (aG Tryz.f129) FD DO nP qR x=eT x:=by
 rintro⟨v3,v6,v7,v8,v100000,⟨⟩⟩
 kernel_rfl
theorem VN:cT tP 19 DO ⟨nP,qR,o5⟩:=by exact cQ J0.callee aK.mixed _ (aD (l:=[]) (by kernel_rfl) trivial) TA
theorem WJ:cB zR=[DO]:=by kernel_rfl
theorem YG:∀ l x A,GM tP GO Tryz.f129 (aG Tryz.f129) FD zR 110 .str .none [.list TyD] (.own 148 (.hnd 1)) l x A=dE l x A:=by
 rintro u0 ⟨v0,⟨⟩⟩ A
 kernel_rfl
theorem aA5:MZ tP 129 110 .str .none [.list TyD] (.own 148 (.hnd 1)) dE:=by exact BG aK J0 Tryz.func129 (c:=zR) (by kernel_rfl) (aV:=aG Tryz.f129) (lt:=FD) (by rfl) (aD WJ ⟨cO (i:=3) (by kernel_rfl) rfl VN,trivial⟩) YG
abbrev uH:Shr:=(129,TG 0 (arH 110 .str .none [.list TyD] (.own 148 (.hnd 1)) dE))
theorem uX:xB tP uH:=sO (g:=129) (f:=arH 110 .str .none [.list TyD] (.own 148 (.hnd 1)) dE) (FJ aA5)
abbrev jP:List (Nat×Kd):=[(0,.own 148 (.hnd 1)),(1,.int .i64),(5,.int .i64),(6,.int .i64),(7,.int .i64),(8,.int .i64),(100000,.ar 110 .str)]
abbrev nA:List (Ex×List (Nat×Kd)):=[(.exit 4,[(0,.own 148 (.hnd 1)),(1,.int .i64),(5,.int .i64),(6,.int .i64),(7,.int .i64),(100000,.ar 110 .str)])]
def dQ(x:Shape.den jP):Option (Shape.den jP⊕aW nA):=match x with
 | (v0,v1,v5,v6,v7,v8,v100000,()) =>
  bif ltI v8 (v0.length:Int) then
   bif aI v8 v0.length then bif Nat.blt v8.toNat v0.length then bif aI v6 ((v0.getD v8.toNat (0,0,0)).2.2) then bif Nat.blt (((v0.getD v8.toNat (0,0,0)).2.1+v6.toNat)*1) (dJ v100000 ((v0.getD v8.toNat (0,0,0)).1)) then bif !(eqS (eD v100000 ((v0.getD v8.toNat (0,0,0)).1) (((v0.getD v8.toNat (0,0,0)).2.1+v6.toNat)*1) ByteArray.empty) (ByteArray.mk #[48])) then
    bif ltI v7 0 then
     some (.inl (v0,v1,v5,v6,v8,(aB .i64 (v8+1)),v100000,()))
    else bif aI v8 v0.length then bif Nat.blt v8.toNat v0.length then bif aI v6 ((v0.getD v8.toNat (0,0,0)).2.2) then bif Nat.blt (((v0.getD v8.toNat (0,0,0)).2.1+v6.toNat)*1) (dJ v100000 ((v0.getD v8.toNat (0,0,0)).1)) then aC (LF ((eD v100000 ((v0.getD v8.toNat (0,0,0)).1) (((v0.getD v8.toNat (0,0,0)).2.1+v6.toNat)*1) ByteArray.empty),())) λy4 =>
    bif aI v7 v0.length then bif Nat.blt v7.toNat v0.length then bif aI v6 ((v0.getD v7.toNat (0,0,0)).2.2) then bif Nat.blt (((v0.getD v7.toNat (0,0,0)).2.1+v6.toNat)*1) (dJ v100000 ((v0.getD v7.toNat (0,0,0)).1)) then aC (LF ((eD v100000 ((v0.getD v7.toNat (0,0,0)).1) (((v0.getD v7.toNat (0,0,0)).2.1+v6.toNat)*1) ByteArray.empty),())) λy5 =>
    aC (FN (y4.1,y5.1,())) λy6 =>
    bif ltI y6.1 0 then
     some (.inl (v0,v1,v5,v6,v8,(aB .i64 (v8+1)),v100000,()))
    else some (.inl (v0,v1,v5,v6,v7,(aB .i64 (v8+1)),v100000,())) else none else none else none else none else none else none else none else none
   else some (.inl (v0,v1,v5,v6,v7,(aB .i64 (v8+1)),v100000,())) else none else none else none else none
  else some (.inr ((v0,v1,v5,v6,v7,v100000,())))
def lL(x:Shape.den jP):Option (aW nA):=cE dQ (2^64) x
abbrev iZ:List (Nat×Kd):=[(0,.own 148 (.hnd 1)),(1,.int .i64),(5,.int .i64),(6,.int .i64),(9,.bool),(10,.int .i64),(100000,.ar 110 .str)]
abbrev nE:List (Ex×List (Nat×Kd)):=[(.exit 6,[(0,.own 148 (.hnd 1)),(1,.int .i64),(5,.int .i64),(6,.int .i64),(9,.bool),(100000,.ar 110 .str)])]
def fF(x:Shape.den iZ):Option (Shape.den iZ⊕aW nE):=match x with
 | (v0,v1,v5,v6,v9,v10,v100000,()) =>
  bif ltI v10 (v0.length:Int) then
   bif aI v10 v0.length then bif Nat.blt v10.toNat v0.length then bif aI v6 ((v0.getD v10.toNat (0,0,0)).2.2) then bif Nat.blt (((v0.getD v10.toNat (0,0,0)).2.1+v6.toNat)*1) (dJ v100000 ((v0.getD v10.toNat (0,0,0)).1)) then bif aI v5 v0.length then bif Nat.blt v5.toNat v0.length then bif aI v6 ((v0.getD v5.toNat (0,0,0)).2.2) then bif Nat.blt (((v0.getD v5.toNat (0,0,0)).2.1+v6.toNat)*1) (dJ v100000 ((v0.getD v5.toNat (0,0,0)).1)) then aC (yT ((eD v100000 ((v0.getD v10.toNat (0,0,0)).1) (((v0.getD v10.toNat (0,0,0)).2.1+v6.toNat)*1) ByteArray.empty),(eD v100000 ((v0.getD v5.toNat (0,0,0)).1) (((v0.getD v5.toNat (0,0,0)).2.1+v6.toNat)*1) ByteArray.empty),())) λy10 =>
   bif aI v10 v0.length then bif Nat.blt v10.toNat v0.length then bif aI v5 v0.length then bif Nat.blt v5.toNat v0.length then aC (gX () (((v0.getD v10.toNat (0,0,0)).1,(v0.getD v10.toNat (0,0,0)).2.1,(v0.getD v10.toNat (0,0,0)).2.2),y10.1,((v0.getD v5.toNat (0,0,0)).1,(v0.getD v5.toNat (0,0,0)).2.1,(v0.getD v5.toNat (0,0,0)).2.2),()) v100000) λy11 =>
   bif v9 then
    some (.inl (v0,v1,v5,v6,true,(aB .i64 (v10+1)),y11.2,()))
   else some (.inl (v0,v1,v5,v6,!(eqS y10.2.1 (ByteArray.mk #[48])),(aB .i64 (v10+1)),y11.2,())) else none else none else none else none else none else none else none else none else none else none else none else none
  else some (.inr ((v0,v1,v5,v6,v9,v100000,())))
def pC(x:Shape.den iZ):Option (aW nE):=cE fF (2^64) x
abbrev jO:List (Nat×Kd):=[(0,.own 148 (.hnd 1)),(1,.int .i64),(5,.int .i64),(6,.int .i64),(142,.int .i64),(143,.int .i64),(100000,.ar 110 .str)]
abbrev mT:List (Ex×List (Nat×Kd)):=[(.exit 8,[(0,.own 148 (.hnd 1)),(1,.int .i64),(5,.int .i64),(6,.int .i64),(100000,.ar 110 .str)])]
def lH(x:Shape.den jO):Option (Shape.den jO⊕aW mT):=match x with
 | (v0,v1,v5,v6,v142,v143,v100000,()) =>
  bif ltI v143 v142 then
   bif aI v143 v0.length then bif Nat.blt v143.toNat v0.length then bif aI v6 ((v0.getD v143.toNat (0,0,0)).2.2) then bif Nat.blt (((v0.getD v143.toNat (0,0,0)).2.1+v6.toNat)*1) (dJ v100000 ((v0.getD v143.toNat (0,0,0)).1)) then bif aI v5 v0.length then bif Nat.blt v5.toNat v0.length then bif aI v6 ((v0.getD v5.toNat (0,0,0)).2.2) then bif Nat.blt (((v0.getD v5.toNat (0,0,0)).2.1+v6.toNat)*1) (dJ v100000 ((v0.getD v5.toNat (0,0,0)).1)) then aC (yT ((eD v100000 ((v0.getD v143.toNat (0,0,0)).1) (((v0.getD v143.toNat (0,0,0)).2.1+v6.toNat)*1) ByteArray.empty),(eD v100000 ((v0.getD v5.toNat (0,0,0)).1) (((v0.getD v5.toNat (0,0,0)).2.1+v6.toNat)*1) ByteArray.empty),())) λy17 =>
   bif aI v143 v0.length then bif Nat.blt v143.toNat v0.length then bif aI v5 v0.length then bif Nat.blt v5.toNat v0.length then aC (gX () (((v0.getD v143.toNat (0,0,0)).1,(v0.getD v143.toNat (0,0,0)).2.1,(v0.getD v143.toNat (0,0,0)).2.2),y17.1,((v0.getD v5.toNat (0,0,0)).1,(v0.getD v5.toNat (0,0,0)).2.1,(v0.getD v5.toNat (0,0,0)).2.2),()) v100000) λy18 =>
   some (.inl (v0,v1,v5,v6,v142,(aB .i64 (v143+1)),y18.2,())) else none else none else none else none else none else none else none else none else none else none else none else none
  else some (.inr ((v0,v1,v5,v6,v100000,())))
def dS(x:Shape.den jO):Option (aW mT):=cE lH (2^64) x
abbrev iU:List (Nat×Kd):=[(0,.own 148 (.hnd 1)),(1,.int .i64),(5,.int .i64),(6,.int .i64),(100000,.ar 110 .str)]
abbrev mR:List (Ex×List (Nat×Kd)):=[(.exit 2,[(0,.own 148 (.hnd 1)),(1,.int .i64),(5,.int .i64),(6,.int .i64),(100000,.ar 110 .str)])]
def dT(x:Shape.den iU):Option (Shape.den iU⊕aW mR):=match x with
 | (v0,v1,v5,v6,v100000,()) =>
  aC (lL (v0,v1,v5,v6,(-1),v5,v100000,())) λz21 =>
  bif ltI z21.2.2.2.2.1 0 then
   some (.inr ((z21.1,z21.2.1,z21.2.2.1,z21.2.2.2.1,z21.2.2.2.2.2.1,())))
  else bif aI z21.2.2.2.2.1 z21.1.length then bif Nat.blt z21.2.2.2.2.1.toNat z21.1.length then bif aI z21.2.2.1 z21.1.length then bif Nat.blt z21.2.2.1.toNat z21.1.length then bif aI z21.2.2.1 z21.1.length then bif Nat.blt z21.2.2.1.toNat z21.1.length then bif aI z21.2.2.2.2.1 (z21.1.set z21.2.2.1.toNat ((z21.1.getD z21.2.2.2.2.1.toNat (0,0,0)).1,(z21.1.getD z21.2.2.2.2.1.toNat (0,0,0)).2.1,(z21.1.getD z21.2.2.2.2.1.toNat (0,0,0)).2.2)).length then bif Nat.blt z21.2.2.2.2.1.toNat (z21.1.set z21.2.2.1.toNat ((z21.1.getD z21.2.2.2.2.1.toNat (0,0,0)).1,(z21.1.getD z21.2.2.2.2.1.toNat (0,0,0)).2.1,(z21.1.getD z21.2.2.2.2.1.toNat (0,0,0)).2.2)).length then aC (pC (((z21.1.set z21.2.2.1.toNat ((z21.1.getD z21.2.2.2.2.1.toNat (0,0,0)).1,(z21.1.getD z21.2.2.2.2.1.toNat (0,0,0)).2.1,(z21.1.getD z21.2.2.2.2.1.toNat (0,0,0)).2.2)).set z21.2.2.2.2.1.toNat ((z21.1.getD z21.2.2.1.toNat (0,0,0)).1,(z21.1.getD z21.2.2.1.toNat (0,0,0)).2.1,(z21.1.getD z21.2.2.1.toNat (0,0,0)).2.2)),z21.2.1,z21.2.2.1,z21.2.2.2.1,false,(aB .i64 (z21.2.2.1+1)),z21.2.2.2.2.2.1,())) λz22 =>
  bif z22.2.2.2.2.1 then
   some (.inl (z22.1,z22.2.1,z22.2.2.1,z22.2.2.2.1,z22.2.2.2.2.2.1,()))
  else bif aI z22.2.2.1 z22.1.length then bif Nat.blt z22.2.2.1.toNat z22.1.length then bif aI z22.2.2.2.1 ((z22.1.getD z22.2.2.1.toNat (0,0,0)).2.2) then bif Nat.blt (((z22.1.getD z22.2.2.1.toNat (0,0,0)).2.1+z22.2.2.2.1.toNat)*1) (dJ z22.2.2.2.2.2.1 ((z22.1.getD z22.2.2.1.toNat (0,0,0)).1)) then aC (BZ ((eD z22.2.2.2.2.2.1 ((z22.1.getD z22.2.2.1.toNat (0,0,0)).1) (((z22.1.getD z22.2.2.1.toNat (0,0,0)).2.1+z22.2.2.2.1.toNat)*1) ByteArray.empty),())) λy23 =>
  bif ltI y23.1 0 then
   bif aI z22.2.2.1 z22.1.length then bif Nat.blt z22.2.2.1.toNat z22.1.length then aC (fP () (((z22.1.getD z22.2.2.1.toNat (0,0,0)).1,(z22.1.getD z22.2.2.1.toNat (0,0,0)).2.1,(z22.1.getD z22.2.2.1.toNat (0,0,0)).2.2),()) z22.2.2.2.2.2.1) λy24 =>
   aC (dS (z22.1,z22.2.1,z22.2.2.1,z22.2.2.2.1,z22.2.2.1,0,y24.2,())) λz25 =>
   some (.inr ((z25.1,z25.2.1,(aB .i64 (z25.2.2.1+1)),z25.2.2.2.1,z25.2.2.2.2.1,()))) else none else none
  else aC (dS (z22.1,z22.2.1,z22.2.2.1,z22.2.2.2.1,z22.2.2.1,0,z22.2.2.2.2.2.1,())) λz26 =>
  some (.inr ((z26.1,z26.2.1,(aB .i64 (z26.2.2.1+1)),z26.2.2.2.1,z26.2.2.2.2.1,()))) else none else none else none else none else none else none else none else none else none else none else none else none
def lI(x:Shape.den iU):Option (aW mR):=cE dT (2^64) x
abbrev jK:List (Nat×Kd):=[(0,.own 148 (.hnd 1)),(1,.int .i64),(5,.int .i64),(6,.int .i64),(100000,.ar 110 .str)]
abbrev mW:List (Ex×List (Nat×Kd)):=[(.exit 0,[(0,.own 148 (.hnd 1)),(5,.int .i64),(100000,.ar 110 .str)])]
def fD(x:Shape.den jK):Option (Shape.den jK⊕aW mW):=match x with
 | (v0,v1,v5,v6,v100000,()) =>
  bif ltI v6 v1 then
   bif ltI v5 (v0.length:Int) then
    aC (lI (v0,v1,v5,v6,v100000,())) λz28 =>
    some (.inl (z28.1,z28.2.1,z28.2.2.1,(aB .i64 (z28.2.2.2.1+1)),z28.2.2.2.2.1,()))
   else some (.inr ((v0,v5,v100000,())))
  else some (.inr ((v0,v5,v100000,())))
def pD(x:Shape.den jK):Option (aW mW):=cE fD (2^64) x
def dG(v0:List (Nat×Nat×Nat))(x:aH [.int .i64])(A:List (List ByteArray)):Option ((List (Nat×Nat×Nat))×List (List ByteArray)):=match x with
 | (v1,()) =>
  aC (pD (v0,v1,0,0,A,())) λz29 =>
  bif Nat.beq z29.1.length 0 then
   bif !(ltI z29.2.1 0) then bif Nat.beq z29.2.1.toNat 0 then some (z29.1,z29.2.2.1) else none else none
  else bif !(ltI z29.2.1 0) then bif Nat.ble 0 z29.2.1.toNat then bif Nat.ble z29.2.1.toNat z29.1.length then bif Nat.blt 0 z29.1.length then some (z29.1.take (z29.2.1.toNat-0),z29.2.2.1) else none else none else none else none
def tK:Code:=aQ Tryz.f121
abbrev iV:Env:=NN [aN0,aCM,VJ,aBS] [MU,J3]
theorem jG:bC tP iV:=o9 ⟨aPR,aIA,WX,aCK,trivial⟩ ⟨WV,TM,trivial⟩
def nZ:Code:=eR tK 0
def gP:Code:=eR nZ 0
def xF:Code:=eR gP 0
def xL:Code:=eR gP 1
def xK:Code:=eR gP 2
def iA(id:Nat):Option b9:=bif Nat.beq id 7 then some ⟨jP,nA,lL⟩ else bif Nat.beq id 15 then some ⟨iZ,nE,pC⟩ else bif Nat.beq id 24 then some ⟨jO,mT,dS⟩ else bif Nat.beq id 5 then some ⟨iU,mR,lI⟩ else bif Nat.beq id 3 then some ⟨jK,mW,pD⟩ else none
theorem NK:∀ x,eM tP iV 181 (aG Tryz.f121) iA xF jP nA x=dQ x:=by
 rintro⟨v0,v1,v5,v6,v7,v8,v100000,⟨⟩⟩
 kernel_rfl
theorem N4:cT tP 181 xF ⟨jP,nA,lL⟩:=by exact cQ jG.callee aK.mixed _ (aD (l:=[]) (by kernel_rfl) trivial) NK
theorem MT:∀ x,eM tP iV 181 (aG Tryz.f121) iA xL iZ nE x=fF x:=by
 rintro⟨v0,v1,v5,v6,v9,v10,v100000,⟨⟩⟩
 kernel_rfl
theorem N7:cT tP 181 xL ⟨iZ,nE,pC⟩:=by exact cQ jG.callee aK.mixed _ (aD (l:=[]) (by kernel_rfl) trivial) MT
theorem NB:∀ x,eM tP iV 181 (aG Tryz.f121) iA xK jO mT x=lH x:=by
 rintro⟨v0,v1,v5,v6,v142,v143,v100000,⟨⟩⟩
 kernel_rfl
theorem OI:cT tP 181 xK ⟨jO,mT,dS⟩:=by exact cQ jG.callee aK.mixed _ (aD (l:=[]) (by kernel_rfl) trivial) NB
theorem NF:∀ x,eM tP iV 181 (aG Tryz.f121) iA gP iU mR x=dT x:=by
 rintro⟨v0,v1,v5,v6,v100000,⟨⟩⟩
 kernel_rfl
theorem RL:cB gP=[xF,xL,xK]:=by kernel_rfl
theorem OV:cT tP 181 gP ⟨iU,mR,lI⟩:=by exact cQ jG.callee aK.mixed _ (aD RL ⟨cO (i:=7) (by kernel_rfl) rfl N4,cO (i:=15) (by kernel_rfl) rfl N7,cO (i:=24) (by kernel_rfl) rfl OI,trivial⟩) NF
theorem NI:∀ x,eM tP iV 181 (aG Tryz.f121) iA nZ jK mW x=fD x:=by
 rintro⟨v0,v1,v5,v6,v100000,⟨⟩⟩
 kernel_rfl
theorem SD:cB nZ=[gP]:=by kernel_rfl
theorem OB:cT tP 181 nZ ⟨jK,mW,pD⟩:=by exact cQ jG.callee aK.mixed _ (aD SD ⟨cO (i:=5) (by kernel_rfl) rfl OV,trivial⟩) NI
theorem P6:cB tK=[nZ]:=by kernel_rfl
theorem RX:∀ l x A,GM tP iV Tryz.f121 (aG Tryz.f121) iA tK 110 .str (.own 148 (.hnd 1)) [.int .i64] (.own 148 (.hnd 1)) l x A=dG l x A:=by
 rintro u0 ⟨v1,⟨⟩⟩ A
 kernel_rfl
theorem U1:MZ tP 121 110 .str (.own 148 (.hnd 1)) [.int .i64] (.own 148 (.hnd 1)) dG:=by exact BG aK jG Tryz.func121 (c:=tK) (by kernel_rfl) (aV:=aG Tryz.f121) (lt:=iA) (by rfl) (aD P6 ⟨cO (i:=3) (by kernel_rfl) rfl OB,trivial⟩) RX
abbrev mO:Shr:=(121,TG 1 (arH 110 .str (.own 148 (.hnd 1)) [.int .i64] (.own 148 (.hnd 1)) dG))
theorem nF:xB tP mO:=sO (g:=121) (f:=arH 110 .str (.own 148 (.hnd 1)) [.int .i64] (.own 148 (.hnd 1)) dG) (FJ U1)
end Go.PM
namespace Go.PM
open Go Go.RowKit Go.Proofs
def Dn(u:Nat):ByteArray:=⟨(Lib.decDigits u).toArray⟩
def Zn(n:Int):ByteArray:=⟨(Lib.itoa n).toArray⟩
theorem CU(u:Nat):(Dn u).data.toList=Lib.decDigits u:=by simp[Dn]
theorem a8A(n:Int):(Zn n).data.toList=Lib.itoa n:=by simp[Zn]
theorem aFJ(u:Nat):Zn (u:Int)=Dn u:=by unfold Zn Dn; rw[Lib.itoa_nonneg]
theorem aW1 {n:Int}(h:n.natAbs<10^20):aVG n=Zn n:=aNY h
theorem YV {n:Int}(h:n<0):(Zn n).data.toList=45::Lib.decDigits n.natAbs:=by rw[a8A,Lib.itoa,if_pos h]
theorem U7 {n:Int}(h:0<=n):Zn n=Dn n.natAbs:=by
 obtain⟨u,rfl⟩:∃ u:Nat,n=u:=⟨n.natAbs,by omega⟩;rw[aFJ]; congr 1
theorem SL {a b:ByteArray}(h:a.data.toList=b.data.toList):a=b:=by
 cases a; cases b
 congr 1
 exact Array.ext' h
theorem VU(a:ByteArray):a.size=a.data.toList.length:=by cases a; rfl
theorem aNI(l m:List UInt8):∀ (acc:Nat),Lib.decFrom acc (l++m)=(Lib.decFrom acc l).bind λa=>Lib.decFrom a m:=by
 induction l with
 | nil=>intro acc; rfl
 | cons b l ih =>
  intro acc;rw[List.cons_append,Lib.decFrom,Lib.decFrom];split
  ·exact ih _
  ·rfl
theorem aSD {d:Nat}(h:d<10):Lib.digitVal (UInt8.ofNat (48+d))=some d:=by
 have h1:(UInt8.ofNat (48+d)).toNat=48+d:=by
  rw[UInt8.toNat_ofNat'];omega
 unfold Lib.digitVal;rw[h1,if_pos (by omega)]
 congr 1
 omega
theorem qS(u:Nat):Lib.decFrom 0 (Lib.decDigits u)=some u:=by
 induction u using Nat.strongRecOn with
 | _ u ih =>
  rw[Lib.decDigits];split
  ·rename_i h;rw[Lib.decFrom,aSD h];simp[Lib.decFrom]
  ·rename_i h;rw[aNI,ih (u/10) (by omega)];simp only[Option.bind_some];rw[Lib.decFrom,aSD (Nat.mod_lt _ (by decide))];simp only[Lib.decFrom]
   congr 1
   omega
theorem J5(u:Nat):Lib.decDigits u≠[]:=by
 rw[Lib.decDigits];split <;> simp
theorem MD(u:Nat):∀ b∈Lib.decDigits u,48<=b.toNat/\b.toNat<=57:=by
 induction u using Nat.strongRecOn with
 | _ u ih =>
  intro b hb;rw[Lib.decDigits]at hb;have key:∀ d,d<10->48<=(UInt8.ofNat (48+d)).toNat/\(UInt8.ofNat (48+d)).toNat<=57:=λd h=>by rw[UInt8.toNat_ofNat']; omega
  split at hb
  ·rename_i h;simp only[List.mem_singleton]at hb;subst hb;exact key u h
  ·rename_i h;simp only[List.mem_append,List.mem_singleton]at hb;rcases hb with hb|rfl
   ·exact ih (u/10) (by omega) b hb
   ·exact key _ (Nat.mod_lt _ (by decide))
theorem a6E {a b:Nat}(h:Dn a=Dn b):a=b:=by
 have h1:=congrArg (λx:ByteArray=>Lib.decFrom 0 x.data.toList) h;simp only[CU,qS]at h1;exact Option.some.inj h1
theorem aKW {n:Int}(h:n<0)(m:Nat):Zn n≠Dn m:=by
 intro e;have h1:=congrArg (λx:ByteArray=>x.data.toList) e;simp only[YV h,CU]at h1;have:=MD m 45 (by rw[<- h1]; simp);have e45:(45:UInt8).toNat=45:=by decide
 omega
theorem bAP {a b:Int}(h:Zn a=Zn b):a=b:=by
 rcases(by omega:a<0\/0<=a)with ha|ha
 ·rcases(by omega:b<0\/0<=b)with hb|hb
  ·have h1:=congrArg (λx:ByteArray=>x.data.toList) h;simp only[YV ha,YV hb,List.cons.injEq,true_and]at h1;have h2:=congrArg (Lib.decFrom 0) h1;rw[qS,qS]at h2;have:=Option.some.inj h2;omega
  ·rw[U7 hb]at h;exact absurd h (aKW ha _)
 ·rcases(by omega:b<0\/0<=b)with hb|hb
  ·rw[U7 ha]at h;exact absurd h.symm (aKW hb _)
  ·rw[U7 ha,U7 hb]at h;have:=a6E h;omega
theorem a4I(a b:ByteArray):eqS a b=decide (a=b):=by
 unfold eqS
 by_cases h:a=b
 ·subst h; simp
 ·have:¬ a.data=b.data:=λe=>h (SL (by rw[e]))
  simp[h,this]
theorem bAF:ByteArray.mk #[48]=Dn 0:=SL (by rw[CU,Lib.decDigits]; rfl)
theorem bB9:ByteArray.mk #[49]=Dn 1:=SL (by rw[CU,Lib.decDigits]; rfl)
theorem HV(n:Int):eqS (Zn n) (ByteArray.mk #[48])=decide (n=0):=by
 rw[a4I,bAF,show Dn 0=Zn 0 from(aFJ 0).symm]
 by_cases h:n=0
 ·subst h; simp
 ·have:¬ Zn n=Zn 0:=λe=>h (bAP e)
  simp[h,this]
theorem aME(n:Nat):eqS (Dn n) (ByteArray.mk #[48])=decide (n=0):=by
 rw[<- aFJ,HV];simp
theorem F8(u:Nat):(Dn u).size=Lib.nDigits u:=by rw[VU,CU,Lib.decDigits_length]
theorem I1 {n:Int}(h:n<0):(Zn n).size=Lib.nDigits n.natAbs+1:=by rw[VU,YV h,List.length_cons,Lib.decDigits_length]
theorem CS {u k:Nat}:u<10^(k+1)->Lib.nDigits u<=k+1:=by
 induction k generalizing u with
 | zero=>intro h; rw[Lib.nDigits_small (by simpa using h)]; exact Nat.le_refl _
 | succ k ih =>
  intro h
  by_cases h1:u<10
  ·rw[Lib.nDigits_small h1]; omega
  ·rw[Lib.nDigits_big h1];have:=ih (u:=u/10) (by rw[Nat.pow_succ]at h; omega);omega
theorem lS(u:Nat):u<10^Lib.nDigits u:=by
 have:=Lib.decFrom_lt _ _ _ (qS u);rw[Lib.decDigits_length]at this;simpa using this
theorem nDigits_pos(u:Nat):1<=Lib.nDigits u:=by rw[Lib.nDigits]; split <;> omega
theorem a8P(n:Int):Lib.atoi (Zn n).data.toList=some n:=by
 rcases(by omega:n<0\/0<=n)with h|h
 ·rw[YV h];have hne:(Lib.decDigits n.natAbs).isEmpty=false:=by
   cases e:Lib.decDigits n.natAbs with
   | nil=>exact absurd e (J5 _)
   | cons _ _=>rfl
  simp only[Lib.atoi,Lib.decNat,hne,qS];simp;omega
 ·rw[U7 h,CU];have h1:=qS n.natAbs;have h2:=MD n.natAbs;cases e:Lib.decDigits n.natAbs with
  | nil=>exact absurd e (J5 _)
  | cons b r =>
   rw[e]at h1 h2;have hb:=h2 b (by simp);have n45:(b==45)=false:=by
    rw[beq_eq_false_iff_ne]; rintro rfl;have:(45:UInt8).toNat=45:=by decide
    omega
   have n43:(b==43)=false:=by
    rw[beq_eq_false_iff_ne]; rintro rfl;have:(43:UInt8).toNat=43:=by decide
    omega
   simp only[Lib.atoi,n45,n43,Lib.decNat,h1];simp;omega
theorem aRV(u:Nat):Lib.decNat (Dn u).data.toList=some u:=by
 have hne:(Lib.decDigits u).isEmpty=false:=by
  cases e:Lib.decDigits u with
  | nil=>exact absurd e (J5 _)
  | cons _ _=>rfl
 simp only[CU,Lib.decNat,hne,qS];simp
theorem aE9:∀ (l:List UInt8) (acc n:Nat),Lib.decFrom acc l=some n->acc*10^l.length<=n
 | [],acc,n,h=>by
  obtain rfl:=Option.some.inj h;simp
 | b::l,acc,n,h=>by
  rw[Lib.decFrom]at h;split at h
  ·rename_i d hd;have:=aE9 l _ n h;rw[List.length_cons,Nat.pow_succ];have h1:(acc*10+d)*10^l.length=acc*(10^l.length*10)+d*10^l.length:=by grind
   omega
  ·cases h
theorem W8:∀ (l m:List UInt8) (acc x y:Nat),l.length=m.length->Lib.decFrom acc l=some x->Lib.decFrom acc m=some y->Op.bytesLess l m=decide (x<y)
 | [],[],acc,x,y,_,h1,h2=>by
  obtain rfl:=Option.some.inj h1;obtain rfl:=Option.some.inj h2;simp[Op.bytesLess]
 | [],_::_,_,_,_,h,_,_=>by simp at h
 | _::_,[],_,_,_,h,_,_=>by simp at h
 | c::l,d::m,acc,x,y,h,h1,h2=>by
  have hl:l.length=m.length:=by simpa using h
  have digit:∀ (b:UInt8) (e:Nat),Lib.digitVal b=some e->b.toNat=48+e/\e<10:=by
   intro b e he;unfold Lib.digitVal at he;split at he
   ·have:=Option.some.inj he;omega
   ·cases he
  rw[Lib.decFrom]at h1 h2;split at h1
  ·rename_i e1 he1;split at h2
   ·rename_i e2 he2;obtain⟨c1,c2⟩:=digit c e1 he1;obtain⟨d1,d2⟩:=digit d e2 he2;have x1:=Lib.decFrom_lt l _ x h1;have x2:=aE9 l _ x h1;have y1:=Lib.decFrom_lt m _ y h2;have y2:=aE9 m _ y h2;rw[hl]at x1 x2;rw[Op.bytesLess];rcases Nat.lt_trichotomy e1 e2 with g|g|g
    ·have lt:c<d:=by rw[UInt8.lt_iff_toNat_lt]; omega
     have:(acc*10+e1+1)*10^m.length<=(acc*10+e2)*10^m.length:=Nat.mul_le_mul_right _ (by omega);have hxy:x<y:=by omega
     simp[lt,hxy]
    ·subst g;have e:c=d:=UInt8.toNat_inj.1 (by omega);subst e;have lt:¬ c<c:=by rw[UInt8.lt_iff_toNat_lt]; omega
     simp[lt,W8 l m _ x y hl h1 h2]
    ·have lt:¬ c<d:=by rw[UInt8.lt_iff_toNat_lt]; omega
     have ne:¬ c=d:=by rintro rfl; omega
     have:(acc*10+e2+1)*10^m.length<=(acc*10+e1)*10^m.length:=Nat.mul_le_mul_right _ (by omega);have hxy:¬ x<y:=by omega
     simp[lt,ne,hxy]
   ·cases h2
  ·cases h1
theorem bAG {a b:Nat}(h:Lib.nDigits a=Lib.nDigits b):ltS (Dn a) (Dn b)=decide (a<b):=by
 unfold ltS;rw[CU,CU];exact W8 _ _ 0 a b (by rw[Lib.decDigits_length,Lib.decDigits_length,h]) (qS a) (qS b)
theorem pG {a b:Nat}(h:a<=b):Lib.nDigits a<=Lib.nDigits b:=by
 obtain⟨k,hk⟩:∃ k,Lib.nDigits b=k+1:=⟨Lib.nDigits b-1,by have:=nDigits_pos b; omega⟩;rw[hk];refine CS (Nat.lt_of_le_of_lt h ?_);rw[<- hk];exact lS b
theorem a9N(a b:Nat):eqS (Dn a) (Dn b)=decide (a=b):=by
 rw[a4I]
 by_cases h:a=b
 ·subst h; simp
 ·have:¬ Dn a=Dn b:=λe=>h (a6E e)
  simp[h,this]
def aD0(a b:Nat):Int:=if a<b then -1 else if b<a then 1 else 0
theorem xN(a b:Nat)(ha:Lib.nDigits a<2^32)(hb:Lib.nDigits b<2^32):fY (Dn a,Dn b,())=some (aD0 a b,()):=by
 unfold fY;dsimp only;rw[F8,F8];have hpa:=nDigits_pos a;have hpb:=nDigits_pos b
 by_cases h:Lib.nDigits a=Lib.nDigits b
 ·have h1:eqI (Lib.nDigits a:Int) (Lib.nDigits b:Int)=true:=by rw[jZ]; simp[h]
  rw[h1,bAG h,a9N];simp only[Bool.not_true,oD];unfold aD0
  by_cases h2:a<b
  ·simp[h2]
  ·by_cases h3:a=b
   ·subst h3; simp
   ·have:b<a:=by omega
    simp[h2,h3,this]
 ·have h1:eqI (Lib.nDigits a:Int) (Lib.nDigits b:Int)=false:=by rw[jZ]; simp; omega
  rw[h1];simp only[Bool.not_false,oC];rw[wrap64 (by omega) (by omega)]
  congr 2
  unfold aD0
  by_cases h2:a<b
  ·have:=pG (Nat.le_of_lt h2);have h4:¬ (-1:Int)<(Lib.nDigits a:Int)-(Lib.nDigits b:Int):=by omega
   rw[if_pos h2,if_neg h4];rfl
  ·have h3:b<a:=by
    rcases Nat.lt_or_ge b a with g|g
    ·exact g
    ·have:a=b:=by omega
     subst this; exact absurd rfl h
   have:=pG (Nat.le_of_lt h3);have h4:(-1:Int)<(Lib.nDigits a:Int)-(Lib.nDigits b:Int):=by omega
   have h5:¬ (Lib.nDigits a:Int)-(Lib.nDigits b:Int)<1:=by omega
   rw[if_neg h2,if_pos h3,if_pos h4,if_neg h5]
theorem AD(n:Int) (h1 : -9223372036854775808<=n) (h2:n<9223372036854775808):oU (n,())=some (Zn n,()):=by
 unfold oU HD;have e1:ltI n (-9223372036854775808)=false:=by rw[aF]; simp; omega
 have e2:ltI 9223372036854775807 n=false:=by rw[aF]; simp; omega
 simp only[e1,e2,Bool.not_false,Bool.and_self,oC,aE,aW1 (n:=n) (by omega)]
theorem LM(u:Nat)(h:u<18446744073709551616):tE ((u:Int),())=some (Dn u,()):=by
 unfold tE uL;have e1:ltI (u:Int) 0=false:=by rw[aF]; simp
 have e2:ltI (u:Int) 18446744073709551616=true:=by rw[aF]; simp; omega
 have e3:eqI 10 10=true:=by decide
 simp only[e1,e2,e3,Bool.not_false,Bool.and_self,oC,aE,aW1 (n:=(u:Int)) (by simp; omega),aFJ]
theorem aET(u:Nat)(h:Lib.nDigits u<=18):zZ (Dn u,())=some ((u:Int),true,()):=by
 unfold zZ vT;have e1:Nat.ble (Dn u).size 1000000000=true:=by rw[eI,F8]; simp; omega
 have e2:eqI 10 10=true:=by decide
 have e3:eqI 64 64=true:=by decide
 have e4:Lib.parseUintB 64 (Dn u).data.toList=.ok u:=by
  rw[Lib.parseUintB_64,Lib.parseMag_short _ (by rw[CU,Lib.decDigits_length]; exact h),aRV];rfl
 simp only[e1,e2,e3,Bool.and_self,oC,aE,e4]
theorem P3(a b:Nat)(ha:Lib.nDigits a<=18)(hb:Lib.nDigits b<=18):qJ (Dn a,Dn b,())=some ((a:Int),(b:Int),true,()):=by
 unfold qJ;have e1:ltI 18 ((Dn a).size:Int)=false:=by rw[aF,F8]; simp; omega
 have e2:ltI 18 ((Dn b).size:Int)=false:=by rw[aF,F8]; simp; omega
 simp only[e1,e2,oD,aET a ha,aET b hb,aE]
theorem aDA {s:ByteArray}{c:UInt8}{l:List UInt8}(h:s.data.toList=c::l):aQK s 0=(c.toNat:Int):=by
 have h1:s[0]?=some c:=by
  have h2:s.size=l.length+1:=by rw[VU,h]; rfl
  have h3:s.data[0]?=some c:=by rw[<- Array.getElem?_toList,h]; rfl
  have h4:s[0]?=s.data[0]?:=by cases s; rfl
  rw[h4,h3]
 unfold aQK;rw[h1]
theorem a08(u:Nat):∃ c l,(Dn u).data.toList=c::l/\c.toNat≠45:=by
 have h:=MD u;rw[CU];cases e:Lib.decDigits u with
 | nil=>exact absurd e (J5 _)
 | cons c l =>
  rw[e]at h;have:=h c (by simp);exact⟨c,l,rfl,by omega⟩
theorem aUP {s:ByteArray}{c:UInt8}{l:List UInt8}(h:s.data.toList=c::l):s.extract 1 s.size=⟨l.toArray⟩:=by
 refine SL ?_;have h1:(s.extract 1 s.size).data=s.data.extract 1 s.data.size:=ByteArray.data_extract;rw[h1,Array.toList_extract,List.extract_eq_take_drop,h];have h2:s.data.size=l.length+1:=by rw[<- Array.length_toList,h]; rfl
 rw[h2];simp
theorem vF(n:Int):cR (Zn n,())=some (decide (n<0),Dn n.natAbs,()):=by
 unfold cR
 by_cases h:n<0
 ·have hz:=YV h;have e1:ltI 0 ((Zn n).size:Int)=true:=by rw[aF,I1 h]; simp <;> omega
  have e2:aI 0 (Zn n).size=true:=by rw[aP,I1 h]; simp <;> omega
  have e3:aQK (Zn n) 0=45:=by rw[aDA hz]; rfl
  have e4:Nat.ble 1 (Zn n).size=true:=by rw[eI,I1 h]; simp
  have e5:Nat.ble (Zn n).size (Zn n).size=true:=by rw[eI]; simp
  have e6:eqI 45 45=true:=by decide
  simp only[e1,e2,e3,e4,e5,e6,oC,aUP hz,h,decide_true,Dn]
 ·rw[U7 (by omega)];obtain⟨c,l,h1,h2⟩:=a08 n.natAbs;have hs:(Dn n.natAbs).size=l.length+1:=by rw[VU,h1]; rfl
  have e1:ltI 0 ((Dn n.natAbs).size:Int)=true:=by rw[aF,hs]; simp <;> omega
  have e2:aI 0 (Dn n.natAbs).size=true:=by rw[aP,hs]; simp <;> omega
  have e3:eqI (aQK (Dn n.natAbs) 0) 45=false:=by rw[aDA h1,jZ]; simp <;> omega
  simp only[e1,e2,e3,oC,oD,h,decide_false]
theorem aNK(b:Bool)(m:Nat)(hm:Lib.nDigits m<2^32):aA (b,Dn m,())=some (Zn (if b then -(m:Int) else m),()):=by
 unfold aA;cases b with
 | false=>simp[aFJ]
 | true =>
  have e2:Nat.ble ((ByteArray.mk #[45]).size+(Dn m).size) 9223372036854775807=true:=by
   rw[eI,F8];have:(ByteArray.mk #[45]).size=1:=rfl;rw[this]; simp <;> omega
  simp only[oC,aME,e2]
  by_cases h:m=0
  ·subst h;simp only[decide_true,Bool.not_true,oD];simp only[if_true];have : -((0:Nat):Int)=((0:Nat):Int):=rfl;rw[this,aFJ]
  ·simp only[h,decide_false,Bool.not_false,oC];simp only[if_true]
   congr 2
   refine SL ?_;rw[YV (by omega),Joins.data_append,CU];have:(-(m:Int)).natAbs=m:=by omega
   rw[this];rfl
theorem pX(m:Nat)(hm:Lib.nDigits m<2^32):aA (true,Dn m,())=some (Zn (-(m:Int)),()):=(aNK true m hm).trans (by simp)
theorem tA(m:Nat)(hm:Lib.nDigits m<2^32):aA (false,Dn m,())=some (Zn (m:Int),()):=(aNK false m hm).trans (by simp)
theorem FU(n k:Int)(hk:k<=18):qI (Zn n,k,())=if ((Zn n).size:Int)<=k then some (n,true,()) else some (0,false,()):=by
 unfold qI
 by_cases h:((Zn n).size:Int)<=k
 ·have e1:ltI k ((Zn n).size:Int)=false:=by rw[aF]; simp <;> omega
  have e2:Nat.ble (Zn n).size 18=true:=by rw[eI]; simp <;> omega
  rw[if_pos h];simp only[e1,oD,HG,e2,oC,a8P,aE]
 ·have e1:ltI k ((Zn n).size:Int)=true:=by rw[aF]; simp <;> omega
  rw[if_neg h];simp only[e1,oC]
theorem aFN(n:Int):BZ (Zn n,())=some (n.sign,()):=by
 unfold BZ;simp only[HV]
 by_cases h0:n=0
 ·subst h0; simp
 ·by_cases h:n<0
  ·have hz:=YV h;have e2:aI 0 (Zn n).size=true:=by rw[aP,I1 h]; simp <;> omega
   have e3:aQK (Zn n) 0=45:=by rw[aDA hz]; rfl
   have e6:eqI 45 45=true:=by decide
   simp only[h0,decide_false,oD,e2,e3,e6,oC,Int.sign_eq_neg_one_of_neg h]
  ·rw[U7 (by omega)];obtain⟨c,l,h1,h2⟩:=a08 n.natAbs;have hs:(Dn n.natAbs).size=l.length+1:=by rw[VU,h1]; rfl
   have e2:aI 0 (Dn n.natAbs).size=true:=by rw[aP,hs]; simp <;> omega
   have e3:eqI (aQK (Dn n.natAbs) 0) 45=false:=by rw[aDA h1,jZ]; simp <;> omega
   simp only[h0,decide_false,oD,e2,e3,oC,Int.sign_eq_one_of_pos (show 0<n by omega)]
theorem aRX(n:Int)(h:Lib.nDigits n.natAbs<2^32):L3 (Zn n,())=some (Zn (-n),()):=by
 unfold L3;simp only[vF n,aE]
 by_cases h0:n<0
 ·simp only[h0,decide_true,oC,tA _ h,aE];have:(n.natAbs:Int) = -n:=by omega
  rw[this]
 ·simp only[h0,decide_false,oD,pX _ h,aE];have : -(n.natAbs:Int) = -n:=by omega
  rw[this]
theorem aR1(n:Int):LF (Zn n,())=some (Zn (n.natAbs:Int),()):=by
 unfold LF;simp only[vF n,aE,aFJ]
theorem aP4(a b:Nat) (ha:Lib.nDigits a<2^32) (hb:Lib.nDigits b<2^32):FN (Zn (a:Int),Zn (b:Int),())=some (aD0 a b,()):=by
 unfold FN;have sg:∀ n:Nat,(n:Int).sign=if n=0 then 0 else 1:=λn=>by
  by_cases h:n=0
  ·subst h; rfl
  ·rw[if_neg h,Int.sign_eq_one_of_pos (by omega)]
 simp only[aFN (a:Int),aFN (b:Int),vF (a:Int),vF (b:Int),aE,sg];have e0:∀ n:Nat,decide ((n:Int)<0)=false:=λn=>by simp
 by_cases h1:a=0
 ·by_cases h2:b=0
  ·have e:eqI 0 0=true:=by decide
   simp only[h1,h2,if_true,e,Bool.not_true,oD,e0,Int.natAbs_natCast];have:=xN a b ha hb;rw[h1,h2]at this;simp only[this,aE]
  ·have:eqI 0 1=false:=by decide
   have e:ltI 0 1=true:=by decide
   simp only[h1,h2,if_true,if_false,this,e,Bool.not_false,oC];unfold aD0;rw[if_pos (by omega)]
 ·by_cases h2:b=0
  ·have:eqI 1 0=false:=by decide
   have e:ltI 1 0=false:=by decide
   simp only[h1,h2,if_true,if_false,this,e,Bool.not_false,oC,oD];unfold aD0;rw[if_neg (by omega),if_pos (by omega)]
  ·have e:eqI 1 1=true:=by decide
   simp only[h1,h2,if_false,e,Bool.not_true,oD,e0,Int.natAbs_natCast,xN a b ha hb,aE]
theorem aCO {u:Nat}(h:Lib.nDigits u<=18):u<1000000000000000000:=by
 have h1:=lS u;have h2:10^Lib.nDigits u<=10^18:=Nat.pow_le_pow_right (by decide) h;omega
theorem sI {x:Int}(h1:0<=x)(h2:x<18446744073709551616):aB .u64 x=x:=by
 rw[WR,IntKind.wrap_u64];omega
theorem aXK(a b:Nat)(ha:Lib.nDigits a<=18)(hb:Lib.nDigits b<=18):fU (Dn a,Dn b,())=some (Dn (a+b),()):=by
 have h1:=aCO ha;have h2:=aCO hb;unfold fU;simp only[P3 a b ha hb,aE,oC];rw[sI (by omega) (by omega)];have:(a:Int)+(b:Int)=((a+b:Nat):Int):=by omega
 rw[this,LM _ (by omega)];rfl
theorem aWZ(a b:Nat)(ha:Lib.nDigits a<=18)(hb:Lib.nDigits b<=18)(h:b<=a):dB (Dn a,Dn b,())=some (Dn (a-b),0,()):=by
 have h1:=aCO ha;have h2:=aCO hb;unfold dB;have e:ltI (aD0 a b) 0=false:=by
  rw[aF]; unfold aD0;rw[if_neg (by omega)];split <;> rfl
 simp only[xN a b (by omega) (by omega),P3 a b ha hb,aE,oC,e,oD];rw[sI (by omega) (by omega)];have:(a:Int)-(b:Int)=((a-b:Nat):Int):=by omega
 rw[this,LM _ (by omega)];rfl
theorem aVU(a b:Nat)(h:Lib.nDigits a+Lib.nDigits b<=18):fR (Dn a,Dn b,())=some (Dn (a*b),()):=by
 have p1:=nDigits_pos a;have p2:=nDigits_pos b;have h3:a*b<1000000000000000000:=by
  have h1:=lS a;have h2:=lS b;have h4:a*b<10^Lib.nDigits a*10^Lib.nDigits b:=Nat.mul_lt_mul'' h1 h2;rw[<- Nat.pow_add]at h4;have h5:10^(Lib.nDigits a+Lib.nDigits b)<=10^18:=Nat.pow_le_pow_right (by decide) h;omega
 unfold fR;have e:ltI 18 (aB .i64 (((Dn a).size:Int)+((Dn b).size:Int)))=false:=by
  rw[F8,F8,wrap64 (by omega) (by omega),aF];simp only[decide_eq_false_iff_not];omega
 simp only[e,Bool.not_false,oC,P3 a b (by omega) (by omega),aE];have e2:(a:Int)*(b:Int)=((a*b:Nat):Int):=by rw[Int.natCast_mul]
 rw[e2,sI (by omega) (by omega),LM _ (by omega)];rfl
theorem aPC(a b:Nat)(ha:Lib.nDigits a<=18)(hb:Lib.nDigits b<=18)(h:b≠0):nH (Dn a,Dn b,())=some (Dn (a/b),Dn (a%b),0,()):=by
 have h1:=aCO ha;have h2:=aCO hb;unfold nH;have e1:eqI (b:Int) 0=false:=by rw[jZ]; simp; omega
 have q1:(a:Int).tdiv (b:Int)=((a/b:Nat):Int):=rfl;have q2:(a:Int).tmod (b:Int)=((a%b:Nat):Int):=rfl;have l1:a/b<=a:=Nat.div_le_self _ _;have l2:a%b<=a:=Nat.mod_le _ _;simp only[aME,h,decide_false,oD,P3 a b ha hb,aE,oC,e1,q1,q2];clear q1 q2;generalize a/b=q at *;generalize a%b=r at *;rw[sI (by omega) (by omega),LM _ (by omega),aE,LM _ (by omega)];rfl
theorem L6 {n:Int}{k:Nat}(h:((Zn n).size:Int)<=(k:Int)):Lib.nDigits n.natAbs<=k:=by
 rcases(by omega:n<0\/0<=n)with g|g
 ·rw[I1 g]at h; omega
 ·rw[U7 g,F8]at h; omega
theorem qP {x y f g:Int} (h:x=y*f+g) (hp:0<y->0<=g/\g<y) (hn:y<0->y<g/\g<=0) (h0:y≠0):x.fdiv y=f/\x.fmod y=g:=by
 have key:∀ x y f g:Int,x=y*f+g->0<y->0<=g->g<y->x.fdiv y=f/\x.fmod y=g:=by
  intro x y f g h hy h1 h2;have e1:=Int.fmod_def x y;have e2:=Int.fmod_nonneg_of_pos x hy;have e3:=Int.fmod_lt_of_pos x hy;have e4:y*(x.fdiv y-f)=g-x.fmod y:=by rw[Int.mul_sub]; omega
  have e5:x.fdiv y-f=0:=by
   rcases Int.lt_trichotomy (x.fdiv y-f) 0 with g1|g1|g1
   ·have:y*(x.fdiv y-f)<=y*(-1):=Int.mul_le_mul_of_nonneg_left (by omega) (by omega);omega
   ·exact g1
   ·have:y*1<=y*(x.fdiv y-f):=Int.mul_le_mul_of_nonneg_left (by omega) (by omega);omega
  rw[e5]at e4;omega
 rcases Int.lt_or_gt_of_ne h0 with g1|g1
 ·obtain⟨h1,h2⟩:=hn g1;have:=key (-x) (-y) f (-g) (by rw[h]; grind) (by omega) (by omega) (by omega);rw[Int.neg_fdiv_neg,Int.neg_fmod_neg]at this;omega
 ·obtain⟨h1,h2⟩:=hp g1;exact key x y f g h g1 h1 h2
end Go.PM
