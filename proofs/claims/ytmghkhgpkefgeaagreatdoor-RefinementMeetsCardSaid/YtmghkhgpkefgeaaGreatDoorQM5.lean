/- Texts of one proof, joined (5). -/
import Derived.Lib.AtoiTie
import Derived.Lib.ParseIntBTie
import Derived.Test.YtmghkhgpkefgeaaGreatDoorQM4
set_option linter.unusedSimpArgs false
set_option linter.unusedVariables false
set_option maxRecDepth 100000
noncomputable section
namespace Go.PM
open Go Go.RowKit
structure VO (Y:Type) where
 sh:List (Nat×Kd)
 exits:List (Ex×List (Nat×Kd))
 run:Shape.den sh->Option (List Y×qD exits)
def a68(o:Oper):Bool:=match o.op with
 | .call c=>match c.callee with
  | .value (.tmp _)=>true
  | _=>false
 | _=>false
def a5G:List Oper->Nat->Option Nat
 | [],_=>none
 | o::r,i=>bif a68 o then some i else a5G r (i+1)
def outs {Y α:Type}(l:List Y):Option (List Y×α)->Option (List Y×α)
 | some (m,z)=>some (l++m,z)
 | none=>none
def aX2 {Y τ α:Type} (r:Option (List Y×τ)) (k:τ->Option (List Y×α)):Option (List Y×α):=match r with
 | some (l,z)=>outs l (k z)
 | none=>none
def a4G {Y:Type}:Option (List Y×Unit)->Option (List Y)
 | some (l,_)=>some l
 | none=>none
section
variable {α:Type} (P:Program) (E:Env) (nt bV:Nat) (lt:Nat->Option cG) (ks:List Kd) (li:Nat->Option (VO (Value×aK ks)))
def a7G(ops:Array Oper) (o:Oper) (rest:List Oper) (F:Frm) (H:Heap) (k:Frm->Heap->Option (List (Value×aK ks)×α)) (kx:Frm->Heap->Option Unit):Option (List (Value×aK ks)×α) :=
 aRD F ops.toList o λF b=>bif b then (match o.op with
  | .call c=>match c.callee with
   | .value f=>match ev F f with
    | .lit yv=>bif eH.noRefs (c.args.toList.map (ev F))&&ks.all Kd.plain then (match aM4 ks (c.args.toList.map (ev F))with
     | some e=>match VI nt F o.dst (.lit (.bool true)),VI nt F o.dst (.lit (.bool false))with
      | some F1,some F2=>match OW P E nt ops.toList rest F2 H kx with
       | some _=>outs [(yv,e)] (OW P E nt ops.toList rest F1 H k)
       | none=>none
      | _,_=>none
     | none=>none) else none
    | _=>none
   | _=>none
  | _=>none) else match VI nt F o.dst (.lit undef)with
   | some F1=>OW P E nt ops.toList rest F1 H k
   | none=>none
def MH:Code->Frm->Heap->(Ex->Frm->Heap->Option (List (Value×aK ks)×α))->(Ex->Frm->Heap->Option Unit)->Option (List (Value×aK ks)×α)
 | .skip,F,H,k,_=>k .normal F H
 | .label _,F,H,k,_=>k .normal F H
 | .region _ ops draw,F,H,k,kx=>match a5G ops.toList 0 with
  | none=>bif WY ops then GC P E nt ops draw F H λF H=>Y3 bV F λF=>k .normal F H else none
  | some s=>bif aJK ops s then match ops.toList.drop s with
   | o::rest=>bif rest.all (λo=>!aQR o.op) then
     (bif draw then GC P E nt (ops.toList.take s).toArray true F H else OW P E nt ops.toList (ops.toList.take s) F H) λF H =>
      a7G P E nt ks ops o rest F H (λF H=>Y3 bV F λF=>k .normal F H) (λF H=>kx .normal F H)
    else none
   | []=>none
   else none
 | .seq a b,F,H,k,kx=>MH a F H (λex F H=>match ex with
  | .normal=>MH b F H k kx
  | .exit i=>k (.exit i) F H
  | .ret=>k .ret F H) (λex F H=>match ex with
  | .normal=>C2 P E nt bV lt (λ_=>none) true [] b F H kx
  | .exit i=>kx (.exit i) F H
  | .ret=>kx .ret F H)
 | .cond c a b,F,H,k,kx=>match ev F c with
  | .lit (.bool t)=>aUK F c t λF t=>bif t then MH a F H k kx else MH b F H k kx
  | _=>none
 | .block id a,F,H,k,kx=>MH a F H (λex F H=>match ex with
  | .exit i=>bif Nat.beq i id then k .normal F H else k (.exit i) F H
  | .normal=>k .normal F H
  | .ret=>k .ret F H) (λex F H=>match ex with
  | .exit i=>bif Nat.beq i id then kx .normal F H else kx (.exit i) F H
  | .normal=>kx .normal F H
  | .ret=>kx .ret F H)
 | .loop a,F,H,k,_=>match li (bW a)with
  | some s=>match BO [] s.sh F H with
   | some x=>aX2 (s.run x) λz=>aVX s.exits z k
   | none=>none
  | none=>match lt (bW a)with
   | some s=>match BO [] s.sh F H with
    | some x=>aC (s.run x) λz=>aVX s.exits z k
    | none=>none
   | none=>none
 | .exit id,F,H,k,_=>k (.exit id) F H
 | .ret,F,H,k,_=>k .ret F H
 | _,_,_,_,_=>none
end
def a3J:Ex->Frm->Heap->Option Unit:=λex _ _=>match ex with
 | .ret=>some ()
 | _=>none
def a3D {Y:Type}(sh:List (Nat×Kd))(exits:List (Ex×List (Nat×Kd)))(ex:Ex)(F:Frm)(H:Heap):Option (List Y×(Shape.den sh⊕qD exits)):=match aIF [] sh exits ex F H with
 | some z=>some ([],z)
 | none=>none
def a2W(P:Program) (E:Env) (nt bV:Nat) (lt:Nat->Option cG) (ks:List Kd) (li:Nat->Option (VO (Value×aK ks))) (a:Code) (sh:List (Nat×Kd)) (exits:List (Ex×List (Nat×Kd))) (x:Shape.den sh):Option (List (Value×aK ks)×(Shape.den sh⊕qD exits)) :=
 MH P E nt bV lt ks li a (AE sh x 0) (JO sh x) (a3D sh exits) a3J
def aHV {Y σ τ:Type}(step:σ->Option (List Y×(σ⊕τ))):Nat->σ->Option (List Y×τ)
 | 0,_=>none
 | n+1,x=>match step x with
  | some (l,.inl y)=>outs l (aHV step n y)
  | some (l,.inr z)=>some (l,z)
  | none=>none
theorem aGW {Y α:Type}{l:List Y}{r:Option (List Y×α)}{m:List Y}{z:α}(h:outs l r=some (m,z)):∃ m',r=some (m',z)/\m=l++m':=by
 cases r with
 | none=>cases h
 | some p =>
  obtain⟨m',z'⟩:=p;simp only[outs,oJ,oP]at h;obtain⟨h1,h2⟩:=h;subst h2;exact⟨m',rfl,h1.symm⟩
section
variable {P:Program} {E:Env} {nt bV:Nat} {lt:Nat->Option cG} {ks:List Kd} {li:Nat->Option (VO (Value×aK ks))}
variable {Φ:(Nat->Prop)->(Nat->Prop)->World->Prop} {G0 G G':Gd} {μ μ':Mp} {H H':Heap} {A A' W:World} {F F':Frm} {n:Nat} {a:Act}
theorem Sg.a0P (h:Sg Φ G0 G μ H A):∃ n0,aP n0 G μ H A/\(∀ b,G0 b->G b)/\∀ A' G' μ' H',Ext n0 A G aH A' G' μ'->aP n0 G' μ' H' A'->Sg Φ G0 G' μ' H' A':=by
 obtain⟨T,X,B,GB,μB,h1,h2,h3,h4,h5,h6,h7⟩:=h;refine⟨_,h7,λb hb=>(h6.good b (h5 b hb)).1,λA' G' μ' H' e w=>⟨T,X,B,GB,aH,h1,h2,h3,h4,h5,?_,w⟩⟩;have h6':Ext (λb=>X b\/B.heap.size<=b) B GB aH A G aH:=h6.plain;exact h6'.trans e
theorem aXP {c:Code} {r:Ex×Frm×Heap} (h:aTL P nt true [] c F H r) {Q:Exit->Act->World->Prop} (hS:Sg Φ G0 G μ H A) (hF:gN A G μ nt F a)
  (hQ:∀ G' μ' a' A',Sg Φ G0 G' μ' r.2.2 A'->gN A' G' μ' nt r.2.1 a'->Q r.1.to a' A'):c.wpIn Fence.wide n P Q a A:=by
 obtain⟨n0,hW,_,hS2⟩:=hS.a0P;have e0:Ext n0 A G aH A G μ:={ good:=λ_ h=>⟨h,rfl⟩,map:=λ_ _ h=>(by cases h),len:=λ_ _ h=>(by cases h),room:=λ_ _ h=>h,row:=λ_ _ h=>h,os:=rfl,tape:=rfl,output:=rfl,size:=Nat.le_refl _,old:=λ_ _ _=>rfl,new:=λ_ h=>.inl h };refine wpIn_mono (h none n n0 A G aH a A (λh=>(by cases h)) (λr _=>⟨rfl,rfl⟩) ⟨G,μ,e0,hW,hF.same,by rw[hF.defers]; trivial⟩) ?_;rintro e a' w' ⟨rfl,⟨G',μ',e',hW',hF',_⟩,hd⟩
 refine hQ G' μ' a' w' (hS2 _ _ _ _ e' hW') ⟨hF'.size,hF'.slot,?_⟩;rw[hd rfl]; exact hF.defers
def a8T(P:Program) (ks:List Kd) (l:Nat) (G0:Gd) (all:List (aK ks)) (J Jx:List (aK ks)->(Nat->Prop)->(Nat->Prop)->World->Prop):Prop :=
 ∀ pre e post T X B T' X' A us Gx m',all=pre++e::post->J pre T X B->Stp X B A->(∀ b,T' b->(T b\/B.heap.size<=b)/\b<A.heap.size)->(∀ b,X' b->T' b/\(X b\/B.heap.size<=b)) ->
   (∀ b,Gx b->(G0 b\/T' b)/\¬ X' b)->VRs A (Gd.of Gx) aH (nK ks e) us ->
   YieldAt Fence.wide m' P l us.toArray A λen C =>
    ((∀ b,b<A.heap.size->G0 b\/T' b->C.heap[b]?=A.heap[b]?)/\(∀ b n,Room A b n->Room C b n)/\A.heap.size<=C.heap.size)/\((en=.returned (.bool true)/\J (pre++[e]) T' X' C)\/(en=.returned (.bool false)/\Jx (pre++[e]) T' X' C))
def a0L(P:Program) (nt:Nat) (ks:List Kd) (c:Code) (F:Frm) (H:Heap) (ys:List (Value×aK ks)) (r:Ex×Frm×Heap) (kx:Ex->Frm->Heap->Option Unit):Prop :=
 ∀ (l:Nat) (yv:Value),yv=.func (.yield l) #[] #[]->∀ (G0:Gd) (all:List (aK ks)) (J Jx:List (aK ks)->(Nat->Prop)->(Nat->Prop)->World->Prop),a8T P ks l G0 all J Jx ->
  ∀ (pre post:List (aK ks)) (n:Nat) (a:Act) (A:World) (G:Gd) (μ:Mp),all=pre++(ys.map (·.2)++post)->(∀ y∈ys,y.1=yv)->Sg (J pre) G0 G μ H A->gN A G μ nt F a ->
  c.wpIn Fence.wide n P (λe a' A'=>(e=r.1.to/\∃ G' μ',Sg (J (pre++ys.map (·.2))) G0 G' μ' r.2.2 A'/\gN A' G' μ' nt r.2.1 a') \/
   (∃ ex' F' H' pre' G' μ',kx ex' F' H'=some ()/\e=ex'.to/\Sg (Jx pre') G0 G' μ' H' A'/\gN A' G' μ' nt F' a')) a A
def aWZ(P:Program) (nt:Nat) (ks:List Kd) (a:Code) (s:VO (Value×aK ks)):Prop :=
 ∀ x ys z,s.run x=some (ys,z)->a0L P nt ks (.loop a) (AE s.sh x 0) (JO s.sh x) ys (EO s.exits z) a3J
def aJ1(P:Program)(nt:Nat)(lt:Nat->Option cG)(ks:List Kd)(li:Nat->Option (VO (Value×aK ks))):Code->Prop
 | .loop a=>(∀ s,lt (bW a)=some s->UE P nt true [] (.loop a) s)/\(∀ s,li (bW a)=some s->aWZ P nt ks a s)
 | _=>True
theorem VC {c:Code}{r:Ex×Frm×Heap}{kx:Ex->Frm->Heap->Option Unit}(h:aTL P nt true [] c F H r):a0L P nt ks c F H [] r kx:=by
 intro l yv hyv G0 all J Jx hY pre post n a A G μ hall hys hS hF;refine aXP h hS hF λG' μ' a' A' hS' hF'=>.inl ⟨rfl,G',μ',?_,hF'⟩
 rw[List.map_nil,List.append_nil]; exact hS'
theorem aP8(hcl:eE P (fQ P E))(hP:P.follows .mixedOrders=true){α:Type}{id:Nat}{ops:Array Oper}{draw:Bool}{k:Ex->Frm->Heap->Option α}{z:α}(h:GC P E nt ops draw F H (λF H=>Y3 bV F λF=>k .normal F H)=some z)(hd:WY ops=true) :
  ∃ r:Ex×Frm×Heap,k r.1 r.2.1 r.2.2=some z/\aTL P nt true [] (.region id ops draw) F H r:=by
 obtain⟨F1,H1,h1,h2⟩:=aK9 (id:=id) hcl hP hd h;obtain⟨F2,h3,h4⟩:=O7 bV F1 λF=>k .normal F H1
 rw[h3]at h1;exact⟨(.normal,F2,H1),h1,λ_ _ _ _ _ _ _ _ _ _ hI=>h2 hI λa' w' hd' hI'=>⟨rfl,hI'.a4Z h4,λ_=>hd'⟩⟩
theorem aL9(hcl:eE P (fQ P E)) {ops:Array Oper} {l:List Oper} (hrun:TQ P (fQ P E) nt ops.toList l F H=some (F',H')) (hnd:(l.all λo=>!aQR o.op)=true) {Q:Exit->Act->World->Prop}
  (hS:Sg Φ G0 G μ H A) (hF:gN A G μ nt F a) (hQ:∀ G' μ' a' A',Sg Φ G0 G' μ' H' A'->gN A' G' μ' nt F' a'->Q .normal a' A'):wpListIn Fence.wide n P ops Q l a A:=by
 obtain⟨n0,hW,_,hS2⟩:=hS.open_;have h1:=EL (Q:=λe a' w'=>e=.normal/\I n0 A G μ nt F' H' a' w') hcl l F H a A hrun ⟨G,μ,Ext.refl _ _ _ _,hW,hF⟩ (λa' w' h=>⟨rfl,h⟩);have h2:=aFU (ro:=none) (n:=n) (ds:=[]) (Q':=Q) (λa w h=>by cases h.1) (λe a' w' h=>by
  obtain⟨rfl,G',μ',e,hW',hF'⟩:=h;have e1:xY [] a'=a':=by simp[xY]
  rw[e1];exact hQ G' μ' a' w' (hS2 _ _ _ _ e hW') hF') (λo ho c hc=>by
  have:=List.all_eq_true.1 hnd o ho;rw[hc]at this;cases this) h1
 have e1:xY [] a=a:=by simp[xY]
 rw[e1]at h2;exact h2
theorem aYD(hcl:eE P (fQ P E)) (hP:P.follows .mixedOrders=true) {α:Type} {id s:Nat} {ops:Array Oper} {draw:Bool} (hsp:aJK ops s=true) {k:Frm->Heap->Option α} {z:α}
  (h:(bif draw then GC P E nt (ops.toList.take s).toArray true F H else OW P E nt ops.toList (ops.toList.take s) F H) k=some z) :
  ∃ F1 H1,k F1 H1=some z/\∀ {Φ:(Nat->Prop)->(Nat->Prop)->World->Prop} {G0 G:Gd} {μ:Mp} {A:World} {a:Act} {n:Nat} {Q:Exit->Act->World->Prop},Sg Φ G0 G μ H A->gN A G μ nt F a ->
   (∀ G' μ' a' A',Sg Φ G0 G' μ' H1 A'->gN A' G' μ' nt F1 a'->wpListIn Fence.wide n P ops Q (ops.toList.drop s) a' A')->(Code.region id ops draw).wpIn Fence.wide n P Q a A:=by
 obtain⟨F1,H1,hrun,hk⟩:∃ F1 H1,(bif draw then WD P (fQ P E) nt (ops.toList.take s).toArray F H else TQ P (fQ P E) nt ops.toList (ops.toList.take s) F H)=some (F1,H1)/\k F1 H1=some z:=by
  cases draw with
  | true =>
   simp only[oC]at h ⊢;exact V6 h
  | false =>
   simp only[oD]at h ⊢;obtain⟨F1,H1,h2,h3⟩:=BA h;exact⟨F1,H1,h2,h3⟩
 refine⟨F1,H1,hk,?_⟩;intro Φ G0 G μ A a n Q hS hF hQ;obtain⟨n0,hW,_,hS2⟩:=hS.open_;have:=aQF (ro:=none) (n:=n) (ds:=[]) (Q:=Q) hcl hP (id:=id) hsp hrun (n0:=n0) (wi:=A) (Gi:=G) (μi:=μ) (a:=a) (w:=A) ⟨G,μ,Ext.refl _ _ _ _,hW,hF⟩ (λa' w' h=>by
  obtain⟨G',μ',e,hW',hF'⟩:=h;have e1:xY [] a'=a':=by simp[xY]
  rw[e1];exact hQ G' μ' a' w' (hS2 _ _ _ _ e hW') hF')
 have e1:xY [] a=a:=by simp[xY]
 rw[e1]at this;exact this
theorem a1B {l:List Operand}(hF:gN A G μ nt F a):VRs A G μ (l.map (ev F)) (l.map a.eval):=by
 induction l with
 | nil=>rw[List.map_nil,List.map_nil,VRs]
 | cons x l ih =>
  rw[List.map_cons,List.map_cons,VRs];exact⟨_,_,rfl,cT hF x,ih⟩
theorem zX {α:Type}(hcl:eE P (fQ P E))(hP:P.follows .mixedOrders=true):∀ (c:Code) (F:Frm) (H:Heap) (k:Ex->Frm->Heap->Option (List (Value×aK ks)×α)) (kx:Ex->Frm->Heap->Option Unit) (ys:List (Value×aK ks)) (z:α),
  (∀ F H,kx .ret F H=some ())->(∀ a∈iG c,aJ1 P nt lt ks li a)->MH P E nt bV lt ks li c F H k kx=some (ys,z) ->
  ∃ ys1 ys2 r,k r.1 r.2.1 r.2.2=some (ys2,z)/\ys=ys1++ys2/\a0L P nt ks c F H ys1 r kx
 | .skip,F,H,k,kx,ys,z,hx,hl,h=>⟨[],ys,(.normal,F,H),h,rfl,VC λ_ _ _ _ _ _ _ _ _ _ hI=>wpIn_skip ⟨rfl,hI,λ_=>rfl⟩⟩
 | .label l,F,H,k,kx,ys,z,hx,hl,h=>⟨[],ys,(.normal,F,H),h,rfl,VC λ_ _ _ _ _ _ _ _ _ _ hI=>wpIn_label ⟨rfl,hI,λ_=>rfl⟩⟩
 | .exit id,F,H,k,kx,ys,z,hx,hl,h=>⟨[],ys,(.exit id,F,H),h,rfl,VC λ_ _ _ _ _ _ _ _ _ _ hI=>wpIn_exit ⟨rfl,hI,λ_=>rfl⟩⟩
 | .ret,F,H,k,kx,ys,z,hx,hl,h=>⟨[],ys,(.ret,F,H),h,rfl,VC λ_ _ _ _ _ _ _ _ _ _ hI=>wpIn_ret ⟨rfl,hI,λ_=>rfl⟩⟩
 | .region id ops draw,F,H,k,kx,ys,z,hx,hl,h=>by
  simp only[MH]at h;split at h
  ·obtain⟨hd,h⟩:=aI h;obtain⟨r,h1,h2⟩:=aP8 (id:=id) hcl hP h hd;exact⟨[],ys,r,h1,rfl,VC h2⟩
  ·rename_i s hs;obtain⟨hsp,h⟩:=aI h;split at h
   ·rename_i o rest hdrop;obtain⟨hnd,h⟩:=aI h;obtain⟨F1,H1,hk,hsplit⟩:=aYD (id:=id) hcl hP hsp h;unfold a7G at hk;obtain⟨b,hg,hk⟩:=aH3 hk;cases b with
    | true =>
     simp only[oC]at hk;split at hk
     ·rename_i c hoc;split at hk
      ·rename_i f hcf;split at hk
       ·rename_i yv hyv;obtain⟨hnr,hk⟩:=aI hk;rw[oA]at hnr;obtain⟨hnr,hplk⟩:=hnr;split at hk
        ·rename_i e he;split at hk
         ·rename_i F2 F3 hp2 hp3;split at hk
          ·rename_i u hstop;obtain⟨ys2,hlive,rfl⟩:=aGW hk;obtain⟨F4,H4,hrun4,hk4⟩:=BA hlive;obtain⟨F5,H5,hrun5,hk5⟩:=BA hstop;obtain⟨F6,h6,h7⟩:=O7 bV F4 λF=>k .normal F H4
           rw[h6]at hk4;refine⟨[(yv,e)],ys2,(.normal,F6,H4),hk4,rfl,?_⟩;intro l yv' hyv' G0 all J Jx hY pre post n a A G μ hall hys hS hF;have hyy:=hys _ (List.mem_singleton.2 rfl);dsimp only at hyy;subst hyy;refine hsplit hS hF λG1 μ1 a1 A1 hS1 hF1=>?_
           rw[hdrop];have hw:=BU hF1 hg;have hv:=a1B (l:=c.args.toList) hF1;have hv0:=cZ _ _ hnr hv;have hve:=IE ks he hv0;have hfe:=cT hF1 f;rw[hyv,VR]at hfe;have hall':all=pre++e::post:=by rw[hall]; rfl
           refine a0T hoc hcf hw (hfe.trans hyv') (us:=(c.args.toList.map a1.eval).toArray) (by rw[<- Array.toList_map]) (λm'=>hS1.yield hY hall' hve (aJ3 ks e hplk) m') ?_;rintro en C ⟨hmo,hout⟩;rcases hout with ⟨rfl,hS2⟩|⟨rfl,hS2⟩
           ·refine⟨_,rfl,aL9 hcl hrun4 hnd hS2 ((hF1.mono hmo).aJZ hp2 (by rw[VR])) λG2 μ2 a2 A2 hS3 hF3=>.inl ⟨rfl,G2,μ2,hS3,?_⟩⟩;exact⟨hF3.size,λt=>by
             rcases h7 t with h8|h8
             ·rw[h8]; exact hF3.slot t
             ·rw[h8,VR]; trivial,hF3.defers⟩
           ·exact⟨_,rfl,aL9 hcl hrun5 hnd hS2 ((hF1.mono hmo).aJZ hp3 (by rw[VR])) λG2 μ2 a2 A2 hS3 hF3=>.inr ⟨.normal,F5,H5,_,G2,μ2,hk5,rfl,hS3,hF3⟩⟩
          ·cases hk
         ·cases hk
        ·cases hk
       ·cases hk
      ·cases hk
     ·cases hk
    | false =>
     simp only[oD]at hk;split at hk
     ·rename_i F2 hp2;obtain⟨F4,H4,hrun4,hk4⟩:=BA hk;obtain⟨F6,h6,h7⟩:=O7 bV F4 λF=>k .normal F H4
      rw[h6]at hk4;refine⟨[],ys,(.normal,F6,H4),hk4,rfl,?_⟩;intro l yv' hyv' G0 all J Jx hY pre post n a A G μ hall hys hS hF;refine hsplit hS hF λG1 μ1 a1 A1 hS1 hF1=>?_
      rw[hdrop];refine a4V (BU hF1 hg) (aL9 hcl hrun4 hnd hS1 (hF1.aJZ hp2 (by rw[VR])) λG2 μ2 a2 A2 hS3 hF3=>.inl ⟨rfl,G2,μ2,?_,?_⟩)
      ·rw[List.map_nil,List.append_nil]; exact hS3
      ·exact⟨hF3.size,λt=>by
        rcases h7 t with h8|h8
        ·rw[h8]; exact hF3.slot t
        ·rw[h8,VR]; trivial,hF3.defers⟩
     ·cases hk
   ·cases h
 | .seq x y,F,H,k,kx,ys,z,hx,hl,h=>by
  simp only[MH]at h;obtain⟨ys1,ys2,⟨ex,F1,H1⟩,h1,rfl,h2⟩:=zX hcl hP x F H _ _ ys z (by intro F H; exact hx F H) (λa ha=>hl a (by simp[iG,ha])) h;have stop:∀ {l:Nat} {yv:Value} {G0:Gd} {all:List (aK ks)} {J Jx:List (aK ks)->(Nat->Prop)->(Nat->Prop)->World->Prop} {n:Nat} {R:Exit->Act->World->Prop},
    (∀ e a' A',(∃ ex' F' H' pre' G' μ',kx ex' F' H'=some ()/\e=ex'.to/\Sg (Jx pre') G0 G' μ' H' A'/\gN A' G' μ' nt F' a')->R e a' A')->∀ ex' F' H' pre' G' μ' a' A',
    (match ex' with
     | Ex.normal=>C2 P E nt bV lt (λ_=>none) true [] y F' H' kx
     | Ex.exit i=>kx (Ex.exit i) F' H'
     | Ex.ret=>kx Ex.ret F' H')=some ()->Sg (Jx pre') G0 G' μ' H' A'->gN A' G' μ' nt F' a' ->
    Exit.then (y.wpIn Fence.wide n P R) R ex'.to a' A':=by
   intro l yv G0 all J Jx n R hR ex' F' H' pre' G' μ' a' A' hm hS hF;cases ex' with
   | normal =>
    obtain⟨r,h3,h4⟩:=n9 hcl hP y F' H' kx () (λa ha=>by
     have:=hl a (by simp[iG,ha]);cases a with
     | loop b=>exact this.1
     | rangeFunc g ps as1 b=>intro h; cases h
     | _=>trivial) hm
    refine aXP h4 hS hF λG2 μ2 a2 A2 hS2 hF2=>hR _ _ _ ⟨r.1,r.2.1,r.2.2,pre',G2,μ2,h3,rfl,hS2,hF2⟩
   | exit i=>exact hR _ _ _ ⟨.exit i,F',H',pre',G',μ',hm,rfl,hS,hF⟩
   | ret=>exact hR _ _ _ ⟨.ret,F',H',pre',G',μ',hm,rfl,hS,hF⟩
  cases ex with
  | normal =>
   obtain⟨ys3,ys4,r,h3,rfl,h4⟩:=zX hcl hP y F1 H1 k kx ys2 z hx (λa ha=>hl a (by simp[iG,ha])) h1;refine⟨ys1++ys3,ys4,r,h3,by rw[List.append_assoc],?_⟩;intro l yv hyv G0 all J Jx hY pre post n a A G μ hall hys hS hF;refine wpIn_seq (wpIn_mono (h2 l yv hyv G0 all J Jx hY pre (ys3.map (·.2)++post) n a A G μ (by rw[hall,List.map_append,List.append_assoc]) (λy hy=>hys y (List.mem_append_left _ hy)) hS hF) ?_)
   rintro e a' w' (⟨rfl,G',μ',hS',hF'⟩|⟨ex',F',H',pre',G',μ',hm,rfl,hS',hF'⟩)
   ·refine wpIn_mono (h4 l yv hyv G0 all J Jx hY (pre++ys1.map (·.2)) post n a' w' G' μ' (by rw[hall,List.map_append,List.append_assoc,List.append_assoc]) (λy hy=>hys y (List.mem_append_right _ hy)) hS' hF') ?_;rintro e a'' w'' (⟨rfl,G2,μ2,hS2,hF2⟩|hst)
    ·refine .inl ⟨rfl,G2,μ2,?_,hF2⟩;rw[List.map_append,<- List.append_assoc]; exact hS2
    ·exact .inr hst
   ·exact stop (l:=l) (yv:=yv) (all:=all) (J:=J) (λe a' A' h=>Or.inr h) ex' F' H' pre' G' μ' a' w' hm hS' hF'
  | exit i =>
   refine⟨ys1,ys2,(.exit i,F1,H1),h1,rfl,?_⟩;intro l yv hyv G0 all J Jx hY pre post n a A G μ hall hys hS hF;refine wpIn_seq (wpIn_mono (h2 l yv hyv G0 all J Jx hY pre post n a A G μ hall hys hS hF) ?_);rintro e a' w' (⟨rfl,G',μ',hS',hF'⟩|⟨ex',F',H',pre',G',μ',hm,rfl,hS',hF'⟩)
   ·exact .inl ⟨rfl,G',μ',hS',hF'⟩
   ·exact stop (l:=l) (yv:=yv) (all:=all) (J:=J) (λe a' A' h=>Or.inr h) ex' F' H' pre' G' μ' a' w' hm hS' hF'
  | ret =>
   refine⟨ys1,ys2,(.ret,F1,H1),h1,rfl,?_⟩;intro l yv hyv G0 all J Jx hY pre post n a A G μ hall hys hS hF;refine wpIn_seq (wpIn_mono (h2 l yv hyv G0 all J Jx hY pre post n a A G μ hall hys hS hF) ?_);rintro e a' w' (⟨rfl,G',μ',hS',hF'⟩|⟨ex',F',H',pre',G',μ',hm,rfl,hS',hF'⟩)
   ·exact .inl ⟨rfl,G',μ',hS',hF'⟩
   ·exact stop (l:=l) (yv:=yv) (all:=all) (J:=J) (λe a' A' h=>Or.inr h) ex' F' H' pre' G' μ' a' w' hm hS' hF'
 | .cond c x y,F,H,k,kx,ys,z,hx,hl,h=>by
  simp only[MH]at h;split at h
  ·rename_i t ht;replace h:=U4 h ht;have hc:∀ {A:World} {G:Gd} {μ:Mp} {a:Act},gN A G μ nt F a->a.eval c=.bool t:=λ{A G μ a} hF=>by
    have hc:=cT hF c;rw[ht,VR]at hc;exact hc
   cases t with
   | true =>
    obtain⟨ys1,ys2,r,h3,h4,h5⟩:=zX hcl hP x F H k kx ys z hx (λa ha=>hl a (by simp[iG,ha])) h;exact⟨ys1,ys2,r,h3,h4,λl yv hyv G0 all J Jx hY pre post n a A G μ hall hys hS hF=>wpIn_cond (hc hF) (h5 l yv hyv G0 all J Jx hY pre post n a A G μ hall hys hS hF)⟩
   | false =>
    obtain⟨ys1,ys2,r,h3,h4,h5⟩:=zX hcl hP y F H k kx ys z hx (λa ha=>hl a (by simp[iG,ha])) h;exact⟨ys1,ys2,r,h3,h4,λl yv hyv G0 all J Jx hY pre post n a A G μ hall hys hS hF=>wpIn_cond (hc hF) (h5 l yv hyv G0 all J Jx hY pre post n a A G μ hall hys hS hF)⟩
  ·cases h
 | .block id x,F,H,k,kx,ys,z,hx,hl,h=>by
  simp only[MH]at h;obtain⟨ys1,ys2,⟨ex,F1,H1⟩,h1,rfl,h2⟩:=zX hcl hP x F H _ _ ys z (by intro F H; exact hx F H) (λa ha=>hl a (by simp[iG,ha])) h;have stop:∀ (ex':Ex) (F':Frm) (H':Heap),(match ex' with
     | Ex.exit i=>bif Nat.beq i id then kx .normal F' H' else kx (.exit i) F' H'
     | Ex.normal=>kx Ex.normal F' H'
     | Ex.ret=>kx Ex.ret F' H')=some ()->∃ ex2:Ex,kx ex2 F' H'=some ()/\∀ (Q:Exit->Act->World->Prop) a w,Q ex2.to a w->ex'.to.inBlock id Q a w:=by
   intro ex' F' H' hm;cases ex' with
   | normal=>exact⟨.normal,hm,λQ a w h=>h⟩
   | ret=>exact⟨.ret,hm,λQ a w h=>h⟩
   | exit i =>
    simp only at hm;cases hi:Nat.beq i id with
    | true =>
     rw[hi]at hm;have:=oE hi;subst this;exact⟨.normal,hm,λQ a w h=>by simp only[Ex.to,Exit.inBlock,if_true]; exact h⟩
    | false =>
     rw[hi]at hm;have hne:¬ i=id:=λe=>by rw[e]at hi; simp at hi
     exact⟨.exit i,hm,λQ a w h=>by simp only[Ex.to,Exit.inBlock,hne,if_false]; exact h⟩
  have live:∃ ex2:Ex,k ex2 F1 H1=some (ys2,z)/\∀ (Q:Exit->Act->World->Prop) a w,Q ex2.to a w->ex.to.inBlock id Q a w:=by
   cases ex with
   | normal=>exact⟨.normal,h1,λQ a w h=>h⟩
   | ret=>exact⟨.ret,h1,λQ a w h=>h⟩
   | exit i =>
    simp only at h1;cases hi:Nat.beq i id with
    | true =>
     rw[hi]at h1;have:=oE hi;subst this;exact⟨.normal,h1,λQ a w h=>by simp only[Ex.to,Exit.inBlock,if_true]; exact h⟩
    | false =>
     rw[hi]at h1;have hne:¬ i=id:=λe=>by rw[e]at hi; simp at hi
     exact⟨.exit i,h1,λQ a w h=>by simp only[Ex.to,Exit.inBlock,hne,if_false]; exact h⟩
  obtain⟨ex2,hk2,hex2⟩:=live;refine⟨ys1,ys2,(ex2,F1,H1),hk2,rfl,?_⟩;intro l yv hyv G0 all J Jx hY pre post n a A G μ hall hys hS hF;refine wpIn_block (wpIn_mono (h2 l yv hyv G0 all J Jx hY pre post n a A G μ hall hys hS hF) ?_);rintro e a' w' (⟨rfl,G',μ',hS',hF'⟩|⟨ex',F',H',pre',G',μ',hm,rfl,hS',hF'⟩)
  ·exact hex2 _ _ _ (Or.inl ⟨rfl,G',μ',hS',hF'⟩)
  ·obtain⟨ex3,h3,h4⟩:=stop ex' F' H' hm;exact h4 _ _ _ (Or.inr ⟨ex3,F',H',pre',G',μ',h3,rfl,hS',hF'⟩)
 | .loop x,F,H,k,kx,ys,z,hx,hl,h=>by
  simp only[MH]at h;have hsub:=hl (.loop x) (by simp[iG]);split at h
  ·rename_i s hs;split at h
   ·rename_i x0 hx0;unfold aX2 at h;split at h
    ·rename_i ys1 z1 hr;obtain⟨ys2,h1,rfl⟩:=aGW h;refine⟨ys1,ys2,EO s.exits z1,PD h1,rfl,?_⟩;intro l yv hyv G0 all J Jx hY pre post n a A G μ hall hys hS hF;obtain⟨n0,hW,_,hS2⟩:=hS.a0P;have e0:Ext n0 A G aH A G μ:={ good:=λ_ h=>⟨h,rfl⟩,map:=λ_ _ h=>(by cases h),len:=λ_ _ h=>(by cases h),room:=λ_ _ h=>h,row:=λ_ _ h=>h,os:=rfl,tape:=rfl,output:=rfl,size:=Nat.le_refl _,old:=λ_ _ _=>rfl,new:=λ_ h=>.inl h }
     obtain⟨G1,μ1,e1,hW1,hF1⟩:=HZ hx0 (λr _=>⟨rfl,rfl⟩) (⟨G,μ,e0,hW,hF⟩:I n0 A G aH nt F H a A);refine wpIn_mono (hsub.2 s hs x0 ys1 z1 hr l yv hyv G0 all J Jx hY pre post n a A G1 μ1 hall hys (hS2 _ _ _ _ e1 hW1) hF1) ?_;rintro e a' w' (h|⟨ex',F',H',pre',G',μ',hm,rfl,hS',hF'⟩)
     ·exact .inl h
     ·refine .inr ⟨ex',F',H',pre',G',μ',?_,rfl,hS',hF'⟩;cases ex' with
      | ret=>exact hx F' H'
      | normal=>cases hm
      | exit i=>cases hm
    ·cases h
   ·cases h
  ·split at h
   ·rename_i s hs;split at h
    ·rename_i x0 hx0;obtain⟨y,h1,h2⟩:=zA h;refine⟨[],ys,EO s.exits y,PD h2,rfl,VC λro n n0 wi Gi μi a w hro hfl hI=>?_⟩;exact hsub.1 s hs x0 y h1 ro n n0 wi Gi μi a w hro hfl (hI.dec hfl hx0)
    ·cases h
   ·cases h
 | .scope x,F,H,k,kx,ys,z,hx,hl,h=>by simp only[MH]at h; cases h
 | .rangeFunc g ps as1 x,F,H,k,kx,ys,z,hx,hl,h=>by simp only[MH]at h; cases h
 | .goto l,F,H,k,kx,ys,z,hx,hl,h=>by simp only[MH]at h; cases h
 | .refuse s,F,H,k,kx,ys,z,hx,hl,h=>by simp only[MH]at h; cases h
theorem aOJ {Y:Type}{sh:List (Nat×Kd)}{exits:List (Ex×List (Nat×Kd))}{ex:Ex}{F:Frm}{H:Heap}{l:List Y}{y:Shape.den sh⊕qD exits}(h:a3D sh exits ex F H=some (l,y)):l=[]/\aIF [] sh exits ex F H=some y:=by
 unfold a3D at h;split at h
 ·rename_i z hz;simp only[oJ,oP]at h;obtain⟨h1,h2⟩:=h;subst h2;exact⟨h1.symm,hz⟩
 ·cases h
theorem aW2 {F1:Frm} {H1:Heap} (hs:∀ {n0:Nat->Prop},I n0 A G aH nt F H a A->I n0 A G aH nt F1 H1 a A) (hS:Sg Φ G0 G μ H A) (hF:gN A G μ nt F a):∃ G' μ',Sg Φ G0 G' μ' H1 A/\gN A G' μ' nt F1 a:=by
 obtain⟨n0,hW,_,hS2⟩:=hS.a0P;have e0:Ext n0 A G aH A G μ:={ good:=λ_ h=>⟨h,rfl⟩,map:=λ_ _ h=>(by cases h),len:=λ_ _ h=>(by cases h),room:=λ_ _ h=>h,row:=λ_ _ h=>h,os:=rfl,tape:=rfl,output:=rfl,size:=Nat.le_refl _,old:=λ_ _ _=>rfl,new:=λ_ h=>.inl h };obtain⟨G1,μ1,e1,hW1,hF1⟩:=hs ⟨G,μ,e0,hW,hF⟩;exact⟨G1,μ1,hS2 _ _ _ _ e1 hW1,hF1⟩
theorem aQ7:∀ {l:List (Ex×List (Nat×Kd))} {z:qD l} {ex:Ex},TJ [] l ex F H=some z->(EO l z).1=ex/\∀ {n0:Nat->Prop},I n0 A G aH nt F H a A->I n0 A G aH nt (EO l z).2.1 (EO l z).2.2 a A:=by
 intro l z ex h;obtain⟨h1,sh,x,h2,h3,h4⟩:=OH h;refine⟨h1,λhI=>?_⟩;rw[h3,h4];exact HZ h2 (λr _=>⟨rfl,rfl⟩) hI
theorem a1O(hcl:eE P (fQ P E)) (hP:P.follows .mixedOrders=true) {b:Code} {sh:List (Nat×Kd)} {exits:List (Ex×List (Nat×Kd))} {step:Shape.den sh->Option (List (Value×aK ks)×(Shape.den sh⊕qD exits))} (L:Nat)
  (hl:∀ a∈iG b,aJ1 P nt lt ks li a) (hr:∀ x,a2W P E nt bV lt ks li b sh exits x=step x):aWZ P nt ks b ⟨sh,exits,aHV step L⟩:=by
 intro x ys z hz l yv hyv G0 all J Jx hY pre post n a A G μ hall hys hS hF;refine wpIn_loop_ghost (λk a A=>∃ pre1 ys1 x G μ,aHV step k x=some (ys1,z)/\pre++ys.map (·.2)=pre1++ys1.map (·.2)/\(∀ y∈ys1,y.1=yv)/\Sg (J pre1) G0 G μ (JO sh x) A/\gN A G μ nt (AE sh x 0) a) L ⟨pre,ys,x,G,μ,hz,rfl,hys,hS,hF⟩ ?_;rintro k a1 A1 ⟨pre1,ys1,x,G,μ,hz,hpre,hys1,hS,hF⟩;cases k with
 | zero=>cases hz
 | succ k =>
  simp only[aHV]at hz;have hall1:all=pre1++(ys1.map (·.2)++post):=by rw[hall,<- List.append_assoc,hpre,List.append_assoc]
  split at hz
  ·rename_i m y hs;obtain⟨m2,hz2,rfl⟩:=aGW hz;rw[<- hr]at hs;obtain⟨y1,y2,⟨ex,F',H'⟩,h1,h2,h3⟩:=zX hcl hP b _ _ _ a3J m _ (λ_ _=>rfl) hl hs;obtain⟨e1,h4⟩:=aOJ h1;clear h1;subst e1;rw[List.append_nil]at h2;subst h2;refine wpIn_mono (h3 l yv hyv G0 all J Jx hY pre1 (m2.map (·.2)++post) n a1 A1 G μ (by rw[hall1,List.map_append,List.append_assoc]) (λy hy=>hys1 y (List.mem_append_left _ hy)) hS hF) ?_;rintro e a' A' (⟨rfl,G',μ',hS',hF'⟩|⟨ex',F',H',pre',G',μ',hm,rfl,hS',hF'⟩)
   ·rcases UX h4 with ⟨y',e1,e2,e3⟩|⟨z',e1,_,_⟩
    ·cases e1;dsimp only at e2;subst e2;obtain⟨G2,μ2,hS2,hF2⟩:=aW2 (λhI=>HZ e3 (λr _=>⟨rfl,rfl⟩) hI) hS' hF';exact⟨k,by omega,_,m2,y,G2,μ2,hz2,by rw[hpre,List.map_append,List.append_assoc],λy hy=>hys1 y (List.mem_append_right _ hy),hS2,hF2⟩
    ·cases e1
   ·cases ex' with
    | ret=>exact .inr ⟨.ret,F',H',pre',G',μ',rfl,rfl,hS',hF'⟩
    | normal=>cases hm
    | exit i=>cases hm
  ·rename_i m y hs;simp only[oJ,oP]at hz;obtain⟨rfl,rfl⟩:=hz;rw[<- hr]at hs;obtain⟨y1,y2,⟨ex,F',H'⟩,h1,h2,h3⟩:=zX hcl hP b _ _ _ a3J m _ (λ_ _=>rfl) hl hs;obtain⟨e1,h4⟩:=aOJ h1;clear h1;subst e1;rw[List.append_nil]at h2;subst h2;refine wpIn_mono (h3 l yv hyv G0 all J Jx hY pre1 post n a1 A1 G μ hall1 hys1 hS hF) ?_;rintro e a' A' (⟨rfl,G',μ',hS',hF'⟩|⟨ex',F',H',pre',G',μ',hm,rfl,hS',hF'⟩)
   ·rcases UX h4 with ⟨y',e1,e2,e3⟩|⟨z',e1,e2,e3⟩
    ·cases e1
    ·cases e1;dsimp only at e2 e3;obtain⟨h5,h6⟩:=aQ7 (A:=A') (G:=G') (a:=a') (nt:=nt) e3;obtain⟨G2,μ2,hS2,hF2⟩:=aW2 (λhI=>h6 hI) hS' hF';have hout:(Exit.normal≠ex.to->True):=λ_=>trivial
     cases ex with
     | normal=>exact absurd rfl e2
     | exit i=>exact .inl ⟨by rw[h5],G2,μ2,by rw[hpre]; exact hS2,hF2⟩
     | ret=>exact .inl ⟨by rw[h5],G2,μ2,by rw[hpre]; exact hS2,hF2⟩
   ·cases ex' with
    | ret=>exact .inr ⟨.ret,F',H',pre',G',μ',rfl,rfl,hS',hF'⟩
    | normal=>cases hm
    | exit i=>cases hm
  ·cases hz
def a2T(P:Program) (E:Env) (fn:Func) (bV:Nat) (lt:Nat->Option cG) (ks:List Kd) (li:Nat->Option (VO (Value×aK ks))) (c:Code) (ts:List Ty) (yv:Value) (x:RU ts):Option (List (Value×aK ks)) :=
 bif Nat.ble (1+(VM ts x).length) fn.ntmps then a4G (MH P E fn.ntmps bV lt ks li c (start bV 0 (.lit yv::VM ts x)) [] (λex _ _=>match ex with
  | .exit _=>none
  | _=>some ([],())) (λex _ _=>match ex with
  | .exit _=>none
  | _=>some ())) else none
theorem a3K(hP:QO P) (hE:aR P E) {g:Nat} {fn:Func} (hg:P.funcs[g]?=some fn) {c:Code} (hc:fn.body=some c) (hres:fn.results=#[]) {ts:List Ty} {f:RU ts->Option (List (aK ks))}
  (hl:∀ a∈iG c,aJ1 P fn.ntmps lt ks li a) (hb:∀ yv x all,f x=some all->a2T P E fn bV lt ks li c ts yv x=some (all.map λe=>(yv,e))):aKZ P g ts ks f:=by
 intro x all hall m l W G vs hlt hvs J Jx hY hJ;obtain⟨yv,hyv⟩:∃ yv:Value,yv=.func (.yield l) #[] #[]:=⟨_,rfl⟩;have hbx:=hb yv x all hall;unfold a2T at hbx;obtain⟨hlen,hbx⟩:=aI hbx;unfold a4G at hbx;split at hbx
 ·rename_i l0 u hex;have hl0:=Option.some.inj hbx;obtain⟨ys1,ys2,⟨ex,F',H'⟩,h1,h2,h3⟩:=zX hE.callee hP.mixed c _ _ _ _ _ _ (λ_ _=>rfl) hl hex;have hex:(ex=.normal\/ex=.ret)/\ys2=[]:=by
   cases ex with
   | exit i=>cases h1
   | normal =>
    simp only[oJ,oP]at h1;exact⟨.inl rfl,h1.1.symm⟩
   | ret =>
    simp only[oJ,oP]at h1;exact⟨.inr rfl,h1.1.symm⟩
  obtain⟨hex,rfl⟩:=hex;rw[List.append_nil]at h2;subst h2;have hys:∀ y∈l0,y.1=yv:=by
   intro y hy;rw[hl0]at hy;obtain⟨e,-,rfl⟩:=List.mem_map.1 hy;rfl
  have hmap:l0.map (·.2)=all:=by
   rw[hl0,List.map_map];exact List.map_id all
  refine callsIn_of_wp hg hc trivial ?_ rfl;have hargs:VRs W (Gd.of G) aH (.lit yv::VM ts x) ((#[.func (.yield l) #[] #[]]:Array Value)++vs.toArray).toList:=by
   rw[<- hyv];simp only[Array.toList_append,List.cons_append,List.nil_append];rw[VRs];exact⟨yv,vs,rfl,by rw[VR],hvs⟩
  have hF0:=C3 (m:=bV) (n:=fn.ntmps) hargs (by simpa[Nat.add_comm]using oL hlen);have hS0:Sg (J []) (Gd.of G) (Gd.of G) aH [] W:=Sg.start hlt hJ;have post:∀ (ex:Exit) (a:Act) (A:World),(ex=.normal\/ex=.ret)->a.defers=[]->∀ (T X:Nat->Prop) (B:World),Stp X B A->(J all T X B\/∃ pre,Jx pre T X B) ->
    bodyPost P fn (λen C=>(∃ v,en=.returned v)/\∃ T X B,Stp X B C/\(J all T X B\/∃ pre,Jx pre T X B)) ex a A:=by
   intro ex a A hex hd T X B hst hj;have hr:(results fn a.tmps).run P A=.ok (.tuple #[]) A:=by simp[results,hres]
   rcases hex with rfl|rfl
   ·exact⟨hd,_,hr,⟨_,rfl⟩,T,X,B,hst,hj⟩
   ·exact⟨hd,_,hr,⟨_,rfl⟩,T,X,B,hst,hj⟩
  refine wpIn_mono (h3 l yv hyv (Gd.of G) all J Jx hY [] [] m _ W (Gd.of G) aH (by rw[hmap]; simp) hys hS0 hF0) ?_;rintro e a' A' (⟨rfl,G',μ',hS',hF'⟩|⟨ex',F',H',pre',G',μ',hm,rfl,hS',hF'⟩)
  ·obtain⟨T,X,B,hst,hj⟩:=hS'.stp;rw[List.nil_append,hmap]at hj;refine post _ a' A' ?_ hF'.defers T X B hst (.inl hj);rcases hex with rfl|rfl
   ·exact .inl rfl
   ·exact .inr rfl
  ·obtain⟨T,X,B,hst,hj⟩:=hS'.stp;refine post _ a' A' ?_ hF'.defers T X B hst (.inr ⟨_,hj⟩);cases ex' with
   | normal=>exact .inl rfl
   | ret=>exact .inr rfl
   | exit i=>cases hm
 ·cases hbx
theorem a00 {a:Code}{i:Nat}{s0:VO (Value×aK ks)}(hf:bW a=i)(hlt:lt i=none)(hli:li i=some s0)(h:aWZ P nt ks a s0):aJ1 P nt lt ks li (.loop a):=by
 refine⟨λs hs=>?_,λs hs=>?_⟩
 ·rw[hf,hlt]at hs;cases hs
 ·rw[hf,hli]at hs;cases hs;exact h
def aLV(P:Program)(nt:Nat)(lt:Nat->Option cG)(ks:List Kd)(li:Nat->Option (VO (Value×aK ks))):List Code->Prop
 | []=>True
 | c::r=>aJ1 P nt lt ks li c/\aLV P nt lt ks li r
theorem aE9:∀ {l:List Code},aLV P nt lt ks li l->∀ a∈l,aJ1 P nt lt ks li a
 | [],_,a,ha=>by cases ha
 | c::r,h,a,ha=>by
  rcases List.mem_cons.1 ha with rfl|ha
  ·exact h.1
  ·exact aE9 h.2 a ha
theorem aUE {c:Code}{l:List Code}(hc:iG c=l)(h:aLV P nt lt ks li l):∀ a∈iG c,aJ1 P nt lt ks li a:=by rw[hc]; exact aE9 h
end
end Go.PM
namespace Go.PM
open Go
theorem aM(i:Int)(n:Nat):aF i n=decide (0<=i/\i<n):=by
 cases i with
 | ofNat m =>
  show Nat.blt m n=_;rw[cD]
  by_cases h:m<n
  ·rw[oT h,oT]; exact⟨Int.natCast_nonneg m,Int.ofNat_lt.2 h⟩
  ·rw[oF h,oF]; rintro⟨-,h2⟩; exact h (Int.ofNat_lt.1 h2)
 | negSucc m =>
  show false=_;rw[oF]; rintro⟨h,-⟩; exact absurd h (by omega)
theorem dM(m n:Nat):Nat.ble m n=decide (m<=n):=by
 cases h:Nat.ble m n with
 | true=>exact(oT (oL h)).symm
 | false =>
  refine(oF λhl=>?_).symm;rw[Nat.ble_eq_true_of_le hl]at h;cases h
theorem wrap64 {x:Int}(h1 : -9223372036854775808<=x)(h2:x<9223372036854775808):aB .i64 x=x:=by
 cases x with
 | ofNat m =>
  have:m<9223372036854775808:=by have:(m:Int)<9223372036854775808:=h2; omega
  unfold aB;simp only[cD,oT this,oC]
 | negSucc m =>
  have:m<9223372036854775808:=by omega
  unfold aB;simp only[cD,oT this,oC]
theorem cC(i:Nat)(h:i<9223372036854775807):aB .i64 ((i:Int)+1)=((i+1:Nat):Int):=by rw[wrap64 (by omega) (by omega)]; rfl
theorem SE {x:Int}(h1 : -9223372036854775808<=x)(h2:x<9223372036854775808):IntKind.wrap .i64 x=x:=by rw[<- UO]; exact wrap64 h1 h2
theorem aFH {α:Type}(p:Prop) [Decidable p](a b:α):(bif decide p then a else b)=if p then a else b:=by by_cases h:p <;> simp[h]
theorem aE {τ α:Type}(x:τ)(k:τ->Option α):aC (some x) k=k x:=rfl
theorem a3L(p:Prop) [Decidable p]:(!decide p)=decide (¬ p):=by by_cases h:p <;> simp[h]
theorem HK {β γ α:Type}(z:β)(f:β->Option α)(g:γ->Option α):yO (.inl z) f g=f z:=rfl
theorem mP {β γ α:Type}(z:γ)(f:β->Option α)(g:γ->Option α):yO (.inr z) f g=g z:=rfl
section
variable {σ τ:Type} {step:σ->Option (σ⊕τ)}
theorem fZ(n:Nat)(x:σ):bH step (n+1) x=match step x with
  | some (.inl y)=>bH step n y
  | some (.inr z)=>some z
  | none=>none:=rfl
theorem aHK(F:Nat->σ)(k:Nat):∀ (m j:Nat),(∀ i,j<=i->i<j+m->step (F i)=some (.inl (F (i+1))))->bH step (m+k) (F j)=bH step k (F (j+m))
 | 0,j,_=>by rw[Nat.zero_add,Nat.add_zero]
 | m+1,j,h=>by
  rw[Nat.add_right_comm,fZ,h j (Nat.le_refl _) (by omega)];show bH step (m+k) (F (j+1))=_;rw[aHK F k m (j+1) λi h1 h2=>h i (by omega) (by omega)]
  congr 2; omega
theorem aV {N:Nat} (F:Nat->σ) (m:Nat) (z:τ) (hN:m<N) (h:∀ i,i<m->step (F i)=some (.inl (F (i+1)))) (he:step (F m)=some (.inr z)):bH step N (F 0)=some z:=by
 obtain⟨k,rfl⟩:∃ k,N=m+(k+1):=⟨N-m-1,by omega⟩;rw[aHK F (k+1) m 0 (λi _ h2=>h i (by omega)),Nat.zero_add,fZ,he]
end
open Go Go.RowKit
section
variable {P:Program} {n0:Nat->Prop} {w w':World} {G G':Gd} {μ μ1:Mp} {H H1:Heap}
def TG(μ μ1:Mp)(h:Nat):Mp:=⟨λr=>if r<h then μ.loc r else μ1.loc (r-h),λr=>if r<h then μ.len r else μ1.len (r-h)⟩
theorem BS {h r:Nat}(hr:r<h):(TG μ μ1 h).loc r=μ.loc r/\(TG μ μ1 h).len r=μ.len r:=by simp[TG,hr]
theorem BW {h r:Nat}(hr:h<=r):(TG μ μ1 h).loc r=μ1.loc (r-h)/\(TG μ μ1 h).len r=μ1.len (r-h):=by
 have:¬ r<h:=by omega
 simp[TG,this]
theorem aTG(hW:aP n0 G μ H w)(e:Ext (zZ w) w G.bare aH w' G' μ1):Ext n0 w G μ w' (G'.with G) (TG μ μ1 H.length):={
 good:=e.good
 map:=λr b hr=>by
  rcases Nat.lt_or_ge r H.length with hl|hl
  ·rw[(BS hl).1]; exact hr
  ·rw[(hW.top r hl).1]at hr; cases hr
 len:=λr b hr=>by
  rcases Nat.lt_or_ge r H.length with hl|hl
  ·rw[(BS hl).2]; exact hr
  ·rw[(hW.top r hl).2]at hr; cases hr
 room:=e.room
 row:=λ_ _ h=>h
 os:=e.os
 tape:=e.tape
 output:=e.output
 size:=e.size
 old:=λb hb _=>e.old b hb (Nat.not_le.2 hb)
 new:=λb hb=>by
  rcases e.new b hb with h|h
  ·exact .inl h
  ·exact .inr (hW.base b h) }
theorem aZW(hW:aP n0 G μ H w)(e:Ext (zZ w) w G.bare aH w' G' μ1)(h1:aP (zZ w) G' μ1 H1 w')(ht:VX H1=true)(hp:∀ (r:Nat) (k:Blk),H1[r]?=some (some k)->fF.noRows k.cells=true/\∀ t l,k.tag≠some ⟨.rows t,l⟩):aP n0 (G'.with G) (TG μ μ1 H.length) (H++H1) w':=by
 have e':=aTG hW e;have key:∀ (r:Nat) (k:Blk),(H++H1)[r]?=some (some k)->(r<H.length/\H[r]?=some (some k))\/(H.length<=r/\H1[r-H.length]?=some (some k)):=by
  intro r k hr;rcases Nat.lt_or_ge r H.length with hl|hl
  ·rw[List.getElem?_append_left hl]at hr; exact .inl ⟨hl,hr⟩
  ·rw[List.getElem?_append_right hl]at hr; exact .inr ⟨hl,hr⟩
 refine⟨?_,?_,?_,h1.lt,?_,λb hb=>hW.base b (Nat.le_trans e.size hb),hW.rows.step e'.toMono.aH e.size (λ_=>rfl) (λj b hj=>?_) (λr k t l hr hg htg=>?_)⟩
 case refine_5 =>
  have hlt:=(hW.rows.sep j b hj).1;refine⟨e.old b hlt (Nat.not_le.2 hlt),λhg=>?_,λr k hr hf hl=>?_⟩
  ·rcases e.new b hg with h|h
   ·exact h
   ·exact absurd hlt (Nat.not_lt.2 h)
  ·rcases key r k hr with ⟨hl2,hr⟩|⟨hl2,hr⟩
   ·rw[(BS hl2).1]at hl; exact⟨r,k,hr,hf,hl⟩
   ·rw[(BW hl2).1]at hl;obtain⟨_,_,_,_,_,a5⟩:=h1.blk _ k b hr hl;exact absurd hlt (Nat.not_lt.2 (a5 hf).1)
 case refine_6 =>
  rcases key r k hr with ⟨hl2,hr⟩|⟨hl2,hr⟩
  ·exact⟨k,hr,rfl,rfl,rfl,(BS hl2).1⟩
  ·exact absurd htg ((hp _ k hr).2 t l)
 ·intro r k b hr hb;rcases key r k hr with ⟨hl,hr⟩|⟨hl,hr⟩
  ·rw[(BS hl).1]at hb;obtain⟨c,a1,a2,a3,a4,a5⟩:=hW.blk r k b hr hb;have hlt:=hW.o5 hr hb;have ho:=e.old b hlt (Nat.not_le.2 hlt);refine⟨c,ho.trans a1,aL.mono e'.toMono ho 0 _ a2,a3,λhf=>(e.good b (a4 hf)).1,λhf=>⟨(a5 hf).1,λhg=>?_⟩⟩;rcases e.new b hg with h|h
   ·exact(a5 hf).2 h
   ·omega
  ·rw[(BW hl).1]at hb;obtain⟨c,a1,a2,a3,a4,a5⟩:=h1.blk _ k b hr hb;refine⟨c,a1,?_,a3,a4,λhf=>⟨hW.base b (a5 hf).1,(a5 hf).2⟩⟩;refine wV (G:=G') (G':=G'.with G) (λb h=>h) _ _ _ _ (hp _ k hr).1 ?_;rcases XN ht hr with hg|hg
   ·obtain⟨g,hg⟩:=Option.isSome_iff_exists.1 hg;have:=(h1.tags _ k g hr hg).1;rw[this]at a2 ⊢;exact rI (j4 _ _) a2
   ·exact rI hg a2
 ·intro r k g hr hg;rcases key r k hr with ⟨hl,hr⟩|⟨hl,hr⟩
  ·rw[(BS hl).2]; exact hW.tags r k g hr hg
  ·rw[(BW hl).2]; exact h1.tags _ k g hr hg
 ·intro r s k l b hr hs fk fl m1 m2;rcases key r k hr with ⟨hl,hr⟩|⟨hl,hr⟩ <;> rcases key s l hs with ⟨hl2,hs⟩|⟨hl2,hs⟩
  ·rw[(BS hl).1]at m1;rw[(BS hl2).1]at m2;exact hW.inj r s k l b hr hs fk fl m1 m2
  ·rw[(BS hl).1]at m1;rw[(BW hl2).1]at m2;obtain⟨_,_,_,_,_,a5⟩:=h1.blk _ l b hs m2;have:=hW.o5 hr m1;have:=(a5 fl).1;omega
  ·rw[(BW hl).1]at m1;rw[(BS hl2).1]at m2;obtain⟨_,_,_,_,_,a5⟩:=h1.blk _ k b hr m1;have:=hW.o5 hs m2;have:=(a5 fk).1;omega
  ·rw[(BW hl).1]at m1;rw[(BW hl2).1]at m2;have:=h1.inj _ _ k l b hr hs fk fl m1 m2;omega
 ·intro r hr;simp only[List.length_append]at hr;have hl:H.length<=r:=by omega
  rw[(BW hl).1,(BW hl).2];exact h1.top _ (by omega)
theorem aZ6 {r sz:Nat}{v:Value}(h:VR w' G' μ1 (.own r sz) v):VR w' G' (TG μ μ1 H.length) (.own (H.length+r) sz) v:=by
 have e:=BW (μ:=μ) (μ1:=μ1) (h:=H.length) (r:=H.length+r) (by omega);rw[VR]at h ⊢;rw[e.1,e.2,Nat.add_sub_cancel_left];exact h
def aSP(P:Program) (g:FuncId) (args:List Kd) (e:TypeId) (ty:Ty) (f:aK args->Option (List ty.den)):Prop :=
 ∀ x l,f x=some l->∀ {n0 G μ w us},aP n0 G μ [] w->VRs w G μ (nK args x) us->yM P n0 w G μ g us.toArray (.own 0 ty.size) [some ⟨aG ty l,e,true,false,some ⟨ty,l⟩⟩]
def a8K(t:Nat)(e:TypeId)(ty:Ty)(ex:Ex)(F:Frm)(H:Heap):Option (List ty.den):=match ex with
 | .exit _=>none
 | _=>match SK [(t,.own e ty)] F H with
  | some x=>some x.1
  | none=>none
def aSE(P:Program)(E:Env)(fn:Func)(bV:Nat)(lt:Nat->Option cG)(c:Code)(args:List Kd)(t:Nat)(e:TypeId)(ty:Ty)(x:aK args):Option (List ty.den) :=
 bif Nat.ble (nK args x).length fn.ntmps then FW P E fn.ntmps bV lt c (start bV 0 (nK args x)) [] (a8K t e ty) else none
theorem aPP {E:Env} (hP:QO P) (hE:aR P E) {g:Nat} {fn:Func} (hg:P.funcs[g]?=some fn) {c:Code} (hc:fn.body=some c) {bV:Nat} {lt:Nat->Option cG} {args:List Kd} {t:Nat} (hr:fn.results.toList=[.tmp t]) {e:TypeId} {ty:Ty} {f:aK args->Option (List ty.den)}
  (hl:∀ a∈bF c,∀ s,lt (bW a)=some s->eG P fn.ntmps a s) (hb:∀ x,aSE P E fn bV lt c args t e ty x=f x):aSP P g args e ty f:=by
 intro x l hy n0 G μ w us hW hv;rw[<- hb]at hy;unfold aSE at hy;obtain⟨hlen,hy⟩:=aI hy;obtain⟨⟨ex,F',H'⟩,h1,h2⟩:=pT hE.callee hP.mixed c _ _ _ _ hl hy;obtain⟨y,hex,hd,hyl⟩:∃ y,(ex=.normal\/ex=.ret)/\SK [(t,.own e ty)] F' H'=some y/\y.1=l:=by
  unfold a8K at h1;split at h1
  ·cases h1
  ·rename_i hne;split at h1
   ·rename_i y hy;simp only[oJ]at h1;refine⟨y,?_,hy,h1⟩;cases ex with
    | normal=>exact .inl rfl
    | ret=>exact .inr rfl
    | exit i=>exact absurd rfl (hne i)
   ·cases h1
 obtain⟨yl,⟨⟩⟩:=y;dsimp only at hyl;subst hyl;refine⟨enters hg (hP.names g fn hg) (by rw[hc]; rfl) _ _,calls_of_wp hg hc ?_⟩;have hI:I n0 w G μ fn.ntmps (start bV 0 (nK args x)) [] ⟨us.toArray++Array.replicate (fn.ntmps-us.toArray.size) undef,[]⟩ w:=⟨G,μ,Ext.refl _ _ _ _,hW,C3 (by simpa using hv) (oL hlen)⟩;refine wp_mono (h2 n0 w G μ _ w (λr=>hW.top r (Nat.zero_le _)) hI) ?_;rintro e0 a' w' ⟨rfl,hI'⟩
 obtain⟨G',μ',e',hW',hF'⟩:=FN hd (λr=>hW.top r (Nat.zero_le _)) hI';have hvs:wC P (AE [(t,.own e ty)] (yl,()) 0) (JO [(t,.own e ty)] (yl,())) fn.results.toList=some [.own 0 ty.size]:=by
  rw[hr];simp[wC,aJJ,AE,A4,dB]
 obtain⟨ws,h3,h4⟩:=tQ (P:=P) hW' hF' hvs;have hres:(results fn a'.tmps).run P w'=.ok (if hh:ws.toArray.size=1 then ws.toArray[0] else .tuple ws.toArray) w':=by
  rw[GM,Array.mapM_eq_mapM_toList];simp only[Sem.run_bind,Sem.run_map,h3,Result.andThen_ok,Sem.run_pure]
 have hpost:a'.defers=[]/\∃ v,(results fn a'.tmps).run P w'=.ok v w'/\(∃ v' G'' μ'',Ending.returned v=.returned v'/\Ext n0 w G μ w' G'' μ''/\aP n0 G'' μ'' (JO [(t,.own e ty)] (yl,())) w'/\VR w' G'' μ'' (.own 0 ty.size) v') :=
  ⟨hF'.defers,_,hres,_,G',μ',rfl,e',hW',xJ h4⟩
 rcases hex with rfl|rfl
 ·exact hpost
 ·exact hpost
def aZ9(args:List Kd) (e:TypeId) (ty:Ty) (f:aK args->Option (List ty.den)) (qs:List PV) (H:Heap):Option aMC :=
 bif eH.noRefs qs&&(fF.noRows qs&&ty.plain) then match aM4 args qs with
  | some x=>some ⟨List ty.den,f x,λl=>(.own H.length ty.size,H++[some ⟨aG ty l,e,true,false,some ⟨ty,l⟩⟩])⟩
  | none=>none
 else none
theorem aPB {g:FuncId}{args:List Kd}{e:TypeId}{ty:Ty}{f:aK args->Option (List ty.den)}(hf:aSP P g args e ty f):vA P (g,aZ9 args e ty f):=by
 intro qs H r h y hy n0 G μ w vs hW hv;dsimp only at h;unfold aZ9 at h;obtain⟨hn,h⟩:=aGH h;split at h
 ·rename_i x hx;have h:=Option.some.inj h;subst h;simp only[oA]at hn;obtain⟨hn,hnr,hpl⟩:=hn;have hW0:aP (zZ w) G.bare aH [] w:=⟨λr k b h=>by simp at h,λr k g h=>by simp at h,λr s k l b h=>by simp at h,hW.lt,λ_ _=>⟨rfl,rfl⟩,λ_ h=>h,s9.none _ _ (λ_=>rfl) _ _ (λr k h=>by simp at h)⟩;obtain⟨h1,h2⟩:=hf x y hy hW0 (IE args hx (vW (G:=G) (G':=G.bare) (λb h=>h) _ _ _ hnr (cZ _ _ hn hv)));refine⟨h1,h2.mono ?_⟩
  rintro e' w' ⟨v',G',μ1,rfl,e1,e2,e3⟩;refine⟨v',G'.with G,TG μ μ1 H.length,rfl,aTG hW e1,aZW hW e1 e2 rfl (λr k hr=>?_),?_⟩
  ·cases r with
   | zero =>
    simp only[List.getElem?_cons_zero,oJ]at hr;subst hr;exact⟨AI _ hpl _,λt l h=>by simp only[oJ,Tg.mk.injEq]at h; obtain⟨rfl,_⟩:=h; cases hpl⟩
   | succ r=>simp at hr
  have:=aZ6 (H:=H) (μ:=μ) e3;rw[VR]at this ⊢;simpa using this
 ·cases h
end
section
variable {P:Program} {n0:Nat->Prop} {w w':World} {G G':Gd} {μ μ1:Mp} {H H1:Heap}
theorem aSW(hW:aP n0 G μ H w) {r:Nat} (hr:H[r]?=some none) (k:Blk) (hf:k.frozen=false) (hg:k.grown=true)
  (hblk:∀ b,μ.loc r=some b->(∃ c,w.heap[b]?=some (.cells c k.ty (0,0))/\aL w G μ b 0 k.cells)/\n0 b/\¬ G b/\(∀ s k1,H[s]?=some (some k1)->k1.frozen=false->μ.loc s≠some b)/\∀ j,G.row j≠some b)
  (htag:∀ g,k.tag=some g->k.cells=aG g.t g.l/\μ.len r=some g.l.length):aP n0 G μ (H.set r (some k)) w:=by
 have hlt:r<H.length:=(List.getElem?_eq_some_iff.1 hr).1;have key:∀ s k1,(H.set r (some k))[s]?=some (some k1)->(s=r/\k1=k)\/(s≠r/\H[s]?=some (some k1)):=by
  intro s k1 hs
  by_cases e:r=s
  ·subst e;rw[List.getElem?_set_self hlt]at hs;exact .inl ⟨rfl,(Option.some.inj (Option.some.inj hs)).symm⟩
  ·rw[List.getElem?_set_ne e]at hs;exact .inr ⟨Ne.symm e,hs⟩
 refine⟨?_,?_,?_,hW.lt,λs hs=>hW.top s (by simpa using hs),hW.base,?_⟩
 ·intro s k1 b hs hb;rcases key s k1 hs with ⟨rfl,rfl⟩|⟨_,hs⟩
  ·obtain⟨⟨c,h1,h2⟩,h3,h4,_⟩:=hblk b hb;exact⟨c,h1,h2,λh=>(by rw[hg]at h; cases h),λh=>(by rw[hf]at h; cases h),λ_=>⟨h3,h4⟩⟩
  ·exact hW.blk s k1 b hs hb
 ·intro s k1 g hs h1;rcases key s k1 hs with ⟨rfl,rfl⟩|⟨_,hs⟩
  ·exact htag g h1
  ·exact hW.tags s k1 g hs h1
 ·intro s1 s2 k1 k2 b h1 h2 f1 f2 m1 m2;rcases key s1 k1 h1 with ⟨rfl,rfl⟩|⟨_,h3⟩
  ·rcases key s2 k2 h2 with ⟨rfl,rfl⟩|⟨_,h4⟩
   ·rfl
   ·exact absurd m2 ((hblk b m1).2.2.2.1 s2 k2 h4 f2)
  ·rcases key s2 k2 h2 with ⟨rfl,rfl⟩|⟨_,h4⟩
   ·exact absurd m1 ((hblk b m2).2.2.2.1 s1 k1 h3 f1)
   ·exact hW.inj s1 s2 k1 k2 b h3 h4 f1 f2 m1 m2
 ·refine⟨hW.rows.inj,?_,hW.rows.cel,?_,?_⟩
  ·intro j b hj;obtain⟨a1,a2,a3,a4⟩:=hW.rows.sep j b hj;refine⟨a1,a2,a3,λs k1 hs f1 m1=>?_⟩;rcases key s k1 hs with ⟨rfl,rfl⟩|⟨_,hs⟩
   ·exact(hblk b m1).2.2.2.2 j hj
   ·exact a4 s k1 hs f1 m1
  ·intro s k1 t l hs h1 h2;rcases key s k1 hs with ⟨rfl,rfl⟩|⟨_,hs⟩
   ·rw[hg]at h1; cases h1
   ·exact hW.rows.arn s k1 t l hs h1 h2
  ·intro s1 s2 k1 k2 t l t' l' h1 g1 t1 h2 g2 t2;rcases key s1 k1 h1 with ⟨rfl,rfl⟩|⟨_,h1⟩
   ·rw[hg]at g1; cases g1
   ·rcases key s2 k2 h2 with ⟨rfl,rfl⟩|⟨_,h2⟩
    ·rw[hg]at g2; cases g2
    ·exact hW.rows.one s1 s2 k1 k2 t l t' l' h1 g1 t1 h2 g2 t2
def aT0(P:Program) (g:FuncId) (e:TypeId) (t:Ty) (args:List Kd) (f:List t.den->aK args->Option (List t.den)):Prop :=
 ∀ l x l',f l x=some l'->∀ {n0 G μ H w us r},aP n0 G μ H w->H[r]?=some (some (owB e t l))->VRs w G μ (.own r t.size::nK args x) us->fF.noRows (nK args x)=true->yM P n0 w G μ g us.toArray (.tuple []) (H.set r (some (owB e t l')))
def TM {t:Ty} {args:List Kd} (f:Unit->aK (.hnd t.size::args)->List (List t.den)->Option (aK []×List (List t.den))) (l:List t.den) (x:aK args):Option (List t.den):=match f () ((0,0,l.length),x) [l]with
 | some ((),[l'])=>bif Nat.beq l'.length l.length then some l' else none
 | _=>none
def aU8(P:Program) (g:FuncId) (e:TypeId) (t:Ty) (args rets:List Kd) (f:List t.den->aK args->Option (aK rets×List t.den)):Prop :=
 ∀ l x y l',f l x=some (y,l')->∀ {n0 G μ H w us r},aP n0 G μ H w->H[r]?=some (some (owB e t l))->VRs w G μ (.own r t.size::nK args x) us->fF.noRows (nK args x)=true->yM P n0 w G μ g us.toArray (aI1 rets y) (H.set r (some (owB e t l')))
def ZF {t:Ty} {args rets:List Kd} (f:Unit->aK (.hnd t.size::args)->List (List t.den)->Option (aK rets×List (List t.den))) (l:List t.den) (x:aK args):Option (aK rets×List t.den):=match f () ((0,0,l.length),x) [l]with
 | some (y,[l'])=>bif Nat.beq l'.length l.length then some (y,l') else none
 | _=>none
def a2N:List Kd->Bool
 | []=>true
 | [.bool]=>true
 | [.int _]=>true
 | _=>false
theorem a2X {rets:List Kd}(h:a2N rets=true)(y:aK rets){w:World}{G G':Gd}{μ μ':Mp}{v:Value}(hv:VR w G μ (aI1 rets y) v):VR w G' μ' (aI1 rets y) v:=by
 unfold a2N at h;split at h
 ·change VR w G μ (.tuple []) v at hv;change VR w G' μ' (.tuple []) v;rw[VR]at hv ⊢;obtain⟨vs,h1,h2⟩:=hv;rw[VRs]at h2;exact⟨vs,h1,by rw[VRs]; exact h2⟩
 ·obtain⟨b,⟨⟩⟩:=y;change VR w G μ (.lit (.bool b)) v at hv;change VR w G' μ' (.lit (.bool b)) v;rw[VR]at hv ⊢;exact hv
 ·rename_i k;obtain⟨b,⟨⟩⟩:=y;change VR w G μ (.lit (.int k b)) v at hv;change VR w G' μ' (.lit (.int k b)) v;rw[VR]at hv ⊢;exact hv
 ·cases h
theorem aLU {g:FuncId} {e:TypeId} {t:Ty} {args rets:List Kd} {f:Unit->aK (.hnd t.size::args)->List (List t.den)->Option (aK rets×List (List t.den))} (hf:LX P g e t .none (.hnd t.size::args) (.data rets) f) (hd:P6 args=true) (hpl:t.plain=true) (hlr:a2N rets=true) (he:e≠NT:=by decide):aU8 P g e t args rets (ZF f):=by
 intro l x yy l' hy n0 G μ H w us r hW hk hv hnr;unfold ZF at hy;split at hy
 ·rename_i y1 l1 hfl;obtain⟨hlen,hy⟩:=aI hy;obtain⟨rfl,rfl⟩:=Prod.mk.inj (Option.some.inj hy);have hlen:=oE hlen;have ht2:=(hW.tags r _ _ hk rfl).2;have hlt:r<H.length:=(List.getElem?_eq_some_iff.1 hk).1;obtain⟨rb,hrb⟩:∃ rb:Option Nat,rb=if l=[] then none else μ.loc r:=⟨_,rfl⟩
  have hrbl:∀ b,rb=some b->μ.loc r=some b/\l≠[]:=λb hb=>by
   rw[hrb]at hb;split at hb
   ·cases hb
   ·rename_i hne; exact⟨hb,hne⟩
  have hmine:∀ b,μ.loc r=some b->n0 b/\¬ G b:=λb hb=>by
   obtain⟨_,_,_,_,_,h6⟩:=hW.blk r _ b hk hb;exact h6 rfl
  have hrow:∀ j b,G.row j=some b->μ.loc r≠some b:=λj b hj=>(hW.rows.sep j b hj).2.2.2 r _ hk rfl
  obtain⟨u,us',rfl,q1,q2⟩:∃ u us',us=u::us'/\VR w G μ (.own r t.size) u/\VRs w G μ (nK args x) us':=by rw[VRs]at hv; exact hv
  have at0:∀ (s:Nat) (k1:Blk),([some (arB e t [l])]:Heap)[s]?=some (some k1)->s=0/\k1=arB e t [l]:=by
   intro s k1 hs;cases s with
   | zero=>simp only[List.getElem?_cons_zero,oJ]at hs; exact⟨rfl,hs.symm⟩
   | succ s=>simp at hs
  have hG0:∃ G0:Gd,G0=⟨G.ok,λj=>if j=0 then rb else none⟩:=⟨_,rfl⟩;obtain⟨G0,hG0⟩:=hG0;have hok:G0.ok=G.ok:=by rw[hG0]
  have hr0:∀ j b,G0.row j=some b->j=0/\rb=some b:=λj b hj=>by
   rw[hG0]at hj;dsimp only at hj;split at hj
   ·exact⟨‹_›,hj⟩
   ·cases hj
  have hW1:aP (λb=>w.heap.size<=b\/rb=some b) G0 ⟨λ_=>none,λs=>if s=0 then some 1 else none⟩ [some (arB e t [l])] w:=by
   refine⟨λs k1 b hs hb=>(by cases hb),?_,λs1 s2 k1 k2 b _ _ _ _ m=>(by cases m),by rw[hok]; exact hW.lt,?_,λb hb=>.inl hb,?_⟩
   ·intro s k1 gg hs hg;obtain⟨rfl,rfl⟩:=at0 s k1 hs;cases hg;exact⟨rfl,rfl⟩
   ·intro s hs;have:s≠0:=by rintro rfl; simp at hs
    exact⟨rfl,by simp[this]⟩
   ·refine⟨λi j b h1 h2=>(hr0 i b h1).1.trans (hr0 j b h2).1.symm,λj b hj=>?_,λj b hj=>?_,λs k1 t1 l1 hs h1 h2=>?_,λs1 s2 k1 k2 t1 l1 t2 l2 h1 _ _ h2 _ _=>((at0 s1 k1 h1).1.trans (at0 s2 k2 h2).1.symm)⟩
    ·obtain⟨_,h2⟩:=hr0 j b hj;exact⟨hW.o5 hk (hrbl b h2).1,.inr h2,by rw[hok]; exact(hmine b (hrbl b h2).1).2,λ_ _ _ _ h=>by cases h⟩
    ·obtain⟨_,h2⟩:=hr0 j b hj;obtain⟨c,h3,_⟩:=hW.blk r _ b hk (hrbl b h2).1;exact .inl ⟨c,_,_,h3⟩
    ·obtain⟨rfl,rfl⟩:=at0 s k1 hs;cases h2;refine⟨rfl,λj hj=>?_,λj row hj=>?_⟩
     ·rw[hG0];have:j≠0:=by rintro rfl; simp at hj
      simp[this]
     ·cases j with
      | zero =>
       simp only[List.getElem?_cons_zero,oJ]at hj;subst hj
       by_cases hl:l=[]
       ·exact .inl ⟨hl,he⟩
       ·right;rw[VR]at q1;obtain⟨n,z1,z2⟩:=q1;rw[ht2]at z1;obtain rfl:=Option.some.inj z1;rcases z2 with ⟨z2,_⟩|⟨b,c,z2,_⟩
        ·exact absurd (List.eq_nil_of_length_eq_zero z2) hl
        ·obtain⟨cc,a1,a2,_⟩:=hW.blk r _ b hk z2;refine⟨b,by rw[hG0,hrb]; simp[hl,z2],.inl ⟨he,cc,a1,?_⟩⟩;exact wV (G:=G) (G':=G0) (λb h=>by rw[hok]; exact h) _ _ _ _ (AI t hpl l) (rI (j4 _ _) a2)
      | succ j=>simp at hj
  have hv1:VRs w G0 ⟨λ_=>none,λs=>if s=0 then some 1 else none⟩ (Tk.none.pv 0++nK (.hnd t.size::args) ((0,0,l.length),x)) (u::us'):=by
   change VRs w G0 _ (.row 0 0 l.length t.size::nK args x) (u::us');rw[VRs];refine⟨u,us',rfl,?_,VRs.aZ (vW (G:=G) (G':=G0) (λb h=>by rw[hok]; exact h) _ _ _ hnr (cZ _ _ (OP args x hd) q2))⟩;rw[VR]at q1;rw[VR];obtain⟨n,z1,z2⟩:=q1;rw[ht2]at z1;obtain rfl:=Option.some.inj z1;rcases z2 with ⟨z2,ao,rfl⟩|⟨b,c,z2,rfl,z3,z4⟩
   ·exact⟨ao,0,by rw[show l.length=0 from z2],by rw[show l.length=0 from z2]; exact Nat.le_refl _,.inl z2⟩
   ·refine⟨_,c,rfl,z3,?_⟩
    by_cases hl:l=[]
    ·exact .inl (by rw[hl]; rfl)
    ·exact .inr ⟨b,by rw[hG0,hrb]; simp[hl,z2],by simp,by simpa using z4⟩
  obtain⟨c1,c2⟩:=hf () ((0,0,l.length),x) [l] y1 [l1] hfl (ra:=0) (r:=0) hW1 rfl ⟨λ_ _ h=>by cases h⟩ hv1;refine⟨c1,c2.mono ?_⟩;rintro e' w' ⟨v',G1,μ1,rfl,ee,hW',hvv⟩;have hb1:∀ b,rb=some b->G1.row 0=some b:=λb hb=>ee.row 0 b (by rw[hG0]; simp[hb])
  have hH1:(((SL (Tk.none.ow () 0) [some (arB e t [l])]).set 0 none)++(some (arB e t [l1])::(An.data rets).hp y1):Heap)[1]?=some (some (arB e t [l1])):=rfl;have hn0:∀ b,b<w.heap.size->¬ n0 b->w'.heap[b]?=w.heap[b]?:=λb hb hn=>ee.old b hb (by
   rintro(h|h)
   ·exact Nat.not_le.2 hb h
   ·exact hn (hmine b (hrbl b h).1).1)
  have hgg:∀ b,G b->G0 b:=λb hb=>by rw[hok]; exact hb
  have e2:Ext n0 w G μ w' (G1.with G) μ:={
   good:=λb hb=>⟨(ee.good b (hgg b hb)).1,(ee.good b (hgg b hb)).2⟩
   map:=λ_ _ h=>h
   len:=λ_ _ h=>h
   room:=ee.room
   row:=λ_ _ h=>h
   os:=ee.os
   tape:=ee.tape
   output:=ee.output
   size:=ee.size
   old:=hn0
   new:=λb hb=>by
    rcases ee.new b hb with h|h|h
    ·rw[hok]at h; exact .inl h
    ·exact .inr (hW.base b h)
    ·exact .inr (hmine b (hrbl b h).1).1 }
  have hold:∀ b,b<w.heap.size->rb≠some b->w'.heap[b]?=w.heap[b]?/\(G1 b->G b):=λb hb hne =>
   ⟨ee.old b hb (by rintro(h|h); exact Nat.not_le.2 hb h; exact hne h),λhg=>by
    rcases ee.new b hg with h|h|h
    ·rw[hok]at h; exact h
    ·exact absurd hb (Nat.not_lt.2 h)
    ·exact absurd h hne⟩
  have hk2:aP n0 (G1.with G) μ (H.set r none) w':=by
   refine(vS hW r).bV e2 ⟨λ_=>rfl,λj b hj=>hold b (hW.rows.sep j b hj).1 λh=>hrow j b hj (hrbl b h).1⟩ ?_ (λb hb=>hW'.lt b hb);intro s k1 b hs hb;obtain⟨hs,hsr⟩:=qN hs;refine hold b (hW.o5 hs hb) λh=>?_
   have hrb:=(hrbl b h).1;cases hf:k1.frozen with
   | false=>exact hsr (hW.inj s r k1 _ b hs hk hf rfl hb hrb)
   | true =>
    obtain⟨_,_,_,_,h5,_⟩:=hW.blk s k1 b hs hb;exact(hmine b hrb).2 (h5 hf)
  have hfin:aP n0 (G1.with G) μ (H.set r (some (owB e t l1))) w':=by
   have:=aSW hk2 (r:=r) (List.getElem?_set_self hlt) (owB e t l1) rfl rfl ?_ ?_
   ·rwa[List.set_set]at this
   ·intro b hb;have hcells:(∃ c,w'.heap[b]?=some (.cells c e (0,0))/\aL w' (G1.with G) μ b 0 (aG t l1))/\¬ G1 b:=by
     by_cases hl:l=[]
     ·have hl1:l1=[]:=List.eq_nil_of_length_eq_zero (by rw[hlen,hl]; rfl);have hne:rb≠some b:=λh=>(hrbl b h).2 hl
      obtain⟨o1,o2⟩:=hold b (hW.o5 hk hb) hne;obtain⟨c,h3,_⟩:=hW.blk r _ b hk hb;refine⟨⟨c,o1.trans h3,?_⟩,λh=>(hmine b hb).2 (o2 h)⟩;rw[hl1]; simp[aG,aL]
     ·have hbb:rb=some b:=by rw[hrb,if_neg hl]; exact hb
      have hrow1:=hb1 b hbb;obtain⟨_,_,a3⟩:=hW'.rows.arn 1 _ t [l1] hH1 rfl rfl;rcases a3 0 l1 rfl with h|⟨b',z1,z2⟩
      ·exact absurd (List.eq_nil_of_length_eq_zero (by rw[<- hlen,h.1]; rfl)) hl
      ·rw[hrow1]at z1;obtain rfl:=Option.some.inj z1;obtain⟨c0,y1,_⟩:=hW.blk r _ b hk hb;obtain⟨c,z2,z3⟩:=z2.cells (.inr (e2.room b 0 ⟨c0,_,_,y1,Nat.zero_le _⟩));refine⟨⟨c,z2,?_⟩,(hW'.rows.sep 0 b hrow1).2.2.1⟩;exact wV (G:=G1) (G':=G1.with G) (λb h=>h) _ _ _ _ (AI t hpl l1) (rI (j4 _ _) z3)
    refine⟨hcells.1,(hmine b hb).1,hcells.2,λs k1 hs hf hsb=>?_,λj hj=>hrow j b hj hb⟩;obtain⟨hs,hsr⟩:=qN hs;exact hsr (hW.inj s r k1 _ b hs hk hf rfl hsb hb)
   ·intro g hg;cases hg;exact⟨rfl,by rw[ht2,hlen]⟩
  refine⟨v',G1.with G,μ,rfl,e2,hfin,?_⟩;exact a2X hlr y1 hvv
 ·cases hy
theorem aGJ {g:FuncId}{e:TypeId}{t:Ty}{args:List Kd}{f:Unit->aK (.hnd t.size::args)->List (List t.den)->Option (aK []×List (List t.den))}(hf:LX P g e t .none (.hnd t.size::args) (.data []) f)(hd:P6 args=true)(hpl:t.plain=true)(he:e≠NT:=by decide):aT0 P g e t args (TM f):=by
 intro l x l' hy n0 G μ H w us r hW hk hv hnr;refine aLU hf hd hpl rfl he l x () l' ?_ hW hk hv hnr;unfold TM at hy;unfold ZF;split at hy
 ·rename_i l1 hfl;obtain⟨hlen,hy⟩:=aI hy;obtain rfl:=Option.some.inj hy;rw[hfl];show (bif Nat.beq l1.length l.length then some ((),l1) else none)=_;rw[hlen];rfl
 ·cases hy
def aW3(e:TypeId) (t:Ty) (args rets:List Kd) (f:List t.den->aK args->Option (aK rets×List t.den)) (qs:List PV) (H:Heap):Option aMC:=match aNQ e t H qs with
 | some (l,r,ps)=>match aM4 args ps with
  | some x=>bif eH.noRefs ps&&fF.noRows (nK args x) then some ⟨aK rets×List t.den,f l x,λz=>(aI1 rets z.1,H.set r (some (owB e t z.2)))⟩ else none
  | none=>none
 | none=>none
theorem aZZ {g:FuncId}{e:TypeId}{t:Ty}{args rets:List Kd}{f:List t.den->aK args->Option (aK rets×List t.den)}(hf:aU8 P g e t args rets f):vA P (g,aW3 e t args rets f):=by
 intro qs H rh h y hy n0 G μ w vs hW hv;change aW3 e t args rets f qs H=some rh at h;show yM P n0 w G μ g vs.toArray (rh.out y).1 (rh.out y).2;unfold aW3 at h;split at h
 ·rename_i l r ps hl;split at h
  ·rename_i x hx;obtain⟨hb,h⟩:=aGH h;simp only[oJ]at h;subst h;simp only[oA]at hb;obtain⟨h0,rfl⟩:=Z0 hW hl;rw[VRs]at hv;obtain⟨u,us,rfl,q1,q2⟩:=hv;exact hf l x y.1 y.2 hy hW h0 (by rw[VRs]; exact⟨u,us,rfl,q1,(IE args hx (cZ _ _ hb.1 q2)).aZ⟩) hb.2
  ·cases h
 ·cases h
def aYU(e:TypeId) (t:Ty) (args:List Kd) (f:List t.den->aK args->Option (List t.den)) (qs:List PV) (H:Heap):Option aMC:=match aNQ e t H qs with
 | some (l,r,ps)=>match aM4 args ps with
  | some x=>bif eH.noRefs ps&&fF.noRows (nK args x) then some ⟨List t.den,f l x,λl'=>(.tuple [],H.set r (some (owB e t l')))⟩ else none
  | none=>none
 | none=>none
theorem aRP {g:FuncId}{e:TypeId}{t:Ty}{args:List Kd}{f:List t.den->aK args->Option (List t.den)}(hf:aT0 P g e t args f):vA P (g,aYU e t args f):=by
 intro qs H rh h y hy n0 G μ w vs hW hv;change aYU e t args f qs H=some rh at h;show yM P n0 w G μ g vs.toArray (rh.out y).1 (rh.out y).2;unfold aYU at h;split at h
 ·rename_i l r ps hl;split at h
  ·rename_i x hx;obtain⟨hb,h⟩:=aGH h;simp only[oJ]at h;subst h;simp only[oA]at hb;obtain⟨h0,rfl⟩:=Z0 hW hl;rw[VRs]at hv;obtain⟨u,us,rfl,q1,q2⟩:=hv;exact hf l x y hy hW h0 (by rw[VRs]; exact⟨u,us,rfl,q1,(IE args hx (cZ _ _ hb.1 q2)).aZ⟩) hb.2
  ·cases h
 ·cases h
end
def aVH(P:Program)(E:Env)(fn:Func)(bV:Nat)(lt rt:Nat->Option cG)(c:Code)(ae:TypeId)(t:Ty)(tk:Tk)(args:List Kd)(an:An)(l:tk.den)(x:aK args)(A:List (List t.den)):Option (an.den×List (List t.den)) :=
 bif Nat.ble (tk.pv 0++nK args x).length fn.ntmps then C2 P E fn.ntmps bV lt rt false [] c (start bV 0 (tk.pv 0++nK args x)) (M3 (tk.ow l 0)++[some (arB ae t A)]) (a4J P fn.results.toList ae t an) else none
section
variable {P:Program} {n0:Nat->Prop} {w w':World} {G G1 G2:Gd} {μ μ2:Mp} {H H':Heap} {ae:TypeId} {t:Ty} {A B:List (List t.den)}
theorem a3G {E:Env} (hP:QO P) (hE:aR P E) {g:Nat} {fn:Func} (hg:P.funcs[g]?=some fn) {c:Code} (hc:fn.body=some c) {bV:Nat} {lt rt:Nat->Option cG} {ae:TypeId} {t:Ty} {tk:Tk} {args:List Kd} {an:An} {f:tk.den->aK args->List (List t.den)->Option (an.den×List (List t.den))}
  (hd:P6 args=true) (hl:∀ a∈iG c,SW P fn.ntmps lt rt false [] a) (hb:∀ l x A,aVH P E fn bV lt rt c ae t tk args an l x A=f l x A):LX P g ae t tk args an f:=by
 intro l x A y B hy n0 G μ H w us ra r hW har ho hv;rw[<- hb]at hy;unfold aVH at hy;obtain⟨hlen,hy⟩:=aI hy;obtain⟨⟨ex,F',H'⟩,h1,h2⟩:=n9 hE.callee hP.mixed c _ _ _ _ hl hy;obtain⟨vs,B',hex,hvs,hB,hq,rfl⟩:∃ vs B',(ex=.normal\/ex=.ret)/\wC P F' H' fn.results.toList=some vs/\aZJ ae t H'=some B'/\aV5 an (jN vs) H'=some y/\B'.2=B:=by
  unfold a4J at h1;split at h1
  ·cases h1
  ·rename_i hne;split at h1
   ·rename_i vs hvs;split at h1
    ·rename_i B' hB;split at h1
     ·rename_i y' hy';simp only[oJ,oP]at h1;obtain⟨rfl,h1⟩:=h1;refine⟨vs,B',?_,hvs,hB,hy',h1⟩;cases ex with
      | normal=>exact .inl rfl
      | ret=>exact .inr rfl
      | exit i=>exact absurd rfl (hne i)
     ·cases h1
    ·cases h1
   ·cases h1
 have hargs:VRs w G (mpA μ (tk.ow l r) A.length) (tk.pv 0++nK args x) us:=by
  have hn:=OP args x hd;cases tk with
  | none=>exact VRs.aZ (cZ _ _ hn hv)
  | own e u =>
   change VRs w G μ (.own r u.size::nK args x) us at hv;change VRs w G _ (.own 0 u.size::nK args x) us;rw[VRs]at hv ⊢;obtain⟨v,us',rfl,q1,q2⟩:=hv;refine⟨v,us',rfl,?_,VRs.aZ (cZ _ _ hn q2)⟩;rw[VR]at q1 ⊢;exact q1
 have howb:M3 (tk.ow l 0)=M3 (tk.ow l r):=by cases tk <;> rfl
 have hW1:=aEG hW ho har;rw[<- howb]at hW1;have e0:Ext (wrA w G μ (tk.ow l r)) w G aH w G (mpA μ (tk.ow l r) A.length) :=
  ⟨⟨λb hb=>⟨hb,rfl⟩,λ_ _ h=>(by cases h),λ_ _ h=>(by cases h),λ_ _ h=>h,λ_ _ h=>h⟩,rfl,rfl,rfl,Nat.le_refl _,λ_ _ _=>rfl,λ_ h=>.inl h⟩
 refine⟨enters hg (hP.names g fn hg) (by rw[hc]; rfl) _ _,(callsIn_wide (n:=0)).1 (callsIn_of_wp_marks hg hc trivial ?_)⟩;have hI:I (wrA w G μ (tk.ow l r)) w G aH fn.ntmps (start bV 0 (tk.pv 0++nK args x)) (M3 (tk.ow l 0)++[some (arB ae t A)]) ⟨us.toArray++Array.replicate (fn.ntmps-us.toArray.size) undef,[]⟩ w :=
  ⟨G,_,e0,hW1,C3 (by simpa using hargs) (oL hlen)⟩
 refine wpIn_mono (h2 none 0 _ w G aH _ w (λ_=>rfl) (λr _=>⟨rfl,rfl⟩) hI.a6I) ?_;rintro e1 ⟨tm,ds⟩ w' ⟨rfl,hI',_⟩;have hend:∀ w',IM (wrA w G μ (tk.ow l r)) w G aH fn.ntmps F' H' { tmps:=tm,defers:=[] } w'->LeavesIn Fence.wide 0 P fn tm (λen w'=>∃ v' G'' μ'',en=.returned v'/\Ext n0 w G μ w' G'' μ''/\aP n0 G'' μ'' (((SL (tk.ow l r) H).set ra none)++(some (arB ae t B'.2)::an.hp y)) w'/\VR w' G'' μ'' (an.pv y (H.length+1)) v') [] .returning w':=by
  rintro w' ⟨G1,μ1,ee,hW',hF',_⟩;obtain⟨ws,h3,h4⟩:=tQ (P:=P) hW' hF' hvs;have hres:(results fn tm).run P w'=.ok (if hh:ws.toArray.size=1 then ws.toArray[0] else .tuple ws.toArray) w':=by
   rw[GM,Array.mapM_eq_mapM_toList];simp only[Sem.run_bind,Sem.run_map,h3,Result.andThen_ok,Sem.run_pure]
  have hrb:=aDZ hW' hB;obtain⟨G2,μ3,b1,b2,b3⟩:∃ G2 μ3,Ext n0 w G μ w' G2 μ3/\aP n0 G2 μ3 (((SL (tk.ow l r) H).set ra none)++(some (arB ae t B'.2)::an.hp y)) w'/\VR w' G2 μ3 (an.pv y (H.length+1)) (if hh:ws.toArray.size=1 then ws.toArray[0] else .tuple ws.toArray):=by
   have hvr:=xJ h4;cases an with
   | data rets =>
    simp only[aV5]at hq;split at hq
    ·rename_i q hq';have hb:=aJQ (G2:=⟨λb=>G1 b\/∃ s k,H'[s]?=some (some k)/\k.frozen=false/\μ1.loc s=some b,G1.row⟩) hW ho har ee hW' hrb (os:=none) ⟨λ_ _ _ h=>by cases h⟩ (λ_=>rfl) (λb hb=>.inl hb) (λb hb=>by
      rcases hb with h|⟨s,k,z1,z2,z3⟩
      ·exact .inl h
      ·exact .inr ⟨s,k,z1,z2,z3,λ_ _ _ h=>by cases h⟩)
     refine⟨_,_,hb.1,hb.2,?_⟩;have:=J7 (G':=⟨λb=>G1 b\/∃ s k,H'[s]?=some (some k)/\k.frozen=false/\μ1.loc s=some b,G1.row⟩) hW' (λ_ _ h=>h) (λb hb=>.inl hb) (λs k1 b hs _ hb=>by
      obtain⟨_,_,_,_,g5,_⟩:=hW'.blk s k1 b hs hb;cases hf:k1.frozen with
      | true=>exact .inl (g5 hf)
      | false=>exact .inr ⟨s,k1,hs,hf,hb⟩) depth _ q _ hq' hvr
     exact(aA9 hq this).aZ
    ·cases hq
   | own e u =>
    simp only[aV5]at hq;obtain⟨r1,l0,hos,hvv⟩:=aK7 hW' hq hvr;have hb:=aJQ (G2:=G1) hW ho har ee hW' hrb hos (λ_=>rfl) (λb hb=>hb) (λb hb=>.inl hb);refine⟨_,_,hb.1,hb.2,hvv _ _ _ ?_ ?_⟩
    ·have h1:¬ H.length+1<H.length:=by omega
     simp[zC,h1,a4O]
    ·have h1:¬ H.length+1<H.length:=by omega
     simp[zC,h1,a1X]
  exact⟨_,hres,_,G2,μ3,rfl,b1,b2,b3⟩
 rcases hex with rfl|rfl
 ·exact AJ (λb hb=>(aEG hW ho har).base b hb) hend ds w' hI'
 ·exact AJ (λb hb=>(aEG hW ho har).base b hb) hend ds w' hI'
end
def aVZ(P:Program)(E:Env)(fn:Func)(bV:Nat)(lt rt:Nat->Option cG)(c:Code)(ae:TypeId)(t:Ty)(args rets:List Kd)(x:aK args):Option (aK rets) :=
 bif Nat.ble (nK args x).length fn.ntmps then C2 P E fn.ntmps bV lt rt false [] c (start bV 0 (nK args x)) [some (arB ae t [])] (aUD P fn.results.toList rets) else none
section
variable {P:Program}
theorem a6J {E:Env} (hP:QO P) (hE:aR P E) {g:Nat} {fn:Func} (hg:P.funcs[g]?=some fn) {c:Code} (hc:fn.body=some c) {bV:Nat} {lt rt:Nat->Option cG} {ae:TypeId} {t:Ty} {args rets:List Kd} {f:aK args->Option (aK rets)}
  (hl:∀ a∈iG c,SW P fn.ntmps lt rt false [] a) (hb:∀ x,aVZ P E fn bV lt rt c ae t args rets x=f x):ZE P g args rets f:=by
 intro x y hy;rw[<- hb]at hy;unfold aVZ at hy;obtain⟨hlen,hy⟩:=aI hy;obtain⟨⟨ex,F',H'⟩,h1,h2⟩:=n9 hE.callee hP.mixed c _ _ _ _ hl hy;obtain⟨vs,q,hex,hvs,hq,hd⟩:∃ vs q,(ex=.normal\/ex=.ret)/\wC P F' H' fn.results.toList=some vs/\aVY H' (jN vs)=some q/\aTI rets q=some y:=by
  unfold aUD at h1;split at h1
  ·cases h1
  ·rename_i hne;split at h1
   ·rename_i vs hvs;split at h1
    ·rename_i q hq;refine⟨vs,q,?_,hvs,hq,h1⟩;cases ex with
     | normal=>exact .inl rfl
     | ret=>exact .inr rfl
     | exit i=>exact absurd rfl (hne i)
    ·cases h1
   ·cases h1
 obtain⟨hq1,hq2⟩:=O9 hq;intro w G us hlt hv;have at0:∀ (s:Nat) (k1:Blk),([some (arB ae t [])]:Heap)[s]?=some (some k1)->s=0/\k1=arB ae t []:=by
  intro s k1 hs;cases s with
  | zero=>simp only[List.getElem?_cons_zero,oJ]at hs; exact⟨rfl,hs.symm⟩
  | succ s=>simp at hs
 have hW:aP (zZ w) (Gd.of G) ⟨λ_=>none,λr=>if r=0 then some 0 else none⟩ [some (arB ae t [])] w:=by
  refine⟨(λr k b h hb=>by cases hb),(λr k g h hg=>?_),(λr s k l b h _ _ _ hb=>by cases hb),hlt,(λr hr=>⟨rfl,?_⟩),λ_ h=>h,⟨(λ_ _ _ h=>by cases h),(λ_ _ h=>by cases h),(λ_ _ h=>by cases h),(λr k u l h hgr ht=>?_),(λr s k k' u l u' l' h1 g1 t1 h2 g2 t2=>by rw[(at0 r k h1).1,(at0 s k' h2).1])⟩⟩
  ·obtain⟨rfl,rfl⟩:=at0 r k h;cases hg;exact⟨rfl,rfl⟩
  ·have:r≠0:=by rintro rfl; simp at hr
   simp[this]
  ·obtain⟨rfl,rfl⟩:=at0 r k h;cases ht;exact⟨rfl,λ_ _=>rfl,λj row hj=>by simp at hj⟩
 have e0:Ext (zZ w) w (Gd.of G) aH w (Gd.of G) ⟨λ_=>none,λr=>if r=0 then some 0 else none⟩ :=
  ⟨⟨λb hb=>⟨hb,rfl⟩,λ_ _ h=>(by cases h),λ_ _ h=>(by cases h),λ_ _ h=>h,λ_ _ h=>h⟩,rfl,rfl,rfl,Nat.le_refl _,λ_ _ _=>rfl,λ_ h=>.inl h⟩
 refine⟨enters hg (hP.names g fn hg) (by rw[hc]; rfl) _ _,(callsIn_wide (n:=0)).1 (callsIn_of_wp_marks hg hc trivial ?_)⟩;have hI:I (zZ w) w (Gd.of G) aH fn.ntmps (start bV 0 (nK args x)) [some (arB ae t [])] ⟨us++Array.replicate (fn.ntmps-us.size) undef,[]⟩ w:=⟨Gd.of G,_,e0,hW,C3 hv.aZ (oL hlen)⟩;refine wpIn_mono (h2 none 0 _ w (Gd.of G) aH _ w (λ_=>rfl) (λr _=>⟨rfl,rfl⟩) hI.a6I) ?_;rintro e1 ⟨tm,ds⟩ w' ⟨rfl,hI',_⟩
 have hend:∀ w',IM (zZ w) w (Gd.of G) aH fn.ntmps F' H' { tmps:=tm,defers:=[] } w'->LeavesIn Fence.wide 0 P fn tm (λen w'=>∃ v' G',en=.returned v'/\Ext (zZ w) w (Gd.of G) aH w' (Gd.of G') aH/\(∀ b,G' b->b<w'.heap.size)/\VR w' (Gd.of G') aH (aI1 rets y) v') [] .returning w':=by
  rintro w' ⟨G1,μ1,e1,e2,hF',_⟩;obtain⟨ws,h3,h4⟩:=tQ (P:=P) e2 hF' hvs;have hres:(results fn tm).run P w'=.ok (if hh:ws.toArray.size=1 then ws.toArray[0] else .tuple ws.toArray) w':=by
   rw[GM,Array.mapM_eq_mapM_toList];simp only[Sem.run_bind,Sem.run_map,h3,Result.andThen_ok,Sem.run_pure]
  have hval:=QW (G:=⟨λb=>G1 b\/∃ r k,H'[r]?=some (some k)/\μ1.loc r=some b,G1.row⟩) (G':=Gd.of λb=>G1 b\/∃ r k,H'[r]?=some (some k)/\μ1.loc r=some b) (λb h=>h) _ _ _ hq2
    (J7 (G':=⟨λb=>G1 b\/∃ r k,H'[r]?=some (some k)/\μ1.loc r=some b,G1.row⟩) e2 (λ_ _ h=>h) (λb hb=>.inl hb) (λr k b hr _ hb=>.inr ⟨r,k,hr,hb⟩) depth _ q _ hq1 (xJ h4))
  have hext:Ext (zZ w) w (Gd.of G) aH w' (Gd.of λb=>G1 b\/∃ r k,H'[r]?=some (some k)/\μ1.loc r=some b) aH:={
   good:=λb hb=>⟨.inl (e1.good b hb).1,(e1.good b hb).2⟩
   map:=λ_ _ h=>h
   len:=λ_ _ h=>h
   room:=e1.room
   row:=λ_ _ h=>h
   os:=e1.os
   tape:=e1.tape
   output:=e1.output
   size:=e1.size
   old:=e1.old
   new:=λb hb=>by
    rcases hb with hb|⟨r,k,hr,hb⟩
    ·exact e1.new b hb
    ·obtain⟨c,_,_,_,g5,g6⟩:=e2.blk r k b hr hb;cases hf:k.frozen with
     | true=>exact e1.new b (g5 hf)
     | false=>exact .inr (g6 hf).1 }
  have hlt':∀ b,(G1 b\/∃ r k,H'[r]?=some (some k)/\μ1.loc r=some b)->b<w'.heap.size:=by
   rintro b (hb|⟨r,k,hr,hb⟩)
   ·exact e2.lt b hb
   ·exact e2.o5 hr hb
  exact⟨_,hres,_,_,rfl,hext,hlt',aA9 hd hval⟩
 rcases hex with rfl|rfl
 ·exact AJ (λb hb=>hW.base b hb) hend ds w' hI'
 ·exact AJ (λb hb=>hW.base b hb) hend ds w' hI'
end
open Go Go.RowKit Go.Proofs
set_option maxHeartbeats 4000000
def cK(x:aK [.str]):oK [.bool,.str]:=match x with
 | (v0,()) =>
  bif ltI 0 (v0.size:Int) then
   bif aF 0 v0.size then bif eqI (aM1 v0 0) 45 then
    bif Nat.ble 1 v0.size then bif Nat.ble v0.size v0.size then some (true,(v0.extract 1 v0.size),()) else none else none
   else some (false,v0,()) else none
  else some (false,v0,())
theorem aIJ:aR tP (bL []):=aU trivial
abbrev AH:Ent:=⟨179,_,_,cK⟩
theorem vR:Ent.OK tP AH:=oI aIJ Tryz.func179 (by kernel_rfl) (by kernel_rfl) (by rintro⟨v0,⟨⟩⟩; kernel_rfl)
def aA(x:aK [.bool,.str]):oK [.str]:=match x with
 | (v0,v1,()) =>
  bif v0 then
   bif !(eqS v1 (ByteArray.mk #[48])) then
    bif Nat.ble ((ByteArray.mk #[45]).size+v1.size) 9223372036854775807 then some (((ByteArray.mk #[45])++v1),()) else none
   else some (v1,())
  else some (v1,())
theorem aL0:aR tP (bL []):=aU trivial
abbrev MG:Ent:=⟨180,_,_,aA⟩
theorem IS:Ent.OK tP MG:=oI aL0 Tryz.func180 (by kernel_rfl) (by kernel_rfl) (by rintro⟨v0,v1,⟨⟩⟩; kernel_rfl)
def rJ(x:aK [.str,.int .i64]):oK [.int .i64,.bool]:=match x with
 | (v0,v1,()) =>
  bif ltI v1 (v0.size:Int) then
   some (0,false,())
  else aC (FU (v0,())) λy1 =>
  some (y1.1,true,())
theorem aGD:aR tP (bL [aB8]):=aU ⟨aGV,trivial⟩
abbrev K3:Ent:=⟨178,_,_,rJ⟩
theorem KP:Ent.OK tP K3:=oI aGD Tryz.func178 (by kernel_rfl) (by kernel_rfl) (by rintro⟨v0,v1,⟨⟩⟩; kernel_rfl)
def j8(x:aK [.int .i64]):oK [.str]:=match x with
 | (v0,()) =>
  aC (FX (v0,())) λy1 =>
  some (y1.1,())
theorem aPY:aR tP (bL [aBV]):=aU ⟨aG1,trivial⟩
abbrev J5:Ent:=⟨137,_,_,j8⟩
theorem EH:Ent.OK tP J5:=oI aPY Tryz.func137 (by kernel_rfl) (by kernel_rfl) (by rintro⟨v0,⟨⟩⟩; kernel_rfl)
def OY(x:aK [.str]):oK [.int .i64,.bool]:=match x with
 | (v0,()) =>
  aC (wP (v0,10,64,())) λy1 =>
  some (y1.1,true,())
theorem aJB:aR tP (bL [SZ]):=aU ⟨ZI,trivial⟩
abbrev aER:Ent:=⟨210,_,_,OY⟩
theorem aIS:Ent.OK tP aER:=oI aJB Tryz.func210 (by kernel_rfl) (by kernel_rfl) (by rintro⟨v0,⟨⟩⟩; kernel_rfl)
def DP(x:aK [.str]):oK [.int .i64]:=match x with
 | (v0,()) =>
  bif eqS v0 (ByteArray.mk #[48]) then
   some (0,())
  else bif aF 0 v0.size then bif eqI (aM1 v0 0) 45 then
   some ((-1),())
  else some (1,()) else none
theorem aLH:aR tP (bL []):=aU trivial
abbrev aAB:Ent:=⟨167,_,_,DP⟩
theorem Y6:Ent.OK tP aAB:=oI aLH Tryz.func167 (by kernel_rfl) (by kernel_rfl) (by rintro⟨v0,⟨⟩⟩; kernel_rfl)
def tT(x:aK [.int .u64]):oK [.str]:=match x with
 | (v0,()) =>
  aC (sT (v0,10,())) λy1 =>
  some (y1.1,())
theorem aK6:aR tP (bL [N5]):=aU ⟨XF,trivial⟩
abbrev LJ:Ent:=⟨214,_,_,tT⟩
theorem I2:Ent.OK tP LJ:=oI aK6 Tryz.func214 (by kernel_rfl) (by kernel_rfl) (by rintro⟨v0,⟨⟩⟩; kernel_rfl)
def D2(x:aK [.str]):oK [.int .u64,.bool]:=match x with
 | (v0,()) =>
  aC (uV (v0,10,64,())) λy1 =>
  some (y1.1,true,())
theorem aFY:aR tP (bL [P5]):=aU ⟨YN,trivial⟩
abbrev ZG:Ent:=⟨234,_,_,D2⟩
theorem aE5:Ent.OK tP ZG:=oI aFY Tryz.func234 (by kernel_rfl) (by kernel_rfl) (by rintro⟨v0,⟨⟩⟩; kernel_rfl)
def rE(x:aK [.str,.str]):oK [.int .u64,.int .u64,.bool]:=match x with
 | (v0,v1,()) =>
  bif ltI 18 (v0.size:Int) then
   some (0,0,false,())
  else bif ltI 18 (v1.size:Int) then
   some (0,0,false,())
  else aC (D2 (v0,())) λy1 =>
  aC (D2 (v1,())) λy2 =>
  some (y1.1,y2.1,true,())
theorem aG7:aR tP (bL [ZG]):=aU ⟨aE5,trivial⟩
abbrev FL:Ent:=⟨213,_,_,rE⟩
theorem ER:Ent.OK tP FL:=oI aG7 Tryz.func213 (by kernel_rfl) (by kernel_rfl) (by rintro⟨v0,v1,⟨⟩⟩; kernel_rfl)
def fN(x:aK [.str,.str]):oK [.int .i64]:=match x with
 | (v0,v1,()) =>
  bif !(eqI (v0.size:Int) (v1.size:Int)) then
   some ((if (if (-1)<(aB .i64 ((v0.size:Int)-(v1.size:Int))) then (aB .i64 ((v0.size:Int)-(v1.size:Int))) else (-1))<1 then (if (-1)<(aB .i64 ((v0.size:Int)-(v1.size:Int))) then (aB .i64 ((v0.size:Int)-(v1.size:Int))) else (-1)) else 1),())
  else bif ltS v0 v1 then
   some ((-1),())
  else bif !(ltS v0 v1||eqS v0 v1) then
   some (1,())
  else some (0,())
theorem aBN:aR tP (bL []):=aU trivial
abbrev ES:Ent:=⟨182,_,_,fN⟩
theorem E8:Ent.OK tP ES:=oI aBN Tryz.func182 (by kernel_rfl) (by kernel_rfl) (by rintro⟨v0,v1,⟨⟩⟩; kernel_rfl)
def IU(x:aK [.str,.str]):oK [.int .i64]:=match x with
 | (v0,v1,()) =>
  aC (DP (v0,())) λy1 =>
  aC (DP (v1,())) λy2 =>
  bif !(eqI y1.1 y2.1) then
   bif ltI y1.1 y2.1 then
    some ((-1),())
   else some (1,())
  else aC (cK (v0,())) λy3 =>
  aC (cK (v1,())) λy4 =>
  bif y3.1 then
   aC (fN (y4.2.1,y3.2.1,())) λy5 =>
   some (y5.1,())
  else aC (fN (y3.2.1,y4.2.1,())) λy6 =>
  some (y6.1,())
theorem aE0:aR tP (bL [ES,aAB,AH]):=aU ⟨E8,Y6,vR,trivial⟩
abbrev ZU:Ent:=⟨163,_,_,IU⟩
theorem aE8:Ent.OK tP ZU:=oI aE0 Tryz.func163 (by kernel_rfl) (by kernel_rfl) (by rintro⟨v0,v1,⟨⟩⟩; kernel_rfl)
def QG(x:aK [.str]):oK [.str]:=match x with
 | (v0,()) =>
  aC (cK (v0,())) λy1 =>
  bif y1.1 then
   aC (aA (false,y1.2.1,())) λy2 =>
   some (y2.1,())
  else aC (aA (true,y1.2.1,())) λy3 =>
  some (y3.1,())
theorem aMT:aR tP (bL [MG,AH]):=aU ⟨IS,vR,trivial⟩
abbrev aC7:Ent:=⟨207,_,_,QG⟩
theorem aCA:Ent.OK tP aC7:=oI aMT Tryz.func207 (by kernel_rfl) (by kernel_rfl) (by rintro⟨v0,⟨⟩⟩; kernel_rfl)
def P1(x:aK [.str]):oK [.str]:=match x with
 | (v0,()) =>
  aC (cK (v0,())) λy1 =>
  some (y1.2.1,())
theorem aMN:aR tP (bL [AH]):=aU ⟨vR,trivial⟩
abbrev aJ4:Ent:=⟨164,_,_,P1⟩
theorem aMO:Ent.OK tP aJ4:=oI aMN Tryz.func164 (by kernel_rfl) (by kernel_rfl) (by rintro⟨v0,⟨⟩⟩; kernel_rfl)
abbrev eW:List (Nat×Kd):=[(0,.hnd 1),(2,.int .i64),(3,.int .i64),(100000,.ar 5 (.int .u8))]
abbrev iI:List (Ex×List (Nat×Kd)):=[(.exit 0,[(100000,.ar 5 (.int .u8))])]
def fP(x:Shape.den eW):oS eW iI:=match x with
 | (v0,v2,v3,v100000,()) =>
  bif ltI v2 v3 then
   bif aF v3 v0.2.2 then bif Nat.blt ((v0.2.1+v3.toNat)*1) (cS v100000 v0.1) then bif aF v2 v0.2.2 then bif Nat.blt ((v0.2.1+v2.toNat)*1) (cS v100000 v0.1) then bif aF v2 v0.2.2 then bif Nat.blt ((v0.2.1+v2.toNat)*1) (cS v100000 v0.1) then bif aF v3 v0.2.2 then bif Nat.blt ((v0.2.1+v3.toNat)*1) (cS (vH v100000 v0.1 ((v0.2.1+v2.toNat)*1) (dH v100000 v0.1 ((v0.2.1+v3.toNat)*1) 0)) v0.1) then some (.inl ((v0.1,v0.2.1,v0.2.2),(aB .i64 (v2+1)),(aB .i64 (v3-1)),(vH (vH v100000 v0.1 ((v0.2.1+v2.toNat)*1) (dH v100000 v0.1 ((v0.2.1+v3.toNat)*1) 0)) v0.1 ((v0.2.1+v3.toNat)*1) (dH v100000 v0.1 ((v0.2.1+v2.toNat)*1) 0)),())) else none else none else none else none else none else none else none else none
  else some (.inr ((v100000,())))
def kQ(x:Shape.den eW):oX iI:=bH fP (2^64) x
def dG(u0:Unit)(x:aK [.hnd 1])(A:List (List Int)):Option ((aK [])×List (List Int)):=match x with
 | (v0,()) =>
  aC (kQ ((v0.1,v0.2.1,v0.2.2),0,(aB .i64 (((v0.2.2:Nat):Int)-1)),A,())) λz1 =>
  some ((()),z1.1)
def oV:Code:=eA Tryz.f236
abbrev tF:Env:=bL []
theorem yV:aR tP tF:=aU trivial
def rW:Code:=gQ oV 0
def sS(id:Nat):Option cG:=bif Nat.beq id 1 then some ⟨eW,iI,kQ⟩ else none
theorem HU:∀ x,iK tP tF 28 (aN Tryz.f236) sS rW eW iI x=fP x:=by
 rintro⟨v0,v2,v3,v100000,⟨⟩⟩
 kernel_rfl
theorem IG:eG tP 28 rW ⟨eW,iI,kQ⟩:=eN yV.callee bC.mixed _ (aO (l:=[]) (by kernel_rfl) trivial) HU
theorem I9:bF oV=[rW]:=by kernel_rfl
theorem JR:∀ l x A,E0 tP tF Tryz.f236 (aN Tryz.f236) sS oV 5 (.int .u8) .none [.hnd 1] (.data []) l x A=dG l x A:=by
 rintro u0 ⟨v0,⟨⟩⟩ A
 kernel_rfl
theorem NA:LX tP 236 5 (.int .u8) .none [.hnd 1] (.data []) dG:=yP bC yV Tryz.func236 (c:=oV) (by kernel_rfl) (bV:=aN Tryz.f236) (lt:=sS) (by rfl) (aO I9 ⟨eL (i:=1) (by kernel_rfl) rfl IG,trivial⟩) JR
theorem LK:aT0 tP 236 5 (.int .u8) [] (TM dG):=aGJ NA (by rfl) (by rfl)
abbrev BH:Shr:=(236,RL 1 (aYU 5 (.int .u8) [] (TM dG)))
theorem I7:vA tP BH:=rG (aRP LK)
abbrev xD:List (Nat×Kd):=[(0,.list (.int .u64))]
abbrev FP:List (Ex×List (Nat×Kd)):=[(.exit 0,[(0,.list (.int .u64))])]
def lD(x:Shape.den xD):oS xD FP:=match x with
 | (v0,()) =>
  bif ltI 0 (v0.length:Int) then
   bif aF (aB .i64 ((v0.length:Int)-1)) v0.length then bif eqI (v0.getD ((aB .i64 ((v0.length:Int)-1)).toNat) 0) 0 then
    bif !(ltI (aB .i64 ((v0.length:Int)-1)) 0) then bif Nat.ble 0 ((aB .i64 ((v0.length:Int)-1)).toNat) then bif Nat.ble ((aB .i64 ((v0.length:Int)-1)).toNat) v0.length then some (.inl (((v0.drop 0).take ((aB .i64 ((v0.length:Int)-1)).toNat-0)),())) else none else none else none
   else some (.inr ((v0,()))) else none
  else some (.inr ((v0,())))
def D3(x:Shape.den xD):oX FP:=bH lD (2^64) x
def qM(x:aK [.list (.int .u64)]):oK [.list (.int .u64)]:=match x with
 | (v0,()) =>
  aC (D3 (v0,())) λz1 =>
  some (z1.1,())
abbrev YG:Env:=bL []
theorem TW:aR tP YG:=aU trivial
abbrev JM:Ent:=⟨217,_,_,qM⟩
theorem T5:Ent.OK tP JM:=oU TW Tryz.func217 1 (lp:=D3) rfl (by kernel_rfl) (by kernel_rfl) (by kernel_rfl) (by kernel_rfl) (by rintro⟨v0,⟨⟩⟩; kernel_rfl) (by rintro⟨v0,⟨⟩⟩; kernel_rfl)
abbrev gA:List (Nat×Kd):=[(0,.own 180 (.int .u64)),(100000,.ar 180 (.int .u64))]
abbrev kU:List (Ex×List (Nat×Kd)):=[(.exit 0,[(0,.own 180 (.int .u64)),(100000,.ar 180 (.int .u64))])]
def iN(x:Shape.den gA):oS gA kU:=match x with
 | (v0,v100000,()) =>
  bif ltI 0 (v0.length:Int) then
   bif aF (aB .i64 ((v0.length:Int)-1)) v0.length then bif Nat.blt ((aB .i64 ((v0.length:Int)-1)).toNat) v0.length then bif eqI (v0.getD ((aB .i64 ((v0.length:Int)-1)).toNat) 0) 0 then
    bif !(ltI (aB .i64 ((v0.length:Int)-1)) 0) then bif Nat.ble 0 ((aB .i64 ((v0.length:Int)-1)).toNat) then bif Nat.ble ((aB .i64 ((v0.length:Int)-1)).toNat) v0.length then bif Nat.blt 0 v0.length then some (.inl ((v0.take ((aB .i64 ((v0.length:Int)-1)).toNat-0)),v100000,())) else none else none else none else none
   else some (.inr ((v0,v100000,()))) else none else none
  else some (.inr ((v0,v100000,())))
def rV(x:Shape.den gA):oX kU:=bH iN (2^64) x
def aY(v0:List Int)(x:aK [])(A:List (List Int)):Option ((List Int)×List (List Int)):=match x with
 | (()) =>
  aC (rV (v0,A,())) λz1 =>
  some (z1.1,z1.2.1)
def rF:Code:=eA Tryz.f217
abbrev xQ:Env:=bL []
theorem CM:aR tP xQ:=aU trivial
def uJ:Code:=gQ rF 0
def vO(id:Nat):Option cG:=bif Nat.beq id 1 then some ⟨gA,kU,rV⟩ else none
theorem KB:∀ x,iK tP xQ 21 (aN Tryz.f217) vO uJ gA kU x=iN x:=by
 rintro⟨v0,v100000,⟨⟩⟩
 kernel_rfl
theorem L9:eG tP 21 uJ ⟨gA,kU,rV⟩:=eN CM.callee bC.mixed _ (aO (l:=[]) (by kernel_rfl) trivial) KB
theorem NK:bF rF=[uJ]:=by kernel_rfl
theorem O3:∀ l x A,E0 tP xQ Tryz.f217 (aN Tryz.f217) vO rF 180 (.int .u64) (.own 180 (.int .u64)) [] (.own 180 (.int .u64)) l x A=aY l x A:=by
 rintro u0 ⟨⟨⟩⟩ A
 kernel_rfl
theorem RJ:LX tP 217 180 (.int .u64) (.own 180 (.int .u64)) [] (.own 180 (.int .u64)) aY:=yP bC CM Tryz.func217 (c:=rF) (by kernel_rfl) (bV:=aN Tryz.f217) (lt:=vO) (by rfl) (aO NK ⟨eL (i:=1) (by kernel_rfl) rfl L9,trivial⟩) O3
abbrev fY:Shr:=(217,RL 1 (arH 180 (.int .u64) (.own 180 (.int .u64)) [] (.own 180 (.int .u64)) aY))
theorem gH:vA tP fY:=rG (g:=217) (f:=arH 180 (.int .u64) (.own 180 (.int .u64)) [] (.own 180 (.int .u64)) aY) (DC RJ)
abbrev qS:List (Nat×Kd):=[(0,.str),(3,.own 180 (.int .u64)),(4,.int .i64),(5,.int .u64),(25,.list (.int .u8)),(26,.int .i64),(27,.int .i64),(100000,.ar 180 (.int .u64))]
abbrev tZ:List (Ex×List (Nat×Kd)):=[(.exit 2,[(0,.str),(3,.own 180 (.int .u64)),(4,.int .i64),(5,.int .u64),(100000,.ar 180 (.int .u64))])]
def rN(x:Shape.den qS):oS qS tZ:=match x with
 | (v0,v3,v4,v5,v25,v26,v27,v100000,()) =>
  bif ltI v27 v26 then
   bif aF v27 v25.length then some (.inl (v0,v3,v4,(aB .u64 ((aB .u64 (10*v5))+(IntKind.wrap .u64 (aB .u8 ((v25.getD v27.toNat 0)-48))))),v25,v26,(aB .i64 (v27+1)),v100000,())) else none
  else some (.inr ((v0,v3,v4,v5,v100000,())))
def wL(x:Shape.den qS):oX tZ:=bH rN (2^64) x
abbrev qX:List (Nat×Kd):=[(0,.str),(3,.own 180 (.int .u64)),(4,.int .i64),(100000,.ar 180 (.int .u64))]
abbrev uT:List (Ex×List (Nat×Kd)):=[(.exit 0,[(3,.own 180 (.int .u64)),(100000,.ar 180 (.int .u64))])]
def rP(x:Shape.den qX):oS qX uT:=match x with
 | (v0,v3,v4,v100000,()) =>
  bif ltI 0 v4 then
   bif !(ltI (if 0<(aB .i64 (v4-9)) then (aB .i64 (v4-9)) else 0) 0) then bif !(ltI v4 0) then bif Nat.ble ((if 0<(aB .i64 (v4-9)) then (aB .i64 (v4-9)) else 0).toNat) v4.toNat then bif Nat.ble v4.toNat v0.size then aC (wL (v0,v3,v4,0,(TE (v0.extract ((if 0<(aB .i64 (v4-9)) then (aB .i64 (v4-9)) else 0).toNat) v4.toNat)),((TE (v0.extract ((if 0<(aB .i64 (v4-9)) then (aB .i64 (v4-9)) else 0).toNat) v4.toNat)).length:Int),0,v100000,())) λz2 =>
   bif Nat.ble [z2.2.2.2.1].length 1048576 then bif Nat.ble z2.2.1.length 1048576 then some (.inl (z2.1,(z2.2.1++[z2.2.2.2.1]),(aB .i64 (z2.2.2.1-9)),z2.2.2.2.2.1,())) else none else none else none else none else none else none
  else some (.inr ((v3,v100000,())))
def vY(x:Shape.den qX):oX uT:=bH rP (2^64) x
def dX(u0:Unit)(x:aK [.str])(A:List (List Int)):Option ((List Int)×List (List Int)):=match x with
 | (v0,()) =>
  bif !(ltI (aB .i64 ((aB .i64 ((v0.size:Int).tdiv 9))+1)) 0) then bif !(ltI 1048576 (aB .i64 ((aB .i64 ((v0.size:Int).tdiv 9))+1))) then aC (vY (v0,(List.replicate 0 0),(v0.size:Int),A,())) λz3 =>
  aC (aY z3.1 (()) z3.2.1) λy4 =>
  some y4 else none else none
def F9:Code:=eA Tryz.f215
abbrev FZ:Env:=ME [] [fY]
theorem GH:aR tP FZ:=nI trivial ⟨gH,trivial⟩
def xA:Code:=gQ F9 0
def ID:Code:=gQ xA 0
def EN(id:Nat):Option cG:=bif Nat.beq id 7 then some ⟨qS,tZ,wL⟩ else bif Nat.beq id 3 then some ⟨qX,uT,vY⟩ else none
theorem YD:∀ x,iK tP FZ 44 (aN Tryz.f215) EN ID qS tZ x=rN x:=by
 rintro⟨v0,v3,v4,v5,v25,v26,v27,v100000,⟨⟩⟩
 kernel_rfl
theorem Y4:eG tP 44 ID ⟨qS,tZ,wL⟩:=eN GH.callee bC.mixed _ (aO (l:=[]) (by kernel_rfl) trivial) YD
theorem YY:∀ x,iK tP FZ 44 (aN Tryz.f215) EN xA qX uT x=rP x:=by
 rintro⟨v0,v3,v4,v100000,⟨⟩⟩
 kernel_rfl
theorem aCX:bF xA=[ID]:=by kernel_rfl
theorem aAS:eG tP 44 xA ⟨qX,uT,vY⟩:=eN GH.callee bC.mixed _ (aO aCX ⟨eL (i:=7) (by kernel_rfl) rfl Y4,trivial⟩) YY
theorem aBK:bF F9=[xA]:=by kernel_rfl
theorem aDO:∀ l x A,E0 tP FZ Tryz.f215 (aN Tryz.f215) EN F9 180 (.int .u64) .none [.str] (.own 180 (.int .u64)) l x A=dX l x A:=by
 rintro u0 ⟨v0,⟨⟩⟩ A
 kernel_rfl
theorem aGB:LX tP 215 180 (.int .u64) .none [.str] (.own 180 (.int .u64)) dX:=yP bC GH Tryz.func215 (c:=F9) (by kernel_rfl) (bV:=aN Tryz.f215) (lt:=EN) (by rfl) (aO aBK ⟨eL (i:=3) (by kernel_rfl) rfl aAS,trivial⟩) aDO
abbrev BJ:Shr:=(215,RL 0 (arH 180 (.int .u64) .none [.str] (.own 180 (.int .u64)) dX))
theorem AX:vA tP BJ:=rG (g:=215) (f:=arH 180 (.int .u64) .none [.str] (.own 180 (.int .u64)) dX) (DC aGB)
abbrev uA:List (Nat×Kd):=[(0,.list (.int .u64)),(1,.list (.int .u64)),(5,.int .i64)]
abbrev DF:List (Ex×List (Nat×Kd)):=[(.ret,[(4,.int .i64)]),(.exit 0,[])]
def nO(x:Shape.den uA):oS uA DF:=match x with
 | (v0,v1,v5,()) =>
  bif !(ltI v5 0) then
   bif aF v5 v0.length then bif aF v5 v1.length then bif ltI (v0.getD v5.toNat 0) (v1.getD v5.toNat 0) then
    some (.inr (.inl ((-1),())))
   else bif aF v5 v0.length then bif aF v5 v1.length then bif ltI (v1.getD v5.toNat 0) (v0.getD v5.toNat 0) then
    some (.inr (.inl (1,())))
   else some (.inl (v0,v1,(aB .i64 (v5-1)),())) else none else none else none else none
  else some (.inr (.inr ((()))))
def BK(x:Shape.den uA):oX DF:=bH nO (2^64) x
def sI(x:aK [.list (.int .u64),.list (.int .u64)]):oK [.int .i64]:=match x with
 | (v0,v1,()) =>
  bif !(eqI (v0.length:Int) (v1.length:Int)) then
   some ((if (if (-1)<(aB .i64 ((v0.length:Int)-(v1.length:Int))) then (aB .i64 ((v0.length:Int)-(v1.length:Int))) else (-1))<1 then (if (-1)<(aB .i64 ((v0.length:Int)-(v1.length:Int))) then (aB .i64 ((v0.length:Int)-(v1.length:Int))) else (-1)) else 1),())
  else aC (BK (v0,v1,(aB .i64 ((v0.length:Int)-1)),())) λz1 =>
  yO z1 (λa2=>some (a2.1,())) λb3 =>
  some (0,())
abbrev UU:Env:=bL []
theorem PY:aR tP UU:=aU trivial
abbrev HN:Ent:=⟨228,_,_,sI⟩
theorem Q3:Ent.OK tP HN:=oU PY Tryz.func228 4 (lp:=BK) rfl (by kernel_rfl) (by kernel_rfl) (by kernel_rfl) (by kernel_rfl) (by rintro⟨v0,v1,v5,⟨⟩⟩; kernel_rfl) (by rintro⟨v0,v1,⟨⟩⟩; kernel_rfl)
abbrev gL:List (Nat×Kd):=[(1,.list (.int .u64)),(5,.own 180 (.int .u64)),(6,.int .i64),(7,.int .u64),(8,.int .u64),(17,.list (.int .u64)),(18,.int .i64),(19,.int .i64),(24,.list (.int .u64)),(25,.int .i64),(26,.int .i64),(100000,.ar 180 (.int .u64))]
abbrev kP:List (Ex×List (Nat×Kd)):=[(.exit 2,[(1,.list (.int .u64)),(5,.own 180 (.int .u64)),(6,.int .i64),(8,.int .u64),(17,.list (.int .u64)),(18,.int .i64),(19,.int .i64),(100000,.ar 180 (.int .u64))])]
def iQ(x:Shape.den gL):oS gL kP:=match x with
 | (v1,v5,v6,v7,v8,v17,v18,v19,v24,v25,v26,v100000,()) =>
  bif ltI v26 v25 then
   bif aF v26 v24.length then bif aF (aB .i64 (v6+v26)) v5.length then bif Nat.blt ((aB .i64 (v6+v26)).toNat) v5.length then bif aF (aB .i64 (v6+v26)) v5.length then bif Nat.blt ((aB .i64 (v6+v26)).toNat) v5.length then some (.inl (v1,(v5.set ((aB .i64 (v6+v26)).toNat) ((aB .u64 (v8+(aB .u64 ((v5.getD ((aB .i64 (v6+v26)).toNat) 0)+(aB .u64 (v7*(v24.getD v26.toNat 0))))))).tmod 1000000000)),v6,v7,(aB .u64 ((aB .u64 (v8+(aB .u64 ((v5.getD ((aB .i64 (v6+v26)).toNat) 0)+(aB .u64 (v7*(v24.getD v26.toNat 0))))))).tdiv 1000000000)),v17,v18,v19,v24,v25,(aB .i64 (v26+1)),v100000,())) else none else none else none else none else none
  else some (.inr ((v1,v5,v6,v8,v17,v18,v19,v100000,())))
def mI(x:Shape.den gL):oX kP:=bH iQ (2^64) x
abbrev gK:List (Nat×Kd):=[(1,.list (.int .u64)),(5,.own 180 (.int .u64)),(17,.list (.int .u64)),(18,.int .i64),(19,.int .i64),(100000,.ar 180 (.int .u64))]
abbrev kN:List (Ex×List (Nat×Kd)):=[(.exit 0,[(5,.own 180 (.int .u64)),(100000,.ar 180 (.int .u64))])]
def iS(x:Shape.den gK):oS gK kN:=match x with
 | (v1,v5,v17,v18,v19,v100000,()) =>
  bif ltI v19 v18 then
   bif aF v19 v17.length then aC (mI (v1,v5,v19,(v17.getD v19.toNat 0),0,v17,v18,v19,v1,(v1.length:Int),0,v100000,())) λz2 =>
   bif aF (aB .i64 (z2.2.2.1+(z2.1.length:Int))) z2.2.1.length then bif Nat.blt ((aB .i64 (z2.2.2.1+(z2.1.length:Int))).toNat) z2.2.1.length then some (.inl (z2.1,(z2.2.1.set ((aB .i64 (z2.2.2.1+(z2.1.length:Int))).toNat) z2.2.2.2.1),z2.2.2.2.2.1,z2.2.2.2.2.2.1,(aB .i64 (z2.2.2.2.2.2.2.1+1)),z2.2.2.2.2.2.2.2.1,())) else none else none else none
  else some (.inr ((v5,v100000,())))
def mD(x:Shape.den gK):oX kN:=bH iS (2^64) x
def dL(u0:Unit)(x:aK [.list (.int .u64),.list (.int .u64)])(A:List (List Int)):Option ((List Int)×List (List Int)):=match x with
 | (v0,v1,()) =>
  bif !(ltI (aB .i64 ((v0.length:Int)+(v1.length:Int))) 0) then bif !(ltI (aB .i64 ((v0.length:Int)+(v1.length:Int))) (aB .i64 ((v0.length:Int)+(v1.length:Int)))) then bif !(ltI 1048576 (aB .i64 ((v0.length:Int)+(v1.length:Int)))) then aC (mD (v1,(List.replicate ((aB .i64 ((v0.length:Int)+(v1.length:Int))).toNat) 0),v0,(v0.length:Int),0,A,())) λz3 =>
  aC (aY z3.1 (()) z3.2.1) λy4 =>
  some y4 else none else none else none
def rK:Code:=eA Tryz.f220
abbrev rC:Env:=ME [] [fY]
theorem tK:aR tP rC:=nI trivial ⟨gH,trivial⟩
def lN:Code:=gQ rK 0
def uR:Code:=gQ lN 0
def pZ(id:Nat):Option cG:=bif Nat.beq id 7 then some ⟨gL,kP,mI⟩ else bif Nat.beq id 3 then some ⟨gK,kN,mD⟩ else none
theorem JV:∀ x,iK tP rC 63 (aN Tryz.f220) pZ uR gL kP x=iQ x:=by
 rintro⟨v1,v5,v6,v7,v8,v17,v18,v19,v24,v25,v26,v100000,⟨⟩⟩
 kernel_rfl
theorem L8:eG tP 63 uR ⟨gL,kP,mI⟩:=eN tK.callee bC.mixed _ (aO (l:=[]) (by kernel_rfl) trivial) JV
theorem JU:∀ x,iK tP rC 63 (aN Tryz.f220) pZ lN gK kN x=iS x:=by
 rintro⟨v1,v5,v17,v18,v19,v100000,⟨⟩⟩
 kernel_rfl
theorem ON:bF lN=[uR]:=by kernel_rfl
theorem L0:eG tP 63 lN ⟨gK,kN,mD⟩:=eN tK.callee bC.mixed _ (aO ON ⟨eL (i:=7) (by kernel_rfl) rfl L8,trivial⟩) JU
theorem MM:bF rK=[lN]:=by kernel_rfl
theorem OT:∀ l x A,E0 tP rC Tryz.f220 (aN Tryz.f220) pZ rK 180 (.int .u64) .none [.list (.int .u64),.list (.int .u64)] (.own 180 (.int .u64)) l x A=dL l x A:=by
 rintro u0 ⟨v0,v1,⟨⟩⟩ A
 kernel_rfl
theorem RQ:LX tP 220 180 (.int .u64) .none [.list (.int .u64),.list (.int .u64)] (.own 180 (.int .u64)) dL:=yP bC tK Tryz.func220 (c:=rK) (by kernel_rfl) (bV:=aN Tryz.f220) (lt:=pZ) (by rfl) (aO MM ⟨eL (i:=3) (by kernel_rfl) rfl L0,trivial⟩) OT
abbrev xT:Shr:=(220,RL 0 (arH 180 (.int .u64) .none [.list (.int .u64),.list (.int .u64)] (.own 180 (.int .u64)) dL))
theorem CP:vA tP xT:=rG (g:=220) (f:=arH 180 (.int .u64) .none [.list (.int .u64),.list (.int .u64)] (.own 180 (.int .u64)) dL) (DC RQ)
def eD(u0:Unit) (x:aK [.list (.int .u64),.int .u64]) (A:List (List Int)):Option ((List Int)×List (List Int)):=match x with
 | (v0,v1,()) =>
  aC (qM ([v1],())) λy1 =>
  aC (dL () (v0,y1.1,()) A) λy2 =>
  some y2
def vC:Code:=eA Tryz.f240
abbrev EX:Env:=ME [JM] [xT]
theorem MQ:aR tP EX:=nI ⟨T5,trivial⟩ ⟨CP,trivial⟩
def D8(id:Nat):Option cG:=none
theorem LL:bF vC=[]:=by kernel_rfl
theorem MU:∀ l x A,E0 tP EX Tryz.f240 (aN Tryz.f240) D8 vC 180 (.int .u64) .none [.list (.int .u64),.int .u64] (.own 180 (.int .u64)) l x A=eD l x A:=by
 rintro u0 ⟨v0,v1,⟨⟩⟩ A
 kernel_rfl
theorem QF:LX tP 240 180 (.int .u64) .none [.list (.int .u64),.int .u64] (.own 180 (.int .u64)) eD:=yP bC MQ Tryz.func240 (c:=vC) (by kernel_rfl) (bV:=aN Tryz.f240) (lt:=D8) (by rfl) (aO LL trivial) MU
abbrev EV:Shr:=(240,RL 0 (arH 180 (.int .u64) .none [.list (.int .u64),.int .u64] (.own 180 (.int .u64)) eD))
theorem NI:vA tP EV:=rG (g:=240) (f:=arH 180 (.int .u64) .none [.list (.int .u64),.int .u64] (.own 180 (.int .u64)) eD) (DC QF)
abbrev iF:List (Nat×Kd):=[(0,.list (.int .u64)),(1,.int .u64),(6,.own 180 (.int .u64)),(7,.int .u64),(8,.int .i64),(100000,.ar 180 (.int .u64))]
abbrev lK:List (Ex×List (Nat×Kd)):=[(.exit 0,[(6,.own 180 (.int .u64)),(7,.int .u64),(100000,.ar 180 (.int .u64))])]
def jV(x:Shape.den iF):oS iF lK:=match x with
 | (v0,v1,v6,v7,v8,v100000,()) =>
  bif !(ltI v8 0) then
   bif aF v8 v0.length then bif eqI v1 0 then none else bif aF v8 v6.length then bif Nat.blt v8.toNat v6.length then bif eqI v1 0 then none else some (.inl (v0,v1,(v6.set v8.toNat (aB .u64 ((aB .u64 ((aB .u64 (v7*1000000000))+(v0.getD v8.toNat 0))).tdiv v1))),((aB .u64 ((aB .u64 (v7*1000000000))+(v0.getD v8.toNat 0))).tmod v1),(aB .i64 (v8-1)),v100000,())) else none else none else none
  else some (.inr ((v6,v7,v100000,())))
def nF(x:Shape.den iF):oX lK:=bH jV (2^64) x
def dU(u0:Unit)(x:aK [.list (.int .u64),.int .u64])(A:List (List Int)):Option ((aK [.list (.int .u64),.int .u64])×List (List Int)):=match x with
 | (v0,v1,()) =>
  bif !(ltI (v0.length:Int) 0) then bif !(ltI (v0.length:Int) (v0.length:Int)) then bif !(ltI 1048576 (v0.length:Int)) then aC (nF (v0,v1,(List.replicate ((v0.length:Int).toNat) 0),0,(aB .i64 ((v0.length:Int)-1)),A,())) λz1 =>
  aC (aY z1.1 (()) z1.2.2.1) λy2 =>
  some ((y2.1,z1.2.1,()),y2.2) else none else none else none
def sH:Code:=eA Tryz.f229
abbrev zG:Env:=ME [] [fY]
theorem DB:aR tP zG:=nI trivial ⟨gH,trivial⟩
def vD:Code:=gQ sH 0
def xG(id:Nat):Option cG:=bif Nat.beq id 4 then some ⟨iF,lK,nF⟩ else none
theorem LZ:∀ x,iK tP zG 38 (aN Tryz.f229) xG vD iF lK x=jV x:=by
 rintro⟨v0,v1,v6,v7,v8,v100000,⟨⟩⟩
 kernel_rfl
theorem NH:eG tP 38 vD ⟨iF,lK,nF⟩:=eN DB.callee bC.mixed _ (aO (l:=[]) (by kernel_rfl) trivial) LZ
theorem OX:bF sH=[vD]:=by kernel_rfl
theorem QL:∀ l x A,E0 tP zG Tryz.f229 (aN Tryz.f229) xG sH 180 (.int .u64) .none [.list (.int .u64),.int .u64] (.data [.list (.int .u64),.int .u64]) l x A=dU l x A:=by
 rintro u0 ⟨v0,v1,⟨⟩⟩ A
 kernel_rfl
theorem S4:LX tP 229 180 (.int .u64) .none [.list (.int .u64),.int .u64] (.data [.list (.int .u64),.int .u64]) dU:=yP bC DB Tryz.func229 (c:=sH) (by kernel_rfl) (bV:=aN Tryz.f229) (lt:=xG) (by rfl) (aO OX ⟨eL (i:=4) (by kernel_rfl) rfl NH,trivial⟩) QL
abbrev yJ:Shr:=(229,RL 0 (arH 180 (.int .u64) .none [.list (.int .u64),.int .u64] (.data [.list (.int .u64),.int .u64]) dU))
theorem DM:vA tP yJ:=rG (g:=229) (f:=arH 180 (.int .u64) .none [.list (.int .u64),.int .u64] (.data [.list (.int .u64),.int .u64]) dU) (DC S4)
abbrev fK:List (Nat×Kd):=[(0,.hnd 1),(1,.list (.int .u64)),(2,.int .u64),(3,.int .i64),(9,.int .i64),(10,.int .u64),(11,.int .i64),(100000,.ar 180 (.int .u64))]
abbrev jD:List (Ex×List (Nat×Kd)):=[(.exit 0,[(9,.int .i64),(100000,.ar 180 (.int .u64))])]
def eO(x:Shape.den fK):oS fK jD:=match x with
 | (v0,v1,v2,v3,v9,v10,v11,v100000,()) =>
  bif !(ltI (v1.length:Int) v11) then
   bif ltI v11 (v1.length:Int) then
    bif aF v11 v1.length then bif aF (aB .i64 (v3+v11)) v0.2.2 then bif Nat.blt ((v0.2.1+(aB .i64 (v3+v11)).toNat)*1) (cS v100000 v0.1) then bif ltI (aB .i64 ((aB .i64 ((IntKind.wrap .i64 (dH v100000 v0.1 ((v0.2.1+(aB .i64 (v3+v11)).toNat)*1) 0))-(IntKind.wrap .i64 ((aB .u64 (v10+(aB .u64 (v2*(v1.getD v11.toNat 0))))).tmod 1000000000))))-v9)) 0 then
     bif aF (aB .i64 (v3+v11)) v0.2.2 then bif Nat.blt ((v0.2.1+(aB .i64 (v3+v11)).toNat)*1) (cS v100000 v0.1) then some (.inl ((v0.1,v0.2.1,v0.2.2),v1,v2,v3,1,(aB .u64 ((aB .u64 (v10+(aB .u64 (v2*(v1.getD v11.toNat 0))))).tdiv 1000000000)),(aB .i64 (v11+1)),(vH v100000 v0.1 ((v0.2.1+(aB .i64 (v3+v11)).toNat)*1) (IntKind.wrap .u64 (aB .i64 ((aB .i64 ((aB .i64 ((IntKind.wrap .i64 (dH v100000 v0.1 ((v0.2.1+(aB .i64 (v3+v11)).toNat)*1) 0))-(IntKind.wrap .i64 ((aB .u64 (v10+(aB .u64 (v2*(v1.getD v11.toNat 0))))).tmod 1000000000))))-v9))+1000000000)))),())) else none else none
    else bif aF (aB .i64 (v3+v11)) v0.2.2 then bif Nat.blt ((v0.2.1+(aB .i64 (v3+v11)).toNat)*1) (cS v100000 v0.1) then some (.inl ((v0.1,v0.2.1,v0.2.2),v1,v2,v3,0,(aB .u64 ((aB .u64 (v10+(aB .u64 (v2*(v1.getD v11.toNat 0))))).tdiv 1000000000)),(aB .i64 (v11+1)),(vH v100000 v0.1 ((v0.2.1+(aB .i64 (v3+v11)).toNat)*1) (IntKind.wrap .u64 (aB .i64 ((aB .i64 ((IntKind.wrap .i64 (dH v100000 v0.1 ((v0.2.1+(aB .i64 (v3+v11)).toNat)*1) 0))-(IntKind.wrap .i64 ((aB .u64 (v10+(aB .u64 (v2*(v1.getD v11.toNat 0))))).tmod 1000000000))))-v9)))),())) else none else none else none else none else none
   else bif aF (aB .i64 (v3+v11)) v0.2.2 then bif Nat.blt ((v0.2.1+(aB .i64 (v3+v11)).toNat)*1) (cS v100000 v0.1) then bif ltI (aB .i64 ((aB .i64 ((IntKind.wrap .i64 (dH v100000 v0.1 ((v0.2.1+(aB .i64 (v3+v11)).toNat)*1) 0))-(IntKind.wrap .i64 (v10.tmod 1000000000))))-v9)) 0 then
    bif aF (aB .i64 (v3+v11)) v0.2.2 then bif Nat.blt ((v0.2.1+(aB .i64 (v3+v11)).toNat)*1) (cS v100000 v0.1) then some (.inl ((v0.1,v0.2.1,v0.2.2),v1,v2,v3,1,(aB .u64 (v10.tdiv 1000000000)),(aB .i64 (v11+1)),(vH v100000 v0.1 ((v0.2.1+(aB .i64 (v3+v11)).toNat)*1) (IntKind.wrap .u64 (aB .i64 ((aB .i64 ((aB .i64 ((IntKind.wrap .i64 (dH v100000 v0.1 ((v0.2.1+(aB .i64 (v3+v11)).toNat)*1) 0))-(IntKind.wrap .i64 (v10.tmod 1000000000))))-v9))+1000000000)))),())) else none else none
   else bif aF (aB .i64 (v3+v11)) v0.2.2 then bif Nat.blt ((v0.2.1+(aB .i64 (v3+v11)).toNat)*1) (cS v100000 v0.1) then some (.inl ((v0.1,v0.2.1,v0.2.2),v1,v2,v3,0,(aB .u64 (v10.tdiv 1000000000)),(aB .i64 (v11+1)),(vH v100000 v0.1 ((v0.2.1+(aB .i64 (v3+v11)).toNat)*1) (IntKind.wrap .u64 (aB .i64 ((aB .i64 ((IntKind.wrap .i64 (dH v100000 v0.1 ((v0.2.1+(aB .i64 (v3+v11)).toNat)*1) 0))-(IntKind.wrap .i64 (v10.tmod 1000000000))))-v9)))),())) else none else none else none else none
  else some (.inr ((v9,v100000,())))
def oY(x:Shape.den fK):oX jD:=bH eO (2^64) x
def dI(u0:Unit)(x:aK [.hnd 1,.list (.int .u64),.int .u64,.int .i64])(A:List (List Int)):Option ((aK [.bool])×List (List Int)):=match x with
 | (v0,v1,v2,v3,()) =>
  aC (oY ((v0.1,v0.2.1,v0.2.2),v1,v2,v3,0,0,0,A,())) λz1 =>
  some ((ltI 0 z1.1,()),z1.2.1)
def tI:Code:=eA Tryz.f219
abbrev A0:Env:=bL []
theorem EU:aR tP A0:=aU trivial
def xP:Code:=gQ tI 0
def yN(id:Nat):Option cG:=bif Nat.beq id 4 then some ⟨fK,jD,oY⟩ else none
theorem MW:∀ x,iK tP A0 59 (aN Tryz.f219) yN xP fK jD x=eO x:=by
 rintro⟨v0,v1,v2,v3,v9,v10,v11,v100000,⟨⟩⟩
 kernel_rfl
theorem OA:eG tP 59 xP ⟨fK,jD,oY⟩:=eN EU.callee bC.mixed _ (aO (l:=[]) (by kernel_rfl) trivial) MW
theorem QB:bF tI=[xP]:=by kernel_rfl
theorem R3:∀ l x A,E0 tP A0 Tryz.f219 (aN Tryz.f219) yN tI 180 (.int .u64) .none [.hnd 1,.list (.int .u64),.int .u64,.int .i64] (.data [.bool]) l x A=dI l x A:=by
 rintro u0 ⟨v0,v1,v2,v3,⟨⟩⟩ A
 kernel_rfl
theorem U0:LX tP 219 180 (.int .u64) .none [.hnd 1,.list (.int .u64),.int .u64,.int .i64] (.data [.bool]) dI:=yP bC EU Tryz.func219 (c:=tI) (by kernel_rfl) (bV:=aN Tryz.f219) (lt:=yN) (by rfl) (aO QB ⟨eL (i:=4) (by kernel_rfl) rfl OA,trivial⟩) R3
theorem T3:aU8 tP 219 180 (.int .u64) [.list (.int .u64),.int .u64,.int .i64] [.bool] (ZF dI):=aLU U0 (by rfl) (by rfl) (by rfl)
abbrev zK:Shr:=(219,RL 1 (aW3 180 (.int .u64) [.list (.int .u64),.int .u64,.int .i64] [.bool] (ZF dI)))
theorem DG:vA tP zK:=rG (aZZ T3)
abbrev jC:List (Nat×Kd):=[(0,.hnd 1),(1,.list (.int .u64)),(2,.int .i64),(6,.int .u64),(7,.int .i64),(100000,.ar 180 (.int .u64))]
abbrev l6:List (Ex×List (Nat×Kd)):=[(.exit 0,[(100000,.ar 180 (.int .u64))])]
def eK(x:Shape.den jC):oS jC l6:=match x with
 | (v0,v1,v2,v6,v7,v100000,()) =>
  bif !(ltI (v1.length:Int) v7) then
   bif aF (aB .i64 (v2+v7)) v0.2.2 then bif Nat.blt ((v0.2.1+(aB .i64 (v2+v7)).toNat)*1) (cS v100000 v0.1) then bif ltI v7 (v1.length:Int) then
    bif aF v7 v1.length then bif aF (aB .i64 (v2+v7)) v0.2.2 then bif Nat.blt ((v0.2.1+(aB .i64 (v2+v7)).toNat)*1) (cS v100000 v0.1) then some (.inl ((v0.1,v0.2.1,v0.2.2),v1,v2,(aB .u64 ((aB .u64 ((aB .u64 (v6+(dH v100000 v0.1 ((v0.2.1+(aB .i64 (v2+v7)).toNat)*1) 0)))+(v1.getD v7.toNat 0))).tdiv 1000000000)),(aB .i64 (v7+1)),(vH v100000 v0.1 ((v0.2.1+(aB .i64 (v2+v7)).toNat)*1) ((aB .u64 ((aB .u64 (v6+(dH v100000 v0.1 ((v0.2.1+(aB .i64 (v2+v7)).toNat)*1) 0)))+(v1.getD v7.toNat 0))).tmod 1000000000)),())) else none else none else none
   else bif aF (aB .i64 (v2+v7)) v0.2.2 then bif Nat.blt ((v0.2.1+(aB .i64 (v2+v7)).toNat)*1) (cS v100000 v0.1) then some (.inl ((v0.1,v0.2.1,v0.2.2),v1,v2,(aB .u64 ((aB .u64 (v6+(dH v100000 v0.1 ((v0.2.1+(aB .i64 (v2+v7)).toNat)*1) 0))).tdiv 1000000000)),(aB .i64 (v7+1)),(vH v100000 v0.1 ((v0.2.1+(aB .i64 (v2+v7)).toNat)*1) ((aB .u64 (v6+(dH v100000 v0.1 ((v0.2.1+(aB .i64 (v2+v7)).toNat)*1) 0))).tmod 1000000000)),())) else none else none else none else none
  else some (.inr ((v100000,())))
def oW(x:Shape.den jC):oX l6:=bH eK (2^64) x
def cJ(u0:Unit)(x:aK [.hnd 1,.list (.int .u64),.int .i64])(A:List (List Int)):Option ((aK [])×List (List Int)):=match x with
 | (v0,v1,v2,()) =>
  aC (oW ((v0.1,v0.2.1,v0.2.2),v1,v2,0,0,A,())) λz1 =>
  some ((()),z1.1)
def tB:Code:=eA Tryz.f216
abbrev AL:Env:=bL []
theorem EY:aR tP AL:=aU trivial
def xM:Code:=gQ tB 0
def yW(id:Nat):Option cG:=bif Nat.beq id 2 then some ⟨jC,l6,oW⟩ else none
theorem MR:∀ x,iK tP AL 41 (aN Tryz.f216) yW xM jC l6 x=eK x:=by
 rintro⟨v0,v1,v2,v6,v7,v100000,⟨⟩⟩
 kernel_rfl
theorem OE:eG tP 41 xM ⟨jC,l6,oW⟩:=eN EY.callee bC.mixed _ (aO (l:=[]) (by kernel_rfl) trivial) MR
theorem QY:bF tB=[xM]:=by kernel_rfl
theorem R1:∀ l x A,E0 tP AL Tryz.f216 (aN Tryz.f216) yW tB 180 (.int .u64) .none [.hnd 1,.list (.int .u64),.int .i64] (.data []) l x A=cJ l x A:=by
 rintro u0 ⟨v0,v1,v2,⟨⟩⟩ A
 kernel_rfl
theorem VB:LX tP 216 180 (.int .u64) .none [.hnd 1,.list (.int .u64),.int .i64] (.data []) cJ:=yP bC EY Tryz.func216 (c:=tB) (by kernel_rfl) (bV:=aN Tryz.f216) (lt:=yW) (by rfl) (aO QY ⟨eL (i:=2) (by kernel_rfl) rfl OE,trivial⟩) R1
theorem S6:aT0 tP 216 180 (.int .u64) [.list (.int .u64),.int .i64] (TM cJ):=aGJ VB (by rfl) (by rfl)
abbrev yK:Shr:=(216,RL 1 (aYU 180 (.int .u64) [.list (.int .u64),.int .i64] (TM cJ)))
theorem DN:vA tP yK:=rG (aRP S6)
abbrev lA:List (Nat×Kd):=[(0,.list (.int .u64)),(3,.own 5 (.int .u8)),(4,.int .i64),(5,.int .u64),(6,.int .i64),(14,.list (.int .u64)),(15,.int .i64),(16,.int .i64)]
abbrev oQ:List (Ex×List (Nat×Kd)):=[(.exit 2,[(0,.list (.int .u64)),(3,.own 5 (.int .u8)),(14,.list (.int .u64)),(15,.int .i64),(16,.int .i64)])]
def eC(x:Shape.den lA):oS lA oQ:=match x with
 | (v0,v3,v4,v5,v6,v14,v15,v16,()) =>
  bif ltI v6 9 then
   bif ltI (aB .i64 (v4+1)) (v0.length:Int) then
    bif Nat.ble [(IntKind.wrap .u8 (aB .u64 (48+(v5.tmod 10))))].length 1048576 then bif Nat.ble v3.length 1048576 then some (.inl (v0,(v3++[(IntKind.wrap .u8 (aB .u64 (48+(v5.tmod 10))))]),v4,(aB .u64 (v5.tdiv 10)),(aB .i64 (v6+1)),v14,v15,v16,())) else none else none
   else bif ltI 0 v5 then
    bif Nat.ble [(IntKind.wrap .u8 (aB .u64 (48+(v5.tmod 10))))].length 1048576 then bif Nat.ble v3.length 1048576 then some (.inl (v0,(v3++[(IntKind.wrap .u8 (aB .u64 (48+(v5.tmod 10))))]),v4,(aB .u64 (v5.tdiv 10)),(aB .i64 (v6+1)),v14,v15,v16,())) else none else none
   else some (.inr ((v0,v3,v14,v15,v16,())))
  else some (.inr ((v0,v3,v14,v15,v16,())))
def l5(x:Shape.den lA):oX oQ:=bH eC (2^64) x
abbrev k9:List (Nat×Kd):=[(0,.list (.int .u64)),(3,.own 5 (.int .u8)),(14,.list (.int .u64)),(15,.int .i64),(16,.int .i64)]
abbrev oG:List (Ex×List (Nat×Kd)):=[(.exit 0,[(3,.own 5 (.int .u8))])]
def iZ(x:Shape.den k9):oS k9 oG:=match x with
 | (v0,v3,v14,v15,v16,()) =>
  bif ltI v16 v15 then
   bif aF v16 v14.length then aC (l5 (v0,v3,v16,(v14.getD v16.toNat 0),0,v14,v15,v16,())) λz2 =>
   some (.inl (z2.1,z2.2.1,z2.2.2.1,z2.2.2.2.1,(aB .i64 (z2.2.2.2.2.1+1)),())) else none
  else some (.inr ((v3,())))
def mB(x:Shape.den k9):oX oG:=bH iZ (2^64) x
def bP(x:aK [.list (.int .u64)]):oK [.str]:=match x with
 | (v0,()) =>
  bif eqI (v0.length:Int) 0 then
   some ((ByteArray.mk #[48]),())
  else bif !(ltI (aB .i64 (9*(v0.length:Int))) 0) then bif !(ltI 1048576 (aB .i64 (9*(v0.length:Int)))) then aC (mB (v0,(List.replicate 0 0),v0,(v0.length:Int),0,())) λz3 =>
  aC (TM (t:=(.int .u8)) dG z3.1 (())) λy4 =>
  some ((aKI y4),()) else none else none
def LA:Code:=eA Tryz.f218
abbrev DJ:Env:=ME [] [BH]
theorem zH:aR tP DJ:=nI trivial ⟨I7,trivial⟩
def pJ:Code:=gQ LA 0
def A5:Code:=gQ pJ 0
def CF(id:Nat):Option cG:=bif Nat.beq id 8 then some ⟨lA,oQ,l5⟩ else bif Nat.beq id 5 then some ⟨k9,oG,mB⟩ else none
theorem PL:∀ x,iK tP DJ 50 (aN Tryz.f218) CF A5 lA oQ x=eC x:=by
 rintro⟨v0,v3,v4,v5,v6,v14,v15,v16,⟨⟩⟩
 kernel_rfl
theorem RM:eG tP 50 A5 ⟨lA,oQ,l5⟩:=eN zH.callee bC.mixed _ (aO (l:=[]) (by kernel_rfl) trivial) PL
theorem PQ:∀ x,iK tP DJ 50 (aN Tryz.f218) CF pJ k9 oG x=iZ x:=by
 rintro⟨v0,v3,v14,v15,v16,⟨⟩⟩
 kernel_rfl
theorem UM:bF pJ=[A5]:=by kernel_rfl
theorem R5:eG tP 50 pJ ⟨k9,oG,mB⟩:=eN zH.callee bC.mixed _ (aO UM ⟨eL (i:=8) (by kernel_rfl) rfl RM,trivial⟩) PQ
abbrev rX:Ent:=⟨218,_,_,bP⟩
theorem sE:Ent.OK tP rX:=aC9 bC zH Tryz.func218 (c:=LA) (by kernel_rfl) (bV:=aN Tryz.f218) (lt:=CF) (aO (l:=[pJ]) (by kernel_rfl) ⟨eL (i:=5) (by kernel_rfl) rfl R5,trivial⟩) (by rintro⟨v0,⟨⟩⟩; kernel_rfl)
abbrev gJ:List (Nat×Kd):=[(0,.list (.int .u64)),(6,.int .u64),(7,.own 180 (.int .u64)),(8,.list (.int .u64)),(9,.int .i64),(100000,.ar 180 (.int .u64))]
abbrev kR:List (Ex×List (Nat×Kd)):=[(.exit 0,[(6,.int .u64),(7,.own 180 (.int .u64)),(8,.list (.int .u64)),(9,.int .i64),(100000,.ar 180 (.int .u64))])]
def mE(x:Shape.den gJ):oS gJ kR:=match x with
 | (v0,v6,v7,v8,v9,v100000,()) =>
  bif !(ltI (v0.length:Int) (v7.length:Int)) then
   bif Nat.ble [0].length 1048576 then bif Nat.ble v7.length 1048576 then some (.inl (v0,v6,(v7++[0]),v8,v9,v100000,())) else none else none
  else some (.inr ((v6,v7,v8,v9,v100000,())))
def mG(x:Shape.den gJ):oX kR:=bH mE (2^64) x
abbrev gD:List (Nat×Kd):=[(6,.int .u64),(7,.own 180 (.int .u64)),(8,.list (.int .u64)),(9,.int .i64),(10,.own 180 (.int .u64)),(11,.int .i64),(13,.int .u64),(14,.int .u64),(100000,.ar 180 (.int .u64))]
abbrev kT:List (Ex×List (Nat×Kd)):=[(.exit 4,[(6,.int .u64),(7,.own 180 (.int .u64)),(8,.list (.int .u64)),(9,.int .i64),(10,.own 180 (.int .u64)),(11,.int .i64),(13,.int .u64),(100000,.ar 180 (.int .u64))])]
def iV(x:Shape.den gD):oS gD kT:=match x with
 | (v6,v7,v8,v9,v10,v11,v13,v14,v100000,()) =>
  bif !(ltI v13 1000000000) then
   bif aF (aB .i64 (v9-1)) v8.length then some (.inl (v6,v7,v8,v9,v10,v11,(aB .u64 (v13-1)),(aB .u64 (v14+(v8.getD ((aB .i64 (v9-1)).toNat) 0))),v100000,())) else none
  else bif ltI v14 1000000000 then
   bif aF (aB .i64 (v9-2)) v8.length then bif aF (aB .i64 ((aB .i64 (v11+v9))-2)) v7.length then bif Nat.blt ((aB .i64 ((aB .i64 (v11+v9))-2)).toNat) v7.length then bif ltI (aB .u64 ((aB .u64 (v14*1000000000))+(v7.getD ((aB .i64 ((aB .i64 (v11+v9))-2)).toNat) 0))) (aB .u64 (v13*(v8.getD ((aB .i64 (v9-2)).toNat) 0))) then
    bif aF (aB .i64 (v9-1)) v8.length then some (.inl (v6,v7,v8,v9,v10,v11,(aB .u64 (v13-1)),(aB .u64 (v14+(v8.getD ((aB .i64 (v9-1)).toNat) 0))),v100000,())) else none
   else some (.inr ((v6,v7,v8,v9,v10,v11,v13,v100000,()))) else none else none else none
  else some (.inr ((v6,v7,v8,v9,v10,v11,v13,v100000,())))
def mL(x:Shape.den gD):oX kT:=bH iV (2^64) x
abbrev gG:List (Nat×Kd):=[(6,.int .u64),(7,.own 180 (.int .u64)),(8,.list (.int .u64)),(9,.int .i64),(10,.own 180 (.int .u64)),(11,.int .i64),(100000,.ar 180 (.int .u64))]
abbrev kI:List (Ex×List (Nat×Kd)):=[(.exit 2,[(6,.int .u64),(7,.own 180 (.int .u64)),(10,.own 180 (.int .u64)),(100000,.ar 180 (.int .u64))])]
def dP(x:Shape.den gG):oS gG kI:=match x with
 | (v6,v7,v8,v9,v10,v11,v100000,()) =>
  bif !(ltI v11 0) then
   bif aF (aB .i64 (v11+v9)) v7.length then bif Nat.blt ((aB .i64 (v11+v9)).toNat) v7.length then bif aF (aB .i64 ((aB .i64 (v11+v9))-1)) v7.length then bif Nat.blt ((aB .i64 ((aB .i64 (v11+v9))-1)).toNat) v7.length then bif aF (aB .i64 (v9-1)) v8.length then bif eqI (v8.getD ((aB .i64 (v9-1)).toNat) 0) 0 then none else bif aF (aB .i64 (v9-1)) v8.length then bif eqI (v8.getD ((aB .i64 (v9-1)).toNat) 0) 0 then none else aC (mL (v6,v7,v8,v9,v10,v11,(aB .u64 ((aB .u64 ((aB .u64 ((v7.getD ((aB .i64 (v11+v9)).toNat) 0)*1000000000))+(v7.getD ((aB .i64 ((aB .i64 (v11+v9))-1)).toNat) 0))).tdiv (v8.getD ((aB .i64 (v9-1)).toNat) 0))),((aB .u64 ((aB .u64 ((v7.getD ((aB .i64 (v11+v9)).toNat) 0)*1000000000))+(v7.getD ((aB .i64 ((aB .i64 (v11+v9))-1)).toNat) 0))).tmod (v8.getD ((aB .i64 (v9-1)).toNat) 0)),v100000,())) λz7 =>
   aC (ZF (t:=(.int .u64)) (rets:=[.bool]) dI z7.2.1 (z7.2.2.1,z7.2.2.2.2.2.2.1,z7.2.2.2.2.2.1,())) λy8 =>
   bif y8.1.1 then
    aC (TM (t:=(.int .u64)) cJ y8.2 (z7.2.2.1,z7.2.2.2.2.2.1,())) λy9 =>
    bif aF z7.2.2.2.2.2.1 z7.2.2.2.2.1.length then bif Nat.blt z7.2.2.2.2.2.1.toNat z7.2.2.2.2.1.length then some (.inl (z7.1,y9,z7.2.2.1,z7.2.2.2.1,(z7.2.2.2.2.1.set z7.2.2.2.2.2.1.toNat (aB .u64 (z7.2.2.2.2.2.2.1-1))),(aB .i64 (z7.2.2.2.2.2.1-1)),z7.2.2.2.2.2.2.2.1,())) else none else none
   else bif aF z7.2.2.2.2.2.1 z7.2.2.2.2.1.length then bif Nat.blt z7.2.2.2.2.2.1.toNat z7.2.2.2.2.1.length then some (.inl (z7.1,y8.2,z7.2.2.1,z7.2.2.2.1,(z7.2.2.2.2.1.set z7.2.2.2.2.2.1.toNat z7.2.2.2.2.2.2.1),(aB .i64 (z7.2.2.2.2.2.1-1)),z7.2.2.2.2.2.2.2.1,())) else none else none else none else none else none else none else none else none
  else some (.inr ((v6,v7,v10,v100000,())))
def mF(x:Shape.den gG):oX kI:=bH dP (2^64) x
def eU(u0:Unit)(x:aK [.list (.int .u64),.list (.int .u64)])(A:List (List Int)):Option ((aK [.list (.int .u64),.list (.int .u64)])×List (List Int)):=match x with
 | (v0,v1,()) =>
  bif aF (aB .i64 ((v1.length:Int)-1)) v1.length then bif eqI (aB .u64 ((v1.getD ((aB .i64 ((v1.length:Int)-1)).toNat) 0)+1)) 0 then none else aC (eD () (v0,(aB .u64 ((1000000000:Int).tdiv (aB .u64 ((v1.getD ((aB .i64 ((v1.length:Int)-1)).toNat) 0)+1)))),()) A) λy1 =>
  bif Nat.ble [0].length 1048576 then bif Nat.ble y1.1.length 1048576 then aC (eD () (v1,(aB .u64 ((1000000000:Int).tdiv (aB .u64 ((v1.getD ((aB .i64 ((v1.length:Int)-1)).toNat) 0)+1)))),()) y1.2) λy2 =>
  aC (mG (v0,(aB .u64 ((1000000000:Int).tdiv (aB .u64 ((v1.getD ((aB .i64 ((v1.length:Int)-1)).toNat) 0)+1)))),(y1.1++[0]),y2.1,(y2.1.length:Int),y2.2,())) λz3 =>
  bif !(ltI (aB .i64 ((z3.2.1.length:Int)-z3.2.2.2.1)) 0) then bif !(ltI (aB .i64 ((z3.2.1.length:Int)-z3.2.2.2.1)) (aB .i64 ((z3.2.1.length:Int)-z3.2.2.2.1))) then bif !(ltI 1048576 (aB .i64 ((z3.2.1.length:Int)-z3.2.2.2.1))) then aC (mF (z3.1,z3.2.1,z3.2.2.1,z3.2.2.2.1,(List.replicate ((aB .i64 ((z3.2.1.length:Int)-z3.2.2.2.1)).toNat) 0),(aB .i64 ((aB .i64 ((z3.2.1.length:Int)-z3.2.2.2.1))-1)),z3.2.2.2.2.1,())) λz10 =>
  aC (aY z10.2.1 (()) z10.2.2.2.1) λy11 =>
  aC (dU () (y11.1,z10.1,()) y11.2) λy12 =>
  aC (aY z10.2.2.1 (()) y12.2) λy13 =>
  some ((y13.1,y12.1.1,()),y13.2) else none else none else none else none else none else none
def nA:Code:=eA Tryz.f230
abbrev mW:Env:=ME [] [yK,EV,yJ,zK,fY]
theorem oZ:aR tP mW:=nI trivial ⟨DN,NI,DM,DG,gH,trivial⟩
def tY:Code:=gQ nA 0
def lE:Code:=gQ nA 1
def uN:Code:=gQ lE 0
def mC(id:Nat):Option cG:=bif Nat.beq id 4 then some ⟨gJ,kR,mG⟩ else bif Nat.beq id 12 then some ⟨gD,kT,mL⟩ else bif Nat.beq id 8 then some ⟨gG,kI,mF⟩ else none
theorem J4:∀ x,iK tP mW 146 (aN Tryz.f230) mC tY gJ kR x=mE x:=by
 rintro⟨v0,v6,v7,v8,v9,v100000,⟨⟩⟩
 kernel_rfl
theorem LQ:eG tP 146 tY ⟨gJ,kR,mG⟩:=eN oZ.callee bC.mixed _ (aO (l:=[]) (by kernel_rfl) trivial) J4
theorem J8:∀ x,iK tP mW 146 (aN Tryz.f230) mC uN gD kT x=iV x:=by
 rintro⟨v6,v7,v8,v9,v10,v11,v13,v14,v100000,⟨⟩⟩
 kernel_rfl
theorem L2:eG tP 146 uN ⟨gD,kT,mL⟩:=eN oZ.callee bC.mixed _ (aO (l:=[]) (by kernel_rfl) trivial) J8
theorem JP:∀ x,iK tP mW 146 (aN Tryz.f230) mC lE gG kI x=dP x:=by
 rintro⟨v6,v7,v8,v9,v10,v11,v100000,⟨⟩⟩
 kernel_rfl
theorem N8:bF lE=[uN]:=by kernel_rfl
theorem LW:eG tP 146 lE ⟨gG,kI,mF⟩:=eN oZ.callee bC.mixed _ (aO N8 ⟨eL (i:=12) (by kernel_rfl) rfl L2,trivial⟩) JP
theorem M8:bF nA=[tY,lE]:=by kernel_rfl
theorem OU:∀ l x A,E0 tP mW Tryz.f230 (aN Tryz.f230) mC nA 180 (.int .u64) .none [.list (.int .u64),.list (.int .u64)] (.data [.list (.int .u64),.list (.int .u64)]) l x A=eU l x A:=by
 rintro u0 ⟨v0,v1,⟨⟩⟩ A
 kernel_rfl
theorem R8:LX tP 230 180 (.int .u64) .none [.list (.int .u64),.list (.int .u64)] (.data [.list (.int .u64),.list (.int .u64)]) eU:=yP bC oZ Tryz.func230 (c:=nA) (by kernel_rfl) (bV:=aN Tryz.f230) (lt:=mC) (by rfl) (aO M8 ⟨eL (i:=4) (by kernel_rfl) rfl LQ,eL (i:=8) (by kernel_rfl) rfl LW,trivial⟩) OU
abbrev FV:Shr:=(230,RL 0 (arH 180 (.int .u64) .none [.list (.int .u64),.list (.int .u64)] (.data [.list (.int .u64),.list (.int .u64)]) eU))
theorem O2:vA tP FV:=rG (g:=230) (f:=arH 180 (.int .u64) .none [.list (.int .u64),.list (.int .u64)] (.data [.list (.int .u64),.list (.int .u64)]) eU) (DC R8)
def fD(x:aK [.str,.str]):oK [.str]:=match x with
 | (v0,v1,()) =>
  aC (rE (v0,v1,())) λy1 =>
  bif y1.2.2.1 then
   aC (tT ((aB .u64 (y1.1+y1.2.1)),())) λy2 =>
   some (y2.1,())
  else aC (dX () (v0,()) []) λy3 =>
  aC (dX () (v1,()) y3.2) λy4 =>
  bif ltI (y3.1.length:Int) (y4.1.length:Int) then
   bif Nat.ble [0].length 1048576 then bif Nat.ble y4.1.length 1048576 then bif !(ltI (aB .i64 ((aB .i64 (((y4.1++[0]).length:Int)-1))-(y3.1.length:Int))) 0) then bif !(ltI 1048576 (aB .i64 ((aB .i64 (((y4.1++[0]).length:Int)-1))-(y3.1.length:Int)))) then bif Nat.ble y3.1.length 1048576 then aC (TM (t:=(.int .u64)) cJ (y4.1++[0]) ((y3.1++List.replicate (aB .i64 ((aB .i64 (((y4.1++[0]).length:Int)-1))-(y3.1.length:Int))).toNat (0:Ty.den (.int .u64))),0,())) λy5 =>
   aC (aY y5 (()) y4.2) λy6 =>
   aC (bP (y6.1,())) λy7 =>
   some (y7.1,()) else none else none else none else none else none
  else bif Nat.ble [0].length 1048576 then bif Nat.ble y3.1.length 1048576 then bif !(ltI (aB .i64 ((aB .i64 (((y3.1++[0]).length:Int)-1))-(y4.1.length:Int))) 0) then bif !(ltI 1048576 (aB .i64 ((aB .i64 (((y3.1++[0]).length:Int)-1))-(y4.1.length:Int)))) then bif Nat.ble y4.1.length 1048576 then aC (TM (t:=(.int .u64)) cJ (y3.1++[0]) ((y4.1++List.replicate (aB .i64 ((aB .i64 (((y3.1++[0]).length:Int)-1))-(y4.1.length:Int))).toNat (0:Ty.den (.int .u64))),0,())) λy8 =>
  aC (aY y8 (()) y4.2) λy9 =>
  aC (bP (y9.1,())) λy10 =>
  some (y10.1,()) else none else none else none else none else none
def V8:Code:=eA Tryz.f181
abbrev aEF:Env:=ME [LJ,FL,rX] [BJ,yK,fY]
theorem aIR:aR tP aEF:=nI ⟨I2,ER,sE,trivial⟩ ⟨AX,DN,gH,trivial⟩
def aCE(id:Nat):Option cG:=none
theorem aF7:bF V8=[]:=by kernel_rfl
theorem aIM:∀ x,aCF tP aEF Tryz.f181 (aN Tryz.f181) aCE V8 180 (.int .u64) _ _ x=fD x:=by
 rintro⟨v0,v1,⟨⟩⟩
 kernel_rfl
abbrev W6:Ent:=⟨181,_,_,fD⟩
theorem X1:Ent.OK tP W6:=aH6 bC aIR Tryz.func181 (c:=V8) (by kernel_rfl) (bV:=aN Tryz.f181) (lt:=aCE) (aO aF7 trivial) aIM
def cQ(x:aK [.str,.str]):oK [.str,.int .i64]:=match x with
 | (v0,v1,()) =>
  aC (fN (v0,v1,())) λy1 =>
  bif ltI y1.1 0 then
   some ((ByteArray.mk #[]),3,())
  else aC (rE (v0,v1,())) λy2 =>
  bif y2.2.2.1 then
   aC (tT ((aB .u64 (y2.1-y2.2.1)),())) λy3 =>
   some (y3.1,0,())
  else aC (dX () (v0,()) []) λy4 =>
  bif Nat.ble [0].length 1048576 then bif Nat.ble y4.1.length 1048576 then aC (dX () (v1,()) y4.2) λy5 =>
  aC (dX () (v1,()) y5.2) λy6 =>
  bif !(ltI (aB .i64 ((aB .i64 (((y4.1++[0]).length:Int)-1))-(y6.1.length:Int))) 0) then bif !(ltI 1048576 (aB .i64 ((aB .i64 (((y4.1++[0]).length:Int)-1))-(y6.1.length:Int)))) then bif Nat.ble y5.1.length 1048576 then aC (ZF (t:=(.int .u64)) (rets:=[.bool]) dI (y4.1++[0]) ((y5.1++List.replicate (aB .i64 ((aB .i64 (((y4.1++[0]).length:Int)-1))-(y6.1.length:Int))).toNat (0:Ty.den (.int .u64))),1,0,())) λy7 =>
  aC (aY y7.2 (()) y6.2) λy8 =>
  aC (bP (y8.1,())) λy9 =>
  some (y9.1,0,()) else none else none else none else none else none
def XC:Code:=eA Tryz.f183
abbrev aEV:Env:=ME [ES,LJ,FL,rX] [BJ,zK,fY]
theorem aI7:aR tP aEV:=nI ⟨E8,I2,ER,sE,trivial⟩ ⟨AX,DG,gH,trivial⟩
def aB6(id:Nat):Option cG:=none
theorem aHB:bF XC=[]:=by kernel_rfl
theorem aIX:∀ x,aCF tP aEV Tryz.f183 (aN Tryz.f183) aB6 XC 180 (.int .u64) _ _ x=cQ x:=by
 rintro⟨v0,v1,⟨⟩⟩
 kernel_rfl
abbrev XR:Ent:=⟨183,_,_,cQ⟩
theorem XU:Ent.OK tP XR:=aH6 bC aI7 Tryz.func183 (c:=XC) (by kernel_rfl) (bV:=aN Tryz.f183) (lt:=aB6) (aO aHB trivial) aIX
def fE(x:aK [.str,.str]):oK [.str]:=match x with
 | (v0,v1,()) =>
  bif !(ltI 18 (aB .i64 ((v0.size:Int)+(v1.size:Int)))) then
   aC (rE (v0,v1,())) λy1 =>
   aC (tT ((aB .u64 (y1.1*y1.2.1)),())) λy2 =>
   some (y2.1,())
  else aC (dX () (v0,()) []) λy3 =>
  aC (dX () (v1,()) y3.2) λy4 =>
  aC (dL () (y3.1,y4.1,()) y4.2) λy5 =>
  aC (bP (y5.1,())) λy6 =>
  some (y6.1,())
def XA:Code:=eA Tryz.f184
abbrev aFE:Env:=ME [LJ,FL,rX] [BJ,xT]
theorem aIO:aR tP aFE:=nI ⟨I2,ER,sE,trivial⟩ ⟨AX,CP,trivial⟩
def aBU(id:Nat):Option cG:=none
theorem aHF:bF XA=[]:=by kernel_rfl
theorem aIW:∀ x,aCF tP aFE Tryz.f184 (aN Tryz.f184) aBU XA 180 (.int .u64) _ _ x=fE x:=by
 rintro⟨v0,v1,⟨⟩⟩
 kernel_rfl
abbrev aE3:Ent:=⟨184,_,_,fE⟩
theorem aIK:Ent.OK tP aE3:=aH6 bC aIO Tryz.func184 (c:=XA) (by kernel_rfl) (bV:=aN Tryz.f184) (lt:=aBU) (aO aHF trivial) aIW
def nJ(x:aK [.str,.str]):oK [.str,.str,.int .i64]:=match x with
 | (v0,v1,()) =>
  bif eqS v1 (ByteArray.mk #[48]) then
   some ((ByteArray.mk #[]),(ByteArray.mk #[]),17,())
  else aC (rE (v0,v1,())) λy1 =>
  bif y1.2.2.1 then
   bif eqI y1.2.1 0 then none else aC (tT ((aB .u64 (y1.1.tdiv y1.2.1)),())) λy2 =>
   bif eqI y1.2.1 0 then none else aC (tT ((y1.1.tmod y1.2.1),())) λy3 =>
   some (y2.1,y3.1,0,())
  else aC (dX () (v0,()) []) λy4 =>
  aC (dX () (v1,()) y4.2) λy5 =>
  aC (sI (y4.1,y5.1,())) λy6 =>
  bif ltI y6.1 0 then
   some ((ByteArray.mk #[48]),v0,0,())
  else bif eqI (y5.1.length:Int) 1 then
   bif aF 0 y5.1.length then bif Nat.blt 0 y5.1.length then aC (dU () (y4.1,(y5.1.getD 0 0),()) y5.2) λy7 =>
   aC (bP (y7.1.1,())) λy8 =>
   aC (tT (y7.1.2.1,())) λy9 =>
   some (y8.1,y9.1,0,()) else none else none
  else aC (eU () (y4.1,y5.1,()) y5.2) λy10 =>
  aC (bP (y10.1.1,())) λy11 =>
  aC (bP (y10.1.2.1,())) λy12 =>
  some (y11.1,y12.1,0,())
def MV:Code:=eA Tryz.f205
abbrev X2:Env:=ME [LJ,FL,HN,rX] [BJ,FV,yJ]
theorem aCS:aR tP X2:=nI ⟨I2,ER,Q3,sE,trivial⟩ ⟨AX,O2,DM,trivial⟩
def UL(id:Nat):Option cG:=none
theorem aBO:bF MV=[]:=by kernel_rfl
theorem aC1:∀ x,aCF tP X2 Tryz.f205 (aN Tryz.f205) UL MV 180 (.int .u64) _ _ x=nJ x:=by
 rintro⟨v0,v1,⟨⟩⟩
 kernel_rfl
abbrev XV:Ent:=⟨205,_,_,nJ⟩
theorem aCZ:Ent.OK tP XV:=aH6 bC aCS Tryz.func205 (c:=MV) (by kernel_rfl) (bV:=aN Tryz.f205) (lt:=UL) (aO aBO trivial) aC1
def P9(x:aK [.str,.str]):oK [.str]:=match x with
 | (v0,v1,()) =>
  aC (rJ (v0,18,())) λy1 =>
  bif y1.2.1 then
   aC (rJ (v1,18,())) λy2 =>
   bif y2.2.1 then
    aC (j8 ((aB .i64 (y1.1+y2.1)),())) λy3 =>
    some (y3.1,())
   else aC (cK (v0,())) λy4 =>
   aC (cK (v1,())) λy5 =>
   bif y4.1 then
    bif y5.1 then
     aC (fD (y4.2.1,y5.2.1,())) λy6 =>
     aC (aA (y4.1,y6.1,())) λy7 =>
     some (y7.1,())
    else aC (fN (y4.2.1,y5.2.1,())) λy8 =>
    bif ltI y8.1 0 then
     aC (cQ (y5.2.1,y4.2.1,())) λy9 =>
     aC (aA (y5.1,y9.1,())) λy10 =>
     some (y10.1,())
    else aC (cQ (y4.2.1,y5.2.1,())) λy11 =>
    aC (aA (y4.1,y11.1,())) λy12 =>
    some (y12.1,())
   else bif y5.1 then
    aC (fN (y4.2.1,y5.2.1,())) λy13 =>
    bif ltI y13.1 0 then
     aC (cQ (y5.2.1,y4.2.1,())) λy14 =>
     aC (aA (y5.1,y14.1,())) λy15 =>
     some (y15.1,())
    else aC (cQ (y4.2.1,y5.2.1,())) λy16 =>
    aC (aA (y4.1,y16.1,())) λy17 =>
    some (y17.1,())
   else aC (fD (y4.2.1,y5.2.1,())) λy18 =>
   aC (aA (y4.1,y18.1,())) λy19 =>
   some (y19.1,())
  else aC (cK (v0,())) λy20 =>
  aC (cK (v1,())) λy21 =>
  bif y20.1 then
   bif y21.1 then
    aC (fD (y20.2.1,y21.2.1,())) λy22 =>
    aC (aA (y20.1,y22.1,())) λy23 =>
    some (y23.1,())
   else aC (fN (y20.2.1,y21.2.1,())) λy24 =>
   bif ltI y24.1 0 then
    aC (cQ (y21.2.1,y20.2.1,())) λy25 =>
    aC (aA (y21.1,y25.1,())) λy26 =>
    some (y26.1,())
   else aC (cQ (y20.2.1,y21.2.1,())) λy27 =>
   aC (aA (y20.1,y27.1,())) λy28 =>
   some (y28.1,())
  else bif y21.1 then
   aC (fN (y20.2.1,y21.2.1,())) λy29 =>
   bif ltI y29.1 0 then
    aC (cQ (y21.2.1,y20.2.1,())) λy30 =>
    aC (aA (y21.1,y30.1,())) λy31 =>
    some (y31.1,())
   else aC (cQ (y20.2.1,y21.2.1,())) λy32 =>
   aC (aA (y20.1,y32.1,())) λy33 =>
   some (y33.1,())
  else aC (fD (y20.2.1,y21.2.1,())) λy34 =>
  aC (aA (y20.1,y34.1,())) λy35 =>
  some (y35.1,())
theorem aM0:aR tP (bL [W6,ES,XR,J5,MG,K3,AH]):=aU ⟨X1,E8,XU,EH,IS,KP,vR,trivial⟩
abbrev aD1:Ent:=⟨135,_,_,P9⟩
theorem aBX:Ent.OK tP aD1:=oI aM0 Tryz.func135 (by kernel_rfl) (by kernel_rfl) (by rintro⟨v0,v1,⟨⟩⟩; kernel_rfl)
def Q5(x:aK [.str,.str]):oK [.str]:=match x with
 | (v0,v1,()) =>
  aC (QG (v1,())) λy1 =>
  aC (P9 (v0,y1.1,())) λy2 =>
  some (y2.1,())
theorem aNF:aR tP (bL [aD1,aC7]):=aU ⟨aBX,aCA,trivial⟩
abbrev aDG:Ent:=⟨206,_,_,Q5⟩
theorem aCH:Ent.OK tP aDG:=oI aNF Tryz.func206 (by kernel_rfl) (by kernel_rfl) (by rintro⟨v0,v1,⟨⟩⟩; kernel_rfl)
def KJ(x:aK [.str,.str]):oK [.str]:=match x with
 | (v0,v1,()) =>
  aC (rJ (v0,9,())) λy1 =>
  bif y1.2.1 then
   aC (rJ (v1,9,())) λy2 =>
   bif y2.2.1 then
    aC (j8 ((aB .i64 (y1.1*y2.1)),())) λy3 =>
    some (y3.1,())
   else aC (cK (v0,())) λy4 =>
   aC (cK (v1,())) λy5 =>
   bif y4.1 then
    bif y5.1 then
     aC (fE (y4.2.1,y5.2.1,())) λy6 =>
     aC (aA (false,y6.1,())) λy7 =>
     some (y7.1,())
    else aC (fE (y4.2.1,y5.2.1,())) λy8 =>
    aC (aA (true,y8.1,())) λy9 =>
    some (y9.1,())
   else bif y5.1 then
    aC (fE (y4.2.1,y5.2.1,())) λy10 =>
    aC (aA (true,y10.1,())) λy11 =>
    some (y11.1,())
   else aC (fE (y4.2.1,y5.2.1,())) λy12 =>
   aC (aA (false,y12.1,())) λy13 =>
   some (y13.1,())
  else aC (cK (v0,())) λy14 =>
  aC (cK (v1,())) λy15 =>
  bif y14.1 then
   bif y15.1 then
    aC (fE (y14.2.1,y15.2.1,())) λy16 =>
    aC (aA (false,y16.1,())) λy17 =>
    some (y17.1,())
   else aC (fE (y14.2.1,y15.2.1,())) λy18 =>
   aC (aA (true,y18.1,())) λy19 =>
   some (y19.1,())
  else bif y15.1 then
   aC (fE (y14.2.1,y15.2.1,())) λy20 =>
   aC (aA (true,y20.1,())) λy21 =>
   some (y21.1,())
  else aC (fE (y14.2.1,y15.2.1,())) λy22 =>
  aC (aA (false,y22.1,())) λy23 =>
  some (y23.1,())
theorem aMP:aR tP (bL [aE3,J5,MG,K3,AH]):=aU ⟨aIK,EH,IS,KP,vR,trivial⟩
abbrev VL:Ent:=⟨136,_,_,KJ⟩
theorem T7:Ent.OK tP VL:=oI aMP Tryz.func136 (by kernel_rfl) (by kernel_rfl) (by rintro⟨v0,v1,⟨⟩⟩; kernel_rfl)
def BV(x:aK [.str,.str]):oK [.str,.str,.int .i64]:=match x with
 | (v0,v1,()) =>
  bif eqS v1 (ByteArray.mk #[48]) then
   some ((ByteArray.mk #[]),(ByteArray.mk #[]),17,())
  else aC (rJ (v0,18,())) λy1 =>
  bif y1.2.1 then
   aC (rJ (v1,18,())) λy2 =>
   bif y2.2.1 then
    bif eqI y2.1 0 then none else bif eqI y2.1 0 then none else bif !(eqI (y1.1.tmod y2.1) 0) then
     bif ltI (y1.1.tmod y2.1) 0 then
      bif ltI y2.1 0 then
       aC (j8 ((aB .i64 (y1.1.tdiv y2.1)),())) λy3 =>
       aC (j8 ((y1.1.tmod y2.1),())) λy4 =>
       some (y3.1,y4.1,0,())
      else aC (j8 ((aB .i64 ((aB .i64 (y1.1.tdiv y2.1))-1)),())) λy5 =>
      aC (j8 ((aB .i64 ((y1.1.tmod y2.1)+y2.1)),())) λy6 =>
      some (y5.1,y6.1,0,())
     else bif ltI y2.1 0 then
      aC (j8 ((aB .i64 ((aB .i64 (y1.1.tdiv y2.1))-1)),())) λy7 =>
      aC (j8 ((aB .i64 ((y1.1.tmod y2.1)+y2.1)),())) λy8 =>
      some (y7.1,y8.1,0,())
     else aC (j8 ((aB .i64 (y1.1.tdiv y2.1)),())) λy9 =>
     aC (j8 ((y1.1.tmod y2.1),())) λy10 =>
     some (y9.1,y10.1,0,())
    else aC (j8 ((aB .i64 (y1.1.tdiv y2.1)),())) λy11 =>
    aC (j8 ((y1.1.tmod y2.1),())) λy12 =>
    some (y11.1,y12.1,0,())
   else aC (cK (v0,())) λy13 =>
   aC (cK (v1,())) λy14 =>
   aC (nJ (y13.2.1,y14.2.1,())) λy15 =>
   bif !(eqI y15.2.2.1 0) then
    some ((ByteArray.mk #[]),(ByteArray.mk #[]),y15.2.2.1,())
   else bif y13.1 then
    bif y14.1 then
     bif y13.1 then
      bif y14.1 then
       aC (aA (false,y15.1,())) λy16 =>
       aC (aA (y14.1,y15.2.1,())) λy17 =>
       some (y16.1,y17.1,0,())
      else aC (aA (true,y15.1,())) λy18 =>
      aC (aA (y14.1,y15.2.1,())) λy19 =>
      some (y18.1,y19.1,0,())
     else bif y14.1 then
      aC (aA (true,y15.1,())) λy20 =>
      aC (aA (y14.1,y15.2.1,())) λy21 =>
      some (y20.1,y21.1,0,())
     else aC (aA (false,y15.1,())) λy22 =>
     aC (aA (y14.1,y15.2.1,())) λy23 =>
     some (y22.1,y23.1,0,())
    else bif !(eqS y15.2.1 (ByteArray.mk #[48])) then
     aC (fD (y15.1,(ByteArray.mk #[49]),())) λy24 =>
     aC (cQ (y14.2.1,y15.2.1,())) λy25 =>
     bif y13.1 then
      bif y14.1 then
       aC (aA (false,y24.1,())) λy26 =>
       aC (aA (y14.1,y25.1,())) λy27 =>
       some (y26.1,y27.1,0,())
      else aC (aA (true,y24.1,())) λy28 =>
      aC (aA (y14.1,y25.1,())) λy29 =>
      some (y28.1,y29.1,0,())
     else bif y14.1 then
      aC (aA (true,y24.1,())) λy30 =>
      aC (aA (y14.1,y25.1,())) λy31 =>
      some (y30.1,y31.1,0,())
     else aC (aA (false,y24.1,())) λy32 =>
     aC (aA (y14.1,y25.1,())) λy33 =>
     some (y32.1,y33.1,0,())
    else bif y13.1 then
     bif y14.1 then
      aC (aA (false,y15.1,())) λy34 =>
      aC (aA (y14.1,y15.2.1,())) λy35 =>
      some (y34.1,y35.1,0,())
     else aC (aA (true,y15.1,())) λy36 =>
     aC (aA (y14.1,y15.2.1,())) λy37 =>
     some (y36.1,y37.1,0,())
    else bif y14.1 then
     aC (aA (true,y15.1,())) λy38 =>
     aC (aA (y14.1,y15.2.1,())) λy39 =>
     some (y38.1,y39.1,0,())
    else aC (aA (false,y15.1,())) λy40 =>
    aC (aA (y14.1,y15.2.1,())) λy41 =>
    some (y40.1,y41.1,0,())
   else bif y14.1 then
    bif !(eqS y15.2.1 (ByteArray.mk #[48])) then
     aC (fD (y15.1,(ByteArray.mk #[49]),())) λy42 =>
     aC (cQ (y14.2.1,y15.2.1,())) λy43 =>
     bif y13.1 then
      bif y14.1 then
       aC (aA (false,y42.1,())) λy44 =>
       aC (aA (y14.1,y43.1,())) λy45 =>
       some (y44.1,y45.1,0,())
      else aC (aA (true,y42.1,())) λy46 =>
      aC (aA (y14.1,y43.1,())) λy47 =>
      some (y46.1,y47.1,0,())
     else bif y14.1 then
      aC (aA (true,y42.1,())) λy48 =>
      aC (aA (y14.1,y43.1,())) λy49 =>
      some (y48.1,y49.1,0,())
     else aC (aA (false,y42.1,())) λy50 =>
     aC (aA (y14.1,y43.1,())) λy51 =>
     some (y50.1,y51.1,0,())
    else bif y13.1 then
     bif y14.1 then
      aC (aA (false,y15.1,())) λy52 =>
      aC (aA (y14.1,y15.2.1,())) λy53 =>
      some (y52.1,y53.1,0,())
     else aC (aA (true,y15.1,())) λy54 =>
     aC (aA (y14.1,y15.2.1,())) λy55 =>
     some (y54.1,y55.1,0,())
    else bif y14.1 then
     aC (aA (true,y15.1,())) λy56 =>
     aC (aA (y14.1,y15.2.1,())) λy57 =>
     some (y56.1,y57.1,0,())
    else aC (aA (false,y15.1,())) λy58 =>
    aC (aA (y14.1,y15.2.1,())) λy59 =>
    some (y58.1,y59.1,0,())
   else bif y13.1 then
    bif y14.1 then
     aC (aA (false,y15.1,())) λy60 =>
     aC (aA (y14.1,y15.2.1,())) λy61 =>
     some (y60.1,y61.1,0,())
    else aC (aA (true,y15.1,())) λy62 =>
    aC (aA (y14.1,y15.2.1,())) λy63 =>
    some (y62.1,y63.1,0,())
   else bif y14.1 then
    aC (aA (true,y15.1,())) λy64 =>
    aC (aA (y14.1,y15.2.1,())) λy65 =>
    some (y64.1,y65.1,0,())
   else aC (aA (false,y15.1,())) λy66 =>
   aC (aA (y14.1,y15.2.1,())) λy67 =>
   some (y66.1,y67.1,0,())
  else aC (cK (v0,())) λy68 =>
  aC (cK (v1,())) λy69 =>
  aC (nJ (y68.2.1,y69.2.1,())) λy70 =>
  bif !(eqI y70.2.2.1 0) then
   some ((ByteArray.mk #[]),(ByteArray.mk #[]),y70.2.2.1,())
  else bif y68.1 then
   bif y69.1 then
    bif y68.1 then
     bif y69.1 then
      aC (aA (false,y70.1,())) λy71 =>
      aC (aA (y69.1,y70.2.1,())) λy72 =>
      some (y71.1,y72.1,0,())
     else aC (aA (true,y70.1,())) λy73 =>
     aC (aA (y69.1,y70.2.1,())) λy74 =>
     some (y73.1,y74.1,0,())
    else bif y69.1 then
     aC (aA (true,y70.1,())) λy75 =>
     aC (aA (y69.1,y70.2.1,())) λy76 =>
     some (y75.1,y76.1,0,())
    else aC (aA (false,y70.1,())) λy77 =>
    aC (aA (y69.1,y70.2.1,())) λy78 =>
    some (y77.1,y78.1,0,())
   else bif !(eqS y70.2.1 (ByteArray.mk #[48])) then
    aC (fD (y70.1,(ByteArray.mk #[49]),())) λy79 =>
    aC (cQ (y69.2.1,y70.2.1,())) λy80 =>
    bif y68.1 then
     bif y69.1 then
      aC (aA (false,y79.1,())) λy81 =>
      aC (aA (y69.1,y80.1,())) λy82 =>
      some (y81.1,y82.1,0,())
     else aC (aA (true,y79.1,())) λy83 =>
     aC (aA (y69.1,y80.1,())) λy84 =>
     some (y83.1,y84.1,0,())
    else bif y69.1 then
     aC (aA (true,y79.1,())) λy85 =>
     aC (aA (y69.1,y80.1,())) λy86 =>
     some (y85.1,y86.1,0,())
    else aC (aA (false,y79.1,())) λy87 =>
    aC (aA (y69.1,y80.1,())) λy88 =>
    some (y87.1,y88.1,0,())
   else bif y68.1 then
    bif y69.1 then
     aC (aA (false,y70.1,())) λy89 =>
     aC (aA (y69.1,y70.2.1,())) λy90 =>
     some (y89.1,y90.1,0,())
    else aC (aA (true,y70.1,())) λy91 =>
    aC (aA (y69.1,y70.2.1,())) λy92 =>
    some (y91.1,y92.1,0,())
   else bif y69.1 then
    aC (aA (true,y70.1,())) λy93 =>
    aC (aA (y69.1,y70.2.1,())) λy94 =>
    some (y93.1,y94.1,0,())
   else aC (aA (false,y70.1,())) λy95 =>
   aC (aA (y69.1,y70.2.1,())) λy96 =>
   some (y95.1,y96.1,0,())
  else bif y69.1 then
   bif !(eqS y70.2.1 (ByteArray.mk #[48])) then
    aC (fD (y70.1,(ByteArray.mk #[49]),())) λy97 =>
    aC (cQ (y69.2.1,y70.2.1,())) λy98 =>
    bif y68.1 then
     bif y69.1 then
      aC (aA (false,y97.1,())) λy99 =>
      aC (aA (y69.1,y98.1,())) λy100 =>
      some (y99.1,y100.1,0,())
     else aC (aA (true,y97.1,())) λy101 =>
     aC (aA (y69.1,y98.1,())) λy102 =>
     some (y101.1,y102.1,0,())
    else bif y69.1 then
     aC (aA (true,y97.1,())) λy103 =>
     aC (aA (y69.1,y98.1,())) λy104 =>
     some (y103.1,y104.1,0,())
    else aC (aA (false,y97.1,())) λy105 =>
    aC (aA (y69.1,y98.1,())) λy106 =>
    some (y105.1,y106.1,0,())
   else bif y68.1 then
    bif y69.1 then
     aC (aA (false,y70.1,())) λy107 =>
     aC (aA (y69.1,y70.2.1,())) λy108 =>
     some (y107.1,y108.1,0,())
    else aC (aA (true,y70.1,())) λy109 =>
    aC (aA (y69.1,y70.2.1,())) λy110 =>
    some (y109.1,y110.1,0,())
   else bif y69.1 then
    aC (aA (true,y70.1,())) λy111 =>
    aC (aA (y69.1,y70.2.1,())) λy112 =>
    some (y111.1,y112.1,0,())
   else aC (aA (false,y70.1,())) λy113 =>
   aC (aA (y69.1,y70.2.1,())) λy114 =>
   some (y113.1,y114.1,0,())
  else bif y68.1 then
   bif y69.1 then
    aC (aA (false,y70.1,())) λy115 =>
    aC (aA (y69.1,y70.2.1,())) λy116 =>
    some (y115.1,y116.1,0,())
   else aC (aA (true,y70.1,())) λy117 =>
   aC (aA (y69.1,y70.2.1,())) λy118 =>
   some (y117.1,y118.1,0,())
  else bif y69.1 then
   aC (aA (true,y70.1,())) λy119 =>
   aC (aA (y69.1,y70.2.1,())) λy120 =>
   some (y119.1,y120.1,0,())
  else aC (aA (false,y70.1,())) λy121 =>
  aC (aA (y69.1,y70.2.1,())) λy122 =>
  some (y121.1,y122.1,0,())
theorem aGC:aR tP (bL [W6,XV,XR,J5,MG,K3,AH]):=aU ⟨X1,aCZ,XU,EH,IS,KP,vR,trivial⟩
abbrev TC:Ent:=⟨165,_,_,BV⟩
theorem VF:Ent.OK tP TC:=oI aGC Tryz.func165 (by kernel_rfl) (by kernel_rfl) (by rintro⟨v0,v1,⟨⟩⟩; kernel_rfl)
end Go.PM
namespace Go.PM
open Go Go.RowKit Go.Proofs
set_option maxHeartbeats 4000000
abbrev pQ:List (Nat×Kd):=[(3,.own 110 .str),(9,.list TyE),(10,.int .i64),(11,.int .i64)]
abbrev sW:List (Ex×List (Nat×Kd)):=[(.exit 0,[(3,.own 110 .str)])]
def qK(x:Shape.den pQ):oS pQ sW:=match x with
 | (v3,v9,v10,v11,()) =>
  bif ltI v11 v10 then
   bif aF v11 v9.length then aC (j8 ((v9.getD v11.toNat 0),())) λy2 =>
   bif Nat.ble [y2.1].length 1048576 then bif Nat.ble v3.length 1048576 then some (.inl ((v3++[y2.1]),v9,v10,(aB .i64 (v11+1)),())) else none else none else none
  else some (.inr ((v3,())))
def uX(x:Shape.den pQ):oX sW:=bH qK (2^64) x
def nX(x:aK [.list TyE]):Option (List ByteArray):=match x with
 | (v0,()) =>
  bif !(ltI (v0.length:Int) 0) then bif !(ltI 1048576 (v0.length:Int)) then aC (uX ((List.replicate 0 ByteArray.empty),v0,(v0.length:Int),0,())) λz3 =>
  some z3.1 else none else none
def EB:Code:=eA Tryz.f119
abbrev KS:Env:=bL [J5]
theorem N4:aR tP KS:=aU ⟨EH,trivial⟩
def GS:Code:=gQ EB 0
def I3(id:Nat):Option cG:=bif Nat.beq id 3 then some ⟨pQ,sW,uX⟩ else none
theorem XL:∀ x,iK tP KS 22 (aN Tryz.f119) I3 GS pQ sW x=qK x:=by
 rintro⟨v3,v9,v10,v11,⟨⟩⟩
 kernel_rfl
theorem X8:eG tP 22 GS ⟨pQ,sW,uX⟩:=eN N4.callee bC.mixed _ (aO (l:=[]) (by kernel_rfl) trivial) XL
theorem aAG:bF EB=[GS]:=by kernel_rfl
theorem aBE:∀ x,aSE tP KS Tryz.f119 (aN Tryz.f119) I3 EB [.list TyE] 2 110 .str x=nX x:=by
 rintro⟨v0,⟨⟩⟩
 kernel_rfl
theorem aF2:aSP tP 119 [.list TyE] 110 .str nX:=aPP bC N4 Tryz.func119 (c:=EB) (by kernel_rfl) (bV:=aN Tryz.f119) (lt:=I3) (t:=2) (by kernel_rfl) (aO aAG ⟨eL (i:=3) (by kernel_rfl) rfl X8,trivial⟩) aBE
abbrev EA:Shr:=(119,aZ9 [.list TyE] 110 .str nX)
theorem FH:vA tP EA:=aPB aF2
abbrev lB:List (Nat×Kd):=[(0,.hnd 1),(1,.str),(10,.hnd 1),(11,.int .i64),(12,.int .i64),(100000,.ar 110 .str)]
abbrev oO:List (Ex×List (Nat×Kd)):=[(.exit 0,[(100000,.ar 110 .str)])]
def l7(x:Shape.den lB):oS lB oO:=match x with
 | (v0,v1,v10,v11,v12,v100000,()) =>
  bif ltI v12 v11 then
   bif aF v12 v10.2.2 then bif Nat.blt ((v10.2.1+v12.toNat)*1) (cS v100000 v10.1) then bif aF v12 v0.2.2 then bif Nat.blt ((v0.2.1+v12.toNat)*1) (cS v100000 v0.1) then aC (KJ (v1,(dH v100000 v10.1 ((v10.2.1+v12.toNat)*1) ByteArray.empty),())) λy3 =>
   aC (Q5 ((dH v100000 v0.1 ((v0.2.1+v12.toNat)*1) ByteArray.empty),y3.1,())) λy4 =>
   bif aF v12 v0.2.2 then bif Nat.blt ((v0.2.1+v12.toNat)*1) (cS v100000 v0.1) then some (.inl ((v0.1,v0.2.1,v0.2.2),v1,(v10.1,v10.2.1,v10.2.2),v11,(aB .i64 (v12+1)),(vH v100000 v0.1 ((v0.2.1+v12.toNat)*1) y4.1),())) else none else none else none else none else none else none
  else some (.inr ((v100000,())))
def pX(x:Shape.den lB):oX oO:=bH l7 (2^64) x
def fS(u0:Unit)(x:aK [.hnd 1,.str,.hnd 1])(A:List (List ByteArray)):Option ((aK [])×List (List ByteArray)):=match x with
 | (v0,v1,v2,()) =>
  bif eqS v1 (ByteArray.mk #[48]) then
   some ((()),A)
  else aC (pX ((v0.1,v0.2.1,v0.2.2),v1,(v2.1,v2.2.1,v2.2.2),((v2.2.2:Nat):Int),0,A,())) λz5 =>
  some ((()),z5.1)
def wE:Code:=eA Tryz.f166
abbrev D5:Env:=bL [VL,aDG]
theorem HD:aR tP D5:=aU ⟨T7,aCH,trivial⟩
def AY:Code:=gQ wE 0
def B7(id:Nat):Option cG:=bif Nat.beq id 2 then some ⟨lB,oO,pX⟩ else none
theorem Q8:∀ x,iK tP D5 29 (aN Tryz.f166) B7 AY lB oO x=l7 x:=by
 rintro⟨v0,v1,v10,v11,v12,v100000,⟨⟩⟩
 kernel_rfl
theorem R7:eG tP 29 AY ⟨lB,oO,pX⟩:=eN HD.callee bC.mixed _ (aO (l:=[]) (by kernel_rfl) trivial) Q8
theorem S3:bF wE=[AY]:=by kernel_rfl
theorem US:∀ l x A,E0 tP D5 Tryz.f166 (aN Tryz.f166) B7 wE 110 .str .none [.hnd 1,.str,.hnd 1] (.data []) l x A=fS l x A:=by
 rintro u0 ⟨v0,v1,v2,⟨⟩⟩ A
 kernel_rfl
theorem X5:LX tP 166 110 .str .none [.hnd 1,.str,.hnd 1] (.data []) fS:=yP bC HD Tryz.func166 (c:=wE) (by kernel_rfl) (bV:=aN Tryz.f166) (lt:=B7) (by rfl) (aO S3 ⟨eL (i:=2) (by kernel_rfl) rfl R7,trivial⟩) US
abbrev L7:Shr:=(166,RL 0 (arH 110 .str .none [.hnd 1,.str,.hnd 1] (.data []) fS))
theorem U5:vA tP L7:=rG (g:=166) (f:=arH 110 .str .none [.hnd 1,.str,.hnd 1] (.data []) fS) (DC X5)
abbrev kY:List (Nat×Kd):=[(0,.hnd 1),(1,.str),(10,.list .str),(11,.int .i64),(12,.int .i64),(100000,.ar 110 .str)]
abbrev nU:List (Ex×List (Nat×Kd)):=[(.exit 0,[(100000,.ar 110 .str)])]
def EW(x:Shape.den kY):oS kY nU:=match x with
 | (v0,v1,v10,v11,v12,v100000,()) =>
  bif ltI v12 v11 then
   bif aF v12 v10.length then bif aF v12 v0.2.2 then bif Nat.blt ((v0.2.1+v12.toNat)*1) (cS v100000 v0.1) then aC (KJ (v1,(v10.getD v12.toNat ByteArray.empty),())) λy3 =>
   aC (Q5 ((dH v100000 v0.1 ((v0.2.1+v12.toNat)*1) ByteArray.empty),y3.1,())) λy4 =>
   bif aF v12 v0.2.2 then bif Nat.blt ((v0.2.1+v12.toNat)*1) (cS v100000 v0.1) then some (.inl ((v0.1,v0.2.1,v0.2.2),v1,v10,v11,(aB .i64 (v12+1)),(vH v100000 v0.1 ((v0.2.1+v12.toNat)*1) y4.1),())) else none else none else none else none else none
  else some (.inr ((v100000,())))
def vJ(x:Shape.den kY):oX nU:=bH EW (2^64) x
def rU(u0:Unit)(x:aK [.hnd 1,.str,.list .str])(A:List (List ByteArray)):Option ((aK [])×List (List ByteArray)):=match x with
 | (v0,v1,v2,()) =>
  bif eqS v1 (ByteArray.mk #[48]) then
   some ((()),A)
  else aC (vJ ((v0.1,v0.2.1,v0.2.2),v1,v2,(v2.length:Int),0,A,())) λz5 =>
  some ((()),z5.1)
def vZ:Code:=eA Tryz.f166
abbrev D1:Env:=bL [VL,aDG]
theorem HL:aR tP D1:=aU ⟨T7,aCH,trivial⟩
def A8:Code:=gQ vZ 0
def BZ(id:Nat):Option cG:=bif Nat.beq id 2 then some ⟨kY,nU,vJ⟩ else none
theorem PR:∀ x,iK tP D1 29 (aN Tryz.f166) BZ A8 kY nU x=EW x:=by
 rintro⟨v0,v1,v10,v11,v12,v100000,⟨⟩⟩
 kernel_rfl
theorem RN:eG tP 29 A8 ⟨kY,nU,vJ⟩:=eN HL.callee bC.mixed _ (aO (l:=[]) (by kernel_rfl) trivial) PR
theorem S7:bF vZ=[A8]:=by kernel_rfl
theorem UF:∀ l x A,E0 tP D1 Tryz.f166 (aN Tryz.f166) BZ vZ 110 .str .none [.hnd 1,.str,.list .str] (.data []) l x A=rU l x A:=by
 rintro u0 ⟨v0,v1,v2,⟨⟩⟩ A
 kernel_rfl
theorem YF:LX tP 166 110 .str .none [.hnd 1,.str,.list .str] (.data []) rU:=yP bC HL Tryz.func166 (c:=vZ) (by kernel_rfl) (bV:=aN Tryz.f166) (lt:=BZ) (by rfl) (aO S7 ⟨eL (i:=2) (by kernel_rfl) rfl RN,trivial⟩) UF
theorem WO:aT0 tP 166 110 .str [.str,.list .str] (TM rU):=aGJ YF (by rfl) (by rfl)
abbrev JK:Shr:=(166,RL 1 (aYU 110 .str [.str,.list .str] (TM rU)))
theorem S5:vA tP JK:=rG (aRP WO)
abbrev iY:List (Nat×Kd):=[(0,.hnd 1),(4,.hnd 1),(5,.int .i64),(6,.int .i64),(100000,.ar 110 .str)]
abbrev l8:List (Ex×List (Nat×Kd)):=[(.exit 0,[(100000,.ar 110 .str)])]
def kO(x:Shape.den iY):oS iY l8:=match x with
 | (v0,v4,v5,v6,v100000,()) =>
  bif ltI v6 v5 then
   bif aF v6 v4.2.2 then bif Nat.blt ((v4.2.1+v6.toNat)*1) (cS v100000 v4.1) then aC (QG ((dH v100000 v4.1 ((v4.2.1+v6.toNat)*1) ByteArray.empty),())) λy2 =>
   bif aF v6 v0.2.2 then bif Nat.blt ((v0.2.1+v6.toNat)*1) (cS v100000 v0.1) then some (.inl ((v0.1,v0.2.1,v0.2.2),(v4.1,v4.2.1,v4.2.2),v5,(aB .i64 (v6+1)),(vH v100000 v0.1 ((v0.2.1+v6.toNat)*1) y2.1),())) else none else none else none else none
  else some (.inr ((v100000,())))
def o3(x:Shape.den iY):oX l8:=bH kO (2^64) x
def eM(u0:Unit)(x:aK [.hnd 1])(A:List (List ByteArray)):Option ((aK [])×List (List ByteArray)):=match x with
 | (v0,()) =>
  aC (o3 ((v0.1,v0.2.1,v0.2.2),(v0.1,v0.2.1,v0.2.2),((v0.2.2:Nat):Int),0,A,())) λz3 =>
  some ((()),z3.1)
def tL:Code:=eA Tryz.f168
abbrev AP:Env:=bL [aC7]
theorem EZ:aR tP AP:=aU ⟨aCA,trivial⟩
def xO:Code:=gQ tL 0
def yQ(id:Nat):Option cG:=bif Nat.beq id 1 then some ⟨iY,l8,o3⟩ else none
theorem M7:∀ x,iK tP AP 17 (aN Tryz.f168) yQ xO iY l8 x=kO x:=by
 rintro⟨v0,v4,v5,v6,v100000,⟨⟩⟩
 kernel_rfl
theorem O6:eG tP 17 xO ⟨iY,l8,o3⟩:=eN EZ.callee bC.mixed _ (aO (l:=[]) (by kernel_rfl) trivial) M7
theorem QT:bF tL=[xO]:=by kernel_rfl
theorem R0:∀ l x A,E0 tP AP Tryz.f168 (aN Tryz.f168) yQ tL 110 .str .none [.hnd 1] (.data []) l x A=eM l x A:=by
 rintro u0 ⟨v0,⟨⟩⟩ A
 kernel_rfl
theorem UG:LX tP 168 110 .str .none [.hnd 1] (.data []) eM:=yP bC EZ Tryz.func168 (c:=tL) (by kernel_rfl) (bV:=aN Tryz.f168) (lt:=yQ) (by rfl) (aO QT ⟨eL (i:=1) (by kernel_rfl) rfl O6,trivial⟩) R0
abbrev HY:Shr:=(168,RL 0 (arH 110 .str .none [.hnd 1] (.data []) eM))
theorem RO:vA tP HY:=rG (g:=168) (f:=arH 110 .str .none [.hnd 1] (.data []) eM) (DC UG)
def wW(x:aK [.str]):oK [.bool]:=match x with
 | (v0,()) =>
  some (!(eqS v0 (ByteArray.mk #[48])),())
theorem VJ:aR tP (bL []):=aU trivial
abbrev DR:Ent:=⟨209,_,_,wW⟩
theorem HC:Ent.OK tP DR:=oI VJ Tryz.func209 (by kernel_rfl) (by kernel_rfl) (by rintro⟨v0,⟨⟩⟩; kernel_rfl)
abbrev jE:List (Nat×Kd):=[(0,.list .str),(1,.fn 209),(7,.int .i64),(8,.int .i64)]
abbrev pG:List (Ex×List (Nat×Kd)):=[(.ret,[(4,.int .i64)]),(.exit 0,[])]
def yL(x:Shape.den jE):oS jE pG:=match x with
 | (v0,v1,v7,v8,()) =>
  bif ltI v8 v7 then
   bif aF v8 v0.length then aC (wW ((v0.getD v8.toNat ByteArray.empty),())) λy2 =>
   bif y2.1 then
    some (.inr (.inl (v8,())))
   else some (.inl (v0,(),v7,(aB .i64 (v8+1)),())) else none
  else some (.inr (.inr ((()))))
def oM(x:Shape.den jE):oX pG:=bH yL (2^64) x
def qZ(x:aK [.list .str,.fn 209]):oK [.int .i64]:=match x with
 | (v0,v1,()) =>
  aC (oM (v0,(),(v0.length:Int),0,())) λz3 =>
  yO z3 (λa4=>some (a4.1,())) λb5 =>
  some ((-1),())
abbrev CY:Env:=bL [DR]
theorem AF:aR tP CY:=aU ⟨HC,trivial⟩
abbrev qY:Ent:=⟨208,_,_,qZ⟩
theorem AZ:Ent.OK tP qY:=oU AF Tryz.func208 2 (lp:=oM) rfl (by kernel_rfl) (by kernel_rfl) (by kernel_rfl) (by kernel_rfl) (by rintro⟨v0,v1,v7,v8,⟨⟩⟩; kernel_rfl) (by rintro⟨v0,v1,⟨⟩⟩; kernel_rfl)
def AQ(x:aK [.list .str]):oK [.int .i64]:=match x with
 | (v0,()) =>
  aC (qZ (v0,(),())) λy1 =>
  some (y1.1,())
theorem YV:aR tP (bL [qY]):=aU ⟨AZ,trivial⟩
abbrev GI:Ent:=⟨169,_,_,AQ⟩
theorem JI:Ent.OK tP GI:=oI YV Tryz.func169 (by kernel_rfl) (by kernel_rfl) (by rintro⟨v0,⟨⟩⟩; kernel_rfl)
abbrev b8:List (Nat×Kd):=[(0,.hnd 1),(1,.fn 209),(7,.int .i64),(8,.int .i64),(100000,.ar 110 .str)]
abbrev cR:List (Ex×List (Nat×Kd)):=[(.ret,[(4,.int .i64),(100000,.ar 110 .str)]),(.exit 0,[(100000,.ar 110 .str)])]
def bD(x:Shape.den b8):oS b8 cR:=match x with
 | (v0,v1,v7,v8,v100000,()) =>
  bif ltI v8 v7 then
   bif aF v8 v0.2.2 then bif Nat.blt ((v0.2.1+v8.toNat)*1) (cS v100000 v0.1) then aC (wW ((dH v100000 v0.1 ((v0.2.1+v8.toNat)*1) ByteArray.empty),())) λy2 =>
   bif y2.1 then
    some (.inr (.inl (v8,v100000,())))
   else some (.inl ((v0.1,v0.2.1,v0.2.2),(),v7,(aB .i64 (v8+1)),v100000,())) else none else none
  else some (.inr (.inr ((v100000,()))))
def cM(x:Shape.den b8):oX cR:=bH bD (2^64) x
def bQ(u0:Unit)(x:aK [.hnd 1,.fn 209])(A:List (List ByteArray)):Option ((aK [.int .i64])×List (List ByteArray)):=match x with
 | (v0,v1,()) =>
  aC (cM ((v0.1,v0.2.1,v0.2.2),(),((v0.2.2:Nat):Int),0,A,())) λz3 =>
  yO z3 (λa4=>some ((a4.1,()),a4.2.1)) λb5 =>
  some (((-1),()),b5.1)
def fC:Code:=eA Tryz.f208
abbrev kE:Env:=bL [DR]
theorem o9:aR tP kE:=aU ⟨HC,trivial⟩
def jI:Code:=gQ fC 0
def jW(id:Nat):Option cG:=bif Nat.beq id 2 then some ⟨b8,cR,cM⟩ else none
theorem xC:∀ x,iK tP kE 19 (aN Tryz.f208) jW jI b8 cR x=bD x:=by
 rintro⟨v0,v1,v7,v8,v100000,⟨⟩⟩
 kernel_rfl
theorem xZ:eG tP 19 jI ⟨b8,cR,cM⟩:=eN o9.callee bC.mixed _ (aO (l:=[]) (by kernel_rfl) trivial) xC
theorem zE:bF fC=[jI]:=by kernel_rfl
theorem zR:∀ l x A,E0 tP kE Tryz.f208 (aN Tryz.f208) jW fC 110 .str .none [.hnd 1,.fn 209] (.data [.int .i64]) l x A=bQ l x A:=by
 rintro u0 ⟨v0,v1,⟨⟩⟩ A
 kernel_rfl
theorem BP:LX tP 208 110 .str .none [.hnd 1,.fn 209] (.data [.int .i64]) bQ:=yP bC o9 Tryz.func208 (c:=fC) (by kernel_rfl) (bV:=aN Tryz.f208) (lt:=jW) (by rfl) (aO zE ⟨eL (i:=2) (by kernel_rfl) rfl xZ,trivial⟩) zR
abbrev qP:Shr:=(208,RL 0 (arH 110 .str .none [.hnd 1,.fn 209] (.data [.int .i64]) bQ))
theorem zQ:vA tP qP:=rG (g:=208) (f:=arH 110 .str .none [.hnd 1,.fn 209] (.data [.int .i64]) bQ) (DC BP)
def iM(u0:Unit) (x:aK [.hnd 1]) (A:List (List ByteArray)):Option ((aK [.int .i64])×List (List ByteArray)):=match x with
 | (v0,()) =>
  aC (bQ () ((v0.1,v0.2.1,v0.2.2),(),()) A) λy1 =>
  some ((y1.1.1,()),y1.2)
def DU:Code:=eA Tryz.f169
abbrev LI:Env:=ME [] [qP]
theorem U8:aR tP LI:=nI trivial ⟨zQ,trivial⟩
def JL(id:Nat):Option cG:=none
theorem T4:bF DU=[]:=by kernel_rfl
theorem U6:∀ l x A,E0 tP LI Tryz.f169 (aN Tryz.f169) JL DU 110 .str .none [.hnd 1] (.data [.int .i64]) l x A=iM l x A:=by
 rintro u0 ⟨v0,⟨⟩⟩ A
 kernel_rfl
theorem YB:LX tP 169 110 .str .none [.hnd 1] (.data [.int .i64]) iM:=yP bC U8 Tryz.func169 (c:=DU) (by kernel_rfl) (bV:=aN Tryz.f169) (lt:=JL) (by rfl) (aO T4 trivial) U6
abbrev LR:Shr:=(169,RL 0 (arH 110 .str .none [.hnd 1] (.data [.int .i64]) iM))
theorem UD:vA tP LR:=rG (g:=169) (f:=arH 110 .str .none [.hnd 1] (.data [.int .i64]) iM) (DC YB)
abbrev j7:List (Nat×Kd):=[(4,.own 3 TyE),(12,.hnd 1),(13,.int .i64),(14,.int .i64),(100000,.ar 110 .str)]
abbrev nC:List (Ex×List (Nat×Kd)):=[(.ret,[(2,.list TyE),(3,.int .i64),(100000,.ar 110 .str)]),(.exit 0,[(4,.own 3 TyE),(100000,.ar 110 .str)])]
def gX(x:Shape.den j7):oS j7 nC:=match x with
 | (v4,v12,v13,v14,v100000,()) =>
  bif ltI v14 v13 then
   bif aF v14 v12.2.2 then bif Nat.blt ((v12.2.1+v14.toNat)*1) (cS v100000 v12.1) then aC (OY ((dH v100000 v12.1 ((v12.2.1+v14.toNat)*1) ByteArray.empty),())) λy2 =>
   bif y2.2.1 then
    bif ltI 1000000000 y2.1 then
     some (.inr (.inl ([],4,v100000,())))
    else bif ltI y2.1 (-1000000000) then
     some (.inr (.inl ([],4,v100000,())))
    else bif Nat.ble [y2.1].length 1048576 then bif Nat.ble v4.length 1048576 then some (.inl ((v4++[y2.1]),(v12.1,v12.2.1,v12.2.2),v13,(aB .i64 (v14+1)),v100000,())) else none else none
   else some (.inr (.inl ([],4,v100000,()))) else none else none
  else some (.inr (.inr ((v4,v100000,()))))
def pL(x:Shape.den j7):oX nC:=bH gX (2^64) x
def kA(u0:Unit)(x:aK [.hnd 1])(A:List (List ByteArray)):Option ((aK [.list TyE,.int .i64])×List (List ByteArray)):=match x with
 | (v0,()) =>
  bif !(ltI ((v0.2.2:Nat):Int) 0) then bif !(ltI 1048576 ((v0.2.2:Nat):Int)) then aC (pL ((List.replicate 0 0),(v0.1,v0.2.1,v0.2.2),((v0.2.2:Nat):Int),0,A,())) λz3 =>
  yO z3 (λa4=>some ((a4.1,a4.2.1,()),a4.2.2.1)) λb5 =>
  some ((b5.1,0,()),b5.2.1) else none else none
def uW:Code:=eA Tryz.f170
abbrev CH:Env:=bL [aER]
theorem FM:aR tP CH:=aU ⟨aIS,trivial⟩
def yI:Code:=gQ uW 0
def AO(id:Nat):Option cG:=bif Nat.beq id 3 then some ⟨j7,nC,pL⟩ else none
theorem OV:∀ x,iK tP CH 39 (aN Tryz.f170) AO yI j7 nC x=gX x:=by
 rintro⟨v4,v12,v13,v14,v100000,⟨⟩⟩
 kernel_rfl
theorem RH:eG tP 39 yI ⟨j7,nC,pL⟩:=eN FM.callee bC.mixed _ (aO (l:=[]) (by kernel_rfl) trivial) OV
theorem RK:bF uW=[yI]:=by kernel_rfl
theorem TB:∀ l x A,E0 tP CH Tryz.f170 (aN Tryz.f170) AO uW 110 .str .none [.hnd 1] (.data [.list TyE,.int .i64]) l x A=kA l x A:=by
 rintro u0 ⟨v0,⟨⟩⟩ A
 kernel_rfl
theorem V9:LX tP 170 110 .str .none [.hnd 1] (.data [.list TyE,.int .i64]) kA:=yP bC FM Tryz.func170 (c:=uW) (by kernel_rfl) (bV:=aN Tryz.f170) (lt:=AO) (by rfl) (aO RK ⟨eL (i:=3) (by kernel_rfl) rfl RH,trivial⟩) TB
abbrev JF:Shr:=(170,RL 0 (arH 110 .str .none [.hnd 1] (.data [.list TyE,.int .i64]) kA))
theorem TS:vA tP JF:=rG (g:=170) (f:=arH 110 .str .none [.hnd 1] (.data [.list TyE,.int .i64]) kA) (DC V9)
abbrev l4:List (Nat×Kd):=[(3,.own 148 (.hnd 1)),(6,.list TyD),(7,.int .i64),(8,.int .i64),(100000,.ar 110 .str)]
abbrev pF:List (Ex×List (Nat×Kd)):=[(.exit 0,[(3,.own 148 (.hnd 1)),(100000,.ar 110 .str)])]
def dJ(x:Shape.den l4):oS l4 pF:=match x with
 | (v3,v6,v7,v8,v100000,()) =>
  bif ltI v8 v7 then
   bif aF v8 v6.length then aC (nX ((v6.getD v8.toNat []),())) λy2 =>
   bif Nat.ble [(v100000.length,0,y2.length)].length 1048576 then bif Nat.ble v3.length 1048576 then some (.inl ((v3++[(v100000.length,0,y2.length)]),v6,v7,(aB .i64 (v8+1)),(v100000++[y2]),())) else none else none else none
  else some (.inr ((v3,v100000,())))
def mU(x:Shape.den l4):oX pF:=bH dJ (2^64) x
def cN(u0:Unit)(x:aK [.list TyD])(A:List (List ByteArray)):Option ((List (Nat×Nat×Nat))×List (List ByteArray)):=match x with
 | (v0,()) =>
  aC (mU ([],v0,(v0.length:Int),0,A,())) λz3 =>
  some (z3.1,z3.2.1)
def yA:Code:=eA Tryz.f129
abbrev FF:Env:=ME [] [EA]
theorem IJ:aR tP FF:=nI trivial ⟨FH,trivial⟩
def BY:Code:=gQ yA 0
def C1(id:Nat):Option cG:=bif Nat.beq id 3 then some ⟨l4,pF,mU⟩ else none
theorem RP:∀ x,iK tP FF 19 (aN Tryz.f129) C1 BY l4 pF x=dJ x:=by
 rintro⟨v3,v6,v7,v8,v100000,⟨⟩⟩
 kernel_rfl
theorem T0:eG tP 19 BY ⟨l4,pF,mU⟩:=eN IJ.callee bC.mixed _ (aO (l:=[]) (by kernel_rfl) trivial) RP
theorem UT:bF yA=[BY]:=by kernel_rfl
theorem WL:∀ l x A,E0 tP FF Tryz.f129 (aN Tryz.f129) C1 yA 110 .str .none [.list TyD] (.own 148 (.hnd 1)) l x A=cN l x A:=by
 rintro u0 ⟨v0,⟨⟩⟩ A
 kernel_rfl
theorem aAU:LX tP 129 110 .str .none [.list TyD] (.own 148 (.hnd 1)) cN:=yP bC IJ Tryz.func129 (c:=yA) (by kernel_rfl) (bV:=aN Tryz.f129) (lt:=C1) (by rfl) (aO UT ⟨eL (i:=3) (by kernel_rfl) rfl T0,trivial⟩) WL
abbrev sV:Shr:=(129,RL 0 (arH 110 .str .none [.list TyD] (.own 148 (.hnd 1)) cN))
theorem tM:vA tP sV:=rG (g:=129) (f:=arH 110 .str .none [.list TyD] (.own 148 (.hnd 1)) cN) (DC aAU)
abbrev iB:List (Nat×Kd):=[(0,.own 148 (.hnd 1)),(1,.int .i64),(5,.int .i64),(6,.int .i64),(7,.int .i64),(8,.int .i64),(100000,.ar 110 .str)]
abbrev lL:List (Ex×List (Nat×Kd)):=[(.exit 4,[(0,.own 148 (.hnd 1)),(1,.int .i64),(5,.int .i64),(6,.int .i64),(7,.int .i64),(100000,.ar 110 .str)])]
def cW(x:Shape.den iB):oS iB lL:=match x with
 | (v0,v1,v5,v6,v7,v8,v100000,()) =>
  bif ltI v8 (v0.length:Int) then
   bif aF v8 v0.length then bif Nat.blt v8.toNat v0.length then bif aF v6 ((v0.getD v8.toNat (0,0,0)).2.2) then bif Nat.blt (((v0.getD v8.toNat (0,0,0)).2.1+v6.toNat)*1) (cS v100000 ((v0.getD v8.toNat (0,0,0)).1)) then bif !(eqS (dH v100000 ((v0.getD v8.toNat (0,0,0)).1) (((v0.getD v8.toNat (0,0,0)).2.1+v6.toNat)*1) ByteArray.empty) (ByteArray.mk #[48])) then
    bif ltI v7 0 then
     some (.inl (v0,v1,v5,v6,v8,(aB .i64 (v8+1)),v100000,()))
    else bif aF v8 v0.length then bif Nat.blt v8.toNat v0.length then bif aF v6 ((v0.getD v8.toNat (0,0,0)).2.2) then bif Nat.blt (((v0.getD v8.toNat (0,0,0)).2.1+v6.toNat)*1) (cS v100000 ((v0.getD v8.toNat (0,0,0)).1)) then aC (P1 ((dH v100000 ((v0.getD v8.toNat (0,0,0)).1) (((v0.getD v8.toNat (0,0,0)).2.1+v6.toNat)*1) ByteArray.empty),())) λy4 =>
    bif aF v7 v0.length then bif Nat.blt v7.toNat v0.length then bif aF v6 ((v0.getD v7.toNat (0,0,0)).2.2) then bif Nat.blt (((v0.getD v7.toNat (0,0,0)).2.1+v6.toNat)*1) (cS v100000 ((v0.getD v7.toNat (0,0,0)).1)) then aC (P1 ((dH v100000 ((v0.getD v7.toNat (0,0,0)).1) (((v0.getD v7.toNat (0,0,0)).2.1+v6.toNat)*1) ByteArray.empty),())) λy5 =>
    aC (IU (y4.1,y5.1,())) λy6 =>
    bif ltI y6.1 0 then
     some (.inl (v0,v1,v5,v6,v8,(aB .i64 (v8+1)),v100000,()))
    else some (.inl (v0,v1,v5,v6,v7,(aB .i64 (v8+1)),v100000,())) else none else none else none else none else none else none else none else none
   else some (.inl (v0,v1,v5,v6,v7,(aB .i64 (v8+1)),v100000,())) else none else none else none else none
  else some (.inr ((v0,v1,v5,v6,v7,v100000,())))
def jT(x:Shape.den iB):oX lL:=bH cW (2^64) x
abbrev iD:List (Nat×Kd):=[(0,.own 148 (.hnd 1)),(1,.int .i64),(5,.int .i64),(6,.int .i64),(9,.bool),(10,.int .i64),(100000,.ar 110 .str)]
abbrev lQ:List (Ex×List (Nat×Kd)):=[(.exit 6,[(0,.own 148 (.hnd 1)),(1,.int .i64),(5,.int .i64),(6,.int .i64),(9,.bool),(100000,.ar 110 .str)])]
def eB(x:Shape.den iD):oS iD lQ:=match x with
 | (v0,v1,v5,v6,v9,v10,v100000,()) =>
  bif ltI v10 (v0.length:Int) then
   bif aF v10 v0.length then bif Nat.blt v10.toNat v0.length then bif aF v6 ((v0.getD v10.toNat (0,0,0)).2.2) then bif Nat.blt (((v0.getD v10.toNat (0,0,0)).2.1+v6.toNat)*1) (cS v100000 ((v0.getD v10.toNat (0,0,0)).1)) then bif aF v5 v0.length then bif Nat.blt v5.toNat v0.length then bif aF v6 ((v0.getD v5.toNat (0,0,0)).2.2) then bif Nat.blt (((v0.getD v5.toNat (0,0,0)).2.1+v6.toNat)*1) (cS v100000 ((v0.getD v5.toNat (0,0,0)).1)) then aC (BV ((dH v100000 ((v0.getD v10.toNat (0,0,0)).1) (((v0.getD v10.toNat (0,0,0)).2.1+v6.toNat)*1) ByteArray.empty),(dH v100000 ((v0.getD v5.toNat (0,0,0)).1) (((v0.getD v5.toNat (0,0,0)).2.1+v6.toNat)*1) ByteArray.empty),())) λy10 =>
   bif aF v10 v0.length then bif Nat.blt v10.toNat v0.length then bif aF v5 v0.length then bif Nat.blt v5.toNat v0.length then aC (fS () (((v0.getD v10.toNat (0,0,0)).1,(v0.getD v10.toNat (0,0,0)).2.1,(v0.getD v10.toNat (0,0,0)).2.2),y10.1,((v0.getD v5.toNat (0,0,0)).1,(v0.getD v5.toNat (0,0,0)).2.1,(v0.getD v5.toNat (0,0,0)).2.2),()) v100000) λy11 =>
   bif v9 then
    some (.inl (v0,v1,v5,v6,true,(aB .i64 (v10+1)),y11.2,()))
   else some (.inl (v0,v1,v5,v6,!(eqS y10.2.1 (ByteArray.mk #[48])),(aB .i64 (v10+1)),y11.2,())) else none else none else none else none else none else none else none else none else none else none else none else none
  else some (.inr ((v0,v1,v5,v6,v9,v100000,())))
def nN(x:Shape.den iD):oX lQ:=bH eB (2^64) x
abbrev iA:List (Nat×Kd):=[(0,.own 148 (.hnd 1)),(1,.int .i64),(5,.int .i64),(6,.int .i64),(142,.int .i64),(143,.int .i64),(100000,.ar 110 .str)]
abbrev lF:List (Ex×List (Nat×Kd)):=[(.exit 8,[(0,.own 148 (.hnd 1)),(1,.int .i64),(5,.int .i64),(6,.int .i64),(100000,.ar 110 .str)])]
def jU(x:Shape.den iA):oS iA lF:=match x with
 | (v0,v1,v5,v6,v142,v143,v100000,()) =>
  bif ltI v143 v142 then
   bif aF v143 v0.length then bif Nat.blt v143.toNat v0.length then bif aF v6 ((v0.getD v143.toNat (0,0,0)).2.2) then bif Nat.blt (((v0.getD v143.toNat (0,0,0)).2.1+v6.toNat)*1) (cS v100000 ((v0.getD v143.toNat (0,0,0)).1)) then bif aF v5 v0.length then bif Nat.blt v5.toNat v0.length then bif aF v6 ((v0.getD v5.toNat (0,0,0)).2.2) then bif Nat.blt (((v0.getD v5.toNat (0,0,0)).2.1+v6.toNat)*1) (cS v100000 ((v0.getD v5.toNat (0,0,0)).1)) then aC (BV ((dH v100000 ((v0.getD v143.toNat (0,0,0)).1) (((v0.getD v143.toNat (0,0,0)).2.1+v6.toNat)*1) ByteArray.empty),(dH v100000 ((v0.getD v5.toNat (0,0,0)).1) (((v0.getD v5.toNat (0,0,0)).2.1+v6.toNat)*1) ByteArray.empty),())) λy17 =>
   bif aF v143 v0.length then bif Nat.blt v143.toNat v0.length then bif aF v5 v0.length then bif Nat.blt v5.toNat v0.length then aC (fS () (((v0.getD v143.toNat (0,0,0)).1,(v0.getD v143.toNat (0,0,0)).2.1,(v0.getD v143.toNat (0,0,0)).2.2),y17.1,((v0.getD v5.toNat (0,0,0)).1,(v0.getD v5.toNat (0,0,0)).2.1,(v0.getD v5.toNat (0,0,0)).2.2),()) v100000) λy18 =>
   some (.inl (v0,v1,v5,v6,v142,(aB .i64 (v143+1)),y18.2,())) else none else none else none else none else none else none else none else none else none else none else none else none
  else some (.inr ((v0,v1,v5,v6,v100000,())))
def cX(x:Shape.den iA):oX lF:=bH jU (2^64) x
abbrev gY:List (Nat×Kd):=[(0,.own 148 (.hnd 1)),(1,.int .i64),(5,.int .i64),(6,.int .i64),(100000,.ar 110 .str)]
abbrev lR:List (Ex×List (Nat×Kd)):=[(.exit 2,[(0,.own 148 (.hnd 1)),(1,.int .i64),(5,.int .i64),(6,.int .i64),(100000,.ar 110 .str)])]
def cY(x:Shape.den gY):oS gY lR:=match x with
 | (v0,v1,v5,v6,v100000,()) =>
  aC (jT (v0,v1,v5,v6,(-1),v5,v100000,())) λz21 =>
  bif ltI z21.2.2.2.2.1 0 then
   some (.inr ((z21.1,z21.2.1,z21.2.2.1,z21.2.2.2.1,z21.2.2.2.2.2.1,())))
  else bif aF z21.2.2.2.2.1 z21.1.length then bif Nat.blt z21.2.2.2.2.1.toNat z21.1.length then bif aF z21.2.2.1 z21.1.length then bif Nat.blt z21.2.2.1.toNat z21.1.length then bif aF z21.2.2.1 z21.1.length then bif Nat.blt z21.2.2.1.toNat z21.1.length then bif aF z21.2.2.2.2.1 (z21.1.set z21.2.2.1.toNat ((z21.1.getD z21.2.2.2.2.1.toNat (0,0,0)).1,(z21.1.getD z21.2.2.2.2.1.toNat (0,0,0)).2.1,(z21.1.getD z21.2.2.2.2.1.toNat (0,0,0)).2.2)).length then bif Nat.blt z21.2.2.2.2.1.toNat (z21.1.set z21.2.2.1.toNat ((z21.1.getD z21.2.2.2.2.1.toNat (0,0,0)).1,(z21.1.getD z21.2.2.2.2.1.toNat (0,0,0)).2.1,(z21.1.getD z21.2.2.2.2.1.toNat (0,0,0)).2.2)).length then aC (nN (((z21.1.set z21.2.2.1.toNat ((z21.1.getD z21.2.2.2.2.1.toNat (0,0,0)).1,(z21.1.getD z21.2.2.2.2.1.toNat (0,0,0)).2.1,(z21.1.getD z21.2.2.2.2.1.toNat (0,0,0)).2.2)).set z21.2.2.2.2.1.toNat ((z21.1.getD z21.2.2.1.toNat (0,0,0)).1,(z21.1.getD z21.2.2.1.toNat (0,0,0)).2.1,(z21.1.getD z21.2.2.1.toNat (0,0,0)).2.2)),z21.2.1,z21.2.2.1,z21.2.2.2.1,false,(aB .i64 (z21.2.2.1+1)),z21.2.2.2.2.2.1,())) λz22 =>
  bif z22.2.2.2.2.1 then
   some (.inl (z22.1,z22.2.1,z22.2.2.1,z22.2.2.2.1,z22.2.2.2.2.2.1,()))
  else bif aF z22.2.2.1 z22.1.length then bif Nat.blt z22.2.2.1.toNat z22.1.length then bif aF z22.2.2.2.1 ((z22.1.getD z22.2.2.1.toNat (0,0,0)).2.2) then bif Nat.blt (((z22.1.getD z22.2.2.1.toNat (0,0,0)).2.1+z22.2.2.2.1.toNat)*1) (cS z22.2.2.2.2.2.1 ((z22.1.getD z22.2.2.1.toNat (0,0,0)).1)) then aC (DP ((dH z22.2.2.2.2.2.1 ((z22.1.getD z22.2.2.1.toNat (0,0,0)).1) (((z22.1.getD z22.2.2.1.toNat (0,0,0)).2.1+z22.2.2.2.1.toNat)*1) ByteArray.empty),())) λy23 =>
  bif ltI y23.1 0 then
   bif aF z22.2.2.1 z22.1.length then bif Nat.blt z22.2.2.1.toNat z22.1.length then aC (eM () (((z22.1.getD z22.2.2.1.toNat (0,0,0)).1,(z22.1.getD z22.2.2.1.toNat (0,0,0)).2.1,(z22.1.getD z22.2.2.1.toNat (0,0,0)).2.2),()) z22.2.2.2.2.2.1) λy24 =>
   aC (cX (z22.1,z22.2.1,z22.2.2.1,z22.2.2.2.1,z22.2.2.1,0,y24.2,())) λz25 =>
   some (.inr ((z25.1,z25.2.1,(aB .i64 (z25.2.2.1+1)),z25.2.2.2.1,z25.2.2.2.2.1,()))) else none else none
  else aC (cX (z22.1,z22.2.1,z22.2.2.1,z22.2.2.2.1,z22.2.2.1,0,z22.2.2.2.2.2.1,())) λz26 =>
  some (.inr ((z26.1,z26.2.1,(aB .i64 (z26.2.2.1+1)),z26.2.2.2.1,z26.2.2.2.2.1,()))) else none else none else none else none else none else none else none else none else none else none else none else none
def jS(x:Shape.den gY):oX lR:=bH cY (2^64) x
abbrev gW:List (Nat×Kd):=[(0,.own 148 (.hnd 1)),(1,.int .i64),(5,.int .i64),(6,.int .i64),(100000,.ar 110 .str)]
abbrev lG:List (Ex×List (Nat×Kd)):=[(.exit 0,[(0,.own 148 (.hnd 1)),(5,.int .i64),(100000,.ar 110 .str)])]
def dZ(x:Shape.den gW):oS gW lG:=match x with
 | (v0,v1,v5,v6,v100000,()) =>
  bif ltI v6 v1 then
   bif ltI v5 (v0.length:Int) then
    aC (jS (v0,v1,v5,v6,v100000,())) λz28 =>
    some (.inl (z28.1,z28.2.1,z28.2.2.1,(aB .i64 (z28.2.2.2.1+1)),z28.2.2.2.2.1,()))
   else some (.inr ((v0,v5,v100000,())))
  else some (.inr ((v0,v5,v100000,())))
def nH(x:Shape.den gW):oX lG:=bH dZ (2^64) x
def cP(v0:List (Nat×Nat×Nat))(x:aK [.int .i64])(A:List (List ByteArray)):Option ((List (Nat×Nat×Nat))×List (List ByteArray)):=match x with
 | (v1,()) =>
  aC (nH (v0,v1,0,0,A,())) λz29 =>
  bif Nat.beq z29.1.length 0 then
   bif !(ltI z29.2.1 0) then bif Nat.beq z29.2.1.toNat 0 then some (z29.1,z29.2.2.1) else none else none
  else bif !(ltI z29.2.1 0) then bif Nat.ble 0 z29.2.1.toNat then bif Nat.ble z29.2.1.toNat z29.1.length then bif Nat.blt 0 z29.1.length then some (z29.1.take (z29.2.1.toNat-0),z29.2.2.1) else none else none else none else none
def sC:Code:=eA Tryz.f121
abbrev gV:Env:=ME [aJ4,ZU,TC,aAB] [L7,HY]
theorem gZ:aR tP gV:=nI ⟨aMO,aE8,VF,Y6,trivial⟩ ⟨U5,RO,trivial⟩
def l9:Code:=gQ sC 0
def fL:Code:=gQ l9 0
def vN:Code:=gQ fL 0
def vM:Code:=gQ fL 1
def vI:Code:=gQ fL 2
def fX(id:Nat):Option cG:=bif Nat.beq id 7 then some ⟨iB,lL,jT⟩ else bif Nat.beq id 15 then some ⟨iD,lQ,nN⟩ else bif Nat.beq id 24 then some ⟨iA,lF,cX⟩ else bif Nat.beq id 5 then some ⟨gY,lR,jS⟩ else bif Nat.beq id 3 then some ⟨gW,lG,nH⟩ else none
theorem LB:∀ x,iK tP gV 181 (aN Tryz.f121) fX vN iB lL x=cW x:=by
 rintro⟨v0,v1,v5,v6,v7,v8,v100000,⟨⟩⟩
 kernel_rfl
theorem MI:eG tP 181 vN ⟨iB,lL,jT⟩:=eN gZ.callee bC.mixed _ (aO (l:=[]) (by kernel_rfl) trivial) LB
theorem LP:∀ x,iK tP gV 181 (aN Tryz.f121) fX vM iD lQ x=eB x:=by
 rintro⟨v0,v1,v5,v6,v9,v10,v100000,⟨⟩⟩
 kernel_rfl
theorem MX:eG tP 181 vM ⟨iD,lQ,nN⟩:=eN gZ.callee bC.mixed _ (aO (l:=[]) (by kernel_rfl) trivial) LP
theorem K6:∀ x,iK tP gV 181 (aN Tryz.f121) fX vI iA lF x=jU x:=by
 rintro⟨v0,v1,v5,v6,v142,v143,v100000,⟨⟩⟩
 kernel_rfl
theorem MZ:eG tP 181 vI ⟨iA,lF,cX⟩:=eN gZ.callee bC.mixed _ (aO (l:=[]) (by kernel_rfl) trivial) K6
theorem LS:∀ x,iK tP gV 181 (aN Tryz.f121) fX fL gY lR x=cY x:=by
 rintro⟨v0,v1,v5,v6,v100000,⟨⟩⟩
 kernel_rfl
theorem QV:bF fL=[vN,vM,vI]:=by kernel_rfl
theorem MS:eG tP 181 fL ⟨gY,lR,jS⟩:=eN gZ.callee bC.mixed _ (aO QV ⟨eL (i:=7) (by kernel_rfl) rfl MI,eL (i:=15) (by kernel_rfl) rfl MX,eL (i:=24) (by kernel_rfl) rfl MZ,trivial⟩) LS
theorem K7:∀ x,iK tP gV 181 (aN Tryz.f121) fX l9 gW lG x=dZ x:=by
 rintro⟨v0,v1,v5,v6,v100000,⟨⟩⟩
 kernel_rfl
theorem QK:bF l9=[fL]:=by kernel_rfl
theorem M4:eG tP 181 l9 ⟨gW,lG,nH⟩:=eN gZ.callee bC.mixed _ (aO QK ⟨eL (i:=5) (by kernel_rfl) rfl MS,trivial⟩) K7
theorem OI:bF sC=[l9]:=by kernel_rfl
theorem RG:∀ l x A,E0 tP gV Tryz.f121 (aN Tryz.f121) fX sC 110 .str (.own 148 (.hnd 1)) [.int .i64] (.own 148 (.hnd 1)) l x A=cP l x A:=by
 rintro u0 ⟨v1,⟨⟩⟩ A
 kernel_rfl
theorem TR:LX tP 121 110 .str (.own 148 (.hnd 1)) [.int .i64] (.own 148 (.hnd 1)) cP:=yP bC gZ Tryz.func121 (c:=sC) (by kernel_rfl) (bV:=aN Tryz.f121) (lt:=fX) (by rfl) (aO OI ⟨eL (i:=3) (by kernel_rfl) rfl M4,trivial⟩) RG
abbrev kX:Shr:=(121,RL 1 (arH 110 .str (.own 148 (.hnd 1)) [.int .i64] (.own 148 (.hnd 1)) cP))
theorem lI:vA tP kX:=rG (g:=121) (f:=arH 110 .str (.own 148 (.hnd 1)) [.int .i64] (.own 148 (.hnd 1)) cP) (DC TR)
end Go.PM
namespace Go.PM
open Go Go.RowKit Go.Proofs
def Dn(u:Nat):ByteArray:=⟨(Lib.decDigits u).toArray⟩
def Zn(n:Int):ByteArray:=⟨(Lib.itoa n).toArray⟩
theorem BB(u:Nat):(Dn u).data.toList=Lib.decDigits u:=by simp[Dn]
theorem a5C(n:Int):(Zn n).data.toList=Lib.itoa n:=by simp[Zn]
theorem aDR(u:Nat):Zn (u:Int)=Dn u:=by unfold Zn Dn; rw[Lib.itoa_nonneg]
theorem aSF {n:Int}(h:n.natAbs<10^20):aT5 n=Zn n:=aLA h
theorem WT {n:Int}(h:n<0):(Zn n).data.toList=45::Lib.decDigits n.natAbs:=by rw[a5C,Lib.itoa,if_pos h]
theorem T6 {n:Int}(h:0<=n):Zn n=Dn n.natAbs:=by
 obtain⟨u,rfl⟩:∃ u:Nat,n=u:=⟨n.natAbs,by omega⟩;rw[aDR]; congr 1
theorem Q4 {a b:ByteArray}(h:a.data.toList=b.data.toList):a=b:=by
 cases a; cases b
 congr 1
 exact Array.ext' h
theorem VG(a:ByteArray):a.size=a.data.toList.length:=by cases a; rfl
theorem aKL(l m:List UInt8):∀ (acc:Nat),Lib.decFrom acc (l++m)=(Lib.decFrom acc l).bind λa=>Lib.decFrom a m:=by
 induction l with
 | nil=>intro acc; rfl
 | cons b l ih =>
  intro acc;rw[List.cons_append,Lib.decFrom,Lib.decFrom];split
  ·exact ih _
  ·rfl
theorem aOZ {d:Nat}(h:d<10):Lib.digitVal (UInt8.ofNat (48+d))=some d:=by
 have h1:(UInt8.ofNat (48+d)).toNat=48+d:=by
  rw[UInt8.toNat_ofNat'];omega
 unfold Lib.digitVal;rw[h1,if_pos (by omega)]
 congr 1
 omega
theorem pI(u:Nat):Lib.decFrom 0 (Lib.decDigits u)=some u:=by
 induction u using Nat.strongRecOn with
 | _ u ih =>
  rw[Lib.decDigits];split
  ·rename_i h;rw[Lib.decFrom,aOZ h];simp[Lib.decFrom]
  ·rename_i h;rw[aKL,ih (u/10) (by omega)];simp only[Option.bind_some];rw[Lib.decFrom,aOZ (Nat.mod_lt _ (by decide))];simp only[Lib.decFrom]
   congr 1
   omega
theorem I4(u:Nat):Lib.decDigits u≠[]:=by
 rw[Lib.decDigits];split <;> simp
theorem K1(u:Nat):∀ b∈Lib.decDigits u,48<=b.toNat/\b.toNat<=57:=by
 induction u using Nat.strongRecOn with
 | _ u ih =>
  intro b hb;rw[Lib.decDigits]at hb;have key:∀ d,d<10->48<=(UInt8.ofNat (48+d)).toNat/\(UInt8.ofNat (48+d)).toNat<=57:=λd h=>by rw[UInt8.toNat_ofNat']; omega
  split at hb
  ·rename_i h;simp only[List.mem_singleton]at hb;subst hb;exact key u h
  ·rename_i h;simp only[List.mem_append,List.mem_singleton]at hb;rcases hb with hb|rfl
   ·exact ih (u/10) (by omega) b hb
   ·exact key _ (Nat.mod_lt _ (by decide))
theorem a0D {a b:Nat}(h:Dn a=Dn b):a=b:=by
 have h1:=congrArg (λx:ByteArray=>Lib.decFrom 0 x.data.toList) h;simp only[BB,pI]at h1;exact Option.some.inj h1
theorem aHR {n:Int}(h:n<0)(m:Nat):Zn n≠Dn m:=by
 intro e;have h1:=congrArg (λx:ByteArray=>x.data.toList) e;simp only[WT h,BB]at h1;have:=K1 m 45 (by rw[<- h1]; simp);have e45:(45:UInt8).toNat=45:=by decide
 omega
theorem a5Z {a b:Int}(h:Zn a=Zn b):a=b:=by
 rcases(by omega:a<0\/0<=a)with ha|ha
 ·rcases(by omega:b<0\/0<=b)with hb|hb
  ·have h1:=congrArg (λx:ByteArray=>x.data.toList) h;simp only[WT ha,WT hb,List.cons.injEq,true_and]at h1;have h2:=congrArg (Lib.decFrom 0) h1;rw[pI,pI]at h2;have:=Option.some.inj h2;omega
  ·rw[T6 hb]at h;exact absurd h (aHR ha _)
 ·rcases(by omega:b<0\/0<=b)with hb|hb
  ·rw[T6 ha]at h;exact absurd h.symm (aHR hb _)
  ·rw[T6 ha,T6 hb]at h;have:=a0D h;omega
theorem a18(a b:ByteArray):eqS a b=decide (a=b):=by
 unfold eqS
 by_cases h:a=b
 ·subst h; simp
 ·have:¬ a.data=b.data:=λe=>h (Q4 (by rw[e]))
  simp[h,this]
theorem a6E:ByteArray.mk #[48]=Dn 0:=Q4 (by rw[BB,Lib.decDigits]; rfl)
theorem a8S:ByteArray.mk #[49]=Dn 1:=Q4 (by rw[BB,Lib.decDigits]; rfl)
theorem OL(n:Int):eqS (Zn n) (ByteArray.mk #[48])=decide (n=0):=by
 rw[a18,a6E,show Dn 0=Zn 0 from(aDR 0).symm]
 by_cases h:n=0
 ·subst h; simp
 ·have:¬ Zn n=Zn 0:=λe=>h (a5Z e)
  simp[h,this]
theorem aJG(n:Nat):eqS (Dn n) (ByteArray.mk #[48])=decide (n=0):=by
 rw[<- aDR,OL];simp
theorem D9(u:Nat):(Dn u).size=Lib.nDigits u:=by rw[VG,BB,Lib.decDigits_length]
theorem HO {n:Int}(h:n<0):(Zn n).size=Lib.nDigits n.natAbs+1:=by rw[VG,WT h,List.length_cons,Lib.decDigits_length]
theorem uF {u k:Nat}:u<10^(k+1)->Lib.nDigits u<=k+1:=by
 induction k generalizing u with
 | zero=>intro h; rw[Lib.nDigits_small (by simpa using h)]; exact Nat.le_refl _
 | succ k ih =>
  intro h
  by_cases h1:u<10
  ·rw[Lib.nDigits_small h1]; omega
  ·rw[Lib.nDigits_big h1];have:=ih (u:=u/10) (by rw[Nat.pow_succ]at h; omega);omega
theorem jZ(u:Nat):u<10^Lib.nDigits u:=by
 have:=Lib.decFrom_lt _ _ _ (pI u);rw[Lib.decDigits_length]at this;simpa using this
theorem nDigits_pos(u:Nat):1<=Lib.nDigits u:=by rw[Lib.nDigits]; split <;> omega
theorem a3M(n:Int):Lib.atoi (Zn n).data.toList=some n:=by
 rcases(by omega:n<0\/0<=n)with h|h
 ·rw[WT h];have hne:(Lib.decDigits n.natAbs).isEmpty=false:=by
   cases e:Lib.decDigits n.natAbs with
   | nil=>exact absurd e (I4 _)
   | cons _ _=>rfl
  simp only[Lib.atoi,Lib.decNat,hne,pI];simp;omega
 ·rw[T6 h,BB];have h1:=pI n.natAbs;have h2:=K1 n.natAbs;cases e:Lib.decDigits n.natAbs with
  | nil=>exact absurd e (I4 _)
  | cons b r =>
   rw[e]at h1 h2;have hb:=h2 b (by simp);have n45:(b==45)=false:=by
    rw[beq_eq_false_iff_ne]; rintro rfl;have:(45:UInt8).toNat=45:=by decide
    omega
   have n43:(b==43)=false:=by
    rw[beq_eq_false_iff_ne]; rintro rfl;have:(43:UInt8).toNat=43:=by decide
    omega
   simp only[Lib.atoi,n45,n43,Lib.decNat,h1];simp;omega
theorem aO2(u:Nat):Lib.decNat (Dn u).data.toList=some u:=by
 have hne:(Lib.decDigits u).isEmpty=false:=by
  cases e:Lib.decDigits u with
  | nil=>exact absurd e (I4 _)
  | cons _ _=>rfl
 simp only[BB,Lib.decNat,hne,pI];simp
theorem aDJ:∀ (l:List UInt8) (acc n:Nat),Lib.decFrom acc l=some n->acc*10^l.length<=n
 | [],acc,n,h=>by
  obtain rfl:=Option.some.inj h;simp
 | b::l,acc,n,h=>by
  rw[Lib.decFrom]at h;split at h
  ·rename_i d hd;have:=aDJ l _ n h;rw[List.length_cons,Nat.pow_succ];have h1:(acc*10+d)*10^l.length=acc*(10^l.length*10)+d*10^l.length:=by grind
   omega
  ·cases h
theorem U3:∀ (l m:List UInt8) (acc x y:Nat),l.length=m.length->Lib.decFrom acc l=some x->Lib.decFrom acc m=some y->Op.bytesLess l m=decide (x<y)
 | [],[],acc,x,y,_,h1,h2=>by
  obtain rfl:=Option.some.inj h1;obtain rfl:=Option.some.inj h2;simp[Op.bytesLess]
 | [],_::_,_,_,_,h,_,_=>by simp at h
 | _::_,[],_,_,_,h,_,_=>by simp at h
 | c::l,d::m,acc,x,y,h,h1,h2=>by
  have hl:l.length=m.length:=by simpa using h
  have digit:∀ (b:UInt8) (e:Nat),Lib.digitVal b=some e->b.toNat=48+e/\e<10:=by
   intro b e he;unfold Lib.digitVal at he;split at he
   ·have:=Option.some.inj he;omega
   ·cases he
  rw[Lib.decFrom]at h1 h2;split at h1
  ·rename_i e1 he1;split at h2
   ·rename_i e2 he2;obtain⟨c1,c2⟩:=digit c e1 he1;obtain⟨d1,d2⟩:=digit d e2 he2;have x1:=Lib.decFrom_lt l _ x h1;have x2:=aDJ l _ x h1;have y1:=Lib.decFrom_lt m _ y h2;have y2:=aDJ m _ y h2;rw[hl]at x1 x2;rw[Op.bytesLess];rcases Nat.lt_trichotomy e1 e2 with g|g|g
    ·have lt:c<d:=by rw[UInt8.lt_iff_toNat_lt]; omega
     have:(acc*10+e1+1)*10^m.length<=(acc*10+e2)*10^m.length:=Nat.mul_le_mul_right _ (by omega);have hxy:x<y:=by omega
     simp[lt,hxy]
    ·subst g;have e:c=d:=UInt8.toNat_inj.1 (by omega);subst e;have lt:¬ c<c:=by rw[UInt8.lt_iff_toNat_lt]; omega
     simp[lt,U3 l m _ x y hl h1 h2]
    ·have lt:¬ c<d:=by rw[UInt8.lt_iff_toNat_lt]; omega
     have ne:¬ c=d:=by rintro rfl; omega
     have:(acc*10+e2+1)*10^m.length<=(acc*10+e1)*10^m.length:=Nat.mul_le_mul_right _ (by omega);have hxy:¬ x<y:=by omega
     simp[lt,ne,hxy]
   ·cases h2
  ·cases h1
theorem a6Q {a b:Nat}(h:Lib.nDigits a=Lib.nDigits b):ltS (Dn a) (Dn b)=decide (a<b):=by
 unfold ltS;rw[BB,BB];exact U3 _ _ 0 a b (by rw[Lib.decDigits_length,Lib.decDigits_length,h]) (pI a) (pI b)
theorem xR {a b:Nat}(h:a<=b):Lib.nDigits a<=Lib.nDigits b:=by
 obtain⟨k,hk⟩:∃ k,Lib.nDigits b=k+1:=⟨Lib.nDigits b-1,by have:=nDigits_pos b; omega⟩;rw[hk];refine uF (Nat.lt_of_le_of_lt h ?_);rw[<- hk];exact jZ b
theorem a54(a b:Nat):eqS (Dn a) (Dn b)=decide (a=b):=by
 rw[a18]
 by_cases h:a=b
 ·subst h; simp
 ·have:¬ Dn a=Dn b:=λe=>h (a0D e)
  simp[h,this]
def aBR(a b:Nat):Int:=if a<b then -1 else if b<a then 1 else 0
theorem vV(a b:Nat)(ha:Lib.nDigits a<2^32)(hb:Lib.nDigits b<2^32):fN (Dn a,Dn b,())=some (aBR a b,()):=by
 unfold fN;dsimp only;rw[D9,D9];have hpa:=nDigits_pos a;have hpb:=nDigits_pos b
 by_cases h:Lib.nDigits a=Lib.nDigits b
 ·have h1:eqI (Lib.nDigits a:Int) (Lib.nDigits b:Int)=true:=by rw[iL]; simp[h]
  rw[h1,a6Q h,a54];simp only[Bool.not_true,oD];unfold aBR
  by_cases h2:a<b
  ·simp[h2]
  ·by_cases h3:a=b
   ·subst h3; simp
   ·have:b<a:=by omega
    simp[h2,h3,this]
 ·have h1:eqI (Lib.nDigits a:Int) (Lib.nDigits b:Int)=false:=by rw[iL]; simp; omega
  rw[h1];simp only[Bool.not_false,oC];rw[wrap64 (by omega) (by omega)]
  congr 2
  unfold aBR
  by_cases h2:a<b
  ·have:=xR (Nat.le_of_lt h2);have h4:¬ (-1:Int)<(Lib.nDigits a:Int)-(Lib.nDigits b:Int):=by omega
   rw[if_pos h2,if_neg h4];rfl
  ·have h3:b<a:=by
    rcases Nat.lt_or_ge b a with g|g
    ·exact g
    ·have:a=b:=by omega
     subst this; exact absurd rfl h
   have:=xR (Nat.le_of_lt h3);have h4:(-1:Int)<(Lib.nDigits a:Int)-(Lib.nDigits b:Int):=by omega
   have h5:¬ (Lib.nDigits a:Int)-(Lib.nDigits b:Int)<1:=by omega
   rw[if_neg h2,if_pos h3,if_pos h4,if_neg h5]
theorem uG(n:Int) (h1 : -9223372036854775808<=n) (h2:n<9223372036854775808):j8 (n,())=some (Zn n,()):=by
 unfold j8 FX;have e1:ltI n (-9223372036854775808)=false:=by rw[aD]; simp; omega
 have e2:ltI 9223372036854775807 n=false:=by rw[aD]; simp; omega
 simp only[e1,e2,Bool.not_false,Bool.and_self,oC,aE,aSF (n:=n) (by omega)]
theorem JS(u:Nat)(h:u<18446744073709551616):tT ((u:Int),())=some (Dn u,()):=by
 unfold tT sT;have e1:ltI (u:Int) 0=false:=by rw[aD]; simp
 have e2:ltI (u:Int) 18446744073709551616=true:=by rw[aD]; simp; omega
 have e3:eqI 10 10=true:=by decide
 simp only[e1,e2,e3,Bool.not_false,Bool.and_self,oC,aE,aSF (n:=(u:Int)) (by simp; omega),aDR]
theorem aB4(u:Nat)(h:Lib.nDigits u<=18):D2 (Dn u,())=some ((u:Int),true,()):=by
 unfold D2 uV;have e1:Nat.ble (Dn u).size 1000000000=true:=by rw[dM,D9]; simp; omega
 have e2:eqI 10 10=true:=by decide
 have e3:eqI 64 64=true:=by decide
 have e4:Lib.parseUintB 64 (Dn u).data.toList=.ok u:=by
  rw[Lib.parseUintB_64,Lib.parseMag_short _ (by rw[BB,Lib.decDigits_length]; exact h),aO2];rfl
 simp only[e1,e2,e3,Bool.and_self,oC,aE,e4]
theorem OR(a b:Nat)(ha:Lib.nDigits a<=18)(hb:Lib.nDigits b<=18):rE (Dn a,Dn b,())=some ((a:Int),(b:Int),true,()):=by
 unfold rE;have e1:ltI 18 ((Dn a).size:Int)=false:=by rw[aD,D9]; simp; omega
 have e2:ltI 18 ((Dn b).size:Int)=false:=by rw[aD,D9]; simp; omega
 simp only[e1,e2,oD,aB4 a ha,aB4 b hb,aE]
theorem aA3 {s:ByteArray}{c:UInt8}{l:List UInt8}(h:s.data.toList=c::l):aM1 s 0=(c.toNat:Int):=by
 have h1:s[0]?=some c:=by
  have h2:s.size=l.length+1:=by rw[VG,h]; rfl
  have h3:s.data[0]?=some c:=by rw[<- Array.getElem?_toList,h]; rfl
  have h4:s[0]?=s.data[0]?:=by cases s; rfl
  rw[h4,h3]
 unfold aM1;rw[h1]
theorem aXI(u:Nat):∃ c l,(Dn u).data.toList=c::l/\c.toNat≠45:=by
 have h:=K1 u;rw[BB];cases e:Lib.decDigits u with
 | nil=>exact absurd e (I4 _)
 | cons c l =>
  rw[e]at h;have:=h c (by simp);exact⟨c,l,rfl,by omega⟩
theorem aPQ {s:ByteArray}{c:UInt8}{l:List UInt8}(h:s.data.toList=c::l):s.extract 1 s.size=⟨l.toArray⟩:=by
 refine Q4 ?_;have h1:(s.extract 1 s.size).data=s.data.extract 1 s.data.size:=ByteArray.data_extract;rw[h1,Array.toList_extract,List.extract_eq_take_drop,h];have h2:s.data.size=l.length+1:=by rw[<- Array.length_toList,h]; rfl
 rw[h2];simp
theorem tR(n:Int):cK (Zn n,())=some (decide (n<0),Dn n.natAbs,()):=by
 unfold cK
 by_cases h:n<0
 ·have hz:=WT h;have e1:ltI 0 ((Zn n).size:Int)=true:=by rw[aD,HO h]; simp <;> omega
  have e2:aF 0 (Zn n).size=true:=by rw[aM,HO h]; simp <;> omega
  have e3:aM1 (Zn n) 0=45:=by rw[aA3 hz]; rfl
  have e4:Nat.ble 1 (Zn n).size=true:=by rw[dM,HO h]; simp
  have e5:Nat.ble (Zn n).size (Zn n).size=true:=by rw[dM]; simp
  have e6:eqI 45 45=true:=by decide
  simp only[e1,e2,e3,e4,e5,e6,oC,aPQ hz,h,decide_true,Dn]
 ·rw[T6 (by omega)];obtain⟨c,l,h1,h2⟩:=aXI n.natAbs;have hs:(Dn n.natAbs).size=l.length+1:=by rw[VG,h1]; rfl
  have e1:ltI 0 ((Dn n.natAbs).size:Int)=true:=by rw[aD,hs]; simp <;> omega
  have e2:aF 0 (Dn n.natAbs).size=true:=by rw[aM,hs]; simp <;> omega
  have e3:eqI (aM1 (Dn n.natAbs) 0) 45=false:=by rw[aA3 h1,iL]; simp <;> omega
  simp only[e1,e2,e3,oC,oD,h,decide_false]
theorem aK4(b:Bool)(m:Nat)(hm:Lib.nDigits m<2^32):aA (b,Dn m,())=some (Zn (if b then -(m:Int) else m),()):=by
 unfold aA;cases b with
 | false=>simp[aDR]
 | true =>
  have e2:Nat.ble ((ByteArray.mk #[45]).size+(Dn m).size) 9223372036854775807=true:=by
   rw[dM,D9];have:(ByteArray.mk #[45]).size=1:=rfl;rw[this]; simp <;> omega
  simp only[oC,aJG,e2]
  by_cases h:m=0
  ·subst h;simp only[decide_true,Bool.not_true,oD];simp only[if_true];have : -((0:Nat):Int)=((0:Nat):Int):=rfl;rw[this,aDR]
  ·simp only[h,decide_false,Bool.not_false,oC];simp only[if_true]
   congr 2
   refine Q4 ?_;rw[WT (by omega),Joins.data_append,BB];have:(-(m:Int)).natAbs=m:=by omega
   rw[this];rfl
theorem n8(m:Nat)(hm:Lib.nDigits m<2^32):aA (true,Dn m,())=some (Zn (-(m:Int)),()):=(aK4 true m hm).trans (by simp)
theorem rS(m:Nat)(hm:Lib.nDigits m<2^32):aA (false,Dn m,())=some (Zn (m:Int),()):=(aK4 false m hm).trans (by simp)
theorem EF(n k:Int)(hk:k<=18):rJ (Zn n,k,())=if ((Zn n).size:Int)<=k then some (n,true,()) else some (0,false,()):=by
 unfold rJ
 by_cases h:((Zn n).size:Int)<=k
 ·have e1:ltI k ((Zn n).size:Int)=false:=by rw[aD]; simp <;> omega
  have e2:Nat.ble (Zn n).size 18=true:=by rw[dM]; simp <;> omega
  rw[if_pos h];simp only[e1,oD,FU,e2,oC,a3M,aE]
 ·have e1:ltI k ((Zn n).size:Int)=true:=by rw[aD]; simp <;> omega
  rw[if_neg h];simp only[e1,oC]
theorem aCL(n:Int):DP (Zn n,())=some (n.sign,()):=by
 unfold DP;simp only[OL]
 by_cases h0:n=0
 ·subst h0; simp
 ·by_cases h:n<0
  ·have hz:=WT h;have e2:aF 0 (Zn n).size=true:=by rw[aM,HO h]; simp <;> omega
   have e3:aM1 (Zn n) 0=45:=by rw[aA3 hz]; rfl
   have e6:eqI 45 45=true:=by decide
   simp only[h0,decide_false,oD,e2,e3,e6,oC,Int.sign_eq_neg_one_of_neg h]
  ·rw[T6 (by omega)];obtain⟨c,l,h1,h2⟩:=aXI n.natAbs;have hs:(Dn n.natAbs).size=l.length+1:=by rw[VG,h1]; rfl
   have e2:aF 0 (Dn n.natAbs).size=true:=by rw[aM,hs]; simp <;> omega
   have e3:eqI (aM1 (Dn n.natAbs) 0) 45=false:=by rw[aA3 h1,iL]; simp <;> omega
   simp only[h0,decide_false,oD,e2,e3,oC,Int.sign_eq_one_of_pos (show 0<n by omega)]
theorem aNI(n:Int)(h:Lib.nDigits n.natAbs<2^32):QG (Zn n,())=some (Zn (-n),()):=by
 unfold QG;simp only[tR n,aE]
 by_cases h0:n<0
 ·simp only[h0,decide_true,oC,rS _ h,aE];have:(n.natAbs:Int) = -n:=by omega
  rw[this]
 ·simp only[h0,decide_false,oD,n8 _ h,aE];have : -(n.natAbs:Int) = -n:=by omega
  rw[this]
theorem aN5(n:Int):P1 (Zn n,())=some (Zn (n.natAbs:Int),()):=by
 unfold P1;simp only[tR n,aE,aDR]
theorem aM3(a b:Nat) (ha:Lib.nDigits a<2^32) (hb:Lib.nDigits b<2^32):IU (Zn (a:Int),Zn (b:Int),())=some (aBR a b,()):=by
 unfold IU;have sg:∀ n:Nat,(n:Int).sign=if n=0 then 0 else 1:=λn=>by
  by_cases h:n=0
  ·subst h; rfl
  ·rw[if_neg h,Int.sign_eq_one_of_pos (by omega)]
 simp only[aCL (a:Int),aCL (b:Int),tR (a:Int),tR (b:Int),aE,sg];have e0:∀ n:Nat,decide ((n:Int)<0)=false:=λn=>by simp
 by_cases h1:a=0
 ·by_cases h2:b=0
  ·have e:eqI 0 0=true:=by decide
   simp only[h1,h2,if_true,e,Bool.not_true,oD,e0,Int.natAbs_natCast];have:=vV a b ha hb;rw[h1,h2]at this;simp only[this,aE]
  ·have:eqI 0 1=false:=by decide
   have e:ltI 0 1=true:=by decide
   simp only[h1,h2,if_true,if_false,this,e,Bool.not_false,oC];unfold aBR;rw[if_pos (by omega)]
 ·by_cases h2:b=0
  ·have:eqI 1 0=false:=by decide
   have e:ltI 1 0=false:=by decide
   simp only[h1,h2,if_true,if_false,this,e,Bool.not_false,oC,oD];unfold aBR;rw[if_neg (by omega),if_pos (by omega)]
  ·have e:eqI 1 1=true:=by decide
   simp only[h1,h2,if_false,e,Bool.not_true,oD,e0,Int.natAbs_natCast,vV a b ha hb,aE]
theorem aAI {u:Nat}(h:Lib.nDigits u<=18):u<1000000000000000000:=by
 have h1:=jZ u;have h2:10^Lib.nDigits u<=10^18:=Nat.pow_le_pow_right (by decide) h;omega
theorem q9 {x:Int}(h1:0<=x)(h2:x<18446744073709551616):aB .u64 x=x:=by
 rw[UO,IntKind.wrap_u64];omega
theorem aR1(a b:Nat)(ha:Lib.nDigits a<=18)(hb:Lib.nDigits b<=18):fD (Dn a,Dn b,())=some (Dn (a+b),()):=by
 have h1:=aAI ha;have h2:=aAI hb;unfold fD;simp only[OR a b ha hb,aE,oC];rw[q9 (by omega) (by omega)];have:(a:Int)+(b:Int)=((a+b:Nat):Int):=by omega
 rw[this,JS _ (by omega)];rfl
theorem aRZ(a b:Nat)(ha:Lib.nDigits a<=18)(hb:Lib.nDigits b<=18)(h:b<=a):cQ (Dn a,Dn b,())=some (Dn (a-b),0,()):=by
 have h1:=aAI ha;have h2:=aAI hb;unfold cQ;have e:ltI (aBR a b) 0=false:=by
  rw[aD]; unfold aBR;rw[if_neg (by omega)];split <;> rfl
 simp only[vV a b (by omega) (by omega),OR a b ha hb,aE,oC,e,oD];rw[q9 (by omega) (by omega)];have:(a:Int)-(b:Int)=((a-b:Nat):Int):=by omega
 rw[this,JS _ (by omega)];rfl
theorem aUF(a b:Nat)(h:Lib.nDigits a+Lib.nDigits b<=18):fE (Dn a,Dn b,())=some (Dn (a*b),()):=by
 have p1:=nDigits_pos a;have p2:=nDigits_pos b;have h3:a*b<1000000000000000000:=by
  have h1:=jZ a;have h2:=jZ b;have h4:a*b<10^Lib.nDigits a*10^Lib.nDigits b:=Nat.mul_lt_mul'' h1 h2;rw[<- Nat.pow_add]at h4;have h5:10^(Lib.nDigits a+Lib.nDigits b)<=10^18:=Nat.pow_le_pow_right (by decide) h;omega
 unfold fE;have e:ltI 18 (aB .i64 (((Dn a).size:Int)+((Dn b).size:Int)))=false:=by
  rw[D9,D9,wrap64 (by omega) (by omega),aD];simp only[decide_eq_false_iff_not];omega
 simp only[e,Bool.not_false,oC,OR a b (by omega) (by omega),aE];have e2:(a:Int)*(b:Int)=((a*b:Nat):Int):=by rw[Int.natCast_mul]
 rw[e2,q9 (by omega) (by omega),JS _ (by omega)];rfl
theorem aLT(a b:Nat)(ha:Lib.nDigits a<=18)(hb:Lib.nDigits b<=18)(h:b≠0):nJ (Dn a,Dn b,())=some (Dn (a/b),Dn (a%b),0,()):=by
 have h1:=aAI ha;have h2:=aAI hb;unfold nJ;have e1:eqI (b:Int) 0=false:=by rw[iL]; simp; omega
 have q1:(a:Int).tdiv (b:Int)=((a/b:Nat):Int):=rfl;have q2:(a:Int).tmod (b:Int)=((a%b:Nat):Int):=rfl;have l1:a/b<=a:=Nat.div_le_self _ _;have l2:a%b<=a:=Nat.mod_le _ _;simp only[aJG,h,decide_false,oD,OR a b ha hb,aE,oC,e1,q1,q2];clear q1 q2;generalize a/b=q at *;generalize a%b=r at *;rw[q9 (by omega) (by omega),JS _ (by omega),aE,JS _ (by omega)];rfl
theorem JT {n:Int}{k:Nat}(h:((Zn n).size:Int)<=(k:Int)):Lib.nDigits n.natAbs<=k:=by
 rcases(by omega:n<0\/0<=n)with g|g
 ·rw[HO g]at h; omega
 ·rw[T6 g,D9]at h; omega
theorem pC {x y f g:Int} (h:x=y*f+g) (hp:0<y->0<=g/\g<y) (hn:y<0->y<g/\g<=0) (h0:y≠0):x.fdiv y=f/\x.fmod y=g:=by
 have key:∀ x y f g:Int,x=y*f+g->0<y->0<=g->g<y->x.fdiv y=f/\x.fmod y=g:=by
  intro x y f g h hy h1 h2;have e1:=Int.fmod_def x y;have e2:=Int.fmod_nonneg_of_pos x hy;have e3:=Int.fmod_lt_of_pos x hy;have e4:y*(x.fdiv y-f)=g-x.fmod y:=by rw[Int.mul_sub]; omega
  have e5:x.fdiv y-f=0:=by
   rcases Int.lt_trichotomy (x.fdiv y-f) 0 with g1|g1|g1
   ·have:y*(x.fdiv y-f)<=y*(-1):=Int.mul_le_mul_of_nonneg_left (by omega) (by omega);omega
   ·exact g1
   ·have:y*1<=y*(x.fdiv y-f):=Int.mul_le_mul_of_nonneg_left (by omega) (by omega);omega
  rw[e5]at e4;omega
 rcases Int.lt_or_gt_of_ne h0 with g1|g1
 ·obtain⟨h1,h2⟩:=hn g1;have:=key (-x) (-y) f (-g) (by rw[h]; grind) (by omega) (by omega) (by omega);rw[Int.neg_fdiv_neg,Int.neg_fmod_neg]at this;omega
 ·obtain⟨h1,h2⟩:=hp g1;exact key x y f g h g1 h1 h2
end Go.PM
