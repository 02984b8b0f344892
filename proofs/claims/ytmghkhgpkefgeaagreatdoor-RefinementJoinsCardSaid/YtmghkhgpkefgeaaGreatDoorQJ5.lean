/- Texts of one proof, joined (5). -/
import Derived.Lib.AtoiTie
import Derived.Lib.ParseIntBTie
import Derived.Test.YtmghkhgpkefgeaaGreatDoorQJ4
set_option linter.unusedSimpArgs false
set_option linter.unusedVariables false
set_option maxRecDepth 100000
noncomputable section
namespace Go.PM
open Go Go.RowKit
structure V6 (Y:Type) where
 sh:List (Nat×Kd)
 exits:List (Ex×List (Nat×Kd))
 run:Shape.den sh->Option (List Y×qI exits)
def a69(o:Oper):Bool:=match o.op with
 | .call c=>match c.callee with
  | .value (.tmp _)=>true
  | _=>false
 | _=>false
def a4G:List Oper->Nat->Option Nat
 | [],_=>none
 | o::r,i=>bif a69 o then some i else a4G r (i+1)
def outs {Y α:Type}(l:List Y):Option (List Y×α)->Option (List Y×α)
 | some (m,z)=>some (l++m,z)
 | none=>none
def aV4 {Y τ α:Type} (r:Option (List Y×τ)) (k:τ->Option (List Y×α)):Option (List Y×α):=match r with
 | some (l,z)=>outs l (k z)
 | none=>none
def a3X {Y:Type}:Option (List Y×Unit)->Option (List Y)
 | some (l,_)=>some l
 | none=>none
section
variable {α:Type} (P:Program) (E:Env) (nt bG:Nat) (lt:Nat->Option cA) (ks:List Kd) (li:Nat->Option (V6 (Value×aK ks)))
def a6X(ops:Array Oper) (o:Oper) (rest:List Oper) (F:Frm) (H:Heap) (k:Frm->Heap->Option (List (Value×aK ks)×α)) (kx:Frm->Heap->Option Unit):Option (List (Value×aK ks)×α) :=
 aQF F ops.toList o λF b=>bif b then (match o.op with
  | .call c=>match c.callee with
   | .value f=>match ev F f with
    | .lit yv=>bif eB.noRefs (c.args.toList.map (ev F))&&ks.all Kd.plain then (match aK9 ks (c.args.toList.map (ev F))with
     | some e=>match LF nt F o.dst (.lit (.bool true)),LF nt F o.dst (.lit (.bool false))with
      | some F1,some F2=>match KM P E nt ops.toList rest F2 H kx with
       | some _=>outs [(yv,e)] (KM P E nt ops.toList rest F1 H k)
       | none=>none
      | _,_=>none
     | none=>none) else none
    | _=>none
   | _=>none
  | _=>none) else match LF nt F o.dst (.lit undef)with
   | some F1=>KM P E nt ops.toList rest F1 H k
   | none=>none
def K1:Code->Frm->Heap->(Ex->Frm->Heap->Option (List (Value×aK ks)×α))->(Ex->Frm->Heap->Option Unit)->Option (List (Value×aK ks)×α)
 | .skip,F,H,k,_=>k .normal F H
 | .label _,F,H,k,_=>k .normal F H
 | .region _ ops draw,F,H,k,kx=>match a4G ops.toList 0 with
  | none=>bif UY ops then FW P E nt ops draw F H λF H=>ZJ bG F λF=>k .normal F H else none
  | some s=>bif aHW ops s then match ops.toList.drop s with
   | o::rest=>bif rest.all (λo=>!aOU o.op) then
     (bif draw then FW P E nt (ops.toList.take s).toArray true F H else KM P E nt ops.toList (ops.toList.take s) F H) λF H =>
      a6X P E nt ks ops o rest F H (λF H=>ZJ bG F λF=>k .normal F H) (λF H=>kx .normal F H)
    else none
   | []=>none
   else none
 | .seq a b,F,H,k,kx=>K1 a F H (λex F H=>match ex with
  | .normal=>K1 b F H k kx
  | .exit i=>k (.exit i) F H
  | .ret=>k .ret F H) (λex F H=>match ex with
  | .normal=>DY P E nt bG lt (λ_=>none) true [] b F H kx
  | .exit i=>kx (.exit i) F H
  | .ret=>kx .ret F H)
 | .cond c a b,F,H,k,kx=>match ev F c with
  | .lit (.bool t)=>aUI F c t λF t=>bif t then K1 a F H k kx else K1 b F H k kx
  | _=>none
 | .block id a,F,H,k,kx=>K1 a F H (λex F H=>match ex with
  | .exit i=>bif Nat.beq i id then k .normal F H else k (.exit i) F H
  | .normal=>k .normal F H
  | .ret=>k .ret F H) (λex F H=>match ex with
  | .exit i=>bif Nat.beq i id then kx .normal F H else kx (.exit i) F H
  | .normal=>kx .normal F H
  | .ret=>kx .ret F H)
 | .loop a,F,H,k,_=>match li (bQ a)with
  | some s=>match BG [] s.sh F H with
   | some x=>aV4 (s.run x) λz=>aTN s.exits z k
   | none=>none
  | none=>match lt (bQ a)with
   | some s=>match BG [] s.sh F H with
    | some x=>aC (s.run x) λz=>aTN s.exits z k
    | none=>none
   | none=>none
 | .exit id,F,H,k,_=>k (.exit id) F H
 | .ret,F,H,k,_=>k .ret F H
 | _,_,_,_,_=>none
end
def a26:Ex->Frm->Heap->Option Unit:=λex _ _=>match ex with
 | .ret=>some ()
 | _=>none
def a1P {Y:Type}(sh:List (Nat×Kd))(exits:List (Ex×List (Nat×Kd)))(ex:Ex)(F:Frm)(H:Heap):Option (List Y×(Shape.den sh⊕qI exits)):=match aGO [] sh exits ex F H with
 | some z=>some ([],z)
 | none=>none
def a1T(P:Program) (E:Env) (nt bG:Nat) (lt:Nat->Option cA) (ks:List Kd) (li:Nat->Option (V6 (Value×aK ks))) (a:Code) (sh:List (Nat×Kd)) (exits:List (Ex×List (Nat×Kd))) (x:Shape.den sh):Option (List (Value×aK ks)×(Shape.den sh⊕qI exits)) :=
 K1 P E nt bG lt ks li a (AR sh x 0) (JE sh x) (a1P sh exits) a26
def aGG {Y σ τ:Type}(step:σ->Option (List Y×(σ⊕τ))):Nat->σ->Option (List Y×τ)
 | 0,_=>none
 | n+1,x=>match step x with
  | some (l,.inl y)=>outs l (aGG step n y)
  | some (l,.inr z)=>some (l,z)
  | none=>none
theorem aFI {Y α:Type}{l:List Y}{r:Option (List Y×α)}{m:List Y}{z:α}(h:outs l r=some (m,z)):∃ m',r=some (m',z)/\m=l++m':=by
 cases r with
 | none=>cases h
 | some p =>
  obtain⟨m',z'⟩:=p;simp only[outs,oJ,oP]at h;obtain⟨h1,h2⟩:=h;subst h2;exact⟨m',rfl,h1.symm⟩
section
variable {P:Program} {E:Env} {nt bG:Nat} {lt:Nat->Option cA} {ks:List Kd} {li:Nat->Option (V6 (Value×aK ks))}
variable {Φ:(Nat->Prop)->(Nat->Prop)->World->Prop} {G0 G G':Gd} {μ μ':Mp} {H H':Heap} {A A' W:World} {F F':Frm} {n:Nat} {a:Act}
theorem Sg.a19 (h:Sg Φ G0 G μ H A):∃ n0,aN n0 G μ H A/\(∀ b,G0 b->G b)/\∀ A' G' μ' H',Ext n0 A G aI A' G' μ'->aN n0 G' μ' H' A'->Sg Φ G0 G' μ' H' A':=by
 obtain⟨T,X,B,GB,μB,h1,h2,h3,h4,h5,h6,h7⟩:=h;refine⟨_,h7,λb hb=>(h6.good b (h5 b hb)).1,λA' G' μ' H' e w=>⟨T,X,B,GB,aI,h1,h2,h3,h4,h5,?_,w⟩⟩;have h6':Ext (λb=>X b\/B.heap.size<=b) B GB aI A G aI:=h6.plain;exact h6'.trans e
theorem aWY {c:Code} {r:Ex×Frm×Heap} (h:aRM P nt true [] c F H r) {Q:Exit->Act->World->Prop} (hS:Sg Φ G0 G μ H A) (hF:fQ A G μ nt F a)
  (hQ:∀ G' μ' a' A',Sg Φ G0 G' μ' r.2.2 A'->fQ A' G' μ' nt r.2.1 a'->Q r.1.to a' A'):c.wpIn Fence.wide n P Q a A:=by
 obtain⟨n0,hW,_,hS2⟩:=hS.a19;have e0:Ext n0 A G aI A G μ:={ good:=λ_ h=>⟨h,rfl⟩,map:=λ_ _ h=>(by cases h),len:=λ_ _ h=>(by cases h),room:=λ_ _ h=>h,row:=λ_ _ h=>h,os:=rfl,tape:=rfl,output:=rfl,size:=oM _,old:=λ_ _ _=>rfl,new:=λ_ h=>.inl h };refine wpIn_mono (h none n n0 A G aI a A (λh=>(by cases h)) (λr _=>⟨rfl,rfl⟩) ⟨G,μ,e0,hW,hF.same,by rw[hF.defers]; trivial⟩) ?_;rintro e a' w' ⟨rfl,⟨G',μ',e',hW',hF',_⟩,hd⟩
 refine hQ G' μ' a' w' (hS2 _ _ _ _ e' hW') ⟨hF'.size,hF'.slot,?_⟩;rw[hd rfl]; exact hF.defers
def a7S(P:Program) (ks:List Kd) (l:Nat) (G0:Gd) (all:List (aK ks)) (J Jx:List (aK ks)->(Nat->Prop)->(Nat->Prop)->World->Prop):Prop :=
 ∀ pre e post T X B T' X' A us Gx m',all=pre++e::post->J pre T X B->Stp X B A->(∀ b,T' b->(T b\/B.heap.size<=b)/\b<A.heap.size)->(∀ b,X' b->T' b/\(X b\/B.heap.size<=b)) ->
   (∀ b,Gx b->(G0 b\/T' b)/\¬ X' b)->VRs A (Gd.of Gx) aI (lO ks e) us ->
   YieldAt Fence.wide m' P l us.toArray A λen C =>
    ((∀ b,b<A.heap.size->G0 b\/T' b->C.heap[b]?=A.heap[b]?)/\(∀ b n,Room A b n->Room C b n)/\A.heap.size<=C.heap.size)/\((en=.returned (.bool true)/\J (pre++[e]) T' X' C)\/(en=.returned (.bool false)/\Jx (pre++[e]) T' X' C))
def aY8(P:Program) (nt:Nat) (ks:List Kd) (c:Code) (F:Frm) (H:Heap) (ys:List (Value×aK ks)) (r:Ex×Frm×Heap) (kx:Ex->Frm->Heap->Option Unit):Prop :=
 ∀ (l:Nat) (yv:Value),yv=.func (.yield l) #[] #[]->∀ (G0:Gd) (all:List (aK ks)) (J Jx:List (aK ks)->(Nat->Prop)->(Nat->Prop)->World->Prop),a7S P ks l G0 all J Jx ->
  ∀ (pre post:List (aK ks)) (n:Nat) (a:Act) (A:World) (G:Gd) (μ:Mp),all=pre++(ys.map (·.2)++post)->(∀ y∈ys,y.1=yv)->Sg (J pre) G0 G μ H A->fQ A G μ nt F a ->
  c.wpIn Fence.wide n P (λe a' A'=>(e=r.1.to/\∃ G' μ',Sg (J (pre++ys.map (·.2))) G0 G' μ' r.2.2 A'/\fQ A' G' μ' nt r.2.1 a') \/
   (∃ ex' F' H' pre' G' μ',kx ex' F' H'=some ()/\e=ex'.to/\Sg (Jx pre') G0 G' μ' H' A'/\fQ A' G' μ' nt F' a')) a A
def aWE(P:Program) (nt:Nat) (ks:List Kd) (a:Code) (s:V6 (Value×aK ks)):Prop :=
 ∀ x ys z,s.run x=some (ys,z)->aY8 P nt ks (.loop a) (AR s.sh x 0) (JE s.sh x) ys (EA s.exits z) a26
def aIU(P:Program)(nt:Nat)(lt:Nat->Option cA)(ks:List Kd)(li:Nat->Option (V6 (Value×aK ks))):Code->Prop
 | .loop a=>(∀ s,lt (bQ a)=some s->UB P nt true [] (.loop a) s)/\(∀ s,li (bQ a)=some s->aWE P nt ks a s)
 | _=>True
theorem TA {c:Code}{r:Ex×Frm×Heap}{kx:Ex->Frm->Heap->Option Unit}(h:aRM P nt true [] c F H r):aY8 P nt ks c F H [] r kx:=by
 intro l yv hyv G0 all J Jx hY pre post n a A G μ hall hys hS hF;refine aWY h hS hF λG' μ' a' A' hS' hF'=>.inl ⟨rfl,G',μ',?_,hF'⟩
 rw[List.map_nil,List.append_nil]; exact hS'
theorem aO3(hcl:dF P (eT P E))(hP:P.follows .mixedOrders=true){α:Type}{id:Nat}{ops:Array Oper}{draw:Bool}{k:Ex->Frm->Heap->Option α}{z:α}(h:FW P E nt ops draw F H (λF H=>ZJ bG F λF=>k .normal F H)=some z)(hd:UY ops=true) :
  ∃ r:Ex×Frm×Heap,k r.1 r.2.1 r.2.2=some z/\aRM P nt true [] (.region id ops draw) F H r:=by
 obtain⟨F1,H1,h1,h2⟩:=aI3 (id:=id) hcl hP hd h;obtain⟨F2,h3,h4⟩:=OQ bG F1 λF=>k .normal F H1
 rw[h3]at h1;exact⟨(.normal,F2,H1),h1,λ_ _ _ _ _ _ _ _ _ _ hI=>h2 hI λa' w' hd' hI'=>⟨rfl,hI'.a3B h4,λ_=>hd'⟩⟩
theorem aH8(hcl:dF P (eT P E)) {ops:Array Oper} {l:List Oper} (hrun:SS P (eT P E) nt ops.toList l F H=some (F',H')) (hnd:(l.all λo=>!aOU o.op)=true) {Q:Exit->Act->World->Prop}
  (hS:Sg Φ G0 G μ H A) (hF:fQ A G μ nt F a) (hQ:∀ G' μ' a' A',Sg Φ G0 G' μ' H' A'->fQ A' G' μ' nt F' a'->Q .normal a' A'):wpListIn Fence.wide n P ops Q l a A:=by
 obtain⟨n0,hW,_,hS2⟩:=hS.open_;have h1:=A9 (Q:=λe a' w'=>e=.normal/\I n0 A G μ nt F' H' a' w') hcl l F H a A hrun ⟨G,μ,Ext.refl _ _ _ _,hW,hF⟩ (λa' w' h=>⟨rfl,h⟩);have h2:=aC9 (ro:=none) (n:=n) (ds:=[]) (Q':=Q) (λa w h=>by cases h.1) (λe a' w' h=>by
  obtain⟨rfl,G',μ',e,hW',hF'⟩:=h;have e1:xZ [] a'=a':=by simp[xZ]
  rw[e1];exact hQ G' μ' a' w' (hS2 _ _ _ _ e hW') hF') (λo ho c hc=>by
  have:=List.all_eq_true.1 hnd o ho;rw[hc]at this;cases this) h1
 have e1:xZ [] a=a:=by simp[xZ]
 rw[e1]at h2;exact h2
theorem aW3(hcl:dF P (eT P E)) (hP:P.follows .mixedOrders=true) {α:Type} {id s:Nat} {ops:Array Oper} {draw:Bool} (hsp:aHW ops s=true) {k:Frm->Heap->Option α} {z:α}
  (h:(bif draw then FW P E nt (ops.toList.take s).toArray true F H else KM P E nt ops.toList (ops.toList.take s) F H) k=some z) :
  ∃ F1 H1,k F1 H1=some z/\∀ {Φ:(Nat->Prop)->(Nat->Prop)->World->Prop} {G0 G:Gd} {μ:Mp} {A:World} {a:Act} {n:Nat} {Q:Exit->Act->World->Prop},Sg Φ G0 G μ H A->fQ A G μ nt F a ->
   (∀ G' μ' a' A',Sg Φ G0 G' μ' H1 A'->fQ A' G' μ' nt F1 a'->wpListIn Fence.wide n P ops Q (ops.toList.drop s) a' A')->(Code.region id ops draw).wpIn Fence.wide n P Q a A:=by
 obtain⟨F1,H1,hrun,hk⟩:∃ F1 H1,(bif draw then WB P (eT P E) nt (ops.toList.take s).toArray F H else SS P (eT P E) nt ops.toList (ops.toList.take s) F H)=some (F1,H1)/\k F1 H1=some z:=by
  cases draw with
  | true =>
   simp only[oC]at h ⊢;exact UQ h
  | false =>
   simp only[oD]at h ⊢;obtain⟨F1,H1,h2,h3⟩:=wD h;exact⟨F1,H1,h2,h3⟩
 refine⟨F1,H1,hk,?_⟩;intro Φ G0 G μ A a n Q hS hF hQ;obtain⟨n0,hW,_,hS2⟩:=hS.open_;have:=aOV (ro:=none) (n:=n) (ds:=[]) (Q:=Q) hcl hP (id:=id) hsp hrun (n0:=n0) (wi:=A) (Gi:=G) (μi:=μ) (a:=a) (w:=A) ⟨G,μ,Ext.refl _ _ _ _,hW,hF⟩ (λa' w' h=>by
  obtain⟨G',μ',e,hW',hF'⟩:=h;have e1:xZ [] a'=a':=by simp[xZ]
  rw[e1];exact hQ G' μ' a' w' (hS2 _ _ _ _ e hW') hF')
 have e1:xZ [] a=a:=by simp[xZ]
 rw[e1]at this;exact this
theorem a1W {l:List Operand}(hF:fQ A G μ nt F a):VRs A G μ (l.map (ev F)) (l.map a.eval):=by
 induction l with
 | nil=>rw[List.map_nil,List.map_nil,VRs]
 | cons x l ih =>
  rw[List.map_cons,List.map_cons,VRs];exact⟨_,_,rfl,cQ hF x,ih⟩
theorem zV {α:Type}(hcl:dF P (eT P E))(hP:P.follows .mixedOrders=true):∀ (c:Code) (F:Frm) (H:Heap) (k:Ex->Frm->Heap->Option (List (Value×aK ks)×α)) (kx:Ex->Frm->Heap->Option Unit) (ys:List (Value×aK ks)) (z:α),
  (∀ F H,kx .ret F H=some ())->(∀ a∈gX c,aIU P nt lt ks li a)->K1 P E nt bG lt ks li c F H k kx=some (ys,z) ->
  ∃ ys1 ys2 r,k r.1 r.2.1 r.2.2=some (ys2,z)/\ys=ys1++ys2/\aY8 P nt ks c F H ys1 r kx
 | .skip,F,H,k,kx,ys,z,hx,hl,h=>⟨[],ys,(.normal,F,H),h,rfl,TA λ_ _ _ _ _ _ _ _ _ _ hI=>wpIn_skip ⟨rfl,hI,λ_=>rfl⟩⟩
 | .label l,F,H,k,kx,ys,z,hx,hl,h=>⟨[],ys,(.normal,F,H),h,rfl,TA λ_ _ _ _ _ _ _ _ _ _ hI=>wpIn_label ⟨rfl,hI,λ_=>rfl⟩⟩
 | .exit id,F,H,k,kx,ys,z,hx,hl,h=>⟨[],ys,(.exit id,F,H),h,rfl,TA λ_ _ _ _ _ _ _ _ _ _ hI=>wpIn_exit ⟨rfl,hI,λ_=>rfl⟩⟩
 | .ret,F,H,k,kx,ys,z,hx,hl,h=>⟨[],ys,(.ret,F,H),h,rfl,TA λ_ _ _ _ _ _ _ _ _ _ hI=>wpIn_ret ⟨rfl,hI,λ_=>rfl⟩⟩
 | .region id ops draw,F,H,k,kx,ys,z,hx,hl,h=>by
  simp only[K1]at h;split at h
  ·obtain⟨hd,h⟩:=aH h;obtain⟨r,h1,h2⟩:=aO3 (id:=id) hcl hP h hd;exact⟨[],ys,r,h1,rfl,TA h2⟩
  ·rename_i s hs;obtain⟨hsp,h⟩:=aH h;split at h
   ·rename_i o rest hdrop;obtain⟨hnd,h⟩:=aH h;obtain⟨F1,H1,hk,hsplit⟩:=aW3 (id:=id) hcl hP hsp h;unfold a6X at hk;obtain⟨b,hg,hk⟩:=aGF hk;cases b with
    | true =>
     simp only[oC]at hk;split at hk
     ·rename_i c hoc;split at hk
      ·rename_i f hcf;split at hk
       ·rename_i yv hyv;obtain⟨hnr,hk⟩:=aH hk;rw[oA]at hnr;obtain⟨hnr,hplk⟩:=hnr;split at hk
        ·rename_i e he;split at hk
         ·rename_i F2 F3 hp2 hp3;split at hk
          ·rename_i u hstop;obtain⟨ys2,hlive,rfl⟩:=aFI hk;obtain⟨F4,H4,hrun4,hk4⟩:=wD hlive;obtain⟨F5,H5,hrun5,hk5⟩:=wD hstop;obtain⟨F6,h6,h7⟩:=OQ bG F4 λF=>k .normal F H4
           rw[h6]at hk4;refine⟨[(yv,e)],ys2,(.normal,F6,H4),hk4,rfl,?_⟩;intro l yv' hyv' G0 all J Jx hY pre post n a A G μ hall hys hS hF;have hyy:=hys _ (List.mem_singleton.2 rfl);dsimp only at hyy;subst hyy;refine hsplit hS hF λG1 μ1 a1 A1 hS1 hF1=>?_
           rw[hdrop];have hw:=BP hF1 hg;have hv:=a1W (l:=c.args.toList) hF1;have hv0:=dB _ _ hnr hv;have hve:=IH ks he hv0;have hfe:=cQ hF1 f;rw[hyv,VR]at hfe;have hall':all=pre++e::post:=by rw[hall]; rfl
           refine a1X hoc hcf hw (hfe.trans hyv') (us:=(c.args.toList.map a1.eval).toArray) (by rw[<- Array.toList_map]) (λm'=>hS1.yield hY hall' hve (aJ3 ks e hplk) m') ?_;rintro en C ⟨hmo,hout⟩;rcases hout with ⟨rfl,hS2⟩|⟨rfl,hS2⟩
           ·refine⟨_,rfl,aH8 hcl hrun4 hnd hS2 ((hF1.mono hmo).aCQ hp2 (by rw[VR])) λG2 μ2 a2 A2 hS3 hF3=>.inl ⟨rfl,G2,μ2,hS3,?_⟩⟩;exact⟨hF3.size,λt=>by
             rcases h7 t with h8|h8
             ·rw[h8]; exact hF3.slot t
             ·rw[h8,VR]; trivial,hF3.defers⟩
           ·exact⟨_,rfl,aH8 hcl hrun5 hnd hS2 ((hF1.mono hmo).aCQ hp3 (by rw[VR])) λG2 μ2 a2 A2 hS3 hF3=>.inr ⟨.normal,F5,H5,_,G2,μ2,hk5,rfl,hS3,hF3⟩⟩
          ·cases hk
         ·cases hk
        ·cases hk
       ·cases hk
      ·cases hk
     ·cases hk
    | false =>
     simp only[oD]at hk;split at hk
     ·rename_i F2 hp2;obtain⟨F4,H4,hrun4,hk4⟩:=wD hk;obtain⟨F6,h6,h7⟩:=OQ bG F4 λF=>k .normal F H4
      rw[h6]at hk4;refine⟨[],ys,(.normal,F6,H4),hk4,rfl,?_⟩;intro l yv' hyv' G0 all J Jx hY pre post n a A G μ hall hys hS hF;refine hsplit hS hF λG1 μ1 a1 A1 hS1 hF1=>?_
      rw[hdrop];refine a2I (BP hF1 hg) (aH8 hcl hrun4 hnd hS1 (hF1.aCQ hp2 (by rw[VR])) λG2 μ2 a2 A2 hS3 hF3=>.inl ⟨rfl,G2,μ2,?_,?_⟩)
      ·rw[List.map_nil,List.append_nil]; exact hS3
      ·exact⟨hF3.size,λt=>by
        rcases h7 t with h8|h8
        ·rw[h8]; exact hF3.slot t
        ·rw[h8,VR]; trivial,hF3.defers⟩
     ·cases hk
   ·cases h
 | .seq x y,F,H,k,kx,ys,z,hx,hl,h=>by
  simp only[K1]at h;obtain⟨ys1,ys2,⟨ex,F1,H1⟩,h1,rfl,h2⟩:=zV hcl hP x F H _ _ ys z (by intro F H; exact hx F H) (λa ha=>hl a (by simp[gX,ha])) h;have stop:∀ {l:Nat} {yv:Value} {G0:Gd} {all:List (aK ks)} {J Jx:List (aK ks)->(Nat->Prop)->(Nat->Prop)->World->Prop} {n:Nat} {R:Exit->Act->World->Prop},
    (∀ e a' A',(∃ ex' F' H' pre' G' μ',kx ex' F' H'=some ()/\e=ex'.to/\Sg (Jx pre') G0 G' μ' H' A'/\fQ A' G' μ' nt F' a')->R e a' A')->∀ ex' F' H' pre' G' μ' a' A',
    (match ex' with
     | Ex.normal=>DY P E nt bG lt (λ_=>none) true [] y F' H' kx
     | Ex.exit i=>kx (Ex.exit i) F' H'
     | Ex.ret=>kx Ex.ret F' H')=some ()->Sg (Jx pre') G0 G' μ' H' A'->fQ A' G' μ' nt F' a' ->
    Exit.then (y.wpIn Fence.wide n P R) R ex'.to a' A':=by
   intro l yv G0 all J Jx n R hR ex' F' H' pre' G' μ' a' A' hm hS hF;cases ex' with
   | normal =>
    obtain⟨r,h3,h4⟩:=nK hcl hP y F' H' kx () (λa ha=>by
     have:=hl a (by simp[gX,ha]);cases a with
     | loop b=>exact this.1
     | rangeFunc g ps as1 b=>intro h; cases h
     | _=>trivial) hm
    refine aWY h4 hS hF λG2 μ2 a2 A2 hS2 hF2=>hR _ _ _ ⟨r.1,r.2.1,r.2.2,pre',G2,μ2,h3,rfl,hS2,hF2⟩
   | exit i=>exact hR _ _ _ ⟨.exit i,F',H',pre',G',μ',hm,rfl,hS,hF⟩
   | ret=>exact hR _ _ _ ⟨.ret,F',H',pre',G',μ',hm,rfl,hS,hF⟩
  cases ex with
  | normal =>
   obtain⟨ys3,ys4,r,h3,rfl,h4⟩:=zV hcl hP y F1 H1 k kx ys2 z hx (λa ha=>hl a (by simp[gX,ha])) h1;refine⟨ys1++ys3,ys4,r,h3,by rw[List.append_assoc],?_⟩;intro l yv hyv G0 all J Jx hY pre post n a A G μ hall hys hS hF;refine wpIn_seq (wpIn_mono (h2 l yv hyv G0 all J Jx hY pre (ys3.map (·.2)++post) n a A G μ (by rw[hall,List.map_append,List.append_assoc]) (λy hy=>hys y (List.mem_append_left _ hy)) hS hF) ?_)
   rintro e a' w' (⟨rfl,G',μ',hS',hF'⟩|⟨ex',F',H',pre',G',μ',hm,rfl,hS',hF'⟩)
   ·refine wpIn_mono (h4 l yv hyv G0 all J Jx hY (pre++ys1.map (·.2)) post n a' w' G' μ' (by rw[hall,List.map_append,List.append_assoc,List.append_assoc]) (λy hy=>hys y (List.mem_append_right _ hy)) hS' hF') ?_;rintro e a'' w'' (⟨rfl,G2,μ2,hS2,hF2⟩|hst)
    ·refine .inl ⟨rfl,G2,μ2,?_,hF2⟩;rw[List.map_append,<- List.append_assoc]; exact hS2
    ·exact .inr hst
   ·exact stop (l:=l) (yv:=yv) (all:=all) (J:=J) (λe a' A' h=>Or.inr h) ex' F' H' pre' G' μ' a' w' hm hS' hF'
  | exit i =>
   refine⟨ys1,ys2,(.exit i,F1,H1),h1,rfl,?_⟩;intro l yv hyv G0 all J Jx hY pre post n a A G μ hall hys hS hF;refine wpIn_seq (wpIn_mono (h2 l yv hyv G0 all J Jx hY pre post n a A G μ hall hys hS hF) ?_);rintro e a' w' (⟨rfl,G',μ',hS',hF'⟩|⟨ex',F',H',pre',G',μ',hm,rfl,hS',hF'⟩)
   ·exact .inl ⟨rfl,G',μ',hS',hF'⟩
   ·exact stop (l:=l) (yv:=yv) (all:=all) (J:=J) (λe a' A' h=>Or.inr h) ex' F' H' pre' G' μ' a' w' hm hS' hF'
  | ret =>
   refine⟨ys1,ys2,(.ret,F1,H1),h1,rfl,?_⟩;intro l yv hyv G0 all J Jx hY pre post n a A G μ hall hys hS hF;refine wpIn_seq (wpIn_mono (h2 l yv hyv G0 all J Jx hY pre post n a A G μ hall hys hS hF) ?_);rintro e a' w' (⟨rfl,G',μ',hS',hF'⟩|⟨ex',F',H',pre',G',μ',hm,rfl,hS',hF'⟩)
   ·exact .inl ⟨rfl,G',μ',hS',hF'⟩
   ·exact stop (l:=l) (yv:=yv) (all:=all) (J:=J) (λe a' A' h=>Or.inr h) ex' F' H' pre' G' μ' a' w' hm hS' hF'
 | .cond c x y,F,H,k,kx,ys,z,hx,hl,h=>by
  simp only[K1]at h;split at h
  ·rename_i t ht;replace h:=T4 h ht;have hc:∀ {A:World} {G:Gd} {μ:Mp} {a:Act},fQ A G μ nt F a->a.eval c=.bool t:=λ{A G μ a} hF=>by
    have hc:=cQ hF c;rw[ht,VR]at hc;exact hc
   cases t with
   | true =>
    obtain⟨ys1,ys2,r,h3,h4,h5⟩:=zV hcl hP x F H k kx ys z hx (λa ha=>hl a (by simp[gX,ha])) h;exact⟨ys1,ys2,r,h3,h4,λl yv hyv G0 all J Jx hY pre post n a A G μ hall hys hS hF=>wpIn_cond (hc hF) (h5 l yv hyv G0 all J Jx hY pre post n a A G μ hall hys hS hF)⟩
   | false =>
    obtain⟨ys1,ys2,r,h3,h4,h5⟩:=zV hcl hP y F H k kx ys z hx (λa ha=>hl a (by simp[gX,ha])) h;exact⟨ys1,ys2,r,h3,h4,λl yv hyv G0 all J Jx hY pre post n a A G μ hall hys hS hF=>wpIn_cond (hc hF) (h5 l yv hyv G0 all J Jx hY pre post n a A G μ hall hys hS hF)⟩
  ·cases h
 | .block id x,F,H,k,kx,ys,z,hx,hl,h=>by
  simp only[K1]at h;obtain⟨ys1,ys2,⟨ex,F1,H1⟩,h1,rfl,h2⟩:=zV hcl hP x F H _ _ ys z (by intro F H; exact hx F H) (λa ha=>hl a (by simp[gX,ha])) h;have stop:∀ (ex':Ex) (F':Frm) (H':Heap),(match ex' with
     | Ex.exit i=>bif Nat.beq i id then kx .normal F' H' else kx (.exit i) F' H'
     | Ex.normal=>kx Ex.normal F' H'
     | Ex.ret=>kx Ex.ret F' H')=some ()->∃ ex2:Ex,kx ex2 F' H'=some ()/\∀ (Q:Exit->Act->World->Prop) a w,Q ex2.to a w->ex'.to.inBlock id Q a w:=by
   intro ex' F' H' hm;cases ex' with
   | normal=>exact⟨.normal,hm,λQ a w h=>h⟩
   | ret=>exact⟨.ret,hm,λQ a w h=>h⟩
   | exit i =>
    simp only at hm;cases hi:Nat.beq i id with
    | true =>
     rw[hi]at hm;have:=oE hi;subst this;exact⟨.normal,hm,λQ a w h=>by simp only[Ex.to,Exit.inBlock,if_true]; exact h⟩
    | false =>
     rw[hi]at hm;have hne:¬ i=id:=λe=>by rw[e]at hi; simp at hi
     exact⟨.exit i,hm,λQ a w h=>by simp only[Ex.to,Exit.inBlock,hne,if_false]; exact h⟩
  have live:∃ ex2:Ex,k ex2 F1 H1=some (ys2,z)/\∀ (Q:Exit->Act->World->Prop) a w,Q ex2.to a w->ex.to.inBlock id Q a w:=by
   cases ex with
   | normal=>exact⟨.normal,h1,λQ a w h=>h⟩
   | ret=>exact⟨.ret,h1,λQ a w h=>h⟩
   | exit i =>
    simp only at h1;cases hi:Nat.beq i id with
    | true =>
     rw[hi]at h1;have:=oE hi;subst this;exact⟨.normal,h1,λQ a w h=>by simp only[Ex.to,Exit.inBlock,if_true]; exact h⟩
    | false =>
     rw[hi]at h1;have hne:¬ i=id:=λe=>by rw[e]at hi; simp at hi
     exact⟨.exit i,h1,λQ a w h=>by simp only[Ex.to,Exit.inBlock,hne,if_false]; exact h⟩
  obtain⟨ex2,hk2,hex2⟩:=live;refine⟨ys1,ys2,(ex2,F1,H1),hk2,rfl,?_⟩;intro l yv hyv G0 all J Jx hY pre post n a A G μ hall hys hS hF;refine wpIn_block (wpIn_mono (h2 l yv hyv G0 all J Jx hY pre post n a A G μ hall hys hS hF) ?_);rintro e a' w' (⟨rfl,G',μ',hS',hF'⟩|⟨ex',F',H',pre',G',μ',hm,rfl,hS',hF'⟩)
  ·exact hex2 _ _ _ (Or.inl ⟨rfl,G',μ',hS',hF'⟩)
  ·obtain⟨ex3,h3,h4⟩:=stop ex' F' H' hm;exact h4 _ _ _ (Or.inr ⟨ex3,F',H',pre',G',μ',h3,rfl,hS',hF'⟩)
 | .loop x,F,H,k,kx,ys,z,hx,hl,h=>by
  simp only[K1]at h;have hsub:=hl (.loop x) (by simp[gX]);split at h
  ·rename_i s hs;split at h
   ·rename_i x0 hx0;unfold aV4 at h;split at h
    ·rename_i ys1 z1 hr;obtain⟨ys2,h1,rfl⟩:=aFI h;refine⟨ys1,ys2,EA s.exits z1,OJ h1,rfl,?_⟩;intro l yv hyv G0 all J Jx hY pre post n a A G μ hall hys hS hF;obtain⟨n0,hW,_,hS2⟩:=hS.a19;have e0:Ext n0 A G aI A G μ:={ good:=λ_ h=>⟨h,rfl⟩,map:=λ_ _ h=>(by cases h),len:=λ_ _ h=>(by cases h),room:=λ_ _ h=>h,row:=λ_ _ h=>h,os:=rfl,tape:=rfl,output:=rfl,size:=oM _,old:=λ_ _ _=>rfl,new:=λ_ h=>.inl h };obtain⟨G1,μ1,e1,hW1,hF1⟩:=IB hx0 (λr _=>⟨rfl,rfl⟩) (⟨G,μ,e0,hW,hF⟩:I n0 A G aI nt F H a A)
     refine wpIn_mono (hsub.2 s hs x0 ys1 z1 hr l yv hyv G0 all J Jx hY pre post n a A G1 μ1 hall hys (hS2 _ _ _ _ e1 hW1) hF1) ?_;rintro e a' w' (h|⟨ex',F',H',pre',G',μ',hm,rfl,hS',hF'⟩)
     ·exact .inl h
     ·refine .inr ⟨ex',F',H',pre',G',μ',?_,rfl,hS',hF'⟩;cases ex' with
      | ret=>exact hx F' H'
      | normal=>cases hm
      | exit i=>cases hm
    ·cases h
   ·cases h
  ·split at h
   ·rename_i s hs;split at h
    ·rename_i x0 hx0;obtain⟨y,h1,h2⟩:=zD h;refine⟨[],ys,EA s.exits y,OJ h2,rfl,TA λro n n0 wi Gi μi a w hro hfl hI=>?_⟩;exact hsub.1 s hs x0 y h1 ro n n0 wi Gi μi a w hro hfl (hI.dec hfl hx0)
    ·cases h
   ·cases h
 | .scope x,F,H,k,kx,ys,z,hx,hl,h=>by simp only[K1]at h; cases h
 | .rangeFunc g ps as1 x,F,H,k,kx,ys,z,hx,hl,h=>by simp only[K1]at h; cases h
 | .goto l,F,H,k,kx,ys,z,hx,hl,h=>by simp only[K1]at h; cases h
 | .refuse s,F,H,k,kx,ys,z,hx,hl,h=>by simp only[K1]at h; cases h
theorem aML {Y:Type}{sh:List (Nat×Kd)}{exits:List (Ex×List (Nat×Kd))}{ex:Ex}{F:Frm}{H:Heap}{l:List Y}{y:Shape.den sh⊕qI exits}(h:a1P sh exits ex F H=some (l,y)):l=[]/\aGO [] sh exits ex F H=some y:=by
 unfold a1P at h;split at h
 ·rename_i z hz;simp only[oJ,oP]at h;obtain⟨h1,h2⟩:=h;subst h2;exact⟨h1.symm,hz⟩
 ·cases h
theorem aV6 {F1:Frm} {H1:Heap} (hs:∀ {n0:Nat->Prop},I n0 A G aI nt F H a A->I n0 A G aI nt F1 H1 a A) (hS:Sg Φ G0 G μ H A) (hF:fQ A G μ nt F a):∃ G' μ',Sg Φ G0 G' μ' H1 A/\fQ A G' μ' nt F1 a:=by
 obtain⟨n0,hW,_,hS2⟩:=hS.a19;have e0:Ext n0 A G aI A G μ:={ good:=λ_ h=>⟨h,rfl⟩,map:=λ_ _ h=>(by cases h),len:=λ_ _ h=>(by cases h),room:=λ_ _ h=>h,row:=λ_ _ h=>h,os:=rfl,tape:=rfl,output:=rfl,size:=oM _,old:=λ_ _ _=>rfl,new:=λ_ h=>.inl h };obtain⟨G1,μ1,e1,hW1,hF1⟩:=hs ⟨G,μ,e0,hW,hF⟩;exact⟨G1,μ1,hS2 _ _ _ _ e1 hW1,hF1⟩
theorem aO6:∀ {l:List (Ex×List (Nat×Kd))} {z:qI l} {ex:Ex},SB [] l ex F H=some z->(EA l z).1=ex/\∀ {n0:Nat->Prop},I n0 A G aI nt F H a A->I n0 A G aI nt (EA l z).2.1 (EA l z).2.2 a A:=by
 intro l z ex h;obtain⟨h1,sh,x,h2,h3,h4⟩:=N4 h;refine⟨h1,λhI=>?_⟩;rw[h3,h4];exact IB h2 (λr _=>⟨rfl,rfl⟩) hI
theorem a0P(hcl:dF P (eT P E)) (hP:P.follows .mixedOrders=true) {b:Code} {sh:List (Nat×Kd)} {exits:List (Ex×List (Nat×Kd))} {step:Shape.den sh->Option (List (Value×aK ks)×(Shape.den sh⊕qI exits))} (L:Nat)
  (hl:∀ a∈gX b,aIU P nt lt ks li a) (hr:∀ x,a1T P E nt bG lt ks li b sh exits x=step x):aWE P nt ks b ⟨sh,exits,aGG step L⟩:=by
 intro x ys z hz l yv hyv G0 all J Jx hY pre post n a A G μ hall hys hS hF;refine wpIn_loop_ghost (λk a A=>∃ pre1 ys1 x G μ,aGG step k x=some (ys1,z)/\pre++ys.map (·.2)=pre1++ys1.map (·.2)/\(∀ y∈ys1,y.1=yv)/\Sg (J pre1) G0 G μ (JE sh x) A/\fQ A G μ nt (AR sh x 0) a) L ⟨pre,ys,x,G,μ,hz,rfl,hys,hS,hF⟩ ?_;rintro k a1 A1 ⟨pre1,ys1,x,G,μ,hz,hpre,hys1,hS,hF⟩;cases k with
 | zero=>cases hz
 | succ k =>
  simp only[aGG]at hz;have hall1:all=pre1++(ys1.map (·.2)++post):=by rw[hall,<- List.append_assoc,hpre,List.append_assoc]
  split at hz
  ·rename_i m y hs;obtain⟨m2,hz2,rfl⟩:=aFI hz;rw[<- hr]at hs;obtain⟨y1,y2,⟨ex,F',H'⟩,h1,h2,h3⟩:=zV hcl hP b _ _ _ a26 m _ (λ_ _=>rfl) hl hs;obtain⟨e1,h4⟩:=aML h1;clear h1;subst e1;rw[List.append_nil]at h2;subst h2;refine wpIn_mono (h3 l yv hyv G0 all J Jx hY pre1 (m2.map (·.2)++post) n a1 A1 G μ (by rw[hall1,List.map_append,List.append_assoc]) (λy hy=>hys1 y (List.mem_append_left _ hy)) hS hF) ?_;rintro e a' A' (⟨rfl,G',μ',hS',hF'⟩|⟨ex',F',H',pre',G',μ',hm,rfl,hS',hF'⟩)
   ·rcases T9 h4 with ⟨y',e1,e2,e3⟩|⟨z',e1,_,_⟩
    ·cases e1;dsimp only at e2;subst e2;obtain⟨G2,μ2,hS2,hF2⟩:=aV6 (λhI=>IB e3 (λr _=>⟨rfl,rfl⟩) hI) hS' hF';exact⟨k,by omega,_,m2,y,G2,μ2,hz2,by rw[hpre,List.map_append,List.append_assoc],λy hy=>hys1 y (List.mem_append_right _ hy),hS2,hF2⟩
    ·cases e1
   ·cases ex' with
    | ret=>exact .inr ⟨.ret,F',H',pre',G',μ',rfl,rfl,hS',hF'⟩
    | normal=>cases hm
    | exit i=>cases hm
  ·rename_i m y hs;simp only[oJ,oP]at hz;obtain⟨rfl,rfl⟩:=hz;rw[<- hr]at hs;obtain⟨y1,y2,⟨ex,F',H'⟩,h1,h2,h3⟩:=zV hcl hP b _ _ _ a26 m _ (λ_ _=>rfl) hl hs;obtain⟨e1,h4⟩:=aML h1;clear h1;subst e1;rw[List.append_nil]at h2;subst h2;refine wpIn_mono (h3 l yv hyv G0 all J Jx hY pre1 post n a1 A1 G μ hall1 hys1 hS hF) ?_;rintro e a' A' (⟨rfl,G',μ',hS',hF'⟩|⟨ex',F',H',pre',G',μ',hm,rfl,hS',hF'⟩)
   ·rcases T9 h4 with ⟨y',e1,e2,e3⟩|⟨z',e1,e2,e3⟩
    ·cases e1
    ·cases e1;dsimp only at e2 e3;obtain⟨h5,h6⟩:=aO6 (A:=A') (G:=G') (a:=a') (nt:=nt) e3;obtain⟨G2,μ2,hS2,hF2⟩:=aV6 (λhI=>h6 hI) hS' hF';have hout:(Exit.normal≠ex.to->True):=λ_=>trivial
     cases ex with
     | normal=>exact absurd rfl e2
     | exit i=>exact .inl ⟨by rw[h5],G2,μ2,by rw[hpre]; exact hS2,hF2⟩
     | ret=>exact .inl ⟨by rw[h5],G2,μ2,by rw[hpre]; exact hS2,hF2⟩
   ·cases ex' with
    | ret=>exact .inr ⟨.ret,F',H',pre',G',μ',rfl,rfl,hS',hF'⟩
    | normal=>cases hm
    | exit i=>cases hm
  ·cases hz
def aZ4(P:Program) (E:Env) (fn:Func) (bG:Nat) (lt:Nat->Option cA) (ks:List Kd) (li:Nat->Option (V6 (Value×aK ks))) (c:Code) (ts:List Ty) (yv:Value) (x:Q5 ts):Option (List (Value×aK ks)) :=
 bif Nat.ble (1+(VK ts x).length) fn.ntmps then a3X (K1 P E fn.ntmps bG lt ks li c (start bG 0 (.lit yv::VK ts x)) [] (λex _ _=>match ex with
  | .exit _=>none
  | _=>some ([],())) (λex _ _=>match ex with
  | .exit _=>none
  | _=>some ())) else none
theorem a2P(hP:ME P) (hE:fR P E) {g:Nat} {fn:Func} (hg:P.funcs[g]?=some fn) {c:Code} (hc:fn.body=some c) (hres:fn.results=#[]) {ts:List Ty} {f:Q5 ts->Option (List (aK ks))}
  (hl:∀ a∈gX c,aIU P fn.ntmps lt ks li a) (hb:∀ yv x all,f x=some all->aZ4 P E fn bG lt ks li c ts yv x=some (all.map λe=>(yv,e))):aKC P g ts ks f:=by
 intro x all hall m l W G vs hlt hvs J Jx hY hJ;obtain⟨yv,hyv⟩:∃ yv:Value,yv=.func (.yield l) #[] #[]:=⟨_,rfl⟩;have hbx:=hb yv x all hall;unfold aZ4 at hbx;obtain⟨hlen,hbx⟩:=aH hbx;unfold a3X at hbx;split at hbx
 ·rename_i l0 u hex;have hl0:=oB hbx;obtain⟨ys1,ys2,⟨ex,F',H'⟩,h1,h2,h3⟩:=zV hE.callee hP.mixed c _ _ _ _ _ _ (λ_ _=>rfl) hl hex;have hex:(ex=.normal\/ex=.ret)/\ys2=[]:=by
   cases ex with
   | exit i=>cases h1
   | normal =>
    simp only[oJ,oP]at h1;exact⟨.inl rfl,h1.1.symm⟩
   | ret =>
    simp only[oJ,oP]at h1;exact⟨.inr rfl,h1.1.symm⟩
  obtain⟨hex,rfl⟩:=hex;rw[List.append_nil]at h2;subst h2;have hys:∀ y∈l0,y.1=yv:=by
   intro y hy;rw[hl0]at hy;obtain⟨e,-,rfl⟩:=List.mem_map.1 hy;rfl
  have hmap:l0.map (·.2)=all:=by
   rw[hl0,List.map_map];exact List.map_id all
  refine callsIn_of_wp hg hc trivial ?_ rfl;have hargs:VRs W (Gd.of G) aI (.lit yv::VK ts x) ((#[.func (.yield l) #[] #[]]:Array Value)++vs.toArray).toList:=by
   rw[<- hyv];simp only[Array.toList_append,List.cons_append,List.nil_append];rw[VRs];exact⟨yv,vs,rfl,by rw[VR],hvs⟩
  have hF0:=AP (m:=bG) (n:=fn.ntmps) hargs (by simpa[Nat.add_comm]using oL hlen);have hS0:Sg (J []) (Gd.of G) (Gd.of G) aI [] W:=Sg.start hlt hJ;have post:∀ (ex:Exit) (a:Act) (A:World),(ex=.normal\/ex=.ret)->a.defers=[]->∀ (T X:Nat->Prop) (B:World),Stp X B A->(J all T X B\/∃ pre,Jx pre T X B) ->
    bodyPost P fn (λen C=>(∃ v,en=.returned v)/\∃ T X B,Stp X B C/\(J all T X B\/∃ pre,Jx pre T X B)) ex a A:=by
   intro ex a A hex hd T X B hst hj;have hr:(results fn a.tmps).run P A=.ok (.tuple #[]) A:=by simp[results,hres]
   rcases hex with rfl|rfl
   ·exact⟨hd,_,hr,⟨_,rfl⟩,T,X,B,hst,hj⟩
   ·exact⟨hd,_,hr,⟨_,rfl⟩,T,X,B,hst,hj⟩
  refine wpIn_mono (h3 l yv hyv (Gd.of G) all J Jx hY [] [] m _ W (Gd.of G) aI (by rw[hmap]; simp) hys hS0 hF0) ?_;rintro e a' A' (⟨rfl,G',μ',hS',hF'⟩|⟨ex',F',H',pre',G',μ',hm,rfl,hS',hF'⟩)
  ·obtain⟨T,X,B,hst,hj⟩:=hS'.stp;rw[List.nil_append,hmap]at hj;refine post _ a' A' ?_ hF'.defers T X B hst (.inl hj);rcases hex with rfl|rfl
   ·exact .inl rfl
   ·exact .inr rfl
  ·obtain⟨T,X,B,hst,hj⟩:=hS'.stp;refine post _ a' A' ?_ hF'.defers T X B hst (.inr ⟨_,hj⟩);cases ex' with
   | normal=>exact .inl rfl
   | ret=>exact .inr rfl
   | exit i=>cases hm
 ·cases hbx
theorem a14 {a:Code}{i:Nat}{s0:V6 (Value×aK ks)}(hf:bQ a=i)(hlt:lt i=none)(hli:li i=some s0)(h:aWE P nt ks a s0):aIU P nt lt ks li (.loop a):=by
 refine⟨λs hs=>?_,λs hs=>?_⟩
 ·rw[hf,hlt]at hs;cases hs
 ·rw[hf,hli]at hs;cases hs;exact h
def aIV(P:Program)(nt:Nat)(lt:Nat->Option cA)(ks:List Kd)(li:Nat->Option (V6 (Value×aK ks))):List Code->Prop
 | []=>True
 | c::r=>aIU P nt lt ks li c/\aIV P nt lt ks li r
theorem aD6:∀ {l:List Code},aIV P nt lt ks li l->∀ a∈l,aIU P nt lt ks li a
 | [],_,a,ha=>by cases ha
 | c::r,h,a,ha=>by
  rcases List.mem_cons.1 ha with rfl|ha
  ·exact h.1
  ·exact aD6 h.2 a ha
theorem aSK {c:Code}{l:List Code}(hc:gX c=l)(h:aIV P nt lt ks li l):∀ a∈gX c,aIU P nt lt ks li a:=by rw[hc]; exact aD6 h
end
end Go.PM
namespace Go.PM
open Go
theorem aM(i:Int)(n:Nat):aF i n=decide (0<=i/\i<n):=by
 cases i with
 | ofNat m =>
  show Nat.blt m n=_;rw[cD]
  by_cases h:m<n
  ·rw[oT h,oT]; exact⟨Int.natCast_nonneg m,Int.ofNat_lt.2 h⟩
  ·rw[oF h,oF]; rintro⟨-,h2⟩; exact h (Int.ofNat_lt.1 h2)
 | negSucc m =>
  show false=_;rw[oF]; rintro⟨h,-⟩; exact absurd h (by omega)
theorem dN(m n:Nat):Nat.ble m n=decide (m<=n):=by
 cases h:Nat.ble m n with
 | true=>exact(oT (oL h)).symm
 | false =>
  refine(oF λhl=>?_).symm;rw[Nat.ble_eq_true_of_le hl]at h;cases h
theorem wrap64 {x:Int}(h1 : -9223372036854775808<=x)(h2:x<9223372036854775808):aB .i64 x=x:=by
 cases x with
 | ofNat m =>
  have:m<9223372036854775808:=by have:(m:Int)<9223372036854775808:=h2; omega
  unfold aB;simp only[cD,oT this,oC]
 | negSucc m =>
  have:m<9223372036854775808:=by omega
  unfold aB;simp only[cD,oT this,oC]
theorem bX(i:Nat)(h:i<9223372036854775807):aB .i64 ((i:Int)+1)=((i+1:Nat):Int):=by rw[wrap64 (by omega) (by omega)]; rfl
theorem UU {x:Int}(h1 : -9223372036854775808<=x)(h2:x<9223372036854775808):IntKind.wrap .i64 x=x:=by rw[<- TF]; exact wrap64 h1 h2
theorem aEK {α:Type}(p:Prop) [Decidable p](a b:α):(bif decide p then a else b)=if p then a else b:=by by_cases h:p <;> simp[h]
theorem aD {τ α:Type}(x:τ)(k:τ->Option α):aC (some x) k=k x:=rfl
theorem a2R(p:Prop) [Decidable p]:(!decide p)=decide (¬ p):=by by_cases h:p <;> simp[h]
theorem EL {β γ α:Type}(z:β)(f:β->Option α)(g:γ->Option α):vB (.inl z) f g=f z:=rfl
theorem jN {β γ α:Type}(z:γ)(f:β->Option α)(g:γ->Option α):vB (.inr z) f g=g z:=rfl
section
variable {σ τ:Type} {step:σ->Option (σ⊕τ)}
theorem fS(n:Nat)(x:σ):bF step (n+1) x=match step x with
  | some (.inl y)=>bF step n y
  | some (.inr z)=>some z
  | none=>none:=rfl
theorem aF4(F:Nat->σ)(k:Nat):∀ (m j:Nat),(∀ i,j<=i->i<j+m->step (F i)=some (.inl (F (i+1))))->bF step (m+k) (F j)=bF step k (F (j+m))
 | 0,j,_=>by rw[Nat.zero_add,Nat.add_zero]
 | m+1,j,h=>by
  rw[Nat.add_right_comm,fS,h j (oM _) (by omega)];show bF step (m+k) (F (j+1))=_;rw[aF4 F k m (j+1) λi h1 h2=>h i (by omega) (by omega)]
  congr 2; omega
theorem aU {N:Nat} (F:Nat->σ) (m:Nat) (z:τ) (hN:m<N) (h:∀ i,i<m->step (F i)=some (.inl (F (i+1)))) (he:step (F m)=some (.inr z)):bF step N (F 0)=some z:=by
 obtain⟨k,rfl⟩:∃ k,N=m+(k+1):=⟨N-m-1,by omega⟩;rw[aF4 F (k+1) m 0 (λi _ h2=>h i (by omega)),Nat.zero_add,fS,he]
end
open Go Go.RowKit
section
variable {P:Program} {n0:Nat->Prop} {w w':World} {G G':Gd} {μ μ1:Mp} {H H1:Heap}
def SN(μ μ1:Mp)(h:Nat):Mp:=⟨λr=>if r<h then μ.loc r else μ1.loc (r-h),λr=>if r<h then μ.len r else μ1.len (r-h)⟩
theorem BS {h r:Nat}(hr:r<h):(SN μ μ1 h).loc r=μ.loc r/\(SN μ μ1 h).len r=μ.len r:=by simp[SN,hr]
theorem BO {h r:Nat}(hr:h<=r):(SN μ μ1 h).loc r=μ1.loc (r-h)/\(SN μ μ1 h).len r=μ1.len (r-h):=by
 have:¬ r<h:=by omega
 simp[SN,this]
theorem aSJ(hW:aN n0 G μ H w)(e:Ext (zY w) w G.bare aI w' G' μ1):Ext n0 w G μ w' (G'.with G) (SN μ μ1 H.length):={
 good:=e.good
 map:=λr b hr=>by
  rcases oG r H.length with hl|hl
  ·rw[(BS hl).1]; exact hr
  ·rw[(hW.top r hl).1]at hr; cases hr
 len:=λr b hr=>by
  rcases oG r H.length with hl|hl
  ·rw[(BS hl).2]; exact hr
  ·rw[(hW.top r hl).2]at hr; cases hr
 room:=e.room
 row:=λ_ _ h=>h
 os:=e.os
 tape:=e.tape
 output:=e.output
 size:=e.size
 old:=λb hb _=>e.old b hb (Nat.not_le.2 hb)
 new:=λb hb=>by
  rcases e.new b hb with h|h
  ·exact .inl h
  ·exact .inr (hW.base b h) }
theorem aW8(hW:aN n0 G μ H w)(e:Ext (zY w) w G.bare aI w' G' μ1)(h1:aN (zY w) G' μ1 H1 w')(ht:WG H1=true)(hp:∀ (r:Nat) (k:Blk),H1[r]?=some (some k)->eZ.noRows k.cells=true/\∀ t l,k.tag≠some ⟨.rows t,l⟩):aN n0 (G'.with G) (SN μ μ1 H.length) (H++H1) w':=by
 have e':=aSJ hW e;have key:∀ (r:Nat) (k:Blk),(H++H1)[r]?=some (some k)->(r<H.length/\H[r]?=some (some k))\/(H.length<=r/\H1[r-H.length]?=some (some k)):=by
  intro r k hr;rcases oG r H.length with hl|hl
  ·rw[List.getElem?_append_left hl]at hr; exact .inl ⟨hl,hr⟩
  ·rw[List.getElem?_append_right hl]at hr; exact .inr ⟨hl,hr⟩
 refine⟨?_,?_,?_,h1.lt,?_,λb hb=>hW.base b (oR e.size hb),hW.rows.step e'.toMono.aI e.size (λ_=>rfl) (λj b hj=>?_) (λr k t l hr hg htg=>?_)⟩
 case refine_5 =>
  have hlt:=(hW.rows.sep j b hj).1;refine⟨e.old b hlt (Nat.not_le.2 hlt),λhg=>?_,λr k hr hf hl=>?_⟩
  ·rcases e.new b hg with h|h
   ·exact h
   ·exact absurd hlt (Nat.not_lt.2 h)
  ·rcases key r k hr with ⟨hl2,hr⟩|⟨hl2,hr⟩
   ·rw[(BS hl2).1]at hl; exact⟨r,k,hr,hf,hl⟩
   ·rw[(BO hl2).1]at hl;obtain⟨_,_,_,_,_,a5⟩:=h1.blk _ k b hr hl;exact absurd hlt (Nat.not_lt.2 (a5 hf).1)
 case refine_6 =>
  rcases key r k hr with ⟨hl2,hr⟩|⟨hl2,hr⟩
  ·exact⟨k,hr,rfl,rfl,rfl,(BS hl2).1⟩
  ·exact absurd htg ((hp _ k hr).2 t l)
 ·intro r k b hr hb;rcases key r k hr with ⟨hl,hr⟩|⟨hl,hr⟩
  ·rw[(BS hl).1]at hb;obtain⟨c,a1,a2,a3,a4,a5⟩:=hW.blk r k b hr hb;have hlt:=hW.nB hr hb;have ho:=e.old b hlt (Nat.not_le.2 hlt);refine⟨c,ho.trans a1,aL.mono e'.toMono ho 0 _ a2,a3,λhf=>(e.good b (a4 hf)).1,λhf=>⟨(a5 hf).1,λhg=>?_⟩⟩;rcases e.new b hg with h|h
   ·exact(a5 hf).2 h
   ·omega
  ·rw[(BO hl).1]at hb;obtain⟨c,a1,a2,a3,a4,a5⟩:=h1.blk _ k b hr hb;refine⟨c,a1,?_,a3,a4,λhf=>⟨hW.base b (a5 hf).1,(a5 hf).2⟩⟩;refine wV (G:=G') (G':=G'.with G) (λb h=>h) _ _ _ _ (hp _ k hr).1 ?_;rcases UO ht hr with hg|hg
   ·obtain⟨g,hg⟩:=Option.isSome_iff_exists.1 hg;have:=(h1.tags _ k g hr hg).1;rw[this]at a2 ⊢;exact rM (jL _ _) a2
   ·exact rM hg a2
 ·intro r k g hr hg;rcases key r k hr with ⟨hl,hr⟩|⟨hl,hr⟩
  ·rw[(BS hl).2]; exact hW.tags r k g hr hg
  ·rw[(BO hl).2]; exact h1.tags _ k g hr hg
 ·intro r s k l b hr hs fk fl m1 m2;rcases key r k hr with ⟨hl,hr⟩|⟨hl,hr⟩ <;> rcases key s l hs with ⟨hl2,hs⟩|⟨hl2,hs⟩
  ·rw[(BS hl).1]at m1;rw[(BS hl2).1]at m2;exact hW.inj r s k l b hr hs fk fl m1 m2
  ·rw[(BS hl).1]at m1;rw[(BO hl2).1]at m2;obtain⟨_,_,_,_,_,a5⟩:=h1.blk _ l b hs m2;have:=hW.nB hr m1;have:=(a5 fl).1;omega
  ·rw[(BO hl).1]at m1;rw[(BS hl2).1]at m2;obtain⟨_,_,_,_,_,a5⟩:=h1.blk _ k b hr m1;have:=hW.nB hs m2;have:=(a5 fk).1;omega
  ·rw[(BO hl).1]at m1;rw[(BO hl2).1]at m2;have:=h1.inj _ _ k l b hr hs fk fl m1 m2;omega
 ·intro r hr;simp only[oH]at hr;have hl:H.length<=r:=by omega
  rw[(BO hl).1,(BO hl).2];exact h1.top _ (by omega)
theorem a0J {r sz:Nat}{v:Value}(h:VR w' G' μ1 (.own r sz) v):VR w' G' (SN μ μ1 H.length) (.own (H.length+r) sz) v:=by
 have e:=BO (μ:=μ) (μ1:=μ1) (h:=H.length) (r:=H.length+r) (by omega);rw[VR]at h ⊢;rw[e.1,e.2,Nat.add_sub_cancel_left];exact h
def aKH(P:Program) (g:FuncId) (args:List Kd) (e:TypeId) (ty:Ty) (f:aK args->Option (List ty.den)):Prop :=
 ∀ x l,f x=some l->∀ {n0 G μ w us},aN n0 G μ [] w->VRs w G μ (lO args x) us->xH P n0 w G μ g us.toArray (.own 0 ty.size) [some ⟨aG ty l,e,true,false,some ⟨ty,l⟩⟩]
def a6K(t:Nat)(e:TypeId)(ty:Ty)(ex:Ex)(F:Frm)(H:Heap):Option (List ty.den):=match ex with
 | .exit _=>none
 | _=>match Q9 [(t,.own e ty)] F H with
  | some x=>some x.1
  | none=>none
def aMI(P:Program)(E:Env)(fn:Func)(bG:Nat)(lt:Nat->Option cA)(c:Code)(args:List Kd)(t:Nat)(e:TypeId)(ty:Ty)(x:aK args):Option (List ty.den) :=
 bif Nat.ble (lO args x).length fn.ntmps then EU P E fn.ntmps bG lt c (start bG 0 (lO args x)) [] (a6K t e ty) else none
theorem aH5 {E:Env} (hP:ME P) (hE:fR P E) {g:Nat} {fn:Func} (hg:P.funcs[g]?=some fn) {c:Code} (hc:fn.body=some c) {bG:Nat} {lt:Nat->Option cA} {args:List Kd} {t:Nat} (hr:fn.results.toList=[.tmp t]) {e:TypeId} {ty:Ty} {f:aK args->Option (List ty.den)}
  (hl:∀ a∈a8 c,∀ s,lt (bQ a)=some s->eS P fn.ntmps a s) (hb:∀ x,aMI P E fn bG lt c args t e ty x=f x):aKH P g args e ty f:=by
 intro x l hy n0 G μ w us hW hv;rw[<- hb]at hy;unfold aMI at hy;obtain⟨hlen,hy⟩:=aH hy;obtain⟨⟨ex,F',H'⟩,h1,h2⟩:=nG hE.callee hP.mixed c _ _ _ _ hl hy;obtain⟨y,hex,hd,hyl⟩:∃ y,(ex=.normal\/ex=.ret)/\Q9 [(t,.own e ty)] F' H'=some y/\y.1=l:=by
  unfold a6K at h1;split at h1
  ·cases h1
  ·rename_i hne;split at h1
   ·rename_i y hy;simp only[oJ]at h1;refine⟨y,?_,hy,h1⟩;cases ex with
    | normal=>exact .inl rfl
    | ret=>exact .inr rfl
    | exit i=>exact absurd rfl (hne i)
   ·cases h1
 obtain⟨yl,⟨⟩⟩:=y;dsimp only at hyl;subst hyl;refine⟨enters hg (hP.names g fn hg) (by rw[hc]; rfl) _ _,calls_of_wp hg hc ?_⟩;have hI:I n0 w G μ fn.ntmps (start bG 0 (lO args x)) [] ⟨us.toArray++Array.replicate (fn.ntmps-us.toArray.size) undef,[]⟩ w:=⟨G,μ,Ext.refl _ _ _ _,hW,AP (by simpa using hv) (oL hlen)⟩;refine wp_mono (h2 n0 w G μ _ w (λr=>hW.top r (Nat.zero_le _)) hI) ?_;rintro e0 a' w' ⟨rfl,hI'⟩
 obtain⟨G',μ',e',hW',hF'⟩:=FP hd (λr=>hW.top r (Nat.zero_le _)) hI';have hvs:uO P (AR [(t,.own e ty)] (yl,()) 0) (JE [(t,.own e ty)] (yl,())) fn.results.toList=some [.own 0 ty.size]:=by
  rw[hr];simp[uO,aHX,AR,AQ,cV]
 obtain⟨ws,h3,h4⟩:=rD (P:=P) hW' hF' hvs;have hres:(results fn a'.tmps).run P w'=.ok (if hh:ws.toArray.size=1 then ws.toArray[0] else .tuple ws.toArray) w':=by
  rw[DR,Array.mapM_eq_mapM_toList];simp only[Sem.run_bind,Sem.run_map,h3,Result.andThen_ok,Sem.run_pure]
 have hpost:a'.defers=[]/\∃ v,(results fn a'.tmps).run P w'=.ok v w'/\(∃ v' G'' μ'',Ending.returned v=.returned v'/\Ext n0 w G μ w' G'' μ''/\aN n0 G'' μ'' (JE [(t,.own e ty)] (yl,())) w'/\VR w' G'' μ'' (.own 0 ty.size) v') :=
  ⟨hF'.defers,_,hres,_,G',μ',rfl,e',hW',tM h4⟩
 rcases hex with rfl|rfl
 ·exact hpost
 ·exact hpost
def aXO(args:List Kd) (e:TypeId) (ty:Ty) (f:aK args->Option (List ty.den)) (qs:List PV) (H:Heap):Option aJ5 :=
 bif eB.noRefs qs&&(eZ.noRows qs&&ty.plain) then match aK9 args qs with
  | some x=>some ⟨List ty.den,f x,λl=>(.own H.length ty.size,H++[some ⟨aG ty l,e,true,false,some ⟨ty,l⟩⟩])⟩
  | none=>none
 else none
theorem aH0 {g:FuncId}{args:List Kd}{e:TypeId}{ty:Ty}{f:aK args->Option (List ty.den)}(hf:aKH P g args e ty f):uT P (g,aXO args e ty f):=by
 intro qs H r h y hy n0 G μ w vs hW hv;dsimp only at h;unfold aXO at h;obtain⟨hn,h⟩:=aEP h;split at h
 ·rename_i x hx;have h:=oB h;subst h;simp only[oA]at hn;obtain⟨hn,hnr,hpl⟩:=hn;have hW0:aN (zY w) G.bare aI [] w:=⟨λr k b h=>by simp at h,λr k g h=>by simp at h,λr s k l b h=>by simp at h,hW.lt,λ_ _=>⟨rfl,rfl⟩,λ_ h=>h,sY.none _ _ (λ_=>rfl) _ _ (λr k h=>by simp at h)⟩;obtain⟨h1,h2⟩:=hf x y hy hW0 (IH args hx (vS (G:=G) (G':=G.bare) (λb h=>h) _ _ _ hnr (dB _ _ hn hv)));refine⟨h1,h2.mono ?_⟩;rintro e' w' ⟨v',G',μ1,rfl,e1,e2,e3⟩
  refine⟨v',G'.with G,SN μ μ1 H.length,rfl,aSJ hW e1,aW8 hW e1 e2 rfl (λr k hr=>?_),?_⟩
  ·cases r with
   | zero =>
    simp only[List.getElem?_cons_zero,oJ]at hr;subst hr;exact⟨A8 _ hpl _,λt l h=>by simp only[oJ,Tg.mk.injEq]at h; obtain⟨rfl,_⟩:=h; cases hpl⟩
   | succ r=>simp at hr
  have:=a0J (H:=H) (μ:=μ) e3;rw[VR]at this ⊢;simpa using this
 ·cases h
end
section
variable {P:Program} {n0:Nat->Prop} {w w':World} {G G':Gd} {μ μ1:Mp} {H H1:Heap}
theorem aQO(hW:aN n0 G μ H w) {r:Nat} (hr:H[r]?=some none) (k:Blk) (hf:k.frozen=false) (hg:k.grown=true)
  (hblk:∀ b,μ.loc r=some b->(∃ c,w.heap[b]?=some (.cells c k.ty (0,0))/\aL w G μ b 0 k.cells)/\n0 b/\¬ G b/\(∀ s k1,H[s]?=some (some k1)->k1.frozen=false->μ.loc s≠some b)/\∀ j,G.row j≠some b)
  (htag:∀ g,k.tag=some g->k.cells=aG g.t g.l/\μ.len r=some g.l.length):aN n0 G μ (H.set r (some k)) w:=by
 have hlt:r<H.length:=(oO.1 hr).1;have key:∀ s k1,(H.set r (some k))[s]?=some (some k1)->(s=r/\k1=k)\/(s≠r/\H[s]?=some (some k1)):=by
  intro s k1 hs
  by_cases e:r=s
  ·subst e;rw[List.getElem?_set_self hlt]at hs;exact .inl ⟨rfl,(oB (oB hs)).symm⟩
  ·rw[List.getElem?_set_ne e]at hs;exact .inr ⟨Ne.symm e,hs⟩
 refine⟨?_,?_,?_,hW.lt,λs hs=>hW.top s (by simpa using hs),hW.base,?_⟩
 ·intro s k1 b hs hb;rcases key s k1 hs with ⟨rfl,rfl⟩|⟨_,hs⟩
  ·obtain⟨⟨c,h1,h2⟩,h3,h4,_⟩:=hblk b hb;exact⟨c,h1,h2,λh=>(by rw[hg]at h; cases h),λh=>(by rw[hf]at h; cases h),λ_=>⟨h3,h4⟩⟩
  ·exact hW.blk s k1 b hs hb
 ·intro s k1 g hs h1;rcases key s k1 hs with ⟨rfl,rfl⟩|⟨_,hs⟩
  ·exact htag g h1
  ·exact hW.tags s k1 g hs h1
 ·intro s1 s2 k1 k2 b h1 h2 f1 f2 m1 m2;rcases key s1 k1 h1 with ⟨rfl,rfl⟩|⟨_,h3⟩
  ·rcases key s2 k2 h2 with ⟨rfl,rfl⟩|⟨_,h4⟩
   ·rfl
   ·exact absurd m2 ((hblk b m1).2.2.2.1 s2 k2 h4 f2)
  ·rcases key s2 k2 h2 with ⟨rfl,rfl⟩|⟨_,h4⟩
   ·exact absurd m1 ((hblk b m2).2.2.2.1 s1 k1 h3 f1)
   ·exact hW.inj s1 s2 k1 k2 b h3 h4 f1 f2 m1 m2
 ·refine⟨hW.rows.inj,?_,hW.rows.cel,?_,?_⟩
  ·intro j b hj;obtain⟨a1,a2,a3,a4⟩:=hW.rows.sep j b hj;refine⟨a1,a2,a3,λs k1 hs f1 m1=>?_⟩;rcases key s k1 hs with ⟨rfl,rfl⟩|⟨_,hs⟩
   ·exact(hblk b m1).2.2.2.2 j hj
   ·exact a4 s k1 hs f1 m1
  ·intro s k1 t l hs h1 h2;rcases key s k1 hs with ⟨rfl,rfl⟩|⟨_,hs⟩
   ·rw[hg]at h1; cases h1
   ·exact hW.rows.arn s k1 t l hs h1 h2
  ·intro s1 s2 k1 k2 t l t' l' h1 g1 t1 h2 g2 t2;rcases key s1 k1 h1 with ⟨rfl,rfl⟩|⟨_,h1⟩
   ·rw[hg]at g1; cases g1
   ·rcases key s2 k2 h2 with ⟨rfl,rfl⟩|⟨_,h2⟩
    ·rw[hg]at g2; cases g2
    ·exact hW.rows.one s1 s2 k1 k2 t l t' l' h1 g1 t1 h2 g2 t2
def aRB(P:Program) (g:FuncId) (e:TypeId) (t:Ty) (args:List Kd) (f:List t.den->aK args->Option (List t.den)):Prop :=
 ∀ l x l',f l x=some l'->∀ {n0 G μ H w us r},aN n0 G μ H w->H[r]?=some (some (owB e t l))->VRs w G μ (.own r t.size::lO args x) us->eZ.noRows (lO args x)=true->xH P n0 w G μ g us.toArray (.tuple []) (H.set r (some (owB e t l')))
def SY {t:Ty} {args:List Kd} (f:Unit->aK (.hnd t.size::args)->List (List t.den)->Option (aK []×List (List t.den))) (l:List t.den) (x:aK args):Option (List t.den):=match f () ((0,0,l.length),x) [l]with
 | some ((),[l'])=>bif Nat.beq l'.length l.length then some l' else none
 | _=>none
def aTS(P:Program) (g:FuncId) (e:TypeId) (t:Ty) (args rets:List Kd) (f:List t.den->aK args->Option (aK rets×List t.den)):Prop :=
 ∀ l x y l',f l x=some (y,l')->∀ {n0 G μ H w us r},aN n0 G μ H w->H[r]?=some (some (owB e t l))->VRs w G μ (.own r t.size::lO args x) us->eZ.noRows (lO args x)=true->xH P n0 w G μ g us.toArray (aG7 rets y) (H.set r (some (owB e t l')))
def YS {t:Ty} {args rets:List Kd} (f:Unit->aK (.hnd t.size::args)->List (List t.den)->Option (aK rets×List (List t.den))) (l:List t.den) (x:aK args):Option (aK rets×List t.den):=match f () ((0,0,l.length),x) [l]with
 | some (y,[l'])=>bif Nat.beq l'.length l.length then some (y,l') else none
 | _=>none
def a16:List Kd->Bool
 | []=>true
 | [.bool]=>true
 | [.int _]=>true
 | _=>false
theorem aY7 {rets:List Kd}(h:a16 rets=true)(y:aK rets){w:World}{G G':Gd}{μ μ':Mp}{v:Value}(hv:VR w G μ (aG7 rets y) v):VR w G' μ' (aG7 rets y) v:=by
 unfold a16 at h;split at h
 ·change VR w G μ (.tuple []) v at hv;change VR w G' μ' (.tuple []) v;rw[VR]at hv ⊢;obtain⟨vs,h1,h2⟩:=hv;rw[VRs]at h2;exact⟨vs,h1,by rw[VRs]; exact h2⟩
 ·obtain⟨b,⟨⟩⟩:=y;change VR w G μ (.lit (.bool b)) v at hv;change VR w G' μ' (.lit (.bool b)) v;rw[VR]at hv ⊢;exact hv
 ·rename_i k;obtain⟨b,⟨⟩⟩:=y;change VR w G μ (.lit (.int k b)) v at hv;change VR w G' μ' (.lit (.int k b)) v;rw[VR]at hv ⊢;exact hv
 ·cases h
theorem aKA {g:FuncId} {e:TypeId} {t:Ty} {args rets:List Kd} {f:Unit->aK (.hnd t.size::args)->List (List t.den)->Option (aK rets×List (List t.den))} (hf:LA P g e t .none (.hnd t.size::args) (.data rets) f) (hd:PT args=true) (hpl:t.plain=true) (hlr:a16 rets=true) (he:e≠NJ:=by decide):aTS P g e t args rets (YS f):=by
 intro l x yy l' hy n0 G μ H w us r hW hk hv hnr;unfold YS at hy;split at hy
 ·rename_i y1 l1 hfl;obtain⟨hlen,hy⟩:=aH hy;obtain⟨rfl,rfl⟩:=Prod.mk.inj (oB hy);have hlen:=oE hlen;have ht2:=(hW.tags r _ _ hk rfl).2;have hlt:r<H.length:=(oO.1 hk).1;obtain⟨rb,hrb⟩:∃ rb:Option Nat,rb=if l=[] then none else μ.loc r:=⟨_,rfl⟩
  have hrbl:∀ b,rb=some b->μ.loc r=some b/\l≠[]:=λb hb=>by
   rw[hrb]at hb;split at hb
   ·cases hb
   ·rename_i hne; exact⟨hb,hne⟩
  have hmine:∀ b,μ.loc r=some b->n0 b/\¬ G b:=λb hb=>by
   obtain⟨_,_,_,_,_,h6⟩:=hW.blk r _ b hk hb;exact h6 rfl
  have hrow:∀ j b,G.row j=some b->μ.loc r≠some b:=λj b hj=>(hW.rows.sep j b hj).2.2.2 r _ hk rfl
  obtain⟨u,us',rfl,q1,q2⟩:∃ u us',us=u::us'/\VR w G μ (.own r t.size) u/\VRs w G μ (lO args x) us':=by rw[VRs]at hv; exact hv
  have at0:∀ (s:Nat) (k1:Blk),([some (arB e t [l])]:Heap)[s]?=some (some k1)->s=0/\k1=arB e t [l]:=by
   intro s k1 hs;cases s with
   | zero=>simp only[List.getElem?_cons_zero,oJ]at hs; exact⟨rfl,hs.symm⟩
   | succ s=>simp at hs
  have hG0:∃ G0:Gd,G0=⟨G.ok,λj=>if j=0 then rb else none⟩:=⟨_,rfl⟩;obtain⟨G0,hG0⟩:=hG0;have hok:G0.ok=G.ok:=by rw[hG0]
  have hr0:∀ j b,G0.row j=some b->j=0/\rb=some b:=λj b hj=>by
   rw[hG0]at hj;dsimp only at hj;split at hj
   ·exact⟨‹_›,hj⟩
   ·cases hj
  have hW1:aN (λb=>w.heap.size<=b\/rb=some b) G0 ⟨λ_=>none,λs=>if s=0 then some 1 else none⟩ [some (arB e t [l])] w:=by
   refine⟨λs k1 b hs hb=>(by cases hb),?_,λs1 s2 k1 k2 b _ _ _ _ m=>(by cases m),by rw[hok]; exact hW.lt,?_,λb hb=>.inl hb,?_⟩
   ·intro s k1 gg hs hg;obtain⟨rfl,rfl⟩:=at0 s k1 hs;cases hg;exact⟨rfl,rfl⟩
   ·intro s hs;have:s≠0:=by rintro rfl; simp at hs
    exact⟨rfl,by simp[this]⟩
   ·refine⟨λi j b h1 h2=>(hr0 i b h1).1.trans (hr0 j b h2).1.symm,λj b hj=>?_,λj b hj=>?_,λs k1 t1 l1 hs h1 h2=>?_,λs1 s2 k1 k2 t1 l1 t2 l2 h1 _ _ h2 _ _=>((at0 s1 k1 h1).1.trans (at0 s2 k2 h2).1.symm)⟩
    ·obtain⟨_,h2⟩:=hr0 j b hj;exact⟨hW.nB hk (hrbl b h2).1,.inr h2,by rw[hok]; exact(hmine b (hrbl b h2).1).2,λ_ _ _ _ h=>by cases h⟩
    ·obtain⟨_,h2⟩:=hr0 j b hj;obtain⟨c,h3,_⟩:=hW.blk r _ b hk (hrbl b h2).1;exact .inl ⟨c,_,_,h3⟩
    ·obtain⟨rfl,rfl⟩:=at0 s k1 hs;cases h2;refine⟨rfl,λj hj=>?_,λj row hj=>?_⟩
     ·rw[hG0];have:j≠0:=by rintro rfl; simp at hj
      simp[this]
     ·cases j with
      | zero =>
       simp only[List.getElem?_cons_zero,oJ]at hj;subst hj
       by_cases hl:l=[]
       ·exact .inl ⟨hl,he⟩
       ·right;rw[VR]at q1;obtain⟨n,z1,z2⟩:=q1;rw[ht2]at z1;obtain rfl:=oB z1;rcases z2 with ⟨z2,_⟩|⟨b,c,z2,_⟩
        ·exact absurd (List.eq_nil_of_length_eq_zero z2) hl
        ·obtain⟨cc,a1,a2,_⟩:=hW.blk r _ b hk z2;refine⟨b,by rw[hG0,hrb]; simp[hl,z2],.inl ⟨he,cc,a1,?_⟩⟩;exact wV (G:=G) (G':=G0) (λb h=>by rw[hok]; exact h) _ _ _ _ (A8 t hpl l) (rM (jL _ _) a2)
      | succ j=>simp at hj
  have hv1:VRs w G0 ⟨λ_=>none,λs=>if s=0 then some 1 else none⟩ (Tk.none.pv 0++lO (.hnd t.size::args) ((0,0,l.length),x)) (u::us'):=by
   change VRs w G0 _ (.row 0 0 l.length t.size::lO args x) (u::us');rw[VRs];refine⟨u,us',rfl,?_,VRs.aY (vS (G:=G) (G':=G0) (λb h=>by rw[hok]; exact h) _ _ _ hnr (dB _ _ (NP args x hd) q2))⟩;rw[VR]at q1;rw[VR];obtain⟨n,z1,z2⟩:=q1;rw[ht2]at z1;obtain rfl:=oB z1;rcases z2 with ⟨z2,ao,rfl⟩|⟨b,c,z2,rfl,z3,z4⟩
   ·exact⟨ao,0,by rw[show l.length=0 from z2],by rw[show l.length=0 from z2]; exact oM _,.inl z2⟩
   ·refine⟨_,c,rfl,z3,?_⟩
    by_cases hl:l=[]
    ·exact .inl (by rw[hl]; rfl)
    ·exact .inr ⟨b,by rw[hG0,hrb]; simp[hl,z2],by simp,by simpa using z4⟩
  obtain⟨c1,c2⟩:=hf () ((0,0,l.length),x) [l] y1 [l1] hfl (ra:=0) (r:=0) hW1 rfl ⟨λ_ _ h=>by cases h⟩ hv1;refine⟨c1,c2.mono ?_⟩;rintro e' w' ⟨v',G1,μ1,rfl,ee,hW',hvv⟩;have hb1:∀ b,rb=some b->G1.row 0=some b:=λb hb=>ee.row 0 b (by rw[hG0]; simp[hb])
  have hH1:(((RB (Tk.none.ow () 0) [some (arB e t [l])]).set 0 none)++(some (arB e t [l1])::(An.data rets).hp y1):Heap)[1]?=some (some (arB e t [l1])):=rfl;have hn0:∀ b,b<w.heap.size->¬ n0 b->w'.heap[b]?=w.heap[b]?:=λb hb hn=>ee.old b hb (by
   rintro(h|h)
   ·exact Nat.not_le.2 hb h
   ·exact hn (hmine b (hrbl b h).1).1)
  have hgg:∀ b,G b->G0 b:=λb hb=>by rw[hok]; exact hb
  have e2:Ext n0 w G μ w' (G1.with G) μ:={
   good:=λb hb=>⟨(ee.good b (hgg b hb)).1,(ee.good b (hgg b hb)).2⟩
   map:=λ_ _ h=>h
   len:=λ_ _ h=>h
   room:=ee.room
   row:=λ_ _ h=>h
   os:=ee.os
   tape:=ee.tape
   output:=ee.output
   size:=ee.size
   old:=hn0
   new:=λb hb=>by
    rcases ee.new b hb with h|h|h
    ·rw[hok]at h; exact .inl h
    ·exact .inr (hW.base b h)
    ·exact .inr (hmine b (hrbl b h).1).1 }
  have hold:∀ b,b<w.heap.size->rb≠some b->w'.heap[b]?=w.heap[b]?/\(G1 b->G b):=λb hb hne =>
   ⟨ee.old b hb (by rintro(h|h); exact Nat.not_le.2 hb h; exact hne h),λhg=>by
    rcases ee.new b hg with h|h|h
    ·rw[hok]at h; exact h
    ·exact absurd hb (Nat.not_lt.2 h)
    ·exact absurd h hne⟩
  have hk2:aN n0 (G1.with G) μ (H.set r none) w':=by
   refine(vV hW r).bG e2 ⟨λ_=>rfl,λj b hj=>hold b (hW.rows.sep j b hj).1 λh=>hrow j b hj (hrbl b h).1⟩ ?_ (λb hb=>hW'.lt b hb);intro s k1 b hs hb;obtain⟨hs,hsr⟩:=qH hs;refine hold b (hW.nB hs hb) λh=>?_
   have hrb:=(hrbl b h).1;cases hf:k1.frozen with
   | false=>exact hsr (hW.inj s r k1 _ b hs hk hf rfl hb hrb)
   | true =>
    obtain⟨_,_,_,_,h5,_⟩:=hW.blk s k1 b hs hb;exact(hmine b hrb).2 (h5 hf)
  have hfin:aN n0 (G1.with G) μ (H.set r (some (owB e t l1))) w':=by
   have:=aQO hk2 (r:=r) (List.getElem?_set_self hlt) (owB e t l1) rfl rfl ?_ ?_
   ·rwa[List.set_set]at this
   ·intro b hb;have hcells:(∃ c,w'.heap[b]?=some (.cells c e (0,0))/\aL w' (G1.with G) μ b 0 (aG t l1))/\¬ G1 b:=by
     by_cases hl:l=[]
     ·have hl1:l1=[]:=List.eq_nil_of_length_eq_zero (by rw[hlen,hl]; rfl);have hne:rb≠some b:=λh=>(hrbl b h).2 hl
      obtain⟨o1,o2⟩:=hold b (hW.nB hk hb) hne;obtain⟨c,h3,_⟩:=hW.blk r _ b hk hb;refine⟨⟨c,o1.trans h3,?_⟩,λh=>(hmine b hb).2 (o2 h)⟩;rw[hl1]; simp[aG,aL]
     ·have hbb:rb=some b:=by rw[hrb,if_neg hl]; exact hb
      have hrow1:=hb1 b hbb;obtain⟨_,_,a3⟩:=hW'.rows.arn 1 _ t [l1] hH1 rfl rfl;rcases a3 0 l1 rfl with h|⟨b',z1,z2⟩
      ·exact absurd (List.eq_nil_of_length_eq_zero (by rw[<- hlen,h.1]; rfl)) hl
      ·rw[hrow1]at z1;obtain rfl:=oB z1;obtain⟨c0,y1,_⟩:=hW.blk r _ b hk hb;obtain⟨c,z2,z3⟩:=z2.cells (.inr (e2.room b 0 ⟨c0,_,_,y1,Nat.zero_le _⟩));refine⟨⟨c,z2,?_⟩,(hW'.rows.sep 0 b hrow1).2.2.1⟩;exact wV (G:=G1) (G':=G1.with G) (λb h=>h) _ _ _ _ (A8 t hpl l1) (rM (jL _ _) z3)
    refine⟨hcells.1,(hmine b hb).1,hcells.2,λs k1 hs hf hsb=>?_,λj hj=>hrow j b hj hb⟩;obtain⟨hs,hsr⟩:=qH hs;exact hsr (hW.inj s r k1 _ b hs hk hf rfl hsb hb)
   ·intro g hg;cases hg;exact⟨rfl,by rw[ht2,hlen]⟩
  refine⟨v',G1.with G,μ,rfl,e2,hfin,?_⟩;exact aY7 hlr y1 hvv
 ·cases hy
theorem aET {g:FuncId}{e:TypeId}{t:Ty}{args:List Kd}{f:Unit->aK (.hnd t.size::args)->List (List t.den)->Option (aK []×List (List t.den))}(hf:LA P g e t .none (.hnd t.size::args) (.data []) f)(hd:PT args=true)(hpl:t.plain=true)(he:e≠NJ:=by decide):aRB P g e t args (SY f):=by
 intro l x l' hy n0 G μ H w us r hW hk hv hnr;refine aKA hf hd hpl rfl he l x () l' ?_ hW hk hv hnr;unfold SY at hy;unfold YS;split at hy
 ·rename_i l1 hfl;obtain⟨hlen,hy⟩:=aH hy;obtain rfl:=oB hy;rw[hfl];show (bif Nat.beq l1.length l.length then some ((),l1) else none)=_;rw[hlen];rfl
 ·cases hy
def aWS(e:TypeId) (t:Ty) (args rets:List Kd) (f:List t.den->aK args->Option (aK rets×List t.den)) (qs:List PV) (H:Heap):Option aJ5:=match aMH e t H qs with
 | some (l,r,ps)=>match aK9 args ps with
  | some x=>bif eB.noRefs ps&&eZ.noRows (lO args x) then some ⟨aK rets×List t.den,f l x,λz=>(aG7 rets z.1,H.set r (some (owB e t z.2)))⟩ else none
  | none=>none
 | none=>none
theorem a0Z {g:FuncId}{e:TypeId}{t:Ty}{args rets:List Kd}{f:List t.den->aK args->Option (aK rets×List t.den)}(hf:aTS P g e t args rets f):uT P (g,aWS e t args rets f):=by
 intro qs H rh h y hy n0 G μ w vs hW hv;change aWS e t args rets f qs H=some rh at h;show xH P n0 w G μ g vs.toArray (rh.out y).1 (rh.out y).2;unfold aWS at h;split at h
 ·rename_i l r ps hl;split at h
  ·rename_i x hx;obtain⟨hb,h⟩:=aEP h;simp only[oJ]at h;subst h;simp only[oA]at hb;obtain⟨h0,rfl⟩:=XQ hW hl;rw[VRs]at hv;obtain⟨u,us,rfl,q1,q2⟩:=hv;exact hf l x y.1 y.2 hy hW h0 (by rw[VRs]; exact⟨u,us,rfl,q1,(IH args hx (dB _ _ hb.1 q2)).aY⟩) hb.2
  ·cases h
 ·cases h
def aX6(e:TypeId) (t:Ty) (args:List Kd) (f:List t.den->aK args->Option (List t.den)) (qs:List PV) (H:Heap):Option aJ5:=match aMH e t H qs with
 | some (l,r,ps)=>match aK9 args ps with
  | some x=>bif eB.noRefs ps&&eZ.noRows (lO args x) then some ⟨List t.den,f l x,λl'=>(.tuple [],H.set r (some (owB e t l')))⟩ else none
  | none=>none
 | none=>none
theorem aOH {g:FuncId}{e:TypeId}{t:Ty}{args:List Kd}{f:List t.den->aK args->Option (List t.den)}(hf:aRB P g e t args f):uT P (g,aX6 e t args f):=by
 intro qs H rh h y hy n0 G μ w vs hW hv;change aX6 e t args f qs H=some rh at h;show xH P n0 w G μ g vs.toArray (rh.out y).1 (rh.out y).2;unfold aX6 at h;split at h
 ·rename_i l r ps hl;split at h
  ·rename_i x hx;obtain⟨hb,h⟩:=aEP h;simp only[oJ]at h;subst h;simp only[oA]at hb;obtain⟨h0,rfl⟩:=XQ hW hl;rw[VRs]at hv;obtain⟨u,us,rfl,q1,q2⟩:=hv;exact hf l x y hy hW h0 (by rw[VRs]; exact⟨u,us,rfl,q1,(IH args hx (dB _ _ hb.1 q2)).aY⟩) hb.2
  ·cases h
 ·cases h
end
def aUO(P:Program)(E:Env)(fn:Func)(bG:Nat)(lt rt:Nat->Option cA)(c:Code)(ae:TypeId)(t:Ty)(tk:Tk)(args:List Kd)(an:An)(l:tk.den)(x:aK args)(A:List (List t.den)):Option (an.den×List (List t.den)) :=
 bif Nat.ble (tk.pv 0++lO args x).length fn.ntmps then DY P E fn.ntmps bG lt rt false [] c (start bG 0 (tk.pv 0++lO args x)) (L5 (tk.ow l 0)++[some (arB ae t A)]) (a2X P fn.results.toList ae t an) else none
section
variable {P:Program} {n0:Nat->Prop} {w w':World} {G G1 G2:Gd} {μ μ2:Mp} {H H':Heap} {ae:TypeId} {t:Ty} {A B:List (List t.den)}
theorem a3T {E:Env} (hP:ME P) (hE:fR P E) {g:Nat} {fn:Func} (hg:P.funcs[g]?=some fn) {c:Code} (hc:fn.body=some c) {bG:Nat} {lt rt:Nat->Option cA} {ae:TypeId} {t:Ty} {tk:Tk} {args:List Kd} {an:An} {f:tk.den->aK args->List (List t.den)->Option (an.den×List (List t.den))}
  (hd:PT args=true) (hl:∀ a∈gX c,RK P fn.ntmps lt rt false [] a) (hb:∀ l x A,aUO P E fn bG lt rt c ae t tk args an l x A=f l x A):LA P g ae t tk args an f:=by
 intro l x A y B hy n0 G μ H w us ra r hW har ho hv;rw[<- hb]at hy;unfold aUO at hy;obtain⟨hlen,hy⟩:=aH hy;obtain⟨⟨ex,F',H'⟩,h1,h2⟩:=nK hE.callee hP.mixed c _ _ _ _ hl hy;obtain⟨vs,B',hex,hvs,hB,hq,rfl⟩:∃ vs B',(ex=.normal\/ex=.ret)/\uO P F' H' fn.results.toList=some vs/\aW5 ae t H'=some B'/\aTX an (fG vs) H'=some y/\B'.2=B:=by
  unfold a2X at h1;split at h1
  ·cases h1
  ·rename_i hne;split at h1
   ·rename_i vs hvs;split at h1
    ·rename_i B' hB;split at h1
     ·rename_i y' hy';simp only[oJ,oP]at h1;obtain⟨rfl,h1⟩:=h1;refine⟨vs,B',?_,hvs,hB,hy',h1⟩;cases ex with
      | normal=>exact .inl rfl
      | ret=>exact .inr rfl
      | exit i=>exact absurd rfl (hne i)
     ·cases h1
    ·cases h1
   ·cases h1
 have hargs:VRs w G (mpA μ (tk.ow l r) A.length) (tk.pv 0++lO args x) us:=by
  have hn:=NP args x hd;cases tk with
  | none=>exact VRs.aY (dB _ _ hn hv)
  | own e u =>
   change VRs w G μ (.own r u.size::lO args x) us at hv;change VRs w G _ (.own 0 u.size::lO args x) us;rw[VRs]at hv ⊢;obtain⟨v,us',rfl,q1,q2⟩:=hv;refine⟨v,us',rfl,?_,VRs.aY (dB _ _ hn q2)⟩;rw[VR]at q1 ⊢;exact q1
 have howb:L5 (tk.ow l 0)=L5 (tk.ow l r):=by cases tk <;> rfl
 have hW1:=aDQ hW ho har;rw[<- howb]at hW1;have e0:Ext (wrA w G μ (tk.ow l r)) w G aI w G (mpA μ (tk.ow l r) A.length) :=
  ⟨⟨λb hb=>⟨hb,rfl⟩,λ_ _ h=>(by cases h),λ_ _ h=>(by cases h),λ_ _ h=>h,λ_ _ h=>h⟩,rfl,rfl,rfl,oM _,λ_ _ _=>rfl,λ_ h=>.inl h⟩
 refine⟨enters hg (hP.names g fn hg) (by rw[hc]; rfl) _ _,(callsIn_wide (n:=0)).1 (callsIn_of_wp_marks hg hc trivial ?_)⟩;have hI:I (wrA w G μ (tk.ow l r)) w G aI fn.ntmps (start bG 0 (tk.pv 0++lO args x)) (L5 (tk.ow l 0)++[some (arB ae t A)]) ⟨us.toArray++Array.replicate (fn.ntmps-us.toArray.size) undef,[]⟩ w :=
  ⟨G,_,e0,hW1,AP (by simpa using hargs) (oL hlen)⟩
 refine wpIn_mono (h2 none 0 _ w G aI _ w (λ_=>rfl) (λr _=>⟨rfl,rfl⟩) hI.a5L) ?_;rintro e1 ⟨tm,ds⟩ w' ⟨rfl,hI',_⟩;have hend:∀ w',IM (wrA w G μ (tk.ow l r)) w G aI fn.ntmps F' H' { tmps:=tm,defers:=[] } w'->LeavesIn Fence.wide 0 P fn tm (λen w'=>∃ v' G'' μ'',en=.returned v'/\Ext n0 w G μ w' G'' μ''/\aN n0 G'' μ'' (((RB (tk.ow l r) H).set ra none)++(some (arB ae t B'.2)::an.hp y)) w'/\VR w' G'' μ'' (an.pv y (H.length+1)) v') [] .returning w':=by
  rintro w' ⟨G1,μ1,ee,hW',hF',_⟩;obtain⟨ws,h3,h4⟩:=rD (P:=P) hW' hF' hvs;have hres:(results fn tm).run P w'=.ok (if hh:ws.toArray.size=1 then ws.toArray[0] else .tuple ws.toArray) w':=by
   rw[DR,Array.mapM_eq_mapM_toList];simp only[Sem.run_bind,Sem.run_map,h3,Result.andThen_ok,Sem.run_pure]
  have hrb:=aBI hW' hB;obtain⟨G2,μ3,b1,b2,b3⟩:∃ G2 μ3,Ext n0 w G μ w' G2 μ3/\aN n0 G2 μ3 (((RB (tk.ow l r) H).set ra none)++(some (arB ae t B'.2)::an.hp y)) w'/\VR w' G2 μ3 (an.pv y (H.length+1)) (if hh:ws.toArray.size=1 then ws.toArray[0] else .tuple ws.toArray):=by
   have hvr:=tM h4;cases an with
   | data rets =>
    simp only[aTX]at hq;split at hq
    ·rename_i q hq';have hb:=aHT (G2:=⟨λb=>G1 b\/∃ s k,H'[s]?=some (some k)/\k.frozen=false/\μ1.loc s=some b,G1.row⟩) hW ho har ee hW' hrb (os:=none) ⟨λ_ _ _ h=>by cases h⟩ (λ_=>rfl) (λb hb=>.inl hb) (λb hb=>by
      rcases hb with h|⟨s,k,z1,z2,z3⟩
      ·exact .inl h
      ·exact .inr ⟨s,k,z1,z2,z3,λ_ _ _ h=>by cases h⟩)
     refine⟨_,_,hb.1,hb.2,?_⟩;have:=J9 (G':=⟨λb=>G1 b\/∃ s k,H'[s]?=some (some k)/\k.frozen=false/\μ1.loc s=some b,G1.row⟩) hW' (λ_ _ h=>h) (λb hb=>.inl hb) (λs k1 b hs _ hb=>by
      obtain⟨_,_,_,_,g5,_⟩:=hW'.blk s k1 b hs hb;cases hf:k1.frozen with
      | true=>exact .inl (g5 hf)
      | false=>exact .inr ⟨s,k1,hs,hf,hb⟩) depth _ q _ hq' hvr
     exact(VI hq this).aY
    ·cases hq
   | own e u =>
    simp only[aTX]at hq;obtain⟨r1,l0,hos,hvv⟩:=aJZ hW' hq hvr;have hb:=aHT (G2:=G1) hW ho har ee hW' hrb hos (λ_=>rfl) (λb hb=>hb) (λb hb=>.inl hb);refine⟨_,_,hb.1,hb.2,hvv _ _ _ ?_ ?_⟩
    ·have h1:¬ H.length+1<H.length:=by omega
     simp[zF,h1,a2H]
    ·have h1:¬ H.length+1<H.length:=by omega
     simp[zF,h1,a1J]
  exact⟨_,hres,_,G2,μ3,rfl,b1,b2,b3⟩
 rcases hex with rfl|rfl
 ·exact AX (λb hb=>(aDQ hW ho har).base b hb) hend ds w' hI'
 ·exact AX (λb hb=>(aDQ hW ho har).base b hb) hend ds w' hI'
end
def aTK(P:Program)(E:Env)(fn:Func)(bG:Nat)(lt rt:Nat->Option cA)(c:Code)(ae:TypeId)(t:Ty)(args rets:List Kd)(x:aK args):Option (aK rets) :=
 bif Nat.ble (lO args x).length fn.ntmps then DY P E fn.ntmps bG lt rt false [] c (start bG 0 (lO args x)) [some (arB ae t [])] (aLN P fn.results.toList rets) else none
section
variable {P:Program}
theorem a4V {E:Env} (hP:ME P) (hE:fR P E) {g:Nat} {fn:Func} (hg:P.funcs[g]?=some fn) {c:Code} (hc:fn.body=some c) {bG:Nat} {lt rt:Nat->Option cA} {ae:TypeId} {t:Ty} {args rets:List Kd} {f:aK args->Option (aK rets)}
  (hl:∀ a∈gX c,RK P fn.ntmps lt rt false [] a) (hb:∀ x,aTK P E fn bG lt rt c ae t args rets x=f x):UZ P g args rets f:=by
 intro x y hy;rw[<- hb]at hy;unfold aTK at hy;obtain⟨hlen,hy⟩:=aH hy;obtain⟨⟨ex,F',H'⟩,h1,h2⟩:=nK hE.callee hP.mixed c _ _ _ _ hl hy;obtain⟨vs,q,hex,hvs,hq,hd⟩:∃ vs q,(ex=.normal\/ex=.ret)/\uO P F' H' fn.results.toList=some vs/\aS0 H' (fG vs)=some q/\aOI rets q=some y:=by
  unfold aLN at h1;split at h1
  ·cases h1
  ·rename_i hne;split at h1
   ·rename_i vs hvs;split at h1
    ·rename_i q hq;refine⟨vs,q,?_,hvs,hq,h1⟩;cases ex with
     | normal=>exact .inl rfl
     | ret=>exact .inr rfl
     | exit i=>exact absurd rfl (hne i)
    ·cases h1
   ·cases h1
 obtain⟨hq1,hq2⟩:=HH hq;intro w G us hlt hv;have at0:∀ (s:Nat) (k1:Blk),([some (arB ae t [])]:Heap)[s]?=some (some k1)->s=0/\k1=arB ae t []:=by
  intro s k1 hs;cases s with
  | zero=>simp only[List.getElem?_cons_zero,oJ]at hs; exact⟨rfl,hs.symm⟩
  | succ s=>simp at hs
 have hW:aN (zY w) (Gd.of G) ⟨λ_=>none,λr=>if r=0 then some 0 else none⟩ [some (arB ae t [])] w:=by
  refine⟨(λr k b h hb=>by cases hb),(λr k g h hg=>?_),(λr s k l b h _ _ _ hb=>by cases hb),hlt,(λr hr=>⟨rfl,?_⟩),λ_ h=>h,⟨(λ_ _ _ h=>by cases h),(λ_ _ h=>by cases h),(λ_ _ h=>by cases h),(λr k u l h hgr ht=>?_),(λr s k k' u l u' l' h1 g1 t1 h2 g2 t2=>by rw[(at0 r k h1).1,(at0 s k' h2).1])⟩⟩
  ·obtain⟨rfl,rfl⟩:=at0 r k h;cases hg;exact⟨rfl,rfl⟩
  ·have:r≠0:=by rintro rfl; simp at hr
   simp[this]
  ·obtain⟨rfl,rfl⟩:=at0 r k h;cases ht;exact⟨rfl,λ_ _=>rfl,λj row hj=>by simp at hj⟩
 have e0:Ext (zY w) w (Gd.of G) aI w (Gd.of G) ⟨λ_=>none,λr=>if r=0 then some 0 else none⟩ :=
  ⟨⟨λb hb=>⟨hb,rfl⟩,λ_ _ h=>(by cases h),λ_ _ h=>(by cases h),λ_ _ h=>h,λ_ _ h=>h⟩,rfl,rfl,rfl,oM _,λ_ _ _=>rfl,λ_ h=>.inl h⟩
 refine⟨enters hg (hP.names g fn hg) (by rw[hc]; rfl) _ _,(callsIn_wide (n:=0)).1 (callsIn_of_wp_marks hg hc trivial ?_)⟩;have hI:I (zY w) w (Gd.of G) aI fn.ntmps (start bG 0 (lO args x)) [some (arB ae t [])] ⟨us++Array.replicate (fn.ntmps-us.size) undef,[]⟩ w:=⟨Gd.of G,_,e0,hW,AP hv.aY (oL hlen)⟩;refine wpIn_mono (h2 none 0 _ w (Gd.of G) aI _ w (λ_=>rfl) (λr _=>⟨rfl,rfl⟩) hI.a5L) ?_;rintro e1 ⟨tm,ds⟩ w' ⟨rfl,hI',_⟩
 have hend:∀ w',IM (zY w) w (Gd.of G) aI fn.ntmps F' H' { tmps:=tm,defers:=[] } w'->LeavesIn Fence.wide 0 P fn tm (λen w'=>∃ v' G',en=.returned v'/\Ext (zY w) w (Gd.of G) aI w' (Gd.of G') aI/\(∀ b,G' b->b<w'.heap.size)/\VR w' (Gd.of G') aI (aG7 rets y) v') [] .returning w':=by
  rintro w' ⟨G1,μ1,e1,e2,hF',_⟩;obtain⟨ws,h3,h4⟩:=rD (P:=P) e2 hF' hvs;have hres:(results fn tm).run P w'=.ok (if hh:ws.toArray.size=1 then ws.toArray[0] else .tuple ws.toArray) w':=by
   rw[DR,Array.mapM_eq_mapM_toList];simp only[Sem.run_bind,Sem.run_map,h3,Result.andThen_ok,Sem.run_pure]
  have hval:=PZ (G:=⟨λb=>G1 b\/∃ r k,H'[r]?=some (some k)/\μ1.loc r=some b,G1.row⟩) (G':=Gd.of λb=>G1 b\/∃ r k,H'[r]?=some (some k)/\μ1.loc r=some b) (λb h=>h) _ _ _ hq2
    (J9 (G':=⟨λb=>G1 b\/∃ r k,H'[r]?=some (some k)/\μ1.loc r=some b,G1.row⟩) e2 (λ_ _ h=>h) (λb hb=>.inl hb) (λr k b hr _ hb=>.inr ⟨r,k,hr,hb⟩) depth _ q _ hq1 (tM h4))
  have hext:Ext (zY w) w (Gd.of G) aI w' (Gd.of λb=>G1 b\/∃ r k,H'[r]?=some (some k)/\μ1.loc r=some b) aI:={
   good:=λb hb=>⟨.inl (e1.good b hb).1,(e1.good b hb).2⟩
   map:=λ_ _ h=>h
   len:=λ_ _ h=>h
   room:=e1.room
   row:=λ_ _ h=>h
   os:=e1.os
   tape:=e1.tape
   output:=e1.output
   size:=e1.size
   old:=e1.old
   new:=λb hb=>by
    rcases hb with hb|⟨r,k,hr,hb⟩
    ·exact e1.new b hb
    ·obtain⟨c,_,_,_,g5,g6⟩:=e2.blk r k b hr hb;cases hf:k.frozen with
     | true=>exact e1.new b (g5 hf)
     | false=>exact .inr (g6 hf).1 }
  have hlt':∀ b,(G1 b\/∃ r k,H'[r]?=some (some k)/\μ1.loc r=some b)->b<w'.heap.size:=by
   rintro b (hb|⟨r,k,hr,hb⟩)
   ·exact e2.lt b hb
   ·exact e2.nB hr hb
  exact⟨_,hres,_,_,rfl,hext,hlt',VI hd hval⟩
 rcases hex with rfl|rfl
 ·exact AX (λb hb=>hW.base b hb) hend ds w' hI'
 ·exact AX (λb hb=>hW.base b hb) hend ds w' hI'
end
open Go Go.RowKit Go.Proofs Tryz
set_option maxHeartbeats 4000000
def cG(x:aK [.str]):oK [.bool,.str]:=match x with
 | (v0,()) =>
  bif ltI 0 (v0.size:Int) then
   bif aF 0 v0.size then bif eqI (aLV v0 0) 45 then
    bif Nat.ble 1 v0.size then bif Nat.ble v0.size v0.size then some (true,(v0.extract 1 v0.size),()) else none else none
   else some (false,v0,()) else none
  else some (false,v0,())
abbrev aP3:Ent:=⟨179,_,_,cG⟩
theorem vT:Ent.OK tP aP3:=oI (aR oW) func179 (by kernel_rfl) (by rintro⟨v0,⟨⟩⟩; kernel_rfl)
def aA(x:aK [.bool,.str]):oK [.str]:=match x with
 | (v0,v1,()) =>
  bif v0 then
   bif !(eqS v1 (ByteArray.mk #[48])) then
    bif Nat.ble ((ByteArray.mk #[45]).size+v1.size) 9223372036854775807 then some (((ByteArray.mk #[45])++v1),()) else none
   else some (v1,())
  else some (v1,())
abbrev aQZ:Ent:=⟨180,_,_,aA⟩
theorem IJ:Ent.OK tP aQZ:=oI (aR oW) func180 (by kernel_rfl) (by rintro⟨v0,v1,⟨⟩⟩; kernel_rfl)
def rH(x:aK [.str,.int .i64]):oK [.int .i64,.bool]:=match x with
 | (v0,v1,()) =>
  bif ltI v1 (v0.size:Int) then
   some (0,false,())
  else aC (FN (v0,())) λy1 =>
  some (y1.1,true,())
abbrev aK6:Ent:=⟨178,_,_,rH⟩
theorem J6:Ent.OK tP aK6:=oI (aR (oV aFV oW)) func178 (by kernel_rfl) (by rintro⟨v0,v1,⟨⟩⟩; kernel_rfl)
def jK(x:aK [.int .i64]):oK [.str]:=match x with
 | (v0,()) =>
  aC (FH (v0,())) λy1 =>
  some (y1.1,())
abbrev aE9:Ent:=⟨137,_,_,jK⟩
theorem EG:Ent.OK tP aE9:=oI (aR (oV aFR oW)) func137 (by kernel_rfl) (by rintro⟨v0,⟨⟩⟩; kernel_rfl)
def D4(x:aK [.str]):oK [.int .i64]:=match x with
 | (v0,()) =>
  bif eqS v0 (ByteArray.mk #[48]) then
   some (0,())
  else bif aF 0 v0.size then bif eqI (aLV v0 0) 45 then
   some ((-1),())
  else some (1,()) else none
abbrev aFZ:Ent:=⟨167,_,_,D4⟩
theorem YP:Ent.OK tP aFZ:=oI (aR oW) func167 (by kernel_rfl) (by rintro⟨v0,⟨⟩⟩; kernel_rfl)
def tO(x:aK [.int .u64]):oK [.str]:=match x with
 | (v0,()) =>
  aC (sQ (v0,10,())) λy1 =>
  some (y1.1,())
abbrev KV:Ent:=⟨214,_,_,tO⟩
theorem IG:Ent.OK tP KV:=oI (aR (oV UI oW)) func214 (by kernel_rfl) (by rintro⟨v0,⟨⟩⟩; kernel_rfl)
def CW(x:aK [.str]):oK [.int .u64,.bool]:=match x with
 | (v0,()) =>
  aC (tX (v0,10,64,())) λy1 =>
  some (y1.1,true,())
abbrev aIC:Ent:=⟨234,_,_,CW⟩
theorem aDE:Ent.OK tP aIC:=oI (aR (oV W3 oW)) func234 (by kernel_rfl) (by rintro⟨v0,⟨⟩⟩; kernel_rfl)
def rI(x:aK [.str,.str]):oK [.int .u64,.int .u64,.bool]:=match x with
 | (v0,v1,()) =>
  bif ltI 18 (v0.size:Int) then
   some (0,0,false,())
  else bif ltI 18 (v1.size:Int) then
   some (0,0,false,())
  else aC (CW (v0,())) λy1 =>
  aC (CW (v1,())) λy2 =>
  some (y1.1,y2.1,true,())
abbrev FM:Ent:=⟨213,_,_,rI⟩
theorem EC:Ent.OK tP FM:=oI (aR (oV aDE oW)) func213 (by kernel_rfl) (by rintro⟨v0,v1,⟨⟩⟩; kernel_rfl)
def fJ(x:aK [.str,.str]):oK [.int .i64]:=match x with
 | (v0,v1,()) =>
  bif !(eqI (v0.size:Int) (v1.size:Int)) then
   some ((if (if (-1)<(aB .i64 ((v0.size:Int)-(v1.size:Int))) then (aB .i64 ((v0.size:Int)-(v1.size:Int))) else (-1))<1 then (if (-1)<(aB .i64 ((v0.size:Int)-(v1.size:Int))) then (aB .i64 ((v0.size:Int)-(v1.size:Int))) else (-1)) else 1),())
  else bif ltS v0 v1 then
   some ((-1),())
  else bif !(ltS v0 v1||eqS v0 v1) then
   some (1,())
  else some (0,())
abbrev TG:Ent:=⟨182,_,_,fJ⟩
theorem FF:Ent.OK tP TG:=oI (aR oW) func182 (by kernel_rfl) (by rintro⟨v0,v1,⟨⟩⟩; kernel_rfl)
def H7(x:aK [.str,.str]):oK [.int .i64]:=match x with
 | (v0,v1,()) =>
  aC (D4 (v0,())) λy1 =>
  aC (D4 (v1,())) λy2 =>
  bif !(eqI y1.1 y2.1) then
   bif ltI y1.1 y2.1 then
    some ((-1),())
   else some (1,())
  else aC (cG (v0,())) λy3 =>
  aC (cG (v1,())) λy4 =>
  bif y3.1 then
   aC (fJ (y4.2.1,y3.2.1,())) λy5 =>
   some (y5.1,())
  else aC (fJ (y3.2.1,y4.2.1,())) λy6 =>
  some (y6.1,())
abbrev ZH:Ent:=⟨163,_,_,H7⟩
theorem aC0:Ent.OK tP ZH:=oI (aR (oV FF (oV YP (oV vT oW)))) func163 (by kernel_rfl) (by rintro⟨v0,v1,⟨⟩⟩; kernel_rfl)
def QH(x:aK [.str]):oK [.str]:=match x with
 | (v0,()) =>
  aC (cG (v0,())) λy1 =>
  bif y1.1 then
   aC (aA (false,y1.2.1,())) λy2 =>
   some (y2.1,())
  else aC (aA (true,y1.2.1,())) λy3 =>
  some (y3.1,())
abbrev aIZ:Ent:=⟨207,_,_,QH⟩
theorem aA0:Ent.OK tP aIZ:=oI (aR (oV IJ (oV vT oW))) func207 (by kernel_rfl) (by rintro⟨v0,⟨⟩⟩; kernel_rfl)
def O0(x:aK [.str]):oK [.str]:=match x with
 | (v0,()) =>
  aC (cG (v0,())) λy1 =>
  some (y1.2.1,())
abbrev aIR:Ent:=⟨164,_,_,O0⟩
theorem aLG:Ent.OK tP aIR:=oI (aR (oV vT oW)) func164 (by kernel_rfl) (by rintro⟨v0,⟨⟩⟩; kernel_rfl)
abbrev eQ:List (Nat×Kd):=[(0,.hnd 1),(2,.int .i64),(3,.int .i64),(100000,.ar 5 (.int .u8))]
abbrev gZ:List (Ex×List (Nat×Kd)):=[(.exit 0,[(100000,.ar 5 (.int .u8))])]
def fM(x:Shape.den eQ):oS eQ gZ:=match x with
 | (v0,v2,v3,u00,()) =>
  bif ltI v2 v3 then
   bif aF v3 v0.2.2 then bif Nat.blt ((v0.2.1+v3.toNat)*1) (cS u00 v0.1) then bif aF v2 v0.2.2 then bif Nat.blt ((v0.2.1+v2.toNat)*1) (cS u00 v0.1) then bif aF v2 v0.2.2 then bif Nat.blt ((v0.2.1+v2.toNat)*1) (cS u00 v0.1) then bif aF v3 v0.2.2 then bif Nat.blt ((v0.2.1+v3.toNat)*1) (cS (vJ u00 v0.1 ((v0.2.1+v2.toNat)*1) (dK u00 v0.1 ((v0.2.1+v3.toNat)*1) 0)) v0.1) then some (.inl ((v0.1,v0.2.1,v0.2.2),(aB .i64 (v2+1)),(aB .i64 (v3-1)),(vJ (vJ u00 v0.1 ((v0.2.1+v2.toNat)*1) (dK u00 v0.1 ((v0.2.1+v3.toNat)*1) 0)) v0.1 ((v0.2.1+v3.toNat)*1) (dK u00 v0.1 ((v0.2.1+v2.toNat)*1) 0)),())) else none else none else none else none else none else none else none else none
  else some (.inr ((u00,())))
def j8(x:Shape.den eQ):oX gZ:=bF fM (2^64) x
def dI(u0:Unit)(x:aK [.hnd 1])(A:List (List Int)):Option ((aK [])×List (List Int)):=match x with
 | (v0,()) =>
  aC (j8 ((v0.1,v0.2.1,v0.2.2),0,(aB .i64 (((v0.2.2:Nat):Int)-1)),A,())) λz1 =>
  some ((()),z1.1)
def o5:Code:=dM f236
abbrev tK:Env:=JB []
theorem yW:fR tP tK:=aR trivial
def rR:Code:=iD o5 0
def sP(id:Nat):Option cA:=bif Nat.beq id 1 then some ⟨eQ,gZ,j8⟩ else none
theorem HL:∀ x,jU tP tK 28 (aO f236) sP rR eQ gZ x=fM x:=by
 rintro⟨v0,v2,v3,u00,⟨⟩⟩
 kernel_rfl
theorem HX:eS tP 28 rR ⟨eQ,gZ,j8⟩:=fF yW.callee bD.mixed _ (aQ (l:=[]) (by kernel_rfl) trivial) HL
theorem I0:a8 o5=[rR]:=by kernel_rfl
theorem JX:∀ l x A,EV tP tK f236 (aO f236) sP o5 5 (.int .u8) .none [.hnd 1] (.data []) l x A=dI l x A:=by
 rintro u0 ⟨v0,⟨⟩⟩ A
 kernel_rfl
theorem MK:LA tP 236 5 (.int .u8) .none [.hnd 1] (.data []) dI:=zG bD yW func236 (c:=o5) (by kernel_rfl) (bG:=aO f236) (lt:=sP) (by rfl) (aQ I0 ⟨fD (i:=1) (by kernel_rfl) rfl HX,trivial⟩) JX
theorem K3:aRB tP 236 5 (.int .u8) [] (SY dI):=aET MK (by rfl) (by rfl)
abbrev BC:Shr:=(236,QL 1 (aX6 5 (.int .u8) [] (SY dI)))
theorem I1:uT tP BC:=rK (aOH K3)
abbrev xO:List (Nat×Kd):=[(0,.list (.int .u64))]
abbrev FK:List (Ex×List (Nat×Kd)):=[(.exit 0,[(0,.list (.int .u64))])]
def kV(x:Shape.den xO):oS xO FK:=match x with
 | (v0,()) =>
  bif ltI 0 (v0.length:Int) then
   bif aF (aB .i64 ((v0.length:Int)-1)) v0.length then bif eqI (v0.getD ((aB .i64 ((v0.length:Int)-1)).toNat) 0) 0 then
    bif !(ltI (aB .i64 ((v0.length:Int)-1)) 0) then bif Nat.ble 0 ((aB .i64 ((v0.length:Int)-1)).toNat) then bif Nat.ble ((aB .i64 ((v0.length:Int)-1)).toNat) v0.length then some (.inl (((v0.drop 0).take ((aB .i64 ((v0.length:Int)-1)).toNat-0)),())) else none else none else none
   else some (.inr ((v0,()))) else none
  else some (.inr ((v0,())))
def DB(x:Shape.den xO):oX FK:=bF kV (2^64) x
def qP(x:aK [.list (.int .u64)]):oK [.list (.int .u64)]:=match x with
 | (v0,()) =>
  aC (DB (v0,())) λz1 =>
  some (z1.1,())
abbrev JC:Ent:=⟨217,_,_,qP⟩
theorem RZ:Ent.OK tP JC:=oU (aR oW) func217 1 (lp:=DB) rfl (by kernel_rfl) (by rintro⟨v0,⟨⟩⟩; kernel_rfl) (by rintro⟨v0,⟨⟩⟩; kernel_rfl)
abbrev fY:List (Nat×Kd):=[(0,.own 180 (.int .u64)),(100000,.ar 180 (.int .u64))]
abbrev kC:List (Ex×List (Nat×Kd)):=[(.exit 0,[(0,.own 180 (.int .u64)),(100000,.ar 180 (.int .u64))])]
def iE(x:Shape.den fY):oS fY kC:=match x with
 | (v0,u00,()) =>
  bif ltI 0 (v0.length:Int) then
   bif aF (aB .i64 ((v0.length:Int)-1)) v0.length then bif Nat.blt ((aB .i64 ((v0.length:Int)-1)).toNat) v0.length then bif eqI (v0.getD ((aB .i64 ((v0.length:Int)-1)).toNat) 0) 0 then
    bif !(ltI (aB .i64 ((v0.length:Int)-1)) 0) then bif Nat.ble 0 ((aB .i64 ((v0.length:Int)-1)).toNat) then bif Nat.ble ((aB .i64 ((v0.length:Int)-1)).toNat) v0.length then bif Nat.blt 0 v0.length then some (.inl ((v0.take ((aB .i64 ((v0.length:Int)-1)).toNat-0)),u00,())) else none else none else none else none
   else some (.inr ((v0,u00,()))) else none else none
  else some (.inr ((v0,u00,())))
def r7(x:Shape.den fY):oX kC:=bF iE (2^64) x
def aX(v0:List Int)(x:aK [])(A:List (List Int)):Option ((List Int)×List (List Int)):=match x with
 | (()) =>
  aC (r7 (v0,A,())) λz1 =>
  some (z1.1,z1.2.1)
def rL:Code:=dM f217
abbrev xC:Env:=JB []
theorem CM:fR tP xC:=aR trivial
def uY:Code:=iD rL 0
def vF(id:Nat):Option cA:=bif Nat.beq id 1 then some ⟨fY,kC,r7⟩ else none
theorem JP:∀ x,jU tP xC 21 (aO f217) vF uY fY kC x=iE x:=by
 rintro⟨v0,u00,⟨⟩⟩
 kernel_rfl
theorem LR:eS tP 21 uY ⟨fY,kC,r7⟩:=fF CM.callee bD.mixed _ (aQ (l:=[]) (by kernel_rfl) trivial) JP
theorem MV:a8 rL=[uY]:=by kernel_rfl
theorem NR:∀ l x A,EV tP xC f217 (aO f217) vF rL 180 (.int .u64) (.own 180 (.int .u64)) [] (.own 180 (.int .u64)) l x A=aX l x A:=by
 rintro u0 ⟨⟨⟩⟩ A
 kernel_rfl
theorem QQ:LA tP 217 180 (.int .u64) (.own 180 (.int .u64)) [] (.own 180 (.int .u64)) aX:=zG bD CM func217 (c:=rL) (by kernel_rfl) (bG:=aO f217) (lt:=vF) (by rfl) (aQ MV ⟨fD (i:=1) (by kernel_rfl) rfl LR,trivial⟩) NR
abbrev fU:Shr:=(217,QL 1 (arH 180 (.int .u64) (.own 180 (.int .u64)) [] (.own 180 (.int .u64)) aX))
theorem gG:uT tP fU:=rK (g:=217) (f:=arH 180 (.int .u64) (.own 180 (.int .u64)) [] (.own 180 (.int .u64)) aX) (DA QQ)
abbrev qS:List (Nat×Kd):=[(0,.str),(3,.own 180 (.int .u64)),(4,.int .i64),(5,.int .u64),(25,.list (.int .u8)),(26,.int .i64),(27,.int .i64),(100000,.ar 180 (.int .u64))]
abbrev uK:List (Ex×List (Nat×Kd)):=[(.exit 2,[(0,.str),(3,.own 180 (.int .u64)),(4,.int .i64),(5,.int .u64),(100000,.ar 180 (.int .u64))])]
def rY(x:Shape.den qS):oS qS uK:=match x with
 | (v0,v3,v4,v5,v25,v26,v27,u00,()) =>
  bif ltI v27 v26 then
   bif aF v27 v25.length then some (.inl (v0,v3,v4,(aB .u64 ((aB .u64 (10*v5))+(IntKind.wrap .u64 (aB .u8 ((v25.getD v27.toNat 0)-48))))),v25,v26,(aB .i64 (v27+1)),u00,())) else none
  else some (.inr ((v0,v3,v4,v5,u00,())))
def wG(x:Shape.den qS):oX uK:=bF rY (2^64) x
abbrev qR:List (Nat×Kd):=[(0,.str),(3,.own 180 (.int .u64)),(4,.int .i64),(100000,.ar 180 (.int .u64))]
abbrev uS:List (Ex×List (Nat×Kd)):=[(.exit 0,[(3,.own 180 (.int .u64)),(100000,.ar 180 (.int .u64))])]
def rX(x:Shape.den qR):oS qR uS:=match x with
 | (v0,v3,v4,u00,()) =>
  bif ltI 0 v4 then
   bif !(ltI (if 0<(aB .i64 (v4-9)) then (aB .i64 (v4-9)) else 0) 0) then bif !(ltI v4 0) then bif Nat.ble ((if 0<(aB .i64 (v4-9)) then (aB .i64 (v4-9)) else 0).toNat) v4.toNat then bif Nat.ble v4.toNat v0.size then aC (wG (v0,v3,v4,0,(R1 (v0.extract ((if 0<(aB .i64 (v4-9)) then (aB .i64 (v4-9)) else 0).toNat) v4.toNat)),((R1 (v0.extract ((if 0<(aB .i64 (v4-9)) then (aB .i64 (v4-9)) else 0).toNat) v4.toNat)).length:Int),0,u00,())) λz2 =>
   bif Nat.ble [z2.2.2.2.1].length 1048576 then bif Nat.ble z2.2.1.length 1048576 then some (.inl (z2.1,(z2.2.1++[z2.2.2.2.1]),(aB .i64 (z2.2.2.1-9)),z2.2.2.2.2.1,())) else none else none else none else none else none else none
  else some (.inr ((v3,u00,())))
def wT(x:Shape.den qR):oX uS:=bF rX (2^64) x
def eA(u0:Unit)(x:aK [.str])(A:List (List Int)):Option ((List Int)×List (List Int)):=match x with
 | (v0,()) =>
  bif !(ltI (aB .i64 ((aB .i64 ((v0.size:Int).tdiv 9))+1)) 0) then bif !(ltI 1048576 (aB .i64 ((aB .i64 ((v0.size:Int).tdiv 9))+1))) then aC (wT (v0,(List.replicate 0 0),(v0.size:Int),A,())) λz3 =>
  aC (aX z3.1 (()) z3.2.1) λy4 =>
  some y4 else none else none
def FR:Code:=dM f215
abbrev FT:Env:=KE [] [fU]
theorem GK:fR tP FT:=l8 trivial ⟨gG,trivial⟩
def wW:Code:=iD FR 0
def IT:Code:=iD wW 0
def EO(id:Nat):Option cA:=bif Nat.beq id 7 then some ⟨qS,uK,wG⟩ else bif Nat.beq id 3 then some ⟨qR,uS,wT⟩ else none
theorem W2:∀ x,jU tP FT 44 (aO f215) EO IT qS uK x=rY x:=by
 rintro⟨v0,v3,v4,v5,v25,v26,v27,u00,⟨⟩⟩
 kernel_rfl
theorem X5:eS tP 44 IT ⟨qS,uK,wG⟩:=fF GK.callee bD.mixed _ (aQ (l:=[]) (by kernel_rfl) trivial) W2
theorem WY:∀ x,jU tP FT 44 (aO f215) EO wW qR uS x=rX x:=by
 rintro⟨v0,v3,v4,u00,⟨⟩⟩
 kernel_rfl
theorem aBV:a8 wW=[IT]:=by kernel_rfl
theorem ZI:eS tP 44 wW ⟨qR,uS,wT⟩:=fF GK.callee bD.mixed _ (aQ aBV ⟨fD (i:=7) (by kernel_rfl) rfl X5,trivial⟩) WY
theorem Z5:a8 FR=[wW]:=by kernel_rfl
theorem aCG:∀ l x A,EV tP FT f215 (aO f215) EO FR 180 (.int .u64) .none [.str] (.own 180 (.int .u64)) l x A=eA l x A:=by
 rintro u0 ⟨v0,⟨⟩⟩ A
 kernel_rfl
theorem aES:LA tP 215 180 (.int .u64) .none [.str] (.own 180 (.int .u64)) eA:=zG bD GK func215 (c:=FR) (by kernel_rfl) (bG:=aO f215) (lt:=EO) (by rfl) (aQ Z5 ⟨fD (i:=3) (by kernel_rfl) rfl ZI,trivial⟩) aCG
abbrev BI:Shr:=(215,QL 0 (arH 180 (.int .u64) .none [.str] (.own 180 (.int .u64)) eA))
theorem A4:uT tP BI:=rK (g:=215) (f:=arH 180 (.int .u64) .none [.str] (.own 180 (.int .u64)) eA) (DA aES)
abbrev tW:List (Nat×Kd):=[(0,.list (.int .u64)),(1,.list (.int .u64)),(5,.int .i64)]
abbrev DK:List (Ex×List (Nat×Kd)):=[(.ret,[(4,.int .i64)]),(.exit 0,[])]
def mY(x:Shape.den tW):oS tW DK:=match x with
 | (v0,v1,v5,()) =>
  bif !(ltI v5 0) then
   bif aF v5 v0.length then bif aF v5 v1.length then bif ltI (v0.getD v5.toNat 0) (v1.getD v5.toNat 0) then
    some (.inr (.inl ((-1),())))
   else bif aF v5 v0.length then bif aF v5 v1.length then bif ltI (v1.getD v5.toNat 0) (v0.getD v5.toNat 0) then
    some (.inr (.inl (1,())))
   else some (.inl (v0,v1,(aB .i64 (v5-1)),())) else none else none else none else none
  else some (.inr (.inr ((()))))
def BM(x:Shape.den tW):oX DK:=bF mY (2^64) x
def r9(x:aK [.list (.int .u64),.list (.int .u64)]):oK [.int .i64]:=match x with
 | (v0,v1,()) =>
  bif !(eqI (v0.length:Int) (v1.length:Int)) then
   some ((if (if (-1)<(aB .i64 ((v0.length:Int)-(v1.length:Int))) then (aB .i64 ((v0.length:Int)-(v1.length:Int))) else (-1))<1 then (if (-1)<(aB .i64 ((v0.length:Int)-(v1.length:Int))) then (aB .i64 ((v0.length:Int)-(v1.length:Int))) else (-1)) else 1),())
  else aC (BM (v0,v1,(aB .i64 ((v0.length:Int)-1)),())) λz1 =>
  vB z1 (λa2=>some (a2.1,())) λb3 =>
  some (0,())
abbrev GZ:Ent:=⟨228,_,_,r9⟩
theorem O2:Ent.OK tP GZ:=oU (aR oW) func228 4 (lp:=BM) rfl (by kernel_rfl) (by rintro⟨v0,v1,v5,⟨⟩⟩; kernel_rfl) (by rintro⟨v0,v1,⟨⟩⟩; kernel_rfl)
abbrev fX:List (Nat×Kd):=[(1,.list (.int .u64)),(5,.own 180 (.int .u64)),(6,.int .i64),(7,.int .u64),(8,.int .u64),(17,.list (.int .u64)),(18,.int .i64),(19,.int .i64),(24,.list (.int .u64)),(25,.int .i64),(26,.int .i64),(100000,.ar 180 (.int .u64))]
abbrev kF:List (Ex×List (Nat×Kd)):=[(.exit 2,[(1,.list (.int .u64)),(5,.own 180 (.int .u64)),(6,.int .i64),(8,.int .u64),(17,.list (.int .u64)),(18,.int .i64),(19,.int .i64),(100000,.ar 180 (.int .u64))])]
def iK(x:Shape.den fX):oS fX kF:=match x with
 | (v1,v5,v6,v7,v8,v17,v18,v19,v24,v25,v26,u00,()) =>
  bif ltI v26 v25 then
   bif aF v26 v24.length then bif aF (aB .i64 (v6+v26)) v5.length then bif Nat.blt ((aB .i64 (v6+v26)).toNat) v5.length then bif aF (aB .i64 (v6+v26)) v5.length then bif Nat.blt ((aB .i64 (v6+v26)).toNat) v5.length then some (.inl (v1,(v5.set ((aB .i64 (v6+v26)).toNat) ((aB .u64 (v8+(aB .u64 ((v5.getD ((aB .i64 (v6+v26)).toNat) 0)+(aB .u64 (v7*(v24.getD v26.toNat 0))))))).tmod 1000000000)),v6,v7,(aB .u64 ((aB .u64 (v8+(aB .u64 ((v5.getD ((aB .i64 (v6+v26)).toNat) 0)+(aB .u64 (v7*(v24.getD v26.toNat 0))))))).tdiv 1000000000)),v17,v18,v19,v24,v25,(aB .i64 (v26+1)),u00,())) else none else none else none else none else none
  else some (.inr ((v1,v5,v6,v8,v17,v18,v19,u00,())))
def l4(x:Shape.den fX):oX kF:=bF iK (2^64) x
abbrev fV:List (Nat×Kd):=[(1,.list (.int .u64)),(5,.own 180 (.int .u64)),(17,.list (.int .u64)),(18,.int .i64),(19,.int .i64),(100000,.ar 180 (.int .u64))]
abbrev kA:List (Ex×List (Nat×Kd)):=[(.exit 0,[(5,.own 180 (.int .u64)),(100000,.ar 180 (.int .u64))])]
def iG(x:Shape.den fV):oS fV kA:=match x with
 | (v1,v5,v17,v18,v19,u00,()) =>
  bif ltI v19 v18 then
   bif aF v19 v17.length then aC (l4 (v1,v5,v19,(v17.getD v19.toNat 0),0,v17,v18,v19,v1,(v1.length:Int),0,u00,())) λz2 =>
   bif aF (aB .i64 (z2.2.2.1+(z2.1.length:Int))) z2.2.1.length then bif Nat.blt ((aB .i64 (z2.2.2.1+(z2.1.length:Int))).toNat) z2.2.1.length then some (.inl (z2.1,(z2.2.1.set ((aB .i64 (z2.2.2.1+(z2.1.length:Int))).toNat) z2.2.2.2.1),z2.2.2.2.2.1,z2.2.2.2.2.2.1,(aB .i64 (z2.2.2.2.2.2.2.1+1)),z2.2.2.2.2.2.2.2.1,())) else none else none else none
  else some (.inr ((v5,u00,())))
def l7(x:Shape.den fV):oX kA:=bF iG (2^64) x
def dO(u0:Unit)(x:aK [.list (.int .u64),.list (.int .u64)])(A:List (List Int)):Option ((List Int)×List (List Int)):=match x with
 | (v0,v1,()) =>
  bif !(ltI (aB .i64 ((v0.length:Int)+(v1.length:Int))) 0) then bif !(ltI (aB .i64 ((v0.length:Int)+(v1.length:Int))) (aB .i64 ((v0.length:Int)+(v1.length:Int)))) then bif !(ltI 1048576 (aB .i64 ((v0.length:Int)+(v1.length:Int)))) then aC (l7 (v1,(List.replicate ((aB .i64 ((v0.length:Int)+(v1.length:Int))).toNat) 0),v0,(v0.length:Int),0,A,())) λz3 =>
  aC (aX z3.1 (()) z3.2.1) λy4 =>
  some y4 else none else none else none
def rC:Code:=dM f220
abbrev rG:Env:=KE [] [fU]
theorem tI:fR tP rG:=l8 trivial ⟨gG,trivial⟩
def kT:Code:=iD rC 0
def uL:Code:=iD kT 0
def qA(id:Nat):Option cA:=bif Nat.beq id 7 then some ⟨fX,kF,l4⟩ else bif Nat.beq id 3 then some ⟨fV,kA,l7⟩ else none
theorem JO:∀ x,jU tP rG 63 (aO f220) qA uL fX kF x=iK x:=by
 rintro⟨v1,v5,v6,v7,v8,v17,v18,v19,v24,v25,v26,u00,⟨⟩⟩
 kernel_rfl
theorem K4:eS tP 63 uL ⟨fX,kF,l4⟩:=fF tI.callee bD.mixed _ (aQ (l:=[]) (by kernel_rfl) trivial) JO
theorem KF:∀ x,jU tP rG 63 (aO f220) qA kT fV kA x=iG x:=by
 rintro⟨v1,v5,v17,v18,v19,u00,⟨⟩⟩
 kernel_rfl
theorem NZ:a8 kT=[uL]:=by kernel_rfl
theorem LM:eS tP 63 kT ⟨fV,kA,l7⟩:=fF tI.callee bD.mixed _ (aQ NZ ⟨fD (i:=7) (by kernel_rfl) rfl K4,trivial⟩) KF
theorem MX:a8 rC=[kT]:=by kernel_rfl
theorem N9:∀ l x A,EV tP rG f220 (aO f220) qA rC 180 (.int .u64) .none [.list (.int .u64),.list (.int .u64)] (.own 180 (.int .u64)) l x A=dO l x A:=by
 rintro u0 ⟨v0,v1,⟨⟩⟩ A
 kernel_rfl
theorem Q3:LA tP 220 180 (.int .u64) .none [.list (.int .u64),.list (.int .u64)] (.own 180 (.int .u64)) dO:=zG bD tI func220 (c:=rC) (by kernel_rfl) (bG:=aO f220) (lt:=qA) (by rfl) (aQ MX ⟨fD (i:=3) (by kernel_rfl) rfl LM,trivial⟩) N9
abbrev xE:Shr:=(220,QL 0 (arH 180 (.int .u64) .none [.list (.int .u64),.list (.int .u64)] (.own 180 (.int .u64)) dO))
theorem CN:uT tP xE:=rK (g:=220) (f:=arH 180 (.int .u64) .none [.list (.int .u64),.list (.int .u64)] (.own 180 (.int .u64)) dO) (DA Q3)
def eC(u0:Unit) (x:aK [.list (.int .u64),.int .u64]) (A:List (List Int)):Option ((List Int)×List (List Int)):=match x with
 | (v0,v1,()) =>
  aC (qP ([v1],())) λy1 =>
  aC (dO () (v0,y1.1,()) A) λy2 =>
  some y2
def vO:Code:=dM f240
abbrev ET:Env:=KE [JC] [xE]
theorem MB:fR tP ET:=l8 ⟨RZ,trivial⟩ ⟨CN,trivial⟩
def DU(id:Nat):Option cA:=none
theorem K7:a8 vO=[]:=by kernel_rfl
theorem MI:∀ l x A,EV tP ET f240 (aO f240) DU vO 180 (.int .u64) .none [.list (.int .u64),.int .u64] (.own 180 (.int .u64)) l x A=eC l x A:=by
 rintro u0 ⟨v0,v1,⟨⟩⟩ A
 kernel_rfl
theorem OX:LA tP 240 180 (.int .u64) .none [.list (.int .u64),.int .u64] (.own 180 (.int .u64)) eC:=zG bD MB func240 (c:=vO) (by kernel_rfl) (bG:=aO f240) (lt:=DU) (by rfl) (aQ K7 trivial) MI
abbrev EY:Shr:=(240,QL 0 (arH 180 (.int .u64) .none [.list (.int .u64),.int .u64] (.own 180 (.int .u64)) eC))
theorem L8:uT tP EY:=rK (g:=240) (f:=arH 180 (.int .u64) .none [.list (.int .u64),.int .u64] (.own 180 (.int .u64)) eC) (DA OX)
abbrev gO:List (Nat×Kd):=[(0,.list (.int .u64)),(1,.int .u64),(6,.own 180 (.int .u64)),(7,.int .u64),(8,.int .i64),(100000,.ar 180 (.int .u64))]
abbrev lE:List (Ex×List (Nat×Kd)):=[(.exit 0,[(6,.own 180 (.int .u64)),(7,.int .u64),(100000,.ar 180 (.int .u64))])]
def jD(x:Shape.den gO):oS gO lE:=match x with
 | (v0,v1,v6,v7,v8,u00,()) =>
  bif !(ltI v8 0) then
   bif aF v8 v0.length then bif eqI v1 0 then none else bif aF v8 v6.length then bif Nat.blt v8.toNat v6.length then bif eqI v1 0 then none else some (.inl (v0,v1,(v6.set v8.toNat (aB .u64 ((aB .u64 ((aB .u64 (v7*1000000000))+(v0.getD v8.toNat 0))).tdiv v1))),((aB .u64 ((aB .u64 (v7*1000000000))+(v0.getD v8.toNat 0))).tmod v1),(aB .i64 (v8-1)),u00,())) else none else none else none
  else some (.inr ((v6,v7,u00,())))
def mW(x:Shape.den gO):oX lE:=bF jD (2^64) x
def dV(u0:Unit)(x:aK [.list (.int .u64),.int .u64])(A:List (List Int)):Option ((aK [.list (.int .u64),.int .u64])×List (List Int)):=match x with
 | (v0,v1,()) =>
  bif !(ltI (v0.length:Int) 0) then bif !(ltI (v0.length:Int) (v0.length:Int)) then bif !(ltI 1048576 (v0.length:Int)) then aC (mW (v0,v1,(List.replicate ((v0.length:Int).toNat) 0),0,(aB .i64 ((v0.length:Int)-1)),A,())) λz1 =>
  aC (aX z1.1 (()) z1.2.2.1) λy2 =>
  some ((y2.1,z1.2.1,()),y2.2) else none else none else none
def sA:Code:=dM f229
abbrev zB:Env:=KE [] [fU]
theorem DJ:fR tP zB:=l8 trivial ⟨gG,trivial⟩
def vM:Code:=iD sA 0
def xN(id:Nat):Option cA:=bif Nat.beq id 4 then some ⟨gO,lE,mW⟩ else none
theorem LK:∀ x,jU tP zB 38 (aO f229) xN vM gO lE x=jD x:=by
 rintro⟨v0,v1,v6,v7,v8,u00,⟨⟩⟩
 kernel_rfl
theorem MP:eS tP 38 vM ⟨gO,lE,mW⟩:=fF DJ.callee bD.mixed _ (aQ (l:=[]) (by kernel_rfl) trivial) LK
theorem NT:a8 sA=[vM]:=by kernel_rfl
theorem PQ:∀ l x A,EV tP zB f229 (aO f229) xN sA 180 (.int .u64) .none [.list (.int .u64),.int .u64] (.data [.list (.int .u64),.int .u64]) l x A=dV l x A:=by
 rintro u0 ⟨v0,v1,⟨⟩⟩ A
 kernel_rfl
theorem SC:LA tP 229 180 (.int .u64) .none [.list (.int .u64),.int .u64] (.data [.list (.int .u64),.int .u64]) dV:=zG bD DJ func229 (c:=sA) (by kernel_rfl) (bG:=aO f229) (lt:=xN) (by rfl) (aQ NT ⟨fD (i:=4) (by kernel_rfl) rfl MP,trivial⟩) PQ
abbrev yS:Shr:=(229,QL 0 (arH 180 (.int .u64) .none [.list (.int .u64),.int .u64] (.data [.list (.int .u64),.int .u64]) dV))
theorem DT:uT tP yS:=rK (g:=229) (f:=arH 180 (.int .u64) .none [.list (.int .u64),.int .u64] (.data [.list (.int .u64),.int .u64]) dV) (DA SC)
abbrev fH:List (Nat×Kd):=[(0,.hnd 1),(1,.list (.int .u64)),(2,.int .u64),(3,.int .i64),(9,.int .i64),(10,.int .u64),(11,.int .i64),(100000,.ar 180 (.int .u64))]
abbrev iR:List (Ex×List (Nat×Kd)):=[(.exit 0,[(9,.int .i64),(100000,.ar 180 (.int .u64))])]
def eI(x:Shape.den fH):oS fH iR:=match x with
 | (v0,v1,v2,v3,v9,v10,v11,u00,()) =>
  bif !(ltI (v1.length:Int) v11) then
   bif ltI v11 (v1.length:Int) then
    bif aF v11 v1.length then bif aF (aB .i64 (v3+v11)) v0.2.2 then bif Nat.blt ((v0.2.1+(aB .i64 (v3+v11)).toNat)*1) (cS u00 v0.1) then bif ltI (aB .i64 ((aB .i64 ((IntKind.wrap .i64 (dK u00 v0.1 ((v0.2.1+(aB .i64 (v3+v11)).toNat)*1) 0))-(IntKind.wrap .i64 ((aB .u64 (v10+(aB .u64 (v2*(v1.getD v11.toNat 0))))).tmod 1000000000))))-v9)) 0 then
     bif aF (aB .i64 (v3+v11)) v0.2.2 then bif Nat.blt ((v0.2.1+(aB .i64 (v3+v11)).toNat)*1) (cS u00 v0.1) then some (.inl ((v0.1,v0.2.1,v0.2.2),v1,v2,v3,1,(aB .u64 ((aB .u64 (v10+(aB .u64 (v2*(v1.getD v11.toNat 0))))).tdiv 1000000000)),(aB .i64 (v11+1)),(vJ u00 v0.1 ((v0.2.1+(aB .i64 (v3+v11)).toNat)*1) (IntKind.wrap .u64 (aB .i64 ((aB .i64 ((aB .i64 ((IntKind.wrap .i64 (dK u00 v0.1 ((v0.2.1+(aB .i64 (v3+v11)).toNat)*1) 0))-(IntKind.wrap .i64 ((aB .u64 (v10+(aB .u64 (v2*(v1.getD v11.toNat 0))))).tmod 1000000000))))-v9))+1000000000)))),())) else none else none
    else bif aF (aB .i64 (v3+v11)) v0.2.2 then bif Nat.blt ((v0.2.1+(aB .i64 (v3+v11)).toNat)*1) (cS u00 v0.1) then some (.inl ((v0.1,v0.2.1,v0.2.2),v1,v2,v3,0,(aB .u64 ((aB .u64 (v10+(aB .u64 (v2*(v1.getD v11.toNat 0))))).tdiv 1000000000)),(aB .i64 (v11+1)),(vJ u00 v0.1 ((v0.2.1+(aB .i64 (v3+v11)).toNat)*1) (IntKind.wrap .u64 (aB .i64 ((aB .i64 ((IntKind.wrap .i64 (dK u00 v0.1 ((v0.2.1+(aB .i64 (v3+v11)).toNat)*1) 0))-(IntKind.wrap .i64 ((aB .u64 (v10+(aB .u64 (v2*(v1.getD v11.toNat 0))))).tmod 1000000000))))-v9)))),())) else none else none else none else none else none
   else bif aF (aB .i64 (v3+v11)) v0.2.2 then bif Nat.blt ((v0.2.1+(aB .i64 (v3+v11)).toNat)*1) (cS u00 v0.1) then bif ltI (aB .i64 ((aB .i64 ((IntKind.wrap .i64 (dK u00 v0.1 ((v0.2.1+(aB .i64 (v3+v11)).toNat)*1) 0))-(IntKind.wrap .i64 (v10.tmod 1000000000))))-v9)) 0 then
    bif aF (aB .i64 (v3+v11)) v0.2.2 then bif Nat.blt ((v0.2.1+(aB .i64 (v3+v11)).toNat)*1) (cS u00 v0.1) then some (.inl ((v0.1,v0.2.1,v0.2.2),v1,v2,v3,1,(aB .u64 (v10.tdiv 1000000000)),(aB .i64 (v11+1)),(vJ u00 v0.1 ((v0.2.1+(aB .i64 (v3+v11)).toNat)*1) (IntKind.wrap .u64 (aB .i64 ((aB .i64 ((aB .i64 ((IntKind.wrap .i64 (dK u00 v0.1 ((v0.2.1+(aB .i64 (v3+v11)).toNat)*1) 0))-(IntKind.wrap .i64 (v10.tmod 1000000000))))-v9))+1000000000)))),())) else none else none
   else bif aF (aB .i64 (v3+v11)) v0.2.2 then bif Nat.blt ((v0.2.1+(aB .i64 (v3+v11)).toNat)*1) (cS u00 v0.1) then some (.inl ((v0.1,v0.2.1,v0.2.2),v1,v2,v3,0,(aB .u64 (v10.tdiv 1000000000)),(aB .i64 (v11+1)),(vJ u00 v0.1 ((v0.2.1+(aB .i64 (v3+v11)).toNat)*1) (IntKind.wrap .u64 (aB .i64 ((aB .i64 ((IntKind.wrap .i64 (dK u00 v0.1 ((v0.2.1+(aB .i64 (v3+v11)).toNat)*1) 0))-(IntKind.wrap .i64 (v10.tmod 1000000000))))-v9)))),())) else none else none else none else none
  else some (.inr ((v9,u00,())))
def n9(x:Shape.den fH):oX iR:=bF eI (2^64) x
def dL(u0:Unit)(x:aK [.hnd 1,.list (.int .u64),.int .u64,.int .i64])(A:List (List Int)):Option ((aK [.bool])×List (List Int)):=match x with
 | (v0,v1,v2,v3,()) =>
  aC (n9 ((v0.1,v0.2.1,v0.2.2),v1,v2,v3,0,0,0,A,())) λz1 =>
  some ((ltI 0 z1.1,()),z1.2.1)
def tJ:Code:=dM f219
abbrev A0:Env:=JB []
theorem E3:fR tP A0:=aR trivial
def xM:Code:=iD tJ 0
def zI(id:Nat):Option cA:=bif Nat.beq id 4 then some ⟨fH,iR,n9⟩ else none
theorem MY:∀ x,jU tP A0 59 (aO f219) zI xM fH iR x=eI x:=by
 rintro⟨v0,v1,v2,v3,v9,v10,v11,u00,⟨⟩⟩
 kernel_rfl
theorem N7:eS tP 59 xM ⟨fH,iR,n9⟩:=fF E3.callee bD.mixed _ (aQ (l:=[]) (by kernel_rfl) trivial) MY
theorem OT:a8 tJ=[xM]:=by kernel_rfl
theorem QP:∀ l x A,EV tP A0 f219 (aO f219) zI tJ 180 (.int .u64) .none [.hnd 1,.list (.int .u64),.int .u64,.int .i64] (.data [.bool]) l x A=dL l x A:=by
 rintro u0 ⟨v0,v1,v2,v3,⟨⟩⟩ A
 kernel_rfl
theorem S4:LA tP 219 180 (.int .u64) .none [.hnd 1,.list (.int .u64),.int .u64,.int .i64] (.data [.bool]) dL:=zG bD E3 func219 (c:=tJ) (by kernel_rfl) (bG:=aO f219) (lt:=zI) (by rfl) (aQ OT ⟨fD (i:=4) (by kernel_rfl) rfl N7,trivial⟩) QP
theorem S0:aTS tP 219 180 (.int .u64) [.list (.int .u64),.int .u64,.int .i64] [.bool] (YS dL):=aKA S4 (by rfl) (by rfl) (by rfl)
abbrev yY:Shr:=(219,QL 1 (aWS 180 (.int .u64) [.list (.int .u64),.int .u64,.int .i64] [.bool] (YS dL)))
theorem DV:uT tP yY:=rK (a0Z S0)
abbrev iO:List (Nat×Kd):=[(0,.hnd 1),(1,.list (.int .u64)),(2,.int .i64),(6,.int .u64),(7,.int .i64),(100000,.ar 180 (.int .u64))]
abbrev lT:List (Ex×List (Nat×Kd)):=[(.exit 0,[(100000,.ar 180 (.int .u64))])]
def eK(x:Shape.den iO):oS iO lT:=match x with
 | (v0,v1,v2,v6,v7,u00,()) =>
  bif !(ltI (v1.length:Int) v7) then
   bif aF (aB .i64 (v2+v7)) v0.2.2 then bif Nat.blt ((v0.2.1+(aB .i64 (v2+v7)).toNat)*1) (cS u00 v0.1) then bif ltI v7 (v1.length:Int) then
    bif aF v7 v1.length then bif aF (aB .i64 (v2+v7)) v0.2.2 then bif Nat.blt ((v0.2.1+(aB .i64 (v2+v7)).toNat)*1) (cS u00 v0.1) then some (.inl ((v0.1,v0.2.1,v0.2.2),v1,v2,(aB .u64 ((aB .u64 ((aB .u64 (v6+(dK u00 v0.1 ((v0.2.1+(aB .i64 (v2+v7)).toNat)*1) 0)))+(v1.getD v7.toNat 0))).tdiv 1000000000)),(aB .i64 (v7+1)),(vJ u00 v0.1 ((v0.2.1+(aB .i64 (v2+v7)).toNat)*1) ((aB .u64 ((aB .u64 (v6+(dK u00 v0.1 ((v0.2.1+(aB .i64 (v2+v7)).toNat)*1) 0)))+(v1.getD v7.toNat 0))).tmod 1000000000)),())) else none else none else none
   else bif aF (aB .i64 (v2+v7)) v0.2.2 then bif Nat.blt ((v0.2.1+(aB .i64 (v2+v7)).toNat)*1) (cS u00 v0.1) then some (.inl ((v0.1,v0.2.1,v0.2.2),v1,v2,(aB .u64 ((aB .u64 (v6+(dK u00 v0.1 ((v0.2.1+(aB .i64 (v2+v7)).toNat)*1) 0))).tdiv 1000000000)),(aB .i64 (v7+1)),(vJ u00 v0.1 ((v0.2.1+(aB .i64 (v2+v7)).toNat)*1) ((aB .u64 (v6+(dK u00 v0.1 ((v0.2.1+(aB .i64 (v2+v7)).toNat)*1) 0))).tmod 1000000000)),())) else none else none else none else none
  else some (.inr ((u00,())))
def o3(x:Shape.den iO):oX lT:=bF eK (2^64) x
def cH(u0:Unit)(x:aK [.hnd 1,.list (.int .u64),.int .i64])(A:List (List Int)):Option ((aK [])×List (List Int)):=match x with
 | (v0,v1,v2,()) =>
  aC (o3 ((v0.1,v0.2.1,v0.2.2),v1,v2,0,0,A,())) λz1 =>
  some ((()),z1.1)
def tB:Code:=dM f216
abbrev AS:Env:=JB []
theorem EX:fR tP AS:=aR trivial
def xA:Code:=iD tB 0
def zK(id:Nat):Option cA:=bif Nat.beq id 2 then some ⟨iO,lT,o3⟩ else none
theorem MO:∀ x,jU tP AS 41 (aO f216) zK xA iO lT x=eK x:=by
 rintro⟨v0,v1,v2,v6,v7,u00,⟨⟩⟩
 kernel_rfl
theorem NV:eS tP 41 xA ⟨iO,lT,o3⟩:=fF EX.callee bD.mixed _ (aQ (l:=[]) (by kernel_rfl) trivial) MO
theorem O9:a8 tB=[xA]:=by kernel_rfl
theorem Q4:∀ l x A,EV tP AS f216 (aO f216) zK tB 180 (.int .u64) .none [.hnd 1,.list (.int .u64),.int .i64] (.data []) l x A=cH l x A:=by
 rintro u0 ⟨v0,v1,v2,⟨⟩⟩ A
 kernel_rfl
theorem UG:LA tP 216 180 (.int .u64) .none [.hnd 1,.list (.int .u64),.int .i64] (.data []) cH:=zG bD EX func216 (c:=tB) (by kernel_rfl) (bG:=aO f216) (lt:=zK) (by rfl) (aQ O9 ⟨fD (i:=2) (by kernel_rfl) rfl NV,trivial⟩) Q4
theorem SW:aRB tP 216 180 (.int .u64) [.list (.int .u64),.int .i64] (SY cH):=aET UG (by rfl) (by rfl)
abbrev zA:Shr:=(216,QL 1 (aX6 180 (.int .u64) [.list (.int .u64),.int .i64] (SY cH)))
theorem D6:uT tP zA:=rK (aOH SW)
abbrev kQ:List (Nat×Kd):=[(0,.list (.int .u64)),(3,.own 5 (.int .u8)),(4,.int .i64),(5,.int .u64),(6,.int .i64),(14,.list (.int .u64)),(15,.int .i64),(16,.int .i64)]
abbrev nW:List (Ex×List (Nat×Kd)):=[(.exit 2,[(0,.list (.int .u64)),(3,.own 5 (.int .u8)),(14,.list (.int .u64)),(15,.int .i64),(16,.int .i64)])]
def eD(x:Shape.den kQ):oS kQ nW:=match x with
 | (v0,v3,v4,v5,v6,v14,v15,v16,()) =>
  bif ltI v6 9 then
   bif ltI (aB .i64 (v4+1)) (v0.length:Int) then
    bif Nat.ble [(IntKind.wrap .u8 (aB .u64 (48+(v5.tmod 10))))].length 1048576 then bif Nat.ble v3.length 1048576 then some (.inl (v0,(v3++[(IntKind.wrap .u8 (aB .u64 (48+(v5.tmod 10))))]),v4,(aB .u64 (v5.tdiv 10)),(aB .i64 (v6+1)),v14,v15,v16,())) else none else none
   else bif ltI 0 v5 then
    bif Nat.ble [(IntKind.wrap .u8 (aB .u64 (48+(v5.tmod 10))))].length 1048576 then bif Nat.ble v3.length 1048576 then some (.inl (v0,(v3++[(IntKind.wrap .u8 (aB .u64 (48+(v5.tmod 10))))]),v4,(aB .u64 (v5.tdiv 10)),(aB .i64 (v6+1)),v14,v15,v16,())) else none else none
   else some (.inr ((v0,v3,v14,v15,v16,())))
  else some (.inr ((v0,v3,v14,v15,v16,())))
def lQ(x:Shape.den kQ):oX nW:=bF eD (2^64) x
abbrev kL:List (Nat×Kd):=[(0,.list (.int .u64)),(3,.own 5 (.int .u8)),(14,.list (.int .u64)),(15,.int .i64),(16,.int .i64)]
abbrev nQ:List (Ex×List (Nat×Kd)):=[(.exit 0,[(3,.own 5 (.int .u8))])]
def iQ(x:Shape.den kL):oS kL nQ:=match x with
 | (v0,v3,v14,v15,v16,()) =>
  bif ltI v16 v15 then
   bif aF v16 v14.length then aC (lQ (v0,v3,v16,(v14.getD v16.toNat 0),0,v14,v15,v16,())) λz2 =>
   some (.inl (z2.1,z2.2.1,z2.2.2.1,z2.2.2.2.1,(aB .i64 (z2.2.2.2.2.1+1)),())) else none
  else some (.inr ((v3,())))
def lR(x:Shape.den kL):oX nQ:=bF iQ (2^64) x
def bL(x:aK [.list (.int .u64)]):oK [.str]:=match x with
 | (v0,()) =>
  bif eqI (v0.length:Int) 0 then
   some ((ByteArray.mk #[48]),())
  else bif !(ltI (aB .i64 (9*(v0.length:Int))) 0) then bif !(ltI 1048576 (aB .i64 (9*(v0.length:Int)))) then aC (lR (v0,(List.replicate 0 0),v0,(v0.length:Int),0,())) λz3 =>
  aC (SY (t:=(.int .u8)) dI z3.1 (())) λy4 =>
  some ((aJC y4),()) else none else none
def LJ:Code:=dM f218
abbrev DD:Env:=KE [] [BC]
theorem yZ:fR tP DD:=l8 trivial ⟨I1,trivial⟩
def pQ:Code:=iD LJ 0
def AM:Code:=iD pQ 0
def B0(id:Nat):Option cA:=bif Nat.beq id 8 then some ⟨kQ,nW,lQ⟩ else bif Nat.beq id 5 then some ⟨kL,nQ,lR⟩ else none
theorem QG:∀ x,jU tP DD 50 (aO f218) B0 AM kQ nW x=eD x:=by
 rintro⟨v0,v3,v4,v5,v6,v14,v15,v16,⟨⟩⟩
 kernel_rfl
theorem QO:eS tP 50 AM ⟨kQ,nW,lQ⟩:=fF yZ.callee bD.mixed _ (aQ (l:=[]) (by kernel_rfl) trivial) QG
theorem OU:∀ x,jU tP DD 50 (aO f218) B0 pQ kL nQ x=iQ x:=by
 rintro⟨v0,v3,v14,v15,v16,⟨⟩⟩
 kernel_rfl
theorem TY:a8 pQ=[AM]:=by kernel_rfl
theorem QX:eS tP 50 pQ ⟨kL,nQ,lR⟩:=fF yZ.callee bD.mixed _ (aQ TY ⟨fD (i:=8) (by kernel_rfl) rfl QO,trivial⟩) OU
abbrev rS:Ent:=⟨218,_,_,bL⟩
theorem sB:Ent.OK tP rS:=aFF bD yZ func218 (c:=LJ) (by kernel_rfl) (bG:=aO f218) (lt:=B0) (aQ (l:=[pQ]) (by kernel_rfl) ⟨fD (i:=5) (by kernel_rfl) rfl QX,trivial⟩) (by rintro⟨v0,⟨⟩⟩; kernel_rfl)
abbrev gD:List (Nat×Kd):=[(0,.list (.int .u64)),(6,.int .u64),(7,.own 180 (.int .u64)),(8,.list (.int .u64)),(9,.int .i64),(100000,.ar 180 (.int .u64))]
abbrev jY:List (Ex×List (Nat×Kd)):=[(.exit 0,[(6,.int .u64),(7,.own 180 (.int .u64)),(8,.list (.int .u64)),(9,.int .i64),(100000,.ar 180 (.int .u64))])]
def mA(x:Shape.den gD):oS gD jY:=match x with
 | (v0,v6,v7,v8,v9,u00,()) =>
  bif !(ltI (v0.length:Int) (v7.length:Int)) then
   bif Nat.ble [0].length 1048576 then bif Nat.ble v7.length 1048576 then some (.inl (v0,v6,(v7++[0]),v8,v9,u00,())) else none else none
  else some (.inr ((v6,v7,v8,v9,u00,())))
def lY(x:Shape.den gD):oX jY:=bF mA (2^64) x
abbrev gA:List (Nat×Kd):=[(6,.int .u64),(7,.own 180 (.int .u64)),(8,.list (.int .u64)),(9,.int .i64),(10,.own 180 (.int .u64)),(11,.int .i64),(13,.int .u64),(14,.int .u64),(100000,.ar 180 (.int .u64))]
abbrev j7:List (Ex×List (Nat×Kd)):=[(.exit 4,[(6,.int .u64),(7,.own 180 (.int .u64)),(8,.list (.int .u64)),(9,.int .i64),(10,.own 180 (.int .u64)),(11,.int .i64),(13,.int .u64),(100000,.ar 180 (.int .u64))])]
def iI(x:Shape.den gA):oS gA j7:=match x with
 | (v6,v7,v8,v9,v10,v11,v13,v14,u00,()) =>
  bif !(ltI v13 1000000000) then
   bif aF (aB .i64 (v9-1)) v8.length then some (.inl (v6,v7,v8,v9,v10,v11,(aB .u64 (v13-1)),(aB .u64 (v14+(v8.getD ((aB .i64 (v9-1)).toNat) 0))),u00,())) else none
  else bif ltI v14 1000000000 then
   bif aF (aB .i64 (v9-2)) v8.length then bif aF (aB .i64 ((aB .i64 (v11+v9))-2)) v7.length then bif Nat.blt ((aB .i64 ((aB .i64 (v11+v9))-2)).toNat) v7.length then bif ltI (aB .u64 ((aB .u64 (v14*1000000000))+(v7.getD ((aB .i64 ((aB .i64 (v11+v9))-2)).toNat) 0))) (aB .u64 (v13*(v8.getD ((aB .i64 (v9-2)).toNat) 0))) then
    bif aF (aB .i64 (v9-1)) v8.length then some (.inl (v6,v7,v8,v9,v10,v11,(aB .u64 (v13-1)),(aB .u64 (v14+(v8.getD ((aB .i64 (v9-1)).toNat) 0))),u00,())) else none
   else some (.inr ((v6,v7,v8,v9,v10,v11,v13,u00,()))) else none else none else none
  else some (.inr ((v6,v7,v8,v9,v10,v11,v13,u00,())))
def lX(x:Shape.den gA):oX j7:=bF iI (2^64) x
abbrev fW:List (Nat×Kd):=[(6,.int .u64),(7,.own 180 (.int .u64)),(8,.list (.int .u64)),(9,.int .i64),(10,.own 180 (.int .u64)),(11,.int .i64),(100000,.ar 180 (.int .u64))]
abbrev kD:List (Ex×List (Nat×Kd)):=[(.exit 2,[(6,.int .u64),(7,.own 180 (.int .u64)),(10,.own 180 (.int .u64)),(100000,.ar 180 (.int .u64))])]
def dT(x:Shape.den fW):oS fW kD:=match x with
 | (v6,v7,v8,v9,v10,v11,u00,()) =>
  bif !(ltI v11 0) then
   bif aF (aB .i64 (v11+v9)) v7.length then bif Nat.blt ((aB .i64 (v11+v9)).toNat) v7.length then bif aF (aB .i64 ((aB .i64 (v11+v9))-1)) v7.length then bif Nat.blt ((aB .i64 ((aB .i64 (v11+v9))-1)).toNat) v7.length then bif aF (aB .i64 (v9-1)) v8.length then bif eqI (v8.getD ((aB .i64 (v9-1)).toNat) 0) 0 then none else bif aF (aB .i64 (v9-1)) v8.length then bif eqI (v8.getD ((aB .i64 (v9-1)).toNat) 0) 0 then none else aC (lX (v6,v7,v8,v9,v10,v11,(aB .u64 ((aB .u64 ((aB .u64 ((v7.getD ((aB .i64 (v11+v9)).toNat) 0)*1000000000))+(v7.getD ((aB .i64 ((aB .i64 (v11+v9))-1)).toNat) 0))).tdiv (v8.getD ((aB .i64 (v9-1)).toNat) 0))),((aB .u64 ((aB .u64 ((v7.getD ((aB .i64 (v11+v9)).toNat) 0)*1000000000))+(v7.getD ((aB .i64 ((aB .i64 (v11+v9))-1)).toNat) 0))).tmod (v8.getD ((aB .i64 (v9-1)).toNat) 0)),u00,())) λz7 =>
   aC (YS (t:=(.int .u64)) (rets:=[.bool]) dL z7.2.1 (z7.2.2.1,z7.2.2.2.2.2.2.1,z7.2.2.2.2.2.1,())) λy8 =>
   bif y8.1.1 then
    aC (SY (t:=(.int .u64)) cH y8.2 (z7.2.2.1,z7.2.2.2.2.2.1,())) λy9 =>
    bif aF z7.2.2.2.2.2.1 z7.2.2.2.2.1.length then bif Nat.blt z7.2.2.2.2.2.1.toNat z7.2.2.2.2.1.length then some (.inl (z7.1,y9,z7.2.2.1,z7.2.2.2.1,(z7.2.2.2.2.1.set z7.2.2.2.2.2.1.toNat (aB .u64 (z7.2.2.2.2.2.2.1-1))),(aB .i64 (z7.2.2.2.2.2.1-1)),z7.2.2.2.2.2.2.2.1,())) else none else none
   else bif aF z7.2.2.2.2.2.1 z7.2.2.2.2.1.length then bif Nat.blt z7.2.2.2.2.2.1.toNat z7.2.2.2.2.1.length then some (.inl (z7.1,y8.2,z7.2.2.1,z7.2.2.2.1,(z7.2.2.2.2.1.set z7.2.2.2.2.2.1.toNat z7.2.2.2.2.2.2.1),(aB .i64 (z7.2.2.2.2.2.1-1)),z7.2.2.2.2.2.2.2.1,())) else none else none else none else none else none else none else none else none
  else some (.inr ((v6,v7,v10,u00,())))
def l9(x:Shape.den fW):oX kD:=bF dT (2^64) x
def eP(u0:Unit)(x:aK [.list (.int .u64),.list (.int .u64)])(A:List (List Int)):Option ((aK [.list (.int .u64),.list (.int .u64)])×List (List Int)):=match x with
 | (v0,v1,()) =>
  bif aF (aB .i64 ((v1.length:Int)-1)) v1.length then bif eqI (aB .u64 ((v1.getD ((aB .i64 ((v1.length:Int)-1)).toNat) 0)+1)) 0 then none else aC (eC () (v0,(aB .u64 ((1000000000:Int).tdiv (aB .u64 ((v1.getD ((aB .i64 ((v1.length:Int)-1)).toNat) 0)+1)))),()) A) λy1 =>
  bif Nat.ble [0].length 1048576 then bif Nat.ble y1.1.length 1048576 then aC (eC () (v1,(aB .u64 ((1000000000:Int).tdiv (aB .u64 ((v1.getD ((aB .i64 ((v1.length:Int)-1)).toNat) 0)+1)))),()) y1.2) λy2 =>
  aC (lY (v0,(aB .u64 ((1000000000:Int).tdiv (aB .u64 ((v1.getD ((aB .i64 ((v1.length:Int)-1)).toNat) 0)+1)))),(y1.1++[0]),y2.1,(y2.1.length:Int),y2.2,())) λz3 =>
  bif !(ltI (aB .i64 ((z3.2.1.length:Int)-z3.2.2.2.1)) 0) then bif !(ltI (aB .i64 ((z3.2.1.length:Int)-z3.2.2.2.1)) (aB .i64 ((z3.2.1.length:Int)-z3.2.2.2.1))) then bif !(ltI 1048576 (aB .i64 ((z3.2.1.length:Int)-z3.2.2.2.1))) then aC (l9 (z3.1,z3.2.1,z3.2.2.1,z3.2.2.2.1,(List.replicate ((aB .i64 ((z3.2.1.length:Int)-z3.2.2.2.1)).toNat) 0),(aB .i64 ((aB .i64 ((z3.2.1.length:Int)-z3.2.2.2.1))-1)),z3.2.2.2.2.1,())) λz10 =>
  aC (aX z10.2.1 (()) z10.2.2.2.1) λy11 =>
  aC (dV () (y11.1,z10.1,()) y11.2) λy12 =>
  aC (aX z10.2.2.1 (()) y12.2) λy13 =>
  some ((y13.1,y12.1.1,()),y13.2) else none else none else none else none else none else none
def mF:Code:=dM f230
abbrev mQ:Env:=KE [] [zA,EY,yS,yY,fU]
theorem o7:fR tP mQ:=l8 trivial ⟨D6,L8,DT,DV,gG,trivial⟩
def uZ:Code:=iD mF 0
def kZ:Code:=iD mF 1
def tV:Code:=iD kZ 0
def lP(id:Nat):Option cA:=bif Nat.beq id 4 then some ⟨gD,jY,lY⟩ else bif Nat.beq id 12 then some ⟨gA,j7,lX⟩ else bif Nat.beq id 8 then some ⟨fW,kD,l9⟩ else none
theorem JV:∀ x,jU tP mQ 146 (aO f230) lP uZ gD jY x=mA x:=by
 rintro⟨v0,v6,v7,v8,v9,u00,⟨⟩⟩
 kernel_rfl
theorem LD:eS tP 146 uZ ⟨gD,jY,lY⟩:=fF o7.callee bD.mixed _ (aQ (l:=[]) (by kernel_rfl) trivial) JV
theorem JM:∀ x,jU tP mQ 146 (aO f230) lP tV gA j7 x=iI x:=by
 rintro⟨v6,v7,v8,v9,v10,v11,v13,v14,u00,⟨⟩⟩
 kernel_rfl
theorem K5:eS tP 146 tV ⟨gA,j7,lX⟩:=fF o7.callee bD.mixed _ (aQ (l:=[]) (by kernel_rfl) trivial) JM
theorem JN:∀ x,jU tP mQ 146 (aO f230) lP kZ fW kD x=dT x:=by
 rintro⟨v6,v7,v8,v9,v10,v11,u00,⟨⟩⟩
 kernel_rfl
theorem N1:a8 kZ=[tV]:=by kernel_rfl
theorem KP:eS tP 146 kZ ⟨fW,kD,l9⟩:=fF o7.callee bD.mixed _ (aQ N1 ⟨fD (i:=12) (by kernel_rfl) rfl K5,trivial⟩) JN
theorem MJ:a8 mF=[uZ,kZ]:=by kernel_rfl
theorem NY:∀ l x A,EV tP mQ f230 (aO f230) lP mF 180 (.int .u64) .none [.list (.int .u64),.list (.int .u64)] (.data [.list (.int .u64),.list (.int .u64)]) l x A=eP l x A:=by
 rintro u0 ⟨v0,v1,⟨⟩⟩ A
 kernel_rfl
theorem QK:LA tP 230 180 (.int .u64) .none [.list (.int .u64),.list (.int .u64)] (.data [.list (.int .u64),.list (.int .u64)]) eP:=zG bD o7 func230 (c:=mF) (by kernel_rfl) (bG:=aO f230) (lt:=lP) (by rfl) (aQ MJ ⟨fD (i:=4) (by kernel_rfl) rfl LD,fD (i:=8) (by kernel_rfl) rfl KP,trivial⟩) NY
abbrev FQ:Shr:=(230,QL 0 (arH 180 (.int .u64) .none [.list (.int .u64),.list (.int .u64)] (.data [.list (.int .u64),.list (.int .u64)]) eP))
theorem NU:uT tP FQ:=rK (g:=230) (f:=arH 180 (.int .u64) .none [.list (.int .u64),.list (.int .u64)] (.data [.list (.int .u64),.list (.int .u64)]) eP) (DA QK)
def eW(x:aK [.str,.str]):oK [.str]:=match x with
 | (v0,v1,()) =>
  aC (rI (v0,v1,())) λy1 =>
  bif y1.2.2.1 then
   aC (tO ((aB .u64 (y1.1+y1.2.1)),())) λy2 =>
   some (y2.1,())
  else aC (eA () (v0,()) []) λy3 =>
  aC (eA () (v1,()) y3.2) λy4 =>
  bif ltI (y3.1.length:Int) (y4.1.length:Int) then
   bif Nat.ble [0].length 1048576 then bif Nat.ble y4.1.length 1048576 then bif !(ltI (aB .i64 ((aB .i64 (((y4.1++[0]).length:Int)-1))-(y3.1.length:Int))) 0) then bif !(ltI 1048576 (aB .i64 ((aB .i64 (((y4.1++[0]).length:Int)-1))-(y3.1.length:Int)))) then bif Nat.ble y3.1.length 1048576 then aC (SY (t:=(.int .u64)) cH (y4.1++[0]) ((y3.1++List.replicate (aB .i64 ((aB .i64 (((y4.1++[0]).length:Int)-1))-(y3.1.length:Int))).toNat (0:Ty.den (.int .u64))),0,())) λy5 =>
   aC (aX y5 (()) y4.2) λy6 =>
   aC (bL (y6.1,())) λy7 =>
   some (y7.1,()) else none else none else none else none else none
  else bif Nat.ble [0].length 1048576 then bif Nat.ble y3.1.length 1048576 then bif !(ltI (aB .i64 ((aB .i64 (((y3.1++[0]).length:Int)-1))-(y4.1.length:Int))) 0) then bif !(ltI 1048576 (aB .i64 ((aB .i64 (((y3.1++[0]).length:Int)-1))-(y4.1.length:Int)))) then bif Nat.ble y4.1.length 1048576 then aC (SY (t:=(.int .u64)) cH (y3.1++[0]) ((y4.1++List.replicate (aB .i64 ((aB .i64 (((y3.1++[0]).length:Int)-1))-(y4.1.length:Int))).toNat (0:Ty.den (.int .u64))),0,())) λy8 =>
  aC (aX y8 (()) y4.2) λy9 =>
  aC (bL (y9.1,())) λy10 =>
  some (y10.1,()) else none else none else none else none else none
def WE:Code:=dM f181
abbrev aD2:Env:=KE [KV,FM,rS] [BI,zA,fU]
theorem aHG:fR tP aD2:=l8 ⟨IG,EC,sB,trivial⟩ ⟨A4,D6,gG,trivial⟩
def aAH(id:Nat):Option cA:=none
theorem aEO:a8 WE=[]:=by kernel_rfl
theorem aG1:∀ x,aAL tP aD2 f181 (aO f181) aAH WE 180 (.int .u64) _ _ x=eW x:=by
 rintro⟨v0,v1,⟨⟩⟩
 kernel_rfl
abbrev aNX:Ent:=⟨181,_,_,eW⟩
theorem WK:Ent.OK tP aNX:=aGC bD aHG func181 (c:=WE) (by kernel_rfl) (bG:=aO f181) (lt:=aAH) (aQ aEO trivial) aG1
def cP(x:aK [.str,.str]):oK [.str,.int .i64]:=match x with
 | (v0,v1,()) =>
  aC (fJ (v0,v1,())) λy1 =>
  bif ltI y1.1 0 then
   some ((ByteArray.mk #[]),3,())
  else aC (rI (v0,v1,())) λy2 =>
  bif y2.2.2.1 then
   aC (tO ((aB .u64 (y2.1-y2.2.1)),())) λy3 =>
   some (y3.1,0,())
  else aC (eA () (v0,()) []) λy4 =>
  bif Nat.ble [0].length 1048576 then bif Nat.ble y4.1.length 1048576 then aC (eA () (v1,()) y4.2) λy5 =>
  aC (eA () (v1,()) y5.2) λy6 =>
  bif !(ltI (aB .i64 ((aB .i64 (((y4.1++[0]).length:Int)-1))-(y6.1.length:Int))) 0) then bif !(ltI 1048576 (aB .i64 ((aB .i64 (((y4.1++[0]).length:Int)-1))-(y6.1.length:Int)))) then bif Nat.ble y5.1.length 1048576 then aC (YS (t:=(.int .u64)) (rets:=[.bool]) dL (y4.1++[0]) ((y5.1++List.replicate (aB .i64 ((aB .i64 (((y4.1++[0]).length:Int)-1))-(y6.1.length:Int))).toNat (0:Ty.den (.int .u64))),1,0,())) λy7 =>
  aC (aX y7.2 (()) y6.2) λy8 =>
  aC (bL (y8.1,())) λy9 =>
  some (y9.1,0,()) else none else none else none else none else none
def VH:Code:=dM f183
abbrev aCR:Env:=KE [TG,KV,FM,rS] [BI,yY,fU]
theorem aGY:fR tP aCR:=l8 ⟨FF,IG,EC,sB,trivial⟩ ⟨A4,DV,gG,trivial⟩
def aAK(id:Nat):Option cA:=none
theorem aFO:a8 VH=[]:=by kernel_rfl
theorem aHE:∀ x,aAL tP aCR f183 (aO f183) aAK VH 180 (.int .u64) _ _ x=cP x:=by
 rintro⟨v0,v1,⟨⟩⟩
 kernel_rfl
abbrev aOC:Ent:=⟨183,_,_,cP⟩
theorem WL:Ent.OK tP aOC:=aGC bD aGY func183 (c:=VH) (by kernel_rfl) (bG:=aO f183) (lt:=aAK) (aQ aFO trivial) aHE
def eX(x:aK [.str,.str]):oK [.str]:=match x with
 | (v0,v1,()) =>
  bif !(ltI 18 (aB .i64 ((v0.size:Int)+(v1.size:Int)))) then
   aC (rI (v0,v1,())) λy1 =>
   aC (tO ((aB .u64 (y1.1*y1.2.1)),())) λy2 =>
   some (y2.1,())
  else aC (eA () (v0,()) []) λy3 =>
  aC (eA () (v1,()) y3.2) λy4 =>
  aC (dO () (y3.1,y4.1,()) y4.2) λy5 =>
  aC (bL (y5.1,())) λy6 =>
  some (y6.1,())
def UJ:Code:=dM f184
abbrev aDU:Env:=KE [KV,FM,rS] [BI,xE]
theorem aHC:fR tP aDU:=l8 ⟨IG,EC,sB,trivial⟩ ⟨A4,CN,trivial⟩
def aAT(id:Nat):Option cA:=none
theorem aFP:a8 UJ=[]:=by kernel_rfl
theorem aHK:∀ x,aAL tP aDU f184 (aO f184) aAT UJ 180 (.int .u64) _ _ x=eX x:=by
 rintro⟨v0,v1,⟨⟩⟩
 kernel_rfl
abbrev aQA:Ent:=⟨184,_,_,eX⟩
theorem aHJ:Ent.OK tP aQA:=aGC bD aHC func184 (c:=UJ) (by kernel_rfl) (bG:=aO f184) (lt:=aAT) (aQ aFP trivial) aHK
def mV(x:aK [.str,.str]):oK [.str,.str,.int .i64]:=match x with
 | (v0,v1,()) =>
  bif eqS v1 (ByteArray.mk #[48]) then
   some ((ByteArray.mk #[]),(ByteArray.mk #[]),17,())
  else aC (rI (v0,v1,())) λy1 =>
  bif y1.2.2.1 then
   bif eqI y1.2.1 0 then none else aC (tO ((aB .u64 (y1.1.tdiv y1.2.1)),())) λy2 =>
   bif eqI y1.2.1 0 then none else aC (tO ((y1.1.tmod y1.2.1),())) λy3 =>
   some (y2.1,y3.1,0,())
  else aC (eA () (v0,()) []) λy4 =>
  aC (eA () (v1,()) y4.2) λy5 =>
  aC (r9 (y4.1,y5.1,())) λy6 =>
  bif ltI y6.1 0 then
   some ((ByteArray.mk #[48]),v0,0,())
  else bif eqI (y5.1.length:Int) 1 then
   bif aF 0 y5.1.length then bif Nat.blt 0 y5.1.length then aC (dV () (y4.1,(y5.1.getD 0 0),()) y5.2) λy7 =>
   aC (bL (y7.1.1,())) λy8 =>
   aC (tO (y7.1.2.1,())) λy9 =>
   some (y8.1,y9.1,0,()) else none else none
  else aC (eP () (y4.1,y5.1,()) y5.2) λy10 =>
  aC (bL (y10.1.1,())) λy11 =>
  aC (bL (y10.1.2.1,())) λy12 =>
  some (y11.1,y12.1,0,())
def M5:Code:=dM f205
abbrev WJ:Env:=KE [KV,FM,GZ,rS] [BI,FQ,yS]
theorem aBG:fR tP WJ:=l8 ⟨IG,EC,O2,sB,trivial⟩ ⟨A4,NU,DT,trivial⟩
def T1(id:Nat):Option cA:=none
theorem Z7:a8 M5=[]:=by kernel_rfl
theorem aB5:∀ x,aAL tP WJ f205 (aO f205) T1 M5 180 (.int .u64) _ _ x=mV x:=by
 rintro⟨v0,v1,⟨⟩⟩
 kernel_rfl
abbrev aG0:Ent:=⟨205,_,_,mV⟩
theorem aCE:Ent.OK tP aG0:=aGC bD aBG func205 (c:=M5) (by kernel_rfl) (bG:=aO f205) (lt:=T1) (aQ Z7 trivial) aB5
def P8(x:aK [.str,.str]):oK [.str]:=match x with
 | (v0,v1,()) =>
  aC (rH (v0,18,())) λy1 =>
  bif y1.2.1 then
   aC (rH (v1,18,())) λy2 =>
   bif y2.2.1 then
    aC (jK ((aB .i64 (y1.1+y2.1)),())) λy3 =>
    some (y3.1,())
   else aC (cG (v0,())) λy4 =>
   aC (cG (v1,())) λy5 =>
   bif y4.1 then
    bif y5.1 then
     aC (eW (y4.2.1,y5.2.1,())) λy6 =>
     aC (aA (y4.1,y6.1,())) λy7 =>
     some (y7.1,())
    else aC (fJ (y4.2.1,y5.2.1,())) λy8 =>
    bif ltI y8.1 0 then
     aC (cP (y5.2.1,y4.2.1,())) λy9 =>
     aC (aA (y5.1,y9.1,())) λy10 =>
     some (y10.1,())
    else aC (cP (y4.2.1,y5.2.1,())) λy11 =>
    aC (aA (y4.1,y11.1,())) λy12 =>
    some (y12.1,())
   else bif y5.1 then
    aC (fJ (y4.2.1,y5.2.1,())) λy13 =>
    bif ltI y13.1 0 then
     aC (cP (y5.2.1,y4.2.1,())) λy14 =>
     aC (aA (y5.1,y14.1,())) λy15 =>
     some (y15.1,())
    else aC (cP (y4.2.1,y5.2.1,())) λy16 =>
    aC (aA (y4.1,y16.1,())) λy17 =>
    some (y17.1,())
   else aC (eW (y4.2.1,y5.2.1,())) λy18 =>
   aC (aA (y4.1,y18.1,())) λy19 =>
   some (y19.1,())
  else aC (cG (v0,())) λy20 =>
  aC (cG (v1,())) λy21 =>
  bif y20.1 then
   bif y21.1 then
    aC (eW (y20.2.1,y21.2.1,())) λy22 =>
    aC (aA (y20.1,y22.1,())) λy23 =>
    some (y23.1,())
   else aC (fJ (y20.2.1,y21.2.1,())) λy24 =>
   bif ltI y24.1 0 then
    aC (cP (y21.2.1,y20.2.1,())) λy25 =>
    aC (aA (y21.1,y25.1,())) λy26 =>
    some (y26.1,())
   else aC (cP (y20.2.1,y21.2.1,())) λy27 =>
   aC (aA (y20.1,y27.1,())) λy28 =>
   some (y28.1,())
  else bif y21.1 then
   aC (fJ (y20.2.1,y21.2.1,())) λy29 =>
   bif ltI y29.1 0 then
    aC (cP (y21.2.1,y20.2.1,())) λy30 =>
    aC (aA (y21.1,y30.1,())) λy31 =>
    some (y31.1,())
   else aC (cP (y20.2.1,y21.2.1,())) λy32 =>
   aC (aA (y20.1,y32.1,())) λy33 =>
   some (y33.1,())
  else aC (eW (y20.2.1,y21.2.1,())) λy34 =>
  aC (aA (y20.1,y34.1,())) λy35 =>
  some (y35.1,())
abbrev aII:Ent:=⟨135,_,_,P8⟩
theorem aAW:Ent.OK tP aII:=oI (aR (oV WK (oV FF (oV WL (oV EG (oV IJ (oV J6 (oV vT oW)))))))) func135 (by kernel_rfl) (by rintro⟨v0,v1,⟨⟩⟩; kernel_rfl)
def P3(x:aK [.str,.str]):oK [.str]:=match x with
 | (v0,v1,()) =>
  aC (QH (v1,())) λy1 =>
  aC (P8 (v0,y1.1,())) λy2 =>
  some (y2.1,())
abbrev aCH:Ent:=⟨206,_,_,P3⟩
theorem aAJ:Ent.OK tP aCH:=oI (aR (oV aAW (oV aA0 oW))) func206 (by kernel_rfl) (by rintro⟨v0,v1,⟨⟩⟩; kernel_rfl)
def JK(x:aK [.str,.str]):oK [.str]:=match x with
 | (v0,v1,()) =>
  aC (rH (v0,9,())) λy1 =>
  bif y1.2.1 then
   aC (rH (v1,9,())) λy2 =>
   bif y2.2.1 then
    aC (jK ((aB .i64 (y1.1*y2.1)),())) λy3 =>
    some (y3.1,())
   else aC (cG (v0,())) λy4 =>
   aC (cG (v1,())) λy5 =>
   bif y4.1 then
    bif y5.1 then
     aC (eX (y4.2.1,y5.2.1,())) λy6 =>
     aC (aA (false,y6.1,())) λy7 =>
     some (y7.1,())
    else aC (eX (y4.2.1,y5.2.1,())) λy8 =>
    aC (aA (true,y8.1,())) λy9 =>
    some (y9.1,())
   else bif y5.1 then
    aC (eX (y4.2.1,y5.2.1,())) λy10 =>
    aC (aA (true,y10.1,())) λy11 =>
    some (y11.1,())
   else aC (eX (y4.2.1,y5.2.1,())) λy12 =>
   aC (aA (false,y12.1,())) λy13 =>
   some (y13.1,())
  else aC (cG (v0,())) λy14 =>
  aC (cG (v1,())) λy15 =>
  bif y14.1 then
   bif y15.1 then
    aC (eX (y14.2.1,y15.2.1,())) λy16 =>
    aC (aA (false,y16.1,())) λy17 =>
    some (y17.1,())
   else aC (eX (y14.2.1,y15.2.1,())) λy18 =>
   aC (aA (true,y18.1,())) λy19 =>
   some (y19.1,())
  else bif y15.1 then
   aC (eX (y14.2.1,y15.2.1,())) λy20 =>
   aC (aA (true,y20.1,())) λy21 =>
   some (y21.1,())
  else aC (eX (y14.2.1,y15.2.1,())) λy22 =>
  aC (aA (false,y22.1,())) λy23 =>
  some (y23.1,())
abbrev U3:Ent:=⟨136,_,_,JK⟩
theorem R3:Ent.OK tP U3:=oI (aR (oV aHJ (oV EG (oV IJ (oV J6 (oV vT oW)))))) func136 (by kernel_rfl) (by rintro⟨v0,v1,⟨⟩⟩; kernel_rfl)
def BR(x:aK [.str,.str]):oK [.str,.str,.int .i64]:=match x with
 | (v0,v1,()) =>
  bif eqS v1 (ByteArray.mk #[48]) then
   some ((ByteArray.mk #[]),(ByteArray.mk #[]),17,())
  else aC (rH (v0,18,())) λy1 =>
  bif y1.2.1 then
   aC (rH (v1,18,())) λy2 =>
   bif y2.2.1 then
    bif eqI y2.1 0 then none else bif eqI y2.1 0 then none else bif !(eqI (y1.1.tmod y2.1) 0) then
     bif ltI (y1.1.tmod y2.1) 0 then
      bif ltI y2.1 0 then
       aC (jK ((aB .i64 (y1.1.tdiv y2.1)),())) λy3 =>
       aC (jK ((y1.1.tmod y2.1),())) λy4 =>
       some (y3.1,y4.1,0,())
      else aC (jK ((aB .i64 ((aB .i64 (y1.1.tdiv y2.1))-1)),())) λy5 =>
      aC (jK ((aB .i64 ((y1.1.tmod y2.1)+y2.1)),())) λy6 =>
      some (y5.1,y6.1,0,())
     else bif ltI y2.1 0 then
      aC (jK ((aB .i64 ((aB .i64 (y1.1.tdiv y2.1))-1)),())) λy7 =>
      aC (jK ((aB .i64 ((y1.1.tmod y2.1)+y2.1)),())) λy8 =>
      some (y7.1,y8.1,0,())
     else aC (jK ((aB .i64 (y1.1.tdiv y2.1)),())) λy9 =>
     aC (jK ((y1.1.tmod y2.1),())) λy10 =>
     some (y9.1,y10.1,0,())
    else aC (jK ((aB .i64 (y1.1.tdiv y2.1)),())) λy11 =>
    aC (jK ((y1.1.tmod y2.1),())) λy12 =>
    some (y11.1,y12.1,0,())
   else aC (cG (v0,())) λy13 =>
   aC (cG (v1,())) λy14 =>
   aC (mV (y13.2.1,y14.2.1,())) λy15 =>
   bif !(eqI y15.2.2.1 0) then
    some ((ByteArray.mk #[]),(ByteArray.mk #[]),y15.2.2.1,())
   else bif y13.1 then
    bif y14.1 then
     bif y13.1 then
      bif y14.1 then
       aC (aA (false,y15.1,())) λy16 =>
       aC (aA (y14.1,y15.2.1,())) λy17 =>
       some (y16.1,y17.1,0,())
      else aC (aA (true,y15.1,())) λy18 =>
      aC (aA (y14.1,y15.2.1,())) λy19 =>
      some (y18.1,y19.1,0,())
     else bif y14.1 then
      aC (aA (true,y15.1,())) λy20 =>
      aC (aA (y14.1,y15.2.1,())) λy21 =>
      some (y20.1,y21.1,0,())
     else aC (aA (false,y15.1,())) λy22 =>
     aC (aA (y14.1,y15.2.1,())) λy23 =>
     some (y22.1,y23.1,0,())
    else bif !(eqS y15.2.1 (ByteArray.mk #[48])) then
     aC (eW (y15.1,(ByteArray.mk #[49]),())) λy24 =>
     aC (cP (y14.2.1,y15.2.1,())) λy25 =>
     bif y13.1 then
      bif y14.1 then
       aC (aA (false,y24.1,())) λy26 =>
       aC (aA (y14.1,y25.1,())) λy27 =>
       some (y26.1,y27.1,0,())
      else aC (aA (true,y24.1,())) λy28 =>
      aC (aA (y14.1,y25.1,())) λy29 =>
      some (y28.1,y29.1,0,())
     else bif y14.1 then
      aC (aA (true,y24.1,())) λy30 =>
      aC (aA (y14.1,y25.1,())) λy31 =>
      some (y30.1,y31.1,0,())
     else aC (aA (false,y24.1,())) λy32 =>
     aC (aA (y14.1,y25.1,())) λy33 =>
     some (y32.1,y33.1,0,())
    else bif y13.1 then
     bif y14.1 then
      aC (aA (false,y15.1,())) λy34 =>
      aC (aA (y14.1,y15.2.1,())) λy35 =>
      some (y34.1,y35.1,0,())
     else aC (aA (true,y15.1,())) λy36 =>
     aC (aA (y14.1,y15.2.1,())) λy37 =>
     some (y36.1,y37.1,0,())
    else bif y14.1 then
     aC (aA (true,y15.1,())) λy38 =>
     aC (aA (y14.1,y15.2.1,())) λy39 =>
     some (y38.1,y39.1,0,())
    else aC (aA (false,y15.1,())) λy40 =>
    aC (aA (y14.1,y15.2.1,())) λy41 =>
    some (y40.1,y41.1,0,())
   else bif y14.1 then
    bif !(eqS y15.2.1 (ByteArray.mk #[48])) then
     aC (eW (y15.1,(ByteArray.mk #[49]),())) λy42 =>
     aC (cP (y14.2.1,y15.2.1,())) λy43 =>
     bif y13.1 then
      bif y14.1 then
       aC (aA (false,y42.1,())) λy44 =>
       aC (aA (y14.1,y43.1,())) λy45 =>
       some (y44.1,y45.1,0,())
      else aC (aA (true,y42.1,())) λy46 =>
      aC (aA (y14.1,y43.1,())) λy47 =>
      some (y46.1,y47.1,0,())
     else bif y14.1 then
      aC (aA (true,y42.1,())) λy48 =>
      aC (aA (y14.1,y43.1,())) λy49 =>
      some (y48.1,y49.1,0,())
     else aC (aA (false,y42.1,())) λy50 =>
     aC (aA (y14.1,y43.1,())) λy51 =>
     some (y50.1,y51.1,0,())
    else bif y13.1 then
     bif y14.1 then
      aC (aA (false,y15.1,())) λy52 =>
      aC (aA (y14.1,y15.2.1,())) λy53 =>
      some (y52.1,y53.1,0,())
     else aC (aA (true,y15.1,())) λy54 =>
     aC (aA (y14.1,y15.2.1,())) λy55 =>
     some (y54.1,y55.1,0,())
    else bif y14.1 then
     aC (aA (true,y15.1,())) λy56 =>
     aC (aA (y14.1,y15.2.1,())) λy57 =>
     some (y56.1,y57.1,0,())
    else aC (aA (false,y15.1,())) λy58 =>
    aC (aA (y14.1,y15.2.1,())) λy59 =>
    some (y58.1,y59.1,0,())
   else bif y13.1 then
    bif y14.1 then
     aC (aA (false,y15.1,())) λy60 =>
     aC (aA (y14.1,y15.2.1,())) λy61 =>
     some (y60.1,y61.1,0,())
    else aC (aA (true,y15.1,())) λy62 =>
    aC (aA (y14.1,y15.2.1,())) λy63 =>
    some (y62.1,y63.1,0,())
   else bif y14.1 then
    aC (aA (true,y15.1,())) λy64 =>
    aC (aA (y14.1,y15.2.1,())) λy65 =>
    some (y64.1,y65.1,0,())
   else aC (aA (false,y15.1,())) λy66 =>
   aC (aA (y14.1,y15.2.1,())) λy67 =>
   some (y66.1,y67.1,0,())
  else aC (cG (v0,())) λy68 =>
  aC (cG (v1,())) λy69 =>
  aC (mV (y68.2.1,y69.2.1,())) λy70 =>
  bif !(eqI y70.2.2.1 0) then
   some ((ByteArray.mk #[]),(ByteArray.mk #[]),y70.2.2.1,())
  else bif y68.1 then
   bif y69.1 then
    bif y68.1 then
     bif y69.1 then
      aC (aA (false,y70.1,())) λy71 =>
      aC (aA (y69.1,y70.2.1,())) λy72 =>
      some (y71.1,y72.1,0,())
     else aC (aA (true,y70.1,())) λy73 =>
     aC (aA (y69.1,y70.2.1,())) λy74 =>
     some (y73.1,y74.1,0,())
    else bif y69.1 then
     aC (aA (true,y70.1,())) λy75 =>
     aC (aA (y69.1,y70.2.1,())) λy76 =>
     some (y75.1,y76.1,0,())
    else aC (aA (false,y70.1,())) λy77 =>
    aC (aA (y69.1,y70.2.1,())) λy78 =>
    some (y77.1,y78.1,0,())
   else bif !(eqS y70.2.1 (ByteArray.mk #[48])) then
    aC (eW (y70.1,(ByteArray.mk #[49]),())) λy79 =>
    aC (cP (y69.2.1,y70.2.1,())) λy80 =>
    bif y68.1 then
     bif y69.1 then
      aC (aA (false,y79.1,())) λy81 =>
      aC (aA (y69.1,y80.1,())) λy82 =>
      some (y81.1,y82.1,0,())
     else aC (aA (true,y79.1,())) λy83 =>
     aC (aA (y69.1,y80.1,())) λy84 =>
     some (y83.1,y84.1,0,())
    else bif y69.1 then
     aC (aA (true,y79.1,())) λy85 =>
     aC (aA (y69.1,y80.1,())) λy86 =>
     some (y85.1,y86.1,0,())
    else aC (aA (false,y79.1,())) λy87 =>
    aC (aA (y69.1,y80.1,())) λy88 =>
    some (y87.1,y88.1,0,())
   else bif y68.1 then
    bif y69.1 then
     aC (aA (false,y70.1,())) λy89 =>
     aC (aA (y69.1,y70.2.1,())) λy90 =>
     some (y89.1,y90.1,0,())
    else aC (aA (true,y70.1,())) λy91 =>
    aC (aA (y69.1,y70.2.1,())) λy92 =>
    some (y91.1,y92.1,0,())
   else bif y69.1 then
    aC (aA (true,y70.1,())) λy93 =>
    aC (aA (y69.1,y70.2.1,())) λy94 =>
    some (y93.1,y94.1,0,())
   else aC (aA (false,y70.1,())) λy95 =>
   aC (aA (y69.1,y70.2.1,())) λy96 =>
   some (y95.1,y96.1,0,())
  else bif y69.1 then
   bif !(eqS y70.2.1 (ByteArray.mk #[48])) then
    aC (eW (y70.1,(ByteArray.mk #[49]),())) λy97 =>
    aC (cP (y69.2.1,y70.2.1,())) λy98 =>
    bif y68.1 then
     bif y69.1 then
      aC (aA (false,y97.1,())) λy99 =>
      aC (aA (y69.1,y98.1,())) λy100 =>
      some (y99.1,y100.1,0,())
     else aC (aA (true,y97.1,())) λy101 =>
     aC (aA (y69.1,y98.1,())) λy102 =>
     some (y101.1,y102.1,0,())
    else bif y69.1 then
     aC (aA (true,y97.1,())) λy103 =>
     aC (aA (y69.1,y98.1,())) λy104 =>
     some (y103.1,y104.1,0,())
    else aC (aA (false,y97.1,())) λy105 =>
    aC (aA (y69.1,y98.1,())) λy106 =>
    some (y105.1,y106.1,0,())
   else bif y68.1 then
    bif y69.1 then
     aC (aA (false,y70.1,())) λy107 =>
     aC (aA (y69.1,y70.2.1,())) λy108 =>
     some (y107.1,y108.1,0,())
    else aC (aA (true,y70.1,())) λy109 =>
    aC (aA (y69.1,y70.2.1,())) λy110 =>
    some (y109.1,y110.1,0,())
   else bif y69.1 then
    aC (aA (true,y70.1,())) λy111 =>
    aC (aA (y69.1,y70.2.1,())) λy112 =>
    some (y111.1,y112.1,0,())
   else aC (aA (false,y70.1,())) λy113 =>
   aC (aA (y69.1,y70.2.1,())) λy114 =>
   some (y113.1,y114.1,0,())
  else bif y68.1 then
   bif y69.1 then
    aC (aA (false,y70.1,())) λy115 =>
    aC (aA (y69.1,y70.2.1,())) λy116 =>
    some (y115.1,y116.1,0,())
   else aC (aA (true,y70.1,())) λy117 =>
   aC (aA (y69.1,y70.2.1,())) λy118 =>
   some (y117.1,y118.1,0,())
  else bif y69.1 then
   aC (aA (true,y70.1,())) λy119 =>
   aC (aA (y69.1,y70.2.1,())) λy120 =>
   some (y119.1,y120.1,0,())
  else aC (aA (false,y70.1,())) λy121 =>
  aC (aA (y69.1,y70.2.1,())) λy122 =>
  some (y121.1,y122.1,0,())
abbrev R2:Ent:=⟨165,_,_,BR⟩
theorem T0:Ent.OK tP R2:=oI (aR (oV WK (oV aCE (oV WL (oV EG (oV IJ (oV J6 (oV vT oW)))))))) func165 (by kernel_rfl) (by rintro⟨v0,v1,⟨⟩⟩; kernel_rfl)
end Go.PM
namespace Go.PM
open Go Go.RowKit Go.Proofs Tryz
set_option maxHeartbeats 4000000
abbrev pW:List (Nat×Kd):=[(3,.own 110 .str),(9,.list TyE),(10,.int .i64),(11,.int .i64)]
abbrev sW:List (Ex×List (Nat×Kd)):=[(.exit 0,[(3,.own 110 .str)])]
def qL(x:Shape.den pW):oS pW sW:=match x with
 | (v3,v9,v10,v11,()) =>
  bif ltI v11 v10 then
   bif aF v11 v9.length then aC (jK ((v9.getD v11.toNat 0),())) λy2 =>
   bif Nat.ble [y2.1].length 1048576 then bif Nat.ble v3.length 1048576 then some (.inl ((v3++[y2.1]),v9,v10,(aB .i64 (v11+1)),())) else none else none else none
  else some (.inr ((v3,())))
def u9(x:Shape.den pW):oX sW:=bF qL (2^64) x
def n8(x:aK [.list TyE]):Option (List ByteArray):=match x with
 | (v0,()) =>
  bif !(ltI (v0.length:Int) 0) then bif !(ltI 1048576 (v0.length:Int)) then aC (u9 ((List.replicate 0 ByteArray.empty),v0,(v0.length:Int),0,())) λz3 =>
  some z3.1 else none else none
def ER:Code:=dM f119
abbrev JL:Env:=JB [aE9]
theorem NB:fR tP JL:=aR ⟨EG,trivial⟩
def GO:Code:=iD ER 0
def II(id:Nat):Option cA:=bif Nat.beq id 3 then some ⟨pW,sW,u9⟩ else none
theorem UL:∀ x,jU tP JL 22 (aO f119) II GO pW sW x=qL x:=by
 rintro⟨v3,v9,v10,v11,⟨⟩⟩
 kernel_rfl
theorem W5:eS tP 22 GO ⟨pW,sW,u9⟩:=fF NB.callee bD.mixed _ (aQ (l:=[]) (by kernel_rfl) trivial) UL
theorem YH:a8 ER=[GO]:=by kernel_rfl
theorem aAE:∀ x,aMI tP JL f119 (aO f119) II ER [.list TyE] 2 110 .str x=n8 x:=by
 rintro⟨v0,⟨⟩⟩
 kernel_rfl
theorem aC2:aKH tP 119 [.list TyE] 110 .str n8:=aH5 bD NB func119 (c:=ER) (by kernel_rfl) (bG:=aO f119) (lt:=II) (t:=2) (by kernel_rfl) (aQ YH ⟨fD (i:=3) (by kernel_rfl) rfl W5,trivial⟩) aAE
abbrev EJ:Shr:=(119,aXO [.list TyE] 110 .str n8)
theorem E5:uT tP EJ:=aH0 aC2
abbrev kM:List (Nat×Kd):=[(0,.hnd 1),(1,.str),(10,.hnd 1),(11,.int .i64),(12,.int .i64),(100000,.ar 110 .str)]
abbrev nR:List (Ex×List (Nat×Kd)):=[(.exit 0,[(100000,.ar 110 .str)])]
def lS(x:Shape.den kM):oS kM nR:=match x with
 | (v0,v1,v10,v11,v12,u00,()) =>
  bif ltI v12 v11 then
   bif aF v12 v10.2.2 then bif Nat.blt ((v10.2.1+v12.toNat)*1) (cS u00 v10.1) then bif aF v12 v0.2.2 then bif Nat.blt ((v0.2.1+v12.toNat)*1) (cS u00 v0.1) then aC (JK (v1,(dK u00 v10.1 ((v10.2.1+v12.toNat)*1) ByteArray.empty),())) λy3 =>
   aC (P3 ((dK u00 v0.1 ((v0.2.1+v12.toNat)*1) ByteArray.empty),y3.1,())) λy4 =>
   bif aF v12 v0.2.2 then bif Nat.blt ((v0.2.1+v12.toNat)*1) (cS u00 v0.1) then some (.inl ((v0.1,v0.2.1,v0.2.2),v1,(v10.1,v10.2.1,v10.2.2),v11,(aB .i64 (v12+1)),(vJ u00 v0.1 ((v0.2.1+v12.toNat)*1) y4.1),())) else none else none else none else none else none else none
  else some (.inr ((u00,())))
def p7(x:Shape.den kM):oX nR:=bF lS (2^64) x
def fO(u0:Unit)(x:aK [.hnd 1,.str,.hnd 1])(A:List (List ByteArray)):Option ((aK [])×List (List ByteArray)):=match x with
 | (v0,v1,v2,()) =>
  bif eqS v1 (ByteArray.mk #[48]) then
   some ((()),A)
  else aC (p7 ((v0.1,v0.2.1,v0.2.2),v1,(v2.1,v2.2.1,v2.2.2),((v2.2.2:Nat):Int),0,A,())) λz5 =>
  some ((()),z5.1)
def wO:Code:=dM f166
abbrev C3:Env:=JB [U3,aCH]
theorem G6:fR tP C3:=aR ⟨R3,aAJ,trivial⟩
def AF:Code:=iD wO 0
def BV(id:Nat):Option cA:=bif Nat.beq id 2 then some ⟨kM,nR,p7⟩ else none
theorem P1:∀ x,jU tP C3 29 (aO f166) BV AF kM nR x=lS x:=by
 rintro⟨v0,v1,v10,v11,v12,u00,⟨⟩⟩
 kernel_rfl
theorem QV:eS tP 29 AF ⟨kM,nR,p7⟩:=fF G6.callee bD.mixed _ (aQ (l:=[]) (by kernel_rfl) trivial) P1
theorem SM:a8 wO=[AF]:=by kernel_rfl
theorem TH:∀ l x A,EV tP C3 f166 (aO f166) BV wO 110 .str .none [.hnd 1,.str,.hnd 1] (.data []) l x A=fO l x A:=by
 rintro u0 ⟨v0,v1,v2,⟨⟩⟩ A
 kernel_rfl
theorem W8:LA tP 166 110 .str .none [.hnd 1,.str,.hnd 1] (.data []) fO:=zG bD G6 func166 (c:=wO) (by kernel_rfl) (bG:=aO f166) (lt:=BV) (by rfl) (aQ SM ⟨fD (i:=2) (by kernel_rfl) rfl QV,trivial⟩) TH
abbrev KR:Shr:=(166,QL 0 (arH 110 .str .none [.hnd 1,.str,.hnd 1] (.data []) fO))
theorem TS:uT tP KR:=rK (g:=166) (f:=arH 110 .str .none [.hnd 1,.str,.hnd 1] (.data []) fO) (DA W8)
abbrev kK:List (Nat×Kd):=[(0,.hnd 1),(1,.str),(10,.list .str),(11,.int .i64),(12,.int .i64),(100000,.ar 110 .str)]
abbrev nM:List (Ex×List (Nat×Kd)):=[(.exit 0,[(100000,.ar 110 .str)])]
def EW(x:Shape.den kK):oS kK nM:=match x with
 | (v0,v1,v10,v11,v12,u00,()) =>
  bif ltI v12 v11 then
   bif aF v12 v10.length then bif aF v12 v0.2.2 then bif Nat.blt ((v0.2.1+v12.toNat)*1) (cS u00 v0.1) then aC (JK (v1,(v10.getD v12.toNat ByteArray.empty),())) λy3 =>
   aC (P3 ((dK u00 v0.1 ((v0.2.1+v12.toNat)*1) ByteArray.empty),y3.1,())) λy4 =>
   bif aF v12 v0.2.2 then bif Nat.blt ((v0.2.1+v12.toNat)*1) (cS u00 v0.1) then some (.inl ((v0.1,v0.2.1,v0.2.2),v1,v10,v11,(aB .i64 (v12+1)),(vJ u00 v0.1 ((v0.2.1+v12.toNat)*1) y4.1),())) else none else none else none else none else none
  else some (.inr ((u00,())))
def vI(x:Shape.den kK):oX nM:=bF EW (2^64) x
def rT(u0:Unit)(x:aK [.hnd 1,.str,.list .str])(A:List (List ByteArray)):Option ((aK [])×List (List ByteArray)):=match x with
 | (v0,v1,v2,()) =>
  bif eqS v1 (ByteArray.mk #[48]) then
   some ((()),A)
  else aC (vI ((v0.1,v0.2.1,v0.2.2),v1,v2,(v2.length:Int),0,A,())) λz5 =>
  some ((()),z5.1)
def vZ:Code:=dM f166
abbrev DI:Env:=JB [U3,aCH]
theorem HJ:fR tP DI:=aR ⟨R3,aAJ,trivial⟩
def AZ:Code:=iD vZ 0
def CB(id:Nat):Option cA:=bif Nat.beq id 2 then some ⟨kK,nM,vI⟩ else none
theorem PH:∀ x,jU tP DI 29 (aO f166) CB AZ kK nM x=EW x:=by
 rintro⟨v0,v1,v10,v11,v12,u00,⟨⟩⟩
 kernel_rfl
theorem QW:eS tP 29 AZ ⟨kK,nM,vI⟩:=fF HJ.callee bD.mixed _ (aQ (l:=[]) (by kernel_rfl) trivial) PH
theorem S2:a8 vZ=[AZ]:=by kernel_rfl
theorem TO:∀ l x A,EV tP DI f166 (aO f166) CB vZ 110 .str .none [.hnd 1,.str,.list .str] (.data []) l x A=rT l x A:=by
 rintro u0 ⟨v0,v1,v2,⟨⟩⟩ A
 kernel_rfl
theorem XJ:LA tP 166 110 .str .none [.hnd 1,.str,.list .str] (.data []) rT:=zG bD HJ func166 (c:=vZ) (by kernel_rfl) (bG:=aO f166) (lt:=CB) (by rfl) (aQ S2 ⟨fD (i:=2) (by kernel_rfl) rfl QW,trivial⟩) TO
theorem U8:aRB tP 166 110 .str [.str,.list .str] (SY rT):=aET XJ (by rfl) (by rfl)
abbrev I9:Shr:=(166,QL 1 (aX6 110 .str [.str,.list .str] (SY rT)))
theorem SL:uT tP I9:=rK (aOH U8)
abbrev iP:List (Nat×Kd):=[(0,.hnd 1),(4,.hnd 1),(5,.int .i64),(6,.int .i64),(100000,.ar 110 .str)]
abbrev lU:List (Ex×List (Nat×Kd)):=[(.exit 0,[(100000,.ar 110 .str)])]
def kG(x:Shape.den iP):oS iP lU:=match x with
 | (v0,v4,v5,v6,u00,()) =>
  bif ltI v6 v5 then
   bif aF v6 v4.2.2 then bif Nat.blt ((v4.2.1+v6.toNat)*1) (cS u00 v4.1) then aC (QH ((dK u00 v4.1 ((v4.2.1+v6.toNat)*1) ByteArray.empty),())) λy2 =>
   bif aF v6 v0.2.2 then bif Nat.blt ((v0.2.1+v6.toNat)*1) (cS u00 v0.1) then some (.inl ((v0.1,v0.2.1,v0.2.2),(v4.1,v4.2.1,v4.2.2),v5,(aB .i64 (v6+1)),(vJ u00 v0.1 ((v0.2.1+v6.toNat)*1) y2.1),())) else none else none else none else none
  else some (.inr ((u00,())))
def o6(x:Shape.den iP):oX lU:=bF kG (2^64) x
def eJ(u0:Unit)(x:aK [.hnd 1])(A:List (List ByteArray)):Option ((aK [])×List (List ByteArray)):=match x with
 | (v0,()) =>
  aC (o6 ((v0.1,v0.2.1,v0.2.2),(v0.1,v0.2.1,v0.2.2),((v0.2.2:Nat):Int),0,A,())) λz3 =>
  some ((()),z3.1)
def tE:Code:=dM f168
abbrev AV:Env:=JB [aIZ]
theorem EZ:fR tP AV:=aR ⟨aA0,trivial⟩
def xT:Code:=iD tE 0
def yP(id:Nat):Option cA:=bif Nat.beq id 1 then some ⟨iP,lU,o6⟩ else none
theorem ML:∀ x,jU tP AV 17 (aO f168) yP xT iP lU x=kG x:=by
 rintro⟨v0,v4,v5,v6,u00,⟨⟩⟩
 kernel_rfl
theorem OH:eS tP 17 xT ⟨iP,lU,o6⟩:=fF EZ.callee bD.mixed _ (aQ (l:=[]) (by kernel_rfl) trivial) ML
theorem PF:a8 tE=[xT]:=by kernel_rfl
theorem QM:∀ l x A,EV tP AV f168 (aO f168) yP tE 110 .str .none [.hnd 1] (.data []) l x A=eJ l x A:=by
 rintro u0 ⟨v0,⟨⟩⟩ A
 kernel_rfl
theorem T6:LA tP 168 110 .str .none [.hnd 1] (.data []) eJ:=zG bD EZ func168 (c:=tE) (by kernel_rfl) (bG:=aO f168) (lt:=yP) (by rfl) (aQ PF ⟨fD (i:=1) (by kernel_rfl) rfl OH,trivial⟩) QM
abbrev IF:Shr:=(168,QL 0 (arH 110 .str .none [.hnd 1] (.data []) eJ))
theorem Q7:uT tP IF:=rK (g:=168) (f:=arH 110 .str .none [.hnd 1] (.data []) eJ) (DA T6)
def wL(x:aK [.str]):oK [.bool]:=match x with
 | (v0,()) =>
  some (!(eqS v0 (ByteArray.mk #[48])),())
abbrev KU:Ent:=⟨209,_,_,wL⟩
theorem G9:Ent.OK tP KU:=oI (aR oW) func209 (by kernel_rfl) (by rintro⟨v0,⟨⟩⟩; kernel_rfl)
abbrev iY:List (Nat×Kd):=[(0,.list .str),(1,.fn 209),(7,.int .i64),(8,.int .i64)]
abbrev pJ:List (Ex×List (Nat×Kd)):=[(.ret,[(4,.int .i64)]),(.exit 0,[])]
def zL(x:Shape.den iY):oS iY pJ:=match x with
 | (v0,v1,v7,v8,()) =>
  bif ltI v8 v7 then
   bif aF v8 v0.length then aC (wL ((v0.getD v8.toNat ByteArray.empty),())) λy2 =>
   bif y2.1 then
    some (.inr (.inl (v8,())))
   else some (.inl (v0,(),v7,(aB .i64 (v8+1)),())) else none
  else some (.inr (.inr ((()))))
def nV(x:Shape.den iY):oX pJ:=bF zL (2^64) x
def qZ(x:aK [.list .str,.fn 209]):oK [.int .i64]:=match x with
 | (v0,v1,()) =>
  aC (nV (v0,(),(v0.length:Int),0,())) λz3 =>
  vB z3 (λa4=>some (a4.1,())) λb5 =>
  some ((-1),())
abbrev CT:Ent:=⟨208,_,_,qZ⟩
theorem AE:Ent.OK tP CT:=oU (aR (oV G9 oW)) func208 2 (lp:=nV) rfl (by kernel_rfl) (by rintro⟨v0,v1,v7,v8,⟨⟩⟩; kernel_rfl) (by rintro⟨v0,v1,⟨⟩⟩; kernel_rfl)
def A6(x:aK [.list .str]):oK [.int .i64]:=match x with
 | (v0,()) =>
  aC (qZ (v0,(),())) λy1 =>
  some (y1.1,())
abbrev O5:Ent:=⟨169,_,_,A6⟩
theorem I4:Ent.OK tP O5:=oI (aR (oV AE oW)) func169 (by kernel_rfl) (by rintro⟨v0,⟨⟩⟩; kernel_rfl)
abbrev bW:List (Nat×Kd):=[(0,.hnd 1),(1,.fn 209),(7,.int .i64),(8,.int .i64),(100000,.ar 110 .str)]
abbrev cR:List (Ex×List (Nat×Kd)):=[(.ret,[(4,.int .i64),(100000,.ar 110 .str)]),(.exit 0,[(100000,.ar 110 .str)])]
def bC(x:Shape.den bW):oS bW cR:=match x with
 | (v0,v1,v7,v8,u00,()) =>
  bif ltI v8 v7 then
   bif aF v8 v0.2.2 then bif Nat.blt ((v0.2.1+v8.toNat)*1) (cS u00 v0.1) then aC (wL ((dK u00 v0.1 ((v0.2.1+v8.toNat)*1) ByteArray.empty),())) λy2 =>
   bif y2.1 then
    some (.inr (.inl (v8,u00,())))
   else some (.inl ((v0.1,v0.2.1,v0.2.2),(),v7,(aB .i64 (v8+1)),u00,())) else none else none
  else some (.inr (.inr ((u00,()))))
def cK(x:Shape.den bW):oX cR:=bF bC (2^64) x
def bO(u0:Unit)(x:aK [.hnd 1,.fn 209])(A:List (List ByteArray)):Option ((aK [.int .i64])×List (List ByteArray)):=match x with
 | (v0,v1,()) =>
  aC (cK ((v0.1,v0.2.1,v0.2.2),(),((v0.2.2:Nat):Int),0,A,())) λz3 =>
  vB z3 (λa4=>some ((a4.1,()),a4.2.1)) λb5 =>
  some (((-1),()),b5.1)
def eV:Code:=dM f208
abbrev jW:Env:=JB [KU]
theorem pC:fR tP jW:=aR ⟨G9,trivial⟩
def iU:Code:=iD eV 0
def jG(id:Nat):Option cA:=bif Nat.beq id 2 then some ⟨bW,cR,cK⟩ else none
theorem xB:∀ x,jU tP jW 19 (aO f208) jG iU bW cR x=bC x:=by
 rintro⟨v0,v1,v7,v8,u00,⟨⟩⟩
 kernel_rfl
theorem yA:eS tP 19 iU ⟨bW,cR,cK⟩:=fF pC.callee bD.mixed _ (aQ (l:=[]) (by kernel_rfl) trivial) xB
theorem zM:a8 eV=[iU]:=by kernel_rfl
theorem zO:∀ l x A,EV tP jW f208 (aO f208) jG eV 110 .str .none [.hnd 1,.fn 209] (.data [.int .i64]) l x A=bO l x A:=by
 rintro u0 ⟨v0,v1,⟨⟩⟩ A
 kernel_rfl
theorem BH:LA tP 208 110 .str .none [.hnd 1,.fn 209] (.data [.int .i64]) bO:=zG bD pC func208 (c:=eV) (by kernel_rfl) (bG:=aO f208) (lt:=jG) (by rfl) (aQ zM ⟨fD (i:=2) (by kernel_rfl) rfl yA,trivial⟩) zO
abbrev qE:Shr:=(208,QL 0 (arH 110 .str .none [.hnd 1,.fn 209] (.data [.int .i64]) bO))
theorem zS:uT tP qE:=rK (g:=208) (f:=arH 110 .str .none [.hnd 1,.fn 209] (.data [.int .i64]) bO) (DA BH)
def iN(u0:Unit) (x:aK [.hnd 1]) (A:List (List ByteArray)):Option ((aK [.int .i64])×List (List ByteArray)):=match x with
 | (v0,()) =>
  aC (bO () ((v0.1,v0.2.1,v0.2.2),(),()) A) λy1 =>
  some ((y1.1.1,()),y1.2)
def D2:Code:=dM f169
abbrev LS:Env:=KE [] [qE]
theorem UE:fR tP LS:=l8 trivial ⟨zS,trivial⟩
def JA(id:Nat):Option cA:=none
theorem SJ:a8 D2=[]:=by kernel_rfl
theorem TI:∀ l x A,EV tP LS f169 (aO f169) JA D2 110 .str .none [.hnd 1] (.data [.int .i64]) l x A=iN l x A:=by
 rintro u0 ⟨v0,⟨⟩⟩ A
 kernel_rfl
theorem XM:LA tP 169 110 .str .none [.hnd 1] (.data [.int .i64]) iN:=zG bD UE func169 (c:=D2) (by kernel_rfl) (bG:=aO f169) (lt:=JA) (by rfl) (aQ SJ trivial) TI
abbrev LH:Shr:=(169,QL 0 (arH 110 .str .none [.hnd 1] (.data [.int .i64]) iN))
theorem TK:uT tP LH:=rK (g:=169) (f:=arH 110 .str .none [.hnd 1] (.data [.int .i64]) iN) (DA XM)
abbrev jO:List (Nat×Kd):=[(4,.own 3 TyE),(12,.hnd 1),(13,.int .i64),(14,.int .i64),(100000,.ar 110 .str)]
abbrev mP:List (Ex×List (Nat×Kd)):=[(.ret,[(2,.list TyE),(3,.int .i64),(100000,.ar 110 .str)]),(.exit 0,[(4,.own 3 TyE),(100000,.ar 110 .str)])]
def gV(x:Shape.den jO):oS jO mP:=match x with
 | (v4,v12,v13,v14,u00,()) =>
  bif ltI v14 v13 then
   bif aF v14 v12.2.2 then bif Nat.blt ((v12.2.1+v14.toNat)*1) (cS u00 v12.1) then aC (ED ((dK u00 v12.1 ((v12.2.1+v14.toNat)*1) ByteArray.empty),())) λy2 =>
   bif y2.2.1 then
    bif ltI 1000000000 y2.1 then
     some (.inr (.inl ([],4,u00,())))
    else bif ltI y2.1 (-1000000000) then
     some (.inr (.inl ([],4,u00,())))
    else bif Nat.ble [y2.1].length 1048576 then bif Nat.ble v4.length 1048576 then some (.inl ((v4++[y2.1]),(v12.1,v12.2.1,v12.2.2),v13,(aB .i64 (v14+1)),u00,())) else none else none
   else some (.inr (.inl ([],4,u00,()))) else none else none
  else some (.inr (.inr ((v4,u00,()))))
def pS(x:Shape.den jO):oX mP:=bF gV (2^64) x
def jV(u0:Unit)(x:aK [.hnd 1])(A:List (List ByteArray)):Option ((aK [.list TyE,.int .i64])×List (List ByteArray)):=match x with
 | (v0,()) =>
  bif !(ltI ((v0.2.2:Nat):Int) 0) then bif !(ltI 1048576 ((v0.2.2:Nat):Int)) then aC (pS ((List.replicate 0 0),(v0.1,v0.2.1,v0.2.2),((v0.2.2:Nat):Int),0,A,())) λz3 =>
  vB z3 (λa4=>some ((a4.1,a4.2.1,()),a4.2.2.1)) λb5 =>
  some ((b5.1,0,()),b5.2.1) else none else none
def u7:Code:=dM f170
abbrev B2:Env:=JB [aDT]
theorem FI:fR tP B2:=aR ⟨aHN,trivial⟩
def zC:Code:=iD u7 0
def BA(id:Nat):Option cA:=bif Nat.beq id 3 then some ⟨jO,mP,pS⟩ else none
theorem N8:∀ x,jU tP B2 39 (aO f170) BA zC jO mP x=gV x:=by
 rintro⟨v4,v12,v13,v14,u00,⟨⟩⟩
 kernel_rfl
theorem PL:eS tP 39 zC ⟨jO,mP,pS⟩:=fF FI.callee bD.mixed _ (aQ (l:=[]) (by kernel_rfl) trivial) N8
theorem Q6:a8 u7=[zC]:=by kernel_rfl
theorem SU:∀ l x A,EV tP B2 f170 (aO f170) BA u7 110 .str .none [.hnd 1] (.data [.list TyE,.int .i64]) l x A=jV l x A:=by
 rintro u0 ⟨v0,⟨⟩⟩ A
 kernel_rfl
theorem VZ:LA tP 170 110 .str .none [.hnd 1] (.data [.list TyE,.int .i64]) jV:=zG bD FI func170 (c:=u7) (by kernel_rfl) (bG:=aO f170) (lt:=BA) (by rfl) (aQ Q6 ⟨fD (i:=3) (by kernel_rfl) rfl PL,trivial⟩) SU
abbrev I3:Shr:=(170,QL 0 (arH 110 .str .none [.hnd 1] (.data [.list TyE,.int .i64]) jV))
theorem SV:uT tP I3:=rK (g:=170) (f:=arH 110 .str .none [.hnd 1] (.data [.list TyE,.int .i64]) jV) (DA VZ)
abbrev lM:List (Nat×Kd):=[(3,.own 148 (.hnd 1)),(6,.list TyD),(7,.int .i64),(8,.int .i64),(100000,.ar 110 .str)]
abbrev pF:List (Ex×List (Nat×Kd)):=[(.exit 0,[(3,.own 148 (.hnd 1)),(100000,.ar 110 .str)])]
def dQ(x:Shape.den lM):oS lM pF:=match x with
 | (v3,v6,v7,v8,u00,()) =>
  bif ltI v8 v7 then
   bif aF v8 v6.length then aC (n8 ((v6.getD v8.toNat []),())) λy2 =>
   bif Nat.ble [(u00.length,0,y2.length)].length 1048576 then bif Nat.ble v3.length 1048576 then some (.inl ((v3++[(u00.length,0,y2.length)]),v6,v7,(aB .i64 (v8+1)),(u00++[y2]),())) else none else none else none
  else some (.inr ((v3,u00,())))
def mM(x:Shape.den lM):oX pF:=bF dQ (2^64) x
def cL(u0:Unit)(x:aK [.list TyD])(A:List (List ByteArray)):Option ((List (Nat×Nat×Nat))×List (List ByteArray)):=match x with
 | (v0,()) =>
  aC (mM ([],v0,(v0.length:Int),0,A,())) λz3 =>
  some (z3.1,z3.2.1)
def yF:Code:=dM f129
abbrev E8:Env:=KE [] [EJ]
theorem IP:fR tP E8:=l8 trivial ⟨E5,trivial⟩
def CC:Code:=iD yF 0
def DQ(id:Nat):Option cA:=bif Nat.beq id 3 then some ⟨lM,pF,mM⟩ else none
theorem QR:∀ x,jU tP E8 19 (aO f129) DQ CC lM pF x=dQ x:=by
 rintro⟨v3,v6,v7,v8,u00,⟨⟩⟩
 kernel_rfl
theorem SG:eS tP 19 CC ⟨lM,pF,mM⟩:=fF IP.callee bD.mixed _ (aQ (l:=[]) (by kernel_rfl) trivial) QR
theorem UF:a8 yF=[CC]:=by kernel_rfl
theorem V4:∀ l x A,EV tP E8 f129 (aO f129) DQ yF 110 .str .none [.list TyD] (.own 148 (.hnd 1)) l x A=cL l x A:=by
 rintro u0 ⟨v0,⟨⟩⟩ A
 kernel_rfl
theorem YZ:LA tP 129 110 .str .none [.list TyD] (.own 148 (.hnd 1)) cL:=zG bD IP func129 (c:=yF) (by kernel_rfl) (bG:=aO f129) (lt:=DQ) (by rfl) (aQ UF ⟨fD (i:=3) (by kernel_rfl) rfl SG,trivial⟩) V4
abbrev sU:Shr:=(129,QL 0 (arH 110 .str .none [.list TyD] (.own 148 (.hnd 1)) cL))
theorem tD:uT tP sU:=rK (g:=129) (f:=arH 110 .str .none [.list TyD] (.own 148 (.hnd 1)) cL) (DA YZ)
abbrev gY:List (Nat×Kd):=[(0,.own 148 (.hnd 1)),(1,.int .i64),(5,.int .i64),(6,.int .i64),(7,.int .i64),(8,.int .i64),(100000,.ar 110 .str)]
abbrev lA:List (Ex×List (Nat×Kd)):=[(.exit 4,[(0,.own 148 (.hnd 1)),(1,.int .i64),(5,.int .i64),(6,.int .i64),(7,.int .i64),(100000,.ar 110 .str)])]
def cY(x:Shape.den gY):oS gY lA:=match x with
 | (v0,v1,v5,v6,v7,v8,u00,()) =>
  bif ltI v8 (v0.length:Int) then
   bif aF v8 v0.length then bif Nat.blt v8.toNat v0.length then bif aF v6 ((v0.getD v8.toNat (0,0,0)).2.2) then bif Nat.blt (((v0.getD v8.toNat (0,0,0)).2.1+v6.toNat)*1) (cS u00 ((v0.getD v8.toNat (0,0,0)).1)) then bif !(eqS (dK u00 ((v0.getD v8.toNat (0,0,0)).1) (((v0.getD v8.toNat (0,0,0)).2.1+v6.toNat)*1) ByteArray.empty) (ByteArray.mk #[48])) then
    bif ltI v7 0 then
     some (.inl (v0,v1,v5,v6,v8,(aB .i64 (v8+1)),u00,()))
    else bif aF v8 v0.length then bif Nat.blt v8.toNat v0.length then bif aF v6 ((v0.getD v8.toNat (0,0,0)).2.2) then bif Nat.blt (((v0.getD v8.toNat (0,0,0)).2.1+v6.toNat)*1) (cS u00 ((v0.getD v8.toNat (0,0,0)).1)) then aC (O0 ((dK u00 ((v0.getD v8.toNat (0,0,0)).1) (((v0.getD v8.toNat (0,0,0)).2.1+v6.toNat)*1) ByteArray.empty),())) λy4 =>
    bif aF v7 v0.length then bif Nat.blt v7.toNat v0.length then bif aF v6 ((v0.getD v7.toNat (0,0,0)).2.2) then bif Nat.blt (((v0.getD v7.toNat (0,0,0)).2.1+v6.toNat)*1) (cS u00 ((v0.getD v7.toNat (0,0,0)).1)) then aC (O0 ((dK u00 ((v0.getD v7.toNat (0,0,0)).1) (((v0.getD v7.toNat (0,0,0)).2.1+v6.toNat)*1) ByteArray.empty),())) λy5 =>
    aC (H7 (y4.1,y5.1,())) λy6 =>
    bif ltI y6.1 0 then
     some (.inl (v0,v1,v5,v6,v8,(aB .i64 (v8+1)),u00,()))
    else some (.inl (v0,v1,v5,v6,v7,(aB .i64 (v8+1)),u00,())) else none else none else none else none else none else none else none else none
   else some (.inl (v0,v1,v5,v6,v7,(aB .i64 (v8+1)),u00,())) else none else none else none else none
  else some (.inr ((v0,v1,v5,v6,v7,u00,())))
def iZ(x:Shape.den gY):oX lA:=bF cY (2^64) x
abbrev gQ:List (Nat×Kd):=[(0,.own 148 (.hnd 1)),(1,.int .i64),(5,.int .i64),(6,.int .i64),(9,.bool),(10,.int .i64),(100000,.ar 110 .str)]
abbrev lB:List (Ex×List (Nat×Kd)):=[(.exit 6,[(0,.own 148 (.hnd 1)),(1,.int .i64),(5,.int .i64),(6,.int .i64),(9,.bool),(100000,.ar 110 .str)])]
def dX(x:Shape.den gQ):oS gQ lB:=match x with
 | (v0,v1,v5,v6,v9,v10,u00,()) =>
  bif ltI v10 (v0.length:Int) then
   bif aF v10 v0.length then bif Nat.blt v10.toNat v0.length then bif aF v6 ((v0.getD v10.toNat (0,0,0)).2.2) then bif Nat.blt (((v0.getD v10.toNat (0,0,0)).2.1+v6.toNat)*1) (cS u00 ((v0.getD v10.toNat (0,0,0)).1)) then bif aF v5 v0.length then bif Nat.blt v5.toNat v0.length then bif aF v6 ((v0.getD v5.toNat (0,0,0)).2.2) then bif Nat.blt (((v0.getD v5.toNat (0,0,0)).2.1+v6.toNat)*1) (cS u00 ((v0.getD v5.toNat (0,0,0)).1)) then aC (BR ((dK u00 ((v0.getD v10.toNat (0,0,0)).1) (((v0.getD v10.toNat (0,0,0)).2.1+v6.toNat)*1) ByteArray.empty),(dK u00 ((v0.getD v5.toNat (0,0,0)).1) (((v0.getD v5.toNat (0,0,0)).2.1+v6.toNat)*1) ByteArray.empty),())) λy10 =>
   bif aF v10 v0.length then bif Nat.blt v10.toNat v0.length then bif aF v5 v0.length then bif Nat.blt v5.toNat v0.length then aC (fO () (((v0.getD v10.toNat (0,0,0)).1,(v0.getD v10.toNat (0,0,0)).2.1,(v0.getD v10.toNat (0,0,0)).2.2),y10.1,((v0.getD v5.toNat (0,0,0)).1,(v0.getD v5.toNat (0,0,0)).2.1,(v0.getD v5.toNat (0,0,0)).2.2),()) u00) λy11 =>
   bif v9 then
    some (.inl (v0,v1,v5,v6,true,(aB .i64 (v10+1)),y11.2,()))
   else some (.inl (v0,v1,v5,v6,!(eqS y10.2.1 (ByteArray.mk #[48])),(aB .i64 (v10+1)),y11.2,())) else none else none else none else none else none else none else none else none else none else none else none else none
  else some (.inr ((v0,v1,v5,v6,v9,u00,())))
def mU(x:Shape.den gQ):oX lB:=bF dX (2^64) x
abbrev hO:List (Nat×Kd):=[(0,.own 148 (.hnd 1)),(1,.int .i64),(5,.int .i64),(6,.int .i64),(142,.int .i64),(143,.int .i64),(100000,.ar 110 .str)]
abbrev k9:List (Ex×List (Nat×Kd)):=[(.exit 8,[(0,.own 148 (.hnd 1)),(1,.int .i64),(5,.int .i64),(6,.int .i64),(100000,.ar 110 .str)])]
def jF(x:Shape.den hO):oS hO k9:=match x with
 | (v0,v1,v5,v6,v142,v143,u00,()) =>
  bif ltI v143 v142 then
   bif aF v143 v0.length then bif Nat.blt v143.toNat v0.length then bif aF v6 ((v0.getD v143.toNat (0,0,0)).2.2) then bif Nat.blt (((v0.getD v143.toNat (0,0,0)).2.1+v6.toNat)*1) (cS u00 ((v0.getD v143.toNat (0,0,0)).1)) then bif aF v5 v0.length then bif Nat.blt v5.toNat v0.length then bif aF v6 ((v0.getD v5.toNat (0,0,0)).2.2) then bif Nat.blt (((v0.getD v5.toNat (0,0,0)).2.1+v6.toNat)*1) (cS u00 ((v0.getD v5.toNat (0,0,0)).1)) then aC (BR ((dK u00 ((v0.getD v143.toNat (0,0,0)).1) (((v0.getD v143.toNat (0,0,0)).2.1+v6.toNat)*1) ByteArray.empty),(dK u00 ((v0.getD v5.toNat (0,0,0)).1) (((v0.getD v5.toNat (0,0,0)).2.1+v6.toNat)*1) ByteArray.empty),())) λy17 =>
   bif aF v143 v0.length then bif Nat.blt v143.toNat v0.length then bif aF v5 v0.length then bif Nat.blt v5.toNat v0.length then aC (fO () (((v0.getD v143.toNat (0,0,0)).1,(v0.getD v143.toNat (0,0,0)).2.1,(v0.getD v143.toNat (0,0,0)).2.2),y17.1,((v0.getD v5.toNat (0,0,0)).1,(v0.getD v5.toNat (0,0,0)).2.1,(v0.getD v5.toNat (0,0,0)).2.2),()) u00) λy18 =>
   some (.inl (v0,v1,v5,v6,v142,(aB .i64 (v143+1)),y18.2,())) else none else none else none else none else none else none else none else none else none else none else none else none
  else some (.inr ((v0,v1,v5,v6,u00,())))
def cX(x:Shape.den hO):oX k9:=bF jF (2^64) x
abbrev gP:List (Nat×Kd):=[(0,.own 148 (.hnd 1)),(1,.int .i64),(5,.int .i64),(6,.int .i64),(100000,.ar 110 .str)]
abbrev kX:List (Ex×List (Nat×Kd)):=[(.exit 2,[(0,.own 148 (.hnd 1)),(1,.int .i64),(5,.int .i64),(6,.int .i64),(100000,.ar 110 .str)])]
def cW(x:Shape.den gP):oS gP kX:=match x with
 | (v0,v1,v5,v6,u00,()) =>
  aC (iZ (v0,v1,v5,v6,(-1),v5,u00,())) λz21 =>
  bif ltI z21.2.2.2.2.1 0 then
   some (.inr ((z21.1,z21.2.1,z21.2.2.1,z21.2.2.2.1,z21.2.2.2.2.2.1,())))
  else bif aF z21.2.2.2.2.1 z21.1.length then bif Nat.blt z21.2.2.2.2.1.toNat z21.1.length then bif aF z21.2.2.1 z21.1.length then bif Nat.blt z21.2.2.1.toNat z21.1.length then bif aF z21.2.2.1 z21.1.length then bif Nat.blt z21.2.2.1.toNat z21.1.length then bif aF z21.2.2.2.2.1 (z21.1.set z21.2.2.1.toNat ((z21.1.getD z21.2.2.2.2.1.toNat (0,0,0)).1,(z21.1.getD z21.2.2.2.2.1.toNat (0,0,0)).2.1,(z21.1.getD z21.2.2.2.2.1.toNat (0,0,0)).2.2)).length then bif Nat.blt z21.2.2.2.2.1.toNat (z21.1.set z21.2.2.1.toNat ((z21.1.getD z21.2.2.2.2.1.toNat (0,0,0)).1,(z21.1.getD z21.2.2.2.2.1.toNat (0,0,0)).2.1,(z21.1.getD z21.2.2.2.2.1.toNat (0,0,0)).2.2)).length then aC (mU (((z21.1.set z21.2.2.1.toNat ((z21.1.getD z21.2.2.2.2.1.toNat (0,0,0)).1,(z21.1.getD z21.2.2.2.2.1.toNat (0,0,0)).2.1,(z21.1.getD z21.2.2.2.2.1.toNat (0,0,0)).2.2)).set z21.2.2.2.2.1.toNat ((z21.1.getD z21.2.2.1.toNat (0,0,0)).1,(z21.1.getD z21.2.2.1.toNat (0,0,0)).2.1,(z21.1.getD z21.2.2.1.toNat (0,0,0)).2.2)),z21.2.1,z21.2.2.1,z21.2.2.2.1,false,(aB .i64 (z21.2.2.1+1)),z21.2.2.2.2.2.1,())) λz22 =>
  bif z22.2.2.2.2.1 then
   some (.inl (z22.1,z22.2.1,z22.2.2.1,z22.2.2.2.1,z22.2.2.2.2.2.1,()))
  else bif aF z22.2.2.1 z22.1.length then bif Nat.blt z22.2.2.1.toNat z22.1.length then bif aF z22.2.2.2.1 ((z22.1.getD z22.2.2.1.toNat (0,0,0)).2.2) then bif Nat.blt (((z22.1.getD z22.2.2.1.toNat (0,0,0)).2.1+z22.2.2.2.1.toNat)*1) (cS z22.2.2.2.2.2.1 ((z22.1.getD z22.2.2.1.toNat (0,0,0)).1)) then aC (D4 ((dK z22.2.2.2.2.2.1 ((z22.1.getD z22.2.2.1.toNat (0,0,0)).1) (((z22.1.getD z22.2.2.1.toNat (0,0,0)).2.1+z22.2.2.2.1.toNat)*1) ByteArray.empty),())) λy23 =>
  bif ltI y23.1 0 then
   bif aF z22.2.2.1 z22.1.length then bif Nat.blt z22.2.2.1.toNat z22.1.length then aC (eJ () (((z22.1.getD z22.2.2.1.toNat (0,0,0)).1,(z22.1.getD z22.2.2.1.toNat (0,0,0)).2.1,(z22.1.getD z22.2.2.1.toNat (0,0,0)).2.2),()) z22.2.2.2.2.2.1) λy24 =>
   aC (cX (z22.1,z22.2.1,z22.2.2.1,z22.2.2.2.1,z22.2.2.1,0,y24.2,())) λz25 =>
   some (.inr ((z25.1,z25.2.1,(aB .i64 (z25.2.2.1+1)),z25.2.2.2.1,z25.2.2.2.2.1,()))) else none else none
  else aC (cX (z22.1,z22.2.1,z22.2.2.1,z22.2.2.2.1,z22.2.2.1,0,z22.2.2.2.2.2.1,())) λz26 =>
  some (.inr ((z26.1,z26.2.1,(aB .i64 (z26.2.2.1+1)),z26.2.2.2.1,z26.2.2.2.2.1,()))) else none else none else none else none else none else none else none else none else none else none else none else none
def jE(x:Shape.den gP):oX kX:=bF cW (2^64) x
abbrev iB:List (Nat×Kd):=[(0,.own 148 (.hnd 1)),(1,.int .i64),(5,.int .i64),(6,.int .i64),(100000,.ar 110 .str)]
abbrev kW:List (Ex×List (Nat×Kd)):=[(.exit 0,[(0,.own 148 (.hnd 1)),(5,.int .i64),(100000,.ar 110 .str)])]
def dZ(x:Shape.den iB):oS iB kW:=match x with
 | (v0,v1,v5,v6,u00,()) =>
  bif ltI v6 v1 then
   bif ltI v5 (v0.length:Int) then
    aC (jE (v0,v1,v5,v6,u00,())) λz28 =>
    some (.inl (z28.1,z28.2.1,z28.2.2.1,(aB .i64 (z28.2.2.2.1+1)),z28.2.2.2.2.1,()))
   else some (.inr ((v0,v5,u00,())))
  else some (.inr ((v0,v5,u00,())))
def mX(x:Shape.den iB):oX kW:=bF dZ (2^64) x
def cO(v0:List (Nat×Nat×Nat))(x:aK [.int .i64])(A:List (List ByteArray)):Option ((List (Nat×Nat×Nat))×List (List ByteArray)):=match x with
 | (v1,()) =>
  aC (mX (v0,v1,0,0,A,())) λz29 =>
  bif Nat.beq z29.1.length 0 then
   bif !(ltI z29.2.1 0) then bif Nat.beq z29.2.1.toNat 0 then some (z29.1,z29.2.2.1) else none else none
  else bif !(ltI z29.2.1 0) then bif Nat.ble 0 z29.2.1.toNat then bif Nat.ble z29.2.1.toNat z29.1.length then bif Nat.blt 0 z29.1.length then some (z29.1.take (z29.2.1.toNat-0),z29.2.2.1) else none else none else none else none
def r8:Code:=dM f121
abbrev gR:Env:=KE [aIR,ZH,R2,aFZ] [KR,IF]
theorem iA:fR tP gR:=l8 ⟨aLG,aC0,T0,YP,trivial⟩ ⟨TS,Q7,trivial⟩
def lV:Code:=iD r8 0
def fI:Code:=iD lV 0
def vQ:Code:=iD fI 0
def vE:Code:=iD fI 1
def vG:Code:=iD fI 2
def fT(id:Nat):Option cA:=bif Nat.beq id 7 then some ⟨gY,lA,iZ⟩ else bif Nat.beq id 15 then some ⟨gQ,lB,mU⟩ else bif Nat.beq id 24 then some ⟨hO,k9,cX⟩ else bif Nat.beq id 5 then some ⟨gP,kX,jE⟩ else bif Nat.beq id 3 then some ⟨iB,kW,mX⟩ else none
theorem KY:∀ x,jU tP gR 181 (aO f121) fT vQ gY lA x=cY x:=by
 rintro⟨v0,v1,v5,v6,v7,v8,u00,⟨⟩⟩
 kernel_rfl
theorem MT:eS tP 181 vQ ⟨gY,lA,iZ⟩:=fF iA.callee bD.mixed _ (aQ (l:=[]) (by kernel_rfl) trivial) KY
theorem L2:∀ x,jU tP gR 181 (aO f121) fT vE gQ lB x=dX x:=by
 rintro⟨v0,v1,v5,v6,v9,v10,u00,⟨⟩⟩
 kernel_rfl
theorem MD:eS tP 181 vE ⟨gQ,lB,mU⟩:=fF iA.callee bD.mixed _ (aQ (l:=[]) (by kernel_rfl) trivial) L2
theorem K8:∀ x,jU tP gR 181 (aO f121) fT vG hO k9 x=jF x:=by
 rintro⟨v0,v1,v5,v6,v142,v143,u00,⟨⟩⟩
 kernel_rfl
theorem MU:eS tP 181 vG ⟨hO,k9,cX⟩:=fF iA.callee bD.mixed _ (aQ (l:=[]) (by kernel_rfl) trivial) K8
theorem LC:∀ x,jU tP gR 181 (aO f121) fT fI gP kX x=cW x:=by
 rintro⟨v0,v1,v5,v6,u00,⟨⟩⟩
 kernel_rfl
theorem PC:a8 fI=[vQ,vE,vG]:=by kernel_rfl
theorem MR:eS tP 181 fI ⟨gP,kX,jE⟩:=fF iA.callee bD.mixed _ (aQ PC ⟨fD (i:=7) (by kernel_rfl) rfl MT,fD (i:=15) (by kernel_rfl) rfl MD,fD (i:=24) (by kernel_rfl) rfl MU,trivial⟩) LC
theorem LV:∀ x,jU tP gR 181 (aO f121) fT lV iB kW x=dZ x:=by
 rintro⟨v0,v1,v5,v6,u00,⟨⟩⟩
 kernel_rfl
theorem OY:a8 lV=[fI]:=by kernel_rfl
theorem L3:eS tP 181 lV ⟨iB,kW,mX⟩:=fF iA.callee bD.mixed _ (aQ OY ⟨fD (i:=5) (by kernel_rfl) rfl MR,trivial⟩) LV
theorem NM:a8 r8=[lV]:=by kernel_rfl
theorem P4:∀ l x A,EV tP gR f121 (aO f121) fT r8 110 .str (.own 148 (.hnd 1)) [.int .i64] (.own 148 (.hnd 1)) l x A=cO l x A:=by
 rintro u0 ⟨v1,⟨⟩⟩ A
 kernel_rfl
theorem S3:LA tP 121 110 .str (.own 148 (.hnd 1)) [.int .i64] (.own 148 (.hnd 1)) cO:=zG bD iA func121 (c:=r8) (by kernel_rfl) (bG:=aO f121) (lt:=fT) (by rfl) (aQ NM ⟨fD (i:=3) (by kernel_rfl) rfl L3,trivial⟩) P4
abbrev kP:Shr:=(121,QL 1 (arH 110 .str (.own 148 (.hnd 1)) [.int .i64] (.own 148 (.hnd 1)) cO))
theorem lF:uT tP kP:=rK (g:=121) (f:=arH 110 .str (.own 148 (.hnd 1)) [.int .i64] (.own 148 (.hnd 1)) cO) (DA S3)
end Go.PM
namespace Go.PM
open Go Go.RowKit Go.Proofs
def Dn(u:Nat):ByteArray:=⟨(Lib.decDigits u).toArray⟩
def Zn(n:Int):ByteArray:=⟨(Lib.itoa n).toArray⟩
theorem AU(u:Nat):(Dn u).data.toList=Lib.decDigits u:=by simp[Dn]
theorem a2S(n:Int):(Zn n).data.toList=Lib.itoa n:=by simp[Zn]
theorem aB7(u:Nat):Zn (u:Int)=Dn u:=by unfold Zn Dn; rw[Lib.itoa_nonneg]
theorem aQI {n:Int}(h:n.natAbs<10^20):aQV n=Zn n:=aKU h
theorem VO {n:Int}(h:n<0):(Zn n).data.toList=45::Lib.decDigits n.natAbs:=by rw[a2S,Lib.itoa,if_pos h]
theorem SZ {n:Int}(h:0<=n):Zn n=Dn n.natAbs:=by
 obtain⟨u,rfl⟩:∃ u:Nat,n=u:=⟨n.natAbs,by omega⟩;rw[aB7]; congr 1
theorem QB {a b:ByteArray}(h:a.data.toList=b.data.toList):a=b:=by
 cases a; cases b
 congr 1
 exact Array.ext' h
theorem TM(a:ByteArray):a.size=a.data.toList.length:=by cases a; rfl
theorem aIY(l m:List UInt8):∀ (acc:Nat),Lib.decFrom acc (l++m)=(Lib.decFrom acc l).bind λa=>Lib.decFrom a m:=by
 induction l with
 | nil=>intro acc; rfl
 | cons b l ih =>
  intro acc;rw[List.cons_append,Lib.decFrom,Lib.decFrom];split
  ·exact ih _
  ·rfl
theorem aM9 {d:Nat}(h:d<10):Lib.digitVal (UInt8.ofNat (48+d))=some d:=by
 have h1:(UInt8.ofNat (48+d)).toNat=48+d:=by
  rw[UInt8.toNat_ofNat'];omega
 unfold Lib.digitVal;rw[h1,if_pos (by omega)]
 congr 1
 omega
theorem pV(u:Nat):Lib.decFrom 0 (Lib.decDigits u)=some u:=by
 induction u using Nat.strongRecOn with
 | _ u ih =>
  rw[Lib.decDigits];split
  ·rename_i h;rw[Lib.decFrom,aM9 h];simp[Lib.decFrom]
  ·rename_i h;rw[aIY,ih (u/10) (by omega)];simp only[Option.bind_some];rw[Lib.decFrom,aM9 (Nat.mod_lt _ (by decide))];simp only[Lib.decFrom]
   congr 1
   omega
theorem HY(u:Nat):Lib.decDigits u≠[]:=by
 rw[Lib.decDigits];split <;> simp
theorem KL(u:Nat):∀ b∈Lib.decDigits u,48<=b.toNat/\b.toNat<=57:=by
 induction u using Nat.strongRecOn with
 | _ u ih =>
  intro b hb;rw[Lib.decDigits]at hb;have key:∀ d,d<10->48<=(UInt8.ofNat (48+d)).toNat/\(UInt8.ofNat (48+d)).toNat<=57:=λd h=>by rw[UInt8.toNat_ofNat']; omega
  split at hb
  ·rename_i h;simp only[List.mem_singleton]at hb;subst hb;exact key u h
  ·rename_i h;simp only[List.mem_append,List.mem_singleton]at hb;rcases hb with hb|rfl
   ·exact ih (u/10) (by omega) b hb
   ·exact key _ (Nat.mod_lt _ (by decide))
theorem a0W {a b:Nat}(h:Dn a=Dn b):a=b:=by
 have h1:=oZ (λx:ByteArray=>Lib.decFrom 0 x.data.toList) h;simp only[AU,pV]at h1;exact oB h1
theorem aGE {n:Int}(h:n<0)(m:Nat):Zn n≠Dn m:=by
 intro e;have h1:=oZ (λx:ByteArray=>x.data.toList) e;simp only[VO h,AU]at h1;have:=KL m 45 (by rw[<- h1]; simp);have e45:(45:UInt8).toNat=45:=by decide
 omega
theorem a4Y {a b:Int}(h:Zn a=Zn b):a=b:=by
 rcases(by omega:a<0\/0<=a)with ha|ha
 ·rcases(by omega:b<0\/0<=b)with hb|hb
  ·have h1:=oZ (λx:ByteArray=>x.data.toList) h;simp only[VO ha,VO hb,List.cons.injEq,true_and]at h1;have h2:=oZ (Lib.decFrom 0) h1;rw[pV,pV]at h2;have:=oB h2;omega
  ·rw[SZ hb]at h;exact absurd h (aGE ha _)
 ·rcases(by omega:b<0\/0<=b)with hb|hb
  ·rw[SZ ha]at h;exact absurd h.symm (aGE hb _)
  ·rw[SZ ha,SZ hb]at h;have:=a0W h;omega
theorem a05(a b:ByteArray):eqS a b=decide (a=b):=by
 unfold eqS
 by_cases h:a=b
 ·subst h; simp
 ·have:¬ a.data=b.data:=λe=>h (QB (by rw[e]))
  simp[h,this]
theorem a5V:ByteArray.mk #[48]=Dn 0:=QB (by rw[AU,Lib.decDigits]; rfl)
theorem a7R:ByteArray.mk #[49]=Dn 1:=QB (by rw[AU,Lib.decDigits]; rfl)
theorem NW(n:Int):eqS (Zn n) (ByteArray.mk #[48])=decide (n=0):=by
 rw[a05,a5V,show Dn 0=Zn 0 from(aB7 0).symm]
 by_cases h:n=0
 ·subst h; simp
 ·have:¬ Zn n=Zn 0:=λe=>h (a4Y e)
  simp[h,this]
theorem aHV(n:Nat):eqS (Dn n) (ByteArray.mk #[48])=decide (n=0):=by
 rw[<- aB7,NW];simp
theorem EK(u:Nat):(Dn u).size=Lib.nDigits u:=by rw[TM,AU,Lib.decDigits_length]
theorem HC {n:Int}(h:n<0):(Zn n).size=Lib.nDigits n.natAbs+1:=by rw[TM,VO h,List.length_cons,Lib.decDigits_length]
theorem uD {u k:Nat}:u<10^(k+1)->Lib.nDigits u<=k+1:=by
 induction k generalizing u with
 | zero=>intro h; rw[Lib.nDigits_small (by simpa using h)]; exact oM _
 | succ k ih =>
  intro h
  by_cases h1:u<10
  ·rw[Lib.nDigits_small h1]; omega
  ·rw[Lib.nDigits_big h1];have:=ih (u:=u/10) (by rw[Nat.pow_succ]at h; omega);omega
theorem jJ(u:Nat):u<10^Lib.nDigits u:=by
 have:=Lib.decFrom_lt _ _ _ (pV u);rw[Lib.decDigits_length]at this;simpa using this
theorem nDigits_pos(u:Nat):1<=Lib.nDigits u:=by rw[Lib.nDigits]; split <;> omega
theorem a4C(n:Int):Lib.atoi (Zn n).data.toList=some n:=by
 rcases(by omega:n<0\/0<=n)with h|h
 ·rw[VO h];have hne:(Lib.decDigits n.natAbs).isEmpty=false:=by
   cases e:Lib.decDigits n.natAbs with
   | nil=>exact absurd e (HY _)
   | cons _ _=>rfl
  simp only[Lib.atoi,Lib.decNat,hne,pV];simp;omega
 ·rw[SZ h,AU];have h1:=pV n.natAbs;have h2:=KL n.natAbs;cases e:Lib.decDigits n.natAbs with
  | nil=>exact absurd e (HY _)
  | cons b r =>
   rw[e]at h1 h2;have hb:=h2 b (by simp);have n45:(b==45)=false:=by
    rw[beq_eq_false_iff_ne]; rintro rfl;have:(45:UInt8).toNat=45:=by decide
    omega
   have n43:(b==43)=false:=by
    rw[beq_eq_false_iff_ne]; rintro rfl;have:(43:UInt8).toNat=43:=by decide
    omega
   simp only[Lib.atoi,n45,n43,Lib.decNat,h1];simp;omega
theorem aLZ(u:Nat):Lib.decNat (Dn u).data.toList=some u:=by
 have hne:(Lib.decDigits u).isEmpty=false:=by
  cases e:Lib.decDigits u with
  | nil=>exact absurd e (HY _)
  | cons _ _=>rfl
 simp only[AU,Lib.decNat,hne,pV];simp
theorem aA3:∀ (l:List UInt8) (acc n:Nat),Lib.decFrom acc l=some n->acc*10^l.length<=n
 | [],acc,n,h=>by
  obtain rfl:=oB h;simp
 | b::l,acc,n,h=>by
  rw[Lib.decFrom]at h;split at h
  ·rename_i d hd;have:=aA3 l _ n h;rw[List.length_cons,Nat.pow_succ];have h1:(acc*10+d)*10^l.length=acc*(10^l.length*10)+d*10^l.length:=by grind
   omega
  ·cases h
theorem TD:∀ (l m:List UInt8) (acc x y:Nat),l.length=m.length->Lib.decFrom acc l=some x->Lib.decFrom acc m=some y->Op.bytesLess l m=decide (x<y)
 | [],[],acc,x,y,_,h1,h2=>by
  obtain rfl:=oB h1;obtain rfl:=oB h2;simp[Op.bytesLess]
 | [],_::_,_,_,_,h,_,_=>by simp at h
 | _::_,[],_,_,_,h,_,_=>by simp at h
 | c::l,d::m,acc,x,y,h,h1,h2=>by
  have hl:l.length=m.length:=by simpa using h
  have digit:∀ (b:UInt8) (e:Nat),Lib.digitVal b=some e->b.toNat=48+e/\e<10:=by
   intro b e he;unfold Lib.digitVal at he;split at he
   ·have:=oB he;omega
   ·cases he
  rw[Lib.decFrom]at h1 h2;split at h1
  ·rename_i e1 he1;split at h2
   ·rename_i e2 he2;obtain⟨c1,c2⟩:=digit c e1 he1;obtain⟨d1,d2⟩:=digit d e2 he2;have x1:=Lib.decFrom_lt l _ x h1;have x2:=aA3 l _ x h1;have y1:=Lib.decFrom_lt m _ y h2;have y2:=aA3 m _ y h2;rw[hl]at x1 x2;rw[Op.bytesLess];rcases Nat.lt_trichotomy e1 e2 with g|g|g
    ·have lt:c<d:=by rw[UInt8.lt_iff_toNat_lt]; omega
     have:(acc*10+e1+1)*10^m.length<=(acc*10+e2)*10^m.length:=Nat.mul_le_mul_right _ (by omega);have hxy:x<y:=by omega
     simp[lt,hxy]
    ·subst g;have e:c=d:=UInt8.toNat_inj.1 (by omega);subst e;have lt:¬ c<c:=by rw[UInt8.lt_iff_toNat_lt]; omega
     simp[lt,TD l m _ x y hl h1 h2]
    ·have lt:¬ c<d:=by rw[UInt8.lt_iff_toNat_lt]; omega
     have ne:¬ c=d:=by rintro rfl; omega
     have:(acc*10+e2+1)*10^m.length<=(acc*10+e1)*10^m.length:=Nat.mul_le_mul_right _ (by omega);have hxy:¬ x<y:=by omega
     simp[lt,ne,hxy]
   ·cases h2
  ·cases h1
theorem a5Y {a b:Nat}(h:Lib.nDigits a=Lib.nDigits b):ltS (Dn a) (Dn b)=decide (a<b):=by
 unfold ltS;rw[AU,AU];exact TD _ _ 0 a b (by rw[Lib.decDigits_length,Lib.decDigits_length,h]) (pV a) (pV b)
theorem xI {a b:Nat}(h:a<=b):Lib.nDigits a<=Lib.nDigits b:=by
 obtain⟨k,hk⟩:∃ k,Lib.nDigits b=k+1:=⟨Lib.nDigits b-1,by have:=nDigits_pos b; omega⟩;rw[hk];refine uD (Nat.lt_of_le_of_lt h ?_);rw[<- hk];exact jJ b
theorem a5M(a b:Nat):eqS (Dn a) (Dn b)=decide (a=b):=by
 rw[a05]
 by_cases h:a=b
 ·subst h; simp
 ·have:¬ Dn a=Dn b:=λe=>h (a0W e)
  simp[h,this]
def aAC(a b:Nat):Int:=if a<b then -1 else if b<a then 1 else 0
theorem vU(a b:Nat)(ha:Lib.nDigits a<2^32)(hb:Lib.nDigits b<2^32):fJ (Dn a,Dn b,())=some (aAC a b,()):=by
 unfold fJ;dsimp only;rw[EK,EK];have hpa:=nDigits_pos a;have hpb:=nDigits_pos b
 by_cases h:Lib.nDigits a=Lib.nDigits b
 ·have h1:eqI (Lib.nDigits a:Int) (Lib.nDigits b:Int)=true:=by rw[fP]; simp[h]
  rw[h1,a5Y h,a5M];simp only[Bool.not_true,oD];unfold aAC
  by_cases h2:a<b
  ·simp[h2]
  ·by_cases h3:a=b
   ·subst h3; simp
   ·have:b<a:=by omega
    simp[h2,h3,this]
 ·have h1:eqI (Lib.nDigits a:Int) (Lib.nDigits b:Int)=false:=by rw[fP]; simp; omega
  rw[h1];simp only[Bool.not_false,oC];rw[wrap64 (by omega) (by omega)]
  congr 2
  unfold aAC
  by_cases h2:a<b
  ·have:=xI (Nat.le_of_lt h2);have h4:¬ (-1:Int)<(Lib.nDigits a:Int)-(Lib.nDigits b:Int):=by omega
   rw[if_pos h2,if_neg h4];rfl
  ·have h3:b<a:=by
    rcases oG b a with g|g
    ·exact g
    ·have:a=b:=by omega
     subst this; exact absurd rfl h
   have:=xI (Nat.le_of_lt h3);have h4:(-1:Int)<(Lib.nDigits a:Int)-(Lib.nDigits b:Int):=by omega
   have h5:¬ (Lib.nDigits a:Int)-(Lib.nDigits b:Int)<1:=by omega
   rw[if_neg h2,if_pos h3,if_pos h4,if_neg h5]
theorem uM(n:Int) (h1 : -9223372036854775808<=n) (h2:n<9223372036854775808):jK (n,())=some (Zn n,()):=by
 unfold jK FH;have e1:ltI n (-9223372036854775808)=false:=by rw[aE]; simp; omega
 have e2:ltI 9223372036854775807 n=false:=by rw[aE]; simp; omega
 simp only[e1,e2,Bool.not_false,Bool.and_self,oC,aD,aQI (n:=n) (by omega)]
theorem J4(u:Nat)(h:u<18446744073709551616):tO ((u:Int),())=some (Dn u,()):=by
 unfold tO sQ;have e1:ltI (u:Int) 0=false:=by rw[aE]; simp
 have e2:ltI (u:Int) 18446744073709551616=true:=by rw[aE]; simp; omega
 have e3:eqI 10 10=true:=by decide
 simp only[e1,e2,e3,Bool.not_false,Bool.and_self,oC,aD,aQI (n:=(u:Int)) (by simp; omega),aB7]
theorem aAM(u:Nat)(h:Lib.nDigits u<=18):CW (Dn u,())=some ((u:Int),true,()):=by
 unfold CW tX;have e1:Nat.ble (Dn u).size 1000000000=true:=by rw[dN,EK]; simp; omega
 have e2:eqI 10 10=true:=by decide
 have e3:eqI 64 64=true:=by decide
 have e4:Lib.parseUintB 64 (Dn u).data.toList=.ok u:=by
  rw[Lib.parseUintB_64,Lib.parseMag_short _ (by rw[AU,Lib.decDigits_length]; exact h),aLZ];rfl
 simp only[e1,e2,e3,Bool.and_self,oC,aD,e4]
theorem OG(a b:Nat)(ha:Lib.nDigits a<=18)(hb:Lib.nDigits b<=18):rI (Dn a,Dn b,())=some ((a:Int),(b:Int),true,()):=by
 unfold rI;have e1:ltI 18 ((Dn a).size:Int)=false:=by rw[aE,EK]; simp; omega
 have e2:ltI 18 ((Dn b).size:Int)=false:=by rw[aE,EK]; simp; omega
 simp only[e1,e2,oD,aAM a ha,aAM b hb,aD]
theorem ZP {s:ByteArray}{c:UInt8}{l:List UInt8}(h:s.data.toList=c::l):aLV s 0=(c.toNat:Int):=by
 have h1:s[0]?=some c:=by
  have h2:s.size=l.length+1:=by rw[TM,h]; rfl
  have h3:s.data[0]?=some c:=by rw[<- Array.getElem?_toList,h]; rfl
  have h4:s[0]?=s.data[0]?:=by cases s; rfl
  rw[h4,h3]
 unfold aLV;rw[h1]
theorem aVP(u:Nat):∃ c l,(Dn u).data.toList=c::l/\c.toNat≠45:=by
 have h:=KL u;rw[AU];cases e:Lib.decDigits u with
 | nil=>exact absurd e (HY _)
 | cons c l =>
  rw[e]at h;have:=h c (by simp);exact⟨c,l,rfl,by omega⟩
theorem aO4 {s:ByteArray}{c:UInt8}{l:List UInt8}(h:s.data.toList=c::l):s.extract 1 s.size=⟨l.toArray⟩:=by
 refine QB ?_;have h1:(s.extract 1 s.size).data=s.data.extract 1 s.data.size:=ByteArray.data_extract;rw[h1,Array.toList_extract,List.extract_eq_take_drop,h];have h2:s.data.size=l.length+1:=by rw[<- Array.length_toList,h]; rfl
 rw[h2];simp
theorem tT(n:Int):cG (Zn n,())=some (decide (n<0),Dn n.natAbs,()):=by
 unfold cG
 by_cases h:n<0
 ·have hz:=VO h;have e1:ltI 0 ((Zn n).size:Int)=true:=by rw[aE,HC h]; simp <;> omega
  have e2:aF 0 (Zn n).size=true:=by rw[aM,HC h]; simp <;> omega
  have e3:aLV (Zn n) 0=45:=by rw[ZP hz]; rfl
  have e4:Nat.ble 1 (Zn n).size=true:=by rw[dN,HC h]; simp
  have e5:Nat.ble (Zn n).size (Zn n).size=true:=by rw[dN]; simp
  have e6:eqI 45 45=true:=by decide
  simp only[e1,e2,e3,e4,e5,e6,oC,aO4 hz,h,decide_true,Dn]
 ·rw[SZ (by omega)];obtain⟨c,l,h1,h2⟩:=aVP n.natAbs;have hs:(Dn n.natAbs).size=l.length+1:=by rw[TM,h1]; rfl
  have e1:ltI 0 ((Dn n.natAbs).size:Int)=true:=by rw[aE,hs]; simp <;> omega
  have e2:aF 0 (Dn n.natAbs).size=true:=by rw[aM,hs]; simp <;> omega
  have e3:eqI (aLV (Dn n.natAbs) 0) 45=false:=by rw[ZP h1,fP]; simp <;> omega
  simp only[e1,e2,e3,oC,oD,h,decide_false]
theorem aKD(b:Bool)(m:Nat)(hm:Lib.nDigits m<2^32):aA (b,Dn m,())=some (Zn (if b then -(m:Int) else m),()):=by
 unfold aA;cases b with
 | false=>simp[aB7]
 | true =>
  have e2:Nat.ble ((ByteArray.mk #[45]).size+(Dn m).size) 9223372036854775807=true:=by
   rw[dN,EK];have:(ByteArray.mk #[45]).size=1:=rfl;rw[this]; simp <;> omega
  simp only[oC,aHV,e2]
  by_cases h:m=0
  ·subst h;simp only[decide_true,Bool.not_true,oD];simp only[if_true];have : -((0:Nat):Int)=((0:Nat):Int):=rfl;rw[this,aB7]
  ·simp only[h,decide_false,Bool.not_false,oC];simp only[if_true]
   congr 2
   refine QB ?_;rw[VO (by omega),Joins.data_append,AU];have:(-(m:Int)).natAbs=m:=by omega
   rw[this];rfl
theorem nY(m:Nat)(hm:Lib.nDigits m<2^32):aA (true,Dn m,())=some (Zn (-(m:Int)),()):=(aKD true m hm).trans (by simp)
theorem rO(m:Nat)(hm:Lib.nDigits m<2^32):aA (false,Dn m,())=some (Zn (m:Int),()):=(aKD false m hm).trans (by simp)
theorem EP(n k:Int)(hk:k<=18):rH (Zn n,k,())=if ((Zn n).size:Int)<=k then some (n,true,()) else some (0,false,()):=by
 unfold rH
 by_cases h:((Zn n).size:Int)<=k
 ·have e1:ltI k ((Zn n).size:Int)=false:=by rw[aE]; simp <;> omega
  have e2:Nat.ble (Zn n).size 18=true:=by rw[dN]; simp <;> omega
  rw[if_pos h];simp only[e1,oD,FN,e2,oC,a4C,aD]
 ·have e1:ltI k ((Zn n).size:Int)=true:=by rw[aE]; simp <;> omega
  rw[if_neg h];simp only[e1,oC]
theorem aBK(n:Int):D4 (Zn n,())=some (n.sign,()):=by
 unfold D4;simp only[NW]
 by_cases h0:n=0
 ·subst h0; simp
 ·by_cases h:n<0
  ·have hz:=VO h;have e2:aF 0 (Zn n).size=true:=by rw[aM,HC h]; simp <;> omega
   have e3:aLV (Zn n) 0=45:=by rw[ZP hz]; rfl
   have e6:eqI 45 45=true:=by decide
   simp only[h0,decide_false,oD,e2,e3,e6,oC,Int.sign_eq_neg_one_of_neg h]
  ·rw[SZ (by omega)];obtain⟨c,l,h1,h2⟩:=aVP n.natAbs;have hs:(Dn n.natAbs).size=l.length+1:=by rw[TM,h1]; rfl
   have e2:aF 0 (Dn n.natAbs).size=true:=by rw[aM,hs]; simp <;> omega
   have e3:eqI (aLV (Dn n.natAbs) 0) 45=false:=by rw[ZP h1,fP]; simp <;> omega
   simp only[h0,decide_false,oD,e2,e3,oC,Int.sign_eq_one_of_pos (show 0<n by omega)]
theorem aL8(n:Int)(h:Lib.nDigits n.natAbs<2^32):QH (Zn n,())=some (Zn (-n),()):=by
 unfold QH;simp only[tT n,aD]
 by_cases h0:n<0
 ·simp only[h0,decide_true,oC,rO _ h,aD];have:(n.natAbs:Int) = -n:=by omega
  rw[this]
 ·simp only[h0,decide_false,oD,nY _ h,aD];have : -(n.natAbs:Int) = -n:=by omega
  rw[this]
theorem aMY(n:Int):O0 (Zn n,())=some (Zn (n.natAbs:Int),()):=by
 unfold O0;simp only[tT n,aD,aB7]
theorem aK4(a b:Nat) (ha:Lib.nDigits a<2^32) (hb:Lib.nDigits b<2^32):H7 (Zn (a:Int),Zn (b:Int),())=some (aAC a b,()):=by
 unfold H7;have sg:∀ n:Nat,(n:Int).sign=if n=0 then 0 else 1:=λn=>by
  by_cases h:n=0
  ·subst h; rfl
  ·rw[if_neg h,Int.sign_eq_one_of_pos (by omega)]
 simp only[aBK (a:Int),aBK (b:Int),tT (a:Int),tT (b:Int),aD,sg];have e0:∀ n:Nat,decide ((n:Int)<0)=false:=λn=>by simp
 by_cases h1:a=0
 ·by_cases h2:b=0
  ·have e:eqI 0 0=true:=by decide
   simp only[h1,h2,if_true,e,Bool.not_true,oD,e0,Int.natAbs_natCast];have:=vU a b ha hb;rw[h1,h2]at this;simp only[this,aD]
  ·have:eqI 0 1=false:=by decide
   have e:ltI 0 1=true:=by decide
   simp only[h1,h2,if_true,if_false,this,e,Bool.not_false,oC];unfold aAC;rw[if_pos (by omega)]
 ·by_cases h2:b=0
  ·have:eqI 1 0=false:=by decide
   have e:ltI 1 0=false:=by decide
   simp only[h1,h2,if_true,if_false,this,e,Bool.not_false,oC,oD];unfold aAC;rw[if_neg (by omega),if_pos (by omega)]
  ·have e:eqI 1 1=true:=by decide
   simp only[h1,h2,if_false,e,Bool.not_true,oD,e0,Int.natAbs_natCast,vU a b ha hb,aD]
theorem XZ {u:Nat}(h:Lib.nDigits u<=18):u<1000000000000000000:=by
 have h1:=jJ u;have h2:10^Lib.nDigits u<=10^18:=Nat.pow_le_pow_right (by decide) h;omega
theorem q9 {x:Int}(h1:0<=x)(h2:x<18446744073709551616):aB .u64 x=x:=by
 rw[TF,IntKind.wrap_u64];omega
theorem aSI(a b:Nat)(ha:Lib.nDigits a<=18)(hb:Lib.nDigits b<=18):eW (Dn a,Dn b,())=some (Dn (a+b),()):=by
 have h1:=XZ ha;have h2:=XZ hb;unfold eW;simp only[OG a b ha hb,aD,oC];rw[q9 (by omega) (by omega)];have:(a:Int)+(b:Int)=((a+b:Nat):Int):=by omega
 rw[this,J4 _ (by omega)];rfl
theorem aSL(a b:Nat)(ha:Lib.nDigits a<=18)(hb:Lib.nDigits b<=18)(h:b<=a):cP (Dn a,Dn b,())=some (Dn (a-b),0,()):=by
 have h1:=XZ ha;have h2:=XZ hb;unfold cP;have e:ltI (aAC a b) 0=false:=by
  rw[aE]; unfold aAC;rw[if_neg (by omega)];split <;> rfl
 simp only[vU a b (by omega) (by omega),OG a b ha hb,aD,oC,e,oD];rw[q9 (by omega) (by omega)];have:(a:Int)-(b:Int)=((a-b:Nat):Int):=by omega
 rw[this,J4 _ (by omega)];rfl
theorem aSX(a b:Nat)(h:Lib.nDigits a+Lib.nDigits b<=18):eX (Dn a,Dn b,())=some (Dn (a*b),()):=by
 have p1:=nDigits_pos a;have p2:=nDigits_pos b;have h3:a*b<1000000000000000000:=by
  have h1:=jJ a;have h2:=jJ b;have h4:a*b<10^Lib.nDigits a*10^Lib.nDigits b:=Nat.mul_lt_mul'' h1 h2;rw[<- Nat.pow_add]at h4;have h5:10^(Lib.nDigits a+Lib.nDigits b)<=10^18:=Nat.pow_le_pow_right (by decide) h;omega
 unfold eX;have e:ltI 18 (aB .i64 (((Dn a).size:Int)+((Dn b).size:Int)))=false:=by
  rw[EK,EK,wrap64 (by omega) (by omega),aE];simp only[decide_eq_false_iff_not];omega
 simp only[e,Bool.not_false,oC,OG a b (by omega) (by omega),aD];have e2:(a:Int)*(b:Int)=((a*b:Nat):Int):=by rw[Int.natCast_mul]
 rw[e2,q9 (by omega) (by omega),J4 _ (by omega)];rfl
theorem aIP(a b:Nat)(ha:Lib.nDigits a<=18)(hb:Lib.nDigits b<=18)(h:b≠0):mV (Dn a,Dn b,())=some (Dn (a/b),Dn (a%b),0,()):=by
 have h1:=XZ ha;have h2:=XZ hb;unfold mV;have e1:eqI (b:Int) 0=false:=by rw[fP]; simp; omega
 have q1:(a:Int).tdiv (b:Int)=((a/b:Nat):Int):=rfl;have q2:(a:Int).tmod (b:Int)=((a%b:Nat):Int):=rfl;have l1:a/b<=a:=Nat.div_le_self _ _;have l2:a%b<=a:=Nat.mod_le _ _;simp only[aHV,h,decide_false,oD,OG a b ha hb,aD,oC,e1,q1,q2];clear q1 q2;generalize a/b=q at *;generalize a%b=r at *;rw[q9 (by omega) (by omega),J4 _ (by omega),aD,J4 _ (by omega)];rfl
theorem JJ {n:Int}{k:Nat}(h:((Zn n).size:Int)<=(k:Int)):Lib.nDigits n.natAbs<=k:=by
 rcases(by omega:n<0\/0<=n)with g|g
 ·rw[HC g]at h; omega
 ·rw[SZ g,EK]at h; omega
theorem pK {x y f g:Int} (h:x=y*f+g) (hp:0<y->0<=g/\g<y) (hn:y<0->y<g/\g<=0) (h0:y≠0):x.fdiv y=f/\x.fmod y=g:=by
 have key:∀ x y f g:Int,x=y*f+g->0<y->0<=g->g<y->x.fdiv y=f/\x.fmod y=g:=by
  intro x y f g h hy h1 h2;have e1:=Int.fmod_def x y;have e2:=Int.fmod_nonneg_of_pos x hy;have e3:=Int.fmod_lt_of_pos x hy;have e4:y*(x.fdiv y-f)=g-x.fmod y:=by rw[Int.mul_sub]; omega
  have e5:x.fdiv y-f=0:=by
   rcases Int.lt_trichotomy (x.fdiv y-f) 0 with g1|g1|g1
   ·have:y*(x.fdiv y-f)<=y*(-1):=Int.mul_le_mul_of_nonneg_left (by omega) (by omega);omega
   ·exact g1
   ·have:y*1<=y*(x.fdiv y-f):=Int.mul_le_mul_of_nonneg_left (by omega) (by omega);omega
  rw[e5]at e4;omega
 rcases Int.lt_or_gt_of_ne h0 with g1|g1
 ·obtain⟨h1,h2⟩:=hn g1;have:=key (-x) (-y) f (-g) (by rw[h]; grind) (by omega) (by omega) (by omega);rw[Int.neg_fdiv_neg,Int.neg_fmod_neg]at this;omega
 ·obtain⟨h1,h2⟩:=hp g1;exact key x y f g h g1 h1 h2
end Go.PM
