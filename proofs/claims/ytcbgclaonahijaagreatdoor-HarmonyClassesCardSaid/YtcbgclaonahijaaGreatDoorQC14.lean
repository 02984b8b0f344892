/- Texts of one proof, joined (14). -/
import Derived.Test.YtcbgclaonahijaaGreatDoorQC13
set_option linter.unusedSimpArgs false
set_option linter.unusedVariables false
set_option linter.defProp false
set_option maxRecDepth 100000
noncomputable section
namespace Go.PM
open Go Go.RowKit Go.Proofs Tryz
set_option maxHeartbeats 4000000
def cU:zo [.agg TyG,.agg TyG] [.bool]:=λ(a,b,())=>aB (iE (a.1,b.1,())) λc=>bif c.1 then aB (B0 (a.2.1,b.2.1,())) λd=>bif d.1 then aB (B0 (a.2.2,b.2.2,())) λe=>some (e.1,())else some (false,())else some (false,())
abbrev aGL:Ent:=⟨33,_,_,cU⟩
def aQW:Ent.OK tP aGL:=oI (aS (oV YA (oV aBY oW))) func33
abbrev fC:zb:=[(1,.list TyE),(2,.list TyI),(7,.box 36 TyG),(8,.list TyE),(9,zd),(10,.own 29 TyD),(11,.own 29 TyD),(12,zd)]
abbrev jQ:zc:=[(.exit 0,[(1,.list TyE),(2,.list TyI),(7,.box 36 TyG),(8,.list TyE),(9,zd),(10,.own 29 TyD),(11,.own 29 TyD)])]
def nM:zp fC jQ:=λ(f,b,e,i,h,c,d,a,())=>bif ltI a (b.length:Int) then za (aE a b.length)<|aB (mI (e.1,((b.getD a.toNat (0,(0,(0,0)))).1,((b.getD a.toNat (0,(0,(0,0)))).2.1,((b.getD a.toNat (0,(0,(0,0)))).2.2.1,(b.getD a.toNat (0,(0,(0,0)))).2.2.2))),())) λg=>za (Nat.ble [g.1].length 1048576)<|za (Nat.ble c.length 1048576)<|some (.inl (f,b,e,i,h,(c++[g.1]),d,(aA .i64 (a+1)),()))else some (.inr ((f,b,e,i,h,c,d,())))
def nW:zq fC jQ:=aV nM (2^64)
abbrev fD:zb:=[(2,.list TyI),(7,.box 36 TyG),(10,.list TyD),(11,.list TyD),(13,.box 38 TyM),(14,zd),(18,zd)]
abbrev jP:zc:=[(.exit 2,[(7,.box 36 TyG),(11,.list TyD),(13,.box 38 TyM),(14,zd)])]
def gX:zp fD jP:=λ(j,f,b,e,d,c,a,())=>bif ltI a (j.length:Int) then za (aE a b.length)<|aB (lV (f,(b.getD a.toNat []),())) λg=>aB (eH (f,g.1,())) λh=>aB (fR (e,h.1,())) λi=>some (.inl (j,f,b,i.1,d,c,(aA .i64 (a+1)),()))else some (.inr ((f,e,d,c,())))
def aU:zq fD jP:=aV gX (2^64)
def dD:zo [.agg TyP,.list TyE,.list TyI] [.bool]:=λ(v0,T,v2,())=>aB (aZ (())) λy1=>bif y1.1 then aB (FM (v0,())) λy2=>bif y2.1 then bif ltI 8 (T.length:Int) then aB (aZ (())) λy3=>some (y3.1,())else bif ltI 9 (v2.length:Int) then aB (aZ (())) λy4=>some (y4.1,())else aB (vF (v0,())) λy5=>aB (rD (y5.1,T,())) λy6=>aB (nW (T,v2,y5.1,y6.1,y6.2.1,[],[],0,())) λb=>aB (EA (b.2.2.1,b.2.2.2.2.2.1,())) λa=>aB (AA (b.2.2.1,())) λy11=>bif y11.1 then bif eqI (aA .i64 ((b.2.2.2.1.length:Int)+(a.1.2.length:Int))) 0 then bif eqI b.2.2.2.2.1 26 then some (eqI a.2.1 26,())else some (false,())else some (false,())else aB (kH (b.1,())) λc=>bif eqI c.1 0 then bif !(eqI (b.1.length:Int) (b.2.2.1.2.2.length:Int)) then bif ltI 0 (b.2.2.2.1.length:Int) then some (false,())else bif !(eqI b.2.2.2.2.1 5) then some (false,())else aB (W9 (b.1,())) λy13=>bif eqI (b.2.1.length:Int) 0 then bif eqI (a.1.2.length:Int) 0 then some (eqI a.2.1 13,())else some (false,())else aB (aU (b.2.1,b.2.2.1,b.2.2.2.2.2.1,b.2.2.2.2.2.2.1,a.1,a.2.1,0,())) λo=>bif eqI o.2.2.2.1 0 then aB (cU (o.2.2.1.1,o.1,())) λP=>bif P.1 then aB (bE (o.2.2.1.2,o.2.1,())) λy22=>some (y22.1,())else some (false,())else some (false,())else bif !(eqI c.1 0) then bif ltI 0 (b.2.2.2.1.length:Int) then some (false,())else bif !(eqI b.2.2.2.2.1 c.1) then some (false,())else aB (W9 (b.1,())) λI=>bif eqI c.1 0 then bif !(ltI 10000 I.1) then bif !(eqI b.2.2.2.2.1 0) then some (false,())else aB (eH (b.2.2.1,b.1,())) λz=>aB (kJ (b.2.2.2.1,z.1,())) λR=>bif R.1 then bif eqI (b.2.1.length:Int) 0 then bif eqI (a.1.2.length:Int) 0 then some (eqI a.2.1 13,())else some (false,())else aB (aU (b.2.1,b.2.2.1,b.2.2.2.2.2.1,b.2.2.2.2.2.2.1,a.1,a.2.1,0,())) λi=>bif eqI i.2.2.2.1 0 then aB (cU (i.2.2.1.1,i.1,())) λE=>bif E.1 then aB (bE (i.2.2.1.2,i.2.1,())) λL=>some (L.1,())else some (false,())else some (false,())else some (false,())else bif eqI (b.2.1.length:Int) 0 then bif eqI (a.1.2.length:Int) 0 then some (eqI a.2.1 13,())else some (false,())else aB (aU (b.2.1,b.2.2.1,b.2.2.2.2.2.1,b.2.2.2.2.2.2.1,a.1,a.2.1,0,())) λe=>bif eqI e.2.2.2.1 0 then aB (cU (e.2.2.1.1,e.1,())) λw=>bif w.1 then aB (bE (e.2.2.1.2,e.2.1,())) λq=>some (q.1,())else some (false,())else some (false,())else bif eqI (b.2.1.length:Int) 0 then bif eqI (a.1.2.length:Int) 0 then some (eqI a.2.1 13,())else some (false,())else aB (aU (b.2.1,b.2.2.1,b.2.2.2.2.2.1,b.2.2.2.2.2.2.1,a.1,a.2.1,0,())) λg=>bif eqI g.2.2.2.1 0 then aB (cU (g.2.2.1.1,g.1,())) λr=>bif r.1 then aB (bE (g.2.2.1.2,g.2.1,())) λy34=>some (y34.1,())else some (false,())else some (false,())else aB (W9 (b.1,())) λU=>bif eqI c.1 0 then bif !(ltI 10000 U.1) then bif !(eqI b.2.2.2.2.1 0) then some (false,())else aB (eH (b.2.2.1,b.1,())) λN=>aB (kJ (b.2.2.2.1,N.1,())) λJ=>bif J.1 then bif eqI (b.2.1.length:Int) 0 then bif eqI (a.1.2.length:Int) 0 then some (eqI a.2.1 13,())else some (false,())else aB (aU (b.2.1,b.2.2.1,b.2.2.2.2.2.1,b.2.2.2.2.2.2.1,a.1,a.2.1,0,())) λh=>bif eqI h.2.2.2.1 0 then aB (cU (h.2.2.1.1,h.1,())) λX=>bif X.1 then aB (bE (h.2.2.1.2,h.2.1,())) λC=>some (C.1,())else some (false,())else some (false,())else some (false,())else bif eqI (b.2.1.length:Int) 0 then bif eqI (a.1.2.length:Int) 0 then some (eqI a.2.1 13,())else some (false,())else aB (aU (b.2.1,b.2.2.1,b.2.2.2.2.2.1,b.2.2.2.2.2.2.1,a.1,a.2.1,0,())) λj=>bif eqI j.2.2.2.1 0 then aB (cU (j.2.2.1.1,j.1,())) λW=>bif W.1 then aB (bE (j.2.2.1.2,j.2.1,())) λQ=>some (Q.1,())else some (false,())else some (false,())else bif eqI (b.2.1.length:Int) 0 then bif eqI (a.1.2.length:Int) 0 then some (eqI a.2.1 13,())else some (false,())else aB (aU (b.2.1,b.2.2.1,b.2.2.2.2.2.1,b.2.2.2.2.2.2.1,a.1,a.2.1,0,())) λk=>bif eqI k.2.2.2.1 0 then aB (cU (k.2.2.1.1,k.1,())) λu=>bif u.1 then aB (bE (k.2.2.1.2,k.2.1,())) λv=>some (v.1,())else some (false,())else some (false,())else bif !(eqI c.1 0) then bif ltI 0 (b.2.2.2.1.length:Int) then some (false,())else bif !(eqI b.2.2.2.2.1 c.1) then some (false,())else aB (W9 (b.1,())) λV=>bif eqI c.1 0 then bif !(ltI 10000 V.1) then bif !(eqI b.2.2.2.2.1 0) then some (false,())else aB (eH (b.2.2.1,b.1,())) λt=>aB (kJ (b.2.2.2.1,t.1,())) λD=>bif D.1 then bif eqI (b.2.1.length:Int) 0 then bif eqI (a.1.2.length:Int) 0 then some (eqI a.2.1 13,())else some (false,())else aB (aU (b.2.1,b.2.2.1,b.2.2.2.2.2.1,b.2.2.2.2.2.2.1,a.1,a.2.1,0,())) λd=>bif eqI d.2.2.2.1 0 then aB (cU (d.2.2.1.1,d.1,())) λK=>bif K.1 then aB (bE (d.2.2.1.2,d.2.1,())) λH=>some (H.1,())else some (false,())else some (false,())else some (false,())else bif eqI (b.2.1.length:Int) 0 then bif eqI (a.1.2.length:Int) 0 then some (eqI a.2.1 13,())else some (false,())else aB (aU (b.2.1,b.2.2.1,b.2.2.2.2.2.1,b.2.2.2.2.2.2.1,a.1,a.2.1,0,())) λm=>bif eqI m.2.2.2.1 0 then aB (cU (m.2.2.1.1,m.1,())) λG=>bif G.1 then aB (bE (m.2.2.1.2,m.2.1,())) λY=>some (Y.1,())else some (false,())else some (false,())else bif eqI (b.2.1.length:Int) 0 then bif eqI (a.1.2.length:Int) 0 then some (eqI a.2.1 13,())else some (false,())else aB (aU (b.2.1,b.2.2.1,b.2.2.2.2.2.1,b.2.2.2.2.2.2.1,a.1,a.2.1,0,())) λp=>bif eqI p.2.2.2.1 0 then aB (cU (p.2.2.1.1,p.1,())) λy57=>bif y57.1 then aB (bE (p.2.2.1.2,p.2.1,())) λZ=>some (Z.1,())else some (false,())else some (false,())else aB (W9 (b.1,())) λO=>bif eqI c.1 0 then bif !(ltI 10000 O.1) then bif !(eqI b.2.2.2.2.1 0) then some (false,())else aB (eH (b.2.2.1,b.1,())) λA=>aB (kJ (b.2.2.2.1,A.1,())) λy61=>bif y61.1 then bif eqI (b.2.1.length:Int) 0 then bif eqI (a.1.2.length:Int) 0 then some (eqI a.2.1 13,())else some (false,())else aB (aU (b.2.1,b.2.2.1,b.2.2.2.2.2.1,b.2.2.2.2.2.2.1,a.1,a.2.1,0,())) λf=>bif eqI f.2.2.2.1 0 then aB (cU (f.2.2.1.1,f.1,())) λS=>bif S.1 then aB (bE (f.2.2.1.2,f.2.1,())) λy64=>some (y64.1,())else some (false,())else some (false,())else some (false,())else bif eqI (b.2.1.length:Int) 0 then bif eqI (a.1.2.length:Int) 0 then some (eqI a.2.1 13,())else some (false,())else aB (aU (b.2.1,b.2.2.1,b.2.2.2.2.2.1,b.2.2.2.2.2.2.1,a.1,a.2.1,0,())) λl=>bif eqI l.2.2.2.1 0 then aB (cU (l.2.2.1.1,l.1,())) λs=>bif s.1 then aB (bE (l.2.2.1.2,l.2.1,())) λy=>some (y.1,())else some (false,())else some (false,())else bif eqI (b.2.1.length:Int) 0 then bif eqI (a.1.2.length:Int) 0 then some (eqI a.2.1 13,())else some (false,())else aB (aU (b.2.1,b.2.2.1,b.2.2.2.2.2.1,b.2.2.2.2.2.2.1,a.1,a.2.1,0,())) λn=>bif eqI n.2.2.2.1 0 then aB (cU (n.2.2.1.1,n.1,())) λM=>bif M.1 then aB (bE (n.2.2.1.2,n.2.1,())) λB=>some (B.1,())else some (false,())else some (false,())else aB (aZ (())) λy71=>some (y71.1,())else aB (aZ (())) λF=>some (F.1,())
def CQ:Code:=bY f5
abbrev CR:Env:=B1 [aSH,a3J,a7I,aWV,bKE,MK,aGD,UN,S1,RF,DA,U7,MU,P9,aGL]
def yW:dN tP CR:=aS ⟨aX9,a8R,xF,D9,bJL,HG,YR,YP,M3,K7,rV,YX,SR,LS,aQW,trivial⟩
def AM:Code:=dC CQ 0
def AI:Code:=dC CQ 1
def BH(id:Nat):Option cI:=bif Nat.beq id 7 then some ⟨fC,jQ,nW⟩ else bif Nat.beq id 24 then some ⟨fD,jP,aU⟩ else none
def UZ:∀ x,dL tP CR 172 (aP f5) BH AM fC jQ x=nM x:=λ_=>Y
def V6:cJ tP 172 AM ⟨fC,jQ,nW⟩:=cC yW.callee aQ.mixed _ (aO (l:=[]) Y trivial) UZ
def U6:∀ x,dL tP CR 172 (aP f5) BH AI fD jP x=gX x:=λ_=>Y
def V9:cJ tP 172 AI ⟨fD,jP,aU⟩:=cC yW.callee aQ.mixed _ (aO (l:=[]) Y trivial) U6
def aBF:WA tP 5 _ _ dD:=W4 aQ yW func5 (c:=CQ) Y (keep:=aP f5) (lt:=BH) (aO (l:=[AM,AI]) Y ⟨cB (i:=7) Y rfl V6,cB (i:=24) Y rfl V9,trivial⟩) (λ_=>by kernel_rfl)
open Go.Lz
def aY0(x:List Int)(m:x.length<=64):∃ e,kH (x,())=some (e,())/\(e=0->∀ a∈x,a.natAbs<=1000000000):=by
 have g:ltI 64 (x.length:Int)=false:=zf
 have key:=ME (step:=cH) (N:=2^64) (λt=>(x,(),(x.length:Int),(t:Int),())) (λt=>¬ (x.getD t 0).natAbs<=1000000000) (λj=>.inl ((j:Int),())) x.length (.inr ()) Z (λt ht=>?_) ?_
 ·rcases key with ⟨j,h1,b,h3,f⟩|⟨h1,b⟩
  ·have f:fP (x,(),(x.length:Int),0,())=some (.inl ((j:Int),())):=f;have c:ltI (j:Int) 0=false:=zf
   exact⟨4,by simp only[kH,g,gZ,kV,f,c,zz],λh=>by cases h⟩
  have b:fP (x,(),(x.length:Int),0,())=some (.inr ()):=b;have c:ltI (-1) 0=true:=O;refine⟨0,by simp only[kH,g,gZ,kV,b,c,zz],λ_ a k=>?_⟩;obtain⟨i,hi,rfl⟩:=Q4.1 k;exact Decidable.not_not.1 (h1 i hi)
 have l:=bP t Z;simp only[cH,lI ht,iO ht,tN,l,aEZ,aFV,aF,oC];by_cases d:x.getD t 0 < -1000000000;rw[oT d,if_pos Z]; rfl;by_cases a2:1000000000<x.getD t 0;rw[oF d,oT a2,if_pos Z]; rfl;rw[oF d,oF a2,if_neg Z]; rfl;simp only[cH,lN,oD]
def mxA(m a:Int):Int:=if m<(if a<IntKind.wrap .i64 (0-a) then IntKind.wrap .i64 (0-a) else a) then (if a<IntKind.wrap .i64 (0-a) then IntKind.wrap .i64 (0-a) else a) else m
def bXP(x:List Int)(d:x.length<=64):∃ m e,W9 (x,())=some (m,e,()):=by
 have⟨e,a,_⟩:=aY0 x d;by_cases c:e=0;subst c;have key:=aK (step:=aAS) (N:=2^64) (λt=>((x.take t).foldl mxA 0,x,(x.length:Int),(t:Int),())) x.length (x.foldl mxA 0,()) Z (λt ht=>?_) ?_;have key:aKY (0,x,(x.length:Int),0,())=_:=key;exact⟨_,_,by simp only[W9,a,e00,key,zz]; rfl⟩;have b:x.getD t 0=x[t]:=(by simp[List.getD,ht]);have f:=wS ht Z;rw[List.take_succ_eq_append_getElem ht,List.foldl_append];simp only[aAS,lI ht,iO ht,tN,b,a7S,f,zz]; rfl;simp only[aAS,lN,oD,List.take_length]
 ·have g:eqI e 0=false:=by rw[bN]; grind
  exact⟨_,_,by simp only[W9,a,g,zz]; rfl⟩
section
variable {ps:List Int} {n d r:Nat} {C K:Nat->V}
def bSD(h:RT ps n d r C K)(a:1<=n)(f:1<=r)(g:0<K 0 0)(x:List Int)(k:x.length<=64):∃ e,kH (x,())=some (e,()) /\
  ((e≠0/\rD ((ps,(Mr d n C,Mr r n K)),x,())=some ([],e,()))\/(e=0/\x.length≠r/\rD ((ps,(Mr d n C,Mr r n K)),x,())=some ([],5,())) \/
    (e=0/\x.length=r/\rD ((ps,(Mr d n C,Mr r n K)),x,())=some (cl r (K 0 0) x,0,())/\eH ((ps,(Mr d n C,Mr r n K)),x,())=some (cl r (K 0 0) x,()))):=by
 have⟨e,b,j⟩:=aY0 x k;refine⟨e,b,?_⟩;have t1:=U0 h a f g;by_cases c:e=0
 ·subst c;by_cases c2:x.length=r;exact .inr (.inr ⟨rfl,c2,bV2 h a f g x c2 (j rfl),aXX h a f g x c2 (j rfl)⟩)
  ·have i:eqI (x.length:Int) ((Mr r n K).length:Int)=false:=by rw[bN,eO]; grind
   have l:eqI 5 0=false:=O;exact .inr (.inl ⟨rfl,c2,by simp only[rD,t1,e00,xM,b,i,l,zz]⟩)
 ·have i:eqI e 0=false:=by rw[bN]; grind
  exact .inl ⟨c,by simp only[rD,t1,e00,xM,b,i,zz]⟩
def bN0(h:RT ps n d r C K):cU ((ps,(Mr d n C,Mr r n K)),(ps,(Mr d n C,Mr r n K)),())=some (true,()):=by
 have n4:=h.n4;have⟨p,hk⟩:=h.hk;have⟨q,hc⟩:=h.hc;have a:=(Hn.wR hk h.wk).1;have d4:=(Hn.wR hc h.wc).1;have t1:=bF6 ps ps (by rw[h.len]; omega);have t2:=bFO (Mr d n C) (Mr d n C) (by rw[eO]; omega) (bFT n4);have t3:=bFO (Mr r n K) (Mr r n K) (by rw[eO]; omega) (bFT n4);rw[oT rfl]at t1 t2 t3;simp only[cU,t1,t2,t3,zz]
def bSI(h:RT ps n d r C K)(x:List Int)(v:List I4)(i:v.length<=9)(f:∀ t∈v,I8 t)(c:List Int)(e:Int) :
  nW (x,v,(ps,(Mr d n C,Mr r n K)),c,e,[],[],0,())=some (x,v,(ps,(Mr d n C,Mr r n K)),c,e,v.map (ivL n),[],()):=by
 have n4:=h.n4;refine aK (N:=2^64) (λt=>(x,v,(ps,(Mr d n C,Mr r n K)),c,e,(v.take t).map (ivL n),[],(t:Int),())) v.length (x,v,(ps,(Mr d n C,Mr r n K)),c,e,v.map (ivL n),[],()) Z (λt ht=>?_) ?_;have a:=aJ2 ps (by rw[h.len]; omega) v[t] (f _ (List.getElem_mem ht));rw[h.len]at a;have g:=wS ht Z;have b:Nat.ble ((v.take t).map (ivL n)).length 1048576=true:=bL W;rw[List.take_succ_eq_append_getElem ht,List.map_append];simp only[nM,lI ht,iO ht,tN,b1G ht,oC];rw[a];simp only[g,b,bO,zz];rfl;simp only[nM,lN,oD,List.take_length]
def bRE(h:RT ps n d r C K)(hk:Big r n K 960000)(c:1<=n)(o:1<=r)(q:0<K 0 0)(v:List I4)(w:v.length<=9)(G:(List Int×List (List Int)×List (List Int))×List (List Int))(f:Int) :
  aU (v,(ps,(Mr d n C,Mr r n K)),v.map (ivL n),[],G,f,0,())=some ((ps,(Mr d n C,Mr r n K)),MB (v.map λt=>tcl n r K (ivL n t)),G,f,()):=by
 have n4:=h.n4;have⟨p,e⟩:=h.hk;have u:=(Hn.wR e h.wk).1;refine aK (step:=gX) (N:=2^64) (λt=>(v,(ps,(Mr d n C,Mr r n K)),v.map (ivL n),MB ((v.take t).map λt=>tcl n r K (ivL n t)),G,f,(t:Int),())) v.length ((ps,(Mr d n C,Mr r n K)),MB (v.map λt=>tcl n r K (ivL n t)),G,f,()) Z (λt ht=>?_) ?_
 ·have m:aE (t:Int) (v.map (ivL n)).length=true:=iO (by rw[List.length_map]; exact ht);have g:(v.map (ivL n)).getD t []=ivL n v[t]:=by simp[List.getD,ht]
  have l:=aXF h (ivL n v[t]) aO6 (λa b=>by have:=aLW a b; omega) (λi hi=>bG0 hk n4 aLW hi);have k:=aXX h c o q (tmp n r K (ivL n v[t])) aIC (λa b=>by have:=bGY (λi hi=>bG0 hk n4 (x:=ivL n v[t]) aLW hi) a b; omega);have hp:=xK ((v.take t).map λt=>tcl n r K (ivL n t));have j:=insert_eq (MB ((v.take t).map λt=>tcl n r K (ivL n t))) (tcl n r K (ivL n v[t])) (by have:=hp.2.2; rw[List.length_map,List.length_take]at this; omega) (by unfold tcl; rw[HO]; omega) (λa b=>by
   obtain⟨x,_,rfl⟩:=List.mem_map.1 ((hp.2.1 a).1 b);unfold tcl; rw[HO]; omega)
  have s:=wS ht Z;rw[List.take_succ_eq_append_getElem ht,List.map_append,List.map_cons,List.map_nil,aY5];simp only[gX,lI ht,m,tN,g,l,k,zz];show aB (fR (_,tcl n r K (ivL n v[t]),())) _=_;rw[j,aC,s]
 ·have:v.take v.length=v:=List.take_length;simp only[gX,lN,oD,this]
def bL2(h:RT ps n d r C K)(hk:Big r n K 960000)(c:1<=n)(l:1<=r)(m:0<K 0 0)(v:List I4)(g:0<v.length)(q:v.length<=9) :
  EA ((ps,(Mr d n C,Mr r n K)),v.map (ivL n),())=some (((ps,(Mr d n C,Mr r n K)),MB (v.map λt=>tcl n r K (ivL n t))),0,()):=by
 have n4:=h.n4;have⟨p,e⟩:=h.hk;have o:=(Hn.wR e h.wk).1;have hm:(v.map (ivL n)).map (tcl n r K)=v.map λt=>tcl n r K (ivL n t):=by rw[List.map_map]; rfl
 have j:∀ x∈v.map λt=>tcl n r K (ivL n t),x.length<=1048576:=λx b=>by
  obtain⟨t,_,rfl⟩:=List.mem_map.1 b;unfold tcl; rw[HO]; omega
 have f:=bOM (by rw[List.length_map]; exact g) j (by rw[List.length_map]; omega);rw[norm_eq j,<- hm]at f;have hp:=xK (v.map λt=>tcl n r K (ivL n t));rw[hm]at f;refine bZ8 h c l m (v.map (ivL n)) (by rw[List.length_map]; exact g) (by rw[List.length_map]; omega) (λx b=>?_) (λx b a k=>?_) (λx b i hi=>?_) (by rw[hm]; exact f) W;obtain⟨t,_,rfl⟩:=List.mem_map.1 b;exact aO6;obtain⟨t,_,rfl⟩:=List.mem_map.1 b;have:=aLW a k; omega;obtain⟨t,_,rfl⟩:=List.mem_map.1 b;have:=bG0 hk n4 (x:=ivL n t) aLW hi; omega
end
def bE8(p:Int×List I4×Bool)(hp:(0<=p.1/\p.1<256)/\∀ t∈p.2.1,I8 t)(x:List Int)(v:List I4)(M:∀ t∈v,I8 t):dD (p,x,v,())=some (true,()):=by
 have⟨a,b,c⟩:=p;have l:=bTW (a,(b,c));by_cases c1:b.length<=3
 case neg =>
  rw[oF c1]at l;simp only[dD,aHL,l,zz]
 rw[oT c1]at l;by_cases c2:x.length<=8
 case neg =>
  have s:ltI 8 (x.length:Int)=true:=ze
  simp only[dD,aHL,l,s,zz]
 have s:ltI 8 (x.length:Int)=false:=zf
 by_cases c3:v.length<=9
 case neg =>
  have u:ltI 9 (v.length:Int)=true:=ze
  simp only[dD,aHL,l,s,u,zz]
 have u:ltI 9 (v.length:Int)=false:=zf
 have⟨d,r,C,K,m1,rt,D,I⟩:=bEB a hp.1.1 hp.1.2 b c1 hp.2 c;have h:=bPY (a%10).toNat Z;generalize L12.getD (a%10).toNat []=ps at m1 rt D I h;generalize N:ps.length=n at m1 h rt D I;have g:=bPH rt h;have k:=bSI rt x v c3 M;have⟨q,B⟩:=rt.hk;cases o:S6 r K with
 | true =>
  rw[o]at g;have J:r=0\/K 0 0=0:=by unfold S6 at o; simpa using o
  have t1:=bFS rt h J;have i:eqI 26 0=false:=zP
  have t2:rD ((ps,(Mr d n C,Mr r n K)),x,())=some ([],26,()):=by simp only[rD,t1,i,zz]
  have t3:EA ((ps,(Mr d n C,Mr r n K)),v.map (ivL n),())=some ((([],([],[])),[]),26,()):=by simp only[EA,t1,i,zz]
  simp only[dD,aHL,l,s,u,m1,t2,zz];rw[k];simp only[t3,g,zz];decide
 | false =>
  rw[o]at g;unfold S6 at o;rw[Bool.or_eq_false_iff]at o;have j:1<=r:=by have:=of_decide_eq_false o.1; omega
  have E:0<K 0 0:=by
   have:=of_decide_eq_false o.2;have:=a8L B j;omega
  have P:=(Hn.wR B rt.wk).1;have n4:=rt.n4;have⟨e,t1,hC⟩:=bSD rt h j E x Z;have⟨m,S,t2⟩:=bXP x Z;have w:EA ((ps,(Mr d n C,Mr r n K)),[],())=some ((([],([],[])),[]),13,()):=by
   have s1:=U0 rt h j E;simp only[EA,s1,e00,zz];rfl
  have L:∀ (Q:List Int) (R:Int),∃ G f,EA ((ps,(Mr d n C,Mr r n K)),v.map (ivL n),())=some (G,f,()) /\
    ((eqI (v.length:Int) 0=true/\eqI (G.2.length:Int) 0=true/\eqI f 13=true) \/
      (eqI (v.length:Int) 0=false/\aU (v,(ps,(Mr d n C,Mr r n K)),v.map (ivL n),[],G,f,0,())=some ((ps,(Mr d n C,Mr r n K)),G.2,G,f,())/\f=0/\G.1=(ps,(Mr d n C,Mr r n K))/\bE (G.2,G.2,())=some (true,()))):=λ_ _=>by
   by_cases c0:v.length=0
   ·obtain rfl:=List.eq_nil_of_length_eq_zero c0;exact⟨_,_,w,.inl ⟨rfl,rfl,rfl⟩⟩
   ·have hp:=xK (v.map λt=>tcl n r K (ivL n t));refine⟨_,_,bL2 rt D h j E v Z c3,.inr ⟨zh,bRE rt D h j E v c3 _ _,rfl,rfl,aZM (MB (v.map λt=>tcl n r K (ivL n t))) (by have:=hp.2.2; rw[List.length_map]at this; omega) λy O=>?_⟩⟩;obtain⟨t,_,rfl⟩:=List.mem_map.1 ((hp.2.1 y).1 O);unfold tcl; rw[HO]; omega
  have⟨G,f,g1,g2⟩:=L [] 0;have⟨G1,G2⟩:=G;have H:=bN0 rt;rcases hC with ⟨h1,h2⟩|⟨rfl,h1,h2⟩|⟨rfl,h1,h2,h3⟩
  ·have i:eqI e 0=false:=by rw[bN]; exact oF h1
   have z:ltI 0 (([]:List Int).length:Int)=false:=zP
   have A:=a0C e;simp only[dD,aHL,l,s,u,m1,h2,zz];rw[k];rcases g2 with ⟨k1,k2,k3⟩|⟨k1,k2,rfl,k4,k5⟩
   ·dsimp only at k2;simp only[g1,g,t1,t2,i,z,A,k1,k2,k3,zz]
   ·dsimp only at k4 k5;subst k4;simp only[g1,g,t1,t2,i,z,A,k1,zz];rw[k2];simp only[e00,H,k5,zz]
  ·have i:eqI (x.length:Int) ((Mr r n K).length:Int)=false:=by rw[bN,eO]; exact oF Z
   have z:ltI 0 (([]:List Int).length:Int)=false:=zP
   have A:=a0C 5;simp only[dD,aHL,l,s,u,m1,h2,zz];rw[k];rcases g2 with ⟨k1,k2,k3⟩|⟨k1,k2,rfl,k4,k5⟩
   ·dsimp only at k2;simp only[g1,g,t1,t2,e00,i,z,A,k1,k2,k3,zz]
   ·dsimp only at k4 k5;subst k4;simp only[g1,g,t1,t2,e00,i,z,A,k1,zz];rw[k2];simp only[e00,H,k5,zz]
  ·have i:eqI (x.length:Int) ((Mr r n K).length:Int)=true:=by rw[bN,eO]; exact oT Z
   have F:=ON (cl r (K 0 0) x) (cl r (K 0 0) x) (by rw[HO]; omega);rw[oT rfl]at F;simp only[dD,aHL,l,s,u,m1,h2,zz];rw[k];rcases g2 with ⟨k1,k2,k3⟩|⟨k1,k2,rfl,k4,k5⟩
   ·dsimp only at k2;cases hm:ltI 10000 m <;> simp only[g1,g,t1,t2,e00,i,h3,F,hm,k1,k2,k3,zz]
   ·dsimp only at k4 k5;subst k4;cases hm:ltI 10000 m <;> simp only[g1,g,t1,t2,e00,i,h3,F,hm,k1,zz] <;> rw[k2] <;> simp only[e00,H,k5,zz]
end Go.PM
