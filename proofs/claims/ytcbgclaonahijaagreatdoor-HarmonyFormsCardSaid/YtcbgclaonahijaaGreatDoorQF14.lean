/- Texts of one proof, joined (14). -/
import Derived.Test.YtcbgclaonahijaaGreatDoorQF13
set_option linter.unusedSimpArgs false
set_option linter.unusedVariables false
set_option linter.defProp false
set_option maxRecDepth 100000
noncomputable section
namespace Go.PM
open Go Go.RowKit Go.Proofs Tryz
set_option maxHeartbeats 4000000
open Go.Lz
def aY0(x:List Int)(m:x.length<=64):∃ e,kH (x,())=some (e,())/\(e=0->∀ a∈x,a.natAbs<=1000000000):=by
 have g:ltI 64 (x.length:Int)=false:=zf
 have key:=ME (step:=cH) (N:=2^64) (λt=>(x,(),(x.length:Int),(t:Int),())) (λt=>¬ (x.getD t 0).natAbs<=1000000000) (λj=>.inl ((j:Int),())) x.length (.inr ()) Z (λt ht=>?_) ?_
 ·rcases key with ⟨j,h1,b,h3,f⟩|⟨h1,b⟩
  ·have f:fP (x,(),(x.length:Int),0,())=some (.inl ((j:Int),())):=f;have c:ltI (j:Int) 0=false:=zf
   exact⟨4,by simp only[kH,g,gZ,kV,f,c,zz],λh=>by cases h⟩
  have b:fP (x,(),(x.length:Int),0,())=some (.inr ()):=b;have c:ltI (-1) 0=true:=O;refine⟨0,by simp only[kH,g,gZ,kV,b,c,zz],λ_ a k=>?_⟩;obtain⟨i,hi,rfl⟩:=Q4.1 k;exact Decidable.not_not.1 (h1 i hi)
 have l:=bP t Z;simp only[cH,lI ht,iO ht,tN,l,aEZ,aFV,aF,oC];by_cases d:x.getD t 0 < -1000000000;rw[oT d,if_pos Z]; rfl;by_cases a2:1000000000<x.getD t 0;rw[oF d,oT a2,if_pos Z]; rfl;rw[oF d,oF a2,if_neg Z]; rfl;simp only[cH,lN,oD]
def mxA(m a:Int):Int:=if m<(if a<IntKind.wrap .i64 (0-a) then IntKind.wrap .i64 (0-a) else a) then (if a<IntKind.wrap .i64 (0-a) then IntKind.wrap .i64 (0-a) else a) else m
def bXP(x:List Int)(d:x.length<=64):∃ m e,W9 (x,())=some (m,e,()):=by
 have⟨e,a,_⟩:=aY0 x d;by_cases c:e=0;subst c;have key:=aK (step:=aAS) (N:=2^64) (λt=>((x.take t).foldl mxA 0,x,(x.length:Int),(t:Int),())) x.length (x.foldl mxA 0,()) Z (λt ht=>?_) ?_;have key:aKY (0,x,(x.length:Int),0,())=_:=key;exact⟨_,_,by simp only[W9,a,e00,key,zz]; rfl⟩;have b:x.getD t 0=x[t]:=(by simp[List.getD,ht]);have f:=wS ht Z;rw[List.take_succ_eq_append_getElem ht,List.foldl_append];simp only[aAS,lI ht,iO ht,tN,b,a7S,f,zz]; rfl;simp only[aAS,lN,oD,List.take_length]
 ·have g:eqI e 0=false:=by rw[bN]; grind
  exact⟨_,_,by simp only[W9,a,g,zz]; rfl⟩
end Go.PM
