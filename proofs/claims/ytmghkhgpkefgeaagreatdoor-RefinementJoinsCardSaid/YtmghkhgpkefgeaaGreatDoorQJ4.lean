/- Texts of one proof, joined (4). -/
import Derived.ProofKit
import Derived.Lib.SmallJoins
import Derived.Test.YtmghkhgpkefgeaaGreatDoorRows
import Derived.LaidMore
import Derived.OpenShut
import Derived.Lib.LaidU8
import Derived.MakeChecks
import Derived.Test.YtmghkhgpkefgeaaGreatDoorProg
import Derived.KernelRfl
import Derived.OrdersIn
import Derived.TacticsIn
import Derived.RangeFuncRecord
import Derived.Sort.LoopGhostIn
import Derived.RangeFuncSeq
import Derived.Lib.AppendIntMem
import Derived.WalkKit
import Derived.BigCall
import Derived.BigGuard
import Derived.Test.YtmghkhgpkefgeaaGreatDoorQJ3
set_option linter.unusedSimpArgs false
set_option linter.unusedVariables false
set_option maxRecDepth 100000
noncomputable section
namespace Go.PM
open Go Go.RowKit Go.ChangeShapes Go.WideShapes Go.ChangeAt Go.Joins
theorem aKS(b off n:Nat):(⟨b,off,none⟩:Addr).add n=⟨b,off+n,none⟩:=by cases n <;> simp[Addr.add]
def WF:(t:Ty)->t.den->Prop
 | .int k,x=>(Lit.int k x).wf=true
 | .bool,_=>True
 | .str,s=>s.size<=maxLen
 | .hnd _,_=>True
 | .rows _,_=>True
 | .list t,l=>l.length<=maxLen/\∀ a∈l,WF t a
 | .prod a b,(x,y)=>WF a x/\WF b y
abbrev GW(w:World):Gd:=Gd.of λb=>b<w.heap.size
def OpT(P:Program) (t:TypeId) (T:Ty):Prop :=
 P.cellsOf t=T.size/\∀ (H:Type) (en:TypeId×Value->H) (w:World) (base:Nat) (spare:Nat->Bool) (held:Bool) (fuel:Nat) (cs:List Value) (x:DataW H×List MemPlace),
  DataW.trod en P w base spare held fuel t cs=some x->∃ a:T.den,VRs w (GW w) aI (enc T a) cs/\WF T a
section
variable {P:Program}
theorem aJN {w:World}{G:Gd}{p:PV}{v:Value}(h:VR w G aI p v):VRs w G aI [p] [v]:=by rw[VRs]; exact⟨v,[],rfl,h,by rw[VRs]⟩
theorem aHY {t:TypeId}{k:IntKind}(ht:P.underlying t=some (.int k))(hc:P.cellsOf t=1):OpT P t (.int k):=by
 refine⟨hc,λH en w base spare held fuel cs x h=>?_⟩;obtain⟨n,rfl,-,wf⟩:=DataW.trod_int ht h;exact⟨n,aJN (by rw[VR]),wf⟩
theorem aKK {t:TypeId}(ht:P.underlying t=some .bool)(hc:P.cellsOf t=1):OpT P t .bool:=by
 refine⟨hc,λH en w base spare held fuel cs x h=>?_⟩;obtain⟨n,rfl,-⟩:=DataW.trod_bool ht h;exact⟨n,aJN (by rw[VR]),trivial⟩
theorem aL.app {w:World}{G:Gd}{b:Nat}:∀ {ps qs:List PV} {off:Nat},aL w G aI b off ps->aL w G aI b (off+ps.length) qs->aL w G aI b off (ps++qs)
 | [],qs,off,_,h=>h
 | p::ps,qs,off,h,k=>by
  rw[aL]at h;rw[List.cons_append,aL];refine⟨h.1,aL.app h.2 ?_⟩;rw[List.length_cons]at k;rwa[Nat.add_assoc,Nat.add_comm 1]
theorem aL.aY9 {w:World}{G:Gd}{b:Nat}:∀ {ps:List PV} {vs:List Value} {off:Nat},VRs w G aI ps vs->(∀ i (h:i<vs.length),w.cell? ⟨b,off+i,none⟩=some vs[i])->aL w G aI b off ps
 | [],vs,off,_,_=>by rw[aL]; trivial
 | p::ps,vs,off,h,k=>by
  rw[VRs]at h;obtain⟨x,xs,rfl,h2,h3⟩:=h;rw[aL];refine⟨⟨x,k 0 (by simp),h2⟩,aL.aY9 h3 λi hi=>?_⟩;have:=k (i+1) (by simpa using hi);rw[Nat.add_assoc,Nat.add_comm 1 i];exact this
theorem aNM {w:World}{T:Ty}{b:Nat}:∀ (l:List T.den) (off:Nat),(∀ i (h:i<l.length),aL w (GW w) aI b (off+i*T.size) (enc T l[i]))->aL w (GW w) aI b off (aG T l)
 | [],off,_=>by show aL w _ aI b off []; rw[aL]; trivial
 | a::l,off,h=>by
  show aL w _ aI b off (enc T a++aG T l);refine aL.app (by have:=h 0 (by simp); rw[Nat.zero_mul,Nat.add_zero]at this; exact this) ?_;rw[uN];refine aNM l _ λi hi=>?_
  have:=h (i+1) (by simpa using hi);rw[Nat.add_mul,Nat.one_mul,Nat.add_comm (i*_),<- Nat.add_assoc]at this;exact this
theorem aME {t e:TypeId}{T:Ty}(ht:P.underlying t=some (.slice e))(hc:P.cellsOf t=1)(he:OpT P e T):OpT P t (.list T):=by
 refine⟨hc,λH en w base spare held fuel cs x h=>?_⟩;rcases DataW.trod_slice ht h with ⟨rfl,-⟩|⟨a,len,cap,elems,rest,n,-,rfl,-,-,hl,hm,hel,hx,-,-⟩
 ·refine⟨[],aJN ?_,⟨Nat.zero_le _,λa ha=>(by simp at ha)⟩⟩;rw[VR];refine⟨?_,rfl⟩;rw[VR];exact⟨none,0,rfl,oM _,λk hk=>(by cases hk),.inl rfl⟩
 ·have each:∀ i,i<len->∃ q:T.den,∃ es,(∀ j (_:j<es.length),w.cell? ((a.add (i*T.size)).add j)=some es[j])/\VRs w (GW w) aI (enc T q) es/\WF T q:=by
   intro i hi;have h1:=hx i hi;rw[List.getElem?_eq_getElem (by omega)]at h1;obtain⟨es,h2,h3⟩:=Option.bind_eq_some_iff.1 h1;obtain⟨q,hq⟩:=he.2 _ _ _ _ _ _ _ _ _ h3;rw[he.1]at h2;obtain⟨-,hlen,hcell⟩:=World.cells?_some h2;refine⟨q,es,λj hj=>?_,hq⟩;rw[hcell j (by omega),List.getElem?_eq_getElem hj]
  by_cases h0:len=0
  ·subst h0;refine⟨[],aJN ?_,⟨Nat.zero_le _,λa ha=>(by simp at ha)⟩⟩;rw[VR];refine⟨?_,rfl⟩;rw[VR];exact⟨some a,cap,rfl,hl,λk hk=>(by cases hk),.inl rfl⟩
  ·have hne:Nonempty T.den:=let ⟨q,_⟩:=each 0 (by omega); ⟨q⟩
   have key:∃ f:Nat->T.den,∀ i,i<len->∃ es,(∀ j (_:j<es.length),w.cell? ((a.add (i*T.size)).add j)=some es[j])/\VRs w (GW w) aI (enc T (f i)) es/\WF T (f i):=by
    classical
    refine⟨λi=>if hi:i<len then Classical.choose (each i hi) else Classical.choice hne,λi hi=>?_⟩;simp only[dif_pos hi];exact Classical.choose_spec (each i hi)
   obtain⟨f,hf⟩:=key;obtain⟨b,off,spot⟩:=a;have hfirst:∃ v,w.cell? ⟨b,off,spot⟩=some v:=by
    obtain⟨es,h1,h2,-⟩:=hf 0 (by omega);have hpos:0<es.length:=by rw[<- VRs.length h2,uN]; exact T.size_pos
    have:=h1 0 hpos;exact⟨_,by simpa[Addr.add]using this⟩
   have hspot:spot=none:=by
    obtain⟨v,hv⟩:=hfirst;simpa using World.cell?_spot hv
   subst hspot;have hb:b<w.heap.size:=by
    obtain⟨v,hv⟩:=hfirst;cases hh:w.heap[b]? with
    | none=>simp[World.cell?,hh]at hv
    | some o=>exact fL hh
   refine⟨(List.range len).map f,aJN ?_,?_⟩
   ·rw[VR];refine⟨?_,rfl⟩;rw[VR];refine⟨some ⟨b,off,none⟩,cap,by simp,by simpa using hl,λk hk=>(by cases hk),.inr ⟨b,off,rfl,hb,?_⟩⟩;refine aNM _ _ λi hi=>?_
    have hi':i<len:=by simpa using hi
    obtain⟨es,h1,h2,-⟩:=hf i hi';have e1:((List.range len).map f)[i]=f i:=by simp
    rw[e1];refine aL.aY9 h2 λj hj=>?_
    have:=h1 j hj;rw[aKS,aKS]at this;exact this
   ·refine⟨by simpa using oR hl hm,?_⟩;intro q hq;obtain⟨i,hi,rfl⟩:=List.mem_map.1 hq;obtain⟨es,-,-,h3⟩:=hf i (by simpa using hi);exact h3
def aPK(P:Program):List Field->Nat->Ty->Prop
 | [],_,_=>False
 | [f],off,T=>f.offset=off/\OpT P f.type T
 | f::g::r,off,.prod a b=>f.offset=off/\OpT P f.type a/\aPK P (g::r) (off+a.size) b
 | _::_::_,_,_=>False
theorem aJO {w:World}:∀ (fs:List Field) (off:Nat) (T:Ty) (cs:List Value),aPK P fs off T->cs.length=off+T.size->(∀ f∈fs,∀ A:Ty,OpT P f.type A->∃ a:A.den,VRs w (GW w) aI (enc A a) ((cs.drop f.offset).take A.size)/\WF A a) ->
  ∃ a:T.den,VRs w (GW w) aI (enc T a) (cs.drop off)/\WF T a
 | [],_,_,_,h,_,_=>h.elim
 | [f],off,T,cs,h,hl,hx=>by
  obtain⟨rfl,h2⟩:=h;obtain⟨a,h3,h4⟩:=hx f (by simp) T h2;rw[List.take_of_length_le (by simp; omega)]at h3;exact⟨a,h3,h4⟩
 | f::g::r,off,.prod A B,cs,h,hl,hx=>by
  obtain⟨rfl,h2,h3⟩:=h;obtain⟨a,h4,h5⟩:=hx f (by simp) A h2;obtain⟨b,h6,h7⟩:=aJO (g::r) _ B cs h3 (by rw[hl,Ty.size]; omega) (λk hk=>hx k (List.mem_cons_of_mem _ hk));refine⟨(a,b),?_,h5,h7⟩;have:=VRs.append h4 h6;rw[<- List.drop_drop,List.take_append_drop]at this;exact this
 | _::_::_,_,.int _,_,h,_,_=>h.elim
 | _::_::_,_,.bool,_,h,_,_=>h.elim
 | _::_::_,_,.str,_,h,_,_=>h.elim
 | _::_::_,_,.list _,_,h,_,_=>h.elim
theorem aCO {t:TypeId}{fs:Array Field}{T:Ty}(ht:P.underlying t=some (.struct fs))(hc:P.cellsOf t=T.size)(hf:aPK P fs.toList 0 T):OpT P t T:=by
 refine⟨hc,λH en w base spare held fuel cs x h=>?_⟩;obtain⟨xs,n,-,-,hl,hx,hi⟩:=DataW.trod_struct ht h;obtain⟨a,h1,h2⟩:=aJO (w:=w) fs.toList 0 T cs hf (by rw[hl,hc,Nat.zero_add]) (λf hf A hA=>by
  obtain⟨i,hi',rfl⟩:=List.getElem_of_mem hf;have hs:i<fs.size:=by simpa using hi'
  have h3:=hi i fs[i] (by simp[hs]);rw[List.getElem?_eq_getElem (by omega)]at h3;have hA1:=hA.1;simp only[Array.getElem_toList]at hA1 hA ⊢;rw[hA1]at h3;exact hA.2 _ _ _ _ _ _ _ _ _ h3)
 exact⟨a,by simpa using h1,h2⟩
def Ty.arr (T:Ty):Nat->Ty
 | 0=>T
 | n+1=>.prod T (Ty.arr T n)
theorem aRX(T:Ty):∀ n,(Ty.arr T n).size=(n+1)*T.size
 | 0=>by simp[Ty.arr]
 | n+1=>by simp only[Ty.arr,Ty.size,aRX T n]; rw[Nat.add_mul (n+1) 1]; omega
theorem aVU {w:World}{T:Ty}{cs:List Value}:∀ (n i:Nat),cs.length=(i+n+1)*T.size->(∀ j,i<=j->j<i+n+1->∃ a:T.den,VRs w (GW w) aI (enc T a) ((cs.drop (j*T.size)).take T.size)/\WF T a) ->
  ∃ a:(Ty.arr T n).den,VRs w (GW w) aI (enc (Ty.arr T n) a) (cs.drop (i*T.size))/\WF (Ty.arr T n) a
 | 0,i,hl,hx=>by
  obtain⟨a,h3,h4⟩:=hx i (oM _) (by omega);rw[List.take_of_length_le (by rw[List.length_drop,hl,Nat.add_zero,Nat.add_mul,Nat.one_mul]; omega)]at h3;exact⟨a,h3,h4⟩
 | n+1,i,hl,hx=>by
  obtain⟨a,h4,h5⟩:=hx i (oM _) (by omega);obtain⟨b,h6,h7⟩:=aVU n (i+1) (by rw[hl]; congr 1; omega) (λj h1 h2=>hx j (by omega) (by omega));refine⟨(a,b),?_,h5,h7⟩;have:=VRs.append h4 h6;rw[Nat.add_mul,Nat.one_mul,<- List.drop_drop,List.take_append_drop]at this;exact this
theorem aMO {t e:TypeId}{n:Nat}{T:Ty}(ht:P.underlying t=some (.array (n+1) e))(hc:P.cellsOf t=(n+1)*T.size)(he:OpT P e T):OpT P t (Ty.arr T n):=by
 refine⟨by rw[hc,aRX],λH en w base spare held fuel cs x h=>?_⟩;obtain⟨xs,m,-,-,hl,hx,hi⟩:=DataW.trod_array ht h;rw[he.1]at hi;obtain⟨a,h1,h2⟩:=aVU (w:=w) (T:=T) (cs:=cs) n 0 (by rw[hl,hc,Nat.zero_add]) (λj _ h2=>by
  have h3:=hi j (by omega);rw[List.getElem?_eq_getElem (by omega)]at h3;exact he.2 _ _ _ _ _ _ _ _ _ h3)
 exact⟨a,by simpa using h1,h2⟩
def OpK(P:Program) (t:TypeId) (k:Kd) (W:k.den->Prop):Prop :=
 ∀ {H:Type} {en:TypeId×Value->H} {w:World} {base b0:Nat} {spare:Nat->Bool} {held:Bool} {r:Reach} {v:Value} {d:DataW H} {p:List MemPlace},
  Value.okWide P w r b0 t v->DataW.Trod en P w base spare held t v d p->∃ x:k.den,VR w (GW w) aI (AQ k x 0) v/\W x
theorem a3N {t:TypeId}{T:Ty}(hs:∀ (w:World) (r:Reach) (b0:Nat) (v:Value),Value.okWide P w r b0 t v->∃ cs,v=.agg cs)(he:OpT P t T):OpK P t (.agg T) (WF T):=by
 intro H en w base b0 spare held r v d p hv h;obtain⟨cs,rfl⟩:=hs _ _ _ _ hv;obtain⟨fuel,hf⟩:=h;obtain⟨l,h1,h2⟩:=he.2 _ _ _ _ _ _ _ _ _ hf;refine⟨l,?_,h2⟩;rw[AQ,VR];exact⟨cs,rfl,h1⟩
theorem aT2 {t:TypeId}{fs:Array Field}{T:Ty}(ht:P.underlying t=some (.struct fs))(he:OpT P t T):OpK P t (.agg T) (WF T) :=
 a3N (λw r b0 v h=>by obtain⟨cs,h1,-⟩:=okWide_struct ht h; exact⟨cs,h1⟩) he
theorem aZX {g:FuncId} {args:List Kd} {f:aK args->Option (aK [.bool])} (hf:UZ P g args [.bool] f) {x:aK args} (hx:f x=some (true,())) {w:World} (hT:Lt w λb=>b<w.heap.size) {vs:Array Value} (hv:VRs w (GW w) aI (lO args x) vs.toList) :
  Calls P g vs w λe w'=>e=.returned (.bool true)/\Below w.heap.size w w':=by
 obtain⟨-,h⟩:=hf x _ hx w (λb=>b<w.heap.size) vs hT hv;refine h.mono ?_;rintro e w' ⟨v',G',rfl,e1,-,e3⟩;refine⟨?_,e1.os,e1.tape,e1.output,e1.size,λb hb=>e1.old b hb (Nat.not_le.2 hb)⟩;have e3:VR w' (Gd.of G') aI (.lit (.bool true)) v':=e3;rw[VR]at e3;rw[e3]
theorem aZW {w:World}{G:Gd}{p:PV}{v:Value}{ps:List PV}{vs:List Value}(h:VR w G aI p v)(k:VRs w G aI ps vs):VRs w G aI (p::ps) (v::vs):=by rw[VRs]; exact⟨v,vs,rfl,h,k⟩
theorem a3G {w:World}{G:Gd}:VRs w G aI [] []:=by rw[VRs]
end
theorem aMU {H:Type}{enc:TypeId×Value->H}{P:Program}(hl:laidOutB P=true){W W':World}(hb:Below W.heap.size W W') :
  ∀ (ts:List TypeId) (vs:List Value) (ds:List (DataW H)) (ps:List MemPlace),(∀ t∈ts,P.readableRec t=true/\t<P.types.size)->(∀ x∈ps,x.block<W.heap.size) ->
   DataW.TrodAll enc P W 0 (λ_=>true) true ts vs ds ps->DataW.TrodAll enc P W' 0 (λb=>decide (b<W.heap.size)) true ts vs ds ps
 | [],vs,ds,ps,_,_,h=>by
  unfold DataW.TrodAll at h ⊢;split at h <;> simp_all
 | t::ts,vs,ds,ps,ht,hlt,h=>by
  obtain⟨v,vs',d,ds',p,q,rfl,rfl,rfl,h1,h2⟩:=trodAll_cons h;exact⟨p,q,Below.trod hl (ht t (by simp)).1 (ht t (by simp)).2 h1 hb (λx hx=>hlt x (by simp[hx])),aMU hl hb ts vs' ds' q (λt h=>ht t (by simp[h])) (λx hx=>hlt x (by simp[hx])) h2,rfl⟩
theorem aRG {P:Program} {ts:List TypeId} (h:(ts.all λt=>P.readableRec t&&decide (t<P.types.size))=true):∀ t∈ts,P.readableRec t=true/\t<P.types.size:=by
 intro t ht;have:=List.all_eq_true.1 h t ht;simpa using this
theorem aU3 {H:Type} {enc:TypeId×Value->H} {P:Program} {f:Func} {s:ChangeSpec} {W W':World} {args:Array Value} {ds:List (DataW H)} {p:List MemPlace} {tb:TypeId} (hl:laidOutB P=true)
  (hts:∀ t∈f.params.toList,P.readableRec t=true/\t<P.types.size) (hr:f.resultTypes=#[tb]) (htb:P.underlying tb=some .bool)
  (hf1:(s.fn H (ds++[])).results=[.lit (.bool true)]) (hf2:(s.fn H (ds++[])).args=ds) (hf3:(s.fn H (ds++[])).vars=[]) (hv:s.vars=[])
  (hW:DataW.Whole enc P f.params.toList s.vars false W args.toList ds [] p) (hb:Below W.heap.size W W') :
  ∃ v,Ending.returned (.bool true)=Ending.returned v/\s.post enc P f false true false false W args v W':=by
 have hW':=hW;obtain⟨q,q',hA,hV,rfl,-,-⟩:=hW;refine⟨_,rfl,ds,[],_,[],q,[],hW',?_,?_,?_,hb.frame _,λh=>by cases h⟩
 ·rw[hf1,hr]; exact trodAll_mk1 (shut_bool htb true)
 ·rw[hf2]; exact aMU hl hb _ _ _ _ hts (λx hx=>hW'.lt x (by simp[hx])) hA
 ·rw[hf3,hv]; rfl
end Go.PM
namespace Go.Proofs.YtmghkhgpkefgeaaGreatDoor
theorem Tryz.own:ownKnob Tryz.prog.godebug=none:=by kernel_rfl
theorem Tryz.laidOut:laidOutB Tryz.prog=true:=by kernel_rfl
end Go.Proofs.YtmghkhgpkefgeaaGreatDoor
namespace Go.Proofs.YtmghkhgpkefgeaaGreatDoor
open Go Go.ChangeShapes Go.WideShapes Go.ChangeAt Go.RowKit Go.Joins Go.PM
abbrev aR3:List (String×DataW Unit):=[("math/bits.deBruijn32tab",Rows.laid_math_bits_deBruijn32tab),("math/bits.deBruijn64tab",Rows.laid_math_bits_deBruijn64tab),("internal/strconv.uint64pow10",Rows.laid_internal_strconv_uint64pow10),("strconv.ErrRange",Rows.laid_strconv_ErrRange),("strconv.ErrSyntax",Rows.laid_strconv_ErrSyntax)]
theorem a09(os:Os)(args:Array Value):laidMetH Tryz.prog aR3 ((World.doorLaid Tryz.prog 4000 os).forCall (λ_ _=>0) ⟨#[],args,[]⟩).memory :=
 laidMetH_of_parts3 (fuel:=8) (laidMet_of_run' 8 (by kernel_rfl) (by kernel_rfl)) (by kernel_rfl) (by kernel_rfl)
theorem aSY {H:Type} {enc:TypeId×Value->H} {P:Program} {w:World} {base:Nat} {sp:Nat->Bool} {fuel:Nat} {t:TypeId} {ms} {cs:List Value} {n:String} {d:DataW H} {p:List MemPlace}
  (ht:P.underlying t=some (.interface ms)) (h:DataW.trod enc P w base sp false fuel t cs=some (.iface n d,p)):∃ u v,cs=[.iface u v]:=by
 cases fuel with
 | zero=>simp[DataW.trod]at h
 | succ fuel =>
  simp only[DataW.trod,ht]at h;split at h <;> first
   | exact⟨_,_,rfl⟩
   | (exfalso; simp_all; done)
theorem aRV {P:Program}{w:World}{n:String}{g:Nat}{cs:Array Value}(hg:P.globalNamed n=some g)(h:w.var? P n=some cs):∃ t fr,w.heap[g]?=some (.cells cs t fr):=by
 unfold World.var? at h;rw[hg]at h;simp only[Option.bind_some]at h;split at h
 ·rename_i c t fr e;cases h;exact⟨t,fr,e⟩
 ·cases h
theorem aKN {w:World} {n:String} {g:Nat} {t:TypeId} {ms} {m:String} {d:DataW Unit} (hg:Tryz.prog.globalNamed n=some g) (hty:(Tryz.prog.globals[g]?).map (·.type)=some t) (ht:Tryz.prog.underlying t=some (.interface ms))
  (h:Lib.VarReads Tryz.prog w n (.iface m d)):aCW w.heap[g]?:=by
 obtain⟨g',t',cs,fuel,p,hg',ht',hvar,hd⟩:=h;obtain rfl:=oB (hg.symm.trans hg');obtain rfl:=oB (hty.symm.trans ht');obtain⟨u,v,e⟩:=aSY ht hd;obtain⟨t2,fr,e2⟩:=aRV hg hvar;refine⟨u,v,t2,fr,?_⟩;rw[e2]
 congr 2
 exact Array.toList_inj.1 e
theorem a2Q {w:World} (h:laidMetH Tryz.prog aR3 w):Lt w λb=>b<w.heap.size:=by
 rw[MakeChecks.laidMetH_plain _ _ _ (by kernel_rfl)]at h;have lt:∀ {g:Nat} {q:Option Obj->Prop},q w.heap[g]?->¬ q none->g<w.heap.size:=λ{g q} h1 h2=>by
  rcases oG g w.heap.size with h|h
  ·exact h
  ·rw[Array.getElem?_eq_none h]at h1;exact absurd h1 h2
 have nIf:¬ aCW none:=λ⟨_,_,_,_,e⟩=>by cases e
 refine⟨λ_ h=>h,λp hp=>?_⟩;have main:p.2 w.heap[p.1]?/\¬ p.2 none:=by
  rcases List.mem_cons.1 hp with rfl|hp
  ·refine⟨?_,λ⟨_,_,e⟩=>by cases e⟩;obtain⟨g',t',cs,fuel,q,hg',ht',hvar,hd⟩:=Lib.laidMet.reads h (n:= "internal/strconv.uint64pow10") (d:=Rows.laid_internal_strconv_uint64pow10) (.tail _ (.tail _ (.head _)));obtain rfl:=oB ((show Tryz.prog.globalNamed "internal/strconv.uint64pow10"=some 2 by kernel_rfl).symm.trans hg');have hd:DataW.trod (λ_=>()) Tryz.prog w 0 (λ_=>true) false fuel t' cs.toList=some (Lib.tabData .u64 [1,10,100,1000,10000,100000,1000000,10000000,100000000,1000000000,10000000000,100000000000,1000000000000,10000000000000,100000000000000,1000000000000000,10000000000000000,100000000000000000,1000000000000000000,10000000000000000000],q):=hd
   obtain⟨t,hty⟩:∃ t,(Tryz.prog.globals[2]?).map (·.type)=some t:=⟨_,ht'⟩;obtain rfl:=oB (hty.symm.trans ht');have hcs:=Lib.cells_of_tab (P:=Tryz.prog) (t:=275) (e:=180) (n:=20) Tryz.underlying275 Tryz.underlying180 (by kernel_rfl) (by kernel_rfl) (show DataW.trod (λ_=>()) Tryz.prog w 0 (λ_=>true) false fuel 275 cs.toList=_ by
    rw[<- oB ((show (Tryz.prog.globals[2]?).map (·.type)=some 275 by kernel_rfl).symm.trans hty)]at hd;exact hd)
   obtain⟨t2,fr,e2⟩:=aRV (by kernel_rfl) hvar;refine⟨t2,fr,?_⟩;rw[e2]
   congr 2
   exact Array.toList_inj.1 hcs
  ·rcases List.mem_cons.1 hp with rfl|hp
   ·exact⟨aKN (n:= "strconv.ErrSyntax") (t:=219) (by kernel_rfl) (by kernel_rfl) Tryz.underlying219 (Lib.laidMet.reads h (.tail _ (.tail _ (.tail _ (.tail _ (.head _)))))),nIf⟩
   ·rcases List.mem_cons.1 hp with rfl|hp
    ·exact⟨aKN (n:= "strconv.ErrRange") (t:=219) (by kernel_rfl) (by kernel_rfl) Tryz.underlying219 (Lib.laidMet.reads h (.tail _ (.tail _ (.tail _ (.head _))))),nIf⟩
    ·cases hp
 exact⟨lt main.1 main.2,main.1⟩
end Go.Proofs.YtmghkhgpkefgeaaGreatDoor
namespace Go.PM
open Go Go.RowKit
structure Ent where
 g:FuncId
 args:List Kd
 rets:List Kd
 f:aK args->Option (aK rets)
def Ent.OK (P:Program)(e:Ent):Prop:=UZ P e.g e.args e.rets e.f
def aL7:List Ent->FuncId->List PV->Option Res
 | [],_,_=>none
 | e::r,g,qs=>bif Nat.beq e.g g then (match aWM e.args e.rets e.f qs with
   | some s=>some s
   | none=>aL7 r g qs)
  else aL7 r g qs
def JB(l:List Ent):Env:=⟨aL7 l,λ_ _ _=>none,λ_=>false⟩
theorem aEN {P:Program}:∀ {l:List Ent},(∀ e∈l,e.OK P)->∀ g qs r,aL7 l g qs=some r->∀ y,r.val=some y->LO P g qs (r.out y)
 | [],_,g,qs,r,h=>by cases h
 | e::l,hl,g,qs,r,h=>by
  simp only[aL7]at h;cases hb:Nat.beq e.g g with
  | true =>
   rw[hb]at h;have:=oE hb;subst this;cases hs:aWM e.args e.rets e.f qs with
   | some s =>
    rw[hs]at h;have h:=oB h;subst h;exact aZ3 (hl e List.mem_cons_self) hs
   | none =>
    rw[hs]at h;exact aEN (λe he=>hl e (List.mem_cons_of_mem _ he)) _ qs r h
  | false =>
   rw[hb]at h;exact aEN (λe he=>hl e (List.mem_cons_of_mem _ he)) g qs r h
theorem a0A {P:Program}{l:List Ent}(hl:∀ e∈l,e.OK P):fR P (JB l) where
 pure:=aEN hl
 shr:=λ_ _ _ _ h=>by cases h
def aBF(P:Program):List Ent->Prop
 | []=>True
 | e::r=>e.OK P/\aBF P r
theorem aBH {P:Program}:∀ {l:List Ent},aBF P l->∀ e∈l,e.OK P
 | [],_,e,he=>by simp at he
 | a::r,h,e,he=>by
  rcases List.mem_cons.1 he with rfl|he
  ·exact h.1
  ·exact aBH h.2 e he
theorem aR {P:Program}{l:List Ent}(h:aBF P l):fR P (JB l):=a0A (aBH h)
def aPA(P:Program)(nt:Nat)(lt:Nat->Option cA):List Code->Prop
 | []=>True
 | a::r=>(∀ s,lt (bQ a)=some s->eS P nt a s)/\aPA P nt lt r
theorem aF0 {P:Program}{nt:Nat}{lt:Nat->Option cA}:∀ {l:List Code},aPA P nt lt l->∀ a∈l,∀ s,lt (bQ a)=some s->eS P nt a s
 | [],_,a,ha=>by simp at ha
 | b::r,h,a,ha=>by
  rcases List.mem_cons.1 ha with rfl|ha
  ·exact h.1
  ·exact aF0 h.2 a ha
theorem aQ {P:Program}{nt:Nat}{lt:Nat->Option cA}{c:Code}{l:List Code}(hc:a8 c=l)(h:aPA P nt lt l):∀ a∈a8 c,∀ s,lt (bQ a)=some s->eS P nt a s:=by rw[hc]; exact aF0 h
theorem fD {P:Program}{nt:Nat}{lt:Nat->Option cA}{a:Code}{i:Nat}{s0:cA}(hf:bQ a=i)(hlt:lt i=some s0)(h:eS P nt a s0):∀ s,lt (bQ a)=some s->eS P nt a s:=by
 intro s hs;rw[hf,hlt]at hs;cases hs;exact h
def dM(fn:Func):Code:=match fn.body with
 | some c=>c
 | none=>.skip
def iD(c:Code)(i:Nat):Code:=(a8 c).getD i .skip
def a3Q(l:List Func):Bool:=l.all λf=>!(f.name== "runtime.NumGoroutine")
theorem aYF {P:Program}(h1:P.follows .mixedOrders=true)(h2:a3Q P.funcs.toList=true):ME P where
 mixed:=h1
 names g fn hg:=by
  have hm:fn∈P.funcs.toList:=by
   rw[<- Array.getElem?_toList]at hg;exact List.mem_of_getElem? hg
  have:=List.all_eq_true.1 h2 fn hm;simpa using this
theorem aEP {α:Type 1}{b:Bool}{x:Option α}{y:α}(h:(bif b then x else none)=some y):b=true/\x=some y:=by
 cases b with
 | true=>exact⟨rfl,h⟩
 | false=>cases h
abbrev Shr:=FuncId×(List PV->Heap->Option aJ5)
def uT(P:Program)(s:Shr):Prop:=SortOKs P s.1 s.2
where SortOKs (P:Program) (g:FuncId) (f:List PV->Heap->Option aJ5):Prop:=∀ args H r,f args H=some r->∀ y,r.val=some y->∀ {n0 G μ w vs},aN n0 G μ H w->VRs w G μ args vs->xH P n0 w G μ g vs.toArray (r.out y).1 (r.out y).2
def a15(p:PV) (H:Heap):Option (PV×Heap):=match p with
 | .own s _=>match jS H s with
  | some k=>match k.tag with
   | some g=>some (L4 g.t g.l none,J0 H s)
   | none=>none
  | none=>none
 | _=>none
def FU:List PV->Heap->List PV×Heap
 | [],H=>([],H)
 | p::r,H=>match a15 p H with
  | some (q,H0)=>(q::(FU r H0).1,(FU r H0).2)
  | none=>(p::(FU r H).1,(FU r H).2)
def QL(skip:Nat)(f:List PV->Heap->Option aJ5)(qs:List PV)(H:Heap):Option aJ5:=match FU (qs.drop skip) H with
 | (ps,H1)=>f (qs.take skip++ps) H1
theorem aYV {n0:Nat->Prop}{G:Gd}{μ:Mp}{H:Heap}{w:World}(hW:aN n0 G μ H w){s sz:Nat}{k:Blk}{g:Tg}{v:Value}(hv:VR w G μ (.own s sz) v)(hk:jS H s=some k)(hg:k.tag=some g) :
  ∃ G',Ext n0 w G μ w G' μ/\aN n0 G' μ (J0 H s) w/\VR w G' μ (L4 g.t g.l none) v:=by
 have hfo:J0 H s=(bif k.frozen then H else H.set s (some { k with frozen:=true })):=by unfold J0; rw[hk]
 rw[hfo];cases hfz:k.frozen with
 | true =>
  refine⟨G,Ext.refl _ _ _ _,hW,(GJ hW hv hk hg (λb h=>h) (λb hb=>?_)).aY⟩;obtain⟨_,_,_,_,h5,_⟩:=hW.blk s k b (aJ hk) hb;exact h5 hfz
 | false =>
  obtain⟨e1,w1⟩:=RU hW (aJ hk) hfz;exact⟨_,e1,w1,(GJ (G':=G.or λx=>μ.loc s=some x) hW hv hk hg (λb h=>.inl h) (λb hb=>.inr hb)).aY⟩
theorem R7 {n0:Nat->Prop}{μ:Mp}{w:World}:∀ (qs:List PV) {H:Heap} {G:Gd} {vs:List Value},aN n0 G μ H w->VRs w G μ qs vs->∃ G',Ext n0 w G μ w G' μ/\aN n0 G' μ (FU qs H).2 w/\VRs w G' μ (FU qs H).1 vs
 | [],H,G,vs,hW,hv=>⟨G,Ext.refl _ _ _ _,hW,hv⟩
 | p::r,H,G,vs,hW,hv=>by
  rw[VRs]at hv;obtain⟨u,us,rfl,q1,q2⟩:=hv;have plain:∃ G',Ext n0 w G μ w G' μ/\aN n0 G' μ (FU r H).2 w/\VRs w G' μ (p::(FU r H).1) (u::us):=by
   obtain⟨G',e,h1,h2⟩:=R7 r hW q2;exact⟨G',e,h1,by rw[VRs]; exact⟨u,us,rfl,VR.mono e.toMono _ _ q1,h2⟩⟩
  rw[FU];cases hz:a15 p H with
  | none=>exact plain
  | some x =>
   obtain⟨q,H0⟩:=x;obtain⟨G1,e1,w1,v1⟩:∃ G',Ext n0 w G μ w G' μ/\aN n0 G' μ H0 w/\VR w G' μ q u:=by
    unfold a15 at hz;split at hz
    ·split at hz
     ·rename_i k hk;split at hz
      ·rename_i g hg;cases hz;exact aYV hW q1 hk hg
      ·cases hz
     ·cases hz
    ·cases hz
   obtain⟨G2,e2,w2,v2⟩:=R7 r w1 (VRs.mono e1.toMono _ _ q2);exact⟨G2,e1.trans e2,w2,by rw[VRs]; exact⟨u,us,rfl,VR.mono e2.toMono _ _ v1,v2⟩⟩
theorem aM2 {w:World}{G:Gd}{μ:Mp}:∀ (ps:List PV) {qs:List PV} {vs:List Value},VRs w G μ (ps++qs) vs->∃ v1 v2,vs=v1++v2/\VRs w G μ ps v1/\VRs w G μ qs v2
 | [],qs,vs,h=>⟨[],vs,rfl,by rw[VRs],h⟩
 | p::ps,qs,vs,h=>by
  rw[List.cons_append,VRs]at h;obtain⟨u,us,rfl,h1,h2⟩:=h;obtain⟨v1,v2,rfl,h3,h4⟩:=aM2 ps h2;exact⟨u::v1,v2,rfl,by rw[VRs]; exact⟨u,v1,rfl,h1,h3⟩,h4⟩
theorem rK {P:Program}{g:FuncId}{skip:Nat}{f:List PV->Heap->Option aJ5}(hf:uT P (g,f)):uT P (g,QL skip f):=by
 intro qs H rh h y hy n0 G μ w vs hW hv;have h:f (qs.take skip++(FU (qs.drop skip) H).1) (FU (qs.drop skip) H).2=some rh:=h;have hv:VRs w G μ (qs.take skip++qs.drop skip) vs:=by rw[List.take_append_drop]; exact hv
 obtain⟨v1,v2,rfl,hv1,hv2⟩:=aM2 _ hv;obtain⟨G',e,h1,h2⟩:=R7 _ hW hv2;obtain⟨c1,c2⟩:=hf _ _ rh h y hy h1 ((VRs.mono e.toMono _ _ hv1).append h2);refine⟨c1,c2.mono ?_⟩;rintro e' w' ⟨v',G1,μ1,rfl,ee,hW',hvv⟩;exact⟨v',G1,μ1,rfl,e.trans ee,hW',hvv⟩
def a3K:List Shr->FuncId->List PV->Heap->Option aJ5
 | [],_,_,_=>none
 | s::r,g,args,H=>bif Nat.beq g s.1 then s.2 args H else a3K r g args H
def shE:List Shr->FuncId->Bool
 | [],_=>false
 | s::r,g=>bif Nat.beq g s.1 then true else shE r g
def aT3(P:Program):List Shr->Prop
 | []=>True
 | s::r=>uT P s/\aT3 P r
theorem aVS {P:Program}:∀ {l:List Shr},aT3 P l->∀ g args H r,a3K l g args H=some r->∀ y,r.val=some y->∀ {n0 G μ w vs},aN n0 G μ H w->VRs w G μ args vs->xH P n0 w G μ g vs.toArray (r.out y).1 (r.out y).2
 | [],_,g,args,H,r,h=>by cases h
 | s::l,hl,g,args,H,r,h=>by
  simp only[a3K]at h;cases hb:Nat.beq g s.1 with
  | true =>
   rw[hb]at h;have:=oE hb;subst this;exact hl.1 args H r h
  | false =>
   rw[hb]at h;exact aVS hl.2 g args H r h
def KE(l:List Ent) (s:List Shr):Env:=⟨aL7 l,a3K s,shE s⟩
theorem l8 {P:Program}{l:List Ent}{s:List Shr}(h:aBF P l)(hs:aT3 P s):fR P (KE l s) where
 pure:=aEN (aBH h)
 shr:=aVS hs
open Go Go.RowKit Go.Proofs
abbrev tP:Program:=Tryz.prog
theorem bD:ME Tryz.prog:=aYF (by kernel_rfl) (by kernel_rfl)
abbrev oK(k:List Kd):Type:=Option (aK k)
abbrev oX(k:List (Ex×List (Nat×Kd))):Type:=Option (qI k)
abbrev oS(s:List (Nat×Kd)) (k:List (Ex×List (Nat×Kd))):Type:=Option (Shape.den s⊕qI k)
def oY(fn:Func) (n:Nat):Bool:=fn.body.isSome&&Nat.beq (a8 (dM fn)).length n
theorem oYb {fn:Func} {n:Nat} (h:oY fn n=true):fn.body=some (dM fn)/\(a8 (dM fn)).length=n:=by
 rw[oY,oA]at h;refine⟨?_,oE h.2⟩;have h1:=h.1;unfold dM;cases hb:fn.body with
 | some c=>rfl
 | none=>rw[hb]at h1; cases h1
theorem oW:aBF Tryz.prog []:=trivial
theorem oV {e:Ent} {l:List Ent} (h:Ent.OK Tryz.prog e) (t:aBF Tryz.prog l):aBF Tryz.prog (e::l):=⟨h,t⟩
theorem oI {E:Env} (hE:fR Tryz.prog E) {g:Nat} {fn:Func} (hg:Tryz.prog.funcs[g]?=some fn) (hc:oY fn 0=true) {args rets:List Kd} {f:aK args->Option (aK rets)} (hb:∀ x,aNA Tryz.prog E fn (aO fn) (λ_=>none) (dM fn) args rets x=f x):UZ Tryz.prog g args rets f:=aFF bD hE hg (oYb hc).1 (bG:=aO fn) (lt:=λ_=>none) (by rw[List.eq_nil_of_length_eq_zero (oYb hc).2]; intro a h; cases h) hb
theorem oU {E:Env} (hE:fR Tryz.prog E) {g:Nat} {fn:Func} (hg:Tryz.prog.funcs[g]?=some fn) (i:Nat) {sh:List (Nat×Kd)} {exits:List (Ex×List (Nat×Kd))} {step:Shape.den sh->Option (Shape.den sh⊕qI exits)} {lp:Shape.den sh->Option (qI exits)} (hlp:lp=bF step (2^64)) (hc:(oY fn 1&&(Nat.beq (a8 (iD (dM fn) 0)).length 0&&Nat.beq (bQ (iD (dM fn) 0)) i))=true) (hr:∀ x,jU Tryz.prog E fn.ntmps (aO fn) (λid=>bif Nat.beq id i then some ⟨sh,exits,lp⟩ else none) (iD (dM fn) 0) sh exits x=step x) {args rets:List Kd} {f:aK args->Option (aK rets)} (hb:∀ x,aNA Tryz.prog E fn (aO fn) (λid=>bif Nat.beq id i then some ⟨sh,exits,lp⟩ else none) (dM fn) args rets x=f x):UZ Tryz.prog g args rets f:=by
 subst hlp;rw[oA,oA]at hc;have hl:a8 (dM fn)=[iD (dM fn) 0]:=by
  have h:=(oYb hc.1).2;unfold iD;cases hl:a8 (dM fn)with
  | nil=>rw[hl]at h; cases h
  | cons a r =>
   rw[hl]at h;cases r with
   | nil=>rfl
   | cons b r=>simp at h
 exact aFF bD hE hg (oYb hc.1).1 (bG:=aO fn) (lt:=λid=>bif Nat.beq id i then some ⟨sh,exits,bF step (2^64)⟩ else none) (aQ (lt:=λid=>bif Nat.beq id i then some ⟨sh,exits,bF step (2^64)⟩ else none) hl ⟨fD (lt:=λid=>bif Nat.beq id i then some ⟨sh,exits,bF step (2^64)⟩ else none) (oE hc.2.2) (by rw[Nat.beq_refl]; rfl) (fF hE.callee bD.mixed _ (aQ (List.eq_nil_of_length_eq_zero (oE hc.2.1)) trivial) hr),trivial⟩) hb
end Go.PM
namespace Go.PM
open Go Go.RowKit
def posOf:List Nat->Nat->Option Nat
 | [],_=>none
 | x::l,r=>bif Nat.beq x r then some 0 else match posOf l r with
  | some i=>some (i+1)
  | none=>none
def aIE:List Nat->Bool
 | []=>true
 | x::l=>(match posOf l x with|none=>true|some _=>false)&&aIE l
def JF(pm:List Nat):PV->Option PV
 | .lit v=>some (.lit v)
 | .vals cs n cap=>some (.vals cs n cap)
 | .iptr cs=>some (.iptr cs)
 | .tl t l cap e=>some (.tl t l cap e)
 | .tp t l i off e=>some (.tp t l i off e)
 | .row j lo n sz=>some (.row j lo n sz)
 | .rp j off=>some (.rp j off)
 | .mp j=>some (.mp j)
 | .junk=>some .junk
 | .hptr r off=>match posOf pm r with|some i=>some (.hptr i off)|none=>none
 | .hs r off len cap sz=>match posOf pm r with|some i=>some (.hs i off len cap sz)|none=>none
 | .own r sz=>match posOf pm r with|some i=>some (.own i sz)|none=>none
 | .op r j off sz=>match posOf pm r with|some i=>some (.op i j off sz)|none=>none
 | .win r lo n sz=>match posOf pm r with|some i=>some (.win i lo n sz)|none=>none
 | .agg cs=>match renPs pm cs with|some qs=>some (.agg qs)|none=>none
 | .tuple cs=>match renPs pm cs with|some qs=>some (.tuple qs)|none=>none
 | .clo fn f c=>match renPs pm f,renPs pm c with|some f',some c'=>some (.clo fn f' c')|_,_=>none
where renPs (pm:List Nat):List PV->Option (List PV)
 | []=>some []
 | p::ps=>match JF pm p,renPs pm ps with|some q,some qs=>some (q::qs)|_,_=>none
def aLW(pm:List Nat)(H:Heap):List Nat->Option Heap
 | []=>some []
 | r::l=>match jS H r with
  | some k=>match (bif k.tag.isSome then some k else match JF.renPs pm k.cells with|some cs=>some { k with cells:=cs }|none=>none),aLW pm H l with
   | some k',some H'=>some (some k'::H')
   | _,_=>none
  | none=>none
def aZH(pm:List Nat)(F:Frm):List Nat->Option Frm
 | []=>some []
 | t::l=>match JF pm (cV F t),aZH pm F l with
  | some p,some F'=>some ((t,p)::F')
  | _,_=>none
def a5D(T pm:List Nat):Bool:=T.all λr=>match pm[r]? with
 | some s=>Nat.beq s r
 | none=>false
def aPS(T pm slots:List Nat)(F:Frm)(H:Heap):Option (Frm×Heap) :=
 bif aIE pm&&a5D T pm then match aLW pm H pm,aZH pm F slots with
  | some H',some F'=>some (F',H')
  | _,_=>none
 else none
def aEE(s i:Nat) (et:TypeId) (ty:Ty) (H:Heap):Heap:=match jS H s with
 | some k=>match k.cells.drop i with
  | .tl _ [] (some 0) _::rest=>bif !k.tag.isSome then ((H++[some ⟨aG ty [],et,true,false,some ⟨ty,[]⟩⟩]:Heap).set s (some { k with cells:=k.cells.take i++.own H.length ty.size::rest })) else H
  | .lit (.slice none m c)::rest=>bif Nat.beq m 0&&Nat.beq c 0&&!k.tag.isSome then ((H++[some ⟨aG ty [],et,true,false,some ⟨ty,[]⟩⟩]:Heap).set s (some { k with cells:=k.cells.take i++.own H.length ty.size::rest })) else H
  | _=>H
 | none=>H
def iC:List (Nat×Kd)->Frm->Heap->Frm×Heap
 | [],F,H=>(F,H)
 | (t,.own e ty)::r,F,H=>match cV F t with
  | .lit (.slice none m c)=>bif Nat.beq m 0&&Nat.beq c 0 then iC r ((t,.own H.length ty.size)::F) (H++[some ⟨aG ty [],e,true,false,some ⟨ty,[]⟩⟩]) else iC r F H
  | .tl _ [] (some 0) _=>iC r ((t,.own H.length ty.size)::F) (H++[some ⟨aG ty [],e,true,false,some ⟨ty,[]⟩⟩])
  | _=>iC r F H
 | (t,.bown e et ty)::r,F,H=>match cV F t with
  | .hptr s _=>match jS H s with
   | some k=>match k.cells with
    | [.lit (.slice none m c)]=>bif Nat.beq m 0&&Nat.beq c 0&&!k.tag.isSome then iC r F ((H++[some ⟨aG ty [],et,true,false,some ⟨ty,[]⟩⟩]:Heap).set s (some { k with cells:=[.own H.length ty.size] })) else iC r F H
    | _=>iC r F H
   | none=>iC r F H
  | _=>iC r F H
 | (t,.bag _ t1 et ty _)::r,F,H=>match cV F t with
  | .hptr s _=>match jS H s with
   | some k=>match k.cells.drop t1.size with
    | .tl _ [] (some 0) _::rest=>bif !k.tag.isSome then iC r F ((H++[some ⟨aG ty [],et,true,false,some ⟨ty,[]⟩⟩]:Heap).set s (some { k with cells:=k.cells.take t1.size++.own H.length ty.size::rest })) else iC r F H
    | .lit (.slice none m c)::rest=>bif Nat.beq m 0&&Nat.beq c 0&&!k.tag.isSome then iC r F ((H++[some ⟨aG ty [],et,true,false,some ⟨ty,[]⟩⟩]:Heap).set s (some { k with cells:=k.cells.take t1.size++.own H.length ty.size::rest })) else iC r F H
    | _=>iC r F H
   | none=>iC r F H
  | _=>iC r F H
 | (t,.bag2 _ t1 et ty eu u)::r,F,H=>match cV F t with
  | .hptr s _=>iC r F (aEE s (t1.size+1) eu u (aEE s t1.size et ty H))
  | _=>iC r F H
 | _::r,F,H=>iC r F H
def CP:List (Nat×Kd)->Frm->Heap->Frm×Heap
 | [],F,H=>(F,H)
 | (t,.box _ (.list _))::r,F,H=>match cV F t with
  | .hptr s _=>match jS H s with
   | some k=>match k.cells with
    | [.own u sz]=>match jS H u with
     | some ku=>match ku.tag with
      | some g=>bif !k.tag.isSome&&!Nat.beq u s then CP r F (((H.set u (some { ku with frozen:=true }))).set s (some { k with cells:=[L4 g.t g.l none] })) else CP r F H
      | none=>CP r F H
     | none=>CP r F H
    | _=>CP r F H
   | none=>CP r F H
  | _=>CP r F H
 | _::r,F,H=>CP r F H
def Y1:List (Nat×Kd)->Frm->Heap->Option (List Nat)
 | [],_,_=>some []
 | (t,.own _ _)::r,F,H=>match cV F t,Y1 r F H with
  | .own s _,some l=>some (s::l)
  | _,_=>none
 | (t,.box _ _)::r,F,H=>match cV F t,Y1 r F H with
  | .hptr s _,some l=>some (s::l)
  | _,_=>none
 | (t,.bown _ _ _)::r,F,H=>match cV F t,Y1 r F H with
  | .hptr s _,some l=>match jS H s with
   | some k=>match k.cells with
    | [.own u _]=>some (s::u::l)
    | _=>none
   | none=>none
  | _,_=>none
 | (t,.bag _ t1 _ _ _)::r,F,H=>match cV F t,Y1 r F H with
  | .hptr s _,some l=>match jS H s with
   | some k=>match k.cells.drop t1.size with
    | .own u _::_=>some (s::u::l)
    | _=>none
   | none=>none
  | _,_=>none
 | (t,.bag2 _ t1 _ _ _ _)::r,F,H=>match cV F t,Y1 r F H with
  | .hptr s _,some l=>match jS H s with
   | some k=>match k.cells.drop t1.size with
    | [.own u _,.own v _]=>some (s::u::v::l)
    | _=>none
   | none=>none
  | _,_=>none
 | (_,.ar _ _)::r,F,H=>match aAA 0 H,Y1 r F H with
  | some (ra,_),some l=>some (ra::l)
  | _,_=>none
 | _::r,F,H=>Y1 r F H
def BG(T:List Nat) (sh:List (Nat×Kd)) (F:Frm) (H:Heap):Option (Shape.den sh) :=
 match AO sh F H with
 | (F0,H0)=>match CP sh F0 H0 with
  | (F1,H1)=>match iC sh F1 H1 with
   | (F2,H2)=>match Y1 sh F2 H2 with
    | some pm=>match aPS T pm (slotsOf sh) F2 H2 with
     | some (F',H')=>bif Nat.beq H'.length (aLM sh) then aZ5 sh F' H' 0 else none
     | none=>none
    | none=>none
section
variable {P:Program} {n0:Nat->Prop} {w wi:World} {G Gi:Gd} {μ μi μ':Mp} {H:Heap} {F:Frm} {a:Act} {nt:Nat}
theorem JS:∀ {l:List Nat} {r i:Nat},posOf l r=some i->l[i]?=some r
 | [],r,i,h=>by cases h
 | x::l,r,i,h=>by
  simp only[posOf]at h;cases hb:Nat.beq x r with
  | true =>
   rw[hb]at h;simp only[oC,oJ]at h;subst h;rw[oE hb]; rfl
  | false =>
   rw[hb]at h;simp only[oD]at h;split at h
   ·rename_i j hj;simp only[oJ]at h;subst h;simpa using JS hj
   ·cases h
theorem aBE:∀ {l:List Nat} {r i:Nat},posOf l r=none->l[i]?=some r->False
 | [],r,i,_,h=>by simp at h
 | x::l,r,i,hn,h=>by
  simp only[posOf]at hn;cases hb:Nat.beq x r with
  | true=>rw[hb]at hn; simp at hn
  | false =>
   rw[hb]at hn;simp only[oD]at hn;split at hn
   ·cases hn
   ·rename_i hp;cases i with
    | zero =>
     simp only[List.getElem?_cons_zero,oJ]at h;subst h; simp at hb
    | succ i=>exact aBE hp (by simpa using h)
theorem aBT:∀ {l:List Nat} {i j r:Nat},aIE l=true->l[i]?=some r->l[j]?=some r->i=j
 | [],i,j,r,_,h,_=>by simp at h
 | x::l,i,j,r,hn,h1,h2=>by
  simp only[aIE,oA]at hn;obtain⟨hp,hn⟩:=hn;have hx:posOf l x=none:=by
   cases hq:posOf l x with
   | none=>rfl
   | some k=>rw[hq]at hp; cases hp
  cases i with
  | zero =>
   simp only[List.getElem?_cons_zero,oJ]at h1;subst h1;cases j with
   | zero=>rfl
   | succ j=>exact(aBE hx (by simpa using h2)).elim
  | succ i =>
   cases j with
   | zero =>
    simp only[List.getElem?_cons_zero,oJ]at h2;subst h2;exact(aBE hx (by simpa using h1)).elim
   | succ j=>exact oZ (·+1) (aBT (r:=r) hn (by simpa using h1) (by simpa using h2))
def XS(μ:Mp) (pm:List Nat):Mp:=⟨λi=>match pm[i]? with|some r=>μ.loc r|none=>none,λi=>match pm[i]? with|some r=>μ.len r|none=>none⟩
theorem tU {pm:List Nat}{i r:Nat}(h:pm[i]?=some r):(XS μ pm).loc i=μ.loc r/\(XS μ pm).len i=μ.len r:=by simp[XS,h]
mutual
theorem aVW {pm:List Nat}:∀ (p q:PV) (v:Value),JF pm p=some q->VR w G μ p v->VR w G (XS μ pm) q v
 | .lit u,q,v,h,hv=>by simp only[JF,oJ]at h; subst h; rw[VR]at hv ⊢; exact hv
 | .vals ..,q,v,h,hv=>by simp only[JF,oJ]at h; subst h; rw[VR]at hv ⊢; exact hv
 | .iptr _,q,v,h,hv=>by simp only[JF,oJ]at h; subst h; rw[VR]at hv ⊢; exact hv
 | .tl ..,q,v,h,hv=>by simp only[JF,oJ]at h; subst h; rw[VR]at hv ⊢; exact hv
 | .tp ..,q,v,h,hv=>by simp only[JF,oJ]at h; subst h; rw[VR]at hv ⊢; exact hv
 | .row ..,q,v,h,hv=>by simp only[JF,oJ]at h; subst h; rw[VR]at hv ⊢; exact hv
 | .rp ..,q,v,h,hv=>by simp only[JF,oJ]at h; subst h; rw[VR]at hv ⊢; exact hv
 | .mp _,q,v,h,hv=>by simp only[JF,oJ]at h; subst h; rw[VR]at hv ⊢; exact hv
 | .junk,q,v,h,hv=>by simp only[JF,oJ]at h; subst h; rw[VR]; trivial
 | .hptr r off,q,v,h,hv=>by
  simp only[JF]at h;split at h
  ·rename_i i hi;simp only[oJ]at h;subst h;have:=tU (μ:=μ) (JS hi);rw[VR]at hv ⊢; rw[this.1]; exact hv
  ·cases h
 | .hs r off l c s,q,v,h,hv=>by
  simp only[JF]at h;split at h
  ·rename_i i hi;simp only[oJ]at h;subst h;have:=tU (μ:=μ) (JS hi);rw[VR]at hv ⊢; rw[this.1]; exact hv
  ·cases h
 | .own r s,q,v,h,hv=>by
  simp only[JF]at h;split at h
  ·rename_i i hi;simp only[oJ]at h;subst h;have:=tU (μ:=μ) (JS hi);rw[VR]at hv ⊢; rw[this.1,this.2]; exact hv
  ·cases h
 | .op r j off s,q,v,h,hv=>by
  simp only[JF]at h;split at h
  ·rename_i i hi;simp only[oJ]at h;subst h;have:=tU (μ:=μ) (JS hi);rw[VR]at hv ⊢; rw[this.1]; exact hv
  ·cases h
 | .win r lo n s,q,v,h,hv=>by
  simp only[JF]at h;split at h
  ·rename_i i hi;simp only[oJ]at h;subst h;have:=tU (μ:=μ) (JS hi);rw[VR]at hv ⊢; rw[this.1,this.2]; exact hv
  ·cases h
 | .agg cs,q,v,h,hv=>by
  simp only[JF]at h;split at h
  ·rename_i qs hq;simp only[oJ]at h;subst h;rw[VR]at hv ⊢;obtain⟨vs,h1,h2⟩:=hv;exact⟨vs,h1,OL cs qs _ hq h2⟩
  ·cases h
 | .tuple cs,q,v,h,hv=>by
  simp only[JF]at h;split at h
  ·rename_i qs hq;simp only[oJ]at h;subst h;rw[VR]at hv ⊢;obtain⟨vs,h1,h2⟩:=hv;exact⟨vs,h1,OL cs qs _ hq h2⟩
  ·cases h
 | .clo fn f c,q,v,h,hv=>by
  simp only[JF]at h;split at h
  ·rename_i f' c' hf hc;simp only[oJ]at h;subst h;rw[VR]at hv ⊢;obtain⟨fs,cs,h1,h2,h3⟩:=hv;exact⟨fs,cs,h1,OL f f' _ hf h2,OL c c' _ hc h3⟩
  ·cases h
theorem OL {pm:List Nat}:∀ (ps qs:List PV) (vs:List Value),JF.renPs pm ps=some qs->VRs w G μ ps vs->VRs w G (XS μ pm) qs vs
 | [],qs,vs,h,hv=>by
  simp only[JF.renPs,oJ]at h;subst h;rw[VRs]at hv ⊢; exact hv
 | p::ps,qs,vs,h,hv=>by
  simp only[JF.renPs]at h;split at h
  ·rename_i q qs' hq hqs;simp only[oJ]at h;subst h;rw[VRs]at hv ⊢;obtain⟨x,xs,h1,h2,h3⟩:=hv;exact⟨x,xs,h1,aVW p q x hq h2,OL ps qs' xs hqs h3⟩
  ·cases h
end
theorem aNH {pm:List Nat}:∀ {l:List Nat} {H':Heap},aLW pm H l=some H'->H'.length=l.length/\∀ (i:Nat) (k':Blk),H'[i]?=some (some k')->∃ s k,l[i]?=some s/\H[s]?=some (some k)/\((k.tag.isSome=true/\k'=k)\/(k.tag=none/\∃ cs,JF.renPs pm k.cells=some cs/\k'={ k with cells:=cs }))
 | [],H',h=>by
  simp only[aLW,oJ]at h;subst h;exact⟨rfl,λi k' h=>by simp at h⟩
 | r::l,H',h=>by
  simp only[aLW]at h;split at h
  ·rename_i k hk;split at h
   ·rename_i k1 H1 h1 h2;simp only[oJ]at h;subst h;obtain⟨e1,e2⟩:=aNH h2;refine⟨by simp[e1],λi k' hi=>?_⟩;cases i with
    | zero =>
     simp only[List.getElem?_cons_zero,oJ]at hi;subst hi;refine⟨r,k,rfl,aJ hk,?_⟩;cases ht:k.tag with
     | some g =>
      rw[ht]at h1;simp only[Option.isSome_some,oC,oJ]at h1;exact .inl ⟨rfl,h1.symm⟩
     | none =>
      rw[ht]at h1;simp only[Option.isSome_none,oD]at h1;split at h1
      ·rename_i cs hcs;simp only[oJ]at h1;exact .inr ⟨rfl,cs,hcs,h1.symm⟩
      ·cases h1
    | succ i =>
     obtain⟨s,k0,a1,a2,a3⟩:=e2 i k' (by simpa using hi);exact⟨s,k0,by simpa using a1,a2,a3⟩
   ·cases h
  ·cases h
theorem aYT(hW:aN n0 G μ H w){pm:List Nat}(hn:aIE pm=true){H':Heap}(h:aLW pm H pm=some H'):aN n0 G (XS μ pm) H' w:=by
 obtain⟨hlen,jS⟩:=aNH h;refine⟨?_,?_,?_,hW.lt,?_,hW.base,hW.rows.rel (λr s=>pm[r]?=some s) (λr r' s h1 h2=>aBT hn h1 h2) (λr k' hr=>?_)⟩
 case refine_5 =>
  obtain⟨s,k,a1,a2,a3⟩:=jS r k' hr;refine⟨s,k,a1,a2,?_⟩;rcases a3 with ⟨_,rfl⟩|⟨_,cs,_,rfl⟩
  ·exact⟨rfl,rfl,rfl,rfl,(tU a1).1⟩
  ·exact⟨rfl,rfl,rfl,rfl,(tU a1).1⟩
 ·intro r k' b hr hb;obtain⟨s,k,a1,a2,a3⟩:=jS r k' hr;rw[(tU a1).1]at hb;obtain⟨c,c1,c2,c3,c4⟩:=hW.blk s k b a2 hb;rcases a3 with ⟨ht,rfl⟩|⟨ht,cs,hcs,rfl⟩
  ·refine⟨c,c1,?_,c3,c4⟩;obtain⟨g,hg⟩:=Option.isSome_iff_exists.1 ht;have:=(hW.tags s k' g a2 hg).1;rw[this]at c2 ⊢;exact rM (jL _ _) c2
  ·obtain⟨vs,d1,d2⟩:=c2.values;have d3:=OL _ _ _ hcs d1;exact⟨c,c1,aL.nJ d3 d2,λhg=>by rw[c3 hg]; show k.cells.length=cs.length; rw[d1.length,d3.length],c4⟩
 ·intro r k' g hr hg;obtain⟨s,k,a1,a2,a3⟩:=jS r k' hr;rw[(tU a1).2];rcases a3 with ⟨ht,rfl⟩|⟨ht,cs,hcs,rfl⟩
  ·exact hW.tags s k' g a2 hg
  ·dsimp only at hg; rw[ht]at hg; cases hg
 ·intro r1 r2 k1 k2 b e1 e2 f1 f2 m1 m2;obtain⟨s1,l1,a1,a2,a3⟩:=jS r1 k1 e1;obtain⟨s2,l2,b1,b2,b3⟩:=jS r2 k2 e2;rw[(tU a1).1]at m1;rw[(tU b1).1]at m2;have fz:∀ {k k':Blk},k'.frozen=false->((k.tag.isSome=true/\k'=k)\/(k.tag=none/\∃ cs,JF.renPs pm k.cells=some cs/\k'={ k with cells:=cs }))->k.frozen=false:=by
   rintro k k' hf (⟨_,rfl⟩|⟨_,cs,_,rfl⟩)
   ·exact hf
   ·exact hf
  have:=hW.inj s1 s2 l1 l2 b a2 b2 (fz f1 a3) (fz f2 b3) m1 m2;subst this;exact aBT hn a1 b1
 ·intro r hr;have:pm[r]?=none:=List.getElem?_eq_none (by omega);simp[XS,this]
theorem aQ3 {pm:List Nat}:∀ {l:List Nat} {F':Frm},aZH pm F l=some F'->∀ t,cV F' t=.junk\/JF pm (cV F t)=some (cV F' t)
 | [],F',h,t=>by
  simp only[aZH,oJ]at h;subst h;exact .inl rfl
 | s::l,F',h,t=>by
  simp only[aZH]at h;split at h
  ·rename_i p F1 hp hl;simp only[oJ]at h;subst h;rw[dJ]
   by_cases hs:t=s
   ·subst hs; rw[if_pos rfl]; exact .inr hp
   ·rw[if_neg hs]; exact aQ3 hl t
  ·cases h
theorem aLD {T pm slots:List Nat}{F':Frm}{H':Heap}(h:aPS T pm slots F H=some (F',H'))(hfl:∀ r,¬ r∈T->μi.loc r=none/\μi.len r=none)(hI:I n0 wi Gi μi nt F H a w):I n0 wi Gi μi nt F' H' a w:=by
 unfold aPS at h;obtain⟨hn,h⟩:=aH h;simp only[oA]at hn;obtain⟨hn,hst⟩:=hn;have stay:∀ r,r∈T->pm[r]?=some r:=by
  intro r hr;have:=List.all_eq_true.1 hst r hr;split at this
  ·rename_i s hs;rw[hs,oE this]
  ·cases this
 split at h
 ·rename_i H1 F1 h1 h2;simp only[oJ,oP]at h;obtain⟨rfl,rfl⟩:=h;obtain⟨G,μ,e,hW,hF⟩:=hI;refine⟨G,XS μ pm,?_,aYT hW hn h1,hF.size,λt=>?_,hF.defers⟩
  ·exact {
    good:=e.good
    map:=λr b hr=>by
     by_cases hT:r∈T
     ·rw[(tU (stay r hT)).1]; exact e.map r b hr
     ·rw[(hfl r hT).1]at hr; cases hr
    len:=λr b hr=>by
     by_cases hT:r∈T
     ·rw[(tU (stay r hT)).2]; exact e.len r b hr
     ·rw[(hfl r hT).2]at hr; cases hr
    room:=e.room
    row:=e.row
    os:=e.os
    tape:=e.tape
    output:=e.output
    size:=e.size
    old:=e.old
    new:=e.new }
  ·rcases aQ3 h2 t with h3|h3
   ·rw[h3,VR]; trivial
   ·exact aVW _ _ _ h3 (hF.slot t)
 ·cases h
theorem GS(hW:aN n0 G μ H w) {s:Nat} {k:Blk} {cs:List PV} (hs:H[s]?=some (some k)) (ht:k.tag=none) (hc:∀ b,aL w G μ b 0 k.cells->aL w G μ b 0 cs/\cs.length=k.cells.length) :
  aN n0 G μ (H.set s (some { k with cells:=cs })) w:=by
 have hsl:s<H.length:=(oO.1 hs).1;have key:∀ (r:Nat) (k':Blk),(H.set s (some { k with cells:=cs }))[r]?=some (some k')->(r=s/\k'={ k with cells:=cs })\/(r≠s/\H[r]?=some (some k')):=by
  intro r k' hr
  by_cases hrs:s=r
  ·subst hrs; rw[List.getElem?_set_self hsl]at hr; cases hr; exact .inl ⟨rfl,rfl⟩
  ·rw[List.getElem?_set_ne hrs]at hr; exact .inr ⟨Ne.symm hrs,hr⟩
 refine⟨?_,?_,?_,hW.lt,λr hr=>hW.top r (by simpa using hr),hW.base,hW.rows.rel (λr s=>r=s) (λr r' s h1 h2=>h1.trans h2.symm) (λr k' hr=>?_)⟩
 case refine_4 =>
  rcases key r k' hr with ⟨rfl,rfl⟩|⟨_,hr⟩
  ·exact⟨r,k,rfl,hs,rfl,rfl,rfl,rfl,rfl⟩
  ·exact⟨r,k',rfl,hr,rfl,rfl,rfl,rfl,rfl⟩
 ·intro r k' b hr hb;rcases key r k' hr with ⟨rfl,rfl⟩|⟨_,hr⟩
  ·obtain⟨c,c1,c2,c3,c4⟩:=hW.blk r k b hs hb;obtain⟨d1,d2⟩:=hc b c2;exact⟨c,c1,d1,λhg=>by show c.size=cs.length; rw[d2]; exact c3 hg,c4⟩
  ·exact hW.blk r k' b hr hb
 ·intro r k' g hr hg;rcases key r k' hr with ⟨rfl,rfl⟩|⟨_,hr⟩
  ·dsimp only at hg; rw[ht]at hg; cases hg
  ·exact hW.tags r k' g hr hg
 ·intro r1 r2 k1 k2 b e1 e2 f1 f2 m1 m2;have old:∀ (r:Nat) (k':Blk),(H.set s (some { k with cells:=cs }))[r]?=some (some k')->k'.frozen=false->∃ k0,H[r]?=some (some k0)/\k0.frozen=false:=by
   intro r k' hr hf;rcases key r k' hr with ⟨rfl,rfl⟩|⟨_,hr⟩
   ·exact⟨k,hs,hf⟩
   ·exact⟨k',hr,hf⟩
  obtain⟨l1,a1,a2⟩:=old r1 k1 e1 f1;obtain⟨l2,b1,b2⟩:=old r2 k2 e2 f2;exact hW.inj r1 r2 l1 l2 b a1 b1 a2 b2 m1 m2
theorem YF {s i:Nat}{et:TypeId}{ty:Ty}(hI:I n0 wi Gi μi nt F H a w):I n0 wi Gi μi nt F (aEE s i et ty H) a w:=by
 unfold aEE;split
 ·rename_i k hk;split
  ·rename_i t' e' rest hcs;cases hb:(!k.tag.isSome)with
   | false=>exact hI
   | true =>
    simp only[oC];have htag:k.tag=none:=by
     cases hq:k.tag with
     | none=>rfl
     | some g=>rw[hq]at hb; simp at hb
    obtain⟨G,μ,e0,hW,hF⟩:=hI;obtain⟨e1,w1⟩:=pZ hW ⟨aG ty [],et,true,false,some ⟨ty,[]⟩⟩ (on:=some 0) (λg hg=>by cases hg; exact⟨rfl,rfl⟩);have hk':=aJ hk;have hsl:s<H.length:=(oO.1 hk').1;have hk2:(H++[some ⟨aG ty [],et,true,false,some ⟨ty,[]⟩⟩])[s]?=some (some k):=by rw[List.getElem?_append_left hsl]; exact hk'
    refine⟨G,_,e0.trans e1,GS w1 hk2 htag ?_,hF.mono e1.toMono⟩;intro b hc;obtain⟨vs,d1,d2⟩:=hc.values;have d3:=d1.take i;have d4:=d1.drop i;rw[hcs,VRs]at d4;obtain⟨v,vc,e3,d5,d6⟩:=d4;obtain⟨ao,d7⟩:=ZW d5;have d8:VRs w G (upd μ H.length none (some 0)) (k.cells.take i++.own H.length ty.size::rest) (vs.take i++v::vc):=VRs.append d3 (by
     rw[VRs];refine⟨v,vc,rfl,?_,d6⟩;rw[VR];exact⟨0,qC ..,.inl ⟨rfl,ao,d7⟩⟩)
    rw[<- e3,List.take_append_drop]at d8;exact⟨aL.nJ d8 d2,by rw[d8.length,d1.length]⟩
  ·rename_i m' c' rest hcs;cases hb:(Nat.beq m' 0&&Nat.beq c' 0&&!k.tag.isSome)with
   | false=>exact hI
   | true =>
    simp only[oC];simp only[oA]at hb;obtain⟨⟨hm,hc⟩,hb⟩:=hb;have hm:=oE hm;have hc:=oE hc;subst hm; subst hc;have htag:k.tag=none:=by
     cases hq:k.tag with
     | none=>rfl
     | some g=>rw[hq]at hb; simp at hb
    obtain⟨G,μ,e0,hW,hF⟩:=hI;obtain⟨e1,w1⟩:=pZ hW ⟨aG ty [],et,true,false,some ⟨ty,[]⟩⟩ (on:=some 0) (λg hg=>by cases hg; exact⟨rfl,rfl⟩);have hk':=aJ hk;have hsl:s<H.length:=(oO.1 hk').1;have hk2:(H++[some ⟨aG ty [],et,true,false,some ⟨ty,[]⟩⟩])[s]?=some (some k):=by rw[List.getElem?_append_left hsl]; exact hk'
    refine⟨G,_,e0.trans e1,GS w1 hk2 htag ?_,hF.mono e1.toMono⟩;intro b hc;obtain⟨vs,d1,d2⟩:=hc.values;have d3:=d1.take i;have d4:=d1.drop i;rw[hcs,VRs]at d4;obtain⟨v,vc,e3,d5,d6⟩:=d4;rw[VR]at d5;have d8:VRs w G (upd μ H.length none (some 0)) (k.cells.take i++.own H.length ty.size::rest) (vs.take i++v::vc):=VRs.append d3 (by
     rw[VRs];refine⟨v,vc,rfl,?_,d6⟩;rw[VR];exact⟨0,qC ..,.inl ⟨rfl,none,d5⟩⟩)
    rw[<- e3,List.take_append_drop]at d8;exact⟨aL.nJ d8 d2,by rw[d8.length,d1.length]⟩
  ·exact hI
 ·exact hI
theorem bH:∀ (sh:List (Nat×Kd)) (F:Frm) (H:Heap),I n0 wi Gi μi nt F H a w->I n0 wi Gi μi nt (iC sh F H).1 (iC sh F H).2 a w
 | [],F,H,hI=>hI
 | (t,.own e ty)::r,F,H,hI=>by
  have skip:I n0 wi Gi μi nt (iC r F H).1 (iC r F H).2 a w:=bH r F H hI;unfold iC;split
  ·rename_i m c ht;cases hb:(Nat.beq m 0&&Nat.beq c 0)with
   | false=>exact skip
   | true =>
    simp only[oC];simp only[oA]at hb;have h1:=oE hb.1;have h2:=oE hb.2;subst h1; subst h2;obtain⟨G,μ,e0,hW,hF⟩:=hI;have hs:=hF.slot t;rw[ht,VR]at hs;obtain⟨e1,w1⟩:=pZ hW ⟨aG ty [],e,true,false,some ⟨ty,[]⟩⟩ (on:=some 0) (λg hg=>by cases hg; exact⟨rfl,rfl⟩);refine bH r _ _ ⟨G,_,e0.trans e1,w1,fQ.named (hF.mono e1.toMono) ?_⟩;rw[VR];exact⟨0,qC ..,.inl ⟨rfl,none,hs⟩⟩
  ·rename_i t' e' ht;obtain⟨G,μ,e0,hW,hF⟩:=hI;have hs:=hF.slot t;rw[ht]at hs;obtain⟨ao,hs⟩:=ZW hs;obtain⟨e1,w1⟩:=pZ hW ⟨aG ty [],e,true,false,some ⟨ty,[]⟩⟩ (on:=some 0) (λg hg=>by cases hg; exact⟨rfl,rfl⟩);refine bH r _ _ ⟨G,_,e0.trans e1,w1,fQ.named (hF.mono e1.toMono) ?_⟩;rw[VR];exact⟨0,qC ..,.inl ⟨rfl,ao,hs⟩⟩
  ·exact skip
 | (t,.bown e et ty)::r,F,H,hI=>by
  have skip:I n0 wi Gi μi nt (iC r F H).1 (iC r F H).2 a w:=bH r F H hI;unfold iC;split
  ·rename_i s off ht;split
   ·rename_i k hk;split
    ·rename_i m c hcs;cases hb:(Nat.beq m 0&&Nat.beq c 0&&!k.tag.isSome)with
     | false=>exact skip
     | true =>
      simp only[oC];simp only[oA,Bool.not_eq_true']at hb;have h1:=oE hb.1.1;have h2:=oE hb.1.2;subst h1; subst h2;have htag:k.tag=none:=by
       cases hq:k.tag with
       | none=>rfl
       | some g=>rw[hq]at hb; simp at hb
      obtain⟨G,μ,e0,hW,hF⟩:=hI;obtain⟨e1,w1⟩:=pZ hW ⟨aG ty [],et,true,false,some ⟨ty,[]⟩⟩ (on:=some 0) (λg hg=>by cases hg; exact⟨rfl,rfl⟩);have hk':=aJ hk;have hsl:s<H.length:=(oO.1 hk').1;have hk2:(H++[some ⟨aG ty [],et,true,false,some ⟨ty,[]⟩⟩])[s]?=some (some k):=by rw[List.getElem?_append_left hsl]; exact hk'
      refine bH r _ _ ⟨G,_,e0.trans e1,GS w1 hk2 htag ?_,hF.mono e1.toMono⟩;intro b hc;rw[hcs]at hc ⊢;refine⟨?_,rfl⟩;rw[aL]at hc ⊢;obtain⟨⟨v,v1,v2⟩,v3⟩:=hc;refine⟨⟨v,v1,?_⟩,by rw[aL]; trivial⟩;have v4:v=.slice none 0 0:=by simpa only[VR]using v2
      simp only[VR];exact⟨0,qC ..,.inl ⟨rfl,none,v4⟩⟩
    ·exact skip
   ·exact skip
  ·exact skip
 | (_,.int _)::r,F,H,hI=>bH r F H hI
 | (_,.bool)::r,F,H,hI=>bH r F H hI
 | (_,.str)::r,F,H,hI=>bH r F H hI
 | (_,.list _)::r,F,H,hI=>bH r F H hI
 | (_,.agg _)::r,F,H,hI=>bH r F H hI
 | (_,.box _ _)::r,F,H,hI=>bH r F H hI
 | (_,.ptr _)::r,F,H,hI=>bH r F H hI
 | (_,.fn _)::r,F,H,hI=>bH r F H hI
 | (_,.nil0)::r,F,H,hI=>bH r F H hI
 | (_,.val)::r,F,H,hI=>bH r F H hI
 | (_,.nilI)::r,F,H,hI=>bH r F H hI
 | (_,.clo _ _)::r,F,H,hI=>bH r F H hI
 | (_,.win _ _)::r,F,H,hI=>bH r F H hI
 | (_,.hnd _)::r,F,H,hI=>bH r F H hI
 | (_,.mpk _)::r,F,H,hI=>bH r F H hI
 | (_,.ar _ _)::r,F,H,hI=>bH r F H hI
 | (t,.bag2 e t1 et ty eu u)::r,F,H,hI=>by
  unfold iC;split
  ·exact bH r _ _ (YF (YF hI))
  ·exact bH r F H hI
 | (t,.bag e t1 et ty t2)::r,F,H,hI=>by
  have skip:I n0 wi Gi μi nt (iC r F H).1 (iC r F H).2 a w:=bH r F H hI;unfold iC;split
  ·rename_i s off ht;split
   ·rename_i k hk;split
    ·rename_i t' e' rest hcs;cases hb:(!k.tag.isSome)with
     | false=>exact skip
     | true =>
      simp only[oC];have htag:k.tag=none:=by
       cases hq:k.tag with
       | none=>rfl
       | some g=>rw[hq]at hb; simp at hb
      obtain⟨G,μ,e0,hW,hF⟩:=hI;obtain⟨e1,w1⟩:=pZ hW ⟨aG ty [],et,true,false,some ⟨ty,[]⟩⟩ (on:=some 0) (λg hg=>by cases hg; exact⟨rfl,rfl⟩);have hk':=aJ hk;have hsl:s<H.length:=(oO.1 hk').1;have hk2:(H++[some ⟨aG ty [],et,true,false,some ⟨ty,[]⟩⟩])[s]?=some (some k):=by rw[List.getElem?_append_left hsl]; exact hk'
      refine bH r _ _ ⟨G,_,e0.trans e1,GS w1 hk2 htag ?_,hF.mono e1.toMono⟩;intro b hc;obtain⟨vs,d1,d2⟩:=hc.values;have d3:=d1.take t1.size;have d4:=d1.drop t1.size;rw[hcs,VRs]at d4;obtain⟨v,vc,e3,d5,d6⟩:=d4;obtain⟨ao,d7⟩:=ZW d5;have d8:VRs w G (upd μ H.length none (some 0)) (k.cells.take t1.size++.own H.length ty.size::rest) (vs.take t1.size++v::vc):=VRs.append d3 (by
       rw[VRs];refine⟨v,vc,rfl,?_,d6⟩;rw[VR];exact⟨0,qC ..,.inl ⟨rfl,ao,d7⟩⟩)
      rw[<- e3,List.take_append_drop]at d8;exact⟨aL.nJ d8 d2,by rw[d8.length,d1.length]⟩
    ·rename_i m' c' rest hcs;cases hb:(Nat.beq m' 0&&Nat.beq c' 0&&!k.tag.isSome)with
     | false=>exact skip
     | true =>
      simp only[oC];simp only[oA]at hb;obtain⟨⟨hm,hc⟩,hb⟩:=hb;have hm:=oE hm;have hc:=oE hc;subst hm; subst hc;have htag:k.tag=none:=by
       cases hq:k.tag with
       | none=>rfl
       | some g=>rw[hq]at hb; simp at hb
      obtain⟨G,μ,e0,hW,hF⟩:=hI;obtain⟨e1,w1⟩:=pZ hW ⟨aG ty [],et,true,false,some ⟨ty,[]⟩⟩ (on:=some 0) (λg hg=>by cases hg; exact⟨rfl,rfl⟩);have hk':=aJ hk;have hsl:s<H.length:=(oO.1 hk').1;have hk2:(H++[some ⟨aG ty [],et,true,false,some ⟨ty,[]⟩⟩])[s]?=some (some k):=by rw[List.getElem?_append_left hsl]; exact hk'
      refine bH r _ _ ⟨G,_,e0.trans e1,GS w1 hk2 htag ?_,hF.mono e1.toMono⟩;intro b hc;obtain⟨vs,d1,d2⟩:=hc.values;have d3:=d1.take t1.size;have d4:=d1.drop t1.size;rw[hcs,VRs]at d4;obtain⟨v,vc,e3,d5,d6⟩:=d4;rw[VR]at d5;have d8:VRs w G (upd μ H.length none (some 0)) (k.cells.take t1.size++.own H.length ty.size::rest) (vs.take t1.size++v::vc):=VRs.append d3 (by
       rw[VRs];refine⟨v,vc,rfl,?_,d6⟩;rw[VR];exact⟨0,qC ..,.inl ⟨rfl,none,d5⟩⟩)
      rw[<- e3,List.take_append_drop]at d8;exact⟨aL.nJ d8 d2,by rw[d8.length,d1.length]⟩
    ·exact skip
   ·exact skip
  ·exact skip
theorem bE:∀ (sh:List (Nat×Kd)) (F:Frm) (H:Heap),I n0 wi Gi μi nt F H a w->I n0 wi Gi μi nt (CP sh F H).1 (CP sh F H).2 a w
 | [],F,H,hI=>hI
 | (t,.box e (.list ty))::r,F,H,hI=>by
  have skip:I n0 wi Gi μi nt (CP r F H).1 (CP r F H).2 a w:=bE r F H hI;unfold CP;split
  ·rename_i s off ht;split
   ·rename_i k hk;split
    ·rename_i u sz hcs;split
     ·rename_i ku hku;split
      ·rename_i g hg;cases hb:(!k.tag.isSome&&!Nat.beq u s)with
       | false=>exact skip
       | true =>
        simp only[oC];simp only[oA,Bool.not_eq_true']at hb;have htag:k.tag=none:=by
         cases hq:k.tag with
         | none=>rfl
         | some g=>rw[hq]at hb; simp at hb
        have hne:u≠s:=λe=>by rw[e]at hb; simp at hb
        obtain⟨G,μ,e0,hW,hF⟩:=hI;have hul:u<H.length:=(oO.1 (aJ hku)).1;have hk2:(H.set u (some { ku with frozen:=true }))[s]?=some (some k):=by rw[List.getElem?_set_ne hne]; exact aJ hk
        have hku2:jS (H.set u (some { ku with frozen:=true })) u=some { ku with frozen:=true }:=by simp only[jS,List.getElem?_set_self hul]
        have fin:∀ {G1:Gd} {w1:World} {μ1:Mp},(∀ b,μ1.loc u=some b->G1 b)->aN n0 G1 μ1 (H.set u (some { ku with frozen:=true })) w1->aN n0 G1 μ1 ((H.set u (some { ku with frozen:=true })).set s (some { k with cells:=[L4 g.t g.l none] })) w1:=by
         intro G1 w1 μ1 hGu hW1;refine GS hW1 hk2 htag λb hc=>?_
         rw[hcs]at hc ⊢;refine⟨?_,rfl⟩;rw[aL]at hc ⊢;obtain⟨⟨v,v1,v2⟩,v3⟩:=hc;exact⟨⟨v,v1,(GJ hW1 v2 hku2 hg (λb h=>h) hGu).aY⟩,by rw[aL]; trivial⟩
        cases hfz:ku.frozen with
        | true =>
         have hsame:H.set u (some { ku with frozen:=true })=H:=by
          apply List.ext_getElem?;intro i
          by_cases hi:u=i
          ·subst hi;rw[List.getElem?_set_self hul,aJ hku];obtain⟨k1,k2,k3,k4,k5⟩:=ku;dsimp only at hfz;rw[hfz]
          ·rw[List.getElem?_set_ne hi]
         refine bE r _ _ ⟨G,μ,e0,fin (λb hb=>?_) (by rw[hsame]; exact hW),hF⟩;obtain⟨_,_,_,_,h5,_⟩:=hW.blk u ku b (aJ hku) hb;exact h5 hfz
        | false =>
         obtain⟨e1,w1⟩:=RU hW (aJ hku) hfz;exact bE r _ _ ⟨_,μ,e0.trans e1,fin (λb hb=>.inr hb) w1,hF.mono e1.toMono⟩
      ·exact skip
     ·exact skip
    ·exact skip
   ·exact skip
  ·exact skip
 | (_,.int _)::r,F,H,hI=>bE r F H hI
 | (_,.bool)::r,F,H,hI=>bE r F H hI
 | (_,.str)::r,F,H,hI=>bE r F H hI
 | (_,.list _)::r,F,H,hI=>bE r F H hI
 | (_,.agg _)::r,F,H,hI=>bE r F H hI
 | (_,.box _ (.int _))::r,F,H,hI=>bE r F H hI
 | (_,.box _ .bool)::r,F,H,hI=>bE r F H hI
 | (_,.box _ .str)::r,F,H,hI=>bE r F H hI
 | (_,.box _ (.hnd _))::r,F,H,hI=>bE r F H hI
 | (_,.box _ (.rows _))::r,F,H,hI=>bE r F H hI
 | (_,.box _ (.prod _ _))::r,F,H,hI=>bE r F H hI
 | (_,.ptr _)::r,F,H,hI=>bE r F H hI
 | (_,.fn _)::r,F,H,hI=>bE r F H hI
 | (_,.nil0)::r,F,H,hI=>bE r F H hI
 | (_,.val)::r,F,H,hI=>bE r F H hI
 | (_,.nilI)::r,F,H,hI=>bE r F H hI
 | (_,.clo _ _)::r,F,H,hI=>bE r F H hI
 | (_,.win _ _)::r,F,H,hI=>bE r F H hI
 | (_,.hnd _)::r,F,H,hI=>bE r F H hI
 | (_,.mpk _)::r,F,H,hI=>bE r F H hI
 | (_,.ar _ _)::r,F,H,hI=>bE r F H hI
 | (_,.own _ _)::r,F,H,hI=>bE r F H hI
 | (_,.bown _ _ _)::r,F,H,hI=>bE r F H hI
 | (_,.bag _ _ _ _ _)::r,F,H,hI=>bE r F H hI
 | (_,.bag2 _ _ _ _ _ _)::r,F,H,hI=>bE r F H hI
theorem IB {T:List Nat}{sh:List (Nat×Kd)}{x:Shape.den sh}(h:BG T sh F H=some x)(hfl:∀ r,¬ r∈T->μi.loc r=none/\μi.len r=none)(hI:I n0 wi Gi μi nt F H a w):I n0 wi Gi μi nt (AR sh x 0) (JE sh x) a w:=by
 unfold BG at h;replace hI:=AH sh F H hI;split at h;rename_i F0 H0 hd0;rw[hd0]at hI;replace hI:=bE sh F0 H0 hI;split at h;rename_i F1 H1 hd1;rw[hd1]at hI;replace hI:=bH sh F1 H1 hI;split at h;rename_i F2 H2 hd2;rw[hd2]at hI;split at h
 ·rename_i pm hpm;split at h
  ·rename_i F' H' ht;obtain⟨hb,h⟩:=aH h;obtain⟨G,μ,e,hW,hF⟩:=aLD ht hfl hI;obtain⟨h1,h2⟩:=aCK hW hF.slot sh h;have hH:∀ i:Nat,aRA H'[i]? (JE sh x)[i]?:=by
    intro i;rcases oG i (aLM sh)with hl|hl
    ·have:=h2 i hl;rwa[Nat.zero_add]at this
    ·have e1:=oE hb;exact .inl (by rw[List.getElem?_eq_none (by omega),List.getElem?_eq_none (by rw[aF5]; omega)])
   exact⟨G,μ,e,hW.aVZ hH,hF.size,h1,hF.defers⟩
  ·cases h
 ·cases h
end
@[reducible] def Fr(ro:Option Nat):Fence:={ Fence.wide with round:=ro }
def xZ(ds:List Deferred) (a:Act):Act:={ a with defers:=a.defers++ds }
theorem aXC(ds:List Deferred)(a:Act):(xZ ds a).eval=a.eval:=by funext x; cases x <;> rfl
theorem OW(ds:List Deferred)(a:Act)(d:Option Tmp)(v:Value):(xZ ds a).put d v=xZ ds (a.put d v):=by cases d <;> rfl
theorem aTE {ro:Option Nat}{n:Nat}{P:Program}{f:FuncId}{args:Array Value}{w:World}{R:Ending->World->Prop}(h:Calls P f args w R):CallsIn (Fr ro) n P f args w R :=
 (callsIn_wide (n:=n)).2 h
theorem aXU {ro:Option Nat}{n:Nat}{P:Program}{row:String}{args:Array Value}{w:World}{R:Value->World->Prop}(h:Rows P row args w R):RowsIn (Fr ro) n P row args w R :=
 λc cs _=>let ⟨v,w',r,s⟩:=h c cs; ⟨v,w',r,stepsIn_wide.2 s⟩
section
variable {P:Program} {ro:Option Nat} {n:Nat} {ds:List Deferred} {Q Q':Exit->Act->World->Prop}
def aOU:Op->Bool
 | .defer _=>true
 | _=>false
def UY(ops:Array Oper):Bool:=ops.toList.all λo=>!aOU o.op
theorem RO {ops:Array Oper}(h:UY ops=true){o:Oper}(ho:o∈ops.toList):∀ c,o.op≠.defer c:=by
 intro c hc;have:=List.all_eq_true.1 h o ho;rw[hc]at this;cases this
theorem aZK {o:Oper}(h:∀ c,o.op≠.defer c)(ρ:Operand->Value):o.semAt ro ρ=execOp ρ o:=by
 cases ro with
 | none=>exact Oper.semAt_none ρ o
 | some l=>exact Oper.semAt_some l ρ o h
theorem aP0 {o:Oper}{a:Act}{w:World}{K K':Act->World->Prop}(hd:∀ c,o.op≠.defer c)(hK:∀ a w,K a w->K' (xZ ds a) w)(hQ:∀ ch a w,Q (.panic ch) a w->Q' (.panic ch) (xZ ds a) w)(hno:∀ a w,¬ Q .outgrown a w)(h:o.wp P a w K Q) :
  o.wpIn (Fr ro) n P (xZ ds a) w K' Q':=by
 refine⟨λ_ _=>trivial,?_⟩;unfold Oper.wp at h;rw[aXC,aZK hd];generalize (execOp a.eval o).run P w=r at h ⊢;cases r with
 | ok x w' =>
  cases x with
  | value v=>show K' ((xZ ds a).put o.dst v) w'; rw[OW]; exact hK _ _ h
  | skip=>show K' ((xZ ds a).put o.dst undef) w'; rw[OW]; exact hK _ _ h
  | defer d =>
   have:=hK _ _ h;show K' (({ xZ ds a with defers:=d::(xZ ds a).defers }:Act).put o.dst undef) w';have e:(({ xZ ds a with defers:=d::(xZ ds a).defers }:Act).put o.dst undef)=xZ ds (({ a with defers:=d::a.defers }:Act).put o.dst undef):=by cases o.dst <;> rfl
   rw[e]; exact this
  | enter f args =>
   refine⟨λh=>(by cases h),aTE (Calls.mono h ?_)⟩;rintro e w'' he;cases e with
   | returned v=>show K' ((xZ ds a).put o.dst v) w''; rw[OW]; exact hK _ _ he
   | panicked ch=>exact hQ _ _ _ he
   | outgrown =>
    obtain⟨a0,w0,h0⟩:=he;exact(hno a0 w0 h0).elim
  | row row args=>exact⟨λh=>(by cases h),aXU (Rows.mono h λv w'' he=>by show K' ((xZ ds a).put o.dst v) w''; rw[OW]; exact hK _ _ he)⟩
  | _=>exact h.elim
 | halt x w' =>
  cases x <;> first|exact hQ _ _ _ h|exact h.elim
theorem aC9 {ops:Array Oper}(hno:∀ a w,¬ Q .outgrown a w)(hQ:∀ e a w,Q e a w->Q' e (xZ ds a) w):∀ {l:List Oper},(∀ o∈l,∀ c,o.op≠.defer c)->∀ {a w},wpList P ops Q l a w->wpListIn (Fr ro) n P ops Q' l (xZ ds a) w
 | [],_,a,w,h=>hQ _ _ _ h
 | o::l,hd,a,w,h=>by
  simp only[wpList]at h;unfold wpListIn;split at h
  ·rename_i hw;have hw':Region.wanted o (yielded ops (xZ ds a).tmps)=true:=hw;rw[if_pos hw'];rcases h with h|⟨_,a0,w0,h0⟩
   ·exact aP0 (hd o List.mem_cons_self) (λa w hk=>aC9 hno hQ (λo ho=>hd o (List.mem_cons_of_mem _ ho)) hk) (λ_ _ _ h=>hQ _ _ _ h) hno h
   ·exact(hno a0 w0 h0).elim
  ·rename_i hw;have hw':¬ Region.wanted o (yielded ops (xZ ds a).tmps)=true:=hw;rw[if_neg hw'];refine⟨λ_ _=>trivial,?_⟩;rw[OW];exact aC9 hno hQ (λo ho=>hd o (List.mem_cons_of_mem _ ho)) h
theorem aP9 {ops:Array Oper}{md:Region.Mode}(hno:∀ a w,¬ Q .outgrown a w)(hQ:∀ e a w,Q e a w->Q' e (xZ ds a) w)(hd:∀ o∈ops.toList,∀ c,o.op≠.defer c):∀ {fuel:Nat} {listed:Array Bool} {a w},wpAny P md ops Q fuel listed a w->wpAnyIn (Fr ro) n P md ops Q' fuel listed (xZ ds a) w
 | 0,listed,a,w,h=>⟨h.1,hQ _ _ _ h.2⟩
 | fuel+1,listed,a,w,h=>by
  refine⟨λhr=>hQ _ _ _ (h.1 hr),λi hi=>?_⟩;have h2:=h.2 i hi;unfold wpOp at h2;unfold wpOpIn;split
  ·rename_i hn;rw[hn]at h2;exact aP9 hno hQ hd h2
  ·rename_i o ho;rw[ho]at h2;simp only at h2;have hm:o∈ops.toList:=by
    rw[<- Array.getElem?_toList]at ho;exact List.mem_of_getElem? ho
   split at h2
   ·rename_i hw;have hw':Region.wanted o (yielded ops (xZ ds a).tmps)=true:=hw;rw[if_pos hw'];rcases h2 with h2|⟨_,a0,w0,h0⟩
    ·exact aP0 (hd o hm) (λa w hk=>aP9 hno hQ hd hk) (λ_ _ _ h=>hQ _ _ _ h) hno h2
    ·exact(hno a0 w0 h0).elim
   ·rename_i hw;have hw':¬ Region.wanted o (yielded ops (xZ ds a).tmps)=true:=hw;rw[if_neg hw'];refine⟨λ_ _=>trivial,?_⟩;rw[OW];exact aP9 hno hQ hd h2
end
def Marks(wi w:World) (G:Gd):List Deferred->Prop
 | []=>True
 | d::ds=>(∃ b,d={ target:=.collected b,args:=#[] }/\w.heap[b]?=some (.deferred (some []))/\wi.heap.size<=b/\¬ G b/\∀ d'∈ds,d'≠d)/\Marks wi w G ds
theorem Marks.mem {wi w:World}{G:Gd}:∀ {ds:List Deferred},Marks wi w G ds->∀ d∈ds,∃ b,d={ target:=.collected b,args:=#[] }/\w.heap[b]?=some (.deferred (some []))/\wi.heap.size<=b/\¬ G b
 | [],_,d,hd=>by cases hd
 | x::ds,h,d,hd=>by
  rcases List.mem_cons.1 hd with rfl|hd
  ·obtain⟨b,h1,h2,h3,h4,_⟩:=h.1;exact⟨b,h1,h2,h3,h4⟩
  ·exact Marks.mem h.2 d hd
theorem Marks.to {wi w w':World}{G G':Gd}:∀ {ds:List Deferred},Marks wi w G ds->(∀ b,({ target:=.collected b,args:=#[] }:Deferred)∈ds->w.heap[b]?=some (.deferred (some []))->¬ G b->w'.heap[b]?=some (.deferred (some []))/\¬ G' b)->Marks wi w' G' ds
 | [],_,_=>trivial
 | x::ds,h,hs=>by
  obtain⟨⟨b,rfl,h2,h3,h4,h5⟩,h6⟩:=h;obtain⟨k1,k2⟩:=hs b List.mem_cons_self h2 h4;exact⟨⟨b,rfl,k1,h3,k2,h5⟩,Marks.to h6 λb hb=>hs b (List.mem_cons_of_mem _ hb)⟩
def IM(n0:Nat->Prop) (wi:World) (Gi:Gd) (μi:Mp) (nt:Nat) (F:Frm) (H:Heap) (a:Act) (w:World):Prop :=
 ∃ G μ,Ext n0 wi Gi μi w G μ/\aN n0 G μ H w/\fQ w G μ nt F { a with defers:=[] }/\Marks wi w G a.defers
section
variable {P:Program} {E:Env} {n0 n1:Nat->Prop} {w w' wi:World} {G G' Gi:Gd} {μ μ' μi:Mp} {H:Heap} {F:Frm} {a:Act} {nt:Nat}
theorem Ext.wider (h:Ext n1 w G μ w' G' μ')(hn:∀ b,n1 b->n0 b):Ext n0 w G μ w' G' μ' :=
 ⟨h.toMono,h.os,h.tape,h.output,h.size,λb hb hnb=>h.old b hb λh1=>hnb (hn b h1),λb hb=>(h.new b hb).imp id (hn b)⟩
theorem aN.wider (h:aN n1 G μ H w)(hn:∀ b,n1 b->n0 b):aN n0 G μ H w :=
 ⟨λr k b hr hb=>by
  obtain⟨c,h1,h2,h3,h4,h5⟩:=h.blk r k b hr hb;exact⟨c,h1,h2,h3,h4,λhf=>⟨hn b (h5 hf).1,(h5 hf).2⟩⟩,h.tags,h.inj,h.lt,h.top,λb hb=>hn b (h.base b hb),h.rows.aDJ λ_ b _=>hn b⟩
theorem aN.less (h:aN n0 G μ H w) {S:Nat->Prop} (hS:∀ b,S b->b<w.heap.size/\(∀ c t fr,w.heap[b]?≠some (.cells c t fr))/\∀ es clk,w.heap[b]?≠some (.map es clk)):aN (λb=>n0 b/\¬ S b) G μ H w :=
 ⟨λr k b hr hb=>by
  obtain⟨c,h1,h2,h3,h4,h5⟩:=h.blk r k b hr hb;exact⟨c,h1,h2,h3,h4,λhf=>⟨⟨(h5 hf).1,λhs=>(hS b hs).2.1 _ _ _ h1⟩,(h5 hf).2⟩⟩,h.tags,h.inj,h.lt,h.top,λb hb=>⟨h.base b hb,λhs=>Nat.lt_irrefl _ (Nat.lt_of_lt_of_le (hS b hs).1 hb)⟩,h.rows.aDJ λj b hj hn=>⟨hn,λhs=>by
   rcases h.rows.cel j b hj with ⟨c,t,fr,hc⟩|⟨es,clk,hc⟩
   ·exact(hS b hs).2.1 c t fr hc
   ·exact(hS b hs).2.2 es clk hc⟩⟩
theorem fQ.same (h:fQ w G μ nt F a):fQ w G μ nt F { a with defers:=[] }:=⟨h.size,h.slot,rfl⟩
theorem I.a5L (h:I n0 wi Gi μi nt F H a w):IM n0 wi Gi μi nt F H a w:=by
 obtain⟨G,μ,e,hW,hF⟩:=h;refine⟨G,μ,e,hW,hF.same,?_⟩;rw[hF.defers]; trivial
theorem aI3 {nt:Nat} {id:Nat} {ops:Array Oper} {draw:Bool} {F:Frm} {H:Heap} {α:Type} {z:α} {k:Frm->Heap->Option α} (hcl:dF P (eT P E)) (hP:P.follows .mixedOrders=true) (hd:UY ops=true) (h:FW P E nt ops draw F H k=some z) :
  ∃ F' H',k F' H'=some z/\∀ {ro:Option Nat} {n:Nat} {n0 wi Gi μi} {a w} {Q:Exit->Act->World->Prop},IM n0 wi Gi μi nt F H a w->(∀ a' w',a'.defers=a.defers->IM n0 wi Gi μi nt F' H' a' w'->Q .normal a' w')->(Code.region id ops draw).wpIn (Fr ro) n P Q a w:=by
 have core:∃ F' H',k F' H'=some z/\∀ {ro:Option Nat} {n:Nat} {n0 wi Gi μi} {a w} {ds:List Deferred} {Q:Exit->Act->World->Prop},I n0 wi Gi μi nt F H a w->(∀ a' w',I n0 wi Gi μi nt F' H' a' w'->Q .normal (xZ ds a') w')->(Code.region id ops draw).wpIn (Fr ro) n P Q (xZ ds a) w:=by
  cases draw with
  | true =>
   obtain⟨F',H',h2,h3⟩:=UQ h;refine⟨F',H',h3,?_⟩;intro ro n n0 wi Gi μi a w ds Q hI hQ;refine wpIn_region_any hP (aP9 (Q:=λe a' w'=>e=.normal/\I n0 wi Gi μi nt F' H' a' w') (λa w h=>by cases h.1) (λe a' w' h=>by obtain⟨rfl,h⟩:=h; exact hQ a' w' h) (λo ho=>RO hd ho) ?_);exact YY hcl h2 hI (λa' w' h=>⟨rfl,h⟩)
  | false =>
   unfold FW at h;simp only[oD]at h;obtain⟨F',H',h2,h3⟩:=wD h;refine⟨F',H',h3,?_⟩;intro ro n n0 wi Gi μi a w ds Q hI hQ;refine wpIn_region_list (aC9 (Q:=λe a' w'=>e=.normal/\I n0 wi Gi μi nt F' H' a' w') (λa w h=>by cases h.1) (λe a' w' h=>by obtain⟨rfl,h⟩:=h; exact hQ a' w' h) (λo ho=>RO hd ho) ?_);exact A9 hcl ops.toList F H _ _ h2 hI (λa' w' h=>⟨rfl,h⟩)
 obtain⟨F',H',h1,h2⟩:=core;refine⟨F',H',h1,?_⟩;intro ro n n0 wi Gi μi a w Q hI hQ;obtain⟨G,μ,e,hW,hF,hm⟩:=hI;have hS:∀ b,({ target:=.collected b,args:=#[] }:Deferred)∈a.defers->b<w.heap.size/\(∀ c t fr,w.heap[b]?≠some (.cells c t fr))/\∀ es clk,w.heap[b]?≠some (.map es clk):=by
  intro b hb;obtain⟨b',e1,e2,_⟩:=hm.mem _ hb;have:b=b':=by injection e1 with e1 _; injection e1
  subst this;exact⟨fL e2,λc t fr h=>(by rw[e2]at h; cases h),λ_ _ h=>(by rw[e2]at h; cases h)⟩
 have e0:a=xZ a.defers { a with defers:=[] }:=rfl;rw[e0];refine h2 (n0:=λb=>n0 b/\¬ ({ target:=.collected b,args:=#[] }:Deferred)∈a.defers) (wi:=w) (Gi:=G) (μi:=μ) ⟨G,μ,Ext.refl _ _ _ _,hW.less hS,hF⟩ ?_;rintro a' w' ⟨G',μ',e',hW',hF'⟩;have hW2:aN n0 G' μ' H' w':=hW'.wider λb hb=>hb.1
 have hdef:(xZ a.defers a').defers=a.defers:=by
  show a'.defers++a.defers=a.defers;rw[hF'.defers]; rfl
 refine hQ _ _ hdef ⟨G',μ',e.trans (e'.wider λb hb=>hb.1),hW2,hF'.same,?_⟩;rw[hdef];refine hm.to λb hb h1 h2=>⟨?_,λhg=>?_⟩
 ·rw[e'.old b (hS b hb).1 (λh=>h.2 hb)]; exact h1
 ·rcases e'.new b hg with h|h
  ·exact h2 h
  ·exact h.2 hb
end
def SB(T:List Nat):(l:List (Ex×List (Nat×Kd)))->Ex->Frm->Heap->Option (qI l)
 | [],_,_,_=>none
 | [(e,s)],ex,F,H=>bif aRT e ex then BG T s F H else none
 | (e,s)::b::r,ex,F,H=>bif aRT e ex then (match BG T s F H with|some x=>some (.inl x)|none=>none) else (match SB T (b::r) ex F H with|some y=>some (.inr y)|none=>none)
section
variable {α:Type} (P:Program) (E:Env) (nt bG:Nat) (lt rt:Nat->Option cA) (rd:Bool) (T:List Nat)
def DY:Code->Frm->Heap->(Ex->Frm->Heap->Option α)->Option α
 | .skip,F,H,k=>k .normal F H
 | .label _,F,H,k=>k .normal F H
 | .region _ ops draw,F,H,k=>bif UY ops then FW P E nt ops draw F H λF H=>ZJ bG F λF=>k .normal F H else none
 | .seq a b,F,H,k=>DY a F H λex F H=>match ex with
  | .normal=>DY b F H k
  | .exit i=>k (.exit i) F H
  | .ret=>k .ret F H
 | .cond c a b,F,H,k=>match ev F c with
  | .lit (.bool t)=>aUI F c t λF t=>bif t then DY a F H k else DY b F H k
  | _=>none
 | .block id a,F,H,k=>DY a F H λex F H=>match ex with
  | .exit i=>bif Nat.beq i id then k .normal F H else k (.exit i) F H
  | .normal=>k .normal F H
  | .ret=>k .ret F H
 | .loop a,F,H,k=>match lt (bQ a)with
  | some s=>match BG T s.sh F H with
   | some x=>aC (s.run x) λz=>aTN s.exits z k
   | none=>none
  | none=>none
 | .rangeFunc _ _ _ a,F,H,k=>bif rd then none else match rt (bQ a)with
  | some s=>match BG T s.sh F H with
   | some x=>aC (s.run x) λz=>aTN s.exits z k
   | none=>none
  | none=>none
 | .exit id,F,H,k=>k (.exit id) F H
 | .ret,F,H,k=>k .ret F H
 | _,_,_,_=>none
def aGO(T:List Nat)(sh:List (Nat×Kd))(exits:List (Ex×List (Nat×Kd)))(ex:Ex)(F:Frm)(H:Heap):Option (Shape.den sh⊕qI exits):=match ex with
 | .normal=>match BG T sh F H with
  | some y=>some (.inl y)
  | none=>none
 | .exit i=>match SB T exits (.exit i) F H with
  | some z=>some (.inr z)
  | none=>none
 | .ret=>match SB T exits .ret F H with
  | some z=>some (.inr z)
  | none=>none
def aNT(a:Code) (sh:List (Nat×Kd)) (exits:List (Ex×List (Nat×Kd))) (x:Shape.den sh):Option (Shape.den sh⊕qI exits) :=
 DY P E nt bG lt rt rd T a (AR sh x 0) (JE sh x) (aGO T sh exits)
end
def gX:Code->List Code
 | .seq a b=>gX a++gX b
 | .cond _ a b=>gX a++gX b
 | .block _ a=>gX a
 | .loop a=>[.loop a]
 | .rangeFunc g ps as1 a=>[.rangeFunc g ps as1 a]
 | _=>[]
section
variable {α:Type} {P:Program} {E:Env} {nt bG:Nat} {lt rt:Nat->Option cA} {rd:Bool} {T:List Nat}
def aRM(P:Program) (nt:Nat) (rd:Bool) (T:List Nat) (c:Code) (F:Frm) (H:Heap) (r:Ex×Frm×Heap):Prop :=
 ∀ (ro:Option Nat) (n:Nat) (n0:Nat->Prop) (wi:World) (Gi:Gd) (μi:Mp) (a:Act) (w:World),(rd=false->ro=none)->(∀ r,¬ r∈T->μi.loc r=none/\μi.len r=none)->IM n0 wi Gi μi nt F H a w ->
  c.wpIn (Fr ro) n P (λe a' w'=>e=r.1.to/\IM n0 wi Gi μi nt r.2.1 r.2.2 a' w'/\(rd=true->a'.defers=a.defers)) a w
def UB(P:Program)(nt:Nat)(rd:Bool)(T:List Nat)(c:Code)(s:cA):Prop :=
 ∀ x z,s.run x=some z->aRM P nt rd T c (AR s.sh x 0) (JE s.sh x) (EA s.exits z)
def RK(P:Program)(nt:Nat)(lt rt:Nat->Option cA)(rd:Bool)(T:List Nat):Code->Prop
 | .loop a=>∀ s,lt (bQ a)=some s->UB P nt rd T (.loop a) s
 | .rangeFunc g ps as1 a=>rd=false->∀ s,rt (bQ a)=some s->UB P nt rd T (.rangeFunc g ps as1 a) s
 | _=>True
theorem IM.a3B {n0:Nat->Prop}{wi:World}{Gi:Gd}{μi:Mp}{F F':Frm}{H:Heap}{a:Act}{w:World}(h:IM n0 wi Gi μi nt F H a w)(hF:∀ t,cV F' t=cV F t\/cV F' t=.junk):IM n0 wi Gi μi nt F' H a w:=by
 obtain⟨G,μ,e,hW,hI,hm⟩:=h;refine⟨G,μ,e,hW,⟨hI.size,λt=>?_,rfl⟩,hm⟩;rcases hF t with h1|h1
 ·rw[h1]; exact hI.slot t
 ·rw[h1,VR]; trivial
theorem IM.same {n0:Nat->Prop} {wi:World} {Gi:Gd} {μi:Mp} {F F':Frm} {H H':Heap} {a:Act} {w:World} (hfl:∀ r,¬ r∈T->μi.loc r=none/\μi.len r=none)
  (hs:∀ {n0:Nat->Prop} {wi:World} {Gi:Gd} {μi:Mp} {a:Act},(∀ r,¬ r∈T->μi.loc r=none/\μi.len r=none)->I n0 wi Gi μi nt F H a w->I n0 wi Gi μi nt F' H' a w) (h:IM n0 wi Gi μi nt F H a w):IM n0 wi Gi μi nt F' H' a w:=by
 obtain⟨G,μ,e,hW,hF,hm⟩:=h;have hS:∀ b,({ target:=.collected b,args:=#[] }:Deferred)∈a.defers->b<w.heap.size/\(∀ c t fr,w.heap[b]?≠some (.cells c t fr))/\∀ es clk,w.heap[b]?≠some (.map es clk):=by
  intro b hb;obtain⟨b',e1,e2,_⟩:=hm.mem _ hb;have:b=b':=by injection e1 with e1 _; injection e1
  subst this;exact⟨fL e2,λc t fr h=>(by rw[e2]at h; cases h),λ_ _ h=>(by rw[e2]at h; cases h)⟩
 have e0:Ext (λb=>n0 b/\¬ ({ target:=.collected b,args:=#[] }:Deferred)∈a.defers) w G μi w G μ:=⟨⟨λ_ h=>⟨h,rfl⟩,e.map,e.len,λ_ _ h=>h,λ_ _ h=>h⟩,rfl,rfl,rfl,oM _,λ_ _ _=>rfl,λ_ h=>.inl h⟩;obtain⟨G',μ',e',hW',hF'⟩:=hs (n0:=λb=>n0 b/\¬ ({ target:=.collected b,args:=#[] }:Deferred)∈a.defers) (wi:=w) (Gi:=G) (μi:=μi) (a:={ a with defers:=[] }) hfl ⟨G,μ,e0,hW.less hS,hF⟩;refine⟨G',μ',?_,hW'.wider λb hb=>hb.1,hF',hm.to λb hb h1 h2=>⟨h1,λhg=>?_⟩⟩
 ·exact {
   good:=λb hb=>⟨(e'.good b (e.good b hb).1).1,(e.good b hb).2⟩
   map:=e'.map
   len:=e'.len
   room:=e.room
   row:=λj b hj=>e'.row j b (e.row j b hj)
   os:=e.os
   tape:=e.tape
   output:=e.output
   size:=e.size
   old:=e.old
   new:=λb hb=>by
    rcases e'.new b hb with h|h
    ·exact e.new b h
    ·exact .inr h.1 }
 ·rcases e'.new b hg with h|h
  ·exact h2 h
  ·exact h.2 hb
theorem IM.dec {n0:Nat->Prop}{wi:World}{Gi:Gd}{μi:Mp}{F:Frm}{H:Heap}{a:Act}{w:World}(hfl:∀ r,¬ r∈T->μi.loc r=none/\μi.len r=none){sh:List (Nat×Kd)}{x:Shape.den sh}(h:BG T sh F H=some x)(hI:IM n0 wi Gi μi nt F H a w):IM n0 wi Gi μi nt (AR sh x 0) (JE sh x) a w :=
 hI.same hfl λhfl hI=>IB h hfl hI
theorem N4 {ex:Ex}{F:Frm}{H:Heap}:∀ {l:List (Ex×List (Nat×Kd))} {z:qI l},SB T l ex F H=some z ->
  (EA l z).1=ex/\∃ sh,∃ x:Shape.den sh,BG T sh F H=some x/\(EA l z).2.1=AR sh x 0/\(EA l z).2.2=JE sh x
 | [],z,_=>Empty.elim z
 | [(e,s)],z,h=>by
  simp only[SB]at h;obtain⟨hb,h⟩:=aH h;exact⟨aHZ hb,s,z,h,rfl,rfl⟩
 | (e,s)::b::r,z,h=>by
  simp only[SB]at h;cases hb:aRT e ex with
  | true =>
   rw[hb]at h;simp only[oC]at h;split at h
   ·rename_i x hx;simp only[oJ]at h;subst h;exact⟨aHZ hb,s,x,hx,rfl,rfl⟩
   ·cases h
  | false =>
   rw[hb]at h;simp only[oD]at h;split at h
   ·rename_i x hx;simp only[oJ]at h;subst h;exact N4 (l:=b::r) (z:=x) hx
   ·cases h
theorem IM.aAZ {n0:Nat->Prop}{wi:World}{Gi:Gd}{μi:Mp}{F:Frm}{H:Heap}{a:Act}{w:World}{ex:Ex}(hfl:∀ r,¬ r∈T->μi.loc r=none/\μi.len r=none){l:List (Ex×List (Nat×Kd))}{z:qI l}(h:SB T l ex F H=some z)(hI:IM n0 wi Gi μi nt F H a w) :
  (EA l z).1=ex/\IM n0 wi Gi μi nt (EA l z).2.1 (EA l z).2.2 a w:=by
 obtain⟨h1,sh,x,h2,h3,h4⟩:=N4 h;exact⟨h1,by rw[h3,h4]; exact hI.dec hfl h2⟩
theorem nK(hcl:dF P (eT P E))(hP:P.follows .mixedOrders=true):∀ (c:Code) (F:Frm) (H:Heap) (k:Ex->Frm->Heap->Option α) (z:α),(∀ a∈gX c,RK P nt lt rt rd T a) ->
  DY P E nt bG lt rt rd T c F H k=some z->∃ r:Ex×Frm×Heap,k r.1 r.2.1 r.2.2=some z/\aRM P nt rd T c F H r
 | .skip,F,H,k,z,hl,h=>⟨(.normal,F,H),h,λ_ _ _ _ _ _ _ _ _ _ hI=>wpIn_skip ⟨rfl,hI,λ_=>rfl⟩⟩
 | .label l,F,H,k,z,hl,h=>⟨(.normal,F,H),h,λ_ _ _ _ _ _ _ _ _ _ hI=>wpIn_label ⟨rfl,hI,λ_=>rfl⟩⟩
 | .region id ops draw,F,H,k,z,hl,h=>by
  simp only[DY]at h;obtain⟨hd,h⟩:=aH h;obtain⟨F1,H1,h1,h2⟩:=aI3 (id:=id) hcl hP hd h;obtain⟨F2,h3,h4⟩:=OQ bG F1 λF=>k .normal F H1
  rw[h3]at h1;exact⟨(.normal,F2,H1),h1,λ_ _ _ _ _ _ _ _ _ _ hI=>h2 hI λa' w' hd' hI'=>⟨rfl,hI'.a3B h4,λ_=>hd'⟩⟩
 | .seq x y,F,H,k,z,hl,h=>by
  simp only[DY]at h;obtain⟨⟨ex,F1,H1⟩,h1,h2⟩:=nK hcl hP x F H _ z (λa ha=>hl a (by simp[gX,ha])) h;cases ex with
  | normal =>
   obtain⟨r,h3,h4⟩:=nK hcl hP y F1 H1 k z (λa ha=>hl a (by simp[gX,ha])) h1;refine⟨r,h3,λro n n0 wi Gi μi a w hro hfl hI=>wpIn_seq (wpIn_mono (h2 ro n n0 wi Gi μi a w hro hfl hI) ?_)⟩;rintro e a' w' ⟨rfl,hI',hd'⟩;refine wpIn_mono (h4 ro n n0 wi Gi μi a' w' hro hfl hI') ?_;rintro e a'' w'' ⟨e1,e2,e3⟩;exact⟨e1,e2,λhr=>(e3 hr).trans (hd' hr)⟩
  | exit i =>
   refine⟨(.exit i,F1,H1),h1,λro n n0 wi Gi μi a w hro hfl hI=>wpIn_seq (wpIn_mono (h2 ro n n0 wi Gi μi a w hro hfl hI) ?_)⟩;rintro e a' w' ⟨rfl,hI'⟩;exact⟨rfl,hI'⟩
  | ret =>
   refine⟨(.ret,F1,H1),h1,λro n n0 wi Gi μi a w hro hfl hI=>wpIn_seq (wpIn_mono (h2 ro n n0 wi Gi μi a w hro hfl hI) ?_)⟩;rintro e a' w' ⟨rfl,hI'⟩;exact⟨rfl,hI'⟩
 | .cond c x y,F,H,k,z,hl,h=>by
  simp only[DY]at h;split at h
  ·rename_i t ht;replace h:=T4 h ht;have hc:∀ {n0 wi Gi μi a w},IM n0 wi Gi μi nt F H a w->a.eval c=.bool t:=λ{n0 wi Gi μi a w} hI=>by
    obtain⟨G,μ,e,hW,hF,_⟩:=hI;have hc:=cQ hF c;rw[ht,VR]at hc;rw[<- hc];cases c <;> rfl
   cases t with
   | true =>
    obtain⟨r,h3,h4⟩:=nK hcl hP x F H k z (λa ha=>hl a (by simp[gX,ha])) h;exact⟨r,h3,λro n n0 wi Gi μi a w hro hfl hI=>wpIn_cond (hc hI) (h4 ro n n0 wi Gi μi a w hro hfl hI)⟩
   | false =>
    obtain⟨r,h3,h4⟩:=nK hcl hP y F H k z (λa ha=>hl a (by simp[gX,ha])) h;exact⟨r,h3,λro n n0 wi Gi μi a w hro hfl hI=>wpIn_cond (hc hI) (h4 ro n n0 wi Gi μi a w hro hfl hI)⟩
  ·cases h
 | .block id x,F,H,k,z,hl,h=>by
  simp only[DY]at h;obtain⟨⟨ex,F1,H1⟩,h1,h2⟩:=nK hcl hP x F H _ z (λa ha=>hl a (by simp[gX,ha])) h;cases ex with
  | normal =>
   refine⟨(.normal,F1,H1),h1,λro n n0 wi Gi μi a w hro hfl hI=>wpIn_block (wpIn_mono (h2 ro n n0 wi Gi μi a w hro hfl hI) ?_)⟩;rintro e a' w' ⟨rfl,hI'⟩;exact⟨rfl,hI'⟩
  | ret =>
   refine⟨(.ret,F1,H1),h1,λro n n0 wi Gi μi a w hro hfl hI=>wpIn_block (wpIn_mono (h2 ro n n0 wi Gi μi a w hro hfl hI) ?_)⟩;rintro e a' w' ⟨rfl,hI'⟩;exact⟨rfl,hI'⟩
  | exit i =>
   simp only at h1;cases hi:Nat.beq i id with
   | true =>
    rw[hi]at h1;have:=oE hi;subst this;refine⟨(.normal,F1,H1),h1,λro n n0 wi Gi μi a w hro hfl hI=>wpIn_block (wpIn_mono (h2 ro n n0 wi Gi μi a w hro hfl hI) ?_)⟩;rintro e a' w' ⟨rfl,hI'⟩;simp only[Ex.to,Exit.inBlock,if_true];exact⟨trivial,hI'⟩
   | false =>
    rw[hi]at h1;have hne:¬ i=id:=λe=>by rw[e]at hi; simp at hi
    refine⟨(.exit i,F1,H1),h1,λro n n0 wi Gi μi a w hro hfl hI=>wpIn_block (wpIn_mono (h2 ro n n0 wi Gi μi a w hro hfl hI) ?_)⟩;rintro e a' w' ⟨rfl,hI'⟩;simp only[Ex.to,Exit.inBlock,hne,if_false];exact⟨trivial,hI'⟩
 | .loop x,F,H,k,z,hl,h=>by
  simp only[DY]at h;split at h
  ·rename_i s hs;split at h
   ·rename_i x0 hx;obtain⟨y,h1,h2⟩:=zD h;exact⟨EA s.exits y,OJ h2,λro n n0 wi Gi μi a w hro hfl hI=>hl (.loop x) (by simp[gX]) s hs x0 y h1 ro n n0 wi Gi μi a w hro hfl (hI.dec hfl hx)⟩
   ·cases h
  ·cases h
 | .rangeFunc g ps as1 x,F,H,k,z,hl,h=>by
  simp only[DY]at h;cases hrd:rd with
  | true=>rw[hrd]at h; cases h
  | false =>
   rw[hrd]at h;simp only[oD]at h;split at h
   ·rename_i s hs;split at h
    ·rename_i x0 hx;obtain⟨y,h1,h2⟩:=zD h;refine⟨EA s.exits y,OJ h2,λro n n0 wi Gi μi a w hro hfl hI=>?_⟩;have:=hl (.rangeFunc g ps as1 x) (by simp[gX]) hrd s hs x0 y h1 ro n n0 wi Gi μi a w (by rw[hrd]; exact hro) hfl (hI.dec hfl hx);rw[hrd]at this;exact this
    ·cases h
   ·cases h
 | .exit id,F,H,k,z,hl,h=>⟨(.exit id,F,H),h,λ_ _ _ _ _ _ _ _ _ _ hI=>wpIn_exit ⟨rfl,hI,λ_=>rfl⟩⟩
 | .scope x,F,H,k,z,hl,h=>by simp only[DY]at h; cases h
 | .ret,F,H,k,z,hl,h=>⟨(.ret,F,H),h,λ_ _ _ _ _ _ _ _ _ _ hI=>wpIn_ret ⟨rfl,hI,λ_=>rfl⟩⟩
 | .goto l,F,H,k,z,hl,h=>by simp only[DY]at h; cases h
 | .refuse s,F,H,k,z,hl,h=>by simp only[DY]at h; cases h
theorem T9 {sh:List (Nat×Kd)}{exits:List (Ex×List (Nat×Kd))}{ex:Ex}{F:Frm}{H:Heap}{y:Shape.den sh⊕qI exits}(h:aGO T sh exits ex F H=some y) :
  (∃ x,y=.inl x/\ex=.normal/\BG T sh F H=some x)\/(∃ z,y=.inr z/\ex≠.normal/\SB T exits ex F H=some z):=by
 cases ex with
 | normal =>
  simp only[aGO]at h;split at h
  ·rename_i x hx;exact .inl ⟨x,(oB h).symm,rfl,hx⟩
  ·cases h
 | exit i =>
  simp only[aGO]at h;split at h
  ·rename_i x hx;exact .inr ⟨x,(oB h).symm,by simp,hx⟩
  ·cases h
 | ret =>
  simp only[aGO]at h;split at h
  ·rename_i x hx;exact .inr ⟨x,(oB h).symm,by simp,hx⟩
  ·cases h
theorem aKR(hcl:dF P (eT P E)) (hP:P.follows .mixedOrders=true) {a:Code} {sh:List (Nat×Kd)} {exits:List (Ex×List (Nat×Kd))} {step:Shape.den sh->Option (Shape.den sh⊕qI exits)} (L:Nat)
  (hl:∀ b∈gX a,RK P nt lt rt rd T b) (hr:∀ x,aNT P E nt bG lt rt rd T a sh exits x=step x):UB P nt rd T (.loop a) ⟨sh,exits,bF step L⟩:=by
 intro x z hz ro n n0 wi Gi μi act w hro hfl hI;refine wpIn_loop_ghost (λk a w=>(∃ x,bF step k x=some z/\IM n0 wi Gi μi nt (AR sh x 0) (JE sh x) a w)/\(rd=true->a.defers=act.defers)) L ⟨⟨x,hz,hI⟩,λ_=>rfl⟩ ?_;rintro k act1 w ⟨⟨x,hz,hI⟩,hdef⟩;cases k with
 | zero=>cases hz
 | succ k =>
  simp only[bF]at hz;split at hz
  ·rename_i y hs;rw[<- hr]at hs;obtain⟨⟨ex,F',H'⟩,h1,h2⟩:=nK hcl hP a _ _ _ _ hl hs;refine wpIn_mono (h2 ro n n0 wi Gi μi act1 w hro hfl hI) ?_;rintro e a' w' ⟨rfl,hI',hd'⟩;rcases T9 h1 with ⟨y',e1,e2,e3⟩|⟨z',e1,_,_⟩
   ·cases e1;dsimp only at e2;subst e2;exact⟨k,by omega,⟨y,hz,hI'.dec hfl e3⟩,λhr=>(hd' hr).trans (hdef hr)⟩
   ·cases e1
  ·rename_i y hs;simp only[oJ]at hz;subst hz;rw[<- hr]at hs;obtain⟨⟨ex,F',H'⟩,h1,h2⟩:=nK hcl hP a _ _ _ _ hl hs;refine wpIn_mono (h2 ro n n0 wi Gi μi act1 w hro hfl hI) ?_;rintro e a' w' ⟨rfl,hI',hd'⟩;rcases T9 h1 with ⟨y',e1,e2,e3⟩|⟨z',e1,e2,e3⟩
   ·cases e1
   ·cases e1;dsimp only at e2 e3 hI';obtain⟨h3,h5⟩:=hI'.aAZ hfl e3;have h6:(rd=true->a'.defers=act.defers):=λhr=>(hd' hr).trans (hdef hr)
    cases ex with
    | normal=>exact absurd rfl e2
    | exit i=>exact⟨by rw[h3],h5,h6⟩
    | ret=>exact⟨by rw[h3],h5,h6⟩
  ·cases hz
end
def XN:Kd->Nat->List Nat
 | .own _ _,n|.box _ _,n|.bown _ _ _,n|.bag _ _ _ _ _,n|.bag2 _ _ _ _ _ _,n=>[n]
 | .win j _,_=>[j]
 | _,_=>[]
def FG:List (Nat×Kd)->Nat->List Nat
 | [],_=>[]
 | (_,k)::r,n=>XN k n++FG r (n+k.pos)
structure Stp (S:Nat->Prop) (B A:World):Prop where
 bG:∀ b,b<B.heap.size->¬ S b->A.heap[b]?=B.heap[b]?
 room:∀ b n,Room B b n->Room A b n
 os:A.os=B.os
 tape:A.tape=B.tape
 output:A.output=B.output
 size:B.heap.size<=A.heap.size
theorem Stp.trans {S:Nat->Prop}{A B C:World}(h:Stp S A B)(k:Stp S B C):Stp S A C :=
 ⟨λb hb hs=>(k.bG b (Nat.lt_of_lt_of_le hb h.size) hs).trans (h.bG b hb hs),λb n hr=>k.room b n (h.room b n hr),k.os.trans h.os,k.tape.trans h.tape,k.output.trans h.output,oR h.size k.size⟩
def aKC(P:Program) (gf:FuncId) (ts:List Ty) (ks:List Kd) (f:Q5 ts->Option (List (aK ks))):Prop :=
 ∀ x all,f x=some all->∀ (m l:Nat) (W:World) (G:Nat->Prop) (vs:List Value),Lt W G->VRs W (Gd.of G) aI (VK ts x) vs ->
  ∀ (J Jx:List (aK ks)->(Nat->Prop)->(Nat->Prop)->World->Prop),
  (∀ pre e post T X B T' X' A us Gx m',all=pre++e::post->J pre T X B->Stp X B A->(∀ b,T' b->(T b\/B.heap.size<=b)/\b<A.heap.size)->(∀ b,X' b->T' b/\(X b\/B.heap.size<=b)) ->
   (∀ b,Gx b->(G b\/T' b)/\¬ X' b)->VRs A (Gd.of Gx) aI (lO ks e) us ->
   YieldAt Fence.wide m' P l us.toArray A λen C =>
    ((∀ b,b<A.heap.size->G b\/T' b->C.heap[b]?=A.heap[b]?)/\(∀ b n,Room A b n->Room C b n)/\A.heap.size<=C.heap.size)/\((en=.returned (.bool true)/\J (pre++[e]) T' X' C)\/(en=.returned (.bool false)/\Jx (pre++[e]) T' X' C))) ->
  J [] (λ_=>False) (λ_=>False) W ->
  CallsIn Fence.wide m P gf ((#[.func (.yield l) #[] #[]]:Array Value)++vs.toArray) W λen C=>(∃ v,en=.returned v)/\∃ T X B,Stp X B C/\(J all T X B\/∃ pre,Jx pre T X B)
def aKW {σ τ ε:Type} (step:σ->ε->Option (σ⊕τ)) (fin:σ->Option τ):List ε->σ->Option τ
 | [],y=>fin y
 | e::es,y=>match step y e with
  | some (.inl y')=>aKW step fin es y'
  | some (.inr z)=>some z
  | none=>none
def aMB:List Nat->List PV->Frm->Frm
 | t::ts,p::ps,F=>aMB ts ps ((t,p)::F)
 | _,_,F=>F
def a4M(sh:List (Nat×Kd)) (exits:List (Ex×List (Nat×Kd))) (F0:Frm) (ex:Ex) (_:Frm) (H:Heap):Option (Shape.den sh⊕qI exits):=aGO [] sh exits ex F0 H
def aPN(P:Program)(E:Env)(nt bG:Nat)(lt rt:Nat->Option cA)(ps:List Nat)(assign body:Code)(ks:List Kd)(sh:List (Nat×Kd))(exits:List (Ex×List (Nat×Kd)))(y:Shape.den sh)(e:aK ks):Option (Shape.den sh⊕qI exits) :=
 bif Nat.beq ps.length ks.length&&ps.all (λt=>Nat.blt t nt) then
  DY P E nt bG lt rt true (FG sh 0) assign (aMB ps (lO ks e) (AR sh y 0)) (JE sh y) λex F H=>match ex with
   | .normal=>DY P E nt bG lt rt true (FG sh 0) body F H (a4M sh exits (AR sh y 0))
   | _=>none
 else none
def a6Z(sh:List (Nat×Kd))(exits:List (Ex×List (Nat×Kd)))(y:Shape.den sh):Option (qI exits):=SB [] exits .normal (AR sh y 0) (JE sh y)
def a23(sh:List (Nat×Kd)) (exits:List (Ex×List (Nat×Kd))) {ε:Type} (all:Shape.den sh->Option (List ε)) (step:Shape.den sh->ε->Option (Shape.den sh⊕qI exits)) (x:Shape.den sh):Option (qI exits) :=
 match all x with
 | some l=>aKW step (a6Z sh exits) l x
 | none=>none
def a0I(gf:FuncId) (ts:List Ty) (sh:List (Nat×Kd)) (g:Operand) (x:Shape.den sh):Option (Q5 ts):=bif ts.all Ty.plain then aOP gf ts (ev (AR sh x 0) g) else none
section
variable {P:Program} {n0:Nat->Prop} {w wi:World} {G Gi:Gd} {μ μi:Mp} {H:Heap} {F:Frm} {a:Act} {nt:Nat}
theorem GV {l:Nat} {o o':Obj} (hl:w.heap[l]?=some o) (ho:(∀ c t fr,o≠.cells c t fr)/\∀ es clk,o≠.map es clk) (hG:¬ G l):Mono w G μ (w.putObj l o') G μ :=
 ⟨λb hb=>⟨hb,World.putObj_heap_other (by rintro rfl; exact hG hb)⟩,λ_ _ h=>h,λ_ _ h=>h,λb n ⟨cs,t,fr,h1,h2⟩=>⟨cs,t,fr,by
  rw[World.putObj_heap_other]
  ·exact h1
  ·rintro rfl;rw[hl]at h1;exact ho.1 cs t fr (oB h1),h2⟩,λ_ _ h=>h⟩
theorem RG(hW:aN n0 G μ H w){l:Nat}{o o':Obj}(hl:w.heap[l]?=some o)(ho:(∀ c t fr,o≠.cells c t fr)/\∀ es clk,o≠.map es clk)(hG:¬ G l):aN n0 G μ H (w.putObj l o'):=by
 have m:=GV (μ:=μ) (o':=o') hl ho hG;refine⟨?_,hW.tags,hW.inj,hW.lt.step m.good λb hb=>by rw[World.putObj_size]; exact hW.lt b hb,hW.top,λb hb=>hW.base b (by rw[World.putObj_size]at hb; exact hb),hW.rows.step m.aI (by rw[World.putObj_size]; exact oM _) (λ_=>rfl) (λj b hj=>⟨?_,id,λr k h1 h2 h3=>⟨r,k,h1,h2,h3⟩⟩) (λr k _ _ h1 _ _=>⟨k,h1,rfl,rfl,rfl,rfl⟩)⟩
 case refine_2 =>
  rw[World.putObj_heap_other];rintro rfl;rcases hW.rows.cel j _ hj with ⟨c,t,fr,hc⟩|⟨es,clk,hc⟩
  ·rw[hl]at hc;exact ho.1 c t fr (oB hc)
  ·rw[hl]at hc;exact ho.2 es clk (oB hc)
 intro r k b hr hb;obtain⟨c,h1,h2,h3,h4⟩:=hW.blk r k b hr hb;have e:(w.putObj l o').heap[b]?=w.heap[b]?:=by
  rw[World.putObj_heap_other];rintro rfl;rw[hl]at h1;exact ho.1 _ _ _ (oB h1)
 exact⟨c,e.trans h1,aL.mono m e 0 _ h2,h3,h4⟩
theorem UR {l:Nat}{o o':Obj}(hl:w.heap[l]?=some o)(ho:(∀ c t fr,o≠.cells c t fr)/\∀ es clk,o≠.map es clk)(hG:¬ G l)(hn:n0 l):Ext n0 w G μ (w.putObj l o') G μ :=
 {toMono:=GV hl ho hG
  os:=rfl
  tape:=rfl
  output:=rfl
  size:=by simp
  old:=λb hb hnb=>World.putObj_heap_other (by rintro rfl; exact hnb hn)
  new:=λb hb=>.inl hb }
theorem aWL {T X T' Gx G1:Nat->Prop} {A B:World} (hW:aN (λb=>n0 b/\¬ T b) G μ H B) (hn:∀ b,T b->n0 b) (hTX:∀ b,X b->T b) (hGX:∀ b,G b->¬ X b) (hG1:∀ b,G1 b->G b) (st:Stp X B A) (hT:∀ b,T' b->(T b\/B.heap.size<=b)/\b<A.heap.size) (hx:∀ b,Gx b->G1 b\/T' b) :
  Ext n0 B G μ A (G.or Gx) μ:={
 good:=λb hb=>⟨.inl hb,st.bG b (hW.lt b hb) (hGX b hb)⟩
 map:=λ_ _ h=>h
 len:=λ_ _ h=>h
 room:=st.room
 row:=λ_ _ h=>h
 os:=st.os
 tape:=st.tape
 output:=st.output
 size:=st.size
 old:=λb hb hnb=>st.bG b hb λhs=>hnb (hn b (hTX b hs))
 new:=λb hb=>by
  rcases hb with hb|hb
  ·exact .inl hb
  ·rcases hx b hb with h|h
   ·exact .inl (hG1 b h)
   ·rcases(hT b h).1 with h|h
    ·exact .inr (hn b h)
    ·exact .inr (hW.base b h).1 }
theorem aR1 {T X T' Gx G1:Nat->Prop}{A B:World}(hW:aN (λb=>n0 b/\¬ T b) G μ H B)(hTX:∀ b,X b->T b)(hGX:∀ b,G b->¬ X b)(hG1:∀ b,G1 b->G b)(st:Stp X B A)(hT:∀ b,T' b->(T b\/B.heap.size<=b)/\b<A.heap.size)(hx:∀ b,Gx b->G1 b\/T' b) :
  aN (λb=>n0 b/\¬ T' b) (G.or Gx) μ H A:=by
 have m:Mono B G μ A (G.or Gx) μ:=⟨λb hb=>⟨.inl hb,st.bG b (hW.lt b hb) (hGX b hb)⟩,λ_ _ h=>h,λ_ _ h=>h,st.room,λ_ _ h=>h⟩;refine⟨?_,hW.tags,hW.inj,?_,hW.top,λb hb=>⟨(hW.base b (oR st.size hb)).1,λhs=>Nat.lt_irrefl _ (Nat.lt_of_lt_of_le (hT b hs).2 hb)⟩,?_⟩
 case refine_3 =>
  have nT:∀ j b,G.row j=some b->¬ T' b:=λj b hj hs=>by
   obtain⟨a1,a2,_⟩:=hW.rows.sep j b hj;rcases(hT b hs).1 with h|h
   ·exact a2.2 h
   ·omega
  refine(hW.rows.aDJ (n1:=λb=>n0 b/\¬ T' b) λj b hj hn=>⟨hn.1,nT j b hj⟩).step m.aI st.size (λ_=>rfl) (λj b hj=>⟨?_,?_,λr k h1 h2 h3=>⟨r,k,h1,h2,h3⟩⟩) (λr k _ _ h1 _ _=>⟨k,h1,rfl,rfl,rfl,rfl⟩)
  ·obtain⟨a1,a2,_⟩:=hW.rows.sep j b hj;exact st.bG b a1 λhx=>a2.2 (hTX b hx)
  ·rintro(h|h)
   ·exact h
   ·rcases hx b h with h'|h'
    ·exact hG1 b h'
    ·exact absurd h' (nT j b hj)
 ·intro r k b hr hb;obtain⟨c,h1,h2,h3,h4,h5⟩:=hW.blk r k b hr hb;have hlt:=hW.nB hr hb;have hns:¬ X b:=by
   cases hf:k.frozen with
   | true=>exact hGX b (h4 hf)
   | false=>exact λhx=>(h5 hf).1.2 (hTX b hx)
  have e:=st.bG b hlt hns;have nT:k.frozen=false->¬ T' b:=λhf hs=>by
   rcases(hT b hs).1 with h|h
   ·exact(h5 hf).1.2 h
   ·omega
  refine⟨c,e.trans h1,aL.mono m e 0 _ h2,h3,λhf=>.inl (h4 hf),λhf=>⟨⟨(h5 hf).1.1,nT hf⟩,?_⟩⟩;rintro(h|h)
  ·exact(h5 hf).2 h
  ·rcases hx b h with h'|h'
   ·exact(h5 hf).2 (hG1 b h')
   ·exact nT hf h'
 ·refine hW.lt.step m.good ?_;rintro b (hb|hb)
  ·exact Nat.lt_of_lt_of_le (hW.lt b hb) st.size
  ·rcases hx b hb with h|h
   ·exact Nat.lt_of_lt_of_le (hW.lt b (hG1 b h)) st.size
   ·exact(hT b h).2
theorem aM3:∀ {ps:List Nat} {qs:List PV} {us:List Value} {F:Frm} {tmps:Array Value},ps.length=qs.length->(∀ t∈ps,t<nt)->VRs w G μ qs us->fQ w G μ nt F { tmps:=tmps,defers:=[] } ->
  fQ w G μ nt (aMB ps qs F) { tmps:=(ps.zip us).foldl (λt (p,v)=>t.setIfInBounds p v) tmps,defers:=[] }
 | [],[],us,F,tmps,_,_,hv,hF=>by simp only[aMB,List.zip_nil_left,List.foldl_nil]; exact hF
 | t::ts,q::qs,us,F,tmps,hl,hb,hv,hF=>by
  rw[VRs]at hv;obtain⟨v,vs,rfl,h1,h2⟩:=hv;simp only[aMB,List.zip_cons_cons,List.foldl_cons];exact aM3 (by simpa using hl) (λs hs=>hb s (List.mem_cons_of_mem _ hs)) h2 (hF.cons (hb t List.mem_cons_self) h1)
 | [],_::_,us,F,tmps,hl,_,_,_=>by simp at hl
 | _::_,[],us,F,tmps,hl,_,_,_=>by simp at hl
end
def GM(μ:Mp) (T:List Nat):Mp:=⟨λr=>if r∈T then μ.loc r else none,λr=>if r∈T then μ.len r else none⟩
section
variable {P:Program} {n0:Nat->Prop} {w w' wi:World} {G G' Gi:Gd} {μ μ' μi:Mp} {H:Heap} {F:Frm} {a:Act} {nt:Nat}
theorem GR {T:List Nat}{r:Nat}(h:r∈T):(GM μ T).loc r=μ.loc r/\(GM μ T).len r=μ.len r:=by simp[GM,h]
theorem V0 {T:List Nat}:∀ r,¬ r∈T->(GM μ T).loc r=none/\(GM μ T).len r=none:=λr h=>by simp[GM,h]
theorem aCF(T:List Nat):Ext n0 w G (GM μ T) w G μ:={
 good:=λ_ h=>⟨h,rfl⟩
 map:=λr b hr=>by
  by_cases h:r∈T
  ·rw[(GR h).1]at hr; exact hr
  ·rw[(V0 r h).1]at hr; cases hr
 len:=λr b hr=>by
  by_cases h:r∈T
  ·rw[(GR h).2]at hr; exact hr
  ·rw[(V0 r h).2]at hr; cases hr
 room:=λ_ _ h=>h
 row:=λ_ _ h=>h
 os:=rfl
 tape:=rfl
 output:=rfl
 size:=oM _
 old:=λ_ _ _=>rfl
 new:=λ_ h=>.inl h }
theorem aDN:∀ (ts:List Ty) (x:Q5 ts),eB.noRefs (VK ts x)=true
 | [],_=>rfl
 | t::r,(x,xs)=>by simp only[VK,eB.noRefs,eB,aDN r xs,Bool.and_self]
theorem aXN {T:List Nat}:∀ (k:Kd) (x:k.den) (n:Nat) {v:Value},(∀ r,r∈XN k n->r∈T)->VR w G μ (AQ k x n) v->VR w G (GM μ T) (AQ k x n) v
 | .int _,x,n,v,_,h=>by simp only[AQ]at h ⊢; rw[VR]at h ⊢; exact h
 | .bool,x,n,v,_,h=>by simp only[AQ]at h ⊢; rw[VR]at h ⊢; exact h
 | .str,x,n,v,_,h=>by simp only[AQ]at h ⊢; rw[VR]at h ⊢; exact h
 | .list t,x,n,v,_,h=>(BE (AQ (.list t) x n) v rfl h).aY
 | .agg t,x,n,v,_,h=>(BE (AQ (.agg t) x n) v (by simp only[AQ,eB]; exact O8 t x) h).aY
 | .own e t,x,n,v,hT,h=>by
  have:=GR (μ:=μ) (hT n (by simp[XN]));simp only[AQ]at h ⊢;rw[VR]at h ⊢; rw[this.1,this.2]; exact h
 | .box e t,x,n,v,hT,h=>by
  have:=GR (μ:=μ) (hT n (by simp[XN]));simp only[AQ]at h ⊢;rw[VR]at h ⊢; rw[this.1]; exact h
 | .bown e et t,x,n,v,hT,h=>by
  have:=GR (μ:=μ) (hT n (by simp[XN]));simp only[AQ]at h ⊢;rw[VR]at h ⊢; rw[this.1]; exact h
 | .bag e t1 et t t2,x,n,v,hT,h=>by
  have:=GR (μ:=μ) (hT n (by simp[XN]));simp only[AQ]at h ⊢;rw[VR]at h ⊢; rw[this.1]; exact h
 | .bag2 e t1 et t eu u,x,n,v,hT,h=>by
  have:=GR (μ:=μ) (hT n (by simp[XN]));simp only[AQ]at h ⊢;rw[VR]at h ⊢; rw[this.1]; exact h
 | .ptr t,x,n,v,_,h=>(BE (AQ (.ptr t) x n) v rfl h).aY
 | .fn g,x,n,v,_,h=>by simp only[AQ]at h ⊢; rw[VR]at h ⊢; exact h
 | .nil0,x,n,v,_,h=>by simp only[AQ]at h ⊢; rw[VR]at h ⊢; exact h
 | .val,x,n,v,_,h=>by simp only[AQ]at h ⊢; rw[VR]at h ⊢; exact h
 | .hnd sz,x,n,v,_,h=>(BE (AQ (.hnd sz) x n) v rfl h).aY
 | .mpk j,x,n,v,_,h=>(BE (AQ (.mpk j) x n) v rfl h).aY
 | .ar e t,x,n,v,_,h=>by simp only[AQ]; rw[VR]; trivial
 | .nilI,x,n,v,_,h=>by simp only[AQ]at h ⊢; rw[VR]at h ⊢; exact h
 | .clo g ts,x,n,v,_,h=>(BE (AQ (.clo g ts) x n) v (by simp only[AQ,eB,eB.noRefs,aDN ts x,Bool.and_self]) h).aY
 | .win j sz,x,n,v,hT,h=>by
  have:=GR (μ:=μ) (hT j (by simp[XN]));simp only[AQ]at h ⊢;rw[VR]at h ⊢; rw[this.1,this.2]; exact h
theorem aNN {T:List Nat}:∀ (sh:List (Nat×Kd)) (x:Shape.den sh) (n:Nat) {t:Nat} {v:Value},(∀ r,r∈FG sh n->r∈T)->VR w G μ (cV (AR sh x n) t) v->VR w G (GM μ T) (cV (AR sh x n) t) v
 | [],_,_,t,v,_,h=>by simp only[AR,cV]; rw[VR]; trivial
 | (s,k)::r,(x,xs),n,t,v,hT,h=>by
  simp only[AR]at h ⊢;rw[dJ]at h ⊢
  by_cases hs:t=s
  ·rw[if_pos hs]at h ⊢;exact aXN k x n (λr hr=>hT r (by simp only[FG]; exact List.mem_append_left _ hr)) h
  ·rw[if_neg hs]at h ⊢;exact aNN r xs (n+k.pos) (λr hr=>hT r (by simp only[FG]; exact List.mem_append_right _ hr)) h
theorem aGX(hW:aN n0 G μ H w) (o:Obj):Ext n0 w G μ (w.alloc o) G μ/\aN n0 G μ H (w.alloc o):=by
 have e:Ext n0 w G μ (w.alloc o) G μ:={
  good:=λb hb=>⟨hb,Below.heap_alloc _ _ _ (hW.lt b hb)⟩
  map:=λ_ _ h=>h
  len:=λ_ _ h=>h
  room:=λb n hc=>by
   obtain⟨cs,t,fr,h1,h2⟩:=hc;exact⟨cs,t,fr,by rw[Below.heap_alloc _ _ _ (fL h1)]; exact h1,h2⟩
  row:=λ_ _ h=>h
  os:=rfl
  tape:=rfl
  output:=rfl
  size:=by simp
  old:=λb hb _=>Below.heap_alloc _ _ _ hb
  new:=λb hb=>.inl hb }
 exact⟨e,hW.bG e ⟨λ_=>rfl,λj b hj=>⟨Below.heap_alloc _ _ _ (hW.rows.sep j b hj).1,id⟩⟩ (λr k b hr hb=>⟨Below.heap_alloc _ _ _ (hW.nB hr hb),id⟩) λb hb=>Nat.lt_of_lt_of_le (hW.lt b hb) e.size⟩
theorem Ext.plain (h:Ext n0 w G μ w' G' μ'):Ext n0 w G aI w' G' aI :=
 {good:=h.good,map:=λ_ _ h=>(by cases h),len:=λ_ _ h=>(by cases h),room:=h.room,row:=h.row,os:=h.os,tape:=h.tape,output:=h.output,size:=h.size,old:=h.old,new:=h.new }
theorem Ext.back (hfl:∀ r,μi.loc r=none/\μi.len r=none)(h:Ext n0 w G aI w' G' aI):Ext n0 w G μi w' G' μ' :=
 {good:=h.good,map:=λr b hr=>(by rw[(hfl r).1]at hr; cases hr),len:=λr b hr=>(by rw[(hfl r).2]at hr; cases hr),room:=h.room,row:=h.row,os:=h.os,tape:=h.tape,output:=h.output,size:=h.size,old:=h.old,new:=h.new }
def Ex.code:Ex->Code
 | .normal=>.skip
 | .ret=>.ret
 | .exit i=>.exit i
structure Btw (n0:Nat->Prop) (wi:World) (Gi:Gd) (μi:Mp) (nt:Nat) (a:Act) (G0:Gd) (N L D:Nat) (F:Frm) (H:Heap) (T X:Nat->Prop) (B:World) (rec:Obj) (G:Gd) (μ:Mp):Prop where
 ext:Ext n0 wi Gi μi B G μ
 winv:aN (λb=>n0 b/\¬ T b) G μ H B
 finv:fQ B G μ nt F { a with defers:=[] }
 base:∀ b,G0 b->G b
 good:∀ b,G b->¬ X b
 sub:∀ b,X b->T b
 seq:∀ b,T b->n0 b/\N<=b
 size:N<=B.heap.size
 notL:¬ G L
 notD:¬ G D
 atL:B.heap[L]?=some rec
 atD:B.heap[D]?=some (.deferred (some []))
 marks:Marks wi B G a.defers
theorem aXH {gf:FuncId}{ts:List Ty}{c:Q5 ts}{v:Value}(h:VR w G aI (.clo (.func gf) [] (VK ts c)) v):∃ cs:Array Value,v=.func (.func gf) #[] cs/\VRs w G aI (VK ts c) cs.toList:=by
 rw[VR]at h;obtain⟨fs,cs,h1,h2,h3⟩:=h;rw[VRs]at h2;have:fs=#[]:=by
  apply Array.ext';simpa using h2
 subst this;exact⟨cs,h1,h3⟩
theorem YD:∀ (l:List Kd) (x:aK l),(lO l x).length=l.length
 | [],_=>rfl
 | k::r,(x,xs)=>by simp only[lO,List.length_cons,YD r xs]
set_option maxHeartbeats 2000000 in
theorem a08 {E:Env} {bG:Nat} {lt rt:Nat->Option cA} (hcl:dF P (eT P E)) (hP:P.follows .mixedOrders=true) {g:Operand} {ps:Array Tmp} {as1 body:Code} {gf:FuncId} {ts:List Ty} {ks:List Kd} {f:Q5 ts->Option (List (aK ks))}
  (hit:aKC P gf ts ks f) (hgf:∀ args w,(callFunc gf args).run P w=.ok (.enter gf args) w)
  {sh:List (Nat×Kd)} {exits:List (Ex×List (Nat×Kd))} {step:Shape.den sh->aK ks->Option (Shape.den sh⊕qI exits)} {all:Shape.den sh->Option (List (aK ks))}
  (has:∀ b∈gX as1,RK P nt lt rt true (FG sh 0) b) (hbd:∀ b∈gX body,RK P nt lt rt true (FG sh 0) b)
  (hsq:∀ x l,all x=some l->∃ c,a0I gf ts sh g x=some c/\f c=some l)
  (hr:∀ y e,aPN P E nt bG lt rt ps.toList as1 body ks sh exits y e=step y e) :
  UB P nt false [] (.rangeFunc g ps as1 body) ⟨sh,exits,a23 sh exits all step⟩:=by
 intro x z hz ro n n0 wi Gi μi a w hro hfl0 hI;have hfl:∀ r,μi.loc r=none/\μi.len r=none:=λr=>hfl0 r (by simp)
 have hro:=hro rfl;subst hro;show (Code.rangeFunc g ps as1 body).wpIn Fence.wide n P _ a w;dsimp only at hz hI ⊢;unfold a23 at hz;obtain⟨lst,hall⟩:∃ lst,all x=some lst:=by
  cases h:all x with
  | none=>rw[h]at hz; cases hz
  | some l=>exact⟨l,rfl⟩
 rw[hall]at hz;dsimp only at hz;obtain⟨c,hc1,hc2⟩:=hsq x lst hall;obtain⟨G,μ,e,hW,hF,hm⟩:=hI;have hgv:VR w G μ (ev (AR sh x 0) g) (a.eval g):=by
  have:=cQ hF g;have e1:({ a with defers:=[] }:Act).eval g=a.eval g:=by cases g <;> rfl
  rwa[e1]at this
 obtain⟨hpl0,hc1⟩:=aH hc1;obtain⟨lb,hg,hvs⟩:=aXH (VF hc1 hgv);refine wpIn_rangeFunc ?_;intro fn _;obtain⟨rec,hrec⟩:∃ rec:LoopState->Option Code->Loop,rec=λst pe=>{ state:=st,pending:=pe,fn,tmps:=a.tmps,params:=ps,assign:=as1,body,defers:=w.heap.size }:=⟨_,rfl⟩
 obtain⟨W1,hW1⟩:∃ W1,(w.alloc (.deferred (some []))).alloc (.loop (rec .ready none))=W1:=⟨_,rfl⟩;obtain⟨L,hLe⟩:∃ L,w.heap.size+1=L:=⟨_,rfl⟩;obtain⟨D,hDe⟩:∃ D,w.heap.size=D:=⟨_,rfl⟩;have hs1:W1.heap.size=w.heap.size+2:=by rw[<- hW1]; simp
 have hL1:W1.heap[L]?=some (.loop (rec .ready none)):=by rw[<- hW1,<- hLe]; have:=World.alloc_heap_new (w.alloc (.deferred (some []))) (.loop (rec .ready none)); rwa[World.size_alloc]at this
 have hD1:W1.heap[D]?=some (.deferred (some [])):=by rw[<- hW1,<- hDe]; exact(Below.heap_alloc _ _ _ (by simp)).trans (World.alloc_heap_new w _)
 obtain⟨a1,a2⟩:=aGX (n0:=n0) hW (.deferred (some []));obtain⟨b1,b2⟩:=aGX (n0:=n0) a2 (.loop (rec .ready none));rw[hW1]at b1 b2;have eW1:Ext n0 wi Gi μi W1 G μ:=(e.trans a1).trans b1;have hvs1:VRs W1 G aI (VK ts c) lb.toList:=VRs.mono (a1.toMono.trans b1.toMono).aI _ _ hvs;have hGL:¬ G L:=λh=>by have:=hW.lt L h; omega
 have hGD:¬ G D:=λh=>by have:=hW.lt D h; omega
 have hn0L:n0 L:=hW.base L (by omega);have hn0D:n0 D:=hW.base D (by omega);have marks1:Marks wi W1 G a.defers:=hm.to λb hb h1 h2=>⟨by rw[<- hW1,Below.heap_alloc _ _ _ (by have:=fL h1; simp; omega),Below.heap_alloc _ _ _ (fL h1)]; exact h1,h2⟩
 have markN:∀ b,({ target:=.collected b,args:=#[] }:Deferred)∈a.defers->b<w.heap.size:=by
  intro b hb;obtain⟨b',e1,e2,_⟩:=hm.mem _ hb;have:b=b':=by injection e1 with e1 _; injection e1
  subst this;exact fL e2
 -- the states between the rounds
 let J:List (aK ks)->(Nat->Prop)->(Nat->Prop)->World->Prop:=λpre T X B=>∃ y,aKW step (a6Z sh exits) (lst.drop pre.length) y=some z/\∃ G' μ',Btw n0 wi Gi μi nt a G W1.heap.size L D (AR sh y 0) (JE sh y) T X B (.loop (rec .ready none)) G' μ'
 let Jx:List (aK ks)->(Nat->Prop)->(Nat->Prop)->World->Prop:=λpre T X B=>(EA exits z).1≠.normal/\∃ G' μ',Btw n0 wi Gi μi nt a G W1.heap.size L D (EA exits z).2.1 (EA exits z).2.2 T X B (.loop (rec .done (some (EA exits z).1.code))) G' μ'
 refine⟨L,[{ target:=.collected D,args:=#[] }],W1,{ target:=.fn (.func gf) lb,args:=#[.func (.yield L) #[] #[]] },W1,gf,#[.func (.yield L) #[] #[]]++lb,W1,?_,?_,λ_ _=>trivial,?_,λh=>(by cases h),?_⟩
 ·rw[<- hW1,hrec,<- hLe,<- hDe]; exact run_enterLoop_outer _ _ _ _ _
 ·simp only[resolve,hg];simp[go_sem]
 ·simp[invoke,go_sem,hgf]
 ·have hcall:=hit c lst hc2 (n-1) L W1 G.ok lb.toList b2.lt (vS (G:=G) (G':=Gd.of G.ok) (λb h=>h) _ _ _ (aB8 ts c hpl0) hvs1) J Jx ?round ?start
  ·rw[Array.toArray_toList]at hcall;refine hcall.mono ?_;rintro en C ⟨⟨v,rfl⟩,T,X,B,st,hJ⟩;have hstep:∀ {F':Frm} {H':Heap} {st':LoopState} {pe:Option Code} {G':Gd} {μ':Mp},Btw n0 wi Gi μi nt a G W1.heap.size L D F' H' T X B (.loop (rec st' pe)) G' μ' ->
     C.heap[L]?=some (.loop (rec st' pe))/\∀ o,IM n0 wi Gi μi nt F' H' { a with defers:={ target:=.collected D,args:=#[] }::a.defers } (C.putObj L o):=by
    intro F' H' st' pe G' μ' bt;have nS:∀ b,b<W1.heap.size->¬ X b:=λb hb hs=>Nat.lt_irrefl _ (Nat.lt_of_lt_of_le hb (bt.seq b (bt.sub b hs)).2)
    have hLC:C.heap[L]?=some (.loop (rec st' pe)):=(st.bG L (fL bt.atL) (nS L (by omega))).trans bt.atL;have hDC:C.heap[D]?=some (.deferred (some [])):=(st.bG D (fL bt.atD) (nS D (by omega))).trans bt.atD;refine⟨hLC,λo=>?_⟩;have x1:=aWL (T':=λ_=>False) (Gx:=λ_=>False) bt.winv (λb hb=>(bt.seq b hb).1) bt.sub bt.good bt.base st (λb hb=>hb.elim) (λb hb=>hb.elim);have x2:=(aR1 (T':=λ_=>False) (Gx:=λ_=>False) bt.winv bt.sub bt.good bt.base st (λb hb=>hb.elim) (λb hb=>hb.elim)).wider (n0:=n0) λb hb=>hb.1
    have nL:¬ (G' L\/False):=λh=>h.elim bt.notL id
    have nD:¬ (G' D\/False):=λh=>h.elim bt.notD id
    have x3:=RG (o':=o) x2 hLC ⟨λ_ _ _ h=>(by cases h),λ_ _ h=>(by cases h)⟩ nL;have x4:=UR (G:=G'.or λ_=>False) (n0:=n0) (μ:=μ') (o':=o) hLC ⟨λ_ _ _ h=>(by cases h),λ_ _ h=>(by cases h)⟩ nL hn0L;refine⟨G'.or λ_=>False,μ',(bt.ext.trans x1).trans x4,x3,bt.finv.mono (x1.toMono.trans x4.toMono),⟨D,rfl,?_,?_,nD,?_⟩,?_⟩
    ·rw[World.putObj_heap_other (by omega)]; exact hDC
    ·have:=e.size; omega
    ·intro d' hd' he;subst he;have:=markN _ hd';omega
    ·refine bt.marks.to λb hb h1 h2=>⟨?_,λh=>h.elim h2 id⟩
     have hbw:=markN b hb;rw[World.putObj_heap_other (by omega),st.bG b (fL h1) (nS b (by omega))];exact h1
   rcases hJ with ⟨y,hy,G',μ',bt⟩|⟨pre,hne,G',μ',bt⟩
   ·obtain⟨h1,h2⟩:=hstep bt;rw[List.drop_length]at hy;simp only[aKW]at hy;have hel:=run_endLoop (P:=P) h1 (by rw[hrec]; simp);have k:=λo=>(h2 o).aAZ hfl0 hy
    have hpn:(rec .ready none).pending=none:=by rw[hrec]
    rw[hpn]at hel;exact⟨none,_,hel,by rw[(k (.deferred none)).1]; rfl,(k _).2,λh=>by cases h⟩
   ·obtain⟨h1,h2⟩:=hstep bt;have hel:=run_endLoop (P:=P) h1 (by rw[hrec]; simp);have hpn:(rec .done (some (EA exits z).1.code)).pending=some (EA exits z).1.code:=by rw[hrec]
    rw[hpn]at hel;refine⟨some (EA exits z).1.code,_,hel,?_⟩;dsimp only;clear hel hpn h1 bt;generalize EA exits z=zz at hne h2 ⊢;obtain⟨ex,F',H'⟩:=zz;cases ex with
    | normal=>exact absurd rfl hne
    | ret=>exact wpIn_ret ⟨rfl,h2 _,λh=>by cases h⟩
    | exit i=>exact wpIn_exit ⟨rfl,h2 _,λh=>by cases h⟩
  case start =>
   refine⟨x,by simpa using hz,G,μ,eW1,b2.wider λb hb=>⟨hb,id⟩,hF.mono (a1.toMono.trans b1.toMono),λb h=>h,λb _ h=>h,λb h=>h.elim,λb h=>h.elim,oM _,hGL,hGD,hL1,hD1,marks1⟩
  case round =>
   rintro pre el post T X B T' X' A us Gx m' hlst ⟨y,hy,G',μ',bt⟩ st hT' hX' hGx hus;have hdrop:lst.drop pre.length=el::post:=by rw[hlst]; simp
   have hdrop2:lst.drop (pre++[el]).length=post:=by rw[hlst]; simp
   rw[hdrop]at hy;simp only[aKW]at hy;obtain⟨v,hv⟩:∃ v,step y el=some v:=by
    cases h:step y el with
    | none=>rw[h]at hy; cases hy
    | some v=>exact⟨v,rfl⟩
   have hrg:=hr y el;rw[hv]at hrg;unfold aPN at hrg;obtain⟨hck,hrg⟩:=aH hrg;simp only[oA,List.all_eq_true]at hck;have hpl:=oE hck.1;have hpt:∀ t∈ps.toList,t<nt:=λt ht=>fB (hck.2 t ht)
   -- the world in which the element comes
   have nT:∀ b,b<W1.heap.size->¬ T b:=λb hb hs=>Nat.lt_irrefl _ (Nat.lt_of_lt_of_le hb (bt.seq b hs).2)
   have nS:∀ b,b<W1.heap.size->¬ X b:=λb hb hs=>nT b hb (bt.sub b hs)
   have hLB:=fL bt.atL;have hDB:=fL bt.atD;have hLA:A.heap[L]?=some (.loop (rec .ready none)):=(st.bG L hLB (nS L (by omega))).trans bt.atL;have hDA:A.heap[D]?=some (.deferred (some [])):=(st.bG D hDB (nS D (by omega))).trans bt.atD;have x1:=aWL bt.winv (λb hb=>(bt.seq b hb).1) bt.sub bt.good bt.base st hT' (λb hb=>(hGx b hb).1);have x2:=aR1 bt.winv bt.sub bt.good bt.base st hT' (λb hb=>(hGx b hb).1)
   have nS':∀ b,b<B.heap.size->¬ T b->¬ T' b:=by
    intro b hb hs h;rcases(hT' b h).1 with h'|h'
    ·exact hs h'
    ·omega
   have nG2:∀ b,b<B.heap.size->¬ T b->¬ G' b->¬ (G' b\/Gx b):=by
    rintro b hb ht hg (h|h)
    ·exact hg h
    ·rcases(hGx b h).1 with h'|h'
     ·exact hg (bt.base b h')
     ·exact nS' b hb ht h'
   have nL2:=nG2 L hLB (nT L (by omega)) bt.notL;have nD2:=nG2 D hDB (nT D (by omega)) bt.notD;have marksA:Marks wi A (G'.or Gx) a.defers:=bt.marks.to λb hb h1 h2=>⟨by rw[st.bG b (fL h1) (nS b (by have:=markN b hb; omega))]; exact h1,nG2 b (fL h1) (nT b (by have:=markN b hb; omega)) h2⟩
   obtain⟨G2,hG2⟩:∃ G2,G2=G'.or Gx:=⟨_,rfl⟩;rw[<- hG2]at x1 x2 marksA;have nL2:¬ G2 L:=by rw[hG2]; exact nL2
   have nD2:¬ G2 D:=by rw[hG2]; exact nD2
   have hxS:∀ b,(b=L\/b=D\/({ target:=.collected b,args:=#[] }:Deferred)∈a.defers)->b<A.heap.size/\(∀ c t fr,A.heap[b]?≠some (.cells c t fr))/\∀ es clk,A.heap[b]?≠some (.map es clk):=by
    rintro b (rfl|rfl|hb)
    ·exact⟨fL hLA,λc t fr h=>(by rw[hLA]at h; cases h),λ_ _ h=>(by rw[hLA]at h; cases h)⟩
    ·exact⟨fL hDA,λc t fr h=>(by rw[hDA]at h; cases h),λ_ _ h=>(by rw[hDA]at h; cases h)⟩
    ·obtain⟨b',e1,e2,_⟩:=marksA.mem _ hb;have:b=b':=by injection e1 with e1 _; injection e1
     subst this;exact⟨fL e2,λc t fr h=>(by rw[e2]at h; cases h),λ_ _ h=>(by rw[e2]at h; cases h)⟩
   have x3:=x2.less hxS;obtain⟨n1,hn1⟩:∃ n1:Nat->Prop,n1=λb=>(n0 b/\¬ T' b)/\¬ (b=L\/b=D\/({ target:=.collected b,args:=#[] }:Deferred)∈a.defers):=⟨_,rfl⟩
   rw[<- hn1]at x3;have n1n0:∀ b,n1 b->n0 b:=λb h=>by rw[hn1]at h; exact h.1.1
   have n1S:∀ b,n1 b->¬ T' b:=λb h=>by rw[hn1]at h; exact h.1.2
   have n1L:¬ n1 L:=λh=>by rw[hn1]at h; exact h.2 (.inl rfl)
   have n1D:¬ n1 D:=λh=>by rw[hn1]at h; exact h.2 (.inr (.inl rfl))
   have n1M:∀ b,({ target:=.collected b,args:=#[] }:Deferred)∈a.defers->¬ n1 b:=λb hb h=>by rw[hn1]at h; exact h.2 (.inr (.inr hb))
   have hFA:fQ A G2 μ' nt (AR sh y 0) { a with defers:=[] }:=bt.finv.mono x1.toMono;have husA:VRs A G2 μ' (lO ks el) us:=VRs.mono (⟨λb hb=>⟨by rw[hG2]; exact .inr hb,rfl⟩,λ_ _ h=>(by cases h),λ_ _ h=>(by cases h),λ_ _ h=>h,λ_ _ h=>(by cases h)⟩:Mono A (Gd.of Gx) aI A G2 μ') _ _ hus;have hlen:us.length=ps.size:=by rw[<- husA.length,YD,<- hpl,Array.length_toList]
   have hyield:=run_yield (P:=P) (args:=us.toArray) hLA (by rw[hrec]; simpa using hlen);have hfold:(ps.zip us.toArray).foldl (λtmps (t,a)=>tmps.setIfInBounds t a) a.tmps=(ps.toList.zip us).foldl (λt (p,v)=>t.setIfInBounds p v) a.tmps:=by rw[<- Array.foldl_toList,Array.toList_zip]
   rw[hrec]at hyield;dsimp only at hyield;rw[hfold]at hyield;refine⟨fn,_,as1,body,hyield,roundIn_of_wpIn trivial ?_⟩
   -- the assignment
   have hI0:IM n1 A G2 (GM μ' (FG sh 0)) nt (aMB ps.toList (lO ks el) (AR sh y 0)) (JE sh y) { tmps:=(ps.toList.zip us).foldl (λt (p,v)=>t.setIfInBounds p v) a.tmps,defers:=[] } A :=
    ⟨G2,μ',aCF _,x3,aM3 (by rw[YD]; exact hpl) hpt husA hFA,trivial⟩
   obtain⟨⟨ex1,F1,H1⟩,hk1,hrun1⟩:=nK hcl hP as1 _ _ _ _ has hrg;dsimp only at hk1;cases ex1 with
   | ret=>cases hk1
   | exit i=>cases hk1
   | normal =>
   dsimp only at hk1;obtain⟨⟨ex2,F2,H2⟩,hk2,hrun2⟩:=nK hcl hP body _ _ _ _ hbd hk1;show as1.wpIn (Fr (some L)) m' P _ _ A;refine wpIn_mono (hrun1 (some L) m' n1 A G2 _ _ A (λh=>by cases h) (λr h=>V0 r h) hI0) ?_;rintro e1 act1 A1 ⟨rfl,⟨G3,μ3,y1,y2,y3,y4⟩,hd1⟩;have hd1:act1.defers=[]:=hd1 rfl;have nL3:¬ G3 L:=λh=>(y1.new L h).elim nL2 n1L
   have hL1':A1.heap[L]?=some (.loop (rec .ready none)):=(y1.old L (fL hLA) n1L).trans hLA;refine⟨_,run_beginRound hL1' (by rw[hrec]),?_⟩;obtain⟨A2,hA2⟩:∃ A2,A1.putObj L (.loop { rec .ready none with state:=.busy })=A2:=⟨_,rfl⟩;rw[hA2];have p1:Mono A1 G3 μ3 A2 G3 μ3:=by rw[<- hA2]; exact GV hL1' ⟨λ_ _ _ h=>(by cases h),λ_ _ h=>(by cases h)⟩ nL3
   have p2:aN n1 G3 μ3 H1 A2:=by rw[<- hA2]; exact RG y2 hL1' ⟨λ_ _ _ h=>(by cases h),λ_ _ h=>(by cases h)⟩ nL3
   have hL2':A2.heap[L]?=some (.loop { rec .ready none with state:=.busy }):=by rw[<- hA2]; exact World.putObj_heap_same (fL hL1')
   have e12:Ext n0 A1 G3 μ3 A2 G3 μ3:=by rw[<- hA2]; exact UR hL1' ⟨λ_ _ _ h=>(by cases h),λ_ _ h=>(by cases h)⟩ nL3 hn0L
   have hI2:IM n1 A2 G3 (GM μ' (FG sh 0)) nt F1 H1 act1 A2 :=
    ⟨G3,μ3,{ aCF (n0:=n1) (w:=A2) (G:=G3) (μ:=μ') []with
     map:=y1.map
     len:=y1.len
     good:=λb hb=>⟨hb,rfl⟩
     room:=λ_ _ h=>h
     new:=λb hb=>.inl hb },p2,y3.mono p1,by rw[hd1]; trivial⟩
   show body.wpIn (Fr (some L)) m' P _ act1 A2;refine wpIn_mono (hrun2 (some L) m' n1 A2 G3 _ act1 A2 (λh=>by cases h) (λr h=>V0 r h) hI2) ?_;rintro e2 act2 A3 ⟨rfl,⟨G4,μ4,z1,z2,z3,z4⟩,hd2⟩;have nL4:¬ G4 L:=λh=>(z1.new L h).elim nL3 n1L
   have hL3':A3.heap[L]?=some (.loop { rec .ready none with state:=.busy }):=(z1.old L (fL hL2') n1L).trans hL2';have hdn:act2.defers=[]:=(hd2 rfl).trans hd1
   -- back with the caller
   have hFend:fQ A3 G4 μ4 nt (AR sh y 0) { a with defers:=[] }:=by
    refine⟨hFA.size,λt=>?_,rfl⟩;have v0:=aNN (T:=FG sh 0) sh y 0 (λr h=>h) (hFA.slot t);have v1:=VR.mono (⟨y1.good,λ_ _ h=>h,λ_ _ h=>h,y1.room,y1.row⟩:Mono A G2 (GM μ' (FG sh 0)) A1 G3 (GM μ' (FG sh 0))) _ _ v0;have v2:=VR.mono (⟨p1.good,λ_ _ h=>h,λ_ _ h=>h,p1.room,p1.row⟩:Mono A1 G3 (GM μ' (FG sh 0)) A2 G3 (GM μ' (FG sh 0))) _ _ v1;exact VR.mono z1.toMono _ _ v2
   have back:∀ (o:Obj) (F5:Frm) (H5:Heap),(∀ {n0:Nat->Prop} {wi:World} {Gi:Gd} {μi:Mp} {a:Act} {w:World},(∀ r,¬ r∈([]:List Nat)->μi.loc r=none/\μi.len r=none)->IM n0 wi Gi μi nt (AR sh y 0) H2 a w->IM n0 wi Gi μi nt F5 H5 a w) ->
     ∃ G5 μ5,Btw n0 wi Gi μi nt a G W1.heap.size L D F5 H5 T' X' (A3.putObj L o) o G5 μ5:=by
    intro o F5 H5 hdec;have q1:=RG (o':=o) z2 hL3' ⟨λ_ _ _ h=>(by cases h),λ_ _ h=>(by cases h)⟩ nL4;have q2:=GV (μ:=μ4) (o':=o) hL3' ⟨λ_ _ _ h=>(by cases h),λ_ _ h=>(by cases h)⟩ nL4;have q3:=UR (n0:=n0) (μ:=μ4) (o':=o) hL3' ⟨λ_ _ _ h=>(by cases h),λ_ _ h=>(by cases h)⟩ nL4 hn0L;have hIe:IM n1 (A3.putObj L o) G4 aI nt (AR sh y 0) H2 { a with defers:=[] } (A3.putObj L o) :=
     ⟨G4,μ4,{ aCF (n0:=n1) (w:=A3.putObj L o) (G:=G4) (μ:=μ4) []with
      map:=λ_ _ h=>by cases h
      len:=λ_ _ h=>by cases h
      good:=λb hb=>⟨hb,rfl⟩
      room:=λ_ _ h=>h
      new:=λb hb=>.inl hb },q1,hFend.mono q2,trivial⟩
    obtain⟨G5,μ5,r1,r2,r3,_⟩:=hdec (λ_ _=>⟨rfl,rfl⟩) hIe;have g45:∀ b,G5 b->G2 b\/n1 b:=λb h=>by
     rcases r1.new b h with h|h
     ·rcases z1.new b h with h|h
      ·exact y1.new b h
      ·exact .inr h
     ·exact .inr h
    have mk:∀ b,({ target:=.collected b,args:=#[] }:Deferred)∈a.defers->A.heap[b]?=some (.deferred (some []))->(A3.putObj L o).heap[b]?=some (.deferred (some [])):=by
     intro b hb h1;have hbw:=markN b hb;have k1:=(y1.old b (fL h1) (n1M b hb)).trans h1;have k2:A2.heap[b]?=some (.deferred (some [])):=by rw[<- hA2,World.putObj_heap_other (by omega)]; exact k1
     have k3:=(z1.old b (fL k2) (n1M b hb)).trans k2;rw[World.putObj_heap_other (by omega)]; exact k3
    refine⟨G5,μ5,?_,r2.wider λb hb=>⟨n1n0 b hb,n1S b hb⟩,r3,?_,?_,?_,?_,?_,?_,?_,?_,?_,?_⟩
    ·have t1:=((bt.ext.plain.trans x1.plain).trans (y1.wider n1n0).plain).trans e12.plain;exact Ext.back hfl (((t1.trans (z1.wider n1n0).plain).trans q3.plain).trans (r1.wider n1n0).plain)
    ·intro b hb;have h2:G2 b:=by rw[hG2]; exact .inl (bt.base b hb)
     exact(r1.good b (z1.good b (y1.good b h2).1).1).1
    ·intro b hb hs;rcases g45 b hb with h|h
     ·rw[hG2]at h;rcases h with h|h
      ·rcases(hX' b hs).2 with h'|h'
       ·exact bt.good b h h'
       ·exact Nat.lt_irrefl _ (Nat.lt_of_lt_of_le (bt.winv.lt b h) h')
      ·exact(hGx b h).2 hs
     ·exact n1S b h (hX' b hs).1
    ·exact λb hs=>(hX' b hs).1
    ·intro b hs;rcases(hT' b hs).1 with h|h
     ·exact bt.seq b h
     ·exact⟨(bt.winv.base b h).1,oR bt.size h⟩
    ·have s1:=bt.size;have s2:=st.size;have s3:=y1.size;have s4:=e12.size;have s5:=z1.size;rw[World.putObj_size];omega
    ·exact λh=>(g45 L h).elim nL2 n1L
    ·exact λh=>(g45 D h).elim nD2 n1D
    ·exact World.putObj_heap_same (fL hL3')
    ·have k1:=(y1.old D (fL hDA) n1D).trans hDA;have k2:A2.heap[D]?=some (.deferred (some [])):=by rw[<- hA2,World.putObj_heap_other (by omega)]; exact k1
     have k3:=(z1.old D (fL k2) n1D).trans k2;rw[World.putObj_heap_other (by omega)]; exact k3
    ·refine marksA.to λb hb h1 h2=>⟨mk b hb h1,λhg=>?_⟩
     exact(g45 b hg).elim h2 (n1M b hb)
   have frame:∀ (o:Obj) (b:Nat),b<A.heap.size->G b\/T' b->(A3.putObj L o).heap[b]?=A.heap[b]?:=by
    intro o b hb h;have hbL:b≠L:=by
     rintro rfl;rcases h with h|h
     ·exact hGL h
     ·exact nS' b hLB (nT b (by omega)) h
    have k1:A1.heap[b]?=A.heap[b]?/\(G3 b\/T' b):=by
     rcases h with h|h
     ·have:=y1.good b (by rw[hG2]; exact .inl (bt.base b h));exact⟨this.2,.inl this.1⟩
     ·exact⟨y1.old b hb λhn=>n1S b hn h,.inr h⟩
    have k2:A2.heap[b]?=A.heap[b]?:=by rw[<- hA2,World.putObj_heap_other hbL]; exact k1.1
    have k3:A3.heap[b]?=A2.heap[b]?:=by
     rcases k1.2 with h|h
     ·exact(z1.good b h).2
     ·refine z1.old b ?_ λhn=>n1S b hn h
      have s3:=y1.size;have s4:=e12.size;omega
    rw[World.putObj_heap_other hbL,k3,k2]
   have hroom:∀ (o:Obj) (b n:Nat),Room A b n->Room (A3.putObj L o) b n:=λo b n h =>
    (GV (μ:=μ4) (o':=o) hL3' ⟨λ_ _ _ h=>(by cases h),λ_ _ h=>(by cases h)⟩ nL4).room b n (z1.room b n (p1.room b n (y1.room b n h)))
   have hsz:∀ o,A.heap.size<=(A3.putObj L o).heap.size:=by
    intro o;have s3:=y1.size;have s4:=e12.size;have s5:=z1.size;rw[World.putObj_size]; omega
   rw[hv]at hy;unfold a4M at hk2;dsimp only at hk2;rcases T9 hk2 with ⟨x',rfl,e2,e3⟩|⟨z',rfl,e2,e3⟩
   ·subst e2;dsimp only at hy;refine⟨_,_,run_endRound none hL3',⟨frame _,hroom _,hsz _⟩,.inl ⟨rfl,⟨x',by rw[hdrop2]; exact hy,?_⟩⟩⟩;have:=back (.loop (rec .ready none)) (AR sh x' 0) (JE sh x') (λh hI=>hI.dec h e3);rw[hrec]at this ⊢;exact this
   ·dsimp only at hy;have hzz:z'=z:=oB hy;subst hzz;obtain⟨o1,_⟩:=N4 e3;have hb:=back (.loop (rec .done (some ex2.code))) (EA exits z').2.1 (EA exits z').2.2 (λh hI=>(hI.aAZ h e3).2);rw[hrec]at hb;cases ex2 with
    | normal=>exact absurd rfl e2
    | ret =>
     refine⟨_,_,run_endRound (some .ret) hL3',⟨frame _,hroom _,hsz _⟩,.inr ⟨rfl,by rw[o1]; exact e2,?_⟩⟩;rw[o1,hrec];exact hb
    | exit i =>
     refine⟨_,_,run_endRound (some (.exit i)) hL3',⟨frame _,hroom _,hsz _⟩,.inr ⟨rfl,by rw[o1]; exact e2,?_⟩⟩;rw[o1,hrec];exact hb
end
section
variable {P:Program} {n0:Nat->Prop} {w w' wi:World} {G G' Gi:Gd} {μ μ' μi:Mp} {H:Heap} {F:Frm} {nt n:Nat}
theorem AX {fn:Func}{tmps:Array Value}{R:Ending->World->Prop}(hb:∀ b,wi.heap.size<=b->n0 b)(hend:∀ w',IM n0 wi Gi μi nt F H { tmps:=tmps,defers:=[] } w'->LeavesIn Fence.wide n P fn tmps R [] .returning w') :
  ∀ (ds:List Deferred) (w:World),IM n0 wi Gi μi nt F H { tmps:=tmps,defers:=ds } w->LeavesInM Fence.wide n P fn tmps R ds .returning w
 | [],w,h=>hend w h
 | d::ds,w,h=>by
  obtain⟨G,μ,e,hW,hF,⟨b,rfl,h1,h2,h3,h4⟩,hm⟩:=h;refine⟨by simp,.inl ⟨b,_,rfl,run_takeDeferred h1,AX hb hend ds _ ⟨G,μ,e.trans (UR h1 ⟨λ_ _ _ h=>(by cases h),λ_ _ h=>(by cases h)⟩ h3 (hb b h2)),RG hW h1 ⟨λ_ _ _ h=>(by cases h),λ_ _ h=>(by cases h)⟩ h3,hF.mono (GV h1 ⟨λ_ _ _ h=>(by cases h),λ_ _ h=>(by cases h)⟩ h3),?_⟩⟩⟩;refine hm.to λb' hb' k1 k2=>⟨?_,k2⟩
  rw[World.putObj_heap_other]
  ·exact k1
  ·rintro rfl;exact h4 _ hb' rfl
def a1I(P:Program)(E:Env)(fn:Func)(bG:Nat)(lt rt:Nat->Option cA)(c:Code)(args rets:List Kd)(x:aK args):Option (aK rets) :=
 bif Nat.ble (lO args x).length fn.ntmps then DY P E fn.ntmps bG lt rt false [] c (start bG 0 (lO args x)) [] (aLN P fn.results.toList rets) else none
theorem a2E {E:Env} (hP:ME P) (hE:fR P E) {g:Nat} {fn:Func} (hg:P.funcs[g]?=some fn) {c:Code} (hc:fn.body=some c) {bG:Nat} {lt rt:Nat->Option cA} {args rets:List Kd} {f:aK args->Option (aK rets)}
  (hl:∀ a∈gX c,RK P fn.ntmps lt rt false [] a) (hb:∀ x,a1I P E fn bG lt rt c args rets x=f x):UZ P g args rets f:=by
 intro x y hy;rw[<- hb]at hy;unfold a1I at hy;obtain⟨hlen,hy⟩:=aH hy;obtain⟨⟨ex,F',H'⟩,h1,h2⟩:=nK hE.callee hP.mixed c _ _ _ _ hl hy;obtain⟨vs,q,hex,hvs,hq,hd⟩:∃ vs q,(ex=.normal\/ex=.ret)/\uO P F' H' fn.results.toList=some vs/\aS0 H' (fG vs)=some q/\aOI rets q=some y:=by
  unfold aLN at h1;split at h1
  ·cases h1
  ·rename_i hne;split at h1
   ·rename_i vs hvs;split at h1
    ·rename_i q hq;refine⟨vs,q,?_,hvs,hq,h1⟩;cases ex with
     | normal=>exact .inl rfl
     | ret=>exact .inr rfl
     | exit i=>exact absurd rfl (hne i)
    ·cases h1
   ·cases h1
 have hcall:∀ {n0 G μ w us},aN n0 G μ [] w->VRs w G μ (lO args x) us->xH P n0 w G μ g us.toArray (fG vs) H':=by
  intro n0 G μ w us hW hv;refine⟨enters hg (hP.names g fn hg) (by rw[hc]; rfl) _ _,(callsIn_wide (n:=0)).1 (callsIn_of_wp_marks hg hc trivial ?_)⟩;have hI:I n0 w G μ fn.ntmps (start bG 0 (lO args x)) [] ⟨us.toArray++Array.replicate (fn.ntmps-us.toArray.size) undef,[]⟩ w:=⟨G,μ,Ext.refl _ _ _ _,hW,AP (by simpa using hv) (oL hlen)⟩;refine wpIn_mono (h2 none 0 n0 w G μ _ w (λ_=>rfl) (λr _=>hW.top r (Nat.zero_le _)) hI.a5L) ?_
  rintro e ⟨tm,ds⟩ w' ⟨rfl,hI',_⟩;have hend:∀ w',IM n0 w G μ fn.ntmps F' H' { tmps:=tm,defers:=[] } w'->LeavesIn Fence.wide 0 P fn tm (λe w'=>∃ v' G'' μ'',e=.returned v'/\Ext n0 w G μ w' G'' μ''/\aN n0 G'' μ'' H' w'/\VR w' G'' μ'' (fG vs) v') [] .returning w':=by
   rintro w' ⟨G',μ',e',hW',hF',_⟩;obtain⟨ws,h3,h4⟩:=rD (P:=P) hW' hF' hvs;have hres:(results fn tm).run P w'=.ok (if hh:ws.toArray.size=1 then ws.toArray[0] else .tuple ws.toArray) w':=by
    rw[DR,Array.mapM_eq_mapM_toList];simp only[Sem.run_bind,Sem.run_map,h3,Result.andThen_ok,Sem.run_pure]
   exact⟨_,hres,_,G',μ',rfl,e',hW',tM h4⟩
  rcases hex with rfl|rfl
  ·exact AX (λb hb=>hW.base b hb) hend ds w' hI'
  ·exact AX (λb hb=>hW.base b hb) hend ds w' hI'
 have hp:=QI hcall (HH hq).1 (HH hq).2;intro w G us hlt hv;obtain⟨h3,h4⟩:=hp w G us hlt hv;refine⟨h3,h4.mono ?_⟩;rintro e w' ⟨v',G',rfl,e1,e2,e3⟩;exact⟨v',G',rfl,e1,e2,VI hd e3⟩
def aUZ(P:Program) (nt:Nat) (lt rt:Nat->Option cA) (rd:Bool) (T:List Nat):List Code->Prop
 | []=>True
 | a::r=>RK P nt lt rt rd T a/\aUZ P nt lt rt rd T r
theorem aI2 {lt rt:Nat->Option cA}{rd:Bool}{T:List Nat}:∀ {l:List Code},aUZ P nt lt rt rd T l->∀ a∈l,RK P nt lt rt rd T a
 | [],_,a,ha=>by simp at ha
 | b::r,h,a,ha=>by
  rcases List.mem_cons.1 ha with rfl|ha
  ·exact h.1
  ·exact aI2 h.2 a ha
theorem US {lt rt:Nat->Option cA}{rd:Bool}{T:List Nat}{c:Code}{l:List Code}(hc:gX c=l)(h:aUZ P nt lt rt rd T l):∀ a∈gX c,RK P nt lt rt rd T a:=by rw[hc]; exact aI2 h
theorem aJK {lt rt:Nat->Option cA}{rd:Bool}{T:List Nat}{a:Code}{i:Nat}{s0:cA}(hf:bQ a=i)(hlt:lt i=some s0)(h:UB P nt rd T (.loop a) s0):RK P nt lt rt rd T (.loop a):=by
 intro s hs;rw[hf,hlt]at hs;cases hs;exact h
theorem aYD {lt rt:Nat->Option cA}{g:Operand}{ps:Array Tmp}{as1 a:Code}{i:Nat}{s0:cA}(hf:bQ a=i)(hrt:rt i=some s0)(h:UB P nt false [] (.rangeFunc g ps as1 a) s0):RK P nt lt rt false [] (.rangeFunc g ps as1 a):=by
 intro _ s hs;rw[hf,hrt]at hs;cases hs;exact h
def aQJ(c:Code) (i:Nat):Code:=(gX c).getD i .skip
def inLoop:Code->Code
 | .loop a=>a
 | .rangeFunc _ _ _ a=>a
 | _=>.skip
def PD:Code->Code
 | .rangeFunc _ _ as1 _=>as1
 | _=>.skip
def aM1:Code->Operand
 | .rangeFunc g _ _ _=>g
 | _=>.const undef
def aYE:Code->Array Tmp
 | .rangeFunc _ ps _ _=>ps
 | _=>#[]
theorem aVE {lt rt:Nat->Option cA}{r:Code}{i:Nat}{s0:cA}(hr:r=.rangeFunc (aM1 r) (aYE r) (PD r) (inLoop r))(hf:bQ (inLoop r)=i)(hrt:rt i=some s0)(h:UB P nt false [] r s0):RK P nt lt rt false [] r:=by
 rw[hr]at h ⊢;exact aYD hf hrt h
theorem aYW {E:Env} {bG:Nat} {lt rt:Nat->Option cA} (hE:fR P E) (hP:ME P) {r:Code} (hrc:r=.rangeFunc (aM1 r) (aYE r) (PD r) (inLoop r)) {gf:Nat} {fn:Func} {c:Code} {ts:List Ty} {ks:List Kd} {f:Q5 ts->Option (List (aK ks))}
  (hg:P.funcs[gf]?=some fn) (hc:fn.body=some c) (hit:aKC P gf ts ks f)
  {sh:List (Nat×Kd)} {exits:List (Ex×List (Nat×Kd))} {step:Shape.den sh->aK ks->Option (Shape.den sh⊕qI exits)} {cap:Shape.den sh->Q5 ts}
  (has:gX (PD r)=[]) (hbd:∀ b∈gX (inLoop r),RK P nt lt rt true (FG sh 0) b)
  (hsq:∀ x,a0I gf ts sh (aM1 r) x=some (cap x))
  (hr:∀ y e,aPN P E nt bG lt rt (aYE r).toList (PD r) (inLoop r) ks sh exits y e=step y e) :
  UB P nt false [] r ⟨sh,exits,a23 sh exits (λx=>f (cap x)) step⟩:=by
 have:=a08 (g:=aM1 r) (ps:=aYE r) (as1:=PD r) (body:=inLoop r) hE.callee hP.mixed hit (λargs w=>enters hg (hP.names gf fn hg) (by rw[hc]; rfl) args w) (by rw[has]; intro b hb; cases hb) hbd (λx l hl=>⟨cap x,hsq x,hl⟩) hr;rw[<- hrc]at this;exact this
end
def xQ:Code->Nat
 | .region _ ops _=>Y6 ops.toList ops.toList 0 0
 | .seq a b=>xQ a ||| xQ b
 | .cond c a b=>a0K c ||| xQ a ||| xQ b
 | .block _ a=>xQ a
 | .loop a=>xQ a
 | .scope a=>xQ a
 | .rangeFunc g _ as1 a=>a0K g ||| xQ as1 ||| xQ a
 | _=>0
def aAU(fn:Func):Nat:=match fn.body with
 | some c=>RF fn.results.toList (xQ c)
 | none=>0
end Go.PM
namespace Go.Proofs
open Go Go.RowKit Go.Sort Go.Lib
set_option maxHeartbeats 6400000
theorem Tryz.aAD (u:Nat)(hu64:u<18446744073709551616)(w:World)(htab:Lib.TabIs Tryz.prog w "internal/strconv.uint64pow10" .u64 Lib.pow10Tab) :
  Calls Tryz.prog 247 #[.int .u64 u,.int .i64 10] w λe w'=>e=.returned (.string ⟨(Lib.decDigits u).toArray⟩)/\∃ k os,w'=grow (w.drewN k) os:=by
 by_cases hs:u<100
 ·go_enter Tryz.func247,Tryz.ntmps247
  have hwr:IntKind.i64.wrap (u:Int)=(u:Int):=by rw[IntKind.wrap_i64]; omega
  go_wp2_with (go_at_call 248; refine(Tryz.internal_strconv_small u hs _).mono ?_; rintro e w' ⟨rfl,rfl⟩)
  go_ret
  exact⟨rfl,0,#[],by simp[World.drewN_zero]⟩
 ·have hu1:1<=u:=by omega
  have hnd20:Lib.nDigits u<=20:=by have:=Lib.numDigits_eq u hu1 hu64; split at this <;> omega
  have hal:Tryz.prog.arrayLen 265=24:=by simp[Program.arrayLen,Tryz.underlying265]
  have hsl:∀ W,(Instr.sliceAt 265 (.pointer (some ⟨w.heap.size,0,none⟩)) none (some (.int .i64 (Lib.nDigits u:Int))) none).run Tryz.prog W=.ok (.slice (some ⟨w.heap.size,0,none⟩) (Lib.nDigits u) 24) W:=λW=>by
   rw[run_sliceAt_array_h W 265 ⟨w.heap.size,0,none⟩ (by simp[Program.arrayLen,Program.elem,Tryz.underlying265]) .i64 (Lib.nDigits u:Int) (by omega) (by rw[hal]; omega)]
   go_simp
  have hH0:=Lib.holds_zero0 w 265 (Lib.nDigits u) (by omega);have hfmt:=Tryz.internal_strconv_formatBase10 w.heap.size 0 24 u (Array.replicate (Lib.nDigits u) 0) (w.alloc (.cells Lib.zeros24 265)) hH0 (by rw[Array.size_replicate]; exact Lib.lt_pow_nDigits u) hu64 (by rw[Array.size_replicate]; omega);rw[Array.size_replicate]at hfmt;have HH0:=Lib.hid hH0;clear hH0 hal
  go_enter Tryz.func247,Tryz.ntmps247
  go_wp2_with (first
   | (go_at_call 249; refine(Tryz.internal_strconv_numDigits u hu1 hu64 _ (Lib.tabIs_alloc htab _)).mono ?_; rintro e w' ⟨rfl,rfl⟩))
  go_at_call 250
  refine hfmt.mono ?_;rintro e w' ⟨rfl,k,v',dk,rfl,hF⟩;have hcv:(convert 253 9 (.slice (some ⟨w.heap.size,0,none⟩) (Lib.nDigits u) 24)).run Tryz.prog ((putRow (λ(b:UInt8)=>Value.int .u8 (b.toNat:Int)) (w.alloc (.cells Lib.zeros24 265)) w.heap.size 0 dk).drewN k)=.ok (.string ⟨(Lib.decDigits u).toArray⟩) ((putRow (λ(b:UInt8)=>Value.int .u8 (b.toNat:Int)) (w.alloc (.cells Lib.zeros24 265)) w.heap.size 0 dk).drewN k):=by
   have h:=run_convert_bytes_back (P:=Tryz.prog) ((putRow (λ(b:UInt8)=>Value.int .u8 (b.toNat:Int)) (w.alloc (.cells Lib.zeros24 265)) w.heap.size 0 dk).drewN k) 253 9 5 ⟨w.heap.size,0,none⟩ 24 (Lib.decDigits u) Tryz.underlying253 Tryz.underlying5 Tryz.underlying9 (λj hj=>by
    rw[Lib.row_is_numeral hF j hj,Lib.add_plain,World.cell?_drewN];exact cell?_putRow (λ(b:UInt8)=>Value.int .u8 (b.toNat:Int)) _ w.heap.size 0 _ dk HH0.out (by rw[hF.size,Array.size_replicate]) j (by rw[hF.size]; rw[Lib.decDigits_length]at hj; exact hj))
   rw[Lib.decDigits_length]at h;exact h
  go_wp2
  go_ret
  obtain⟨os,eo⟩:=Lib.fin_at w (.cells Lib.zeros24 265) dk k 0;exact⟨rfl,k,os,eo⟩
theorem Tryz.W6 (u:Nat)(hu64:u<18446744073709551616)(w:World)(htab:Lib.TabIs Tryz.prog w "internal/strconv.uint64pow10" .u64 Lib.pow10Tab) :
  Calls Tryz.prog 235 #[.int .u64 u,.int .i64 10] w λe w'=>e=.returned (.string ⟨(Lib.decDigits u).toArray⟩)/\∃ k os,w'=grow (w.drewN k) os:=by
 go_enter Tryz.func235,Tryz.ntmps235
 go_wp2_with (go_at_call 247; refine(Tryz.aAD u hu64 _ htab).mono ?_; rintro e w' ⟨rfl,k,os,rfl⟩)
 go_ret
 exact⟨rfl,k,os,rfl⟩
end Go.Proofs
namespace Go.PM
open Go Go.RowKit Go.Proofs Tryz
theorem aWA {w:World}{G:Nat->Prop}(h:Lt w G):Lib.TabIs Tryz.prog w "internal/strconv.uint64pow10" .u64 Lib.pow10Tab:=by
 have hm:(2,aWX .u64 [1,10,100,1000,10000,100000,1000000,10000000,100000000,1000000000,10000000000,100000000000,1000000000000,10000000000000,100000000000000,1000000000000000,10000000000000000,100000000000000000,1000000000000000000,10000000000000000000])∈a0M:=by simp[a0M]
 obtain⟨-,t,fr,ht⟩:=h.tab _ hm;have hg:Tryz.prog.globalNamed "internal/strconv.uint64pow10"=some 2:=by kernel_rfl
 unfold Lib.TabIs World.var?;rw[hg];simp only[Option.bind_some];rw[ht];rfl
theorem aRN {w:World}{G:Nat->Prop}(hG:∀ b,G b->b<w.heap.size)(k:Nat)(os:Array Obj):Ext (zY w) w (Gd.of G) aI (Sort.grow (w.drewN k) os) (Gd.of G) aI :=
 have hb:∀ b,b<w.heap.size->(Sort.grow (w.drewN k) os).heap[b]?=w.heap[b]?:=λb hb=>Lib.heap_grow_old w k os b hb
 {good:=λb h=>⟨h,hb b (hG b h)⟩
  row:=λ_ _ h=>h
  map:=λ_ _ h=>(by cases h)
  len:=λ_ _ h=>(by cases h)
  room:=λb n ⟨c,t,fr,h1,h2⟩=>⟨c,t,fr,by rw[hb b (fL h1)]; exact h1,h2⟩
  os:=rfl
  tape:=rfl
  output:=rfl
  size:=by show w.heap.size<=(w.heap++os).size; simp
  old:=λb h _=>hb b h
  new:=λb h=>.inl h }
theorem aNJ {w w':World}{G:Nat->Prop}(hG:∀ b,G b->b<w.heap.size)(h:Below w.heap.size w w'):Ext (zY w) w (Gd.of G) aI w' (Gd.of G) aI :=
 {good:=λb hb=>⟨hb,h.block b (hG b hb)⟩
  row:=λ_ _ h=>h
  map:=λ_ _ h=>(by cases h)
  len:=λ_ _ h=>(by cases h)
  room:=λb n ⟨c,t,fr,h1,h2⟩=>⟨c,t,fr,by rw[h.block b (fL h1)]; exact h1,h2⟩
  os:=h.os
  tape:=h.tape
  output:=h.output
  size:=h.size
  old:=λb hb _=>h.block b hb
  new:=λb hb=>.inl hb }
theorem ZO {w:World}{G:Nat->Prop}(hG:∀ b,G b->b<w.heap.size)(e:TypeId)(t:ByteArray):Ext (zY w) w (Gd.of G) aI (Lib.bytesWorld w e t) (Gd.of G) aI :=
 aNJ hG (Joins.below_bytesWorld _ w e t (oM _))
def aGV:Nat->Nat->List UInt8->List UInt8
 | 0,_,acc=>acc
 | f+1,u,acc=>bif Nat.blt u 10 then UInt8.ofNat (48+u)::acc else aGV f (u/10) (UInt8.ofNat (48+u%10)::acc)
theorem aJD:∀ (f u:Nat) (acc:List UInt8),u<10^(f+1)->aGV (f+1) u acc=Lib.decDigits u++acc
 | f,u,acc,h=>by
  rw[Lib.decDigits]
  by_cases h1:u<10
  ·rw[dif_pos h1,aGV];have:Nat.blt u 10=true:=by rw[cD]; simpa using h1
   rw[this]; rfl
  ·rw[dif_neg h1,aGV];have:Nat.blt u 10=false:=by rw[cD]; simpa using h1
   rw[this,oD];cases f with
   | zero=>omega
   | succ f =>
    rw[aJD f (u/10) _ (by rw[Nat.pow_succ]at h; omega)];simp
def aQV:Int->ByteArray
 | .ofNat u=>⟨(aGV 20 u []).toArray⟩
 | .negSucc u=>⟨(45::aGV 20 (u+1) []).toArray⟩
theorem aKU {n:Int}(h:n.natAbs<10^20):aQV n=⟨(Lib.itoa n).toArray⟩:=by
 cases n with
 | ofNat u =>
  have h1:¬ (Int.ofNat u<0):=by simp
  unfold Lib.itoa;rw[if_neg h1];show (⟨(aGV (19+1) u []).toArray⟩:ByteArray)=⟨(Lib.decDigits u).toArray⟩;rw[aJD 19 u [] h,List.append_nil]
 | negSucc u =>
  have h1:Int.negSucc u<0:=Int.negSucc_lt_zero u;unfold Lib.itoa;rw[if_pos h1];show (⟨(45::aGV (19+1) (u+1) []).toArray⟩:ByteArray)=⟨(45::Lib.decDigits (u+1)).toArray⟩;rw[aJD 19 (u+1) [] h,List.append_nil]
def FH(x:aK [.int .i64]):oK [.str]:=match x with
 | (n,())=>bif !(ltI n (-9223372036854775808))&&!(ltI 9223372036854775807 n) then some (aQV n,()) else none
def FN(x:aK [.str]):oK [.int .i64,.nilI]:=match x with
 | (s,())=>bif Nat.ble s.size 18 then (match Lib.atoi s.data.toList with
  | some n=>some (n,(),())
  | none=>none) else none
def RE(x:aK [.str,.int .i64,.int .i64]):oK [.int .i64,.nilI]:=match x with
 | (s,b,c,())=>bif Nat.ble s.size 1000000000&&(eqI b 10&&eqI c 64) then (match Lib.parseIntB 64 s.data.toList with
  | .ok n=>some (n,(),())
  | _=>none) else none
def tX(x:aK [.str,.int .i64,.int .i64]):oK [.int .u64,.nilI]:=match x with
 | (s,b,c,())=>bif Nat.ble s.size 1000000000&&(eqI b 10&&eqI c 64) then (match Lib.parseUintB 64 s.data.toList with
  | .ok n=>some ((n:Int),(),())
  | _=>none) else none
def sQ(x:aK [.int .u64,.int .i64]):oK [.str]:=match x with
 | (n,b,())=>bif !(ltI n 0)&&(ltI n 18446744073709551616&&eqI b 10) then some (aQV n,()) else none
theorem a35 {w:World}{G:Gd}{u:Value}{vs:Array Value}(h:VRs w G aI [.lit u] vs.toList):vs=#[u]:=by
 rw[VRs]at h;obtain⟨v,us,hvs,h1,h2⟩:=h;rw[VRs]at h2;rw[VR]at h1;subst h2; subst h1;exact Array.ext' (by simpa using hvs)
theorem a7O {w:World}{G:Gd}{u1 u2:Value}{vs:Array Value}(h:VRs w G aI [.lit u1,.lit u2] vs.toList):vs=#[u1,u2]:=by
 rw[VRs]at h;obtain⟨v,us,hvs,h1,h2⟩:=h;rw[VRs]at h2;obtain⟨v2,us2,hvs2,h3,h4⟩:=h2;rw[VRs]at h4;rw[VR]at h1 h3;subst h4; subst h3; subst h1; subst hvs2;exact Array.ext' (by simpa using hvs)
theorem a6E {w:World}{G:Gd}{u1 u2 u3:Value}{vs:Array Value}(h:VRs w G aI [.lit u1,.lit u2,.lit u3] vs.toList):vs=#[u1,u2,u3]:=by
 rw[VRs]at h;obtain⟨v,us,hvs,h1,h2⟩:=h;rw[VRs]at h2;obtain⟨v2,us2,hvs2,h3,h4⟩:=h2;rw[VRs]at h4;obtain⟨v3,us3,hvs3,h5,h6⟩:=h4;rw[VRs]at h6;rw[VR]at h1 h3 h5;subst h6; subst h5; subst h3; subst h1; subst hvs3; subst hvs2;exact Array.ext' (by simpa using hvs)
theorem ZF {w:World}{G:Gd}(k:IntKind)(n:Int):VR w G aI (.tuple [.lit (.int k n),.lit .nilIface]) (.tuple #[.int k n,.nilIface]):=by
 rw[VR];refine⟨_,rfl,?_⟩;show VRs w G aI _ [.int k n,.nilIface];rw[VRs];refine⟨_,_,rfl,by rw[VR],?_⟩;rw[VRs];exact⟨_,_,rfl,by rw[VR],by rw[VRs]⟩
theorem aZP {w:World}{G:Gd}(s:ByteArray):VR w G aI (.lit (.string s)) (.string s):=by rw[VR]
theorem aIJ:UZ Tryz.prog 185 _ _ FH:=by
 rintro⟨n,⟨⟩⟩ y h w G vs hG hv;unfold FH at h;obtain⟨hb,h⟩:=aH h;simp only[oA,Bool.not_eq_true',aE,decide_eq_false_iff_not]at hb;obtain rfl:=oB h;obtain rfl:=a35 hv;refine⟨enters func185 (by kernel_rfl) (by kernel_rfl) _ _,(Tryz.strconv_Itoa n (by omega) (by omega) w (aWA hG)).mono ?_⟩;rintro e w' ⟨rfl,k,os,rfl⟩;rw[<- aKU (by omega)];have he:=aRN hG.lt k os;exact⟨_,G,rfl,he,λb hb=>Nat.lt_of_lt_of_le (hG b hb) he.size,aZP _⟩
theorem aJR:UZ Tryz.prog 212 _ _ FN:=by
 rintro⟨s,⟨⟩⟩ y h w G vs hG hv;unfold FN at h;obtain⟨hb,h4⟩:=aH h;clear h;have hl:=oL hb;split at h4
 ·rename_i n hn;obtain rfl:=oB h4;obtain rfl:=a35 hv;refine⟨enters func212 (by kernel_rfl) (by kernel_rfl) _ _,(Tryz.strconv_Atoi s n hl hn w).mono ?_⟩;rintro e w' ⟨rfl,t,rfl⟩;have he:=ZO hG.lt 5 t;exact⟨_,G,rfl,he,λb hb=>Nat.lt_of_lt_of_le (hG b hb) he.size,ZF _ n⟩
 ·cases h4
theorem aT1:UZ Tryz.prog 231 _ _ RE:=by
 rintro⟨s,b,c,⟨⟩⟩ y h w G vs hG hv;unfold RE at h;obtain⟨hb,h4⟩:=aH h;clear h;simp only[oA,fP,decide_eq_true_eq]at hb;obtain⟨hb1,rfl,rfl⟩:=hb;have hl:=oL hb1;split at h4
 ·rename_i n hn;obtain rfl:=oB h4;obtain rfl:=a6E hv;refine⟨enters func231 (by kernel_rfl) (by kernel_rfl) _ _,(Tryz.strconv_ParseInt_10_at64_ok s (by omega) n hn w).mono ?_⟩;rintro e w' ⟨rfl,hw⟩;rcases hw with rfl|⟨t,rfl⟩
  ·exact⟨_,G,rfl,Ext.refl _ _ _ _,hG.lt,ZF _ n⟩
  ·have he:=ZO hG.lt 5 t;exact⟨_,G,rfl,he,λb hb=>Nat.lt_of_lt_of_le (hG b hb) he.size,ZF _ n⟩
 ·cases h4
theorem ZY:UZ Tryz.prog 246 _ _ tX:=by
 rintro⟨s,b,c,⟨⟩⟩ y h w G vs hG hv;unfold tX at h;obtain⟨hb,h4⟩:=aH h;clear h;simp only[oA,fP,decide_eq_true_eq]at hb;obtain⟨hb1,rfl,rfl⟩:=hb;have hl:=oL hb1;split at h4
 ·rename_i n hn;obtain rfl:=oB h4;obtain rfl:=a6E hv;refine⟨enters func246 (by kernel_rfl) (by kernel_rfl) _ _,(Tryz.strconv_ParseUint_10_at64_ok s (by omega) n hn w).mono ?_⟩;rintro e w' ⟨rfl,hw⟩;rcases hw with rfl|rfl
  ·exact⟨_,G,rfl,Ext.refl _ _ _ _,hG.lt,ZF _ n⟩
  ·have he:=ZO hG.lt 5 s;exact⟨_,G,rfl,he,λb hb=>Nat.lt_of_lt_of_le (hG b hb) he.size,ZF _ n⟩
 ·cases h4
theorem YO:UZ Tryz.prog 235 _ _ sQ:=by
 rintro⟨n,b,⟨⟩⟩ y h w G vs hG hv;unfold sQ at h;obtain⟨hb,h4⟩:=aH h;clear h;simp only[oA,Bool.not_eq_true',aE,fP,decide_eq_true_eq,decide_eq_false_iff_not]at hb;obtain⟨hb1,hb2,rfl⟩:=hb;obtain rfl:=oB h4;obtain rfl:=a7O hv;obtain⟨u,hu⟩:∃ u:Nat,(n:Int)=(u:Int):=⟨Int.toNat n,(Int.toNat_of_nonneg (Int.not_lt.1 hb1)).symm⟩;subst hu;refine⟨enters func235 (by kernel_rfl) (by kernel_rfl) _ _,(Tryz.W6 u (Int.ofNat_lt.1 hb2) w (aWA hG)).mono ?_⟩
 rintro e w' ⟨rfl,k,os,rfl⟩;have hi:(⟨(Lib.decDigits u).toArray⟩:ByteArray)=aQV (u:Int):=by
  have h1:u<10^20:=Nat.lt_trans (Int.ofNat_lt.1 hb2) (by decide);rw[aKU (by simpa using h1),Lib.itoa_nonneg]
 rw[hi];have he:=aRN hG.lt k os;exact⟨_,G,rfl,he,λb hb=>Nat.lt_of_lt_of_le (hG b hb) he.size,aZP _⟩
abbrev aLB:Ent:=⟨185,_,_,FH⟩
theorem aFR:Ent.OK Tryz.prog aLB:=aIJ
abbrev aLQ:Ent:=⟨212,_,_,FN⟩
theorem aFV:Ent.OK Tryz.prog aLQ:=aJR
abbrev aA9:Ent:=⟨246,_,_,tX⟩
theorem W3:Ent.OK Tryz.prog aA9:=ZY
abbrev Z8:Ent:=⟨235,_,_,sQ⟩
theorem UI:Ent.OK Tryz.prog Z8:=YO
set_option maxHeartbeats 4000000
theorem aY0(s:ByteArray)(hl:s.size<=1000000000)(v:Int)(h:Lib.parseIntB 64 s.data.toList=.ok v)(w:World) :
  Calls Tryz.prog 210 #[.string s] w λe w'=>e=.returned (.tuple #[.int .i64 v,.bool true])/\(w'=w\/∃ t,w'=Lib.bytesWorld w 5 t):=by
 go_enter func210,ntmps210
 go_wp2_with (go_at_call 231; refine(Tryz.strconv_ParseInt_10_at64_ok s (by omega) v h _).mono ?_; rintro e w' ⟨rfl,hw⟩)
 all_goals refine bodyPost_ret (results_tmp2 rfl _ _ _) rfl ?_
 exact⟨rfl,hw⟩
theorem aQX(s:ByteArray)(hl:s.size<=1000000000)(h:Lib.parseIntB 64 s.data.toList=.range)(ev:Value)(w:World)(hv:w.cell? ⟨1,0,none⟩=some ev)(hev:ev=.nilIface\/∃ te pe,ev=.iface te pe) :
  Calls Tryz.prog 210 #[.string s] w λe w'=>e=.returned (.tuple #[.int .i64 0,.bool false])/\Below w.heap.size w w':=by
 go_enter func210,ntmps210
 go_wp2_with (go_at_call 231; refine(Tryz.strconv_ParseInt_10_at64_range s (by omega) h ev _ hv hev).mono ?_; rintro e w' ⟨N,rfl,hN1,hN2,hB⟩)
 all_goals refine bodyPost_ret (results_tmp2 rfl _ _ _) rfl ?_
 exact⟨rfl,hB⟩
theorem a3D {w:World}{G:Nat->Prop}(h:Lt w G):∃ te pe,w.cell? ⟨1,0,none⟩=some (.iface te pe):=by
 have hm:(1,aCW)∈a0M:=by simp[a0M]
 obtain⟨-,te,pe,t,fr,ht⟩:=h.tab _ hm;refine⟨te,pe,?_⟩;simp only[World.cell?];rw[ht];rfl
theorem aIB {w:World}{G:Gd}(k:IntKind)(n:Int)(b:Bool):VR w G aI (.tuple [.lit (.int k n),.lit (.bool b)]) (.tuple #[.int k n,.bool b]):=by
 rw[VR];refine⟨_,rfl,?_⟩;show VRs w G aI _ [.int k n,.bool b];rw[VRs];refine⟨_,_,rfl,by rw[VR],?_⟩;rw[VRs];exact⟨_,_,rfl,by rw[VR],by rw[VRs]⟩
def ED(x:aK [.str]):oK [.int .i64,.bool]:=match x with
 | (s,())=>bif Nat.ble s.size 1000000000 then (match Lib.parseIntB 64 s.data.toList with
  | .ok n=>some (n,true,())
  | .range=>some (0,false,())
  | _=>none) else none
theorem aLS:UZ Tryz.prog 210 _ _ ED:=by
 rintro⟨s,⟨⟩⟩ y h w G vs hG hv;unfold ED at h;obtain⟨hb,h4⟩:=aH h;clear h;have hl:=oL hb;split at h4
 ·rename_i n hn;obtain rfl:=oB h4;obtain rfl:=a35 hv;refine⟨enters func210 (by kernel_rfl) (by kernel_rfl) _ _,(aY0 s hl n hn w).mono ?_⟩;rintro e w' ⟨rfl,hw⟩;rcases hw with rfl|⟨t,rfl⟩
  ·exact⟨_,G,rfl,Ext.refl _ _ _ _,hG.lt,aIB _ n true⟩
  ·have he:=ZO hG.lt 5 t;exact⟨_,G,rfl,he,λb hb=>Nat.lt_of_lt_of_le (hG b hb) he.size,aIB _ n true⟩
 ·rename_i hn;obtain rfl:=oB h4;obtain rfl:=a35 hv;obtain⟨te,pe,hc⟩:=a3D hG;refine⟨enters func210 (by kernel_rfl) (by kernel_rfl) _ _,(aQX s hl hn _ w hc (.inr ⟨te,pe,rfl⟩)).mono ?_⟩;rintro e w' ⟨rfl,hB⟩;have he:=aNJ hG hB;exact⟨_,G,rfl,he,λb hb=>Nat.lt_of_lt_of_le (hG b hb) he.size,aIB _ 0 false⟩
 ·cases h4
abbrev aDT:Ent:=⟨210,_,_,ED⟩
theorem aHN:Ent.OK Tryz.prog aDT:=aLS
end Go.PM
namespace Go.PM
open Go Go.RowKit
abbrev arB(ae:TypeId) (t:Ty) (A:List (List t.den)):Blk:=⟨aG (.rows t) A,ae,false,false,some ⟨.rows t,A⟩⟩
abbrev owB(e:TypeId)(t:Ty)(l:List t.den):Blk:=⟨aG t l,e,true,false,some ⟨t,l⟩⟩
abbrev OwA:=Option (Nat×Blk)
def RB:OwA->Heap->Heap
 | none,H=>H
 | some (r,_),H=>H.set r none
def L5:OwA->Heap
 | none=>[]
 | some (_,k)=>[some k]
def a6L(μ:Mp):OwA->Option Nat
 | none=>none
 | some (r,_)=>μ.loc r
def a7U(μ:Mp):OwA->Option Nat
 | none=>none
 | some (r,_)=>μ.len r
def wrA(w:World) (G:Gd) (μ:Mp) (ow:OwA):Nat->Prop:=λb=>w.heap.size<=b\/a6L μ ow=some b\/∃ j,G.row j=some b
def mpA(μ:Mp) (ow:OwA) (n:Nat):Mp:=⟨λq=>if q<(L5 ow).length then a6L μ ow else none,λq=>if q<(L5 ow).length then a7U μ ow else if q=(L5 ow).length then some n else none⟩
structure aW0 (H:Heap) (ow:OwA):Prop where
 at_:∀ r k,ow=some (r,k)->H[r]?=some (some k)/\k.grown=true/\k.frozen=false/\k.tag.isSome=true
section
variable {P:Program} {n0:Nat->Prop} {w w':World} {G G1 G2:Gd} {μ μ2:Mp} {H H':Heap} {ae:TypeId} {t:Ty} {A B:List (List t.den)}
theorem aW2 {ow:OwA}{s:Nat}{k:Blk}(h:(RB ow H)[s]?=some (some k)):H[s]?=some (some k)/\∀ r k',ow=some (r,k')->s≠r:=by
 cases ow with
 | none=>exact⟨h,λr k' e=>by cases e⟩
 | some p =>
  obtain⟨r,k'⟩:=p;obtain⟨h1,h2⟩:=qH h;exact⟨h1,λr' k2 e=>by cases e; exact h2⟩
theorem aNS {ow:OwA}:(RB ow H).length=H.length:=by
 cases ow with
 | none=>rfl
 | some p=>simp[RB]
theorem a54(hW:aN n0 G μ H w) {ow:OwA} (ho:aW0 H ow):∀ b,wrA w G μ ow b->n0 b:=by
 rintro b (h|h|⟨j,h⟩)
 ·exact hW.base b h
 ·cases ow with
  | none=>cases h
  | some p =>
   obtain⟨r,k⟩:=p;obtain⟨h1,_,h3,_⟩:=ho.at_ r k rfl;obtain⟨_,_,_,_,_,h6⟩:=hW.blk r k b h1 h;exact(h6 h3).1
 ·exact(hW.rows.sep j b h).2.1
theorem aYU(hW:aN n0 G μ H w) {ow:OwA} (ho:aW0 H ow) {s:Nat} {k:Blk} {b:Nat} (hs:H[s]?=some (some k)) (hne:∀ r k',ow=some (r,k')->s≠r) (hb:μ.loc s=some b):¬ wrA w G μ ow b:=by
 rintro(h|h|⟨j,h⟩)
 ·exact Nat.not_lt.2 h (hW.nB hs hb)
 ·cases ow with
  | none=>cases h
  | some p =>
   obtain⟨r,k'⟩:=p;obtain⟨h1,_,h3,_⟩:=ho.at_ r k' rfl;cases hf:k.frozen with
   | false=>exact hne r k' rfl (hW.inj s r k k' b hs h1 hf h3 hb h)
   | true =>
    obtain⟨_,_,_,_,h5,_⟩:=hW.blk s k b hs hb;obtain⟨_,_,_,_,_,h6⟩:=hW.blk r k' b h1 h;exact(h6 h3).2 (h5 hf)
 ·obtain⟨_,_,a3,a4⟩:=hW.rows.sep j b h;cases hf:k.frozen with
  | false=>exact a4 s k hs hf hb
  | true =>
   obtain⟨_,_,_,_,h5,_⟩:=hW.blk s k b hs hb;exact a3 (h5 hf)
theorem aDQ(hW:aN n0 G μ H w) {ow:OwA} (ho:aW0 H ow) {ra:Nat} (har:H[ra]?=some (some (arB ae t A))) :
  aN (wrA w G μ ow) G (mpA μ ow A.length) (L5 ow++[some (arB ae t A)]) w:=by
 have key:∀ (s:Nat) (k:Blk),(L5 ow++[some (arB ae t A)])[s]?=some (some k)->(s<(L5 ow).length/\∃ r,ow=some (r,k)/\s=0)\/(s=(L5 ow).length/\k=arB ae t A):=by
  intro s k hs;rcases PB (H:=L5 ow) s k hs with ⟨h1,h2⟩|⟨h1,h2⟩
  ·exact .inr ⟨h1,h2⟩
  ·left;refine⟨h1,?_⟩;cases ow with
   | none=>simp[L5]at h1
   | some p =>
    obtain⟨r,k'⟩:=p;simp only[L5,List.length_cons,List.length_nil]at h1;have:s=0:=by omega
    subst this;simp only[L5,List.getElem?_cons_zero,oJ]at h2;subst h2;exact⟨r,rfl,rfl⟩
 refine⟨?_,?_,?_,hW.lt,?_,λb hb=>.inl hb,?_⟩
 ·intro s k b hs hb;rcases key s k hs with ⟨h1,r,rfl,rfl⟩|⟨h1,rfl⟩
  ·have hb:μ.loc r=some b:=by
    have:(mpA μ (some (r,k)) A.length).loc 0=μ.loc r:=rfl;rw[this]at hb; exact hb
   obtain⟨q1,q2,q3,q4⟩:=ho.at_ r k rfl;obtain⟨c,a1,a2,a3,a4,a5⟩:=hW.blk r k b q1 hb;refine⟨c,a1,?_,a3,a4,λhf=>⟨.inr (.inl hb),(a5 hf).2⟩⟩;obtain⟨g,hg⟩:=Option.isSome_iff_exists.1 q4;rw[(hW.tags r k g q1 hg).1]at a2 ⊢;exact rM (jL _ _) a2
  ·subst h1;simp only[mpA,Nat.lt_irrefl,if_false]at hb;cases hb
 ·intro s k g hs hg;rcases key s k hs with ⟨h1,r,rfl,rfl⟩|⟨h1,rfl⟩
  ·obtain⟨q1,_⟩:=ho.at_ r k rfl;obtain⟨a1,a2⟩:=hW.tags r k g q1 hg;exact⟨a1,a2⟩
  ·cases hg;subst h1;refine⟨rfl,?_⟩;simp only[mpA,Nat.lt_irrefl,if_false,if_true]
 ·intro s1 s2 k1 k2 b h1 h2 f1 f2 m1 m2;rcases key s1 k1 h1 with ⟨p1,r1,e1,rfl⟩|⟨p1,rfl⟩
  ·rcases key s2 k2 h2 with ⟨p2,r2,e2,rfl⟩|⟨p2,rfl⟩
   ·rfl
   ·subst p2;simp only[mpA,Nat.lt_irrefl,if_false]at m2;cases m2
  ·subst p1;simp only[mpA,Nat.lt_irrefl,if_false]at m1;cases m1
 ·intro s hs;rw[oH]at hs;simp only[List.length_cons,List.length_nil]at hs;have h1:¬ s<(L5 ow).length:=by omega
  have h2:¬ s=(L5 ow).length:=by omega
  simp only[mpA,h1,h2,if_false,and_self]
 ·refine(hW.rows.rel (λs s'=>(s<(L5 ow).length/\∃ r k,ow=some (r,k)/\s'=r)\/(s=(L5 ow).length/\s'=ra)) ?_ ?_).aDJ λj b hj _=>.inr (.inr ⟨j,hj⟩)
  ·rintro s s2 q (⟨h1,r,k,h3,h4⟩|⟨h1,h3⟩) (⟨h2,r2,k2,h5,h6⟩|⟨h2,h5⟩)
   ·have:(L5 ow).length<=1:=by rw[h3]; simp[L5]
    omega
   ·exfalso;obtain⟨q1,q2,_⟩:=ho.at_ r k h3;rw[<- h4,h5,har]at q1;cases q1;cases q2
   ·exfalso;obtain⟨q1,q2,_⟩:=ho.at_ r2 k2 h5;rw[<- h6,h3,har]at q1;cases q1;cases q2
   ·rw[h1,h2]
  ·intro s k' hs;rcases key s k' hs with ⟨h1,r,rfl,rfl⟩|⟨h1,rfl⟩
   ·exact⟨r,k',.inl ⟨h1,r,k',rfl,rfl⟩,(ho.at_ r k' rfl).1,rfl,rfl,rfl,rfl,rfl⟩
   ·refine⟨ra,_,.inr ⟨h1,rfl⟩,har,rfl,rfl,rfl,rfl,?_⟩;subst h1;simp only[mpA,Nat.lt_irrefl,if_false];exact(hW.rows.arn ra _ t A har rfl rfl).1.symm
abbrev OsA:=Option (Nat×Blk×Blk)
def aS7:OsA->Heap
 | none=>[]
 | some (_,_,k)=>[some k]
def a2H(μ:Mp):OsA->Option Nat
 | none=>none
 | some (r,_,_)=>μ.loc r
def a1J:OsA->Option Nat
 | none=>none
 | some (_,_,k)=>match k.tag with
  | some g=>some g.l.length
  | none=>none
structure a5U (H:Heap) (os:OsA):Prop where
 at_:∀ r k k',os=some (r,k,k')->H[r]?=some (some k)/\k'.grown=true/\k.frozen=false/\k'.frozen=false/\k'.ty=k.ty/\∃ g n,k'.tag=some g/\k'.cells=aG g.t g.l/\k'.cells=k.cells.take n
def zF(μ μ2:Mp) (N n:Nat) (os:OsA):Mp:=⟨λq=>if q<N then μ.loc q else if q=N+1 then a2H μ2 os else none,λq=>if q<N then μ.len q else if q=N then some n else if q=N+1 then a1J os else none⟩
theorem aHT(hW:aN n0 G μ H w) {ow:OwA} (ho:aW0 H ow) {ra:Nat} (har:H[ra]?=some (some (arB ae t A))) (ee:Ext (wrA w G μ ow) w G aI w' G1 μ2) (hW':aN (wrA w G μ ow) G1 μ2 H' w')
  {rb:Nat} (hrb:H'[rb]?=some (some (arB ae t B))) {os:OsA} (hos:a5U H' os) (hrow:∀ j,G2.row j=G1.row j) (h12:∀ b,G1 b->G2 b)
  (h21:∀ b,G2 b->G1 b\/∃ s k,H'[s]?=some (some k)/\k.frozen=false/\μ2.loc s=some b/\∀ r k' k2,os=some (r,k',k2)->s≠r) :
  Ext n0 w G μ w' G2 (zF μ μ2 H.length B.length os)/\aN n0 G2 (zF μ μ2 H.length B.length os) (((RB ow H).set ra none)++(some (arB ae t B)::aS7 os)) w':=by
 have hwr:=a54 hW ho;have hblk:∀ s k b,H'[s]?=some (some k)->k.frozen=false->μ2.loc s=some b->wrA w G μ ow b:=λs k b hs hf hb=>by
  obtain⟨_,_,_,_,_,h6⟩:=hW'.blk s k b hs hb;exact(h6 hf).1
 have hG2:∀ b,G2 b->G b\/wrA w G μ ow b:=λb hb=>by
  rcases h21 b hb with h|⟨s,k,h1,h2,h3,_⟩
  ·exact ee.new b h
  ·exact .inr (hblk s k b h1 h2 h3)
 have hlt2:Lt w' G2.ok:=hW'.lt.step (λb hb=>⟨h12 b hb,rfl⟩) λb hb=>by
  rcases h21 b hb with h|⟨s,k,h1,_,h3,_⟩
  ·exact hW'.lt b h
  ·exact hW'.nB h1 h3
 have e2:Ext n0 w G μ w' G2 (zF μ μ2 H.length B.length os):={
  good:=λb hb=>⟨h12 b (ee.good b hb).1,(ee.good b hb).2⟩
  map:=λr b hr=>by
   have:r<H.length:=by
    rcases oG r H.length with h|h
    ·exact h
    ·rw[(hW.top r h).1]at hr; cases hr
   simp only[zF,this,if_true]; exact hr
  len:=λr b hr=>by
   have:r<H.length:=by
    rcases oG r H.length with h|h
    ·exact h
    ·rw[(hW.top r h).2]at hr; cases hr
   simp only[zF,this,if_true]; exact hr
  room:=ee.room
  row:=λj b hj=>by rw[hrow]; exact ee.row j b hj
  os:=ee.os
  tape:=ee.tape
  output:=ee.output
  size:=ee.size
  old:=λb hb hn=>ee.old b hb λh=>hn (hwr b h)
  new:=λb hb=>(hG2 b hb).imp id (hwr b) }
 have hlen:((RB ow H).set ra none).length=H.length:=by rw[List.length_set,aNS]
 have key:∀ (s:Nat) (k:Blk),(((RB ow H).set ra none)++(some (arB ae t B)::aS7 os))[s]?=some (some k) ->
   (s<H.length/\s≠ra/\H[s]?=some (some k)/\∀ r k',ow=some (r,k')->s≠r)\/(s=H.length/\k=arB ae t B)\/(s=H.length+1/\∃ r k0,os=some (r,k0,k)):=by
  intro s k hs;rcases oG s H.length with hl|hl
  ·rw[List.getElem?_append_left (by rw[hlen]; exact hl)]at hs;obtain⟨h1,h2⟩:=qH hs;obtain⟨h3,h4⟩:=aW2 h1;exact .inl ⟨hl,h2,h3,h4⟩
  ·rw[List.getElem?_append_right (by rw[hlen]; exact hl),hlen]at hs;rcases Nat.eq_zero_or_pos (s-H.length)with h0|h0
   ·rw[h0]at hs;simp only[List.getElem?_cons_zero,oJ]at hs;exact .inr (.inl ⟨by omega,hs.symm⟩)
   ·obtain⟨m,hm⟩:∃ m,s-H.length=m+1:=⟨s-H.length-1,by omega⟩;rw[hm,List.getElem?_cons_succ]at hs;cases os with
    | none=>simp[aS7]at hs
    | some p =>
     obtain⟨r,k0,k'⟩:=p;cases m with
     | zero =>
      simp only[aS7,List.getElem?_cons_zero,oJ]at hs;subst hs;exact .inr (.inr ⟨by omega,r,k0,rfl⟩)
     | succ m=>simp[aS7]at hs
 have l0:∀ s,s<H.length->(zF μ μ2 H.length B.length os).loc s=μ.loc s/\(zF μ μ2 H.length B.length os).len s=μ.len s:=λs hs=>by simp[zF,hs]
 have l1:(zF μ μ2 H.length B.length os).loc H.length=none/\(zF μ μ2 H.length B.length os).len H.length=some B.length:=by simp[zF]
 have l2:(zF μ μ2 H.length B.length os).loc (H.length+1)=a2H μ2 os/\(zF μ μ2 H.length B.length os).len (H.length+1)=a1J os:=by
  have h1:¬ H.length+1<H.length:=by omega
  have h2:¬ H.length+1=H.length:=by omega
  simp only[zF,h1,h2,if_false,if_true,and_self]
 have hold:∀ s k b,H[s]?=some (some k)->(∀ r k',ow=some (r,k')->s≠r)->μ.loc s=some b->w'.heap[b]?=w.heap[b]?/\¬ wrA w G μ ow b:=λs k b h1 h2 h3=>by
  have h4:=aYU hW ho h1 h2 h3;exact⟨ee.old b (hW.nB h1 h3) h4,h4⟩
 refine⟨e2,?_,?_,?_,hlt2,?_,λb hb=>hW.base b (oR ee.size hb),?_⟩
 ·intro s k b hs hb;rcases key s k hs with ⟨h1,h2,h3,h4⟩|⟨h1,rfl⟩|⟨h1,r,k0,h2⟩
  ·rw[(l0 s h1).1]at hb;obtain⟨c,a1,a2,a3,a4,a5⟩:=hW.blk s k b h3 hb;obtain⟨g1,g2⟩:=hold s k b h3 h4 hb;refine⟨c,g1.trans a1,aL.mono e2.toMono g1 0 _ a2,a3,λhf=>h12 b (ee.good b (a4 hf)).1,λhf=>⟨(a5 hf).1,λhg=>?_⟩⟩;rcases hG2 b hg with h|h
   ·exact(a5 hf).2 h
   ·exact g2 h
  ·subst h1;rw[l1.1]at hb; cases hb
  ·subst h1; subst h2;rw[l2.1]at hb;obtain⟨q1,q2,q3,q4,q5,g,nc,q6,q7,q8⟩:=hos.at_ r k0 k rfl;obtain⟨c,a1,a2,a3,a4,a5⟩:=hW'.blk r k0 b q1 hb;refine⟨c,by rw[q5]; exact a1,?_,(λhf=>by rw[q2]at hf; cases hf),(λhf=>by rw[q4]at hf; cases hf),λhf=>⟨hwr b (a5 q3).1,λhg=>?_⟩⟩
   ·replace a2:=a2.take nc;rw[<- q8,q7]at a2;rw[q7];obtain⟨us,u1,u2⟩:=a2.values;have m12:Mono w' G1 aI w' G2 (zF μ μ2 H.length B.length (some (r,k0,k))):=⟨λb hb=>⟨h12 b hb,rfl⟩,λ_ _ h=>(by cases h),λ_ _ h=>(by cases h),λ_ _ h=>h,λj b hj=>by rw[hrow]; exact hj⟩;exact aL.nJ (VRs.mono m12 _ _ (dB _ _ (jL _ _) u1)) u2
   ·rcases h21 b hg with h|⟨s2,k2,z1,z2,z3,z4⟩
    ·exact(a5 q3).2 h
    ·exact z4 r k0 k rfl (hW'.inj s2 r k2 k0 b z1 q1 z2 q3 z3 hb)
 ·intro s k g hs hg;rcases key s k hs with ⟨h1,h2,h3,h4⟩|⟨h1,rfl⟩|⟨h1,r,k0,h2⟩
  ·rw[(l0 s h1).2];exact hW.tags s k g h3 hg
  ·cases hg;subst h1;exact⟨rfl,l1.2⟩
  ·subst h1; subst h2;rw[l2.2];obtain⟨_,_,_,_,_,g',_,q6,q7,_⟩:=hos.at_ r k0 k rfl;rw[hg]at q6;cases q6;exact⟨q7,by simp only[a1J,hg]⟩
 ·intro s1 s2 k1 k2 b h1 h2 f1 f2 m1 m2;rcases key s1 k1 h1 with ⟨p1,p2,p3,p4⟩|⟨p1,rfl⟩|⟨p1,r,k0,p2⟩
  ·rw[(l0 s1 p1).1]at m1;rcases key s2 k2 h2 with ⟨q1,q2,q3,q4⟩|⟨q1,rfl⟩|⟨q1,r2,k02,q2⟩
   ·rw[(l0 s2 q1).1]at m2;exact hW.inj s1 s2 k1 k2 b p3 q3 f1 f2 m1 m2
   ·subst q1; rw[l1.1]at m2; cases m2
   ·subst q1; subst q2;rw[l2.1]at m2;exact absurd (hblk r2 k02 b (hos.at_ r2 k02 k2 rfl).1 (hos.at_ r2 k02 k2 rfl).2.2.1 m2) (hold s1 k1 b p3 p4 m1).2
  ·subst p1; rw[l1.1]at m1; cases m1
  ·subst p1; subst p2;rw[l2.1]at m1;rcases key s2 k2 h2 with ⟨q1,q2,q3,q4⟩|⟨q1,rfl⟩|⟨q1,r2,k02,q2⟩
   ·rw[(l0 s2 q1).1]at m2;exact absurd (hblk r k0 b (hos.at_ r k0 k1 rfl).1 (hos.at_ r k0 k1 rfl).2.2.1 m1) (hold s2 k2 b q3 q4 m2).2
   ·subst q1; rw[l1.1]at m2; cases m2
   ·exact q1.symm
 ·intro s hs;rw[oH,hlen,List.length_cons]at hs;have h1:¬ s<H.length:=by omega
  have h2:¬ s=H.length:=by omega
  by_cases h3:s=H.length+1
  ·cases os with
   | none=>rw[h3]; exact l2
   | some p =>
    obtain⟨r,k0,k1⟩:=p;simp only[aS7,List.length_cons,List.length_nil]at hs;omega
  ·simp[zF,h1,h2,h3]
 ·have hr':=hW'.rows;refine⟨λi j b h1 h2=>hr'.inj i j b (by rw[<- hrow]; exact h1) (by rw[<- hrow]; exact h2),?_,?_,?_,?_⟩
  ·intro j b hj;rw[hrow]at hj;obtain⟨a1,a2,a3,a4⟩:=hr'.sep j b hj;refine⟨a1,hwr b a2,λhg=>?_,λs k hs hf hl=>?_⟩
   ·rcases h21 b hg with h|⟨s,k,z1,z2,z3,_⟩
    ·exact a3 h
    ·exact a4 s k z1 z2 z3
   ·rcases key s k hs with ⟨p1,p2,p3,p4⟩|⟨p1,rfl⟩|⟨p1,r,k0,p2⟩
    ·rw[(l0 s p1).1]at hl;exact(hold s k b p3 p4 hl).2 a2
    ·subst p1; rw[l1.1]at hl; cases hl
    ·subst p1; subst p2;rw[l2.1]at hl;exact a4 r k0 (hos.at_ r k0 k rfl).1 (hos.at_ r k0 k rfl).2.2.1 hl
  ·intro j b hj;rw[hrow]at hj;exact hr'.cel j b hj
  ·intro s k t1 l1' hs hg ht;rcases key s k hs with ⟨p1,p2,p3,p4⟩|⟨p1,rfl⟩|⟨p1,r,k0,p2⟩
   ·exact absurd (hW.rows.one s ra k _ t1 l1' t A p3 hg ht har rfl rfl) p2
   ·cases ht;subst p1;obtain⟨_,a2,a3⟩:=hr'.arn rb _ t B hrb rfl rfl;refine⟨l1.1,λj hj=>by rw[hrow]; exact a2 j hj,λj row hj=>?_⟩;rcases a3 j row hj with h|⟨b,z1,z2⟩
    ·exact .inl h
    ·have m12:Mono w' G1 aI w' G2 aI:=⟨λb hb=>⟨h12 b hb,rfl⟩,λ_ _ h=>h,λ_ _ h=>h,λ_ _ h=>h,λj b hj=>by rw[hrow]; exact hj⟩;exact .inr ⟨b,by rw[hrow]; exact z1,z2.mono m12 rfl⟩
   ·subst p2;rw[(hos.at_ r k0 k rfl).2.1]at hg; cases hg
  ·have only:∀ (s:Nat) (k:Blk) (t1:Ty) (l1':List (List t1.den)),(((RB ow H).set ra none)++(some (arB ae t B)::aS7 os))[s]?=some (some k)->k.grown=false->k.tag=some ⟨.rows t1,l1'⟩->s=H.length:=by
    intro s k t1 l1' hs hg ht;rcases key s k hs with ⟨p1,p2,p3,p4⟩|⟨p1,_⟩|⟨p1,r,k0,p2⟩
    ·exact absurd (hW.rows.one s ra k _ t1 l1' t A p3 hg ht har rfl rfl) p2
    ·exact p1
    ·subst p2;rw[(hos.at_ r k0 k rfl).2.1]at hg; cases hg
   intro r s k k' t1 l1' t2 l2' h1 g1 t1' h2 g2 t2';rw[only r k t1 l1' h1 g1 t1',only s k' t2 l2' h2 g2 t2']
end
theorem aCT:∀ (ts:List Ty) (x:Q5 ts),eB.noRefs (VK ts x)=true
 | [],_=>rfl
 | t::r,(x,xs)=>by simp only[VK,eB.noRefs,eB,aCT r xs,Bool.and_self]
theorem aSZ:∀ (k:Kd) (x:k.den) (r:List Kd),PT (k::r)=true->eB (AQ k x 0)=true/\PT r=true
 | .int _,_,_,h=>⟨rfl,h⟩
 | .bool,_,_,h=>⟨rfl,h⟩
 | .str,_,_,h=>⟨rfl,h⟩
 | .list _,_,_,h=>⟨rfl,h⟩
 | .agg t,x,_,h=>⟨by simp only[AQ,eB]; exact O8 t x,h⟩
 | .own _ _,_,_,h=>by simp only[PT]at h; cases h
 | .box _ _,_,_,h=>by simp only[PT]at h; cases h
 | .win _ _,_,_,h=>by simp only[PT]at h; cases h
 | .bown _ _ _,_,_,h=>by simp only[PT]at h; cases h
 | .bag _ _ _ _ _,_,_,h=>by simp only[PT]at h; cases h
 | .bag2 _ _ _ _ _ _,_,_,h=>by simp only[PT]at h; cases h
 | .ar _ _,_,_,h=>by simp only[PT]at h; cases h
 | .hnd _,_,_,h=>⟨rfl,h⟩
 | .mpk _,_,_,h=>⟨rfl,h⟩
 | .ptr t,x,_,h=>⟨rfl,h⟩
 | .fn _,_,_,h=>⟨rfl,h⟩
 | .nil0,_,_,h=>⟨rfl,h⟩
 | .val,_,_,h=>⟨rfl,h⟩
 | .nilI,_,_,h=>⟨rfl,h⟩
 | .clo _ ts,x,_,h=>⟨by simp only[AQ,eB,eB.noRefs,aCT ts x,Bool.and_self],h⟩
theorem NP:∀ (l:List Kd) (x:aK l),PT l=true->eB.noRefs (lO l x)=true
 | [],_,_=>rfl
 | k::r,(x,xs),h=>by
  obtain⟨h1,h2⟩:=aSZ k x r h;simp only[lO,eB.noRefs,h1,NP r xs h2,Bool.and_self]
inductive Tk where
 | none
 | own (e:TypeId) (t:Ty)
@[reducible] def Tk.den:Tk->Type
 | .none=>Unit
 | .own _ t=>List t.den
def Tk.pv:Tk->Nat->List PV
 | .none,_=>[]
 | .own _ t,r=>[.own r t.size]
def Tk.ow:(k:Tk)->k.den->Nat->OwA
 | .none,_,_=>Option.none
 | .own e t,l,r=>some (r,owB e t l)
inductive An where
 | data (l:List Kd)
 | own (e:TypeId) (t:Ty)
@[reducible] def An.den:An->Type
 | .data l=>aK l
 | .own _ t=>List t.den
def An.pv:(a:An)->a.den->Nat->PV
 | .data l,y,_=>aG7 l y
 | .own _ t,_,n=>.own n t.size
def An.hp:(a:An)->a.den->Heap
 | .data _,_=>[]
 | .own e t,l=>[some (owB e t l)]
def LA(P:Program) (g:FuncId) (ae:TypeId) (t:Ty) (tk:Tk) (args:List Kd) (an:An) (f:tk.den->aK args->List (List t.den)->Option (an.den×List (List t.den))):Prop :=
 ∀ l x A y B,f l x A=some (y,B)->∀ {n0 G μ H w us ra r},aN n0 G μ H w->H[ra]?=some (some (arB ae t A))->aW0 H (tk.ow l r)->VRs w G μ (tk.pv r++lO args x) us ->
  xH P n0 w G μ g us.toArray (an.pv y (H.length+1)) (((RB (tk.ow l r) H).set ra none)++(some (arB ae t B)::an.hp y))
def aW5(ae:TypeId) (t:Ty) (H:Heap):Option (Nat×List (List t.den)):=match aAA 0 H with
 | some (r,k)=>match k.tag with
  | some g=>match HG g.t (.rows t) g.l with
   | some l=>bif Nat.beq k.ty ae&&!k.frozen then some (r,l) else none
   | none=>none
  | none=>none
 | none=>none
def a4W(e:TypeId)(t:Ty)(H:Heap):PV->Option (List t.den)
 | .own r sz=>H8 e t (.own r sz) H r
 | .win r lo n sz=>bif Nat.beq lo 0 then match H8 e t (.own r sz) H r with
  | some l=>some (l.take n)
  | none=>none
  else none
 | _=>none
def aTX:(an:An)->PV->Heap->Option an.den
 | .data l,q,H=>match inl false H depth q with
  | some q'=>aOI l q'
  | none=>none
 | .own e t,q,H=>a4W e t H q
def a2X(P:Program)(rs:List ResultVar)(ae:TypeId)(t:Ty)(an:An)(ex:Ex)(F:Frm)(H:Heap):Option (an.den×List (List t.den)):=match ex with
 | .exit _=>none
 | _=>match uO P F H rs with
  | some vs=>match aW5 ae t H with
   | some B=>match aTX an (fG vs) H with
    | some y=>some (y,B.2)
    | none=>none
   | none=>none
  | none=>none
def EV(P:Program)(E:Env)(fn:Func)(bG:Nat)(lt:Nat->Option cA)(c:Code)(ae:TypeId)(t:Ty)(tk:Tk)(args:List Kd)(an:An)(l:tk.den)(x:aK args)(A:List (List t.den)):Option (an.den×List (List t.den)) :=
 bif Nat.ble (tk.pv 0++lO args x).length fn.ntmps then EU P E fn.ntmps bG lt c (start bG 0 (tk.pv 0++lO args x)) (L5 (tk.ow l 0)++[some (arB ae t A)]) (a2X P fn.results.toList ae t an) else none
section
variable {P:Program} {n0:Nat->Prop} {w w':World} {G G1 G2:Gd} {μ μ2:Mp} {H H':Heap} {ae:TypeId} {t:Ty} {A B:List (List t.den)}
theorem aBI(hW:aN n0 G μ H w){p:Nat×List (List t.den)}(h:aW5 ae t H=some p):H[p.1]?=some (some (arB ae t p.2)):=by
 unfold aW5 at h;split at h
 ·rename_i r k hk;obtain⟨h1,h2⟩:=UC hk;split at h
  ·rename_i g hg;split at h
   ·rename_i l hc;obtain⟨hb,h⟩:=aH h;simp only[oA,Bool.not_eq_true']at hb;simp only[oJ]at h;subst h;have hb3:=oE hb.1;have ht:=(hW.tags r k g h1 hg).1;have hge:=aQW hc;rw[hge]at hg ht;rw[h1];obtain⟨k1,k2,k3,k4,k5⟩:=k;dsimp only at ht hg hb hb3 h2 ⊢;rw[ht,hg,hb3,h2,hb.2]
   ·cases h
  ·cases h
 ·cases h
theorem aJZ(hW:aN n0 G μ H w) {e:TypeId} {u:Ty} {p:PV} {l:List u.den} {v:Value} (h:a4W e u H p=some l) (hv:VR w G μ p v) :
  ∃ r l0,a5U H (some (r,owB e u l0,owB e u l))/\∀ G2 μ3 n,μ3.loc n=μ.loc r->μ3.len n=some l.length->VR w G2 μ3 (.own n u.size) v:=by
 have key:∀ (l0:List u.den) (r m:Nat),H[r]?=some (some (owB e u l0))->a5U H (some (r,owB e u l0,owB e u (l0.take m))):=λl0 r m h0=>⟨λr' k k' he=>by
  cases he;exact⟨h0,rfl,rfl,rfl,rfl,⟨u,l0.take m⟩,m*u.size,rfl,rfl,(tR u m l0).symm⟩⟩
 unfold a4W at h;split at h
 ·rename_i r sz;obtain⟨h1,h2⟩:=tC hW h;cases h1;refine⟨r,l,by have:=key l r l.length h2; rwa[List.take_length]at this,λG2 μ3 n q1 q2=>?_⟩;rw[VR]at hv ⊢;obtain⟨m,a1,a2⟩:=hv;have:=(hW.tags r _ _ h2 rfl).2;rw[this]at a1;cases a1;refine⟨_,q2,?_⟩;rw[q1];exact a2
 ·rename_i r lo n sz;obtain⟨hb,h⟩:=aH h;have hb:=oE hb;subst hb;split at h
  ·rename_i l0 hl0;obtain rfl:=oB h;obtain⟨h1,h2⟩:=tC hW hl0;cases h1;refine⟨r,l0,key l0 r n h2,λG2 μ3 m q1 q2=>?_⟩;rw[VR]at hv;rw[VR];obtain⟨b,c,m',a1,a2,a3,a4,a5,a6,a7⟩:=hv;have:=(hW.tags r _ _ h2 rfl).2;rw[this]at a5;cases a5;refine⟨n,by rw[q2,List.length_take]; change 0+n<=l0.length at a6; congr 1; omega,.inr ⟨b,c,by rw[q1]; exact a1,by rw[a2,Nat.zero_mul],a3,?_⟩⟩;simpa using a4
  ·cases h
 ·cases h
theorem aXL {α:Type 1}{b:Bool}{x:Option α}{y:α}(h:(bif b then x else none)=some y):b=true/\x=some y:=by
 cases b with
 | true=>exact⟨rfl,h⟩
 | false=>cases h
theorem zG {E:Env} (hP:ME P) (hE:fR P E) {g:Nat} {fn:Func} (hg:P.funcs[g]?=some fn) {c:Code} (hc:fn.body=some c) {bG:Nat} {lt:Nat->Option cA} {ae:TypeId} {t:Ty} {tk:Tk} {args:List Kd} {an:An} {f:tk.den->aK args->List (List t.den)->Option (an.den×List (List t.den))}
  (hd:PT args=true) (hl:∀ a∈a8 c,∀ s,lt (bQ a)=some s->eS P fn.ntmps a s) (hb:∀ l x A,EV P E fn bG lt c ae t tk args an l x A=f l x A):LA P g ae t tk args an f:=by
 intro l x A y B hy n0 G μ H w us ra r hW har ho hv;rw[<- hb]at hy;unfold EV at hy;obtain⟨hlen,hy⟩:=aH hy;obtain⟨⟨ex,F',H'⟩,h1,h2⟩:=nG hE.callee hP.mixed c _ _ _ _ hl hy;obtain⟨vs,B',hex,hvs,hB,hq,rfl⟩:∃ vs B',(ex=.normal\/ex=.ret)/\uO P F' H' fn.results.toList=some vs/\aW5 ae t H'=some B'/\aTX an (fG vs) H'=some y/\B'.2=B:=by
  unfold a2X at h1;split at h1
  ·cases h1
  ·rename_i hne;split at h1
   ·rename_i vs hvs;split at h1
    ·rename_i B' hB;split at h1
     ·rename_i y' hy';simp only[oJ,oP]at h1;obtain⟨rfl,h1⟩:=h1;refine⟨vs,B',?_,hvs,hB,hy',h1⟩;cases ex with
      | normal=>exact .inl rfl
      | ret=>exact .inr rfl
      | exit i=>exact absurd rfl (hne i)
     ·cases h1
    ·cases h1
   ·cases h1
 have hargs:VRs w G (mpA μ (tk.ow l r) A.length) (tk.pv 0++lO args x) us:=by
  have hn:=NP args x hd;cases tk with
  | none=>exact VRs.aY (dB _ _ hn hv)
  | own e u =>
   change VRs w G μ (.own r u.size::lO args x) us at hv;change VRs w G _ (.own 0 u.size::lO args x) us;rw[VRs]at hv ⊢;obtain⟨v,us',rfl,q1,q2⟩:=hv;refine⟨v,us',rfl,?_,VRs.aY (dB _ _ hn q2)⟩;rw[VR]at q1 ⊢;exact q1
 have howb:L5 (tk.ow l 0)=L5 (tk.ow l r):=by cases tk <;> rfl
 have hW1:=aDQ hW ho har;rw[<- howb]at hW1;have e0:Ext (wrA w G μ (tk.ow l r)) w G aI w G (mpA μ (tk.ow l r) A.length) :=
  ⟨⟨λb hb=>⟨hb,rfl⟩,λ_ _ h=>(by cases h),λ_ _ h=>(by cases h),λ_ _ h=>h,λ_ _ h=>h⟩,rfl,rfl,rfl,oM _,λ_ _ _=>rfl,λ_ h=>.inl h⟩
 refine⟨enters hg (hP.names g fn hg) (by rw[hc]; rfl) _ _,calls_of_wp hg hc ?_⟩;have hI:I (wrA w G μ (tk.ow l r)) w G aI fn.ntmps (start bG 0 (tk.pv 0++lO args x)) (L5 (tk.ow l 0)++[some (arB ae t A)]) ⟨us.toArray++Array.replicate (fn.ntmps-us.toArray.size) undef,[]⟩ w :=
  ⟨G,_,e0,hW1,AP (by simpa using hargs) (oL hlen)⟩
 refine wp_mono (h2 _ w G aI _ w (λr=>⟨rfl,rfl⟩) hI) ?_;rintro e1 a' w' ⟨rfl,G1,μ1,ee,hW',hF'⟩;obtain⟨ws,h3,h4⟩:=rD (P:=P) hW' hF' hvs;have hres:(results fn a'.tmps).run P w'=.ok (if hh:ws.toArray.size=1 then ws.toArray[0] else .tuple ws.toArray) w':=by
  rw[DR,Array.mapM_eq_mapM_toList];simp only[Sem.run_bind,Sem.run_map,h3,Result.andThen_ok,Sem.run_pure]
 have hrb:=aBI hW' hB;obtain⟨G2,μ3,b1,b2,b3⟩:∃ G2 μ3,Ext n0 w G μ w' G2 μ3/\aN n0 G2 μ3 (((RB (tk.ow l r) H).set ra none)++(some (arB ae t B'.2)::an.hp y)) w'/\VR w' G2 μ3 (an.pv y (H.length+1)) (if hh:ws.toArray.size=1 then ws.toArray[0] else .tuple ws.toArray):=by
  have hvr:=tM h4;cases an with
  | data rets =>
   simp only[aTX]at hq;split at hq
   ·rename_i q hq';have hb:=aHT (G2:=⟨λb=>G1 b\/∃ s k,H'[s]?=some (some k)/\k.frozen=false/\μ1.loc s=some b,G1.row⟩) hW ho har ee hW' hrb (os:=none) ⟨λ_ _ _ h=>by cases h⟩ (λ_=>rfl) (λb hb=>.inl hb) (λb hb=>by
     rcases hb with h|⟨s,k,z1,z2,z3⟩
     ·exact .inl h
     ·exact .inr ⟨s,k,z1,z2,z3,λ_ _ _ h=>by cases h⟩)
    refine⟨_,_,hb.1,hb.2,?_⟩;have:=J9 (G':=⟨λb=>G1 b\/∃ s k,H'[s]?=some (some k)/\k.frozen=false/\μ1.loc s=some b,G1.row⟩) hW' (λ_ _ h=>h) (λb hb=>.inl hb) (λs k1 b hs _ hb=>by
     obtain⟨_,_,_,_,g5,_⟩:=hW'.blk s k1 b hs hb;cases hf:k1.frozen with
     | true=>exact .inl (g5 hf)
     | false=>exact .inr ⟨s,k1,hs,hf,hb⟩) depth _ q _ hq' hvr
    exact(VI hq this).aY
   ·cases hq
  | own e u =>
   simp only[aTX]at hq;obtain⟨r1,l0,hos,hvv⟩:=aJZ hW' hq hvr;have hb:=aHT (G2:=G1) hW ho har ee hW' hrb hos (λ_=>rfl) (λb hb=>hb) (λb hb=>.inl hb);refine⟨_,_,hb.1,hb.2,hvv _ _ _ ?_ ?_⟩
   ·have h1:¬ H.length+1<H.length:=by omega
    simp[zF,h1,a2H]
   ·have h1:¬ H.length+1<H.length:=by omega
    simp[zF,h1,a1J]
 have hpost:a'.defers=[]/\∃ v,(results fn a'.tmps).run P w'=.ok v w'/\(∃ v' G'' μ'',Ending.returned v=.returned v'/\Ext n0 w G μ w' G'' μ''/\aN n0 G'' μ'' (((RB (tk.ow l r) H).set ra none)++(some (arB ae t B'.2)::an.hp y)) w'/\VR w' G'' μ'' (an.pv y (H.length+1)) v') :=
  ⟨hF'.defers,_,hres,_,G2,μ3,rfl,b1,b2,b3⟩
 rcases hex with rfl|rfl
 ·exact hpost
 ·exact hpost
def aAL(P:Program) (E:Env) (fn:Func) (bG:Nat) (lt:Nat->Option cA) (c:Code) (ae:TypeId) (t:Ty) (args rets:List Kd) (x:aK args):Option (aK rets) :=
 bif Nat.ble (lO args x).length fn.ntmps then EU P E fn.ntmps bG lt c (start bG 0 (lO args x)) [some (arB ae t [])] (aLN P fn.results.toList rets) else none
theorem aGC {E:Env} (hP:ME P) (hE:fR P E) {g:Nat} {fn:Func} (hg:P.funcs[g]?=some fn) {c:Code} (hc:fn.body=some c) {bG:Nat} {lt:Nat->Option cA} {ae:TypeId} {t:Ty} {args rets:List Kd} {f:aK args->Option (aK rets)}
  (hl:∀ a∈a8 c,∀ s,lt (bQ a)=some s->eS P fn.ntmps a s) (hb:∀ x,aAL P E fn bG lt c ae t args rets x=f x):UZ P g args rets f:=by
 intro x y hy;rw[<- hb]at hy;unfold aAL at hy;obtain⟨hlen,hy⟩:=aH hy;obtain⟨⟨ex,F',H'⟩,h1,h2⟩:=nG hE.callee hP.mixed c _ _ _ _ hl hy;obtain⟨vs,q,hex,hvs,hq,hd⟩:∃ vs q,(ex=.normal\/ex=.ret)/\uO P F' H' fn.results.toList=some vs/\aS0 H' (fG vs)=some q/\aOI rets q=some y:=by
  unfold aLN at h1;split at h1
  ·cases h1
  ·rename_i hne;split at h1
   ·rename_i vs hvs;split at h1
    ·rename_i q hq;refine⟨vs,q,?_,hvs,hq,h1⟩;cases ex with
     | normal=>exact .inl rfl
     | ret=>exact .inr rfl
     | exit i=>exact absurd rfl (hne i)
    ·cases h1
   ·cases h1
 obtain⟨hq1,hq2⟩:=HH hq;intro w G us hlt hv;have at0:∀ (s:Nat) (k1:Blk),([some (arB ae t [])]:Heap)[s]?=some (some k1)->s=0/\k1=arB ae t []:=by
  intro s k1 hs;cases s with
  | zero=>simp only[List.getElem?_cons_zero,oJ]at hs; exact⟨rfl,hs.symm⟩
  | succ s=>simp at hs
 have hW:aN (zY w) (Gd.of G) ⟨λ_=>none,λr=>if r=0 then some 0 else none⟩ [some (arB ae t [])] w:=by
  refine⟨(λr k b h hb=>by cases hb),(λr k g h hg=>?_),(λr s k l b h _ _ _ hb=>by cases hb),hlt,(λr hr=>⟨rfl,?_⟩),λ_ h=>h,⟨(λ_ _ _ h=>by cases h),(λ_ _ h=>by cases h),(λ_ _ h=>by cases h),(λr k u l h hgr ht=>?_),(λr s k k' u l u' l' h1 g1 t1 h2 g2 t2=>by rw[(at0 r k h1).1,(at0 s k' h2).1])⟩⟩
  ·obtain⟨rfl,rfl⟩:=at0 r k h;cases hg;exact⟨rfl,rfl⟩
  ·have:r≠0:=by rintro rfl; simp at hr
   simp[this]
  ·obtain⟨rfl,rfl⟩:=at0 r k h;cases ht;exact⟨rfl,λ_ _=>rfl,λj row hj=>by simp at hj⟩
 have e0:Ext (zY w) w (Gd.of G) aI w (Gd.of G) ⟨λ_=>none,λr=>if r=0 then some 0 else none⟩ :=
  ⟨⟨λb hb=>⟨hb,rfl⟩,λ_ _ h=>(by cases h),λ_ _ h=>(by cases h),λ_ _ h=>h,λ_ _ h=>h⟩,rfl,rfl,rfl,oM _,λ_ _ _=>rfl,λ_ h=>.inl h⟩
 refine⟨enters hg (hP.names g fn hg) (by rw[hc]; rfl) _ _,calls_of_wp hg hc ?_⟩;have hI:I (zY w) w (Gd.of G) aI fn.ntmps (start bG 0 (lO args x)) [some (arB ae t [])] ⟨us++Array.replicate (fn.ntmps-us.size) undef,[]⟩ w:=⟨Gd.of G,_,e0,hW,AP hv.aY (oL hlen)⟩;refine wp_mono (h2 _ w (Gd.of G) aI _ w (λr=>⟨rfl,rfl⟩) hI) ?_;rintro e a' w' ⟨rfl,G1,μ1,e1,e2,hF'⟩;obtain⟨ws,h3,h4⟩:=rD (P:=P) e2 hF' hvs;have hres:(results fn a'.tmps).run P w'=.ok (if hh:ws.toArray.size=1 then ws.toArray[0] else .tuple ws.toArray) w':=by
  rw[DR,Array.mapM_eq_mapM_toList];simp only[Sem.run_bind,Sem.run_map,h3,Result.andThen_ok,Sem.run_pure]
 have hval:=PZ (G:=⟨λb=>G1 b\/∃ r k,H'[r]?=some (some k)/\μ1.loc r=some b,G1.row⟩) (G':=Gd.of λb=>G1 b\/∃ r k,H'[r]?=some (some k)/\μ1.loc r=some b) (λb h=>h) _ _ _ hq2
   (J9 (G':=⟨λb=>G1 b\/∃ r k,H'[r]?=some (some k)/\μ1.loc r=some b,G1.row⟩) e2 (λ_ _ h=>h) (λb hb=>.inl hb) (λr k b hr _ hb=>.inr ⟨r,k,hr,hb⟩) depth _ q _ hq1 (tM h4))
 have hext:Ext (zY w) w (Gd.of G) aI w' (Gd.of λb=>G1 b\/∃ r k,H'[r]?=some (some k)/\μ1.loc r=some b) aI:={
  good:=λb hb=>⟨.inl (e1.good b hb).1,(e1.good b hb).2⟩
  map:=λ_ _ h=>h
  len:=λ_ _ h=>h
  room:=e1.room
  row:=λ_ _ h=>h
  os:=e1.os
  tape:=e1.tape
  output:=e1.output
  size:=e1.size
  old:=e1.old
  new:=λb hb=>by
   rcases hb with hb|⟨r,k,hr,hb⟩
   ·exact e1.new b hb
   ·obtain⟨c,_,_,_,g5,g6⟩:=e2.blk r k b hr hb;cases hf:k.frozen with
    | true=>exact e1.new b (g5 hf)
    | false=>exact .inr (g6 hf).1 }
 have hlt':∀ b,(G1 b\/∃ r k,H'[r]?=some (some k)/\μ1.loc r=some b)->b<w'.heap.size:=by
  rintro b (hb|⟨r,k,hr,hb⟩)
  ·exact e2.lt b hb
  ·exact e2.nB hr hb
 have hpost:a'.defers=[]/\∃ v,(results fn a'.tmps).run P w'=.ok v w'/\(∃ v' G',Ending.returned v=.returned v'/\Ext (zY w) w (Gd.of G) aI w' (Gd.of G') aI/\(∀ b,G' b->b<w'.heap.size)/\VR w' (Gd.of G') aI (aG7 rets y) v') :=
  ⟨hF'.defers,_,hres,_,_,rfl,hext,hlt',VI hd hval⟩
 rcases hex with rfl|rfl
 ·exact hpost
 ·exact hpost
def aMH(e:TypeId)(t:Ty)(H:Heap):List PV->Option (List t.den×Nat×List PV)
 | .own r sz::ps=>match H8 e t (.own r sz) H r with
  | some l=>some (l,r,ps)
  | none=>none
 | _=>none
def Tk.dec:(tk:Tk)->List PV->Heap->Option (tk.den×Nat×List PV)
 | .none,qs,_=>some ((),0,qs)
 | .own e t,qs,H=>aMH e t H qs
theorem XQ(hW:aN n0 G μ H w){e:TypeId}{u:Ty}{qs:List PV}{l:List u.den}{r:Nat}{ps:List PV}(h:aMH e u H qs=some (l,r,ps)):H[r]?=some (some (owB e u l))/\qs=.own r u.size::ps:=by
 unfold aMH at h;split at h
 ·rename_i r1 sz ps1;split at h
  ·rename_i l1 hl1;simp only[oJ,oP]at h;obtain⟨rfl,rfl,rfl⟩:=h;obtain⟨g1,g2⟩:=tC hW hl1;exact⟨g2,by rw[g1]⟩
  ·cases h
 ·cases h
theorem Tk.aX7 (hW:aN n0 G μ H w){tk:Tk}{qs:List PV}{l:tk.den}{r:Nat}{ps:List PV}(h:tk.dec qs H=some (l,r,ps)):aW0 H (tk.ow l r)/\qs=tk.pv r++ps:=by
 cases tk with
 | none =>
  simp only[Tk.dec,oJ,oP]at h;obtain⟨_,_,rfl⟩:=h;exact⟨⟨λ_ _ h=>by cases h⟩,rfl⟩
 | own e u =>
  obtain⟨h1,h2⟩:=XQ hW (h:aMH e u H qs=some (l,r,ps));refine⟨⟨λr' k he=>?_⟩,h2⟩;cases he;exact⟨h1,rfl,rfl,rfl⟩
def arH(ae:TypeId) (t:Ty) (tk:Tk) (args:List Kd) (an:An) (f:tk.den->aK args->List (List t.den)->Option (an.den×List (List t.den))) (qs:List PV) (H:Heap):Option aJ5:=match tk.dec qs H with
 | some (l,r,ps)=>match aW5 ae t H with
  | some (ra,A)=>match aK9 args ps with
   | some x=>bif eB.noRefs ps then some ⟨an.den×List (List t.den),f l x A,λy=>(an.pv y.1 (H.length+1),((RB (tk.ow l r) H).set ra none)++(some (arB ae t y.2)::an.hp y.1))⟩ else none
   | none=>none
  | none=>none
 | none=>none
theorem DA {g:FuncId}{tk:Tk}{args:List Kd}{an:An}{f:tk.den->aK args->List (List t.den)->Option (an.den×List (List t.den))}(hf:LA P g ae t tk args an f) :
  ∀ qs H r,arH ae t tk args an f qs H=some r->∀ y,r.val=some y->∀ {n0 G μ w vs},aN n0 G μ H w->VRs w G μ qs vs->xH P n0 w G μ g vs.toArray (r.out y).1 (r.out y).2:=by
 intro qs H rh h y hy n0 G μ w vs hW hv;unfold arH at h;split at h
 ·rename_i l r ps hl;split at h
  ·rename_i ra A hA;split at h
   ·rename_i x hx;obtain⟨hb,h⟩:=aXL h;simp only[oJ]at h;subst h;obtain⟨ho,rfl⟩:=Tk.aX7 hW hl;have hv':VRs w G μ (tk.pv r++lO args x) vs:=by
     cases tk with
     | none=>exact(IH args hx (dB _ _ hb hv)).aY
     | own e u =>
      change VRs w G μ (.own r u.size::ps) vs at hv;change VRs w G μ (.own r u.size::lO args x) vs;rw[VRs]at hv ⊢;obtain⟨v,us,rfl,q1,q2⟩:=hv;exact⟨v,us,rfl,q1,(IH args hx (dB _ _ hb q2)).aY⟩
    obtain⟨y1,y2⟩:=y;exact hf l x A y1 y2 hy hW (aBI hW hA) ho hv'
   ·cases h
  ·cases h
 ·cases h
end
def forced(ops:Array Oper) (s:Nat):Bool:=(List.range ops.size).all λj=>Nat.blt j s||Nat.beq (Nat.land ((dA ops).getD j 0) (2^j-1)) (2^j-1)
def aIQ(l:List Oper):Bool:=(List.range l.length).all λi=>match l[i]? with
 | some o=>match o.guard with
  | some (g,_)=>Nat.blt g i
  | none=>true
 | none=>true
def aHW(ops:Array Oper)(s:Nat):Bool:=P5 (dA ops) 0 ops.toList&&forced ops s&&aIQ ops.toList&&UY ops&&Nat.ble s ops.size
section
variable {P:Program} {ops:Array Oper} {s:Nat}
theorem aJF(h:forced ops s=true){j b:Nat}(hj:j<ops.size)(hs:s<=j)(hb:b<j):((dA ops).getD j 0).testBit b=true:=by
 have:=List.all_eq_true.1 h j (List.mem_range.2 hj);rw[Bool.or_eq_true]at this;rcases this with h1|h1
 ·have:=fB h1; omega
 ·have h2:=oE h1;have h3:(Nat.land ((dA ops).getD j 0) (2^j-1)).testBit b=(2^j-1).testBit b:=by rw[h2]
  have h4:(2^j-1).testBit b=true:=by rw[Nat.testBit_two_pow_sub_one]; simpa using hb
  rw[h4]at h3;have h5:((dA ops).getD j 0 &&& (2^j-1)).testBit b=true:=h3;rw[Nat.testBit_and,oA]at h5;exact h5.1
theorem ZR(hm:P5 (dA ops) 0 ops.toList=true){i:Nat}{o:Oper}(ho:ops[i]?=some o):(dA ops).getD i 0=UA (dA ops) o.after.toList/\∀ e∈o.after,Region.binds .any e=true->e.on<i:=by
 have:=aEX hm (i:=i) (o:=o) (by simpa using ho);rwa[Nat.zero_add]at this
theorem aGT(hm:P5 (dA ops) 0 ops.toList=true) {listed:Array Bool} (hc:MF (dA ops) (λi=>listed.getD i false)) {i:Nat} (hi:i∈Region.ready .any ops listed) :
  i<ops.size/\listed.getD i true=false/\∀ b,((dA ops).getD i 0).testBit b=true->listed.getD b false=true:=by
 obtain⟨h1,o,ho,h2⟩:=mem_ready.1 hi;refine⟨(Array.getElem?_eq_some_iff.1 ho).1,by simpa using h1,λb hb=>?_⟩;rw[(ZR hm ho).1]at hb;unfold UA at hb;rcases N3 _ _ hb with h3|⟨e,h3,h4,h5⟩
 ·simp at h3
 ·have h6:=h2 e (Array.mem_toList_iff.1 h3) h4;rcases h5 with rfl|h5
  ·exact h6
  ·exact hc e.on h6 b h5
theorem aN3(hm:P5 (dA ops) 0 ops.toList=true):∀ (i b:Nat),i<ops.size->((dA ops).getD i 0).testBit b=true->b<i:=by
 intro i
 induction i using Nat.strongRecOn with
 | _ i ih =>
  intro b hi hb;obtain⟨o,ho⟩:∃ o,ops[i]?=some o:=⟨ops[i],Array.getElem?_eq_getElem hi⟩;have hma:=ZR hm ho;rw[hma.1]at hb;unfold UA at hb;rcases N3 _ _ hb with h3|⟨e,h3,h4,h5⟩
  ·simp at h3
  ·have h6:=hma.2 e (Array.mem_toList_iff.1 h3) h4;rcases h5 with rfl|h5
   ·exact h6
   ·have:=ih e.on h6 b (by omega) h5; omega
variable {ro:Option Nat} {n:Nat} {Q:Exit->Act->World->Prop}
theorem aRP(hm:P5 (dA ops) 0 ops.toList=true) (hf:forced ops s=true):∀ (k j:Nat) (L:Array Bool) (a:Act) (w:World),j+k=ops.size->s<=j->L.size=ops.size->(∀ i,i<ops.size->L.getD i false=decide (i<j)) ->
  wpListIn (Fr ro) n P ops Q (ops.toList.drop j) a w->wpAnyIn (Fr ro) n P .any ops Q k L a w
 | 0,j,L,a,w,hk,hs,hsz,hL,h=>by
  have hd:ops.toList.drop j=[]:=List.drop_of_length_le (by simp; omega);rw[hd]at h;refine⟨?_,h⟩
  by_cases hr:Region.ready .any ops L=[]
  ·exact hr
  ·obtain⟨i,hi⟩:=List.exists_mem_of_ne_nil _ hr;obtain⟨h1,o,ho,_⟩:=mem_ready.1 hi;have hlt:=(Array.getElem?_eq_some_iff.1 ho).1;have h2:=hL i hlt;rw[oT (by omega)]at h2;have h1:L.getD i true=false:=by simpa using h1
   simp only[Array.getD,hsz,hlt,dif_pos]at h1 h2;rw[h1]at h2; cases h2
 | k+1,j,L,a,w,hk,hs,hsz,hL,h=>by
  have hj:j<ops.size:=by omega
  have hcl:MF (dA ops) (λi=>L.getD i false):=by
   intro i hi b hb;replace hi:L.getD i false=true:=hi;have hilt:i<ops.size:=by
    rcases oG i ops.size with h|h
    ·exact h
    ·simp only[Array.getD,hsz,Nat.not_lt.2 h,dif_neg,not_false_iff]at hi; cases hi
   have h1:=hL i hilt;rw[hi]at h1;have h2:=of_decide_eq_true h1.symm;have h3:=aN3 hm i b hilt hb;show L.getD b false=true;rw[hL b (by omega)];exact oT (by omega)
  have hready:∀ i∈Region.ready .any ops L,i=j:=by
   intro i hi;obtain⟨h1,h2,h3⟩:=aGT hm hcl hi;have h4:¬ i<j:=λhij=>by
    have h5:=hL i h1;rw[oT hij]at h5;simp only[Array.getD,hsz,h1,dif_pos]at h2 h5;rw[h2]at h5; cases h5
   rcases oG j i with hji|hji
   ·exfalso;have h5:=h3 j (aJF hf h1 (by omega) hji);rw[hL j hj]at h5;have:=of_decide_eq_true h5;omega
   ·omega
  obtain⟨o,ho⟩:∃ o,ops[j]?=some o:=⟨ops[j],Array.getElem?_eq_getElem hj⟩;have hd:ops.toList.drop j=o::ops.toList.drop (j+1):=by
   rw[List.drop_eq_getElem_cons (by simpa using hj)]
   congr 1
   have:=(Array.getElem?_eq_some_iff.1 ho).2;simpa using this
  rw[hd]at h;unfold wpListIn at h;have ih:∀ a w,wpListIn (Fr ro) n P ops Q (ops.toList.drop (j+1)) a w->wpAnyIn (Fr ro) n P .any ops Q k (L.setIfInBounds j true) a w:=λa w h=>by
   refine aRP hm hf k (j+1) _ a w (by omega) (by omega) (by simpa using hsz) (λi hi=>?_) h
   by_cases hij:j=i
   ·subst hij;rw[oT (by omega)];have hlt:j<L.size:=by omega
    simp[Array.getD,hlt]
   ·rw[getD_set_ne false hij,hL i hi]
    by_cases h2:i<j
    ·rw[oT h2,oT (by omega)]
    ·rw[oF h2,oF (by omega)]
  refine⟨λhr=>?_,λi hi=>?_⟩
  ·exfalso;have:j∈Region.ready .any ops L:=mem_ready.2 ⟨by
    have:=hL j hj;rw[oF (by omega)]at this;have hlt:j<L.size:=by omega
    simpa[Array.getD,hlt]using this,o,ho,λe he hb=>by
     have:=(ZR hm ho).2 e he hb;rw[hL e.on (by omega)];exact oT this⟩
   rw[hr]at this;cases this
  ·have:=hready i hi;subst this;unfold wpOpIn;rw[ho];simp only
   by_cases hw:Region.wanted o (yielded ops a.tmps)=true
   ·rw[if_pos hw]at h ⊢;exact Oper.wpIn_mono ih h
   ·rw[if_neg hw]at h ⊢;exact⟨h.1,ih _ _ h.2⟩
theorem aUT {o:Oper}{y y':Nat->Option Bool}(h:∀ g b,o.guard=some (g,b)->y g=y' g):Region.wanted o y=Region.wanted o y':=by
 unfold Region.wanted;cases hg:o.guard with
 | none=>rfl
 | some p =>
  obtain⟨g,b⟩:=p;simp only[h g b hg]
theorem aPR {l:List Oper}(h:aIQ l=true){i:Nat}{o:Oper}(ho:l[i]?=some o){g:Nat}{b:Bool}(hg:o.guard=some (g,b)):g<i:=by
 have:=List.all_eq_true.1 h i (List.mem_range.2 (oO.1 ho).1);rw[ho]at this;simp only[hg]at this;exact fB this
theorem aZM {ds:List Deferred} {Q1:Exit->Act->World->Prop} (hm:P5 (dA ops) 0 ops.toList=true) (hf:forced ops s=true) (hg:aIQ ops.toList=true) (hnd:UY ops=true) (hs:s<=ops.size)
  (hno:∀ e a w,Q1 e a w->e=.normal) (hQ:∀ a w,Q1 .normal a w->wpListIn (Fr ro) n P ops Q (ops.toList.drop s) (xZ ds a) w) :
  ∀ (k:Nat) (L1 L:Array Bool) (a:Act) (w:World),L1.size=s->L.size=ops.size->(∀ i,i<s->L1.getD i false=L.getD i false)->(∀ i,s<=i->L.getD i false=false)->MF (dA ops) (λi=>L.getD i false)->(List.range s).countP (λi=>!L.getD i false)=k ->
   wpAny P .any (ops.toList.take s).toArray Q1 k L1 a w->wpAnyIn (Fr ro) n P .any ops Q (k+(ops.size-s)) L (xZ ds a) w
 | 0,L1,L,a,w,h1,h2,h3,h4,hc,hk,h=>by
  rw[Nat.zero_add];refine aRP hm hf (ops.size-s) s L _ w (by omega) (oM _) h2 (λi hi=>?_) (hQ a w h.2)
  by_cases his:i<s
  ·rw[oT his];rw[List.countP_eq_zero]at hk;have:=hk i (List.mem_range.2 his);simpa using this
  ·rw[oF his,h4 i (by omega)]
 | k+1,L1,L,a,w,h1,h2,h3,h4,hc,hk,h=>by
  have hun:∃ i,i<s/\L.getD i false=false:=by
   have:0<(List.range s).countP (λi=>!L.getD i false):=by omega
   obtain⟨i,hi,hp⟩:=List.countP_pos_iff.1 this;exact⟨i,List.mem_range.1 hi,by simpa using hp⟩
  obtain⟨i0,hi0,hu0⟩:=hun;rw[show k+1+(ops.size-s)=(k+(ops.size-s))+1 by omega];refine⟨λhr=>?_,λi hi=>?_⟩
  ·exfalso;have all:∀ i,i<ops.size->L.getD i false=true:=by
    intro i
    induction i using Nat.strongRecOn with
    | _ i ih =>
     intro hi;cases hli:L.getD i false with
     | true=>rfl
     | false =>
      obtain⟨o,ho⟩:∃ o,ops[i]?=some o:=⟨ops[i],Array.getElem?_eq_getElem hi⟩;have:i∈Region.ready .any ops L:=mem_ready.2 ⟨by
       have hlt:i<L.size:=by omega
       simpa[Array.getD,hlt]using hli,o,ho,λe he hb=>ih e.on ((ZR hm ho).2 e he hb) (by have:=(ZR hm ho).2 e he hb; omega)⟩
      rw[hr]at this;cases this
   rw[all i0 (by omega)]at hu0;cases hu0
  ·obtain⟨hi1,hi2,hi3⟩:=aGT hm hc hi;have his:i<s:=by
    rcases oG i s with h|h
    ·exact h
    ·have:=hi3 i0 (aJF hf hi1 h (by omega));rw[hu0]at this; cases this
   obtain⟨_,o,ho,hdeps⟩:=mem_ready.1 hi;have hLi:L.getD i false=false:=by
    have hlt:i<L.size:=by omega
    simp only[Array.getD,hlt,dif_pos]at hi2 ⊢;exact hi2
   have hpre:∀ j,j<s->(ops.toList.take s).toArray[j]?=ops[j]?:=by
    intro j hj;simp only[List.getElem?_toArray,List.getElem?_take,hj,if_true,Array.getElem?_toList]
   have hready:i∈Region.ready .any (ops.toList.take s).toArray L1:=mem_ready.2 ⟨by
    have:=h3 i his;rw[hLi]at this;have hlt:i<L1.size:=by omega
    simpa[Array.getD,hlt]using this,o,by rw[hpre i his]; exact ho,λe he hb=>by
     have h5:=(ZR hm ho).2 e he hb;rw[h3 e.on (by omega)];exact hdeps e he hb⟩
   have hop:=h.2 i hready;have hw:Region.wanted o (yielded (ops.toList.take s).toArray a.tmps)=Region.wanted o (yielded ops (xZ ds a).tmps):=aUT λg b hgu=>by
    have hgi:=aPR hg (i:=i) (o:=o) (by simpa using ho) hgu;unfold yielded;rw[hpre g (by omega)];rfl
   have hset:∀ a w,wpAny P .any (ops.toList.take s).toArray Q1 k (L1.setIfInBounds i true) a w->wpAnyIn (Fr ro) n P .any ops Q (k+(ops.size-s)) (L.setIfInBounds i true) (xZ ds a) w:=by
    intro a w h;have hLs:∀ j,j≠i->(L.setIfInBounds i true).getD j false=L.getD j false:=λj hj=>getD_set_ne false (λe=>hj e.symm)
    have hL1s:∀ j,j≠i->(L1.setIfInBounds i true).getD j false=L1.getD j false:=λj hj=>getD_set_ne false (λe=>hj e.symm)
    have hSi:(L.setIfInBounds i true).getD i false=true:=by
     have hlt:i<L.size:=by omega
     simp[Array.getD,hlt]
    have hS1i:(L1.setIfInBounds i true).getD i false=true:=by
     have hlt:i<L1.size:=by omega
     simp[Array.getD,hlt]
    refine aZM hm hf hg hnd hs hno hQ k _ _ a w (by simpa using h1) (by simpa using h2) ?_ ?_ ?_ ?_ h
    ·intro j hj
     by_cases hji:j=i
     ·subst hji; rw[hSi,hS1i]
     ·rw[hLs j hji,hL1s j hji,h3 j hj]
    ·intro j hj;rw[hLs j (by omega)]; exact h4 j hj
    ·intro j hj b hb;show (L.setIfInBounds i true).getD b false=true
     by_cases hbi:b=i
     ·subst hbi; exact hSi
     ·rw[hLs b hbi]
      by_cases hji:j=i
      ·subst hji; exact hi3 b hb
      ·have hj':L.getD j false=true:=by rw[<- hLs j hji]; exact hj
       exact hc j hj' b hb
    ·have:=aEU (p:=λi=>!L.getD i false) (p':=λj=>!(L.setIfInBounds i true).getD j false) (i:=i) (by simp only[hLi,Bool.not_false]) (by simp only[hSi,Bool.not_true]) (λj hj=>by simp only[hLs j hj]) s his;omega
   unfold wpOp at hop;rw[hpre i his,ho]at hop;simp only at hop;unfold wpOpIn;rw[ho];simp only;rw[hw]at hop
   by_cases hww:Region.wanted o (yielded ops (xZ ds a).tmps)=true
   ·rw[if_pos hww]at hop ⊢;rcases hop with hop|⟨_,a0,w0,h0⟩
    ·exact aP0 (RO hnd (by rw[<- Array.getElem?_toList]at ho; exact List.mem_of_getElem? ho)) hset (λch a w h=>by cases hno _ a w h) (λa w h=>by cases hno _ a w h) hop
    ·cases hno _ a0 w0 h0
   ·rw[if_neg hww]at hop ⊢;refine⟨λ_ _=>trivial,?_⟩;rw[OW];exact hset _ _ hop
theorem zX {F:Fence}{Q1:Exit->Act->World->Prop}{l2:List Oper}(hno:∀ e a w,Q1 e a w->e=.normal)(hQ:∀ a w,Q1 .normal a w->wpListIn F n P ops Q l2 a w):∀ {l1:List Oper} {a w},wpListIn F n P ops Q1 l1 a w->wpListIn F n P ops Q (l1++l2) a w
 | [],a,w,h=>hQ a w h
 | o::l1,a,w,h=>by
  rw[List.cons_append];unfold wpListIn at h ⊢;split at h
  ·rename_i hw;rw[if_pos hw];refine⟨h.1,?_⟩;have h2:=h.2;generalize (o.semAt F.round a.eval).run P w=r at h2 ⊢;cases r with
   | ok x w' =>
    cases x with
    | value v=>exact zX hno hQ h2
    | skip=>exact zX hno hQ h2
    | defer d=>exact zX hno hQ h2
    | enter f args =>
     refine⟨h2.1,CallsIn.mono h2.2 ?_⟩;rintro e w'' he;cases e with
     | returned v=>exact zX hno hQ he
     | panicked ch=>cases hno _ _ _ he
     | outgrown=>obtain⟨a0,w0,h0⟩:=he; cases hno _ _ _ h0
    | row row args=>exact⟨h2.1,RowsIn.mono h2.2 λv w'' he=>zX hno hQ he⟩
    | round l f t as1 b =>
     refine⟨h2.1,RoundIn.mono h2.2 ?_⟩;rintro e w'' he;cases e with
     | returned v=>exact zX hno hQ he
     | panicked ch=>cases hno _ _ _ he
     | outgrown=>obtain⟨a0,w0,h0⟩:=he; cases hno _ _ _ h0
    | _=>exact h2.elim
   | halt x w' =>
    cases x <;> first|(cases hno _ _ _ h2; done)|exact h2.elim
  ·rename_i hw;rw[if_neg hw];exact⟨h.1,zX hno hQ h.2⟩
end
section
variable {P:Program} {E:Env} {nt:Nat} {F F':Frm} {H H':Heap} {ops:Array Oper} {s:Nat}
theorem aOV(hcl:dF P (eT P E)) (hP:P.follows .mixedOrders=true) {id:Nat} {draw:Bool} (hsp:aHW ops s=true)
  (hrun:(bif draw then WB P (eT P E) nt (ops.toList.take s).toArray F H else SS P (eT P E) nt ops.toList (ops.toList.take s) F H)=some (F',H'))
  {ro:Option Nat} {n:Nat} {n0:Nat->Prop} {wi:World} {Gi:Gd} {μi:Mp} {a:Act} {w:World} {ds:List Deferred} {Q:Exit->Act->World->Prop} (hI:I n0 wi Gi μi nt F H a w)
  (hQ:∀ a' w',I n0 wi Gi μi nt F' H' a' w'->wpListIn (Fr ro) n P ops Q (ops.toList.drop s) (xZ ds a') w'):(Code.region id ops draw).wpIn (Fr ro) n P Q (xZ ds a) w:=by
 simp only[aHW,oA]at hsp;obtain⟨⟨⟨⟨hm,hf⟩,hg⟩,hnd⟩,hs⟩:=hsp;have hs:=oL hs;cases draw with
 | true =>
  simp only[oC]at hrun;have h1:=YY (Q:=λe a' w'=>e=.normal/\I n0 wi Gi μi nt F' H' a' w') hcl hrun hI (λa' w' h=>⟨rfl,h⟩);refine wpIn_region_any hP ?_;have hsz:(ops.toList.take s).toArray.size=s:=by simp[List.length_take]; omega
  rw[hsz]at h1;have hfalse:∀ m j,(Array.replicate m false).getD j false=false:=λm j=>by
   simp only[Array.getD];split <;> simp
  have:=aZM (n:=n) (ro:=ro) (ds:=ds) (Q:=Q) hm hf hg hnd hs (λe a w h=>h.1) (λa w h=>hQ a w h.2) s (Array.replicate s false) (Array.replicate ops.size false) a _ (by simp) (by simp) (λi _=>by rw[hfalse,hfalse]) (λi _=>hfalse _ i) (λj hj b hb=>by
   have:(Array.replicate ops.size false).getD j false=true:=hj;rw[hfalse]at this; cases this) (by
   rw[List.countP_eq_length.2]
   ·simp
   ·intro i _;rw[hfalse]; rfl) h1
  rwa[show s+(ops.size-s)=ops.size by omega]at this
 | false =>
  simp only[oD]at hrun;refine wpIn_region_list ?_;rw[<- List.take_append_drop s ops.toList];have h1:=A9 (Q:=λe a' w'=>e=.normal/\I n0 wi Gi μi nt F' H' a' w') hcl (ops.toList.take s) F H a w hrun hI (λa' w' h=>⟨rfl,h⟩);have h2:=aC9 (ro:=ro) (n:=n) (ds:=ds) (Q':=λe a' w'=>e=.normal/\wpListIn (Fr ro) n P ops Q (ops.toList.drop s) a' w') (λa w h=>by cases h.1) (λe a w h=>⟨h.1,hQ a w h.2⟩) (λo ho=>RO hnd (List.mem_of_mem_take ho)) h1
  exact zX (λe a w h=>h.1) (λa w h=>h.2) h2
end
def Sg(Φ:(Nat->Prop)->(Nat->Prop)->World->Prop) (G0 G:Gd) (μ:Mp) (H:Heap) (A:World):Prop :=
 ∃ (T X:Nat->Prop) (B:World) (GB:Gd) (μB:Mp),Φ T X B/\(∀ b,X b->T b)/\(∀ b,T b->b<B.heap.size)/\(∀ b,GB b->G0 b\/T b)/\(∀ b,G0 b->GB b) /\
  Ext (λb=>X b\/B.heap.size<=b) B GB μB A G μ/\aN (λb=>X b\/B.heap.size<=b) G μ H A
def aQU(sl:List Nat) (F:Frm):Frm:=sl.map λt=>(t,cV F t)
section
variable {P:Program} {Φ:(Nat->Prop)->(Nat->Prop)->World->Prop} {G0 G G':Gd} {μ μ':Mp} {H H':Heap} {A A' W:World} {F F':Frm} {nt n:Nat} {a:Act}
theorem Sg.start {J:(Nat->Prop)->(Nat->Prop)->World->Prop}{g0:Nat->Prop}(hlt:Lt W g0)(h:J (λ_=>False) (λ_=>False) W):Sg J (Gd.of g0) (Gd.of g0) aI [] W :=
 ⟨_,_,W,Gd.of g0,aI,h,λb h=>h,λb h=>h.elim,λb h=>.inl h,λb h=>h,Ext.refl _ _ _ _,λr k b h=>by simp at h,λr k g h=>by simp at h,λr s k l b h=>by simp at h,hlt,λ_ _=>⟨rfl,rfl⟩,λb hb=>.inr hb,sY.none _ _ (λ_=>rfl) _ _ (λr k h=>by simp at h)⟩
theorem Sg.open_ (h:Sg Φ G0 G μ H A):∃ n0,aN n0 G μ H A/\(∀ b,G0 b->G b)/\∀ A' G' μ' H',Ext n0 A G μ A' G' μ'->aN n0 G' μ' H' A'->Sg Φ G0 G' μ' H' A':=by
 obtain⟨T,X,B,GB,μB,h1,h2,h3,h4,h5,h6,h7⟩:=h;exact⟨_,h7,λb hb=>(h6.good b (h5 b hb)).1,λA' G' μ' H' e w=>⟨T,X,B,GB,μB,h1,h2,h3,h4,h5,h6.trans e,w⟩⟩
theorem Sg.stp (h:Sg Φ G0 G μ H A):∃ T X B,Stp X B A/\Φ T X B:=by
 obtain⟨T,X,B,GB,μB,h1,h2,h3,h4,h5,h6,h7⟩:=h;exact⟨T,X,B,⟨λb hb hx=>h6.old b hb (by rintro(h|h); exact hx h; omega),h6.room,h6.os,h6.tape,h6.output,h6.size⟩,h1⟩
theorem aMG(t:Nat):∀ sl:List Nat,cV (aQU sl F) t=cV F t\/cV (aQU sl F) t=.junk
 | []=>.inr rfl
 | s::sl=>by
  show cV ((s,cV F s)::aQU sl F) t=cV F t\/cV ((s,cV F s)::aQU sl F) t=.junk;rw[dJ]
  by_cases hs:t=s
  ·subst hs; rw[if_pos rfl]; exact .inl rfl
  ·rw[if_neg hs]; exact aMG t sl
theorem fQ.pick (h:fQ A G μ nt F a)(sl:List Nat):fQ A G μ nt (aQU sl F) a:=⟨h.size,λt=>by
 rcases aMG (F:=F) t sl with h1|h1
 ·rw[h1]; exact h.slot t
 ·rw[h1,VR]; trivial,h.defers⟩
theorem Sg.yield {ks:List Kd} {l:Nat} {all:List (aK ks)} {J Jx:List (aK ks)->(Nat->Prop)->(Nat->Prop)->World->Prop}
  (hY:∀ pre e post T X B T' X' A us Gx m',all=pre++e::post->J pre T X B->Stp X B A->(∀ b,T' b->(T b\/B.heap.size<=b)/\b<A.heap.size)->(∀ b,X' b->T' b/\(X b\/B.heap.size<=b)) ->
   (∀ b,Gx b->(G0 b\/T' b)/\¬ X' b)->VRs A (Gd.of Gx) aI (lO ks e) us ->
   YieldAt Fence.wide m' P l us.toArray A λen C =>
    ((∀ b,b<A.heap.size->G0 b\/T' b->C.heap[b]?=A.heap[b]?)/\(∀ b n,Room A b n->Room C b n)/\A.heap.size<=C.heap.size)/\((en=.returned (.bool true)/\J (pre++[e]) T' X' C)\/(en=.returned (.bool false)/\Jx (pre++[e]) T' X' C)))
  {pre post:List (aK ks)} {e:aK ks} (hall:all=pre++e::post) {us:List Value} (h:Sg (J pre) G0 G μ H A) (hus:VRs A G aI (lO ks e) us) (hpl:eZ.noRows (lO ks e)=true) (m':Nat) :
  YieldAt Fence.wide m' P l us.toArray A λen C=>Mono A G μ C G μ/\((en=.returned (.bool true)/\Sg (J (pre++[e])) G0 G μ H C)\/(en=.returned (.bool false)/\Sg (Jx (pre++[e])) G0 G μ H C)):=by
 obtain⟨T,X,B,GB,μB,h1,h2,h3,h4,h5,h6,h7⟩:=h;obtain⟨T',hT'⟩:∃ T':Nat->Prop,T'=λb=>T b\/(B.heap.size<=b/\b<A.heap.size):=⟨_,rfl⟩
 obtain⟨X',hX'⟩:∃ X':Nat->Prop,X'=λb=>(∃ r k,H[r]?=some (some k)/\k.frozen=false/\μ.loc r=some b)\/∃ j,G.row j=some b:=⟨_,rfl⟩
 have hGT:∀ b,G b->G0 b\/T' b:=by
  intro b hb;have hlt:=h7.lt b hb;rw[hT'];rcases h6.new b hb with h|h|h
  ·exact(h4 b h).imp id .inl
  ·exact .inr (.inl (h2 b h))
  ·exact .inr (.inr ⟨h,hlt⟩)
 have hXT:∀ b,X' b->T' b/\(X b\/B.heap.size<=b)/\¬ G b:=by
  intro b hb;rw[hX']at hb;rcases hb with ⟨r,k,g1,g2,g3⟩|⟨j,hj⟩
  case inr =>
   obtain⟨s1,s2,s3,_⟩:=h7.rows.sep j b hj;rw[hT'];rcases s2 with h|h
   ·exact⟨.inl (h2 b h),.inl h,s3⟩
   ·exact⟨.inr ⟨h,s1⟩,.inr h,s3⟩
  obtain⟨c,q1,_,_,_,q5⟩:=h7.blk r k b g1 g3;have hlt:=h7.nB g1 g3;rw[hT'];rcases(q5 g2).1 with h|h
  ·exact⟨.inl (h2 b h),.inl h,(q5 g2).2⟩
  ·exact⟨.inr ⟨h,hlt⟩,.inr h,(q5 g2).2⟩
 have hst:Stp X B A:=⟨λb hb hx=>h6.old b hb (by rintro(h|h); exact hx h; omega),h6.room,h6.os,h6.tape,h6.output,h6.size⟩;obtain⟨fn,tmps,as1,body,y1,y2⟩:=hY pre e post T X B T' X' A us G.ok m' hall h1 hst (λb hb=>by
  rw[hT']at hb;rcases hb with hb|hb
  ·exact⟨.inl hb,Nat.lt_of_lt_of_le (h3 b hb) h6.size⟩
  ·exact⟨.inr hb.1,hb.2⟩) (λb hb=>⟨(hXT b hb).1,(hXT b hb).2.1⟩) (λb hb=>⟨hGT b hb,λhx=>(hXT b hx).2.2 hb⟩) (vS (G:=G) (G':=Gd.of G.ok) (λb h=>h) _ _ _ hpl hus)
 refine⟨fn,tmps,as1,body,y1,y2.mono ?_⟩;rintro en C ⟨⟨k1,k2,k3⟩,hout⟩;have hgood:∀ b,G b->C.heap[b]?=A.heap[b]?:=λb hb=>k1 b (h7.lt b hb) (hGT b hb)
 have hmono:Mono A G μ C G μ:=⟨λb hb=>⟨hb,hgood b hb⟩,λ_ _ h=>h,λ_ _ h=>h,k2,λ_ _ h=>h⟩;have hTs:∀ b,T' b->b<C.heap.size:=by
  intro b hb;rw[hT']at hb;rcases hb with hb|hb
  ·have:=h3 b hb; have:=h6.size; omega
  ·omega
 have hwinv:aN (λb=>X' b\/C.heap.size<=b) G μ H C:=by
  refine⟨?_,h7.tags,h7.inj,h7.lt.step (λb hb=>⟨hb,hgood b hb⟩) λb hb=>Nat.lt_of_lt_of_le (h7.lt b hb) k3,h7.top,λb hb=>.inr hb,(h7.rows.aDJ (n1:=λb=>X' b\/C.heap.size<=b) λj b hj _=>.inl (by rw[hX']; exact .inr ⟨j,hj⟩)).step hmono.aI k3 (λ_=>rfl) (λj b hj=>⟨?_,id,λr k h1 h2 h3=>⟨r,k,h1,h2,h3⟩⟩) (λr k _ _ h1 _ _=>⟨k,h1,rfl,rfl,rfl,rfl⟩)⟩
  case refine_2 =>
   exact k1 b (h7.rows.sep j b hj).1 (.inr (hXT b (by rw[hX']; exact .inr ⟨j,hj⟩)).1)
  intro r k b hr hb;obtain⟨c,q1,q2,q3,q4,q5⟩:=h7.blk r k b hr hb;have hx:k.frozen=false->X' b:=λhf=>by rw[hX']; exact .inl ⟨r,k,hr,hf,hb⟩
  have heq:C.heap[b]?=A.heap[b]?:=by
   cases hf:k.frozen with
   | true=>exact hgood b (q4 hf)
   | false=>exact k1 b (h7.nB hr hb) (.inr (hXT b (hx hf)).1)
  exact⟨c,heq.trans q1,aL.mono hmono heq 0 _ q2,q3,q4,λhf=>⟨.inl (hx hf),(q5 hf).2⟩⟩
 have key:∀ {Ψ:(Nat->Prop)->(Nat->Prop)->World->Prop},Ψ T' X' C->Sg Ψ G0 G μ H C:=λhψ =>
  ⟨T',X',C,G,μ,hψ,λb hb=>(hXT b hb).1,hTs,hGT,λb hb=>(h6.good b (h5 b hb)).1,Ext.refl _ _ _ _,hwinv⟩
 refine⟨hmono,?_⟩;rcases hout with ⟨rfl,hj⟩|⟨rfl,hj⟩
 ·exact .inl ⟨rfl,key hj⟩
 ·exact .inr ⟨rfl,key hj⟩
variable {ops:Array Oper} {Q:Exit->Act->World->Prop}
theorem a1X {o:Oper} {c:Call} {f:Operand} {rest:List Oper} {l:Nat} {us:Array Value} {R:Ending->World->Prop} (ho:o.op=.call c) (hc:c.callee=.value f) (hw:Region.wanted o (yielded ops a.tmps)=true) (hf:a.eval f=.func (.yield l) #[] #[]) (hargs:c.args.map a.eval=us)
  (hy:∀ m',YieldAt Fence.wide m' P l us A R) (hR:∀ en C,R en C->∃ v,en=.returned v/\wpListIn Fence.wide n P ops Q rest (a.put o.dst v) C):wpListIn Fence.wide n P ops Q (o::rest) a A:=by
 obtain⟨fn,tmps,as1,body,y1,y2⟩:=hy (n-1);unfold wpListIn;rw[if_pos hw];refine⟨λ_ _=>trivial,?_⟩;have hd:∀ c',o.op≠.defer c':=λc' h=>by rw[ho]at h; cases h
 have hs:(o.semAt none a.eval).run P A=.ok (.round l fn tmps as1 body) A:=by
  rw[Oper.semAt_none];simp[execOp,ho,resolve,hc,hf,hargs,Deferred.ofValue,Sem.run_bind,Sem.run_pure,Result.andThen_ok,invoke,y1]
 show Oper.uponIn Fence.wide n P o a _ Q ((o.semAt none a.eval).run P A);rw[hs];refine⟨λh=>(by cases h),y2.mono ?_⟩;rintro e C he;obtain⟨v,rfl,h⟩:=hR e C he;exact h
theorem a2I {o:Oper} {rest:List Oper} (hw:Region.wanted o (yielded ops a.tmps)=false) (h:wpListIn Fence.wide n P ops Q rest (a.put o.dst undef) A):wpListIn Fence.wide n P ops Q (o::rest) a A:=by
 unfold wpListIn;rw[if_neg (by rw[hw]; decide)];exact⟨λ_ _=>trivial,h⟩
end
end Go.PM
