/- Texts of one proof, joined (4). -/
import Derived.Scope
import Derived.ProofKit
import Derived.Lib.SmallJoins
import Derived.Test.YtmghkhgpkefgeaaGreatDoorRows
import Derived.LaidMore
import Derived.OpenShut
import Derived.Lib.LaidU8
import Derived.MakeChecks
import Derived.Test.YtmghkhgpkefgeaaGreatDoorProg
import Derived.KernelRfl
import Derived.Test.YtmghkhgpkefgeaaGreatDoorQP3
set_option linter.unusedSimpArgs false
set_option linter.unusedVariables false
set_option maxRecDepth 100000
noncomputable section
namespace Go.PM
open Go Go.RowKit
inductive Ex where
 | normal
 | exit (id:Nat)
 | ret
def Ex.to:Ex->Exit
 | .normal=>.normal
 | .exit id=>.exit id
 | .ret=>.ret
structure Cfg where
 nt:Nat
 bZ:Nat
 slots:List Nat
 loops:List (Nat×bFO)
 floor:Nat
def b8:Code->Nat
 | .region id _ _=>id
 | .seq a _=>b8 a
 | .block _ a=>b8 a
 | .loop a=>b8 a
 | .scope a=>b8 a
 | .cond _ a _=>b8 a
 | _=>0
abbrev Out:=Option (Ex×Frm×Heap)
def iter(f:Frm->Heap->Out):Nat->Frm->Heap->Out
 | 0,_,_=>none
 | n+1,F,H=>match f F H with
  | some (.normal,F',H')=>iter f n F' H'
  | r=>r
section
variable {P:Program} {cl:Callee} {cfg:Cfg} {L:Nat} {n0:Nat->Prop} {wi:World} {Gi:Gd} {μi:Mp}
theorem I.bC3 {nt F F' H a w}(h:I n0 wi Gi μi nt F H a w)(hF:∀ t,dX F' t=dX F t\/dX F' t=.junk):I n0 wi Gi μi nt F' H a w:=by
 obtain⟨G,μ,e,hW,hI⟩:=h;refine⟨G,μ,e,hW,hI.size,λt=>?_,hI.defers⟩;rcases hF t with h1|h1
 ·rw[h1]; exact hI.slot t
 ·rw[h1,VR]; simp
def bGT(P:Program) (n0:Nat->Prop) (wi:World) (Gi:Gd) (μi:Mp) (nt:Nat) (c:Code) (a:Act) (w:World) (r:Ex×Frm×Heap):Prop :=
 c.wp P (λe a' w'=>e=r.1.to/\I n0 wi Gi μi nt r.2.1 r.2.2 a' w') a w
end
def aOS(P:Program) (F:Frm) (H:Heap):ResultVar->Option PV
 | .tmp t=>some (dX F t)
 | .cell t ty=>match aB8 P H ty (dX F t)with|some (v,_)=>some v|none=>none
def A7(P:Program)(F:Frm)(H:Heap):List ResultVar->Option (List PV)
 | []=>some []
 | r::rs=>match aOS P F H r,A7 P F H rs with
  | some v,some vs=>some (v::vs)
  | _,_=>none
def qP:List PV->PV
 | [v]=>v
 | vs=>.tuple vs
def start(m:Nat):Nat->List PV->Frm
 | _,[]=>[]
 | i,p::ps=>bif aMV m i then (i,p)::start m (i+1) ps else start m (i+1) ps
section
variable {P:Program} {cl:Callee} {cfg:Cfg} {L:Nat} {n0:Nat->Prop} {w:World} {G:Gd} {μ:Mp} {H:Heap}
theorem aRU m:∀ ps i t,dX (start m i ps) t=if i<=t/\aMV m t=true then (ps[t-i]?).getD .junk else .junk
 | [],i,t=>by simp[start,dX]
 | p::ps,i,t=>by
  simp only[start];have ih:=aRU m ps (i+1) t;cases hi:aMV m i with
  | true =>
   rw[oC,jF,ih];grind
  | false =>
   grind
theorem HV {args vs n m}(h:VRs w G μ args vs.toList)(hn:args.length<=n):iV w G μ n (start m 0 args) ⟨vs++Array.replicate (n-vs.size) undef,[]⟩ where
 size:=by
  have :=by simpa using h.length
  grind
 slot t:=by
  rw[aRU]
  by_cases hb:aMV m t=true
  case neg=>rw[if_neg (λh=>hb h.2),VR]; trivial
  rw[if_pos ⟨Nat.zero_le _,hb⟩,Nat.sub_zero];cases ht:args[t]? with
  | none=>simp only[Option.getD_none]; rw[VR]; trivial
  | some p =>
   obtain⟨v,h1,h2⟩:=h.get ht;have hv :=by simpa using h1
   have hlt :=(Array.getElem?_eq_some_iff.1 hv).1;have:(vs++Array.replicate (n-vs.size) undef).getD t undef=v:=by rw[Array.getD_eq_getD_getElem?,Array.getElem?_append_left hlt,hv]; rfl
   grind
 defers:=rfl
def aXJ(tmps:Array Value):ResultVar->Sem Value
 | .tmp t=>pure (tmps.getD t undef)
 | .cell b t=>do loadVar t (<- asAddr (tmps.getD b undef))
theorem LV fn tmps:results fn tmps=(do let vs <- fn.results.mapM (aXJ tmps); pure (if h:vs.size=1 then vs[0] else .tuple vs)):=by rfl
theorem yJ {nt F a}(hW:aR n0 G μ H w)(hF:iV w G μ nt F a):∀ {rs vs},A7 P F H rs=some vs->∃ us ,(rs.mapM (aXJ a.tmps)).run P w=.ok us w/\VRs w G μ vs us
 | [],vs,h=>by
  simp only[A7,oJ]at h;subst h;exact⟨[],rfl,by rw[VRs]⟩
 | r::rs,vs,h=>by
  simp only[A7]at h;split at h
  next v vs' hv hvs=>
   simp only[oJ]at h;subst h;obtain⟨us,h1,h2⟩:=yJ hW hF hvs;cases r with
   | tmp t =>
    simp only[aOS,oJ]at hv;subst hv;refine⟨a.tmps.getD t undef::us,?_,by rw[VRs]; exact⟨_,_,rfl,hF.slot t,h2⟩⟩;rw[List.mapM_cons];simp only[aXJ,Sem.run_bind,Sem.run_pure,Result.andThen_ok,h1]
   | cell b t =>
    simp only[aOS]at hv;split at hv
    ·rename_i u c hu;simp only[oJ]at hv;subst hv;obtain⟨v',h3,h4⟩:=aNP (P:=P) hW (hF.slot b) hu;refine⟨v'::us,?_,by rw[VRs]; exact⟨_,_,rfl,h4,h2⟩⟩;have h5:(do loadVar t (<- asAddr (a.tmps.getD b undef)):Sem Value).run P w=.ok v' w:=by
      simp only[Instr.loadAt]at h3;cases hp:a.tmps.getD b undef <;> rw[hp]at h3 <;> simp[Instr.sureAddr]at h3
      rename_i ad;cases ad with
      | none=>simp[Instr.sureAddr]at h3
      | some ad=>simpa[asAddr,Instr.sureAddr]using h3
     rw[List.mapM_cons];simp only[aXJ,Sem.run_bind]at h5 ⊢
     simp_all
    ·cases hv
  ·cases h
theorem BA {vs us}(h:VRs w G μ vs us):VR w G μ (qP vs) (if hh:us.toArray.size=1 then us.toArray[0] else .tuple us.toArray):=by
 match vs,us,h with
 | [v],us,h =>
  obtain⟨x,xs,rfl,h1,h2⟩:=h;subst h2;simpa[qP]using h1
 | [],us,h =>
  subst h;exact⟨_,by simp; rfl,by simp[VRs]⟩
 | v::v2::vs,us,h =>
  have hl:=h.length;simp only[List.length_cons]at hl;have:¬ us.toArray.size=1:=by simp; omega
  rw[dif_neg this];exact⟨_,rfl,by omega⟩
end
def aBH(f:PV->Option PV):List PV->Option (List PV)
 | []=>some []
 | p::ps=>match f p with
  | some q=>match aBH f ps with
   | some qs=>some (q::qs)
   | none=>none
  | none=>none
def inl(fz:Bool) (H:Heap):Nat->PV->Option PV
 | _,.lit v=>some (.lit v)
 | _,.vals cs n cap=>some (.vals cs n cap)
 | _,.iptr cs=>some (.iptr cs)
 | _,.tl t l cap e=>some (.tl t l cap e)
 | _,.tp t l i off e=>some (.tp t l i off e)
 | _,.row j lo n sz=>some (.row j lo n sz)
 | _,.own r _=>match kK H r with
  | some k=>match k.tag with
   | some g=>bif k.frozen||!fz then some (UK g.t g.l none) else none
   | none=>none
  | none=>none
 | _,.win r lo n sz=>match kK H r with
  | some k=>match k.tag with
   | some g=>bif (k.frozen||!fz)&&Nat.beq sz g.t.size then some (UK g.t ((g.l.drop lo).take n) none) else none
   | none=>none
  | none=>none
 | n+1,.hs r off len _ sz=>match kK H r with
  | some k=>bif (k.frozen||!fz)&&Nat.ble (off+len*sz) k.cells.length then match aBH (λp=>inl fz H n p) ((k.cells.drop off).take (len*sz))with
    | some cs=>some (.vals cs len none)
    | none=>none
   else none
  | none=>none
 | n+1,.hptr r off=>match kK H r with
  | some k=>bif k.frozen||!fz then match aBH (λp=>inl fz H n p) (k.cells.drop off)with
    | some cs=>some (.iptr cs)
    | none=>none
   else none
  | none=>none
 | n+1,.agg cs=>match aBH (λp=>inl fz H n p) cs with|some qs=>some (.agg qs)|none=>none
 | n+1,.tuple cs=>match aBH (λp=>inl fz H n p) cs with|some qs=>some (.tuple qs)|none=>none
 | n+1,.clo fn f c=>match aBH (λp=>inl fz H n p) f,aBH (λp=>inl fz H n p) c with
  | some f',some c'=>some (.clo fn f' c')
  | _,_=>none
 | _,_=>none
section
variable {P:Program} {n0:Nat->Prop} {w:World} {G G':Gd} {μ:Mp} {H:Heap}
theorem VO {f}(hf:∀ p q v,f p=some q->VR w G μ p v->VR w G' aJ q v):∀ {ps qs vs},aBH f ps=some qs->VRs w G μ ps vs->VRs w G' aJ qs vs
 | [],qs,vs,h,hv=>by
  simp only[aBH,oJ]at h;subst h;exact hv
 | p::ps,qs,vs,h,hv=>by
  simp only[aBH]at h;split at h
  next q hq=>
   split at h
   next qs' hqs=>simp only[oJ]at h;subst h;obtain⟨x,xs,h1,h2,h3⟩:=hv;exact⟨x,xs,h1,hf p q x hq h2,VO hf hqs h3⟩
   grind
  grind
theorem aIK {f}(hf:∀ p q v,f p=some q->VR w G μ p v->VR w G' aJ q v){b}:∀ {ps qs off},aBH f ps=some qs->aM w G μ b off ps->aM w G' aJ b off qs
 | [],qs,off,h,hv=>by
  simp only[aBH,oJ]at h;subst h;trivial
 | p::ps,qs,off,h,hv=>by
  simp only[aBH]at h;split at h
  next q hq=>
   split at h
   next qs' hqs=>simp only[oJ]at h;subst h;obtain⟨⟨v,h1,h2⟩,h3⟩:=hv;exact⟨⟨v,h1,hf p q v hq h2⟩,aIK hf hqs h3⟩
   grind
  grind
theorem L9(hW:aR n0 G μ H w){fz}(hR:∀ j b,G.row j=some b->G'.row j=some b)(hG:∀ b,G b->G' b)(hB:∀ r k b,H[r]?=some (some k)->(k.frozen=true\/fz=false)->μ.loc r=some b->G' b):∀ n p q v,inl fz H n p=some q->VR w G μ p v->VR w G' aJ q v:=by
 have hm:Mono w G aJ w G' aJ:=⟨λb hb=>⟨hG b hb,rfl⟩,λ_ _ h=>h,λ_ _ h=>h,λ_ _ h=>h,hR,λ_ _ _=>rfl⟩;have base:∀ (p q:PV) (v:Value),some p=some q->eX p=true->VR w G μ p v->VR w G' aJ q v:=λp q v h hn hv=>by
  cases h;exact VR.mono hm _ _ (C6 p v hn hv)
 have owned:∀ (r sz:Nat) (q:PV) (v:Value),(match kK H r with
  | some k=>match k.tag with
   | some g=>bif k.frozen||!fz then some (UK g.t g.l none) else none
   | none=>none
  | none=>none)=some q->VR w G μ (.own r sz) v->VR w G' aJ q v:=λr sz q v h hv=>by
  split at h
  next k hk=>
   split at h
   next g hg=>obtain⟨hb,h⟩:=aI h;simp only[Bool.or_eq_true,Bool.not_eq_true']at hb;simp only[oJ]at h;subst h;exact LS hW hv hk hg hG (λb h1=>hB r k b (aG hk) hb h1) hR
   ·cases h
  ·cases h
 have wind:∀ (r lo n sz:Nat) (q:PV) (v:Value),(match kK H r with
  | some k=>match k.tag with
   | some g=>bif (k.frozen||!fz)&&Nat.beq sz g.t.size then some (UK g.t ((g.l.drop lo).take n) none) else none
   | none=>none
  | none=>none)=some q->VR w G μ (.win r lo n sz) v->VR w G' aJ q v:=λr lo n sz q v h hv=>by
  split at h
  next k hk=>
   split at h
   next g hg=>obtain⟨hb,h⟩:=aI h;simp only[oA,Bool.or_eq_true,Bool.not_eq_true']at hb;simp only[oJ]at h;subst h;exact a0Y hW hv hk hg (oE hb.2) hG (λb h1=>hB r k b (aG hk) hb.1 h1) hR
   ·cases h
  ·cases h
 intro n
 induction n with
 | zero =>
  intro p q v h hv;cases p <;> simp only[inl]at h <;> first|(cases h; done)|exact base _ q v h rfl hv|exact owned _ _ q v h hv|exact wind _ _ _ _ q v h hv
 | succ n ih =>
  intro p q v h hv;cases p with
  | lit u=>simp only[inl]at h; exact base _ q v h rfl hv
  | vals cs k cap=>simp only[inl]at h; exact base _ q v h rfl hv
  | iptr cs=>simp only[inl]at h; exact base _ q v h rfl hv
  | junk=>simp only[inl]at h; cases h
  | tl t l cap e=>simp only[inl]at h; exact base _ q v h rfl hv
  | tp t l i off e=>simp only[inl]at h; exact base _ q v h rfl hv
  | own r sz=>simp only[inl]at h; exact owned r sz q v h hv
  | op r i off sz=>simp only[inl]at h; cases h
  | row j lo n sz=>simp only[inl]at h; exact base _ q v h rfl hv
  | rp j off=>simp only[inl]at h; cases h
  | mp j=>simp only[inl]at h; cases h
  | tm l=>simp only[inl]at h; cases h
  | qs r sz=>simp only[inl]at h; cases h
  | win r lo n sz=>simp only[inl]at h; exact wind r lo n sz q v h hv
  | hs r off len cap sz =>
   simp only[inl]at h;split at h
   ·rename_i k hk;cases hb:((k.frozen||!fz)&&Nat.ble (off+len*sz) k.cells.length)with
    | false=>rw[hb]at h; cases h
    | true =>
     rw[hb]at h;simp only[oC]at h;simp only[oA,Bool.or_eq_true,Bool.not_eq_true']at hb;split at h
     next cs hcs=>simp only[oJ]at h;subst h;rw[VR]at hv; rw[VR];obtain⟨b,c,h1,rfl,h3,_,_⟩:=hv;obtain⟨c',g2,g3,_⟩:=hW.blk r k b (aG hk) h1;refine⟨_,c,rfl,h3,λk hk=>(by cases hk),.inr ⟨b,μ.sh r+off,rfl,hB r k b (aG hk) hb.1 h1,?_⟩⟩;have:=g3.sub off (len*sz);exact aIK (λp q v h hv=>ih p q v h hv) hcs this
     ·cases h
   ·cases h
  | hptr r off =>
   simp only[inl]at h;split at h
   ·rename_i k hk;cases hb:(k.frozen||!fz)with
    | false=>rw[hb]at h; cases h
    | true =>
     rw[hb]at h;simp only[oC]at h;simp only[Bool.or_eq_true,Bool.not_eq_true']at hb;split at h
     next cs hcs=>simp only[oJ]at h;subst h;rw[VR]at hv; rw[VR];obtain⟨b,h1,rfl⟩:=hv;obtain⟨c',g2,g3,_⟩:=hW.blk r k b (aG hk) h1;refine⟨b,μ.sh r+off,rfl,hB r k b (aG hk) hb h1,?_⟩;have:=g3.drop off;exact aIK (λp q v h hv=>ih p q v h hv) hcs this
     ·cases h
   ·cases h
  | agg cs =>
   simp only[inl]at h;split at h
   next qs hqs=>simp only[oJ]at h;subst h;rw[VR]at hv ⊢;obtain⟨vs,h1,h2⟩:=hv;exact⟨vs,h1,VO (λp q v h hv=>ih p q v h hv) hqs h2⟩
   ·cases h
  | tuple cs =>
   simp only[inl]at h;split at h
   next qs hqs=>simp only[oJ]at h;subst h;rw[VR]at hv ⊢;obtain⟨vs,h1,h2⟩:=hv;exact⟨vs,h1,VO (λp q v h hv=>ih p q v h hv) hqs h2⟩
   ·cases h
  | clo fn f c =>
   simp only[inl]at h;split at h
   next f' c' hf hc=>simp only[oJ]at h;subst h;rw[VR]at hv ⊢;obtain⟨fs,cs,h1,h2,h3⟩:=hv;exact⟨fs,cs,h1,VO (λp q v h hv=>ih p q v h hv) hf h2,VO (λp q v h hv=>ih p q v h hv) hc h3⟩
   ·cases h
def QX(P:Program) (g:FuncId) (args:List PV) (r:PV):Prop :=
 ∀ (w:World) (G:Nat->Prop) (vs:Array Value),Lt w G->VRs w (Gd.of G) aJ args vs.toList ->
  (callFunc g vs).run P w=.ok (.enter g vs) w/\Calls P g vs w λe w'=>∃ v' G',e=.returned v'/\Ext (DU w) w (Gd.of G) aJ w' (Gd.of G') aJ/\(∀ b,G' b->b<w'.heap.size)/\VR w' (Gd.of G') aJ r v'
def aOH:PV->Bool
 | .lit _=>true
 | _=>false
def aW6:PV->Bool
 | .lit _=>true
 | .agg cs=>cs.all aOH
 | _=>false
def flat:PV->Bool
 | .lit _=>true
 | .agg cs=>cs.all aOH
 | .tuple cs=>cs.all aW6
 | _=>false
theorem aLX {w' G'}:∀ {ps vs},ps.all aOH=true->VRs w G aJ ps vs->VRs w' G' μ ps vs
 | [],vs,_,h=>h
 | p::ps,vs,hf,h=>by
  simp only[List.all_cons,oA]at hf;obtain⟨x,xs,h1,h2,h3⟩:=h;refine⟨x,xs,h1,?_,aLX hf.2 h3⟩;cases p <;> simp only[aOH]at hf <;> try grind
  exact h2
theorem aUB {w' G'}:∀ {ps vs},ps.all aW6=true->VRs w G aJ ps vs->VRs w' G' μ ps vs
 | [],vs,_,h=>h
 | p::ps,vs,hf,h=>by
  simp only[List.all_cons,oA]at hf;obtain⟨x,xs,h1,h2,h3⟩:=h;refine⟨x,xs,h1,?_,aUB hf.2 h3⟩;cases p <;> simp only[aW6]at hf <;> try grind
  ·exact h2
  ·obtain⟨us,q1,q2⟩:=h2;exact⟨us,q1,aLX hf.1 q2⟩
theorem bB9 {w' G' p v}(hf:flat p=true)(h:VR w G aJ p v):VR w' G' μ p v:=by
 cases p <;> simp only[flat]at hf <;> try grind
 ·exact h
 ·obtain⟨vs,h1,h2⟩:=h;exact⟨vs,h1,aLX hf h2⟩
 ·obtain⟨vs,h1,h2⟩:=h;exact⟨vs,h1,aUB hf h2⟩
theorem aTY(hW:aR n0 G μ H w) {w':World} {G0 G1:Gd} (hG:∀ b,G b->G0 b) (hG0:∀ b,G0 b->G b\/∃ r,μ.loc r=some b) (e:Ext (DU w) w G0 aJ w' G1 aJ) (hlt:∀ b,G1 b->b<w'.heap.size) {G':Gd}
  (hG':∀ b,G' b->G b\/w.heap.size<=b/\b<w'.heap.size) (hGG':∀ b,G b->G' b) (hrow:∀ j,G'.row j=G.row j):Ext n0 w G μ w' G' μ/\aR n0 G' μ H w':=by
 have e':Ext n0 w G μ w' G' μ:={
  good:=λb hb=>⟨hGG' b hb,e.old b (hW.lt b hb) (Nat.not_le.2 (hW.lt b hb))⟩
  map:=λ_ _ h=>h
  len:=λ_ _ h=>h
  room:=e.room
  row:=λj b h=>by rw[hrow]; exact h
  os:=e.os
  tape:=e.tape
  output:=e.output
  size:=e.size
  old:=λb hb _=>e.old b hb (Nat.not_le.2 hb)
  new:=λb hb=>by
   rcases hG' b hb with h|h
   ·exact .inl h
   ·exact .inr (hW.base b h.1) }
 refine⟨e',hW.bZ e' ⟨hrow,λj b hj=>?_⟩ ?_ ?_⟩
 ·have hlt:=(hW.rows.sep j b hj).1;refine⟨e.old b hlt (Nat.not_le.2 hlt),λhb'=>?_⟩;rcases hG' b hb' with h|h
  ·exact h
  ·omega
 ·intro r k b hr hb;have hlt:b<w.heap.size:=hW.sY hr hb;refine⟨e.old b hlt (Nat.not_le.2 hlt),λhb'=>?_⟩;rcases hG' b hb' with h|h
  ·exact h
  ·omega
 ·intro b hb;rcases hG' b hb with h|h
  ·exact Nat.lt_of_lt_of_le (hW.lt b h) e.size
  ·exact h.2
theorem a6B(hW:aR n0 G μ H w) {g:FuncId} {args qs:List PV} {r:PV} {n:Nat} {vs:List Value} (hp:QX P g qs r) (hq:aBH (inl false H n) args=some qs) (hn:iD.noRows qs=true) (hf:flat r=true) (hv:VRs w G μ args vs):FL P n0 w G μ g vs.toArray r H:=by
 have hlive:∀ r k b,H[r]?=some (some k)->μ.loc r=some b->b<w.heap.size:=λr k b hr hb=>by exact hW.sY hr hb
 have hvs:VRs w (⟨λb=>b<w.heap.size,G.row⟩:Gd) aJ qs vs:=VO (λp q v h hv=>L9 (G':=⟨λb=>b<w.heap.size,G.row⟩) hW (λ_ _ h=>h) (λb hb=>hW.lt b hb) (λr k b hr _ hb=>hlive r k b hr hb) n p q v h hv) hq hv;have hvs:VRs w (Gd.of λb=>b<w.heap.size) aJ qs vs:=AP (G:=⟨λb=>b<w.heap.size,G.row⟩) (G':=Gd.of λb=>b<w.heap.size) (λb h=>h) _ _ _ hn hvs;obtain⟨h1,h2⟩:=hp w (λb=>b<w.heap.size) vs.toArray hW.lt.all (by simpa using hvs)
 refine⟨h1,h2.mono ?_⟩;rintro e w' ⟨v',G',rfl,e1,e2,e3⟩;have e4:Ext n0 w G μ w' G μ:={
  good:=λb hb=>⟨hb,e1.old b (hW.lt b hb) (Nat.not_le.2 (hW.lt b hb))⟩
  map:=λ_ _ h=>h
  len:=λ_ _ h=>h
  room:=e1.room
  row:=λ_ _ h=>h
  os:=e1.os
  tape:=e1.tape
  output:=e1.output
  size:=e1.size
  old:=λb hb _=>e1.old b hb (Nat.not_le.2 hb)
  new:=λb hb=>.inl hb }
 refine⟨v',G,μ,rfl,e4,hW.bZ e4 ⟨λ_=>rfl,λj b hj=>⟨e1.old b (hW.rows.sep j b hj).1 (Nat.not_le.2 (hW.rows.sep j b hj).1),id⟩⟩ ?_ ?_,bB9 hf e3⟩
 ·intro r k b hr hb;exact⟨e1.old b (hlive r k b hr hb) (Nat.not_le.2 (hlive r k b hr hb)),id⟩
 ·intro b hb;exact Nat.lt_of_lt_of_le (hW.lt b hb) e1.size
theorem a62(hW:aR n0 G μ H w) {g:FuncId} {args qs:List PV} {r:PV} {n:Nat} {vs:List Value} (hp:QX P g qs r) (hq:aBH (inl true H n) args=some qs) (hn:iD.noRows qs=true) (hv:VRs w G μ args vs):FL P n0 w G μ g vs.toArray r H:=by
 have hvs:VRs w G aJ qs vs:=VO (λp q v h hv=>L9 hW (λ_ _ h=>h) (λb hb=>hb) (λr k b hr hf hb=>by
  obtain⟨c,h2,_,_,h5,_⟩:=hW.blk r k b hr hb;rcases hf with hf|hf
  ·exact h5 hf
  ·cases hf) n p q v h hv) hq hv
 have hvs:VRs w (Gd.of G.ok) aJ qs vs:=AP (G:=G) (G':=Gd.of G.ok) (λb h=>h) _ _ _ hn hvs;obtain⟨h1,h2⟩:=hp w G.ok vs.toArray hW.lt (by simpa using hvs);refine⟨h1,h2.mono ?_⟩;rintro e w' ⟨v',G',rfl,e1,e2,e3⟩;obtain⟨e4,e5⟩:=aTY (G':=⟨G',G.row⟩) hW (G0:=Gd.of G.ok) (λb h=>h) (λb h=>.inl h) e1 e2 (λb hb=>by
  rcases e1.new b hb with h|h
  ·exact .inl h
  ·exact .inr ⟨h,e2 b hb⟩) (λb hb=>(e1.good b hb).1) (λ_=>rfl)
 exact⟨v',⟨G',G.row⟩,μ,rfl,e4,e5,(VR.mono (a5A (λb h=>h)) _ _ e3).aW⟩
end
def reach(H:Heap):Nat->PV->List Nat
 | n+1,.hs r _ _ _ _=>r::(match kK H r with|some k=>k.cells.flatMap (λp=>reach H n p)|none=>[])
 | n+1,.hptr r _=>r::(match kK H r with|some k=>k.cells.flatMap (λp=>reach H n p)|none=>[])
 | _,.own r _=>[r]
 | _,.op r _ _ _=>[r]
 | _,.win r _ _ _=>[r]
 | n+1,.agg cs=>cs.flatMap (λp=>reach H n p)
 | n+1,.tuple cs=>cs.flatMap (λp=>reach H n p)
 | n+1,.clo _ f c=>f.flatMap (λp=>reach H n p)++c.flatMap (λp=>reach H n p)
 | _,_=>[]
def depth:Nat:=16
def bGD(P:Program) (t:TypeId):Bool:=match P.info? t with
 | some i=>!i.hasPointers||(match P.underlying t with|some .string=>true|_=>false)
 | none=>false
def aO5(P:Program)(g:FuncId):Bool:=match P.funcs[g]? with
 | some fn=>fn.resultTypes.toList.all (bGD P)
 | none=>false
def callee(P:Program) (sh:FuncId->Bool) (pure:FuncId->List PV->Option PV) (shared:FuncId->List PV->Heap->Option (PV×Heap)):Callee:=λg args H =>
 bif sh g then match shared g args H with
  | some (r,H')=>some (r,H',2)
  | none=>none
 else bif eX.noRefs args then bif iD.noRows args then match pure g args with
  | some r=>some (r,H,0)
  | none=>none
  else none
 else bif aO5 P g then match aBH (λp=>inl false H depth p) args with
  | some qs=>bif iD.noRows qs then match pure g qs with
   | some r=>bif flat r then some (r,H,1) else none
   | none=>none
   else none
  | none=>none
 else match EE H (args.flatMap (λp=>reach H depth p))with
  | H1=>match aBH (λp=>inl true H1 depth p) args with
   | some qs=>bif iD.noRows qs then match pure g qs with
    | some r=>some (r,H1,2)
    | none=>none
    else none
   | none=>none
section
variable {P:Program} {n0:Nat->Prop} {w:World} {G:Gd} {μ:Mp} {H:Heap}
theorem FL.trans {g vs r H' G1}(e:Ext n0 w G μ w G1 μ)(h:FL P n0 w G1 μ g vs r H'):FL P n0 w G μ g vs r H':=by
 refine⟨h.1,h.2.mono ?_⟩;rintro x w' ⟨v',G',μ',rfl,e1,e2,e3⟩;exact⟨v',G',μ',rfl,e.trans e1,e2,e3⟩
theorem a54 {sh pure shared} (hp:∀ g args r,pure g args=some r->QX P g args r)
  (hs:∀ g args H r H',shared g args H=some (r,H')->∀ {n0 G μ w vs},aR n0 G μ H w->VRs w G μ args vs->FL P n0 w G μ g vs.toArray r H'):eO P (callee P sh pure shared) where
 call:=by
  intro g args H r H' c h n0 G μ w vs hW hv;unfold callee at h;cases hsh:sh g with
  | true =>
   rw[hsh]at h;simp only[oC]at h;split at h
   next r1 H1 hr=>simp only[oJ,oP]at h;obtain⟨rfl,rfl,rfl⟩:=h;exact hs g args H r1 H1 hr hW hv
   ·cases h
  | false =>
   rw[hsh]at h;simp only[oD]at h;cases hn:eX.noRefs args with
   | true =>
    rw[hn]at h;simp only[oC]at h;obtain⟨hnr,h⟩:=aI h;split at h
    ·rename_i r1 hr;simp only[oJ,oP]at h;obtain⟨rfl,rfl,rfl⟩:=h;obtain⟨h1,h2⟩:=hp g args r1 hr w G.ok vs.toArray hW.lt (by simpa using AP (G:=G) (G':=Gd.of G.ok) (λb h=>h) _ _ _ hnr (dK _ _ hn hv));refine⟨h1,h2.mono ?_⟩;rintro e w' ⟨v',G',rfl,e1,e2,e3⟩;obtain⟨e4,e5⟩:=aTY (G':=⟨G',G.row⟩) hW (G0:=Gd.of G.ok) (λb h=>h) (λb h=>.inl h) e1 e2 (λb hb=>by
      rcases e1.new b hb with h|h
      ·exact .inl h
      ·exact .inr ⟨h,e2 b hb⟩) (λb hb=>(e1.good b hb).1) (λ_=>rfl)
     exact⟨v',⟨G',G.row⟩,μ,rfl,e4,e5,(VR.mono (a5A (λb h=>h)) _ _ e3).aW⟩
    ·cases h
   | false =>
    rw[hn]at h;simp only[oD]at h;cases hf:aO5 P g with
    | true =>
     rw[hf]at h;simp only[oC]at h;split at h
     ·rename_i qs hq;obtain⟨hnr,h⟩:=aI h;split at h
      ·rename_i r1 hr;cases hfl:flat r1 with
       | true =>
        rw[hfl]at h;simp only[oC,oJ,oP]at h;obtain⟨rfl,rfl,rfl⟩:=h;exact a6B hW (hp g qs r1 hr) hq hnr hfl hv
       | false=>rw[hfl]at h; cases h
      ·cases h
     ·cases h
    | false =>
     rw[hf]at h;simp only[oD]at h;split at h
     ·rename_i qs hq;obtain⟨hnr,h⟩:=aI h;split at h
      next r1 hr=>simp only[oJ,oP]at h;obtain⟨rfl,rfl,rfl⟩:=h;obtain⟨G1,e1,hW1⟩:=EW (args.flatMap (λp=>reach H depth p)) H G hW;exact(a62 hW1 (hp g qs r1 hr) hq hnr (VRs.mono e1.toMono _ _ hv)).trans e1
      ·cases h
     ·cases h
 free:=by
  intro g args H r H' h;unfold callee at h ⊢;grind
 reads:=by
  intro g args H r H' h;unfold callee at h;cases hsh:sh g with
  | true =>
   rw[hsh]at h;simp only[oC]at h;split at h
   ·simp only[oJ,oP]at h;exact absurd h.2.2 O
   ·cases h
  | false =>
   rw[hsh]at h;simp only[oD]at h;cases hn:eX.noRefs args with
   | true =>
    rw[hn]at h;simp only[oC]at h;obtain⟨_,h⟩:=aI h;split at h
    ·simp only[oJ,oP]at h;exact absurd h.2.2 O
    ·cases h
   | false =>
    rw[hn]at h;simp only[oD]at h;cases hf:aO5 P g with
    | true =>
     rw[hf]at h;simp only[oC]at h;split at h
     ·obtain⟨_,h⟩:=aI h;split at h
      ·rename_i r1 hr;cases hfl:flat r1 with
       | true =>
        rw[hfl]at h;simp only[oC,oJ,oP]at h;exact h.2.1.symm
       | false=>rw[hfl]at h; cases h
      ·cases h
     ·cases h
    | false =>
     rw[hf]at h;simp only[oD]at h;split at h
     ·obtain⟨_,h⟩:=aI h;split at h
      ·simp only[oJ,oP]at h;exact absurd h.2.2 O
      ·cases h
     ·cases h
theorem aD1 {g:FuncId} {args:List PV} {v q:PV} {H':Heap} {n:Nat} (hs:∀ {n0 G μ w vs},aR n0 G μ [] w->VRs w G μ args vs->FL P n0 w G μ g vs.toArray v H') (hq:inl false H' n v=some q) (hn:iD q=true):QX P g args q:=by
 intro w G vs hlt hv;have hW:aR (DU w) (Gd.of G) aJ [] w:=⟨λr k b h=>by simp at h,λr k g h=>by simp at h,λr s k l b h=>by simp at h,hlt,λ_ _=>⟨rfl,rfl⟩,λ_ h=>h,yC.none _ _ (λ_=>rfl) _ _ (λr k h=>by simp at h)⟩;obtain⟨h1,h2⟩:=hs hW hv;have hvs:vs.toList.toArray=vs:=R
 rw[hvs]at h1 h2;refine⟨h1,h2.mono ?_⟩;rintro e w' ⟨v',G1,μ1,rfl,e1,e2,e3⟩;refine⟨v',λb=>G1 b\/∃ r k,H'[r]?=some (some k)/\μ1.loc r=some b,rfl,?_,?_,?_⟩
 ·exact {
   good:=λb hb=>⟨.inl (e1.good b hb).1,(e1.good b hb).2⟩
   map:=λ_ _ h=>h
   len:=λ_ _ h=>h
   room:=e1.room
   row:=λ_ _ h=>h
   os:=e1.os
   tape:=e1.tape
   output:=e1.output
   size:=e1.size
   old:=e1.old
   new:=λb hb=>by
    rcases hb with hb|⟨r,k,hr,hb⟩
    ·exact e1.new b hb
    ·obtain⟨c,_,_,_,g5,g6⟩:=e2.blk r k b hr hb;cases hf:k.frozen with
     | true=>exact e1.new b (g5 hf)
     | false=>exact .inr (g6 hf).1 }
 ·rintro b (hb|⟨r,k,hr,hb⟩)
  ·exact e2.lt b hb
  ·exact e2.sY hr hb
 ·exact VX (G:=⟨λb=>G1 b\/∃ r k,H'[r]?=some (some k)/\μ1.loc r=some b,G1.row⟩) (G':=Gd.of _) (λb h=>h) _ _ _ hn
   (L9 (G':=⟨λb=>G1 b\/∃ r k,H'[r]?=some (some k)/\μ1.loc r=some b,G1.row⟩) e2 (λ_ _ h=>h) (λb hb=>.inl hb) (λr k b hr _ hb=>.inr ⟨r,k,hr,hb⟩) n v q v' hq e3)
theorem enters {g:Nat}{fn}(h:P.funcs[g]?=some fn)(hn:(fn.name== "runtime.NumGoroutine")=false)(hb:fn.body.isNone=false) xs w:(callFunc g xs).run P w=.ok (.enter g xs) w:=by
 unfold callFunc;simp only[Sem.run_bind,program,Sem.run,Result.andThen_ok,h,hn,hb];rfl
end
def a1W(H:Heap) (v:PV):Option PV:=match inl false H depth v with
 | some q=>bif iD q then some q else none
 | none=>none
theorem UA {H v q}(h:a1W H v=some q):inl false H depth v=some q/\iD q=true:=by
 unfold a1W at h;grind
structure UM (P:Program):Prop where
 mixed:P.follows .mixedOrders=true
 names:∀ (g:Nat) (fn:Func),P.funcs[g]?=some fn->(fn.name== "runtime.NumGoroutine")=false
section
variable {P:Program} {cfgs:FuncId->Cfg} {sh:FuncId->Bool} {prim:FuncId->List PV->Option PV} {L:Nat}
end
def bAV:Operand->Nat
 | .tmp t=>2^t
 | _=>0
def bitsOf(m:Nat):List Operand->Nat
 | []=>m
 | .tmp t::r=>bitsOf (m ||| 2^t) r
 | _::r=>bitsOf m r
def P8(m d:Nat):Nat:=(m ||| d) ^^^ d
def a82(l:List Oper)(o:Oper):Nat:=match o.guard with
 | some (j,_)=>match l[j]? with
  | some p=>match p.dst with|some t=>2^t|none=>0
  | none=>0
 | none=>0
def aDO(l:List Oper):List Oper->Nat->Nat->Nat
 | [],_,acc=>acc
 | o::r,d,acc=>aDO l r (match o.dst with|some t=>d ||| 2^t|none=>d) (acc ||| P8 (bitsOf (a82 l o) o.op.operands.toList) d)
def MD:Code->Nat
 | .region _ ops _=>aDO ops.toList ops.toList 0 0
 | .seq a b=>MD a ||| MD b
 | .cond c a b=>bAV c ||| MD a ||| MD b
 | .block _ a=>MD a
 | .loop a=>MD a
 | .scope a=>MD a
 | _=>0
def XP:List ResultVar->Nat->Nat
 | [],m=>m
 | .tmp t::r,m=>XP r (m ||| 2^t)
 | .cell t _::r,m=>XP r (m ||| 2^t)
def aP(fn:Func):Nat:=match fn.body with
 | some c=>XP fn.results.toList (MD c)
 | none=>0
inductive Kd where
 | int (k:IntKind)
 | bool
 | str
 | list (t:Ty)
 | agg (t:Ty)
 | own (e:TypeId) (t:Ty)
 | box (e:TypeId) (t:Ty)
 | ptr (t:Ty)
 | fn (g:FuncId)
 | nil0
 | val
 | nilI
 | clo (g:FuncId) (ts:List Ty)
 | win (j sz:Nat)
 | bown (e et:TypeId) (t:Ty)
 | bque (e et:TypeId) (t:Ty)
 | bag (e:TypeId) (t1:Ty) (et:TypeId) (t:Ty) (t2:Option Ty)
 | bag2 (e:TypeId) (t1:Ty×Option Ty) (et:TypeId) (t:Ty) (eu:TypeId) (u:Ty)
 | hnd (sz:Nat)
 | mpk (j:Nat)
 | ar (e:TypeId) (t:Ty)
@[reducible] def a57:Option Ty->Type
 | none=>Unit
 | some t=>t.den
def a3S:(t:Option Ty)->a57 t->List PV
 | none,_=>[]
 | some t,x=>enc t x
@[reducible] def aHO:List Ty->Type
 | []=>Unit
 | t::r=>t.den×aHO r
@[reducible] def Kd.den:Kd->Type
 | .int _=>Int
 | .bool=>Bool
 | .str=>ByteArray
 | .list t=>List t.den
 | .agg t=>t.den
 | .own _ t=>List t.den
 | .box _ t=>t.den
 | .ptr t=>t.den
 | .fn _=>Unit
 | .nil0=>Unit
 | .val=>Value
 | .nilI=>Unit
 | .clo _ ts=>aHO ts
 | .win _ _=>Nat×Nat
 | .bown _ _ t=>List t.den
 | .bque _ _ t=>List t.den
 | .bag _ t1 _ t t2=>t1.den×List t.den×a57 t2
 | .bag2 _ t1 _ t _ u=>(t1.1.den×a57 t1.2)×List t.den×List u.den
 | .hnd _=>Nat×Nat×Nat
 | .mpk _=>Unit
 | .ar _ t=>List (List t.den)
abbrev Shape:=List (Nat×Kd)
@[reducible] def Shape.den:List (Nat×Kd)->Type
 | []=>Unit
 | (_,k)::r=>k.den×Shape.den r
def Kd.pos:Kd->Nat
 | .own _ _|.box _ _|.ar _ _=>1
 | .bown _ _ _=>2
 | .bque _ _ _=>2
 | .bag _ _ _ _ _=>2
 | .bag2 _ _ _ _ _ _=>3
 | _=>0
def aCR:(ts:List Ty)->aHO ts->List PV
 | [],_=>[]
 | t::r,(x,xs)=>.iptr (enc t x)::aCR r xs
def GH:(k:Kd)->k.den->Nat->PV
 | .int k,x,_=>.lit (.int k x)
 | .bool,x,_=>.lit (.bool x)
 | .str,x,_=>.lit (.string x)
 | .list t,l,_=>UK t l none
 | .agg t,x,_=>.agg (enc t x)
 | .own _ t,_,n=>.own n t.size
 | .box _ _,_,n=>.hptr n 0
 | .ptr t,x,_=>.iptr (enc t x)
 | .fn g,_,_=>.lit (.func (.func g) #[] #[])
 | .nil0,_,_=>.lit (.slice none 0 0)
 | .val,x,_=>.lit x
 | .nilI,_,_=>.lit .nilIface
 | .clo g ts,x,_=>.clo (.func g) [] (aCR ts x)
 | .win j sz,x,_=>.win j x.1 x.2 sz
 | .bown _ _ _,_,n=>.hptr n 0
 | .bque _ _ _,_,n=>.hptr n 0
 | .bag _ _ _ _ _,_,n=>.hptr n 0
 | .bag2 _ _ _ _ _ _,_,n=>.hptr n 0
 | .hnd sz,x,_=>.row x.1 x.2.1 x.2.2 sz
 | .mpk j,_,_=>.mp j
 | .ar _ _,_,_=>.junk
def bEU:(k:Kd)->k.den->Nat->Heap
 | .own e t,l,_=>[some ⟨aK t l,e,true,false,some ⟨t,l⟩⟩]
 | .box e t,x,_=>[some ⟨enc t x,e,false,false,none⟩]
 | .bown e et t,l,n=>[some ⟨[.own (n+1) t.size],e,false,false,none⟩,some ⟨aK t l,et,true,false,some ⟨t,l⟩⟩]
 | .bque e et t,l,n=>[some ⟨[.qs (n+1) t.size],e,false,false,none⟩,some ⟨aK t l,et,true,false,some ⟨t,l⟩⟩]
 | .bag e t1 et t t2,x,n=>[some ⟨enc t1 x.1++.own (n+1) t.size::a3S t2 x.2.2,e,false,false,none⟩,some ⟨aK t x.2.1,et,true,false,some ⟨t,x.2.1⟩⟩]
 | .bag2 e t1 et t eu u,x,n=>[some ⟨enc t1.1 x.1.1++.own (n+1) t.size::.own (n+2) u.size::a3S t1.2 x.1.2,e,false,false,none⟩,some ⟨aK t x.2.1,et,true,false,some ⟨t,x.2.1⟩⟩,some ⟨aK u x.2.2,eu,true,false,some ⟨u,x.2.2⟩⟩]
 | .ar e t,l,_=>[some ⟨aK (.rows t) l,e,false,false,some ⟨.rows t,l⟩⟩]
 | .int _,_,_|.bool,_,_|.str,_,_|.list _,_,_|.agg _,_,_|.ptr _,_,_|.fn _,_,_|.nil0,_,_|.val,_,_|.nilI,_,_|.clo _ _,_,_|.win _ _,_,_|.hnd _,_,_|.mpk _,_,_=>[]
def D1:(sh:List (Nat×Kd))->Shape.den sh->Nat->Frm
 | [],_,_=>[]
 | (t,k)::r,(x,xs),n=>(t,GH k x n)::D1 r xs (n+k.pos)
def aS6:(sh:List (Nat×Kd))->Shape.den sh->Nat->Heap
 | [],_,_=>[]
 | (_,k)::r,(x,xs),n=>bEU k x n++aS6 r xs (n+k.pos)
def O1 sh (x:Shape.den sh):Heap:=aS6 sh x 0
def IL(e:TypeId)(t:Ty)(p:PV)(H:Heap)(n:Nat):Option (List t.den) :=
 match p with
 | .own s sz=>bif Nat.beq s n&&Nat.beq sz t.size then match kK H n with
  | some k=>match k.tag with
   | some g=>match JW g.t t g.l with
    | some l=>bif Nat.beq k.ty e&&k.grown&&!k.frozen then some l else none
    | none=>none
   | none=>none
  | none=>none
  else none
 | _=>none
def aRW(e:TypeId)(t:Ty)(p:PV)(H:Heap)(n:Nat):Option t.den :=
 match p with
 | .hptr s off=>bif Nat.beq s n&&Nat.beq off 0 then match kK H n with
  | some k=>bif Nat.beq k.ty e&&!k.grown&&!k.frozen&&!k.tag.isSome then dec t k.cells else none
  | none=>none
  else none
 | _=>none
def aJO(e et:TypeId)(t:Ty)(p:PV)(H:Heap)(n:Nat):Option (List t.den) :=
 match p with
 | .hptr s off=>bif Nat.beq s n&&Nat.beq off 0 then match kK H n with
  | some k=>bif Nat.beq k.ty e&&!k.grown&&!k.frozen&&!k.tag.isSome then match k.cells with
   | [.own r sz]=>IL et t (.own r sz) H (n+1)
   | _=>none
   else none
  | none=>none
  else none
 | _=>none
def aJ4(e et:TypeId)(t:Ty)(p:PV)(H:Heap)(n:Nat):Option (List t.den) :=
 match p with
 | .hptr s off=>bif Nat.beq s n&&Nat.beq off 0 then match kK H n with
  | some k=>bif Nat.beq k.ty e&&!k.grown&&!k.frozen&&!k.tag.isSome then match k.cells with
   | [.own r sz]=>bif Nat.beq sz t.size then IL et t (.own r sz) H (n+1) else none
   | [.qs r sz]=>bif Nat.beq sz t.size then IL et t (.own r sz) H (n+1) else none
   | _=>none
   else none
  | none=>none
  else none
 | _=>none
def bEG:(t:Option Ty)->List PV->Option (a57 t)
 | none,cs=>match cs with
  | []=>some ()
  | _::_=>none
 | some t,cs=>dec t cs
def aR2(e:TypeId)(t1:Ty)(et:TypeId)(t:Ty) t2 (p:PV)(H:Heap)(n:Nat):Option (t1.den×List t.den×a57 t2) :=
 match p with
 | .hptr s off=>bif Nat.beq s n&&Nat.beq off 0 then match kK H n with
  | some k=>bif Nat.beq k.ty e&&!k.grown&&!k.frozen&&!k.tag.isSome then match k.cells.drop t1.size with
   | .own r sz::rest=>match dec t1 (k.cells.take t1.size),IL et t (.own r sz) H (n+1),bEG t2 rest with
    | some a,some l,some b=>some (a,l,b)
    | _,_,_=>none
   | _=>none
   else none
  | none=>none
  else none
 | _=>none
def aKD(e:TypeId)(t1:Ty×Option Ty)(et:TypeId)(t:Ty)(eu:TypeId)(u:Ty)(p:PV)(H:Heap)(n:Nat):Option ((t1.1.den×a57 t1.2)×List t.den×List u.den) :=
 match p with
 | .hptr s off=>bif Nat.beq s n&&Nat.beq off 0 then match kK H n with
  | some k=>bif Nat.beq k.ty e&&!k.grown&&!k.frozen&&!k.tag.isSome then match k.cells.drop t1.1.size with
   | .own r sz::.own r2 sz2::rest=>match dec t1.1 (k.cells.take t1.1.size),IL et t (.own r sz) H (n+1),IL eu u (.own r2 sz2) H (n+2),bEG t1.2 rest with
    | some a,some l,some b,some c=>some ((a,c),l,b)
    | _,_,_,_=>none
   | _=>none
   else none
  | none=>none
  else none
 | _=>none
def a5H(e:TypeId)(t:Ty)(H:Heap)(n:Nat):Option (List (List t.den)):=match kK H n with
 | some k=>match k.tag with
  | some g=>match JW g.t (.rows t) g.l with
   | some l=>bif Nat.beq k.ty e&&!k.grown&&!k.frozen then some l else none
   | none=>none
  | none=>none
 | none=>none
def a3N(t:Ty):PV->Option t.den
 | .agg cs=>dec t cs
 | _=>none
def aXE(t:Ty):PV->Option t.den
 | .iptr cs=>dec t cs
 | _=>none
def bDN:(ts:List Ty)->List PV->Option (aHO ts)
 | [],[]=>some ()
 | t::r,p::ps=>match aXE t p with
  | some x=>match bDN r ps with
   | some xs=>some (x,xs)
   | none=>none
  | none=>none
 | _,_=>none
def a98(j:Nat):PV->Option Unit
 | .mp i=>bif Nat.beq i j then some () else none
 | _=>none
def a8X(g:FuncId):PV->Option Unit
 | .lit (.func (.func f) first caps)=>bif Nat.beq f g&&Nat.beq first.size 0&&Nat.beq caps.size 0 then some () else none
 | _=>none
def a07:PV->Option Unit
 | .lit (.slice none o c)=>bif Nat.beq o 0&&Nat.beq c 0 then some () else none
 | _=>none
def a3K:PV->Option Value
 | .lit v=>some v
 | _=>none
def aVK:PV->Option Unit
 | .lit .nilIface=>some ()
 | _=>none
theorem aKI {p x}(h:a3K p=some x):p=.lit x:=by
 unfold a3K at h;grind
theorem aGQ {p x}(h:aVK p=some x):p=.lit .nilIface:=by
 unfold aVK at h;grind
def aVE(g:FuncId) ts:PV->Option (aHO ts)
 | .clo (.func f) [] caps=>bif Nat.beq f g then bDN ts caps else none
 | _=>none
def a08(j sz:Nat):PV->Option (Nat×Nat)
 | .win r lo n s=>bif Nat.beq r j&&Nat.beq s sz then some (lo,n) else none
 | _=>none
def aJ3:(k:Kd)->PV->Heap->Nat->Option k.den
 | .int k,p,_,_=>aWM k [p]
 | .bool,p,_,_=>aOR [p]
 | .str,p,_,_=>aWQ [p]
 | .list t,p,_,_=>dec (.list t) [p]
 | .agg t,p,_,_=>a3N t p
 | .own e t,p,H,n=>IL e t p H n
 | .box e t,p,H,n=>aRW e t p H n
 | .ptr t,p,_,_=>aXE t p
 | .fn g,p,_,_=>a8X g p
 | .nil0,p,_,_=>a07 p
 | .val,p,_,_=>a3K p
 | .nilI,p,_,_=>aVK p
 | .clo g ts,p,_,_=>aVE g ts p
 | .win j sz,p,_,_=>a08 j sz p
 | .bown e et t,p,H,n=>aJO e et t p H n
 | .bque e et t,p,H,n=>aJ4 e et t p H n
 | .bag e t1 et t t2,p,H,n=>aR2 e t1 et t t2 p H n
 | .bag2 e t1 et t eu u,p,H,n=>aKD e t1 et t eu u p H n
 | .hnd sz,p,_,_=>aW9 sz [p]
 | .mpk j,p,_,_=>a98 j p
 | .ar e t,_,H,n=>a5H e t H n
def a8V:(sh:List (Nat×Kd))->Frm->Heap->Nat->Option (Shape.den sh)
 | [],_,_,_=>some ()
 | (t,k)::r,F,H,n=>match aJ3 k (dX F t) H n with
  | some x=>match a8V r F H (n+k.pos)with
   | some xs=>some (x,xs)
   | none=>none
  | none=>none
def aR4:List (Nat×Kd)->List (Nat×TypeId×Option Ty)
 | []=>[]
 | (t,.own e ty)::r=>(t,e,some ty)::aR4 r
 | (t,.box e _)::r=>(t,e,none)::aR4 r
 | (t,.ar e ty)::r=>(t,e,some (.rows ty))::aR4 r
 | _::r=>aR4 r
def slotsOf:List (Nat×Kd)->List Nat
 | []=>[]
 | (t,_)::r=>t::slotsOf r
def aS0:List (Nat×Kd)->Nat
 | []=>0
 | (_,k)::r=>k.pos+aS0 r
def a9S(e:TypeId) (ty:Ty) (H:Heap):PV->Option (PV×Heap)
 | .win s lo n sz=>bif Nat.beq lo 0&&Nat.beq sz ty.size then match IL e ty (.own s sz) H s with
   | some l=>some (.own H.length sz,(H.set s none)++[some ⟨aK ty (l.take n),e,true,false,some ⟨ty,l.take n⟩⟩])
   | none=>none
  else none
 | _=>none
def EO:List (Nat×Kd)->Frm->Heap->Frm×Heap
 | [],F,H=>(F,H)
 | (t,.list _)::r,F,H=>match dX F t with
  | .own s _=>match kK H s with
   | some k=>match k.tag with
    | some g=>bif k.frozen then EO r ((t,UK g.t g.l none)::F) H else EO r ((t,UK g.t g.l none)::F) (H.set s (some { k with frozen:=true }))
    | none=>EO r F H
   | none=>EO r F H
  | _=>EO r F H
 | (t,.hnd sz)::r,F,H=>match dX F t with
  | .own s sz2=>bif Nat.beq sz2 sz then match aWX H sz s with
   | some (q,H1)=>EO r ((t,q)::F) H1
   | none=>EO r F H
   else EO r F H
  | _=>EO r F H
 | (t,.own e ty)::r,F,H=>match a9S e ty H (dX F t)with
  | some (q,H1)=>EO r ((t,q)::F) H1
  | none=>EO r F H
 | _::r,F,H=>EO r F H
def XL(sh:List (Nat×Kd)) (F:Frm) (H:Heap):Option (Shape.den sh) :=
 match EO sh F H with
 | (F1,H1)=>match tidy ⟨slotsOf sh,aR4 sh,0⟩ F1 H1 with
  | some (F',H')=>bif Nat.beq H'.length (aS0 sh) then a8V sh F' H' 0 else none
  | none=>none
section
variable {P:Program} {n0:Nat->Prop} {w wi:World} {G Gi:Gd} {μ μi μ':Mp} {H:Heap} {F:Frm} {a:Act} {nt:Nat}
theorem qH(hW:aR n0 G μ H w){e t p n l}(h:IL e t p H n=some l):p=.own n t.size/\H[n]?=some (some ⟨aK t l,e,true,false,some ⟨t,l⟩⟩):=by
 unfold IL at h;split at h
 next s sz=>
  replace h:=aI h;obtain⟨hb,h⟩:=h;simp only[oA]at hb;have h1:=oE hb.1;have h2:=oE hb.2;subst h1; subst h2;split at h
  next k hk=>
   split at h
   ·rename_i g hg;split at h
    ·rename_i l' hc;obtain⟨hb,h⟩:=aI h;simp only[oA]at hb;simp only[oJ]at h;subst h;have ht:=(hW.tags s k g (aG hk) hg).1;obtain⟨rfl,rfl⟩:=qQ hc;rw[aG hk];obtain⟨k1,k2,k3,k4,k5⟩:=k
     simp_all
    ·cases h
   ·cases h
  ·cases h
 ·cases h
theorem aSN(hW:aR n0 G μ H w){e et t p n l}(h:aJO e et t p H n=some l) :
  p=.hptr n 0/\H[n]?=some (some ⟨[.own (n+1) t.size],e,false,false,none⟩)/\H[n+1]?=some (some ⟨aK t l,et,true,false,some ⟨t,l⟩⟩):=by
 unfold aJO at h;split at h
 next s off=>
  replace h:=aI h;obtain⟨hb,h⟩:=h;simp only[oA]at hb;have h1:=oE hb.1;have h2:=oE hb.2;subst h1; subst h2;refine⟨rfl,?_⟩;split at h
  next k hk=>
   replace h:=aI h;obtain⟨hc,h⟩:=h;simp only[oA,Bool.not_eq_true']at hc;obtain⟨⟨⟨c1,c2⟩,c3⟩,c4⟩:=hc;split at h
   ·rename_i r sz hcs;obtain⟨h3,h4⟩:=qH hW h;cases h3;rw[aG hk];obtain⟨k1,k2,k3,k4,k5⟩:=k
    simp_all
   ·cases h
  ·cases h
 ·cases h
def a8O(k k':Blk):Prop:=k.tag=none/\k'.ty=k.ty/\k'.grown=k.grown/\k'.frozen=k.frozen/\k'.tag=none/\∀ (w:World) (G:Gd) (μ:Mp) (b o:Nat),aM w G μ b o k.cells->aM w G μ b o k'.cells/\k'.cells.length=k.cells.length
def aWV(a b:Option (Option Blk)):Prop:=a=b\/∃ k k',a=some (some k)/\b=some (some k')/\a8O k k'
theorem aR.a4W (hW:aR n0 G μ H w){H'}(h:∀ r:Nat,aWV H[r]? H'[r]?):aR n0 G μ H' w:=by
 have key:∀ (r:Nat) (k':Blk),H'[r]?=some (some k')->∃ k,H[r]?=some (some k)/\(k=k'\/a8O k k')/\k'.frozen=k.frozen:=by
  intro r k' hr;rcases h r with h1|⟨k,k2,h1,h2,h3⟩
  ·grind
  ·rw[hr]at h2;cases h2;exact⟨k,h1,.inr h3,h3.2.2.2.1⟩
 refine⟨?_,?_,?_,hW.lt,?_,hW.base,hW.rows.step (Mono.refl _ _ _) (oM _) (λ_=>rfl) (λj b hj=>⟨rfl,id,λr k' hr hf hl=>?_⟩) (λr k' t l hr hg ht=>?_)⟩
 case refine_5 =>
  grind
 case refine_6 =>
  obtain⟨k,h1,h2,h3⟩:=key r k' hr;rcases h2 with rfl|⟨_,_,_,_,e4,_⟩
  ·grind
  ·grind
 ·intro r k' b hr hb;obtain⟨k,h1,h2,h3⟩:=key r k' hr;obtain⟨c,a1,a2,a3,a4⟩:=hW.blk r k b h1 hb;rcases h2 with rfl|⟨_,e1,e2,e3,_,e5⟩
  ·grind
  ·grind
 ·intro r k' g hr hg;obtain⟨k,h1,h2,_⟩:=key r k' hr;rcases h2 with rfl|⟨_,_,_,_,e4,_⟩
  ·exact hW.tags r k g h1 hg
  ·grind
 ·intro r s k l b hr hs fk fl m1 m2;obtain⟨k1,h1,_,h3⟩:=key r k hr;obtain⟨l1,h4,_,h6⟩:=key s l hs;exact hW.inj r s k1 l1 b h1 h4 (by rw[<- h3]; exact fk) (by rw[<- h6]; exact fl) m1 m2
 ·intro r hr;refine hW.top r ?_;rcases oG r H.length with hl|hl
  ·rcases h r with h1|⟨k,k',_,h2,_⟩
   ·grind
   ·grind
  ·exact hl
theorem aSS(hW:aR n0 G μ H w){e et t p n l}(h:aJ4 e et t p H n=some l) :
  p=.hptr n 0/\aWV H[n]? (some (some ⟨[.qs (n+1) t.size],e,false,false,none⟩))/\H[n+1]?=some (some ⟨aK t l,et,true,false,some ⟨t,l⟩⟩):=by
 unfold aJ4 at h;split at h
 ·replace h:=aI h;obtain⟨hb,h⟩:=h;simp only[oA]at hb;have h1:=oE hb.1;have h2:=oE hb.2;subst h1; subst h2;refine⟨rfl,?_⟩;split at h
  next k hk=>
   replace h:=aI h;obtain⟨hc,h⟩:=h;simp only[oA,Bool.not_eq_true']at hc;obtain⟨⟨⟨c1,c2⟩,c3⟩,c4⟩:=hc;have c1:=oE c1;split at h
   next r sz hcs=>obtain⟨_,h⟩:=aI h;obtain⟨h3,h4⟩:=qH hW h;cases h3;refine⟨.inr ⟨k,_,aG hk,rfl,by simpa using c4,c1.symm,c2.symm,c3.symm,rfl,?_⟩,h4⟩;intro w G μ b o hc;rw[hcs]at hc ⊢;obtain⟨⟨v,u1,u2⟩,_⟩:=hc;refine⟨?_,rfl⟩;exact⟨⟨v,u1,a3C u2⟩,trivial⟩
   ·rename_i r sz hcs;obtain⟨_,h⟩:=aI h;obtain⟨h3,h4⟩:=qH hW h;cases h3;refine⟨?_,h4⟩;rw[aG hk];obtain⟨k1,k2,k3,k4,k5⟩:=k;dsimp only at c1 c2 c3 c4 hcs;rw[hcs,c1,c2,c3];cases k5 with
    | none=>exact .inl rfl
    | some g=>simp at c4
   ·cases h
  ·cases h
 ·cases h
theorem aXB {e t p n x}(h:aRW e t p H n=some x):p=.hptr n 0/\aWV H[n]? (some (some ⟨enc t x,e,false,false,none⟩)):=by
 unfold aRW at h;split at h
 ·replace h:=aI h;obtain⟨hb,h⟩:=h;simp only[oA]at hb;have h1:=oE hb.1;have h2:=oE hb.2;subst h1; subst h2;refine⟨rfl,?_⟩;split at h
  next k hk=>obtain⟨hc,h⟩:=aI h;simp only[oA,Bool.not_eq_true']at hc;obtain⟨⟨⟨c1,c2⟩,c3⟩,c4⟩:=hc;have c1:=oE c1;refine .inr ⟨k,_,aG hk,rfl,by simp_all,c1.symm,c2.symm,c3.symm,rfl,?_⟩;intro w G μ b o hc;obtain⟨vs,d1,d2⟩:=hc.values;have d3:=AF t μ k.cells x vs h d1;exact⟨aM.qV d3.aW d2,by rw[d3.length,d1.length]⟩
  grind
 grind
theorem a38 t μ cs x vs (h:bEG t cs=some x)(hv:VRs w G μ cs vs):VRs w G aJ (a3S t x) vs:=by
 cases t with
 | none =>
  cases cs with
  | nil=>exact hv
  | cons p ps=>cases h
 | some t=>exact AF t μ cs x vs h hv
theorem aWY(hW:aR n0 G μ H w){e t1 et t t2 p n x}(h:aR2 e t1 et t t2 p H n=some x) :
  p=.hptr n 0/\aWV H[n]? (some (some ⟨enc t1 x.1++.own (n+1) t.size::a3S t2 x.2.2,e,false,false,none⟩))/\H[n+1]?=some (some ⟨aK t x.2.1,et,true,false,some ⟨t,x.2.1⟩⟩):=by
 unfold aR2 at h;split at h
 next s off=>
  replace h:=aI h;obtain⟨hb,h⟩:=h;simp only[oA]at hb;have h1:=oE hb.1;have h2:=oE hb.2;subst h1; subst h2;refine⟨rfl,?_⟩;split at h
  next k hk=>
   obtain⟨hc,h⟩:=aI h;simp only[oA,Bool.not_eq_true']at hc;obtain⟨⟨⟨c1,c2⟩,c3⟩,c4⟩:=hc;have c1:=oE c1;split at h
   ·rename_i r sz rest hd;split at h
    ·rename_i xa xl xb ha hl hbb;simp only[oJ]at h;subst h;obtain⟨h3,h4⟩:=qH hW hl;cases h3;refine⟨.inr ⟨k,_,aG hk,rfl,by simpa using c4,c1.symm,c2.symm,c3.symm,rfl,?_⟩,h4⟩;intro w G μ b o hc;obtain⟨vs,d1,d2⟩:=hc.values;have d3:=d1.take t1.size;have d4:=d1.drop t1.size;rw[hd,VRs]at d4;obtain⟨v,vc,e1,d5,d6⟩:=d4;have d7:=AF t1 μ _ xa _ ha d3;have d8:=a38 t2 μ _ xb vc hbb d6;have d9:VRs w G μ (enc t1 xa++.own (s+1) t.size::a3S t2 xb) (vs.take t1.size++v::vc):=VRs.append d7.aW (by rw[VRs]; exact⟨v,vc,rfl,d5,d8.aW⟩)
     rw[<- e1,List.take_append_drop]at d9;exact⟨aM.qV d9 d2,by rw[d9.length,d1.length]⟩
    ·cases h
   ·cases h
  ·cases h
 ·cases h
theorem aSU(hW:aR n0 G μ H w){e t1 et t eu u p n x}(h:aKD e t1 et t eu u p H n=some x) :
  p=.hptr n 0/\aWV H[n]? (some (some ⟨enc t1.1 x.1.1++.own (n+1) t.size::.own (n+2) u.size::a3S t1.2 x.1.2,e,false,false,none⟩))/\H[n+1]?=some (some ⟨aK t x.2.1,et,true,false,some ⟨t,x.2.1⟩⟩)/\H[n+2]?=some (some ⟨aK u x.2.2,eu,true,false,some ⟨u,x.2.2⟩⟩):=by
 unfold aKD at h;split at h
 next s off=>
  replace h:=aI h;obtain⟨hb,h⟩:=h;simp only[oA]at hb;have h1:=oE hb.1;have h2:=oE hb.2;subst h1; subst h2;refine⟨rfl,?_⟩;split at h
  next k hk=>
   obtain⟨hc,h⟩:=aI h;simp only[oA,Bool.not_eq_true']at hc;obtain⟨⟨⟨c1,c2⟩,c3⟩,c4⟩:=hc;have c1:=oE c1;split at h
   ·rename_i r sz r2 sz2 rest hd;split at h
    ·rename_i xa xl xb xc ha hl hbb hcc;simp only[oJ]at h;subst h;obtain⟨h3,h4⟩:=qH hW hl;cases h3;obtain⟨h5,h6⟩:=qH hW hbb;cases h5;refine⟨.inr ⟨k,_,aG hk,rfl,by simpa using c4,c1.symm,c2.symm,c3.symm,rfl,?_⟩,h4,h6⟩;intro w G μ b o hc;obtain⟨vs,d1,d2⟩:=hc.values;have d3:=d1.take t1.1.size;have d4:=d1.drop t1.1.size;rw[hd,VRs]at d4;obtain⟨v,vc,e1,d5,d6⟩:=d4;rw[VRs]at d6;obtain⟨v2,vc2,rfl,d10,d11⟩:=d6
     have d7:=AF t1.1 μ _ xa _ ha d3;have d8:=a38 t1.2 μ _ xc vc2 hcc d11;have d9:VRs w G μ (enc t1.1 xa++.own (s+1) t.size::.own (s+2) u.size::a3S t1.2 xc) (vs.take t1.1.size++v::v2::vc2):=VRs.append d7.aW (by rw[VRs]; exact⟨v,_,rfl,d5,by rw[VRs]; exact⟨v2,vc2,rfl,d10,d8.aW⟩⟩);rw[<- e1,List.take_append_drop]at d9;exact⟨aM.qV d9 d2,by rw[d9.length,d1.length]⟩
    ·cases h
   ·cases h
  ·cases h
 ·cases h
theorem aZQ {g:Tg}{b l'}(h:JW g.t b g.l=some l'):g=⟨b,l'⟩:=by
 obtain⟨a,l⟩:=g;unfold JW at h;grind
theorem aY4(hW:aR n0 G μ H w){e t n l}(h:a5H e t H n=some l):H[n]?=some (some ⟨aK (.rows t) l,e,false,false,some ⟨.rows t,l⟩⟩):=by
 unfold a5H at h;split at h
 next k hk=>
  split at h
  next g hg=>
   split at h
   next l' hc=>obtain⟨hb,h⟩:=aI h;simp only[oA]at hb;simp only[oJ]at h;have hb3:=oE hb.1.1;have ht:=(hW.tags n k g (aG hk) hg).1;have hge:=aZQ hc;rw[<- h,aG hk];obtain⟨k1,k2,k3,k4,k5⟩:=k;grind
   grind
  grind
 grind
theorem aBQ {t p x v}(h:aXE t p=some x)(hv:VR w G μ p v):VR w G aJ (.iptr (enc t x)) v:=by
 unfold aXE at h;split at h
 next cs=>obtain⟨b,off,h1,h2,h3⟩:=hv;obtain⟨vs,d1,d2⟩:=h3.values;exact⟨b,off,h1,h2,aM.qV (AF t aJ cs x vs h d1) d2⟩
 grind
theorem aPY:∀ ts {ps x vs},bDN ts ps=some x->VRs w G μ ps vs->VRs w G aJ (aCR ts x) vs
 | [],[],x,vs,h,hv=>by simp only[aCR]; exact hv
 | [],_::_,x,vs,h,hv=>by cases h
 | _::_,[],x,vs,h,hv=>by cases h
 | t::r,p::ps,x,vs,h,hv=>by
  simp only[bDN]at h;split at h
  next y hy=>
   split at h
   next ys hys=>simp only[oJ]at h;subst h;obtain⟨u,us,h1,h2,h3⟩:=hv;exact⟨u,us,h1,aBQ hy h2,aPY r hys h3⟩
   grind
  grind
theorem aJC {p x}(h:a07 p=some x):p=.lit (.slice none 0 0):=by
 unfold a07 at h;split at h
 next o c=>
  cases hb:(Nat.beq o 0&&Nat.beq c 0)with
  | false=>grind
  | true =>
   simp_all
 grind
theorem aMM {j p x}(h:a98 j p=some x):p=.mp j:=by
 unfold a98 at h;split at h
 ·rw[oE (aI h).1]
 grind
theorem aM0 {g p x}(h:a8X g p=some x):p=.lit (.func (.func g) #[] #[]):=by
 unfold a8X at h;split at h
 ·replace h:=(aI h).1
  simp_all
 grind
theorem aAO {g ts p x v}(h:aVE g ts p=some x)(hv:VR w G μ p v):VR w G aJ (.clo (.func g) [] (aCR ts x)) v:=by
 unfold aVE at h;split at h
 ·have h1:=oE (aI h).1;have h2:=(aI h).2;subst h1;obtain⟨fs,cs,e1,e2,e3⟩:=hv;exact⟨fs,cs,e1,e2,aPY ts h2 e3⟩
 grind
theorem aJY {j sz p x}(h:a08 j sz p=some x):p=.win j x.1 x.2 sz:=by
 unfold a08 at h;split at h
 ·replace h:=aI h;obtain⟨hb,h⟩:=h;simp only[oA]at hb;have h1:=oE hb.1;have h2:=oE hb.2;grind
 grind
theorem a3F(hW:aR n0 G μ H w):∀ k {p n x v},aJ3 k p H n=some x->VR w G μ p v->VR w G μ (GH k x n) v/\∀ i ,i<k.pos->aWV H[n+i]? (bEU k x n)[i]?
 | .int k,p,n,x,v,h,hv=>by
  have:=aD4 h;simp only[List.cons.injEq,and_true]at this;subst this;exact⟨hv,λi hi=>absurd hi (Nat.not_lt_zero _)⟩
 | .bool,p,n,x,v,h,hv=>by
  have:=aBO h;simp only[List.cons.injEq,and_true]at this;subst this;exact⟨hv,λi hi=>absurd hi (Nat.not_lt_zero _)⟩
 | .str,p,n,x,v,h,hv=>by
  have:=aDD h;simp only[List.cons.injEq,and_true]at this;subst this;exact⟨hv,λi hi=>absurd hi (Nat.not_lt_zero _)⟩
 | .list t,p,n,x,v,h,hv=>by
  have:=AF (.list t) μ [p] x [v] h (by rw[VRs]; exact⟨v,[],rfl,hv,by rw[VRs]⟩);refine⟨?_,λi hi=>absurd hi (Nat.not_lt_zero _)⟩;simp only[enc]at this;obtain⟨y,ys,h1,h2,_⟩:=this;cases h1;exact h2.aW
 | .agg t,p,n,x,v,h,hv=>by
  refine⟨?_,λi hi=>absurd hi (Nat.not_lt_zero _)⟩;simp only[aJ3]at h;unfold a3N at h;split at h
  next cs=>rw[VR]at hv;obtain⟨vs,rfl,h2⟩:=hv;simp only[GH];rw[VR];exact⟨vs,rfl,(AF t μ cs x vs.toList h h2).aW⟩
  ·cases h
 | .own e t,p,n,x,v,h,hv=>by
  obtain⟨rfl,h2⟩:=qH hW h;refine⟨hv,λi hi=>?_⟩;simp only[Kd.pos]at hi;have:i=0:=Z
  subst this;simp only[Nat.add_zero,h2];exact .inl rfl
 | .box e t,p,n,x,v,h,hv=>by
  obtain⟨rfl,h2⟩:=aXB h;refine⟨hv,λi hi=>?_⟩;simp only[Kd.pos]at hi;have:i=0:=Z
  subst this;exact h2
 | .ptr t,p,n,x,v,h,hv=>⟨(aBQ h hv).aW,λi hi=>absurd hi (Nat.not_lt_zero _)⟩
 | .fn g,p,n,x,v,h,hv=>by
  have:=aM0 h;subst this;exact⟨hv,λi hi=>absurd hi (Nat.not_lt_zero _)⟩
 | .mpk j,p,n,x,v,h,hv=>by
  have:=aMM h;subst this;exact⟨hv,λi hi=>absurd hi (Nat.not_lt_zero _)⟩
 | .nil0,p,n,x,v,h,hv=>by
  have:=aJC h;subst this;exact⟨hv,λi hi=>absurd hi (Nat.not_lt_zero _)⟩
 | .val,p,n,x,v,h,hv=>by
  have:=aKI (p:=p) (x:=x) h;subst this;exact⟨hv,λi hi=>absurd hi (Nat.not_lt_zero _)⟩
 | .nilI,p,n,x,v,h,hv=>by
  have:=aGQ (p:=p) (x:=x) h;subst this;exact⟨hv,λi hi=>absurd hi (Nat.not_lt_zero _)⟩
 | .clo g ts,p,n,x,v,h,hv=>⟨(aAO h hv).aW,λi hi=>absurd hi (Nat.not_lt_zero _)⟩
 | .win j sz,p,n,x,v,h,hv=>by
  have:=aJY h;subst this;exact⟨hv,λi hi=>absurd hi (Nat.not_lt_zero _)⟩
 | .bown e et t,p,n,x,v,h,hv=>by
  obtain⟨rfl,h2,h3⟩:=aSN hW h;refine⟨hv,λi hi=>?_⟩;simp only[Kd.pos]at hi;rcases(show i=0\/i=1 by omega)with rfl|rfl
  ·simp only[Nat.add_zero,h2];exact .inl rfl
  ·simp only[h3];exact .inl rfl
 | .bque e et t,p,n,x,v,h,hv=>by
  obtain⟨rfl,h2,h3⟩:=aSS hW h;refine⟨hv,λi hi=>?_⟩;simp only[Kd.pos]at hi;rcases(show i=0\/i=1 by omega)with rfl|rfl
  ·exact h2
  ·simp only[h3];exact .inl rfl
 | .bag e t1 et t t2,p,n,x,v,h,hv=>by
  obtain⟨rfl,h2,h3⟩:=aWY hW h;refine⟨hv,λi hi=>?_⟩;simp only[Kd.pos]at hi;rcases(show i=0\/i=1 by omega)with rfl|rfl
  ·exact h2
  ·simp only[h3];exact .inl rfl
 | .bag2 e t1 et t eu u,p,n,x,v,h,hv=>by
  obtain⟨rfl,h2,h3,h4⟩:=aSU hW h;refine⟨hv,λi hi=>?_⟩;simp only[Kd.pos]at hi;rcases(show i=0\/i=1\/i=2 by omega)with rfl|rfl|rfl
  ·exact h2
  ·simp only[h3];exact .inl rfl
  ·simp only[h4];exact .inl rfl
 | .hnd sz,p,n,x,v,h,hv=>by
  refine⟨?_,λi hi=>absurd hi (Nat.not_lt_zero _)⟩;have:=aKY (μ:=μ) (vs:=[v]) h (by rw[VRs]; exact⟨v,[],rfl,hv,by rw[VRs]⟩);rw[VRs]at this;obtain⟨y,ys,h1,h2,_⟩:=this;cases h1;exact h2.aW
 | .ar e t,p,n,x,v,h,hv=>by
  have h2:=aY4 hW h;refine⟨by simp only[GH]; rw[VR]; trivial,λi hi=>?_⟩;simp only[Kd.pos]at hi;have:i=0:=Z
  subst this;simp only[Nat.add_zero,h2];exact .inl rfl
theorem XB:∀ k x n,(bEU k x n).length=k.pos
 | .int _,_,_|.bool,_,_|.str,_,_|.list _,_,_|.agg _,_,_|.ptr _,_,_|.fn _,_,_|.nil0,_,_|.val,_,_|.nilI,_,_|.clo _ _,_,_|.win _ _,_,_|.hnd _,_,_|.mpk _,_,_=>rfl
 | .ar _ _,_,_=>rfl
 | .own _ _,_,_=>rfl
 | .box _ _,_,_=>rfl
 | .bown _ _ _,_,_=>rfl
 | .bque _ _ _,_,_=>rfl
 | .bag _ _ _ _ _,_,_=>rfl
 | .bag2 _ _ _ _ _ _,_,_=>rfl
theorem aI5:∀ sh x n,(aS6 sh x n).length=aS0 sh
 | [],_,_=>rfl
 | (_,k)::r,(x,xs),n=>by simp only[aS6,oH,XB,aI5 r xs,aS0]
theorem aNB sh x:(O1 sh x).length=aS0 sh:=aI5 sh x 0
theorem aIB(hW:aR n0 G μ H w)(hF:∀ t,VR w G μ (dX F t) (a.tmps.getD t undef)):∀ sh {n x},a8V sh F H n=some x->(∀ t,VR w G μ (dX (D1 sh x n) t) (a.tmps.getD t undef))/\∀ i ,i<aS0 sh->aWV H[n+i]? (aS6 sh x n)[i]?
 | [],n,x,h=>⟨λt=>by simp only[D1,dX]; rw[VR]; trivial,λi hi=>absurd hi (Nat.not_lt_zero _)⟩
 | (t,k)::r,n,x,h=>by
  simp only[a8V]at h;split at h
  next y hy=>
   split at h
   ·rename_i ys hys;simp only[oJ]at h;subst h;obtain⟨h1,h2⟩:=a3F hW k hy (hF t);obtain⟨h3,h4⟩:=aIB hW hF r hys;refine⟨λs=>?_,λi hi=>?_⟩
    ·simp only[D1];rw[jF];grind
    ·simp only[aS6];rcases oG i k.pos with hl|hl
     ·rw[List.getElem?_append_left (by rw[XB]; exact hl)];grind
     ·rw[List.getElem?_append_right (by rw[XB]; exact hl),XB];have:=h4 (i-k.pos) (by simp only[aS0]at hi; omega);grind
   ·cases h
  ·cases h
theorem aZ9(hW:aR n0 G μ H w){e ty p q H1 v}(h:a9S e ty H p=some (q,H1))(hv:VR w G μ p v) :
  ∃ μ',Ext n0 w G μ w G μ'/\aR n0 G μ' H1 w/\VR w G μ' q v:=by
 unfold a9S at h;split at h
 next r lo n sz=>
  obtain⟨hb,hh⟩:(Nat.beq lo 0&&Nat.beq sz ty.size)=true/\(match IL e ty (.own r sz) H r with
   | some l=>some (PV.own H.length sz,(H.set r none)++[some (⟨aK ty (l.take n),e,true,false,some ⟨ty,l.take n⟩⟩:Blk)])
   | none=>none)=some (q,H1):=by
   grind
  rw[oA]at hb;have h0:=oE hb.1;have h1:=oE hb.2;subst h0; subst h1;split at hh
  next l hl=>
   obtain⟨rfl,rfl⟩:=hh;obtain⟨_,hr⟩:=qH hW hl;obtain⟨b,c,m,a1,a2,a3,a4,a5,a6,_,a7⟩:=hv;have ht:=(hW.tags r _ _ hr rfl).2;rw[ht]at a5;cases a5;have hlen:(l.take n).length=n:=by rw[List.length_take]; change 0+n<=l.length at a6; omega
   have hk:=tY hW r;have hl':(H.set r none).length=H.length:=R
   have e0:=LG hW (some b) (some n);have e2:Ext n0 w G μ w G (upd μ (H.set r none).length (some b) (some n)):=by rw[hl']; exact e0
   refine⟨_,e0,?_,?_⟩
   ·have:=MG hk e2 ⟨aK ty (l.take n),e,true,false,some ⟨ty,l.take n⟩⟩ (λ_ _ _ _ _=>rfl) ?_ ?_ ?_ (O7 hk e2 (λt l h1 h2=>by cases h1) (λ_ _ _=>rfl) (λj b1 hj hf hh=>by cases hh; exact(hW.rows.sep j b hj).2.2.2 r _ hr rfl a1))
    ·grind
    ·rintro b' hb';cases hb';obtain⟨c1,h2,h3,h4⟩:=hW.blk r _ b hr a1;rw[a7]at h3;refine⟨c1,h2,?_,λh=>(by cases h),λh=>(by cases h),h4.2.2⟩;have h5:=aM.mono e2.toMono rfl _ _ h3;refine aM.mk λi p hp=>?_
     rw[<- rA]at hp;have hi:i<(aK ty l).length/\(aK ty l)[i]?=some p:=W
     exact h5.get hi.2
    ·grind
    ·intro s k' b' hs hf hb' hh;cases hh;obtain⟨hs1,hs2⟩:=uV hs;exact hs2 (hW.inj s r k' _ b hs1 hr hf rfl hb' a1)
   ·rw[VR,A8];refine⟨n,qL _ _ _ _,.inr ⟨b,c,lE _ _ _ _,by rw[a2,a7,Nat.zero_mul],a3,?_,rfl⟩⟩;grind
  ·cases hh
 ·cases h
theorem EM:∀ sh F H,I n0 wi Gi μi nt F H a w->I n0 wi Gi μi nt (EO sh F H).1 (EO sh F H).2 a w
 | [],F,H,hI=>hI
 | (t,k0)::r,F,H,hI=>by
  have skip:I n0 wi Gi μi nt (EO r F H).1 (EO r F H).2 a w:=EM r F H hI;unfold EO;split
  ·exact hI
  next heq=>
   cases heq;split
   ·rename_i s sz ht;split
    ·rename_i k hk;split
     ·rename_i g hg;obtain⟨G,μ,e,hW,hF⟩:=hI;have hv:=hF.slot t;rw[ht]at hv;cases hfz:k.frozen with
      | true =>
       refine EM r _ _ ⟨G,μ,e,hW,hF.named ?_⟩;exact(LS hW hv hk hg (λb h=>h) (λb hb=>by
        obtain⟨_,_,_,_,h5,_⟩:=hW.blk s k b (aG hk) hb;exact h5 hfz)).aW
      | false =>
       obtain⟨e1,w1⟩:=XG hW (aG hk) hfz;refine EM r _ _ ⟨_,μ,e.trans e1,w1,(hF.mono e1.toMono).named ?_⟩;exact(LS (G':=G.or λx=>μ.loc s=some x) hW hv hk hg (λb h=>.inl h) (λb hb=>.inr hb)).aW
     ·grind
    ·grind
   ·grind
  next heq=>
   cases heq;split
   ·rename_i s sz2 ht;cases hsz:Nat.beq sz2 _ with
    | true =>
     have hsz:=oE hsz;subst hsz;split
     next q H1 hA=>obtain⟨G,μ,e,hW,hF⟩:=hI;have hv:=hF.slot t;rw[ht]at hv;obtain⟨G',μ',e1,w1,v1⟩:=aIV hW hA hv;exact EM r _ _ ⟨G',μ',e.trans e1,w1,(hF.mono e1.toMono).named v1.aW⟩
     ·grind
    | false=>exact skip
   ·grind
  next heq=>
   cases heq;split
   next q H1 hA=>obtain⟨G,μ,e,hW,hF⟩:=hI;have hv:=hF.slot t;obtain⟨μ',e1,w1,v1⟩:=aZ9 hW hA hv;exact EM r _ _ ⟨G,μ',e.trans e1,w1,(hF.mono e1.toMono).named v1⟩
   ·grind
  ·grind
theorem KX {sh x}(h:XL sh F H=some x)(hfl:∀ r,μi.loc r=none/\μi.len r=none)(hI:I n0 wi Gi μi nt F H a w):I n0 wi Gi μi nt (D1 sh x 0) (O1 sh x) a w:=by
 unfold XL at h;replace hI:=EM sh F H hI;split at h;rename_i F1 H1 hd;rw[hd]at hI;split at h
 next F' H' ht=>
  obtain⟨hb,h⟩:=aI h;obtain⟨⟨G,μ,e,hW,hF⟩,_⟩:=a3R ht (λr _=>hfl r) hI;obtain⟨h1,h2⟩:=aIB hW hF.slot sh h;have hH:∀ i:Nat,aWV H'[i]? (O1 sh x)[i]?:=by
   intro i;rcases oG i (aS0 sh)with hl|hl
   ·have:=h2 i hl;rwa[Nat.zero_add]at this
   ·have e1:=oE hb;exact .inl (by rw[List.getElem?_eq_none Z,List.getElem?_eq_none (by rw[aNB]; omega)])
  exact⟨G,μ,e,hW.a4W hH,hF.size,h1,hF.defers⟩
 grind
end
def ask {α:Type}(b:Bool)(k:Bool->Option α):Option α:=bif b then k true else k false
def aHD {α:Type}:List Bool->Option α->Option α
 | [],r=>r
 | b::l,r=>bif b then aHD l r else none
def aC {τ α:Type}(x:Option τ)(k:τ->Option α):Option α:=match x with
 | some x=>k x
 | none=>none
def xJ {β γ α:Type}(z:β⊕γ)(f:β->Option α)(g:γ->Option α):Option α:=match z with
 | .inl a=>f a
 | .inr b=>g b
structure Res where
 τ:Type
 val:Option τ
 out:τ->PV
structure aR8 where
 τ:Type
 val:Option τ
 out:τ->PV×Heap
structure Env where
 pure:FuncId->List PV->Option Res
 shr:FuncId->List PV->Heap->Option aR8
 sh:FuncId->Bool
def aQM(E:Env)(g:FuncId)(args:List PV):Option PV:=match E.pure g args with
 | some r=>match r.val with
  | some x=>some (r.out x)
  | none=>none
 | none=>none
def aPN(E:Env)(g:FuncId)(args:List PV)(H:Heap):Option (PV×Heap):=match E.shr g args H with
 | some r=>match r.val with
  | some x=>some (r.out x)
  | none=>none
 | none=>none
def gU(P:Program)(E:Env):Callee:=callee P E.sh (aQM E) (aPN E)
section
variable {α:Type} (P:Program) (E:Env)
def bCK(g:FuncId)(args:List PV)(H:Heap)(k:PV->Heap->Nat->Option α):Option α :=
 bif E.sh g then match E.shr g args H with
  | some r=>aC r.val λx=>k (r.out x).1 (r.out x).2 2
  | none=>none
 else bif eX.noRefs args then bif iD.noRows args then match E.pure g args with
  | some r=>aC r.val λx=>k (r.out x) H 0
  | none=>none
  else none
 else bif aO5 P g then match aBH (λp=>inl false H depth p) args with
  | some qs=>bif iD.noRows qs then match E.pure g qs with
   | some r=>aC r.val λx=>bif flat (r.out x) then k (r.out x) H 1 else none
   | none=>none
   else none
  | none=>none
 else match EE H (args.flatMap (λp=>reach H depth p))with
  | H1=>match aBH (λp=>inl true H1 depth p) args with
   | some qs=>bif iD.noRows qs then match E.pure g qs with
    | some r=>aC r.val λx=>k (r.out x) H1 2
    | none=>none
    else none
   | none=>none
def bAS:Frm->Nat->Bool->Frm
 | [],_,_=>[]
 | (s,p)::r,t,b=>bif Nat.beq s t then (s,.lit (.bool b))::r else (s,p)::bAS r t b
def a2J(F:Frm)(x:Operand)(b:Bool)(k:Frm->Bool->Option α):Option α:=match x with
 | .tmp t=>ask b λb=>k (bAS F t b) b
 | _=>ask b λb=>k F b
def aU0(F:Frm)(l:List Oper)(o:Oper)(k:Frm->Bool->Option α):Option α :=
 match o.guard with
 | none=>k F true
 | some (j,want)=>match l[j]? with
  | some p=>match p.dst with
   | some t=>match dX F t with
    | .lit (.bool b)=>ask b λb=>k (bAS F t b) (bif b then want else !want)
    | .lit _=>k F false
    | _=>none
   | none=>none
  | none=>none
def bEZ(op:BinOp)(k1:IntKind)(a b:Int)(k:Value->Option α):Option α:=match op with
 | .quo=>bif eqI b 0 then none else k (.int k1 (aB k1 (a.tdiv b)))
 | .rem=>bif eqI b 0 then none else k (.int k1 (a.tmod b))
 | op=>match aY7 op k1 a b with
  | some v=>k v
  | none=>none
def isX:BinOp->Bool
 | .add|.sub|.mul|.quo|.rem|.eql|.neq|.lss|.leq|.gtr|.geq=>true
 | _=>false
def aU7:BinOp->Bool
 | .shl|.shr=>true
 | _=>false
def a3E(op:BinOp)(k:IntKind)(x y:Int):Option Value:=match op with
 | .shl=>some (.int k (k.wrap (x*2^(min y.toNat k.bits))))
 | .shr=>some (.int k (x.fdiv (2^(min y.toNat k.bits))))
 | _=>none
def aHN(F:Frm)(H:Heap)(o:Oper)(k:Frm->PV->Heap->Nat->Option α):Option α:=match opu P (gU P E) F H o with
 | some (v,H',c)=>k F v H' c
 | none=>none
def a97(F:Frm) (x:Operand) (k:Frm->Option α):Option α:=match ev F x with
 | .lit (.bool b)=>a2J F x b λF _=>k F
 | _=>k F
def aXT:List Operand->Frm->(Frm->Option α)->Option α
 | [],F,k=>k F
 | x::r,F,k=>a97 F x λF=>aXT r F k
def opK(F:Frm)(H:Heap)(o:Oper)(k:Frm->PV->Heap->Nat->Option α):Option α :=
 bif typed P F o then match top P F H o with
  | some (cs,v,H',c)=>aHD cs (k F v H' c)
  | none=>none
 else match o.op with
  | .binOp op _ x y _=>match ev F x,ev F y with
   | .lit (.int k1 a),.lit (.int k2 b)=>bif aU7 op then (bif ltI b 0 then none else match a3E op k1 a b with
     | some v=>k F (.lit v) H 0
     | none=>none)
    else bif R8 k1 k2&&isX op then bEZ op k1 a b λv=>k F (.lit v) H 0 else aHN P E F H o k
   | _,_=>aXT [x,y] F λF=>aHN P E F H o k
  | .unOp ..=>aXT o.op.operands.toList F λF=>aHN P E F H o k
  | .pick c a b=>match ev F c with
   | .lit (.bool t)=>a2J F c t λF t=>k F (bif t then ev F a else ev F b) H 0
   | _=>none
  | .call c=>match c.callee with
   | .value f=>match ev F f with
    | .lit (.func (.func g) first caps)=>bCK P E g (lits first++c.args.toList.map (ev F)++lits caps) H (k F)
    | .clo (.func g) first caps=>bCK P E g (first++c.args.toList.map (ev F)++caps) H (k F)
    | _=>none
   | _=>aHN P E F H o k
  | _=>aHN P E F H o k
def aK0:Nat->Nat->Int->(Int->Option α)->Option α
 | 0,_,_,_=>none
 | n+1,j,v,f=>bif eqI v (j:Int) then f j else aK0 n (j+1) v f
def bFD(t:TypeId):Option Nat:=match P.underlying t with
 | some (.array n _)=>some n
 | _=>none
def bEM:PV->Bool
 | .hptr _ _|.iptr _=>true
 | _=>false
def bF6:PV->Bool
 | .agg _=>true
 | _=>false
def xIdx(H:Heap) (t:TypeId) (p:PV) (i:Int):Option (PV×Heap×Nat):=match p,P.underlying t with
 | .agg cs,some (.array n e)=>match vE P e with
  | some sz=>bif aF i n then p0 H (HU P e (cs.drop (i.toNat*sz))) else none
  | none=>none
 | _,_=>none
def bE7(l:List Oper)(F:Frm)(H:Heap)(o:Oper)(k:Frm->PV->Heap->Nat->Option α):Option α:=match o.op with
 | .makeSlice t n c=>bif aQJ l o.dst then (match YS P H t (ev F n) (ev F c)with
   | some (cs,v,H',c')=>aHD cs (k F v H' c')
   | none=>none) else opK P E F H o k
 | .indexAddr t x i=>match bFD P t,ev F i with
  | some n,.lit (.int _ v)=>bif aSR (ev F x) then aK0 n 0 v (λj=>match yU P H t (ev F x) j with
    | some (cs,p,H',c)=>aHD cs (k F p H' c)
    | none=>none) else bif bEM (ev F x) then aK0 n 0 v (λj=>match p0 H (aB1 P t (ev F x) j)with
    | some (p,H',c)=>k F p H' c
    | none=>none) else opK P E F H o k
  | _,_=>opK P E F H o k
 | .index t x i=>match bFD P t,ev F i with
  | some n,.lit (.int _ v)=>bif bF6 (ev F x) then aK0 n 0 v (λj=>match xIdx P H t (ev F x) j with
    | some (p,H',c)=>k F p H' c
    | none=>none) else opK P E F H o k
  | _,_=>opK P E F H o k
 | .slice t x lo hi none=>match ev F x with
  | .own r sz=>match aL9 H r,P.underlying t with
   | some g,some (.slice e)=>bif aQE g.t then (match vE P e with
    | some n=>bif Nat.beq n sz then ask (Nat.beq g.l.length 0) λz=>(match aOG g H r sz (lo.map (ev F)) (hi.map (ev F)) z with
      | some (cs,v,H',c)=>aHD cs (k F v H' c)
      | none=>none) else none
    | none=>none) else opK P E F H o k
   | _,_=>opK P E F H o k
  | _=>opK P E F H o k
 | _=>opK P E F H o k
def a5I(l:List Oper)(o:Oper)(F:Frm)(H:Heap)(k:Frm->PV->Heap->Nat->Option α):Option α :=
 aU0 F l o λF b=>bif b then (match mkData P F l o with
  | none=>bE7 P E l F H o k
  | some none=>none
  | some (some (cs,v))=>aHD cs (k F v H 0)) else k F (.lit undef) H 0
def XI(nt:Nat)(l:List Oper):List Oper->Frm->Heap->(Frm->Heap->Option α)->Option α
 | [],F,H,k=>k F H
 | o::rest,F,H,k=>a5I P E l o F H λF v H' _=>match X3 nt F o.dst v with
  | some F'=>XI nt l rest F' H' k
  | none=>none
def stK(nt:Nat)(m:Option Nat)(ms:List Nat)(l:List Oper):List Oper->Nat->Frm->Heap->a7K->(Frm->Heap->a7K->Option α)->Option α
 | [],_,F,H,hl,k=>k F H hl
 | o::rest,j,F,H,hl,k=>match Q8 m o j with
  | none=>a5I P E l o F H λF v H' c=>bif okT m (ms.getD j 0) j (aZI F o) c v H' then (match X3 nt F o.dst v with
   | some F'=>stK nt m ms l rest (j+1) F' H' (bif Nat.beq c 0 then hl else (j,c,aZI F o)::hl) k
   | none=>none) else none
  | some q=>bif aMG o then (bif eX.noRefs (o.op.operands.toList.map (ev F))&&iD.noRows (o.op.operands.toList.map (ev F)) then a5I P E l o F [] λF v X _=>match aT5 q v X H with
    | some (v,H',c)=>bif okT m (ms.getD j 0) j (some q) c v H' then (match X3 nt F o.dst v with
     | some F'=>stK nt m ms l rest (j+1) F' H' (bif Nat.beq c 0 then hl else (j,c,some q)::hl) k
     | none=>none) else none
    | none=>none else none)
   else match stepT (some q) P (gU P E) l o F H with
   | some (v,H',c)=>bif okT m (ms.getD j 0) j (some q) c v H' then (match X3 nt F o.dst v with
    | some F'=>stK nt m ms l rest (j+1) F' H' ((j,2,some q)::hl) k
    | none=>none) else none
   | none=>none
def P5(nt:Nat)(ops:Array Oper)(draw:Bool)(F:Frm)(H:Heap)(k:Frm->Heap->Option α):Option α :=
 bif draw then (bif UO ops&&aXU (aHH ops H) F H then stK P E nt (aHH ops H) (nI ops) ops.toList ops.toList 0 F (bBL (aHH ops H) ops.toList.length H) [] λF H hl=>bif aHJ (nI ops) hl then k F H else none else none)
 else XI P E nt ops.toList ops.toList F H k
end
section
variable {α:Type} {P:Program} {E:Env} {z:α}
theorem aJF {b k}(h:ask b k=some z):k b=some z:=by cases b <;> exact h
theorem L8:∀ {l r},aHD l r=some z->B3 l=true/\r=some z
 | [],r,h=>⟨rfl,h⟩
 | b::l,r,h=>by
  obtain⟨rfl,h⟩:=aI h;exact L8 (l:=l) h
theorem CZ {τ}{x:Option τ}{k}(h:aC x k=some z):∃ y,x=some y/\k y=some z:=by
 cases x with
 | none=>cases h
 | some y=>exact⟨y,rfl,h⟩
theorem aUN {g args H k}(h:bCK P E g args H k=some z):∃ v H' c,gU P E g args H=some (v,H',c)/\k v H' c=some z:=by
 unfold bCK at h;unfold gU callee;cases hsh:E.sh g with
 | true =>
  rw[hsh]at h;simp only[oC]at h ⊢;split at h
  next r hr=>obtain⟨x,h1,h2⟩:=CZ h;exact⟨_,_,_,by simp only[aPN,hr,h1],h2⟩
  ·cases h
 | false =>
  rw[hsh]at h;simp only[oD]at h ⊢;cases hn:eX.noRefs args with
  | true =>
   rw[hn]at h;obtain⟨hnr,h⟩:=aI h;split at h
   next r hr=>obtain⟨x,h1,h2⟩:=CZ h;exact⟨_,_,_,by simp only[hnr,oC,aQM,hr,h1],h2⟩
   ·cases h
  | false =>
   rw[hn]at h;simp only[oD]at h ⊢;cases hf:aO5 P g with
   | true =>
    rw[hf]at h;split at h
    ·rename_i qs hq;obtain⟨hnr,h⟩:=aI h;split at h
     next r hr=>obtain⟨x,h1,h2⟩:=CZ h;obtain⟨h3,h2⟩:=aI h2;exact⟨_,_,_,by simp only[hq,hnr,aQM,hr,h1,h3,oC],h2⟩
     ·cases h
    ·cases h
   | false =>
    rw[hf]at h;simp only[oD]at h ⊢;split at h
    ·rename_i qs hq;obtain⟨hnr,h⟩:=aI h;split at h
     next r hr=>obtain⟨x,h1,h2⟩:=CZ h;exact⟨_,_,_,by simp only[hq,hnr,oC,aQM,hr,h1],h2⟩
     ·cases h
    ·cases h
theorem aW2 {t b}:∀ {F},dX F t=.lit (.bool b)->bAS F t b=F
 | [],_=>rfl
 | (s,p)::r,h=>by
  simp only[dX]at h;simp only[bAS];cases hs:Nat.beq s t with
  | true=>grind
  | false=>rw[hs]at h; simp only[oD]at h ⊢; rw[aW2 h]
theorem Y9 {F x b k}(h:a2J F x b k=some z)(hx:ev F x=.lit (.bool b)):k F b=some z:=by
 unfold a2J at h;split at h
 ·have:=aJF h;rwa[aW2 (by simpa only[ev]using hx)]at this
 ·exact aJF h
theorem aMK {F l o k}(h:aU0 F l o k=some z):∃ b,guardOf F l o=some b/\k F b=some z:=by
 unfold aU0 at h;unfold guardOf;cases hg:o.guard with
 | none=>grind
 | some g =>
  obtain⟨j,want⟩:=g;rw[hg]at h;simp only at h ⊢;cases hp:l[j]? with
  | none=>grind
  | some p =>
   rw[hp]at h;simp only at h ⊢;cases ht:p.dst with
   | none=>rw[ht]at h; cases h
   | some t =>
    rw[ht]at h;simp only at h ⊢;split at h
    next b hb=>have:=aJF h;rw[aW2 hb]at this;grind
    ·grind
    ·cases h
theorem a5N {op k1 a b k}(h:bEZ op k1 a b k=some z):∃ v,aY7 op k1 a b=some v/\k v=some z:=by
 unfold bEZ at h;split at h
 ·cases hb:eqI b 0 with
  | true=>grind
  | false=>rw[hb]at h; exact⟨_,by simp only[aY7,hb,oD],h⟩
 ·cases hb:eqI b 0 with
  | true=>grind
  | false=>rw[hb]at h; exact⟨_,by simp only[aY7,hb,oD],h⟩
 grind
theorem QD {F H o k}(h:aHN P E F H o k=some z):∃ v H' c,opu P (gU P E) F H o=some (v,H',c)/\k F v H' c=some z:=by
 unfold aHN at h;grind
theorem aYK {F o op xt yt x y k1 k2 a b v}(ho:o.op=.binOp op xt x y yt)(hx:ev F x=.lit (.int k1 a))(hy:ev F y=.lit (.int k2 b))(hb:ltI b 0=false)(hv:a3E op k1 a b=some v):xC P F o=some (.lit v):=by
 have hb:¬ b<0:=by rw[aE]at hb; grind
 have h1:valOf F x=.int k1 a:=by simp[valOf,hx,aNE]
 have h2:valOf F y=.int k2 b:=by simp[valOf,hy,aNE]
 have h3:YJ F o.op.operands.toList=true:=by simp[ho,Op.operands,YJ,hx,hy,aNE]
 have h4:WG o.op=false:=by simp[ho,WG]
 unfold xC;rw[h3,h4];cases op <;> simp only[a3E]at hv <;> try (cases hv; done)
 all_goals
  simp only[oJ]at hv;subst hv;simp[execOp,ho,h1,h2,eqGuard,binOp,Op.shift,hb,U5,aIY]
  try rfl
theorem a1N {F x k}(h:a97 F x k=some z):k F=some z:=by
 unfold a97 at h;split at h
 next b hb=> exact Y9 h hb
 grind
theorem aC3:∀ {l:List Operand} {F:Frm} {k:Frm->Option α},aXT l F k=some z->k F=some z
 | [],F,k,h=>h
 | x::r,F,k,h=>aC3 (l:=r) (a1N h)
theorem aDQ {F H o k}(h:opK P E F H o k=some z):∃ v H' c,opx P (gU P E) F H o=some (v,H',c)/\k F v H' c=some z:=by
 unfold opK at h;unfold opx;cases ht:typed P F o with
 | true =>
  rw[ht]at h;split at h
  next cs v H' c hc=>obtain⟨h1,h2⟩:=L8 h;grind
  ·cases h
 | false =>
  rw[ht]at h;simp only[oD]at h ⊢;split at h
  next op xt x y yt ho=>
   split at h
   ·rename_i k1 a k2 b hx hy;cases hsh:aU7 op with
    | true =>
     rw[hsh]at h;cases hb:ltI b 0 with
     | true=>rw[hb]at h; cases h
     | false =>
      rw[hb]at h;split at h
      ·rename_i v hv;have hp:=aYK (P:=P) ho hx hy hb hv;have hxb:aY7 op k1 a b=none:=by cases op <;> simp only[aU7]at hsh <;> first|rfl|(cases hsh; done)
       refine⟨_,_,_,?_,h⟩;simp only[opu,ho,hx,hy,hxb,hp,p0,Bool.cond_self]
      ·cases h
    | false =>
    rw[hsh]at h;simp only[oD]at h;cases hb:(R8 k1 k2&&isX op)with
    | true =>
     rw[hb]at h;simp only[oC]at h;simp only[oA]at hb;obtain⟨v,h1,h2⟩:=a5N h;exact⟨_,_,_,by simp only[opu,ho,hx,hy,hb.1,oC,h1],h2⟩
    | false=>rw[hb]at h; exact QD h
   ·exact QD (aC3 h)
  ·exact QD (aC3 h)
  next c a b ho=>
   split at h
   next t hc=>exact⟨_,_,_,by simp only[opu,ho,hc],Y9 h hc⟩
   ·cases h
  next c ho=>
   split at h
   ·rename_i f hc;split at h
    next g first caps hf=>obtain⟨v,H',c',h1,h2⟩:=aUN h;exact⟨v,H',c',by simp only[opu,ho,hc,hf,h1],h2⟩
    next g first caps hf=>obtain⟨v,H',c',h1,h2⟩:=aUN h;exact⟨v,H',c',by simp only[opu,ho,hc,hf,h1],h2⟩
    ·cases h
   ·exact QD h
  ·exact QD h
theorem XA {f v}:∀ {n j},aK0 n j v f=some z->f v=some z
 | 0,_,h=>by cases h
 | n+1,j,h=>by
  unfold aK0 at h;cases hb:eqI v j with
  | true =>
   rw[hb]at h;rw[eG,decide_eq_true_eq]at hb;grind
  | false =>
   rw[hb]at h;exact XA h
theorem bDD {p}(h:bEM p=true):isT p=false:=by cases p <;> first|rfl|cases h
theorem a69 {l F H o k}(h:bE7 P E l F H o k=some z):∃ v H' c,opz P (gU P E) l F H o=some (v,H',c)/\k F v H' c=some z:=by
 unfold bE7 at h;split at h
 next t n c ho=>
  cases hb:aQJ l o.dst with
  | false =>
   rw[hb]at h;obtain⟨v,H',c',h1,h2⟩:=aDQ h;exact⟨v,H',c',by simp only[opz,ho,hb,oD,h1],h2⟩
  | true =>
   rw[hb]at h;split at h
   next cs v1 H1 k1 h1=>obtain⟨h3,h4⟩:=L8 h;exact⟨_,_,_,by simp only[opz,ho,hb,oC,h1,h3],h4⟩
   ·cases h
 next t x i ho=>
  have plain:opK P E F H o k=some z->∃ v H' c,opz P (gU P E) l F H o=some (v,H',c)/\k F v H' c=some z:=λh=>by
   obtain⟨v,H',c',h1,h2⟩:=aDQ h;exact⟨v,H',c',by simp only[opz,ho,h1],h2⟩
  split at h
  next n k1 v hn hv=>
   cases hb:aSR (ev F x)with
   | false =>
    rw[hb]at h;cases hb2:bEM (ev F x)with
    | false=>rw[hb2]at h; exact plain h
    | true =>
     rw[hb2]at h;have h:=XA h;split at h
     ·rename_i p H1 c1 h1;refine⟨_,_,_,?_,h⟩;have ht:typed P F o=false:=by simp only[typed,ho,hb,bDD hb2,Bool.or_false]
      simp only[opz,ho,opx,ht,oD,opu,hv,h1]
     ·cases h
   | true =>
    rw[hb]at h;have h:=XA h;split at h
    ·rename_i cs p H1 c1 h1;obtain⟨h3,h4⟩:=L8 h;refine⟨_,_,_,?_,h4⟩;have ht:typed P F o=true:=by simp only[typed,ho,hb,Bool.or_true]
     simp only[opz,ho,opx,ht,oC,top,hv,h1,h3]
    ·cases h
  ·grind
 next t x i ho=>
  have plain:opK P E F H o k=some z->∃ v H' c,opz P (gU P E) l F H o=some (v,H',c)/\k F v H' c=some z:=λh=>by
   obtain⟨v,H',c',h1,h2⟩:=aDQ h;exact⟨v,H',c',by simp only[opz,ho,h1],h2⟩
  split at h
  next n k1 v hn hv=>
   cases hb:bF6 (ev F x)with
   | false=>rw[hb]at h; exact plain h
   | true =>
    rw[hb]at h;simp only[oC]at h;have h:=XA h;split at h
    ·rename_i p H1 c1 h1;refine⟨_,_,_,?_,h⟩;obtain⟨cs,hcs⟩:∃ cs,ev F x=.agg cs:=by
      revert hb
      cases ev F x <;> intro hb <;> first|exact⟨_,rfl⟩|cases hb
     have ht:typed P F o=false:=by simp only[typed,ho,hcs,isS]
     simp only[opz,ho,opx,ht,oD,opu,hv,hcs];rw[hcs]at h1;unfold bFD at hn;split at hn
     next n1 e1 hu=>unfold xIdx at h1;simp only[hu]at h1 ⊢;exact h1
     ·cases hn
    ·cases h
  ·exact plain h
 next t x lo hi ho=>
  have plain:opK P E F H o k=some z->∃ v H' c,opz P (gU P E) l F H o=some (v,H',c)/\k F v H' c=some z:=λh=>by
   obtain⟨v,H',c',h1,h2⟩:=aDQ h;exact⟨v,H',c',by simp only[opz,ho,h1],h2⟩
  split at h
  next r sz hx=>
   split at h
   ·rename_i g e hg hu;cases hb:aQE g.t with
    | false=>rw[hb]at h; exact plain h
    | true =>
     rw[hb]at h;simp only[oC]at h;split at h
     ·rename_i n hn;obtain⟨hbn,h⟩:=aI h;replace h:=aJF h;split at h
      ·rename_i cs v H1 c1 h1;obtain⟨h3,h4⟩:=L8 h;refine⟨_,_,_,?_,h4⟩;have ht:typed P F o=true:=by simp only[typed,ho,hx,isT,Bool.true_or]
       simp only[opz,ho,opx,ht,oC,top,hx,isS,isQ,oD,YN,hu,hn,hg,hbn,hb,Bool.true_and,h1,h3]
      ·cases h
     ·cases h
   ·exact plain h
  ·exact plain h
 next hno hno2 hno3 hno4=>
  obtain⟨v,H',c',h1,h2⟩:=aDQ h;refine⟨v,H',c',?_,h2⟩;unfold opz;split
  next t n c ho=>exact(hno t n c ho).elim
  ·exact h1
theorem aH7 {l F H o k}(h:a5I P E l o F H k=some z):∃ v H' c,BB P (gU P E) l o F H=some (v,H',c)/\k F v H' c=some z:=by
 obtain⟨b,h1,h2⟩:=aMK h;unfold BB;cases b with
 | true =>
  simp only[h1];split at h2
  next hm=>simp only[hm];exact a69 h2
  ·grind
  ·obtain⟨h3,h4⟩:=L8 h2;grind
 | false=>grind
theorem EF {nt l k}:∀ {r F H},XI P E nt l r F H k=some z->∃ F' H',aBK P (gU P E) nt l r F H=some (F',H')/\k F' H'=some z
 | [],F,H,h=>⟨F,H,rfl,h⟩
 | o::r,F,H,h=>by
  obtain⟨v,H1,c,h1,h2⟩:=aH7 h;split at h2
  next F1 hp=>obtain⟨F',H',h3,h4⟩:=EF h2;refine⟨F',H',?_,h4⟩;simp only[aBK,h1,aHK,hp,M9,Bool.cond_self,h3]
  grind
theorem aJZ {nt m ms l F0 H0 k}:∀ {r j F H hl},stK P E nt m ms l r j F H hl k=some z->r=l.drop j->j<=l.length->aFX P (gU P E) nt m ms l F0 H0 j=some (F,H,hl)->∃ F' H' hl',aFX P (gU P E) nt m ms l F0 H0 l.length=some (F',H',hl')/\k F' H' hl'=some z
 | [],j,F,H,hl,h,hr,hjl,hs=>by
  have h1:(l.drop j).length=0:=by rw[<- hr]; rfl
  rw[List.length_drop]at h1;have h2:j=l.length:=Z
  subst h2;exact⟨F,H,hl,hs,h⟩
 | o::r,j,F,H,hl,h,hr,hjl,hs=>by
  have hj:l[j]?=some o:=by
   have:(l.drop j)[0]?=some o:=by rw[<- hr]; rfl
   grind
  have hr':r=l.drop (j+1):=by
   have:(l.drop j).tail=r:=by rw[<- hr]; rfl
   simp_all
  simp only[stK]at h;split at h
  next hres=>
   obtain⟨v,H1,c,h1,h2⟩:=aH7 h;obtain⟨hok,h2⟩:=aI h2;split at h2
   next F1 hp=>refine aJZ h2 hr' (oO.1 hj).1 ?_;simp only[aFX,hs,hj,hres,stepT,h1,hok,oC,aHK,hp,M9,aKK];grind
   ·cases h2
  next q hres=>
   cases hcall:aMG o with
   | true =>
    rw[hcall]at h;obtain⟨hnr,h⟩:=aI h;obtain⟨v0,X,c0,h1,h⟩:=aH7 h;split at h
    ·rename_i v H1 c hct;obtain⟨hok,h2⟩:=aI h;split at h2
     ·rename_i F1 hp;refine aJZ h2 hr' (oO.1 hj).1 ?_;have hop:∃ cc,o.op=.call cc:=by
       unfold aMG at hcall;split at hcall
       ·unfold aK8 at hcall;split at hcall
        next cc hcc=> exact⟨cc,hcc⟩
        ·cases hcall
       ·cases hcall
      obtain⟨cc,hop⟩:=hop;have hst:stepT (some q) P (gU P E) l o F H=some (v,H1,c):=by
       simp only[stepT,hop];rw[<- hop,hnr,oC,h1];exact hct
      simp only[aFX,hs,hj,hres,hst,hok,oC,aHK,hp,M9,aKK];cases Nat.beq c 0 <;> rfl
     ·cases h2
    ·cases h
   | false =>
   rw[hcall]at h;simp only[oD]at h;split at h
   ·rename_i v H1 c h1;obtain⟨hok,h2⟩:=aI h;split at h2
    ·rename_i F1 hp;refine aJZ h2 hr' (oO.1 hj).1 ?_;have hc:c=2:=by
      simp only[stepT]at h1;split at h1
      ·split at h1
       ·obtain⟨_,h1⟩:=aI h1;simp only[oJ,oP]at h1;exact h1.2.2.symm
       ·cases h1
      ·obtain⟨_,h1⟩:=aI h1;split at h1
       ·rcases VF h1 with ⟨_,_,_,_,_,_,h1,_⟩|⟨_,_,_,_,_⟩
        ·exact h1
        ·obtain⟨_,_,_,ha⟩:=aLH hres;unfold aEZ at ha;rw[hcall,Bool.or_false]at ha;unfold isVar at ha;split at ha
         ·simp_all
         ·cases ha
       ·cases h1
      ·cases h1
     subst hc;simp only[aFX,hs,hj,hres,h1,hok,oC,aHK,hp,M9,aKK];rfl
    ·cases h2
   ·cases h
theorem aAM {nt ops F H k}(h:P5 P E nt ops true F H k=some z):∃ F' H',aFB P (gU P E) nt ops F H=some (F',H')/\k F' H'=some z:=by
 obtain⟨h1,h⟩:=aI h;obtain⟨F',H',hl,h2,h3⟩:=aJZ h (by rfl) (Nat.zero_le _) rfl;obtain⟨h4,h3⟩:=aI h3;exact⟨F',H',by simp only[aFB,h1,oC,h2,h4],h3⟩
theorem aSE {nt id ops draw F H k}(hcl:eO P (gU P E))(hP:P.follows .mixedOrders=true)(h:P5 P E nt ops draw F H k=some z) :
  ∃ F' H',k F' H'=some z/\∀ {n0 wi Gi μi a w Q},I n0 wi Gi μi nt F H a w->(∀ a' w',I n0 wi Gi μi nt F' H' a' w'->Q .normal a' w')->(Code.region id ops draw).wp P Q a w:=by
 cases draw with
 | true =>
  obtain⟨F',H',h2,h3⟩:=aAM h;exact⟨F',H',h3,λhI hQ=>aST hcl hP h2 hI hQ⟩
 | false =>
  obtain⟨F',H',h2,h3⟩:=EF h;exact⟨F',H',h3,λhI hQ=>wp_region_list (JS hcl ops.toList F H _ _ h2 hI hQ)⟩
end
def aEN {α:Type}(m:Nat):Frm->(Frm->α)->α
 | [],k=>k []
 | (t,p)::r,k=>bif aMV m t then aEN m r (λr=>k ((t,p)::r)) else aEN m r k
theorem UG {α} m:∀ F (k:Frm->α),∃ F',aEN m F k=k F'/\∀ t,dX F' t=dX F t\/dX F' t=.junk
 | [],k=>⟨[],rfl,λt=>.inl rfl⟩
 | (s,p)::r,k=>by
  simp only[aEN];cases hs:aMV m s with
  | true =>
   obtain⟨F',h1,h2⟩:=UG m r λr=>k ((s,p)::r)
   refine⟨(s,p)::F',h1,λt=>?_⟩;rw[jF,jF];grind
  | false =>
   have key:∀ (F:Frm) (k:Frm->α),∃ F',aEN m F k=k F'/\∀ t,dX F' t=if aMV m t then dX F t else .junk:=by
    intro F
    induction F with
    | nil=>intro k; exact⟨[],rfl,λt=>by simp[dX]⟩
    | cons x r ih =>
     intro k;obtain⟨s,p⟩:=x;simp only[aEN];cases hs:aMV m s with
     | true =>
      obtain⟨F',h1,h2⟩:=ih λr=>k ((s,p)::r)
      refine⟨(s,p)::F',h1,λt=>?_⟩;rw[jF,jF,h2 t];grind
     | false =>
      obtain⟨F',h1,h2⟩:=ih k;refine⟨F',h1,λt=>?_⟩;rw[jF,h2 t]
      by_cases hts:t=s
      ·subst hts; simp[hs]
      ·simp[hts]
   obtain⟨F',h1,h2⟩:=key r k;refine⟨F',h1,λt=>?_⟩;rw[jF,h2 t];grind
@[reducible] def eC:List (Ex×List (Nat×Kd))->Type
 | []=>Empty
 | [(_,s)]=>Shape.den s
 | (_,s)::b::r=>Shape.den s⊕eC (b::r)
structure dN where
 sh:List (Nat×Kd)
 exits:List (Ex×List (Nat×Kd))
 run:Shape.den sh->Option (eC exits)
def JG:(l:List (Ex×List (Nat×Kd)))->eC l->Ex×Frm×Heap
 | [],z=>Empty.elim z
 | [(e,s)],z=>(e,D1 s z 0,O1 s z)
 | (e,s)::b::r,z=>match z with
  | .inl x=>(e,D1 s x 0,O1 s x)
  | .inr y=>JG (b::r) y
def a2Y {α}:(l:List (Ex×List (Nat×Kd)))->eC l->(Ex->Frm->Heap->Option α)->Option α
 | [],z,_=>Empty.elim z
 | [(e,s)],z,k=>k e (D1 s z 0) (O1 s z)
 | (e,s)::b::r,z,k=>xJ z (λx=>k e (D1 s x 0) (O1 s x)) (λy=>a2Y (b::r) y k)
def a0S:Ex->Ex->Bool
 | .normal,.normal=>true
 | .exit i,.exit j=>Nat.beq i j
 | .ret,.ret=>true
 | _,_=>false
def aIL:(l:List (Ex×List (Nat×Kd)))->Ex->Frm->Heap->Option (eC l)
 | [],_,_,_=>none
 | [(e,s)],ex,F,H=>bif a0S e ex then XL s F H else none
 | (e,s)::b::r,ex,F,H=>bif a0S e ex then (match XL s F H with|some x=>some (.inl x)|none=>none) else (match aIL (b::r) ex F H with|some y=>some (.inr y)|none=>none)
section
variable {α:Type} (P:Program) (E:Env) (nt bZ:Nat) (lt:Nat->Option dN)
def KW:Code->Frm->Heap->(Ex->Frm->Heap->Option α)->Option α
 | .skip,F,H,k=>k .normal F H
 | .label _,F,H,k=>k .normal F H
 | .region _ ops draw,F,H,k=>P5 P E nt ops draw F H λF H=>aEN bZ F λF=>k .normal F H
 | .seq a b,F,H,k=>KW a F H λex F H=>match ex with
  | .normal=>KW b F H k
  | .exit i=>k (.exit i) F H
  | .ret=>k .ret F H
 | .cond c a b,F,H,k=>match ev F c with
  | .lit (.bool t)=>a2J F c t λF t=>bif t then KW a F H k else KW b F H k
  | _=>none
 | .block id a,F,H,k=>KW a F H λex F H=>match ex with
  | .exit i=>bif Nat.beq i id then k .normal F H else k (.exit i) F H
  | .normal=>k .normal F H
  | .ret=>k .ret F H
 | .loop a,F,H,k=>match lt (b8 a)with
  | some s=>match XL s.sh F H with
   | some x=>aC (s.run x) λz=>a2Y s.exits z k
   | none=>none
  | none=>none
 | .exit id,F,H,k=>k (.exit id) F H
 | .scope a,F,H,k=>KW a F H k
 | .ret,F,H,k=>k .ret F H
 | _,_,_,_=>none
def aPT sh exits (ex:Ex)(F:Frm)(H:Heap):Option (Shape.den sh⊕eC exits):=match ex with
 | .normal=>match XL sh F H with
  | some y=>some (.inl y)
  | none=>none
 | .exit i=>match aIL exits (.exit i) F H with
  | some z=>some (.inr z)
  | none=>none
 | .ret=>match aIL exits .ret F H with
  | some z=>some (.inr z)
  | none=>none
def jW(a:Code) (sh:List (Nat×Kd)) (exits:List (Ex×List (Nat×Kd))) (x:Shape.den sh):Option (Shape.den sh⊕eC exits) :=
 KW P E nt bZ lt a (D1 sh x 0) (O1 sh x) (aPT sh exits)
end
def bF {σ τ:Type}(step:σ->Option (σ⊕τ)):Nat->σ->Option τ
 | 0,_=>none
 | n+1,x=>match step x with
  | some (.inl y)=>bF step n y
  | some (.inr z)=>some z
  | none=>none
def bG:Code->List Code
 | .seq a b=>bG a++bG b
 | .cond _ a b=>bG a++bG b
 | .block _ a=>bG a
 | .scope a=>bG a
 | .loop a=>[a]
 | _=>[]
section
variable {α:Type} {P:Program} {E:Env} {nt bZ:Nat} {lt:Nat->Option dN}
def bFW(P:Program) (nt:Nat) (c:Code) (F:Frm) (H:Heap) (r:Ex×Frm×Heap):Prop :=
 ∀ (n0:Nat->Prop) (wi:World) (Gi:Gd) (μi:Mp) (a:Act) (w:World),(∀ r,μi.loc r=none/\μi.len r=none)->I n0 wi Gi μi nt F H a w->bGT P n0 wi Gi μi nt c a w r
def eT(P:Program)(nt:Nat)(a:Code)(s:dN):Prop :=
 ∀ x z,s.run x=some z->bFW P nt (.loop a) (D1 s.sh x 0) (O1 s.sh x) (JG s.exits z)
theorem UC:∀ {l:List (Ex×List (Nat×Kd))} {z:eC l} {k:Ex->Frm->Heap->Option α} {y:α},a2Y l z k=some y->k (JG l z).1 (JG l z).2.1 (JG l z).2.2=some y
 | [],z,_,_,_=>Empty.elim z
 | [(e,s)],z,k,y,h=>h
 | (e,s)::b::r,z,k,y,h=>by
  cases z with
  | inl x=>exact h
  | inr x=>exact UC (l:=b::r) (z:=x) h
theorem aOX {a b}(h:a0S a b=true):a=b:=by cases a <;> cases b <;> simp only[a0S]at h <;> first|rfl|rfl|simp_all
theorem aD7 {n0 wi Gi μi}(hfl:∀ r,μi.loc r=none/\μi.len r=none){ex F H}:∀ {l z},aIL l ex F H=some z ->
  (JG l z).1=ex/\∀ a w,I n0 wi Gi μi nt F H a w->I n0 wi Gi μi nt (JG l z).2.1 (JG l z).2.2 a w
 | [],z,_=>Empty.elim z
 | [(e,s)],z,h=>by
  obtain⟨hb,h⟩:=aI h;exact⟨aOX hb,λa w hI=>KX h hfl hI⟩
 | (e,s)::b::r,z,h=>by
  simp only[aIL]at h;cases hb:a0S e ex with
  | true =>
   rw[hb]at h;simp only[oC]at h;split at h
   next x hx=>simp only[oJ]at h;subst h;exact⟨aOX hb,λa w hI=>KX hx hfl hI⟩
   ·cases h
  | false =>
   rw[hb]at h;simp only[oD]at h;split at h
   next x hx=>simp only[oJ]at h;subst h;exact aD7 hfl (z:=x) hx
   ·cases h
theorem sW(hcl:eO P (gU P E))(hP:P.follows .mixedOrders=true):∀ c F H k (z:α),(∀ a∈bG c,∀ s,lt (b8 a)=some s->eT P nt a s) ->
  KW P E nt bZ lt c F H k=some z->∃ r ,k r.1 r.2.1 r.2.2=some z/\bFW P nt c F H r
 | .skip,F,H,k,z,hl,h=>⟨(.normal,F,H),h,λ_ _ _ _ _ _ _ hI=>wp_skip ⟨rfl,hI⟩⟩
 | .label l,F,H,k,z,hl,h=>⟨(.normal,F,H),h,λ_ _ _ _ _ _ _ hI=>wp_label ⟨rfl,hI⟩⟩
 | .region id ops draw,F,H,k,z,hl,h=>by
  simp only[KW]at h;obtain⟨F1,H1,h1,h2⟩:=aSE (id:=id) hcl hP h;obtain⟨F2,h3,h4⟩:=UG bZ F1 λF=>k .normal F H1
  rw[h3]at h1;exact⟨(.normal,F2,H1),h1,λ_ _ _ _ _ _ _ hI=>h2 hI λa' w' hI'=>⟨rfl,hI'.bC3 h4⟩⟩
 | .seq x y,F,H,k,z,hl,h=>by
  simp only[KW]at h;obtain⟨⟨ex,F1,H1⟩,h1,h2⟩:=sW hcl hP x F H _ z (λa ha=>hl a (by simp[bG,ha])) h;cases ex with
  | normal =>
   obtain⟨r,h3,h4⟩:=sW hcl hP y F1 H1 k z (λa ha=>hl a (by simp[bG,ha])) h1;refine⟨r,h3,λn0 wi Gi μi a w hfl hI=>wp_seq (wp_mono (h2 n0 wi Gi μi a w hfl hI) ?_)⟩;rintro e a' w' ⟨rfl,hI'⟩;exact h4 n0 wi Gi μi a' w' hfl hI'
  | exit i =>
   refine⟨(.exit i,F1,H1),h1,λn0 wi Gi μi a w hfl hI=>wp_seq (wp_mono (h2 n0 wi Gi μi a w hfl hI) ?_)⟩;rintro e a' w' ⟨rfl,hI'⟩;exact⟨rfl,hI'⟩
  | ret =>
   refine⟨(.ret,F1,H1),h1,λn0 wi Gi μi a w hfl hI=>wp_seq (wp_mono (h2 n0 wi Gi μi a w hfl hI) ?_)⟩;rintro e a' w' ⟨rfl,hI'⟩;exact⟨rfl,hI'⟩
 | .cond c x y,F,H,k,z,hl,h=>by
  simp only[KW]at h;split at h
  next t ht=>
   replace h:=Y9 h ht;have hc:∀ {n0 wi Gi μi a w},I n0 wi Gi μi nt F H a w->a.eval c=.bool t:=λhI=>by
    obtain⟨G,μ,e,hW,hF⟩:=hI;have hc:=cO hF c;rwa[ht,VR]at hc
   cases t with
   | true =>
    obtain⟨r,h3,h4⟩:=sW hcl hP x F H k z (λa ha=>hl a (by simp[bG,ha])) h;exact⟨r,h3,λn0 wi Gi μi a w hfl hI=>wp_cond (hc hI) (h4 n0 wi Gi μi a w hfl hI)⟩
   | false =>
    obtain⟨r,h3,h4⟩:=sW hcl hP y F H k z (λa ha=>hl a (by simp[bG,ha])) h;exact⟨r,h3,λn0 wi Gi μi a w hfl hI=>wp_cond (hc hI) (h4 n0 wi Gi μi a w hfl hI)⟩
  ·cases h
 | .block id x,F,H,k,z,hl,h=>by
  simp only[KW]at h;obtain⟨⟨ex,F1,H1⟩,h1,h2⟩:=sW hcl hP x F H _ z (λa ha=>hl a (by simp[bG,ha])) h;cases ex with
  | normal =>
   refine⟨(.normal,F1,H1),h1,λn0 wi Gi μi a w hfl hI=>wp_block (wp_mono (h2 n0 wi Gi μi a w hfl hI) ?_)⟩;rintro e a' w' ⟨rfl,hI'⟩;exact⟨rfl,hI'⟩
  | ret =>
   refine⟨(.ret,F1,H1),h1,λn0 wi Gi μi a w hfl hI=>wp_block (wp_mono (h2 n0 wi Gi μi a w hfl hI) ?_)⟩;rintro e a' w' ⟨rfl,hI'⟩;exact⟨rfl,hI'⟩
  | exit i =>
   simp only at h1;cases hi:Nat.beq i id with
   | true =>
    rw[hi]at h1;have:=oE hi;subst this;refine⟨(.normal,F1,H1),h1,λn0 wi Gi μi a w hfl hI=>wp_block (wp_mono (h2 n0 wi Gi μi a w hfl hI) ?_)⟩;rintro e a' w' ⟨rfl,hI'⟩;simp only[Ex.to,Exit.inBlock,if_true];exact⟨trivial,hI'⟩
   | false =>
    rw[hi]at h1;have hne:¬ i=id:=λe=>by rw[e]at hi; simp at hi
    refine⟨(.exit i,F1,H1),h1,λn0 wi Gi μi a w hfl hI=>wp_block (wp_mono (h2 n0 wi Gi μi a w hfl hI) ?_)⟩;rintro e a' w' ⟨rfl,hI'⟩;simp only[Ex.to,Exit.inBlock,hne,if_false];exact⟨trivial,hI'⟩
 | .loop x,F,H,k,z,hl,h=>by
  simp only[KW]at h;split at h
  next s hs=>
   split at h
   next x0 hx=>obtain⟨y,h1,h2⟩:=CZ h;exact⟨JG s.exits y,UC h2,λn0 wi Gi μi a w hfl hI=>hl x (by simp[bG]) s hs x0 y h1 n0 wi Gi μi a w hfl (KX hx hfl hI)⟩
   ·cases h
  ·cases h
 | .exit id,F,H,k,z,hl,h=>⟨(.exit id,F,H),h,λ_ _ _ _ _ _ _ hI=>wp_exit ⟨rfl,hI⟩⟩
 | .scope x,F,H,k,z,hl,h=>by
  simp only[KW]at h;obtain⟨⟨ex,F1,H1⟩,h1,h2⟩:=sW hcl hP x F H _ z (λa ha=>hl a (by simp[bG,ha])) h;refine⟨(ex,F1,H1),h1,λn0 wi Gi μi a w hfl hI=>wp_scope_straight (wp_mono (h2 n0 wi Gi μi a w hfl hI) ?_)⟩;rintro e a' w' ⟨rfl,hI'⟩;cases ex <;> exact⟨rfl,hI'⟩
 | .ret,F,H,k,z,hl,h=>⟨(.ret,F,H),h,λ_ _ _ _ _ _ _ hI=>wp_ret ⟨rfl,hI⟩⟩
 | .rangeFunc ..,F,H,k,z,hl,h=>by simp only[KW]at h; cases h
 | .goto l,F,H,k,z,hl,h=>by simp only[KW]at h; cases h
 | .refuse s,F,H,k,z,hl,h=>by simp only[KW]at h; cases h
theorem eZ(hcl:eO P (gU P E)) (hP:P.follows .mixedOrders=true) {a:Code} {sh:List (Nat×Kd)} {exits:List (Ex×List (Nat×Kd))} {step:Shape.den sh->Option (Shape.den sh⊕eC exits)} (L:Nat)
  (hl:∀ b∈bG a,∀ s,lt (b8 b)=some s->eT P nt b s) (hr:∀ x,jW P E nt bZ lt a sh exits x=step x):eT P nt a ⟨sh,exits,bF step L⟩:=by
 intro x z hz n0 wi Gi μi act w hfl hI;refine wp_loop_ghost (λk a w=>∃ x,bF step k x=some z/\I n0 wi Gi μi nt (D1 sh x 0) (O1 sh x) a w) L ⟨x,hz,hI⟩ ?_;rintro k act w ⟨x,hz,hI⟩;cases k with
 | zero=>cases hz
 | succ k =>
  simp only[bF]at hz;split at hz
  next y hs=>
   rw[<- hr]at hs;obtain⟨⟨ex,F',H'⟩,h1,h2⟩:=sW hcl hP a _ _ _ _ hl hs;refine wp_mono (h2 n0 wi Gi μi act w hfl hI) ?_;rintro e a' w' ⟨rfl,hI'⟩;cases ex with
   | normal =>
    simp only[aPT]at h1;split at h1
    next y' hy=>simp only[oJ,Sum.inl.injEq]at h1;subst h1;exact⟨k,by omega,y',hz,KX hy hfl hI'⟩
    ·cases h1
   | exit i =>
    simp only[aPT]at h1;split at h1
    ·simp at h1
    ·cases h1
   | ret =>
    simp only[aPT]at h1;split at h1
    ·simp at h1
    ·cases h1
  next y hs=>
   simp only[oJ]at hz;subst hz;rw[<- hr]at hs;obtain⟨⟨ex,F',H'⟩,h1,h2⟩:=sW hcl hP a _ _ _ _ hl hs;refine wp_mono (h2 n0 wi Gi μi act w hfl hI) ?_;rintro e a' w' ⟨rfl,hI'⟩;cases ex with
   | normal =>
    simp only[aPT]at h1;split at h1
    ·simp at h1
    ·cases h1
   | exit i =>
    simp only[aPT]at h1;split at h1
    next y' hy=>simp only[oJ,Sum.inr.injEq]at h1;subst h1;obtain⟨h3,h4⟩:=aD7 (nt:=nt) (n0:=n0) (wi:=wi) (Gi:=Gi) hfl hy;have h5:=h4 a' w' hI';exact⟨by rw[h3],h5⟩
    ·cases h1
   | ret =>
    simp only[aPT]at h1;split at h1
    next y' hy=>simp only[oJ,Sum.inr.injEq]at h1;subst h1;obtain⟨h3,h4⟩:=aD7 (nt:=nt) (n0:=n0) (wi:=wi) (Gi:=Gi) hfl hy;have h5:=h4 a' w' hI';exact⟨by rw[h3],h5⟩
    ·cases h1
  ·cases hz
end
@[reducible] def aH:List Kd->Type
 | []=>Unit
 | k::r=>k.den×aH r
def r9:(l:List Kd)->aH l->List PV
 | [],_=>[]
 | k::r,(x,xs)=>GH k x 0::r9 r xs
def aSM:(l:List Kd)->List PV->Option (aH l)
 | [],[]=>some ()
 | k::r,p::ps=>match aJ3 k p [] 0 with
  | some x=>match aSM r ps with
   | some xs=>some (x,xs)
   | none=>none
  | none=>none
 | _,_=>none
def aI1:List Kd->Bool
 | []=>true
 | .own _ _::_|.box _ _::_|.win _ _::_|.bown _ _ _::_|.bque _ _ _::_|.bag _ _ _ _ _::_|.bag2 _ _ _ _ _ _::_|.ar _ _::_=>false
 | _::r=>aI1 r
def Kd.plain:Kd->Bool
 | .list t|.agg t|.ptr t=>t.plain
 | .clo _ ts=>ts.all Ty.plain
 | .hnd _=>false
 | .mpk _=>false
 | _=>true
theorem aHU:∀ ts x,ts.all Ty.plain=true->iD.noRows (aCR ts x)=true
 | [],_,_=>rfl
 | t::r,(x,xs),h=>by
  simp only[List.all_cons,oA]at h;simp only[aCR,iD.noRows,oA];exact⟨UE t x h.1,aHU r xs h.2⟩
theorem a2X:∀ k x n,k.plain=true->iD (GH k x n)=true
 | .int _,_,_,_|.bool,_,_,_|.str,_,_,_|.own _ _,_,_,_|.box _ _,_,_,_|.fn _,_,_,_|.nil0,_,_,_|.val,_,_,_|.nilI,_,_,_|.win _ _,_,_,_|.bown _ _ _,_,_,_|.bque _ _ _,_,_,_|.bag _ _ _ _ _,_,_,_|.bag2 _ _ _ _ _ _,_,_,_|.ar _ _,_,_,_=>rfl
 | .hnd _,_,_,h=>by cases h
 | .mpk _,_,_,h=>by cases h
 | .list t,_,_,h=>h
 | .agg t,x,_,h=>UE t x h
 | .ptr t,x,_,h=>UE t x h
 | .clo _ ts,x,_,h=>by exact aHU ts x h
theorem aPA:∀ ks x,ks.all Kd.plain=true->iD.noRows (r9 ks x)=true
 | [],_,_=>rfl
 | k::r,(x,xs),h=>by
  simp only[List.all_cons,oA]at h;simp only[r9,iD.noRows,oA];exact⟨a2X k x 0 h.1,aPA r xs h.2⟩
def aSX(l:List Kd) (x:aH l):PV:=qP (r9 l x)
def aYW:(l:List Kd)->PV->Option (aH l)
 | [k],q=>match aJ3 k q [] 0 with
  | some x=>some (x,())
  | none=>none
 | l,.tuple qs=>aSM l qs
 | _,_=>none
section
variable {P:Program} {n0:Nat->Prop} {w wi:World} {G Gi:Gd} {μ μi μ':Mp} {H:Heap} {F:Frm} {a:Act} {nt:Nat}
theorem a1A {e t p n}:IL e t p [] n=none:=by
 unfold IL;split
 ·cases Nat.beq _ n&&Nat.beq _ t.size <;> rfl
 rfl
theorem a1E {e t p n}:aRW e t p [] n=none:=by
 unfold aRW;split
 ·cases Nat.beq _ n&&Nat.beq _ 0 <;> rfl
 rfl
theorem aX0 {e et t p n}:aJO e et t p [] n=none:=by
 unfold aJO;split
 ·cases Nat.beq _ n&&Nat.beq _ 0 <;> rfl
 rfl
theorem aXX {e et t p n}:aJ4 e et t p [] n=none:=by
 unfold aJ4;split
 ·cases Nat.beq _ n&&Nat.beq _ 0 <;> rfl
 rfl
theorem aXW {e t1 et t eu u p n}:aKD e t1 et t eu u p [] n=none:=by
 unfold aKD;split
 ·rw[show kK [] n=none from by rfl];simp
 rfl
theorem a2Z {e t1 et t t2 p n}:aR2 e t1 et t t2 p [] n=none:=by
 unfold aR2;split
 ·cases Nat.beq _ n&&Nat.beq _ 0 <;> rfl
 rfl
theorem aUL:∀ k {p x v},aJ3 k p [] 0=some x->VR w G aJ p v->VR w G aJ (GH k x 0) v
 | .int k,p,x,v,h,hv=>by
  have:=aD4 h;simp only[List.cons.injEq,and_true]at this;subst this;exact hv
 | .bool,p,x,v,h,hv=>by
  have:=aBO h;simp only[List.cons.injEq,and_true]at this;subst this;exact hv
 | .str,p,x,v,h,hv=>by
  have:=aDD h;simp only[List.cons.injEq,and_true]at this;subst this;exact hv
 | .list t,p,x,v,h,hv=>by
  have:=AF (.list t) aJ [p] x [v] h (by rw[VRs]; exact⟨v,[],rfl,hv,by rw[VRs]⟩);simp only[enc]at this;obtain⟨y,ys,h1,h2,_⟩:=this;cases h1;exact h2
 | .agg t,p,x,v,h,hv=>by
  simp only[aJ3]at h;unfold a3N at h;split at h
  next cs=>obtain⟨vs,rfl,h2⟩:=hv;simp only[GH];exact⟨vs,rfl,AF t aJ cs x vs.toList h h2⟩
  ·cases h
 | .own e t,p,x,v,h,hv=>by
  simp only[aJ3,a1A]at h;cases h
 | .box e t,p,x,v,h,hv=>by
  simp only[aJ3,a1E]at h;cases h
 | .ptr t,p,x,v,h,hv=>aBQ h hv
 | .fn g,p,x,v,h,hv=>by
  have:=aM0 h;subst this;exact hv
 | .nil0,p,x,v,h,hv=>by
  have:=aJC h;subst this;exact hv
 | .val,p,x,v,h,hv=>by
  have:=aKI (p:=p) (x:=x) h;subst this;exact hv
 | .nilI,p,x,v,h,hv=>by
  have:=aGQ (p:=p) (x:=x) h;subst this;exact hv
 | .clo g ts,p,x,v,h,hv=>aAO h hv
 | .win j sz,p,x,v,h,hv=>by
  have:=aJY h;subst this;exact hv
 | .bown e et t,p,x,v,h,hv=>by
  simp only[aJ3,aX0]at h;cases h
 | .bque e et t,p,x,v,h,hv=>by
  simp only[aJ3,aXX]at h;cases h
 | .bag e t1 et t t2,p,x,v,h,hv=>by
  simp only[aJ3,a2Z]at h;cases h
 | .bag2 e t1 et t eu u,p,x,v,h,hv=>by
  simp only[aJ3,aXW]at h;cases h
 | .mpk j,p,x,v,h,hv=>by
  have:=aMM h;subst this;exact hv
 | .hnd sz,p,x,v,h,hv=>by
  have:=aKY (μ:=aJ) (vs:=[v]) h (by rw[VRs]; exact⟨v,[],rfl,hv,by rw[VRs]⟩);obtain⟨y,ys,h1,h2,_⟩:=this;cases h1;exact h2
 | .ar e t,p,x,v,h,hv=>by
  simp only[aJ3,a5H,PM.kK]at h;simp at h
theorem NV:∀ l {ps x vs},aSM l ps=some x->VRs w G aJ ps vs->VRs w G aJ (r9 l x) vs
 | [],[],x,vs,h,hv=>hv
 | [],_::_,x,vs,h,hv=>by cases h
 | _::_,[],x,vs,h,hv=>by cases h
 | k::r,p::ps,x,vs,h,hv=>by
  simp only[aSM]at h;split at h
  next y hy=>
   split at h
   next ys hys=>simp only[oJ]at h;subst h;obtain⟨u,us,h1,h2,h3⟩:=hv;exact⟨u,us,h1,aUL k hy h2,NV r hys h3⟩
   grind
  grind
theorem aE5 {l q x v}(h:aYW l q=some x)(hv:VR w G aJ q v):VR w G aJ (aSX l x) v:=by
 unfold aYW at h;split at h
 ·split at h
  next k q y hy=>simp only[oJ]at h;subst h;exact aUL _ hy hv
  grind
 ·obtain⟨vs,rfl,h2⟩:=hv;have h3:=NV _ h h2
  match l,x,h3 with
  | [],x,h3 =>
   exact⟨vs,rfl,h3⟩
  | [k],x,h3=>grind
  | k::k2::r,(x,y,z),h3 =>
   exact⟨vs,rfl,h3⟩
 grind
def aCL(P:Program) (g:FuncId) (args rets:List Kd) (f:aH args->Option (aH rets)):Prop :=
 ∀ x y,f x=some y->QX P g (r9 args x) (aSX rets y)
def a4V(args rets:List Kd) (f:aH args->Option (aH rets)) (qs:List PV):Option Res:=match aSM args qs with
 | some x=>some ⟨aH rets,f x,aSX rets⟩
 | none=>none
theorem a8I {g args rets f}(hf:aCL P g args rets f){qs r}(h:a4V args rets f qs=some r):∀ y,r.val=some y->QX P g qs (r.out y):=by
 unfold a4V at h;split at h
 next x hx=>simp only[oJ]at h;subst h;intro y hy w G vs hlt hv;exact hf x y hy w G vs hlt (NV args hx hv)
 grind
structure gD (P:Program) (E:Env):Prop where
 pure:∀ g qs r,E.pure g qs=some r->∀ y,r.val=some y->QX P g qs (r.out y)
 shr:∀ g args H r,E.shr g args H=some r->∀ y,r.val=some y->∀ {n0 G μ w vs},aR n0 G μ H w->VRs w G μ args vs->FL P n0 w G μ g vs.toArray (r.out y).1 (r.out y).2
theorem gD.callee {E}(h:gD P E):eO P (gU P E):=by
 refine a54 ?_ ?_
 ·intro g args r hr;unfold aQM at hr;split at hr
  next s hs=>
   split at hr
   next x hx=>simp only[oJ]at hr;subst hr;exact h.pure g args s hs x hx
   grind
  grind
 ·intro g args H r H' hr;unfold aPN at hr;split at hr
  next s hs=>
   split at hr
   ·rename_i x hx;have hr:=oB hr;have h1:r=(s.out x).1:=W
    have h2:H'=(s.out x).2:=W
    subst h1; subst h2;intro n0 G μ w vs hW hv;exact h.shr g args H s hs x hx hW hv
   grind
  grind
def a0I(P:Program) (rs:List ResultVar) (rets:List Kd) (ex:Ex) (F:Frm) (H:Heap):Option (aH rets):=match ex with
 | .exit _=>none
 | _=>match A7 P F H rs with
  | some vs=>match a1W H (qP vs)with
   | some q=>aYW rets q
   | none=>none
  | none=>none
def aYC(P:Program)(E:Env)(fn:Func)(bZ:Nat)(lt:Nat->Option dN)(c:Code) args rets (x:aH args):Option (aH rets) :=
 bif Nat.ble (r9 args x).length fn.ntmps then KW P E fn.ntmps bZ lt c (start bZ 0 (r9 args x)) [] (a0I P fn.results.toList rets) else none
theorem aLA {E} (hP:UM P) (hE:gD P E) {g:Nat} {fn} (hg:P.funcs[g]?=some fn) {c} (hc:fn.body=some c) {bZ lt args rets f}
  (hl:∀ a∈bG c,∀ s,lt (b8 a)=some s->eT P fn.ntmps a s) (hb:∀ x,aYC P E fn bZ lt c args rets x=f x):aCL P g args rets f:=by
 intro x y hy;rw[<- hb]at hy;obtain⟨hlen,hy⟩:=aI hy;obtain⟨⟨ex,F',H'⟩,h1,h2⟩:=sW hE.callee hP.mixed c _ _ _ _ hl hy;obtain⟨vs,q,hex,hvs,hq,hd⟩:∃ vs q,(ex=.normal\/ex=.ret)/\A7 P F' H' fn.results.toList=some vs/\a1W H' (qP vs)=some q/\aYW rets q=some y:=by
  unfold a0I at h1;split at h1
  ·cases h1
  next hne=>
   split at h1
   ·rename_i vs hvs;split at h1
    ·rename_i q hq;refine⟨vs,q,?_,hvs,hq,h1⟩;cases ex with
     | normal=>exact .inl rfl
     | ret=>exact .inr rfl
     | exit i=>exact absurd rfl (hne i)
    ·cases h1
   ·cases h1
 have hcall:∀ {n0 G μ w us},aR n0 G μ [] w->VRs w G μ (r9 args x) us->FL P n0 w G μ g us.toArray (qP vs) H':=by
  intro n0 G μ w us hW hv;refine⟨enters hg (hP.names g fn hg) (by rw[hc]; rfl) _ _,calls_of_wp hg hc ?_⟩;have hI:I n0 w G μ fn.ntmps (start bZ 0 (r9 args x)) [] ⟨us.toArray++Array.replicate (fn.ntmps-us.toArray.size) undef,[]⟩ w:=⟨G,μ,Ext.refl _ _ _ _,hW,HV (by simpa using hv) (oL hlen)⟩;refine wp_mono (h2 n0 w G μ _ w (λr=>hW.top r (Nat.zero_le _)) hI) ?_;rintro e a' w' ⟨rfl,G',μ',e',hW',hF'⟩;obtain⟨ws,h3,h4⟩:=yJ (P:=P) hW' hF' hvs
  have hres:(results fn a'.tmps).run P w'=.ok (if hh:ws.toArray.size=1 then ws.toArray[0] else .tuple ws.toArray) w':=by
   rw[LV,Array.mapM_eq_mapM_toList]
   simp_all
  have hpost:a'.defers=[]/\∃ v,(results fn a'.tmps).run P w'=.ok v w'/\(∃ v' G'' μ'',Ending.returned v=.returned v'/\Ext n0 w G μ w' G'' μ''/\aR n0 G'' μ'' H' w'/\VR w' G'' μ'' (qP vs) v') :=
   ⟨hF'.defers,_,hres,_,G',μ',rfl,e',hW',BA h4⟩
  rcases hex with rfl|rfl
  ·exact hpost
  ·exact hpost
 have hp:=aD1 hcall (UA hq).1 (UA hq).2;intro w G us hlt hv;obtain⟨h3,h4⟩:=hp w G us hlt hv;refine⟨h3,h4.mono ?_⟩;rintro e w' ⟨v',G',rfl,e1,e2,e3⟩;exact⟨v',G',rfl,e1,e2,aE5 hd e3⟩
end
open Go Go.RowKit Go.ChangeShapes Go.WideShapes Go.ChangeAt Go.Joins
theorem aPS b off n:(⟨b,off,none⟩:Addr).add n=⟨b,off+n,none⟩:=by cases n <;> simp[Addr.add]
def WF:(t:Ty)->t.den->Prop
 | .int k,x=>(Lit.int k x).wf=true
 | .bool,_=>True
 | .str,s=>s.size<=maxLen
 | .hnd _,_=>True
 | .rows _,_=>True
 | .smap,_=>True
 | .list t,l=>l.length<=maxLen/\∀ a∈l,WF t a
 | .prod a b,(x,y)=>WF a x/\WF b y
abbrev GW(w:World):Gd:=Gd.of λb=>b<w.heap.size
def OpT(P:Program) (t:TypeId) (T:Ty):Prop :=
 P.cellsOf t=T.size/\∀ (H:Type) (en:TypeId×Value->H) (w:World) (base:Nat) (spare:Nat->Bool) (held:Bool) (fuel:Nat) (cs:List Value) (x:DataW H×List MemPlace),
  DataW.trod en P w base spare held fuel t cs=some x->∃ a:T.den,VRs w (GW w) aJ (enc T a) cs/\WF T a
section
variable {P:Program}
theorem aQK {w G p v}(h:VR w G aJ p v):VRs w G aJ [p] [v]:=by exact⟨v,[],rfl,h,by rfl⟩
theorem aOY {t k}(ht:P.underlying t=some (.int k))(hc:P.cellsOf t=1):OpT P t (.int k):=by
 refine⟨hc,λH en w base spare held fuel cs x h=>?_⟩;obtain⟨n,rfl,-,wf⟩:=DataW.trod_int ht h;exact⟨n,aQK (by rfl),wf⟩
theorem aPO {t}(ht:P.underlying t=some .bool)(hc:P.cellsOf t=1):OpT P t .bool:=by
 refine⟨hc,λH en w base spare held fuel cs x h=>?_⟩;obtain⟨n,rfl,-⟩:=DataW.trod_bool ht h;exact⟨n,aQK (by rfl),trivial⟩
theorem aM.app {w G b}:∀ {ps qs off},aM w G aJ b off ps->aM w G aJ b (off+ps.length) qs->aM w G aJ b off (ps++qs)
 | [],qs,off,_,h=>h
 | p::ps,qs,off,h,k=>by
  refine⟨h.1,aM.app h.2 ?_⟩;grind
theorem aM.a9Y {w G b}:∀ {ps vs off},VRs w G aJ ps vs->(∀ i h,w.cell? ⟨b,off+i,none⟩=some vs[i])->aM w G aJ b off ps
 | [],vs,off,_,_=>by trivial
 | p::ps,vs,off,h,k=>by
  obtain⟨x,xs,rfl,h2,h3⟩:=h;refine⟨⟨x,k 0 R,h2⟩,aM.a9Y h3 λi hi=>?_⟩;have:=k (i+1) W;grind
theorem aUS {w:World}{T:Ty}{b:Nat}:∀ (l:List T.den) (off:Nat),(∀ i (h:i<l.length),aM w (GW w) aJ b (off+i*T.size) (enc T l[i]))->aM w (GW w) aJ b off (aK T l)
 | [],off,_=>by show aM w _ aJ b off []; rw[aM]; trivial
 | a::l,off,h=>by
  show aM w _ aJ b off (enc T a++aK T l);refine aM.app (by have:=h 0 R; rw[Nat.zero_mul,Nat.add_zero]at this; exact this) ?_;rw[tW];refine aUS l _ λi hi=>?_
  have:=h (i+1) (by simpa using hi);rw[Nat.add_mul,Nat.one_mul,Nat.add_comm (i*_),<- Nat.add_assoc]at this;exact this
theorem aTA {t e T}(ht:P.underlying t=some (.slice e))(hc:P.cellsOf t=1)(he:OpT P e T):OpT P t (.list T):=by
 refine⟨hc,λH en w base spare held fuel cs x h=>?_⟩;rcases DataW.trod_slice ht h with ⟨rfl,-⟩|⟨a,len,cap,elems,rest,n,-,rfl,-,-,hl,hm,hel,hx,-,-⟩
 ·refine⟨[],aQK ?_,⟨Nat.zero_le _,λa ha=>(by simp at ha)⟩⟩;rw[VR];refine⟨?_,rfl⟩;rw[VR];exact⟨none,0,rfl,oM _,λk hk=>(by cases hk),.inl rfl⟩
 ·have each:∀ i,i<len->∃ q:T.den,∃ es,(∀ j (_:j<es.length),w.cell? ((a.add (i*T.size)).add j)=some es[j])/\VRs w (GW w) aJ (enc T q) es/\WF T q:=by
   intro i hi;have h1:=hx i hi;rw[List.getElem?_eq_getElem Z]at h1;obtain⟨es,h2,h3⟩:=Option.bind_eq_some_iff.1 h1;obtain⟨q,hq⟩:=he.2 _ _ _ _ _ _ _ _ _ h3;rw[he.1]at h2;obtain⟨-,hlen,hcell⟩:=World.cells?_some h2;refine⟨q,es,λj hj=>?_,hq⟩;rw[hcell j Z,List.getElem?_eq_getElem hj]
  by_cases h0:len=0
  ·subst h0;refine⟨[],aQK ?_,⟨Nat.zero_le _,λa ha=>(by simp at ha)⟩⟩;rw[VR];refine⟨?_,rfl⟩;rw[VR];exact⟨some a,cap,rfl,hl,λk hk=>(by cases hk),.inl rfl⟩
  ·have hne:Nonempty T.den:=let ⟨q,_⟩:=each 0 Z; ⟨q⟩
   have key:∃ f:Nat->T.den,∀ i,i<len->∃ es,(∀ j (_:j<es.length),w.cell? ((a.add (i*T.size)).add j)=some es[j])/\VRs w (GW w) aJ (enc T (f i)) es/\WF T (f i):=by
    classical
    refine⟨λi=>if hi:i<len then Classical.choose (each i hi) else Classical.choice hne,λi hi=>?_⟩;simp only[dif_pos hi];exact Classical.choose_spec (each i hi)
   obtain⟨f,hf⟩:=key;obtain⟨b,off,spot⟩:=a;have hfirst:∃ v,w.cell? ⟨b,off,spot⟩=some v:=by
    obtain⟨es,h1,h2,-⟩:=hf 0 Z;have hpos:0<es.length:=by rw[<- VRs.length h2,tW]; exact T.size_pos
    have:=h1 0 hpos;exact⟨_,by simpa[Addr.add]using this⟩
   have hspot:spot=none:=by
    obtain⟨v,hv⟩:=hfirst;simpa using World.cell?_spot hv
   subst hspot;have hb:b<w.heap.size:=by
    obtain⟨v,hv⟩:=hfirst;cases hh:w.heap[b]? with
    | none=>simp[World.cell?,hh]at hv
    | some o=>exact nQ hh
   refine⟨(List.range len).map f,aQK ?_,?_⟩
   ·rw[VR];refine⟨?_,rfl⟩;rw[VR];refine⟨some ⟨b,off,none⟩,cap,by simp,by simpa using hl,λk hk=>(by cases hk),.inr ⟨b,off,rfl,hb,?_⟩⟩;refine aUS _ _ λi hi=>?_
    have hi':i<len:=by simpa using hi
    obtain⟨es,h1,h2,-⟩:=hf i hi';have e1:((List.range len).map f)[i]=f i:=R
    rw[e1];refine aM.a9Y h2 λj hj=>?_
    have:=h1 j hj;rw[aPS,aPS]at this;exact this
   ·refine⟨by simpa using oR hl hm,?_⟩;intro q hq;obtain⟨i,hi,rfl⟩:=List.mem_map.1 hq;obtain⟨es,-,-,h3⟩:=hf i (by simpa using hi);exact h3
def aVS(P:Program):List Field->Nat->Ty->Prop
 | [],_,_=>False
 | [f],off,T=>f.offset=off/\OpT P f.type T
 | f::g::r,off,.prod a b=>f.offset=off/\OpT P f.type a/\aVS P (g::r) (off+a.size) b
 | _::_::_,_,_=>False
theorem aRS {w}:∀ fs off T (cs:List Value),aVS P fs off T->cs.length=off+T.size->(∀ f∈fs,∀ A ,OpT P f.type A->∃ a ,VRs w (GW w) aJ (enc A a) ((cs.drop f.offset).take A.size)/\WF A a) ->
  ∃ a ,VRs w (GW w) aJ (enc T a) (cs.drop off)/\WF T a
 | [],_,_,_,h,_,_=>h.elim
 | [f],off,T,cs,h,hl,hx=>by
  obtain⟨rfl,h2⟩:=h;obtain⟨a,h3,h4⟩:=hx f R T h2;rw[List.take_of_length_le W]at h3;grind
 | f::g::r,off,.prod A B,cs,h,hl,hx=>by
  obtain⟨rfl,h2,h3⟩:=h;obtain⟨a,h4,h5⟩:=hx f R A h2;obtain⟨b,h6,h7⟩:=aRS (g::r) _ B cs h3 (by rw[hl,Ty.size]; omega) (λk hk=>hx k (List.mem_cons_of_mem _ hk));refine⟨(a,b),?_,h5,h7⟩;have:=VRs.append h4 h6;rw[<- List.drop_drop,List.take_append_drop]at this;exact this
 | _::_::_,_,.int _,_,h,_,_=>h.elim
 | _::_::_,_,.bool,_,h,_,_=>h.elim
 | _::_::_,_,.str,_,h,_,_=>h.elim
 | _::_::_,_,.list _,_,h,_,_=>h.elim
theorem aG1 {t fs T}(ht:P.underlying t=some (.struct fs))(hc:P.cellsOf t=T.size)(hf:aVS P fs.toList 0 T):OpT P t T:=by
 refine⟨hc,λH en w base spare held fuel cs x h=>?_⟩;obtain⟨xs,n,-,-,hl,hx,hi⟩:=DataW.trod_struct ht h;obtain⟨a,h1,h2⟩:=aRS fs.toList 0 T cs hf Z (λf hf A hA=>by
  obtain⟨i,hi',rfl⟩:=List.getElem_of_mem hf;have hs :=by simpa using hi'
  have h3:=hi i fs[i] R;rw[List.getElem?_eq_getElem Z]at h3;have hA1:=hA.1;simp only[Array.getElem_toList]at hA1 hA ⊢;rw[hA1]at h3;exact hA.2 _ _ _ _ _ _ _ _ _ h3)
 grind
def Ty.arr (T:Ty):Nat->Ty
 | 0=>T
 | n+1=>.prod T (Ty.arr T n)
theorem aZL T:∀ n,(Ty.arr T n).size=(n+1)*T.size
 | 0=>by simp[Ty.arr]
 | n+1=>by simp only[Ty.arr,Ty.size,aZL T n]; grind
theorem a3W {w T}{cs:List Value}:∀ n i,cs.length=(i+n+1)*T.size->(∀ j,i<=j->j<i+n+1->∃ a ,VRs w (GW w) aJ (enc T a) ((cs.drop (j*T.size)).take T.size)/\WF T a) ->
  ∃ a ,VRs w (GW w) aJ (enc (Ty.arr T n) a) (cs.drop (i*T.size))/\WF (Ty.arr T n) a
 | 0,i,hl,hx=>by
  obtain⟨a,h3,h4⟩:=hx i (oM _) R;rw[List.take_of_length_le W]at h3;exact⟨a,h3,h4⟩
 | n+1,i,hl,hx=>by
  obtain⟨a,h4,h5⟩:=hx i (oM _) Z;obtain⟨b,h6,h7⟩:=a3W n (i+1) W (λj h1 h2=>hx j Z Z);refine⟨(a,b),?_,h5,h7⟩;have:=VRs.append h4 h6;rw[Nat.add_mul,Nat.one_mul,<- List.drop_drop,List.take_append_drop]at this;exact this
theorem aTG {t e n T}(ht:P.underlying t=some (.array (n+1) e))(hc:P.cellsOf t=(n+1)*T.size)(he:OpT P e T):OpT P t (Ty.arr T n):=by
 refine⟨by rw[hc,aZL],λH en w base spare held fuel cs x h=>?_⟩;obtain⟨xs,m,-,-,hl,hx,hi⟩:=DataW.trod_array ht h;rw[he.1]at hi;obtain⟨a,h1,h2⟩:=a3W (T:=T) (cs:=cs) n 0 W (λj _ h2=>by
  have h3:=hi j Z;rw[List.getElem?_eq_getElem Z]at h3;exact he.2 _ _ _ _ _ _ _ _ _ h3)
 grind
def OpK(P:Program) (t:TypeId) (k:Kd) (W:k.den->Prop):Prop :=
 ∀ {H:Type} {en:TypeId×Value->H} {w:World} {base b0:Nat} {spare:Nat->Bool} {held:Bool} {r:Reach} {v:Value} {d:DataW H} {p:List MemPlace},
  Value.okWide P w r b0 t v->DataW.Trod en P w base spare held t v d p->∃ x:k.den,VR w (GW w) aJ (GH k x 0) v/\W x
theorem bCW {t T}(hs:∀ w r b0 v,Value.okWide P w r b0 t v->∃ cs,v=.agg cs)(he:OpT P t T):OpK P t (.agg T) (WF T):=by
 intro H en w base b0 spare held r v d p hv h;obtain⟨cs,rfl⟩:=hs _ _ _ _ hv;obtain⟨fuel,hf⟩:=h;obtain⟨l,h1,h2⟩:=he.2 _ _ _ _ _ _ _ _ _ hf;refine⟨l,?_,h2⟩;exact⟨cs,rfl,h1⟩
theorem a3L {t fs T}(ht:P.underlying t=some (.struct fs))(he:OpT P t T):OpK P t (.agg T) (WF T) :=
 bCW (λw r b0 v h=>by obtain⟨cs,h1,-⟩:=okWide_struct ht h; grind) he
theorem bAN {g:FuncId} {args:List Kd} {f:aH args->Option (aH [.bool])} (hf:aCL P g args [.bool] f) {x:aH args} (hx:f x=some (true,())) {w:World} (hT:Lt w λb=>b<w.heap.size) {vs:Array Value} (hv:VRs w (GW w) aJ (r9 args x) vs.toList) :
  Calls P g vs w λe w'=>e=.returned (.bool true)/\Below w.heap.size w w':=by
 obtain⟨-,h⟩:=hf x _ hx w (λb=>b<w.heap.size) vs hT hv;refine h.mono ?_;rintro e w' ⟨v',G',rfl,e1,-,e3⟩;refine⟨?_,e1.os,e1.tape,e1.output,e1.size,λb hb=>e1.old b hb (Nat.not_le.2 hb)⟩;have e3:VR w' (Gd.of G') aJ (.lit (.bool true)) v':=e3;rw[VR]at e3;rw[e3]
theorem a9H {w G p v ps vs}(h:VR w G aJ p v)(k:VRs w G aJ ps vs):VRs w G aJ (p::ps) (v::vs):=by rw[VRs]; grind
theorem bCJ {w G}:VRs w G aJ [] []:=by rfl
end
theorem aUP {H enc P}(hl:laidOutB P=true){W W'}(hb:Below W.heap.size W W') :
  ∀ ts vs (ds:List (DataW H)) ps,(∀ t∈ts,P.readableRec t=true/\t<P.types.size)->(∀ x∈ps,x.block<W.heap.size) ->
   DataW.TrodAll enc P W 0 (λ_=>true) true ts vs ds ps->DataW.TrodAll enc P W' 0 (λb=>decide (b<W.heap.size)) true ts vs ds ps
 | [],vs,ds,ps,_,_,h=>by
  unfold DataW.TrodAll at h ⊢;grind
 | t::ts,vs,ds,ps,ht,hlt,h=>by
  obtain⟨v,vs',d,ds',p,q,rfl,rfl,rfl,h1,h2⟩:=trodAll_cons h;exact⟨p,q,Below.trod hl (ht t R).1 (ht t R).2 h1 hb (λx hx=>hlt x zf),aUP hl hb ts vs' ds' q (λt h=>ht t zf) (λx hx=>hlt x zf) h2,rfl⟩
theorem aYA {P:Program} {ts:List TypeId} (h:(ts.all λt=>P.readableRec t&&decide (t<P.types.size))=true):∀ t∈ts,P.readableRec t=true/\t<P.types.size:=by
 intro t ht;have:=List.all_eq_true.1 h t ht;simpa using this
theorem a19 {H enc P f} {s:ChangeSpec} {W W' args ds p tb} (hl:laidOutB P=true)
  (hts:∀ t∈f.params.toList,P.readableRec t=true/\t<P.types.size) (hr:f.resultTypes=#[tb]) (htb:P.underlying tb=some .bool)
  (hf1:(s.fn H (ds++[])).results=[.lit (.bool true)]) (hf2:(s.fn H (ds++[])).args=ds) (hf3:(s.fn H (ds++[])).vars=[]) (hv:s.vars=[])
  (hW:DataW.Whole enc P f.params.toList s.vars false W args.toList ds [] p) (hb:Below W.heap.size W W') :
  ∃ v,Ending.returned (.bool true)=Ending.returned v/\s.post enc P f false true false false W args v W':=by
 have hW':=hW;obtain⟨q,q',hA,hV,rfl,-,-⟩:=hW;refine⟨_,rfl,ds,[],_,[],q,[],hW',?_,?_,?_,hb.frame _,λh=>by grind⟩
 ·rw[hf1,hr]; exact trodAll_mk1 (shut_bool htb true)
 ·rw[hf2]; exact aUP hl hb _ _ _ _ hts (λx hx=>hW'.lt x zf) hA
 ·rw[hf3,hv]; rfl
end Go.PM
namespace Go.Proofs.YtmghkhgpkefgeaaGreatDoor
theorem Tryz.own:ownKnob Tryz.prog.godebug=none:=Y
theorem Tryz.laidOut:laidOutB Tryz.prog=true:=Y
end Go.Proofs.YtmghkhgpkefgeaaGreatDoor
namespace Go.Proofs.YtmghkhgpkefgeaaGreatDoor
open Go Go.ChangeShapes Go.WideShapes Go.ChangeAt Go.RowKit Go.Joins Go.PM
abbrev a0W:List (String×DataW Unit):=[("math/bits.deBruijn32tab",Rows.laid_math_bits_deBruijn32tab),("math/bits.deBruijn64tab",Rows.laid_math_bits_deBruijn64tab),("internal/strconv.uint64pow10",Rows.laid_internal_strconv_uint64pow10),("strconv.ErrRange",Rows.laid_strconv_ErrRange),("strconv.ErrSyntax",Rows.laid_strconv_ErrSyntax)]
theorem bBA(os:Os)(args:Array Value):laidMetH Tryz.prog a0W ((World.doorLaid Tryz.prog 4000 os).forCall (λ_ _=>0) ⟨#[],args,[]⟩).memory :=
 laidMetH_of_parts3 (fuel:=8) (laidMet_of_run' 8 Y Y) Y Y
theorem aZ7 {H:Type} {enc:TypeId×Value->H} {P:Program} {w:World} {base:Nat} {sp:Nat->Bool} {fuel:Nat} {t:TypeId} {ms} {cs:List Value} {n:String} {d:DataW H} {p:List MemPlace}
  (ht:P.underlying t=some (.interface ms)) (h:DataW.trod enc P w base sp false fuel t cs=some (.iface n d,p)):∃ u v,cs=[.iface u v]:=by
 cases fuel with
 | zero=>simp[DataW.trod]at h
 | succ fuel =>
  simp only[DataW.trod,ht]at h;split at h <;> first
   | exact⟨_,_,rfl⟩
   | (exfalso; simp_all; done)
theorem aY5 {P}{w:World}{n g cs}(hg:P.globalNamed n=some g)(h:w.var? P n=some cs):∃ t fr,w.heap[g]?=some (.cells cs t fr):=by
 unfold World.var? at h;grind
theorem aR3 {w:World} {n:String} {g:Nat} {t:TypeId} {ms} {m:String} {d:DataW Unit} (hg:Tryz.prog.globalNamed n=some g) (hty:(Tryz.prog.globals[g]?).map (·.type)=some t) (ht:Tryz.prog.underlying t=some (.interface ms))
  (h:Lib.VarReads Tryz.prog w n (.iface m d)):aI7 w.heap[g]?:=by
 obtain⟨g',t',cs,fuel,p,hg',ht',hvar,hd⟩:=h;obtain rfl:=oB (hg.symm.trans hg');obtain rfl:=oB (hty.symm.trans ht');obtain⟨u,v,e⟩:=aZ7 ht hd;obtain⟨t2,fr,e2⟩:=aY5 hg hvar;refine⟨u,v,t2,fr,?_⟩;rw[e2]
 congr 2
 exact Array.toList_inj.1 e
theorem bB7 {w:World} (h:laidMetH Tryz.prog a0W w):Lt w λb=>b<w.heap.size:=by
 rw[MakeChecks.laidMetH_plain _ _ _ Y]at h;have lt:∀ {g:Nat} {q:Option Obj->Prop},q w.heap[g]?->¬ q none->g<w.heap.size:=λ{g q} h1 h2=>by
  rcases oG g w.heap.size with h|h
  ·exact h
  ·rw[Array.getElem?_eq_none h]at h1;exact absurd h1 h2
 have nIf:¬ aI7 none:=λ⟨_,_,_,_,e⟩=>by cases e
 refine⟨λ_ h=>h,λp hp=>?_⟩;have main:p.2 w.heap[p.1]?/\¬ p.2 none:=by
  rcases List.mem_cons.1 hp with rfl|hp
  ·refine⟨?_,λ⟨_,_,e⟩=>by cases e⟩;obtain⟨g',t',cs,fuel,q,hg',ht',hvar,hd⟩:=Lib.laidMet.reads h (n:= "internal/strconv.uint64pow10") (d:=Rows.laid_internal_strconv_uint64pow10) (.tail _ (.tail _ (.head _)));obtain rfl:=oB ((show Tryz.prog.globalNamed "internal/strconv.uint64pow10"=some 2 by kernel_rfl).symm.trans hg');have hd:DataW.trod (λ_=>()) Tryz.prog w 0 (λ_=>true) false fuel t' cs.toList=some (Lib.tabData .u64 [1,10,100,1000,10000,100000,1000000,10000000,100000000,1000000000,10000000000,100000000000,1000000000000,10000000000000,100000000000000,1000000000000000,10000000000000000,100000000000000000,1000000000000000000,10000000000000000000],q):=hd
   obtain⟨t,hty⟩:∃ t,(Tryz.prog.globals[2]?).map (·.type)=some t:=⟨_,ht'⟩;obtain rfl:=oB (hty.symm.trans ht');have hcs:=Lib.cells_of_tab (P:=Tryz.prog) (t:=275) (e:=180) (n:=20) Tryz.underlying275 Tryz.underlying180 Y Y (show DataW.trod (λ_=>()) Tryz.prog w 0 (λ_=>true) false fuel 275 cs.toList=_ by
    rw[<- oB ((show (Tryz.prog.globals[2]?).map (·.type)=some 275 by kernel_rfl).symm.trans hty)]at hd;exact hd)
   obtain⟨t2,fr,e2⟩:=aY5 Y hvar;refine⟨t2,fr,?_⟩;rw[e2]
   congr 2
   exact Array.toList_inj.1 hcs
  ·rcases List.mem_cons.1 hp with rfl|hp
   ·exact⟨aR3 (n:= "strconv.ErrSyntax") (t:=219) Y Y Tryz.underlying219 (Lib.laidMet.reads h (.tail _ (.tail _ (.tail _ (.tail _ (.head _)))))),nIf⟩
   ·rcases List.mem_cons.1 hp with rfl|hp
    ·exact⟨aR3 (n:= "strconv.ErrRange") (t:=219) Y Y Tryz.underlying219 (Lib.laidMet.reads h (.tail _ (.tail _ (.tail _ (.head _))))),nIf⟩
    ·cases hp
 exact⟨lt main.1 main.2,main.1⟩
end Go.Proofs.YtmghkhgpkefgeaaGreatDoor
namespace Go.PM
open Go Go.RowKit
structure Ent where
 g:FuncId
 args:List Kd
 rets:List Kd
 f:aH args->Option (aH rets)
def Ent.OK (P:Program)(e:Ent):Prop:=aCL P e.g e.args e.rets e.f
def aTD:List Ent->FuncId->List PV->Option Res
 | [],_,_=>none
 | e::r,g,qs=>bif Nat.beq e.g g then (match a4V e.args e.rets e.f qs with
   | some s=>some s
   | none=>aTD r g qs)
  else aTD r g qs
def LY(l:List Ent):Env:=⟨aTD l,λ_ _ _=>none,λ_=>false⟩
theorem aKL {P}:∀ {l},(∀ e∈l,e.OK P)->∀ g qs r,aTD l g qs=some r->∀ y,r.val=some y->QX P g qs (r.out y)
 | [],_,g,qs,r,h=>by cases h
 | e::l,hl,g,qs,r,h=>by
  simp only[aTD]at h;cases hb:Nat.beq e.g g with
  | true =>
   rw[hb]at h;have:=oE hb;subst this;cases hs:a4V e.args e.rets e.f qs with
   | some s =>
    rw[hs]at h;have h:=oB h;subst h;exact a8I (hl e List.mem_cons_self) hs
   | none =>
    rw[hs]at h;exact aKL (λe he=>hl e (List.mem_cons_of_mem _ he)) _ qs r h
  | false =>
   rw[hb]at h;exact aKL (λe he=>hl e (List.mem_cons_of_mem _ he)) g qs r h
theorem a8G {P l}(hl:∀ e∈l,e.OK P):gD P (LY l) where
 pure:=aKL hl
 shr:=λ_ _ _ _ h=>by cases h
def aGX(P:Program):List Ent->Prop
 | []=>True
 | e::r=>e.OK P/\aGX P r
theorem aHW {P}:∀ {l},aGX P l->∀ e∈l,e.OK P
 | [],_,e,he=>W
 | a::r,h,e,he=>by
  rcases List.mem_cons.1 he with rfl|he
  ·exact h.1
  ·exact aHW h.2 e he
theorem aO {P l}(h:aGX P l):gD P (LY l):=a8G (aHW h)
def aXV(P:Program)(nt:Nat)(lt:Nat->Option dN):List Code->Prop
 | []=>True
 | a::r=>(∀ s,lt (b8 a)=some s->eT P nt a s)/\aXV P nt lt r
theorem aM4 {P nt lt}:∀ {l},aXV P nt lt l->∀ a∈l,∀ s,lt (b8 a)=some s->eT P nt a s
 | [],_,a,ha=>W
 | b::r,h,a,ha=>by
  rcases List.mem_cons.1 ha with rfl|ha
  ·exact h.1
  ·exact aM4 h.2 a ha
theorem aQ {P nt lt c l}(hc:bG c=l)(h:aXV P nt lt l):∀ a∈bG c,∀ s,lt (b8 a)=some s->eT P nt a s:=by rw[hc]; exact aM4 h
theorem eY {P nt}{lt:Nat->Option dN}{a i s0}(hf:b8 a=i)(hlt:lt i=some s0)(h:eT P nt a s0):∀ s,lt (b8 a)=some s->eT P nt a s:=W
def dJ(fn:Func):Code:=match fn.body with
 | some c=>c
 | none=>.skip
def iC(c:Code)(i:Nat):Code:=(bG c).getD i .skip
def bC6(l:List Func):Bool:=l.all λf=>!(f.name== "runtime.NumGoroutine")
theorem a5O {P}(h1:P.follows .mixedOrders=true)(h2:bC6 P.funcs.toList=true):UM P where
 mixed:=h1
 names g fn hg:=by
  have hm:fn∈P.funcs.toList:=W
  have:=List.all_eq_true.1 h2 fn hm;grind
theorem aK5 {α:Type 1}{b x}{y:α}(h:(bif b then x else none)=some y):b=true/\x=some y:=W
abbrev Shr:=FuncId×(List PV->Heap->Option aR8)
def tQ(P:Program)(s:Shr):Prop:=SortOKs P s.1 s.2
where SortOKs P g f :=∀ args H r,f args H=some r->∀ y,r.val=some y->∀ {n0 G μ w vs},aR n0 G μ H w->VRs w G μ args vs->FL P n0 w G μ g vs.toArray (r.out y).1 (r.out y).2
def a9B(p:PV) (H:Heap):Option (PV×Heap):=match p with
 | .own s _=>match kK H s with
  | some k=>match k.tag with
   | some g=>some (UK g.t g.l none,PC H s)
   | none=>none
  | none=>none
 | _=>none
def P4:List PV->Heap->List PV×Heap
 | [],H=>([],H)
 | p::r,H=>match a9B p H with
  | some (q,H0)=>(q::(P4 r H0).1,(P4 r H0).2)
  | none=>(p::(P4 r H).1,(P4 r H).2)
def QL(skip:Nat)(f:List PV->Heap->Option aR8)(qs:List PV)(H:Heap):Option aR8:=match P4 (qs.drop skip) H with
 | (ps,H1)=>f (qs.take skip++ps) H1
theorem a6H {n0 G μ H w}(hW:aR n0 G μ H w){s sz k g v}(hv:VR w G μ (.own s sz) v)(hk:kK H s=some k)(hg:k.tag=some g) :
  ∃ G',Ext n0 w G μ w G' μ/\aR n0 G' μ (PC H s) w/\VR w G' μ (UK g.t g.l none) v:=by
 have hfo:PC H s=(bif k.frozen then H else H.set s (some { k with frozen:=true })):=by unfold PC; grind
 rw[hfo];cases hfz:k.frozen with
 | true =>
  refine⟨G,Ext.refl _ _ _ _,hW,(LS hW hv hk hg (λb h=>h) (λb hb=>?_)).aW⟩;obtain⟨_,_,_,_,h5,_⟩:=hW.blk s k b (aG hk) hb;grind
 | false =>
  obtain⟨e1,w1⟩:=XG hW (aG hk) hfz;exact⟨_,e1,w1,(LS (G':=G.or λx=>μ.loc s=some x) hW hv hk hg (λb h=>.inl h) (λb hb=>.inr hb)).aW⟩
theorem XW {n0 μ w}:∀ qs {H G vs},aR n0 G μ H w->VRs w G μ qs vs->∃ G',Ext n0 w G μ w G' μ/\aR n0 G' μ (P4 qs H).2 w/\VRs w G' μ (P4 qs H).1 vs
 | [],H,G,vs,hW,hv=>⟨G,Ext.refl _ _ _ _,hW,hv⟩
 | p::r,H,G,vs,hW,hv=>by
  obtain⟨u,us,rfl,q1,q2⟩:=hv;have plain:∃ G',Ext n0 w G μ w G' μ/\aR n0 G' μ (P4 r H).2 w/\VRs w G' μ (p::(P4 r H).1) (u::us):=by
   obtain⟨G',e,h1,h2⟩:=XW r hW q2;exact⟨G',e,h1,by exact⟨u,us,rfl,VR.mono e.toMono _ _ q1,h2⟩⟩
  rw[P4];cases hz:a9B p H with
  | none=>exact plain
  | some x =>
   obtain⟨q,H0⟩:=x;obtain⟨G1,e1,w1,v1⟩:∃ G',Ext n0 w G μ w G' μ/\aR n0 G' μ H0 w/\VR w G' μ q u:=by
    unfold a9B at hz;split at hz
    ·split at hz
     ·rename_i k hk;split at hz
      next g hg=>cases hz;exact a6H hW q1 hk hg
      ·cases hz
     ·cases hz
    ·cases hz
   obtain⟨G2,e2,w2,v2⟩:=XW r w1 (VRs.mono e1.toMono _ _ q2);exact⟨G2,e1.trans e2,w2,by exact⟨u,us,rfl,VR.mono e2.toMono _ _ v1,v2⟩⟩
theorem aUG {w G μ}:∀ ps {qs vs},VRs w G μ (ps++qs) vs->∃ v1 v2,vs=v1++v2/\VRs w G μ ps v1/\VRs w G μ qs v2
 | [],qs,vs,h=>⟨[],vs,rfl,by rfl,h⟩
 | p::ps,qs,vs,h=>by
  obtain⟨u,us,rfl,h1,h2⟩:=h;obtain⟨v1,v2,rfl,h3,h4⟩:=aUG ps h2;exact⟨u::v1,v2,rfl,by rw[VRs]; grind,h4⟩
theorem qE {P g skip f}(hf:tQ P (g,f)):tQ P (g,QL skip f):=by
 intro qs H rh h y hy n0 G μ w vs hW hv;have hv:VRs w G μ (qs.take skip++qs.drop skip) vs:=by simp_all
 obtain⟨v1,v2,rfl,hv1,hv2⟩:=aUG _ hv;obtain⟨G',e,h1,h2⟩:=XW _ hW hv2;obtain⟨c1,c2⟩:=hf _ _ rh h y hy h1 ((VRs.mono e.toMono _ _ hv1).append h2);refine⟨c1,c2.mono ?_⟩;rintro e' w' ⟨v',G1,μ1,rfl,ee,hW',hvv⟩;exact⟨v',G1,μ1,rfl,e.trans ee,hW',hvv⟩
def bB4:List Shr->FuncId->List PV->Heap->Option aR8
 | [],_,_,_=>none
 | s::r,g,args,H=>bif Nat.beq g s.1 then s.2 args H else bB4 r g args H
def shE:List Shr->FuncId->Bool
 | [],_=>false
 | s::r,g=>bif Nat.beq g s.1 then true else shE r g
def a1K(P:Program):List Shr->Prop
 | []=>True
 | s::r=>tQ P s/\a1K P r
theorem a4Y {P}:∀ {l},a1K P l->∀ g args H r,bB4 l g args H=some r->∀ y,r.val=some y->∀ {n0 G μ w vs},aR n0 G μ H w->VRs w G μ args vs->FL P n0 w G μ g vs.toArray (r.out y).1 (r.out y).2
 | [],_,g,args,H,r,h=>by cases h
 | s::l,hl,g,args,H,r,h=>by
  simp only[bB4]at h;cases hb:Nat.beq g s.1 with
  | true =>
   rw[hb]at h;have:=oE hb;subst this;exact hl.1 args H r h
  | false =>
   rw[hb]at h;exact a4Y hl.2 g args H r h
def MU(l:List Ent) (s:List Shr):Env:=⟨aTD l,bB4 s,shE s⟩
theorem l5 {P l s}(h:aGX P l)(hs:a1K P s):gD P (MU l s) where
 pure:=aKL (aHW h)
 shr:=a4Y hs
open Go Go.RowKit Go.Proofs
abbrev tP:Program:=Tryz.prog
theorem aY:UM Tryz.prog:=a5O Y Y
abbrev oK(k:List Kd):Type:=Option (aH k)
abbrev oX(k:List (Ex×List (Nat×Kd))):Type:=Option (eC k)
abbrev oS(s:List (Nat×Kd)) (k:List (Ex×List (Nat×Kd))):Type:=Option (Shape.den s⊕eC k)
def oY(fn:Func) (n:Nat):Bool:=fn.body.isSome&&Nat.beq (bG (dJ fn)).length n
theorem oYb {fn:Func} {n:Nat} (h:oY fn n=true):fn.body=some (dJ fn)/\(bG (dJ fn)).length=n:=by
 rw[oY,oA]at h;refine⟨?_,oE h.2⟩;have h1:=h.1;unfold dJ;cases hb:fn.body with
 | some c=>rfl
 | none=>rw[hb]at h1; cases h1
theorem oW:aGX Tryz.prog []:=trivial
theorem oV {e:Ent} {l:List Ent} (h:Ent.OK Tryz.prog e) (t:aGX Tryz.prog l):aGX Tryz.prog (e::l):=⟨h,t⟩
theorem oI {E:Env} (hE:gD Tryz.prog E) {g:Nat} {fn:Func} (hg:Tryz.prog.funcs[g]?=some fn) (hc:oY fn 0=true) {args rets:List Kd} {f:aH args->Option (aH rets)} (hb:∀ x,aYC Tryz.prog E fn (aP fn) (λ_=>none) (dJ fn) args rets x=f x):aCL Tryz.prog g args rets f:=aLA aY hE hg (oYb hc).1 (bZ:=aP fn) (lt:=λ_=>none) (by rw[List.eq_nil_of_length_eq_zero (oYb hc).2]; intro a h; cases h) hb
theorem oU {E:Env} (hE:gD Tryz.prog E) {g:Nat} {fn:Func} (hg:Tryz.prog.funcs[g]?=some fn) (i:Nat) {sh:List (Nat×Kd)} {exits:List (Ex×List (Nat×Kd))} {step:Shape.den sh->Option (Shape.den sh⊕eC exits)} {lp:Shape.den sh->Option (eC exits)} (hlp:lp=bF step (2^64)) (hc:(oY fn 1&&(Nat.beq (bG (iC (dJ fn) 0)).length 0&&Nat.beq (b8 (iC (dJ fn) 0)) i))=true) (hr:∀ x,jW Tryz.prog E fn.ntmps (aP fn) (λid=>bif Nat.beq id i then some ⟨sh,exits,lp⟩ else none) (iC (dJ fn) 0) sh exits x=step x) {args rets:List Kd} {f:aH args->Option (aH rets)} (hb:∀ x,aYC Tryz.prog E fn (aP fn) (λid=>bif Nat.beq id i then some ⟨sh,exits,lp⟩ else none) (dJ fn) args rets x=f x):aCL Tryz.prog g args rets f:=by
 subst hlp;rw[oA,oA]at hc;have hl:bG (dJ fn)=[iC (dJ fn) 0]:=by
  have h:=(oYb hc.1).2;unfold iC;cases hl:bG (dJ fn)with
  | nil=>rw[hl]at h; cases h
  | cons a r =>
   rw[hl]at h;cases r with
   | nil=>rfl
   | cons b r=>simp at h
 exact aLA aY hE hg (oYb hc.1).1 (bZ:=aP fn) (lt:=λid=>bif Nat.beq id i then some ⟨sh,exits,bF step (2^64)⟩ else none) (aQ (lt:=λid=>bif Nat.beq id i then some ⟨sh,exits,bF step (2^64)⟩ else none) hl ⟨eY (lt:=λid=>bif Nat.beq id i then some ⟨sh,exits,bF step (2^64)⟩ else none) (oE hc.2.2) (by rw[Nat.beq_refl]; rfl) (eZ hE.callee aY.mixed _ (aQ (List.eq_nil_of_length_eq_zero (oE hc.2.1)) trivial) hr),trivial⟩) hb
end Go.PM
namespace Go.PM
open Go Go.RowKit
def posOf:List Nat->Nat->Option Nat
 | [],_=>none
 | x::l,r=>bif Nat.beq x r then some 0 else match posOf l r with
  | some i=>some (i+1)
  | none=>none
def aQV:List Nat->Bool
 | []=>true
 | x::l=>(match posOf l x with|none=>true|some _=>false)&&aQV l
def MZ(pm:List Nat):PV->Option PV
 | .lit v=>some (.lit v)
 | .vals cs n cap=>some (.vals cs n cap)
 | .iptr cs=>some (.iptr cs)
 | .tl t l cap e=>some (.tl t l cap e)
 | .tp t l i off e=>some (.tp t l i off e)
 | .row j lo n sz=>some (.row j lo n sz)
 | .rp j off=>some (.rp j off)
 | .mp j=>some (.mp j)
 | .tm l=>some (.tm l)
 | .junk=>some .junk
 | .hptr r off=>match posOf pm r with|some i=>some (.hptr i off)|none=>none
 | .hs r off len cap sz=>match posOf pm r with|some i=>some (.hs i off len cap sz)|none=>none
 | .own r sz=>match posOf pm r with|some i=>some (.own i sz)|none=>none
 | .qs r sz=>match posOf pm r with|some i=>some (.qs i sz)|none=>none
 | .op r j off sz=>match posOf pm r with|some i=>some (.op i j off sz)|none=>none
 | .win r lo n sz=>match posOf pm r with|some i=>some (.win i lo n sz)|none=>none
 | .agg cs=>match renPs pm cs with|some qs=>some (.agg qs)|none=>none
 | .tuple cs=>match renPs pm cs with|some qs=>some (.tuple qs)|none=>none
 | .clo fn f c=>match renPs pm f,renPs pm c with|some f',some c'=>some (.clo fn f' c')|_,_=>none
where renPs pm:List PV->Option (List PV)
 | []=>some []
 | p::ps=>match MZ pm p,renPs pm ps with|some q,some qs=>some (q::qs)|_,_=>none
def aT3(pm:List Nat)(H:Heap):List Nat->Option Heap
 | []=>some []
 | r::l=>match kK H r with
  | some k=>match (bif k.tag.isSome then some k else match MZ.renPs pm k.cells with|some cs=>some { k with cells:=cs }|none=>none),aT3 pm H l with
   | some k',some H'=>some (some k'::H')
   | _,_=>none
  | none=>none
def a9T(pm:List Nat)(F:Frm):List Nat->Option Frm
 | []=>some []
 | t::l=>match MZ pm (dX F t),a9T pm F l with
  | some p,some F'=>some ((t,p)::F')
  | _,_=>none
def bE2(T pm:List Nat):Bool:=T.all λr=>match pm[r]? with
 | some s=>Nat.beq s r
 | none=>false
def a4C(T pm slots:List Nat)(F:Frm)(H:Heap):Option (Frm×Heap) :=
 bif aQV pm&&bE2 T pm then match aT3 pm H pm,a9T pm F slots with
  | some H',some F'=>some (F',H')
  | _,_=>none
 else none
def aIX(s i:Nat) (et:TypeId) (ty:Ty) (H:Heap):Heap:=match kK H s with
 | some k=>match k.cells.drop i with
  | .tl _ [] (some 0) _::rest=>bif !k.tag.isSome then ((H++[some ⟨aK ty [],et,true,false,some ⟨ty,[]⟩⟩]:Heap).set s (some { k with cells:=k.cells.take i++.own H.length ty.size::rest })) else H
  | .lit (.slice none m c)::rest=>bif Nat.beq m 0&&Nat.beq c 0&&!k.tag.isSome then ((H++[some ⟨aK ty [],et,true,false,some ⟨ty,[]⟩⟩]:Heap).set s (some { k with cells:=k.cells.take i++.own H.length ty.size::rest })) else H
  | _=>H
 | none=>H
def jY:List (Nat×Kd)->Frm->Heap->Frm×Heap
 | [],F,H=>(F,H)
 | (t,.own e ty)::r,F,H=>match dX F t with
  | .lit (.slice none m c)=>bif Nat.beq m 0&&Nat.beq c 0 then jY r ((t,.own H.length ty.size)::F) (H++[some ⟨aK ty [],e,true,false,some ⟨ty,[]⟩⟩]) else jY r F H
  | .tl _ [] (some 0) _=>jY r ((t,.own H.length ty.size)::F) (H++[some ⟨aK ty [],e,true,false,some ⟨ty,[]⟩⟩])
  | _=>jY r F H
 | (t,.bown e et ty)::r,F,H=>match dX F t with
  | .hptr s _=>match kK H s with
   | some k=>match k.cells with
    | [.lit (.slice none m c)]=>bif Nat.beq m 0&&Nat.beq c 0&&!k.tag.isSome then jY r F ((H++[some ⟨aK ty [],et,true,false,some ⟨ty,[]⟩⟩]:Heap).set s (some { k with cells:=[.own H.length ty.size] })) else jY r F H
    | _=>jY r F H
   | none=>jY r F H
  | _=>jY r F H
 | (t,.bag _ t1 et ty _)::r,F,H=>match dX F t with
  | .hptr s _=>match kK H s with
   | some k=>match k.cells.drop t1.size with
    | .tl _ [] (some 0) _::rest=>bif !k.tag.isSome then jY r F ((H++[some ⟨aK ty [],et,true,false,some ⟨ty,[]⟩⟩]:Heap).set s (some { k with cells:=k.cells.take t1.size++.own H.length ty.size::rest })) else jY r F H
    | .lit (.slice none m c)::rest=>bif Nat.beq m 0&&Nat.beq c 0&&!k.tag.isSome then jY r F ((H++[some ⟨aK ty [],et,true,false,some ⟨ty,[]⟩⟩]:Heap).set s (some { k with cells:=k.cells.take t1.size++.own H.length ty.size::rest })) else jY r F H
    | _=>jY r F H
   | none=>jY r F H
  | _=>jY r F H
 | (t,.bag2 _ t1 et ty eu u)::r,F,H=>match dX F t with
  | .hptr s _=>jY r F (aIX s (t1.1.size+1) eu u (aIX s t1.1.size et ty H))
  | _=>jY r F H
 | _::r,F,H=>jY r F H
def GK:List (Nat×Kd)->Frm->Heap->Frm×Heap
 | [],F,H=>(F,H)
 | (t,.box _ (.list _))::r,F,H=>match dX F t with
  | .hptr s _=>match kK H s with
   | some k=>match k.cells with
    | [.own u sz]=>match kK H u with
     | some ku=>match ku.tag with
      | some g=>bif !k.tag.isSome&&!Nat.beq u s then GK r F (((H.set u (some { ku with frozen:=true }))).set s (some { k with cells:=[UK g.t g.l none] })) else GK r F H
      | none=>GK r F H
     | none=>GK r F H
    | _=>GK r F H
   | none=>GK r F H
  | _=>GK r F H
 | _::r,F,H=>GK r F H
def aAR:List (Nat×Kd)->Frm->Heap->Option (List Nat)
 | [],_,_=>some []
 | (t,.own _ _)::r,F,H=>match dX F t,aAR r F H with
  | .own s _,some l=>some (s::l)
  | _,_=>none
 | (t,.box _ _)::r,F,H=>match dX F t,aAR r F H with
  | .hptr s _,some l=>some (s::l)
  | _,_=>none
 | (t,.bown _ _ _)::r,F,H=>match dX F t,aAR r F H with
  | .hptr s _,some l=>match kK H s with
   | some k=>match k.cells with
    | [.own u _]=>some (s::u::l)
    | _=>none
   | none=>none
  | _,_=>none
 | (t,.bque _ _ _)::r,F,H=>match dX F t,aAR r F H with
  | .hptr s _,some l=>match kK H s with
   | some k=>match k.cells with
    | [.own u _]=>some (s::u::l)
    | [.qs u _]=>some (s::u::l)
    | _=>none
   | none=>none
  | _,_=>none
 | (t,.bag _ t1 _ _ _)::r,F,H=>match dX F t,aAR r F H with
  | .hptr s _,some l=>match kK H s with
   | some k=>match k.cells.drop t1.size with
    | .own u _::_=>some (s::u::l)
    | _=>none
   | none=>none
  | _,_=>none
 | (t,.bag2 _ t1 _ _ _ _)::r,F,H=>match dX F t,aAR r F H with
  | .hptr s _,some l=>match kK H s with
   | some k=>match k.cells.drop t1.1.size with
    | .own u _::.own v _::_=>some (s::u::v::l)
    | _=>none
   | none=>none
  | _,_=>none
 | (_,.ar _ _)::r,F,H=>match aFP 0 H,aAR r F H with
  | some (ra,_),some l=>some (ra::l)
  | _,_=>none
 | _::r,F,H=>aAR r F H
def ET(T:List Nat) (sh:List (Nat×Kd)) (F:Frm) (H:Heap):Option (Shape.den sh) :=
 match EO sh F H with
 | (F0,H0)=>match GK sh F0 H0 with
  | (F1,H1)=>match jY sh F1 H1 with
   | (F2,H2)=>match aAR sh F2 H2 with
    | some pm=>match a4C T pm (slotsOf sh) F2 H2 with
     | some (F',H')=>bif Nat.beq H'.length (aS0 sh) then a8V sh F' H' 0 else none
     | none=>none
    | none=>none
section
variable {P:Program} {n0:Nat->Prop} {w wi:World} {G Gi:Gd} {μ μi μ':Mp} {H:Heap} {F:Frm} {a:Act} {nt:Nat}
theorem LW:∀ {l r i},posOf l r=some i->l[i]?=some r
 | [],r,i,h=>by cases h
 | x::l,r,i,h=>by
  simp only[posOf]at h;cases hb:Nat.beq x r with
  | true =>
   rw[hb]at h;simp only[oC,oJ]at h;subst h
   simp_all
  | false =>
   rw[hb]at h;simp only[oD]at h;split at h
   next j hj=>simp only[oJ]at h;subst h;simpa using LW hj
   grind
theorem aG0:∀ {l} {r i:Nat},posOf l r=none->l[i]?=some r->False
 | [],r,i,_,h=>W
 | x::l,r,i,hn,h=>by
  simp only[posOf]at hn;cases hb:Nat.beq x r with
  | true=>grind
  | false =>
   rw[hb]at hn;split at hn
   ·grind
   ·rename_i hp;cases i with
    | zero =>
     simp_all
    | succ i=>exact aG0 hp (by simpa using h)
theorem aGW:∀ {l} {i j r:Nat},aQV l=true->l[i]?=some r->l[j]?=some r->i=j
 | [],i,j,r,_,h,_=>W
 | x::l,i,j,r,hn,h1,h2=>by
  simp only[aQV,oA]at hn;obtain⟨hp,hn⟩:=hn;have hx:posOf l x=none:=W
  cases i with
  | zero =>
   simp only[List.getElem?_cons_zero,oJ]at h1;subst h1;cases j with
   | zero=>rfl
   | succ j=>exact(aG0 hx (by simpa using h2)).elim
  | succ i =>
   cases j with
   | zero =>
    simp only[List.getElem?_cons_zero,oJ]at h2;subst h2;exact(aG0 hx (by simpa using h1)).elim
   | succ j=>exact oZ (·+1) (aGW hn (by simpa using h1) W)
def aAQ(μ:Mp) (pm:List Nat):Mp:=⟨λi=>match pm[i]? with|some r=>μ.loc r|none=>none,λi=>match pm[i]? with|some r=>μ.len r|none=>none,λi=>match pm[i]? with|some r=>μ.sh r|none=>0⟩
theorem sQ {pm i r}(h:pm[i]?=some r):(aAQ μ pm).loc i=μ.loc r/\(aAQ μ pm).len i=μ.len r/\(aAQ μ pm).sh i=μ.sh r:=by simp[aAQ,h]
mutual
theorem a35 {pm:List Nat}:∀ (p q:PV) (v:Value),MZ pm p=some q->VR w G μ p v->VR w G (aAQ μ pm) q v
 | .lit u,q,v,h,hv=>by simp only[MZ,oJ]at h; subst h; rw[VR]at hv ⊢; exact hv
 | .vals ..,q,v,h,hv=>by simp only[MZ,oJ]at h; subst h; rw[VR]at hv ⊢; exact hv
 | .iptr _,q,v,h,hv=>by simp only[MZ,oJ]at h; subst h; rw[VR]at hv ⊢; exact hv
 | .tl ..,q,v,h,hv=>by simp only[MZ,oJ]at h; subst h; rw[VR]at hv ⊢; exact hv
 | .tp ..,q,v,h,hv=>by simp only[MZ,oJ]at h; subst h; rw[VR]at hv ⊢; exact hv
 | .row ..,q,v,h,hv=>by simp only[MZ,oJ]at h; subst h; rw[VR]at hv ⊢; exact hv
 | .rp ..,q,v,h,hv=>by simp only[MZ,oJ]at h; subst h; rw[VR]at hv ⊢; exact hv
 | .mp _,q,v,h,hv=>by simp only[MZ,oJ]at h; subst h; rw[VR]at hv ⊢; exact hv
 | .tm _,q,v,h,hv=>by simp only[MZ,oJ]at h; subst h; rw[VR]at hv ⊢; exact hv
 | .junk,q,v,h,hv=>by simp only[MZ,oJ]at h; subst h; rw[VR]; trivial
 | .hptr r off,q,v,h,hv=>by
  simp only[MZ]at h;split at h
  next i hi=>simp only[oJ]at h;subst h;have:=sQ (μ:=μ) (LW hi);rw[VR]at hv ⊢; rw[this.1,this.2.2]; exact hv
  ·cases h
 | .hs r off l c s,q,v,h,hv=>by
  simp only[MZ]at h;split at h
  next i hi=>simp only[oJ]at h;subst h;have:=sQ (μ:=μ) (LW hi);rw[VR]at hv ⊢; rw[this.1,this.2.2]; exact hv
  ·cases h
 | .own r s,q,v,h,hv=>by
  simp only[MZ]at h;split at h
  next i hi=>simp only[oJ]at h;subst h;have:=sQ (μ:=μ) (LW hi);rw[VR]at hv ⊢; rw[this.1,this.2.1,this.2.2]; exact hv
  ·cases h
 | .qs r s,q,v,h,hv=>by
  simp only[MZ]at h;split at h
  next i hi=>simp only[oJ]at h;subst h;have:=sQ (μ:=μ) (LW hi);rw[VR]at hv ⊢; rw[this.1,this.2.1,this.2.2]; exact hv
  ·cases h
 | .op r j off s,q,v,h,hv=>by
  simp only[MZ]at h;split at h
  next i hi=>simp only[oJ]at h;subst h;have:=sQ (μ:=μ) (LW hi);rw[VR]at hv ⊢; rw[this.1,this.2.2]; exact hv
  ·cases h
 | .win r lo n s,q,v,h,hv=>by
  simp only[MZ]at h;split at h
  next i hi=>simp only[oJ]at h;subst h;have:=sQ (μ:=μ) (LW hi);rw[VR]at hv ⊢; rw[this.1,this.2.1,this.2.2]; exact hv
  ·cases h
 | .agg cs,q,v,h,hv=>by
  simp only[MZ]at h;split at h
  next qs hq=>simp only[oJ]at h;subst h;rw[VR]at hv ⊢;obtain⟨vs,h1,h2⟩:=hv;exact⟨vs,h1,UI cs qs _ hq h2⟩
  ·cases h
 | .tuple cs,q,v,h,hv=>by
  simp only[MZ]at h;split at h
  next qs hq=>simp only[oJ]at h;subst h;rw[VR]at hv ⊢;obtain⟨vs,h1,h2⟩:=hv;exact⟨vs,h1,UI cs qs _ hq h2⟩
  ·cases h
 | .clo fn f c,q,v,h,hv=>by
  simp only[MZ]at h;split at h
  next f' c' hf hc=>simp only[oJ]at h;subst h;rw[VR]at hv ⊢;obtain⟨fs,cs,h1,h2,h3⟩:=hv;exact⟨fs,cs,h1,UI f f' _ hf h2,UI c c' _ hc h3⟩
  ·cases h
theorem UI {pm:List Nat}:∀ (ps qs:List PV) (vs:List Value),MZ.renPs pm ps=some qs->VRs w G μ ps vs->VRs w G (aAQ μ pm) qs vs
 | [],qs,vs,h,hv=>by
  simp only[MZ.renPs,oJ]at h;subst h;rw[VRs]at hv ⊢; exact hv
 | p::ps,qs,vs,h,hv=>by
  simp only[MZ.renPs]at h;split at h
  next q qs' hq hqs=>simp only[oJ]at h;subst h;rw[VRs]at hv ⊢;obtain⟨x,xs,h1,h2,h3⟩:=hv;exact⟨x,xs,h1,a35 p q x hq h2,UI ps qs' xs hqs h3⟩
  ·cases h
end
theorem aUU {pm}:∀ {l H'},aT3 pm H l=some H'->H'.length=l.length/\∀ (i:Nat) k',H'[i]?=some (some k')->∃ s k,l[i]?=some s/\H[s]?=some (some k)/\((k.tag.isSome=true/\k'=k)\/(k.tag=none/\∃ cs,MZ.renPs pm k.cells=some cs/\k'={ k with cells:=cs }))
 | [],H',h=>by
  simp only[aT3,oJ]at h;grind
 | r::l,H',h=>by
  simp only[aT3]at h;split at h
  next k hk=>
   split at h
   ·rename_i k1 H1 h1 h2;simp only[oJ]at h;subst h;obtain⟨e1,e2⟩:=aUU h2;refine⟨by simp[e1],λi k' hi=>?_⟩;cases i with
    | zero =>
     simp only[List.getElem?_cons_zero,oJ]at hi;subst hi;refine⟨r,k,rfl,aG hk,?_⟩;cases ht:k.tag with
     | some g =>
      grind
     | none =>
      grind
    | succ i =>
     grind
   ·cases h
  ·cases h
theorem a6D(hW:aR n0 G μ H w){pm}(hn:aQV pm=true){H'}(h:aT3 pm H pm=some H'):aR n0 G (aAQ μ pm) H' w:=by
 obtain⟨hlen,kK⟩:=aUU h;refine⟨?_,?_,?_,hW.lt,?_,hW.base,hW.rows.rel (λr s=>pm[r]?=some s) (λr r' s h1 h2=>aGW hn h1 h2) (λr k' hr=>?_)⟩
 case refine_5 =>
  obtain⟨s,k,a1,a2,a3⟩:=kK r k' hr;refine⟨s,k,a1,a2,?_⟩;rcases a3 with ⟨_,rfl⟩|⟨_,cs,_,rfl⟩
  ·exact⟨rfl,rfl,rfl,rfl,(sQ a1).1⟩
  ·exact⟨rfl,rfl,rfl,rfl,(sQ a1).1⟩
 ·intro r k' b hr hb;obtain⟨s,k,a1,a2,a3⟩:=kK r k' hr;rw[(sQ a1).1]at hb;obtain⟨c,c1,c2,c3,c4⟩:=hW.blk s k b a2 hb;rw[(sQ a1).2.2];rcases a3 with ⟨ht,rfl⟩|⟨ht,cs,hcs,rfl⟩
  ·refine⟨c,c1,?_,c3,c4⟩;obtain⟨g,hg⟩:=Option.isSome_iff_exists.1 ht;have:=(hW.tags s k' g a2 hg).1;rw[this]at c2 ⊢;exact uQ (lL _ _) c2
  ·obtain⟨vs,d1,d2⟩:=c2.values;have d3:=UI _ _ _ hcs d1;exact⟨c,c1,aM.qV d3 d2,λhg=>by rw[c3 hg]; show k.cells.length=cs.length; rw[d1.length,d3.length],c4⟩
 ·intro r k' g hr hg;obtain⟨s,k,a1,a2,a3⟩:=kK r k' hr;rw[(sQ a1).2.1];rcases a3 with ⟨ht,rfl⟩|⟨ht,cs,hcs,rfl⟩
  ·exact hW.tags s k' g a2 hg
  ·grind
 ·intro r1 r2 k1 k2 b e1 e2 f1 f2 m1 m2;obtain⟨s1,l1,a1,a2,a3⟩:=kK r1 k1 e1;obtain⟨s2,l2,b1,b2,b3⟩:=kK r2 k2 e2;rw[(sQ a1).1]at m1;rw[(sQ b1).1]at m2;have fz:∀ {k k':Blk},k'.frozen=false->((k.tag.isSome=true/\k'=k)\/(k.tag=none/\∃ cs,MZ.renPs pm k.cells=some cs/\k'={ k with cells:=cs }))->k.frozen=false:=W
  have:=hW.inj s1 s2 l1 l2 b a2 b2 (fz f1 a3) (fz f2 b3) m1 m2;subst this;exact aGW hn a1 b1
 ·intro r hr;have:pm[r]?=none:=List.getElem?_eq_none Z;simp[aAQ,this]
theorem aYV {pm}:∀ {l F'},a9T pm F l=some F'->∀ t,dX F' t=.junk\/MZ pm (dX F t)=some (dX F' t)
 | [],F',h,t=>by
  simp only[a9T,oJ]at h;subst h;exact .inl rfl
 | s::l,F',h,t=>by
  simp only[a9T]at h;split at h
  next p F1 hp hl=>
   simp only[oJ]at h;subst h;rw[jF]
   by_cases hs:t=s
   ·grind
   ·rw[if_neg hs]; exact aYV hl t
  grind
theorem aSF {T pm slots F' H'}(h:a4C T pm slots F H=some (F',H'))(hfl:∀ r,¬ r∈T->μi.loc r=none/\μi.len r=none)(hI:I n0 wi Gi μi nt F H a w):I n0 wi Gi μi nt F' H' a w:=by
 obtain⟨hn,h⟩:=aI h;simp only[oA]at hn;obtain⟨hn,hst⟩:=hn;have stay:∀ r,r∈T->pm[r]?=some r:=by
  intro r hr;have:=List.all_eq_true.1 hst r hr;split at this
  ·simp_all
  ·grind
 split at h
 next H1 F1 h1 h2=>
  obtain⟨rfl,rfl⟩:=h;obtain⟨G,μ,e,hW,hF⟩:=hI;refine⟨G,aAQ μ pm,?_,a6D hW hn h1,hF.size,λt=>?_,hF.defers⟩
  ·exact {
    good:=e.good
    map:=λr b hr=>by
     by_cases hT:r∈T
     ·rw[(sQ (stay r hT)).1]; exact e.map r b hr
     ·grind
    len:=λr b hr=>by
     by_cases hT:r∈T
     ·rw[(sQ (stay r hT)).2.1]; exact e.len r b hr
     ·grind
    sh:=λr b hr=>by
     by_cases hT:r∈T
     ·rw[(sQ (stay r hT)).2.2]; exact e.sh r b hr
     ·grind
    room:=e.room
    row:=e.row
    os:=e.os
    tape:=e.tape
    output:=e.output
    size:=e.size
    old:=e.old
    new:=e.new }
  ·rcases aYV h2 t with h3|h3
   ·rw[h3,VR]; trivial
   ·exact a35 _ _ _ h3 (hF.slot t)
 ·cases h
theorem MH(hW:aR n0 G μ H w) {s:Nat} {k:Blk} {cs:List PV} (hs:H[s]?=some (some k)) (ht:k.tag=none) (hc:∀ b o,aM w G μ b o k.cells->aM w G μ b o cs/\cs.length=k.cells.length) :
  aR n0 G μ (H.set s (some { k with cells:=cs })) w:=by
 have hsl:s<H.length:=(oO.1 hs).1;have key:∀ (r:Nat) (k':Blk),(H.set s (some { k with cells:=cs }))[r]?=some (some k')->(r=s/\k'={ k with cells:=cs })\/(r≠s/\H[r]?=some (some k')):=W
 refine⟨?_,?_,?_,hW.lt,λr hr=>hW.top r (by simpa using hr),hW.base,hW.rows.rel (λr s=>r=s) (λr r' s h1 h2=>h1.trans h2.symm) (λr k' hr=>?_)⟩
 case refine_4 =>
  grind
 ·intro r k' b hr hb;rcases key r k' hr with ⟨rfl,rfl⟩|⟨_,hr⟩
  ·obtain⟨c,c1,c2,c3,c4⟩:=hW.blk r k b hs hb;grind
  ·exact hW.blk r k' b hr hb
 ·intro r k' g hr hg;rcases key r k' hr with ⟨rfl,rfl⟩|⟨_,hr⟩
  ·grind
  ·exact hW.tags r k' g hr hg
 ·intro r1 r2 k1 k2 b e1 e2 f1 f2 m1 m2;have old:∀ (r:Nat) (k':Blk),(H.set s (some { k with cells:=cs }))[r]?=some (some k')->k'.frozen=false->∃ k0,H[r]?=some (some k0)/\k0.frozen=false:=W
  obtain⟨l1,a1,a2⟩:=old r1 k1 e1 f1;obtain⟨l2,b1,b2⟩:=old r2 k2 e2 f2;exact hW.inj r1 r2 l1 l2 b a1 b1 a2 b2 m1 m2
theorem aEP {s i et ty}(hI:I n0 wi Gi μi nt F H a w):I n0 wi Gi μi nt F (aIX s i et ty H) a w:=by
 unfold aIX;split
 next k hk=>
  split
  next t' e' rest hcs=>
   cases hb:(!k.tag.isSome)with
   | false=>exact hI
   | true =>
    have htag:k.tag=none:=by simp_all
    obtain⟨G,μ,e0,hW,hF⟩:=hI;obtain⟨e1,w1⟩:=sX hW ⟨aK ty [],et,true,false,some ⟨ty,[]⟩⟩ (on:=some 0) (λg hg=>by cases hg; exact⟨rfl,rfl⟩);have hk':=aG hk;have hsl:s<H.length:=(oO.1 hk').1;have hk2:(H++[some ⟨aK ty [],et,true,false,some ⟨ty,[]⟩⟩])[s]?=some (some k):=by rw[List.getElem?_append_left hsl]; exact hk'
    refine⟨G,_,e0.trans e1,MH w1 hk2 htag ?_,hF.mono e1.toMono⟩;intro b o hc;obtain⟨vs,d1,d2⟩:=hc.values;have d3:=d1.take i;have d4:=d1.drop i;rw[hcs,VRs]at d4;obtain⟨v,vc,e3,d5,d6⟩:=d4;obtain⟨ao,d7⟩:=aFF d5;have d8:VRs w G (upd μ H.length none (some 0)) (k.cells.take i++.own H.length ty.size::rest) (vs.take i++v::vc):=VRs.append d3 (by
     refine⟨v,vc,rfl,?_,d6⟩;exact⟨0,qL ..,.inl ⟨rfl,ao,d7⟩⟩)
    rw[<- e3,List.take_append_drop]at d8;exact⟨aM.qV d8 d2,by rw[d8.length,d1.length]⟩
  next m' c' rest hcs=>
   cases hb:(Nat.beq m' 0&&Nat.beq c' 0&&!k.tag.isSome)with
   | false=>exact hI
   | true =>
    simp only[oA]at hb;obtain⟨⟨hm,hc⟩,hb⟩:=hb;have hm:=oE hm;have hc:=oE hc;subst hm; subst hc;have htag:k.tag=none:=by simp_all
    obtain⟨G,μ,e0,hW,hF⟩:=hI;obtain⟨e1,w1⟩:=sX hW ⟨aK ty [],et,true,false,some ⟨ty,[]⟩⟩ (on:=some 0) (λg hg=>by cases hg; exact⟨rfl,rfl⟩);have hk':=aG hk;have hsl:s<H.length:=(oO.1 hk').1;have hk2:(H++[some ⟨aK ty [],et,true,false,some ⟨ty,[]⟩⟩])[s]?=some (some k):=by rw[List.getElem?_append_left hsl]; exact hk'
    refine⟨G,_,e0.trans e1,MH w1 hk2 htag ?_,hF.mono e1.toMono⟩;intro b o hc;obtain⟨vs,d1,d2⟩:=hc.values;have d3:=d1.take i;have d4:=d1.drop i;rw[hcs,VRs]at d4;obtain⟨v,vc,e3,d5,d6⟩:=d4;have d8:VRs w G (upd μ H.length none (some 0)) (k.cells.take i++.own H.length ty.size::rest) (vs.take i++v::vc):=VRs.append d3 (by
     refine⟨v,vc,rfl,?_,d6⟩;exact⟨0,qL ..,.inl ⟨rfl,none,d5⟩⟩)
    rw[<- e3,List.take_append_drop]at d8;exact⟨aM.qV d8 d2,by rw[d8.length,d1.length]⟩
  ·exact hI
 ·exact hI
theorem bY:∀ sh F H,I n0 wi Gi μi nt F H a w->I n0 wi Gi μi nt (jY sh F H).1 (jY sh F H).2 a w
 | [],F,H,hI=>hI
 | (t,.own e ty)::r,F,H,hI=>by
  have skip:I n0 wi Gi μi nt (jY r F H).1 (jY r F H).2 a w:=bY r F H hI;unfold jY;split
  next m c ht=>
   cases hb:(Nat.beq m 0&&Nat.beq c 0)with
   | false=>exact skip
   | true =>
    simp only[oA]at hb;have h1:=oE hb.1;have h2:=oE hb.2;subst h1; subst h2;obtain⟨G,μ,e0,hW,hF⟩:=hI;have hs:=hF.slot t;rw[ht,VR]at hs;obtain⟨e1,w1⟩:=sX hW ⟨aK ty [],e,true,false,some ⟨ty,[]⟩⟩ (on:=some 0) (λg hg=>by cases hg; exact⟨rfl,rfl⟩);refine bY r _ _ ⟨G,_,e0.trans e1,w1,iV.named (hF.mono e1.toMono) ?_⟩;exact⟨0,qL ..,.inl ⟨rfl,none,hs⟩⟩
  next t' e' ht=>obtain⟨G,μ,e0,hW,hF⟩:=hI;have hs:=hF.slot t;rw[ht]at hs;obtain⟨ao,hs⟩:=aFF hs;obtain⟨e1,w1⟩:=sX hW ⟨aK ty [],e,true,false,some ⟨ty,[]⟩⟩ (on:=some 0) (λg hg=>by cases hg; exact⟨rfl,rfl⟩);refine bY r _ _ ⟨G,_,e0.trans e1,w1,iV.named (hF.mono e1.toMono) ?_⟩;exact⟨0,qL ..,.inl ⟨rfl,ao,hs⟩⟩
  ·grind
 | (t,.bown e et ty)::r,F,H,hI=>by
  have skip:I n0 wi Gi μi nt (jY r F H).1 (jY r F H).2 a w:=bY r F H hI;unfold jY;split
  next s off ht=>
   split
   ·rename_i k hk;split
    ·rename_i m c hcs;cases hb:(Nat.beq m 0&&Nat.beq c 0&&!k.tag.isSome)with
     | false=>exact skip
     | true =>
      simp only[oC];simp only[oA,Bool.not_eq_true']at hb;have h1:=oE hb.1.1;have h2:=oE hb.1.2;subst h1; subst h2;have htag:k.tag=none:=by
       cases hq:k.tag with
       | none=>rfl
       | some g=>rw[hq]at hb; simp at hb
      obtain⟨G,μ,e0,hW,hF⟩:=hI;obtain⟨e1,w1⟩:=sX hW ⟨aK ty [],et,true,false,some ⟨ty,[]⟩⟩ (on:=some 0) (λg hg=>by cases hg; exact⟨rfl,rfl⟩);have hk':=aG hk;have hsl:s<H.length:=(oO.1 hk').1;have hk2:(H++[some ⟨aK ty [],et,true,false,some ⟨ty,[]⟩⟩])[s]?=some (some k):=by rw[List.getElem?_append_left hsl]; exact hk'
      refine bY r _ _ ⟨G,_,e0.trans e1,MH w1 hk2 htag ?_,hF.mono e1.toMono⟩;intro b o hc;rw[hcs]at hc ⊢;refine⟨?_,rfl⟩;rw[aM]at hc ⊢;obtain⟨⟨v,v1,v2⟩,v3⟩:=hc;refine⟨⟨v,v1,?_⟩,by rw[aM]; trivial⟩;have v4:v=.slice none 0 0:=by simpa only[VR]using v2
      simp only[VR];exact⟨0,qL ..,.inl ⟨rfl,none,v4⟩⟩
    ·exact skip
   ·exact skip
  ·exact skip
 | (_,.int _)::r,F,H,hI=>bY r F H hI
 | (_,.bool)::r,F,H,hI=>bY r F H hI
 | (_,.str)::r,F,H,hI=>bY r F H hI
 | (_,.list _)::r,F,H,hI=>bY r F H hI
 | (_,.agg _)::r,F,H,hI=>bY r F H hI
 | (_,.box _ _)::r,F,H,hI=>bY r F H hI
 | (_,.ptr _)::r,F,H,hI=>bY r F H hI
 | (_,.bque _ _ _)::r,F,H,hI=>bY r F H hI
 | (_,.fn _)::r,F,H,hI=>bY r F H hI
 | (_,.nil0)::r,F,H,hI=>bY r F H hI
 | (_,.val)::r,F,H,hI=>bY r F H hI
 | (_,.nilI)::r,F,H,hI=>bY r F H hI
 | (_,.clo _ _)::r,F,H,hI=>bY r F H hI
 | (_,.win _ _)::r,F,H,hI=>bY r F H hI
 | (_,.hnd _)::r,F,H,hI=>bY r F H hI
 | (_,.mpk _)::r,F,H,hI=>bY r F H hI
 | (_,.ar _ _)::r,F,H,hI=>bY r F H hI
 | (t,.bag2 e t1 et ty eu u)::r,F,H,hI=>by
  unfold jY;split
  ·exact bY r _ _ (aEP (aEP hI))
  ·exact bY r F H hI
 | (t,.bag e t1 et ty t2)::r,F,H,hI=>by
  have skip:I n0 wi Gi μi nt (jY r F H).1 (jY r F H).2 a w:=bY r F H hI;unfold jY;split
  next s off ht=>
   split
   ·rename_i k hk;split
    ·rename_i t' e' rest hcs;cases hb:(!k.tag.isSome)with
     | false=>exact skip
     | true =>
      simp only[oC];have htag:k.tag=none:=by
       cases hq:k.tag with
       | none=>rfl
       | some g=>rw[hq]at hb; simp at hb
      obtain⟨G,μ,e0,hW,hF⟩:=hI;obtain⟨e1,w1⟩:=sX hW ⟨aK ty [],et,true,false,some ⟨ty,[]⟩⟩ (on:=some 0) (λg hg=>by cases hg; exact⟨rfl,rfl⟩);have hk':=aG hk;have hsl:s<H.length:=(oO.1 hk').1;have hk2:(H++[some ⟨aK ty [],et,true,false,some ⟨ty,[]⟩⟩])[s]?=some (some k):=by rw[List.getElem?_append_left hsl]; exact hk'
      refine bY r _ _ ⟨G,_,e0.trans e1,MH w1 hk2 htag ?_,hF.mono e1.toMono⟩;intro b o hc;obtain⟨vs,d1,d2⟩:=hc.values;have d3:=d1.take t1.size;have d4:=d1.drop t1.size;rw[hcs,VRs]at d4;obtain⟨v,vc,e3,d5,d6⟩:=d4;obtain⟨ao,d7⟩:=aFF d5;have d8:VRs w G (upd μ H.length none (some 0)) (k.cells.take t1.size++.own H.length ty.size::rest) (vs.take t1.size++v::vc):=VRs.append d3 (by
       rw[VRs];refine⟨v,vc,rfl,?_,d6⟩;rw[VR];exact⟨0,qL ..,.inl ⟨rfl,ao,d7⟩⟩)
      rw[<- e3,List.take_append_drop]at d8;exact⟨aM.qV d8 d2,by rw[d8.length,d1.length]⟩
    ·rename_i m' c' rest hcs;cases hb:(Nat.beq m' 0&&Nat.beq c' 0&&!k.tag.isSome)with
     | false=>exact skip
     | true =>
      simp only[oC];simp only[oA]at hb;obtain⟨⟨hm,hc⟩,hb⟩:=hb;have hm:=oE hm;have hc:=oE hc;subst hm; subst hc;have htag:k.tag=none:=by
       cases hq:k.tag with
       | none=>rfl
       | some g=>rw[hq]at hb; simp at hb
      obtain⟨G,μ,e0,hW,hF⟩:=hI;obtain⟨e1,w1⟩:=sX hW ⟨aK ty [],et,true,false,some ⟨ty,[]⟩⟩ (on:=some 0) (λg hg=>by cases hg; exact⟨rfl,rfl⟩);have hk':=aG hk;have hsl:s<H.length:=(oO.1 hk').1;have hk2:(H++[some ⟨aK ty [],et,true,false,some ⟨ty,[]⟩⟩])[s]?=some (some k):=by rw[List.getElem?_append_left hsl]; exact hk'
      refine bY r _ _ ⟨G,_,e0.trans e1,MH w1 hk2 htag ?_,hF.mono e1.toMono⟩;intro b o hc;obtain⟨vs,d1,d2⟩:=hc.values;have d3:=d1.take t1.size;have d4:=d1.drop t1.size;rw[hcs,VRs]at d4;obtain⟨v,vc,e3,d5,d6⟩:=d4;rw[VR]at d5;have d8:VRs w G (upd μ H.length none (some 0)) (k.cells.take t1.size++.own H.length ty.size::rest) (vs.take t1.size++v::vc):=VRs.append d3 (by
       rw[VRs];refine⟨v,vc,rfl,?_,d6⟩;rw[VR];exact⟨0,qL ..,.inl ⟨rfl,none,d5⟩⟩)
      rw[<- e3,List.take_append_drop]at d8;exact⟨aM.qV d8 d2,by rw[d8.length,d1.length]⟩
    ·exact skip
   ·exact skip
  ·exact skip
theorem bH:∀ sh F H,I n0 wi Gi μi nt F H a w->I n0 wi Gi μi nt (GK sh F H).1 (GK sh F H).2 a w
 | [],F,H,hI=>hI
 | (t,.box e (.list ty))::r,F,H,hI=>by
  have skip:I n0 wi Gi μi nt (GK r F H).1 (GK r F H).2 a w:=bH r F H hI;unfold GK;split
  next s off ht=>
   split
   ·rename_i k hk;split
    ·rename_i u sz hcs;split
     ·rename_i ku hku;split
      ·rename_i g hg;cases hb:(!k.tag.isSome&&!Nat.beq u s)with
       | false=>exact skip
       | true =>
        have htag:k.tag=none:=by simp_all
        have hne:u≠s:=λe=>by rw[e]at hb; simp at hb
        obtain⟨G,μ,e0,hW,hF⟩:=hI;have hul:u<H.length:=(oO.1 (aG hku)).1;have hk2:(H.set u (some { ku with frozen:=true }))[s]?=some (some k):=by rw[List.getElem?_set_ne hne]; exact aG hk
        have hku2:kK (H.set u (some { ku with frozen:=true })) u=some { ku with frozen:=true }:=by simp only[kK,List.getElem?_set_self hul]
        have fin:∀ {G1:Gd} {w1:World} {μ1:Mp},(∀ b,μ1.loc u=some b->G1 b)->aR n0 G1 μ1 (H.set u (some { ku with frozen:=true })) w1->aR n0 G1 μ1 ((H.set u (some { ku with frozen:=true })).set s (some { k with cells:=[UK g.t g.l none] })) w1:=by
         intro G1 w1 μ1 hGu hW1;refine MH hW1 hk2 htag λb o hc=>?_
         rw[hcs]at hc ⊢;refine⟨?_,rfl⟩;obtain⟨⟨v,v1,v2⟩,v3⟩:=hc;exact⟨⟨v,v1,(LS hW1 v2 hku2 hg (λb h=>h) hGu).aW⟩,by rw[aM]; trivial⟩
        cases hfz:ku.frozen with
        | true =>
         have hsame:H.set u (some { ku with frozen:=true })=H:=by
          apply List.ext_getElem?;intro i
          by_cases hi:u=i
          ·subst hi;rw[List.getElem?_set_self hul,aG hku];obtain⟨k1,k2,k3,k4,k5⟩:=ku;grind
          ·grind
         refine bH r _ _ ⟨G,μ,e0,fin (λb hb=>?_) (by rw[hsame]; exact hW),hF⟩;obtain⟨_,_,_,_,h5,_⟩:=hW.blk u ku b (aG hku) hb;grind
        | false =>
         obtain⟨e1,w1⟩:=XG hW (aG hku) hfz;exact bH r _ _ ⟨_,μ,e0.trans e1,fin (λb hb=>.inr hb) w1,hF.mono e1.toMono⟩
      ·grind
     ·grind
    ·grind
   ·grind
  ·grind
 | (_,.int _)::r,F,H,hI=>bH r F H hI
 | (_,.bool)::r,F,H,hI=>bH r F H hI
 | (_,.str)::r,F,H,hI=>bH r F H hI
 | (_,.list _)::r,F,H,hI=>bH r F H hI
 | (_,.agg _)::r,F,H,hI=>bH r F H hI
 | (_,.box _ (.int _))::r,F,H,hI=>bH r F H hI
 | (_,.box _ .bool)::r,F,H,hI=>bH r F H hI
 | (_,.box _ .str)::r,F,H,hI=>bH r F H hI
 | (_,.box _ (.hnd _))::r,F,H,hI=>bH r F H hI
 | (_,.box _ (.rows _))::r,F,H,hI=>bH r F H hI
 | (_,.box _ .smap)::r,F,H,hI=>bH r F H hI
 | (_,.box _ (.prod _ _))::r,F,H,hI=>bH r F H hI
 | (_,.ptr _)::r,F,H,hI=>bH r F H hI
 | (_,.bque _ _ _)::r,F,H,hI=>bH r F H hI
 | (_,.fn _)::r,F,H,hI=>bH r F H hI
 | (_,.nil0)::r,F,H,hI=>bH r F H hI
 | (_,.val)::r,F,H,hI=>bH r F H hI
 | (_,.nilI)::r,F,H,hI=>bH r F H hI
 | (_,.clo _ _)::r,F,H,hI=>bH r F H hI
 | (_,.win _ _)::r,F,H,hI=>bH r F H hI
 | (_,.hnd _)::r,F,H,hI=>bH r F H hI
 | (_,.mpk _)::r,F,H,hI=>bH r F H hI
 | (_,.ar _ _)::r,F,H,hI=>bH r F H hI
 | (_,.own _ _)::r,F,H,hI=>bH r F H hI
 | (_,.bown _ _ _)::r,F,H,hI=>bH r F H hI
 | (_,.bag _ _ _ _ _)::r,F,H,hI=>bH r F H hI
 | (_,.bag2 _ _ _ _ _ _)::r,F,H,hI=>bH r F H hI
theorem N8 {T sh x}(h:ET T sh F H=some x)(hfl:∀ r,¬ r∈T->μi.loc r=none/\μi.len r=none)(hI:I n0 wi Gi μi nt F H a w):I n0 wi Gi μi nt (D1 sh x 0) (O1 sh x) a w:=by
 unfold ET at h;replace hI:=EM sh F H hI;split at h;rename_i F0 H0 hd0;rw[hd0]at hI;replace hI:=bH sh F0 H0 hI;split at h;rename_i F1 H1 hd1;rw[hd1]at hI;replace hI:=bY sh F1 H1 hI;split at h;rename_i F2 H2 hd2;rw[hd2]at hI;split at h
 ·split at h
  next F' H' ht=>
   obtain⟨hb,h⟩:=aI h;obtain⟨G,μ,e,hW,hF⟩:=aSF ht hfl hI;obtain⟨h1,h2⟩:=aIB hW hF.slot sh h;have hH:∀ i:Nat,aWV H'[i]? (O1 sh x)[i]?:=by
    intro i;rcases oG i (aS0 sh)with hl|hl
    ·have:=h2 i hl;rwa[Nat.zero_add]at this
    ·have e1:=oE hb;exact .inl (by rw[List.getElem?_eq_none Z,List.getElem?_eq_none (by rw[aNB]; omega)])
   exact⟨G,μ,e,hW.a4W hH,hF.size,h1,hF.defers⟩
  grind
 grind
end
end Go.PM
