/- Texts of one proof, joined (2). -/
import Derived.Test.YtmghkhgpkefgeaaGreatDoorQP1
set_option linter.unusedSimpArgs false
set_option linter.unusedVariables false
noncomputable section
namespace Go.PM
open Go Go.RowKit
section
variable {P:Program} {n0:Nat->Prop} {w:World} {G:Gd} {μ:Mp} {H:Heap}
def Source(P:Program) (w:World) (G:Gd) (μ:Mp) (sz:Nat) (v:Value) (new:List PV) (n:Nat):Prop :=
 (∀ w1:World,(Builtin.lenOf v).run P w1=.ok n w1)/\new.length=n*sz /\
  ∀ m,m<=n->∃ vs:Array Value,VRs w G μ (new.take (m*sz)) vs.toList/\∀ w1:World,w1.heap=w.heap->(Builtin.firstCells sz m v).run P w1=.ok vs w1
theorem aUA {w1:World}(h:w1.heap=w.heap) p:w1.cell? p=w.cell? p:=by simp[World.cell?,h]
theorem C3 {b off n c sz cs}(hc:aM w G μ b off cs)(hl:cs.length=n*sz):Source P w G μ sz (.slice (some ⟨b,off,none⟩) n c) cs n:=by
 refine⟨λw1=>rfl,hl,λm hm=>?_⟩;obtain⟨vs,h1,h2⟩:=(hc.take (m*sz)).values;have hvl:=h1.length;rw[List.length_take,hl,Nat.min_eq_left (Nat.mul_le_mul_right _ hm)]at hvl;refine⟨vs.toArray,by omega,λw1 hw=>?_⟩;have:=run_loadCells (P:=P) λj hj=>by rw[aUA hw]; exact h2 j hj
 rw[<- hvl]at this;exact this
theorem aGU(hW:aR n0 G μ H w){sz n p new v}(hp:VR w G μ p v)(h:aOQ H sz p=some (new,n)):Source P w G μ sz v new n:=by
 unfold aOQ at h;split at h
 next cs n' cap=>
  cases hb:Nat.beq cs.length (n'*sz)with
  | false=>rw[hb]at h; cases h
  | true =>
   rw[hb]at h;simp only[oC,oJ,oP]at h;obtain⟨rfl,rfl⟩:=h;have hb:=oE hb;rw[VR]at hp;obtain⟨ao,c,rfl,_,_,h3⟩:=hp;rcases h3 with rfl|⟨b,off,rfl,_,hc⟩
   ·refine⟨λw1=>rfl,hb,λm hm=>⟨#[],by simp[VRs],λw1 _=>?_⟩⟩;have h0:m*sz=0:=by
     have:=Nat.mul_le_mul_right sz hm;simp only[List.length_nil]at hb;omega
    cases ao with
    | none=>rfl
    | some a=>simp[Builtin.firstCells,h0,loadCells,loadCellsFrom]
   ·exact C3 hc.aW hb
 next r off n' cap sz'=>
  split at h
  next k hk=>
   cases hb:Nat.ble (off+n'*sz) k.cells.length with
   | false=>rw[hb]at h; cases h
   | true =>
    rw[hb]at h;simp only[oC,oJ,oP]at h;obtain⟨rfl,rfl⟩:=h;have hb:=oL hb;rw[VR]at hp;obtain⟨b,c,hμ,rfl,_⟩:=hp;obtain⟨c',g2,g3,_⟩:=hW.blk r k b (aG hk) hμ;have:=g3.sub off (n'*sz);exact C3 this (by simp; omega)
  ·cases h
 next n' c=>
  cases hb:Nat.beq n' 0 with
  | false=>rw[hb]at h; cases h
  | true =>
   rw[hb]at h;simp only[oC,oJ,oP]at h;obtain⟨rfl,rfl⟩:=h;have hb:=oE hb;subst hb;rw[VR]at hp;subst hp;exact⟨λw1=>rfl,by simp,λm hm=>⟨#[],by simp[VRs],λw1 _=>rfl⟩⟩
 next s=>
  cases hb:Nat.beq sz 1 with
  | false=>rw[hb]at h; cases h
  | true =>
   rw[hb]at h;simp only[oC,oJ,oP]at h;obtain⟨rfl,rfl⟩:=h;have hb:=oE hb;subst hb;rw[VR]at hp;subst hp;have hsz:s.data.size=s.size:=rfl;refine⟨λw1=>rfl,by simp[a1H,hsz],λm hm=>⟨(s.extract 0 m).data.map λb=>.int .u8 b.toNat,?_,λw1 _=>rfl⟩⟩;have:=VRs.lits (w:=w) (G:=G) (μ:=μ) ((s.data.toList.take m).map λb=>Value.int .u8 b.toNat);simpa[a1H,List.map_take,List.map_map,Function.comp_def]using this
 ·cases h
theorem ZX {u d}(h:P.underlying u=some d)(hd:∀ k,d≠.int k) w1 :
  (do pure ((<- underlying u) matches .int _)).run P w1=.ok false w1:=by
 simp only[Sem.run_bind,run_underlying h,Result.andThen_ok,Sem.run_pure]
section
variable {t u e:TypeId} {i:TypeInfo} {z:Value} {d:TypeDesc} (ht:P.underlying t=some (.slice e)) (hu:P.underlying u=some d) (hd:∀ k,d≠.int k) (hi:P.info? e=some i)
include ht hu hd hi
theorem C5 {x:Value} {n l c:Nat} {ty:TypeId} {ao:Option Addr} (hlen:∀ w1:World,(Builtin.lenOf x).run P w1=.ok n w1) (hfit:l+n<=c) {vs:Array Value} (hx:(Builtin.firstCells i.size n x).run P w=.ok vs w) {w':World}
  (hst:match ao with|some a=>(storeCells (a.add (l*i.size)) vs.toList).run P w=.ok () w'|none=>w'=w) :
  (Builtin.append_ #[t,u] ty #[.slice ao l c,x]).run P w=.ok (.slice ao (l+n) c) w':=by
 have hsz:(sizeOf e).run P w=.ok i.size w:=by simp[sizeOf,FA hi]
 have hb:=ZX hu hd w;have q0:(#[t,u]:Array TypeId)[0]?=some t:=rfl;have q1:(#[t,u]:Array TypeId)[1]?=some u:=rfl;have q2:(#[Value.slice ao l c,x]:Array Value)[0]?=some (Value.slice ao l c):=rfl;have q3:(#[Value.slice ao l c,x]:Array Value)[1]?=some x:=rfl;unfold Builtin.append_;simp only[q0,q1,q2,q3,Sem.run_bind,run_underlying ht,Result.andThen_ok,hsz,hb,hlen];simp only[Sem.run_bind,Sem.run_pure,run_underlying hu,Result.andThen_ok]
 have hm:(match (generalizing:=false) d with|.int _=>true|_=>false)=false:=by cases d <;> first|rfl|exact absurd rfl (hd _)
 simp only[hm,Bool.false_eq_true,if_false,hlen,Result.andThen_ok,if_pos hfit,Bool.not_false,if_true,hx,Sem.run_bind];cases ao with
 | none=>simp only at hst; subst hst; simp
 | some a=>simp only at hst; simp[hst]
theorem yY(hz:i.zero=some z) {x:Value} {n l c:Nat} {ty:TypeId} {ao:Option Addr} (hlen:∀ w1:World,(Builtin.lenOf x).run P w1=.ok n w1) (hfit:¬ l+n<=c) (hb1:i.bytes<=65536) (hb2:n<=1048576) (hb3:l<=1048576)
  {vs os:Array Value} (hx:∀ w1:World,w1.heap=w.heap->(Builtin.firstCells i.size n x).run P w1=.ok vs w1) (ho:∀ w1:World,w1.heap=w.heap->(Builtin.firstCells i.size l (.slice ao l c)).run P w1=.ok os w1) :
  ∃ c',l+n<=c'/\(Builtin.append_ #[t,u] ty #[.slice ao l c,x]).run P w=.ok (.slice (some ⟨w.heap.size,0,none⟩) (l+n) c') (w.drew.alloc (.cells (os++vs++Builtin.zeroCells z.cells (c'-(l+n))) e)):=by
 have hsz:(sizeOf e).run P w=.ok i.size w:=by simp[sizeOf,FA hi]
 have hb:=ZX hu hd w;have q0:(#[t,u]:Array TypeId)[0]?=some t:=rfl;have q1:(#[t,u]:Array TypeId)[1]?=some u:=rfl;have q2:(#[Value.slice ao l c,x]:Array Value)[0]?=some (Value.slice ao l c):=rfl;have q3:(#[Value.slice ao l c,x]:Array Value)[1]?=some x:=rfl;have hcap:Builtin.nextslicecap (l+n) c*i.bytes<=281474976710656:=by
  have h1:=nextslicecap_le (need:=l+n) (old:=c) Z;have h2:Builtin.nextslicecap (l+n) c*i.bytes<=4194304*65536:=Nat.mul_le_mul Z hb1;omega
 have hcap':¬ (Builtin.nextslicecap (l+n) c*i.bytes>2^48):=Z
 have hmax:IntKind.i64.max=9223372036854775807:=rfl;have h63:¬ (((l+n:Nat):Int)>IntKind.i64.max/\(false=true\/i.bytes=0)):=by rw[hmax]; omega
 refine⟨grownCap w (l+n) c e,?_,?_⟩
 ·simp only[grownCap,Question.cut]; omega
 ·unfold Builtin.append_;simp only[q0,q1,q2,q3,Sem.run_bind,run_underlying ht,Result.andThen_ok,hsz,hb,hlen];simp only[Sem.run_bind,Sem.run_pure,run_underlying hu,Result.andThen_ok];have hm:(match (generalizing:=false) d with|.int _=>true|_=>false)=false:=by cases d <;> first|rfl|exact absurd rfl (hd _)
  simp only[hm,Bool.false_eq_true,if_false,hlen,Result.andThen_ok,if_neg hfit,Bool.not_false,if_true];have h63':¬ (((l+n:Nat):Int)>IntKind.i64.max/\(False\/i.bytes=0)):=by rw[hmax]; omega
  simp only[Sem.run_bind,hlen,Result.andThen_ok,if_neg hfit,FA hi];rw[if_neg h63'];have e1:=hx w.drew rfl;have e2:=ho w.drew rfl;simp only[World.drew]at e1 e2;simp only[Sem.run_bind,FA hi,Result.andThen_ok,if_neg hcap',run_choose,Question.forced,Bool.false_eq_true,if_false,run_askRoom,e1,e2,zeroValue,hz,Sem.run_pure,newRow,run_newObj];rfl
end
theorem R9 {t u e:TypeId} {i:TypeInfo} {d:TypeDesc} (ht:P.underlying t=some (.slice e)) (hu:P.underlying u=some d) (hd:∀ k,d≠.int k) (hi:P.info? e=some i) {x:Value} {new:List PV} {l c:Nat} {ty:TypeId} {ao:Option Addr}
  (hs:Source P w G μ i.size x new 0) (hl:l<=c):(Builtin.append_ #[t,u] ty #[.slice ao l c,x]).run P w=.ok (.slice ao l c) w:=by
 obtain⟨h1,h2,h3⟩:=hs;obtain⟨vs,h4,h5⟩:=h3 0 (oM _);rw[Nat.zero_mul,List.take_zero,VRs]at h4;have:=C5 (w:=w) (w':=w) ht hu hd hi (ty:=ty) (ao:=ao) (l:=l) (c:=c) h1 (by simpa using hl) (h5 w rfl) (by
  rw[h4];cases ao <;> simp[storeCells])
 simpa using this
theorem aOZ(hW:aR n0 G μ H w) {e sz need c' cells os vs rest} (hv:VRs w G μ cells (os++vs).toList) (hneed:need<=c') (hl:(os++vs).size=need*sz) (hr:rest.size=(c'-need)*sz) {s}
  (h:s.run P w=.ok (.slice (some ⟨w.heap.size,0,none⟩) need c') (w.drew.alloc (.cells (os++vs++rest) e))):xE P n0 w G μ s (aC8 H e sz need cells).1 (aC8 H e sz need cells).2:=by
 have hW':aR n0 G μ H w.drew:=aK6 hW (w.drawn+1);have e1:Ext n0 w G μ w.drew G μ:=aRA (Nat.le_succ _);have hk:=HX (on:=none) hW' (os++vs++rest) ⟨cells,e,true,false,none⟩ (λj p hp=>by
  obtain⟨u,g1,g2⟩:=hv.get hp;refine⟨u,?_,VR.mono e1.toMono p u g2⟩;grind) (λh=>by cases h) rfl (λg hg=>by cases hg)
 refine⟨_,_,G,_,h,e1.trans (FD hW' _ _ _),hk,?_⟩;simp only[aC8];rw[VR];rw[A8];simp only[Nat.zero_add];refine⟨w.heap.size,c',lE _ _ _ _,rfl,hneed,λk hk=>(by cases hk),os++vs++rest,e,(0,0),?_,?_⟩
 ·show (w.heap.push _)[w.heap.size]?=_;simp
 ·rw[Array.size_append,hl,hr,<- Nat.add_mul];grind
theorem xE.aOM {s x v H'}(h:x=(v,H'))(k:xE P n0 w G μ s x.1 x.2):xE P n0 w G μ s v H':=W
theorem pR z n:(Builtin.zeroCells z n).size=n*z.size:=by simp[Builtin.zeroCells]
theorem xE.put {s v' w' v H'}(h:s.run P w=.ok v' w')(e:Ext n0 w G μ w' G μ)(hW:aR n0 G μ H' w')(hv:VR w G μ v v'):xE P n0 w G μ s v H':=⟨v',w',G,μ,h,e,hW,VR.mono e.toMono _ _ hv⟩
theorem a0A(hW:aR n0 G μ H w) {t u e:TypeId} {i:TypeInfo} {z:Value} {d:TypeDesc} (ht:P.underlying t=some (.slice e)) (hu:P.underlying u=some d) (hd:∀ k,d≠.int k) (hi:P.info? e=some i) (hz:i.zero=some z)
  (hb1:i.bytes<=65536) (hzs:z.cells.size=i.size) {x:Value} {new:List PV} {n l:Nat} {ty:TypeId} (hs:Source P w G μ i.size x new n) (hn:n<=1048576) (hl:l<=1048576) (hok:new.all SK=true)
  {r:Nat} {k:Blk} (hk:kK H r=some k) (hf:k.frozen=false) (hg:k.grown=true) (hte:k.ty=e) (hle:l*i.size<=k.cells.length) {b c:Nat} (hb:μ.loc r=some b) (hlc:l<=c) (hroom:Room w b (μ.sh r+c*i.size)) :
  xE P n0 w G μ (Builtin.append_ #[t,u] ty #[.slice (some ⟨b,μ.sh r,none⟩) l c,x]) (aC8 (H.set r none) e i.size (l+n) (k.cells.take (l*i.size)++new)).1 (aC8 (H.set r none) e i.size (l+n) (k.cells.take (l*i.size)++new)).2:=by
 obtain⟨cs,g2,g3,g4,g5,g6⟩:=hW.blk r k b (aG hk) hb;obtain⟨s1,s2,s3⟩:=hs;obtain⟨vs,v1,v2⟩:=s3 n (oM _);rw[List.take_of_length_le Z]at v1;have hvl:new.length=vs.size:=by simpa using v1.length
 obtain⟨i1,i2⟩:=IW g2 g3
 by_cases hfit:l+n<=c
 ·obtain⟨c2,t2,fr2,r1,r2⟩:=hroom;rw[g2]at r1; cases r1;have hmul:(l+n)*i.size<=c*i.size:=Nat.mul_le_mul_right _ hfit;rw[Nat.add_mul]at hmul;have hfs:Fits cs (μ.sh r+l*i.size) vs.toList:=.inr (by simp only[Array.length_toList]; omega);obtain⟨w',h1,h2⟩:=vA (P:=P) (off:=μ.sh r+l*i.size) vs.toList 0 w cs (L4 hok v1) g2 hfs;rw[Nat.add_zero]at h2;have hsz:(sC cs (μ.sh r+l*i.size) vs.toList).size=cs.size:=EG hfs
  have e1:=H6 hW (aG hk) hf hb g2 h2 hsz;have hW':=L6 (k':=⟨k.cells.take (l*i.size)++new,e,true,false,none⟩) hW (aG hk) hf hb g2 (hte ▸ h2) hsz rfl (by
   refine zD (n:=l*i.size+vs.size) h2.at_ (VRs.mono e1.toMono _ _ ?_);have:=i1.take (l*i.size);rw[List.take_take,Nat.min_eq_left hle]at this;have h3:=this.append v1;rw[JC (by simp only[Array.length_toList]; omega) Z,List.take_take,Nat.min_eq_left Z,@List.drop_eq_nil_of_le _ ((cs.toList.drop (μ.sh r)).take (l*i.size+vs.size)) _ (by simp only[List.length_take,Array.length_toList]; omega),List.append_nil]
   exact h3) (λh=>by cases h) (λg hg=>by cases hg)
  have hrl:r<H.length:=(oO.1 (aG hk)).1;obtain⟨e3,hW''⟩:=RV (r:=r) (on:=none) hW' (List.getElem?_set_self hrl) hb (λg hg=>by cases hg);simp only[List.length_set,List.set_set]at e3 hW'';have hrun:=C5 (w:=w) (w':=w') (ty:=ty) (ao:=some ⟨b,μ.sh r,none⟩) ht hu hd hi s1 hfit (v2 w rfl) (by simp only[Addr.add_lit]; exact h1);refine⟨_,w',G,_,hrun,e1.trans e3,by simpa[aC8]using hW'',?_⟩;simp only[aC8];rw[VR]
  rw[List.length_set,A8];exact⟨b,c,lE _ _ _ _,rfl,hfit,λk hk=>(by cases hk),_,_,_,h2.at_,by rw[hsz]; omega⟩
 ·have hsub:=g3.sub 0 (l*i.size);rw[Nat.add_zero,List.drop_zero]at hsub;obtain⟨os,o1,o2⟩:=(C3 (P:=P) (c:=c) hsub (by simp; omega):Source P w G μ i.size (.slice (some ⟨b,μ.sh r,none⟩) l c) _ l).2.2 l (oM _);rw[List.take_of_length_le (by simp; omega)]at o1;have hol:l*i.size=os.size:=by have:=o1.length; rw[List.length_take,Nat.min_eq_left hle]at this; simpa using this
  obtain⟨c',q1,q2⟩:=yY (w:=w) (ty:=ty) (ao:=some ⟨b,μ.sh r,none⟩) ht hu hd hi hz s1 hfit hb1 hn hl v2 o2;exact aOZ (tY hW r) (os:=os) (vs:=vs) (by rw[Array.toList_append]; exact o1.append v1) q1 (by rw[Array.size_append,Nat.add_mul,<- hol,<- hvl,s2]) (by rw[pR,hzs]) q2
set_option maxHeartbeats 2000000 in
theorem aSJ(hW:aR n0 G μ H w) {tys:Array TypeId} {ty:TypeId} {p q v:PV} {H':Heap} {s x:Value} (hp:VR w G μ p s) (hq:VR w G μ q x) (h:aXF P H tys p q=some (v,H')):xE P n0 w G μ (Builtin.append_ tys ty #[s,x]) v H':=by
 unfold aXF at h;split at h
 next t u htys=>
  have htys:tys=#[t,u]:=by apply Array.ext'; simpa using htys
  subst htys;split at h
  ·cases h
  ·cases h
  next e d hnot ht hu=>
   have hd:∀ k,d≠.int k:=λk hk=>hnot k (by rw[hk])
   split at h
   ·rename_i i hi;split at h
    ·rename_i z hz;cases hb:(Nat.ble i.bytes 65536&&Nat.ble 1 i.size&&Nat.beq z.cells.size i.size)with
     | false=>rw[hb]at h; cases h
     | true =>
      rw[hb]at h;simp only[oC]at h;simp only[oA]at hb;have hb1:=oL hb.1.1;have hzs:=oE hb.2;split at h
      ·rename_i new n hsrc;cases hc:(Nat.ble n 1048576&&new.all SK)with
       | false=>rw[hc]at h; cases h
       | true =>
        rw[hc]at h;simp only[oC]at h;simp only[oA]at hc;have hn:=oL hc.1;have hs:=aGU (P:=P) hW hq hsrc;have hs':=hs;obtain⟨s1,s2,s3⟩:=hs;obtain⟨vs,v1,v2⟩:=s3 n (oM _);rw[List.take_of_length_le Z]at v1;have hvl:new.length=vs.size:=by simpa using v1.length
        split at h
        ·rename_i l c;rw[VR]at hp;subst hp;cases hlc:(Nat.beq l 0&&Nat.beq c 0)with
         | false=>rw[hlc]at h; cases h
         | true =>
          rw[hlc]at h;simp only[oC]at h;simp only[oA]at hlc;have e1:=oE hlc.1;have e2:=oE hlc.2;subst e1; subst e2;cases hn0:Nat.beq n 0 with
          | true =>
           rw[hn0]at h;simp only[oC,oJ,oP]at h;obtain⟨rfl,rfl⟩:=h;have hn0:=oE hn0;subst hn0;exact .same hW (R9 ht hu hd hi hs' (oM _)) (by rw[VR])
          | false =>
           rw[hn0]at h;simp only[oD,oJ]at h;have hn1:n≠0:=λe=>(by rw[e]at hn0; cases hn0)
           obtain⟨c',q1,q2⟩:=yY (w:=w) (ty:=ty) (ao:=none) (l:=0) (c:=0) ht hu hd hi hz s1 Z hb1 hn Z (os:=#[]) v2 (λw1 _=>rfl);refine xE.aOM h ?_;have:=aOZ hW (os:=#[]) (vs:=vs) (cells:=new) (sz:=i.size) (by simpa using v1) q1 (by rw[Array.size_append,Array.size_empty,Nat.zero_add,Nat.zero_add,<- hvl,s2]) (by rw[pR,hzs]) q2;rwa[Nat.zero_add]at this
        ·rename_i cs l cap;have hp':=hp;rw[VR]at hp;obtain⟨ao,c,rfl,h3,h4,h5⟩:=hp;cases hn0:Nat.beq n 0 with
         | true =>
          rw[hn0]at h;simp only[oC,oJ,oP]at h;obtain⟨rfl,rfl⟩:=h;have hn0:=oE hn0;subst hn0;exact .same hW (R9 ht hu hd hi hs' h3) hp'
         | false =>
          rw[hn0]at h;simp only[oD]at h;cases hcl:(Nat.beq cs.length (l*i.size)&&Nat.ble l 1048576)with
          | false=>rw[hcl]at h; cases h
          | true =>
           rw[hcl]at h;simp only[oC]at h;simp only[oA]at hcl;have hcl1:=oE hcl.1;have hl:=oL hcl.2;cases cap with
           | none=>cases h
           | some c' =>
            simp only at h;have:=h4 c' rfl;subst this;cases hfit:Nat.ble (l+n) c with
            | true=>rw[hfit]at h; cases h
            | false =>
             rw[hfit]at h;simp only[oD,oJ]at h;have hfit:¬ l+n<=c:=λhle=>(by rw[Nat.ble_eq_true_of_le hle]at hfit; cases hfit)
             obtain⟨os,o1,o2⟩:∃ os:Array Value,VRs w G μ cs os.toList/\∀ w1:World,w1.heap=w.heap->(Builtin.firstCells i.size l (.slice ao l c)).run P w1=.ok os w1:=by
              rcases h5 with rfl|⟨b,off,rfl,_,hcs⟩
              ·refine⟨#[],by simp[VRs],λw1 _=>?_⟩;simp only[List.length_nil]at hcl1;cases ao with
               | none=>rfl
               | some a=>simp[Builtin.firstCells,<- hcl1,loadCells,loadCellsFrom]
              ·have:=(C3 (P:=P) (μ:=μ) (c:=c) hcs.aW hcl1).2.2 l (oM _);rwa[List.take_of_length_le Z]at this
             have hol:cs.length=os.size:=by simpa using o1.length
             obtain⟨c',q1,q2⟩:=yY (w:=w) (ty:=ty) (ao:=ao) ht hu hd hi hz s1 hfit hb1 hn hl v2 o2;refine xE.aOM h ?_;exact aOZ hW (os:=os) (vs:=vs) (by rw[Array.toList_append]; exact o1.append v1) q1 (by rw[Array.size_append,Nat.add_mul,<- hol,<- hvl,s2,hcl1]) (by rw[pR,hzs]) q2
        ·rename_i r off l cap sz;have hp':=hp;rw[VR]at hp;obtain⟨b,c,hb,rfl,h3,h4,hroom⟩:=hp;cases hn0:Nat.beq n 0 with
         | true =>
          rw[hn0]at h;simp only[oC,oJ,oP]at h;obtain⟨rfl,rfl⟩:=h;have hn0:=oE hn0;subst hn0;exact .same hW (R9 ht hu hd hi hs' h3) hp'
         | false =>
          rw[hn0]at h;simp only[oD]at h;split at h
          ·rename_i k hk;cases hcl:(Nat.beq sz i.size&&Nat.ble (off+l*sz) k.cells.length&&Nat.ble l 1048576&&Nat.beq k.ty e)with
           | false=>rw[hcl]at h; cases h
           | true =>
            rw[hcl]at h;simp only[oC]at h;simp only[oA]at hcl;obtain⟨⟨⟨k1,k2⟩,k3⟩,k4⟩:=hcl;have k1:=oE k1;have k2:=oL k2;have k3:=oL k3;have k4:=oE k4;subst k1;obtain⟨cs,g2,g3,g4,g5,g6⟩:=hW.blk r k b (aG hk) hb;split at h
            ·rename_i c';have:=h4 c' rfl;subst this;cases hfit:Nat.ble (l+n) c with
             | true =>
              rw[hfit]at h;simp only[oC]at h;split at h
              next H2 hw2=>simp only[oJ,oP]at h;obtain⟨rfl,rfl⟩:=h;obtain⟨w',a1,a2,a3⟩:=T6 (P:=P) hW hw2 hb v1;have hrun:=C5 (w:=w) (w':=w') (ty:=ty) (ao:=some ⟨b,μ.sh r+off,none⟩) ht hu hd hi s1 (oL hfit) (v2 w rfl) (by simp only[Addr.add_lit,Nat.add_assoc]; exact a1);refine .put hrun a2 a3 ?_;rw[VR];exact⟨b,c,hb,rfl,oL hfit,λk hk=>(by cases hk; rfl),hroom⟩
              ·cases h
             | false =>
              rw[hfit]at h;simp only[oD,oJ]at h;have hfit:¬ l+n<=c:=λhle=>(by rw[Nat.ble_eq_true_of_le hle]at hfit; cases hfit)
              have hsub:=g3.sub off (l*i.size);obtain⟨os,o1,o2⟩:=(C3 (P:=P) (c:=c) hsub (by simp; omega):Source P w G μ i.size (.slice (some ⟨b,μ.sh r+off,none⟩) l c) _ l).2.2 l (oM _);rw[List.take_of_length_le (by simp; omega)]at o1;have hol:l*i.size=os.size:=by have:=o1.length; rw[List.length_take,List.length_drop,Nat.min_eq_left Z]at this; simpa using this
              obtain⟨c',q1,q2⟩:=yY (w:=w) (ty:=ty) (ao:=some ⟨b,μ.sh r+off,none⟩) ht hu hd hi hz s1 hfit hb1 hn k3 v2 o2;refine xE.aOM h ?_;exact aOZ hW (os:=os) (vs:=vs) (by rw[Array.toList_append]; exact o1.append v1) q1 (by rw[Array.size_append,Nat.add_mul,<- hol,<- hvl,s2]) (by rw[pR,hzs]) q2
            ·cases hoff:(Nat.beq off 0&&!k.frozen&&k.grown)with
             | false=>rw[hoff]at h; cases h
             | true =>
              rw[hoff]at h;simp only[oC,oJ]at h;simp only[oA,Bool.not_eq_true']at hoff;have o1:=oE hoff.1.1;subst o1;have hmore:a9Q k.cells (l*i.size) new=k.cells.take (l*i.size)++new:=by
               unfold a9Q;cases hm:Nat.beq k.cells.length (l*i.size)with
               | true=>rw[oC,List.take_of_length_le (Nat.le_of_eq (oE hm))]
               | false=>rfl
              rw[hmore]at h;refine xE.aOM h ?_;exact a0A hW ht hu hd hi hz hb1 hzs hs' hn k3 hc.2 hk hoff.1.2 hoff.2 k4 Z hb h3 hroom
          ·cases h
        ·cases h
      ·cases h
    ·cases h
   ·cases h
  ·cases h
 ·cases h
theorem aY9(hW:aR n0 G μ H w){tys ty p q v H' s x}(hp:VR w G μ p s)(hq:VR w G μ q x)(h:a92 P H tys p q=some (v,H')):xE P n0 w G μ (Builtin.copy_ tys ty #[s,x]) v H':=by
 unfold a92 at h;split at h
 next t ts htys=>
  have q0:tys[0]?=some t:=by rw[<- Array.getElem?_toList,htys]; rfl
  split at h
  next e hu=>
   split at h
   ·rename_i sz hs;split at h
    ·rename_i new n hsrc;obtain⟨s1,s2,s3⟩:=aGU (P:=P) hW hq hsrc;split at h
     ·rename_i r off l cap sz';split at h
      ·rename_i H2 hw2;obtain⟨rfl,rfl⟩:=h;rw[VR]at hp;obtain⟨b,c,hb,rfl,h3,h4,hroom⟩:=hp;obtain⟨vs,v1,v2⟩:=s3 (min n l) (Nat.min_le_left _ _);obtain⟨w',a1,a2,a3⟩:=T6 (P:=P) hW hw2 hb v1;have hrun:(Builtin.copy_ tys ty #[.slice (some ⟨b,μ.sh r+off,none⟩) l c,x]).run P w=.ok (goInt ((min n l:Nat):Int)) w':=by
        have q2:(#[Value.slice (some ⟨b,μ.sh r+off,none⟩) l c,x]:Array Value)[0]?=some (Value.slice (some ⟨b,μ.sh r+off,none⟩) l c):=rfl;have q3:(#[Value.slice (some ⟨b,μ.sh r+off,none⟩) l c,x]:Array Value)[1]?=some x:=rfl;unfold Builtin.copy_;have hm:Nat.min n l=min n l:=rfl;simp only[q0,q2,q3,Sem.run_bind,run_underlying hu,Result.andThen_ok,s1,run_sizeOf hs,hm,v2 w rfl,a1,Sem.run_pure]
       refine .put hrun a2 a3 ?_;rw[VR]
      ·cases h
     ·cases h
    ·cases h
   ·cases h
  ·cases h
 ·cases h
theorem aTM {e z}(hz:GQ P e=some z) w:(zeroValue e).run P w=.ok z w:=by
 unfold GQ at hz;split at hz
 next i hi=>simp[zeroValue,FA hi,hz]
 grind
theorem aVR(hW:aR n0 G μ H w){tys ty p v H' s}(hp:VR w G μ p s)(h:a06 P H tys p=some (v,H')):xE P n0 w G μ (Builtin.clear_ tys ty #[s]) v H':=by
 unfold a06 at h;split at h
 next t ts htys=>
  have q0:tys[0]?=some t:=by rw[<- Array.getElem?_toList,htys]; rfl
  split at h
  next e hu=>
   split at h
   ·rename_i z hz;split at h
    ·rename_i r off l cap sz;rw[VR]at hp;obtain⟨b,c,hb,rfl,h3,h4,hroom⟩:=hp;have q2:(#[Value.slice (some ⟨b,μ.sh r+off,none⟩) l c]:Array Value)[0]?=some (Value.slice (some ⟨b,μ.sh r+off,none⟩) l c):=rfl;have ht:VR w G μ (.tuple []) (.tuple #[]):=by rw[VR]; exact⟨#[],rfl,by rw[VRs]⟩
     cases hl:Nat.beq l 0 with
     | true =>
      rw[hl]at h;simp only[oC,oJ,oP]at h;obtain⟨rfl,rfl⟩:=h;have hl0:=oE hl;subst hl0;refine .same hW ?_ ht;unfold Builtin.clear_;simp only[q0,q2,Sem.run_bind,run_underlying hu,Result.andThen_ok,Sem.run_pure]
     | false =>
      rw[hl]at h;simp only[oD]at h;have hl0:l≠0:=λe=>by subst e; cases hl
      split at h
      next H2 hw2=>simp only[oJ,oP]at h;obtain⟨rfl,rfl⟩:=h;obtain⟨w',a1,a2,a3⟩:=T6 (P:=P) hW hw2 hb (B6 _);refine .put (v':=.tuple #[]) (w':=w') ?_ a2 a3 (by rw[VR]; exact⟨#[],rfl,by rw[VRs]⟩);unfold Builtin.clear_;obtain⟨l',rfl⟩:∃ l',l=l'+1:=⟨l-1,by omega⟩;simp only[q0,q2,Sem.run_bind,run_underlying hu,Result.andThen_ok,aTM hz,a1,Sem.run_pure]
      ·cases h
    ·cases h
   ·cases h
  ·cases h
 ·cases h
end
section
variable {P:Program} {n0:Nat->Prop} {w:World} {G:Gd} {μ:Mp} {H:Heap} {F:Frm} {a:Act} {nt:Nat}
def FL(P:Program) (n0:Nat->Prop) (w:World) (G:Gd) (μ:Mp) (g:FuncId) (vs:Array Value) (r:PV) (H':Heap):Prop :=
 (callFunc g vs).run P w=.ok (.enter g vs) w/\Calls P g vs w λe w'=>∃ v' G' μ',e=.returned v'/\Ext n0 w G μ w' G' μ'/\aR n0 G' μ' H' w'/\VR w' G' μ' r v'
structure eO (P:Program) (cl:Callee):Prop where
 call:∀ {g args H r H' c},cl g args H=some (r,H',c)->∀ {n0 G μ w vs},aR n0 G μ H w->VRs w G μ args vs->FL P n0 w G μ g vs.toArray r H'
 free:∀ {g args H r H'},cl g args H=some (r,H',0)->H'=H/\∀ H2,cl g args H2=some (r,H2,0)
 reads:∀ {g args H r H'},cl g args H=some (r,H',1)->H'=H
def N1(P:Program) (n0:Nat->Prop) (w:World) (G:Gd) (μ:Mp) (o:Oper) (a:Act) (v:PV) (H':Heap):Prop :=
 ∀ (K:Act->World->Prop) (Q:Exit->Act->World->Prop),(∀ v' w' G' μ',Ext n0 w G μ w' G' μ'->aR n0 G' μ' H' w'->VR w' G' μ' v v'->K (a.put o.dst v') w')->o.wp P a w K Q
theorem N1.value {o s v H'}(hs:execOp a.eval o=(do pure (.value (<- s))))(h:xE P n0 w G μ s v H'):N1 P n0 w G μ o a v H':=by
 intro K Q hK;obtain⟨v',w',G',μ',h1,h2,h3,h4⟩:=h;unfold Oper.wp;rw[hs];simp only[Sem.run_bind,h1];exact hK v' w' G' μ' h2 h3 h4
theorem N1.pure {o v v'}(hW:aR n0 G μ H w)(hs:(execOp a.eval o).run P w=.ok (.value v') w)(h:VR w G μ v v'):N1 P n0 w G μ o a v H:=by
 intro K Q hK;unfold Oper.wp;rw[hs];exact hK v' w G μ (Ext.refl _ _ _ _) hW h
theorem N1.xC (hW:aR n0 G μ H w)(hF:iV w G μ nt F a){o v H' c}(h:p0 H (xC P F o)=some (v,H',c)):N1 P n0 w G μ o a v H':=by
 unfold p0 at h;split at h
 next u hu=>obtain⟨rfl,rfl,rfl⟩:=h;obtain⟨v',h1,h2⟩:=aYX hF hu;exact .pure hW (h1 w) h2
 grind
theorem TV {x v H' c}(h:p0 H x=some (v,H',c)):x=some v/\H'=H/\c=0:=by
 unfold p0 at h;grind
theorem GM {x v H' c}(h:p2 x=some (v,H',c)):x=some (v,H')/\c=2:=by
 unfold p2 at h;grind
theorem aJP(hF:iV w G μ nt F a):∀ xs:List Operand,VRs w G μ (xs.map (ev F)) (xs.map a.eval)
 | []=>by rfl
 | x::xs=>⟨_,_,rfl,cO hF x,aJP hF xs⟩
theorem aTB {cl} (hcl:eO P cl) (hW:aR n0 G μ H w) {o c f g first caps args v H' k} (ho:o.op=.call c) (hc:c.callee=.value f)
  (hf:a.eval f=.func (.func g) first caps) (hargs:VRs w G μ args (first.toList++c.args.toList.map a.eval++caps.toList)) (h:cl g args H=some (v,H',k)):N1 P n0 w G μ o a v H':=by
 intro K Q hK;obtain⟨h1,h2⟩:=hcl.call h hW hargs;have e:(first.toList++c.args.toList.map a.eval++caps.toList).toArray=first++c.args.map a.eval++caps:=R
 rw[e]at h1 h2;unfold Oper.wp;have hx:(execOp a.eval o).run P w=.ok (.enter g (first++c.args.map a.eval++caps)) w:=by
  unfold execOp;simp only[ho,resolve,hc,hf,Deferred.ofValue,Sem.run_bind,Sem.run_pure,Result.andThen_ok,invoke,h1]
 rw[hx];refine h2.mono λe w' he=>?_
 grind
set_option maxHeartbeats 2000000 in
theorem a6L {cl:Callee} (hcl:eO P cl) (hW:aR n0 G μ H w) (hF:iV w G μ nt F a) {o:Oper} {v:PV} {H':Heap} {k:Nat} (h:opu P cl F H o=some (v,H',k)):N1 P n0 w G μ o a v H':=by
 unfold opu at h;split at h
 next x ho=>simp only[oJ,oP]at h;obtain⟨rfl,rfl,rfl⟩:=h;exact .pure hW (by simp[execOp,ho]) (cO hF x)
 next x ho=>simp only[oJ,oP]at h;obtain⟨rfl,rfl,rfl⟩:=h;exact .pure hW (by simp[execOp,ho]) (cO hF x)
 next c x y ho=>
  split at h
  next t ht=>
   simp only[oJ,oP]at h;obtain⟨rfl,rfl,rfl⟩:=h;have hc:=cO hF c;rw[ht,VR]at hc;refine .pure hW (v':=if t then a.eval x else a.eval y) (by simp[execOp,ho,hc,asBool]) ?_;cases t
   ·exact cO hF y
   ·exact cO hF x
  ·cases h
 next op xt x y yt ho=>
  split at h
  next k1 i1 k2 i2 hx hy=>
   cases hk:R8 k1 k2 with
   | false=>rw[hk]at h; exact .xC hW hF h
   | true =>
    rw[hk]at h;simp only[oC]at h;have hk:k1=k2:=aE0 hk;subst hk;split at h
    next u hu=>simp only[oJ,oP]at h;obtain⟨rfl,rfl,rfl⟩:=h;have h1:=cO hF x;have h2:=cO hF y;rw[hx,VR]at h1;rw[hy,VR]at h2;refine .value (s:=do eqGuard op xt x y (a.eval x) (a.eval y); binOp op xt (a.eval x) (a.eval y)) (by simp[execOp,ho]) (.same hW (v':=u) ?_ (by rw[VR]));rw[h1,h2];exact a2T hu w
    ·exact .xC hW hF h
  next cs ds hx hy=>
   split at h
   next u hu=>simp only[oJ,oP]at h;obtain⟨rfl,rfl,rfl⟩:=h;have h1:=cO hF x;have h2:=cO hF y;rw[hx,VR]at h1;rw[hy,VR]at h2;obtain⟨xs,e1,h1⟩:=h1;obtain⟨ys,e2,h2⟩:=h2;obtain⟨v',g1,g2⟩:=a2C (P:=P) (p:=x) (q:=y) h1 h2 hu w;exact .value (s:=do eqGuard op xt x y (a.eval x) (a.eval y); binOp op xt (a.eval x) (a.eval y)) (by simp[execOp,ho]) (.same hW (v':=v') (by rw[e1,e2]; exact g1) g2)
   ·exact .xC hW hF h
  ·exact .xC hW hF h
 next t x ho=>
  split at h
  next u c hu=>simp only[oJ,oP]at h;obtain⟨rfl,rfl,rfl⟩:=h;obtain⟨v',h1,h2⟩:=aNP hW (cO hF x) hu;exact .value (by simp only[execOp,ho]) (.same hW h1 h2)
  ·cases h
 next t x y ho=>
  split at h
  next H2 hu=>
   simp only[oJ,oP]at h;obtain⟨rfl,rfl,rfl⟩:=h;obtain⟨w',h1,h2,h3⟩:=aW0 hW (cO hF x) (cO hF y) hu;intro K Q hK;unfold Oper.wp;have hx:(execOp a.eval o).run P w=.ok .skip w':=by simp[execOp,ho,h1]
   rw[hx];exact hK undef w' G μ h2 h3 (by rw[VR])
  ·cases h
 next t x ho=>
  split at h
  next cs hcs=>
   have hv:=PX hcs (cO hF x);cases hro:a4S t cs with
   | true =>
    rw[hro]at h;simp only[oC,oJ,oP]at h;obtain⟨rfl,rfl,rfl⟩:=h;simp only[a4S,oA]at hro;exact .value (s:=Instr.box t (a.eval x)) (by simp only[execOp,ho]) (aZO hW hv hro.2)
   | false =>
   rw[hro]at h;simp only[oD]at h;replace h:=GM h; obtain⟨h,rfl⟩:=h;simp only[oJ]at h;have hn:=aUR (P:=P) hW (t:=t) hv;rw[h]at hn;exact .value (s:=Instr.box t (a.eval x)) (by simp only[execOp,ho]) hn
  ·cases h
 next t ho=>
  split at h
  next z hz=>
   replace h:=GM h; obtain⟨h,rfl⟩:=h;simp only[oJ]at h;have hn:=aUR (P:=P) hW (t:=t) (B6 (w:=w) (G:=G) (μ:=μ) z.cells);rw[h]at hn;refine .value (s:=Instr.alloc t true (.tuple #[])) (by simp only[execOp,ho]) ?_;obtain⟨v',w',G',μ',a1,a2⟩:=hn;refine⟨v',w',G',μ',?_,a2⟩;have hzv:(zeroValue t).run P w=.ok z w:=by
    unfold GQ at hz;split at hz
    next i hi=>simp[zeroValue,FA hi,hz]
    ·cases hz
   simp only[Instr.alloc,Sem.run_bind,hzv,Result.andThen_ok,newVar];simpa using a1
  ·cases h
 next s x f ho=>replace h:=TV h; obtain⟨h,rfl,rfl⟩:=h;obtain⟨v',h1,h2⟩:=aMD (cO hF x) h;exact .value (by simp only[execOp,ho]) (.same hW h1 h2)
 next t x i ho=>
  split at h
  next k1 i1 hi=>replace h:=TV h; obtain⟨h,rfl,rfl⟩:=h;have h3:=cO hF i;rw[hi,VR]at h3;obtain⟨v',h1,h2⟩:=aLR (k:=k1) (cO hF x) h;exact .value (s:=Instr.indexAt t (a.eval x) (a.eval i)) (by simp only[execOp,ho]) (.same hW (by rw[h3]; exact h1) h2)
  ·cases h
 next x ho=>
  split at h
  next cs hx=>simp only[oJ,oP]at h;obtain⟨rfl,rfl,rfl⟩:=h;have h1:=cO hF x;rw[hx]at h1;have h2:=h1;rw[VR]at h2;obtain⟨b,off,h3,_⟩:=h2;exact .pure hW (v':=a.eval x) (by simp[execOp,ho,h3]) h1
  next r off hx=>simp only[oJ,oP]at h;obtain⟨rfl,rfl,rfl⟩:=h;have h1:=cO hF x;rw[hx]at h1;have h2:=h1;rw[VR]at h2;obtain⟨b,_,h3⟩:=h2;exact .pure hW (v':=a.eval x) (by simp[execOp,ho,h3]) h1
  next f p q hx=>simp only[oJ,oP]at h;obtain⟨rfl,rfl,rfl⟩:=h;have h1:=cO hF x;rw[hx]at h1;have h2:=h1;rw[VR]at h2;obtain⟨fs,cs,h3,_⟩:=h2;exact .pure hW (v':=a.eval x) (by simp[execOp,ho,h3]) h1
  ·exact .xC hW hF h
 next s x f ho=>
  split at h
  next cs hx=>
   split at h
   next fd hfd=>replace h:=TV h; obtain⟨h,rfl,rfl⟩:=h;have h1:=cO hF x;rw[hx]at h1;obtain⟨v',h2,h3⟩:=aXL (P:=P) h1 hfd h w;exact .value (by simp only[execOp,ho]) (.same hW h2 h3)
   ·cases h
  ·exact .xC hW hF h
 next t x i ho=>
  split at h
  next cs k1 i1 n e hx hi hu=>
   split at h
   ·rename_i sz hs;cases hc:aF i1 n with
    | false=>rw[hc]at h; cases h
    | true =>
     rw[hc]at h;simp only[oC]at h;replace h:=TV h; obtain⟨h,rfl,rfl⟩:=h;have h1:=cO hF x;rw[hx]at h1;have h4:=cO hF i;rw[hi,VR]at h4;obtain⟨v',h2,h3⟩:=aUZ (P:=P) (k:=k1) h1 hu hs hc h w;exact .value (s:=Instr.index t (a.eval x) (a.eval i)) (by simp only[execOp,ho]) (.same hW (by rw[h4]; exact h2) h3)
   ·cases h
  ·exact .xC hW hF h
 next x i ho=>
  split at h
  next vs hx=>replace h:=TV h; obtain⟨h,rfl,rfl⟩:=h;have h1:=cO hF x;rw[hx]at h1;obtain⟨v',h2,h3⟩:=aRE (P:=P) h1 h w;exact .value (by simp only[execOp,ho]) (.same hW h2 h3)
  ·exact .xC hW hF h
 next t parts ho=>replace h:=TV h; obtain⟨h,rfl,rfl⟩:=h;obtain⟨v',h2,h3⟩:=aXN hF h w;exact .value (by simp only[execOp,ho]) (.same hW h2 h3)
 next t n parts ho=>
  split at h
  next v1 h1=>simp only[oJ,oP]at h;obtain⟨rfl,rfl,rfl⟩:=h;exact .value (by simp only[execOp,ho]) (aIP hW hF h1)
  ·replace h:=GM h; obtain⟨h,rfl⟩:=h;exact .value (by simp only[execOp,ho]) (aHC hW hF h)
 next t l c ho=>replace h:=GM h; obtain⟨h,rfl⟩:=h;exact .value (by simp only[execOp,ho]) (aKV hW (cO hF l) (cO hF c) h)
 next fn first caps ho=>simp only[oJ,oP]at h;obtain⟨rfl,rfl,rfl⟩:=h;refine .pure hW (v':=.func fn (first.map a.eval) (caps.map a.eval)) (by simp[execOp,ho,Instr.makeFunc]) ?_;rw[VR];exact⟨_,_,rfl,by simpa using aJP hF first.toList,by simpa using aJP hF caps.toList⟩
 next t x lo hi ho=>
  split at h
  ·exact .xC hW hF h
  ·replace h:=TV h; obtain⟨h,rfl,rfl⟩:=h;obtain⟨v',h2,h3⟩:=ND hF (cO hF x) h w;exact .value (by simp only[execOp,ho]; rfl) (.same hW h2 h3)
 next c ho=>
  split at h
  next hc=>
   split at h
   ·exact .xC hW hF h
   ·cases hsz:Nat.beq c.args.size 1 with
    | false=>rw[hsz]at h; cases h
    | true =>
     rw[hsz]at h;simp only[oC]at h;replace h:=TV h; obtain⟨h,rfl,rfl⟩:=h;have hsz:=oE hsz;obtain⟨x,hx⟩:∃ x,c.args=#[x]:=by
      have h1:0<c.args.size:=Z
      refine⟨c.args[0],?_⟩;apply Array.ext
      ·simp[hsz]
      ·intro i h2 h3;have:i=0:=Z
       subst this; rfl
     rw[hx]at h;obtain⟨v',h2,h3⟩:=a2H (P:=P) (ty:=o.type) (cO hF x) h w;refine .value (s:=Builtin.len_ c.argTypes o.type #[a.eval x]) ?_ (.same hW h2 h3);simp[execOp,ho,resolve,hc,hx,invoke,builtin]
  next hc=>
   split at h
   ·rename_i s x hx;have hx:c.args=#[s,x]:=by apply Array.ext'; simpa using hx
    replace h:=GM h; obtain⟨h,rfl⟩:=h;refine .value (s:=Builtin.append_ c.argTypes o.type #[a.eval s,a.eval x]) ?_ (aSJ hW (cO hF s) (cO hF x) h);simp[execOp,ho,resolve,hc,hx,invoke,builtin]
   ·cases h
  next hc=>
   split at h
   ·rename_i s x hx;have hx:c.args=#[s,x]:=by apply Array.ext'; simpa using hx
    replace h:=GM h; obtain⟨h,rfl⟩:=h;refine .value (s:=Builtin.copy_ c.argTypes o.type #[a.eval s,a.eval x]) ?_ (aY9 hW (cO hF s) (cO hF x) h);simp[execOp,ho,resolve,hc,hx,invoke,builtin]
   ·cases h
  next hc=>
   split at h
   ·rename_i s hx;have hx:c.args=#[s]:=by apply Array.ext'; simpa using hx
    replace h:=GM h; obtain⟨h,rfl⟩:=h;refine .value (s:=Builtin.clear_ c.argTypes o.type #[a.eval s]) ?_ (aVR hW (cO hF s) h);simp[execOp,ho,resolve,hc,hx,invoke,builtin]
   ·cases h
  ·exact .xC hW hF h
  next f hc=>
   split at h
   next g first caps hf=>have h1:=cO hF f;rw[hf,VR]at h1;exact aTB hcl hW ho hc h1 (((B6 _).append (aJP hF _)).append (B6 _)) h
   next g first caps hf=>have h1:=cO hF f;rw[hf,VR]at h1;obtain⟨fs,cs,h2,h3,h4⟩:=h1;exact aTB hcl hW ho hc h2 ((h3.append (aJP hF _)).append h4) h
   ·cases h
  ·cases h
 ·exact .xC hW hF h
end
section
variable {P:Program} {F:Frm} {H:Heap}
theorem bER {x v H' k}(h:p0 H x=some (v,H',k)):H'=H/\k=0/\∀ H2,p0 H2 x=some (v,H2,0):=by
 obtain⟨rfl,rfl,rfl⟩:=TV h;exact⟨rfl,rfl,λH2=>rfl⟩
def aGR(k:Nat)(H H':Heap)(v:PV)(f:Heap->Option (PV×Heap×Nat)):Prop:=(k=0->H'=H/\∀ H2,f H2=some (v,H2,0))/\(k=1->H'=H)
theorem aGR.p0 {x v H' k f}(h:p0 H x=some (v,H',k))(hf:∀ H2,f H2=PM.p0 H2 x):aGR k H H' v f:=by
 obtain⟨rfl,rfl,h3⟩:=bER h;exact⟨λ_=>⟨rfl,λH2=>by grind⟩,λ_=>rfl⟩
theorem aGR.two {H' v f k}(h:k=2):aGR k H H' v f:=by subst h; exact⟨λh=>Z,λh=>W⟩
theorem aGR.callee {cl}(hcl:eO P cl){g args v H' k f}(h:cl g args H=some (v,H',k))(hf:∀ H2,f H2=cl g args H2):aGR k H H' v f:=by
 constructor
 ·rintro rfl;obtain⟨h1,h2⟩:=hcl.free h;grind
 ·rintro rfl;exact hcl.reads h
set_option maxHeartbeats 1000000 in
theorem bCL {cl:Callee} (hcl:eO P cl) {o:Oper} {v:PV} {H':Heap} {k:Nat} (h:opu P cl F H o=some (v,H',k)):aGR k H H' v (λH2=>opu P cl F H2 o):=by
 have one:∀ {x:PV} {f:Heap->Option (PV×Heap×Nat)},some (x,H,0)=some (v,H',k)->(∀ H2,f H2=some (x,H2,0))->aGR k H H' v f:=by
  intro x f h hf;simp only[oJ,oP]at h;obtain⟨rfl,rfl,rfl⟩:=h;exact⟨λ_=>⟨rfl,hf⟩,λ_=>rfl⟩
 unfold opu at h;split at h
 next x ho=> exact one h λH2=>by simp only[opu,ho]
 next x ho=> exact one h λH2=>by simp only[opu,ho]
 next c x y ho=>
  split at h
  next t ht=> exact one h λH2=>by simp only[opu,ho,ht]
  ·cases h
 next op xt x y yt ho=>
  split at h
  next k1 i1 k2 i2 hx hy=>
   cases hk:R8 k1 k2 with
   | false=>rw[hk]at h; exact .p0 h λH2=>by simp only[opu,ho,hx,hy,hk,oD]
   | true =>
    rw[hk]at h;simp only[oC]at h;split at h
    next u hu=> exact one h λH2=>by simp only[opu,ho,hx,hy,hk,oC,hu]
    next hu=> exact .p0 h λH2=>by simp only[opu,ho,hx,hy,hk,oC,hu]
  next cs ds hx hy=>
   split at h
   next u hu=> exact one h λH2=>by simp only[opu,ho,hx,hy,hu]
   next hu=> exact .p0 h λH2=>by simp only[opu,ho,hx,hy,hu]
  next hno=>
   refine .p0 h λH2=>?_
   simp only[opu,ho]
 next t x ho=>
  split at h
  next u c hu=>
   simp only[oJ,oP]at h;obtain⟨rfl,rfl,rfl⟩:=h;refine⟨?_,λ_=>rfl⟩;rintro rfl;refine⟨rfl,λH2=>?_⟩;have:aB8 P H2 t (ev F x)=some (u,0):=by
    cases hx:ev F x <;> rw[hx]at hu <;> simp only[aB8]at hu ⊢ <;> try (cases hu; done)
    ·exact hu
    ·split at hu
     ·split at hu <;> cases hu
     ·cases hu
   simp only[opu,ho,this]
  ·cases h
 next t x y ho=>
  split at h
  ·simp only[oJ,oP]at h; exact .two h.2.2.symm
  ·cases h
 next t x ho=>
  split at h
  next cs hcs=>
   cases hro:a4S t cs with
   | true=>rw[hro,oC]at h; exact one h λH2=>by simp only[opu,ho,hcs,hro,oC]
   | false=>rw[hro,oD]at h; exact .two (GM h).2
  ·cases h
 next t ho=>
  split at h
  ·exact .two (GM h).2
  ·cases h
 next s x f ho=> exact .p0 h λH2=>by simp only[opu,ho]
 next t x i ho=>
  split at h
  next k1 i1 hi=> exact .p0 h λH2=>by simp only[opu,ho,hi]
  ·cases h
 next x ho=>
  split at h
  next cs hx=> exact one h λH2=>by simp only[opu,ho,hx]
  next r off hx=> exact one h λH2=>by simp only[opu,ho,hx]
  next f p q hx=> exact one h λH2=>by simp only[opu,ho,hx]
  next n1 n2 n3=>
   refine .p0 h λH2=>?_
   simp only[opu,ho]
 next s x f ho=>
  split at h
  next cs hx=>
   split at h
   next fd hfd=> exact .p0 h λH2=>by simp only[opu,ho,hx,hfd]
   ·cases h
  ·refine .p0 h λH2=>?_
   simp only[opu,ho]
 next t x i ho=>
  split at h
  next cs k1 i1 n e hx hi hu=>
   split at h
   ·rename_i sz hs;cases hc:aF i1 n with
    | false=>rw[hc]at h; cases h
    | true=>rw[hc]at h; exact .p0 h λH2=>by simp only[opu,ho,hx,hi,hu,hs,hc,oC]
   ·cases h
  ·refine .p0 h λH2=>?_
   simp only[opu,ho]
 next x i ho=>
  split at h
  next vs hx=> exact .p0 h λH2=>by simp only[opu,ho,hx]
  ·refine .p0 h λH2=>?_
   simp only[opu,ho]
 next t parts ho=> exact .p0 h λH2=>by simp only[opu,ho]
 next t n parts ho=>
  split at h
  next v1 h1=>exact one h λH2=>by simp only[opu,ho,h1]
  ·exact .two (GM h).2
 ·exact .two (GM h).2
 next fn first caps ho=> exact one h λH2=>by simp only[opu,ho]
 next t x lo hi ho=>
  split at h
  next u hx=> exact .p0 h λH2=>by simp only[opu,ho,hx]
  ·refine .p0 h λH2=>?_
   simp only[opu,ho]
 next c ho=>
  split at h
  next hc=>
   split at h
   next u hx=> exact .p0 h λH2=>by simp only[opu,ho,hc,hx]
   ·cases hsz:Nat.beq c.args.size 1 with
    | false=>rw[hsz]at h; cases h
    | true =>
     rw[hsz]at h;refine .p0 h λH2=>?_
     simp only[opu,ho,hc,hsz,oC]
  ·split at h
   ·exact .two (GM h).2
   ·cases h
  ·split at h
   ·exact .two (GM h).2
   ·cases h
  ·split at h
   ·exact .two (GM h).2
   ·cases h
  next hc=>
   refine .p0 h λH2=>?_
   simp only[opu,ho,hc]
  next f hc=>
   split at h
   next g first caps hf=> exact .callee hcl h λH2=>by simp only[opu,ho,hc,hf]
   next g first caps hf=> exact .callee hcl h λH2=>by simp only[opu,ho,hc,hf]
   ·cases h
  ·cases h
 ·refine .p0 h λH2=>?_
  simp only[opu]
end
section
variable {P:Program} {F F':Frm} {H:Heap}
theorem aKM:∀ {xs},(∀ x∈xs,ev F' x=ev F x)->YJ F' xs=YJ F xs
 | [],_=>rfl
 | x::xs,h=>by
  simp only[YJ,h x List.mem_cons_self];rw[aKM λy hy=>h y (List.mem_cons_of_mem _ hy)]
theorem aX2 {o}(h:∀ x∈o.op.operands,ev F' x=ev F x):xC P F' o=xC P F o:=by
 unfold xC;cases hs:WG o.op with
 | true=>rfl
 | false =>
  rw[aKM λx hx=>h x (Array.mem_toList_iff.1 hx)];rw[execOp_congr (ρ':=valOf F) o (λcs b e=>by simp[WG,e]at hs) λx hx=>by simp only[valOf,h x hx]]
theorem X7 {ps:List (Nat×Operand)}(h:∀ p∈ps,ev F' p.2=ev F p.2):(ps.map λp=>(p.1,ev F' p.2))=ps.map λp=>(p.1,ev F p.2) :=
 List.map_congr_left λp hp=>W
theorem a5Y {cl o}(h:∀ x∈o.op.operands,ev F' x=ev F x):opu P cl F' H o=opu P cl F H o:=by
 have hp:=aX2 (P:=P) h;have hm:∀ {xs:List Operand},(∀ x∈xs,x∈o.op.operands)->xs.map (ev F')=xs.map (ev F):=λhx=>List.map_congr_left λx hm=>h x (hx x hm)
 unfold opu;rw[hp];cases hop:o.op
 case build t parts =>
  have:=X7 (F:=F) (F':=F') (ps:=parts.toList) λp hpm=>h p.2 (by simp only[hop,Op.operands]; simp; exact⟨p.1,by simpa using hpm⟩)
  simp only[aUV,this]
 case buildSlice t n parts =>
  have:=X7 (F:=F) (F':=F') (ps:=parts.toList) λp hpm=>h p.2 (by simp only[hop,Op.operands]; simp; exact⟨p.1,by simpa using hpm⟩)
  simp only[XS,TP,this]
 case makeFunc fn first caps =>
  have h1:=hm (xs:=first.toList) λx hx=>(by simp[hop,Op.operands]; exact .inl (by simpa using hx))
  have h2:=hm (xs:=caps.toList) λx hx=>(by simp[hop,Op.operands]; exact .inr (by simpa using hx))
  simp only[h1,h2]
 case slice t x lo hi mx =>
  have hx:=h x (by simp[hop,Op.operands]);have hlo:lo.map (ev F')=lo.map (ev F):=by
   cases lo with
   | none=>rfl
   | some y=>simp[h y (by simp[hop,Op.operands])]
  have hhi:hi.map (ev F')=hi.map (ev F):=by
   cases hi with
   | none=>rfl
   | some y=>simp[h y (by simp[hop,Op.operands])]
  cases mx <;> simp only[hx,hlo,hhi]
 case call c =>
  have hargs:=hm (xs:=c.args.toList) λx hx=>by simp[hop,Op.operands,Call.operands]; exact .inr (by simpa using hx)
  have h0:ev F' (c.args.getD 0 (.const undef))=ev F (c.args.getD 0 (.const undef)):=by
   by_cases h1:0<c.args.size
   ·refine h _ ?_;simp only[hop,Op.operands,Call.operands,Array.mem_append];right;simp[h1]
   ·have:c.args=#[]:=Array.eq_empty_of_size_eq_zero Z;rw[this]; rfl
  have h2:∀ s x,c.args.toList=[s,x]->ev F' s=ev F s/\ev F' x=ev F x:=λs x hc=>by
   have:=hargs;rw[hc]at this;simpa using this
  have hf:∀ f,c.callee=.value f->ev F' f=ev F f:=λf hc=>h f (by simp[hop,Op.operands,Call.operands,hc])
  simp only[hargs,h0];split
  ·rfl
  ·split
   next s x hc=>rw[(h2 s x hc).1,(h2 s x hc).2]
   ·rfl
  ·split
   next s x hc=>rw[(h2 s x hc).1,(h2 s x hc).2]
   ·rfl
  ·split
   ·rename_i s hc;have h1:ev F' s=ev F s:=by
     have:=hargs;rw[hc]at this;simpa using this
    rw[h1]
   ·rfl
  ·rfl
  next f hc=>rw[hf f hc]
  ·rfl
 all_goals
  first
  | rfl
  | (simp only[hop,Op.operands]at h
     simp at h;simp[h])
end
def bB1(P:Program):Nat->TypeId->Option Ty
 | 0,_=>none
 | n+1,t=>match P.underlying t with
  | some (.int k)=>some (.int k)
  | some .bool=>some .bool
  | some .string=>some .str
  | some (.slice e)=>match bB1 P n e with|some t=>some (.list t)|none=>none
  | some (.map k e)=>match P.underlying k,P.underlying e with
   | some .string,some (.int .i64)=>some .smap
   | _,_=>none
  | some (.struct fs)=>tyFields (λt=>bB1 P n t) (fs.toList.map (·.type))
  | some (.array m e)=>bif Nat.ble m 16 then tyFields (λt=>bB1 P n t) (List.replicate m e) else none
  | _=>none
where tyFields (f:TypeId->Option Ty):List TypeId->Option Ty
 | []=>none
 | [t]=>f t
 | t::r=>match f t,tyFields f r with
  | some a,some b=>some (.prod a b)
  | _,_=>none
def bFU:List Nat:=[]
def aDR:List Nat->Nat->Bool
 | [],_=>false
 | a::r,t=>bif Nat.beq a t then true else aDR r t
def bFI:List Nat:=[147]
def a9O:List Nat:=[]
def a5E(P:Program)(t:TypeId):Option (TypeId×Ty):=match P.underlying t with
 | some (.slice e)=>match P.underlying e with
  | some (.slice e2)=>match vE P e,vE P e2 with
   | some n,some m=>bif Nat.beq n 1 then some (e,.hnd m) else none
   | _,_=>none
  | _=>none
 | _=>none
def FN(P:Program)(t:TypeId):Option (TypeId×Ty):=bif aDR bFU t then none else bif aDR bFI t then a5E P t else match P.underlying t with
 | some (.slice e)=>match bB1 P 6 e,vE P e with
  | some ty,some n=>bif Nat.beq n ty.size then some (e,ty) else none
  | _,_=>none
 | _=>none
def JW(a b:Ty)(l:List a.den):Option (List b.den):=if h:a=b then some (h ▸ l) else none
theorem qQ {a b l l'}(h:JW a b l=some l'):∃ e:a=b,e ▸ l=l':=by
 unfold JW at h;grind
def CA {α:Type}(f:List PV->Option α)(sz:Nat):Nat->List PV->Option (List α)
 | 0,[]=>some []
 | 0,_::_=>none
 | n+1,cs=>match f (cs.take sz)with
  | some x=>match CA f sz n (cs.drop sz)with
   | some l=>some (x::l)
   | none=>none
  | none=>none
def aWM(k:IntKind):List PV->Option Int
 | [.lit (.int d n)]=>bif R8 k d then some n else none
 | _=>none
def aOR:List PV->Option Bool
 | [.lit (.bool b)]=>some b
 | _=>none
def aWQ:List PV->Option ByteArray
 | [.lit (.string s)]=>some s
 | _=>none
def aV9(t:Ty)(f:List PV->Option t.den):List PV->Option (List t.den)
 | [.tl u l _ _]=>JW u t l
 | [.lit (.slice none n _)]=>bif Nat.beq n 0 then some [] else none
 | [.vals cs n _]=>CA f t.size n cs
 | _=>none
def aW9(sz:Nat):List PV->Option (Nat×Nat×Nat)
 | [.row j lo n s]=>bif Nat.beq s sz then some (j,lo,n) else none
 | [.lit (.slice none n _)]=>bif Nat.beq n 0 then some (0,0,0) else none
 | _=>none
def bDT:List PV->Option (List (ByteArray×Int))
 | [.tm l]=>some l
 | _=>none
def dec:(t:Ty)->List PV->Option t.den
 | .hnd sz,cs=>aW9 sz cs
 | .rows _,_=>none
 | .smap,cs=>bDT cs
 | .int k,cs=>aWM k cs
 | .bool,cs=>aOR cs
 | .str,cs=>aWQ cs
 | .list t,cs=>aV9 t (λcs=>dec t cs) cs
 | .prod a b,cs=>match dec a (cs.take a.size)with
  | some x=>match dec b (cs.drop a.size)with
   | some y=>some (x,y)
   | none=>none
  | none=>none
abbrev KT:=Option (List Bool×PV×Heap×Nat)
def aL9(H:Heap)(r:Nat):Option Tg:=match kK H r with|some k=>k.tag|none=>none
def aFP:Nat->Heap->Option (Nat×Blk)
 | _,[]=>none
 | r,none::H=>aFP (r+1) H
 | r,some k::H=>match k.tag with
  | some ⟨.rows _,_⟩=>bif k.grown then aFP (r+1) H else some (r,k)
  | _=>aFP (r+1) H
def cS {α:Type} (l:List (List α)) (j off:Nat) (d:α):α:=(l.getD j []).getD off d
def cI {α:Type}(l:List (List α))(j:Nat):Nat:=(l.getD j []).length
def wQ {α:Type}(l:List (List α))(j off:Nat)(x:α):List (List α):=l.set j ((l.getD j []).set off x)
def yU(P:Program)(H:Heap)(t:TypeId)(x:PV)(i:Int):KT :=
 match P.underlying t with
 | some (.slice e)=>match vE P e with
  | some n=>match x with
   | .tl ty l _ _=>bif Nat.beq n ty.size then some ([aF i l.length],a6V ty l i.toNat 0,H,0) else none
   | .own r sz=>match aL9 H r with
    | some g=>bif Nat.beq n sz&&Nat.beq sz g.t.size then some ([aF i g.l.length],.op r i.toNat 0 sz,H,1) else none
    | none=>none
   | .qs r sz=>match aL9 H r with
    | some g=>bif Nat.beq n sz&&Nat.beq sz g.t.size then some ([aF i g.l.length],.op r i.toNat 0 sz,H,1) else none
    | none=>none
   | .win r lo m sz=>bif Nat.beq n sz then some ([aF i m],.op r (lo+i.toNat) 0 sz,H,0) else none
   | .row j lo m sz=>bif Nat.beq n sz then some ([aF i m],.rp j ((lo+i.toNat)*sz),H,0) else none
   | _=>none
  | none=>none
 | some (.array n e)=>match vE P e with
  | some sz=>match x with
   | .tp ty l j off _=>some ([aF i n],a6V ty l j (off+i.toNat*sz),H,0)
   | _=>none
  | none=>none
 | _=>none
def HO(P:Program)(H:Heap)(s:TypeId)(f:Nat)(x:PV):KT :=
 match aH5 P s f with
 | some fd=>match vE P fd.type with
  | some (_+1)=>match x with
   | .tp t l i off _=>some ([],a6V t l i (off+fd.offset),H,0)
   | .op r i off sz=>some ([],.op r i (off+fd.offset) sz,H,0)
   | _=>none
  | _=>none
 | none=>none
def aPM(P:Program)(H:Heap)(T:TypeId)(a:PV):KT :=
 match a with
 | .tp t l i off _=>match HU P T ((enc t (l.getD i t.aVB)).drop off)with
  | some v=>some ([],v,H,0)
  | none=>none
 | .op r i off sz=>match aL9 H r with
  | some g=>bif Nat.beq sz g.t.size then match HU P T ((enc g.t (g.l.getD i g.t.aVB)).drop off)with
    | some v=>some ([Nat.blt i g.l.length],v,H,1)
    | none=>none
   else none
  | none=>none
 | .rp j off=>match aFP 0 H with
  | some (_,k)=>match k.tag with
   | some ⟨.rows t,l⟩=>bif Nat.beq t.size 1&&!Nat.beq k.ty VV then match HU P T (enc t (cS l j off t.aVB))with
     | some v=>some ([Nat.blt off (cI l j)],v,H,1)
     | none=>none
    else none
   | _=>none
  | none=>none
 | _=>none
def aLP(P:Program)(H:Heap)(T:TypeId)(a v:PV):KT :=
 match a with
 | .op r i off sz=>match kK H r with
  | some k=>match k.tag with
   | some g=>match xS v,vE P T with
    | some new,some n=>bif Nat.beq new.length n&&Nat.beq sz g.t.size&&!k.frozen&&Nat.ble (off+n) sz&&new.all SK then
      match dec g.t (aA6 (enc g.t (g.l.getD i g.t.aVB)) off new)with
      | some x=>some ([Nat.blt i g.l.length],.lit undef,H.set r (some { k with cells:=aK g.t (g.l.set i x),tag:=some ⟨g.t,g.l.set i x⟩ }),2)
      | none=>none
     else none
    | _,_=>none
   | none=>none
  | none=>none
 | .rp j off=>match aFP 0 H with
  | some (r,k)=>match k.tag with
   | some ⟨.rows t,l⟩=>match xS v,vE P T with
    | some new,some n=>bif Nat.beq new.length 1&&Nat.beq n 1&&Nat.beq t.size 1&&!Nat.beq k.ty VV&&new.all SK then
      match dec t new with
      | some x=>some ([Nat.blt off (cI l j)],.lit undef,H.set r (some { k with cells:=aK (.rows t) (wQ l j off x),tag:=some ⟨.rows t,wQ l j off x⟩ }),2)
      | none=>none
     else none
    | _,_=>none
   | _=>none
  | none=>none
 | _=>none
def aVD(P:Program)(H:Heap)(tys:Array TypeId)(x:PV):KT :=
 match tys.toList with
 | t::_=>match P.underlying t with
  | some (.slice _)=>match x with
   | .tl _ l _ _=>some ([],.lit (goInt l.length),H,0)
   | .own r _=>match aL9 H r with
    | some g=>some ([],.lit (goInt g.l.length),H,1)
    | none=>none
   | .qs r _=>match aL9 H r with
    | some g=>some ([],.lit (goInt g.l.length),H,1)
    | none=>none
   | .win _ _ n _=>some ([],.lit (goInt n),H,0)
   | .row _ _ n _=>some ([],.lit (goInt n),H,0)
   | _=>none
  | _=>none
 | _=>none
def aEV(x:Option PV) (d:Nat):Option (Bool×Nat) :=
 match x with
 | none=>some (true,d)
 | some (.lit (.int _ i))=>some (!ltI i 0,i.toNat)
 | _=>none
def aQE:Ty->Bool
 | .hnd _=>true
 | _=>false
def aOG(g:Tg) (H:Heap) (r sz:Nat) (lo hi:Option PV) (z:Bool):KT:=match aEV lo 0,aEV hi g.l.length with
 | some (b1,i),some (b2,j)=>bif z then some ([b1,b2,Nat.beq i 0,Nat.beq j 0],.own r sz,H,1) else some ([b1,b2,Nat.ble i j,Nat.ble j g.l.length,Nat.blt i g.l.length],.win r i (j-i) sz,H,1)
 | _,_=>none
def YN(P:Program)(H:Heap)(t:TypeId)(x:PV)(lo hi:Option PV):KT :=
 match P.underlying t with
 | some (.slice e)=>match vE P e with
  | some n=>match x with
   | .tl ty l _ _=>bif Nat.beq n ty.size then match aEV lo 0,aEV hi l.length with
     | some (b1,i),some (b2,j)=>some ([b1,b2,Nat.ble i j,Nat.ble j l.length],UK ty ((l.drop i).take (j-i)) none,H,0)
     | _,_=>none
    else none
   | .own r sz=>match aL9 H r with
    | some g=>bif Nat.beq n sz then aOG g H r sz lo hi (aQE g.t&&Nat.beq g.l.length 0) else none
    | none=>none
   | .win r l0 m sz=>bif Nat.beq n sz then match aEV lo 0,aEV hi m with
     | some (b1,i),some (b2,j)=>some ([b1,b2,Nat.ble i j,Nat.ble j m,Nat.blt i m],.win r (l0+i) (j-i) sz,H,0)
     | _,_=>none
    else none
   | .row r l0 m sz=>bif Nat.beq n sz then match aEV lo 0,aEV hi m with
     | some (b1,i),some (b2,j)=>some ([b1,b2,Nat.ble i j,Nat.ble j m],.row r (l0+i) (j-i) sz,H,0)
     | _,_=>none
    else none
   | _=>none
  | none=>none
 | _=>none
def aAH(P:Program) (H:Heap) (t:TypeId) (x:PV) (lo:Option PV) (hi mx:PV):KT :=
 match P.underlying t with
 | some (.slice e)=>match vE P e with
  | some n=>match x with
   | .tl ty l _ _=>bif Nat.beq n ty.size then match aEV lo 0,aEV (some hi) 0,aEV (some mx) 0 with
     | some (b1,i),some (b2,j),some (b3,m)=>some ([b1,b2,b3,Nat.ble i j,Nat.ble j m,Nat.ble m l.length],UK ty ((l.drop i).take (j-i)) (some (m-i)),H,0)
     | _,_,_=>none
    else none
   | _=>none
  | none=>none
 | _=>none
def a7V(H:Heap) (ty:Ty) (j lo n sz:Nat):Option (List ty.den):=match aFP 0 H with
 | some (_,k)=>match k.tag with
  | some ⟨.rows t,l⟩=>match JW t ty (l.getD j [])with
   | some row=>bif Nat.beq sz ty.size&&!Nat.beq k.ty VV then some ((row.drop lo).take n) else none
   | none=>none
  | _=>none
 | none=>none
def aRO(H:Heap)(x:PV):List Bool:=match x with
 | .row j lo n _=>match aFP 0 H with
  | some (_,k)=>match k.tag with
   | some ⟨.rows _,l⟩=>[Nat.ble (lo+n) (cI l j)]
   | _=>[false]
  | none=>[false]
 | _=>[]
def bBV(b:List Bool)(r:KT):KT:=match r with
 | some (cs,v,H,c)=>some (b++cs,v,H,c)
 | none=>none
def aE8(H:Heap) (ty:Ty) (x:PV):Option (List ty.den) :=
 match x with
 | .tl u l _ _=>JW u ty l
 | .own r _=>match aL9 H r with
  | some g=>JW g.t ty g.l
  | none=>none
 | .lit (.slice none n _)=>bif Nat.beq n 0 then some [] else none
 | .vals cs n _=>CA (dec ty) ty.size n cs
 | .win r lo n sz=>match aL9 H r with
  | some g=>match JW g.t ty g.l with
   | some l=>bif Nat.beq sz ty.size then some ((l.drop lo).take n) else none
   | none=>none
  | none=>none
 | .row j lo n sz=>a7V H ty j lo n sz
 | _=>none
def aJ7(H:Heap)(e:TypeId)(ty:Ty)(l:List ty.den)(cs:List Bool):KT :=
 some (cs,.own H.length ty.size,H++[some ⟨aK ty l,e,true,false,some ⟨ty,l⟩⟩],2)
def spl {α:Type} (l:List α) (i:Nat) (new:List α):List α:=l.take i++(new++l.drop (i+new.length))
def bDY(H:Heap):PV->Option (Nat×Nat×Nat×Nat)
 | .own r sz=>match aL9 H r with
  | some g=>some (r,0,g.l.length,sz)
  | none=>none
 | .win r lo n sz=>some (r,lo,n,sz)
 | _=>none
def bDV(n:Nat):PV->PV
 | .win r lo m sz=>.win r lo (min m n) sz
 | .row ..=>.junk
 | p=>p
def aZ6(P:Program)(H:Heap)(tys:Array TypeId)(s x:PV):KT :=
 match tys.toList with
 | t::_=>match FN P t with
  | some (e,ty)=>match bDY H s with
   | some (r,lo,n,sz)=>match kK H r with
    | some k=>match k.tag with
     | some g=>match JW g.t ty g.l with
      | some l=>match aE8 H ty (bDV n x)with
       | some new=>bif Nat.beq sz ty.size&&!k.frozen&&Nat.beq k.ty e then
         some ([Nat.blt 0 n,Nat.ble (lo+n) l.length,Nat.ble new.length n],.lit (goInt new.length),H.set r (some { k with cells:=aK ty (spl l lo new),tag:=some ⟨ty,spl l lo new⟩ }),2) else none
       | none=>none
      | none=>none
     | none=>none
    | none=>none
   | none=>none
  | none=>none
 | []=>none
def aI8(P:Program)(H:Heap)(tys:Array TypeId)(s x:PV):KT :=
 match tys.toList with
 | [t,u]=>match P.underlying u with
  | some (.int _)|none=>none
  | some _=>match FN P t with
   | some (e,ty)=>match P.info? e with
    | some i=>match i.zero with
     | some z=>bif Nat.ble i.bytes 65536&&Nat.beq z.cells.size i.size then match aE8 H ty x with
      | some new=>match s with
       | .lit (.slice none m c)=>bif Nat.beq m 0&&Nat.beq c 0 then aJ7 H e ty new [Nat.ble new.length 1048576] else none
       | .own r sz=>match kK H r with
        | some k=>match k.tag with
         | some g=>match JW g.t ty g.l with
          | some l=>bif Nat.beq sz ty.size&&!k.frozen&&Nat.beq k.ty e&&k.grown then aJ7 (H.set r none) e ty (l++new) [Nat.ble new.length 1048576,Nat.ble l.length 1048576] else none
          | none=>none
         | none=>none
        | none=>none
       | .win r lo n sz=>match kK H r with
        | some k=>match k.tag with
         | some g=>match JW g.t ty g.l with
          | some l=>bif Nat.beq sz ty.size&&!k.frozen&&Nat.beq k.ty e then
            some ([Nat.ble (lo+n+new.length) l.length],.win r lo (n+new.length) sz,H.set r (some { k with cells:=aK ty (spl l (lo+n) new),tag:=some ⟨ty,spl l (lo+n) new⟩ }),2) else none
          | none=>none
         | none=>none
        | none=>none
       | .tl u l (some c) _=>match JW u ty l with
        | some l=>aJ7 H e ty (l++new) [Nat.ble new.length 1048576,Nat.ble l.length 1048576,Nat.beq c 0||Nat.blt c (l.length+new.length)]
        | none=>none
       | _=>none
      | none=>none
      else none
     | none=>none
    | none=>none
   | none=>none
 | _=>none
def isQ:PV->Bool
 | .qs ..=>true
 | _=>false
def aIW(P:Program)(H:Heap)(t:TypeId)(x:PV)(lo hi:Option PV):KT :=
 match P.underlying t with
 | some (.slice e)=>match vE P e with
  | some n=>match x with
   | .qs r sz=>match kK H r with
    | some k=>match k.tag with
     | some g=>match aEV lo 0,aEV hi g.l.length with
      | some (b1,i),some (b2,j)=>bif Nat.beq n sz&&Nat.beq sz g.t.size&&!k.frozen&&k.grown then
        some ([b1,b2,Nat.ble i j,Nat.ble j g.l.length],.qs H.length sz,H.set r none++[some ⟨aK g.t ((g.l.drop i).take (j-i)),k.ty,true,false,some ⟨g.t,(g.l.drop i).take (j-i)⟩⟩],2) else none
      | _,_=>none
     | none=>none
    | none=>none
   | _=>none
  | none=>none
 | _=>none
def aDW(P:Program) (H:Heap) (tys:Array TypeId) (s x:PV):KT :=
 match tys.toList with
 | [t,u]=>match P.underlying u with
  | some (.int _)|none=>none
  | some _=>match FN P t with
   | some (e,ty)=>match P.info? e with
    | some i=>match i.zero with
     | some z=>bif Nat.ble i.bytes 65536&&Nat.beq z.cells.size i.size then match aE8 H ty x with
      | some new=>match s with
       | .qs r sz=>match kK H r with
        | some k=>match k.tag with
         | some g=>match JW g.t ty g.l with
          | some l=>bif Nat.beq sz ty.size&&!k.frozen&&Nat.beq k.ty e&&k.grown then
            some ([Nat.ble new.length 1048576,Nat.ble l.length 1048576],.qs H.length ty.size,H.set r none++[some ⟨aK ty (l++new),e,true,false,some ⟨ty,l++new⟩⟩],2) else none
          | none=>none
         | none=>none
        | none=>none
       | _=>none
      | none=>none
      else none
     | none=>none
    | none=>none
   | none=>none
 | _=>none
def a1Y(H:Heap):PV->Option PV
 | .own r _=>match kK H r with
  | some k=>match k.tag with
   | some g=>bif k.frozen then some (UK g.t g.l none) else none
   | none=>none
  | none=>none
 | p=>bif eX p then some p else none
def aZN(H:Heap):List PV->Option (List PV)
 | []=>some []
 | p::r=>match a1Y H p with
  | some q=>match aZN H r with
   | some qs=>some (q::qs)
   | none=>none
  | none=>none
def N9(H:Heap):List (Nat×PV)->Option (List (Nat×PV))
 | []=>some []
 | (i,p)::r=>match inlT H p with
  | some q=>match N9 H r with
   | some qs=>some ((i,q)::qs)
   | none=>none
  | none=>none
where inlT (H:Heap):PV->Option PV
 | .agg cs=>bif eX.noRefs cs then some (.agg cs) else match aZN H cs with
  | some qs=>some (.agg qs)
  | none=>none
 | p=>a1Y H p
def aXC:List PV->List Nat
 | []=>[]
 | .own r _::l=>r::aXC l
 | _::l=>aXC l
def owns:List (Nat×PV)->List Nat
 | []=>[]
 | (_,.own r _)::l=>r::owns l
 | (_,.agg cs)::l=>aXC cs++owns l
 | _::l=>owns l
def PC(H:Heap)(r:Nat):Heap:=match kK H r with
 | some k=>bif k.frozen then H else H.set r (some { k with frozen:=true })
 | none=>H
def EE:Heap->List Nat->Heap
 | H,[]=>H
 | H,r::rs=>EE (PC H r) rs
def aOO(P:Program) (H:Heap) (T:TypeId) (a v:PV):KT:=match v with
 | .own r s=>match a1Y (EE H [r]) (.own r s)with
  | some q=>aLP P (EE H [r]) T a q
  | none=>none
 | v=>aLP P H T a v
def aWX(H:Heap) (sz r:Nat):Option (PV×Heap):=match aFP 0 H with
 | some (ra,k)=>match k.tag with
  | some ⟨.rows t,l⟩=>match kK H r with
   | some b=>match b.tag with
    | some g=>match JW g.t t g.l with
     | some row=>bif !b.frozen&&b.grown&&Nat.beq b.ty k.ty&&!Nat.beq k.ty VV&&Nat.beq t.size sz then
       some (.row l.length 0 row.length sz,((H.set r none).set ra none)++[some ⟨aK (.rows t) (l++[row]),k.ty,false,k.frozen,some ⟨.rows t,l++[row]⟩⟩])
      else none
     | none=>none
    | none=>none
   | none=>none
  | _=>none
 | none=>none
def aIQ(F:Frm)(ty:Ty)(len:Nat)(parts:List (Nat×Operand)):Option (Nat×Nat):=match ty with
 | .hnd sz=>match parts with
  | [(0,x)]=>match ev F x with
   | .own r s=>bif Nat.beq len 1&&Nat.beq s sz then some (r,sz) else none
   | _=>none
  | _=>none
 | _=>none
def DQ(P:Program)(F:Frm)(H:Heap)(t:TypeId)(len:Nat)(parts:List (Nat×Operand)):KT :=
 match FN P t with
 | some (e,ty)=>match GQ P e with
  | some z=>bif Nat.ble (len*ty.size) 16777216&&Nat.ble 1 z.cells.size then
   match aIQ F ty len parts with
   | some (r,sz)=>match aWX H sz r with
    | some (q,H1)=>match QN (λi=>some (i*ty.size,ty.size)) (LF z (len*ty.size)) [(0,q)]with
     | some cs=>match CA (dec ty) ty.size len cs with
      | some l=>some ([],UK ty l (some len),H1,2)
      | none=>none
     | none=>none
    | none=>none
   | none =>
   match owns (parts.map λp=>(p.1,ev F p.2))with
   | []=>match N9 [] (parts.map λp=>(p.1,ev F p.2))with
    | some ps=>match QN (λi=>some (i*ty.size,ty.size)) (LF z (len*ty.size)) ps with
     | some cs=>match CA (dec ty) ty.size len cs with
      | some l=>bif aDR a9O t then aJ7 H e ty l [] else some ([],UK ty l (some len),H,0)
      | none=>none
     | none=>none
    | none=>none
   | r::rs=>match EE H (r::rs)with
    | H1=>match N9 H1 (parts.map λp=>(p.1,ev F p.2))with
     | some ps=>match QN (λi=>some (i*ty.size,ty.size)) (LF z (len*ty.size)) ps with
      | some cs=>match CA (dec ty) ty.size len cs with
       | some l=>bif aDR a9O t then aJ7 H1 e ty l [] else some ([],UK ty l (some len),H1,2)
       | none=>none
      | none=>none
     | none=>none
   else none
  | none=>none
 | none=>none
def VG(P:Program)(H:Heap)(t:TypeId)(l c:PV):KT :=
 match FN P t,l,c with
 | some (e,ty),.lit (.int _ l),.lit (.int _ c)=>match P.info? e with
  | some i=>match i.zero with
   | some z=>match dec ty (lits z.cells)with
    | some d=>bif Nat.ble i.bytes 65536&&Nat.beq z.cells.size i.size then
      some ([!ltI l 0,!ltI c l,!ltI 1048576 c],.own H.length ty.size,H++[some ⟨aK ty (List.replicate l.toNat d),e,true,false,some ⟨ty,List.replicate l.toNat d⟩⟩],2)
     else none
    | none=>none
   | none=>none
  | none=>none
 | _,_,_=>none
def clr {α:Type} (l:List α) (lo n:Nat) (d:α):List α:=l.take lo++(List.replicate n d++l.drop (lo+n))
def aQ7(P:Program)(H:Heap)(tys:Array TypeId)(x:PV):KT :=
 match tys.toList with
 | t::_=>match FN P t with
  | some (e,_)=>match GQ P e with
   | some z=>match x with
    | .win r lo n sz=>match kK H r with
     | some k=>match k.tag with
      | some g=>match dec g.t (lits z.cells)with
       | some d=>bif Nat.beq sz g.t.size&&Nat.beq z.cells.size sz&&!k.frozen&&(lits z.cells).all SK then
         some ([Nat.ble (lo+n) g.l.length],.tuple [],H.set r (some { k with cells:=aK g.t (clr g.l lo n d),tag:=some ⟨g.t,clr g.l lo n d⟩ }),2) else none
       | none=>none
      | none=>none
     | none=>none
    | _=>none
   | none=>none
  | none=>none
 | _=>none
def aSH(P:Program) (H:Heap) (t:TypeId) (op:BinOp) (x y:PV):KT :=
 match P.underlying t with
 | some (.slice _)=>match y with
  | .lit (.slice none _ _)=>match x with
   | .tl _ l _ _=>match op with
    | .eql=>some ([Nat.blt 0 l.length],.lit (.bool false),H,0)
    | .neq=>some ([Nat.blt 0 l.length],.lit (.bool true),H,0)
    | _=>none
   | .win _ _ _ _=>match op with
    | .eql=>some ([],.lit (.bool false),H,0)
    | .neq=>some ([],.lit (.bool true),H,0)
    | _=>none
   | _=>none
  | _=>none
 | _=>none
def bE0(x y:PV):Bool:=match x,y with
 | .tl ..,.lit (.slice none _ _)=>true
 | .win ..,.lit (.slice none _ _)=>true
 | _,_=>false
def isS:PV->Bool
 | .lit (.string _)=>true
 | _=>false
def eqS(a b:ByteArray):Bool:=a.data.toList==b.data.toList
def ltS(a b:ByteArray):Bool:=Op.bytesLess a.data.toList b.data.toList
def aCB(s:ByteArray)(i:Nat):Int:=match s[i]? with
 | some b=>b.toNat
 | none=>0
def bGK(op:BinOp)(a b:ByteArray):Option (List Bool×Value):=match op with
 | .add=>some ([Nat.ble (a.size+b.size) 9223372036854775807],.string (a++b))
 | .eql=>some ([],.bool (eqS a b))
 | .neq=>some ([],.bool (!eqS a b))
 | .lss=>some ([],.bool (ltS a b))
 | .leq=>some ([],.bool (ltS a b||eqS a b))
 | .gtr=>some ([],.bool (!(ltS a b||eqS a b)))
 | .geq=>some ([],.bool (!ltS a b))
 | _=>none
def a0T(H:Heap)(r:Option (List Bool×Value)):KT:=match r with
 | some (cs,v)=>some (cs,.lit v,H,0)
 | none=>none
def bEP(P:Program)(t:TypeId)(x i:PV):Option (List Bool×Value):=match P.underlying t,x,i with
 | some .string,.lit (.string s),.lit (.int _ i)=>some ([aF i s.size],.int .u8 (aCB s i.toNat))
 | _,_,_=>none
def a3D(P:Program)(t:TypeId)(x:PV)(lo hi:Option PV):Option (List Bool×Value):=match P.underlying t,x with
 | some .string,.lit (.string s)=>match aEV lo 0,aEV hi s.size with
  | some (b1,i),some (b2,j)=>some ([b1,b2,Nat.ble i j,Nat.ble j s.size],.string (s.extract i j))
  | _,_=>none
 | _,_=>none
def bEO(op:BinOp)(x y:PV):Option (List Bool×Value):=match x,y with
 | .lit (.string a),.lit (.string b)=>bGK op a b
 | _,_=>none
def bGZ:List ByteArray->ByteArray->Bool
 | [],_=>false
 | x::r,s=>bif eqS x s then true else bGZ r s
def bGJ(P:Program)(t:TypeId):Bool:=match P.underlying t with
 | some (.map k e)=>match P.underlying k with
  | some .string=>match GQ P e with
   | some (.bool false)=>true
   | _=>false
  | _=>false
 | _=>false
def bFY:PV->Bool
 | .mp _=>true
 | _=>false
def bG5(H:Heap):Option (Nat×Blk×List (List ByteArray)):=match aFP 0 H with
 | some (r,k)=>match k.tag with
  | some ⟨.rows .str,l⟩=>bif Nat.beq k.ty VV then some (r,k,l) else none
  | _=>none
 | none=>none
def aJN(P:Program)(H:Heap)(t:TypeId):KT:=none
def getM:List (ByteArray×Int)->ByteArray->Int
 | [],_=>0
 | x::r,s=>bif eqS x.1 s then x.2 else getM r s
def a6S:List (ByteArray×Int)->ByteArray->Bool
 | [],_=>false
 | x::r,s=>bif eqS x.1 s then true else a6S r s
def a3A(P:Program)(t:TypeId):Bool:=match P.underlying t with
 | some (.map k e)=>match P.underlying k with
  | some .string=>match GQ P e with
   | some (.int .i64 z)=>eqI z 0
   | _=>false
  | _=>false
 | _=>false
def bG1:PV->Bool
 | .tm _=>true
 | _=>false
def VY(P:Program)(H:Heap)(t:TypeId)(m k:PV):KT:=match m,k with
 | .tm l,.lit (.string s)=>bif a3A P t then some ([],.tuple [.lit (.int .i64 (getM l s)),.lit (.bool (a6S l s))],H,0) else none
 | _,_=>none
def aOJ(P:Program)(H:Heap)(t:TypeId)(m k:PV):KT:=none
def aOU(P:Program)(H:Heap)(t:TypeId)(m k v:PV):KT:=none
def isT:PV->Bool
 | .tl ..|.own ..|.win ..|.row ..|.qs ..=>true
 | _=>false
def aSR:PV->Bool
 | .tp ..|.op ..|.rp ..=>true
 | _=>false
def bEL:PV->Bool
 | .tl ..|.own ..|.win ..|.qs ..|.lit (.slice none _ _)=>true
 | _=>false
def isConst:Operand->Bool
 | .const _=>true
 | _=>false
def bFQ(P:Program) (t:TypeId):Bool:=match FN P t with
 | some (_,.list _)=>true
 | _=>false
def isLen(P:Program) (tys:Array TypeId):Bool:=match tys.toList with
 | [_,u]=>match P.underlying u with
  | some (.int _)=>true
  | _=>false
 | _=>false
def aDN(P:Program)(H:Heap)(tys:Array TypeId)(s x:PV):KT:=match tys.toList,x with
 | [t,_],.lit (.int _ n)=>match FN P t with
  | some (e,ty)=>match P.info? e with
   | some i=>match i.zero with
    | some z=>match dec ty (lits z.cells)with
     | some d=>bif Nat.ble i.bytes 65536&&Nat.beq z.cells.size i.size&&Nat.ble 1 i.size then match s with
      | .own r sz=>match kK H r with
       | some k=>match k.tag with
        | some g=>match JW g.t ty g.l with
         | some l=>bif Nat.beq sz ty.size&&!k.frozen&&Nat.beq k.ty e&&k.grown then aJ7 (H.set r none) e ty (l++List.replicate n.toNat d) [!ltI n 0,!ltI 1048576 n,Nat.ble l.length 1048576] else none
         | none=>none
        | none=>none
       | none=>none
      | .lit (.slice none m c)=>bif Nat.beq m 0&&Nat.beq c 0 then aJ7 H e ty (List.replicate n.toNat d) [!ltI n 0,!ltI 1048576 n] else none
      | _=>none
      else none
     | none=>none
    | none=>none
   | none=>none
  | none=>none
 | _,_=>none
def YD(s:ByteArray):List Int:=s.data.toList.map λb=>(b.toNat:Int)
def aPL(l:List Int):ByteArray:=l.foldl (λr n=>r.push (UInt8.ofNat n.toNat)) ByteArray.empty
def bEJ(P:Program)(e:TypeId):Bool:=match P.underlying e with
 | some (.int .u8)=>true
 | _=>false
def a9C(P:Program)(t:TypeId):Bool:=match P.underlying t with
 | some (.slice e)=>bEJ P e
 | _=>false
def bDJ(P:Program)(t:TypeId):Bool:=match P.underlying t with
 | some .string=>true
 | _=>false
def aZB(P:Program)(H:Heap)(s d:TypeId)(x:PV):KT:=match x with
 | .lit (.string b)=>bif bDJ P s&&a9C P d then some ([],UK (.int .u8) (YD b) none,H,0) else none
 | .own r _=>bif a9C P s&&bDJ P d then match aL9 H r with
   | some g=>match JW g.t (.int .u8) g.l with
    | some l=>some ([],.lit (.string (aPL l)),H,1)
    | none=>none
   | none=>none
  else none
 | _=>none
def typed(P:Program)(F:Frm)(o:Oper):Bool :=
 match o.op with
 | .indexAddr _ x _=>isT (ev F x)||aSR (ev F x)
 | .fieldAddr _ x _=>aSR (ev F x)
 | .load _ a=>aSR (ev F a)
 | .store _ a _=>aSR (ev F a)
 | .nilCheck x=>aSR (ev F x)
 | .slice _ x _ _ none=>isT (ev F x)||isS (ev F x)
 | .slice _ x _ (some _) (some _)=>isT (ev F x)
 | .index _ x _=>isS (ev F x)
 | .makeMap t none=>bGJ P t
 | .lookup _ m _ false=>bFY (ev F m)
 | .lookup _ m _ true=>bG1 (ev F m)
 | .mapUpdate _ m _ _=>bFY (ev F m)
 | .buildSlice t _ _=>(FN P t).isSome
 | .makeSlice t l _=>(FN P t).isSome&&!(isConst l&&bFQ P t)
 | .convert _ d x=>isT (ev F x)||(isS (ev F x)&&a9C P d)
 | .binOp _ _ x y _=>bE0 (ev F x) (ev F y)||(isS (ev F x)&&isS (ev F y))
 | .call c=>match c.callee with
  | .builtin .len=>isT (ev F (c.args.getD 0 (.const undef)))
  | .builtin .clear=>isT (ev F (c.args.getD 0 (.const undef)))
  | .builtin .copy=>isT (ev F (c.args.getD 0 (.const undef)))
  | .builtin .append=>match c.args.toList,c.argTypes.toList with
   | [s,_],t::_=>bEL (ev F s)&&(FN P t).isSome
   | _,_=>false
  | _=>false
 | _=>false
def top(P:Program)(F:Frm)(H:Heap)(o:Oper):KT :=
 match o.op with
 | .indexAddr t x i=>match ev F i with
  | .lit (.int _ i)=>yU P H t (ev F x) i
  | _=>none
 | .fieldAddr s x f=>HO P H s f (ev F x)
 | .load T a=>aPM P H T (ev F a)
 | .store T a v=>aOO P H T (ev F a) (ev F v)
 | .nilCheck x=>some ([],ev F x,H,0)
 | .slice t x lo hi none=>bif isS (ev F x) then a0T H (a3D P t (ev F x) (lo.map (ev F)) (hi.map (ev F))) else bif isQ (ev F x) then aIW P H t (ev F x) (lo.map (ev F)) (hi.map (ev F)) else YN P H t (ev F x) (lo.map (ev F)) (hi.map (ev F))
 | .slice t x lo (some hi) (some mx)=>aAH P H t (ev F x) (lo.map (ev F)) (ev F hi) (ev F mx)
 | .index t x i=>a0T H (bEP P t (ev F x) (ev F i))
 | .makeMap t none=>aJN P H t
 | .lookup t m k false=>aOJ P H t (ev F m) (ev F k)
 | .lookup t m k true=>VY P H t (ev F m) (ev F k)
 | .mapUpdate t m k v=>aOU P H t (ev F m) (ev F k) (ev F v)
 | .buildSlice t n parts=>DQ P F H t n parts.toList
 | .makeSlice t l c=>VG P H t (ev F l) (ev F c)
 | .convert s d x=>aZB P H s d (ev F x)
 | .binOp op t x y _=>bif isS (ev F x) then a0T H (bEO op (ev F x) (ev F y)) else aSH P H t op (ev F x) (ev F y)
 | .call c=>match c.callee with
  | .builtin .len=>match c.args.toList with
   | [x]=>aVD P H c.argTypes (ev F x)
   | _=>none
  | .builtin .append=>match c.args.toList with
   | [s,x]=>bif isLen P c.argTypes then aDN P H c.argTypes (ev F s) (ev F x) else bBV (aRO H (ev F x)) (bif isQ (ev F s) then aDW P H c.argTypes (ev F s) (ev F x) else aI8 P H c.argTypes (ev F s) (ev F x))
   | _=>none
  | .builtin .clear=>match c.args.toList with
   | [x]=>aQ7 P H c.argTypes (ev F x)
   | _=>none
  | .builtin .copy=>match c.args.toList with
   | [s,x]=>aZ6 P H c.argTypes (ev F s) (ev F x)
   | _=>none
  | _=>none
 | _=>none
def B3:List Bool->Bool
 | []=>true
 | b::r=>bif b then B3 r else false
def opx(P:Program) (cl:Callee) (F:Frm) (H:Heap) (o:Oper):Option (PV×Heap×Nat) :=
 bif typed P F o then match top P F H o with
  | some (cs,v,H',c)=>bif B3 cs then some (v,H',c) else none
  | none=>none
 else opu P cl F H o
theorem tW:∀ t x,(enc t x).length=t.size
 | .hnd _,_=>rfl
 | .rows _,_=>rfl
 | .smap,_=>rfl
 | .int _,_=>rfl
 | .bool,_=>rfl
 | .str,_=>rfl
 | .list _,_=>rfl
 | .prod a b,(x,y)=>by simp only[enc,oH,tW a x,tW b y,Ty.size]
theorem X1:∀ {a b},eX.noRefs a=true->eX.noRefs b=true->eX.noRefs (a++b)=true
 | [],_,_,h=>h
 | p::a,b,h,k=>by
  simp only[List.cons_append,eX.noRefs,oA]at h ⊢;exact⟨h.1,X1 h.2 k⟩
theorem UN:∀ t x,eX.noRefs (enc t x)=true
 | .hnd _,_=>rfl
 | .rows _,_=>rfl
 | .smap,_=>rfl
 | .int _,_=>rfl
 | .bool,_=>rfl
 | .str,_=>rfl
 | .list _,_=>rfl
 | .prod a b,(x,y)=>X1 (UN a x) (UN b y)
theorem yH t x l:aK t (x::l)=enc t x++aK t l:=by rfl
theorem sA t l m:aK t (l++m)=aK t l++aK t m:=by simp[aK]
theorem bW t:∀ l ,(aK t l).length=l.length*t.size
 | []=>by simp[aK]
 | x::l=>by rw[yH,oH,tW,bW t l,List.length_cons,Nat.add_mul]; omega
theorem lL t:∀ l ,eX.noRefs (aK t l)=true
 | []=>rfl
 | x::l=>X1 (UN t x) (lL t l)
theorem u9 t:∀ i l,(aK t l).drop (i*t.size)=aK t (l.drop i)
 | 0,l=>R
 | i+1,[]=>by simp[aK]
 | i+1,x::l=>by
  rw[yH,List.drop_succ_cons,Nat.add_mul,Nat.one_mul,Nat.add_comm,<- List.drop_drop,List.drop_left' (tW t x)];exact u9 t i l
theorem rA t:∀ i l,(aK t l).take (i*t.size)=aK t (l.take i)
 | 0,l=>by simp[aK]
 | i+1,[]=>by simp[aK]
 | i+1,x::l=>by
  rw[yH,List.take_succ_cons,yH,List.take_append,tW,List.take_of_length_le (by rw[tW,Nat.add_mul]; simp)]
  congr 1
  have:(i+1)*t.size-t.size=i*t.size:=W
  rw[this];exact rA t i l
theorem aL0 t {l i}(h:i<l.length) off:∃ rest,(aK t l).drop (i*t.size+off)=(enc t (l.getD i t.aVB)).drop off++rest:=by
 have hd :=List.drop_eq_getElem_cons h;have hg:l.getD i t.aVB=l[i]:=W
 rw[<- List.drop_drop,u9,hd,yH,hg,List.drop_append];simp
section
variable {P:Program} {n0:Nat->Prop} {w:World} {G:Gd} {μ:Mp} {H:Heap}
theorem aBL {T a v} b (h:HU P T a=some v):HU P T (a++b)=some v:=by
 unfold HU at h ⊢;split at h
 ·split at h
  next n hn=>
   cases hb:Nat.ble n a.length with
   | false=>grind
   | true =>
    have hle:=oL hb;have:Nat.ble n (a++b).length=true:=Nat.ble_eq_true_of_le W;grind
  omega
 ·grind
 omega
theorem XQ {t l cap e v}(h:VR w G μ (.tl t l cap e) v):VR w G aJ (.vals (aK t l) l.length cap) v:=by
 obtain⟨h1,rfl⟩:=h;omega
theorem aA0 {t l cap v}(h:VR w G aJ (.vals (aK t l) l.length cap) v):VR w G μ (UK t l cap) v:=by exact⟨h,rfl⟩
theorem a5R {cs n cap v}(h:VR w G aJ (.vals cs n cap) v):VR w G aJ (.vals cs n none) v:=by
 obtain⟨ao,c,h1,h2,_,h3⟩:=h;exact⟨ao,c,h1,h2,λk hk=>W,h3⟩
theorem aM.qV {b off:Nat} {ps:List PV} {vs:List Value} (h:VRs w G μ ps vs) (hc:∀ i (hi:i<vs.length),w.cell? ⟨b,off+i,none⟩=some vs[i]):aM w G μ b off ps :=
 aM.mk λi p hp=>by
  obtain⟨v,h1,h2⟩:=h.get hp;grind
theorem QV {α f g sz}(hf:∀ cs x vs,f cs=some x->VRs w G μ cs vs->VRs w G aJ (g x) vs):∀ {n cs} {l:List α} {vs},CA f sz n cs=some l->VRs w G μ cs vs->VRs w G aJ (l.flatMap g) vs/\l.length=n
 | 0,[],l,vs,h,hv=>by
  simp only[CA,oJ]at h;subst h;subst hv;exact⟨by rfl,rfl⟩
 | 0,_::_,l,vs,h,hv=>by cases h
 | n+1,cs,l,vs,h,hv=>by
  simp only[CA]at h;split at h
  next x hx=>
   split at h
   ·rename_i l' hl;simp only[oJ]at h;subst h;have h1:=hf _ x _ hx (hv.take sz);obtain⟨h2,h3⟩:=QV hf hl (hv.drop sz);have:=h1.append h2
    simp_all
   grind
  grind
theorem bCA {a b l l'}(h:JW a b l=some l') cap {v}(hv:VR w G aJ (.vals (aK a l) l.length cap) v):VR w G aJ (.vals (aK b l') l'.length cap) v:=by
 obtain⟨rfl,rfl⟩:=qQ h;omega
theorem P7 {p vs}(hv:VRs w G μ [p] vs):∃ v,vs=[v]/\VR w G μ p v:=by
 obtain⟨v,xs,rfl,h1,h2⟩:=hv;subst h2;grind
theorem aD4 {k cs n}(h:aWM k cs=some n):cs=[.lit (.int k n)]:=by
 unfold aWM at h;split at h
 next d m=>
  cases hk:R8 k d with
  | false=>grind
  | true =>
   rw[hk]at h;simp only[oC,oJ]at h;rw[aE0 hk,h]
 grind
theorem aBO {cs b}(h:aOR cs=some b):cs=[.lit (.bool b)]:=by
 unfold aOR at h;grind
theorem aDD {cs b}(h:aWQ cs=some b):cs=[.lit (.string b)]:=by
 unfold aWQ at h;grind
theorem a3J {t f}(hf:∀ μ cs x vs,f cs=some x->VRs w G μ cs vs->VRs w G aJ (enc t x) vs){cs l vs}(h:aV9 t f cs=some l)(hv:VRs w G μ cs vs) :
  ∃ v,vs=[v]/\VR w G aJ (.vals (aK t l) l.length none) v:=by
 unfold aV9 at h;split at h
 next u l' cap e=>obtain⟨v,rfl,h1⟩:=P7 hv;exact⟨v,rfl,a5R (bCA h cap (XQ h1))⟩
 next n c=>
  obtain⟨v,rfl,h1⟩:=P7 hv;cases hn:Nat.beq n 0 with
  | false=>rw[hn]at h; cases h
  | true =>
   rw[hn]at h;simp only[oC,oJ]at h;subst h;have hn:=oE hn;subst hn;refine⟨v,rfl,?_⟩;exact⟨none,c,h1,Nat.zero_le _,λk hk=>(by cases hk),.inl rfl⟩
 next cs n cap=>
  obtain⟨v,rfl,h1⟩:=P7 hv;obtain⟨ao,c,rfl,h2,_,h3⟩:=h1;refine⟨_,rfl,?_⟩;rcases h3 with rfl|⟨b,off,rfl,hg,hc⟩
  ·obtain⟨h4,h5⟩:=QV (g:=enc t) (λcs x vs h hv=>hf aJ cs x vs h hv) h (vs:=[]) (by rw[VRs]);refine⟨ao,c,by rw[h5],by omega,λk hk=>(by cases hk),.inl ?_⟩;have:=h4.length;exact List.eq_nil_of_length_eq_zero this
  ·obtain⟨us,h4,h5⟩:=hc.values;obtain⟨h6,h7⟩:=QV (g:=enc t) (λcs x vs h hv=>hf aJ cs x vs h hv) h h4;exact⟨_,c,by rw[h7],by omega,λk hk=>(by cases hk),.inr ⟨b,off,rfl,hg,aM.qV h6 h5⟩⟩
 ·cases h
theorem aKY {sz μ cs x vs}(h:aW9 sz cs=some x)(hv:VRs w G μ cs vs):VRs w G aJ [.row x.1 x.2.1 x.2.2 sz] vs:=by
 unfold aW9 at h;split at h
 next j lo n s=>
  cases hb:Nat.beq s sz with
  | false=>grind
  | true =>
  rw[hb]at h;have hb:=oE hb;subst hb;simp only[oC,oJ]at h;subst h;exact dK _ _ rfl hv
 next n c=>
  cases hb:Nat.beq n 0 with
  | false=>grind
  | true =>
  rw[hb]at h;have hb:=oE hb;subst hb;simp only[oC,oJ]at h;subst h;obtain⟨v,us,h1,h2,h3⟩:=hv;refine⟨v,us,h1,?_,h3⟩;exact⟨none,c,h2,Nat.zero_le _,.inl rfl⟩
 ·cases h
theorem AF:∀ t μ cs x vs,dec t cs=some x->VRs w G μ cs vs->VRs w G aJ (enc t x) vs
 | .hnd sz,μ,cs,x,vs,h,hv=>by exact aKY h hv
 | .rows t,μ,cs,x,vs,h,hv=>by cases h
 | .smap,μ,cs,x,vs,h,hv=>by
  rw[dec]at h;unfold bDT at h;split at h
  ·cases h; exact dK _ _ rfl hv
  ·cases h
 | .int k,μ,cs,x,vs,h,hv=>by
  rw[aD4 h]at hv;exact dK _ _ rfl hv
 | .bool,μ,cs,x,vs,h,hv=>by
  rw[aBO h]at hv;exact dK _ _ rfl hv
 | .str,μ,cs,x,vs,h,hv=>by
  rw[aDD h]at hv;exact dK _ _ rfl hv
 | .list t,μ,cs,x,vs,h,hv=>by
  obtain⟨v,rfl,h1⟩:=a3J (λμ cs x vs h hv=>AF t μ cs x vs h hv) h hv;simp only[enc];exact⟨_,[],rfl,by rw[VR]; exact⟨h1,rfl⟩,by rw[VRs]⟩
 | .prod a b,μ,cs,(x,y),vs,h,hv=>by
  rw[dec]at h;split at h
  next x' hx=>
   split at h
   next y' hy=>obtain⟨rfl,rfl⟩:=h;have h1:=AF a μ _ _ _ hx (hv.take a.size);have h2:=AF b μ _ _ _ hy (hv.drop a.size);have:=h1.append h2;rw[List.take_append_drop]at this;simpa only[enc]using this
   ·cases h
  ·cases h
end
theorem aO6:∀ {a b},B3 (a++b)=true->B3 a=true/\B3 b=true
 | [],_,h=>⟨rfl,h⟩
 | x::a,b,h=>by
  cases x with
  | false=>exact absurd h (by simp[B3])
  | true=>exact⟨(aO6 (a:=a) h).1,(aO6 (a:=a) h).2⟩
theorem aT8 {b r cs v H' c}(h:bBV b r=some (cs,v,H',c)):∃ c0,r=some (c0,v,H',c)/\cs=b++c0:=by
 unfold bBV at h;grind
theorem aN {b r}(h:B3 (b::r)=true):b=true/\B3 r=true:=by
 cases b with
 | true=>exact⟨rfl,h⟩
 | false=>cases h
theorem jN {m n}(h:Nat.blt m n=true):m<n:=by simp_all
section
variable {P:Program} {n0:Nat->Prop} {w:World} {G:Gd} {μ:Mp} {H:Heap}
theorem FE {r g}(h:aL9 H r=some g):∃ k,kK H r=some k/\k.tag=some g:=by
 unfold aL9 at h;grind
theorem sR {α:Type}{b x}{y:α}(h:(bif b then x else none)=some y):b=true/\x=some y:=W
theorem aE6:∀ {H r0 r k},aFP r0 H=some (r,k)->∃ i,r=r0+i/\H[i]?=some (some k)/\k.grown=false
 | [],_,_,_,h=>by cases h
 | none::H,r0,r,k,h=>by
  obtain⟨i,h1,h2,h3⟩:=aE6 (H:=H) h;exact⟨i+1,by omega,by simp_all,h3⟩
 | some k0::H,r0,r,k,h=>by
  have next:aFP (r0+1) H=some (r,k)->∃ i,r=r0+i/\(some k0::H)[i]?=some (some k)/\k.grown=false:=λh=>by
   obtain⟨i,h1,h2,h3⟩:=aE6 h;exact⟨i+1,by omega,by grind,h3⟩
  simp only[aFP]at h;split at h
  ·cases hg:k0.grown with
   | true=>grind
   | false =>
    simp_all
  ·grind
theorem aEB {H r k}(h:aFP 0 H=some (r,k)):H[r]?=some (some k)/\k.grown=false:=by
 obtain⟨i,h1,h2,h3⟩:=aE6 h;grind
theorem aNM {α}{l:List (List α)}{j off}(h:off<cI l j):∃ row,l[j]?=some row/\off<row.length/\l.getD j []=row:=by
 unfold cI at h;grind
theorem aLD(hW:aR n0 G μ H w){t p v x k i cs H' c}(hp:VR w G μ p x)(h:yU P H t p i=some (cs,v,H',c))(hcs:B3 cs=true) :
  H'=H/\∃ v',(Instr.indexAt t x (.int k i)).run P w=.ok v' w/\VR w G μ v v':=by
 unfold yU at h;split at h
 next e hu=>
  split at h
  next n hs=>
   split at h
   ·rename_i ty l cap ee;cases hb:Nat.beq n ty.size with
    | false=>rw[hb]at h; cases h
    | true =>
     rw[hb]at h;obtain⟨rfl,rfl,rfl,rfl⟩:=h;refine⟨rfl,?_⟩;have hb:=oE hb;subst hb;have hi:=AO (aN hcs).1;have hv:=XQ hp;rw[VR]at hv;obtain⟨ao,c',rfl,h2,-,h3⟩:=hv;have hlt:i.toNat<l.length:=Z
     rcases h3 with h3|⟨b,off,rfl,hg,hc⟩
     ·have:=bW ty l;rw[h3,List.length_nil]at this;have hp:=ty.size_pos;have:0<l.length*ty.size:=Nat.mul_pos Z hp;omega
     ·refine⟨.pointer (some ⟨b,off+i.toNat*ty.size,none⟩),?_,?_⟩
      ·simp[Instr.indexAt,asIntOf,run_underlying hu,hi.1,hi.2,run_sizeOf hs,Addr.add_lit]
      ·unfold a6V;rw[VR];refine⟨?_,rfl,hlt⟩;rw[VR];exact⟨b,_,rfl,hg,by rw[Nat.add_zero]; exact hc.drop _⟩
   ·rename_i r sz;split at h
    ·rename_i g hg;cases hb:(Nat.beq n sz&&Nat.beq sz g.t.size)with
     | false=>rw[hb]at h; cases h
     | true =>
      rw[hb]at h;simp only[oC,oJ,oP]at h;obtain⟨rfl,rfl,rfl,rfl⟩:=h;refine⟨rfl,?_⟩;simp only[oA]at hb;have hb1:=oE hb.1;subst hb1;have hi:=AO (aN hcs).1;obtain⟨kb,hk1,hk2⟩:=FE hg;obtain⟨ht1,ht2⟩:=hW.tags r kb g (aG hk1) hk2;rw[VR]at hp;obtain⟨m,h1,h2⟩:=hp;rw[ht2]at h1;cases h1;rcases h2 with ⟨h2,_⟩|⟨b,c',h3,rfl,h5,h6⟩
      ·omega
      ·refine⟨.pointer (some ⟨b,μ.sh r+i.toNat*n,none⟩),?_,?_⟩
       ·simp[Instr.indexAt,asIntOf,run_underlying hu,hi.1,hi.2,run_sizeOf hs,Addr.add_lit]
       ·rw[VR];exact⟨b,h3,by simp⟩
    ·cases h
   ·rename_i r sz;split at h
    ·rename_i g hg;cases hb:(Nat.beq n sz&&Nat.beq sz g.t.size)with
     | false=>rw[hb]at h; cases h
     | true =>
      rw[hb]at h;simp only[oC,oJ,oP]at h;obtain⟨rfl,rfl,rfl,rfl⟩:=h;refine⟨rfl,?_⟩;simp only[oA]at hb;have hb1:=oE hb.1;subst hb1;have hi:=AO (aN hcs).1;obtain⟨kb,hk1,hk2⟩:=FE hg;obtain⟨ht1,ht2⟩:=hW.tags r kb g (aG hk1) hk2;rw[VR]at hp;obtain⟨m,h1,h2⟩:=hp;rw[ht2]at h1;cases h1;rcases h2 with ⟨h2,_⟩|⟨b,c',h3,rfl,h5,h6⟩
      ·omega
      ·refine⟨.pointer (some ⟨b,μ.sh r+i.toNat*n,none⟩),?_,?_⟩
       ·simp[Instr.indexAt,asIntOf,run_underlying hu,hi.1,hi.2,run_sizeOf hs,Addr.add_lit]
       ·rw[VR];exact⟨b,h3,by simp⟩
    ·cases h
   ·rename_i r lo m sz;obtain⟨hb,h⟩:=sR h;simp only[oJ,oP]at h;obtain⟨rfl,rfl,rfl,rfl⟩:=h;refine⟨rfl,?_⟩;have hb1:=oE hb;subst hb1;have hi:=AO (aN hcs).1;rw[VR]at hp;obtain⟨b,c',_,h3,rfl,h5,h6,_⟩:=hp;refine⟨.pointer (some ⟨b,μ.sh r+lo*n+i.toNat*n,none⟩),?_,?_⟩
    ·simp[Instr.indexAt,asIntOf,run_underlying hu,hi.1,hi.2,run_sizeOf hs,Addr.add_lit]
    ·rw[VR];exact⟨b,h3,by rw[Nat.add_mul,Nat.add_zero,Nat.add_assoc]⟩
   ·rename_i j lo m sz;obtain⟨hb,h⟩:=sR h;simp only[oJ,oP]at h;obtain⟨rfl,rfl,rfl,rfl⟩:=h;refine⟨rfl,?_⟩;have hb1:=oE hb;subst hb1;have hi:=AO (aN hcs).1;rw[VR]at hp;obtain⟨ao,c',rfl,h3,h4⟩:=hp;rcases h4 with h4|⟨b,h4,rfl,_⟩
    ·omega
    refine⟨.pointer (some ⟨b,lo*n+i.toNat*n,none⟩),?_,?_⟩
    ·simp[Instr.indexAt,asIntOf,run_underlying hu,hi.1,hi.2,run_sizeOf hs,Addr.add_lit]
    ·rw[VR];exact⟨b,h4,by rw[Nat.add_mul]⟩
   ·cases h
  ·cases h
 next n e hu=>
  split at h
  next sz hs=>
   split at h
   ·rename_i ty l j off ee;simp only[oJ,oP]at h;obtain⟨rfl,rfl,rfl,rfl⟩:=h;refine⟨rfl,?_⟩;have hi:=AO (aN hcs).1;rw[VR]at hp;obtain⟨h1,rfl,h3⟩:=hp;rw[VR]at h1;obtain⟨b,o,rfl,hg,hc⟩:=h1;refine⟨.pointer (some ⟨b,o+i.toNat*sz,none⟩),?_,?_⟩
    ·simp[Instr.indexAt,asIntOf,run_underlying hu,hi.1,hi.2,run_sizeOf hs,Addr.add_lit,Instr.sureAddr]
    ·unfold a6V;rw[VR];refine⟨?_,rfl,h3⟩;rw[VR];refine⟨b,_,rfl,hg,?_⟩;have:=hc.drop (i.toNat*sz);rwa[List.drop_drop,Nat.add_assoc]at this
   ·cases h
  ·cases h
 ·cases h
theorem aMC {s f p v x cs H' c}(hp:VR w G μ p x)(h:HO P H s f p=some (cs,v,H',c)):H'=H/\c=0/\∃ v',(Instr.fieldAt s x f).run P w=.ok v' w/\VR w G μ v v':=by
 unfold HO aH5 at h;split at h
 next fd hfd=>
  split at hfd
  next fs hu=>
   split at h
   ·rename_i n hs;split at h
    ·rename_i t l i off e;obtain⟨rfl,rfl,rfl,rfl⟩:=h;refine⟨rfl,rfl,?_⟩;obtain⟨h1,rfl,h3⟩:=hp;obtain⟨b,o,rfl,hg,hc⟩:=h1;refine⟨.pointer (some ⟨b,o+fd.offset,none⟩),?_,?_⟩
     ·simp[Instr.fieldAt,run_underlying hu,hfd,Instr.sureAddr,fieldPlace,run_sizeOf hs,Addr.add_lit]
     ·unfold a6V;refine⟨?_,rfl,h3⟩;refine⟨b,_,rfl,hg,?_⟩;have:=hc.drop fd.offset;rwa[List.drop_drop,Nat.add_assoc]at this
    ·rename_i r i off sz;obtain⟨rfl,rfl,rfl,rfl⟩:=h;refine⟨rfl,rfl,?_⟩;obtain⟨b,h1,rfl⟩:=hp;refine⟨.pointer (some ⟨b,μ.sh r+(i*sz+off)+fd.offset,none⟩),?_,?_⟩
     ·simp[Instr.fieldAt,run_underlying hu,hfd,Instr.sureAddr,fieldPlace,run_sizeOf hs,Addr.add_lit]
     ·rw[VR];grind
    ·cases h
   ·cases h
  ·cases hfd
 ·cases h
theorem aY2(hW:aR n0 G μ H w){T p v x cs H' c}(hp:VR w G μ p x)(h:aPM P H T p=some (cs,v,H',c))(hcs:B3 cs=true):H'=H/\∃ v',(Instr.loadAt T x).run P w=.ok v' w/\VR w G μ v v':=by
 unfold aPM at h;split at h
 next t l i off e=>
  split at h
  next u hu=>obtain⟨rfl,rfl,rfl,rfl⟩:=h;refine⟨rfl,?_⟩;obtain⟨h1,rfl,h3⟩:=hp;obtain⟨b,o,rfl,hg,hc⟩:=h1;obtain⟨rest,hr⟩:=aL0 t h3 off;rw[hr]at hc;obtain⟨v',h4,h5⟩:=RM (P:=P) hc (aBL rest hu);exact⟨v',by simp[Instr.loadAt,Instr.sureAddr,h4],h5.aW⟩
  ·cases h
 next r i off sz=>
  split at h
  next g hg=>
   cases hb:Nat.beq sz g.t.size with
   | false=>rw[hb]at h; cases h
   | true =>
    rw[hb]at h;simp only[oC]at h;split at h
    next u hu=>obtain⟨rfl,rfl,rfl,rfl⟩:=h;refine⟨rfl,?_⟩;have hb:=oE hb;subst hb;have hlt:=jN (aN hcs).1;obtain⟨kb,hk1,hk2⟩:=FE hg;obtain⟨ht1,ht2⟩:=hW.tags r kb g (aG hk1) hk2;obtain⟨b,h1,rfl⟩:=hp;obtain⟨c',g2,g3,_⟩:=hW.blk r kb b (aG hk1) h1;rw[ht1]at g3;obtain⟨rest,hr⟩:=aL0 g.t hlt off;have hd:=g3.drop (i*g.t.size+off);rw[hr]at hd;obtain⟨v',h4,h5⟩:=RM (P:=P) hd (aBL rest hu);exact⟨v',by simp[Instr.loadAt,Instr.sureAddr,h4],h5⟩
    ·cases h
  ·cases h
 next j off=>
  split at h
  next r k har=>
   split at h
   ·rename_i t l htag;obtain⟨hb,h⟩:=sR h;split at h
    ·rename_i u hu;obtain⟨rfl,rfl,rfl,rfl⟩:=h;refine⟨rfl,?_⟩;simp only[oA,Bool.not_eq_true']at hb;obtain⟨hb,hm⟩:=hb;have hm:k.ty≠VV:=Nat.ne_of_beq_eq_false hm;have hb:=oE hb;obtain⟨row,hj,hlt,hrow⟩:=aNM (jN (aN hcs).1);obtain⟨hr,hg⟩:=aEB har;obtain⟨_,_,a3⟩:=hW.rows.arn r k t l hr hg htag;obtain⟨b,h1,rfl⟩:=hp;rcases a3 j row hj with h0|⟨b',g1,g2⟩
     ·grind
     ·rw[h1]at g1; cases g1;obtain⟨c',g2,g3⟩:=g2.cells (n:=0) (.inl hm);obtain⟨rest,hr⟩:=aL0 t hlt 0;have hd:=g3.drop (off*t.size+0);rw[Nat.zero_add,hr,hb,Nat.mul_one,Nat.add_zero]at hd;unfold cS at hu;rw[hrow]at hu;obtain⟨v',h4,h5⟩:=RM (P:=P) hd (aBL rest hu);exact⟨v',by simp[Instr.loadAt,Instr.sureAddr,h4],h5.aW⟩
    ·cases h
   ·cases h
  ·cases h
 ·cases h
theorem a3O(hW:aR n0 G μ H w){tys ty p v x cs H' c}(hp:VR w G μ p x)(h:aVD P H tys p=some (cs,v,H',c)):H'=H/\∃ v',(Builtin.len_ tys ty #[x]).run P w=.ok v' w/\VR w G μ v v':=by
 unfold aVD at h;split at h
 next t ts ht=>
  have ht':tys[0]?=some t:=by rw[<- Array.getElem?_toList,ht]; rfl
  split at h
  next e hu=>
   split at h
   next tt l cap ee=>obtain⟨rfl,rfl,rfl,rfl⟩:=h;obtain⟨ao,c',rfl⟩:=aPF hp;exact⟨rfl,goInt l.length,by simp[Builtin.len_,ht',run_underlying hu],by rw[VR]⟩
   ·rename_i r sz;split at h
    ·rename_i g hg;obtain⟨rfl,rfl,rfl,rfl⟩:=h;obtain⟨kb,hk1,hk2⟩:=FE hg;obtain⟨ht1,ht2⟩:=hW.tags r kb g (aG hk1) hk2;obtain⟨m,h1,h2⟩:=hp;rw[ht2]at h1;cases h1;refine⟨rfl,goInt g.l.length,?_,by rw[VR]⟩;rcases h2 with ⟨h2,ao,rfl⟩|⟨b,c',h3,rfl,h5,h6⟩
     ·simp[Builtin.len_,ht',run_underlying hu,h2]
     ·simp[Builtin.len_,ht',run_underlying hu]
    ·cases h
   ·rename_i r sz;split at h
    ·rename_i g hg;obtain⟨rfl,rfl,rfl,rfl⟩:=h;obtain⟨kb,hk1,hk2⟩:=FE hg;obtain⟨ht1,ht2⟩:=hW.tags r kb g (aG hk1) hk2;rw[VR]at hp;obtain⟨m,h1,h2⟩:=hp;rw[ht2]at h1;cases h1;refine⟨rfl,goInt g.l.length,?_,by rw[VR]⟩;rcases h2 with ⟨h2,ao,rfl⟩|⟨b,c',h3,rfl,h5,h6⟩
     ·simp[Builtin.len_,ht',run_underlying hu,h2]
     ·simp[Builtin.len_,ht',run_underlying hu]
    ·cases h
   next r lo n sz=>simp only[oJ,oP]at h;obtain⟨rfl,rfl,rfl,rfl⟩:=h;rw[VR]at hp;obtain⟨b,c',_,h3,rfl,h5,h6,_⟩:=hp;exact⟨rfl,goInt n,by simp[Builtin.len_,ht',run_underlying hu],by rw[VR]⟩
   next j lo n sz=>simp only[oJ,oP]at h;obtain⟨rfl,rfl,rfl,rfl⟩:=h;rw[VR]at hp;obtain⟨ao,c',rfl,_⟩:=hp;exact⟨rfl,goInt n,by simp[Builtin.len_,ht',run_underlying hu],by rw[VR]⟩
   ·cases h
  ·cases h
 ·cases h
theorem vF {x d i b}(h:aEV x d=some (b,i))(hb:b=true):bnd x d=some i:=by
 unfold aEV at h;unfold bnd;split at h
 ·grind
 next k j=>
  simp only[oJ,oP]at h;obtain⟨h1,h2⟩:=h;subst h1;have:decide (0<=j)=true:=by
   rw[aE,Bool.not_eq_true',decide_eq_false_iff_not]at hb;grind
  grind
 grind
theorem aTH {F a nt} (hF:iV w G μ nt F a) {t e r l0 m n i j x} {lo hi:Option Operand} (hp:VR w G μ (.win r l0 m n) x) (hu:P.underlying t=some (.slice e)) (hs:vE P e=some n)
  (h1:bnd (lo.map (ev F)) 0=some i) (h2:bnd (hi.map (ev F)) m=some j) (h3:i<=j) (h4:j<=m) (h5:i<m) w1:∃ v',(Instr.sliceAt t x (lo.map a.eval) (hi.map a.eval) none).run P w1=.ok v' w1/\VR w G μ (.win r (l0+i) (j-i) n) v':=by
 obtain⟨mm,c0,hm1,hm2,hm3,hsz,hm4,hv⟩:∃ mm c0,μ.len r=some mm/\l0+m<=mm/\mm<=l0+c0/\μ.sh r=0/\m<=c0/\VR w G μ (.hs r (l0*n) m (some c0) n) x:=by
  obtain⟨b,c,mm,e1,e2,e3,e4,q1,q2,q3,hz⟩:=hp;refine⟨mm,c,q1,q2,q3,hz,e3,?_⟩;exact⟨b,c,e1,e2,e3,λk hk=>(by cases hk; rfl),by grind⟩
 have hx:UT P t (.hs r (l0*n) m (some c0) n) (lo.map (ev F)) (hi.map (ev F))=some (.hs r (l0*n+i*n) (j-i) (some (c0-i)) n):=by
  have q1:Nat.beq n n=true:=by rw[aJT,oT rfl]
  have q2:Nat.beq c0 i=false:=by rw[aJT,oF Z]
  have q3:Nat.ble j c0=true:=Nat.ble_eq_true_of_le Z;simp only[UT,hu,hs,h1,h2,q1,q2,q3,Nat.ble_eq_true_of_le h3,Bool.and_self,oC,oD]
 obtain⟨v',h6,h7⟩:=ND hF hv hx w1;refine⟨v',h6,?_⟩;obtain⟨b,c,e1,e2,e3,ec,e4⟩:=h7;have ec:=ec _ rfl;refine⟨b,c,mm,e1,by rw[e2,Nat.add_mul],e3,?_,hm1,by omega,by omega,hsz⟩;grind
theorem a64 {F a nt} (hW:aR n0 G μ H w) (hF:iV w G μ nt F a) {t e r l0 m n i j x} {lo hi:Option Operand} (hp:VR w G μ (.row r l0 m n) x) (hu:P.underlying t=some (.slice e)) (hs:vE P e=some n)
  (h1:bnd (lo.map (ev F)) 0=some i) (h2:bnd (hi.map (ev F)) m=some j) (h3:i<=j) (h4:j<=m) w1:∃ v',(Instr.sliceAt t x (lo.map a.eval) (hi.map a.eval) none).run P w1=.ok v' w1/\VR w G μ (.row r (l0+i) (j-i) n) v':=by
 obtain⟨ao,c,rfl,hle,hb⟩:=hp
 by_cases hm:i=j
 ·subst hm;have hv:VR w G μ (.vals [] m (some c)) (.slice ao m c):=by rw[VR]; exact⟨ao,c,rfl,hle,λk hk=>by cases hk; rfl,.inl rfl⟩
  have hx:UT P t (.vals [] m (some c)) (lo.map (ev F)) (hi.map (ev F))=some (.vals [] (i-i) none):=by simp only[UT,hu,hs,h1,h2,Nat.ble_eq_true_of_le h3,Nat.ble_eq_true_of_le h4,Bool.and_self,oC,List.drop_nil,List.take_nil]
  obtain⟨v',h6,h7⟩:=ND hF hv hx w1;refine⟨v',h6,?_⟩;obtain⟨ao',c',e1,e2,_,_⟩:=h7;exact⟨ao',c',e1,e2,.inl Z⟩
 ·rcases hb with hb|⟨b,hb,rfl,hroom⟩
  ·omega
  have e:=LG hW (some b) none;have hv:VR w G (upd μ H.length (some b) none) (.hs H.length (l0*n) m (some c) n) (.slice (some ⟨b,l0*n,none⟩) m c):=by
   rw[VR,A8];simp only[Nat.zero_add];exact⟨b,c,lE _ _ _ _,rfl,hle,λk hk=>(by cases hk; rfl),by rw[<- Nat.add_mul]; exact hroom⟩
  have hx:UT P t (.hs H.length (l0*n) m (some c) n) (lo.map (ev F)) (hi.map (ev F))=some (.hs H.length (l0*n+i*n) (j-i) (some (c-i)) n):=by
   have q1:Nat.beq n n=true:=by rw[aJT,oT rfl]
   have q2:Nat.beq c i=false:=by rw[aJT,oF Z]
   have q3:Nat.ble j c=true:=Nat.ble_eq_true_of_le Z;simp only[UT,hu,hs,h1,h2,q1,q2,q3,Nat.ble_eq_true_of_le h3,Bool.and_self,oC,oD]
  obtain⟨v',h6,h7⟩:=ND (hF.mono e.toMono) hv hx w1;refine⟨v',h6,?_⟩;rw[VR,A8]at h7; rw[VR];simp only[Nat.zero_add]at h7;obtain⟨b2,c2,e1,e2,e3,ec,e4⟩:=h7;rw[lE]at e1;cases e1;refine⟨_,c2,e2,e3,.inr ⟨b,hb,by rw[Nat.add_mul],?_⟩⟩;grind
theorem aKZ {isSlice lo l h m len cap k k' i i'}(hlo:a33 lo 0 l)(q1:0<=i)(q2:h=i.toNat)(q3:0<=i')(q4:m=i'.toNat)(h1:l<=h)(h2:h<=m)(h3:m<=cap) w1 :
  (Instr.sliceBounds isSlice len cap lo (some (.int k i)) (some (.int k' i'))).run P w1=.ok (l,h,m) w1:=by
 subst q2; subst q4;have a1:i'<=cap:=Z
 have a2:i<=i'.toNat:=Z
 rcases hlo with ⟨rfl,rfl⟩|⟨k2,i2,rfl,hi0,rfl⟩
 ·simp only[Instr.sliceBounds,Instr.sliceBound,asIntOf,Sem.run_bind,Sem.run_pure,Result.andThen_ok,if_pos (And.intro q3 a1),if_pos (And.intro q1 a2)]
 ·have a3:i2<=i.toNat:=Z
  simp only[Instr.sliceBounds,Instr.sliceBound,asIntOf,Sem.run_bind,Sem.run_pure,Result.andThen_ok,if_pos (And.intro q3 a1),if_pos (And.intro q1 a2),if_pos (And.intro hi0 a3)]
theorem aSZ {F a nt}(hF:iV w G μ nt F a){t p v x}{lo:Option Operand}{hi mx cs H' c}(hp:VR w G μ p x)(h:aAH P H t p (lo.map (ev F)) (ev F hi) (ev F mx)=some (cs,v,H',c))(hcs:B3 cs=true) w1 :
  H'=H/\∃ v',(Instr.sliceAt t x (lo.map a.eval) (some (a.eval hi)) (some (a.eval mx))).run P w1=.ok v' w1/\VR w G μ v v':=by
 unfold aAH at h;split at h
 next e hu=>
  split at h
  next n hs=>
   split at h
   ·rename_i ty l cap ee;cases hb:Nat.beq n ty.size with
    | false=>rw[hb]at h; cases h
    | true =>
    rw[hb]at h;simp only[oC]at h;have hb:=oE hb;subst hb;split at h
    ·rename_i b1 i b2 j b3 m h1 h2 h3;obtain⟨rfl,rfl,rfl,rfl⟩:=h;refine⟨rfl,?_⟩;obtain⟨c1,hcs⟩:=aN hcs;obtain⟨c2,hcs⟩:=aN hcs;obtain⟨c3,hcs⟩:=aN hcs;obtain⟨c4,hcs⟩:=aN hcs;obtain⟨c5,hcs⟩:=aN hcs;obtain⟨c6,_⟩:=aN hcs;have c4:=oL c4;have c5:=oL c5;have c6:=oL c6;have hlo:=IC hF (vF h1 c1);rcases IC (x:=some hi) hF (vF h2 c2)with ⟨h4,_⟩|⟨k1,i1,h4,h5,h6⟩
     ·cases h4
     rcases IC (x:=some mx) hF (vF h3 c3)with ⟨h7,_⟩|⟨k2,i2,h7,h8,h9⟩
     ·cases h7
     have hv:VR w G μ (.vals (aK ty l) l.length cap) x:=(XQ hp).aW;obtain⟨ao,cc,rfl,q1,-,q2⟩:=hv;simp only[Option.map_some,oJ]at h4 h7;have hr:=aKZ (P:=P) (isSlice:=true) (len:=l.length) (k:=k1) (k':=k2) hlo h5 h6 h8 h9 c4 c5 (oR c6 q1) w1;refine⟨.slice (if m=i then ao else ao.map (·.add (i*ty.size))) (j-i) (m-i),?_,?_⟩
     ·simp[Instr.sliceAt,Instr.slice,run_underlying hu,h4,h7,hr,run_sizeOf hs]
     ·have hlen:((l.drop i).take (j-i)).length=j-i:=by simp; omega
      refine aA0 ?_;rw[hlen,VR];refine⟨_,_,rfl,by omega,λk hk=>(by cases hk; rfl),?_⟩
      by_cases hcl:m=i
      ·left;have:j-i=0:=Z
       rw[this,List.take_zero]; rfl
      ·rcases q2 with q2|⟨b,off,rfl,hg,hcs⟩
       ·left;rw[<- rA,<- u9,q2]; simp
       ·right;refine⟨b,off+i*ty.size,by simp[hcl,Addr.add_lit],hg,?_⟩;rw[<- rA,<- u9];exact hcs.sub _ _
    ·cases h
   ·cases h
  ·cases h
 ·cases h
theorem aVH {F a nt}(hW:aR n0 G μ H w)(hF:iV w G μ nt F a){t p v x}{lo hi:Option Operand}{cs H' c}(hp:VR w G μ p x)(h:YN P H t p (lo.map (ev F)) (hi.map (ev F))=some (cs,v,H',c))(hcs:B3 cs=true) w1 :
  H'=H/\∃ v',(Instr.sliceAt t x (lo.map a.eval) (hi.map a.eval) none).run P w1=.ok v' w1/\VR w G μ v v':=by
 unfold YN at h;split at h
 next e hu=>
  split at h
  next n hs=>
   split at h
   ·rename_i ty l cap ee;cases hb:Nat.beq n ty.size with
    | false=>rw[hb]at h; cases h
    | true =>
     rw[hb]at h;simp only[oC]at h;have hb:=oE hb;subst hb;split at h
     ·rename_i b1 i b2 j h1 h2;obtain⟨rfl,rfl,rfl,rfl⟩:=h;refine⟨rfl,?_⟩;obtain⟨c1,hcs⟩:=aN hcs;obtain⟨c2,hcs⟩:=aN hcs;obtain⟨c3,hcs⟩:=aN hcs;obtain⟨c4,_⟩:=aN hcs;have hv:VR w G μ (.vals (aK ty l) l.length cap) x:=(XQ hp).aW;have hx:UT P t (.vals (aK ty l) l.length cap) (lo.map (ev F)) (hi.map (ev F))=some (.vals (((aK ty l).drop (i*ty.size)).take ((j-i)*ty.size)) (j-i) none):=by simp only[UT,hu,hs,vF h1 c1,vF h2 c2,c3,c4,Bool.and_self,oC]
      obtain⟨v',h3,h4⟩:=ND hF hv hx w1;refine⟨v',h3,aA0 ?_⟩;have hle2:=oL c4;have hlen:((l.drop i).take (j-i)).length=j-i:=by simp; omega
      rw[u9,rA]at h4;rw[hlen];exact C6 _ _ rfl h4
     ·cases h
   ·rename_i r sz;split at h
    ·rename_i g hg;obtain⟨hb,h⟩:=sR h;have hb:=oE hb;subst hb;unfold aOG at h;split at h
     ·rename_i b1 i b2 j h1 h2;obtain⟨kb,hk1,hk2⟩:=FE hg;cases hz:(aQE g.t&&Nat.beq g.l.length 0)with
      | true =>
       rw[hz]at h;simp only[oC,oJ,oP]at h;obtain⟨rfl,rfl,rfl,rfl⟩:=h;refine⟨rfl,?_⟩;obtain⟨c1,hcs⟩:=aN hcs;obtain⟨c2,hcs⟩:=aN hcs;obtain⟨c3,hcs⟩:=aN hcs;obtain⟨c4,_⟩:=aN hcs;have c3:=oE c3;have c4:=oE c4;subst c3; subst c4;simp only[oA]at hz;have hz:=oE hz.2;obtain⟨ht1,ht2⟩:=hW.tags r kb g (aG hk1) hk2;have hp0:=hp;rw[VR]at hp;obtain⟨m,e1,e2⟩:=hp;rw[ht2,hz]at e1;cases e1;have run:∀ ao c',x=.slice ao 0 c'->(Instr.sliceAt t x (lo.map a.eval) (hi.map a.eval) none).run P w1=.ok (.slice (if c'=0 then ao else ao.map (·.add (0*n))) (0-0) (c'-0)) w1:=λao c' hx=>by
        subst hx;have hb2:=vF h2 c2;rw[hz]at hb2;have hr:=wW (P:=P) (isSlice:=true) (IC hF (vF h1 c1)) (IC hF hb2) (oM 0) (Nat.zero_le c') w1;simp[Instr.sliceAt,Instr.slice,run_underlying hu,hr,run_sizeOf hs]
       rcases e2 with ⟨_,ao,rfl⟩|⟨b,c',e3,rfl,e5,e6⟩
       ·exact⟨_,run ao 0 rfl,hp0⟩
       ·refine⟨_,run _ c' rfl,?_⟩;have:(if c'=0 then some (⟨b,μ.sh r,none⟩:Addr) else (some (⟨b,μ.sh r,none⟩:Addr)).map (·.add (0*n)))=some ⟨b,μ.sh r,none⟩:=by
         split
         ·rfl
         ·simp[Addr.add_lit]
        rw[this];exact hp0
      | false =>
      rw[hz]at h;simp only[oD,oJ,oP]at h;obtain⟨rfl,rfl,rfl,rfl⟩:=h;refine⟨rfl,?_⟩;obtain⟨c1,hcs⟩:=aN hcs;obtain⟨c2,hcs⟩:=aN hcs;obtain⟨c3,hcs⟩:=aN hcs;obtain⟨c4,hcs⟩:=aN hcs;obtain⟨c5,_⟩:=aN hcs;obtain⟨ht1,ht2⟩:=hW.tags r kb g (aG hk1) hk2;have hlt:=jN c5;have hv:VR w G μ (.win r 0 g.l.length n) x:=by
       rw[VR]at hp; rw[VR];obtain⟨m,e1,e2⟩:=hp;rw[ht2]at e1;cases e1;rcases e2 with ⟨e2,_⟩|⟨b,c',e3,rfl,e5,e6⟩
       ·omega
       ·exact⟨b,c',_,e3,by rw[Nat.zero_mul,Nat.add_zero],e5,by rw[Nat.zero_add]; exact e6.1,ht2,by rw[Nat.zero_add]; exact oM _,by rw[Nat.zero_add]; exact e5,e6.2⟩
      have:=aTH hF hv hu hs (vF h1 c1) (vF h2 c2) (oL c3) (oL c4) hlt w1;rw[Nat.zero_add]at this;exact this
     ·cases h
    ·cases h
   ·rename_i r l0 m sz;obtain⟨hb,h⟩:=sR h;have hb:=oE hb;subst hb;split at h
    next b1 i b2 j h1 h2=>simp only[oJ,oP]at h;obtain⟨rfl,rfl,rfl,rfl⟩:=h;refine⟨rfl,?_⟩;obtain⟨c1,hcs⟩:=aN hcs;obtain⟨c2,hcs⟩:=aN hcs;obtain⟨c3,hcs⟩:=aN hcs;obtain⟨c4,hcs⟩:=aN hcs;obtain⟨c5,_⟩:=aN hcs;exact aTH hF hp hu hs (vF h1 c1) (vF h2 c2) (oL c3) (oL c4) (jN c5) w1
    ·cases h
   ·rename_i r l0 m sz;obtain⟨hb,h⟩:=sR h;have hb:=oE hb;subst hb;split at h
    next b1 i b2 j h1 h2=>simp only[oJ,oP]at h;obtain⟨rfl,rfl,rfl,rfl⟩:=h;refine⟨rfl,?_⟩;obtain⟨c1,hcs⟩:=aN hcs;obtain⟨c2,hcs⟩:=aN hcs;obtain⟨c3,hcs⟩:=aN hcs;obtain⟨c4,hcs⟩:=aN hcs;exact a64 hW hF hp hu hs (vF h1 c1) (vF h2 c2) (oL c3) (oL c4) w1
    ·cases h
   ·cases h
  ·cases h
 ·cases h
def TA(c:List Value)(off:Nat)(vs:List Value):List Value:=c.take off++vs++c.drop (off+vs.length)
theorem aYO a m b vs {off}(h:off+vs.length<=m.length):TA (a++m++b) (a.length+off) vs=a++TA m off vs++b:=by
 unfold TA;have e1:(a++m++b).take (a.length+off)=a++m.take off:=by rw[List.append_assoc,List.take_append,List.take_of_length_le R,Nat.add_sub_cancel_left,List.take_append_of_le_length Z]
 have e2:(a++m++b).drop (a.length+off+vs.length)=m.drop (off+vs.length)++b:=by rw[Nat.add_assoc,<- List.drop_drop,List.append_assoc,List.drop_left,List.drop_append_of_le_length h]
 grind
theorem aJI(hW:aR n0 G μ H w){T p v u x y cs H' c}(hp:VR w G μ p x)(hv:VR w G μ v y)(h:aLP P H T p v=some (cs,u,H',c))(hcs:B3 cs=true) :
  u=.lit undef/\c=2/\∃ w',(Instr.storeAt T x y).run P w=.ok () w'/\Ext n0 w G μ w' G μ/\aR n0 G μ H' w':=by
 unfold aLP at h;split at h
 next r i off sz=>
  split at h
  next k hk=>
   split at h
   ·rename_i g hg;split at h
    ·rename_i new n hnew hn;cases hb:(Nat.beq new.length n&&Nat.beq sz g.t.size&&!k.frozen&&Nat.ble (off+n) sz&&new.all SK)with
     | false=>rw[hb]at h; cases h
     | true =>
      rw[hb]at h;simp only[oC]at h;split at h
      ·rename_i d hd;obtain⟨rfl,rfl,rfl,rfl⟩:=h;refine⟨rfl,rfl,?_⟩;simp only[oA,Bool.not_eq_true']at hb;obtain⟨⟨⟨⟨b1,b2⟩,hf⟩,b3⟩,hok⟩:=hb;have b1:=oE b1;have b2:=oE b2;have b3:=oL b3;subst b2;have hlt:=jN (aN hcs).1;obtain⟨ht1,ht2⟩:=hW.tags r k g (aG hk) hg;obtain⟨b,hloc,rfl⟩:=hp;obtain⟨C,g2,g3,g4,g5,g6⟩:=hW.blk r k b (aG hk) hloc;rw[ht1]at g3;obtain⟨i1,i2⟩:=IW g2 g3;have hlen:=bW g.t g.l;have hcv:=PX hnew hv
       have hvl:new.length=y.cells.size:=by simpa using hcv.length
       have hmul:(i+1)*g.t.size<=g.l.length*g.t.size:=Nat.mul_le_mul_right _ hlt;rw[Nat.add_mul,Nat.one_mul]at hmul;have hfs:Fits C (μ.sh r+(i*g.t.size+off)) y.cells.toList:=.of (by simp only[Array.length_toList]; omega) i2;obtain⟨w',h1,h2⟩:=vA (P:=P) (off:=μ.sh r+(i*g.t.size+off)) y.cells.toList 0 w C (L4 hok hcv) g2 hfs;rw[Nat.add_zero]at h2;have hsz:(sC C (μ.sh r+(i*g.t.size+off)) y.cells.toList).size=C.size:=EG hfs
       have e1:=H6 hW (aG hk) hf hloc g2 h2 hsz;refine⟨w',?_,e1,?_⟩
       ·have hl':y.cells.size=n:=Z
        simp[Instr.storeAt,Instr.sureAddr,storeVar,run_sizeOf hn,hl',h1]
       ·refine L6 (k':={ k with cells:=aK g.t (g.l.set i d),tag:=some ⟨g.t,g.l.set i d⟩ }) hW (aG hk) hf hloc g2 h2 hsz hf ?_ ?_ ?_ ?_
        ·-- the cells of the element are new
         have kK:g.l.getD i g.t.aVB=g.l[i]:=by simp[oQ,hlt]
         rw[kK]at hd;have hsplit:g.l=g.l.take i++g.l[i]::g.l.drop (i+1):=by rw[<- List.drop_eq_getElem_cons hlt,List.take_append_drop]
         have hset:g.l.set i d=g.l.take i++d::g.l.drop (i+1):=by rw[List.set_eq_take_append_cons_drop,if_pos hlt]
         have hA:(aK g.t (g.l.take i)).length=i*g.t.size:=by rw[bW,List.length_take,Nat.min_eq_left (Nat.le_of_lt hlt)]
         obtain⟨C0,hC0⟩:∃ C0,C0=(C.toList.drop (μ.sh r)).take (aK g.t g.l).length:=⟨_,rfl⟩;rw[<- hC0]at i1;have hsp:aK g.t g.l=aK g.t (g.l.take i)++(enc g.t g.l[i]++aK g.t (g.l.drop (i+1))):=by
          conv=>lhs; rw[hsplit]
          rw[sA,yH]
         have j0:=i1;rw[hsp]at j0;have jA:=j0.take (i*g.t.size);rw[List.take_left' hA]at jA;have jR:=j0.drop (i*g.t.size);rw[List.drop_left' hA]at jR;have jM:=jR.take g.t.size;rw[List.take_left' (tW _ _)]at jM;have jB:=jR.drop g.t.size;rw[List.drop_left' (tW _ _)]at jB;have hC0len:C0.length=g.l.length*g.t.size:=by rw[hC0,List.length_take,hlen,List.length_drop,Array.length_toList]; omega
         have hCeq:C0=C0.take (i*g.t.size)++(C0.drop (i*g.t.size)).take g.t.size++(C0.drop (i*g.t.size)).drop g.t.size:=by rw[List.append_assoc,List.take_append_drop,List.take_append_drop]
         have hta:(C0.take (i*g.t.size)).length=i*g.t.size:=by rw[List.length_take]; omega
         have htm:((C0.drop (i*g.t.size)).take g.t.size).length=g.t.size:=by rw[List.length_take,List.length_drop]; omega
         have hspl:((sC C (μ.sh r+(i*g.t.size+off)) y.cells.toList).toList.drop (μ.sh r)).take (g.l.length*g.t.size)=TA C0 (i*g.t.size+off) y.cells.toList:=by
          rw[JC (by simp only[Array.length_toList]; omega) Z];simp only[TA,hC0,hlen,List.append_assoc]
         have hmid:TA C0 (i*g.t.size+off) y.cells.toList=C0.take (i*g.t.size)++TA ((C0.drop (i*g.t.size)).take g.t.size) off y.cells.toList++(C0.drop (i*g.t.size)).drop g.t.size:=by
          have:=aYO (C0.take (i*g.t.size)) ((C0.drop (i*g.t.size)).take g.t.size) ((C0.drop (i*g.t.size)).drop g.t.size) y.cells.toList (off:=off) (by rw[htm]; simp only[Array.length_toList]; omega);rw[hta]at this;rw[<- this]
          congr 1
         have hnewv:VRs w G μ (enc g.t d) (TA ((C0.drop (i*g.t.size)).take g.t.size) off y.cells.toList):=by
          refine VRs.aW (AF g.t μ _ d _ hd ?_);simp only[aA6,TA,hcv.length];exact((jM.take off).append hcv).append (jM.drop _)
         refine zD (n:=g.l.length*g.t.size) h2.at_ (VRs.mono e1.toMono _ _ ?_);rw[hspl,hmid,hset,sA,yH,<- List.append_assoc];exact(jA.append hnewv).append jB
        ·intro hgr;rw[hsz,g4 hgr,ht1,bW,bW,List.length_set]
        ·intro g' hg';cases hg';exact⟨rfl,by simp only[List.length_set]; exact ht2⟩
        ·intro t1 l1 q1 q2;obtain⟨gt,gl⟩:=g;simp only[oJ,Tg.mk.injEq]at q2;obtain⟨rfl,_⟩:=q2;exact⟨gl,q1,hg⟩
      ·cases h
    ·cases h
   ·cases h
  ·cases h
 next j off=>
  split at h
  next r k har=>
   split at h
   ·rename_i t l htag;split at h
    ·rename_i new n hnew hn;obtain⟨hb,h⟩:=sR h;split at h
     ·rename_i d hd;simp only[oJ,oP]at h;obtain⟨rfl,rfl,rfl,rfl⟩:=h;refine⟨rfl,rfl,?_⟩;simp only[oA]at hb;obtain⟨⟨⟨⟨b1,b2⟩,b3⟩,hm⟩,hok⟩:=hb;have hm:k.ty≠VV:=Nat.ne_of_beq_eq_false (by simpa using hm);have b1:=oE b1;have b2:=oE b2;have b3:=oE b3;obtain⟨row,hj,hlt,hrow⟩:=aNM (jN (aN hcs).1);obtain⟨hr,hg⟩:=aEB har;obtain⟨_,_,a3⟩:=hW.rows.arn r k t l hr hg htag;rw[VR]at hp;obtain⟨b,hloc,rfl⟩:=hp;rcases a3 j row hj with h0|⟨b',g1,g2⟩
      ·rw[h0.1]at hlt; exact absurd hlt (Nat.not_lt_zero _)
      rw[hloc]at g1; cases g1;obtain⟨C,g2,g3⟩:=g2.cells (n:=0) (.inl hm);obtain⟨i1,i2⟩:=IW g2 g3;rw[List.drop_zero]at i1;rw[Nat.sub_zero]at i2;have hlen:=bW t row;rw[b3,Nat.mul_one]at hlen;have hcv:=PX hnew hv;have hvl:new.length=y.cells.size:=by simpa using hcv.length
      obtain⟨w',h1,h2⟩:=vA (P:=P) (off:=off) y.cells.toList 0 w C (L4 hok hcv) g2 (.inr (by simp only[Array.length_toList]; omega));rw[Nat.add_zero]at h2;have hsz:(sC C off y.cells.toList).size=C.size:=EG (.inr (by simp only[Array.length_toList]; omega));have e1:=aV3 hW hloc g2 h2 hsz;refine⟨w',?_,e1,?_⟩
      ·have hl':y.cells.size=n:=Z
       simp[Instr.storeAt,Instr.sureAddr,storeVar,run_sizeOf hn,hl',h1]
      ·refine bBK hW hr hg htag hloc g2 h2 hsz (by unfold wQ; rw[List.length_set]) (λi hi=>?_) (row:=row.set off d) ?_ ?_ hm
       ·unfold wQ;rw[List.getElem?_set_ne (Ne.symm hi)]
       ·unfold wQ;rw[hrow,List.getElem?_set_self (oO.1 hj).1]
       ·have hset:row.set off d=row.take off++d::row.drop (off+1):=by
         rw[List.set_eq_take_append_cons_drop,if_pos hlt]
        have hnewv:VRs w' G aJ (enc t d) y.cells.toList:=VRs.mono e1.toMono.aJ _ _ (AF t μ _ d _ hd hcv);have hA:=rA t off row;have hB:=u9 t (off+1) row;rw[b3,Nat.mul_one]at hA hB;have jA:=i1.take off;have jB:=i1.drop (off+1);refine zD (n:=row.length) h2.at_ ?_;rw[List.drop_zero];rw[hset,sA,yH,<- hA,<- hB];have hy:y.cells.toList.length=1:=by simp only[Array.length_toList]; omega
        have hspl:(sC C off y.cells.toList).toList.take row.length=(C.toList.take (aK t row).length).take off++(y.cells.toList++(C.toList.take (aK t row).length).drop (off+1)):=by
         simp only[sC,hlen,hy];rw[List.append_assoc,List.take_append,List.take_append,List.take_take,List.take_take,hy,List.take_of_length_le (l:=y.cells.toList) (by rw[List.length_take]; omega),List.drop_take];have q1:(C.toList.take off).length=off:=by rw[List.length_take]; simp only[Array.length_toList]; omega
         rw[q1]
         congr 1
         congr 1; omega
        rw[hspl];exact(VRs.mono e1.toMono.aJ _ _ jA).append (hnewv.append (VRs.mono e1.toMono.aJ _ _ jB))
     ·cases h
    ·cases h
   ·cases h
  ·cases h
 ·cases h
end
section
variable {P:Program} {n0:Nat->Prop} {w:World} {G:Gd} {μ:Mp} {H:Heap}
theorem AY {t e:TypeId}{ty:Ty}(h:FN P t=some (e,ty)):P.underlying t=some (.slice e)/\vE P e=some ty.size:=by
 unfold FN at h;cases hm:aDR bFU t with
 | true=>rw[hm]at h; cases h
 | false =>
 rw[hm,oD]at h;cases hm2:aDR bFI t with
 | true =>
  rw[hm2,oC]at h;unfold a5E at h;split at h
  next e' hu=>
   split at h
   ·split at h
    ·rename_i n m h1 h2;cases hb:Nat.beq n 1 with
     | false=>rw[hb]at h; cases h
     | true =>
      rw[hb]at h;simp only[oC,oJ,oP]at h;obtain⟨rfl,rfl⟩:=h;exact⟨hu,by rw[h1,oE hb]; rfl⟩
    ·cases h
   ·cases h
  ·cases h
 | false =>
 rw[hm2,oD]at h;split at h
 next e' hu=>
  split at h
  next ty' n h1 h2=>
   cases hb:Nat.beq n ty'.size with
   | false=>rw[hb]at h; cases h
   | true =>
    rw[hb]at h;simp only[oC,oJ,oP]at h;obtain⟨rfl,rfl⟩:=h;exact⟨hu,by rw[h2,oE hb]⟩
  ·cases h
 ·cases h
theorem PI {e n i}(h:vE P e=some n)(hi:P.info? e=some i):i.size=n:=by
 unfold vE at h;grind
theorem aVX(hW:aR n0 G μ H w) {ty:Ty} {new l:List ty.den} {vs:List Value} (s2:VRs w G μ (aK ty new) vs) (hok:∀ v∈vs,v.oneCell'=true) {r p:Nat} {k:Blk} (hk:kK H r=some k) (hf:k.frozen=false) (htag:k.tag=some ⟨ty,l⟩) {b:Nat} (hb:μ.loc r=some b) (hfit:p+new.length<=l.length) :
  ∃ w',(storeCells ⟨b,μ.sh r+p*ty.size,none⟩ vs).run P w=.ok () w'/\Ext n0 w G μ w' G μ/\aR n0 G μ (H.set r (some { k with cells:=aK ty (spl l p new),tag:=some ⟨ty,spl l p new⟩ })) w':=by
 obtain⟨cs,g2,g3,g4,g5,g6⟩:=hW.blk r k b (aG hk) hb;obtain⟨ht1,ht2⟩:=hW.tags r k _ (aG hk) htag;rw[ht1]at g3;have hvl:new.length*ty.size=vs.length:=by have:=s2.length; rwa[bW]at this
 obtain⟨i1,i2⟩:=IW g2 g3;have hel:=bW ty l;rw[hel]at i2;have hmul:(p+new.length)*ty.size<=l.length*ty.size:=Nat.mul_le_mul_right _ hfit;rw[Nat.add_mul]at hmul;have hfs:Fits cs (μ.sh r+p*ty.size) vs:=.of Z i2;obtain⟨w',h1,h2⟩:=vA (P:=P) (off:=μ.sh r+p*ty.size) vs 0 w cs hok g2 hfs;rw[Nat.add_zero]at h2;have hszV:(sC cs (μ.sh r+p*ty.size) vs).size=cs.size:=EG hfs;have e1:=H6 hW (aG hk) hf hb g2 h2 hszV
 have hlen:(spl l p new).length=l.length:=by simp only[spl,oH,List.length_take,List.length_drop]; omega
 refine⟨w',h1,e1,L6 (k':={ k with cells:=aK ty (spl l p new),tag:=some ⟨ty,spl l p new⟩ }) hW (aG hk) hf hb g2 h2 hszV hf ?_ ?_ ?_ (λt1 l1 q1 q2=>by simp only[oJ,Tg.mk.injEq]at q2; obtain⟨rfl,_⟩:=q2; exact⟨l,q1,htag⟩)⟩
 ·refine zD (n:=l.length*ty.size) h2.at_ (VRs.mono e1.toMono _ _ ?_);rw[JC Z i2,<- hel,<- hvl];unfold spl;rw[sA,sA,<- rA,<- u9];refine(i1.take _).append (s2.append ?_);have:=i1.drop ((p+new.length)*ty.size);grind
 ·intro hgr;rw[hszV,g4 hgr,ht1,bW,bW,hlen]
 ·grind
def aI9(P:Program) (w:World) (G:Gd) (μ:Mp) (ty:Ty) (v:Value) (new:List ty.den):Prop :=
 (∀ w1:World,(Builtin.lenOf v).run P w1=.ok new.length w1)/\∃ vs:Array Value,VRs w G μ (aK ty new) vs.toList/\∀ w1:World,w1.heap=w.heap->(Builtin.firstCells ty.size new.length v).run P w1=.ok vs w1
theorem aAX {ty new v cs}(h:Source P w G μ ty.size v cs new.length)(hc:∀ vs,VRs w G μ cs vs->VRs w G μ (aK ty new) vs):aI9 P w G μ ty v new:=by
 obtain⟨h1,h2,h3⟩:=h;obtain⟨vs,h4,h5⟩:=h3 new.length (oM _);rw[List.take_of_length_le Z]at h4;exact⟨h1,vs,hc _ h4,h5⟩
theorem aMY {cs n sz cap v}(h:VR w G μ (.vals cs n cap) v)(hl:cs.length=n*sz):Source P w G μ sz v cs n:=by
 obtain⟨ao,c,rfl,_,_,h3⟩:=h;rcases h3 with rfl|⟨b,off,rfl,_,hc⟩
 ·refine⟨λw1=>rfl,hl,λm hm=>⟨#[],by simp[VRs],λw1 _=>?_⟩⟩;have h0:m*sz=0:=by
   have:=Nat.mul_le_mul_right sz hm;grind
  cases ao with
  | none=>rfl
  | some a=>simp[Builtin.firstCells,h0,loadCells,loadCellsFrom]
 ·exact C3 hc.aW hl
theorem P9(hW:aR n0 G μ H w){ty p new v}(hp:VR w G μ p v)(hok:B3 (aRO H p)=true)(h:aE8 H ty p=some new):aI9 P w G μ ty v new:=by
 unfold aE8 at h;split at h
 next u l cap e=>obtain⟨rfl,rfl⟩:=qQ h;exact aAX (aMY (XQ hp).aW (bW _ _)) (λ_ h=>h)
 next r sz=>
  split at h
  next g hg=>
   obtain⟨t,l⟩:=g;obtain⟨rfl,rfl⟩:=qQ h;obtain⟨kb,hk1,hk2⟩:=FE hg;obtain⟨ht1,ht2⟩:=hW.tags r kb _ (aG hk1) hk2;obtain⟨m,h1,h2⟩:=hp;rw[ht2]at h1;cases h1;rcases h2 with ⟨h2,ao,rfl⟩|⟨b,c',h3,rfl,h5,h6⟩
   ·have hnil:l=[]:=List.eq_nil_of_length_eq_zero h2;subst hnil;refine⟨λw1=>rfl,#[],by simp[aK,VRs],λw1 _=>?_⟩;cases ao with
    | none=>rfl
    | some a=>simp[Builtin.firstCells,loadCells,loadCellsFrom]
   ·obtain⟨c,g2,g3,_⟩:=hW.blk r kb b (aG hk1) h3;rw[ht1]at g3;exact aAX (C3 g3 (bW _ _)) (λ_ h=>h)
  ·cases h
 next n c=>
  cases hn:Nat.beq n 0 with
  | false=>rw[hn]at h; cases h
  | true =>
   rw[hn]at h;simp only[oC,oJ]at h;subst h;have hn:=oE hn;subst hn;subst hp;exact⟨λw1=>rfl,#[],by simp[aK,VRs],λw1 _=>rfl⟩
 next cs n cap=>
  have hlen:∀ {m:Nat} {cs:List PV} {l:List ty.den},CA (dec ty) ty.size m cs=some l->l.length=m:=by
   intro m
   induction m with
   | zero =>
    intro cs l h;cases cs with
    | nil=>simp only[CA,oJ]at h; subst h; rfl
    | cons _ _=>simp only[CA]at h; cases h
   | succ m ih =>
    intro cs l h;simp only[CA]at h;split at h
    ·split at h
     next l' hl=>simp only[oJ]at h;subst h;rw[List.length_cons,ih hl]
     ·cases h
    ·cases h
  have hn:=hlen h;subst hn;have hvl:=hp;rw[VR]at hvl;obtain⟨ao,c,rfl,_,_,h3⟩:=hvl;have hcs:∀ vs,VRs w G μ cs vs->VRs w G μ (aK ty new) vs:=λvs hv=>VRs.aW (QV (g:=enc ty) (λcs x vs h hv=>AF ty μ cs x vs h hv) h hv).1
  rcases h3 with rfl|⟨b,off,rfl,_,hc⟩
  ·have h0:=hcs [] (by rw[VRs]);have h1:=h0.length;rw[bW,List.length_nil]at h1;have hz:new.length=0:=by
    rcases Nat.eq_zero_or_pos new.length with h|h
    ·exact h
    ·have:=Nat.mul_pos h ty.size_pos; omega
   rw[hz];refine⟨λw1=>by rw[hz]; rfl,#[],by simpa using h0,λw1 _=>?_⟩;rw[hz];cases ao with
   | none=>rfl
   | some a=>simp[Builtin.firstCells,loadCells,loadCellsFrom]
  ·obtain⟨vs,h4,h5⟩:=hc.values;have h6:=hcs vs h4.aW;have h7:=h6.length;rw[bW]at h7;refine⟨λw1=>rfl,vs.toArray,by simpa using h6,λw1 hw=>?_⟩;have:=run_loadCells (P:=P) (w:=w1) (b:=b) (off:=off) (vs:=vs) λj hj=>by rw[aUA hw]; exact h5 j hj
   rw[<- h7]at this;exact this
 next r lo m sz=>
  split at h
  next g hg=>
   split at h
   ·rename_i l hl;obtain⟨gt,gl⟩:=g;obtain⟨rfl,rfl⟩:=qQ hl;obtain⟨hb0,h9⟩:=sR h;clear h;have hb:=oE hb0;clear hb0;subst hb;simp only[oJ]at h9;subst h9;obtain⟨kb,hk1,hk2⟩:=FE hg;obtain⟨ht1,ht2⟩:=hW.tags r kb _ (aG hk1) hk2;rw[VR]at hp;obtain⟨b,c',mm,h3,rfl,h5,h6,h7,h8,_⟩:=hp;rw[ht2]at h7;cases h7;simp only at ht1 h8;obtain⟨c,g2,g3,_⟩:=hW.blk r kb b (aG hk1) h3;rw[ht1]at g3;have g4:=g3.sub (lo*gt.size) (m*gt.size)
    rw[u9,rA]at g4;have hlen:((gl.drop lo).take m).length=m:=by rw[List.length_take,List.length_drop]; omega
    have:=aAX (P:=P) (new:=(gl.drop lo).take m) (C3 (c:=c') g4 (bW _ _)) (λ_ h=>h);rwa[hlen]at this
   ·cases h
  ·cases h
 next j lo m sz=>
  unfold a7V at h;split at h
  next r k hk=>
   split at h
   ·rename_i t l hg;split at h
    ·rename_i row hrow;obtain⟨rfl,rfl⟩:=qQ hrow;obtain⟨hb,h9⟩:=sR h;clear h;simp only[oA,Bool.not_eq_true']at hb;have hb1:=oE hb.1;have hb2:=Nat.ne_of_beq_eq_false hb.2;subst hb1;simp only[oJ]at h9;subst h9;simp only[aRO,hk,hg,cI]at hok;have hle:=oL (aN hok).1;have hlen:(((l.getD j []).drop lo).take m).length=m:=by rw[List.length_take,List.length_drop]; omega
     rw[VR]at hp;obtain⟨ao,c,rfl,h2,h3⟩:=hp
     by_cases hm:m=0
     ·subst hm;rw[List.take_zero];refine⟨λw1=>rfl,#[],by simp[aK,VRs],λw1 _=>?_⟩;cases ao with
      | none=>rfl
      | some a=>simp[Builtin.firstCells,loadCells,loadCellsFrom]
     ·obtain⟨b,g1,rfl,_⟩:=h3.resolve_left hm;obtain⟨i,_,hki,hgr⟩:=aE6 hk;obtain⟨_,_,a3⟩:=hW.rows.arn i k _ _ hki hgr hg;have hj:j<l.length:=by
       rcases oG j l.length with hj|hj
       ·exact hj
       ·rw[oQ,List.getElem?_eq_none hj,Option.getD_none]at hle;simp only[List.length_nil]at hle;omega
      have hge:l[j]?=some (l.getD j []):=by rw[oQ,List.getElem?_eq_getElem hj]; rfl
      rcases a3 j _ hge with ⟨h0,_⟩|⟨b',e1,e2⟩
      ·rw[h0]at hle;simp only[List.length_nil]at hle;omega
      ·rw[g1]at e1;cases e1;obtain⟨c0,_,g3⟩:=e2.cells (n:=0) (.inl hb2);have g4:=(aM.aW (μ:=μ) g3).sub (lo*t.size) (m*t.size);rw[Nat.zero_add,u9,rA]at g4;have:=aAX (P:=P) (new:=((l.getD j []).drop lo).take m) (C3 (c:=c) g4 (bW _ _)) (λ_ h=>h);rwa[hlen]at this
    ·cases h
   ·cases h
  ·cases h
 ·cases h
theorem a3C {r sz v}(h:VR w G μ (.own r sz) v):VR w G μ (.qs r sz) v:=by
 obtain⟨n,h1,h2⟩:=h;exact⟨n,h1,h2.imp id λ⟨b,c,q1,q2,q3,q4⟩=>⟨b,c,q1,q2,q3,q4.1⟩⟩
theorem xE.qs {s r sz H'}(h:xE P n0 w G μ s (.own r sz) H'):xE P n0 w G μ s (.qs r sz) H':=by
 obtain⟨v',w',G',μ',h1,h2,h3,h4⟩:=h;exact⟨v',w',G',μ',h1,h2,h3,a3C h4⟩
theorem ZN(hW:aR n0 G μ H w) {e:TypeId} {ty:Ty} {l:List ty.den} {c':Nat} {os vs rest:Array Value} (hv:VRs w G μ (aK ty l) (os++vs).toList) (hneed:l.length<=c') (hr:rest.size=(c'-l.length)*ty.size) {s:Sem Value}
  (h:s.run P w=.ok (.slice (some ⟨w.heap.size,0,none⟩) l.length c') (w.drew.alloc (.cells (os++vs++rest) e))):xE P n0 w G μ s (.own H.length ty.size) (H++[some ⟨aK ty l,e,true,false,some ⟨ty,l⟩⟩]):=by
 have hW':aR n0 G μ H w.drew:=aK6 hW (w.drawn+1);have e1:Ext n0 w G μ w.drew G μ:=aRA (Nat.le_succ _);have hl:l.length*ty.size=(os++vs).size:=by have:=hv.length; rw[bW]at this; simpa using this
 have hk:=HX (on:=some l.length) hW' (os++vs++rest) ⟨aK ty l,e,true,false,some ⟨ty,l⟩⟩ (λj p hp=>by
  obtain⟨u,g1,g2⟩:=hv.get hp;refine⟨u,?_,VR.mono e1.toMono p u g2⟩;have hlt:j<(os++vs).size:=W
  rw[Array.getElem?_append_left hlt,<- Array.getElem?_toList];exact g1) (λh=>by cases h) rfl (λg hg=>by cases hg; exact⟨rfl,rfl⟩)
 refine⟨_,_,G,_,h,e1.trans (FD hW' _ _ _),hk,?_⟩;rw[VR,A8];simp only[Nat.zero_add];refine⟨l.length,qL _ _ _ _,.inr ⟨w.heap.size,c',lE _ _ _ _,rfl,hneed,⟨os++vs++rest,e,(0,0),?_,?_⟩,trivial⟩⟩
 ·show (w.heap.push _)[w.heap.size]?=_;simp
 ·rw[Array.size_append,<- hl,hr,<- Nat.add_mul];grind
theorem aTW(hW:aR n0 G μ H w) {e:TypeId} {ty:Ty} {l:List ty.den} (hl:l.length=0) {s:Sem Value} {ao:Option Addr} (h:s.run P w=.ok (.slice ao 0 0) w):xE P n0 w G μ s (.own H.length ty.size) (H++[some ⟨aK ty l,e,true,false,some ⟨ty,l⟩⟩]):=by
 obtain⟨e1,h1⟩:=sX (on:=some l.length) hW ⟨aK ty l,e,true,false,some ⟨ty,l⟩⟩ (λg hg=>by cases hg; exact⟨rfl,rfl⟩);refine⟨_,w,G,_,h,e1,h1,?_⟩;exact⟨l.length,qL _ _ _ _,.inl ⟨hl,ao,rfl⟩⟩
section
variable {t u e:TypeId} {i:TypeInfo} {z:Value} {d:TypeDesc} (ht:P.underlying t=some (.slice e)) (hu:P.underlying u=some d) (hd:∀ k,d≠.int k) (hi:P.info? e=some i) (hz:i.zero=some z)
include ht hu hd hi hz
theorem TI(hW:aR n0 G μ H w) {ty:Ty} (hsz:i.size=ty.size) (hb1:i.bytes<=65536) (hzs:z.cells.size=i.size) {x:Value} {new:List ty.den} {tt:TypeId} {ao:Option Addr} (hs:aI9 P w G μ ty x new) (hn:new.length<=1048576) :
  xE P n0 w G μ (Builtin.append_ #[t,u] tt #[.slice ao 0 0,x]) (.own H.length ty.size) (H++[some ⟨aK ty new,e,true,false,some ⟨ty,new⟩⟩]):=by
 obtain⟨s1,vs,s2,s3⟩:=hs;rw[<- hsz]at s3
 by_cases h0:new.length=0
 ·have hvs:vs=#[]:=by
   have:=s2.length;rw[bW,h0,Nat.zero_mul,Array.length_toList]at this;grind
  subst hvs;have:=C5 (w:=w) (w':=w) (ty:=tt) (ao:=ao) (l:=0) (c:=0) ht hu hd hi s1 Z (s3 w rfl) (by cases ao <;> simp[storeCells]);rw[h0]at this;exact aTW hW h0 this
 ·obtain⟨c',q1,q2⟩:=yY (w:=w) (ty:=tt) (ao:=ao) (l:=0) (c:=0) ht hu hd hi hz s1 Z hb1 hn Z (os:=#[]) s3 (λw1 _=>by
   cases ao with
   | none=>rfl
   | some a=>simp[Builtin.firstCells,loadCells,loadCellsFrom])
  rw[Nat.zero_add]at q1 q2;exact ZN hW (os:=#[]) (vs:=vs) (by simpa using s2) q1 (by rw[pR,hzs,hsz]) q2
theorem aMT(hW:aR n0 G μ H w) {ty:Ty} (hsz:i.size=ty.size) (hb1:i.bytes<=65536) (hzs:z.cells.size=i.size) {x:Value} {new l:List ty.den} {tt:TypeId} (hs:aI9 P w G μ ty x new) (hn:new.length<=1048576) (hl:l.length<=1048576)
  (hok:∀ vs:List Value,VRs w G μ (aK ty new) vs->∀ v∈vs,v.oneCell'=true)
  {r:Nat} {k:Blk} (hk:kK H r=some k) (hf:k.frozen=false) (hg:k.grown=true) (hte:k.ty=e) (htag:k.tag=some ⟨ty,l⟩) {b c:Nat} (hb:μ.loc r=some b) (hlc:l.length<=c) (hroom:Room w b (μ.sh r+c*ty.size)) {q:PV} (hq:q=.qs H.length ty.size\/q=.own H.length ty.size/\μ.sh r=0) :
  xE P n0 w G μ (Builtin.append_ #[t,u] tt #[.slice (some ⟨b,μ.sh r,none⟩) l.length c,x]) q (H.set r none++[some ⟨aK ty (l++new),e,true,false,some ⟨ty,l++new⟩⟩]):=by
 obtain⟨cs,g2,g3,g4,g5,g6⟩:=hW.blk r k b (aG hk) hb;obtain⟨ht1,ht2⟩:=hW.tags r k _ (aG hk) htag;simp only at ht1 ht2;rw[ht1]at g3;obtain⟨s1,vs,s2,s3⟩:=hs;rw[<- hsz]at s3;have hvl:new.length*ty.size=vs.size:=by have:=s2.length; rw[bW]at this; simpa using this
 obtain⟨i1,i2⟩:=IW g2 g3;have hel:=bW ty l;rw[hel]at i1 i2
 by_cases hfit:l.length+new.length<=c
 ·obtain⟨c2,t2,fr2,r1,r2⟩:=hroom;rw[g2]at r1; cases r1;have hmul:(l.length+new.length)*ty.size<=c*ty.size:=Nat.mul_le_mul_right _ hfit;rw[Nat.add_mul]at hmul;have hfs:Fits cs (μ.sh r+l.length*ty.size) vs.toList:=.inr (by simp only[Array.length_toList]; omega);obtain⟨w',h1,h2⟩:=vA (P:=P) (off:=μ.sh r+l.length*ty.size) vs.toList 0 w cs (hok _ s2) g2 hfs;rw[Nat.add_zero]at h2;have hszV:(sC cs (μ.sh r+l.length*ty.size) vs.toList).size=cs.size:=EG hfs
  have e1:=H6 hW (aG hk) hf hb g2 h2 hszV;have hW':=L6 (k':=⟨aK ty (l++new),e,true,false,none⟩) hW (aG hk) hf hb g2 (hte ▸ h2) hszV rfl (by
   refine zD (n:=l.length*ty.size+vs.size) h2.at_ (VRs.mono e1.toMono _ _ ?_);have h3:=i1.append s2;rw[<- sA]at h3;rw[JC (by simp only[Array.length_toList]; omega) Z,List.take_take,Nat.min_eq_left Z,@List.drop_eq_nil_of_le _ ((cs.toList.drop (μ.sh r)).take (l.length*ty.size+vs.size)) _ (by simp only[List.length_take,Array.length_toList]; omega),List.append_nil];exact h3) (λh=>by cases h) (λg hg=>by cases hg)
  have hrl:r<H.length:=(oO.1 (aG hk)).1;obtain⟨e3,hW''⟩:=RV (r:=r) (on:=some (l++new).length) hW' (List.getElem?_set_self hrl) hb (λg hg=>by cases hg);simp only[List.length_set,List.set_set]at e3 hW'';have hW3:aR n0 G (upd μ H.length (some b) (some (l++new).length) (μ.sh r)) (H.set r none++[some ⟨aK ty (l++new),e,true,false,some ⟨ty,l++new⟩⟩]) w':=by
   have hkill:=tY hW' r;simp only[List.set_set]at hkill;have hlen:(H.set r none).length=H.length:=R
   have e4:Ext n0 w' G μ w' G (upd μ (H.set r none).length (some b) (some (l++new).length) (μ.sh r)):=by rw[hlen]; exact e3
   have:=MG hkill e4 ⟨aK ty (l++new),e,true,false,some ⟨ty,l++new⟩⟩ (λ_ _ _ _ _=>rfl) (by
    rintro b' hb';cases hb';obtain⟨c9,k2,k3,k4,k5,k6⟩:=hW'.blk r _ b (List.getElem?_set_self hrl) hb;exact⟨c9,k2,aM.mono e4.toMono rfl _ _ k3,λh=>(by cases h),λh=>(by cases h),k6⟩) (λg hg=>by cases hg; exact⟨rfl,rfl⟩) (by
    intro s k' b' hs hf' hb' hh;cases hh;obtain⟨hs1,hs2⟩:=uV hs;exact hs2 (hW.inj s r k' k b hs1 (aG hk) hf' hf hb' hb))
    (O7 hkill e4 (λt l h1 h2=>by cases h1) (λ_ _ _=>rfl) (λj b1 hj _ hh=>by cases hh; exact(hW'.rows.sep j b hj).2.2.2 r _ (List.getElem?_set_self hrl) rfl hb))
   rwa[hlen]at this
  have hrun:=C5 (w:=w) (w':=w') (ty:=tt) (ao:=some ⟨b,μ.sh r,none⟩) ht hu hd hi s1 hfit (s3 w rfl) (by simp only[Addr.add_lit,hsz]; exact h1);refine⟨_,w',G,_,hrun,e1.trans e3,hW3,?_⟩;have hR:Room w' b (μ.sh r+c*ty.size):=⟨_,_,_,h2.at_,by rw[hszV]; exact r2⟩;rcases hq with rfl|⟨rfl,hs0⟩
  ·rw[VR,A8];exact⟨_,qL _ _ _ _,.inr ⟨b,c,lE _ _ _ _,by rw[oH],by rw[oH]; exact hfit,hR⟩⟩
  ·rw[VR,A8];exact⟨_,qL _ _ _ _,.inr ⟨b,c,lE _ _ _ _,by rw[oH],by rw[oH]; exact hfit,hR,hs0⟩⟩
 ·obtain⟨os,o1,o2⟩:=(C3 (P:=P) (c:=c) g3 (bW _ _):Source P w G μ ty.size (.slice (some ⟨b,μ.sh r,none⟩) l.length c) _ l.length).2.2 l.length (oM _);rw[List.take_of_length_le (by rw[hel]; exact oM _)]at o1;rw[<- hsz]at o2;obtain⟨c',q1,q2⟩:=yY (w:=w) (ty:=tt) (ao:=some ⟨b,μ.sh r,none⟩) ht hu hd hi hz s1 hfit hb1 hn hl s3 o2;have hlen:(H.set r none).length=H.length:=R
  have:=ZN (tY hW r) (e:=e) (ty:=ty) (l:=l++new) (c':=c') (os:=os) (vs:=vs) (rest:=Builtin.zeroCells z.cells (c'-(l.length+new.length))) (by rw[sA,Array.toList_append]; exact o1.append s2) (by rw[oH]; exact q1) (by rw[pR,hzs,hsz,oH]) (s:=Builtin.append_ #[t,u] tt #[.slice (some ⟨b,μ.sh r,none⟩) l.length c,x]) (by rw[oH]; exact q2);rw[hlen]at this;rcases hq with rfl|⟨rfl,_⟩
  ·exact this.qs
  ·exact this
omit hz in
theorem aX6(hW:aR n0 G μ H w) {ty:Ty} (hsz:i.size=ty.size) {x:Value} {new l:List ty.den} {tt:TypeId} (hs:aI9 P w G μ ty x new)
  (hok:∀ vs:List Value,VRs w G μ (aK ty new) vs->∀ v∈vs,v.oneCell'=true)
  {r lo n:Nat} {k:Blk} (hk:kK H r=some k) (hf:k.frozen=false) (hte:k.ty=e) (htag:k.tag=some ⟨ty,l⟩) {b c m:Nat} (hb:μ.loc r=some b) (hroom:Room w b (μ.sh r+(lo+c)*ty.size)) (hm:μ.len r=some m) (hcap:m<=lo+c) (hs0:μ.sh r=0) (hfit:lo+n+new.length<=l.length) :
  xE P n0 w G μ (Builtin.append_ #[t,u] tt #[.slice (some ⟨b,μ.sh r+lo*ty.size,none⟩) n c,x]) (.win r lo (n+new.length) ty.size) (H.set r (some { k with cells:=aK ty (spl l (lo+n) new),tag:=some ⟨ty,spl l (lo+n) new⟩ })):=by
 obtain⟨ht1,ht2⟩:=hW.tags r k _ (aG hk) htag;rw[hm]at ht2;cases ht2;obtain⟨s1,vs,s2,s3⟩:=hs;rw[<- hsz]at s3;obtain⟨w',h1,e1,hW'⟩:=aVX (P:=P) hW s2 (hok _ s2) hk hf htag hb hfit;have hrun:=C5 (w:=w) (w':=w') (ty:=tt) (ao:=some ⟨b,μ.sh r+lo*ty.size,none⟩) (l:=n) (c:=c) ht hu hd hi s1 (by simp only at hcap; omega) (s3 w rfl) (by simp only[Addr.add_lit,hsz,Nat.add_assoc,<- Nat.add_mul]; exact h1);refine⟨_,w',G,μ,hrun,e1,hW',?_⟩
 rw[VR];exact⟨b,c,l.length,hb,rfl,by simp only at hcap; omega,e1.room _ _ hroom,hm,by omega,hcap,hs0⟩
end
theorem aVW:∀ t x vs,VRs w G μ (enc t x) vs->∀ v∈vs,v.oneCell'=true
 | .int k,x,vs,h,v,hv=>by obtain⟨u,rfl,h1⟩:=P7 h; rw[VR]at h1; subst h1; rcases List.mem_singleton.1 hv with rfl; rfl
 | .bool,x,vs,h,v,hv=>by obtain⟨u,rfl,h1⟩:=P7 h; subst h1; rcases List.mem_singleton.1 hv with rfl; rfl
 | .str,x,vs,h,v,hv=>by obtain⟨u,rfl,h1⟩:=P7 h; rw[VR]at h1; subst h1; rcases List.mem_singleton.1 hv with rfl; rfl
 | .list t,x,vs,h,v,hv=>by
  obtain⟨u,rfl,h1⟩:=P7 h;obtain⟨_,_,rfl⟩:=aPF h1;rcases List.mem_singleton.1 hv with rfl; rfl
 | .hnd sz,x,vs,h,v,hv=>by
  obtain⟨u,rfl,h1⟩:=P7 h;obtain⟨_,_,rfl,_⟩:=h1;rcases List.mem_singleton.1 hv with rfl; rfl
 | .smap,x,vs,h,v,hv=>by
  obtain⟨u,rfl,h1⟩:=P7 h;obtain⟨_,_,_,rfl,_⟩:=h1;rcases List.mem_singleton.1 hv with rfl; rfl
 | .rows t,x,vs,h,v,hv=>by obtain⟨u,rfl,h1⟩:=P7 h; rw[VR]at h1; subst h1; rcases List.mem_singleton.1 hv with rfl; rfl
 | .prod a b,(x,y),vs,h,v,hv=>by
  simp only[enc]at h;have h1:=h.take (enc a x).length;have h2:=h.drop (enc a x).length;rw[List.take_left]at h1;rw[List.drop_left]at h2;rw[<- List.take_append_drop (enc a x).length vs]at hv;rcases List.mem_append.1 hv with hv|hv
  ·exact aVW a x _ h1 v hv
  ·exact aVW b y _ h2 v hv
theorem PL t:∀ l vs,VRs w G μ (aK t l) vs->∀ v∈vs,v.oneCell'=true
 | [],vs,h,v,hv=>by simp only[aK,List.flatMap_nil]at h; subst h; grind
 | x::l,vs,h,v,hv=>by
  rw[yH]at h;have h1:=h.take (enc t x).length;have h2:=h.drop (enc t x).length;rw[List.take_left]at h1;rw[List.drop_left]at h2;rw[<- List.take_append_drop (enc t x).length vs]at hv;rcases List.mem_append.1 hv with hv|hv
  ·exact aVW t x _ h1 v hv
  ·exact PL t l _ h2 v hv
theorem O6 {H1 e ty l cs0 cs v H' c}(h:aJ7 H1 e ty l cs0=some (cs,v,H',c)):cs=cs0/\v=.own H1.length ty.size/\H'=H1++[some ⟨aK ty l,e,true,false,some ⟨ty,l⟩⟩]/\c=2:=by
 obtain⟨rfl,rfl,rfl,rfl⟩:=h;simp
set_option maxHeartbeats 1000000 in
theorem aSL(hW:aR n0 G μ H w) {tys:Array TypeId} {tt:TypeId} {p q v:PV} {s x:Value} {cs:List Bool} {H':Heap} {c:Nat} (hp:VR w G μ p s) (hq:VR w G μ q x) (hok:B3 (aRO H q)=true) (h:aI8 P H tys p q=some (cs,v,H',c)) (hcs:B3 cs=true) :
  c=2/\xE P n0 w G μ (Builtin.append_ tys tt #[s,x]) v H':=by
 unfold aI8 at h;split at h
 next t u htys=>
  have htys:tys=#[t,u]:=by apply Array.ext'; simpa using htys
  subst htys;split at h
  ·cases h
  ·cases h
  next d hnot hu=>
   have hd:∀ k,d≠.int k:=λk hk=>hnot k hk
   split at h
   ·rename_i e ty hel;obtain⟨ht,hsz0⟩:=AY hel;split at h
    ·rename_i i hi;have hsz:=PI hsz0 hi;split at h
     ·rename_i z hz;cases hb:(Nat.ble i.bytes 65536&&Nat.beq z.cells.size i.size)with
      | false=>rw[hb]at h; cases h
      | true =>
       rw[hb]at h;simp only[oC]at h;simp only[oA]at hb;have hb1:=oL hb.1;have hzs:=oE hb.2;split at h
       ·rename_i new hnew;have hs:=P9 (P:=P) hW hq hok hnew;split at h
        ·rename_i m c0;cases hm:(Nat.beq m 0&&Nat.beq c0 0)with
         | false=>rw[hm]at h; cases h
         | true =>
          rw[hm]at h;simp only[oC]at h;simp only[oA]at hm;have e1:=oE hm.1;have e2:=oE hm.2;subst e1; subst e2;obtain⟨rfl,rfl,rfl,rfl⟩:=O6 h;rw[VR]at hp;subst hp;exact⟨rfl,TI ht hu hd hi hz hW hsz hb1 hzs hs (oL (aN hcs).1)⟩
        ·rename_i r sz;split at h
         ·rename_i k hk;split at h
          ·rename_i g hg;obtain⟨gt,gl⟩:=g;split at h
           ·rename_i l hl;obtain⟨rfl,rfl⟩:=qQ hl;cases hm:(Nat.beq sz gt.size&&!k.frozen&&Nat.beq k.ty e&&k.grown)with
            | false=>rw[hm]at h; cases h
            | true =>
             rw[hm]at h;simp only[oC]at h;simp only[oA,Bool.not_eq_true']at hm;obtain⟨⟨⟨m1,m2⟩,m3⟩,m4⟩:=hm;have m1:=oE m1;have m3:=oE m3;subst m1;obtain⟨rfl,rfl,rfl,rfl⟩:=O6 h;refine⟨rfl,?_⟩;obtain⟨c1,hcs⟩:=aN hcs;obtain⟨c2,_⟩:=aN hcs;obtain⟨ht1,ht2⟩:=hW.tags r k _ (aG hk) hg;have hlenset:(H.set r none).length=H.length:=R
             rw[VR]at hp;obtain⟨n,h1,h2⟩:=hp;simp only at ht2;rw[ht2]at h1;cases h1;rcases h2 with ⟨h2,ao,rfl⟩|⟨b,cc,h3,rfl,h5,h6⟩
             ·have hnil:gl=[]:=List.eq_nil_of_length_eq_zero h2;subst hnil;have:=TI (tt:=tt) (ao:=ao) (e:=e) ht hu hd hi hz (tY hW r) hsz hb1 hzs hs (oL c1);simpa using this
             ·rw[hlenset];exact aMT ht hu hd hi hz hW hsz hb1 hzs hs (oL c1) (oL c2) (λvs h=>PL _ _ vs h) hk m2 m4 m3 hg h3 h5 h6.1 (.inr ⟨rfl,h6.2⟩)
           ·cases h
          ·cases h
         ·cases h
        ·rename_i r lo n sz;split at h
         ·rename_i k hk;split at h
          ·rename_i g hg;obtain⟨gt,gl⟩:=g;split at h
           ·rename_i l hl;obtain⟨rfl,rfl⟩:=qQ hl;cases hm:(Nat.beq sz gt.size&&!k.frozen&&Nat.beq k.ty e)with
            | false=>rw[hm]at h; cases h
            | true =>
             rw[hm]at h;simp only[oC,oJ,oP]at h;obtain⟨rfl,rfl,rfl,rfl⟩:=h;simp only[oA,Bool.not_eq_true']at hm;obtain⟨⟨m1,m2⟩,m3⟩:=hm;have m1:=oE m1;have m3:=oE m3;subst m1;refine⟨rfl,?_⟩;have c1:=oL (aN hcs).1;rw[VR]at hp;obtain⟨b,cc,m,h3,rfl,h5,h6,h7,_,h8,h9⟩:=hp;exact aX6 ht hu hd hi hW hsz hs (λvs h=>PL _ _ vs h) hk m2 m3 hg h3 h6 h7 h8 h9 c1
           ·cases h
          ·cases h
         ·cases h
        ·rename_i u' l0 c0 ee;split at h
         ·rename_i l hl;obtain⟨rfl,rfl⟩:=qQ hl;have hv:=XQ hp;rw[VR]at hv;obtain⟨ao,cc,rfl,h2,h3,h4⟩:=hv;have:=h3 c0 rfl;subst this;obtain⟨rfl,rfl,rfl,rfl⟩:=O6 h;refine⟨rfl,?_⟩;obtain⟨c1,hcs⟩:=aN hcs;obtain⟨c2,hcs⟩:=aN hcs;obtain⟨c3,_⟩:=aN hcs;cases hc0:Nat.beq cc 0 with
          | true =>
           have hc0:=oE hc0;subst hc0;obtain rfl:=List.eq_nil_of_length_eq_zero (show l0.length=0 by omega);exact TI ht hu hd hi hz hW hsz hb1 hzs hs (oL c1)
          | false =>
           rw[hc0,Bool.false_or]at c3;have c3:=jN c3;obtain⟨s1,vs,s2,s3⟩:=hs;obtain⟨os,o1,o2⟩:=(aMY (P:=P) (μ:=μ) (XQ hp).aW (bW _ _)).2.2 l0.length (oM _);rw[List.take_of_length_le (by rw[bW]; exact oM _)]at o1;rw[<- hsz]at s3 o2;obtain⟨c',q1,q2⟩:=yY (w:=w) (ty:=tt) (ao:=ao) ht hu hd hi hz s1 Z hb1 (oL c1) (oL c2) s3 o2;exact ZN hW (e:=e) (l:=l0++new) (c':=c') (os:=os) (vs:=vs) (by rw[sA,Array.toList_append]; exact o1.append s2) (by rw[oH]; exact q1) (by rw[pR,hzs,hsz,oH]) (by rw[oH]; exact q2)
         ·cases h
        ·cases h
       ·cases h
     ·cases h
    ·cases h
   ·cases h
 ·cases h
set_option maxHeartbeats 1000000 in
theorem aPU(hW:aR n0 G μ H w) {tys:Array TypeId} {tt:TypeId} {p q v:PV} {s x:Value} {cs:List Bool} {H':Heap} {c:Nat} (hp:VR w G μ p s) (hq:VR w G μ q x) (hok:B3 (aRO H q)=true) (h:aDW P H tys p q=some (cs,v,H',c)) (hcs:B3 cs=true) :
  c=2/\xE P n0 w G μ (Builtin.append_ tys tt #[s,x]) v H':=by
 unfold aDW at h;split at h
 next t u htys=>
  have htys:tys=#[t,u]:=by apply Array.ext'; simpa using htys
  subst htys;split at h
  ·cases h
  ·cases h
  next d hnot hu=>
   have hd:∀ k,d≠.int k:=λk hk=>hnot k hk
   split at h
   ·rename_i e ty hel;obtain⟨ht,hsz0⟩:=AY hel;split at h
    ·rename_i i hi;have hsz:=PI hsz0 hi;split at h
     ·rename_i z hz;cases hb:(Nat.ble i.bytes 65536&&Nat.beq z.cells.size i.size)with
      | false=>rw[hb]at h; cases h
      | true =>
       rw[hb]at h;simp only[oC]at h;simp only[oA]at hb;have hb1:=oL hb.1;have hzs:=oE hb.2;split at h
       ·rename_i new hnew;have hs:=P9 (P:=P) hW hq hok hnew;split at h
        ·rename_i r sz;split at h
         ·rename_i k hk;split at h
          ·rename_i g hg;obtain⟨gt,gl⟩:=g;split at h
           ·rename_i l hl;obtain⟨rfl,rfl⟩:=qQ hl;cases hm:(Nat.beq sz gt.size&&!k.frozen&&Nat.beq k.ty e&&k.grown)with
            | false=>rw[hm]at h; cases h
            | true =>
             rw[hm]at h;simp only[oC,oJ,oP]at h;simp only[oA,Bool.not_eq_true']at hm;obtain⟨⟨⟨m1,m2⟩,m3⟩,m4⟩:=hm;have m1:=oE m1;have m3:=oE m3;subst m1;obtain⟨rfl,rfl,rfl,rfl⟩:=h;refine⟨rfl,?_⟩;obtain⟨c1,hcs⟩:=aN hcs;obtain⟨c2,_⟩:=aN hcs;obtain⟨ht1,ht2⟩:=hW.tags r k _ (aG hk) hg;have hlenset:(H.set r none).length=H.length:=R
             rw[VR]at hp;obtain⟨n,h1,h2⟩:=hp;simp only at ht2;rw[ht2]at h1;cases h1;rcases h2 with ⟨h2,ao,rfl⟩|⟨b,cc,h3,rfl,h5,h6⟩
             ·have hnil:gl=[]:=List.eq_nil_of_length_eq_zero h2;subst hnil;have:=(TI (tt:=tt) (ao:=ao) (e:=e) ht hu hd hi hz (tY hW r) hsz hb1 hzs hs (oL c1)).qs;simpa using this
             ·exact aMT ht hu hd hi hz hW hsz hb1 hzs hs (oL c1) (oL c2) (λvs h=>PL _ _ vs h) hk m2 m4 m3 hg h3 h5 h6 (.inl rfl)
           ·cases h
          ·cases h
         ·cases h
        ·cases h
       ·cases h
     ·cases h
    ·cases h
   ·cases h
 ·cases h
theorem aSG {F:Frm} {a:Act} {nt:Nat} (hW:aR n0 G μ H w) (hF:iV w G μ nt F a) {t:TypeId} {p v:PV} {x:Value} {lo hi:Option Operand} {cs:List Bool} {H':Heap} {c:Nat} (hp:VR w G μ p x) (h:aIW P H t p (lo.map (ev F)) (hi.map (ev F))=some (cs,v,H',c)) (hcs:B3 cs=true) :
  c=2/\xE P n0 w G μ (Instr.sliceAt t x (lo.map a.eval) (hi.map a.eval) none) v H':=by
 unfold aIW at h;split at h
 next e hu=>
  split at h
  next n hs=>
   split at h
   ·rename_i r sz;split at h
    ·rename_i k hk;split at h
     ·rename_i g hg;split at h
      ·rename_i b1 i b2 j h1 h2;obtain⟨hb,h⟩:=sR h;obtain⟨rfl,rfl,rfl,rfl⟩:=h;refine⟨rfl,?_⟩;simp only[oA,Bool.not_eq_true']at hb;obtain⟨⟨⟨m1,m2⟩,m3⟩,m4⟩:=hb;have m1:=oE m1;have m2:=oE m2;subst m1;obtain⟨c1,hcs⟩:=aN hcs;obtain⟨c2,hcs⟩:=aN hcs;obtain⟨c3,hcs⟩:=aN hcs;obtain⟨c4,_⟩:=aN hcs;have hij:=oL c3;have hjl:=oL c4;obtain⟨ht1,ht2⟩:=hW.tags r k g (aG hk) hg;obtain⟨gt,gl⟩:=g;dsimp only at m2 hjl ht1 ht2 h2 ⊢
       subst m2;obtain⟨m,e1,e2⟩:=hp;rw[ht2]at e1;cases e1;have hlen:((gl.drop i).take (j-i)).length=j-i:=by simp; omega
       have hlenset:(H.set r none).length=H.length:=R
       have hkill:=tY hW r;have run:∀ ao c',gl.length<=c'->x=.slice ao gl.length c'->(Instr.sliceAt t x (lo.map a.eval) (hi.map a.eval) none).run P w=.ok (.slice (if c'=i then ao else ao.map (·.add (i*gt.size))) (j-i) (c'-i)) w:=λao c' hc hx=>by
        subst hx;have hr:=wW (P:=P) (isSlice:=true) (IC hF (vF h1 c1)) (IC hF (vF h2 c2)) hij (oR hjl hc) w;simp[Instr.sliceAt,Instr.slice,run_underlying hu,hr,run_sizeOf hs]
       have fin:∀ (ob:Option Nat) (o:Nat) (v':Value),(Instr.sliceAt t x (lo.map a.eval) (hi.map a.eval) none).run P w=.ok v' w->Ext n0 w G μ w G (upd μ H.length ob (some (j-i)) o)->aR n0 G (upd μ H.length ob (some (j-i)) o) (H.set r none++[some ⟨aK gt ((gl.drop i).take (j-i)),k.ty,true,false,some ⟨gt,(gl.drop i).take (j-i)⟩⟩]) w ->
         ((j-i=0/\∃ ao,v'=.slice ao 0 0)\/∃ b c,ob=some b/\v'=.slice (some ⟨b,o,none⟩) (j-i) c/\j-i<=c/\Room w b (o+c*gt.size)) ->
         xE P n0 w G μ (Instr.sliceAt t x (lo.map a.eval) (hi.map a.eval) none) (.qs H.length gt.size) (H.set r none++[some ⟨aK gt ((gl.drop i).take (j-i)),k.ty,true,false,some ⟨gt,(gl.drop i).take (j-i)⟩⟩]):=λob o v' hrun he hw hv=>by
        refine⟨v',w,G,_,hrun,he,hw,?_⟩;rw[VR,lE,A8];exact⟨_,qL ..,hv⟩
       cases hls:μ.loc r with
       | none =>
        rcases e2 with ⟨e2,ao,hx⟩|⟨b,c',e3,_⟩
        ·obtain⟨u1,u2⟩:=sX hkill (on:=some (j-i)) ⟨aK gt ((gl.drop i).take (j-i)),k.ty,true,false,some ⟨gt,(gl.drop i).take (j-i)⟩⟩ (λg hg=>by cases hg; exact⟨rfl,by rw[hlen]⟩);rw[hlenset]at u1 u2;have hj0:j-i=0:=Z
         refine fin none 0 _ (run ao 0 Z (by rw[e2]; exact hx)) u1 u2 (.inl ⟨hj0,_,by rw[hj0,Nat.zero_sub]⟩)
        ·rw[hls]at e3; cases e3
       | some b =>
        obtain⟨cc,a1,a2,a3,a4,a5⟩:=hW.blk r k b (aG hk) hls;rw[ht1]at a2;have he1:=LG hW (some b) (some (j-i)) (μ.sh r+i*gt.size);have he2:Ext n0 w G μ w G (upd μ (H.set r none).length (some b) (some (j-i)) (μ.sh r+i*gt.size)):=by rw[hlenset]; exact he1
        have hw2:=MG hkill he2 ⟨aK gt ((gl.drop i).take (j-i)),k.ty,true,false,some ⟨gt,(gl.drop i).take (j-i)⟩⟩ (λ_ _ _ _ _=>rfl) (by
          rintro b' hb';cases hb';refine⟨cc,a1,?_,λh=>(by cases h),λh=>(by cases h),λ_=>a5 m3⟩;have h7:=a2.sub (i*gt.size) ((j-i)*gt.size);rw[u9,rA]at h7;exact aM.mono he2.toMono rfl _ _ h7) (λg hg=>by cases hg; exact⟨rfl,by rw[hlen]⟩) (by
          intro s k' b' hs' hf' hb' hh;cases hh;obtain⟨hs1,hs2⟩:=uV hs';exact hs2 (hW.inj s r k' k b hs1 (aG hk) hf' m3 hb' hls))
         (O7 hkill he2 (λt l h1 h2=>by cases h1) (λ_ _ _=>rfl) (λj b1 hj _ hh=>by cases hh; exact(hW.rows.sep j b hj).2.2.2 r k (aG hk) m3 hls))
        rw[hlenset]at hw2;rcases e2 with ⟨e2,ao,hx⟩|⟨b',c',e3,hx,e5,e6⟩
        ·have hj0:j-i=0:=Z
         exact fin _ _ _ (run ao 0 Z (by rw[e2]; exact hx)) he1 hw2 (.inl ⟨hj0,_,by rw[hj0,Nat.zero_sub]⟩)
        ·rw[hls]at e3; cases e3;refine fin _ _ _ (run _ c' e5 hx) he1 hw2 ?_
         by_cases hc:c'=i
         ·have hj0:j-i=0:=Z
          have hc0:c'-i=0:=Z
          exact .inl ⟨hj0,_,by rw[hj0,hc0]⟩
         ·refine .inr ⟨b,c'-i,rfl,by rw[if_neg hc]; simp[Addr.add_lit],by omega,?_⟩;have:μ.sh r+i*gt.size+(c'-i)*gt.size=μ.sh r+c'*gt.size:=by rw[Nat.add_assoc,<- Nat.add_mul]; congr 2; omega
          rw[this]; exact e6
      ·cases h
     ·cases h
    ·cases h
   ·cases h
  ·cases h
 ·cases h
end
end Go.PM
