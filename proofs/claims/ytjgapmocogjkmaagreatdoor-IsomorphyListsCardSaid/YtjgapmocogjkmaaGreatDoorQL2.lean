/- Texts of one proof, joined (2). -/
import Derived.Laws.Strings
import Derived.Test.YtjgapmocogjkmaaGreatDoorQL1
set_option linter.unusedSimpArgs false
set_option linter.unusedVariables false
namespace Go.PM
open Go Go.RowKit
section
variable {P : Program} {n0 : Nat→Prop} {w : World} {G : Gd} {μ : Mp} {H : Heap}
def Source (P : Program) (w : World) (G : Gd) (μ : Mp) (sz : Nat) (v : Value) (new : List PV) (n : Nat) : Prop :=
 (∀ w1 : World,(Builtin.lenOf v).run P w1 = .ok n w1)∧new.length = n * sz ∧
  ∀ m,m ≤ n→∃ vs : Array Value,VRs w G μ (new.take (m * sz)) vs.toList∧∀ w1 : World,w1.heap = w.heap→(Builtin.firstCells sz m v).run P w1 = .ok vs w1
theorem aGA {w1 : World} (h : w1.heap = w.heap) (p : Addr) : w1.cell? p = w.cell? p:=by simp [World.cell?,h]
theorem rK {b off n c sz : Nat} {cs : List PV} (hc : aP w G μ b off cs) (hl : cs.length = n * sz) : Source P w G μ sz (.slice (some ⟨b,off,none⟩) n c) cs n:=by
 refine ⟨fun w1=>rfl,hl,fun m hm=>?_⟩
 obtain ⟨vs,h1,h2⟩:=(hc.take (m * sz)).values
 have hvl:=h1.length
 rw [List.length_take,hl,Nat.min_eq_left (Nat.mul_le_mul_right _ hm)] at hvl
 refine ⟨vs.toArray,by simpa using h1,fun w1 hw=>?_⟩
 have:=run_loadCells (P:=P) (w:=w1) (b:=b) (off:=off) (vs:=vs) fun j hj=>by rw [aGA hw]; exact h2 j hj
 rw [← hvl] at this
 exact this
theorem OL (hW : aV n0 G μ H w) {sz n : Nat} {p : PV} {new : List PV} {v : Value} (hp : VR w G μ p v) (h : Y3 H sz p = some (new,n)) : Source P w G μ sz v new n:=by
 unfold Y3 at h
 split at h
 ·rename_i cs n' cap
  cases hb : Nat.beq cs.length (n' * sz) with
  | false=>rw [hb] at h; cases h
  | true =>
   rw [hb] at h
   simp only [cond_true,Option.some.injEq,Prod.mk.injEq] at h
   obtain ⟨rfl,rfl⟩:=h
   have hb:=Nat.eq_of_beq_eq_true hb
   rw [VR] at hp
   obtain ⟨ao,c,rfl,_,_,h3⟩:=hp
   rcases h3 with rfl | ⟨b,off,rfl,_,hc⟩
   ·refine ⟨fun w1=>rfl,hb,fun m hm=>⟨#[],by simp [VRs],fun w1 _=>?_⟩⟩
    have h0 : m * sz = 0:=by
     have:=Nat.mul_le_mul_right sz hm
     simp only [List.length_nil] at hb
     omega
    cases ao with
    | none=>rfl
    | some a=>simp [Builtin.firstCells,h0,loadCells,loadCellsFrom]
   ·exact rK hc.bD hb
 ·rename_i r off n' cap sz'
  split at h
  ·rename_i k hk
   cases hb : Nat.ble (off + n' * sz) k.cells.length with
   | false=>rw [hb] at h; cases h
   | true =>
    rw [hb] at h
    simp only [cond_true,Option.some.injEq,Prod.mk.injEq] at h
    obtain ⟨rfl,rfl⟩:=h
    have hb:=Nat.le_of_ble_eq_true hb
    rw [VR] at hp
    obtain ⟨b,c,hμ,rfl,_⟩:=hp
    obtain ⟨c',g2,g3,_⟩:=hW.blk r k b (aO hk) hμ
    have:=g3.sub off (n' * sz)
    rw [Nat.zero_add] at this
    exact rK this (by simp; omega)
  ·cases h
 ·rename_i n' c
  cases hb : Nat.beq n' 0 with
  | false=>rw [hb] at h; cases h
  | true =>
   rw [hb] at h
   simp only [cond_true,Option.some.injEq,Prod.mk.injEq] at h
   obtain ⟨rfl,rfl⟩:=h
   have hb:=Nat.eq_of_beq_eq_true hb
   subst hb
   rw [VR] at hp
   subst hp
   exact ⟨fun w1=>rfl,by simp,fun m hm=>⟨#[],by simp [VRs],fun w1 _=>rfl⟩⟩
 ·rename_i s
  cases hb : Nat.beq sz 1 with
  | false=>rw [hb] at h; cases h
  | true =>
   rw [hb] at h
   simp only [cond_true,Option.some.injEq,Prod.mk.injEq] at h
   obtain ⟨rfl,rfl⟩:=h
   have hb:=Nat.eq_of_beq_eq_true hb
   subst hb
   rw [VR] at hp
   subst hp
   have hsz : s.data.size = s.size:=rfl
   refine ⟨fun w1=>rfl,by simp [aPB,hsz],fun m hm=>⟨(s.extract 0 m).data.map fun b=>.int .u8 b.toNat,?_,fun w1 _=>rfl⟩⟩
   have:=VRs.lits (w:=w) (G:=G) (μ:=μ) ((s.data.toList.take m).map fun b=>Value.int .u8 b.toNat)
   simpa [aPB,List.map_take,List.map_map,Function.comp_def] using this
 ·cases h

theorem FO {u : TypeId} {d : TypeDesc} (h : P.underlying u = some d) (hd : ∀ k,d ≠ .int k) (w1 : World) :
  (do pure ((← underlying u) matches .int _) : Sem Bool).run P w1 = .ok false w1:=by
 simp only [Sem.run_bind,run_underlying h,Result.andThen_ok,Sem.run_pure]

section
variable {t u e : TypeId} {i : TypeInfo} {z : Value} {d : TypeDesc} (ht : P.underlying t = some (.slice e)) (hu : P.underlying u = some d) (hd : ∀ k,d ≠ .int k) (hi : P.info? e = some i)
include ht hu hd hi
theorem oF {x : Value} {n l c : Nat} {ty : TypeId} {ao : Option Addr} (hlen : ∀ w1 : World,(Builtin.lenOf x).run P w1 = .ok n w1) (hfit : l + n ≤ c) {vs : Array Value} (hx : (Builtin.firstCells i.size n x).run P w = .ok vs w) {w' : World}
  (hst : match ao with | some a=>(storeCells (a.add (l * i.size)) vs.toList).run P w = .ok () w' | none=>w' = w) :
  (Builtin.append_ #[t,u] ty #[.slice ao l c,x]).run P w = .ok (.slice ao (l + n) c) w':=by
 have hsz : (sizeOf e).run P w = .ok i.size w:=by simp [sizeOf,pQ hi]
 have hb:=FO hu hd w
 have q0 : (#[t,u] : Array TypeId)[0]? = some t:=rfl
 have q1 : (#[t,u] : Array TypeId)[1]? = some u:=rfl
 have q2 : (#[Value.slice ao l c,x] : Array Value)[0]? = some (Value.slice ao l c):=rfl
 have q3 : (#[Value.slice ao l c,x] : Array Value)[1]? = some x:=rfl
 unfold Builtin.append_
 simp only [q0,q1,q2,q3,Sem.run_bind,run_underlying ht,Result.andThen_ok,hsz,hb,hlen]
 simp only [Sem.run_bind,Sem.run_pure,run_underlying hu,Result.andThen_ok]
 have hm : (match (generalizing:=false) d with | .int _=>true | _=>false) = false:=by cases d <;> first | rfl | exact absurd rfl (hd _)
 simp only [hm,Bool.false_eq_true,if_false,hlen,Result.andThen_ok,if_pos hfit,Bool.not_false,if_true,hx,Sem.run_bind]
 cases ao with
 | none=>simp only at hst; subst hst; simp
 | some a=>simp only at hst; simp [hst]
theorem lY (hz : i.zero = some z) {x : Value} {n l c : Nat} {ty : TypeId} {ao : Option Addr} (hlen : ∀ w1 : World,(Builtin.lenOf x).run P w1 = .ok n w1) (hfit : ¬ l + n ≤ c) (hb1 : i.bytes ≤ 65536) (hb2 : n ≤ 1048576) (hb3 : l ≤ 1048576)
  {vs os : Array Value} (hx : ∀ w1 : World,w1.heap = w.heap→(Builtin.firstCells i.size n x).run P w1 = .ok vs w1) (ho : ∀ w1 : World,w1.heap = w.heap→(Builtin.firstCells i.size l (.slice ao l c)).run P w1 = .ok os w1) :
  ∃ c',l + n ≤ c'∧(Builtin.append_ #[t,u] ty #[.slice ao l c,x]).run P w = .ok (.slice (some ⟨w.heap.size,0,none⟩) (l + n) c') (w.drew.alloc (.cells (os ++ vs ++ Builtin.zeroCells z.cells (c' - (l + n))) e)):=by
 have hsz : (sizeOf e).run P w = .ok i.size w:=by simp [sizeOf,pQ hi]
 have hb:=FO hu hd w
 have q0 : (#[t,u] : Array TypeId)[0]? = some t:=rfl
 have q1 : (#[t,u] : Array TypeId)[1]? = some u:=rfl
 have q2 : (#[Value.slice ao l c,x] : Array Value)[0]? = some (Value.slice ao l c):=rfl
 have q3 : (#[Value.slice ao l c,x] : Array Value)[1]? = some x:=rfl
 have hcap : Builtin.nextslicecap (l + n) c * i.bytes ≤ 281474976710656:=by
  have h1:=nextslicecap_le (need:=l + n) (old:=c) (by omega)
  have h2 : Builtin.nextslicecap (l + n) c * i.bytes ≤ 4194304 * 65536:=Nat.mul_le_mul (by omega) hb1
  omega
 have hcap' : ¬ (Builtin.nextslicecap (l + n) c * i.bytes > 2 ^ 48):=by omega
 have hmax : IntKind.i64.max = 9223372036854775807:=rfl
 have h63 : ¬ (((l + n : Nat) : Int) > IntKind.i64.max∧(false = true ∨ i.bytes = 0)):=by rw [hmax]; omega
 refine ⟨grownCap w (l + n) c e,?_,?_⟩
 ·simp only [grownCap,Question.cut]; omega
 ·unfold Builtin.append_
  simp only [q0,q1,q2,q3,Sem.run_bind,run_underlying ht,Result.andThen_ok,hsz,hb,hlen]
  simp only [Sem.run_bind,Sem.run_pure,run_underlying hu,Result.andThen_ok]
  have hm : (match (generalizing:=false) d with | .int _=>true | _=>false) = false:=by cases d <;> first | rfl | exact absurd rfl (hd _)
  simp only [hm,Bool.false_eq_true,if_false,hlen,Result.andThen_ok,if_neg hfit,Bool.not_false,if_true]
  have h63' : ¬ (((l + n : Nat) : Int) > IntKind.i64.max∧(False ∨ i.bytes = 0)):=by rw [hmax]; omega
  simp only [Sem.run_bind,hlen,Result.andThen_ok,if_neg hfit,pQ hi]
  rw [if_neg h63']
  have e1:=hx w.drew rfl
  have e2:=ho w.drew rfl
  simp only [World.drew] at e1 e2
  simp only [Sem.run_bind,pQ hi,Result.andThen_ok,if_neg hcap',run_choose,Question.forced,Bool.false_eq_true,if_false,run_askRoom,e1,e2,zeroValue,hz,Sem.run_pure,newRow,run_newObj]
  rfl
end
theorem zB {t u e : TypeId} {i : TypeInfo} {d : TypeDesc} (ht : P.underlying t = some (.slice e)) (hu : P.underlying u = some d) (hd : ∀ k,d ≠ .int k) (hi : P.info? e = some i) {x : Value} {new : List PV} {l c : Nat} {ty : TypeId} {ao : Option Addr}
  (hs : Source P w G μ i.size x new 0) (hl : l ≤ c) : (Builtin.append_ #[t,u] ty #[.slice ao l c,x]).run P w = .ok (.slice ao l c) w:=by
 obtain ⟨h1,h2,h3⟩:=hs
 obtain ⟨vs,h4,h5⟩:=h3 0 (Nat.le_refl _)
 rw [Nat.zero_mul,List.take_zero,VRs] at h4
 have:=oF (w:=w) (w':=w) ht hu hd hi (ty:=ty) (ao:=ao) (l:=l) (c:=c) h1 (by simpa using hl) (h5 w rfl) (by
  rw [h4]
  cases ao <;> simp [storeCells])
 simpa using this

theorem YV (hW : aV n0 G μ H w) {e : TypeId} {sz need c' : Nat} {cells : List PV} {os vs rest : Array Value} (hv : VRs w G μ cells (os ++ vs).toList) (hneed : need ≤ c') (hl : (os ++ vs).size = need * sz) (hr : rest.size = (c' - need) * sz) {s : Sem Value}
  (h : s.run P w = .ok (.slice (some ⟨w.heap.size,0,none⟩) need c') (w.drew.alloc (.cells (os ++ vs ++ rest) e))) : qD P n0 w G μ s (ME H e sz need cells).1 (ME H e sz need cells).2:=by
 have hW' : aV n0 G μ H w.drew:=GF hW (w.drawn + 1)
 have e1 : Ext n0 w G μ w.drew G μ:=R2 (Nat.le_succ _)
 have hk:=tK (on:=none) hW' (os ++ vs ++ rest) ⟨cells,e,true,false,none⟩ (fun j p hp=>by
  obtain ⟨u,g1,g2⟩:=hv.get hp
  refine ⟨u,?_,VR.mono e1.toMono p u g2⟩
  have hlt : j < (os ++ vs).size:=by
   have:=(List.getElem?_eq_some_iff.1 g1).1
   simpa using this
  rw [Array.getElem?_append_left hlt,← Array.getElem?_toList]
  exact g1) (fun h=>by cases h) rfl (fun g hg=>by cases hg)
 refine ⟨_,_,G,_,h,e1.trans (rT hW' _ _ _),hk,?_⟩
 simp only [ME]
 rw [VR]
 refine ⟨w.heap.size,c',fR _ _ _ _,rfl,hneed,fun k hk=>(by cases hk),os ++ vs ++ rest,e,(0,0),?_,?_⟩
 ·show (w.heap.push _)[w.heap.size]? = _
  simp
 ·rw [Array.size_append,hl,hr,← Nat.add_mul,Nat.zero_add]
  exact Nat.mul_le_mul_right _ (by omega)

theorem qD.Y6 {s : Sem Value} {x : PV×Heap} {v : PV} {H' : Heap} (h : x = (v,H')) (k : qD P n0 w G μ s x.1 x.2) : qD P n0 w G μ s v H':=by subst h; exact k
theorem l5 (z : Array Value) (n : Nat) : (Builtin.zeroCells z n).size = n * z.size:=by simp [Builtin.zeroCells]

theorem qD.put {s : Sem Value} {v' : Value} {w' : World} {v : PV} {H' : Heap} (h : s.run P w = .ok v' w') (e : Ext n0 w G μ w' G μ) (hW : aV n0 G μ H' w') (hv : VR w G μ v v') : qD P n0 w G μ s v H':=⟨v',w',G,μ,h,e,hW,VR.mono e.toMono _ _ hv⟩

theorem aJ6 (hW : aV n0 G μ H w) {t u e : TypeId} {i : TypeInfo} {z : Value} {d : TypeDesc} (ht : P.underlying t = some (.slice e)) (hu : P.underlying u = some d) (hd : ∀ k,d ≠ .int k) (hi : P.info? e = some i) (hz : i.zero = some z)
  (hb1 : i.bytes ≤ 65536) (hzs : z.cells.size = i.size) {x : Value} {new : List PV} {n l : Nat} {ty : TypeId} (hs : Source P w G μ i.size x new n) (hn : n ≤ 1048576) (hl : l ≤ 1048576) (hok : new.all zE = true)
  {r : Nat} {k : Blk} (hk : fZ H r = some k) (hf : k.frozen = false) (hg : k.grown = true) (hte : k.ty = e) (hle : l * i.size ≤ k.cells.length) {b c : Nat} (hb : μ.loc r = some b) (hlc : l ≤ c) (hroom : Room w b (0 + c * i.size)) :
  qD P n0 w G μ (Builtin.append_ #[t,u] ty #[.slice (some ⟨b,0,none⟩) l c,x]) (ME (H.set r none) e i.size (l + n) (k.cells.take (l * i.size) ++ new)).1 (ME (H.set r none) e i.size (l + n) (k.cells.take (l * i.size) ++ new)).2:=by
 obtain ⟨cs,g2,g3,g4,g5,g6⟩:=hW.blk r k b (aO hk) hb
 obtain ⟨s1,s2,s3⟩:=hs
 obtain ⟨vs,v1,v2⟩:=s3 n (Nat.le_refl _)
 rw [List.take_of_length_le (by omega)] at v1
 have hvl : new.length = vs.size:=by simpa using v1.length
 obtain ⟨i1,i2⟩:=qW g2 g3
 by_cases hfit : l + n ≤ c
 ·obtain ⟨c2,t2,fr2,r1,r2⟩:=hroom
  rw [g2] at r1; cases r1
  have hmul : (l + n) * i.size ≤ c * i.size:=Nat.mul_le_mul_right _ hfit
  rw [Nat.add_mul] at hmul
  obtain ⟨w',h1,h2⟩:=kO (P:=P) (off:=l * i.size) vs.toList 0 w cs (tS hok v1) g2 (by simp only [Array.length_toList]; omega)
  rw [Nat.add_zero] at h2
  have hsz : (eB cs (l * i.size) vs.toList).size = cs.size:=pI (by simp only [Array.length_toList]; omega)
  have e1:=o8 hW (aO hk) hf hb g2 h2 hsz
  have hW':=qU (k':=⟨k.cells.take (l * i.size) ++ new,e,true,false,none⟩) hW (aO hk) hf hb g2 (hte ▸ h2) hsz rfl (by
   refine mA (n:=l * i.size + vs.size) h2.at_ (VRs.mono e1.toMono _ _ ?_)
   have:=i1.take (l * i.size)
   rw [List.take_take,Nat.min_eq_left hle] at this
   have h3:=this.append v1
   have e2 : (eB cs (l * i.size) vs.toList).toList.take (l * i.size + vs.size) = cs.toList.take (l * i.size) ++ vs.toList:=by
    simp only [eB]
    rw [List.take_append_of_le_length (by simp; omega),List.take_of_length_le (by simp; omega)]
   rw [e2]; exact h3) (fun h=>by cases h) (fun g hg=>by cases hg)
  have hrl : r < H.length:=(List.getElem?_eq_some_iff.1 (aO hk)).1
  obtain ⟨e3,hW''⟩:=DH (r:=r) (on:=none) hW' (List.getElem?_set_self hrl) hb (fun g hg=>by cases hg)
  simp only [List.length_set,List.set_set] at e3 hW''
  have hrun:=oF (w:=w) (w':=w') (ty:=ty) (ao:=some ⟨b,0,none⟩) ht hu hd hi s1 hfit (v2 w rfl) (by simp only [Addr.add_lit,Nat.zero_add]; exact h1)
  refine ⟨_,w',G,_,hrun,e1.trans e3,by simpa [ME] using hW'',?_⟩
  simp only [ME]
  rw [VR]
  exact ⟨b,c,by simp [fR],rfl,hfit,fun k hk=>(by cases hk),_,_,_,h2.at_,by rw [hsz]; omega⟩
 ·have hsub:=g3.sub 0 (l * i.size)
  rw [Nat.zero_add,List.drop_zero] at hsub
  obtain ⟨os,o1,o2⟩:=(rK (P:=P) (c:=c) hsub (by simp; omega) : Source P w G μ i.size (.slice (some ⟨b,0,none⟩) l c) _ l).2.2 l (Nat.le_refl _)
  rw [List.take_of_length_le (by simp; omega)] at o1
  have hol : l * i.size = os.size:=by have:=o1.length; rw [List.length_take,Nat.min_eq_left hle] at this; simpa using this
  obtain ⟨c',q1,q2⟩:=lY (w:=w) (ty:=ty) (ao:=some ⟨b,0,none⟩) ht hu hd hi hz s1 hfit hb1 hn hl v2 o2
  exact YV (tO hW r) (os:=os) (vs:=vs) (by rw [Array.toList_append]; exact o1.append v1) q1 (by rw [Array.size_append,Nat.add_mul,← hol,← hvl,s2]) (by rw [l5,hzs]) q2

set_option maxHeartbeats 2000000 in
theorem aD8 (hW : aV n0 G μ H w) {tys : Array TypeId} {ty : TypeId} {p q v : PV} {H' : Heap} {s x : Value} (hp : VR w G μ p s) (hq : VR w G μ q x) (h : aG0 P H tys p q = some (v,H')) : qD P n0 w G μ (Builtin.append_ tys ty #[s,x]) v H':=by
 unfold aG0 at h
 split at h
 ·rename_i t u htys
  have htys : tys = #[t,u]:=by apply Array.ext'; simpa using htys
  subst htys
  split at h
  ·cases h
  ·cases h
  ·rename_i e d hnot ht hu
   have hd : ∀ k,d ≠ .int k:=fun k hk=>hnot k (by rw [hk])
   split at h
   ·rename_i i hi
    split at h
    ·rename_i z hz
     cases hb : (Nat.ble i.bytes 65536 && Nat.ble 1 i.size && Nat.beq z.cells.size i.size) with
     | false=>rw [hb] at h; cases h
     | true =>
      rw [hb] at h
      simp only [cond_true] at h
      simp only [Bool.and_eq_true] at hb
      have hb1:=Nat.le_of_ble_eq_true hb.1.1
      have hzs:=Nat.eq_of_beq_eq_true hb.2
      split at h
      ·rename_i new n hsrc
       cases hc : (Nat.ble n 1048576 && new.all zE) with
       | false=>rw [hc] at h; cases h
       | true =>
        rw [hc] at h
        simp only [cond_true] at h
        simp only [Bool.and_eq_true] at hc
        have hn:=Nat.le_of_ble_eq_true hc.1
        have hs:=OL (P:=P) hW hq hsrc
        have hs':=hs
        obtain ⟨s1,s2,s3⟩:=hs
        obtain ⟨vs,v1,v2⟩:=s3 n (Nat.le_refl _)
        rw [List.take_of_length_le (by omega)] at v1
        have hvl : new.length = vs.size:=by simpa using v1.length
        split at h
        ·rename_i l c
         rw [VR] at hp
         subst hp
         cases hlc : (Nat.beq l 0 && Nat.beq c 0) with
         | false=>rw [hlc] at h; cases h
         | true =>
          rw [hlc] at h
          simp only [cond_true] at h
          simp only [Bool.and_eq_true] at hlc
          have e1:=Nat.eq_of_beq_eq_true hlc.1
          have e2:=Nat.eq_of_beq_eq_true hlc.2
          subst e1; subst e2
          cases hn0 : Nat.beq n 0 with
          | true =>
           rw [hn0] at h
           simp only [cond_true,Option.some.injEq,Prod.mk.injEq] at h
           obtain ⟨rfl,rfl⟩:=h
           have hn0:=Nat.eq_of_beq_eq_true hn0
           subst hn0
           exact .same hW (zB ht hu hd hi hs' (Nat.le_refl _)) (by rw [VR])
          | false =>
           rw [hn0] at h
           simp only [cond_false,Option.some.injEq] at h
           have hn1 : n ≠ 0:=fun e=>(by rw [e] at hn0; cases hn0)
           obtain ⟨c',q1,q2⟩:=lY (w:=w) (ty:=ty) (ao:=none) (l:=0) (c:=0) ht hu hd hi hz s1 (by omega) hb1 hn (by omega) (os:=#[]) v2 (fun w1 _=>rfl)
           refine qD.Y6 h ?_
           have:=YV hW (os:=#[]) (vs:=vs) (cells:=new) (sz:=i.size) (by simpa using v1) q1 (by rw [Array.size_append,Array.size_empty,Nat.zero_add,Nat.zero_add,← hvl,s2]) (by rw [l5,hzs]) q2
           rwa [Nat.zero_add] at this
        ·rename_i cs l cap
         have hp':=hp
         rw [VR] at hp
         obtain ⟨ao,c,rfl,h3,h4,h5⟩:=hp
         cases hn0 : Nat.beq n 0 with
         | true =>
          rw [hn0] at h
          simp only [cond_true,Option.some.injEq,Prod.mk.injEq] at h
          obtain ⟨rfl,rfl⟩:=h
          have hn0:=Nat.eq_of_beq_eq_true hn0
          subst hn0
          exact .same hW (zB ht hu hd hi hs' h3) hp'
         | false =>
          rw [hn0] at h
          simp only [cond_false] at h
          cases hcl : (Nat.beq cs.length (l * i.size) && Nat.ble l 1048576) with
          | false=>rw [hcl] at h; cases h
          | true =>
           rw [hcl] at h
           simp only [cond_true] at h
           simp only [Bool.and_eq_true] at hcl
           have hcl1:=Nat.eq_of_beq_eq_true hcl.1
           have hl:=Nat.le_of_ble_eq_true hcl.2
           cases cap with
           | none=>cases h
           | some c' =>
            simp only at h
            have:=h4 c' rfl
            subst this
            cases hfit : Nat.ble (l + n) c with
            | true=>rw [hfit] at h; cases h
            | false =>
             rw [hfit] at h
             simp only [cond_false,Option.some.injEq] at h
             have hfit : ¬ l + n ≤ c:=fun hle=>(by rw [Nat.ble_eq_true_of_le hle] at hfit; cases hfit)
             obtain ⟨os,o1,o2⟩ : ∃ os : Array Value,VRs w G μ cs os.toList∧∀ w1 : World,w1.heap = w.heap→(Builtin.firstCells i.size l (.slice ao l c)).run P w1 = .ok os w1:=by
              rcases h5 with rfl | ⟨b,off,rfl,_,hcs⟩
              ·refine ⟨#[],by simp [VRs],fun w1 _=>?_⟩
               simp only [List.length_nil] at hcl1
               cases ao with
               | none=>rfl
               | some a=>simp [Builtin.firstCells,← hcl1,loadCells,loadCellsFrom]
              ·have:=(rK (P:=P) (μ:=μ) (c:=c) hcs.bD hcl1).2.2 l (Nat.le_refl _)
               rwa [List.take_of_length_le (by omega)] at this
             have hol : cs.length = os.size:=by simpa using o1.length
             obtain ⟨c',q1,q2⟩:=lY (w:=w) (ty:=ty) (ao:=ao) ht hu hd hi hz s1 hfit hb1 hn hl v2 o2
             refine qD.Y6 h ?_
             exact YV hW (os:=os) (vs:=vs) (by rw [Array.toList_append]; exact o1.append v1) q1 (by rw [Array.size_append,Nat.add_mul,← hol,← hvl,s2,hcl1]) (by rw [l5,hzs]) q2
        ·rename_i r off l cap sz
         have hp':=hp
         rw [VR] at hp
         obtain ⟨b,c,hb,rfl,h3,h4,hroom⟩:=hp
         cases hn0 : Nat.beq n 0 with
         | true =>
          rw [hn0] at h
          simp only [cond_true,Option.some.injEq,Prod.mk.injEq] at h
          obtain ⟨rfl,rfl⟩:=h
          have hn0:=Nat.eq_of_beq_eq_true hn0
          subst hn0
          exact .same hW (zB ht hu hd hi hs' h3) hp'
         | false =>
          rw [hn0] at h
          simp only [cond_false] at h
          split at h
          ·rename_i k hk
           cases hcl : (Nat.beq sz i.size && Nat.ble (off + l * sz) k.cells.length && Nat.ble l 1048576 && Nat.beq k.ty e) with
           | false=>rw [hcl] at h; cases h
           | true =>
            rw [hcl] at h
            simp only [cond_true] at h
            simp only [Bool.and_eq_true] at hcl
            obtain ⟨⟨⟨k1,k2⟩,k3⟩,k4⟩:=hcl
            have k1:=Nat.eq_of_beq_eq_true k1
            have k2:=Nat.le_of_ble_eq_true k2
            have k3:=Nat.le_of_ble_eq_true k3
            have k4:=Nat.eq_of_beq_eq_true k4
            subst k1
            obtain ⟨cs,g2,g3,g4,g5,g6⟩:=hW.blk r k b (aO hk) hb
            split at h
            ·rename_i c'
             have:=h4 c' rfl
             subst this
             cases hfit : Nat.ble (l + n) c with
             | true =>
              rw [hfit] at h
              simp only [cond_true] at h
              split at h
              ·rename_i H2 hw2
               simp only [Option.some.injEq,Prod.mk.injEq] at h
               obtain ⟨rfl,rfl⟩:=h
               obtain ⟨w',a1,a2,a3⟩:=AB (P:=P) hW hw2 hb v1
               have hrun:=oF (w:=w) (w':=w') (ty:=ty) (ao:=some ⟨b,off,none⟩) ht hu hd hi s1 (Nat.le_of_ble_eq_true hfit) (v2 w rfl) (by simp only [Addr.add_lit]; exact a1)
               refine .put hrun a2 a3 ?_
               rw [VR]
               exact ⟨b,c,hb,rfl,Nat.le_of_ble_eq_true hfit,fun k hk=>(by cases hk; rfl),hroom⟩
              ·cases h
             | false =>
              rw [hfit] at h
              simp only [cond_false,Option.some.injEq] at h
              have hfit : ¬ l + n ≤ c:=fun hle=>(by rw [Nat.ble_eq_true_of_le hle] at hfit; cases hfit)
              have hsub:=g3.sub off (l * i.size)
              rw [Nat.zero_add] at hsub
              obtain ⟨os,o1,o2⟩:=(rK (P:=P) (c:=c) hsub (by simp; omega) : Source P w G μ i.size (.slice (some ⟨b,off,none⟩) l c) _ l).2.2 l (Nat.le_refl _)
              rw [List.take_of_length_le (by simp; omega)] at o1
              have hol : l * i.size = os.size:=by have:=o1.length; rw [List.length_take,List.length_drop,Nat.min_eq_left (by omega)] at this; simpa using this
              obtain ⟨c',q1,q2⟩:=lY (w:=w) (ty:=ty) (ao:=some ⟨b,off,none⟩) ht hu hd hi hz s1 hfit hb1 hn k3 v2 o2
              refine qD.Y6 h ?_
              exact YV hW (os:=os) (vs:=vs) (by rw [Array.toList_append]; exact o1.append v1) q1 (by rw [Array.size_append,Nat.add_mul,← hol,← hvl,s2]) (by rw [l5,hzs]) q2
            ·cases hoff : (Nat.beq off 0 && !k.frozen && k.grown) with
             | false=>rw [hoff] at h; cases h
             | true =>
              rw [hoff] at h
              simp only [cond_true,Option.some.injEq] at h
              simp only [Bool.and_eq_true,Bool.not_eq_true'] at hoff
              have o1:=Nat.eq_of_beq_eq_true hoff.1.1
              subst o1
              have hmore : aWA k.cells (l * i.size) new = k.cells.take (l * i.size) ++ new:=by
               unfold aWA
               cases hm : Nat.beq k.cells.length (l * i.size) with
               | true=>rw [cond_true,List.take_of_length_le (Nat.le_of_eq (Nat.eq_of_beq_eq_true hm))]
               | false=>rfl
              rw [hmore] at h
              refine qD.Y6 h ?_
              exact aJ6 hW ht hu hd hi hz hb1 hzs hs' hn k3 hc.2 hk hoff.1.2 hoff.2 k4 (by omega) hb h3 hroom
          ·cases h
        ·cases h
      ·cases h
    ·cases h
   ·cases h
  ·cases h
 ·cases h

theorem aJ3 (hW : aV n0 G μ H w) {tys : Array TypeId} {ty : TypeId} {p q v : PV} {H' : Heap} {s x : Value} (hp : VR w G μ p s) (hq : VR w G μ q x) (h : aWH P H tys p q = some (v,H')) : qD P n0 w G μ (Builtin.copy_ tys ty #[s,x]) v H':=by
 unfold aWH at h
 split at h
 ·rename_i t ts htys
  have q0 : tys[0]? = some t:=by rw [← Array.getElem?_toList,htys]; rfl
  split at h
  ·rename_i e hu
   split at h
   ·rename_i sz hs
    split at h
    ·rename_i new n hsrc
     obtain ⟨s1,s2,s3⟩:=OL (P:=P) hW hq hsrc
     split at h
     ·rename_i r off l cap sz'
      split at h
      ·rename_i H2 hw2
       simp only [Option.some.injEq,Prod.mk.injEq] at h
       obtain ⟨rfl,rfl⟩:=h
       rw [VR] at hp
       obtain ⟨b,c,hb,rfl,h3,h4,hroom⟩:=hp
       obtain ⟨vs,v1,v2⟩:=s3 (min n l) (Nat.min_le_left _ _)
       obtain ⟨w',a1,a2,a3⟩:=AB (P:=P) hW hw2 hb v1
       have hrun : (Builtin.copy_ tys ty #[.slice (some ⟨b,off,none⟩) l c,x]).run P w = .ok (goInt ((min n l : Nat) : Int)) w':=by
        have q2 : (#[Value.slice (some ⟨b,off,none⟩) l c,x] : Array Value)[0]? = some (Value.slice (some ⟨b,off,none⟩) l c):=rfl
        have q3 : (#[Value.slice (some ⟨b,off,none⟩) l c,x] : Array Value)[1]? = some x:=rfl
        unfold Builtin.copy_
        have hm : Nat.min n l = min n l:=rfl
        simp only [q0,q2,q3,Sem.run_bind,run_underlying hu,Result.andThen_ok,s1,run_sizeOf hs,hm,v2 w rfl,a1,Sem.run_pure]
       refine .put hrun a2 a3 ?_
       rw [VR]
      ·cases h
     ·cases h
    ·cases h
   ·cases h
  ·cases h
 ·cases h
theorem aF1 {e : TypeId} {z : Value} (hz : sT P e = some z) (w : World) : (zeroValue e).run P w = .ok z w:=by
 unfold sT at hz
 split at hz
 ·rename_i i hi
  simp [zeroValue,pQ hi,hz]
 ·cases hz
theorem aIV (hW : aV n0 G μ H w) {tys : Array TypeId} {ty : TypeId} {p v : PV} {H' : Heap} {s : Value} (hp : VR w G μ p s) (h : aNM P H tys p = some (v,H')) : qD P n0 w G μ (Builtin.clear_ tys ty #[s]) v H':=by
 unfold aNM at h
 split at h
 ·rename_i t ts htys
  have q0 : tys[0]? = some t:=by rw [← Array.getElem?_toList,htys]; rfl
  split at h
  ·rename_i e hu
   split at h
   ·rename_i z hz
    split at h
    ·rename_i r off l cap sz
     rw [VR] at hp
     obtain ⟨b,c,hb,rfl,h3,h4,hroom⟩:=hp
     have q2 : (#[Value.slice (some ⟨b,off,none⟩) l c] : Array Value)[0]? = some (Value.slice (some ⟨b,off,none⟩) l c):=rfl
     have ht : VR w G μ (.tuple []) (.tuple #[]):=by rw [VR]; exact ⟨#[],rfl,by rw [VRs]⟩
     cases hl : Nat.beq l 0 with
     | true =>
      rw [hl] at h
      simp only [cond_true,Option.some.injEq,Prod.mk.injEq] at h
      obtain ⟨rfl,rfl⟩:=h
      have hl0:=Nat.eq_of_beq_eq_true hl
      subst hl0
      refine .same hW ?_ ht
      unfold Builtin.clear_
      simp only [q0,q2,Sem.run_bind,run_underlying hu,Result.andThen_ok,Sem.run_pure]
     | false =>
      rw [hl] at h
      simp only [cond_false] at h
      have hl0 : l ≠ 0:=fun e=>by subst e; cases hl
      split at h
      ·rename_i H2 hw2
       simp only [Option.some.injEq,Prod.mk.injEq] at h
       obtain ⟨rfl,rfl⟩:=h
       obtain ⟨w',a1,a2,a3⟩:=AB (P:=P) hW hw2 hb (pH _)
       refine .put (v':=.tuple #[]) (w':=w') ?_ a2 a3 (by rw [VR]; exact ⟨#[],rfl,by rw [VRs]⟩)
       unfold Builtin.clear_
       obtain ⟨l',rfl⟩ : ∃ l',l = l' + 1:=⟨l - 1,by omega⟩
       simp only [q0,q2,Sem.run_bind,run_underlying hu,Result.andThen_ok,aF1 hz,a1,Sem.run_pure]
      ·cases h
    ·cases h
   ·cases h
  ·cases h
 ·cases h
end
end Go.PM
set_option linter.unusedSimpArgs false
set_option linter.unusedVariables false
namespace Go.PM
open Go Go.RowKit
section
variable {P : Program} {n0 : Nat→Prop} {w : World} {G : Gd} {μ : Mp} {H : Heap} {F : Frm} {a : Act} {nt : Nat}
def pL (P : Program) (n0 : Nat→Prop) (w : World) (G : Gd) (μ : Mp) (g : FuncId) (vs : Array Value) (r : PV) (H' : Heap) : Prop :=
 (callFunc g vs).run P w = .ok (.enter g vs) w∧Calls P g vs w fun e w'=>∃ v' G' μ',e = .returned v'∧Ext n0 w G μ w' G' μ'∧aV n0 G' μ' H' w'∧VR w' G' μ' r v'

structure cV (P : Program) (cl : Callee) : Prop where
 call : ∀ {g args H r H' c},cl g args H = some (r,H',c)→∀ {n0 G μ w vs},aV n0 G μ H w→VRs w G μ args vs→pL P n0 w G μ g vs.toArray r H'
 free : ∀ {g args H r H'},cl g args H = some (r,H',0)→H' = H∧∀ H2,cl g args H2 = some (r,H2,0)
 reads : ∀ {g args H r H'},cl g args H = some (r,H',1)→H' = H

def vJ (P : Program) (n0 : Nat→Prop) (w : World) (G : Gd) (μ : Mp) (o : Oper) (a : Act) (v : PV) (H' : Heap) : Prop :=
 ∀ (K : Act→World→Prop) (Q : Exit→Act→World→Prop),(∀ v' w' G' μ',Ext n0 w G μ w' G' μ'→aV n0 G' μ' H' w'→VR w' G' μ' v v'→K (a.put o.dst v') w')→o.wp P a w K Q

theorem vJ.value {o : Oper} {s : Sem Value} {v : PV} {H' : Heap} (hs : execOp a.eval o = (do pure (.value (← s)))) (h : qD P n0 w G μ s v H') : vJ P n0 w G μ o a v H':=by
 intro K Q hK
 obtain ⟨v',w',G',μ',h1,h2,h3,h4⟩:=h
 unfold Oper.wp
 rw [hs]
 simp only [Sem.run_bind,h1,Result.andThen_ok,Sem.run_pure]
 exact hK v' w' G' μ' h2 h3 h4
theorem vJ.pure {o : Oper} {v : PV} {v' : Value} (hW : aV n0 G μ H w) (hs : (execOp a.eval o).run P w = .ok (.value v') w) (h : VR w G μ v v') : vJ P n0 w G μ o a v H:=by
 intro K Q hK
 unfold Oper.wp
 rw [hs]
 exact hK v' w G μ (Ext.refl _ _ _ _) hW h
theorem vJ.lB (hW : aV n0 G μ H w) (hF : eP w G μ nt F a) {o : Oper} {v : PV} {H' : Heap} {c : Nat} (h : p0 H (lB P F o) = some (v,H',c)) : vJ P n0 w G μ o a v H':=by
 unfold p0 at h
 split at h
 ·rename_i u hu
  simp only [Option.some.injEq,Prod.mk.injEq] at h
  obtain ⟨rfl,rfl,rfl⟩:=h
  obtain ⟨v',h1,h2⟩:=aKG hF hu
  exact .pure hW (h1 w) h2
 ·cases h
theorem zZ {x : Option PV} {v : PV} {H' : Heap} {c : Nat} (h : p0 H x = some (v,H',c)) : x = some v∧H' = H∧c = 0:=by
 unfold p0 at h
 split at h
 ·simp only [Option.some.injEq,Prod.mk.injEq] at h
  obtain ⟨rfl,rfl,rfl⟩:=h
  exact ⟨rfl,rfl,rfl⟩
 ·cases h
theorem qF {x : Option (PV×Heap)} {v : PV} {H' : Heap} {c : Nat} (h : p2 x = some (v,H',c)) : x = some (v,H')∧c = 2:=by
 unfold p2 at h
 split at h
 ·simp only [Option.some.injEq,Prod.mk.injEq] at h
  obtain ⟨rfl,rfl,rfl⟩:=h
  exact ⟨rfl,rfl⟩
 ·cases h

theorem RN (hF : eP w G μ nt F a) : ∀ xs : List Operand,VRs w G μ (xs.map (ev F)) (xs.map a.eval)
 | []=>by simp [VRs]
 | x :: xs=>by rw [List.map_cons,VRs]; exact ⟨_,_,rfl,bX hF x,RN hF xs⟩

theorem aGJ {cl : Callee} (hcl : cV P cl) (hW : aV n0 G μ H w) {o : Oper} {c : Call} {f : Operand} {g : FuncId} {first caps : Array Value} {args : List PV} {v : PV} {H' : Heap} {k : Nat} (ho : o.op = .call c) (hc : c.callee = .value f)
  (hf : a.eval f = .func (.func g) first caps) (hargs : VRs w G μ args (first.toList ++ c.args.toList.map a.eval ++ caps.toList)) (h : cl g args H = some (v,H',k)) : vJ P n0 w G μ o a v H':=by
 intro K Q hK
 obtain ⟨h1,h2⟩:=hcl.call h hW hargs
 have e : (first.toList ++ c.args.toList.map a.eval ++ caps.toList).toArray = first ++ c.args.map a.eval ++ caps:=by apply Array.ext'; simp
 rw [e] at h1 h2
 unfold Oper.wp
 have hx : (execOp a.eval o).run P w = .ok (.enter g (first ++ c.args.map a.eval ++ caps)) w:=by
  unfold execOp
  simp only [ho,resolve,hc,hf,Deferred.ofValue,Sem.run_bind,Sem.run_pure,Result.andThen_ok,invoke,h1]
 rw [hx]
 refine h2.mono fun e w' he=>?_
 obtain ⟨v',G',μ',rfl,e1,e2,e3⟩:=he
 exact hK v' w' G' μ' e1 e2 e3

set_option maxHeartbeats 2000000 in
theorem aRS {cl : Callee} (hcl : cV P cl) (hW : aV n0 G μ H w) (hF : eP w G μ nt F a) {o : Oper} {v : PV} {H' : Heap} {k : Nat} (h : opu P cl F H o = some (v,H',k)) : vJ P n0 w G μ o a v H':=by
 unfold opu at h
 split at h
 ·rename_i x ho
  simp only [Option.some.injEq,Prod.mk.injEq] at h
  obtain ⟨rfl,rfl,rfl⟩:=h
  exact .pure hW (by simp [execOp,ho]) (bX hF x)
 ·rename_i x ho
  simp only [Option.some.injEq,Prod.mk.injEq] at h
  obtain ⟨rfl,rfl,rfl⟩:=h
  exact .pure hW (by simp [execOp,ho]) (bX hF x)
 ·rename_i c x y ho
  split at h
  ·rename_i t ht
   simp only [Option.some.injEq,Prod.mk.injEq] at h
   obtain ⟨rfl,rfl,rfl⟩:=h
   have hc:=bX hF c
   rw [ht,VR] at hc
   refine .pure hW (v':=if t then a.eval x else a.eval y) (by simp [execOp,ho,hc,asBool]) ?_
   cases t
   ·exact bX hF y
   ·exact bX hF x
  ·cases h
 ·rename_i op xt x y yt ho
  split at h
  ·rename_i k1 i1 k2 i2 hx hy
   cases hk : zA k1 k2 with
   | false=>rw [hk] at h; exact .lB hW hF h
   | true =>
    rw [hk] at h
    simp only [cond_true] at h
    have hk : k1 = k2:=MY hk
    subst hk
    split at h
    ·rename_i u hu
     simp only [Option.some.injEq,Prod.mk.injEq] at h
     obtain ⟨rfl,rfl,rfl⟩:=h
     have h1:=bX hF x
     have h2:=bX hF y
     rw [hx,VR] at h1
     rw [hy,VR] at h2
     refine .value (s:=do eqGuard op xt x y (a.eval x) (a.eval y); binOp op xt (a.eval x) (a.eval y)) (by simp [execOp,ho]) (.same hW (v':=u) ?_ (by rw [VR]))
     rw [h1,h2]
     exact aO1 hu w
    ·exact .lB hW hF h
  ·rename_i cs ds hx hy
   split at h
   ·rename_i u hu
    simp only [Option.some.injEq,Prod.mk.injEq] at h
    obtain ⟨rfl,rfl,rfl⟩:=h
    have h1:=bX hF x
    have h2:=bX hF y
    rw [hx,VR] at h1
    rw [hy,VR] at h2
    obtain ⟨xs,e1,h1⟩:=h1
    obtain ⟨ys,e2,h2⟩:=h2
    obtain ⟨v',g1,g2⟩:=aPJ (P:=P) (p:=x) (q:=y) h1 h2 hu w
    exact .value (s:=do eqGuard op xt x y (a.eval x) (a.eval y); binOp op xt (a.eval x) (a.eval y)) (by simp [execOp,ho]) (.same hW (v':=v') (by rw [e1,e2]; exact g1) g2)
   ·exact .lB hW hF h
  ·exact .lB hW hF h
 ·rename_i t x ho
  split at h
  ·rename_i u c hu
   simp only [Option.some.injEq,Prod.mk.injEq] at h
   obtain ⟨rfl,rfl,rfl⟩:=h
   obtain ⟨v',h1,h2⟩:=WM hW (bX hF x) hu
   exact .value (by simp only [execOp,ho]) (.same hW h1 h2)
  ·cases h
 ·rename_i t x y ho
  split at h
  ·rename_i H2 hu
   simp only [Option.some.injEq,Prod.mk.injEq] at h
   obtain ⟨rfl,rfl,rfl⟩:=h
   obtain ⟨w',h1,h2,h3⟩:=aIJ hW (bX hF x) (bX hF y) hu
   intro K Q hK
   unfold Oper.wp
   have hx : (execOp a.eval o).run P w = .ok .skip w':=by simp [execOp,ho,h1]
   rw [hx]
   exact hK undef w' G μ h2 h3 (by rw [VR])
  ·cases h
 ·rename_i t x ho
  split at h
  ·rename_i cs hcs
   replace h:=qF h; obtain ⟨h,rfl⟩:=h
   simp only [Option.some.injEq] at h
   have hn:=aFN (P:=P) hW (t:=t) (wL hcs (bX hF x))
   rw [h] at hn
   exact .value (s:=Instr.box t (a.eval x)) (by simp only [execOp,ho]) hn
  ·cases h
 ·rename_i t ho
  split at h
  ·rename_i z hz
   replace h:=qF h; obtain ⟨h,rfl⟩:=h
   simp only [Option.some.injEq] at h
   have hn:=aFN (P:=P) hW (t:=t) (pH (w:=w) (G:=G) (μ:=μ) z.cells)
   rw [h] at hn
   refine .value (s:=Instr.alloc t true (.tuple #[])) (by simp only [execOp,ho]) ?_
   obtain ⟨v',w',G',μ',a1,a2⟩:=hn
   refine ⟨v',w',G',μ',?_,a2⟩
   have hzv : (zeroValue t).run P w = .ok z w:=by
    unfold sT at hz
    split at hz
    ·rename_i i hi
     simp [zeroValue,pQ hi,hz]
    ·cases hz
   simp only [Instr.alloc,Sem.run_bind,hzv,Result.andThen_ok,newVar]
   simpa using a1
  ·cases h
 ·rename_i s x f ho
  replace h:=zZ h; obtain ⟨h,rfl,rfl⟩:=h
  obtain ⟨v',h1,h2⟩:=UE (bX hF x) h
  exact .value (by simp only [execOp,ho]) (.same hW h1 h2)
 ·rename_i t x i ho
  split at h
  ·rename_i k1 i1 hi
   replace h:=zZ h; obtain ⟨h,rfl,rfl⟩:=h
   have h3:=bX hF i
   rw [hi,VR] at h3
   obtain ⟨v',h1,h2⟩:=VH (k:=k1) (bX hF x) h
   exact .value (s:=Instr.indexAt t (a.eval x) (a.eval i)) (by simp only [execOp,ho]) (.same hW (by rw [h3]; exact h1) h2)
  ·cases h
 ·rename_i x ho
  split at h
  ·rename_i cs hx
   simp only [Option.some.injEq,Prod.mk.injEq] at h
   obtain ⟨rfl,rfl,rfl⟩:=h
   have h1:=bX hF x
   rw [hx] at h1
   have h2:=h1
   rw [VR] at h2
   obtain ⟨b,off,h3,_⟩:=h2
   exact .pure hW (v':=a.eval x) (by simp [execOp,ho,h3]) h1
  ·rename_i r off hx
   simp only [Option.some.injEq,Prod.mk.injEq] at h
   obtain ⟨rfl,rfl,rfl⟩:=h
   have h1:=bX hF x
   rw [hx] at h1
   have h2:=h1
   rw [VR] at h2
   obtain ⟨b,_,h3⟩:=h2
   exact .pure hW (v':=a.eval x) (by simp [execOp,ho,h3]) h1
  ·rename_i f p q hx
   simp only [Option.some.injEq,Prod.mk.injEq] at h
   obtain ⟨rfl,rfl,rfl⟩:=h
   have h1:=bX hF x
   rw [hx] at h1
   have h2:=h1
   rw [VR] at h2
   obtain ⟨fs,cs,h3,_⟩:=h2
   exact .pure hW (v':=a.eval x) (by simp [execOp,ho,h3]) h1
  ·exact .lB hW hF h
 ·rename_i s x f ho
  split at h
  ·rename_i cs hx
   split at h
   ·rename_i fd hfd
    replace h:=zZ h; obtain ⟨h,rfl,rfl⟩:=h
    have h1:=bX hF x
    rw [hx] at h1
    obtain ⟨v',h2,h3⟩:=aHV (P:=P) h1 hfd h w
    exact .value (by simp only [execOp,ho]) (.same hW h2 h3)
   ·cases h
  ·exact .lB hW hF h
 ·rename_i t x i ho
  split at h
  ·rename_i cs k1 i1 n e hx hi hu
   split at h
   ·rename_i sz hs
    cases hc : aQ i1 n with
    | false=>rw [hc] at h; cases h
    | true =>
     rw [hc] at h
     simp only [cond_true] at h
     replace h:=zZ h; obtain ⟨h,rfl,rfl⟩:=h
     have h1:=bX hF x
     rw [hx] at h1
     have h4:=bX hF i
     rw [hi,VR] at h4
     obtain ⟨v',h2,h3⟩:=aI7 (P:=P) (k:=k1) h1 hu hs hc h w
     exact .value (s:=Instr.index t (a.eval x) (a.eval i)) (by simp only [execOp,ho]) (.same hW (by rw [h4]; exact h2) h3)
   ·cases h
  ·exact .lB hW hF h
 ·rename_i x i ho
  split at h
  ·rename_i vs hx
   replace h:=zZ h; obtain ⟨h,rfl,rfl⟩:=h
   have h1:=bX hF x
   rw [hx] at h1
   obtain ⟨v',h2,h3⟩:=aAP (P:=P) h1 h w
   exact .value (by simp only [execOp,ho]) (.same hW h2 h3)
  ·exact .lB hW hF h
 ·rename_i t parts ho
  replace h:=zZ h; obtain ⟨h,rfl,rfl⟩:=h
  obtain ⟨v',h2,h3⟩:=aIU hF h w
  exact .value (by simp only [execOp,ho]) (.same hW h2 h3)
 ·rename_i t n parts ho
  split at h
  ·rename_i v1 h1
   simp only [Option.some.injEq,Prod.mk.injEq] at h
   obtain ⟨rfl,rfl,rfl⟩:=h
   exact .value (by simp only [execOp,ho]) (RF hW hF h1)
  ·replace h:=qF h; obtain ⟨h,rfl⟩:=h
   exact .value (by simp only [execOp,ho]) (PK hW hF h)
 ·rename_i t l c ho
  replace h:=qF h; obtain ⟨h,rfl⟩:=h
  exact .value (by simp only [execOp,ho]) (U2 hW (bX hF l) (bX hF c) h)
 ·rename_i fn first caps ho
  simp only [Option.some.injEq,Prod.mk.injEq] at h
  obtain ⟨rfl,rfl,rfl⟩:=h
  refine .pure hW (v':=.func fn (first.map a.eval) (caps.map a.eval)) (by simp [execOp,ho,Instr.makeFunc]) ?_
  rw [VR]
  exact ⟨_,_,rfl,by simpa using RN hF first.toList,by simpa using RN hF caps.toList⟩
 ·rename_i t x lo hi ho
  split at h
  ·exact .lB hW hF h
  ·replace h:=zZ h; obtain ⟨h,rfl,rfl⟩:=h
   obtain ⟨v',h2,h3⟩:=vO hF (bX hF x) h w
   exact .value (by simp only [execOp,ho]; rfl) (.same hW h2 h3)
 ·rename_i c ho
  split at h
  ·rename_i hc
   split at h
   ·exact .lB hW hF h
   ·cases hsz : Nat.beq c.args.size 1 with
    | false=>rw [hsz] at h; cases h
    | true =>
     rw [hsz] at h
     simp only [cond_true] at h
     replace h:=zZ h; obtain ⟨h,rfl,rfl⟩:=h
     have hsz:=Nat.eq_of_beq_eq_true hsz
     obtain ⟨x,hx⟩ : ∃ x,c.args = #[x]:=by
      have h1 : 0 < c.args.size:=by omega
      refine ⟨c.args[0],?_⟩
      apply Array.ext
      ·simp [hsz]
      ·intro i h2 h3
       have : i = 0:=by omega
       subst this; rfl
     rw [hx] at h
     obtain ⟨v',h2,h3⟩:=aN1 (P:=P) (ty:=o.type) (bX hF x) h w
     refine .value (s:=Builtin.len_ c.argTypes o.type #[a.eval x]) ?_ (.same hW h2 h3)
     simp [execOp,ho,resolve,hc,hx,invoke,builtin]
  ·rename_i hc
   split at h
   ·rename_i s x hx
    have hx : c.args = #[s,x]:=by apply Array.ext'; simpa using hx
    replace h:=qF h; obtain ⟨h,rfl⟩:=h
    refine .value (s:=Builtin.append_ c.argTypes o.type #[a.eval s,a.eval x]) ?_ (aD8 hW (bX hF s) (bX hF x) h)
    simp [execOp,ho,resolve,hc,hx,invoke,builtin]
   ·cases h
  ·rename_i hc
   split at h
   ·rename_i s x hx
    have hx : c.args = #[s,x]:=by apply Array.ext'; simpa using hx
    replace h:=qF h; obtain ⟨h,rfl⟩:=h
    refine .value (s:=Builtin.copy_ c.argTypes o.type #[a.eval s,a.eval x]) ?_ (aJ3 hW (bX hF s) (bX hF x) h)
    simp [execOp,ho,resolve,hc,hx,invoke,builtin]
   ·cases h
  ·rename_i hc
   split at h
   ·rename_i s hx
    have hx : c.args = #[s]:=by apply Array.ext'; simpa using hx
    replace h:=qF h; obtain ⟨h,rfl⟩:=h
    refine .value (s:=Builtin.clear_ c.argTypes o.type #[a.eval s]) ?_ (aIV hW (bX hF s) h)
    simp [execOp,ho,resolve,hc,hx,invoke,builtin]
   ·cases h
  ·exact .lB hW hF h
  ·rename_i f hc
   split at h
   ·rename_i g first caps hf
    have h1:=bX hF f
    rw [hf,VR] at h1
    exact aGJ hcl hW ho hc h1 (((pH _).append (RN hF _)).append (pH _)) h
   ·rename_i g first caps hf
    have h1:=bX hF f
    rw [hf,VR] at h1
    obtain ⟨fs,cs,h2,h3,h4⟩:=h1
    exact aGJ hcl hW ho hc h2 ((h3.append (RN hF _)).append h4) h
   ·cases h
  ·cases h
 ·exact .lB hW hF h
end
end Go.PM
set_option linter.unusedSimpArgs false
set_option linter.unusedVariables false
namespace Go.PM
open Go Go.RowKit
section
variable {P : Program} {F : Frm} {H : Heap}
theorem bBL {x : Option PV} {v : PV} {H' : Heap} {k : Nat} (h : p0 H x = some (v,H',k)) : H' = H∧k = 0∧∀ H2,p0 H2 x = some (v,H2,0):=by
 obtain ⟨rfl,rfl,rfl⟩:=zZ h
 exact ⟨rfl,rfl,fun H2=>rfl⟩

def N0 (k : Nat) (H H' : Heap) (v : PV) (f : Heap→Option (PV×Heap×Nat)) : Prop:=(k = 0→H' = H∧∀ H2,f H2 = some (v,H2,0))∧(k = 1→H' = H)
theorem N0.p0 {x : Option PV} {v : PV} {H' : Heap} {k : Nat} {f : Heap→Option (PV×Heap×Nat)} (h : p0 H x = some (v,H',k)) (hf : ∀ H2,f H2 = PM.p0 H2 x) : N0 k H H' v f:=by
 obtain ⟨rfl,rfl,h3⟩:=bBL h
 exact ⟨fun _=>⟨rfl,fun H2=>by rw [hf]; exact h3 H2⟩,fun _=>rfl⟩
theorem N0.two {H' : Heap} {v : PV} {f : Heap→Option (PV×Heap×Nat)} {k : Nat} (h : k = 2) : N0 k H H' v f:=by subst h; exact ⟨fun h=>(by cases h),fun h=>(by cases h)⟩
theorem N0.callee {cl : Callee} (hcl : cV P cl) {g : FuncId} {args : List PV} {v : PV} {H' : Heap} {k : Nat} {f : Heap→Option (PV×Heap×Nat)} (h : cl g args H = some (v,H',k)) (hf : ∀ H2,f H2 = cl g args H2) : N0 k H H' v f:=by
 constructor
 ·rintro rfl
  obtain ⟨h1,h2⟩:=hcl.free h
  exact ⟨h1,fun H2=>by rw [hf]; exact h2 H2⟩
 ·rintro rfl
  exact hcl.reads h

set_option maxHeartbeats 1000000 in
theorem aZ1 {cl : Callee} (hcl : cV P cl) {o : Oper} {v : PV} {H' : Heap} {k : Nat} (h : opu P cl F H o = some (v,H',k)) : N0 k H H' v (fun H2=>opu P cl F H2 o):=by
 have one : ∀ {x : PV} {f : Heap→Option (PV×Heap×Nat)},some (x,H,0) = some (v,H',k)→(∀ H2,f H2 = some (x,H2,0))→N0 k H H' v f:=by
  intro x f h hf
  simp only [Option.some.injEq,Prod.mk.injEq] at h
  obtain ⟨rfl,rfl,rfl⟩:=h
  exact ⟨fun _=>⟨rfl,hf⟩,fun _=>rfl⟩
 unfold opu at h
 split at h
 ·rename_i x ho; exact one h fun H2=>by simp only [opu,ho]
 ·rename_i x ho; exact one h fun H2=>by simp only [opu,ho]
 ·rename_i c x y ho
  split at h
  ·rename_i t ht; exact one h fun H2=>by simp only [opu,ho,ht]
  ·cases h
 ·rename_i op xt x y yt ho
  split at h
  ·rename_i k1 i1 k2 i2 hx hy
   cases hk : zA k1 k2 with
   | false=>rw [hk] at h; exact .p0 h fun H2=>by simp only [opu,ho,hx,hy,hk,cond_false]
   | true =>
    rw [hk] at h
    simp only [cond_true] at h
    split at h
    ·rename_i u hu; exact one h fun H2=>by simp only [opu,ho,hx,hy,hk,cond_true,hu]
    ·rename_i hu; exact .p0 h fun H2=>by simp only [opu,ho,hx,hy,hk,cond_true,hu]
  ·rename_i cs ds hx hy
   split at h
   ·rename_i u hu; exact one h fun H2=>by simp only [opu,ho,hx,hy,hu]
   ·rename_i hu; exact .p0 h fun H2=>by simp only [opu,ho,hx,hy,hu]
  ·rename_i hno
   refine .p0 h fun H2=>?_
   simp only [opu,ho]
 ·rename_i t x ho
  split at h
  ·rename_i u c hu
   simp only [Option.some.injEq,Prod.mk.injEq] at h
   obtain ⟨rfl,rfl,rfl⟩:=h
   refine ⟨?_,fun _=>rfl⟩
   rintro rfl
   refine ⟨rfl,fun H2=>?_⟩
   have : JD P H2 t (ev F x) = some (u,0):=by
    cases hx : ev F x <;> rw [hx] at hu <;> simp only [JD] at hu ⊢ <;> try (cases hu; done)
    ·exact hu
    ·split at hu
     ·split at hu <;> cases hu
     ·cases hu
   simp only [opu,ho,this]
  ·cases h
 ·rename_i t x y ho
  split at h
  ·simp only [Option.some.injEq,Prod.mk.injEq] at h; exact .two h.2.2.symm
  ·cases h
 ·rename_i t x ho
  split at h
  ·exact .two (qF h).2
  ·cases h
 ·rename_i t ho
  split at h
  ·exact .two (qF h).2
  ·cases h
 ·rename_i s x f ho; exact .p0 h fun H2=>by simp only [opu,ho]
 ·rename_i t x i ho
  split at h
  ·rename_i k1 i1 hi; exact .p0 h fun H2=>by simp only [opu,ho,hi]
  ·cases h
 ·rename_i x ho
  split at h
  ·rename_i cs hx; exact one h fun H2=>by simp only [opu,ho,hx]
  ·rename_i r off hx; exact one h fun H2=>by simp only [opu,ho,hx]
  ·rename_i f p q hx; exact one h fun H2=>by simp only [opu,ho,hx]
  ·rename_i n1 n2 n3
   refine .p0 h fun H2=>?_
   simp only [opu,ho]
 ·rename_i s x f ho
  split at h
  ·rename_i cs hx
   split at h
   ·rename_i fd hfd; exact .p0 h fun H2=>by simp only [opu,ho,hx,hfd]
   ·cases h
  ·refine .p0 h fun H2=>?_
   simp only [opu,ho]
 ·rename_i t x i ho
  split at h
  ·rename_i cs k1 i1 n e hx hi hu
   split at h
   ·rename_i sz hs
    cases hc : aQ i1 n with
    | false=>rw [hc] at h; cases h
    | true=>rw [hc] at h; exact .p0 h fun H2=>by simp only [opu,ho,hx,hi,hu,hs,hc,cond_true]
   ·cases h
  ·refine .p0 h fun H2=>?_
   simp only [opu,ho]
 ·rename_i x i ho
  split at h
  ·rename_i vs hx; exact .p0 h fun H2=>by simp only [opu,ho,hx]
  ·refine .p0 h fun H2=>?_
   simp only [opu,ho]
 ·rename_i t parts ho; exact .p0 h fun H2=>by simp only [opu,ho]
 ·rename_i t n parts ho
  split at h
  ·rename_i v1 h1
   exact one h fun H2=>by simp only [opu,ho,h1]
  ·exact .two (qF h).2
 ·exact .two (qF h).2
 ·rename_i fn first caps ho; exact one h fun H2=>by simp only [opu,ho]
 ·rename_i t x lo hi ho
  split at h
  ·rename_i u hx; exact .p0 h fun H2=>by simp only [opu,ho,hx]
  ·refine .p0 h fun H2=>?_
   simp only [opu,ho]
 ·rename_i c ho
  split at h
  ·rename_i hc
   split at h
   ·rename_i u hx; exact .p0 h fun H2=>by simp only [opu,ho,hc,hx]
   ·cases hsz : Nat.beq c.args.size 1 with
    | false=>rw [hsz] at h; cases h
    | true =>
     rw [hsz] at h
     refine .p0 h fun H2=>?_
     simp only [opu,ho,hc,hsz,cond_true]
  ·split at h
   ·exact .two (qF h).2
   ·cases h
  ·split at h
   ·exact .two (qF h).2
   ·cases h
  ·split at h
   ·exact .two (qF h).2
   ·cases h
  ·rename_i hc
   refine .p0 h fun H2=>?_
   simp only [opu,ho,hc]
  ·rename_i f hc
   split at h
   ·rename_i g first caps hf; exact .callee hcl h fun H2=>by simp only [opu,ho,hc,hf]
   ·rename_i g first caps hf; exact .callee hcl h fun H2=>by simp only [opu,ho,hc,hf]
   ·cases h
  ·cases h
 ·refine .p0 h fun H2=>?_
  simp only [opu]
end
end Go.PM
set_option linter.unusedSimpArgs false
set_option linter.unusedVariables false
namespace Go.PM
open Go Go.RowKit
section
variable {P : Program} {F F' : Frm} {H : Heap}
theorem RT : ∀ {xs : List Operand},(∀ x ∈ xs,ev F' x = ev F x)→D7 F' xs = D7 F xs
 | [],_=>rfl
 | x :: xs,h=>by
  simp only [D7,h x List.mem_cons_self]
  rw [RT fun y hy=>h y (List.mem_cons_of_mem _ hy)]
theorem aMZ {o : Oper} (h : ∀ x ∈ o.op.operands,ev F' x = ev F x) : lB P F' o = lB P F o:=by
 unfold lB
 cases hs : BQ o.op with
 | true=>rfl
 | false =>
  rw [RT fun x hx=>h x (Array.mem_toList_iff.1 hx)]
  rw [execOp_congr (ρ:=valOf F') (ρ':=valOf F) o (fun cs b e=>by simp [BQ,e] at hs) fun x hx=>by simp only [valOf,h x hx]]
theorem ET {ps : List (Nat×Operand)} (h : ∀ p ∈ ps,ev F' p.2 = ev F p.2) : (ps.map fun p=>(p.1,ev F' p.2)) = ps.map fun p=>(p.1,ev F p.2) :=
 List.map_congr_left fun p hp=>by rw [h p hp]

theorem aRC {cl : Callee} {o : Oper} (h : ∀ x ∈ o.op.operands,ev F' x = ev F x) : opu P cl F' H o = opu P cl F H o:=by
 have hp:=aMZ (P:=P) h
 have hm : ∀ {xs : List Operand},(∀ x ∈ xs,x ∈ o.op.operands)→xs.map (ev F') = xs.map (ev F):=fun hx=>List.map_congr_left fun x hm=>h x (hx x hm)
 unfold opu
 rw [hp]
 cases hop : o.op
 case build t parts =>
  have:=ET (F:=F) (F':=F') (ps:=parts.toList) fun p hpm=>h p.2 (by simp only [hop,Op.operands]; simp; exact ⟨p.1,by simpa using hpm⟩)
  simp only [aJB,this]
 case buildSlice t n parts =>
  have:=ET (F:=F) (F':=F') (ps:=parts.toList) fun p hpm=>h p.2 (by simp only [hop,Op.operands]; simp; exact ⟨p.1,by simpa using hpm⟩)
  simp only [DS,zX,this]
 case makeFunc fn first caps =>
  have h1:=hm (xs:=first.toList) fun x hx=>(by simp [hop,Op.operands]; exact .inl (by simpa using hx))
  have h2:=hm (xs:=caps.toList) fun x hx=>(by simp [hop,Op.operands]; exact .inr (by simpa using hx))
  simp only [h1,h2]
 case slice t x lo hi mx =>
  have hx:=h x (by simp [hop,Op.operands])
  have hlo : lo.map (ev F') = lo.map (ev F):=by
   cases lo with
   | none=>rfl
   | some y=>simp [h y (by simp [hop,Op.operands])]
  have hhi : hi.map (ev F') = hi.map (ev F):=by
   cases hi with
   | none=>rfl
   | some y=>simp [h y (by simp [hop,Op.operands])]
  cases mx <;> simp only [hx,hlo,hhi]
 case call c =>
  have hargs:=hm (xs:=c.args.toList) fun x hx=>by simp [hop,Op.operands,Call.operands]; exact .inr (by simpa using hx)
  have h0 : ev F' (c.args.getD 0 (.const undef)) = ev F (c.args.getD 0 (.const undef)):=by
   by_cases h1 : 0 < c.args.size
   ·refine h _ ?_
    simp only [hop,Op.operands,Call.operands,Array.mem_append]
    right
    simp [h1]
   ·have : c.args = #[]:=Array.eq_empty_of_size_eq_zero (by omega)
    rw [this]; rfl
  have h2 : ∀ s x,c.args.toList = [s,x]→ev F' s = ev F s∧ev F' x = ev F x:=fun s x hc=>by
   have:=hargs
   rw [hc] at this
   simpa using this
  have hf : ∀ f,c.callee = .value f→ev F' f = ev F f:=fun f hc=>h f (by simp [hop,Op.operands,Call.operands,hc])
  simp only [hargs,h0]
  split
  ·rfl
  ·split
   ·rename_i s x hc
    rw [(h2 s x hc).1,(h2 s x hc).2]
   ·rfl
  ·split
   ·rename_i s x hc
    rw [(h2 s x hc).1,(h2 s x hc).2]
   ·rfl
  ·split
   ·rename_i s hc
    have h1 : ev F' s = ev F s:=by
     have:=hargs
     rw [hc] at this
     simpa using this
    rw [h1]
   ·rfl
  ·rfl
  ·rename_i f hc
   rw [hf f hc]
  ·rfl
 all_goals
  first
  | rfl
  | (simp only [hop,Op.operands] at h
     simp at h
     simp [h])
end
end Go.PM
set_option linter.unusedSimpArgs false
set_option linter.unusedVariables false
namespace Go.PM
open Go Go.RowKit
def a8B (P : Program) : Nat→TypeId→Option Ty
 | 0,_=>none
 | n + 1,t=>match P.underlying t with
  | some (.int k)=>some (.int k)
  | some .bool=>some .bool
  | some .string=>some .str
  | some (.slice e)=>match a8B P n e with | some t=>some (.list t) | none=>none
  | some (.struct fs)=>tyFields (fun t=>a8B P n t) (fs.toList.map (·.type))
  | _=>none
where tyFields (f : TypeId→Option Ty) : List TypeId→Option Ty
 | []=>none
 | [t]=>f t
 | t :: r=>match f t,tyFields f r with
  | some a,some b=>some (.prod a b)
  | _,_=>none
def bCC : List Nat:=[]
def aE3 : List Nat→Nat→Bool
 | [],_=>false
 | a :: r,t=>bif Nat.beq a t then true else aE3 r t
def bEC : List Nat:=[130,131]
def aP3 (P : Program) (t : TypeId) : Option (TypeId×Ty):=match P.underlying t with
 | some (.slice e)=>match P.underlying e with
  | some (.slice e2)=>match k9 P e,k9 P e2 with
   | some n,some m=>bif Nat.beq n 1 then some (e,.hnd m) else none
   | _,_=>none
  | _=>none
 | _=>none
def wF (P : Program) (t : TypeId) : Option (TypeId×Ty):=bif aE3 bCC t then none else bif aE3 bEC t then aP3 P t else match P.underlying t with
 | some (.slice e)=>match a8B P 6 e,k9 P e with
  | some ty,some n=>bif Nat.beq n ty.size then some (e,ty) else none
  | _,_=>none
 | _=>none

def vW (a b : Ty) (l : List a.den) : Option (List b.den):=if h : a = b then some (h ▸ l) else none
theorem l4 {a b : Ty} {l : List a.den} {l' : List b.den} (h : vW a b l = some l') : ∃ e : a = b,e ▸ l = l':=by
 unfold vW at h
 split at h
 ·rename_i e; exact ⟨e,by simpa using h⟩
 ·cases h
def pC {α : Type} (f : List PV→Option α) (sz : Nat) : Nat→List PV→Option (List α)
 | 0,[]=>some []
 | 0,_ :: _=>none
 | n + 1,cs=>match f (cs.take sz) with
  | some x=>match pC f sz n (cs.drop sz) with
   | some l=>some (x :: l)
   | none=>none
  | none=>none
def aH8 (k : IntKind) : List PV→Option Int
 | [.lit (.int d n)]=>bif zA k d then some n else none
 | _=>none
def YX : List PV→Option Bool
 | [.lit (.bool b)]=>some b
 | _=>none
def aJI : List PV→Option ByteArray
 | [.lit (.string s)]=>some s
 | _=>none
def aID (t : Ty) (f : List PV→Option t.den) : List PV→Option (List t.den)
 | [.tl u l _ _]=>vW u t l
 | [.lit (.slice none n _)]=>bif Nat.beq n 0 then some [] else none
 | [.vals cs n _]=>pC f t.size n cs
 | _=>none
def aIP (sz : Nat) : List PV→Option (Nat×Nat×Nat)
 | [.row j lo n s]=>bif Nat.beq s sz then some (j,lo,n) else none
 | [.lit (.slice none n _)]=>bif Nat.beq n 0 then some (0,0,0) else none
 | _=>none
def dec : (t : Ty)→List PV→Option t.den
 | .hnd sz,cs=>aIP sz cs
 | .rows _,_=>none
 | .int k,cs=>aH8 k cs
 | .bool,cs=>YX cs
 | .str,cs=>aJI cs
 | .list t,cs=>aID t (fun cs=>dec t cs) cs
 | .prod a b,cs=>match dec a (cs.take a.size) with
  | some x=>match dec b (cs.drop a.size) with
   | some y=>some (x,y)
   | none=>none
  | none=>none

abbrev yG:=Option (List Bool×PV×Heap×Nat)
def aHF (H : Heap) (r : Nat) : Option Tg:=match fZ H r with | some k=>k.tag | none=>none

def Q6 : Nat→Heap→Option (Nat×Blk)
 | _,[]=>none
 | r,none :: H=>Q6 (r + 1) H
 | r,some k :: H=>match k.tag with
  | some ⟨.rows _,_⟩=>bif k.grown then Q6 (r + 1) H else some (r,k)
  | _=>Q6 (r + 1) H
def gI {α : Type} (l : List (List α)) (j off : Nat) (d : α) : α:=(l.getD j []).getD off d
def eU {α : Type} (l : List (List α)) (j : Nat) : Nat:=(l.getD j []).length
def wB {α : Type} (l : List (List α)) (j off : Nat) (x : α) : List (List α):=l.set j ((l.getD j []).set off x)
def lU (P : Program) (H : Heap) (t : TypeId) (x : PV) (i : Int) : yG :=
 match P.underlying t with
 | some (.slice e)=>match k9 P e with
  | some n=>match x with
   | .tl ty l _ _=>bif Nat.beq n ty.size then some ([aQ i l.length],aSV ty l i.toNat 0,H,0) else none
   | .own r sz=>match aHF H r with
    | some g=>bif Nat.beq n sz && Nat.beq sz g.t.size then some ([aQ i g.l.length],.op r i.toNat 0 sz,H,1) else none
    | none=>none
   | .win r lo m sz=>bif Nat.beq n sz then some ([aQ i m],.op r (lo + i.toNat) 0 sz,H,0) else none
   | .row j lo m sz=>bif Nat.beq n sz then some ([aQ i m],.rp j ((lo + i.toNat) * sz),H,0) else none
   | _=>none
  | none=>none
 | some (.array n e)=>match k9 P e with
  | some sz=>match x with
   | .tp ty l j off _=>some ([aQ i n],aSV ty l j (off + i.toNat * sz),H,0)
   | _=>none
  | none=>none
 | _=>none
def qN (P : Program) (H : Heap) (s : TypeId) (f : Nat) (x : PV) : yG :=
 match PB P s f with
 | some fd=>match k9 P fd.type with
  | some (_ + 1)=>match x with
   | .tp t l i off _=>some ([],aSV t l i (off + fd.offset),H,0)
   | .op r i off sz=>some ([],.op r i (off + fd.offset) sz,H,0)
   | _=>none
  | _=>none
 | none=>none
def ZN (P : Program) (H : Heap) (T : TypeId) (a : PV) : yG :=
 match a with
 | .tp t l i off _=>match rF P T ((enc t (l.getD i t.aIH)).drop off) with
  | some v=>some ([],v,H,0)
  | none=>none
 | .op r i off sz=>match aHF H r with
  | some g=>bif Nat.beq sz g.t.size then match rF P T ((enc g.t (g.l.getD i g.t.aIH)).drop off) with
    | some v=>some ([Nat.blt i g.l.length],v,H,1)
    | none=>none
   else none
  | none=>none
 | .rp j off=>match Q6 0 H with
  | some (_,k)=>match k.tag with
   | some ⟨.rows t,l⟩=>bif Nat.beq t.size 1 && !Nat.beq k.ty DK then match rF P T (enc t (gI l j off t.aIH)) with
     | some v=>some ([Nat.blt off (eU l j)],v,H,1)
     | none=>none
    else none
   | _=>none
  | none=>none
 | _=>none
def ZP (P : Program) (H : Heap) (T : TypeId) (a v : PV) : yG :=
 match a with
 | .op r i off sz=>match fZ H r with
  | some k=>match k.tag with
   | some g=>match mN v,k9 P T with
    | some new,some n=>bif Nat.beq new.length n && Nat.beq sz g.t.size && !k.frozen && Nat.ble (off + n) sz && new.all zE then
      match dec g.t (HP (enc g.t (g.l.getD i g.t.aIH)) off new) with
      | some x=>some ([Nat.blt i g.l.length],.lit undef,H.set r (some { k with cells:=aJ g.t (g.l.set i x),tag:=some ⟨g.t,g.l.set i x⟩ }),2)
      | none=>none
     else none
    | _,_=>none
   | none=>none
  | none=>none
 | .rp j off=>match Q6 0 H with
  | some (r,k)=>match k.tag with
   | some ⟨.rows t,l⟩=>match mN v,k9 P T with
    | some new,some n=>bif Nat.beq new.length 1 && Nat.beq n 1 && Nat.beq t.size 1 && !Nat.beq k.ty DK && new.all zE then
      match dec t new with
      | some x=>some ([Nat.blt off (eU l j)],.lit undef,H.set r (some { k with cells:=aJ (.rows t) (wB l j off x),tag:=some ⟨.rows t,wB l j off x⟩ }),2)
      | none=>none
     else none
    | _,_=>none
   | _=>none
  | none=>none
 | _=>none
def aIY (P : Program) (H : Heap) (tys : Array TypeId) (x : PV) : yG :=
 match tys.toList with
 | t :: _=>match P.underlying t with
  | some (.slice _)=>match x with
   | .tl _ l _ _=>some ([],.lit (goInt l.length),H,0)
   | .own r _=>match aHF H r with
    | some g=>some ([],.lit (goInt g.l.length),H,1)
    | none=>none
   | .win _ _ n _=>some ([],.lit (goInt n),H,0)
   | .row _ _ n _=>some ([],.lit (goInt n),H,0)
   | _=>none
  | _=>none
 | _=>none
def X4 (x : Option PV) (d : Nat) : Option (Bool×Nat) :=
 match x with
 | none=>some (true,d)
 | some (.lit (.int _ i))=>some (!ltI i 0,i.toNat)
 | _=>none
def aAB : Ty→Bool
 | .hnd _=>true
 | _=>false
def YT (g : Tg) (H : Heap) (r sz : Nat) (lo hi : Option PV) (z : Bool) : yG:=match X4 lo 0,X4 hi g.l.length with
 | some (b1,i),some (b2,j)=>bif z then some ([b1,b2,Nat.beq i 0,Nat.beq j 0],.own r sz,H,1) else some ([b1,b2,Nat.ble i j,Nat.ble j g.l.length,Nat.blt i g.l.length],.win r i (j - i) sz,H,1)
 | _,_=>none
def EI (P : Program) (H : Heap) (t : TypeId) (x : PV) (lo hi : Option PV) : yG :=
 match P.underlying t with
 | some (.slice e)=>match k9 P e with
  | some n=>match x with
   | .tl ty l _ _=>bif Nat.beq n ty.size then match X4 lo 0,X4 hi l.length with
     | some (b1,i),some (b2,j)=>some ([b1,b2,Nat.ble i j,Nat.ble j l.length],qL ty ((l.drop i).take (j - i)) none,H,0)
     | _,_=>none
    else none
   | .own r sz=>match aHF H r with
    | some g=>bif Nat.beq n sz then YT g H r sz lo hi (aAB g.t && Nat.beq g.l.length 0) else none
    | none=>none
   | .win r l0 m sz=>bif Nat.beq n sz then match X4 lo 0,X4 hi m with
     | some (b1,i),some (b2,j)=>some ([b1,b2,Nat.ble i j,Nat.ble j m,Nat.blt i m],.win r (l0 + i) (j - i) sz,H,0)
     | _,_=>none
    else none
   | .row r l0 m sz=>bif Nat.beq n sz then match X4 lo 0,X4 hi m with
     | some (b1,i),some (b2,j)=>some ([b1,b2,Nat.ble i j,Nat.ble j m],.row r (l0 + i) (j - i) sz,H,0)
     | _,_=>none
    else none
   | _=>none
  | none=>none
 | _=>none
def aHK (H : Heap) (ty : Ty) (x : PV) : Option (List ty.den) :=
 match x with
 | .tl u l _ _=>vW u ty l
 | .own r _=>match aHF H r with
  | some g=>vW g.t ty g.l
  | none=>none
 | .lit (.slice none n _)=>bif Nat.beq n 0 then some [] else none
 | .vals cs n _=>pC (dec ty) ty.size n cs
 | .win r lo n sz=>match aHF H r with
  | some g=>match vW g.t ty g.l with
   | some l=>bif Nat.beq sz ty.size then some ((l.drop lo).take n) else none
   | none=>none
  | none=>none
 | _=>none
def aCN (H : Heap) (e : TypeId) (ty : Ty) (l : List ty.den) (cs : List Bool) : yG :=
 some (cs,.own H.length ty.size,H ++ [some ⟨aJ ty l,e,true,false,some ⟨ty,l⟩⟩],2)
def spl {α : Type} (l : List α) (i : Nat) (new : List α) : List α:=l.take i ++ (new ++ l.drop (i + new.length))
def TF (P : Program) (H : Heap) (tys : Array TypeId) (s x : PV) : yG :=
 match tys.toList with
 | [t,u]=>match P.underlying u with
  | some (.int _) | none=>none
  | some _=>match wF P t with
   | some (e,ty)=>match P.info? e with
    | some i=>match i.zero with
     | some z=>bif Nat.ble i.bytes 65536 && Nat.beq z.cells.size i.size then match aHK H ty x with
      | some new=>match s with
       | .lit (.slice none m c)=>bif Nat.beq m 0 && Nat.beq c 0 then aCN H e ty new [Nat.ble new.length 1048576] else none
       | .own r sz=>match fZ H r with
        | some k=>match k.tag with
         | some g=>match vW g.t ty g.l with
          | some l=>bif Nat.beq sz ty.size && !k.frozen && Nat.beq k.ty e && k.grown then aCN (H.set r none) e ty (l ++ new) [Nat.ble new.length 1048576,Nat.ble l.length 1048576] else none
          | none=>none
         | none=>none
        | none=>none
       | .win r lo n sz=>match fZ H r with
        | some k=>match k.tag with
         | some g=>match vW g.t ty g.l with
          | some l=>bif Nat.beq sz ty.size && !k.frozen && Nat.beq k.ty e then
            some ([Nat.ble (lo + n + new.length) l.length],.win r lo (n + new.length) sz,H.set r (some { k with cells:=aJ ty (spl l (lo + n) new),tag:=some ⟨ty,spl l (lo + n) new⟩ }),2) else none
          | none=>none
         | none=>none
        | none=>none
       | .tl u l (some c) _=>match vW u ty l with
        | some l=>bif Nat.beq c 0 then aCN H e ty new [Nat.ble new.length 1048576] else
          aCN H e ty (l ++ new) [Nat.ble new.length 1048576,Nat.ble l.length 1048576,Nat.blt c (l.length + new.length)]
        | none=>none
       | _=>none
      | none=>none
      else none
     | none=>none
    | none=>none
   | none=>none
 | _=>none
def wI (H : Heap) : List (Nat×PV)→Option (List (Nat×PV))
 | []=>some []
 | (i,p) :: r=>match inlT H p with
  | some q=>match wI H r with
   | some qs=>some ((i,q) :: qs)
   | none=>none
  | none=>none
where inlT (H : Heap) : PV→Option PV
 | .own r _=>match fZ H r with
  | some k=>match k.tag with
   | some g=>bif k.frozen then some (qL g.t g.l none) else none
   | none=>none
  | none=>none
 | p=>bif c6 p then some p else none
def owns : List (Nat×PV)→List Nat
 | []=>[]
 | (_,.own r _) :: l=>r :: owns l
 | _ :: l=>owns l
def T1 (H : Heap) (r : Nat) : Heap:=match fZ H r with
 | some k=>bif k.frozen then H else H.set r (some { k with frozen:=true })
 | none=>H
def B8 : Heap→List Nat→Heap
 | H,[]=>H
 | H,r :: rs=>B8 (T1 H r) rs
def aGP (H : Heap) (sz r : Nat) : Option (PV×Heap):=match Q6 0 H with
 | some (ra,k)=>match k.tag with
  | some ⟨.rows t,l⟩=>match fZ H r with
   | some b=>match b.tag with
    | some g=>match vW g.t t g.l with
     | some row=>bif !b.frozen && b.grown && Nat.beq b.ty k.ty && !Nat.beq k.ty DK && Nat.beq t.size sz then
       some (.row l.length 0 row.length sz,((H.set r none).set ra none) ++ [some ⟨aJ (.rows t) (l ++ [row]),k.ty,false,k.frozen,some ⟨.rows t,l ++ [row]⟩⟩])
      else none
     | none=>none
    | none=>none
   | none=>none
  | _=>none
 | none=>none
def RB (F : Frm) (ty : Ty) (len : Nat) (parts : List (Nat×Operand)) : Option (Nat×Nat):=match ty with
 | .hnd sz=>match parts with
  | [(0,x)]=>match ev F x with
   | .own r s=>bif Nat.beq len 1 && Nat.beq s sz then some (r,sz) else none
   | _=>none
  | _=>none
 | _=>none
def oZ (P : Program) (F : Frm) (H : Heap) (t : TypeId) (len : Nat) (parts : List (Nat×Operand)) : yG :=
 match wF P t with
 | some (e,ty)=>match sT P e with
  | some z=>bif Nat.ble (len * ty.size) 16777216 && Nat.ble 1 z.cells.size then
   match RB F ty len parts with
   | some (r,sz)=>match aGP H sz r with
    | some (q,H1)=>match BR (fun i=>some (i * ty.size,ty.size)) (xA z (len * ty.size)) [(0,q)] with
     | some cs=>match pC (dec ty) ty.size len cs with
      | some l=>some ([],qL ty l (some len),H1,2)
      | none=>none
     | none=>none
    | none=>none
   | none =>
   match owns (parts.map fun p=>(p.1,ev F p.2)) with
   | []=>match wI [] (parts.map fun p=>(p.1,ev F p.2)) with
    | some ps=>match BR (fun i=>some (i * ty.size,ty.size)) (xA z (len * ty.size)) ps with
     | some cs=>match pC (dec ty) ty.size len cs with
      | some l=>some ([],qL ty l (some len),H,0)
      | none=>none
     | none=>none
    | none=>none
   | r :: rs=>match B8 H (r :: rs) with
    | H1=>match wI H1 (parts.map fun p=>(p.1,ev F p.2)) with
     | some ps=>match BR (fun i=>some (i * ty.size,ty.size)) (xA z (len * ty.size)) ps with
      | some cs=>match pC (dec ty) ty.size len cs with
       | some l=>some ([],qL ty l (some len),H1,2)
       | none=>none
      | none=>none
     | none=>none
   else none
  | none=>none
 | none=>none
def BV (P : Program) (H : Heap) (t : TypeId) (l c : PV) : yG :=
 match wF P t,l,c with
 | some (e,ty),.lit (.int _ l),.lit (.int _ c)=>match P.info? e with
  | some i=>match i.zero with
   | some z=>match dec ty (lits z.cells) with
    | some d=>bif Nat.ble i.bytes 65536 && Nat.beq z.cells.size i.size then
      some ([!ltI l 0,!ltI c l,!ltI 1048576 c],.own H.length ty.size,H ++ [some ⟨aJ ty (List.replicate l.toNat d),e,true,false,some ⟨ty,List.replicate l.toNat d⟩⟩],2)
     else none
    | none=>none
   | none=>none
  | none=>none
 | _,_,_=>none

def clr {α : Type} (l : List α) (lo n : Nat) (d : α) : List α:=l.take lo ++ (List.replicate n d ++ l.drop (lo + n))
def aBG (P : Program) (H : Heap) (tys : Array TypeId) (x : PV) : yG :=
 match tys.toList with
 | t :: _=>match wF P t with
  | some (e,_)=>match sT P e with
   | some z=>match x with
    | .win r lo n sz=>match fZ H r with
     | some k=>match k.tag with
      | some g=>match dec g.t (lits z.cells) with
       | some d=>bif Nat.beq sz g.t.size && Nat.beq z.cells.size sz && !k.frozen && (lits z.cells).all zE then
         some ([Nat.ble (lo + n) g.l.length],.tuple [],H.set r (some { k with cells:=aJ g.t (clr g.l lo n d),tag:=some ⟨g.t,clr g.l lo n d⟩ }),2) else none
       | none=>none
      | none=>none
     | none=>none
    | _=>none
   | none=>none
  | none=>none
 | _=>none

def aDZ (P : Program) (H : Heap) (t : TypeId) (op : BinOp) (x y : PV) : yG :=
 match P.underlying t with
 | some (.slice _)=>match y with
  | .lit (.slice none _ _)=>match x with
   | .tl _ l _ _=>match op with
    | .eql=>some ([Nat.blt 0 l.length],.lit (.bool false),H,0)
    | .neq=>some ([Nat.blt 0 l.length],.lit (.bool true),H,0)
    | _=>none
   | .win _ _ _ _=>match op with
    | .eql=>some ([],.lit (.bool false),H,0)
    | .neq=>some ([],.lit (.bool true),H,0)
    | _=>none
   | _=>none
  | _=>none
 | _=>none
def bBE (x y : PV) : Bool:=match x,y with
 | .tl ..,.lit (.slice none _ _)=>true
 | .win ..,.lit (.slice none _ _)=>true
 | _,_=>false
def isS : PV→Bool
 | .lit (.string _)=>true
 | _=>false
def eqS (a b : ByteArray) : Bool:=a.data.toList == b.data.toList
def ltS (a b : ByteArray) : Bool:=Op.bytesLess a.data.toList b.data.toList
def aDQ (s : ByteArray) (i : Nat) : Int:=match s[i]? with
 | some b=>b.toNat
 | none=>0
def bD2 (op : BinOp) (a b : ByteArray) : Option (List Bool×Value):=match op with
 | .add=>some ([Nat.ble (a.size + b.size) 9223372036854775807],.string (a ++ b))
 | .eql=>some ([],.bool (eqS a b))
 | .neq=>some ([],.bool (!eqS a b))
 | .lss=>some ([],.bool (ltS a b))
 | .leq=>some ([],.bool (ltS a b || eqS a b))
 | .gtr=>some ([],.bool (!(ltS a b || eqS a b)))
 | .geq=>some ([],.bool (!ltS a b))
 | _=>none
def aKL (H : Heap) (r : Option (List Bool×Value)) : yG:=match r with
 | some (cs,v)=>some (cs,.lit v,H,0)
 | none=>none
def a9H (P : Program) (t : TypeId) (x i : PV) : Option (List Bool×Value):=match P.underlying t,x,i with
 | some .string,.lit (.string s),.lit (.int _ i)=>some ([aQ i s.size],.int .u8 (aDQ s i.toNat))
 | _,_,_=>none
def aO3 (P : Program) (t : TypeId) (x : PV) (lo hi : Option PV) : Option (List Bool×Value):=match P.underlying t,x with
 | some .string,.lit (.string s)=>match X4 lo 0,X4 hi s.size with
  | some (b1,i),some (b2,j)=>some ([b1,b2,Nat.ble i j,Nat.ble j s.size],.string (s.extract i j))
  | _,_=>none
 | _,_=>none
def a7U (op : BinOp) (x y : PV) : Option (List Bool×Value):=match x,y with
 | .lit (.string a),.lit (.string b)=>bD2 op a b
 | _,_=>none
def QC : List ByteArray→ByteArray→Bool
 | [],_=>false
 | x :: r,s=>bif eqS x s then true else QC r s
def aO9 (r : List ByteArray) (s : ByteArray) : List ByteArray:=bif QC r s then r else r ++ [s]
def aOD (l : List (List ByteArray)) (j : Nat) (s : ByteArray) : List (List ByteArray):=l.set j (aO9 (l.getD j []) s)
def aF0 (P : Program) (t : TypeId) : Bool:=match P.underlying t with
 | some (.map k e)=>match P.underlying k with
  | some .string=>match sT P e with
   | some (.bool false)=>true
   | _=>false
  | _=>false
 | _=>false
def bD7 : PV→Bool
 | .mp _=>true
 | _=>false
def aFM (H : Heap) : Option (Nat×Blk×List (List ByteArray)):=match Q6 0 H with
 | some (r,k)=>match k.tag with
  | some ⟨.rows .str,l⟩=>bif Nat.beq k.ty DK then some (r,k,l) else none
  | _=>none
 | none=>none
def KQ (P : Program) (H : Heap) (t : TypeId) : yG:=match aFM H with
 | some (r,k,l)=>bif aF0 P t then some ([],.mp l.length,(H.set r none) ++ [some ⟨aJ (.rows .str) (l ++ [[]]),k.ty,false,k.frozen,some ⟨.rows .str,l ++ [[]]⟩⟩],2) else none
 | none=>none
def Y0 (P : Program) (H : Heap) (t : TypeId) (m k : PV) : yG:=match m,k with
 | .mp j,.lit (.string s)=>match aFM H with
  | some (_,_,l)=>bif aF0 P t then some ([Nat.blt j l.length],.lit (.bool (QC (l.getD j []) s)),H,1) else none
  | none=>none
 | _,_=>none
def SV (P : Program) (H : Heap) (t : TypeId) (m k v : PV) : yG:=match m,k,v with
 | .mp j,.lit (.string s),.lit (.bool true)=>match aFM H with
  | some (r,b,l)=>bif aF0 P t then some ([Nat.blt j l.length],.lit undef,H.set r (some { b with cells:=aJ (.rows .str) (aOD l j s),tag:=some ⟨.rows .str,aOD l j s⟩ }),2) else none
  | none=>none
 | _,_,_=>none
def isT : PV→Bool
 | .tl .. | .own .. | .win .. | .row ..=>true
 | _=>false
def aEX : PV→Bool
 | .tp .. | .op .. | .rp ..=>true
 | _=>false
def a7Y : PV→Bool
 | .tl .. | .own .. | .win .. | .lit (.slice none _ _)=>true
 | _=>false
def isConst : Operand→Bool
 | .const _=>true
 | _=>false
def bB8 (P : Program) (t : TypeId) : Bool:=match wF P t with
 | some (_,.list _)=>true
 | _=>false
def typed (P : Program) (F : Frm) (o : Oper) : Bool :=
 match o.op with
 | .indexAddr _ x _=>isT (ev F x) || aEX (ev F x)
 | .fieldAddr _ x _=>aEX (ev F x)
 | .load _ a=>aEX (ev F a)
 | .store _ a _=>aEX (ev F a)
 | .nilCheck x=>aEX (ev F x)
 | .slice _ x _ _ none=>isT (ev F x) || isS (ev F x)
 | .index _ x _=>isS (ev F x)
 | .makeMap t none=>aF0 P t
 | .lookup _ m _ false=>bD7 (ev F m)
 | .mapUpdate _ m _ _=>bD7 (ev F m)
 | .buildSlice t _ _=>(wF P t).isSome
 | .makeSlice t l _=>(wF P t).isSome && !(isConst l && bB8 P t)
 | .binOp _ _ x y _=>bBE (ev F x) (ev F y) || (isS (ev F x) && isS (ev F y))
 | .call c=>match c.callee with
  | .builtin .len=>isT (ev F (c.args.getD 0 (.const undef)))
  | .builtin .clear=>isT (ev F (c.args.getD 0 (.const undef)))
  | .builtin .append=>match c.args.toList,c.argTypes.toList with
   | [s,_],t :: _=>a7Y (ev F s) && (wF P t).isSome
   | _,_=>false
  | _=>false
 | _=>false
def top (P : Program) (F : Frm) (H : Heap) (o : Oper) : yG :=
 match o.op with
 | .indexAddr t x i=>match ev F i with
  | .lit (.int _ i)=>lU P H t (ev F x) i
  | _=>none
 | .fieldAddr s x f=>qN P H s f (ev F x)
 | .load T a=>ZN P H T (ev F a)
 | .store T a v=>ZP P H T (ev F a) (ev F v)
 | .nilCheck x=>some ([],ev F x,H,0)
 | .slice t x lo hi none=>bif isS (ev F x) then aKL H (aO3 P t (ev F x) (lo.map (ev F)) (hi.map (ev F))) else EI P H t (ev F x) (lo.map (ev F)) (hi.map (ev F))
 | .index t x i=>aKL H (a9H P t (ev F x) (ev F i))
 | .makeMap t none=>KQ P H t
 | .lookup t m k false=>Y0 P H t (ev F m) (ev F k)
 | .mapUpdate t m k v=>SV P H t (ev F m) (ev F k) (ev F v)
 | .buildSlice t n parts=>oZ P F H t n parts.toList
 | .makeSlice t l c=>BV P H t (ev F l) (ev F c)
 | .binOp op t x y _=>bif isS (ev F x) then aKL H (a7U op (ev F x) (ev F y)) else aDZ P H t op (ev F x) (ev F y)
 | .call c=>match c.callee with
  | .builtin .len=>match c.args.toList with
   | [x]=>aIY P H c.argTypes (ev F x)
   | _=>none
  | .builtin .append=>match c.args.toList with
   | [s,x]=>TF P H c.argTypes (ev F s) (ev F x)
   | _=>none
  | .builtin .clear=>match c.args.toList with
   | [x]=>aBG P H c.argTypes (ev F x)
   | _=>none
  | _=>none
 | _=>none
def uK : List Bool→Bool
 | []=>true
 | b :: r=>bif b then uK r else false
def opx (P : Program) (cl : Callee) (F : Frm) (H : Heap) (o : Oper) : Option (PV×Heap×Nat) :=
 bif typed P F o then match top P F H o with
  | some (cs,v,H',c)=>bif uK cs then some (v,H',c) else none
  | none=>none
 else opu P cl F H o
end Go.PM
set_option linter.unusedSimpArgs false
set_option linter.unusedVariables false
namespace Go.PM
open Go Go.RowKit
theorem jF : ∀ (t : Ty) (x : t.den),(enc t x).length = t.size
 | .hnd _,_=>rfl
 | .rows _,_=>rfl
 | .int _,_=>rfl
 | .bool,_=>rfl
 | .str,_=>rfl
 | .list _,_=>rfl
 | .prod a b,(x,y)=>by simp only [enc,List.length_append,jF a x,jF b y,Ty.size]
theorem ER : ∀ {a b : List PV},c6.noRefs a = true→c6.noRefs b = true→c6.noRefs (a ++ b) = true
 | [],_,_,h=>h
 | p :: a,b,h,k=>by
  simp only [List.cons_append,c6.noRefs,Bool.and_eq_true] at h ⊢
  exact ⟨h.1,ER h.2 k⟩
theorem wR : ∀ (t : Ty) (x : t.den),c6.noRefs (enc t x) = true
 | .hnd _,_=>rfl
 | .rows _,_=>rfl
 | .int _,_=>rfl
 | .bool,_=>rfl
 | .str,_=>rfl
 | .list _,_=>rfl
 | .prod a b,(x,y)=>ER (wR a x) (wR b y)
theorem fO (t : Ty) (x : t.den) (l : List t.den) : aJ t (x :: l) = enc t x ++ aJ t l:=by simp [aJ]
theorem iT (t : Ty) (l m : List t.den) : aJ t (l ++ m) = aJ t l ++ aJ t m:=by simp [aJ]
theorem bB (t : Ty) : ∀ l : List t.den,(aJ t l).length = l.length * t.size
 | []=>by simp [aJ]
 | x :: l=>by rw [fO,List.length_append,jF,bB t l,List.length_cons,Nat.add_mul]; omega
theorem fL (t : Ty) : ∀ l : List t.den,c6.noRefs (aJ t l) = true
 | []=>rfl
 | x :: l=>by rw [fO]; exact ER (wR t x) (fL t l)
theorem oV (t : Ty) : ∀ (i : Nat) (l : List t.den),(aJ t l).drop (i * t.size) = aJ t (l.drop i)
 | 0,l=>by simp
 | i + 1,[]=>by simp [aJ]
 | i + 1,x :: l=>by
  rw [fO,List.drop_succ_cons,Nat.add_mul,Nat.one_mul,Nat.add_comm,← List.drop_drop,List.drop_left' (jF t x)]
  exact oV t i l
theorem oU (t : Ty) : ∀ (i : Nat) (l : List t.den),(aJ t l).take (i * t.size) = aJ t (l.take i)
 | 0,l=>by simp [aJ]
 | i + 1,[]=>by simp [aJ]
 | i + 1,x :: l=>by
  rw [fO,List.take_succ_cons,fO,List.take_append,jF,List.take_of_length_le (by rw [jF,Nat.add_mul]; omega)]
  congr 1
  have : (i + 1) * t.size - t.size = i * t.size:=by rw [Nat.add_mul]; omega
  rw [this]
  exact oU t i l
theorem WC (t : Ty) {l : List t.den} {i : Nat} (h : i < l.length) (off : Nat) : ∃ rest,(aJ t l).drop (i * t.size + off) = (enc t (l.getD i t.aIH)).drop off ++ rest:=by
 have hd : l.drop i = l[i] :: l.drop (i + 1):=List.drop_eq_getElem_cons h
 have hg : l.getD i t.aIH = l[i]:=by simp [List.getD_eq_getElem?_getD,h]
 rw [← List.drop_drop,oV,hd,fO,hg,List.drop_append]
 exact ⟨_,rfl⟩

section
variable {P : Program} {n0 : Nat→Prop} {w : World} {G : Gd} {μ : Mp} {H : Heap}
theorem HS {T : TypeId} {a : List PV} {v : PV} (b : List PV) (h : rF P T a = some v) : rF P T (a ++ b) = some v:=by
 unfold rF at h ⊢
 split at h
 ·rename_i ha
  split at h
  ·rename_i n hn
   cases hb : Nat.ble n a.length with
   | false=>rw [hb] at h; cases h
   | true =>
    rw [hb] at h
    have hle:=Nat.le_of_ble_eq_true hb
    have : Nat.ble n (a ++ b).length = true:=Nat.ble_eq_true_of_le (by rw [List.length_append]; omega)
    rw [this,List.take_append_of_le_length hle]
    exact h
  ·cases h
 ·cases a with
  | nil=>cases h
  | cons x a=>exact h
 ·cases h

theorem H6 {t : Ty} {l : List t.den} {cap : Option Nat} {e : PV} {v : Value} (h : VR w G μ (.tl t l cap e) v) : VR w G aL (.vals (aJ t l) l.length cap) v:=by
 rw [VR] at h
 obtain ⟨h1,rfl⟩:=h
 exact h1
theorem R4 {t : Ty} {l : List t.den} {cap : Option Nat} {v : Value} (h : VR w G aL (.vals (aJ t l) l.length cap) v) : VR w G μ (qL t l cap) v:=by
 unfold qL
 rw [VR]
 exact ⟨h,rfl⟩
theorem aT5 {cs : List PV} {n : Nat} {cap : Option Nat} {v : Value} (h : VR w G aL (.vals cs n cap) v) : VR w G aL (.vals cs n none) v:=by
 rw [VR] at h ⊢
 obtain ⟨ao,c,h1,h2,_,h3⟩:=h
 exact ⟨ao,c,h1,h2,fun k hk=>(by cases hk),h3⟩

theorem aP.iH {b off : Nat} {ps : List PV} {vs : List Value} (h : VRs w G μ ps vs) (hc : ∀ i (hi : i < vs.length),w.cell? ⟨b,off + i,none⟩ = some vs[i]) : aP w G μ b off ps :=
 aP.mk fun i p hp=>by
  obtain ⟨v,h1,h2⟩:=h.get hp
  obtain ⟨hlt,rfl⟩:=List.getElem?_eq_some_iff.1 h1
  exact ⟨_,hc i hlt,h2⟩

theorem xT {α : Type} {f : List PV→Option α} {g : α→List PV} {sz : Nat} (hf : ∀ cs x vs,f cs = some x→VRs w G μ cs vs→VRs w G aL (g x) vs) : ∀ {n : Nat} {cs : List PV} {l : List α} {vs : List Value},pC f sz n cs = some l→VRs w G μ cs vs→VRs w G aL (l.flatMap g) vs∧l.length = n
 | 0,[],l,vs,h,hv=>by
  simp only [pC,Option.some.injEq] at h
  subst h
  rw [VRs] at hv
  subst hv
  exact ⟨by simp [VRs],rfl⟩
 | 0,_ :: _,l,vs,h,hv=>by simp only [pC] at h; cases h
 | n + 1,cs,l,vs,h,hv=>by
  simp only [pC] at h
  split at h
  ·rename_i x hx
   split at h
   ·rename_i l' hl
    simp only [Option.some.injEq] at h
    subst h
    have h1:=hf _ x _ hx (hv.take sz)
    obtain ⟨h2,h3⟩:=xT hf hl (hv.drop sz)
    refine ⟨?_,by rw [List.length_cons,h3]⟩
    have:=h1.append h2
    rw [List.take_append_drop] at this
    simpa using this
   ·cases h
  ·cases h

theorem aZ4 {a b : Ty} {l : List a.den} {l' : List b.den} (h : vW a b l = some l') (cap : Option Nat) {v : Value} (hv : VR w G aL (.vals (aJ a l) l.length cap) v) : VR w G aL (.vals (aJ b l') l'.length cap) v:=by
 obtain ⟨rfl,rfl⟩:=l4 h
 exact hv
theorem AD {p : PV} {vs : List Value} (hv : VRs w G μ [p] vs) : ∃ v,vs = [v]∧VR w G μ p v:=by
 rw [VRs] at hv
 obtain ⟨v,xs,rfl,h1,h2⟩:=hv
 rw [VRs] at h2
 subst h2
 exact ⟨v,rfl,h1⟩
theorem LZ {k : IntKind} {cs : List PV} {n : Int} (h : aH8 k cs = some n) : cs = [.lit (.int k n)]:=by
 unfold aH8 at h
 split at h
 ·rename_i d m
  cases hk : zA k d with
  | false=>rw [hk] at h; cases h
  | true =>
   rw [hk] at h
   simp only [cond_true,Option.some.injEq] at h
   rw [MY hk,h]
 ·cases h
theorem HI {cs : List PV} {b : Bool} (h : YX cs = some b) : cs = [.lit (.bool b)]:=by
 unfold YX at h
 split at h
 ·simp only [Option.some.injEq] at h; rw [h]
 ·cases h
theorem L0 {cs : List PV} {b : ByteArray} (h : aJI cs = some b) : cs = [.lit (.string b)]:=by
 unfold aJI at h
 split at h
 ·simp only [Option.some.injEq] at h; rw [h]
 ·cases h
theorem aNH {t : Ty} {f : List PV→Option t.den} (hf : ∀ (μ : Mp) cs x vs,f cs = some x→VRs w G μ cs vs→VRs w G aL (enc t x) vs) {cs : List PV} {l : List t.den} {vs : List Value} (h : aID t f cs = some l) (hv : VRs w G μ cs vs) :
  ∃ v,vs = [v]∧VR w G aL (.vals (aJ t l) l.length none) v:=by
 unfold aID at h
 split at h
 ·rename_i u l' cap e
  obtain ⟨v,rfl,h1⟩:=AD hv
  exact ⟨v,rfl,aT5 (aZ4 h cap (H6 h1))⟩
 ·rename_i n c
  obtain ⟨v,rfl,h1⟩:=AD hv
  cases hn : Nat.beq n 0 with
  | false=>rw [hn] at h; cases h
  | true =>
   rw [hn] at h
   simp only [cond_true,Option.some.injEq] at h
   subst h
   have hn:=Nat.eq_of_beq_eq_true hn
   subst hn
   rw [VR] at h1
   refine ⟨v,rfl,?_⟩
   rw [VR]
   exact ⟨none,c,h1,Nat.zero_le _,fun k hk=>(by cases hk),.inl rfl⟩
 ·rename_i cs n cap
  obtain ⟨v,rfl,h1⟩:=AD hv
  rw [VR] at h1
  obtain ⟨ao,c,rfl,h2,_,h3⟩:=h1
  refine ⟨_,rfl,?_⟩
  rw [VR]
  rcases h3 with rfl | ⟨b,off,rfl,hg,hc⟩
  ·obtain ⟨h4,h5⟩:=xT (g:=enc t) (fun cs x vs h hv=>hf aL cs x vs h hv) h (vs:=[]) (by rw [VRs])
   refine ⟨ao,c,by rw [h5],by omega,fun k hk=>(by cases hk),.inl ?_⟩
   have:=h4.length
   exact List.eq_nil_of_length_eq_zero this
  ·obtain ⟨us,h4,h5⟩:=hc.values
   obtain ⟨h6,h7⟩:=xT (g:=enc t) (fun cs x vs h hv=>hf aL cs x vs h hv) h h4
   exact ⟨_,c,by rw [h7],by omega,fun k hk=>(by cases hk),.inr ⟨b,off,rfl,hg,aP.iH h6 h5⟩⟩
 ·cases h
theorem UZ {sz : Nat} {μ : Mp} {cs : List PV} {x : Nat×Nat×Nat} {vs : List Value} (h : aIP sz cs = some x) (hv : VRs w G μ cs vs) : VRs w G aL [.row x.1 x.2.1 x.2.2 sz] vs:=by
 unfold aIP at h
 split at h
 ·rename_i j lo n s
  cases hb : Nat.beq s sz with
  | false=>rw [hb] at h; cases h
  | true =>
  rw [hb] at h
  have hb:=Nat.eq_of_beq_eq_true hb
  subst hb
  simp only [cond_true,Option.some.injEq] at h
  subst h
  exact cH _ _ rfl hv
 ·rename_i n c
  cases hb : Nat.beq n 0 with
  | false=>rw [hb] at h; cases h
  | true =>
  rw [hb] at h
  have hb:=Nat.eq_of_beq_eq_true hb
  subst hb
  simp only [cond_true,Option.some.injEq] at h
  subst h
  rw [VRs] at hv ⊢
  obtain ⟨v,us,h1,h2,h3⟩:=hv
  rw [VR] at h2
  refine ⟨v,us,h1,?_,by rw [VRs] at h3 ⊢; exact h3⟩
  rw [VR]
  exact ⟨none,c,h2,Nat.zero_le _,.inl rfl⟩
 ·cases h
theorem oG : ∀ (t : Ty) (μ : Mp) (cs : List PV) (x : t.den) (vs : List Value),dec t cs = some x→VRs w G μ cs vs→VRs w G aL (enc t x) vs
 | .hnd sz,μ,cs,x,vs,h,hv=>by
  rw [dec] at h
  exact UZ h hv
 | .rows t,μ,cs,x,vs,h,hv=>by
  simp only [dec] at h
  cases h
 | .int k,μ,cs,x,vs,h,hv=>by
  rw [dec] at h
  rw [LZ h] at hv
  exact cH _ _ rfl hv
 | .bool,μ,cs,x,vs,h,hv=>by
  rw [dec] at h
  rw [HI h] at hv
  exact cH _ _ rfl hv
 | .str,μ,cs,x,vs,h,hv=>by
  rw [dec] at h
  rw [L0 h] at hv
  exact cH _ _ rfl hv
 | .list t,μ,cs,x,vs,h,hv=>by
  rw [dec] at h
  obtain ⟨v,rfl,h1⟩:=aNH (fun μ cs x vs h hv=>oG t μ cs x vs h hv) h hv
  simp only [enc]
  rw [VRs]
  exact ⟨_,[],rfl,by rw [VR]; exact ⟨h1,rfl⟩,by rw [VRs]⟩
 | .prod a b,μ,cs,(x,y),vs,h,hv=>by
  rw [dec] at h
  split at h
  ·rename_i x' hx
   split at h
   ·rename_i y' hy
    simp only [Option.some.injEq,Prod.mk.injEq] at h
    obtain ⟨rfl,rfl⟩:=h
    have h1:=oG a μ _ _ _ hx (hv.take a.size)
    have h2:=oG b μ _ _ _ hy (hv.drop a.size)
    have:=h1.append h2
    rw [List.take_append_drop] at this
    simpa only [enc] using this
   ·cases h
  ·cases h
end
end Go.PM
set_option linter.unusedSimpArgs false
set_option linter.unusedVariables false
namespace Go.PM
open Go Go.RowKit
theorem aX {b : Bool} {r : List Bool} (h : uK (b :: r) = true) : b = true∧uK r = true:=by
 cases b with
 | true=>exact ⟨rfl,h⟩
 | false=>cases h
theorem dP {m n : Nat} (h : Nat.blt m n = true) : m < n:=by rw [cY] at h; exact of_decide_eq_true h

section
variable {P : Program} {n0 : Nat→Prop} {w : World} {G : Gd} {μ : Mp} {H : Heap}
theorem AV {r : Nat} {g : Tg} (h : aHF H r = some g) : ∃ k,fZ H r = some k∧k.tag = some g:=by
 unfold aHF at h
 split at h
 ·rename_i k hk; exact ⟨k,hk,h⟩
 ·cases h

theorem kE {α : Type} {b : Bool} {x : Option α} {y : α} (h : (bif b then x else none) = some y) : b = true∧x = some y:=by
 cases b with
 | true=>exact ⟨rfl,h⟩
 | false=>cases h
theorem UG : ∀ {H : Heap} {r0 r : Nat} {k : Blk},Q6 r0 H = some (r,k)→∃ i,r = r0 + i∧H[i]? = some (some k)∧k.grown = false
 | [],_,_,_,h=>by cases h
 | none :: H,r0,r,k,h=>by
  obtain ⟨i,h1,h2,h3⟩:=UG (H:=H) h
  exact ⟨i + 1,by omega,by simpa using h2,h3⟩
 | some k0 :: H,r0,r,k,h=>by
  have next : Q6 (r0 + 1) H = some (r,k)→∃ i,r = r0 + i∧(some k0 :: H)[i]? = some (some k)∧k.grown = false:=fun h=>by
   obtain ⟨i,h1,h2,h3⟩:=UG (H:=H) h
   exact ⟨i + 1,by omega,by simpa using h2,h3⟩
  simp only [Q6] at h
  split at h
  ·cases hg : k0.grown with
   | true=>rw [hg] at h; exact next h
   | false =>
    rw [hg] at h
    simp only [cond_false,Option.some.injEq,Prod.mk.injEq] at h
    obtain ⟨rfl,rfl⟩:=h
    exact ⟨0,rfl,rfl,hg⟩
  ·exact next h
theorem FN {H : Heap} {r : Nat} {k : Blk} (h : Q6 0 H = some (r,k)) : H[r]? = some (some k)∧k.grown = false:=by
 obtain ⟨i,h1,h2,h3⟩:=UG h
 rw [Nat.zero_add] at h1
 subst h1
 exact ⟨h2,h3⟩
theorem XF {α : Type} {l : List (List α)} {j off : Nat} (h : off < eU l j) : ∃ row,l[j]? = some row∧off < row.length∧l.getD j [] = row:=by
 unfold eU at h
 rw [List.getD_eq_getElem?_getD] at h ⊢
 cases hj : l[j]? with
 | none=>rw [hj] at h; simp at h
 | some row=>rw [hj] at h; exact ⟨row,rfl,h,rfl⟩
theorem T9 (hW : aV n0 G μ H w) {t : TypeId} {p v : PV} {x : Value} {k : IntKind} {i : Int} {cs : List Bool} {H' : Heap} {c : Nat} (hp : VR w G μ p x) (h : lU P H t p i = some (cs,v,H',c)) (hcs : uK cs = true) :
  H' = H∧∃ v',(Instr.indexAt t x (.int k i)).run P w = .ok v' w∧VR w G μ v v':=by
 unfold lU at h
 split at h
 ·rename_i e hu
  split at h
  ·rename_i n hs
   split at h
   ·rename_i ty l cap ee
    cases hb : Nat.beq n ty.size with
    | false=>rw [hb] at h; cases h
    | true =>
     rw [hb] at h
     simp only [cond_true,Option.some.injEq,Prod.mk.injEq] at h
     obtain ⟨rfl,rfl,rfl,rfl⟩:=h
     refine ⟨rfl,?_⟩
     have hb:=Nat.eq_of_beq_eq_true hb
     subst hb
     have hi:=oI (aX hcs).1
     have hv:=H6 hp
     rw [VR] at hv
     obtain ⟨ao,c',rfl,h2,-,h3⟩:=hv
     have hlt : i.toNat < l.length:=by omega
     rcases h3 with h3 | ⟨b,off,rfl,hg,hc⟩
     ·have:=bB ty l
      rw [h3,List.length_nil] at this
      have hp:=ty.size_pos
      have : 0 < l.length * ty.size:=Nat.mul_pos (by omega) hp
      omega
     ·refine ⟨.pointer (some ⟨b,off + i.toNat * ty.size,none⟩),?_,?_⟩
      ·simp [Instr.indexAt,asIntOf,run_underlying hu,hi.1,hi.2,run_sizeOf hs,Addr.add_lit]
      ·unfold aSV
       rw [VR]
       refine ⟨?_,rfl,hlt⟩
       rw [VR]
       exact ⟨b,_,rfl,hg,by rw [Nat.add_zero]; exact hc.drop _⟩
   ·rename_i r sz
    split at h
    ·rename_i g hg
     cases hb : (Nat.beq n sz && Nat.beq sz g.t.size) with
     | false=>rw [hb] at h; cases h
     | true =>
      rw [hb] at h
      simp only [cond_true,Option.some.injEq,Prod.mk.injEq] at h
      obtain ⟨rfl,rfl,rfl,rfl⟩:=h
      refine ⟨rfl,?_⟩
      simp only [Bool.and_eq_true] at hb
      have hb1:=Nat.eq_of_beq_eq_true hb.1
      subst hb1
      have hi:=oI (aX hcs).1
      obtain ⟨kb,hk1,hk2⟩:=AV hg
      obtain ⟨ht1,ht2⟩:=hW.tags r kb g (aO hk1) hk2
      rw [VR] at hp
      obtain ⟨m,h1,h2⟩:=hp
      rw [ht2] at h1
      cases h1
      rcases h2 with ⟨h2,_⟩ | ⟨b,c',h3,rfl,h5,h6⟩
      ·omega
      ·refine ⟨.pointer (some ⟨b,i.toNat * n,none⟩),?_,?_⟩
       ·simp [Instr.indexAt,asIntOf,run_underlying hu,hi.1,hi.2,run_sizeOf hs,Addr.add_lit]
       ·rw [VR]
        exact ⟨b,h3,by simp⟩
    ·cases h
   ·rename_i r lo m sz
    obtain ⟨hb,h⟩:=kE h
    simp only [Option.some.injEq,Prod.mk.injEq] at h
    obtain ⟨rfl,rfl,rfl,rfl⟩:=h
    refine ⟨rfl,?_⟩
    have hb1:=Nat.eq_of_beq_eq_true hb
    subst hb1
    have hi:=oI (aX hcs).1
    rw [VR] at hp
    obtain ⟨b,c',_,h3,rfl,h5,h6,_⟩:=hp
    refine ⟨.pointer (some ⟨b,lo * n + i.toNat * n,none⟩),?_,?_⟩
    ·simp [Instr.indexAt,asIntOf,run_underlying hu,hi.1,hi.2,run_sizeOf hs,Addr.add_lit]
    ·rw [VR]
     exact ⟨b,h3,by rw [Nat.add_mul,Nat.add_zero]⟩
   ·rename_i j lo m sz
    obtain ⟨hb,h⟩:=kE h
    simp only [Option.some.injEq,Prod.mk.injEq] at h
    obtain ⟨rfl,rfl,rfl,rfl⟩:=h
    refine ⟨rfl,?_⟩
    have hb1:=Nat.eq_of_beq_eq_true hb
    subst hb1
    have hi:=oI (aX hcs).1
    rw [VR] at hp
    obtain ⟨ao,c',rfl,h3,h4⟩:=hp
    rcases h4 with h4 | ⟨b,h4,rfl,_⟩
    ·omega
    refine ⟨.pointer (some ⟨b,lo * n + i.toNat * n,none⟩),?_,?_⟩
    ·simp [Instr.indexAt,asIntOf,run_underlying hu,hi.1,hi.2,run_sizeOf hs,Addr.add_lit]
    ·rw [VR]
     exact ⟨b,h4,by rw [Nat.add_mul]⟩
   ·cases h
  ·cases h
 ·rename_i n e hu
  split at h
  ·rename_i sz hs
   split at h
   ·rename_i ty l j off ee
    simp only [Option.some.injEq,Prod.mk.injEq] at h
    obtain ⟨rfl,rfl,rfl,rfl⟩:=h
    refine ⟨rfl,?_⟩
    have hi:=oI (aX hcs).1
    rw [VR] at hp
    obtain ⟨h1,rfl,h3⟩:=hp
    rw [VR] at h1
    obtain ⟨b,o,rfl,hg,hc⟩:=h1
    refine ⟨.pointer (some ⟨b,o + i.toNat * sz,none⟩),?_,?_⟩
    ·simp [Instr.indexAt,asIntOf,run_underlying hu,hi.1,hi.2,run_sizeOf hs,Addr.add_lit,Instr.sureAddr]
    ·unfold aSV
     rw [VR]
     refine ⟨?_,rfl,h3⟩
     rw [VR]
     refine ⟨b,_,rfl,hg,?_⟩
     have:=hc.drop (i.toNat * sz)
     rwa [List.drop_drop,Nat.add_assoc] at this
   ·cases h
  ·cases h
 ·cases h

theorem VA {s : TypeId} {f : Nat} {p v : PV} {x : Value} {cs : List Bool} {H' : Heap} {c : Nat} (hp : VR w G μ p x) (h : qN P H s f p = some (cs,v,H',c)) : H' = H∧c = 0∧∃ v',(Instr.fieldAt s x f).run P w = .ok v' w∧VR w G μ v v':=by
 unfold qN PB at h
 split at h
 ·rename_i fd hfd
  split at hfd
  ·rename_i fs hu
   split at h
   ·rename_i n hs
    split at h
    ·rename_i t l i off e
     simp only [Option.some.injEq,Prod.mk.injEq] at h
     obtain ⟨rfl,rfl,rfl,rfl⟩:=h
     refine ⟨rfl,rfl,?_⟩
     rw [VR] at hp
     obtain ⟨h1,rfl,h3⟩:=hp
     rw [VR] at h1
     obtain ⟨b,o,rfl,hg,hc⟩:=h1
     refine ⟨.pointer (some ⟨b,o + fd.offset,none⟩),?_,?_⟩
     ·simp [Instr.fieldAt,run_underlying hu,hfd,Instr.sureAddr,fieldPlace,run_sizeOf hs,Addr.add_lit]
     ·unfold aSV
      rw [VR]
      refine ⟨?_,rfl,h3⟩
      rw [VR]
      refine ⟨b,_,rfl,hg,?_⟩
      have:=hc.drop fd.offset
      rwa [List.drop_drop,Nat.add_assoc] at this
    ·rename_i r i off sz
     simp only [Option.some.injEq,Prod.mk.injEq] at h
     obtain ⟨rfl,rfl,rfl,rfl⟩:=h
     refine ⟨rfl,rfl,?_⟩
     rw [VR] at hp
     obtain ⟨b,h1,rfl⟩:=hp
     refine ⟨.pointer (some ⟨b,i * sz + off + fd.offset,none⟩),?_,?_⟩
     ·simp [Instr.fieldAt,run_underlying hu,hfd,Instr.sureAddr,fieldPlace,run_sizeOf hs,Addr.add_lit]
     ·rw [VR]
      exact ⟨b,h1,by rw [Nat.add_assoc]⟩
    ·cases h
   ·cases h
  ·cases hfd
 ·cases h

theorem aMH (hW : aV n0 G μ H w) {T : TypeId} {p v : PV} {x : Value} {cs : List Bool} {H' : Heap} {c : Nat} (hp : VR w G μ p x) (h : ZN P H T p = some (cs,v,H',c)) (hcs : uK cs = true) : H' = H∧∃ v',(Instr.loadAt T x).run P w = .ok v' w∧VR w G μ v v':=by
 unfold ZN at h
 split at h
 ·rename_i t l i off e
  split at h
  ·rename_i u hu
   simp only [Option.some.injEq,Prod.mk.injEq] at h
   obtain ⟨rfl,rfl,rfl,rfl⟩:=h
   refine ⟨rfl,?_⟩
   rw [VR] at hp
   obtain ⟨h1,rfl,h3⟩:=hp
   rw [VR] at h1
   obtain ⟨b,o,rfl,hg,hc⟩:=h1
   obtain ⟨rest,hr⟩:=WC t h3 off
   rw [hr] at hc
   obtain ⟨v',h4,h5⟩:=yC (P:=P) hc (HS rest hu)
   exact ⟨v',by simp [Instr.loadAt,Instr.sureAddr,h4],h5.bD⟩
  ·cases h
 ·rename_i r i off sz
  split at h
  ·rename_i g hg
   cases hb : Nat.beq sz g.t.size with
   | false=>rw [hb] at h; cases h
   | true =>
    rw [hb] at h
    simp only [cond_true] at h
    split at h
    ·rename_i u hu
     simp only [Option.some.injEq,Prod.mk.injEq] at h
     obtain ⟨rfl,rfl,rfl,rfl⟩:=h
     refine ⟨rfl,?_⟩
     have hb:=Nat.eq_of_beq_eq_true hb
     subst hb
     have hlt:=dP (aX hcs).1
     obtain ⟨kb,hk1,hk2⟩:=AV hg
     obtain ⟨ht1,ht2⟩:=hW.tags r kb g (aO hk1) hk2
     rw [VR] at hp
     obtain ⟨b,h1,rfl⟩:=hp
     obtain ⟨c',g2,g3,_⟩:=hW.blk r kb b (aO hk1) h1
     rw [ht1] at g3
     obtain ⟨rest,hr⟩:=WC g.t hlt off
     have hd:=g3.drop (i * g.t.size + off)
     rw [Nat.zero_add,hr] at hd
     obtain ⟨v',h4,h5⟩:=yC (P:=P) hd (HS rest hu)
     exact ⟨v',by simp [Instr.loadAt,Instr.sureAddr,h4],h5⟩
    ·cases h
  ·cases h
 ·rename_i j off
  split at h
  ·rename_i r k har
   split at h
   ·rename_i t l htag
    obtain ⟨hb,h⟩:=kE h
    split at h
    ·rename_i u hu
     simp only [Option.some.injEq,Prod.mk.injEq] at h
     obtain ⟨rfl,rfl,rfl,rfl⟩:=h
     refine ⟨rfl,?_⟩
     simp only [Bool.and_eq_true,Bool.not_eq_true'] at hb
     obtain ⟨hb,hm⟩:=hb
     have hm : k.ty ≠ DK:=Nat.ne_of_beq_eq_false hm
     have hb:=Nat.eq_of_beq_eq_true hb
     obtain ⟨row,hj,hlt,hrow⟩:=XF (dP (aX hcs).1)
     obtain ⟨hr,hg⟩:=FN har
     obtain ⟨_,_,a3⟩:=hW.rows.arn r k t l hr hg htag
     rw [VR] at hp
     obtain ⟨b,h1,rfl⟩:=hp
     rcases a3 j row hj with h0 | ⟨b',g1,g2⟩
     ·rw [h0.1] at hlt; exact absurd hlt (Nat.not_lt_zero _)
     ·rw [h1] at g1; cases g1
      obtain ⟨c',g2,g3⟩:=g2.cells (n:=0) (.inl hm)
      obtain ⟨rest,hr⟩:=WC t hlt 0
      have hd:=g3.drop (off * t.size + 0)
      rw [Nat.zero_add,hr,hb,Nat.mul_one,Nat.add_zero] at hd
      unfold gI at hu
      rw [hrow] at hu
      obtain ⟨v',h4,h5⟩:=yC (P:=P) hd (HS rest hu)
      exact ⟨v',by simp [Instr.loadAt,Instr.sureAddr,h4],h5.bD⟩
    ·cases h
   ·cases h
  ·cases h
 ·cases h

theorem aNF (hW : aV n0 G μ H w) {tys : Array TypeId} {ty : TypeId} {p v : PV} {x : Value} {cs : List Bool} {H' : Heap} {c : Nat} (hp : VR w G μ p x) (h : aIY P H tys p = some (cs,v,H',c)) : H' = H∧∃ v',(Builtin.len_ tys ty #[x]).run P w = .ok v' w∧VR w G μ v v':=by
 unfold aIY at h
 split at h
 ·rename_i t ts ht
  have ht' : tys[0]? = some t:=by rw [← Array.getElem?_toList,ht]; rfl
  split at h
  ·rename_i e hu
   split at h
   ·rename_i tt l cap ee
    simp only [Option.some.injEq,Prod.mk.injEq] at h
    obtain ⟨rfl,rfl,rfl,rfl⟩:=h
    obtain ⟨ao,c',rfl⟩:=aCF hp
    exact ⟨rfl,goInt l.length,by simp [Builtin.len_,ht',run_underlying hu],by rw [VR]⟩
   ·rename_i r sz
    split at h
    ·rename_i g hg
     simp only [Option.some.injEq,Prod.mk.injEq] at h
     obtain ⟨rfl,rfl,rfl,rfl⟩:=h
     obtain ⟨kb,hk1,hk2⟩:=AV hg
     obtain ⟨ht1,ht2⟩:=hW.tags r kb g (aO hk1) hk2
     rw [VR] at hp
     obtain ⟨m,h1,h2⟩:=hp
     rw [ht2] at h1
     cases h1
     refine ⟨rfl,goInt g.l.length,?_,by rw [VR]⟩
     rcases h2 with ⟨h2,ao,rfl⟩ | ⟨b,c',h3,rfl,h5,h6⟩
     ·simp [Builtin.len_,ht',run_underlying hu,h2]
     ·simp [Builtin.len_,ht',run_underlying hu]
    ·cases h
   ·rename_i r lo n sz
    simp only [Option.some.injEq,Prod.mk.injEq] at h
    obtain ⟨rfl,rfl,rfl,rfl⟩:=h
    rw [VR] at hp
    obtain ⟨b,c',_,h3,rfl,h5,h6,_⟩:=hp
    exact ⟨rfl,goInt n,by simp [Builtin.len_,ht',run_underlying hu],by rw [VR]⟩
   ·rename_i j lo n sz
    simp only [Option.some.injEq,Prod.mk.injEq] at h
    obtain ⟨rfl,rfl,rfl,rfl⟩:=h
    rw [VR] at hp
    obtain ⟨ao,c',rfl,_⟩:=hp
    exact ⟨rfl,goInt n,by simp [Builtin.len_,ht',run_underlying hu],by rw [VR]⟩
   ·cases h
  ·cases h
 ·cases h

theorem pV {x : Option PV} {d i : Nat} {b : Bool} (h : X4 x d = some (b,i)) (hb : b = true) : bnd x d = some i:=by
 unfold X4 at h
 unfold bnd
 split at h
 ·simp only [Option.some.injEq,Prod.mk.injEq] at h
  rw [h.2]
 ·rename_i k j
  simp only [Option.some.injEq,Prod.mk.injEq] at h
  obtain ⟨h1,h2⟩:=h
  subst h1
  have : decide (0 ≤ j) = true:=by
   rw [aN,Bool.not_eq_true',decide_eq_false_iff_not] at hb
   exact decide_eq_true (by omega)
  simp only [this,cond_true,h2]
 ·cases h
theorem aGK {F : Frm} {a : Act} {nt : Nat} (hF : eP w G μ nt F a) {t e : TypeId} {r l0 m n i j : Nat} {x : Value} {lo hi : Option Operand} (hp : VR w G μ (.win r l0 m n) x) (hu : P.underlying t = some (.slice e)) (hs : k9 P e = some n)
  (h1 : bnd (lo.map (ev F)) 0 = some i) (h2 : bnd (hi.map (ev F)) m = some j) (h3 : i ≤ j) (h4 : j ≤ m) (h5 : i < m) (w1 : World) : ∃ v',(Instr.sliceAt t x (lo.map a.eval) (hi.map a.eval) none).run P w1 = .ok v' w1∧VR w G μ (.win r (l0 + i) (j - i) n) v':=by
 obtain ⟨mm,c0,hm1,hm2,hm3,hm4,hv⟩ : ∃ mm c0,μ.len r = some mm∧l0 + m ≤ mm∧mm ≤ l0 + c0∧m ≤ c0∧VR w G μ (.hs r (l0 * n) m (some c0) n) x:=by
  rw [VR] at hp
  obtain ⟨b,c,mm,e1,e2,e3,e4,q1,q2,q3⟩:=hp
  refine ⟨mm,c,q1,q2,q3,e3,?_⟩
  rw [VR]
  exact ⟨b,c,e1,e2,e3,fun k hk=>(by cases hk; rfl),by rw [← Nat.add_mul]; exact e4⟩
 have hx : CQ P t (.hs r (l0 * n) m (some c0) n) (lo.map (ev F)) (hi.map (ev F)) = some (.hs r (l0 * n + i * n) (j - i) (some (c0 - i)) n):=by
  have q1 : Nat.beq n n = true:=by rw [QX,decide_eq_true rfl]
  have q2 : Nat.beq c0 i = false:=by rw [QX,decide_eq_false (by omega)]
  have q3 : Nat.ble j c0 = true:=Nat.ble_eq_true_of_le (by omega)
  simp only [CQ,hu,hs,h1,h2,q1,q2,q3,Nat.ble_eq_true_of_le h3,Bool.and_self,cond_true,cond_false]
 obtain ⟨v',h6,h7⟩:=vO hF hv hx w1
 refine ⟨v',h6,?_⟩
 rw [VR] at h7; rw [VR]
 obtain ⟨b,c,e1,e2,e3,ec,e4⟩:=h7
 have ec:=ec _ rfl
 refine ⟨b,c,mm,e1,by rw [e2,Nat.add_mul],e3,?_,hm1,by omega,by omega⟩
 rw [Nat.add_mul,Nat.add_mul]
 exact e4
theorem aS8 {F : Frm} {a : Act} {nt : Nat} (hW : aV n0 G μ H w) (hF : eP w G μ nt F a) {t e : TypeId} {r l0 m n i j : Nat} {x : Value} {lo hi : Option Operand} (hp : VR w G μ (.row r l0 m n) x) (hu : P.underlying t = some (.slice e)) (hs : k9 P e = some n)
  (h1 : bnd (lo.map (ev F)) 0 = some i) (h2 : bnd (hi.map (ev F)) m = some j) (h3 : i ≤ j) (h4 : j ≤ m) (w1 : World) : ∃ v',(Instr.sliceAt t x (lo.map a.eval) (hi.map a.eval) none).run P w1 = .ok v' w1∧VR w G μ (.row r (l0 + i) (j - i) n) v':=by
 rw [VR] at hp
 obtain ⟨ao,c,rfl,hle,hb⟩:=hp
 by_cases hm : i = j
 ·subst hm
  have hv : VR w G μ (.vals [] m (some c)) (.slice ao m c):=by
   rw [VR]; exact ⟨ao,c,rfl,hle,fun k hk=>by cases hk; rfl,.inl rfl⟩
  have hx : CQ P t (.vals [] m (some c)) (lo.map (ev F)) (hi.map (ev F)) = some (.vals [] (i - i) none):=by
   simp only [CQ,hu,hs,h1,h2,Nat.ble_eq_true_of_le h3,Nat.ble_eq_true_of_le h4,Bool.and_self,cond_true,List.drop_nil,List.take_nil]
  obtain ⟨v',h6,h7⟩:=vO hF hv hx w1
  refine ⟨v',h6,?_⟩
  rw [VR] at h7; rw [VR]
  obtain ⟨ao',c',e1,e2,_,_⟩:=h7
  exact ⟨ao',c',e1,e2,.inl (by omega)⟩
 ·rcases hb with hb | ⟨b,hb,rfl,hroom⟩
  ·omega
  have e:=xC hW (some b) none
  have hv : VR w G (upd μ H.length (some b) none) (.hs H.length (l0 * n) m (some c) n) (.slice (some ⟨b,l0 * n,none⟩) m c):=by
   rw [VR]
   exact ⟨b,c,fR _ _ _ _,rfl,hle,fun k hk=>(by cases hk; rfl),by rw [← Nat.add_mul]; exact hroom⟩
  have hx : CQ P t (.hs H.length (l0 * n) m (some c) n) (lo.map (ev F)) (hi.map (ev F)) = some (.hs H.length (l0 * n + i * n) (j - i) (some (c - i)) n):=by
   have q1 : Nat.beq n n = true:=by rw [QX,decide_eq_true rfl]
   have q2 : Nat.beq c i = false:=by rw [QX,decide_eq_false (by omega)]
   have q3 : Nat.ble j c = true:=Nat.ble_eq_true_of_le (by omega)
   simp only [CQ,hu,hs,h1,h2,q1,q2,q3,Nat.ble_eq_true_of_le h3,Bool.and_self,cond_true,cond_false]
  obtain ⟨v',h6,h7⟩:=vO (hF.mono e.toMono) hv hx w1
  refine ⟨v',h6,?_⟩
  rw [VR] at h7; rw [VR]
  obtain ⟨b2,c2,e1,e2,e3,ec,e4⟩:=h7
  rw [fR] at e1
  cases e1
  refine ⟨_,c2,e2,e3,.inr ⟨b,hb,by rw [Nat.add_mul],?_⟩⟩
  rw [Nat.add_mul,Nat.add_mul]
  exact e4
theorem aI8 {F : Frm} {a : Act} {nt : Nat} (hW : aV n0 G μ H w) (hF : eP w G μ nt F a) {t : TypeId} {p v : PV} {x : Value} {lo hi : Option Operand} {cs : List Bool} {H' : Heap} {c : Nat} (hp : VR w G μ p x) (h : EI P H t p (lo.map (ev F)) (hi.map (ev F)) = some (cs,v,H',c)) (hcs : uK cs = true) (w1 : World) :
  H' = H∧∃ v',(Instr.sliceAt t x (lo.map a.eval) (hi.map a.eval) none).run P w1 = .ok v' w1∧VR w G μ v v':=by
 unfold EI at h
 split at h
 ·rename_i e hu
  split at h
  ·rename_i n hs
   split at h
   ·rename_i ty l cap ee
    cases hb : Nat.beq n ty.size with
    | false=>rw [hb] at h; cases h
    | true =>
     rw [hb] at h
     simp only [cond_true] at h
     have hb:=Nat.eq_of_beq_eq_true hb
     subst hb
     split at h
     ·rename_i b1 i b2 j h1 h2
      simp only [Option.some.injEq,Prod.mk.injEq] at h
      obtain ⟨rfl,rfl,rfl,rfl⟩:=h
      refine ⟨rfl,?_⟩
      obtain ⟨c1,hcs⟩:=aX hcs
      obtain ⟨c2,hcs⟩:=aX hcs
      obtain ⟨c3,hcs⟩:=aX hcs
      obtain ⟨c4,_⟩:=aX hcs
      have hv : VR w G μ (.vals (aJ ty l) l.length cap) x:=(H6 hp).bD
      have hx : CQ P t (.vals (aJ ty l) l.length cap) (lo.map (ev F)) (hi.map (ev F)) = some (.vals (((aJ ty l).drop (i * ty.size)).take ((j - i) * ty.size)) (j - i) none):=by
       simp only [CQ,hu,hs,pV h1 c1,pV h2 c2,c3,c4,Bool.and_self,cond_true]
      obtain ⟨v',h3,h4⟩:=vO hF hv hx w1
      refine ⟨v',h3,R4 ?_⟩
      have hle1:=Nat.le_of_ble_eq_true c3
      have hle2:=Nat.le_of_ble_eq_true c4
      have hlen : ((l.drop i).take (j - i)).length = j - i:=by simp; omega
      rw [oV,oU] at h4
      rw [hlen]
      exact pU _ _ rfl h4
     ·cases h
   ·rename_i r sz
    split at h
    ·rename_i g hg
     obtain ⟨hb,h⟩:=kE h
     have hb:=Nat.eq_of_beq_eq_true hb
     subst hb
     unfold YT at h
     split at h
     ·rename_i b1 i b2 j h1 h2
      obtain ⟨kb,hk1,hk2⟩:=AV hg
      cases hz : (aAB g.t && Nat.beq g.l.length 0) with
      | true =>
       rw [hz] at h
       simp only [cond_true,Option.some.injEq,Prod.mk.injEq] at h
       obtain ⟨rfl,rfl,rfl,rfl⟩:=h
       refine ⟨rfl,?_⟩
       obtain ⟨c1,hcs⟩:=aX hcs
       obtain ⟨c2,hcs⟩:=aX hcs
       obtain ⟨c3,hcs⟩:=aX hcs
       obtain ⟨c4,_⟩:=aX hcs
       have c3:=Nat.eq_of_beq_eq_true c3
       have c4:=Nat.eq_of_beq_eq_true c4
       subst c3; subst c4
       simp only [Bool.and_eq_true] at hz
       have hz:=Nat.eq_of_beq_eq_true hz.2
       obtain ⟨ht1,ht2⟩:=hW.tags r kb g (aO hk1) hk2
       have hp0:=hp
       rw [VR] at hp
       obtain ⟨m,e1,e2⟩:=hp
       rw [ht2,hz] at e1
       cases e1
       have run : ∀ ao c',x = .slice ao 0 c'→(Instr.sliceAt t x (lo.map a.eval) (hi.map a.eval) none).run P w1 = .ok (.slice (if c' = 0 then ao else ao.map (·.add (0 * n))) (0 - 0) (c' - 0)) w1:=fun ao c' hx=>by
        subst hx
        have hb2:=pV h2 c2
        rw [hz] at hb2
        have hr:=mR (P:=P) (isSlice:=true) (yZ hF (pV h1 c1)) (yZ hF hb2) (Nat.le_refl 0) (Nat.zero_le c') w1
        simp [Instr.sliceAt,Instr.slice,run_underlying hu,hr,run_sizeOf hs]
       rcases e2 with ⟨_,ao,rfl⟩ | ⟨b,c',e3,rfl,e5,e6⟩
       ·exact ⟨_,run ao 0 rfl,hp0⟩
       ·refine ⟨_,run _ c' rfl,?_⟩
        have : (if c' = 0 then some (⟨b,0,none⟩ : Addr) else (some (⟨b,0,none⟩ : Addr)).map (·.add (0 * n))) = some ⟨b,0,none⟩:=by
         split
         ·rfl
         ·simp [Addr.add_lit]
        rw [this]
        exact hp0
      | false =>
      rw [hz] at h
      simp only [cond_false,Option.some.injEq,Prod.mk.injEq] at h
      obtain ⟨rfl,rfl,rfl,rfl⟩:=h
      refine ⟨rfl,?_⟩
      obtain ⟨c1,hcs⟩:=aX hcs
      obtain ⟨c2,hcs⟩:=aX hcs
      obtain ⟨c3,hcs⟩:=aX hcs
      obtain ⟨c4,hcs⟩:=aX hcs
      obtain ⟨c5,_⟩:=aX hcs
      obtain ⟨ht1,ht2⟩:=hW.tags r kb g (aO hk1) hk2
      have hlt:=dP c5
      have hv : VR w G μ (.win r 0 g.l.length n) x:=by
       rw [VR] at hp; rw [VR]
       obtain ⟨m,e1,e2⟩:=hp
       rw [ht2] at e1
       cases e1
       rcases e2 with ⟨e2,_⟩ | ⟨b,c',e3,rfl,e5,e6⟩
       ·omega
       ·exact ⟨b,c',_,e3,by rw [Nat.zero_mul],e5,by rw [Nat.zero_add]; exact e6,ht2,by rw [Nat.zero_add]; exact Nat.le_refl _,by rw [Nat.zero_add]; exact e5⟩
      have:=aGK hF hv hu hs (pV h1 c1) (pV h2 c2) (Nat.le_of_ble_eq_true c3) (Nat.le_of_ble_eq_true c4) hlt w1
      rw [Nat.zero_add] at this
      exact this
     ·cases h
    ·cases h
   ·rename_i r l0 m sz
    obtain ⟨hb,h⟩:=kE h
    have hb:=Nat.eq_of_beq_eq_true hb
    subst hb
    split at h
    ·rename_i b1 i b2 j h1 h2
     simp only [Option.some.injEq,Prod.mk.injEq] at h
     obtain ⟨rfl,rfl,rfl,rfl⟩:=h
     refine ⟨rfl,?_⟩
     obtain ⟨c1,hcs⟩:=aX hcs
     obtain ⟨c2,hcs⟩:=aX hcs
     obtain ⟨c3,hcs⟩:=aX hcs
     obtain ⟨c4,hcs⟩:=aX hcs
     obtain ⟨c5,_⟩:=aX hcs
     exact aGK hF hp hu hs (pV h1 c1) (pV h2 c2) (Nat.le_of_ble_eq_true c3) (Nat.le_of_ble_eq_true c4) (dP c5) w1
    ·cases h
   ·rename_i r l0 m sz
    obtain ⟨hb,h⟩:=kE h
    have hb:=Nat.eq_of_beq_eq_true hb
    subst hb
    split at h
    ·rename_i b1 i b2 j h1 h2
     simp only [Option.some.injEq,Prod.mk.injEq] at h
     obtain ⟨rfl,rfl,rfl,rfl⟩:=h
     refine ⟨rfl,?_⟩
     obtain ⟨c1,hcs⟩:=aX hcs
     obtain ⟨c2,hcs⟩:=aX hcs
     obtain ⟨c3,hcs⟩:=aX hcs
     obtain ⟨c4,hcs⟩:=aX hcs
     exact aS8 hW hF hp hu hs (pV h1 c1) (pV h2 c2) (Nat.le_of_ble_eq_true c3) (Nat.le_of_ble_eq_true c4) w1
    ·cases h
   ·cases h
  ·cases h
 ·cases h

def AR (c : List Value) (off : Nat) (vs : List Value) : List Value:=c.take off ++ vs ++ c.drop (off + vs.length)
theorem aKE (a m b vs : List Value) {off : Nat} (h : off + vs.length ≤ m.length) : AR (a ++ m ++ b) (a.length + off) vs = a ++ AR m off vs ++ b:=by
 unfold AR
 have e1 : (a ++ m ++ b).take (a.length + off) = a ++ m.take off:=by
  rw [List.append_assoc,List.take_append,List.take_of_length_le (by omega),Nat.add_sub_cancel_left,List.take_append_of_le_length (by omega)]
 have e2 : (a ++ m ++ b).drop (a.length + off + vs.length) = m.drop (off + vs.length) ++ b:=by
  rw [Nat.add_assoc,← List.drop_drop,List.append_assoc,List.drop_left,List.drop_append_of_le_length h]
 rw [e1,e2]
 simp [List.append_assoc]

theorem aHT (hW : aV n0 G μ H w) {T : TypeId} {p v u : PV} {x y : Value} {cs : List Bool} {H' : Heap} {c : Nat} (hp : VR w G μ p x) (hv : VR w G μ v y) (h : ZP P H T p v = some (cs,u,H',c)) (hcs : uK cs = true) :
  u = .lit undef∧c = 2∧∃ w',(Instr.storeAt T x y).run P w = .ok () w'∧Ext n0 w G μ w' G μ∧aV n0 G μ H' w':=by
 unfold ZP at h
 split at h
 ·rename_i r i off sz
  split at h
  ·rename_i k hk
   split at h
   ·rename_i g hg
    split at h
    ·rename_i new n hnew hn
     cases hb : (Nat.beq new.length n && Nat.beq sz g.t.size && !k.frozen && Nat.ble (off + n) sz && new.all zE) with
     | false=>rw [hb] at h; cases h
     | true =>
      rw [hb] at h
      simp only [cond_true] at h
      split at h
      ·rename_i d hd
       simp only [Option.some.injEq,Prod.mk.injEq] at h
       obtain ⟨rfl,rfl,rfl,rfl⟩:=h
       refine ⟨rfl,rfl,?_⟩
       simp only [Bool.and_eq_true,Bool.not_eq_true'] at hb
       obtain ⟨⟨⟨⟨b1,b2⟩,hf⟩,b3⟩,hok⟩:=hb
       have b1:=Nat.eq_of_beq_eq_true b1
       have b2:=Nat.eq_of_beq_eq_true b2
       have b3:=Nat.le_of_ble_eq_true b3
       subst b2
       have hlt:=dP (aX hcs).1
       obtain ⟨ht1,ht2⟩:=hW.tags r k g (aO hk) hg
       rw [VR] at hp
       obtain ⟨b,hloc,rfl⟩:=hp
       obtain ⟨C,g2,g3,g4,g5,g6⟩:=hW.blk r k b (aO hk) hloc
       rw [ht1] at g3
       obtain ⟨i1,i2⟩:=qW g2 g3
       have hlen:=bB g.t g.l
       have hcv:=wL hnew hv
       have hvl : new.length = y.cells.size:=by simpa using hcv.length
       have hmul : (i + 1) * g.t.size ≤ g.l.length * g.t.size:=Nat.mul_le_mul_right _ hlt
       rw [Nat.add_mul,Nat.one_mul] at hmul
       obtain ⟨w',h1,h2⟩:=kO (P:=P) (off:=i * g.t.size + off) y.cells.toList 0 w C (tS hok hcv) g2 (by simp only [Array.length_toList]; omega)
       rw [Nat.add_zero] at h2
       have hsz : (eB C (i * g.t.size + off) y.cells.toList).size = C.size:=pI (by simp only [Array.length_toList]; omega)
       have e1:=o8 hW (aO hk) hf hloc g2 h2 hsz
       refine ⟨w',?_,e1,?_⟩
       ·have hl' : y.cells.size = n:=by omega
        simp [Instr.storeAt,Instr.sureAddr,storeVar,run_sizeOf hn,hl',h1]
       ·refine qU (k':={ k with cells:=aJ g.t (g.l.set i d),tag:=some ⟨g.t,g.l.set i d⟩ }) hW (aO hk) hf hloc g2 h2 hsz hf ?_ ?_ ?_ ?_
        ·-- the cells of the element are new
         have fZ : g.l.getD i g.t.aIH = g.l[i]:=by simp [List.getD_eq_getElem?_getD,hlt]
         rw [fZ] at hd
         have hsplit : g.l = g.l.take i ++ g.l[i] :: g.l.drop (i + 1):=by
          rw [← List.drop_eq_getElem_cons hlt,List.take_append_drop]
         have hset : g.l.set i d = g.l.take i ++ d :: g.l.drop (i + 1):=by
          rw [List.set_eq_take_append_cons_drop,if_pos hlt]
         have hA : (aJ g.t (g.l.take i)).length = i * g.t.size:=by rw [bB,List.length_take,Nat.min_eq_left (Nat.le_of_lt hlt)]
         obtain ⟨C0,hC0⟩ : ∃ C0,C0 = C.toList.take (aJ g.t g.l).length:=⟨_,rfl⟩
         rw [← hC0] at i1
         have hsp : aJ g.t g.l = aJ g.t (g.l.take i) ++ (enc g.t g.l[i] ++ aJ g.t (g.l.drop (i + 1))):=by
          conv=>lhs; rw [hsplit]
          rw [iT,fO]
         have j0:=i1
         rw [hsp] at j0
         have jA:=j0.take (i * g.t.size)
         rw [List.take_left' hA] at jA
         have jR:=j0.drop (i * g.t.size)
         rw [List.drop_left' hA] at jR
         have jM:=jR.take g.t.size
         rw [List.take_left' (jF _ _)] at jM
         have jB:=jR.drop g.t.size
         rw [List.drop_left' (jF _ _)] at jB
         have hC0len : C0.length = g.l.length * g.t.size:=by rw [hC0,List.length_take,hlen,Array.length_toList]; omega
         have hCeq : C0 = C0.take (i * g.t.size) ++ (C0.drop (i * g.t.size)).take g.t.size ++ (C0.drop (i * g.t.size)).drop g.t.size:=by
          rw [List.append_assoc,List.take_append_drop,List.take_append_drop]
         have hta : (C0.take (i * g.t.size)).length = i * g.t.size:=by rw [List.length_take]; omega
         have htm : ((C0.drop (i * g.t.size)).take g.t.size).length = g.t.size:=by rw [List.length_take,List.length_drop]; omega
         have hspl : (eB C (i * g.t.size + off) y.cells.toList).toList.take (g.l.length * g.t.size) = AR C0 (i * g.t.size + off) y.cells.toList:=by
          simp only [eB,AR,hC0,hlen]
          rw [List.take_append,List.take_append,List.take_take,List.take_of_length_le (l:=y.cells.toList) (by simp; omega),List.drop_take,List.take_take,Nat.min_comm (i * g.t.size + off)]
          congr 2
          simp; omega
         have hmid : AR C0 (i * g.t.size + off) y.cells.toList = C0.take (i * g.t.size) ++ AR ((C0.drop (i * g.t.size)).take g.t.size) off y.cells.toList ++ (C0.drop (i * g.t.size)).drop g.t.size:=by
          have:=aKE (C0.take (i * g.t.size)) ((C0.drop (i * g.t.size)).take g.t.size) ((C0.drop (i * g.t.size)).drop g.t.size) y.cells.toList (off:=off) (by rw [htm]; simp only [Array.length_toList]; omega)
          rw [hta] at this
          rw [← this]
          congr 1
         have hnewv : VRs w G μ (enc g.t d) (AR ((C0.drop (i * g.t.size)).take g.t.size) off y.cells.toList):=by
          refine VRs.bD (oG g.t μ _ d _ hd ?_)
          simp only [HP,AR,hcv.length]
          exact ((jM.take off).append hcv).append (jM.drop _)
         refine mA (n:=g.l.length * g.t.size) h2.at_ (VRs.mono e1.toMono _ _ ?_)
         rw [hspl,hmid,hset,iT,fO,← List.append_assoc]
         exact (jA.append hnewv).append jB
        ·intro hgr
         rw [hsz,g4 hgr,ht1,bB,bB,List.length_set]
        ·intro g' hg'
         cases hg'
         exact ⟨rfl,by simp only [List.length_set]; exact ht2⟩
        ·intro t1 l1 q1 q2
         obtain ⟨gt,gl⟩:=g
         simp only [Option.some.injEq,Tg.mk.injEq] at q2
         obtain ⟨rfl,_⟩:=q2
         exact ⟨gl,q1,hg⟩
      ·cases h
    ·cases h
   ·cases h
  ·cases h
 ·rename_i j off
  split at h
  ·rename_i r k har
   split at h
   ·rename_i t l htag
    split at h
    ·rename_i new n hnew hn
     obtain ⟨hb,h⟩:=kE h
     split at h
     ·rename_i d hd
      simp only [Option.some.injEq,Prod.mk.injEq] at h
      obtain ⟨rfl,rfl,rfl,rfl⟩:=h
      refine ⟨rfl,rfl,?_⟩
      simp only [Bool.and_eq_true] at hb
      obtain ⟨⟨⟨⟨b1,b2⟩,b3⟩,hm⟩,hok⟩:=hb
      have hm : k.ty ≠ DK:=Nat.ne_of_beq_eq_false (by simpa using hm)
      have b1:=Nat.eq_of_beq_eq_true b1
      have b2:=Nat.eq_of_beq_eq_true b2
      have b3:=Nat.eq_of_beq_eq_true b3
      obtain ⟨row,hj,hlt,hrow⟩:=XF (dP (aX hcs).1)
      obtain ⟨hr,hg⟩:=FN har
      obtain ⟨_,_,a3⟩:=hW.rows.arn r k t l hr hg htag
      rw [VR] at hp
      obtain ⟨b,hloc,rfl⟩:=hp
      rcases a3 j row hj with h0 | ⟨b',g1,g2⟩
      ·rw [h0.1] at hlt; exact absurd hlt (Nat.not_lt_zero _)
      rw [hloc] at g1; cases g1
      obtain ⟨C,g2,g3⟩:=g2.cells (n:=0) (.inl hm)
      obtain ⟨i1,i2⟩:=qW g2 g3
      have hlen:=bB t row
      rw [b3,Nat.mul_one] at hlen
      have hcv:=wL hnew hv
      have hvl : new.length = y.cells.size:=by simpa using hcv.length
      obtain ⟨w',h1,h2⟩:=kO (P:=P) (off:=off) y.cells.toList 0 w C (tS hok hcv) g2 (by simp only [Array.length_toList]; omega)
      rw [Nat.add_zero] at h2
      have hsz : (eB C off y.cells.toList).size = C.size:=pI (by simp only [Array.length_toList]; omega)
      have e1:=aIQ hW hloc g2 h2 hsz
      refine ⟨w',?_,e1,?_⟩
      ·have hl' : y.cells.size = n:=by omega
       simp [Instr.storeAt,Instr.sureAddr,storeVar,run_sizeOf hn,hl',h1]
      ·refine aV6 hW hr hg htag hloc g2 h2 hsz (by unfold wB; rw [List.length_set]) (fun i hi=>?_) (row:=row.set off d) ?_ ?_ hm
       ·unfold wB
        rw [List.getElem?_set_ne (Ne.symm hi)]
       ·unfold wB
        rw [hrow,List.getElem?_set_self (List.getElem?_eq_some_iff.1 hj).1]
       ·have hset : row.set off d = row.take off ++ d :: row.drop (off + 1):=by
         rw [List.set_eq_take_append_cons_drop,if_pos hlt]
        have hnewv : VRs w' G aL (enc t d) y.cells.toList:=VRs.mono e1.toMono.aL _ _ (oG t μ _ d _ hd hcv)
        have hA:=oU t off row
        have hB:=oV t (off + 1) row
        rw [b3,Nat.mul_one] at hA hB
        have jA:=i1.take off
        have jB:=i1.drop (off + 1)
        refine mA (n:=row.length) h2.at_ ?_
        rw [hset,iT,fO,← hA,← hB]
        have hy : y.cells.toList.length = 1:=by simp only [Array.length_toList]; omega
        have hspl : (eB C off y.cells.toList).toList.take row.length = (C.toList.take (aJ t row).length).take off ++ (y.cells.toList ++ (C.toList.take (aJ t row).length).drop (off + 1)):=by
         simp only [eB,hlen,hy]
         rw [List.append_assoc,List.take_append,List.take_append,List.take_take,List.take_take,hy,List.take_of_length_le (l:=y.cells.toList) (by rw [List.length_take]; omega),List.drop_take]
         have q1 : (C.toList.take off).length = off:=by rw [List.length_take]; simp only [Array.length_toList]; omega
         rw [q1]
         congr 1
         congr 1; omega
        rw [hspl]
        exact (VRs.mono e1.toMono.aL _ _ jA).append (hnewv.append (VRs.mono e1.toMono.aL _ _ jB))
     ·cases h
    ·cases h
   ·cases h
  ·cases h
 ·cases h
end
end Go.PM
set_option linter.unusedSimpArgs false
set_option linter.unusedVariables false
namespace Go.PM
open Go Go.RowKit
section
variable {P : Program} {n0 : Nat→Prop} {w : World} {G : Gd} {μ : Mp} {H : Heap}
theorem tZ {t e : TypeId} {ty : Ty} (h : wF P t = some (e,ty)) : P.underlying t = some (.slice e)∧k9 P e = some ty.size:=by
 unfold wF at h
 cases hm : aE3 bCC t with
 | true=>rw [hm] at h; cases h
 | false =>
 rw [hm,cond_false] at h
 cases hm2 : aE3 bEC t with
 | true =>
  rw [hm2,cond_true] at h
  unfold aP3 at h
  split at h
  ·rename_i e' hu
   split at h
   ·split at h
    ·rename_i n m h1 h2
     cases hb : Nat.beq n 1 with
     | false=>rw [hb] at h; cases h
     | true =>
      rw [hb] at h
      simp only [cond_true,Option.some.injEq,Prod.mk.injEq] at h
      obtain ⟨rfl,rfl⟩:=h
      exact ⟨hu,by rw [h1,Nat.eq_of_beq_eq_true hb]; rfl⟩
    ·cases h
   ·cases h
  ·cases h
 | false =>
 rw [hm2,cond_false] at h
 split at h
 ·rename_i e' hu
  split at h
  ·rename_i ty' n h1 h2
   cases hb : Nat.beq n ty'.size with
   | false=>rw [hb] at h; cases h
   | true =>
    rw [hb] at h
    simp only [cond_true,Option.some.injEq,Prod.mk.injEq] at h
    obtain ⟨rfl,rfl⟩:=h
    exact ⟨hu,by rw [h2,Nat.eq_of_beq_eq_true hb]⟩
  ·cases h
 ·cases h
theorem IU {e : TypeId} {n : Nat} {i : TypeInfo} (h : k9 P e = some n) (hi : P.info? e = some i) : i.size = n:=by
 unfold k9 at h
 rw [hi] at h
 simpa using h

def SB (P : Program) (w : World) (G : Gd) (μ : Mp) (ty : Ty) (v : Value) (new : List ty.den) : Prop :=
 (∀ w1 : World,(Builtin.lenOf v).run P w1 = .ok new.length w1)∧∃ vs : Array Value,VRs w G μ (aJ ty new) vs.toList∧∀ w1 : World,w1.heap = w.heap→(Builtin.firstCells ty.size new.length v).run P w1 = .ok vs w1
theorem P1 {ty : Ty} {new : List ty.den} {v : Value} {cs : List PV} (h : Source P w G μ ty.size v cs new.length) (hc : ∀ vs,VRs w G μ cs vs→VRs w G μ (aJ ty new) vs) : SB P w G μ ty v new:=by
 obtain ⟨h1,h2,h3⟩:=h
 obtain ⟨vs,h4,h5⟩:=h3 new.length (Nat.le_refl _)
 rw [List.take_of_length_le (by omega)] at h4
 exact ⟨h1,vs,hc _ h4,h5⟩
theorem XD {cs : List PV} {n sz : Nat} {cap : Option Nat} {v : Value} (h : VR w G μ (.vals cs n cap) v) (hl : cs.length = n * sz) : Source P w G μ sz v cs n:=by
 rw [VR] at h
 obtain ⟨ao,c,rfl,_,_,h3⟩:=h
 rcases h3 with rfl | ⟨b,off,rfl,_,hc⟩
 ·refine ⟨fun w1=>rfl,hl,fun m hm=>⟨#[],by simp [VRs],fun w1 _=>?_⟩⟩
  have h0 : m * sz = 0:=by
   have:=Nat.mul_le_mul_right sz hm
   simp only [List.length_nil] at hl
   omega
  cases ao with
  | none=>rfl
  | some a=>simp [Builtin.firstCells,h0,loadCells,loadCellsFrom]
 ·exact rK hc.bD hl
theorem aEO (hW : aV n0 G μ H w) {ty : Ty} {p : PV} {new : List ty.den} {v : Value} (hp : VR w G μ p v) (h : aHK H ty p = some new) : SB P w G μ ty v new:=by
 unfold aHK at h
 split at h
 ·rename_i u l cap e
  obtain ⟨rfl,rfl⟩:=l4 h
  exact P1 (XD (H6 hp).bD (bB _ _)) (fun _ h=>h)
 ·rename_i r sz
  split at h
  ·rename_i g hg
   obtain ⟨t,l⟩:=g
   obtain ⟨rfl,rfl⟩:=l4 h
   obtain ⟨kb,hk1,hk2⟩:=AV hg
   obtain ⟨ht1,ht2⟩:=hW.tags r kb _ (aO hk1) hk2
   rw [VR] at hp
   obtain ⟨m,h1,h2⟩:=hp
   rw [ht2] at h1
   cases h1
   rcases h2 with ⟨h2,ao,rfl⟩ | ⟨b,c',h3,rfl,h5,h6⟩
   ·have hnil : l = []:=List.eq_nil_of_length_eq_zero h2
    subst hnil
    refine ⟨fun w1=>rfl,#[],by simp [aJ,VRs],fun w1 _=>?_⟩
    cases ao with
    | none=>rfl
    | some a=>simp [Builtin.firstCells,loadCells,loadCellsFrom]
   ·obtain ⟨c,g2,g3,_⟩:=hW.blk r kb b (aO hk1) h3
    simp only at ht1
    rw [ht1] at g3
    exact P1 (rK g3 (bB _ _)) (fun _ h=>h)
  ·cases h
 ·rename_i n c
  cases hn : Nat.beq n 0 with
  | false=>rw [hn] at h; cases h
  | true =>
   rw [hn] at h
   simp only [cond_true,Option.some.injEq] at h
   subst h
   have hn:=Nat.eq_of_beq_eq_true hn
   subst hn
   rw [VR] at hp
   subst hp
   exact ⟨fun w1=>rfl,#[],by simp [aJ,VRs],fun w1 _=>rfl⟩
 ·rename_i cs n cap
  have hlen : ∀ {m : Nat} {cs : List PV} {l : List ty.den},pC (dec ty) ty.size m cs = some l→l.length = m:=by
   intro m
   induction m with
   | zero =>
    intro cs l h
    cases cs with
    | nil=>simp only [pC,Option.some.injEq] at h; subst h; rfl
    | cons _ _=>simp only [pC] at h; cases h
   | succ m ih =>
    intro cs l h
    simp only [pC] at h
    split at h
    ·split at h
     ·rename_i l' hl
      simp only [Option.some.injEq] at h
      subst h
      rw [List.length_cons,ih hl]
     ·cases h
    ·cases h
  have hn:=hlen h
  subst hn
  have hvl:=hp
  rw [VR] at hvl
  obtain ⟨ao,c,rfl,_,_,h3⟩:=hvl
  have hcs : ∀ vs,VRs w G μ cs vs→VRs w G μ (aJ ty new) vs:=fun vs hv=>VRs.bD (xT (g:=enc ty) (fun cs x vs h hv=>oG ty μ cs x vs h hv) h hv).1
  rcases h3 with rfl | ⟨b,off,rfl,_,hc⟩
  ·have h0:=hcs [] (by rw [VRs])
   have h1:=h0.length
   rw [bB,List.length_nil] at h1
   have hz : new.length = 0:=by
    rcases Nat.eq_zero_or_pos new.length with h | h
    ·exact h
    ·have:=Nat.mul_pos h ty.size_pos; omega
   rw [hz]
   refine ⟨fun w1=>by rw [hz]; rfl,#[],by simpa using h0,fun w1 _=>?_⟩
   rw [hz]
   cases ao with
   | none=>rfl
   | some a=>simp [Builtin.firstCells,loadCells,loadCellsFrom]
  ·obtain ⟨vs,h4,h5⟩:=hc.values
   have h6:=hcs vs h4.bD
   have h7:=h6.length
   rw [bB] at h7
   refine ⟨fun w1=>rfl,vs.toArray,by simpa using h6,fun w1 hw=>?_⟩
   have:=run_loadCells (P:=P) (w:=w1) (b:=b) (off:=off) (vs:=vs) fun j hj=>by rw [aGA hw]; exact h5 j hj
   rw [← h7] at this
   exact this
 ·rename_i r lo m sz
  split at h
  ·rename_i g hg
   split at h
   ·rename_i l hl
    obtain ⟨gt,gl⟩:=g
    obtain ⟨rfl,rfl⟩:=l4 hl
    obtain ⟨hb0,h9⟩:=kE h
    clear h
    have hb:=Nat.eq_of_beq_eq_true hb0
    clear hb0
    subst hb
    simp only [Option.some.injEq] at h9
    subst h9
    obtain ⟨kb,hk1,hk2⟩:=AV hg
    obtain ⟨ht1,ht2⟩:=hW.tags r kb _ (aO hk1) hk2
    rw [VR] at hp
    obtain ⟨b,c',mm,h3,rfl,h5,h6,h7,h8,_⟩:=hp
    rw [ht2] at h7
    cases h7
    simp only at ht1 h8
    obtain ⟨c,g2,g3,_⟩:=hW.blk r kb b (aO hk1) h3
    rw [ht1] at g3
    have g4:=g3.sub (lo * gt.size) (m * gt.size)
    rw [Nat.zero_add,oV,oU] at g4
    have hlen : ((gl.drop lo).take m).length = m:=by rw [List.length_take,List.length_drop]; omega
    have:=P1 (P:=P) (new:=(gl.drop lo).take m) (rK (c:=c') g4 (bB _ _)) (fun _ h=>h)
    rwa [hlen] at this
   ·cases h
  ·cases h
 ·cases h

theorem UU (hW : aV n0 G μ H w) {e : TypeId} {ty : Ty} {l : List ty.den} {c' : Nat} {os vs rest : Array Value} (hv : VRs w G μ (aJ ty l) (os ++ vs).toList) (hneed : l.length ≤ c') (hr : rest.size = (c' - l.length) * ty.size) {s : Sem Value}
  (h : s.run P w = .ok (.slice (some ⟨w.heap.size,0,none⟩) l.length c') (w.drew.alloc (.cells (os ++ vs ++ rest) e))) : qD P n0 w G μ s (.own H.length ty.size) (H ++ [some ⟨aJ ty l,e,true,false,some ⟨ty,l⟩⟩]):=by
 have hW' : aV n0 G μ H w.drew:=GF hW (w.drawn + 1)
 have e1 : Ext n0 w G μ w.drew G μ:=R2 (Nat.le_succ _)
 have hl : l.length * ty.size = (os ++ vs).size:=by have:=hv.length; rw [bB] at this; simpa using this
 have hk:=tK (on:=some l.length) hW' (os ++ vs ++ rest) ⟨aJ ty l,e,true,false,some ⟨ty,l⟩⟩ (fun j p hp=>by
  obtain ⟨u,g1,g2⟩:=hv.get hp
  refine ⟨u,?_,VR.mono e1.toMono p u g2⟩
  have hlt : j < (os ++ vs).size:=by
   have:=(List.getElem?_eq_some_iff.1 g1).1
   simpa using this
  rw [Array.getElem?_append_left hlt,← Array.getElem?_toList]
  exact g1) (fun h=>by cases h) rfl (fun g hg=>by cases hg; exact ⟨rfl,rfl⟩)
 refine ⟨_,_,G,_,h,e1.trans (rT hW' _ _ _),hk,?_⟩
 rw [VR]
 refine ⟨l.length,kW _ _ _ _,.inr ⟨w.heap.size,c',fR _ _ _ _,rfl,hneed,os ++ vs ++ rest,e,(0,0),?_,?_⟩⟩
 ·show (w.heap.push _)[w.heap.size]? = _
  simp
 ·rw [Array.size_append,← hl,hr,← Nat.add_mul]
  exact Nat.mul_le_mul_right _ (by omega)
theorem aTC (hW : aV n0 G μ H w) {e : TypeId} {ty : Ty} {l : List ty.den} (hl : l.length = 0) {s : Sem Value} {ao : Option Addr} (h : s.run P w = .ok (.slice ao 0 0) w) : qD P n0 w G μ s (.own H.length ty.size) (H ++ [some ⟨aJ ty l,e,true,false,some ⟨ty,l⟩⟩]):=by
 obtain ⟨e1,h1⟩:=kQ (on:=some l.length) hW ⟨aJ ty l,e,true,false,some ⟨ty,l⟩⟩ (fun g hg=>by cases hg; exact ⟨rfl,rfl⟩)
 refine ⟨_,w,G,_,h,e1,h1,?_⟩
 rw [VR]
 exact ⟨l.length,kW _ _ _ _,.inl ⟨hl,ao,rfl⟩⟩

section
variable {t u e : TypeId} {i : TypeInfo} {z : Value} {d : TypeDesc} (ht : P.underlying t = some (.slice e)) (hu : P.underlying u = some d) (hd : ∀ k,d ≠ .int k) (hi : P.info? e = some i) (hz : i.zero = some z)
include ht hu hd hi hz
theorem HQ (hW : aV n0 G μ H w) {ty : Ty} (hsz : i.size = ty.size) (hb1 : i.bytes ≤ 65536) (hzs : z.cells.size = i.size) {x : Value} {new : List ty.den} {tt : TypeId} {ao : Option Addr} (hs : SB P w G μ ty x new) (hn : new.length ≤ 1048576) :
  qD P n0 w G μ (Builtin.append_ #[t,u] tt #[.slice ao 0 0,x]) (.own H.length ty.size) (H ++ [some ⟨aJ ty new,e,true,false,some ⟨ty,new⟩⟩]):=by
 obtain ⟨s1,vs,s2,s3⟩:=hs
 rw [← hsz] at s3
 by_cases h0 : new.length = 0
 ·have hvs : vs = #[]:=by
   have:=s2.length
   rw [bB,h0,Nat.zero_mul,Array.length_toList] at this
   exact Array.eq_empty_of_size_eq_zero this.symm
  subst hvs
  have:=oF (w:=w) (w':=w) (ty:=tt) (ao:=ao) (l:=0) (c:=0) ht hu hd hi s1 (by omega) (s3 w rfl) (by cases ao <;> simp [storeCells])
  rw [h0] at this
  exact aTC hW h0 this
 ·obtain ⟨c',q1,q2⟩:=lY (w:=w) (ty:=tt) (ao:=ao) (l:=0) (c:=0) ht hu hd hi hz s1 (by omega) hb1 hn (by omega) (os:=#[]) s3 (fun w1 _=>by
   cases ao with
   | none=>rfl
   | some a=>simp [Builtin.firstCells,loadCells,loadCellsFrom])
  rw [Nat.zero_add] at q1 q2
  exact UU hW (os:=#[]) (vs:=vs) (by simpa using s2) q1 (by rw [l5,hzs,hsz]) q2
theorem aJQ (hW : aV n0 G μ H w) {ty : Ty} (hsz : i.size = ty.size) (hb1 : i.bytes ≤ 65536) (hzs : z.cells.size = i.size) {x : Value} {new l : List ty.den} {tt : TypeId} (hs : SB P w G μ ty x new) (hn : new.length ≤ 1048576) (hl : l.length ≤ 1048576)
  (hok : ∀ vs : List Value,VRs w G μ (aJ ty new) vs→∀ v ∈ vs,v.oneCell' = true)
  {r : Nat} {k : Blk} (hk : fZ H r = some k) (hf : k.frozen = false) (hg : k.grown = true) (hte : k.ty = e) (htag : k.tag = some ⟨ty,l⟩) {b c : Nat} (hb : μ.loc r = some b) (hlc : l.length ≤ c) (hroom : Room w b (c * ty.size)) :
  qD P n0 w G μ (Builtin.append_ #[t,u] tt #[.slice (some ⟨b,0,none⟩) l.length c,x]) (.own H.length ty.size) (H.set r none ++ [some ⟨aJ ty (l ++ new),e,true,false,some ⟨ty,l ++ new⟩⟩]):=by
 obtain ⟨cs,g2,g3,g4,g5,g6⟩:=hW.blk r k b (aO hk) hb
 obtain ⟨ht1,ht2⟩:=hW.tags r k _ (aO hk) htag
 simp only at ht1 ht2
 rw [ht1] at g3
 obtain ⟨s1,vs,s2,s3⟩:=hs
 rw [← hsz] at s3
 have hvl : new.length * ty.size = vs.size:=by have:=s2.length; rw [bB] at this; simpa using this
 obtain ⟨i1,i2⟩:=qW g2 g3
 have hel:=bB ty l
 rw [hel] at i1 i2
 by_cases hfit : l.length + new.length ≤ c
 ·obtain ⟨c2,t2,fr2,r1,r2⟩:=hroom
  rw [g2] at r1; cases r1
  have hmul : (l.length + new.length) * ty.size ≤ c * ty.size:=Nat.mul_le_mul_right _ hfit
  rw [Nat.add_mul] at hmul
  obtain ⟨w',h1,h2⟩:=kO (P:=P) (off:=l.length * ty.size) vs.toList 0 w cs (hok _ s2) g2 (by simp only [Array.length_toList]; omega)
  rw [Nat.add_zero] at h2
  have hszV : (eB cs (l.length * ty.size) vs.toList).size = cs.size:=pI (by simp only [Array.length_toList]; omega)
  have e1:=o8 hW (aO hk) hf hb g2 h2 hszV
  have hW':=qU (k':=⟨aJ ty (l ++ new),e,true,false,none⟩) hW (aO hk) hf hb g2 (hte ▸ h2) hszV rfl (by
   refine mA (n:=l.length * ty.size + vs.size) h2.at_ (VRs.mono e1.toMono _ _ ?_)
   have h3:=i1.append s2
   rw [← iT] at h3
   have e2 : (eB cs (l.length * ty.size) vs.toList).toList.take (l.length * ty.size + vs.size) = cs.toList.take (l.length * ty.size) ++ vs.toList:=by
    simp only [eB]
    rw [List.take_append_of_le_length (by simp; omega),List.take_of_length_le (by simp; omega)]
   rw [e2]; exact h3) (fun h=>by cases h) (fun g hg=>by cases hg)
  have hrl : r < H.length:=(List.getElem?_eq_some_iff.1 (aO hk)).1
  obtain ⟨e3,hW''⟩:=DH (r:=r) (on:=some (l ++ new).length) hW' (List.getElem?_set_self hrl) hb (fun g hg=>by cases hg)
  simp only [List.length_set,List.set_set] at e3 hW''
  have hW3 : aV n0 G (upd μ H.length (some b) (some (l ++ new).length)) (H.set r none ++ [some ⟨aJ ty (l ++ new),e,true,false,some ⟨ty,l ++ new⟩⟩]) w':=by
   have hkill:=tO hW' r
   simp only [List.set_set] at hkill
   have hlen : (H.set r none).length = H.length:=by simp
   have e4 : Ext n0 w' G μ w' G (upd μ (H.set r none).length (some b) (some (l ++ new).length)):=by rw [hlen]; exact e3
   have:=FA hkill e4 ⟨aJ ty (l ++ new),e,true,false,some ⟨ty,l ++ new⟩⟩ (fun _ _ _ _ _=>rfl) (by
    rintro b' hb'
    cases hb'
    obtain ⟨c9,k2,k3,k4,k5,k6⟩:=hW'.blk r _ b (List.getElem?_set_self hrl) hb
    exact ⟨c9,k2,aP.mono e4.toMono rfl 0 _ k3,fun h=>(by cases h),fun h=>(by cases h),k6⟩) (fun g hg=>by cases hg; exact ⟨rfl,rfl⟩) (by
    intro s k' b' hs hf' hb' hh
    cases hh
    obtain ⟨hs1,hs2⟩:=k7 hs
    exact hs2 (hW.inj s r k' k b hs1 (aO hk) hf' hf hb' hb))
    (MU hkill e4 (fun t l h1 h2=>by cases h1) (fun _ _ _=>rfl) (fun j b1 hj _ hh=>by cases hh; exact (hW'.rows.sep j b hj).2.2.2 r _ (List.getElem?_set_self hrl) rfl hb))
   rwa [hlen] at this
  have hrun:=oF (w:=w) (w':=w') (ty:=tt) (ao:=some ⟨b,0,none⟩) ht hu hd hi s1 hfit (s3 w rfl) (by simp only [Addr.add_lit,Nat.zero_add,hsz]; exact h1)
  refine ⟨_,w',G,_,hrun,e1.trans e3,hW3,?_⟩
  rw [VR]
  refine ⟨_,kW _ _ _ _,.inr ⟨b,c,fR _ _ _ _,by rw [List.length_append],by rw [List.length_append]; exact hfit,_,_,_,h2.at_,by rw [hszV]; exact r2⟩⟩
 ·obtain ⟨os,o1,o2⟩:=(rK (P:=P) (c:=c) g3 (bB _ _) : Source P w G μ ty.size (.slice (some ⟨b,0,none⟩) l.length c) _ l.length).2.2 l.length (Nat.le_refl _)
  rw [List.take_of_length_le (by rw [hel]; exact Nat.le_refl _)] at o1
  rw [← hsz] at o2
  obtain ⟨c',q1,q2⟩:=lY (w:=w) (ty:=tt) (ao:=some ⟨b,0,none⟩) ht hu hd hi hz s1 hfit hb1 hn hl s3 o2
  have hlen : (H.set r none).length = H.length:=by simp
  have:=UU (tO hW r) (e:=e) (ty:=ty) (l:=l ++ new) (c':=c') (os:=os) (vs:=vs) (rest:=Builtin.zeroCells z.cells (c' - (l.length + new.length))) (by rw [iT,Array.toList_append]; exact o1.append s2) (by rw [List.length_append]; exact q1) (by rw [l5,hzs,hsz,List.length_append]) (s:=Builtin.append_ #[t,u] tt #[.slice (some ⟨b,0,none⟩) l.length c,x]) (by rw [List.length_append]; exact q2)
  rwa [hlen] at this
omit hz in
theorem aLY (hW : aV n0 G μ H w) {ty : Ty} (hsz : i.size = ty.size) {x : Value} {new l : List ty.den} {tt : TypeId} (hs : SB P w G μ ty x new)
  (hok : ∀ vs : List Value,VRs w G μ (aJ ty new) vs→∀ v ∈ vs,v.oneCell' = true)
  {r lo n : Nat} {k : Blk} (hk : fZ H r = some k) (hf : k.frozen = false) (hte : k.ty = e) (htag : k.tag = some ⟨ty,l⟩) {b c m : Nat} (hb : μ.loc r = some b) (hroom : Room w b ((lo + c) * ty.size)) (hm : μ.len r = some m) (hcap : m ≤ lo + c) (hfit : lo + n + new.length ≤ l.length) :
  qD P n0 w G μ (Builtin.append_ #[t,u] tt #[.slice (some ⟨b,lo * ty.size,none⟩) n c,x]) (.win r lo (n + new.length) ty.size) (H.set r (some { k with cells:=aJ ty (spl l (lo + n) new),tag:=some ⟨ty,spl l (lo + n) new⟩ })):=by
 obtain ⟨cs,g2,g3,g4,g5,g6⟩:=hW.blk r k b (aO hk) hb
 obtain ⟨ht1,ht2⟩:=hW.tags r k _ (aO hk) htag
 simp only at ht1 ht2
 rw [ht2] at hm
 cases hm
 rw [ht1] at g3
 obtain ⟨s1,vs,s2,s3⟩:=hs
 rw [← hsz] at s3
 have hvl : new.length * ty.size = vs.size:=by have:=s2.length; rw [bB] at this; simpa using this
 obtain ⟨i1,i2⟩:=qW g2 g3
 have hel:=bB ty l
 rw [hel] at i2
 have hmul : (lo + n + new.length) * ty.size ≤ l.length * ty.size:=Nat.mul_le_mul_right _ hfit
 rw [Nat.add_mul] at hmul
 obtain ⟨w',h1,h2⟩:=kO (P:=P) (off:=(lo + n) * ty.size) vs.toList 0 w cs (hok _ s2) g2 (by simp only [Array.length_toList]; omega)
 rw [Nat.add_zero] at h2
 have hszV : (eB cs ((lo + n) * ty.size) vs.toList).size = cs.size:=pI (by simp only [Array.length_toList]; omega)
 have e1:=o8 hW (aO hk) hf hb g2 h2 hszV
 have hlen : (spl l (lo + n) new).length = l.length:=by
  simp only [spl,List.length_append,List.length_take,List.length_drop]; omega
 have hW' : aV n0 G μ (H.set r (some { k with cells:=aJ ty (spl l (lo + n) new),tag:=some ⟨ty,spl l (lo + n) new⟩ })) w':=by
  refine qU (k':={ k with cells:=aJ ty (spl l (lo + n) new),tag:=some ⟨ty,spl l (lo + n) new⟩ }) hW (aO hk) hf hb g2 h2 hszV hf ?_ ?_ ?_ (fun t1 l1 q1 q2=>by simp only [Option.some.injEq,Tg.mk.injEq] at q2; obtain ⟨rfl,_⟩:=q2; exact ⟨l,q1,htag⟩)
  ·refine mA (n:=l.length * ty.size) h2.at_ (VRs.mono e1.toMono _ _ ?_)
   have hspl : (eB cs ((lo + n) * ty.size) vs.toList).toList.take (l.length * ty.size) = (cs.toList.take (aJ ty l).length).take ((lo + n) * ty.size) ++ (vs.toList ++ (cs.toList.take (aJ ty l).length).drop ((lo + n) * ty.size + new.length * ty.size)):=by
    simp only [eB,hel]
    rw [List.take_append,List.take_append,List.take_take,List.take_of_length_le (l:=vs.toList) (by simp only [List.length_take,Array.length_toList]; omega),List.drop_take,List.take_take,Nat.min_comm ((lo + n) * ty.size),List.append_assoc,Array.length_toList,hvl]
    congr 3
    simp only [List.length_append,List.length_take,Array.length_toList]; omega
   rw [hspl]
   unfold spl
   rw [iT,iT,← oU,← oV]
   refine (i1.take _).append (s2.append ?_)
   have:=i1.drop ((lo + n + new.length) * ty.size)
   rw [Nat.add_mul] at this ⊢
   exact this
  ·intro hgr
   rw [hszV,g4 hgr,ht1,bB,bB,hlen]
  ·intro g' hg'
   cases hg'
   exact ⟨rfl,by rw [hlen]; exact ht2⟩
 have hrun:=oF (w:=w) (w':=w') (ty:=tt) (ao:=some ⟨b,lo * ty.size,none⟩) (l:=n) (c:=c) ht hu hd hi s1 (by omega) (s3 w rfl) (by simp only [Addr.add_lit,hsz,← Nat.add_mul]; exact h1)
 refine ⟨_,w',G,μ,hrun,e1,hW',?_⟩
 rw [VR]
 obtain ⟨c2,t2,fr2,r1,r2⟩:=hroom
 rw [g2] at r1; cases r1
 exact ⟨b,c,l.length,hb,rfl,by omega,⟨_,_,_,h2.at_,by rw [hszV]; exact r2⟩,ht2,by omega,hcap⟩
end
theorem YW : ∀ (t : Ty) (x : t.den) (vs : List Value),VRs w G μ (enc t x) vs→∀ v ∈ vs,v.oneCell' = true
 | .int k,x,vs,h,v,hv=>by obtain ⟨u,rfl,h1⟩:=AD h; rw [VR] at h1; subst h1; rcases List.mem_singleton.1 hv with rfl; rfl
 | .bool,x,vs,h,v,hv=>by obtain ⟨u,rfl,h1⟩:=AD h; rw [VR] at h1; subst h1; rcases List.mem_singleton.1 hv with rfl; rfl
 | .str,x,vs,h,v,hv=>by obtain ⟨u,rfl,h1⟩:=AD h; rw [VR] at h1; subst h1; rcases List.mem_singleton.1 hv with rfl; rfl
 | .list t,x,vs,h,v,hv=>by
  obtain ⟨u,rfl,h1⟩:=AD h
  obtain ⟨_,_,rfl⟩:=aCF h1
  rcases List.mem_singleton.1 hv with rfl; rfl
 | .hnd sz,x,vs,h,v,hv=>by
  obtain ⟨u,rfl,h1⟩:=AD h
  rw [VR] at h1
  obtain ⟨_,_,rfl,_⟩:=h1
  rcases List.mem_singleton.1 hv with rfl; rfl
 | .rows t,x,vs,h,v,hv=>by obtain ⟨u,rfl,h1⟩:=AD h; rw [VR] at h1; subst h1; rcases List.mem_singleton.1 hv with rfl; rfl
 | .prod a b,(x,y),vs,h,v,hv=>by
  simp only [enc] at h
  have h1:=h.take (enc a x).length
  have h2:=h.drop (enc a x).length
  rw [List.take_left] at h1
  rw [List.drop_left] at h2
  rw [← List.take_append_drop (enc a x).length vs] at hv
  rcases List.mem_append.1 hv with hv | hv
  ·exact YW a x _ h1 v hv
  ·exact YW b y _ h2 v hv
theorem O6 (t : Ty) : ∀ (l : List t.den) (vs : List Value),VRs w G μ (aJ t l) vs→∀ v ∈ vs,v.oneCell' = true
 | [],vs,h,v,hv=>by simp only [aJ,List.flatMap_nil] at h; rw [VRs] at h; subst h; cases hv
 | x :: l,vs,h,v,hv=>by
  rw [fO] at h
  have h1:=h.take (enc t x).length
  have h2:=h.drop (enc t x).length
  rw [List.take_left] at h1
  rw [List.drop_left] at h2
  rw [← List.take_append_drop (enc t x).length vs] at hv
  rcases List.mem_append.1 hv with hv | hv
  ·exact YW t x _ h1 v hv
  ·exact O6 t l _ h2 v hv

theorem BC {H1 : Heap} {e : TypeId} {ty : Ty} {l : List ty.den} {cs0 cs : List Bool} {v : PV} {H' : Heap} {c : Nat} (h : aCN H1 e ty l cs0 = some (cs,v,H',c)) : cs = cs0∧v = .own H1.length ty.size∧H' = H1 ++ [some ⟨aJ ty l,e,true,false,some ⟨ty,l⟩⟩]∧c = 2:=by
 simp only [aCN,Option.some.injEq,Prod.mk.injEq] at h
 obtain ⟨rfl,rfl,rfl,rfl⟩:=h
 exact ⟨rfl,rfl,rfl,rfl⟩
set_option maxHeartbeats 1000000 in
theorem aEG (hW : aV n0 G μ H w) {tys : Array TypeId} {tt : TypeId} {p q v : PV} {s x : Value} {cs : List Bool} {H' : Heap} {c : Nat} (hp : VR w G μ p s) (hq : VR w G μ q x) (h : TF P H tys p q = some (cs,v,H',c)) (hcs : uK cs = true) :
  c = 2∧qD P n0 w G μ (Builtin.append_ tys tt #[s,x]) v H':=by
 unfold TF at h
 split at h
 ·rename_i t u htys
  have htys : tys = #[t,u]:=by apply Array.ext'; simpa using htys
  subst htys
  split at h
  ·cases h
  ·cases h
  ·rename_i d hnot hu
   have hd : ∀ k,d ≠ .int k:=fun k hk=>hnot k hk
   split at h
   ·rename_i e ty hel
    obtain ⟨ht,hsz0⟩:=tZ hel
    split at h
    ·rename_i i hi
     have hsz:=IU hsz0 hi
     split at h
     ·rename_i z hz
      cases hb : (Nat.ble i.bytes 65536 && Nat.beq z.cells.size i.size) with
      | false=>rw [hb] at h; cases h
      | true =>
       rw [hb] at h
       simp only [cond_true] at h
       simp only [Bool.and_eq_true] at hb
       have hb1:=Nat.le_of_ble_eq_true hb.1
       have hzs:=Nat.eq_of_beq_eq_true hb.2
       split at h
       ·rename_i new hnew
        have hs:=aEO (P:=P) hW hq hnew
        split at h
        ·rename_i m c0
         cases hm : (Nat.beq m 0 && Nat.beq c0 0) with
         | false=>rw [hm] at h; cases h
         | true =>
          rw [hm] at h
          simp only [cond_true] at h
          simp only [Bool.and_eq_true] at hm
          have e1:=Nat.eq_of_beq_eq_true hm.1
          have e2:=Nat.eq_of_beq_eq_true hm.2
          subst e1; subst e2
          obtain ⟨rfl,rfl,rfl,rfl⟩:=BC h
          rw [VR] at hp
          subst hp
          exact ⟨rfl,HQ ht hu hd hi hz hW hsz hb1 hzs hs (Nat.le_of_ble_eq_true (aX hcs).1)⟩
        ·rename_i r sz
         split at h
         ·rename_i k hk
          split at h
          ·rename_i g hg
           obtain ⟨gt,gl⟩:=g
           split at h
           ·rename_i l hl
            obtain ⟨rfl,rfl⟩:=l4 hl
            cases hm : (Nat.beq sz gt.size && !k.frozen && Nat.beq k.ty e && k.grown) with
            | false=>rw [hm] at h; cases h
            | true =>
             rw [hm] at h
             simp only [cond_true] at h
             simp only [Bool.and_eq_true,Bool.not_eq_true'] at hm
             obtain ⟨⟨⟨m1,m2⟩,m3⟩,m4⟩:=hm
             have m1:=Nat.eq_of_beq_eq_true m1
             have m3:=Nat.eq_of_beq_eq_true m3
             subst m1
             obtain ⟨rfl,rfl,rfl,rfl⟩:=BC h
             refine ⟨rfl,?_⟩
             obtain ⟨c1,hcs⟩:=aX hcs
             obtain ⟨c2,_⟩:=aX hcs
             obtain ⟨ht1,ht2⟩:=hW.tags r k _ (aO hk) hg
             have hlenset : (H.set r none).length = H.length:=by simp
             rw [VR] at hp
             obtain ⟨n,h1,h2⟩:=hp
             simp only at ht2
             rw [ht2] at h1
             cases h1
             rcases h2 with ⟨h2,ao,rfl⟩ | ⟨b,cc,h3,rfl,h5,h6⟩
             ·have hnil : gl = []:=List.eq_nil_of_length_eq_zero h2
              subst hnil
              have:=HQ (tt:=tt) (ao:=ao) (e:=e) ht hu hd hi hz (tO hW r) hsz hb1 hzs hs (Nat.le_of_ble_eq_true c1)
              simpa using this
             ·rw [hlenset]
              exact aJQ ht hu hd hi hz hW hsz hb1 hzs hs (Nat.le_of_ble_eq_true c1) (Nat.le_of_ble_eq_true c2) (fun vs h=>O6 _ _ vs h) hk m2 m4 m3 hg h3 h5 h6
           ·cases h
          ·cases h
         ·cases h
        ·rename_i r lo n sz
         split at h
         ·rename_i k hk
          split at h
          ·rename_i g hg
           obtain ⟨gt,gl⟩:=g
           split at h
           ·rename_i l hl
            obtain ⟨rfl,rfl⟩:=l4 hl
            cases hm : (Nat.beq sz gt.size && !k.frozen && Nat.beq k.ty e) with
            | false=>rw [hm] at h; cases h
            | true =>
             rw [hm] at h
             simp only [cond_true,Option.some.injEq,Prod.mk.injEq] at h
             obtain ⟨rfl,rfl,rfl,rfl⟩:=h
             simp only [Bool.and_eq_true,Bool.not_eq_true'] at hm
             obtain ⟨⟨m1,m2⟩,m3⟩:=hm
             have m1:=Nat.eq_of_beq_eq_true m1
             have m3:=Nat.eq_of_beq_eq_true m3
             subst m1
             refine ⟨rfl,?_⟩
             have c1:=Nat.le_of_ble_eq_true (aX hcs).1
             rw [VR] at hp
             obtain ⟨b,cc,m,h3,rfl,h5,h6,h7,_,h8⟩:=hp
             exact aLY ht hu hd hi hW hsz hs (fun vs h=>O6 _ _ vs h) hk m2 m3 hg h3 h6 h7 h8 c1
           ·cases h
          ·cases h
         ·cases h
        ·rename_i u' l0 c0 ee
         split at h
         ·rename_i l hl
          obtain ⟨rfl,rfl⟩:=l4 hl
          have hv:=H6 hp
          rw [VR] at hv
          obtain ⟨ao,cc,rfl,h2,h3,h4⟩:=hv
          have:=h3 c0 rfl
          subst this
          cases hc0 : Nat.beq cc 0 with
          | true =>
           rw [hc0] at h
           simp only [cond_true] at h
           obtain ⟨rfl,rfl,rfl,rfl⟩:=BC h
           have hc0:=Nat.eq_of_beq_eq_true hc0
           subst hc0
           have hl0 : l0.length = 0:=by omega
           refine ⟨rfl,?_⟩
           rw [hl0]
           exact HQ ht hu hd hi hz hW hsz hb1 hzs hs (Nat.le_of_ble_eq_true (aX hcs).1)
          | false =>
           rw [hc0] at h
           simp only [cond_false] at h
           obtain ⟨rfl,rfl,rfl,rfl⟩:=BC h
           refine ⟨rfl,?_⟩
           obtain ⟨c1,hcs⟩:=aX hcs
           obtain ⟨c2,hcs⟩:=aX hcs
           obtain ⟨c3,_⟩:=aX hcs
           have c3:=dP c3
           obtain ⟨s1,vs,s2,s3⟩:=hs
           obtain ⟨os,o1,o2⟩:=(XD (P:=P) (μ:=μ) (H6 hp).bD (bB _ _)).2.2 l0.length (Nat.le_refl _)
           rw [List.take_of_length_le (by rw [bB]; exact Nat.le_refl _)] at o1
           rw [← hsz] at s3 o2
           obtain ⟨c',q1,q2⟩:=lY (w:=w) (ty:=tt) (ao:=ao) ht hu hd hi hz s1 (by omega) hb1 (Nat.le_of_ble_eq_true c1) (Nat.le_of_ble_eq_true c2) s3 o2
           exact UU hW (e:=e) (l:=l0 ++ new) (c':=c') (os:=os) (vs:=vs) (by rw [iT,Array.toList_append]; exact o1.append s2) (by rw [List.length_append]; exact q1) (by rw [l5,hzs,hsz,List.length_append]) (by rw [List.length_append]; exact q2)
         ·cases h
        ·cases h
       ·cases h
     ·cases h
    ·cases h
   ·cases h
 ·cases h
end
end Go.PM
set_option linter.unusedSimpArgs false
set_option linter.unusedVariables false
namespace Go.PM
open Go Go.RowKit
section
variable {P : Program} {n0 : Nat→Prop} {w : World} {G : Gd} {μ : Mp} {H : Heap} {F : Frm} {a : Act} {nt : Nat}
theorem aB6 (hW : aV n0 G μ H w) (r : Nat) : ∃ G',Ext n0 w G μ w G' μ∧aV n0 G' μ (T1 H r) w:=by
 unfold T1
 split
 ·rename_i k hk
  cases hf : k.frozen with
  | true=>exact ⟨G,Ext.refl _ _ _ _,hW⟩
  | false=>exact ⟨_,KV hW (aO hk) hf⟩
 ·exact ⟨G,Ext.refl _ _ _ _,hW⟩
theorem yS : ∀ (rs : List Nat) (H : Heap) (G : Gd),aV n0 G μ H w→∃ G',Ext n0 w G μ w G' μ∧aV n0 G' μ (B8 H rs) w
 | [],H,G,hW=>⟨G,Ext.refl _ _ _ _,hW⟩
 | r :: rs,H,G,hW=>by
  obtain ⟨G1,e1,h1⟩:=aB6 hW r
  obtain ⟨G2,e2,h2⟩:=yS rs _ G1 h1
  exact ⟨G2,e1.trans e2,h2⟩

theorem B3 (hW : aV n0 G μ H w) {r sz : Nat} {k : Blk} {g : Tg} {v : Value} (hv : VR w G μ (.own r sz) v) (hk : fZ H r = some k) (hg : k.tag = some g) {G' : Gd} (hG : ∀ b,G b→G' b) (hB : ∀ b,μ.loc r = some b→G' b) (hR : ∀ j b,G.row j = some b→G'.row j = some b:=by exact fun _ _ h=>h) : VR w G' aL (qL g.t g.l none) v:=by
 obtain ⟨ht1,ht2⟩:=hW.tags r k g (aO hk) hg
 have hm : Mono w G μ w G' μ:=⟨fun b hb=>⟨hG b hb,rfl⟩,fun _ _ h=>h,fun _ _ h=>h,fun _ _ h=>h,hR⟩
 rw [VR] at hv
 obtain ⟨n,h1,h2⟩:=hv
 rw [ht2] at h1
 cases h1
 refine R4 ?_
 rw [VR]
 rcases h2 with ⟨h2,ao,rfl⟩ | ⟨b,c,h3,rfl,h5,h6⟩
 ·have hnil : g.l = []:=List.eq_nil_of_length_eq_zero h2
  exact ⟨ao,0,by rw [hnil]; rfl,by omega,fun k hk=>(by cases hk),.inl (by rw [hnil]; rfl)⟩
 ·obtain ⟨c',g2,g3,_⟩:=hW.blk r k b (aO hk) h3
  rw [ht1] at g3
  refine ⟨_,c,rfl,h5,fun k hk=>(by cases hk),.inr ⟨b,0,rfl,hB b h3,?_⟩⟩
  obtain ⟨vs,h7,h8⟩:=g3.values
  exact aP.iH (cH _ _ (fL _ _) (VRs.mono hm _ _ h7)) h8
theorem aOU (hW : aV n0 G μ H w) {r lo n sz : Nat} {k : Blk} {g : Tg} {v : Value} (hv : VR w G μ (.win r lo n sz) v) (hk : fZ H r = some k) (hg : k.tag = some g) (hsz : sz = g.t.size) {G' : Gd} (hG : ∀ b,G b→G' b) (hB : ∀ b,μ.loc r = some b→G' b) (hR : ∀ j b,G.row j = some b→G'.row j = some b:=by exact fun _ _ h=>h) :
  VR w G' aL (qL g.t ((g.l.drop lo).take n) none) v:=by
 subst hsz
 obtain ⟨ht1,ht2⟩:=hW.tags r k g (aO hk) hg
 have hm : Mono w G μ w G' μ:=⟨fun b hb=>⟨hG b hb,rfl⟩,fun _ _ h=>h,fun _ _ h=>h,fun _ _ h=>h,hR⟩
 rw [VR] at hv
 obtain ⟨b,c,m,h3,rfl,h5,h6,hm,hle,_⟩:=hv
 rw [ht2] at hm
 cases hm
 refine R4 ?_
 rw [VR]
 have hlen : ((g.l.drop lo).take n).length = n:=by rw [List.length_take,List.length_drop]; omega
 rw [hlen]
 obtain ⟨c',g2,g3,_⟩:=hW.blk r k b (aO hk) h3
 rw [ht1] at g3
 refine ⟨_,c,rfl,h5,fun k hk=>(by cases hk),.inr ⟨b,lo * g.t.size,rfl,hB b h3,?_⟩⟩
 have g4:=g3.sub (lo * g.t.size) (n * g.t.size)
 rw [Nat.zero_add,oV,oU] at g4
 obtain ⟨vs,h7,h8⟩:=g4.values
 exact aP.iH (cH _ _ (fL _ _) (VRs.mono hm _ _ h7)) h8
theorem a3B (hW : aV n0 G μ H w) {p q : PV} {v : Value} (h : wI.inlT H p = some q) (hv : VR w G μ p v) : VR w G aL q v:=by
 unfold wI.inlT at h
 split at h
 ·rename_i r sz
  split at h
  ·rename_i k hk
   split at h
   ·rename_i g hg
    cases hf : k.frozen with
    | false=>rw [hf] at h; cases h
    | true =>
     rw [hf] at h
     simp only [cond_true,Option.some.injEq] at h
     subst h
     exact B3 hW hv hk hg (fun b h=>h) (fun b hb=>by
      obtain ⟨_,_,_,_,h5,_⟩:=hW.blk r k b (aO hk) hb
      exact h5 hf)
   ·cases h
  ·cases h
 ·cases hn : c6 p with
  | false=>rw [hn] at h; cases h
  | true =>
   rw [hn] at h
   simp only [cond_true,Option.some.injEq] at h
   subst h
   exact pU p v hn hv

def T8 (w : World) (G : Gd) (μ : Mp) : List (Nat×PV)→List (Nat×Value)→Prop
 | [],vs=>vs = []
 | (i,p) :: ps,vs=>∃ x xs,vs = (i,x) :: xs∧VR w G μ p x∧T8 w G μ ps xs
theorem aC5 (hW : aV n0 G μ H w) (ρ : Operand→Value) : ∀ (ops : List (Nat×Operand)) (qs : List (Nat×PV)),(∀ x,VR w G μ (ev F x) (ρ x))→wI H (ops.map fun p=>(p.1,ev F p.2)) = some qs→T8 w G aL qs (ops.map fun p=>(p.1,ρ p.2))
 | [],qs,_,h=>by
  simp only [List.map_nil,wI,Option.some.injEq] at h
  subst h
  simp [T8]
 | (i,x) :: ops,qs,hF,h=>by
  simp only [List.map_cons,wI] at h
  split at h
  ·rename_i q hq
   split at h
   ·rename_i qs' hqs
    simp only [Option.some.injEq] at h
    subst h
    exact ⟨_,_,rfl,a3B hW hq (hF x),aC5 hW ρ ops qs' hF hqs⟩
   ·cases h
  ·cases h
theorem aDH {H1 : Heap} : ∀ (ps : List (Nat×PV)),owns ps = []→wI H1 ps = wI [] ps
 | [],_=>rfl
 | (i,p) :: ps,h=>by
  have hp : owns ps = []∧wI.inlT H1 p = wI.inlT [] p:=by
   cases p <;> simp only [owns] at h <;> first | exact ⟨h,rfl⟩ | cases h
  simp only [wI,hp.2,aDH ps hp.1]
theorem aXE (place : Nat→Option (Nat×Nat)) : ∀ (ps : List (Nat×PV)) (vs : List (Nat×Value)) (cs out : List PV) (c : Array Value),T8 w G μ ps vs→VRs w G μ cs c.toList→BR place cs ps = some out→∃ c',Instr.fill place c vs = some c'∧VRs w G μ out c'.toList
 | [],vs,cs,out,c,hp,hc,h=>by
  simp only [T8] at hp
  subst hp
  simp only [BR,Option.some.injEq] at h
  exact ⟨c,rfl,h ▸ hc⟩
 | (i,p) :: ps,vs,cs,out,c,hp,hc,h=>by
  obtain ⟨x,xs,rfl,hx,hps⟩:=hp
  simp only [BR] at h
  split at h
  ·rename_i off size new hpl hcp
   cases hb : (Nat.beq new.length size && Nat.ble (off + new.length) cs.length) with
   | false=>rw [hb] at h; cases h
   | true =>
    rw [hb] at h
    simp only [cond_true] at h
    simp only [Bool.and_eq_true] at hb
    have h1:=Nat.eq_of_beq_eq_true hb.1
    have h2:=Nat.le_of_ble_eq_true hb.2
    have hv:=wL hcp hx
    have hl : new.length = x.cells.size:=by simpa using hv.length
    have hcl : cs.length = c.size:=by simpa using hc.length
    obtain ⟨c',h3,h4⟩:=aXE place ps xs _ out _ hps (aAA (off:=off) hc hv) h
    refine ⟨c',?_,h4⟩
    simp only [Instr.fill,hpl]
    have hno' : ¬ (x.cells.size ≠ size ∨ off + x.cells.size > c.size):=by omega
    have hf:=HG (off:=off) x.cells.toList 0 c (by simp only [Array.length_toList]; omega)
    rw [Nat.add_zero] at hf
    rw [← Array.foldl_toList]
    simp only [Array.toList_zipIdx]
    rw [hf]
    simp [hno',h3]
  ·cases h

theorem P3 (hW : aV n0 G μ H w) {t e : TypeId} {ty : Ty} (hel : wF P t = some (e,ty)) {z : Value} (hz : sT P e = some z) {len : Nat} (h1 : len * ty.size ≤ 16777216) {qs : List (Nat×PV)} {vs : Array (Nat×Value)} (hp : T8 w G aL qs vs.toList) {cs : List PV}
  (hf : BR (fun i=>some (i * ty.size,ty.size)) (xA z (len * ty.size)) qs = some cs) {l : List ty.den} (hd : pC (dec ty) ty.size len cs = some l) : qD P n0 w G μ (Instr.buildSlice t len vs) (qL ty l (some len)) H:=by
 obtain ⟨hu,hs⟩:=tZ hel
 obtain ⟨c',h3,h4⟩:=aXE (w:=w) (G:=G) (μ:=aL) _ qs vs.toList _ cs _ hp (DF z (len * ty.size)) hf
 have hzero : ∃ i,P.info? e = some i∧i.zero = some z:=by
  unfold sT at hz
  split at hz
  ·rename_i i hi; exact ⟨i,hi,hz⟩
  ·cases hz
 obtain ⟨i,hi,hz'⟩:=hzero
 obtain ⟨h5,h6⟩:=xT (g:=enc ty) (fun cs x vs h hv=>oG ty aL cs x vs h hv) hd h4
 obtain ⟨e1,e2⟩:=UQ hW (.cells c' e)
 refine ⟨.slice (some ⟨w.heap.size,0,none⟩) len len,w.alloc (.cells c' e),_,_,?_,e1,e2,?_⟩
 ·have hn : ¬ (len * ty.size > 2 ^ 24):=by omega
  have hrow : (Array.range (len * ty.size)).map (fun x=>z.cells[x % z.cells.size]!) = madeCells z.cells (len * ty.size):=rfl
  have h3' : Instr.fill (fun i=>some (i * ty.size,ty.size)) (Array.map (fun x=>z.cells[x % z.cells.size]!) (Array.range (len * ty.size))) vs.toList = some c':=by rw [hrow]; exact h3
  by_cases h0 : len * ty.size = 0
  ·have h3'' : Instr.fill (fun i=>some (i * ty.size,ty.size)) (Array.map (fun x=>(#[] : Array Value)[x % 0]!) (Array.range (len * ty.size))) vs.toList = some c':=by
    rw [← h3']; congr 1; rw [h0]; simp [Array.range_zero']
   rw [h0] at h3''
   simp [Instr.buildSlice,run_underlying hu,run_sizeOf hs,h0,newRow]
   simp at h3''
   rw [h3'']
   simp
  ·simp only [Instr.buildSlice,Sem.run_bind,run_underlying hu,Result.andThen_ok,run_sizeOf hs,if_neg hn,if_neg h0]
   simp only [Sem.run_pure,Result.andThen_ok,Sem.run_bind,zeroValue,pQ hi,hz',h3']
   simp [newRow]
 ·refine R4 ?_
  rw [VR]
  refine ⟨_,_,by rw [h6],by omega,fun k hk=>(by cases hk; rfl),?_⟩
  refine .inr ⟨w.heap.size,0,rfl,.inr rfl,?_⟩
  refine aP.mk fun j p hp=>?_
  obtain ⟨u,g1,g2⟩:=h5.get hp
  refine ⟨u,?_,VR.mono e1.toMono.aL p u g2⟩
  rw [Nat.zero_add,World.cell?_alloc_new]
  simpa using g1
theorem qD.trans {s : Sem Value} {v : PV} {H' : Heap} {G1 : Gd} (e : Ext n0 w G μ w G1 μ) (h : qD P n0 w G1 μ s v H') : qD P n0 w G μ s v H':=by
 obtain ⟨v',w',G',μ',h1,h2,h3⟩:=h
 exact ⟨v',w',G',μ',h1,e.trans h2,h3⟩
theorem RA (hW : aV n0 G μ H w) {sz r : Nat} {q : PV} {H1 : Heap} {v : Value} (h : aGP H sz r = some (q,H1)) (hv : VR w G μ (.own r sz) v) : ∃ G' μ',Ext n0 w G μ w G' μ'∧aV n0 G' μ' H1 w∧VR w G' aL q v:=by
 unfold aGP at h
 split at h
 ·rename_i ra k har
  split at h
  ·rename_i t l htag
   split at h
   ·rename_i kb hkb
    split at h
    ·rename_i g hg
     split at h
     ·rename_i row hrow
      obtain ⟨hb,h⟩:=kE h
      simp only [Option.some.injEq,Prod.mk.injEq] at h
      obtain ⟨rfl,rfl⟩:=h
      simp only [Bool.and_eq_true,Bool.not_eq_true'] at hb
      obtain ⟨⟨⟨⟨hf,hgr⟩,hty⟩,hm⟩,hsz⟩:=hb
      have hm : k.ty ≠ DK:=Nat.ne_of_beq_eq_false hm
      have hty:=Nat.eq_of_beq_eq_true hty
      have hsz:=Nat.eq_of_beq_eq_true hsz
      obtain ⟨gt,gl⟩:=g
      obtain ⟨rfl,rfl⟩:=l4 hrow
      simp only at hsz hg ⊢
      obtain ⟨hr,hkg⟩:=FN har
      obtain ⟨a1,a2,a3⟩:=hW.rows.arn ra k gt l hr hkg htag
      obtain ⟨ht1,ht2⟩:=hW.tags r kb _ (aO hkb) hg
      simp only at ht1 ht2
      have hne : r ≠ ra:=by rintro rfl; rw [aO hkb] at hr; cases hr; rw [hgr] at hkg; cases hkg
      obtain ⟨G',hG'⟩ : ∃ G' : Gd,G' = ⟨G.ok,fun j=>if j = l.length then μ.loc r else G.row j⟩:=⟨_,rfl⟩
      have hrow' : ∀ j b,G.row j = some b→G'.row j = some b:=fun j b hj=>by
       rw [hG']
       show (if j = l.length then μ.loc r else G.row j) = some b
       rw [if_neg (by rintro rfl; rw [a2 _ (Nat.le_refl _)] at hj; cases hj)]
       exact hj
      have hrow2 : ∀ j b,G'.row j = some b→(j = l.length∧μ.loc r = some b) ∨ (j ≠ l.length∧G.row j = some b):=fun j b hj=>by
       rw [hG'] at hj
       change (if j = l.length then μ.loc r else G.row j) = some b at hj
       split at hj
       ·rename_i h1; exact .inl ⟨h1,hj⟩
       ·rename_i h1; exact .inr ⟨h1,hj⟩
      have hok : ∀ b,G'.ok b = G.ok b:=fun b=>by rw [hG']
      have e : Ext n0 w G μ w G' (upd μ H.length none (some (l ++ [gl]).length)):={ xC hW none (some (l ++ [gl]).length) with
       cW:=fun b hb=>⟨by rw [hok]; exact hb,rfl⟩
       row:=hrow'
       new:=fun b hb=>.inl (by rw [← hok]; exact hb) }
      have hnewblk : (H.set r none |>.set ra none).length = H.length:=by simp
      have key : ∀ (s : Nat) (k1 : Blk),(((H.set r none).set ra none) ++ [some ⟨aJ (.rows gt) (l ++ [gl]),k.ty,false,k.frozen,some ⟨.rows gt,l ++ [gl]⟩⟩])[s]? = some (some k1) →
        (s = H.length∧k1 = ⟨aJ (.rows gt) (l ++ [gl]),k.ty,false,k.frozen,some ⟨.rows gt,l ++ [gl]⟩⟩) ∨ (s < H.length∧s ≠ r∧s ≠ ra∧H[s]? = some (some k1)):=by
       intro s k1 hs
       rcases BE s k1 hs with ⟨h1,h2⟩ | ⟨h1,h2⟩
       ·exact .inl ⟨by rw [h1,hnewblk],h2⟩
       ·obtain ⟨h3,h4⟩:=k7 h2
        obtain ⟨h5,h6⟩:=k7 h3
        exact .inr ⟨by rw [hnewblk] at h1; exact h1,h6,h4,h5⟩
      have hloc : ∀ b,μ.loc r = some b→b < w.heap.size∧n0 b∧¬ G b:=fun b hb=>by
       obtain ⟨c,q1,_,_,_,q2⟩:=hW.blk r kb b (aO hkb) hb
       exact ⟨dC q1,(q2 hf).1,(q2 hf).2⟩
      refine ⟨G',_,e,⟨?_,?_,?_,hW.lt.step (fun b hb=>⟨by rw [hok]; exact hb,rfl⟩) fun b hb=>hW.lt b (by rw [← hok]; exact hb),?_,hW.base,?_,?_,?_,?_,?_⟩,?_⟩
      ·intro s k1 b hs hb
       rcases key s k1 hs with ⟨rfl,rfl⟩ | ⟨h1,h2,h3,h4⟩
       ·rw [fR] at hb; cases hb
       ·rw [(lH (by omega)).1] at hb
        obtain ⟨c,q1,q2,q3,q4,q5⟩:=hW.blk s k1 b h4 hb
        exact ⟨c,q1,aP.mono e.toMono rfl 0 _ q2,q3,fun hf=>by rw [hok]; exact q4 hf,fun hf=>by rw [hok]; exact q5 hf⟩
      ·intro s k1 g1 hs hg1
       rcases key s k1 hs with ⟨rfl,rfl⟩ | ⟨h1,h2,h3,h4⟩
       ·cases hg1
        exact ⟨rfl,kW _ _ _ _⟩
       ·rw [(lH (by omega)).2]
        exact hW.tags s k1 g1 h4 hg1
      ·intro x1 x2 k1 k2 b h1 h2 f1 f2 m1 m2
       rcases key x1 k1 h1 with ⟨rfl,rfl⟩ | ⟨p1,p2,p3,p4⟩
       ·rw [fR] at m1; cases m1
       ·rcases key x2 k2 h2 with ⟨rfl,rfl⟩ | ⟨q1,q2,q3,q4⟩
        ·rw [fR] at m2; cases m2
        ·rw [(lH (by omega)).1] at m1 m2
         exact hW.inj x1 x2 k1 k2 b p4 q4 f1 f2 m1 m2
      ·intro s hs
       rw [List.length_append,hnewblk] at hs
       simp only [List.length_cons,List.length_nil] at hs
       rw [(lH (by omega)).1,(lH (by omega)).2]
       exact hW.top s (by omega)
      ·intro i j b hi hj
       rcases hrow2 i b hi with ⟨i1,i2⟩ | ⟨i1,i2⟩ <;> rcases hrow2 j b hj with ⟨j1,j2⟩ | ⟨j1,j2⟩
       ·rw [i1,j1]
       ·exact absurd i2 ((hW.rows.sep j b j2).2.2.2 r kb (aO hkb) hf)
       ·exact absurd j2 ((hW.rows.sep i b i2).2.2.2 r kb (aO hkb) hf)
       ·exact hW.rows.inj i j b i2 j2
      ·intro j b hj
       have hsep : b < w.heap.size∧n0 b∧¬ G b∧∀ s k1,s ≠ r→H[s]? = some (some k1)→k1.frozen = false→μ.loc s ≠ some b:=by
        rcases hrow2 j b hj with ⟨j1,j2⟩ | ⟨j1,j2⟩
        ·obtain ⟨b1,b2,b3⟩:=hloc b j2
         exact ⟨b1,b2,b3,fun s k1 hs h1 h2 h3=>hs (hW.inj s r k1 kb b h1 (aO hkb) h2 hf h3 j2)⟩
        ·obtain ⟨b1,b2,b3,b4⟩:=hW.rows.sep j b j2
         exact ⟨b1,b2,b3,fun s k1 _ h1 h2=>b4 s k1 h1 h2⟩
       refine ⟨hsep.1,hsep.2.1,by rw [hok]; exact hsep.2.2.1,fun s k1 hs hf1 hl=>?_⟩
       rcases key s k1 hs with ⟨rfl,rfl⟩ | ⟨h1,h2,h3,h4⟩
       ·rw [fR] at hl; cases hl
       ·rw [(lH (by omega)).1] at hl
        exact hsep.2.2.2 s k1 h2 h4 hf1 hl
      ·intro j b hj
       rcases hrow2 j b hj with ⟨j1,j2⟩ | ⟨j1,j2⟩
       ·obtain ⟨c,q1,_⟩:=hW.blk r kb b (aO hkb) j2
        exact .inl ⟨_,_,_,q1⟩
       ·exact hW.rows.cel j b j2
      ·intro s k1 t1 l1 hs hg1 ht1'
       rcases key s k1 hs with ⟨rfl,rfl⟩ | ⟨h1,h2,h3,h4⟩
       ·cases ht1'
        refine ⟨fR _ _ _ _,fun j hj=>?_,fun j row hj=>?_⟩
        ·rw [List.length_append] at hj
         simp only [List.length_cons,List.length_nil] at hj
         rw [hG']
         show (if j = l.length then μ.loc r else G.row j) = none
         rw [if_neg (by omega)]
         exact a2 j (by omega)
        ·rcases Nat.lt_or_ge j l.length with hlt | hge
         ·rw [List.getElem?_append_left hlt] at hj
          rcases a3 j row hj with h0 | ⟨b,q1,q2⟩
          ·exact .inl h0
          ·exact .inr ⟨b,hrow' j b q1,q2.mono e.toMono.aL rfl⟩
         ·have hjl : j = l.length:=by
           have:=(List.getElem?_eq_some_iff.1 hj).1
           simp only [List.length_append,List.length_cons,List.length_nil] at this
           omega
          subst hjl
          rw [List.getElem?_append_right (Nat.le_refl _),Nat.sub_self] at hj
          simp only [List.getElem?_cons_zero,Option.some.injEq] at hj
          subst hj
          cases hl : μ.loc r with
          | none =>
           left
           refine ⟨?_,hm⟩
           rw [VR] at hv
           obtain ⟨n,n1,n2⟩:=hv
           rw [ht2] at n1; cases n1
           rcases n2 with ⟨n2,_⟩ | ⟨b,c,n3,_⟩
           ·exact List.eq_nil_of_length_eq_zero n2
           ·rw [hl] at n3; cases n3
          | some b =>
           right
           obtain ⟨c,q1,q2,_⟩:=hW.blk r kb b (aO hkb) hl
           rw [ht1] at q2
           refine ⟨b,by rw [hG']; show (if l.length = l.length then μ.loc r else _) = some b; rw [if_pos rfl]; exact hl,.inl ⟨hm,c,by rw [hty] at q1; exact q1,?_⟩⟩
           obtain ⟨us,u1,u2⟩:=q2.values
           exact aP.iH (cH _ _ (fL _ _) (VRs.mono e.toMono _ _ u1)) u2
       ·exact absurd (hW.rows.one s ra k1 k t1 l1 gt l h4 hg1 ht1' hr hkg htag) h3
      ·intro x1 x2 k1 k2 t1 l1 t2 l2 h1 g1 q1 h2 g2 q2
       have old : ∀ (s : Nat) (k1 : Blk) (t1 : Ty) (l1 : List (List t1.den)),(((H.set r none).set ra none) ++ [some ⟨aJ (.rows gt) (l ++ [gl]),k.ty,false,k.frozen,some ⟨.rows gt,l ++ [gl]⟩⟩])[s]? = some (some k1)→k1.grown = false→k1.tag = some ⟨.rows t1,l1⟩→s = H.length:=by
        intro s k1 t1 l1 h1 g1 q1
        rcases key s k1 h1 with ⟨rfl,_⟩ | ⟨_,_,h3,h4⟩
        ·rfl
        ·exact absurd (hW.rows.one s ra k1 k t1 l1 gt l h4 g1 q1 hr hkg htag) h3
       rw [old x1 k1 t1 l1 h1 g1 q1,old x2 k2 t2 l2 h2 g2 q2]
      ·rw [VR] at hv
       rw [VR.eq_def]
       simp only
       obtain ⟨n,n1,n2⟩:=hv
       rw [ht2] at n1; cases n1
       rcases n2 with ⟨n2,ao,rfl⟩ | ⟨b,c,n3,rfl,n5,n6⟩
       ·exact ⟨ao,0,by rw [n2],by omega,.inl n2⟩
       ·refine ⟨_,c,rfl,n5,.inr ⟨b,?_,by rw [Nat.zero_mul],by rw [Nat.zero_add]; exact n6⟩⟩
        rw [hG']
        show (if l.length = l.length then μ.loc r else _) = some b
        rw [if_pos rfl]; exact n3
     ·cases h
    ·cases h
   ·cases h
  ·cases h
 ·cases h
theorem aPP (hW : aV n0 G μ H w) {s : Nat} {k : Blk} {t : Ty} {l : List (List t.den)} (hs : H[s]? = some (some k)) (hg : k.grown = false) (ht : k.tag = some ⟨.rows t,l⟩) :
  Ext n0 w G μ w G (upd μ H.length none (some l.length))∧aV n0 G (upd μ H.length none (some l.length)) (H.set s none ++ [some k]) w:=by
 have hk:=tO hW s
 have hlen : (H.set s none).length = H.length:=by simp
 have e:=xC hW none (some l.length)
 have e2 : Ext n0 w G μ w G (upd μ (H.set s none).length none (some l.length)):=by rw [hlen]; exact e
 refine ⟨e,?_⟩
 obtain ⟨a1,_⟩:=hW.rows.arn s k t l hs hg ht
 have:=FA hk e2 k (fun _ _ _ _ _=>rfl) (fun b hb=>by cases hb) (fun g hg'=>by rw [ht] at hg'; cases hg'; exact ⟨(hW.tags s k _ hs ht).1,rfl⟩) (fun r k' b _ _ _ hh=>by cases hh)
  (hW.rows.rel (fun r r'=>(r = H.length∧r' = s) ∨ (r < H.length∧r ≠ s∧r' = r)) (fun r r2 q h1 h2=>by
   rcases h1 with ⟨h1,h3⟩ | ⟨h1,h3,h4⟩ <;> rcases h2 with ⟨h2,h5⟩ | ⟨h2,h5,h6⟩
   ·rw [h1,h2]
   ·exact absurd (h6.symm.trans h3) h5
   ·exact absurd (h4.symm.trans h5) h3
   ·exact h4.symm.trans h6) (fun r k' hr=>by
   rcases BE r k' hr with ⟨h1,rfl⟩ | ⟨h1,h2⟩
   ·rw [hlen] at h1
    exact ⟨s,k',.inl ⟨h1,rfl⟩,hs,rfl,rfl,rfl,rfl,by rw [h1,← hlen,fR,a1]⟩
   ·obtain ⟨h3,h4⟩:=k7 h2
    rw [hlen] at h1
    exact ⟨r,k',.inr ⟨h1,h4,rfl⟩,h3,rfl,rfl,rfl,rfl,(lH (by rw [hlen]; omega)).1⟩))
 rwa [hlen] at this
theorem QK (hW : aV n0 G μ H w) (hF : eP w G μ nt F a) {t : TypeId} {len : Nat} {parts : Array (Nat×Operand)} {v : PV} {cs : List Bool} {H' : Heap} {c : Nat} (h : oZ P F H t len parts.toList = some (cs,v,H',c)) :
  qD P n0 w G μ (Instr.buildSlice t len (parts.map fun (i,x)=>(i,a.eval x))) v H':=by
 unfold oZ at h
 split at h
 ·rename_i e ty hel
  split at h
  ·rename_i z hz
   cases hb : (Nat.ble (len * ty.size) 16777216 && Nat.ble 1 z.cells.size) with
   | false=>rw [hb] at h; cases h
   | true =>
    rw [hb] at h
    simp only [cond_true] at h
    simp only [Bool.and_eq_true] at hb
    have hb1:=Nat.le_of_ble_eq_true hb.1
    split at h
    ·rename_i r sz had
     split at h
     ·rename_i q H1 hq
      split at h
      ·rename_i cs' hf
       split at h
       ·rename_i l hd
        simp only [Option.some.injEq,Prod.mk.injEq] at h
        obtain ⟨rfl,rfl,rfl,rfl⟩:=h
        obtain ⟨x,hpl,hx⟩ : ∃ x,parts.toList = [(0,x)]∧ev F x = .own r sz:=by
         unfold RB at had
         split at had
         ·split at had
          ·rename_i x hpl
           split at had
           ·rename_i r' s' hx
            obtain ⟨hc,had⟩:=kE had
            simp only [Option.some.injEq,Prod.mk.injEq] at had
            obtain ⟨rfl,rfl⟩:=had
            simp only [Bool.and_eq_true] at hc
            exact ⟨x,hpl,by rw [hx,Nat.eq_of_beq_eq_true hc.2]⟩
           ·cases had
          ·cases had
         ·cases had
        have hv:=bX hF x
        rw [hx] at hv
        obtain ⟨G1,μ1,e1,hW1,hq1⟩:=RA hW hq hv
        obtain ⟨v',w',G2,μ2,z1,z2,z3⟩:=P3 hW1 hel hz hb1 (qs:=[(0,q)]) (vs:=parts.map fun (i,x)=>(i,a.eval x)) (by
         rw [Array.toList_map,hpl]
         exact ⟨_,_,rfl,hq1,rfl⟩) hf hd
        exact ⟨v',w',G2,μ2,z1,e1.trans z2,z3⟩
       ·cases h
      ·cases h
     ·cases h
    split at h
    ·rename_i how
     split at h
     ·rename_i ps hps
      split at h
      ·rename_i cs' hf
       split at h
       ·rename_i l hd
        simp only [Option.some.injEq,Prod.mk.injEq] at h
        obtain ⟨rfl,rfl,rfl,rfl⟩:=h
        rw [← aDH (H1:=H) _ how] at hps
        exact P3 hW hel hz hb1 (by rw [GQ]; exact aC5 hW a.eval _ _ (bX hF) hps) hf hd
       ·cases h
      ·cases h
     ·cases h
    ·rename_i r rs how
     split at h
     ·rename_i ps hps
      split at h
      ·rename_i cs' hf
       split at h
       ·rename_i l hd
        simp only [Option.some.injEq,Prod.mk.injEq] at h
        obtain ⟨rfl,rfl,rfl,rfl⟩:=h
        obtain ⟨G1,e1,hW1⟩:=yS (r :: rs) H G hW
        exact (P3 hW1 hel hz hb1 (by rw [GQ]; exact aC5 hW1 a.eval _ _ (fun x=>VR.mono e1.toMono _ _ (bX hF x)) hps) hf hd).trans e1
       ·cases h
      ·cases h
     ·cases h
  ·cases h
 ·cases h

theorem qQ (z : Array Value) : ∀ n : Nat,(madeCells z (n * z.size)).toList = (List.replicate n z.toList).flatten
 | 0=>by simp [madeCells,Array.range_zero']
 | n + 1=>by
  have ih:=qQ z n
  rw [List.replicate_succ',List.flatten_append,← ih]
  apply List.ext_getElem
  ·simp [madeCells,Nat.add_mul]
  ·intro i h1 h2
   simp only [madeCells,Array.toList_map,Array.toList_range,List.getElem_map,List.getElem_range]
   simp only [madeCells,Array.toList_map,Array.toList_range,List.length_map,List.length_range,Nat.add_mul,Nat.one_mul] at h1
   by_cases hi : i < n * z.size
   ·rw [List.getElem_append_left (by simpa using hi)]
    simp
   ·rw [List.getElem_append_right (by simpa using hi)]
    have hlt : i - n * z.size < z.size:=by omega
    have hmod : i % z.size = i - n * z.size:=by
     have : i = (i - n * z.size) + z.size * n:=by rw [Nat.mul_comm z.size n]; omega
     rw [this,Nat.add_mul_mod_self_left,Nat.mod_eq_of_lt hlt]
     rw [Nat.mul_comm z.size n]; omega
    simp [hmod,hlt]
theorem sR {ty : Ty} {d : ty.den} {zs : List Value} (h : VRs w G aL (enc ty d) zs) : ∀ n : Nat,VRs w G aL (aJ ty (List.replicate n d)) (List.replicate n zs).flatten
 | 0=>by simp [aJ,VRs]
 | n + 1=>by
  rw [List.replicate_succ,List.replicate_succ,fO,List.flatten_cons]
  exact h.append (sR h n)
theorem V6 (hW : aV n0 G μ H w) {t : TypeId} {p q v : PV} {x y : Value} {cs : List Bool} {H' : Heap} {c : Nat} (hp : VR w G μ p x) (hq : VR w G μ q y) (h : BV P H t p q = some (cs,v,H',c)) (hcs : uK cs = true) :
  c = 2∧qD P n0 w G μ (Instr.makeSlice t x y) v H':=by
 unfold BV at h
 split at h
 ·rename_i e ty kl l kc cc hel
  rw [VR] at hp hq
  subst hp; subst hq
  obtain ⟨hu,hs⟩:=tZ hel
  split at h
  ·rename_i i hi
   have hsz:=IU hs hi
   split at h
   ·rename_i z hz
    split at h
    ·rename_i d hd
     cases hb : (Nat.ble i.bytes 65536 && Nat.beq z.cells.size i.size) with
     | false=>rw [hb] at h; cases h
     | true =>
      rw [hb] at h
      simp only [cond_true,Option.some.injEq,Prod.mk.injEq] at h
      obtain ⟨rfl,rfl,rfl,rfl⟩:=h
      refine ⟨rfl,?_⟩
      simp only [Bool.and_eq_true] at hb
      have hb1:=Nat.le_of_ble_eq_true hb.1
      have hb2:=Nat.eq_of_beq_eq_true hb.2
      obtain ⟨c1,hcs⟩:=aX hcs
      obtain ⟨c2,hcs⟩:=aX hcs
      obtain ⟨c3,_⟩:=aX hcs
      rw [aN,Bool.not_eq_true',decide_eq_false_iff_not] at c1 c2 c3
      have hbytes : (i.bytes : Int) * cc ≤ 281474976710656:=by
       have : (i.bytes : Int) * cc ≤ 65536 * 1048576:=Int.mul_le_mul (by omega) (by omega) (by omega) (by omega)
       omega
      have hr:=run_make (P:=P) w t e i z hu hi hz kl kc l cc (by omega) (by omega) hbytes (by omega)
      have hdz : VRs w G aL (enc ty d) z.cells.toList:=oG ty aL _ d _ hd (pH _)
      have hrep:=sR hdz l.toNat
      have hmade : (madeCells z.cells (cc.toNat * i.size)).toList = (List.replicate cc.toNat z.cells.toList).flatten:=by rw [← hb2]; exact qQ z.cells cc.toNat
      have hsplit : (List.replicate cc.toNat z.cells.toList).flatten = (List.replicate l.toNat z.cells.toList).flatten ++ (List.replicate (cc.toNat - l.toNat) z.cells.toList).flatten:=by
       rw [← List.flatten_append,List.replicate_append_replicate]
       congr 2; omega
      have hk:=tK (on:=some l.toNat) hW (madeCells z.cells (cc.toNat * i.size)) ⟨aJ ty (List.replicate l.toNat d),e,true,false,some ⟨ty,List.replicate l.toNat d⟩⟩ (fun j p hp=>by
       obtain ⟨u,g1,g2⟩:=hrep.get hp
       refine ⟨u,?_,g2.bD⟩
       rw [← Array.getElem?_toList,hmade,hsplit,List.getElem?_append_left (List.getElem?_eq_some_iff.1 g1).1]
       exact g1) (fun h=>by cases h) rfl (fun g hg=>by cases hg; exact ⟨rfl,by simp⟩)
      refine ⟨_,_,G,_,hr,rT hW _ _ _,hk,?_⟩
      rw [VR]
      refine ⟨l.toNat,kW _ _ _ _,.inr ⟨w.heap.size,cc.toNat,fR _ _ _ _,rfl,by omega,madeCells z.cells (cc.toNat * i.size),e,(0,0),?_,?_⟩⟩
      ·show (w.heap.push _)[w.heap.size]? = _
       simp
      ·simp [madeCells,hsz]
    ·cases h
   ·cases h
  ·cases h
 ·cases h
theorem aNX {e : TypeId} {z : Value} (hz : sT P e = some z) (w : World) : (zeroValue e).run P w = .ok z w:=by
 unfold sT at hz
 split at hz
 ·rename_i i hi
  simp [zeroValue,pQ hi,hz]
 ·cases hz
theorem aDN (z : Array Value) (n : Nat) : (Builtin.zeroCells z n).toList = (List.replicate n z.toList).flatten:=by
 exact qQ z n
theorem aI5 (hW : aV n0 G μ H w) {tys : Array TypeId} {ty : TypeId} {p v : PV} {x : Value} {cs : List Bool} {H' : Heap} {c : Nat} (hp : VR w G μ p x) (h : aBG P H tys p = some (cs,v,H',c)) (hcs : uK cs = true) : qD P n0 w G μ (Builtin.clear_ tys ty #[x]) v H':=by
 unfold aBG at h
 split at h
 ·rename_i t ts ht
  have ht' : tys[0]? = some t:=by rw [← Array.getElem?_toList,ht]; rfl
  split at h
  ·rename_i e ety hel
   obtain ⟨hu,hse⟩:=tZ hel
   split at h
   ·rename_i z hz
    split at h
    ·rename_i r lo n sz
     split at h
     ·rename_i k hk
      split at h
      ·rename_i g hg
       split at h
       ·rename_i d hd
        obtain ⟨hb,h⟩:=kE h
        simp only [Option.some.injEq,Prod.mk.injEq] at h
        obtain ⟨rfl,rfl,rfl,rfl⟩:=h
        simp only [Bool.and_eq_true,Bool.not_eq_true'] at hb
        obtain ⟨⟨⟨b1,b2⟩,hf⟩,hok⟩:=hb
        have b1:=Nat.eq_of_beq_eq_true b1
        have b2:=Nat.eq_of_beq_eq_true b2
        subst b1
        have hle:=Nat.le_of_ble_eq_true (aX hcs).1
        obtain ⟨ht1,ht2⟩:=hW.tags r k g (aO hk) hg
        rw [VR] at hp
        obtain ⟨b,cc,_,hloc,rfl,h5,h6,_⟩:=hp
        have htu : VR w G μ (.tuple []) (.tuple #[]):=by rw [VR]; exact ⟨#[],rfl,by rw [VRs]⟩
        have q2 : (#[Value.slice (some ⟨b,lo * g.t.size,none⟩) n cc] : Array Value)[0]? = some (Value.slice (some ⟨b,lo * g.t.size,none⟩) n cc):=rfl
        obtain ⟨C,g2,g3,g4,g5,g6⟩:=hW.blk r k b (aO hk) hloc
        rw [ht1] at g3
        obtain ⟨i1,i2⟩:=qW g2 g3
        have hlen:=bB g.t g.l
        have hdz : VRs w G aL (enc g.t d) z.cells.toList:=oG g.t aL _ d _ hd (pH _)
        have hrep:=sR hdz n
        have hone : ∀ v ∈ (List.replicate n z.cells.toList).flatten,v.oneCell' = true:=by
         intro v hv
         obtain ⟨l,h1,h2⟩:=List.mem_flatten.1 hv
         rw [List.mem_replicate] at h1
         rw [h1.2] at h2
         exact tS hok (pH (w:=w) (G:=G) (μ:=μ) _) v h2
        have hrl : ((List.replicate n z.cells.toList).flatten).length = n * g.t.size:=by
         rw [← hrep.length,bB,List.length_replicate]
        have hmul : (lo + n) * g.t.size ≤ g.l.length * g.t.size:=Nat.mul_le_mul_right _ hle
        rw [Nat.add_mul] at hmul
        obtain ⟨w',h1,h2⟩:=kO (P:=P) (off:=lo * g.t.size) (List.replicate n z.cells.toList).flatten 0 w C hone g2 (by omega)
        rw [Nat.add_zero] at h2
        have hsz : (eB C (lo * g.t.size) (List.replicate n z.cells.toList).flatten).size = C.size:=pI (by omega)
        have e1:=o8 hW (aO hk) hf hloc g2 h2 hsz
        have hclr : (clr g.l lo n d).length = g.l.length:=by
         simp only [clr,List.length_append,List.length_take,List.length_replicate,List.length_drop]; omega
        have e2 : aV n0 G μ (H.set r (some { k with cells:=aJ g.t (clr g.l lo n d),tag:=some ⟨g.t,clr g.l lo n d⟩ })) w':=by
         refine qU (k':={ k with cells:=aJ g.t (clr g.l lo n d),tag:=some ⟨g.t,clr g.l lo n d⟩ }) hW (aO hk) hf hloc g2 h2 hsz hf ?_ ?_ ?_ (fun t1 l1 q1 q2=>by obtain ⟨gt,gl⟩:=g; simp only [Option.some.injEq,Tg.mk.injEq] at q2; obtain ⟨rfl,_⟩:=q2; exact ⟨gl,q1,hg⟩)
         ·refine mA (n:=g.l.length * g.t.size) h2.at_ (VRs.mono e1.toMono _ _ ?_)
          have hspl : (eB C (lo * g.t.size) (List.replicate n z.cells.toList).flatten).toList.take (g.l.length * g.t.size) = (C.toList.take (aJ g.t g.l).length).take (lo * g.t.size) ++ ((List.replicate n z.cells.toList).flatten ++ (C.toList.take (aJ g.t g.l).length).drop (lo * g.t.size + n * g.t.size)):=by
           simp only [eB,hlen]
           rw [List.take_append,List.take_append,List.take_take,List.take_of_length_le (l:=(List.replicate n z.cells.toList).flatten) (by simp only [List.length_take,Array.length_toList]; omega),List.drop_take,List.take_take,Nat.min_comm (lo * g.t.size),List.append_assoc,hrl]
           congr 3
           simp only [List.length_append,List.length_take,Array.length_toList,hrl]; omega
          rw [hspl]
          unfold clr
          rw [iT,iT,← oU,← oV]
          refine (i1.take _).append ((VRs.bD hrep).append ?_)
          have:=i1.drop ((lo + n) * g.t.size)
          rw [Nat.add_mul] at this ⊢
          exact this
         ·intro hgr
          rw [hsz,g4 hgr,ht1,bB,bB,hclr]
         ·intro g' hg'
          cases hg'
          exact ⟨rfl,by rw [hclr]; exact ht2⟩
        cases n with
        | zero =>
         have hw : w' = w:=by
          have : (List.replicate 0 z.cells.toList).flatten = []:=rfl
          rw [this] at h1
          simp only [storeCells,Sem.run_pure,Result.ok.injEq,true_and] at h1
          exact h1.symm
         subst hw
         refine .put (v':=.tuple #[]) (w':=w') ?_ e1 e2 htu
         unfold Builtin.clear_
         simp only [ht',q2,Sem.run_bind,run_underlying hu,Result.andThen_ok,Sem.run_pure]
        | succ n =>
         refine .put (v':=.tuple #[]) (w':=w') ?_ e1 e2 (VR.mono e1.toMono _ _ htu)
         unfold Builtin.clear_
         simp only [ht',q2,Sem.run_bind,run_underlying hu,Result.andThen_ok,aNX hz,aDN,h1,Sem.run_pure]
       ·cases h
      ·cases h
     ·cases h
    ·cases h
   ·cases h
  ·cases h
 ·cases h

theorem A6 {r : Option (List Bool×Value)} {cs : List Bool} {v : PV} {H' : Heap} {c : Nat} (h : aKL H r = some (cs,v,H',c)) : H' = H∧c = 0∧∃ u,r = some (cs,u)∧v = .lit u:=by
 unfold aKL at h
 split at h
 ·simp only [Option.some.injEq,Prod.mk.injEq] at h
  obtain ⟨rfl,rfl,rfl,rfl⟩:=h
  exact ⟨rfl,rfl,_,rfl,rfl⟩
 ·cases h
theorem aPH {t : TypeId} {p q : PV} {x y : Value} {cs : List Bool} {u : Value} (hp : VR w G μ p x) (hq : VR w G μ q y) (h : a9H P t p q = some (cs,u)) (hcs : uK cs = true) (w1 : World) : (Instr.index t x y).run P w1 = .ok u w1:=by
 unfold a9H at h
 split at h
 ·rename_i s k i hu
  simp only [Option.some.injEq,Prod.mk.injEq] at h
  obtain ⟨rfl,rfl⟩:=h
  rw [VR] at hp hq
  subst hp; subst hq
  have h1:=(aX hcs).1
  replace h1:=oI h1
  have h2 : i.toNat < s.size:=by omega
  simp [Instr.index,asIntOf,run_underlying hu,h1.1,h2,aDQ]
 ·cases h
theorem aHX {F : Frm} {a : Act} {nt : Nat} (hF : eP w G μ nt F a) {t : TypeId} {p : PV} {x : Value} {lo hi : Option Operand} {cs : List Bool} {u : Value} (hp : VR w G μ p x) (h : aO3 P t p (lo.map (ev F)) (hi.map (ev F)) = some (cs,u)) (hcs : uK cs = true) (w1 : World) :
  (Instr.sliceAt t x (lo.map a.eval) (hi.map a.eval) none).run P w1 = .ok u w1:=by
 unfold aO3 at h
 split at h
 ·rename_i s hu
  split at h
  ·rename_i b1 i b2 j h1 h2
   simp only [Option.some.injEq,Prod.mk.injEq] at h
   obtain ⟨rfl,rfl⟩:=h
   rw [VR] at hp
   subst hp
   obtain ⟨c1,hcs⟩:=aX hcs
   obtain ⟨c2,hcs⟩:=aX hcs
   obtain ⟨c3,hcs⟩:=aX hcs
   obtain ⟨c4,_⟩:=aX hcs
   have hr:=mR (P:=P) (isSlice:=false) (yZ hF (pV h1 c1)) (yZ hF (pV h2 c2)) (Nat.le_of_ble_eq_true c3) (Nat.le_of_ble_eq_true c4) w1
   simp [Instr.sliceAt,Instr.slice,run_underlying hu,hr]
  ·cases h
 ·cases h
theorem aNS {op : BinOp} {t : TypeId} {p q : PV} {x y : Value} {ox oy : Operand} {cs : List Bool} {u : Value} (hp : VR w G μ p x) (hq : VR w G μ q y) (h : a7U op p q = some (cs,u)) (hcs : uK cs = true) (w1 : World) :
  (do eqGuard op t ox oy x y; binOp op t x y : Sem Value).run P w1 = .ok u w1:=by
 unfold a7U at h
 split at h
 ·rename_i a b
  rw [VR] at hp hq
  subst hp; subst hq
  have hg : (eqGuard op t ox oy (.string a) (.string b)).run P w1 = .ok () w1:=by
   cases op <;> simp [eqGuard]
  have hb : (binOp op t (.string a) (.string b)).run P w1 = .ok u w1:=by
   unfold bD2 at h
   split at h
   ·simp only [Option.some.injEq,Prod.mk.injEq] at h
    obtain ⟨rfl,rfl⟩:=h
    have h1:=Nat.le_of_ble_eq_true (aX hcs).1
    have h2 : ¬ ((a.size + b.size : Nat) : Int) > IntKind.i64.max:=by
     show ¬ ((a.size + b.size : Nat) : Int) > 9223372036854775807
     omega
    simp only [binOp,Op.stringOp,h2,if_false,Sem.run_pure]
   all_goals first
    | (simp only [Option.some.injEq,Prod.mk.injEq] at h
       obtain ⟨rfl,rfl⟩:=h
       simp [binOp,Op.stringOp,eqS,ltS,ByteArray.toList_eq])
    | cases h
  simp only [Sem.run_bind,hg,Result.andThen_ok,hb]
 ·cases h
end
end Go.PM
