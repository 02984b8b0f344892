/- Texts of one proof, joined (2). -/
import Derived.Laws.Strings
import Derived.MapKept
import Derived.RangeFuncRecord
import Derived.Lib.ConvBytes
import Derived.Laws.BytesString
import Derived.Lib.AppendZerosOnto
import Derived.Lib.SliceRun
import Derived.WalkSpells
import Derived.Test.YtmghkhgpkefgeaaGreatDoorQJ1
set_option linter.unusedSimpArgs false
set_option linter.unusedVariables false
noncomputable section
namespace Go.PM
open Go Go.RowKit
def a5P(P:Program):Nat->TypeId->Option Ty
 | 0,_=>none
 | n+1,t=>match P.underlying t with
  | some (.int k)=>some (.int k)
  | some .bool=>some .bool
  | some .string=>some .str
  | some (.slice e)=>match a5P P n e with|some t=>some (.list t)|none=>none
  | some (.struct fs)=>tyFields (λt=>a5P P n t) (fs.toList.map (·.type))
  | _=>none
where tyFields (f:TypeId->Option Ty):List TypeId->Option Ty
 | []=>none
 | [t]=>f t
 | t::r=>match f t,tyFields f r with
  | some a,some b=>some (.prod a b)
  | _,_=>none
def a6B:List Nat:=[]
def aMM:List Nat->Nat->Bool
 | [],_=>false
 | a::r,t=>bif Nat.beq a t then true else aMM r t
def a7D:List Nat:=[147]
def aWK(P:Program)(t:TypeId):Option (TypeId×Ty):=match P.underlying t with
 | some (.slice e)=>match P.underlying e with
  | some (.slice e2)=>match sS P e,sS P e2 with
   | some n,some m=>bif Nat.beq n 1 then some (e,.hnd m) else none
   | _,_=>none
  | _=>none
 | _=>none
def IE(P:Program)(t:TypeId):Option (TypeId×Ty):=bif aMM a6B t then none else bif aMM a7D t then aWK P t else match P.underlying t with
 | some (.slice e)=>match a5P P 6 e,sS P e with
  | some ty,some n=>bif Nat.beq n ty.size then some (e,ty) else none
  | _,_=>none
 | _=>none
def HG(a b:Ty)(l:List a.den):Option (List b.den):=if h:a=b then some (h ▸ l) else none
theorem qV {a b:Ty}{l:List a.den}{l':List b.den}(h:HG a b l=some l'):∃ e:a=b,e ▸ l=l':=by
 unfold HG at h;split at h
 ·rename_i e; exact⟨e,by simpa using h⟩
 ·cases h
def A5 {α:Type}(f:List PV->Option α)(sz:Nat):Nat->List PV->Option (List α)
 | 0,[]=>some []
 | 0,_::_=>none
 | n+1,cs=>match f (cs.take sz)with
  | some x=>match A5 f sz n (cs.drop sz)with
   | some l=>some (x::l)
   | none=>none
  | none=>none
def aNV(k:IntKind):List PV->Option Int
 | [.lit (.int d n)]=>bif M6 k d then some n else none
 | _=>none
def aH1:List PV->Option Bool
 | [.lit (.bool b)]=>some b
 | _=>none
def aOB:List PV->Option ByteArray
 | [.lit (.string s)]=>some s
 | _=>none
def aPT(t:Ty)(f:List PV->Option t.den):List PV->Option (List t.den)
 | [.tl u l _ _]=>HG u t l
 | [.lit (.slice none n _)]=>bif Nat.beq n 0 then some [] else none
 | [.vals cs n _]=>A5 f t.size n cs
 | _=>none
def aPU(sz:Nat):List PV->Option (Nat×Nat×Nat)
 | [.row j lo n s]=>bif Nat.beq s sz then some (j,lo,n) else none
 | [.lit (.slice none n _)]=>bif Nat.beq n 0 then some (0,0,0) else none
 | _=>none
def dec:(t:Ty)->List PV->Option t.den
 | .hnd sz,cs=>aPU sz cs
 | .rows _,_=>none
 | .int k,cs=>aNV k cs
 | .bool,cs=>aH1 cs
 | .str,cs=>aOB cs
 | .list t,cs=>aPT t (λcs=>dec t cs) cs
 | .prod a b,cs=>match dec a (cs.take a.size)with
  | some x=>match dec b (cs.drop a.size)with
   | some y=>some (x,y)
   | none=>none
  | none=>none
abbrev FL:=Option (List Bool×PV×Heap×Nat)
def aLL(H:Heap)(r:Nat):Option Tg:=match jS H r with|some k=>k.tag|none=>none
def aAA:Nat->Heap->Option (Nat×Blk)
 | _,[]=>none
 | r,none::H=>aAA (r+1) H
 | r,some k::H=>match k.tag with
  | some ⟨.rows _,_⟩=>bif k.grown then aAA (r+1) H else some (r,k)
  | _=>aAA (r+1) H
def dK {α:Type} (l:List (List α)) (j off:Nat) (d:α):α:=(l.getD j []).getD off d
def cS {α:Type}(l:List (List α))(j:Nat):Nat:=(l.getD j []).length
def vJ {α:Type}(l:List (List α))(j off:Nat)(x:α):List (List α):=l.set j ((l.getD j []).set off x)
def uX(P:Program)(H:Heap)(t:TypeId)(x:PV)(i:Int):FL :=
 match P.underlying t with
 | some (.slice e)=>match sS P e with
  | some n=>match x with
   | .tl ty l _ _=>bif Nat.beq n ty.size then some ([aF i l.length],aYL ty l i.toNat 0,H,0) else none
   | .own r sz=>match aLL H r with
    | some g=>bif Nat.beq n sz&&Nat.beq sz g.t.size then some ([aF i g.l.length],.op r i.toNat 0 sz,H,1) else none
    | none=>none
   | .win r lo m sz=>bif Nat.beq n sz then some ([aF i m],.op r (lo+i.toNat) 0 sz,H,0) else none
   | .row j lo m sz=>bif Nat.beq n sz then some ([aF i m],.rp j ((lo+i.toNat)*sz),H,0) else none
   | _=>none
  | none=>none
 | some (.array n e)=>match sS P e with
  | some sz=>match x with
   | .tp ty l j off _=>some ([aF i n],aYL ty l j (off+i.toNat*sz),H,0)
   | _=>none
  | none=>none
 | _=>none
def D3(P:Program)(H:Heap)(s:TypeId)(f:Nat)(x:PV):FL :=
 match aBR P s f with
 | some fd=>match sS P fd.type with
  | some (_+1)=>match x with
   | .tp t l i off _=>some ([],aYL t l i (off+fd.offset),H,0)
   | .op r i off sz=>some ([],.op r i (off+fd.offset) sz,H,0)
   | _=>none
  | _=>none
 | none=>none
def aJS(P:Program)(H:Heap)(T:TypeId)(a:PV):FL :=
 match a with
 | .tp t l i off _=>match DL P T ((enc t (l.getD i t.aP4)).drop off)with
  | some v=>some ([],v,H,0)
  | none=>none
 | .op r i off sz=>match aLL H r with
  | some g=>bif Nat.beq sz g.t.size then match DL P T ((enc g.t (g.l.getD i g.t.aP4)).drop off)with
    | some v=>some ([Nat.blt i g.l.length],v,H,1)
    | none=>none
   else none
  | none=>none
 | .rp j off=>match aAA 0 H with
  | some (_,k)=>match k.tag with
   | some ⟨.rows t,l⟩=>bif Nat.beq t.size 1&&!Nat.beq k.ty NJ then match DL P T (enc t (dK l j off t.aP4))with
     | some v=>some ([Nat.blt off (cS l j)],v,H,1)
     | none=>none
    else none
   | _=>none
  | none=>none
 | _=>none
def aJ1(P:Program)(H:Heap)(T:TypeId)(a v:PV):FL :=
 match a with
 | .op r i off sz=>match jS H r with
  | some k=>match k.tag with
   | some g=>match uC v,sS P T with
    | some new,some n=>bif Nat.beq new.length n&&Nat.beq sz g.t.size&&!k.frozen&&Nat.ble (off+n) sz&&new.all MN then
      match dec g.t (UW (enc g.t (g.l.getD i g.t.aP4)) off new)with
      | some x=>some ([Nat.blt i g.l.length],.lit undef,H.set r (some { k with cells:=aG g.t (g.l.set i x),tag:=some ⟨g.t,g.l.set i x⟩ }),2)
      | none=>none
     else none
    | _,_=>none
   | none=>none
  | none=>none
 | .rp j off=>match aAA 0 H with
  | some (r,k)=>match k.tag with
   | some ⟨.rows t,l⟩=>match uC v,sS P T with
    | some new,some n=>bif Nat.beq new.length 1&&Nat.beq n 1&&Nat.beq t.size 1&&!Nat.beq k.ty NJ&&new.all MN then
      match dec t new with
      | some x=>some ([Nat.blt off (cS l j)],.lit undef,H.set r (some { k with cells:=aG (.rows t) (vJ l j off x),tag:=some ⟨.rows t,vJ l j off x⟩ }),2)
      | none=>none
     else none
    | _,_=>none
   | _=>none
  | none=>none
 | _=>none
def aP7(P:Program)(H:Heap)(tys:Array TypeId)(x:PV):FL :=
 match tys.toList with
 | t::_=>match P.underlying t with
  | some (.slice _)=>match x with
   | .tl _ l _ _=>some ([],.lit (goInt l.length),H,0)
   | .own r _=>match aLL H r with
    | some g=>some ([],.lit (goInt g.l.length),H,1)
    | none=>none
   | .win _ _ n _=>some ([],.lit (goInt n),H,0)
   | .row _ _ n _=>some ([],.lit (goInt n),H,0)
   | _=>none
  | _=>none
 | _=>none
def aG3(x:Option PV) (d:Nat):Option (Bool×Nat) :=
 match x with
 | none=>some (true,d)
 | some (.lit (.int _ i))=>some (!ltI i 0,i.toNat)
 | _=>none
def aKF:Ty->Bool
 | .hnd _=>true
 | _=>false
def aHS(g:Tg) (H:Heap) (r sz:Nat) (lo hi:Option PV) (z:Bool):FL:=match aG3 lo 0,aG3 hi g.l.length with
 | some (b1,i),some (b2,j)=>bif z then some ([b1,b2,Nat.beq i 0,Nat.beq j 0],.own r sz,H,1) else some ([b1,b2,Nat.ble i j,Nat.ble j g.l.length,Nat.blt i g.l.length],.win r i (j-i) sz,H,1)
 | _,_=>none
def SD(P:Program)(H:Heap)(t:TypeId)(x:PV)(lo hi:Option PV):FL :=
 match P.underlying t with
 | some (.slice e)=>match sS P e with
  | some n=>match x with
   | .tl ty l _ _=>bif Nat.beq n ty.size then match aG3 lo 0,aG3 hi l.length with
     | some (b1,i),some (b2,j)=>some ([b1,b2,Nat.ble i j,Nat.ble j l.length],L4 ty ((l.drop i).take (j-i)) none,H,0)
     | _,_=>none
    else none
   | .own r sz=>match aLL H r with
    | some g=>bif Nat.beq n sz then aHS g H r sz lo hi (aKF g.t&&Nat.beq g.l.length 0) else none
    | none=>none
   | .win r l0 m sz=>bif Nat.beq n sz then match aG3 lo 0,aG3 hi m with
     | some (b1,i),some (b2,j)=>some ([b1,b2,Nat.ble i j,Nat.ble j m,Nat.blt i m],.win r (l0+i) (j-i) sz,H,0)
     | _,_=>none
    else none
   | .row r l0 m sz=>bif Nat.beq n sz then match aG3 lo 0,aG3 hi m with
     | some (b1,i),some (b2,j)=>some ([b1,b2,Nat.ble i j,Nat.ble j m],.row r (l0+i) (j-i) sz,H,0)
     | _,_=>none
    else none
   | _=>none
  | none=>none
 | _=>none
def aZ7(H:Heap) (ty:Ty) (j lo n sz:Nat):Option (List ty.den):=match aAA 0 H with
 | some (_,k)=>match k.tag with
  | some ⟨.rows t,l⟩=>match HG t ty (l.getD j [])with
   | some row=>bif Nat.beq sz ty.size&&!Nat.beq k.ty NJ then some ((row.drop lo).take n) else none
   | none=>none
  | _=>none
 | none=>none
def aWV(H:Heap)(x:PV):List Bool:=match x with
 | .row j lo n _=>match aAA 0 H with
  | some (_,k)=>match k.tag with
   | some ⟨.rows _,l⟩=>[Nat.ble (lo+n) (cS l j)]
   | _=>[false]
  | none=>[false]
 | _=>[]
def a3Y(b:List Bool)(r:FL):FL:=match r with
 | some (cs,v,H,c)=>some (b++cs,v,H,c)
 | none=>none
def aPD(H:Heap) (ty:Ty) (x:PV):Option (List ty.den) :=
 match x with
 | .tl u l _ _=>HG u ty l
 | .own r _=>match aLL H r with
  | some g=>HG g.t ty g.l
  | none=>none
 | .lit (.slice none n _)=>bif Nat.beq n 0 then some [] else none
 | .vals cs n _=>A5 (dec ty) ty.size n cs
 | .win r lo n sz=>match aLL H r with
  | some g=>match HG g.t ty g.l with
   | some l=>bif Nat.beq sz ty.size then some ((l.drop lo).take n) else none
   | none=>none
  | none=>none
 | .row j lo n sz=>aZ7 H ty j lo n sz
 | _=>none
def aCY(H:Heap)(e:TypeId)(ty:Ty)(l:List ty.den)(cs:List Bool):FL :=
 some (cs,.own H.length ty.size,H++[some ⟨aG ty l,e,true,false,some ⟨ty,l⟩⟩],2)
def spl {α:Type} (l:List α) (i:Nat) (new:List α):List α:=l.take i++(new++l.drop (i+new.length))
def aCZ(P:Program)(H:Heap)(tys:Array TypeId)(s x:PV):FL :=
 match tys.toList with
 | [t,u]=>match P.underlying u with
  | some (.int _)|none=>none
  | some _=>match IE P t with
   | some (e,ty)=>match P.info? e with
    | some i=>match i.zero with
     | some z=>bif Nat.ble i.bytes 65536&&Nat.beq z.cells.size i.size then match aPD H ty x with
      | some new=>match s with
       | .lit (.slice none m c)=>bif Nat.beq m 0&&Nat.beq c 0 then aCY H e ty new [Nat.ble new.length 1048576] else none
       | .own r sz=>match jS H r with
        | some k=>match k.tag with
         | some g=>match HG g.t ty g.l with
          | some l=>bif Nat.beq sz ty.size&&!k.frozen&&Nat.beq k.ty e&&k.grown then aCY (H.set r none) e ty (l++new) [Nat.ble new.length 1048576,Nat.ble l.length 1048576] else none
          | none=>none
         | none=>none
        | none=>none
       | .win r lo n sz=>match jS H r with
        | some k=>match k.tag with
         | some g=>match HG g.t ty g.l with
          | some l=>bif Nat.beq sz ty.size&&!k.frozen&&Nat.beq k.ty e then
            some ([Nat.ble (lo+n+new.length) l.length],.win r lo (n+new.length) sz,H.set r (some { k with cells:=aG ty (spl l (lo+n) new),tag:=some ⟨ty,spl l (lo+n) new⟩ }),2) else none
          | none=>none
         | none=>none
        | none=>none
       | .tl u l (some c) _=>match HG u ty l with
        | some l=>bif Nat.beq c 0 then aCY H e ty new [Nat.ble new.length 1048576] else
          aCY H e ty (l++new) [Nat.ble new.length 1048576,Nat.ble l.length 1048576,Nat.blt c (l.length+new.length)]
        | none=>none
       | _=>none
      | none=>none
      else none
     | none=>none
    | none=>none
   | none=>none
 | _=>none
def JI(H:Heap):List (Nat×PV)->Option (List (Nat×PV))
 | []=>some []
 | (i,p)::r=>match inlT H p with
  | some q=>match JI H r with
   | some qs=>some ((i,q)::qs)
   | none=>none
  | none=>none
where inlT (H:Heap):PV->Option PV
 | .own r _=>match jS H r with
  | some k=>match k.tag with
   | some g=>bif k.frozen then some (L4 g.t g.l none) else none
   | none=>none
  | none=>none
 | p=>bif eB p then some p else none
def owns:List (Nat×PV)->List Nat
 | []=>[]
 | (_,.own r _)::l=>r::owns l
 | _::l=>owns l
def J0(H:Heap)(r:Nat):Heap:=match jS H r with
 | some k=>bif k.frozen then H else H.set r (some { k with frozen:=true })
 | none=>H
def QD:Heap->List Nat->Heap
 | H,[]=>H
 | H,r::rs=>QD (J0 H r) rs
def aPE(H:Heap) (sz r:Nat):Option (PV×Heap):=match aAA 0 H with
 | some (ra,k)=>match k.tag with
  | some ⟨.rows t,l⟩=>match jS H r with
   | some b=>match b.tag with
    | some g=>match HG g.t t g.l with
     | some row=>bif !b.frozen&&b.grown&&Nat.beq b.ty k.ty&&!Nat.beq k.ty NJ&&Nat.beq t.size sz then
       some (.row l.length 0 row.length sz,((H.set r none).set ra none)++[some ⟨aG (.rows t) (l++[row]),k.ty,false,k.frozen,some ⟨.rows t,l++[row]⟩⟩])
      else none
     | none=>none
    | none=>none
   | none=>none
  | _=>none
 | none=>none
def aEM(F:Frm)(ty:Ty)(len:Nat)(parts:List (Nat×Operand)):Option (Nat×Nat):=match ty with
 | .hnd sz=>match parts with
  | [(0,x)]=>match ev F x with
   | .own r s=>bif Nat.beq len 1&&Nat.beq s sz then some (r,sz) else none
   | _=>none
  | _=>none
 | _=>none
def zW(P:Program)(F:Frm)(H:Heap)(t:TypeId)(len:Nat)(parts:List (Nat×Operand)):FL :=
 match IE P t with
 | some (e,ty)=>match xW P e with
  | some z=>bif Nat.ble (len*ty.size) 16777216&&Nat.ble 1 z.cells.size then
   match aEM F ty len parts with
   | some (r,sz)=>match aPE H sz r with
    | some (q,H1)=>match PE (λi=>some (i*ty.size,ty.size)) (KJ z (len*ty.size)) [(0,q)]with
     | some cs=>match A5 (dec ty) ty.size len cs with
      | some l=>some ([],L4 ty l (some len),H1,2)
      | none=>none
     | none=>none
    | none=>none
   | none =>
   match owns (parts.map λp=>(p.1,ev F p.2))with
   | []=>match JI [] (parts.map λp=>(p.1,ev F p.2))with
    | some ps=>match PE (λi=>some (i*ty.size,ty.size)) (KJ z (len*ty.size)) ps with
     | some cs=>match A5 (dec ty) ty.size len cs with
      | some l=>some ([],L4 ty l (some len),H,0)
      | none=>none
     | none=>none
    | none=>none
   | r::rs=>match QD H (r::rs)with
    | H1=>match JI H1 (parts.map λp=>(p.1,ev F p.2))with
     | some ps=>match PE (λi=>some (i*ty.size,ty.size)) (KJ z (len*ty.size)) ps with
      | some cs=>match A5 (dec ty) ty.size len cs with
       | some l=>some ([],L4 ty l (some len),H1,2)
       | none=>none
      | none=>none
     | none=>none
   else none
  | none=>none
 | none=>none
def PX(P:Program)(H:Heap)(t:TypeId)(l c:PV):FL :=
 match IE P t,l,c with
 | some (e,ty),.lit (.int _ l),.lit (.int _ c)=>match P.info? e with
  | some i=>match i.zero with
   | some z=>match dec ty (lits z.cells)with
    | some d=>bif Nat.ble i.bytes 65536&&Nat.beq z.cells.size i.size then
      some ([!ltI l 0,!ltI c l,!ltI 1048576 c],.own H.length ty.size,H++[some ⟨aG ty (List.replicate l.toNat d),e,true,false,some ⟨ty,List.replicate l.toNat d⟩⟩],2)
     else none
    | none=>none
   | none=>none
  | none=>none
 | _,_,_=>none
def clr {α:Type} (l:List α) (lo n:Nat) (d:α):List α:=l.take lo++(List.replicate n d++l.drop (lo+n))
def aIS(P:Program)(H:Heap)(tys:Array TypeId)(x:PV):FL :=
 match tys.toList with
 | t::_=>match IE P t with
  | some (e,_)=>match xW P e with
   | some z=>match x with
    | .win r lo n sz=>match jS H r with
     | some k=>match k.tag with
      | some g=>match dec g.t (lits z.cells)with
       | some d=>bif Nat.beq sz g.t.size&&Nat.beq z.cells.size sz&&!k.frozen&&(lits z.cells).all MN then
         some ([Nat.ble (lo+n) g.l.length],.tuple [],H.set r (some { k with cells:=aG g.t (clr g.l lo n d),tag:=some ⟨g.t,clr g.l lo n d⟩ }),2) else none
       | none=>none
      | none=>none
     | none=>none
    | _=>none
   | none=>none
  | none=>none
 | _=>none
def aLU(P:Program) (H:Heap) (t:TypeId) (op:BinOp) (x y:PV):FL :=
 match P.underlying t with
 | some (.slice _)=>match y with
  | .lit (.slice none _ _)=>match x with
   | .tl _ l _ _=>match op with
    | .eql=>some ([Nat.blt 0 l.length],.lit (.bool false),H,0)
    | .neq=>some ([Nat.blt 0 l.length],.lit (.bool true),H,0)
    | _=>none
   | .win _ _ _ _=>match op with
    | .eql=>some ([],.lit (.bool false),H,0)
    | .neq=>some ([],.lit (.bool true),H,0)
    | _=>none
   | _=>none
  | _=>none
 | _=>none
def a5A(x y:PV):Bool:=match x,y with
 | .tl ..,.lit (.slice none _ _)=>true
 | .win ..,.lit (.slice none _ _)=>true
 | _,_=>false
def isS:PV->Bool
 | .lit (.string _)=>true
 | _=>false
def eqS(a b:ByteArray):Bool:=a.data.toList==b.data.toList
def ltS(a b:ByteArray):Bool:=Op.bytesLess a.data.toList b.data.toList
def aLV(s:ByteArray)(i:Nat):Int:=match s[i]? with
 | some b=>b.toNat
 | none=>0
def a6I(op:BinOp)(a b:ByteArray):Option (List Bool×Value):=match op with
 | .add=>some ([Nat.ble (a.size+b.size) 9223372036854775807],.string (a++b))
 | .eql=>some ([],.bool (eqS a b))
 | .neq=>some ([],.bool (!eqS a b))
 | .lss=>some ([],.bool (ltS a b))
 | .leq=>some ([],.bool (ltS a b||eqS a b))
 | .gtr=>some ([],.bool (!(ltS a b||eqS a b)))
 | .geq=>some ([],.bool (!ltS a b))
 | _=>none
def aR7(H:Heap)(r:Option (List Bool×Value)):FL:=match r with
 | some (cs,v)=>some (cs,.lit v,H,0)
 | none=>none
def a5W(P:Program)(t:TypeId)(x i:PV):Option (List Bool×Value):=match P.underlying t,x,i with
 | some .string,.lit (.string s),.lit (.int _ i)=>some ([aF i s.size],.int .u8 (aLV s i.toNat))
 | _,_,_=>none
def aT7(P:Program)(t:TypeId)(x:PV)(lo hi:Option PV):Option (List Bool×Value):=match P.underlying t,x with
 | some .string,.lit (.string s)=>match aG3 lo 0,aG3 hi s.size with
  | some (b1,i),some (b2,j)=>some ([b1,b2,Nat.ble i j,Nat.ble j s.size],.string (s.extract i j))
  | _,_=>none
 | _,_=>none
def a5R(op:BinOp)(x y:PV):Option (List Bool×Value):=match x,y with
 | .lit (.string a),.lit (.string b)=>a6I op a b
 | _,_=>none
def aLJ:List ByteArray->ByteArray->Bool
 | [],_=>false
 | x::r,s=>bif eqS x s then true else aLJ r s
def a1R(r:List ByteArray)(s:ByteArray):List ByteArray:=bif aLJ r s then r else r++[s]
def aXZ(l:List (List ByteArray))(j:Nat)(s:ByteArray):List (List ByteArray):=l.set j (a1R (l.getD j []) s)
def aM0(P:Program)(t:TypeId):Bool:=match P.underlying t with
 | some (.map k e)=>match P.underlying k with
  | some .string=>match xW P e with
   | some (.bool false)=>true
   | _=>false
  | _=>false
 | _=>false
def a62:PV->Bool
 | .mp _=>true
 | _=>false
def aMD(H:Heap):Option (Nat×Blk×List (List ByteArray)):=match aAA 0 H with
 | some (r,k)=>match k.tag with
  | some ⟨.rows .str,l⟩=>bif Nat.beq k.ty NJ then some (r,k,l) else none
  | _=>none
 | none=>none
def YL(P:Program)(H:Heap)(t:TypeId):FL:=match aMD H with
 | some (r,k,l)=>bif aM0 P t then some ([],.mp l.length,(H.set r none)++[some ⟨aG (.rows .str) (l++[[]]),k.ty,false,k.frozen,some ⟨.rows .str,l++[[]]⟩⟩],2) else none
 | none=>none
def aH2(P:Program)(H:Heap)(t:TypeId)(m k:PV):FL:=match m,k with
 | .mp j,.lit (.string s)=>match aMD H with
  | some (_,_,l)=>bif aM0 P t then some ([Nat.blt j l.length],.lit (.bool (aLJ (l.getD j []) s)),H,1) else none
  | none=>none
 | _,_=>none
def aDX(P:Program)(H:Heap)(t:TypeId)(m k v:PV):FL:=match m,k,v with
 | .mp j,.lit (.string s),.lit (.bool true)=>match aMD H with
  | some (r,b,l)=>bif aM0 P t then some ([Nat.blt j l.length],.lit undef,H.set r (some { b with cells:=aG (.rows .str) (aXZ l j s),tag:=some ⟨.rows .str,aXZ l j s⟩ }),2) else none
  | none=>none
 | _,_,_=>none
def isT:PV->Bool
 | .tl ..|.own ..|.win ..|.row ..=>true
 | _=>false
def aLO:PV->Bool
 | .tp ..|.op ..|.rp ..=>true
 | _=>false
def a4U:PV->Bool
 | .tl ..|.own ..|.win ..|.lit (.slice none _ _)=>true
 | _=>false
def isConst:Operand->Bool
 | .const _=>true
 | _=>false
def a7E(P:Program) (t:TypeId):Bool:=match IE P t with
 | some (_,.list _)=>true
 | _=>false
def isLen(P:Program) (tys:Array TypeId):Bool:=match tys.toList with
 | [_,u]=>match P.underlying u with
  | some (.int _)=>true
  | _=>false
 | _=>false
def Y0(P:Program)(H:Heap)(tys:Array TypeId)(s x:PV):FL:=match tys.toList,x with
 | [t,_],.lit (.int _ n)=>match IE P t with
  | some (e,ty)=>match P.info? e with
   | some i=>match i.zero with
    | some z=>match dec ty (lits z.cells)with
     | some d=>bif Nat.ble i.bytes 65536&&Nat.beq z.cells.size i.size&&Nat.ble 1 i.size then match s with
      | .own r sz=>match jS H r with
       | some k=>match k.tag with
        | some g=>match HG g.t ty g.l with
         | some l=>bif Nat.beq sz ty.size&&!k.frozen&&Nat.beq k.ty e&&k.grown then aCY (H.set r none) e ty (l++List.replicate n.toNat d) [!ltI n 0,!ltI 1048576 n,Nat.ble l.length 1048576] else none
         | none=>none
        | none=>none
       | none=>none
      | .lit (.slice none m c)=>bif Nat.beq m 0&&Nat.beq c 0 then aCY H e ty (List.replicate n.toNat d) [!ltI n 0,!ltI 1048576 n] else none
      | _=>none
      else none
     | none=>none
    | none=>none
   | none=>none
  | none=>none
 | _,_=>none
def R1(s:ByteArray):List Int:=s.data.toList.map λb=>(b.toNat:Int)
def aJC(l:List Int):ByteArray:=l.foldl (λr n=>r.push (UInt8.ofNat n.toNat)) ByteArray.empty
def a5O(P:Program)(e:TypeId):Bool:=match P.underlying e with
 | some (.int .u8)=>true
 | _=>false
def a1K(P:Program)(t:TypeId):Bool:=match P.underlying t with
 | some (.slice e)=>a5O P e
 | _=>false
def a3P(P:Program)(t:TypeId):Bool:=match P.underlying t with
 | some .string=>true
 | _=>false
def aRI(P:Program)(H:Heap)(s d:TypeId)(x:PV):FL:=match x with
 | .lit (.string b)=>bif a3P P s&&a1K P d then some ([],L4 (.int .u8) (R1 b) none,H,0) else none
 | .own r _=>bif a1K P s&&a3P P d then match aLL H r with
   | some g=>match HG g.t (.int .u8) g.l with
    | some l=>some ([],.lit (.string (aJC l)),H,1)
    | none=>none
   | none=>none
  else none
 | _=>none
def typed(P:Program)(F:Frm)(o:Oper):Bool :=
 match o.op with
 | .indexAddr _ x _=>isT (ev F x)||aLO (ev F x)
 | .fieldAddr _ x _=>aLO (ev F x)
 | .load _ a=>aLO (ev F a)
 | .store _ a _=>aLO (ev F a)
 | .nilCheck x=>aLO (ev F x)
 | .slice _ x _ _ none=>isT (ev F x)||isS (ev F x)
 | .index _ x _=>isS (ev F x)
 | .makeMap t none=>aM0 P t
 | .lookup _ m _ false=>a62 (ev F m)
 | .mapUpdate _ m _ _=>a62 (ev F m)
 | .buildSlice t _ _=>(IE P t).isSome
 | .makeSlice t l _=>(IE P t).isSome&&!(isConst l&&a7E P t)
 | .convert _ d x=>isT (ev F x)||(isS (ev F x)&&a1K P d)
 | .binOp _ _ x y _=>a5A (ev F x) (ev F y)||(isS (ev F x)&&isS (ev F y))
 | .call c=>match c.callee with
  | .builtin .len=>isT (ev F (c.args.getD 0 (.const undef)))
  | .builtin .clear=>isT (ev F (c.args.getD 0 (.const undef)))
  | .builtin .append=>match c.args.toList,c.argTypes.toList with
   | [s,_],t::_=>a4U (ev F s)&&(IE P t).isSome
   | _,_=>false
  | _=>false
 | _=>false
def top(P:Program)(F:Frm)(H:Heap)(o:Oper):FL :=
 match o.op with
 | .indexAddr t x i=>match ev F i with
  | .lit (.int _ i)=>uX P H t (ev F x) i
  | _=>none
 | .fieldAddr s x f=>D3 P H s f (ev F x)
 | .load T a=>aJS P H T (ev F a)
 | .store T a v=>aJ1 P H T (ev F a) (ev F v)
 | .nilCheck x=>some ([],ev F x,H,0)
 | .slice t x lo hi none=>bif isS (ev F x) then aR7 H (aT7 P t (ev F x) (lo.map (ev F)) (hi.map (ev F))) else SD P H t (ev F x) (lo.map (ev F)) (hi.map (ev F))
 | .index t x i=>aR7 H (a5W P t (ev F x) (ev F i))
 | .makeMap t none=>YL P H t
 | .lookup t m k false=>aH2 P H t (ev F m) (ev F k)
 | .mapUpdate t m k v=>aDX P H t (ev F m) (ev F k) (ev F v)
 | .buildSlice t n parts=>zW P F H t n parts.toList
 | .makeSlice t l c=>PX P H t (ev F l) (ev F c)
 | .convert s d x=>aRI P H s d (ev F x)
 | .binOp op t x y _=>bif isS (ev F x) then aR7 H (a5R op (ev F x) (ev F y)) else aLU P H t op (ev F x) (ev F y)
 | .call c=>match c.callee with
  | .builtin .len=>match c.args.toList with
   | [x]=>aP7 P H c.argTypes (ev F x)
   | _=>none
  | .builtin .append=>match c.args.toList with
   | [s,x]=>bif isLen P c.argTypes then Y0 P H c.argTypes (ev F s) (ev F x) else a3Y (aWV H (ev F x)) (aCZ P H c.argTypes (ev F s) (ev F x))
   | _=>none
  | .builtin .clear=>match c.args.toList with
   | [x]=>aIS P H c.argTypes (ev F x)
   | _=>none
  | _=>none
 | _=>none
def CF:List Bool->Bool
 | []=>true
 | b::r=>bif b then CF r else false
def opx(P:Program) (cl:Callee) (F:Frm) (H:Heap) (o:Oper):Option (PV×Heap×Nat) :=
 bif typed P F o then match top P F H o with
  | some (cs,v,H',c)=>bif CF cs then some (v,H',c) else none
  | none=>none
 else opu P cl F H o
theorem uN:∀ (t:Ty) (x:t.den),(enc t x).length=t.size
 | .hnd _,_=>rfl
 | .rows _,_=>rfl
 | .int _,_=>rfl
 | .bool,_=>rfl
 | .str,_=>rfl
 | .list _,_=>rfl
 | .prod a b,(x,y)=>by simp only[enc,oH,uN a x,uN b y,Ty.size]
theorem SK:∀ {a b:List PV},eB.noRefs a=true->eB.noRefs b=true->eB.noRefs (a++b)=true
 | [],_,_,h=>h
 | p::a,b,h,k=>by
  simp only[List.cons_append,eB.noRefs,oA]at h ⊢;exact⟨h.1,SK h.2 k⟩
theorem O8:∀ (t:Ty) (x:t.den),eB.noRefs (enc t x)=true
 | .hnd _,_=>rfl
 | .rows _,_=>rfl
 | .int _,_=>rfl
 | .bool,_=>rfl
 | .str,_=>rfl
 | .list _,_=>rfl
 | .prod a b,(x,y)=>SK (O8 a x) (O8 b y)
theorem lZ(t:Ty)(x:t.den)(l:List t.den):aG t (x::l)=enc t x++aG t l:=by simp[aG]
theorem lG(t:Ty)(l m:List t.den):aG t (l++m)=aG t l++aG t m:=by simp[aG]
theorem aZ(t:Ty):∀ l:List t.den,(aG t l).length=l.length*t.size
 | []=>by simp[aG]
 | x::l=>by rw[lZ,oH,uN,aZ t l,List.length_cons,Nat.add_mul]; omega
theorem jL(t:Ty):∀ l:List t.den,eB.noRefs (aG t l)=true
 | []=>rfl
 | x::l=>by rw[lZ]; exact SK (O8 t x) (jL t l)
theorem wC(t:Ty):∀ (i:Nat) (l:List t.den),(aG t l).drop (i*t.size)=aG t (l.drop i)
 | 0,l=>by simp
 | i+1,[]=>by simp[aG]
 | i+1,x::l=>by
  rw[lZ,List.drop_succ_cons,Nat.add_mul,Nat.one_mul,Nat.add_comm,<- List.drop_drop,List.drop_left' (uN t x)];exact wC t i l
theorem tR(t:Ty):∀ (i:Nat) (l:List t.den),(aG t l).take (i*t.size)=aG t (l.take i)
 | 0,l=>by simp[aG]
 | i+1,[]=>by simp[aG]
 | i+1,x::l=>by
  rw[lZ,List.take_succ_cons,lZ,List.take_append,uN,List.take_of_length_le (by rw[uN,Nat.add_mul]; omega)]
  congr 1
  have:(i+1)*t.size-t.size=i*t.size:=by rw[Nat.add_mul]; omega
  rw[this];exact tR t i l
theorem aFU(t:Ty){l:List t.den}{i:Nat}(h:i<l.length)(off:Nat):∃ rest,(aG t l).drop (i*t.size+off)=(enc t (l.getD i t.aP4)).drop off++rest:=by
 have hd:l.drop i=l[i]::l.drop (i+1):=List.drop_eq_getElem_cons h;have hg:l.getD i t.aP4=l[i]:=by simp[oQ,h]
 rw[<- List.drop_drop,wC,hd,lZ,hg,List.drop_append];exact⟨_,rfl⟩
section
variable {P:Program} {n0:Nat->Prop} {w:World} {G:Gd} {μ:Mp} {H:Heap}
theorem V1 {T:TypeId}{a:List PV}{v:PV}(b:List PV)(h:DL P T a=some v):DL P T (a++b)=some v:=by
 unfold DL at h ⊢;split at h
 ·rename_i ha;split at h
  ·rename_i n hn;cases hb:Nat.ble n a.length with
   | false=>rw[hb]at h; cases h
   | true =>
    rw[hb]at h;have hle:=oL hb;have:Nat.ble n (a++b).length=true:=Nat.ble_eq_true_of_le (by rw[oH]; omega);rw[this,List.take_append_of_le_length hle];exact h
  ·cases h
 ·cases a with
  | nil=>cases h
  | cons x a=>exact h
 ·cases h
theorem U0 {t:Ty}{l:List t.den}{cap:Option Nat}{e:PV}{v:Value}(h:VR w G μ (.tl t l cap e) v):VR w G aI (.vals (aG t l) l.length cap) v:=by
 rw[VR]at h;obtain⟨h1,rfl⟩:=h;exact h1
theorem ZV {t:Ty}{l:List t.den}{cap:Option Nat}{v:Value}(h:VR w G aI (.vals (aG t l) l.length cap) v):VR w G μ (L4 t l cap) v:=by
 unfold L4;rw[VR];exact⟨h,rfl⟩
theorem aW7 {cs:List PV}{n:Nat}{cap:Option Nat}{v:Value}(h:VR w G aI (.vals cs n cap) v):VR w G aI (.vals cs n none) v:=by
 rw[VR]at h ⊢;obtain⟨ao,c,h1,h2,_,h3⟩:=h;exact⟨ao,c,h1,h2,λk hk=>(by cases hk),h3⟩
theorem aL.nJ {b off:Nat} {ps:List PV} {vs:List Value} (h:VRs w G μ ps vs) (hc:∀ i (hi:i<vs.length),w.cell? ⟨b,off+i,none⟩=some vs[i]):aL w G μ b off ps :=
 aL.mk λi p hp=>by
  obtain⟨v,h1,h2⟩:=h.get hp;obtain⟨hlt,rfl⟩:=oO.1 h1;exact⟨_,hc i hlt,h2⟩
theorem LB {α:Type}{f:List PV->Option α}{g:α->List PV}{sz:Nat}(hf:∀ cs x vs,f cs=some x->VRs w G μ cs vs->VRs w G aI (g x) vs):∀ {n:Nat} {cs:List PV} {l:List α} {vs:List Value},A5 f sz n cs=some l->VRs w G μ cs vs->VRs w G aI (l.flatMap g) vs/\l.length=n
 | 0,[],l,vs,h,hv=>by
  simp only[A5,oJ]at h;subst h;rw[VRs]at hv;subst hv;exact⟨by simp[VRs],rfl⟩
 | 0,_::_,l,vs,h,hv=>by simp only[A5]at h; cases h
 | n+1,cs,l,vs,h,hv=>by
  simp only[A5]at h;split at h
  ·rename_i x hx;split at h
   ·rename_i l' hl;simp only[oJ]at h;subst h;have h1:=hf _ x _ hx (hv.take sz);obtain⟨h2,h3⟩:=LB hf hl (hv.drop sz);refine⟨?_,by rw[List.length_cons,h3]⟩;have:=h1.append h2;rw[List.take_append_drop]at this;simpa using this
   ·cases h
  ·cases h
theorem a3V {a b:Ty}{l:List a.den}{l':List b.den}(h:HG a b l=some l')(cap:Option Nat){v:Value}(hv:VR w G aI (.vals (aG a l) l.length cap) v):VR w G aI (.vals (aG b l') l'.length cap) v:=by
 obtain⟨rfl,rfl⟩:=qV h;exact hv
theorem NS {p:PV}{vs:List Value}(hv:VRs w G μ [p] vs):∃ v,vs=[v]/\VR w G μ p v:=by
 rw[VRs]at hv;obtain⟨v,xs,rfl,h1,h2⟩:=hv;rw[VRs]at h2;subst h2;exact⟨v,rfl,h1⟩
theorem YJ {k:IntKind}{cs:List PV}{n:Int}(h:aNV k cs=some n):cs=[.lit (.int k n)]:=by
 unfold aNV at h;split at h
 ·rename_i d m;cases hk:M6 k d with
  | false=>rw[hk]at h; cases h
  | true =>
   rw[hk]at h;simp only[oC,oJ]at h;rw[ZU hk,h]
 ·cases h
theorem V5 {cs:List PV}{b:Bool}(h:aH1 cs=some b):cs=[.lit (.bool b)]:=by
 unfold aH1 at h;split at h
 ·simp only[oJ]at h; rw[h]
 ·cases h
theorem YV {cs:List PV}{b:ByteArray}(h:aOB cs=some b):cs=[.lit (.string b)]:=by
 unfold aOB at h;split at h
 ·simp only[oJ]at h; rw[h]
 ·cases h
theorem aS8 {t:Ty}{f:List PV->Option t.den}(hf:∀ (μ:Mp) cs x vs,f cs=some x->VRs w G μ cs vs->VRs w G aI (enc t x) vs){cs:List PV}{l:List t.den}{vs:List Value}(h:aPT t f cs=some l)(hv:VRs w G μ cs vs) :
  ∃ v,vs=[v]/\VR w G aI (.vals (aG t l) l.length none) v:=by
 unfold aPT at h;split at h
 ·rename_i u l' cap e;obtain⟨v,rfl,h1⟩:=NS hv;exact⟨v,rfl,aW7 (a3V h cap (U0 h1))⟩
 ·rename_i n c;obtain⟨v,rfl,h1⟩:=NS hv;cases hn:Nat.beq n 0 with
  | false=>rw[hn]at h; cases h
  | true =>
   rw[hn]at h;simp only[oC,oJ]at h;subst h;have hn:=oE hn;subst hn;rw[VR]at h1;refine⟨v,rfl,?_⟩;rw[VR];exact⟨none,c,h1,Nat.zero_le _,λk hk=>(by cases hk),.inl rfl⟩
 ·rename_i cs n cap;obtain⟨v,rfl,h1⟩:=NS hv;rw[VR]at h1;obtain⟨ao,c,rfl,h2,_,h3⟩:=h1;refine⟨_,rfl,?_⟩;rw[VR];rcases h3 with rfl|⟨b,off,rfl,hg,hc⟩
  ·obtain⟨h4,h5⟩:=LB (g:=enc t) (λcs x vs h hv=>hf aI cs x vs h hv) h (vs:=[]) (by rw[VRs]);refine⟨ao,c,by rw[h5],by omega,λk hk=>(by cases hk),.inl ?_⟩;have:=h4.length;exact List.eq_nil_of_length_eq_zero this
  ·obtain⟨us,h4,h5⟩:=hc.values;obtain⟨h6,h7⟩:=LB (g:=enc t) (λcs x vs h hv=>hf aI cs x vs h hv) h h4;exact⟨_,c,by rw[h7],by omega,λk hk=>(by cases hk),.inr ⟨b,off,rfl,hg,aL.nJ h6 h5⟩⟩
 ·cases h
theorem aFW {sz:Nat}{μ:Mp}{cs:List PV}{x:Nat×Nat×Nat}{vs:List Value}(h:aPU sz cs=some x)(hv:VRs w G μ cs vs):VRs w G aI [.row x.1 x.2.1 x.2.2 sz] vs:=by
 unfold aPU at h;split at h
 ·rename_i j lo n s;cases hb:Nat.beq s sz with
  | false=>rw[hb]at h; cases h
  | true =>
  rw[hb]at h;have hb:=oE hb;subst hb;simp only[oC,oJ]at h;subst h;exact dB _ _ rfl hv
 ·rename_i n c;cases hb:Nat.beq n 0 with
  | false=>rw[hb]at h; cases h
  | true =>
  rw[hb]at h;have hb:=oE hb;subst hb;simp only[oC,oJ]at h;subst h;rw[VRs]at hv ⊢;obtain⟨v,us,h1,h2,h3⟩:=hv;rw[VR]at h2;refine⟨v,us,h1,?_,by rw[VRs]at h3 ⊢; exact h3⟩;rw[VR];exact⟨none,c,h2,Nat.zero_le _,.inl rfl⟩
 ·cases h
theorem xL:∀ (t:Ty) (μ:Mp) (cs:List PV) (x:t.den) (vs:List Value),dec t cs=some x->VRs w G μ cs vs->VRs w G aI (enc t x) vs
 | .hnd sz,μ,cs,x,vs,h,hv=>by
  rw[dec]at h;exact aFW h hv
 | .rows t,μ,cs,x,vs,h,hv=>by
  simp only[dec]at h;cases h
 | .int k,μ,cs,x,vs,h,hv=>by
  rw[dec]at h;rw[YJ h]at hv;exact dB _ _ rfl hv
 | .bool,μ,cs,x,vs,h,hv=>by
  rw[dec]at h;rw[V5 h]at hv;exact dB _ _ rfl hv
 | .str,μ,cs,x,vs,h,hv=>by
  rw[dec]at h;rw[YV h]at hv;exact dB _ _ rfl hv
 | .list t,μ,cs,x,vs,h,hv=>by
  rw[dec]at h;obtain⟨v,rfl,h1⟩:=aS8 (λμ cs x vs h hv=>xL t μ cs x vs h hv) h hv;simp only[enc];rw[VRs];exact⟨_,[],rfl,by rw[VR]; exact⟨h1,rfl⟩,by rw[VRs]⟩
 | .prod a b,μ,cs,(x,y),vs,h,hv=>by
  rw[dec]at h;split at h
  ·rename_i x' hx;split at h
   ·rename_i y' hy;simp only[oJ,oP]at h;obtain⟨rfl,rfl⟩:=h;have h1:=xL a μ _ _ _ hx (hv.take a.size);have h2:=xL b μ _ _ _ hy (hv.drop a.size);have:=h1.append h2;rw[List.take_append_drop]at this;simpa only[enc]using this
   ·cases h
  ·cases h
end
theorem aIL:∀ {a b:List Bool},CF (a++b)=true->CF a=true/\CF b=true
 | [],_,h=>⟨rfl,h⟩
 | x::a,b,h=>by
  cases x with
  | false=>exact absurd h (by simp[CF])
  | true=>exact⟨(aIL (a:=a) h).1,(aIL (a:=a) h).2⟩
theorem aL3 {b:List Bool}{r:FL}{cs:List Bool}{v:PV}{H':Heap}{c:Nat}(h:a3Y b r=some (cs,v,H',c)):∃ c0,r=some (c0,v,H',c)/\cs=b++c0:=by
 unfold a3Y at h;split at h
 ·simp only[oJ,oP]at h;obtain⟨rfl,rfl,rfl,rfl⟩:=h;exact⟨_,rfl,rfl⟩
 ·cases h
theorem aP {b:Bool}{r:List Bool}(h:CF (b::r)=true):b=true/\CF r=true:=by
 cases b with
 | true=>exact⟨rfl,h⟩
 | false=>cases h
theorem fB {m n:Nat}(h:Nat.blt m n=true):m<n:=by rw[cD]at h; exact of_decide_eq_true h
section
variable {P:Program} {n0:Nat->Prop} {w:World} {G:Gd} {μ:Mp} {H:Heap}
theorem JT {r:Nat}{g:Tg}(h:aLL H r=some g):∃ k,jS H r=some k/\k.tag=some g:=by
 unfold aLL at h;split at h
 ·rename_i k hk; exact⟨k,hk,h⟩
 ·cases h
theorem pY {α:Type}{b:Bool}{x:Option α}{y:α}(h:(bif b then x else none)=some y):b=true/\x=some y:=by
 cases b with
 | true=>exact⟨rfl,h⟩
 | false=>cases h
theorem ZQ:∀ {H:Heap} {r0 r:Nat} {k:Blk},aAA r0 H=some (r,k)->∃ i,r=r0+i/\H[i]?=some (some k)/\k.grown=false
 | [],_,_,_,h=>by cases h
 | none::H,r0,r,k,h=>by
  obtain⟨i,h1,h2,h3⟩:=ZQ (H:=H) h;exact⟨i+1,by omega,by simpa using h2,h3⟩
 | some k0::H,r0,r,k,h=>by
  have next:aAA (r0+1) H=some (r,k)->∃ i,r=r0+i/\(some k0::H)[i]?=some (some k)/\k.grown=false:=λh=>by
   obtain⟨i,h1,h2,h3⟩:=ZQ (H:=H) h;exact⟨i+1,by omega,by simpa using h2,h3⟩
  simp only[aAA]at h;split at h
  ·cases hg:k0.grown with
   | true=>rw[hg]at h; exact next h
   | false =>
    rw[hg]at h;simp only[oD,oJ,oP]at h;obtain⟨rfl,rfl⟩:=h;exact⟨0,rfl,rfl,hg⟩
  ·exact next h
theorem UC {H:Heap}{r:Nat}{k:Blk}(h:aAA 0 H=some (r,k)):H[r]?=some (some k)/\k.grown=false:=by
 obtain⟨i,h1,h2,h3⟩:=ZQ h;rw[Nat.zero_add]at h1;subst h1;exact⟨h2,h3⟩
theorem aGA {α:Type}{l:List (List α)}{j off:Nat}(h:off<cS l j):∃ row,l[j]?=some row/\off<row.length/\l.getD j []=row:=by
 unfold cS at h;rw[oQ]at h ⊢;cases hj:l[j]? with
 | none=>rw[hj]at h; simp at h
 | some row=>rw[hj]at h; exact⟨row,rfl,h,rfl⟩
theorem aFQ(hW:aN n0 G μ H w){t:TypeId}{p v:PV}{x:Value}{k:IntKind}{i:Int}{cs:List Bool}{H':Heap}{c:Nat}(hp:VR w G μ p x)(h:uX P H t p i=some (cs,v,H',c))(hcs:CF cs=true) :
  H'=H/\∃ v',(Instr.indexAt t x (.int k i)).run P w=.ok v' w/\VR w G μ v v':=by
 unfold uX at h;split at h
 ·rename_i e hu;split at h
  ·rename_i n hs;split at h
   ·rename_i ty l cap ee;cases hb:Nat.beq n ty.size with
    | false=>rw[hb]at h; cases h
    | true =>
     rw[hb]at h;simp only[oC,oJ,oP]at h;obtain⟨rfl,rfl,rfl,rfl⟩:=h;refine⟨rfl,?_⟩;have hb:=oE hb;subst hb;have hi:=zJ (aP hcs).1;have hv:=U0 hp;rw[VR]at hv;obtain⟨ao,c',rfl,h2,-,h3⟩:=hv;have hlt:i.toNat<l.length:=by omega
     rcases h3 with h3|⟨b,off,rfl,hg,hc⟩
     ·have:=aZ ty l;rw[h3,List.length_nil]at this;have hp:=ty.size_pos;have:0<l.length*ty.size:=Nat.mul_pos (by omega) hp;omega
     ·refine⟨.pointer (some ⟨b,off+i.toNat*ty.size,none⟩),?_,?_⟩
      ·simp[Instr.indexAt,asIntOf,run_underlying hu,hi.1,hi.2,run_sizeOf hs,Addr.add_lit]
      ·unfold aYL;rw[VR];refine⟨?_,rfl,hlt⟩;rw[VR];exact⟨b,_,rfl,hg,by rw[Nat.add_zero]; exact hc.drop _⟩
   ·rename_i r sz;split at h
    ·rename_i g hg;cases hb:(Nat.beq n sz&&Nat.beq sz g.t.size)with
     | false=>rw[hb]at h; cases h
     | true =>
      rw[hb]at h;simp only[oC,oJ,oP]at h;obtain⟨rfl,rfl,rfl,rfl⟩:=h;refine⟨rfl,?_⟩;simp only[oA]at hb;have hb1:=oE hb.1;subst hb1;have hi:=zJ (aP hcs).1;obtain⟨kb,hk1,hk2⟩:=JT hg;obtain⟨ht1,ht2⟩:=hW.tags r kb g (aJ hk1) hk2;rw[VR]at hp;obtain⟨m,h1,h2⟩:=hp;rw[ht2]at h1;cases h1;rcases h2 with ⟨h2,_⟩|⟨b,c',h3,rfl,h5,h6⟩
      ·omega
      ·refine⟨.pointer (some ⟨b,i.toNat*n,none⟩),?_,?_⟩
       ·simp[Instr.indexAt,asIntOf,run_underlying hu,hi.1,hi.2,run_sizeOf hs,Addr.add_lit]
       ·rw[VR];exact⟨b,h3,by simp⟩
    ·cases h
   ·rename_i r lo m sz;obtain⟨hb,h⟩:=pY h;simp only[oJ,oP]at h;obtain⟨rfl,rfl,rfl,rfl⟩:=h;refine⟨rfl,?_⟩;have hb1:=oE hb;subst hb1;have hi:=zJ (aP hcs).1;rw[VR]at hp;obtain⟨b,c',_,h3,rfl,h5,h6,_⟩:=hp;refine⟨.pointer (some ⟨b,lo*n+i.toNat*n,none⟩),?_,?_⟩
    ·simp[Instr.indexAt,asIntOf,run_underlying hu,hi.1,hi.2,run_sizeOf hs,Addr.add_lit]
    ·rw[VR];exact⟨b,h3,by rw[Nat.add_mul,Nat.add_zero]⟩
   ·rename_i j lo m sz;obtain⟨hb,h⟩:=pY h;simp only[oJ,oP]at h;obtain⟨rfl,rfl,rfl,rfl⟩:=h;refine⟨rfl,?_⟩;have hb1:=oE hb;subst hb1;have hi:=zJ (aP hcs).1;rw[VR]at hp;obtain⟨ao,c',rfl,h3,h4⟩:=hp;rcases h4 with h4|⟨b,h4,rfl,_⟩
    ·omega
    refine⟨.pointer (some ⟨b,lo*n+i.toNat*n,none⟩),?_,?_⟩
    ·simp[Instr.indexAt,asIntOf,run_underlying hu,hi.1,hi.2,run_sizeOf hs,Addr.add_lit]
    ·rw[VR];exact⟨b,h4,by rw[Nat.add_mul]⟩
   ·cases h
  ·cases h
 ·rename_i n e hu;split at h
  ·rename_i sz hs;split at h
   ·rename_i ty l j off ee;simp only[oJ,oP]at h;obtain⟨rfl,rfl,rfl,rfl⟩:=h;refine⟨rfl,?_⟩;have hi:=zJ (aP hcs).1;rw[VR]at hp;obtain⟨h1,rfl,h3⟩:=hp;rw[VR]at h1;obtain⟨b,o,rfl,hg,hc⟩:=h1;refine⟨.pointer (some ⟨b,o+i.toNat*sz,none⟩),?_,?_⟩
    ·simp[Instr.indexAt,asIntOf,run_underlying hu,hi.1,hi.2,run_sizeOf hs,Addr.add_lit,Instr.sureAddr]
    ·unfold aYL;rw[VR];refine⟨?_,rfl,h3⟩;rw[VR];refine⟨b,_,rfl,hg,?_⟩;have:=hc.drop (i.toNat*sz);rwa[List.drop_drop,Nat.add_assoc]at this
   ·cases h
  ·cases h
 ·cases h
theorem aFA {s:TypeId}{f:Nat}{p v:PV}{x:Value}{cs:List Bool}{H':Heap}{c:Nat}(hp:VR w G μ p x)(h:D3 P H s f p=some (cs,v,H',c)):H'=H/\c=0/\∃ v',(Instr.fieldAt s x f).run P w=.ok v' w/\VR w G μ v v':=by
 unfold D3 aBR at h;split at h
 ·rename_i fd hfd;split at hfd
  ·rename_i fs hu;split at h
   ·rename_i n hs;split at h
    ·rename_i t l i off e;simp only[oJ,oP]at h;obtain⟨rfl,rfl,rfl,rfl⟩:=h;refine⟨rfl,rfl,?_⟩;rw[VR]at hp;obtain⟨h1,rfl,h3⟩:=hp;rw[VR]at h1;obtain⟨b,o,rfl,hg,hc⟩:=h1;refine⟨.pointer (some ⟨b,o+fd.offset,none⟩),?_,?_⟩
     ·simp[Instr.fieldAt,run_underlying hu,hfd,Instr.sureAddr,fieldPlace,run_sizeOf hs,Addr.add_lit]
     ·unfold aYL;rw[VR];refine⟨?_,rfl,h3⟩;rw[VR];refine⟨b,_,rfl,hg,?_⟩;have:=hc.drop fd.offset;rwa[List.drop_drop,Nat.add_assoc]at this
    ·rename_i r i off sz;simp only[oJ,oP]at h;obtain⟨rfl,rfl,rfl,rfl⟩:=h;refine⟨rfl,rfl,?_⟩;rw[VR]at hp;obtain⟨b,h1,rfl⟩:=hp;refine⟨.pointer (some ⟨b,i*sz+off+fd.offset,none⟩),?_,?_⟩
     ·simp[Instr.fieldAt,run_underlying hu,hfd,Instr.sureAddr,fieldPlace,run_sizeOf hs,Addr.add_lit]
     ·rw[VR];exact⟨b,h1,by rw[Nat.add_assoc]⟩
    ·cases h
   ·cases h
  ·cases hfd
 ·cases h
theorem aR0(hW:aN n0 G μ H w){T:TypeId}{p v:PV}{x:Value}{cs:List Bool}{H':Heap}{c:Nat}(hp:VR w G μ p x)(h:aJS P H T p=some (cs,v,H',c))(hcs:CF cs=true):H'=H/\∃ v',(Instr.loadAt T x).run P w=.ok v' w/\VR w G μ v v':=by
 unfold aJS at h;split at h
 ·rename_i t l i off e;split at h
  ·rename_i u hu;simp only[oJ,oP]at h;obtain⟨rfl,rfl,rfl,rfl⟩:=h;refine⟨rfl,?_⟩;rw[VR]at hp;obtain⟨h1,rfl,h3⟩:=hp;rw[VR]at h1;obtain⟨b,o,rfl,hg,hc⟩:=h1;obtain⟨rest,hr⟩:=aFU t h3 off;rw[hr]at hc;obtain⟨v',h4,h5⟩:=LQ (P:=P) hc (V1 rest hu);exact⟨v',by simp[Instr.loadAt,Instr.sureAddr,h4],h5.aY⟩
  ·cases h
 ·rename_i r i off sz;split at h
  ·rename_i g hg;cases hb:Nat.beq sz g.t.size with
   | false=>rw[hb]at h; cases h
   | true =>
    rw[hb]at h;simp only[oC]at h;split at h
    ·rename_i u hu;simp only[oJ,oP]at h;obtain⟨rfl,rfl,rfl,rfl⟩:=h;refine⟨rfl,?_⟩;have hb:=oE hb;subst hb;have hlt:=fB (aP hcs).1;obtain⟨kb,hk1,hk2⟩:=JT hg;obtain⟨ht1,ht2⟩:=hW.tags r kb g (aJ hk1) hk2;rw[VR]at hp;obtain⟨b,h1,rfl⟩:=hp;obtain⟨c',g2,g3,_⟩:=hW.blk r kb b (aJ hk1) h1;rw[ht1]at g3;obtain⟨rest,hr⟩:=aFU g.t hlt off;have hd:=g3.drop (i*g.t.size+off);rw[Nat.zero_add,hr]at hd;obtain⟨v',h4,h5⟩:=LQ (P:=P) hd (V1 rest hu)
     exact⟨v',by simp[Instr.loadAt,Instr.sureAddr,h4],h5⟩
    ·cases h
  ·cases h
 ·rename_i j off;split at h
  ·rename_i r k har;split at h
   ·rename_i t l htag;obtain⟨hb,h⟩:=pY h;split at h
    ·rename_i u hu;simp only[oJ,oP]at h;obtain⟨rfl,rfl,rfl,rfl⟩:=h;refine⟨rfl,?_⟩;simp only[oA,Bool.not_eq_true']at hb;obtain⟨hb,hm⟩:=hb;have hm:k.ty≠NJ:=Nat.ne_of_beq_eq_false hm;have hb:=oE hb;obtain⟨row,hj,hlt,hrow⟩:=aGA (fB (aP hcs).1);obtain⟨hr,hg⟩:=UC har;obtain⟨_,_,a3⟩:=hW.rows.arn r k t l hr hg htag;rw[VR]at hp;obtain⟨b,h1,rfl⟩:=hp;rcases a3 j row hj with h0|⟨b',g1,g2⟩
     ·rw[h0.1]at hlt; exact absurd hlt (Nat.not_lt_zero _)
     ·rw[h1]at g1; cases g1;obtain⟨c',g2,g3⟩:=g2.cells (n:=0) (.inl hm);obtain⟨rest,hr⟩:=aFU t hlt 0;have hd:=g3.drop (off*t.size+0);rw[Nat.zero_add,hr,hb,Nat.mul_one,Nat.add_zero]at hd;unfold dK at hu;rw[hrow]at hu;obtain⟨v',h4,h5⟩:=LQ (P:=P) hd (V1 rest hu);exact⟨v',by simp[Instr.loadAt,Instr.sureAddr,h4],h5.aY⟩
    ·cases h
   ·cases h
  ·cases h
 ·cases h
theorem aS9(hW:aN n0 G μ H w){tys:Array TypeId}{ty:TypeId}{p v:PV}{x:Value}{cs:List Bool}{H':Heap}{c:Nat}(hp:VR w G μ p x)(h:aP7 P H tys p=some (cs,v,H',c)):H'=H/\∃ v',(Builtin.len_ tys ty #[x]).run P w=.ok v' w/\VR w G μ v v':=by
 unfold aP7 at h;split at h
 ·rename_i t ts ht;have ht':tys[0]?=some t:=by rw[<- Array.getElem?_toList,ht]; rfl
  split at h
  ·rename_i e hu;split at h
   ·rename_i tt l cap ee;simp only[oJ,oP]at h;obtain⟨rfl,rfl,rfl,rfl⟩:=h;obtain⟨ao,c',rfl⟩:=aJ4 hp;exact⟨rfl,goInt l.length,by simp[Builtin.len_,ht',run_underlying hu],by rw[VR]⟩
   ·rename_i r sz;split at h
    ·rename_i g hg;simp only[oJ,oP]at h;obtain⟨rfl,rfl,rfl,rfl⟩:=h;obtain⟨kb,hk1,hk2⟩:=JT hg;obtain⟨ht1,ht2⟩:=hW.tags r kb g (aJ hk1) hk2;rw[VR]at hp;obtain⟨m,h1,h2⟩:=hp;rw[ht2]at h1;cases h1;refine⟨rfl,goInt g.l.length,?_,by rw[VR]⟩;rcases h2 with ⟨h2,ao,rfl⟩|⟨b,c',h3,rfl,h5,h6⟩
     ·simp[Builtin.len_,ht',run_underlying hu,h2]
     ·simp[Builtin.len_,ht',run_underlying hu]
    ·cases h
   ·rename_i r lo n sz;simp only[oJ,oP]at h;obtain⟨rfl,rfl,rfl,rfl⟩:=h;rw[VR]at hp;obtain⟨b,c',_,h3,rfl,h5,h6,_⟩:=hp;exact⟨rfl,goInt n,by simp[Builtin.len_,ht',run_underlying hu],by rw[VR]⟩
   ·rename_i j lo n sz;simp only[oJ,oP]at h;obtain⟨rfl,rfl,rfl,rfl⟩:=h;rw[VR]at hp;obtain⟨ao,c',rfl,_⟩:=hp;exact⟨rfl,goInt n,by simp[Builtin.len_,ht',run_underlying hu],by rw[VR]⟩
   ·cases h
  ·cases h
 ·cases h
theorem BL {x:Option PV}{d i:Nat}{b:Bool}(h:aG3 x d=some (b,i))(hb:b=true):bnd x d=some i:=by
 unfold aG3 at h;unfold bnd;split at h
 ·simp only[oJ,oP]at h;rw[h.2]
 ·rename_i k j;simp only[oJ,oP]at h;obtain⟨h1,h2⟩:=h;subst h1;have:decide (0<=j)=true:=by
   rw[aE,Bool.not_eq_true',decide_eq_false_iff_not]at hb;exact oT (by omega)
  simp only[this,oC,h2]
 ·cases h
theorem aMF {F:Frm} {a:Act} {nt:Nat} (hF:fQ w G μ nt F a) {t e:TypeId} {r l0 m n i j:Nat} {x:Value} {lo hi:Option Operand} (hp:VR w G μ (.win r l0 m n) x) (hu:P.underlying t=some (.slice e)) (hs:sS P e=some n)
  (h1:bnd (lo.map (ev F)) 0=some i) (h2:bnd (hi.map (ev F)) m=some j) (h3:i<=j) (h4:j<=m) (h5:i<m) (w1:World):∃ v',(Instr.sliceAt t x (lo.map a.eval) (hi.map a.eval) none).run P w1=.ok v' w1/\VR w G μ (.win r (l0+i) (j-i) n) v':=by
 obtain⟨mm,c0,hm1,hm2,hm3,hm4,hv⟩:∃ mm c0,μ.len r=some mm/\l0+m<=mm/\mm<=l0+c0/\m<=c0/\VR w G μ (.hs r (l0*n) m (some c0) n) x:=by
  rw[VR]at hp;obtain⟨b,c,mm,e1,e2,e3,e4,q1,q2,q3⟩:=hp;refine⟨mm,c,q1,q2,q3,e3,?_⟩;rw[VR];exact⟨b,c,e1,e2,e3,λk hk=>(by cases hk; rfl),by rw[<- Nat.add_mul]; exact e4⟩
 have hx:OZ P t (.hs r (l0*n) m (some c0) n) (lo.map (ev F)) (hi.map (ev F))=some (.hs r (l0*n+i*n) (j-i) (some (c0-i)) n):=by
  have q1:Nat.beq n n=true:=by rw[aDW,oT rfl]
  have q2:Nat.beq c0 i=false:=by rw[aDW,oF (by omega)]
  have q3:Nat.ble j c0=true:=Nat.ble_eq_true_of_le (by omega);simp only[OZ,hu,hs,h1,h2,q1,q2,q3,Nat.ble_eq_true_of_le h3,Bool.and_self,oC,oD]
 obtain⟨v',h6,h7⟩:=IK hF hv hx w1;refine⟨v',h6,?_⟩;rw[VR]at h7; rw[VR];obtain⟨b,c,e1,e2,e3,ec,e4⟩:=h7;have ec:=ec _ rfl;refine⟨b,c,mm,e1,by rw[e2,Nat.add_mul],e3,?_,hm1,by omega,by omega⟩;rw[Nat.add_mul,Nat.add_mul];exact e4
theorem aYI {F:Frm} {a:Act} {nt:Nat} (hW:aN n0 G μ H w) (hF:fQ w G μ nt F a) {t e:TypeId} {r l0 m n i j:Nat} {x:Value} {lo hi:Option Operand} (hp:VR w G μ (.row r l0 m n) x) (hu:P.underlying t=some (.slice e)) (hs:sS P e=some n)
  (h1:bnd (lo.map (ev F)) 0=some i) (h2:bnd (hi.map (ev F)) m=some j) (h3:i<=j) (h4:j<=m) (w1:World):∃ v',(Instr.sliceAt t x (lo.map a.eval) (hi.map a.eval) none).run P w1=.ok v' w1/\VR w G μ (.row r (l0+i) (j-i) n) v':=by
 rw[VR]at hp;obtain⟨ao,c,rfl,hle,hb⟩:=hp
 by_cases hm:i=j
 ·subst hm;have hv:VR w G μ (.vals [] m (some c)) (.slice ao m c):=by rw[VR]; exact⟨ao,c,rfl,hle,λk hk=>by cases hk; rfl,.inl rfl⟩
  have hx:OZ P t (.vals [] m (some c)) (lo.map (ev F)) (hi.map (ev F))=some (.vals [] (i-i) none):=by simp only[OZ,hu,hs,h1,h2,Nat.ble_eq_true_of_le h3,Nat.ble_eq_true_of_le h4,Bool.and_self,oC,List.drop_nil,List.take_nil]
  obtain⟨v',h6,h7⟩:=IK hF hv hx w1;refine⟨v',h6,?_⟩;rw[VR]at h7; rw[VR];obtain⟨ao',c',e1,e2,_,_⟩:=h7;exact⟨ao',c',e1,e2,.inl (by omega)⟩
 ·rcases hb with hb|⟨b,hb,rfl,hroom⟩
  ·omega
  have e:=FY hW (some b) none;have hv:VR w G (upd μ H.length (some b) none) (.hs H.length (l0*n) m (some c) n) (.slice (some ⟨b,l0*n,none⟩) m c):=by
   rw[VR];exact⟨b,c,gK _ _ _ _,rfl,hle,λk hk=>(by cases hk; rfl),by rw[<- Nat.add_mul]; exact hroom⟩
  have hx:OZ P t (.hs H.length (l0*n) m (some c) n) (lo.map (ev F)) (hi.map (ev F))=some (.hs H.length (l0*n+i*n) (j-i) (some (c-i)) n):=by
   have q1:Nat.beq n n=true:=by rw[aDW,oT rfl]
   have q2:Nat.beq c i=false:=by rw[aDW,oF (by omega)]
   have q3:Nat.ble j c=true:=Nat.ble_eq_true_of_le (by omega);simp only[OZ,hu,hs,h1,h2,q1,q2,q3,Nat.ble_eq_true_of_le h3,Bool.and_self,oC,oD]
  obtain⟨v',h6,h7⟩:=IK (hF.mono e.toMono) hv hx w1;refine⟨v',h6,?_⟩;rw[VR]at h7; rw[VR];obtain⟨b2,c2,e1,e2,e3,ec,e4⟩:=h7;rw[gK]at e1;cases e1;refine⟨_,c2,e2,e3,.inr ⟨b,hb,by rw[Nat.add_mul],?_⟩⟩;rw[Nat.add_mul,Nat.add_mul];exact e4
theorem aO5 {F:Frm}{a:Act}{nt:Nat}(hW:aN n0 G μ H w)(hF:fQ w G μ nt F a){t:TypeId}{p v:PV}{x:Value}{lo hi:Option Operand}{cs:List Bool}{H':Heap}{c:Nat}(hp:VR w G μ p x)(h:SD P H t p (lo.map (ev F)) (hi.map (ev F))=some (cs,v,H',c))(hcs:CF cs=true)(w1:World) :
  H'=H/\∃ v',(Instr.sliceAt t x (lo.map a.eval) (hi.map a.eval) none).run P w1=.ok v' w1/\VR w G μ v v':=by
 unfold SD at h;split at h
 ·rename_i e hu;split at h
  ·rename_i n hs;split at h
   ·rename_i ty l cap ee;cases hb:Nat.beq n ty.size with
    | false=>rw[hb]at h; cases h
    | true =>
     rw[hb]at h;simp only[oC]at h;have hb:=oE hb;subst hb;split at h
     ·rename_i b1 i b2 j h1 h2;simp only[oJ,oP]at h;obtain⟨rfl,rfl,rfl,rfl⟩:=h;refine⟨rfl,?_⟩;obtain⟨c1,hcs⟩:=aP hcs;obtain⟨c2,hcs⟩:=aP hcs;obtain⟨c3,hcs⟩:=aP hcs;obtain⟨c4,_⟩:=aP hcs;have hv:VR w G μ (.vals (aG ty l) l.length cap) x:=(U0 hp).aY;have hx:OZ P t (.vals (aG ty l) l.length cap) (lo.map (ev F)) (hi.map (ev F))=some (.vals (((aG ty l).drop (i*ty.size)).take ((j-i)*ty.size)) (j-i) none):=by simp only[OZ,hu,hs,BL h1 c1,BL h2 c2,c3,c4,Bool.and_self,oC]
      obtain⟨v',h3,h4⟩:=IK hF hv hx w1;refine⟨v',h3,ZV ?_⟩;have hle1:=oL c3;have hle2:=oL c4;have hlen:((l.drop i).take (j-i)).length=j-i:=by simp; omega
      rw[wC,tR]at h4;rw[hlen];exact BE _ _ rfl h4
     ·cases h
   ·rename_i r sz;split at h
    ·rename_i g hg;obtain⟨hb,h⟩:=pY h;have hb:=oE hb;subst hb;unfold aHS at h;split at h
     ·rename_i b1 i b2 j h1 h2;obtain⟨kb,hk1,hk2⟩:=JT hg;cases hz:(aKF g.t&&Nat.beq g.l.length 0)with
      | true =>
       rw[hz]at h;simp only[oC,oJ,oP]at h;obtain⟨rfl,rfl,rfl,rfl⟩:=h;refine⟨rfl,?_⟩;obtain⟨c1,hcs⟩:=aP hcs;obtain⟨c2,hcs⟩:=aP hcs;obtain⟨c3,hcs⟩:=aP hcs;obtain⟨c4,_⟩:=aP hcs;have c3:=oE c3;have c4:=oE c4;subst c3; subst c4;simp only[oA]at hz;have hz:=oE hz.2;obtain⟨ht1,ht2⟩:=hW.tags r kb g (aJ hk1) hk2;have hp0:=hp;rw[VR]at hp;obtain⟨m,e1,e2⟩:=hp;rw[ht2,hz]at e1;cases e1;have run:∀ ao c',x=.slice ao 0 c'->(Instr.sliceAt t x (lo.map a.eval) (hi.map a.eval) none).run P w1=.ok (.slice (if c'=0 then ao else ao.map (·.add (0*n))) (0-0) (c'-0)) w1:=λao c' hx=>by
        subst hx;have hb2:=BL h2 c2;rw[hz]at hb2;have hr:=vX (P:=P) (isSlice:=true) (MW hF (BL h1 c1)) (MW hF hb2) (oM 0) (Nat.zero_le c') w1;simp[Instr.sliceAt,Instr.slice,run_underlying hu,hr,run_sizeOf hs]
       rcases e2 with ⟨_,ao,rfl⟩|⟨b,c',e3,rfl,e5,e6⟩
       ·exact⟨_,run ao 0 rfl,hp0⟩
       ·refine⟨_,run _ c' rfl,?_⟩;have:(if c'=0 then some (⟨b,0,none⟩:Addr) else (some (⟨b,0,none⟩:Addr)).map (·.add (0*n)))=some ⟨b,0,none⟩:=by
         split
         ·rfl
         ·simp[Addr.add_lit]
        rw[this];exact hp0
      | false =>
      rw[hz]at h;simp only[oD,oJ,oP]at h;obtain⟨rfl,rfl,rfl,rfl⟩:=h;refine⟨rfl,?_⟩;obtain⟨c1,hcs⟩:=aP hcs;obtain⟨c2,hcs⟩:=aP hcs;obtain⟨c3,hcs⟩:=aP hcs;obtain⟨c4,hcs⟩:=aP hcs;obtain⟨c5,_⟩:=aP hcs;obtain⟨ht1,ht2⟩:=hW.tags r kb g (aJ hk1) hk2;have hlt:=fB c5;have hv:VR w G μ (.win r 0 g.l.length n) x:=by
       rw[VR]at hp; rw[VR];obtain⟨m,e1,e2⟩:=hp;rw[ht2]at e1;cases e1;rcases e2 with ⟨e2,_⟩|⟨b,c',e3,rfl,e5,e6⟩
       ·omega
       ·exact⟨b,c',_,e3,by rw[Nat.zero_mul],e5,by rw[Nat.zero_add]; exact e6,ht2,by rw[Nat.zero_add]; exact oM _,by rw[Nat.zero_add]; exact e5⟩
      have:=aMF hF hv hu hs (BL h1 c1) (BL h2 c2) (oL c3) (oL c4) hlt w1;rw[Nat.zero_add]at this;exact this
     ·cases h
    ·cases h
   ·rename_i r l0 m sz;obtain⟨hb,h⟩:=pY h;have hb:=oE hb;subst hb;split at h
    ·rename_i b1 i b2 j h1 h2;simp only[oJ,oP]at h;obtain⟨rfl,rfl,rfl,rfl⟩:=h;refine⟨rfl,?_⟩;obtain⟨c1,hcs⟩:=aP hcs;obtain⟨c2,hcs⟩:=aP hcs;obtain⟨c3,hcs⟩:=aP hcs;obtain⟨c4,hcs⟩:=aP hcs;obtain⟨c5,_⟩:=aP hcs;exact aMF hF hp hu hs (BL h1 c1) (BL h2 c2) (oL c3) (oL c4) (fB c5) w1
    ·cases h
   ·rename_i r l0 m sz;obtain⟨hb,h⟩:=pY h;have hb:=oE hb;subst hb;split at h
    ·rename_i b1 i b2 j h1 h2;simp only[oJ,oP]at h;obtain⟨rfl,rfl,rfl,rfl⟩:=h;refine⟨rfl,?_⟩;obtain⟨c1,hcs⟩:=aP hcs;obtain⟨c2,hcs⟩:=aP hcs;obtain⟨c3,hcs⟩:=aP hcs;obtain⟨c4,hcs⟩:=aP hcs;exact aYI hW hF hp hu hs (BL h1 c1) (BL h2 c2) (oL c3) (oL c4) w1
    ·cases h
   ·cases h
  ·cases h
 ·cases h
def OE(c:List Value)(off:Nat)(vs:List Value):List Value:=c.take off++vs++c.drop (off+vs.length)
theorem aQT(a m b vs:List Value){off:Nat}(h:off+vs.length<=m.length):OE (a++m++b) (a.length+off) vs=a++OE m off vs++b:=by
 unfold OE;have e1:(a++m++b).take (a.length+off)=a++m.take off:=by rw[List.append_assoc,List.take_append,List.take_of_length_le (by omega),Nat.add_sub_cancel_left,List.take_append_of_le_length (by omega)]
 have e2:(a++m++b).drop (a.length+off+vs.length)=m.drop (off+vs.length)++b:=by rw[Nat.add_assoc,<- List.drop_drop,List.append_assoc,List.drop_left,List.drop_append_of_le_length h]
 rw[e1,e2];simp[List.append_assoc]
theorem aOX(hW:aN n0 G μ H w){T:TypeId}{p v u:PV}{x y:Value}{cs:List Bool}{H':Heap}{c:Nat}(hp:VR w G μ p x)(hv:VR w G μ v y)(h:aJ1 P H T p v=some (cs,u,H',c))(hcs:CF cs=true) :
  u=.lit undef/\c=2/\∃ w',(Instr.storeAt T x y).run P w=.ok () w'/\Ext n0 w G μ w' G μ/\aN n0 G μ H' w':=by
 unfold aJ1 at h;split at h
 ·rename_i r i off sz;split at h
  ·rename_i k hk;split at h
   ·rename_i g hg;split at h
    ·rename_i new n hnew hn;cases hb:(Nat.beq new.length n&&Nat.beq sz g.t.size&&!k.frozen&&Nat.ble (off+n) sz&&new.all MN)with
     | false=>rw[hb]at h; cases h
     | true =>
      rw[hb]at h;simp only[oC]at h;split at h
      ·rename_i d hd;simp only[oJ,oP]at h;obtain⟨rfl,rfl,rfl,rfl⟩:=h;refine⟨rfl,rfl,?_⟩;simp only[oA,Bool.not_eq_true']at hb;obtain⟨⟨⟨⟨b1,b2⟩,hf⟩,b3⟩,hok⟩:=hb;have b1:=oE b1;have b2:=oE b2;have b3:=oL b3;subst b2;have hlt:=fB (aP hcs).1;obtain⟨ht1,ht2⟩:=hW.tags r k g (aJ hk) hg;rw[VR]at hp;obtain⟨b,hloc,rfl⟩:=hp;obtain⟨C,g2,g3,g4,g5,g6⟩:=hW.blk r k b (aJ hk) hloc;rw[ht1]at g3;obtain⟨i1,i2⟩:=zU g2 g3
       have hlen:=aZ g.t g.l;have hcv:=GQ hnew hv;have hvl:new.length=y.cells.size:=by simpa using hcv.length
       have hmul:(i+1)*g.t.size<=g.l.length*g.t.size:=Nat.mul_le_mul_right _ hlt;rw[Nat.add_mul,Nat.one_mul]at hmul;obtain⟨w',h1,h2⟩:=pM (P:=P) (off:=i*g.t.size+off) y.cells.toList 0 w C (G8 hok hcv) g2 (by simp only[Array.length_toList]; omega);rw[Nat.add_zero]at h2;have hsz:(fE C (i*g.t.size+off) y.cells.toList).size=C.size:=wP (by simp only[Array.length_toList]; omega);have e1:=AB hW (aJ hk) hf hloc g2 h2 hsz
       refine⟨w',?_,e1,?_⟩
       ·have hl':y.cells.size=n:=by omega
        simp[Instr.storeAt,Instr.sureAddr,storeVar,run_sizeOf hn,hl',h1]
       ·refine D5 (k':={ k with cells:=aG g.t (g.l.set i d),tag:=some ⟨g.t,g.l.set i d⟩ }) hW (aJ hk) hf hloc g2 h2 hsz hf ?_ ?_ ?_ ?_
        ·-- the cells of the element are new
         have jS:g.l.getD i g.t.aP4=g.l[i]:=by simp[oQ,hlt]
         rw[jS]at hd;have hsplit:g.l=g.l.take i++g.l[i]::g.l.drop (i+1):=by rw[<- List.drop_eq_getElem_cons hlt,List.take_append_drop]
         have hset:g.l.set i d=g.l.take i++d::g.l.drop (i+1):=by rw[List.set_eq_take_append_cons_drop,if_pos hlt]
         have hA:(aG g.t (g.l.take i)).length=i*g.t.size:=by rw[aZ,List.length_take,Nat.min_eq_left (Nat.le_of_lt hlt)]
         obtain⟨C0,hC0⟩:∃ C0,C0=C.toList.take (aG g.t g.l).length:=⟨_,rfl⟩;rw[<- hC0]at i1;have hsp:aG g.t g.l=aG g.t (g.l.take i)++(enc g.t g.l[i]++aG g.t (g.l.drop (i+1))):=by
          conv=>lhs; rw[hsplit]
          rw[lG,lZ]
         have j0:=i1;rw[hsp]at j0;have jA:=j0.take (i*g.t.size);rw[List.take_left' hA]at jA;have jR:=j0.drop (i*g.t.size);rw[List.drop_left' hA]at jR;have jM:=jR.take g.t.size;rw[List.take_left' (uN _ _)]at jM;have jB:=jR.drop g.t.size;rw[List.drop_left' (uN _ _)]at jB;have hC0len:C0.length=g.l.length*g.t.size:=by rw[hC0,List.length_take,hlen,Array.length_toList]; omega
         have hCeq:C0=C0.take (i*g.t.size)++(C0.drop (i*g.t.size)).take g.t.size++(C0.drop (i*g.t.size)).drop g.t.size:=by rw[List.append_assoc,List.take_append_drop,List.take_append_drop]
         have hta:(C0.take (i*g.t.size)).length=i*g.t.size:=by rw[List.length_take]; omega
         have htm:((C0.drop (i*g.t.size)).take g.t.size).length=g.t.size:=by rw[List.length_take,List.length_drop]; omega
         have hspl:(fE C (i*g.t.size+off) y.cells.toList).toList.take (g.l.length*g.t.size)=OE C0 (i*g.t.size+off) y.cells.toList:=by
          simp only[fE,OE,hC0,hlen];rw[List.take_append,List.take_append,List.take_take,List.take_of_length_le (l:=y.cells.toList) (by simp; omega),List.drop_take,List.take_take,Nat.min_comm (i*g.t.size+off)]
          congr 2
          simp; omega
         have hmid:OE C0 (i*g.t.size+off) y.cells.toList=C0.take (i*g.t.size)++OE ((C0.drop (i*g.t.size)).take g.t.size) off y.cells.toList++(C0.drop (i*g.t.size)).drop g.t.size:=by
          have:=aQT (C0.take (i*g.t.size)) ((C0.drop (i*g.t.size)).take g.t.size) ((C0.drop (i*g.t.size)).drop g.t.size) y.cells.toList (off:=off) (by rw[htm]; simp only[Array.length_toList]; omega);rw[hta]at this;rw[<- this]
          congr 1
         have hnewv:VRs w G μ (enc g.t d) (OE ((C0.drop (i*g.t.size)).take g.t.size) off y.cells.toList):=by
          refine VRs.aY (xL g.t μ _ d _ hd ?_);simp only[UW,OE,hcv.length];exact((jM.take off).append hcv).append (jM.drop _)
         refine rW (n:=g.l.length*g.t.size) h2.at_ (VRs.mono e1.toMono _ _ ?_);rw[hspl,hmid,hset,lG,lZ,<- List.append_assoc];exact(jA.append hnewv).append jB
        ·intro hgr;rw[hsz,g4 hgr,ht1,aZ,aZ,List.length_set]
        ·intro g' hg';cases hg';exact⟨rfl,by simp only[List.length_set]; exact ht2⟩
        ·intro t1 l1 q1 q2;obtain⟨gt,gl⟩:=g;simp only[oJ,Tg.mk.injEq]at q2;obtain⟨rfl,_⟩:=q2;exact⟨gl,q1,hg⟩
      ·cases h
    ·cases h
   ·cases h
  ·cases h
 ·rename_i j off;split at h
  ·rename_i r k har;split at h
   ·rename_i t l htag;split at h
    ·rename_i new n hnew hn;obtain⟨hb,h⟩:=pY h;split at h
     ·rename_i d hd;simp only[oJ,oP]at h;obtain⟨rfl,rfl,rfl,rfl⟩:=h;refine⟨rfl,rfl,?_⟩;simp only[oA]at hb;obtain⟨⟨⟨⟨b1,b2⟩,b3⟩,hm⟩,hok⟩:=hb;have hm:k.ty≠NJ:=Nat.ne_of_beq_eq_false (by simpa using hm);have b1:=oE b1;have b2:=oE b2;have b3:=oE b3;obtain⟨row,hj,hlt,hrow⟩:=aGA (fB (aP hcs).1);obtain⟨hr,hg⟩:=UC har;obtain⟨_,_,a3⟩:=hW.rows.arn r k t l hr hg htag;rw[VR]at hp;obtain⟨b,hloc,rfl⟩:=hp;rcases a3 j row hj with h0|⟨b',g1,g2⟩
      ·rw[h0.1]at hlt; exact absurd hlt (Nat.not_lt_zero _)
      rw[hloc]at g1; cases g1;obtain⟨C,g2,g3⟩:=g2.cells (n:=0) (.inl hm);obtain⟨i1,i2⟩:=zU g2 g3;have hlen:=aZ t row;rw[b3,Nat.mul_one]at hlen;have hcv:=GQ hnew hv;have hvl:new.length=y.cells.size:=by simpa using hcv.length
      obtain⟨w',h1,h2⟩:=pM (P:=P) (off:=off) y.cells.toList 0 w C (G8 hok hcv) g2 (by simp only[Array.length_toList]; omega);rw[Nat.add_zero]at h2;have hsz:(fE C off y.cells.toList).size=C.size:=wP (by simp only[Array.length_toList]; omega);have e1:=aOF hW hloc g2 h2 hsz;refine⟨w',?_,e1,?_⟩
      ·have hl':y.cells.size=n:=by omega
       simp[Instr.storeAt,Instr.sureAddr,storeVar,run_sizeOf hn,hl',h1]
      ·refine aZU hW hr hg htag hloc g2 h2 hsz (by unfold vJ; rw[List.length_set]) (λi hi=>?_) (row:=row.set off d) ?_ ?_ hm
       ·unfold vJ;rw[List.getElem?_set_ne (Ne.symm hi)]
       ·unfold vJ;rw[hrow,List.getElem?_set_self (oO.1 hj).1]
       ·have hset:row.set off d=row.take off++d::row.drop (off+1):=by
         rw[List.set_eq_take_append_cons_drop,if_pos hlt]
        have hnewv:VRs w' G aI (enc t d) y.cells.toList:=VRs.mono e1.toMono.aI _ _ (xL t μ _ d _ hd hcv);have hA:=tR t off row;have hB:=wC t (off+1) row;rw[b3,Nat.mul_one]at hA hB;have jA:=i1.take off;have jB:=i1.drop (off+1);refine rW (n:=row.length) h2.at_ ?_;rw[hset,lG,lZ,<- hA,<- hB];have hy:y.cells.toList.length=1:=by simp only[Array.length_toList]; omega
        have hspl:(fE C off y.cells.toList).toList.take row.length=(C.toList.take (aG t row).length).take off++(y.cells.toList++(C.toList.take (aG t row).length).drop (off+1)):=by
         simp only[fE,hlen,hy];rw[List.append_assoc,List.take_append,List.take_append,List.take_take,List.take_take,hy,List.take_of_length_le (l:=y.cells.toList) (by rw[List.length_take]; omega),List.drop_take];have q1:(C.toList.take off).length=off:=by rw[List.length_take]; simp only[Array.length_toList]; omega
         rw[q1]
         congr 1
         congr 1; omega
        rw[hspl];exact(VRs.mono e1.toMono.aI _ _ jA).append (hnewv.append (VRs.mono e1.toMono.aI _ _ jB))
     ·cases h
    ·cases h
   ·cases h
  ·cases h
 ·cases h
end
section
variable {P:Program} {n0:Nat->Prop} {w:World} {G:Gd} {μ:Mp} {H:Heap}
theorem C1 {t e:TypeId}{ty:Ty}(h:IE P t=some (e,ty)):P.underlying t=some (.slice e)/\sS P e=some ty.size:=by
 unfold IE at h;cases hm:aMM a6B t with
 | true=>rw[hm]at h; cases h
 | false =>
 rw[hm,oD]at h;cases hm2:aMM a7D t with
 | true =>
  rw[hm2,oC]at h;unfold aWK at h;split at h
  ·rename_i e' hu;split at h
   ·split at h
    ·rename_i n m h1 h2;cases hb:Nat.beq n 1 with
     | false=>rw[hb]at h; cases h
     | true =>
      rw[hb]at h;simp only[oC,oJ,oP]at h;obtain⟨rfl,rfl⟩:=h;exact⟨hu,by rw[h1,oE hb]; rfl⟩
    ·cases h
   ·cases h
  ·cases h
 | false =>
 rw[hm2,oD]at h;split at h
 ·rename_i e' hu;split at h
  ·rename_i ty' n h1 h2;cases hb:Nat.beq n ty'.size with
   | false=>rw[hb]at h; cases h
   | true =>
    rw[hb]at h;simp only[oC,oJ,oP]at h;obtain⟨rfl,rfl⟩:=h;exact⟨hu,by rw[h2,oE hb]⟩
  ·cases h
 ·cases h
theorem PO {e:TypeId}{n:Nat}{i:TypeInfo}(h:sS P e=some n)(hi:P.info? e=some i):i.size=n:=by
 unfold sS at h;rw[hi]at h;simpa using h
def aDV(P:Program) (w:World) (G:Gd) (μ:Mp) (ty:Ty) (v:Value) (new:List ty.den):Prop :=
 (∀ w1:World,(Builtin.lenOf v).run P w1=.ok new.length w1)/\∃ vs:Array Value,VRs w G μ (aG ty new) vs.toList/\∀ w1:World,w1.heap=w.heap->(Builtin.firstCells ty.size new.length v).run P w1=.ok vs w1
theorem V9 {ty:Ty}{new:List ty.den}{v:Value}{cs:List PV}(h:Source P w G μ ty.size v cs new.length)(hc:∀ vs,VRs w G μ cs vs->VRs w G μ (aG ty new) vs):aDV P w G μ ty v new:=by
 obtain⟨h1,h2,h3⟩:=h;obtain⟨vs,h4,h5⟩:=h3 new.length (oM _);rw[List.take_of_length_le (by omega)]at h4;exact⟨h1,vs,hc _ h4,h5⟩
theorem aGH {cs:List PV}{n sz:Nat}{cap:Option Nat}{v:Value}(h:VR w G μ (.vals cs n cap) v)(hl:cs.length=n*sz):Source P w G μ sz v cs n:=by
 rw[VR]at h;obtain⟨ao,c,rfl,_,_,h3⟩:=h;rcases h3 with rfl|⟨b,off,rfl,_,hc⟩
 ·refine⟨λw1=>rfl,hl,λm hm=>⟨#[],by simp[VRs],λw1 _=>?_⟩⟩;have h0:m*sz=0:=by
   have:=Nat.mul_le_mul_right sz hm;simp only[List.length_nil]at hl;omega
  cases ao with
  | none=>rfl
  | some a=>simp[Builtin.firstCells,h0,loadCells,loadCellsFrom]
 ·exact yN hc.aY hl
theorem aLI(hW:aN n0 G μ H w){ty:Ty}{p:PV}{new:List ty.den}{v:Value}(hp:VR w G μ p v)(hok:CF (aWV H p)=true)(h:aPD H ty p=some new):aDV P w G μ ty v new:=by
 unfold aPD at h;split at h
 ·rename_i u l cap e;obtain⟨rfl,rfl⟩:=qV h;exact V9 (aGH (U0 hp).aY (aZ _ _)) (λ_ h=>h)
 ·rename_i r sz;split at h
  ·rename_i g hg;obtain⟨t,l⟩:=g;obtain⟨rfl,rfl⟩:=qV h;obtain⟨kb,hk1,hk2⟩:=JT hg;obtain⟨ht1,ht2⟩:=hW.tags r kb _ (aJ hk1) hk2;rw[VR]at hp;obtain⟨m,h1,h2⟩:=hp;rw[ht2]at h1;cases h1;rcases h2 with ⟨h2,ao,rfl⟩|⟨b,c',h3,rfl,h5,h6⟩
   ·have hnil:l=[]:=List.eq_nil_of_length_eq_zero h2;subst hnil;refine⟨λw1=>rfl,#[],by simp[aG,VRs],λw1 _=>?_⟩;cases ao with
    | none=>rfl
    | some a=>simp[Builtin.firstCells,loadCells,loadCellsFrom]
   ·obtain⟨c,g2,g3,_⟩:=hW.blk r kb b (aJ hk1) h3;simp only at ht1;rw[ht1]at g3;exact V9 (yN g3 (aZ _ _)) (λ_ h=>h)
  ·cases h
 ·rename_i n c;cases hn:Nat.beq n 0 with
  | false=>rw[hn]at h; cases h
  | true =>
   rw[hn]at h;simp only[oC,oJ]at h;subst h;have hn:=oE hn;subst hn;rw[VR]at hp;subst hp;exact⟨λw1=>rfl,#[],by simp[aG,VRs],λw1 _=>rfl⟩
 ·rename_i cs n cap;have hlen:∀ {m:Nat} {cs:List PV} {l:List ty.den},A5 (dec ty) ty.size m cs=some l->l.length=m:=by
   intro m
   induction m with
   | zero =>
    intro cs l h;cases cs with
    | nil=>simp only[A5,oJ]at h; subst h; rfl
    | cons _ _=>simp only[A5]at h; cases h
   | succ m ih =>
    intro cs l h;simp only[A5]at h;split at h
    ·split at h
     ·rename_i l' hl;simp only[oJ]at h;subst h;rw[List.length_cons,ih hl]
     ·cases h
    ·cases h
  have hn:=hlen h;subst hn;have hvl:=hp;rw[VR]at hvl;obtain⟨ao,c,rfl,_,_,h3⟩:=hvl;have hcs:∀ vs,VRs w G μ cs vs->VRs w G μ (aG ty new) vs:=λvs hv=>VRs.aY (LB (g:=enc ty) (λcs x vs h hv=>xL ty μ cs x vs h hv) h hv).1
  rcases h3 with rfl|⟨b,off,rfl,_,hc⟩
  ·have h0:=hcs [] (by rw[VRs]);have h1:=h0.length;rw[aZ,List.length_nil]at h1;have hz:new.length=0:=by
    rcases Nat.eq_zero_or_pos new.length with h|h
    ·exact h
    ·have:=Nat.mul_pos h ty.size_pos; omega
   rw[hz];refine⟨λw1=>by rw[hz]; rfl,#[],by simpa using h0,λw1 _=>?_⟩;rw[hz];cases ao with
   | none=>rfl
   | some a=>simp[Builtin.firstCells,loadCells,loadCellsFrom]
  ·obtain⟨vs,h4,h5⟩:=hc.values;have h6:=hcs vs h4.aY;have h7:=h6.length;rw[aZ]at h7;refine⟨λw1=>rfl,vs.toArray,by simpa using h6,λw1 hw=>?_⟩;have:=run_loadCells (P:=P) (w:=w1) (b:=b) (off:=off) (vs:=vs) λj hj=>by rw[aL5 hw]; exact h5 j hj
   rw[<- h7]at this;exact this
 ·rename_i r lo m sz;split at h
  ·rename_i g hg;split at h
   ·rename_i l hl;obtain⟨gt,gl⟩:=g;obtain⟨rfl,rfl⟩:=qV hl;obtain⟨hb0,h9⟩:=pY h;clear h;have hb:=oE hb0;clear hb0;subst hb;simp only[oJ]at h9;subst h9;obtain⟨kb,hk1,hk2⟩:=JT hg;obtain⟨ht1,ht2⟩:=hW.tags r kb _ (aJ hk1) hk2;rw[VR]at hp;obtain⟨b,c',mm,h3,rfl,h5,h6,h7,h8,_⟩:=hp;rw[ht2]at h7;cases h7;simp only at ht1 h8;obtain⟨c,g2,g3,_⟩:=hW.blk r kb b (aJ hk1) h3;rw[ht1]at g3;have g4:=g3.sub (lo*gt.size) (m*gt.size)
    rw[Nat.zero_add,wC,tR]at g4;have hlen:((gl.drop lo).take m).length=m:=by rw[List.length_take,List.length_drop]; omega
    have:=V9 (P:=P) (new:=(gl.drop lo).take m) (yN (c:=c') g4 (aZ _ _)) (λ_ h=>h);rwa[hlen]at this
   ·cases h
  ·cases h
 ·rename_i j lo m sz;unfold aZ7 at h;split at h
  ·rename_i r k hk;split at h
   ·rename_i t l hg;split at h
    ·rename_i row hrow;obtain⟨rfl,rfl⟩:=qV hrow;obtain⟨hb,h9⟩:=pY h;clear h;simp only[oA,Bool.not_eq_true']at hb;have hb1:=oE hb.1;have hb2:=Nat.ne_of_beq_eq_false hb.2;subst hb1;simp only[oJ]at h9;subst h9;simp only[aWV,hk,hg,cS]at hok;have hle:=oL (aP hok).1;have hlen:(((l.getD j []).drop lo).take m).length=m:=by rw[List.length_take,List.length_drop]; omega
     rw[VR]at hp;obtain⟨ao,c,rfl,h2,h3⟩:=hp
     by_cases hm:m=0
     ·subst hm;rw[List.take_zero];refine⟨λw1=>rfl,#[],by simp[aG,VRs],λw1 _=>?_⟩;cases ao with
      | none=>rfl
      | some a=>simp[Builtin.firstCells,loadCells,loadCellsFrom]
     ·obtain⟨b,g1,rfl,_⟩:=h3.resolve_left hm;obtain⟨i,_,hki,hgr⟩:=ZQ hk;obtain⟨_,_,a3⟩:=hW.rows.arn i k _ _ hki hgr hg;have hj:j<l.length:=by
       rcases oG j l.length with hj|hj
       ·exact hj
       ·rw[oQ,List.getElem?_eq_none hj,Option.getD_none]at hle;simp only[List.length_nil]at hle;omega
      have hge:l[j]?=some (l.getD j []):=by rw[oQ,List.getElem?_eq_getElem hj]; rfl
      rcases a3 j _ hge with ⟨h0,_⟩|⟨b',e1,e2⟩
      ·rw[h0]at hle;simp only[List.length_nil]at hle;omega
      ·rw[g1]at e1;cases e1;obtain⟨c0,_,g3⟩:=e2.cells (n:=0) (.inl hb2);have g4:=(aL.aY (μ:=μ) g3).sub (lo*t.size) (m*t.size);rw[Nat.zero_add,wC,tR]at g4;have:=V9 (P:=P) (new:=((l.getD j []).drop lo).take m) (yN (c:=c) g4 (aZ _ _)) (λ_ h=>h);rwa[hlen]at this
    ·cases h
   ·cases h
  ·cases h
 ·cases h
theorem TZ(hW:aN n0 G μ H w) {e:TypeId} {ty:Ty} {l:List ty.den} {c':Nat} {os vs rest:Array Value} (hv:VRs w G μ (aG ty l) (os++vs).toList) (hneed:l.length<=c') (hr:rest.size=(c'-l.length)*ty.size) {s:Sem Value}
  (h:s.run P w=.ok (.slice (some ⟨w.heap.size,0,none⟩) l.length c') (w.drew.alloc (.cells (os++vs++rest) e))):yB P n0 w G μ s (.own H.length ty.size) (H++[some ⟨aG ty l,e,true,false,some ⟨ty,l⟩⟩]):=by
 have hW':aN n0 G μ H w.drew:=ZM hW (w.drawn+1);have e1:Ext n0 w G μ w.drew G μ:=aCS (Nat.le_succ _);have hl:l.length*ty.size=(os++vs).size:=by have:=hv.length; rw[aZ]at this; simpa using this
 have hk:=DX (on:=some l.length) hW' (os++vs++rest) ⟨aG ty l,e,true,false,some ⟨ty,l⟩⟩ (λj p hp=>by
  obtain⟨u,g1,g2⟩:=hv.get hp;refine⟨u,?_,VR.mono e1.toMono p u g2⟩;have hlt:j<(os++vs).size:=by
   have:=(oO.1 g1).1;simpa using this
  rw[Array.getElem?_append_left hlt,<- Array.getElem?_toList];exact g1) (λh=>by cases h) rfl (λg hg=>by cases hg; exact⟨rfl,rfl⟩)
 refine⟨_,_,G,_,h,e1.trans (BQ hW' _ _ _),hk,?_⟩;rw[VR];refine⟨l.length,qC _ _ _ _,.inr ⟨w.heap.size,c',gK _ _ _ _,rfl,hneed,os++vs++rest,e,(0,0),?_,?_⟩⟩
 ·show (w.heap.push _)[w.heap.size]?=_;simp
 ·rw[Array.size_append,<- hl,hr,<- Nat.add_mul];exact Nat.mul_le_mul_right _ (by omega)
theorem aMS(hW:aN n0 G μ H w) {e:TypeId} {ty:Ty} {l:List ty.den} (hl:l.length=0) {s:Sem Value} {ao:Option Addr} (h:s.run P w=.ok (.slice ao 0 0) w):yB P n0 w G μ s (.own H.length ty.size) (H++[some ⟨aG ty l,e,true,false,some ⟨ty,l⟩⟩]):=by
 obtain⟨e1,h1⟩:=pZ (on:=some l.length) hW ⟨aG ty l,e,true,false,some ⟨ty,l⟩⟩ (λg hg=>by cases hg; exact⟨rfl,rfl⟩);refine⟨_,w,G,_,h,e1,h1,?_⟩;rw[VR];exact⟨l.length,qC _ _ _ _,.inl ⟨hl,ao,rfl⟩⟩
section
variable {t u e:TypeId} {i:TypeInfo} {z:Value} {d:TypeDesc} (ht:P.underlying t=some (.slice e)) (hu:P.underlying u=some d) (hd:∀ k,d≠.int k) (hi:P.info? e=some i) (hz:i.zero=some z)
include ht hu hd hi hz
theorem VB(hW:aN n0 G μ H w) {ty:Ty} (hsz:i.size=ty.size) (hb1:i.bytes<=65536) (hzs:z.cells.size=i.size) {x:Value} {new:List ty.den} {tt:TypeId} {ao:Option Addr} (hs:aDV P w G μ ty x new) (hn:new.length<=1048576) :
  yB P n0 w G μ (Builtin.append_ #[t,u] tt #[.slice ao 0 0,x]) (.own H.length ty.size) (H++[some ⟨aG ty new,e,true,false,some ⟨ty,new⟩⟩]):=by
 obtain⟨s1,vs,s2,s3⟩:=hs;rw[<- hsz]at s3
 by_cases h0:new.length=0
 ·have hvs:vs=#[]:=by
   have:=s2.length;rw[aZ,h0,Nat.zero_mul,Array.length_toList]at this;exact Array.eq_empty_of_size_eq_zero this.symm
  subst hvs;have:=yO (w:=w) (w':=w) (ty:=tt) (ao:=ao) (l:=0) (c:=0) ht hu hd hi s1 (by omega) (s3 w rfl) (by cases ao <;> simp[storeCells]);rw[h0]at this;exact aMS hW h0 this
 ·obtain⟨c',q1,q2⟩:=uG (w:=w) (ty:=tt) (ao:=ao) (l:=0) (c:=0) ht hu hd hi hz s1 (by omega) hb1 hn (by omega) (os:=#[]) s3 (λw1 _=>by
   cases ao with
   | none=>rfl
   | some a=>simp[Builtin.firstCells,loadCells,loadCellsFrom])
  rw[Nat.zero_add]at q1 q2;exact TZ hW (os:=#[]) (vs:=vs) (by simpa using s2) q1 (by rw[mO,hzs,hsz]) q2
theorem aQQ(hW:aN n0 G μ H w) {ty:Ty} (hsz:i.size=ty.size) (hb1:i.bytes<=65536) (hzs:z.cells.size=i.size) {x:Value} {new l:List ty.den} {tt:TypeId} (hs:aDV P w G μ ty x new) (hn:new.length<=1048576) (hl:l.length<=1048576)
  (hok:∀ vs:List Value,VRs w G μ (aG ty new) vs->∀ v∈vs,v.oneCell'=true)
  {r:Nat} {k:Blk} (hk:jS H r=some k) (hf:k.frozen=false) (hg:k.grown=true) (hte:k.ty=e) (htag:k.tag=some ⟨ty,l⟩) {b c:Nat} (hb:μ.loc r=some b) (hlc:l.length<=c) (hroom:Room w b (c*ty.size)) :
  yB P n0 w G μ (Builtin.append_ #[t,u] tt #[.slice (some ⟨b,0,none⟩) l.length c,x]) (.own H.length ty.size) (H.set r none++[some ⟨aG ty (l++new),e,true,false,some ⟨ty,l++new⟩⟩]):=by
 obtain⟨cs,g2,g3,g4,g5,g6⟩:=hW.blk r k b (aJ hk) hb;obtain⟨ht1,ht2⟩:=hW.tags r k _ (aJ hk) htag;simp only at ht1 ht2;rw[ht1]at g3;obtain⟨s1,vs,s2,s3⟩:=hs;rw[<- hsz]at s3;have hvl:new.length*ty.size=vs.size:=by have:=s2.length; rw[aZ]at this; simpa using this
 obtain⟨i1,i2⟩:=zU g2 g3;have hel:=aZ ty l;rw[hel]at i1 i2
 by_cases hfit:l.length+new.length<=c
 ·obtain⟨c2,t2,fr2,r1,r2⟩:=hroom;rw[g2]at r1; cases r1;have hmul:(l.length+new.length)*ty.size<=c*ty.size:=Nat.mul_le_mul_right _ hfit;rw[Nat.add_mul]at hmul;obtain⟨w',h1,h2⟩:=pM (P:=P) (off:=l.length*ty.size) vs.toList 0 w cs (hok _ s2) g2 (by simp only[Array.length_toList]; omega);rw[Nat.add_zero]at h2;have hszV:(fE cs (l.length*ty.size) vs.toList).size=cs.size:=wP (by simp only[Array.length_toList]; omega)
  have e1:=AB hW (aJ hk) hf hb g2 h2 hszV;have hW':=D5 (k':=⟨aG ty (l++new),e,true,false,none⟩) hW (aJ hk) hf hb g2 (hte ▸ h2) hszV rfl (by
   refine rW (n:=l.length*ty.size+vs.size) h2.at_ (VRs.mono e1.toMono _ _ ?_);have h3:=i1.append s2;rw[<- lG]at h3;have e2:(fE cs (l.length*ty.size) vs.toList).toList.take (l.length*ty.size+vs.size)=cs.toList.take (l.length*ty.size)++vs.toList:=by
    simp only[fE];rw[List.take_append_of_le_length (by simp; omega),List.take_of_length_le (by simp; omega)]
   rw[e2]; exact h3) (λh=>by cases h) (λg hg=>by cases hg)
  have hrl:r<H.length:=(oO.1 (aJ hk)).1;obtain⟨e3,hW''⟩:=KN (r:=r) (on:=some (l++new).length) hW' (List.getElem?_set_self hrl) hb (λg hg=>by cases hg);simp only[List.length_set,List.set_set]at e3 hW'';have hW3:aN n0 G (upd μ H.length (some b) (some (l++new).length)) (H.set r none++[some ⟨aG ty (l++new),e,true,false,some ⟨ty,l++new⟩⟩]) w':=by
   have hkill:=vV hW' r;simp only[List.set_set]at hkill;have hlen:(H.set r none).length=H.length:=by simp
   have e4:Ext n0 w' G μ w' G (upd μ (H.set r none).length (some b) (some (l++new).length)):=by rw[hlen]; exact e3
   have:=HF hkill e4 ⟨aG ty (l++new),e,true,false,some ⟨ty,l++new⟩⟩ (λ_ _ _ _ _=>rfl) (by
    rintro b' hb';cases hb';obtain⟨c9,k2,k3,k4,k5,k6⟩:=hW'.blk r _ b (List.getElem?_set_self hrl) hb;exact⟨c9,k2,aL.mono e4.toMono rfl 0 _ k3,λh=>(by cases h),λh=>(by cases h),k6⟩) (λg hg=>by cases hg; exact⟨rfl,rfl⟩) (by
    intro s k' b' hs hf' hb' hh;cases hh;obtain⟨hs1,hs2⟩:=qH hs;exact hs2 (hW.inj s r k' k b hs1 (aJ hk) hf' hf hb' hb))
    (KB hkill e4 (λt l h1 h2=>by cases h1) (λ_ _ _=>rfl) (λj b1 hj _ hh=>by cases hh; exact(hW'.rows.sep j b hj).2.2.2 r _ (List.getElem?_set_self hrl) rfl hb))
   rwa[hlen]at this
  have hrun:=yO (w:=w) (w':=w') (ty:=tt) (ao:=some ⟨b,0,none⟩) ht hu hd hi s1 hfit (s3 w rfl) (by simp only[Addr.add_lit,Nat.zero_add,hsz]; exact h1);refine⟨_,w',G,_,hrun,e1.trans e3,hW3,?_⟩;rw[VR];refine⟨_,qC _ _ _ _,.inr ⟨b,c,gK _ _ _ _,by rw[oH],by rw[oH]; exact hfit,_,_,_,h2.at_,by rw[hszV]; exact r2⟩⟩
 ·obtain⟨os,o1,o2⟩:=(yN (P:=P) (c:=c) g3 (aZ _ _):Source P w G μ ty.size (.slice (some ⟨b,0,none⟩) l.length c) _ l.length).2.2 l.length (oM _);rw[List.take_of_length_le (by rw[hel]; exact oM _)]at o1;rw[<- hsz]at o2;obtain⟨c',q1,q2⟩:=uG (w:=w) (ty:=tt) (ao:=some ⟨b,0,none⟩) ht hu hd hi hz s1 hfit hb1 hn hl s3 o2;have hlen:(H.set r none).length=H.length:=by simp
  have:=TZ (vV hW r) (e:=e) (ty:=ty) (l:=l++new) (c':=c') (os:=os) (vs:=vs) (rest:=Builtin.zeroCells z.cells (c'-(l.length+new.length))) (by rw[lG,Array.toList_append]; exact o1.append s2) (by rw[oH]; exact q1) (by rw[mO,hzs,hsz,oH]) (s:=Builtin.append_ #[t,u] tt #[.slice (some ⟨b,0,none⟩) l.length c,x]) (by rw[oH]; exact q2);rwa[hlen]at this
omit hz in
theorem aSQ(hW:aN n0 G μ H w) {ty:Ty} (hsz:i.size=ty.size) {x:Value} {new l:List ty.den} {tt:TypeId} (hs:aDV P w G μ ty x new)
  (hok:∀ vs:List Value,VRs w G μ (aG ty new) vs->∀ v∈vs,v.oneCell'=true)
  {r lo n:Nat} {k:Blk} (hk:jS H r=some k) (hf:k.frozen=false) (hte:k.ty=e) (htag:k.tag=some ⟨ty,l⟩) {b c m:Nat} (hb:μ.loc r=some b) (hroom:Room w b ((lo+c)*ty.size)) (hm:μ.len r=some m) (hcap:m<=lo+c) (hfit:lo+n+new.length<=l.length) :
  yB P n0 w G μ (Builtin.append_ #[t,u] tt #[.slice (some ⟨b,lo*ty.size,none⟩) n c,x]) (.win r lo (n+new.length) ty.size) (H.set r (some { k with cells:=aG ty (spl l (lo+n) new),tag:=some ⟨ty,spl l (lo+n) new⟩ })):=by
 obtain⟨cs,g2,g3,g4,g5,g6⟩:=hW.blk r k b (aJ hk) hb;obtain⟨ht1,ht2⟩:=hW.tags r k _ (aJ hk) htag;simp only at ht1 ht2;rw[ht2]at hm;cases hm;rw[ht1]at g3;obtain⟨s1,vs,s2,s3⟩:=hs;rw[<- hsz]at s3;have hvl:new.length*ty.size=vs.size:=by have:=s2.length; rw[aZ]at this; simpa using this
 obtain⟨i1,i2⟩:=zU g2 g3;have hel:=aZ ty l;rw[hel]at i2;have hmul:(lo+n+new.length)*ty.size<=l.length*ty.size:=Nat.mul_le_mul_right _ hfit;rw[Nat.add_mul]at hmul;obtain⟨w',h1,h2⟩:=pM (P:=P) (off:=(lo+n)*ty.size) vs.toList 0 w cs (hok _ s2) g2 (by simp only[Array.length_toList]; omega);rw[Nat.add_zero]at h2;have hszV:(fE cs ((lo+n)*ty.size) vs.toList).size=cs.size:=wP (by simp only[Array.length_toList]; omega)
 have e1:=AB hW (aJ hk) hf hb g2 h2 hszV;have hlen:(spl l (lo+n) new).length=l.length:=by simp only[spl,oH,List.length_take,List.length_drop]; omega
 have hW':aN n0 G μ (H.set r (some { k with cells:=aG ty (spl l (lo+n) new),tag:=some ⟨ty,spl l (lo+n) new⟩ })) w':=by
  refine D5 (k':={ k with cells:=aG ty (spl l (lo+n) new),tag:=some ⟨ty,spl l (lo+n) new⟩ }) hW (aJ hk) hf hb g2 h2 hszV hf ?_ ?_ ?_ (λt1 l1 q1 q2=>by simp only[oJ,Tg.mk.injEq]at q2; obtain⟨rfl,_⟩:=q2; exact⟨l,q1,htag⟩)
  ·refine rW (n:=l.length*ty.size) h2.at_ (VRs.mono e1.toMono _ _ ?_);have hspl:(fE cs ((lo+n)*ty.size) vs.toList).toList.take (l.length*ty.size)=(cs.toList.take (aG ty l).length).take ((lo+n)*ty.size)++(vs.toList++(cs.toList.take (aG ty l).length).drop ((lo+n)*ty.size+new.length*ty.size)):=by
    simp only[fE,hel];rw[List.take_append,List.take_append,List.take_take,List.take_of_length_le (l:=vs.toList) (by simp only[List.length_take,Array.length_toList]; omega),List.drop_take,List.take_take,Nat.min_comm ((lo+n)*ty.size),List.append_assoc,Array.length_toList,hvl]
    congr 3
    simp only[oH,List.length_take,Array.length_toList]; omega
   rw[hspl];unfold spl;rw[lG,lG,<- tR,<- wC];refine(i1.take _).append (s2.append ?_);have:=i1.drop ((lo+n+new.length)*ty.size);rw[Nat.add_mul]at this ⊢;exact this
  ·intro hgr;rw[hszV,g4 hgr,ht1,aZ,aZ,hlen]
  ·intro g' hg';cases hg';exact⟨rfl,by rw[hlen]; exact ht2⟩
 have hrun:=yO (w:=w) (w':=w') (ty:=tt) (ao:=some ⟨b,lo*ty.size,none⟩) (l:=n) (c:=c) ht hu hd hi s1 (by omega) (s3 w rfl) (by simp only[Addr.add_lit,hsz,<- Nat.add_mul]; exact h1);refine⟨_,w',G,μ,hrun,e1,hW',?_⟩;rw[VR];obtain⟨c2,t2,fr2,r1,r2⟩:=hroom;rw[g2]at r1; cases r1;exact⟨b,c,l.length,hb,rfl,by omega,⟨_,_,_,h2.at_,by rw[hszV]; exact r2⟩,ht2,by omega,hcap⟩
end
theorem aOD:∀ (t:Ty) (x:t.den) (vs:List Value),VRs w G μ (enc t x) vs->∀ v∈vs,v.oneCell'=true
 | .int k,x,vs,h,v,hv=>by obtain⟨u,rfl,h1⟩:=NS h; rw[VR]at h1; subst h1; rcases List.mem_singleton.1 hv with rfl; rfl
 | .bool,x,vs,h,v,hv=>by obtain⟨u,rfl,h1⟩:=NS h; rw[VR]at h1; subst h1; rcases List.mem_singleton.1 hv with rfl; rfl
 | .str,x,vs,h,v,hv=>by obtain⟨u,rfl,h1⟩:=NS h; rw[VR]at h1; subst h1; rcases List.mem_singleton.1 hv with rfl; rfl
 | .list t,x,vs,h,v,hv=>by
  obtain⟨u,rfl,h1⟩:=NS h;obtain⟨_,_,rfl⟩:=aJ4 h1;rcases List.mem_singleton.1 hv with rfl; rfl
 | .hnd sz,x,vs,h,v,hv=>by
  obtain⟨u,rfl,h1⟩:=NS h;rw[VR]at h1;obtain⟨_,_,rfl,_⟩:=h1;rcases List.mem_singleton.1 hv with rfl; rfl
 | .rows t,x,vs,h,v,hv=>by obtain⟨u,rfl,h1⟩:=NS h; rw[VR]at h1; subst h1; rcases List.mem_singleton.1 hv with rfl; rfl
 | .prod a b,(x,y),vs,h,v,hv=>by
  simp only[enc]at h;have h1:=h.take (enc a x).length;have h2:=h.drop (enc a x).length;rw[List.take_left]at h1;rw[List.drop_left]at h2;rw[<- List.take_append_drop (enc a x).length vs]at hv;rcases List.mem_append.1 hv with hv|hv
  ·exact aOD a x _ h1 v hv
  ·exact aOD b y _ h2 v hv
theorem UN(t:Ty):∀ (l:List t.den) (vs:List Value),VRs w G μ (aG t l) vs->∀ v∈vs,v.oneCell'=true
 | [],vs,h,v,hv=>by simp only[aG,List.flatMap_nil]at h; rw[VRs]at h; subst h; cases hv
 | x::l,vs,h,v,hv=>by
  rw[lZ]at h;have h1:=h.take (enc t x).length;have h2:=h.drop (enc t x).length;rw[List.take_left]at h1;rw[List.drop_left]at h2;rw[<- List.take_append_drop (enc t x).length vs]at hv;rcases List.mem_append.1 hv with hv|hv
  ·exact aOD t x _ h1 v hv
  ·exact UN t l _ h2 v hv
theorem GP {H1:Heap}{e:TypeId}{ty:Ty}{l:List ty.den}{cs0 cs:List Bool}{v:PV}{H':Heap}{c:Nat}(h:aCY H1 e ty l cs0=some (cs,v,H',c)):cs=cs0/\v=.own H1.length ty.size/\H'=H1++[some ⟨aG ty l,e,true,false,some ⟨ty,l⟩⟩]/\c=2:=by
 simp only[aCY,oJ,oP]at h;obtain⟨rfl,rfl,rfl,rfl⟩:=h;exact⟨rfl,rfl,rfl,rfl⟩
set_option maxHeartbeats 1000000 in
theorem aLP(hW:aN n0 G μ H w) {tys:Array TypeId} {tt:TypeId} {p q v:PV} {s x:Value} {cs:List Bool} {H':Heap} {c:Nat} (hp:VR w G μ p s) (hq:VR w G μ q x) (hok:CF (aWV H q)=true) (h:aCZ P H tys p q=some (cs,v,H',c)) (hcs:CF cs=true) :
  c=2/\yB P n0 w G μ (Builtin.append_ tys tt #[s,x]) v H':=by
 unfold aCZ at h;split at h
 ·rename_i t u htys;have htys:tys=#[t,u]:=by apply Array.ext'; simpa using htys
  subst htys;split at h
  ·cases h
  ·cases h
  ·rename_i d hnot hu;have hd:∀ k,d≠.int k:=λk hk=>hnot k hk
   split at h
   ·rename_i e ty hel;obtain⟨ht,hsz0⟩:=C1 hel;split at h
    ·rename_i i hi;have hsz:=PO hsz0 hi;split at h
     ·rename_i z hz;cases hb:(Nat.ble i.bytes 65536&&Nat.beq z.cells.size i.size)with
      | false=>rw[hb]at h; cases h
      | true =>
       rw[hb]at h;simp only[oC]at h;simp only[oA]at hb;have hb1:=oL hb.1;have hzs:=oE hb.2;split at h
       ·rename_i new hnew;have hs:=aLI (P:=P) hW hq hok hnew;split at h
        ·rename_i m c0;cases hm:(Nat.beq m 0&&Nat.beq c0 0)with
         | false=>rw[hm]at h; cases h
         | true =>
          rw[hm]at h;simp only[oC]at h;simp only[oA]at hm;have e1:=oE hm.1;have e2:=oE hm.2;subst e1; subst e2;obtain⟨rfl,rfl,rfl,rfl⟩:=GP h;rw[VR]at hp;subst hp;exact⟨rfl,VB ht hu hd hi hz hW hsz hb1 hzs hs (oL (aP hcs).1)⟩
        ·rename_i r sz;split at h
         ·rename_i k hk;split at h
          ·rename_i g hg;obtain⟨gt,gl⟩:=g;split at h
           ·rename_i l hl;obtain⟨rfl,rfl⟩:=qV hl;cases hm:(Nat.beq sz gt.size&&!k.frozen&&Nat.beq k.ty e&&k.grown)with
            | false=>rw[hm]at h; cases h
            | true =>
             rw[hm]at h;simp only[oC]at h;simp only[oA,Bool.not_eq_true']at hm;obtain⟨⟨⟨m1,m2⟩,m3⟩,m4⟩:=hm;have m1:=oE m1;have m3:=oE m3;subst m1;obtain⟨rfl,rfl,rfl,rfl⟩:=GP h;refine⟨rfl,?_⟩;obtain⟨c1,hcs⟩:=aP hcs;obtain⟨c2,_⟩:=aP hcs;obtain⟨ht1,ht2⟩:=hW.tags r k _ (aJ hk) hg;have hlenset:(H.set r none).length=H.length:=by simp
             rw[VR]at hp;obtain⟨n,h1,h2⟩:=hp;simp only at ht2;rw[ht2]at h1;cases h1;rcases h2 with ⟨h2,ao,rfl⟩|⟨b,cc,h3,rfl,h5,h6⟩
             ·have hnil:gl=[]:=List.eq_nil_of_length_eq_zero h2;subst hnil;have:=VB (tt:=tt) (ao:=ao) (e:=e) ht hu hd hi hz (vV hW r) hsz hb1 hzs hs (oL c1);simpa using this
             ·rw[hlenset];exact aQQ ht hu hd hi hz hW hsz hb1 hzs hs (oL c1) (oL c2) (λvs h=>UN _ _ vs h) hk m2 m4 m3 hg h3 h5 h6
           ·cases h
          ·cases h
         ·cases h
        ·rename_i r lo n sz;split at h
         ·rename_i k hk;split at h
          ·rename_i g hg;obtain⟨gt,gl⟩:=g;split at h
           ·rename_i l hl;obtain⟨rfl,rfl⟩:=qV hl;cases hm:(Nat.beq sz gt.size&&!k.frozen&&Nat.beq k.ty e)with
            | false=>rw[hm]at h; cases h
            | true =>
             rw[hm]at h;simp only[oC,oJ,oP]at h;obtain⟨rfl,rfl,rfl,rfl⟩:=h;simp only[oA,Bool.not_eq_true']at hm;obtain⟨⟨m1,m2⟩,m3⟩:=hm;have m1:=oE m1;have m3:=oE m3;subst m1;refine⟨rfl,?_⟩;have c1:=oL (aP hcs).1;rw[VR]at hp;obtain⟨b,cc,m,h3,rfl,h5,h6,h7,_,h8⟩:=hp;exact aSQ ht hu hd hi hW hsz hs (λvs h=>UN _ _ vs h) hk m2 m3 hg h3 h6 h7 h8 c1
           ·cases h
          ·cases h
         ·cases h
        ·rename_i u' l0 c0 ee;split at h
         ·rename_i l hl;obtain⟨rfl,rfl⟩:=qV hl;have hv:=U0 hp;rw[VR]at hv;obtain⟨ao,cc,rfl,h2,h3,h4⟩:=hv;have:=h3 c0 rfl;subst this;cases hc0:Nat.beq cc 0 with
          | true =>
           rw[hc0]at h;simp only[oC]at h;obtain⟨rfl,rfl,rfl,rfl⟩:=GP h;have hc0:=oE hc0;subst hc0;have hl0:l0.length=0:=by omega
           refine⟨rfl,?_⟩;rw[hl0];exact VB ht hu hd hi hz hW hsz hb1 hzs hs (oL (aP hcs).1)
          | false =>
           rw[hc0]at h;simp only[oD]at h;obtain⟨rfl,rfl,rfl,rfl⟩:=GP h;refine⟨rfl,?_⟩;obtain⟨c1,hcs⟩:=aP hcs;obtain⟨c2,hcs⟩:=aP hcs;obtain⟨c3,_⟩:=aP hcs;have c3:=fB c3;obtain⟨s1,vs,s2,s3⟩:=hs;obtain⟨os,o1,o2⟩:=(aGH (P:=P) (μ:=μ) (U0 hp).aY (aZ _ _)).2.2 l0.length (oM _);rw[List.take_of_length_le (by rw[aZ]; exact oM _)]at o1;rw[<- hsz]at s3 o2;obtain⟨c',q1,q2⟩:=uG (w:=w) (ty:=tt) (ao:=ao) ht hu hd hi hz s1 (by omega) hb1 (oL c1) (oL c2) s3 o2
           exact TZ hW (e:=e) (l:=l0++new) (c':=c') (os:=os) (vs:=vs) (by rw[lG,Array.toList_append]; exact o1.append s2) (by rw[oH]; exact q1) (by rw[mO,hzs,hsz,oH]) (by rw[oH]; exact q2)
         ·cases h
        ·cases h
       ·cases h
     ·cases h
    ·cases h
   ·cases h
 ·cases h
end
section
variable {P:Program} {n0:Nat->Prop} {w:World} {G:Gd} {μ:Mp} {H:Heap} {F:Frm} {a:Act} {nt:Nat}
theorem aKJ(hW:aN n0 G μ H w)(r:Nat):∃ G',Ext n0 w G μ w G' μ/\aN n0 G' μ (J0 H r) w:=by
 unfold J0;split
 ·rename_i k hk;cases hf:k.frozen with
  | true=>exact⟨G,Ext.refl _ _ _ _,hW⟩
  | false=>exact⟨_,RU hW (aJ hk) hf⟩
 ·exact⟨G,Ext.refl _ _ _ _,hW⟩
theorem MQ:∀ (rs:List Nat) (H:Heap) (G:Gd),aN n0 G μ H w->∃ G',Ext n0 w G μ w G' μ/\aN n0 G' μ (QD H rs) w
 | [],H,G,hW=>⟨G,Ext.refl _ _ _ _,hW⟩
 | r::rs,H,G,hW=>by
  obtain⟨G1,e1,h1⟩:=aKJ hW r;obtain⟨G2,e2,h2⟩:=MQ rs _ G1 h1;exact⟨G2,e1.trans e2,h2⟩
theorem GJ(hW:aN n0 G μ H w) {r sz:Nat} {k:Blk} {g:Tg} {v:Value} (hv:VR w G μ (.own r sz) v) (hk:jS H r=some k) (hg:k.tag=some g) {G':Gd} (hG:∀ b,G b->G' b) (hB:∀ b,μ.loc r=some b->G' b) (hR:∀ j b,G.row j=some b->G'.row j=some b:=by exact λ_ _ h=>h):VR w G' aI (L4 g.t g.l none) v:=by
 obtain⟨ht1,ht2⟩:=hW.tags r k g (aJ hk) hg;have hm:Mono w G μ w G' μ:=⟨λb hb=>⟨hG b hb,rfl⟩,λ_ _ h=>h,λ_ _ h=>h,λ_ _ h=>h,hR⟩;rw[VR]at hv;obtain⟨n,h1,h2⟩:=hv;rw[ht2]at h1;cases h1;refine ZV ?_;rw[VR];rcases h2 with ⟨h2,ao,rfl⟩|⟨b,c,h3,rfl,h5,h6⟩
 ·have hnil:g.l=[]:=List.eq_nil_of_length_eq_zero h2;exact⟨ao,0,by rw[hnil]; rfl,by omega,λk hk=>(by cases hk),.inl (by rw[hnil]; rfl)⟩
 ·obtain⟨c',g2,g3,_⟩:=hW.blk r k b (aJ hk) h3;rw[ht1]at g3;refine⟨_,c,rfl,h5,λk hk=>(by cases hk),.inr ⟨b,0,rfl,hB b h3,?_⟩⟩;obtain⟨vs,h7,h8⟩:=g3.values;exact aL.nJ (dB _ _ (jL _ _) (VRs.mono hm _ _ h7)) h8
theorem aS5(hW:aN n0 G μ H w){r lo n sz:Nat}{k:Blk}{g:Tg}{v:Value}(hv:VR w G μ (.win r lo n sz) v)(hk:jS H r=some k)(hg:k.tag=some g)(hsz:sz=g.t.size){G':Gd}(hG:∀ b,G b->G' b)(hB:∀ b,μ.loc r=some b->G' b)(hR:∀ j b,G.row j=some b->G'.row j=some b:=by exact λ_ _ h=>h) :
  VR w G' aI (L4 g.t ((g.l.drop lo).take n) none) v:=by
 subst hsz;obtain⟨ht1,ht2⟩:=hW.tags r k g (aJ hk) hg;have hm:Mono w G μ w G' μ:=⟨λb hb=>⟨hG b hb,rfl⟩,λ_ _ h=>h,λ_ _ h=>h,λ_ _ h=>h,hR⟩;rw[VR]at hv;obtain⟨b,c,m,h3,rfl,h5,h6,hm,hle,_⟩:=hv;rw[ht2]at hm;cases hm;refine ZV ?_;rw[VR];have hlen:((g.l.drop lo).take n).length=n:=by rw[List.length_take,List.length_drop]; omega
 rw[hlen];obtain⟨c',g2,g3,_⟩:=hW.blk r k b (aJ hk) h3;rw[ht1]at g3;refine⟨_,c,rfl,h5,λk hk=>(by cases hk),.inr ⟨b,lo*g.t.size,rfl,hB b h3,?_⟩⟩;have g4:=g3.sub (lo*g.t.size) (n*g.t.size);rw[Nat.zero_add,wC,tR]at g4;obtain⟨vs,h7,h8⟩:=g4.values;exact aL.nJ (dB _ _ (jL _ _) (VRs.mono hm _ _ h7)) h8
theorem a4A(hW:aN n0 G μ H w){p q:PV}{v:Value}(h:JI.inlT H p=some q)(hv:VR w G μ p v):VR w G aI q v:=by
 unfold JI.inlT at h;split at h
 ·rename_i r sz;split at h
  ·rename_i k hk;split at h
   ·rename_i g hg;cases hf:k.frozen with
    | false=>rw[hf]at h; cases h
    | true =>
     rw[hf]at h;simp only[oC,oJ]at h;subst h;exact GJ hW hv hk hg (λb h=>h) (λb hb=>by
      obtain⟨_,_,_,_,h5,_⟩:=hW.blk r k b (aJ hk) hb;exact h5 hf)
   ·cases h
  ·cases h
 ·cases hn:eB p with
  | false=>rw[hn]at h; cases h
  | true =>
   rw[hn]at h;simp only[oC,oJ]at h;subst h;exact BE p v hn hv
def aFK(w:World) (G:Gd) (μ:Mp):List (Nat×PV)->List (Nat×Value)->Prop
 | [],vs=>vs=[]
 | (i,p)::ps,vs=>∃ x xs,vs=(i,x)::xs/\VR w G μ p x/\aFK w G μ ps xs
theorem aH9(hW:aN n0 G μ H w)(ρ:Operand->Value):∀ (ops:List (Nat×Operand)) (qs:List (Nat×PV)),(∀ x,VR w G μ (ev F x) (ρ x))->JI H (ops.map λp=>(p.1,ev F p.2))=some qs->aFK w G aI qs (ops.map λp=>(p.1,ρ p.2))
 | [],qs,_,h=>by
  simp only[List.map_nil,JI,oJ]at h;subst h;simp[aFK]
 | (i,x)::ops,qs,hF,h=>by
  simp only[List.map_cons,JI]at h;split at h
  ·rename_i q hq;split at h
   ·rename_i qs' hqs;simp only[oJ]at h;subst h;exact⟨_,_,rfl,a4A hW hq (hF x),aH9 hW ρ ops qs' hF hqs⟩
   ·cases h
  ·cases h
theorem aI7 {H1:Heap}:∀ (ps:List (Nat×PV)),owns ps=[]->JI H1 ps=JI [] ps
 | [],_=>rfl
 | (i,p)::ps,h=>by
  have hp:owns ps=[]/\JI.inlT H1 p=JI.inlT [] p:=by cases p <;> simp only[owns]at h <;> first|exact⟨h,rfl⟩|cases h
  simp only[JI,hp.2,aI7 ps hp.1]
theorem a0X(place:Nat->Option (Nat×Nat)):∀ (ps:List (Nat×PV)) (vs:List (Nat×Value)) (cs out:List PV) (c:Array Value),aFK w G μ ps vs->VRs w G μ cs c.toList->PE place cs ps=some out->∃ c',Instr.fill place c vs=some c'/\VRs w G μ out c'.toList
 | [],vs,cs,out,c,hp,hc,h=>by
  simp only[aFK]at hp;subst hp;simp only[PE,oJ]at h;exact⟨c,rfl,h ▸ hc⟩
 | (i,p)::ps,vs,cs,out,c,hp,hc,h=>by
  obtain⟨x,xs,rfl,hx,hps⟩:=hp;simp only[PE]at h;split at h
  ·rename_i off size new hpl hcp;cases hb:(Nat.beq new.length size&&Nat.ble (off+new.length) cs.length)with
   | false=>rw[hb]at h; cases h
   | true =>
    rw[hb]at h;simp only[oC]at h;simp only[oA]at hb;have h1:=oE hb.1;have h2:=oL hb.2;have hv:=GQ hcp hx;have hl:new.length=x.cells.size:=by simpa using hv.length
    have hcl:cs.length=c.size:=by simpa using hc.length
    obtain⟨c',h3,h4⟩:=a0X place ps xs _ out _ hps (aKQ (off:=off) hc hv) h;refine⟨c',?_,h4⟩;simp only[Instr.fill,hpl];have hno':¬ (x.cells.size≠size\/off+x.cells.size>c.size):=by omega
    have hf:=VM (off:=off) x.cells.toList 0 c (by simp only[Array.length_toList]; omega);rw[Nat.add_zero]at hf;rw[<- Array.foldl_toList];simp only[Array.toList_zipIdx];rw[hf];simp[hno',h3]
  ·cases h
theorem aBB(hW:aN n0 G μ H w) {t e:TypeId} {ty:Ty} (hel:IE P t=some (e,ty)) {z:Value} (hz:xW P e=some z) {len:Nat} (h1:len*ty.size<=16777216) {qs:List (Nat×PV)} {vs:Array (Nat×Value)} (hp:aFK w G aI qs vs.toList) {cs:List PV}
  (hf:PE (λi=>some (i*ty.size,ty.size)) (KJ z (len*ty.size)) qs=some cs) {l:List ty.den} (hd:A5 (dec ty) ty.size len cs=some l):yB P n0 w G μ (Instr.buildSlice t len vs) (L4 ty l (some len)) H:=by
 obtain⟨hu,hs⟩:=C1 hel;obtain⟨c',h3,h4⟩:=a0X (w:=w) (G:=G) (μ:=aI) _ qs vs.toList _ cs _ hp (RR z (len*ty.size)) hf;have hzero:∃ i,P.info? e=some i/\i.zero=some z:=by
  unfold xW at hz;split at hz
  ·rename_i i hi; exact⟨i,hi,hz⟩
  ·cases hz
 obtain⟨i,hi,hz'⟩:=hzero;obtain⟨h5,h6⟩:=LB (g:=enc ty) (λcs x vs h hv=>xL ty aI cs x vs h hv) hd h4;obtain⟨e1,e2⟩:=ZS hW (.cells c' e);refine⟨.slice (some ⟨w.heap.size,0,none⟩) len len,w.alloc (.cells c' e),_,_,?_,e1,e2,?_⟩
 ·have hn:¬ (len*ty.size>2^24):=by omega
  have hrow:(Array.range (len*ty.size)).map (λx=>z.cells[x%z.cells.size]!)=madeCells z.cells (len*ty.size):=rfl;have h3':Instr.fill (λi=>some (i*ty.size,ty.size)) (Array.map (λx=>z.cells[x%z.cells.size]!) (Array.range (len*ty.size))) vs.toList=some c':=by rw[hrow]; exact h3
  by_cases h0:len*ty.size=0
  ·have h3'':Instr.fill (λi=>some (i*ty.size,ty.size)) (Array.map (λx=>(#[]:Array Value)[x%0]!) (Array.range (len*ty.size))) vs.toList=some c':=by
    rw[<- h3']; congr 1; rw[h0]; simp[Array.range_zero']
   rw[h0]at h3'';simp[Instr.buildSlice,run_underlying hu,run_sizeOf hs,h0,newRow];simp at h3'';rw[h3''];simp
  ·simp only[Instr.buildSlice,Sem.run_bind,run_underlying hu,Result.andThen_ok,run_sizeOf hs,if_neg hn,if_neg h0];simp only[Sem.run_pure,Result.andThen_ok,Sem.run_bind,zeroValue,yT hi,hz',h3'];simp[newRow]
 ·refine ZV ?_;rw[VR];refine⟨_,_,by rw[h6],by omega,λk hk=>(by cases hk; rfl),?_⟩;refine .inr ⟨w.heap.size,0,rfl,.inr rfl,?_⟩;refine aL.mk λj p hp=>?_
  obtain⟨u,g1,g2⟩:=h5.get hp;refine⟨u,?_,VR.mono e1.toMono.aI p u g2⟩;rw[Nat.zero_add,World.cell?_alloc_new];simpa using g1
theorem yB.trans {s:Sem Value}{v:PV}{H':Heap}{G1:Gd}(e:Ext n0 w G μ w G1 μ)(h:yB P n0 w G1 μ s v H'):yB P n0 w G μ s v H':=by
 obtain⟨v',w',G',μ',h1,h2,h3⟩:=h;exact⟨v',w',G',μ',h1,e.trans h2,h3⟩
theorem aED(hW:aN n0 G μ H w) {sz r:Nat} {q:PV} {H1:Heap} {v:Value} (h:aPE H sz r=some (q,H1)) (hv:VR w G μ (.own r sz) v):∃ G' μ',Ext n0 w G μ w G' μ'/\aN n0 G' μ' H1 w/\VR w G' aI q v:=by
 unfold aPE at h;split at h
 ·rename_i ra k har;split at h
  ·rename_i t l htag;split at h
   ·rename_i kb hkb;split at h
    ·rename_i g hg;split at h
     ·rename_i row hrow;obtain⟨hb,h⟩:=pY h;simp only[oJ,oP]at h;obtain⟨rfl,rfl⟩:=h;simp only[oA,Bool.not_eq_true']at hb;obtain⟨⟨⟨⟨hf,hgr⟩,hty⟩,hm⟩,hsz⟩:=hb;have hm:k.ty≠NJ:=Nat.ne_of_beq_eq_false hm;have hty:=oE hty;have hsz:=oE hsz;obtain⟨gt,gl⟩:=g;obtain⟨rfl,rfl⟩:=qV hrow;simp only at hsz hg ⊢;obtain⟨hr,hkg⟩:=UC har;obtain⟨a1,a2,a3⟩:=hW.rows.arn ra k gt l hr hkg htag;obtain⟨ht1,ht2⟩:=hW.tags r kb _ (aJ hkb) hg
      simp only at ht1 ht2;have hne:r≠ra:=by rintro rfl; rw[aJ hkb]at hr; cases hr; rw[hgr]at hkg; cases hkg
      obtain⟨G',hG'⟩:∃ G':Gd,G'=⟨G.ok,λj=>if j=l.length then μ.loc r else G.row j⟩:=⟨_,rfl⟩;have hrow':∀ j b,G.row j=some b->G'.row j=some b:=λj b hj=>by
       rw[hG'];show (if j=l.length then μ.loc r else G.row j)=some b;rw[if_neg (by rintro rfl; rw[a2 _ (oM _)]at hj; cases hj)];exact hj
      have hrow2:∀ j b,G'.row j=some b->(j=l.length/\μ.loc r=some b)\/(j≠l.length/\G.row j=some b):=λj b hj=>by
       rw[hG']at hj;change (if j=l.length then μ.loc r else G.row j)=some b at hj;split at hj
       ·rename_i h1; exact .inl ⟨h1,hj⟩
       ·rename_i h1; exact .inr ⟨h1,hj⟩
      have hok:∀ b,G'.ok b=G.ok b:=λb=>by rw[hG']
      have e:Ext n0 w G μ w G' (upd μ H.length none (some (l++[gl]).length)):={ FY hW none (some (l++[gl]).length)with
       good:=λb hb=>⟨by rw[hok]; exact hb,rfl⟩
       row:=hrow'
       new:=λb hb=>.inl (by rw[<- hok]; exact hb) }
      have hnewblk:(H.set r none |>.set ra none).length=H.length:=by simp
      have key:∀ (s:Nat) (k1:Blk),(((H.set r none).set ra none)++[some ⟨aG (.rows gt) (l++[gl]),k.ty,false,k.frozen,some ⟨.rows gt,l++[gl]⟩⟩])[s]?=some (some k1) ->
        (s=H.length/\k1=⟨aG (.rows gt) (l++[gl]),k.ty,false,k.frozen,some ⟨.rows gt,l++[gl]⟩⟩)\/(s<H.length/\s≠r/\s≠ra/\H[s]?=some (some k1)):=by
       intro s k1 hs;rcases PB s k1 hs with ⟨h1,h2⟩|⟨h1,h2⟩
       ·exact .inl ⟨by rw[h1,hnewblk],h2⟩
       ·obtain⟨h3,h4⟩:=qH h2;obtain⟨h5,h6⟩:=qH h3;exact .inr ⟨by rw[hnewblk]at h1; exact h1,h6,h4,h5⟩
      have hloc:∀ b,μ.loc r=some b->b<w.heap.size/\n0 b/\¬ G b:=λb hb=>by
       obtain⟨c,q1,_,_,_,q2⟩:=hW.blk r kb b (aJ hkb) hb;exact⟨fL q1,(q2 hf).1,(q2 hf).2⟩
      refine⟨G',_,e,⟨?_,?_,?_,hW.lt.step (λb hb=>⟨by rw[hok]; exact hb,rfl⟩) λb hb=>hW.lt b (by rw[<- hok]; exact hb),?_,hW.base,?_,?_,?_,?_,?_⟩,?_⟩
      ·intro s k1 b hs hb;rcases key s k1 hs with ⟨rfl,rfl⟩|⟨h1,h2,h3,h4⟩
       ·rw[gK]at hb; cases hb
       ·rw[(tH (by omega)).1]at hb;obtain⟨c,q1,q2,q3,q4,q5⟩:=hW.blk s k1 b h4 hb;exact⟨c,q1,aL.mono e.toMono rfl 0 _ q2,q3,λhf=>by rw[hok]; exact q4 hf,λhf=>by rw[hok]; exact q5 hf⟩
      ·intro s k1 g1 hs hg1;rcases key s k1 hs with ⟨rfl,rfl⟩|⟨h1,h2,h3,h4⟩
       ·cases hg1;exact⟨rfl,qC _ _ _ _⟩
       ·rw[(tH (by omega)).2];exact hW.tags s k1 g1 h4 hg1
      ·intro x1 x2 k1 k2 b h1 h2 f1 f2 m1 m2;rcases key x1 k1 h1 with ⟨rfl,rfl⟩|⟨p1,p2,p3,p4⟩
       ·rw[gK]at m1; cases m1
       ·rcases key x2 k2 h2 with ⟨rfl,rfl⟩|⟨q1,q2,q3,q4⟩
        ·rw[gK]at m2; cases m2
        ·rw[(tH (by omega)).1]at m1 m2;exact hW.inj x1 x2 k1 k2 b p4 q4 f1 f2 m1 m2
      ·intro s hs;rw[oH,hnewblk]at hs;simp only[List.length_cons,List.length_nil]at hs;rw[(tH (by omega)).1,(tH (by omega)).2];exact hW.top s (by omega)
      ·intro i j b hi hj;rcases hrow2 i b hi with ⟨i1,i2⟩|⟨i1,i2⟩ <;> rcases hrow2 j b hj with ⟨j1,j2⟩|⟨j1,j2⟩
       ·rw[i1,j1]
       ·exact absurd i2 ((hW.rows.sep j b j2).2.2.2 r kb (aJ hkb) hf)
       ·exact absurd j2 ((hW.rows.sep i b i2).2.2.2 r kb (aJ hkb) hf)
       ·exact hW.rows.inj i j b i2 j2
      ·intro j b hj;have hsep:b<w.heap.size/\n0 b/\¬ G b/\∀ s k1,s≠r->H[s]?=some (some k1)->k1.frozen=false->μ.loc s≠some b:=by
        rcases hrow2 j b hj with ⟨j1,j2⟩|⟨j1,j2⟩
        ·obtain⟨b1,b2,b3⟩:=hloc b j2;exact⟨b1,b2,b3,λs k1 hs h1 h2 h3=>hs (hW.inj s r k1 kb b h1 (aJ hkb) h2 hf h3 j2)⟩
        ·obtain⟨b1,b2,b3,b4⟩:=hW.rows.sep j b j2;exact⟨b1,b2,b3,λs k1 _ h1 h2=>b4 s k1 h1 h2⟩
       refine⟨hsep.1,hsep.2.1,by rw[hok]; exact hsep.2.2.1,λs k1 hs hf1 hl=>?_⟩;rcases key s k1 hs with ⟨rfl,rfl⟩|⟨h1,h2,h3,h4⟩
       ·rw[gK]at hl; cases hl
       ·rw[(tH (by omega)).1]at hl;exact hsep.2.2.2 s k1 h2 h4 hf1 hl
      ·intro j b hj;rcases hrow2 j b hj with ⟨j1,j2⟩|⟨j1,j2⟩
       ·obtain⟨c,q1,_⟩:=hW.blk r kb b (aJ hkb) j2;exact .inl ⟨_,_,_,q1⟩
       ·exact hW.rows.cel j b j2
      ·intro s k1 t1 l1 hs hg1 ht1';rcases key s k1 hs with ⟨rfl,rfl⟩|⟨h1,h2,h3,h4⟩
       ·cases ht1';refine⟨gK _ _ _ _,λj hj=>?_,λj row hj=>?_⟩
        ·rw[oH]at hj;simp only[List.length_cons,List.length_nil]at hj;rw[hG'];show (if j=l.length then μ.loc r else G.row j)=none;rw[if_neg (by omega)];exact a2 j (by omega)
        ·rcases oG j l.length with hlt|hge
         ·rw[List.getElem?_append_left hlt]at hj;rcases a3 j row hj with h0|⟨b,q1,q2⟩
          ·exact .inl h0
          ·exact .inr ⟨b,hrow' j b q1,q2.mono e.toMono.aI rfl⟩
         ·have hjl:j=l.length:=by
           have:=(oO.1 hj).1;simp only[oH,List.length_cons,List.length_nil]at this;omega
          subst hjl;rw[List.getElem?_append_right (oM _),Nat.sub_self]at hj;simp only[List.getElem?_cons_zero,oJ]at hj;subst hj;cases hl:μ.loc r with
          | none =>
           left;refine⟨?_,hm⟩;rw[VR]at hv;obtain⟨n,n1,n2⟩:=hv;rw[ht2]at n1; cases n1;rcases n2 with ⟨n2,_⟩|⟨b,c,n3,_⟩
           ·exact List.eq_nil_of_length_eq_zero n2
           ·rw[hl]at n3; cases n3
          | some b =>
           right;obtain⟨c,q1,q2,_⟩:=hW.blk r kb b (aJ hkb) hl;rw[ht1]at q2;refine⟨b,by rw[hG']; show (if l.length=l.length then μ.loc r else _)=some b; rw[if_pos rfl]; exact hl,.inl ⟨hm,c,by rw[hty]at q1; exact q1,?_⟩⟩;obtain⟨us,u1,u2⟩:=q2.values;exact aL.nJ (dB _ _ (jL _ _) (VRs.mono e.toMono _ _ u1)) u2
       ·exact absurd (hW.rows.one s ra k1 k t1 l1 gt l h4 hg1 ht1' hr hkg htag) h3
      ·intro x1 x2 k1 k2 t1 l1 t2 l2 h1 g1 q1 h2 g2 q2;have old:∀ (s:Nat) (k1:Blk) (t1:Ty) (l1:List (List t1.den)),(((H.set r none).set ra none)++[some ⟨aG (.rows gt) (l++[gl]),k.ty,false,k.frozen,some ⟨.rows gt,l++[gl]⟩⟩])[s]?=some (some k1)->k1.grown=false->k1.tag=some ⟨.rows t1,l1⟩->s=H.length:=by
        intro s k1 t1 l1 h1 g1 q1;rcases key s k1 h1 with ⟨rfl,_⟩|⟨_,_,h3,h4⟩
        ·rfl
        ·exact absurd (hW.rows.one s ra k1 k t1 l1 gt l h4 g1 q1 hr hkg htag) h3
       rw[old x1 k1 t1 l1 h1 g1 q1,old x2 k2 t2 l2 h2 g2 q2]
      ·rw[VR]at hv;rw[VR.eq_def];simp only;obtain⟨n,n1,n2⟩:=hv;rw[ht2]at n1; cases n1;rcases n2 with ⟨n2,ao,rfl⟩|⟨b,c,n3,rfl,n5,n6⟩
       ·exact⟨ao,0,by rw[n2],by omega,.inl n2⟩
       ·refine⟨_,c,rfl,n5,.inr ⟨b,?_,by rw[Nat.zero_mul],by rw[Nat.zero_add]; exact n6⟩⟩;rw[hG'];show (if l.length=l.length then μ.loc r else _)=some b;rw[if_pos rfl]; exact n3
     ·cases h
    ·cases h
   ·cases h
  ·cases h
 ·cases h
theorem aU5(hW:aN n0 G μ H w) {s:Nat} {k:Blk} {t:Ty} {l:List (List t.den)} (hs:H[s]?=some (some k)) (hg:k.grown=false) (ht:k.tag=some ⟨.rows t,l⟩) :
  Ext n0 w G μ w G (upd μ H.length none (some l.length))/\aN n0 G (upd μ H.length none (some l.length)) (H.set s none++[some k]) w:=by
 have hk:=vV hW s;have hlen:(H.set s none).length=H.length:=by simp
 have e:=FY hW none (some l.length);have e2:Ext n0 w G μ w G (upd μ (H.set s none).length none (some l.length)):=by rw[hlen]; exact e
 refine⟨e,?_⟩;obtain⟨a1,_⟩:=hW.rows.arn s k t l hs hg ht;have:=HF hk e2 k (λ_ _ _ _ _=>rfl) (λb hb=>by cases hb) (λg hg'=>by rw[ht]at hg'; cases hg'; exact⟨(hW.tags s k _ hs ht).1,rfl⟩) (λr k' b _ _ _ hh=>by cases hh)
  (hW.rows.rel (λr r'=>(r=H.length/\r'=s)\/(r<H.length/\r≠s/\r'=r)) (λr r2 q h1 h2=>by
   rcases h1 with ⟨h1,h3⟩|⟨h1,h3,h4⟩ <;> rcases h2 with ⟨h2,h5⟩|⟨h2,h5,h6⟩
   ·rw[h1,h2]
   ·exact absurd (h6.symm.trans h3) h5
   ·exact absurd (h4.symm.trans h5) h3
   ·exact h4.symm.trans h6) (λr k' hr=>by
   rcases PB r k' hr with ⟨h1,rfl⟩|⟨h1,h2⟩
   ·rw[hlen]at h1;exact⟨s,k',.inl ⟨h1,rfl⟩,hs,rfl,rfl,rfl,rfl,by rw[h1,<- hlen,gK,a1]⟩
   ·obtain⟨h3,h4⟩:=qH h2;rw[hlen]at h1;exact⟨r,k',.inr ⟨h1,h4,rfl⟩,h3,rfl,rfl,rfl,rfl,(tH (by rw[hlen]; omega)).1⟩))
 rwa[hlen]at this
theorem aDK(hW:aN n0 G μ H w)(hF:fQ w G μ nt F a){t:TypeId}{len:Nat}{parts:Array (Nat×Operand)}{v:PV}{cs:List Bool}{H':Heap}{c:Nat}(h:zW P F H t len parts.toList=some (cs,v,H',c)) :
  yB P n0 w G μ (Instr.buildSlice t len (parts.map λ(i,x)=>(i,a.eval x))) v H':=by
 unfold zW at h;split at h
 ·rename_i e ty hel;split at h
  ·rename_i z hz;cases hb:(Nat.ble (len*ty.size) 16777216&&Nat.ble 1 z.cells.size)with
   | false=>rw[hb]at h; cases h
   | true =>
    rw[hb]at h;simp only[oC]at h;simp only[oA]at hb;have hb1:=oL hb.1;split at h
    ·rename_i r sz had;split at h
     ·rename_i q H1 hq;split at h
      ·rename_i cs' hf;split at h
       ·rename_i l hd;simp only[oJ,oP]at h;obtain⟨rfl,rfl,rfl,rfl⟩:=h;obtain⟨x,hpl,hx⟩:∃ x,parts.toList=[(0,x)]/\ev F x=.own r sz:=by
         unfold aEM at had;split at had
         ·split at had
          ·rename_i x hpl;split at had
           ·rename_i r' s' hx;obtain⟨hc,had⟩:=pY had;simp only[oJ,oP]at had;obtain⟨rfl,rfl⟩:=had;simp only[oA]at hc;exact⟨x,hpl,by rw[hx,oE hc.2]⟩
           ·cases had
          ·cases had
         ·cases had
        have hv:=cQ hF x;rw[hx]at hv;obtain⟨G1,μ1,e1,hW1,hq1⟩:=aED hW hq hv;obtain⟨v',w',G2,μ2,z1,z2,z3⟩:=aBB hW1 hel hz hb1 (qs:=[(0,q)]) (vs:=parts.map λ(i,x)=>(i,a.eval x)) (by
         rw[Array.toList_map,hpl];exact⟨_,_,rfl,hq1,rfl⟩) hf hd
        exact⟨v',w',G2,μ2,z1,e1.trans z2,z3⟩
       ·cases h
      ·cases h
     ·cases h
    split at h
    ·rename_i how;split at h
     ·rename_i ps hps;split at h
      ·rename_i cs' hf;split at h
       ·rename_i l hd;simp only[oJ,oP]at h;obtain⟨rfl,rfl,rfl,rfl⟩:=h;rw[<- aI7 (H1:=H) _ how]at hps;exact aBB hW hel hz hb1 (by rw[TC]; exact aH9 hW a.eval _ _ (cQ hF) hps) hf hd
       ·cases h
      ·cases h
     ·cases h
    ·rename_i r rs how;split at h
     ·rename_i ps hps;split at h
      ·rename_i cs' hf;split at h
       ·rename_i l hd;simp only[oJ,oP]at h;obtain⟨rfl,rfl,rfl,rfl⟩:=h;obtain⟨G1,e1,hW1⟩:=MQ (r::rs) H G hW;exact(aBB hW1 hel hz hb1 (by rw[TC]; exact aH9 hW1 a.eval _ _ (λx=>VR.mono e1.toMono _ _ (cQ hF x)) hps) hf hd).trans e1
       ·cases h
      ·cases h
     ·cases h
  ·cases h
 ·cases h
theorem C2(z:Array Value):∀ n:Nat,(madeCells z (n*z.size)).toList=(List.replicate n z.toList).flatten
 | 0=>by simp[madeCells,Array.range_zero']
 | n+1=>by
  have ih:=C2 z n;rw[List.replicate_succ',List.flatten_append,<- ih];apply List.ext_getElem
  ·simp[madeCells,Nat.add_mul]
  ·intro i h1 h2;simp only[madeCells,Array.toList_map,Array.toList_range,List.getElem_map,List.getElem_range];simp only[madeCells,Array.toList_map,Array.toList_range,List.length_map,List.length_range,Nat.add_mul,Nat.one_mul]at h1
   by_cases hi:i<n*z.size
   ·rw[List.getElem_append_left (by simpa using hi)];simp
   ·rw[List.getElem_append_right (by simpa using hi)];have hlt:i-n*z.size<z.size:=by omega
    have hmod:i%z.size=i-n*z.size:=by
     have:i=(i-n*z.size)+z.size*n:=by rw[Nat.mul_comm z.size n]; omega
     rw[this,Nat.add_mul_mod_self_left,Nat.mod_eq_of_lt hlt];rw[Nat.mul_comm z.size n]; omega
    simp[hmod,hlt]
theorem xG {ty:Ty}{d:ty.den}{zs:List Value}(h:VRs w G aI (enc ty d) zs):∀ n:Nat,VRs w G aI (aG ty (List.replicate n d)) (List.replicate n zs).flatten
 | 0=>by simp[aG,VRs]
 | n+1=>by
  rw[List.replicate_succ,List.replicate_succ,lZ,List.flatten_cons];exact h.append (xG h n)
theorem aE4(hW:aN n0 G μ H w){t:TypeId}{p q v:PV}{x y:Value}{cs:List Bool}{H':Heap}{c:Nat}(hp:VR w G μ p x)(hq:VR w G μ q y)(h:PX P H t p q=some (cs,v,H',c))(hcs:CF cs=true) :
  c=2/\yB P n0 w G μ (Instr.makeSlice t x y) v H':=by
 unfold PX at h;split at h
 ·rename_i e ty kl l kc cc hel;rw[VR]at hp hq;subst hp; subst hq;obtain⟨hu,hs⟩:=C1 hel;split at h
  ·rename_i i hi;have hsz:=PO hs hi;split at h
   ·rename_i z hz;split at h
    ·rename_i d hd;cases hb:(Nat.ble i.bytes 65536&&Nat.beq z.cells.size i.size)with
     | false=>rw[hb]at h; cases h
     | true =>
      rw[hb]at h;simp only[oC,oJ,oP]at h;obtain⟨rfl,rfl,rfl,rfl⟩:=h;refine⟨rfl,?_⟩;simp only[oA]at hb;have hb1:=oL hb.1;have hb2:=oE hb.2;obtain⟨c1,hcs⟩:=aP hcs;obtain⟨c2,hcs⟩:=aP hcs;obtain⟨c3,_⟩:=aP hcs;rw[aE,Bool.not_eq_true',decide_eq_false_iff_not]at c1 c2 c3;have hbytes:(i.bytes:Int)*cc<=281474976710656:=by
       have:(i.bytes:Int)*cc<=65536*1048576:=Int.mul_le_mul (by omega) (by omega) (by omega) (by omega);omega
      have hr:=run_make (P:=P) w t e i z hu hi hz kl kc l cc (by omega) (by omega) hbytes (by omega);have hdz:VRs w G aI (enc ty d) z.cells.toList:=xL ty aI _ d _ hd (yK _);have hrep:=xG hdz l.toNat;have hmade:(madeCells z.cells (cc.toNat*i.size)).toList=(List.replicate cc.toNat z.cells.toList).flatten:=by rw[<- hb2]; exact C2 z.cells cc.toNat
      have hsplit:(List.replicate cc.toNat z.cells.toList).flatten=(List.replicate l.toNat z.cells.toList).flatten++(List.replicate (cc.toNat-l.toNat) z.cells.toList).flatten:=by
       rw[<- List.flatten_append,List.replicate_append_replicate]
       congr 2; omega
      have hk:=DX (on:=some l.toNat) hW (madeCells z.cells (cc.toNat*i.size)) ⟨aG ty (List.replicate l.toNat d),e,true,false,some ⟨ty,List.replicate l.toNat d⟩⟩ (λj p hp=>by
       obtain⟨u,g1,g2⟩:=hrep.get hp;refine⟨u,?_,g2.aY⟩;rw[<- Array.getElem?_toList,hmade,hsplit,List.getElem?_append_left (oO.1 g1).1];exact g1) (λh=>by cases h) rfl (λg hg=>by cases hg; exact⟨rfl,by simp⟩)
      refine⟨_,_,G,_,hr,BQ hW _ _ _,hk,?_⟩;rw[VR];refine⟨l.toNat,qC _ _ _ _,.inr ⟨w.heap.size,cc.toNat,gK _ _ _ _,rfl,by omega,madeCells z.cells (cc.toNat*i.size),e,(0,0),?_,?_⟩⟩
      ·show (w.heap.push _)[w.heap.size]?=_;simp
      ·simp[madeCells,hsz]
    ·cases h
   ·cases h
  ·cases h
 ·cases h
theorem aUM {e:TypeId}{z:Value}(hz:xW P e=some z)(w:World):(zeroValue e).run P w=.ok z w:=by
 unfold xW at hz;split at hz
 ·rename_i i hi;simp[zeroValue,yT hi,hz]
 ·cases hz
theorem QF(z:Array Value)(n:Nat):(Builtin.zeroCells z n).toList=(List.replicate n z.toList).flatten:=C2 z n
theorem aP8(hW:aN n0 G μ H w){tys:Array TypeId}{ty:TypeId}{p v:PV}{x:Value}{cs:List Bool}{H':Heap}{c:Nat}(hp:VR w G μ p x)(h:aIS P H tys p=some (cs,v,H',c))(hcs:CF cs=true):yB P n0 w G μ (Builtin.clear_ tys ty #[x]) v H':=by
 unfold aIS at h;split at h
 ·rename_i t ts ht;have ht':tys[0]?=some t:=by rw[<- Array.getElem?_toList,ht]; rfl
  split at h
  ·rename_i e ety hel;obtain⟨hu,hse⟩:=C1 hel;split at h
   ·rename_i z hz;split at h
    ·rename_i r lo n sz;split at h
     ·rename_i k hk;split at h
      ·rename_i g hg;split at h
       ·rename_i d hd;obtain⟨hb,h⟩:=pY h;simp only[oJ,oP]at h;obtain⟨rfl,rfl,rfl,rfl⟩:=h;simp only[oA,Bool.not_eq_true']at hb;obtain⟨⟨⟨b1,b2⟩,hf⟩,hok⟩:=hb;have b1:=oE b1;have b2:=oE b2;subst b1;have hle:=oL (aP hcs).1;obtain⟨ht1,ht2⟩:=hW.tags r k g (aJ hk) hg;rw[VR]at hp;obtain⟨b,cc,_,hloc,rfl,h5,h6,_⟩:=hp;have htu:VR w G μ (.tuple []) (.tuple #[]):=by rw[VR]; exact⟨#[],rfl,by rw[VRs]⟩
        have q2:(#[Value.slice (some ⟨b,lo*g.t.size,none⟩) n cc]:Array Value)[0]?=some (Value.slice (some ⟨b,lo*g.t.size,none⟩) n cc):=rfl;obtain⟨C,g2,g3,g4,g5,g6⟩:=hW.blk r k b (aJ hk) hloc;rw[ht1]at g3;obtain⟨i1,i2⟩:=zU g2 g3;have hlen:=aZ g.t g.l;have hdz:VRs w G aI (enc g.t d) z.cells.toList:=xL g.t aI _ d _ hd (yK _);have hrep:=xG hdz n;have hone:∀ v∈(List.replicate n z.cells.toList).flatten,v.oneCell'=true:=by
         intro v hv;obtain⟨l,h1,h2⟩:=List.mem_flatten.1 hv;rw[List.mem_replicate]at h1;rw[h1.2]at h2;exact G8 hok (yK (w:=w) (G:=G) (μ:=μ) _) v h2
        have hrl:((List.replicate n z.cells.toList).flatten).length=n*g.t.size:=by rw[<- hrep.length,aZ,List.length_replicate]
        have hmul:(lo+n)*g.t.size<=g.l.length*g.t.size:=Nat.mul_le_mul_right _ hle;rw[Nat.add_mul]at hmul;obtain⟨w',h1,h2⟩:=pM (P:=P) (off:=lo*g.t.size) (List.replicate n z.cells.toList).flatten 0 w C hone g2 (by omega);rw[Nat.add_zero]at h2;have hsz:(fE C (lo*g.t.size) (List.replicate n z.cells.toList).flatten).size=C.size:=wP (by omega);have e1:=AB hW (aJ hk) hf hloc g2 h2 hsz;have hclr:(clr g.l lo n d).length=g.l.length:=by simp only[clr,oH,List.length_take,List.length_replicate,List.length_drop]; omega
        have e2:aN n0 G μ (H.set r (some { k with cells:=aG g.t (clr g.l lo n d),tag:=some ⟨g.t,clr g.l lo n d⟩ })) w':=by
         refine D5 (k':={ k with cells:=aG g.t (clr g.l lo n d),tag:=some ⟨g.t,clr g.l lo n d⟩ }) hW (aJ hk) hf hloc g2 h2 hsz hf ?_ ?_ ?_ (λt1 l1 q1 q2=>by obtain⟨gt,gl⟩:=g; simp only[oJ,Tg.mk.injEq]at q2; obtain⟨rfl,_⟩:=q2; exact⟨gl,q1,hg⟩)
         ·refine rW (n:=g.l.length*g.t.size) h2.at_ (VRs.mono e1.toMono _ _ ?_);have hspl:(fE C (lo*g.t.size) (List.replicate n z.cells.toList).flatten).toList.take (g.l.length*g.t.size)=(C.toList.take (aG g.t g.l).length).take (lo*g.t.size)++((List.replicate n z.cells.toList).flatten++(C.toList.take (aG g.t g.l).length).drop (lo*g.t.size+n*g.t.size)):=by
           simp only[fE,hlen];rw[List.take_append,List.take_append,List.take_take,List.take_of_length_le (l:=(List.replicate n z.cells.toList).flatten) (by simp only[List.length_take,Array.length_toList]; omega),List.drop_take,List.take_take,Nat.min_comm (lo*g.t.size),List.append_assoc,hrl]
           congr 3
           simp only[oH,List.length_take,Array.length_toList,hrl]; omega
          rw[hspl];unfold clr;rw[lG,lG,<- tR,<- wC];refine(i1.take _).append ((VRs.aY hrep).append ?_);have:=i1.drop ((lo+n)*g.t.size);rw[Nat.add_mul]at this ⊢;exact this
         ·intro hgr;rw[hsz,g4 hgr,ht1,aZ,aZ,hclr]
         ·intro g' hg';cases hg';exact⟨rfl,by rw[hclr]; exact ht2⟩
        cases n with
        | zero =>
         have hw:w'=w:=by
          have:(List.replicate 0 z.cells.toList).flatten=[]:=rfl;rw[this]at h1;simp only[storeCells,Sem.run_pure,Result.ok.injEq,true_and]at h1;exact h1.symm
         subst hw;refine .put (v':=.tuple #[]) (w':=w') ?_ e1 e2 htu;unfold Builtin.clear_;simp only[ht',q2,Sem.run_bind,run_underlying hu,Result.andThen_ok,Sem.run_pure]
        | succ n =>
         refine .put (v':=.tuple #[]) (w':=w') ?_ e1 e2 (VR.mono e1.toMono _ _ htu);unfold Builtin.clear_;simp only[ht',q2,Sem.run_bind,run_underlying hu,Result.andThen_ok,aUM hz,QF,h1,Sem.run_pure]
       ·cases h
      ·cases h
     ·cases h
    ·cases h
   ·cases h
  ·cases h
 ·cases h
theorem OS {r:Option (List Bool×Value)}{cs:List Bool}{v:PV}{H':Heap}{c:Nat}(h:aR7 H r=some (cs,v,H',c)):H'=H/\c=0/\∃ u,r=some (cs,u)/\v=.lit u:=by
 unfold aR7 at h;split at h
 ·simp only[oJ,oP]at h;obtain⟨rfl,rfl,rfl,rfl⟩:=h;exact⟨rfl,rfl,_,rfl,rfl⟩
 ·cases h
theorem aUX {t:TypeId}{p q:PV}{x y:Value}{cs:List Bool}{u:Value}(hp:VR w G μ p x)(hq:VR w G μ q y)(h:a5W P t p q=some (cs,u))(hcs:CF cs=true)(w1:World):(Instr.index t x y).run P w1=.ok u w1:=by
 unfold a5W at h;split at h
 ·rename_i s k i hu;simp only[oJ,oP]at h;obtain⟨rfl,rfl⟩:=h;rw[VR]at hp hq;subst hp; subst hq;have h1:=(aP hcs).1;replace h1:=zJ h1;have h2:i.toNat<s.size:=by omega
  simp[Instr.index,asIntOf,run_underlying hu,h1.1,h2,aLV]
 ·cases h
theorem aNW {F:Frm}{a:Act}{nt:Nat}(hF:fQ w G μ nt F a){t:TypeId}{p:PV}{x:Value}{lo hi:Option Operand}{cs:List Bool}{u:Value}(hp:VR w G μ p x)(h:aT7 P t p (lo.map (ev F)) (hi.map (ev F))=some (cs,u))(hcs:CF cs=true)(w1:World) :
  (Instr.sliceAt t x (lo.map a.eval) (hi.map a.eval) none).run P w1=.ok u w1:=by
 unfold aT7 at h;split at h
 ·rename_i s hu;split at h
  ·rename_i b1 i b2 j h1 h2;simp only[oJ,oP]at h;obtain⟨rfl,rfl⟩:=h;rw[VR]at hp;subst hp;obtain⟨c1,hcs⟩:=aP hcs;obtain⟨c2,hcs⟩:=aP hcs;obtain⟨c3,hcs⟩:=aP hcs;obtain⟨c4,_⟩:=aP hcs;have hr:=vX (P:=P) (isSlice:=false) (MW hF (BL h1 c1)) (MW hF (BL h2 c2)) (oL c3) (oL c4) w1;simp[Instr.sliceAt,Instr.slice,run_underlying hu,hr]
  ·cases h
 ·cases h
theorem aUS {op:BinOp}{t:TypeId}{p q:PV}{x y:Value}{ox oy:Operand}{cs:List Bool}{u:Value}(hp:VR w G μ p x)(hq:VR w G μ q y)(h:a5R op p q=some (cs,u))(hcs:CF cs=true)(w1:World) :
  (do eqGuard op t ox oy x y; binOp op t x y:Sem Value).run P w1=.ok u w1:=by
 unfold a5R at h;split at h
 ·rename_i a b;rw[VR]at hp hq;subst hp; subst hq;have hg:(eqGuard op t ox oy (.string a) (.string b)).run P w1=.ok () w1:=by cases op <;> simp[eqGuard]
  have hb:(binOp op t (.string a) (.string b)).run P w1=.ok u w1:=by
   unfold a6I at h;split at h
   ·simp only[oJ,oP]at h;obtain⟨rfl,rfl⟩:=h;have h1:=oL (aP hcs).1;have h2:¬ ((a.size+b.size:Nat):Int)>IntKind.i64.max:=by
     show ¬ ((a.size+b.size:Nat):Int)>9223372036854775807;omega
    simp only[binOp,Op.stringOp,h2,if_false,Sem.run_pure]
   all_goals first
    | (simp only[oJ,oP]at h
       obtain⟨rfl,rfl⟩:=h;simp[binOp,Op.stringOp,eqS,ltS,ByteArray.toList_eq])
    | cases h
  simp only[Sem.run_bind,hg,Result.andThen_ok,hb]
 ·cases h
end
variable {P:Program} {n0:Nat->Prop} {w:World} {G:Gd} {μ:Mp} {H:Heap}
theorem aMQ {α:Type}{b:Bool}{x:Option α}{y:α}(h:(bif b then x else none)=some y):b=true/\x=some y:=by
 cases b with
 | true=>exact⟨rfl,h⟩
 | false=>cases h
theorem YG(hW:aN n0 G μ H w) (o:Obj):Ext n0 w G μ (w.alloc o) G μ/\aN n0 G μ H (w.alloc o):=by
 have e:Ext n0 w G μ (w.alloc o) G μ:={
  good:=λb hb=>⟨hb,Below.heap_alloc _ _ _ (hW.lt b hb)⟩
  map:=λ_ _ h=>h
  len:=λ_ _ h=>h
  room:=λc n hc=>by
   obtain⟨cs,t,fr,h1,h2⟩:=hc;exact⟨cs,t,fr,by rw[Below.heap_alloc _ _ _ (fL h1)]; exact h1,h2⟩
  row:=λ_ _ h=>h
  os:=rfl
  tape:=rfl
  output:=rfl
  size:=by simp
  old:=λc hc _=>Below.heap_alloc _ _ _ hc
  new:=λc hc=>.inl hc }
 refine⟨e,⟨λr k b hr hb=>?_,hW.tags,hW.inj,hW.lt.step e.good λb hb=>Nat.lt_of_lt_of_le (hW.lt b hb) e.size,hW.top,λb hb=>hW.base b (oR e.size hb),?_⟩⟩
 ·obtain⟨c,h1,h2,h3,h4⟩:=hW.blk r k b hr hb;have e1:(w.alloc o).heap[b]?=w.heap[b]?:=Below.heap_alloc _ _ _ (fL h1);exact⟨c,e1.trans h1,aL.mono e.toMono e1 0 _ h2,h3,h4⟩
 ·exact hW.rows.step e.toMono.aI e.size (λ_=>rfl) (λj b hj=>⟨Below.heap_alloc _ _ _ (hW.rows.sep j b hj).1,id,λr k h1 h2 h3=>⟨r,k,h1,h2,h3⟩⟩) (λr k _ _ h1 _ _=>⟨k,h1,rfl,rfl,rfl,rfl⟩)
theorem a2G(hW:aN n0 G μ H w) {ra:Nat} {k:Blk} {gt:Ty} {l:List (List gt.den)} (hr:H[ra]?=some (some k)) (hkg:k.grown=false) (htag:k.tag=some ⟨.rows gt,l⟩) {b0:Nat} {row0:List gt.den}
  (hlt:b0<w.heap.size) (hn:n0 b0) (hG:¬ G b0) (hloc:∀ s k1,H[s]?=some (some k1)->k1.frozen=false->μ.loc s≠some b0) (hfresh:∀ j,G.row j≠some b0)
  (hcel:(∃ c t fr,w.heap[b0]?=some (.cells c t fr))\/∃ es clk,w.heap[b0]?=some (.map es clk)) (hat:∀ G':Gd,aF6 w G' k.ty b0 (aG gt row0)) :
  ∃ G' μ',Ext n0 w G μ w G' μ'/\aN n0 G' μ' ((H.set ra none)++[some ⟨aG (.rows gt) (l++[row0]),k.ty,false,k.frozen,some ⟨.rows gt,l++[row0]⟩⟩]) w/\G'.row l.length=some b0:=by
 obtain⟨a1,a2,a3⟩:=hW.rows.arn ra k gt l hr hkg htag;obtain⟨G',hG'⟩:∃ G':Gd,G'=⟨G.ok,λj=>if j=l.length then some b0 else G.row j⟩:=⟨_,rfl⟩;have hrow':∀ j b,G.row j=some b->G'.row j=some b:=λj b hj=>by
  rw[hG'];show (if j=l.length then some b0 else G.row j)=some b;rw[if_neg (by rintro rfl; rw[a2 _ (oM _)]at hj; cases hj)];exact hj
 have hrow2:∀ j b,G'.row j=some b->(j=l.length/\b=b0)\/(j≠l.length/\G.row j=some b):=λj b hj=>by
  rw[hG']at hj;change (if j=l.length then some b0 else G.row j)=some b at hj;split at hj
  ·rename_i h1; exact .inl ⟨h1,(oB hj).symm⟩
  ·rename_i h1; exact .inr ⟨h1,hj⟩
 have hok:∀ b,G'.ok b=G.ok b:=λb=>by rw[hG']
 have e:Ext n0 w G μ w G' (upd μ H.length none (some (l++[row0]).length)):={ FY hW none (some (l++[row0]).length)with
  good:=λb hb=>⟨by rw[hok]; exact hb,rfl⟩
  row:=hrow'
  new:=λb hb=>.inl (by rw[<- hok]; exact hb) }
 have hnewblk:(H.set ra none).length=H.length:=by simp
 have key:∀ (s:Nat) (k1:Blk),((H.set ra none)++[some ⟨aG (.rows gt) (l++[row0]),k.ty,false,k.frozen,some ⟨.rows gt,l++[row0]⟩⟩])[s]?=some (some k1) ->
   (s=H.length/\k1=⟨aG (.rows gt) (l++[row0]),k.ty,false,k.frozen,some ⟨.rows gt,l++[row0]⟩⟩)\/(s<H.length/\s≠ra/\H[s]?=some (some k1)):=by
  intro s k1 hs;rcases PB s k1 hs with ⟨h1,h2⟩|⟨h1,h2⟩
  ·exact .inl ⟨by rw[h1,hnewblk],h2⟩
  ·obtain⟨h3,h4⟩:=qH h2;exact .inr ⟨by rw[hnewblk]at h1; exact h1,h4,h3⟩
 refine⟨G',_,e,⟨?_,?_,?_,hW.lt.step (λb hb=>⟨by rw[hok]; exact hb,rfl⟩) λb hb=>hW.lt b (by rw[<- hok]; exact hb),?_,hW.base,?_,?_,?_,?_,?_⟩,by rw[hG']; exact if_pos rfl⟩
 ·intro s k1 b hs hb;rcases key s k1 hs with ⟨rfl,rfl⟩|⟨h1,h2,h4⟩
  ·rw[gK]at hb; cases hb
  ·rw[(tH (by omega)).1]at hb;obtain⟨c,q1,q2,q3,q4,q5⟩:=hW.blk s k1 b h4 hb;exact⟨c,q1,aL.mono e.toMono rfl 0 _ q2,q3,λhf=>by rw[hok]; exact q4 hf,λhf=>by rw[hok]; exact q5 hf⟩
 ·intro s k1 g1 hs hg1;rcases key s k1 hs with ⟨rfl,rfl⟩|⟨h1,h2,h4⟩
  ·cases hg1;exact⟨rfl,qC _ _ _ _⟩
  ·rw[(tH (by omega)).2];exact hW.tags s k1 g1 h4 hg1
 ·intro x1 x2 k1 k2 b h1 h2 f1 f2 m1 m2;rcases key x1 k1 h1 with ⟨rfl,rfl⟩|⟨p1,p2,p4⟩
  ·rw[gK]at m1; cases m1
  ·rcases key x2 k2 h2 with ⟨rfl,rfl⟩|⟨q1,q2,q4⟩
   ·rw[gK]at m2; cases m2
   ·rw[(tH (by omega)).1]at m1 m2;exact hW.inj x1 x2 k1 k2 b p4 q4 f1 f2 m1 m2
 ·intro s hs;rw[oH,hnewblk]at hs;simp only[List.length_cons,List.length_nil]at hs;rw[(tH (by omega)).1,(tH (by omega)).2];exact hW.top s (by omega)
 ·intro i j b hi hj;rcases hrow2 i b hi with ⟨i1,i2⟩|⟨i1,i2⟩ <;> rcases hrow2 j b hj with ⟨j1,j2⟩|⟨j1,j2⟩
  ·rw[i1,j1]
  ·subst i2; exact absurd j2 (hfresh j)
  ·subst j2; exact absurd i2 (hfresh i)
  ·exact hW.rows.inj i j b i2 j2
 ·intro j b hj;have hsep:b<w.heap.size/\n0 b/\¬ G b/\∀ s k1,H[s]?=some (some k1)->k1.frozen=false->μ.loc s≠some b:=by
   rcases hrow2 j b hj with ⟨j1,j2⟩|⟨j1,j2⟩
   ·subst j2; exact⟨hlt,hn,hG,hloc⟩
   ·exact hW.rows.sep j b j2
  refine⟨hsep.1,hsep.2.1,by rw[hok]; exact hsep.2.2.1,λs k1 hs hf1 hl=>?_⟩;rcases key s k1 hs with ⟨rfl,rfl⟩|⟨h1,h2,h4⟩
  ·rw[gK]at hl; cases hl
  ·rw[(tH (by omega)).1]at hl;exact hsep.2.2.2 s k1 h4 hf1 hl
 ·intro j b hj;rcases hrow2 j b hj with ⟨j1,j2⟩|⟨j1,j2⟩
  ·subst j2; exact hcel
  ·exact hW.rows.cel j b j2
 ·intro s k1 t1 l1 hs hg1 ht1';rcases key s k1 hs with ⟨rfl,rfl⟩|⟨h1,h3,h4⟩
  ·cases ht1';refine⟨gK _ _ _ _,λj hj=>?_,λj row hj=>?_⟩
   ·rw[oH]at hj;simp only[List.length_cons,List.length_nil]at hj;rw[hG'];show (if j=l.length then some b0 else G.row j)=none;rw[if_neg (by omega)];exact a2 j (by omega)
   ·rcases oG j l.length with hlt|hge
    ·rw[List.getElem?_append_left hlt]at hj;rcases a3 j row hj with h0|⟨b,q1,q2⟩
     ·exact .inl h0
     ·exact .inr ⟨b,hrow' j b q1,q2.mono e.toMono.aI rfl⟩
    ·have hjl:j=l.length:=by
      have:=(oO.1 hj).1;simp only[oH,List.length_cons,List.length_nil]at this;omega
     subst hjl;rw[List.getElem?_append_right (oM _),Nat.sub_self]at hj;simp only[List.getElem?_cons_zero,oJ]at hj;subst hj;exact .inr ⟨b0,by rw[hG']; exact if_pos rfl,hat _⟩
  ·exact absurd (hW.rows.one s ra k1 k t1 l1 gt l h4 hg1 ht1' hr hkg htag) h3
 ·intro x1 x2 k1 k2 t1 l1 t2 l2 h1 g1 q1 h2 g2 q2;have old:∀ (s:Nat) (k1:Blk) (t1:Ty) (l1:List (List t1.den)),((H.set ra none)++[some ⟨aG (.rows gt) (l++[row0]),k.ty,false,k.frozen,some ⟨.rows gt,l++[row0]⟩⟩])[s]?=some (some k1)->k1.grown=false->k1.tag=some ⟨.rows t1,l1⟩->s=H.length:=by
   intro s k1 t1 l1 h1 g1 q1;rcases key s k1 h1 with ⟨rfl,_⟩|⟨_,h3,h4⟩
   ·rfl
   ·exact absurd (hW.rows.one s ra k1 k t1 l1 gt l h4 g1 q1 hr hkg htag) h3
  rw[old x1 k1 t1 l1 h1 g1 q1,old x2 k2 t2 l2 h2 g2 q2]
theorem aCC {r:Nat}{k:Blk}{l:List (List ByteArray)}(h:aMD H=some (r,k,l)):H[r]?=some (some k)/\k.grown=false/\k.tag=some ⟨.rows .str,l⟩/\k.ty=NJ:=by
 unfold aMD at h;split at h
 ·rename_i r' k' har;split at h
  ·rename_i l' htag;obtain⟨hb,h⟩:=pY h;simp only[oJ,oP]at h;obtain⟨rfl,rfl,rfl⟩:=h;obtain⟨h1,h2⟩:=UC har;exact⟨h1,h2,htag,oE hb⟩
  ·cases h
 ·cases h
theorem aKO {t:TypeId}(h:aM0 P t=true):∃ k e,P.underlying t=some (.map k e)/\P.underlying k=some .string/\xW P e=some (.bool false):=by
 unfold aM0 at h;split at h
 ·rename_i k e hu;split at h
  ·rename_i hk;split at h
   ·rename_i hz;exact⟨k,e,hu,hk,hz⟩
   ·cases h
  ·cases h
 ·cases h
theorem aK0(hW:aN n0 G μ H w){t:TypeId}{v:PV}{cs:List Bool}{H':Heap}{c:Nat}(h:YL P H t=some (cs,v,H',c)):c=2/\yB P n0 w G μ (Instr.makeMap t none) v H':=by
 unfold YL at h;split at h
 ·rename_i r k l har;obtain⟨_,h⟩:=pY h;simp only[oJ,oP]at h;obtain⟨rfl,rfl,rfl,rfl⟩:=h;refine⟨rfl,?_⟩;obtain⟨h1,h2,h3,h4⟩:=aCC har;obtain⟨e1,hW1⟩:=YG hW (.map #[] 0);have hnew:(w.alloc (.map #[] 0)).heap[w.heap.size]?=some (.map #[] 0):=(MapKept.heap_alloc w _).1;obtain⟨G',μ',e2,hW2,hrow⟩:=a2G hW1 h1 h2 h3 (b0:=w.heap.size) (row0:=[]) (by simp) (hW.base _ (oM _)) (λhg=>Nat.lt_irrefl _ (hW.lt _ hg))
   (λs k1 hs _ hl=>Nat.lt_irrefl _ (hW.nB hs hl)) (λj hj=>Nat.lt_irrefl _ (hW.rows.sep j _ hj).1) (.inr ⟨_,_,hnew⟩) (λG'=>.inr ⟨h4,_,_,hnew,rfl,λe he=>by simp at he⟩)
  exact⟨.map (some w.heap.size),_,G',μ',by simp[Instr.makeMap],e1.trans e2,hW2,by rw[VR]; exact⟨_,hrow,rfl⟩⟩
 ·cases h
theorem aQ4:∀ {es:List MapEntry} {row:List ByteArray},aG .str row=es.map (λe=>PV.lit e.key)->es.map (·.key)=row.map Value.string
 | [],[],_=>rfl
 | [],x::row,h=>by simp[aG,enc]at h
 | e::es,[],h=>by simp[aG,enc]at h
 | e::es,x::row,h=>by
  rw[lZ]at h;simp only[enc,List.map_cons,List.cons_append,List.nil_append,List.cons.injEq,PV.lit.injEq]at h;rw[List.map_cons,List.map_cons,aQ4 h.2,h.1]
theorem aWB {a b:ByteArray}:eqS a b=true↔a=b:=by
 unfold eqS;rw[beq_iff_eq];constructor
 ·intro h;cases a; cases b
  congr
  exact Array.toList_inj.1 h
 ·rintro rfl; rfl
theorem aI8 {s:ByteArray}:∀ {row:List ByteArray},aLJ row s=true↔s∈row
 | []=>by simp[aLJ]
 | x::row=>by
  rw[aLJ];cases h:eqS x s with
  | true=>simp[(aWB.1 h)]
  | false =>
   have:¬ x=s:=λe=>by rw[aWB.2 e]at h; cases h
   simp only[oD,aI8,List.mem_cons];constructor
   ·exact .inr
   ·rintro(rfl|h1)
    ·exact absurd rfl this
    ·exact h1
theorem aNK {es:List MapEntry}{row:List ByteArray}(h:es.map (·.key)=row.map Value.string)(s:ByteArray) :
  (aLJ row s=false/\Instr.findNow .string (.string s) es 0=some none)\/∃ j e,aLJ row s=true/\Instr.findNow .string (.string s) es 0=some (some (j,e.val))/\es[j]?=some e/\e.key=.string s:=by
 have hmem:∀ v:Value,v∈row.map Value.string↔∃ x∈row,Value.string x=v:=λv=>List.mem_map
 have hall:∀ x∈es,MapKept.IsKey .string x.key:=λx hx=>by
  have:x.key∈row.map Value.string:=by rw[<- h]; exact List.mem_map.2 ⟨x,hx,rfl⟩
  obtain⟨y,_,hy⟩:=(hmem _).1 this;rw[<- hy]; trivial
 rcases MapKept.findNow_spec (d:=.string) (k:=.string s) trivial es 0 hall with ⟨h1,h2⟩|⟨j,e,h1,h2,h3⟩
 ·left;refine⟨?_,h1⟩;cases hh:aLJ row s with
  | false=>rfl
  | true =>
   have hs:=aI8.1 hh;have:Value.string s∈es.map (·.key):=by rw[h]; exact List.mem_map.2 ⟨s,hs,rfl⟩
   obtain⟨x,hx,hx2⟩:=List.mem_map.1 this;exact absurd hx2 (h2 x hx)
 ·right;rw[Nat.zero_add]at h1;refine⟨j,e,?_,h1,h2,h3⟩;have:Value.string s∈row.map Value.string:=by
   rw[<- h,<- h3];exact List.mem_map.2 ⟨e,List.mem_of_getElem? h2,rfl⟩
  obtain⟨x,hx,hx2⟩:=(hmem _).1 this;cases hx2;exact aI8.2 hx
theorem a0V(hW:aN n0 G μ H w) {r j:Nat} {k:Blk} {l:List (List ByteArray)} (har:aMD H=some (r,k,l)) (hj:j<l.length) {x:Value} (hm:VR w G μ (.mp j) x) :
  ∃ b es clk,x=.map (some b)/\G.row j=some b/\w.heap[b]?=some (.map es clk)/\es.toList.map (·.key)=(l.getD j []).map Value.string/\(∀ e∈es.toList,e.val=.bool true)/\l[j]?=some (l.getD j []):=by
 obtain⟨h1,h2,h3,h4⟩:=aCC har;obtain⟨_,_,a3⟩:=hW.rows.arn r k .str l h1 h2 h3;have hg:l[j]?=some (l.getD j []):=by rw[oQ,List.getElem?_eq_getElem hj]; rfl
 rw[VR]at hm;obtain⟨b,m1,rfl⟩:=hm;rcases a3 j _ hg with ⟨_,h0⟩|⟨b',q1,q2⟩
 ·exact absurd h4 h0
 ·rw[m1]at q1; cases q1;rcases q2 with ⟨q3,_⟩|⟨_,es,clk,q3,q4,q5⟩
  ·exact absurd h4 q3
  ·exact⟨b,es,clk,rfl,m1,q3,aQ4 q4,q5,hg⟩
theorem aK1(hW:aN n0 G μ H w){t:TypeId}{m k v:PV}{x y:Value}{cs:List Bool}{H':Heap}{c:Nat}(hm:VR w G μ m x)(hk:VR w G μ k y)(h:aH2 P H t m k=some (cs,v,H',c))(hcs:CF cs=true) :
  H'=H/\c=1/\∃ v',(Instr.lookup t x y false).run P w=.ok v' w/\VR w G μ v v':=by
 unfold aH2 at h;split at h
 ·rename_i j s;split at h
  ·rename_i r b l har;obtain⟨hok,h⟩:=pY h;simp only[oJ,oP]at h;obtain⟨rfl,rfl,rfl,rfl⟩:=h;refine⟨rfl,rfl,?_⟩;obtain⟨kt,et,u1,u2,u3⟩:=aKO hok;have hlt:=fB (aP hcs).1;obtain⟨b,es,clk,rfl,_,g2,g3,g4,_⟩:=a0V hW har hlt hm;rw[VR]at hk;subst hk;have hc:∀ em,(Instr.checkKey em 10000 kt (.string s)).run P w=.ok () w:=λem=>MapKept.run_checkKey (k:=.string s) u2 trivial em 9999
   refine⟨.bool (aLJ (l.getD j []) s),?_,by rw[VR]⟩;rcases aNK g3 s with ⟨f1,f2⟩|⟨i,e,f1,f2,f3,f4⟩
   ·rw[f1];simp[Instr.lookup,run_underlying u1,MapKept.run_getObj_map g2,hc,MapKept.run_findKey u2 f2,aMV u3,Result.andThen]
   ·have hv:=g4 e (List.mem_of_getElem? f3);rw[f1];simp[Instr.lookup,run_underlying u1,MapKept.run_getObj_map g2,hc,MapKept.run_findKey u2 f2,Result.andThen,hv]
  ·cases h
 ·cases h
theorem a17(hW:aN n0 G μ H w) {r:Nat} {k:Blk} {t:Ty} {l l':List (List t.den)} (hr:H[r]?=some (some k)) (hg:k.grown=false) (ht:k.tag=some ⟨.rows t,l⟩) {j b:Nat} (hb:G.row j=some b) {es es':Array MapEntry} {clk clk':Nat} (hc:w.heap[b]?=some (.map es clk))
  (hl:l'.length=l.length) (hne:∀ i,i≠j->l'[i]?=l[i]?) {row:List t.den} (hj:l'[j]?=some row) (hk:aF6 (w.putObj b (.map es' clk')) G k.ty b (aG t row)) :
  Ext n0 w G μ (w.putObj b (.map es' clk')) G μ/\aN n0 G μ (H.set r (some { k with cells:=aG (.rows t) l',tag:=some ⟨.rows t,l'⟩ })) (w.putObj b (.map es' clk')):=by
 obtain⟨s1,s2,s3,s4⟩:=hW.rows.sep j b hb;obtain⟨a1,a2,a3⟩:=hW.rows.arn r k t l hr hg ht;have oth:∀ x,x≠b->(w.putObj b (.map es' clk')).heap[x]?=w.heap[x]?:=λx hx=>World.putObj_heap_other hx
 have at_:(w.putObj b (.map es' clk')).heap[b]?=some (.map es' clk'):=by simp[World.putObj,Array.getElem?_setIfInBounds,s1]
 have e:Ext n0 w G μ (w.putObj b (.map es' clk')) G μ:={
  good:=λx hx=>⟨hx,oth x (by rintro rfl; exact s3 hx)⟩
  map:=λ_ _ h=>h
  len:=λ_ _ h=>h
  room:=λx n hx=>by
   obtain⟨cs,t',fr,g1,g2⟩:=hx
   by_cases hxb:x=b
   ·subst hxb;rw[hc]at g1; cases g1
   ·exact⟨cs,t',fr,by rw[oth x hxb]; exact g1,g2⟩
  row:=λ_ _ h=>h
  os:=rfl
  tape:=rfl
  output:=rfl
  size:=by rw[World.putObj_size]; exact oM _
  old:=λx _ hx=>oth x (by rintro rfl; exact hx s2)
  new:=λ_ h=>.inl h }
 refine⟨e,?_⟩;have hrl:r<H.length:=(oO.1 hr).1;have hkey:∀ (s:Nat) (k1:Blk),(H.set r (some { k with cells:=aG (.rows t) l',tag:=some ⟨.rows t,l'⟩ }))[s]?=some (some k1)->(s=r/\k1={ k with cells:=aG (.rows t) l',tag:=some ⟨.rows t,l'⟩ })\/(s≠r/\H[s]?=some (some k1)):=by
  intro s k1 hs
  by_cases hsr:r=s
  ·subst hsr; rw[List.getElem?_set_self hrl]at hs; cases hs; exact .inl ⟨rfl,rfl⟩
  ·rw[List.getElem?_set_ne hsr]at hs; exact .inr ⟨Ne.symm hsr,hs⟩
 have notb:∀ (s:Nat) (k1:Blk) (x:Nat),H[s]?=some (some k1)->μ.loc s=some x->x≠b:=by
  intro s k1 x hs hx hxb;subst hxb;obtain⟨c,h1,_⟩:=hW.blk s k1 x hs hx;rw[hc]at h1; cases h1
 refine⟨?_,?_,?_,?_,?_,λb hb=>hW.base b (oR e.size hb),?_,?_,?_,?_,?_⟩
 ·intro s k2 b2 hs2 hb2;rcases hkey s k2 hs2 with ⟨rfl,rfl⟩|⟨_,hs'⟩
  ·rw[a1]at hb2; cases hb2
  ·obtain⟨c2,g2,g3,g4⟩:=hW.blk s k2 b2 hs' hb2;have hne:=notb s k2 b2 hs' hb2;exact⟨c2,(oth b2 hne).trans g2,aL.mono e.toMono (oth b2 hne) 0 _ g3,g4⟩
 ·intro s k2 g hs2 hg2;rcases hkey s k2 hs2 with ⟨rfl,rfl⟩|⟨_,hs'⟩
  ·cases hg2;exact⟨rfl,by rw[(hW.tags s k _ hr ht).2]; exact oZ some hl.symm⟩
  ·exact hW.tags s k2 g hs' hg2
 ·intro x1 x2 k1 k2 b2 e1 e2 f1 f2 m1 m2;have old:∀ (s:Nat) (k1:Blk),(H.set r (some { k with cells:=aG (.rows t) l',tag:=some ⟨.rows t,l'⟩ }))[s]?=some (some k1)->k1.frozen=false->∃ k0,H[s]?=some (some k0)/\k0.frozen=false:=by
   intro s k1 e1 f1;rcases hkey s k1 e1 with ⟨rfl,rfl⟩|⟨_,hs'⟩
   ·exact⟨k,hr,f1⟩
   ·exact⟨k1,hs',f1⟩
  obtain⟨k3,e3,f3⟩:=old x1 k1 e1 f1;obtain⟨k4,e4,f4⟩:=old x2 k2 e2 f2;exact hW.inj x1 x2 k3 k4 b2 e3 e4 f3 f4 m1 m2
 ·refine hW.lt.step e.good λb hb=>?_
  rw[World.putObj_size]; exact hW.lt b hb
 ·intro s hs2;rw[List.length_set]at hs2;exact hW.top s hs2
 ·exact hW.rows.inj
 ·intro j1 b1 h1;obtain⟨q1,q2,q3,q4⟩:=hW.rows.sep j1 b1 h1;refine⟨by rw[World.putObj_size]; exact q1,q2,q3,λs k1 hs1 hf1 hl1=>?_⟩;rcases hkey s k1 hs1 with ⟨rfl,rfl⟩|⟨_,hs'⟩
  ·rw[a1]at hl1; cases hl1
  ·exact q4 s k1 hs' hf1 hl1
 ·intro j1 b1 h1
  by_cases hb1:b1=b
  ·subst hb1; exact .inr ⟨_,_,at_⟩
  ·rw[oth b1 hb1]; exact hW.rows.cel j1 b1 h1
 ·intro s k1 t1 l1 hs1 hg1 ht1;rcases hkey s k1 hs1 with ⟨rfl,rfl⟩|⟨hne1,hs'⟩
  ·cases ht1;refine⟨a1,λi hi=>a2 i (by omega),λi row1 hi=>?_⟩
   by_cases hij:i=j
   ·subst hij;rw[hj]at hi; cases hi;exact .inr ⟨b,hb,hk⟩
   ·rw[hne i hij]at hi;rcases a3 i row1 hi with h0|⟨b1,q1,q2⟩
    ·exact .inl h0
    ·have hbb:b1≠b:=by rintro rfl; exact hij (hW.rows.inj i j b1 q1 hb)
     exact .inr ⟨b1,q1,q2.mono e.toMono.aI (oth b1 hbb)⟩
  ·exact absurd (hW.rows.one s r k1 k t1 l1 t l hs' hg1 ht1 hr hg ht) hne1
 ·intro x1 x2 k1 k2 t1 l1 t2 l2 h1 g1 t1' h2 g2 t2';have old:∀ (s:Nat) (k1:Blk) t1 l1,(H.set r (some { k with cells:=aG (.rows t) l',tag:=some ⟨.rows t,l'⟩ }))[s]?=some (some k1)->k1.grown=false->k1.tag=some ⟨.rows t1,l1⟩->s=r:=by
   intro s k1 t1 l1 h1 g1 q1;rcases hkey s k1 h1 with ⟨rfl,rfl⟩|⟨_,hs'⟩
   ·rfl
   ·exact hW.rows.one s r k1 k t1 l1 t l hs' g1 q1 hr hg ht
  rw[old x1 k1 t1 l1 h1 g1 t1',old x2 k2 t2 l2 h2 g2 t2']
theorem aMT:∀ {es:List MapEntry} {row:List ByteArray},es.map (·.key)=row.map Value.string->aG .str row=es.map (λe=>PV.lit e.key)
 | [],[],_=>rfl
 | [],x::row,h=>by simp at h
 | e::es,[],h=>by simp at h
 | e::es,x::row,h=>by
  simp only[List.map_cons,List.cons.injEq]at h;rw[lZ,aMT h.2,List.map_cons,h.1];rfl
theorem aTZ {t kt et:TypeId} {b clk:Nat} {es:Array MapEntry} {row:List ByteArray} (u1:P.underlying t=some (.map kt et)) (u2:P.underlying kt=some .string) (hb:w.heap[b]?=some (.map es clk))
  (hk:es.toList.map (·.key)=row.map Value.string) (hv:∀ e∈es.toList,e.val=.bool true) (s:ByteArray) :
  ∃ es' clk',(Instr.mapUpdate t (.map (some b)) (.string s) (.bool true)).run P w=.ok () (w.putObj b (.map es' clk'))/\es'.toList.map (·.key)=(a1R row s).map Value.string/\∀ e∈es'.toList,e.val=.bool true:=by
 have hc:(Instr.checkKey false 10000 kt (.string s)).run P w=.ok () w:=MapKept.run_checkKey (k:=.string s) u2 trivial false 9999;rcases aNK hk s with ⟨f1,f2⟩|⟨i,e,f1,f2,f3,f4⟩
 ·refine⟨es.push { key:=.string s,val:=.bool true,born:=clk },clk+1,?_,?_,?_⟩
  ·simp[Instr.mapUpdate,run_underlying u1,MapKept.run_getObj_map hb,hc,MapKept.run_findKey u2 f2,MapKept.run_setObj_map _ hb,Result.andThen,World.putObj]
  ·rw[Array.toList_push,List.map_append,hk];unfold a1R;rw[f1,oD,List.map_append]; rfl
  ·intro e he;rw[Array.toList_push]at he;rcases List.mem_append.1 he with he|he
   ·exact hv e he
   ·rw[List.mem_singleton.1 he]
 ·have hi:es[i]?=some e:=by rw[<- Array.getElem?_toList]; exact f3
  have hkey:(((es[i]?).map (·.key)).getD (.string s))=.string s:=by rw[hi]; exact f4
  have hkt:(Instr.keyThatStays (.string s) (.string s)).run P w=.ok (.string s) w:=by
   have hsb:Instr.sameBits 10000 (.string s) (.string s)=true:=MapKept.sameBits_self (d:=.string) (k:=.string s) trivial 10000;simp[Instr.keyThatStays,hsb]
  refine⟨es.modify i λe=>{ e with key:=.string s,val:=.bool true },clk,?_,?_,?_⟩
  ·simp only[Instr.mapUpdate,Sem.run_bind,run_underlying u1,MapKept.run_getObj_map hb,hc,MapKept.run_findKey u2 f2,Result.andThen,hkey,hkt,MapKept.run_setObj_map _ hb];rfl
  ·rw[MapKept.modify_keys i _ (λe' he'=>by rw[hi]at he'; cases he'; exact f4.symm),hk];unfold a1R;rw[f1,oC]
  ·intro e' he';obtain⟨n,hn,rfl⟩:=List.getElem_of_mem he';rw[Array.length_toList]at hn;simp only[Array.size_modify]at hn;rw[Array.getElem_toList,Array.getElem_modify];split
   ·rfl
   ·exact hv _ (by rw[<- Array.getElem_toList]; exact List.getElem_mem _)
theorem aK3(hW:aN n0 G μ H w){t:TypeId}{m k v u:PV}{x y z:Value}{cs:List Bool}{H':Heap}{c:Nat}(hm:VR w G μ m x)(hk:VR w G μ k y)(hz:VR w G μ v z)(h:aDX P H t m k v=some (cs,u,H',c))(hcs:CF cs=true) :
  u=.lit undef/\c=2/\∃ w',(Instr.mapUpdate t x y z).run P w=.ok () w'/\Ext n0 w G μ w' G μ/\aN n0 G μ H' w':=by
 unfold aDX at h;split at h
 ·rename_i j s;split at h
  ·rename_i r b l har;obtain⟨hok,h⟩:=pY h;simp only[oJ,oP]at h;obtain⟨rfl,rfl,rfl,rfl⟩:=h;refine⟨rfl,rfl,?_⟩;obtain⟨kt,et,u1,u2,u3⟩:=aKO hok;have hlt:=fB (aP hcs).1;obtain⟨bb,es,clk,rfl,g1,g2,g3,g4,g5⟩:=a0V hW har hlt hm;obtain⟨h1,h2,h3,h4⟩:=aCC har;rw[VR]at hk hz;subst hk; subst hz;obtain⟨es',clk',p1,p2,p3⟩:=aTZ u1 u2 g2 g3 g4 s;have hbl:=(hW.rows.sep j bb g1).1;have:=a17 (t:=.str) hW h1 h2 h3 g1 (es':=es') (clk':=clk') g2 (l':=aXZ l j s) (by unfold aXZ; rw[List.length_set]) (λi hi=>by unfold aXZ; rw[List.getElem?_set_ne (Ne.symm hi)]) (row:=a1R (l.getD j []) s) (by unfold aXZ; rw[List.getElem?_set_self hlt]) (.inr ⟨h4,es',clk',by simp[World.putObj,Array.getElem?_setIfInBounds,hbl],aMT p2,p3⟩)
   exact⟨_,p1,this.1,this.2⟩
  ·cases h
 ·cases h
theorem aOG(hW:aN n0 G μ H w) {w':World} (hold:∀ j,j<w.heap.size->w'.heap[j]?=w.heap[j]?) (hsz:w'.heap.size=w.heap.size+1) (h1:w'.os=w.os) (h2:w'.tape=w.tape) (h3:w'.output=w.output) :
  Ext n0 w G μ w' (G.or λx=>x=w.heap.size) μ/\aN n0 (G.or λx=>x=w.heap.size) μ H w':=by
 have e:Ext n0 w G μ w' (G.or λx=>x=w.heap.size) μ:={
  good:=λb hb=>⟨.inl hb,hold b (hW.lt b hb)⟩
  map:=λ_ _ h=>h
  len:=λ_ _ h=>h
  room:=λb n hc=>by
   obtain⟨cs,t,fr,h1,h2⟩:=hc;exact⟨cs,t,fr,by rw[hold _ (fL h1)]; exact h1,h2⟩
  row:=λ_ _ h=>h
  os:=h1
  tape:=h2
  output:=h3
  size:=by omega
  old:=λb hb _=>hold b hb
  new:=λb hb=>by
   rcases hb with hb|rfl
   ·exact .inl hb
   ·exact .inr (hW.base _ (oM _)) }
 refine⟨e,hW.bG e ⟨λ_=>rfl,λj b hj=>⟨hold _ (hW.rows.sep j b hj).1,?_⟩⟩ ?_ ?_⟩
 ·rintro(h|rfl)
  ·exact h
  ·exact absurd (hW.rows.sep j _ hj).1 (Nat.lt_irrefl _)
 ·intro r k b hr hb;have hlt:=hW.nB hr hb;refine⟨hold _ hlt,?_⟩;rintro(h|rfl)
  ·exact h
  ·omega
 ·rintro b (hb|rfl)
  ·have:=hW.lt b hb; omega
  ·omega
theorem aYN {e:TypeId}(h:a5O P e=true):P.underlying e=some (.int .u8):=by
 unfold a5O at h;split at h
 ·assumption
 ·cases h
theorem aNI {t:TypeId}(h:a1K P t=true):∃ e,P.underlying t=some (.slice e)/\P.underlying e=some (.int .u8):=by
 unfold a1K at h;split at h
 ·rename_i e he;exact⟨e,he,aYN h⟩
 ·cases h
theorem aMZ {t:TypeId}(h:a3P P t=true):P.underlying t=some .string:=by
 unfold a3P at h;split at h
 ·assumption
 ·cases h
theorem aLY(l:List Int):aG (.int .u8) l=l.map λn=>PV.lit (.int .u8 n):=by
 induction l with
 | nil=>rfl
 | cons x l ih=>rw[lZ,ih]; rfl
theorem aSW(hW:aN n0 G μ H w){s d:TypeId}{p v:PV}{x:Value}{cs:List Bool}{H':Heap}{c:Nat}(hp:VR w G μ p x)(h:aRI P H s d p=some (cs,v,H',c)):H'=H/\yB P n0 w G μ (convert s d x) v H:=by
 unfold aRI at h;split at h
 ·rename_i b;obtain⟨hc,h⟩:=aMQ h;simp only[oJ,oP]at h;obtain⟨rfl,rfl,rfl,rfl⟩:=h;rw[oA]at hc;rw[VR]at hp;subst hp;obtain⟨e,hd,he⟩:=aNI hc.2;have hr:=Lib.run_convert_string_bytes (P:=P) w s d e b (aMZ hc.1) hd he;obtain⟨e1,e2⟩:=aOG hW (w':=Lib.bytesWorld w e b) (λj hj=>Lib.bytesWorld_at_old w e b j hj) (Lib.bytesWorld_size w e b) rfl rfl rfl;refine⟨rfl,_,_,_,_,hr,e1,e2,ZV ?_⟩;rw[VR];have hlen:(R1 b).length=b.size:=by simp[R1]
  refine⟨_,_,by rw[hlen],by rw[hlen]; exact grownCap_ge _ _ _ _,λk hk=>(by cases hk),.inr ⟨w.heap.size,0,rfl,.inr rfl,?_⟩⟩;rw[aLY];refine aL.mk λj q hq=>?_
  rw[List.getElem?_map]at hq;unfold R1 at hq;rw[List.getElem?_map]at hq;cases hb:b.data.toList[j]? with
  | none=>rw[hb]at hq; cases hq
  | some u =>
   rw[hb]at hq;cases hq;have hj:j<b.size:=by
    have:=(oO.1 hb).1;simpa using this
   refine⟨_,by rw[Nat.zero_add]; exact Lib.bytesWorld_cell w e b j hj,?_⟩;rw[VR,oQ,hb];rfl
 ·rename_i r sz;obtain⟨hc,h⟩:=aMQ h;split at h
  ·rename_i g hg;split at h
   ·rename_i l hl;simp only[oJ,oP]at h;obtain⟨rfl,rfl,rfl,rfl⟩:=h;rw[oA]at hc;obtain⟨e,hs,he⟩:=aNI hc.1;have hd:=aMZ hc.2;obtain⟨kb,hk1,hk2⟩:=JT hg;obtain⟨ht1,ht2⟩:=hW.tags r kb g (aJ hk1) hk2;obtain⟨hty,hl⟩:=qV hl;obtain⟨gt,gl⟩:=g;dsimp only at hty hl ht1 ht2;subst hty;dsimp only at hl;subst hl;refine⟨rfl,.same hW (v':=.string (aJC gl)) ?_ (by rw[VR])⟩;rw[VR]at hp;obtain⟨m,h1,h2⟩:=hp;rw[ht2]at h1
    cases h1;rcases h2 with ⟨h2,ao,rfl⟩|⟨b,c',h3,rfl,h5,h6⟩
    ·have hnil:gl=[]:=List.eq_nil_of_length_eq_zero h2;subst hnil;rw[run_convert_bytes_string w s d e _ _ _ hs he hd];cases ao with
     | none=>rfl
     | some a=>exact run_bytesToString w a 0 _ [] (by simp[loadCells,loadCellsFrom,Sem.run_pure])
    ·rw[run_convert_bytes_string w s d e _ _ _ hs he hd];obtain⟨c'',g2,g3,_⟩:=hW.blk r kb b (aJ hk1) h3;rw[ht1,aLY]at g3;refine run_bytesToString w _ _ _ gl ?_;have:=run_loadCells (P:=P) (w:=w) (b:=b) (off:=0) (vs:=gl.map (Value.int .u8)) λj hj=>by
      rw[List.length_map]at hj;obtain⟨u,q1,q2⟩:=g3.get (i:=j) (p:=PV.lit (.int .u8 gl[j])) (by simp[hj]);rw[VR]at q2;rw[q1,q2];simp
     rw[List.length_map]at this;exact this
   ·cases h
  ·cases h
 ·cases h
section
variable {t u e:TypeId} {i:TypeInfo} {z:Value} {ku:IntKind} (ht:P.underlying t=some (.slice e)) (hu:P.underlying u=some (.int ku)) (hi:P.info? e=some i) (hz:i.zero=some z)
include ht hu hi hz
theorem TV(hzs:z.cells.size=i.size) (hb1:i.bytes<=65536) {k l c:Nat} {kq:IntKind} {ty:TypeId} {ao:Option Addr} (hn:k<=1048576) (hfit:l+k<=c) {w':World}
  (hst:match ao with|some a=>(storeCells (a.add (l*i.size)) (Builtin.zeroCells z.cells k).toList).run P w=.ok () w'|none=>w'=w) :
  (Builtin.append_ #[t,u] ty #[.slice ao l c,.int kq (k:Int)]).run P w=.ok (.slice ao (l+k) c) w':=by
 have hw:IntKind.i64.wrap (k:Int)=k:=by rw[IntKind.wrap_i64]; omega
 have hneg:¬ ((k:Int)<0):=by omega
 have h48:¬ (281474976710656<(k:Int)*(i.bytes:Int)):=by
  have:k*i.bytes<=1048576*65536:=Nat.mul_le_mul hn hb1;rw[<- Int.natCast_mul]; omega
 by_cases hz0:k*i.size=0
 ·have hvs:Builtin.zeroCells z.cells k=#[]:=by
   apply Array.eq_empty_of_size_eq_zero;rw[mO,hzs]; exact hz0
  rw[hvs]at hst;cases ao with
  | none=>simp only at hst; subst hst; simp[Builtin.append_,run_underlying ht,run_underlying hu,sizeOf,typeInfo,zeroValue,hi,hz,asInt,asIntOf,hw,hneg,h48,hfit,hz0]
  | some a=>simp only at hst; simp[Builtin.append_,run_underlying ht,run_underlying hu,sizeOf,typeInfo,zeroValue,hi,hz,asInt,asIntOf,hw,hneg,h48,hfit,hz0,show (storeCells (a.add (l*i.size)) []).run P w=.ok () w' by simpa using hst]
 ·cases ao with
  | none=>simp only at hst; subst hst; simp[Builtin.append_,run_underlying ht,run_underlying hu,sizeOf,typeInfo,zeroValue,hi,hz,asInt,asIntOf,hw,hneg,h48,hfit,hz0]
  | some a=>simp only at hst; simp[Builtin.append_,run_underlying ht,run_underlying hu,sizeOf,typeInfo,zeroValue,hi,hz,asInt,asIntOf,hw,hneg,h48,hfit,hz0,hst]
theorem S7(hzs:z.cells.size=i.size) (hpos:0<i.size) (hb1:i.bytes<=65536) {k l c:Nat} {kq:IntKind} {ty:TypeId} {ao:Option Addr} (hb2:k<=1048576) (hb3:l<=1048576) (hfit:¬ l+k<=c)
  {os:Array Value} (ho:∀ w1:World,w1.heap=w.heap->(Builtin.firstCells i.size l (.slice ao l c)).run P w1=.ok os w1) (hlc:l<=c) :
  ∃ c',l+k<=c'/\(Builtin.append_ #[t,u] ty #[.slice ao l c,.int kq (k:Int)]).run P w=.ok (.slice (some ⟨w.heap.size,0,none⟩) (l+k) c') (w.drew.alloc (.cells (os++Builtin.zeroCells z.cells k++Builtin.zeroCells z.cells (c'-(l+k))) e)):=by
 have hcap:Builtin.nextslicecap (l+k) c*i.bytes<=281474976710656:=by
  have h1:=nextslicecap_le (need:=l+k) (old:=c) (by omega);have h2:Builtin.nextslicecap (l+k) c*i.bytes<=4194304*65536:=Nat.mul_le_mul (by omega) hb1;omega
 have h48:k*i.bytes<=281474976710656:=by
  have:k*i.bytes<=1048576*65536:=Nat.mul_le_mul hb2 hb1;omega
 refine⟨grownCap w (l+k) c e,grownCap_ge _ _ _ _,?_⟩;have h:=Lib.run_append_grow_zeros (P:=P) w t u ty e i z kq ku ht hu hi hz ao l c os.toList (by rw[Array.toArray_toList]; exact ho w.drew rfl) k (by omega) hpos (by omega) (by omega) h48 hcap;rw[Array.toArray_toList]at h;exact h
theorem XT(hW:aN n0 G μ H w){ty:Ty}(hsz:i.size=ty.size)(hb1:i.bytes<=65536)(hzs:z.cells.size=i.size)(hpos:0<i.size){kq:IntKind}{k0:Nat}{d0:ty.den}(hdz:VRs w G aI (enc ty d0) z.cells.toList){tt:TypeId}{ao:Option Addr}(hn:k0<=1048576) :
  yB P n0 w G μ (Builtin.append_ #[t,u] tt #[.slice ao 0 0,.int kq (k0:Int)]) (.own H.length ty.size) (H++[some ⟨aG ty (List.replicate k0 d0),e,true,false,some ⟨ty,List.replicate k0 d0⟩⟩]):=by
 have s2:VRs w G μ (aG ty (List.replicate k0 d0)) (Builtin.zeroCells z.cells k0).toList:=by rw[QF]; exact(xG hdz k0).aY
 by_cases h0:k0=0
 ·subst h0;have:=TV (w:=w) (w':=w) (ty:=tt) (kq:=kq) (ao:=ao) (l:=0) (c:=0) (k:=0) ht hu hi hz hzs hb1 (by omega) (by omega) (by cases ao <;> simp[Builtin.zeroCells,storeCells]);exact aMS hW (by simp) this
 ·obtain⟨c',q1,q2⟩:=S7 (w:=w) (ty:=tt) (kq:=kq) (ao:=ao) (l:=0) (c:=0) (k:=k0) ht hu hi hz hzs hpos hb1 hn (by omega) (by omega) (os:=#[]) (λw1 _=>by
   cases ao with
   | none=>rfl
   | some a=>simp[Builtin.firstCells,loadCells,loadCellsFrom]) (oM _)
  rw[Nat.zero_add]at q1 q2;have hll:(List.replicate k0 d0).length=k0:=List.length_replicate;exact TZ hW (l:=List.replicate k0 d0) (os:=#[]) (vs:=Builtin.zeroCells z.cells k0) (by simpa using s2) (by rw[hll]; exact q1) (by rw[mO,hzs,hsz,hll]) (by rw[hll]; exact q2)
theorem aLK(hW:aN n0 G μ H w) {ty:Ty} (hsz:i.size=ty.size) (hb1:i.bytes<=65536) (hzs:z.cells.size=i.size) {kq:IntKind} {k0:Nat} {d0:ty.den} (hdz:VRs w G aI (enc ty d0) z.cells.toList) {l:List ty.den} {tt:TypeId} (hn:k0<=1048576) (hl:l.length<=1048576)
  {r:Nat} {k:Blk} (hk:jS H r=some k) (hf:k.frozen=false) (hg:k.grown=true) (hte:k.ty=e) (htag:k.tag=some ⟨ty,l⟩) {b c:Nat} (hb:μ.loc r=some b) (hlc:l.length<=c) (hroom:Room w b (c*ty.size)) (hpos:0<i.size) :
  yB P n0 w G μ (Builtin.append_ #[t,u] tt #[.slice (some ⟨b,0,none⟩) l.length c,.int kq (k0:Int)]) (.own H.length ty.size) (H.set r none++[some ⟨aG ty (l++List.replicate k0 d0),e,true,false,some ⟨ty,l++List.replicate k0 d0⟩⟩]):=by
 obtain⟨new,hnew⟩:∃ new,new=List.replicate k0 d0:=⟨_,rfl⟩;rw[<- hnew];have hnl:new.length=k0:=by rw[hnew,List.length_replicate]
 obtain⟨vs,hvs⟩:∃ vs,vs=Builtin.zeroCells z.cells k0:=⟨_,rfl⟩;have s2:VRs w G μ (aG ty new) vs.toList:=by rw[hvs,hnew,QF]; exact(xG hdz k0).aY
 obtain⟨cs,g2,g3,g4,g5,g6⟩:=hW.blk r k b (aJ hk) hb;obtain⟨ht1,ht2⟩:=hW.tags r k _ (aJ hk) htag;simp only at ht1 ht2;rw[ht1]at g3;have hvl:new.length*ty.size=vs.size:=by have:=s2.length; rw[aZ]at this; simpa using this
 obtain⟨i1,i2⟩:=zU g2 g3;have hel:=aZ ty l;rw[hel]at i1 i2
 by_cases hfit:l.length+new.length<=c
 ·obtain⟨c2,t2,fr2,r1,r2⟩:=hroom;rw[g2]at r1; cases r1;have hmul:(l.length+new.length)*ty.size<=c*ty.size:=Nat.mul_le_mul_right _ hfit;rw[Nat.add_mul]at hmul;obtain⟨w',h1,h2⟩:=pM (P:=P) (off:=l.length*ty.size) vs.toList 0 w cs (UN _ _ _ s2) g2 (by simp only[Array.length_toList]; omega);rw[Nat.add_zero]at h2;have hszV:(fE cs (l.length*ty.size) vs.toList).size=cs.size:=wP (by simp only[Array.length_toList]; omega)
  have e1:=AB hW (aJ hk) hf hb g2 h2 hszV;have hW':=D5 (k':=⟨aG ty (l++new),e,true,false,none⟩) hW (aJ hk) hf hb g2 (hte ▸ h2) hszV rfl (by
   refine rW (n:=l.length*ty.size+vs.size) h2.at_ (VRs.mono e1.toMono _ _ ?_);have h3:=i1.append s2;rw[<- lG]at h3;have e2:(fE cs (l.length*ty.size) vs.toList).toList.take (l.length*ty.size+vs.size)=cs.toList.take (l.length*ty.size)++vs.toList:=by
    simp only[fE];rw[List.take_append_of_le_length (by simp; omega),List.take_of_length_le (by simp; omega)]
   rw[e2]; exact h3) (λh=>by cases h) (λg hg=>by cases hg)
  have hrl:r<H.length:=(oO.1 (aJ hk)).1;obtain⟨e3,hW''⟩:=KN (r:=r) (on:=some (l++new).length) hW' (List.getElem?_set_self hrl) hb (λg hg=>by cases hg);simp only[List.length_set,List.set_set]at e3 hW'';have hW3:aN n0 G (upd μ H.length (some b) (some (l++new).length)) (H.set r none++[some ⟨aG ty (l++new),e,true,false,some ⟨ty,l++new⟩⟩]) w':=by
   have hkill:=vV hW' r;simp only[List.set_set]at hkill;have hlen:(H.set r none).length=H.length:=by simp
   have e4:Ext n0 w' G μ w' G (upd μ (H.set r none).length (some b) (some (l++new).length)):=by rw[hlen]; exact e3
   have:=HF hkill e4 ⟨aG ty (l++new),e,true,false,some ⟨ty,l++new⟩⟩ (λ_ _ _ _ _=>rfl) (by
    rintro b' hb';cases hb';obtain⟨c9,k2,k3,k4,k5,k6⟩:=hW'.blk r _ b (List.getElem?_set_self hrl) hb;exact⟨c9,k2,aL.mono e4.toMono rfl 0 _ k3,λh=>(by cases h),λh=>(by cases h),k6⟩) (λg hg=>by cases hg; exact⟨rfl,rfl⟩) (by
    intro s k' b' hs hf' hb' hh;cases hh;obtain⟨hs1,hs2⟩:=qH hs;exact hs2 (hW.inj s r k' k b hs1 (aJ hk) hf' hf hb' hb))
    (KB hkill e4 (λt l h1 h2=>by cases h1) (λ_ _ _=>rfl) (λj b1 hj _ hh=>by cases hh; exact(hW'.rows.sep j b hj).2.2.2 r _ (List.getElem?_set_self hrl) rfl hb))
   rwa[hlen]at this
  have hrun:=TV (w:=w) (w':=w') (ty:=tt) (kq:=kq) (k:=k0) (ao:=some ⟨b,0,none⟩) ht hu hi hz hzs hb1 hn (by rw[<- hnl]; exact hfit) (by simp only[Addr.add_lit,Nat.zero_add,hsz,<- hvs]; exact h1);rw[<- hnl]at hrun ⊢;refine⟨_,w',G,_,hrun,e1.trans e3,hW3,?_⟩;rw[VR];refine⟨_,qC _ _ _ _,.inr ⟨b,c,gK _ _ _ _,by rw[oH],by rw[oH]; exact hfit,_,_,_,h2.at_,by rw[hszV]; exact r2⟩⟩
 ·obtain⟨os,o1,o2⟩:=(yN (P:=P) (c:=c) g3 (aZ _ _):Source P w G μ ty.size (.slice (some ⟨b,0,none⟩) l.length c) _ l.length).2.2 l.length (oM _);rw[List.take_of_length_le (by rw[hel]; exact oM _)]at o1;rw[<- hsz]at o2;obtain⟨c',q1,q2⟩:=S7 (w:=w) (ty:=tt) (kq:=kq) (k:=k0) (ao:=some ⟨b,0,none⟩) ht hu hi hz hzs hpos hb1 hn hl (by rw[<- hnl]; exact hfit) o2 hlc;rw[<- hvs,<- hnl]at q2;rw[<- hnl]at q1 ⊢;have hlen:(H.set r none).length=H.length:=by simp
  have:=TZ (vV hW r) (e:=e) (ty:=ty) (l:=l++new) (c':=c') (os:=os) (vs:=vs) (rest:=Builtin.zeroCells z.cells (c'-(l.length+new.length))) (by rw[lG,Array.toList_append]; exact o1.append s2) (by rw[oH]; exact q1) (by rw[mO,hzs,hsz,oH]) (s:=Builtin.append_ #[t,u] tt #[.slice (some ⟨b,0,none⟩) l.length c,.int kq (new.length:Int)]) (by rw[oH]; exact q2);rwa[hlen]at this
end
theorem aS6 {t u:TypeId}(h:isLen P #[t,u]=true):∃ k,P.underlying u=some (.int k):=by
 change (match P.underlying u with
  | some (.int _)=>true
  | _=>false)=true at h
 split at h
 ·exact⟨_,by assumption⟩
 ·cases h
theorem aJ9(hW:aN n0 G μ H w){tys:Array TypeId}{tt:TypeId}{p q v:PV}{s x:Value}{cs:List Bool}{H':Heap}{c:Nat}(hlen:isLen P tys=true)(hp:VR w G μ p s)(hq:VR w G μ q x)(h:Y0 P H tys p q=some (cs,v,H',c))(hcs:CF cs=true) :
  c=2/\yB P n0 w G μ (Builtin.append_ tys tt #[s,x]) v H':=by
 unfold Y0 at h;split at h
 ·rename_i t u kq n htys;have htys:tys=#[t,u]:=by apply Array.ext'; simpa using htys
  subst htys;obtain⟨ku,hu⟩:=aS6 hlen;rw[VR]at hq;subst hq;split at h
  ·rename_i e ty hel;obtain⟨ht,hsz0⟩:=C1 hel;split at h
   ·rename_i i hi;have hsz:=PO hsz0 hi;split at h
    ·rename_i z hz;split at h
     ·rename_i d hd;cases hb:(Nat.ble i.bytes 65536&&Nat.beq z.cells.size i.size&&Nat.ble 1 i.size)with
      | false=>rw[hb]at h; cases h
      | true =>
       rw[hb]at h;simp only[oC]at h;simp only[oA]at hb;have hb1:=oL hb.1.1;have hzs:=oE hb.1.2;have hpos:=oL hb.2;have hdz:VRs w G aI (enc ty d) z.cells.toList:=xL ty aI _ d _ hd (yK _);split at h
       ·rename_i r sz;split at h
        ·rename_i k hk;split at h
         ·rename_i g hg;obtain⟨gt,gl⟩:=g;split at h
          ·rename_i l hl;obtain⟨rfl,rfl⟩:=qV hl;cases hm:(Nat.beq sz gt.size&&!k.frozen&&Nat.beq k.ty e&&k.grown)with
           | false=>rw[hm]at h; cases h
           | true =>
            rw[hm]at h;simp only[oC]at h;simp only[oA,Bool.not_eq_true']at hm;obtain⟨⟨⟨m1,m2⟩,m3⟩,m4⟩:=hm;have m1:=oE m1;have m3:=oE m3;subst m1;obtain⟨rfl,rfl,rfl,rfl⟩:=GP h;refine⟨rfl,?_⟩;obtain⟨c1,hcs⟩:=aP hcs;obtain⟨c2,hcs⟩:=aP hcs;obtain⟨c3,_⟩:=aP hcs;rw[aE,Bool.not_eq_true',decide_eq_false_iff_not]at c1 c2;obtain⟨k0,rfl⟩:∃ k0:Nat,n=k0:=⟨n.toNat,by omega⟩;rw[oN];obtain⟨ht1,ht2⟩:=hW.tags r k _ (aJ hk) hg
            have hlenset:(H.set r none).length=H.length:=by simp
            rw[VR]at hp;obtain⟨n,h1,h2⟩:=hp;simp only at ht2;rw[ht2]at h1;cases h1;rcases h2 with ⟨h2,ao,rfl⟩|⟨b,cc,h3,rfl,h5,h6⟩
            ·have hnil:gl=[]:=List.eq_nil_of_length_eq_zero h2;subst hnil;have:=XT (tt:=tt) (kq:=kq) (ao:=ao) (e:=e) ht hu hi hz (vV hW r) hsz hb1 hzs hpos hdz (k0:=k0) (by omega);simpa using this
            ·rw[hlenset];exact aLK ht hu hi hz hW hsz hb1 hzs hdz (by omega) (oL c3) hk m2 m4 m3 hg h3 h5 h6 hpos
          ·cases h
         ·cases h
        ·cases h
       ·rename_i m c0;cases hm:(Nat.beq m 0&&Nat.beq c0 0)with
        | false=>rw[hm]at h; cases h
        | true =>
         rw[hm]at h;simp only[oC]at h;simp only[oA]at hm;have e1:=oE hm.1;have e2:=oE hm.2;subst e1; subst e2;obtain⟨rfl,rfl,rfl,rfl⟩:=GP h;refine⟨rfl,?_⟩;obtain⟨c1,hcs⟩:=aP hcs;obtain⟨c2,_⟩:=aP hcs;rw[aE,Bool.not_eq_true',decide_eq_false_iff_not]at c1 c2;obtain⟨k0,rfl⟩:∃ k0:Nat,n=k0:=⟨n.toNat,by omega⟩;rw[oN];rw[VR]at hp;subst hp;exact XT (tt:=tt) (kq:=kq) (ao:=none) (e:=e) ht hu hi hz hW hsz hb1 hzs hpos hdz (k0:=k0) (by omega)
       ·cases h
     ·cases h
    ·cases h
   ·cases h
  ·cases h
 ·cases h
end Go.PM
namespace Go.PM
open Go Go.RowKit
section
variable {P:Program} {n0:Nat->Prop} {w:World} {G:Gd} {μ:Mp} {H:Heap} {F F':Frm} {a:Act} {nt:Nat}
theorem a4K {xs:Array Operand}{x:Operand}(h:xs.toList=[x]):xs=#[x]:=by apply Array.ext'; simpa using h
theorem a7F {xs:Array Operand}{x y:Operand}(h:xs.toList=[x,y]):xs=#[x,y]:=by apply Array.ext'; simpa using h
theorem aUD {t:TypeId}{op:BinOp}{x y p:PV}{v u:Value}{qx qy:Operand}{cs:List Bool}{H':Heap}{k:Nat}(hx:VR w G μ x v)(hy:VR w G μ y u)(h:aLU P H t op x y=some (cs,p,H',k))(hcs:CF cs=true) :
  H'=H/\∃ v',(∀ w1:World,(do eqGuard op t qx qy v u; binOp op t v u:Sem Value).run P w1=.ok v' w1)/\VR w G μ p v':=by
 unfold aLU at h;split at h
 ·rename_i e hu;split at h
  ·rename_i m c;split at h
   ·rename_i ty l cap e';have h1:=U0 hx;rw[VR]at h1;obtain⟨ao,c',rfl,_,_,h2⟩:=h1;rw[VR]at hy;subst hy;have key:Nat.blt 0 l.length=true->ao.isNone=false:=by
     intro hb;rcases h2 with h2|⟨b,off,rfl,_⟩
     ·exfalso;have h3:0<l.length:=fB hb;cases l with
      | nil=>simp at h3
      | cons a l =>
       have h4:=oZ List.length h2;have h5:=uN ty a;have h6:=ty.size_pos;simp only[aG,List.flatMap_cons,oH,List.length_nil]at h4;omega
     ·rfl
    split at h
    ·simp only[oJ,oP]at h;obtain⟨rfl,rfl,rfl,rfl⟩:=h;have hcs:Nat.blt 0 l.length=true:=by
      cases hb:Nat.blt 0 l.length with
      | true=>rfl
      | false=>simp only[CF,hb]at hcs; cases hcs
     refine⟨rfl,.bool false,λw1=>?_,by rw[VR]⟩;have:=Lib.run_eql_slice_nil w1 t e ao l.length c' m c hu;rw[key hcs]at this;simp[eqGuard,this]
    ·simp only[oJ,oP]at h;obtain⟨rfl,rfl,rfl,rfl⟩:=h;have hcs:Nat.blt 0 l.length=true:=by
      cases hb:Nat.blt 0 l.length with
      | true=>rfl
      | false=>simp only[CF,hb]at hcs; cases hcs
     refine⟨rfl,.bool true,λw1=>?_,by rw[VR]⟩;have:=run_neq_slice_nil_any w1 t e ao l.length c' m c hu;rw[key hcs]at this;simp[eqGuard,this]
    ·cases h
   ·rename_i r lo nn sz;rw[VR]at hx;rw[VR]at hy;subst hy;obtain⟨b,c',mm,_,rfl,_⟩:=hx;split at h
    ·simp only[oJ,oP]at h;obtain⟨rfl,rfl,rfl,rfl⟩:=h;refine⟨rfl,.bool false,λw1=>?_,by rw[VR]⟩;have:=Lib.run_eql_slice_nil w1 t e (some ⟨b,lo*sz,none⟩) nn c' m c hu;simp[eqGuard,this]
    ·simp only[oJ,oP]at h;obtain⟨rfl,rfl,rfl,rfl⟩:=h;refine⟨rfl,.bool true,λw1=>?_,by rw[VR]⟩;have:=run_neq_slice_nil_any w1 t e (some ⟨b,lo*sz,none⟩) nn c' m c hu;simp[eqGuard,this]
    ·cases h
   ·cases h
  ·cases h
 ·cases h
theorem aZE {t:TypeId}{op:BinOp}{x y p:PV}{cs:List Bool}{H':Heap}{c:Nat}(h:aLU P H t op x y=some (cs,p,H',c)):H'=H/\c=0/\∀ H2,aLU P H2 t op x y=some (cs,p,H2,0):=by
 unfold aLU at h;split at h
 ·rename_i e hu;split at h
  ·split at h
   ·split at h
    ·simp only[oJ,oP]at h;obtain⟨rfl,rfl,rfl,rfl⟩:=h;exact⟨rfl,rfl,λH2=>by simp only[aLU,hu]⟩
    ·simp only[oJ,oP]at h;obtain⟨rfl,rfl,rfl,rfl⟩:=h;exact⟨rfl,rfl,λH2=>by simp only[aLU,hu]⟩
    ·cases h
   ·split at h
    ·simp only[oJ,oP]at h;obtain⟨rfl,rfl,rfl,rfl⟩:=h;exact⟨rfl,rfl,λH2=>by simp only[aLU,hu]⟩
    ·simp only[oJ,oP]at h;obtain⟨rfl,rfl,rfl,rfl⟩:=h;exact⟨rfl,rfl,λH2=>by simp only[aLU,hu]⟩
    ·cases h
   ·cases h
  ·cases h
 ·cases h
set_option maxHeartbeats 1000000 in
theorem aX0(hW:aN n0 G μ H w) (hF:fQ w G μ nt F a) {o:Oper} {v:PV} {cs:List Bool} {H':Heap} {k:Nat} (ht:typed P F o=true) (h:top P F H o=some (cs,v,H',k)) (hcs:CF cs=true):F8 P n0 w G μ o a v H':=by
 unfold top at h;split at h
 ·rename_i t x i ho;split at h
  ·rename_i k1 i1 hi;obtain⟨rfl,v',h1,h2⟩:=aFQ (k:=k1) hW (cQ hF x) h hcs;have h3:=cQ hF i;rw[hi,VR]at h3;exact .value (s:=Instr.indexAt t (a.eval x) (a.eval i)) (by simp only[execOp,ho]) (.same hW (by rw[h3]; exact h1) h2)
  ·cases h
 ·rename_i s x f ho;obtain⟨rfl,rfl,v',h1,h2⟩:=aFA (cQ hF x) h;exact .value (by simp only[execOp,ho]) (.same hW h1 h2)
 ·rename_i t x ho;obtain⟨rfl,v',h1,h2⟩:=aR0 hW (cQ hF x) h hcs;exact .value (by simp only[execOp,ho]) (.same hW h1 h2)
 ·rename_i t x y ho;obtain⟨rfl,rfl,w',h1,h2,h3⟩:=aOX hW (cQ hF x) (cQ hF y) h hcs;intro K Q hK;unfold Oper.wp;have hx:(execOp a.eval o).run P w=.ok .skip w':=by simp[execOp,ho,h1]
  rw[hx];exact hK undef w' G μ h2 h3 (by rw[VR])
 ·rename_i x ho;simp only[oJ,oP]at h;obtain⟨rfl,rfl,rfl,rfl⟩:=h;have h1:=cQ hF x;simp only[typed,ho]at ht;obtain⟨b,hb⟩:∃ b,a.eval x=.pointer (some b):=by
   cases hx:ev F x <;> rw[hx]at ht h1 <;> simp only[aLO]at ht <;> try (cases ht; done)
   ·rw[VR]at h1;obtain⟨h2,rfl,_⟩:=h1;rw[VR]at h2;obtain⟨b,off,h3,_⟩:=h2;exact⟨_,h3⟩
   ·rw[VR]at h1;obtain⟨b,_,h3⟩:=h1;exact⟨_,h3⟩
   ·rw[VR]at h1;obtain⟨b,_,h3⟩:=h1;exact⟨_,h3⟩
  exact .pure hW (v':=a.eval x) (by simp[execOp,ho,hb]) h1
 ·rename_i t x lo hi ho;cases hs:isS (ev F x)with
  | true =>
   rw[hs]at h;obtain⟨rfl,rfl,u,h1,rfl⟩:=OS h;exact .value (by simp only[execOp,ho]; rfl) (.same hW (aNW hF (cQ hF x) h1 hcs w) (by rw[VR]))
  | false =>
  rw[hs]at h;obtain⟨rfl,v',h1,h2⟩:=aO5 hW hF (cQ hF x) h hcs w;exact .value (by simp only[execOp,ho]; rfl) (.same hW h1 h2)
 ·rename_i t x i ho;obtain⟨rfl,rfl,u,h1,rfl⟩:=OS h;exact .value (by simp only[execOp,ho]) (.same hW (aUX (cQ hF x) (cQ hF i) h1 hcs w) (by rw[VR]))
 ·rename_i t ho;exact .value (by simp only[execOp,ho]; rfl) (aK0 hW h).2
 ·rename_i t m x ho;obtain⟨rfl,rfl,v',h1,h2⟩:=aK1 hW (cQ hF m) (cQ hF x) h hcs;exact .value (by simp only[execOp,ho]) (.same hW h1 h2)
 ·rename_i t m x y ho;obtain⟨rfl,rfl,w',h1,h2,h3⟩:=aK3 hW (cQ hF m) (cQ hF x) (cQ hF y) h hcs;intro K Q hK;unfold Oper.wp;have hx:(execOp a.eval o).run P w=.ok .skip w':=by simp[execOp,ho,h1]
  rw[hx];exact hK undef w' G μ h2 h3 (by rw[VR])
 ·rename_i t n parts ho;exact .value (by simp only[execOp,ho]) (aDK hW hF h)
 ·rename_i t l c ho;exact .value (by simp only[execOp,ho]) (aE4 hW (cQ hF l) (cQ hF c) h hcs).2
 ·rename_i s d x ho;obtain⟨rfl,h1⟩:=aSW hW (cQ hF x) h;exact .value (by simp only[execOp,ho]) h1
 ·rename_i op t x y ty ho;cases hs:isS (ev F x)with
  | true =>
   rw[hs]at h;obtain⟨rfl,rfl,u,h1,rfl⟩:=OS h;exact .value (by simp only[execOp,ho]) (.same hW (aUS (ox:=x) (oy:=y) (t:=t) (cQ hF x) (cQ hF y) h1 hcs w) (by rw[VR]))
  | false =>
  rw[hs]at h;obtain⟨rfl,v',h1,h2⟩:=aUD (qx:=x) (qy:=y) (cQ hF x) (cQ hF y) h hcs;exact .value (by simp only[execOp,ho]) (.same hW (h1 w) h2)
 ·rename_i c ho;split at h
  ·rename_i hc;split at h
   ·rename_i x hx;have hx:=a4K hx;obtain⟨rfl,v',h1,h2⟩:=aS9 (ty:=o.type) hW (cQ hF x) h;refine .value (s:=Builtin.len_ c.argTypes o.type #[a.eval x]) ?_ (.same hW h1 h2);simp[execOp,ho,resolve,hc,hx,invoke,builtin]
   ·cases h
  ·rename_i hc;split at h
   ·rename_i s x hx;have hx:=a7F hx;refine .value (s:=Builtin.append_ c.argTypes o.type #[a.eval s,a.eval x]) ?_ ?_
    rotate_left
    ·cases hl:isLen P c.argTypes with
     | true=>rw[hl]at h; exact(aJ9 hW hl (cQ hF s) (cQ hF x) h hcs).2
     | false =>
      rw[hl,oD]at h;obtain⟨c0,h1,rfl⟩:=aL3 h;obtain⟨k1,k2⟩:=aIL hcs;exact(aLP hW (cQ hF s) (cQ hF x) k1 h1 k2).2
    simp[execOp,ho,resolve,hc,hx,invoke,builtin]
   ·cases h
  ·rename_i hc;split at h
   ·rename_i x hx;have hx:=a4K hx;refine .value (s:=Builtin.clear_ c.argTypes o.type #[a.eval x]) ?_ (aP8 hW (cQ hF x) h hcs);simp[execOp,ho,resolve,hc,hx,invoke,builtin]
   ·cases h
  ·cases h
 ·cases h
theorem aRW {cl:Callee}{o:Oper}{v:PV}{H':Heap}{k:Nat}(h:opx P cl F H o=some (v,H',k)):(typed P F o=true/\∃ cs,top P F H o=some (cs,v,H',k)/\CF cs=true)\/(typed P F o=false/\opu P cl F H o=some (v,H',k)):=by
 unfold opx at h;cases ht:typed P F o with
 | false=>rw[ht]at h; exact .inr ⟨rfl,h⟩
 | true =>
  rw[ht]at h;simp only[oC]at h;split at h
  ·rename_i cs v1 H1 c1 h1;cases hb:CF cs with
   | false=>rw[hb]at h; cases h
   | true =>
    rw[hb]at h;simp only[oC,oJ,oP]at h;obtain⟨rfl,rfl,rfl⟩:=h;exact .inl ⟨rfl,cs,h1,hb⟩
  ·cases h
theorem aM5 {cl:Callee}(hcl:dF P cl)(hW:aN n0 G μ H w)(hF:fQ w G μ nt F a){o:Oper}{v:PV}{H':Heap}{k:Nat}(h:opx P cl F H o=some (v,H',k)):F8 P n0 w G μ o a v H':=by
 rcases aRW h with ⟨ht,cs,h1,h2⟩|⟨_,h⟩
 ·exact aX0 hW hF ht h1 h2
 ·exact aXK hcl hW hF h
def aHF(c:Nat) (cs:List Bool) (v:PV) (H H':Heap) (f:Heap->FL):Prop:=(c=0->H'=H/\∀ H2,f H2=some (cs,v,H2,0))/\(c=1->H'=H)
def T2(x:FL):Prop:=∀ cs v H' c,x=some (cs,v,H',c)->c=2
theorem T2.no:T2 none:=λ_ _ _ _ h=>by cases h
theorem T2.cond {b:Bool}{x y:FL}(hx:T2 x)(hy:T2 y):T2 (bif b then x else y):=by cases b <;> assumption
theorem T2.grow {H1:Heap}{e:TypeId}{ty:Ty}{l:List ty.den}{cs:List Bool}:T2 (aCY H1 e ty l cs):=λ_ _ _ _ h=>(GP h).2.2.2
theorem T2.yes {cs:List Bool}{v:PV}{H1:Heap}:T2 (some (cs,v,H1,2)):=λ_ _ _ _ h=>by simp only[oJ,oP]at h; exact h.2.2.2.symm
theorem T2.cls {x:FL}(hx:T2 x){cs:List Bool}{v:PV}{H':Heap}{c:Nat}{f:Heap->FL}(h:x=some (cs,v,H',c)):aHF c cs v H H' f:=by
 have:=hx _ _ _ _ h;subst this;exact⟨λh=>(by cases h),λh=>by cases h⟩
theorem aHF.zero {cs cs':List Bool}{v v':PV}{H':Heap}{c:Nat}{f:Heap->FL}(h:some (cs',v',H,0)=some (cs,v,H',c))(hf:∀ H2,f H2=some (cs',v',H2,0)):aHF c cs v H H' f:=by
 simp only[oJ,oP]at h;obtain⟨rfl,rfl,rfl,rfl⟩:=h;exact⟨λ_=>⟨rfl,hf⟩,λ_=>rfl⟩
theorem aHF.one {cs cs':List Bool}{v v':PV}{H':Heap}{c:Nat}{f:Heap->FL}(h:some (cs',v',H,1)=some (cs,v,H',c)):aHF c cs v H H' f:=by
 simp only[oJ,oP]at h;obtain⟨rfl,rfl,rfl,rfl⟩:=h;exact⟨λh=>(by cases h),λ_=>rfl⟩
theorem a18 {b:List Bool}{r:FL}(hr:T2 r):T2 (a3Y b r):=λ_ _ _ _ h=>by
 obtain⟨_,h1,_⟩:=aL3 h;exact hr _ _ _ _ h1
theorem aS1 {tys:Array TypeId}{p q:PV}:T2 (aCZ P H tys p q):=by
 unfold aCZ
 repeat' first
  | exact T2.no
  | exact T2.grow
  | exact T2.yes
  | apply T2.cond
  | split
theorem aOW {tys:Array TypeId}{p q:PV}:T2 (Y0 P H tys p q):=by
 unfold Y0
 repeat' (first|exact T2.no|exact T2.grow|exact T2.yes|refine T2.cond ?_ ?_|split)
theorem aKI {t:TypeId}{p q:PV}:T2 (PX P H t p q):=by
 unfold PX
 repeat' first
  | exact T2.no
  | exact T2.yes
  | apply T2.cond
  | split
theorem aNR {t:TypeId}:T2 (YL P H t):=by
 unfold YL;split
 ·exact .cond .yes .no
 ·exact .no
theorem aQP {t:TypeId}{m x y:PV}:T2 (aDX P H t m x y):=by
 unfold aDX;split
 ·split
  ·exact .cond .yes .no
  ·exact .no
 ·exact .no
theorem aUJ {t:TypeId}{p q:PV}:T2 (aJ1 P H t p q):=by
 unfold aJ1
 repeat' first
  | exact T2.no
  | exact T2.yes
  | apply T2.cond
  | split
theorem aTY {tys:Array TypeId}{p:PV}:T2 (aIS P H tys p):=by
 unfold aIS
 repeat' first
  | exact T2.no
  | exact T2.yes
  | apply T2.cond
  | split
theorem aH {α:Type}{b:Bool}{x:Option α}{y:α}(h:(bif b then x else none)=some y):b=true/\x=some y:=by
 cases b with
 | true=>exact⟨rfl,h⟩
 | false=>cases h
theorem aIF {t:TypeId}{p v:PV}{i:Int}{cs:List Bool}{H':Heap}{c:Nat}(h:uX P H t p i=some (cs,v,H',c)):aHF c cs v H H' λH2=>uX P H2 t p i:=by
 unfold uX at h;split at h
 ·rename_i e hu;split at h
  ·rename_i n hs;split at h
   ·obtain⟨hb,h⟩:=aH h;exact .zero h λH2=>by simp only[uX,hu,hs,hb,oC]
   ·split at h
    ·obtain⟨_,h⟩:=aH h;exact .one h
    ·cases h
   ·obtain⟨hb,h⟩:=aH h;exact .zero h λH2=>by simp only[uX,hu,hs,hb,oC]
   ·obtain⟨hb,h⟩:=aH h;exact .zero h λH2=>by simp only[uX,hu,hs,hb,oC]
   ·cases h
  ·cases h
 ·rename_i n e hu;split at h
  ·rename_i sz hs;split at h
   ·exact .zero h λH2=>by simp only[uX,hu,hs]
   ·cases h
  ·cases h
 ·cases h
theorem aJ8 {t:TypeId}{f:Nat}{p v:PV}{cs:List Bool}{H':Heap}{c:Nat}(h:D3 P H t f p=some (cs,v,H',c)):aHF c cs v H H' λH2=>D3 P H2 t f p:=by
 unfold D3 at h;split at h
 ·rename_i fd hf;split at h
  ·rename_i n hs;split at h
   ·exact .zero h λH2=>by simp only[D3,hf,hs]
   ·exact .zero h λH2=>by simp only[D3,hf,hs]
   ·cases h
  ·cases h
 ·cases h
theorem aYB {t:TypeId}{p v:PV}{cs:List Bool}{H':Heap}{c:Nat}(h:aJS P H t p=some (cs,v,H',c)):aHF c cs v H H' λH2=>aJS P H2 t p:=by
 unfold aJS at h;split at h
 ·split at h
  ·rename_i u hu;exact .zero h λH2=>by simp only[aJS,hu]
  ·cases h
 ·split at h
  ·obtain⟨_,h⟩:=aH h;split at h
   ·exact .one h
   ·cases h
  ·cases h
 ·split at h
  ·split at h
   ·obtain⟨_,h⟩:=aH h;split at h
    ·exact .one h
    ·cases h
   ·cases h
  ·cases h
 ·cases h
theorem a1Z {tys:Array TypeId}{p v:PV}{cs:List Bool}{H':Heap}{c:Nat}(h:aP7 P H tys p=some (cs,v,H',c)):aHF c cs v H H' λH2=>aP7 P H2 tys p:=by
 unfold aP7 at h;split at h
 ·rename_i t ts ht;split at h
  ·rename_i e hu;split at h
   ·exact .zero h λH2=>by simp only[aP7,ht,hu]
   ·split at h
    ·exact .one h
    ·cases h
   ·exact .zero h λH2=>by simp only[aP7,ht,hu]
   ·exact .zero h λH2=>by simp only[aP7,ht,hu]
   ·cases h
  ·cases h
 ·cases h
theorem aS4 {t:TypeId}{p v:PV}{lo hi:Option PV}{cs:List Bool}{H':Heap}{c:Nat}(h:SD P H t p lo hi=some (cs,v,H',c)):aHF c cs v H H' λH2=>SD P H2 t p lo hi:=by
 unfold SD at h;split at h
 ·rename_i e hu;split at h
  ·rename_i n hs;split at h
   ·obtain⟨hb,h⟩:=aH h;split at h
    ·rename_i b1 i b2 j h1 h2;exact .zero h λH2=>by simp only[SD,hu,hs,hb,oC,h1,h2]
    ·cases h
   ·split at h
    ·rename_i g hg;obtain⟨hb,h⟩:=aH h;unfold aHS at h;split at h
     ·
      cases hz:(aKF g.t&&Nat.beq g.l.length 0)with
      | true=>rw[hz]at h; exact .one h
      | false=>rw[hz]at h; exact .one h
     ·cases h
    ·cases h
   ·obtain⟨hb,h⟩:=aH h;split at h
    ·rename_i b1 i b2 j h1 h2;exact .zero h λH2=>by simp only[SD,hu,hs,hb,oC,h1,h2]
    ·cases h
   ·obtain⟨hb,h⟩:=aH h;split at h
    ·rename_i b1 i b2 j h1 h2;exact .zero h λH2=>by simp only[SD,hu,hs,hb,oC,h1,h2]
    ·cases h
   ·cases h
  ·cases h
 ·cases h
theorem aHI {t:TypeId}{n:Nat}{parts:List (Nat×Operand)}{v:PV}{cs:List Bool}{H':Heap}{c:Nat}(h:zW P F H t n parts=some (cs,v,H',c)):aHF c cs v H H' λH2=>zW P F H2 t n parts:=by
 unfold zW at h;split at h
 ·rename_i e ty hel;split at h
  ·rename_i z hz;obtain⟨hb,h⟩:=aH h;split at h
   ·refine T2.cls ?_ h
    repeat' first
     | exact T2.no
     | exact T2.yes
     | apply T2.cond
     | split
   rename_i had;split at h
   ·rename_i ho;split at h
    ·rename_i ps hps;split at h
     ·rename_i cc hcc;split at h
      ·rename_i l hl;exact .zero h λH2=>by simp only[zW,hel,hz,hb,oC,had,ho,hps,hcc,hl]
      ·cases h
     ·cases h
    ·cases h
   ·dsimp only at h;refine T2.cls ?_ h
    repeat' first
     | exact T2.no
     | exact T2.yes
     | apply T2.cond
     | split
  ·cases h
 ·cases h
theorem a2V {o:Oper}{v:PV}{cs:List Bool}{H':Heap}{k:Nat}(h:top P F H o=some (cs,v,H',k)):aHF k cs v H H' λH2=>top P F H2 o:=by
 unfold top at h;split at h
 ·rename_i t x i ho;split at h
  ·rename_i k1 i1 hi;have:=aIF h;simpa only[top,ho,hi]using this
  ·cases h
 ·rename_i s x f ho;have:=aJ8 h;simpa only[top,ho]using this
 ·rename_i t x ho;have:=aYB h;simpa only[top,ho]using this
 ·exact aUJ.cls h
 ·rename_i x ho;exact .zero h λH2=>by simp only[top,ho]
 ·rename_i t x lo hi ho;cases hs:isS (ev F x)with
  | true =>
   rw[hs]at h;obtain⟨rfl,rfl,u,h1,rfl⟩:=OS h;exact⟨λ_=>⟨rfl,λH2=>by simp only[top,ho,hs,oC,h1,aR7]⟩,λ_=>rfl⟩
  | false =>
  rw[hs]at h;have:=aS4 h;simpa only[top,ho,hs,oD]using this
 ·rename_i t x i ho;obtain⟨rfl,rfl,u,h1,rfl⟩:=OS h;exact⟨λ_=>⟨rfl,λH2=>by simp only[top,ho,h1,aR7]⟩,λ_=>rfl⟩
 ·exact aNR.cls h
 ·rename_i t m x ho;unfold aH2 at h;split at h
  ·split at h
   ·obtain⟨_,h⟩:=aH h;exact .one h
   ·cases h
  ·cases h
 ·exact aQP.cls h
 ·rename_i t n parts ho;have:=aHI h;simpa only[top,ho]using this
 ·exact aKI.cls h
 ·rename_i s d x ho;unfold aRI at h;split at h
  ·rename_i b hb;obtain⟨hc,h⟩:=aH h;exact .zero h λH2=>by simp only[top,ho,aRI,hb,hc,oC]
  ·obtain⟨hc,h⟩:=aH h;split at h
   ·split at h
    ·exact .one h
    ·cases h
   ·cases h
  ·cases h
 ·rename_i op t x y ty ho;cases hs:isS (ev F x)with
  | true =>
   rw[hs]at h;obtain⟨rfl,rfl,u,h1,rfl⟩:=OS h;exact⟨λ_=>⟨rfl,λH2=>by simp only[top,ho,hs,oC,h1,aR7]⟩,λ_=>rfl⟩
  | false =>
  rw[hs]at h;obtain⟨rfl,rfl,h3⟩:=aZE h;exact⟨λ_=>⟨rfl,λH2=>by simpa only[top,ho,hs,oD]using h3 H2⟩,λ_=>rfl⟩
 ·rename_i c ho;split at h
  ·rename_i hc;split at h
   ·rename_i x hx;have:=a1Z h;simpa only[top,ho,hc,hx]using this
   ·cases h
  ·split at h
   ·exact(T2.cond aOW (a18 aS1)).cls h
   ·cases h
  ·split at h
   ·exact aTY.cls h
   ·cases h
  ·cases h
 ·cases h
theorem aWP {cl:Callee}(hcl:dF P cl){o:Oper}{v:PV}{H':Heap}{k:Nat}(h:opx P cl F H o=some (v,H',k)):aAO k H H' v (λH2=>opx P cl F H2 o):=by
 rcases aRW h with ⟨ht,cs,h1,h2⟩|⟨ht,h⟩
 ·obtain⟨a1,a2⟩:=a2V h1;refine⟨λhk=>⟨(a1 hk).1,λH2=>?_⟩,a2⟩;simp only[opx,ht,oC,(a1 hk).2 H2,h2]
 ·obtain⟨a1,a2⟩:=a30 hcl h;refine⟨λhk=>⟨(a1 hk).1,λH2=>?_⟩,a2⟩;simp only[opx,ht,oD,(a1 hk).2 H2]
theorem aYM {cl:Callee}{o:Oper}(h:∀ x∈o.op.operands,ev F' x=ev F x):opx P cl F' H o=opx P cl F H o:=by
 have hu:=aYA (P:=P) (cl:=cl) (H:=H) h;have hm:∀ {xs:List Operand},(∀ x∈xs,x∈o.op.operands)->xs.map (ev F')=xs.map (ev F):=λhx=>List.map_congr_left λx hm=>h x (hx x hm)
 have both:typed P F' o=typed P F o/\top P F' H o=top P F H o:=by
  unfold typed top;cases hop:o.op
  case makeMap t r=>cases r <;> exact⟨rfl,rfl⟩
  case lookup t m x c =>
   have h1:=h m (by simp[hop,Op.operands]);have h2:=h x (by simp[hop,Op.operands]);cases c
   ·simp only[h1,h2,and_self]
   ·exact⟨rfl,rfl⟩
  case buildSlice t n parts =>
   have:=SR (F:=F) (F':=F') (ps:=parts.toList) λp hpm=>h p.2 (by simp only[hop,Op.operands]; simp; exact⟨p.1,by simpa using hpm⟩)
   have had:∀ ty,aEM F' ty n parts.toList=aEM F ty n parts.toList:=λty=>by
    unfold aEM;split
    ·split
     ·rename_i x hpl;rw[h x (by simp only[hop,Op.operands]; simp; exact⟨0,by simpa using (show (0,x)∈parts.toList by rw[hpl]; exact List.mem_cons_self)⟩)]
     ·rfl
    ·rfl
   simp only[zW,this,had,and_self]
  case slice t x lo hi mx =>
   have hx:=h x (by simp[hop,Op.operands]);have hlo:lo.map (ev F')=lo.map (ev F):=by
    cases lo with
    | none=>rfl
    | some y=>simp[h y (by simp[hop,Op.operands])]
   have hhi:hi.map (ev F')=hi.map (ev F):=by
    cases hi with
    | none=>rfl
    | some y=>simp[h y (by simp[hop,Op.operands])]
   cases mx <;> simp only[hx,hlo,hhi,and_self]
  case call c =>
   have hargs:=hm (xs:=c.args.toList) λx hx=>by simp[hop,Op.operands,Call.operands]; exact .inr (by simpa using hx)
   have h0:ev F' (c.args.getD 0 (.const undef))=ev F (c.args.getD 0 (.const undef)):=by
    by_cases h1:0<c.args.size
    ·refine h _ ?_;simp only[hop,Op.operands,Call.operands,Array.mem_append];right;simp[h1]
    ·have:c.args=#[]:=Array.eq_empty_of_size_eq_zero (by omega);rw[this]; rfl
   have h1:∀ s,c.args.toList=[s]->ev F' s=ev F s:=λs hc=>by
    have:=hargs;rw[hc]at this;simpa using this
   have h2:∀ s x,c.args.toList=[s,x]->ev F' s=ev F s/\ev F' x=ev F x:=λs x hc=>by
    have:=hargs;rw[hc]at this;simpa using this
   constructor
   ·simp only[h0];split
    ·rfl
    ·rfl
    ·cases hl:c.args.toList with
     | nil=>rfl
     | cons s l =>
      cases l with
      | nil=>rfl
      | cons x l =>
       cases l with
       | nil=>(cases c.argTypes.toList <;> first|rfl|simp only[(h2 s x hl).1])
       | cons y l=>rfl
    ·rfl
   ·simp only;split
    ·cases hl:c.args.toList with
     | nil=>rfl
     | cons s l =>
      cases l with
      | nil=>simp only[h1 s hl]
      | cons x l=>rfl
    ·cases hl:c.args.toList with
     | nil=>rfl
     | cons s l =>
      cases l with
      | nil=>rfl
      | cons x l =>
       cases l with
       | nil=>simp only[(h2 s x hl).1,(h2 s x hl).2]
       | cons y l=>rfl
    ·cases hl:c.args.toList with
     | nil=>rfl
     | cons s l =>
      cases l with
      | nil=>simp only[h1 s hl]
      | cons x l=>rfl
    ·rfl
  all_goals
   first
   | exact⟨rfl,rfl⟩
   | (simp only[hop,Op.operands]at h
      simp at h;simp[h])
 unfold opx;rw[both.1,both.2,hu]
end
variable {P:Program} {n0:Nat->Prop} {w:World} {G:Gd} {μ:Mp} {H:Heap}
def aFX(P:Program) (t:TypeId) (l c:PV):Option (List Bool×PV) :=
 match IE P t,l,c with
 | some (e,ty),.lit (.int _ l),.lit (.int _ c)=>match P.info? e with
  | some i=>match i.zero with
   | some z=>match dec ty (lits z.cells)with
    | some d=>bif Nat.ble i.bytes 65536&&Nat.beq z.cells.size i.size then
      some ([!ltI l 0,!ltI c l,!ltI 1048576 c],L4 ty (List.replicate l.toNat d) (some c.toNat))
     else none
    | none=>none
   | none=>none
  | none=>none
 | _,_,_=>none
theorem aHO(hW:aN n0 G μ H w){t:TypeId}{p q v:PV}{x y:Value}{cs:List Bool}(hp:VR w G μ p x)(hq:VR w G μ q y)(h:aFX P t p q=some (cs,v))(hcs:CF cs=true) :
  yB P n0 w G μ (Instr.makeSlice t x y) v H:=by
 unfold aFX at h;split at h
 ·rename_i e ty kl l kc cc hel;rw[VR]at hp hq;subst hp; subst hq;obtain⟨hu,hs⟩:=C1 hel;split at h
  ·rename_i i hi;have hsz:=PO hs hi;split at h
   ·rename_i z hz;split at h
    ·rename_i d hd;cases hb:(Nat.ble i.bytes 65536&&Nat.beq z.cells.size i.size)with
     | false=>rw[hb]at h; cases h
     | true =>
      rw[hb]at h;simp only[oC,oJ,oP]at h;obtain⟨rfl,rfl⟩:=h;simp only[oA]at hb;have hb1:=oL hb.1;have hb2:=oE hb.2;obtain⟨c1,hcs⟩:=aP hcs;obtain⟨c2,hcs⟩:=aP hcs;obtain⟨c3,_⟩:=aP hcs;rw[aE,Bool.not_eq_true',decide_eq_false_iff_not]at c1 c2 c3;have hbytes:(i.bytes:Int)*cc<=281474976710656:=by
       have:(i.bytes:Int)*cc<=65536*1048576:=Int.mul_le_mul (by omega) (by omega) (by omega) (by omega);omega
      have hr:=run_make (P:=P) w t e i z hu hi hz kl kc l cc (by omega) (by omega) hbytes (by omega);have hdz:VRs w G aI (enc ty d) z.cells.toList:=xL ty aI _ d _ hd (yK _);have hrep:=xG hdz l.toNat;have hmade:(madeCells z.cells (cc.toNat*i.size)).toList=(List.replicate cc.toNat z.cells.toList).flatten:=by rw[<- hb2]; exact C2 z.cells cc.toNat
      have hsplit:(List.replicate cc.toNat z.cells.toList).flatten=(List.replicate l.toNat z.cells.toList).flatten++(List.replicate (cc.toNat-l.toNat) z.cells.toList).flatten:=by
       rw[<- List.flatten_append,List.replicate_append_replicate]
       congr 2; omega
      obtain⟨e1,e2⟩:=ZS hW (.cells (madeCells z.cells (cc.toNat*i.size)) e);refine⟨_,_,_,_,hr,e1,e2,ZV ?_⟩;rw[VR];refine⟨_,_,by rw[List.length_replicate],by rw[List.length_replicate]; omega,λk hk=>by cases hk; rfl,.inr ⟨w.heap.size,0,rfl,.inr rfl,?_⟩⟩;refine aL.mk λj p hp=>?_
      obtain⟨u,g1,g2⟩:=hrep.get hp;refine⟨u,?_,VR.mono e1.toMono.aI p u g2⟩;rw[Nat.zero_add,World.cell?_alloc_new,<- Array.getElem?_toList,hmade,hsplit,List.getElem?_append_left (oO.1 g1).1];exact g1
    ·cases h
   ·cases h
  ·cases h
 ·cases h
def S9(P:Program) (H:Heap) (t:TypeId) (l c:PV):FL :=
 match IE P t,l,c with
 | some (e,ty),.lit (.int _ l),.lit (.int _ c)=>match P.info? e with
  | some i=>match i.zero with
   | some z=>match dec ty (lits z.cells)with
    | some d=>bif Nat.ble i.bytes 65536&&Nat.beq z.cells.size i.size then
      some ([!ltI l 0,!ltI c l,!ltI 1048576 c],.win H.length 0 l.toNat ty.size,H++[some ⟨aG ty (List.replicate c.toNat d),e,true,false,some ⟨ty,List.replicate c.toNat d⟩⟩],2)
     else none
    | none=>none
   | none=>none
  | none=>none
 | _,_,_=>none
theorem aJL(hW:aN n0 G μ H w){t:TypeId}{p q v:PV}{x y:Value}{cs:List Bool}{H':Heap}{c:Nat}(hp:VR w G μ p x)(hq:VR w G μ q y)(h:S9 P H t p q=some (cs,v,H',c))(hcs:CF cs=true) :
  c=2/\yB P n0 w G μ (Instr.makeSlice t x y) v H':=by
 unfold S9 at h;split at h
 ·rename_i e ty kl l kc cc hel;rw[VR]at hp hq;subst hp; subst hq;obtain⟨hu,hs⟩:=C1 hel;split at h
  ·rename_i i hi;have hsz:=PO hs hi;split at h
   ·rename_i z hz;split at h
    ·rename_i d hd;cases hb:(Nat.ble i.bytes 65536&&Nat.beq z.cells.size i.size)with
     | false=>rw[hb]at h; cases h
     | true =>
      rw[hb]at h;simp only[oC,oJ,oP]at h;obtain⟨rfl,rfl,rfl,rfl⟩:=h;refine⟨rfl,?_⟩;simp only[oA]at hb;have hb1:=oL hb.1;have hb2:=oE hb.2;obtain⟨c1,hcs⟩:=aP hcs;obtain⟨c2,hcs⟩:=aP hcs;obtain⟨c3,_⟩:=aP hcs;rw[aE,Bool.not_eq_true',decide_eq_false_iff_not]at c1 c2 c3;have hbytes:(i.bytes:Int)*cc<=281474976710656:=by
       have:(i.bytes:Int)*cc<=65536*1048576:=Int.mul_le_mul (by omega) (by omega) (by omega) (by omega);omega
      have hr:=run_make (P:=P) w t e i z hu hi hz kl kc l cc (by omega) (by omega) hbytes (by omega);have hdz:VRs w G aI (enc ty d) z.cells.toList:=xL ty aI _ d _ hd (yK _);have hrep:=xG hdz cc.toNat;have hmade:(madeCells z.cells (cc.toNat*i.size)).toList=(List.replicate cc.toNat z.cells.toList).flatten:=by rw[<- hb2]; exact C2 z.cells cc.toNat
      have hk:=DX (on:=some cc.toNat) hW (madeCells z.cells (cc.toNat*i.size)) ⟨aG ty (List.replicate cc.toNat d),e,true,false,some ⟨ty,List.replicate cc.toNat d⟩⟩ (λj p hp=>by
       obtain⟨u,g1,g2⟩:=hrep.get hp;refine⟨u,?_,g2.aY⟩;rw[<- Array.getElem?_toList,hmade];exact g1) (λh=>by cases h) rfl (λg hg=>by cases hg; exact⟨rfl,by simp⟩)
      refine⟨_,_,G,_,hr,BQ hW _ _ _,hk,?_⟩;rw[VR];refine⟨w.heap.size,cc.toNat,cc.toNat,gK _ _ _ _,by rw[Nat.zero_mul],by omega,⟨madeCells z.cells (cc.toNat*i.size),e,(0,0),?_,?_⟩,qC _ _ _ _,by omega,by omega⟩
      ·show (w.heap.push _)[w.heap.size]?=_;simp
      ·simp[madeCells,hsz]
    ·cases h
   ·cases h
  ·cases h
 ·cases h
end Go.PM
namespace Go.PM
open Go Go.RowKit
def guardOf(F:Frm) (l:List Oper) (o:Oper):Option Bool :=
 match o.guard with
 | none=>some true
 | some (j,want)=>match l[j]? with
  | some p=>match p.dst with
   | some t=>match cV F t with
    | .lit (.bool b)=>some (bif b then want else !want)
    | .lit _=>some false
    | _=>none
   | none=>none
  | none=>none
def LF(nt:Nat)(F:Frm)(d:Option Tmp)(v:PV):Option Frm :=
 match d with
 | none=>some F
 | some t=>bif Nat.blt t nt then some ((t,v)::F) else none
def aZ9(l:List Oper):Option Tmp->Bool
 | none=>false
 | some t=>l.any λo=>match o.op with
  | .call c=>match c.callee with
   | .value _=>c.args.toList.any λx=>match x with
    | .tmp s=>Nat.beq s t
    | _=>false
   | _=>false
  | .buildSlice _ _ ps=>ps.toList.any λx=>match x.2 with
   | .tmp s=>Nat.beq s t
   | _=>false
  | .build _ ps=>ps.toList.any λx=>match x.2 with
   | .tmp s=>Nat.beq s t
   | _=>false
  | .store _ (.tmp a) (.tmp s)=>Nat.beq s t&&l.any λo=>match o.dst,o.op with
   | some b,.fieldAddr _ _ _=>Nat.beq a b
   | _,_=>false
  | _=>false
def aI6(l:List Oper):Option Tmp->Bool
 | none=>false
 | some t=>l.any λo=>match o.op with
  | .call c=>match c.callee with
   | .builtin .append=>match c.args.toList with
    | .tmp s::_=>Nat.beq s t
    | _=>false
   | _=>false
  | _=>false
def opz(P:Program) (cl:Callee) (l:List Oper) (F:Frm) (H:Heap) (o:Oper):Option (PV×Heap×Nat):=match o.op with
 | .makeSlice t n c=>bif aI6 l o.dst then (match S9 P H t (ev F n) (ev F c)with
   | some (cs,v,H',k)=>bif CF cs then some (v,H',k) else none
   | none=>none) else opx P cl F H o
 | _=>opx P cl F H o
def mkData(P:Program) (F:Frm) (l:List Oper) (o:Oper):Option (Option (List Bool×PV)):=match o.op with
 | .makeSlice t n c=>bif aZ9 l o.dst then some (aFX P t (ev F n) (ev F c)) else none
 | _=>none
def p5(P:Program)(cl:Callee)(l:List Oper)(o:Oper)(F:Frm)(H:Heap):Option (PV×Heap×Nat) :=
 match guardOf F l o with
 | some true=>match mkData P F l o with
  | none=>opz P cl l F H o
  | some none=>none
  | some (some (cs,v))=>bif CF cs then some (v,H,0) else none
 | some false=>some (.lit undef,H,0)
 | none=>none
def SS(P:Program)(cl:Callee)(nt:Nat)(l:List Oper):List Oper->Frm->Heap->Option (Frm×Heap)
 | [],F,H=>some (F,H)
 | o::rest,F,H=>match p5 P cl l o F H with
  | some (v,H',c)=>fPV v λv=>match LF nt F o.dst v with
   | some F'=>bif Nat.beq c 2 then aC8 H' λH'=>SS P cl nt l rest F' H' else SS P cl nt l rest F' H'
   | none=>none
  | none=>none
section
variable {P:Program} {cl:Callee} {n0:Nat->Prop} {nt:Nat} {wi:World} {Gi:Gd} {μi:Mp} {w:World} {G:Gd} {μ:Mp} {F:Frm} {H:Heap} {a:Act}
theorem BP(hF:fQ w G μ nt F a){ops:Array Oper}{o:Oper}{b:Bool}(h:guardOf F ops.toList o=some b):Region.wanted o (yielded ops a.tmps)=b:=by
 unfold guardOf at h;unfold Region.wanted;split at h
 ·rename_i hg;simp only[oJ]at h;rw[hg,<- h]
 ·rename_i j want hg;rw[hg];simp only;split at h
  ·rename_i p hp;have hp:ops[j]?=some p:=by simpa using hp
   split at h
   ·rename_i t ht;have hs:=hF.slot t;have hy:yielded ops a.tmps j=match a.tmps[t]? with|some (.bool b)=>some b|_=>none:=by
     unfold yielded;simp only[hp,Option.bind_some,ht];rfl
    rw[hy];split at h
    ·rename_i c hc;rw[hc,VR]at hs;simp only[oJ]at h;have:a.tmps[t]?=some (.bool c):=by
      rcases oG t a.tmps.size with hl|hl
      ·simp only[Array.getD,hl,dif_pos]at hs;rw[Array.getElem?_eq_getElem hl,<- hs]; rfl
      ·simp only[Array.getD,Nat.not_lt.2 hl,dif_neg,not_false_iff]at hs;cases hs
     rw[this,<- h];cases c <;> cases want <;> rfl
    ·rename_i u hno hc;rw[hc,VR]at hs;simp only[oJ]at h;rw[<- h];rcases oG t a.tmps.size with hl|hl
     ·have:a.tmps[t]?=some u:=by
       simp only[Array.getD,hl,dif_pos]at hs;rw[Array.getElem?_eq_getElem hl,<- hs]; rfl
      rw[this];cases u <;> first|rfl|exact absurd rfl (hno _)
     ·rw[Array.getElem?_eq_none hl]; rfl
    ·cases h
   ·cases h
  ·cases h
def I(n0:Nat->Prop) (wi:World) (Gi:Gd) (μi:Mp) (nt:Nat) (F:Frm) (H:Heap) (a:Act) (w:World):Prop :=
 ∃ G μ,Ext n0 wi Gi μi w G μ/\aN n0 G μ H w/\fQ w G μ nt F a
theorem fQ.aCQ (h:fQ w G μ nt F a){d:Option Tmp}{p:PV}{v:Value}{F':Frm}(hx:LF nt F d p=some F')(hv:VR w G μ p v):fQ w G μ nt F' (a.put d v):=by
 cases d with
 | none=>simp only[LF,oJ]at hx; subst hx; exact h
 | some t =>
  simp only[LF]at hx;cases hb:Nat.blt t nt with
  | false=>rw[hb]at hx; cases hx
  | true =>
   rw[hb]at hx;simp only[oC,oJ]at hx;subst hx;exact h.cons (by have:=oL hb; omega) hv
theorem aO2(hW:aN n0 G μ H w)(hF:fQ w G μ nt F a){l:List Oper}{o:Oper}{cs:List Bool}{v:PV}(h:mkData P F l o=some (some (cs,v)))(hcs:CF cs=true):F8 P n0 w G μ o a v H:=by
 unfold mkData at h;split at h
 ·rename_i t x y ho;cases hb:aZ9 l o.dst with
  | false=>rw[hb]at h; cases h
  | true =>
   rw[hb]at h;simp only[oC,oJ]at h;exact .value (by simp only[execOp,ho]) (aHO hW (cQ hF x) (cQ hF y) h hcs)
 ·cases h
theorem aW4(hcl:dF P cl)(hW:aN n0 G μ H w)(hF:fQ w G μ nt F a){l:List Oper}{o:Oper}{v:PV}{H':Heap}{k:Nat}(h:opz P cl l F H o=some (v,H',k)):F8 P n0 w G μ o a v H':=by
 unfold opz at h;split at h
 ·rename_i t n c ho;cases hb:aI6 l o.dst with
  | false=>rw[hb]at h; exact aM5 hcl hW hF h
  | true =>
   rw[hb]at h;simp only[oC]at h;split at h
   ·rename_i cs v1 H1 k1 h1;obtain⟨hcs,h⟩:=aH h;simp only[oJ,oP]at h;obtain⟨rfl,rfl,rfl⟩:=h;exact .value (by simp only[execOp,ho]) (aJL hW (cQ hF n) (cQ hF c) h1 hcs).2
   ·cases h
 ·exact aM5 hcl hW hF h
theorem aNQ {t:TypeId}{p q:PV}:T2 (S9 P H t p q):=by
 unfold S9
 repeat' first
  | exact T2.no
  | exact T2.yes
  | apply T2.cond
  | split
theorem a2N(hcl:dF P cl){l:List Oper}{o:Oper}{v:PV}{H':Heap}{k:Nat}(h:opz P cl l F H o=some (v,H',k)):aAO k H H' v (λH2=>opz P cl l F H2 o):=by
 unfold opz at h ⊢;split at h
 ·rename_i t n c ho;cases hb:aI6 l o.dst with
  | false =>
   rw[hb]at h;simp only[oD]at h ⊢;exact aWP hcl h
  | true =>
   rw[hb]at h;simp only[oC]at h;split at h
   ·rename_i cs v1 H1 k1 h1;obtain⟨hcs,h⟩:=aH h;simp only[oJ,oP]at h;obtain⟨rfl,rfl,rfl⟩:=h;have:=aNQ _ _ _ _ h1;subst this;exact⟨λh=>(by cases h),λh=>by cases h⟩
   ·cases h
 ·exact aWP hcl h
theorem HS(hcl:dF P cl){ops:Array Oper}{o:Oper}{v:PV}{H':Heap}{c:Nat}(h:p5 P cl ops.toList o F H=some (v,H',c))(hW:aN n0 G μ H w)(hF:fQ w G μ nt F a) :
  (Region.wanted o (yielded ops a.tmps)=true/\F8 P n0 w G μ o a v H')\/(Region.wanted o (yielded ops a.tmps)=false/\v=.lit undef/\H'=H):=by
 unfold p5 at h;split at h
 ·rename_i hg;split at h
  ·exact .inl ⟨BP hF hg,aW4 hcl hW hF h⟩
  ·cases h
  ·rename_i cs v' hm;cases hb:CF cs with
   | false=>rw[hb]at h; cases h
   | true =>
    rw[hb]at h;simp only[oC,oJ,oP]at h;obtain⟨rfl,rfl,rfl⟩:=h;exact .inl ⟨BP hF hg,aO2 hW hF hm hb⟩
 ·rename_i hg;simp only[oJ,oP]at h;obtain⟨rfl,rfl,rfl⟩:=h;exact .inr ⟨BP hF hg,rfl,rfl⟩
 ·cases h
theorem A9(hcl:dF P cl){ops:Array Oper}{Q:Exit->Act->World->Prop}{F':Frm}{H':Heap}:∀ (l:List Oper) (F:Frm) (H:Heap) (a:Act) (w:World),SS P cl nt ops.toList l F H=some (F',H')->I n0 wi Gi μi nt F H a w ->
  (∀ a' w',I n0 wi Gi μi nt F' H' a' w'->Q .normal a' w')->wpList P ops Q l a w
 | [],F,H,a,w,h,hI,hQ=>by
  simp only[SS,oJ,oP]at h;obtain⟨rfl,rfl⟩:=h;exact hQ a w hI
 | o::rest,F,H,a,w,h,hI,hQ=>by
  simp only[SS]at h;split at h
  ·rename_i v H1 c hs;rw[aB2]at h;split at h
   ·rename_i F1 hp;rw[H6,Bool.cond_self]at h;obtain⟨G,μ,e,hW,hF⟩:=hI;unfold wpList;rcases HS hcl hs hW hF with ⟨h1,h2⟩|⟨h1,rfl,rfl⟩
    ·rw[if_pos h1];refine .inl (h2 _ _ λv' w' G' μ' e' hW' hv=>?_);exact A9 hcl rest F1 H1 _ _ h ⟨G',μ',e.trans e',hW',(hF.mono e'.toMono).aCQ hp hv⟩ hQ
    ·rw[h1,if_neg (by decide)];exact A9 hcl rest F1 H1 _ _ h ⟨G,μ,e,hW,hF.aCQ hp (by rw[VR])⟩ hQ
   ·cases h
  ·cases h
end
end Go.PM
