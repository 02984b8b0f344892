/- Texts of one proof, joined (1). -/
import Derived.Shelf.Small.Wraps
import Derived.Shelf.Strconv.Atoi
import Derived.Shelf.Strconv.Itoa0
import Derived.Shelf.Strconv.Itoa1
import Derived.Shelf.LaysM
import Derived.Shelf.Strconv.Itoa2
import Derived.Shelf.Strconv.Itoa3
import Derived.Shelf.Strconv.AtoiErrFast
import Derived.Shelf.Strconv.ParseIntEmpty
import Derived.Shelf.Strconv.AtoiFail
import Derived.Shelf.Strconv.Clone
import Derived.Shelf.Strconv.SyntaxError
import Derived.Shelf.LaysC
import Derived.Shelf.Strconv.ToError
import Derived.Shelf.Strconv.Lower
import Derived.Shelf.Strconv.ParseUint10
import Derived.Shelf.Strconv.ParseUint10Empty
import Derived.Shelf.Strconv.ParseUint10Any
import Derived.Shelf.Strconv.ParseInt10
import Derived.Shelf.Strconv.AtoiLong
import Derived.Shelf.Strconv.AtoiInnerAll
import Derived.Shelf.Strconv.RangeError
import Derived.Shelf.Strconv.ToErrorRange
import Derived.Shelf.Strconv.AtoiAll
import Derived.Shelf.Strconv.ParseUintEmpty
import Derived.Shelf.Strconv.ParseUint10b64
import Derived.Shelf.Strconv.ParseUint10b32
import Derived.Shelf.Strconv.ParseUint10b16
import Derived.Shelf.Strconv.ParseUint10b8
import Derived.Shelf.Strconv.ParseUint10At
import Derived.Shelf.Strconv.ParseInt10At64
import Derived.Shelf.Strconv.ParseInt10At32
import Derived.Shelf.Strconv.ParseInt10At16
import Derived.Shelf.Strconv.ParseInt10At8
import Derived.Shelf.Strconv.ParseInt10All
import Derived.Shelf.Strconv.ParseIntPublic10
import Derived.Ground.MpProg
import Derived.Shelf.Pu.ParseUintPublic10
import Derived.Test.YtmghkhgpkefgeaaGreatDoorProg
import Derived.WalkKit
import Derived.Deep.LoopGhost
import Derived.Orders
import Derived.OwnWalk
import Derived.Laws.Tables
import Derived.Laws.MakeOwn
import Derived.ChangeKeysEq
import Derived.Laws.Append
set_option linter.unusedSimpArgs false
set_option linter.unusedVariables false
theorem Z {p:Prop}(h:p:=by omega):p:=h
theorem za {p:Prop}(h:p:=by omega):p:=h
theorem Y {p:Prop}(h:p:=by kernel_rfl):p:=h
theorem zb {p:Prop}(h:p:=by kernel_rfl):p:=h
theorem O {p:Prop}(h:p:=by decide):p:=h
theorem zd {p:Prop}(h:p:=by decide):p:=h
theorem R {p:Prop}(h:p:=by simp):p:=h
theorem ze {p:Prop}(h:p:=by simp):p:=h
theorem W {p:Prop}(h:p:=by grind):p:=h
theorem zf {p:Prop}(h:p:=by grind):p:=h
theorem U{α:Type}{a b:α}(h:a=b:=by kernel_rfl):some a=some b:=congrArg some h
theorem zc{α:Type}{a b:α}(h:a=b:=by kernel_rfl):some a=some b:=congrArg some h
noncomputable section
namespace Go.Proofs
open Go.Shelf Tryz
def Tryz.aYT:Go.Shelf.Ren:=⟨fun|172=>212|244=>232|245=>233|247=>241|279=>242|280=>243|281=>244|282=>245|287=>252|316=>253|171=>185|205=>254|321=>259|322=>260|243=>221|246=>237|283=>248|284=>249|285=>250|286=>251|129=>160|317=>255|318=>256|319=>257|320=>258|337=>261|338=>262|n=>n,fun|9=>9|3=>3|75=>219|76=>220|4=>4|5=>5|167=>259|37=>253|0=>0|85=>247|2=>2|168=>260|53=>180|175=>263|46=>143|210=>271|127=>279|145=>282|143=>280|21=>21|171=>265|173=>267|212=>275|51=>178|20=>20|213=>276|232=>283|233=>284|80=>285|n=>n,fun|15=>0|16=>1|17=>2|18=>3|19=>4|n=>n⟩
theorem Tryz.bCB:Go.Proofs.Lays.n172 Tryz.prog Tryz.aYT:=by repeat'(first|kernel_rfl|decide|(intro;kernel_rfl)|constructor)
open Go.RowKit in
theorem Tryz.strconv_Atoi (s:ByteArray) (n:Int) (hl:s.size<=18) (h:Lib.atoi s.data.toList=some n) (w:World) :
  Calls Tryz.prog 212 #[.string s] w λe w'=>e=.returned (.tuple #[.int .i64 n,.nilIface])/\∃ t,w'=Lib.bytesWorld w 5 t:=Any.strconv_Atoi Tryz.bCB s n hl h w
def Tryz.aX8:Go.Shelf.Ren:=⟨fun|283=>248|n=>n,fun|3=>3|9=>9|4=>4|n=>n,fun|n=>n⟩
theorem Tryz.bDC:Go.Proofs.Lays.n283 Tryz.prog Tryz.aX8:=by repeat'(first|kernel_rfl|decide|(intro;kernel_rfl)|constructor)
open Go.Lib in
theorem Tryz.internal_strconv_small (i:Nat) (h:i<100) (w:World) :
  Calls Tryz.prog 248 #[.int .i64 i] w λe w'=>e=.returned (.string ⟨(Lib.decDigits i).toArray⟩)/\w'=w:=Any.internal_strconv_small Tryz.bDC i h w
def Tryz.aV5:Go.Shelf.Ren:=⟨fun|284=>249|129=>160|317=>255|318=>256|n=>n,fun|53=>180|3=>3|212=>275|0=>0|4=>4|46=>143|5=>5|9=>9|n=>n,fun|17=>2|n=>n⟩
theorem Tryz.a94:Go.Proofs.LaysM.n284 Tryz.prog Tryz.aV5:=by repeat'(first|kernel_rfl|decide|(intro;kernel_rfl)|constructor)
open Go.Lib in
theorem Tryz.internal_strconv_numDigits (u:Nat) (h1:1<=u) (h2:u<18446744073709551616) (w:World) (htab:Lib.TabIs Tryz.prog w "internal/strconv.uint64pow10" .u64 Lib.pow10Tab) :
  Calls Tryz.prog 249 #[.int .u64 u] w λe w'=>e=.returned (.int .i64 (Lib.nDigits u))/\w'=w:=Any.internal_strconv_numDigits Tryz.a94 u h1 h2 w htab
def Tryz.a0G:Go.Shelf.Ren:=⟨fun|285=>250|n=>n,fun|37=>253|53=>180|3=>3|4=>4|51=>178|9=>9|5=>5|0=>0|n=>n,fun|n=>n⟩
theorem Tryz.bDI:Go.Proofs.Lays.n285 Tryz.prog Tryz.a0G:=by repeat'(first|kernel_rfl|decide|(intro;kernel_rfl)|constructor)
open Go.RowKit Go.Sort Go.Lib in
theorem Tryz.internal_strconv_formatBase10 (blk off cap:Nat) (u:Nat) (d:Array UInt8) (w:World) (hH:Holds (λ(b:UInt8)=>Value.int .u8 (b.toNat:Int)) w blk off d) (hu:u<10^d.size) (hu64:u<18446744073709551616) (hsz:d.size<4611686018427387904) :
  Calls Tryz.prog 250 #[.slice (some ⟨blk,off,none⟩) d.size cap,.int .u64 u] w λe w' =>
   e=.returned (.tuple #[])/\∃ (n v':Nat) (dk:Array UInt8),w'=(putRow (λ(b:UInt8)=>Value.int .u8 (b.toNat:Int)) w blk off dk).drewN n/\FmtInv d.size u 0 v' dk:=Any.internal_strconv_formatBase10 Tryz.bDI blk off cap u d w hH hu hu64 hsz
def Tryz.bBW:Go.Shelf.Ren:=⟨fun|246=>237|283=>248|284=>249|285=>250|286=>251|129=>160|317=>255|318=>256|319=>257|320=>258|337=>261|338=>262|n=>n,fun|2=>2|3=>3|9=>9|4=>4|171=>265|0=>0|53=>180|37=>253|5=>5|173=>267|212=>275|51=>178|20=>20|213=>276|46=>143|232=>283|233=>284|n=>n,fun|17=>2|18=>3|19=>4|n=>n⟩
def Tryz.bDK:Go.Shelf.Ren:=⟨fun|243=>221|246=>237|283=>248|284=>249|285=>250|286=>251|129=>160|317=>255|318=>256|319=>257|320=>258|337=>261|338=>262|n=>n,fun|3=>3|9=>9|2=>2|4=>4|171=>265|0=>0|53=>180|37=>253|5=>5|173=>267|212=>275|51=>178|20=>20|213=>276|46=>143|232=>283|233=>284|n=>n,fun|17=>2|18=>3|19=>4|n=>n⟩
def Tryz.aWW:Go.Shelf.Ren:=⟨fun|171=>185|243=>221|246=>237|283=>248|284=>249|285=>250|286=>251|129=>160|317=>255|318=>256|319=>257|320=>258|337=>261|338=>262|n=>n,fun|3=>3|9=>9|2=>2|4=>4|171=>265|0=>0|53=>180|37=>253|5=>5|173=>267|212=>275|51=>178|20=>20|213=>276|46=>143|232=>283|233=>284|n=>n,fun|17=>2|18=>3|19=>4|n=>n⟩
theorem Tryz.a7S:Go.Proofs.LaysM.n171 Tryz.prog Tryz.aWW:=by repeat'(first|kernel_rfl|decide|(intro;kernel_rfl)|constructor)
open Go.RowKit Go.Sort Go.Lib in
theorem Tryz.strconv_Itoa (n:Int) (h0 : -9223372036854775808<=n) (h1:n<=9223372036854775807) (w:World) (htab:Lib.TabIs Tryz.prog w "internal/strconv.uint64pow10" .u64 Lib.pow10Tab) :
  Calls Tryz.prog 185 #[.int .i64 n] w λe w'=>e=.returned (.string ⟨(Lib.itoa n).toArray⟩)/\∃ k os,w'=grow (w.drewN k) os:=Any.strconv_Itoa Tryz.a7S n h0 h1 w htab
def Tryz.aU3:Go.Shelf.Ren:=⟨fun|174=>231|247=>241|245=>233|287=>252|279=>242|280=>243|281=>244|282=>245|321=>259|322=>260|316=>253|171=>185|205=>254|243=>221|246=>237|283=>248|284=>249|285=>250|286=>251|129=>160|317=>255|318=>256|319=>257|320=>258|337=>261|338=>262|n=>n,fun|9=>9|3=>3|2=>2|75=>219|85=>247|4=>4|167=>259|5=>5|53=>180|175=>263|46=>143|168=>260|37=>253|0=>0|210=>271|21=>21|127=>279|145=>282|143=>280|171=>265|173=>267|212=>275|51=>178|20=>20|213=>276|232=>283|233=>284|80=>285|n=>n,fun|15=>0|16=>1|17=>2|18=>3|19=>4|n=>n⟩
theorem Tryz.aZZ:Go.Proofs.LaysC.n174 Tryz.prog Tryz.aU3:=by repeat'(first|kernel_rfl|decide|(intro;kernel_rfl)|constructor)
open Go.RowKit in
theorem Tryz.strconv_ParseInt_10_at64_ok (s:ByteArray) (hmax:s.size<=9223372036854775806) (v:Int) (h:Lib.parseIntB 64 s.data.toList=.ok v) (w:World) :
  Calls Tryz.prog 231 #[.string s,.int .i64 10,.int .i64 64] w λe w'=>e=.returned (.tuple #[.int .i64 v,.nilIface])/\(w'=w\/∃ t,w'=Lib.bytesWorld w 5 t):=Any.strconv_ParseInt_10_at64_ok Tryz.aZZ s hmax v h w
open Go.RowKit in
theorem Tryz.strconv_ParseInt_10_at64_range (s:ByteArray) (hlim:s.size<=281474976710656) (h:Lib.parseIntB 64 s.data.toList=.range) (ev:Value) (w:World) (hv:w.cell? ⟨1,0,none⟩=some ev) (hev:ev=.nilIface\/∃ te pe,ev=.iface te pe) :
  Calls Tryz.prog 231 #[.string s,.int .i64 10,.int .i64 64] w λe w'=>∃ N,e=.returned (.tuple #[.int .i64 (Lib.intSat 64 s.data.toList),.iface 260 (.pointer (some ⟨N,0,none⟩))])/\w.heap.size<=N/\w'.heap[N]?=some (.cells #[.string ⟨#[80,97,114,115,101,73,110,116]⟩,.string s,ev] 271 (0,0))/\Below w.heap.size w w':=Any.strconv_ParseInt_10_at64_range Tryz.aZZ s hlim h ev w hv hev
def Tryz.aXO:Go.Shelf.Ren:=⟨fun|14=>246|16=>252|17=>233|19=>259|20=>260|21=>242|22=>243|23=>244|24=>245|25=>253|27=>185|26=>254|28=>221|29=>237|30=>248|31=>249|32=>250|33=>251|35=>160|34=>255|36=>256|37=>257|38=>258|39=>261|40=>262|n=>n,fun|9=>9|3=>3|22=>180|24=>219|25=>263|4=>4|34=>259|5=>5|36=>143|37=>253|0=>0|39=>260|21=>21|44=>271|47=>279|50=>282|48=>280|2=>2|52=>265|55=>267|59=>275|60=>178|20=>20|61=>276|65=>283|66=>284|67=>285|n=>n,fun|0=>0|1=>1|2=>2|3=>3|4=>4|n=>n⟩
theorem Tryz.bA6:Go.Proofs.LaysPu.n14 Tryz.prog Tryz.aXO:=by repeat'(first|kernel_rfl|decide|(intro;kernel_rfl)|constructor)
open Go.RowKit in
theorem Tryz.strconv_ParseUint_10_at64_ok (s:ByteArray) (hmax:s.size<=9223372036854775806) (u:Nat) (h:Lib.parseUintB 64 s.data.toList=.ok u) (w:World) :
  Calls Tryz.prog 246 #[.string s,.int .i64 10,.int .i64 64] w λe w'=>e=.returned (.tuple #[.int .u64 u,.nilIface])/\(w'=w\/w'=Lib.bytesWorld w 5 s):=Any.strconv_ParseUint_10_at64_ok Tryz.bA6 s hmax u h w
end Go.Proofs
namespace Go.PM
open Go Go.RowKit
inductive Ty where
 | int (k:IntKind)
 | bool
 | str
 | list (t:Ty)
 | prod (a b:Ty)
 | hnd (sz:Nat)
 | rows (t:Ty)
 | smap
 deriving DecidableEq
@[reducible] def Ty.den:Ty->Type
 | .hnd _=>Nat×Nat×Nat
 | .rows t=>List t.den
 | .smap=>List (ByteArray×Int)
 | .int _=>Int
 | .bool=>Bool
 | .str=>ByteArray
 | .list t=>List t.den
 | .prod a b=>a.den×b.den
def Ty.aVB:(t:Ty)->t.den
 | .hnd _=>(0,0,0)
 | .rows _=>[]
 | .smap=>[]
 | .int _=>0
 | .bool=>false
 | .str=>ByteArray.empty
 | .list _=>[]
 | .prod a b=>(a.aVB,b.aVB)
def Ty.size:Ty->Nat
 | .prod a b=>a.size+b.size
 | _=>1
theorem Ty.size_pos:∀ t:Ty,0<t.size
 | .int _|.bool|.str|.list _|.hnd _|.rows _|.smap=>by simp[Ty.size]
 | .prod a b=>by have:=a.size_pos; simp only[Ty.size]; omega
inductive PV where
 | lit (v:Value)
 | vals (cs:List PV) (n:Nat) (cap:Option Nat)
 | iptr (cs:List PV)
 | hptr (r off:Nat)
 | hs (r off len:Nat) (cap:Option Nat) (sz:Nat)
 | agg (cs:List PV)
 | tuple (vs:List PV)
 | clo (fn:Fn) (first caps:List PV)
 | junk
 | tl (t:Ty) (l:List t.den) (cap:Option Nat) (e:PV)
 | tp (t:Ty) (l:List t.den) (i off:Nat) (e:PV)
 | own (r sz:Nat)
 | op (r i off sz:Nat)
 | win (r lo n sz:Nat)
 | row (j lo n sz:Nat)
 | rp (j off:Nat)
 | mp (j:Nat)
 | tm (l:List (ByteArray×Int))
 | qs (r sz:Nat)
def enc:(t:Ty)->t.den->List PV
 | .hnd sz,x=>[.row x.1 x.2.1 x.2.2 sz]
 | .rows _,_=>[.lit (.bool false)]
 | .smap,l=>[.tm l]
 | .int k,x=>[.lit (.int k x)]
 | .bool,x=>[.lit (.bool x)]
 | .str,x=>[.lit (.string x)]
 | .list t,l=>[.tl t l none (.vals (l.flatMap (enc t)) l.length none)]
 | .prod a b,(x,y)=>enc a x++enc b y
def aK(t:Ty)(l:List t.den):List PV:=l.flatMap (enc t)
def UK(t:Ty) (l:List t.den) (cap:Option Nat):PV:=.tl t l cap (.vals (aK t l) l.length cap)
def a6V(t:Ty)(l:List t.den)(i off:Nat):PV:=.tp t l i off (.iptr ((aK t l).drop (i*t.size+off)))
instance:Inhabited PV:=⟨.junk⟩
def Room(w:World) (b n:Nat):Prop:=∃ c t fr,w.heap[b]?=some (.cells c t fr)/\n<=c.size
structure Mp where
 loc:Nat->Option Nat
 len:Nat->Option Nat
 sh:Nat->Nat
def aJ:Mp:=⟨λ_=>none,λ_=>none,λ_=>0⟩
structure Gd where
 ok:Nat->Prop
 row:Nat->Option Nat
instance:CoeFun Gd (λ_=>Nat->Prop):=⟨Gd.ok⟩
def a4P(k:IntKind) (l:List Int) (o:Option Obj):Prop:=∃ t fr,o=some (.cells (l.map λz=>Value.int k z).toArray t fr)
def aI7(o:Option Obj):Prop:=∃ tp p t fr,o=some (.cells #[.iface tp p] t fr)
def a7P:List (Nat×(Option Obj->Prop)):=[(2,a4P .u64 [1,10,100,1000,10000,100000,1000000,10000000,100000000,1000000000,10000000000,100000000000,1000000000000,10000000000000,100000000000000,1000000000000000,10000000000000000,100000000000000000,1000000000000000000,10000000000000000000]),(0,aI7),(1,aI7)]
structure Lt (w:World) (G:Nat->Prop):Prop where
 lt:∀ b,G b->b<w.heap.size
 tab:∀ p∈a7P,G p.1/\p.2 w.heap[p.1]?
instance (w:World) (G:Nat->Prop):CoeFun (Lt w G) (λ_=>∀ b,G b->b<w.heap.size):=⟨Lt.lt⟩
theorem Lt.step {w w' G G'}(h:Lt w G)(hg:∀ b,G b->G' b/\w'.heap[b]?=w.heap[b]?)(hl:∀ b,G' b->b<w'.heap.size):Lt w' G' :=
 ⟨hl,λp hp=>⟨(hg _ (h.tab p hp).1).1,by rw[(hg _ (h.tab p hp).1).2]; exact(h.tab p hp).2⟩⟩
theorem Lt.all {w G}(h:Lt w G):Lt w λb=>b<w.heap.size:=h.step (λb hb=>⟨h.lt b hb,rfl⟩) λ_ h=>h
def Gd.or (G:Gd) (p:Nat->Prop):Gd:=⟨λb=>G.ok b\/p b,G.row⟩
section
variable (w:World) (G:Gd)
mutual
def VR:Mp->PV->Value->Prop
 | _,.lit u,v=>v=u
 | _,.vals cs n cap,v=>∃ ao c,v=.slice ao n c/\n<=c/\(∀ k,cap=some k->c=k)/\(cs=[]\/∃ b off,ao=some ⟨b,off,none⟩/\G b/\aM aJ b off cs)
 | _,.iptr cs,v=>∃ b off,v=.pointer (some ⟨b,off,none⟩)/\G b/\aM aJ b off cs
 | μ,.hptr r off,v=>∃ b,μ.loc r=some b/\v=.pointer (some ⟨b,μ.sh r+off,none⟩)
 | μ,.hs r off len cap sz,v=>∃ b c,μ.loc r=some b/\v=.slice (some ⟨b,μ.sh r+off,none⟩) len c/\len<=c/\(∀ k,cap=some k->c=k)/\Room w b (μ.sh r+off+c*sz)
 | μ,.agg cs,v=>∃ vs,v=.agg vs/\VRs μ cs vs.toList
 | μ,.tuple cs,v=>∃ vs,v=.tuple vs/\VRs μ cs vs.toList
 | μ,.clo fn f c,v=>∃ fs cs,v=.func fn fs cs/\VRs μ f fs.toList/\VRs μ c cs.toList
 | _,.junk,_=>True
 | _,.tl t l cap e,v=>VR aJ e v/\e=.vals (aK t l) l.length cap
 | _,.tp t l i off e,v=>VR aJ e v/\e=.iptr ((aK t l).drop (i*t.size+off))/\i<l.length
 | μ,.own r sz,v=>∃ n,μ.len r=some n/\((n=0/\∃ ao,v=.slice ao 0 0)\/∃ b c,μ.loc r=some b/\v=.slice (some ⟨b,μ.sh r,none⟩) n c/\n<=c/\Room w b (μ.sh r+c*sz)/\μ.sh r=0)
 | μ,.op r i off sz,v=>∃ b,μ.loc r=some b/\v=.pointer (some ⟨b,μ.sh r+(i*sz+off),none⟩)
 | μ,.win r lo n sz,v=>∃ b c m,μ.loc r=some b/\v=.slice (some ⟨b,μ.sh r+lo*sz,none⟩) n c/\n<=c/\Room w b (μ.sh r+(lo+c)*sz)/\μ.len r=some m/\lo+n<=m/\m<=lo+c/\μ.sh r=0
 | μ,.qs r sz,v=>∃ n,μ.len r=some n/\((n=0/\∃ ao,v=.slice ao 0 0)\/∃ b c,μ.loc r=some b/\v=.slice (some ⟨b,μ.sh r,none⟩) n c/\n<=c/\Room w b (μ.sh r+c*sz))
 | _,.row j lo n sz,v=>∃ ao c,v=.slice ao n c/\n<=c/\(n=0\/∃ b,G.row j=some b/\ao=some ⟨b,lo*sz,none⟩/\Room w b ((lo+c)*sz))
 | _,.rp j off,v=>∃ b,G.row j=some b/\v=.pointer (some ⟨b,off,none⟩)
 | _,.mp j,v=>∃ b,G.row j=some b/\v=.map (some b)
 | _,.tm l,v=>∃ b es clk,v=.map (some b)/\G b/\w.heap[b]?=some (.map es clk)/\es.toList.map (λe=>(e.key,e.val))=l.map λp=>(Value.string p.1,Value.int .i64 p.2)
def VRs:Mp->List PV->List Value->Prop
 | _,[],vs=>vs=[]
 | μ,p::ps,vs=>∃ x xs,vs=x::xs/\VR μ p x/\VRs μ ps xs
def aM:Mp->Nat->Nat->List PV->Prop
 | _,_,_,[]=>True
 | μ,b,off,p::ps=>(∃ v,w.cell? ⟨b,off,none⟩=some v/\VR μ p v)/\aM μ b (off+1) ps
end
end
structure Mono (w:World) (G:Gd) (μ:Mp) (w':World) (G':Gd) (μ':Mp):Prop where
 good:∀ b,G b->G' b/\w'.heap[b]?=w.heap[b]?
 map:∀ r b,μ.loc r=some b->μ'.loc r=some b
 len:∀ r n,μ.len r=some n->μ'.len r=some n
 room:∀ b n,Room w b n->Room w' b n
 row:∀ j b,G.row j=some b->G'.row j=some b
 sh:∀ r b,μ.loc r=some b->μ'.sh r=μ.sh r:=by first|exact λ_ _ _=>rfl|(intro _ _ h; cases h)
section
variable {w w':World} {G G':Gd}
theorem Mono.aJ {μ μ'}(h:Mono w G μ w' G' μ'):Mono w G aJ w' G' aJ:=⟨h.good,λ_ _ h=>h,λ_ _ h=>h,h.room,h.row,λ_ _ _=>rfl⟩
mutual
theorem VR.mono {μ μ':Mp} (h:Mono w G μ w' G' μ'):∀ p v,VR w G μ p v->VR w' G' μ' p v
 | .lit u,v,hv=>by simpa[VR]using hv
 | .vals cs n cap,v,hv=>by
  rw[VR]at hv ⊢;obtain⟨ao,c,h1,h2,hcap,h3⟩:=hv;refine⟨ao,c,h1,h2,hcap,?_⟩;rcases h3 with h3|⟨b,off,h4,h5,h6⟩
  ·exact .inl h3
  ·exact .inr ⟨b,off,h4,(h.good b h5).1,aM.mono h.aJ (h.good b h5).2 off cs h6⟩
 | .iptr cs,v,hv=>by
  rw[VR]at hv ⊢;obtain⟨b,off,h1,h2,h3⟩:=hv;exact⟨b,off,h1,(h.good b h2).1,aM.mono h.aJ (h.good b h2).2 off cs h3⟩
 | .hptr r off,v,hv=>by
  rw[VR]at hv ⊢;obtain⟨b,h1,h2⟩:=hv;rw[<- h.sh r b h1]at h2;exact⟨b,h.map r b h1,h2⟩
 | .hs r off len cap sz,v,hv=>by
  rw[VR]at hv ⊢;obtain⟨b,c,h1,h2,h3,h4,h5⟩:=hv;rw[<- h.sh r b h1]at h2 h5;exact⟨b,c,h.map r b h1,h2,h3,h4,h.room _ _ h5⟩
 | .agg cs,v,hv=>by
  rw[VR]at hv ⊢;obtain⟨vs,h1,h2⟩:=hv;exact⟨vs,h1,VRs.mono h cs _ h2⟩
 | .tuple cs,v,hv=>by
  rw[VR]at hv ⊢;obtain⟨vs,h1,h2⟩:=hv;exact⟨vs,h1,VRs.mono h cs _ h2⟩
 | .clo fn f c,v,hv=>by
  rw[VR]at hv ⊢;obtain⟨fs,cs,h1,h2,h3⟩:=hv;exact⟨fs,cs,h1,VRs.mono h f _ h2,VRs.mono h c _ h3⟩
 | .junk,v,hv=>by rw[VR]; trivial
 | .tl t l cap e,v,hv=>by
  rw[VR]at hv ⊢;exact⟨VR.mono h.aJ e v hv.1,hv.2⟩
 | .tp t l i off e,v,hv=>by
  rw[VR]at hv ⊢;exact⟨VR.mono h.aJ e v hv.1,hv.2⟩
 | .own r sz,v,hv=>by
  rw[VR]at hv ⊢;obtain⟨n,h1,h2⟩:=hv;refine⟨n,h.len r n h1,?_⟩;rcases h2 with h2|⟨b,c,h3,h4,h5,h6⟩
  ·exact .inl h2
  ·rw[<- h.sh r b h3]at h4 h6;exact .inr ⟨b,c,h.map r b h3,h4,h5,h.room _ _ h6.1,h6.2⟩
 | .qs r sz,v,hv=>by
  rw[VR]at hv ⊢;obtain⟨n,h1,h2⟩:=hv;refine⟨n,h.len r n h1,?_⟩;rcases h2 with h2|⟨b,c,h3,h4,h5,h6⟩
  ·exact .inl h2
  ·rw[<- h.sh r b h3]at h4 h6;exact .inr ⟨b,c,h.map r b h3,h4,h5,h.room _ _ h6⟩
 | .op r i off sz,v,hv=>by
  rw[VR]at hv ⊢;obtain⟨b,h1,h2⟩:=hv;rw[<- h.sh r b h1]at h2;exact⟨b,h.map r b h1,h2⟩
 | .win r lo n sz,v,hv=>by
  rw[VR]at hv ⊢;obtain⟨b,c,m,h1,h2,h3,h4,h5,h6⟩:=hv;rw[<- h.sh r b h1]at h2 h4 h6;exact⟨b,c,m,h.map r b h1,h2,h3,h.room _ _ h4,h.len r m h5,h6⟩
 | .row j lo n sz,v,hv=>by
  rw[VR]at hv ⊢;obtain⟨ao,c,h1,h2,h3⟩:=hv;refine⟨ao,c,h1,h2,?_⟩;rcases h3 with h3|⟨b,h4,h5,h6⟩
  ·exact .inl h3
  ·exact .inr ⟨b,h.row j b h4,h5,h.room _ _ h6⟩
 | .rp j off,v,hv=>by
  rw[VR]at hv ⊢;obtain⟨b,h1,h2⟩:=hv;exact⟨b,h.row j b h1,h2⟩
 | .mp j,v,hv=>by
  rw[VR]at hv ⊢;obtain⟨b,h1,h2⟩:=hv;exact⟨b,h.row j b h1,h2⟩
 | .tm l,v,hv=>by
  rw[VR]at hv ⊢;obtain⟨b,es,clk,h1,h2,h3,h4⟩:=hv;exact⟨b,es,clk,h1,(h.good b h2).1,(h.good b h2).2.trans h3,h4⟩
theorem VRs.mono {μ μ':Mp} (h:Mono w G μ w' G' μ'):∀ ps vs,VRs w G μ ps vs->VRs w' G' μ' ps vs
 | [],vs,hv=>by rw[VRs]at hv ⊢; exact hv
 | p::ps,vs,hv=>by
  rw[VRs]at hv ⊢;obtain⟨x,xs,h1,h2,h3⟩:=hv;exact⟨x,xs,h1,VR.mono h p x h2,VRs.mono h ps xs h3⟩
theorem aM.mono {μ μ':Mp} (h:Mono w G μ w' G' μ') {b:Nat} (hb:w'.heap[b]?=w.heap[b]?):∀ off ps,aM w G μ b off ps->aM w' G' μ' b off ps
 | _,[],_=>by rw[aM]; trivial
 | off,p::ps,hv=>by
  rw[aM]at hv ⊢;obtain⟨⟨v,h1,h2⟩,h3⟩:=hv;exact⟨⟨v,by rw[World.cell?_of_block (w:=w) hb]; exact h1,VR.mono h p v h2⟩,aM.mono h hb (off+1) ps h3⟩
end
variable {μ μ':Mp}
theorem aIE:Mono w G aJ w G μ:=⟨λ_ h=>⟨h,rfl⟩,λ_ _ h=>(by cases h),λ_ _ h=>(by cases h),λ_ _ h=>h,λ_ _ h=>h,λ_ _ h=>(by cases h)⟩
theorem VR.aW {p v}(h:VR w G aJ p v):VR w G μ p v:=VR.mono aIE p v h
theorem VRs.aW {p v}(h:VRs w G aJ p v):VRs w G μ p v:=VRs.mono aIE p v h
theorem aM.aW {b off p}(h:aM w G aJ b off p):aM w G μ b off p:=aM.mono aIE rfl off p h
def eX:PV->Bool
 | .lit _|.vals ..|.iptr _|.tl ..|.tp ..|.row ..|.rp ..|.mp _|.tm _=>true
 | .agg cs|.tuple cs=>noRefs cs
 | .clo _ f c=>noRefs f&&noRefs c
 | _=>false
where noRefs:List PV->Bool
 | []=>true
 | p::ps=>eX p&&noRefs ps
mutual
theorem C6:∀ (p:PV) (v:Value),eX p=true->VR w G μ p v->VR w G aJ p v
 | .lit u,v,_,h=>by rw[VR]at h ⊢; exact h
 | .vals ..,v,_,h=>by rw[VR]at h ⊢; exact h
 | .iptr _,v,_,h=>by rw[VR]at h ⊢; exact h
 | .tl ..,v,_,h=>by rw[VR]at h ⊢; exact h
 | .tp ..,v,_,h=>by rw[VR]at h ⊢; exact h
 | .row ..,v,_,h=>by rw[VR]at h ⊢; exact h
 | .rp ..,v,_,h=>by rw[VR]at h ⊢; exact h
 | .mp _,v,_,h=>by rw[VR]at h ⊢; exact h
 | .tm _,v,_,h=>by rw[VR]at h ⊢; exact h
 | .own ..,v,hn,h=>by simp only[eX]at hn; cases hn
 | .qs ..,v,hn,h=>by simp only[eX]at hn; cases hn
 | .op ..,v,hn,h=>by simp only[eX]at hn; cases hn
 | .win ..,v,hn,h=>by simp only[eX]at hn; cases hn
 | .agg cs,v,hn,h=>by
  rw[VR]at h ⊢;obtain⟨vs,h1,h2⟩:=h;exact⟨vs,h1,dK cs _ (by simpa only[eX]using hn) h2⟩
 | .tuple cs,v,hn,h=>by
  rw[VR]at h ⊢;obtain⟨vs,h1,h2⟩:=h;exact⟨vs,h1,dK cs _ (by simpa only[eX]using hn) h2⟩
 | .clo fn f c,v,hn,h=>by
  rw[VR]at h ⊢;simp only[eX,Bool.and_eq_true]at hn;obtain⟨fs,cs,h1,h2,h3⟩:=h;exact⟨fs,cs,h1,dK f _ hn.1 h2,dK c _ hn.2 h3⟩
 | .hptr ..,v,hn,h=>by simp only[eX]at hn; cases hn
 | .hs ..,v,hn,h=>by simp only[eX]at hn; cases hn
 | .junk,v,hn,h=>by simp only[eX]at hn; cases hn
theorem dK:∀ (ps:List PV) (vs:List Value),eX.noRefs ps=true->VRs w G μ ps vs->VRs w G aJ ps vs
 | [],vs,_,h=>by rw[VRs]at h ⊢; exact h
 | p::ps,vs,hn,h=>by
  rw[VRs]at h ⊢;simp only[eX.noRefs,Bool.and_eq_true]at hn;obtain⟨x,xs,h1,h2,h3⟩:=h;exact⟨x,xs,h1,C6 p x hn.1 h2,dK ps xs hn.2 h3⟩
end
theorem Mono.refl w G μ:Mono w G μ w G μ:=⟨λ_ h=>⟨h,rfl⟩,λ_ _ h=>h,λ_ _ h=>h,λ_ _ h=>h,λ_ _ h=>h,λ_ _ _=>rfl⟩
theorem Mono.trans {w'' G'' μ''}(h:Mono w G μ w' G' μ')(k:Mono w' G' μ' w'' G'' μ''):Mono w G μ w'' G'' μ'' :=
 ⟨λb hb=>⟨(k.good b (h.good b hb).1).1,((k.good b (h.good b hb).1).2).trans (h.good b hb).2⟩,λr b hr=>k.map r b (h.map r b hr),λr n hr=>k.len r n (h.len r n hr),λb n hb=>k.room b n (h.room b n hb),λj b hb=>k.row j b (h.row j b hb),λr b hr=>(k.sh r b (h.map r b hr)).trans (h.sh r b hr)⟩
theorem VRs.length:∀ {ps vs},VRs w G μ ps vs->ps.length=vs.length
 | [],vs,h=>by rw[h]; rfl
 | p::ps,vs,h=>by obtain⟨x,xs,rfl,_,h3⟩:=h; simp[VRs.length h3]
theorem VRs.get:∀ {ps vs} {i:Nat} {p},VRs w G μ ps vs->ps[i]?=some p->∃ v,vs[i]?=some v/\VR w G μ p v
 | [],vs,i,p,h,hp=>W
 | q::ps,vs,i,p,h,hp=>by
  obtain⟨x,xs,rfl,h2,h3⟩:=h;cases i with
  | zero=>grind
  | succ i=>simpa using VRs.get h3 W
theorem VRs.append:∀ {ps qs vs us},VRs w G μ ps vs->VRs w G μ qs us->VRs w G μ (ps++qs) (vs++us)
 | [],qs,vs,us,h,k=>by subst h; grind
 | p::ps,qs,vs,us,h,k=>by
  obtain⟨x,xs,rfl,h2,h3⟩:=h;exact⟨x,xs++us,rfl,h2,VRs.append h3 k⟩
theorem VRs.drop:∀ {ps vs} n,VRs w G μ ps vs->VRs w G μ (ps.drop n) (vs.drop n)
 | ps,vs,0,h=>h
 | [],vs,n+1,h=>by subst h; rfl
 | p::ps,vs,n+1,h=>by
  obtain⟨x,xs,rfl,h2,h3⟩:=h;exact VRs.drop n h3
theorem VRs.take:∀ {ps vs} n,VRs w G μ ps vs->VRs w G μ (ps.take n) (vs.take n)
 | ps,vs,0,h=>by rfl
 | [],vs,n+1,h=>by subst h; rfl
 | p::ps,vs,n+1,h=>by
  obtain⟨x,xs,rfl,h2,h3⟩:=h;exact⟨x,_,rfl,h2,VRs.take n h3⟩
theorem VRs.lits:∀ vs,VRs w G μ (vs.map .lit) vs
 | []=>by rfl
 | v::vs=>⟨v,vs,rfl,by rfl,VRs.lits vs⟩
theorem aM.get:∀ {ps b off i p},aM w G μ b off ps->ps[i]?=some p->∃ v,w.cell? ⟨b,off+i,none⟩=some v/\VR w G μ p v
 | [],b,off,i,p,h,hp=>W
 | q::ps,b,off,i,p,h,hp=>by
  cases i with
  | zero=>simp at hp; subst hp; exact h.1
  | succ i=>have:=aM.get h.2 (by simpa using hp); grind
theorem aM.mk:∀ {ps b off},(∀ i p,ps[i]?=some p->∃ v,w.cell? ⟨b,off+i,none⟩=some v/\VR w G μ p v)->aM w G μ b off ps
 | [],b,off,h=>by trivial
 | q::ps,b,off,h=>by
  refine⟨h 0 q rfl,aM.mk λi p hp=>?_⟩;have:=h (i+1) p W;grind
theorem aM.drop {ps b off} n (h:aM w G μ b off ps):aM w G μ b (off+n) (ps.drop n) :=
 aM.mk λi p hp=>by
  rw[List.getElem?_drop]at hp;have:=h.get hp;grind
theorem aM.take {ps b off} n (h:aM w G μ b off ps):aM w G μ b off (ps.take n) :=
 aM.mk λi p hp=>by
  rw[List.getElem?_take]at hp;split at hp
  ·exact h.get hp
  grind
theorem aM.sub {ps b off} n m (h:aM w G μ b off ps):aM w G μ b (off+n) ((ps.drop n).take m):=(h.drop n).take m
theorem aM.values:∀ {ps:List PV} {b off:Nat},aM w G μ b off ps->∃ vs,VRs w G μ ps vs/\∀ i (h:i<vs.length),w.cell? ⟨b,off+i,none⟩=some vs[i]
 | [],b,off,h=>⟨[],by rw[VRs],λi h=>by simp at h⟩
 | p::ps,b,off,h=>by
  obtain⟨⟨v,h1,h2⟩,h3⟩:=h;obtain⟨vs,h4,h5⟩:=aM.values h3;refine⟨v::vs,by rw[VRs]; exact⟨v,vs,rfl,h2,h4⟩,λi hi=>?_⟩;grind
end
def Ty.plain:Ty->Bool
 | .hnd _=>false
 | .rows _=>false
 | .list t=>t.plain
 | .prod a b=>a.plain&&b.plain
 | _=>true
def iD:PV->Bool
 | .row ..|.rp ..|.mp _=>false
 | .vals cs _ _=>noRows cs
 | .iptr cs=>noRows cs
 | .agg cs=>noRows cs
 | .tuple cs=>noRows cs
 | .clo _ f c=>noRows f&&noRows c
 | .tl t _ _ _=>t.plain
 | .tp t _ _ _ _=>t.plain
 | _=>true
where noRows:List PV->Bool
 | []=>true
 | p::ps=>iD p&&noRows ps
theorem YG:∀ {a b},iD.noRows a=true->iD.noRows b=true->iD.noRows (a++b)=true
 | [],_,_,h=>h
 | p::a,b,h,k=>by
  simp only[List.cons_append,iD.noRows,Bool.and_eq_true]at h ⊢;exact⟨h.1,YG h.2 k⟩
theorem aMX:∀ {a} n,iD.noRows a=true->iD.noRows (a.drop n)=true
 | a,0,h=>h
 | [],n+1,h=>h
 | p::a,n+1,h=>by
  simp only[iD.noRows,Bool.and_eq_true]at h;exact aMX n h.2
theorem UE:∀ t x,t.plain=true->iD.noRows (enc t x)=true
 | .int _,_,_=>rfl
 | .bool,_,_=>rfl
 | .str,_,_=>rfl
 | .smap,_,_=>rfl
 | .list t,_,h=>by simp only[enc,iD.noRows,Bool.and_true]; exact h
 | .prod a b,(x,y),h=>by
  simp only[Ty.plain,Bool.and_eq_true]at h;exact YG (UE a x h.1) (UE b y h.2)
 | .hnd _,_,h=>by cases h
 | .rows _,_,h=>by rfl
theorem EI t (h:t.plain=true):∀ l ,iD.noRows (aK t l)=true
 | []=>rfl
 | x::l=>by exact YG (UE t x h) (EI t h l)
section
set_option linter.unusedSectionVars false
variable {w:World} {G G':Gd} (hG:∀ b,G b->G' b)
include hG
mutual
theorem VX:∀ (μ:Mp) (p:PV) (v:Value),iD p=true->VR w G μ p v->VR w G' μ p v
 | _,.lit u,v,_,hv=>by rw[VR]at hv ⊢; exact hv
 | _,.vals cs n cap,v,hn,hv=>by
  rw[VR]at hv ⊢;obtain⟨ao,c,h1,h2,hcap,h3⟩:=hv;refine⟨ao,c,h1,h2,hcap,?_⟩;rcases h3 with h3|⟨b,off,h4,h5,h6⟩
  ·exact .inl h3
  ·exact .inr ⟨b,off,h4,hG b h5,AU _ _ _ cs (by simpa only[iD]using hn) h6⟩
 | _,.iptr cs,v,hn,hv=>by
  rw[VR]at hv ⊢;obtain⟨b,off,h1,h2,h3⟩:=hv;exact⟨b,off,h1,hG b h2,AU _ _ _ cs (by simpa only[iD]using hn) h3⟩
 | _,.hptr ..,v,_,hv=>by rw[VR]at hv ⊢; exact hv
 | _,.hs ..,v,_,hv=>by rw[VR]at hv ⊢; exact hv
 | μ,.agg cs,v,hn,hv=>by
  rw[VR]at hv ⊢;obtain⟨vs,h1,h2⟩:=hv;exact⟨vs,h1,AP μ cs _ (by simpa only[iD]using hn) h2⟩
 | μ,.tuple cs,v,hn,hv=>by
  rw[VR]at hv ⊢;obtain⟨vs,h1,h2⟩:=hv;exact⟨vs,h1,AP μ cs _ (by simpa only[iD]using hn) h2⟩
 | μ,.clo fn f c,v,hn,hv=>by
  rw[VR]at hv ⊢;simp only[iD,Bool.and_eq_true]at hn;obtain⟨fs,cs,h1,h2,h3⟩:=hv;exact⟨fs,cs,h1,AP μ f _ hn.1 h2,AP μ c _ hn.2 h3⟩
 | _,.junk,v,_,hv=>by rw[VR]; trivial
 | _,.tl t l cap (.vals cs n c0),v,hn,hv=>by
  rw[VR]at hv ⊢;obtain⟨h1,h2⟩:=hv;have h3:cs=aK t l:=by cases h2; rfl
  refine⟨?_,h2⟩;rw[VR]at h1 ⊢;obtain⟨ao,c,q1,q2,hcap,q3⟩:=h1;refine⟨ao,c,q1,q2,hcap,?_⟩;rcases q3 with q3|⟨b,off,q4,q5,q6⟩
  ·exact .inl q3
  ·exact .inr ⟨b,off,q4,hG b q5,AU _ _ _ cs (by rw[h3]; exact EI t hn l) q6⟩
 | _,.tp t l i off (.iptr cs),v,hn,hv=>by
  rw[VR]at hv ⊢;obtain⟨h1,h2,h0⟩:=hv;have h3:cs=(aK t l).drop (i*t.size+off):=by cases h2; rfl
  refine⟨?_,h2,h0⟩;rw[VR]at h1 ⊢;obtain⟨b,o,q1,q2,q3⟩:=h1;exact⟨b,o,q1,hG b q2,AU _ _ _ cs (by rw[h3]; exact aMX _ (EI t hn l)) q3⟩
 | _,.tl t l cap (.lit _),v,_,hv|_,.tl t l cap (.iptr _),v,_,hv|_,.tl t l cap (.hptr ..),v,_,hv|_,.tl t l cap (.hs ..),v,_,hv|_,.tl t l cap (.agg _),v,_,hv|_,.tl t l cap (.tuple _),v,_,hv
 | _,.tl t l cap (.clo ..),v,_,hv|_,.tl t l cap .junk,v,_,hv|_,.tl t l cap (.tl ..),v,_,hv|_,.tl t l cap (.tp ..),v,_,hv|_,.tl t l cap (.own ..),v,_,hv|_,.tl t l cap (.op ..),v,_,hv|_,.tl t l cap (.win ..),v,_,hv
 | _,.tl t l cap (.row ..),v,_,hv|_,.tl t l cap (.rp ..),v,_,hv|_,.tl t l cap (.mp _),v,_,hv|_,.tl t l cap (.tm _),v,_,hv|_,.tl t l cap (.qs ..),v,_,hv=>by rw[VR]at hv; exact absurd hv.2 (by intro h; cases h)
 | _,.tp t l i off (.lit _),v,_,hv|_,.tp t l i off (.vals ..),v,_,hv|_,.tp t l i off (.hptr ..),v,_,hv|_,.tp t l i off (.hs ..),v,_,hv|_,.tp t l i off (.agg _),v,_,hv|_,.tp t l i off (.tuple _),v,_,hv
 | _,.tp t l i off (.clo ..),v,_,hv|_,.tp t l i off .junk,v,_,hv|_,.tp t l i off (.tl ..),v,_,hv|_,.tp t l i off (.tp ..),v,_,hv|_,.tp t l i off (.own ..),v,_,hv|_,.tp t l i off (.op ..),v,_,hv|_,.tp t l i off (.win ..),v,_,hv
 | _,.tp t l i off (.row ..),v,_,hv|_,.tp t l i off (.rp ..),v,_,hv|_,.tp t l i off (.mp _),v,_,hv|_,.tp t l i off (.tm _),v,_,hv|_,.tp t l i off (.qs ..),v,_,hv=>by rw[VR]at hv; exact absurd hv.2.1 (by intro h; cases h)
 | _,.own ..,v,_,hv=>by rw[VR]at hv ⊢; exact hv
 | _,.qs ..,v,_,hv=>by rw[VR]at hv ⊢; exact hv
 | _,.op ..,v,_,hv=>by rw[VR]at hv ⊢; exact hv
 | _,.win ..,v,_,hv=>by rw[VR]at hv ⊢; exact hv
 | _,.row ..,v,h,hv=>by simp only[iD]at h; cases h
 | _,.rp ..,v,h,hv=>by simp only[iD]at h; cases h
 | _,.mp _,v,h,hv=>by simp only[iD]at h; cases h
 | _,.tm _,v,_,hv=>by
  rw[VR]at hv ⊢;obtain⟨b,es,clk,h1,h2,h3⟩:=hv;exact⟨b,es,clk,h1,hG b h2,h3⟩
theorem AP:∀ (μ:Mp) (ps:List PV) (vs:List Value),iD.noRows ps=true->VRs w G μ ps vs->VRs w G' μ ps vs
 | _,[],vs,_,hv=>by rw[VRs]at hv ⊢; exact hv
 | μ,p::ps,vs,hn,hv=>by
  rw[VRs]at hv ⊢;simp only[iD.noRows,Bool.and_eq_true]at hn;obtain⟨x,xs,h1,h2,h3⟩:=hv;exact⟨x,xs,h1,VX μ p x hn.1 h2,AP μ ps xs hn.2 h3⟩
theorem AU:∀ (μ:Mp) (b off:Nat) (ps:List PV),iD.noRows ps=true->aM w G μ b off ps->aM w G' μ b off ps
 | _,_,_,[],_,_=>by rw[aM]; trivial
 | μ,b,off,p::ps,hn,hv=>by
  rw[aM]at hv ⊢;simp only[iD.noRows,Bool.and_eq_true]at hn;obtain⟨⟨v,h1,h2⟩,h3⟩:=hv;exact⟨⟨v,h1,VX μ p v hn.1 h2⟩,AU μ b (off+1) ps hn.2 h3⟩
end
end
def Gd.bare (G:Gd):Gd:=⟨G.ok,λ_=>none⟩
def Gd.with (G' G:Gd):Gd:=⟨G'.ok,G.row⟩
def Gd.of (g:Nat->Prop):Gd:=⟨g,λ_=>none⟩
theorem a5A {w g G}(h:∀ b,g b->G b){μ}:Mono w (Gd.of g) μ w G μ:=⟨λb hb=>⟨h b hb,rfl⟩,λ_ _ h=>h,λ_ _ h=>h,λ_ _ h=>h,λ_ _ h=>(by cases h),λ_ _ _=>rfl⟩
structure Tg where
 t:Ty
 l:List t.den
structure Blk where
 cells:List PV
 ty:TypeId
 grown:Bool
 frozen:Bool
 tag:Option Tg
abbrev Heap:=List (Option Blk)
abbrev DU(w:World):Nat->Prop:=λb=>w.heap.size<=b
def VV:TypeId:=1000000
def aT6(w:World) (G:Gd) (ty:TypeId) (b:Nat) (cs:List PV):Prop :=
 (ty≠VV/\∃ c,w.heap[b]?=some (.cells c ty (0,0))/\aM w G aJ b 0 cs)\/(ty=VV/\∃ es clk,w.heap[b]?=some (.map es clk)/\cs=es.toList.map (λe=>PV.lit e.key)/\∀ e∈es.toList,e.val=.bool true)
theorem aT6.mono {w w' G G' ty b cs}(h:aT6 w G ty b cs)(m:Mono w G aJ w' G' aJ)(hb:w'.heap[b]?=w.heap[b]?):aT6 w' G' ty b cs:=by
 rcases h with ⟨h0,c,h1,h2⟩|⟨h1,es,clk,h2,h3⟩
 ·exact .inl ⟨h0,c,hb.trans h1,aM.mono m hb 0 _ h2⟩
 ·exact .inr ⟨h1,es,clk,hb.trans h2,h3⟩
theorem aT6.cells {w G ty b n cs}(h:aT6 w G ty b cs)(hr:ty≠VV\/Room w b n):∃ c,w.heap[b]?=some (.cells c ty (0,0))/\aM w G aJ b 0 cs:=by
 rcases h with h|⟨h1,es,clk,h2,_⟩
 ·grind
 ·rcases hr with hr|⟨c,t,fr,h3,_⟩
  ·grind
  grind
structure yC (n0:Nat->Prop) (G:Gd) (μ:Mp) (H:Heap) (w:World):Prop where
 inj:∀ i j b,G.row i=some b->G.row j=some b->i=j
 sep:∀ j b,G.row j=some b->b<w.heap.size/\n0 b/\¬ G b/\∀ r k,H[r]?=some (some k)->k.frozen=false->μ.loc r≠some b
 cel:∀ j b,G.row j=some b->(∃ c t fr,w.heap[b]?=some (.cells c t fr))\/∃ es clk,w.heap[b]?=some (.map es clk)
 arn:∀ r k t l,H[r]?=some (some k)->k.grown=false->k.tag=some ⟨.rows t,l⟩->μ.loc r=none/\(∀ j,l.length<=j->G.row j=none)/\∀ j row,l[j]?=some row->(row=[]/\k.ty≠VV)\/∃ b,G.row j=some b/\aT6 w G k.ty b (aK t row)
 one:∀ (r s:Nat) (k k':Blk) (t:Ty) (l:List (List t.den)) (t':Ty) (l':List (List t'.den)),H[r]?=some (some k)->k.grown=false->k.tag=some ⟨.rows t,l⟩->H[s]?=some (some k')->k'.grown=false->k'.tag=some ⟨.rows t',l'⟩->r=s
structure aR (n0:Nat->Prop) (G:Gd) (μ:Mp) (H:Heap) (w:World):Prop where
 blk:∀ r k b,H[r]?=some (some k)->μ.loc r=some b->∃ c,w.heap[b]?=some (.cells c k.ty (0,0))/\aM w G μ b (μ.sh r) k.cells/\(k.grown=false->c.size=k.cells.length)/\(k.frozen=true->G b)/\(k.frozen=false->n0 b/\¬ G b)
 tags:∀ r k g,H[r]?=some (some k)->k.tag=some g->k.cells=aK g.t g.l/\μ.len r=some g.l.length
 inj:∀ r s k l b,H[r]?=some (some k)->H[s]?=some (some l)->k.frozen=false->l.frozen=false->μ.loc r=some b->μ.loc s=some b->r=s
 lt:Lt w G.ok
 top:∀ r,H.length<=r->μ.loc r=none/\μ.len r=none
 base:∀ b,w.heap.size<=b->n0 b
 rows:yC n0 G μ H w
structure Ext (n0:Nat->Prop) (w:World) (G:Gd) (μ:Mp) (w':World) (G':Gd) (μ':Mp):Prop extends Mono w G μ w' G' μ' where
 os:w'.os=w.os
 tape:w'.tape=w.tape
 output:w'.output=w.output
 size:w.heap.size<=w'.heap.size
 old:∀ b,b<w.heap.size->¬ n0 b->w'.heap[b]?=w.heap[b]?
 new:∀ b,G' b->G b\/n0 b
theorem Ext.refl n0 w G μ:Ext n0 w G μ w G μ :=
 ⟨Mono.refl _ _ _,rfl,rfl,rfl,Nat.le_refl _,λ_ _ _=>rfl,λ_ h=>.inl h⟩
theorem Ext.trans {n0 w w' w'' G G' G'' μ μ' μ''}(h:Ext n0 w G μ w' G' μ')(k:Ext n0 w' G' μ' w'' G'' μ''):Ext n0 w G μ w'' G'' μ'' :=
 ⟨h.toMono.trans k.toMono,k.os.trans h.os,k.tape.trans h.tape,k.output.trans h.output,Nat.le_trans h.size k.size,λb hb hn=>(k.old b (Nat.lt_of_lt_of_le hb h.size) hn).trans (h.old b hb hn),
  λb hb=>by rcases k.new b hb with h1|h1; exact h.new b h1; grind⟩
section
variable {n0:Nat->Prop} {w:World} {G:Gd} {μ:Mp} {H:Heap}
def upd(μ:Mp) (r:Nat) (b n:Option Nat) (o:Nat:=0):Mp:=⟨λs=>if s=r then b else μ.loc s,λs=>if s=r then n else μ.len s,λs=>if s=r then o else μ.sh s⟩
variable {o0:Nat}
theorem lE μ r b n:(upd μ r b n o0).loc r=b:=by simp[upd]
theorem qL μ r b n:(upd μ r b n o0).len r=n:=by simp[upd]
theorem A8 μ r b n:(upd μ r b n o0).sh r=o0:=by simp[upd]
theorem GG {μ r s b n}(h:s≠r):(upd μ r b n o0).loc s=μ.loc s/\(upd μ r b n o0).len s=μ.len s:=by simp[upd,h]
theorem aMA {μ r s b n}(h:s≠r):(upd μ r b n o0).sh s=μ.sh s:=by simp[upd,h]
theorem LG {w H}(hW:aR n0 G μ H w) b n (o0 :=0):Ext n0 w G μ w G (upd μ H.length b n o0):={
 good:=λ_ h=>⟨h,rfl⟩
 map:=λs b' hs=>by rw[(GG _).1]; exact hs; rintro rfl; rw[(hW.top _ (Nat.le_refl _)).1]at hs; cases hs
 len:=λs b' hs=>by rw[(GG _).2]; exact hs; rintro rfl; rw[(hW.top _ (Nat.le_refl _)).2]at hs; grind
 sh:=λs b' hs=>aMA (by rintro rfl; rw[(hW.top _ (Nat.le_refl _)).1]at hs; grind)
 room:=λ_ _ h=>h
 row:=λ_ _ h=>h
 os:=rfl
 tape:=rfl
 output:=rfl
 size:=Nat.le_refl _
 old:=λ_ _ _=>rfl
 new:=λ_ h=>.inl h }
theorem nQ {w:World}{b o}(h:w.heap[b]?=some o):b<w.heap.size:=(Array.getElem?_eq_some_iff.1 h).1
theorem aR.sY (hW:aR n0 G μ H w){r k b}(hr:H[r]?=some (some k))(hb:μ.loc r=some b):b<w.heap.size:=by
 obtain⟨c,h1,_⟩:=hW.blk r k b hr hb;grind
theorem FD(hW:aR n0 G μ H w) o b n:Ext n0 w G μ (w.alloc o) G (upd μ H.length b n):={
 good:=λc hc=>⟨hc,Below.heap_alloc _ _ _ (hW.lt c hc)⟩
 map:=(LG hW b n).map
 len:=(LG hW b n).len
 sh:=(LG hW b n).sh
 room:=λc n hc=>by
  obtain⟨cs,t,fr,h1,h2⟩:=hc;exact⟨cs,t,fr,by rw[Below.heap_alloc _ _ _ (nQ h1)]; grind,h2⟩
 row:=λ_ _ h=>h
 os:=rfl
 tape:=rfl
 output:=rfl
 size:=R
 old:=λc hc _=>Below.heap_alloc _ _ _ hc
 new:=λc hc=>.inl hc }
theorem aE7 k:Mono w G μ { w with drawn:=k } G μ:=⟨λ_ h=>⟨h,rfl⟩,λ_ _ h=>h,λ_ _ h=>h,λ_ _ h=>h,λ_ _ h=>h,λ_ _ _=>rfl⟩
theorem aRA {k}(hk:w.drawn<=k):Ext n0 w G μ { w with drawn:=k } G μ:=⟨aE7 k,rfl,rfl,rfl,Nat.le_refl _,λ_ _ _=>rfl,λ_ h=>.inl h⟩
theorem yC.step (h:yC n0 G μ H w) {w':World} {G':Gd} {μ':Mp} {H':Heap} (m:Mono w G aJ w' G' aJ) (hsz:w.heap.size<=w'.heap.size) (hrow:∀ j,G'.row j=G.row j)
  (hold:∀ j b,G.row j=some b->w'.heap[b]?=w.heap[b]?/\(G' b->G b)/\∀ r k,H'[r]?=some (some k)->k.frozen=false->μ'.loc r=some b->∃ s k0,H[s]?=some (some k0)/\k0.frozen=false/\μ.loc s=some b)
  (harn:∀ r k t l,H'[r]?=some (some k)->k.grown=false->k.tag=some ⟨.rows t,l⟩->∃ k0,H[r]?=some (some k0)/\k0.grown=k.grown/\k0.tag=k.tag/\k0.ty=k.ty/\μ'.loc r=μ.loc r):yC n0 G' μ' H' w' where
 inj i j b h1 h2:=h.inj i j b (by rw[<- hrow]; exact h1) (by rw[<- hrow]; exact h2)
 sep j b h1:=by
  rw[hrow]at h1;obtain⟨a1,a2,a3,a4⟩:=h.sep j b h1;grind
 cel j b h1:=by
  rw[hrow]at h1;rw[(hold j b h1).1];exact h.cel j b h1
 arn r k t l hr hg ht:=by
  obtain⟨k0,h1,q1,q2,q3,h2⟩:=harn r k t l hr hg ht;obtain⟨a1,a2,a3⟩:=h.arn r k0 t l h1 (by rw[q1]; exact hg) (by rw[q2]; exact ht);refine⟨by rw[h2]; exact a1,λj hj=>by rw[hrow]; exact a2 j hj,λj row hj=>?_⟩;rw[<- q3];rcases a3 j row hj with a4|⟨b,b1,b2⟩
  ·grind
  ·exact .inr ⟨b,by rw[hrow]; exact b1,b2.mono m (hold j b b1).1⟩
 one r s k k' t l t' l' h1 g1 t1 h2 g2 t2:=by
  obtain⟨k0,a1,a2,a3,_,_⟩:=harn r k t l h1 g1 t1;obtain⟨k1,b1,b2,b3,_,_⟩:=harn s k' t' l' h2 g2 t2;exact h.one r s k0 k1 t l t' l' a1 (by rw[a2]; exact g1) (by rw[a3]; exact t1) b1 (by rw[b2]; exact g2) (by rw[b3]; exact t2)
theorem yC.bFN (h:yC n0 G μ H w) {μ':Mp} (hm:∀ r,μ'.loc r=none\/μ'.loc r=μ.loc r):yC n0 G μ' H w where
 inj:=h.inj
 sep j b hj:=by
  obtain⟨a1,a2,a3,a4⟩:=h.sep j b hj;grind
 cel:=h.cel
 arn r k t l hr hg ht:=by
  obtain⟨a1,a2⟩:=h.arn r k t l hr hg ht;grind
 one:=h.one
theorem yC.none n0 G (hG:∀ j,G.row j=none) μ {H} w (hH:∀ (r:Nat) k,H[r]?=some (some k)->k.grown=true\/k.tag=none\/∃ g ,k.tag=some g/\∀ t,g.t≠.rows t):yC n0 G μ H w where
 inj i j b h:=W
 sep j b h:=W
 cel j b h:=W
 arn r k t l hr hg ht:=W
 one r s k k' t l t' l' hr hg ht:=W
theorem yC.bD7 (h:yC n0 G μ H w) {μ':Mp} {H':Heap} (φ:Nat->Nat) (hφ:∀ r s,φ r=φ s->r=s) (hs:∀ r k,H'[r]?=some (some k)->H[φ r]?=some (some k)/\μ'.loc r=μ.loc (φ r)):yC n0 G μ' H' w where
 inj:=h.inj
 sep j b hj:=by
  obtain⟨a1,a2,a3,a4⟩:=h.sep j b hj;grind
 cel:=h.cel
 arn r k t l hr hg ht:=by
  obtain⟨h1,h2⟩:=hs r k hr;rw[h2];exact h.arn _ k t l h1 hg ht
 one r s k k' t l t' l' h1 g1 t1 h2 g2 t2:=hφ r s (h.one _ _ k k' t l t' l' (hs r k h1).1 g1 t1 (hs s k' h2).1 g2 t2)
theorem yC.rel (h:yC n0 G μ H w) {μ':Mp} {H':Heap} (φ:Nat->Nat->Prop) (hφ:∀ r r' s,φ r s->φ r' s->r=r')
  (hs:∀ r k',H'[r]?=some (some k')->∃ s k,φ r s/\H[s]?=some (some k)/\k.frozen=k'.frozen/\k.grown=k'.grown/\k.tag=k'.tag/\k.ty=k'.ty/\μ'.loc r=μ.loc s):yC n0 G μ' H' w where
 inj:=h.inj
 sep j b hj:=by
  obtain⟨a1,a2,a3,a4⟩:=h.sep j b hj;grind
 cel:=h.cel
 arn r k t l hr hg ht:=by
  obtain⟨s,k0,_,h1,_,h3,h4,h5,h6⟩:=hs r k hr;rw[h6,<- h5];exact h.arn _ k0 t l h1 (by rw[h3]; exact hg) (by rw[h4]; exact ht)
 one r s k k' t l t' l' h1 g1 t1 h2 g2 t2:=by
  obtain⟨r1,k1,p1,a1,_,a3,a4,_,_⟩:=hs r k h1;obtain⟨s1,k2,p2,b1,_,b3,b4,_,_⟩:=hs s k' h2;have:=h.one r1 s1 k1 k2 t l t' l' a1 (by rw[a3]; exact g1) (by rw[a4]; exact t1) b1 (by rw[b3]; exact g2) (by rw[b4]; exact t2);grind
theorem yC.aNU (h:yC n0 G μ H w) {n1:Nat->Prop} (hn:∀ j b,G.row j=some b->n0 b->n1 b):yC n1 G μ H w where
 inj:=h.inj
 sep j b hj:=by
  obtain⟨a1,a2,a3⟩:=h.sep j b hj;grind
 cel:=h.cel
 arn:=h.arn
 one:=h.one
def a73(k:Blk):Prop:=∀ t l,k.grown=false->k.tag=some ⟨.rows t,l⟩->False
theorem aK6(h:aR n0 G μ H w) k:aR n0 G μ H { w with drawn:=k } where
 rows:=h.rows.step (aE7 k) (Nat.le_refl _) (λ_=>rfl) (λ_ _ _=>⟨rfl,id,λr k hr hf hl=>⟨r,k,hr,hf,hl⟩⟩) (λr k _ _ hr _ _=>⟨k,hr,rfl,rfl,rfl,rfl⟩)
 blk r b l hr hl:=by
  obtain⟨c,h2,h3,h4⟩:=h.blk r b l hr hl;exact⟨c,h2,aM.mono (aE7 k) rfl _ _ h3,h4⟩
 tags:=h.tags
 inj:=h.inj
 lt:=h.lt.step (λb hb=>⟨hb,rfl⟩) h.lt.lt
 top:=h.top
 base:=h.base
theorem aR.bZ {w':World} {G':Gd} (h:aR n0 G μ H w) (e:Ext n0 w G μ w' G' μ) (hr:(∀ j,G'.row j=G.row j)/\∀ j b,G.row j=some b->w'.heap[b]?=w.heap[b]?/\(G' b->G b)) (hb:∀ r k b,H[r]?=some (some k)->μ.loc r=some b->w'.heap[b]?=w.heap[b]?/\(G' b->G b))
  (hlt:∀ b,G' b->b<w'.heap.size):aR n0 G' μ H w' where
 blk r k b hr h1:=by
  obtain⟨c,h2,h3,h4,h5,h6⟩:=h.blk r k b hr h1;obtain⟨e1,e2⟩:=hb r k b hr h1;exact⟨c,e1.trans h2,aM.mono e.toMono e1 _ _ h3,h4,λhf=>(e.good b (h5 hf)).1,λhf=>⟨(h6 hf).1,λhg=>(h6 hf).2 (e2 hg)⟩⟩
 rows:=h.rows.step e.toMono.aJ e.size hr.1 (λj b hj=>⟨(hr.2 j b hj).1,(hr.2 j b hj).2,λr k h1 h2 h3=>⟨r,k,h1,h2,h3⟩⟩) (λr k _ _ h1 _ _=>⟨k,h1,rfl,rfl,rfl,rfl⟩)
 tags:=h.tags
 inj:=h.inj
 lt:=h.lt.step e.good hlt
 top:=h.top
 base:=λb hb=>h.base b (Nat.le_trans e.size hb)
theorem aEW {k}:∀ s k1,(H++[some k])[s]?=some (some k1)->(s=H.length/\k1=k)\/(s<H.length/\H[s]?=some (some k1)):=W
theorem O7(hW:aR n0 G μ H w) {w' ob on} (e:Ext n0 w G μ w' G (upd μ H.length ob on o0)) {k} (hna:a73 k) (hheap:∀ j b,G.row j=some b->w'.heap[b]?=w.heap[b]?)
  (hob:∀ j b,G.row j=some b->k.frozen=false->ob≠some b):yC n0 G (upd μ H.length ob on o0) (H++[some k]) w':=by
 refine hW.rows.step e.toMono.aJ e.size (λ_=>rfl) (λj b hj=>⟨hheap j b hj,id,λr k1 hr hf hl=>?_⟩) (λr k1 t l hr hg ht=>?_)
 ·rcases aEW r k1 hr with ⟨rfl,rfl⟩|⟨hlt,hr'⟩
  ·rw[lE]at hl;grind
  ·rw[(GG Z).1]at hl;grind
 ·rcases aEW r k1 hr with ⟨rfl,rfl⟩|⟨hlt,hr'⟩
  ·exact(hna t l hg ht).elim
  ·exact⟨k1,hr',rfl,rfl,rfl,by rw[(GG Z).1]⟩
theorem MG(hW:aR n0 G μ H w) {w':World} {ob on:Option Nat} (e:Ext n0 w G μ w' G (upd μ H.length ob on o0)) (k:Blk) (hold:∀ r k b,H[r]?=some (some k)->μ.loc r=some b->w'.heap[b]?=w.heap[b]?)
  (hnew:∀ b,ob=some b->∃ c,w'.heap[b]?=some (.cells c k.ty (0,0))/\aM w' G (upd μ H.length ob on o0) b o0 k.cells/\(k.grown=false->c.size=k.cells.length)/\(k.frozen=true->G b)/\(k.frozen=false->n0 b/\¬ G b))
  (htag:∀ g,k.tag=some g->k.cells=aK g.t g.l/\on=some g.l.length) (hinj:∀ r k' b,H[r]?=some (some k')->k'.frozen=false->μ.loc r=some b->ob≠some b)
  (hrows:yC n0 G (upd μ H.length ob on o0) (H++[some k]) w'):aR n0 G (upd μ H.length ob on o0) (H++[some k]) w':=by
 have key:=aEW (H:=H) (k:=k);refine⟨?_,?_,?_,?_,?_,λb hb=>hW.base b (Nat.le_trans e.size hb),hrows⟩
 ·intro s k1 b hs hb;rcases key s k1 hs with ⟨rfl,rfl⟩|⟨hl,hs'⟩
  ·rw[lE]at hb;rw[A8];grind
  ·rw[aMA Z];rw[(GG Z).1]at hb;obtain⟨c,h2,h3,h4⟩:=hW.blk s k1 b hs' hb;have e1:=hold s k1 b hs' hb;exact⟨c,e1.trans h2,aM.mono e.toMono e1 _ _ h3,h4⟩
 ·intro s k1 g hs hg;rcases key s k1 hs with ⟨rfl,rfl⟩|⟨hl,hs'⟩
  ·rw[qL];grind
  ·rw[(GG Z).2];exact hW.tags s k1 g hs' hg
 ·intro s1 s2 k1 k2 b h1 h2 f1 f2 m1 m2;rcases key s1 k1 h1 with ⟨rfl,rfl⟩|⟨l1,h1'⟩ <;> rcases key s2 k2 h2 with ⟨rfl,rfl⟩|⟨l2,h2'⟩
  ·rfl
  ·rw[lE]at m1;rw[(GG Z).1]at m2;grind
  ·rw[lE]at m2;rw[(GG Z).1]at m1;grind
  ·rw[(GG Z).1]at m1 m2;exact hW.inj s1 s2 k1 k2 b h1' h2' f1 f2 m1 m2
 ·refine hW.lt.step e.good λb hb=>?_
  exact Nat.lt_of_lt_of_le (hW.lt b hb) e.size
 ·intro r hr;simp only[List.length_append,List.length_cons,List.length_nil]at hr;rw[(GG Z).1,(GG Z).2];exact hW.top r Z
theorem HX(hW:aR n0 G μ H w) (c:Array Value) (k:Blk) {on:Option Nat} (hc:∀ (i:Nat) (p:PV),k.cells[i]?=some p->∃ v:Value,c[i]?=some v/\VR w G μ p v) (hg:k.grown=false->c.size=k.cells.length) (hf:k.frozen=false)
  (htag:∀ g,k.tag=some g->k.cells=aK g.t g.l/\on=some g.l.length) (hna:a73 k:=by intro t l h1 h2; first|(cases h1; done)|(cases h2; done)):aR n0 G (upd μ H.length (some w.heap.size) on) (H++[some k]) (w.alloc (.cells c k.ty)):=by
 have e:=FD hW (.cells c k.ty) (some w.heap.size) on;have hnew:(w.alloc (.cells c k.ty)).heap[w.heap.size]?=some (.cells c k.ty (0,0)):=by
  show (w.heap.push _)[w.heap.size]?=_;simp
 refine MG hW e k (λr k b hr hb=>Below.heap_alloc _ _ _ (hW.sY hr hb)) ?_ htag ?_ (O7 hW e hna (λj b hj=>Below.heap_alloc _ _ _ (hW.rows.sep j b hj).1) (λj b hj _ hh=>by cases hh; exact Nat.lt_irrefl _ (hW.rows.sep j _ hj).1))
 ·rintro b hb;cases hb;refine⟨c,hnew,?_,hg,λh=>(by rw[hf]at h; cases h),λ_=>⟨hW.base _ (Nat.le_refl _),λhG=>Nat.lt_irrefl _ (hW.lt _ hG)⟩⟩;refine aM.mk λi p hp=>?_
  obtain⟨v,h1,h2⟩:=hc i p hp;refine⟨v,?_,VR.mono e.toMono p v h2⟩
  simp_all
 ·intro r k' b hr _ hb hh;cases hh;exact Nat.lt_irrefl _ (hW.sY hr hb)
theorem sX(hW:aR n0 G μ H w) (k:Blk) {on:Option Nat} (htag:∀ g,k.tag=some g->k.cells=aK g.t g.l/\on=some g.l.length) (hna:a73 k:=by intro t l h1 h2; first|(cases h1; done)|(cases h2; done)) :
  Ext n0 w G μ w G (upd μ H.length none on)/\aR n0 G (upd μ H.length none on) (H++[some k]) w :=
 ⟨LG hW _ _,MG hW (LG hW _ _) k (λ_ _ _ _ _=>rfl) (λb hb=>by cases hb) htag (λr k' b _ _ _ hh=>by cases hh) (O7 hW (LG hW _ _) hna (λ_ _ _=>rfl) (λ_ _ _ _ hh=>by cases hh))⟩
structure YI (w w':World) (b:Nat) (c':Array Value) (t:TypeId):Prop where
 at_:w'.heap[b]?=some (.cells c' t (0,0))
 other:∀ x,x≠b->w'.heap[x]?=w.heap[x]?
 os:w'.os=w.os
 tape:w'.tape=w.tape
 output:w'.output=w.output
 size:w'.heap.size=w.heap.size
 drawn:w'.drawn=w.drawn
theorem H6(hW:aR n0 G μ H w) {r k} (hr:H[r]?=some (some k)) (hf:k.frozen=false) {b} (hb:μ.loc r=some b) {c c'} (hc:w.heap[b]?=some (.cells c k.ty (0,0)))
  {w' t} (hT:YI w w' b c' t) (hs:c'.size=c.size):Ext n0 w G μ w' G μ:=by
 obtain⟨c1,h2,h3,h4,h5,h6⟩:=hW.blk r k b hr hb;refine⟨⟨λx hx=>⟨hx,hT.other x ?_⟩,λ_ _ h=>h,λ_ _ h=>h,?_,λ_ _ h=>h,λ_ _ _=>rfl⟩,hT.os,hT.tape,hT.output,Nat.le_of_eq hT.size.symm,λx _ hx=>hT.other x ?_,λ_ h=>.inl h⟩
 ·grind
 ·intro x n hx;obtain⟨cs,t',fr,g1,g2⟩:=hx
  by_cases hxb:x=b
  ·subst hxb;rw[hc]at g1; cases g1;exact⟨c',_,_,hT.at_,by omega⟩
  ·exact⟨cs,t',fr,by rw[hT.other x hxb]; omega,g2⟩
 grind
theorem L6(hW:aR n0 G μ H w) {r:Nat} {k k':Blk} (hr:H[r]?=some (some k)) (hf:k.frozen=false) {b:Nat} (hb:μ.loc r=some b) {c c':Array Value} (hc:w.heap[b]?=some (.cells c k.ty (0,0)))
  {w':World} (hT:YI w w' b c' k'.ty) (hs:c'.size=c.size) (hf':k'.frozen=false) (hk:aM w' G μ b (μ.sh r) k'.cells) (hg:k'.grown=false->c'.size=k'.cells.length)
  (htag:∀ g,k'.tag=some g->k'.cells=aK g.t g.l/\μ.len r=some g.l.length) (hna:∀ t l,k'.grown=false->k'.tag=some ⟨.rows t,l⟩->∃ l0,k.grown=false/\k.tag=some ⟨.rows t,l0⟩:=by intro t l h1 h2; first|(cases h1; done)|(cases h2; done)):aR n0 G μ (H.set r (some k')) w':=by
 have e:=H6 hW hr hf hb hc hT hs;obtain⟨c1,h2,h3,h4,h5,h6⟩:=hW.blk r k b hr hb;have hrl:r<H.length:=(List.getElem?_eq_some_iff.1 hr).1;have hkey:∀ (s:Nat) (k1:Blk),(H.set r (some k'))[s]?=some (some k1)->(s=r/\k1=k')\/(s≠r/\H[s]?=some (some k1)):=W
 refine⟨?_,?_,?_,?_,?_,λb hb=>hW.base b (Nat.le_trans e.size hb),?_⟩
 case refine_6 =>
  refine hW.rows.step e.toMono.aJ e.size (λ_=>rfl) (λj b1 hj=>⟨hT.other b1 ?_,id,λs k1 hs hf1 hl=>?_⟩) (λs k1 t l hs hg1 ht=>?_)
  ·rintro rfl;exact(hW.rows.sep j b1 hj).2.2.2 r k hr hf hb
  ·grind
  ·rcases hkey s k1 hs with ⟨rfl,rfl⟩|⟨_,hs'⟩
   ·obtain⟨l0,q1,q2⟩:=hna t l hg1 ht;rw[(hW.rows.arn s k t l0 hr q1 q2).1]at hb;cases hb
   ·grind
 ·intro s k2 b2 hs2 hb2
  by_cases hsr:r=s
  ·subst hsr;rw[List.getElem?_set_self hrl]at hs2;cases hs2;rw[hb]at hb2; cases hb2;exact⟨c',hT.at_,hk,hg,λh=>(by rw[hf']at h; cases h),λ_=>h6 hf⟩
  ·rw[List.getElem?_set_ne hsr]at hs2;obtain⟨c2,g2,g3,g4,g5,g6⟩:=hW.blk s k2 b2 hs2 hb2;have hne:b2≠b:=by
    rintro rfl;cases hk2:k2.frozen with
    | false=>exact hsr (hW.inj r s k k2 b2 hr hs2 hf hk2 hb hb2)
    | true=>exact(h6 hf).2 (g5 hk2)
   exact⟨c2,(hT.other b2 hne).trans g2,aM.mono e.toMono (hT.other b2 hne) _ _ g3,g4,g5,g6⟩
 ·intro s k2 g hs2 hg2
  by_cases hsr:r=s
  ·grind
  ·rw[List.getElem?_set_ne hsr]at hs2;exact hW.tags s k2 g hs2 hg2
 ·intro s1 s2 k1 k2 b2 e1 e2 f1 f2 m1 m2;have old:∀ (s:Nat) (k1:Blk),(H.set r (some k'))[s]?=some (some k1)->k1.frozen=false->∃ k0,H[s]?=some (some k0)/\k0.frozen=false:=by
   intro s k1 e1 f1
   by_cases hsr:r=s
   ·subst hsr; exact⟨k,hr,hf⟩
   ·rw[List.getElem?_set_ne hsr]at e1; exact⟨k1,e1,f1⟩
  obtain⟨k3,e3,f3⟩:=old s1 k1 e1 f1;obtain⟨k4,e4,f4⟩:=old s2 k2 e2 f2;exact hW.inj s1 s2 k3 k4 b2 e3 e4 f3 f4 m1 m2
 ·refine hW.lt.step (H6 hW hr hf hb hc hT hs).good λb hb=>?_
  rw[hT.size]; exact hW.lt b hb
 ·intro s hs2;rw[List.length_set]at hs2;exact hW.top s hs2
theorem uV {H:Heap}{r s k1}(e1:(H.set r none)[s]?=some (some k1)):H[s]?=some (some k1)/\s≠r:=W
theorem tY(hW:aR n0 G μ H w) (r:Nat):aR n0 G μ (H.set r none) w :=
 ⟨λs k b hs=>hW.blk s k b (uV hs).1,λs k g hs=>hW.tags s k g (uV hs).1,λs1 s2 k1 k2 b e1 e2=>hW.inj s1 s2 k1 k2 b (uV e1).1 (uV e2).1,hW.lt,λs hs=>hW.top s (by simpa using hs),hW.base,
  hW.rows.step (Mono.refl _ _ _) (Nat.le_refl _) (λ_=>rfl) (λ_ _ _=>⟨rfl,id,λs k hs hf hl=>⟨s,k,(uV hs).1,hf,hl⟩⟩) (λs k _ _ hs _ _=>⟨k,(uV hs).1,rfl,rfl,rfl,rfl⟩)⟩
theorem RV(hW:aR n0 G μ H w) {r:Nat} {k:Blk} (hr:H[r]?=some (some k)) {b:Nat} (hb:μ.loc r=some b) {on:Option Nat} (htag:∀ g,k.tag=some g->k.cells=aK g.t g.l/\on=some g.l.length) :
  Ext n0 w G μ w G (upd μ H.length (some b) on (μ.sh r))/\aR n0 G (upd μ H.length (some b) on (μ.sh r)) (H.set r none++[some k]) w:=by
 have hk:=tY hW r;have hlen:(H.set r none).length=H.length:=R
 have e:=LG hW (some b) on (μ.sh r);have e2:Ext n0 w G μ w G (upd μ (H.set r none).length (some b) on (μ.sh r)):=by rw[hlen]; exact e
 refine⟨e,?_⟩;have:=MG hk e2 k (λ_ _ _ _ _=>rfl) ?_ htag ?_ (O7 hk e2 (λt l h1 h2=>by rw[(hW.rows.arn r k t l hr h1 h2).1]at hb; cases hb) (λ_ _ _=>rfl) (λj b1 hj hf hh=>by cases hh; exact(hW.rows.sep j b hj).2.2.2 r k hr hf hb))
 ·grind
 ·rintro b' hb';cases hb';obtain⟨c,h2,h3,h4⟩:=hW.blk r k b hr hb;exact⟨c,h2,aM.mono e2.toMono rfl _ _ h3,h4⟩
 ·intro s k' b' hs hf hb' hh;cases hh;obtain⟨hs1,hs2⟩:=uV hs;cases hkf:k.frozen with
  | false=>exact hs2 (hW.inj s r k' k b hs1 hr hf hkf hb' hb)
  | true =>
   obtain⟨_,_,_,_,g5,_⟩:=hW.blk r k b hr hb;obtain⟨_,_,_,_,_,g6⟩:=hW.blk s k' b hs1 hb';grind
theorem XG(hW:aR n0 G μ H w) {r:Nat} {k:Blk} (hr:H[r]?=some (some k)) (hf:k.frozen=false) :
  Ext n0 w G μ w (G.or λx=>μ.loc r=some x) μ/\aR n0 (G.or λx=>μ.loc r=some x) μ (H.set r (some { k with frozen:=true })) w:=by
 have hrl:r<H.length:=(List.getElem?_eq_some_iff.1 hr).1;have e:Ext n0 w G μ w (G.or λx=>μ.loc r=some x) μ:=⟨⟨λ_ h=>⟨.inl h,rfl⟩,λ_ _ h=>h,λ_ _ h=>h,λ_ _ h=>h,λ_ _ h=>h,λ_ _ _=>rfl⟩,rfl,rfl,rfl,Nat.le_refl _,λ_ _ _=>rfl,λx hx=>by
  rcases hx with hx|hx
  ·grind
  ·obtain⟨_,_,_,_,_,h6⟩:=hW.blk r k x hr hx;exact .inr (h6 hf).1⟩
 have key:∀ (s:Nat) (k1:Blk),(H.set r (some { k with frozen:=true }))[s]?=some (some k1)->(s=r/\k1={ k with frozen:=true })\/(s≠r/\H[s]?=some (some k1)):=W
 refine⟨e,?_,?_,?_,?_,?_,hW.base,?_⟩
 case refine_6 =>
  refine hW.rows.step e.toMono.aJ (Nat.le_refl _) (λ_=>rfl) (λj b hj=>⟨rfl,?_,λs k1 hs hf1 hl=>?_⟩) (λs k1 t l hs hg ht=>?_)
  ·rintro(h1|h1)
   ·exact h1
   ·exact absurd h1 ((hW.rows.sep j b hj).2.2.2 r k hr hf)
  ·grind
  ·grind
 ·intro s k1 b hs hb;rcases key s k1 hs with ⟨rfl,rfl⟩|⟨hne,hs⟩
  ·obtain⟨c,h2,h3,h4,h5,h6⟩:=hW.blk s k b hr hb;exact⟨c,h2,aM.mono e.toMono rfl _ _ h3,h4,λ_=>.inr hb,λh=>by cases h⟩
  ·obtain⟨c2,g2,g3,g4,g5,g6⟩:=hW.blk s k1 b hs hb;refine⟨c2,g2,aM.mono e.toMono rfl _ _ g3,g4,λh=>.inl (g5 h),λh=>⟨(g6 h).1,?_⟩⟩;rintro(h'|h')
   ·grind
   ·exact hne (hW.inj s r k1 k b hs hr h hf hb h')
 ·intro s k1 g hs hg;rcases key s k1 hs with ⟨rfl,rfl⟩|⟨hne,hs⟩
  ·exact hW.tags s k g hr hg
  ·exact hW.tags s k1 g hs hg
 ·intro s1 s2 k1 k2 b2 e1 e2 f1 f2 m1 m2;rcases key s1 k1 e1 with ⟨rfl,rfl⟩|⟨h1,h1'⟩
  ·cases f1
  ·rcases key s2 k2 e2 with ⟨rfl,rfl⟩|⟨h2,h2'⟩
   ·cases f2
   ·exact hW.inj s1 s2 k1 k2 b2 h1' h2' f1 f2 m1 m2
 ·refine hW.lt.step (λb hb=>⟨.inl hb,rfl⟩) ?_;rintro x (hx|hx)
  ·exact hW.lt x hx
  ·exact hW.sY hr hx
 ·intro s hs;exact hW.top s (by simpa using hs)
theorem aV3(hW:aR n0 G μ H w) {j b:Nat} (hb:G.row j=some b) {c c':Array Value} {t:TypeId} (hc:w.heap[b]?=some (.cells c t (0,0))) {w':World} (hT:YI w w' b c' t) (hs:c'.size=c.size):Ext n0 w G μ w' G μ:=by
 obtain⟨s1,s2,s3,s4⟩:=hW.rows.sep j b hb;refine⟨⟨λx hx=>⟨hx,hT.other x ?_⟩,λ_ _ h=>h,λ_ _ h=>h,?_,λ_ _ h=>h,λ_ _ _=>rfl⟩,hT.os,hT.tape,hT.output,Nat.le_of_eq hT.size.symm,λx _ hx=>hT.other x ?_,λ_ h=>.inl h⟩
 ·grind
 ·intro x n hx;obtain⟨cs,t',fr,g1,g2⟩:=hx
  by_cases hxb:x=b
  ·subst hxb;rw[hc]at g1; cases g1;exact⟨c',_,_,hT.at_,by rw[hs]; exact g2⟩
  ·exact⟨cs,t',fr,by rw[hT.other x hxb]; exact g1,g2⟩
 ·grind
theorem bBK(hW:aR n0 G μ H w) {r k t} {l l':List (List t.den)} (hr:H[r]?=some (some k)) (hg:k.grown=false) (ht:k.tag=some ⟨.rows t,l⟩) {j b} (hb:G.row j=some b) {c c'} (hc:w.heap[b]?=some (.cells c k.ty (0,0)))
  {w'} (hT:YI w w' b c' k.ty) (hs:c'.size=c.size) (hl:l'.length=l.length) (hne:∀ i,i≠j->l'[i]?=l[i]?) {row} (hj:l'[j]?=some row) (hk:aM w' G aJ b 0 (aK t row)) (hm:k.ty≠VV) :
  aR n0 G μ (H.set r (some { k with cells:=aK (.rows t) l',tag:=some ⟨.rows t,l'⟩ })) w':=by
 have e:=aV3 hW hb hc hT hs;obtain⟨s1,s2,s3,s4⟩:=hW.rows.sep j b hb;obtain⟨a1,a2,a3⟩:=hW.rows.arn r k t l hr hg ht;have hrl:r<H.length:=(List.getElem?_eq_some_iff.1 hr).1;have hkey:∀ (s:Nat) (k1:Blk),(H.set r (some { k with cells:=aK (.rows t) l',tag:=some ⟨.rows t,l'⟩ }))[s]?=some (some k1)->(s=r/\k1={ k with cells:=aK (.rows t) l',tag:=some ⟨.rows t,l'⟩ })\/(s≠r/\H[s]?=some (some k1)):=W
 refine⟨?_,?_,?_,?_,?_,λb hb=>hW.base b (Nat.le_trans e.size hb),?_,?_,?_,?_,?_⟩
 ·intro s k2 b2 hs2 hb2;rcases hkey s k2 hs2 with ⟨rfl,rfl⟩|⟨_,hs'⟩
  ·grind
  ·obtain⟨c2,g2,g3,g4,g5,g6⟩:=hW.blk s k2 b2 hs' hb2;have hne:b2≠b:=W
   exact⟨c2,(hT.other b2 hne).trans g2,aM.mono e.toMono (hT.other b2 hne) _ _ g3,g4,g5,g6⟩
 ·intro s k2 g hs2 hg2;rcases hkey s k2 hs2 with ⟨rfl,rfl⟩|⟨_,hs'⟩
  ·cases hg2;exact⟨rfl,by rw[(hW.tags s k _ hr ht).2]; exact congrArg some hl.symm⟩
  ·exact hW.tags s k2 g hs' hg2
 ·intro x1 x2 k1 k2 b2 e1 e2 f1 f2 m1 m2;have old:∀ (s:Nat) (k1:Blk),(H.set r (some { k with cells:=aK (.rows t) l',tag:=some ⟨.rows t,l'⟩ }))[s]?=some (some k1)->k1.frozen=false->∃ k0,H[s]?=some (some k0)/\k0.frozen=false:=W
  obtain⟨k3,e3,f3⟩:=old x1 k1 e1 f1;obtain⟨k4,e4,f4⟩:=old x2 k2 e2 f2;exact hW.inj x1 x2 k3 k4 b2 e3 e4 f3 f4 m1 m2
 ·refine hW.lt.step (aV3 hW hb hc hT hs).good λb hb=>?_
  rw[hT.size]; exact hW.lt b hb
 ·intro s hs2;rw[List.length_set]at hs2;exact hW.top s hs2
 ·exact hW.rows.inj
 ·intro j1 b1 h1;obtain⟨q1,q2,q3,q4⟩:=hW.rows.sep j1 b1 h1;refine⟨by rw[hT.size]; exact q1,q2,q3,λs k1 hs1 hf1 hl1=>?_⟩;rcases hkey s k1 hs1 with ⟨rfl,rfl⟩|⟨_,hs'⟩
  ·rw[a1]at hl1; cases hl1
  ·exact q4 s k1 hs' hf1 hl1
 ·intro j1 b1 h1
  by_cases hb1:b1=b
  ·subst hb1; exact .inl ⟨_,_,_,hT.at_⟩
  ·rw[hT.other b1 hb1]; exact hW.rows.cel j1 b1 h1
 ·intro s k1 t1 l1 hs1 hg1 ht1;rcases hkey s k1 hs1 with ⟨rfl,rfl⟩|⟨hne1,hs'⟩
  ·cases ht1;refine⟨a1,λi hi=>a2 i Z,λi row1 hi=>?_⟩
   by_cases hij:i=j
   ·subst hij;rw[hj]at hi; cases hi;exact .inr ⟨b,hb,.inl ⟨hm,c',hT.at_,hk⟩⟩
   ·rw[hne i hij]at hi;rcases a3 i row1 hi with h0|⟨b1,q1,q2⟩
    ·exact .inl h0
    ·have hbb:b1≠b:=by rintro rfl; exact hij (hW.rows.inj i j b1 q1 hb)
     exact .inr ⟨b1,q1,q2.mono e.toMono.aJ (hT.other b1 hbb)⟩
  ·exact absurd (hW.rows.one s r k1 k t1 l1 t l hs' hg1 ht1 hr hg ht) hne1
 ·intro x1 x2 k1 k2 t1 l1 t2 l2 h1 g1 t1' h2 g2 t2';have old:∀ (s:Nat) (k1:Blk) t1 l1,(H.set r (some { k with cells:=aK (.rows t) l',tag:=some ⟨.rows t,l'⟩ }))[s]?=some (some k1)->k1.grown=false->k1.tag=some ⟨.rows t1,l1⟩->s=r:=by
   intro s k1 t1 l1 h1 g1 q1;rcases hkey s k1 h1 with ⟨rfl,rfl⟩|⟨_,hs'⟩
   ·rfl
   ·exact hW.rows.one s r k1 k t1 l1 t l hs' g1 q1 hr hg ht
  rw[old x1 k1 t1 l1 h1 g1 t1',old x2 k2 t2 l2 h2 g2 t2']
theorem aFG(hW:aR n0 G μ H w) (o:Obj):Ext n0 w G μ (w.alloc o) (G.or λx=>x=w.heap.size) μ/\aR n0 (G.or λx=>x=w.heap.size) μ H (w.alloc o):=by
 have e:Ext n0 w G μ (w.alloc o) (G.or λx=>x=w.heap.size) μ:={
  good:=λb hb=>⟨.inl hb,Below.heap_alloc _ _ _ (hW.lt b hb)⟩
  map:=λ_ _ h=>h
  len:=λ_ _ h=>h
  room:=λb n hc=>by
   obtain⟨cs,t,fr,h1,h2⟩:=hc;exact⟨cs,t,fr,by rw[Below.heap_alloc _ _ _ (nQ h1)]; exact h1,h2⟩
  row:=λ_ _ h=>h
  os:=rfl
  tape:=rfl
  output:=rfl
  size:=R
  old:=λb hb _=>Below.heap_alloc _ _ _ hb
  new:=λb hb=>by
   rcases hb with hb|rfl
   ·grind
   ·exact .inr (hW.base _ (Nat.le_refl _)) }
 refine⟨e,hW.bZ e ⟨λ_=>rfl,λj b hj=>⟨Below.heap_alloc _ _ _ (hW.rows.sep j b hj).1,?_⟩⟩ ?_ ?_⟩
 ·rintro(h|rfl)
  ·exact h
  ·exact absurd (hW.rows.sep j _ hj).1 (Nat.lt_irrefl _)
 ·intro r k b hr hb;have hlt:=hW.sY hr hb;refine⟨Below.heap_alloc _ _ _ hlt,?_⟩;rintro(h|rfl)
  ·exact h
  ·omega
 ·rintro b (hb|rfl)
  ·have:=hW.lt b hb; simp; omega
  ·simp
end
abbrev TyE : Ty := .int .i64
abbrev TyF : Ty := .prod (.int .i64) (.int .i64)
abbrev TyD : Ty := .list (.int .i64)
abbrev TyC : Ty := .list (.list (.int .i64))
abbrev TyB : Ty := .prod (.int .i64) (.prod (.int .i64) (.prod (.int .i64) (.int .i64)))
abbrev TyA : Ty := .prod (.int .i64) (.prod (.list (.int .i64)) (.prod (.list (.int .i64)) (.list (.int .i64))))
abbrev TyI : Ty := .prod (.int .i8) (.prod (.int .i8) (.prod (.int .i8) (.int .i8)))
abbrev TyH : Ty := .prod (.int .i64) (.list (.list (.int .i64)))
abbrev TyG : Ty := .prod (.list (.int .i64)) (.prod (.list (.list (.int .i64))) (.list (.list (.int .i64))))
abbrev TyP : Ty := .prod (.int .u8) (.prod (.list (.prod (.int .i8) (.prod (.int .i8) (.prod (.int .i8) (.int .i8))))) .bool)
abbrev TyQ : Ty := .prod (.prod (.int .u8) (.prod (.list (.prod (.int .i8) (.prod (.int .i8) (.prod (.int .i8) (.int .i8))))) .bool)) (.prod (.prod (.int .u8) (.prod (.list (.prod (.int .i8) (.prod (.int .i8) (.prod (.int .i8) (.int .i8))))) .bool)) .bool)
abbrev TyO : Ty := .prod (.int .i64) (.int .i64)
abbrev TyL : Ty := .prod (.prod (.int .i64) (.int .i64)) (.list (.int .i64))
abbrev TyN : Ty := .list (.prod (.prod (.int .i64) (.int .i64)) (.list (.int .i64)))
abbrev TyV : Ty := .prod (.list (.int .i64)) (.prod (.list (.list (.int .i64))) (.prod (.list (.list (.int .i64))) (.list (.list (.int .i64)))))
abbrev TyM : Ty := .prod (.prod (.list (.int .i64)) (.prod (.list (.list (.int .i64))) (.list (.list (.int .i64))))) (.list (.list (.int .i64)))
abbrev TyU : Ty := .prod (.prod (.prod (.list (.int .i64)) (.prod (.list (.list (.int .i64))) (.list (.list (.int .i64))))) (.list (.list (.int .i64)))) (.prod (.prod (.int .i64) (.list (.list (.int .i64)))) .smap)
abbrev TyJ : Ty := .prod (.prod (.prod (.list (.int .i64)) (.prod (.list (.list (.int .i64))) (.list (.list (.int .i64))))) (.list (.list (.int .i64)))) (.prod (.list (.list (.list (.int .i64)))) (.int .i64))
abbrev TyK : Ty := .prod (.prod (.int .u8) (.prod (.list (.prod (.int .i8) (.prod (.int .i8) (.prod (.int .i8) (.int .i8))))) .bool)) (.prod (.list (.prod (.int .i8) (.prod (.int .i8) (.prod (.int .i8) (.int .i8))))) (.prod (.list (.list (.prod (.int .i8) (.prod (.int .i8) (.prod (.int .i8) (.int .i8)))))) (.int .u8)))
universe u v
theorem oJ {α : Type u} {a b : α} : (some a = some b) = (a = b) := Option.some.injEq a b
theorem oP {α : Type u} {β : Type v} {a c : α} {b d : β} : ((a, b) = (c, d)) = (a = c ∧ b = d) := Prod.mk.injEq a b c d
theorem oT {p : Prop} [h : Decidable p] (g : p) : decide p = true := decide_eq_true g
theorem oF {p : Prop} [h : Decidable p] (g : ¬ p) : decide p = false := decide_eq_false g
theorem oC {α : Sort u} {a b : α} : cond true a b = a := rfl
theorem oD {α : Sort u} {a b : α} : cond false a b = b := rfl
theorem oE {n m : Nat} (h : Nat.beq n m = true) : n = m := Nat.eq_of_beq_eq_true h
theorem oL {n m : Nat} (h : Nat.ble n m = true) : n ≤ m := Nat.le_of_ble_eq_true h
theorem oN (n : Nat) : (n : Int).toNat = n := Int.toNat_natCast n
theorem oM (n : Nat) : n ≤ n := Nat.le_refl n
theorem oR {a b c : Nat} (h : a ≤ b) (k : b ≤ c) : a ≤ c := Nat.le_trans h k
theorem oG (a b : Nat) : a < b ∨ a ≥ b := Nat.lt_or_ge a b
theorem oB {α : Type u} {a b : α} (h : some a = some b) : a = b := Option.some.inj h
theorem oZ {α : Sort u} {β : Sort v} {a b : α} (f : α → β) (h : a = b) : f a = f b := congrArg f h
theorem oH {α : Type u} {a b : List α} : (a ++ b).length = a.length + b.length := List.length_append
theorem oO {α : Type u} {l : List α} {i : Nat} {a : α} : l[i]? = some a ↔ ∃ h : i < l.length, l[i] = a := List.getElem?_eq_some_iff
theorem oQ {α : Type u} {l : List α} {i : Nat} {a : α} : l.getD i a = l[i]?.getD a := List.getD_eq_getElem?_getD
theorem oA {a b : Bool} : ((a && b) = true) = (a = true ∧ b = true) := Bool.and_eq_true a b
end Go.PM
namespace Go.PM
open Go Go.RowKit
abbrev Frm:=List (Nat×PV)
def dX:Frm->Nat->PV
 | [],_=>.junk
 | (s,p)::r,t=>bif Nat.beq s t then p else dX r t
def a7B:Frm->Nat->PV->Frm
 | [],t,p=>[(t,p)]
 | (s,q)::r,t,p=>bif Nat.beq s t then (t,p)::r else (s,q)::a7B r t p
def aMV(m t:Nat):Bool:=Nat.beq (Nat.land (Nat.shiftRight m t) 1) 1
def lits(vs:Array Value):List PV:=vs.toList.map .lit
def aIY:Value->PV
 | .agg cs=>.agg (lits cs)
 | .tuple cs=>.tuple (lits cs)
 | v=>.lit v
def ev(F:Frm):Operand->PV
 | .tmp t=>dX F t
 | .const v=>aIY v
 | .func f=>.lit (.func (.func f) #[] #[])
 | .global _=>.junk
def bG8:PV->Option Value
 | .lit v=>some v
 | _=>none
def aNJ:List PV->Option (List Value)
 | []=>some []
 | .lit v::ps=>match aNJ ps with|some vs=>some (v::vs)|none=>none
 | _=>none
def aNE:PV->Option Value
 | .lit v=>some v
 | .agg cs=>match aNJ cs with|some vs=>some (.agg vs.toArray)|none=>none
 | .tuple cs=>match aNJ cs with|some vs=>some (.tuple vs.toArray)|none=>none
 | _=>none
def U5 {α:Type} (P:Program):Sem α->Option α
 | .pure a=>some a
 | .program k=>U5 P (k P)
 | _=>none
def valOf(F:Frm)(x:Operand):Value:=match aNE (ev F x)with|some v=>v|none=>undef
def YJ(F:Frm):List Operand->Bool
 | []=>true
 | x::xs=>match aNE (ev F x)with|some _=>YJ F xs|none=>false
def WG:Op->Bool
 | .select ..=>true
 | _=>false
def xC(P:Program)(F:Frm)(o:Oper):Option PV :=
 bif WG o.op||!YJ F o.op.operands.toList then none else
 match U5 P (execOp (valOf F) o)with
 | some (.value v)=>some (aIY v)
 | _=>none
/- Classes: whether an operation looks at the heap: 0 no,1 it reads,2 it writes. -/
def a7Z(P:Program) (t:TypeId):Option Bool :=
 match P.underlying t with
 | some (.struct _)|some (.array ..)=>some true
 | some _=>some false
 | none=>none
def vE(P:Program)(t:TypeId):Option Nat:=match P.info? t with|some i=>some i.size|none=>none
def HU(P:Program) (t:TypeId) (cs:List PV):Option PV :=
 match a7Z P t with
 | some true=>match vE P t with
  | some n=>bif Nat.ble n cs.length then some (.agg (cs.take n)) else none
  | none=>none
 | some false=>cs.head?
 | none=>none
def xS:PV->Option (List PV)
 | .agg cs=>some cs
 | .lit (.agg cs)=>some (lits cs)
 | .tuple _|.junk=>none
 | p=>some [p]
def SK:PV->Bool
 | .lit v=>v.oneCell'
 | .agg _|.tuple _|.junk=>false
 | _=>true
def aA6(cs:List PV) (off:Nat) (new:List PV):List PV:=cs.take off++new++cs.drop (off+new.length)
def kK(H:Heap)(r:Nat):Option Blk:=match H[r]? with|some (some k)=>some k|_=>none
def aB8(P:Program)(H:Heap)(t:TypeId):PV->Option (PV×Nat)
 | .iptr cs=>match HU P t cs with|some v=>some (v,0)|none=>none
 | .hptr r off=>match kK H r with
  | some k=>match HU P t (k.cells.drop off)with|some v=>some (v,1)|none=>none
  | none=>none
 | _=>none
def aGY(H:Heap)(r off:Nat)(new:List PV):Option Heap :=
 match kK H r with
 | some k=>bif !k.frozen&&Nat.ble (off+new.length) k.cells.length&&new.all SK then some (H.set r (some { k with cells:=aA6 k.cells off new,tag:=none })) else none
 | none=>none
def aLU(P:Program)(H:Heap)(t:TypeId)(a v:PV):Option Heap :=
 match a,xS v,vE P t with
 | .hptr r off,some new,some n=>bif Nat.beq new.length n then aGY H r off new else none
 | _,_,_=>none
def bAH(H:Heap)(t:TypeId)(cells:List PV):PV×Heap:=(.hptr H.length 0,H++[some ⟨cells,t,false,false,none⟩])
def GQ(P:Program)(t:TypeId):Option Value:=match P.info? t with|some i=>i.zero|none=>none
def aH5(P:Program)(s:TypeId)(f:Nat):Option Field :=
 match P.underlying s with
 | some (.struct fs)=>fs[f]?
 | _=>none
def aG4(P:Program)(s:TypeId)(f:Nat)(p:PV):Option PV :=
 match aH5 P s f with
 | some fd=>match vE P fd.type with
  | some (_+1)=>match p with
   | .iptr cs=>some (.iptr (cs.drop fd.offset))
   | .hptr r off=>some (.hptr r (off+fd.offset))
   | _=>none
  | _=>none
 | none=>none
def aF(i:Int)(n:Nat):Bool:=match i with|.ofNat m=>Nat.blt m n|.negSucc _=>false
def aB1(P:Program)(t:TypeId)(x:PV)(i:Int):Option PV :=
 match P.underlying t with
 | some (.slice e)=>match vE P e with
  | some sz=>match x with
   | .vals cs n _=>bif aF i n&&Nat.blt (i.toNat*sz) cs.length then some (.iptr (cs.drop (i.toNat*sz))) else none
   | .hs r off n _ _=>bif aF i n then some (.hptr r (off+i.toNat*sz)) else none
   | _=>none
  | none=>none
 | some (.array n e)=>match vE P e with
  | some sz=>match x with
   | .iptr cs=>bif aF i n then some (.iptr (cs.drop (i.toNat*sz))) else none
   | .hptr r off=>bif aF i n then some (.hptr r (off+i.toNat*sz)) else none
   | _=>none
  | none=>none
 | _=>none
def QN(place:Nat->Option (Nat×Nat)):List PV->List (Nat×PV)->Option (List PV)
 | cells,[]=>some cells
 | cells,(i,v)::rest=>match place i,xS v with
  | some (off,size),some new=>bif Nat.beq new.length size&&Nat.ble (off+new.length) cells.length then QN place (aA6 cells off new) rest else none
  | _,_=>none
def aUV(P:Program)(F:Frm)(t:TypeId)(parts:List (Nat×Operand)):Option PV :=
 match P.info? t,P.underlying t with
 | some it,some (.array _ e)=>match it.zero,P.info? e with
  | some z,some ie=>match QN (λi=>some (i*ie.size,ie.size)) (lits z.cells) (parts.map λp=>(p.1,ev F p.2))with
   | some cs=>some (.agg cs)
   | none=>none
  | _,_=>none
 | some it,some (.struct fields)=>match it.zero,fields.toList.mapM (λf=>(P.info? f.type).map λi=>(f.offset,i.size))with
  | some z,some places=>match QN (λi=>places.toArray[i]?) (lits z.cells) (parts.map λp=>(p.1,ev F p.2))with
   | some cs=>some (.agg cs)
   | none=>none
  | _,_=>none
 | _,_=>none
def LF(z:Value) (n:Nat):List PV :=
 match z.cells.toList with
 | [v]=>List.replicate n (.lit v)
 | _=>(List.range n).map λi=>.lit (z.cells[i%z.cells.size]!)
def XS(P:Program)(F:Frm)(t:TypeId)(len:Nat)(parts:List (Nat×Operand)):Option PV :=
 match P.underlying t with
 | some (.slice e)=>match vE P e,GQ P e with
  | some sz,some z=>bif Nat.ble (len*sz) 16777216&&Nat.ble 1 z.cells.size then
    match QN (λi=>some (i*sz,sz)) (LF z (len*sz)) (parts.map λp=>(p.1,ev F p.2))with
    | some cs=>bif eX.noRefs cs then some (.vals cs len (some len)) else none
    | none=>none
   else none
  | _,_=>none
 | _=>none
def TP(P:Program) (F:Frm) (H:Heap) (t:TypeId) (len:Nat) (parts:List (Nat×Operand)):Option (PV×Heap) :=
 match P.underlying t with
 | some (.slice e)=>match vE P e,GQ P e with
  | some sz,some z=>bif Nat.ble (len*sz) 16777216&&Nat.ble 1 z.cells.size then
    match QN (λi=>some (i*sz,sz)) (LF z (len*sz)) (parts.map λp=>(p.1,ev F p.2))with
    | some cs=>some (.hs H.length 0 len (some len) sz,H++[some ⟨cs,e,false,false,none⟩])
    | none=>none
   else none
  | _,_=>none
 | _=>none
def aIC(P:Program)(H:Heap)(t:TypeId)(l c:PV):Option (PV×Heap) :=
 match P.underlying t,l,c with
 | some (.slice e),.lit (.int _ l),.lit (.int _ c)=>match P.info? e with
  | some i=>match i.zero with
   | some z=>bif decide (0<=l)&&decide (l<=c)&&decide (c<=1048576)&&Nat.ble i.bytes 65536&&Nat.ble 1 i.size&&Nat.beq z.cells.size i.size then
     some (.hs H.length 0 l.toNat (some c.toNat) i.size,H++[some ⟨LF z (c.toNat*i.size),e,false,false,none⟩])
    else none
   | none=>none
  | none=>none
 | _,_,_=>none
def bnd(x:Option PV) (d:Nat):Option Nat :=
 match x with
 | none=>some d
 | some (.lit (.int _ i))=>bif decide (0<=i) then some i.toNat else none
 | _=>none
def UT(P:Program)(t:TypeId)(x:PV)(lo hi:Option PV):Option PV :=
 match P.underlying t with
 | some (.slice e)=>match vE P e with
  | some sz=>match x with
   | .vals cs n _=>match bnd lo 0,bnd hi n with
    | some l,some h=>bif Nat.ble l h&&Nat.ble h n then some (.vals ((cs.drop (l*sz)).take ((h-l)*sz)) (h-l) none) else none
    | _,_=>none
   | .hs r off n cap sz'=>bif Nat.beq sz sz' then match bnd lo 0,bnd hi n with
    | some l,some h=>match cap with
     | some c=>bif Nat.ble l h&&Nat.ble h c then (bif Nat.beq c l then some (.hs r off 0 (some 0) sz) else some (.hs r (off+l*sz) (h-l) (some (c-l)) sz)) else none
     | none=>bif Nat.ble l h&&Nat.ble h n then (bif Nat.blt l n then some (.hs r (off+l*sz) (h-l) none sz) else (bif Nat.beq l 0 then some (.hs r off 0 none sz) else some (.vals [] 0 none))) else none
    | _,_=>none
    else none
   | _=>none
  | none=>none
 | some (.array n e)=>match vE P e with
  | some sz=>match bnd lo 0,bnd hi n with
   | some l,some h=>bif Nat.ble l h&&Nat.ble h n&&Nat.blt l n then (match x with
    | .iptr cs=>some (.vals ((cs.drop (l*sz)).take ((h-l)*sz)) (h-l) none)
    | _=>none) else none
   | _,_=>none
  | none=>none
 | _=>none
def a1H(s:ByteArray):List PV:=s.data.toList.map λb=>.lit (.int .u8 b.toNat)
def aOQ(H:Heap) (sz:Nat):PV->Option (List PV×Nat)
 | .vals cs n _=>bif Nat.beq cs.length (n*sz) then some (cs,n) else none
 | .hs r off n _ _=>match kK H r with
  | some k=>bif Nat.ble (off+n*sz) k.cells.length then some ((k.cells.drop off).take (n*sz),n) else none
  | none=>none
 | .lit (.slice none n _)=>bif Nat.beq n 0 then some ([],0) else none
 | .lit (.string s)=>bif Nat.beq sz 1 then some (a1H s,s.size) else none
 | _=>none
def aC8(H:Heap)(e:TypeId)(sz need:Nat)(cells:List PV):PV×Heap :=
 (.hs H.length 0 need none sz,H++[some ⟨cells,e,true,false,none⟩])
def a9Q(cells:List PV) (m:Nat) (new:List PV):List PV:=bif Nat.beq cells.length m then cells++new else cells.take m++new
def aXF(P:Program)(H:Heap)(tys:Array TypeId)(s x:PV):Option (PV×Heap) :=
 match tys.toList with
 | [t,u]=>match P.underlying t,P.underlying u with
  | _,some (.int _)=>none
  | _,none=>none
  | some (.slice e),some _=>match P.info? e with
   | some i=>match i.zero with
    | some z=>bif Nat.ble i.bytes 65536&&Nat.ble 1 i.size&&Nat.beq z.cells.size i.size then
    match aOQ H i.size x with
    | some (new,n)=>bif Nat.ble n 1048576&&new.all SK then match s with
     | .lit (.slice none l c)=>bif Nat.beq l 0&&Nat.beq c 0 then
       (bif Nat.beq n 0 then some (s,H) else some (aC8 H e i.size n new)) else none
     | .vals cs l cap=>bif Nat.beq n 0 then some (s,H) else bif Nat.beq cs.length (l*i.size)&&Nat.ble l 1048576 then
       (match cap with
        | some c=>bif Nat.ble (l+n) c then none else some (aC8 H e i.size (l+n) (cs++new))
        | none=>none) else none
     | .hs r off l cap sz=>bif Nat.beq n 0 then some (s,H) else match kK H r with
      | some k=>bif Nat.beq sz i.size&&Nat.ble (off+l*sz) k.cells.length&&Nat.ble l 1048576&&Nat.beq k.ty e then match cap with
       | some c=>bif Nat.ble (l+n) c then match aGY H r (off+l*sz) new with
         | some H'=>some (.hs r off (l+n) (some c) sz,H')
         | none=>none
        else some (aC8 H e sz (l+n) ((k.cells.drop off).take (l*sz)++new))
       | none=>bif Nat.beq off 0&&!k.frozen&&k.grown then
         some (aC8 (H.set r none) e sz (l+n) (a9Q k.cells (l*sz) new)) else none
       else none
      | none=>none
     | _=>none
     else none
    | none=>none
    else none
    | none=>none
   | none=>none
  | _,_=>none
 | _=>none
def a92(P:Program)(H:Heap)(tys:Array TypeId)(d x:PV):Option (PV×Heap) :=
 match tys.toList with
 | t::_=>match P.underlying t with
  | some (.slice e)=>match vE P e with
   | some sz=>match aOQ H sz x with
    | some (new,n)=>match d with
     | .hs r off l _ _=>match aGY H r off (new.take (min n l*sz))with
      | some H'=>some (.lit (goInt ((min n l:Nat))),H')
      | none=>none
     | _=>none
    | none=>none
   | none=>none
  | _=>none
 | _=>none
def a06(P:Program)(H:Heap)(tys:Array TypeId)(d:PV):Option (PV×Heap) :=
 match tys.toList with
 | t::_=>match P.underlying t with
  | some (.slice e)=>match GQ P e with
   | some z=>match d with
    | .hs r off l _ _=>bif Nat.beq l 0 then some (.tuple [],H) else match aGY H r off (lits (Builtin.zeroCells z.cells l))with
     | some H'=>some (.tuple [],H')
     | none=>none
    | _=>none
   | none=>none
  | _=>none
 | _=>none
def bE3(P:Program)(tys:Array TypeId)(x:PV):Option PV :=
 match tys.toList with
 | t::_=>match P.underlying t,x with
  | some (.slice _),.vals _ n _=>some (.lit (goInt n))
  | some (.slice _),.hs _ _ n _ _=>some (.lit (goInt n))
  | some (.array n _),_=>some (.lit (goInt n))
  | _,_=>none
 | _=>none
def VP {α:Type} (n:Nat) (k:Nat->α):α:=match n with|0=>k 0|m+1=>k (m+1)
def bF7 {α}(i:Int)(k:Int->α):α:=match i with
 | .ofNat n=>VP n λn=>k (.ofNat n)
 | .negSucc n=>VP n λn=>k (.negSucc n)
def bDX {α:Type}(b:Bool)(k:Bool->α):α:=match b with|true=>k true|false=>k false
theorem aWU {α} n (k:Nat->α):VP n k=k n:=by cases n <;> rfl
theorem bC2 {α} i (k:Int->α):bF7 i k=k i:=by
 cases i with
 | ofNat n=>exact aWU n λn=>k (.ofNat n)
 | negSucc n=>exact aWU n λn=>k (.negSucc n)
theorem a81 {α} b (k:Bool->α):bDX b k=k b:=by cases b <;> rfl
theorem b9 m n:Nat.blt m n=decide (m<n):=by
 cases h:Nat.blt m n with
 | true =>
  simp_all
 | false =>
  refine(oF λhl=>?_).symm;have:Nat.blt m n=true:=Nat.ble_eq_true_of_le hl;grind
def aB(k:IntKind) (n:Int):Int:=match k,n with
 | .i64,.ofNat m=>bif Nat.blt m 9223372036854775808 then .ofNat m else k.wrap n
 | .i64,.negSucc m=>bif Nat.blt m 9223372036854775808 then .negSucc m else k.wrap n
 | _,_=>k.wrap n
set_option maxRecDepth 100000 in
theorem aQX(k:IntKind) (n:Int):aB k n=k.wrap n:=by
 unfold aB;split
 next m=>
  rw[b9]
  by_cases hb:m<9223372036854775808
  ·rw[oT hb,oC,IntKind.wrap_i64];show (m:Int)=_;rw[show Int.ofNat m=(m:Int) from rfl];omega
  ·rw[oF hb,oD]
 next m=>
  rw[b9]
  by_cases hb:m<9223372036854775808
  ·rw[oT hb,oC,IntKind.wrap_i64,Int.negSucc_eq];omega
  ·rw[oF hb,oD]
 ·rfl
def ltI(a b:Int):Bool:=match a,b with
 | .ofNat m,.ofNat n=>Nat.blt m n
 | .ofNat _,.negSucc _=>false
 | .negSucc _,.ofNat _=>true
 | .negSucc m,.negSucc n=>Nat.blt n m
def eqI(a b:Int):Bool:=match a,b with
 | .ofNat m,.ofNat n=>Nat.beq m n
 | .negSucc m,.negSucc n=>Nat.beq m n
 | _,_=>false
theorem aJT(m n:Nat):Nat.beq m n=decide (m=n):=by
 cases h:Nat.beq m n with
 | true=>simp_all
 | false =>
  refine(oF λhl=>?_).symm
  simp_all
theorem aE a b:ltI a b=decide (a<b):=by
 cases a <;> cases b <;> simp only[ltI,b9]
 ·simp
 ·rfl
 ·grind
 grind
theorem eG a b:eqI a b=decide (a=b):=by
 cases a <;> cases b <;> simp only[eqI,aJT]
 ·grind
 ·rfl
 ·rfl
 simp
def aY7(op:BinOp)(k:IntKind)(a b:Int):Option Value :=
 match op with
 | .add=>some (.int k (aB k (a+b)))
 | .sub=>some (.int k (aB k (a-b)))
 | .mul=>some (.int k (aB k (a*b)))
 | .quo=>bif eqI b 0 then none else some (.int k (aB k (a.tdiv b)))
 | .rem=>bif eqI b 0 then none else some (.int k (a.tmod b))
 | .eql=>some (.bool (eqI a b))
 | .neq=>some (.bool (!eqI a b))
 | .lss=>some (.bool (ltI a b))
 | .leq=>some (.bool (!ltI b a))
 | .gtr=>some (.bool (ltI b a))
 | .geq=>some (.bool (!ltI a b))
 | _=>none
def aP2 {α β:Type}:List β->(List β->α)->α
 | [],k=>k []
 | x::r,k=>aP2 r λr=>k (x::r)
theorem aKW {α β}:∀ F (k:List β->α),aP2 F k=k F
 | [],k=>rfl
 | x::r,k=>by rw[aP2,aKW r]
def fPV {α}(p:PV)(k:PV->α):α:=match p with
 | .lit (.int d n)=>bF7 n λn=>k (.lit (.int d n))
 | .lit (.bool b)=>bDX b λb=>k (.lit (.bool b))
 | .lit v=>k (.lit v)
 | .vals cs n cap=>VP n λn=>k (.vals cs n cap)
 | .iptr cs=>k (.iptr cs)
 | .hptr r off=>VP r λr=>VP off λoff=>k (.hptr r off)
 | .hs r off len cap sz=>VP r λr=>VP off λoff=>VP len λlen=>k (.hs r off len cap sz)
 | .agg cs=>k (.agg cs)
 | .tuple cs=>k (.tuple cs)
 | .clo fn f c=>k (.clo fn f c)
 | .junk=>k .junk
 | .tl t l cap e=>aP2 l λl=>k (.tl t l cap e)
 | .tp t l i off e=>VP i λi=>k (.tp t l i off e)
 | .own r sz=>VP r λr=>k (.own r sz)
 | .qs r sz=>VP r λr=>k (.qs r sz)
 | .op r i off sz=>VP r λr=>VP i λi=>k (.op r i off sz)
 | .win r lo n sz=>VP r λr=>VP lo λlo=>VP n λn=>k (.win r lo n sz)
 | .row j lo n sz=>VP j λj=>VP lo λlo=>VP n λn=>k (.row j lo n sz)
 | .rp j off=>VP j λj=>VP off λoff=>k (.rp j off)
 | .mp j=>VP j λj=>k (.mp j)
 | .tm l=>k (.tm l)
theorem aHK {α} p (k:PV->α):fPV p k=k p:=by
 unfold fPV;split <;> simp only[bC2,a81,aWU,aKW]
def aXM {α}:List PV->(List PV->α)->α
 | [],k=>k []
 | p::r,k=>fPV p λp=>aXM r λr=>k (p::r)
theorem aT4 {α}:∀ F (k:List PV->α),aXM F k=k F
 | [],k=>rfl
 | p::r,k=>by rw[aXM,aHK,aT4 r]
def bGN {α}(g:Option Tg)(k:Option Tg->α):α:=match g with
 | none=>k none
 | some ⟨t,l⟩=>aP2 l λl=>k (some ⟨t,l⟩)
theorem bDE {α} g (k:Option Tg->α):bGN g k=k g:=by
 cases g with
 | none=>rfl
 | some g=>exact aKW g.l λl=>k (some ⟨g.t,l⟩)
def aI4 {α}:Heap->(Heap->α)->α
 | [],k=>k []
 | none::r,k=>aI4 r λr=>k (none::r)
 | some ⟨cs,t,g,f,none⟩::r,k=>aXM cs λcs=>aI4 r λr=>k (some ⟨cs,t,g,f,none⟩::r)
 | some ⟨cs,t,g,f,some tg⟩::r,k=>bGN (some tg) λtg=>aI4 r λr=>k (some ⟨cs,t,g,f,tg⟩::r)
theorem M9 {α}:∀ F (k:Heap->α),aI4 F k=k F
 | [],k=>rfl
 | none::r,k=>by rw[aI4,M9 r]
 | some ⟨cs,t,g,f,none⟩::r,k=>by rw[aI4,aT4,M9 r]
 | some ⟨cs,t,g,f,some tg⟩::r,k=>by rw[aI4,bDE,M9 r]
abbrev Callee:=FuncId->List PV->Heap->Option (PV×Heap×Nat)
def p0(H:Heap)(v:Option PV):Option (PV×Heap×Nat):=match v with|some v=>some (v,H,0)|none=>none
def p2(x:Option (PV×Heap)):Option (PV×Heap×Nat):=match x with|some (v,H)=>some (v,H,2)|none=>none
def R8(k l:IntKind):Bool:=match k,l with
 | .i64,.i64|.u8,.u8|.u64,.u64|.i32,.i32|.u16,.u16|.u32,.u32|.i8,.i8|.i16,.i16=>true
 | _,_=>false
theorem aE0 {k l}(h:R8 k l=true):k=l:=by cases k <;> cases l <;> first|rfl|cases h
def UH(P:Program) (sub:List Field->List PV->List PV->Option Bool):List Field->List PV->List PV->Option Bool
 | [],_,_=>some true
 | f::fs,cs,ds=>bif f.name== "_" then none else match P.underlying f.type with
  | some (.int _)=>match HU P f.type (cs.drop f.offset),HU P f.type (ds.drop f.offset)with
   | some (.lit (.int k a)),some (.lit (.int l b))=>bif R8 k l then (match UH P sub fs cs ds with
     | some r=>some (eqI a b&&r)
     | none=>none) else none
   | _,_=>none
  | some (.struct gs)=>bif P.stoodInHeld f.type then none else match HU P f.type (cs.drop f.offset),HU P f.type (ds.drop f.offset)with
   | some (.agg cs'),some (.agg ds')=>match sub gs.toList cs' ds',UH P sub fs cs ds with
    | some q,some r=>some (q&&r)
    | _,_=>none
   | _,_=>none
  | _=>none
def aP0(P:Program):Nat->List Field->List PV->List PV->Option Bool
 | 0=>λ_ _ _=>none
 | n+1=>UH P (aP0 P n)
def a42(P:Program):List Field->List PV->List PV->Option Bool:=aP0 P 3
def aER(P:Program) (e:TypeId):List Nat->List PV->List PV->Option Bool
 | [],_,_=>some true
 | i::is,cs,ds=>match P.underlying e with
  | some (.int _)=>match HU P e (cs.drop (i*P.cellsOf e)),HU P e (ds.drop (i*P.cellsOf e))with
   | some (.lit (.int k a)),some (.lit (.int l b))=>bif R8 k l then (match aER P e is cs ds with
     | some r=>some (eqI a b&&r)
     | none=>none) else none
   | _,_=>none
  | _=>none
def bEX(P:Program)(op:BinOp)(t:TypeId)(cs ds:List PV):Option PV:=match P.underlying t with
 | some (.struct fs)=>bif P.stoodInHeld t||P.eqGuardType P.depth t then none else match op,a42 P fs.toList cs ds with
  | .eql,some r=>some (.lit (.bool r))
  | .neq,some r=>some (.lit (.bool (!r)))
  | _,_=>none
 | some (.array n e)=>bif P.eqGuardType P.depth t||!(P.info? e).isSome then none else match op,aER P e (List.range n) cs ds with
  | .eql,some r=>some (.lit (.bool r))
  | .neq,some r=>some (.lit (.bool (!r)))
  | _,_=>none
 | _=>none
def bGO:List Nat:=[98]
def a4S(t:TypeId)(cs:List PV):Bool:=(bGO.any λn=>Nat.beq n t)&&eX.noRefs cs
def opu(P:Program)(cl:Callee)(F:Frm)(H:Heap)(o:Oper):Option (PV×Heap×Nat) :=
 match o.op with
 | .move x|.assign x=>some (ev F x,H,0)
 | .pick c a b=>match ev F c with
  | .lit (.bool t)=>some (bif t then ev F a else ev F b,H,0)
  | _=>none
 | .binOp op xt x y _=>match ev F x,ev F y with
  | .lit (.int k a),.lit (.int l b)=>bif R8 k l then (match aY7 op k a b with|some v=>some (.lit v,H,0)|none=>p0 H (xC P F o)) else p0 H (xC P F o)
  | .agg cs,.agg ds=>(match bEX P op xt cs ds with|some v=>some (v,H,0)|none=>p0 H (xC P F o))
  | _,_=>p0 H (xC P F o)
 | .load t a=>match aB8 P H t (ev F a)with|some (v,c)=>some (v,H,c)|none=>none
 | .store t a v=>match aLU P H t (ev F a) (ev F v)with|some H'=>some (.lit undef,H',2)|none=>none
 | .box t v=>match xS (ev F v)with|some cs=>bif a4S t cs then some (.iptr cs,H,0) else p2 (some (bAH H t cs))|none=>none
 | .alloc t=>match GQ P t with|some z=>p2 (some (bAH H t (lits z.cells)))|none=>none
 | .fieldAddr s x f=>p0 H (aG4 P s f (ev F x))
 | .indexAddr t x i=>match ev F i with|.lit (.int _ i)=>p0 H (aB1 P t (ev F x) i)|_=>none
 | .nilCheck x=>match ev F x with
  | .iptr cs=>some (.iptr cs,H,0)
  | .hptr r off=>some (.hptr r off,H,0)
  | .clo (.func f) a b=>some (.clo (.func f) a b,H,0)
  | _=>p0 H (xC P F o)
 | .field s x f=>match ev F x with
  | .agg cs=>match aH5 P s f with|some fd=>p0 H (HU P fd.type (cs.drop fd.offset))|none=>none
  | _=>p0 H (xC P F o)
 | .index t x i=>match ev F x,ev F i,P.underlying t with
  | .agg cs,.lit (.int _ i),some (.array n e)=>match vE P e with
   | some sz=>bif aF i n then p0 H (HU P e (cs.drop (i.toNat*sz))) else none
   | none=>none
  | _,_,_=>p0 H (xC P F o)
 | .extract x i=>match ev F x with
  | .tuple vs=>p0 H vs[i]?
  | _=>p0 H (xC P F o)
 | .build t parts=>p0 H (aUV P F t parts.toList)
 | .buildSlice t n parts=>match XS P F t n parts.toList with
  | some v=>some (v,H,0)
  | none=>p2 (TP P F H t n parts.toList)
 | .makeSlice t l c=>p2 (aIC P H t (ev F l) (ev F c))
 | .makeFunc fn first caps=>some (.clo fn (first.toList.map (ev F)) (caps.toList.map (ev F)),H,0)
 | .slice t x lo hi none=>match ev F x with
  | .lit _=>p0 H (xC P F o)
  | p=>p0 H (UT P t p (lo.map (ev F)) (hi.map (ev F)))
 | .call c=>match c.callee with
  | .builtin .len=>match ev F (c.args.getD 0 (.const undef))with
   | .lit _=>p0 H (xC P F o)
   | p=>bif Nat.beq c.args.size 1 then p0 H (bE3 P c.argTypes p) else none
  | .builtin .append=>match c.args.toList with
   | [s,x]=>p2 (aXF P H c.argTypes (ev F s) (ev F x))
   | _=>none
  | .builtin .copy=>match c.args.toList with
   | [s,x]=>p2 (a92 P H c.argTypes (ev F s) (ev F x))
   | _=>none
  | .builtin .clear=>match c.args.toList with
   | [s]=>p2 (a06 P H c.argTypes (ev F s))
   | _=>none
  | .builtin _=>p0 H (xC P F o)
  | .value f=>match ev F f with
   | .lit (.func (.func g) first caps)=>cl g (lits first++c.args.toList.map (ev F)++lits caps) H
   | .clo (.func g) first caps=>cl g (first++c.args.toList.map (ev F)++caps) H
   | _=>none
  | .invoke ..=>none
 | _=>p0 H (xC P F o)
section
variable {P:Program} {n0:Nat->Prop} {w:World} {G:Gd} {μ:Mp} {H:Heap} {F:Frm} {a:Act} {nt:Nat}
structure iV (w:World) (G:Gd) (μ:Mp) (nt:Nat) (F:Frm) (a:Act):Prop where
 size:a.tmps.size=nt
 slot:∀ t,VR w G μ (dX F t) (a.tmps.getD t undef)
 defers:a.defers=[]
theorem B6 vs:VRs w G μ (lits vs) vs.toList:=VRs.lits _
theorem aQN v:VR w G μ (aIY v) v:=by
 cases v <;> simp only[aIY] <;> rw[VR]
 ·exact⟨_,rfl,B6 _⟩
 ·exact⟨_,rfl,B6 _⟩
theorem cO(h:iV w G μ nt F a) x:VR w G μ (ev F x) (a.eval x):=by
 cases x with
 | tmp t=>exact h.slot t
 | const v=>exact aQN v
 | global g=>simp only[ev]; trivial
 | func f=>rfl
theorem aFE {m n:Nat}(h:m≠n):Nat.beq m n=false:=by
 cases hb:Nat.beq m n with
 | false=>rfl
 | true=>simp_all
theorem aMB F t p s:dX (a7B F t p) s=if s=t then p else dX F s:=by
 induction F with
 | nil =>
  simp only[a7B,dX]
  by_cases h:s=t
  ·subst h; simp
  ·have :=aFE λe=>h e.symm
   grind
 | cons x r ih =>
  obtain⟨u,q⟩:=x;simp only[a7B]
  by_cases hut:u=t
  ·subst hut;simp only[Nat.beq_refl,oC,dX]
   by_cases h:s=u
   ·subst h; simp
   ·have :=aFE λe=>h e.symm
    grind
  ·have h1 :=aFE hut;simp only[h1,oD,dX,ih];grind
theorem iV.put (h:iV w G μ nt F a){d}(hd:d<nt){p v}(hv:VR w G μ p v):iV w G μ nt (a7B F d p) (a.put (some d) v) where
 size:=by simp[Act.put,h.size]
 slot t:=by
  rw[aMB];have hsz:=h.size;simp only[Act.put]
  by_cases htd:t=d
  ·simp_all
  ·have:=h.slot t;simp only[Array.getD_eq_getD_getElem?]at this ⊢;grind
 defers:=h.defers
theorem jF t p (F:Frm) s:dX ((t,p)::F) s=if s=t then p else dX F s:=by
 simp only[dX]
 by_cases h:s=t
 ·simp_all
 ·rw[aFE λe=>h e.symm,oD,if_neg h]
theorem iV.cons (h:iV w G μ nt F a){d}(hd:d<nt){p v}(hv:VR w G μ p v):iV w G μ nt ((d,p)::F) (a.put (some d) v) where
 size:=by simp[Act.put,h.size]
 slot t:=by
  rw[jF];have:=(h.put hd hv).slot t;rwa[aMB]at this
 defers:=h.defers
theorem iV.mono {w' G' μ'}(h:iV w G μ nt F a)(m:Mono w G μ w' G' μ'):iV w' G' μ' nt F a:=⟨h.size,λt=>VR.mono m _ _ (h.slot t),h.defers⟩
theorem aTN:∀ {ps vs us},aNJ ps=some vs->VRs w G μ ps us->us=vs
 | [],vs,us,h,k=>by simp only[aNJ,oJ]at h; rw[k,<- h]
 | p::ps,vs,us,h,k=>by
  obtain⟨x,xs,rfl,h1,h2⟩:=k;cases p <;> simp only[aNJ]at h <;> try grind
  cases hl:aNJ ps with
  | none=>grind
  | some vs' =>
   rw[hl]at h;simp only[oJ]at h;rw[<- h,h1,aTN hl h2]
theorem a8T {p v u}(h:aNE p=some v)(k:VR w G μ p u):u=v:=by
 cases p <;> simp only[aNE]at h <;> try grind
 ·rw[VR]at k; grind
 all_goals
  rename_i cs;cases hl:aNJ cs with
  | none=>grind
  | some vs =>
   rw[hl]at h;simp only[oJ]at h;obtain⟨us,h1,h2⟩:=k;rw[h1,<- h,<- aTN hl h2]
theorem aWP {α s}{x:α}(h:U5 P s=some x) w:s.run P w=.ok x w:=by
 induction s with
 | pure a=>simp only[U5,oJ]at h; simp_all
 | program k ih=>exact ih P h
 | _=>simp[U5]at h
theorem aMZ(h:iV w G μ nt F a):∀ {xs},YJ F xs=true->∀ x∈xs,a.eval x=valOf F x
 | [],_,x,hx=>W
 | y::ys,hv,x,hx=>by
  simp only[YJ]at hv;cases ht:aNE (ev F y)with
  | none=>grind
  | some v =>
   rw[ht]at hv;rcases List.mem_cons.1 hx with rfl|hx
   ·rw[valOf,ht]; exact a8T ht (cO h x)
   ·exact aMZ h hv x hx
theorem aYX(h:iV w G μ nt F a){o v}(hx:xC P F o=some v):∃ v',(∀ w1 ,(execOp a.eval o).run P w1=.ok (.value v') w1)/\VR w G μ v v':=by
 unfold xC at hx;cases h1:(WG o.op||!YJ F o.op.operands.toList)with
 | true=>grind
 | false =>
  rw[h1]at hx;simp only[Bool.or_eq_false_iff,Bool.not_eq_false']at h1;simp only[oD]at hx;have hc :=execOp_congr o (λcs b e=>by simp[WG,e]at h1) λx hx=>aMZ h h1.2 x (Array.mem_toList_iff.2 hx)
  cases he:U5 P (execOp (valOf F) o)with
  | none=>grind
  | some n =>
   rw[he]at hx;cases n <;> simp only[oJ]at hx <;> try grind
   rename_i u;subst hx;exact⟨u,λw1=>by rw[hc]; exact aWP he w1,aQN u⟩
def xE(P:Program) (n0:Nat->Prop) (w:World) (G:Gd) (μ:Mp) (s:Sem Value) (v:PV) (H':Heap):Prop :=
 ∃ v' w' G' μ',s.run P w=.ok v' w'/\Ext n0 w G μ w' G' μ'/\aR n0 G' μ' H' w'/\VR w' G' μ' v v'
theorem xE.same (hW:aR n0 G μ H w){s v v'}(h:s.run P w=.ok v' w)(hv:VR w G μ v v'):xE P n0 w G μ s v H:=⟨v',w,G,μ,h,Ext.refl _ _ _ _,hW,hv⟩
theorem FA {t i}(h:P.info? t=some i) w:(typeInfo t).run P w=.ok i w:=by simp[typeInfo,h]
theorem run_sizeOf {t n}(h:vE P t=some n) w:(sizeOf t).run P w=.ok n w:=by
 unfold vE at h;cases hi:P.info? t with
 | none=>grind
 | some i =>
  rw[hi]at h;simp only[oJ]at h;simp[sizeOf,FA hi,h]
theorem aFA {t b}(h:a7Z P t=some b) w:(isAgg t).run P w=.ok b w:=by
 unfold a7Z at h;cases hu:P.underlying t with
 | none=>grind
 | some d =>
  rw[hu]at h;simp only[isAgg,Sem.run_bind,run_underlying hu];cases d <;> simp only[oJ]at h <;> subst h <;> rfl
theorem run_loadCellsFrom {b off}(vs:List Value):∀ i acc,(∀ j hj,w.cell? ⟨b,off+(i+j),none⟩=some vs[j]) ->
  (loadCellsFrom ⟨b,off,none⟩ i vs.length acc).run P w=.ok (acc++vs.toArray) w:=by
 induction vs with
 | nil=>intro i acc _; rfl
 | cons v vs ih =>
  intro i acc h;have h0:=h 0 R;simp only[Nat.add_zero,List.getElem_cons_zero]at h0;have:=ih (i+1) (acc.push v) λj hj=>by
   have:=h (j+1) W;grind
  simp only[List.length_cons,loadCellsFrom,Sem.run_bind,run_load,Addr.add_lit,h0,Result.andThen_ok,this];simp
theorem run_loadCells {b off}{vs:List Value}(h:∀ j hj,w.cell? ⟨b,off+j,none⟩=some vs[j]):(loadCells ⟨b,off,none⟩ vs.length).run P w=.ok vs.toArray w:=by
 have:=run_loadCellsFrom (P:=P) (w:=w) (b:=b) (off:=off) vs 0 #[] (λj hj=>by grind);simpa[loadCells]using this
theorem RM {t cs v b off}(hc:aM w G μ b off cs)(h:HU P t cs=some v):∃ v',(loadVar t ⟨b,off,none⟩).run P w=.ok v' w/\VR w G μ v v':=by
 unfold HU at h;cases ha:a7Z P t with
 | none=>rw[ha]at h; cases h
 | some g =>
  rw[ha]at h;cases g with
  | false =>
   cases cs with
   | nil=>cases h
   | cons c cs =>
    simp only[List.head?_cons,oJ]at h;subst h;obtain⟨⟨v',h1,h2⟩,_⟩:=hc;exact⟨v',by simp[loadVar,aFA ha,h1],h2⟩
  | true =>
   cases hs:vE P t with
   | none=>rw[hs]at h; cases h
   | some n =>
    rw[hs]at h;simp only at h;cases hn:Nat.ble n cs.length with
    | false=>rw[hn]at h; cases h
    | true =>
     rw[hn]at h;simp only[oC,oJ]at h;subst h;obtain⟨vs,h1,h2⟩:=(hc.take n).values;have hl:=h1.length;rw[List.length_take,Nat.min_eq_left (oL hn)]at hl;have:=run_loadCells (P:=P) h2;rw[<- hl]at this;refine⟨.agg vs.toArray,by simp[loadVar,aFA ha,run_sizeOf hs,this],?_⟩;exact⟨_,rfl,h1⟩
theorem aG {r k}(h:kK H r=some k):H[r]?=some (some k):=by
 unfold kK at h;grind
theorem aNP(hW:aR n0 G μ H w){t p v c x}(hp:VR w G μ p x)(h:aB8 P H t p=some (v,c)):∃ v',(Instr.loadAt t x).run P w=.ok v' w/\VR w G μ v v':=by
 cases p <;> simp only[aB8]at h <;> try (cases h; done)
 case iptr cs =>
  rw[VR]at hp;obtain⟨b,off,rfl,_,hc⟩:=hp;split at h
  next u hu=>simp only[oJ,oP]at h;obtain⟨v',h1,h2⟩:=RM hc hu;exact⟨v',by simp[Instr.loadAt,Instr.sureAddr,h1],h.1 ▸ h2.aW⟩
  ·cases h
 case hptr r off =>
  obtain⟨b,hb,rfl⟩:=hp;split at h
  next k hk=>
   split at h
   next u hu=>simp only[oJ,oP]at h;obtain⟨c',g2,g3,_⟩:=hW.blk r k b (aG hk) hb;have hd:=g3.drop off;obtain⟨v',h1,h2⟩:=RM hd hu;exact⟨v',by simp[Instr.loadAt,Instr.sureAddr,h1],h.1 ▸ h2⟩
   ·cases h
  ·cases h
end
section
variable {P:Program} {n0:Nat->Prop} {w:World} {G:Gd} {μ:Mp} {H:Heap}
theorem aPF {t l cap e v}(hv:VR w G μ (.tl t l cap e) v):∃ ao c,v=.slice ao l.length c:=by
 obtain⟨h1,rfl⟩:=hv;rw[VR]at h1;grind
theorem a2E {t l i off e v}(hv:VR w G μ (.tp t l i off e) v):∃ p,v=.pointer (some p):=by
 obtain⟨h1,rfl,_⟩:=hv;rw[VR]at h1;grind
theorem a6C {r sz v}(hv:VR w G μ (.own r sz) v):∃ ao n c,v=.slice ao n c:=by
 rw[VR]at hv;grind
theorem bAL {r sz v}(hv:VR w G μ (.qs r sz) v):∃ ao n c,v=.slice ao n c:=by
 rw[VR]at hv;grind
theorem PX {p cs v}(h:xS p=some cs)(hv:VR w G μ p v):VRs w G μ cs v.cells.toList:=by
 have one:∀ {v:Value},VR w G μ p v->v.cells=#[v]->VRs w G μ [p] v.cells.toList:=λhv e=>by rw[e,VRs]; exact⟨_,[],rfl,hv,by rw[VRs]⟩
 cases p with
 | lit u =>
  have hv':=hv;rw[VR]at hv';subst hv';cases v <;> simp only[xS,oJ]at h <;> subst h <;> first|exact one hv rfl|exact B6 _
 | agg cs' =>
  simp only[xS,oJ]at h;subst h;rw[VR]at hv;obtain⟨vs,rfl,hv⟩:=hv;exact hv
 | tuple vs=>cases h
 | junk=>cases h
 | vals cs' n cap =>
  simp only[xS,oJ]at h;subst h;have hv':=hv;rw[VR]at hv';obtain⟨_,_,rfl,_⟩:=hv';exact one hv rfl
 | iptr cs' =>
  simp only[xS,oJ]at h;subst h;have hv':=hv;rw[VR]at hv';obtain⟨_,_,rfl,_⟩:=hv';exact one hv rfl
 | mp j =>
  simp only[xS,oJ]at h;subst h;have hv':=hv;rw[VR]at hv';obtain⟨_,_,rfl⟩:=hv';exact one hv rfl
 | tm l =>
  simp only[xS,oJ]at h;subst h;have hv':=hv;rw[VR]at hv';obtain⟨_,_,_,rfl,_⟩:=hv';exact one hv rfl
 | hptr r off =>
  simp only[xS,oJ]at h;subst h;have hv':=hv;rw[VR]at hv';obtain⟨_,_,rfl⟩:=hv';exact one hv rfl
 | hs r off len cap sz =>
  simp only[xS,oJ]at h;subst h;have hv':=hv;rw[VR]at hv';obtain⟨_,_,_,rfl,_⟩:=hv';exact one hv rfl
 | clo fn f c =>
  simp only[xS,oJ]at h;subst h;have hv':=hv;rw[VR]at hv';obtain⟨_,_,rfl,_⟩:=hv';exact one hv rfl
 | tl t l cap e =>
  simp only[xS,oJ]at h;subst h;obtain⟨_,_,rfl⟩:=aPF hv;exact one hv rfl
 | tp t l i off e =>
  simp only[xS,oJ]at h;subst h;obtain⟨_,rfl⟩:=a2E hv;exact one hv rfl
 | own r sz =>
  simp only[xS,oJ]at h;subst h;obtain⟨_,_,_,rfl⟩:=a6C hv;exact one hv rfl
 | qs r sz =>
  simp only[xS,oJ]at h;subst h;obtain⟨_,_,_,rfl⟩:=bAL hv;exact one hv rfl
 | op r i off sz =>
  simp only[xS,oJ]at h;subst h;have hv':=hv;rw[VR]at hv';obtain⟨_,_,rfl⟩:=hv';exact one hv rfl
 | win r lo n sz =>
  simp only[xS,oJ]at h;subst h;have hv':=hv;rw[VR]at hv';obtain⟨_,_,_,_,rfl,_⟩:=hv';exact one hv rfl
 | row j lo n sz =>
  simp only[xS,oJ]at h;subst h;have hv':=hv;rw[VR]at hv';obtain⟨_,_,rfl,_⟩:=hv';exact one hv rfl
 | rp j off =>
  simp only[xS,oJ]at h;subst h;have hv':=hv;rw[VR]at hv';obtain⟨_,_,rfl⟩:=hv';exact one hv rfl
theorem a1R {p v}(h:SK p=true)(hv:VR w G μ p v):v.oneCell'=true:=by
 cases p <;> simp only[SK]at h <;> try (cases h; done)
 all_goals (rw[VR]at hv)
 ·rw[hv]; exact h
 ·obtain⟨_,_,rfl,_⟩:=hv; rfl
 ·obtain⟨_,_,rfl,_⟩:=hv; rfl
 ·obtain⟨_,_,rfl⟩:=hv; rfl
 ·obtain⟨_,_,_,rfl,_⟩:=hv; rfl
 ·obtain⟨_,_,rfl,_⟩:=hv; rfl
 ·obtain⟨h1,rfl⟩:=hv;rw[VR]at h1;obtain⟨_,_,rfl,_⟩:=h1; rfl
 ·obtain⟨h1,rfl,_⟩:=hv;rw[VR]at h1;obtain⟨_,_,rfl,_⟩:=h1; rfl
 ·obtain⟨_,_,⟨_,_,rfl⟩|⟨_,_,_,rfl,_⟩⟩:=hv <;> rfl
 ·obtain⟨_,_,rfl⟩:=hv; rfl
 ·obtain⟨_,_,_,_,rfl,_⟩:=hv; rfl
 ·obtain⟨_,_,rfl,_⟩:=hv; rfl
 ·obtain⟨_,_,rfl⟩:=hv; rfl
 ·obtain⟨_,_,rfl⟩:=hv; rfl
 ·obtain⟨_,_,_,rfl,_⟩:=hv; rfl
 ·obtain⟨_,_,⟨_,_,rfl⟩|⟨_,_,_,rfl,_⟩⟩:=hv <;> rfl
theorem L4:∀ {ps vs},ps.all SK=true->VRs w G μ ps vs->∀ v∈vs,v.oneCell'=true
 | [],vs,_,h,v,hv=>by subst h; grind
 | p::ps,vs,ho,h,v,hv=>by
  obtain⟨x,xs,rfl,h1,h2⟩:=h;simp only[List.all_cons,oA]at ho;rcases List.mem_cons.1 hv with rfl|hv
  ·exact a1R ho.1 h1
  ·exact L4 ho.2 h2 v hv
def sC(c:Array Value)(off:Nat)(vs:List Value):Array Value:=(c.toList.take off++vs++c.toList.drop (off+vs.length)).toArray
def Fits(c:Array Value) (off:Nat) (vs:List Value):Prop:=vs=[]\/off+vs.length<=c.size
theorem Fits.of {c o p m vs}(h:p+vs.length<=m)(hm:m<=c.size-o):Fits c (o+p) vs:=by
 cases vs with
 | nil=>exact .inl rfl
 | cons v vs=>right; grind
theorem EG {c off vs}(h:Fits c off vs):(sC c off vs).size=c.size:=by
 rcases h with rfl|h
 ·simp[sC]
 ·simp[sC]; omega
theorem JC {c:Array Value} {o p n:Nat} {vs:List Value} (h:p+vs.length<=n) (hn:n<=c.size-o) :
  ((sC c (o+p) vs).toList.drop o).take n=((c.toList.drop o).take n).take p++(vs++((c.toList.drop o).take n).drop (p+vs.length)):=by
 rcases oG c.size o with ho|ho
 ·have:vs=[]:=List.eq_nil_of_length_eq_zero Z;subst this;have h0:n=0:=Z
  subst h0;simp
 ·have hl:(c.toList.take (o+p)).length=min (o+p) c.size:=R
  have hd:(c.toList.take (o+p)).drop o=(c.toList.drop o).take p:=by rw[List.drop_take]; congr 1; omega
  simp only[sC,List.append_assoc];rw[List.drop_append,hd,hl,Nat.sub_eq_zero_of_le Z,List.drop_zero,List.take_append,List.take_append,List.take_take,List.length_take,List.length_drop,Array.length_toList,List.take_of_length_le (l:=vs) Z,List.drop_take,List.take_take,Nat.min_comm p,List.drop_drop,Nat.add_assoc,Nat.min_comm n p]
  congr 3
  omega
theorem aJ8 {c off v vs}(h:off<c.size):sC (c.setIfInBounds off v) (off+1) vs=sC c off (v::vs):=by
 simp only[sC,List.length_cons];grind
theorem YI.trans {w w1 w2 b c1 c2 t}(h:YI w w1 b c1 t)(k:YI w1 w2 b c2 t):YI w w2 b c2 t :=
 ⟨k.at_,λx hx=>(k.other x hx).trans (h.other x hx),k.os.trans h.os,k.tape.trans h.tape,k.output.trans h.output,k.size.trans h.size,k.drawn.trans h.drawn⟩
theorem aO2 {b off c t}(h:w.heap[b]?=some (.cells c t (0,0))) v:YI w (w.setCell ⟨b,off,none⟩ v) b (c.setIfInBounds off v) t :=
 ⟨by simp[World.setCell,Array.getElem?_modify,h],λx hx=>Below.heap_setCell _ _ _ _ hx,rfl,rfl,rfl,by simp,rfl⟩
theorem vA {b off t}:∀ vs i w c,(∀ v∈vs,v.oneCell'=true)->w.heap[b]?=some (.cells c t (0,0))->Fits c (off+i) vs ->
  ∃ w',(storeCells ⟨b,off,none⟩ vs i).run P w=.ok () w'/\YI w w' b (sC c (off+i) vs) t
 | [],i,w,c,_,hc,_=>⟨w,rfl,by simpa[sC]using hc,λ_ _=>rfl,rfl,rfl,rfl,rfl,rfl⟩
 | v::vs,i,w,c,h1,hc,hl=>by
  replace hl:off+i+(vs.length+1)<=c.size:=hl.elim (λh=>by cases h) id;have ht:=aO2 (off:=off+i) hc v;obtain⟨w',h2,h3⟩:=vA (b:=b) (off:=off) vs (i+1) _ _ (λu hu=>h1 u (List.mem_cons_of_mem _ hu)) ht.at_ (.inr W);refine⟨w',?_,?_⟩
  ·have hcell:w.cell? ⟨b,off+i,none⟩=some c[off+i]:=by
    simp only[World.cell?,hc];simp
   have hfr:w.frozen? ⟨b,off+i,none⟩=false:=by simp[World.frozen?,hc]
   simp only[storeCells,Sem.run_bind,run_store _ _ _ _ _ (h1 v List.mem_cons_self),Addr.add_lit,hcell,hfr,Bool.false_eq_true,if_false,Result.andThen_ok,h2]
  ·have:=ht.trans h3;rwa[<- Nat.add_assoc,aJ8 (c:=c) Z]at this
theorem IW {b o:Nat} {c:Array Value} {t:TypeId} {fr:Nat×Nat} {cs:List PV} (hb:w.heap[b]?=some (.cells c t fr)) (h:aM w G μ b o cs):VRs w G μ cs ((c.toList.drop o).take cs.length)/\cs.length<=c.size-o:=by
 obtain⟨vs,h1,h2⟩:=h.values;have hl:=h1.length;have hcell:∀ i,w.cell? ⟨b,i,none⟩=c[i]?:=λi=>by simp[World.cell?,hb]
 have hlen:cs.length<=c.size-o:=by
  rcases Nat.eq_zero_or_pos cs.length with h0|h0
  ·omega
  ·have:=h2 (cs.length-1) Z;rw[hcell]at this;have:=(Array.getElem?_eq_some_iff.1 this).1;omega
 refine⟨?_,hlen⟩;have:vs=(c.toList.drop o).take cs.length:=by
  apply List.ext_getElem
  ·simp; omega
  ·intro i h3 h4;have:=h2 i h3;rw[hcell,Array.getElem?_eq_some_iff]at this;obtain⟨_,h5⟩:=this;simp[<- h5]
 rw[<- this]; exact h1
theorem zD {b o c t fr cs n}(hb:w.heap[b]?=some (.cells c t fr))(h:VRs w G μ cs ((c.toList.drop o).take n)):aM w G μ b o cs :=
 aM.mk λi p hp=>by
  obtain⟨v,h1,h2⟩:=h.get hp;refine⟨v,?_,h2⟩;rw[List.getElem?_take]at h1;split at h1
  ·simp only[World.cell?];grind
  grind
theorem aSK {cs new off}(h:off+new.length<=cs.length):(aA6 cs off new).length=cs.length:=by simp[aA6]; omega
theorem a1P {cs new c vs o off}(h:VRs w G μ cs ((c.toList.drop o).take cs.length))(hn:VRs w G μ new vs)(hl:off+new.length<=cs.length)(hc:cs.length<=c.size-o) :
  VRs w G μ (aA6 cs off new) (((sC c (o+off) vs).toList.drop o).take cs.length):=by
 have hvl:=hn.length;rw[JC Z hc,<- List.append_assoc,<- hvl];exact((h.take off).append hn).append (h.drop _)
theorem T6(hW:aR n0 G μ H w){r off new H'}(h:aGY H r off new=some H'){b}(hb:μ.loc r=some b){vs}(hv:VRs w G μ new vs) :
  ∃ w',(storeCells ⟨b,μ.sh r+off,none⟩ vs).run P w=.ok () w'/\Ext n0 w G μ w' G μ/\aR n0 G μ H' w':=by
 unfold aGY at h;cases hk:kK H r with
 | none=>grind
 | some k =>
  rw[hk]at h;simp only at h;cases hc:(!k.frozen&&Nat.ble (off+new.length) k.cells.length&&new.all SK)with
  | false=>grind
  | true =>
   rw[hc]at h;simp only[oC,oJ]at h;subst h;simp only[oA,Bool.not_eq_true']at hc;obtain⟨⟨hf,hle⟩,hok⟩:=hc;have hle:=oL hle;obtain⟨c,g2,g3,g4,g5,g6⟩:=hW.blk r k b (aG hk) hb;obtain⟨i1,i2⟩:=IW g2 g3;have hvl:=hv.length;have hfit:Fits c (μ.sh r+off) vs:=.of Z i2;obtain⟨w',h1,h2⟩:=vA (off:=μ.sh r+off) vs 0 w c (L4 hok hv) g2 hfit;rw[Nat.add_zero]at h2;have hsz :=EG hfit;have e:=H6 hW (aG hk) hf hb g2 h2 hsz
   refine⟨w',h1,e,?_⟩;refine L6 hW (aG hk) hf hb g2 h2 hsz hf ?_ ?_ (λg hg=>by cases hg)
   ·exact zD h2.at_ (VRs.mono e.toMono _ _ (a1P i1 hv hle i2))
   ·intro hg;rw[hsz,aSK hle]; exact g4 hg
theorem aW0(hW:aR n0 G μ H w){t p v H' x y}(hp:VR w G μ p x)(hv:VR w G μ v y)(h:aLU P H t p v=some H') :
  ∃ w',(Instr.storeAt t x y).run P w=.ok () w'/\Ext n0 w G μ w' G μ/\aR n0 G μ H' w':=by
 unfold aLU at h;split at h
 next r off new n hc hs=>
  cases hn:Nat.beq new.length n with
  | false=>grind
  | true =>
   rw[hn]at h;have hn:=oE hn;obtain⟨b,hb,rfl⟩:=hp;have hcv:=PX hc hv;obtain⟨w',h1,h2,h3⟩:=T6 (P:=P) hW h hb hcv;refine⟨w',?_,h2,h3⟩;have hl:=hcv.length;have hl':y.cells.size=n:=W
   simp[Instr.storeAt,Instr.sureAddr,storeVar,run_sizeOf hs,hl',h1]
 grind
theorem aUR(hW:aR n0 G μ H w){t cs c}(hv:VRs w G μ cs c.toList):xE P n0 w G μ (do pure (.pointer (some (<- newRow t c)))) (bAH H t cs).1 (bAH H t cs).2:=by
 have hl:=hv.length;have hk:=HX (on:=none) hW c ⟨cs,t,false,false,none⟩ (λi p hp=>by
  obtain⟨v,h1,h2⟩:=hv.get hp;grind) (λ_=>hl.symm) rfl (λg hg=>by grind)
 refine⟨.pointer (some ⟨w.heap.size,0,none⟩),w.alloc (.cells c t),G,_,by rfl,FD hW _ _ _,hk,?_⟩;simp only[bAH];exact⟨_,lE _ _ _ _,by rw[A8]⟩
theorem aZO(hW:aR n0 G μ H w){t cs c}(hv:VRs w G μ cs c.toList)(hn:eX.noRefs cs=true):xE P n0 w G μ (do pure (.pointer (some (<- newRow t c)))) (.iptr cs) H:=by
 obtain⟨e1,e2⟩:=aFG hW (.cells c t);refine⟨.pointer (some ⟨w.heap.size,0,none⟩),w.alloc (.cells c t),_,_,by rfl,e1,e2,?_⟩;refine⟨w.heap.size,0,rfl,.inr rfl,?_⟩;refine aM.mk λj p hp=>?_
 obtain⟨u,g1,g2⟩:=(dK _ _ hn hv).get hp;refine⟨u,?_,VR.mono e1.toMono.aJ p u g2⟩
 simp_all
theorem aMD {s f p v x}(hp:VR w G μ p x)(h:aG4 P s f p=some v):∃ v',(Instr.fieldAt s x f).run P w=.ok v' w/\VR w G μ v v':=by
 unfold aG4 aH5 at h;split at h
 next fd hfd=>
  split at hfd
  next fs hu=>
   split at h
   ·rename_i n hs;cases p <;> simp only[oJ]at h <;> try (cases h; done)
    all_goals subst h
    ·rw[VR]at hp;obtain⟨b,off,rfl,hg,hc⟩:=hp;refine⟨.pointer (some ⟨b,off+fd.offset,none⟩),?_,?_⟩
     ·simp[Instr.fieldAt,run_underlying hu,hfd,Instr.sureAddr,fieldPlace,run_sizeOf hs,Addr.add_lit]
     ·rw[VR]; exact⟨b,_,rfl,hg,hc.drop _⟩
    ·rename_i r off;rw[VR]at hp;obtain⟨b,hb,rfl⟩:=hp;refine⟨.pointer (some ⟨b,μ.sh r+off+fd.offset,none⟩),?_,?_⟩
     ·simp[Instr.fieldAt,run_underlying hu,hfd,Instr.sureAddr,fieldPlace,run_sizeOf hs,Addr.add_lit]
     ·rw[VR]; exact⟨b,hb,by rw[Nat.add_assoc]⟩
   ·cases h
  ·cases hfd
 ·cases h
theorem AO {i n}(h:aF i n=true):0<=i/\i<n:=by
 cases i with
 | ofNat m =>
  simp only[aF,b9]at h;grind
 | negSucc m=>cases h
theorem aLR {t p v x k i}(hp:VR w G μ p x)(h:aB1 P t p i=some v):∃ v',(Instr.indexAt t x (.int k i)).run P w=.ok v' w/\VR w G μ v v':=by
 unfold aB1 at h;split at h
 next e hu=>
  split at h
  next sz hs=>
   cases p <;> simp only at h <;> try (cases h; done)
   ·rename_i cs n cap;cases hc:(aF i n&&Nat.blt (i.toNat*sz) cs.length)with
    | false=>rw[hc]at h; cases h
    | true =>
     rw[hc]at h;simp only[oC,oJ]at h;subst h;simp only[oA]at hc;have hi:=AO hc.1;have hlt:i.toNat*sz<cs.length:=by have:=oL hc.2; omega
     rw[VR]at hp;obtain⟨ao,c,rfl,h2,-,h3⟩:=hp;rcases h3 with rfl|⟨b,off,rfl,hg,hcs⟩
     ·simp at hlt
     ·refine⟨.pointer (some ⟨b,off+i.toNat*sz,none⟩),?_,?_⟩
      ·simp[Instr.indexAt,asIntOf,run_underlying hu,hi.1,hi.2,run_sizeOf hs,Addr.add_lit]
      ·rw[VR]; exact⟨b,_,rfl,hg,hcs.drop _⟩
   ·rename_i r off n cap sz';cases hc:aF i n with
    | false=>rw[hc]at h; cases h
    | true =>
     rw[hc]at h;simp only[oC,oJ]at h;subst h;have hi:=AO hc;rw[VR]at hp;obtain⟨b,c,hb,rfl,_⟩:=hp;refine⟨.pointer (some ⟨b,μ.sh r+off+i.toNat*sz,none⟩),?_,?_⟩
     ·simp[Instr.indexAt,asIntOf,run_underlying hu,hi.1,hi.2,run_sizeOf hs,Addr.add_lit]
     ·rw[VR]; exact⟨b,hb,by rw[Nat.add_assoc]⟩
  ·cases h
 next n e hu=>
  split at h
  next sz hs=>
   cases p <;> simp only at h <;> try (cases h; done)
   ·rename_i cs;cases hc:aF i n with
    | false=>rw[hc]at h; cases h
    | true =>
     rw[hc]at h;simp only[oC,oJ]at h;subst h;have hi:=AO hc;rw[VR]at hp;obtain⟨b,off,rfl,hg,hcs⟩:=hp;refine⟨.pointer (some ⟨b,off+i.toNat*sz,none⟩),?_,?_⟩
     ·simp[Instr.indexAt,asIntOf,run_underlying hu,hi.1,hi.2,run_sizeOf hs,Addr.add_lit,Instr.sureAddr]
     ·rw[VR]; exact⟨b,_,rfl,hg,hcs.drop _⟩
   ·rename_i r off;cases hc:aF i n with
    | false=>rw[hc]at h; cases h
    | true =>
     rw[hc]at h;simp only[oC,oJ]at h;subst h;have hi:=AO hc;rw[VR]at hp;obtain⟨b,hb,rfl⟩:=hp;refine⟨.pointer (some ⟨b,μ.sh r+off+i.toNat*sz,none⟩),?_,?_⟩
     ·simp[Instr.indexAt,asIntOf,run_underlying hu,hi.1,hi.2,run_sizeOf hs,Addr.add_lit,Instr.sureAddr]
     ·rw[VR]; exact⟨b,hb,by rw[Nat.add_assoc]⟩
  ·cases h
 ·cases h
end
section
variable {P:Program} {n0:Nat->Prop} {w:World} {G:Gd} {μ:Mp} {H:Heap} {F:Frm} {a:Act} {nt:Nat}
theorem Q6 {t cs v vs off}(hv:VRs w G μ cs vs.toList)(h:HU P t (cs.drop off)=some v) w1:∃ v',(part t vs off).run P w1=.ok v' w1/\VR w G μ v v':=by
 unfold HU at h;cases ha:a7Z P t with
 | none=>grind
 | some g =>
  rw[ha]at h;cases g with
  | false =>
   simp only[List.head?_drop]at h;obtain⟨v',h1,h2⟩:=hv.get h;refine⟨v',?_,h2⟩;have h1 :=by simpa using h1
   simp[part,aFA ha,h1]
  | true =>
   cases hs:vE P t with
   | none=>grind
   | some n =>
    rw[hs]at h;simp only at h;cases hn:Nat.ble n (cs.drop off).length with
    | false=>grind
    | true =>
     rw[hn]at h;simp only[oC,oJ]at h;subst h;refine⟨.agg (vs.extract off (off+n)),by simp[part,aFA ha,run_sizeOf hs],?_⟩;refine⟨_,rfl,?_⟩;have:=(hv.drop off).take n
     simp_all
theorem aXL {s f fd cs v x}(hx:VR w G μ (.agg cs) x)(hf:aH5 P s f=some fd)(h:HU P fd.type (cs.drop fd.offset)=some v) w1:∃ v',(Instr.field s x f).run P w1=.ok v' w1/\VR w G μ v v':=by
 obtain⟨vs,rfl,hv⟩:=hx;unfold aH5 at hf;split at hf
 next fs hu=>obtain⟨v',h1,h2⟩:=Q6 hv h w1;exact⟨v',by simp[Instr.field,run_underlying hu,hf,asAgg,h1],h2⟩
 grind
theorem aUZ {t e n sz k i cs v x} (hx:VR w G μ (.agg cs) x) (hu:P.underlying t=some (.array n e)) (hs:vE P e=some sz) (hi:aF i n=true)
  (h:HU P e (cs.drop (i.toNat*sz))=some v) w1:∃ v',(Instr.index t x (.int k i)).run P w1=.ok v' w1/\VR w G μ v v':=by
 obtain⟨vs,rfl,hv⟩:=hx;have hi:=AO hi;obtain⟨v',h1,h2⟩:=Q6 hv h w1;exact⟨v',by simp[Instr.index,asIntOf,run_underlying hu,hi.1,hi.2,run_sizeOf hs,h1],h2⟩
theorem aRE {i cs v x}(hx:VR w G μ (.tuple cs) x)(h:cs[i]?=some v) w1:∃ v',(Instr.extract x i).run P w1=.ok v' w1/\VR w G μ v v':=by
 obtain⟨vs,rfl,hv⟩:=hx;obtain⟨v',h1,h2⟩:=hv.get h;have h1 :=by simpa using h1
 exact⟨v',by simp[Instr.extract,h1],h2⟩
theorem aA4 {off}:∀ l j cells,off+j+l.length<=cells.size->(l.zipIdx j).foldl (λcs x=>cs.setIfInBounds (off+x.2) x.1) cells=sC cells (off+j) l
 | [],j,cells,_=>by simp[sC]
 | v::l,j,cells,h=>by
  simp only[List.length_cons]at h;rw[List.zipIdx_cons,List.foldl_cons,aA4 l (j+1) _ W,<- Nat.add_assoc,aJ8 Z]
theorem aRI {cs new c vs off}(h:VRs w G μ cs c.toList)(hn:VRs w G μ new vs):VRs w G μ (aA6 cs off new) (sC c off vs).toList:=by
 simp only[aA6,hn.length];exact((h.take off).append hn).append (h.drop _)
theorem VK(hF:iV w G μ nt F a) place:∀ (parts:List (Nat×Operand)) cs out c,VRs w G μ cs c.toList->QN place cs (parts.map λp=>(p.1,ev F p.2))=some out ->
  ∃ c',Instr.fill place c (parts.map λp=>(p.1,a.eval p.2))=some c'/\VRs w G μ out c'.toList
 | [],cs,out,c,hc,h=>by
  simp only[List.map_nil,QN,oJ]at h;exact⟨c,rfl,h ▸ hc⟩
 | (i,x)::parts,cs,out,c,hc,h=>by
  simp only[List.map_cons,QN]at h;split at h
  next off size new hp hcp=>
   cases hb:(Nat.beq new.length size&&Nat.ble (off+new.length) cs.length)with
   | false=>rw[hb]at h; cases h
   | true =>
    rw[hb]at h;simp only[oA]at hb;have h1:=oE hb.1;have h2:=oL hb.2;have hv:=PX hcp (cO hF x);have hl:=hv.length;have hcl:=hc.length;simp only[Array.length_toList]at hl hcl;obtain⟨c',h3,h4⟩:=VK hF place parts _ out _ (aRI (off:=off) hc hv) h;refine⟨c',?_,h4⟩;simp only[List.map_cons,Instr.fill,hp];have hf:=aA4 (off:=off) (a.eval x).cells.toList 0 c (by simp only[Array.length_toList]; omega);rw[<- Array.foldl_toList]
    grind
  ·cases h
theorem RO(parts:Array (Nat×Operand))(ρ:Operand->Value):(parts.map λ(i,x)=>(i,ρ x)).toList=parts.toList.map λp=>(p.1,ρ p.2):=R
theorem aXN(hF:iV w G μ nt F a){t}{parts:Array (Nat×Operand)}{v}(h:aUV P F t parts.toList=some v) w1:∃ v',(Instr.build t (parts.map λ(i,x)=>(i,a.eval x))).run P w1=.ok v' w1/\VR w G μ v v':=by
 unfold aUV at h;split at h
 next it n e hit hu=>
  split at h
  next z ie hz hie=>
   split at h
   next cs hf=>simp only[oJ]at h;subst h;obtain⟨c',h1,h2⟩:=VK hF _ _ _ _ _ (B6 _) hf;refine⟨.agg c',run_build w1 t _ c' ?_,by rw[VR]; exact⟨_,rfl,h2⟩⟩;simp only[Program.built,hit,hu,hz,hie,RO,h1]
   ·cases h
  ·cases h
 next it fields hit hu=>
  split at h
  next z places hz hpl=>
   split at h
   next cs hf=>simp only[oJ]at h;subst h;obtain⟨c',h1,h2⟩:=VK hF _ _ _ _ _ (B6 _) hf;refine⟨.agg c',run_build w1 t _ c' ?_,by rw[VR]; grind⟩;simp only[Program.built,hit,hu,hz,hpl,RO,h1]
   ·cases h
  ·cases h
 ·cases h
theorem XO z n:VRs w G μ (LF z n) (madeCells z.cells n).toList:=by
 unfold LF;split
 next v hz=>
  have e:madeCells z.cells n=Array.replicate n v:=by
   have hz':z.cells=#[v]:=W
   apply Array.ext
   ·simp[madeCells]
   ·simp[madeCells,hz',Nat.mod_one]
  have:=VRs.lits (w:=w) (G:=G) (μ:=μ) (List.replicate n v)
  simp_all
 ·have:=VRs.lits (w:=w) (G:=G) (μ:=μ) ((List.range n).map λi=>z.cells[i%z.cells.size]!);simpa[madeCells,Function.comp_def]using this
theorem aIP(hW:aR n0 G μ H w)(hF:iV w G μ nt F a){t len}{parts:Array (Nat×Operand)}{v}(h:XS P F t len parts.toList=some v) :
  xE P n0 w G μ (Instr.buildSlice t len (parts.map λ(i,x)=>(i,a.eval x))) v H:=by
 unfold XS at h;split at h
 next e hu=>
  split at h
  next sz z hs hz=>
   cases hb:(Nat.ble (len*sz) 16777216&&Nat.ble 1 z.cells.size)with
   | false=>rw[hb]at h; cases h
   | true =>
    rw[hb]at h;simp only[oA]at hb;have h1:=oL hb.1;split at h
    ·rename_i cs hf;cases hj:eX.noRefs cs with
     | false=>rw[hj]at h; cases h
     | true =>
      rw[hj]at h;simp only[oC,oJ]at h;subst h;obtain⟨c',h3,h4⟩:=VK hF _ _ _ _ _ (XO z (len*sz)) hf;have hzero:∃ i,P.info? e=some i/\i.zero=some z:=by
       unfold GQ at hz;grind
      obtain⟨i,hi,hz'⟩:=hzero;obtain⟨e1,e2⟩:=aFG hW (.cells c' e);refine⟨.slice (some ⟨w.heap.size,0,none⟩) len len,w.alloc (.cells c' e),_,_,?_,e1,e2,?_⟩
      ·have hn:¬ (len*sz>2^24):=Z
       have hrow:(Array.range (len*sz)).map (λx=>z.cells[x%z.cells.size]!)=madeCells z.cells (len*sz):=rfl;have h3':Instr.fill (λi=>some (i*sz,sz)) (Array.map (λx=>z.cells[x%z.cells.size]!) (Array.range (len*sz))) (parts.map λ(i,x)=>(i,a.eval x)).toList=some c':=by rw[RO,hrow]; exact h3
       by_cases h0:len*sz=0
       ·have h3'':Instr.fill (λi=>some (i*sz,sz)) (Array.map (λx=>(#[]:Array Value)[x%0]!) (Array.range (len*sz))) (parts.map λ(i,x)=>(i,a.eval x)).toList=some c':=by
         grind
        rw[h0]at h3'';simp[Instr.buildSlice,run_underlying hu,run_sizeOf hs,h0,newRow]
        simp_all
       ·simp only[Instr.buildSlice,Sem.run_bind,run_underlying hu,Result.andThen_ok,run_sizeOf hs,if_neg hn,if_neg h0];simp only[Sem.run_pure,Result.andThen_ok,Sem.run_bind,zeroValue,FA hi,hz',h3'];simp[newRow]
      ·rw[VR];refine⟨_,_,rfl,oM _,λk hk=>(by cases hk; rfl),?_⟩;refine .inr ⟨w.heap.size,0,rfl,.inr rfl,?_⟩;refine aM.mk λj p hp=>?_
       obtain⟨u,g1,g2⟩:=(dK _ _ hj h4).get hp;refine⟨u,?_,VR.mono e1.toMono.aJ p u g2⟩
       simp_all
    ·cases h
  ·cases h
 ·cases h
theorem aTF {place}:∀ {parts c c'},Instr.fill place c parts=some c'->c'.size=c.size
 | [],c,c',h=>by
  simp only[Instr.fill,oJ]at h;rw[h]
 | (i,v)::rest,c,c',h=>by
  unfold Instr.fill at h;split at h
  ·cases h
  next off size hp=>
   split at h
   ·cases h
   ·have:=aTF h;rw[this];have key:∀ (l:List (Value×Nat)) (cs:Array Value),(l.foldl (λcs x=>cs.setIfInBounds (off+x.2) x.1) cs).size=cs.size:=by
     intro l
     induction l with
     | nil=>intro cs; rfl
     | cons x l ih=>grind
    rw[<- Array.foldl_toList];grind
theorem aHC(hW:aR n0 G μ H w)(hF:iV w G μ nt F a){t len}{parts:Array (Nat×Operand)}{v H'}(h:TP P F H t len parts.toList=some (v,H')) :
  xE P n0 w G μ (Instr.buildSlice t len (parts.map λ(i,x)=>(i,a.eval x))) v H':=by
 unfold TP at h;split at h
 next e hu=>
  split at h
  next sz z hs hz=>
   cases hb:(Nat.ble (len*sz) 16777216&&Nat.ble 1 z.cells.size)with
   | false=>rw[hb]at h; cases h
   | true =>
    rw[hb]at h;simp only[oC]at h;simp only[oA]at hb;have h1:=oL hb.1;split at h
    ·rename_i cs hf;obtain⟨rfl,rfl⟩:=h;obtain⟨c',h3,h4⟩:=VK hF _ _ _ _ _ (XO z (len*sz)) hf;have hzero:∃ i,P.info? e=some i/\i.zero=some z:=by
      unfold GQ at hz;grind
     obtain⟨i,hi,hz'⟩:=hzero;have hl:=h4.length;have hk:=HX (on:=none) hW c' ⟨cs,e,false,false,none⟩ (λj p hp=>by
      obtain⟨u,g1,g2⟩:=h4.get hp;exact⟨u,by simpa using g1,g2⟩) (λ_=>hl.symm) rfl (λg hg=>by cases hg)
     have hsz:c'.size=len*sz:=by
      have h5:=aTF h3;rw[h5]; simp[madeCells]
     refine⟨.slice (some ⟨w.heap.size,0,none⟩) len len,w.alloc (.cells c' e),G,_,?_,FD hW _ _ _,hk,?_⟩
     ·have hn:¬ (len*sz>2^24):=Z
      have hrow:(Array.range (len*sz)).map (λx=>z.cells[x%z.cells.size]!)=madeCells z.cells (len*sz):=rfl;have h3':Instr.fill (λi=>some (i*sz,sz)) (Array.map (λx=>z.cells[x%z.cells.size]!) (Array.range (len*sz))) (parts.map λ(i,x)=>(i,a.eval x)).toList=some c':=by rw[RO,hrow]; exact h3
      by_cases h0:len*sz=0
      ·have h3'':Instr.fill (λi=>some (i*sz,sz)) (Array.map (λx=>(#[]:Array Value)[x%0]!) (Array.range (len*sz))) (parts.map λ(i,x)=>(i,a.eval x)).toList=some c':=by
        grind
       rw[h0]at h3'';simp[Instr.buildSlice,run_underlying hu,run_sizeOf hs,h0,newRow]
       simp_all
      ·simp only[Instr.buildSlice,Sem.run_bind,run_underlying hu,Result.andThen_ok,run_sizeOf hs,if_neg hn,if_neg h0];simp only[Sem.run_pure,Result.andThen_ok,Sem.run_bind,zeroValue,FA hi,hz',h3'];simp[newRow]
     ·rw[VR,A8];simp only[Nat.zero_add];refine⟨w.heap.size,_,lE _ _ _ _,rfl,oM _,λk hk=>(by cases hk; rfl),?_⟩;refine⟨c',e,(0,0),?_,?_⟩
      ·show (w.heap.push _)[w.heap.size]?=_;simp
      ·grind
    ·cases h
  ·cases h
 ·cases h
theorem aKV(hW:aR n0 G μ H w){t l c v H' x y}(hx:VR w G μ l x)(hy:VR w G μ c y)(h:aIC P H t l c=some (v,H')):xE P n0 w G μ (Instr.makeSlice t x y) v H':=by
 unfold aIC at h;split at h
 next e kl l kc c hu=>
  subst hx; subst hy;split at h
  next i hi=>
   split at h
   ·rename_i z hz;cases hb:(decide (0<=l)&&decide (l<=c)&&decide (c<=1048576)&&Nat.ble i.bytes 65536&&Nat.ble 1 i.size&&Nat.beq z.cells.size i.size)with
    | false=>rw[hb]at h; cases h
    | true =>
     rw[hb]at h;obtain⟨rfl,rfl⟩:=h;simp only[oA,decide_eq_true_eq]at hb;obtain⟨⟨⟨⟨⟨h1,h2⟩,h3⟩,h4⟩,h5⟩,h6⟩:=hb;have h4:=oL h4;have hbytes:(i.bytes:Int)*c<=281474976710656:=by
      have:(i.bytes:Int)*c<=65536*1048576:=Int.mul_le_mul Z h3 Z Z;omega
     have hr:=run_make (P:=P) w t e i z hu hi hz kl kc l c h1 h2 hbytes Z;have hv:=XO (w:=w) (G:=G) (μ:=μ) z (c.toNat*i.size);have hl:=hv.length;have hk:=HX (on:=none) hW (madeCells z.cells (c.toNat*i.size)) ⟨LF z (c.toNat*i.size),e,false,false,none⟩ (λj p hp=>by
      obtain⟨u,g1,g2⟩:=hv.get hp;exact⟨u,by simpa using g1,g2⟩) (λ_=>hl.symm) rfl (λg hg=>by cases hg)
     refine⟨_,_,G,_,hr,FD hW _ _ _,hk,?_⟩;rw[VR,A8];refine⟨w.heap.size,_,lE _ _ _ _,rfl,by omega,λk hk=>(by cases hk; rfl),?_⟩;refine⟨madeCells z.cells (c.toNat*i.size),e,(0,0),?_,?_⟩
     ·show (w.heap.push _)[w.heap.size]?=_;simp
     ·simp[madeCells]
   ·cases h
  ·cases h
 ·cases h
theorem bDH {x d l y}(h:bnd x d=some l)(hx:match x,y with|some p,some v=>VR w G μ p v|none,none=>True|_,_=>False) :
  (x=none/\y=none/\l=d)\/(∃ k i,y=some (.int k i)/\0<=i/\l=i.toNat/\x≠none):=by
 cases x with
 | none=>cases y with
  | none=>simp only[bnd]at h; grind
  | some v=>exact hx.elim
 | some p=>cases y with
  | none=>grind
  | some v =>
   cases p with
   | lit u =>
    simp only[VR]at hx;subst hx;cases v with
    | int k i =>
     simp only[bnd]at h;grind
    | _=>simp[bnd]at h
   | _=>simp[bnd]at h
theorem a2H {tys ty p v x}(hp:VR w G μ p x)(h:bE3 P tys p=some v) w1:∃ v',(Builtin.len_ tys ty #[x]).run P w1=.ok v' w1/\VR w G μ v v':=by
 unfold bE3 at h;split at h
 next t ts ht=>
  have ht':tys[0]?=some t:=by rw[<- Array.getElem?_toList,ht]; rfl
  split at h
  next e cs n cap hu=>simp only[oJ]at h;subst h;obtain⟨ao,c,rfl,_⟩:=hp;exact⟨goInt n,by simp[Builtin.len_,ht',run_underlying hu],by rw[VR]⟩
  next e r off n cap sz hu=>simp only[oJ]at h;subst h;obtain⟨b,c,_,rfl,_⟩:=hp;exact⟨goInt n,by simp[Builtin.len_,ht',run_underlying hu],by rw[VR]⟩
  next _ n e hu=>simp only[oJ]at h;subst h;exact⟨goInt n,by simp[Builtin.len_,ht',run_underlying hu],by rw[VR]⟩
  ·cases h
 ·cases h
end
section
variable {P:Program} {n0:Nat->Prop} {w:World} {G:Gd} {μ:Mp} {H:Heap} {F:Frm} {a:Act} {nt:Nat}
def a33(y:Option Value) (d l:Nat):Prop:=(y=none/\l=d)\/(∃ k i,y=some (.int k i)/\0<=i/\l=i.toNat)
theorem IC(hF:iV w G μ nt F a){x:Option Operand}{d l}(h:bnd (x.map (ev F)) d=some l):a33 (x.map a.eval) d l:=by
 cases x with
 | none=>simp only[Option.map_none,bnd,oJ]at h; exact .inl ⟨rfl,h.symm⟩
 | some x =>
  rcases bDH (y:=some (a.eval x)) h (cO hF x)with ⟨h1,_⟩|⟨k,i,h1,h2,h3,_⟩
  ·grind
  ·exact .inr ⟨k,i,h1,h2,h3⟩
theorem wW {isSlice lo hi l h len cap}(hlo:a33 lo 0 l)(hhi:a33 hi len h)(h1:l<=h)(h2:h<=cap) w1 :
  (Instr.sliceBounds isSlice len cap lo hi none).run P w1=.ok (l,h,cap) w1:=by
 rcases hlo with ⟨rfl,rfl⟩|⟨k,i,rfl,hi0,rfl⟩ <;> rcases hhi with ⟨rfl,rfl⟩|⟨k',i',rfl,hi0',rfl⟩
 ·rfl
 ·have:i'<=(cap:Int):=Z
  simp[Instr.sliceBounds,Instr.sliceBound,asIntOf,hi0',this]
 ·have:i<=h:=Z
  simp[Instr.sliceBounds,Instr.sliceBound,asIntOf,hi0,this]
 ·have a1:i'<=cap:=Z
  have a2:i<=i'.toNat:=Z
  simp only[Instr.sliceBounds,Instr.sliceBound,asIntOf,Sem.run_bind,Sem.run_pure,Result.andThen_ok,if_pos (And.intro hi0' a1),if_pos (And.intro hi0 a2)]
theorem room_le {b m n}(h:Room w b n)(hm:m<=n):Room w b m:=by
 obtain⟨c,t,fr,h1,h2⟩:=h;exact⟨c,t,fr,h1,by omega⟩
theorem ND(hF:iV w G μ nt F a){t p v x}{lo hi:Option Operand}(hp:VR w G μ p x)(h:UT P t p (lo.map (ev F)) (hi.map (ev F))=some v) w1 :
  ∃ v',(Instr.sliceAt t x (lo.map a.eval) (hi.map a.eval) none).run P w1=.ok v' w1/\VR w G μ v v':=by
 unfold UT at h;split at h
 next e hu=>
  split at h
  next sz hs=>
   split at h
   ·rename_i cs n cap;split at h
    ·rename_i l hh hl hhi;cases hb:(Nat.ble l hh&&Nat.ble hh n)with
     | false=>rw[hb]at h; cases h
     | true =>
      rw[hb]at h;simp only[oC,oJ]at h;subst h;simp only[oA]at hb;have h1:=oL hb.1;have h2:=oL hb.2;obtain⟨ao,c,rfl,h3,-,h4⟩:=hp;have hr:=wW (P:=P) (isSlice:=true) (IC hF hl) (IC hF hhi) h1 (oR h2 h3) w1;refine⟨.slice (if c=l then ao else ao.map (·.add (l*sz))) (hh-l) (c-l),?_,?_⟩
      ·simp[Instr.sliceAt,Instr.slice,run_underlying hu,hr,run_sizeOf hs]
      ·rw[VR];refine⟨_,_,rfl,by omega,λk hk=>(by cases hk),?_⟩
       by_cases hcl:c=l
       ·left;have:hh-l=0:=Z
        rw[this,Nat.zero_mul,List.take_zero]
       ·rcases h4 with rfl|⟨b,off,rfl,hg,hcs⟩
        ·left; simp
        ·right;exact⟨b,off+l*sz,by simp[hcl,Addr.add_lit],hg,hcs.sub _ _⟩
    ·cases h
   ·rename_i r off n cap sz';cases hsz:Nat.beq sz sz' with
    | false=>rw[hsz]at h; cases h
    | true =>
     rw[hsz]at h;have hsz:=oE hsz;subst hsz;simp only[oC]at h;split at h
     ·rename_i l hh hl hhi;rw[VR]at hp;obtain⟨b,c,hb,rfl,h3,hcap,hroom⟩:=hp;split at h
      ·rename_i c';have:=hcap c' rfl;subst this;cases hbb:(Nat.ble l hh&&Nat.ble hh c)with
       | false=>rw[hbb]at h; cases h
       | true =>
        rw[hbb]at h;simp only[oC]at h;simp only[oA]at hbb;have h1:=oL hbb.1;have h2:=oL hbb.2;have hr:=wW (P:=P) (isSlice:=true) (IC hF hl) (IC hF hhi) h1 h2 w1;refine⟨.slice (if c=l then some ⟨b,μ.sh r+off,none⟩ else (some (⟨b,μ.sh r+off,none⟩:Addr)).map (·.add (l*sz))) (hh-l) (c-l),?_,?_⟩
        ·simp only[Instr.sliceAt,Sem.run_bind,run_underlying hu,Result.andThen_ok,Instr.slice,hr,run_sizeOf hs,Sem.run_pure]
        ·cases hcl:Nat.beq c l with
         | true =>
          rw[hcl]at h;simp only[oC,oJ]at h;subst h;have hcl:=oE hcl;subst hcl;have e1:hh-c=0:=Z
          rw[VR];exact⟨b,0,hb,by simp[e1],oM _,λk hk=>(by cases hk; rfl),room_le hroom R⟩
         | false =>
          rw[hcl]at h;simp only[oD,oJ]at h;subst h;have hne:¬ c=l:=λe=>(by rw[e]at hcl; simp at hcl)
          rw[VR];refine⟨b,c-l,hb,by simp[hne,Addr.add_lit,Nat.add_assoc],by omega,λk hk=>(by cases hk; rfl),room_le hroom ?_⟩;have:l*sz+(c-l)*sz=c*sz:=by rw[<- Nat.add_mul]; congr 1; omega
          omega
      ·cases hbb:(Nat.ble l hh&&Nat.ble hh n)with
       | false=>rw[hbb]at h; cases h
       | true =>
        rw[hbb]at h;simp only[oC]at h;simp only[oA]at hbb;have h1:=oL hbb.1;have h2:=oL hbb.2;have hr:=wW (P:=P) (isSlice:=true) (IC hF hl) (IC hF hhi) h1 (oR h2 h3) w1;refine⟨.slice (if c=l then some ⟨b,μ.sh r+off,none⟩ else (some (⟨b,μ.sh r+off,none⟩:Addr)).map (·.add (l*sz))) (hh-l) (c-l),?_,?_⟩
        ·simp only[Instr.sliceAt,Sem.run_bind,run_underlying hu,Result.andThen_ok,Instr.slice,hr,run_sizeOf hs,Sem.run_pure]
        ·cases hln:Nat.blt l n with
         | true =>
          rw[hln]at h;simp only[oC,oJ]at h;subst h;have hln:l<n:=by have:=oL hln; omega
          have hne:¬ c=l:=Z
          rw[VR];refine⟨b,c-l,hb,by simp[hne,Addr.add_lit,Nat.add_assoc],by omega,λk hk=>(by cases hk),room_le hroom ?_⟩;have:l*sz+(c-l)*sz=c*sz:=by rw[<- Nat.add_mul]; congr 1; omega
          omega
         | false =>
          rw[hln]at h;simp only[oD]at h;cases hl0:Nat.beq l 0 with
          | true =>
           rw[hl0]at h;simp only[oC,oJ]at h;subst h;have hl0:=oE hl0;subst hl0;have hn:n=0:=by
            rcases Nat.eq_zero_or_pos n with h0|h0
            ·exact h0
            ·have:Nat.blt 0 n=true:=Nat.ble_eq_true_of_le h0;rw[this]at hln; cases hln
           subst hn;have:hh=0:=Z
           subst this;rw[VR];refine⟨b,c,hb,?_,Nat.zero_le _,λk hk=>(by cases hk),hroom⟩
           by_cases hc0:c=0 <;> simp[hc0,Addr.add]
          | false =>
           rw[hl0]at h;simp only[oD,oJ]at h;subst h;have hln:n<=l:=by
            rcases oG l n with h0|h0
            ·have:Nat.blt l n=true:=Nat.ble_eq_true_of_le h0;rw[this]at hln; cases hln
            ·exact h0
           have e1:hh-l=0:=Z
           rw[VR];exact⟨_,_,by rw[e1],Nat.zero_le _,λk hk=>(by cases hk),.inl rfl⟩
     ·cases h
   ·cases h
  ·cases h
 next n e hu=>
  split at h
  next sz hs=>
   split at h
   ·rename_i l hh hl hhi;cases hbb:(Nat.ble l hh&&Nat.ble hh n&&Nat.blt l n)with
    | false=>rw[hbb]at h; cases h
    | true =>
     rw[hbb]at h;simp only[oC]at h;simp only[oA]at hbb;have h1:=oL hbb.1.1;have h2:=oL hbb.1.2;have h3:l<n:=by have:=oL hbb.2; omega
     split at h
     ·rename_i cs;simp only[oJ]at h;subst h;rw[VR]at hp;obtain⟨b,off,rfl,hg,hcs⟩:=hp;have hr:=wW (P:=P) (isSlice:=false) (IC hF hl) (IC hF hhi) h1 h2 w1;have hne:¬ n=l:=Z
      refine⟨.slice (some ⟨b,off+l*sz,none⟩) (hh-l) (n-l),?_,?_⟩
      ·simp[Instr.sliceAt,run_underlying hu,hr,run_sizeOf hs,Instr.sureAddr,hne,Addr.add_lit]
      ·rw[VR];exact⟨_,_,rfl,by omega,λk hk=>(by cases hk),.inr ⟨b,_,rfl,hg,hcs.sub _ _⟩⟩
     ·cases h
   ·cases h
  ·cases h
 ·cases h
theorem a2T {op k x y v t p q}(h:aY7 op k x y=some v) w1:(do eqGuard op t p q (.int k x) (.int k y); binOp op t (.int k x) (.int k y):Sem Value).run P w1=.ok v w1:=by
 have hg:(eqGuard op t p q (.int k x) (.int k y)).run P w1=.ok () w1:=by cases op <;> simp[eqGuard]
 have hle:∀ a b:Int,(!decide (a<b))=decide (b<=a):=λa b=>W
 simp only[Sem.run_bind,hg,Result.andThen_ok];cases op <;> simp only[aY7,oJ,aQX,aE,eG]at h <;> try (cases h; done)
 all_goals first
  | (subst h; simp[binOp,Op.intArith,Op.intCmp]; done)
  | (cases hd:decide (y=0)with
     | true=>rw[hd]at h; cases h
     | false =>
      rw[hd]at h;simp only[oD,oJ]at h;subst h;have:¬ y=0:=of_decide_eq_false hd;simp[binOp,Op.intDiv,this])
  | skip
 all_goals (subst h; simp only[hle,binOp,Op.intCmp,ne_eq,not_true_eq_false,if_false,ite_false,Sem.run_pure]; try rfl)
theorem YE {xs ys cs ds} (hx:VRs w G μ cs xs.toList) (hy:VRs w G μ ds ys.toList) d w1 {sub}
  (hs:∀ xs ys cs ds gs r,VRs w G μ cs xs.toList->VRs w G μ ds ys.toList->sub gs cs ds=some r->(Op.eqFields d xs ys gs).run P w1=.ok r w1) :
  ∀ fs {r},UH P sub fs cs ds=some r->(Op.eqFields (d+1) xs ys fs).run P w1=.ok r w1
 | [],r,h=>by
  simp only[UH,oJ]at h;subst h;simp only[Op.eqFields,Sem.run_pure]
 | f::fs,r,h=>by
  simp only[UH]at h;cases hn:f.name== "_" with
  | true=>rw[hn]at h; cases h
  | false =>
   rw[hn]at h;simp only[oD]at h;have hne:f.name≠ "_":=by simpa using hn
   split at h
   ·rename_i k0 hu;split at h
    ·rename_i k a l b e1 e2;cases hk:R8 k l with
     | false=>rw[hk]at h; cases h
     | true =>
      rw[hk]at h;simp only[oC]at h;have hk:=aE0 hk;subst hk;split at h
      ·rename_i r' hr;simp only[oJ]at h;subst h;obtain⟨u,g1,g2⟩:=Q6 (P:=P) hx e1 w1;obtain⟨v,g3,g4⟩:=Q6 (P:=P) hy e2 w1;subst g2; subst g4;have ih:=YE hx hy d w1 hs fs hr;simp only[Op.eqFields,if_pos hne,Sem.run_bind,g1,g3,Result.andThen_ok,run_equalIn_int w1 d f.type k k0 a b hu];rw[eG]
       by_cases hab:a=b
       ·grind
       ·simp_all
      ·cases h
    ·cases h
   ·rename_i gs hu;cases hh:P.stoodInHeld f.type with
    | true=>rw[hh]at h; cases h
    | false =>
     rw[hh]at h;simp only[oD]at h;split at h
     ·rename_i cs' ds' e1 e2;split at h
      ·rename_i q r' hq hr;simp only[oJ]at h;subst h;obtain⟨u,g1,g2⟩:=Q6 (P:=P) hx e1 w1;obtain⟨v,g3,g4⟩:=Q6 (P:=P) hy e2 w1;obtain⟨us,rfl,hus⟩:=g2;obtain⟨vs,rfl,hvs⟩:=g4;have ih:=YE hx hy d w1 hs fs hr;have hf:P.fieldsOf f.type=gs:=by simp only[Program.fieldsOf,hu]
       have hu':P.underlying f.type=some (.struct (P.fieldsOf f.type)):=by rw[hf]; exact hu
       have ihs:=hs _ _ cs' ds' gs.toList q hus hvs hq;simp only[Op.eqFields,if_pos hne,Sem.run_bind,g1,g3,Result.andThen_ok,run_equalIn_struct w1 d f.type _ _ hu' hh,hf,ihs];cases q with
       | true=>simp only[Bool.not_true,Bool.false_eq_true,if_false,ih,Bool.true_and]
       | false=>simp only[Bool.not_false,if_true,Sem.run_pure,Bool.false_and]
      ·cases h
     ·cases h
   ·cases h
theorem aIU w1:∀ n d xs ys cs ds fs r,VRs w G μ cs xs.toList->VRs w G μ ds ys.toList->aP0 P n fs cs ds=some r->(Op.eqFields (d+n) xs ys fs).run P w1=.ok r w1
 | 0,d,xs,ys,cs,ds,fs,r,hx,hy,h=>by cases h
 | n+1,d,xs,ys,cs,ds,fs,r,hx,hy,h=>YE hx hy (d+n) w1 (λxs ys cs ds gs r h1 h2 h3=>aIU w1 n d xs ys cs ds gs r h1 h2 h3) fs h
theorem aNH {xs ys cs ds}(hx:VRs w G μ cs xs.toList)(hy:VRs w G μ ds ys.toList) w1 fs {r}(h:a42 P fs cs ds=some r):(Op.eqFields 9999 xs ys fs).run P w1=.ok r w1 :=
 aIU w1 3 9996 xs ys cs ds fs r hx hy h
theorem aAS {xs ys cs ds}(hx:VRs w G μ cs xs.toList)(hy:VRs w G μ ds ys.toList) d w1 {e}:∀ is {r},aER P e is cs ds=some r->(Op.eqItems (d+1) e (P.cellsOf e) xs ys is).run P w1=.ok r w1
 | [],r,h=>by
  simp only[aER,oJ]at h;subst h;rfl
 | f::fs,r,h=>by
  simp only[aER]at h;split at h
  next k0 hu=>
   split at h
   ·rename_i k a l b e1 e2;cases hk:R8 k l with
    | false=>grind
    | true =>
     rw[hk]at h;simp only[oC]at h;have hk:=aE0 hk;subst hk;split at h
     ·rename_i r' hr;simp only[oJ]at h;subst h;obtain⟨u,g1,g2⟩:=Q6 (P:=P) hx e1 w1;obtain⟨v,g3,g4⟩:=Q6 (P:=P) hy e2 w1;subst g2; subst g4;have ih:=aAS hx hy d w1 fs hr;simp only[Op.eqItems,Sem.run_bind,g1,g3,Result.andThen_ok,run_equalIn_int w1 d e k k0 a b hu];rw[eG]
      by_cases hab:a=b
      ·grind
      ·simp_all
     ·cases h
   ·cases h
  ·cases h
theorem a2C {op t xs ys cs ds v p q}(hx:VRs w G μ cs xs.toList)(hy:VRs w G μ ds ys.toList)(h:bEX P op t cs ds=some v) w1 :
  ∃ v',(do eqGuard op t p q (.agg xs) (.agg ys); binOp op t (.agg xs) (.agg ys):Sem Value).run P w1=.ok v' w1/\VR w G μ v v':=by
 unfold bEX at h;split at h
 next fs hu=>
  cases hb:(P.stoodInHeld t||P.eqGuardType P.depth t)with
  | true=>rw[hb]at h; cases h
  | false =>
   rw[hb]at h;simp only[oD]at h;rw[Bool.or_eq_false_iff]at hb;have hf:P.fieldsOf t=fs:=by simp only[Program.fieldsOf,hu]
   have hu':P.underlying t=some (.struct (P.fieldsOf t)):=by rw[hf]; exact hu
   split at h
   next r hr=>simp only[oJ]at h;subst h;refine⟨.bool r,?_,by rw[VR]⟩;have:=aNH (P:=P) hx hy w1 fs.toList hr;simp only[Sem.run_bind,run_eqGuard_agg w1 .eql t p q xs ys hb.2,Result.andThen_ok,run_eql_struct,run_equalIn_struct w1 9999 t xs ys hu' hb.1,hf,this]
   next r hr=>simp only[oJ]at h;subst h;refine⟨.bool (!r),?_,by rw[VR]⟩;have:=aNH (P:=P) hx hy w1 fs.toList hr;simp only[Sem.run_bind,run_eqGuard_agg w1 .neq t p q xs ys hb.2,Result.andThen_ok,run_neq_struct,run_equalIn_struct w1 9999 t xs ys hu' hb.1,hf,this]
   ·cases h
 next n e hu=>
  cases hb:(P.eqGuardType P.depth t||!(P.info? e).isSome)with
  | true=>rw[hb]at h; cases h
  | false =>
   rw[hb]at h;simp only[oD]at h;rw[Bool.or_eq_false_iff,Bool.not_eq_false']at hb;obtain⟨i,hi⟩:=Option.isSome_iff_exists.1 hb.2;split at h
   next r hr=>simp only[oJ]at h;subst h;refine⟨.bool r,?_,by rw[VR]⟩;have:=aAS (P:=P) hx hy 9998 w1 (List.range n) hr;simp only[Sem.run_bind,run_eqGuard_agg w1 .eql t p q xs ys hb.1,Result.andThen_ok,run_eql_struct,run_equalIn_array w1 9999 xs ys hu hi,this]
   next r hr=>simp only[oJ]at h;subst h;refine⟨.bool (!r),?_,by rw[VR]⟩;have:=aAS (P:=P) hx hy 9998 w1 (List.range n) hr;simp only[Sem.run_bind,run_eqGuard_agg w1 .neq t p q xs ys hb.1,Result.andThen_ok,run_neq_struct,run_equalIn_array w1 9999 xs ys hu hi,this]
   ·cases h
 ·cases h
end
end Go.PM
