/- Texts of one proof, joined (1). -/
import Derived.Shelf.Strings.Builder1
import Derived.Shelf.Strings.Builder2
import Derived.Shelf.Strings.OnBuilder
import Derived.Shelf.Small.Bits
import Derived.Shelf.Small.Wraps
import Derived.Shelf.Strconv.Atoi
import Derived.Shelf.Strconv.Itoa0
import Derived.Shelf.Strconv.Itoa1
import Derived.Shelf.LaysM
import Derived.Shelf.Strconv.Itoa2
import Derived.Shelf.Strconv.Itoa3
import Derived.Shelf.Strconv.AtoiErrFast
import Derived.Shelf.Strconv.ParseIntEmpty
import Derived.Shelf.Strconv.AtoiFail
import Derived.Shelf.Strconv.Clone
import Derived.Shelf.Strconv.SyntaxError
import Derived.Shelf.LaysC
import Derived.Shelf.Strconv.ToError
import Derived.Shelf.Strconv.Lower
import Derived.Shelf.Strconv.ParseUint10
import Derived.Shelf.Strconv.ParseUint10Empty
import Derived.Shelf.Strconv.ParseUint10Any
import Derived.Shelf.Strconv.ParseInt10
import Derived.Shelf.Strconv.AtoiLong
import Derived.Shelf.Strconv.AtoiInnerAll
import Derived.Shelf.Strconv.RangeError
import Derived.Shelf.Strconv.ToErrorRange
import Derived.Shelf.Strconv.AtoiAll
import Derived.Shelf.Strconv.ParseUintEmpty
import Derived.Shelf.Strconv.ParseUint10b64
import Derived.Shelf.Strconv.ParseUint10b32
import Derived.Shelf.Strconv.ParseUint10b16
import Derived.Shelf.Strconv.ParseUint10b8
import Derived.Shelf.Strconv.ParseUint10At
import Derived.Shelf.Strconv.ParseInt10At64
import Derived.Shelf.Strconv.ParseInt10At32
import Derived.Shelf.Strconv.ParseInt10At16
import Derived.Shelf.Strconv.ParseInt10At8
import Derived.Shelf.Strconv.ParseInt10All
import Derived.Shelf.Strconv.ParseIntPublic10
import Derived.Ground.MpProg
import Derived.Shelf.Pu.ParseUintPublic10
import Derived.Shelf.Sort.Plain
import Derived.Shelf.Bits.Mul64
import Derived.Ground.Names2Prog
import Derived.Shelf.Slices.CompactI
import Derived.Shelf.Slices.SearchI
import Derived.Shelf.Slices.Cells
import Derived.Shelf.Slices.In.SortNone
import Derived.Test.YtcbgclaonahijaaGreatDoorProg
import Derived.WalkKit
import Derived.Deep.LoopGhost
import Derived.Orders
import Derived.OwnWalk
import Derived.Laws.Tables
import Derived.Laws.MakeOwn
set_option linter.unusedSimpArgs false
set_option linter.unusedVariables false
set_option linter.defProp false
def Z {p:Prop}(h:p:=by omega):p:=h
def zN {p:Prop}(h:p:=by omega):p:=h
def Y {p:Prop}(h:p:=by kernel_rfl):p:=h
def zP {p:Prop}(h:p:=by kernel_rfl):p:=h
def O {p:Prop}(h:p:=by decide):p:=h
def zZ {p:Prop}(h:p:=by decide):p:=h
def R {p:Prop}(h:p:=by simp):p:=h
def zr {p:Prop}(h:p:=by simp):p:=h
def W {p:Prop}(h:p:=by grind):p:=h
def zt {p:Prop}(h:p:=by grind):p:=h
def U{α:Type}{a b:α}(h:a=b:=by kernel_rfl):some a=some b:=congrArg some h
def zW{α:Type}{a b:α}(h:a=b:=by kernel_rfl):some a=some b:=congrArg some h
noncomputable section
namespace Go.Proofs
open Go.Shelf Tryz
def Tryz.a3V:Go.Shelf.Ren:=⟨fun|156=>162|165=>228|166=>167|169=>169|240=>231|241=>277|276=>278|277=>301|n=>n,fun|31=>224|9=>9|3=>3|4=>4|0=>0|20=>20|72=>236|76=>237|70=>233|37=>234|75=>209|127=>299|164=>347|5=>5|80=>242|n=>n,fun|n=>n⟩
def Tryz.bP6:Go.Proofs.Lays.n156 Tryz.prog Tryz.a3V:=by repeat'(first|kernel_rfl|decide|(intro;kernel_rfl)|constructor)
def Tryz.aKK:Builder.Extra Tryz.prog Tryz.a3V:={
 sizeBuilder:=Y
 liesBuilder:=Y
 t5:=underlying5
 a5:=isAgg5
 z5:=sizeOf5
 v5:=zeroValue5
 infoByte:=Y
 cellsByte:=Y
 sizeByte:=Y
 neB5:=by decide }
open Go.RowKit in
def Tryz.strings_Join_none (a:Option Addr) (c:Nat) (sep:ByteArray) (w:World) :Calls Tryz.prog 162 #[.slice a 0 c,.string sep] w λe w'=>e=.returned (.string ⟨#[]⟩)/\w'=w:=Any.strings_Join_none Tryz.bP6 Tryz.aKK a c sep w
open Go.RowKit in
def Tryz.strings_Join (d o c:Nat) (xs:List ByteArray) (sep:ByteArray) (w:World) (a:∀ (j:Nat) x,xs[j]?=some x->w.cell? ⟨d,o+j,none⟩=some (.string x)) (f:d<w.heap.size) (g:xs.length<=140737488355328) (b:xs.length<=c) (hlen:(Lib.join (xs.map (·.data.toList)) sep.data.toList).length<=140737488355328) :Calls Tryz.prog 162 #[.slice (some ⟨d,o,none⟩) xs.length c,.string sep] w λe w'=>e=.returned (.string ⟨(Lib.join (xs.map (·.data.toList)) sep.data.toList).toArray⟩)/\Below w.heap.size w w':=Any.strings_Join Tryz.bP6 Tryz.aKK d o c xs sep w a f g b hlen
open Go.RowKit in
def Tryz.bI4:Go.Shelf.Ren:=⟨fun|172=>251|244=>286|245=>202|247=>201|279=>261|280=>262|281=>263|282=>264|287=>260|316=>292|171=>161|205=>293|321=>290|322=>291|243=>227|246=>276|283=>297|284=>298|285=>299|286=>300|129=>215|317=>309|318=>310|319=>311|320=>312|337=>314|338=>315|n=>n,fun|9=>9|3=>3|75=>209|76=>237|4=>4|5=>5|167=>327|37=>234|0=>0|85=>210|2=>2|168=>330|53=>287|175=>328|46=>215|210=>363|127=>299|145=>377|143=>375|21=>21|171=>370|173=>372|212=>379|51=>285|20=>20|213=>380|232=>381|233=>382|80=>242|n=>n,fun|15=>0|16=>1|17=>2|18=>4|19=>5|n=>n⟩
def Tryz.bYA:Go.Proofs.Lays.n172 Tryz.prog Tryz.bI4:=by repeat'(first|kernel_rfl|decide|(intro;kernel_rfl)|constructor)
open Go.RowKit in
def Tryz.strconv_Atoi (s:ByteArray) (n:Int) (a:s.size<=18) (h:Lib.atoi s.data.toList=some n) (w:World) :Calls Tryz.prog 251 #[.string s] w λe w'=>e=.returned (.tuple #[.int .i64 n,.nilIface])/\∃ t,w'=Lib.bytesWorld w 5 t:=Any.strconv_Atoi Tryz.bYA s n a h w
def Tryz.bIF:Go.Shelf.Ren:=⟨fun|283=>297|n=>n,fun|3=>3|9=>9|4=>4|n=>n,fun|n=>n⟩
def Tryz.bY7:Go.Proofs.Lays.n283 Tryz.prog Tryz.bIF:=by repeat'(first|kernel_rfl|decide|(intro;kernel_rfl)|constructor)
open Go.Lib in
def Tryz.internal_strconv_small (i:Nat) (h:i<100) (w:World) :Calls Tryz.prog 297 #[.int .i64 i] w λe w'=>e=.returned (.string ⟨(Lib.decDigits i).toArray⟩)/\w'=w:=Any.internal_strconv_small Tryz.bY7 i h w
def Tryz.bFU:Go.Shelf.Ren:=⟨fun|284=>298|129=>215|317=>309|318=>310|n=>n,fun|53=>287|3=>3|212=>379|0=>0|4=>4|46=>215|5=>5|9=>9|n=>n,fun|17=>2|n=>n⟩
def Tryz.bVP:Go.Proofs.LaysM.n284 Tryz.prog Tryz.bFU:=by repeat'(first|kernel_rfl|decide|(intro;kernel_rfl)|constructor)
open Go.Lib in
def Tryz.internal_strconv_numDigits (u:Nat) (c:1<=u) (b:u<18446744073709551616) (w:World) (a:Lib.TabIs Tryz.prog w "internal/strconv.uint64pow10" .u64 Lib.pow10Tab) :
  Calls Tryz.prog 298 #[.int .u64 u] w λe w'=>e=.returned (.int .i64 (Lib.nDigits u))/\w'=w:=Any.internal_strconv_numDigits Tryz.bVP u c b w a
def Tryz.bK1:Go.Shelf.Ren:=⟨fun|285=>299|n=>n,fun|37=>234|53=>287|3=>3|4=>4|51=>285|9=>9|5=>5|0=>0|n=>n,fun|n=>n⟩
def Tryz.bZE:Go.Proofs.Lays.n285 Tryz.prog Tryz.bK1:=by repeat'(first|kernel_rfl|decide|(intro;kernel_rfl)|constructor)
open Go.RowKit Go.Sort Go.Lib in
def Tryz.internal_strconv_formatBase10 (a off cap:Nat) (u:Nat) (d:Array UInt8) (w:World) (hH:Holds (λ(b:UInt8)=>Value.int .u8 (b.toNat:Int)) w a off d) (hu:u<10^d.size) (c:u<18446744073709551616) (f:d.size<4611686018427387904) :Calls Tryz.prog 299 #[.slice (some ⟨a,off,none⟩) d.size cap,.int .u64 u] w λe w'=>e=.returned (.tuple #[])/\∃ (n v':Nat) (dk:Array UInt8),w'=(putRow (λ(b:UInt8)=>Value.int .u8 (b.toNat:Int)) w a off dk).drewN n/\FmtInv d.size u 0 v' dk:=Any.internal_strconv_formatBase10 Tryz.bZE a off cap u d w hH hu c f
def Tryz.bXS:Go.Shelf.Ren:=⟨fun|246=>276|283=>297|284=>298|285=>299|286=>300|129=>215|317=>309|318=>310|319=>311|320=>312|337=>314|338=>315|n=>n,fun|2=>2|3=>3|9=>9|4=>4|171=>370|0=>0|53=>287|37=>234|5=>5|173=>372|212=>379|51=>285|20=>20|213=>380|46=>215|232=>381|233=>382|n=>n,fun|17=>2|18=>4|19=>5|n=>n⟩
def Tryz.bZG:Go.Shelf.Ren:=⟨fun|243=>227|246=>276|283=>297|284=>298|285=>299|286=>300|129=>215|317=>309|318=>310|319=>311|320=>312|337=>314|338=>315|n=>n,fun|3=>3|9=>9|2=>2|4=>4|171=>370|0=>0|53=>287|37=>234|5=>5|173=>372|212=>379|51=>285|20=>20|213=>380|46=>215|232=>381|233=>382|n=>n,fun|17=>2|18=>4|19=>5|n=>n⟩
def Tryz.bGQ:Go.Shelf.Ren:=⟨fun|171=>161|243=>227|246=>276|283=>297|284=>298|285=>299|286=>300|129=>215|317=>309|318=>310|319=>311|320=>312|337=>314|338=>315|n=>n,fun|3=>3|9=>9|2=>2|4=>4|171=>370|0=>0|53=>287|37=>234|5=>5|173=>372|212=>379|51=>285|20=>20|213=>380|46=>215|232=>381|233=>382|n=>n,fun|17=>2|18=>4|19=>5|n=>n⟩
def Tryz.bTC:Go.Proofs.LaysM.n171 Tryz.prog Tryz.bGQ:=by repeat'(first|kernel_rfl|decide|(intro;kernel_rfl)|constructor)
open Go.RowKit Go.Sort Go.Lib in
def Tryz.strconv_Itoa (n:Int) (b : -9223372036854775808<=n) (c:n<=9223372036854775807) (w:World) (a:Lib.TabIs Tryz.prog w "internal/strconv.uint64pow10" .u64 Lib.pow10Tab) :
  Calls Tryz.prog 161 #[.int .i64 n] w λe w'=>e=.returned (.string ⟨(Lib.itoa n).toArray⟩)/\∃ k os,w'=grow (w.drewN k) os:=Any.strconv_Itoa Tryz.bTC n b c w a
def Tryz.bEM:Go.Shelf.Ren:=⟨fun|174=>150|247=>201|245=>202|287=>260|279=>261|280=>262|281=>263|282=>264|321=>290|322=>291|316=>292|171=>161|205=>293|243=>227|246=>276|283=>297|284=>298|285=>299|286=>300|129=>215|317=>309|318=>310|319=>311|320=>312|337=>314|338=>315|n=>n,fun|9=>9|3=>3|2=>2|75=>209|85=>210|4=>4|167=>327|5=>5|53=>287|175=>328|46=>215|168=>330|37=>234|0=>0|210=>363|21=>21|127=>299|145=>377|143=>375|171=>370|173=>372|212=>379|51=>285|20=>20|213=>380|232=>381|233=>382|80=>242|n=>n,fun|15=>0|16=>1|17=>2|18=>4|19=>5|n=>n⟩
def Tryz.bKG:Go.Proofs.LaysC.n174 Tryz.prog Tryz.bEM:=by repeat'(first|kernel_rfl|decide|(intro;kernel_rfl)|constructor)
open Go.RowKit in
def Tryz.strconv_ParseInt_10_at64_ok (s:ByteArray) (a:s.size<=9223372036854775806) (v:Int) (h:Lib.parseIntB 64 s.data.toList=.ok v) (w:World) :Calls Tryz.prog 150 #[.string s,.int .i64 10,.int .i64 64] w λe w'=>e=.returned (.tuple #[.int .i64 v,.nilIface])/\(w'=w\/∃ t,w'=Lib.bytesWorld w 5 t):=Any.strconv_ParseInt_10_at64_ok Tryz.bKG s a v h w
open Go.RowKit in
def Tryz.strconv_ParseInt_10_at64_range (s:ByteArray) (a:s.size<=281474976710656) (h:Lib.parseIntB 64 s.data.toList=.range) (ev:Value) (w:World) (f:w.cell? ⟨1,0,none⟩=some ev) (b:ev=.nilIface\/∃ d c,ev=.iface d c) :Calls Tryz.prog 150 #[.string s,.int .i64 10,.int .i64 64] w λe w'=>∃ N,e=.returned (.tuple #[.int .i64 (Lib.intSat 64 s.data.toList),.iface 330 (.pointer (some ⟨N,0,none⟩))])/\w.heap.size<=N/\w'.heap[N]?=some (.cells #[.string ⟨#[80,97,114,115,101,73,110,116]⟩,.string s,ev] 363 (0,0))/\Below w.heap.size w w':=Any.strconv_ParseInt_10_at64_range Tryz.bKG s a h ev w f b
def Tryz.bHN:Go.Shelf.Ren:=⟨fun|14=>307|16=>260|17=>202|19=>290|20=>291|21=>261|22=>262|23=>263|24=>264|25=>292|27=>161|26=>293|28=>227|29=>276|30=>297|31=>298|32=>299|33=>300|35=>215|34=>309|36=>310|37=>311|38=>312|39=>314|40=>315|n=>n,fun|9=>9|3=>3|22=>287|24=>209|25=>328|4=>4|34=>327|5=>5|36=>215|37=>234|0=>0|39=>330|21=>21|44=>363|47=>299|50=>377|48=>375|2=>2|52=>370|55=>372|59=>379|60=>285|20=>20|61=>380|65=>381|66=>382|67=>242|n=>n,fun|0=>0|1=>1|2=>2|3=>4|4=>5|n=>n⟩
def Tryz.bWV:Go.Proofs.LaysPu.n14 Tryz.prog Tryz.bHN:=by repeat'(first|kernel_rfl|decide|(intro;kernel_rfl)|constructor)
open Go.RowKit in
def Tryz.strconv_ParseUint_10_at64_ok (s:ByteArray) (a:s.size<=9223372036854775806) (u:Nat) (h:Lib.parseUintB 64 s.data.toList=.ok u) (w:World) :Calls Tryz.prog 307 #[.string s,.int .i64 10,.int .i64 64] w λe w'=>e=.returned (.tuple #[.int .u64 u,.nilIface])/\(w'=w\/w'=Lib.bytesWorld w 5 s):=Any.strconv_ParseUint_10_at64_ok Tryz.bWV s a u h w
def Tryz.bJC:Go.Shelf.Ren:=⟨fun|189=>115|125=>155|257=>154|128=>214|129=>215|294=>205|295=>206|296=>207|297=>208|298=>209|299=>210|216=>211|300=>212|301=>213|328=>265|329=>266|330=>267|331=>268|332=>269|215=>152|343=>294|n=>n,fun|28=>28|3=>3|46=>215|0=>0|51=>285|53=>287|4=>4|183=>279|182=>278|131=>168|5=>5|9=>9|218=>333|222=>337|228=>365|229=>366|n=>n,fun|n=>n⟩
def Tryz.bOV:Go.Proofs.Lays.n189 Tryz.prog Tryz.bJC:=by repeat'(first|kernel_rfl|decide|(intro;kernel_rfl)|constructor)
open Go.Sort Go.RowKit in
def Tryz.slices_Sort_int (a off cap:Nat) (b:List Int) (w:World) (hH:Holds (Value.int .i64) w a off b.toArray) (hblk:a<w.heap.size) (c:b.length<4611686018427387904) :Calls Tryz.prog 115 #[.slice (some ⟨a,off,none⟩) b.length cap] w λe w'=>e=.returned (.tuple #[])/\∃ n os,w'=grow (putRow (Value.int .i64) (Sort.ahead w n) a off (b.mergeSort λx y=>decide (x<=y)).toArray) os:=Any.slices_Sort_int Tryz.bOV a off cap b w hH hblk c
def Tryz.bA9:Go.Shelf.Ren:=⟨fun|20=>116|n=>n,fun|22=>28|3=>3|4=>4|0=>0|n=>n,fun|n=>n⟩
def Tryz.bCV:Go.Proofs.Lays2.n20 Tryz.prog Tryz.bA9:=by repeat'(first|kernel_rfl|decide|(intro;kernel_rfl)|constructor)
open Go.RowKit Go.Lib Go.Sort in
def Tryz.slices_Compact_int (a off cap:Nat) (b:List Int) (w:World) (hH:Holds (Value.int .i64) w a off b.toArray) (d:b.length<=9223372036854775807) (c:b.length<=cap) :Calls Tryz.prog 116 #[.slice (some ⟨a,off,none⟩) b.length cap] w λe w'=>e=.returned (.slice (some ⟨a,off,none⟩) (Lib.compact b).length cap)/\∃ q,w'=putRow (Value.int .i64) (Sort.ahead w q) a off (Lib.compact b++List.replicate (b.length-(Lib.compact b).length) 0).toArray:=Any.slices_Compact_int Tryz.bCV a off cap b w hH d c
open Go.RowKit Go.Lib Go.Sort in
def Tryz.slices_Compact_int_empty (a:Option Addr) (cap:Nat) (w:World) :Calls Tryz.prog 116 #[.slice a 0 cap] w λe w'=>e=.returned (.slice a 0 cap)/\w'=w:=Any.slices_Compact_int_empty Tryz.bCV a cap w
open Go.RowKit Go.Sort in
def Tryz.slices_Sort_int_none (p:Option Addr) (cap:Nat) (w:World) :Calls Tryz.prog 115 #[.slice p 0 cap] w λe w'=>e=.returned (.tuple #[])/\w'=w:=Any.slices_Sort_int_none Tryz.bOV p cap w
end Go.Proofs
namespace Go.PM
open Go Go.RowKit
inductive Ty where
 | int (k:IntKind)
 | bool
 | str
 | list (t:Ty)
 | prod (a b:Ty)
 | hnd (sz:Nat)
 | rows (t:Ty)
 | smap
 deriving DecidableEq
@[reducible] def Ty.den:Ty->Type| .hnd _=>Nat×Nat×Nat| .rows t=>List t.den| .smap=>List (ByteArray×Int)| .int _=>Int| .bool=>Bool| .str=>ByteArray| .list t=>List t.den| .prod a b=>a.den×b.den
def Ty.bEW:(t:Ty)->t.den| .hnd _=>(0,0,0)| .rows _=>[]| .smap=>[]| .int _=>0| .bool=>false| .str=>ByteArray.empty| .list _=>[]| .prod a b=>(a.bEW,b.bEW)
def Ty.size:Ty->Nat| .prod a b=>a.size+b.size| _=>1
def Ty.size_pos:∀ t:Ty,0<t.size
 | .int _|.bool|.str|.list _|.hnd _|.rows _|.smap=>by simp[Ty.size]
 | .prod a b=>by have:=a.size_pos; simp only[Ty.size]; omega
inductive PV where
 | lit (v:Value)
 | vals (cs:List PV) (n:Nat) (cap:Option Nat)
 | iptr (cs:List PV)
 | hptr (r off:Nat)
 | hs (r off len:Nat) (cap:Option Nat) (sz:Nat)
 | agg (cs:List PV)
 | tuple (vs:List PV)
 | clo (fn:Fn) (first caps:List PV)
 | junk
 | tl (t:Ty) (l:List t.den) (cap:Option Nat) (e:PV)
 | tp (t:Ty) (l:List t.den) (i off:Nat) (e:PV)
 | own (r sz:Nat)
 | op (r i off sz:Nat)
 | win (r lo n sz:Nat)
 | row (j lo n sz:Nat)
 | rp (j off:Nat)
 | mp (j:Nat)
 | tm (l:List (ByteArray×Int))
 | qs (r sz:Nat)
def enc:(t:Ty)->t.den->List PV| .hnd sz,x=>[.row x.1 x.2.1 x.2.2 sz]| .rows _,_=>[.lit (.bool false)]| .smap,l=>[.tm l]| .int k,x=>[.lit (.int k x)]| .bool,x=>[.lit (.bool x)]| .str,x=>[.lit (.string x)]| .list t,l=>[.tl t l none (.vals (l.flatMap (enc t)) l.length none)]| .prod a b,(x,y)=>enc a x++enc b y
def aI(t:Ty)(l:List t.den):List PV:=l.flatMap (enc t)
def zX(t:Ty) (l:List t.den) (cap:Option Nat):PV:=.tl t l cap (.vals (aI t l) l.length cap)
def bR3(t:Ty)(l:List t.den)(i off:Nat):PV:=.tp t l i off (.iptr ((aI t l).drop (i*t.size+off)))
instance:Inhabited PV:=⟨.junk⟩
def Room(w:World) (b n:Nat):Prop:=∃ c t fr,w.heap[b]?=some (.cells c t fr)/\n<=c.size
structure Mp where
 loc:Nat->Option Nat
 len:Nat->Option Nat
 sh:Nat->Nat
def aH:Mp:=⟨λ_=>none,λ_=>none,λ_=>0⟩
structure Gd where
 ok:Nat->Prop
 row:Nat->Option Nat
instance:CoeFun Gd (λ_=>Nat->Prop):=⟨Gd.ok⟩
def bPJ(k:IntKind) (l:List Int) (o:Option Obj):Prop:=∃ t fr,o=some (.cells (l.map λz=>Value.int k z).toArray t fr)
def aYK(o:Option Obj):Prop:=∃ tp p t fr,o=some (.cells #[.iface tp p] t fr)
def bS8:List (Nat×(Option Obj->Prop)):=[(2,bPJ .u64 [1,10,100,1000,10000,100000,1000000,10000000,100000000,1000000000,10000000000,100000000000,1000000000000,10000000000000,100000000000000,1000000000000000,10000000000000000,100000000000000000,1000000000000000000,10000000000000000000]),(0,aYK),(1,aYK)]
structure Lt (w:World) (G:Nat->Prop):Prop where
 lt:∀ b,G b->b<w.heap.size
 tab:∀ p∈bS8,G p.1/\p.2 w.heap[p.1]?
instance (w:World) (G:Nat->Prop):CoeFun (Lt w G) (λ_=>∀ b,G b->b<w.heap.size):=⟨Lt.lt⟩
def Lt.step {w w' G G'}(h:Lt w G)(a:∀ b,G b->G' b/\w'.heap[b]?=w.heap[b]?)(c:∀ b,G' b->b<w'.heap.size):Lt w' G' :=⟨c,λp hp=>⟨(a _ (h.tab p hp).1).1,by rw[(a _ (h.tab p hp).1).2]; exact(h.tab p hp).2⟩⟩
def Lt.all {w G}(h:Lt w G):Lt w λb=>b<w.heap.size:=h.step (λb a=>⟨h.lt b a,rfl⟩) λ_ h=>h
def Gd.or (G:Gd) (p:Nat->Prop):Gd:=⟨λb=>G.ok b\/p b,G.row⟩
section
variable (w:World) (G:Gd)
mutual
def VR:Mp->PV->Value->Prop| _,.lit u,v=>v=u| _,.vals cs n cap,v=>∃ ao c,v=.slice ao n c/\n<=c/\(∀ k,cap=some k->c=k)/\(cs=[]\/∃ b off,ao=some ⟨b,off,none⟩/\G b/\aT aH b off cs)| _,.iptr cs,v=>∃ b off,v=.pointer (some ⟨b,off,none⟩)/\G b/\aT aH b off cs| μ,.hptr r off,v=>∃ b,μ.loc r=some b/\v=.pointer (some ⟨b,μ.sh r+off,none⟩)| μ,.hs r off len cap sz,v=>∃ b c,μ.loc r=some b/\v=.slice (some ⟨b,μ.sh r+off,none⟩) len c/\len<=c/\(∀ k,cap=some k->c=k)/\Room w b (μ.sh r+off+c*sz)| μ,.agg cs,v=>∃ vs,v=.agg vs/\VRs μ cs vs.toList| μ,.tuple cs,v=>∃ vs,v=.tuple vs/\VRs μ cs vs.toList| μ,.clo fn f c,v=>∃ fs cs,v=.func fn fs cs/\VRs μ f fs.toList/\VRs μ c cs.toList| _,.junk,_=>True| _,.tl t l cap e,v=>VR aH e v/\e=.vals (aI t l) l.length cap| _,.tp t l i off e,v=>VR aH e v/\e=.iptr ((aI t l).drop (i*t.size+off))/\i<l.length| μ,.own r sz,v=>∃ n,μ.len r=some n/\((n=0/\∃ ao,v=.slice ao 0 0)\/∃ b c,μ.loc r=some b/\v=.slice (some ⟨b,μ.sh r,none⟩) n c/\n<=c/\Room w b (μ.sh r+c*sz)/\μ.sh r=0)| μ,.op r i off sz,v=>∃ b,μ.loc r=some b/\v=.pointer (some ⟨b,μ.sh r+(i*sz+off),none⟩)| μ,.win r lo n sz,v=>∃ b c m,μ.loc r=some b/\v=.slice (some ⟨b,μ.sh r+lo*sz,none⟩) n c/\n<=c/\Room w b (μ.sh r+(lo+c)*sz)/\μ.len r=some m/\lo+n<=m/\m<=lo+c/\μ.sh r=0| μ,.qs r sz,v=>∃ n,μ.len r=some n/\((n=0/\∃ ao,v=.slice ao 0 0)\/∃ b c,μ.loc r=some b/\v=.slice (some ⟨b,μ.sh r,none⟩) n c/\n<=c/\Room w b (μ.sh r+c*sz))| _,.row j lo n sz,v=>∃ ao c,v=.slice ao n c/\n<=c/\(n=0\/∃ b,G.row j=some b/\ao=some ⟨b,lo*sz,none⟩/\Room w b ((lo+c)*sz))| _,.rp j off,v=>∃ b,G.row j=some b/\v=.pointer (some ⟨b,off,none⟩)| _,.mp j,v=>∃ b,G.row j=some b/\v=.map (some b)| _,.tm l,v=>∃ b es clk,v=.map (some b)/\G b/\w.heap[b]?=some (.map es clk)/\es.toList.map (λe=>(e.key,e.val))=l.map λp=>(Value.string p.1,Value.int .i64 p.2)
def VRs:Mp->List PV->List Value->Prop| _,[],vs=>vs=[]| μ,p::ps,vs=>∃ x xs,vs=x::xs/\VR μ p x/\VRs μ ps xs
def aT:Mp->Nat->Nat->List PV->Prop| _,_,_,[]=>True| μ,b,off,p::ps=>(∃ v,w.cell? ⟨b,off,none⟩=some v/\VR μ p v)/\aT μ b (off+1) ps
end
end
structure Mono (w:World) (G:Gd) (μ:Mp) (w':World) (G':Gd) (μ':Mp):Prop where
 good:∀ b,G b->G' b/\w'.heap[b]?=w.heap[b]?
 map:∀ r b,μ.loc r=some b->μ'.loc r=some b
 len:∀ r n,μ.len r=some n->μ'.len r=some n
 room:∀ b n,Room w b n->Room w' b n
 row:∀ j b,G.row j=some b->G'.row j=some b
 sh:∀ r b,μ.loc r=some b->μ'.sh r=μ.sh r:=by first|exact λ_ _ _=>rfl|(intro _ _ h; cases h)
section
variable {w w':World} {G G':Gd}
def Mono.aH {μ μ'}(h:Mono w G μ w' G' μ'):Mono w G aH w' G' aH:=⟨h.good,λ_ _ h=>h,λ_ _ h=>h,h.room,h.row,λ_ _ _=>rfl⟩
mutual
def VR.mono {μ μ':Mp} (h:Mono w G μ w' G' μ'):∀ p v,VR w G μ p v->VR w' G' μ' p v
 | .lit u,v,hv=>by simpa[VR]using hv
 | .vals cs n cap,v,hv=>by
  rw[VR]at hv ⊢;have⟨ao,c,d,a,s,g⟩:=hv;refine⟨ao,c,d,a,s,?_⟩;rcases g with g|⟨b,off,k,o,q⟩
  ·exact .inl g
  ·exact .inr ⟨b,off,k,(h.good b o).1,aT.mono h.aH (h.good b o).2 off cs q⟩
 | .iptr cs,v,hv=>by
  rw[VR]at hv ⊢;have⟨b,off,d,a,g⟩:=hv;exact⟨b,off,d,(h.good b a).1,aT.mono h.aH (h.good b a).2 off cs g⟩
 | .hptr r off,v,hv=>by
  rw[VR]at hv ⊢;have⟨b,d,a⟩:=hv;rw[<- h.sh r b d]at a;exact⟨b,h.map r b d,a⟩
 | .hs r off len cap sz,v,hv=>by
  rw[VR]at hv ⊢;have⟨b,c,d,a,g,k,o⟩:=hv;rw[<- h.sh r b d]at a o;exact⟨b,c,h.map r b d,a,g,k,h.room _ _ o⟩
 | .agg cs,v,hv=>by
  rw[VR]at hv ⊢;have⟨vs,d,a⟩:=hv;exact⟨vs,d,VRs.mono h cs _ a⟩
 | .tuple cs,v,hv=>by
  rw[VR]at hv ⊢;have⟨vs,d,a⟩:=hv;exact⟨vs,d,VRs.mono h cs _ a⟩
 | .clo fn f c,v,hv=>by
  rw[VR]at hv ⊢;have⟨y,cs,d,a,g⟩:=hv;exact⟨y,cs,d,VRs.mono h f _ a,VRs.mono h c _ g⟩
 | .junk,v,hv=>by rw[VR]; trivial
 | .tl t l cap e,v,hv=>by
  rw[VR]at hv ⊢;exact⟨VR.mono h.aH e v hv.1,hv.2⟩
 | .tp t l i off e,v,hv=>by
  rw[VR]at hv ⊢;exact⟨VR.mono h.aH e v hv.1,hv.2⟩
 | .own r sz,v,hv=>by
  rw[VR]at hv ⊢;have⟨n,d,a⟩:=hv;refine⟨n,h.len r n d,?_⟩;rcases a with a|⟨b,c,g,k,o,q⟩
  ·exact .inl a
  ·rw[<- h.sh r b g]at k q;exact .inr ⟨b,c,h.map r b g,k,o,h.room _ _ q.1,q.2⟩
 | .qs r sz,v,hv=>by
  rw[VR]at hv ⊢;have⟨n,d,a⟩:=hv;refine⟨n,h.len r n d,?_⟩;rcases a with a|⟨b,c,g,k,o,q⟩
  ·exact .inl a
  ·rw[<- h.sh r b g]at k q;exact .inr ⟨b,c,h.map r b g,k,o,h.room _ _ q⟩
 | .op r i off sz,v,hv=>by
  rw[VR]at hv ⊢;have⟨b,d,a⟩:=hv;rw[<- h.sh r b d]at a;exact⟨b,h.map r b d,a⟩
 | .win r lo n sz,v,hv=>by
  rw[VR]at hv ⊢;have⟨b,c,m,d,a,g,k,o,q⟩:=hv;rw[<- h.sh r b d]at a k q;exact⟨b,c,m,h.map r b d,a,g,h.room _ _ k,h.len r m o,q⟩
 | .row j lo n sz,v,hv=>by
  rw[VR]at hv ⊢;have⟨ao,c,d,a,g⟩:=hv;refine⟨ao,c,d,a,?_⟩;rcases g with g|⟨b,k,o,q⟩
  ·exact .inl g
  ·exact .inr ⟨b,h.row j b k,o,h.room _ _ q⟩
 | .rp j off,v,hv=>by
  rw[VR]at hv ⊢;have⟨b,d,a⟩:=hv;exact⟨b,h.row j b d,a⟩
 | .mp j,v,hv=>by
  rw[VR]at hv ⊢;have⟨b,d,a⟩:=hv;exact⟨b,h.row j b d,a⟩
 | .tm l,v,hv=>by
  rw[VR]at hv ⊢;have⟨b,es,x,d,a,g,k⟩:=hv;exact⟨b,es,x,d,(h.good b a).1,(h.good b a).2.trans g,k⟩
def VRs.mono {μ μ':Mp} (h:Mono w G μ w' G' μ'):∀ ps vs,VRs w G μ ps vs->VRs w' G' μ' ps vs
 | [],vs,hv=>by rw[VRs]at hv ⊢; exact hv
 | p::ps,vs,hv=>by
  rw[VRs]at hv ⊢;have⟨x,xs,b,a,c⟩:=hv;exact⟨x,xs,b,VR.mono h p x a,VRs.mono h ps xs c⟩
def aT.mono {μ μ':Mp} (h:Mono w G μ w' G' μ') {b:Nat} (a:w'.heap[b]?=w.heap[b]?):∀ off ps,aT w G μ b off ps->aT w' G' μ' b off ps
 | _,[],_=>by rw[aT]; trivial
 | off,p::ps,hv=>by
  rw[aT]at hv ⊢;have⟨⟨v,d,c⟩,e⟩:=hv;exact⟨⟨v,by rw[World.cell?_of_block (w:=w) a]; exact d,VR.mono h p v c⟩,aT.mono h a (off+1) ps e⟩
end
variable {μ μ':Mp}
def aPJ:Mono w G aH w G μ:=⟨λ_ h=>⟨h,rfl⟩,λ_ _ h=>(by cases h),λ_ _ h=>(by cases h),λ_ _ h=>h,λ_ _ h=>h,λ_ _ h=>(by cases h)⟩
def VR.bF {p v}(h:VR w G aH p v):VR w G μ p v:=VR.mono aPJ p v h
def VRs.bF {p v}(h:VRs w G aH p v):VRs w G μ p v:=VRs.mono aPJ p v h
def aT.bF {b off p}(h:aT w G aH b off p):aT w G μ b off p:=aT.mono aPJ rfl off p h
def eM:PV->Bool| .lit _|.vals ..|.iptr _|.tl ..|.tp ..|.row ..|.rp ..|.mp _|.tm _=>true| .agg cs|.tuple cs=>noRefs cs| .clo _ f c=>noRefs f&&noRefs c| _=>false
where noRefs:List PV->Bool
 | []=>true
 | p::ps=>eM p&&noRefs ps
mutual
def IV:∀ (p:PV) (v:Value),eM p=true->VR w G μ p v->VR w G aH p v
 | .lit u,v,_,h=>by rw[VR]at h ⊢; exact h
 | .vals ..,v,_,h=>by rw[VR]at h ⊢; exact h
 | .iptr _,v,_,h=>by rw[VR]at h ⊢; exact h
 | .tl ..,v,_,h=>by rw[VR]at h ⊢; exact h
 | .tp ..,v,_,h=>by rw[VR]at h ⊢; exact h
 | .row ..,v,_,h=>by rw[VR]at h ⊢; exact h
 | .rp ..,v,_,h=>by rw[VR]at h ⊢; exact h
 | .mp _,v,_,h=>by rw[VR]at h ⊢; exact h
 | .tm _,v,_,h=>by rw[VR]at h ⊢; exact h
 | .own ..,v,hn,h=>by simp only[eM]at hn; cases hn
 | .qs ..,v,hn,h=>by simp only[eM]at hn; cases hn
 | .op ..,v,hn,h=>by simp only[eM]at hn; cases hn
 | .win ..,v,hn,h=>by simp only[eM]at hn; cases hn
 | .agg cs,v,hn,h=>by
  rw[VR]at h ⊢;have⟨vs,b,a⟩:=h;exact⟨vs,b,cZ cs _ (by simpa only[eM]using hn) a⟩
 | .tuple cs,v,hn,h=>by
  rw[VR]at h ⊢;have⟨vs,b,a⟩:=h;exact⟨vs,b,cZ cs _ (by simpa only[eM]using hn) a⟩
 | .clo fn f c,v,hn,h=>by
  rw[VR]at h ⊢;simp only[eM,Bool.and_eq_true]at hn;have⟨d,cs,b,a,e⟩:=h;exact⟨d,cs,b,cZ f _ hn.1 a,cZ c _ hn.2 e⟩
 | .hptr ..,v,hn,h=>by simp only[eM]at hn; cases hn
 | .hs ..,v,hn,h=>by simp only[eM]at hn; cases hn
 | .junk,v,hn,h=>by simp only[eM]at hn; cases hn
def cZ:∀ (ps:List PV) (vs:List Value),eM.noRefs ps=true->VRs w G μ ps vs->VRs w G aH ps vs
 | [],vs,_,h=>by rw[VRs]at h ⊢; exact h
 | p::ps,vs,hn,h=>by
  rw[VRs]at h ⊢;simp only[eM.noRefs,Bool.and_eq_true]at hn;have⟨x,xs,b,a,c⟩:=h;exact⟨x,xs,b,IV p x hn.1 a,cZ ps xs hn.2 c⟩
end
def Mono.refl w G μ:Mono w G μ w G μ:=⟨λ_ h=>⟨h,rfl⟩,λ_ _ h=>h,λ_ _ h=>h,λ_ _ h=>h,λ_ _ h=>h,λ_ _ _=>rfl⟩
def Mono.trans {w'' G'' μ''}(h:Mono w G μ w' G' μ')(k:Mono w' G' μ' w'' G'' μ''):Mono w G μ w'' G'' μ'' :=⟨λb a=>⟨(k.good b (h.good b a).1).1,((k.good b (h.good b a).1).2).trans (h.good b a).2⟩,λr b c=>k.map r b (h.map r b c),λr n c=>k.len r n (h.len r n c),λb n a=>k.room b n (h.room b n a),λj b a=>k.row j b (h.row j b a),λr b c=>(k.sh r b (h.map r b c)).trans (h.sh r b c)⟩
def VRs.length:∀ {ps vs},VRs w G μ ps vs->ps.length=vs.length
 | [],vs,h=>by rw[h]; rfl
 | p::ps,vs,h=>by obtain⟨x,xs,rfl,_,a⟩:=h; simp[VRs.length a]
def VRs.get:∀ {ps vs} {i:Nat} {p},VRs w G μ ps vs->ps[i]?=some p->∃ v,vs[i]?=some v/\VR w G μ p v
 | [],vs,i,p,h,hp=>W
 | q::ps,vs,i,p,h,hp=>by
  obtain⟨x,xs,rfl,b,a⟩:=h;cases i with
  | zero=>grind
  | succ i=>simpa using VRs.get a W
def VRs.append:∀ {ps qs vs us},VRs w G μ ps vs->VRs w G μ qs us->VRs w G μ (ps++qs) (vs++us)
 | [],qs,vs,us,h,k=>by subst h; grind
 | p::ps,qs,vs,us,h,k=>by
  obtain⟨x,xs,rfl,a,b⟩:=h;exact⟨x,xs++us,rfl,a,VRs.append b k⟩
def VRs.drop:∀ {ps vs} n,VRs w G μ ps vs->VRs w G μ (ps.drop n) (vs.drop n)
 | ps,vs,0,h=>h
 | [],vs,n+1,h=>by subst h; rfl
 | p::ps,vs,n+1,h=>by
  obtain⟨x,xs,rfl,b,a⟩:=h;exact VRs.drop n a
def VRs.take:∀ {ps vs} n,VRs w G μ ps vs->VRs w G μ (ps.take n) (vs.take n)
 | ps,vs,0,h=>by rfl
 | [],vs,n+1,h=>by subst h; rfl
 | p::ps,vs,n+1,h=>by
  obtain⟨x,xs,rfl,a,b⟩:=h;exact⟨x,_,rfl,a,VRs.take n b⟩
def VRs.lits:∀ vs,VRs w G μ (vs.map .lit) vs
 | []=>by rfl
 | v::vs=>⟨v,vs,rfl,by rfl,VRs.lits vs⟩
def aT.get:∀ {ps b off i p},aT w G μ b off ps->ps[i]?=some p->∃ v,w.cell? ⟨b,off+i,none⟩=some v/\VR w G μ p v
 | [],b,off,i,p,h,hp=>W
 | q::ps,b,off,i,p,h,hp=>by
  cases i with
  | zero=>simp at hp; subst hp; exact h.1
  | succ i=>have:=aT.get h.2 (by simpa using hp); grind
def aT.mk:∀ {ps b off},(∀ i p,ps[i]?=some p->∃ v,w.cell? ⟨b,off+i,none⟩=some v/\VR w G μ p v)->aT w G μ b off ps
 | [],b,off,h=>by trivial
 | q::ps,b,off,h=>by
  refine⟨h 0 q rfl,aT.mk λi p hp=>?_⟩;have:=h (i+1) p W;grind
def aT.drop {ps b off} n (h:aT w G μ b off ps):aT w G μ b (off+n) (ps.drop n) :=
 aT.mk λi p hp=>by
  rw[List.getElem?_drop]at hp;have:=h.get hp;grind
def aT.take {ps b off} n (h:aT w G μ b off ps):aT w G μ b off (ps.take n) :=
 aT.mk λi p hp=>by
  rw[List.getElem?_take]at hp;split at hp
  ·exact h.get hp
  grind
def aT.sub {ps b off} n m (h:aT w G μ b off ps):aT w G μ b (off+n) ((ps.drop n).take m):=(h.drop n).take m
def aT.values:∀ {ps:List PV} {b off:Nat},aT w G μ b off ps->∃ vs,VRs w G μ ps vs/\∀ i (h:i<vs.length),w.cell? ⟨b,off+i,none⟩=some vs[i]
 | [],b,off,h=>⟨[],by rw[VRs],λi h=>by simp at h⟩
 | p::ps,b,off,h=>by
  have⟨⟨v,f,a⟩,c⟩:=h;have⟨vs,d,e⟩:=aT.values c;refine⟨v::vs,by rw[VRs]; exact⟨v,vs,rfl,a,d⟩,λi hi=>?_⟩;grind
end
def Ty.plain:Ty->Bool| .hnd _=>false| .rows _=>false| .list t=>t.plain| .prod a b=>a.plain&&b.plain| _=>true
def gP:PV->Bool| .row ..|.rp ..|.mp _=>false| .vals cs _ _=>noRows cs| .iptr cs=>noRows cs| .agg cs=>noRows cs| .tuple cs=>noRows cs| .clo _ f c=>noRows f&&noRows c| .tl t _ _ _=>t.plain| .tp t _ _ _ _=>t.plain| _=>true
where noRows:List PV->Bool
 | []=>true
 | p::ps=>gP p&&noRows ps
def aLR:∀ {a b},gP.noRows a=true->gP.noRows b=true->gP.noRows (a++b)=true
 | [],_,_,h=>h
 | p::a,b,h,k=>by
  simp only[List.cons_append,gP.noRows,Bool.and_eq_true]at h ⊢;exact⟨h.1,aLR h.2 k⟩
def a3Q:∀ {a} n,gP.noRows a=true->gP.noRows (a.drop n)=true
 | a,0,h=>h
 | [],n+1,h=>h
 | p::a,n+1,h=>by
  simp only[gP.noRows,Bool.and_eq_true]at h;exact a3Q n h.2
def aFS:∀ t x,t.plain=true->gP.noRows (enc t x)=true
 | .int _,_,_=>rfl
 | .bool,_,_=>rfl
 | .str,_,_=>rfl
 | .smap,_,_=>rfl
 | .list t,_,h=>by simp only[enc,gP.noRows,Bool.and_true]; exact h
 | .prod a b,(x,y),h=>by
  simp only[Ty.plain,Bool.and_eq_true]at h;exact aLR (aFS a x h.1) (aFS b y h.2)
 | .hnd _,_,h=>by cases h
 | .rows _,_,h=>by rfl
def IW t (h:t.plain=true):∀ l ,gP.noRows (aI t l)=true| []=>rfl| x::l=>by exact aLR (aFS t x h) (IW t h l)
section
set_option linter.unusedSectionVars false
variable {w:World} {G G':Gd} (hG:∀ b,G b->G' b)
include hG
mutual
def XU:∀ (μ:Mp) (p:PV) (v:Value),gP p=true->VR w G μ p v->VR w G' μ p v
 | _,.lit u,v,_,hv=>by rw[VR]at hv ⊢; exact hv
 | _,.vals cs n cap,v,hn,hv=>by
  rw[VR]at hv ⊢;have⟨ao,c,a,d,g,e⟩:=hv;refine⟨ao,c,a,d,g,?_⟩;rcases e with e|⟨b,off,h4,h5,h6⟩
  ·exact .inl e
  ·exact .inr ⟨b,off,h4,hG b h5,D8 _ _ _ cs (by simpa only[gP]using hn) h6⟩
 | _,.iptr cs,v,hn,hv=>by
  rw[VR]at hv ⊢;have⟨b,off,a,d,e⟩:=hv;exact⟨b,off,a,hG b d,D8 _ _ _ cs (by simpa only[gP]using hn) e⟩
 | _,.hptr ..,v,_,hv=>by rw[VR]at hv ⊢; exact hv
 | _,.hs ..,v,_,hv=>by rw[VR]at hv ⊢; exact hv
 | μ,.agg cs,v,hn,hv=>by
  rw[VR]at hv ⊢;have⟨vs,a,d⟩:=hv;exact⟨vs,a,CC μ cs _ (by simpa only[gP]using hn) d⟩
 | μ,.tuple cs,v,hn,hv=>by
  rw[VR]at hv ⊢;have⟨vs,a,d⟩:=hv;exact⟨vs,a,CC μ cs _ (by simpa only[gP]using hn) d⟩
 | μ,.clo fn f c,v,hn,hv=>by
  rw[VR]at hv ⊢;simp only[gP,Bool.and_eq_true]at hn;have⟨s,cs,a,d,e⟩:=hv;exact⟨s,cs,a,CC μ f _ hn.1 d,CC μ c _ hn.2 e⟩
 | _,.junk,v,_,hv=>by rw[VR]; trivial
 | _,.tl t l cap (.vals cs n c0),v,hn,hv=>by
  rw[VR]at hv ⊢;have⟨a,d⟩:=hv;have e:cs=aI t l:=by cases d; rfl
  refine⟨?_,d⟩;rw[VR]at a ⊢;have⟨ao,c,q,m,g,j⟩:=a;refine⟨ao,c,q,m,g,?_⟩;rcases j with j|⟨b,off,q4,q5,q6⟩
  ·exact .inl j
  ·exact .inr ⟨b,off,q4,hG b q5,D8 _ _ _ cs (by rw[e]; exact IW t hn l) q6⟩
 | _,.tp t l i off (.iptr cs),v,hn,hv=>by
  rw[VR]at hv ⊢;have⟨a,d,r⟩:=hv;have e:cs=(aI t l).drop (i*t.size+off):=by cases d; rfl
  refine⟨?_,d,r⟩;rw[VR]at a ⊢;have⟨b,o,q,m,j⟩:=a;exact⟨b,o,q,hG b m,D8 _ _ _ cs (by rw[e]; exact a3Q _ (IW t hn l)) j⟩
 | _,.tl t l cap (.lit _),v,_,hv|_,.tl t l cap (.iptr _),v,_,hv|_,.tl t l cap (.hptr ..),v,_,hv|_,.tl t l cap (.hs ..),v,_,hv|_,.tl t l cap (.agg _),v,_,hv|_,.tl t l cap (.tuple _),v,_,hv
 | _,.tl t l cap (.clo ..),v,_,hv|_,.tl t l cap .junk,v,_,hv|_,.tl t l cap (.tl ..),v,_,hv|_,.tl t l cap (.tp ..),v,_,hv|_,.tl t l cap (.own ..),v,_,hv|_,.tl t l cap (.op ..),v,_,hv|_,.tl t l cap (.win ..),v,_,hv
 | _,.tl t l cap (.row ..),v,_,hv|_,.tl t l cap (.rp ..),v,_,hv|_,.tl t l cap (.mp _),v,_,hv|_,.tl t l cap (.tm _),v,_,hv|_,.tl t l cap (.qs ..),v,_,hv=>by rw[VR]at hv; exact absurd hv.2 (by intro h; cases h)
 | _,.tp t l i off (.lit _),v,_,hv|_,.tp t l i off (.vals ..),v,_,hv|_,.tp t l i off (.hptr ..),v,_,hv|_,.tp t l i off (.hs ..),v,_,hv|_,.tp t l i off (.agg _),v,_,hv|_,.tp t l i off (.tuple _),v,_,hv
 | _,.tp t l i off (.clo ..),v,_,hv|_,.tp t l i off .junk,v,_,hv|_,.tp t l i off (.tl ..),v,_,hv|_,.tp t l i off (.tp ..),v,_,hv|_,.tp t l i off (.own ..),v,_,hv|_,.tp t l i off (.op ..),v,_,hv|_,.tp t l i off (.win ..),v,_,hv
 | _,.tp t l i off (.row ..),v,_,hv|_,.tp t l i off (.rp ..),v,_,hv|_,.tp t l i off (.mp _),v,_,hv|_,.tp t l i off (.tm _),v,_,hv|_,.tp t l i off (.qs ..),v,_,hv=>by rw[VR]at hv; exact absurd hv.2.1 (by intro h; cases h)
 | _,.own ..,v,_,hv=>by rw[VR]at hv ⊢; exact hv
 | _,.qs ..,v,_,hv=>by rw[VR]at hv ⊢; exact hv
 | _,.op ..,v,_,hv=>by rw[VR]at hv ⊢; exact hv
 | _,.win ..,v,_,hv=>by rw[VR]at hv ⊢; exact hv
 | _,.row ..,v,h,hv=>by simp only[gP]at h; cases h
 | _,.rp ..,v,h,hv=>by simp only[gP]at h; cases h
 | _,.mp _,v,h,hv=>by simp only[gP]at h; cases h
 | _,.tm _,v,_,hv=>by
  rw[VR]at hv ⊢;have⟨b,es,k,a,d,e⟩:=hv;exact⟨b,es,k,a,hG b d,e⟩
def CC:∀ (μ:Mp) (ps:List PV) (vs:List Value),gP.noRows ps=true->VRs w G μ ps vs->VRs w G' μ ps vs
 | _,[],vs,_,hv=>by rw[VRs]at hv ⊢; exact hv
 | μ,p::ps,vs,hn,hv=>by
  rw[VRs]at hv ⊢;simp only[gP.noRows,Bool.and_eq_true]at hn;have⟨x,xs,b,a,c⟩:=hv;exact⟨x,xs,b,XU μ p x hn.1 a,CC μ ps xs hn.2 c⟩
def D8:∀ (μ:Mp) (b off:Nat) (ps:List PV),gP.noRows ps=true->aT w G μ b off ps->aT w G' μ b off ps
 | _,_,_,[],_,_=>by rw[aT]; trivial
 | μ,b,off,p::ps,hn,hv=>by
  rw[aT]at hv ⊢;simp only[gP.noRows,Bool.and_eq_true]at hn;have⟨⟨v,c,a⟩,d⟩:=hv;exact⟨⟨v,c,XU μ p v hn.1 a⟩,D8 μ b (off+1) ps hn.2 d⟩
end
end
def Gd.bare (G:Gd):Gd:=⟨G.ok,λ_=>none⟩
def Gd.with (G' G:Gd):Gd:=⟨G'.ok,G.row⟩
def Gd.of (g:Nat->Prop):Gd:=⟨g,λ_=>none⟩
def a6L {w g G}(h:∀ b,g b->G b){μ}:Mono w (Gd.of g) μ w G μ:=⟨λb a=>⟨h b a,rfl⟩,λ_ _ h=>h,λ_ _ h=>h,λ_ _ h=>h,λ_ _ h=>(by cases h),λ_ _ _=>rfl⟩
structure Tg where
 t:Ty
 l:List t.den
structure Blk where
 cells:List PV
 ty:TypeId
 grown:Bool
 frozen:Bool
 tag:Option Tg
abbrev Heap:=List (Option Blk)
abbrev RL(w:World):Nat->Prop:=λb=>w.heap.size<=b
def aHV:TypeId:=1000000
def bDE(w:World) (G:Gd) (ty:TypeId) (b:Nat) (cs:List PV):Prop :=(ty≠aHV/\∃ c,w.heap[b]?=some (.cells c ty (0,0))/\aT w G aH b 0 cs)\/(ty=aHV/\∃ es clk,w.heap[b]?=some (.map es clk)/\cs=es.toList.map (λe=>PV.lit e.key)/\∀ e∈es.toList,e.val=.bool true)
def bDE.mono {w w' G G' ty b cs}(h:bDE w G ty b cs)(m:Mono w G aH w' G' aH)(a:w'.heap[b]?=w.heap[b]?):bDE w' G' ty b cs:=by
 rcases h with ⟨h0,c,h1,h2⟩|⟨h1,es,clk,h2,h3⟩;exact .inl ⟨h0,c,a.trans h1,aT.mono m a 0 _ h2⟩;exact .inr ⟨h1,es,clk,a.trans h2,h3⟩
def bDE.cells {w G ty b n cs}(h:bDE w G ty b cs)(a:ty≠aHV\/Room w b n):∃ c,w.heap[b]?=some (.cells c ty (0,0))/\aT w G aH b 0 cs:=by
 rcases h with h|⟨h1,es,clk,h2,_⟩;grind;rcases a with a|⟨c,t,fr,h3,_⟩;grind;grind
structure BU (n0:Nat->Prop) (G:Gd) (μ:Mp) (H:Heap) (w:World):Prop where
 inj:∀ i j b,G.row i=some b->G.row j=some b->i=j
 sep:∀ j b,G.row j=some b->b<w.heap.size/\n0 b/\¬ G b/\∀ r k,H[r]?=some (some k)->k.frozen=false->μ.loc r≠some b
 cel:∀ j b,G.row j=some b->(∃ c t fr,w.heap[b]?=some (.cells c t fr))\/∃ es clk,w.heap[b]?=some (.map es clk)
 arn:∀ r k t l,H[r]?=some (some k)->k.grown=false->k.tag=some ⟨.rows t,l⟩->μ.loc r=none/\(∀ j,l.length<=j->G.row j=none)/\∀ j row,l[j]?=some row->(row=[]/\k.ty≠aHV)\/∃ b,G.row j=some b/\bDE w G k.ty b (aI t row)
 one:∀ (r s:Nat) (k k':Blk) (t:Ty) (l:List (List t.den)) (t':Ty) (l':List (List t'.den)),H[r]?=some (some k)->k.grown=false->k.tag=some ⟨.rows t,l⟩->H[s]?=some (some k')->k'.grown=false->k'.tag=some ⟨.rows t',l'⟩->r=s
structure aX (n0:Nat->Prop) (G:Gd) (μ:Mp) (H:Heap) (w:World):Prop where
 blk:∀ r k b,H[r]?=some (some k)->μ.loc r=some b->∃ c,w.heap[b]?=some (.cells c k.ty (0,0))/\aT w G μ b (μ.sh r) k.cells/\(k.grown=false->c.size=k.cells.length)/\(k.frozen=true->G b)/\(k.frozen=false->n0 b/\¬ G b)
 tags:∀ r k g,H[r]?=some (some k)->k.tag=some g->k.cells=aI g.t g.l/\μ.len r=some g.l.length
 inj:∀ r s k l b,H[r]?=some (some k)->H[s]?=some (some l)->k.frozen=false->l.frozen=false->μ.loc r=some b->μ.loc s=some b->r=s
 lt:Lt w G.ok
 top:∀ r,H.length<=r->μ.loc r=none/\μ.len r=none
 base:∀ b,w.heap.size<=b->n0 b
 rows:BU n0 G μ H w
structure Ext (n0:Nat->Prop) (w:World) (G:Gd) (μ:Mp) (w':World) (G':Gd) (μ':Mp):Prop extends Mono w G μ w' G' μ' where
 os:w'.os=w.os
 tape:w'.tape=w.tape
 output:w'.output=w.output
 size:w.heap.size<=w'.heap.size
 old:∀ b,b<w.heap.size->¬ n0 b->w'.heap[b]?=w.heap[b]?
 new:∀ b,G' b->G b\/n0 b
def Ext.refl n0 w G μ:Ext n0 w G μ w G μ :=⟨Mono.refl _ _ _,rfl,rfl,rfl,Nat.le_refl _,λ_ _ _=>rfl,λ_ h=>.inl h⟩
def Ext.trans {n0 w w' w'' G G' G'' μ μ' μ''}(h:Ext n0 w G μ w' G' μ')(k:Ext n0 w' G' μ' w'' G'' μ''):Ext n0 w G μ w'' G'' μ'' :=⟨h.toMono.trans k.toMono,k.os.trans h.os,k.tape.trans h.tape,k.output.trans h.output,Nat.le_trans h.size k.size,λb a hn=>(k.old b (Nat.lt_of_lt_of_le a h.size) hn).trans (h.old b a hn),λb a=>by rcases k.new b a with c|c; exact h.new b c; grind⟩
section
variable {n0:Nat->Prop} {w:World} {G:Gd} {μ:Mp} {H:Heap}
def upd(μ:Mp) (r:Nat) (b n:Option Nat) (o:Nat:=0):Mp:=⟨λs=>if s=r then b else μ.loc s,λs=>if s=r then n else μ.len s,λs=>if s=r then o else μ.sh s⟩
variable {o0:Nat}
def mH μ r b n:(upd μ r b n o0).loc r=b:=by simp[upd]
def rZ μ r b n:(upd μ r b n o0).len r=n:=by simp[upd]
def GO μ r b n:(upd μ r b n o0).sh r=o0:=by simp[upd]
def PE {μ r s b n}(h:s≠r):(upd μ r b n o0).loc s=μ.loc s/\(upd μ r b n o0).len s=μ.len s:=by simp[upd,h]
def a2Q {μ r s b n}(h:s≠r):(upd μ r b n o0).sh s=μ.sh s:=by simp[upd,h]
def SE {w H}(c:aX n0 G μ H w) b n (o0 :=0):Ext n0 w G μ w G (upd μ H.length b n o0):={
 good:=λ_ h=>⟨h,rfl⟩
 map:=λs d a=>by rw[(PE _).1]; exact a; rintro rfl; rw[(c.top _ (Nat.le_refl _)).1]at a; cases a
 len:=λs d a=>by rw[(PE _).2]; exact a; rintro rfl; rw[(c.top _ (Nat.le_refl _)).2]at a; grind
 sh:=λs d a=>a2Q (by rintro rfl; rw[(c.top _ (Nat.le_refl _)).1]at a; grind)
 room:=λ_ _ h=>h
 row:=λ_ _ h=>h
 os:=rfl
 tape:=rfl
 output:=rfl
 size:=Nat.le_refl _
 old:=λ_ _ _=>rfl
 new:=λ_ h=>.inl h }
def gN {w:World}{b o}(h:w.heap[b]?=some o):b<w.heap.size:=(Array.getElem?_eq_some_iff.1 h).1
def aX.vB (a:aX n0 G μ H w){r k b}(d:H[r]?=some (some k))(e:μ.loc r=some b):b<w.heap.size:=by
 have⟨c,f,_⟩:=a.blk r k b d e;grind
def OG(d:aX n0 G μ H w) o b n:Ext n0 w G μ (w.alloc o) G (upd μ H.length b n):={
 good:=λc a=>⟨a,Below.heap_alloc _ _ _ (d.lt c a)⟩
 map:=(SE d b n).map
 len:=(SE d b n).len
 sh:=(SE d b n).sh
 room:=λc n a=>by
  have⟨cs,t,g,e,f⟩:=a;exact⟨cs,t,g,by rw[Below.heap_alloc _ _ _ (gN e)]; grind,f⟩
 row:=λ_ _ h=>h
 os:=rfl
 tape:=rfl
 output:=rfl
 size:=R
 old:=λc a _=>Below.heap_alloc _ _ _ a
 new:=λc a=>.inl a }
def aTN k:Mono w G μ { w with drawn:=k } G μ:=⟨λ_ h=>⟨h,rfl⟩,λ_ _ h=>h,λ_ _ h=>h,λ_ _ h=>h,λ_ _ h=>h,λ_ _ _=>rfl⟩
def aNJ {k}(a:w.drawn<=k):Ext n0 w G μ { w with drawn:=k } G μ:=⟨aTN k,rfl,rfl,rfl,Nat.le_refl _,λ_ _ _=>rfl,λ_ h=>.inl h⟩
def BU.step (h:BU n0 G μ H w) {w':World} {G':Gd} {μ':Mp} {H':Heap} (m:Mono w G aH w' G' aH) (y:w.heap.size<=w'.heap.size) (a:∀ j,G'.row j=G.row j)
  (hold:∀ j b,G.row j=some b->w'.heap[b]?=w.heap[b]?/\(G' b->G b)/\∀ r k,H'[r]?=some (some k)->k.frozen=false->μ'.loc r=some b->∃ s k0,H[s]?=some (some k0)/\k0.frozen=false/\μ.loc s=some b)
  (d:∀ r k t l,H'[r]?=some (some k)->k.grown=false->k.tag=some ⟨.rows t,l⟩->∃ k0,H[r]?=some (some k0)/\k0.grown=k.grown/\k0.tag=k.tag/\k0.ty=k.ty/\μ'.loc r=μ.loc r):BU n0 G' μ' H' w' where
 inj i j b c e:=h.inj i j b (by rw[<- a]; exact c) (by rw[<- a]; exact e)
 sep j b c:=by
  rw[a]at c;have⟨f,a2,a3,a4⟩:=h.sep j b c;grind
 cel j b c:=by
  rw[a]at c;rw[(hold j b c).1];exact h.cel j b c
 arn r k t l hr hg ht:=by
  have⟨k0,c,x,u,q,e⟩:=d r k t l hr hg ht;have⟨f,a2,a3⟩:=h.arn r k0 t l c (by rw[x]; exact hg) (by rw[u]; exact ht);refine⟨by rw[e]; exact f,λj o=>by rw[a]; exact a2 j o,λj row o=>?_⟩;rw[<- q];rcases a3 j row o with a4|⟨b,g,n⟩
  ·grind
  ·exact .inr ⟨b,by rw[a]; exact g,n.mono m (hold j b g).1⟩
 one r s k k' t l t' l' c g1 t1 e g2 t2:=by
  have⟨k0,f,a2,a3,_,_⟩:=d r k t l c g1 t1;have⟨v,g,n,p,_,_⟩:=d s k' t' l' e g2 t2;exact h.one r s k0 v t l t' l' f (by rw[a2]; exact g1) (by rw[a3]; exact t1) g (by rw[n]; exact g2) (by rw[p]; exact t2)
def BU.bZP (h:BU n0 G μ H w) {μ':Mp} (hm:∀ r,μ'.loc r=none\/μ'.loc r=μ.loc r):BU n0 G μ' H w where
 inj:=h.inj
 sep j b hj:=by
  have⟨a,a2,a3,a4⟩:=h.sep j b hj;grind
 cel:=h.cel
 arn r k t l hr hg ht:=by
  have⟨a,a2⟩:=h.arn r k t l hr hg ht;grind
 one:=h.one
def BU.none n0 G (hG:∀ j,G.row j=none) μ {H} w (hH:∀ (r:Nat) k,H[r]?=some (some k)->k.grown=true\/k.tag=none\/∃ g ,k.tag=some g/\∀ t,g.t≠.rows t):BU n0 G μ H w where
 inj i j b h:=W
 sep j b h:=W
 cel j b h:=W
 arn r k t l hr hg ht:=W
 one r s k k' t l t' l' hr hg ht:=W
def BU.bZ3 (h:BU n0 G μ H w) {μ':Mp} {H':Heap} (φ:Nat->Nat) (e:∀ r s,φ r=φ s->r=s) (d:∀ r k,H'[r]?=some (some k)->H[φ r]?=some (some k)/\μ'.loc r=μ.loc (φ r)):BU n0 G μ' H' w where
 inj:=h.inj
 sep j b hj:=by
  have⟨f,a2,a3,a4⟩:=h.sep j b hj;grind
 cel:=h.cel
 arn r k t l hr hg ht:=by
  have⟨a,c⟩:=d r k hr;rw[c];exact h.arn _ k t l a hg ht
 one r s k k' t l t' l' a g1 t1 c g2 t2:=e r s (h.one _ _ k k' t l t' l' (d r k a).1 g1 t1 (d s k' c).1 g2 t2)
def BU.rel (h:BU n0 G μ H w) {μ':Mp} {H':Heap} (φ:Nat->Nat->Prop) (x:∀ r d s,φ r s->φ d s->r=d)
  (c:∀ r k',H'[r]?=some (some k')->∃ s k,φ r s/\H[s]?=some (some k)/\k.frozen=k'.frozen/\k.grown=k'.grown/\k.tag=k'.tag/\k.ty=k'.ty/\μ'.loc r=μ.loc s):BU n0 G μ' H' w where
 inj:=h.inj
 sep j b hj:=by
  have⟨e,a2,a3,a4⟩:=h.sep j b hj;grind
 cel:=h.cel
 arn r k t l hr hg ht:=by
  have⟨s,k0,_,a,_,m,q,f,o⟩:=c r k hr;rw[o,<- f];exact h.arn _ k0 t l a (by rw[m]; exact hg) (by rw[q]; exact ht)
 one r s k k' t l t' l' a g1 t1 h2 g2 t2:=by
  have⟨g,n,y,e,_,a3,a4,_,_⟩:=c r k a;have⟨s1,u,p2,p,_,i,v,_,_⟩:=c s k' h2;have:=h.one g s1 n u t l t' l' e (by rw[a3]; exact g1) (by rw[a4]; exact t1) p (by rw[i]; exact g2) (by rw[v]; exact t2);grind
def BU.aXW (h:BU n0 G μ H w) {n1:Nat->Prop} (hn:∀ j b,G.row j=some b->n0 b->n1 b):BU n1 G μ H w where
 inj:=h.inj
 sep j b hj:=by
  have⟨a,a2,a3⟩:=h.sep j b hj;grind
 cel:=h.cel
 arn:=h.arn
 one:=h.one
def bTL(k:Blk):Prop:=∀ t l,k.grown=false->k.tag=some ⟨.rows t,l⟩->False
def ZI(h:aX n0 G μ H w) k:aX n0 G μ H { w with drawn:=k } where
 rows:=h.rows.step (aTN k) (Nat.le_refl _) (λ_=>rfl) (λ_ _ _=>⟨rfl,id,λr k a e d=>⟨r,k,a,e,d⟩⟩) (λr k _ _ a _ _=>⟨k,a,rfl,rfl,rfl,rfl⟩)
 blk r b l a d:=by
  have⟨c,f,g,j⟩:=h.blk r b l a d;exact⟨c,f,aT.mono (aTN k) rfl _ _ g,j⟩
 tags:=h.tags
 inj:=h.inj
 lt:=h.lt.step (λb i=>⟨i,rfl⟩) h.lt.lt
 top:=h.top
 base:=h.base
def aX.keep {w':World} {G':Gd} (h:aX n0 G μ H w) (e:Ext n0 w G μ w' G' μ) (hr:(∀ j,G'.row j=G.row j)/\∀ j b,G.row j=some b->w'.heap[b]?=w.heap[b]?/\(G' b->G b)) (hb:∀ r k b,H[r]?=some (some k)->μ.loc r=some b->w'.heap[b]?=w.heap[b]?/\(G' b->G b))
  (hlt:∀ b,G' b->b<w'.heap.size):aX n0 G' μ H w' where
 blk r k b hr h1:=by
  obtain⟨c,h2,h3,h4,h5,h6⟩:=h.blk r k b hr h1;obtain⟨e1,e2⟩:=hb r k b hr h1;exact⟨c,e1.trans h2,aT.mono e.toMono e1 _ _ h3,h4,λhf=>(e.good b (h5 hf)).1,λhf=>⟨(h6 hf).1,λhg=>(h6 hf).2 (e2 hg)⟩⟩
 rows:=h.rows.step e.toMono.aH e.size hr.1 (λj b hj=>⟨(hr.2 j b hj).1,(hr.2 j b hj).2,λr k h1 h2 h3=>⟨r,k,h1,h2,h3⟩⟩) (λr k _ _ h1 _ _=>⟨k,h1,rfl,rfl,rfl,rfl⟩)
 tags:=h.tags
 inj:=h.inj
 lt:=h.lt.step e.good hlt
 top:=h.top
 base:=λb hb=>h.base b (Nat.le_trans e.size hb)
def aTD {k}:∀ s a,(H++[some k])[s]?=some (some a)->(s=H.length/\a=k)\/(s<H.length/\H[s]?=some (some a)):=W
def VG(h:aX n0 G μ H w) {w' ob on} (e:Ext n0 w G μ w' G (upd μ H.length ob on o0)) {k} (d:bTL k) (a:∀ j b,G.row j=some b->w'.heap[b]?=w.heap[b]?)
  (i:∀ j b,G.row j=some b->k.frozen=false->ob≠some b):BU n0 G (upd μ H.length ob on o0) (H++[some k]) w':=by
 refine h.rows.step e.toMono.aH e.size (λ_=>rfl) (λj b n=>⟨a j b n,id,λr c f o g=>?_⟩) (λr c t l f m ht=>?_);rcases aTD r c f with ⟨rfl,rfl⟩|⟨hlt,hr'⟩;rw[mH]at g;grind;rw[(PE Z).1]at g;grind;rcases aTD r c f with ⟨rfl,rfl⟩|⟨hlt,hr'⟩;exact(d t l m ht).elim;exact⟨c,hr',rfl,rfl,rfl,by rw[(PE Z).1]⟩
def SG(f:aX n0 G μ H w) {w':World} {i on:Option Nat} (e:Ext n0 w G μ w' G (upd μ H.length i on o0)) (k:Blk) (hold:∀ r k b,H[r]?=some (some k)->μ.loc r=some b->w'.heap[b]?=w.heap[b]?)
  (p:∀ b,i=some b->∃ c,w'.heap[b]?=some (.cells c k.ty (0,0))/\aT w' G (upd μ H.length i on o0) b o0 k.cells/\(k.grown=false->c.size=k.cells.length)/\(k.frozen=true->G b)/\(k.frozen=false->n0 b/\¬ G b))
  (u:∀ g,k.tag=some g->k.cells=aI g.t g.l/\on=some g.l.length) (o:∀ r k' b,H[r]?=some (some k')->k'.frozen=false->μ.loc r=some b->i≠some b)
  (h:BU n0 G (upd μ H.length i on o0) (H++[some k]) w'):aX n0 G (upd μ H.length i on o0) (H++[some k]) w':=by
 have key:=aTD (H:=H) (k:=k);refine⟨?_,?_,?_,?_,?_,λb d=>f.base b (Nat.le_trans e.size d),h⟩;intro s a b j d;rcases key s a j with ⟨rfl,rfl⟩|⟨hl,hs'⟩;rw[mH]at d;rw[GO];grind;rw[a2Q Z];rw[(PE Z).1]at d;have⟨c,m,y,z⟩:=f.blk s a b hs' d;have v:=hold s a b hs' d;exact⟨c,v.trans m,aT.mono e.toMono v _ _ y,z⟩;intro s a g j B;rcases key s a j with ⟨rfl,rfl⟩|⟨hl,hs'⟩;rw[rZ];grind;rw[(PE Z).2];exact f.tags s a g hs' B;intro s1 s2 a q b x m f1 f2 m1 m2;rcases key s1 a x with ⟨rfl,rfl⟩|⟨C,n⟩ <;> rcases key s2 q m with ⟨rfl,rfl⟩|⟨l2,h2'⟩;rfl;rw[mH]at m1;rw[(PE Z).1]at m2;grind;rw[mH]at m2;rw[(PE Z).1]at m1;grind;rw[(PE Z).1]at m1 m2;exact f.inj s1 s2 a q b n h2' f1 f2 m1 m2;refine f.lt.step e.good λb d=>?_;exact Nat.lt_of_lt_of_le (f.lt b d) e.size;intro r A;simp only[List.length_append,List.length_cons,List.length_nil]at A;rw[(PE Z).1,(PE Z).2];exact f.top r Z
def QZ(a:aX n0 G μ H w) (c:Array Value) (k:Blk) {on:Option Nat} (A:∀ (i:Nat) (p:PV),k.cells[i]?=some p->∃ v:Value,c[i]?=some v/\VR w G μ p v) (z:k.grown=false->c.size=k.cells.length) (y:k.frozen=false)
  (d:∀ g,k.tag=some g->k.cells=aI g.t g.l/\on=some g.l.length) (q:bTL k:=by intro t l x o; first|(cases x; done)|(cases o; done)):aX n0 G (upd μ H.length (some w.heap.size) on) (H++[some k]) (w.alloc (.cells c k.ty)):=by
 have e:=OG a (.cells c k.ty) (some w.heap.size) on;have m:(w.alloc (.cells c k.ty)).heap[w.heap.size]?=some (.cells c k.ty (0,0)):=(by show (w.heap.push _)[w.heap.size]?=_;simp);refine SG a e k (λr k b s f=>Below.heap_alloc _ _ _ (a.vB s f)) ?_ d ?_ (VG a e q (λj b u=>Below.heap_alloc _ _ _ (a.rows.sep j b u).1) (λj b u _ n=>by cases n; exact Nat.lt_irrefl _ (a.rows.sep j _ u).1));rintro b f;cases f;refine⟨c,m,?_,z,λh=>(by rw[y]at h; cases h),λ_=>⟨a.base _ (Nat.le_refl _),λhG=>Nat.lt_irrefl _ (a.lt _ hG)⟩⟩;refine aT.mk λi p hp=>?_;have⟨v,x,o⟩:=A i p hp;refine⟨v,?_,VR.mono e.toMono p v o⟩;simp_all;intro r k' b s _ f n;cases n;exact Nat.lt_irrefl _ (a.vB s f)
def vY(a:aX n0 G μ H w) (k:Blk) {on:Option Nat} (c:∀ g,k.tag=some g->k.cells=aI g.t g.l/\on=some g.l.length) (e:bTL k:=by intro t l f h; first|(cases f; done)|(cases h; done)) :
  Ext n0 w G μ w G (upd μ H.length none on)/\aX n0 G (upd μ H.length none on) (H++[some k]) w :=
 ⟨SE a _ _,SG a (SE a _ _) k (λ_ _ _ _ _=>rfl) (λb i=>by cases i) c (λr k' b _ _ _ d=>by cases d) (VG a (SE a _ _) e (λ_ _ _=>rfl) (λ_ _ _ _ d=>by cases d))⟩
structure Z4 (w w':World) (b:Nat) (c':Array Value) (t:TypeId):Prop where
 at_:w'.heap[b]?=some (.cells c' t (0,0))
 other:∀ x,x≠b->w'.heap[x]?=w.heap[x]?
 os:w'.os=w.os
 tape:w'.tape=w.tape
 output:w'.output=w.output
 size:w'.heap.size=w.heap.size
 drawn:w'.drawn=w.drawn
def FD(f:aX n0 G μ H w) {r k} (i:H[r]?=some (some k)) (p:k.frozen=false) {b} (g:μ.loc r=some b) {c c'} (m:w.heap[b]?=some (.cells c k.ty (0,0)))
  {w' t} (a:Z4 w w' b c' t) (q:c'.size=c.size):Ext n0 w G μ w' G μ:=by
 have⟨c1,s,u,y,o,v⟩:=f.blk r k b i g;refine⟨⟨λx e=>⟨e,a.other x ?_⟩,λ_ _ h=>h,λ_ _ h=>h,?_,λ_ _ h=>h,λ_ _ _=>rfl⟩,a.os,a.tape,a.output,Nat.le_of_eq a.size.symm,λx _ e=>a.other x ?_,λ_ h=>.inl h⟩;grind;intro x n e;have⟨cs,j,l,g1,g2⟩:=e;by_cases d:x=b;subst d;rw[m]at g1; cases g1;exact⟨c',_,_,a.at_,by omega⟩;exact⟨cs,j,l,by rw[a.other x d]; omega,g2⟩;grind
def IB(f:aX n0 G μ H w) {r:Nat} {k k':Blk} (n:H[r]?=some (some k)) (u:k.frozen=false) {b:Nat} (m:μ.loc r=some b) {c c':Array Value} (M:w.heap[b]?=some (.cells c k.ty (0,0)))
  {w':World} (q:Z4 w w' b c' k'.ty) (x:c'.size=c.size) (C:k'.frozen=false) (X:aT w' G μ b (μ.sh r) k'.cells) (Y:k'.grown=false->c'.size=k'.cells.length)
  (J:∀ g,k'.tag=some g->k'.cells=aI g.t g.l/\μ.len r=some g.l.length) (F:∀ t l,k'.grown=false->k'.tag=some ⟨.rows t,l⟩->∃ D,k.grown=false/\k.tag=some ⟨.rows t,D⟩:=by intro t l N K; first|(cases N; done)|(cases K; done)):aX n0 G μ (H.set r (some k')) w':=by
 have e:=FD f n u m M q x;have⟨c1,K,h3,h4,Z,I⟩:=f.blk r k b n m;have B:r<H.length:=(List.getElem?_eq_some_iff.1 n).1;have v:∀ (s:Nat) (i:Blk),(H.set r (some k'))[s]?=some (some i)->(s=r/\i=k')\/(s≠r/\H[s]?=some (some i)):=zt;refine⟨?_,?_,?_,?_,?_,λb m=>f.base b (Nat.le_trans e.size m),?_⟩
 case refine_6 =>
  refine f.rows.step e.toMono.aH e.size (λ_=>rfl) (λj L U=>⟨q.other L ?_,id,λs i x T hl=>?_⟩) (λs i t l x E ht=>?_)
  ·rintro rfl;exact(f.rows.sep j L U).2.2.2 r k n u m
  ·grind
  ·rcases v s i x with ⟨rfl,rfl⟩|⟨_,hs'⟩
   ·have⟨D,S,P⟩:=F t l E ht;rw[(f.rows.arn s k t D n S P).1]at m;cases m
   ·grind
 ·intro s o p a hb2;by_cases d:r=s;subst d;rw[List.getElem?_set_self B]at a;cases a;rw[m]at hb2; cases hb2;exact⟨c',q.at_,X,Y,λh=>(by rw[C]at h; cases h),λ_=>I u⟩
  ·rw[List.getElem?_set_ne d]at a;have⟨c2,g2,g3,g4,g5,g6⟩:=f.blk s o p a hb2;have z:p≠b:=by
    rintro rfl;cases y:o.frozen with
    | false=>exact d (f.inj r s k o p n a u y m hb2)
    | true=>exact(I u).2 (g5 y)
   exact⟨c2,(q.other p z).trans g2,aT.mono e.toMono (q.other p z) _ _ g3,g4,g5,g6⟩
 intro s o g a hg2;by_cases d:r=s;grind;rw[List.getElem?_set_ne d]at a;exact f.tags s o g a hg2
 ·intro s1 s2 i o p A O f1 f2 m1 m2;have old:∀ (s:Nat) (i:Blk),(H.set r (some k'))[s]?=some (some i)->i.frozen=false->∃ k0,H[s]?=some (some k0)/\k0.frozen=false:=by
   intro s i A f1
   by_cases d:r=s
   ·subst d; exact⟨k,n,u⟩
   ·rw[List.getElem?_set_ne d]at A; exact⟨i,A,f1⟩
  have⟨W,V,f3⟩:=old s1 i A f1;have⟨Q,R,f4⟩:=old s2 o O f2;exact f.inj s1 s2 W Q p V R f3 f4 m1 m2
 refine f.lt.step (FD f n u m M q x).good λb m=>?_;rw[q.size]; exact f.lt b m;intro s a;rw[List.length_set]at a;exact f.top s a
def zI {H:Heap}{r s k1}(a:(H.set r none)[s]?=some (some k1)):H[s]?=some (some k1)/\s≠r:=W
def wB(c:aX n0 G μ H w) (r:Nat):aX n0 G μ (H.set r none) w :=⟨λs k b a=>c.blk s k b (zI a).1,λs k g a=>c.tags s k g (zI a).1,λs1 s2 h i b j e=>c.inj s1 s2 h i b (zI j).1 (zI e).1,c.lt,λs a=>c.top s (by simpa using a),c.base,c.rows.step (Mono.refl _ _ _) (Nat.le_refl _) (λ_=>rfl) (λ_ _ _=>⟨rfl,id,λs k a d f=>⟨s,k,(zI a).1,d,f⟩⟩) (λs k _ _ a _ _=>⟨k,(zI a).1,rfl,rfl,rfl,rfl⟩)⟩
def aCK(d:aX n0 G μ H w) {r:Nat} {k:Blk} (m:H[r]?=some (some k)) {b:Nat} (f:μ.loc r=some b) {on:Option Nat} (h:∀ g,k.tag=some g->k.cells=aI g.t g.l/\on=some g.l.length) :
  Ext n0 w G μ w G (upd μ H.length (some b) on (μ.sh r))/\aX n0 G (upd μ H.length (some b) on (μ.sh r)) (H.set r none++[some k]) w:=by
 have x:=wB d r;have hlen:(H.set r none).length=H.length:=R
 have e:=SE d (some b) on (μ.sh r);have n:Ext n0 w G μ w G (upd μ (H.set r none).length (some b) on (μ.sh r)):=by rw[hlen]; exact e
 refine⟨e,?_⟩;have:=SG x n k (λ_ _ _ _ _=>rfl) ?_ h ?_ (VG x n (λt l y q=>by rw[(d.rows.arn r k t l m y q).1]at f; cases f) (λ_ _ _=>rfl) (λj E D v u=>by cases u; exact(d.rows.sep j b D).2.2.2 r k m v f));grind;rintro z a;cases a;have⟨c,q,B,C⟩:=d.blk r k b m f;exact⟨c,q,aT.mono n.toMono rfl _ _ B,C⟩
 ·intro s k' z A v a u;cases u;have⟨i,o⟩:=zI A;cases p:k.frozen with
  | false=>exact o (d.inj s r k' k b i m v p a f)
  | true =>
   have⟨_,_,_,_,g5,_⟩:=d.blk r k b m f;have⟨_,_,_,_,_,g6⟩:=d.blk s k' b i a;grind
def aJZ(d:aX n0 G μ H w) {r:Nat} {k:Blk} (m:H[r]?=some (some k)) (o:k.frozen=false) :
  Ext n0 w G μ w (G.or λx=>μ.loc r=some x) μ/\aX n0 (G.or λx=>μ.loc r=some x) μ (H.set r (some { k with frozen:=true })) w:=by
 have z:r<H.length:=(List.getElem?_eq_some_iff.1 m).1;have e:Ext n0 w G μ w (G.or λx=>μ.loc r=some x) μ:=⟨⟨λ_ h=>⟨.inl h,rfl⟩,λ_ _ h=>h,λ_ _ h=>h,λ_ _ h=>h,λ_ _ h=>h,λ_ _ _=>rfl⟩,rfl,rfl,rfl,Nat.le_refl _,λ_ _ _=>rfl,λx i=>by
  rcases i with i|i
  ·grind
  ·have⟨_,_,_,_,_,q⟩:=d.blk r k x m i;exact .inr (q o).1⟩
 have key:∀ (s:Nat) (a:Blk),(H.set r (some { k with frozen:=true }))[s]?=some (some a)->(s=r/\a={ k with frozen:=true })\/(s≠r/\H[s]?=some (some a)):=W;refine⟨e,?_,?_,?_,?_,?_,d.base,?_⟩
 case refine_6 =>
  refine d.rows.step e.toMono.aH (Nat.le_refl _) (λ_=>rfl) (λj b F=>⟨rfl,?_,λs a f D J=>?_⟩) (λs a t l f p ht=>?_)
  ·rintro(h1|h1)
   ·exact h1
   ·exact absurd h1 ((d.rows.sep j b F).2.2.2 r k m o)
  ·grind
  ·grind
 intro s a b f n;rcases key s a f with ⟨rfl,rfl⟩|⟨hne,f⟩;have⟨c,v,A,B,I,q⟩:=d.blk s k b m n;exact⟨c,v,aT.mono e.toMono rfl _ _ A,B,λ_=>.inr n,λh=>by cases h⟩;have⟨c2,g2,g3,g4,g5,g6⟩:=d.blk s a b f n;refine⟨c2,g2,aT.mono e.toMono rfl _ _ g3,g4,λh=>.inl (g5 h),λh=>⟨(g6 h).1,?_⟩⟩;rintro(h'|h');grind;exact hne (d.inj s r a k b f m h o n h');intro s a g f p;rcases key s a f with ⟨rfl,rfl⟩|⟨hne,f⟩;exact d.tags s k g m p;exact d.tags s a g f p;intro s1 s2 a u E C y f1 f2 m1 m2;rcases key s1 a C with ⟨rfl,rfl⟩|⟨h1,h1'⟩;cases f1;rcases key s2 u y with ⟨rfl,rfl⟩|⟨v,h2'⟩;cases f2;exact d.inj s1 s2 a u E h1' h2' f1 f2 m1 m2;refine d.lt.step (λb n=>⟨.inl n,rfl⟩) ?_;rintro x (i|i);exact d.lt x i;exact d.vB m i;intro s f;exact d.top s (by simpa using f)
def bFP(f:aX n0 G μ H w) {j b:Nat} (g:G.row j=some b) {c c':Array Value} {t:TypeId} (m:w.heap[b]?=some (.cells c t (0,0))) {w':World} (a:Z4 w w' b c' t) (k:c'.size=c.size):Ext n0 w G μ w' G μ:=by
 have⟨s1,s2,p,o⟩:=f.rows.sep j b g;refine⟨⟨λx e=>⟨e,a.other x ?_⟩,λ_ _ h=>h,λ_ _ h=>h,?_,λ_ _ h=>h,λ_ _ _=>rfl⟩,a.os,a.tape,a.output,Nat.le_of_eq a.size.symm,λx _ e=>a.other x ?_,λ_ h=>.inl h⟩;grind;intro x n e;have⟨cs,i,l,g1,g2⟩:=e;by_cases d:x=b;subst d;rw[m]at g1; cases g1;exact⟨c',_,_,a.at_,by rw[k]; exact g2⟩;exact⟨cs,i,l,by rw[a.other x d]; exact g1,g2⟩;grind
def bXA(d:aX n0 G μ H w) {r k t} {l m:List (List t.den)} (J:H[r]?=some (some k)) (R:k.grown=false) (ht:k.tag=some ⟨.rows t,l⟩) {j b} (u:G.row j=some b) {c c'} (X:w.heap[b]?=some (.cells c k.ty (0,0)))
  {w'} (n:Z4 w w' b c' k.ty) (V:c'.size=c.size) (hl:m.length=l.length) (q:∀ i,i≠j->m[i]?=l[i]?) {row} (hj:m[j]?=some row) (hk:aT w' G aH b 0 (aI t row)) (hm:k.ty≠aHV) :
  aX n0 G μ (H.set r (some { k with cells:=aI (.rows t) m,tag:=some ⟨.rows t,m⟩ })) w':=by
 have e:=bFP d u X n V;have⟨s1,s2,s3,s4⟩:=d.rows.sep j b u;have⟨W,a2,a3⟩:=d.rows.arn r k t l J R ht;have Z:r<H.length:=(List.getElem?_eq_some_iff.1 J).1;have f:∀ (s:Nat) (a:Blk),(H.set r (some { k with cells:=aI (.rows t) m,tag:=some ⟨.rows t,m⟩ }))[s]?=some (some a)->(s=r/\a={ k with cells:=aI (.rows t) m,tag:=some ⟨.rows t,m⟩ })\/(s≠r/\H[s]?=some (some a)):=zt;refine⟨?_,?_,?_,?_,?_,λb u=>d.base b (Nat.le_trans e.size u),?_,?_,?_,?_,?_⟩;intro s p C h U;rcases f s p h with ⟨rfl,rfl⟩|⟨_,hs'⟩;grind;have⟨c2,g2,g3,g4,g5,g6⟩:=d.blk s p C hs' U;have q:C≠b:=zt;exact⟨c2,(n.other C q).trans g2,aT.mono e.toMono (n.other C q) _ _ g3,g4,g5,g6⟩;intro s p g h F;rcases f s p h with ⟨rfl,rfl⟩|⟨_,hs'⟩;cases F;exact⟨rfl,by rw[(d.tags s k _ J ht).2]; exact congrArg some hl.symm⟩;exact d.tags s p g hs' F;intro K L a p C e1 Y f1 f2 m1 m2;have old:∀ (s:Nat) (a:Blk),(H.set r (some { k with cells:=aI (.rows t) m,tag:=some ⟨.rows t,m⟩ }))[s]?=some (some a)->a.frozen=false->∃ k0,H[s]?=some (some k0)/\k0.frozen=false:=zt;have⟨k3,e3,f3⟩:=old K a e1 f1;have⟨k4,e4,f4⟩:=old L p Y f2;exact d.inj K L k3 k4 C e3 e4 f3 f4 m1 m2;refine d.lt.step (bFP d u X n V).good λb u=>?_;rw[n.size]; exact d.lt b u;intro s h;rw[List.length_set]at h;exact d.top s h;exact d.rows.inj;intro N o v;have⟨B,M,q3,q4⟩:=d.rows.sep N o v;refine⟨by rw[n.size]; exact B,M,q3,λs a A Q z=>?_⟩;rcases f s a A with ⟨rfl,rfl⟩|⟨_,hs'⟩;rw[W]at z; cases z;exact q4 s a hs' Q z;intro N o v;by_cases I:o=b;subst I; exact .inl ⟨_,_,_,n.at_⟩;rw[n.other o I]; exact d.rows.cel N o v
 ·intro s a t1 y A S E;rcases f s a A with ⟨rfl,rfl⟩|⟨hne1,hs'⟩
  ·cases E;refine⟨W,λi hi=>a2 i zN,λi D hi=>?_⟩;by_cases x:i=j;subst x;rw[hj]at hi; cases hi;exact .inr ⟨b,u,.inl ⟨hm,c',n.at_,hk⟩⟩
   ·rw[q i x]at hi;rcases a3 i D hi with h0|⟨o,B,M⟩;exact .inl h0
    ·have O:o≠b:=by rintro rfl; exact x (d.rows.inj i j o B u)
     exact .inr ⟨o,B,M.mono e.toMono.aH (n.other o O)⟩
  exact absurd (d.rows.one s r a k t1 y t l hs' S E J R ht) hne1
 ·intro K L a p t1 y t2 l2 v g1 P h2 g2 T;have old:∀ (s:Nat) (a:Blk) t1 y,(H.set r (some { k with cells:=aI (.rows t) m,tag:=some ⟨.rows t,m⟩ }))[s]?=some (some a)->a.grown=false->a.tag=some ⟨.rows t1,y⟩->s=r:=by
   intro s a t1 y v g1 B;rcases f s a v with ⟨rfl,rfl⟩|⟨_,hs'⟩
   ·rfl
   ·exact d.rows.one s r a k t1 y t l hs' g1 B J R ht
  rw[old K a t1 y v g1 P,old L p t2 l2 h2 g2 T]
def aTX(c:aX n0 G μ H w) (o:Obj):Ext n0 w G μ (w.alloc o) (G.or λx=>x=w.heap.size) μ/\aX n0 (G.or λx=>x=w.heap.size) μ H (w.alloc o):=by
 have e:Ext n0 w G μ (w.alloc o) (G.or λx=>x=w.heap.size) μ:={
  good:=λb a=>⟨.inl a,Below.heap_alloc _ _ _ (c.lt b a)⟩
  map:=λ_ _ h=>h
  len:=λ_ _ h=>h
  room:=λb n p=>by
   have⟨cs,t,i,f,l⟩:=p;exact⟨cs,t,i,by rw[Below.heap_alloc _ _ _ (gN f)]; exact f,l⟩
  row:=λ_ _ h=>h
  os:=rfl
  tape:=rfl
  output:=rfl
  size:=R
  old:=λb a _=>Below.heap_alloc _ _ _ a
  new:=λb a=>by
   rcases a with a|rfl
   ·grind
   ·exact .inr (c.base _ (Nat.le_refl _)) }
 refine⟨e,c.keep e ⟨λ_=>rfl,λj b g=>⟨Below.heap_alloc _ _ _ (c.rows.sep j b g).1,?_⟩⟩ ?_ ?_⟩;rintro(h|rfl);exact h;exact absurd (c.rows.sep j _ g).1 (Nat.lt_irrefl _);intro r k b m a;have d:=c.vB m a;refine⟨Below.heap_alloc _ _ _ d,?_⟩;rintro(h|rfl);exact h;omega;rintro b (a|rfl);have:=c.lt b a; simp; omega;simp
end
abbrev TyE : Ty := .int .i64
abbrev TyD : Ty := .list (.int .i64)
abbrev TyC : Ty := .list (.list (.int .i64))
abbrev TyI : Ty := .prod (.int .i8) (.prod (.int .i8) (.prod (.int .i8) (.int .i8)))
abbrev TyH : Ty := .prod (.int .i64) (.list (.list (.int .i64)))
abbrev TyG : Ty := .prod (.list (.int .i64)) (.prod (.list (.list (.int .i64))) (.list (.list (.int .i64))))
abbrev TyP : Ty := .prod (.int .u8) (.prod (.list (.prod (.int .i8) (.prod (.int .i8) (.prod (.int .i8) (.int .i8))))) .bool)
abbrev TyO : Ty := .prod (.int .i64) (.int .i64)
abbrev TyL : Ty := .prod (.prod (.int .i64) (.int .i64)) (.list (.int .i64))
abbrev TyN : Ty := .list (.prod (.prod (.int .i64) (.int .i64)) (.list (.int .i64)))
abbrev TyV : Ty := .prod (.list (.int .i64)) (.prod (.list (.list (.int .i64))) (.prod (.list (.list (.int .i64))) (.list (.list (.int .i64)))))
abbrev TyM : Ty := .prod (.prod (.list (.int .i64)) (.prod (.list (.list (.int .i64))) (.list (.list (.int .i64))))) (.list (.list (.int .i64)))
abbrev TyU : Ty := .prod (.prod (.prod (.list (.int .i64)) (.prod (.list (.list (.int .i64))) (.list (.list (.int .i64))))) (.list (.list (.int .i64)))) (.prod (.prod (.int .i64) (.list (.list (.int .i64)))) .smap)
abbrev TyJ : Ty := .prod (.prod (.prod (.list (.int .i64)) (.prod (.list (.list (.int .i64))) (.list (.list (.int .i64))))) (.list (.list (.int .i64)))) (.prod (.list (.list (.list (.int .i64)))) (.int .i64))
abbrev TyK : Ty := .prod (.prod (.int .u8) (.prod (.list (.prod (.int .i8) (.prod (.int .i8) (.prod (.int .i8) (.int .i8))))) .bool)) (.prod (.list (.prod (.int .i8) (.prod (.int .i8) (.prod (.int .i8) (.int .i8))))) (.prod (.list (.list (.prod (.int .i8) (.prod (.int .i8) (.prod (.int .i8) (.int .i8)))))) (.int .u8)))
universe u v
def oJ {α : Type u} {a b : α} : (some a = some b) = (a = b) := Option.some.injEq a b
def oP {α : Type u} {β : Type v} {a c : α} {b d : β} : ((a, b) = (c, d)) = (a = c ∧ b = d) := Prod.mk.injEq a b c d
def oT {p : Prop} [h : Decidable p] (g : p) : decide p = true := decide_eq_true g
def oF {p : Prop} [h : Decidable p] (g : ¬ p) : decide p = false := decide_eq_false g
def oC {α : Sort u} {a b : α} : cond true a b = a := rfl
def oD {α : Sort u} {a b : α} : cond false a b = b := rfl
def oE {n m : Nat} (h : Nat.beq n m = true) : n = m := Nat.eq_of_beq_eq_true h
def oL {n m : Nat} (h : Nat.ble n m = true) : n ≤ m := Nat.le_of_ble_eq_true h
def oN (n : Nat) : (n : Int).toNat = n := Int.toNat_natCast n
def oM (n : Nat) : n ≤ n := Nat.le_refl n
def oR {a b c : Nat} (h : a ≤ b) (k : b ≤ c) : a ≤ c := Nat.le_trans h k
def oG (a b : Nat) : a < b ∨ a ≥ b := Nat.lt_or_ge a b
def oB {α : Type u} {a b : α} (h : some a = some b) : a = b := Option.some.inj h
def oZ {α : Sort u} {β : Sort v} {a b : α} (f : α → β) (h : a = b) : f a = f b := congrArg f h
def oH {α : Type u} {a b : List α} : (a ++ b).length = a.length + b.length := List.length_append
def oO {α : Type u} {l : List α} {i : Nat} {a : α} : l[i]? = some a ↔ ∃ h : i < l.length, l[i] = a := List.getElem?_eq_some_iff
def oQ {α : Type u} {l : List α} {i : Nat} {a : α} : l.getD i a = l[i]?.getD a := List.getD_eq_getElem?_getD
def oA {a b : Bool} : ((a && b) = true) = (a = true ∧ b = true) := Bool.and_eq_true a b
end Go.PM
namespace Go.PM
open Go Go.RowKit
abbrev Frm:=List (Nat×PV)
def cR:Frm->Nat->PV| [],_=>.junk|(s,p)::r,t=>bif Nat.beq s t then p else cR r t
def bSK:Frm->Nat->PV->Frm| [],t,p=>[(t,p)]|(s,q)::r,t,p=>bif Nat.beq s t then (t,p)::r else (s,q)::bSK r t p
def aJT(m t:Nat):Bool:=Nat.beq (Nat.land (Nat.shiftRight m t) 1) 1
def lits(vs:Array Value):List PV:=vs.toList.map .lit
def aX4:Value->PV| .agg cs=>.agg (lits cs)| .tuple cs=>.tuple (lits cs)| v=>.lit v
def ev(F:Frm):Operand->PV| .tmp t=>cR F t| .const v=>aX4 v| .func f=>.lit (.func (.func f) #[] #[])| .global _=>.junk
def b3Y:PV->Option Value| .lit v=>some v| _=>none
def a4O:List PV->Option (List Value)
 | []=>some []
 | .lit v::ps=>match a4O ps with|some vs=>some (v::vs)|none=>none
 | _=>none
def a4I:PV->Option Value
 | .lit v=>some v
 | .agg cs=>match a4O cs with|some vs=>some (.agg vs.toArray)|none=>none
 | .tuple cs=>match a4O cs with|some vs=>some (.tuple vs.toArray)|none=>none
 | _=>none
def aGV {α:Type} (P:Program):Sem α->Option α| .pure a=>some a| .program k=>aGV P (k P)| _=>none
def valOf(F:Frm)(x:Operand):Value:=match a4I (ev F x)with|some v=>v|none=>undef
def aLU(F:Frm):List Operand->Bool| []=>true| x::xs=>match a4I (ev F x)with|some _=>aLU F xs|none=>false
def aIL:Op->Bool| .select ..=>true| _=>false
def C2(P:Program)(F:Frm)(o:Oper):Option PV :=bif aIL o.op||!aLU F o.op.operands.toList then none else match aGV P (execOp (valOf F) o)with| some (.value v)=>some (aX4 v)| _=>none
/- Classes: whether an operation looks at the heap: 0 no,1 it reads,2 it writes. -/
def bTJ(P:Program) (t:TypeId):Option Bool :=match P.underlying t with| some (.struct _)|some (.array ..)=>some true| some _=>some false| none=>none
def BL(P:Program)(t:TypeId):Option Nat:=match P.info? t with|some i=>some i.size|none=>none
def QU(P:Program) (t:TypeId) (cs:List PV):Option PV :=
 match bTJ P t with
 | some true=>match BL P t with
  | some n=>bif Nat.ble n cs.length then some (.agg (cs.take n)) else none
  | none=>none
 | some false=>cs.head?
 | none=>none
def DO:PV->Option (List PV)| .agg cs=>some cs| .lit (.agg cs)=>some (lits cs)| .tuple _|.junk=>none| p=>some [p]
def aDI:PV->Bool| .lit v=>v.oneCell'| .agg _|.tuple _|.junk=>false| _=>true
def aO4(cs:List PV) (off:Nat) (new:List PV):List PV:=cs.take off++new++cs.drop (off+new.length)
def iN(H:Heap)(r:Nat):Option Blk:=match H[r]? with|some (some k)=>some k|_=>none
def aP7(P:Program)(H:Heap)(t:TypeId):PV->Option (PV×Nat)
 | .iptr cs=>match QU P t cs with|some v=>some (v,0)|none=>none
 | .hptr r off=>match iN H r with
  | some k=>match QU P t (k.cells.drop off)with|some v=>some (v,1)|none=>none
  | none=>none
 | _=>none
def aVY(H:Heap)(r off:Nat)(new:List PV):Option Heap :=match iN H r with| some k=>bif !k.frozen&&Nat.ble (off+new.length) k.cells.length&&new.all aDI then some (H.set r (some { k with cells:=aO4 k.cells off new,tag:=none })) else none| none=>none
def a16(P:Program)(H:Heap)(t:TypeId)(a v:PV):Option Heap :=match a,DO v,BL P t with| .hptr r off,some new,some n=>bif Nat.beq new.length n then aVY H r off new else none| _,_,_=>none
def bV8(H:Heap)(t:TypeId)(cells:List PV):PV×Heap:=(.hptr H.length 0,H++[some ⟨cells,t,false,false,none⟩])
def N6(P:Program)(t:TypeId):Option Value:=match P.info? t with|some i=>i.zero|none=>none
def aW2(P:Program)(s:TypeId)(f:Nat):Option Field :=match P.underlying s with| some (.struct fs)=>fs[f]?| _=>none
def aV8(P:Program)(s:TypeId)(f:Nat)(p:PV):Option PV :=
 match aW2 P s f with
 | some fd=>match BL P fd.type with
  | some (_+1)=>match p with
   | .iptr cs=>some (.iptr (cs.drop fd.offset))
   | .hptr r off=>some (.hptr r (off+fd.offset))
   | _=>none
  | _=>none
 | none=>none
def aE(i:Int)(n:Nat):Bool:=match i with|.ofNat m=>Nat.blt m n|.negSucc _=>false
def aPX(P:Program)(t:TypeId)(x:PV)(i:Int):Option PV :=
 match P.underlying t with
 | some (.slice e)=>match BL P e with
  | some sz=>match x with
   | .vals cs n _=>bif aE i n&&Nat.blt (i.toNat*sz) cs.length then some (.iptr (cs.drop (i.toNat*sz))) else none
   | .hs r off n _ _=>bif aE i n then some (.hptr r (off+i.toNat*sz)) else none
   | _=>none
  | none=>none
 | some (.array n e)=>match BL P e with
  | some sz=>match x with
   | .iptr cs=>bif aE i n then some (.iptr (cs.drop (i.toNat*sz))) else none
   | .hptr r off=>bif aE i n then some (.hptr r (off+i.toNat*sz)) else none
   | _=>none
  | none=>none
 | _=>none
def aA7(place:Nat->Option (Nat×Nat)):List PV->List (Nat×PV)->Option (List PV)| cells,[]=>some cells| cells,(i,v)::rest=>match place i,DO v with| some (off,size),some new=>bif Nat.beq new.length size&&Nat.ble (off+new.length) cells.length then aA7 place (aO4 cells off new) rest else none| _,_=>none
def bEC(P:Program)(F:Frm)(t:TypeId)(parts:List (Nat×Operand)):Option PV :=
 match P.info? t,P.underlying t with
 | some it,some (.array _ e)=>match it.zero,P.info? e with
  | some z,some ie=>match aA7 (λi=>some (i*ie.size,ie.size)) (lits z.cells) (parts.map λp=>(p.1,ev F p.2))with
   | some cs=>some (.agg cs)
   | none=>none
  | _,_=>none
 | some it,some (.struct fields)=>match it.zero,fields.toList.mapM (λf=>(P.info? f.type).map λi=>(f.offset,i.size))with
  | some z,some places=>match aA7 (λi=>places.toArray[i]?) (lits z.cells) (parts.map λp=>(p.1,ev F p.2))with
   | some cs=>some (.agg cs)
   | none=>none
  | _,_=>none
 | _,_=>none
def UK(z:Value) (n:Nat):List PV :=match z.cells.toList with| [v]=>List.replicate n (.lit v)| _=>(List.range n).map λi=>.lit (z.cells[i%z.cells.size]!)
def aKH(P:Program)(F:Frm)(t:TypeId)(len:Nat)(parts:List (Nat×Operand)):Option PV :=
 match P.underlying t with
 | some (.slice e)=>match BL P e,N6 P e with
  | some sz,some z=>bif Nat.ble (len*sz) 16777216&&Nat.ble 1 z.cells.size then
    match aA7 (λi=>some (i*sz,sz)) (UK z (len*sz)) (parts.map λp=>(p.1,ev F p.2))with
    | some cs=>bif eM.noRefs cs then some (.vals cs len (some len)) else none
    | none=>none
   else none
  | _,_=>none
 | _=>none
def aE0(P:Program) (F:Frm) (H:Heap) (t:TypeId) (len:Nat) (parts:List (Nat×Operand)):Option (PV×Heap) :=
 match P.underlying t with
 | some (.slice e)=>match BL P e,N6 P e with
  | some sz,some z=>bif Nat.ble (len*sz) 16777216&&Nat.ble 1 z.cells.size then
    match aA7 (λi=>some (i*sz,sz)) (UK z (len*sz)) (parts.map λp=>(p.1,ev F p.2))with
    | some cs=>some (.hs H.length 0 len (some len) sz,H++[some ⟨cs,e,false,false,none⟩])
    | none=>none
   else none
  | _,_=>none
 | _=>none
def aW9(P:Program)(H:Heap)(t:TypeId)(l c:PV):Option (PV×Heap) :=
 match P.underlying t,l,c with
 | some (.slice e),.lit (.int _ l),.lit (.int _ c)=>match P.info? e with
  | some i=>match i.zero with
   | some z=>bif decide (0<=l)&&decide (l<=c)&&decide (c<=1048576)&&Nat.ble i.bytes 65536&&Nat.ble 1 i.size&&Nat.beq z.cells.size i.size then
     some (.hs H.length 0 l.toNat (some c.toNat) i.size,H++[some ⟨UK z (c.toNat*i.size),e,false,false,none⟩])
    else none
   | none=>none
  | none=>none
 | _,_,_=>none
def bnd(x:Option PV) (d:Nat):Option Nat :=match x with| none=>some d| some (.lit (.int _ i))=>bif decide (0<=i) then some i.toNat else none| _=>none
def aGG(P:Program)(t:TypeId)(x:PV)(lo hi:Option PV):Option PV :=
 match P.underlying t with
 | some (.slice e)=>match BL P e with
  | some sz=>match x with
   | .vals cs n _=>match bnd lo 0,bnd hi n with
    | some l,some h=>bif Nat.ble l h&&Nat.ble h n then some (.vals ((cs.drop (l*sz)).take ((h-l)*sz)) (h-l) none) else none
    | _,_=>none
   | .hs r off n cap sz'=>bif Nat.beq sz sz' then match bnd lo 0,bnd hi n with
    | some l,some h=>match cap with
     | some c=>bif Nat.ble l h&&Nat.ble h c then (bif Nat.beq c l then some (.hs r off 0 (some 0) sz) else some (.hs r (off+l*sz) (h-l) (some (c-l)) sz)) else none
     | none=>bif Nat.ble l h&&Nat.ble h n then (bif Nat.blt l n then some (.hs r (off+l*sz) (h-l) none sz) else (bif Nat.beq l 0 then some (.hs r off 0 none sz) else some (.vals [] 0 none))) else none
    | _,_=>none
    else none
   | _=>none
  | none=>none
 | some (.array n e)=>match BL P e with
  | some sz=>match bnd lo 0,bnd hi n with
   | some l,some h=>bif Nat.ble l h&&Nat.ble h n&&Nat.blt l n then (match x with
    | .iptr cs=>some (.vals ((cs.drop (l*sz)).take ((h-l)*sz)) (h-l) none)
    | _=>none) else none
   | _,_=>none
  | none=>none
 | _=>none
def bL4(s:ByteArray):List PV:=s.data.toList.map λb=>.lit (.int .u8 b.toNat)
def a6F(H:Heap) (sz:Nat):PV->Option (List PV×Nat)
 | .vals cs n _=>bif Nat.beq cs.length (n*sz) then some (cs,n) else none
 | .hs r off n _ _=>match iN H r with
  | some k=>bif Nat.ble (off+n*sz) k.cells.length then some ((k.cells.drop off).take (n*sz),n) else none
  | none=>none
 | .lit (.slice none n _)=>bif Nat.beq n 0 then some ([],0) else none
 | .lit (.string s)=>bif Nat.beq sz 1 then some (bL4 s,s.size) else none
 | _=>none
def aRA(H:Heap)(e:TypeId)(sz need:Nat)(cells:List PV):PV×Heap :=(.hs H.length 0 need none sz,H++[some ⟨cells,e,true,false,none⟩])
def bVD(cells:List PV) (m:Nat) (new:List PV):List PV:=bif Nat.beq cells.length m then cells++new else cells.take m++new
def bHC(P:Program)(H:Heap)(tys:Array TypeId)(s x:PV):Option (PV×Heap) :=
 match tys.toList with
 | [t,u]=>match P.underlying t,P.underlying u with
  | _,some (.int _)=>none
  | _,none=>none
  | some (.slice e),some _=>match P.info? e with
   | some i=>match i.zero with
    | some z=>bif Nat.ble i.bytes 65536&&Nat.ble 1 i.size&&Nat.beq z.cells.size i.size then
    match a6F H i.size x with
    | some (new,n)=>bif Nat.ble n 1048576&&new.all aDI then match s with
     | .lit (.slice none l c)=>bif Nat.beq l 0&&Nat.beq c 0 then
       (bif Nat.beq n 0 then some (s,H) else some (aRA H e i.size n new)) else none
     | .vals cs l cap=>bif Nat.beq n 0 then some (s,H) else bif Nat.beq cs.length (l*i.size)&&Nat.ble l 1048576 then
       (match cap with
        | some c=>bif Nat.ble (l+n) c then none else some (aRA H e i.size (l+n) (cs++new))
        | none=>none) else none
     | .hs r off l cap sz=>bif Nat.beq n 0 then some (s,H) else match iN H r with
      | some k=>bif Nat.beq sz i.size&&Nat.ble (off+l*sz) k.cells.length&&Nat.ble l 1048576&&Nat.beq k.ty e then match cap with
       | some c=>bif Nat.ble (l+n) c then match aVY H r (off+l*sz) new with
         | some H'=>some (.hs r off (l+n) (some c) sz,H')
         | none=>none
        else some (aRA H e sz (l+n) ((k.cells.drop off).take (l*sz)++new))
       | none=>bif Nat.beq off 0&&!k.frozen&&k.grown then
         some (aRA (H.set r none) e sz (l+n) (bVD k.cells (l*sz) new)) else none
       else none
      | none=>none
     | _=>none
     else none
    | none=>none
    else none
    | none=>none
   | none=>none
  | _,_=>none
 | _=>none
def bVM(P:Program)(H:Heap)(tys:Array TypeId)(d x:PV):Option (PV×Heap) :=
 match tys.toList with
 | t::_=>match P.underlying t with
  | some (.slice e)=>match BL P e with
   | some sz=>match a6F H sz x with
    | some (new,n)=>match d with
     | .hs r off l _ _=>match aVY H r off (new.take (min n l*sz))with
      | some H'=>some (.lit (goInt ((min n l:Nat))),H')
      | none=>none
     | _=>none
    | none=>none
   | none=>none
  | _=>none
 | _=>none
def bLR(P:Program)(H:Heap)(tys:Array TypeId)(d:PV):Option (PV×Heap) :=
 match tys.toList with
 | t::_=>match P.underlying t with
  | some (.slice e)=>match N6 P e with
   | some z=>match d with
    | .hs r off l _ _=>bif Nat.beq l 0 then some (.tuple [],H) else match aVY H r off (lits (Builtin.zeroCells z.cells l))with
     | some H'=>some (.tuple [],H')
     | none=>none
    | _=>none
   | none=>none
  | _=>none
 | _=>none
def b06(P:Program)(tys:Array TypeId)(x:PV):Option PV :=
 match tys.toList with
 | t::_=>match P.underlying t,x with
  | some (.slice _),.vals _ n _=>some (.lit (goInt n))
  | some (.slice _),.hs _ _ n _ _=>some (.lit (goInt n))
  | some (.array n _),_=>some (.lit (goInt n))
  | _,_=>none
 | _=>none
def aHO {α:Type} (n:Nat) (k:Nat->α):α:=match n with|0=>k 0|m+1=>k (m+1)
def b2P {α}(i:Int)(k:Int->α):α:=match i with| .ofNat n=>aHO n λn=>k (.ofNat n)| .negSucc n=>aHO n λn=>k (.negSucc n)
def bZV {α:Type}(b:Bool)(k:Bool->α):α:=match b with|true=>k true|false=>k false
def bGO {α} n (k:Nat->α):aHO n k=k n:=by cases n <;> rfl
def bYX {α} i (k:Int->α):b2P i k=k i:=by
 cases i with
 | ofNat n=>exact bGO n λn=>k (.ofNat n);| negSucc n=>exact bGO n λn=>k (.negSucc n)
def bUI {α} b (k:Bool->α):bZV b k=k b:=by cases b <;> rfl
def cF m n:Nat.blt m n=decide (m<n):=by
 cases h:Nat.blt m n with
 | true =>
  simp_all
 | false =>
  refine(oF λhl=>?_).symm;have:Nat.blt m n=true:=Nat.ble_eq_true_of_le hl;grind
def zk{a b:Nat}(h:a<b:=by omega):Nat.blt a b=true:=by rw[cF]; exact oT h
def zl{a b:Nat}(h:¬(a<b):=by omega):Nat.blt a b=false:=by rw[cF]; exact oF h
def aA(k:IntKind) (n:Int):Int:=match k,n with| .i64,.ofNat m=>bif Nat.blt m 9223372036854775808 then .ofNat m else k.wrap n| .i64,.negSucc m=>bif Nat.blt m 9223372036854775808 then .negSucc m else k.wrap n| _,_=>k.wrap n
set_option maxRecDepth 100000 in
def a9N(k:IntKind) (n:Int):aA k n=k.wrap n:=by
 unfold aA;split;rename_i m;rw[cF];by_cases a:m<9223372036854775808;rw[oT a,oC,IntKind.wrap_i64];show (m:Int)=_;rw[show Int.ofNat m=(m:Int) from rfl];omega;rw[oF a,oD];rename_i m;rw[cF];by_cases a:m<9223372036854775808;rw[oT a,oC,IntKind.wrap_i64,Int.negSucc_eq];omega;rw[oF a,oD];rfl
def ltI(a b:Int):Bool:=match a,b with| .ofNat m,.ofNat n=>Nat.blt m n| .ofNat _,.negSucc _=>false| .negSucc _,.ofNat _=>true| .negSucc m,.negSucc n=>Nat.blt n m
def eqI(a b:Int):Bool:=match a,b with| .ofNat m,.ofNat n=>Nat.beq m n| .negSucc m,.negSucc n=>Nat.beq m n| _,_=>false
def aZO(m n:Nat):Nat.beq m n=decide (m=n):=by
 cases h:Nat.beq m n with
 | true=>simp_all
 | false =>
  refine(oF λa=>?_).symm
  simp_all
def aF a b:ltI a b=decide (a<b):=by
 cases a <;> cases b <;> simp only[ltI,cF];simp;rfl;grind;grind
def ze{a b:Int}(h:a<b:=by omega):ltI a b=true:=by rw[aF]; exact oT h
def zf{a b:Int}(h:¬(a<b):=by omega):ltI a b=false:=by rw[aF]; exact oF h
def bN a b:eqI a b=decide (a=b):=by
 cases a <;> cases b <;> simp only[eqI,aZO];grind;rfl;rfl;simp
def zg{a b:Int}(h:a=b:=by omega):eqI a b=true:=by rw[bN]; exact oT h
def zh{a b:Int}(h:¬(a=b):=by omega):eqI a b=false:=by rw[bN]; exact oF h
def bJM(op:BinOp)(k:IntKind)(a b:Int):Option Value :=match op with| .add=>some (.int k (aA k (a+b)))| .sub=>some (.int k (aA k (a-b)))| .mul=>some (.int k (aA k (a*b)))| .quo=>bif eqI b 0 then none else some (.int k (aA k (a.tdiv b)))| .rem=>bif eqI b 0 then none else some (.int k (a.tmod b))| .eql=>some (.bool (eqI a b))| .neq=>some (.bool (!eqI a b))| .lss=>some (.bool (ltI a b))| .leq=>some (.bool (!ltI b a))| .gtr=>some (.bool (ltI b a))| .geq=>some (.bool (!ltI a b))| _=>none
def a8F {α β:Type}:List β->(List β->α)->α| [],k=>k []| x::r,k=>a8F r λr=>k (x::r)
def a0T {α β}:∀ F (k:List β->α),a8F F k=k F| [],k=>rfl| x::r,k=>by rw[a8F,a0T r]
def fPV {α}(p:PV)(k:PV->α):α:=match p with| .lit (.int d n)=>b2P n λn=>k (.lit (.int d n))| .lit (.bool b)=>bZV b λb=>k (.lit (.bool b))| .lit v=>k (.lit v)| .vals cs n cap=>aHO n λn=>k (.vals cs n cap)| .iptr cs=>k (.iptr cs)| .hptr r off=>aHO r λr=>aHO off λoff=>k (.hptr r off)| .hs r off len cap sz=>aHO r λr=>aHO off λoff=>aHO len λlen=>k (.hs r off len cap sz)| .agg cs=>k (.agg cs)| .tuple cs=>k (.tuple cs)| .clo fn f c=>k (.clo fn f c)| .junk=>k .junk| .tl t l cap e=>a8F l λl=>k (.tl t l cap e)| .tp t l i off e=>aHO i λi=>k (.tp t l i off e)| .own r sz=>aHO r λr=>k (.own r sz)| .qs r sz=>aHO r λr=>k (.qs r sz)| .op r i off sz=>aHO r λr=>aHO i λi=>k (.op r i off sz)| .win r lo n sz=>aHO r λr=>aHO lo λlo=>aHO n λn=>k (.win r lo n sz)| .row j lo n sz=>aHO j λj=>aHO lo λlo=>aHO n λn=>k (.row j lo n sz)| .rp j off=>aHO j λj=>aHO off λoff=>k (.rp j off)| .mp j=>aHO j λj=>k (.mp j)| .tm l=>k (.tm l)
def aG7 {α} p (k:PV->α):fPV p k=k p:=by
 unfold fPV;split <;> simp only[bYX,bUI,bGO,a0T]
def bHK {α}:List PV->(List PV->α)->α| [],k=>k []| p::r,k=>fPV p λp=>bHK r λr=>k (p::r)
def bDB {α}:∀ F (k:List PV->α),bHK F k=k F| [],k=>rfl| p::r,k=>by rw[bHK,aG7,bDB r]
def b27 {α}(g:Option Tg)(k:Option Tg->α):α:=match g with| none=>k none| some ⟨t,l⟩=>a8F l λl=>k (some ⟨t,l⟩)
def bZA {α} g (k:Option Tg->α):b27 g k=k g:=by
 cases g with
 | none=>rfl;| some g=>exact a0T g.l λl=>k (some ⟨g.t,l⟩)
def aYD {α}:Heap->(Heap->α)->α| [],k=>k []| none::r,k=>aYD r λr=>k (none::r)| some ⟨cs,t,g,f,none⟩::r,k=>bHK cs λcs=>aYD r λr=>k (some ⟨cs,t,g,f,none⟩::r)| some ⟨cs,t,g,f,some tg⟩::r,k=>b27 (some tg) λtg=>aYD r λr=>k (some ⟨cs,t,g,f,tg⟩::r)
def NY {α}:∀ F (k:Heap->α),aYD F k=k F
 | [],k=>rfl
 | none::r,k=>by rw[aYD,NY r]
 | some ⟨cs,t,g,f,none⟩::r,k=>by rw[aYD,bDB,NY r]
 | some ⟨cs,t,g,f,some tg⟩::r,k=>by rw[aYD,bZA,NY r]
abbrev Callee:=FuncId->List PV->Heap->Option (PV×Heap×Nat)
def p0(H:Heap)(v:Option PV):Option (PV×Heap×Nat):=match v with|some v=>some (v,H,0)|none=>none
def p2(x:Option (PV×Heap)):Option (PV×Heap×Nat):=match x with|some (v,H)=>some (v,H,2)|none=>none
def aCZ(k l:IntKind):Bool:=match k,l with| .i64,.i64|.u8,.u8|.u64,.u64|.i32,.i32|.u16,.u16|.u32,.u32|.i8,.i8|.i16,.i16=>true| _,_=>false
def aTH {k l}(h:aCZ k l=true):k=l:=by cases k <;> cases l <;> first|rfl|cases h
def aFW(P:Program) (sub:List Field->List PV->List PV->Option Bool):List Field->List PV->List PV->Option Bool
 | [],_,_=>some true
 | f::fs,cs,ds=>bif f.name== "_" then none else match P.underlying f.type with
  | some (.int _)=>match QU P f.type (cs.drop f.offset),QU P f.type (ds.drop f.offset)with
   | some (.lit (.int k a)),some (.lit (.int l b))=>bif aCZ k l then (match aFW P sub fs cs ds with
     | some r=>some (eqI a b&&r)
     | none=>none) else none
   | _,_=>none
  | some (.struct gs)=>bif P.stoodInHeld f.type then none else match QU P f.type (cs.drop f.offset),QU P f.type (ds.drop f.offset)with
   | some (.agg cs'),some (.agg ds')=>match sub gs.toList cs' ds',aFW P sub fs cs ds with
    | some q,some r=>some (q&&r)
    | _,_=>none
   | _,_=>none
  | _=>none
def a8D(P:Program):Nat->List Field->List PV->List PV->Option Bool| 0=>λ_ _ _=>none| n+1=>aFW P (a8D P n)
def bP3(P:Program):List Field->List PV->List PV->Option Bool:=a8D P 3
def aS7(P:Program) (e:TypeId):List Nat->List PV->List PV->Option Bool
 | [],_,_=>some true
 | i::is,cs,ds=>match P.underlying e with
  | some (.int _)=>match QU P e (cs.drop (i*P.cellsOf e)),QU P e (ds.drop (i*P.cellsOf e))with
   | some (.lit (.int k a)),some (.lit (.int l b))=>bif aCZ k l then (match aS7 P e is cs ds with
     | some r=>some (eqI a b&&r)
     | none=>none) else none
   | _,_=>none
  | _=>none
def b0Z(P:Program)(op:BinOp)(t:TypeId)(cs ds:List PV):Option PV:=match P.underlying t with
 | some (.struct fs)=>bif P.stoodInHeld t||P.eqGuardType P.depth t then none else match op,bP3 P fs.toList cs ds with
  | .eql,some r=>some (.lit (.bool r))
  | .neq,some r=>some (.lit (.bool (!r)))
  | _,_=>none
 | some (.array n e)=>bif P.eqGuardType P.depth t||!(P.info? e).isSome then none else match op,aS7 P e (List.range n) cs ds with
  | .eql,some r=>some (.lit (.bool r))
  | .neq,some r=>some (.lit (.bool (!r)))
  | _,_=>none
 | _=>none
def b28:List Nat:=[105]
def bPP(t:TypeId)(cs:List PV):Bool:=(b28.any λn=>Nat.beq n t)&&eM.noRefs cs
def opu(P:Program)(cl:Callee)(F:Frm)(H:Heap)(o:Oper):Option (PV×Heap×Nat) :=
 match o.op with
 | .move x|.assign x=>some (ev F x,H,0)
 | .pick c a b=>match ev F c with
  | .lit (.bool t)=>some (bif t then ev F a else ev F b,H,0)
  | _=>none
 | .binOp op xt x y _=>match ev F x,ev F y with
  | .lit (.int k a),.lit (.int l b)=>bif aCZ k l then (match bJM op k a b with|some v=>some (.lit v,H,0)|none=>p0 H (C2 P F o)) else p0 H (C2 P F o)
  | .agg cs,.agg ds=>(match b0Z P op xt cs ds with|some v=>some (v,H,0)|none=>p0 H (C2 P F o))
  | _,_=>p0 H (C2 P F o)
 | .load t a=>match aP7 P H t (ev F a)with|some (v,c)=>some (v,H,c)|none=>none
 | .store t a v=>match a16 P H t (ev F a) (ev F v)with|some H'=>some (.lit undef,H',2)|none=>none
 | .box t v=>match DO (ev F v)with|some cs=>bif bPP t cs then some (.iptr cs,H,0) else p2 (some (bV8 H t cs))|none=>none
 | .alloc t=>match N6 P t with|some z=>p2 (some (bV8 H t (lits z.cells)))|none=>none
 | .fieldAddr s x f=>p0 H (aV8 P s f (ev F x))
 | .indexAddr t x i=>match ev F i with|.lit (.int _ i)=>p0 H (aPX P t (ev F x) i)|_=>none
 | .nilCheck x=>match ev F x with
  | .iptr cs=>some (.iptr cs,H,0)
  | .hptr r off=>some (.hptr r off,H,0)
  | .clo (.func f) a b=>some (.clo (.func f) a b,H,0)
  | _=>p0 H (C2 P F o)
 | .field s x f=>match ev F x with
  | .agg cs=>match aW2 P s f with|some fd=>p0 H (QU P fd.type (cs.drop fd.offset))|none=>none
  | _=>p0 H (C2 P F o)
 | .index t x i=>match ev F x,ev F i,P.underlying t with
  | .agg cs,.lit (.int _ i),some (.array n e)=>match BL P e with
   | some sz=>bif aE i n then p0 H (QU P e (cs.drop (i.toNat*sz))) else none
   | none=>none
  | _,_,_=>p0 H (C2 P F o)
 | .extract x i=>match ev F x with
  | .tuple vs=>p0 H vs[i]?
  | _=>p0 H (C2 P F o)
 | .build t parts=>p0 H (bEC P F t parts.toList)
 | .buildSlice t n parts=>match aKH P F t n parts.toList with
  | some v=>some (v,H,0)
  | none=>p2 (aE0 P F H t n parts.toList)
 | .makeSlice t l c=>p2 (aW9 P H t (ev F l) (ev F c))
 | .makeFunc fn first caps=>some (.clo fn (first.toList.map (ev F)) (caps.toList.map (ev F)),H,0)
 | .slice t x lo hi none=>match ev F x with
  | .lit _=>p0 H (C2 P F o)
  | p=>p0 H (aGG P t p (lo.map (ev F)) (hi.map (ev F)))
 | .call c=>match c.callee with
  | .builtin .len=>match ev F (c.args.getD 0 (.const undef))with
   | .lit _=>p0 H (C2 P F o)
   | p=>bif Nat.beq c.args.size 1 then p0 H (b06 P c.argTypes p) else none
  | .builtin .append=>match c.args.toList with
   | [s,x]=>p2 (bHC P H c.argTypes (ev F s) (ev F x))
   | _=>none
  | .builtin .copy=>match c.args.toList with
   | [s,x]=>p2 (bVM P H c.argTypes (ev F s) (ev F x))
   | _=>none
  | .builtin .clear=>match c.args.toList with
   | [s]=>p2 (bLR P H c.argTypes (ev F s))
   | _=>none
  | .builtin _=>p0 H (C2 P F o)
  | .value f=>match ev F f with
   | .lit (.func (.func g) first caps)=>cl g (lits first++c.args.toList.map (ev F)++lits caps) H
   | .clo (.func g) first caps=>cl g (first++c.args.toList.map (ev F)++caps) H
   | _=>none
  | .invoke ..=>none
 | _=>p0 H (C2 P F o)
section
variable {P:Program} {n0:Nat->Prop} {w:World} {G:Gd} {μ:Mp} {H:Heap} {F:Frm} {a:Act} {nt:Nat}
structure fG (w:World) (G:Gd) (μ:Mp) (nt:Nat) (F:Frm) (a:Act):Prop where
 size:a.tmps.size=nt
 slot:∀ t,VR w G μ (cR F t) (a.tmps.getD t undef)
 defers:a.defers=[]
def KC vs:VRs w G μ (lits vs) vs.toList:=VRs.lits _
def a9D v:VR w G μ (aX4 v) v:=by
 cases v <;> simp only[aX4] <;> rw[VR];exact⟨_,rfl,KC _⟩;exact⟨_,rfl,KC _⟩
def cT(h:fG w G μ nt F a) x:VR w G μ (ev F x) (a.eval x):=by
 cases x with
 | tmp t=>exact h.slot t;| const v=>exact a9D v;| global g=>simp only[ev]; trivial;| func f=>rfl
def aTU {m n:Nat}(h:m≠n):Nat.beq m n=false:=by
 cases a:Nat.beq m n with
 | false=>rfl;| true=>simp_all
def a2R F t p s:cR (bSK F t p) s=if s=t then p else cR F s:=by
 induction F with
 | nil =>
  simp only[bSK,cR]
  by_cases h:s=t
  ·subst h; simp
  ·have :=aTU λe=>h e.symm
   grind
 | cons x r b =>
  have⟨u,q⟩:=x;simp only[bSK]
  by_cases a:u=t
  ·subst a;simp only[Nat.beq_refl,oC,cR]
   by_cases h:s=u
   ·subst h; simp
   ·have :=aTU λe=>h e.symm
    grind
  ·have c :=aTU a;simp only[c,oD,cR,b];grind
def fG.put (h:fG w G μ nt F a){d}(hd:d<nt){p v}(e:VR w G μ p v):fG w G μ nt (bSK F d p) (a.put (some d) v) where
 size:=by simp[Act.put,h.size]
 slot t:=by
  rw[a2R];have c:=h.size;simp only[Act.put]
  by_cases b:t=d
  ·simp_all
  ·have:=h.slot t;simp only[Array.getD_eq_getD_getElem?]at this ⊢;grind
 defers:=h.defers
def eY t p (F:Frm) s:cR ((t,p)::F) s=if s=t then p else cR F s:=by
 simp only[cR];by_cases h:s=t;simp_all;rw[aTU λe=>h e.symm,oD,if_neg h]
def fG.cons (h:fG w G μ nt F a){d}(hd:d<nt){p v}(b:VR w G μ p v):fG w G μ nt ((d,p)::F) (a.put (some d) v) where
 size:=by simp[Act.put,h.size]
 slot t:=by
  rw[eY];have:=(h.put hd b).slot t;rwa[a2R]at this
 defers:=h.defers
def fG.mono {w' G' μ'}(h:fG w G μ nt F a)(m:Mono w G μ w' G' μ'):fG w' G' μ' nt F a:=⟨h.size,λt=>VR.mono m _ _ (h.slot t),h.defers⟩
def bCN:∀ {ps vs us},a4O ps=some vs->VRs w G μ ps us->us=vs
 | [],vs,us,h,k=>by simp only[a4O,oJ]at h; rw[k,<- h]
 | p::ps,vs,us,h,k=>by
  obtain⟨x,xs,rfl,d,b⟩:=k;cases p <;> simp only[a4O]at h <;> try grind
  cases a:a4O ps with
  | none=>grind
  | some c =>
   rw[a]at h;simp only[oJ]at h;rw[<- h,d,bCN a b]
def bUB {p v u}(h:a4I p=some v)(k:VR w G μ p u):u=v:=by
 cases p <;> simp only[a4I]at h <;> try grind
 rw[VR]at k; grind
 all_goals
  rename_i cs;cases a:a4O cs with
  | none=>grind
  | some vs =>
   rw[a]at h;simp only[oJ]at h;obtain⟨us,c,b⟩:=k;rw[c,<- h,<- bCN a b]
def bGI {α s}{x:α}(h:aGV P s=some x) w:s.run P w=.ok x w:=by
 induction s with
 | pure a=>simp only[aGV,oJ]at h; simp_all;| program k b=>exact b P h;| _=>simp[aGV]at h
def a3S(h:fG w G μ nt F a):∀ {xs},aLU F xs=true->∀ x∈xs,a.eval x=valOf F x
 | [],_,x,hx=>W
 | y::ys,hv,x,hx=>by
  simp only[aLU]at hv;cases ht:a4I (ev F y)with
  | none=>grind
  | some v =>
   rw[ht]at hv;rcases List.mem_cons.1 hx with rfl|hx
   ·rw[valOf,ht]; exact bUB ht (cT h x)
   ·exact a3S h hv x hx
def bJA(h:fG w G μ nt F a){o v}(hx:C2 P F o=some v):∃ v',(∀ w1 ,(execOp a.eval o).run P w1=.ok (.value v') w1)/\VR w G μ v v':=by
 unfold C2 at hx;cases h1:(aIL o.op||!aLU F o.op.operands.toList)with
 | true=>grind
 | false =>
  rw[h1]at hx;simp only[Bool.or_eq_false_iff,Bool.not_eq_false']at h1;simp only[oD]at hx;have hc :=execOp_congr o (λcs b e=>by simp[aIL,e]at h1) λx hx=>a3S h h1.2 x (Array.mem_toList_iff.2 hx)
  cases he:aGV P (execOp (valOf F) o)with
  | none=>grind
  | some n =>
   rw[he]at hx;cases n <;> simp only[oJ]at hx <;> try grind
   rename_i u;subst hx;exact⟨u,λw1=>by rw[hc]; exact bGI he w1,a9D u⟩
def C5(P:Program) (n0:Nat->Prop) (w:World) (G:Gd) (μ:Mp) (s:Sem Value) (v:PV) (H':Heap):Prop :=∃ v' w' G' μ',s.run P w=.ok v' w'/\Ext n0 w G μ w' G' μ'/\aX n0 G' μ' H' w'/\VR w' G' μ' v v'
def C5.same (a:aX n0 G μ H w){s v v'}(h:s.run P w=.ok v' w)(b:VR w G μ v v'):C5 P n0 w G μ s v H:=⟨v',w,G,μ,h,Ext.refl _ _ _ _,a,b⟩
def N9 {t i}(h:P.info? t=some i) w:(typeInfo t).run P w=.ok i w:=by simp[typeInfo,h]
def run_sizeOf {t n}(h:BL P t=some n) w:(sizeOf t).run P w=.ok n w:=by
 unfold BL at h;cases hi:P.info? t with
 | none=>grind
 | some i =>
  rw[hi]at h;simp only[oJ]at h;simp[sizeOf,N9 hi,h]
def aTQ {t b}(h:bTJ P t=some b) w:(isAgg t).run P w=.ok b w:=by
 unfold bTJ at h;cases hu:P.underlying t with
 | none=>grind
 | some d =>
  rw[hu]at h;simp only[isAgg,Sem.run_bind,run_underlying hu];cases d <;> simp only[oJ]at h <;> subst h <;> rfl
def run_loadCellsFrom {b off}(vs:List Value):∀ i acc,(∀ j d,w.cell? ⟨b,off+(i+j),none⟩=some vs[j]) ->
  (loadCellsFrom ⟨b,off,none⟩ i vs.length acc).run P w=.ok (acc++vs.toArray) w:=by
 induction vs with
 | nil=>intro i acc _; rfl
 | cons v vs c =>
  intro i acc h;have a:=h 0 R;simp only[Nat.add_zero,List.getElem_cons_zero]at a;have:=c (i+1) (acc.push v) λj d=>by
   have:=h (j+1) W;grind
  simp only[List.length_cons,loadCellsFrom,Sem.run_bind,run_load,Addr.add_lit,a,Result.andThen_ok,this];simp
def run_loadCells {b off}{vs:List Value}(h:∀ j a,w.cell? ⟨b,off+j,none⟩=some vs[j]):(loadCells ⟨b,off,none⟩ vs.length).run P w=.ok vs.toArray w:=by
 have:=run_loadCellsFrom (P:=P) (w:=w) (b:=b) (off:=off) vs 0 #[] (λj a=>by grind);simpa[loadCells]using this
def aCB {t cs v b off}(j:aT w G μ b off cs)(h:QU P t cs=some v):∃ v',(loadVar t ⟨b,off,none⟩).run P w=.ok v' w/\VR w G μ v v':=by
 unfold QU at h;cases d:bTJ P t with
 | none=>rw[d]at h; cases h
 | some g =>
  rw[d]at h;cases g with
  | false =>
   cases cs with
   | nil=>cases h
   | cons c cs =>
    simp only[List.head?_cons,oJ]at h;subst h;have⟨⟨v',a,e⟩,_⟩:=j;exact⟨v',by simp[loadVar,aTQ d,a],e⟩
  | true =>
   cases f:BL P t with
   | none=>rw[f]at h; cases h
   | some n =>
    rw[f]at h;simp only at h;cases hn:Nat.ble n cs.length with
    | false=>rw[hn]at h; cases h
    | true =>
     rw[hn]at h;simp only[oC,oJ]at h;subst h;have⟨vs,a,e⟩:=(j.take n).values;have i:=a.length;rw[List.length_take,Nat.min_eq_left (oL hn)]at i;have:=run_loadCells (P:=P) e;rw[<- i]at this;refine⟨.agg vs.toArray,by simp[loadVar,aTQ d,run_sizeOf f,this],?_⟩;exact⟨_,rfl,a⟩
def aG {r k}(h:iN H r=some k):H[r]?=some (some k):=by
 unfold iN at h;grind
def a4U(e:aX n0 G μ H w){t p v c x}(hp:VR w G μ p x)(h:aP7 P H t p=some (v,c)):∃ v',(Instr.loadAt t x).run P w=.ok v' w/\VR w G μ v v':=by
 cases p <;> simp only[aP7]at h <;> try (cases h; done)
 case iptr cs =>
  rw[VR]at hp;obtain⟨b,off,rfl,_,i⟩:=hp;split at h
  next u hu=>simp only[oJ,oP]at h;have⟨v',a,d⟩:=aCB i hu;exact⟨v',by simp[Instr.loadAt,Instr.sureAddr,a],h.1 ▸ d.bF⟩
  ·cases h
 case hptr r off =>
  obtain⟨b,g,rfl⟩:=hp;split at h
  next k f=>
   split at h
   next u hu=>simp only[oJ,oP]at h;have⟨c',g2,g3,_⟩:=e.blk r k b (aG f) g;have hd:=g3.drop off;have⟨v',a,d⟩:=aCB hd hu;exact⟨v',by simp[Instr.loadAt,Instr.sureAddr,a],h.1 ▸ d⟩
   ·cases h
  ·cases h
end
section
variable {P:Program} {n0:Nat->Prop} {w:World} {G:Gd} {μ:Mp} {H:Heap}
def a7D {t l cap e v}(a:VR w G μ (.tl t l cap e) v):∃ ao c,v=.slice ao l.length c:=by
 obtain⟨b,rfl⟩:=a;rw[VR]at b;grind
def bM1 {t l i off e v}(a:VR w G μ (.tp t l i off e) v):∃ p,v=.pointer (some p):=by
 obtain⟨b,rfl,_⟩:=a;rw[VR]at b;grind
def bRC {r sz v}(a:VR w G μ (.own r sz) v):∃ ao n c,v=.slice ao n c:=by
 rw[VR]at a;grind
def bWA {r sz v}(a:VR w G μ (.qs r sz) v):∃ ao n c,v=.slice ao n c:=by
 rw[VR]at a;grind
def aAC {p cs v}(h:DO p=some cs)(hv:VR w G μ p v):VRs w G μ cs v.cells.toList:=by
 have one:∀ {v:Value},VR w G μ p v->v.cells=#[v]->VRs w G μ [p] v.cells.toList:=λhv e=>by rw[e,VRs]; exact⟨_,[],rfl,hv,by rw[VRs]⟩
 cases p with
 | lit u =>
  have hv':=hv;rw[VR]at hv';subst hv';cases v <;> simp only[DO,oJ]at h <;> subst h <;> first|exact one hv rfl|exact KC _
 | agg cs' =>
  simp only[DO,oJ]at h;subst h;rw[VR]at hv;obtain⟨vs,rfl,hv⟩:=hv;exact hv
 | tuple vs=>cases h;| junk=>cases h
 | vals cs' n cap =>
  simp only[DO,oJ]at h;subst h;have hv':=hv;rw[VR]at hv';obtain⟨_,_,rfl,_⟩:=hv';exact one hv rfl
 | iptr cs' =>
  simp only[DO,oJ]at h;subst h;have hv':=hv;rw[VR]at hv';obtain⟨_,_,rfl,_⟩:=hv';exact one hv rfl
 | mp j =>
  simp only[DO,oJ]at h;subst h;have hv':=hv;rw[VR]at hv';obtain⟨_,_,rfl⟩:=hv';exact one hv rfl
 | tm l =>
  simp only[DO,oJ]at h;subst h;have hv':=hv;rw[VR]at hv';obtain⟨_,_,_,rfl,_⟩:=hv';exact one hv rfl
 | hptr r off =>
  simp only[DO,oJ]at h;subst h;have hv':=hv;rw[VR]at hv';obtain⟨_,_,rfl⟩:=hv';exact one hv rfl
 | hs r off len cap sz =>
  simp only[DO,oJ]at h;subst h;have hv':=hv;rw[VR]at hv';obtain⟨_,_,_,rfl,_⟩:=hv';exact one hv rfl
 | clo fn f c =>
  simp only[DO,oJ]at h;subst h;have hv':=hv;rw[VR]at hv';obtain⟨_,_,rfl,_⟩:=hv';exact one hv rfl
 | tl t l cap e =>
  simp only[DO,oJ]at h;subst h;obtain⟨_,_,rfl⟩:=a7D hv;exact one hv rfl
 | tp t l i off e =>
  simp only[DO,oJ]at h;subst h;obtain⟨_,rfl⟩:=bM1 hv;exact one hv rfl
 | own r sz =>
  simp only[DO,oJ]at h;subst h;obtain⟨_,_,_,rfl⟩:=bRC hv;exact one hv rfl
 | qs r sz =>
  simp only[DO,oJ]at h;subst h;obtain⟨_,_,_,rfl⟩:=bWA hv;exact one hv rfl
 | op r i off sz =>
  simp only[DO,oJ]at h;subst h;have hv':=hv;rw[VR]at hv';obtain⟨_,_,rfl⟩:=hv';exact one hv rfl
 | win r lo n sz =>
  simp only[DO,oJ]at h;subst h;have hv':=hv;rw[VR]at hv';obtain⟨_,_,_,_,rfl,_⟩:=hv';exact one hv rfl
 | row j lo n sz =>
  simp only[DO,oJ]at h;subst h;have hv':=hv;rw[VR]at hv';obtain⟨_,_,rfl,_⟩:=hv';exact one hv rfl
 | rp j off =>
  simp only[DO,oJ]at h;subst h;have hv':=hv;rw[VR]at hv';obtain⟨_,_,rfl⟩:=hv';exact one hv rfl
def bMH {p v}(h:aDI p=true)(a:VR w G μ p v):v.oneCell'=true:=by
 cases p <;> simp only[aDI]at h <;> try (cases h; done)
 all_goals (rw[VR]at a)
 rw[a]; exact h;obtain⟨_,_,rfl,_⟩:=a; rfl;obtain⟨_,_,rfl,_⟩:=a; rfl;obtain⟨_,_,rfl⟩:=a; rfl;obtain⟨_,_,_,rfl,_⟩:=a; rfl;obtain⟨_,_,rfl,_⟩:=a; rfl;obtain⟨b,rfl⟩:=a;rw[VR]at b;obtain⟨_,_,rfl,_⟩:=b; rfl;obtain⟨b,rfl,_⟩:=a;rw[VR]at b;obtain⟨_,_,rfl,_⟩:=b; rfl;obtain⟨_,_,⟨_,_,rfl⟩|⟨_,_,_,rfl,_⟩⟩:=a <;> rfl;obtain⟨_,_,rfl⟩:=a; rfl;obtain⟨_,_,_,_,rfl,_⟩:=a; rfl;obtain⟨_,_,rfl,_⟩:=a; rfl;obtain⟨_,_,rfl⟩:=a; rfl;obtain⟨_,_,rfl⟩:=a; rfl;obtain⟨_,_,_,rfl,_⟩:=a; rfl;obtain⟨_,_,⟨_,_,rfl⟩|⟨_,_,_,rfl,_⟩⟩:=a <;> rfl
def VM:∀ {ps vs},ps.all aDI=true->VRs w G μ ps vs->∀ v∈vs,v.oneCell'=true
 | [],vs,_,h,v,hv=>by subst h; grind
 | p::ps,vs,ho,h,v,hv=>by
  obtain⟨x,xs,rfl,b,a⟩:=h;simp only[List.all_cons,oA]at ho;rcases List.mem_cons.1 hv with rfl|hv
  ·exact bMH ho.1 b
  ·exact VM ho.2 a v hv
def xH(c:Array Value)(off:Nat)(vs:List Value):Array Value:=(c.toList.take off++vs++c.toList.drop (off+vs.length)).toArray
def Fits(c:Array Value) (off:Nat) (vs:List Value):Prop:=vs=[]\/off+vs.length<=c.size
def Fits.of {c o p m vs}(h:p+vs.length<=m)(hm:m<=c.size-o):Fits c (o+p) vs:=by
 cases vs with
 | nil=>exact .inl rfl;| cons v vs=>right; grind
def NG {c off vs}(h:Fits c off vs):(xH c off vs).size=c.size:=by
 rcases h with rfl|h;simp[xH];simp[xH]; omega
def R5 {c:Array Value} {o p n:Nat} {vs:List Value} (h:p+vs.length<=n) (hn:n<=c.size-o) :
  ((xH c (o+p) vs).toList.drop o).take n=((c.toList.drop o).take n).take p++(vs++((c.toList.drop o).take n).drop (p+vs.length)):=by
 rcases oG c.size o with ho|ho;have:vs=[]:=List.eq_nil_of_length_eq_zero Z;subst this;have a:n=0:=Z;subst a;simp
 ·have b:(c.toList.take (o+p)).length=min (o+p) c.size:=R
  have hd:(c.toList.take (o+p)).drop o=(c.toList.drop o).take p:=by rw[List.drop_take]; congr 1; omega
  simp only[xH,List.append_assoc];rw[List.drop_append,hd,b,Nat.sub_eq_zero_of_le Z,List.drop_zero,List.take_append,List.take_append,List.take_take,List.length_take,List.length_drop,Array.length_toList,List.take_of_length_le (l:=vs) Z,List.drop_take,List.take_take,Nat.min_comm p,List.drop_drop,Nat.add_assoc,Nat.min_comm n p];congr 3;omega
def aZ6 {c off v vs}(h:off<c.size):xH (c.setIfInBounds off v) (off+1) vs=xH c off (v::vs):=by
 simp only[xH,List.length_cons];grind
def Z4.trans {w w1 w2 b c1 c2 t}(h:Z4 w w1 b c1 t)(k:Z4 w1 w2 b c2 t):Z4 w w2 b c2 t :=⟨k.at_,λx a=>(k.other x a).trans (h.other x a),k.os.trans h.os,k.tape.trans h.tape,k.output.trans h.output,k.size.trans h.size,k.drawn.trans h.drawn⟩
def a6S {b off c t}(h:w.heap[b]?=some (.cells c t (0,0))) v:Z4 w (w.setCell ⟨b,off,none⟩ v) b (c.setIfInBounds off v) t :=⟨by simp[World.setCell,Array.getElem?_modify,h],λx a=>Below.heap_setCell _ _ _ _ a,rfl,rfl,rfl,by simp,rfl⟩
def BJ {b off t}:∀ vs i w c,(∀ v∈vs,v.oneCell'=true)->w.heap[b]?=some (.cells c t (0,0))->Fits c (off+i) vs ->
  ∃ w',(storeCells ⟨b,off,none⟩ vs i).run P w=.ok () w'/\Z4 w w' b (xH c (off+i) vs) t
 | [],i,w,c,_,hc,_=>⟨w,rfl,by simpa[xH]using hc,λ_ _=>rfl,rfl,rfl,rfl,rfl,rfl⟩
 | v::vs,i,w,c,h1,hc,hl=>by
  replace hl:off+i+(vs.length+1)<=c.size:=hl.elim (λh=>by cases h) id;have ht:=a6S (off:=off+i) hc v;have⟨w',e,f⟩:=BJ (b:=b) (off:=off) vs (i+1) _ _ (λu hu=>h1 u (List.mem_cons_of_mem _ hu)) ht.at_ (.inr W);refine⟨w',?_,?_⟩
  ·have a:w.cell? ⟨b,off+i,none⟩=some c[off+i]:=by
    simp only[World.cell?,hc];simp
   have d:w.frozen? ⟨b,off+i,none⟩=false:=by simp[World.frozen?,hc]
   simp only[storeCells,Sem.run_bind,run_store _ _ _ _ _ (h1 v List.mem_cons_self),Addr.add_lit,a,d,Bool.false_eq_true,if_false,Result.andThen_ok,e]
  ·have:=ht.trans f;rwa[<- Nat.add_assoc,aZ6 (c:=c) Z]at this
def RU {b o:Nat} {c:Array Value} {t:TypeId} {k:Nat×Nat} {cs:List PV} (j:w.heap[b]?=some (.cells c t k)) (h:aT w G μ b o cs):VRs w G μ cs ((c.toList.drop o).take cs.length)/\cs.length<=c.size-o:=by
 have⟨vs,d,e⟩:=h.values;have l:=d.length;have a:∀ i,w.cell? ⟨b,i,none⟩=c[i]?:=λi=>by simp[World.cell?,j]
 have hlen:cs.length<=c.size-o:=(by rcases Nat.eq_zero_or_pos cs.length with h0|h0;omega;have:=e (cs.length-1) Z;rw[a]at this;have:=(Array.getElem?_eq_some_iff.1 this).1;omega)
 refine⟨?_,hlen⟩;have:vs=(c.toList.drop o).take cs.length:=by
  apply List.ext_getElem
  ·simp; omega
  ·intro i g m;have:=e i g;rw[a,Array.getElem?_eq_some_iff]at this;have⟨_,f⟩:=this;simp[<- f]
 rw[<- this]; exact d
def FG {b o c t fr cs n}(e:w.heap[b]?=some (.cells c t fr))(h:VRs w G μ cs ((c.toList.drop o).take n)):aT w G μ b o cs :=
 aT.mk λi p hp=>by
  have⟨v,a,d⟩:=h.get hp;refine⟨v,?_,d⟩;rw[List.getElem?_take]at a;split at a
  ·simp only[World.cell?];grind
  grind
def bBO {cs new off}(h:off+new.length<=cs.length):(aO4 cs off new).length=cs.length:=by simp[aO4]; omega
def bME {cs new c vs o off}(h:VRs w G μ cs ((c.toList.drop o).take cs.length))(hn:VRs w G μ new vs)(d:off+new.length<=cs.length)(b:cs.length<=c.size-o) :
  VRs w G μ (aO4 cs off new) (((xH c (o+off) vs).toList.drop o).take cs.length):=by
 have a:=hn.length;rw[R5 Z b,<- List.append_assoc,<- a];exact((h.take off).append hn).append (h.drop _)
def aFI(hW:aX n0 G μ H w){r off new H'}(h:aVY H r off new=some H'){b}(hb:μ.loc r=some b){vs}(hv:VRs w G μ new vs) :
  ∃ w',(storeCells ⟨b,μ.sh r+off,none⟩ vs).run P w=.ok () w'/\Ext n0 w G μ w' G μ/\aX n0 G μ H' w':=by
 unfold aVY at h;cases hk:iN H r with
 | none=>grind
 | some k =>
  rw[hk]at h;simp only at h;cases hc:(!k.frozen&&Nat.ble (off+new.length) k.cells.length&&new.all aDI)with
  | false=>grind
  | true =>
   rw[hc]at h;simp only[oC,oJ]at h;subst h;simp only[oA,Bool.not_eq_true']at hc;obtain⟨⟨hf,hle⟩,hok⟩:=hc;have hle:=oL hle;obtain⟨c,g2,g3,g4,g5,g6⟩:=hW.blk r k b (aG hk) hb;obtain⟨i1,i2⟩:=RU g2 g3;have hvl:=hv.length;have hfit:Fits c (μ.sh r+off) vs:=.of Z i2;obtain⟨w',h1,h2⟩:=BJ (off:=μ.sh r+off) vs 0 w c (VM hok hv) g2 hfit;rw[Nat.add_zero]at h2;have hsz :=NG hfit;have e:=FD hW (aG hk) hf hb g2 h2 hsz
   refine⟨w',h1,e,?_⟩;refine IB hW (aG hk) hf hb g2 h2 hsz hf ?_ ?_ (λg hg=>by cases hg)
   ·exact FG h2.at_ (VRs.mono e.toMono _ _ (bME i1 hv hle i2))
   ·intro hg;rw[hsz,bBO hle]; exact g4 hg
def bGW(d:aX n0 G μ H w){t p v H' x y}(hp:VR w G μ p x)(i:VR w G μ v y)(h:a16 P H t p v=some H') :
  ∃ w',(Instr.storeAt t x y).run P w=.ok () w'/\Ext n0 w G μ w' G μ/\aX n0 G μ H' w':=by
 unfold a16 at h;split at h
 next r off new n l k=>
  cases hn:Nat.beq new.length n with
  | false=>grind
  | true =>
   rw[hn]at h;have hn:=oE hn;obtain⟨b,j,rfl⟩:=hp;have a:=aAC l i;have⟨w',e,f,g⟩:=aFI (P:=P) d h j a;refine⟨w',?_,f,g⟩;have m:=a.length;have c:y.cells.size=n:=W
   simp[Instr.storeAt,Instr.sureAddr,storeVar,run_sizeOf k,c,e]
 grind
def bD3(a:aX n0 G μ H w){t cs c}(b:VRs w G μ cs c.toList):C5 P n0 w G μ (do pure (.pointer (some (<- newRow t c)))) (bV8 H t cs).1 (bV8 H t cs).2:=by
 have e:=b.length;have d:=QZ (on:=none) a c ⟨cs,t,false,false,none⟩ (λi p hp=>by
  have⟨v,f,h⟩:=b.get hp;grind) (λ_=>e.symm) rfl (λg j=>by grind)
 refine⟨.pointer (some ⟨w.heap.size,0,none⟩),w.alloc (.cells c t),G,_,by rfl,OG a _ _ _,d,?_⟩;simp only[bV8];exact⟨_,mH _ _ _ _,by rw[GO]⟩
def bJ1(b:aX n0 G μ H w){t cs c}(d:VRs w G μ cs c.toList)(hn:eM.noRefs cs=true):C5 P n0 w G μ (do pure (.pointer (some (<- newRow t c)))) (.iptr cs) H:=by
 have⟨a,e⟩:=aTX b (.cells c t);refine⟨.pointer (some ⟨w.heap.size,0,none⟩),w.alloc (.cells c t),_,_,by rfl,a,e,?_⟩;refine⟨w.heap.size,0,rfl,.inr rfl,?_⟩;refine aT.mk λj p hp=>?_;have⟨u,g1,g2⟩:=(cZ _ _ hn d).get hp;refine⟨u,?_,VR.mono a.toMono.aH p u g2⟩;simp_all
def a2U {s f p v x}(hp:VR w G μ p x)(h:aV8 P s f p=some v):∃ v',(Instr.fieldAt s x f).run P w=.ok v' w/\VR w G μ v v':=by
 unfold aV8 aW2 at h;split at h
 next fd a=>
  split at a
  next i hu=>
   split at h
   ·rename_i n c;cases p <;> simp only[oJ]at h <;> try (cases h; done)
    all_goals subst h
    rw[VR]at hp;obtain⟨b,off,rfl,e,g⟩:=hp;refine⟨.pointer (some ⟨b,off+fd.offset,none⟩),?_,?_⟩;simp[Instr.fieldAt,run_underlying hu,a,Instr.sureAddr,fieldPlace,run_sizeOf c,Addr.add_lit];rw[VR]; exact⟨b,_,rfl,e,g.drop _⟩;rename_i r off;rw[VR]at hp;obtain⟨b,d,rfl⟩:=hp;refine⟨.pointer (some ⟨b,μ.sh r+off+fd.offset,none⟩),?_,?_⟩;simp[Instr.fieldAt,run_underlying hu,a,Instr.sureAddr,fieldPlace,run_sizeOf c,Addr.add_lit];rw[VR]; exact⟨b,d,by rw[Nat.add_assoc]⟩
   cases h
  cases a
 cases h
def HQ {i n}(h:aE i n=true):0<=i/\i<n:=by
 cases i with
 | ofNat m =>
  simp only[aE,cF]at h;grind
 | negSucc m=>cases h
def a1Z {t p v x k i}(hp:VR w G μ p x)(h:aPX P t p i=some v):∃ v',(Instr.indexAt t x (.int k i)).run P w=.ok v' w/\VR w G μ v v':=by
 unfold aPX at h;split at h
 next e hu=>
  split at h
  next sz f=>
   cases p <;> simp only at h <;> try (cases h; done)
   ·rename_i cs n cap;cases a:(aE i n&&Nat.blt (i.toNat*sz) cs.length)with
    | false=>rw[a]at h; cases h
    | true =>
     rw[a]at h;simp only[oC,oJ]at h;subst h;simp only[oA]at a;have hi:=HQ a.1;have g:i.toNat*sz<cs.length:=by have:=oL a.2; omega
     rw[VR]at hp;obtain⟨ao,c,rfl,q,-,o⟩:=hp;rcases o with rfl|⟨b,off,rfl,l,d⟩
     ·simp at g
     ·refine⟨.pointer (some ⟨b,off+i.toNat*sz,none⟩),?_,?_⟩
      ·simp[Instr.indexAt,asIntOf,run_underlying hu,hi.1,hi.2,run_sizeOf f,Addr.add_lit]
      ·rw[VR]; exact⟨b,_,rfl,l,d.drop _⟩
   ·rename_i r off n cap m;cases a:aE i n with
    | false=>rw[a]at h; cases h
    | true =>
     rw[a]at h;simp only[oC,oJ]at h;subst h;have hi:=HQ a;rw[VR]at hp;obtain⟨b,c,j,rfl,_⟩:=hp;refine⟨.pointer (some ⟨b,μ.sh r+off+i.toNat*sz,none⟩),?_,?_⟩
     ·simp[Instr.indexAt,asIntOf,run_underlying hu,hi.1,hi.2,run_sizeOf f,Addr.add_lit]
     ·rw[VR]; exact⟨b,j,by rw[Nat.add_assoc]⟩
  cases h
 next n e hu=>
  split at h
  next sz f=>
   cases p <;> simp only at h <;> try (cases h; done)
   ·rename_i cs;cases a:aE i n with
    | false=>rw[a]at h; cases h
    | true =>
     rw[a]at h;simp only[oC,oJ]at h;subst h;have hi:=HQ a;rw[VR]at hp;obtain⟨b,off,rfl,l,d⟩:=hp;refine⟨.pointer (some ⟨b,off+i.toNat*sz,none⟩),?_,?_⟩
     ·simp[Instr.indexAt,asIntOf,run_underlying hu,hi.1,hi.2,run_sizeOf f,Addr.add_lit,Instr.sureAddr]
     ·rw[VR]; exact⟨b,_,rfl,l,d.drop _⟩
   ·rename_i r off;cases a:aE i n with
    | false=>rw[a]at h; cases h
    | true =>
     rw[a]at h;simp only[oC,oJ]at h;subst h;have hi:=HQ a;rw[VR]at hp;obtain⟨b,j,rfl⟩:=hp;refine⟨.pointer (some ⟨b,μ.sh r+off+i.toNat*sz,none⟩),?_,?_⟩
     ·simp[Instr.indexAt,asIntOf,run_underlying hu,hi.1,hi.2,run_sizeOf f,Addr.add_lit,Instr.sureAddr]
     ·rw[VR]; exact⟨b,j,by rw[Nat.add_assoc]⟩
  cases h
 cases h
end
section
variable {P:Program} {n0:Nat->Prop} {w:World} {G:Gd} {μ:Mp} {H:Heap} {F:Frm} {a:Act} {nt:Nat}
def aBM {t cs v vs off}(c:VRs w G μ cs vs.toList)(h:QU P t (cs.drop off)=some v) w1:∃ v',(part t vs off).run P w1=.ok v' w1/\VR w G μ v v':=by
 unfold QU at h;cases b:bTJ P t with
 | none=>grind
 | some g =>
  rw[b]at h;cases g with
  | false =>
   simp only[List.head?_drop]at h;have⟨v',a,e⟩:=c.get h;refine⟨v',?_,e⟩;have a :=by simpa using a
   simp[part,aTQ b,a]
  | true =>
   cases d:BL P t with
   | none=>grind
   | some n =>
    rw[d]at h;simp only at h;cases hn:Nat.ble n (cs.drop off).length with
    | false=>grind
    | true =>
     rw[hn]at h;simp only[oC,oJ]at h;subst h;refine⟨.agg (vs.extract off (off+n)),by simp[part,aTQ b,run_sizeOf d],?_⟩;refine⟨_,rfl,?_⟩;have:=(c.drop off).take n
     simp_all
def bHH {s f fd cs v x}(b:VR w G μ (.agg cs) x)(a:aW2 P s f=some fd)(h:QU P fd.type (cs.drop fd.offset)=some v) w1:∃ v',(Instr.field s x f).run P w1=.ok v' w1/\VR w G μ v v':=by
 obtain⟨vs,rfl,e⟩:=b;unfold aW2 at a;split at a;rename_i g hu;have⟨v',c,d⟩:=aBM e h w1;exact⟨v',by simp[Instr.field,run_underlying hu,a,asAgg,c],d⟩;grind
def bEJ {t e n sz k i cs v x} (a:VR w G μ (.agg cs) x) (hu:P.underlying t=some (.array n e)) (f:BL P e=some sz) (hi:aE i n=true)
  (h:QU P e (cs.drop (i.toNat*sz))=some v) w1:∃ v',(Instr.index t x (.int k i)).run P w1=.ok v' w1/\VR w G μ v v':=by
 obtain⟨vs,rfl,d⟩:=a;have hi:=HQ hi;have⟨v',b,c⟩:=aBM d h w1;exact⟨v',by simp[Instr.index,asIntOf,run_underlying hu,hi.1,hi.2,run_sizeOf f,b],c⟩
def bAB {i cs v x}(c:VR w G μ (.tuple cs) x)(h:cs[i]?=some v) w1:∃ v',(Instr.extract x i).run P w1=.ok v' w1/\VR w G μ v v':=by
 obtain⟨vs,rfl,b⟩:=c;have⟨v',a,d⟩:=b.get h;have a :=by simpa using a
 exact⟨v',by simp[Instr.extract,a],d⟩
def aOZ {off}:∀ l j cells,off+j+l.length<=cells.size->(l.zipIdx j).foldl (λcs x=>cs.setIfInBounds (off+x.2) x.1) cells=xH cells (off+j) l
 | [],j,cells,_=>by simp[xH]
 | v::l,j,cells,h=>by
  simp only[List.length_cons]at h;rw[List.zipIdx_cons,List.foldl_cons,aOZ l (j+1) _ W,<- Nat.add_assoc,aZ6 Z]
def bAG {cs new c vs off}(h:VRs w G μ cs c.toList)(hn:VRs w G μ new vs):VRs w G μ (aO4 cs off new) (xH c off vs).toList:=by
 simp only[aO4,hn.length];exact((h.take off).append hn).append (h.drop _)
def aHG(f:fG w G μ nt F a) place:∀ (parts:List (Nat×Operand)) cs out c,VRs w G μ cs c.toList->aA7 place cs (parts.map λp=>(p.1,ev F p.2))=some out ->
  ∃ c',Instr.fill place c (parts.map λp=>(p.1,a.eval p.2))=some c'/\VRs w G μ out c'.toList
 | [],cs,out,c,hc,h=>by
  simp only[List.map_nil,aA7,oJ]at h;exact⟨c,rfl,h ▸ hc⟩
 | (i,x)::parts,cs,out,c,hc,h=>by
  simp only[List.map_cons,aA7]at h;split at h
  next off size new hp d=>
   cases b:(Nat.beq new.length size&&Nat.ble (off+new.length) cs.length)with
   | false=>rw[b]at h; cases h
   | true =>
    rw[b]at h;simp only[oA]at b;have m:=oE b.1;have n:=oL b.2;have g:=aAC d (cT f x);have j:=g.length;have e:=hc.length;simp only[Array.length_toList]at j e;have⟨c',o,k⟩:=aHG f place parts _ out _ (bAG (off:=off) hc g) h;refine⟨c',?_,k⟩;simp only[List.map_cons,Instr.fill,hp];have l:=aOZ (off:=off) (a.eval x).cells.toList 0 c (by simp only[Array.length_toList]; omega);rw[<- Array.foldl_toList]
    grind
  ·cases h
def aCD(parts:Array (Nat×Operand))(ρ:Operand->Value):(parts.map λ(i,x)=>(i,ρ x)).toList=parts.toList.map λp=>(p.1,ρ p.2):=R
def bHL(j:fG w G μ nt F a){t}{parts:Array (Nat×Operand)}{v}(h:bEC P F t parts.toList=some v) w1:∃ v',(Instr.build t (parts.map λ(i,x)=>(i,a.eval x))).run P w1=.ok v' w1/\VR w G μ v v':=by
 unfold bEC at h;split at h;rename_i it n e hit hu;split at h;rename_i z k hz b;split at h;rename_i cs c;simp only[oJ]at h;subst h;have⟨c',d,g⟩:=aHG j _ _ _ _ _ (KC _) c;refine⟨.agg c',run_build w1 t _ c' ?_,by rw[VR]; exact⟨_,rfl,g⟩⟩;simp only[Program.built,hit,hu,hz,b,aCD,d];cases h;cases h;rename_i it fields hit hu;split at h;rename_i z places hz f;split at h;rename_i cs c;simp only[oJ]at h;subst h;have⟨c',d,g⟩:=aHG j _ _ _ _ _ (KC _) c;refine⟨.agg c',run_build w1 t _ c' ?_,by rw[VR]; grind⟩;simp only[Program.built,hit,hu,hz,f,aCD,d];cases h;cases h;cases h
def aKA z n:VRs w G μ (UK z n) (madeCells z.cells n).toList:=by
 unfold UK;split
 next v hz=>
  have e:madeCells z.cells n=Array.replicate n v:=by
   have a:z.cells=#[v]:=W
   apply Array.ext
   ·simp[madeCells]
   ·simp[madeCells,a,Nat.mod_one]
  have:=VRs.lits (w:=w) (G:=G) (μ:=μ) (List.replicate n v);simp_all
 have:=VRs.lits (w:=w) (G:=G) (μ:=μ) ((List.range n).map λi=>z.cells[i%z.cells.size]!);simpa[madeCells,Function.comp_def]using this
def aXS(hW:aX n0 G μ H w)(hF:fG w G μ nt F a){t len}{parts:Array (Nat×Operand)}{v}(h:aKH P F t len parts.toList=some v) :
  C5 P n0 w G μ (Instr.buildSlice t len (parts.map λ(i,x)=>(i,a.eval x))) v H:=by
 unfold aKH at h;split at h
 next e hu=>
  split at h
  next sz z hs hz=>
   cases hb:(Nat.ble (len*sz) 16777216&&Nat.ble 1 z.cells.size)with
   | false=>rw[hb]at h; cases h
   | true =>
    rw[hb]at h;simp only[oA]at hb;have h1:=oL hb.1;split at h
    ·rename_i cs hf;cases hj:eM.noRefs cs with
     | false=>rw[hj]at h; cases h
     | true =>
      rw[hj]at h;simp only[oC,oJ]at h;subst h;obtain⟨c',h3,h4⟩:=aHG hF _ _ _ _ _ (aKA z (len*sz)) hf;have hzero:∃ i,P.info? e=some i/\i.zero=some z:=by
       unfold N6 at hz;grind
      obtain⟨i,hi,hz'⟩:=hzero;obtain⟨e1,e2⟩:=aTX hW (.cells c' e);refine⟨.slice (some ⟨w.heap.size,0,none⟩) len len,w.alloc (.cells c' e),_,_,?_,e1,e2,?_⟩
      ·have hn:¬ (len*sz>2^24):=Z
       have hrow:(Array.range (len*sz)).map (λx=>z.cells[x%z.cells.size]!)=madeCells z.cells (len*sz):=rfl;have h3':Instr.fill (λi=>some (i*sz,sz)) (Array.map (λx=>z.cells[x%z.cells.size]!) (Array.range (len*sz))) (parts.map λ(i,x)=>(i,a.eval x)).toList=some c':=by rw[aCD,hrow]; exact h3
       by_cases h0:len*sz=0
       ·have h3'':Instr.fill (λi=>some (i*sz,sz)) (Array.map (λx=>(#[]:Array Value)[x%0]!) (Array.range (len*sz))) (parts.map λ(i,x)=>(i,a.eval x)).toList=some c':=by
         grind
        rw[h0]at h3'';simp[Instr.buildSlice,run_underlying hu,run_sizeOf hs,h0,newRow]
        simp_all
       ·simp only[Instr.buildSlice,Sem.run_bind,run_underlying hu,Result.andThen_ok,run_sizeOf hs,if_neg hn,if_neg h0];simp only[Sem.run_pure,Result.andThen_ok,Sem.run_bind,zeroValue,N9 hi,hz',h3'];simp[newRow]
      ·rw[VR];refine⟨_,_,rfl,oM _,λk hk=>(by cases hk; rfl),?_⟩;refine .inr ⟨w.heap.size,0,rfl,.inr rfl,?_⟩;refine aT.mk λj p hp=>?_
       obtain⟨u,g1,g2⟩:=(cZ _ _ hj h4).get hp;refine⟨u,?_,VR.mono e1.toMono.aH p u g2⟩
       simp_all
    ·cases h
  cases h
 cases h
def bCI {place}:∀ {parts c c'},Instr.fill place c parts=some c'->c'.size=c.size
 | [],c,c',h=>by
  simp only[Instr.fill,oJ]at h;rw[h]
 | (i,v)::rest,c,c',h=>by
  unfold Instr.fill at h;split at h
  ·cases h
  next off size hp=>
   split at h
   ·cases h
   ·have:=bCI h;rw[this];have key:∀ (l:List (Value×Nat)) (cs:Array Value),(l.foldl (λcs x=>cs.setIfInBounds (off+x.2) x.1) cs).size=cs.size:=by
     intro l
     induction l with
     | nil=>intro cs; rfl
     | cons x l a=>grind
    rw[<- Array.foldl_toList];grind
def aWC(o:aX n0 G μ H w)(C:fG w G μ nt F a){t len}{parts:Array (Nat×Operand)}{v H'}(h:aE0 P F H t len parts.toList=some (v,H')) :
  C5 P n0 w G μ (Instr.buildSlice t len (parts.map λ(i,x)=>(i,a.eval x))) v H':=by
 unfold aE0 at h;split at h
 next e hu=>
  split at h
  next sz z q hz=>
   cases d:(Nat.ble (len*sz) 16777216&&Nat.ble 1 z.cells.size)with
   | false=>rw[d]at h; cases h
   | true =>
    rw[d]at h;simp only[oC]at h;simp only[oA]at d;have I:=oL d.1;split at h
    ·rename_i cs A;obtain⟨rfl,rfl⟩:=h;have⟨c',r,s⟩:=aHG C _ _ _ _ _ (aKA z (len*sz)) A;have hzero:∃ i,P.info? e=some i/\i.zero=some z:=by
      unfold N6 at hz;grind
     have⟨i,hi,f⟩:=hzero;have B:=s.length;have m:=QZ (on:=none) o c' ⟨cs,e,false,false,none⟩ (λj p hp=>by
      have⟨u,g1,g2⟩:=s.get hp;exact⟨u,by simpa using g1,g2⟩) (λ_=>B.symm) rfl (λg D=>by cases D)
     have E:c'.size=len*sz:=by
      have y:=bCI r;rw[y]; simp[madeCells]
     refine⟨.slice (some ⟨w.heap.size,0,none⟩) len len,w.alloc (.cells c' e),G,_,?_,OG o _ _ _,m,?_⟩
     ·have hn:¬ (len*sz>2^24):=Z
      have c:(Array.range (len*sz)).map (λx=>z.cells[x%z.cells.size]!)=madeCells z.cells (len*sz):=rfl;have n:Instr.fill (λi=>some (i*sz,sz)) (Array.map (λx=>z.cells[x%z.cells.size]!) (Array.range (len*sz))) (parts.map λ(i,x)=>(i,a.eval x)).toList=some c':=by rw[aCD,c]; exact r
      by_cases l:len*sz=0
      ·have b:Instr.fill (λi=>some (i*sz,sz)) (Array.map (λx=>(#[]:Array Value)[x%0]!) (Array.range (len*sz))) (parts.map λ(i,x)=>(i,a.eval x)).toList=some c':=by
        grind
       rw[l]at b;simp[Instr.buildSlice,run_underlying hu,run_sizeOf q,l,newRow]
       simp_all
      ·simp only[Instr.buildSlice,Sem.run_bind,run_underlying hu,Result.andThen_ok,run_sizeOf q,if_neg hn,if_neg l];simp only[Sem.run_pure,Result.andThen_ok,Sem.run_bind,zeroValue,N9 hi,f,n];simp[newRow]
     ·rw[VR,GO];simp only[Nat.zero_add];refine⟨w.heap.size,_,mH _ _ _ _,rfl,oM _,λk m=>(by cases m; rfl),?_⟩;refine⟨c',e,(0,0),?_,?_⟩
      ·show (w.heap.push _)[w.heap.size]?=_;simp
      ·grind
    ·cases h
  cases h
 cases h
def a0S(hW:aX n0 G μ H w){t l c v H' x y}(hx:VR w G μ l x)(hy:VR w G μ c y)(h:aW9 P H t l c=some (v,H')):C5 P n0 w G μ (Instr.makeSlice t x y) v H':=by
 unfold aW9 at h;split at h
 next e kl l kc c hu=>
  subst hx; subst hy;split at h
  next i hi=>
   split at h
   ·rename_i z hz;cases hb:(decide (0<=l)&&decide (l<=c)&&decide (c<=1048576)&&Nat.ble i.bytes 65536&&Nat.ble 1 i.size&&Nat.beq z.cells.size i.size)with
    | false=>rw[hb]at h; cases h
    | true =>
     rw[hb]at h;obtain⟨rfl,rfl⟩:=h;simp only[oA,decide_eq_true_eq]at hb;obtain⟨⟨⟨⟨⟨h1,h2⟩,h3⟩,h4⟩,h5⟩,h6⟩:=hb;have h4:=oL h4;have hbytes:(i.bytes:Int)*c<=281474976710656:=by
      have:(i.bytes:Int)*c<=65536*1048576:=Int.mul_le_mul Z h3 Z Z;omega
     have hr:=run_make (P:=P) w t e i z hu hi hz kl kc l c h1 h2 hbytes Z;have hv:=aKA (w:=w) (G:=G) (μ:=μ) z (c.toNat*i.size);have hl:=hv.length;have hk:=QZ (on:=none) hW (madeCells z.cells (c.toNat*i.size)) ⟨UK z (c.toNat*i.size),e,false,false,none⟩ (λj p hp=>by
      obtain⟨u,g1,g2⟩:=hv.get hp;exact⟨u,by simpa using g1,g2⟩) (λ_=>hl.symm) rfl (λg hg=>by cases hg)
     refine⟨_,_,G,_,hr,OG hW _ _ _,hk,?_⟩;rw[VR,GO];refine⟨w.heap.size,_,mH _ _ _ _,rfl,by omega,λk hk=>(by cases hk; rfl),?_⟩;refine⟨madeCells z.cells (c.toNat*i.size),e,(0,0),?_,?_⟩
     ·show (w.heap.push _)[w.heap.size]?=_;simp
     ·simp[madeCells]
   cases h
  cases h
 cases h
def bZC {x d l y}(h:bnd x d=some l)(a:match x,y with|some p,some v=>VR w G μ p v|none,none=>True|_,_=>False) :
  (x=none/\y=none/\l=d)\/(∃ k i,y=some (.int k i)/\0<=i/\l=i.toNat/\x≠none):=by
 cases x with
 | none=>cases y with
  | none=>simp only[bnd]at h; grind
  | some v=>exact a.elim
 | some p=>cases y with
  | none=>grind
  | some v =>
   cases p with
   | lit u =>
    simp only[VR]at a;subst a;cases v with
    | int k i =>
     simp only[bnd]at h;grind
    | _=>simp[bnd]at h
   | _=>simp[bnd]at h
def bM6 {tys ty p v x}(hp:VR w G μ p x)(h:b06 P tys p=some v) w1:∃ v',(Builtin.len_ tys ty #[x]).run P w1=.ok v' w1/\VR w G μ v v':=by
 unfold b06 at h;split at h
 next t ts ht=>
  have a:tys[0]?=some t:=by rw[<- Array.getElem?_toList,ht]; rfl
  split at h;rename_i e cs n cap hu;simp only[oJ]at h;subst h;obtain⟨ao,c,rfl,_⟩:=hp;exact⟨goInt n,by simp[Builtin.len_,a,run_underlying hu],by rw[VR]⟩;rename_i e r off n cap sz hu;simp only[oJ]at h;subst h;obtain⟨b,c,_,rfl,_⟩:=hp;exact⟨goInt n,by simp[Builtin.len_,a,run_underlying hu],by rw[VR]⟩;rename_i _ n e hu;simp only[oJ]at h;subst h;exact⟨goInt n,by simp[Builtin.len_,a,run_underlying hu],by rw[VR]⟩;cases h
 cases h
end
end Go.PM
