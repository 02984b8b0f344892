/- Texts of one proof, joined (1). -/
import Derived.Shelf.Small.Wraps
import Derived.Shelf.Strconv.Atoi
import Derived.Shelf.Strconv.Itoa0
import Derived.Shelf.Strconv.Itoa1
import Derived.Shelf.LaysM
import Derived.Shelf.Strconv.Itoa2
import Derived.Shelf.Strconv.Itoa3
import Derived.Shelf.Strconv.AtoiErrFast
import Derived.Shelf.Strconv.ParseIntEmpty
import Derived.Shelf.Strconv.AtoiFail
import Derived.Shelf.Strconv.Clone
import Derived.Shelf.Strconv.SyntaxError
import Derived.Shelf.LaysC
import Derived.Shelf.Strconv.ToError
import Derived.Shelf.Strconv.Lower
import Derived.Shelf.Strconv.ParseUint10
import Derived.Shelf.Strconv.ParseUint10Empty
import Derived.Shelf.Strconv.ParseUint10Any
import Derived.Shelf.Strconv.ParseInt10
import Derived.Shelf.Strconv.AtoiLong
import Derived.Shelf.Strconv.AtoiInnerAll
import Derived.Shelf.Strconv.RangeError
import Derived.Shelf.Strconv.ToErrorRange
import Derived.Shelf.Strconv.AtoiAll
import Derived.Shelf.Strconv.ParseUintEmpty
import Derived.Shelf.Strconv.ParseUint10b64
import Derived.Shelf.Strconv.ParseUint10b32
import Derived.Shelf.Strconv.ParseUint10b16
import Derived.Shelf.Strconv.ParseUint10b8
import Derived.Shelf.Strconv.ParseUint10At
import Derived.Shelf.Strconv.ParseInt10At64
import Derived.Shelf.Strconv.ParseInt10At32
import Derived.Shelf.Strconv.ParseInt10At16
import Derived.Shelf.Strconv.ParseInt10At8
import Derived.Shelf.Strconv.ParseInt10All
import Derived.Shelf.Strconv.ParseIntPublic10
import Derived.Ground.MpProg
import Derived.Shelf.Pu.ParseUintPublic10
import Derived.Test.YtmghkhgpkefgeaaGreatDoorProg
import Derived.WalkKit
import Derived.Deep.LoopGhost
import Derived.Orders
import Derived.OwnWalk
import Derived.Laws.Tables
import Derived.Laws.MakeOwn
import Derived.ChangeKeysEq
import Derived.Laws.Append
set_option linter.unusedSimpArgs false
set_option linter.unusedVariables false
noncomputable section
namespace Go.Proofs
open Go.Shelf Tryz
def Tryz.aSB:Go.Shelf.Ren:=⟨fun|172=>212|244=>232|245=>233|247=>241|279=>242|280=>243|281=>244|282=>245|287=>252|316=>253|171=>185|205=>254|321=>259|322=>260|243=>221|246=>237|283=>248|284=>249|285=>250|286=>251|129=>160|317=>255|318=>256|319=>257|320=>258|337=>261|338=>262|n=>n,fun|9=>9|3=>3|75=>219|76=>220|4=>4|5=>5|167=>259|37=>253|0=>0|85=>247|2=>2|168=>260|53=>180|175=>263|46=>143|210=>271|127=>279|145=>282|143=>280|21=>21|171=>265|173=>267|212=>275|51=>178|20=>20|213=>276|232=>283|233=>284|80=>285|n=>n,fun|15=>0|16=>1|17=>2|18=>3|19=>4|n=>n⟩
theorem Tryz.a3S:Go.Proofs.Lays.n172 Tryz.prog Tryz.aSB:={
 mixed:=by kernel_rfl
 f129:=func160.trans (congrArg some (by kernel_rfl))
 f171:=func185.trans (congrArg some (by kernel_rfl))
 f172:=func212.trans (congrArg some (by kernel_rfl))
 f205:=func254.trans (congrArg some (by kernel_rfl))
 f243:=func221.trans (congrArg some (by kernel_rfl))
 f244:=func232.trans (congrArg some (by kernel_rfl))
 f245:=func233.trans (congrArg some (by kernel_rfl))
 f246:=func237.trans (congrArg some (by kernel_rfl))
 f247:=func241.trans (congrArg some (by kernel_rfl))
 f279:=func242.trans (congrArg some (by kernel_rfl))
 f280:=func243.trans (congrArg some (by kernel_rfl))
 f281:=func244.trans (congrArg some (by kernel_rfl))
 f282:=func245.trans (congrArg some (by kernel_rfl))
 f283:=func248.trans (congrArg some (by kernel_rfl))
 f284:=func249.trans (congrArg some (by kernel_rfl))
 f285:=func250.trans (congrArg some (by kernel_rfl))
 f286:=func251.trans (congrArg some (by kernel_rfl))
 f287:=func252.trans (congrArg some (by kernel_rfl))
 f316:=func253.trans (congrArg some (by kernel_rfl))
 f317:=func255.trans (congrArg some (by kernel_rfl))
 f318:=func256.trans (congrArg some (by kernel_rfl))
 f319:=func257.trans (congrArg some (by kernel_rfl))
 f320:=func258.trans (congrArg some (by kernel_rfl))
 f321:=func259.trans (congrArg some (by kernel_rfl))
 f322:=func260.trans (congrArg some (by kernel_rfl))
 f337:=func261.trans (congrArg some (by kernel_rfl))
 f338:=func262.trans (congrArg some (by kernel_rfl))
 t0:=underlying0
 a0:=isAgg0
 z0:=sizeOf0
 v0:=zeroValue0
 t2:=underlying2
 a2:=isAgg2
 z2:=sizeOf2
 v2:=zeroValue2
 t3:=underlying3
 a3:=isAgg3
 z3:=sizeOf3
 v3:=zeroValue3
 t4:=underlying4
 a4:=isAgg4
 z4:=sizeOf4
 v4:=zeroValue4
 t5:=underlying5
 a5:=isAgg5
 z5:=sizeOf5
 v5:=zeroValue5
 t9:=underlying9
 a9:=isAgg9
 z9:=sizeOf9
 v9:=zeroValue9
 t20:=underlying20
 a20:=isAgg20
 z20:=sizeOf20
 v20:=zeroValue20
 t21:=underlying21
 a21:=isAgg21
 z21:=sizeOf21
 v21:=zeroValue21
 t37:=underlying253
 a37:=isAgg253
 z37:=sizeOf253
 v37:=zeroValue253
 t46:=underlying143
 a46:=isAgg143
 z46:=sizeOf143
 v46:=zeroValue143
 t51:=underlying178
 a51:=isAgg178
 z51:=sizeOf178
 v51:=zeroValue178
 t53:=underlying180
 a53:=isAgg180
 z53:=sizeOf180
 v53:=zeroValue180
 t75:=underlying219
 a75:=isAgg219
 z75:=sizeOf219
 v75:=zeroValue219
 t76:=underlying220
 a76:=isAgg220
 z76:=sizeOf220
 v76:=zeroValue220
 t85:=underlying247
 a85:=isAgg247
 z85:=sizeOf247
 v85:=zeroValue247
 t127:=underlying279
 a127:=isAgg279
 z127:=sizeOf279
 v127:=zeroValue279
 t143:=underlying280
 a143:=isAgg280
 z143:=sizeOf280
 v143:=zeroValue280
 t145:=underlying282
 a145:=isAgg282
 z145:=sizeOf282
 v145:=zeroValue282
 t167:=underlying259
 a167:=isAgg259
 z167:=sizeOf259
 v167:=zeroValue259
 t168:=underlying260
 a168:=isAgg260
 z168:=sizeOf260
 v168:=zeroValue260
 t171:=underlying265
 a171:=isAgg265
 z171:=sizeOf265
 v171:=zeroValue265
 t173:=underlying267
 a173:=isAgg267
 z173:=sizeOf267
 v173:=zeroValue267
 t175:=underlying263
 a175:=isAgg263
 z175:=sizeOf263
 v175:=zeroValue263
 t210:=underlying271
 a210:=isAgg271
 z210:=sizeOf271
 v210:=zeroValue271
 t212:=underlying275
 a212:=isAgg275
 z212:=sizeOf275
 v212:=zeroValue275
 t213:=underlying276
 a213:=isAgg276
 z213:=sizeOf276
 t232:=underlying283
 a232:=isAgg283
 z232:=sizeOf283
 v232:=zeroValue283
 t233:=underlying284
 a233:=isAgg284
 z233:=sizeOf284
 v233:=zeroValue284
 g15:=by kernel_rfl
 g16:=by kernel_rfl
 g17:=by kernel_rfl
 g18:=by kernel_rfl
 g19:=by kernel_rfl }
open Go.RowKit in
/-- strconv.Atoi: "Atoi is equivalent to ParseInt(s, 10, 0), converted to type int.": AT A DECIMAL NUMERAL OF AT MOST 18 BYTES: its value,and a nil error. The world behind the call: the one new row that the library's '[]byte(s)' lays. (LAID: no walk: one application.) -/
theorem Tryz.strconv_Atoi (s:ByteArray) (n:Int) (hl:s.size<=18) (h:Lib.atoi s.data.toList=some n) (w:World) :
  Calls Tryz.prog 212 #[.string s] w λe w'=>e=.returned (.tuple #[.int .i64 n,.nilIface])/\∃ t,w'=Lib.bytesWorld w 5 t:=Any.strconv_Atoi Tryz.a3S s n hl h w
def Tryz.aSC:Go.Shelf.Ren:=⟨fun|283=>248|n=>n,fun|3=>3|9=>9|4=>4|n=>n,fun|n=>n⟩
theorem Tryz.a29:Go.Proofs.Lays.n283 Tryz.prog Tryz.aSC:={
 mixed:=by kernel_rfl
 f283:=func248.trans (congrArg some (by kernel_rfl))
 t3:=underlying3
 a3:=isAgg3
 z3:=sizeOf3
 v3:=zeroValue3
 t4:=underlying4
 a4:=isAgg4
 z4:=sizeOf4
 v4:=zeroValue4
 t9:=underlying9
 a9:=isAgg9
 z9:=sizeOf9
 v9:=zeroValue9 }
open Go.Lib in
/-- internal/strconv.small: "small returns the string for an i with 0 <= i < nSmalls.": i's decimal numeral. The world is as1 it was. (LAID: no walk: one application.) -/
theorem Tryz.internal_strconv_small (i:Nat) (h:i<100) (w:World) :
  Calls Tryz.prog 248 #[.int .i64 i] w λe w'=>e=.returned (.string ⟨(Lib.decDigits i).toArray⟩)/\w'=w:=Any.internal_strconv_small Tryz.a29 i h w
def Tryz.aOE:Go.Shelf.Ren:=⟨fun|284=>249|129=>160|317=>255|318=>256|n=>n,fun|53=>180|3=>3|212=>275|0=>0|4=>4|46=>143|5=>5|9=>9|n=>n,fun|17=>2|n=>n⟩
theorem Tryz.a06:Go.Proofs.LaysM.n284 Tryz.prog Tryz.aOE:={
 mixed:=by kernel_rfl
 f129:=func160.trans (congrArg some (by kernel_rfl))
 f284:=func249.trans (congrArg some (by kernel_rfl))
 f317:=func255.trans (congrArg some (by kernel_rfl))
 f318:=func256.trans (congrArg some (by kernel_rfl))
 t0:=underlying0
 a0:=isAgg0
 z0:=sizeOf0
 v0:=zeroValue0
 t3:=underlying3
 a3:=isAgg3
 z3:=sizeOf3
 v3:=zeroValue3
 t4:=underlying4
 a4:=isAgg4
 z4:=sizeOf4
 v4:=zeroValue4
 t5:=underlying5
 a5:=isAgg5
 z5:=sizeOf5
 v5:=zeroValue5
 t9:=underlying9
 a9:=isAgg9
 z9:=sizeOf9
 v9:=zeroValue9
 t46:=underlying143
 a46:=isAgg143
 z46:=sizeOf143
 v46:=zeroValue143
 t53:=underlying180
 a53:=isAgg180
 z53:=sizeOf180
 v53:=zeroValue180
 t212:=underlying275
 a212:=isAgg275
 z212:=sizeOf275
 v212:=zeroValue275
 g17:=by kernel_rfl
 i0:=by kernel_rfl
 i3:=by kernel_rfl
 i4:=by kernel_rfl
 i5:=by kernel_rfl
 i9:=by kernel_rfl
 i46:=by kernel_rfl
 i53:=by kernel_rfl
 i212:=by kernel_rfl
 m17:=by kernel_rfl }
open Go.Lib in
/-- internal/strconv.numDigits,at a d that is not 0: THE NUMBER OF d's DECIMAL DIGITS. The world is as1 it was. (LAID: no walk: one application.) -/
theorem Tryz.internal_strconv_numDigits (u:Nat) (h1:1<=u) (h2:u<18446744073709551616) (w:World) (htab:Lib.TabIs Tryz.prog w "internal/strconv.uint64pow10" .u64 Lib.pow10Tab) :
  Calls Tryz.prog 249 #[.int .u64 u] w λe w'=>e=.returned (.int .i64 (Lib.nDigits u))/\w'=w:=Any.internal_strconv_numDigits Tryz.a06 u h1 h2 w htab
def Tryz.aQM:Go.Shelf.Ren:=⟨fun|285=>250|n=>n,fun|37=>253|53=>180|3=>3|4=>4|51=>178|9=>9|5=>5|0=>0|n=>n,fun|n=>n⟩
theorem Tryz.a3C:Go.Proofs.Lays.n285 Tryz.prog Tryz.aQM:={
 mixed:=by kernel_rfl
 f285:=func250.trans (congrArg some (by kernel_rfl))
 t0:=underlying0
 a0:=isAgg0
 z0:=sizeOf0
 v0:=zeroValue0
 t3:=underlying3
 a3:=isAgg3
 z3:=sizeOf3
 v3:=zeroValue3
 t4:=underlying4
 a4:=isAgg4
 z4:=sizeOf4
 v4:=zeroValue4
 t5:=underlying5
 a5:=isAgg5
 z5:=sizeOf5
 v5:=zeroValue5
 t9:=underlying9
 a9:=isAgg9
 z9:=sizeOf9
 v9:=zeroValue9
 t37:=underlying253
 a37:=isAgg253
 z37:=sizeOf253
 v37:=zeroValue253
 t51:=underlying178
 a51:=isAgg178
 z51:=sizeOf178
 v51:=zeroValue178
 t53:=underlying180
 a53:=isAgg180
 z53:=sizeOf180
 v53:=zeroValue180 }
open Go.RowKit Go.Sort Go.Lib in
/-- internal/strconv.formatBase10: "formatBase10 formats the decimal representation of u into a. The caller is responsible for ensuring that a is big enough to hold u. If a is too big, leading zeros will be filled in as needed.": THE ROW HOLDS u's DIGITS ('FmtInv .. 0 ..': every place t holds 'dg u (len-1-t)'); all else is as1 it was but for the count of draws. (LAID: no walk: one application.) -/
theorem Tryz.internal_strconv_formatBase10 (blk off cap:Nat) (u:Nat) (d:Array UInt8) (w:World) (hH:Holds (λ(b:UInt8)=>Value.int .u8 (b.toNat:Int)) w blk off d) (hu:u<10^d.size) (hu64:u<18446744073709551616) (hsz:d.size<4611686018427387904) :
  Calls Tryz.prog 250 #[.slice (some ⟨blk,off,none⟩) d.size cap,.int .u64 u] w λe w' =>
   e=.returned (.tuple #[])/\∃ (n v':Nat) (dk:Array UInt8),w'=(putRow (λ(b:UInt8)=>Value.int .u8 (b.toNat:Int)) w blk off dk).drewN n/\FmtInv d.size u 0 v' dk:=Any.internal_strconv_formatBase10 Tryz.a3C blk off cap u d w hH hu hu64 hsz
def Tryz.a4D:Go.Shelf.Ren:=⟨fun|246=>237|283=>248|284=>249|285=>250|286=>251|129=>160|317=>255|318=>256|319=>257|320=>258|337=>261|338=>262|n=>n,fun|2=>2|3=>3|9=>9|4=>4|171=>265|0=>0|53=>180|37=>253|5=>5|173=>267|212=>275|51=>178|20=>20|213=>276|46=>143|232=>283|233=>284|n=>n,fun|17=>2|18=>3|19=>4|n=>n⟩
def Tryz.a27:Go.Shelf.Ren:=⟨fun|243=>221|246=>237|283=>248|284=>249|285=>250|286=>251|129=>160|317=>255|318=>256|319=>257|320=>258|337=>261|338=>262|n=>n,fun|3=>3|9=>9|2=>2|4=>4|171=>265|0=>0|53=>180|37=>253|5=>5|173=>267|212=>275|51=>178|20=>20|213=>276|46=>143|232=>283|233=>284|n=>n,fun|17=>2|18=>3|19=>4|n=>n⟩
def Tryz.aP5:Go.Shelf.Ren:=⟨fun|171=>185|243=>221|246=>237|283=>248|284=>249|285=>250|286=>251|129=>160|317=>255|318=>256|319=>257|320=>258|337=>261|338=>262|n=>n,fun|3=>3|9=>9|2=>2|4=>4|171=>265|0=>0|53=>180|37=>253|5=>5|173=>267|212=>275|51=>178|20=>20|213=>276|46=>143|232=>283|233=>284|n=>n,fun|17=>2|18=>3|19=>4|n=>n⟩
theorem Tryz.aZF:Go.Proofs.LaysM.n171 Tryz.prog Tryz.aP5:={
 mixed:=by kernel_rfl
 f129:=func160.trans (congrArg some (by kernel_rfl))
 f171:=func185.trans (congrArg some (by kernel_rfl))
 f243:=func221.trans (congrArg some (by kernel_rfl))
 f246:=func237.trans (congrArg some (by kernel_rfl))
 f283:=func248.trans (congrArg some (by kernel_rfl))
 f284:=func249.trans (congrArg some (by kernel_rfl))
 f285:=func250.trans (congrArg some (by kernel_rfl))
 f286:=func251.trans (congrArg some (by kernel_rfl))
 f317:=func255.trans (congrArg some (by kernel_rfl))
 f318:=func256.trans (congrArg some (by kernel_rfl))
 f319:=func257.trans (congrArg some (by kernel_rfl))
 f320:=func258.trans (congrArg some (by kernel_rfl))
 f337:=func261.trans (congrArg some (by kernel_rfl))
 f338:=func262.trans (congrArg some (by kernel_rfl))
 t0:=underlying0
 a0:=isAgg0
 z0:=sizeOf0
 v0:=zeroValue0
 t2:=underlying2
 a2:=isAgg2
 z2:=sizeOf2
 v2:=zeroValue2
 t3:=underlying3
 a3:=isAgg3
 z3:=sizeOf3
 v3:=zeroValue3
 t4:=underlying4
 a4:=isAgg4
 z4:=sizeOf4
 v4:=zeroValue4
 t5:=underlying5
 a5:=isAgg5
 z5:=sizeOf5
 v5:=zeroValue5
 t9:=underlying9
 a9:=isAgg9
 z9:=sizeOf9
 v9:=zeroValue9
 t20:=underlying20
 a20:=isAgg20
 z20:=sizeOf20
 v20:=zeroValue20
 t37:=underlying253
 a37:=isAgg253
 z37:=sizeOf253
 v37:=zeroValue253
 t46:=underlying143
 a46:=isAgg143
 z46:=sizeOf143
 v46:=zeroValue143
 t51:=underlying178
 a51:=isAgg178
 z51:=sizeOf178
 v51:=zeroValue178
 t53:=underlying180
 a53:=isAgg180
 z53:=sizeOf180
 v53:=zeroValue180
 t171:=underlying265
 a171:=isAgg265
 z171:=sizeOf265
 v171:=zeroValue265
 t173:=underlying267
 a173:=isAgg267
 z173:=sizeOf267
 v173:=zeroValue267
 t212:=underlying275
 a212:=isAgg275
 z212:=sizeOf275
 v212:=zeroValue275
 t213:=underlying276
 a213:=isAgg276
 z213:=sizeOf276
 t232:=underlying283
 a232:=isAgg283
 z232:=sizeOf283
 v232:=zeroValue283
 t233:=underlying284
 a233:=isAgg284
 z233:=sizeOf284
 v233:=zeroValue284
 g17:=by kernel_rfl
 g18:=by kernel_rfl
 g19:=by kernel_rfl
 i0:=by kernel_rfl
 i2:=by kernel_rfl
 i3:=by kernel_rfl
 i4:=by kernel_rfl
 i5:=by kernel_rfl
 i9:=by kernel_rfl
 i20:=by kernel_rfl
 i37:=by kernel_rfl
 i46:=by kernel_rfl
 i51:=by kernel_rfl
 i53:=by kernel_rfl
 i171:=by kernel_rfl
 i173:=by kernel_rfl
 i212:=by kernel_rfl
 i232:=by kernel_rfl
 i233:=by kernel_rfl
 m17:=by kernel_rfl
 m18:=by kernel_rfl
 m19:=by kernel_rfl }
open Go.RowKit Go.Sort Go.Lib in
/-- strconv.Itoa: "Itoa is equivalent to FormatInt(int64(i), 10).": i's DECIMAL NUMERAL ('Lib.itoa': a '-' where i is negative,then the digits),FOR EVERY int. The world behind the call: the world before it,new blocks behind the heap (the library's 'var a [24]byte'),draws. (LAID: no walk: one application.) -/
theorem Tryz.strconv_Itoa (n:Int) (h0 : -9223372036854775808<=n) (h1:n<=9223372036854775807) (w:World) (htab:Lib.TabIs Tryz.prog w "internal/strconv.uint64pow10" .u64 Lib.pow10Tab) :
  Calls Tryz.prog 185 #[.int .i64 n] w λe w'=>e=.returned (.string ⟨(Lib.itoa n).toArray⟩)/\∃ k os,w'=grow (w.drewN k) os:=Any.strconv_Itoa Tryz.aZF n h0 h1 w htab
def Tryz.aQC:Go.Shelf.Ren:=⟨fun|174=>231|247=>241|245=>233|287=>252|279=>242|280=>243|281=>244|282=>245|321=>259|322=>260|316=>253|171=>185|205=>254|243=>221|246=>237|283=>248|284=>249|285=>250|286=>251|129=>160|317=>255|318=>256|319=>257|320=>258|337=>261|338=>262|n=>n,fun|9=>9|3=>3|2=>2|75=>219|85=>247|4=>4|167=>259|5=>5|53=>180|175=>263|46=>143|168=>260|37=>253|0=>0|210=>271|21=>21|127=>279|145=>282|143=>280|171=>265|173=>267|212=>275|51=>178|20=>20|213=>276|232=>283|233=>284|80=>285|n=>n,fun|15=>0|16=>1|17=>2|18=>3|19=>4|n=>n⟩
theorem Tryz.aQ0:Go.Proofs.LaysC.n174 Tryz.prog Tryz.aQC:={
 mixed:=by kernel_rfl
 f129:=func160.trans (congrArg some (by kernel_rfl))
 f171:=func185.trans (congrArg some (by kernel_rfl))
 f174:=func231.trans (congrArg some (by kernel_rfl))
 f205:=func254.trans (congrArg some (by kernel_rfl))
 f243:=func221.trans (congrArg some (by kernel_rfl))
 f245:=func233.trans (congrArg some (by kernel_rfl))
 f246:=func237.trans (congrArg some (by kernel_rfl))
 f247:=func241.trans (congrArg some (by kernel_rfl))
 f279:=func242.trans (congrArg some (by kernel_rfl))
 f280:=func243.trans (congrArg some (by kernel_rfl))
 f281:=func244.trans (congrArg some (by kernel_rfl))
 f282:=func245.trans (congrArg some (by kernel_rfl))
 f283:=func248.trans (congrArg some (by kernel_rfl))
 f284:=func249.trans (congrArg some (by kernel_rfl))
 f285:=func250.trans (congrArg some (by kernel_rfl))
 f286:=func251.trans (congrArg some (by kernel_rfl))
 f287:=func252.trans (congrArg some (by kernel_rfl))
 f316:=func253.trans (congrArg some (by kernel_rfl))
 f317:=func255.trans (congrArg some (by kernel_rfl))
 f318:=func256.trans (congrArg some (by kernel_rfl))
 f319:=func257.trans (congrArg some (by kernel_rfl))
 f320:=func258.trans (congrArg some (by kernel_rfl))
 f321:=func259.trans (congrArg some (by kernel_rfl))
 f322:=func260.trans (congrArg some (by kernel_rfl))
 f337:=func261.trans (congrArg some (by kernel_rfl))
 f338:=func262.trans (congrArg some (by kernel_rfl))
 t0:=underlying0
 a0:=isAgg0
 z0:=sizeOf0
 v0:=zeroValue0
 t2:=underlying2
 a2:=isAgg2
 z2:=sizeOf2
 v2:=zeroValue2
 t3:=underlying3
 a3:=isAgg3
 z3:=sizeOf3
 v3:=zeroValue3
 t4:=underlying4
 a4:=isAgg4
 z4:=sizeOf4
 v4:=zeroValue4
 t5:=underlying5
 a5:=isAgg5
 z5:=sizeOf5
 v5:=zeroValue5
 t9:=underlying9
 a9:=isAgg9
 z9:=sizeOf9
 v9:=zeroValue9
 t20:=underlying20
 a20:=isAgg20
 z20:=sizeOf20
 v20:=zeroValue20
 t21:=underlying21
 a21:=isAgg21
 z21:=sizeOf21
 v21:=zeroValue21
 t37:=underlying253
 a37:=isAgg253
 z37:=sizeOf253
 v37:=zeroValue253
 t46:=underlying143
 a46:=isAgg143
 z46:=sizeOf143
 v46:=zeroValue143
 t51:=underlying178
 a51:=isAgg178
 z51:=sizeOf178
 v51:=zeroValue178
 t53:=underlying180
 a53:=isAgg180
 z53:=sizeOf180
 v53:=zeroValue180
 t75:=underlying219
 a75:=isAgg219
 z75:=sizeOf219
 v75:=zeroValue219
 t85:=underlying247
 a85:=isAgg247
 z85:=sizeOf247
 v85:=zeroValue247
 t127:=underlying279
 a127:=isAgg279
 z127:=sizeOf279
 v127:=zeroValue279
 t143:=underlying280
 a143:=isAgg280
 z143:=sizeOf280
 v143:=zeroValue280
 t145:=underlying282
 a145:=isAgg282
 z145:=sizeOf282
 v145:=zeroValue282
 t167:=underlying259
 a167:=isAgg259
 z167:=sizeOf259
 v167:=zeroValue259
 t168:=underlying260
 a168:=isAgg260
 z168:=sizeOf260
 v168:=zeroValue260
 t171:=underlying265
 a171:=isAgg265
 z171:=sizeOf265
 v171:=zeroValue265
 t173:=underlying267
 a173:=isAgg267
 z173:=sizeOf267
 v173:=zeroValue267
 t175:=underlying263
 a175:=isAgg263
 z175:=sizeOf263
 v175:=zeroValue263
 t210:=underlying271
 a210:=isAgg271
 z210:=sizeOf271
 v210:=zeroValue271
 t212:=underlying275
 a212:=isAgg275
 z212:=sizeOf275
 v212:=zeroValue275
 t213:=underlying276
 a213:=isAgg276
 z213:=sizeOf276
 t232:=underlying283
 a232:=isAgg283
 z232:=sizeOf283
 v232:=zeroValue283
 t233:=underlying284
 a233:=isAgg284
 z233:=sizeOf284
 v233:=zeroValue284
 g15:=by kernel_rfl
 g16:=by kernel_rfl
 g17:=by kernel_rfl
 g18:=by kernel_rfl
 g19:=by kernel_rfl
 t80:=underlying285
 a80:=isAgg285
 z80:=sizeOf285
 v80:=zeroValue285
 i0:=by kernel_rfl
 i2:=by kernel_rfl
 i3:=by kernel_rfl
 i4:=by kernel_rfl
 i5:=by kernel_rfl
 i9:=by kernel_rfl
 i20:=by kernel_rfl
 i21:=by kernel_rfl
 i37:=by kernel_rfl
 i46:=by kernel_rfl
 i51:=by kernel_rfl
 i53:=by kernel_rfl
 i75:=by kernel_rfl
 i80:=by kernel_rfl
 i85:=by kernel_rfl
 i127:=by kernel_rfl
 i143:=by kernel_rfl
 i145:=by kernel_rfl
 i167:=by kernel_rfl
 i168:=by kernel_rfl
 i171:=by kernel_rfl
 i173:=by kernel_rfl
 i175:=by kernel_rfl
 i210:=by kernel_rfl
 i212:=by kernel_rfl
 i232:=by kernel_rfl
 i233:=by kernel_rfl
 m15:=by kernel_rfl
 m16:=by kernel_rfl
 m17:=by kernel_rfl
 m18:=by kernel_rfl
 m19:=by kernel_rfl
 c0:=by kernel_rfl
 c2:=by kernel_rfl
 c3:=by kernel_rfl
 c4:=by kernel_rfl
 c5:=by kernel_rfl
 c9:=by kernel_rfl
 c20:=by kernel_rfl
 c21:=by kernel_rfl
 c37:=by kernel_rfl
 c46:=by kernel_rfl
 c51:=by kernel_rfl
 c53:=by kernel_rfl
 c75:=by kernel_rfl
 c80:=by kernel_rfl
 c85:=by kernel_rfl
 c127:=by kernel_rfl
 c143:=by kernel_rfl
 c145:=by kernel_rfl
 c167:=by kernel_rfl
 c168:=by kernel_rfl
 c171:=by kernel_rfl
 c173:=by kernel_rfl
 c175:=by kernel_rfl
 c210:=by kernel_rfl
 c212:=by kernel_rfl
 c213:=by kernel_rfl
 c232:=by kernel_rfl
 c233:=by kernel_rfl }
open Go.RowKit in
/-- strconv.ParseInt(s,10,64),AT EVERY STRING THAT SPELLS AN int64 ('Lib.parseIntB 64 s.data.toList=.ok v'): v,AND NO ERROR. (LAID: no walk: one application.) -/
theorem Tryz.strconv_ParseInt_10_at64_ok (s:ByteArray) (hmax:s.size<=9223372036854775806) (v:Int) (h:Lib.parseIntB 64 s.data.toList=.ok v) (w:World) :
  Calls Tryz.prog 231 #[.string s,.int .i64 10,.int .i64 64] w λe w'=>e=.returned (.tuple #[.int .i64 v,.nilIface])/\(w'=w\/∃ t,w'=Lib.bytesWorld w 5 t):=Any.strconv_ParseInt_10_at64_ok Tryz.aQ0 s hmax v h w
open Go.RowKit in
/-- strconv.ParseInt(s,10,64),AT EVERY NUMERAL THAT NO int64 HOLDS: THE GREATEST OR THE LEAST int64,BY THE SIGN ('Lib.intSat 64'),AND AN ERROR THAT IS NOT nil: a *NumError in a new block N: {Func: "ParseInt",Num: s's bytes,Err: what the variable ErrRange holds}. Of what was there nothing has turned. (LAID: no walk: one application.) -/
theorem Tryz.strconv_ParseInt_10_at64_range (s:ByteArray) (hlim:s.size<=281474976710656) (h:Lib.parseIntB 64 s.data.toList=.range) (ev:Value) (w:World) (hv:w.cell? ⟨1,0,none⟩=some ev) (hev:ev=.nilIface\/∃ te pe,ev=.iface te pe) :
  Calls Tryz.prog 231 #[.string s,.int .i64 10,.int .i64 64] w λe w'=>∃ N,e=.returned (.tuple #[.int .i64 (Lib.intSat 64 s.data.toList),.iface 260 (.pointer (some ⟨N,0,none⟩))])/\w.heap.size<=N/\w'.heap[N]?=some (.cells #[.string ⟨#[80,97,114,115,101,73,110,116]⟩,.string s,ev] 271 (0,0))/\Below w.heap.size w w':=Any.strconv_ParseInt_10_at64_range Tryz.aQ0 s hlim h ev w hv hev
def Tryz.aQD:Go.Shelf.Ren:=⟨fun|14=>246|16=>252|17=>233|19=>259|20=>260|21=>242|22=>243|23=>244|24=>245|25=>253|27=>185|26=>254|28=>221|29=>237|30=>248|31=>249|32=>250|33=>251|35=>160|34=>255|36=>256|37=>257|38=>258|39=>261|40=>262|n=>n,fun|9=>9|3=>3|22=>180|24=>219|25=>263|4=>4|34=>259|5=>5|36=>143|37=>253|0=>0|39=>260|21=>21|44=>271|47=>279|50=>282|48=>280|2=>2|52=>265|55=>267|59=>275|60=>178|20=>20|61=>276|65=>283|66=>284|67=>285|n=>n,fun|0=>0|1=>1|2=>2|3=>3|4=>4|n=>n⟩
theorem Tryz.aY3:Go.Proofs.LaysPu.n14 Tryz.prog Tryz.aQD:={
 mixed:=by kernel_rfl
 f14:=func246.trans (congrArg some (by kernel_rfl))
 f16:=func252.trans (congrArg some (by kernel_rfl))
 f17:=func233.trans (congrArg some (by kernel_rfl))
 f19:=func259.trans (congrArg some (by kernel_rfl))
 f20:=func260.trans (congrArg some (by kernel_rfl))
 f21:=func242.trans (congrArg some (by kernel_rfl))
 f22:=func243.trans (congrArg some (by kernel_rfl))
 f23:=func244.trans (congrArg some (by kernel_rfl))
 f24:=func245.trans (congrArg some (by kernel_rfl))
 f25:=func253.trans (congrArg some (by kernel_rfl))
 f26:=func254.trans (congrArg some (by kernel_rfl))
 f27:=func185.trans (congrArg some (by kernel_rfl))
 f28:=func221.trans (congrArg some (by kernel_rfl))
 f29:=func237.trans (congrArg some (by kernel_rfl))
 f30:=func248.trans (congrArg some (by kernel_rfl))
 f31:=func249.trans (congrArg some (by kernel_rfl))
 f32:=func250.trans (congrArg some (by kernel_rfl))
 f33:=func251.trans (congrArg some (by kernel_rfl))
 f34:=func255.trans (congrArg some (by kernel_rfl))
 f35:=func160.trans (congrArg some (by kernel_rfl))
 f36:=func256.trans (congrArg some (by kernel_rfl))
 f37:=func257.trans (congrArg some (by kernel_rfl))
 f38:=func258.trans (congrArg some (by kernel_rfl))
 f39:=func261.trans (congrArg some (by kernel_rfl))
 f40:=func262.trans (congrArg some (by kernel_rfl))
 t0:=underlying0
 a0:=isAgg0
 z0:=sizeOf0
 v0:=zeroValue0
 i0:=by kernel_rfl
 t2:=underlying2
 a2:=isAgg2
 z2:=sizeOf2
 v2:=zeroValue2
 i2:=by kernel_rfl
 t3:=underlying3
 a3:=isAgg3
 z3:=sizeOf3
 v3:=zeroValue3
 i3:=by kernel_rfl
 t4:=underlying4
 a4:=isAgg4
 z4:=sizeOf4
 v4:=zeroValue4
 i4:=by kernel_rfl
 t5:=underlying5
 a5:=isAgg5
 z5:=sizeOf5
 v5:=zeroValue5
 i5:=by kernel_rfl
 t9:=underlying9
 a9:=isAgg9
 z9:=sizeOf9
 v9:=zeroValue9
 i9:=by kernel_rfl
 t20:=underlying20
 a20:=isAgg20
 z20:=sizeOf20
 v20:=zeroValue20
 i20:=by kernel_rfl
 t21:=underlying21
 a21:=isAgg21
 z21:=sizeOf21
 v21:=zeroValue21
 i21:=by kernel_rfl
 t22:=underlying180
 a22:=isAgg180
 z22:=sizeOf180
 v22:=zeroValue180
 i22:=by kernel_rfl
 t24:=underlying219
 a24:=isAgg219
 z24:=sizeOf219
 v24:=zeroValue219
 i24:=by kernel_rfl
 t25:=underlying263
 a25:=isAgg263
 z25:=sizeOf263
 v25:=zeroValue263
 i25:=by kernel_rfl
 t34:=underlying259
 a34:=isAgg259
 z34:=sizeOf259
 v34:=zeroValue259
 i34:=by kernel_rfl
 c34:=by kernel_rfl
 t36:=underlying143
 a36:=isAgg143
 z36:=sizeOf143
 v36:=zeroValue143
 i36:=by kernel_rfl
 t37:=underlying253
 a37:=isAgg253
 z37:=sizeOf253
 v37:=zeroValue253
 i37:=by kernel_rfl
 t39:=underlying260
 a39:=isAgg260
 z39:=sizeOf260
 v39:=zeroValue260
 i39:=by kernel_rfl
 t44:=underlying271
 a44:=isAgg271
 z44:=sizeOf271
 v44:=zeroValue271
 i44:=by kernel_rfl
 t47:=underlying279
 a47:=isAgg279
 z47:=sizeOf279
 v47:=zeroValue279
 i47:=by kernel_rfl
 t48:=underlying280
 a48:=isAgg280
 z48:=sizeOf280
 v48:=zeroValue280
 i48:=by kernel_rfl
 t50:=underlying282
 a50:=isAgg282
 z50:=sizeOf282
 v50:=zeroValue282
 i50:=by kernel_rfl
 t52:=underlying265
 a52:=isAgg265
 z52:=sizeOf265
 v52:=zeroValue265
 i52:=by kernel_rfl
 t55:=underlying267
 a55:=isAgg267
 z55:=sizeOf267
 v55:=zeroValue267
 i55:=by kernel_rfl
 t59:=underlying275
 a59:=isAgg275
 z59:=sizeOf275
 v59:=zeroValue275
 i59:=by kernel_rfl
 t60:=underlying178
 a60:=isAgg178
 z60:=sizeOf178
 v60:=zeroValue178
 i60:=by kernel_rfl
 t61:=underlying276
 a61:=isAgg276
 z61:=sizeOf276
 t65:=underlying283
 a65:=isAgg283
 z65:=sizeOf283
 v65:=zeroValue283
 i65:=by kernel_rfl
 t66:=underlying284
 a66:=isAgg284
 z66:=sizeOf284
 v66:=zeroValue284
 i66:=by kernel_rfl
 t67:=underlying285
 a67:=isAgg285
 z67:=sizeOf285
 v67:=zeroValue285
 i67:=by kernel_rfl
 g0:=by kernel_rfl
 m0:=by kernel_rfl
 g1:=by kernel_rfl
 m1:=by kernel_rfl
 g2:=by kernel_rfl
 m2:=by kernel_rfl
 g3:=by kernel_rfl
 m3:=by kernel_rfl
 g4:=by kernel_rfl
 m4:=by kernel_rfl }
open Go.RowKit in
/-- strconv.ParseUint(s,10,64),AT EVERY STRING THAT SPELLS A uint64 ('Lib.parseUintB 64 s.data.toList=.ok u'): u,AND NO ERROR. (LAID: no walk: one application.) -/
theorem Tryz.strconv_ParseUint_10_at64_ok (s:ByteArray) (hmax:s.size<=9223372036854775806) (u:Nat) (h:Lib.parseUintB 64 s.data.toList=.ok u) (w:World) :
  Calls Tryz.prog 246 #[.string s,.int .i64 10,.int .i64 64] w λe w'=>e=.returned (.tuple #[.int .u64 u,.nilIface])/\(w'=w\/w'=Lib.bytesWorld w 5 s):=Any.strconv_ParseUint_10_at64_ok Tryz.aY3 s hmax u h w
end Go.Proofs
namespace Go.PM
open Go Go.RowKit
inductive Ty where
 | int (k:IntKind)
 | bool
 | str
 | list (t:Ty)
 | prod (a b:Ty)
 | hnd (sz:Nat)
 | rows (t:Ty)
 deriving DecidableEq
@[reducible] def Ty.den:Ty->Type
 | .hnd _=>Nat×Nat×Nat
 | .rows t=>List t.den
 | .int _=>Int
 | .bool=>Bool
 | .str=>ByteArray
 | .list t=>List t.den
 | .prod a b=>a.den×b.den
def Ty.aP4:(t:Ty)->t.den
 | .hnd _=>(0,0,0)
 | .rows _=>[]
 | .int _=>(0:Int)
 | .bool=>false
 | .str=>ByteArray.empty
 | .list _=>[]
 | .prod a b=>(a.aP4,b.aP4)
def Ty.size:Ty->Nat
 | .prod a b=>a.size+b.size
 | _=>1
theorem Ty.size_pos:∀ t:Ty,0<t.size
 | .int _|.bool|.str|.list _|.hnd _|.rows _=>by simp[Ty.size]
 | .prod a b=>by have:=a.size_pos; simp only[Ty.size]; omega
inductive PV where
 | lit (v:Value)
 | vals (cs:List PV) (n:Nat) (cap:Option Nat)
 | iptr (cs:List PV)
 | hptr (r off:Nat)
 | hs (r off len:Nat) (cap:Option Nat) (sz:Nat)
 | agg (cs:List PV)
 | tuple (vs:List PV)
 | clo (fn:Fn) (first caps:List PV)
 | junk
 | tl (t:Ty) (l:List t.den) (cap:Option Nat) (e:PV)
 | tp (t:Ty) (l:List t.den) (i off:Nat) (e:PV)
 | own (r sz:Nat)
 | op (r i off sz:Nat)
 | win (r lo n sz:Nat)
 | row (j lo n sz:Nat)
 | rp (j off:Nat)
 | mp (j:Nat)
def enc:(t:Ty)->t.den->List PV
 | .hnd sz,x=>[.row x.1 x.2.1 x.2.2 sz]
 | .rows _,_=>[.lit (.bool false)]
 | .int k,x=>[.lit (.int k x)]
 | .bool,x=>[.lit (.bool x)]
 | .str,x=>[.lit (.string x)]
 | .list t,l=>[.tl t l none (.vals (l.flatMap (enc t)) l.length none)]
 | .prod a b,(x,y)=>enc a x++enc b y
def aG(t:Ty)(l:List t.den):List PV:=l.flatMap (enc t)
def L4(t:Ty) (l:List t.den) (cap:Option Nat):PV:=.tl t l cap (.vals (aG t l) l.length cap)
def aYL(t:Ty)(l:List t.den)(i off:Nat):PV:=.tp t l i off (.iptr ((aG t l).drop (i*t.size+off)))
instance:Inhabited PV:=⟨.junk⟩
def Room(w:World) (b n:Nat):Prop:=∃ c t fr,w.heap[b]?=some (.cells c t fr)/\n<=c.size
structure Mp where
 loc:Nat->Option Nat
 len:Nat->Option Nat
def aI:Mp:=⟨λ_=>none,λ_=>none⟩
structure Gd where
 ok:Nat->Prop
 row:Nat->Option Nat
instance:CoeFun Gd (λ_=>Nat->Prop):=⟨Gd.ok⟩
def aWX(k:IntKind) (l:List Int) (o:Option Obj):Prop:=∃ t fr,o=some (.cells (l.map λz=>Value.int k z).toArray t fr)
def aCW(o:Option Obj):Prop:=∃ tp p t fr,o=some (.cells #[.iface tp p] t fr)
def a0M:List (Nat×(Option Obj->Prop)):=[(2,aWX .u64 [1,10,100,1000,10000,100000,1000000,10000000,100000000,1000000000,10000000000,100000000000,1000000000000,10000000000000,100000000000000,1000000000000000,10000000000000000,100000000000000000,1000000000000000000,10000000000000000000]),(0,aCW),(1,aCW)]
structure Lt (w:World) (G:Nat->Prop):Prop where
 lt:∀ b,G b->b<w.heap.size
 tab:∀ p∈a0M,G p.1/\p.2 w.heap[p.1]?
instance (w:World) (G:Nat->Prop):CoeFun (Lt w G) (λ_=>∀ b,G b->b<w.heap.size):=⟨Lt.lt⟩
theorem Lt.step {w w':World}{G G':Nat->Prop}(h:Lt w G)(hg:∀ b,G b->G' b/\w'.heap[b]?=w.heap[b]?)(hl:∀ b,G' b->b<w'.heap.size):Lt w' G' :=
 ⟨hl,λp hp=>⟨(hg _ (h.tab p hp).1).1,by rw[(hg _ (h.tab p hp).1).2]; exact(h.tab p hp).2⟩⟩
theorem Lt.all {w:World}{G:Nat->Prop}(h:Lt w G):Lt w λb=>b<w.heap.size:=h.step (λb hb=>⟨h.lt b hb,rfl⟩) λ_ h=>h
def Gd.or (G:Gd) (p:Nat->Prop):Gd:=⟨λb=>G.ok b\/p b,G.row⟩
section
variable (w:World) (G:Gd)
mutual
/-- How a plain value reads: 'vals' and 'iptr' do not refer to the plain heap. -/
def VR:Mp->PV->Value->Prop
 | _,.lit u,v=>v=u
 | _,.vals cs n cap,v=>∃ ao c,v=.slice ao n c/\n<=c/\(∀ k,cap=some k->c=k)/\(cs=[]\/∃ b off,ao=some ⟨b,off,none⟩/\G b/\aL aI b off cs)
 | _,.iptr cs,v=>∃ b off,v=.pointer (some ⟨b,off,none⟩)/\G b/\aL aI b off cs
 | μ,.hptr r off,v=>∃ b,μ.loc r=some b/\v=.pointer (some ⟨b,off,none⟩)
 | μ,.hs r off len cap sz,v=>∃ b c,μ.loc r=some b/\v=.slice (some ⟨b,off,none⟩) len c/\len<=c/\(∀ k,cap=some k->c=k)/\Room w b (off+c*sz)
 | μ,.agg cs,v=>∃ vs,v=.agg vs/\VRs μ cs vs.toList
 | μ,.tuple cs,v=>∃ vs,v=.tuple vs/\VRs μ cs vs.toList
 | μ,.clo fn f c,v=>∃ fs cs,v=.func fn fs cs/\VRs μ f fs.toList/\VRs μ c cs.toList
 | _,.junk,_=>True
 | _,.tl t l cap e,v=>VR aI e v/\e=.vals (aG t l) l.length cap
 | _,.tp t l i off e,v=>VR aI e v/\e=.iptr ((aG t l).drop (i*t.size+off))/\i<l.length
 | μ,.own r sz,v=>∃ n,μ.len r=some n/\((n=0/\∃ ao,v=.slice ao 0 0)\/∃ b c,μ.loc r=some b/\v=.slice (some ⟨b,0,none⟩) n c/\n<=c/\Room w b (c*sz))
 | μ,.op r i off sz,v=>∃ b,μ.loc r=some b/\v=.pointer (some ⟨b,i*sz+off,none⟩)
 | μ,.win r lo n sz,v=>∃ b c m,μ.loc r=some b/\v=.slice (some ⟨b,lo*sz,none⟩) n c/\n<=c/\Room w b ((lo+c)*sz)/\μ.len r=some m/\lo+n<=m/\m<=lo+c
 | _,.row j lo n sz,v=>∃ ao c,v=.slice ao n c/\n<=c/\(n=0\/∃ b,G.row j=some b/\ao=some ⟨b,lo*sz,none⟩/\Room w b ((lo+c)*sz))
 | _,.rp j off,v=>∃ b,G.row j=some b/\v=.pointer (some ⟨b,off,none⟩)
 | _,.mp j,v=>∃ b,G.row j=some b/\v=.map (some b)
def VRs:Mp->List PV->List Value->Prop
 | _,[],vs=>vs=[]
 | μ,p::ps,vs=>∃ x xs,vs=x::xs/\VR μ p x/\VRs μ ps xs
def aL:Mp->Nat->Nat->List PV->Prop
 | _,_,_,[]=>True
 | μ,b,off,p::ps=>(∃ v,w.cell? ⟨b,off,none⟩=some v/\VR μ p v)/\aL μ b (off+1) ps
end
end
structure Mono (w:World) (G:Gd) (μ:Mp) (w':World) (G':Gd) (μ':Mp):Prop where
 good:∀ b,G b->G' b/\w'.heap[b]?=w.heap[b]?
 map:∀ r b,μ.loc r=some b->μ'.loc r=some b
 len:∀ r n,μ.len r=some n->μ'.len r=some n
 room:∀ b n,Room w b n->Room w' b n
 row:∀ j b,G.row j=some b->G'.row j=some b
section
variable {w w':World} {G G':Gd}
theorem Mono.aI {μ μ':Mp}(h:Mono w G μ w' G' μ'):Mono w G aI w' G' aI:=⟨h.good,λ_ _ h=>h,λ_ _ h=>h,h.room,h.row⟩
mutual
theorem VR.mono {μ μ':Mp} (h:Mono w G μ w' G' μ'):∀ p v,VR w G μ p v->VR w' G' μ' p v
 | .lit u,v,hv=>by simpa[VR]using hv
 | .vals cs n cap,v,hv=>by
  rw[VR]at hv ⊢;obtain⟨ao,c,h1,h2,hcap,h3⟩:=hv;refine⟨ao,c,h1,h2,hcap,?_⟩;rcases h3 with h3|⟨b,off,h4,h5,h6⟩
  ·exact .inl h3
  ·exact .inr ⟨b,off,h4,(h.good b h5).1,aL.mono h.aI (h.good b h5).2 off cs h6⟩
 | .iptr cs,v,hv=>by
  rw[VR]at hv ⊢;obtain⟨b,off,h1,h2,h3⟩:=hv;exact⟨b,off,h1,(h.good b h2).1,aL.mono h.aI (h.good b h2).2 off cs h3⟩
 | .hptr r off,v,hv=>by
  rw[VR]at hv ⊢;obtain⟨b,h1,h2⟩:=hv;exact⟨b,h.map r b h1,h2⟩
 | .hs r off len cap sz,v,hv=>by
  rw[VR]at hv ⊢;obtain⟨b,c,h1,h2,h3,h4,h5⟩:=hv;exact⟨b,c,h.map r b h1,h2,h3,h4,h.room _ _ h5⟩
 | .agg cs,v,hv=>by
  rw[VR]at hv ⊢;obtain⟨vs,h1,h2⟩:=hv;exact⟨vs,h1,VRs.mono h cs _ h2⟩
 | .tuple cs,v,hv=>by
  rw[VR]at hv ⊢;obtain⟨vs,h1,h2⟩:=hv;exact⟨vs,h1,VRs.mono h cs _ h2⟩
 | .clo fn f c,v,hv=>by
  rw[VR]at hv ⊢;obtain⟨fs,cs,h1,h2,h3⟩:=hv;exact⟨fs,cs,h1,VRs.mono h f _ h2,VRs.mono h c _ h3⟩
 | .junk,v,hv=>by rw[VR]; trivial
 | .tl t l cap e,v,hv=>by
  rw[VR]at hv ⊢;exact⟨VR.mono h.aI e v hv.1,hv.2⟩
 | .tp t l i off e,v,hv=>by
  rw[VR]at hv ⊢;exact⟨VR.mono h.aI e v hv.1,hv.2⟩
 | .own r sz,v,hv=>by
  rw[VR]at hv ⊢;obtain⟨n,h1,h2⟩:=hv;refine⟨n,h.len r n h1,?_⟩;rcases h2 with h2|⟨b,c,h3,h4,h5,h6⟩
  ·exact .inl h2
  ·exact .inr ⟨b,c,h.map r b h3,h4,h5,h.room _ _ h6⟩
 | .op r i off sz,v,hv=>by
  rw[VR]at hv ⊢;obtain⟨b,h1,h2⟩:=hv;exact⟨b,h.map r b h1,h2⟩
 | .win r lo n sz,v,hv=>by
  rw[VR]at hv ⊢;obtain⟨b,c,m,h1,h2,h3,h4,h5,h6⟩:=hv;exact⟨b,c,m,h.map r b h1,h2,h3,h.room _ _ h4,h.len r m h5,h6⟩
 | .row j lo n sz,v,hv=>by
  rw[VR]at hv ⊢;obtain⟨ao,c,h1,h2,h3⟩:=hv;refine⟨ao,c,h1,h2,?_⟩;rcases h3 with h3|⟨b,h4,h5,h6⟩
  ·exact .inl h3
  ·exact .inr ⟨b,h.row j b h4,h5,h.room _ _ h6⟩
 | .rp j off,v,hv=>by
  rw[VR]at hv ⊢;obtain⟨b,h1,h2⟩:=hv;exact⟨b,h.row j b h1,h2⟩
 | .mp j,v,hv=>by
  rw[VR]at hv ⊢;obtain⟨b,h1,h2⟩:=hv;exact⟨b,h.row j b h1,h2⟩
theorem VRs.mono {μ μ':Mp} (h:Mono w G μ w' G' μ'):∀ ps vs,VRs w G μ ps vs->VRs w' G' μ' ps vs
 | [],vs,hv=>by rw[VRs]at hv ⊢; exact hv
 | p::ps,vs,hv=>by
  rw[VRs]at hv ⊢;obtain⟨x,xs,h1,h2,h3⟩:=hv;exact⟨x,xs,h1,VR.mono h p x h2,VRs.mono h ps xs h3⟩
theorem aL.mono {μ μ':Mp} (h:Mono w G μ w' G' μ') {b:Nat} (hb:w'.heap[b]?=w.heap[b]?):∀ off ps,aL w G μ b off ps->aL w' G' μ' b off ps
 | _,[],_=>by rw[aL]; trivial
 | off,p::ps,hv=>by
  rw[aL]at hv ⊢;obtain⟨⟨v,h1,h2⟩,h3⟩:=hv;exact⟨⟨v,by rw[World.cell?_of_block (w:=w) hb]; exact h1,VR.mono h p v h2⟩,aL.mono h hb (off+1) ps h3⟩
end
variable {μ μ':Mp}
theorem aCI:Mono w G aI w G μ:=⟨λ_ h=>⟨h,rfl⟩,λ_ _ h=>(by cases h),λ_ _ h=>(by cases h),λ_ _ h=>h,λ_ _ h=>h⟩
theorem VR.aY {p:PV}{v:Value}(h:VR w G aI p v):VR w G μ p v:=VR.mono aCI p v h
theorem VRs.aY {p:List PV}{v:List Value}(h:VRs w G aI p v):VRs w G μ p v:=VRs.mono aCI p v h
theorem aL.aY {b off:Nat}{p:List PV}(h:aL w G aI b off p):aL w G μ b off p:=aL.mono aCI rfl off p h
def eB:PV->Bool
 | .lit _|.vals ..|.iptr _|.tl ..|.tp ..|.row ..|.rp ..|.mp _=>true
 | .agg cs|.tuple cs=>noRefs cs
 | .clo _ f c=>noRefs f&&noRefs c
 | _=>false
where noRefs:List PV->Bool
 | []=>true
 | p::ps=>eB p&&noRefs ps
mutual
theorem BE:∀ (p:PV) (v:Value),eB p=true->VR w G μ p v->VR w G aI p v
 | .lit u,v,_,h=>by rw[VR]at h ⊢; exact h
 | .vals ..,v,_,h=>by rw[VR]at h ⊢; exact h
 | .iptr _,v,_,h=>by rw[VR]at h ⊢; exact h
 | .tl ..,v,_,h=>by rw[VR]at h ⊢; exact h
 | .tp ..,v,_,h=>by rw[VR]at h ⊢; exact h
 | .row ..,v,_,h=>by rw[VR]at h ⊢; exact h
 | .rp ..,v,_,h=>by rw[VR]at h ⊢; exact h
 | .mp _,v,_,h=>by rw[VR]at h ⊢; exact h
 | .own ..,v,hn,h=>by simp only[eB]at hn; cases hn
 | .op ..,v,hn,h=>by simp only[eB]at hn; cases hn
 | .win ..,v,hn,h=>by simp only[eB]at hn; cases hn
 | .agg cs,v,hn,h=>by
  rw[VR]at h ⊢;obtain⟨vs,h1,h2⟩:=h;exact⟨vs,h1,dB cs _ (by simpa only[eB]using hn) h2⟩
 | .tuple cs,v,hn,h=>by
  rw[VR]at h ⊢;obtain⟨vs,h1,h2⟩:=h;exact⟨vs,h1,dB cs _ (by simpa only[eB]using hn) h2⟩
 | .clo fn f c,v,hn,h=>by
  rw[VR]at h ⊢;simp only[eB,Bool.and_eq_true]at hn;obtain⟨fs,cs,h1,h2,h3⟩:=h;exact⟨fs,cs,h1,dB f _ hn.1 h2,dB c _ hn.2 h3⟩
 | .hptr ..,v,hn,h=>by simp only[eB]at hn; cases hn
 | .hs ..,v,hn,h=>by simp only[eB]at hn; cases hn
 | .junk,v,hn,h=>by simp only[eB]at hn; cases hn
theorem dB:∀ (ps:List PV) (vs:List Value),eB.noRefs ps=true->VRs w G μ ps vs->VRs w G aI ps vs
 | [],vs,_,h=>by rw[VRs]at h ⊢; exact h
 | p::ps,vs,hn,h=>by
  rw[VRs]at h ⊢;simp only[eB.noRefs,Bool.and_eq_true]at hn;obtain⟨x,xs,h1,h2,h3⟩:=h;exact⟨x,xs,h1,BE p x hn.1 h2,dB ps xs hn.2 h3⟩
end
theorem Mono.refl (w:World)(G:Gd)(μ:Mp):Mono w G μ w G μ:=⟨λ_ h=>⟨h,rfl⟩,λ_ _ h=>h,λ_ _ h=>h,λ_ _ h=>h,λ_ _ h=>h⟩
theorem Mono.trans {w'':World}{G'':Gd}{μ'':Mp}(h:Mono w G μ w' G' μ')(k:Mono w' G' μ' w'' G'' μ''):Mono w G μ w'' G'' μ'' :=
 ⟨λb hb=>⟨(k.good b (h.good b hb).1).1,((k.good b (h.good b hb).1).2).trans (h.good b hb).2⟩,λr b hr=>k.map r b (h.map r b hr),λr n hr=>k.len r n (h.len r n hr),λb n hb=>k.room b n (h.room b n hb),λj b hb=>k.row j b (h.row j b hb)⟩
theorem VRs.length:∀ {ps:List PV} {vs:List Value},VRs w G μ ps vs->ps.length=vs.length
 | [],vs,h=>by rw[VRs]at h; rw[h]; rfl
 | p::ps,vs,h=>by rw[VRs]at h; obtain⟨x,xs,rfl,_,h3⟩:=h; simp[VRs.length h3]
theorem VRs.get:∀ {ps:List PV} {vs:List Value} {i:Nat} {p:PV},VRs w G μ ps vs->ps[i]?=some p->∃ v,vs[i]?=some v/\VR w G μ p v
 | [],vs,i,p,h,hp=>by simp at hp
 | q::ps,vs,i,p,h,hp=>by
  rw[VRs]at h;obtain⟨x,xs,rfl,h2,h3⟩:=h;cases i with
  | zero=>simp at hp; subst hp; exact⟨x,rfl,h2⟩
  | succ i=>simpa using VRs.get h3 (by simpa using hp)
theorem VRs.append:∀ {ps qs:List PV} {vs us:List Value},VRs w G μ ps vs->VRs w G μ qs us->VRs w G μ (ps++qs) (vs++us)
 | [],qs,vs,us,h,k=>by rw[VRs]at h; subst h; exact k
 | p::ps,qs,vs,us,h,k=>by
  rw[VRs]at h;obtain⟨x,xs,rfl,h2,h3⟩:=h;rw[List.cons_append,VRs];exact⟨x,xs++us,rfl,h2,VRs.append h3 k⟩
theorem VRs.drop:∀ {ps:List PV} {vs:List Value} (n:Nat),VRs w G μ ps vs->VRs w G μ (ps.drop n) (vs.drop n)
 | ps,vs,0,h=>h
 | [],vs,n+1,h=>by rw[VRs]at h; subst h; simp[VRs]
 | p::ps,vs,n+1,h=>by
  rw[VRs]at h;obtain⟨x,xs,rfl,h2,h3⟩:=h;exact VRs.drop n h3
theorem VRs.take:∀ {ps:List PV} {vs:List Value} (n:Nat),VRs w G μ ps vs->VRs w G μ (ps.take n) (vs.take n)
 | ps,vs,0,h=>by simp[VRs]
 | [],vs,n+1,h=>by rw[VRs]at h; subst h; simp[VRs]
 | p::ps,vs,n+1,h=>by
  rw[VRs]at h;obtain⟨x,xs,rfl,h2,h3⟩:=h;rw[List.take_succ_cons,List.take_succ_cons,VRs];exact⟨x,_,rfl,h2,VRs.take n h3⟩
theorem VRs.lits:∀ (vs:List Value),VRs w G μ (vs.map .lit) vs
 | []=>by simp[VRs]
 | v::vs=>by rw[List.map_cons,VRs]; exact⟨v,vs,rfl,by rw[VR],VRs.lits vs⟩
theorem aL.get:∀ {ps:List PV} {b off i:Nat} {p:PV},aL w G μ b off ps->ps[i]?=some p->∃ v,w.cell? ⟨b,off+i,none⟩=some v/\VR w G μ p v
 | [],b,off,i,p,h,hp=>by simp at hp
 | q::ps,b,off,i,p,h,hp=>by
  rw[aL]at h;cases i with
  | zero=>simp at hp; subst hp; exact h.1
  | succ i=>have:=aL.get (i:=i) h.2 (by simpa using hp); rwa[Nat.add_assoc,Nat.add_comm 1]at this
theorem aL.mk:∀ {ps:List PV} {b off:Nat},(∀ i p,ps[i]?=some p->∃ v,w.cell? ⟨b,off+i,none⟩=some v/\VR w G μ p v)->aL w G μ b off ps
 | [],b,off,h=>by rw[aL]; trivial
 | q::ps,b,off,h=>by
  rw[aL];refine⟨h 0 q rfl,aL.mk λi p hp=>?_⟩;have:=h (i+1) p (by simpa using hp);rwa[Nat.add_comm i,<- Nat.add_assoc]at this
theorem aL.drop {ps:List PV}{b off:Nat}(n:Nat)(h:aL w G μ b off ps):aL w G μ b (off+n) (ps.drop n) :=
 aL.mk λi p hp=>by
  rw[List.getElem?_drop]at hp;have:=h.get hp;rwa[<- Nat.add_assoc]at this
theorem aL.take {ps:List PV}{b off:Nat}(n:Nat)(h:aL w G μ b off ps):aL w G μ b off (ps.take n) :=
 aL.mk λi p hp=>by
  rw[List.getElem?_take]at hp;split at hp
  ·exact h.get hp
  ·cases hp
theorem aL.sub {ps:List PV}{b off:Nat}(n m:Nat)(h:aL w G μ b off ps):aL w G μ b (off+n) ((ps.drop n).take m):=(h.drop n).take m
theorem aL.values:∀ {ps:List PV} {b off:Nat},aL w G μ b off ps->∃ vs,VRs w G μ ps vs/\∀ i (h:i<vs.length),w.cell? ⟨b,off+i,none⟩=some vs[i]
 | [],b,off,h=>⟨[],by rw[VRs],λi h=>by simp at h⟩
 | p::ps,b,off,h=>by
  rw[aL]at h;obtain⟨⟨v,h1,h2⟩,h3⟩:=h;obtain⟨vs,h4,h5⟩:=aL.values h3;refine⟨v::vs,by rw[VRs]; exact⟨v,vs,rfl,h2,h4⟩,λi hi=>?_⟩;cases i with
  | zero=>exact h1
  | succ i=>have:=h5 i (by simpa using hi); rw[Nat.add_assoc,Nat.add_comm 1]at this; exact this
end
def Ty.plain:Ty->Bool
 | .hnd _=>false
 | .rows _=>false
 | .list t=>t.plain
 | .prod a b=>a.plain&&b.plain
 | _=>true
def eZ:PV->Bool
 | .row ..|.rp ..|.mp _=>false
 | .vals cs _ _=>noRows cs
 | .iptr cs=>noRows cs
 | .agg cs=>noRows cs
 | .tuple cs=>noRows cs
 | .clo _ f c=>noRows f&&noRows c
 | .tl t _ _ _=>t.plain
 | .tp t _ _ _ _=>t.plain
 | _=>true
where noRows:List PV->Bool
 | []=>true
 | p::ps=>eZ p&&noRows ps
theorem SA:∀ {a b:List PV},eZ.noRows a=true->eZ.noRows b=true->eZ.noRows (a++b)=true
 | [],_,_,h=>h
 | p::a,b,h,k=>by
  simp only[List.cons_append,eZ.noRows,Bool.and_eq_true]at h ⊢;exact⟨h.1,SA h.2 k⟩
theorem aF7:∀ {a:List PV} (n:Nat),eZ.noRows a=true->eZ.noRows (a.drop n)=true
 | a,0,h=>h
 | [],n+1,h=>h
 | p::a,n+1,h=>by
  simp only[eZ.noRows,Bool.and_eq_true]at h;exact aF7 n h.2
theorem OO:∀ (t:Ty) (x:t.den),t.plain=true->eZ.noRows (enc t x)=true
 | .int _,_,_=>rfl
 | .bool,_,_=>rfl
 | .str,_,_=>rfl
 | .list t,_,h=>by simp only[enc,eZ.noRows,eZ,Bool.and_true]; exact h
 | .prod a b,(x,y),h=>by
  simp only[Ty.plain,Bool.and_eq_true]at h;exact SA (OO a x h.1) (OO b y h.2)
 | .hnd _,_,h=>by cases h
 | .rows _,_,h=>by cases h
theorem A8(t:Ty)(h:t.plain=true):∀ l:List t.den,eZ.noRows (aG t l)=true
 | []=>rfl
 | x::l=>by
  have:aG t (x::l)=enc t x++aG t l:=by simp[aG]
  rw[this]; exact SA (OO t x h) (A8 t h l)
section
set_option linter.unusedSectionVars false
variable {w:World} {G G':Gd} (hG:∀ b,G b->G' b)
include hG
mutual
theorem PZ:∀ (μ:Mp) (p:PV) (v:Value),eZ p=true->VR w G μ p v->VR w G' μ p v
 | _,.lit u,v,_,hv=>by rw[VR]at hv ⊢; exact hv
 | _,.vals cs n cap,v,hn,hv=>by
  rw[VR]at hv ⊢;obtain⟨ao,c,h1,h2,hcap,h3⟩:=hv;refine⟨ao,c,h1,h2,hcap,?_⟩;rcases h3 with h3|⟨b,off,h4,h5,h6⟩
  ·exact .inl h3
  ·exact .inr ⟨b,off,h4,hG b h5,wV _ _ _ cs (by simpa only[eZ]using hn) h6⟩
 | _,.iptr cs,v,hn,hv=>by
  rw[VR]at hv ⊢;obtain⟨b,off,h1,h2,h3⟩:=hv;exact⟨b,off,h1,hG b h2,wV _ _ _ cs (by simpa only[eZ]using hn) h3⟩
 | _,.hptr ..,v,_,hv=>by rw[VR]at hv ⊢; exact hv
 | _,.hs ..,v,_,hv=>by rw[VR]at hv ⊢; exact hv
 | μ,.agg cs,v,hn,hv=>by
  rw[VR]at hv ⊢;obtain⟨vs,h1,h2⟩:=hv;exact⟨vs,h1,vS μ cs _ (by simpa only[eZ]using hn) h2⟩
 | μ,.tuple cs,v,hn,hv=>by
  rw[VR]at hv ⊢;obtain⟨vs,h1,h2⟩:=hv;exact⟨vs,h1,vS μ cs _ (by simpa only[eZ]using hn) h2⟩
 | μ,.clo fn f c,v,hn,hv=>by
  rw[VR]at hv ⊢;simp only[eZ,Bool.and_eq_true]at hn;obtain⟨fs,cs,h1,h2,h3⟩:=hv;exact⟨fs,cs,h1,vS μ f _ hn.1 h2,vS μ c _ hn.2 h3⟩
 | _,.junk,v,_,hv=>by rw[VR]; trivial
 | _,.tl t l cap (.vals cs n c0),v,hn,hv=>by
  rw[VR]at hv ⊢;obtain⟨h1,h2⟩:=hv;have h3:cs=aG t l:=by cases h2; rfl
  refine⟨?_,h2⟩;rw[VR]at h1 ⊢;obtain⟨ao,c,q1,q2,hcap,q3⟩:=h1;refine⟨ao,c,q1,q2,hcap,?_⟩;rcases q3 with q3|⟨b,off,q4,q5,q6⟩
  ·exact .inl q3
  ·exact .inr ⟨b,off,q4,hG b q5,wV _ _ _ cs (by rw[h3]; exact A8 t hn l) q6⟩
 | _,.tp t l i off (.iptr cs),v,hn,hv=>by
  rw[VR]at hv ⊢;obtain⟨h1,h2,h0⟩:=hv;have h3:cs=(aG t l).drop (i*t.size+off):=by cases h2; rfl
  refine⟨?_,h2,h0⟩;rw[VR]at h1 ⊢;obtain⟨b,o,q1,q2,q3⟩:=h1;exact⟨b,o,q1,hG b q2,wV _ _ _ cs (by rw[h3]; exact aF7 _ (A8 t hn l)) q3⟩
 | _,.tl t l cap (.lit _),v,_,hv|_,.tl t l cap (.iptr _),v,_,hv|_,.tl t l cap (.hptr ..),v,_,hv|_,.tl t l cap (.hs ..),v,_,hv|_,.tl t l cap (.agg _),v,_,hv|_,.tl t l cap (.tuple _),v,_,hv
 | _,.tl t l cap (.clo ..),v,_,hv|_,.tl t l cap .junk,v,_,hv|_,.tl t l cap (.tl ..),v,_,hv|_,.tl t l cap (.tp ..),v,_,hv|_,.tl t l cap (.own ..),v,_,hv|_,.tl t l cap (.op ..),v,_,hv|_,.tl t l cap (.win ..),v,_,hv
 | _,.tl t l cap (.row ..),v,_,hv|_,.tl t l cap (.rp ..),v,_,hv|_,.tl t l cap (.mp _),v,_,hv=>by rw[VR]at hv; exact absurd hv.2 (by intro h; cases h)
 | _,.tp t l i off (.lit _),v,_,hv|_,.tp t l i off (.vals ..),v,_,hv|_,.tp t l i off (.hptr ..),v,_,hv|_,.tp t l i off (.hs ..),v,_,hv|_,.tp t l i off (.agg _),v,_,hv|_,.tp t l i off (.tuple _),v,_,hv
 | _,.tp t l i off (.clo ..),v,_,hv|_,.tp t l i off .junk,v,_,hv|_,.tp t l i off (.tl ..),v,_,hv|_,.tp t l i off (.tp ..),v,_,hv|_,.tp t l i off (.own ..),v,_,hv|_,.tp t l i off (.op ..),v,_,hv|_,.tp t l i off (.win ..),v,_,hv
 | _,.tp t l i off (.row ..),v,_,hv|_,.tp t l i off (.rp ..),v,_,hv|_,.tp t l i off (.mp _),v,_,hv=>by rw[VR]at hv; exact absurd hv.2.1 (by intro h; cases h)
 | _,.own ..,v,_,hv=>by rw[VR]at hv ⊢; exact hv
 | _,.op ..,v,_,hv=>by rw[VR]at hv ⊢; exact hv
 | _,.win ..,v,_,hv=>by rw[VR]at hv ⊢; exact hv
 | _,.row ..,v,h,hv=>by simp only[eZ]at h; cases h
 | _,.rp ..,v,h,hv=>by simp only[eZ]at h; cases h
 | _,.mp _,v,h,hv=>by simp only[eZ]at h; cases h
theorem vS:∀ (μ:Mp) (ps:List PV) (vs:List Value),eZ.noRows ps=true->VRs w G μ ps vs->VRs w G' μ ps vs
 | _,[],vs,_,hv=>by rw[VRs]at hv ⊢; exact hv
 | μ,p::ps,vs,hn,hv=>by
  rw[VRs]at hv ⊢;simp only[eZ.noRows,Bool.and_eq_true]at hn;obtain⟨x,xs,h1,h2,h3⟩:=hv;exact⟨x,xs,h1,PZ μ p x hn.1 h2,vS μ ps xs hn.2 h3⟩
theorem wV:∀ (μ:Mp) (b off:Nat) (ps:List PV),eZ.noRows ps=true->aL w G μ b off ps->aL w G' μ b off ps
 | _,_,_,[],_,_=>by rw[aL]; trivial
 | μ,b,off,p::ps,hn,hv=>by
  rw[aL]at hv ⊢;simp only[eZ.noRows,Bool.and_eq_true]at hn;obtain⟨⟨v,h1,h2⟩,h3⟩:=hv;exact⟨⟨v,h1,PZ μ p v hn.1 h2⟩,wV μ b (off+1) ps hn.2 h3⟩
end
end
def Gd.bare (G:Gd):Gd:=⟨G.ok,λ_=>none⟩
def Gd.with (G' G:Gd):Gd:=⟨G'.ok,G.row⟩
def Gd.of (g:Nat->Prop):Gd:=⟨g,λ_=>none⟩
theorem aWG {w:World}{g:Nat->Prop}{G:Gd}(h:∀ b,g b->G b){μ:Mp}:Mono w (Gd.of g) μ w G μ:=⟨λb hb=>⟨h b hb,rfl⟩,λ_ _ h=>h,λ_ _ h=>h,λ_ _ h=>h,λ_ _ h=>by cases h⟩
structure Tg where
 t:Ty
 l:List t.den
structure Blk where
 cells:List PV
 ty:TypeId
 grown:Bool
 frozen:Bool
 tag:Option Tg
abbrev Heap:=List (Option Blk)
abbrev zY(w:World):Nat->Prop:=λb=>w.heap.size<=b
def NJ:TypeId:=1000000
def aF6(w:World) (G:Gd) (ty:TypeId) (b:Nat) (cs:List PV):Prop :=
 (ty≠NJ/\∃ c,w.heap[b]?=some (.cells c ty (0,0))/\aL w G aI b 0 cs)\/(ty=NJ/\∃ es clk,w.heap[b]?=some (.map es clk)/\cs=es.toList.map (λe=>PV.lit e.key)/\∀ e∈es.toList,e.val=.bool true)
theorem aF6.mono {w w':World}{G G':Gd}{ty:TypeId}{b:Nat}{cs:List PV}(h:aF6 w G ty b cs)(m:Mono w G aI w' G' aI)(hb:w'.heap[b]?=w.heap[b]?):aF6 w' G' ty b cs:=by
 rcases h with ⟨h0,c,h1,h2⟩|⟨h1,es,clk,h2,h3⟩
 ·exact .inl ⟨h0,c,hb.trans h1,aL.mono m hb 0 _ h2⟩
 ·exact .inr ⟨h1,es,clk,hb.trans h2,h3⟩
theorem aF6.cells {w:World}{G:Gd}{ty:TypeId}{b n:Nat}{cs:List PV}(h:aF6 w G ty b cs)(hr:ty≠NJ\/Room w b n):∃ c,w.heap[b]?=some (.cells c ty (0,0))/\aL w G aI b 0 cs:=by
 rcases h with h|⟨h1,es,clk,h2,_⟩
 ·exact h.2
 ·rcases hr with hr|⟨c,t,fr,h3,_⟩
  ·exact absurd h1 hr
  ·rw[h2]at h3; cases h3
structure sY (n0:Nat->Prop) (G:Gd) (μ:Mp) (H:Heap) (w:World):Prop where
 inj:∀ i j b,G.row i=some b->G.row j=some b->i=j
 sep:∀ j b,G.row j=some b->b<w.heap.size/\n0 b/\¬ G b/\∀ r k,H[r]?=some (some k)->k.frozen=false->μ.loc r≠some b
 cel:∀ j b,G.row j=some b->(∃ c t fr,w.heap[b]?=some (.cells c t fr))\/∃ es clk,w.heap[b]?=some (.map es clk)
 arn:∀ r k t l,H[r]?=some (some k)->k.grown=false->k.tag=some ⟨.rows t,l⟩->μ.loc r=none/\(∀ j,l.length<=j->G.row j=none)/\∀ j row,l[j]?=some row->(row=[]/\k.ty≠NJ)\/∃ b,G.row j=some b/\aF6 w G k.ty b (aG t row)
 one:∀ (r s:Nat) (k k':Blk) (t:Ty) (l:List (List t.den)) (t':Ty) (l':List (List t'.den)),H[r]?=some (some k)->k.grown=false->k.tag=some ⟨.rows t,l⟩->H[s]?=some (some k')->k'.grown=false->k'.tag=some ⟨.rows t',l'⟩->r=s
structure aN (n0:Nat->Prop) (G:Gd) (μ:Mp) (H:Heap) (w:World):Prop where
 blk:∀ r k b,H[r]?=some (some k)->μ.loc r=some b->∃ c,w.heap[b]?=some (.cells c k.ty (0,0))/\aL w G μ b 0 k.cells/\(k.grown=false->c.size=k.cells.length)/\(k.frozen=true->G b)/\(k.frozen=false->n0 b/\¬ G b)
 tags:∀ r k g,H[r]?=some (some k)->k.tag=some g->k.cells=aG g.t g.l/\μ.len r=some g.l.length
 inj:∀ r s k l b,H[r]?=some (some k)->H[s]?=some (some l)->k.frozen=false->l.frozen=false->μ.loc r=some b->μ.loc s=some b->r=s
 lt:Lt w G.ok
 top:∀ r,H.length<=r->μ.loc r=none/\μ.len r=none
 base:∀ b,w.heap.size<=b->n0 b
 rows:sY n0 G μ H w
structure Ext (n0:Nat->Prop) (w:World) (G:Gd) (μ:Mp) (w':World) (G':Gd) (μ':Mp):Prop extends Mono w G μ w' G' μ' where
 os:w'.os=w.os
 tape:w'.tape=w.tape
 output:w'.output=w.output
 size:w.heap.size<=w'.heap.size
 old:∀ b,b<w.heap.size->¬ n0 b->w'.heap[b]?=w.heap[b]?
 new:∀ b,G' b->G b\/n0 b
theorem Ext.refl (n0:Nat->Prop)(w:World)(G:Gd)(μ:Mp):Ext n0 w G μ w G μ :=
 ⟨Mono.refl _ _ _,rfl,rfl,rfl,Nat.le_refl _,λ_ _ _=>rfl,λ_ h=>.inl h⟩
theorem Ext.trans {n0:Nat->Prop}{w w' w'':World}{G G' G'':Gd}{μ μ' μ'':Mp}(h:Ext n0 w G μ w' G' μ')(k:Ext n0 w' G' μ' w'' G'' μ''):Ext n0 w G μ w'' G'' μ'' :=
 ⟨h.toMono.trans k.toMono,k.os.trans h.os,k.tape.trans h.tape,k.output.trans h.output,Nat.le_trans h.size k.size,λb hb hn=>(k.old b (Nat.lt_of_lt_of_le hb h.size) hn).trans (h.old b hb hn),
  λb hb=>by rcases k.new b hb with h1|h1; exact h.new b h1; exact .inr h1⟩
section
variable {n0:Nat->Prop} {w:World} {G:Gd} {μ:Mp} {H:Heap}
def upd(μ:Mp) (r:Nat) (b n:Option Nat):Mp:=⟨λs=>if s=r then b else μ.loc s,λs=>if s=r then n else μ.len s⟩
theorem gK(μ:Mp)(r:Nat)(b n:Option Nat):(upd μ r b n).loc r=b:=by simp[upd]
theorem qC(μ:Mp)(r:Nat)(b n:Option Nat):(upd μ r b n).len r=n:=by simp[upd]
theorem tH {μ:Mp}{r s:Nat}{b n:Option Nat}(h:s≠r):(upd μ r b n).loc s=μ.loc s/\(upd μ r b n).len s=μ.len s:=by simp[upd,h]
theorem FY {w:World}{H:Heap}(hW:aN n0 G μ H w)(b n:Option Nat):Ext n0 w G μ w G (upd μ H.length b n):={
 good:=λ_ h=>⟨h,rfl⟩
 map:=λs b' hs=>by rw[(tH _).1]; exact hs; rintro rfl; rw[(hW.top _ (Nat.le_refl _)).1]at hs; cases hs
 len:=λs b' hs=>by rw[(tH _).2]; exact hs; rintro rfl; rw[(hW.top _ (Nat.le_refl _)).2]at hs; cases hs
 room:=λ_ _ h=>h
 row:=λ_ _ h=>h
 os:=rfl
 tape:=rfl
 output:=rfl
 size:=Nat.le_refl _
 old:=λ_ _ _=>rfl
 new:=λ_ h=>.inl h }
theorem fL {w:World}{b:Nat}{o:Obj}(h:w.heap[b]?=some o):b<w.heap.size:=(Array.getElem?_eq_some_iff.1 h).1
theorem aN.nB (hW:aN n0 G μ H w){r:Nat}{k:Blk}{b:Nat}(hr:H[r]?=some (some k))(hb:μ.loc r=some b):b<w.heap.size:=by
 obtain⟨c,h1,_⟩:=hW.blk r k b hr hb;exact fL h1
theorem BQ(hW:aN n0 G μ H w)(o:Obj)(b n:Option Nat):Ext n0 w G μ (w.alloc o) G (upd μ H.length b n):={
 good:=λc hc=>⟨hc,Below.heap_alloc _ _ _ (hW.lt c hc)⟩
 map:=(FY hW b n).map
 len:=(FY hW b n).len
 room:=λc n hc=>by
  obtain⟨cs,t,fr,h1,h2⟩:=hc;exact⟨cs,t,fr,by rw[Below.heap_alloc _ _ _ (fL h1)]; exact h1,h2⟩
 row:=λ_ _ h=>h
 os:=rfl
 tape:=rfl
 output:=rfl
 size:=by simp
 old:=λc hc _=>Below.heap_alloc _ _ _ hc
 new:=λc hc=>.inl hc }
theorem TU(k:Nat):Mono w G μ { w with drawn:=k } G μ:=⟨λ_ h=>⟨h,rfl⟩,λ_ _ h=>h,λ_ _ h=>h,λ_ _ h=>h,λ_ _ h=>h⟩
theorem aCS {k:Nat}(hk:w.drawn<=k):Ext n0 w G μ { w with drawn:=k } G μ:=⟨TU k,rfl,rfl,rfl,Nat.le_refl _,λ_ _ _=>rfl,λ_ h=>.inl h⟩
theorem sY.step (h:sY n0 G μ H w) {w':World} {G':Gd} {μ':Mp} {H':Heap} (m:Mono w G aI w' G' aI) (hsz:w.heap.size<=w'.heap.size) (hrow:∀ j,G'.row j=G.row j)
  (hold:∀ j b,G.row j=some b->w'.heap[b]?=w.heap[b]?/\(G' b->G b)/\∀ r k,H'[r]?=some (some k)->k.frozen=false->μ'.loc r=some b->∃ s k0,H[s]?=some (some k0)/\k0.frozen=false/\μ.loc s=some b)
  (harn:∀ r k t l,H'[r]?=some (some k)->k.grown=false->k.tag=some ⟨.rows t,l⟩->∃ k0,H[r]?=some (some k0)/\k0.grown=k.grown/\k0.tag=k.tag/\k0.ty=k.ty/\μ'.loc r=μ.loc r):sY n0 G' μ' H' w' where
 inj i j b h1 h2:=h.inj i j b (by rw[<- hrow]; exact h1) (by rw[<- hrow]; exact h2)
 sep j b h1:=by
  rw[hrow]at h1;obtain⟨a1,a2,a3,a4⟩:=h.sep j b h1;obtain⟨b1,b2,b3⟩:=hold j b h1;refine⟨Nat.lt_of_lt_of_le a1 hsz,a2,λhg=>a3 (b2 hg),λr k hr hf hl=>?_⟩;obtain⟨s,k0,c1,c2,c3⟩:=b3 r k hr hf hl;exact a4 s k0 c1 c2 c3
 cel j b h1:=by
  rw[hrow]at h1;rw[(hold j b h1).1];exact h.cel j b h1
 arn r k t l hr hg ht:=by
  obtain⟨k0,h1,q1,q2,q3,h2⟩:=harn r k t l hr hg ht;obtain⟨a1,a2,a3⟩:=h.arn r k0 t l h1 (by rw[q1]; exact hg) (by rw[q2]; exact ht);refine⟨by rw[h2]; exact a1,λj hj=>by rw[hrow]; exact a2 j hj,λj row hj=>?_⟩;rw[<- q3];rcases a3 j row hj with a4|⟨b,b1,b2⟩
  ·exact .inl a4
  ·exact .inr ⟨b,by rw[hrow]; exact b1,b2.mono m (hold j b b1).1⟩
 one r s k k' t l t' l' h1 g1 t1 h2 g2 t2:=by
  obtain⟨k0,a1,a2,a3,_,_⟩:=harn r k t l h1 g1 t1;obtain⟨k1,b1,b2,b3,_,_⟩:=harn s k' t' l' h2 g2 t2;exact h.one r s k0 k1 t l t' l' a1 (by rw[a2]; exact g1) (by rw[a3]; exact t1) b1 (by rw[b2]; exact g2) (by rw[b3]; exact t2)
theorem sY.a6W (h:sY n0 G μ H w) {μ':Mp} (hm:∀ r,μ'.loc r=none\/μ'.loc r=μ.loc r):sY n0 G μ' H w where
 inj:=h.inj
 sep j b hj:=by
  obtain⟨a1,a2,a3,a4⟩:=h.sep j b hj;refine⟨a1,a2,a3,λr k hr hf hl=>?_⟩;rcases hm r with h1|h1
  ·rw[h1]at hl; cases hl
  ·rw[h1]at hl; exact a4 r k hr hf hl
 cel:=h.cel
 arn r k t l hr hg ht:=by
  obtain⟨a1,a2⟩:=h.arn r k t l hr hg ht;refine⟨?_,a2⟩;rcases hm r with h1|h1
  ·exact h1
  ·rw[h1]; exact a1
 one:=h.one
theorem sY.none (n0:Nat->Prop)(G:Gd)(hG:∀ j,G.row j=none)(μ:Mp){H:Heap}(w:World)(hH:∀ (r:Nat) (k:Blk),H[r]?=some (some k)->k.grown=true\/k.tag=none\/∃ g:Tg,k.tag=some g/\∀ t,g.t≠.rows t):sY n0 G μ H w where
 inj i j b h:=by rw[hG]at h; cases h
 sep j b h:=by rw[hG]at h; cases h
 cel j b h:=by rw[hG]at h; cases h
 arn r k t l hr hg ht:=by
  rcases hH r k hr with h|h|⟨g,h1,h2⟩
  ·rw[hg]at h; cases h
  ·rw[ht]at h; cases h
  ·rw[ht]at h1; cases h1; exact absurd rfl (h2 t)
 one r s k k' t l t' l' hr hg ht:=by
  rcases hH r k hr with h|h|⟨g,h1,h2⟩
  ·rw[hg]at h; cases h
  ·rw[ht]at h; cases h
  ·rw[ht]at h1; cases h1; exact absurd rfl (h2 t)
theorem sY.a4P (h:sY n0 G μ H w) {μ':Mp} {H':Heap} (φ:Nat->Nat) (hφ:∀ r s,φ r=φ s->r=s) (hs:∀ r k,H'[r]?=some (some k)->H[φ r]?=some (some k)/\μ'.loc r=μ.loc (φ r)):sY n0 G μ' H' w where
 inj:=h.inj
 sep j b hj:=by
  obtain⟨a1,a2,a3,a4⟩:=h.sep j b hj;refine⟨a1,a2,a3,λr k hr hf=>?_⟩;obtain⟨h1,h2⟩:=hs r k hr;rw[h2];exact a4 _ k h1 hf
 cel:=h.cel
 arn r k t l hr hg ht:=by
  obtain⟨h1,h2⟩:=hs r k hr;rw[h2];exact h.arn _ k t l h1 hg ht
 one r s k k' t l t' l' h1 g1 t1 h2 g2 t2:=hφ r s (h.one _ _ k k' t l t' l' (hs r k h1).1 g1 t1 (hs s k' h2).1 g2 t2)
theorem sY.rel (h:sY n0 G μ H w) {μ':Mp} {H':Heap} (φ:Nat->Nat->Prop) (hφ:∀ r r' s,φ r s->φ r' s->r=r')
  (hs:∀ r k',H'[r]?=some (some k')->∃ s k,φ r s/\H[s]?=some (some k)/\k.frozen=k'.frozen/\k.grown=k'.grown/\k.tag=k'.tag/\k.ty=k'.ty/\μ'.loc r=μ.loc s):sY n0 G μ' H' w where
 inj:=h.inj
 sep j b hj:=by
  obtain⟨a1,a2,a3,a4⟩:=h.sep j b hj;refine⟨a1,a2,a3,λr k hr hf=>?_⟩;obtain⟨s,k0,_,h1,h2,_,_,_,h6⟩:=hs r k hr;rw[h6];exact a4 _ k0 h1 (by rw[h2]; exact hf)
 cel:=h.cel
 arn r k t l hr hg ht:=by
  obtain⟨s,k0,_,h1,_,h3,h4,h5,h6⟩:=hs r k hr;rw[h6,<- h5];exact h.arn _ k0 t l h1 (by rw[h3]; exact hg) (by rw[h4]; exact ht)
 one r s k k' t l t' l' h1 g1 t1 h2 g2 t2:=by
  obtain⟨r1,k1,p1,a1,_,a3,a4,_,_⟩:=hs r k h1;obtain⟨s1,k2,p2,b1,_,b3,b4,_,_⟩:=hs s k' h2;have:=h.one r1 s1 k1 k2 t l t' l' a1 (by rw[a3]; exact g1) (by rw[a4]; exact t1) b1 (by rw[b3]; exact g2) (by rw[b4]; exact t2);subst this;exact hφ r s _ p1 p2
theorem sY.aDJ (h:sY n0 G μ H w) {n1:Nat->Prop} (hn:∀ j b,G.row j=some b->n0 b->n1 b):sY n1 G μ H w where
 inj:=h.inj
 sep j b hj:=by
  obtain⟨a1,a2,a3⟩:=h.sep j b hj;exact⟨a1,hn j b hj a2,a3⟩
 cel:=h.cel
 arn:=h.arn
 one:=h.one
def a0B(k:Blk):Prop:=∀ t l,k.grown=false->k.tag=some ⟨.rows t,l⟩->False
theorem ZM(h:aN n0 G μ H w)(k:Nat):aN n0 G μ H { w with drawn:=k } where
 rows:=h.rows.step (TU k) (Nat.le_refl _) (λ_=>rfl) (λ_ _ _=>⟨rfl,id,λr k hr hf hl=>⟨r,k,hr,hf,hl⟩⟩) (λr k _ _ hr _ _=>⟨k,hr,rfl,rfl,rfl,rfl⟩)
 blk r b l hr hl:=by
  obtain⟨c,h2,h3,h4⟩:=h.blk r b l hr hl;exact⟨c,h2,aL.mono (TU k) rfl 0 _ h3,h4⟩
 tags:=h.tags
 inj:=h.inj
 lt:=h.lt.step (λb hb=>⟨hb,rfl⟩) h.lt.lt
 top:=h.top
 base:=h.base
theorem aN.bG {w':World} {G':Gd} (h:aN n0 G μ H w) (e:Ext n0 w G μ w' G' μ) (hr:(∀ j,G'.row j=G.row j)/\∀ j b,G.row j=some b->w'.heap[b]?=w.heap[b]?/\(G' b->G b)) (hb:∀ r k b,H[r]?=some (some k)->μ.loc r=some b->w'.heap[b]?=w.heap[b]?/\(G' b->G b))
  (hlt:∀ b,G' b->b<w'.heap.size):aN n0 G' μ H w' where
 blk r k b hr h1:=by
  obtain⟨c,h2,h3,h4,h5,h6⟩:=h.blk r k b hr h1;obtain⟨e1,e2⟩:=hb r k b hr h1;exact⟨c,e1.trans h2,aL.mono e.toMono e1 0 _ h3,h4,λhf=>(e.good b (h5 hf)).1,λhf=>⟨(h6 hf).1,λhg=>(h6 hf).2 (e2 hg)⟩⟩
 rows:=h.rows.step e.toMono.aI e.size hr.1 (λj b hj=>⟨(hr.2 j b hj).1,(hr.2 j b hj).2,λr k h1 h2 h3=>⟨r,k,h1,h2,h3⟩⟩) (λr k _ _ h1 _ _=>⟨k,h1,rfl,rfl,rfl,rfl⟩)
 tags:=h.tags
 inj:=h.inj
 lt:=h.lt.step e.good hlt
 top:=h.top
 base:=λb hb=>h.base b (Nat.le_trans e.size hb)
theorem PB {k:Blk}:∀ (s:Nat) (k1:Blk),(H++[some k])[s]?=some (some k1)->(s=H.length/\k1=k)\/(s<H.length/\H[s]?=some (some k1)):=by
 intro s k1 hs;rcases Nat.lt_or_ge s H.length with hl|hl
 ·rw[List.getElem?_append_left hl]at hs;exact .inr ⟨hl,hs⟩
 ·rw[List.getElem?_append_right hl]at hs;rcases Nat.eq_zero_or_pos (s-H.length)with h0|h0
  ·rw[h0]at hs;simp only[List.getElem?_cons_zero,Option.some.injEq]at hs;exact .inl ⟨by omega,hs.symm⟩
  ·rw[List.getElem?_eq_none (by simp; omega)]at hs; cases hs
theorem KB(hW:aN n0 G μ H w) {w':World} {ob on:Option Nat} (e:Ext n0 w G μ w' G (upd μ H.length ob on)) {k:Blk} (hna:a0B k) (hheap:∀ j b,G.row j=some b->w'.heap[b]?=w.heap[b]?)
  (hob:∀ j b,G.row j=some b->k.frozen=false->ob≠some b):sY n0 G (upd μ H.length ob on) (H++[some k]) w':=by
 refine hW.rows.step e.toMono.aI e.size (λ_=>rfl) (λj b hj=>⟨hheap j b hj,id,λr k1 hr hf hl=>?_⟩) (λr k1 t l hr hg ht=>?_)
 ·rcases PB r k1 hr with ⟨rfl,rfl⟩|⟨hlt,hr'⟩
  ·rw[gK]at hl;exact absurd hl (hob j b hj hf)
  ·rw[(tH (by omega)).1]at hl;exact⟨r,k1,hr',hf,hl⟩
 ·rcases PB r k1 hr with ⟨rfl,rfl⟩|⟨hlt,hr'⟩
  ·exact(hna t l hg ht).elim
  ·exact⟨k1,hr',rfl,rfl,rfl,by rw[(tH (by omega)).1]⟩
theorem HF(hW:aN n0 G μ H w) {w':World} {ob on:Option Nat} (e:Ext n0 w G μ w' G (upd μ H.length ob on)) (k:Blk) (hold:∀ r k b,H[r]?=some (some k)->μ.loc r=some b->w'.heap[b]?=w.heap[b]?)
  (hnew:∀ b,ob=some b->∃ c,w'.heap[b]?=some (.cells c k.ty (0,0))/\aL w' G (upd μ H.length ob on) b 0 k.cells/\(k.grown=false->c.size=k.cells.length)/\(k.frozen=true->G b)/\(k.frozen=false->n0 b/\¬ G b))
  (htag:∀ g,k.tag=some g->k.cells=aG g.t g.l/\on=some g.l.length) (hinj:∀ r k' b,H[r]?=some (some k')->k'.frozen=false->μ.loc r=some b->ob≠some b)
  (hrows:sY n0 G (upd μ H.length ob on) (H++[some k]) w'):aN n0 G (upd μ H.length ob on) (H++[some k]) w':=by
 have key:=PB (H:=H) (k:=k);refine⟨?_,?_,?_,?_,?_,λb hb=>hW.base b (Nat.le_trans e.size hb),hrows⟩
 ·intro s k1 b hs hb;rcases key s k1 hs with ⟨rfl,rfl⟩|⟨hl,hs'⟩
  ·rw[gK]at hb;exact hnew b hb
  ·rw[(tH (by omega)).1]at hb;obtain⟨c,h2,h3,h4⟩:=hW.blk s k1 b hs' hb;have e1:=hold s k1 b hs' hb;exact⟨c,e1.trans h2,aL.mono e.toMono e1 0 _ h3,h4⟩
 ·intro s k1 g hs hg;rcases key s k1 hs with ⟨rfl,rfl⟩|⟨hl,hs'⟩
  ·rw[qC];exact htag g hg
  ·rw[(tH (by omega)).2];exact hW.tags s k1 g hs' hg
 ·intro s1 s2 k1 k2 b h1 h2 f1 f2 m1 m2;rcases key s1 k1 h1 with ⟨rfl,rfl⟩|⟨l1,h1'⟩ <;> rcases key s2 k2 h2 with ⟨rfl,rfl⟩|⟨l2,h2'⟩
  ·rfl
  ·rw[gK]at m1;rw[(tH (by omega)).1]at m2;exact absurd m1 (hinj s2 k2 b h2' f2 m2)
  ·rw[gK]at m2;rw[(tH (by omega)).1]at m1;exact absurd m2 (hinj s1 k1 b h1' f1 m1)
  ·rw[(tH (by omega)).1]at m1 m2;exact hW.inj s1 s2 k1 k2 b h1' h2' f1 f2 m1 m2
 ·refine hW.lt.step e.good λb hb=>?_
  exact Nat.lt_of_lt_of_le (hW.lt b hb) e.size
 ·intro r hr;simp only[List.length_append,List.length_cons,List.length_nil]at hr;rw[(tH (by omega)).1,(tH (by omega)).2];exact hW.top r (by omega)
theorem DX(hW:aN n0 G μ H w) (c:Array Value) (k:Blk) {on:Option Nat} (hc:∀ (i:Nat) (p:PV),k.cells[i]?=some p->∃ v:Value,c[i]?=some v/\VR w G μ p v) (hg:k.grown=false->c.size=k.cells.length) (hf:k.frozen=false)
  (htag:∀ g,k.tag=some g->k.cells=aG g.t g.l/\on=some g.l.length) (hna:a0B k:=by intro t l h1 h2; first|(cases h1; done)|(cases h2; done)):aN n0 G (upd μ H.length (some w.heap.size) on) (H++[some k]) (w.alloc (.cells c k.ty)):=by
 have e:=BQ hW (.cells c k.ty) (some w.heap.size) on;have hnew:(w.alloc (.cells c k.ty)).heap[w.heap.size]?=some (.cells c k.ty (0,0)):=by
  show (w.heap.push _)[w.heap.size]?=_;simp
 refine HF hW e k (λr k b hr hb=>Below.heap_alloc _ _ _ (hW.nB hr hb)) ?_ htag ?_ (KB hW e hna (λj b hj=>Below.heap_alloc _ _ _ (hW.rows.sep j b hj).1) (λj b hj _ hh=>by cases hh; exact Nat.lt_irrefl _ (hW.rows.sep j _ hj).1))
 ·rintro b hb;cases hb;refine⟨c,hnew,?_,hg,λh=>(by rw[hf]at h; cases h),λ_=>⟨hW.base _ (Nat.le_refl _),λhG=>Nat.lt_irrefl _ (hW.lt _ hG)⟩⟩;refine aL.mk λi p hp=>?_
  obtain⟨v,h1,h2⟩:=hc i p hp;refine⟨v,?_,VR.mono e.toMono p v h2⟩;simp only[World.cell?,hnew,Nat.zero_add];simpa using h1
 ·intro r k' b hr _ hb hh;cases hh;exact Nat.lt_irrefl _ (hW.nB hr hb)
theorem pZ(hW:aN n0 G μ H w) (k:Blk) {on:Option Nat} (htag:∀ g,k.tag=some g->k.cells=aG g.t g.l/\on=some g.l.length) (hna:a0B k:=by intro t l h1 h2; first|(cases h1; done)|(cases h2; done)) :
  Ext n0 w G μ w G (upd μ H.length none on)/\aN n0 G (upd μ H.length none on) (H++[some k]) w :=
 ⟨FY hW _ _,HF hW (FY hW _ _) k (λ_ _ _ _ _=>rfl) (λb hb=>by cases hb) htag (λr k' b _ _ _ hh=>by cases hh) (KB hW (FY hW _ _) hna (λ_ _ _=>rfl) (λ_ _ _ _ hh=>by cases hh))⟩
structure R8 (w w':World) (b:Nat) (c':Array Value) (t:TypeId):Prop where
 at_:w'.heap[b]?=some (.cells c' t (0,0))
 other:∀ x,x≠b->w'.heap[x]?=w.heap[x]?
 os:w'.os=w.os
 tape:w'.tape=w.tape
 output:w'.output=w.output
 size:w'.heap.size=w.heap.size
 drawn:w'.drawn=w.drawn
theorem AB(hW:aN n0 G μ H w) {r:Nat} {k:Blk} (hr:H[r]?=some (some k)) (hf:k.frozen=false) {b:Nat} (hb:μ.loc r=some b) {c c':Array Value} (hc:w.heap[b]?=some (.cells c k.ty (0,0)))
  {w':World} {t:TypeId} (hT:R8 w w' b c' t) (hs:c'.size=c.size):Ext n0 w G μ w' G μ:=by
 obtain⟨c1,h2,h3,h4,h5,h6⟩:=hW.blk r k b hr hb;refine⟨⟨λx hx=>⟨hx,hT.other x ?_⟩,λ_ _ h=>h,λ_ _ h=>h,?_,λ_ _ h=>h⟩,hT.os,hT.tape,hT.output,Nat.le_of_eq hT.size.symm,λx _ hx=>hT.other x ?_,λ_ h=>.inl h⟩
 ·rintro rfl; exact(h6 hf).2 hx
 ·intro x n hx;obtain⟨cs,t',fr,g1,g2⟩:=hx
  by_cases hxb:x=b
  ·subst hxb;rw[hc]at g1; cases g1;exact⟨c',_,_,hT.at_,by rw[hs]; exact g2⟩
  ·exact⟨cs,t',fr,by rw[hT.other x hxb]; exact g1,g2⟩
 ·rintro rfl; exact hx (h6 hf).1
theorem D5(hW:aN n0 G μ H w) {r:Nat} {k k':Blk} (hr:H[r]?=some (some k)) (hf:k.frozen=false) {b:Nat} (hb:μ.loc r=some b) {c c':Array Value} (hc:w.heap[b]?=some (.cells c k.ty (0,0)))
  {w':World} (hT:R8 w w' b c' k'.ty) (hs:c'.size=c.size) (hf':k'.frozen=false) (hk:aL w' G μ b 0 k'.cells) (hg:k'.grown=false->c'.size=k'.cells.length)
  (htag:∀ g,k'.tag=some g->k'.cells=aG g.t g.l/\μ.len r=some g.l.length) (hna:∀ t l,k'.grown=false->k'.tag=some ⟨.rows t,l⟩->∃ l0,k.grown=false/\k.tag=some ⟨.rows t,l0⟩:=by intro t l h1 h2; first|(cases h1; done)|(cases h2; done)):aN n0 G μ (H.set r (some k')) w':=by
 have e:=AB hW hr hf hb hc hT hs;obtain⟨c1,h2,h3,h4,h5,h6⟩:=hW.blk r k b hr hb;have hrl:r<H.length:=(List.getElem?_eq_some_iff.1 hr).1;have hkey:∀ (s:Nat) (k1:Blk),(H.set r (some k'))[s]?=some (some k1)->(s=r/\k1=k')\/(s≠r/\H[s]?=some (some k1)):=by
  intro s k1 hs
  by_cases hsr:r=s
  ·subst hsr; rw[List.getElem?_set_self hrl]at hs; cases hs; exact .inl ⟨rfl,rfl⟩
  ·rw[List.getElem?_set_ne hsr]at hs; exact .inr ⟨Ne.symm hsr,hs⟩
 refine⟨?_,?_,?_,?_,?_,λb hb=>hW.base b (Nat.le_trans e.size hb),?_⟩
 case refine_6 =>
  refine hW.rows.step e.toMono.aI e.size (λ_=>rfl) (λj b1 hj=>⟨hT.other b1 ?_,id,λs k1 hs hf1 hl=>?_⟩) (λs k1 t l hs hg1 ht=>?_)
  ·rintro rfl;exact(hW.rows.sep j b1 hj).2.2.2 r k hr hf hb
  ·rcases hkey s k1 hs with ⟨rfl,rfl⟩|⟨_,hs'⟩
   ·exact⟨s,k,hr,hf,hl⟩
   ·exact⟨s,k1,hs',hf1,hl⟩
  ·rcases hkey s k1 hs with ⟨rfl,rfl⟩|⟨_,hs'⟩
   ·obtain⟨l0,q1,q2⟩:=hna t l hg1 ht;rw[(hW.rows.arn s k t l0 hr q1 q2).1]at hb;cases hb
   ·exact⟨k1,hs',rfl,rfl,rfl,rfl⟩
 ·intro s k2 b2 hs2 hb2
  by_cases hsr:r=s
  ·subst hsr;rw[List.getElem?_set_self hrl]at hs2;cases hs2;rw[hb]at hb2; cases hb2;exact⟨c',hT.at_,hk,hg,λh=>(by rw[hf']at h; cases h),λ_=>h6 hf⟩
  ·rw[List.getElem?_set_ne hsr]at hs2;obtain⟨c2,g2,g3,g4,g5,g6⟩:=hW.blk s k2 b2 hs2 hb2;have hne:b2≠b:=by
    rintro rfl;cases hk2:k2.frozen with
    | false=>exact hsr (hW.inj r s k k2 b2 hr hs2 hf hk2 hb hb2)
    | true=>exact(h6 hf).2 (g5 hk2)
   exact⟨c2,(hT.other b2 hne).trans g2,aL.mono e.toMono (hT.other b2 hne) 0 _ g3,g4,g5,g6⟩
 ·intro s k2 g hs2 hg2
  by_cases hsr:r=s
  ·subst hsr;rw[List.getElem?_set_self hrl]at hs2;cases hs2;exact htag g hg2
  ·rw[List.getElem?_set_ne hsr]at hs2;exact hW.tags s k2 g hs2 hg2
 ·intro s1 s2 k1 k2 b2 e1 e2 f1 f2 m1 m2;have old:∀ (s:Nat) (k1:Blk),(H.set r (some k'))[s]?=some (some k1)->k1.frozen=false->∃ k0,H[s]?=some (some k0)/\k0.frozen=false:=by
   intro s k1 e1 f1
   by_cases hsr:r=s
   ·subst hsr; exact⟨k,hr,hf⟩
   ·rw[List.getElem?_set_ne hsr]at e1; exact⟨k1,e1,f1⟩
  obtain⟨k3,e3,f3⟩:=old s1 k1 e1 f1;obtain⟨k4,e4,f4⟩:=old s2 k2 e2 f2;exact hW.inj s1 s2 k3 k4 b2 e3 e4 f3 f4 m1 m2
 ·refine hW.lt.step (AB hW hr hf hb hc hT hs).good λb hb=>?_
  rw[hT.size]; exact hW.lt b hb
 ·intro s hs2;rw[List.length_set]at hs2;exact hW.top s hs2
theorem qH {H:Heap}{r s:Nat}{k1:Blk}(e1:(H.set r none)[s]?=some (some k1)):H[s]?=some (some k1)/\s≠r:=by
 by_cases hsr:r=s
 ·subst hsr;rcases Nat.lt_or_ge r H.length with hl|hl
  ·rw[List.getElem?_set_self hl]at e1; cases e1
  ·rw[List.getElem?_eq_none (by simpa using hl)]at e1; cases e1
 ·rw[List.getElem?_set_ne hsr]at e1; exact⟨e1,Ne.symm hsr⟩
theorem vV(hW:aN n0 G μ H w) (r:Nat):aN n0 G μ (H.set r none) w :=
 ⟨λs k b hs=>hW.blk s k b (qH hs).1,λs k g hs=>hW.tags s k g (qH hs).1,λs1 s2 k1 k2 b e1 e2=>hW.inj s1 s2 k1 k2 b (qH e1).1 (qH e2).1,hW.lt,λs hs=>hW.top s (by simpa using hs),hW.base,
  hW.rows.step (Mono.refl _ _ _) (Nat.le_refl _) (λ_=>rfl) (λ_ _ _=>⟨rfl,id,λs k hs hf hl=>⟨s,k,(qH hs).1,hf,hl⟩⟩) (λs k _ _ hs _ _=>⟨k,(qH hs).1,rfl,rfl,rfl,rfl⟩)⟩
theorem KN(hW:aN n0 G μ H w) {r:Nat} {k:Blk} (hr:H[r]?=some (some k)) {b:Nat} (hb:μ.loc r=some b) {on:Option Nat} (htag:∀ g,k.tag=some g->k.cells=aG g.t g.l/\on=some g.l.length) :
  Ext n0 w G μ w G (upd μ H.length (some b) on)/\aN n0 G (upd μ H.length (some b) on) (H.set r none++[some k]) w:=by
 have hk:=vV hW r;have hlen:(H.set r none).length=H.length:=by simp
 have e:=FY hW (some b) on;have e2:Ext n0 w G μ w G (upd μ (H.set r none).length (some b) on):=by rw[hlen]; exact e
 refine⟨e,?_⟩;have:=HF hk e2 k (λ_ _ _ _ _=>rfl) ?_ htag ?_ (KB hk e2 (λt l h1 h2=>by rw[(hW.rows.arn r k t l hr h1 h2).1]at hb; cases hb) (λ_ _ _=>rfl) (λj b1 hj hf hh=>by cases hh; exact(hW.rows.sep j b hj).2.2.2 r k hr hf hb))
 ·rwa[hlen]at this
 ·rintro b' hb';cases hb';obtain⟨c,h2,h3,h4⟩:=hW.blk r k b hr hb;exact⟨c,h2,aL.mono e2.toMono rfl 0 _ h3,h4⟩
 ·intro s k' b' hs hf hb' hh;cases hh;obtain⟨hs1,hs2⟩:=qH hs;cases hkf:k.frozen with
  | false=>exact hs2 (hW.inj s r k' k b hs1 hr hf hkf hb' hb)
  | true =>
   obtain⟨_,_,_,_,g5,_⟩:=hW.blk r k b hr hb;obtain⟨_,_,_,_,_,g6⟩:=hW.blk s k' b hs1 hb';exact(g6 hf).2 (g5 hkf)
theorem RU(hW:aN n0 G μ H w) {r:Nat} {k:Blk} (hr:H[r]?=some (some k)) (hf:k.frozen=false) :
  Ext n0 w G μ w (G.or λx=>μ.loc r=some x) μ/\aN n0 (G.or λx=>μ.loc r=some x) μ (H.set r (some { k with frozen:=true })) w:=by
 have hrl:r<H.length:=(List.getElem?_eq_some_iff.1 hr).1;have e:Ext n0 w G μ w (G.or λx=>μ.loc r=some x) μ:=⟨⟨λ_ h=>⟨.inl h,rfl⟩,λ_ _ h=>h,λ_ _ h=>h,λ_ _ h=>h,λ_ _ h=>h⟩,rfl,rfl,rfl,Nat.le_refl _,λ_ _ _=>rfl,λx hx=>by
  rcases hx with hx|hx
  ·exact .inl hx
  ·obtain⟨_,_,_,_,_,h6⟩:=hW.blk r k x hr hx;exact .inr (h6 hf).1⟩
 have key:∀ (s:Nat) (k1:Blk),(H.set r (some { k with frozen:=true }))[s]?=some (some k1)->(s=r/\k1={ k with frozen:=true })\/(s≠r/\H[s]?=some (some k1)):=by
  intro s k1 hs
  by_cases hsr:r=s
  ·subst hsr; rw[List.getElem?_set_self hrl]at hs; cases hs; exact .inl ⟨rfl,rfl⟩
  ·rw[List.getElem?_set_ne hsr]at hs; exact .inr ⟨Ne.symm hsr,hs⟩
 refine⟨e,?_,?_,?_,?_,?_,hW.base,?_⟩
 case refine_6 =>
  refine hW.rows.step e.toMono.aI (Nat.le_refl _) (λ_=>rfl) (λj b hj=>⟨rfl,?_,λs k1 hs hf1 hl=>?_⟩) (λs k1 t l hs hg ht=>?_)
  ·rintro(h1|h1)
   ·exact h1
   ·exact absurd h1 ((hW.rows.sep j b hj).2.2.2 r k hr hf)
  ·rcases key s k1 hs with ⟨rfl,rfl⟩|⟨_,hs'⟩
   ·exact⟨s,k,hr,hf,hl⟩
   ·exact⟨s,k1,hs',hf1,hl⟩
  ·rcases key s k1 hs with ⟨rfl,rfl⟩|⟨_,hs'⟩
   ·exact⟨k,hr,rfl,rfl,rfl,rfl⟩
   ·exact⟨k1,hs',rfl,rfl,rfl,rfl⟩
 ·intro s k1 b hs hb;rcases key s k1 hs with ⟨rfl,rfl⟩|⟨hne,hs⟩
  ·obtain⟨c,h2,h3,h4,h5,h6⟩:=hW.blk s k b hr hb;exact⟨c,h2,aL.mono e.toMono rfl 0 _ h3,h4,λ_=>.inr hb,λh=>by cases h⟩
  ·obtain⟨c2,g2,g3,g4,g5,g6⟩:=hW.blk s k1 b hs hb;refine⟨c2,g2,aL.mono e.toMono rfl 0 _ g3,g4,λh=>.inl (g5 h),λh=>⟨(g6 h).1,?_⟩⟩;rintro(h'|h')
   ·exact(g6 h).2 h'
   ·exact hne (hW.inj s r k1 k b hs hr h hf hb h')
 ·intro s k1 g hs hg;rcases key s k1 hs with ⟨rfl,rfl⟩|⟨hne,hs⟩
  ·exact hW.tags s k g hr hg
  ·exact hW.tags s k1 g hs hg
 ·intro s1 s2 k1 k2 b2 e1 e2 f1 f2 m1 m2;rcases key s1 k1 e1 with ⟨rfl,rfl⟩|⟨h1,h1'⟩
  ·cases f1
  ·rcases key s2 k2 e2 with ⟨rfl,rfl⟩|⟨h2,h2'⟩
   ·cases f2
   ·exact hW.inj s1 s2 k1 k2 b2 h1' h2' f1 f2 m1 m2
 ·refine hW.lt.step (λb hb=>⟨.inl hb,rfl⟩) ?_;rintro x (hx|hx)
  ·exact hW.lt x hx
  ·exact hW.nB hr hx
 ·intro s hs;exact hW.top s (by simpa using hs)
theorem aOF(hW:aN n0 G μ H w) {j b:Nat} (hb:G.row j=some b) {c c':Array Value} {t:TypeId} (hc:w.heap[b]?=some (.cells c t (0,0))) {w':World} (hT:R8 w w' b c' t) (hs:c'.size=c.size):Ext n0 w G μ w' G μ:=by
 obtain⟨s1,s2,s3,s4⟩:=hW.rows.sep j b hb;refine⟨⟨λx hx=>⟨hx,hT.other x ?_⟩,λ_ _ h=>h,λ_ _ h=>h,?_,λ_ _ h=>h⟩,hT.os,hT.tape,hT.output,Nat.le_of_eq hT.size.symm,λx _ hx=>hT.other x ?_,λ_ h=>.inl h⟩
 ·rintro rfl; exact s3 hx
 ·intro x n hx;obtain⟨cs,t',fr,g1,g2⟩:=hx
  by_cases hxb:x=b
  ·subst hxb;rw[hc]at g1; cases g1;exact⟨c',_,_,hT.at_,by rw[hs]; exact g2⟩
  ·exact⟨cs,t',fr,by rw[hT.other x hxb]; exact g1,g2⟩
 ·rintro rfl; exact hx s2
theorem aZU(hW:aN n0 G μ H w) {r:Nat} {k:Blk} {t:Ty} {l l':List (List t.den)} (hr:H[r]?=some (some k)) (hg:k.grown=false) (ht:k.tag=some ⟨.rows t,l⟩) {j b:Nat} (hb:G.row j=some b) {c c':Array Value} (hc:w.heap[b]?=some (.cells c k.ty (0,0)))
  {w':World} (hT:R8 w w' b c' k.ty) (hs:c'.size=c.size) (hl:l'.length=l.length) (hne:∀ i,i≠j->l'[i]?=l[i]?) {row:List t.den} (hj:l'[j]?=some row) (hk:aL w' G aI b 0 (aG t row)) (hm:k.ty≠NJ) :
  aN n0 G μ (H.set r (some { k with cells:=aG (.rows t) l',tag:=some ⟨.rows t,l'⟩ })) w':=by
 have e:=aOF hW hb hc hT hs;obtain⟨s1,s2,s3,s4⟩:=hW.rows.sep j b hb;obtain⟨a1,a2,a3⟩:=hW.rows.arn r k t l hr hg ht;have hrl:r<H.length:=(List.getElem?_eq_some_iff.1 hr).1;have hkey:∀ (s:Nat) (k1:Blk),(H.set r (some { k with cells:=aG (.rows t) l',tag:=some ⟨.rows t,l'⟩ }))[s]?=some (some k1)->(s=r/\k1={ k with cells:=aG (.rows t) l',tag:=some ⟨.rows t,l'⟩ })\/(s≠r/\H[s]?=some (some k1)):=by
  intro s k1 hs
  by_cases hsr:r=s
  ·subst hsr; rw[List.getElem?_set_self hrl]at hs; cases hs; exact .inl ⟨rfl,rfl⟩
  ·rw[List.getElem?_set_ne hsr]at hs; exact .inr ⟨Ne.symm hsr,hs⟩
 refine⟨?_,?_,?_,?_,?_,λb hb=>hW.base b (Nat.le_trans e.size hb),?_,?_,?_,?_,?_⟩
 ·intro s k2 b2 hs2 hb2;rcases hkey s k2 hs2 with ⟨rfl,rfl⟩|⟨_,hs'⟩
  ·rw[a1]at hb2; cases hb2
  ·obtain⟨c2,g2,g3,g4,g5,g6⟩:=hW.blk s k2 b2 hs' hb2;have hne:b2≠b:=by
    rintro rfl;cases hk2:k2.frozen with
    | false=>exact s4 s k2 hs' hk2 hb2
    | true=>exact s3 (g5 hk2)
   exact⟨c2,(hT.other b2 hne).trans g2,aL.mono e.toMono (hT.other b2 hne) 0 _ g3,g4,g5,g6⟩
 ·intro s k2 g hs2 hg2;rcases hkey s k2 hs2 with ⟨rfl,rfl⟩|⟨_,hs'⟩
  ·cases hg2;exact⟨rfl,by rw[(hW.tags s k _ hr ht).2]; exact congrArg some hl.symm⟩
  ·exact hW.tags s k2 g hs' hg2
 ·intro x1 x2 k1 k2 b2 e1 e2 f1 f2 m1 m2;have old:∀ (s:Nat) (k1:Blk),(H.set r (some { k with cells:=aG (.rows t) l',tag:=some ⟨.rows t,l'⟩ }))[s]?=some (some k1)->k1.frozen=false->∃ k0,H[s]?=some (some k0)/\k0.frozen=false:=by
   intro s k1 e1 f1;rcases hkey s k1 e1 with ⟨rfl,rfl⟩|⟨_,hs'⟩
   ·exact⟨k,hr,f1⟩
   ·exact⟨k1,hs',f1⟩
  obtain⟨k3,e3,f3⟩:=old x1 k1 e1 f1;obtain⟨k4,e4,f4⟩:=old x2 k2 e2 f2;exact hW.inj x1 x2 k3 k4 b2 e3 e4 f3 f4 m1 m2
 ·refine hW.lt.step (aOF hW hb hc hT hs).good λb hb=>?_
  rw[hT.size]; exact hW.lt b hb
 ·intro s hs2;rw[List.length_set]at hs2;exact hW.top s hs2
 ·exact hW.rows.inj
 ·intro j1 b1 h1;obtain⟨q1,q2,q3,q4⟩:=hW.rows.sep j1 b1 h1;refine⟨by rw[hT.size]; exact q1,q2,q3,λs k1 hs1 hf1 hl1=>?_⟩;rcases hkey s k1 hs1 with ⟨rfl,rfl⟩|⟨_,hs'⟩
  ·rw[a1]at hl1; cases hl1
  ·exact q4 s k1 hs' hf1 hl1
 ·intro j1 b1 h1
  by_cases hb1:b1=b
  ·subst hb1; exact .inl ⟨_,_,_,hT.at_⟩
  ·rw[hT.other b1 hb1]; exact hW.rows.cel j1 b1 h1
 ·intro s k1 t1 l1 hs1 hg1 ht1;rcases hkey s k1 hs1 with ⟨rfl,rfl⟩|⟨hne1,hs'⟩
  ·cases ht1;refine⟨a1,λi hi=>a2 i (by omega),λi row1 hi=>?_⟩
   by_cases hij:i=j
   ·subst hij;rw[hj]at hi; cases hi;exact .inr ⟨b,hb,.inl ⟨hm,c',hT.at_,hk⟩⟩
   ·rw[hne i hij]at hi;rcases a3 i row1 hi with h0|⟨b1,q1,q2⟩
    ·exact .inl h0
    ·have hbb:b1≠b:=by rintro rfl; exact hij (hW.rows.inj i j b1 q1 hb)
     exact .inr ⟨b1,q1,q2.mono e.toMono.aI (hT.other b1 hbb)⟩
  ·exact absurd (hW.rows.one s r k1 k t1 l1 t l hs' hg1 ht1 hr hg ht) hne1
 ·intro x1 x2 k1 k2 t1 l1 t2 l2 h1 g1 t1' h2 g2 t2';have old:∀ (s:Nat) (k1:Blk) t1 l1,(H.set r (some { k with cells:=aG (.rows t) l',tag:=some ⟨.rows t,l'⟩ }))[s]?=some (some k1)->k1.grown=false->k1.tag=some ⟨.rows t1,l1⟩->s=r:=by
   intro s k1 t1 l1 h1 g1 q1;rcases hkey s k1 h1 with ⟨rfl,rfl⟩|⟨_,hs'⟩
   ·rfl
   ·exact hW.rows.one s r k1 k t1 l1 t l hs' g1 q1 hr hg ht
  rw[old x1 k1 t1 l1 h1 g1 t1',old x2 k2 t2 l2 h2 g2 t2']
theorem ZS(hW:aN n0 G μ H w) (o:Obj):Ext n0 w G μ (w.alloc o) (G.or λx=>x=w.heap.size) μ/\aN n0 (G.or λx=>x=w.heap.size) μ H (w.alloc o):=by
 have e:Ext n0 w G μ (w.alloc o) (G.or λx=>x=w.heap.size) μ:={
  good:=λb hb=>⟨.inl hb,Below.heap_alloc _ _ _ (hW.lt b hb)⟩
  map:=λ_ _ h=>h
  len:=λ_ _ h=>h
  room:=λb n hc=>by
   obtain⟨cs,t,fr,h1,h2⟩:=hc;exact⟨cs,t,fr,by rw[Below.heap_alloc _ _ _ (fL h1)]; exact h1,h2⟩
  row:=λ_ _ h=>h
  os:=rfl
  tape:=rfl
  output:=rfl
  size:=by simp
  old:=λb hb _=>Below.heap_alloc _ _ _ hb
  new:=λb hb=>by
   rcases hb with hb|rfl
   ·exact .inl hb
   ·exact .inr (hW.base _ (Nat.le_refl _)) }
 refine⟨e,hW.bG e ⟨λ_=>rfl,λj b hj=>⟨Below.heap_alloc _ _ _ (hW.rows.sep j b hj).1,?_⟩⟩ ?_ ?_⟩
 ·rintro(h|rfl)
  ·exact h
  ·exact absurd (hW.rows.sep j _ hj).1 (Nat.lt_irrefl _)
 ·intro r k b hr hb;have hlt:=hW.nB hr hb;refine⟨Below.heap_alloc _ _ _ hlt,?_⟩;rintro(h|rfl)
  ·exact h
  ·omega
 ·rintro b (hb|rfl)
  ·have:=hW.lt b hb; simp; omega
  ·simp
end
abbrev TyE : Ty := .int .i64
abbrev TyF : Ty := .prod (.int .i64) (.int .i64)
abbrev TyD : Ty := .list (.int .i64)
abbrev TyC : Ty := .list (.list (.int .i64))
abbrev TyB : Ty := .prod (.int .i64) (.prod (.int .i64) (.prod (.int .i64) (.int .i64)))
abbrev TyA : Ty := .prod (.int .i64) (.prod (.list (.int .i64)) (.prod (.list (.int .i64)) (.list (.int .i64))))
abbrev TyI : Ty := .prod (.int .i8) (.prod (.int .i8) (.prod (.int .i8) (.int .i8)))
abbrev TyH : Ty := .prod (.int .i64) (.list (.list (.int .i64)))
abbrev TyG : Ty := .prod (.list (.int .i64)) (.prod (.list (.list (.int .i64))) (.list (.list (.int .i64))))
abbrev TyP : Ty := .prod (.int .u8) (.prod (.list (.prod (.int .i8) (.prod (.int .i8) (.prod (.int .i8) (.int .i8))))) .bool)
abbrev TyQ : Ty := .prod (.prod (.int .u8) (.prod (.list (.prod (.int .i8) (.prod (.int .i8) (.prod (.int .i8) (.int .i8))))) .bool)) (.prod (.prod (.int .u8) (.prod (.list (.prod (.int .i8) (.prod (.int .i8) (.prod (.int .i8) (.int .i8))))) .bool)) .bool)
universe u v
theorem oJ {α : Type u} {a b : α} : (some a = some b) = (a = b) := Option.some.injEq a b
theorem oP {α : Type u} {β : Type v} {a c : α} {b d : β} : ((a, b) = (c, d)) = (a = c ∧ b = d) := Prod.mk.injEq a b c d
theorem oT {p : Prop} [h : Decidable p] (g : p) : decide p = true := decide_eq_true g
theorem oF {p : Prop} [h : Decidable p] (g : ¬ p) : decide p = false := decide_eq_false g
theorem oC {α : Sort u} {a b : α} : cond true a b = a := rfl
theorem oD {α : Sort u} {a b : α} : cond false a b = b := rfl
theorem oE {n m : Nat} (h : Nat.beq n m = true) : n = m := Nat.eq_of_beq_eq_true h
theorem oL {n m : Nat} (h : Nat.ble n m = true) : n ≤ m := Nat.le_of_ble_eq_true h
theorem oN (n : Nat) : (n : Int).toNat = n := Int.toNat_natCast n
theorem oM (n : Nat) : n ≤ n := Nat.le_refl n
theorem oR {a b c : Nat} (h : a ≤ b) (k : b ≤ c) : a ≤ c := Nat.le_trans h k
theorem oG (a b : Nat) : a < b ∨ a ≥ b := Nat.lt_or_ge a b
theorem oB {α : Type u} {a b : α} (h : some a = some b) : a = b := Option.some.inj h
theorem oZ {α : Sort u} {β : Sort v} {a b : α} (f : α → β) (h : a = b) : f a = f b := congrArg f h
theorem oH {α : Type u} {a b : List α} : (a ++ b).length = a.length + b.length := List.length_append
theorem oO {α : Type u} {l : List α} {i : Nat} {a : α} : l[i]? = some a ↔ ∃ h : i < l.length, l[i] = a := List.getElem?_eq_some_iff
theorem oQ {α : Type u} {l : List α} {i : Nat} {a : α} : l.getD i a = l[i]?.getD a := List.getD_eq_getElem?_getD
theorem oA {a b : Bool} : ((a && b) = true) = (a = true ∧ b = true) := Bool.and_eq_true a b
end Go.PM
namespace Go.PM
open Go Go.RowKit
abbrev Frm:=List (Nat×PV)
def cV:Frm->Nat->PV
 | [],_=>.junk
 | (s,p)::r,t=>bif Nat.beq s t then p else cV r t
def aYG:Frm->Nat->PV->Frm
 | [],t,p=>[(t,p)]
 | (s,q)::r,t,p=>bif Nat.beq s t then (t,p)::r else (s,q)::aYG r t p
def aCX(m t:Nat):Bool:=Nat.beq (Nat.land (Nat.shiftRight m t) 1) 1
def lits(vs:Array Value):List PV:=vs.toList.map .lit
def aDO:Value->PV
 | .agg cs=>.agg (lits cs)
 | .tuple cs=>.tuple (lits cs)
 | v=>.lit v
def ev(F:Frm):Operand->PV
 | .tmp t=>cV F t
 | .const v=>aDO v
 | .func f=>.lit (.func (.func f) #[] #[])
 | .global _=>.junk
def a7Y:PV->Option Value
 | .lit v=>some v
 | _=>none
def aGS:List PV->Option (List Value)
 | []=>some []
 | .lit v::ps=>match aGS ps with|some vs=>some (v::vs)|none=>none
 | _=>none
def aGM:PV->Option Value
 | .lit v=>some v
 | .agg cs=>match aGS cs with|some vs=>some (.agg vs.toArray)|none=>none
 | .tuple cs=>match aGS cs with|some vs=>some (.tuple vs.toArray)|none=>none
 | _=>none
def O1 {α:Type} (P:Program):Sem α->Option α
 | .pure a=>some a
 | .program k=>O1 P (k P)
 | _=>none
def valOf(F:Frm)(x:Operand):Value:=match aGM (ev F x)with|some v=>v|none=>undef
def R6(F:Frm):List Operand->Bool
 | []=>true
 | x::xs=>match aGM (ev F x)with|some _=>R6 F xs|none=>false
def PS:Op->Bool
 | .select ..=>true
 | _=>false
def sV(P:Program)(F:Frm)(o:Oper):Option PV :=
 bif PS o.op||!R6 F o.op.operands.toList then none else
 match O1 P (execOp (valOf F) o)with
 | some (.value v)=>some (aDO v)
 | _=>none
/- Classes: whether an operation looks at the heap: 0 no,1 it reads,2 it writes. -/
def a0O(P:Program) (t:TypeId):Option Bool :=
 match P.underlying t with
 | some (.struct _)|some (.array ..)=>some true
 | some _=>some false
 | none=>none
def sS(P:Program)(t:TypeId):Option Nat:=match P.info? t with|some i=>some i.size|none=>none
def DL(P:Program) (t:TypeId) (cs:List PV):Option PV :=
 match a0O P t with
 | some true=>match sS P t with
  | some n=>bif Nat.ble n cs.length then some (.agg (cs.take n)) else none
  | none=>none
 | some false=>cs.head?
 | none=>none
def uC:PV->Option (List PV)
 | .agg cs=>some cs
 | .lit (.agg cs)=>some (lits cs)
 | .tuple _|.junk=>none
 | p=>some [p]
def MN:PV->Bool
 | .lit v=>v.oneCell'
 | .agg _|.tuple _|.junk=>false
 | _=>true
def UW(cs:List PV) (off:Nat) (new:List PV):List PV:=cs.take off++new++cs.drop (off+new.length)
def jS(H:Heap)(r:Nat):Option Blk:=match H[r]? with|some (some k)=>some k|_=>none
def WO(P:Program)(H:Heap)(t:TypeId):PV->Option (PV×Nat)
 | .iptr cs=>match DL P t cs with|some v=>some (v,0)|none=>none
 | .hptr r off=>match jS H r with
  | some k=>match DL P t (k.cells.drop off)with|some v=>some (v,1)|none=>none
  | none=>none
 | _=>none
def aBP(H:Heap)(r off:Nat)(new:List PV):Option Heap :=
 match jS H r with
 | some k=>bif !k.frozen&&Nat.ble (off+new.length) k.cells.length&&new.all MN then some (H.set r (some { k with cells:=UW k.cells off new,tag:=none })) else none
 | none=>none
def aER(P:Program)(H:Heap)(t:TypeId)(a v:PV):Option Heap :=
 match a,uC v,sS P t with
 | .hptr r off,some new,some n=>bif Nat.beq new.length n then aBP H r off new else none
 | _,_,_=>none
def aXE(H:Heap)(t:TypeId)(cells:List PV):PV×Heap:=(.hptr H.length 0,H++[some ⟨cells,t,false,false,none⟩])
def xW(P:Program)(t:TypeId):Option Value:=match P.info? t with|some i=>i.zero|none=>none
def aBR(P:Program)(s:TypeId)(f:Nat):Option Field :=
 match P.underlying s with
 | some (.struct fs)=>fs[f]?
 | _=>none
def aCL(P:Program)(s:TypeId)(f:Nat)(p:PV):Option PV :=
 match aBR P s f with
 | some fd=>match sS P fd.type with
  | some (_+1)=>match p with
   | .iptr cs=>some (.iptr (cs.drop fd.offset))
   | .hptr r off=>some (.hptr r (off+fd.offset))
   | _=>none
  | _=>none
 | none=>none
def aF(i:Int)(n:Nat):Bool:=match i with|.ofNat m=>Nat.blt m n|.negSucc _=>false
def U6(P:Program)(t:TypeId)(x:PV)(i:Int):Option PV :=
 match P.underlying t with
 | some (.slice e)=>match sS P e with
  | some sz=>match x with
   | .vals cs n _=>bif aF i n&&Nat.blt (i.toNat*sz) cs.length then some (.iptr (cs.drop (i.toNat*sz))) else none
   | .hs r off n _ _=>bif aF i n then some (.hptr r (off+i.toNat*sz)) else none
   | _=>none
  | none=>none
 | some (.array n e)=>match sS P e with
  | some sz=>match x with
   | .iptr cs=>bif aF i n then some (.iptr (cs.drop (i.toNat*sz))) else none
   | .hptr r off=>bif aF i n then some (.hptr r (off+i.toNat*sz)) else none
   | _=>none
  | none=>none
 | _=>none
def PE(place:Nat->Option (Nat×Nat)):List PV->List (Nat×PV)->Option (List PV)
 | cells,[]=>some cells
 | cells,(i,v)::rest=>match place i,uC v with
  | some (off,size),some new=>bif Nat.beq new.length size&&Nat.ble (off+new.length) cells.length then PE place (UW cells off new) rest else none
  | _,_=>none
def aPC(P:Program)(F:Frm)(t:TypeId)(parts:List (Nat×Operand)):Option PV :=
 match P.info? t,P.underlying t with
 | some it,some (.array _ e)=>match it.zero,P.info? e with
  | some z,some ie=>match PE (λi=>some (i*ie.size,ie.size)) (lits z.cells) (parts.map λp=>(p.1,ev F p.2))with
   | some cs=>some (.agg cs)
   | none=>none
  | _,_=>none
 | some it,some (.struct fields)=>match it.zero,fields.toList.mapM (λf=>(P.info? f.type).map λi=>(f.offset,i.size))with
  | some z,some places=>match PE (λi=>places.toArray[i]?) (lits z.cells) (parts.map λp=>(p.1,ev F p.2))with
   | some cs=>some (.agg cs)
   | none=>none
  | _,_=>none
 | _,_=>none
def KJ(z:Value) (n:Nat):List PV :=
 match z.cells.toList with
 | [v]=>List.replicate n (.lit v)
 | _=>(List.range n).map λi=>.lit (z.cells[i%z.cells.size]!)
def RA(P:Program)(F:Frm)(t:TypeId)(len:Nat)(parts:List (Nat×Operand)):Option PV :=
 match P.underlying t with
 | some (.slice e)=>match sS P e,xW P e with
  | some sz,some z=>bif Nat.ble (len*sz) 16777216&&Nat.ble 1 z.cells.size then
    match PE (λi=>some (i*sz,sz)) (KJ z (len*sz)) (parts.map λp=>(p.1,ev F p.2))with
    | some cs=>bif eB.noRefs cs then some (.vals cs len (some len)) else none
    | none=>none
   else none
  | _,_=>none
 | _=>none
def NN(P:Program) (F:Frm) (H:Heap) (t:TypeId) (len:Nat) (parts:List (Nat×Operand)):Option (PV×Heap) :=
 match P.underlying t with
 | some (.slice e)=>match sS P e,xW P e with
  | some sz,some z=>bif Nat.ble (len*sz) 16777216&&Nat.ble 1 z.cells.size then
    match PE (λi=>some (i*sz,sz)) (KJ z (len*sz)) (parts.map λp=>(p.1,ev F p.2))with
    | some cs=>some (.hs H.length 0 len (some len) sz,H++[some ⟨cs,e,false,false,none⟩])
    | none=>none
   else none
  | _,_=>none
 | _=>none
def aCP(P:Program)(H:Heap)(t:TypeId)(l c:PV):Option (PV×Heap) :=
 match P.underlying t,l,c with
 | some (.slice e),.lit (.int _ l),.lit (.int _ c)=>match P.info? e with
  | some i=>match i.zero with
   | some z=>bif decide (0<=l)&&decide (l<=c)&&decide (c<=1048576)&&Nat.ble i.bytes 65536&&Nat.ble 1 i.size&&Nat.beq z.cells.size i.size then
     some (.hs H.length 0 l.toNat (some c.toNat) i.size,H++[some ⟨KJ z (c.toNat*i.size),e,false,false,none⟩])
    else none
   | none=>none
  | none=>none
 | _,_,_=>none
def bnd(x:Option PV) (d:Nat):Option Nat :=
 match x with
 | none=>some d
 | some (.lit (.int _ i))=>bif decide (0<=i) then some i.toNat else none
 | _=>none
def OZ(P:Program)(t:TypeId)(x:PV)(lo hi:Option PV):Option PV :=
 match P.underlying t with
 | some (.slice e)=>match sS P e with
  | some sz=>match x with
   | .vals cs n _=>match bnd lo 0,bnd hi n with
    | some l,some h=>bif Nat.ble l h&&Nat.ble h n then some (.vals ((cs.drop (l*sz)).take ((h-l)*sz)) (h-l) none) else none
    | _,_=>none
   | .hs r off n cap sz'=>bif Nat.beq sz sz' then match bnd lo 0,bnd hi n with
    | some l,some h=>match cap with
     | some c=>bif Nat.ble l h&&Nat.ble h c then (bif Nat.beq c l then some (.hs r off 0 (some 0) sz) else some (.hs r (off+l*sz) (h-l) (some (c-l)) sz)) else none
     | none=>bif Nat.ble l h&&Nat.ble h n then (bif Nat.blt l n then some (.hs r (off+l*sz) (h-l) none sz) else (bif Nat.beq l 0 then some (.hs r off 0 none sz) else some (.vals [] 0 none))) else none
    | _,_=>none
    else none
   | _=>none
  | none=>none
 | some (.array n e)=>match sS P e with
  | some sz=>match bnd lo 0,bnd hi n with
   | some l,some h=>bif Nat.ble l h&&Nat.ble h n&&Nat.blt l n then (match x with
    | .iptr cs=>some (.vals ((cs.drop (l*sz)).take ((h-l)*sz)) (h-l) none)
    | _=>none) else none
   | _,_=>none
  | none=>none
 | _=>none
def aT8(s:ByteArray):List PV:=s.data.toList.map λb=>.lit (.int .u8 b.toNat)
def aHR(H:Heap) (sz:Nat):PV->Option (List PV×Nat)
 | .vals cs n _=>bif Nat.beq cs.length (n*sz) then some (cs,n) else none
 | .hs r off n _ _=>match jS H r with
  | some k=>bif Nat.ble (off+n*sz) k.cells.length then some ((k.cells.drop off).take (n*sz),n) else none
  | none=>none
 | .lit (.slice none n _)=>bif Nat.beq n 0 then some ([],0) else none
 | .lit (.string s)=>bif Nat.beq sz 1 then some (aT8 s,s.size) else none
 | _=>none
def YK(H:Heap)(e:TypeId)(sz need:Nat)(cells:List PV):PV×Heap :=
 (.hs H.length 0 need none sz,H++[some ⟨cells,e,true,false,none⟩])
def a07(cells:List PV) (m:Nat) (new:List PV):List PV:=bif Nat.beq cells.length m then cells++new else cells.take m++new
def aPH(P:Program)(H:Heap)(tys:Array TypeId)(s x:PV):Option (PV×Heap) :=
 match tys.toList with
 | [t,u]=>match P.underlying t,P.underlying u with
  | _,some (.int _)=>none
  | _,none=>none
  | some (.slice e),some _=>match P.info? e with
   | some i=>match i.zero with
    | some z=>bif Nat.ble i.bytes 65536&&Nat.ble 1 i.size&&Nat.beq z.cells.size i.size then
    match aHR H i.size x with
    | some (new,n)=>bif Nat.ble n 1048576&&new.all MN then match s with
     | .lit (.slice none l c)=>bif Nat.beq l 0&&Nat.beq c 0 then
       (bif Nat.beq n 0 then some (s,H) else some (YK H e i.size n new)) else none
     | .vals cs l cap=>bif Nat.beq n 0 then some (s,H) else bif Nat.beq cs.length (l*i.size)&&Nat.ble l 1048576 then
       (match cap with
        | some c=>bif Nat.ble (l+n) c then none else some (YK H e i.size (l+n) (cs++new))
        | none=>none) else none
     | .hs r off l cap sz=>bif Nat.beq n 0 then some (s,H) else match jS H r with
      | some k=>bif Nat.beq sz i.size&&Nat.ble (off+l*sz) k.cells.length&&Nat.ble l 1048576&&Nat.beq k.ty e then match cap with
       | some c=>bif Nat.ble (l+n) c then match aBP H r (off+l*sz) new with
         | some H'=>some (.hs r off (l+n) (some c) sz,H')
         | none=>none
        else some (YK H e sz (l+n) ((k.cells.drop off).take (l*sz)++new))
       | none=>bif Nat.beq off 0&&!k.frozen&&k.grown then
         some (YK (H.set r none) e sz (l+n) (a07 k.cells (l*sz) new)) else none
       else none
      | none=>none
     | _=>none
     else none
    | none=>none
    else none
    | none=>none
   | none=>none
  | _,_=>none
 | _=>none
def aYZ(P:Program)(H:Heap)(tys:Array TypeId)(d x:PV):Option (PV×Heap) :=
 match tys.toList with
 | t::_=>match P.underlying t with
  | some (.slice e)=>match sS P e with
   | some sz=>match aHR H sz x with
    | some (new,n)=>match d with
     | .hs r off l _ _=>match aBP H r off (new.take (min n l*sz))with
      | some H'=>some (.lit (goInt ((min n l:Nat):Int)),H')
      | none=>none
     | _=>none
    | none=>none
   | none=>none
  | _=>none
 | _=>none
def aU4(P:Program)(H:Heap)(tys:Array TypeId)(d:PV):Option (PV×Heap) :=
 match tys.toList with
 | t::_=>match P.underlying t with
  | some (.slice e)=>match xW P e with
   | some z=>match d with
    | .hs r off l _ _=>bif Nat.beq l 0 then some (.tuple [],H) else match aBP H r off (lits (Builtin.zeroCells z.cells l))with
     | some H'=>some (.tuple [],H')
     | none=>none
    | _=>none
   | none=>none
  | _=>none
 | _=>none
def a5J(P:Program)(tys:Array TypeId)(x:PV):Option PV :=
 match tys.toList with
 | t::_=>match P.underlying t,x with
  | some (.slice _),.vals _ n _=>some (.lit (goInt n))
  | some (.slice _),.hs _ _ n _ _=>some (.lit (goInt n))
  | some (.array n _),_=>some (.lit (goInt n))
  | _,_=>none
 | _=>none
def QU {α:Type} (n:Nat) (k:Nat->α):α:=match n with|0=>k 0|m+1=>k (m+1)
def a6N {α:Type}(i:Int)(k:Int->α):α:=match i with
 | .ofNat n=>QU n λn=>k (.ofNat n)
 | .negSucc n=>QU n λn=>k (.negSucc n)
def a4O {α:Type}(b:Bool)(k:Bool->α):α:=match b with|true=>k true|false=>k false
theorem aO9 {α:Type}(n:Nat)(k:Nat->α):QU n k=k n:=by cases n <;> rfl
theorem a2T {α:Type}(i:Int)(k:Int->α):a6N i k=k i:=by
 cases i with
 | ofNat n=>exact aO9 n λn=>k (.ofNat n)
 | negSucc n=>exact aO9 n λn=>k (.negSucc n)
theorem aZA {α:Type}(b:Bool)(k:Bool->α):a4O b k=k b:=by cases b <;> rfl
theorem cD(m n:Nat):Nat.blt m n=decide (m<n):=by
 cases h:Nat.blt m n with
 | true =>
  have:=oL h;exact(oT (show m<n by omega)).symm
 | false =>
  refine(oF λhl=>?_).symm;have:Nat.blt m n=true:=Nat.ble_eq_true_of_le hl;rw[this]at h; cases h
def aB(k:IntKind) (n:Int):Int:=match k,n with
 | .i64,.ofNat m=>bif Nat.blt m 9223372036854775808 then .ofNat m else k.wrap n
 | .i64,.negSucc m=>bif Nat.blt m 9223372036854775808 then .negSucc m else k.wrap n
 | _,_=>k.wrap n
set_option maxRecDepth 100000 in
theorem TF(k:IntKind) (n:Int):aB k n=k.wrap n:=by
 unfold aB;split
 ·rename_i m;rw[cD]
  by_cases hb:m<9223372036854775808
  ·rw[oT hb,oC,IntKind.wrap_i64];show (m:Int)=_;rw[show Int.ofNat m=(m:Int) from rfl];omega
  ·rw[oF hb,oD]
 ·rename_i m;rw[cD]
  by_cases hb:m<9223372036854775808
  ·rw[oT hb,oC,IntKind.wrap_i64,Int.negSucc_eq];omega
  ·rw[oF hb,oD]
 ·rfl
def ltI(a b:Int):Bool:=match a,b with
 | .ofNat m,.ofNat n=>Nat.blt m n
 | .ofNat _,.negSucc _=>false
 | .negSucc _,.ofNat _=>true
 | .negSucc m,.negSucc n=>Nat.blt n m
def eqI(a b:Int):Bool:=match a,b with
 | .ofNat m,.ofNat n=>Nat.beq m n
 | .negSucc m,.negSucc n=>Nat.beq m n
 | _,_=>false
theorem aDW(m n:Nat):Nat.beq m n=decide (m=n):=by
 cases h:Nat.beq m n with
 | true=>exact(oT (oE h)).symm
 | false =>
  refine(oF λhl=>?_).symm;subst hl;simp at h
theorem aE(a b:Int):ltI a b=decide (a<b):=by
 cases a <;> cases b <;> simp only[ltI,cD]
 ·exact decide_eq_decide.2 (by simp only[Int.ofNat_eq_natCast]; omega)
 ·exact(oF (by simp only[Int.ofNat_eq_natCast,Int.negSucc_eq]; omega)).symm
 ·exact(oT (by simp only[Int.ofNat_eq_natCast,Int.negSucc_eq]; omega)).symm
 ·exact decide_eq_decide.2 (by simp only[Int.negSucc_eq]; omega)
theorem fP(a b:Int):eqI a b=decide (a=b):=by
 cases a <;> cases b <;> simp only[eqI,aDW]
 ·exact decide_eq_decide.2 (by simp only[Int.ofNat_eq_natCast]; omega)
 ·exact(oF (by simp only[Int.ofNat_eq_natCast,Int.negSucc_eq]; omega)).symm
 ·exact(oF (by simp only[Int.ofNat_eq_natCast,Int.negSucc_eq]; omega)).symm
 ·exact decide_eq_decide.2 (by simp only[Int.negSucc_eq]; omega)
def aRQ(op:BinOp)(k:IntKind)(a b:Int):Option Value :=
 match op with
 | .add=>some (.int k (aB k (a+b)))
 | .sub=>some (.int k (aB k (a-b)))
 | .mul=>some (.int k (aB k (a*b)))
 | .quo=>bif eqI b 0 then none else some (.int k (aB k (a.tdiv b)))
 | .rem=>bif eqI b 0 then none else some (.int k (a.tmod b))
 | .eql=>some (.bool (eqI a b))
 | .neq=>some (.bool (!eqI a b))
 | .lss=>some (.bool (ltI a b))
 | .leq=>some (.bool (!ltI b a))
 | .gtr=>some (.bool (ltI b a))
 | .geq=>some (.bool (!ltI a b))
 | _=>none
def aIO {α β:Type}:List β->(List β->α)->α
 | [],k=>k []
 | x::r,k=>aIO r λr=>k (x::r)
theorem aE8 {α β:Type}:∀ (F:List β) (k:List β->α),aIO F k=k F
 | [],k=>rfl
 | x::r,k=>by rw[aIO,aE8 r]
def fPV {α:Type}(p:PV)(k:PV->α):α:=match p with
 | .lit (.int d n)=>a6N n λn=>k (.lit (.int d n))
 | .lit (.bool b)=>a4O b λb=>k (.lit (.bool b))
 | .lit v=>k (.lit v)
 | .vals cs n cap=>QU n λn=>k (.vals cs n cap)
 | .iptr cs=>k (.iptr cs)
 | .hptr r off=>QU r λr=>QU off λoff=>k (.hptr r off)
 | .hs r off len cap sz=>QU r λr=>QU off λoff=>QU len λlen=>k (.hs r off len cap sz)
 | .agg cs=>k (.agg cs)
 | .tuple cs=>k (.tuple cs)
 | .clo fn f c=>k (.clo fn f c)
 | .junk=>k .junk
 | .tl t l cap e=>aIO l λl=>k (.tl t l cap e)
 | .tp t l i off e=>QU i λi=>k (.tp t l i off e)
 | .own r sz=>QU r λr=>k (.own r sz)
 | .op r i off sz=>QU r λr=>QU i λi=>k (.op r i off sz)
 | .win r lo n sz=>QU r λr=>QU lo λlo=>QU n λn=>k (.win r lo n sz)
 | .row j lo n sz=>QU j λj=>QU lo λlo=>QU n λn=>k (.row j lo n sz)
 | .rp j off=>QU j λj=>QU off λoff=>k (.rp j off)
 | .mp j=>QU j λj=>k (.mp j)
theorem aB2 {α:Type}(p:PV)(k:PV->α):fPV p k=k p:=by
 unfold fPV;split <;> simp only[a2T,aZA,aO9,aE8]
def aPO {α:Type}:List PV->(List PV->α)->α
 | [],k=>k []
 | p::r,k=>fPV p λp=>aPO r λr=>k (p::r)
theorem aL4 {α:Type}:∀ (F:List PV) (k:List PV->α),aPO F k=k F
 | [],k=>rfl
 | p::r,k=>by rw[aPO,aB2,aL4 r]
def a6F {α:Type}(g:Option Tg)(k:Option Tg->α):α:=match g with
 | none=>k none
 | some ⟨t,l⟩=>aIO l λl=>k (some ⟨t,l⟩)
theorem a3R {α:Type}(g:Option Tg)(k:Option Tg->α):a6F g k=k g:=by
 cases g with
 | none=>rfl
 | some g=>exact aE8 g.l λl=>k (some ⟨g.t,l⟩)
def aC8 {α:Type}:Heap->(Heap->α)->α
 | [],k=>k []
 | none::r,k=>aC8 r λr=>k (none::r)
 | some ⟨cs,t,g,f,none⟩::r,k=>aPO cs λcs=>aC8 r λr=>k (some ⟨cs,t,g,f,none⟩::r)
 | some ⟨cs,t,g,f,some tg⟩::r,k=>a6F (some tg) λtg=>aC8 r λr=>k (some ⟨cs,t,g,f,tg⟩::r)
theorem H6 {α:Type}:∀ (F:Heap) (k:Heap->α),aC8 F k=k F
 | [],k=>rfl
 | none::r,k=>by rw[aC8,H6 r]
 | some ⟨cs,t,g,f,none⟩::r,k=>by rw[aC8,aL4,H6 r]
 | some ⟨cs,t,g,f,some tg⟩::r,k=>by rw[aC8,a3R,H6 r]
abbrev Callee:=FuncId->List PV->Heap->Option (PV×Heap×Nat)
def p0(H:Heap)(v:Option PV):Option (PV×Heap×Nat):=match v with|some v=>some (v,H,0)|none=>none
def p2(x:Option (PV×Heap)):Option (PV×Heap×Nat):=match x with|some (v,H)=>some (v,H,2)|none=>none
def M6(k l:IntKind):Bool:=match k,l with
 | .i64,.i64|.u8,.u8|.u64,.u64|.i32,.i32|.u16,.u16|.u32,.u32|.i8,.i8|.i16,.i16=>true
 | _,_=>false
theorem ZU {k l:IntKind}(h:M6 k l=true):k=l:=by cases k <;> cases l <;> first|rfl|cases h
def OM(P:Program) (sub:List Field->List PV->List PV->Option Bool):List Field->List PV->List PV->Option Bool
 | [],_,_=>some true
 | f::fs,cs,ds=>bif f.name== "_" then none else match P.underlying f.type with
  | some (.int _)=>match DL P f.type (cs.drop f.offset),DL P f.type (ds.drop f.offset)with
   | some (.lit (.int k a)),some (.lit (.int l b))=>bif M6 k l then (match OM P sub fs cs ds with
     | some r=>some (eqI a b&&r)
     | none=>none) else none
   | _,_=>none
  | some (.struct gs)=>bif P.stoodInHeld f.type then none else match DL P f.type (cs.drop f.offset),DL P f.type (ds.drop f.offset)with
   | some (.agg cs'),some (.agg ds')=>match sub gs.toList cs' ds',OM P sub fs cs ds with
    | some q,some r=>some (q&&r)
    | _,_=>none
   | _,_=>none
  | _=>none
def aI0(P:Program):Nat->List Field->List PV->List PV->Option Bool
 | 0=>λ_ _ _=>none
 | n+1=>OM P (aI0 P n)
def aWO(P:Program):List Field->List PV->List PV->Option Bool:=aI0 P 3
def X2(P:Program) (e:TypeId):List Nat->List PV->List PV->Option Bool
 | [],_,_=>some true
 | i::is,cs,ds=>match P.underlying e with
  | some (.int _)=>match DL P e (cs.drop (i*P.cellsOf e)),DL P e (ds.drop (i*P.cellsOf e))with
   | some (.lit (.int k a)),some (.lit (.int l b))=>bif M6 k l then (match X2 P e is cs ds with
     | some r=>some (eqI a b&&r)
     | none=>none) else none
   | _,_=>none
  | _=>none
def a4Z(P:Program)(op:BinOp)(t:TypeId)(cs ds:List PV):Option PV:=match P.underlying t with
 | some (.struct fs)=>bif P.stoodInHeld t||P.eqGuardType P.depth t then none else match op,aWO P fs.toList cs ds with
  | .eql,some r=>some (.lit (.bool r))
  | .neq,some r=>some (.lit (.bool (!r)))
  | _,_=>none
 | some (.array n e)=>bif P.eqGuardType P.depth t||!(P.info? e).isSome then none else match op,X2 P e (List.range n) cs ds with
  | .eql,some r=>some (.lit (.bool r))
  | .neq,some r=>some (.lit (.bool (!r)))
  | _,_=>none
 | _=>none
def a7G:List Nat:=[98]
def aWI(t:TypeId)(cs:List PV):Bool:=(a7G.any λn=>Nat.beq n t)&&eB.noRefs cs
def opu(P:Program)(cl:Callee)(F:Frm)(H:Heap)(o:Oper):Option (PV×Heap×Nat) :=
 match o.op with
 | .move x|.assign x=>some (ev F x,H,0)
 | .pick c a b=>match ev F c with
  | .lit (.bool t)=>some (bif t then ev F a else ev F b,H,0)
  | _=>none
 | .binOp op xt x y _=>match ev F x,ev F y with
  | .lit (.int k a),.lit (.int l b)=>bif M6 k l then (match aRQ op k a b with|some v=>some (.lit v,H,0)|none=>p0 H (sV P F o)) else p0 H (sV P F o)
  | .agg cs,.agg ds=>(match a4Z P op xt cs ds with|some v=>some (v,H,0)|none=>p0 H (sV P F o))
  | _,_=>p0 H (sV P F o)
 | .load t a=>match WO P H t (ev F a)with|some (v,c)=>some (v,H,c)|none=>none
 | .store t a v=>match aER P H t (ev F a) (ev F v)with|some H'=>some (.lit undef,H',2)|none=>none
 | .box t v=>match uC (ev F v)with|some cs=>bif aWI t cs then some (.iptr cs,H,0) else p2 (some (aXE H t cs))|none=>none
 | .alloc t=>match xW P t with|some z=>p2 (some (aXE H t (lits z.cells)))|none=>none
 | .fieldAddr s x f=>p0 H (aCL P s f (ev F x))
 | .indexAddr t x i=>match ev F i with|.lit (.int _ i)=>p0 H (U6 P t (ev F x) i)|_=>none
 | .nilCheck x=>match ev F x with
  | .iptr cs=>some (.iptr cs,H,0)
  | .hptr r off=>some (.hptr r off,H,0)
  | .clo (.func f) a b=>some (.clo (.func f) a b,H,0)
  | _=>p0 H (sV P F o)
 | .field s x f=>match ev F x with
  | .agg cs=>match aBR P s f with|some fd=>p0 H (DL P fd.type (cs.drop fd.offset))|none=>none
  | _=>p0 H (sV P F o)
 | .index t x i=>match ev F x,ev F i,P.underlying t with
  | .agg cs,.lit (.int _ i),some (.array n e)=>match sS P e with
   | some sz=>bif aF i n then p0 H (DL P e (cs.drop (i.toNat*sz))) else none
   | none=>none
  | _,_,_=>p0 H (sV P F o)
 | .extract x i=>match ev F x with
  | .tuple vs=>p0 H vs[i]?
  | _=>p0 H (sV P F o)
 | .build t parts=>p0 H (aPC P F t parts.toList)
 | .buildSlice t n parts=>match RA P F t n parts.toList with
  | some v=>some (v,H,0)
  | none=>p2 (NN P F H t n parts.toList)
 | .makeSlice t l c=>p2 (aCP P H t (ev F l) (ev F c))
 | .makeFunc fn first caps=>some (.clo fn (first.toList.map (ev F)) (caps.toList.map (ev F)),H,0)
 | .slice t x lo hi none=>match ev F x with
  | .lit _=>p0 H (sV P F o)
  | p=>p0 H (OZ P t p (lo.map (ev F)) (hi.map (ev F)))
 | .call c=>match c.callee with
  | .builtin .len=>match ev F (c.args.getD 0 (.const undef))with
   | .lit _=>p0 H (sV P F o)
   | p=>bif Nat.beq c.args.size 1 then p0 H (a5J P c.argTypes p) else none
  | .builtin .append=>match c.args.toList with
   | [s,x]=>p2 (aPH P H c.argTypes (ev F s) (ev F x))
   | _=>none
  | .builtin .copy=>match c.args.toList with
   | [s,x]=>p2 (aYZ P H c.argTypes (ev F s) (ev F x))
   | _=>none
  | .builtin .clear=>match c.args.toList with
   | [s]=>p2 (aU4 P H c.argTypes (ev F s))
   | _=>none
  | .builtin _=>p0 H (sV P F o)
  | .value f=>match ev F f with
   | .lit (.func (.func g) first caps)=>cl g (lits first++c.args.toList.map (ev F)++lits caps) H
   | .clo (.func g) first caps=>cl g (first++c.args.toList.map (ev F)++caps) H
   | _=>none
  | .invoke ..=>none
 | _=>p0 H (sV P F o)
section
variable {P:Program} {n0:Nat->Prop} {w:World} {G:Gd} {μ:Mp} {H:Heap} {F:Frm} {a:Act} {nt:Nat}
structure fQ (w:World) (G:Gd) (μ:Mp) (nt:Nat) (F:Frm) (a:Act):Prop where
 size:a.tmps.size=nt
 slot:∀ t,VR w G μ (cV F t) (a.tmps.getD t undef)
 defers:a.defers=[]
theorem yK(vs:Array Value):VRs w G μ (lits vs) vs.toList:=VRs.lits _
theorem aKY(v:Value):VR w G μ (aDO v) v:=by
 cases v <;> simp only[aDO] <;> rw[VR]
 ·exact⟨_,rfl,yK _⟩
 ·exact⟨_,rfl,yK _⟩
theorem cQ(h:fQ w G μ nt F a)(x:Operand):VR w G μ (ev F x) (a.eval x):=by
 cases x with
 | tmp t=>exact h.slot t
 | const v=>exact aKY v
 | global g=>simp only[ev]; rw[VR]; trivial
 | func f=>simp only[ev]; rw[VR]; rfl
theorem RC {m n:Nat}(h:m≠n):Nat.beq m n=false:=by
 cases hb:Nat.beq m n with
 | false=>rfl
 | true=>exact absurd (oE hb) h
theorem aFS(F:Frm)(t:Nat)(p:PV)(s:Nat):cV (aYG F t p) s=if s=t then p else cV F s:=by
 induction F with
 | nil =>
  simp only[aYG,cV]
  by_cases h:s=t
  ·subst h; simp
  ·have:Nat.beq t s=false:=RC λe=>h e.symm
   simp[this,h]
 | cons x r ih =>
  obtain⟨u,q⟩:=x;simp only[aYG]
  by_cases hut:u=t
  ·subst hut;simp only[Nat.beq_refl,oC,cV]
   by_cases h:s=u
   ·subst h; simp
   ·have:Nat.beq u s=false:=RC λe=>h e.symm
    simp[this,h]
  ·have h1:Nat.beq u t=false:=RC hut;simp only[h1,oD,cV,ih]
   by_cases h:u=s
   ·subst h; simp[hut]
   ·have:Nat.beq u s=false:=RC h;simp[this]
theorem fQ.put (h:fQ w G μ nt F a){d:Nat}(hd:d<nt){p:PV}{v:Value}(hv:VR w G μ p v):fQ w G μ nt (aYG F d p) (a.put (some d) v) where
 size:=by simp[Act.put,h.size]
 slot t:=by
  rw[aFS];have hsz:=h.size;simp only[Act.put]
  by_cases htd:t=d
  ·subst htd;simp[Array.getElem?_setIfInBounds,hsz,hd];exact hv
  ·rw[if_neg htd];have:=h.slot t;simp only[Array.getD_eq_getD_getElem?]at this ⊢;rw[Array.getElem?_setIfInBounds_ne (λe=>htd e.symm)];exact this
 defers:=h.defers
theorem dJ(t:Nat)(p:PV)(F:Frm)(s:Nat):cV ((t,p)::F) s=if s=t then p else cV F s:=by
 simp only[cV]
 by_cases h:s=t
 ·subst h; simp
 ·rw[RC λe=>h e.symm,oD,if_neg h]
theorem fQ.cons (h:fQ w G μ nt F a){d:Nat}(hd:d<nt){p:PV}{v:Value}(hv:VR w G μ p v):fQ w G μ nt ((d,p)::F) (a.put (some d) v) where
 size:=by simp[Act.put,h.size]
 slot t:=by
  rw[dJ];have:=(h.put hd hv).slot t;rwa[aFS]at this
 defers:=h.defers
theorem fQ.mono {w':World}{G':Gd}{μ':Mp}(h:fQ w G μ nt F a)(m:Mono w G μ w' G' μ'):fQ w' G' μ' nt F a:=⟨h.size,λt=>VR.mono m _ _ (h.slot t),h.defers⟩
theorem aMX:∀ {ps:List PV} {vs us:List Value},aGS ps=some vs->VRs w G μ ps us->us=vs
 | [],vs,us,h,k=>by simp only[aGS,oJ]at h; rw[VRs]at k; rw[k,<- h]
 | p::ps,vs,us,h,k=>by
  rw[VRs]at k;obtain⟨x,xs,rfl,h1,h2⟩:=k;cases p <;> simp only[aGS]at h <;> try (cases h; done)
  rename_i v;cases hl:aGS ps with
  | none=>rw[hl]at h; cases h
  | some vs' =>
   rw[hl]at h;simp only[oJ]at h;rw[VR]at h1;rw[<- h,h1,aMX hl h2]
theorem a1F {p:PV}{v u:Value}(h:aGM p=some v)(k:VR w G μ p u):u=v:=by
 cases p <;> simp only[aGM]at h <;> try (cases h; done)
 ·rw[VR]at k; rw[k]; simpa using h
 all_goals
  rename_i cs;cases hl:aGS cs with
  | none=>rw[hl]at h; cases h
  | some vs =>
   rw[hl]at h;simp only[oJ]at h;rw[VR]at k;obtain⟨us,h1,h2⟩:=k;rw[h1,<- h,<- aMX hl h2]
theorem aOK {α:Type}{s:Sem α}{x:α}(h:O1 P s=some x)(w:World):s.run P w=.ok x w:=by
 induction s with
 | pure a=>simp only[O1,oJ]at h; rw[h]; rfl
 | program k ih=>exact ih P h
 | _=>simp[O1]at h
theorem aF8(h:fQ w G μ nt F a):∀ {xs:List Operand},R6 F xs=true->∀ x∈xs,a.eval x=valOf F x
 | [],_,x,hx=>by cases hx
 | y::ys,hv,x,hx=>by
  simp only[R6]at hv;cases ht:aGM (ev F y)with
  | none=>rw[ht]at hv; cases hv
  | some v =>
   rw[ht]at hv;rcases List.mem_cons.1 hx with rfl|hx
   ·rw[valOf,ht]; exact a1F ht (cQ h x)
   ·exact aF8 h hv x hx
theorem aSD(h:fQ w G μ nt F a){o:Oper}{v:PV}(hx:sV P F o=some v):∃ v',(∀ w1:World,(execOp a.eval o).run P w1=.ok (.value v') w1)/\VR w G μ v v':=by
 unfold sV at hx;cases h1:(PS o.op||!R6 F o.op.operands.toList)with
 | true=>rw[h1]at hx; cases hx
 | false =>
  rw[h1]at hx;simp only[Bool.or_eq_false_iff,Bool.not_eq_false']at h1;simp only[oD]at hx;have hc:execOp a.eval o=execOp (valOf F) o:=execOp_congr o (λcs b e=>by simp[PS,e]at h1) λx hx=>aF8 h h1.2 x (Array.mem_toList_iff.2 hx)
  cases he:O1 P (execOp (valOf F) o)with
  | none=>rw[he]at hx; cases hx
  | some n =>
   rw[he]at hx;cases n <;> simp only[oJ]at hx <;> try (cases hx; done)
   rename_i u;subst hx;exact⟨u,λw1=>by rw[hc]; exact aOK he w1,aKY u⟩
def yB(P:Program) (n0:Nat->Prop) (w:World) (G:Gd) (μ:Mp) (s:Sem Value) (v:PV) (H':Heap):Prop :=
 ∃ v' w' G' μ',s.run P w=.ok v' w'/\Ext n0 w G μ w' G' μ'/\aN n0 G' μ' H' w'/\VR w' G' μ' v v'
theorem yB.same (hW:aN n0 G μ H w){s:Sem Value}{v:PV}{v':Value}(h:s.run P w=.ok v' w)(hv:VR w G μ v v'):yB P n0 w G μ s v H:=⟨v',w,G,μ,h,Ext.refl _ _ _ _,hW,hv⟩
theorem yT {t:TypeId}{i:TypeInfo}(h:P.info? t=some i)(w:World):(typeInfo t).run P w=.ok i w:=by simp[typeInfo,h]
theorem run_sizeOf {t:TypeId}{n:Nat}(h:sS P t=some n)(w:World):(sizeOf t).run P w=.ok n w:=by
 unfold sS at h;cases hi:P.info? t with
 | none=>rw[hi]at h; cases h
 | some i =>
  rw[hi]at h;simp only[oJ]at h;simp[sizeOf,yT hi,h]
theorem ZN {t:TypeId}{b:Bool}(h:a0O P t=some b)(w:World):(isAgg t).run P w=.ok b w:=by
 unfold a0O at h;cases hu:P.underlying t with
 | none=>rw[hu]at h; cases h
 | some d =>
  rw[hu]at h;simp only[isAgg,Sem.run_bind,run_underlying hu,Result.andThen_ok];cases d <;> simp only[oJ]at h <;> subst h <;> rfl
theorem run_loadCellsFrom {b off:Nat}(vs:List Value):∀ (i:Nat) (acc:Array Value),(∀ j (hj:j<vs.length),w.cell? ⟨b,off+(i+j),none⟩=some vs[j]) ->
  (loadCellsFrom ⟨b,off,none⟩ i vs.length acc).run P w=.ok (acc++vs.toArray) w:=by
 induction vs with
 | nil=>intro i acc _; simp[loadCellsFrom]
 | cons v vs ih =>
  intro i acc h;have h0:=h 0 (by simp);simp only[Nat.add_zero,List.getElem_cons_zero]at h0;have:=ih (i+1) (acc.push v) λj hj=>by
   have:=h (j+1) (by simpa using hj);simp only[List.getElem_cons_succ]at this;rw[<- this]; congr 2; omega
  simp only[List.length_cons,loadCellsFrom,Sem.run_bind,run_load,Addr.add_lit,h0,Result.andThen_ok,this];simp
theorem run_loadCells {b off:Nat}{vs:List Value}(h:∀ j (hj:j<vs.length),w.cell? ⟨b,off+j,none⟩=some vs[j]):(loadCells ⟨b,off,none⟩ vs.length).run P w=.ok vs.toArray w:=by
 have:=run_loadCellsFrom (P:=P) (w:=w) (b:=b) (off:=off) vs 0 #[] (λj hj=>by rw[Nat.zero_add j]; exact h j hj);simpa[loadCells]using this
theorem LQ {t:TypeId}{cs:List PV}{v:PV}{b off:Nat}(hc:aL w G μ b off cs)(h:DL P t cs=some v):∃ v',(loadVar t ⟨b,off,none⟩).run P w=.ok v' w/\VR w G μ v v':=by
 unfold DL at h;cases ha:a0O P t with
 | none=>rw[ha]at h; cases h
 | some g =>
  rw[ha]at h;cases g with
  | false =>
   cases cs with
   | nil=>cases h
   | cons c cs =>
    simp only[List.head?_cons,oJ]at h;subst h;rw[aL]at hc;obtain⟨⟨v',h1,h2⟩,_⟩:=hc;exact⟨v',by simp[loadVar,ZN ha,h1],h2⟩
  | true =>
   simp only at h;cases hs:sS P t with
   | none=>rw[hs]at h; cases h
   | some n =>
    rw[hs]at h;simp only at h;cases hn:Nat.ble n cs.length with
    | false=>rw[hn]at h; cases h
    | true =>
     rw[hn]at h;simp only[oC,oJ]at h;subst h;obtain⟨vs,h1,h2⟩:=(hc.take n).values;have hl:=h1.length;rw[List.length_take,Nat.min_eq_left (oL hn)]at hl;have:=run_loadCells (P:=P) h2;rw[<- hl]at this;refine⟨.agg vs.toArray,by simp[loadVar,ZN ha,run_sizeOf hs,this],?_⟩;rw[VR];exact⟨_,rfl,h1⟩
theorem aJ {r:Nat}{k:Blk}(h:jS H r=some k):H[r]?=some (some k):=by
 unfold jS at h;split at h
 ·rename_i h'; rw[h'] ; simpa using h
 ·cases h
theorem aFY(hW:aN n0 G μ H w){t:TypeId}{p v:PV}{c:Nat}{x:Value}(hp:VR w G μ p x)(h:WO P H t p=some (v,c)):∃ v',(Instr.loadAt t x).run P w=.ok v' w/\VR w G μ v v':=by
 cases p <;> simp only[WO]at h <;> try (cases h; done)
 case iptr cs =>
  rw[VR]at hp;obtain⟨b,off,rfl,_,hc⟩:=hp;split at h
  ·rename_i u hu;simp only[oJ,oP]at h;obtain⟨v',h1,h2⟩:=LQ hc hu;exact⟨v',by simp[Instr.loadAt,Instr.sureAddr,h1],h.1 ▸ h2.aY⟩
  ·cases h
 case hptr r off =>
  rw[VR]at hp;obtain⟨b,hb,rfl⟩:=hp;split at h
  ·rename_i k hk;split at h
   ·rename_i u hu;simp only[oJ,oP]at h;obtain⟨c',g2,g3,_⟩:=hW.blk r k b (aJ hk) hb;have hd:=g3.drop off;rw[Nat.zero_add]at hd;obtain⟨v',h1,h2⟩:=LQ hd hu;exact⟨v',by simp[Instr.loadAt,Instr.sureAddr,h1],h.1 ▸ h2⟩
   ·cases h
  ·cases h
end
section
variable {P:Program} {n0:Nat->Prop} {w:World} {G:Gd} {μ:Mp} {H:Heap}
theorem aJ4 {t:Ty}{l:List t.den}{cap:Option Nat}{e:PV}{v:Value}(hv:VR w G μ (.tl t l cap e) v):∃ ao c,v=.slice ao l.length c:=by
 rw[VR]at hv;obtain⟨h1,rfl⟩:=hv;rw[VR]at h1;obtain⟨ao,c,rfl,_⟩:=h1;exact⟨ao,c,rfl⟩
theorem aUA {t:Ty}{l:List t.den}{i off:Nat}{e:PV}{v:Value}(hv:VR w G μ (.tp t l i off e) v):∃ p,v=.pointer (some p):=by
 rw[VR]at hv;obtain⟨h1,rfl,_⟩:=hv;rw[VR]at h1;obtain⟨b,o,rfl,_⟩:=h1;exact⟨_,rfl⟩
theorem aYP {r sz:Nat}{v:Value}(hv:VR w G μ (.own r sz) v):∃ ao n c,v=.slice ao n c:=by
 rw[VR]at hv;obtain⟨n,_,⟨_,ao,rfl⟩|⟨b,c,_,rfl,_⟩⟩:=hv
 ·exact⟨_,_,_,rfl⟩
 ·exact⟨_,_,_,rfl⟩
theorem GQ {p:PV}{cs:List PV}{v:Value}(h:uC p=some cs)(hv:VR w G μ p v):VRs w G μ cs v.cells.toList:=by
 have one:∀ {v:Value},VR w G μ p v->v.cells=#[v]->VRs w G μ [p] v.cells.toList:=λhv e=>by rw[e,VRs]; exact⟨_,[],rfl,hv,by rw[VRs]⟩
 cases p with
 | lit u =>
  have hv':=hv;rw[VR]at hv';subst hv';cases v <;> simp only[uC,oJ]at h <;> subst h <;> first|exact one hv rfl|exact yK _
 | agg cs' =>
  simp only[uC,oJ]at h;subst h;rw[VR]at hv;obtain⟨vs,rfl,hv⟩:=hv;exact hv
 | tuple vs=>cases h
 | junk=>cases h
 | vals cs' n cap =>
  simp only[uC,oJ]at h;subst h;have hv':=hv;rw[VR]at hv';obtain⟨_,_,rfl,_⟩:=hv';exact one hv rfl
 | iptr cs' =>
  simp only[uC,oJ]at h;subst h;have hv':=hv;rw[VR]at hv';obtain⟨_,_,rfl,_⟩:=hv';exact one hv rfl
 | mp j =>
  simp only[uC,oJ]at h;subst h;have hv':=hv;rw[VR]at hv';obtain⟨_,_,rfl⟩:=hv';exact one hv rfl
 | hptr r off =>
  simp only[uC,oJ]at h;subst h;have hv':=hv;rw[VR]at hv';obtain⟨_,_,rfl⟩:=hv';exact one hv rfl
 | hs r off len cap sz =>
  simp only[uC,oJ]at h;subst h;have hv':=hv;rw[VR]at hv';obtain⟨_,_,_,rfl,_⟩:=hv';exact one hv rfl
 | clo fn f c =>
  simp only[uC,oJ]at h;subst h;have hv':=hv;rw[VR]at hv';obtain⟨_,_,rfl,_⟩:=hv';exact one hv rfl
 | tl t l cap e =>
  simp only[uC,oJ]at h;subst h;obtain⟨_,_,rfl⟩:=aJ4 hv;exact one hv rfl
 | tp t l i off e =>
  simp only[uC,oJ]at h;subst h;obtain⟨_,rfl⟩:=aUA hv;exact one hv rfl
 | own r sz =>
  simp only[uC,oJ]at h;subst h;obtain⟨_,_,_,rfl⟩:=aYP hv;exact one hv rfl
 | op r i off sz =>
  simp only[uC,oJ]at h;subst h;have hv':=hv;rw[VR]at hv';obtain⟨_,_,rfl⟩:=hv';exact one hv rfl
 | win r lo n sz =>
  simp only[uC,oJ]at h;subst h;have hv':=hv;rw[VR]at hv';obtain⟨_,_,_,_,rfl,_⟩:=hv';exact one hv rfl
 | row j lo n sz =>
  simp only[uC,oJ]at h;subst h;have hv':=hv;rw[VR]at hv';obtain⟨_,_,rfl,_⟩:=hv';exact one hv rfl
 | rp j off =>
  simp only[uC,oJ]at h;subst h;have hv':=hv;rw[VR]at hv';obtain⟨_,_,rfl⟩:=hv';exact one hv rfl
theorem aUG {p:PV}{v:Value}(h:MN p=true)(hv:VR w G μ p v):v.oneCell'=true:=by
 cases p <;> simp only[MN]at h <;> try (cases h; done)
 all_goals (rw[VR]at hv)
 ·rw[hv]; exact h
 ·obtain⟨_,_,rfl,_⟩:=hv; rfl
 ·obtain⟨_,_,rfl,_⟩:=hv; rfl
 ·obtain⟨_,_,rfl⟩:=hv; rfl
 ·obtain⟨_,_,_,rfl,_⟩:=hv; rfl
 ·obtain⟨_,_,rfl,_⟩:=hv; rfl
 ·obtain⟨h1,rfl⟩:=hv;rw[VR]at h1;obtain⟨_,_,rfl,_⟩:=h1; rfl
 ·obtain⟨h1,rfl,_⟩:=hv;rw[VR]at h1;obtain⟨_,_,rfl,_⟩:=h1; rfl
 ·obtain⟨_,_,⟨_,_,rfl⟩|⟨_,_,_,rfl,_⟩⟩:=hv <;> rfl
 ·obtain⟨_,_,rfl⟩:=hv; rfl
 ·obtain⟨_,_,_,_,rfl,_⟩:=hv; rfl
 ·obtain⟨_,_,rfl,_⟩:=hv; rfl
 ·obtain⟨_,_,rfl⟩:=hv; rfl
 ·obtain⟨_,_,rfl⟩:=hv; rfl
theorem G8:∀ {ps:List PV} {vs:List Value},ps.all MN=true->VRs w G μ ps vs->∀ v∈vs,v.oneCell'=true
 | [],vs,_,h,v,hv=>by rw[VRs]at h; subst h; cases hv
 | p::ps,vs,ho,h,v,hv=>by
  rw[VRs]at h;obtain⟨x,xs,rfl,h1,h2⟩:=h;simp only[List.all_cons,oA]at ho;rcases List.mem_cons.1 hv with rfl|hv
  ·exact aUG ho.1 h1
  ·exact G8 ho.2 h2 v hv
def fE(c:Array Value)(off:Nat)(vs:List Value):Array Value:=(c.toList.take off++vs++c.toList.drop (off+vs.length)).toArray
theorem wP {c:Array Value}{off:Nat}{vs:List Value}(h:off+vs.length<=c.size):(fE c off vs).size=c.size:=by simp[fE]; omega
theorem aEB {c:Array Value}{off:Nat}{v:Value}{vs:List Value}(h:off<c.size):fE (c.setIfInBounds off v) (off+1) vs=fE c off (v::vs):=by
 have hl:off<c.toList.length:=by simpa using h
 simp only[fE,Array.toList_setIfInBounds,List.length_cons]
 congr 1
 rw[List.drop_set_of_lt (by omega),List.take_set,List.take_succ_eq_append_getElem hl,List.set_append_right _ _ (by simp; omega)];simp;rw[Nat.min_eq_left (by omega)];simp[Nat.add_assoc,Nat.add_comm 1]
theorem R8.trans {w w1 w2:World}{b:Nat}{c1 c2:Array Value}{t:TypeId}(h:R8 w w1 b c1 t)(k:R8 w1 w2 b c2 t):R8 w w2 b c2 t :=
 ⟨k.at_,λx hx=>(k.other x hx).trans (h.other x hx),k.os.trans h.os,k.tape.trans h.tape,k.output.trans h.output,k.size.trans h.size,k.drawn.trans h.drawn⟩
theorem aJB {b off:Nat}{c:Array Value}{t:TypeId}(h:w.heap[b]?=some (.cells c t (0,0)))(v:Value):R8 w (w.setCell ⟨b,off,none⟩ v) b (c.setIfInBounds off v) t :=
 ⟨by simp[World.setCell,Array.getElem?_modify,h],λx hx=>Below.heap_setCell _ _ _ _ hx,rfl,rfl,rfl,by simp,rfl⟩
theorem pM {b off:Nat}{t:TypeId}:∀ (vs:List Value) (i:Nat) (w:World) (c:Array Value),(∀ v∈vs,v.oneCell'=true)->w.heap[b]?=some (.cells c t (0,0))->off+i+vs.length<=c.size ->
  ∃ w',(storeCells ⟨b,off,none⟩ vs i).run P w=.ok () w'/\R8 w w' b (fE c (off+i) vs) t
 | [],i,w,c,_,hc,_=>⟨w,rfl,by simpa[fE]using hc,λ_ _=>rfl,rfl,rfl,rfl,rfl,rfl⟩
 | v::vs,i,w,c,h1,hc,hl=>by
  simp only[List.length_cons]at hl;have ht:=aJB (off:=off+i) hc v;obtain⟨w',h2,h3⟩:=pM (b:=b) (off:=off) vs (i+1) _ _ (λu hu=>h1 u (List.mem_cons_of_mem _ hu)) ht.at_ (by simp only[Array.size_setIfInBounds]; omega);refine⟨w',?_,?_⟩
  ·have hcell:w.cell? ⟨b,off+i,none⟩=some c[off+i]:=by
    simp only[World.cell?,hc];simp
   have hfr:w.frozen? ⟨b,off+i,none⟩=false:=by simp[World.frozen?,hc]
   simp only[storeCells,Sem.run_bind,run_store _ _ _ _ _ (h1 v List.mem_cons_self),Addr.add_lit,hcell,hfr,Bool.false_eq_true,if_false,Result.andThen_ok,h2]
  ·have:=ht.trans h3;rwa[<- Nat.add_assoc,aEB (c:=c) (by omega)]at this
theorem zU {b:Nat} {c:Array Value} {t:TypeId} {fr:Nat×Nat} {cs:List PV} (hb:w.heap[b]?=some (.cells c t fr)) (h:aL w G μ b 0 cs):VRs w G μ cs (c.toList.take cs.length)/\cs.length<=c.size:=by
 obtain⟨vs,h1,h2⟩:=h.values;have hl:=h1.length;have hcell:∀ i,w.cell? ⟨b,i,none⟩=c[i]?:=λi=>by simp[World.cell?,hb]
 have hlen:cs.length<=c.size:=by
  rcases Nat.eq_zero_or_pos cs.length with h0|h0
  ·omega
  ·have:=h2 (cs.length-1) (by omega);rw[Nat.zero_add,hcell]at this;have:=(Array.getElem?_eq_some_iff.1 this).1;omega
 refine⟨?_,hlen⟩;have:vs=c.toList.take cs.length:=by
  apply List.ext_getElem
  ·simp; omega
  ·intro i h3 h4;have:=h2 i h3;rw[Nat.zero_add,hcell,Array.getElem?_eq_some_iff]at this;obtain⟨_,h5⟩:=this;simp[<- h5]
 rw[<- this]; exact h1
theorem rW {b:Nat}{c:Array Value}{t:TypeId}{fr:Nat×Nat}{cs:List PV}{n:Nat}(hb:w.heap[b]?=some (.cells c t fr))(h:VRs w G μ cs (c.toList.take n)):aL w G μ b 0 cs :=
 aL.mk λi p hp=>by
  obtain⟨v,h1,h2⟩:=h.get hp;refine⟨v,?_,h2⟩;rw[List.getElem?_take]at h1;split at h1
  ·simp only[World.cell?,hb,Nat.zero_add];simpa using h1
  ·cases h1
theorem aLT {cs new:List PV}{off:Nat}(h:off+new.length<=cs.length):(UW cs off new).length=cs.length:=by simp[UW]; omega
theorem aU2 {cs new:List PV}{c:Array Value}{vs:List Value}{off:Nat}(h:VRs w G μ cs (c.toList.take cs.length))(hn:VRs w G μ new vs)(hl:off+new.length<=cs.length)(hc:cs.length<=c.size) :
  VRs w G μ (UW cs off new) ((fE c off vs).toList.take cs.length):=by
 have e:(fE c off vs).toList.take cs.length=(c.toList.take cs.length).take off++vs++(c.toList.take cs.length).drop (off+new.length):=by
  have hvl:=hn.length;simp only[fE];rw[List.take_append,List.take_append,List.take_take,List.take_of_length_le (l:=vs) (by simp; omega),List.drop_take,List.take_take,Nat.min_comm off,hvl]
  congr 2
  simp; omega
 rw[e];exact((h.take off).append hn).append (h.drop _)
theorem OD(hW:aN n0 G μ H w){r off:Nat}{new:List PV}{H':Heap}(h:aBP H r off new=some H'){b:Nat}(hb:μ.loc r=some b){vs:List Value}(hv:VRs w G μ new vs) :
  ∃ w',(storeCells ⟨b,off,none⟩ vs).run P w=.ok () w'/\Ext n0 w G μ w' G μ/\aN n0 G μ H' w':=by
 unfold aBP at h;cases hk:jS H r with
 | none=>rw[hk]at h; cases h
 | some k =>
  rw[hk]at h;simp only at h;cases hc:(!k.frozen&&Nat.ble (off+new.length) k.cells.length&&new.all MN)with
  | false=>rw[hc]at h; cases h
  | true =>
   rw[hc]at h;simp only[oC,oJ]at h;subst h;simp only[oA,Bool.not_eq_true']at hc;obtain⟨⟨hf,hle⟩,hok⟩:=hc;have hle:=oL hle;obtain⟨c,g2,g3,g4,g5,g6⟩:=hW.blk r k b (aJ hk) hb;obtain⟨i1,i2⟩:=zU g2 g3;have hvl:=hv.length;obtain⟨w',h1,h2⟩:=pM (P:=P) (off:=off) vs 0 w c (G8 hok hv) g2 (by omega);rw[Nat.add_zero]at h2;have hsz:(fE c off vs).size=c.size:=wP (by omega);have e:=AB hW (aJ hk) hf hb g2 h2 hsz;refine⟨w',h1,e,?_⟩
   refine D5 hW (aJ hk) hf hb g2 h2 hsz hf ?_ ?_ (λg hg=>by cases hg)
   ·exact rW h2.at_ (VRs.mono e.toMono _ _ (aU2 i1 hv hle i2))
   ·intro hg;rw[hsz,aLT hle]; exact g4 hg
theorem aQB(hW:aN n0 G μ H w){t:TypeId}{p v:PV}{H':Heap}{x y:Value}(hp:VR w G μ p x)(hv:VR w G μ v y)(h:aER P H t p v=some H') :
  ∃ w',(Instr.storeAt t x y).run P w=.ok () w'/\Ext n0 w G μ w' G μ/\aN n0 G μ H' w':=by
 unfold aER at h;split at h
 ·rename_i r off new n hc hs;cases hn:Nat.beq new.length n with
  | false=>rw[hn]at h; cases h
  | true =>
   rw[hn]at h;simp only[oC]at h;have hn:=oE hn;rw[VR]at hp;obtain⟨b,hb,rfl⟩:=hp;have hcv:=GQ hc hv;obtain⟨w',h1,h2,h3⟩:=OD (P:=P) hW h hb hcv;refine⟨w',?_,h2,h3⟩;have hl:=hcv.length;have hl':y.cells.size=n:=by rw[<- hn,hl]; simp
   simp[Instr.storeAt,Instr.sureAddr,storeVar,run_sizeOf hs,hl',h1]
 ·cases h
theorem aL9(hW:aN n0 G μ H w){t:TypeId}{cs:List PV}{c:Array Value}(hv:VRs w G μ cs c.toList):yB P n0 w G μ (do pure (.pointer (some (<- newRow t c)))) (aXE H t cs).1 (aXE H t cs).2:=by
 have hl:=hv.length;rw[Array.length_toList]at hl;have hk:=DX (on:=none) hW c ⟨cs,t,false,false,none⟩ (λi p hp=>by
  obtain⟨v,h1,h2⟩:=hv.get hp;exact⟨v,by simpa using h1,h2⟩) (λ_=>hl.symm) rfl (λg hg=>by cases hg)
 refine⟨.pointer (some ⟨w.heap.size,0,none⟩),w.alloc (.cells c t),G,_,by simp[newRow],BQ hW _ _ _,hk,?_⟩;simp only[aXE];rw[VR];exact⟨_,gK _ _ _ _,rfl⟩
theorem aF3(hW:aN n0 G μ H w){t:TypeId}{cs:List PV}{c:Array Value}(hv:VRs w G μ cs c.toList)(hn:eB.noRefs cs=true):yB P n0 w G μ (do pure (.pointer (some (<- newRow t c)))) (.iptr cs) H:=by
 obtain⟨e1,e2⟩:=ZS hW (.cells c t);refine⟨.pointer (some ⟨w.heap.size,0,none⟩),w.alloc (.cells c t),_,_,by simp[newRow],e1,e2,?_⟩;rw[VR];refine⟨w.heap.size,0,rfl,.inr rfl,?_⟩;refine aL.mk λj p hp=>?_
 obtain⟨u,g1,g2⟩:=(dB _ _ hn hv).get hp;refine⟨u,?_,VR.mono e1.toMono.aI p u g2⟩;rw[Nat.zero_add,World.cell?_alloc_new];simpa using g1
theorem aE2 {s:TypeId}{f:Nat}{p v:PV}{x:Value}(hp:VR w G μ p x)(h:aCL P s f p=some v):∃ v',(Instr.fieldAt s x f).run P w=.ok v' w/\VR w G μ v v':=by
 unfold aCL aBR at h;split at h
 ·rename_i fd hfd;split at hfd
  ·rename_i fs hu;split at h
   ·rename_i n hs;have hz:¬ (n+1=0):=by omega
    cases p <;> simp only[oJ]at h <;> try (cases h; done)
    all_goals subst h
    ·rw[VR]at hp;obtain⟨b,off,rfl,hg,hc⟩:=hp;refine⟨.pointer (some ⟨b,off+fd.offset,none⟩),?_,?_⟩
     ·simp[Instr.fieldAt,run_underlying hu,hfd,Instr.sureAddr,fieldPlace,run_sizeOf hs,Addr.add_lit]
     ·rw[VR]; exact⟨b,_,rfl,hg,hc.drop _⟩
    ·rename_i r off;rw[VR]at hp;obtain⟨b,hb,rfl⟩:=hp;refine⟨.pointer (some ⟨b,off+fd.offset,none⟩),?_,?_⟩
     ·simp[Instr.fieldAt,run_underlying hu,hfd,Instr.sureAddr,fieldPlace,run_sizeOf hs,Addr.add_lit]
     ·rw[VR]; exact⟨b,hb,rfl⟩
   ·cases h
  ·cases hfd
 ·cases h
theorem zJ {i:Int}{n:Nat}(h:aF i n=true):0<=i/\i<n:=by
 cases i with
 | ofNat m =>
  simp only[aF,cD,decide_eq_true_eq]at h;simp only[Int.ofNat_eq_natCast];omega
 | negSucc m=>cases h
theorem aFD {t:TypeId}{p v:PV}{x:Value}{k:IntKind}{i:Int}(hp:VR w G μ p x)(h:U6 P t p i=some v):∃ v',(Instr.indexAt t x (.int k i)).run P w=.ok v' w/\VR w G μ v v':=by
 unfold U6 at h;split at h
 ·rename_i e hu;split at h
  ·rename_i sz hs;cases p <;> simp only at h <;> try (cases h; done)
   ·rename_i cs n cap;cases hc:(aF i n&&Nat.blt (i.toNat*sz) cs.length)with
    | false=>rw[hc]at h; cases h
    | true =>
     rw[hc]at h;simp only[oC,oJ]at h;subst h;simp only[oA]at hc;have hi:=zJ hc.1;have hlt:i.toNat*sz<cs.length:=by have:=oL hc.2; omega
     rw[VR]at hp;obtain⟨ao,c,rfl,h2,-,h3⟩:=hp;rcases h3 with rfl|⟨b,off,rfl,hg,hcs⟩
     ·simp at hlt
     ·refine⟨.pointer (some ⟨b,off+i.toNat*sz,none⟩),?_,?_⟩
      ·simp[Instr.indexAt,asIntOf,run_underlying hu,hi.1,hi.2,run_sizeOf hs,Addr.add_lit]
      ·rw[VR]; exact⟨b,_,rfl,hg,hcs.drop _⟩
   ·rename_i r off n cap sz';cases hc:aF i n with
    | false=>rw[hc]at h; cases h
    | true =>
     rw[hc]at h;simp only[oC,oJ]at h;subst h;have hi:=zJ hc;rw[VR]at hp;obtain⟨b,c,hb,rfl,_⟩:=hp;refine⟨.pointer (some ⟨b,off+i.toNat*sz,none⟩),?_,?_⟩
     ·simp[Instr.indexAt,asIntOf,run_underlying hu,hi.1,hi.2,run_sizeOf hs,Addr.add_lit]
     ·rw[VR]; exact⟨b,hb,rfl⟩
  ·cases h
 ·rename_i n e hu;split at h
  ·rename_i sz hs;cases p <;> simp only at h <;> try (cases h; done)
   ·rename_i cs;cases hc:aF i n with
    | false=>rw[hc]at h; cases h
    | true =>
     rw[hc]at h;simp only[oC,oJ]at h;subst h;have hi:=zJ hc;rw[VR]at hp;obtain⟨b,off,rfl,hg,hcs⟩:=hp;refine⟨.pointer (some ⟨b,off+i.toNat*sz,none⟩),?_,?_⟩
     ·simp[Instr.indexAt,asIntOf,run_underlying hu,hi.1,hi.2,run_sizeOf hs,Addr.add_lit,Instr.sureAddr]
     ·rw[VR]; exact⟨b,_,rfl,hg,hcs.drop _⟩
   ·rename_i r off;cases hc:aF i n with
    | false=>rw[hc]at h; cases h
    | true =>
     rw[hc]at h;simp only[oC,oJ]at h;subst h;have hi:=zJ hc;rw[VR]at hp;obtain⟨b,hb,rfl⟩:=hp;refine⟨.pointer (some ⟨b,off+i.toNat*sz,none⟩),?_,?_⟩
     ·simp[Instr.indexAt,asIntOf,run_underlying hu,hi.1,hi.2,run_sizeOf hs,Addr.add_lit,Instr.sureAddr]
     ·rw[VR]; exact⟨b,hb,rfl⟩
  ·cases h
 ·cases h
end
section
variable {P:Program} {n0:Nat->Prop} {w:World} {G:Gd} {μ:Mp} {H:Heap} {F:Frm} {a:Act} {nt:Nat}
theorem LG {t:TypeId}{cs:List PV}{v:PV}{vs:Array Value}{off:Nat}(hv:VRs w G μ cs vs.toList)(h:DL P t (cs.drop off)=some v)(w1:World):∃ v',(part t vs off).run P w1=.ok v' w1/\VR w G μ v v':=by
 unfold DL at h;cases ha:a0O P t with
 | none=>rw[ha]at h; cases h
 | some g =>
  rw[ha]at h;cases g with
  | false =>
   simp only[List.head?_drop]at h;obtain⟨v',h1,h2⟩:=hv.get h;refine⟨v',?_,h2⟩;have h1:vs[off]?=some v':=by simpa using h1
   simp[part,ZN ha,h1]
  | true =>
   simp only at h;cases hs:sS P t with
   | none=>rw[hs]at h; cases h
   | some n =>
    rw[hs]at h;simp only at h;cases hn:Nat.ble n (cs.drop off).length with
    | false=>rw[hn]at h; cases h
    | true =>
     rw[hn]at h;simp only[oC,oJ]at h;subst h;refine⟨.agg (vs.extract off (off+n)),by simp[part,ZN ha,run_sizeOf hs],?_⟩;rw[VR];refine⟨_,rfl,?_⟩;have:=(hv.drop off).take n;simpa[Array.toList_extract,List.extract_eq_take_drop]using this
theorem aN1 {s:TypeId}{f:Nat}{fd:Field}{cs:List PV}{v:PV}{x:Value}(hx:VR w G μ (.agg cs) x)(hf:aBR P s f=some fd)(h:DL P fd.type (cs.drop fd.offset)=some v)(w1:World):∃ v',(Instr.field s x f).run P w1=.ok v' w1/\VR w G μ v v':=by
 rw[VR]at hx;obtain⟨vs,rfl,hv⟩:=hx;unfold aBR at hf;split at hf
 ·rename_i fs hu;obtain⟨v',h1,h2⟩:=LG (P:=P) hv h w1;exact⟨v',by simp[Instr.field,run_underlying hu,hf,asAgg,h1],h2⟩
 ·cases hf
theorem aNY {t e:TypeId} {n sz:Nat} {k:IntKind} {i:Int} {cs:List PV} {v:PV} {x:Value} (hx:VR w G μ (.agg cs) x) (hu:P.underlying t=some (.array n e)) (hs:sS P e=some sz) (hi:aF i n=true)
  (h:DL P e (cs.drop (i.toNat*sz))=some v) (w1:World):∃ v',(Instr.index t x (.int k i)).run P w1=.ok v' w1/\VR w G μ v v':=by
 rw[VR]at hx;obtain⟨vs,rfl,hv⟩:=hx;have hi:=zJ hi;obtain⟨v',h1,h2⟩:=LG (P:=P) hv h w1;exact⟨v',by simp[Instr.index,asIntOf,run_underlying hu,hi.1,hi.2,run_sizeOf hs,h1],h2⟩
theorem aJU {i:Nat}{cs:List PV}{v:PV}{x:Value}(hx:VR w G μ (.tuple cs) x)(h:cs[i]?=some v)(w1:World):∃ v',(Instr.extract x i).run P w1=.ok v' w1/\VR w G μ v v':=by
 rw[VR]at hx;obtain⟨vs,rfl,hv⟩:=hx;obtain⟨v',h1,h2⟩:=hv.get h;have h1:vs[i]?=some v':=by simpa using h1
 exact⟨v',by simp[Instr.extract,h1],h2⟩
theorem VM {off:Nat}:∀ (l:List Value) (j:Nat) (cells:Array Value),off+j+l.length<=cells.size->(l.zipIdx j).foldl (λcs (x:Value×Nat)=>cs.setIfInBounds (off+x.2) x.1) cells=fE cells (off+j) l
 | [],j,cells,_=>by simp[fE]
 | v::l,j,cells,h=>by
  simp only[List.length_cons]at h;rw[List.zipIdx_cons,List.foldl_cons,VM l (j+1) _ (by simp only[Array.size_setIfInBounds]; omega),<- Nat.add_assoc,aEB (by omega)]
theorem aKQ {cs new:List PV}{c:Array Value}{vs:List Value}{off:Nat}(h:VRs w G μ cs c.toList)(hn:VRs w G μ new vs):VRs w G μ (UW cs off new) (fE c off vs).toList:=by
 simp only[UW,fE,hn.length];exact((h.take off).append hn).append (h.drop _)
theorem P6(hF:fQ w G μ nt F a)(place:Nat->Option (Nat×Nat)):∀ (parts:List (Nat×Operand)) (cs out:List PV) (c:Array Value),VRs w G μ cs c.toList->PE place cs (parts.map λp=>(p.1,ev F p.2))=some out ->
  ∃ c',Instr.fill place c (parts.map λp=>(p.1,a.eval p.2))=some c'/\VRs w G μ out c'.toList
 | [],cs,out,c,hc,h=>by
  simp only[List.map_nil,PE,oJ]at h;exact⟨c,rfl,h ▸ hc⟩
 | (i,x)::parts,cs,out,c,hc,h=>by
  simp only[List.map_cons,PE]at h;split at h
  ·rename_i off size new hp hcp;cases hb:(Nat.beq new.length size&&Nat.ble (off+new.length) cs.length)with
   | false=>rw[hb]at h; cases h
   | true =>
    rw[hb]at h;simp only[oC]at h;simp only[oA]at hb;have h1:=oE hb.1;have h2:=oL hb.2;have hv:=GQ hcp (cQ hF x);have hl:=hv.length;have hcl:=hc.length;simp only[Array.length_toList]at hl hcl;obtain⟨c',h3,h4⟩:=P6 hF place parts _ out _ (aKQ (off:=off) hc hv) h;refine⟨c',?_,h4⟩;simp only[List.map_cons,Instr.fill,hp];have hno:(((a.eval x).cells.size != size)||decide (off+(a.eval x).cells.size>c.size))=false:=by
     rw[Bool.or_eq_false_iff];constructor
     ·rw[<- hl,h1]; simp
     ·rw[decide_eq_false_iff_not]; omega
    have hno':¬ ((a.eval x).cells.size≠size\/off+(a.eval x).cells.size>c.size):=by omega
    have hf:=VM (off:=off) (a.eval x).cells.toList 0 c (by simp only[Array.length_toList]; omega);rw[Nat.add_zero]at hf;rw[<- Array.foldl_toList];simp only[Array.toList_zipIdx];rw[hf];simp[hno',h3]
  ·cases h
theorem TC(parts:Array (Nat×Operand))(ρ:Operand->Value):(parts.map λ(i,x)=>(i,ρ x)).toList=parts.toList.map λp=>(p.1,ρ p.2):=by simp
theorem aO1(hF:fQ w G μ nt F a){t:TypeId}{parts:Array (Nat×Operand)}{v:PV}(h:aPC P F t parts.toList=some v)(w1:World):∃ v',(Instr.build t (parts.map λ(i,x)=>(i,a.eval x))).run P w1=.ok v' w1/\VR w G μ v v':=by
 unfold aPC at h;split at h
 ·rename_i it n e hit hu;split at h
  ·rename_i z ie hz hie;split at h
   ·rename_i cs hf;simp only[oJ]at h;subst h;obtain⟨c',h1,h2⟩:=P6 hF _ _ _ _ _ (yK _) hf;refine⟨.agg c',run_build w1 t _ c' ?_,by rw[VR]; exact⟨_,rfl,h2⟩⟩;simp only[Program.built,hit,hu,hz,hie,TC,h1]
   ·cases h
  ·cases h
 ·rename_i it fields hit hu;split at h
  ·rename_i z places hz hpl;split at h
   ·rename_i cs hf;simp only[oJ]at h;subst h;obtain⟨c',h1,h2⟩:=P6 hF _ _ _ _ _ (yK _) hf;refine⟨.agg c',run_build w1 t _ c' ?_,by rw[VR]; exact⟨_,rfl,h2⟩⟩;simp only[Program.built,hit,hu,hz,hpl,TC,h1]
   ·cases h
  ·cases h
 ·cases h
theorem RR(z:Value)(n:Nat):VRs w G μ (KJ z n) (madeCells z.cells n).toList:=by
 unfold KJ;split
 ·rename_i v hz;have e:madeCells z.cells n=Array.replicate n v:=by
   have hz':z.cells=#[v]:=by apply Array.ext'; simpa using hz
   apply Array.ext
   ·simp[madeCells]
   ·intro i h1 h2;simp[madeCells,hz',Nat.mod_one]
  rw[e];have:=VRs.lits (w:=w) (G:=G) (μ:=μ) (List.replicate n v);simpa using this
 ·have:=VRs.lits (w:=w) (G:=G) (μ:=μ) ((List.range n).map λi=>z.cells[i%z.cells.size]!);simp only[List.map_map]at this;simpa[madeCells,Function.comp_def]using this
theorem aDC(hW:aN n0 G μ H w)(hF:fQ w G μ nt F a){t:TypeId}{len:Nat}{parts:Array (Nat×Operand)}{v:PV}(h:RA P F t len parts.toList=some v) :
  yB P n0 w G μ (Instr.buildSlice t len (parts.map λ(i,x)=>(i,a.eval x))) v H:=by
 unfold RA at h;split at h
 ·rename_i e hu;split at h
  ·rename_i sz z hs hz;cases hb:(Nat.ble (len*sz) 16777216&&Nat.ble 1 z.cells.size)with
   | false=>rw[hb]at h; cases h
   | true =>
    rw[hb]at h;simp only[oC]at h;simp only[oA]at hb;have h1:=oL hb.1;have h2:=oL hb.2;split at h
    ·rename_i cs hf;cases hj:eB.noRefs cs with
     | false=>rw[hj]at h; cases h
     | true =>
      rw[hj]at h;simp only[oC,oJ]at h;subst h;obtain⟨c',h3,h4⟩:=P6 hF _ _ _ _ _ (RR z (len*sz)) hf;have hzero:∃ i,P.info? e=some i/\i.zero=some z:=by
       unfold xW at hz;split at hz
       ·rename_i i hi; exact⟨i,hi,hz⟩
       ·cases hz
      obtain⟨i,hi,hz'⟩:=hzero;obtain⟨e1,e2⟩:=ZS hW (.cells c' e);refine⟨.slice (some ⟨w.heap.size,0,none⟩) len len,w.alloc (.cells c' e),_,_,?_,e1,e2,?_⟩
      ·have hn:¬ (len*sz>2^24):=by omega
       have hrow:(Array.range (len*sz)).map (λx=>z.cells[x%z.cells.size]!)=madeCells z.cells (len*sz):=rfl;have h3':Instr.fill (λi=>some (i*sz,sz)) (Array.map (λx=>z.cells[x%z.cells.size]!) (Array.range (len*sz))) (parts.map λ(i,x)=>(i,a.eval x)).toList=some c':=by rw[TC,hrow]; exact h3
       by_cases h0:len*sz=0
       ·have h3'':Instr.fill (λi=>some (i*sz,sz)) (Array.map (λx=>(#[]:Array Value)[x%0]!) (Array.range (len*sz))) (parts.map λ(i,x)=>(i,a.eval x)).toList=some c':=by
         rw[<- h3']; congr 1; rw[h0]; simp[Array.range_zero']
        rw[h0]at h3'';simp[Instr.buildSlice,run_underlying hu,run_sizeOf hs,h0,newRow];simp at h3'';rw[h3''];simp
       ·simp only[Instr.buildSlice,Sem.run_bind,run_underlying hu,Result.andThen_ok,run_sizeOf hs,if_neg hn,if_neg h0];simp only[Sem.run_pure,Result.andThen_ok,Sem.run_bind,zeroValue,yT hi,hz',h3'];simp[newRow]
      ·rw[VR];refine⟨_,_,rfl,oM _,λk hk=>(by cases hk; rfl),?_⟩;refine .inr ⟨w.heap.size,0,rfl,.inr rfl,?_⟩;refine aL.mk λj p hp=>?_
       obtain⟨u,g1,g2⟩:=(dB _ _ hj h4).get hp;refine⟨u,?_,VR.mono e1.toMono.aI p u g2⟩;rw[Nat.zero_add,World.cell?_alloc_new];simpa using g1
    ·cases h
  ·cases h
 ·cases h
theorem aMN {place:Nat->Option (Nat×Nat)}:∀ {parts:List (Nat×Value)} {c c':Array Value},Instr.fill place c parts=some c'->c'.size=c.size
 | [],c,c',h=>by
  simp only[Instr.fill,oJ]at h;rw[h]
 | (i,v)::rest,c,c',h=>by
  unfold Instr.fill at h;split at h
  ·cases h
  ·rename_i off size hp;split at h
   ·cases h
   ·have:=aMN h;rw[this];have key:∀ (l:List (Value×Nat)) (cs:Array Value),(l.foldl (λcs (x:Value×Nat)=>cs.setIfInBounds (off+x.2) x.1) cs).size=cs.size:=by
     intro l
     induction l with
     | nil=>intro cs; rfl
     | cons x l ih=>intro cs; rw[List.foldl_cons,ih]; simp
    rw[<- Array.foldl_toList];exact key _ _
theorem aA8(hW:aN n0 G μ H w)(hF:fQ w G μ nt F a){t:TypeId}{len:Nat}{parts:Array (Nat×Operand)}{v:PV}{H':Heap}(h:NN P F H t len parts.toList=some (v,H')) :
  yB P n0 w G μ (Instr.buildSlice t len (parts.map λ(i,x)=>(i,a.eval x))) v H':=by
 unfold NN at h;split at h
 ·rename_i e hu;split at h
  ·rename_i sz z hs hz;cases hb:(Nat.ble (len*sz) 16777216&&Nat.ble 1 z.cells.size)with
   | false=>rw[hb]at h; cases h
   | true =>
    rw[hb]at h;simp only[oC]at h;simp only[oA]at hb;have h1:=oL hb.1;have h2:=oL hb.2;split at h
    ·rename_i cs hf;simp only[oJ,oP]at h;obtain⟨rfl,rfl⟩:=h;obtain⟨c',h3,h4⟩:=P6 hF _ _ _ _ _ (RR z (len*sz)) hf;have hzero:∃ i,P.info? e=some i/\i.zero=some z:=by
      unfold xW at hz;split at hz
      ·rename_i i hi; exact⟨i,hi,hz⟩
      ·cases hz
     obtain⟨i,hi,hz'⟩:=hzero;have hl:=h4.length;rw[Array.length_toList]at hl;have hk:=DX (on:=none) hW c' ⟨cs,e,false,false,none⟩ (λj p hp=>by
      obtain⟨u,g1,g2⟩:=h4.get hp;exact⟨u,by simpa using g1,g2⟩) (λ_=>hl.symm) rfl (λg hg=>by cases hg)
     have hsz:c'.size=len*sz:=by
      have h5:=aMN h3;rw[h5]; simp[madeCells]
     refine⟨.slice (some ⟨w.heap.size,0,none⟩) len len,w.alloc (.cells c' e),G,_,?_,BQ hW _ _ _,hk,?_⟩
     ·have hn:¬ (len*sz>2^24):=by omega
      have hrow:(Array.range (len*sz)).map (λx=>z.cells[x%z.cells.size]!)=madeCells z.cells (len*sz):=rfl;have h3':Instr.fill (λi=>some (i*sz,sz)) (Array.map (λx=>z.cells[x%z.cells.size]!) (Array.range (len*sz))) (parts.map λ(i,x)=>(i,a.eval x)).toList=some c':=by rw[TC,hrow]; exact h3
      by_cases h0:len*sz=0
      ·have h3'':Instr.fill (λi=>some (i*sz,sz)) (Array.map (λx=>(#[]:Array Value)[x%0]!) (Array.range (len*sz))) (parts.map λ(i,x)=>(i,a.eval x)).toList=some c':=by
        rw[<- h3']; congr 1; rw[h0]; simp[Array.range_zero']
       rw[h0]at h3'';simp[Instr.buildSlice,run_underlying hu,run_sizeOf hs,h0,newRow];simp at h3'';rw[h3''];simp
      ·simp only[Instr.buildSlice,Sem.run_bind,run_underlying hu,Result.andThen_ok,run_sizeOf hs,if_neg hn,if_neg h0];simp only[Sem.run_pure,Result.andThen_ok,Sem.run_bind,zeroValue,yT hi,hz',h3'];simp[newRow]
     ·rw[VR];refine⟨w.heap.size,_,gK _ _ _ _,rfl,oM _,λk hk=>(by cases hk; rfl),?_⟩;refine⟨c',e,(0,0),?_,?_⟩
      ·show (w.heap.push _)[w.heap.size]?=_;simp
      ·rw[Nat.zero_add,hsz]; exact oM _
    ·cases h
  ·cases h
 ·cases h
theorem aFC(hW:aN n0 G μ H w){t:TypeId}{l c v:PV}{H':Heap}{x y:Value}(hx:VR w G μ l x)(hy:VR w G μ c y)(h:aCP P H t l c=some (v,H')):yB P n0 w G μ (Instr.makeSlice t x y) v H':=by
 unfold aCP at h;split at h
 ·rename_i e kl l kc c hu;rw[VR]at hx hy;subst hx; subst hy;split at h
  ·rename_i i hi;split at h
   ·rename_i z hz;cases hb:(decide (0<=l)&&decide (l<=c)&&decide (c<=1048576)&&Nat.ble i.bytes 65536&&Nat.ble 1 i.size&&Nat.beq z.cells.size i.size)with
    | false=>rw[hb]at h; cases h
    | true =>
     rw[hb]at h;simp only[oC,oJ,oP]at h;obtain⟨rfl,rfl⟩:=h;simp only[oA,decide_eq_true_eq]at hb;obtain⟨⟨⟨⟨⟨h1,h2⟩,h3⟩,h4⟩,h5⟩,h6⟩:=hb;have h4:=oL h4;have hbytes:(i.bytes:Int)*c<=281474976710656:=by
      have:(i.bytes:Int)*c<=65536*1048576:=Int.mul_le_mul (by omega) h3 (by omega) (by omega);omega
     have hr:=run_make (P:=P) w t e i z hu hi hz kl kc l c h1 h2 hbytes (by omega);have hv:=RR (w:=w) (G:=G) (μ:=μ) z (c.toNat*i.size);have hl:=hv.length;rw[Array.length_toList]at hl;have hk:=DX (on:=none) hW (madeCells z.cells (c.toNat*i.size)) ⟨KJ z (c.toNat*i.size),e,false,false,none⟩ (λj p hp=>by
      obtain⟨u,g1,g2⟩:=hv.get hp;exact⟨u,by simpa using g1,g2⟩) (λ_=>hl.symm) rfl (λg hg=>by cases hg)
     refine⟨_,_,G,_,hr,BQ hW _ _ _,hk,?_⟩;rw[VR];refine⟨w.heap.size,_,gK _ _ _ _,rfl,by omega,λk hk=>(by cases hk; rfl),?_⟩;refine⟨madeCells z.cells (c.toNat*i.size),e,(0,0),?_,?_⟩
     ·show (w.heap.push _)[w.heap.size]?=_;simp
     ·simp[madeCells]
   ·cases h
  ·cases h
 ·cases h
theorem a3E {x:Option PV}{d l:Nat}{y:Option Value}(h:bnd x d=some l)(hx:match x,y with|some p,some v=>VR w G μ p v|none,none=>True|_,_=>False) :
  (x=none/\y=none/\l=d)\/(∃ k i,y=some (.int k i)/\0<=i/\l=i.toNat/\x≠none):=by
 cases x with
 | none=>cases y with
  | none=>simp only[bnd,oJ]at h; exact .inl ⟨rfl,rfl,h.symm⟩
  | some v=>exact hx.elim
 | some p=>cases y with
  | none=>exact hx.elim
  | some v =>
   cases p with
   | lit u =>
    simp only[VR]at hx;subst hx;cases v with
    | int k i =>
     simp only[bnd]at h;cases hd:decide (0<=i)with
     | false=>rw[hd]at h; cases h
     | true =>
      rw[hd]at h;simp only[oC,oJ]at h;exact .inr ⟨k,i,rfl,of_decide_eq_true hd,h.symm,by simp⟩
    | _=>simp[bnd]at h
   | _=>simp[bnd]at h
theorem aVB {tys:Array TypeId}{ty:TypeId}{p v:PV}{x:Value}(hp:VR w G μ p x)(h:a5J P tys p=some v)(w1:World):∃ v',(Builtin.len_ tys ty #[x]).run P w1=.ok v' w1/\VR w G μ v v':=by
 unfold a5J at h;split at h
 ·rename_i t ts ht;have ht':tys[0]?=some t:=by rw[<- Array.getElem?_toList,ht]; rfl
  split at h
  ·rename_i e cs n cap hu;simp only[oJ]at h;subst h;rw[VR]at hp;obtain⟨ao,c,rfl,_⟩:=hp;exact⟨goInt n,by simp[Builtin.len_,ht',run_underlying hu],by rw[VR]⟩
  ·rename_i e r off n cap sz hu;simp only[oJ]at h;subst h;rw[VR]at hp;obtain⟨b,c,_,rfl,_⟩:=hp;exact⟨goInt n,by simp[Builtin.len_,ht',run_underlying hu],by rw[VR]⟩
  ·rename_i _ n e hu;simp only[oJ]at h;subst h;exact⟨goInt n,by simp[Builtin.len_,ht',run_underlying hu],by rw[VR]⟩
  ·cases h
 ·cases h
end
section
variable {P:Program} {n0:Nat->Prop} {w:World} {G:Gd} {μ:Mp} {H:Heap} {F:Frm} {a:Act} {nt:Nat}
def aZ2(y:Option Value) (d l:Nat):Prop:=(y=none/\l=d)\/(∃ k i,y=some (.int k i)/\0<=i/\l=i.toNat)
theorem MW(hF:fQ w G μ nt F a){x:Option Operand}{d l:Nat}(h:bnd (x.map (ev F)) d=some l):aZ2 (x.map a.eval) d l:=by
 cases x with
 | none=>simp only[Option.map_none,bnd,oJ]at h; exact .inl ⟨rfl,h.symm⟩
 | some x =>
  rcases a3E (w:=w) (G:=G) (μ:=μ) (y:=some (a.eval x)) h (cQ hF x)with ⟨h1,_⟩|⟨k,i,h1,h2,h3,_⟩
  ·cases h1
  ·exact .inr ⟨k,i,h1,h2,h3⟩
theorem vX {isSlice:Bool}{lo hi:Option Value}{l h len cap:Nat}(hlo:aZ2 lo 0 l)(hhi:aZ2 hi len h)(h1:l<=h)(h2:h<=cap)(w1:World) :
  (Instr.sliceBounds isSlice len cap lo hi none).run P w1=.ok (l,h,cap) w1:=by
 rcases hlo with ⟨rfl,rfl⟩|⟨k,i,rfl,hi0,rfl⟩ <;> rcases hhi with ⟨rfl,rfl⟩|⟨k',i',rfl,hi0',rfl⟩
 ·simp[Instr.sliceBounds]
 ·have:i'<=(cap:Int):=by omega
  simp[Instr.sliceBounds,Instr.sliceBound,asIntOf,hi0',this]
 ·have:i<=(h:Int):=by omega
  simp[Instr.sliceBounds,Instr.sliceBound,asIntOf,hi0,this]
 ·have a1:i'<=(cap:Int):=by omega
  have a2:i<=(i'.toNat:Int):=by omega
  simp only[Instr.sliceBounds,Instr.sliceBound,asIntOf,Sem.run_bind,Sem.run_pure,Result.andThen_ok,if_pos (And.intro hi0' a1),if_pos (And.intro hi0 a2)]
theorem room_le {b m n:Nat}(h:Room w b n)(hm:m<=n):Room w b m:=by
 obtain⟨c,t,fr,h1,h2⟩:=h;exact⟨c,t,fr,h1,by omega⟩
theorem IK(hF:fQ w G μ nt F a){t:TypeId}{p v:PV}{x:Value}{lo hi:Option Operand}(hp:VR w G μ p x)(h:OZ P t p (lo.map (ev F)) (hi.map (ev F))=some v)(w1:World) :
  ∃ v',(Instr.sliceAt t x (lo.map a.eval) (hi.map a.eval) none).run P w1=.ok v' w1/\VR w G μ v v':=by
 unfold OZ at h;split at h
 ·rename_i e hu;split at h
  ·rename_i sz hs;split at h
   ·rename_i cs n cap;split at h
    ·rename_i l hh hl hhi;cases hb:(Nat.ble l hh&&Nat.ble hh n)with
     | false=>rw[hb]at h; cases h
     | true =>
      rw[hb]at h;simp only[oC,oJ]at h;subst h;simp only[oA]at hb;have h1:=oL hb.1;have h2:=oL hb.2;rw[VR]at hp;obtain⟨ao,c,rfl,h3,-,h4⟩:=hp;have hr:=vX (P:=P) (isSlice:=true) (MW hF hl) (MW hF hhi) h1 (oR h2 h3) w1;refine⟨.slice (if c=l then ao else ao.map (·.add (l*sz))) (hh-l) (c-l),?_,?_⟩
      ·simp[Instr.sliceAt,Instr.slice,run_underlying hu,hr,run_sizeOf hs]
      ·rw[VR];refine⟨_,_,rfl,by omega,λk hk=>(by cases hk),?_⟩
       by_cases hcl:c=l
       ·left;have:hh-l=0:=by omega
        rw[this,Nat.zero_mul,List.take_zero]
       ·rcases h4 with rfl|⟨b,off,rfl,hg,hcs⟩
        ·left; simp
        ·right;exact⟨b,off+l*sz,by simp[hcl,Addr.add_lit],hg,hcs.sub _ _⟩
    ·cases h
   ·rename_i r off n cap sz';cases hsz:Nat.beq sz sz' with
    | false=>rw[hsz]at h; cases h
    | true =>
     rw[hsz]at h;have hsz:=oE hsz;subst hsz;simp only[oC]at h;split at h
     ·rename_i l hh hl hhi;rw[VR]at hp;obtain⟨b,c,hb,rfl,h3,hcap,hroom⟩:=hp;split at h
      ·rename_i c';have:=hcap c' rfl;subst this;cases hbb:(Nat.ble l hh&&Nat.ble hh c)with
       | false=>rw[hbb]at h; cases h
       | true =>
        rw[hbb]at h;simp only[oC]at h;simp only[oA]at hbb;have h1:=oL hbb.1;have h2:=oL hbb.2;have hr:=vX (P:=P) (isSlice:=true) (MW hF hl) (MW hF hhi) h1 h2 w1;refine⟨.slice (if c=l then some ⟨b,off,none⟩ else (some (⟨b,off,none⟩:Addr)).map (·.add (l*sz))) (hh-l) (c-l),?_,?_⟩
        ·simp only[Instr.sliceAt,Sem.run_bind,run_underlying hu,Result.andThen_ok,Instr.slice,hr,run_sizeOf hs,Sem.run_pure]
        ·cases hcl:Nat.beq c l with
         | true =>
          rw[hcl]at h;simp only[oC,oJ]at h;subst h;have hcl:=oE hcl;subst hcl;have e1:hh-c=0:=by omega
          rw[VR];exact⟨b,0,hb,by simp[e1],oM _,λk hk=>(by cases hk; rfl),room_le hroom (by simp)⟩
         | false =>
          rw[hcl]at h;simp only[oD,oJ]at h;subst h;have hne:¬ c=l:=λe=>(by rw[e]at hcl; simp at hcl)
          rw[VR];refine⟨b,c-l,hb,by simp[hne,Addr.add_lit],by omega,λk hk=>(by cases hk; rfl),room_le hroom ?_⟩;have:l*sz+(c-l)*sz=c*sz:=by rw[<- Nat.add_mul]; congr 1; omega
          omega
      ·cases hbb:(Nat.ble l hh&&Nat.ble hh n)with
       | false=>rw[hbb]at h; cases h
       | true =>
        rw[hbb]at h;simp only[oC]at h;simp only[oA]at hbb;have h1:=oL hbb.1;have h2:=oL hbb.2;have hr:=vX (P:=P) (isSlice:=true) (MW hF hl) (MW hF hhi) h1 (oR h2 h3) w1;refine⟨.slice (if c=l then some ⟨b,off,none⟩ else (some (⟨b,off,none⟩:Addr)).map (·.add (l*sz))) (hh-l) (c-l),?_,?_⟩
        ·simp only[Instr.sliceAt,Sem.run_bind,run_underlying hu,Result.andThen_ok,Instr.slice,hr,run_sizeOf hs,Sem.run_pure]
        ·cases hln:Nat.blt l n with
         | true =>
          rw[hln]at h;simp only[oC,oJ]at h;subst h;have hln:l<n:=by have:=oL hln; omega
          have hne:¬ c=l:=by omega
          rw[VR];refine⟨b,c-l,hb,by simp[hne,Addr.add_lit],by omega,λk hk=>(by cases hk),room_le hroom ?_⟩;have:l*sz+(c-l)*sz=c*sz:=by rw[<- Nat.add_mul]; congr 1; omega
          omega
         | false =>
          rw[hln]at h;simp only[oD]at h;cases hl0:Nat.beq l 0 with
          | true =>
           rw[hl0]at h;simp only[oC,oJ]at h;subst h;have hl0:=oE hl0;subst hl0;have hn:n=0:=by
            rcases Nat.eq_zero_or_pos n with h0|h0
            ·exact h0
            ·have:Nat.blt 0 n=true:=Nat.ble_eq_true_of_le h0;rw[this]at hln; cases hln
           subst hn;have:hh=0:=by omega
           subst this;rw[VR];refine⟨b,c,hb,?_,Nat.zero_le _,λk hk=>(by cases hk),hroom⟩
           by_cases hc0:c=0 <;> simp[hc0,Addr.add]
          | false =>
           rw[hl0]at h;simp only[oD,oJ]at h;subst h;have hln:n<=l:=by
            rcases oG l n with h0|h0
            ·have:Nat.blt l n=true:=Nat.ble_eq_true_of_le h0;rw[this]at hln; cases hln
            ·exact h0
           have e1:hh-l=0:=by omega
           rw[VR];exact⟨_,_,by rw[e1],Nat.zero_le _,λk hk=>(by cases hk),.inl rfl⟩
     ·cases h
   ·cases h
  ·cases h
 ·rename_i n e hu;split at h
  ·rename_i sz hs;split at h
   ·rename_i l hh hl hhi;cases hbb:(Nat.ble l hh&&Nat.ble hh n&&Nat.blt l n)with
    | false=>rw[hbb]at h; cases h
    | true =>
     rw[hbb]at h;simp only[oC]at h;simp only[oA]at hbb;have h1:=oL hbb.1.1;have h2:=oL hbb.1.2;have h3:l<n:=by have:=oL hbb.2; omega
     split at h
     ·rename_i cs;simp only[oJ]at h;subst h;rw[VR]at hp;obtain⟨b,off,rfl,hg,hcs⟩:=hp;have hr:=vX (P:=P) (isSlice:=false) (MW hF hl) (MW hF hhi) h1 h2 w1;have hne:¬ n=l:=by omega
      refine⟨.slice (some ⟨b,off+l*sz,none⟩) (hh-l) (n-l),?_,?_⟩
      ·simp[Instr.sliceAt,run_underlying hu,hr,run_sizeOf hs,Instr.sureAddr,hne,Addr.add_lit]
      ·rw[VR];exact⟨_,_,rfl,by omega,λk hk=>(by cases hk),.inr ⟨b,_,rfl,hg,hcs.sub _ _⟩⟩
     ·cases h
   ·cases h
  ·cases h
 ·cases h
theorem aU6 {op:BinOp}{k:IntKind}{x y:Int}{v:Value}{t:TypeId}{p q:Operand}(h:aRQ op k x y=some v)(w1:World):(do eqGuard op t p q (.int k x) (.int k y); binOp op t (.int k x) (.int k y):Sem Value).run P w1=.ok v w1:=by
 have hg:(eqGuard op t p q (.int k x) (.int k y)).run P w1=.ok () w1:=by cases op <;> simp[eqGuard]
 have hle:∀ a b:Int,(!decide (a<b))=decide (b<=a):=λa b=>by rw[<- decide_not]; exact decide_eq_decide.2 (by omega)
 simp only[Sem.run_bind,hg,Result.andThen_ok];cases op <;> simp only[aRQ,oJ,TF,aE,fP]at h <;> try (cases h; done)
 all_goals first
  | (subst h; simp[binOp,Op.intArith,Op.intCmp]; done)
  | (cases hd:decide (y=0)with
     | true=>rw[hd]at h; cases h
     | false =>
      rw[hd]at h;simp only[oD,oJ]at h;subst h;have:¬ y=0:=of_decide_eq_false hd;simp[binOp,Op.intDiv,this])
  | skip
 all_goals (subst h; simp only[hle,binOp,Op.intCmp,ne_eq,not_true_eq_false,if_false,ite_false,Sem.run_pure]; try rfl)
theorem R4 {xs ys:Array Value} {cs ds:List PV} (hx:VRs w G μ cs xs.toList) (hy:VRs w G μ ds ys.toList) (d:Nat) (w1:World) {sub:List Field->List PV->List PV->Option Bool}
  (hs:∀ (xs ys:Array Value) (cs ds:List PV) (gs:List Field) (r:Bool),VRs w G μ cs xs.toList->VRs w G μ ds ys.toList->sub gs cs ds=some r->(Op.eqFields d xs ys gs).run P w1=.ok r w1) :
  ∀ (fs:List Field) {r:Bool},OM P sub fs cs ds=some r->(Op.eqFields (d+1) xs ys fs).run P w1=.ok r w1
 | [],r,h=>by
  simp only[OM,oJ]at h;subst h;simp only[Op.eqFields,Sem.run_pure]
 | f::fs,r,h=>by
  simp only[OM]at h;cases hn:f.name== "_" with
  | true=>rw[hn]at h; cases h
  | false =>
   rw[hn]at h;simp only[oD]at h;have hne:f.name≠ "_":=by simpa using hn
   split at h
   ·rename_i k0 hu;split at h
    ·rename_i k a l b e1 e2;cases hk:M6 k l with
     | false=>rw[hk]at h; cases h
     | true =>
      rw[hk]at h;simp only[oC]at h;have hk:=ZU hk;subst hk;split at h
      ·rename_i r' hr;simp only[oJ]at h;subst h;obtain⟨u,g1,g2⟩:=LG (P:=P) hx e1 w1;obtain⟨v,g3,g4⟩:=LG (P:=P) hy e2 w1;rw[VR]at g2 g4;subst g2; subst g4;have ih:=R4 hx hy d w1 hs fs hr;simp only[Op.eqFields,if_pos hne,Sem.run_bind,g1,g3,Result.andThen_ok,run_equalIn_int w1 d f.type k k0 a b hu];rw[fP]
       by_cases hab:a=b
       ·subst hab;simp only[beq_self_eq_true,Bool.not_true,Bool.false_eq_true,if_false,ih,decide_true,Bool.true_and]
       ·have:(a==b)=false:=by simpa using hab
        simp only[this,Bool.not_false,if_true,Sem.run_pure,oF hab,Bool.false_and]
      ·cases h
    ·cases h
   ·rename_i gs hu;cases hh:P.stoodInHeld f.type with
    | true=>rw[hh]at h; cases h
    | false =>
     rw[hh]at h;simp only[oD]at h;split at h
     ·rename_i cs' ds' e1 e2;split at h
      ·rename_i q r' hq hr;simp only[oJ]at h;subst h;obtain⟨u,g1,g2⟩:=LG (P:=P) hx e1 w1;obtain⟨v,g3,g4⟩:=LG (P:=P) hy e2 w1;rw[VR]at g2 g4;obtain⟨us,rfl,hus⟩:=g2;obtain⟨vs,rfl,hvs⟩:=g4;have ih:=R4 hx hy d w1 hs fs hr;have hf:P.fieldsOf f.type=gs:=by simp only[Program.fieldsOf,hu]
       have hu':P.underlying f.type=some (.struct (P.fieldsOf f.type)):=by rw[hf]; exact hu
       have ihs:=hs _ _ cs' ds' gs.toList q hus hvs hq;simp only[Op.eqFields,if_pos hne,Sem.run_bind,g1,g3,Result.andThen_ok,run_equalIn_struct w1 d f.type _ _ hu' hh,hf,ihs];cases q with
       | true=>simp only[Bool.not_true,Bool.false_eq_true,if_false,ih,Bool.true_and]
       | false=>simp only[Bool.not_false,if_true,Sem.run_pure,Bool.false_and]
      ·cases h
     ·cases h
   ·cases h
theorem aDD(w1:World):∀ (n d:Nat) (xs ys:Array Value) (cs ds:List PV) (fs:List Field) (r:Bool),VRs w G μ cs xs.toList->VRs w G μ ds ys.toList->aI0 P n fs cs ds=some r->(Op.eqFields (d+n) xs ys fs).run P w1=.ok r w1
 | 0,d,xs,ys,cs,ds,fs,r,hx,hy,h=>by cases h
 | n+1,d,xs,ys,cs,ds,fs,r,hx,hy,h=>R4 hx hy (d+n) w1 (λxs ys cs ds gs r h1 h2 h3=>aDD w1 n d xs ys cs ds gs r h1 h2 h3) fs h
theorem aGN {xs ys:Array Value}{cs ds:List PV}(hx:VRs w G μ cs xs.toList)(hy:VRs w G μ ds ys.toList)(w1:World)(fs:List Field){r:Bool}(h:aWO P fs cs ds=some r):(Op.eqFields 9999 xs ys fs).run P w1=.ok r w1 :=
 aDD w1 3 9996 xs ys cs ds fs r hx hy h
theorem VC {xs ys:Array Value}{cs ds:List PV}(hx:VRs w G μ cs xs.toList)(hy:VRs w G μ ds ys.toList)(d:Nat)(w1:World){e:TypeId}:∀ (is:List Nat) {r:Bool},X2 P e is cs ds=some r->(Op.eqItems (d+1) e (P.cellsOf e) xs ys is).run P w1=.ok r w1
 | [],r,h=>by
  simp only[X2,oJ]at h;subst h;simp only[Op.eqItems,Sem.run_pure]
 | f::fs,r,h=>by
  simp only[X2]at h;split at h
  ·rename_i k0 hu;split at h
   ·rename_i k a l b e1 e2;cases hk:M6 k l with
    | false=>rw[hk]at h; cases h
    | true =>
     rw[hk]at h;simp only[oC]at h;have hk:=ZU hk;subst hk;split at h
     ·rename_i r' hr;simp only[oJ]at h;subst h;obtain⟨u,g1,g2⟩:=LG (P:=P) hx e1 w1;obtain⟨v,g3,g4⟩:=LG (P:=P) hy e2 w1;rw[VR]at g2 g4;subst g2; subst g4;have ih:=VC hx hy d w1 fs hr;simp only[Op.eqItems,Sem.run_bind,g1,g3,Result.andThen_ok,run_equalIn_int w1 d e k k0 a b hu];rw[fP]
      by_cases hab:a=b
      ·subst hab;simp only[beq_self_eq_true,Bool.not_true,Bool.false_eq_true,if_false,ih,decide_true,Bool.true_and]
      ·have:(a==b)=false:=by simpa using hab
       simp only[this,Bool.not_false,if_true,Sem.run_pure,oF hab,Bool.false_and]
     ·cases h
   ·cases h
  ·cases h
theorem aTM {op:BinOp}{t:TypeId}{xs ys:Array Value}{cs ds:List PV}{v:PV}{p q:Operand}(hx:VRs w G μ cs xs.toList)(hy:VRs w G μ ds ys.toList)(h:a4Z P op t cs ds=some v)(w1:World) :
  ∃ v',(do eqGuard op t p q (.agg xs) (.agg ys); binOp op t (.agg xs) (.agg ys):Sem Value).run P w1=.ok v' w1/\VR w G μ v v':=by
 unfold a4Z at h;split at h
 ·rename_i fs hu;cases hb:(P.stoodInHeld t||P.eqGuardType P.depth t)with
  | true=>rw[hb]at h; cases h
  | false =>
   rw[hb]at h;simp only[oD]at h;rw[Bool.or_eq_false_iff]at hb;have hf:P.fieldsOf t=fs:=by simp only[Program.fieldsOf,hu]
   have hu':P.underlying t=some (.struct (P.fieldsOf t)):=by rw[hf]; exact hu
   split at h
   ·rename_i r hr;simp only[oJ]at h;subst h;refine⟨.bool r,?_,by rw[VR]⟩;have:=aGN (P:=P) hx hy w1 fs.toList hr;simp only[Sem.run_bind,run_eqGuard_agg w1 .eql t p q xs ys hb.2,Result.andThen_ok,run_eql_struct,run_equalIn_struct w1 9999 t xs ys hu' hb.1,hf,this]
   ·rename_i r hr;simp only[oJ]at h;subst h;refine⟨.bool (!r),?_,by rw[VR]⟩;have:=aGN (P:=P) hx hy w1 fs.toList hr;simp only[Sem.run_bind,run_eqGuard_agg w1 .neq t p q xs ys hb.2,Result.andThen_ok,run_neq_struct,run_equalIn_struct w1 9999 t xs ys hu' hb.1,hf,this]
   ·cases h
 ·rename_i n e hu;cases hb:(P.eqGuardType P.depth t||!(P.info? e).isSome)with
  | true=>rw[hb]at h; cases h
  | false =>
   rw[hb]at h;simp only[oD]at h;rw[Bool.or_eq_false_iff,Bool.not_eq_false']at hb;obtain⟨i,hi⟩:=Option.isSome_iff_exists.1 hb.2;split at h
   ·rename_i r hr;simp only[oJ]at h;subst h;refine⟨.bool r,?_,by rw[VR]⟩;have:=VC (P:=P) hx hy 9998 w1 (List.range n) hr;simp only[Sem.run_bind,run_eqGuard_agg w1 .eql t p q xs ys hb.1,Result.andThen_ok,run_eql_struct,run_equalIn_array w1 9999 xs ys hu hi,this]
   ·rename_i r hr;simp only[oJ]at h;subst h;refine⟨.bool (!r),?_,by rw[VR]⟩;have:=VC (P:=P) hx hy 9998 w1 (List.range n) hr;simp only[Sem.run_bind,run_eqGuard_agg w1 .neq t p q xs ys hb.1,Result.andThen_ok,run_neq_struct,run_equalIn_array w1 9999 xs ys hu hi,this]
   ·cases h
 ·cases h
end
section
variable {P:Program} {n0:Nat->Prop} {w:World} {G:Gd} {μ:Mp} {H:Heap}
def Source(P:Program) (w:World) (G:Gd) (μ:Mp) (sz:Nat) (v:Value) (new:List PV) (n:Nat):Prop :=
 (∀ w1:World,(Builtin.lenOf v).run P w1=.ok n w1)/\new.length=n*sz /\
  ∀ m,m<=n->∃ vs:Array Value,VRs w G μ (new.take (m*sz)) vs.toList/\∀ w1:World,w1.heap=w.heap->(Builtin.firstCells sz m v).run P w1=.ok vs w1
theorem aL5 {w1:World}(h:w1.heap=w.heap)(p:Addr):w1.cell? p=w.cell? p:=by simp[World.cell?,h]
theorem yN {b off n c sz:Nat}{cs:List PV}(hc:aL w G μ b off cs)(hl:cs.length=n*sz):Source P w G μ sz (.slice (some ⟨b,off,none⟩) n c) cs n:=by
 refine⟨λw1=>rfl,hl,λm hm=>?_⟩;obtain⟨vs,h1,h2⟩:=(hc.take (m*sz)).values;have hvl:=h1.length;rw[List.length_take,hl,Nat.min_eq_left (Nat.mul_le_mul_right _ hm)]at hvl;refine⟨vs.toArray,by simpa using h1,λw1 hw=>?_⟩;have:=run_loadCells (P:=P) (w:=w1) (b:=b) (off:=off) (vs:=vs) λj hj=>by rw[aL5 hw]; exact h2 j hj
 rw[<- hvl]at this;exact this
theorem aAQ(hW:aN n0 G μ H w){sz n:Nat}{p:PV}{new:List PV}{v:Value}(hp:VR w G μ p v)(h:aHR H sz p=some (new,n)):Source P w G μ sz v new n:=by
 unfold aHR at h;split at h
 ·rename_i cs n' cap;cases hb:Nat.beq cs.length (n'*sz)with
  | false=>rw[hb]at h; cases h
  | true =>
   rw[hb]at h;simp only[oC,oJ,oP]at h;obtain⟨rfl,rfl⟩:=h;have hb:=oE hb;rw[VR]at hp;obtain⟨ao,c,rfl,_,_,h3⟩:=hp;rcases h3 with rfl|⟨b,off,rfl,_,hc⟩
   ·refine⟨λw1=>rfl,hb,λm hm=>⟨#[],by simp[VRs],λw1 _=>?_⟩⟩;have h0:m*sz=0:=by
     have:=Nat.mul_le_mul_right sz hm;simp only[List.length_nil]at hb;omega
    cases ao with
    | none=>rfl
    | some a=>simp[Builtin.firstCells,h0,loadCells,loadCellsFrom]
   ·exact yN hc.aY hb
 ·rename_i r off n' cap sz';split at h
  ·rename_i k hk;cases hb:Nat.ble (off+n'*sz) k.cells.length with
   | false=>rw[hb]at h; cases h
   | true =>
    rw[hb]at h;simp only[oC,oJ,oP]at h;obtain⟨rfl,rfl⟩:=h;have hb:=oL hb;rw[VR]at hp;obtain⟨b,c,hμ,rfl,_⟩:=hp;obtain⟨c',g2,g3,_⟩:=hW.blk r k b (aJ hk) hμ;have:=g3.sub off (n'*sz);rw[Nat.zero_add]at this;exact yN this (by simp; omega)
  ·cases h
 ·rename_i n' c;cases hb:Nat.beq n' 0 with
  | false=>rw[hb]at h; cases h
  | true =>
   rw[hb]at h;simp only[oC,oJ,oP]at h;obtain⟨rfl,rfl⟩:=h;have hb:=oE hb;subst hb;rw[VR]at hp;subst hp;exact⟨λw1=>rfl,by simp,λm hm=>⟨#[],by simp[VRs],λw1 _=>rfl⟩⟩
 ·rename_i s;cases hb:Nat.beq sz 1 with
  | false=>rw[hb]at h; cases h
  | true =>
   rw[hb]at h;simp only[oC,oJ,oP]at h;obtain⟨rfl,rfl⟩:=h;have hb:=oE hb;subst hb;rw[VR]at hp;subst hp;have hsz:s.data.size=s.size:=rfl;refine⟨λw1=>rfl,by simp[aT8,hsz],λm hm=>⟨(s.extract 0 m).data.map λb=>.int .u8 b.toNat,?_,λw1 _=>rfl⟩⟩;have:=VRs.lits (w:=w) (G:=G) (μ:=μ) ((s.data.toList.take m).map λb=>Value.int .u8 b.toNat);simpa[aT8,List.map_take,List.map_map,Function.comp_def]using this
 ·cases h
theorem TJ {u:TypeId}{d:TypeDesc}(h:P.underlying u=some d)(hd:∀ k,d≠.int k)(w1:World) :
  (do pure ((<- underlying u) matches .int _):Sem Bool).run P w1=.ok false w1:=by
 simp only[Sem.run_bind,run_underlying h,Result.andThen_ok,Sem.run_pure]
section
variable {t u e:TypeId} {i:TypeInfo} {z:Value} {d:TypeDesc} (ht:P.underlying t=some (.slice e)) (hu:P.underlying u=some d) (hd:∀ k,d≠.int k) (hi:P.info? e=some i)
include ht hu hd hi
theorem yO {x:Value} {n l c:Nat} {ty:TypeId} {ao:Option Addr} (hlen:∀ w1:World,(Builtin.lenOf x).run P w1=.ok n w1) (hfit:l+n<=c) {vs:Array Value} (hx:(Builtin.firstCells i.size n x).run P w=.ok vs w) {w':World}
  (hst:match ao with|some a=>(storeCells (a.add (l*i.size)) vs.toList).run P w=.ok () w'|none=>w'=w) :
  (Builtin.append_ #[t,u] ty #[.slice ao l c,x]).run P w=.ok (.slice ao (l+n) c) w':=by
 have hsz:(sizeOf e).run P w=.ok i.size w:=by simp[sizeOf,yT hi]
 have hb:=TJ hu hd w;have q0:(#[t,u]:Array TypeId)[0]?=some t:=rfl;have q1:(#[t,u]:Array TypeId)[1]?=some u:=rfl;have q2:(#[Value.slice ao l c,x]:Array Value)[0]?=some (Value.slice ao l c):=rfl;have q3:(#[Value.slice ao l c,x]:Array Value)[1]?=some x:=rfl;unfold Builtin.append_;simp only[q0,q1,q2,q3,Sem.run_bind,run_underlying ht,Result.andThen_ok,hsz,hb,hlen];simp only[Sem.run_bind,Sem.run_pure,run_underlying hu,Result.andThen_ok]
 have hm:(match (generalizing:=false) d with|.int _=>true|_=>false)=false:=by cases d <;> first|rfl|exact absurd rfl (hd _)
 simp only[hm,Bool.false_eq_true,if_false,hlen,Result.andThen_ok,if_pos hfit,Bool.not_false,if_true,hx,Sem.run_bind];cases ao with
 | none=>simp only at hst; subst hst; simp
 | some a=>simp only at hst; simp[hst]
theorem uG(hz:i.zero=some z) {x:Value} {n l c:Nat} {ty:TypeId} {ao:Option Addr} (hlen:∀ w1:World,(Builtin.lenOf x).run P w1=.ok n w1) (hfit:¬ l+n<=c) (hb1:i.bytes<=65536) (hb2:n<=1048576) (hb3:l<=1048576)
  {vs os:Array Value} (hx:∀ w1:World,w1.heap=w.heap->(Builtin.firstCells i.size n x).run P w1=.ok vs w1) (ho:∀ w1:World,w1.heap=w.heap->(Builtin.firstCells i.size l (.slice ao l c)).run P w1=.ok os w1) :
  ∃ c',l+n<=c'/\(Builtin.append_ #[t,u] ty #[.slice ao l c,x]).run P w=.ok (.slice (some ⟨w.heap.size,0,none⟩) (l+n) c') (w.drew.alloc (.cells (os++vs++Builtin.zeroCells z.cells (c'-(l+n))) e)):=by
 have hsz:(sizeOf e).run P w=.ok i.size w:=by simp[sizeOf,yT hi]
 have hb:=TJ hu hd w;have q0:(#[t,u]:Array TypeId)[0]?=some t:=rfl;have q1:(#[t,u]:Array TypeId)[1]?=some u:=rfl;have q2:(#[Value.slice ao l c,x]:Array Value)[0]?=some (Value.slice ao l c):=rfl;have q3:(#[Value.slice ao l c,x]:Array Value)[1]?=some x:=rfl;have hcap:Builtin.nextslicecap (l+n) c*i.bytes<=281474976710656:=by
  have h1:=nextslicecap_le (need:=l+n) (old:=c) (by omega);have h2:Builtin.nextslicecap (l+n) c*i.bytes<=4194304*65536:=Nat.mul_le_mul (by omega) hb1;omega
 have hcap':¬ (Builtin.nextslicecap (l+n) c*i.bytes>2^48):=by omega
 have hmax:IntKind.i64.max=9223372036854775807:=rfl;have h63:¬ (((l+n:Nat):Int)>IntKind.i64.max/\(false=true\/i.bytes=0)):=by rw[hmax]; omega
 refine⟨grownCap w (l+n) c e,?_,?_⟩
 ·simp only[grownCap,Question.cut]; omega
 ·unfold Builtin.append_;simp only[q0,q1,q2,q3,Sem.run_bind,run_underlying ht,Result.andThen_ok,hsz,hb,hlen];simp only[Sem.run_bind,Sem.run_pure,run_underlying hu,Result.andThen_ok];have hm:(match (generalizing:=false) d with|.int _=>true|_=>false)=false:=by cases d <;> first|rfl|exact absurd rfl (hd _)
  simp only[hm,Bool.false_eq_true,if_false,hlen,Result.andThen_ok,if_neg hfit,Bool.not_false,if_true];have h63':¬ (((l+n:Nat):Int)>IntKind.i64.max/\(False\/i.bytes=0)):=by rw[hmax]; omega
  simp only[Sem.run_bind,hlen,Result.andThen_ok,if_neg hfit,yT hi];rw[if_neg h63'];have e1:=hx w.drew rfl;have e2:=ho w.drew rfl;simp only[World.drew]at e1 e2;simp only[Sem.run_bind,yT hi,Result.andThen_ok,if_neg hcap',run_choose,Question.forced,Bool.false_eq_true,if_false,run_askRoom,e1,e2,zeroValue,hz,Sem.run_pure,newRow,run_newObj];rfl
end
theorem M4 {t u e:TypeId} {i:TypeInfo} {d:TypeDesc} (ht:P.underlying t=some (.slice e)) (hu:P.underlying u=some d) (hd:∀ k,d≠.int k) (hi:P.info? e=some i) {x:Value} {new:List PV} {l c:Nat} {ty:TypeId} {ao:Option Addr}
  (hs:Source P w G μ i.size x new 0) (hl:l<=c):(Builtin.append_ #[t,u] ty #[.slice ao l c,x]).run P w=.ok (.slice ao l c) w:=by
 obtain⟨h1,h2,h3⟩:=hs;obtain⟨vs,h4,h5⟩:=h3 0 (oM _);rw[Nat.zero_mul,List.take_zero,VRs]at h4;have:=yO (w:=w) (w':=w) ht hu hd hi (ty:=ty) (ao:=ao) (l:=l) (c:=c) h1 (by simpa using hl) (h5 w rfl) (by
  rw[h4];cases ao <;> simp[storeCells])
 simpa using this
theorem aHQ(hW:aN n0 G μ H w) {e:TypeId} {sz need c':Nat} {cells:List PV} {os vs rest:Array Value} (hv:VRs w G μ cells (os++vs).toList) (hneed:need<=c') (hl:(os++vs).size=need*sz) (hr:rest.size=(c'-need)*sz) {s:Sem Value}
  (h:s.run P w=.ok (.slice (some ⟨w.heap.size,0,none⟩) need c') (w.drew.alloc (.cells (os++vs++rest) e))):yB P n0 w G μ s (YK H e sz need cells).1 (YK H e sz need cells).2:=by
 have hW':aN n0 G μ H w.drew:=ZM hW (w.drawn+1);have e1:Ext n0 w G μ w.drew G μ:=aCS (Nat.le_succ _);have hk:=DX (on:=none) hW' (os++vs++rest) ⟨cells,e,true,false,none⟩ (λj p hp=>by
  obtain⟨u,g1,g2⟩:=hv.get hp;refine⟨u,?_,VR.mono e1.toMono p u g2⟩;have hlt:j<(os++vs).size:=by
   have:=(oO.1 g1).1;simpa using this
  rw[Array.getElem?_append_left hlt,<- Array.getElem?_toList];exact g1) (λh=>by cases h) rfl (λg hg=>by cases hg)
 refine⟨_,_,G,_,h,e1.trans (BQ hW' _ _ _),hk,?_⟩;simp only[YK];rw[VR];refine⟨w.heap.size,c',gK _ _ _ _,rfl,hneed,λk hk=>(by cases hk),os++vs++rest,e,(0,0),?_,?_⟩
 ·show (w.heap.push _)[w.heap.size]?=_;simp
 ·rw[Array.size_append,hl,hr,<- Nat.add_mul,Nat.zero_add];exact Nat.mul_le_mul_right _ (by omega)
theorem yB.aH4 {s:Sem Value}{x:PV×Heap}{v:PV}{H':Heap}(h:x=(v,H'))(k:yB P n0 w G μ s x.1 x.2):yB P n0 w G μ s v H':=by subst h; exact k
theorem mO(z:Array Value)(n:Nat):(Builtin.zeroCells z n).size=n*z.size:=by simp[Builtin.zeroCells]
theorem yB.put {s:Sem Value}{v':Value}{w':World}{v:PV}{H':Heap}(h:s.run P w=.ok v' w')(e:Ext n0 w G μ w' G μ)(hW:aN n0 G μ H' w')(hv:VR w G μ v v'):yB P n0 w G μ s v H':=⟨v',w',G,μ,h,e,hW,VR.mono e.toMono _ _ hv⟩
theorem aST(hW:aN n0 G μ H w) {t u e:TypeId} {i:TypeInfo} {z:Value} {d:TypeDesc} (ht:P.underlying t=some (.slice e)) (hu:P.underlying u=some d) (hd:∀ k,d≠.int k) (hi:P.info? e=some i) (hz:i.zero=some z)
  (hb1:i.bytes<=65536) (hzs:z.cells.size=i.size) {x:Value} {new:List PV} {n l:Nat} {ty:TypeId} (hs:Source P w G μ i.size x new n) (hn:n<=1048576) (hl:l<=1048576) (hok:new.all MN=true)
  {r:Nat} {k:Blk} (hk:jS H r=some k) (hf:k.frozen=false) (hg:k.grown=true) (hte:k.ty=e) (hle:l*i.size<=k.cells.length) {b c:Nat} (hb:μ.loc r=some b) (hlc:l<=c) (hroom:Room w b (0+c*i.size)) :
  yB P n0 w G μ (Builtin.append_ #[t,u] ty #[.slice (some ⟨b,0,none⟩) l c,x]) (YK (H.set r none) e i.size (l+n) (k.cells.take (l*i.size)++new)).1 (YK (H.set r none) e i.size (l+n) (k.cells.take (l*i.size)++new)).2:=by
 obtain⟨cs,g2,g3,g4,g5,g6⟩:=hW.blk r k b (aJ hk) hb;obtain⟨s1,s2,s3⟩:=hs;obtain⟨vs,v1,v2⟩:=s3 n (oM _);rw[List.take_of_length_le (by omega)]at v1;have hvl:new.length=vs.size:=by simpa using v1.length
 obtain⟨i1,i2⟩:=zU g2 g3
 by_cases hfit:l+n<=c
 ·obtain⟨c2,t2,fr2,r1,r2⟩:=hroom;rw[g2]at r1; cases r1;have hmul:(l+n)*i.size<=c*i.size:=Nat.mul_le_mul_right _ hfit;rw[Nat.add_mul]at hmul;obtain⟨w',h1,h2⟩:=pM (P:=P) (off:=l*i.size) vs.toList 0 w cs (G8 hok v1) g2 (by simp only[Array.length_toList]; omega);rw[Nat.add_zero]at h2;have hsz:(fE cs (l*i.size) vs.toList).size=cs.size:=wP (by simp only[Array.length_toList]; omega);have e1:=AB hW (aJ hk) hf hb g2 h2 hsz
  have hW':=D5 (k':=⟨k.cells.take (l*i.size)++new,e,true,false,none⟩) hW (aJ hk) hf hb g2 (hte ▸ h2) hsz rfl (by
   refine rW (n:=l*i.size+vs.size) h2.at_ (VRs.mono e1.toMono _ _ ?_);have:=i1.take (l*i.size);rw[List.take_take,Nat.min_eq_left hle]at this;have h3:=this.append v1;have e2:(fE cs (l*i.size) vs.toList).toList.take (l*i.size+vs.size)=cs.toList.take (l*i.size)++vs.toList:=by
    simp only[fE];rw[List.take_append_of_le_length (by simp; omega),List.take_of_length_le (by simp; omega)]
   rw[e2]; exact h3) (λh=>by cases h) (λg hg=>by cases hg)
  have hrl:r<H.length:=(oO.1 (aJ hk)).1;obtain⟨e3,hW''⟩:=KN (r:=r) (on:=none) hW' (List.getElem?_set_self hrl) hb (λg hg=>by cases hg);simp only[List.length_set,List.set_set]at e3 hW'';have hrun:=yO (w:=w) (w':=w') (ty:=ty) (ao:=some ⟨b,0,none⟩) ht hu hd hi s1 hfit (v2 w rfl) (by simp only[Addr.add_lit,Nat.zero_add]; exact h1);refine⟨_,w',G,_,hrun,e1.trans e3,by simpa[YK]using hW'',?_⟩;simp only[YK]
  rw[VR];exact⟨b,c,by simp[gK],rfl,hfit,λk hk=>(by cases hk),_,_,_,h2.at_,by rw[hsz]; omega⟩
 ·have hsub:=g3.sub 0 (l*i.size);rw[Nat.zero_add,List.drop_zero]at hsub;obtain⟨os,o1,o2⟩:=(yN (P:=P) (c:=c) hsub (by simp; omega):Source P w G μ i.size (.slice (some ⟨b,0,none⟩) l c) _ l).2.2 l (oM _);rw[List.take_of_length_le (by simp; omega)]at o1;have hol:l*i.size=os.size:=by have:=o1.length; rw[List.length_take,Nat.min_eq_left hle]at this; simpa using this
  obtain⟨c',q1,q2⟩:=uG (w:=w) (ty:=ty) (ao:=some ⟨b,0,none⟩) ht hu hd hi hz s1 hfit hb1 hn hl v2 o2;exact aHQ (vV hW r) (os:=os) (vs:=vs) (by rw[Array.toList_append]; exact o1.append v1) q1 (by rw[Array.size_append,Nat.add_mul,<- hol,<- hvl,s2]) (by rw[mO,hzs]) q2
set_option maxHeartbeats 2000000 in
theorem aK8(hW:aN n0 G μ H w) {tys:Array TypeId} {ty:TypeId} {p q v:PV} {H':Heap} {s x:Value} (hp:VR w G μ p s) (hq:VR w G μ q x) (h:aPH P H tys p q=some (v,H')):yB P n0 w G μ (Builtin.append_ tys ty #[s,x]) v H':=by
 unfold aPH at h;split at h
 ·rename_i t u htys;have htys:tys=#[t,u]:=by apply Array.ext'; simpa using htys
  subst htys;split at h
  ·cases h
  ·cases h
  ·rename_i e d hnot ht hu;have hd:∀ k,d≠.int k:=λk hk=>hnot k (by rw[hk])
   split at h
   ·rename_i i hi;split at h
    ·rename_i z hz;cases hb:(Nat.ble i.bytes 65536&&Nat.ble 1 i.size&&Nat.beq z.cells.size i.size)with
     | false=>rw[hb]at h; cases h
     | true =>
      rw[hb]at h;simp only[oC]at h;simp only[oA]at hb;have hb1:=oL hb.1.1;have hzs:=oE hb.2;split at h
      ·rename_i new n hsrc;cases hc:(Nat.ble n 1048576&&new.all MN)with
       | false=>rw[hc]at h; cases h
       | true =>
        rw[hc]at h;simp only[oC]at h;simp only[oA]at hc;have hn:=oL hc.1;have hs:=aAQ (P:=P) hW hq hsrc;have hs':=hs;obtain⟨s1,s2,s3⟩:=hs;obtain⟨vs,v1,v2⟩:=s3 n (oM _);rw[List.take_of_length_le (by omega)]at v1;have hvl:new.length=vs.size:=by simpa using v1.length
        split at h
        ·rename_i l c;rw[VR]at hp;subst hp;cases hlc:(Nat.beq l 0&&Nat.beq c 0)with
         | false=>rw[hlc]at h; cases h
         | true =>
          rw[hlc]at h;simp only[oC]at h;simp only[oA]at hlc;have e1:=oE hlc.1;have e2:=oE hlc.2;subst e1; subst e2;cases hn0:Nat.beq n 0 with
          | true =>
           rw[hn0]at h;simp only[oC,oJ,oP]at h;obtain⟨rfl,rfl⟩:=h;have hn0:=oE hn0;subst hn0;exact .same hW (M4 ht hu hd hi hs' (oM _)) (by rw[VR])
          | false =>
           rw[hn0]at h;simp only[oD,oJ]at h;have hn1:n≠0:=λe=>(by rw[e]at hn0; cases hn0)
           obtain⟨c',q1,q2⟩:=uG (w:=w) (ty:=ty) (ao:=none) (l:=0) (c:=0) ht hu hd hi hz s1 (by omega) hb1 hn (by omega) (os:=#[]) v2 (λw1 _=>rfl);refine yB.aH4 h ?_;have:=aHQ hW (os:=#[]) (vs:=vs) (cells:=new) (sz:=i.size) (by simpa using v1) q1 (by rw[Array.size_append,Array.size_empty,Nat.zero_add,Nat.zero_add,<- hvl,s2]) (by rw[mO,hzs]) q2;rwa[Nat.zero_add]at this
        ·rename_i cs l cap;have hp':=hp;rw[VR]at hp;obtain⟨ao,c,rfl,h3,h4,h5⟩:=hp;cases hn0:Nat.beq n 0 with
         | true =>
          rw[hn0]at h;simp only[oC,oJ,oP]at h;obtain⟨rfl,rfl⟩:=h;have hn0:=oE hn0;subst hn0;exact .same hW (M4 ht hu hd hi hs' h3) hp'
         | false =>
          rw[hn0]at h;simp only[oD]at h;cases hcl:(Nat.beq cs.length (l*i.size)&&Nat.ble l 1048576)with
          | false=>rw[hcl]at h; cases h
          | true =>
           rw[hcl]at h;simp only[oC]at h;simp only[oA]at hcl;have hcl1:=oE hcl.1;have hl:=oL hcl.2;cases cap with
           | none=>cases h
           | some c' =>
            simp only at h;have:=h4 c' rfl;subst this;cases hfit:Nat.ble (l+n) c with
            | true=>rw[hfit]at h; cases h
            | false =>
             rw[hfit]at h;simp only[oD,oJ]at h;have hfit:¬ l+n<=c:=λhle=>(by rw[Nat.ble_eq_true_of_le hle]at hfit; cases hfit)
             obtain⟨os,o1,o2⟩:∃ os:Array Value,VRs w G μ cs os.toList/\∀ w1:World,w1.heap=w.heap->(Builtin.firstCells i.size l (.slice ao l c)).run P w1=.ok os w1:=by
              rcases h5 with rfl|⟨b,off,rfl,_,hcs⟩
              ·refine⟨#[],by simp[VRs],λw1 _=>?_⟩;simp only[List.length_nil]at hcl1;cases ao with
               | none=>rfl
               | some a=>simp[Builtin.firstCells,<- hcl1,loadCells,loadCellsFrom]
              ·have:=(yN (P:=P) (μ:=μ) (c:=c) hcs.aY hcl1).2.2 l (oM _);rwa[List.take_of_length_le (by omega)]at this
             have hol:cs.length=os.size:=by simpa using o1.length
             obtain⟨c',q1,q2⟩:=uG (w:=w) (ty:=ty) (ao:=ao) ht hu hd hi hz s1 hfit hb1 hn hl v2 o2;refine yB.aH4 h ?_;exact aHQ hW (os:=os) (vs:=vs) (by rw[Array.toList_append]; exact o1.append v1) q1 (by rw[Array.size_append,Nat.add_mul,<- hol,<- hvl,s2,hcl1]) (by rw[mO,hzs]) q2
        ·rename_i r off l cap sz;have hp':=hp;rw[VR]at hp;obtain⟨b,c,hb,rfl,h3,h4,hroom⟩:=hp;cases hn0:Nat.beq n 0 with
         | true =>
          rw[hn0]at h;simp only[oC,oJ,oP]at h;obtain⟨rfl,rfl⟩:=h;have hn0:=oE hn0;subst hn0;exact .same hW (M4 ht hu hd hi hs' h3) hp'
         | false =>
          rw[hn0]at h;simp only[oD]at h;split at h
          ·rename_i k hk;cases hcl:(Nat.beq sz i.size&&Nat.ble (off+l*sz) k.cells.length&&Nat.ble l 1048576&&Nat.beq k.ty e)with
           | false=>rw[hcl]at h; cases h
           | true =>
            rw[hcl]at h;simp only[oC]at h;simp only[oA]at hcl;obtain⟨⟨⟨k1,k2⟩,k3⟩,k4⟩:=hcl;have k1:=oE k1;have k2:=oL k2;have k3:=oL k3;have k4:=oE k4;subst k1;obtain⟨cs,g2,g3,g4,g5,g6⟩:=hW.blk r k b (aJ hk) hb;split at h
            ·rename_i c';have:=h4 c' rfl;subst this;cases hfit:Nat.ble (l+n) c with
             | true =>
              rw[hfit]at h;simp only[oC]at h;split at h
              ·rename_i H2 hw2;simp only[oJ,oP]at h;obtain⟨rfl,rfl⟩:=h;obtain⟨w',a1,a2,a3⟩:=OD (P:=P) hW hw2 hb v1;have hrun:=yO (w:=w) (w':=w') (ty:=ty) (ao:=some ⟨b,off,none⟩) ht hu hd hi s1 (oL hfit) (v2 w rfl) (by simp only[Addr.add_lit]; exact a1);refine .put hrun a2 a3 ?_;rw[VR];exact⟨b,c,hb,rfl,oL hfit,λk hk=>(by cases hk; rfl),hroom⟩
              ·cases h
             | false =>
              rw[hfit]at h;simp only[oD,oJ]at h;have hfit:¬ l+n<=c:=λhle=>(by rw[Nat.ble_eq_true_of_le hle]at hfit; cases hfit)
              have hsub:=g3.sub off (l*i.size);rw[Nat.zero_add]at hsub;obtain⟨os,o1,o2⟩:=(yN (P:=P) (c:=c) hsub (by simp; omega):Source P w G μ i.size (.slice (some ⟨b,off,none⟩) l c) _ l).2.2 l (oM _);rw[List.take_of_length_le (by simp; omega)]at o1;have hol:l*i.size=os.size:=by have:=o1.length; rw[List.length_take,List.length_drop,Nat.min_eq_left (by omega)]at this; simpa using this
              obtain⟨c',q1,q2⟩:=uG (w:=w) (ty:=ty) (ao:=some ⟨b,off,none⟩) ht hu hd hi hz s1 hfit hb1 hn k3 v2 o2;refine yB.aH4 h ?_;exact aHQ hW (os:=os) (vs:=vs) (by rw[Array.toList_append]; exact o1.append v1) q1 (by rw[Array.size_append,Nat.add_mul,<- hol,<- hvl,s2]) (by rw[mO,hzs]) q2
            ·cases hoff:(Nat.beq off 0&&!k.frozen&&k.grown)with
             | false=>rw[hoff]at h; cases h
             | true =>
              rw[hoff]at h;simp only[oC,oJ]at h;simp only[oA,Bool.not_eq_true']at hoff;have o1:=oE hoff.1.1;subst o1;have hmore:a07 k.cells (l*i.size) new=k.cells.take (l*i.size)++new:=by
               unfold a07;cases hm:Nat.beq k.cells.length (l*i.size)with
               | true=>rw[oC,List.take_of_length_le (Nat.le_of_eq (oE hm))]
               | false=>rfl
              rw[hmore]at h;refine yB.aH4 h ?_;exact aST hW ht hu hd hi hz hb1 hzs hs' hn k3 hc.2 hk hoff.1.2 hoff.2 k4 (by omega) hb h3 hroom
          ·cases h
        ·cases h
      ·cases h
    ·cases h
   ·cases h
  ·cases h
 ·cases h
theorem aQY(hW:aN n0 G μ H w){tys:Array TypeId}{ty:TypeId}{p q v:PV}{H':Heap}{s x:Value}(hp:VR w G μ p s)(hq:VR w G μ q x)(h:aYZ P H tys p q=some (v,H')):yB P n0 w G μ (Builtin.copy_ tys ty #[s,x]) v H':=by
 unfold aYZ at h;split at h
 ·rename_i t ts htys;have q0:tys[0]?=some t:=by rw[<- Array.getElem?_toList,htys]; rfl
  split at h
  ·rename_i e hu;split at h
   ·rename_i sz hs;split at h
    ·rename_i new n hsrc;obtain⟨s1,s2,s3⟩:=aAQ (P:=P) hW hq hsrc;split at h
     ·rename_i r off l cap sz';split at h
      ·rename_i H2 hw2;simp only[oJ,oP]at h;obtain⟨rfl,rfl⟩:=h;rw[VR]at hp;obtain⟨b,c,hb,rfl,h3,h4,hroom⟩:=hp;obtain⟨vs,v1,v2⟩:=s3 (min n l) (Nat.min_le_left _ _);obtain⟨w',a1,a2,a3⟩:=OD (P:=P) hW hw2 hb v1;have hrun:(Builtin.copy_ tys ty #[.slice (some ⟨b,off,none⟩) l c,x]).run P w=.ok (goInt ((min n l:Nat):Int)) w':=by
        have q2:(#[Value.slice (some ⟨b,off,none⟩) l c,x]:Array Value)[0]?=some (Value.slice (some ⟨b,off,none⟩) l c):=rfl;have q3:(#[Value.slice (some ⟨b,off,none⟩) l c,x]:Array Value)[1]?=some x:=rfl;unfold Builtin.copy_;have hm:Nat.min n l=min n l:=rfl;simp only[q0,q2,q3,Sem.run_bind,run_underlying hu,Result.andThen_ok,s1,run_sizeOf hs,hm,v2 w rfl,a1,Sem.run_pure]
       refine .put hrun a2 a3 ?_;rw[VR]
      ·cases h
     ·cases h
    ·cases h
   ·cases h
  ·cases h
 ·cases h
theorem aMV {e:TypeId}{z:Value}(hz:xW P e=some z)(w:World):(zeroValue e).run P w=.ok z w:=by
 unfold xW at hz;split at hz
 ·rename_i i hi;simp[zeroValue,yT hi,hz]
 ·cases hz
theorem aNZ(hW:aN n0 G μ H w){tys:Array TypeId}{ty:TypeId}{p v:PV}{H':Heap}{s:Value}(hp:VR w G μ p s)(h:aU4 P H tys p=some (v,H')):yB P n0 w G μ (Builtin.clear_ tys ty #[s]) v H':=by
 unfold aU4 at h;split at h
 ·rename_i t ts htys;have q0:tys[0]?=some t:=by rw[<- Array.getElem?_toList,htys]; rfl
  split at h
  ·rename_i e hu;split at h
   ·rename_i z hz;split at h
    ·rename_i r off l cap sz;rw[VR]at hp;obtain⟨b,c,hb,rfl,h3,h4,hroom⟩:=hp;have q2:(#[Value.slice (some ⟨b,off,none⟩) l c]:Array Value)[0]?=some (Value.slice (some ⟨b,off,none⟩) l c):=rfl;have ht:VR w G μ (.tuple []) (.tuple #[]):=by rw[VR]; exact⟨#[],rfl,by rw[VRs]⟩
     cases hl:Nat.beq l 0 with
     | true =>
      rw[hl]at h;simp only[oC,oJ,oP]at h;obtain⟨rfl,rfl⟩:=h;have hl0:=oE hl;subst hl0;refine .same hW ?_ ht;unfold Builtin.clear_;simp only[q0,q2,Sem.run_bind,run_underlying hu,Result.andThen_ok,Sem.run_pure]
     | false =>
      rw[hl]at h;simp only[oD]at h;have hl0:l≠0:=λe=>by subst e; cases hl
      split at h
      ·rename_i H2 hw2;simp only[oJ,oP]at h;obtain⟨rfl,rfl⟩:=h;obtain⟨w',a1,a2,a3⟩:=OD (P:=P) hW hw2 hb (yK _);refine .put (v':=.tuple #[]) (w':=w') ?_ a2 a3 (by rw[VR]; exact⟨#[],rfl,by rw[VRs]⟩);unfold Builtin.clear_;obtain⟨l',rfl⟩:∃ l',l=l'+1:=⟨l-1,by omega⟩;simp only[q0,q2,Sem.run_bind,run_underlying hu,Result.andThen_ok,aMV hz,a1,Sem.run_pure]
      ·cases h
    ·cases h
   ·cases h
  ·cases h
 ·cases h
end
section
variable {P:Program} {n0:Nat->Prop} {w:World} {G:Gd} {μ:Mp} {H:Heap} {F:Frm} {a:Act} {nt:Nat}
def xH(P:Program) (n0:Nat->Prop) (w:World) (G:Gd) (μ:Mp) (g:FuncId) (vs:Array Value) (r:PV) (H':Heap):Prop :=
 (callFunc g vs).run P w=.ok (.enter g vs) w/\Calls P g vs w λe w'=>∃ v' G' μ',e=.returned v'/\Ext n0 w G μ w' G' μ'/\aN n0 G' μ' H' w'/\VR w' G' μ' r v'
structure dF (P:Program) (cl:Callee):Prop where
 call:∀ {g args H r H' c},cl g args H=some (r,H',c)->∀ {n0 G μ w vs},aN n0 G μ H w->VRs w G μ args vs->xH P n0 w G μ g vs.toArray r H'
 free:∀ {g args H r H'},cl g args H=some (r,H',0)->H'=H/\∀ H2,cl g args H2=some (r,H2,0)
 reads:∀ {g args H r H'},cl g args H=some (r,H',1)->H'=H
def F8(P:Program) (n0:Nat->Prop) (w:World) (G:Gd) (μ:Mp) (o:Oper) (a:Act) (v:PV) (H':Heap):Prop :=
 ∀ (K:Act->World->Prop) (Q:Exit->Act->World->Prop),(∀ v' w' G' μ',Ext n0 w G μ w' G' μ'->aN n0 G' μ' H' w'->VR w' G' μ' v v'->K (a.put o.dst v') w')->o.wp P a w K Q
theorem F8.value {o:Oper}{s:Sem Value}{v:PV}{H':Heap}(hs:execOp a.eval o=(do pure (.value (<- s))))(h:yB P n0 w G μ s v H'):F8 P n0 w G μ o a v H':=by
 intro K Q hK;obtain⟨v',w',G',μ',h1,h2,h3,h4⟩:=h;unfold Oper.wp;rw[hs];simp only[Sem.run_bind,h1,Result.andThen_ok,Sem.run_pure];exact hK v' w' G' μ' h2 h3 h4
theorem F8.pure {o:Oper}{v:PV}{v':Value}(hW:aN n0 G μ H w)(hs:(execOp a.eval o).run P w=.ok (.value v') w)(h:VR w G μ v v'):F8 P n0 w G μ o a v H:=by
 intro K Q hK;unfold Oper.wp;rw[hs];exact hK v' w G μ (Ext.refl _ _ _ _) hW h
theorem F8.sV (hW:aN n0 G μ H w)(hF:fQ w G μ nt F a){o:Oper}{v:PV}{H':Heap}{c:Nat}(h:p0 H (sV P F o)=some (v,H',c)):F8 P n0 w G μ o a v H':=by
 unfold p0 at h;split at h
 ·rename_i u hu;simp only[oJ,oP]at h;obtain⟨rfl,rfl,rfl⟩:=h;obtain⟨v',h1,h2⟩:=aSD hF hu;exact .pure hW (h1 w) h2
 ·cases h
theorem NQ {x:Option PV}{v:PV}{H':Heap}{c:Nat}(h:p0 H x=some (v,H',c)):x=some v/\H'=H/\c=0:=by
 unfold p0 at h;split at h
 ·simp only[oJ,oP]at h;obtain⟨rfl,rfl,rfl⟩:=h;exact⟨rfl,rfl,rfl⟩
 ·cases h
theorem CS {x:Option (PV×Heap)}{v:PV}{H':Heap}{c:Nat}(h:p2 x=some (v,H',c)):x=some (v,H')/\c=2:=by
 unfold p2 at h;split at h
 ·simp only[oJ,oP]at h;obtain⟨rfl,rfl,rfl⟩:=h;exact⟨rfl,rfl⟩
 ·cases h
theorem aEG(hF:fQ w G μ nt F a):∀ xs:List Operand,VRs w G μ (xs.map (ev F)) (xs.map a.eval)
 | []=>by simp[VRs]
 | x::xs=>by rw[List.map_cons,VRs]; exact⟨_,_,rfl,cQ hF x,aEG hF xs⟩
theorem aL2 {cl:Callee} (hcl:dF P cl) (hW:aN n0 G μ H w) {o:Oper} {c:Call} {f:Operand} {g:FuncId} {first caps:Array Value} {args:List PV} {v:PV} {H':Heap} {k:Nat} (ho:o.op=.call c) (hc:c.callee=.value f)
  (hf:a.eval f=.func (.func g) first caps) (hargs:VRs w G μ args (first.toList++c.args.toList.map a.eval++caps.toList)) (h:cl g args H=some (v,H',k)):F8 P n0 w G μ o a v H':=by
 intro K Q hK;obtain⟨h1,h2⟩:=hcl.call h hW hargs;have e:(first.toList++c.args.toList.map a.eval++caps.toList).toArray=first++c.args.map a.eval++caps:=by apply Array.ext'; simp
 rw[e]at h1 h2;unfold Oper.wp;have hx:(execOp a.eval o).run P w=.ok (.enter g (first++c.args.map a.eval++caps)) w:=by
  unfold execOp;simp only[ho,resolve,hc,hf,Deferred.ofValue,Sem.run_bind,Sem.run_pure,Result.andThen_ok,invoke,h1]
 rw[hx];refine h2.mono λe w' he=>?_
 obtain⟨v',G',μ',rfl,e1,e2,e3⟩:=he;exact hK v' w' G' μ' e1 e2 e3
set_option maxHeartbeats 2000000 in
theorem aXK {cl:Callee} (hcl:dF P cl) (hW:aN n0 G μ H w) (hF:fQ w G μ nt F a) {o:Oper} {v:PV} {H':Heap} {k:Nat} (h:opu P cl F H o=some (v,H',k)):F8 P n0 w G μ o a v H':=by
 unfold opu at h;split at h
 ·rename_i x ho;simp only[oJ,oP]at h;obtain⟨rfl,rfl,rfl⟩:=h;exact .pure hW (by simp[execOp,ho]) (cQ hF x)
 ·rename_i x ho;simp only[oJ,oP]at h;obtain⟨rfl,rfl,rfl⟩:=h;exact .pure hW (by simp[execOp,ho]) (cQ hF x)
 ·rename_i c x y ho;split at h
  ·rename_i t ht;simp only[oJ,oP]at h;obtain⟨rfl,rfl,rfl⟩:=h;have hc:=cQ hF c;rw[ht,VR]at hc;refine .pure hW (v':=if t then a.eval x else a.eval y) (by simp[execOp,ho,hc,asBool]) ?_;cases t
   ·exact cQ hF y
   ·exact cQ hF x
  ·cases h
 ·rename_i op xt x y yt ho;split at h
  ·rename_i k1 i1 k2 i2 hx hy;cases hk:M6 k1 k2 with
   | false=>rw[hk]at h; exact .sV hW hF h
   | true =>
    rw[hk]at h;simp only[oC]at h;have hk:k1=k2:=ZU hk;subst hk;split at h
    ·rename_i u hu;simp only[oJ,oP]at h;obtain⟨rfl,rfl,rfl⟩:=h;have h1:=cQ hF x;have h2:=cQ hF y;rw[hx,VR]at h1;rw[hy,VR]at h2;refine .value (s:=do eqGuard op xt x y (a.eval x) (a.eval y); binOp op xt (a.eval x) (a.eval y)) (by simp[execOp,ho]) (.same hW (v':=u) ?_ (by rw[VR]));rw[h1,h2];exact aU6 hu w
    ·exact .sV hW hF h
  ·rename_i cs ds hx hy;split at h
   ·rename_i u hu;simp only[oJ,oP]at h;obtain⟨rfl,rfl,rfl⟩:=h;have h1:=cQ hF x;have h2:=cQ hF y;rw[hx,VR]at h1;rw[hy,VR]at h2;obtain⟨xs,e1,h1⟩:=h1;obtain⟨ys,e2,h2⟩:=h2;obtain⟨v',g1,g2⟩:=aTM (P:=P) (p:=x) (q:=y) h1 h2 hu w;exact .value (s:=do eqGuard op xt x y (a.eval x) (a.eval y); binOp op xt (a.eval x) (a.eval y)) (by simp[execOp,ho]) (.same hW (v':=v') (by rw[e1,e2]; exact g1) g2)
   ·exact .sV hW hF h
  ·exact .sV hW hF h
 ·rename_i t x ho;split at h
  ·rename_i u c hu;simp only[oJ,oP]at h;obtain⟨rfl,rfl,rfl⟩:=h;obtain⟨v',h1,h2⟩:=aFY hW (cQ hF x) hu;exact .value (by simp only[execOp,ho]) (.same hW h1 h2)
  ·cases h
 ·rename_i t x y ho;split at h
  ·rename_i H2 hu;simp only[oJ,oP]at h;obtain⟨rfl,rfl,rfl⟩:=h;obtain⟨w',h1,h2,h3⟩:=aQB hW (cQ hF x) (cQ hF y) hu;intro K Q hK;unfold Oper.wp;have hx:(execOp a.eval o).run P w=.ok .skip w':=by simp[execOp,ho,h1]
   rw[hx];exact hK undef w' G μ h2 h3 (by rw[VR])
  ·cases h
 ·rename_i t x ho;split at h
  ·rename_i cs hcs;have hv:=GQ hcs (cQ hF x);cases hro:aWI t cs with
   | true =>
    rw[hro]at h;simp only[oC,oJ,oP]at h;obtain⟨rfl,rfl,rfl⟩:=h;simp only[aWI,oA]at hro;exact .value (s:=Instr.box t (a.eval x)) (by simp only[execOp,ho]) (aF3 hW hv hro.2)
   | false =>
   rw[hro]at h;simp only[oD]at h;replace h:=CS h; obtain⟨h,rfl⟩:=h;simp only[oJ]at h;have hn:=aL9 (P:=P) hW (t:=t) hv;rw[h]at hn;exact .value (s:=Instr.box t (a.eval x)) (by simp only[execOp,ho]) hn
  ·cases h
 ·rename_i t ho;split at h
  ·rename_i z hz;replace h:=CS h; obtain⟨h,rfl⟩:=h;simp only[oJ]at h;have hn:=aL9 (P:=P) hW (t:=t) (yK (w:=w) (G:=G) (μ:=μ) z.cells);rw[h]at hn;refine .value (s:=Instr.alloc t true (.tuple #[])) (by simp only[execOp,ho]) ?_;obtain⟨v',w',G',μ',a1,a2⟩:=hn;refine⟨v',w',G',μ',?_,a2⟩;have hzv:(zeroValue t).run P w=.ok z w:=by
    unfold xW at hz;split at hz
    ·rename_i i hi;simp[zeroValue,yT hi,hz]
    ·cases hz
   simp only[Instr.alloc,Sem.run_bind,hzv,Result.andThen_ok,newVar];simpa using a1
  ·cases h
 ·rename_i s x f ho;replace h:=NQ h; obtain⟨h,rfl,rfl⟩:=h;obtain⟨v',h1,h2⟩:=aE2 (cQ hF x) h;exact .value (by simp only[execOp,ho]) (.same hW h1 h2)
 ·rename_i t x i ho;split at h
  ·rename_i k1 i1 hi;replace h:=NQ h; obtain⟨h,rfl,rfl⟩:=h;have h3:=cQ hF i;rw[hi,VR]at h3;obtain⟨v',h1,h2⟩:=aFD (k:=k1) (cQ hF x) h;exact .value (s:=Instr.indexAt t (a.eval x) (a.eval i)) (by simp only[execOp,ho]) (.same hW (by rw[h3]; exact h1) h2)
  ·cases h
 ·rename_i x ho;split at h
  ·rename_i cs hx;simp only[oJ,oP]at h;obtain⟨rfl,rfl,rfl⟩:=h;have h1:=cQ hF x;rw[hx]at h1;have h2:=h1;rw[VR]at h2;obtain⟨b,off,h3,_⟩:=h2;exact .pure hW (v':=a.eval x) (by simp[execOp,ho,h3]) h1
  ·rename_i r off hx;simp only[oJ,oP]at h;obtain⟨rfl,rfl,rfl⟩:=h;have h1:=cQ hF x;rw[hx]at h1;have h2:=h1;rw[VR]at h2;obtain⟨b,_,h3⟩:=h2;exact .pure hW (v':=a.eval x) (by simp[execOp,ho,h3]) h1
  ·rename_i f p q hx;simp only[oJ,oP]at h;obtain⟨rfl,rfl,rfl⟩:=h;have h1:=cQ hF x;rw[hx]at h1;have h2:=h1;rw[VR]at h2;obtain⟨fs,cs,h3,_⟩:=h2;exact .pure hW (v':=a.eval x) (by simp[execOp,ho,h3]) h1
  ·exact .sV hW hF h
 ·rename_i s x f ho;split at h
  ·rename_i cs hx;split at h
   ·rename_i fd hfd;replace h:=NQ h; obtain⟨h,rfl,rfl⟩:=h;have h1:=cQ hF x;rw[hx]at h1;obtain⟨v',h2,h3⟩:=aN1 (P:=P) h1 hfd h w;exact .value (by simp only[execOp,ho]) (.same hW h2 h3)
   ·cases h
  ·exact .sV hW hF h
 ·rename_i t x i ho;split at h
  ·rename_i cs k1 i1 n e hx hi hu;split at h
   ·rename_i sz hs;cases hc:aF i1 n with
    | false=>rw[hc]at h; cases h
    | true =>
     rw[hc]at h;simp only[oC]at h;replace h:=NQ h; obtain⟨h,rfl,rfl⟩:=h;have h1:=cQ hF x;rw[hx]at h1;have h4:=cQ hF i;rw[hi,VR]at h4;obtain⟨v',h2,h3⟩:=aNY (P:=P) (k:=k1) h1 hu hs hc h w;exact .value (s:=Instr.index t (a.eval x) (a.eval i)) (by simp only[execOp,ho]) (.same hW (by rw[h4]; exact h2) h3)
   ·cases h
  ·exact .sV hW hF h
 ·rename_i x i ho;split at h
  ·rename_i vs hx;replace h:=NQ h; obtain⟨h,rfl,rfl⟩:=h;have h1:=cQ hF x;rw[hx]at h1;obtain⟨v',h2,h3⟩:=aJU (P:=P) h1 h w;exact .value (by simp only[execOp,ho]) (.same hW h2 h3)
  ·exact .sV hW hF h
 ·rename_i t parts ho;replace h:=NQ h; obtain⟨h,rfl,rfl⟩:=h;obtain⟨v',h2,h3⟩:=aO1 hF h w;exact .value (by simp only[execOp,ho]) (.same hW h2 h3)
 ·rename_i t n parts ho;split at h
  ·rename_i v1 h1;simp only[oJ,oP]at h;obtain⟨rfl,rfl,rfl⟩:=h;exact .value (by simp only[execOp,ho]) (aDC hW hF h1)
  ·replace h:=CS h; obtain⟨h,rfl⟩:=h;exact .value (by simp only[execOp,ho]) (aA8 hW hF h)
 ·rename_i t l c ho;replace h:=CS h; obtain⟨h,rfl⟩:=h;exact .value (by simp only[execOp,ho]) (aFC hW (cQ hF l) (cQ hF c) h)
 ·rename_i fn first caps ho;simp only[oJ,oP]at h;obtain⟨rfl,rfl,rfl⟩:=h;refine .pure hW (v':=.func fn (first.map a.eval) (caps.map a.eval)) (by simp[execOp,ho,Instr.makeFunc]) ?_;rw[VR];exact⟨_,_,rfl,by simpa using aEG hF first.toList,by simpa using aEG hF caps.toList⟩
 ·rename_i t x lo hi ho;split at h
  ·exact .sV hW hF h
  ·replace h:=NQ h; obtain⟨h,rfl,rfl⟩:=h;obtain⟨v',h2,h3⟩:=IK hF (cQ hF x) h w;exact .value (by simp only[execOp,ho]; rfl) (.same hW h2 h3)
 ·rename_i c ho;split at h
  ·rename_i hc;split at h
   ·exact .sV hW hF h
   ·cases hsz:Nat.beq c.args.size 1 with
    | false=>rw[hsz]at h; cases h
    | true =>
     rw[hsz]at h;simp only[oC]at h;replace h:=NQ h; obtain⟨h,rfl,rfl⟩:=h;have hsz:=oE hsz;obtain⟨x,hx⟩:∃ x,c.args=#[x]:=by
      have h1:0<c.args.size:=by omega
      refine⟨c.args[0],?_⟩;apply Array.ext
      ·simp[hsz]
      ·intro i h2 h3;have:i=0:=by omega
       subst this; rfl
     rw[hx]at h;obtain⟨v',h2,h3⟩:=aVB (P:=P) (ty:=o.type) (cQ hF x) h w;refine .value (s:=Builtin.len_ c.argTypes o.type #[a.eval x]) ?_ (.same hW h2 h3);simp[execOp,ho,resolve,hc,hx,invoke,builtin]
  ·rename_i hc;split at h
   ·rename_i s x hx;have hx:c.args=#[s,x]:=by apply Array.ext'; simpa using hx
    replace h:=CS h; obtain⟨h,rfl⟩:=h;refine .value (s:=Builtin.append_ c.argTypes o.type #[a.eval s,a.eval x]) ?_ (aK8 hW (cQ hF s) (cQ hF x) h);simp[execOp,ho,resolve,hc,hx,invoke,builtin]
   ·cases h
  ·rename_i hc;split at h
   ·rename_i s x hx;have hx:c.args=#[s,x]:=by apply Array.ext'; simpa using hx
    replace h:=CS h; obtain⟨h,rfl⟩:=h;refine .value (s:=Builtin.copy_ c.argTypes o.type #[a.eval s,a.eval x]) ?_ (aQY hW (cQ hF s) (cQ hF x) h);simp[execOp,ho,resolve,hc,hx,invoke,builtin]
   ·cases h
  ·rename_i hc;split at h
   ·rename_i s hx;have hx:c.args=#[s]:=by apply Array.ext'; simpa using hx
    replace h:=CS h; obtain⟨h,rfl⟩:=h;refine .value (s:=Builtin.clear_ c.argTypes o.type #[a.eval s]) ?_ (aNZ hW (cQ hF s) h);simp[execOp,ho,resolve,hc,hx,invoke,builtin]
   ·cases h
  ·exact .sV hW hF h
  ·rename_i f hc;split at h
   ·rename_i g first caps hf;have h1:=cQ hF f;rw[hf,VR]at h1;exact aL2 hcl hW ho hc h1 (((yK _).append (aEG hF _)).append (yK _)) h
   ·rename_i g first caps hf;have h1:=cQ hF f;rw[hf,VR]at h1;obtain⟨fs,cs,h2,h3,h4⟩:=h1;exact aL2 hcl hW ho hc h2 ((h3.append (aEG hF _)).append h4) h
   ·cases h
  ·cases h
 ·exact .sV hW hF h
end
section
variable {P:Program} {F:Frm} {H:Heap}
theorem a4X {x:Option PV}{v:PV}{H':Heap}{k:Nat}(h:p0 H x=some (v,H',k)):H'=H/\k=0/\∀ H2,p0 H2 x=some (v,H2,0):=by
 obtain⟨rfl,rfl,rfl⟩:=NQ h;exact⟨rfl,rfl,λH2=>rfl⟩
def aAO(k:Nat)(H H':Heap)(v:PV)(f:Heap->Option (PV×Heap×Nat)):Prop:=(k=0->H'=H/\∀ H2,f H2=some (v,H2,0))/\(k=1->H'=H)
theorem aAO.p0 {x:Option PV}{v:PV}{H':Heap}{k:Nat}{f:Heap->Option (PV×Heap×Nat)}(h:p0 H x=some (v,H',k))(hf:∀ H2,f H2=PM.p0 H2 x):aAO k H H' v f:=by
 obtain⟨rfl,rfl,h3⟩:=a4X h;exact⟨λ_=>⟨rfl,λH2=>by rw[hf]; exact h3 H2⟩,λ_=>rfl⟩
theorem aAO.two {H':Heap}{v:PV}{f:Heap->Option (PV×Heap×Nat)}{k:Nat}(h:k=2):aAO k H H' v f:=by subst h; exact⟨λh=>(by cases h),λh=>(by cases h)⟩
theorem aAO.callee {cl:Callee}(hcl:dF P cl){g:FuncId}{args:List PV}{v:PV}{H':Heap}{k:Nat}{f:Heap->Option (PV×Heap×Nat)}(h:cl g args H=some (v,H',k))(hf:∀ H2,f H2=cl g args H2):aAO k H H' v f:=by
 constructor
 ·rintro rfl;obtain⟨h1,h2⟩:=hcl.free h;exact⟨h1,λH2=>by rw[hf]; exact h2 H2⟩
 ·rintro rfl;exact hcl.reads h
set_option maxHeartbeats 1000000 in
theorem a30 {cl:Callee} (hcl:dF P cl) {o:Oper} {v:PV} {H':Heap} {k:Nat} (h:opu P cl F H o=some (v,H',k)):aAO k H H' v (λH2=>opu P cl F H2 o):=by
 have one:∀ {x:PV} {f:Heap->Option (PV×Heap×Nat)},some (x,H,0)=some (v,H',k)->(∀ H2,f H2=some (x,H2,0))->aAO k H H' v f:=by
  intro x f h hf;simp only[oJ,oP]at h;obtain⟨rfl,rfl,rfl⟩:=h;exact⟨λ_=>⟨rfl,hf⟩,λ_=>rfl⟩
 unfold opu at h;split at h
 ·rename_i x ho; exact one h λH2=>by simp only[opu,ho]
 ·rename_i x ho; exact one h λH2=>by simp only[opu,ho]
 ·rename_i c x y ho;split at h
  ·rename_i t ht; exact one h λH2=>by simp only[opu,ho,ht]
  ·cases h
 ·rename_i op xt x y yt ho;split at h
  ·rename_i k1 i1 k2 i2 hx hy;cases hk:M6 k1 k2 with
   | false=>rw[hk]at h; exact .p0 h λH2=>by simp only[opu,ho,hx,hy,hk,oD]
   | true =>
    rw[hk]at h;simp only[oC]at h;split at h
    ·rename_i u hu; exact one h λH2=>by simp only[opu,ho,hx,hy,hk,oC,hu]
    ·rename_i hu; exact .p0 h λH2=>by simp only[opu,ho,hx,hy,hk,oC,hu]
  ·rename_i cs ds hx hy;split at h
   ·rename_i u hu; exact one h λH2=>by simp only[opu,ho,hx,hy,hu]
   ·rename_i hu; exact .p0 h λH2=>by simp only[opu,ho,hx,hy,hu]
  ·rename_i hno;refine .p0 h λH2=>?_
   simp only[opu,ho]
 ·rename_i t x ho;split at h
  ·rename_i u c hu;simp only[oJ,oP]at h;obtain⟨rfl,rfl,rfl⟩:=h;refine⟨?_,λ_=>rfl⟩;rintro rfl;refine⟨rfl,λH2=>?_⟩;have:WO P H2 t (ev F x)=some (u,0):=by
    cases hx:ev F x <;> rw[hx]at hu <;> simp only[WO]at hu ⊢ <;> try (cases hu; done)
    ·exact hu
    ·split at hu
     ·split at hu <;> cases hu
     ·cases hu
   simp only[opu,ho,this]
  ·cases h
 ·rename_i t x y ho;split at h
  ·simp only[oJ,oP]at h; exact .two h.2.2.symm
  ·cases h
 ·rename_i t x ho;split at h
  ·rename_i cs hcs;cases hro:aWI t cs with
   | true=>rw[hro,oC]at h; exact one h λH2=>by simp only[opu,ho,hcs,hro,oC]
   | false=>rw[hro,oD]at h; exact .two (CS h).2
  ·cases h
 ·rename_i t ho;split at h
  ·exact .two (CS h).2
  ·cases h
 ·rename_i s x f ho; exact .p0 h λH2=>by simp only[opu,ho]
 ·rename_i t x i ho;split at h
  ·rename_i k1 i1 hi; exact .p0 h λH2=>by simp only[opu,ho,hi]
  ·cases h
 ·rename_i x ho;split at h
  ·rename_i cs hx; exact one h λH2=>by simp only[opu,ho,hx]
  ·rename_i r off hx; exact one h λH2=>by simp only[opu,ho,hx]
  ·rename_i f p q hx; exact one h λH2=>by simp only[opu,ho,hx]
  ·rename_i n1 n2 n3;refine .p0 h λH2=>?_
   simp only[opu,ho]
 ·rename_i s x f ho;split at h
  ·rename_i cs hx;split at h
   ·rename_i fd hfd; exact .p0 h λH2=>by simp only[opu,ho,hx,hfd]
   ·cases h
  ·refine .p0 h λH2=>?_
   simp only[opu,ho]
 ·rename_i t x i ho;split at h
  ·rename_i cs k1 i1 n e hx hi hu;split at h
   ·rename_i sz hs;cases hc:aF i1 n with
    | false=>rw[hc]at h; cases h
    | true=>rw[hc]at h; exact .p0 h λH2=>by simp only[opu,ho,hx,hi,hu,hs,hc,oC]
   ·cases h
  ·refine .p0 h λH2=>?_
   simp only[opu,ho]
 ·rename_i x i ho;split at h
  ·rename_i vs hx; exact .p0 h λH2=>by simp only[opu,ho,hx]
  ·refine .p0 h λH2=>?_
   simp only[opu,ho]
 ·rename_i t parts ho; exact .p0 h λH2=>by simp only[opu,ho]
 ·rename_i t n parts ho;split at h
  ·rename_i v1 h1;exact one h λH2=>by simp only[opu,ho,h1]
  ·exact .two (CS h).2
 ·exact .two (CS h).2
 ·rename_i fn first caps ho; exact one h λH2=>by simp only[opu,ho]
 ·rename_i t x lo hi ho;split at h
  ·rename_i u hx; exact .p0 h λH2=>by simp only[opu,ho,hx]
  ·refine .p0 h λH2=>?_
   simp only[opu,ho]
 ·rename_i c ho;split at h
  ·rename_i hc;split at h
   ·rename_i u hx; exact .p0 h λH2=>by simp only[opu,ho,hc,hx]
   ·cases hsz:Nat.beq c.args.size 1 with
    | false=>rw[hsz]at h; cases h
    | true =>
     rw[hsz]at h;refine .p0 h λH2=>?_
     simp only[opu,ho,hc,hsz,oC]
  ·split at h
   ·exact .two (CS h).2
   ·cases h
  ·split at h
   ·exact .two (CS h).2
   ·cases h
  ·split at h
   ·exact .two (CS h).2
   ·cases h
  ·rename_i hc;refine .p0 h λH2=>?_
   simp only[opu,ho,hc]
  ·rename_i f hc;split at h
   ·rename_i g first caps hf; exact .callee hcl h λH2=>by simp only[opu,ho,hc,hf]
   ·rename_i g first caps hf; exact .callee hcl h λH2=>by simp only[opu,ho,hc,hf]
   ·cases h
  ·cases h
 ·refine .p0 h λH2=>?_
  simp only[opu]
end
section
variable {P:Program} {F F':Frm} {H:Heap}
theorem aDL:∀ {xs:List Operand},(∀ x∈xs,ev F' x=ev F x)->R6 F' xs=R6 F xs
 | [],_=>rfl
 | x::xs,h=>by
  simp only[R6,h x List.mem_cons_self];rw[aDL λy hy=>h y (List.mem_cons_of_mem _ hy)]
theorem aS2 {o:Oper}(h:∀ x∈o.op.operands,ev F' x=ev F x):sV P F' o=sV P F o:=by
 unfold sV;cases hs:PS o.op with
 | true=>rfl
 | false =>
  rw[aDL λx hx=>h x (Array.mem_toList_iff.1 hx)];rw[execOp_congr (ρ:=valOf F') (ρ':=valOf F) o (λcs b e=>by simp[PS,e]at hs) λx hx=>by simp only[valOf,h x hx]]
theorem SR {ps:List (Nat×Operand)}(h:∀ p∈ps,ev F' p.2=ev F p.2):(ps.map λp=>(p.1,ev F' p.2))=ps.map λp=>(p.1,ev F p.2) :=
 List.map_congr_left λp hp=>by rw[h p hp]
theorem aYA {cl:Callee}{o:Oper}(h:∀ x∈o.op.operands,ev F' x=ev F x):opu P cl F' H o=opu P cl F H o:=by
 have hp:=aS2 (P:=P) h;have hm:∀ {xs:List Operand},(∀ x∈xs,x∈o.op.operands)->xs.map (ev F')=xs.map (ev F):=λhx=>List.map_congr_left λx hm=>h x (hx x hm)
 unfold opu;rw[hp];cases hop:o.op
 case build t parts =>
  have:=SR (F:=F) (F':=F') (ps:=parts.toList) λp hpm=>h p.2 (by simp only[hop,Op.operands]; simp; exact⟨p.1,by simpa using hpm⟩)
  simp only[aPC,this]
 case buildSlice t n parts =>
  have:=SR (F:=F) (F':=F') (ps:=parts.toList) λp hpm=>h p.2 (by simp only[hop,Op.operands]; simp; exact⟨p.1,by simpa using hpm⟩)
  simp only[RA,NN,this]
 case makeFunc fn first caps =>
  have h1:=hm (xs:=first.toList) λx hx=>(by simp[hop,Op.operands]; exact .inl (by simpa using hx))
  have h2:=hm (xs:=caps.toList) λx hx=>(by simp[hop,Op.operands]; exact .inr (by simpa using hx))
  simp only[h1,h2]
 case slice t x lo hi mx =>
  have hx:=h x (by simp[hop,Op.operands]);have hlo:lo.map (ev F')=lo.map (ev F):=by
   cases lo with
   | none=>rfl
   | some y=>simp[h y (by simp[hop,Op.operands])]
  have hhi:hi.map (ev F')=hi.map (ev F):=by
   cases hi with
   | none=>rfl
   | some y=>simp[h y (by simp[hop,Op.operands])]
  cases mx <;> simp only[hx,hlo,hhi]
 case call c =>
  have hargs:=hm (xs:=c.args.toList) λx hx=>by simp[hop,Op.operands,Call.operands]; exact .inr (by simpa using hx)
  have h0:ev F' (c.args.getD 0 (.const undef))=ev F (c.args.getD 0 (.const undef)):=by
   by_cases h1:0<c.args.size
   ·refine h _ ?_;simp only[hop,Op.operands,Call.operands,Array.mem_append];right;simp[h1]
   ·have:c.args=#[]:=Array.eq_empty_of_size_eq_zero (by omega);rw[this]; rfl
  have h2:∀ s x,c.args.toList=[s,x]->ev F' s=ev F s/\ev F' x=ev F x:=λs x hc=>by
   have:=hargs;rw[hc]at this;simpa using this
  have hf:∀ f,c.callee=.value f->ev F' f=ev F f:=λf hc=>h f (by simp[hop,Op.operands,Call.operands,hc])
  simp only[hargs,h0];split
  ·rfl
  ·split
   ·rename_i s x hc;rw[(h2 s x hc).1,(h2 s x hc).2]
   ·rfl
  ·split
   ·rename_i s x hc;rw[(h2 s x hc).1,(h2 s x hc).2]
   ·rfl
  ·split
   ·rename_i s hc;have h1:ev F' s=ev F s:=by
     have:=hargs;rw[hc]at this;simpa using this
    rw[h1]
   ·rfl
  ·rfl
  ·rename_i f hc;rw[hf f hc]
  ·rfl
 all_goals
  first
  | rfl
  | (simp only[hop,Op.operands]at h
     simp at h;simp[h])
end
end Go.PM
