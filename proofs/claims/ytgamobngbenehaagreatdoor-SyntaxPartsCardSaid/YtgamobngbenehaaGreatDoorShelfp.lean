/-
  DERIVED: THE SHELF's CONTRACTS AT THIS DUMP, IN PLAIN WORDS (tools/lay-plain.mjs out of 'TryzShelf.lean', which tools/lay-shelf.mjs wrote): THE SAME DECLARATIONS UNDER THE SAME NAMES: 'import', 'namespace', 'open', 'def', 'theorem' AND NOTHING ELSE: no command of the shelf's: FOR A HAND-IN. Each laying: the table of numbers ('.._ren') and one theorem, a field a fact of the dump's own or the kernel's comparison; each contract: ONE APPLICATION.
-/
import Derived.Shelf.Strings.Builder1
import Derived.Shelf.Strings.Builder2
import Derived.Shelf.Strings.OnBuilder
import Derived.Shelf.Small.Bits
import Derived.Shelf.Strings.BuilderF
import Derived.Shelf.Strconv.Itoa0
import Derived.Shelf.Strconv.Itoa1
import Derived.Shelf.LaysM
import Derived.Shelf.Strconv.Itoa2
import Derived.Shelf.Strconv.Itoa3
import Derived.Shelf.Strings.Search1
import Derived.Shelf.Strings.Search2
import Derived.Shelf.Strings.Search3
import Derived.Shelf.Strings.Shaped
import Derived.Shelf.Sort.Plain
import Derived.Shelf.Strings.Prefix
import Derived.Shelf.Bits.Mul64
import Derived.Shelf.Strings.Repeat
import Derived.Shelf.Slices.CompactS
import Derived.Shelf.Slices.Cells
import Derived.Shelf.Slices.In.SortNone
import Derived.Test.YtgamobngbenehaaGreatDoorProg
namespace Go.Proofs
open Go.Shelf
set_option linter.unusedVariables false
set_option linter.unusedSimpArgs false
def Tryz.lays156_ren:Go.Shelf.Ren:=⟨fun|156=>52|165=>106|166=>37|169=>38|240=>91|241=>154|276=>141|277=>183|n=>n,fun|31=>47|9=>9|3=>3|4=>4|0=>0|20=>20|72=>87|76=>90|70=>85|37=>32|75=>89|127=>136|164=>164|5=>5|80=>92|n=>n,fun|n=>n⟩
theorem Tryz.lays156:Go.Proofs.Lays.n156 Tryz.prog Tryz.lays156_ren:={
 mixed:=by kernel_rfl
 f156:=Tryz.func52.trans (congrArg some (by kernel_rfl))
 f165:=Tryz.func106.trans (congrArg some (by kernel_rfl))
 f166:=Tryz.func37.trans (congrArg some (by kernel_rfl))
 f169:=Tryz.func38.trans (congrArg some (by kernel_rfl))
 f240:=Tryz.func91.trans (congrArg some (by kernel_rfl))
 f241:=Tryz.func154.trans (congrArg some (by kernel_rfl))
 f276:=Tryz.func141.trans (congrArg some (by kernel_rfl))
 f277:=Tryz.func183.trans (congrArg some (by kernel_rfl))
 t0:=Tryz.underlying0
 a0:=Tryz.isAgg0
 z0:=Tryz.sizeOf0
 v0:=Tryz.zeroValue0
 t3:=Tryz.underlying3
 a3:=Tryz.isAgg3
 z3:=Tryz.sizeOf3
 v3:=Tryz.zeroValue3
 t4:=Tryz.underlying4
 a4:=Tryz.isAgg4
 z4:=Tryz.sizeOf4
 v4:=Tryz.zeroValue4
 t9:=Tryz.underlying9
 a9:=Tryz.isAgg9
 z9:=Tryz.sizeOf9
 v9:=Tryz.zeroValue9
 t20:=Tryz.underlying20
 a20:=Tryz.isAgg20
 z20:=Tryz.sizeOf20
 v20:=Tryz.zeroValue20
 t31:=Tryz.underlying47
 a31:=Tryz.isAgg47
 z31:=Tryz.sizeOf47
 v31:=Tryz.zeroValue47
 t37:=Tryz.underlying32
 a37:=Tryz.isAgg32
 z37:=Tryz.sizeOf32
 v37:=Tryz.zeroValue32
 t70:=Tryz.underlying85
 a70:=Tryz.isAgg85
 z70:=Tryz.sizeOf85
 v70:=Tryz.zeroValue85
 t72:=Tryz.underlying87
 a72:=Tryz.isAgg87
 z72:=Tryz.sizeOf87
 v72:=Tryz.zeroValue87
 t75:=Tryz.underlying89
 a75:=Tryz.isAgg89
 z75:=Tryz.sizeOf89
 v75:=Tryz.zeroValue89
 t76:=Tryz.underlying90
 a76:=Tryz.isAgg90
 z76:=Tryz.sizeOf90
 v76:=Tryz.zeroValue90
 t127:=Tryz.underlying136
 a127:=Tryz.isAgg136
 z127:=Tryz.sizeOf136
 v127:=Tryz.zeroValue136
 t164:=Tryz.underlying164
 a164:=Tryz.isAgg164
 z164:=Tryz.sizeOf164
 v164:=Tryz.zeroValue164}
theorem Tryz.Builder_Extra_156:Builder.Extra Tryz.prog Tryz.lays156_ren:={
 sizeBuilder:=by kernel_rfl
 liesBuilder:=by kernel_rfl
 t5:=Tryz.underlying5
 a5:=Tryz.isAgg5
 z5:=Tryz.sizeOf5
 v5:=Tryz.zeroValue5
 infoByte:=by kernel_rfl
 cellsByte:=by kernel_rfl
 sizeByte:=by kernel_rfl
 neB5:=by decide}
open Go.RowKit in
theorem Tryz.strings_Join_none (a:Option Addr) (c:Nat) (sep:ByteArray) (w:World):
  Calls Tryz.prog 52 #[.slice a 0 c,.string sep] w fun e w'=>e= .returned (.string ⟨#[]⟩)∧w'=w:=Any.strings_Join_none Tryz.lays156 Tryz.Builder_Extra_156 a c sep w
open Go.RowKit in
theorem Tryz.strings_Join (bk o c:Nat) (xs:List ByteArray) (sep:ByteArray) (w:World) (hcells:∀(j:Nat) x,xs[j]?=some x→w.cell? ⟨bk,o+j,none⟩=some (.string x)) (hbk:bk<w.heap.size) (hN:xs.length≤140737488355328) (hcap:xs.length≤c) (hlen:(Lib.join (xs.map (·.data.toList)) sep.data.toList).length≤140737488355328):
  Calls Tryz.prog 52 #[.slice (some ⟨bk,o,none⟩) xs.length c,.string sep] w fun e w'=>e= .returned (.string ⟨(Lib.join (xs.map (·.data.toList)) sep.data.toList).toArray⟩)∧Below w.heap.size w w':=Any.strings_Join Tryz.lays156 Tryz.Builder_Extra_156 bk o c xs sep w hcells hbk hN hcap hlen
def Tryz.laysM246_ren:Go.Shelf.Ren:=⟨fun|246=>155|283=>184|284=>185|285=>186|286=>187|129=>227|317=>226|318=>228|319=>229|320=>230|337=>275|338=>276|n=>n,fun|2=>2|3=>3|9=>9|4=>4|171=>196|0=>0|53=>197|37=>32|5=>5|173=>200|212=>242|51=>202|20=>20|213=>243|46=>178|232=>268|233=>269|n=>n,fun|17=>1|18=>2|19=>3|n=>n⟩
def Tryz.laysM243_ren:Go.Shelf.Ren:=⟨fun|243=>107|246=>155|283=>184|284=>185|285=>186|286=>187|129=>227|317=>226|318=>228|319=>229|320=>230|337=>275|338=>276|n=>n,fun|3=>3|9=>9|2=>2|4=>4|171=>196|0=>0|53=>197|37=>32|5=>5|173=>200|212=>242|51=>202|20=>20|213=>243|46=>178|232=>268|233=>269|n=>n,fun|17=>1|18=>2|19=>3|n=>n⟩
def Tryz.laysM171_ren:Go.Shelf.Ren:=⟨fun|171=>53|243=>107|246=>155|283=>184|284=>185|285=>186|286=>187|129=>227|317=>226|318=>228|319=>229|320=>230|337=>275|338=>276|n=>n,fun|3=>3|9=>9|2=>2|4=>4|171=>196|0=>0|53=>197|37=>32|5=>5|173=>200|212=>242|51=>202|20=>20|213=>243|46=>178|232=>268|233=>269|n=>n,fun|17=>1|18=>2|19=>3|n=>n⟩
theorem Tryz.laysM171:Go.Proofs.LaysM.n171 Tryz.prog Tryz.laysM171_ren:={
 mixed:=by kernel_rfl
 f129:=Tryz.func227.trans (congrArg some (by kernel_rfl))
 f171:=Tryz.func53.trans (congrArg some (by kernel_rfl))
 f243:=Tryz.func107.trans (congrArg some (by kernel_rfl))
 f246:=Tryz.func155.trans (congrArg some (by kernel_rfl))
 f283:=Tryz.func184.trans (congrArg some (by kernel_rfl))
 f284:=Tryz.func185.trans (congrArg some (by kernel_rfl))
 f285:=Tryz.func186.trans (congrArg some (by kernel_rfl))
 f286:=Tryz.func187.trans (congrArg some (by kernel_rfl))
 f317:=Tryz.func226.trans (congrArg some (by kernel_rfl))
 f318:=Tryz.func228.trans (congrArg some (by kernel_rfl))
 f319:=Tryz.func229.trans (congrArg some (by kernel_rfl))
 f320:=Tryz.func230.trans (congrArg some (by kernel_rfl))
 f337:=Tryz.func275.trans (congrArg some (by kernel_rfl))
 f338:=Tryz.func276.trans (congrArg some (by kernel_rfl))
 t0:=Tryz.underlying0
 a0:=Tryz.isAgg0
 z0:=Tryz.sizeOf0
 v0:=Tryz.zeroValue0
 t2:=Tryz.underlying2
 a2:=Tryz.isAgg2
 z2:=Tryz.sizeOf2
 v2:=Tryz.zeroValue2
 t3:=Tryz.underlying3
 a3:=Tryz.isAgg3
 z3:=Tryz.sizeOf3
 v3:=Tryz.zeroValue3
 t4:=Tryz.underlying4
 a4:=Tryz.isAgg4
 z4:=Tryz.sizeOf4
 v4:=Tryz.zeroValue4
 t5:=Tryz.underlying5
 a5:=Tryz.isAgg5
 z5:=Tryz.sizeOf5
 v5:=Tryz.zeroValue5
 t9:=Tryz.underlying9
 a9:=Tryz.isAgg9
 z9:=Tryz.sizeOf9
 v9:=Tryz.zeroValue9
 t20:=Tryz.underlying20
 a20:=Tryz.isAgg20
 z20:=Tryz.sizeOf20
 v20:=Tryz.zeroValue20
 t37:=Tryz.underlying32
 a37:=Tryz.isAgg32
 z37:=Tryz.sizeOf32
 v37:=Tryz.zeroValue32
 t46:=Tryz.underlying178
 a46:=Tryz.isAgg178
 z46:=Tryz.sizeOf178
 v46:=Tryz.zeroValue178
 t51:=Tryz.underlying202
 a51:=Tryz.isAgg202
 z51:=Tryz.sizeOf202
 v51:=Tryz.zeroValue202
 t53:=Tryz.underlying197
 a53:=Tryz.isAgg197
 z53:=Tryz.sizeOf197
 v53:=Tryz.zeroValue197
 t171:=Tryz.underlying196
 a171:=Tryz.isAgg196
 z171:=Tryz.sizeOf196
 v171:=Tryz.zeroValue196
 t173:=Tryz.underlying200
 a173:=Tryz.isAgg200
 z173:=Tryz.sizeOf200
 v173:=Tryz.zeroValue200
 t212:=Tryz.underlying242
 a212:=Tryz.isAgg242
 z212:=Tryz.sizeOf242
 v212:=Tryz.zeroValue242
 t213:=Tryz.underlying243
 a213:=Tryz.isAgg243
 z213:=Tryz.sizeOf243
 t232:=Tryz.underlying268
 a232:=Tryz.isAgg268
 z232:=Tryz.sizeOf268
 v232:=Tryz.zeroValue268
 t233:=Tryz.underlying269
 a233:=Tryz.isAgg269
 z233:=Tryz.sizeOf269
 v233:=Tryz.zeroValue269
 g17:=by kernel_rfl
 g18:=by kernel_rfl
 g19:=by kernel_rfl
 i0:=by kernel_rfl
 i2:=by kernel_rfl
 i3:=by kernel_rfl
 i4:=by kernel_rfl
 i5:=by kernel_rfl
 i9:=by kernel_rfl
 i20:=by kernel_rfl
 i37:=by kernel_rfl
 i46:=by kernel_rfl
 i51:=by kernel_rfl
 i53:=by kernel_rfl
 i171:=by kernel_rfl
 i173:=by kernel_rfl
 i212:=by kernel_rfl
 i232:=by kernel_rfl
 i233:=by kernel_rfl
 m17:=by kernel_rfl
 m18:=by kernel_rfl
 m19:=by kernel_rfl}
open Go.RowKit Go.Sort Go.Lib in
theorem Tryz.strconv_Itoa (n:Int) (h0: -9223372036854775808≤n) (h1:n≤9223372036854775807) (w:World) (htab:Lib.TabIs Tryz.prog w "internal/strconv.uint64pow10" .u64 Lib.pow10Tab):
  Calls Tryz.prog 53 #[.int .i64 n] w fun e w'=>e= .returned (.string ⟨(Lib.itoa n).toArray⟩)∧∃k os,w'=grow (w.drewN k) os:=Any.strconv_Itoa Tryz.laysM171 n h0 h1 w htab
def Tryz.lays219_ren:Go.Shelf.Ren:=⟨fun|219=>174|217=>215|225=>216|224=>217|267=>218|266=>254|314=>255|n=>n,fun|9=>9|3=>3|4=>4|5=>5|46=>178|146=>203|51=>202|n=>n,fun|1=>0|n=>n⟩
def Tryz.lays144_ren:Go.Shelf.Ren:=⟨fun|144=>93|143=>143|219=>174|217=>215|225=>216|224=>217|267=>218|266=>254|314=>255|n=>n,fun|9=>9|4=>4|3=>3|5=>5|46=>178|146=>203|51=>202|n=>n,fun|1=>0|n=>n⟩
theorem Tryz.lays144:Go.Proofs.Lays.n144 Tryz.prog Tryz.lays144_ren:={
 mixed:=by kernel_rfl
 f143:=Tryz.func143.trans (congrArg some (by kernel_rfl))
 f144:=Tryz.func93.trans (congrArg some (by kernel_rfl))
 f217:=Tryz.func215.trans (congrArg some (by kernel_rfl))
 f219:=Tryz.func174.trans (congrArg some (by kernel_rfl))
 f224:=Tryz.func217.trans (congrArg some (by kernel_rfl))
 f225:=Tryz.func216.trans (congrArg some (by kernel_rfl))
 f266:=Tryz.func254.trans (congrArg some (by kernel_rfl))
 f267:=Tryz.func218.trans (congrArg some (by kernel_rfl))
 f314:=Tryz.func255.trans (congrArg some (by kernel_rfl))
 t3:=Tryz.underlying3
 a3:=Tryz.isAgg3
 z3:=Tryz.sizeOf3
 v3:=Tryz.zeroValue3
 t4:=Tryz.underlying4
 a4:=Tryz.isAgg4
 z4:=Tryz.sizeOf4
 v4:=Tryz.zeroValue4
 t5:=Tryz.underlying5
 a5:=Tryz.isAgg5
 z5:=Tryz.sizeOf5
 v5:=Tryz.zeroValue5
 t9:=Tryz.underlying9
 a9:=Tryz.isAgg9
 z9:=Tryz.sizeOf9
 v9:=Tryz.zeroValue9
 t46:=Tryz.underlying178
 a46:=Tryz.isAgg178
 z46:=Tryz.sizeOf178
 v46:=Tryz.zeroValue178
 t51:=Tryz.underlying202
 a51:=Tryz.isAgg202
 z51:=Tryz.sizeOf202
 v51:=Tryz.zeroValue202
 t146:=Tryz.underlying203
 a146:=Tryz.isAgg203
 z146:=Tryz.sizeOf203
 v146:=Tryz.zeroValue203
 g1:=by kernel_rfl}
open Go.RowKit Go.Lib in
theorem Tryz.strings_Contains (s sub:ByteArray) (m:Int) (w:World) (hs:s.size<4294967281) (hm:w.cell? ⟨0,0,none⟩=some (.int .i64 m)):
  Calls Tryz.prog 93 #[.string s,.string sub] w fun e w'=>e= .returned (.bool (Lib.contains s.data.toList sub.data.toList))∧w'=w:=Any.strings_Contains Tryz.lays144 s sub m w hs hm
def Tryz.lays190_ren:Go.Shelf.Ren:=⟨fun|190=>273|125=>286|258=>285|128=>302|129=>227|302=>293|303=>294|304=>295|305=>296|306=>297|307=>298|308=>299|309=>300|310=>301|333=>309|329=>310|330=>311|334=>312|335=>313|336=>314|344=>317|n=>n,fun|31=>47|9=>9|3=>3|46=>178|0=>0|51=>202|53=>197|4=>4|183=>283|182=>282|131=>287|5=>5|218=>291|222=>117|228=>297|229=>278|n=>n,fun|n=>n⟩
theorem Tryz.lays190:Go.Proofs.Lays.n190 Tryz.prog Tryz.lays190_ren:={
 mixed:=by kernel_rfl
 f125:=Tryz.func286.trans (congrArg some (by kernel_rfl))
 f128:=Tryz.func302.trans (congrArg some (by kernel_rfl))
 f129:=Tryz.func227.trans (congrArg some (by kernel_rfl))
 f190:=Tryz.func273.trans (congrArg some (by kernel_rfl))
 f258:=Tryz.func285.trans (congrArg some (by kernel_rfl))
 f302:=Tryz.func293.trans (congrArg some (by kernel_rfl))
 f303:=Tryz.func294.trans (congrArg some (by kernel_rfl))
 f304:=Tryz.func295.trans (congrArg some (by kernel_rfl))
 f305:=Tryz.func296.trans (congrArg some (by kernel_rfl))
 f306:=Tryz.func297.trans (congrArg some (by kernel_rfl))
 f307:=Tryz.func298.trans (congrArg some (by kernel_rfl))
 f308:=Tryz.func299.trans (congrArg some (by kernel_rfl))
 f309:=Tryz.func300.trans (congrArg some (by kernel_rfl))
 f310:=Tryz.func301.trans (congrArg some (by kernel_rfl))
 f329:=Tryz.func310.trans (congrArg some (by kernel_rfl))
 f330:=Tryz.func311.trans (congrArg some (by kernel_rfl))
 f333:=Tryz.func309.trans (congrArg some (by kernel_rfl))
 f334:=Tryz.func312.trans (congrArg some (by kernel_rfl))
 f335:=Tryz.func313.trans (congrArg some (by kernel_rfl))
 f336:=Tryz.func314.trans (congrArg some (by kernel_rfl))
 f344:=Tryz.func317.trans (congrArg some (by kernel_rfl))
 t0:=Tryz.underlying0
 a0:=Tryz.isAgg0
 z0:=Tryz.sizeOf0
 v0:=Tryz.zeroValue0
 t3:=Tryz.underlying3
 a3:=Tryz.isAgg3
 z3:=Tryz.sizeOf3
 v3:=Tryz.zeroValue3
 t4:=Tryz.underlying4
 a4:=Tryz.isAgg4
 z4:=Tryz.sizeOf4
 v4:=Tryz.zeroValue4
 t5:=Tryz.underlying5
 a5:=Tryz.isAgg5
 z5:=Tryz.sizeOf5
 v5:=Tryz.zeroValue5
 t9:=Tryz.underlying9
 a9:=Tryz.isAgg9
 z9:=Tryz.sizeOf9
 v9:=Tryz.zeroValue9
 t31:=Tryz.underlying47
 a31:=Tryz.isAgg47
 z31:=Tryz.sizeOf47
 v31:=Tryz.zeroValue47
 t46:=Tryz.underlying178
 a46:=Tryz.isAgg178
 z46:=Tryz.sizeOf178
 v46:=Tryz.zeroValue178
 t51:=Tryz.underlying202
 a51:=Tryz.isAgg202
 z51:=Tryz.sizeOf202
 v51:=Tryz.zeroValue202
 t53:=Tryz.underlying197
 a53:=Tryz.isAgg197
 z53:=Tryz.sizeOf197
 v53:=Tryz.zeroValue197
 t131:=Tryz.underlying287
 a131:=Tryz.isAgg287
 z131:=Tryz.sizeOf287
 v131:=Tryz.zeroValue287
 t182:=Tryz.underlying282
 a182:=Tryz.isAgg282
 z182:=Tryz.sizeOf282
 v182:=Tryz.zeroValue282
 t183:=Tryz.underlying283
 a183:=Tryz.isAgg283
 z183:=Tryz.sizeOf283
 v183:=Tryz.zeroValue283
 t218:=Tryz.underlying291
 a218:=Tryz.isAgg291
 z218:=Tryz.sizeOf291
 v218:=Tryz.zeroValue291
 t222:=Tryz.underlying117
 a222:=Tryz.isAgg117
 z222:=Tryz.sizeOf117
 v222:=Tryz.zeroValue117
 t228:=Tryz.underlying297
 a228:=Tryz.isAgg297
 z228:=Tryz.sizeOf297
 v228:=Tryz.zeroValue297
 t229:=Tryz.underlying278
 a229:=Tryz.isAgg278
 z229:=Tryz.sizeOf278
 v229:=Tryz.zeroValue278}
open Go.Sort Go.RowKit in
theorem Tryz.slices_Sort_string (blk off cap:Nat) (ss:List (List UInt8)) (w:World) (hH:Holds encStr w blk off ss.toArray) (hblk:blk<w.heap.size) (hsz:ss.length<4611686018427387904):
  Calls Tryz.prog 273 #[.slice (some ⟨blk,off,none⟩) ss.length cap] w fun e w'=>
   e= .returned (.tuple #[])∧∃n os,w'=grow (putRow encStr (Sort.ahead w n) blk off (ss.mergeSort fun x y=>decide (x≤y)).toArray) os:=Any.slices_Sort_string Tryz.lays190 blk off cap ss w hH hblk hsz
def Tryz.lays105_ren:Go.Shelf.Ren:=⟨fun|105=>108|212=>156|99=>92|165=>106|166=>37|170=>56|169=>38|263=>188|264=>189|206=>142|240=>91|241=>154|276=>141|277=>183|n=>n,fun|9=>9|3=>3|4=>4|20=>20|0=>0|46=>178|109=>179|5=>5|72=>87|76=>90|51=>202|146=>203|53=>197|148=>205|70=>85|37=>32|75=>89|127=>136|164=>164|80=>92|n=>n,fun|n=>n⟩
theorem Tryz.lays105:Go.Proofs.Lays.n105 Tryz.prog Tryz.lays105_ren:={
 mixed:=by kernel_rfl
 f99:=Tryz.func92.trans (congrArg some (by kernel_rfl))
 f105:=Tryz.func108.trans (congrArg some (by kernel_rfl))
 f165:=Tryz.func106.trans (congrArg some (by kernel_rfl))
 f166:=Tryz.func37.trans (congrArg some (by kernel_rfl))
 f169:=Tryz.func38.trans (congrArg some (by kernel_rfl))
 f170:=Tryz.func56.trans (congrArg some (by kernel_rfl))
 f206:=Tryz.func142.trans (congrArg some (by kernel_rfl))
 f212:=Tryz.func156.trans (congrArg some (by kernel_rfl))
 f240:=Tryz.func91.trans (congrArg some (by kernel_rfl))
 f241:=Tryz.func154.trans (congrArg some (by kernel_rfl))
 f263:=Tryz.func188.trans (congrArg some (by kernel_rfl))
 f264:=Tryz.func189.trans (congrArg some (by kernel_rfl))
 f276:=Tryz.func141.trans (congrArg some (by kernel_rfl))
 f277:=Tryz.func183.trans (congrArg some (by kernel_rfl))
 t0:=Tryz.underlying0
 a0:=Tryz.isAgg0
 z0:=Tryz.sizeOf0
 v0:=Tryz.zeroValue0
 t3:=Tryz.underlying3
 a3:=Tryz.isAgg3
 z3:=Tryz.sizeOf3
 v3:=Tryz.zeroValue3
 t4:=Tryz.underlying4
 a4:=Tryz.isAgg4
 z4:=Tryz.sizeOf4
 v4:=Tryz.zeroValue4
 t5:=Tryz.underlying5
 a5:=Tryz.isAgg5
 z5:=Tryz.sizeOf5
 v5:=Tryz.zeroValue5
 t9:=Tryz.underlying9
 a9:=Tryz.isAgg9
 z9:=Tryz.sizeOf9
 v9:=Tryz.zeroValue9
 t20:=Tryz.underlying20
 a20:=Tryz.isAgg20
 z20:=Tryz.sizeOf20
 v20:=Tryz.zeroValue20
 t37:=Tryz.underlying32
 a37:=Tryz.isAgg32
 z37:=Tryz.sizeOf32
 v37:=Tryz.zeroValue32
 t46:=Tryz.underlying178
 a46:=Tryz.isAgg178
 z46:=Tryz.sizeOf178
 v46:=Tryz.zeroValue178
 t51:=Tryz.underlying202
 a51:=Tryz.isAgg202
 z51:=Tryz.sizeOf202
 v51:=Tryz.zeroValue202
 t53:=Tryz.underlying197
 a53:=Tryz.isAgg197
 z53:=Tryz.sizeOf197
 v53:=Tryz.zeroValue197
 t70:=Tryz.underlying85
 a70:=Tryz.isAgg85
 z70:=Tryz.sizeOf85
 v70:=Tryz.zeroValue85
 t72:=Tryz.underlying87
 a72:=Tryz.isAgg87
 z72:=Tryz.sizeOf87
 v72:=Tryz.zeroValue87
 t75:=Tryz.underlying89
 a75:=Tryz.isAgg89
 z75:=Tryz.sizeOf89
 v75:=Tryz.zeroValue89
 t76:=Tryz.underlying90
 a76:=Tryz.isAgg90
 z76:=Tryz.sizeOf90
 v76:=Tryz.zeroValue90
 t109:=Tryz.underlying179
 a109:=Tryz.isAgg179
 z109:=Tryz.sizeOf179
 v109:=Tryz.zeroValue179
 t127:=Tryz.underlying136
 a127:=Tryz.isAgg136
 z127:=Tryz.sizeOf136
 v127:=Tryz.zeroValue136
 t146:=Tryz.underlying203
 a146:=Tryz.isAgg203
 z146:=Tryz.sizeOf203
 v146:=Tryz.zeroValue203
 t148:=Tryz.underlying205
 a148:=Tryz.isAgg205
 z148:=Tryz.sizeOf205
 v148:=Tryz.zeroValue205
 t164:=Tryz.underlying164
 a164:=Tryz.isAgg164
 z164:=Tryz.sizeOf164
 v164:=Tryz.zeroValue164}
theorem Tryz.Builder_Extra_105:Builder.Extra Tryz.prog Tryz.lays105_ren:={
 sizeBuilder:=by kernel_rfl
 liesBuilder:=by kernel_rfl
 t5:=Tryz.underlying5
 a5:=Tryz.isAgg5
 z5:=Tryz.sizeOf5
 v5:=Tryz.zeroValue5
 infoByte:=by kernel_rfl
 cellsByte:=by kernel_rfl
 sizeByte:=by kernel_rfl
 neB5:=by decide}
open Go.RowKit Go.Lib in
theorem Tryz.strings_Repeat (s:ByteArray) (c:Nat) (w:World) (hc:c≤9223372036854775807) (hlen:s.size* c≤140737488355328):
  Calls Tryz.prog 108 #[.string s,.int .i64 c] w fun e w'=>e= .returned (.string ⟨(Lib.repeatL s.data.toList c).toArray⟩)∧Below w.heap.size w w':=Any.strings_Repeat Tryz.lays105 Tryz.Builder_Extra_105 s c w hc hlen
def Tryz.lays194_ren:Go.Shelf.Ren:=⟨fun|194=>274|n=>n,fun|31=>47|9=>9|3=>3|4=>4|0=>0|n=>n,fun|n=>n⟩
theorem Tryz.lays194:Go.Proofs.Lays.n194 Tryz.prog Tryz.lays194_ren:={
 mixed:=by kernel_rfl
 f194:=Tryz.func274.trans (congrArg some (by kernel_rfl))
 t0:=Tryz.underlying0
 a0:=Tryz.isAgg0
 z0:=Tryz.sizeOf0
 v0:=Tryz.zeroValue0
 t3:=Tryz.underlying3
 a3:=Tryz.isAgg3
 z3:=Tryz.sizeOf3
 v3:=Tryz.zeroValue3
 t4:=Tryz.underlying4
 a4:=Tryz.isAgg4
 z4:=Tryz.sizeOf4
 v4:=Tryz.zeroValue4
 t9:=Tryz.underlying9
 a9:=Tryz.isAgg9
 z9:=Tryz.sizeOf9
 v9:=Tryz.zeroValue9
 t31:=Tryz.underlying47
 a31:=Tryz.isAgg47
 z31:=Tryz.sizeOf47
 v31:=Tryz.zeroValue47}
open Go.RowKit Go.Lib Go.Sort in
theorem Tryz.slices_Compact_string (blk off cap:Nat) (zs:List (List UInt8)) (w:World) (hH:Holds encStr w blk off zs.toArray) (hsz:zs.length≤9223372036854775807) (hcap:zs.length≤cap):
  Calls Tryz.prog 274 #[.slice (some ⟨blk,off,none⟩) zs.length cap] w fun e w'=>e= .returned (.slice (some ⟨blk,off,none⟩) (Lib.compact zs).length cap)∧∃q,w'=putRow encStr (Sort.ahead w q) blk off (Lib.compact zs++List.replicate (zs.length - (Lib.compact zs).length) []).toArray:=Any.slices_Compact_string Tryz.lays194 blk off cap zs w hH hsz hcap
open Go.RowKit Go.Lib Go.Sort in
theorem Tryz.slices_Compact_string_empty (a:Option Addr) (cap:Nat) (w:World):
  Calls Tryz.prog 274 #[.slice a 0 cap] w fun e w'=>e= .returned (.slice a 0 cap)∧w'=w:=Any.slices_Compact_string_empty Tryz.lays194 a cap w
open Go.RowKit Go.Sort in
theorem Tryz.slices_Sort_string_none (p:Option Addr) (cap:Nat) (w:World):
  Calls Tryz.prog 273 #[.slice p 0 cap] w fun e w'=>e= .returned (.tuple #[])∧w'=w:=Any.slices_Sort_string_none Tryz.lays190 p cap w
end Go.Proofs
