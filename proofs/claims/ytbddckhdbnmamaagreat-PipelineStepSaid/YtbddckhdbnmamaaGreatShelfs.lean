/-
  DERIVED: THE SHELF's CONTRACTS AT THIS DUMP, IN PLAIN WORDS (tools/lay-plain.mjs out of 'TryzShelf.lean', which tools/lay-shelf.mjs wrote): THE SAME DECLARATIONS UNDER THE SAME NAMES: 'import', 'namespace', 'open', 'def', 'theorem' AND NOTHING ELSE: no command of the shelf's: FOR A HAND-IN. Each laying: the table of numbers ('.._ren') and one theorem, a field a fact of the dump's own or the kernel's comparison; each contract: ONE APPLICATION. DERIVED: THE SHELF's CONTRACTS AT THIS DUMP, IN PLAIN WORDS (tools/lay-plain.mjs out of 'TryzShelfE.lean', which tools/lay-shelf.mjs wrote): THE SAME DECLARATIONS UNDER THE SAME NAMES: 'import', 'namespace', 'open', 'def', 'theorem' AND NOTHING ELSE: no command of the shelf's: FOR A HAND-IN. Each laying: the table of numbers ('.._ren') and one theorem, a field a fact of the dump's own or the kernel's comparison; each contract: ONE APPLICATION.
-/
import Derived.Shelf.Small.Bits
import Derived.Shelf.Small.Wraps
import Derived.Shelf.Strconv.Itoa0
import Derived.Shelf.Sort.Plain
import Derived.Shelf.Slices.CompactS
import Derived.Shelf.Slices.In.SortNone
import Derived.Test.YtbddckhdbnmamaaGreatProg
import Derived.Shelf.SlSortCmp.NoneTotal
import Derived.Ground.SlsfProg
section
namespace Go.Proofs
open Go.Shelf
set_option linter.unusedVariables false
set_option linter.unusedSimpArgs false
def Tryz.lays122_ren:Go.Shelf.Ren:=⟨fun|122=>109|215=>154|n=>n,fun|3=>3|4=>4|n=>n,fun|n=>n⟩
theorem Tryz.lays122:Go.Proofs.Lays.n122 Tryz.prog Tryz.lays122_ren:={
 mixed:=by kernel_rfl
 f122:=Tryz.func109.trans (congrArg some (by kernel_rfl))
 f215:=Tryz.func154.trans (congrArg some (by kernel_rfl))
 t3:=Tryz.underlying3
 a3:=Tryz.isAgg3
 z3:=Tryz.sizeOf3
 v3:=Tryz.zeroValue3
 t4:=Tryz.underlying4
 a4:=Tryz.isAgg4
 z4:=Tryz.sizeOf4
 v4:=Tryz.zeroValue4}
open Go.RowKit in
theorem Tryz.cmp_Compare_int (x y:Int) (w:World):
  Calls Tryz.prog 109 #[.int .i64 x,.int .i64 y] w fun e w'=>e= .returned (.int .i64 (Lib.compareInt x y))∧w'=w:=Any.cmp_Compare_int Tryz.lays122 x y w
def Tryz.lays189_ren:Go.Shelf.Ren:=⟨fun|189=>228|125=>153|257=>238|128=>188|129=>189|294=>270|295=>271|296=>272|297=>273|298=>274|299=>275|216=>276|300=>277|301=>278|328=>286|329=>223|330=>224|331=>287|332=>288|215=>154|343=>290|n=>n,fun|28=>34|3=>3|46=>167|0=>0|51=>199|53=>201|4=>4|183=>192|182=>191|131=>196|5=>5|9=>9|218=>216|222=>204|228=>231|229=>184|n=>n,fun|n=>n⟩
theorem Tryz.lays189:Go.Proofs.Lays.n189 Tryz.prog Tryz.lays189_ren:={
 mixed:=by kernel_rfl
 f125:=Tryz.func153.trans (congrArg some (by kernel_rfl))
 f128:=Tryz.func188.trans (congrArg some (by kernel_rfl))
 f129:=Tryz.func189.trans (congrArg some (by kernel_rfl))
 f189:=Tryz.func228.trans (congrArg some (by kernel_rfl))
 f215:=Tryz.func154.trans (congrArg some (by kernel_rfl))
 f216:=Tryz.func276.trans (congrArg some (by kernel_rfl))
 f257:=Tryz.func238.trans (congrArg some (by kernel_rfl))
 f294:=Tryz.func270.trans (congrArg some (by kernel_rfl))
 f295:=Tryz.func271.trans (congrArg some (by kernel_rfl))
 f296:=Tryz.func272.trans (congrArg some (by kernel_rfl))
 f297:=Tryz.func273.trans (congrArg some (by kernel_rfl))
 f298:=Tryz.func274.trans (congrArg some (by kernel_rfl))
 f299:=Tryz.func275.trans (congrArg some (by kernel_rfl))
 f300:=Tryz.func277.trans (congrArg some (by kernel_rfl))
 f301:=Tryz.func278.trans (congrArg some (by kernel_rfl))
 f328:=Tryz.func286.trans (congrArg some (by kernel_rfl))
 f329:=Tryz.func223.trans (congrArg some (by kernel_rfl))
 f330:=Tryz.func224.trans (congrArg some (by kernel_rfl))
 f331:=Tryz.func287.trans (congrArg some (by kernel_rfl))
 f332:=Tryz.func288.trans (congrArg some (by kernel_rfl))
 f343:=Tryz.func290.trans (congrArg some (by kernel_rfl))
 t0:=Tryz.underlying0
 a0:=Tryz.isAgg0
 z0:=Tryz.sizeOf0
 v0:=Tryz.zeroValue0
 t3:=Tryz.underlying3
 a3:=Tryz.isAgg3
 z3:=Tryz.sizeOf3
 v3:=Tryz.zeroValue3
 t4:=Tryz.underlying4
 a4:=Tryz.isAgg4
 z4:=Tryz.sizeOf4
 v4:=Tryz.zeroValue4
 t5:=Tryz.underlying5
 a5:=Tryz.isAgg5
 z5:=Tryz.sizeOf5
 v5:=Tryz.zeroValue5
 t9:=Tryz.underlying9
 a9:=Tryz.isAgg9
 z9:=Tryz.sizeOf9
 v9:=Tryz.zeroValue9
 t28:=Tryz.underlying34
 a28:=Tryz.isAgg34
 z28:=Tryz.sizeOf34
 v28:=Tryz.zeroValue34
 t46:=Tryz.underlying167
 a46:=Tryz.isAgg167
 z46:=Tryz.sizeOf167
 v46:=Tryz.zeroValue167
 t51:=Tryz.underlying199
 a51:=Tryz.isAgg199
 z51:=Tryz.sizeOf199
 v51:=Tryz.zeroValue199
 t53:=Tryz.underlying201
 a53:=Tryz.isAgg201
 z53:=Tryz.sizeOf201
 v53:=Tryz.zeroValue201
 t131:=Tryz.underlying196
 a131:=Tryz.isAgg196
 z131:=Tryz.sizeOf196
 v131:=Tryz.zeroValue196
 t182:=Tryz.underlying191
 a182:=Tryz.isAgg191
 z182:=Tryz.sizeOf191
 v182:=Tryz.zeroValue191
 t183:=Tryz.underlying192
 a183:=Tryz.isAgg192
 z183:=Tryz.sizeOf192
 v183:=Tryz.zeroValue192
 t218:=Tryz.underlying216
 a218:=Tryz.isAgg216
 z218:=Tryz.sizeOf216
 v218:=Tryz.zeroValue216
 t222:=Tryz.underlying204
 a222:=Tryz.isAgg204
 z222:=Tryz.sizeOf204
 v222:=Tryz.zeroValue204
 t228:=Tryz.underlying231
 a228:=Tryz.isAgg231
 z228:=Tryz.sizeOf231
 v228:=Tryz.zeroValue231
 t229:=Tryz.underlying184
 a229:=Tryz.isAgg184
 z229:=Tryz.sizeOf184
 v229:=Tryz.zeroValue184}
open Go.Sort Go.RowKit in
theorem Tryz.slices_Sort_int (blk off cap:Nat) (zs:List Int) (w:World) (hH:Holds (Value.int .i64) w blk off zs.toArray) (hblk:blk<w.heap.size) (hsz:zs.length<4611686018427387904):
  Calls Tryz.prog 228 #[.slice (some ⟨blk,off,none⟩) zs.length cap] w fun e w'=>
   e= .returned (.tuple #[])∧∃n os,w'=grow (putRow (Value.int .i64) (Sort.ahead w n) blk off (zs.mergeSort fun x y=>decide (x≤y)).toArray) os:=Any.slices_Sort_int Tryz.lays189 blk off cap zs w hH hblk hsz
def Tryz.lays190_ren:Go.Shelf.Ren:=⟨fun|190=>212|125=>153|258=>234|128=>188|129=>189|302=>257|303=>258|304=>259|305=>260|306=>261|307=>262|308=>263|309=>264|310=>265|333=>282|329=>223|330=>224|334=>283|335=>284|336=>285|344=>289|n=>n,fun|31=>130|9=>9|3=>3|46=>167|0=>0|51=>199|53=>201|4=>4|183=>192|182=>191|131=>196|5=>5|218=>216|222=>204|228=>231|229=>184|n=>n,fun|n=>n⟩
theorem Tryz.lays190:Go.Proofs.Lays.n190 Tryz.prog Tryz.lays190_ren:={
 mixed:=by kernel_rfl
 f125:=Tryz.func153.trans (congrArg some (by kernel_rfl))
 f128:=Tryz.func188.trans (congrArg some (by kernel_rfl))
 f129:=Tryz.func189.trans (congrArg some (by kernel_rfl))
 f190:=Tryz.func212.trans (congrArg some (by kernel_rfl))
 f258:=Tryz.func234.trans (congrArg some (by kernel_rfl))
 f302:=Tryz.func257.trans (congrArg some (by kernel_rfl))
 f303:=Tryz.func258.trans (congrArg some (by kernel_rfl))
 f304:=Tryz.func259.trans (congrArg some (by kernel_rfl))
 f305:=Tryz.func260.trans (congrArg some (by kernel_rfl))
 f306:=Tryz.func261.trans (congrArg some (by kernel_rfl))
 f307:=Tryz.func262.trans (congrArg some (by kernel_rfl))
 f308:=Tryz.func263.trans (congrArg some (by kernel_rfl))
 f309:=Tryz.func264.trans (congrArg some (by kernel_rfl))
 f310:=Tryz.func265.trans (congrArg some (by kernel_rfl))
 f329:=Tryz.func223.trans (congrArg some (by kernel_rfl))
 f330:=Tryz.func224.trans (congrArg some (by kernel_rfl))
 f333:=Tryz.func282.trans (congrArg some (by kernel_rfl))
 f334:=Tryz.func283.trans (congrArg some (by kernel_rfl))
 f335:=Tryz.func284.trans (congrArg some (by kernel_rfl))
 f336:=Tryz.func285.trans (congrArg some (by kernel_rfl))
 f344:=Tryz.func289.trans (congrArg some (by kernel_rfl))
 t0:=Tryz.underlying0
 a0:=Tryz.isAgg0
 z0:=Tryz.sizeOf0
 v0:=Tryz.zeroValue0
 t3:=Tryz.underlying3
 a3:=Tryz.isAgg3
 z3:=Tryz.sizeOf3
 v3:=Tryz.zeroValue3
 t4:=Tryz.underlying4
 a4:=Tryz.isAgg4
 z4:=Tryz.sizeOf4
 v4:=Tryz.zeroValue4
 t5:=Tryz.underlying5
 a5:=Tryz.isAgg5
 z5:=Tryz.sizeOf5
 v5:=Tryz.zeroValue5
 t9:=Tryz.underlying9
 a9:=Tryz.isAgg9
 z9:=Tryz.sizeOf9
 v9:=Tryz.zeroValue9
 t31:=Tryz.underlying130
 a31:=Tryz.isAgg130
 z31:=Tryz.sizeOf130
 v31:=Tryz.zeroValue130
 t46:=Tryz.underlying167
 a46:=Tryz.isAgg167
 z46:=Tryz.sizeOf167
 v46:=Tryz.zeroValue167
 t51:=Tryz.underlying199
 a51:=Tryz.isAgg199
 z51:=Tryz.sizeOf199
 v51:=Tryz.zeroValue199
 t53:=Tryz.underlying201
 a53:=Tryz.isAgg201
 z53:=Tryz.sizeOf201
 v53:=Tryz.zeroValue201
 t131:=Tryz.underlying196
 a131:=Tryz.isAgg196
 z131:=Tryz.sizeOf196
 v131:=Tryz.zeroValue196
 t182:=Tryz.underlying191
 a182:=Tryz.isAgg191
 z182:=Tryz.sizeOf191
 v182:=Tryz.zeroValue191
 t183:=Tryz.underlying192
 a183:=Tryz.isAgg192
 z183:=Tryz.sizeOf192
 v183:=Tryz.zeroValue192
 t218:=Tryz.underlying216
 a218:=Tryz.isAgg216
 z218:=Tryz.sizeOf216
 v218:=Tryz.zeroValue216
 t222:=Tryz.underlying204
 a222:=Tryz.isAgg204
 z222:=Tryz.sizeOf204
 v222:=Tryz.zeroValue204
 t228:=Tryz.underlying231
 a228:=Tryz.isAgg231
 z228:=Tryz.sizeOf231
 v228:=Tryz.zeroValue231
 t229:=Tryz.underlying184
 a229:=Tryz.isAgg184
 z229:=Tryz.sizeOf184
 v229:=Tryz.zeroValue184}
open Go.Sort Go.RowKit in
theorem Tryz.slices_Sort_string (blk off cap:Nat) (ss:List (List UInt8)) (w:World) (hH:Holds encStr w blk off ss.toArray) (hblk:blk<w.heap.size) (hsz:ss.length<4611686018427387904):
  Calls Tryz.prog 212 #[.slice (some ⟨blk,off,none⟩) ss.length cap] w fun e w'=>
   e= .returned (.tuple #[])∧∃n os,w'=grow (putRow encStr (Sort.ahead w n) blk off (ss.mergeSort fun x y=>decide (x≤y)).toArray) os:=Any.slices_Sort_string Tryz.lays190 blk off cap ss w hH hblk hsz
def Tryz.lays194_ren:Go.Shelf.Ren:=⟨fun|194=>213|n=>n,fun|31=>130|9=>9|3=>3|4=>4|0=>0|n=>n,fun|n=>n⟩
theorem Tryz.lays194:Go.Proofs.Lays.n194 Tryz.prog Tryz.lays194_ren:={
 mixed:=by kernel_rfl
 f194:=Tryz.func213.trans (congrArg some (by kernel_rfl))
 t0:=Tryz.underlying0
 a0:=Tryz.isAgg0
 z0:=Tryz.sizeOf0
 v0:=Tryz.zeroValue0
 t3:=Tryz.underlying3
 a3:=Tryz.isAgg3
 z3:=Tryz.sizeOf3
 v3:=Tryz.zeroValue3
 t4:=Tryz.underlying4
 a4:=Tryz.isAgg4
 z4:=Tryz.sizeOf4
 v4:=Tryz.zeroValue4
 t9:=Tryz.underlying9
 a9:=Tryz.isAgg9
 z9:=Tryz.sizeOf9
 v9:=Tryz.zeroValue9
 t31:=Tryz.underlying130
 a31:=Tryz.isAgg130
 z31:=Tryz.sizeOf130
 v31:=Tryz.zeroValue130}
open Go.RowKit Go.Lib Go.Sort in
theorem Tryz.slices_Compact_string (blk off cap:Nat) (zs:List (List UInt8)) (w:World) (hH:Holds encStr w blk off zs.toArray) (hsz:zs.length≤9223372036854775807) (hcap:zs.length≤cap):
  Calls Tryz.prog 213 #[.slice (some ⟨blk,off,none⟩) zs.length cap] w fun e w'=>e= .returned (.slice (some ⟨blk,off,none⟩) (Lib.compact zs).length cap)∧∃q,w'=putRow encStr (Sort.ahead w q) blk off (Lib.compact zs++List.replicate (zs.length - (Lib.compact zs).length) []).toArray:=Any.slices_Compact_string Tryz.lays194 blk off cap zs w hH hsz hcap
open Go.RowKit Go.Lib Go.Sort in
theorem Tryz.slices_Compact_string_empty (a:Option Addr) (cap:Nat) (w:World):
  Calls Tryz.prog 213 #[.slice a 0 cap] w fun e w'=>e= .returned (.slice a 0 cap)∧w'=w:=Any.slices_Compact_string_empty Tryz.lays194 a cap w
open Go.RowKit Go.Sort in
theorem Tryz.slices_Sort_string_none (p:Option Addr) (cap:Nat) (w:World):
  Calls Tryz.prog 212 #[.slice p 0 cap] w fun e w'=>e= .returned (.tuple #[])∧w'=w:=Any.slices_Sort_string_none Tryz.lays190 p cap w
open Go.RowKit Go.Sort in
theorem Tryz.slices_Sort_int_none (p:Option Addr) (cap:Nat) (w:World):
  Calls Tryz.prog 228 #[.slice p 0 cap] w fun e w'=>e= .returned (.tuple #[])∧w'=w:=Any.slices_Sort_int_none Tryz.lays189 p cap w
end Go.Proofs
end
section
namespace Go.Proofs
open Go.Shelf
set_option linter.unusedVariables false
set_option linter.unusedSimpArgs false
def Tryz.layEdges_ren:Go.Shelf.Ren:=⟨fun|6=>106|15=>153|14=>152|28=>188|29=>189|20=>180|21=>181|22=>182|23=>183|24=>184|25=>185|26=>186|27=>187|46=>222|47=>223|48=>224|49=>225|50=>226|57=>237|n=>n,fun|22=>107|24=>109|25=>128|3=>3|39=>167|0=>0|53=>199|55=>201|4=>4|46=>192|45=>191|50=>196|5=>5|9=>9|66=>216|70=>204|76=>231|77=>184|n=>n,fun|n=>n⟩
theorem Tryz.layEdges:Go.Proofs.SlLaysF0.n6 Tryz.prog Tryz.layEdges_ren:={
 mixed:=by kernel_rfl
 f6:=⟨Tryz.f106.name,by decide,Tryz.func106.trans (congrArg some (by kernel_rfl))⟩
 f14:=⟨Tryz.f152.name,by decide,Tryz.func152.trans (congrArg some (by kernel_rfl))⟩
 f15:=Tryz.func153.trans (congrArg some (by kernel_rfl))
 f20:=⟨Tryz.f180.name,by decide,Tryz.func180.trans (congrArg some (by kernel_rfl))⟩
 f21:=⟨Tryz.f181.name,by decide,Tryz.func181.trans (congrArg some (by kernel_rfl))⟩
 f22:=⟨Tryz.f182.name,by decide,Tryz.func182.trans (congrArg some (by kernel_rfl))⟩
 f23:=⟨Tryz.f183.name,by decide,Tryz.func183.trans (congrArg some (by kernel_rfl))⟩
 f24:=⟨Tryz.f184.name,by decide,Tryz.func184.trans (congrArg some (by kernel_rfl))⟩
 f25:=⟨Tryz.f185.name,by decide,Tryz.func185.trans (congrArg some (by kernel_rfl))⟩
 f26:=⟨Tryz.f186.name,by decide,Tryz.func186.trans (congrArg some (by kernel_rfl))⟩
 f27:=⟨Tryz.f187.name,by decide,Tryz.func187.trans (congrArg some (by kernel_rfl))⟩
 f28:=Tryz.func188.trans (congrArg some (by kernel_rfl))
 f29:=Tryz.func189.trans (congrArg some (by kernel_rfl))
 f46:=⟨Tryz.f222.name,by decide,Tryz.func222.trans (congrArg some (by kernel_rfl))⟩
 f47:=Tryz.func223.trans (congrArg some (by kernel_rfl))
 f48:=Tryz.func224.trans (congrArg some (by kernel_rfl))
 f49:=⟨Tryz.f225.name,by decide,Tryz.func225.trans (congrArg some (by kernel_rfl))⟩
 f50:=⟨Tryz.f226.name,by decide,Tryz.func226.trans (congrArg some (by kernel_rfl))⟩
 f57:=⟨Tryz.f237.name,by decide,Tryz.func237.trans (congrArg some (by kernel_rfl))⟩
 t0:=Tryz.underlying0
 a0:=Tryz.isAgg0
 z0:=Tryz.sizeOf0
 v0:=Tryz.zeroValue0
 t3:=Tryz.underlying3
 a3:=Tryz.isAgg3
 z3:=Tryz.sizeOf3
 v3:=Tryz.zeroValue3
 t4:=Tryz.underlying4
 a4:=Tryz.isAgg4
 z4:=Tryz.sizeOf4
 v4:=Tryz.zeroValue4
 t5:=Tryz.underlying5
 a5:=Tryz.isAgg5
 z5:=Tryz.sizeOf5
 v5:=Tryz.zeroValue5
 t9:=Tryz.underlying9
 a9:=Tryz.isAgg9
 z9:=Tryz.sizeOf9
 v9:=Tryz.zeroValue9
 t22:=Tryz.underlying107
 a22:=Tryz.isAgg107
 z22:=Tryz.sizeOf107
 v22:=Tryz.zeroValue107
 t25:=Tryz.underlying128
 a25:=Tryz.isAgg128
 z25:=Tryz.sizeOf128
 v25:=Tryz.zeroValue128
 t39:=Tryz.underlying167
 a39:=Tryz.isAgg167
 z39:=Tryz.sizeOf167
 v39:=Tryz.zeroValue167
 t45:=Tryz.underlying191
 a45:=Tryz.isAgg191
 z45:=Tryz.sizeOf191
 v45:=Tryz.zeroValue191
 t46:=Tryz.underlying192
 a46:=Tryz.isAgg192
 z46:=Tryz.sizeOf192
 v46:=Tryz.zeroValue192
 t50:=Tryz.underlying196
 a50:=Tryz.isAgg196
 z50:=Tryz.sizeOf196
 v50:=Tryz.zeroValue196
 t53:=Tryz.underlying199
 a53:=Tryz.isAgg199
 z53:=Tryz.sizeOf199
 v53:=Tryz.zeroValue199
 t55:=Tryz.underlying201
 a55:=Tryz.isAgg201
 z55:=Tryz.sizeOf201
 v55:=Tryz.zeroValue201
 t66:=Tryz.underlying216
 a66:=Tryz.isAgg216
 z66:=Tryz.sizeOf216
 v66:=Tryz.zeroValue216
 t70:=Tryz.underlying204
 a70:=Tryz.isAgg204
 z70:=Tryz.sizeOf204
 v70:=Tryz.zeroValue204
 t76:=Tryz.underlying231
 a76:=Tryz.isAgg231
 z76:=Tryz.sizeOf231
 v76:=Tryz.zeroValue231
 t77:=Tryz.underlying184
 a77:=Tryz.isAgg184
 z77:=Tryz.sizeOf184
 v77:=Tryz.zeroValue184}
end Go.Proofs
end
