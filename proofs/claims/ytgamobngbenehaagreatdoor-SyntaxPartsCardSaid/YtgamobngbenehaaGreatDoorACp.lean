/-
  The example (conditions: none), printed by a program of mine, in steps: tokens, expressions, the source, its text.
-/
import Derived.Test.YtgamobngbenehaaGreatDoorAWp
namespace Go.Proofs.YtgamobngbenehaaGreatDoor
open Go Go.RowKit
set_option linter.unusedVariables false
set_option linter.unusedSimpArgs false
set_option maxRecDepth 100000
def zm2:List UInt8:=[118,97,114,32,120,61,48,59,32,116,97,115,107,32,109,97,105,110,40,41,123,108,111,99,107,32,109,59,120,61,120,43,49,59,105,102,32,120,62,50,123,101,109,105,116,32,120,59,125,101,108,115,101,123,125,125]
def zdx:List AV:=[.agg [.int .i64 1,.str [118,97,114],.int .i64 0,.int .i64 0],.agg [.int .i64 1,.str [120],.int .i64 0,.int .i64 4],.agg [.int .i64 3,.str [61],.int .i64 0,.int .i64 5],.agg [.int .i64 2,.str [48],.int .i64 0,.int .i64 6],.agg [.int .i64 3,.str [59],.int .i64 0,.int .i64 7],.agg [.int .i64 1,.str [116,97,115,107],.int .i64 0,.int .i64 9],.agg [.int .i64 1,.str [109,97,105,110],.int .i64 0,.int .i64 14],.agg [.int .i64 3,.str [40],.int .i64 0,.int .i64 18],.agg [.int .i64 3,.str [41],.int .i64 0,.int .i64 19],.agg [.int .i64 3,.str [123],.int .i64 0,.int .i64 20],.agg [.int .i64 1,.str [108,111,99,107],.int .i64 0,.int .i64 21],.agg [.int .i64 1,.str [109],.int .i64 0,.int .i64 26],.agg [.int .i64 3,.str [59],.int .i64 0,.int .i64 27],.agg [.int .i64 1,.str [120],.int .i64 0,.int .i64 28],.agg [.int .i64 3,.str [61],.int .i64 0,.int .i64 29],.agg [.int .i64 1,.str [120],.int .i64 0,.int .i64 30],.agg [.int .i64 3,.str [43],.int .i64 0,.int .i64 31],.agg [.int .i64 2,.str [49],.int .i64 1,.int .i64 32],.agg [.int .i64 3,.str [59],.int .i64 0,.int .i64 33],.agg [.int .i64 1,.str [105,102],.int .i64 0,.int .i64 34],.agg [.int .i64 1,.str [120],.int .i64 0,.int .i64 37],.agg [.int .i64 3,.str [62],.int .i64 0,.int .i64 38],.agg [.int .i64 2,.str [50],.int .i64 2,.int .i64 39],.agg [.int .i64 3,.str [123],.int .i64 0,.int .i64 40],.agg [.int .i64 1,.str [101,109,105,116],.int .i64 0,.int .i64 41],.agg [.int .i64 1,.str [120],.int .i64 0,.int .i64 46],.agg [.int .i64 3,.str [59],.int .i64 0,.int .i64 47],.agg [.int .i64 3,.str [125],.int .i64 0,.int .i64 48],.agg [.int .i64 1,.str [101,108,115,101],.int .i64 0,.int .i64 49],.agg [.int .i64 3,.str [123],.int .i64 0,.int .i64 53],.agg [.int .i64 3,.str [125],.int .i64 0,.int .i64 54],.agg [.int .i64 3,.str [125],.int .i64 0,.int .i64 55],.agg [.int .i64 0,.str [],.int .i64 0,.int .i64 56]]
def awSo:AV:= .agg [.isl (some false) 5 [.agg [.int .i64 101,.str [120],.int .i64 0,.int .i64 0,.str []]],.isl (some false) 5 [.agg [.int .i64 1,.str [109,97,105,110],.isl (some true) 0 [],.int .i64 0,.isl (some false) 8 [.agg [.int .i64 19,.int .i64 50,.str [109],.isl (some true) 0 [],.isl (some true) 0 [],.isl (some true) 0 [],.isl (some true) 0 [],.isl (some true) 0 []],.agg [.int .i64 2,.int .i64 0,.str [120],.isl (some true) 0 [],.isl (some false) 5 [.agg [.int .i64 4,.int .i64 3,.str [],.int .i64 0,.isl (some false) 5 [.agg [.int .i64 2,.int .i64 0,.str [120],.int .i64 0,.isl (some true) 0 []],.agg [.int .i64 1,.int .i64 0,.str [],.int .i64 1,.isl (some true) 0 []]]]],.isl (some true) 0 [],.isl (some true) 0 [],.isl (some true) 0 []],.agg [.int .i64 3,.int .i64 0,.str [],.isl (some true) 0 [],.isl (some false) 5 [.agg [.int .i64 4,.int .i64 12,.str [],.int .i64 0,.isl (some false) 5 [.agg [.int .i64 2,.int .i64 0,.str [120],.int .i64 0,.isl (some true) 0 []],.agg [.int .i64 1,.int .i64 0,.str [],.int .i64 2,.isl (some true) 0 []]]]],.isl (some false) 8 [.agg [.int .i64 9,.int .i64 0,.str [],.isl (some true) 0 [],.isl (some false) 5 [.agg [.int .i64 2,.int .i64 0,.str [120],.int .i64 0,.isl (some true) 0 []]],.isl (some true) 0 [],.isl (some true) 0 [],.isl (some true) 0 []]],.isl (some true) 0 [],.isl (some true) 0 []]]]]]
theorem aw19:W.pure 19 [.str zm2]=some (.tuple [.isl (some false) 4 zdx,.int .i64 0,.int .i64 0]):=orcT [] (fun p hp=>by cases hp) 300 (by kernel_rfl)
theorem zm5:W.pure 235 [.isl (some false) 4 (zdx.drop 15)]=some (.tuple [.agg [.int .i64 4,.int .i64 3,.str [],.int .i64 0,.isl (some false) 5 [.agg [.int .i64 2,.int .i64 0,.str [120],.int .i64 0,.isl (some true) 0 []],.agg [.int .i64 1,.int .i64 0,.str [],.int .i64 1,.isl (some true) 0 []]]],.int .i64 3,.int .i64 0]):=orcT [] (fun p hp=>by cases hp) 300 (by kernel_rfl)
theorem zm4:W.pure 235 [.isl (some false) 4 (zdx.drop 20)]=some (.tuple [.agg [.int .i64 4,.int .i64 12,.str [],.int .i64 0,.isl (some false) 5 [.agg [.int .i64 2,.int .i64 0,.str [120],.int .i64 0,.isl (some true) 0 []],.agg [.int .i64 1,.int .i64 0,.str [],.int .i64 2,.isl (some true) 0 []]]],.int .i64 3,.int .i64 0]):=orcT [] (fun p hp=>by cases hp) 300 (by kernel_rfl)
theorem zm3:W.pure 235 [.isl (some false) 4 (zdx.drop 25)]=some (.tuple [.agg [.int .i64 2,.int .i64 0,.str [120],.int .i64 0,.isl (some true) 0 []],.int .i64 1,.int .i64 0]):=orcT [] (fun p hp=>by cases hp) 300 (by kernel_rfl)
theorem aw21:W.pure 21 [awSo]=some (.int .i64 0):=orcT [] (fun p hp=>by cases hp) 300 (by kernel_rfl)
def zm1:List (FuncId×List AV×AV):=[(19,[.str zm2],.tuple [.isl (some false) 4 zdx,.int .i64 0,.int .i64 0]),
 (235,[.isl (some false) 4 (zdx.drop 15)],.tuple [.agg [.int .i64 4,.int .i64 3,.str [],.int .i64 0,.isl (some false) 5 [.agg [.int .i64 2,.int .i64 0,.str [120],.int .i64 0,.isl (some true) 0 []],.agg [.int .i64 1,.int .i64 0,.str [],.int .i64 1,.isl (some true) 0 []]]],.int .i64 3,.int .i64 0]),
 (235,[.isl (some false) 4 (zdx.drop 20)],.tuple [.agg [.int .i64 4,.int .i64 12,.str [],.int .i64 0,.isl (some false) 5 [.agg [.int .i64 2,.int .i64 0,.str [120],.int .i64 0,.isl (some true) 0 []],.agg [.int .i64 1,.int .i64 0,.str [],.int .i64 2,.isl (some true) 0 []]]],.int .i64 3,.int .i64 0]),
 (235,[.isl (some false) 4 (zdx.drop 25)],.tuple [.agg [.int .i64 2,.int .i64 0,.str [120],.int .i64 0,.isl (some true) 0 []],.int .i64 1,.int .i64 0]),
 (21,[awSo],.int .i64 0)]
theorem zih:∀p∈zm1,W.pure p.1 p.2.1=some p.2.2:=by
 intro p hp
 unfold zm1 at hp
 simp only[List.mem_cons,List.not_mem_nil,or_false]at hp
 rcases hp with rfl|rfl|rfl|rfl|rfl
 .exact aw19
 .exact zm5
 .exact zm4
 .exact zm3
 .exact aw21
theorem aw12:W.pure 12 [.str zm2]=some (.tuple [awSo,.int .i64 0,.int .i64 0]):=orcT zm1 zih 300 (by kernel_rfl)
theorem aw22:W.pure 22 [awSo]=some (.tuple [.str [118,97,114,32,120,32,61,32,48,59,10,116,97,115,107,32,109,97,105,110,40,41,32,123,10,9,108,111,99,107,32,109,59,10,9,120,32,61,32,120,32,43,32,49,59,10,9,105,102,32,120,32,62,32,50,32,123,10,9,9,101,109,105,116,32,120,59,10,9,125,10,125,10],.int .i64 0]):=orcT zm1 zih 300 (by kernel_rfl)
theorem e11:W.pure 11 []=some (.bool true):=orcT [(12,[.str zm2],.tuple [awSo,.int .i64 0,.int .i64 0]),(22,[awSo],.tuple [.str [118,97,114,32,120,32,61,32,48,59,10,116,97,115,107,32,109,97,105,110,40,41,32,123,10,9,108,111,99,107,32,109,59,10,9,120,32,61,32,120,32,43,32,49,59,10,9,105,102,32,120,32,62,32,50,32,123,10,9,9,101,109,105,116,32,120,59,10,9,125,10,125,10],.int .i64 0])] (fun p hp=>by
 simp only[List.mem_cons,List.not_mem_nil,or_false]at hp
 rcases hp with rfl|rfl
 .exact aw12
 .exact aw22) 300 (by kernel_rfl)
end Go.Proofs.YtgamobngbenehaaGreatDoor
