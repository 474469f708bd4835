/-
  DERIVED: THE SHELF's CONTRACTS AT THIS DUMP, IN PLAIN WORDS (tools/lay-plain.mjs out of 'TryzShelf.lean', which tools/lay-shelf.mjs wrote): THE SAME DECLARATIONS UNDER THE SAME NAMES: 'import', 'namespace', 'open', 'def', 'theorem' AND NOTHING ELSE: no command of the shelf's: FOR A HAND-IN. Each laying: the table of numbers ('.._ren') and one theorem, a field a fact of the dump's own or the kernel's comparison; each contract: ONE APPLICATION.
-/
import Derived.Shelf.Strings.Builder1
import Derived.Shelf.Strings.Builder2
import Derived.Shelf.Strings.OnBuilder
import Derived.Shelf.Strings.BuilderF
import Derived.Shelf.Strconv.Itoa0
import Derived.Shelf.Strconv.Itoa1
import Derived.Shelf.LaysM
import Derived.Shelf.Strconv.Itoa2
import Derived.Shelf.Strconv.Itoa3
import Derived.Shelf.Strings.Search1
import Derived.Shelf.Strings.Search2
import Derived.Shelf.Strings.Search3
import Derived.Shelf.Strings.Shaped
import Derived.Shelf.Sort.Plain
import Derived.Shelf.Strings.Prefix
import Derived.Shelf.Bits.Mul64
import Derived.Shelf.Strings.Repeat
import Derived.Shelf.Slices.CompactS
import Derived.Shelf.Slices.In.SortNone
import Derived.Test.YtddpboiceemihaaGreatDoorProg
namespace Go.Proofs
open Go.Shelf
set_option linter.unusedVariables false
set_option linter.unusedSimpArgs false
def Tryz.lays156_ren : Go.Shelf.Ren := ⟨fun | 156 => 96 | 165 => 141 | 166 => 142 | 169 => 101 | 240 => 174 | 241 => 175 | 276 => 196 | 277 => 197 | n => n, fun | 31 => 22 | 9 => 9 | 3 => 3 | 4 => 4 | 0 => 0 | 20 => 20 | 72 => 129 | 76 => 168 | 70 => 126 | 37 => 127 | 75 => 167 | 127 => 172 | 164 => 205 | 5 => 5 | 80 => 138 | n => n, fun | n => n⟩
theorem Tryz.lays156 : Go.Proofs.Lays.n156 Tryz.prog Tryz.lays156_ren := {
 mixed := by kernel_rfl
 f156 := Tryz.func96.trans (congrArg some (by kernel_rfl))
 f165 := Tryz.func141.trans (congrArg some (by kernel_rfl))
 f166 := Tryz.func142.trans (congrArg some (by kernel_rfl))
 f169 := Tryz.func101.trans (congrArg some (by kernel_rfl))
 f240 := Tryz.func174.trans (congrArg some (by kernel_rfl))
 f241 := Tryz.func175.trans (congrArg some (by kernel_rfl))
 f276 := Tryz.func196.trans (congrArg some (by kernel_rfl))
 f277 := Tryz.func197.trans (congrArg some (by kernel_rfl))
 t0 := Tryz.underlying0
 a0 := Tryz.isAgg0
 z0 := Tryz.sizeOf0
 v0 := Tryz.zeroValue0
 t3 := Tryz.underlying3
 a3 := Tryz.isAgg3
 z3 := Tryz.sizeOf3
 v3 := Tryz.zeroValue3
 t4 := Tryz.underlying4
 a4 := Tryz.isAgg4
 z4 := Tryz.sizeOf4
 v4 := Tryz.zeroValue4
 t9 := Tryz.underlying9
 a9 := Tryz.isAgg9
 z9 := Tryz.sizeOf9
 v9 := Tryz.zeroValue9
 t20 := Tryz.underlying20
 a20 := Tryz.isAgg20
 z20 := Tryz.sizeOf20
 v20 := Tryz.zeroValue20
 t31 := Tryz.underlying22
 a31 := Tryz.isAgg22
 z31 := Tryz.sizeOf22
 v31 := Tryz.zeroValue22
 t37 := Tryz.underlying127
 a37 := Tryz.isAgg127
 z37 := Tryz.sizeOf127
 v37 := Tryz.zeroValue127
 t70 := Tryz.underlying126
 a70 := Tryz.isAgg126
 z70 := Tryz.sizeOf126
 v70 := Tryz.zeroValue126
 t72 := Tryz.underlying129
 a72 := Tryz.isAgg129
 z72 := Tryz.sizeOf129
 v72 := Tryz.zeroValue129
 t75 := Tryz.underlying167
 a75 := Tryz.isAgg167
 z75 := Tryz.sizeOf167
 v75 := Tryz.zeroValue167
 t76 := Tryz.underlying168
 a76 := Tryz.isAgg168
 z76 := Tryz.sizeOf168
 v76 := Tryz.zeroValue168
 t127 := Tryz.underlying172
 a127 := Tryz.isAgg172
 z127 := Tryz.sizeOf172
 v127 := Tryz.zeroValue172
 t164 := Tryz.underlying205
 a164 := Tryz.isAgg205
 z164 := Tryz.sizeOf205
 v164 := Tryz.zeroValue205 }
theorem Tryz.Builder_Extra_156 : Builder.Extra Tryz.prog Tryz.lays156_ren := {
 sizeBuilder := by kernel_rfl
 liesBuilder := by kernel_rfl
 t5 := Tryz.underlying5
 a5 := Tryz.isAgg5
 z5 := Tryz.sizeOf5
 v5 := Tryz.zeroValue5
 infoByte := by kernel_rfl
 cellsByte := by kernel_rfl
 sizeByte := by kernel_rfl
 neB5 := by decide }
open Go.RowKit in
theorem Tryz.strings_Join_none (a : Option Addr) (c : Nat) (sep : ByteArray) (w : World) :
  Calls Tryz.prog 96 #[.slice a 0 c, .string sep] w fun e w' => e = .returned (.string ⟨#[]⟩) ∧ w' = w := Any.strings_Join_none Tryz.lays156 Tryz.Builder_Extra_156 a c sep w
open Go.RowKit in
theorem Tryz.strings_Join (bk o c : Nat) (xs : List ByteArray) (sep : ByteArray) (w : World) (hcells : ∀ (j : Nat) x, xs[j]? = some x → w.cell? ⟨bk, o + j, none⟩ = some (.string x)) (hbk : bk < w.heap.size) (hN : xs.length ≤ 140737488355328) (hcap : xs.length ≤ c) (hlen : (Lib.join (xs.map (·.data.toList)) sep.data.toList).length ≤ 140737488355328) :
  Calls Tryz.prog 96 #[.slice (some ⟨bk, o, none⟩) xs.length c, .string sep] w fun e w' => e = .returned (.string ⟨(Lib.join (xs.map (·.data.toList)) sep.data.toList).toArray⟩) ∧ Below w.heap.size w w' := Any.strings_Join Tryz.lays156 Tryz.Builder_Extra_156 bk o c xs sep w hcells hbk hN hcap hlen
def Tryz.laysM246_ren : Go.Shelf.Ren := ⟨fun | 246 => 176 | 283 => 198 | 284 => 199 | 285 => 200 | 286 => 201 | 129 => 224 | 317 => 223 | 318 => 225 | 319 => 226 | 320 => 227 | 337 => 269 | 338 => 270 | n => n, fun | 2 => 2 | 3 => 3 | 9 => 9 | 4 => 4 | 171 => 208 | 0 => 0 | 53 => 209 | 37 => 127 | 5 => 5 | 173 => 212 | 212 => 247 | 51 => 214 | 20 => 20 | 213 => 248 | 46 => 188 | 232 => 268 | 233 => 269 | n => n, fun | 17 => 1 | 18 => 2 | 19 => 3 | n => n⟩
def Tryz.laysM243_ren : Go.Shelf.Ren := ⟨fun | 243 => 143 | 246 => 176 | 283 => 198 | 284 => 199 | 285 => 200 | 286 => 201 | 129 => 224 | 317 => 223 | 318 => 225 | 319 => 226 | 320 => 227 | 337 => 269 | 338 => 270 | n => n, fun | 3 => 3 | 9 => 9 | 2 => 2 | 4 => 4 | 171 => 208 | 0 => 0 | 53 => 209 | 37 => 127 | 5 => 5 | 173 => 212 | 212 => 247 | 51 => 214 | 20 => 20 | 213 => 248 | 46 => 188 | 232 => 268 | 233 => 269 | n => n, fun | 17 => 1 | 18 => 2 | 19 => 3 | n => n⟩
def Tryz.laysM171_ren : Go.Shelf.Ren := ⟨fun | 171 => 97 | 243 => 143 | 246 => 176 | 283 => 198 | 284 => 199 | 285 => 200 | 286 => 201 | 129 => 224 | 317 => 223 | 318 => 225 | 319 => 226 | 320 => 227 | 337 => 269 | 338 => 270 | n => n, fun | 3 => 3 | 9 => 9 | 2 => 2 | 4 => 4 | 171 => 208 | 0 => 0 | 53 => 209 | 37 => 127 | 5 => 5 | 173 => 212 | 212 => 247 | 51 => 214 | 20 => 20 | 213 => 248 | 46 => 188 | 232 => 268 | 233 => 269 | n => n, fun | 17 => 1 | 18 => 2 | 19 => 3 | n => n⟩
def Tryz.lays171_ren : Go.Shelf.Ren := ⟨fun | 171 => 97 | 243 => 143 | 246 => 176 | 283 => 198 | 284 => 199 | 285 => 200 | 286 => 201 | 129 => 224 | 317 => 223 | 318 => 225 | 319 => 226 | 320 => 227 | 337 => 269 | 338 => 270 | n => n, fun | 3 => 3 | 9 => 9 | 2 => 2 | 4 => 4 | 171 => 208 | 0 => 0 | 53 => 209 | 37 => 127 | 5 => 5 | 173 => 212 | 212 => 247 | 51 => 214 | 20 => 20 | 213 => 248 | 46 => 188 | 232 => 268 | 233 => 269 | n => n, fun | 17 => 1 | 18 => 2 | 19 => 3 | n => n⟩
theorem Tryz.lays171 : Go.Proofs.Lays.n171 Tryz.prog Tryz.lays171_ren := {
 mixed := by kernel_rfl
 f129 := Tryz.func224.trans (congrArg some (by kernel_rfl))
 f171 := Tryz.func97.trans (congrArg some (by kernel_rfl))
 f243 := Tryz.func143.trans (congrArg some (by kernel_rfl))
 f246 := Tryz.func176.trans (congrArg some (by kernel_rfl))
 f283 := Tryz.func198.trans (congrArg some (by kernel_rfl))
 f284 := Tryz.func199.trans (congrArg some (by kernel_rfl))
 f285 := Tryz.func200.trans (congrArg some (by kernel_rfl))
 f286 := Tryz.func201.trans (congrArg some (by kernel_rfl))
 f317 := Tryz.func223.trans (congrArg some (by kernel_rfl))
 f318 := Tryz.func225.trans (congrArg some (by kernel_rfl))
 f319 := Tryz.func226.trans (congrArg some (by kernel_rfl))
 f320 := Tryz.func227.trans (congrArg some (by kernel_rfl))
 f337 := Tryz.func269.trans (congrArg some (by kernel_rfl))
 f338 := Tryz.func270.trans (congrArg some (by kernel_rfl))
 t0 := Tryz.underlying0
 a0 := Tryz.isAgg0
 z0 := Tryz.sizeOf0
 v0 := Tryz.zeroValue0
 t2 := Tryz.underlying2
 a2 := Tryz.isAgg2
 z2 := Tryz.sizeOf2
 v2 := Tryz.zeroValue2
 t3 := Tryz.underlying3
 a3 := Tryz.isAgg3
 z3 := Tryz.sizeOf3
 v3 := Tryz.zeroValue3
 t4 := Tryz.underlying4
 a4 := Tryz.isAgg4
 z4 := Tryz.sizeOf4
 v4 := Tryz.zeroValue4
 t5 := Tryz.underlying5
 a5 := Tryz.isAgg5
 z5 := Tryz.sizeOf5
 v5 := Tryz.zeroValue5
 t9 := Tryz.underlying9
 a9 := Tryz.isAgg9
 z9 := Tryz.sizeOf9
 v9 := Tryz.zeroValue9
 t20 := Tryz.underlying20
 a20 := Tryz.isAgg20
 z20 := Tryz.sizeOf20
 v20 := Tryz.zeroValue20
 t37 := Tryz.underlying127
 a37 := Tryz.isAgg127
 z37 := Tryz.sizeOf127
 v37 := Tryz.zeroValue127
 t46 := Tryz.underlying188
 a46 := Tryz.isAgg188
 z46 := Tryz.sizeOf188
 v46 := Tryz.zeroValue188
 t51 := Tryz.underlying214
 a51 := Tryz.isAgg214
 z51 := Tryz.sizeOf214
 v51 := Tryz.zeroValue214
 t53 := Tryz.underlying209
 a53 := Tryz.isAgg209
 z53 := Tryz.sizeOf209
 v53 := Tryz.zeroValue209
 t171 := Tryz.underlying208
 a171 := Tryz.isAgg208
 z171 := Tryz.sizeOf208
 v171 := Tryz.zeroValue208
 t173 := Tryz.underlying212
 a173 := Tryz.isAgg212
 z173 := Tryz.sizeOf212
 v173 := Tryz.zeroValue212
 t212 := Tryz.underlying247
 a212 := Tryz.isAgg247
 z212 := Tryz.sizeOf247
 v212 := Tryz.zeroValue247
 t213 := Tryz.underlying248
 a213 := Tryz.isAgg248
 z213 := Tryz.sizeOf248
 t232 := Tryz.underlying268
 a232 := Tryz.isAgg268
 z232 := Tryz.sizeOf268
 v232 := Tryz.zeroValue268
 t233 := Tryz.underlying269
 a233 := Tryz.isAgg269
 z233 := Tryz.sizeOf269
 v233 := Tryz.zeroValue269
 g17 := by kernel_rfl
 g18 := by kernel_rfl
 g19 := by kernel_rfl }
open Go.RowKit Go.Sort Go.Lib in
theorem Tryz.strconv_Itoa_small (i : Nat) (hi : i < 100) (w : World) :
  Calls Tryz.prog 97 #[.int .i64 i] w fun e w' => e = .returned (.string ⟨(Lib.decDigits i).toArray⟩) ∧ w' = w := Any.strconv_Itoa_small Tryz.lays171 i hi w
def Tryz.lays219_ren : Go.Shelf.Ren := ⟨fun | 219 => 219 | 217 => 248 | 225 => 249 | 224 => 250 | 267 => 251 | 266 => 278 | 314 => 279 | n => n, fun | 9 => 9 | 3 => 3 | 4 => 4 | 5 => 5 | 46 => 188 | 146 => 215 | 51 => 214 | n => n, fun | 1 => 0 | n => n⟩
def Tryz.lays144_ren : Go.Shelf.Ren := ⟨fun | 144 => 164 | 143 => 194 | 219 => 219 | 217 => 248 | 225 => 249 | 224 => 250 | 267 => 251 | 266 => 278 | 314 => 279 | n => n, fun | 9 => 9 | 4 => 4 | 3 => 3 | 5 => 5 | 46 => 188 | 146 => 215 | 51 => 214 | n => n, fun | 1 => 0 | n => n⟩
theorem Tryz.lays144 : Go.Proofs.Lays.n144 Tryz.prog Tryz.lays144_ren := {
 mixed := by kernel_rfl
 f143 := Tryz.func194.trans (congrArg some (by kernel_rfl))
 f144 := Tryz.func164.trans (congrArg some (by kernel_rfl))
 f217 := Tryz.func248.trans (congrArg some (by kernel_rfl))
 f219 := Tryz.func219.trans (congrArg some (by kernel_rfl))
 f224 := Tryz.func250.trans (congrArg some (by kernel_rfl))
 f225 := Tryz.func249.trans (congrArg some (by kernel_rfl))
 f266 := Tryz.func278.trans (congrArg some (by kernel_rfl))
 f267 := Tryz.func251.trans (congrArg some (by kernel_rfl))
 f314 := Tryz.func279.trans (congrArg some (by kernel_rfl))
 t3 := Tryz.underlying3
 a3 := Tryz.isAgg3
 z3 := Tryz.sizeOf3
 v3 := Tryz.zeroValue3
 t4 := Tryz.underlying4
 a4 := Tryz.isAgg4
 z4 := Tryz.sizeOf4
 v4 := Tryz.zeroValue4
 t5 := Tryz.underlying5
 a5 := Tryz.isAgg5
 z5 := Tryz.sizeOf5
 v5 := Tryz.zeroValue5
 t9 := Tryz.underlying9
 a9 := Tryz.isAgg9
 z9 := Tryz.sizeOf9
 v9 := Tryz.zeroValue9
 t46 := Tryz.underlying188
 a46 := Tryz.isAgg188
 z46 := Tryz.sizeOf188
 v46 := Tryz.zeroValue188
 t51 := Tryz.underlying214
 a51 := Tryz.isAgg214
 z51 := Tryz.sizeOf214
 v51 := Tryz.zeroValue214
 t146 := Tryz.underlying215
 a146 := Tryz.isAgg215
 z146 := Tryz.sizeOf215
 v146 := Tryz.zeroValue215
 g1 := by kernel_rfl }
open Go.RowKit Go.Lib in
theorem Tryz.strings_Contains (s sub : ByteArray) (m : Int) (w : World) (hs : s.size < 4294967281) (hm : w.cell? ⟨0, 0, none⟩ = some (.int .i64 m)) :
  Calls Tryz.prog 164 #[.string s, .string sub] w fun e w' => e = .returned (.bool (Lib.contains s.data.toList sub.data.toList)) ∧ w' = w := Any.strings_Contains Tryz.lays144 s sub m w hs hm
def Tryz.lays190_ren : Go.Shelf.Ren := ⟨fun | 190 => 246 | 125 => 277 | 258 => 276 | 128 => 291 | 129 => 224 | 302 => 282 | 303 => 283 | 304 => 284 | 305 => 285 | 306 => 286 | 307 => 287 | 308 => 288 | 309 => 289 | 310 => 290 | 333 => 295 | 329 => 296 | 330 => 297 | 334 => 298 | 335 => 299 | 336 => 300 | 344 => 303 | n => n, fun | 31 => 22 | 9 => 9 | 3 => 3 | 46 => 188 | 0 => 0 | 51 => 214 | 53 => 209 | 4 => 4 | 183 => 273 | 182 => 272 | 131 => 277 | 5 => 5 | 218 => 284 | 222 => 196 | 228 => 291 | 229 => 289 | n => n, fun | n => n⟩
theorem Tryz.lays190 : Go.Proofs.Lays.n190 Tryz.prog Tryz.lays190_ren := {
 mixed := by kernel_rfl
 f125 := Tryz.func277.trans (congrArg some (by kernel_rfl))
 f128 := Tryz.func291.trans (congrArg some (by kernel_rfl))
 f129 := Tryz.func224.trans (congrArg some (by kernel_rfl))
 f190 := Tryz.func246.trans (congrArg some (by kernel_rfl))
 f258 := Tryz.func276.trans (congrArg some (by kernel_rfl))
 f302 := Tryz.func282.trans (congrArg some (by kernel_rfl))
 f303 := Tryz.func283.trans (congrArg some (by kernel_rfl))
 f304 := Tryz.func284.trans (congrArg some (by kernel_rfl))
 f305 := Tryz.func285.trans (congrArg some (by kernel_rfl))
 f306 := Tryz.func286.trans (congrArg some (by kernel_rfl))
 f307 := Tryz.func287.trans (congrArg some (by kernel_rfl))
 f308 := Tryz.func288.trans (congrArg some (by kernel_rfl))
 f309 := Tryz.func289.trans (congrArg some (by kernel_rfl))
 f310 := Tryz.func290.trans (congrArg some (by kernel_rfl))
 f329 := Tryz.func296.trans (congrArg some (by kernel_rfl))
 f330 := Tryz.func297.trans (congrArg some (by kernel_rfl))
 f333 := Tryz.func295.trans (congrArg some (by kernel_rfl))
 f334 := Tryz.func298.trans (congrArg some (by kernel_rfl))
 f335 := Tryz.func299.trans (congrArg some (by kernel_rfl))
 f336 := Tryz.func300.trans (congrArg some (by kernel_rfl))
 f344 := Tryz.func303.trans (congrArg some (by kernel_rfl))
 t0 := Tryz.underlying0
 a0 := Tryz.isAgg0
 z0 := Tryz.sizeOf0
 v0 := Tryz.zeroValue0
 t3 := Tryz.underlying3
 a3 := Tryz.isAgg3
 z3 := Tryz.sizeOf3
 v3 := Tryz.zeroValue3
 t4 := Tryz.underlying4
 a4 := Tryz.isAgg4
 z4 := Tryz.sizeOf4
 v4 := Tryz.zeroValue4
 t5 := Tryz.underlying5
 a5 := Tryz.isAgg5
 z5 := Tryz.sizeOf5
 v5 := Tryz.zeroValue5
 t9 := Tryz.underlying9
 a9 := Tryz.isAgg9
 z9 := Tryz.sizeOf9
 v9 := Tryz.zeroValue9
 t31 := Tryz.underlying22
 a31 := Tryz.isAgg22
 z31 := Tryz.sizeOf22
 v31 := Tryz.zeroValue22
 t46 := Tryz.underlying188
 a46 := Tryz.isAgg188
 z46 := Tryz.sizeOf188
 v46 := Tryz.zeroValue188
 t51 := Tryz.underlying214
 a51 := Tryz.isAgg214
 z51 := Tryz.sizeOf214
 v51 := Tryz.zeroValue214
 t53 := Tryz.underlying209
 a53 := Tryz.isAgg209
 z53 := Tryz.sizeOf209
 v53 := Tryz.zeroValue209
 t131 := Tryz.underlying277
 a131 := Tryz.isAgg277
 z131 := Tryz.sizeOf277
 v131 := Tryz.zeroValue277
 t182 := Tryz.underlying272
 a182 := Tryz.isAgg272
 z182 := Tryz.sizeOf272
 v182 := Tryz.zeroValue272
 t183 := Tryz.underlying273
 a183 := Tryz.isAgg273
 z183 := Tryz.sizeOf273
 v183 := Tryz.zeroValue273
 t218 := Tryz.underlying284
 a218 := Tryz.isAgg284
 z218 := Tryz.sizeOf284
 v218 := Tryz.zeroValue284
 t222 := Tryz.underlying196
 a222 := Tryz.isAgg196
 z222 := Tryz.sizeOf196
 v222 := Tryz.zeroValue196
 t228 := Tryz.underlying291
 a228 := Tryz.isAgg291
 z228 := Tryz.sizeOf291
 v228 := Tryz.zeroValue291
 t229 := Tryz.underlying289
 a229 := Tryz.isAgg289
 z229 := Tryz.sizeOf289
 v229 := Tryz.zeroValue289 }
open Go.Sort Go.RowKit in
theorem Tryz.slices_Sort_string (blk off cap : Nat) (ss : List (List UInt8)) (w : World) (hH : Holds encStr w blk off ss.toArray) (hblk : blk < w.heap.size) (hsz : ss.length < 4611686018427387904) :
  Calls Tryz.prog 246 #[.slice (some ⟨blk, off, none⟩) ss.length cap] w fun e w' =>
   e = .returned (.tuple #[]) ∧ ∃ n os, w' = grow (putRow encStr (Sort.ahead w n) blk off (ss.mergeSort fun x y => decide (x ≤ y)).toArray) os := Any.slices_Sort_string Tryz.lays190 blk off cap ss w hH hblk hsz
def Tryz.lays105_ren : Go.Shelf.Ren := ⟨fun | 105 => 144 | 212 => 177 | 99 => 27 | 165 => 141 | 166 => 142 | 170 => 100 | 169 => 101 | 263 => 202 | 264 => 203 | 206 => 75 | 240 => 174 | 241 => 175 | 276 => 196 | 277 => 197 | n => n, fun | 9 => 9 | 3 => 3 | 4 => 4 | 20 => 20 | 0 => 0 | 46 => 188 | 109 => 189 | 5 => 5 | 72 => 129 | 76 => 168 | 51 => 214 | 146 => 215 | 53 => 209 | 148 => 217 | 70 => 126 | 37 => 127 | 75 => 167 | 127 => 172 | 164 => 205 | 80 => 138 | n => n, fun | n => n⟩
theorem Tryz.lays105 : Go.Proofs.Lays.n105 Tryz.prog Tryz.lays105_ren := {
 mixed := by kernel_rfl
 f99 := Tryz.func27.trans (congrArg some (by kernel_rfl))
 f105 := Tryz.func144.trans (congrArg some (by kernel_rfl))
 f165 := Tryz.func141.trans (congrArg some (by kernel_rfl))
 f166 := Tryz.func142.trans (congrArg some (by kernel_rfl))
 f169 := Tryz.func101.trans (congrArg some (by kernel_rfl))
 f170 := Tryz.func100.trans (congrArg some (by kernel_rfl))
 f206 := Tryz.func75.trans (congrArg some (by kernel_rfl))
 f212 := Tryz.func177.trans (congrArg some (by kernel_rfl))
 f240 := Tryz.func174.trans (congrArg some (by kernel_rfl))
 f241 := Tryz.func175.trans (congrArg some (by kernel_rfl))
 f263 := Tryz.func202.trans (congrArg some (by kernel_rfl))
 f264 := Tryz.func203.trans (congrArg some (by kernel_rfl))
 f276 := Tryz.func196.trans (congrArg some (by kernel_rfl))
 f277 := Tryz.func197.trans (congrArg some (by kernel_rfl))
 t0 := Tryz.underlying0
 a0 := Tryz.isAgg0
 z0 := Tryz.sizeOf0
 v0 := Tryz.zeroValue0
 t3 := Tryz.underlying3
 a3 := Tryz.isAgg3
 z3 := Tryz.sizeOf3
 v3 := Tryz.zeroValue3
 t4 := Tryz.underlying4
 a4 := Tryz.isAgg4
 z4 := Tryz.sizeOf4
 v4 := Tryz.zeroValue4
 t5 := Tryz.underlying5
 a5 := Tryz.isAgg5
 z5 := Tryz.sizeOf5
 v5 := Tryz.zeroValue5
 t9 := Tryz.underlying9
 a9 := Tryz.isAgg9
 z9 := Tryz.sizeOf9
 v9 := Tryz.zeroValue9
 t20 := Tryz.underlying20
 a20 := Tryz.isAgg20
 z20 := Tryz.sizeOf20
 v20 := Tryz.zeroValue20
 t37 := Tryz.underlying127
 a37 := Tryz.isAgg127
 z37 := Tryz.sizeOf127
 v37 := Tryz.zeroValue127
 t46 := Tryz.underlying188
 a46 := Tryz.isAgg188
 z46 := Tryz.sizeOf188
 v46 := Tryz.zeroValue188
 t51 := Tryz.underlying214
 a51 := Tryz.isAgg214
 z51 := Tryz.sizeOf214
 v51 := Tryz.zeroValue214
 t53 := Tryz.underlying209
 a53 := Tryz.isAgg209
 z53 := Tryz.sizeOf209
 v53 := Tryz.zeroValue209
 t70 := Tryz.underlying126
 a70 := Tryz.isAgg126
 z70 := Tryz.sizeOf126
 v70 := Tryz.zeroValue126
 t72 := Tryz.underlying129
 a72 := Tryz.isAgg129
 z72 := Tryz.sizeOf129
 v72 := Tryz.zeroValue129
 t75 := Tryz.underlying167
 a75 := Tryz.isAgg167
 z75 := Tryz.sizeOf167
 v75 := Tryz.zeroValue167
 t76 := Tryz.underlying168
 a76 := Tryz.isAgg168
 z76 := Tryz.sizeOf168
 v76 := Tryz.zeroValue168
 t109 := Tryz.underlying189
 a109 := Tryz.isAgg189
 z109 := Tryz.sizeOf189
 v109 := Tryz.zeroValue189
 t127 := Tryz.underlying172
 a127 := Tryz.isAgg172
 z127 := Tryz.sizeOf172
 v127 := Tryz.zeroValue172
 t146 := Tryz.underlying215
 a146 := Tryz.isAgg215
 z146 := Tryz.sizeOf215
 v146 := Tryz.zeroValue215
 t148 := Tryz.underlying217
 a148 := Tryz.isAgg217
 z148 := Tryz.sizeOf217
 v148 := Tryz.zeroValue217
 t164 := Tryz.underlying205
 a164 := Tryz.isAgg205
 z164 := Tryz.sizeOf205
 v164 := Tryz.zeroValue205 }
theorem Tryz.Builder_Extra_105 : Builder.Extra Tryz.prog Tryz.lays105_ren := {
 sizeBuilder := by kernel_rfl
 liesBuilder := by kernel_rfl
 t5 := Tryz.underlying5
 a5 := Tryz.isAgg5
 z5 := Tryz.sizeOf5
 v5 := Tryz.zeroValue5
 infoByte := by kernel_rfl
 cellsByte := by kernel_rfl
 sizeByte := by kernel_rfl
 neB5 := by decide }
open Go.RowKit Go.Lib in
theorem Tryz.strings_Repeat (s : ByteArray) (c : Nat) (w : World) (hc : c ≤ 9223372036854775807) (hlen : s.size * c ≤ 140737488355328) :
  Calls Tryz.prog 144 #[.string s, .int .i64 c] w fun e w' => e = .returned (.string ⟨(Lib.repeatL s.data.toList c).toArray⟩) ∧ Below w.heap.size w w' := Any.strings_Repeat Tryz.lays105 Tryz.Builder_Extra_105 s c w hc hlen
def Tryz.lays194_ren : Go.Shelf.Ren := ⟨fun | 194 => 247 | n => n, fun | 31 => 22 | 9 => 9 | 3 => 3 | 4 => 4 | 0 => 0 | n => n, fun | n => n⟩
theorem Tryz.lays194 : Go.Proofs.Lays.n194 Tryz.prog Tryz.lays194_ren := {
 mixed := by kernel_rfl
 f194 := Tryz.func247.trans (congrArg some (by kernel_rfl))
 t0 := Tryz.underlying0
 a0 := Tryz.isAgg0
 z0 := Tryz.sizeOf0
 v0 := Tryz.zeroValue0
 t3 := Tryz.underlying3
 a3 := Tryz.isAgg3
 z3 := Tryz.sizeOf3
 v3 := Tryz.zeroValue3
 t4 := Tryz.underlying4
 a4 := Tryz.isAgg4
 z4 := Tryz.sizeOf4
 v4 := Tryz.zeroValue4
 t9 := Tryz.underlying9
 a9 := Tryz.isAgg9
 z9 := Tryz.sizeOf9
 v9 := Tryz.zeroValue9
 t31 := Tryz.underlying22
 a31 := Tryz.isAgg22
 z31 := Tryz.sizeOf22
 v31 := Tryz.zeroValue22 }
open Go.RowKit Go.Lib Go.Sort in
theorem Tryz.slices_Compact_string (blk off cap : Nat) (zs : List (List UInt8)) (w : World) (hH : Holds encStr w blk off zs.toArray) (hsz : zs.length ≤ 9223372036854775807) (hcap : zs.length ≤ cap) :
  Calls Tryz.prog 247 #[.slice (some ⟨blk, off, none⟩) zs.length cap] w fun e w' => e = .returned (.slice (some ⟨blk, off, none⟩) (Lib.compact zs).length cap) ∧ ∃ q, w' = putRow encStr (Sort.ahead w q) blk off (Lib.compact zs ++ List.replicate (zs.length - (Lib.compact zs).length) []).toArray := Any.slices_Compact_string Tryz.lays194 blk off cap zs w hH hsz hcap
open Go.RowKit Go.Lib Go.Sort in
theorem Tryz.slices_Compact_string_empty (a : Option Addr) (cap : Nat) (w : World) :
  Calls Tryz.prog 247 #[.slice a 0 cap] w fun e w' => e = .returned (.slice a 0 cap) ∧ w' = w := Any.slices_Compact_string_empty Tryz.lays194 a cap w
open Go.RowKit Go.Sort in
theorem Tryz.slices_Sort_string_none (p : Option Addr) (cap : Nat) (w : World) :
  Calls Tryz.prog 246 #[.slice p 0 cap] w fun e w' => e = .returned (.tuple #[]) ∧ w' = w := Any.slices_Sort_string_none Tryz.lays190 p cap w
end Go.Proofs
