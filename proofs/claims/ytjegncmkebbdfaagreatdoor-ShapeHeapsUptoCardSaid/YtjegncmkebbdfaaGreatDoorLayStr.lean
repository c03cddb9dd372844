/-
  DERIVED: THE SHELF's CONTRACTS AT THIS DUMP, IN PLAIN WORDS (tools/lay-plain.mjs out of 'YtjegncmkebbdfaaGreatDoorShelfStr.lean', which tools/lay-shelf.mjs wrote): THE SAME DECLARATIONS UNDER THE SAME NAMES: 'import', 'namespace', 'open', 'def', 'theorem' AND NOTHING ELSE: no command of the shelf's: FOR A HAND-IN. Each laying: the table of numbers ('.._ren') and one theorem, a field a fact of the dump's own or the kernel's comparison; each contract: ONE APPLICATION.
-/
import Derived.Shelf.Strings.Builder1
import Derived.Shelf.Strings.Builder2
import Derived.Shelf.Strings.OnBuilder
import Derived.Shelf.Small.Bits
import Derived.Shelf.Small.Wraps
import Derived.Shelf.Strings.BuilderF
import Derived.Shelf.Strings.BuilderK
import Derived.Shelf.Strings.Builder2Cap
import Derived.Shelf.Strconv.Itoa0
import Derived.Shelf.Strconv.Itoa1
import Derived.Shelf.LaysM
import Derived.Shelf.Strconv.Itoa2
import Derived.Shelf.Strconv.Itoa3
import Derived.Shelf.Strconv.Itoa4
import Derived.Ground.Names2Prog
import Derived.Shelf.Slices.SearchI
import Derived.Test.YtjegncmkebbdfaaGreatDoorProg
namespace Go.Proofs
open Go.Shelf
def Tryz.lays156_ren : Go.Shelf.Ren := ⟨fun | 156 => 55 | 165 => 102 | 166 => 103 | 169 => 104 | 240 => 158 | 241 => 159 | 276 => 177 | 277 => 178 | n => n, fun | 31 => 58 | 9 => 9 | 3 => 3 | 4 => 4 | 0 => 0 | 20 => 20 | 72 => 149 | 76 => 152 | 70 => 146 | 37 => 147 | 75 => 151 | 127 => 200 | 164 => 216 | 5 => 5 | 80 => 154 | n => n, fun | n => n⟩
theorem Tryz.lays156 : Go.Proofs.Lays.n156 Tryz.prog Tryz.lays156_ren := {
  mixed := by kernel_rfl
  f156 := Tryz.func55.trans (congrArg some (by kernel_rfl))
  f165 := Tryz.func102.trans (congrArg some (by kernel_rfl))
  f166 := Tryz.func103.trans (congrArg some (by kernel_rfl))
  f169 := Tryz.func104.trans (congrArg some (by kernel_rfl))
  f240 := Tryz.func158.trans (congrArg some (by kernel_rfl))
  f241 := Tryz.func159.trans (congrArg some (by kernel_rfl))
  f276 := Tryz.func177.trans (congrArg some (by kernel_rfl))
  f277 := Tryz.func178.trans (congrArg some (by kernel_rfl))
  t0 := Tryz.underlying0
  a0 := Tryz.isAgg0
  z0 := Tryz.sizeOf0
  v0 := Tryz.zeroValue0
  t3 := Tryz.underlying3
  a3 := Tryz.isAgg3
  z3 := Tryz.sizeOf3
  v3 := Tryz.zeroValue3
  t4 := Tryz.underlying4
  a4 := Tryz.isAgg4
  z4 := Tryz.sizeOf4
  v4 := Tryz.zeroValue4
  t9 := Tryz.underlying9
  a9 := Tryz.isAgg9
  z9 := Tryz.sizeOf9
  v9 := Tryz.zeroValue9
  t20 := Tryz.underlying20
  a20 := Tryz.isAgg20
  z20 := Tryz.sizeOf20
  v20 := Tryz.zeroValue20
  t31 := Tryz.underlying58
  a31 := Tryz.isAgg58
  z31 := Tryz.sizeOf58
  v31 := Tryz.zeroValue58
  t37 := Tryz.underlying147
  a37 := Tryz.isAgg147
  z37 := Tryz.sizeOf147
  v37 := Tryz.zeroValue147
  t70 := Tryz.underlying146
  a70 := Tryz.isAgg146
  z70 := Tryz.sizeOf146
  v70 := Tryz.zeroValue146
  t72 := Tryz.underlying149
  a72 := Tryz.isAgg149
  z72 := Tryz.sizeOf149
  v72 := Tryz.zeroValue149
  t75 := Tryz.underlying151
  a75 := Tryz.isAgg151
  z75 := Tryz.sizeOf151
  v75 := Tryz.zeroValue151
  t76 := Tryz.underlying152
  a76 := Tryz.isAgg152
  z76 := Tryz.sizeOf152
  v76 := Tryz.zeroValue152
  t127 := Tryz.underlying200
  a127 := Tryz.isAgg200
  z127 := Tryz.sizeOf200
  v127 := Tryz.zeroValue200
  t164 := Tryz.underlying216
  a164 := Tryz.isAgg216
  z164 := Tryz.sizeOf216
  v164 := Tryz.zeroValue216 }
theorem Tryz.Builder_Extra_156 : Builder.Extra Tryz.prog Tryz.lays156_ren := {
  sizeBuilder := by kernel_rfl
  liesBuilder := by kernel_rfl
  t5 := Tryz.underlying5
  a5 := Tryz.isAgg5
  z5 := Tryz.sizeOf5
  v5 := Tryz.zeroValue5
  infoByte := by kernel_rfl
  cellsByte := by kernel_rfl
  sizeByte := by kernel_rfl
  neB5 := by decide }
open Go.RowKit in
/-- No element: the empty string; the world is as it was. (Whatever the slice's address and capacity: a nil slice too.) (LAID: no walk: one application.) -/
theorem Tryz.strings_Join_none (a : Option Addr) (c : Nat) (sep : ByteArray) (w : World) :
    Calls Tryz.prog 55 #[.slice a 0 c, .string sep] w fun e w' => e = .returned (.string ⟨#[]⟩) ∧ w' = w := Any.strings_Join_none Tryz.lays156 Tryz.Builder_Extra_156 a c sep w
open Go.RowKit in
/-- strings.Join: "Join concatenates the elements of its first argument to create a single string. The separator string sep is placed between elements in the resulting string.": HOWEVER MANY ELEMENTS. Below the heap's end the world is as it was. (LAID: no walk: one application.) -/
theorem Tryz.strings_Join (bk o c : Nat) (xs : List ByteArray) (sep : ByteArray) (w : World) (hcells : ∀ (j : Nat) x, xs[j]? = some x → w.cell? ⟨bk, o + j, none⟩ = some (.string x)) (hbk : bk < w.heap.size) (hN : xs.length ≤ 140737488355328) (hcap : xs.length ≤ c) (hlen : (Lib.join (xs.map (·.data.toList)) sep.data.toList).length ≤ 140737488355328) :
    Calls Tryz.prog 55 #[.slice (some ⟨bk, o, none⟩) xs.length c, .string sep] w fun e w' => e = .returned (.string ⟨(Lib.join (xs.map (·.data.toList)) sep.data.toList).toArray⟩) ∧ Below w.heap.size w w' := Any.strings_Join Tryz.lays156 Tryz.Builder_Extra_156 bk o c xs sep w hcells hbk hN hcap hlen
def Tryz.laysM171_ren : Go.Shelf.Ren := ⟨fun | 171 => 53 | 243 => 100 | 246 => 157 | 283 => 173 | 284 => 174 | 285 => 175 | 286 => 176 | 129 => 114 | 317 => 184 | 318 => 185 | 319 => 186 | 320 => 187 | 337 => 188 | 338 => 189 | n => n, fun | 3 => 3 | 9 => 9 | 2 => 2 | 4 => 4 | 171 => 212 | 0 => 0 | 53 => 34 | 37 => 147 | 5 => 5 | 173 => 214 | 212 => 226 | 51 => 163 | 20 => 20 | 213 => 227 | 46 => 103 | 232 => 228 | 233 => 229 | n => n, fun | 17 => 0 | 18 => 2 | 19 => 3 | n => n⟩
theorem Tryz.laysM171 : Go.Proofs.LaysM.n171 Tryz.prog Tryz.laysM171_ren := {
  mixed := by kernel_rfl
  f129 := Tryz.func114.trans (congrArg some (by kernel_rfl))
  f171 := Tryz.func53.trans (congrArg some (by kernel_rfl))
  f243 := Tryz.func100.trans (congrArg some (by kernel_rfl))
  f246 := Tryz.func157.trans (congrArg some (by kernel_rfl))
  f283 := Tryz.func173.trans (congrArg some (by kernel_rfl))
  f284 := Tryz.func174.trans (congrArg some (by kernel_rfl))
  f285 := Tryz.func175.trans (congrArg some (by kernel_rfl))
  f286 := Tryz.func176.trans (congrArg some (by kernel_rfl))
  f317 := Tryz.func184.trans (congrArg some (by kernel_rfl))
  f318 := Tryz.func185.trans (congrArg some (by kernel_rfl))
  f319 := Tryz.func186.trans (congrArg some (by kernel_rfl))
  f320 := Tryz.func187.trans (congrArg some (by kernel_rfl))
  f337 := Tryz.func188.trans (congrArg some (by kernel_rfl))
  f338 := Tryz.func189.trans (congrArg some (by kernel_rfl))
  t0 := Tryz.underlying0
  a0 := Tryz.isAgg0
  z0 := Tryz.sizeOf0
  v0 := Tryz.zeroValue0
  t2 := Tryz.underlying2
  a2 := Tryz.isAgg2
  z2 := Tryz.sizeOf2
  v2 := Tryz.zeroValue2
  t3 := Tryz.underlying3
  a3 := Tryz.isAgg3
  z3 := Tryz.sizeOf3
  v3 := Tryz.zeroValue3
  t4 := Tryz.underlying4
  a4 := Tryz.isAgg4
  z4 := Tryz.sizeOf4
  v4 := Tryz.zeroValue4
  t5 := Tryz.underlying5
  a5 := Tryz.isAgg5
  z5 := Tryz.sizeOf5
  v5 := Tryz.zeroValue5
  t9 := Tryz.underlying9
  a9 := Tryz.isAgg9
  z9 := Tryz.sizeOf9
  v9 := Tryz.zeroValue9
  t20 := Tryz.underlying20
  a20 := Tryz.isAgg20
  z20 := Tryz.sizeOf20
  v20 := Tryz.zeroValue20
  t37 := Tryz.underlying147
  a37 := Tryz.isAgg147
  z37 := Tryz.sizeOf147
  v37 := Tryz.zeroValue147
  t46 := Tryz.underlying103
  a46 := Tryz.isAgg103
  z46 := Tryz.sizeOf103
  v46 := Tryz.zeroValue103
  t51 := Tryz.underlying163
  a51 := Tryz.isAgg163
  z51 := Tryz.sizeOf163
  v51 := Tryz.zeroValue163
  t53 := Tryz.underlying34
  a53 := Tryz.isAgg34
  z53 := Tryz.sizeOf34
  v53 := Tryz.zeroValue34
  t171 := Tryz.underlying212
  a171 := Tryz.isAgg212
  z171 := Tryz.sizeOf212
  v171 := Tryz.zeroValue212
  t173 := Tryz.underlying214
  a173 := Tryz.isAgg214
  z173 := Tryz.sizeOf214
  v173 := Tryz.zeroValue214
  t212 := Tryz.underlying226
  a212 := Tryz.isAgg226
  z212 := Tryz.sizeOf226
  v212 := Tryz.zeroValue226
  t213 := Tryz.underlying227
  a213 := Tryz.isAgg227
  z213 := Tryz.sizeOf227
  t232 := Tryz.underlying228
  a232 := Tryz.isAgg228
  z232 := Tryz.sizeOf228
  v232 := Tryz.zeroValue228
  t233 := Tryz.underlying229
  a233 := Tryz.isAgg229
  z233 := Tryz.sizeOf229
  v233 := Tryz.zeroValue229
  g17 := by kernel_rfl
  g18 := by kernel_rfl
  g19 := by kernel_rfl
  i0 := by kernel_rfl
  i2 := by kernel_rfl
  i3 := by kernel_rfl
  i4 := by kernel_rfl
  i5 := by kernel_rfl
  i9 := by kernel_rfl
  i20 := by kernel_rfl
  i37 := by kernel_rfl
  i46 := by kernel_rfl
  i51 := by kernel_rfl
  i53 := by kernel_rfl
  i171 := by kernel_rfl
  i173 := by kernel_rfl
  i212 := by kernel_rfl
  i232 := by kernel_rfl
  i233 := by kernel_rfl
  m17 := by kernel_rfl
  m18 := by kernel_rfl
  m19 := by kernel_rfl }
open Go.RowKit Go.Sort Go.Lib in
/-- strconv.Itoa: "Itoa is equivalent to FormatInt(int64(i), 10).": i's DECIMAL NUMERAL ('Lib.itoa': a '-' where i is negative, then the digits), FOR EVERY int. The world behind the call: the world before it, new blocks behind the heap (the library's 'var a [24]byte'), draws. (LAID: no walk: one application.) -/
theorem Tryz.strconv_Itoa (n : Int) (h0 : -9223372036854775808 ≤ n) (h1 : n ≤ 9223372036854775807) (w : World) (htab : Lib.TabIs Tryz.prog w "internal/strconv.uint64pow10" .u64 Lib.pow10Tab) :
    Calls Tryz.prog 53 #[.int .i64 n] w fun e w' => e = .returned (.string ⟨(Lib.itoa n).toArray⟩) ∧ ∃ k os, w' = grow (w.drewN k) os := Any.strconv_Itoa Tryz.laysM171 n h0 h1 w htab
def Tryz.lays171_ren : Go.Shelf.Ren := ⟨fun | 171 => 53 | 243 => 100 | 246 => 157 | 283 => 173 | 284 => 174 | 285 => 175 | 286 => 176 | 129 => 114 | 317 => 184 | 318 => 185 | 319 => 186 | 320 => 187 | 337 => 188 | 338 => 189 | n => n, fun | 3 => 3 | 9 => 9 | 2 => 2 | 4 => 4 | 171 => 212 | 0 => 0 | 53 => 34 | 37 => 147 | 5 => 5 | 173 => 214 | 212 => 226 | 51 => 163 | 20 => 20 | 213 => 227 | 46 => 103 | 232 => 228 | 233 => 229 | n => n, fun | 17 => 0 | 18 => 2 | 19 => 3 | n => n⟩
theorem Tryz.lays171 : Go.Proofs.Lays.n171 Tryz.prog Tryz.lays171_ren := {
  mixed := by kernel_rfl
  f129 := Tryz.func114.trans (congrArg some (by kernel_rfl))
  f171 := Tryz.func53.trans (congrArg some (by kernel_rfl))
  f243 := Tryz.func100.trans (congrArg some (by kernel_rfl))
  f246 := Tryz.func157.trans (congrArg some (by kernel_rfl))
  f283 := Tryz.func173.trans (congrArg some (by kernel_rfl))
  f284 := Tryz.func174.trans (congrArg some (by kernel_rfl))
  f285 := Tryz.func175.trans (congrArg some (by kernel_rfl))
  f286 := Tryz.func176.trans (congrArg some (by kernel_rfl))
  f317 := Tryz.func184.trans (congrArg some (by kernel_rfl))
  f318 := Tryz.func185.trans (congrArg some (by kernel_rfl))
  f319 := Tryz.func186.trans (congrArg some (by kernel_rfl))
  f320 := Tryz.func187.trans (congrArg some (by kernel_rfl))
  f337 := Tryz.func188.trans (congrArg some (by kernel_rfl))
  f338 := Tryz.func189.trans (congrArg some (by kernel_rfl))
  t0 := Tryz.underlying0
  a0 := Tryz.isAgg0
  z0 := Tryz.sizeOf0
  v0 := Tryz.zeroValue0
  t2 := Tryz.underlying2
  a2 := Tryz.isAgg2
  z2 := Tryz.sizeOf2
  v2 := Tryz.zeroValue2
  t3 := Tryz.underlying3
  a3 := Tryz.isAgg3
  z3 := Tryz.sizeOf3
  v3 := Tryz.zeroValue3
  t4 := Tryz.underlying4
  a4 := Tryz.isAgg4
  z4 := Tryz.sizeOf4
  v4 := Tryz.zeroValue4
  t5 := Tryz.underlying5
  a5 := Tryz.isAgg5
  z5 := Tryz.sizeOf5
  v5 := Tryz.zeroValue5
  t9 := Tryz.underlying9
  a9 := Tryz.isAgg9
  z9 := Tryz.sizeOf9
  v9 := Tryz.zeroValue9
  t20 := Tryz.underlying20
  a20 := Tryz.isAgg20
  z20 := Tryz.sizeOf20
  v20 := Tryz.zeroValue20
  t37 := Tryz.underlying147
  a37 := Tryz.isAgg147
  z37 := Tryz.sizeOf147
  v37 := Tryz.zeroValue147
  t46 := Tryz.underlying103
  a46 := Tryz.isAgg103
  z46 := Tryz.sizeOf103
  v46 := Tryz.zeroValue103
  t51 := Tryz.underlying163
  a51 := Tryz.isAgg163
  z51 := Tryz.sizeOf163
  v51 := Tryz.zeroValue163
  t53 := Tryz.underlying34
  a53 := Tryz.isAgg34
  z53 := Tryz.sizeOf34
  v53 := Tryz.zeroValue34
  t171 := Tryz.underlying212
  a171 := Tryz.isAgg212
  z171 := Tryz.sizeOf212
  v171 := Tryz.zeroValue212
  t173 := Tryz.underlying214
  a173 := Tryz.isAgg214
  z173 := Tryz.sizeOf214
  v173 := Tryz.zeroValue214
  t212 := Tryz.underlying226
  a212 := Tryz.isAgg226
  z212 := Tryz.sizeOf226
  v212 := Tryz.zeroValue226
  t213 := Tryz.underlying227
  a213 := Tryz.isAgg227
  z213 := Tryz.sizeOf227
  t232 := Tryz.underlying228
  a232 := Tryz.isAgg228
  z232 := Tryz.sizeOf228
  v232 := Tryz.zeroValue228
  t233 := Tryz.underlying229
  a233 := Tryz.isAgg229
  z233 := Tryz.sizeOf229
  v233 := Tryz.zeroValue229
  g17 := by kernel_rfl
  g18 := by kernel_rfl
  g19 := by kernel_rfl }
open Go.RowKit Go.Sort Go.Lib in
/-- THE ROAD WITHOUT THE TABLE: 0 <= i < 100: NO PREMISE ON THE WORLD, AND THE WORLD IS AS IT WAS: a row that keeps its argument in that range need list no table ('laid = []'). (LAID: no walk: one application.) -/
theorem Tryz.strconv_Itoa_small (i : Nat) (hi : i < 100) (w : World) :
    Calls Tryz.prog 53 #[.int .i64 i] w fun e w' => e = .returned (.string ⟨(Lib.decDigits i).toArray⟩) ∧ w' = w := Any.strconv_Itoa_small Tryz.lays171 i hi w
def Tryz.laysM173_ren : Go.Shelf.Ren := ⟨fun | 173 => 101 | 246 => 157 | 283 => 173 | 284 => 174 | 285 => 175 | 286 => 176 | 129 => 114 | 317 => 184 | 318 => 185 | 319 => 186 | 320 => 187 | 337 => 188 | 338 => 189 | n => n, fun | 2 => 2 | 3 => 3 | 9 => 9 | 4 => 4 | 171 => 212 | 0 => 0 | 53 => 34 | 37 => 147 | 5 => 5 | 173 => 214 | 212 => 226 | 51 => 163 | 20 => 20 | 213 => 227 | 46 => 103 | 232 => 228 | 233 => 229 | n => n, fun | 17 => 0 | 18 => 2 | 19 => 3 | n => n⟩
theorem Tryz.laysM173 : Go.Proofs.LaysM.n173 Tryz.prog Tryz.laysM173_ren := {
  mixed := by kernel_rfl
  f129 := Tryz.func114.trans (congrArg some (by kernel_rfl))
  f173 := Tryz.func101.trans (congrArg some (by kernel_rfl))
  f246 := Tryz.func157.trans (congrArg some (by kernel_rfl))
  f283 := Tryz.func173.trans (congrArg some (by kernel_rfl))
  f284 := Tryz.func174.trans (congrArg some (by kernel_rfl))
  f285 := Tryz.func175.trans (congrArg some (by kernel_rfl))
  f286 := Tryz.func176.trans (congrArg some (by kernel_rfl))
  f317 := Tryz.func184.trans (congrArg some (by kernel_rfl))
  f318 := Tryz.func185.trans (congrArg some (by kernel_rfl))
  f319 := Tryz.func186.trans (congrArg some (by kernel_rfl))
  f320 := Tryz.func187.trans (congrArg some (by kernel_rfl))
  f337 := Tryz.func188.trans (congrArg some (by kernel_rfl))
  f338 := Tryz.func189.trans (congrArg some (by kernel_rfl))
  t0 := Tryz.underlying0
  a0 := Tryz.isAgg0
  z0 := Tryz.sizeOf0
  v0 := Tryz.zeroValue0
  t2 := Tryz.underlying2
  a2 := Tryz.isAgg2
  z2 := Tryz.sizeOf2
  v2 := Tryz.zeroValue2
  t3 := Tryz.underlying3
  a3 := Tryz.isAgg3
  z3 := Tryz.sizeOf3
  v3 := Tryz.zeroValue3
  t4 := Tryz.underlying4
  a4 := Tryz.isAgg4
  z4 := Tryz.sizeOf4
  v4 := Tryz.zeroValue4
  t5 := Tryz.underlying5
  a5 := Tryz.isAgg5
  z5 := Tryz.sizeOf5
  v5 := Tryz.zeroValue5
  t9 := Tryz.underlying9
  a9 := Tryz.isAgg9
  z9 := Tryz.sizeOf9
  v9 := Tryz.zeroValue9
  t20 := Tryz.underlying20
  a20 := Tryz.isAgg20
  z20 := Tryz.sizeOf20
  v20 := Tryz.zeroValue20
  t37 := Tryz.underlying147
  a37 := Tryz.isAgg147
  z37 := Tryz.sizeOf147
  v37 := Tryz.zeroValue147
  t46 := Tryz.underlying103
  a46 := Tryz.isAgg103
  z46 := Tryz.sizeOf103
  v46 := Tryz.zeroValue103
  t51 := Tryz.underlying163
  a51 := Tryz.isAgg163
  z51 := Tryz.sizeOf163
  v51 := Tryz.zeroValue163
  t53 := Tryz.underlying34
  a53 := Tryz.isAgg34
  z53 := Tryz.sizeOf34
  v53 := Tryz.zeroValue34
  t171 := Tryz.underlying212
  a171 := Tryz.isAgg212
  z171 := Tryz.sizeOf212
  v171 := Tryz.zeroValue212
  t173 := Tryz.underlying214
  a173 := Tryz.isAgg214
  z173 := Tryz.sizeOf214
  v173 := Tryz.zeroValue214
  t212 := Tryz.underlying226
  a212 := Tryz.isAgg226
  z212 := Tryz.sizeOf226
  v212 := Tryz.zeroValue226
  t213 := Tryz.underlying227
  a213 := Tryz.isAgg227
  z213 := Tryz.sizeOf227
  t232 := Tryz.underlying228
  a232 := Tryz.isAgg228
  z232 := Tryz.sizeOf228
  v232 := Tryz.zeroValue228
  t233 := Tryz.underlying229
  a233 := Tryz.isAgg229
  z233 := Tryz.sizeOf229
  v233 := Tryz.zeroValue229
  g17 := by kernel_rfl
  g18 := by kernel_rfl
  g19 := by kernel_rfl
  i0 := by kernel_rfl
  i2 := by kernel_rfl
  i3 := by kernel_rfl
  i4 := by kernel_rfl
  i5 := by kernel_rfl
  i9 := by kernel_rfl
  i20 := by kernel_rfl
  i37 := by kernel_rfl
  i46 := by kernel_rfl
  i51 := by kernel_rfl
  i53 := by kernel_rfl
  i171 := by kernel_rfl
  i173 := by kernel_rfl
  i212 := by kernel_rfl
  i232 := by kernel_rfl
  i233 := by kernel_rfl
  m17 := by kernel_rfl
  m18 := by kernel_rfl
  m19 := by kernel_rfl }
open Go.RowKit Go.Sort Go.Lib in
/-- strconv.FormatInt: "FormatInt returns the string representation of i in the given base": AT BASE 10: i's decimal numeral, for every int64. (LAID: no walk: one application.) -/
theorem Tryz.strconv_FormatInt_10 (n : Int) (h0 : -9223372036854775808 ≤ n) (h1 : n ≤ 9223372036854775807) (w : World) (htab : Lib.TabIs Tryz.prog w "internal/strconv.uint64pow10" .u64 Lib.pow10Tab) :
    Calls Tryz.prog 101 #[.int .i64 n, .int .i64 10] w fun e w' => e = .returned (.string ⟨(Lib.itoa n).toArray⟩) ∧ ∃ k os, w' = grow (w.drewN k) os := Any.strconv_FormatInt_10 Tryz.laysM173 n h0 h1 w htab
def Tryz.lays173_ren : Go.Shelf.Ren := ⟨fun | 173 => 101 | 246 => 157 | 283 => 173 | 284 => 174 | 285 => 175 | 286 => 176 | 129 => 114 | 317 => 184 | 318 => 185 | 319 => 186 | 320 => 187 | 337 => 188 | 338 => 189 | n => n, fun | 2 => 2 | 3 => 3 | 9 => 9 | 4 => 4 | 171 => 212 | 0 => 0 | 53 => 34 | 37 => 147 | 5 => 5 | 173 => 214 | 212 => 226 | 51 => 163 | 20 => 20 | 213 => 227 | 46 => 103 | 232 => 228 | 233 => 229 | n => n, fun | 17 => 0 | 18 => 2 | 19 => 3 | n => n⟩
theorem Tryz.lays173 : Go.Proofs.Lays.n173 Tryz.prog Tryz.lays173_ren := {
  mixed := by kernel_rfl
  f129 := Tryz.func114.trans (congrArg some (by kernel_rfl))
  f173 := Tryz.func101.trans (congrArg some (by kernel_rfl))
  f246 := Tryz.func157.trans (congrArg some (by kernel_rfl))
  f283 := Tryz.func173.trans (congrArg some (by kernel_rfl))
  f284 := Tryz.func174.trans (congrArg some (by kernel_rfl))
  f285 := Tryz.func175.trans (congrArg some (by kernel_rfl))
  f286 := Tryz.func176.trans (congrArg some (by kernel_rfl))
  f317 := Tryz.func184.trans (congrArg some (by kernel_rfl))
  f318 := Tryz.func185.trans (congrArg some (by kernel_rfl))
  f319 := Tryz.func186.trans (congrArg some (by kernel_rfl))
  f320 := Tryz.func187.trans (congrArg some (by kernel_rfl))
  f337 := Tryz.func188.trans (congrArg some (by kernel_rfl))
  f338 := Tryz.func189.trans (congrArg some (by kernel_rfl))
  t0 := Tryz.underlying0
  a0 := Tryz.isAgg0
  z0 := Tryz.sizeOf0
  v0 := Tryz.zeroValue0
  t2 := Tryz.underlying2
  a2 := Tryz.isAgg2
  z2 := Tryz.sizeOf2
  v2 := Tryz.zeroValue2
  t3 := Tryz.underlying3
  a3 := Tryz.isAgg3
  z3 := Tryz.sizeOf3
  v3 := Tryz.zeroValue3
  t4 := Tryz.underlying4
  a4 := Tryz.isAgg4
  z4 := Tryz.sizeOf4
  v4 := Tryz.zeroValue4
  t5 := Tryz.underlying5
  a5 := Tryz.isAgg5
  z5 := Tryz.sizeOf5
  v5 := Tryz.zeroValue5
  t9 := Tryz.underlying9
  a9 := Tryz.isAgg9
  z9 := Tryz.sizeOf9
  v9 := Tryz.zeroValue9
  t20 := Tryz.underlying20
  a20 := Tryz.isAgg20
  z20 := Tryz.sizeOf20
  v20 := Tryz.zeroValue20
  t37 := Tryz.underlying147
  a37 := Tryz.isAgg147
  z37 := Tryz.sizeOf147
  v37 := Tryz.zeroValue147
  t46 := Tryz.underlying103
  a46 := Tryz.isAgg103
  z46 := Tryz.sizeOf103
  v46 := Tryz.zeroValue103
  t51 := Tryz.underlying163
  a51 := Tryz.isAgg163
  z51 := Tryz.sizeOf163
  v51 := Tryz.zeroValue163
  t53 := Tryz.underlying34
  a53 := Tryz.isAgg34
  z53 := Tryz.sizeOf34
  v53 := Tryz.zeroValue34
  t171 := Tryz.underlying212
  a171 := Tryz.isAgg212
  z171 := Tryz.sizeOf212
  v171 := Tryz.zeroValue212
  t173 := Tryz.underlying214
  a173 := Tryz.isAgg214
  z173 := Tryz.sizeOf214
  v173 := Tryz.zeroValue214
  t212 := Tryz.underlying226
  a212 := Tryz.isAgg226
  z212 := Tryz.sizeOf226
  v212 := Tryz.zeroValue226
  t213 := Tryz.underlying227
  a213 := Tryz.isAgg227
  z213 := Tryz.sizeOf227
  t232 := Tryz.underlying228
  a232 := Tryz.isAgg228
  z232 := Tryz.sizeOf228
  v232 := Tryz.zeroValue228
  t233 := Tryz.underlying229
  a233 := Tryz.isAgg229
  z233 := Tryz.sizeOf229
  v233 := Tryz.zeroValue229
  g17 := by kernel_rfl
  g18 := by kernel_rfl
  g19 := by kernel_rfl }
open Go.RowKit Go.Sort Go.Lib in
/-- THE ROAD WITHOUT THE TABLE: 0 <= i < 100. (LAID: no walk: one application.) -/
theorem Tryz.strconv_FormatInt_10_small (i : Nat) (hi : i < 100) (w : World) :
    Calls Tryz.prog 101 #[.int .i64 i, .int .i64 10] w fun e w' => e = .returned (.string ⟨(Lib.decDigits i).toArray⟩) ∧ w' = w := Any.strconv_FormatInt_10_small Tryz.lays173 i hi w
end Go.Proofs
