/-
  DERIVED: THE SHELF's CONTRACTS AT THIS DUMP, IN PLAIN WORDS (tools/lay-plain.mjs out of 'TryzShelf.lean', which tools/lay-shelf.mjs wrote): THE SAME DECLARATIONS UNDER THE SAME NAMES: 'import', 'namespace', 'open', 'def', 'theorem' AND NOTHING ELSE: no command of the shelf's: FOR A HAND-IN. Each laying: the table of numbers ('.._ren') and one theorem, a field a fact of the dump's own or the kernel's comparison; each contract: ONE APPLICATION.
-/
import Derived.Shelf.Strings.OnBuilder
import Derived.Shelf.LaysM
import Derived.Shelf.Strconv.Itoa3
import Derived.Test.YtnpcjhcgbcpcoaaGreatDoorProg
namespace Go.Proofs
open Go.Shelf
def Tryz.lays156_ren : Go.Shelf.Ren := ⟨fun | 156 => 178 | 165 => 205 | 166 => 206 | 169 => 208 | 240 => 231 | 241 => 232 | 276 => 247 | 277 => 248 | n => n, fun | 31 => 25 | 9 => 9 | 3 => 3 | 4 => 4 | 0 => 0 | 20 => 20 | 72 => 209 | 76 => 213 | 70 => 206 | 37 => 207 | 75 => 212 | 127 => 234 | 164 => 243 | 5 => 5 | 80 => 215 | n => n, fun | n => n⟩
theorem Tryz.lays156 : Go.Proofs.Lays.n156 Tryz.prog Tryz.lays156_ren := {
  mixed := by kernel_rfl
  f156 := Tryz.func178.trans (congrArg some (by kernel_rfl))
  f165 := Tryz.func205.trans (congrArg some (by kernel_rfl))
  f166 := Tryz.func206.trans (congrArg some (by kernel_rfl))
  f169 := Tryz.func208.trans (congrArg some (by kernel_rfl))
  f240 := Tryz.func231.trans (congrArg some (by kernel_rfl))
  f241 := Tryz.func232.trans (congrArg some (by kernel_rfl))
  f276 := Tryz.func247.trans (congrArg some (by kernel_rfl))
  f277 := Tryz.func248.trans (congrArg some (by kernel_rfl))
  t0 := Tryz.underlying0
  a0 := Tryz.isAgg0
  z0 := Tryz.sizeOf0
  v0 := Tryz.zeroValue0
  t3 := Tryz.underlying3
  a3 := Tryz.isAgg3
  z3 := Tryz.sizeOf3
  v3 := Tryz.zeroValue3
  t4 := Tryz.underlying4
  a4 := Tryz.isAgg4
  z4 := Tryz.sizeOf4
  v4 := Tryz.zeroValue4
  t9 := Tryz.underlying9
  a9 := Tryz.isAgg9
  z9 := Tryz.sizeOf9
  v9 := Tryz.zeroValue9
  t20 := Tryz.underlying20
  a20 := Tryz.isAgg20
  z20 := Tryz.sizeOf20
  v20 := Tryz.zeroValue20
  t31 := Tryz.underlying25
  a31 := Tryz.isAgg25
  z31 := Tryz.sizeOf25
  v31 := Tryz.zeroValue25
  t37 := Tryz.underlying207
  a37 := Tryz.isAgg207
  z37 := Tryz.sizeOf207
  v37 := Tryz.zeroValue207
  t70 := Tryz.underlying206
  a70 := Tryz.isAgg206
  z70 := Tryz.sizeOf206
  v70 := Tryz.zeroValue206
  t72 := Tryz.underlying209
  a72 := Tryz.isAgg209
  z72 := Tryz.sizeOf209
  v72 := Tryz.zeroValue209
  t75 := Tryz.underlying212
  a75 := Tryz.isAgg212
  z75 := Tryz.sizeOf212
  v75 := Tryz.zeroValue212
  t76 := Tryz.underlying213
  a76 := Tryz.isAgg213
  z76 := Tryz.sizeOf213
  v76 := Tryz.zeroValue213
  t127 := Tryz.underlying234
  a127 := Tryz.isAgg234
  z127 := Tryz.sizeOf234
  v127 := Tryz.zeroValue234
  t164 := Tryz.underlying243
  a164 := Tryz.isAgg243
  z164 := Tryz.sizeOf243
  v164 := Tryz.zeroValue243 }
theorem Tryz.Builder_Extra_156 : Builder.Extra Tryz.prog Tryz.lays156_ren := {
  sizeBuilder := by kernel_rfl
  liesBuilder := by kernel_rfl
  t5 := Tryz.underlying5
  a5 := Tryz.isAgg5
  z5 := Tryz.sizeOf5
  v5 := Tryz.zeroValue5
  infoByte := by kernel_rfl
  cellsByte := by kernel_rfl
  sizeByte := by kernel_rfl
  neB5 := by decide }
open Go.RowKit in
/-- No element: the empty string; the world is as it was. (Whatever the slice's address and capacity: a nil slice too.) (LAID: no walk: one application.) -/
theorem Tryz.strings_Join_none (a : Option Addr) (c : Nat) (sep : ByteArray) (w : World) :
    Calls Tryz.prog 178 #[.slice a 0 c, .string sep] w fun e w' => e = .returned (.string ⟨#[]⟩) ∧ w' = w := Any.strings_Join_none Tryz.lays156 Tryz.Builder_Extra_156 a c sep w
open Go.RowKit in
/-- strings.Join: "Join concatenates the elements of its first argument to create a single string. The separator string sep is placed between elements in the resulting string.": HOWEVER MANY ELEMENTS. Below the heap's end the world is as it was. (LAID: no walk: one application.) -/
theorem Tryz.strings_Join (bk o c : Nat) (xs : List ByteArray) (sep : ByteArray) (w : World) (hcells : ∀ (j : Nat) x, xs[j]? = some x → w.cell? ⟨bk, o + j, none⟩ = some (.string x)) (hbk : bk < w.heap.size) (hN : xs.length ≤ 140737488355328) (hcap : xs.length ≤ c) (hlen : (Lib.join (xs.map (·.data.toList)) sep.data.toList).length ≤ 140737488355328) :
    Calls Tryz.prog 178 #[.slice (some ⟨bk, o, none⟩) xs.length c, .string sep] w fun e w' => e = .returned (.string ⟨(Lib.join (xs.map (·.data.toList)) sep.data.toList).toArray⟩) ∧ Below w.heap.size w w' := Any.strings_Join Tryz.lays156 Tryz.Builder_Extra_156 bk o c xs sep w hcells hbk hN hcap hlen
def Tryz.laysM171_ren : Go.Shelf.Ren := ⟨fun | 171 => 177 | 243 => 217 | 246 => 241 | 283 => 257 | 284 => 258 | 285 => 259 | 286 => 260 | 129 => 267 | 317 => 266 | 318 => 268 | 319 => 269 | 320 => 270 | 337 => 274 | 338 => 275 | n => n, fun | 3 => 3 | 9 => 9 | 2 => 2 | 4 => 4 | 171 => 255 | 0 => 0 | 53 => 42 | 37 => 207 | 5 => 5 | 173 => 258 | 212 => 266 | 51 => 229 | 20 => 20 | 213 => 267 | 46 => 51 | 232 => 275 | 233 => 276 | n => n, fun | 17 => 1 | 18 => 2 | 19 => 3 | n => n⟩
theorem Tryz.laysM171 : Go.Proofs.LaysM.n171 Tryz.prog Tryz.laysM171_ren := {
  mixed := by kernel_rfl
  f129 := Tryz.func267.trans (congrArg some (by kernel_rfl))
  f171 := Tryz.func177.trans (congrArg some (by kernel_rfl))
  f243 := Tryz.func217.trans (congrArg some (by kernel_rfl))
  f246 := Tryz.func241.trans (congrArg some (by kernel_rfl))
  f283 := Tryz.func257.trans (congrArg some (by kernel_rfl))
  f284 := Tryz.func258.trans (congrArg some (by kernel_rfl))
  f285 := Tryz.func259.trans (congrArg some (by kernel_rfl))
  f286 := Tryz.func260.trans (congrArg some (by kernel_rfl))
  f317 := Tryz.func266.trans (congrArg some (by kernel_rfl))
  f318 := Tryz.func268.trans (congrArg some (by kernel_rfl))
  f319 := Tryz.func269.trans (congrArg some (by kernel_rfl))
  f320 := Tryz.func270.trans (congrArg some (by kernel_rfl))
  f337 := Tryz.func274.trans (congrArg some (by kernel_rfl))
  f338 := Tryz.func275.trans (congrArg some (by kernel_rfl))
  t0 := Tryz.underlying0
  a0 := Tryz.isAgg0
  z0 := Tryz.sizeOf0
  v0 := Tryz.zeroValue0
  t2 := Tryz.underlying2
  a2 := Tryz.isAgg2
  z2 := Tryz.sizeOf2
  v2 := Tryz.zeroValue2
  t3 := Tryz.underlying3
  a3 := Tryz.isAgg3
  z3 := Tryz.sizeOf3
  v3 := Tryz.zeroValue3
  t4 := Tryz.underlying4
  a4 := Tryz.isAgg4
  z4 := Tryz.sizeOf4
  v4 := Tryz.zeroValue4
  t5 := Tryz.underlying5
  a5 := Tryz.isAgg5
  z5 := Tryz.sizeOf5
  v5 := Tryz.zeroValue5
  t9 := Tryz.underlying9
  a9 := Tryz.isAgg9
  z9 := Tryz.sizeOf9
  v9 := Tryz.zeroValue9
  t20 := Tryz.underlying20
  a20 := Tryz.isAgg20
  z20 := Tryz.sizeOf20
  v20 := Tryz.zeroValue20
  t37 := Tryz.underlying207
  a37 := Tryz.isAgg207
  z37 := Tryz.sizeOf207
  v37 := Tryz.zeroValue207
  t46 := Tryz.underlying51
  a46 := Tryz.isAgg51
  z46 := Tryz.sizeOf51
  v46 := Tryz.zeroValue51
  t51 := Tryz.underlying229
  a51 := Tryz.isAgg229
  z51 := Tryz.sizeOf229
  v51 := Tryz.zeroValue229
  t53 := Tryz.underlying42
  a53 := Tryz.isAgg42
  z53 := Tryz.sizeOf42
  v53 := Tryz.zeroValue42
  t171 := Tryz.underlying255
  a171 := Tryz.isAgg255
  z171 := Tryz.sizeOf255
  v171 := Tryz.zeroValue255
  t173 := Tryz.underlying258
  a173 := Tryz.isAgg258
  z173 := Tryz.sizeOf258
  v173 := Tryz.zeroValue258
  t212 := Tryz.underlying266
  a212 := Tryz.isAgg266
  z212 := Tryz.sizeOf266
  v212 := Tryz.zeroValue266
  t213 := Tryz.underlying267
  a213 := Tryz.isAgg267
  z213 := Tryz.sizeOf267
  t232 := Tryz.underlying275
  a232 := Tryz.isAgg275
  z232 := Tryz.sizeOf275
  v232 := Tryz.zeroValue275
  t233 := Tryz.underlying276
  a233 := Tryz.isAgg276
  z233 := Tryz.sizeOf276
  v233 := Tryz.zeroValue276
  g17 := by kernel_rfl
  g18 := by kernel_rfl
  g19 := by kernel_rfl
  i0 := by kernel_rfl
  i2 := by kernel_rfl
  i3 := by kernel_rfl
  i4 := by kernel_rfl
  i5 := by kernel_rfl
  i9 := by kernel_rfl
  i20 := by kernel_rfl
  i37 := by kernel_rfl
  i46 := by kernel_rfl
  i51 := by kernel_rfl
  i53 := by kernel_rfl
  i171 := by kernel_rfl
  i173 := by kernel_rfl
  i212 := by kernel_rfl
  i232 := by kernel_rfl
  i233 := by kernel_rfl
  m17 := by kernel_rfl
  m18 := by kernel_rfl
  m19 := by kernel_rfl }
open Go.RowKit Go.Sort Go.Lib in
/-- strconv.Itoa: "Itoa is equivalent to FormatInt(int64(i), 10).": i's DECIMAL NUMERAL ('Lib.itoa': a '-' where i is negative, then the digits), FOR EVERY int. The world behind the call: the world before it, new blocks behind the heap (the library's 'var a [24]byte'), draws. (LAID: no walk: one application.) -/
theorem Tryz.strconv_Itoa (n : Int) (h0 : -9223372036854775808 ≤ n) (h1 : n ≤ 9223372036854775807) (w : World) (htab : Lib.TabIs Tryz.prog w "internal/strconv.uint64pow10" .u64 Lib.pow10Tab) :
    Calls Tryz.prog 177 #[.int .i64 n] w fun e w' => e = .returned (.string ⟨(Lib.itoa n).toArray⟩) ∧ ∃ k os, w' = grow (w.drewN k) os := Any.strconv_Itoa Tryz.laysM171 n h0 h1 w htab
end Go.Proofs
