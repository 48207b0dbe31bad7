/-
  DERIVED: THE SHELF's CONTRACTS AT THIS DUMP, IN PLAIN WORDS (tools/lay-plain.mjs out of 'TryzShelf.lean', which tools/lay-shelf.mjs wrote): THE SAME DECLARATIONS UNDER THE SAME NAMES: 'import', 'namespace', 'open', 'def', 'theorem' AND NOTHING ELSE: no command of the shelf's: FOR A HAND-IN. Each laying: the table of numbers ('.._ren') and one theorem, a field a fact of the dump's own or the kernel's comparison; each contract: ONE APPLICATION.
-/
import Derived.Shelf.Strings.Builder1
import Derived.Shelf.Strings.Builder2
import Derived.Shelf.Strings.BuilderF
import Derived.Shelf.Strconv.Itoa0
import Derived.Shelf.Strconv.Itoa1
import Derived.Shelf.LaysM
import Derived.Shelf.Strconv.Itoa2
import Derived.Shelf.Strconv.Itoa3
import Derived.Shelf.Strconv.Itoa4
import Derived.Shelf.Strings.Prefix
import Derived.Shelf.Bits.Mul64
import Derived.Shelf.Strings.Repeat
import Derived.Test.YtlkkagjpapjehaaGreatDoorProg
namespace Go.Proofs
open Go.Shelf
def Tryz.laysM173_ren : Go.Shelf.Ren := ⟨fun | 173 => 149 | 246 => 162 | 283 => 172 | 284 => 173 | 285 => 174 | 286 => 175 | 129 => 140 | 317 => 181 | 318 => 182 | 319 => 183 | 320 => 184 | 337 => 187 | 338 => 188 | n => n, fun | 2 => 2 | 3 => 3 | 9 => 9 | 4 => 4 | 171 => 231 | 0 => 0 | 53 => 109 | 37 => 44 | 5 => 5 | 173 => 233 | 212 => 242 | 51 => 112 | 20 => 20 | 213 => 243 | 46 => 157 | 232 => 246 | 233 => 247 | n => n, fun | 17 => 19 | 18 => 21 | 19 => 22 | n => n⟩
theorem Tryz.laysM173 : Go.Proofs.LaysM.n173 Tryz.prog Tryz.laysM173_ren := {
  mixed := by kernel_rfl
  f129 := Tryz.func140.trans (congrArg some (by kernel_rfl))
  f173 := Tryz.func149.trans (congrArg some (by kernel_rfl))
  f246 := Tryz.func162.trans (congrArg some (by kernel_rfl))
  f283 := Tryz.func172.trans (congrArg some (by kernel_rfl))
  f284 := Tryz.func173.trans (congrArg some (by kernel_rfl))
  f285 := Tryz.func174.trans (congrArg some (by kernel_rfl))
  f286 := Tryz.func175.trans (congrArg some (by kernel_rfl))
  f317 := Tryz.func181.trans (congrArg some (by kernel_rfl))
  f318 := Tryz.func182.trans (congrArg some (by kernel_rfl))
  f319 := Tryz.func183.trans (congrArg some (by kernel_rfl))
  f320 := Tryz.func184.trans (congrArg some (by kernel_rfl))
  f337 := Tryz.func187.trans (congrArg some (by kernel_rfl))
  f338 := Tryz.func188.trans (congrArg some (by kernel_rfl))
  t0 := Tryz.underlying0
  a0 := Tryz.isAgg0
  z0 := Tryz.sizeOf0
  v0 := Tryz.zeroValue0
  t2 := Tryz.underlying2
  a2 := Tryz.isAgg2
  z2 := Tryz.sizeOf2
  v2 := Tryz.zeroValue2
  t3 := Tryz.underlying3
  a3 := Tryz.isAgg3
  z3 := Tryz.sizeOf3
  v3 := Tryz.zeroValue3
  t4 := Tryz.underlying4
  a4 := Tryz.isAgg4
  z4 := Tryz.sizeOf4
  v4 := Tryz.zeroValue4
  t5 := Tryz.underlying5
  a5 := Tryz.isAgg5
  z5 := Tryz.sizeOf5
  v5 := Tryz.zeroValue5
  t9 := Tryz.underlying9
  a9 := Tryz.isAgg9
  z9 := Tryz.sizeOf9
  v9 := Tryz.zeroValue9
  t20 := Tryz.underlying20
  a20 := Tryz.isAgg20
  z20 := Tryz.sizeOf20
  v20 := Tryz.zeroValue20
  t37 := Tryz.underlying44
  a37 := Tryz.isAgg44
  z37 := Tryz.sizeOf44
  v37 := Tryz.zeroValue44
  t46 := Tryz.underlying157
  a46 := Tryz.isAgg157
  z46 := Tryz.sizeOf157
  v46 := Tryz.zeroValue157
  t51 := Tryz.underlying112
  a51 := Tryz.isAgg112
  z51 := Tryz.sizeOf112
  v51 := Tryz.zeroValue112
  t53 := Tryz.underlying109
  a53 := Tryz.isAgg109
  z53 := Tryz.sizeOf109
  v53 := Tryz.zeroValue109
  t171 := Tryz.underlying231
  a171 := Tryz.isAgg231
  z171 := Tryz.sizeOf231
  v171 := Tryz.zeroValue231
  t173 := Tryz.underlying233
  a173 := Tryz.isAgg233
  z173 := Tryz.sizeOf233
  v173 := Tryz.zeroValue233
  t212 := Tryz.underlying242
  a212 := Tryz.isAgg242
  z212 := Tryz.sizeOf242
  v212 := Tryz.zeroValue242
  t213 := Tryz.underlying243
  a213 := Tryz.isAgg243
  z213 := Tryz.sizeOf243
  t232 := Tryz.underlying246
  a232 := Tryz.isAgg246
  z232 := Tryz.sizeOf246
  v232 := Tryz.zeroValue246
  t233 := Tryz.underlying247
  a233 := Tryz.isAgg247
  z233 := Tryz.sizeOf247
  v233 := Tryz.zeroValue247
  g17 := by kernel_rfl
  g18 := by kernel_rfl
  g19 := by kernel_rfl
  i0 := by kernel_rfl
  i2 := by kernel_rfl
  i3 := by kernel_rfl
  i4 := by kernel_rfl
  i5 := by kernel_rfl
  i9 := by kernel_rfl
  i20 := by kernel_rfl
  i37 := by kernel_rfl
  i46 := by kernel_rfl
  i51 := by kernel_rfl
  i53 := by kernel_rfl
  i171 := by kernel_rfl
  i173 := by kernel_rfl
  i212 := by kernel_rfl
  i232 := by kernel_rfl
  i233 := by kernel_rfl
  m17 := by kernel_rfl
  m18 := by kernel_rfl
  m19 := by kernel_rfl }
open Go.RowKit Go.Sort Go.Lib in
/-- strconv.FormatInt: "FormatInt returns the string representation of i in the given base": AT BASE 10: i's decimal numeral, for every int64. (LAID: no walk: one application.) -/
theorem Tryz.strconv_FormatInt_10 (n : Int) (h0 : -9223372036854775808 ≤ n) (h1 : n ≤ 9223372036854775807) (w : World) (htab : Lib.TabIs Tryz.prog w "internal/strconv.uint64pow10" .u64 Lib.pow10Tab) :
    Calls Tryz.prog 149 #[.int .i64 n, .int .i64 10] w fun e w' => e = .returned (.string ⟨(Lib.itoa n).toArray⟩) ∧ ∃ k os, w' = grow (w.drewN k) os := Any.strconv_FormatInt_10 Tryz.laysM173 n h0 h1 w htab
def Tryz.lays105_ren : Go.Shelf.Ren := ⟨fun | 105 => 150 | 212 => 163 | 99 => 164 | 165 => 165 | 166 => 166 | 170 => 167 | 169 => 168 | 263 => 176 | 264 => 177 | 206 => 178 | 240 => 179 | 241 => 180 | 276 => 185 | 277 => 186 | n => n, fun | 9 => 9 | 3 => 3 | 4 => 4 | 20 => 20 | 0 => 0 | 46 => 157 | 109 => 216 | 5 => 5 | 72 => 221 | 76 => 81 | 51 => 112 | 146 => 235 | 53 => 109 | 148 => 237 | 70 => 219 | 37 => 44 | 75 => 34 | 127 => 239 | 164 => 244 | 80 => 222 | n => n, fun | n => n⟩
theorem Tryz.lays105 : Go.Proofs.Lays.n105 Tryz.prog Tryz.lays105_ren := {
  mixed := by kernel_rfl
  f99 := Tryz.func164.trans (congrArg some (by kernel_rfl))
  f105 := Tryz.func150.trans (congrArg some (by kernel_rfl))
  f165 := Tryz.func165.trans (congrArg some (by kernel_rfl))
  f166 := Tryz.func166.trans (congrArg some (by kernel_rfl))
  f169 := Tryz.func168.trans (congrArg some (by kernel_rfl))
  f170 := Tryz.func167.trans (congrArg some (by kernel_rfl))
  f206 := Tryz.func178.trans (congrArg some (by kernel_rfl))
  f212 := Tryz.func163.trans (congrArg some (by kernel_rfl))
  f240 := Tryz.func179.trans (congrArg some (by kernel_rfl))
  f241 := Tryz.func180.trans (congrArg some (by kernel_rfl))
  f263 := Tryz.func176.trans (congrArg some (by kernel_rfl))
  f264 := Tryz.func177.trans (congrArg some (by kernel_rfl))
  f276 := Tryz.func185.trans (congrArg some (by kernel_rfl))
  f277 := Tryz.func186.trans (congrArg some (by kernel_rfl))
  t0 := Tryz.underlying0
  a0 := Tryz.isAgg0
  z0 := Tryz.sizeOf0
  v0 := Tryz.zeroValue0
  t3 := Tryz.underlying3
  a3 := Tryz.isAgg3
  z3 := Tryz.sizeOf3
  v3 := Tryz.zeroValue3
  t4 := Tryz.underlying4
  a4 := Tryz.isAgg4
  z4 := Tryz.sizeOf4
  v4 := Tryz.zeroValue4
  t5 := Tryz.underlying5
  a5 := Tryz.isAgg5
  z5 := Tryz.sizeOf5
  v5 := Tryz.zeroValue5
  t9 := Tryz.underlying9
  a9 := Tryz.isAgg9
  z9 := Tryz.sizeOf9
  v9 := Tryz.zeroValue9
  t20 := Tryz.underlying20
  a20 := Tryz.isAgg20
  z20 := Tryz.sizeOf20
  v20 := Tryz.zeroValue20
  t37 := Tryz.underlying44
  a37 := Tryz.isAgg44
  z37 := Tryz.sizeOf44
  v37 := Tryz.zeroValue44
  t46 := Tryz.underlying157
  a46 := Tryz.isAgg157
  z46 := Tryz.sizeOf157
  v46 := Tryz.zeroValue157
  t51 := Tryz.underlying112
  a51 := Tryz.isAgg112
  z51 := Tryz.sizeOf112
  v51 := Tryz.zeroValue112
  t53 := Tryz.underlying109
  a53 := Tryz.isAgg109
  z53 := Tryz.sizeOf109
  v53 := Tryz.zeroValue109
  t70 := Tryz.underlying219
  a70 := Tryz.isAgg219
  z70 := Tryz.sizeOf219
  v70 := Tryz.zeroValue219
  t72 := Tryz.underlying221
  a72 := Tryz.isAgg221
  z72 := Tryz.sizeOf221
  v72 := Tryz.zeroValue221
  t75 := Tryz.underlying34
  a75 := Tryz.isAgg34
  z75 := Tryz.sizeOf34
  v75 := Tryz.zeroValue34
  t76 := Tryz.underlying81
  a76 := Tryz.isAgg81
  z76 := Tryz.sizeOf81
  v76 := Tryz.zeroValue81
  t109 := Tryz.underlying216
  a109 := Tryz.isAgg216
  z109 := Tryz.sizeOf216
  v109 := Tryz.zeroValue216
  t127 := Tryz.underlying239
  a127 := Tryz.isAgg239
  z127 := Tryz.sizeOf239
  v127 := Tryz.zeroValue239
  t146 := Tryz.underlying235
  a146 := Tryz.isAgg235
  z146 := Tryz.sizeOf235
  v146 := Tryz.zeroValue235
  t148 := Tryz.underlying237
  a148 := Tryz.isAgg237
  z148 := Tryz.sizeOf237
  v148 := Tryz.zeroValue237
  t164 := Tryz.underlying244
  a164 := Tryz.isAgg244
  z164 := Tryz.sizeOf244
  v164 := Tryz.zeroValue244 }
theorem Tryz.Builder_Extra_105 : Builder.Extra Tryz.prog Tryz.lays105_ren := {
  sizeBuilder := by kernel_rfl
  liesBuilder := by kernel_rfl
  t5 := Tryz.underlying5
  a5 := Tryz.isAgg5
  z5 := Tryz.sizeOf5
  v5 := Tryz.zeroValue5
  infoByte := by kernel_rfl
  cellsByte := by kernel_rfl
  sizeByte := by kernel_rfl
  neB5 := by decide }
open Go.RowKit Go.Lib in
/-- **strings.Repeat: count ≥ 0, the result within one allocation: count copies of s.** (LAID: no walk: one application.) -/
theorem Tryz.strings_Repeat (s : ByteArray) (c : Nat) (w : World) (hc : c ≤ 9223372036854775807) (hlen : s.size * c ≤ 140737488355328) :
    Calls Tryz.prog 150 #[.string s, .int .i64 c] w fun e w' => e = .returned (.string ⟨(Lib.repeatL s.data.toList c).toArray⟩) ∧ Below w.heap.size w w' := Any.strings_Repeat Tryz.lays105 Tryz.Builder_Extra_105 s c w hc hlen
end Go.Proofs
