/-
  DERIVED: THE SHELF's CONTRACTS AT THIS DUMP, IN PLAIN WORDS (tools/lay-plain.mjs out of 'TryzShelf.lean', which tools/lay-shelf.mjs wrote): THE SAME DECLARATIONS UNDER THE SAME NAMES: 'import', 'namespace', 'open', 'def', 'theorem' AND NOTHING ELSE: no command of the shelf's: FOR A HAND-IN. Each laying: the table of numbers ('.._ren') and one theorem, a field a fact of the dump's own or the kernel's comparison; each contract: ONE APPLICATION.
-/
import Derived.Shelf.Strings.Builder1
import Derived.Shelf.Strings.Builder2
import Derived.Shelf.Strings.BuilderF
import Derived.Shelf.Strconv.Itoa0
import Derived.Shelf.Strconv.Itoa1
import Derived.Shelf.LaysM
import Derived.Shelf.Strconv.Itoa2
import Derived.Shelf.Strconv.Itoa3
import Derived.Shelf.Strconv.Itoa4
import Derived.Shelf.Strings.Prefix
import Derived.Shelf.Bits.Mul64
import Derived.Shelf.Strings.Repeat
import Derived.Test.YtepmblomgmghcaaGreatDoorProg
namespace Go.Proofs
open Go.Shelf
def Tryz.laysM173_ren : Go.Shelf.Ren := ⟨fun | 173 => 194 | 246 => 213 | 283 => 233 | 284 => 234 | 285 => 235 | 286 => 236 | 129 => 189 | 317 => 246 | 318 => 247 | 319 => 248 | 320 => 249 | 337 => 253 | 338 => 254 | n => n, fun | 2 => 2 | 3 => 3 | 9 => 9 | 4 => 4 | 171 => 284 | 0 => 0 | 53 => 157 | 37 => 22 | 5 => 5 | 173 => 286 | 212 => 299 | 51 => 160 | 20 => 20 | 213 => 300 | 46 => 201 | 232 => 304 | 233 => 305 | n => n, fun | 17 => 19 | 18 => 21 | 19 => 22 | n => n⟩
theorem Tryz.laysM173 : Go.Proofs.LaysM.n173 Tryz.prog Tryz.laysM173_ren := {
  mixed := by kernel_rfl
  f129 := Tryz.func189.trans (congrArg some (by kernel_rfl))
  f173 := Tryz.func194.trans (congrArg some (by kernel_rfl))
  f246 := Tryz.func213.trans (congrArg some (by kernel_rfl))
  f283 := Tryz.func233.trans (congrArg some (by kernel_rfl))
  f284 := Tryz.func234.trans (congrArg some (by kernel_rfl))
  f285 := Tryz.func235.trans (congrArg some (by kernel_rfl))
  f286 := Tryz.func236.trans (congrArg some (by kernel_rfl))
  f317 := Tryz.func246.trans (congrArg some (by kernel_rfl))
  f318 := Tryz.func247.trans (congrArg some (by kernel_rfl))
  f319 := Tryz.func248.trans (congrArg some (by kernel_rfl))
  f320 := Tryz.func249.trans (congrArg some (by kernel_rfl))
  f337 := Tryz.func253.trans (congrArg some (by kernel_rfl))
  f338 := Tryz.func254.trans (congrArg some (by kernel_rfl))
  t0 := Tryz.underlying0
  a0 := Tryz.isAgg0
  z0 := Tryz.sizeOf0
  v0 := Tryz.zeroValue0
  t2 := Tryz.underlying2
  a2 := Tryz.isAgg2
  z2 := Tryz.sizeOf2
  v2 := Tryz.zeroValue2
  t3 := Tryz.underlying3
  a3 := Tryz.isAgg3
  z3 := Tryz.sizeOf3
  v3 := Tryz.zeroValue3
  t4 := Tryz.underlying4
  a4 := Tryz.isAgg4
  z4 := Tryz.sizeOf4
  v4 := Tryz.zeroValue4
  t5 := Tryz.underlying5
  a5 := Tryz.isAgg5
  z5 := Tryz.sizeOf5
  v5 := Tryz.zeroValue5
  t9 := Tryz.underlying9
  a9 := Tryz.isAgg9
  z9 := Tryz.sizeOf9
  v9 := Tryz.zeroValue9
  t20 := Tryz.underlying20
  a20 := Tryz.isAgg20
  z20 := Tryz.sizeOf20
  v20 := Tryz.zeroValue20
  t37 := Tryz.underlying22
  a37 := Tryz.isAgg22
  z37 := Tryz.sizeOf22
  v37 := Tryz.zeroValue22
  t46 := Tryz.underlying201
  a46 := Tryz.isAgg201
  z46 := Tryz.sizeOf201
  v46 := Tryz.zeroValue201
  t51 := Tryz.underlying160
  a51 := Tryz.isAgg160
  z51 := Tryz.sizeOf160
  v51 := Tryz.zeroValue160
  t53 := Tryz.underlying157
  a53 := Tryz.isAgg157
  z53 := Tryz.sizeOf157
  v53 := Tryz.zeroValue157
  t171 := Tryz.underlying284
  a171 := Tryz.isAgg284
  z171 := Tryz.sizeOf284
  v171 := Tryz.zeroValue284
  t173 := Tryz.underlying286
  a173 := Tryz.isAgg286
  z173 := Tryz.sizeOf286
  v173 := Tryz.zeroValue286
  t212 := Tryz.underlying299
  a212 := Tryz.isAgg299
  z212 := Tryz.sizeOf299
  v212 := Tryz.zeroValue299
  t213 := Tryz.underlying300
  a213 := Tryz.isAgg300
  z213 := Tryz.sizeOf300
  t232 := Tryz.underlying304
  a232 := Tryz.isAgg304
  z232 := Tryz.sizeOf304
  v232 := Tryz.zeroValue304
  t233 := Tryz.underlying305
  a233 := Tryz.isAgg305
  z233 := Tryz.sizeOf305
  v233 := Tryz.zeroValue305
  g17 := by kernel_rfl
  g18 := by kernel_rfl
  g19 := by kernel_rfl
  i0 := by kernel_rfl
  i2 := by kernel_rfl
  i3 := by kernel_rfl
  i4 := by kernel_rfl
  i5 := by kernel_rfl
  i9 := by kernel_rfl
  i20 := by kernel_rfl
  i37 := by kernel_rfl
  i46 := by kernel_rfl
  i51 := by kernel_rfl
  i53 := by kernel_rfl
  i171 := by kernel_rfl
  i173 := by kernel_rfl
  i212 := by kernel_rfl
  i232 := by kernel_rfl
  i233 := by kernel_rfl
  m17 := by kernel_rfl
  m18 := by kernel_rfl
  m19 := by kernel_rfl }
open Go.RowKit Go.Sort Go.Lib in
/-- strconv.FormatInt: "FormatInt returns the string representation of i in the given base": AT BASE 10: i's decimal numeral, for every int64. (LAID: no walk: one application.) -/
theorem Tryz.strconv_FormatInt_10 (n : Int) (h0 : -9223372036854775808 ≤ n) (h1 : n ≤ 9223372036854775807) (w : World) (htab : Lib.TabIs Tryz.prog w "internal/strconv.uint64pow10" .u64 Lib.pow10Tab) :
    Calls Tryz.prog 194 #[.int .i64 n, .int .i64 10] w fun e w' => e = .returned (.string ⟨(Lib.itoa n).toArray⟩) ∧ ∃ k os, w' = grow (w.drewN k) os := Any.strconv_FormatInt_10 Tryz.laysM173 n h0 h1 w htab
def Tryz.lays105_ren : Go.Shelf.Ren := ⟨fun | 105 => 195 | 212 => 214 | 99 => 215 | 165 => 216 | 166 => 217 | 170 => 218 | 169 => 219 | 263 => 237 | 264 => 238 | 206 => 206 | 240 => 239 | 241 => 240 | 276 => 250 | 277 => 251 | n => n, fun | 9 => 9 | 3 => 3 | 4 => 4 | 20 => 20 | 0 => 0 | 46 => 201 | 109 => 265 | 5 => 5 | 72 => 269 | 76 => 114 | 51 => 160 | 146 => 288 | 53 => 157 | 148 => 290 | 70 => 267 | 37 => 22 | 75 => 27 | 127 => 292 | 164 => 301 | 80 => 270 | n => n, fun | n => n⟩
theorem Tryz.lays105 : Go.Proofs.Lays.n105 Tryz.prog Tryz.lays105_ren := {
  mixed := by kernel_rfl
  f99 := Tryz.func215.trans (congrArg some (by kernel_rfl))
  f105 := Tryz.func195.trans (congrArg some (by kernel_rfl))
  f165 := Tryz.func216.trans (congrArg some (by kernel_rfl))
  f166 := Tryz.func217.trans (congrArg some (by kernel_rfl))
  f169 := Tryz.func219.trans (congrArg some (by kernel_rfl))
  f170 := Tryz.func218.trans (congrArg some (by kernel_rfl))
  f206 := Tryz.func206.trans (congrArg some (by kernel_rfl))
  f212 := Tryz.func214.trans (congrArg some (by kernel_rfl))
  f240 := Tryz.func239.trans (congrArg some (by kernel_rfl))
  f241 := Tryz.func240.trans (congrArg some (by kernel_rfl))
  f263 := Tryz.func237.trans (congrArg some (by kernel_rfl))
  f264 := Tryz.func238.trans (congrArg some (by kernel_rfl))
  f276 := Tryz.func250.trans (congrArg some (by kernel_rfl))
  f277 := Tryz.func251.trans (congrArg some (by kernel_rfl))
  t0 := Tryz.underlying0
  a0 := Tryz.isAgg0
  z0 := Tryz.sizeOf0
  v0 := Tryz.zeroValue0
  t3 := Tryz.underlying3
  a3 := Tryz.isAgg3
  z3 := Tryz.sizeOf3
  v3 := Tryz.zeroValue3
  t4 := Tryz.underlying4
  a4 := Tryz.isAgg4
  z4 := Tryz.sizeOf4
  v4 := Tryz.zeroValue4
  t5 := Tryz.underlying5
  a5 := Tryz.isAgg5
  z5 := Tryz.sizeOf5
  v5 := Tryz.zeroValue5
  t9 := Tryz.underlying9
  a9 := Tryz.isAgg9
  z9 := Tryz.sizeOf9
  v9 := Tryz.zeroValue9
  t20 := Tryz.underlying20
  a20 := Tryz.isAgg20
  z20 := Tryz.sizeOf20
  v20 := Tryz.zeroValue20
  t37 := Tryz.underlying22
  a37 := Tryz.isAgg22
  z37 := Tryz.sizeOf22
  v37 := Tryz.zeroValue22
  t46 := Tryz.underlying201
  a46 := Tryz.isAgg201
  z46 := Tryz.sizeOf201
  v46 := Tryz.zeroValue201
  t51 := Tryz.underlying160
  a51 := Tryz.isAgg160
  z51 := Tryz.sizeOf160
  v51 := Tryz.zeroValue160
  t53 := Tryz.underlying157
  a53 := Tryz.isAgg157
  z53 := Tryz.sizeOf157
  v53 := Tryz.zeroValue157
  t70 := Tryz.underlying267
  a70 := Tryz.isAgg267
  z70 := Tryz.sizeOf267
  v70 := Tryz.zeroValue267
  t72 := Tryz.underlying269
  a72 := Tryz.isAgg269
  z72 := Tryz.sizeOf269
  v72 := Tryz.zeroValue269
  t75 := Tryz.underlying27
  a75 := Tryz.isAgg27
  z75 := Tryz.sizeOf27
  v75 := Tryz.zeroValue27
  t76 := Tryz.underlying114
  a76 := Tryz.isAgg114
  z76 := Tryz.sizeOf114
  v76 := Tryz.zeroValue114
  t109 := Tryz.underlying265
  a109 := Tryz.isAgg265
  z109 := Tryz.sizeOf265
  v109 := Tryz.zeroValue265
  t127 := Tryz.underlying292
  a127 := Tryz.isAgg292
  z127 := Tryz.sizeOf292
  v127 := Tryz.zeroValue292
  t146 := Tryz.underlying288
  a146 := Tryz.isAgg288
  z146 := Tryz.sizeOf288
  v146 := Tryz.zeroValue288
  t148 := Tryz.underlying290
  a148 := Tryz.isAgg290
  z148 := Tryz.sizeOf290
  v148 := Tryz.zeroValue290
  t164 := Tryz.underlying301
  a164 := Tryz.isAgg301
  z164 := Tryz.sizeOf301
  v164 := Tryz.zeroValue301 }
theorem Tryz.Builder_Extra_105 : Builder.Extra Tryz.prog Tryz.lays105_ren := {
  sizeBuilder := by kernel_rfl
  liesBuilder := by kernel_rfl
  t5 := Tryz.underlying5
  a5 := Tryz.isAgg5
  z5 := Tryz.sizeOf5
  v5 := Tryz.zeroValue5
  infoByte := by kernel_rfl
  cellsByte := by kernel_rfl
  sizeByte := by kernel_rfl
  neB5 := by decide }
open Go.RowKit Go.Lib in
/-- **strings.Repeat: count ≥ 0, the result within one allocation: count copies of s.** (LAID: no walk: one application.) -/
theorem Tryz.strings_Repeat (s : ByteArray) (c : Nat) (w : World) (hc : c ≤ 9223372036854775807) (hlen : s.size * c ≤ 140737488355328) :
    Calls Tryz.prog 195 #[.string s, .int .i64 c] w fun e w' => e = .returned (.string ⟨(Lib.repeatL s.data.toList c).toArray⟩) ∧ Below w.heap.size w w' := Any.strings_Repeat Tryz.lays105 Tryz.Builder_Extra_105 s c w hc hlen
end Go.Proofs
