/-
  DERIVED: THE SHELF's CONTRACTS AT THIS DUMP, IN PLAIN WORDS (tools/lay-plain.mjs out of 'TryzShelf.lean', which tools/lay-shelf.mjs wrote): THE SAME DECLARATIONS UNDER THE SAME NAMES: 'import', 'namespace', 'open', 'def', 'theorem' AND NOTHING ELSE: no command of the shelf's: FOR A HAND-IN. Each laying: the table of numbers ('.._ren') and one theorem, a field a fact of the dump's own or the kernel's comparison; each contract: ONE APPLICATION.
-/
import Derived.Shelf.Strings.Builder1
import Derived.Shelf.Strings.Builder2
import Derived.Shelf.Strings.Trim
import Derived.Shelf.Small.Utf8
import Derived.Shelf.Small.Strs
import Derived.Shelf.Strings.BuilderF
import Derived.Shelf.Strings.BuilderK
import Derived.Shelf.Strings.Builder2Cap
import Derived.Shelf.Strconv.Itoa0
import Derived.Shelf.Strconv.Itoa1
import Derived.Shelf.LaysM
import Derived.Shelf.Strconv.Itoa2
import Derived.Shelf.Strconv.Itoa3
import Derived.Shelf.Strings.Search1
import Derived.Shelf.Strings.Search2
import Derived.Shelf.Strings.Cut
import Derived.Shelf.Strings.Shaped
import Derived.Shelf.Strings.Prefix
import Derived.Shelf.Unicode.Decode
import Derived.Shelf.Strings.Runes
import Derived.Shelf.Strings.AsciiSet
import Derived.Shelf.Bits.Mul64
import Derived.Shelf.Strings.Repeat
import Derived.Shelf.Unicode.DecodeSlow
import Derived.Shelf.Unicode.DecodeAny
import Derived.Shelf.Unicode.DecodeLast
import Derived.Shelf.Strings.BuilderCap
import Derived.Shelf.Slices.Reverse
import Derived.Ground.Names2Prog
import Derived.Shelf.Slices.Clone
import Derived.Shelf.Slices.Cells
import Derived.Ground.SlgnProg
import Derived.Shelf.SlicesE.Clone
import Derived.Test.YtbknmljjoahajaaGreatDoorProg
namespace Go.Proofs
open Go.Shelf
def Tryz.lays169_ren : Go.Shelf.Ren := ⟨fun | 169 => 49 | n => n, fun | 70 => 94 | 9 => 9 | 0 => 0 | 72 => 96 | 37 => 62 | 127 => 168 | 3 => 3 | 5 => 5 | n => n, fun | n => n⟩
theorem Tryz.lays169 : Go.Proofs.Lays.n169 Tryz.prog Tryz.lays169_ren := {
  mixed := by kernel_rfl
  f169 := Tryz.func49.trans (congrArg some (by kernel_rfl))
  t0 := Tryz.underlying0
  a0 := Tryz.isAgg0
  z0 := Tryz.sizeOf0
  v0 := Tryz.zeroValue0
  t3 := Tryz.underlying3
  a3 := Tryz.isAgg3
  z3 := Tryz.sizeOf3
  v3 := Tryz.zeroValue3
  t9 := Tryz.underlying9
  a9 := Tryz.isAgg9
  z9 := Tryz.sizeOf9
  v9 := Tryz.zeroValue9
  t37 := Tryz.underlying62
  a37 := Tryz.isAgg62
  z37 := Tryz.sizeOf62
  v37 := Tryz.zeroValue62
  t70 := Tryz.underlying94
  a70 := Tryz.isAgg94
  z70 := Tryz.sizeOf94
  v70 := Tryz.zeroValue94
  t72 := Tryz.underlying96
  a72 := Tryz.isAgg96
  z72 := Tryz.sizeOf96
  v72 := Tryz.zeroValue96
  t127 := Tryz.underlying168
  a127 := Tryz.isAgg168
  z127 := Tryz.sizeOf168
  v127 := Tryz.zeroValue168 }
theorem Tryz.Builder_Extra_169 : Builder.Extra Tryz.prog Tryz.lays169_ren := {
  sizeBuilder := by kernel_rfl
  liesBuilder := by kernel_rfl
  t5 := Tryz.underlying5
  a5 := Tryz.isAgg5
  z5 := Tryz.sizeOf5
  v5 := Tryz.zeroValue5
  infoByte := by kernel_rfl
  cellsByte := by kernel_rfl
  sizeByte := by kernel_rfl
  neB5 := by decide }
open Go.RowKit in
/-- (*strings.Builder).String: "String returns the accumulated string.": OF A BUILDER THAT HOLDS AT LEAST ONE BYTE. ✋ THE MODEL FREEZES THOSE BYTES IN THE BUFFER (unsafe.String): a later write INTO them ends the model's run without an answer; a later append BEHIND them goes on. The statement's order of evaluation is drawn: one draw. (LAID: no walk: one application.) -/
def Tryz.lays161_ren : Go.Shelf.Ren := ⟨fun | 161 => 163 | 231 => 196 | 227 => 197 | 233 => 198 | 235 => 199 | 228 => 253 | 197 => 254 | 151 => 255 | 260 => 306 | 152 => 307 | 137 => 342 | 119 => 343 | 224 => 258 | 225 => 257 | 217 => 256 | 266 => 308 | n => n, fun | 9 => 9 | 4 => 4 | 3 => 3 | 5 => 5 | 117 => 317 | 116 => 316 | 0 => 0 | 124 => 320 | 105 => 370 | 21 => 21 | 119 => 451 | 46 => 216 | 139 => 454 | 138 => 453 | n => n, fun | 3 => 4 | 4 => 5 | n => n⟩
theorem Tryz.lays161 : Go.Proofs.Lays.n161 Tryz.prog Tryz.lays161_ren := {
  mixed := by kernel_rfl
  f119 := Tryz.func343.trans (congrArg some (by kernel_rfl))
  f137 := Tryz.func342.trans (congrArg some (by kernel_rfl))
  f151 := Tryz.func255.trans (congrArg some (by kernel_rfl))
  f152 := Tryz.func307.trans (congrArg some (by kernel_rfl))
  f161 := Tryz.func163.trans (congrArg some (by kernel_rfl))
  f197 := Tryz.func254.trans (congrArg some (by kernel_rfl))
  f217 := Tryz.func256.trans (congrArg some (by kernel_rfl))
  f224 := Tryz.func258.trans (congrArg some (by kernel_rfl))
  f225 := Tryz.func257.trans (congrArg some (by kernel_rfl))
  f227 := Tryz.func197.trans (congrArg some (by kernel_rfl))
  f228 := Tryz.func253.trans (congrArg some (by kernel_rfl))
  f231 := Tryz.func196.trans (congrArg some (by kernel_rfl))
  f233 := Tryz.func198.trans (congrArg some (by kernel_rfl))
  f235 := Tryz.func199.trans (congrArg some (by kernel_rfl))
  f260 := Tryz.func306.trans (congrArg some (by kernel_rfl))
  f266 := Tryz.func308.trans (congrArg some (by kernel_rfl))
  t0 := Tryz.underlying0
  a0 := Tryz.isAgg0
  z0 := Tryz.sizeOf0
  v0 := Tryz.zeroValue0
  t3 := Tryz.underlying3
  a3 := Tryz.isAgg3
  z3 := Tryz.sizeOf3
  v3 := Tryz.zeroValue3
  t4 := Tryz.underlying4
  a4 := Tryz.isAgg4
  z4 := Tryz.sizeOf4
  v4 := Tryz.zeroValue4
  t5 := Tryz.underlying5
  a5 := Tryz.isAgg5
  z5 := Tryz.sizeOf5
  v5 := Tryz.zeroValue5
  t9 := Tryz.underlying9
  a9 := Tryz.isAgg9
  z9 := Tryz.sizeOf9
  v9 := Tryz.zeroValue9
  t21 := Tryz.underlying21
  a21 := Tryz.isAgg21
  z21 := Tryz.sizeOf21
  v21 := Tryz.zeroValue21
  t46 := Tryz.underlying216
  a46 := Tryz.isAgg216
  z46 := Tryz.sizeOf216
  v46 := Tryz.zeroValue216
  t105 := Tryz.underlying370
  a105 := Tryz.isAgg370
  z105 := Tryz.sizeOf370
  v105 := Tryz.zeroValue370
  t116 := Tryz.underlying316
  a116 := Tryz.isAgg316
  z116 := Tryz.sizeOf316
  t117 := Tryz.underlying317
  a117 := Tryz.isAgg317
  z117 := Tryz.sizeOf317
  v117 := Tryz.zeroValue317
  t119 := Tryz.underlying451
  a119 := Tryz.isAgg451
  z119 := Tryz.sizeOf451
  t124 := Tryz.underlying320
  a124 := Tryz.isAgg320
  z124 := Tryz.sizeOf320
  v124 := Tryz.zeroValue320
  t138 := Tryz.underlying453
  a138 := Tryz.isAgg453
  z138 := Tryz.sizeOf453
  v138 := Tryz.zeroValue453
  t139 := Tryz.underlying454
  a139 := Tryz.isAgg454
  z139 := Tryz.sizeOf454
  v139 := Tryz.zeroValue454
  g3 := by kernel_rfl
  g4 := by kernel_rfl }
open Go.RowKit in
/-- strings.TrimLeft: "TrimLeft returns a slice of the string s with all leading Unicode code points contained in cutset removed.": AT A cutset OF ONE ASCII BYTE. The world is as it was. (LAID: no walk: one application.) -/
def Tryz.lays206_ren : Go.Shelf.Ren := ⟨fun | 206 => 159 | n => n, fun | 9 => 9 | 4 => 4 | 3 => 3 | n => n, fun | n => n⟩
theorem Tryz.lays206 : Go.Proofs.Lays.n206 Tryz.prog Tryz.lays206_ren := {
  mixed := by kernel_rfl
  f206 := Tryz.func159.trans (congrArg some (by kernel_rfl))
  t3 := Tryz.underlying3
  a3 := Tryz.isAgg3
  z3 := Tryz.sizeOf3
  v3 := Tryz.zeroValue3
  t4 := Tryz.underlying4
  a4 := Tryz.isAgg4
  z4 := Tryz.sizeOf4
  v4 := Tryz.zeroValue4
  t9 := Tryz.underlying9
  a9 := Tryz.isAgg9
  z9 := Tryz.sizeOf9
  v9 := Tryz.zeroValue9 }
open Go.RowKit Go.Lib in
/-- internal/stringslite.HasPrefix (what strings.HasPrefix calls). (LAID: no walk: one application.) -/
theorem Tryz.stringslite_HasPrefix (s p : ByteArray) (w : World) :
    Calls Tryz.prog 159 #[.string s, .string p] w fun e w' => e = .returned (.bool (Lib.hasPrefix s.data.toList p.data.toList)) ∧ w' = w := Any.stringslite_HasPrefix Tryz.lays206 s p w
def Tryz.lays99_ren : Go.Shelf.Ren := ⟨fun | 99 => 122 | 206 => 159 | n => n, fun | 9 => 9 | 4 => 4 | 3 => 3 | n => n, fun | n => n⟩
theorem Tryz.lays99 : Go.Proofs.Lays.n99 Tryz.prog Tryz.lays99_ren := {
  mixed := by kernel_rfl
  f99 := Tryz.func122.trans (congrArg some (by kernel_rfl))
  f206 := Tryz.func159.trans (congrArg some (by kernel_rfl))
  t3 := Tryz.underlying3
  a3 := Tryz.isAgg3
  z3 := Tryz.sizeOf3
  v3 := Tryz.zeroValue3
  t4 := Tryz.underlying4
  a4 := Tryz.isAgg4
  z4 := Tryz.sizeOf4
  v4 := Tryz.zeroValue4
  t9 := Tryz.underlying9
  a9 := Tryz.isAgg9
  z9 := Tryz.sizeOf9
  v9 := Tryz.zeroValue9 }
open Go.RowKit Go.Lib in
/-- strings.HasPrefix: "HasPrefix reports whether the string s begins with prefix.": IT RETURNS 'Lib.hasPrefix s prefix'; the world is as it was. (LAID: no walk: one application.) -/
theorem Tryz.strings_HasPrefix (s p : ByteArray) (w : World) :
    Calls Tryz.prog 122 #[.string s, .string p] w fun e w' => e = .returned (.bool (Lib.hasPrefix s.data.toList p.data.toList)) ∧ w' = w := Any.strings_HasPrefix Tryz.lays99 s p w
def Tryz.lays105_ren : Go.Shelf.Ren := ⟨fun | 105 => 87 | 212 => 121 | 99 => 122 | 165 => 123 | 166 => 45 | 170 => 47 | 169 => 49 | 263 => 157 | 264 => 158 | 206 => 159 | 240 => 84 | 241 => 160 | 276 => 117 | 277 => 195 | n => n, fun | 9 => 9 | 3 => 3 | 4 => 4 | 20 => 20 | 0 => 0 | 46 => 216 | 109 => 217 | 5 => 5 | 72 => 96 | 76 => 99 | 51 => 45 | 146 => 271 | 53 => 39 | 148 => 273 | 70 => 94 | 37 => 62 | 75 => 98 | 127 => 168 | 164 => 212 | 80 => 28 | n => n, fun | n => n⟩
theorem Tryz.lays105 : Go.Proofs.Lays.n105 Tryz.prog Tryz.lays105_ren := {
  mixed := by kernel_rfl
  f99 := Tryz.func122.trans (congrArg some (by kernel_rfl))
  f105 := Tryz.func87.trans (congrArg some (by kernel_rfl))
  f165 := Tryz.func123.trans (congrArg some (by kernel_rfl))
  f166 := Tryz.func45.trans (congrArg some (by kernel_rfl))
  f169 := Tryz.func49.trans (congrArg some (by kernel_rfl))
  f170 := Tryz.func47.trans (congrArg some (by kernel_rfl))
  f206 := Tryz.func159.trans (congrArg some (by kernel_rfl))
  f212 := Tryz.func121.trans (congrArg some (by kernel_rfl))
  f240 := Tryz.func84.trans (congrArg some (by kernel_rfl))
  f241 := Tryz.func160.trans (congrArg some (by kernel_rfl))
  f263 := Tryz.func157.trans (congrArg some (by kernel_rfl))
  f264 := Tryz.func158.trans (congrArg some (by kernel_rfl))
  f276 := Tryz.func117.trans (congrArg some (by kernel_rfl))
  f277 := Tryz.func195.trans (congrArg some (by kernel_rfl))
  t0 := Tryz.underlying0
  a0 := Tryz.isAgg0
  z0 := Tryz.sizeOf0
  v0 := Tryz.zeroValue0
  t3 := Tryz.underlying3
  a3 := Tryz.isAgg3
  z3 := Tryz.sizeOf3
  v3 := Tryz.zeroValue3
  t4 := Tryz.underlying4
  a4 := Tryz.isAgg4
  z4 := Tryz.sizeOf4
  v4 := Tryz.zeroValue4
  t5 := Tryz.underlying5
  a5 := Tryz.isAgg5
  z5 := Tryz.sizeOf5
  v5 := Tryz.zeroValue5
  t9 := Tryz.underlying9
  a9 := Tryz.isAgg9
  z9 := Tryz.sizeOf9
  v9 := Tryz.zeroValue9
  t20 := Tryz.underlying20
  a20 := Tryz.isAgg20
  z20 := Tryz.sizeOf20
  v20 := Tryz.zeroValue20
  t37 := Tryz.underlying62
  a37 := Tryz.isAgg62
  z37 := Tryz.sizeOf62
  v37 := Tryz.zeroValue62
  t46 := Tryz.underlying216
  a46 := Tryz.isAgg216
  z46 := Tryz.sizeOf216
  v46 := Tryz.zeroValue216
  t51 := Tryz.underlying45
  a51 := Tryz.isAgg45
  z51 := Tryz.sizeOf45
  v51 := Tryz.zeroValue45
  t53 := Tryz.underlying39
  a53 := Tryz.isAgg39
  z53 := Tryz.sizeOf39
  v53 := Tryz.zeroValue39
  t70 := Tryz.underlying94
  a70 := Tryz.isAgg94
  z70 := Tryz.sizeOf94
  v70 := Tryz.zeroValue94
  t72 := Tryz.underlying96
  a72 := Tryz.isAgg96
  z72 := Tryz.sizeOf96
  v72 := Tryz.zeroValue96
  t75 := Tryz.underlying98
  a75 := Tryz.isAgg98
  z75 := Tryz.sizeOf98
  v75 := Tryz.zeroValue98
  t76 := Tryz.underlying99
  a76 := Tryz.isAgg99
  z76 := Tryz.sizeOf99
  v76 := Tryz.zeroValue99
  t109 := Tryz.underlying217
  a109 := Tryz.isAgg217
  z109 := Tryz.sizeOf217
  v109 := Tryz.zeroValue217
  t127 := Tryz.underlying168
  a127 := Tryz.isAgg168
  z127 := Tryz.sizeOf168
  v127 := Tryz.zeroValue168
  t146 := Tryz.underlying271
  a146 := Tryz.isAgg271
  z146 := Tryz.sizeOf271
  v146 := Tryz.zeroValue271
  t148 := Tryz.underlying273
  a148 := Tryz.isAgg273
  z148 := Tryz.sizeOf273
  v148 := Tryz.zeroValue273
  t164 := Tryz.underlying212
  a164 := Tryz.isAgg212
  z164 := Tryz.sizeOf212
  v164 := Tryz.zeroValue212 }
theorem Tryz.Builder_Extra_105 : Builder.Extra Tryz.prog Tryz.lays105_ren := {
  sizeBuilder := by kernel_rfl
  liesBuilder := by kernel_rfl
  t5 := Tryz.underlying5
  a5 := Tryz.isAgg5
  z5 := Tryz.sizeOf5
  v5 := Tryz.zeroValue5
  infoByte := by kernel_rfl
  cellsByte := by kernel_rfl
  sizeByte := by kernel_rfl
  neB5 := by decide }
open Go.RowKit Go.Lib in
/-- THE MAIN CASE: at least two copies of a string that is not empty. (LAID: no walk: one application.) -/
theorem Tryz.strings_Repeat (s : ByteArray) (c : Nat) (w : World) (hc : c ≤ 9223372036854775807) (hlen : s.size * c ≤ 140737488355328) :
    Calls Tryz.prog 87 #[.string s, .int .i64 c] w fun e w' => e = .returned (.string ⟨(Lib.repeatL s.data.toList c).toArray⟩) ∧ Below w.heap.size w w' := Any.strings_Repeat Tryz.lays105 Tryz.Builder_Extra_105 s c w hc hlen
end Go.Proofs
