/-
  DERIVED: THE SHELF's CONTRACTS AT THIS DUMP, IN PLAIN WORDS (tools/lay-plain.mjs out of 'TrydShelf.lean', which tools/lay-shelf.mjs wrote): THE SAME DECLARATIONS UNDER THE SAME NAMES: 'import', 'namespace', 'open', 'def', 'theorem' AND NOTHING ELSE: no command of the shelf's: FOR A HAND-IN. Each laying: the table of numbers ('.._ren') and one theorem, a field a fact of the dump's own or the kernel's comparison; each contract: ONE APPLICATION.
-/
import Derived.Shelf.Strings.Builder1
import Derived.Shelf.Small.Wraps
import Derived.Shelf.Strings.BuilderF
import Derived.Shelf.Strconv.Itoa0
import Derived.Shelf.Strconv.Itoa1
import Derived.Shelf.LaysM
import Derived.Shelf.Strconv.Itoa2
import Derived.Shelf.Strconv.Itoa3
import Derived.Shelf.Strings.Search1
import Derived.Shelf.Strings.Search2
import Derived.Shelf.Strings.Search3
import Derived.Shelf.Strings.Cut
import Derived.Shelf.Strings.Count
import Derived.Shelf.Strings.Shaped
import Derived.Shelf.Strings.Prefix
import Derived.Shelf.Strings.Split
import Derived.Shelf.Strings.SplitShaped
import Derived.Shelf.Unicode.DecodeSlow
import Derived.Test.YtjhmghcfhgajcaaDoorProg
namespace Go.Proofs
open Go.Shelf
def Tryd.lays104_ren : Go.Shelf.Ren := ⟨fun | 104 => 68 | 211 => 83 | 207 => 94 | n => n, fun | 9 => 9 | 4 => 4 | 24 => 117 | 3 => 3 | n => n, fun | n => n⟩
theorem Tryd.lays104 : Go.Proofs.Lays.n104 Tryd.prog Tryd.lays104_ren := {
  mixed := by kernel_rfl
  f104 := Tryd.func68.trans (congrArg some (by kernel_rfl))
  f207 := Tryd.func94.trans (congrArg some (by kernel_rfl))
  f211 := Tryd.func83.trans (congrArg some (by kernel_rfl))
  t3 := Tryd.underlying3
  a3 := Tryd.isAgg3
  z3 := Tryd.sizeOf3
  v3 := Tryd.zeroValue3
  t4 := Tryd.underlying4
  a4 := Tryd.isAgg4
  z4 := Tryd.sizeOf4
  v4 := Tryd.zeroValue4
  t9 := Tryd.underlying9
  a9 := Tryd.isAgg9
  z9 := Tryd.sizeOf9
  v9 := Tryd.zeroValue9
  t24 := Tryd.underlying117
  a24 := Tryd.isAgg117
  z24 := Tryd.sizeOf117
  v24 := Tryd.zeroValue117 }
open Go.RowKit in
/-- strings.CutSuffix: "CutSuffix returns s without the provided ending suffix string and reports whether it found the suffix. If s doesn't end with suffix, CutSuffix returns s, false. If suffix is the empty string, CutSuffix returns s, true.": IT RETURNS '(Lib.trimSuffix s p, Lib.hasSuffix s p)'; the world is as it was. (LAID: no walk: one application.) -/
theorem Tryd.strings_CutSuffix (s p : ByteArray) (w : World) (hs : s.size ≤ 9223372036854775807) :
    Calls Tryd.prog 68 #[.string s, .string p] w fun e w' => e = .returned (.tuple #[.string ⟨(Lib.trimSuffix s.data.toList p.data.toList).toArray⟩, .bool (Lib.hasSuffix s.data.toList p.data.toList)]) ∧ w' = w := Any.strings_CutSuffix Tryd.lays104 s p w hs
def Tryd.laysM171_ren : Go.Shelf.Ren := ⟨fun | 171 => 58 | 243 => 79 | 246 => 86 | 283 => 95 | 284 => 96 | 285 => 97 | 286 => 98 | 129 => 105 | 317 => 104 | 318 => 106 | 319 => 107 | 320 => 108 | 337 => 110 | 338 => 111 | n => n, fun | 3 => 3 | 9 => 9 | 2 => 2 | 4 => 4 | 171 => 164 | 0 => 0 | 53 => 165 | 37 => 81 | 5 => 5 | 173 => 168 | 212 => 177 | 51 => 170 | 20 => 20 | 213 => 178 | 46 => 161 | 232 => 185 | 233 => 186 | n => n, fun | 17 => 5 | 18 => 8 | 19 => 9 | n => n⟩
theorem Tryd.laysM171 : Go.Proofs.LaysM.n171 Tryd.prog Tryd.laysM171_ren := {
  mixed := by kernel_rfl
  f129 := Tryd.func105.trans (congrArg some (by kernel_rfl))
  f171 := Tryd.func58.trans (congrArg some (by kernel_rfl))
  f243 := Tryd.func79.trans (congrArg some (by kernel_rfl))
  f246 := Tryd.func86.trans (congrArg some (by kernel_rfl))
  f283 := Tryd.func95.trans (congrArg some (by kernel_rfl))
  f284 := Tryd.func96.trans (congrArg some (by kernel_rfl))
  f285 := Tryd.func97.trans (congrArg some (by kernel_rfl))
  f286 := Tryd.func98.trans (congrArg some (by kernel_rfl))
  f317 := Tryd.func104.trans (congrArg some (by kernel_rfl))
  f318 := Tryd.func106.trans (congrArg some (by kernel_rfl))
  f319 := Tryd.func107.trans (congrArg some (by kernel_rfl))
  f320 := Tryd.func108.trans (congrArg some (by kernel_rfl))
  f337 := Tryd.func110.trans (congrArg some (by kernel_rfl))
  f338 := Tryd.func111.trans (congrArg some (by kernel_rfl))
  t0 := Tryd.underlying0
  a0 := Tryd.isAgg0
  z0 := Tryd.sizeOf0
  v0 := Tryd.zeroValue0
  t2 := Tryd.underlying2
  a2 := Tryd.isAgg2
  z2 := Tryd.sizeOf2
  v2 := Tryd.zeroValue2
  t3 := Tryd.underlying3
  a3 := Tryd.isAgg3
  z3 := Tryd.sizeOf3
  v3 := Tryd.zeroValue3
  t4 := Tryd.underlying4
  a4 := Tryd.isAgg4
  z4 := Tryd.sizeOf4
  v4 := Tryd.zeroValue4
  t5 := Tryd.underlying5
  a5 := Tryd.isAgg5
  z5 := Tryd.sizeOf5
  v5 := Tryd.zeroValue5
  t9 := Tryd.underlying9
  a9 := Tryd.isAgg9
  z9 := Tryd.sizeOf9
  v9 := Tryd.zeroValue9
  t20 := Tryd.underlying20
  a20 := Tryd.isAgg20
  z20 := Tryd.sizeOf20
  v20 := Tryd.zeroValue20
  t37 := Tryd.underlying81
  a37 := Tryd.isAgg81
  z37 := Tryd.sizeOf81
  v37 := Tryd.zeroValue81
  t46 := Tryd.underlying161
  a46 := Tryd.isAgg161
  z46 := Tryd.sizeOf161
  v46 := Tryd.zeroValue161
  t51 := Tryd.underlying170
  a51 := Tryd.isAgg170
  z51 := Tryd.sizeOf170
  v51 := Tryd.zeroValue170
  t53 := Tryd.underlying165
  a53 := Tryd.isAgg165
  z53 := Tryd.sizeOf165
  v53 := Tryd.zeroValue165
  t171 := Tryd.underlying164
  a171 := Tryd.isAgg164
  z171 := Tryd.sizeOf164
  v171 := Tryd.zeroValue164
  t173 := Tryd.underlying168
  a173 := Tryd.isAgg168
  z173 := Tryd.sizeOf168
  v173 := Tryd.zeroValue168
  t212 := Tryd.underlying177
  a212 := Tryd.isAgg177
  z212 := Tryd.sizeOf177
  v212 := Tryd.zeroValue177
  t213 := Tryd.underlying178
  a213 := Tryd.isAgg178
  z213 := Tryd.sizeOf178
  t232 := Tryd.underlying185
  a232 := Tryd.isAgg185
  z232 := Tryd.sizeOf185
  v232 := Tryd.zeroValue185
  t233 := Tryd.underlying186
  a233 := Tryd.isAgg186
  z233 := Tryd.sizeOf186
  v233 := Tryd.zeroValue186
  g17 := by kernel_rfl
  g18 := by kernel_rfl
  g19 := by kernel_rfl
  i0 := by kernel_rfl
  i2 := by kernel_rfl
  i3 := by kernel_rfl
  i4 := by kernel_rfl
  i5 := by kernel_rfl
  i9 := by kernel_rfl
  i20 := by kernel_rfl
  i37 := by kernel_rfl
  i46 := by kernel_rfl
  i51 := by kernel_rfl
  i53 := by kernel_rfl
  i171 := by kernel_rfl
  i173 := by kernel_rfl
  i212 := by kernel_rfl
  i232 := by kernel_rfl
  i233 := by kernel_rfl
  m17 := by kernel_rfl
  m18 := by kernel_rfl
  m19 := by kernel_rfl }
open Go.RowKit Go.Sort Go.Lib in
/-- strconv.Itoa: "Itoa is equivalent to FormatInt(int64(i), 10).": i's DECIMAL NUMERAL ('Lib.itoa': a '-' where i is negative, then the digits), FOR EVERY int. The world behind the call: the world before it, new blocks behind the heap (the library's 'var a [24]byte'), draws. (LAID: no walk: one application.) -/
theorem Tryd.strconv_Itoa (n : Int) (h0 : -9223372036854775808 ≤ n) (h1 : n ≤ 9223372036854775807) (w : World) (htab : Lib.TabIs Tryd.prog w "internal/strconv.uint64pow10" .u64 Lib.pow10Tab) :
    Calls Tryd.prog 58 #[.int .i64 n] w fun e w' => e = .returned (.string ⟨(Lib.itoa n).toArray⟩) ∧ ∃ k os, w' = grow (w.drewN k) os := Any.strconv_Itoa Tryd.laysM171 n h0 h1 w htab
def Tryd.lays145_ren : Go.Shelf.Ren := ⟨fun | 145 => 41 | 220 => 59 | 219 => 80 | 217 => 87 | 225 => 88 | 224 => 89 | 267 => 90 | 266 => 99 | 314 => 100 | n => n, fun | 9 => 9 | 4 => 4 | 59 => 73 | 3 => 3 | 5 => 5 | 46 => 161 | 146 => 171 | 51 => 170 | n => n, fun | 1 => 4 | n => n⟩
theorem Tryd.lays145 : Go.Proofs.Lays.n145 Tryd.prog Tryd.lays145_ren := {
  mixed := by kernel_rfl
  f145 := Tryd.func41.trans (congrArg some (by kernel_rfl))
  f217 := Tryd.func87.trans (congrArg some (by kernel_rfl))
  f219 := Tryd.func80.trans (congrArg some (by kernel_rfl))
  f220 := Tryd.func59.trans (congrArg some (by kernel_rfl))
  f224 := Tryd.func89.trans (congrArg some (by kernel_rfl))
  f225 := Tryd.func88.trans (congrArg some (by kernel_rfl))
  f266 := Tryd.func99.trans (congrArg some (by kernel_rfl))
  f267 := Tryd.func90.trans (congrArg some (by kernel_rfl))
  f314 := Tryd.func100.trans (congrArg some (by kernel_rfl))
  t3 := Tryd.underlying3
  a3 := Tryd.isAgg3
  z3 := Tryd.sizeOf3
  v3 := Tryd.zeroValue3
  t4 := Tryd.underlying4
  a4 := Tryd.isAgg4
  z4 := Tryd.sizeOf4
  v4 := Tryd.zeroValue4
  t5 := Tryd.underlying5
  a5 := Tryd.isAgg5
  z5 := Tryd.sizeOf5
  v5 := Tryd.zeroValue5
  t9 := Tryd.underlying9
  a9 := Tryd.isAgg9
  z9 := Tryd.sizeOf9
  v9 := Tryd.zeroValue9
  t46 := Tryd.underlying161
  a46 := Tryd.isAgg161
  z46 := Tryd.sizeOf161
  v46 := Tryd.zeroValue161
  t51 := Tryd.underlying170
  a51 := Tryd.isAgg170
  z51 := Tryd.sizeOf170
  v51 := Tryd.zeroValue170
  t59 := Tryd.underlying73
  a59 := Tryd.isAgg73
  z59 := Tryd.sizeOf73
  v59 := Tryd.zeroValue73
  t146 := Tryd.underlying171
  a146 := Tryd.isAgg171
  z146 := Tryd.sizeOf171
  v146 := Tryd.zeroValue171
  g1 := by kernel_rfl }
open Go.RowKit Go.Lib in
/-- strings.Cut: "Cut slices s around the first instance of sep, returning the text before and after sep. The found result reports whether sep appears in s. If sep does not appear in s, cut returns s, "", false.": IT RETURNS 'Lib.cut s sep'; the world is as it was but for the count of draws. (LAID: no walk: one application.) -/
theorem Tryd.strings_Cut (s sep : ByteArray) (m : Int) (w : World) (hs : s.size < 4294967281) (hm : w.cell? ⟨4, 0, none⟩ = some (.int .i64 m)) :
    Calls Tryd.prog 41 #[.string s, .string sep] w fun e w' => e = .returned (.tuple #[.string ⟨(Lib.cut s.data.toList sep.data.toList).1.toArray⟩, .string ⟨(Lib.cut s.data.toList sep.data.toList).2.1.toArray⟩, .bool (Lib.cut s.data.toList sep.data.toList).2.2]) ∧ ∃ n, w' = w.drewN n := Any.strings_Cut Tryd.lays145 s sep m w hs hm
def Tryd.lays221_ren : Go.Shelf.Ren := ⟨fun | 221 => 81 | 268 => 91 | 138 => 92 | 143 => 93 | 195 => 101 | 197 => 102 | 218 => 103 | 219 => 80 | 260 => 109 | 217 => 87 | 225 => 88 | 224 => 89 | 267 => 90 | 266 => 99 | 314 => 100 | n => n, fun | 9 => 9 | 3 => 3 | 31 => 110 | 4 => 4 | 0 => 0 | 105 => 174 | 21 => 21 | 5 => 5 | 46 => 161 | 119 => 181 | 139 => 184 | 138 => 183 | 146 => 171 | 51 => 170 | n => n, fun | 1 => 4 | 3 => 6 | 4 => 7 | n => n⟩
theorem Tryd.lays221 : Go.Proofs.Lays.n221 Tryd.prog Tryd.lays221_ren := {
  mixed := by kernel_rfl
  f138 := Tryd.func92.trans (congrArg some (by kernel_rfl))
  f143 := Tryd.func93.trans (congrArg some (by kernel_rfl))
  f195 := Tryd.func101.trans (congrArg some (by kernel_rfl))
  f197 := Tryd.func102.trans (congrArg some (by kernel_rfl))
  f217 := Tryd.func87.trans (congrArg some (by kernel_rfl))
  f218 := Tryd.func103.trans (congrArg some (by kernel_rfl))
  f219 := Tryd.func80.trans (congrArg some (by kernel_rfl))
  f221 := Tryd.func81.trans (congrArg some (by kernel_rfl))
  f224 := Tryd.func89.trans (congrArg some (by kernel_rfl))
  f225 := Tryd.func88.trans (congrArg some (by kernel_rfl))
  f260 := Tryd.func109.trans (congrArg some (by kernel_rfl))
  f266 := Tryd.func99.trans (congrArg some (by kernel_rfl))
  f267 := Tryd.func90.trans (congrArg some (by kernel_rfl))
  f268 := Tryd.func91.trans (congrArg some (by kernel_rfl))
  f314 := Tryd.func100.trans (congrArg some (by kernel_rfl))
  t0 := Tryd.underlying0
  a0 := Tryd.isAgg0
  z0 := Tryd.sizeOf0
  v0 := Tryd.zeroValue0
  t3 := Tryd.underlying3
  a3 := Tryd.isAgg3
  z3 := Tryd.sizeOf3
  v3 := Tryd.zeroValue3
  t4 := Tryd.underlying4
  a4 := Tryd.isAgg4
  z4 := Tryd.sizeOf4
  v4 := Tryd.zeroValue4
  t5 := Tryd.underlying5
  a5 := Tryd.isAgg5
  z5 := Tryd.sizeOf5
  v5 := Tryd.zeroValue5
  t9 := Tryd.underlying9
  a9 := Tryd.isAgg9
  z9 := Tryd.sizeOf9
  v9 := Tryd.zeroValue9
  t21 := Tryd.underlying21
  a21 := Tryd.isAgg21
  z21 := Tryd.sizeOf21
  v21 := Tryd.zeroValue21
  t31 := Tryd.underlying110
  a31 := Tryd.isAgg110
  z31 := Tryd.sizeOf110
  v31 := Tryd.zeroValue110
  t46 := Tryd.underlying161
  a46 := Tryd.isAgg161
  z46 := Tryd.sizeOf161
  v46 := Tryd.zeroValue161
  t51 := Tryd.underlying170
  a51 := Tryd.isAgg170
  z51 := Tryd.sizeOf170
  v51 := Tryd.zeroValue170
  t105 := Tryd.underlying174
  a105 := Tryd.isAgg174
  z105 := Tryd.sizeOf174
  v105 := Tryd.zeroValue174
  t119 := Tryd.underlying181
  a119 := Tryd.isAgg181
  z119 := Tryd.sizeOf181
  t138 := Tryd.underlying183
  a138 := Tryd.isAgg183
  z138 := Tryd.sizeOf183
  v138 := Tryd.zeroValue183
  t139 := Tryd.underlying184
  a139 := Tryd.isAgg184
  z139 := Tryd.sizeOf184
  v139 := Tryd.zeroValue184
  t146 := Tryd.underlying171
  a146 := Tryd.isAgg171
  z146 := Tryd.sizeOf171
  v146 := Tryd.zeroValue171
  g1 := by kernel_rfl
  g3 := by kernel_rfl
  g4 := by kernel_rfl }
open Go.RowKit Go.Lib in
theorem Tryd.strings_genSplit (s sep : ByteArray) (sv : Nat) (n : Int) (N : Nat) (m : Int) (w : World) (hs : s.size < 4294967281) (hm : w.cell? ⟨4, 0, none⟩ = some (.int .i64 m)) (h1 : 1 ≤ sep.size) (hsv : sv ≤ sep.size) (hn0 : n ≠ 0) (hn63 : n ≤ 9223372036854775807) (hN : (N : Int) = min (if n < 0 then (Lib.countB s sep : Int) + 1 else n) ((s.size : Int) + 1)) :
    Calls Tryd.prog 81 #[.string s, .string sep, .int .i64 sv, .int .i64 n] w fun e w' =>
      e = .returned (.slice (some ⟨w.heap.size, 0, none⟩) (Lib.splitB sep sv (N - 1) s).length N) ∧ w' = w.alloc (.cells (Lib.cellsOf (Lib.splitB sep sv (N - 1) s) N) 9) := Any.strings_genSplit Tryd.lays221 (by kernel_rfl) s sep sv n N m w hs hm h1 hsv hn0 hn63 hN
def Tryd.lays146_ren : Go.Shelf.Ren := ⟨fun | 146 => 60 | 221 => 81 | 268 => 91 | 138 => 92 | 143 => 93 | 195 => 101 | 197 => 102 | 218 => 103 | 219 => 80 | 260 => 109 | 217 => 87 | 225 => 88 | 224 => 89 | 267 => 90 | 266 => 99 | 314 => 100 | n => n, fun | 9 => 9 | 31 => 110 | 3 => 3 | 4 => 4 | 0 => 0 | 105 => 174 | 21 => 21 | 5 => 5 | 46 => 161 | 119 => 181 | 139 => 184 | 138 => 183 | 146 => 171 | 51 => 170 | n => n, fun | 1 => 4 | 3 => 6 | 4 => 7 | n => n⟩
theorem Tryd.lays146 : Go.Proofs.Lays.n146 Tryd.prog Tryd.lays146_ren := {
  mixed := by kernel_rfl
  f138 := Tryd.func92.trans (congrArg some (by kernel_rfl))
  f143 := Tryd.func93.trans (congrArg some (by kernel_rfl))
  f146 := Tryd.func60.trans (congrArg some (by kernel_rfl))
  f195 := Tryd.func101.trans (congrArg some (by kernel_rfl))
  f197 := Tryd.func102.trans (congrArg some (by kernel_rfl))
  f217 := Tryd.func87.trans (congrArg some (by kernel_rfl))
  f218 := Tryd.func103.trans (congrArg some (by kernel_rfl))
  f219 := Tryd.func80.trans (congrArg some (by kernel_rfl))
  f221 := Tryd.func81.trans (congrArg some (by kernel_rfl))
  f224 := Tryd.func89.trans (congrArg some (by kernel_rfl))
  f225 := Tryd.func88.trans (congrArg some (by kernel_rfl))
  f260 := Tryd.func109.trans (congrArg some (by kernel_rfl))
  f266 := Tryd.func99.trans (congrArg some (by kernel_rfl))
  f267 := Tryd.func90.trans (congrArg some (by kernel_rfl))
  f268 := Tryd.func91.trans (congrArg some (by kernel_rfl))
  f314 := Tryd.func100.trans (congrArg some (by kernel_rfl))
  t0 := Tryd.underlying0
  a0 := Tryd.isAgg0
  z0 := Tryd.sizeOf0
  v0 := Tryd.zeroValue0
  t3 := Tryd.underlying3
  a3 := Tryd.isAgg3
  z3 := Tryd.sizeOf3
  v3 := Tryd.zeroValue3
  t4 := Tryd.underlying4
  a4 := Tryd.isAgg4
  z4 := Tryd.sizeOf4
  v4 := Tryd.zeroValue4
  t5 := Tryd.underlying5
  a5 := Tryd.isAgg5
  z5 := Tryd.sizeOf5
  v5 := Tryd.zeroValue5
  t9 := Tryd.underlying9
  a9 := Tryd.isAgg9
  z9 := Tryd.sizeOf9
  v9 := Tryd.zeroValue9
  t21 := Tryd.underlying21
  a21 := Tryd.isAgg21
  z21 := Tryd.sizeOf21
  v21 := Tryd.zeroValue21
  t31 := Tryd.underlying110
  a31 := Tryd.isAgg110
  z31 := Tryd.sizeOf110
  v31 := Tryd.zeroValue110
  t46 := Tryd.underlying161
  a46 := Tryd.isAgg161
  z46 := Tryd.sizeOf161
  v46 := Tryd.zeroValue161
  t51 := Tryd.underlying170
  a51 := Tryd.isAgg170
  z51 := Tryd.sizeOf170
  v51 := Tryd.zeroValue170
  t105 := Tryd.underlying174
  a105 := Tryd.isAgg174
  z105 := Tryd.sizeOf174
  v105 := Tryd.zeroValue174
  t119 := Tryd.underlying181
  a119 := Tryd.isAgg181
  z119 := Tryd.sizeOf181
  t138 := Tryd.underlying183
  a138 := Tryd.isAgg183
  z138 := Tryd.sizeOf183
  v138 := Tryd.zeroValue183
  t139 := Tryd.underlying184
  a139 := Tryd.isAgg184
  z139 := Tryd.sizeOf184
  v139 := Tryd.zeroValue184
  t146 := Tryd.underlying171
  a146 := Tryd.isAgg171
  z146 := Tryd.sizeOf171
  v146 := Tryd.zeroValue171
  g1 := by kernel_rfl
  g3 := by kernel_rfl
  g4 := by kernel_rfl }
open Go.RowKit Go.Lib in
/-- strings.Split. (LAID: no walk: one application.) -/
theorem Tryd.strings_Split (s sep : ByteArray) (m : Int) (w : World) (hs : s.size < 4294967281) (hm : w.cell? ⟨4, 0, none⟩ = some (.int .i64 m)) (h1 : 1 ≤ sep.size) :
    Calls Tryd.prog 60 #[.string s, .string sep] w fun e w' =>
      e = .returned (.slice (some ⟨w.heap.size, 0, none⟩) (Lib.countB s sep + 1) (Lib.countB s sep + 1)) ∧ w' = w.alloc (.cells ((Lib.splitB sep 0 (Lib.countB s sep) s).map Value.string).toArray 9) := Any.strings_Split Tryd.lays146 (by kernel_rfl) s sep m w hs hm h1
end Go.Proofs
