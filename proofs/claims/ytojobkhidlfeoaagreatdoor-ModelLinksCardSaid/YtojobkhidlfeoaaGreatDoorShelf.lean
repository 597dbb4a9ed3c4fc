/-
  DERIVED: THE SHELF's CONTRACTS AT THIS DUMP, IN PLAIN WORDS (tools/lay-plain.mjs out of 'TryzShelf.lean', which tools/lay-shelf.mjs wrote): THE SAME DECLARATIONS UNDER THE SAME NAMES: 'import', 'namespace', 'open', 'def', 'theorem' AND NOTHING ELSE: no command of the shelf's: FOR A HAND-IN. Each laying: the table of numbers ('.._ren') and one theorem, a field a fact of the dump's own or the kernel's comparison; each contract: ONE APPLICATION.
-/
import Derived.Shelf.Strings.Trim
import Derived.Shelf.Small.Utf8
import Derived.Shelf.Small.Bits
import Derived.Shelf.Small.Strs
import Derived.Shelf.Strconv.Itoa0
import Derived.Shelf.Strings.Search1
import Derived.Shelf.Sort.Plain
import Derived.Shelf.Strings.Prefix
import Derived.Shelf.Strings.Runes
import Derived.Shelf.Strings.AsciiSet
import Derived.Shelf.Unicode.DecodeSlow
import Derived.Shelf.Slices.Turned
import Derived.Ground.Names2Prog
import Derived.Shelf.Slices.CompactI
import Derived.Shelf.Slices.Cells
import Derived.Shelf.Slices.In.SortNone
import Derived.Test.YtojobkhidlfeoaaGreatDoorProg
namespace Go.Proofs
open Go.Shelf
def Tryz.lays160_ren : Go.Shelf.Ren := ⟨fun | 160 => 111 | 232 => 124 | 231 => 123 | 227 => 125 | 234 => 127 | 233 => 126 | 236 => 129 | 235 => 128 | 228 => 143 | 271 => 146 | 151 => 145 | 197 => 144 | 120 => 162 | 152 => 161 | 260 => 160 | 137 => 169 | 119 => 170 | 224 => 171 | 225 => 172 | 217 => 174 | 266 => 175 | n => n, fun | 9 => 9 | 4 => 4 | 3 => 3 | 5 => 5 | 117 => 218 | 116 => 217 | 0 => 0 | 124 => 221 | 21 => 21 | 105 => 233 | 46 => 93 | 119 => 256 | 139 => 259 | 138 => 258 | n => n, fun | 3 => 14 | 4 => 15 | n => n⟩
theorem Tryz.lays160 : Go.Proofs.Lays.n160 Tryz.prog Tryz.lays160_ren := {
  mixed := by kernel_rfl
  f119 := Tryz.func170.trans (congrArg some (by kernel_rfl))
  f120 := Tryz.func162.trans (congrArg some (by kernel_rfl))
  f137 := Tryz.func169.trans (congrArg some (by kernel_rfl))
  f151 := Tryz.func145.trans (congrArg some (by kernel_rfl))
  f152 := Tryz.func161.trans (congrArg some (by kernel_rfl))
  f160 := Tryz.func111.trans (congrArg some (by kernel_rfl))
  f197 := Tryz.func144.trans (congrArg some (by kernel_rfl))
  f217 := Tryz.func174.trans (congrArg some (by kernel_rfl))
  f224 := Tryz.func171.trans (congrArg some (by kernel_rfl))
  f225 := Tryz.func172.trans (congrArg some (by kernel_rfl))
  f227 := Tryz.func125.trans (congrArg some (by kernel_rfl))
  f228 := Tryz.func143.trans (congrArg some (by kernel_rfl))
  f231 := Tryz.func123.trans (congrArg some (by kernel_rfl))
  f232 := Tryz.func124.trans (congrArg some (by kernel_rfl))
  f233 := Tryz.func126.trans (congrArg some (by kernel_rfl))
  f234 := Tryz.func127.trans (congrArg some (by kernel_rfl))
  f235 := Tryz.func128.trans (congrArg some (by kernel_rfl))
  f236 := Tryz.func129.trans (congrArg some (by kernel_rfl))
  f260 := Tryz.func160.trans (congrArg some (by kernel_rfl))
  f266 := Tryz.func175.trans (congrArg some (by kernel_rfl))
  f271 := Tryz.func146.trans (congrArg some (by kernel_rfl))
  t0 := Tryz.underlying0
  a0 := Tryz.isAgg0
  z0 := Tryz.sizeOf0
  v0 := Tryz.zeroValue0
  t3 := Tryz.underlying3
  a3 := Tryz.isAgg3
  z3 := Tryz.sizeOf3
  v3 := Tryz.zeroValue3
  t4 := Tryz.underlying4
  a4 := Tryz.isAgg4
  z4 := Tryz.sizeOf4
  v4 := Tryz.zeroValue4
  t5 := Tryz.underlying5
  a5 := Tryz.isAgg5
  z5 := Tryz.sizeOf5
  v5 := Tryz.zeroValue5
  t9 := Tryz.underlying9
  a9 := Tryz.isAgg9
  z9 := Tryz.sizeOf9
  v9 := Tryz.zeroValue9
  t21 := Tryz.underlying21
  a21 := Tryz.isAgg21
  z21 := Tryz.sizeOf21
  v21 := Tryz.zeroValue21
  t46 := Tryz.underlying93
  a46 := Tryz.isAgg93
  z46 := Tryz.sizeOf93
  v46 := Tryz.zeroValue93
  t105 := Tryz.underlying233
  a105 := Tryz.isAgg233
  z105 := Tryz.sizeOf233
  v105 := Tryz.zeroValue233
  t116 := Tryz.underlying217
  a116 := Tryz.isAgg217
  z116 := Tryz.sizeOf217
  t117 := Tryz.underlying218
  a117 := Tryz.isAgg218
  z117 := Tryz.sizeOf218
  v117 := Tryz.zeroValue218
  t119 := Tryz.underlying256
  a119 := Tryz.isAgg256
  z119 := Tryz.sizeOf256
  t124 := Tryz.underlying221
  a124 := Tryz.isAgg221
  z124 := Tryz.sizeOf221
  v124 := Tryz.zeroValue221
  t138 := Tryz.underlying258
  a138 := Tryz.isAgg258
  z138 := Tryz.sizeOf258
  v138 := Tryz.zeroValue258
  t139 := Tryz.underlying259
  a139 := Tryz.isAgg259
  z139 := Tryz.sizeOf259
  v139 := Tryz.zeroValue259
  g3 := by kernel_rfl
  g4 := by kernel_rfl }
def Tryz.lays189_ren : Go.Shelf.Ren := ⟨fun | 189 => 115 | 125 => 136 | 257 => 135 | 128 => 157 | 129 => 158 | 294 => 148 | 295 => 149 | 296 => 150 | 297 => 151 | 298 => 152 | 299 => 153 | 216 => 154 | 300 => 155 | 301 => 156 | 328 => 163 | 329 => 164 | 330 => 165 | 331 => 166 | 332 => 167 | 215 => 168 | 343 => 173 | n => n, fun | 28 => 108 | 3 => 3 | 46 => 93 | 0 => 0 | 51 => 246 | 53 => 192 | 4 => 4 | 183 => 239 | 182 => 238 | 131 => 243 | 5 => 5 | 9 => 9 | 218 => 250 | 222 => 254 | 228 => 263 | 229 => 82 | n => n, fun | n => n⟩
theorem Tryz.lays189 : Go.Proofs.Lays.n189 Tryz.prog Tryz.lays189_ren := {
  mixed := by kernel_rfl
  f125 := Tryz.func136.trans (congrArg some (by kernel_rfl))
  f128 := Tryz.func157.trans (congrArg some (by kernel_rfl))
  f129 := Tryz.func158.trans (congrArg some (by kernel_rfl))
  f189 := Tryz.func115.trans (congrArg some (by kernel_rfl))
  f215 := Tryz.func168.trans (congrArg some (by kernel_rfl))
  f216 := Tryz.func154.trans (congrArg some (by kernel_rfl))
  f257 := Tryz.func135.trans (congrArg some (by kernel_rfl))
  f294 := Tryz.func148.trans (congrArg some (by kernel_rfl))
  f295 := Tryz.func149.trans (congrArg some (by kernel_rfl))
  f296 := Tryz.func150.trans (congrArg some (by kernel_rfl))
  f297 := Tryz.func151.trans (congrArg some (by kernel_rfl))
  f298 := Tryz.func152.trans (congrArg some (by kernel_rfl))
  f299 := Tryz.func153.trans (congrArg some (by kernel_rfl))
  f300 := Tryz.func155.trans (congrArg some (by kernel_rfl))
  f301 := Tryz.func156.trans (congrArg some (by kernel_rfl))
  f328 := Tryz.func163.trans (congrArg some (by kernel_rfl))
  f329 := Tryz.func164.trans (congrArg some (by kernel_rfl))
  f330 := Tryz.func165.trans (congrArg some (by kernel_rfl))
  f331 := Tryz.func166.trans (congrArg some (by kernel_rfl))
  f332 := Tryz.func167.trans (congrArg some (by kernel_rfl))
  f343 := Tryz.func173.trans (congrArg some (by kernel_rfl))
  t0 := Tryz.underlying0
  a0 := Tryz.isAgg0
  z0 := Tryz.sizeOf0
  v0 := Tryz.zeroValue0
  t3 := Tryz.underlying3
  a3 := Tryz.isAgg3
  z3 := Tryz.sizeOf3
  v3 := Tryz.zeroValue3
  t4 := Tryz.underlying4
  a4 := Tryz.isAgg4
  z4 := Tryz.sizeOf4
  v4 := Tryz.zeroValue4
  t5 := Tryz.underlying5
  a5 := Tryz.isAgg5
  z5 := Tryz.sizeOf5
  v5 := Tryz.zeroValue5
  t9 := Tryz.underlying9
  a9 := Tryz.isAgg9
  z9 := Tryz.sizeOf9
  v9 := Tryz.zeroValue9
  t28 := Tryz.underlying108
  a28 := Tryz.isAgg108
  z28 := Tryz.sizeOf108
  v28 := Tryz.zeroValue108
  t46 := Tryz.underlying93
  a46 := Tryz.isAgg93
  z46 := Tryz.sizeOf93
  v46 := Tryz.zeroValue93
  t51 := Tryz.underlying246
  a51 := Tryz.isAgg246
  z51 := Tryz.sizeOf246
  v51 := Tryz.zeroValue246
  t53 := Tryz.underlying192
  a53 := Tryz.isAgg192
  z53 := Tryz.sizeOf192
  v53 := Tryz.zeroValue192
  t131 := Tryz.underlying243
  a131 := Tryz.isAgg243
  z131 := Tryz.sizeOf243
  v131 := Tryz.zeroValue243
  t182 := Tryz.underlying238
  a182 := Tryz.isAgg238
  z182 := Tryz.sizeOf238
  v182 := Tryz.zeroValue238
  t183 := Tryz.underlying239
  a183 := Tryz.isAgg239
  z183 := Tryz.sizeOf239
  v183 := Tryz.zeroValue239
  t218 := Tryz.underlying250
  a218 := Tryz.isAgg250
  z218 := Tryz.sizeOf250
  v218 := Tryz.zeroValue250
  t222 := Tryz.underlying254
  a222 := Tryz.isAgg254
  z222 := Tryz.sizeOf254
  v222 := Tryz.zeroValue254
  t228 := Tryz.underlying263
  a228 := Tryz.isAgg263
  z228 := Tryz.sizeOf263
  v228 := Tryz.zeroValue263
  t229 := Tryz.underlying82
  a229 := Tryz.isAgg82
  z229 := Tryz.sizeOf82
  v229 := Tryz.zeroValue82 }
open Go.Sort Go.RowKit in
theorem Tryz.slices_Sort_int (blk off cap : Nat) (zs : List Int) (w : World) (hH : Holds (Value.int .i64) w blk off zs.toArray) (hblk : blk < w.heap.size) (hsz : zs.length < 4611686018427387904) :
    Calls Tryz.prog 115 #[.slice (some ⟨blk, off, none⟩) zs.length cap] w fun e w' =>
      e = .returned (.tuple #[]) ∧ ∃ n os, w' = grow (putRow (Value.int .i64) (Sort.ahead w n) blk off (zs.mergeSort fun x y => decide (x ≤ y)).toArray) os := Any.slices_Sort_int Tryz.lays189 blk off cap zs w hH hblk hsz
def Tryz.lays100_ren : Go.Shelf.Ren := ⟨fun | 100 => 114 | 207 => 134 | n => n, fun | 9 => 9 | 4 => 4 | 3 => 3 | n => n, fun | n => n⟩
theorem Tryz.lays100 : Go.Proofs.Lays.n100 Tryz.prog Tryz.lays100_ren := {
  mixed := by kernel_rfl
  f100 := Tryz.func114.trans (congrArg some (by kernel_rfl))
  f207 := Tryz.func134.trans (congrArg some (by kernel_rfl))
  t3 := Tryz.underlying3
  a3 := Tryz.isAgg3
  z3 := Tryz.sizeOf3
  v3 := Tryz.zeroValue3
  t4 := Tryz.underlying4
  a4 := Tryz.isAgg4
  z4 := Tryz.sizeOf4
  v4 := Tryz.zeroValue4
  t9 := Tryz.underlying9
  a9 := Tryz.isAgg9
  z9 := Tryz.sizeOf9
  v9 := Tryz.zeroValue9 }
open Go.RowKit Go.Lib in
/-- strings.HasSuffix: "HasSuffix reports whether the string s ends with suffix.": IT RETURNS 'Lib.hasSuffix s suffix'; the world is as it was. ('hs': no Go string is longer: a caller has it of every string that it was handed.) (LAID: no walk: one application.) -/
theorem Tryz.strings_HasSuffix (s p : ByteArray) (w : World) (hs : s.size ≤ 9223372036854775807) :
    Calls Tryz.prog 114 #[.string s, .string p] w fun e w' => e = .returned (.bool (Lib.hasSuffix s.data.toList p.data.toList)) ∧ w' = w := Any.strings_HasSuffix Tryz.lays100 s p w hs
def Tryz.lays107_ren : Go.Shelf.Ren := ⟨fun | 107 => 130 | 108 => 147 | n => n, fun | 28 => 108 | 3 => 3 | 4 => 4 | 0 => 0 | n => n, fun | n => n⟩
theorem Tryz.lays107 : Go.Proofs.Lays.n107 Tryz.prog Tryz.lays107_ren := {
  mixed := by kernel_rfl
  f107 := Tryz.func130.trans (congrArg some (by kernel_rfl))
  f108 := Tryz.func147.trans (congrArg some (by kernel_rfl))
  t0 := Tryz.underlying0
  a0 := Tryz.isAgg0
  z0 := Tryz.sizeOf0
  v0 := Tryz.zeroValue0
  t3 := Tryz.underlying3
  a3 := Tryz.isAgg3
  z3 := Tryz.sizeOf3
  v3 := Tryz.zeroValue3
  t4 := Tryz.underlying4
  a4 := Tryz.isAgg4
  z4 := Tryz.sizeOf4
  v4 := Tryz.zeroValue4
  t28 := Tryz.underlying108
  a28 := Tryz.isAgg108
  z28 := Tryz.sizeOf108
  v28 := Tryz.zeroValue108 }
open Go.Lib in
/-- slices.Contains at []int: "Contains reports whether v is present in s.": IT RETURNS 'elements.contains v'; the world is as it was. ITS CALLEE slices.Index IS MET BY ITS OWN CONTRACT OFF THE SHELF (lay that first): no loop is walked here. (LAID: no walk: one application.) -/
theorem Tryz.slices_Contains_int (b off n c : Nat) (zs : List Int) (x : Int) (w : World) (hz : n ≤ zs.length) (hbig : n ≤ 9223372036854775807) (hc : ∀ j, j < zs.length → w.cell? ⟨b, off + j, none⟩ = some (.int .i64 (zs.getD j 0))) :
    Calls Tryz.prog 130 #[.slice (some ⟨b, off, none⟩) n c, .int .i64 x] w fun e w' => e = .returned (.bool ((zs.take n).contains x)) ∧ w' = w := Any.slices_Contains_int Tryz.lays107 b off n c zs x w hz hbig hc
def Tryz.laysNm220_ren : Go.Shelf.Ren := ⟨fun | 20 => 116 | n => n, fun | 22 => 108 | 3 => 3 | 4 => 4 | 0 => 0 | n => n, fun | n => n⟩
theorem Tryz.laysNm220 : Go.Proofs.Lays2.n20 Tryz.prog Tryz.laysNm220_ren := {
  mixed := by kernel_rfl
  f20 := Tryz.func116.trans (congrArg some (by kernel_rfl))
  t0 := Tryz.underlying0
  a0 := Tryz.isAgg0
  z0 := Tryz.sizeOf0
  v0 := Tryz.zeroValue0
  t3 := Tryz.underlying3
  a3 := Tryz.isAgg3
  z3 := Tryz.sizeOf3
  v3 := Tryz.zeroValue3
  t4 := Tryz.underlying4
  a4 := Tryz.isAgg4
  z4 := Tryz.sizeOf4
  v4 := Tryz.zeroValue4
  t22 := Tryz.underlying108
  a22 := Tryz.isAgg108
  z22 := Tryz.sizeOf108
  v22 := Tryz.zeroValue108
  i3 := by kernel_rfl }
open Go.RowKit Go.Lib Go.Sort in
/-- slices.Compact at []int: "Compact replaces consecutive runs of equal elements with a single copy. This is like the uniq command found on Unix. Compact modifies the contents of the slice s and returns the modified slice, which may have a smaller length. Compact zeroes the elements between the new length and the original length. The result preserves the nilness of s.": IT RETURNS THE SLICE CUT TO 'Lib.compact zs'; ITS CELLS HOLD 'Lib.compact zs', THEN ZERO VALUES up to the old length; all else is as it was, but for the count of draws. IN THE WORDS OF slices.Sort's CONTRACT ('Holds', 'putRow'): so the everyday 'slices.Sort(xs); xs = slices.Compact(xs)' goes from the one contract to the other. It asks 'zs.length ≤ cap' (every slice's: the reslicing 's[:k]' looks at it). Length 0, nil: '.._empty'. (LAID: no walk: one application.) -/
theorem Tryz.slices_Compact_int (blk off cap : Nat) (zs : List Int) (w : World) (hH : Holds (Value.int .i64) w blk off zs.toArray) (hsz : zs.length ≤ 9223372036854775807) (hcap : zs.length ≤ cap) :
    Calls Tryz.prog 116 #[.slice (some ⟨blk, off, none⟩) zs.length cap] w fun e w' => e = .returned (.slice (some ⟨blk, off, none⟩) (Lib.compact zs).length cap) ∧ ∃ q, w' = putRow (Value.int .i64) (Sort.ahead w q) blk off (Lib.compact zs ++ List.replicate (zs.length - (Lib.compact zs).length) 0).toArray := Any.slices_Compact_int Tryz.laysNm220 blk off cap zs w hH hsz hcap
end Go.Proofs
