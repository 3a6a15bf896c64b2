/-
  DERIVED: THE SHELF's CONTRACTS AT THIS DUMP, IN PLAIN WORDS (tools/lay-plain.mjs out of 'TrydShelf.lean', which tools/lay-shelf.mjs wrote): THE SAME DECLARATIONS UNDER THE SAME NAMES: 'import', 'namespace', 'open', 'def', 'theorem' AND NOTHING ELSE: no command of the shelf's: FOR A HAND-IN. Each laying: the table of numbers ('.._ren') and one theorem, a field a fact of the dump's own or the kernel's comparison; each contract: ONE APPLICATION.
-/
import Derived.Shelf.Strings.Builder1
import Derived.Shelf.Strings.OnBuilder
import Derived.Shelf.LaysM
import Derived.Shelf.Strconv.Itoa3
import Derived.Shelf.LaysC
import Derived.Shelf.Strings.Cut
import Derived.Shelf.Sort.Plain
import Derived.Shelf.Strings.Split
import Derived.Shelf.Strings.Fields
import Derived.Shelf.Slices.Turned
import Derived.Ground.Names2Prog
import Derived.Shelf.Slices.CompactI
import Derived.Shelf.Slices.Cells
import Derived.Test.YtdjknobolflldaaDoorProg
namespace Go.Proofs
def Tryd.lays189_ren : Go.Shelf.Ren := ⟨fun | 189 => 56 | 125 => 70 | 257 => 69 | 128 => 97 | 129 => 98 | 294 => 88 | 295 => 89 | 296 => 90 | 297 => 91 | 298 => 92 | 299 => 93 | 216 => 94 | 300 => 95 | 301 => 96 | 328 => 111 | 329 => 112 | 330 => 113 | 331 => 114 | 332 => 115 | 215 => 116 | 343 => 122 | n => n, fun | 28 => 51 | 3 => 3 | 46 => 115 | 0 => 0 | 51 => 85 | 53 => 75 | 4 => 4 | 183 => 135 | 182 => 134 | 131 => 78 | 5 => 5 | 9 => 9 | 218 => 155 | 222 => 80 | 228 => 165 | 229 => 166 | n => n, fun | n => n⟩
theorem Tryd.lays189 : Go.Proofs.Lays.n189 Tryd.prog Tryd.lays189_ren := {
  mixed := by kernel_rfl
  f125 := Tryd.func70.trans (congrArg some (by kernel_rfl))
  f128 := Tryd.func97.trans (congrArg some (by kernel_rfl))
  f129 := Tryd.func98.trans (congrArg some (by kernel_rfl))
  f189 := Tryd.func56.trans (congrArg some (by kernel_rfl))
  f215 := Tryd.func116.trans (congrArg some (by kernel_rfl))
  f216 := Tryd.func94.trans (congrArg some (by kernel_rfl))
  f257 := Tryd.func69.trans (congrArg some (by kernel_rfl))
  f294 := Tryd.func88.trans (congrArg some (by kernel_rfl))
  f295 := Tryd.func89.trans (congrArg some (by kernel_rfl))
  f296 := Tryd.func90.trans (congrArg some (by kernel_rfl))
  f297 := Tryd.func91.trans (congrArg some (by kernel_rfl))
  f298 := Tryd.func92.trans (congrArg some (by kernel_rfl))
  f299 := Tryd.func93.trans (congrArg some (by kernel_rfl))
  f300 := Tryd.func95.trans (congrArg some (by kernel_rfl))
  f301 := Tryd.func96.trans (congrArg some (by kernel_rfl))
  f328 := Tryd.func111.trans (congrArg some (by kernel_rfl))
  f329 := Tryd.func112.trans (congrArg some (by kernel_rfl))
  f330 := Tryd.func113.trans (congrArg some (by kernel_rfl))
  f331 := Tryd.func114.trans (congrArg some (by kernel_rfl))
  f332 := Tryd.func115.trans (congrArg some (by kernel_rfl))
  f343 := Tryd.func122.trans (congrArg some (by kernel_rfl))
  t0 := Tryd.underlying0
  a0 := Tryd.isAgg0
  z0 := Tryd.sizeOf0
  v0 := Tryd.zeroValue0
  t3 := Tryd.underlying3
  a3 := Tryd.isAgg3
  z3 := Tryd.sizeOf3
  v3 := Tryd.zeroValue3
  t4 := Tryd.underlying4
  a4 := Tryd.isAgg4
  z4 := Tryd.sizeOf4
  v4 := Tryd.zeroValue4
  t5 := Tryd.underlying5
  a5 := Tryd.isAgg5
  z5 := Tryd.sizeOf5
  v5 := Tryd.zeroValue5
  t9 := Tryd.underlying9
  a9 := Tryd.isAgg9
  z9 := Tryd.sizeOf9
  v9 := Tryd.zeroValue9
  t28 := Tryd.underlying51
  a28 := Tryd.isAgg51
  z28 := Tryd.sizeOf51
  v28 := Tryd.zeroValue51
  t46 := Tryd.underlying115
  a46 := Tryd.isAgg115
  z46 := Tryd.sizeOf115
  v46 := Tryd.zeroValue115
  t51 := Tryd.underlying85
  a51 := Tryd.isAgg85
  z51 := Tryd.sizeOf85
  v51 := Tryd.zeroValue85
  t53 := Tryd.underlying75
  a53 := Tryd.isAgg75
  z53 := Tryd.sizeOf75
  v53 := Tryd.zeroValue75
  t131 := Tryd.underlying78
  a131 := Tryd.isAgg78
  z131 := Tryd.sizeOf78
  v131 := Tryd.zeroValue78
  t182 := Tryd.underlying134
  a182 := Tryd.isAgg134
  z182 := Tryd.sizeOf134
  v182 := Tryd.zeroValue134
  t183 := Tryd.underlying135
  a183 := Tryd.isAgg135
  z183 := Tryd.sizeOf135
  v183 := Tryd.zeroValue135
  t218 := Tryd.underlying155
  a218 := Tryd.isAgg155
  z218 := Tryd.sizeOf155
  v218 := Tryd.zeroValue155
  t222 := Tryd.underlying80
  a222 := Tryd.isAgg80
  z222 := Tryd.sizeOf80
  v222 := Tryd.zeroValue80
  t228 := Tryd.underlying165
  a228 := Tryd.isAgg165
  z228 := Tryd.sizeOf165
  v228 := Tryd.zeroValue165
  t229 := Tryd.underlying166
  a229 := Tryd.isAgg166
  z229 := Tryd.sizeOf166
  v229 := Tryd.zeroValue166 }
open Go.Sort Go.RowKit in
theorem Tryd.slices_Sort_int (blk off cap : Nat) (zs : List Int) (w : World) (hH : Holds (Value.int .i64) w blk off zs.toArray) (hblk : blk < w.heap.size) (hsz : zs.length < 4611686018427387904) :
    Calls Tryd.prog 56 #[.slice (some ⟨blk, off, none⟩) zs.length cap] w fun e w' =>
      e = .returned (.tuple #[]) ∧ ∃ n os, w' = grow (putRow (Value.int .i64) (Sort.ahead w n) blk off (zs.mergeSort fun x y => decide (x ≤ y)).toArray) os := Any.slices_Sort_int Tryd.lays189 blk off cap zs w hH hblk hsz
def Tryd.lays157_ren : Go.Shelf.Ren := ⟨fun | 157 => 21 | 229 => 35 | 199 => 36 | 261 => 50 | 311 => 66 | 312 => 67 | n => n, fun | 9 => 9 | 31 => 38 | 3 => 3 | 5 => 5 | 4 => 4 | 119 => 66 | 0 => 0 | 40 => 68 | 152 => 82 | 21 => 21 | 154 => 84 | 51 => 85 | 141 => 87 | 196 => 104 | 193 => 101 | 198 => 107 | 49 => 105 | 194 => 102 | 201 => 110 | 226 => 131 | 46 => 115 | 227 => 132 | n => n, fun | 0 => 0 | 6 => 1 | n => n⟩
theorem Tryd.lays157 : Go.Proofs.Lays.n157 Tryd.prog Tryd.lays157_ren := {
  mixed := by kernel_rfl
  f157 := Tryd.func21.trans (congrArg some (by kernel_rfl))
  f199 := Tryd.func36.trans (congrArg some (by kernel_rfl))
  f229 := Tryd.func35.trans (congrArg some (by kernel_rfl))
  f261 := Tryd.func50.trans (congrArg some (by kernel_rfl))
  f311 := Tryd.func66.trans (congrArg some (by kernel_rfl))
  f312 := Tryd.func67.trans (congrArg some (by kernel_rfl))
  t0 := Tryd.underlying0
  a0 := Tryd.isAgg0
  z0 := Tryd.sizeOf0
  v0 := Tryd.zeroValue0
  t3 := Tryd.underlying3
  a3 := Tryd.isAgg3
  z3 := Tryd.sizeOf3
  v3 := Tryd.zeroValue3
  t4 := Tryd.underlying4
  a4 := Tryd.isAgg4
  z4 := Tryd.sizeOf4
  v4 := Tryd.zeroValue4
  t5 := Tryd.underlying5
  a5 := Tryd.isAgg5
  z5 := Tryd.sizeOf5
  v5 := Tryd.zeroValue5
  t9 := Tryd.underlying9
  a9 := Tryd.isAgg9
  z9 := Tryd.sizeOf9
  v9 := Tryd.zeroValue9
  t21 := Tryd.underlying21
  a21 := Tryd.isAgg21
  z21 := Tryd.sizeOf21
  v21 := Tryd.zeroValue21
  t31 := Tryd.underlying38
  a31 := Tryd.isAgg38
  z31 := Tryd.sizeOf38
  v31 := Tryd.zeroValue38
  t40 := Tryd.underlying68
  a40 := Tryd.isAgg68
  z40 := Tryd.sizeOf68
  v40 := Tryd.zeroValue68
  t46 := Tryd.underlying115
  a46 := Tryd.isAgg115
  z46 := Tryd.sizeOf115
  v46 := Tryd.zeroValue115
  t49 := Tryd.underlying105
  a49 := Tryd.isAgg105
  z49 := Tryd.sizeOf105
  v49 := Tryd.zeroValue105
  t51 := Tryd.underlying85
  a51 := Tryd.isAgg85
  z51 := Tryd.sizeOf85
  v51 := Tryd.zeroValue85
  t119 := Tryd.underlying66
  a119 := Tryd.isAgg66
  z119 := Tryd.sizeOf66
  t141 := Tryd.underlying87
  a141 := Tryd.isAgg87
  z141 := Tryd.sizeOf87
  v141 := Tryd.zeroValue87
  t152 := Tryd.underlying82
  a152 := Tryd.isAgg82
  z152 := Tryd.sizeOf82
  v152 := Tryd.zeroValue82
  t154 := Tryd.underlying84
  a154 := Tryd.isAgg84
  z154 := Tryd.sizeOf84
  v154 := Tryd.zeroValue84
  t193 := Tryd.underlying101
  a193 := Tryd.isAgg101
  z193 := Tryd.sizeOf101
  v193 := Tryd.zeroValue101
  t194 := Tryd.underlying102
  a194 := Tryd.isAgg102
  z194 := Tryd.sizeOf102
  v194 := Tryd.zeroValue102
  t196 := Tryd.underlying104
  a196 := Tryd.isAgg104
  z196 := Tryd.sizeOf104
  v196 := Tryd.zeroValue104
  t198 := Tryd.underlying107
  a198 := Tryd.isAgg107
  z198 := Tryd.sizeOf107
  v198 := Tryd.zeroValue107
  t201 := Tryd.underlying110
  a201 := Tryd.isAgg110
  z201 := Tryd.sizeOf110
  v201 := Tryd.zeroValue110
  t226 := Tryd.underlying131
  a226 := Tryd.isAgg131
  z226 := Tryd.sizeOf131
  v226 := Tryd.zeroValue131
  t227 := Tryd.underlying132
  a227 := Tryd.isAgg132
  z227 := Tryd.sizeOf132
  v227 := Tryd.zeroValue132
  g0 := by kernel_rfl
  g6 := by kernel_rfl }
open Go.RowKit Go.Lib in
/-- strings.Fields, the table by 'Lib.TabIs' (as strings.TrimSpace's contract). 'hg': the table's number, by its name: at a dump 'by kernel_rfl'. (LAID: no walk: one application.) -/
theorem Tryd.strings_Fields (s : ByteArray) (w : World) (hs : s.size < 4294967281) (hascii : ∀ (j : Nat) b, s.data.toList[j]? = some b → b.toNat < 128) (htab : Lib.TabIs Tryd.prog w "strings.asciiSpace" .u8 Lib.asciiSpaceTab) :
    Calls Tryd.prog 21 #[.string s] w fun e w' =>
      e = .returned (.slice (some ⟨w.heap.size, 0, none⟩) (Lib.fields s.data.toList).length (Lib.fields s.data.toList).length) ∧ w' = w.alloc (.cells ((Lib.fields s.data.toList).map fun l => Value.string ⟨l.toArray⟩).toArray 9) := Any.strings_Fields Tryd.lays157 (by kernel_rfl) (by kernel_rfl) s w hs hascii htab
def Tryd.laysNm220_ren : Go.Shelf.Ren := ⟨fun | 20 => 57 | n => n, fun | 22 => 51 | 3 => 3 | 4 => 4 | 0 => 0 | n => n, fun | n => n⟩
theorem Tryd.laysNm220 : Go.Proofs.Lays2.n20 Tryd.prog Tryd.laysNm220_ren := {
  mixed := by kernel_rfl
  f20 := Tryd.func57.trans (congrArg some (by kernel_rfl))
  t0 := Tryd.underlying0
  a0 := Tryd.isAgg0
  z0 := Tryd.sizeOf0
  v0 := Tryd.zeroValue0
  t3 := Tryd.underlying3
  a3 := Tryd.isAgg3
  z3 := Tryd.sizeOf3
  v3 := Tryd.zeroValue3
  t4 := Tryd.underlying4
  a4 := Tryd.isAgg4
  z4 := Tryd.sizeOf4
  v4 := Tryd.zeroValue4
  t22 := Tryd.underlying51
  a22 := Tryd.isAgg51
  z22 := Tryd.sizeOf51
  v22 := Tryd.zeroValue51
  i3 := by kernel_rfl }
open Go.RowKit Go.Lib Go.Sort in
/-- slices.Compact at []int: "Compact replaces consecutive runs of equal elements with a single copy. This is like the uniq command found on Unix. Compact modifies the contents of the slice s and returns the modified slice, which may have a smaller length. Compact zeroes the elements between the new length and the original length. The result preserves the nilness of s.": IT RETURNS THE SLICE CUT TO 'Lib.compact zs'; ITS CELLS HOLD 'Lib.compact zs', THEN ZERO VALUES up to the old length; all else is as it was, but for the count of draws. IN THE WORDS OF slices.Sort's CONTRACT ('Holds', 'putRow'): so the everyday 'slices.Sort(xs); xs = slices.Compact(xs)' goes from the one contract to the other. It asks 'zs.length ≤ cap' (every slice's: the reslicing 's[:k]' looks at it). Length 0, nil: '.._empty'. (LAID: no walk: one application.) -/
theorem Tryd.slices_Compact_int (blk off cap : Nat) (zs : List Int) (w : World) (hH : Holds (Value.int .i64) w blk off zs.toArray) (hsz : zs.length ≤ 9223372036854775807) (hcap : zs.length ≤ cap) :
    Calls Tryd.prog 57 #[.slice (some ⟨blk, off, none⟩) zs.length cap] w fun e w' => e = .returned (.slice (some ⟨blk, off, none⟩) (Lib.compact zs).length cap) ∧ ∃ q, w' = putRow (Value.int .i64) (Sort.ahead w q) blk off (Lib.compact zs ++ List.replicate (zs.length - (Lib.compact zs).length) 0).toArray := Any.slices_Compact_int Tryd.laysNm220 blk off cap zs w hH hsz hcap
end Go.Proofs
