/-
 DERIVED: THE SHELF's CONTRACTS AT THIS DUMP, IN PLAIN WORDS (tools/lay-plain.mjs out of 'YtikpcipkkhmcfaaGreatSH.lean', which tools/lay-shelf.mjs wrote): THE SAME DECLARATIONS UNDER THE SAME NAMES: 'import', 'namespace', 'open', 'def', 'theorem' AND NOTHING ELSE: no command of the shelf's: FOR A HAND-IN. Each laying: the table of numbers ('.._ren') and one theorem, a field a fact of the dump's own or the kernel's comparison; each contract: ONE APPLICATION.
-/
import Derived.Shelf.Small.Bits
import Derived.Shelf.Strconv.Itoa0
import Derived.Shelf.Sort.Plain
import Derived.Shelf.Bits.Mul64
import Derived.Shelf.Slices.Turned
import Derived.Ground.Names2Prog
import Derived.Shelf.Slices.CompactI
import Derived.Shelf.Slices.SearchI
import Derived.Shelf.Slices.In.SortNone
import Derived.Shelf.Slices.Empties
import Derived.Ground.SlsfProg
import Derived.Shelf.SlSortCmp.Insertion
import Derived.Shelf.SlSortCmp.SiftDown1
import Derived.Shelf.SlSortCmp.HeapSort1
import Derived.Shelf.SlSortCmp.Insertion1
import Derived.Shelf.SlSortCmp.Median1
import Derived.Shelf.SlSortCmp.Pivot1
import Derived.Shelf.SlSortCmp.ReverseRange1
import Derived.Shelf.SlSortCmp.PartialInsertion1
import Derived.Shelf.SlSortCmp.PartitionEqual1
import Derived.Shelf.SlSortCmp.Partition1
import Derived.Shelf.SlSortCmp.Pdq1
import Derived.Shelf.SlSortCmp.Whole1
import Derived.Shelf.SlSortCmp.NoneTotal
import Derived.Test.YtikpcipkkhmcfaaGreatProg
namespace Go.Proofs
open Go.Shelf
def Tryz.lays189_ren : Go.Shelf.Ren := ⟨fun | 189 => 90 | 125 => 112 | 257 => 111 | 128 => 134 | 129 => 135 | 294 => 125 | 295 => 126 | 296 => 127 | 297 => 128 | 298 => 129 | 299 => 130 | 216 => 131 | 300 => 132 | 301 => 133 | 328 => 153 | 329 => 154 | 330 => 155 | 331 => 156 | 332 => 157 | 215 => 106 | 343 => 162 | n => n, fun | 28 => 22 | 3 => 3 | 46 => 107 | 0 => 0 | 51 => 148 | 53 => 150 | 4 => 4 | 183 => 141 | 182 => 140 | 131 => 79 | 5 => 5 | 9 => 9 | 218 => 163 | 222 => 167 | 228 => 172 | 229 => 173 | n => n, fun | n => n⟩
theorem Tryz.lays189 : Go.Proofs.Lays.n189 Tryz.prog Tryz.lays189_ren := {
 mixed := by kernel_rfl
 f125 := Tryz.func112.trans (congrArg some (by kernel_rfl))
 f128 := Tryz.func134.trans (congrArg some (by kernel_rfl))
 f129 := Tryz.func135.trans (congrArg some (by kernel_rfl))
 f189 := Tryz.func90.trans (congrArg some (by kernel_rfl))
 f215 := Tryz.func106.trans (congrArg some (by kernel_rfl))
 f216 := Tryz.func131.trans (congrArg some (by kernel_rfl))
 f257 := Tryz.func111.trans (congrArg some (by kernel_rfl))
 f294 := Tryz.func125.trans (congrArg some (by kernel_rfl))
 f295 := Tryz.func126.trans (congrArg some (by kernel_rfl))
 f296 := Tryz.func127.trans (congrArg some (by kernel_rfl))
 f297 := Tryz.func128.trans (congrArg some (by kernel_rfl))
 f298 := Tryz.func129.trans (congrArg some (by kernel_rfl))
 f299 := Tryz.func130.trans (congrArg some (by kernel_rfl))
 f300 := Tryz.func132.trans (congrArg some (by kernel_rfl))
 f301 := Tryz.func133.trans (congrArg some (by kernel_rfl))
 f328 := Tryz.func153.trans (congrArg some (by kernel_rfl))
 f329 := Tryz.func154.trans (congrArg some (by kernel_rfl))
 f330 := Tryz.func155.trans (congrArg some (by kernel_rfl))
 f331 := Tryz.func156.trans (congrArg some (by kernel_rfl))
 f332 := Tryz.func157.trans (congrArg some (by kernel_rfl))
 f343 := Tryz.func162.trans (congrArg some (by kernel_rfl))
 t0 := Tryz.underlying0
 a0 := Tryz.isAgg0
 z0 := Tryz.sizeOf0
 v0 := Tryz.zeroValue0
 t3 := Tryz.underlying3
 a3 := Tryz.isAgg3
 z3 := Tryz.sizeOf3
 v3 := Tryz.zeroValue3
 t4 := Tryz.underlying4
 a4 := Tryz.isAgg4
 z4 := Tryz.sizeOf4
 v4 := Tryz.zeroValue4
 t5 := Tryz.underlying5
 a5 := Tryz.isAgg5
 z5 := Tryz.sizeOf5
 v5 := Tryz.zeroValue5
 t9 := Tryz.underlying9
 a9 := Tryz.isAgg9
 z9 := Tryz.sizeOf9
 v9 := Tryz.zeroValue9
 t28 := Tryz.underlying22
 a28 := Tryz.isAgg22
 z28 := Tryz.sizeOf22
 v28 := Tryz.zeroValue22
 t46 := Tryz.underlying107
 a46 := Tryz.isAgg107
 z46 := Tryz.sizeOf107
 v46 := Tryz.zeroValue107
 t51 := Tryz.underlying148
 a51 := Tryz.isAgg148
 z51 := Tryz.sizeOf148
 v51 := Tryz.zeroValue148
 t53 := Tryz.underlying150
 a53 := Tryz.isAgg150
 z53 := Tryz.sizeOf150
 v53 := Tryz.zeroValue150
 t131 := Tryz.underlying79
 a131 := Tryz.isAgg79
 z131 := Tryz.sizeOf79
 v131 := Tryz.zeroValue79
 t182 := Tryz.underlying140
 a182 := Tryz.isAgg140
 z182 := Tryz.sizeOf140
 v182 := Tryz.zeroValue140
 t183 := Tryz.underlying141
 a183 := Tryz.isAgg141
 z183 := Tryz.sizeOf141
 v183 := Tryz.zeroValue141
 t218 := Tryz.underlying163
 a218 := Tryz.isAgg163
 z218 := Tryz.sizeOf163
 v218 := Tryz.zeroValue163
 t222 := Tryz.underlying167
 a222 := Tryz.isAgg167
 z222 := Tryz.sizeOf167
 v222 := Tryz.zeroValue167
 t228 := Tryz.underlying172
 a228 := Tryz.isAgg172
 z228 := Tryz.sizeOf172
 v228 := Tryz.zeroValue172
 t229 := Tryz.underlying173
 a229 := Tryz.isAgg173
 z229 := Tryz.sizeOf173
 v229 := Tryz.zeroValue173 }
open Go.Sort Go.RowKit in
theorem Tryz.slices_Sort_int (blk off cap : Nat) (zs : List Int) (w : World) (hH : Holds (Value.int .i64) w blk off zs.toArray) (hblk : blk < w.heap.size) (hsz : zs.length < 4611686018427387904) :
  Calls Tryz.prog 90 #[.slice (some ⟨blk, off, none⟩) zs.length cap] w fun e w' =>
   e = .returned (.tuple #[]) ∧ ∃ n os, w' = grow (putRow (Value.int .i64) (Sort.ahead w n) blk off (zs.mergeSort fun x y => decide (x ≤ y)).toArray) os := Any.slices_Sort_int Tryz.lays189 blk off cap zs w hH hblk hsz
def Tryz.lays212_ren : Go.Shelf.Ren := ⟨fun | 212 => 123 | 263 => 151 | 264 => 152 | n => n, fun | 46 => 107 | 51 => 148 | 146 => 159 | 53 => 150 | 148 => 161 | n => n, fun | n => n⟩
theorem Tryz.lays212 : Go.Proofs.Lays.n212 Tryz.prog Tryz.lays212_ren := {
 mixed := by kernel_rfl
 f212 := Tryz.func123.trans (congrArg some (by kernel_rfl))
 f263 := Tryz.func151.trans (congrArg some (by kernel_rfl))
 f264 := Tryz.func152.trans (congrArg some (by kernel_rfl))
 t46 := Tryz.underlying107
 a46 := Tryz.isAgg107
 z46 := Tryz.sizeOf107
 v46 := Tryz.zeroValue107
 t51 := Tryz.underlying148
 a51 := Tryz.isAgg148
 z51 := Tryz.sizeOf148
 v51 := Tryz.zeroValue148
 t53 := Tryz.underlying150
 a53 := Tryz.isAgg150
 z53 := Tryz.sizeOf150
 v53 := Tryz.zeroValue150
 t146 := Tryz.underlying159
 a146 := Tryz.isAgg159
 z146 := Tryz.sizeOf159
 v146 := Tryz.zeroValue159
 t148 := Tryz.underlying161
 a148 := Tryz.isAgg161
 z148 := Tryz.sizeOf161
 v148 := Tryz.zeroValue161 }
open Go.RowKit Go.Lib in
/-- math/bits.Mul: "Mul returns the full-width product of x and y": on a machine of 64 bits: Mul64's. (LAID: no walk: one application.) -/
theorem Tryz.bits_Mul (x y : Nat) (hx : x < 18446744073709551616) (hy : y < 18446744073709551616) (w : World) :
  Calls Tryz.prog 123 #[.int .u64 x, .int .u64 y] w fun e w' => e = .returned (.tuple #[.int .u64 ((x * y / 18446744073709551616 : Nat) : Int), .int .u64 ((x * y % 18446744073709551616 : Nat) : Int)]) ∧ w' = w := Any.bits_Mul Tryz.lays212 x y hx hy w
def Tryz.lays114_ren : Go.Shelf.Ren := ⟨fun | 114 => 124 | n => n, fun | 28 => 22 | 3 => 3 | 4 => 4 | 9 => 9 | 20 => 20 | 0 => 0 | n => n, fun | n => n⟩
theorem Tryz.lays114 : Go.Proofs.Lays.n114 Tryz.prog Tryz.lays114_ren := {
 mixed := by kernel_rfl
 f114 := Tryz.func124.trans (congrArg some (by kernel_rfl))
 t0 := Tryz.underlying0
 a0 := Tryz.isAgg0
 z0 := Tryz.sizeOf0
 v0 := Tryz.zeroValue0
 t3 := Tryz.underlying3
 a3 := Tryz.isAgg3
 z3 := Tryz.sizeOf3
 v3 := Tryz.zeroValue3
 t4 := Tryz.underlying4
 a4 := Tryz.isAgg4
 z4 := Tryz.sizeOf4
 v4 := Tryz.zeroValue4
 t9 := Tryz.underlying9
 a9 := Tryz.isAgg9
 z9 := Tryz.sizeOf9
 v9 := Tryz.zeroValue9
 t20 := Tryz.underlying20
 a20 := Tryz.isAgg20
 z20 := Tryz.sizeOf20
 v20 := Tryz.zeroValue20
 t28 := Tryz.underlying22
 a28 := Tryz.isAgg22
 z28 := Tryz.sizeOf22
 v28 := Tryz.zeroValue22 }
open Go.Lib in
/-- slices.Min at []int: "Min returns the minimal value in x. It panics if x is empty.": OF A SLICE THAT IS NOT EMPTY IT RETURNS 'Lib.minOf (the elements)'; the world is as it was. (Of an empty one it panics: no contract here.) (LAID: no walk: one application.) -/
theorem Tryz.slices_Min_int (b off n c : Nat) (zs : List Int) (w : World) (hn : 0 < n) (hz : n ≤ zs.length) (hbig : n ≤ 9223372036854775807) (hc : ∀ j, j < zs.length → w.cell? ⟨b, off + j, none⟩ = some (.int .i64 (zs.getD j 0))) :
  Calls Tryz.prog 124 #[.slice (some ⟨b, off, none⟩) n c] w fun e w' => e = .returned (.int .i64 (Lib.minOf (zs.take n))) ∧ w' = w := Any.slices_Min_int Tryz.lays114 b off n c zs w hn hz hbig hc
def Tryz.laysNm220_ren : Go.Shelf.Ren := ⟨fun | 20 => 92 | n => n, fun | 22 => 22 | 3 => 3 | 4 => 4 | 0 => 0 | n => n, fun | n => n⟩
theorem Tryz.laysNm220 : Go.Proofs.Lays2.n20 Tryz.prog Tryz.laysNm220_ren := {
 mixed := by kernel_rfl
 f20 := Tryz.func92.trans (congrArg some (by kernel_rfl))
 t0 := Tryz.underlying0
 a0 := Tryz.isAgg0
 z0 := Tryz.sizeOf0
 v0 := Tryz.zeroValue0
 t3 := Tryz.underlying3
 a3 := Tryz.isAgg3
 z3 := Tryz.sizeOf3
 v3 := Tryz.zeroValue3
 t4 := Tryz.underlying4
 a4 := Tryz.isAgg4
 z4 := Tryz.sizeOf4
 v4 := Tryz.zeroValue4
 t22 := Tryz.underlying22
 a22 := Tryz.isAgg22
 z22 := Tryz.sizeOf22
 v22 := Tryz.zeroValue22
 i3 := by kernel_rfl }
open Go.RowKit Go.Lib Go.Sort in
/-- slices.Compact at []int: "Compact replaces consecutive runs of equal elements with a single copy. This is like the uniq command found on Unix. Compact modifies the contents of the slice s and returns the modified slice, which may have a smaller length. Compact zeroes the elements between the new length and the original length. The result preserves the nilness of s.": IT RETURNS THE SLICE CUT TO 'Lib.compact zs'; ITS CELLS HOLD 'Lib.compact zs', THEN ZERO VALUES up to the old length; all else is as it was, but for the count of draws. IN THE WORDS OF slices.Sort's CONTRACT ('Holds', 'putRow'): so the everyday 'slices.Sort(xs); xs = slices.Compact(xs)' goes from the one contract to the other. It asks 'zs.length ≤ cap' (every slice's: the reslicing 's[:k]' looks at it). Length 0, nil: '.._empty'. (LAID: no walk: one application.) -/
theorem Tryz.slices_Compact_int (blk off cap : Nat) (zs : List Int) (w : World) (hH : Holds (Value.int .i64) w blk off zs.toArray) (hsz : zs.length ≤ 9223372036854775807) (hcap : zs.length ≤ cap) :
  Calls Tryz.prog 92 #[.slice (some ⟨blk, off, none⟩) zs.length cap] w fun e w' => e = .returned (.slice (some ⟨blk, off, none⟩) (Lib.compact zs).length cap) ∧ ∃ q, w' = putRow (Value.int .i64) (Sort.ahead w q) blk off (Lib.compact zs ++ List.replicate (zs.length - (Lib.compact zs).length) 0).toArray := Any.slices_Compact_int Tryz.laysNm220 blk off cap zs w hH hsz hcap
open Go.RowKit Go.Lib Go.Sort in
/-- The same at a slice of length 0, a nil one too: it comes back as it is. (LAID: no walk: one application.) -/
theorem Tryz.slices_Compact_int_empty (a : Option Addr) (cap : Nat) (w : World) :
  Calls Tryz.prog 92 #[.slice a 0 cap] w fun e w' => e = .returned (.slice a 0 cap) ∧ w' = w := Any.slices_Compact_int_empty Tryz.laysNm220 a cap w
open Go.RowKit Go.Sort in
/-- .. and plain. (LAID: no walk: one application.) -/
theorem Tryz.slices_Sort_int_none (p : Option Addr) (cap : Nat) (w : World) :
  Calls Tryz.prog 90 #[.slice p 0 cap] w fun e w' => e = .returned (.tuple #[]) ∧ w' = w := Any.slices_Sort_int_none Tryz.lays189 p cap w
def Tryz.laysSlF6_f103_ren : Go.Shelf.Ren := ⟨fun | 6 => 103 | 15 => 112 | 14 => 122 | 28 => 134 | 29 => 135 | 20 => 143 | 21 => 144 | 22 => 145 | 23 => 146 | 24 => 147 | 25 => 148 | 26 => 149 | 27 => 150 | 46 => 159 | 47 => 154 | 48 => 155 | 49 => 160 | 50 => 161 | 57 => 163 | n => n, fun | 22 => 67 | 24 => 22 | 25 => 76 | 3 => 3 | 39 => 107 | 0 => 0 | 53 => 148 | 55 => 150 | 4 => 4 | 46 => 141 | 45 => 140 | 50 => 79 | 5 => 5 | 9 => 9 | 66 => 163 | 70 => 167 | 76 => 172 | 77 => 173 | n => n, fun | n => n⟩
theorem Tryz.laysSlF6_f103 : Go.Proofs.SlLaysF.n6 Tryz.prog Tryz.laysSlF6_f103_ren := {
 mixed := by kernel_rfl
 f6 := ⟨Tryz.f103.name, by decide, Tryz.func103.trans (congrArg some (by kernel_rfl))⟩
 f14 := ⟨Tryz.f122.name, by decide, Tryz.func122.trans (congrArg some (by kernel_rfl))⟩
 f15 := Tryz.func112.trans (congrArg some (by kernel_rfl))
 f20 := ⟨Tryz.f143.name, by decide, Tryz.func143.trans (congrArg some (by kernel_rfl))⟩
 f21 := ⟨Tryz.f144.name, by decide, Tryz.func144.trans (congrArg some (by kernel_rfl))⟩
 f22 := ⟨Tryz.f145.name, by decide, Tryz.func145.trans (congrArg some (by kernel_rfl))⟩
 f23 := ⟨Tryz.f146.name, by decide, Tryz.func146.trans (congrArg some (by kernel_rfl))⟩
 f24 := ⟨Tryz.f147.name, by decide, Tryz.func147.trans (congrArg some (by kernel_rfl))⟩
 f25 := ⟨Tryz.f148.name, by decide, Tryz.func148.trans (congrArg some (by kernel_rfl))⟩
 f26 := ⟨Tryz.f149.name, by decide, Tryz.func149.trans (congrArg some (by kernel_rfl))⟩
 f27 := ⟨Tryz.f150.name, by decide, Tryz.func150.trans (congrArg some (by kernel_rfl))⟩
 f28 := Tryz.func134.trans (congrArg some (by kernel_rfl))
 f29 := Tryz.func135.trans (congrArg some (by kernel_rfl))
 f46 := ⟨Tryz.f159.name, by decide, Tryz.func159.trans (congrArg some (by kernel_rfl))⟩
 f47 := Tryz.func154.trans (congrArg some (by kernel_rfl))
 f48 := Tryz.func155.trans (congrArg some (by kernel_rfl))
 f49 := ⟨Tryz.f160.name, by decide, Tryz.func160.trans (congrArg some (by kernel_rfl))⟩
 f50 := ⟨Tryz.f161.name, by decide, Tryz.func161.trans (congrArg some (by kernel_rfl))⟩
 f57 := ⟨Tryz.f163.name, by decide, Tryz.func163.trans (congrArg some (by kernel_rfl))⟩
 t0 := Tryz.underlying0
 a0 := Tryz.isAgg0
 z0 := Tryz.sizeOf0
 v0 := Tryz.zeroValue0
 t3 := Tryz.underlying3
 a3 := Tryz.isAgg3
 z3 := Tryz.sizeOf3
 v3 := Tryz.zeroValue3
 t4 := Tryz.underlying4
 a4 := Tryz.isAgg4
 z4 := Tryz.sizeOf4
 v4 := Tryz.zeroValue4
 t5 := Tryz.underlying5
 a5 := Tryz.isAgg5
 z5 := Tryz.sizeOf5
 v5 := Tryz.zeroValue5
 t9 := Tryz.underlying9
 a9 := Tryz.isAgg9
 z9 := Tryz.sizeOf9
 v9 := Tryz.zeroValue9
 t22 := Tryz.underlying67
 a22 := Tryz.isAgg67
 z22 := Tryz.sizeOf67
 v22 := Tryz.zeroValue67
 a24 := Tryz.isAgg22
 z24 := Tryz.sizeOf22
 t25 := Tryz.underlying76
 a25 := Tryz.isAgg76
 z25 := Tryz.sizeOf76
 v25 := Tryz.zeroValue76
 t39 := Tryz.underlying107
 a39 := Tryz.isAgg107
 z39 := Tryz.sizeOf107
 v39 := Tryz.zeroValue107
 t45 := Tryz.underlying140
 a45 := Tryz.isAgg140
 z45 := Tryz.sizeOf140
 v45 := Tryz.zeroValue140
 t46 := Tryz.underlying141
 a46 := Tryz.isAgg141
 z46 := Tryz.sizeOf141
 v46 := Tryz.zeroValue141
 t50 := Tryz.underlying79
 a50 := Tryz.isAgg79
 z50 := Tryz.sizeOf79
 v50 := Tryz.zeroValue79
 t53 := Tryz.underlying148
 a53 := Tryz.isAgg148
 z53 := Tryz.sizeOf148
 v53 := Tryz.zeroValue148
 t55 := Tryz.underlying150
 a55 := Tryz.isAgg150
 z55 := Tryz.sizeOf150
 v55 := Tryz.zeroValue150
 t66 := Tryz.underlying163
 a66 := Tryz.isAgg163
 z66 := Tryz.sizeOf163
 v66 := Tryz.zeroValue163
 t70 := Tryz.underlying167
 a70 := Tryz.isAgg167
 z70 := Tryz.sizeOf167
 v70 := Tryz.zeroValue167
 t76 := Tryz.underlying172
 a76 := Tryz.isAgg172
 z76 := Tryz.sizeOf172
 v76 := Tryz.zeroValue172
 t77 := Tryz.underlying173
 a77 := Tryz.isAgg173
 z77 := Tryz.sizeOf173
 v77 := Tryz.zeroValue173 }
open Go.RowKit Go.Lib Go.Sort in
/-- **slices.SortFunc, IN THE DOCUMENTATION's OWN TERMS: A PERMUTATION OF WHAT THE ROW HELD, SORTED BY 'cmp(a, b) < 0'.** Which of two equals comes first is left open ("The sort is not guaranteed to be stable"). (LAID AT THE INSTANCE 'slices.SortFunc[[][]int,[]int]': no walk: one application.) -/
theorem Tryz.slices_SortFunc {α : Type} [Inhabited α] (enc : α → Value) (h1 : OneCell enc) (cf : α → α → Int) (hO : SWO (ltOf cf)) (g : Nat) (cb : Array Value) (blk off cap : Nat) (d : Array α) (w : World) (eg : ∀ args w, (callFunc g args).run Tryz.prog w = .ok (.enter g args) w) (hcmp : CmpLays1 Tryz.prog g cb enc cf blk off d.size w) (hH : Holds enc w blk off d) (hblk : blk < w.heap.size) (hsz : d.size < 4611686018427387904) :
  Calls Tryz.prog 103 #[.slice (some ⟨blk, off, none⟩) d.size cap, .func (.func g) #[] cb] w fun e w' =>
   e = .returned (.tuple #[]) ∧ ∃ d' n os, PermIn 0 d.size d d' ∧ SortedIn (ltOf cf) 0 d.size d' ∧ w' = sortWorld enc w blk off n d' os := Any.slices_SortFunc Tryz.laysSlF6_f103 enc h1 cf hO g cb blk off cap d w eg hcmp hH hblk hsz
def Tryz.laysSlF06_f103_ren : Go.Shelf.Ren := ⟨fun | 6 => 103 | 15 => 112 | 14 => 122 | 28 => 134 | 29 => 135 | 20 => 143 | 21 => 144 | 22 => 145 | 23 => 146 | 24 => 147 | 25 => 148 | 26 => 149 | 27 => 150 | 46 => 159 | 47 => 154 | 48 => 155 | 49 => 160 | 50 => 161 | 57 => 163 | n => n, fun | 22 => 67 | 24 => 22 | 25 => 76 | 3 => 3 | 39 => 107 | 0 => 0 | 53 => 148 | 55 => 150 | 4 => 4 | 46 => 141 | 45 => 140 | 50 => 79 | 5 => 5 | 9 => 9 | 66 => 163 | 70 => 167 | 76 => 172 | 77 => 173 | n => n, fun | n => n⟩
theorem Tryz.laysSlF06_f103 : Go.Proofs.SlLaysF0.n6 Tryz.prog Tryz.laysSlF06_f103_ren := {
 mixed := by kernel_rfl
 f6 := ⟨Tryz.f103.name, by decide, Tryz.func103.trans (congrArg some (by kernel_rfl))⟩
 f14 := ⟨Tryz.f122.name, by decide, Tryz.func122.trans (congrArg some (by kernel_rfl))⟩
 f15 := Tryz.func112.trans (congrArg some (by kernel_rfl))
 f20 := ⟨Tryz.f143.name, by decide, Tryz.func143.trans (congrArg some (by kernel_rfl))⟩
 f21 := ⟨Tryz.f144.name, by decide, Tryz.func144.trans (congrArg some (by kernel_rfl))⟩
 f22 := ⟨Tryz.f145.name, by decide, Tryz.func145.trans (congrArg some (by kernel_rfl))⟩
 f23 := ⟨Tryz.f146.name, by decide, Tryz.func146.trans (congrArg some (by kernel_rfl))⟩
 f24 := ⟨Tryz.f147.name, by decide, Tryz.func147.trans (congrArg some (by kernel_rfl))⟩
 f25 := ⟨Tryz.f148.name, by decide, Tryz.func148.trans (congrArg some (by kernel_rfl))⟩
 f26 := ⟨Tryz.f149.name, by decide, Tryz.func149.trans (congrArg some (by kernel_rfl))⟩
 f27 := ⟨Tryz.f150.name, by decide, Tryz.func150.trans (congrArg some (by kernel_rfl))⟩
 f28 := Tryz.func134.trans (congrArg some (by kernel_rfl))
 f29 := Tryz.func135.trans (congrArg some (by kernel_rfl))
 f46 := ⟨Tryz.f159.name, by decide, Tryz.func159.trans (congrArg some (by kernel_rfl))⟩
 f47 := Tryz.func154.trans (congrArg some (by kernel_rfl))
 f48 := Tryz.func155.trans (congrArg some (by kernel_rfl))
 f49 := ⟨Tryz.f160.name, by decide, Tryz.func160.trans (congrArg some (by kernel_rfl))⟩
 f50 := ⟨Tryz.f161.name, by decide, Tryz.func161.trans (congrArg some (by kernel_rfl))⟩
 f57 := ⟨Tryz.f163.name, by decide, Tryz.func163.trans (congrArg some (by kernel_rfl))⟩
 t0 := Tryz.underlying0
 a0 := Tryz.isAgg0
 z0 := Tryz.sizeOf0
 v0 := Tryz.zeroValue0
 t3 := Tryz.underlying3
 a3 := Tryz.isAgg3
 z3 := Tryz.sizeOf3
 v3 := Tryz.zeroValue3
 t4 := Tryz.underlying4
 a4 := Tryz.isAgg4
 z4 := Tryz.sizeOf4
 v4 := Tryz.zeroValue4
 t5 := Tryz.underlying5
 a5 := Tryz.isAgg5
 z5 := Tryz.sizeOf5
 v5 := Tryz.zeroValue5
 t9 := Tryz.underlying9
 a9 := Tryz.isAgg9
 z9 := Tryz.sizeOf9
 v9 := Tryz.zeroValue9
 t22 := Tryz.underlying67
 a22 := Tryz.isAgg67
 z22 := Tryz.sizeOf67
 v22 := Tryz.zeroValue67
 t25 := Tryz.underlying76
 a25 := Tryz.isAgg76
 z25 := Tryz.sizeOf76
 v25 := Tryz.zeroValue76
 t39 := Tryz.underlying107
 a39 := Tryz.isAgg107
 z39 := Tryz.sizeOf107
 v39 := Tryz.zeroValue107
 t45 := Tryz.underlying140
 a45 := Tryz.isAgg140
 z45 := Tryz.sizeOf140
 v45 := Tryz.zeroValue140
 t46 := Tryz.underlying141
 a46 := Tryz.isAgg141
 z46 := Tryz.sizeOf141
 v46 := Tryz.zeroValue141
 t50 := Tryz.underlying79
 a50 := Tryz.isAgg79
 z50 := Tryz.sizeOf79
 v50 := Tryz.zeroValue79
 t53 := Tryz.underlying148
 a53 := Tryz.isAgg148
 z53 := Tryz.sizeOf148
 v53 := Tryz.zeroValue148
 t55 := Tryz.underlying150
 a55 := Tryz.isAgg150
 z55 := Tryz.sizeOf150
 v55 := Tryz.zeroValue150
 t66 := Tryz.underlying163
 a66 := Tryz.isAgg163
 z66 := Tryz.sizeOf163
 v66 := Tryz.zeroValue163
 t70 := Tryz.underlying167
 a70 := Tryz.isAgg167
 z70 := Tryz.sizeOf167
 v70 := Tryz.zeroValue167
 t76 := Tryz.underlying172
 a76 := Tryz.isAgg172
 z76 := Tryz.sizeOf172
 v76 := Tryz.zeroValue172
 t77 := Tryz.underlying173
 a77 := Tryz.isAgg173
 z77 := Tryz.sizeOf173
 v77 := Tryz.zeroValue173 }
open Go.RowKit Go.Lib Go.Sort in
/-- **slices.SortFunc AT NO ELEMENT, A nil SLICE TOO: nothing turns.** (LAID AT THE INSTANCE 'slices.SortFunc[[][]int,[]int]': no walk: one application.) -/
theorem Tryz.slices_SortFunc_none {α : Type} [Inhabited α] (p : Option Addr) (cap : Nat) (fv : Value) (w : World) :
  Calls Tryz.prog 103 #[.slice p 0 cap, fv] w fun e w' => e = .returned (.tuple #[]) ∧ w' = w := AnyF.slices_SortFunc_none Tryz.laysSlF06_f103 p cap fv w
end Go.Proofs
