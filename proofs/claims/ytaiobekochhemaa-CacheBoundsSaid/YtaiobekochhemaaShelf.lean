/-
  DERIVED: THE SHELF's CONTRACTS AT THIS DUMP, IN PLAIN WORDS (tools/lay-plain.mjs out of 'TryShelf.lean', which tools/lay-shelf.mjs wrote): THE SAME DECLARATIONS UNDER THE SAME NAMES: 'import', 'namespace', 'open', 'def', 'theorem' AND NOTHING ELSE: no command of the shelf's: FOR A HAND-IN. Each laying: the table of numbers ('.._ren') and one theorem, a field a fact of the dump's own or the kernel's comparison; each contract: ONE APPLICATION.
-/
import Derived.Shelf.Small.Bits
import Derived.Shelf.Small.Wraps
import Derived.Shelf.Strconv.Itoa0
import Derived.Shelf.Slices.Turned
import Derived.Ground.Names2Prog
import Derived.Shelf.Slices.Clone
import Derived.Shelf.Slices.SearchI
import Derived.Shelf.Slices.Delete
import Derived.Shelf.Slices.Cells
import Derived.Shelf.Slices.In.SortNone
import Derived.Shelf.Slices.Empties
import Derived.Ground.SlgmProg
import Derived.Shelf.SortM.Plain
import Derived.Ground.GgzProg
import Derived.Shelf.SlIterI.Nil
import Derived.Test.YtaiobekochhemaaProg
namespace Go.Proofs
open Go.Shelf
def Try.lays128_ren : Go.Shelf.Ren := ⟨fun | 128 => 130 | n => n, fun | 51 => 160 | 3 => 3 | 4 => 4 | 46 => 137 | 5 => 5 | 9 => 9 | n => n, fun | n => n⟩
theorem Try.lays128 : Go.Proofs.Lays.n128 Try.prog Try.lays128_ren := {
  mixed := by kernel_rfl
  f128 := Try.func130.trans (congrArg some (by kernel_rfl))
  t3 := Try.underlying3
  a3 := Try.isAgg3
  z3 := Try.sizeOf3
  v3 := Try.zeroValue3
  t4 := Try.underlying4
  a4 := Try.isAgg4
  z4 := Try.sizeOf4
  v4 := Try.zeroValue4
  t5 := Try.underlying5
  a5 := Try.isAgg5
  z5 := Try.sizeOf5
  v5 := Try.zeroValue5
  t9 := Try.underlying9
  a9 := Try.isAgg9
  z9 := Try.sizeOf9
  v9 := Try.zeroValue9
  t46 := Try.underlying137
  a46 := Try.isAgg137
  z46 := Try.sizeOf137
  v46 := Try.zeroValue137
  t51 := Try.underlying160
  a51 := Try.isAgg160
  z51 := Try.sizeOf160
  v51 := Try.zeroValue160 }
/-- bits.Len32: "Len32 returns the minimum number of bits required to represent x; the result is 0 for x == 0.": IT RETURNS 'Lib.bitLen x'; the world is as it was. ('h0', 'h1': x is a uint32.) (LAID: no walk: one application.) -/
theorem Try.bits_Len32 (x : Int) (w : World) (h0 : 0 ≤ x) (h1 : x ≤ 4294967295) :
    Calls Try.prog 130 #[.int .u32 x] w fun e w' => e = .returned (.int .i64 (Lib.bitLen x.toNat)) ∧ w' = w := Any.bits_Len32 Try.lays128 x w h0 h1
def Try.lays125_ren : Go.Shelf.Ren := ⟨fun | 125 => 120 | 128 => 130 | 129 => 131 | n => n, fun | 46 => 137 | 3 => 3 | 51 => 160 | 53 => 162 | 4 => 4 | 5 => 5 | 9 => 9 | n => n, fun | n => n⟩
theorem Try.lays125 : Go.Proofs.Lays.n125 Try.prog Try.lays125_ren := {
  mixed := by kernel_rfl
  f125 := Try.func120.trans (congrArg some (by kernel_rfl))
  f128 := Try.func130.trans (congrArg some (by kernel_rfl))
  f129 := Try.func131.trans (congrArg some (by kernel_rfl))
  t3 := Try.underlying3
  a3 := Try.isAgg3
  z3 := Try.sizeOf3
  v3 := Try.zeroValue3
  t4 := Try.underlying4
  a4 := Try.isAgg4
  z4 := Try.sizeOf4
  v4 := Try.zeroValue4
  t5 := Try.underlying5
  a5 := Try.isAgg5
  z5 := Try.sizeOf5
  v5 := Try.zeroValue5
  t9 := Try.underlying9
  a9 := Try.isAgg9
  z9 := Try.sizeOf9
  v9 := Try.zeroValue9
  t46 := Try.underlying137
  a46 := Try.isAgg137
  z46 := Try.sizeOf137
  v46 := Try.zeroValue137
  t51 := Try.underlying160
  a51 := Try.isAgg160
  z51 := Try.sizeOf160
  v51 := Try.zeroValue160
  t53 := Try.underlying162
  a53 := Try.isAgg162
  z53 := Try.sizeOf162
  v53 := Try.zeroValue162 }
/-- bits.Len: "Len returns the minimum number of bits required to represent x; the result is 0 for x == 0.": IT RETURNS 'Lib.bitLen x'; the world is as it was. (A uint has 64 bits in the model.) ITS CALLEE bits.Len64 IS MET BY ITS OWN CONTRACT OFF THE SHELF (lay that first). (LAID: no walk: one application.) -/
theorem Try.bits_Len (x : Int) (w : World) (h0 : 0 ≤ x) (h1 : x ≤ 18446744073709551615) :
    Calls Try.prog 120 #[.int .u64 x] w fun e w' => e = .returned (.int .i64 (Lib.bitLen x.toNat)) ∧ w' = w := Any.bits_Len Try.lays125 x w h0 h1
def Try.lays135_ren : Go.Shelf.Ren := ⟨fun | 135 => 70 | n => n, fun | 5 => 5 | 3 => 3 | 9 => 9 | n => n, fun | n => n⟩
theorem Try.lays135 : Go.Proofs.Lays.n135 Try.prog Try.lays135_ren := {
  mixed := by kernel_rfl
  f135 := Try.func70.trans (congrArg some (by kernel_rfl))
  t3 := Try.underlying3
  a3 := Try.isAgg3
  z3 := Try.sizeOf3
  v3 := Try.zeroValue3
  t5 := Try.underlying5
  a5 := Try.isAgg5
  z5 := Try.sizeOf5
  v5 := Try.zeroValue5
  t9 := Try.underlying9
  a9 := Try.isAgg9
  z9 := Try.sizeOf9
  v9 := Try.zeroValue9 }
/-- bits.OnesCount8: "OnesCount8 returns the number of one bits ("population count") in x.": IT RETURNS 'Lib.onesCount x'; the world is as it was. ('h0', 'h1': x is a uint8.) (LAID: no walk: one application.) -/
theorem Try.bits_OnesCount8 (x : Int) (w : World) (h0 : 0 ≤ x) (h1 : x ≤ 255) :
    Calls Try.prog 70 #[.int .u8 x] w fun e w' => e = .returned (.int .i64 (Lib.onesCount x.toNat)) ∧ w' = w := Any.bits_OnesCount8 Try.lays135 x w h0 h1
def Try.lays136_ren : Go.Shelf.Ren := ⟨fun | 136 => 96 | n => n, fun | 5 => 5 | 3 => 3 | 9 => 9 | n => n, fun | n => n⟩
theorem Try.lays136 : Go.Proofs.Lays.n136 Try.prog Try.lays136_ren := {
  mixed := by kernel_rfl
  f136 := Try.func96.trans (congrArg some (by kernel_rfl))
  t3 := Try.underlying3
  a3 := Try.isAgg3
  z3 := Try.sizeOf3
  v3 := Try.zeroValue3
  t5 := Try.underlying5
  a5 := Try.isAgg5
  z5 := Try.sizeOf5
  v5 := Try.zeroValue5
  t9 := Try.underlying9
  a9 := Try.isAgg9
  z9 := Try.sizeOf9
  v9 := Try.zeroValue9 }
/-- bits.TrailingZeros8: "TrailingZeros8 returns the number of trailing zero bits in x; the result is 8 for x == 0.": IT RETURNS 'Lib.trailingZeros8 x'; the world is as it was. ('h0', 'h1': x is a uint8.) (LAID: no walk: one application.) -/
theorem Try.bits_TrailingZeros8 (x : Int) (w : World) (h0 : 0 ≤ x) (h1 : x ≤ 255) :
    Calls Try.prog 96 #[.int .u8 x] w fun e w' => e = .returned (.int .i64 (Lib.trailingZeros8 x.toNat)) ∧ w' = w := Any.bits_TrailingZeros8 Try.lays136 x w h0 h1
def Try.lays215_ren : Go.Shelf.Ren := ⟨fun | 215 => 137 | n => n, fun | 3 => 3 | 4 => 4 | n => n, fun | n => n⟩
theorem Try.lays215 : Go.Proofs.Lays.n215 Try.prog Try.lays215_ren := {
  mixed := by kernel_rfl
  f215 := Try.func137.trans (congrArg some (by kernel_rfl))
  t3 := Try.underlying3
  a3 := Try.isAgg3
  z3 := Try.sizeOf3
  v3 := Try.zeroValue3
  t4 := Try.underlying4
  a4 := Try.isAgg4
  z4 := Try.sizeOf4
  v4 := Try.zeroValue4 }
open Go.RowKit in
/-- cmp.isNaN at int: 'x != x': false. (LAID: no walk: one application.) -/
theorem Try.cmp_isNaN_int (x : Int) (w : World) :
    Calls Try.prog 137 #[.int .i64 x] w fun e w' => e = .returned (.bool false) ∧ w' = w := Any.cmp_isNaN_int Try.lays215 x w
def Try.lays129_ren : Go.Shelf.Ren := ⟨fun | 129 => 131 | n => n, fun | 53 => 162 | 3 => 3 | 4 => 4 | 46 => 137 | 5 => 5 | 9 => 9 | n => n, fun | n => n⟩
theorem Try.lays129 : Go.Proofs.Lays.n129 Try.prog Try.lays129_ren := {
  mixed := by kernel_rfl
  f129 := Try.func131.trans (congrArg some (by kernel_rfl))
  t3 := Try.underlying3
  a3 := Try.isAgg3
  z3 := Try.sizeOf3
  v3 := Try.zeroValue3
  t4 := Try.underlying4
  a4 := Try.isAgg4
  z4 := Try.sizeOf4
  v4 := Try.zeroValue4
  t5 := Try.underlying5
  a5 := Try.isAgg5
  z5 := Try.sizeOf5
  v5 := Try.zeroValue5
  t9 := Try.underlying9
  a9 := Try.isAgg9
  z9 := Try.sizeOf9
  v9 := Try.zeroValue9
  t46 := Try.underlying137
  a46 := Try.isAgg137
  z46 := Try.sizeOf137
  v46 := Try.zeroValue137
  t53 := Try.underlying162
  a53 := Try.isAgg162
  z53 := Try.sizeOf162
  v53 := Try.zeroValue162 }
/-- bits.Len64: "Len64 returns the minimum number of bits required to represent x; the result is 0 for x == 0.": IT RETURNS 'Lib.bitLen x'; the world is as it was. ('h0', 'h1': x is a uint64.) (LAID: no walk: one application.) -/
theorem Try.bits_Len64 (x : Int) (w : World) (h0 : 0 ≤ x) (h1 : x ≤ 18446744073709551615) :
    Calls Try.prog 131 #[.int .u64 x] w fun e w' => e = .returned (.int .i64 (Lib.bitLen x.toNat)) ∧ w' = w := Any.bits_Len64 Try.lays129 x w h0 h1
def Try.lays108_ren : Go.Shelf.Ren := ⟨fun | 108 => 114 | n => n, fun | 28 => 49 | 3 => 3 | 0 => 0 | 4 => 4 | n => n, fun | n => n⟩
theorem Try.lays108 : Go.Proofs.Lays.n108 Try.prog Try.lays108_ren := {
  mixed := by kernel_rfl
  f108 := Try.func114.trans (congrArg some (by kernel_rfl))
  t0 := Try.underlying0
  a0 := Try.isAgg0
  z0 := Try.sizeOf0
  v0 := Try.zeroValue0
  t3 := Try.underlying3
  a3 := Try.isAgg3
  z3 := Try.sizeOf3
  v3 := Try.zeroValue3
  t4 := Try.underlying4
  a4 := Try.isAgg4
  z4 := Try.sizeOf4
  v4 := Try.zeroValue4
  t28 := Try.underlying49
  a28 := Try.isAgg49
  z28 := Try.sizeOf49
  v28 := Try.zeroValue49 }
open Go.Lib in
/-- slices.Index at []int: "Index returns the index of the first occurrence of v in s, or -1 if not present.": IT RETURNS 'Lib.idxOf (the elements) v'; the world is as it was. 'zs': what the cells behind the slice's address hold (its spare capacity too, if you have it); 'zs.take n': its elements. (LAID: no walk: one application.) -/
theorem Try.slices_Index_int (b off n c : Nat) (zs : List Int) (x : Int) (w : World) (hz : n ≤ zs.length) (hbig : n ≤ 9223372036854775807) (hc : ∀ j, j < zs.length → w.cell? ⟨b, off + j, none⟩ = some (.int .i64 (zs.getD j 0))) :
    Calls Try.prog 114 #[.slice (some ⟨b, off, none⟩) n c, .int .i64 x] w fun e w' => e = .returned (.int .i64 (Lib.idxOf (zs.take n) x)) ∧ w' = w := Any.slices_Index_int Try.lays108 b off n c zs x w hz hbig hc
open Go.Lib in
/-- The same at a slice of length 0, a nil one too: no cell is known, none is asked for. (LAID: no walk: one application.) -/
theorem Try.slices_Index_int_empty (a : Option Addr) (c : Nat) (x : Int) (w : World) :
    Calls Try.prog 114 #[.slice a 0 c, .int .i64 x] w fun e w' => e = .returned (.int .i64 (Lib.idxOf [] x)) ∧ w' = w := Any.slices_Index_int_empty Try.lays108 a c x w
def Try.laysNm215_ren : Go.Shelf.Ren := ⟨fun | 15 => 86 | n => n, fun | 22 => 49 | 3 => 3 | 4 => 4 | n => n, fun | n => n⟩
theorem Try.laysNm215 : Go.Proofs.Lays2.n15 Try.prog Try.laysNm215_ren := {
  mixed := by kernel_rfl
  f15 := Try.func86.trans (congrArg some (by kernel_rfl))
  t3 := Try.underlying3
  a3 := Try.isAgg3
  z3 := Try.sizeOf3
  v3 := Try.zeroValue3
  t4 := Try.underlying4
  a4 := Try.isAgg4
  z4 := Try.sizeOf4
  v4 := Try.zeroValue4
  t22 := Try.underlying49
  a22 := Try.isAgg49
  z22 := Try.sizeOf49
  v22 := Try.zeroValue49
  i3 := by kernel_rfl }
open Go.RowKit Go.Lib in
/-- slices.Clone at []int: "Clone returns a copy of the slice. The elements are copied using assignment, so this is a shallow clone. The result may have additional unused capacity. The result preserves the nilness of s.": OF A SLICE THAT IS NOT nil IT RETURNS A SLICE THAT IS NOT nil, OF THE SAME ELEMENTS, IN MEMORY OF THE CALL's OWN: in the how-to's words (6f): 'w'.ownsRow B e 1 v' n cells': v' begins at the head of a row among the blocks from B on (B: the heap's size at the call), not frozen, whose first cells are the elements · 'Below B w w'': below B all is as it was. The capacity is whatever the run-time gives. 'zs': what the cells behind the slice's address hold; 'zs.take n': its elements. (LAID: no walk: one application.) -/
theorem Try.slices_Clone_int (b off n c : Nat) (zs : List Int) (w : World) (hz : n ≤ zs.length) (hbig : n * 8 ≤ 140737488355328) (hc : ∀ j, j < zs.length → w.cell? ⟨b, off + j, none⟩ = some (.int .i64 (zs.getD j 0))) :
    Calls Try.prog 86 #[.slice (some ⟨b, off, none⟩) n c] w fun e w' => ∃ v', e = .returned v' ∧ w'.ownsRow w.heap.size 3 1 v' n ((zs.take n).map (Value.int .i64)) ∧ v' ≠ .slice none 0 0 ∧ Below w.heap.size w w' := Any.slices_Clone_int Try.laysNm215 b off n c zs w hz hbig hc
open Go.RowKit Go.Lib in
/-- The same at nil: nil comes back; the world is as it was. (LAID: no walk: one application.) -/
theorem Try.slices_Clone_int_nil (n c : Nat) (w : World) :
    Calls Try.prog 86 #[.slice none n c] w fun e w' => e = .returned (.slice none 0 0) ∧ w' = w := Any.slices_Clone_int_nil Try.laysNm215 n c w
open Go.RowKit Go.Lib in
/-- The same at a slice of length 0 that is not nil, WHATEVER ITS ADDRESS (no cell is asked for): a slice that is not nil and owns nothing comes back. (LAID: no walk: one application.) -/
theorem Try.slices_Clone_int_zero (a : Addr) (c : Nat) (w : World) :
    Calls Try.prog 86 #[.slice (some a) 0 c] w fun e w' => ∃ v', e = .returned v' ∧ w'.ownsRow w.heap.size 3 1 v' 0 [] ∧ v' ≠ .slice none 0 0 ∧ Below w.heap.size w w' := Any.slices_Clone_int_zero Try.laysNm215 a c w
def Try.laysNm237_ren : Go.Shelf.Ren := ⟨fun | 37 => 137 | n => n, fun | 3 => 3 | 4 => 4 | n => n, fun | n => n⟩
theorem Try.laysNm237 : Go.Proofs.Lays2.n37 Try.prog Try.laysNm237_ren := {
  mixed := by kernel_rfl
  f37 := Try.func137.trans (congrArg some (by kernel_rfl))
  t3 := Try.underlying3
  a3 := Try.isAgg3
  z3 := Try.sizeOf3
  v3 := Try.zeroValue3
  t4 := Try.underlying4
  a4 := Try.isAgg4
  z4 := Try.sizeOf4
  v4 := Try.zeroValue4 }
open Go.RowKit Go.Lib in
/-- cmp.isNaN[int]: 'x != x': false. (LAID: no walk: one application.) -/
theorem Try.cmp_isNaN_int2 (x : Int) (w : World) :
    Calls Try.prog 137 #[.int .i64 x] w fun e w' => e = .returned (.bool false) ∧ w' = w := Any.cmp_isNaN_int2 Try.laysNm237 x w
def Try.laysNm231_ren : Go.Shelf.Ren := ⟨fun | 31 => 127 | 37 => 137 | n => n, fun | 3 => 3 | 4 => 4 | n => n, fun | n => n⟩
theorem Try.laysNm231 : Go.Proofs.Lays2.n31 Try.prog Try.laysNm231_ren := {
  mixed := by kernel_rfl
  f31 := Try.func127.trans (congrArg some (by kernel_rfl))
  f37 := Try.func137.trans (congrArg some (by kernel_rfl))
  t3 := Try.underlying3
  a3 := Try.isAgg3
  z3 := Try.sizeOf3
  v3 := Try.zeroValue3
  t4 := Try.underlying4
  a4 := Try.isAgg4
  z4 := Try.sizeOf4
  v4 := Try.zeroValue4 }
open Go.RowKit Go.Lib in
/-- cmp.Less[int]: "Less reports whether x is less than y.": 'x < y'; the world is as it was. (LAID: no walk: one application.) -/
theorem Try.cmp_Less_int2 (x y : Int) (w : World) :
    Calls Try.prog 127 #[.int .i64 x, .int .i64 y] w fun e w' => e = .returned (.bool (decide (x < y))) ∧ w' = w := Any.cmp_Less_int2 Try.laysNm231 x y w
def Try.laysNm223_ren : Go.Shelf.Ren := ⟨fun | 23 => 115 | n => n, fun | 22 => 49 | 3 => 3 | 4 => 4 | 0 => 0 | n => n, fun | n => n⟩
theorem Try.laysNm223 : Go.Proofs.Lays2.n23 Try.prog Try.laysNm223_ren := {
  mixed := by kernel_rfl
  f23 := Try.func115.trans (congrArg some (by kernel_rfl))
  t0 := Try.underlying0
  a0 := Try.isAgg0
  z0 := Try.sizeOf0
  v0 := Try.zeroValue0
  t3 := Try.underlying3
  a3 := Try.isAgg3
  z3 := Try.sizeOf3
  v3 := Try.zeroValue3
  t4 := Try.underlying4
  a4 := Try.isAgg4
  z4 := Try.sizeOf4
  v4 := Try.zeroValue4
  t22 := Try.underlying49
  a22 := Try.isAgg49
  z22 := Try.sizeOf49
  v22 := Try.zeroValue49
  i3 := by kernel_rfl }
open Go.RowKit Go.Lib Go.Sort in
/-- slices.Delete at []int, over an array. (LAID: no walk: one application.) -/
theorem Try.slices_Delete_int_arr (blk off cap i j : Nat) (d : Array Int) (w : World) (hH : Holds encI w blk off d) (hcap : d.size ≤ cap) (hm : cap ≤ 9223372036854775807) (hij : i ≤ j) (hj : j ≤ d.size) :
    Calls Try.prog 115 #[.slice (some ⟨blk, off, none⟩) d.size cap, .int .i64 i, .int .i64 j] w fun e w' => e = .returned (.slice (some ⟨blk, off, none⟩) (d.size - (j - i)) cap) ∧ ∃ q, w' = putRow encI (Sort.ahead w q) blk off (d.toList.take i ++ d.toList.drop j ++ List.replicate (j - i) 0).toArray := Any.slices_Delete_int_arr Try.laysNm223 blk off cap i j d w hH hcap hm hij hj
open Go.RowKit Go.Lib Go.Sort in
/-- slices.Delete at []int: "Delete modifies s in place by removing the elements s[i:j], and returns the modified slice. Delete panics if j > len(s) or s[i:j] is not a valid slice of s. Delete is O(len(s)-i), so if many items must be deleted, it is better to make a single call deleting them all together than to delete one at a time. Delete zeroes the elements s[len(s)-(j-i):len(s)]. If the result is empty, it has the same nilness as s.": FOR i ≤ j ≤ len(s) IT RETURNS THE SLICE CUT TO len(s) - (j - i) ELEMENTS; ITS CELLS HOLD what stood ahead of i, what stood from j on, then j - i zero values; all else is as it was, but for the count of draws. IN THE WORDS OF slices.Sort's CONTRACT ('Holds', 'putRow'). It asks 'zs.length ≤ cap ≤ 2^63 - 1' (every slice's). (Outside i ≤ j ≤ len(s) it panics: no contract here.) (LAID: no walk: one application.) -/
theorem Try.slices_Delete_int (blk off cap i j : Nat) (zs : List Int) (w : World) (hH : Holds (Value.int .i64) w blk off zs.toArray) (hcap : zs.length ≤ cap) (hm : cap ≤ 9223372036854775807) (hij : i ≤ j) (hj : j ≤ zs.length) :
    Calls Try.prog 115 #[.slice (some ⟨blk, off, none⟩) zs.length cap, .int .i64 i, .int .i64 j] w fun e w' => e = .returned (.slice (some ⟨blk, off, none⟩) (zs.length - (j - i)) cap) ∧ ∃ q, w' = putRow (Value.int .i64) (Sort.ahead w q) blk off (zs.take i ++ zs.drop j ++ List.replicate (j - i) 0).toArray := Any.slices_Delete_int Try.laysNm223 blk off cap i j zs w hH hcap hm hij hj
open Go.RowKit Go.Lib Go.Sort in
/-- slices.Delete at []int, of an argument, for i ≤ j ≤ n: the slice cut to n - (j - i) elements; the n cells hold what stood ahead of i, what stood from j on, then zeros. (LAID: no walk: one application.) -/
theorem Try.slices_Delete_int_cells (b off n c i j : Nat) (zs : List Int) (w : World) (hz : n ≤ zs.length) (hcap : n ≤ c) (hm : c ≤ 9223372036854775807) (hij : i ≤ j) (hj : j ≤ n) (hc : ∀ j, j < zs.length → w.cell? ⟨b, off + j, none⟩ = some (.int .i64 (zs.getD j 0))) (hf : ∀ j, j < n → w.frozen? ⟨b, off + j, none⟩ = false) :
    Calls Try.prog 115 #[.slice (some ⟨b, off, none⟩) n c, .int .i64 i, .int .i64 j] w fun e w' => e = .returned (.slice (some ⟨b, off, none⟩) (n - (j - i)) c) ∧ ∃ q, w' = (w.drewN q).setCells b off (((zs.take n).take i ++ (zs.take n).drop j ++ List.replicate (j - i) 0).map (Value.int .i64)) := Any.slices_Delete_int_cells Try.laysNm223 b off n c i j zs w hz hcap hm hij hj hc hf
def Try.lays189_ren : Go.Shelf.Ren := ⟨fun | 189 => 107 | 125 => 120 | 257 => 119 | 128 => 130 | 129 => 131 | 294 => 121 | 295 => 122 | 296 => 123 | 297 => 124 | 298 => 125 | 299 => 126 | 216 => 127 | 300 => 128 | 301 => 129 | 328 => 132 | 329 => 133 | 330 => 134 | 331 => 135 | 332 => 136 | 215 => 137 | 343 => 138 | n => n, fun | 28 => 49 | 3 => 3 | 46 => 137 | 0 => 0 | 51 => 160 | 53 => 162 | 4 => 4 | 183 => 153 | 182 => 152 | 131 => 138 | 5 => 5 | 9 => 9 | 218 => 163 | 222 => 167 | 228 => 169 | 229 => 170 | n => n, fun | n => n⟩
theorem Try.lays189 : Go.Proofs.Lays.n189 Try.prog Try.lays189_ren := {
  mixed := by kernel_rfl
  f125 := Try.func120.trans (congrArg some (by kernel_rfl))
  f128 := Try.func130.trans (congrArg some (by kernel_rfl))
  f129 := Try.func131.trans (congrArg some (by kernel_rfl))
  f189 := Try.func107.trans (congrArg some (by kernel_rfl))
  f215 := Try.func137.trans (congrArg some (by kernel_rfl))
  f216 := Try.func127.trans (congrArg some (by kernel_rfl))
  f257 := Try.func119.trans (congrArg some (by kernel_rfl))
  f294 := Try.func121.trans (congrArg some (by kernel_rfl))
  f295 := Try.func122.trans (congrArg some (by kernel_rfl))
  f296 := Try.func123.trans (congrArg some (by kernel_rfl))
  f297 := Try.func124.trans (congrArg some (by kernel_rfl))
  f298 := Try.func125.trans (congrArg some (by kernel_rfl))
  f299 := Try.func126.trans (congrArg some (by kernel_rfl))
  f300 := Try.func128.trans (congrArg some (by kernel_rfl))
  f301 := Try.func129.trans (congrArg some (by kernel_rfl))
  f328 := Try.func132.trans (congrArg some (by kernel_rfl))
  f329 := Try.func133.trans (congrArg some (by kernel_rfl))
  f330 := Try.func134.trans (congrArg some (by kernel_rfl))
  f331 := Try.func135.trans (congrArg some (by kernel_rfl))
  f332 := Try.func136.trans (congrArg some (by kernel_rfl))
  f343 := Try.func138.trans (congrArg some (by kernel_rfl))
  t0 := Try.underlying0
  a0 := Try.isAgg0
  z0 := Try.sizeOf0
  v0 := Try.zeroValue0
  t3 := Try.underlying3
  a3 := Try.isAgg3
  z3 := Try.sizeOf3
  v3 := Try.zeroValue3
  t4 := Try.underlying4
  a4 := Try.isAgg4
  z4 := Try.sizeOf4
  v4 := Try.zeroValue4
  t5 := Try.underlying5
  a5 := Try.isAgg5
  z5 := Try.sizeOf5
  v5 := Try.zeroValue5
  t9 := Try.underlying9
  a9 := Try.isAgg9
  z9 := Try.sizeOf9
  v9 := Try.zeroValue9
  t28 := Try.underlying49
  a28 := Try.isAgg49
  z28 := Try.sizeOf49
  v28 := Try.zeroValue49
  t46 := Try.underlying137
  a46 := Try.isAgg137
  z46 := Try.sizeOf137
  v46 := Try.zeroValue137
  t51 := Try.underlying160
  a51 := Try.isAgg160
  z51 := Try.sizeOf160
  v51 := Try.zeroValue160
  t53 := Try.underlying162
  a53 := Try.isAgg162
  z53 := Try.sizeOf162
  v53 := Try.zeroValue162
  t131 := Try.underlying138
  a131 := Try.isAgg138
  z131 := Try.sizeOf138
  v131 := Try.zeroValue138
  t182 := Try.underlying152
  a182 := Try.isAgg152
  z182 := Try.sizeOf152
  v182 := Try.zeroValue152
  t183 := Try.underlying153
  a183 := Try.isAgg153
  z183 := Try.sizeOf153
  v183 := Try.zeroValue153
  t218 := Try.underlying163
  a218 := Try.isAgg163
  z218 := Try.sizeOf163
  v218 := Try.zeroValue163
  t222 := Try.underlying167
  a222 := Try.isAgg167
  z222 := Try.sizeOf167
  v222 := Try.zeroValue167
  t228 := Try.underlying169
  a228 := Try.isAgg169
  z228 := Try.sizeOf169
  v228 := Try.zeroValue169
  t229 := Try.underlying170
  a229 := Try.isAgg170
  z229 := Try.sizeOf170
  v229 := Try.zeroValue170 }
open Go.RowKit Go.Sort in
/-- .. and plain. (LAID: no walk: one application.) -/
theorem Try.slices_Sort_int_none (p : Option Addr) (cap : Nat) (w : World) :
    Calls Try.prog 107 #[.slice p 0 cap] w fun e w' => e = .returned (.tuple #[]) ∧ w' = w := Any.slices_Sort_int_none Try.lays189 p cap w
open Go.RowKit Go.Lib in
/-- slices.Delete at []int of no element ('Delete(s, 0, 0)'): s comes back; the world is as it was. (LAID: no walk: one application.) -/
theorem Try.slices_Delete_int_empty (a : Option Addr) (c : Nat) (w : World) :
    Calls Try.prog 115 #[.slice a 0 c, .int .i64 0, .int .i64 0] w fun e w' => e = .returned (.slice a 0 c) ∧ w' = w := Any.slices_Delete_int_empty Try.laysNm223 a c w
def Try.laysSlM5_f107_ren : Go.Shelf.Ren := ⟨fun | 5 => 107 | 8 => 120 | 7 => 119 | 19 => 130 | 20 => 131 | 10 => 121 | 11 => 122 | 12 => 123 | 13 => 124 | 14 => 125 | 15 => 126 | 16 => 127 | 17 => 128 | 18 => 129 | 30 => 132 | 31 => 133 | 32 => 134 | 33 => 135 | 34 => 136 | 35 => 137 | 40 => 138 | n => n, fun | 23 => 49 | 25 => 3 | 3 => 3 | 32 => 137 | 22 => 49 | 0 => 0 | 44 => 160 | 46 => 162 | 4 => 4 | 36 => 153 | 35 => 152 | 41 => 138 | 5 => 5 | 9 => 9 | 53 => 163 | 57 => 167 | 63 => 169 | 64 => 170 | n => n, fun | n => n⟩
theorem Try.laysSlM5_f107 : Go.Proofs.SlLaysM.n5 Try.prog Try.laysSlM5_f107_ren := {
  mixed := by kernel_rfl
  f5 := ⟨Try.f107.name, by decide, Try.func107.trans (congrArg some (by kernel_rfl))⟩
  f7 := ⟨Try.f119.name, by decide, Try.func119.trans (congrArg some (by kernel_rfl))⟩
  f8 := Try.func120.trans (congrArg some (by kernel_rfl))
  f10 := ⟨Try.f121.name, by decide, Try.func121.trans (congrArg some (by kernel_rfl))⟩
  f11 := ⟨Try.f122.name, by decide, Try.func122.trans (congrArg some (by kernel_rfl))⟩
  f12 := ⟨Try.f123.name, by decide, Try.func123.trans (congrArg some (by kernel_rfl))⟩
  f13 := ⟨Try.f124.name, by decide, Try.func124.trans (congrArg some (by kernel_rfl))⟩
  f14 := ⟨Try.f125.name, by decide, Try.func125.trans (congrArg some (by kernel_rfl))⟩
  f15 := ⟨Try.f126.name, by decide, Try.func126.trans (congrArg some (by kernel_rfl))⟩
  f16 := ⟨Try.f127.name, by decide, Try.func127.trans (congrArg some (by kernel_rfl))⟩
  f17 := ⟨Try.f128.name, by decide, Try.func128.trans (congrArg some (by kernel_rfl))⟩
  f18 := ⟨Try.f129.name, by decide, Try.func129.trans (congrArg some (by kernel_rfl))⟩
  f19 := Try.func130.trans (congrArg some (by kernel_rfl))
  f20 := Try.func131.trans (congrArg some (by kernel_rfl))
  f30 := ⟨Try.f132.name, by decide, Try.func132.trans (congrArg some (by kernel_rfl))⟩
  f31 := Try.func133.trans (congrArg some (by kernel_rfl))
  f32 := Try.func134.trans (congrArg some (by kernel_rfl))
  f33 := ⟨Try.f135.name, by decide, Try.func135.trans (congrArg some (by kernel_rfl))⟩
  f34 := ⟨Try.f136.name, by decide, Try.func136.trans (congrArg some (by kernel_rfl))⟩
  f35 := ⟨Try.f137.name, by decide, Try.func137.trans (congrArg some (by kernel_rfl))⟩
  f40 := ⟨Try.f138.name, by decide, Try.func138.trans (congrArg some (by kernel_rfl))⟩
  t0 := Try.underlying0
  a0 := Try.isAgg0
  z0 := Try.sizeOf0
  v0 := Try.zeroValue0
  t3 := Try.underlying3
  a3 := Try.isAgg3
  z3 := Try.sizeOf3
  v3 := Try.zeroValue3
  t4 := Try.underlying4
  a4 := Try.isAgg4
  z4 := Try.sizeOf4
  v4 := Try.zeroValue4
  t5 := Try.underlying5
  a5 := Try.isAgg5
  z5 := Try.sizeOf5
  v5 := Try.zeroValue5
  t9 := Try.underlying9
  a9 := Try.isAgg9
  z9 := Try.sizeOf9
  v9 := Try.zeroValue9
  t22 := Try.underlying49
  a22 := Try.isAgg49
  z22 := Try.sizeOf49
  v22 := Try.zeroValue49
  t23 := Try.underlying49
  a23 := Try.isAgg49
  z23 := Try.sizeOf49
  v23 := Try.zeroValue49
  t25 := Try.underlying3
  a25 := Try.isAgg3
  z25 := Try.sizeOf3
  v25 := Try.zeroValue3
  t32 := Try.underlying137
  a32 := Try.isAgg137
  z32 := Try.sizeOf137
  v32 := Try.zeroValue137
  t35 := Try.underlying152
  a35 := Try.isAgg152
  z35 := Try.sizeOf152
  v35 := Try.zeroValue152
  t36 := Try.underlying153
  a36 := Try.isAgg153
  z36 := Try.sizeOf153
  v36 := Try.zeroValue153
  t41 := Try.underlying138
  a41 := Try.isAgg138
  z41 := Try.sizeOf138
  v41 := Try.zeroValue138
  t44 := Try.underlying160
  a44 := Try.isAgg160
  z44 := Try.sizeOf160
  v44 := Try.zeroValue160
  t46 := Try.underlying162
  a46 := Try.isAgg162
  z46 := Try.sizeOf162
  v46 := Try.zeroValue162
  t53 := Try.underlying163
  a53 := Try.isAgg163
  z53 := Try.sizeOf163
  v53 := Try.zeroValue163
  t57 := Try.underlying167
  a57 := Try.isAgg167
  z57 := Try.sizeOf167
  v57 := Try.zeroValue167
  t63 := Try.underlying169
  a63 := Try.isAgg169
  z63 := Try.sizeOf169
  v63 := Try.zeroValue169
  t64 := Try.underlying170
  a64 := Try.isAgg170
  z64 := Try.sizeOf170
  v64 := Try.zeroValue170 }
open Go.Sort Go.RowKit in
theorem Try.slices_Sort_int (blk off cap : Nat) (zs : List Int) (w : World) (hH : Holds (Value.int .i64) w blk off zs.toArray) (hblk : blk < w.heap.size) (hsz : zs.length < 4611686018427387904) :
    Calls Try.prog 107 #[.slice (some ⟨blk, off, none⟩) zs.length cap] w fun e w' =>
      e = .returned (.tuple #[]) ∧ ∃ n os, w' = grow (putRow (Value.int .i64) (Sort.ahead w n) blk off (zs.mergeSort fun x y => decide (x ≤ y)).toArray) os := AnyM.slices_Sort_int Try.laysSlM5_f107 blk off cap zs w hH hblk hsz
def Try.keysA_ren : Go.Shelf.Ren := ⟨fun | 7 => 81 | 10 => 108 | n => n, fun | 23 => 106 | 26 => 3 | 3 => 3 | 28 => 118 | 0 => 0 | 27 => 117 | 33 => 33 | 4 => 4 | n => n, fun | n => n⟩
theorem Try.keysA : Go.Proofs.SlLaysZI.n7 Try.prog Try.keysA_ren := {
  mixed := by kernel_rfl
  f7 := ⟨Try.f81.name, by decide, Try.func81.trans (congrArg some (by kernel_rfl))⟩
  f10 := ⟨Try.f108.name, by decide, Try.func108.trans (congrArg some (by kernel_rfl))⟩
  t0 := Try.underlying0
  a0 := Try.isAgg0
  z0 := Try.sizeOf0
  v0 := Try.zeroValue0
  t4 := Try.underlying4
  a4 := Try.isAgg4
  z4 := Try.sizeOf4
  v4 := Try.zeroValue4
  t23 := Try.underlying106
  a23 := Try.isAgg106
  z23 := Try.sizeOf106
  v23 := Try.zeroValue106
  t26 := Try.underlying3
  a26 := Try.isAgg3
  z26 := Try.sizeOf3
  v26 := Try.zeroValue3
  t27 := Try.underlying117
  a27 := Try.isAgg117
  z27 := Try.sizeOf117
  v27 := Try.zeroValue117
  t28 := Try.underlying118
  a28 := Try.isAgg118
  z28 := Try.sizeOf118
  v28 := Try.zeroValue118
  t33 := Try.underlying33
  a33 := Try.isAgg33
  z33 := Try.sizeOf33
  v33 := Try.zeroValue33 }
def Try.sortedA_ren : Go.Shelf.Ren := ⟨fun | 6 => 80 | 8 => 106 | 9 => 107 | 11 => 118 | 13 => 120 | 12 => 119 | 23 => 130 | 24 => 131 | 14 => 121 | 15 => 122 | 16 => 123 | 17 => 124 | 18 => 125 | 19 => 126 | 20 => 127 | 21 => 128 | 22 => 129 | 25 => 132 | 26 => 133 | 27 => 134 | 28 => 135 | 29 => 136 | 30 => 137 | 31 => 138 | n => n, fun | 26 => 3 | 28 => 118 | 24 => 49 | 0 => 0 | 3 => 3 | 37 => 137 | 48 => 160 | 50 => 162 | 4 => 4 | 40 => 153 | 39 => 152 | 45 => 138 | 5 => 5 | 9 => 9 | 51 => 163 | 55 => 167 | 57 => 169 | 58 => 170 | 33 => 33 | n => n, fun | n => n⟩
theorem Try.sortedA : Go.Proofs.SlLaysZI.n6 Try.prog Try.sortedA_ren := {
  mixed := by kernel_rfl
  f6 := ⟨Try.f80.name, by decide, Try.func80.trans (congrArg some (by kernel_rfl))⟩
  f8 := ⟨Try.f106.name, by decide, Try.func106.trans (congrArg some (by kernel_rfl))⟩
  f11 := ⟨Try.f118.name, by decide, Try.func118.trans (congrArg some (by kernel_rfl))⟩
  t0 := Try.underlying0
  a0 := Try.isAgg0
  z0 := Try.sizeOf0
  v0 := Try.zeroValue0
  t24 := Try.underlying49
  a24 := Try.isAgg49
  z24 := Try.sizeOf49
  v24 := Try.zeroValue49
  t26 := Try.underlying3
  a26 := Try.isAgg3
  z26 := Try.sizeOf3
  v26 := Try.zeroValue3
  t28 := Try.underlying118
  a28 := Try.isAgg118
  z28 := Try.sizeOf118
  v28 := Try.zeroValue118
  i26 := by kernel_rfl }
end Go.Proofs
