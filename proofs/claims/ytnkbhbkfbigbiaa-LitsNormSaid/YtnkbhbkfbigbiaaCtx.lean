/-
  What the abstract machine is told of this program: printed by program.
-/
import Derived.Test.YtnkbhbkfbigbiaaBm28
import Derived.Test.YtnkbhbkfbigbiaaBm31
import Derived.Test.YtnkbhbkfbigbiaaProg
namespace Go.Proofs.Ytnkbhbkfbigbiaa
set_option maxRecDepth 100000

abbrev F_skolemlaw1_LitsRename : Nat := 3
abbrev F_skolemlaw1_LitsNorm : Nat := 4
abbrev F_skolemlaw1_LitsSame : Nat := 5
abbrev F_skolemlaw1_first : Nat := 6
abbrev F_skolemmake_Lit : Nat := 7
abbrev F_lits_Rename : Nat := 8
abbrev F_skolemref_SameInts : Nat := 9
abbrev F_skolemmake_Near : Nat := 10
abbrev F_lits_Norm : Nat := 11
abbrev F_skolemref_Ints : Nat := 12
abbrev F_skolemref_Has : Nat := 13
abbrev F_lits_Var : Nat := 14
abbrev F_lits_Same : Nat := 15
abbrev F_skolemworld_Number : Nat := 16
abbrev F_slices_Clone_s_int_int : Nat := 17
abbrev F_slices_SortFunc_s_int_int : Nat := 18
abbrev F_lits_order : Nat := 19
abbrev F_slices_Clip_s_int_int : Nat := 20
abbrev F_slices_Compact_s_int_int : Nat := 21
abbrev F_slices_Equal_s_int_int : Nat := 22
abbrev F_slices_pdqsortCmpFunc_int : Nat := 23
abbrev F_bits_Len : Nat := 24
abbrev F_cmp_Or_int : Nat := 25
abbrev F_cmp_Compare_int : Nat := 26
abbrev F_slices_insertionSortCmpFunc_int : Nat := 27
abbrev F_slices_heapSortCmpFunc_int : Nat := 28
abbrev F_slices_breakPatternsCmpFunc_int : Nat := 29
abbrev F_slices_choosePivotCmpFunc_int : Nat := 30
abbrev F_slices_reverseRangeCmpFunc_int : Nat := 31
abbrev F_slices_partialInsertionSortCmpFunc_int : Nat := 32
abbrev F_slices_partitionEqualCmpFunc_int : Nat := 33
abbrev F_slices_partitionCmpFunc_int : Nat := 34
abbrev F_bits_Len64 : Nat := 36
abbrev F_cmp_isNaN_int : Nat := 37
abbrev F_slices_siftDownCmpFunc_int : Nat := 38
abbrev F_slices_nextPowerOfTwo : Nat := 39
abbrev F_slices_xorshift_Next : Nat := 40
abbrev F_slices_medianAdjacentCmpFunc_int : Nat := 41
abbrev F_slices_medianCmpFunc_int : Nat := 42
abbrev F_slices_order2CmpFunc_int : Nat := 43


def an3 : Ann := (.node none none .nil (.node none none .nil (.node none none .nil (.node none none .nil (.node none none .nil (.node none none (.node none none .nil (.node none none (.node (some [0, 1, 5, 6, 7]) (some [1, 5, 6]) .nil .nil) .nil)) (.node none none .nil (.node none none .nil (.node none none .nil (.node none none .nil (.node none none (.node none none .nil (.node none none (.node (some [1, 5, 6, 8, 9, 10]) (some [5, 6, 8, 9]) .nil .nil) .nil)) .nil)))))))))))
def an4 : Ann := (.node none none .nil (.node none none .nil (.node none none .nil (.node none none .nil (.node none none .nil (.node none none .nil (.node none none .nil (.node none none (.node none none .nil (.node none none (.node (some [0, 1, 5, 6, 7, 8, 9, 10, 11]) (some [0, 5, 6, 7, 8, 9, 10]) (.node none none .nil (.node none none (.node none none (.node none none .nil (.node none none (.node none none .nil (.node none (some [0, 1, 5, 6, 7, 8, 9, 10, 11, 12]) .nil .nil)) .nil)) .nil) .nil)) .nil) .nil)) (.node none none .nil (.node none none (.node none none .nil (.node none none (.node (some [0, 5, 6, 7, 8, 9, 10, 14, 15, 16]) (some [0, 4, 5, 6, 7, 8, 9, 10, 14, 15]) (.node none none .nil (.node none none (.node none none (.node none none (.node none (some [0, 5, 6, 7, 8, 9, 10, 14, 15, 16, 151]) .nil .nil) .nil) .nil) .nil)) .nil) .nil)) .nil))))))))))
def an5 : Ann := (.node none none .nil (.node none none .nil (.node none none .nil (.node none none .nil (.node none none .nil (.node none none (.node none none .nil (.node none none (.node (some [0, 1, 2, 7, 8, 9, 10]) (some [1, 2, 7, 8, 9]) .nil .nil) .nil)) (.node none none (.node none none .nil (.node none none (.node (some [1, 2, 7, 8, 9, 11]) (some [2, 7, 8, 9]) .nil .nil) .nil)) (.node none none .nil (.node none none (.node none none .nil (.node none none (.node (some [2, 7, 8, 9, 12, 13]) (some [2, 7, 8, 9, 12]) .nil .nil) .nil)) (.node none none (.node none none .nil (.node none none (.node (some [2, 7, 8, 9, 12, 14]) (some [2, 7, 8, 9, 12]) .nil .nil) .nil)) .nil))))))))))
def an6 : Ann := .nil
def an7 : Ann := .nil
def an8 : Ann := (.node none none .nil (.node none none .nil (.node none none (.node none none .nil (.node none none (.node (some [1, 6, 13, 14, 15]) (some [4, 5, 6]) .nil .nil) .nil)) .nil)))
def an9 : Ann := (.node none none .nil (.node none none .nil (.node none none (.node none none .nil (.node none none (.node (some [0, 1, 5]) (some [4]) .nil .nil) .nil)) .nil)))
def an10 : Ann := (.node none none .nil (.node none none (.node none none .nil (.node none none (.node (some [0, 3]) (some [2]) .nil .nil) .nil)) .nil))
def an11 : Ann := (.node none none .nil (.node none none .nil (.node none none .nil (.node none none .nil (.node none none (.node none none .nil (.node none none (.node (some [4, 5]) (some [2, 3, 4]) .nil .nil) .nil)) .nil)))))
def an12 : Ann := (.node none none .nil (.node none none .nil (.node none none (.node none none .nil (.node none none (.node (some [0, 3, 4]) (some [3]) .nil .nil) .nil)) .nil)))
def an13 : Ann := (.node none none .nil (.node none none (.node none none .nil (.node none none (.node (some [0, 1, 5]) (some [4]) .nil .nil) .nil)) .nil))
def an14 : Ann := .nil
def an15 : Ann := .nil
def an16 : Ann := .nil
def an17 : Ann := .nil
def an18 : Ann := .nil
def an19 : Ann := .nil
def an20 : Ann := .nil
def an21 : Ann := (.node none none .nil (.node none none .nil (.node none none (.node none none .nil (.node none none (.node (some [0, 3]) (some [0, 2]) (.node none none .nil (.node none none (.node none none (.node none none .nil (.node none none (.node none none .nil (.node none none (.node none none .nil (.node none none (.node (some [0, 3, 4, 5]) (some [0, 3]) .nil .nil) .nil)) .nil)) .nil)) .nil) .nil)) .nil) .nil)) .nil)))
def an22 : Ann := (.node none none .nil (.node none none .nil (.node none none (.node none none .nil (.node none none (.node (some [0, 1, 12, 13]) (some [4]) .nil .nil) .nil)) .nil)))
def an23 : Ann := (.node none none .nil (.node none none .nil (.node none none (.node (some [0, 1, 2, 3, 4, 10, 11]) (some []) (.node none none (.node none none .nil (.node none none .nil (.node none none .nil (.node none none (.node none none .nil (.node none (some [0, 1, 2, 3, 4, 10, 11, 12]) .nil .nil)) (.node none none .nil (.node none none (.node none none .nil (.node none (some [0, 1, 2, 3, 4, 10, 11, 12, 13, 14]) .nil .nil)) (.node none none (.node none none .nil (.node none (some [0, 1, 2, 3, 4, 10, 11, 12, 13]) .nil .nil)) (.node none none (.node none none (.node none (some [0, 1, 2, 3, 4, 10, 11, 12, 13, 97]) .nil .nil) .nil) .nil)))))))) .nil) .nil) .nil)))
def an24 : Ann := .nil
def an25 : Ann := (.node none none .nil (.node none none .nil (.node none none (.node none none .nil (.node none none (.node (some [3, 6, 7, 8]) (some [2, 3]) .nil .nil) .nil)) .nil)))
def an26 : Ann := .nil
def an27 : Ann := (.node none none .nil (.node none none (.node (some [0, 1, 2, 3, 8]) (some []) (.node none none .nil (.node none none (.node none none (.node none none .nil (.node none none (.node (some [0, 1, 2, 3, 8, 9]) (some [0, 1, 2, 3, 8]) (.node none none (.node none none (.node none (some [0, 1, 2, 3, 8, 9, 34]) .nil .nil) .nil) .nil) .nil) .nil)) .nil) .nil)) .nil) .nil))
def an28 : Ann := (.node none none .nil (.node none none .nil (.node none none .nil (.node none none (.node none none .nil (.node none none (.node (some [0, 3, 8, 9, 10, 11]) (some [0, 3, 8, 9, 10]) .nil .nil) .nil)) (.node none none .nil (.node none none (.node (some [0, 3, 8, 9, 12]) (some []) .nil .nil) .nil))))))
def an29 : Ann := (.node none none .nil (.node none none .nil (.node none none (.node none none .nil (.node none none .nil (.node none none .nil (.node none none (.node (some [0, 1, 8, 9, 10, 11]) (some []) (.node none none .nil (.node none none (.node none none (.node none none .nil (.node none none (.node none none .nil (.node none (some [0, 1, 8, 9, 10, 11, 12]) .nil .nil)) .nil)) .nil) .nil)) .nil) .nil)))) .nil)))
def an30 : Ann := (.node none none .nil (.node none none .nil (.node none none .nil (.node none none .nil (.node none none .nil (.node none none .nil (.node none none (.node none none .nil (.node none (some [11, 13]) (.node none none (.node none none .nil (.node none (some [0, 3, 11, 12, 13, 14]) .nil .nil)) .nil) .nil)) .nil)))))))
def an31 : Ann := (.node none none .nil (.node none none .nil (.node none none (.node (some [0, 8, 9]) (some []) .nil .nil) .nil)))
def an32 : Ann := (.node none none .nil (.node none none .nil (.node none none (.node none none .nil (.node none none (.node (some [0, 1, 2, 3, 9, 10]) (some [8]) (.node none none .nil (.node none none (.node none none (.node none none (.node none none (.node (some [0, 1, 2, 3, 9, 10]) (some [0, 1, 2, 3, 9, 10]) (.node none none (.node none none (.node none (some [0, 1, 2, 3, 9, 10, 36]) .nil .nil) .nil) .nil) .nil) .nil) (.node none none .nil (.node none none .nil (.node none none .nil (.node none none (.node none none .nil (.node none (some [0, 1, 2, 3, 9, 10]) (.node none none .nil (.node none none (.node (some [0, 1, 2, 3, 9, 10, 11]) (some [0, 1, 2, 3, 9, 10]) .nil .nil) .nil)) .nil)) (.node none none .nil (.node none none (.node none none .nil (.node none none (.node (some [0, 1, 2, 3, 9, 10, 12]) (some [0, 1, 2, 3, 9, 10]) .nil .nil) .nil)) .nil))))))) .nil) .nil)) .nil) .nil)) .nil)))
def an33 : Ann := (.node none none .nil (.node none none .nil (.node none none .nil (.node none none (.node none none (.node (some [0, 1, 4, 11, 12]) (some [11]) (.node none none (.node none none (.node none none (.node (some [0, 1, 4, 11, 12]) (some [0, 1, 4, 11, 12]) (.node none none (.node none none (.node none (some [0, 1, 4, 11, 12, 47]) .nil .nil) .nil) .nil) .nil) .nil) (.node none none (.node none none (.node (some [0, 1, 4, 11, 12]) (some [0, 1, 4, 11, 12]) (.node none none (.node none none (.node none (some [0, 1, 4, 11, 12, 65]) .nil .nil) .nil) .nil) .nil) .nil) .nil)) .nil) .nil) .nil) .nil))))
def an34 : Ann := (.node none none .nil (.node none none .nil (.node none none .nil (.node none none (.node none none (.node (some [0, 1, 4, 12, 13]) (some [0, 1, 4, 12, 13]) (.node none none (.node none none (.node none (some [0, 1, 4, 12, 13, 47]) .nil .nil) .nil) .nil) .nil) .nil) (.node none none (.node none none (.node (some [0, 1, 4, 12, 13]) (some [0, 1, 4, 12, 13]) (.node none none (.node none none (.node none (some [0, 1, 4, 12, 13, 66]) .nil .nil) .nil) .nil) .nil) .nil) (.node none none .nil (.node none none .nil (.node none none .nil (.node none none .nil (.node none none (.node none none (.node (some [0, 1, 4, 12, 13]) (some [0, 1, 13]) (.node none none (.node none none (.node none none (.node (some [0, 1, 4, 12, 13]) (some [0, 1, 4, 12, 13]) (.node none none (.node none none (.node none (some [0, 1, 4, 12, 13, 120]) .nil .nil) .nil) .nil) .nil) .nil) (.node none none (.node none none (.node (some [0, 1, 4, 12, 13]) (some [0, 1, 4, 12, 13]) (.node none none (.node none none (.node none (some [0, 1, 4, 12, 13, 139]) .nil .nil) .nil) .nil) .nil) .nil) .nil)) .nil) .nil) .nil) .nil))))))))))
def an36 : Ann := (.node none none .nil (.node none none (.node none none .nil (.node none (some [0, 2]) .nil .nil)) (.node none none (.node none none .nil (.node none (some [0, 2]) .nil .nil)) (.node none none (.node none none .nil (.node none (some [0, 2]) .nil .nil)) .nil))))
def an37 : Ann := .nil
def an38 : Ann := (.node none none .nil (.node none none (.node (some [0, 2, 3, 4, 10]) (some []) (.node none none (.node none none .nil (.node none none .nil (.node none none (.node none none (.node none (some [0, 2, 3, 4, 10, 11, 40]) .nil .nil) (.node none (some [0, 2, 3, 4, 10, 11]) .nil .nil)) .nil))) .nil) .nil) .nil))
def an39 : Ann := .nil
def an40 : Ann := .nil
def an41 : Ann := .nil
def an42 : Ann := .nil
def an43 : Ann := .nil

def infos (t : TypeId) : Option TInfo := bif Nat.blt t 77 then (bif Nat.blt t 36 then (bif Nat.blt t 18 then (bif Nat.blt t 9 then (bif Nat.blt t 4 then (bif Nat.blt t 2 then (bif Nat.blt t 1 then (bif Nat.beq t 0 then (some { ty := (.tup []) }) else none) else (bif Nat.beq t 1 then (some { ty := .func, size := 1, bytes := 8, zero := [AVal.nilfunc], fields := [], elem := 0, len := 0 }) else none)) else (bif Nat.blt t 3 then (bif Nat.beq t 2 then (some { ty := (.int .i64), size := 1, bytes := 8, zero := [(AVal.int .i64 (0 : Int))], fields := [], elem := 0, len := 0 }) else none) else (bif Nat.beq t 3 then (some { ty := (.int .i64), size := 1, bytes := 8, zero := [(AVal.int .i64 (0 : Int))], fields := [], elem := 0, len := 0 }) else none))) else (bif Nat.blt t 6 then (bif Nat.blt t 5 then (bif Nat.beq t 4 then (some { ty := .bool, size := 1, bytes := 1, zero := [(AVal.bool false)], fields := [], elem := 0, len := 0 }) else none) else (bif Nat.beq t 5 then (some { ty := (.int .u8), size := 1, bytes := 1, zero := [(AVal.int .u8 (0 : Int))], fields := [], elem := 0, len := 0 }) else none)) else (bif Nat.blt t 7 then (bif Nat.beq t 6 then (some { ty := (.int .u8), size := 1, bytes := 1, zero := [(AVal.int .u8 (0 : Int))], fields := [], elem := 0, len := 0 }) else none) else (bif Nat.blt t 8 then (bif Nat.beq t 7 then (some { ty := .agg, size := 4, bytes := 24, zero := [(AVal.int .i64 (0 : Int)), (AVal.int .i64 (0 : Int)), (AVal.bool false), (AVal.int .u8 (0 : Int))], fields := [(0, 2), (1, 3), (2, 4), (3, 6)], elem := 0, len := 0 }) else none) else (bif Nat.beq t 8 then (some { ty := .agg, size := 4, bytes := 24, zero := [(AVal.int .i64 (0 : Int)), (AVal.int .i64 (0 : Int)), (AVal.bool false), (AVal.int .u8 (0 : Int))], fields := [(0, 2), (1, 3), (2, 4), (3, 6)], elem := 0, len := 0 }) else none))))) else (bif Nat.blt t 13 then (bif Nat.blt t 11 then (bif Nat.blt t 10 then (bif Nat.beq t 9 then (some { ty := .str, size := 1, bytes := 16, zero := [(AVal.str (⟨#[]⟩ : ByteArray))], fields := [], elem := 0, len := 0 }) else none) else (bif Nat.beq t 10 then (some { ty := .str, size := 1, bytes := 16, zero := [(AVal.str (⟨#[]⟩ : ByteArray))], fields := [], elem := 0, len := 0 }) else none)) else (bif Nat.blt t 12 then (bif Nat.beq t 11 then (some { ty := .str, size := 1, bytes := 16, zero := [(AVal.str (⟨#[]⟩ : ByteArray))], fields := [], elem := 0, len := 0 }) else none) else (bif Nat.beq t 12 then (some { ty := (.int .u64), size := 1, bytes := 8, zero := [(AVal.int .u64 (0 : Int))], fields := [], elem := 0, len := 0 }) else none))) else (bif Nat.blt t 15 then (bif Nat.blt t 14 then (bif Nat.beq t 13 then (some { ty := .agg, size := 2, bytes := 24, zero := [(AVal.str (⟨#[]⟩ : ByteArray)), (AVal.int .u64 (0 : Int))], fields := [(0, 9), (1, 12)], elem := 0, len := 0 }) else none) else (bif Nat.beq t 14 then (some { ty := .agg, size := 2, bytes := 24, zero := [(AVal.str (⟨#[]⟩ : ByteArray)), (AVal.int .u64 (0 : Int))], fields := [(0, 9), (1, 12)], elem := 0, len := 0 }) else none)) else (bif Nat.blt t 16 then (bif Nat.beq t 15 then (some { ty := .ptr, size := 1, bytes := 8, zero := [(AVal.ptr Pt.nil)], fields := [], elem := 63, len := 1 }) else none) else (bif Nat.blt t 17 then (bif Nat.beq t 16 then (some { ty := .ptr, size := 1, bytes := 8, zero := [(AVal.ptr Pt.nil)], fields := [], elem := 66, len := 0 }) else none) else (bif Nat.beq t 17 then (some { ty := .ptr, size := 1, bytes := 8, zero := [(AVal.ptr Pt.nil)], fields := [], elem := 75, len := 1 }) else none)))))) else (bif Nat.blt t 27 then (bif Nat.blt t 22 then (bif Nat.blt t 20 then (bif Nat.blt t 19 then (bif Nat.beq t 18 then (some { ty := .agg, size := 1, bytes := 8, zero := [(AVal.ptr Pt.nil)], fields := [(0, 17)], elem := 0, len := 0 }) else none) else (bif Nat.beq t 19 then (some { ty := .agg, size := 1, bytes := 8, zero := [(AVal.ptr Pt.nil)], fields := [(0, 17)], elem := 0, len := 0 }) else none)) else (bif Nat.blt t 21 then (bif Nat.beq t 20 then (some { ty := .iface, size := 1, bytes := 16, zero := [AVal.nilif], fields := [], elem := 0, len := 0 }) else none) else (bif Nat.beq t 21 then (some { ty := (.int .i32), size := 1, bytes := 4, zero := [(AVal.int .i32 (0 : Int))], fields := [], elem := 0, len := 0 }) else none))) else (bif Nat.blt t 24 then (bif Nat.blt t 23 then (bif Nat.beq t 22 then (some { ty := .slice, size := 1, bytes := 24, zero := [(AVal.slice Sl.nil)], fields := [], elem := 3, len := 0 }) else none) else (bif Nat.beq t 23 then (some { ty := .func, size := 1, bytes := 8, zero := [AVal.nilfunc], fields := [], elem := 0, len := 0 }) else none)) else (bif Nat.blt t 25 then (bif Nat.beq t 24 then (some { ty := .func, size := 1, bytes := 8, zero := [AVal.nilfunc], fields := [], elem := 0, len := 0 }) else none) else (bif Nat.blt t 26 then (bif Nat.beq t 25 then (some { ty := (.tup [.slice, .bool]) }) else none) else (bif Nat.beq t 26 then (some { ty := .func, size := 1, bytes := 8, zero := [AVal.nilfunc], fields := [], elem := 0, len := 0 }) else none))))) else (bif Nat.blt t 31 then (bif Nat.blt t 29 then (bif Nat.blt t 28 then (bif Nat.beq t 27 then (some { ty := .func, size := 1, bytes := 8, zero := [AVal.nilfunc], fields := [], elem := 0, len := 0 }) else none) else (bif Nat.beq t 28 then (some { ty := .func, size := 1, bytes := 8, zero := [AVal.nilfunc], fields := [], elem := 0, len := 0 }) else none)) else (bif Nat.blt t 30 then (bif Nat.beq t 29 then (some { ty := .func, size := 1, bytes := 8, zero := [AVal.nilfunc], fields := [], elem := 0, len := 0 }) else none) else (bif Nat.beq t 30 then (some { ty := .func, size := 1, bytes := 8, zero := [AVal.nilfunc], fields := [], elem := 0, len := 0 }) else none))) else (bif Nat.blt t 33 then (bif Nat.blt t 32 then (bif Nat.beq t 31 then (some { ty := .func, size := 1, bytes := 8, zero := [AVal.nilfunc], fields := [], elem := 0, len := 0 }) else none) else (bif Nat.beq t 32 then (some { ty := .func, size := 1, bytes := 8, zero := [AVal.nilfunc], fields := [], elem := 0, len := 0 }) else none)) else (bif Nat.blt t 34 then (bif Nat.beq t 33 then (some { ty := .func, size := 1, bytes := 8, zero := [AVal.nilfunc], fields := [], elem := 0, len := 0 }) else none) else (bif Nat.blt t 35 then (bif Nat.beq t 34 then (some { ty := .func, size := 1, bytes := 8, zero := [AVal.nilfunc], fields := [], elem := 0, len := 0 }) else none) else (bif Nat.beq t 35 then (some { ty := .func, size := 1, bytes := 8, zero := [AVal.nilfunc], fields := [], elem := 0, len := 0 }) else none))))))) else (bif Nat.blt t 54 then (bif Nat.blt t 45 then (bif Nat.blt t 40 then (bif Nat.blt t 38 then (bif Nat.blt t 37 then (bif Nat.beq t 36 then (some { ty := .func, size := 1, bytes := 8, zero := [AVal.nilfunc], fields := [], elem := 0, len := 0 }) else none) else (bif Nat.beq t 37 then (some { ty := (.int .u64), size := 1, bytes := 8, zero := [(AVal.int .u64 (0 : Int))], fields := [], elem := 0, len := 0 }) else none)) else (bif Nat.blt t 39 then (bif Nat.beq t 38 then (some { ty := .func, size := 1, bytes := 8, zero := [AVal.nilfunc], fields := [], elem := 0, len := 0 }) else none) else (bif Nat.beq t 39 then (some { ty := .func, size := 1, bytes := 8, zero := [AVal.nilfunc], fields := [], elem := 0, len := 0 }) else none))) else (bif Nat.blt t 42 then (bif Nat.blt t 41 then (bif Nat.beq t 40 then (some { ty := (.int .i64), size := 1, bytes := 8, zero := [(AVal.int .i64 (0 : Int))], fields := [], elem := 0, len := 0 }) else none) else (bif Nat.beq t 41 then (some { ty := (.tup [(.int .i64), (.int .i64)]) }) else none)) else (bif Nat.blt t 43 then (bif Nat.beq t 42 then (some { ty := .func, size := 1, bytes := 8, zero := [AVal.nilfunc], fields := [], elem := 0, len := 0 }) else none) else (bif Nat.blt t 44 then (bif Nat.beq t 43 then (some { ty := .func, size := 1, bytes := 8, zero := [AVal.nilfunc], fields := [], elem := 0, len := 0 }) else none) else (bif Nat.beq t 44 then (some { ty := .func, size := 1, bytes := 8, zero := [AVal.nilfunc], fields := [], elem := 0, len := 0 }) else none))))) else (bif Nat.blt t 49 then (bif Nat.blt t 47 then (bif Nat.blt t 46 then (bif Nat.beq t 45 then (some { ty := (.tup [(.int .i64), .bool]) }) else none) else (bif Nat.beq t 46 then (some { ty := .func, size := 1, bytes := 8, zero := [AVal.nilfunc], fields := [], elem := 0, len := 0 }) else none)) else (bif Nat.blt t 48 then (bif Nat.beq t 47 then (some { ty := .func, size := 1, bytes := 8, zero := [AVal.nilfunc], fields := [], elem := 0, len := 0 }) else none) else (bif Nat.beq t 48 then (some { ty := (.int .u32), size := 1, bytes := 4, zero := [(AVal.int .u32 (0 : Int))], fields := [], elem := 0, len := 0 }) else none))) else (bif Nat.blt t 51 then (bif Nat.blt t 50 then (bif Nat.beq t 49 then (some { ty := .func, size := 1, bytes := 8, zero := [AVal.nilfunc], fields := [], elem := 0, len := 0 }) else none) else (bif Nat.beq t 50 then (some { ty := (.int .u64), size := 1, bytes := 8, zero := [(AVal.int .u64 (0 : Int))], fields := [], elem := 0, len := 0 }) else none)) else (bif Nat.blt t 52 then (bif Nat.beq t 51 then (some { ty := .func, size := 1, bytes := 8, zero := [AVal.nilfunc], fields := [], elem := 0, len := 0 }) else none) else (bif Nat.blt t 53 then (bif Nat.beq t 52 then (some { ty := (.int .u64), size := 1, bytes := 8, zero := [(AVal.int .u64 (0 : Int))], fields := [], elem := 0, len := 0 }) else none) else (bif Nat.beq t 53 then (some { ty := .func, size := 1, bytes := 8, zero := [AVal.nilfunc], fields := [], elem := 0, len := 0 }) else none)))))) else (bif Nat.blt t 63 then (bif Nat.blt t 58 then (bif Nat.blt t 56 then (bif Nat.blt t 55 then (bif Nat.beq t 54 then (some { ty := .func, size := 1, bytes := 8, zero := [AVal.nilfunc], fields := [], elem := 0, len := 0 }) else none) else (bif Nat.beq t 55 then (some { ty := .func, size := 1, bytes := 8, zero := [AVal.nilfunc], fields := [], elem := 0, len := 0 }) else none)) else (bif Nat.blt t 57 then (bif Nat.beq t 56 then (some { ty := .ptr, size := 1, bytes := 8, zero := [(AVal.ptr Pt.nil)], fields := [], elem := 3, len := 1 }) else none) else (bif Nat.beq t 57 then (some { ty := .func, size := 1, bytes := 8, zero := [AVal.nilfunc], fields := [], elem := 0, len := 0 }) else none))) else (bif Nat.blt t 60 then (bif Nat.blt t 59 then (bif Nat.beq t 58 then (some { ty := .ptr, size := 1, bytes := 8, zero := [(AVal.ptr Pt.nil)], fields := [], elem := 52, len := 1 }) else none) else (bif Nat.beq t 59 then (some { ty := (.tup [(.int .i64), (.int .i64)]) }) else none)) else (bif Nat.blt t 61 then (bif Nat.beq t 60 then (some { ty := .func, size := 1, bytes := 8, zero := [AVal.nilfunc], fields := [], elem := 0, len := 0 }) else none) else (bif Nat.blt t 62 then (bif Nat.beq t 61 then (some { ty := .func, size := 1, bytes := 8, zero := [AVal.nilfunc], fields := [], elem := 0, len := 0 }) else none) else (bif Nat.beq t 62 then (some { ty := .agg, size := 4, bytes := 40, zero := [(AVal.ptr Pt.nil), (AVal.ptr Pt.nil), (AVal.ptr Pt.nil), (AVal.str (⟨#[]⟩ : ByteArray))], fields := [(0, 17), (1, 17), (2, 17), (3, 9)], elem := 0, len := 0 }) else none))))) else (bif Nat.blt t 71 then (bif Nat.blt t 68 then (bif Nat.blt t 67 then (bif Nat.beq t 63 then (some { ty := .agg, size := 4, bytes := 40, zero := [(AVal.ptr Pt.nil), (AVal.ptr Pt.nil), (AVal.ptr Pt.nil), (AVal.str (⟨#[]⟩ : ByteArray))], fields := [(0, 17), (1, 17), (2, 17), (3, 9)], elem := 0, len := 0 }) else none) else (bif Nat.beq t 67 then (some { ty := .func, size := 1, bytes := 8, zero := [AVal.nilfunc], fields := [], elem := 0, len := 0 }) else none)) else (bif Nat.blt t 69 then (bif Nat.beq t 68 then (some { ty := (.int .u8), size := 1, bytes := 1, zero := [(AVal.int .u8 (0 : Int))], fields := [], elem := 0, len := 0 }) else none) else (bif Nat.blt t 70 then (bif Nat.beq t 69 then (some { ty := (.int .u8), size := 1, bytes := 1, zero := [(AVal.int .u8 (0 : Int))], fields := [], elem := 0, len := 0 }) else none) else (bif Nat.beq t 70 then (some { ty := .func, size := 1, bytes := 8, zero := [AVal.nilfunc], fields := [], elem := 0, len := 0 }) else none)))) else (bif Nat.blt t 73 then (bif Nat.blt t 72 then (bif Nat.beq t 71 then (some { ty := .ptr, size := 1, bytes := 8, zero := [(AVal.ptr Pt.nil)], fields := [], elem := 5, len := 1 }) else none) else (bif Nat.beq t 72 then (some { ty := (.int .i32), size := 1, bytes := 4, zero := [(AVal.int .i32 (0 : Int))], fields := [], elem := 0, len := 0 }) else none)) else (bif Nat.blt t 74 then (bif Nat.beq t 73 then (some { ty := (.int .i32), size := 1, bytes := 4, zero := [(AVal.int .i32 (0 : Int))], fields := [], elem := 0, len := 0 }) else none) else (bif Nat.blt t 75 then (bif Nat.beq t 74 then (some { ty := .agg, size := 11, bytes := 48, zero := [(AVal.int .u64 (0 : Int)), (AVal.int .u64 (0 : Int)), (AVal.int .u32 (0 : Int)), (AVal.int .u8 (0 : Int)), (AVal.int .u8 (0 : Int)), (AVal.int .u8 (0 : Int)), (AVal.int .u8 (0 : Int)), AVal.nilfunc, (AVal.ptr Pt.nil), (AVal.int .i32 (0 : Int)), (AVal.int .i32 (0 : Int))], fields := [(0, 12), (1, 12), (2, 48), (3, 68), (4, 5), (5, 5), (6, 69), (7, 70), (8, 71), (9, 72), (10, 73)], elem := 0, len := 0 }) else none) else (bif Nat.beq t 75 then (some { ty := .agg, size := 11, bytes := 48, zero := [(AVal.int .u64 (0 : Int)), (AVal.int .u64 (0 : Int)), (AVal.int .u32 (0 : Int)), (AVal.int .u8 (0 : Int)), (AVal.int .u8 (0 : Int)), (AVal.int .u8 (0 : Int)), (AVal.int .u8 (0 : Int)), AVal.nilfunc, (AVal.ptr Pt.nil), (AVal.int .i32 (0 : Int)), (AVal.int .i32 (0 : Int))], fields := [(0, 12), (1, 12), (2, 48), (3, 68), (4, 5), (5, 5), (6, 69), (7, 70), (8, 71), (9, 72), (10, 73)], elem := 0, len := 0 }) else none)))))))) else none

def anns (f : FuncId) : Option Ann := bif Nat.blt f 60 then (bif Nat.blt f 23 then (bif Nat.blt f 13 then (bif Nat.blt f 8 then (bif Nat.blt f 5 then (bif Nat.blt f 4 then (bif Nat.beq f 3 then (some an3) else none) else (bif Nat.beq f 4 then (some an4) else none)) else (bif Nat.blt f 6 then (bif Nat.beq f 5 then (some an5) else none) else (bif Nat.blt f 7 then (bif Nat.beq f 6 then (some an6) else none) else (bif Nat.beq f 7 then (some an7) else none)))) else (bif Nat.blt f 10 then (bif Nat.blt f 9 then (bif Nat.beq f 8 then (some an8) else none) else (bif Nat.beq f 9 then (some an9) else none)) else (bif Nat.blt f 11 then (bif Nat.beq f 10 then (some an10) else none) else (bif Nat.blt f 12 then (bif Nat.beq f 11 then (some an11) else none) else (bif Nat.beq f 12 then (some an12) else none))))) else (bif Nat.blt f 18 then (bif Nat.blt f 15 then (bif Nat.blt f 14 then (bif Nat.beq f 13 then (some an13) else none) else (bif Nat.beq f 14 then (some an14) else none)) else (bif Nat.blt f 16 then (bif Nat.beq f 15 then (some an15) else none) else (bif Nat.blt f 17 then (bif Nat.beq f 16 then (some an16) else none) else (bif Nat.beq f 17 then (some an17) else none)))) else (bif Nat.blt f 20 then (bif Nat.blt f 19 then (bif Nat.beq f 18 then (some an18) else none) else (bif Nat.beq f 19 then (some an19) else none)) else (bif Nat.blt f 21 then (bif Nat.beq f 20 then (some an20) else none) else (bif Nat.blt f 22 then (bif Nat.beq f 21 then (some an21) else none) else (bif Nat.beq f 22 then (some an22) else none)))))) else (bif Nat.blt f 33 then (bif Nat.blt f 28 then (bif Nat.blt f 25 then (bif Nat.blt f 24 then (bif Nat.beq f 23 then (some an23) else none) else (bif Nat.beq f 24 then (some an24) else none)) else (bif Nat.blt f 26 then (bif Nat.beq f 25 then (some an25) else none) else (bif Nat.blt f 27 then (bif Nat.beq f 26 then (some an26) else none) else (bif Nat.beq f 27 then (some an27) else none)))) else (bif Nat.blt f 30 then (bif Nat.blt f 29 then (bif Nat.beq f 28 then (some an28) else none) else (bif Nat.beq f 29 then (some an29) else none)) else (bif Nat.blt f 31 then (bif Nat.beq f 30 then (some an30) else none) else (bif Nat.blt f 32 then (bif Nat.beq f 31 then (some an31) else none) else (bif Nat.beq f 32 then (some an32) else none))))) else (bif Nat.blt f 39 then (bif Nat.blt f 36 then (bif Nat.blt f 34 then (bif Nat.beq f 33 then (some an33) else none) else (bif Nat.beq f 34 then (some an34) else none)) else (bif Nat.blt f 37 then (bif Nat.beq f 36 then (some an36) else none) else (bif Nat.blt f 38 then (bif Nat.beq f 37 then (some an37) else none) else (bif Nat.beq f 38 then (some an38) else none)))) else (bif Nat.blt f 41 then (bif Nat.blt f 40 then (bif Nat.beq f 39 then (some an39) else none) else (bif Nat.beq f 40 then (some an40) else none)) else (bif Nat.blt f 42 then (bif Nat.beq f 41 then (some an41) else none) else (bif Nat.blt f 43 then (bif Nat.beq f 42 then (some an42) else none) else (bif Nat.beq f 43 then (some an43) else none))))))) else none

noncomputable def funs (f : FuncId) : Option (Func × Ann) :=
  match anns f with
  | none => none
  | some an => (Go.Proofs.Try.prog.funcs[f]?).map fun fn => (fn, an)

/-- What is told of functions otherwise. -/
def exts (f : FuncId) : Option (List AVal → AHeap → Option (AVal × AHeap)) := none

def bstr_633d862b : ByteArray := ⟨#[0, 1, 2, 2, 3, 3, 3, 3, 4, 4, 4, 4, 4, 4, 4, 4, 5, 5, 5, 5, 5, 5, 5, 5, 5, 5, 5, 5, 5, 5, 5, 5, 6, 6, 6, 6, 6, 6, 6, 6, 6, 6, 6, 6, 6, 6, 6, 6, 6, 6, 6, 6, 6, 6, 6, 6, 6, 6, 6, 6, 6, 6, 6, 6, 7, 7, 7, 7, 7, 7, 7, 7, 7, 7, 7, 7, 7, 7, 7, 7, 7, 7, 7, 7, 7, 7, 7, 7, 7, 7, 7, 7, 7, 7, 7, 7, 7, 7, 7, 7, 7, 7, 7, 7, 7, 7, 7, 7, 7, 7, 7, 7, 7, 7, 7, 7, 7, 7, 7, 7, 7, 7, 7, 7, 7, 7, 7, 7, 8, 8, 8, 8, 8, 8, 8, 8, 8, 8, 8, 8, 8, 8, 8, 8, 8, 8, 8, 8, 8, 8, 8, 8, 8, 8, 8, 8, 8, 8, 8, 8, 8, 8, 8, 8, 8, 8, 8, 8, 8, 8, 8, 8, 8, 8, 8, 8, 8, 8, 8, 8, 8, 8, 8, 8, 8, 8, 8, 8, 8, 8, 8, 8, 8, 8, 8, 8, 8, 8, 8, 8, 8, 8, 8, 8, 8, 8, 8, 8, 8, 8, 8, 8, 8, 8, 8, 8, 8, 8, 8, 8, 8, 8, 8, 8, 8, 8, 8, 8, 8, 8, 8, 8, 8, 8, 8, 8, 8, 8, 8, 8, 8, 8, 8, 8, 8, 8, 8, 8, 8, 8, 8, 8, 8, 8, 8, 8]⟩
def globs (g : Nat) : Option AVal := none

/-- Functions whose results are values, where their arguments are. -/
def pures (f : FuncId) : Bool := (bif Nat.blt f 16 then (bif Nat.blt f 10 then (bif Nat.blt f 8 then (bif Nat.blt f 7 then (bif Nat.beq f 6 then true else false) else (bif Nat.beq f 7 then true else false)) else (bif Nat.blt f 9 then (bif Nat.beq f 8 then true else false) else (bif Nat.beq f 9 then true else false))) else (bif Nat.blt f 13 then (bif Nat.blt f 11 then (bif Nat.beq f 10 then true else false) else (bif Nat.beq f 11 then true else false)) else (bif Nat.blt f 14 then (bif Nat.beq f 13 then true else false) else (bif Nat.blt f 15 then (bif Nat.beq f 14 then true else false) else (bif Nat.beq f 15 then true else false))))) else (bif Nat.blt f 25 then (bif Nat.blt f 20 then (bif Nat.blt f 19 then (bif Nat.beq f 16 then true else false) else (bif Nat.beq f 19 then true else false)) else (bif Nat.blt f 22 then (bif Nat.beq f 20 then true else false) else (bif Nat.blt f 24 then (bif Nat.beq f 22 then true else false) else (bif Nat.beq f 24 then true else false)))) else (bif Nat.blt f 36 then (bif Nat.blt f 26 then (bif Nat.beq f 25 then true else false) else (bif Nat.beq f 26 then true else false)) else (bif Nat.blt f 37 then (bif Nat.beq f 36 then true else false) else (bif Nat.blt f 39 then (bif Nat.beq f 37 then true else false) else (bif Nat.beq f 39 then true else false))))))

/-- Functions in which slices that are appended as elements are turned to their cells. -/
def fixes (f : FuncId) : Bool := (bif Nat.blt f 23 then (bif Nat.blt f 13 then (bif Nat.blt f 8 then (bif Nat.blt f 5 then (bif Nat.blt f 4 then (bif Nat.beq f 3 then true else false) else (bif Nat.beq f 4 then true else false)) else (bif Nat.blt f 6 then (bif Nat.beq f 5 then true else false) else (bif Nat.blt f 7 then (bif Nat.beq f 6 then true else false) else (bif Nat.beq f 7 then true else false)))) else (bif Nat.blt f 10 then (bif Nat.blt f 9 then (bif Nat.beq f 8 then true else false) else (bif Nat.beq f 9 then true else false)) else (bif Nat.blt f 11 then (bif Nat.beq f 10 then true else false) else (bif Nat.blt f 12 then (bif Nat.beq f 11 then true else false) else (bif Nat.beq f 12 then true else false))))) else (bif Nat.blt f 18 then (bif Nat.blt f 15 then (bif Nat.blt f 14 then (bif Nat.beq f 13 then true else false) else (bif Nat.beq f 14 then true else false)) else (bif Nat.blt f 16 then (bif Nat.beq f 15 then true else false) else (bif Nat.blt f 17 then (bif Nat.beq f 16 then true else false) else (bif Nat.beq f 17 then true else false)))) else (bif Nat.blt f 20 then (bif Nat.blt f 19 then (bif Nat.beq f 18 then true else false) else (bif Nat.beq f 19 then true else false)) else (bif Nat.blt f 21 then (bif Nat.beq f 20 then true else false) else (bif Nat.blt f 22 then (bif Nat.beq f 21 then true else false) else (bif Nat.beq f 22 then true else false)))))) else (bif Nat.blt f 33 then (bif Nat.blt f 28 then (bif Nat.blt f 25 then (bif Nat.blt f 24 then (bif Nat.beq f 23 then true else false) else (bif Nat.beq f 24 then true else false)) else (bif Nat.blt f 26 then (bif Nat.beq f 25 then true else false) else (bif Nat.blt f 27 then (bif Nat.beq f 26 then true else false) else (bif Nat.beq f 27 then true else false)))) else (bif Nat.blt f 30 then (bif Nat.blt f 29 then (bif Nat.beq f 28 then true else false) else (bif Nat.beq f 29 then true else false)) else (bif Nat.blt f 31 then (bif Nat.beq f 30 then true else false) else (bif Nat.blt f 32 then (bif Nat.beq f 31 then true else false) else (bif Nat.beq f 32 then true else false))))) else (bif Nat.blt f 39 then (bif Nat.blt f 36 then (bif Nat.blt f 34 then (bif Nat.beq f 33 then true else false) else (bif Nat.beq f 34 then true else false)) else (bif Nat.blt f 37 then (bif Nat.beq f 36 then true else false) else (bif Nat.blt f 38 then (bif Nat.beq f 37 then true else false) else (bif Nat.beq f 38 then true else false)))) else (bif Nat.blt f 41 then (bif Nat.blt f 40 then (bif Nat.beq f 39 then true else false) else (bif Nat.beq f 40 then true else false)) else (bif Nat.blt f 42 then (bif Nat.beq f 41 then true else false) else (bif Nat.blt f 43 then (bif Nat.beq f 42 then true else false) else (bif Nat.beq f 43 then true else false)))))))

/-- Functions that are told apart by whether an empty slice is nil. -/
def splits (f : FuncId) : Bool := (bif Nat.beq f 17 then true else false)

noncomputable def C (fuel : Nat) : Ctx := { info := infos, funs := funs, ext := exts, glob := globs, pure := pures, fuel := fuel, fzs := fixes, splits := splits }

/-- in a function -/
noncomputable abbrev Cf (fuel f : Nat) : Ctx := (C fuel).at f

/-- A call. -/
noncomputable def run : Nat → Nat → CallF := hide fun fuel d f args h => acall (C fuel) false d f args h
theorem run_is : run = fun fuel d f args h => acall (C fuel) false d f args h := hide_eq _
/-- .. of a body -/
noncomputable def brun : Nat → Nat → CallF := hide fun fuel d f args h => abody (C fuel) false (acall (C fuel) false (d - 1)) (acall (C fuel) true (d - 1)) f args h
theorem brun_is : brun = fun fuel d f args h => abody (C fuel) false (acall (C fuel) false (d - 1)) (acall (C fuel) true (d - 1)) f args h := hide_eq _

theorem pure_of {f : FuncId} {args us : List AVal} (hp : pures f = true) (hx : exts f = none) (hc : canonL args = some us) {fuel d : Nat} {h : AHeap} {r v : AVal} {h' : AHeap}
    (hb : brun fuel (d + 1) f us AHeap.none = some (r, h')) (hf : freezeV h' 8 r = some v) : run fuel (d + 1) f args h = some (v, h) := by
  rw [brun_is] at hb
  rw [run_is]
  have e : (C fuel).ext f = none := hx
  have e2 : (C fuel).pure f = true := hp
  simp only [Nat.add_sub_cancel] at hb
  simp only [acall, e, e2, hc, cond_true, afreeze, hb, Option.bind_some, hf, Option.map_some]
theorem run_val {f : FuncId} {args us : List AVal} (hp : pures f = true) (hx : exts f = none) {fuel d : Nat} {h : AHeap} (hc : args.mapM (freezeV h 8) = some us) {r v : AVal} {h' : AHeap}
    (hb : brun fuel (d + 1) f us AHeap.none = some (r, h')) (hf : freezeV h' 8 r = some v) (hfl : v.flat = true) : run fuel (d + 1) f args h = some (v, h) := by
  cases hcn : canonL args with
  | some us' =>
    have : us' = us := Option.some.inj ((mapM_canon hcn).symm.trans hc)
    subst this
    exact pure_of hp hx hcn hb hf
  | none =>
    rw [brun_is] at hb
    rw [run_is]
    have e : (C fuel).ext f = none := hx
    have e2 : (C fuel).pure f = true := hp
    simp only [Nat.add_sub_cancel] at hb
    simp only [acall, e, e2, hcn, hc, cond_true, afreeze, hb, Option.bind_some, hf, hfl]
theorem run_fix {f : FuncId} {args us : List AVal} (hp : pures f = true) (hx : exts f = none) {fuel d : Nat} {h : AHeap} (hcn : canonL args = none) (hc : args.mapM (freezeV h 8) = some us) {r v : AVal} {h' : AHeap}
    (hb : brun fuel (d + 1) f us AHeap.none = some (r, h')) (hf : freezeV h' 8 r = some v) (hfl : v.flat = false) : run fuel (d + 1) f args h = some (v, h.markRo (args.flatMap (reachV h 8))) := by
  rw [brun_is] at hb
  rw [run_is]
  have e : (C fuel).ext f = none := hx
  have e2 : (C fuel).pure f = true := hp
  simp only [Nat.add_sub_cancel] at hb
  simp only [acall, e, e2, hcn, hc, cond_true, afreeze, hb, Option.bind_some, hf, hfl, cond_false]
theorem run_any {f : FuncId} {args us : List AVal} (hp : pures f = true) (hx : exts f = none) {fuel d : Nat} {h : AHeap} (hc : args.mapM (freezeV h 8) = some us) {r v : AVal} {h' : AHeap}
    (hb : brun fuel (d + 1) f us AHeap.none = some (r, h')) (hf : freezeV h' 8 r = some v) : ∃ ids, run fuel (d + 1) f args h = some (v, h.markRo ids) := by
  cases hcn : canonL args with
  | some us' =>
    have : us' = us := Option.some.inj ((mapM_canon hcn).symm.trans hc)
    subst this
    exact ⟨[], by rw [markRo_nil]; exact pure_of hp hx hcn hb hf⟩
  | none =>
    cases hfl : v.flat with
    | true => exact ⟨[], by rw [markRo_nil]; exact run_val hp hx hc hb hf hfl⟩
    | false => exact ⟨_, run_fix hp hx hcn hc hb hf hfl⟩
theorem run_body {f : FuncId} {args : List AVal} (hx : exts f = none) {fuel d : Nat} {h : AHeap} (hc : canonL args = none) (hf : args.mapM (freezeV h 8) = none) : run fuel (d + 1) f args h = brun fuel (d + 1) f args h := by
  rw [brun_is, run_is]
  have e : (C fuel).ext f = none := hx
  simp only [acall, e, hc, hf, Nat.add_sub_cancel, oneEmpty_none hc, Bool.and_false, cond_false]
  cases (C fuel).pure f <;> rfl
theorem body_of {f : FuncId} {args : List AVal} (hp : pures f = false) (hx : exts f = none) (fuel d : Nat) (h : AHeap) (hs : (splits f && oneEmpty args) = false := by rfl) : run fuel (d + 1) f args h = brun fuel (d + 1) f args h := by
  rw [brun_is, run_is]
  have e : (C fuel).ext f = none := hx
  have e2 : (C fuel).pure f = false := hp
  have e3 : ((C fuel).splits f && oneEmpty args) = false := hs
  simp only [acall, e, e2, e3, cond_false, Nat.add_sub_cancel]
theorem run_split {f : FuncId} (hp : pures f = false) (hx : exts f = none) (hs : splits f = true) {fuel d : Nat} {h h' : AHeap} {c : Bool} {v1 v2 : AVal} (h1 : brun fuel (d + 1) f [.slice .nil] h = some (v1, h')) (h2 : brun fuel (d + 1) f [.empty] h = some (v2, h')) (hw : v1.wk = v2.wk) :
    run fuel (d + 1) f [.slice (.lst 0 c [])] h = some (v1.wk, h') := by
  rw [brun_is] at h1 h2
  rw [run_is]
  have e : (C fuel).ext f = none := hx
  have e2 : (C fuel).pure f = false := hp
  have e3 : ((C fuel).splits f && oneEmpty [.slice (.lst 0 c [])]) = true := by
    have : (C fuel).splits f = true := hs
    rw [this]; rfl
  simp only [Nat.add_sub_cancel] at h1 h2
  simp only [acall, e, e2, e3, cond_false, cond_true]
  unfold split2
  rw [h1, h2, Option.bind_some, Option.bind_some, if_pos ⟨hw, rfl⟩]

theorem types_ok (fuel : Nat) : TypesOk Go.Proofs.Try.prog (C fuel) := typesOk_of 77 (fun t ht => bif_out _ ht) (by kernel_rfl)
theorem funs_ok (fuel : Nat) : FunsOk Go.Proofs.Try.prog (C fuel) := funsOk_of (fun f => by
  cases h : anns f with
  | none => exact .inl (by simp only [C, funs, h])
  | some an => exact .inr ⟨an, by simp only [C, funs, h]⟩) (by kernel_rfl)
theorem mixed : Go.Proofs.Try.prog.follows .mixedOrders = true := by kernel_rfl
theorem exts_ok (fuel B : Nat) (q : Bool) : ExtOk Go.Proofs.Try.prog (C fuel) B q := by
  intro f args h v h' hk
  simp only [C, exts] at hk
  cases hk

theorem glob_ok (fuel : Nat) (μ : Mu) : GlobOk (C fuel) μ := fun g id h => by simp [C, globs] at h

end Go.Proofs.Ytnkbhbkfbigbiaa
