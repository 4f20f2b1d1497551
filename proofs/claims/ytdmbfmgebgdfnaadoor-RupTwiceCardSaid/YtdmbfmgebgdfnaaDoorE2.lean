/-
  What each function does: printed by program, checked by the kernel.
-/
import Derived.Test.YtdmbfmgebgdfnaaDoorE
namespace Go.Proofs.YtdmbfmgebgdfnaaDoor
set_option linter.unusedVariables false
set_option maxRecDepth 100000

theorem k_bits_Len64_2_is : k_bits_Len64_2 = k_bits_Len64_2r := hide_eq _

theorem e_bits_Len64 (fuel d : Nat) (x0 : Int) (h : AHeap) :
    brun fuel (d + 1) F_bits_Len64 [(AVal.int .u64 x0)] h =
  ((bif (decide ((4294967296 : Int) ≤ x0)) then (some (.normal, [(0, (AVal.int .u64 (Int.fdiv x0 (2 ^ min (Int.toNat (32 : Int)) (IntKind.bits .u64))))), (2, (AVal.int .i64 (32 : Int)))], h)) else (some (.normal, [(0, (AVal.int .u64 x0)), (2, (AVal.int .i64 (0 : Int)))], h)))).bind fun p1 =>
    k_bits_Len64_0 fuel d p1.1 p1.2.1 p1.2.2 := by
  generalize hh : brun = R
  rw [brun_is] at hh
  subst hh
  generalize hh : k_bits_Len64_0 = R
  rw [k_bits_Len64_0_is] at hh
  subst hh
  kernel_rfl

theorem k_bits_Len64_0_n (fuel d : Nat) (x0 : Int) (x2 : Int) (h : AHeap) :
    k_bits_Len64_0 fuel d .normal [(0, (AVal.int .u64 x0)), (2, (AVal.int .i64 x2))] h =
  ((bif (decide ((65536 : Int) ≤ x0)) then (some (.normal, [(0, (AVal.int .u64 (Int.fdiv x0 (2 ^ min (Int.toNat (16 : Int)) (IntKind.bits .u64))))), (2, (AVal.int .i64 (IntKind.wrap .i64 (x2 + (16 : Int)))))], h)) else (some (.normal, [(0, (AVal.int .u64 x0)), (2, (AVal.int .i64 x2))], h)))).bind fun p1 =>
    k_bits_Len64_1 fuel d p1.1 p1.2.1 p1.2.2 := by
  generalize hh : k_bits_Len64_0 = R
  rw [k_bits_Len64_0_is] at hh
  subst hh
  generalize hh : k_bits_Len64_1 = R
  rw [k_bits_Len64_1_is] at hh
  subst hh
  kernel_rfl

theorem k_bits_Len64_1_n (fuel d : Nat) (x0 : Int) (x2 : Int) (h : AHeap) :
    k_bits_Len64_1 fuel d .normal [(0, (AVal.int .u64 x0)), (2, (AVal.int .i64 x2))] h =
  ((bif (decide ((256 : Int) ≤ x0)) then (some (.normal, [(0, (AVal.int .u64 (Int.fdiv x0 (2 ^ min (Int.toNat (8 : Int)) (IntKind.bits .u64))))), (2, (AVal.int .i64 (IntKind.wrap .i64 (x2 + (8 : Int)))))], h)) else (some (.normal, [(0, (AVal.int .u64 x0)), (2, (AVal.int .i64 x2))], h)))).bind fun p1 =>
    k_bits_Len64_2 fuel d p1.1 p1.2.1 p1.2.2 := by
  generalize hh : k_bits_Len64_1 = R
  rw [k_bits_Len64_1_is] at hh
  subst hh
  generalize hh : k_bits_Len64_2 = R
  rw [k_bits_Len64_2_is] at hh
  subst hh
  kernel_rfl

theorem k_bits_Len64_2_n (fuel d : Nat) (x0 : Int) (x2 : Int) (h : AHeap) :
    k_bits_Len64_2 fuel d .normal [(0, (AVal.int .u64 x0)), (2, (AVal.int .i64 x2))] h =
  (strAt bstr_633d862b (IntKind.wrap .u8 x0)).bind fun n1 =>
    some ((AVal.int .i64 (IntKind.wrap .i64 (x2 + (IntKind.wrap .i64 n1)))), h) := by
  generalize hh : k_bits_Len64_2 = R
  rw [k_bits_Len64_2_is] at hh
  subst hh
  kernel_rfl

theorem e_cmp_isNaN_int (fuel d : Nat) (x0 : Int) (h : AHeap) :
    brun fuel (d + 1) F_cmp_isNaN_int [(AVal.int .i64 x0)] h =
  some ((AVal.bool (!decide (x0 = x0))), h) := by
  generalize hh : brun = R
  rw [brun_is] at hh
  subst hh
  kernel_rfl

noncomputable def s_slices_siftDownCmpFunc_int_0 (fuel d : Nat) : Run := fun fr h k => aexec (Cf fuel F_slices_siftDownCmpFunc_int) false (acall (C fuel) false d) (acall (C fuel) true d) 82 (csub [true, false, false] (fbody Go.Proofs.Tryd.f102)) (asub [true, false, false] an102) fr h k

noncomputable def l_slices_siftDownCmpFunc_int_0r (fuel d : Nat) (n : Nat) (fr : Fr) (h : AHeap) : Option (AExit × Fr × AHeap) := aloop (s_slices_siftDownCmpFunc_int_0 fuel d) (some [0, 2, 3, 4, 10]) n fr h (kOut [])

noncomputable def l_slices_siftDownCmpFunc_int_0 : Nat → Nat → Nat → Fr → AHeap → Option (AExit × Fr × AHeap) := hide l_slices_siftDownCmpFunc_int_0r

theorem l_slices_siftDownCmpFunc_int_0_is : l_slices_siftDownCmpFunc_int_0 = l_slices_siftDownCmpFunc_int_0r := hide_eq _

noncomputable def k_slices_siftDownCmpFunc_int_0r (fuel d : Nat) : AExit → Fr → AHeap → Option (AVal × AHeap) := (kBlock 0 (kRet (Cf fuel F_slices_siftDownCmpFunc_int) Go.Proofs.Tryd.f102.results.toList))

noncomputable def k_slices_siftDownCmpFunc_int_0 : Nat → Nat → AExit → Fr → AHeap → Option (AVal × AHeap) := hide k_slices_siftDownCmpFunc_int_0r

theorem k_slices_siftDownCmpFunc_int_0_is : k_slices_siftDownCmpFunc_int_0 = k_slices_siftDownCmpFunc_int_0r := hide_eq _

noncomputable def k_slices_siftDownCmpFunc_int_1r (fuel d : Nat) (n : Nat) : AExit → Fr → AHeap → Option (AExit × Fr × AHeap) := (kSeq (Cf fuel F_slices_siftDownCmpFunc_int) false (acall (C fuel) false d) (acall (C fuel) true d) 82 (csub [true, false, false, false, true, true, false, true] (fbody Go.Proofs.Tryd.f102)) (asub [true, false, false, false, true, true, false, true] an102) (kSeq (Cf fuel F_slices_siftDownCmpFunc_int) false (acall (C fuel) false d) (acall (C fuel) true d) 82 (csub [true, false, false, false, true, true, true] (fbody Go.Proofs.Tryd.f102)) (asub [true, false, false, false, true, true, true] an102) (kBlock 1 (kLoop (s_slices_siftDownCmpFunc_int_0 fuel d) (some [0, 2, 3, 4, 10]) n (kOut [])))))

noncomputable def k_slices_siftDownCmpFunc_int_1 : Nat → Nat → Nat → AExit → Fr → AHeap → Option (AExit × Fr × AHeap) := hide k_slices_siftDownCmpFunc_int_1r

theorem k_slices_siftDownCmpFunc_int_1_is : k_slices_siftDownCmpFunc_int_1 = k_slices_siftDownCmpFunc_int_1r := hide_eq _

noncomputable def k_slices_siftDownCmpFunc_int_2r (fuel d : Nat) (n : Nat) : AExit → Fr → AHeap → Option (AExit × Fr × AHeap) := (kSeq (Cf fuel F_slices_siftDownCmpFunc_int) false (acall (C fuel) false d) (acall (C fuel) true d) 82 (csub [true, false, false, false, true, true, true] (fbody Go.Proofs.Tryd.f102)) (asub [true, false, false, false, true, true, true] an102) (kBlock 1 (kLoop (s_slices_siftDownCmpFunc_int_0 fuel d) (some [0, 2, 3, 4, 10]) n (kOut []))))

noncomputable def k_slices_siftDownCmpFunc_int_2 : Nat → Nat → Nat → AExit → Fr → AHeap → Option (AExit × Fr × AHeap) := hide k_slices_siftDownCmpFunc_int_2r

theorem k_slices_siftDownCmpFunc_int_2_is : k_slices_siftDownCmpFunc_int_2 = k_slices_siftDownCmpFunc_int_2r := hide_eq _

theorem e_slices_siftDownCmpFunc_int (fuel d : Nat) (x0 : Sl) (x1 : Int) (x2 : Int) (x3 : Int) (x4f : Nat) (x4c : List Pt) (h : AHeap) :
    run fuel (d + 1) F_slices_siftDownCmpFunc_int [(AVal.slice x0), (AVal.int .i64 x1), (AVal.int .i64 x2), (AVal.int .i64 x3), (AVal.func x4f x4c)] h =
  (l_slices_siftDownCmpFunc_int_0 fuel d fuel [(0, (AVal.slice x0)), (2, (AVal.int .i64 x2)), (3, (AVal.int .i64 x3)), (4, (AVal.func x4f x4c)), (10, (AVal.int .i64 x1))] h).bind fun p1 =>
    k_slices_siftDownCmpFunc_int_0 fuel d p1.1 p1.2.1 p1.2.2 := by
  generalize hh : run = R
  rw [run_is] at hh
  subst hh
  generalize hh : l_slices_siftDownCmpFunc_int_0 = R
  rw [l_slices_siftDownCmpFunc_int_0_is] at hh
  subst hh
  generalize hh : k_slices_siftDownCmpFunc_int_0 = R
  rw [k_slices_siftDownCmpFunc_int_0_is] at hh
  subst hh
  kernel_rfl

theorem l_slices_siftDownCmpFunc_int_0_eq (fuel d : Nat) (n : Nat) (x0 : Sl) (x2 : Int) (x3 : Int) (x4f : Nat) (x4c : List Pt) (x10 : Int) (h : AHeap) :
    l_slices_siftDownCmpFunc_int_0 fuel d (n + 1) [(0, (AVal.slice x0)), (2, (AVal.int .i64 x2)), (3, (AVal.int .i64 x3)), (4, (AVal.func x4f x4c)), (10, (AVal.int .i64 x10))] h =
  (bif (decide (x2 ≤ (IntKind.wrap .i64 ((IntKind.wrap .i64 ((2 : Int) * x10)) + (1 : Int))))) then (some ((.exit 0), [], h)) else (((bif (decide ((IntKind.wrap .i64 ((IntKind.wrap .i64 ((IntKind.wrap .i64 ((2 : Int) * x10)) + (1 : Int))) + (1 : Int))) < x2)) then ((AHeap.addr h 1 x0 (IntKind.wrap .i64 (x3 + (IntKind.wrap .i64 ((IntKind.wrap .i64 ((2 : Int) * x10)) + (1 : Int)))))).bind fun p1 =>
    (AHeap.cell h p1).bind fun u2 =>
    (AVal.int? .i64 u2).bind fun n3 =>
    (AHeap.addr h 1 x0 (IntKind.wrap .i64 ((IntKind.wrap .i64 (x3 + (IntKind.wrap .i64 ((IntKind.wrap .i64 ((2 : Int) * x10)) + (1 : Int))))) + (1 : Int)))).bind fun p4 =>
    (AHeap.cell h p4).bind fun u5 =>
    (AVal.int? .i64 u5).bind fun n6 =>
    (run fuel d x4f ([(AVal.int .i64 n3), (AVal.int .i64 n6)] ++ List.map AVal.ptr x4c) h).bind fun r7 =>
    (AVal.int? .i64 r7.1).bind fun n8 =>
    some (.normal, [(0, (AVal.slice x0)), (2, (AVal.int .i64 x2)), (3, (AVal.int .i64 x3)), (4, (AVal.func x4f x4c)), (10, (AVal.int .i64 x10)), (11, (AVal.int .i64 (IntKind.wrap .i64 ((IntKind.wrap .i64 ((2 : Int) * x10)) + (1 : Int))))), (40, (AVal.bool (decide (n8 < (0 : Int)))))], r7.2)) else (some (.normal, [(0, (AVal.slice x0)), (2, (AVal.int .i64 x2)), (3, (AVal.int .i64 x3)), (4, (AVal.func x4f x4c)), (10, (AVal.int .i64 x10)), (11, (AVal.int .i64 (IntKind.wrap .i64 ((IntKind.wrap .i64 ((2 : Int) * x10)) + (1 : Int))))), (40, (AVal.bool false))], h)))).bind fun p9 =>
    k_slices_siftDownCmpFunc_int_1 fuel d n p9.1 p9.2.1 p9.2.2)) := by
  generalize hh : run = R
  rw [run_is] at hh
  subst hh
  generalize hh : l_slices_siftDownCmpFunc_int_0 = R
  rw [l_slices_siftDownCmpFunc_int_0_is] at hh
  subst hh
  generalize hh : k_slices_siftDownCmpFunc_int_1 = R
  rw [k_slices_siftDownCmpFunc_int_1_is] at hh
  subst hh
  kernel_rfl

theorem k_slices_siftDownCmpFunc_int_0_x0 (fuel d : Nat)  (h : AHeap) :
    k_slices_siftDownCmpFunc_int_0 fuel d (.exit 0) [] h =
  some ((AVal.tup []), h) := by
  generalize hh : k_slices_siftDownCmpFunc_int_0 = R
  rw [k_slices_siftDownCmpFunc_int_0_is] at hh
  subst hh
  kernel_rfl

theorem k_slices_siftDownCmpFunc_int_0_r (fuel d : Nat)  (h : AHeap) :
    k_slices_siftDownCmpFunc_int_0 fuel d .ret [] h =
  some ((AVal.tup []), h) := by
  generalize hh : k_slices_siftDownCmpFunc_int_0 = R
  rw [k_slices_siftDownCmpFunc_int_0_is] at hh
  subst hh
  kernel_rfl

theorem k_slices_siftDownCmpFunc_int_1_n (fuel d : Nat) (n : Nat) (x0 : Sl) (x2 : Int) (x3 : Int) (x4f : Nat) (x4c : List Pt) (x10 : Int) (x11 : Int) (x40 : Bool) (h : AHeap) :
    k_slices_siftDownCmpFunc_int_1 fuel d n .normal [(0, (AVal.slice x0)), (2, (AVal.int .i64 x2)), (3, (AVal.int .i64 x3)), (4, (AVal.func x4f x4c)), (10, (AVal.int .i64 x10)), (11, (AVal.int .i64 x11)), (40, (AVal.bool x40))] h =
  ((bif x40 then (some (.normal, [(0, (AVal.slice x0)), (2, (AVal.int .i64 x2)), (3, (AVal.int .i64 x3)), (4, (AVal.func x4f x4c)), (10, (AVal.int .i64 x10)), (11, (AVal.int .i64 (IntKind.wrap .i64 (x11 + (1 : Int)))))], h)) else (some (.normal, [(0, (AVal.slice x0)), (2, (AVal.int .i64 x2)), (3, (AVal.int .i64 x3)), (4, (AVal.func x4f x4c)), (10, (AVal.int .i64 x10)), (11, (AVal.int .i64 x11))], h)))).bind fun p1 =>
    k_slices_siftDownCmpFunc_int_2 fuel d n p1.1 p1.2.1 p1.2.2 := by
  generalize hh : k_slices_siftDownCmpFunc_int_1 = R
  rw [k_slices_siftDownCmpFunc_int_1_is] at hh
  subst hh
  generalize hh : k_slices_siftDownCmpFunc_int_2 = R
  rw [k_slices_siftDownCmpFunc_int_2_is] at hh
  subst hh
  kernel_rfl

theorem k_slices_siftDownCmpFunc_int_2_n (fuel d : Nat) (n : Nat) (x0 : Sl) (x2 : Int) (x3 : Int) (x4f : Nat) (x4c : List Pt) (x10 : Int) (x11 : Int) (h : AHeap) :
    k_slices_siftDownCmpFunc_int_2 fuel d n .normal [(0, (AVal.slice x0)), (2, (AVal.int .i64 x2)), (3, (AVal.int .i64 x3)), (4, (AVal.func x4f x4c)), (10, (AVal.int .i64 x10)), (11, (AVal.int .i64 x11))] h =
  (AHeap.addr h 1 x0 (IntKind.wrap .i64 (x3 + x10))).bind fun p1 =>
    (AHeap.cell h p1).bind fun u2 =>
    (AVal.int? .i64 u2).bind fun n3 =>
    (AHeap.addr h 1 x0 (IntKind.wrap .i64 (x3 + x11))).bind fun p4 =>
    (AHeap.cell h p4).bind fun u5 =>
    (AVal.int? .i64 u5).bind fun n6 =>
    (run fuel d x4f ([(AVal.int .i64 n3), (AVal.int .i64 n6)] ++ List.map AVal.ptr x4c) h).bind fun r7 =>
    (AVal.int? .i64 r7.1).bind fun n8 =>
    (bif (!(decide (n8 < (0 : Int)))) then (some (.ret, [], r7.2)) else ((AHeap.addr r7.2 1 x0 (IntKind.wrap .i64 (x3 + x11))).bind fun p9 =>
    (AHeap.cell r7.2 p9).bind fun u10 =>
    (AVal.int? .i64 u10).bind fun n11 =>
    (AHeap.addr r7.2 1 x0 (IntKind.wrap .i64 (x3 + x10))).bind fun p12 =>
    (AHeap.cell r7.2 p12).bind fun u13 =>
    (AVal.int? .i64 u13).bind fun n14 =>
    (AHeap.addr r7.2 1 x0 (IntKind.wrap .i64 (x3 + x10))).bind fun p15 =>
    (AHeap.storeAt r7.2 [(AVal.int .i64 n11)] p15).bind fun h16 =>
    (AHeap.addr h16 1 x0 (IntKind.wrap .i64 (x3 + x11))).bind fun p17 =>
    (AHeap.storeAt h16 [(AVal.int .i64 n14)] p17).bind fun h18 =>
    l_slices_siftDownCmpFunc_int_0 fuel d n [(0, (AVal.slice x0)), (2, (AVal.int .i64 x2)), (3, (AVal.int .i64 x3)), (4, (AVal.func x4f x4c)), (10, (AVal.int .i64 x11))] h18)) := by
  generalize hh : run = R
  rw [run_is] at hh
  subst hh
  generalize hh : l_slices_siftDownCmpFunc_int_0 = R
  rw [l_slices_siftDownCmpFunc_int_0_is] at hh
  subst hh
  generalize hh : k_slices_siftDownCmpFunc_int_2 = R
  rw [k_slices_siftDownCmpFunc_int_2_is] at hh
  subst hh
  kernel_rfl

theorem e_slices_nextPowerOfTwo (fuel d : Nat) (x0 : Int) (h : AHeap) :
    brun fuel (d + 1) F_slices_nextPowerOfTwo [(AVal.int .i64 x0)] h =
  (run fuel d F_bits_Len [(AVal.int .u64 (IntKind.wrap .u64 x0))] h).bind fun r1 =>
    (AVal.int? .i64 r1.1).bind fun n2 =>
    (bif decide (n2 < 0) then (none) else (some ((AVal.int .u64 (IntKind.wrap .u64 ((1 : Int) * 2 ^ min (Int.toNat n2) (IntKind.bits .u64)))), r1.2))) := by
  generalize hh : run = R
  rw [run_is] at hh
  subst hh
  generalize hh : brun = R
  rw [brun_is] at hh
  subst hh
  kernel_rfl

theorem e_slices_xorshift_Next (fuel d : Nat) (x0 : Pt) (h : AHeap) :
    run fuel (d + 1) F_slices_xorshift_Next [(AVal.ptr x0)] h =
  (Pt.chk x0).bind fun p1 =>
    (AHeap.cell h p1).bind fun u2 =>
    (AVal.int? .u64 u2).bind fun n3 =>
    (Pt.chk x0).bind fun p4 =>
    (AHeap.cell h p4).bind fun u5 =>
    (AVal.int? .u64 u5).bind fun n6 =>
    (Pt.chk x0).bind fun p7 =>
    (AHeap.storeAt h [(AVal.int .u64 (bitsOp .xor .u64 n3 (IntKind.wrap .u64 (n6 * 2 ^ min (Int.toNat (13 : Int)) (IntKind.bits .u64)))))] p7).bind fun h8 =>
    (Pt.chk x0).bind fun p9 =>
    (AHeap.cell h8 p9).bind fun u10 =>
    (AVal.int? .u64 u10).bind fun n11 =>
    (Pt.chk x0).bind fun p12 =>
    (AHeap.cell h8 p12).bind fun u13 =>
    (AVal.int? .u64 u13).bind fun n14 =>
    (Pt.chk x0).bind fun p15 =>
    (AHeap.storeAt h8 [(AVal.int .u64 (bitsOp .xor .u64 n11 (Int.fdiv n14 (2 ^ min (Int.toNat (7 : Int)) (IntKind.bits .u64)))))] p15).bind fun h16 =>
    (Pt.chk x0).bind fun p17 =>
    (AHeap.cell h16 p17).bind fun u18 =>
    (AVal.int? .u64 u18).bind fun n19 =>
    (Pt.chk x0).bind fun p20 =>
    (AHeap.cell h16 p20).bind fun u21 =>
    (AVal.int? .u64 u21).bind fun n22 =>
    (Pt.chk x0).bind fun p23 =>
    (AHeap.storeAt h16 [(AVal.int .u64 (bitsOp .xor .u64 n19 (IntKind.wrap .u64 (n22 * 2 ^ min (Int.toNat (17 : Int)) (IntKind.bits .u64)))))] p23).bind fun h24 =>
    (Pt.chk x0).bind fun p25 =>
    (AHeap.cell h24 p25).bind fun u26 =>
    (AVal.int? .u64 u26).bind fun n27 =>
    some ((AVal.int .u64 n27), h24) := by
  generalize hh : run = R
  rw [run_is] at hh
  subst hh
  kernel_rfl

theorem e_slices_medianAdjacentCmpFunc_int (fuel d : Nat) (x0 : Sl) (x1 : Int) (x2 : Pt) (x3f : Nat) (x3c : List Pt) (h : AHeap) :
    run fuel (d + 1) F_slices_medianAdjacentCmpFunc_int [(AVal.slice x0), (AVal.int .i64 x1), (AVal.ptr x2), (AVal.func x3f x3c)] h =
  (run fuel d F_slices_medianCmpFunc_int [(AVal.slice x0), (AVal.int .i64 (IntKind.wrap .i64 (x1 - (1 : Int)))), (AVal.int .i64 x1), (AVal.int .i64 (IntKind.wrap .i64 (x1 + (1 : Int)))), (AVal.ptr x2), (AVal.func x3f x3c)] h).bind fun r1 =>
    (AVal.int? .i64 r1.1).bind fun n2 =>
    some ((AVal.int .i64 n2), r1.2) := by
  generalize hh : run = R
  rw [run_is] at hh
  subst hh
  kernel_rfl

theorem e_slices_medianCmpFunc_int (fuel d : Nat) (x0 : Sl) (x1 : Int) (x2 : Int) (x3 : Int) (x4 : Pt) (x5f : Nat) (x5c : List Pt) (h : AHeap) :
    run fuel (d + 1) F_slices_medianCmpFunc_int [(AVal.slice x0), (AVal.int .i64 x1), (AVal.int .i64 x2), (AVal.int .i64 x3), (AVal.ptr x4), (AVal.func x5f x5c)] h =
  (run fuel d F_slices_order2CmpFunc_int [(AVal.slice x0), (AVal.int .i64 x1), (AVal.int .i64 x2), (AVal.ptr x4), (AVal.func x5f x5c)] h).bind fun r1 =>
    (bif AVal.isTup 2 r1.1 then ((AVal.comp 0 r1.1).bind fun u2 =>
    (AVal.int? .i64 u2).bind fun n3 =>
    (AVal.comp 1 r1.1).bind fun u4 =>
    (AVal.int? .i64 u4).bind fun n5 =>
    (run fuel d F_slices_order2CmpFunc_int [(AVal.slice x0), (AVal.int .i64 n5), (AVal.int .i64 x3), (AVal.ptr x4), (AVal.func x5f x5c)] r1.2).bind fun r6 =>
    (bif AVal.isTup 2 r6.1 then ((AVal.comp 0 r6.1).bind fun u7 =>
    (AVal.int? .i64 u7).bind fun n8 =>
    (AVal.comp 1 r6.1).bind fun u9 =>
    (AVal.int? .i64 u9).bind fun n10 =>
    (run fuel d F_slices_order2CmpFunc_int [(AVal.slice x0), (AVal.int .i64 n3), (AVal.int .i64 n8), (AVal.ptr x4), (AVal.func x5f x5c)] r6.2).bind fun r11 =>
    (bif AVal.isTup 2 r11.1 then ((AVal.comp 0 r11.1).bind fun u12 =>
    (AVal.int? .i64 u12).bind fun n13 =>
    (AVal.comp 1 r11.1).bind fun u14 =>
    (AVal.int? .i64 u14).bind fun n15 =>
    some ((AVal.int .i64 n15), r11.2)) else none)) else none)) else none) := by
  generalize hh : run = R
  rw [run_is] at hh
  subst hh
  kernel_rfl

theorem e_slices_order2CmpFunc_int (fuel d : Nat) (x0 : Sl) (x1 : Int) (x2 : Int) (x3 : Pt) (x4f : Nat) (x4c : List Pt) (h : AHeap) :
    run fuel (d + 1) F_slices_order2CmpFunc_int [(AVal.slice x0), (AVal.int .i64 x1), (AVal.int .i64 x2), (AVal.ptr x3), (AVal.func x4f x4c)] h =
  (AHeap.addr h 1 x0 x2).bind fun p1 =>
    (AHeap.cell h p1).bind fun u2 =>
    (AVal.int? .i64 u2).bind fun n3 =>
    (AHeap.addr h 1 x0 x1).bind fun p4 =>
    (AHeap.cell h p4).bind fun u5 =>
    (AVal.int? .i64 u5).bind fun n6 =>
    (run fuel d x4f ([(AVal.int .i64 n3), (AVal.int .i64 n6)] ++ List.map AVal.ptr x4c) h).bind fun r7 =>
    (AVal.int? .i64 r7.1).bind fun n8 =>
    (bif (decide (n8 < (0 : Int))) then ((Pt.chk x3).bind fun p9 =>
    (AHeap.cell r7.2 p9).bind fun u10 =>
    (AVal.int? .i64 u10).bind fun n11 =>
    (Pt.chk x3).bind fun p12 =>
    (AHeap.storeAt r7.2 [(AVal.int .i64 (IntKind.wrap .i64 (n11 + (1 : Int))))] p12).bind fun h13 =>
    some ((AVal.tup [(AVal.int .i64 x2), (AVal.int .i64 x1)]), h13)) else (some ((AVal.tup [(AVal.int .i64 x1), (AVal.int .i64 x2)]), r7.2))) := by
  generalize hh : run = R
  rw [run_is] at hh
  subst hh
  kernel_rfl

end Go.Proofs.YtdmbfmgebgdfnaaDoor
