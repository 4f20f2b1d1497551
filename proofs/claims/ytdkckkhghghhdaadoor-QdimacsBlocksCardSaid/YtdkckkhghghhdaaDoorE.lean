/-
  What each function does: printed by program, checked by the kernel.
-/
import Derived.Test.YtdkckkhghghhdaaDoorCtx
namespace Go.Proofs.YtdkckkhghghhdaaDoor
set_option linter.unusedVariables false
set_option maxRecDepth 100000

noncomputable def s_skolemlaw5_QdimacsBlocks_0 (fuel d : Nat) : Run := fun fr h k => aexec (Cf fuel F_skolemlaw5_QdimacsBlocks) false (acall (C fuel) false d) (acall (C fuel) true d) 193 (csub [true, true, true, true, true, true, false, true, false, false] (fbody Go.Proofs.Tryd.f11)) (asub [true, true, true, true, true, true, false, true, false, false] an11) fr h k

noncomputable def l_skolemlaw5_QdimacsBlocks_0r (fuel d : Nat) (n : Nat) (fr : Fr) (h : AHeap) : Option (AExit × Fr × AHeap) := aloop (s_skolemlaw5_QdimacsBlocks_0 fuel d) (some [0, 1, 2, 7, 8, 9, 10]) n fr h (kOut [2, 7, 8, 9])

noncomputable def l_skolemlaw5_QdimacsBlocks_0 : Nat → Nat → Nat → Fr → AHeap → Option (AExit × Fr × AHeap) := hide l_skolemlaw5_QdimacsBlocks_0r

theorem l_skolemlaw5_QdimacsBlocks_0_is : l_skolemlaw5_QdimacsBlocks_0 = l_skolemlaw5_QdimacsBlocks_0r := hide_eq _

noncomputable def k_skolemlaw5_QdimacsBlocks_0r (fuel d : Nat) : AExit → Fr → AHeap → Option (AVal × AHeap) := (kBlock 0 (kSeq (Cf fuel F_skolemlaw5_QdimacsBlocks) false (acall (C fuel) false d) (acall (C fuel) true d) 193 (csub [true, true, true, true, true, true, true] (fbody Go.Proofs.Tryd.f11)) (asub [true, true, true, true, true, true, true] an11) (kRet (Cf fuel F_skolemlaw5_QdimacsBlocks) Go.Proofs.Tryd.f11.results.toList)))

noncomputable def k_skolemlaw5_QdimacsBlocks_0 : Nat → Nat → AExit → Fr → AHeap → Option (AVal × AHeap) := hide k_skolemlaw5_QdimacsBlocks_0r

theorem k_skolemlaw5_QdimacsBlocks_0_is : k_skolemlaw5_QdimacsBlocks_0 = k_skolemlaw5_QdimacsBlocks_0r := hide_eq _

noncomputable def s_skolemlaw5_QdimacsBlocks_1 (fuel d : Nat) : Run := fun fr h k => aexec (Cf fuel F_skolemlaw5_QdimacsBlocks) false (acall (C fuel) false d) (acall (C fuel) true d) 193 (csub [true, true, true, true, true, true, false, true, false, false, true, false, false, true, false, true, false, false] (fbody Go.Proofs.Tryd.f11)) (asub [true, true, true, true, true, true, false, true, false, false, true, false, false, true, false, true, false, false] an11) fr h k

noncomputable def l_skolemlaw5_QdimacsBlocks_1r (fuel d : Nat) (n : Nat) (fr : Fr) (h : AHeap) : Option (AExit × Fr × AHeap) := aloop (s_skolemlaw5_QdimacsBlocks_1 fuel d) (some [0, 1, 2, 7, 8, 9, 10, 11, 12]) n fr h (kOut [0, 1, 2, 7, 8, 9, 10, 11])

noncomputable def l_skolemlaw5_QdimacsBlocks_1 : Nat → Nat → Nat → Fr → AHeap → Option (AExit × Fr × AHeap) := hide l_skolemlaw5_QdimacsBlocks_1r

theorem l_skolemlaw5_QdimacsBlocks_1_is : l_skolemlaw5_QdimacsBlocks_1 = l_skolemlaw5_QdimacsBlocks_1r := hide_eq _

noncomputable def k_skolemlaw5_QdimacsBlocks_1r (fuel d : Nat) (n : Nat) : AExit → Fr → AHeap → Option (AExit × Fr × AHeap) := (kBlock 2 (kSeq (Cf fuel F_skolemlaw5_QdimacsBlocks) false (acall (C fuel) false d) (acall (C fuel) true d) 193 (csub [true, true, true, true, true, true, false, true, false, false, true, false, false, true, true] (fbody Go.Proofs.Tryd.f11)) (asub [true, true, true, true, true, true, false, true, false, false, true, false, false, true, true] an11) (kBlock 1 (kSeq (Cf fuel F_skolemlaw5_QdimacsBlocks) false (acall (C fuel) false d) (acall (C fuel) true d) 193 (csub [true, true, true, true, true, true, false, true, false, false, true, true] (fbody Go.Proofs.Tryd.f11)) (asub [true, true, true, true, true, true, false, true, false, false, true, true] an11) (kLoop (s_skolemlaw5_QdimacsBlocks_0 fuel d) (some [0, 1, 2, 7, 8, 9, 10]) n (kOut [2, 7, 8, 9]))))))

noncomputable def k_skolemlaw5_QdimacsBlocks_1 : Nat → Nat → Nat → AExit → Fr → AHeap → Option (AExit × Fr × AHeap) := hide k_skolemlaw5_QdimacsBlocks_1r

theorem k_skolemlaw5_QdimacsBlocks_1_is : k_skolemlaw5_QdimacsBlocks_1 = k_skolemlaw5_QdimacsBlocks_1r := hide_eq _

noncomputable def s_skolemlaw5_QdimacsBlocks_2 (fuel d : Nat) : Run := fun fr h k => aexec (Cf fuel F_skolemlaw5_QdimacsBlocks) false (acall (C fuel) false d) (acall (C fuel) true d) 193 (csub [true, true, true, true, true, true, true, true, false, true, false, false] (fbody Go.Proofs.Tryd.f11)) (asub [true, true, true, true, true, true, true, true, false, true, false, false] an11) fr h k

noncomputable def l_skolemlaw5_QdimacsBlocks_2r (fuel d : Nat) (n : Nat) (fr : Fr) (h : AHeap) : Option (AExit × Fr × AHeap) := aloop (s_skolemlaw5_QdimacsBlocks_2 fuel d) (some [2, 7, 8, 9, 13, 14]) n fr h (kOut [7, 8, 9, 13])

noncomputable def l_skolemlaw5_QdimacsBlocks_2 : Nat → Nat → Nat → Fr → AHeap → Option (AExit × Fr × AHeap) := hide l_skolemlaw5_QdimacsBlocks_2r

theorem l_skolemlaw5_QdimacsBlocks_2_is : l_skolemlaw5_QdimacsBlocks_2 = l_skolemlaw5_QdimacsBlocks_2r := hide_eq _

noncomputable def k_skolemlaw5_QdimacsBlocks_2r (fuel d : Nat) : AExit → Fr → AHeap → Option (AVal × AHeap) := (kBlock 4 (kSeq (Cf fuel F_skolemlaw5_QdimacsBlocks) false (acall (C fuel) false d) (acall (C fuel) true d) 193 (csub [true, true, true, true, true, true, true, true, true] (fbody Go.Proofs.Tryd.f11)) (asub [true, true, true, true, true, true, true, true, true] an11) (kRet (Cf fuel F_skolemlaw5_QdimacsBlocks) Go.Proofs.Tryd.f11.results.toList)))

noncomputable def k_skolemlaw5_QdimacsBlocks_2 : Nat → Nat → AExit → Fr → AHeap → Option (AVal × AHeap) := hide k_skolemlaw5_QdimacsBlocks_2r

theorem k_skolemlaw5_QdimacsBlocks_2_is : k_skolemlaw5_QdimacsBlocks_2 = k_skolemlaw5_QdimacsBlocks_2r := hide_eq _

noncomputable def s_skolemlaw5_QdimacsBlocks_3 (fuel d : Nat) : Run := fun fr h k => aexec (Cf fuel F_skolemlaw5_QdimacsBlocks) false (acall (C fuel) false d) (acall (C fuel) true d) 193 (csub [true, true, true, true, true, true, true, true, false, true, false, false, true, false, false, true, false, true, false, false] (fbody Go.Proofs.Tryd.f11)) (asub [true, true, true, true, true, true, true, true, false, true, false, false, true, false, false, true, false, true, false, false] an11) fr h k

noncomputable def l_skolemlaw5_QdimacsBlocks_3r (fuel d : Nat) (n : Nat) (fr : Fr) (h : AHeap) : Option (AExit × Fr × AHeap) := aloop (s_skolemlaw5_QdimacsBlocks_3 fuel d) (some [2, 7, 8, 9, 13, 14, 15]) n fr h (kOut [2, 7, 8, 9, 13, 14])

noncomputable def l_skolemlaw5_QdimacsBlocks_3 : Nat → Nat → Nat → Fr → AHeap → Option (AExit × Fr × AHeap) := hide l_skolemlaw5_QdimacsBlocks_3r

theorem l_skolemlaw5_QdimacsBlocks_3_is : l_skolemlaw5_QdimacsBlocks_3 = l_skolemlaw5_QdimacsBlocks_3r := hide_eq _

noncomputable def k_skolemlaw5_QdimacsBlocks_3r (fuel d : Nat) (n : Nat) : AExit → Fr → AHeap → Option (AExit × Fr × AHeap) := (kBlock 6 (kSeq (Cf fuel F_skolemlaw5_QdimacsBlocks) false (acall (C fuel) false d) (acall (C fuel) true d) 193 (csub [true, true, true, true, true, true, true, true, false, true, false, false, true, false, false, true, true] (fbody Go.Proofs.Tryd.f11)) (asub [true, true, true, true, true, true, true, true, false, true, false, false, true, false, false, true, true] an11) (kBlock 5 (kSeq (Cf fuel F_skolemlaw5_QdimacsBlocks) false (acall (C fuel) false d) (acall (C fuel) true d) 193 (csub [true, true, true, true, true, true, true, true, false, true, false, false, true, true] (fbody Go.Proofs.Tryd.f11)) (asub [true, true, true, true, true, true, true, true, false, true, false, false, true, true] an11) (kLoop (s_skolemlaw5_QdimacsBlocks_2 fuel d) (some [2, 7, 8, 9, 13, 14]) n (kOut [7, 8, 9, 13]))))))

noncomputable def k_skolemlaw5_QdimacsBlocks_3 : Nat → Nat → Nat → AExit → Fr → AHeap → Option (AExit × Fr × AHeap) := hide k_skolemlaw5_QdimacsBlocks_3r

theorem k_skolemlaw5_QdimacsBlocks_3_is : k_skolemlaw5_QdimacsBlocks_3 = k_skolemlaw5_QdimacsBlocks_3r := hide_eq _

noncomputable def k_skolemlaw5_QdimacsBlocks_4r (fuel d : Nat) (n : Nat) : AExit → Fr → AHeap → Option (AExit × Fr × AHeap) := (kSeq (Cf fuel F_skolemlaw5_QdimacsBlocks) false (acall (C fuel) false d) (acall (C fuel) true d) 193 (csub [true, true, true, true, true, true, true, true, false, true, false, false, true, false, false, true, false, true, false, false, true, false, false, true, true, true] (fbody Go.Proofs.Tryd.f11)) (asub [true, true, true, true, true, true, true, true, false, true, false, false, true, false, false, true, false, true, false, false, true, false, false, true, true, true] an11) (kBlock 7 (kSeq (Cf fuel F_skolemlaw5_QdimacsBlocks) false (acall (C fuel) false d) (acall (C fuel) true d) 193 (csub [true, true, true, true, true, true, true, true, false, true, false, false, true, false, false, true, false, true, false, false, true, true] (fbody Go.Proofs.Tryd.f11)) (asub [true, true, true, true, true, true, true, true, false, true, false, false, true, false, false, true, false, true, false, false, true, true] an11) (kLoop (s_skolemlaw5_QdimacsBlocks_3 fuel d) (some [2, 7, 8, 9, 13, 14, 15]) n (kOut [2, 7, 8, 9, 13, 14])))))

noncomputable def k_skolemlaw5_QdimacsBlocks_4 : Nat → Nat → Nat → AExit → Fr → AHeap → Option (AExit × Fr × AHeap) := hide k_skolemlaw5_QdimacsBlocks_4r

theorem k_skolemlaw5_QdimacsBlocks_4_is : k_skolemlaw5_QdimacsBlocks_4 = k_skolemlaw5_QdimacsBlocks_4r := hide_eq _

theorem e_skolemlaw5_QdimacsBlocks (fuel d : Nat) (x0 : Sl) (x1 : Sl) (x2 : Int) (h : AHeap) :
    run fuel (d + 1) F_skolemlaw5_QdimacsBlocks [(AVal.slice x0), (AVal.slice x1), (AVal.int .i64 x2)] h =
  (run fuel d F_skolemlaw5_first [] h).bind fun r1 =>
    (AVal.bool? r1.1).bind fun b2 =>
    (bif (!b2) then (some ((AVal.bool false), r1.2)) else ((bif (bif (bif (decide (((x0.len : Nat) : Int) = (0 : Int))) then true else (decide ((8 : Int) < ((x0.len : Nat) : Int)))) then true else (decide (((x1.len : Nat) : Int) < ((x0.len : Nat) : Int)))) then (some ((AVal.bool b2), r1.2)) else ((AHeap.storeAt (AHeap.push r1.2 1 [(AVal.slice Sl.nil), (AVal.int .i64 (0 : Int)), (AVal.slice Sl.nil)]) [(AVal.slice Sl.nil), (AVal.int .i64 (12 : Int)), (AVal.slice Sl.nil)] (Pt.mk ⟨AHeap.next r1.2, 0, 0⟩ 3)).bind fun h3 =>
    (l_skolemlaw5_QdimacsBlocks_0 fuel d fuel [(0, (AVal.slice x0)), (1, (AVal.slice x1)), (2, (AVal.int .i64 x2)), (7, (AVal.bool b2)), (8, (AVal.ptr (Pt.mk ⟨AHeap.next r1.2, 0, 0⟩ 3))), (9, (AVal.int .i64 (1 : Int))), (10, (AVal.int .i64 (0 : Int)))] h3).bind fun p4 =>
    k_skolemlaw5_QdimacsBlocks_0 fuel d p4.1 p4.2.1 p4.2.2)))) := by
  generalize hh : run = R
  rw [run_is] at hh
  subst hh
  generalize hh : l_skolemlaw5_QdimacsBlocks_0 = R
  rw [l_skolemlaw5_QdimacsBlocks_0_is] at hh
  subst hh
  generalize hh : k_skolemlaw5_QdimacsBlocks_0 = R
  rw [k_skolemlaw5_QdimacsBlocks_0_is] at hh
  subst hh
  kernel_rfl

theorem l_skolemlaw5_QdimacsBlocks_0_eq (fuel d : Nat) (n : Nat) (x0 : Sl) (x1 : Sl) (x2 : Int) (x7 : Bool) (x8 : Pt) (x9 : Int) (x10 : Int) (h : AHeap) :
    l_skolemlaw5_QdimacsBlocks_0 fuel d (n + 1) [(0, (AVal.slice x0)), (1, (AVal.slice x1)), (2, (AVal.int .i64 x2)), (7, (AVal.bool x7)), (8, (AVal.ptr x8)), (9, (AVal.int .i64 x9)), (10, (AVal.int .i64 x10))] h =
  (bif (decide (x10 < ((x0.len : Nat) : Int))) then ((AHeap.addr h 1 x0 x10).bind fun p1 =>
    (AHeap.cell h p1).bind fun u2 =>
    (AVal.bool? u2).bind fun b3 =>
    (AHeap.storeAt (AHeap.push h 1 [(AVal.bool false), (AVal.slice Sl.nil)]) [(AVal.bool b3), (AVal.slice Sl.nil)] (Pt.mk ⟨AHeap.next h, 0, 0⟩ 2)).bind fun h4 =>
    (AHeap.addr h4 1 x1 x10).bind fun p5 =>
    (AHeap.cell h4 p5).bind fun u6 =>
    (AVal.int? .i64 u6).bind fun n7 =>
    (run fuel d F_skolemworld_Number [(AVal.int .i64 n7), (AVal.int .i64 (4 : Int))] h4).bind fun r8 =>
    (AVal.int? .i64 r8.1).bind fun n9 =>
    (l_skolemlaw5_QdimacsBlocks_1 fuel d fuel [(0, (AVal.slice x0)), (1, (AVal.slice x1)), (2, (AVal.int .i64 x2)), (7, (AVal.bool x7)), (8, (AVal.ptr x8)), (9, (AVal.int .i64 x9)), (10, (AVal.int .i64 x10)), (11, (AVal.ptr (Pt.mk ⟨AHeap.next h, 0, 0⟩ 2))), (12, (AVal.int .i64 n9))] r8.2).bind fun p10 =>
    k_skolemlaw5_QdimacsBlocks_1 fuel d n p10.1 p10.2.1 p10.2.2) else (some ((.exit 0), [(2, (AVal.int .i64 x2)), (7, (AVal.bool x7)), (8, (AVal.ptr x8)), (9, (AVal.int .i64 x9))], h))) := by
  generalize hh : run = R
  rw [run_is] at hh
  subst hh
  generalize hh : l_skolemlaw5_QdimacsBlocks_0 = R
  rw [l_skolemlaw5_QdimacsBlocks_0_is] at hh
  subst hh
  generalize hh : l_skolemlaw5_QdimacsBlocks_1 = R
  rw [l_skolemlaw5_QdimacsBlocks_1_is] at hh
  subst hh
  generalize hh : k_skolemlaw5_QdimacsBlocks_1 = R
  rw [k_skolemlaw5_QdimacsBlocks_1_is] at hh
  subst hh
  kernel_rfl

theorem k_skolemlaw5_QdimacsBlocks_0_x0 (fuel d : Nat) (x2 : Int) (x7 : Bool) (x8 : Pt) (x9 : Int) (h : AHeap) :
    k_skolemlaw5_QdimacsBlocks_0 fuel d (.exit 0) [(2, (AVal.int .i64 x2)), (7, (AVal.bool x7)), (8, (AVal.ptr x8)), (9, (AVal.int .i64 x9))] h =
  (bif (AHeap.ownAt (AHeap.push h 1 [(AVal.int .u8 (112 : Int)), (AVal.int .u8 (32 : Int)), (AVal.int .u8 (99 : Int)), (AVal.int .u8 (110 : Int)), (AVal.int .u8 (102 : Int)), (AVal.int .u8 (32 : Int)), (AVal.int .u8 (49 : Int)), (AVal.int .u8 (50 : Int)), (AVal.int .u8 (32 : Int)), (AVal.int .u8 (48 : Int)), (AVal.int .u8 (10 : Int))]) (AHeap.next h)) then ((l_skolemlaw5_QdimacsBlocks_2 fuel d fuel [(2, (AVal.int .i64 x2)), (7, (AVal.bool x7)), (8, (AVal.ptr x8)), (9, (AVal.int .i64 x9)), (13, (AVal.slice (Sl.mk ⟨AHeap.next h, 0, 0⟩ 11 true))), (14, (AVal.int .i64 (0 : Int)))] (AHeap.push h 1 [(AVal.int .u8 (112 : Int)), (AVal.int .u8 (32 : Int)), (AVal.int .u8 (99 : Int)), (AVal.int .u8 (110 : Int)), (AVal.int .u8 (102 : Int)), (AVal.int .u8 (32 : Int)), (AVal.int .u8 (49 : Int)), (AVal.int .u8 (50 : Int)), (AVal.int .u8 (32 : Int)), (AVal.int .u8 (48 : Int)), (AVal.int .u8 (10 : Int))])).bind fun p1 =>
    k_skolemlaw5_QdimacsBlocks_2 fuel d p1.1 p1.2.1 p1.2.2) else (none)) := by
  generalize hh : k_skolemlaw5_QdimacsBlocks_0 = R
  rw [k_skolemlaw5_QdimacsBlocks_0_is] at hh
  subst hh
  generalize hh : l_skolemlaw5_QdimacsBlocks_2 = R
  rw [l_skolemlaw5_QdimacsBlocks_2_is] at hh
  subst hh
  generalize hh : k_skolemlaw5_QdimacsBlocks_2 = R
  rw [k_skolemlaw5_QdimacsBlocks_2_is] at hh
  subst hh
  kernel_rfl

theorem l_skolemlaw5_QdimacsBlocks_1_eq (fuel d : Nat) (n : Nat) (x0 : Sl) (x1 : Sl) (x2 : Int) (x7 : Bool) (x8 : Pt) (x9 : Int) (x10 : Int) (x11 : Pt) (x12 : Int) (h : AHeap) :
    l_skolemlaw5_QdimacsBlocks_1 fuel d (n + 1) [(0, (AVal.slice x0)), (1, (AVal.slice x1)), (2, (AVal.int .i64 x2)), (7, (AVal.bool x7)), (8, (AVal.ptr x8)), (9, (AVal.int .i64 x9)), (10, (AVal.int .i64 x10)), (11, (AVal.ptr x11)), (12, (AVal.int .i64 x12))] h =
  (bif (bif (decide ((0 : Int) < x12)) then (decide (x9 ≤ (12 : Int))) else false) then ((Pt.field 1 x11).bind fun p1 =>
    (AHeap.cell h p1).bind fun u2 =>
    (AVal.slice? u2).bind fun s3 =>
    (AHeap.append h false 1 8 s3 1 [(AVal.int .i64 x9)]).bind fun a4 =>
    (Pt.field 1 x11).bind fun p5 =>
    (AHeap.storeAt a4.2 [(AVal.slice a4.1)] p5).bind fun h6 =>
    l_skolemlaw5_QdimacsBlocks_1 fuel d n [(0, (AVal.slice x0)), (1, (AVal.slice x1)), (2, (AVal.int .i64 x2)), (7, (AVal.bool x7)), (8, (AVal.ptr x8)), (9, (AVal.int .i64 (IntKind.wrap .i64 (x9 + (1 : Int))))), (10, (AVal.int .i64 x10)), (11, (AVal.ptr x11)), (12, (AVal.int .i64 (IntKind.wrap .i64 (x12 - (1 : Int)))))] h6) else (some ((.exit 2), [(0, (AVal.slice x0)), (1, (AVal.slice x1)), (2, (AVal.int .i64 x2)), (7, (AVal.bool x7)), (8, (AVal.ptr x8)), (9, (AVal.int .i64 x9)), (10, (AVal.int .i64 x10)), (11, (AVal.ptr x11))], h))) := by
  generalize hh : l_skolemlaw5_QdimacsBlocks_1 = R
  rw [l_skolemlaw5_QdimacsBlocks_1_is] at hh
  subst hh
  kernel_rfl

theorem k_skolemlaw5_QdimacsBlocks_1_x2 (fuel d : Nat) (n : Nat) (x0 : Sl) (x1 : Sl) (x2 : Int) (x7 : Bool) (x8 : Pt) (x9 : Int) (x10 : Int) (x11 : Pt) (h : AHeap) :
    k_skolemlaw5_QdimacsBlocks_1 fuel d n (.exit 2) [(0, (AVal.slice x0)), (1, (AVal.slice x1)), (2, (AVal.int .i64 x2)), (7, (AVal.bool x7)), (8, (AVal.ptr x8)), (9, (AVal.int .i64 x9)), (10, (AVal.int .i64 x10)), (11, (AVal.ptr x11))] h =
  (Pt.field 0 x8).bind fun p1 =>
    (AHeap.cell h p1).bind fun u2 =>
    (AVal.slice? u2).bind fun s3 =>
    (AHeap.cellsAt h 2 x11).bind fun c4 =>
    ((bif (Nat.beq (List.length c4) 2 && Nat.ble (0 + 2) (List.length [(AVal.bool false), (AVal.slice Sl.nil)]) && List.all c4 AVal.isCell) then ((some (AHeap.overlay [(AVal.bool false), (AVal.slice Sl.nil)] 0 c4))) else (none))).bind fun c5 =>
    (AHeap.sliceCells h 2 (Sl.lst 1 true c5)).bind fun xs6 =>
    (AHeap.append (AHeap.fixL h xs6).2 false 2 32 s3 (Sl.lst 1 true c5).len (AHeap.fixL h xs6).1).bind fun a7 =>
    (Pt.field 0 x8).bind fun p8 =>
    (AHeap.storeAt a7.2 [(AVal.slice a7.1)] p8).bind fun h9 =>
    l_skolemlaw5_QdimacsBlocks_0 fuel d n [(0, (AVal.slice x0)), (1, (AVal.slice x1)), (2, (AVal.int .i64 x2)), (7, (AVal.bool x7)), (8, (AVal.ptr x8)), (9, (AVal.int .i64 x9)), (10, (AVal.int .i64 (IntKind.wrap .i64 (x10 + (1 : Int)))))] h9 := by
  generalize hh : l_skolemlaw5_QdimacsBlocks_0 = R
  rw [l_skolemlaw5_QdimacsBlocks_0_is] at hh
  subst hh
  generalize hh : k_skolemlaw5_QdimacsBlocks_1 = R
  rw [k_skolemlaw5_QdimacsBlocks_1_is] at hh
  subst hh
  kernel_rfl

theorem l_skolemlaw5_QdimacsBlocks_2_eq (fuel d : Nat) (n : Nat) (x2 : Int) (x7 : Bool) (x8 : Pt) (x9 : Int) (x13 : Sl) (x14 : Int) (h : AHeap) :
    l_skolemlaw5_QdimacsBlocks_2 fuel d (n + 1) [(2, (AVal.int .i64 x2)), (7, (AVal.bool x7)), (8, (AVal.ptr x8)), (9, (AVal.int .i64 x9)), (13, (AVal.slice x13)), (14, (AVal.int .i64 x14))] h =
  (Pt.field 0 x8).bind fun p1 =>
    (AHeap.cell h p1).bind fun u2 =>
    (AVal.slice? u2).bind fun s3 =>
    (bif (decide (x14 < ((s3.len : Nat) : Int))) then ((Pt.field 0 x8).bind fun p4 =>
    (AHeap.cell h p4).bind fun u5 =>
    (AVal.slice? u5).bind fun s6 =>
    (AHeap.addr h 2 s6 x14).bind fun p7 =>
    (Pt.field 0 p7).bind fun p8 =>
    (AHeap.cell h p8).bind fun u9 =>
    (AVal.bool? u9).bind fun b10 =>
    (bif b10 then ((AHeap.append h false 1 1 x13 (ByteArray.size (⟨#[101]⟩ : ByteArray)) (bytesOf (⟨#[101]⟩ : ByteArray))).bind fun a11 =>
    (l_skolemlaw5_QdimacsBlocks_3 fuel d fuel [(2, (AVal.int .i64 x2)), (7, (AVal.bool x7)), (8, (AVal.ptr x8)), (9, (AVal.int .i64 x9)), (13, (AVal.slice a11.1)), (14, (AVal.int .i64 x14)), (15, (AVal.int .i64 (0 : Int)))] a11.2).bind fun p12 =>
    k_skolemlaw5_QdimacsBlocks_3 fuel d n p12.1 p12.2.1 p12.2.2) else ((AHeap.append h false 1 1 x13 (ByteArray.size (⟨#[97]⟩ : ByteArray)) (bytesOf (⟨#[97]⟩ : ByteArray))).bind fun a13 =>
    (l_skolemlaw5_QdimacsBlocks_3 fuel d fuel [(2, (AVal.int .i64 x2)), (7, (AVal.bool x7)), (8, (AVal.ptr x8)), (9, (AVal.int .i64 x9)), (13, (AVal.slice a13.1)), (14, (AVal.int .i64 x14)), (15, (AVal.int .i64 (0 : Int)))] a13.2).bind fun p14 =>
    k_skolemlaw5_QdimacsBlocks_3 fuel d n p14.1 p14.2.1 p14.2.2))) else (some ((.exit 4), [(7, (AVal.bool x7)), (8, (AVal.ptr x8)), (9, (AVal.int .i64 x9)), (13, (AVal.slice x13))], h))) := by
  generalize hh : l_skolemlaw5_QdimacsBlocks_2 = R
  rw [l_skolemlaw5_QdimacsBlocks_2_is] at hh
  subst hh
  generalize hh : l_skolemlaw5_QdimacsBlocks_3 = R
  rw [l_skolemlaw5_QdimacsBlocks_3_is] at hh
  subst hh
  generalize hh : k_skolemlaw5_QdimacsBlocks_3 = R
  rw [k_skolemlaw5_QdimacsBlocks_3_is] at hh
  subst hh
  kernel_rfl

theorem k_skolemlaw5_QdimacsBlocks_2_x4 (fuel d : Nat) (x7 : Bool) (x8 : Pt) (x9 : Int) (x13 : Sl) (h : AHeap) :
    k_skolemlaw5_QdimacsBlocks_2 fuel d (.exit 4) [(7, (AVal.bool x7)), (8, (AVal.ptr x8)), (9, (AVal.int .i64 x9)), (13, (AVal.slice x13))] h =
  (run fuel d F_qdimacs_Read [(AVal.slice x13)] h).bind fun r1 =>
    (bif AVal.isTup 2 r1.1 then ((AVal.comp 0 r1.1).bind fun u2 =>
    (AVal.agg? u2).bind fun c3 =>
    (AVal.comp 1 r1.1).bind fun u4 =>
    (bif (!false && Nat.beq (List.length c3) 3 && List.all c3 AVal.isCell) then ((AHeap.storeAt (AHeap.push r1.2 1 [(AVal.slice Sl.nil), (AVal.int .i64 (0 : Int)), (AVal.slice Sl.nil)]) c3 (Pt.mk ⟨AHeap.next r1.2, 0, 0⟩ 3)).bind fun h5 =>
    (run fuel d F_skolemref_Bytes [(AVal.slice x13)] h5).bind fun r6 =>
    (AVal.slice? r6.1).bind fun s7 =>
    (AHeap.append r6.2 false 1 1 s7 (ByteArray.size (⟨#[101, 32, 49, 51, 32, 48]⟩ : ByteArray)) (bytesOf (⟨#[101, 32, 49, 51, 32, 48]⟩ : ByteArray))).bind fun a8 =>
    (run fuel d F_qdimacs_Read [(AVal.slice a8.1)] a8.2).bind fun r9 =>
    (bif AVal.isTup 2 r9.1 then ((AVal.comp 0 r9.1).bind fun u10 =>
    (AVal.agg? u10).bind fun c11 =>
    (AVal.comp 1 r9.1).bind fun u12 =>
    (bif (!false && Nat.beq (List.length c11) 3 && List.all c11 AVal.isCell) then ((AHeap.storeAt (AHeap.push r9.2 1 [(AVal.slice Sl.nil), (AVal.int .i64 (0 : Int)), (AVal.slice Sl.nil)]) c11 (Pt.mk ⟨AHeap.next r9.2, 0, 0⟩ 3)).bind fun h13 =>
    (nilTest .iface u4).bind fun b14 =>
    ((bif ((!b14) == false) then ((AHeap.cellsAt h13 3 (Pt.mk ⟨AHeap.next r1.2, 0, 0⟩ 3)).bind fun c15 =>
    (AHeap.cellsAt h13 3 x8).bind fun c16 =>
    (run fuel d F_skolemref_SameFormula [(AVal.agg c15), (AVal.agg c16)] h13).bind fun r17 =>
    (AVal.bool? r17.1).bind fun b18 =>
    some ((AVal.bool (!b18)), r17.2)) else (some ((AVal.bool true), h13)) : Option (AVal × AHeap))).bind fun r19 =>
    (AVal.bool? r19.1).bind fun b20 =>
    ((bif (b20 == false) then ((run fuel d F_skolemref_Placed [(AVal.int .i64 (101 : Int)), (AVal.int .i64 (IntKind.wrap .i64 (((x13.len : Nat) : Int) + (2 : Int))))] r19.2).bind fun r21 =>
    (AVal.agg? r21.1).bind fun c22 =>
    (run fuel d F_skolemsee_Same [u12, (AVal.agg c22)] r21.2).bind fun r23 =>
    (AVal.bool? r23.1).bind fun b24 =>
    some ((AVal.bool (!b24)), r23.2)) else (some ((AVal.bool true), r19.2)) : Option (AVal × AHeap))).bind fun r25 =>
    (AVal.bool? r25.1).bind fun b26 =>
    (bif b26 then (some ((AVal.bool false), r25.2)) else ((bif (decide (x9 = (1 : Int))) then (some ((AVal.bool x7), r25.2)) else ((run fuel d F_skolemref_Bytes [(AVal.slice x13)] r25.2).bind fun r27 =>
    (AVal.slice? r27.1).bind fun s28 =>
    (AHeap.append r27.2 false 1 1 s28 (ByteArray.size (⟨#[97, 32, 49, 32, 48]⟩ : ByteArray)) (bytesOf (⟨#[97, 32, 49, 32, 48]⟩ : ByteArray))).bind fun a29 =>
    (run fuel d F_qdimacs_Read [(AVal.slice a29.1)] a29.2).bind fun r30 =>
    (bif AVal.isTup 2 r30.1 then ((AVal.comp 0 r30.1).bind fun u31 =>
    (AVal.agg? u31).bind fun c32 =>
    (AVal.comp 1 r30.1).bind fun u33 =>
    (bif (!false && Nat.beq (List.length c32) 3 && List.all c32 AVal.isCell) then ((AHeap.storeAt (AHeap.push r30.2 1 [(AVal.slice Sl.nil), (AVal.int .i64 (0 : Int)), (AVal.slice Sl.nil)]) c32 (Pt.mk ⟨AHeap.next r30.2, 0, 0⟩ 3)).bind fun h34 =>
    ((bif (x7 == true) then ((run fuel d F_skolemref_Placed [(AVal.int .i64 (101 : Int)), (AVal.int .i64 (IntKind.wrap .i64 (((x13.len : Nat) : Int) + (2 : Int))))] h34).bind fun r35 =>
    (AVal.agg? r35.1).bind fun c36 =>
    (run fuel d F_skolemsee_Same [u33, (AVal.agg c36)] r35.2).bind fun r37 =>
    (AVal.bool? r37.1).bind fun b38 =>
    some ((AVal.bool b38), r37.2)) else (some ((AVal.bool false), h34)) : Option (AVal × AHeap))).bind fun r39 =>
    (AVal.bool? r39.1).bind fun b40 =>
    ((bif (b40 == true) then ((run fuel d F_skolemmake_Near [(AVal.slice Sl.nil)] r39.2).bind fun r41 =>
    (AVal.bool? r41.1).bind fun b42 =>
    some ((AVal.bool b42), r41.2)) else (some ((AVal.bool false), r39.2)) : Option (AVal × AHeap))).bind fun r43 =>
    (AVal.bool? r43.1).bind fun b44 =>
    some ((AVal.bool b44), r43.2)) else (none))) else none)))))) else (none))) else none)) else (none))) else none) := by
  generalize hh : run = R
  rw [run_is] at hh
  subst hh
  generalize hh : k_skolemlaw5_QdimacsBlocks_2 = R
  rw [k_skolemlaw5_QdimacsBlocks_2_is] at hh
  subst hh
  kernel_rfl

theorem l_skolemlaw5_QdimacsBlocks_3_eq (fuel d : Nat) (n : Nat) (x2 : Int) (x7 : Bool) (x8 : Pt) (x9 : Int) (x13 : Sl) (x14 : Int) (x15 : Int) (h : AHeap) :
    l_skolemlaw5_QdimacsBlocks_3 fuel d (n + 1) [(2, (AVal.int .i64 x2)), (7, (AVal.bool x7)), (8, (AVal.ptr x8)), (9, (AVal.int .i64 x9)), (13, (AVal.slice x13)), (14, (AVal.int .i64 x14)), (15, (AVal.int .i64 x15))] h =
  (Pt.field 0 x8).bind fun p1 =>
    (AHeap.cell h p1).bind fun u2 =>
    (AVal.slice? u2).bind fun s3 =>
    (AHeap.addr h 2 s3 x14).bind fun p4 =>
    (Pt.field 1 p4).bind fun p5 =>
    (AHeap.cell h p5).bind fun u6 =>
    (AVal.slice? u6).bind fun s7 =>
    (bif (decide (x15 < ((s7.len : Nat) : Int))) then ((Pt.field 0 x8).bind fun p8 =>
    (AHeap.cell h p8).bind fun u9 =>
    (AVal.slice? u9).bind fun s10 =>
    (AHeap.addr h 2 s10 x14).bind fun p11 =>
    (Pt.field 1 p11).bind fun p12 =>
    (AHeap.cell h p12).bind fun u13 =>
    (AVal.slice? u13).bind fun s14 =>
    (AHeap.addr h 1 s14 x15).bind fun p15 =>
    (AHeap.cell h p15).bind fun u16 =>
    (AVal.int? .i64 u16).bind fun n17 =>
    (run fuel d F_skolemworld_Number [(AVal.int .i64 x2), (AVal.int .i64 (3 : Int))] h).bind fun r18 =>
    (AVal.int? .i64 r18.1).bind fun n19 =>
    (AHeap.addr r18.2 1 (Sl.lst 3 true [(AVal.str (⟨#[32]⟩ : ByteArray)), (AVal.str (⟨#[10]⟩ : ByteArray)), (AVal.str (⟨#[32, 9]⟩ : ByteArray))]) n19).bind fun p20 =>
    (AHeap.cell r18.2 p20).bind fun u21 =>
    (AVal.str? u21).bind fun s22 =>
    (AHeap.append r18.2 false 1 1 x13 (ByteArray.size s22) (bytesOf s22)).bind fun a23 =>
    ((bif (decide ((9 : Int) < n17)) then ((AHeap.sliceCells (AHeap.push a23.2 1 [(AVal.int .u8 (49 : Int))]) 1 (Sl.mk ⟨AHeap.next a23.2, 0, 0⟩ 1 true)).bind fun xs24 =>
    (AHeap.append (AHeap.push a23.2 1 [(AVal.int .u8 (49 : Int))]) false 1 1 a23.1 (Sl.mk ⟨AHeap.next a23.2, 0, 0⟩ 1 true).len xs24).bind fun a25 =>
    some (.normal, [(2, (AVal.int .i64 x2)), (7, (AVal.bool x7)), (8, (AVal.ptr x8)), (9, (AVal.int .i64 x9)), (13, (AVal.slice a25.1)), (14, (AVal.int .i64 x14)), (15, (AVal.int .i64 x15)), (16, (AVal.int .i64 n17))], a25.2)) else (some (.normal, [(2, (AVal.int .i64 x2)), (7, (AVal.bool x7)), (8, (AVal.ptr x8)), (9, (AVal.int .i64 x9)), (13, (AVal.slice a23.1)), (14, (AVal.int .i64 x14)), (15, (AVal.int .i64 x15)), (16, (AVal.int .i64 n17))], a23.2)))).bind fun p26 =>
    k_skolemlaw5_QdimacsBlocks_4 fuel d n p26.1 p26.2.1 p26.2.2) else (some ((.exit 6), [(2, (AVal.int .i64 x2)), (7, (AVal.bool x7)), (8, (AVal.ptr x8)), (9, (AVal.int .i64 x9)), (13, (AVal.slice x13)), (14, (AVal.int .i64 x14))], h))) := by
  generalize hh : run = R
  rw [run_is] at hh
  subst hh
  generalize hh : l_skolemlaw5_QdimacsBlocks_3 = R
  rw [l_skolemlaw5_QdimacsBlocks_3_is] at hh
  subst hh
  generalize hh : k_skolemlaw5_QdimacsBlocks_4 = R
  rw [k_skolemlaw5_QdimacsBlocks_4_is] at hh
  subst hh
  kernel_rfl

theorem k_skolemlaw5_QdimacsBlocks_3_x6 (fuel d : Nat) (n : Nat) (x2 : Int) (x7 : Bool) (x8 : Pt) (x9 : Int) (x13 : Sl) (x14 : Int) (h : AHeap) :
    k_skolemlaw5_QdimacsBlocks_3 fuel d n (.exit 6) [(2, (AVal.int .i64 x2)), (7, (AVal.bool x7)), (8, (AVal.ptr x8)), (9, (AVal.int .i64 x9)), (13, (AVal.slice x13)), (14, (AVal.int .i64 x14))] h =
  (AHeap.append h false 1 1 x13 (ByteArray.size (⟨#[32, 48, 10]⟩ : ByteArray)) (bytesOf (⟨#[32, 48, 10]⟩ : ByteArray))).bind fun a1 =>
    l_skolemlaw5_QdimacsBlocks_2 fuel d n [(2, (AVal.int .i64 x2)), (7, (AVal.bool x7)), (8, (AVal.ptr x8)), (9, (AVal.int .i64 x9)), (13, (AVal.slice a1.1)), (14, (AVal.int .i64 (IntKind.wrap .i64 (x14 + (1 : Int)))))] a1.2 := by
  generalize hh : l_skolemlaw5_QdimacsBlocks_2 = R
  rw [l_skolemlaw5_QdimacsBlocks_2_is] at hh
  subst hh
  generalize hh : k_skolemlaw5_QdimacsBlocks_3 = R
  rw [k_skolemlaw5_QdimacsBlocks_3_is] at hh
  subst hh
  kernel_rfl

theorem k_skolemlaw5_QdimacsBlocks_4_n (fuel d : Nat) (n : Nat) (x2 : Int) (x7 : Bool) (x8 : Pt) (x9 : Int) (x13 : Sl) (x14 : Int) (x15 : Int) (x16 : Int) (h : AHeap) :
    k_skolemlaw5_QdimacsBlocks_4 fuel d n .normal [(2, (AVal.int .i64 x2)), (7, (AVal.bool x7)), (8, (AVal.ptr x8)), (9, (AVal.int .i64 x9)), (13, (AVal.slice x13)), (14, (AVal.int .i64 x14)), (15, (AVal.int .i64 x15)), (16, (AVal.int .i64 x16))] h =
  (AHeap.append h false 1 1 x13 1 [(AVal.int .u8 (IntKind.wrap .u8 (IntKind.wrap .i64 ((48 : Int) + (Int.tmod x16 (10 : Int))))))]).bind fun a1 =>
    l_skolemlaw5_QdimacsBlocks_3 fuel d n [(2, (AVal.int .i64 x2)), (7, (AVal.bool x7)), (8, (AVal.ptr x8)), (9, (AVal.int .i64 x9)), (13, (AVal.slice a1.1)), (14, (AVal.int .i64 x14)), (15, (AVal.int .i64 (IntKind.wrap .i64 (x15 + (1 : Int)))))] a1.2 := by
  generalize hh : l_skolemlaw5_QdimacsBlocks_3 = R
  rw [l_skolemlaw5_QdimacsBlocks_3_is] at hh
  subst hh
  generalize hh : k_skolemlaw5_QdimacsBlocks_4 = R
  rw [k_skolemlaw5_QdimacsBlocks_4_is] at hh
  subst hh
  kernel_rfl

theorem e_skolemsee_Same (fuel d : Nat) (x0 : AVal) (x1 : List AVal) (h : AHeap) :
    brun fuel (d + 1) F_skolemsee_Same [x0, (AVal.agg x1)] h =
  (bif (List.all x1 AVal.isCell) then ((run fuel d F_skolemsee_Fault [x0] (AHeap.push h 1 x1)).bind fun r1 =>
    (AVal.agg? r1.1).bind fun c2 =>
    (AHeap.cellsAt r1.2 3 (Pt.mk ⟨AHeap.next h, 0, 0⟩ (List.length x1))).bind fun c3 =>
    same ((AHeap.cellsAt (AHeap.push h 1 x1) 3 (Pt.mk ⟨AHeap.next h, 0, 0⟩ (List.length x1))).bind fun c6 =>
    some ((AVal.agg c6), (AHeap.push h 1 x1))) ((AVal.agg c3), (AHeap.push h 1 x1)) (
    (run fuel d F_skolemref_SameFault [(AVal.agg c2), (AVal.agg c3)] r1.2).bind fun r4 =>
    (AVal.bool? r4.1).bind fun b5 =>
    some ((AVal.bool b5), r4.2))) else (none)) := by
  generalize hh : run = R
  rw [run_is] at hh
  subst hh
  generalize hh : brun = R
  rw [brun_is] at hh
  subst hh
  kernel_rfl

noncomputable def s_skolemref_Bytes_0 (fuel d : Nat) : Run := fun fr h k => aexec (Cf fuel F_skolemref_Bytes) false (acall (C fuel) false d) (acall (C fuel) true d) 22 (csub [true, true, false, true, false, false] (fbody Go.Proofs.Tryd.f22)) (asub [true, true, false, true, false, false] an22) fr h k

noncomputable def l_skolemref_Bytes_0r (fuel d : Nat) (n : Nat) (fr : Fr) (h : AHeap) : Option (AExit × Fr × AHeap) := aloop (s_skolemref_Bytes_0 fuel d) (some [0, 3, 4]) n fr h (kOut [3])

noncomputable def l_skolemref_Bytes_0 : Nat → Nat → Nat → Fr → AHeap → Option (AExit × Fr × AHeap) := hide l_skolemref_Bytes_0r

theorem l_skolemref_Bytes_0_is : l_skolemref_Bytes_0 = l_skolemref_Bytes_0r := hide_eq _

noncomputable def k_skolemref_Bytes_0r (fuel d : Nat) : AExit → Fr → AHeap → Option (AVal × AHeap) := (kBlock 0 (kSeq (Cf fuel F_skolemref_Bytes) false (acall (C fuel) false d) (acall (C fuel) true d) 22 (csub [true, true, true] (fbody Go.Proofs.Tryd.f22)) (asub [true, true, true] an22) (kRet (Cf fuel F_skolemref_Bytes) Go.Proofs.Tryd.f22.results.toList)))

noncomputable def k_skolemref_Bytes_0 : Nat → Nat → AExit → Fr → AHeap → Option (AVal × AHeap) := hide k_skolemref_Bytes_0r

theorem k_skolemref_Bytes_0_is : k_skolemref_Bytes_0 = k_skolemref_Bytes_0r := hide_eq _

theorem e_skolemref_Bytes (fuel d : Nat) (x0 : Sl) (h : AHeap) :
    run fuel (d + 1) F_skolemref_Bytes [(AVal.slice x0)] h =
  (bif (decide ((0 : Int) ≤ ((x0.len : Nat) : Int)) && decide (((x0.len : Nat) : Int) * 1 ≤ 140737488355328) && decide (((x0.len : Nat) : Int) ≤ 140737488355328)) then ((l_skolemref_Bytes_0 fuel d fuel [(0, (AVal.slice x0)), (3, (AVal.slice (Sl.mk ⟨AHeap.next h, 0, 0⟩ 0 (eqI (0 : Int) ((x0.len : Nat) : Int))))), (4, (AVal.int .i64 (0 : Int)))] (AHeap.push h 1 [])).bind fun p1 =>
    k_skolemref_Bytes_0 fuel d p1.1 p1.2.1 p1.2.2) else (none)) := by
  generalize hh : run = R
  rw [run_is] at hh
  subst hh
  generalize hh : l_skolemref_Bytes_0 = R
  rw [l_skolemref_Bytes_0_is] at hh
  subst hh
  generalize hh : k_skolemref_Bytes_0 = R
  rw [k_skolemref_Bytes_0_is] at hh
  subst hh
  kernel_rfl

theorem l_skolemref_Bytes_0_eq (fuel d : Nat) (n : Nat) (x0 : Sl) (x3 : Sl) (x4 : Int) (h : AHeap) :
    l_skolemref_Bytes_0 fuel d (n + 1) [(0, (AVal.slice x0)), (3, (AVal.slice x3)), (4, (AVal.int .i64 x4))] h =
  (bif (decide (x4 < ((x0.len : Nat) : Int))) then ((AHeap.addr h 1 x0 x4).bind fun p1 =>
    (AHeap.cell h p1).bind fun u2 =>
    (AVal.int? .u8 u2).bind fun n3 =>
    (AHeap.append h false 1 1 x3 1 [(AVal.int .u8 n3)]).bind fun a4 =>
    l_skolemref_Bytes_0 fuel d n [(0, (AVal.slice x0)), (3, (AVal.slice a4.1)), (4, (AVal.int .i64 (IntKind.wrap .i64 (x4 + (1 : Int)))))] a4.2) else (some ((.exit 0), [(3, (AVal.slice x3))], h))) := by
  generalize hh : l_skolemref_Bytes_0 = R
  rw [l_skolemref_Bytes_0_is] at hh
  subst hh
  kernel_rfl

theorem k_skolemref_Bytes_0_x0 (fuel d : Nat) (x3 : Sl) (h : AHeap) :
    k_skolemref_Bytes_0 fuel d (.exit 0) [(3, (AVal.slice x3))] h =
  some ((AVal.slice x3), h) := by
  generalize hh : k_skolemref_Bytes_0 = R
  rw [k_skolemref_Bytes_0_is] at hh
  subst hh
  kernel_rfl

theorem e_skolemref_Placed (fuel d : Nat) (x0 : Int) (x1 : Int) (h : AHeap) :
    brun fuel (d + 1) F_skolemref_Placed [(AVal.int .i64 x0), (AVal.int .i64 x1)] h =
  (bif (decide (x0 = (0 : Int))) then ((run fuel d F_skolemref_None [] (AHeap.push h 1 [(AVal.int .i64 (0 : Int)), (AVal.bool false), (AVal.int .i64 (0 : Int))])).bind fun r1 =>
    (AVal.agg? r1.1).bind fun c2 =>
    (bif (!false && Nat.beq (List.length c2) 3 && List.all c2 AVal.isCell) then ((AHeap.storeAt r1.2 c2 (Pt.mk ⟨AHeap.next h, 0, 0⟩ 3)).bind fun h3 =>
    ((AHeap.cellsAt h3 3 (Pt.mk ⟨AHeap.next h, 0, 0⟩ 3)).bind fun c4 =>
    some ((AVal.agg c4)) : Option AVal).map fun v => (v, h3)) else (none))) else ((AHeap.storeAt (AHeap.push h 1 [(AVal.int .i64 (0 : Int)), (AVal.bool false), (AVal.int .i64 (0 : Int))]) [(AVal.int .i64 x0), (AVal.bool true), (AVal.int .i64 x1)] (Pt.mk ⟨AHeap.next h, 0, 0⟩ 3)).bind fun h5 =>
    ((AHeap.cellsAt h5 3 (Pt.mk ⟨AHeap.next h, 0, 0⟩ 3)).bind fun c6 =>
    some ((AVal.agg c6)) : Option AVal).map fun v => (v, h5))) := by
  generalize hh : run = R
  rw [run_is] at hh
  subst hh
  generalize hh : brun = R
  rw [brun_is] at hh
  subst hh
  kernel_rfl

theorem e_skolemworld_Number (fuel d : Nat) (x0 : Int) (x1 : Int) (h : AHeap) :
    brun fuel (d + 1) F_skolemworld_Number [(AVal.int .i64 x0), (AVal.int .i64 x1)] h =
  (bif decide (x1 = 0) then (none) else ((bif (decide ((Int.tmod x0 x1) < (0 : Int))) then (some ((AVal.int .i64 (IntKind.wrap .i64 ((Int.tmod x0 x1) + x1))), h)) else (some ((AVal.int .i64 (Int.tmod x0 x1)), h))))) := by
  generalize hh : brun = R
  rw [brun_is] at hh
  subst hh
  kernel_rfl

noncomputable def s_word_Split_0 (fuel d : Nat) : Run := fun fr h k => aexec (Cf fuel F_word_Split) false (acall (C fuel) false d) (acall (C fuel) true d) 54 (csub [true, true, false, true, false, false] (fbody Go.Proofs.Tryd.f33)) (asub [true, true, false, true, false, false] an33) fr h k

noncomputable def l_word_Split_0r (fuel d : Nat) (n : Nat) (fr : Fr) (h : AHeap) : Option (AExit × Fr × AHeap) := aloop (s_word_Split_0 fuel d) (some [0, 1, 5, 6]) n fr h (kOut [5])

noncomputable def l_word_Split_0 : Nat → Nat → Nat → Fr → AHeap → Option (AExit × Fr × AHeap) := hide l_word_Split_0r

theorem l_word_Split_0_is : l_word_Split_0 = l_word_Split_0r := hide_eq _

noncomputable def k_word_Split_0r (fuel d : Nat) : AExit → Fr → AHeap → Option (AVal × AHeap) := (kBlock 0 (kSeq (Cf fuel F_word_Split) false (acall (C fuel) false d) (acall (C fuel) true d) 54 (csub [true, true, true] (fbody Go.Proofs.Tryd.f33)) (asub [true, true, true] an33) (kRet (Cf fuel F_word_Split) Go.Proofs.Tryd.f33.results.toList)))

noncomputable def k_word_Split_0 : Nat → Nat → AExit → Fr → AHeap → Option (AVal × AHeap) := hide k_word_Split_0r

theorem k_word_Split_0_is : k_word_Split_0 = k_word_Split_0r := hide_eq _

noncomputable def k_word_Split_1r (fuel d : Nat) (n : Nat) : AExit → Fr → AHeap → Option (AExit × Fr × AHeap) := (kSeq (Cf fuel F_word_Split) false (acall (C fuel) false d) (acall (C fuel) true d) 54 (csub [true, true, false, true, false, false, true, false, true, true] (fbody Go.Proofs.Tryd.f33)) (asub [true, true, false, true, false, false, true, false, true, true] an33) (kBlock 1 (kLoop (s_word_Split_0 fuel d) (some [0, 1, 5, 6]) n (kOut [5]))))

noncomputable def k_word_Split_1 : Nat → Nat → Nat → AExit → Fr → AHeap → Option (AExit × Fr × AHeap) := hide k_word_Split_1r

theorem k_word_Split_1_is : k_word_Split_1 = k_word_Split_1r := hide_eq _

theorem e_word_Split (fuel d : Nat) (x0 : Sl) (x1 : Bool) (h : AHeap) :
    brun fuel (d + 1) F_word_Split [(AVal.slice x0), (AVal.bool x1)] h =
  (l_word_Split_0 fuel d fuel [(0, (AVal.slice x0)), (1, (AVal.bool x1)), (5, (AVal.slice Sl.nil)), (6, (AVal.int .i64 (0 : Int)))] h).bind fun p1 =>
    k_word_Split_0 fuel d p1.1 p1.2.1 p1.2.2 := by
  generalize hh : brun = R
  rw [brun_is] at hh
  subst hh
  generalize hh : l_word_Split_0 = R
  rw [l_word_Split_0_is] at hh
  subst hh
  generalize hh : k_word_Split_0 = R
  rw [k_word_Split_0_is] at hh
  subst hh
  kernel_rfl

theorem l_word_Split_0_eq (fuel d : Nat) (n : Nat) (x0 : Sl) (x1 : Bool) (x5 : Sl) (x6 : Int) (h : AHeap) :
    l_word_Split_0 fuel d (n + 1) [(0, (AVal.slice x0)), (1, (AVal.bool x1)), (5, (AVal.slice x5)), (6, (AVal.int .i64 x6))] h =
  (bif (decide (x6 < ((x0.len : Nat) : Int))) then ((aHi (none : Option AVal) (Sl.len x0)).bind fun hi1 =>
    (aLo (some (AVal.int .i64 x6)) hi1).bind fun lo2 =>
    (aMx (none : Option AVal) hi1).bind fun cl3 =>
    (bif (AHeap.hasSz h 1 x0) then ((run fuel d F_bytes_IndexByte [(AVal.slice (Sl.cut x0 1 lo2 hi1 cl3)), (AVal.int .u8 (10 : Int))] h).bind fun r4 =>
    (AVal.int? .i64 r4.1).bind fun n5 =>
    ((bif (decide (n5 < (0 : Int))) then (some (.normal, [(0, (AVal.slice x0)), (1, (AVal.bool x1)), (5, (AVal.slice x5)), (6, (AVal.int .i64 x6)), (7, (AVal.int .i64 (IntKind.wrap .i64 (((x0.len : Nat) : Int) - x6))))], r4.2)) else (some (.normal, [(0, (AVal.slice x0)), (1, (AVal.bool x1)), (5, (AVal.slice x5)), (6, (AVal.int .i64 x6)), (7, (AVal.int .i64 n5))], r4.2)))).bind fun p6 =>
    k_word_Split_1 fuel d n p6.1 p6.2.1 p6.2.2) else (none))) else (some ((.exit 0), [(5, (AVal.slice x5))], h))) := by
  generalize hh : run = R
  rw [run_is] at hh
  subst hh
  generalize hh : l_word_Split_0 = R
  rw [l_word_Split_0_is] at hh
  subst hh
  generalize hh : k_word_Split_1 = R
  rw [k_word_Split_1_is] at hh
  subst hh
  kernel_rfl

theorem k_word_Split_0_x0 (fuel d : Nat) (x5 : Sl) (h : AHeap) :
    k_word_Split_0 fuel d (.exit 0) [(5, (AVal.slice x5))] h =
  some ((AVal.slice x5), h) := by
  generalize hh : k_word_Split_0 = R
  rw [k_word_Split_0_is] at hh
  subst hh
  kernel_rfl

theorem k_word_Split_1_n (fuel d : Nat) (n : Nat) (x0 : Sl) (x1 : Bool) (x5 : Sl) (x6 : Int) (x7 : Int) (h : AHeap) :
    k_word_Split_1 fuel d n .normal [(0, (AVal.slice x0)), (1, (AVal.bool x1)), (5, (AVal.slice x5)), (6, (AVal.int .i64 x6)), (7, (AVal.int .i64 x7))] h =
  (aHi (some (AVal.int .i64 (IntKind.wrap .i64 (x6 + x7)))) (Sl.len x0)).bind fun hi1 =>
    (aLo (some (AVal.int .i64 x6)) hi1).bind fun lo2 =>
    (aMx (none : Option AVal) hi1).bind fun cl3 =>
    (bif (AHeap.hasSz h 1 x0) then ((run fuel d F_word_line [(AVal.slice (Sl.cut x0 1 lo2 hi1 cl3)), (AVal.int .i64 x6)] h).bind fun r4 =>
    (AVal.slice? r4.1).bind fun s5 =>
    ((bif ((bif (!x1) then true else (decide (((s5.len : Nat) : Int) = (0 : Int)))) == false) then ((AHeap.addr r4.2 3 s5 (0 : Int)).bind fun p6 =>
    (Pt.field 0 p6).bind fun p7 =>
    (AHeap.cell r4.2 p7).bind fun u8 =>
    (AVal.str? u8).bind fun s9 =>
    (strAt s9 (0 : Int)).bind fun n10 =>
    some ((AVal.bool (!decide (n10 = (99 : Int)))), r4.2)) else (some ((AVal.bool true), r4.2)) : Option (AVal × AHeap))).bind fun r11 =>
    (AVal.bool? r11.1).bind fun b12 =>
    (bif b12 then ((AHeap.sliceCells r11.2 3 s5).bind fun xs13 =>
    (AHeap.append r11.2 false 3 32 x5 s5.len xs13).bind fun a14 =>
    l_word_Split_0 fuel d n [(0, (AVal.slice x0)), (1, (AVal.bool x1)), (5, (AVal.slice a14.1)), (6, (AVal.int .i64 (IntKind.wrap .i64 (x6 + (IntKind.wrap .i64 (x7 + (1 : Int)))))))] a14.2) else (l_word_Split_0 fuel d n [(0, (AVal.slice x0)), (1, (AVal.bool x1)), (5, (AVal.slice x5)), (6, (AVal.int .i64 (IntKind.wrap .i64 (x6 + (IntKind.wrap .i64 (x7 + (1 : Int)))))))] r11.2))) else (none)) := by
  generalize hh : run = R
  rw [run_is] at hh
  subst hh
  generalize hh : l_word_Split_0 = R
  rw [l_word_Split_0_is] at hh
  subst hh
  generalize hh : k_word_Split_1 = R
  rw [k_word_Split_1_is] at hh
  subst hh
  kernel_rfl

noncomputable def s_dimacs_Head_0 (fuel d : Nat) : Run := fun fr h k => aexec (Cf fuel F_dimacs_Head) false (acall (C fuel) false d) (acall (C fuel) true d) 97 (csub [true, true, false, true, false, false] (fbody Go.Proofs.Tryd.f35)) (asub [true, true, false, true, false, false] an35) fr h k

noncomputable def l_dimacs_Head_0r (fuel d : Nat) (n : Nat) (fr : Fr) (h : AHeap) : Option (AExit × Fr × AHeap) := aloop (s_dimacs_Head_0 fuel d) (some [0, 1, 8, 11]) n fr h (kOut [4, 5, 6, 7, 8])

noncomputable def l_dimacs_Head_0 : Nat → Nat → Nat → Fr → AHeap → Option (AExit × Fr × AHeap) := hide l_dimacs_Head_0r

theorem l_dimacs_Head_0_is : l_dimacs_Head_0 = l_dimacs_Head_0r := hide_eq _

noncomputable def k_dimacs_Head_0r (fuel d : Nat) : AExit → Fr → AHeap → Option (AVal × AHeap) := (kBlock 0 (kSeq (Cf fuel F_dimacs_Head) false (acall (C fuel) false d) (acall (C fuel) true d) 97 (csub [true, true, true] (fbody Go.Proofs.Tryd.f35)) (asub [true, true, true] an35) (kRet (Cf fuel F_dimacs_Head) Go.Proofs.Tryd.f35.results.toList)))

noncomputable def k_dimacs_Head_0 : Nat → Nat → AExit → Fr → AHeap → Option (AVal × AHeap) := hide k_dimacs_Head_0r

theorem k_dimacs_Head_0_is : k_dimacs_Head_0 = k_dimacs_Head_0r := hide_eq _

noncomputable def k_dimacs_Head_1r (fuel d : Nat) (n : Nat) : AExit → Fr → AHeap → Option (AExit × Fr × AHeap) := (kOut [0, 1, 8, 10, 11])

noncomputable def k_dimacs_Head_1 : Nat → Nat → Nat → AExit → Fr → AHeap → Option (AExit × Fr × AHeap) := hide k_dimacs_Head_1r

theorem k_dimacs_Head_1_is : k_dimacs_Head_1 = k_dimacs_Head_1r := hide_eq _

noncomputable def k_dimacs_Head_2r (fuel d : Nat) (n : Nat) : AExit → Fr → AHeap → Option (AExit × Fr × AHeap) := (kOut [0, 1, 8, 10, 11])

noncomputable def k_dimacs_Head_2 : Nat → Nat → Nat → AExit → Fr → AHeap → Option (AExit × Fr × AHeap) := hide k_dimacs_Head_2r

theorem k_dimacs_Head_2_is : k_dimacs_Head_2 = k_dimacs_Head_2r := hide_eq _

noncomputable def k_dimacs_Head_3r (fuel d : Nat) (n : Nat) : AExit → Fr → AHeap → Option (AExit × Fr × AHeap) := (kOut [0, 1, 8, 10, 11])

noncomputable def k_dimacs_Head_3 : Nat → Nat → Nat → AExit → Fr → AHeap → Option (AExit × Fr × AHeap) := hide k_dimacs_Head_3r

theorem k_dimacs_Head_3_is : k_dimacs_Head_3 = k_dimacs_Head_3r := hide_eq _

noncomputable def k_dimacs_Head_4r (fuel d : Nat) (n : Nat) : AExit → Fr → AHeap → Option (AExit × Fr × AHeap) := (kOut [0, 1, 8, 10, 11])

noncomputable def k_dimacs_Head_4 : Nat → Nat → Nat → AExit → Fr → AHeap → Option (AExit × Fr × AHeap) := hide k_dimacs_Head_4r

theorem k_dimacs_Head_4_is : k_dimacs_Head_4 = k_dimacs_Head_4r := hide_eq _

noncomputable def k_dimacs_Head_5r (fuel d : Nat) (n : Nat) : AExit → Fr → AHeap → Option (AExit × Fr × AHeap) := (kBlock 2 (kSeq (Cf fuel F_dimacs_Head) false (acall (C fuel) false d) (acall (C fuel) true d) 97 (csub [true, true, false, true, false, false, true, true, false, false, true, true, true, true] (fbody Go.Proofs.Tryd.f35)) (asub [true, true, false, true, false, false, true, true, false, false, true, true, true, true] an35) (kBlock 1 (kSeq (Cf fuel F_dimacs_Head) false (acall (C fuel) false d) (acall (C fuel) true d) 97 (csub [true, true, false, true, false, false, true, true, true] (fbody Go.Proofs.Tryd.f35)) (asub [true, true, false, true, false, false, true, true, true] an35) (kLoop (s_dimacs_Head_0 fuel d) (some [0, 1, 8, 11]) n (kOut [4, 5, 6, 7, 8]))))))

noncomputable def k_dimacs_Head_5 : Nat → Nat → Nat → AExit → Fr → AHeap → Option (AExit × Fr × AHeap) := hide k_dimacs_Head_5r

theorem k_dimacs_Head_5_is : k_dimacs_Head_5 = k_dimacs_Head_5r := hide_eq _

theorem e_dimacs_Head (fuel d : Nat) (x0 : Sl) (x1 : Int) (h : AHeap) :
    brun fuel (d + 1) F_dimacs_Head [(AVal.slice x0), (AVal.int .i64 x1)] h =
  (l_dimacs_Head_0 fuel d fuel [(0, (AVal.slice x0)), (1, (AVal.int .i64 x1)), (8, (AVal.ptr (Pt.mk ⟨AHeap.next h, 0, 0⟩ 4))), (11, (AVal.int .i64 (0 : Int)))] (AHeap.push h 1 [(AVal.int .i64 (0 : Int)), (AVal.int .i64 (0 : Int)), (AVal.int .i64 (0 : Int)), (AVal.int .i64 (0 : Int))])).bind fun p1 =>
    k_dimacs_Head_0 fuel d p1.1 p1.2.1 p1.2.2 := by
  generalize hh : brun = R
  rw [brun_is] at hh
  subst hh
  generalize hh : l_dimacs_Head_0 = R
  rw [l_dimacs_Head_0_is] at hh
  subst hh
  generalize hh : k_dimacs_Head_0 = R
  rw [k_dimacs_Head_0_is] at hh
  subst hh
  kernel_rfl

theorem l_dimacs_Head_0_eq (fuel d : Nat) (n : Nat) (x0 : Sl) (x1 : Int) (x8 : Pt) (x11 : Int) (h : AHeap) :
    l_dimacs_Head_0 fuel d (n + 1) [(0, (AVal.slice x0)), (1, (AVal.int .i64 x1)), (8, (AVal.ptr x8)), (11, (AVal.int .i64 x11))] h =
  (bif (decide (x11 < (4 : Int))) then ((bif (decide (((x0.len : Nat) : Int) ≤ x11)) then ((run fuel d F_dimacs_at [(AVal.int .i64 x1), err_api_ErrText] h).bind fun r1 =>
    some (.ret, [(4, (AVal.int .i64 (0 : Int))), (5, (AVal.int .i64 (0 : Int))), (6, (AVal.int .i64 (0 : Int))), (7, r1.1), (8, (AVal.ptr x8))], r1.2)) else (((bif (decide (x11 = (0 : Int))) then ((AHeap.addr h 3 x0 x11).bind fun p2 =>
    (Pt.field 2 p2).bind fun p3 =>
    (AHeap.cell h p3).bind fun u4 =>
    (AVal.bool? u4).bind fun b5 =>
    ((bif ((!b5) == false) then ((AHeap.addr h 3 x0 x11).bind fun p6 =>
    (Pt.field 0 p6).bind fun p7 =>
    (AHeap.cell h p7).bind fun u8 =>
    (AVal.str? u8).bind fun s9 =>
    some ((AVal.bool (!decide (s9 = (⟨#[112]⟩ : ByteArray)))), h)) else (some ((AVal.bool true), h)) : Option (AVal × AHeap))).bind fun r10 =>
    (AVal.bool? r10.1).bind fun b11 =>
    ((bif b11 then ((AHeap.addr r10.2 3 x0 x11).bind fun p12 =>
    (Pt.field 1 p12).bind fun p13 =>
    (AHeap.cell r10.2 p13).bind fun u14 =>
    (AVal.int? .i64 u14).bind fun n15 =>
    (run fuel d F_dimacs_at [(AVal.int .i64 n15), err_api_ErrText] r10.2).bind fun r16 =>
    some (.normal, [(0, (AVal.slice x0)), (1, (AVal.int .i64 x1)), (8, (AVal.ptr x8)), (10, r16.1), (11, (AVal.int .i64 x11))], r16.2)) else (some (.normal, [(0, (AVal.slice x0)), (1, (AVal.int .i64 x1)), (8, (AVal.ptr x8)), (10, AVal.nilif), (11, (AVal.int .i64 x11))], r10.2)))).bind fun p17 =>
    k_dimacs_Head_1 fuel d n p17.1 p17.2.1 p17.2.2) else (((bif (decide (x11 = (1 : Int))) then ((AHeap.addr h 3 x0 x11).bind fun p18 =>
    (Pt.field 2 p18).bind fun p19 =>
    (AHeap.cell h p19).bind fun u20 =>
    (AVal.bool? u20).bind fun b21 =>
    ((bif (b21 == false) then ((AHeap.addr h 3 x0 x11).bind fun p22 =>
    (Pt.field 0 p22).bind fun p23 =>
    (AHeap.cell h p23).bind fun u24 =>
    (AVal.str? u24).bind fun s25 =>
    some ((AVal.bool (!decide (s25 = (⟨#[99, 110, 102]⟩ : ByteArray)))), h)) else (some ((AVal.bool true), h)) : Option (AVal × AHeap))).bind fun r26 =>
    (AVal.bool? r26.1).bind fun b27 =>
    ((bif b27 then ((AHeap.addr r26.2 3 x0 x11).bind fun p28 =>
    (Pt.field 1 p28).bind fun p29 =>
    (AHeap.cell r26.2 p29).bind fun u30 =>
    (AVal.int? .i64 u30).bind fun n31 =>
    (run fuel d F_dimacs_at [(AVal.int .i64 n31), err_api_ErrText] r26.2).bind fun r32 =>
    some (.normal, [(0, (AVal.slice x0)), (1, (AVal.int .i64 x1)), (8, (AVal.ptr x8)), (10, r32.1), (11, (AVal.int .i64 x11))], r32.2)) else (some (.normal, [(0, (AVal.slice x0)), (1, (AVal.int .i64 x1)), (8, (AVal.ptr x8)), (10, AVal.nilif), (11, (AVal.int .i64 x11))], r26.2)))).bind fun p33 =>
    k_dimacs_Head_2 fuel d n p33.1 p33.2.1 p33.2.2) else (((bif (decide (x11 = (2 : Int))) then ((AHeap.addr h 3 x0 x11).bind fun p34 =>
    (AHeap.cellsAt h 3 p34).bind fun c35 =>
    (run fuel d F_dimacs_count [(AVal.agg c35), (AVal.int .i64 (4000 : Int))] h).bind fun r36 =>
    (bif AVal.isTup 2 r36.1 then ((AVal.comp 0 r36.1).bind fun u37 =>
    (AVal.int? .i64 u37).bind fun n38 =>
    (AVal.comp 1 r36.1).bind fun u39 =>
    (Pt.elem 1 4 x11 x8).bind fun p40 =>
    (AHeap.storeAt r36.2 [(AVal.int .i64 n38)] p40).bind fun h41 =>
    some (.normal, [(0, (AVal.slice x0)), (1, (AVal.int .i64 x1)), (8, (AVal.ptr x8)), (10, u39), (11, (AVal.int .i64 x11))], h41)) else none)) else ((AHeap.addr h 3 x0 x11).bind fun p42 =>
    (AHeap.cellsAt h 3 p42).bind fun c43 =>
    (run fuel d F_dimacs_count [(AVal.agg c43), (AVal.int .i64 (20000 : Int))] h).bind fun r44 =>
    (bif AVal.isTup 2 r44.1 then ((AVal.comp 0 r44.1).bind fun u45 =>
    (AVal.int? .i64 u45).bind fun n46 =>
    (AVal.comp 1 r44.1).bind fun u47 =>
    (Pt.elem 1 4 x11 x8).bind fun p48 =>
    (AHeap.storeAt r44.2 [(AVal.int .i64 n46)] p48).bind fun h49 =>
    some (.normal, [(0, (AVal.slice x0)), (1, (AVal.int .i64 x1)), (8, (AVal.ptr x8)), (10, u47), (11, (AVal.int .i64 x11))], h49)) else none)))).bind fun p50 =>
    k_dimacs_Head_3 fuel d n p50.1 p50.2.1 p50.2.2))).bind fun p51 =>
    k_dimacs_Head_4 fuel d n p51.1 p51.2.1 p51.2.2))).bind fun p52 =>
    k_dimacs_Head_5 fuel d n p52.1 p52.2.1 p52.2.2))) else (some ((.exit 0), [(4, AVal.bot), (5, AVal.bot), (6, AVal.bot), (7, AVal.bot), (8, (AVal.ptr x8))], h))) := by
  generalize hh : run = R
  rw [run_is] at hh
  subst hh
  generalize hh : l_dimacs_Head_0 = R
  rw [l_dimacs_Head_0_is] at hh
  subst hh
  generalize hh : k_dimacs_Head_1 = R
  rw [k_dimacs_Head_1_is] at hh
  subst hh
  generalize hh : k_dimacs_Head_2 = R
  rw [k_dimacs_Head_2_is] at hh
  subst hh
  generalize hh : k_dimacs_Head_3 = R
  rw [k_dimacs_Head_3_is] at hh
  subst hh
  generalize hh : k_dimacs_Head_4 = R
  rw [k_dimacs_Head_4_is] at hh
  subst hh
  generalize hh : k_dimacs_Head_5 = R
  rw [k_dimacs_Head_5_is] at hh
  subst hh
  kernel_rfl

theorem k_dimacs_Head_0_x0 (fuel d : Nat) (x4 : AVal) (x5 : AVal) (x6 : AVal) (x7 : AVal) (x8 : Pt) (h : AHeap) :
    k_dimacs_Head_0 fuel d (.exit 0) [(4, x4), (5, x5), (6, x6), (7, x7), (8, (AVal.ptr x8))] h =
  (Pt.elem 1 4 (2 : Int) x8).bind fun p1 =>
    (AHeap.cell h p1).bind fun u2 =>
    (AVal.int? .i64 u2).bind fun n3 =>
    (Pt.elem 1 4 (3 : Int) x8).bind fun p4 =>
    (AHeap.cell h p4).bind fun u5 =>
    (AVal.int? .i64 u5).bind fun n6 =>
    some ((AVal.tup [(AVal.int .i64 n3), (AVal.int .i64 n6), (AVal.int .i64 (4 : Int)), AVal.nilif]), h) := by
  generalize hh : k_dimacs_Head_0 = R
  rw [k_dimacs_Head_0_is] at hh
  subst hh
  kernel_rfl

theorem k_dimacs_Head_0_r (fuel d : Nat) (x4 : Int) (x5 : Int) (x6 : Int) (x7 : AVal) (x8 : AVal) (h : AHeap) :
    k_dimacs_Head_0 fuel d .ret [(4, (AVal.int .i64 x4)), (5, (AVal.int .i64 x5)), (6, (AVal.int .i64 x6)), (7, x7), (8, x8)] h =
  some ((AVal.tup [(AVal.int .i64 x4), (AVal.int .i64 x5), (AVal.int .i64 x6), x7]), h) := by
  generalize hh : k_dimacs_Head_0 = R
  rw [k_dimacs_Head_0_is] at hh
  subst hh
  kernel_rfl

theorem k_dimacs_Head_1_n (fuel d : Nat) (n : Nat) (x0 : Sl) (x1 : Int) (x8 : Pt) (x10 : AVal) (x11 : Int) (h : AHeap) :
    k_dimacs_Head_1 fuel d n .normal [(0, (AVal.slice x0)), (1, (AVal.int .i64 x1)), (8, (AVal.ptr x8)), (10, x10), (11, (AVal.int .i64 x11))] h =
  some (.normal, [(0, (AVal.slice x0)), (1, (AVal.int .i64 x1)), (8, (AVal.ptr x8)), (10, x10), (11, (AVal.int .i64 x11))], h) := by
  generalize hh : k_dimacs_Head_1 = R
  rw [k_dimacs_Head_1_is] at hh
  subst hh
  kernel_rfl

theorem k_dimacs_Head_2_n (fuel d : Nat) (n : Nat) (x0 : Sl) (x1 : Int) (x8 : Pt) (x10 : AVal) (x11 : Int) (h : AHeap) :
    k_dimacs_Head_2 fuel d n .normal [(0, (AVal.slice x0)), (1, (AVal.int .i64 x1)), (8, (AVal.ptr x8)), (10, x10), (11, (AVal.int .i64 x11))] h =
  some (.normal, [(0, (AVal.slice x0)), (1, (AVal.int .i64 x1)), (8, (AVal.ptr x8)), (10, x10), (11, (AVal.int .i64 x11))], h) := by
  generalize hh : k_dimacs_Head_2 = R
  rw [k_dimacs_Head_2_is] at hh
  subst hh
  kernel_rfl

theorem k_dimacs_Head_3_n (fuel d : Nat) (n : Nat) (x0 : Sl) (x1 : Int) (x8 : Pt) (x10 : AVal) (x11 : Int) (h : AHeap) :
    k_dimacs_Head_3 fuel d n .normal [(0, (AVal.slice x0)), (1, (AVal.int .i64 x1)), (8, (AVal.ptr x8)), (10, x10), (11, (AVal.int .i64 x11))] h =
  some (.normal, [(0, (AVal.slice x0)), (1, (AVal.int .i64 x1)), (8, (AVal.ptr x8)), (10, x10), (11, (AVal.int .i64 x11))], h) := by
  generalize hh : k_dimacs_Head_3 = R
  rw [k_dimacs_Head_3_is] at hh
  subst hh
  kernel_rfl

theorem k_dimacs_Head_4_n (fuel d : Nat) (n : Nat) (x0 : Sl) (x1 : Int) (x8 : Pt) (x10 : AVal) (x11 : Int) (h : AHeap) :
    k_dimacs_Head_4 fuel d n .normal [(0, (AVal.slice x0)), (1, (AVal.int .i64 x1)), (8, (AVal.ptr x8)), (10, x10), (11, (AVal.int .i64 x11))] h =
  some (.normal, [(0, (AVal.slice x0)), (1, (AVal.int .i64 x1)), (8, (AVal.ptr x8)), (10, x10), (11, (AVal.int .i64 x11))], h) := by
  generalize hh : k_dimacs_Head_4 = R
  rw [k_dimacs_Head_4_is] at hh
  subst hh
  kernel_rfl

theorem k_dimacs_Head_5_n (fuel d : Nat) (n : Nat) (x0 : Sl) (x1 : Int) (x8 : Pt) (x10 : AVal) (x11 : Int) (h : AHeap) :
    k_dimacs_Head_5 fuel d n .normal [(0, (AVal.slice x0)), (1, (AVal.int .i64 x1)), (8, (AVal.ptr x8)), (10, x10), (11, (AVal.int .i64 x11))] h =
  (nilTest .iface x10).bind fun b1 =>
    (bif (!b1) then (some (.ret, [(4, (AVal.int .i64 (0 : Int))), (5, (AVal.int .i64 (0 : Int))), (6, (AVal.int .i64 (0 : Int))), (7, x10), (8, (AVal.ptr x8))], h)) else (l_dimacs_Head_0 fuel d n [(0, (AVal.slice x0)), (1, (AVal.int .i64 x1)), (8, (AVal.ptr x8)), (11, (AVal.int .i64 (IntKind.wrap .i64 (x11 + (1 : Int)))))] h)) := by
  generalize hh : l_dimacs_Head_0 = R
  rw [l_dimacs_Head_0_is] at hh
  subst hh
  generalize hh : k_dimacs_Head_5 = R
  rw [k_dimacs_Head_5_is] at hh
  subst hh
  kernel_rfl

theorem e_skolemref_SameCNF (fuel d : Nat) (x0 : List AVal) (x1 : List AVal) (h : AHeap) :
    brun fuel (d + 1) F_skolemref_SameCNF [(AVal.agg x0), (AVal.agg x1)] h =
  (bif (List.all x0 AVal.isCell) then ((bif (List.all x1 AVal.isCell) then ((Pt.field 0 (Pt.mk ⟨AHeap.next h, 0, 0⟩ (List.length x0))).bind fun p1 =>
    (AHeap.cell (AHeap.push (AHeap.push h 1 x0) 1 x1) p1).bind fun u2 =>
    (AVal.int? .i64 u2).bind fun n3 =>
    (Pt.field 0 (Pt.mk ⟨AHeap.next (AHeap.push h 1 x0), 0, 0⟩ (List.length x1))).bind fun p4 =>
    (AHeap.cell (AHeap.push (AHeap.push h 1 x0) 1 x1) p4).bind fun u5 =>
    (AVal.int? .i64 u5).bind fun n6 =>
    ((bif ((decide (n3 = n6)) == true) then ((Pt.field 1 (Pt.mk ⟨AHeap.next h, 0, 0⟩ (List.length x0))).bind fun p7 =>
    (AHeap.cell (AHeap.push (AHeap.push h 1 x0) 1 x1) p7).bind fun u8 =>
    (AVal.slice? u8).bind fun s9 =>
    (Pt.field 1 (Pt.mk ⟨AHeap.next (AHeap.push h 1 x0), 0, 0⟩ (List.length x1))).bind fun p10 =>
    (AHeap.cell (AHeap.push (AHeap.push h 1 x0) 1 x1) p10).bind fun u11 =>
    (AVal.slice? u11).bind fun s12 =>
    (run fuel d F_skolemref_SameClauses [(AVal.slice s9), (AVal.slice s12)] (AHeap.push (AHeap.push h 1 x0) 1 x1)).bind fun r13 =>
    (AVal.bool? r13.1).bind fun b14 =>
    some ((AVal.bool b14), r13.2)) else (some ((AVal.bool false), (AHeap.push (AHeap.push h 1 x0) 1 x1))) : Option (AVal × AHeap))).bind fun r15 =>
    (AVal.bool? r15.1).bind fun b16 =>
    some ((AVal.bool b16), r15.2)) else (none))) else (none)) := by
  generalize hh : run = R
  rw [run_is] at hh
  subst hh
  generalize hh : brun = R
  rw [brun_is] at hh
  subst hh
  kernel_rfl

noncomputable def s_dimacs_Clauses_0 (fuel d : Nat) : Run := fun fr h k => aexec (Cf fuel F_dimacs_Clauses) false (acall (C fuel) false d) (acall (C fuel) true d) 86 (csub [true, true, true, true, false, true, false, false] (fbody Go.Proofs.Tryd.f38)) (asub [true, true, true, true, false, true, false, false] an38) fr h k

noncomputable def l_dimacs_Clauses_0r (fuel d : Nat) (n : Nat) (fr : Fr) (h : AHeap) : Option (AExit × Fr × AHeap) := aloop (s_dimacs_Clauses_0 fuel d) (some [1, 2, 3, 10, 11, 12, 17, 18, 19]) n fr h (kOut [1, 3, 8, 9, 10, 11])

noncomputable def l_dimacs_Clauses_0 : Nat → Nat → Nat → Fr → AHeap → Option (AExit × Fr × AHeap) := hide l_dimacs_Clauses_0r

theorem l_dimacs_Clauses_0_is : l_dimacs_Clauses_0 = l_dimacs_Clauses_0r := hide_eq _

noncomputable def k_dimacs_Clauses_0r (fuel d : Nat) : AExit → Fr → AHeap → Option (AVal × AHeap) := (kBlock 0 (kSeq (Cf fuel F_dimacs_Clauses) false (acall (C fuel) false d) (acall (C fuel) true d) 86 (csub [true, true, true, true, true] (fbody Go.Proofs.Tryd.f38)) (asub [true, true, true, true, true] an38) (kRet (Cf fuel F_dimacs_Clauses) Go.Proofs.Tryd.f38.results.toList)))

noncomputable def k_dimacs_Clauses_0 : Nat → Nat → AExit → Fr → AHeap → Option (AVal × AHeap) := hide k_dimacs_Clauses_0r

theorem k_dimacs_Clauses_0_is : k_dimacs_Clauses_0 = k_dimacs_Clauses_0r := hide_eq _

theorem e_dimacs_Clauses (fuel d : Nat) (x0 : Sl) (x1 : Int) (x2 : Int) (x3 : Int) (h : AHeap) :
    brun fuel (d + 1) F_dimacs_Clauses [(AVal.slice x0), (AVal.int .i64 x1), (AVal.int .i64 x2), (AVal.int .i64 x3)] h =
  (l_dimacs_Clauses_0 fuel d fuel [(1, (AVal.int .i64 x1)), (2, (AVal.int .i64 x2)), (3, (AVal.int .i64 x3)), (10, (AVal.slice Sl.nil)), (11, (AVal.slice Sl.nil)), (12, (AVal.int .i64 (0 : Int))), (17, (AVal.slice x0)), (18, (AVal.int .i64 ((x0.len : Nat) : Int))), (19, (AVal.int .i64 (0 : Int)))] h).bind fun p1 =>
    k_dimacs_Clauses_0 fuel d p1.1 p1.2.1 p1.2.2 := by
  generalize hh : brun = R
  rw [brun_is] at hh
  subst hh
  generalize hh : l_dimacs_Clauses_0 = R
  rw [l_dimacs_Clauses_0_is] at hh
  subst hh
  generalize hh : k_dimacs_Clauses_0 = R
  rw [k_dimacs_Clauses_0_is] at hh
  subst hh
  kernel_rfl

theorem l_dimacs_Clauses_0_eq (fuel d : Nat) (n : Nat) (x1 : Int) (x2 : Int) (x3 : Int) (x10 : Sl) (x11 : Sl) (x12 : Int) (x17 : Sl) (x18 : Int) (x19 : Int) (h : AHeap) :
    l_dimacs_Clauses_0 fuel d (n + 1) [(1, (AVal.int .i64 x1)), (2, (AVal.int .i64 x2)), (3, (AVal.int .i64 x3)), (10, (AVal.slice x10)), (11, (AVal.slice x11)), (12, (AVal.int .i64 x12)), (17, (AVal.slice x17)), (18, (AVal.int .i64 x18)), (19, (AVal.int .i64 x19))] h =
  (bif (decide (x19 < x18)) then ((AHeap.addr h 3 x17 x19).bind fun p1 =>
    (AHeap.cellsAt h 3 p1).bind fun c2 =>
    (bif (!false && Nat.beq (List.length c2) 3 && List.all c2 AVal.isCell) then ((AHeap.storeAt (AHeap.push h 1 [(AVal.str (⟨#[]⟩ : ByteArray)), (AVal.int .i64 (0 : Int)), (AVal.bool false)]) c2 (Pt.mk ⟨AHeap.next h, 0, 0⟩ 3)).bind fun h3 =>
    (Pt.field 0 (Pt.mk ⟨AHeap.next h, 0, 0⟩ 3)).bind fun p4 =>
    (AHeap.cell h3 p4).bind fun u5 =>
    (AVal.str? u5).bind fun s6 =>
    (run fuel d F_word_Number [(AVal.str s6)] h3).bind fun r7 =>
    (bif AVal.isTup 2 r7.1 then ((AVal.comp 0 r7.1).bind fun u8 =>
    (AVal.int? .i64 u8).bind fun n9 =>
    (AVal.comp 1 r7.1).bind fun u10 =>
    (AVal.bool? u10).bind fun b11 =>
    ((bif ((bif (decide (x3 ≤ ((x10.len : Nat) : Int))) then true else (!b11)) == false) then (((bif ((!decide (n9 = (0 : Int))) == true) then ((run fuel d F_lits_Is [(AVal.int .i64 n9), (AVal.int .i64 x2)] r7.2).bind fun r12 =>
    (AVal.bool? r12.1).bind fun b13 =>
    some ((AVal.bool (!b13)), r12.2)) else (some ((AVal.bool false), r7.2)) : Option (AVal × AHeap))).bind fun r14 =>
    (AVal.bool? r14.1).bind fun b15 =>
    some ((AVal.bool b15), r14.2)) else (some ((AVal.bool true), r7.2)) : Option (AVal × AHeap))).bind fun r16 =>
    (AVal.bool? r16.1).bind fun b17 =>
    (bif b17 then ((Pt.field 1 (Pt.mk ⟨AHeap.next h, 0, 0⟩ 3)).bind fun p18 =>
    (AHeap.cell r16.2 p18).bind fun u19 =>
    (AVal.int? .i64 u19).bind fun n20 =>
    (run fuel d F_dimacs_at [(AVal.int .i64 n20), err_api_ErrText] r16.2).bind fun r21 =>
    some (.ret, [(1, (AVal.int .i64 x1)), (3, (AVal.int .i64 x3)), (8, (AVal.slice Sl.nil)), (9, r21.1), (10, (AVal.slice x10)), (11, (AVal.slice x11))], r21.2)) else ((bif (decide (n9 = (0 : Int))) then ((AHeap.append (AHeap.fixL r16.2 [(AVal.slice x11)]).2 false 1 24 x10 1 (AHeap.fixL r16.2 [(AVal.slice x11)]).1).bind fun a22 =>
    l_dimacs_Clauses_0 fuel d n [(1, (AVal.int .i64 x1)), (2, (AVal.int .i64 x2)), (3, (AVal.int .i64 x3)), (10, (AVal.slice a22.1)), (11, (AVal.slice Sl.nil)), (12, (AVal.int .i64 x12)), (17, (AVal.slice x17)), (18, (AVal.int .i64 x18)), (19, (AVal.int .i64 (IntKind.wrap .i64 (x19 + (1 : Int)))))] a22.2) else ((bif (decide ((80000 : Int) ≤ x12)) then ((Pt.field 1 (Pt.mk ⟨AHeap.next h, 0, 0⟩ 3)).bind fun p23 =>
    (AHeap.cell r16.2 p23).bind fun u24 =>
    (AVal.int? .i64 u24).bind fun n25 =>
    (run fuel d F_dimacs_at [(AVal.int .i64 n25), err_api_ErrLimit] r16.2).bind fun r26 =>
    some (.ret, [(1, (AVal.int .i64 x1)), (3, (AVal.int .i64 x3)), (8, (AVal.slice Sl.nil)), (9, r26.1), (10, (AVal.slice x10)), (11, (AVal.slice x11))], r26.2)) else ((AHeap.append r16.2 false 1 8 x11 1 [(AVal.int .i64 n9)]).bind fun a27 =>
    l_dimacs_Clauses_0 fuel d n [(1, (AVal.int .i64 x1)), (2, (AVal.int .i64 x2)), (3, (AVal.int .i64 x3)), (10, (AVal.slice x10)), (11, (AVal.slice a27.1)), (12, (AVal.int .i64 (IntKind.wrap .i64 (x12 + (1 : Int))))), (17, (AVal.slice x17)), (18, (AVal.int .i64 x18)), (19, (AVal.int .i64 (IntKind.wrap .i64 (x19 + (1 : Int)))))] a27.2))))))) else none)) else (none))) else (some ((.exit 0), [(1, (AVal.int .i64 x1)), (3, (AVal.int .i64 x3)), (8, AVal.bot), (9, AVal.bot), (10, (AVal.slice x10)), (11, (AVal.slice x11))], h))) := by
  generalize hh : run = R
  rw [run_is] at hh
  subst hh
  generalize hh : l_dimacs_Clauses_0 = R
  rw [l_dimacs_Clauses_0_is] at hh
  subst hh
  kernel_rfl

theorem k_dimacs_Clauses_0_x0 (fuel d : Nat) (x1 : Int) (x3 : Int) (x8 : AVal) (x9 : AVal) (x10 : Sl) (x11 : Sl) (h : AHeap) :
    k_dimacs_Clauses_0 fuel d (.exit 0) [(1, (AVal.int .i64 x1)), (3, (AVal.int .i64 x3)), (8, x8), (9, x9), (10, (AVal.slice x10)), (11, (AVal.slice x11))] h =
  (bif (bif (decide (((x10.len : Nat) : Int) < x3)) then true else (decide ((0 : Int) < ((x11.len : Nat) : Int)))) then ((run fuel d F_dimacs_at [(AVal.int .i64 x1), err_api_ErrText] h).bind fun r1 =>
    some ((AVal.tup [(AVal.slice Sl.nil), r1.1]), r1.2)) else (some ((AVal.tup [(AVal.slice x10), AVal.nilif]), h))) := by
  generalize hh : run = R
  rw [run_is] at hh
  subst hh
  generalize hh : k_dimacs_Clauses_0 = R
  rw [k_dimacs_Clauses_0_is] at hh
  subst hh
  kernel_rfl

theorem k_dimacs_Clauses_0_r (fuel d : Nat) (x1 : AVal) (x3 : AVal) (x8 : Sl) (x9 : AVal) (x10 : AVal) (x11 : AVal) (h : AHeap) :
    k_dimacs_Clauses_0 fuel d .ret [(1, x1), (3, x3), (8, (AVal.slice x8)), (9, x9), (10, x10), (11, x11)] h =
  some ((AVal.tup [(AVal.slice x8), x9]), h) := by
  generalize hh : k_dimacs_Clauses_0 = R
  rw [k_dimacs_Clauses_0_is] at hh
  subst hh
  kernel_rfl

noncomputable def s_skolemref_SameClauses_0 (fuel d : Nat) : Run := fun fr h k => aexec (Cf fuel F_skolemref_SameClauses) false (acall (C fuel) false d) (acall (C fuel) true d) 29 (csub [true, true, false, true, false, false] (fbody Go.Proofs.Tryd.f40)) (asub [true, true, false, true, false, false] an40) fr h k

noncomputable def l_skolemref_SameClauses_0r (fuel d : Nat) (n : Nat) (fr : Fr) (h : AHeap) : Option (AExit × Fr × AHeap) := aloop (s_skolemref_SameClauses_0 fuel d) (some [0, 1, 5]) n fr h (kOut [4])

noncomputable def l_skolemref_SameClauses_0 : Nat → Nat → Nat → Fr → AHeap → Option (AExit × Fr × AHeap) := hide l_skolemref_SameClauses_0r

theorem l_skolemref_SameClauses_0_is : l_skolemref_SameClauses_0 = l_skolemref_SameClauses_0r := hide_eq _

noncomputable def k_skolemref_SameClauses_0r (fuel d : Nat) : AExit → Fr → AHeap → Option (AVal × AHeap) := (kBlock 0 (kSeq (Cf fuel F_skolemref_SameClauses) false (acall (C fuel) false d) (acall (C fuel) true d) 29 (csub [true, true, true] (fbody Go.Proofs.Tryd.f40)) (asub [true, true, true] an40) (kRet (Cf fuel F_skolemref_SameClauses) Go.Proofs.Tryd.f40.results.toList)))

noncomputable def k_skolemref_SameClauses_0 : Nat → Nat → AExit → Fr → AHeap → Option (AVal × AHeap) := hide k_skolemref_SameClauses_0r

theorem k_skolemref_SameClauses_0_is : k_skolemref_SameClauses_0 = k_skolemref_SameClauses_0r := hide_eq _

theorem e_skolemref_SameClauses (fuel d : Nat) (x0 : Sl) (x1 : Sl) (h : AHeap) :
    brun fuel (d + 1) F_skolemref_SameClauses [(AVal.slice x0), (AVal.slice x1)] h =
  (bif (!decide (((x0.len : Nat) : Int) = ((x1.len : Nat) : Int))) then (some ((AVal.bool false), h)) else ((l_skolemref_SameClauses_0 fuel d fuel [(0, (AVal.slice x0)), (1, (AVal.slice x1)), (5, (AVal.int .i64 (0 : Int)))] h).bind fun p1 =>
    k_skolemref_SameClauses_0 fuel d p1.1 p1.2.1 p1.2.2)) := by
  generalize hh : brun = R
  rw [brun_is] at hh
  subst hh
  generalize hh : l_skolemref_SameClauses_0 = R
  rw [l_skolemref_SameClauses_0_is] at hh
  subst hh
  generalize hh : k_skolemref_SameClauses_0 = R
  rw [k_skolemref_SameClauses_0_is] at hh
  subst hh
  kernel_rfl

theorem l_skolemref_SameClauses_0_eq (fuel d : Nat) (n : Nat) (x0 : Sl) (x1 : Sl) (x5 : Int) (h : AHeap) :
    l_skolemref_SameClauses_0 fuel d (n + 1) [(0, (AVal.slice x0)), (1, (AVal.slice x1)), (5, (AVal.int .i64 x5))] h =
  (bif (decide (x5 < ((x0.len : Nat) : Int))) then ((AHeap.addr h 1 x0 x5).bind fun p1 =>
    (AHeap.cell h p1).bind fun u2 =>
    (AVal.slice? u2).bind fun s3 =>
    (AHeap.addr h 1 x1 x5).bind fun p4 =>
    (AHeap.cell h p4).bind fun u5 =>
    (AVal.slice? u5).bind fun s6 =>
    (run fuel d F_skolemref_SameInts [(AVal.slice s3), (AVal.slice s6)] h).bind fun r7 =>
    (AVal.bool? r7.1).bind fun b8 =>
    (bif (!b8) then (some (.ret, [(4, (AVal.bool false))], r7.2)) else (l_skolemref_SameClauses_0 fuel d n [(0, (AVal.slice x0)), (1, (AVal.slice x1)), (5, (AVal.int .i64 (IntKind.wrap .i64 (x5 + (1 : Int)))))] r7.2))) else (some ((.exit 0), [(4, AVal.bot)], h))) := by
  generalize hh : run = R
  rw [run_is] at hh
  subst hh
  generalize hh : l_skolemref_SameClauses_0 = R
  rw [l_skolemref_SameClauses_0_is] at hh
  subst hh
  kernel_rfl

theorem k_skolemref_SameClauses_0_x0 (fuel d : Nat) (x4 : AVal) (h : AHeap) :
    k_skolemref_SameClauses_0 fuel d (.exit 0) [(4, x4)] h =
  some ((AVal.bool true), h) := by
  generalize hh : k_skolemref_SameClauses_0 = R
  rw [k_skolemref_SameClauses_0_is] at hh
  subst hh
  kernel_rfl

theorem e_skolemlaw5_first (fuel d : Nat)  (h : AHeap) :
    brun fuel (d + 1) F_skolemlaw5_first [] h =
  (run fuel d F_qdimacs_Read [(AVal.slice Sl.nil)] h).bind fun r1 =>
    (bif AVal.isTup 2 r1.1 then ((AVal.comp 0 r1.1).bind fun u2 =>
    (AVal.agg? u2).bind fun c3 =>
    (AVal.comp 1 r1.1).bind fun u4 =>
    (bif (!false && Nat.beq (List.length c3) 3 && List.all c3 AVal.isCell) then ((AHeap.storeAt (AHeap.push r1.2 1 [(AVal.slice Sl.nil), (AVal.int .i64 (0 : Int)), (AVal.slice Sl.nil)]) c3 (Pt.mk ⟨AHeap.next r1.2, 0, 0⟩ 3)).bind fun h5 =>
    (run fuel d F_skolemref_Placed [(AVal.int .i64 (101 : Int)), (AVal.int .i64 (0 : Int))] h5).bind fun r6 =>
    (AVal.agg? r6.1).bind fun c7 =>
    (run fuel d F_skolemsee_Same [u4, (AVal.agg c7)] r6.2).bind fun r8 =>
    (AVal.bool? r8.1).bind fun b9 =>
    ((bif (b9 == true) then ((run fuel d F_qdimacs_Bytes [(AVal.agg [(AVal.slice Sl.nil), (AVal.int .i64 (0 : Int)), (AVal.slice Sl.nil)])] r8.2).bind fun r10 =>
    (AVal.slice? r10.1).bind fun s11 =>
    some ((AVal.bool (decide ((0 : Int) < ((s11.len : Nat) : Int)))), r10.2)) else (some ((AVal.bool false), r8.2)) : Option (AVal × AHeap))).bind fun r12 =>
    (AVal.bool? r12.1).bind fun b13 =>
    some ((AVal.bool b13), r12.2)) else (none))) else none) := by
  generalize hh : run = R
  rw [run_is] at hh
  subst hh
  generalize hh : brun = R
  rw [brun_is] at hh
  subst hh
  kernel_rfl

theorem e_qdimacs_Read (fuel d : Nat) (x0 : Sl) (h : AHeap) :
    brun fuel (d + 1) F_qdimacs_Read [(AVal.slice x0)] h =
  (bif (decide ((1048576 : Int) < ((x0.len : Nat) : Int))) then (none) else ((run fuel d F_word_Split [(AVal.slice x0), (AVal.bool true)] (AHeap.push h 1 [(AVal.slice Sl.nil), (AVal.int .i64 (0 : Int)), (AVal.slice Sl.nil)])).bind fun r1 =>
    (AVal.slice? r1.1).bind fun s2 =>
    (run fuel d F_dimacs_Head [(AVal.slice s2), (AVal.int .i64 ((x0.len : Nat) : Int))] r1.2).bind fun r3 =>
    (bif AVal.isTup 4 r3.1 then ((AVal.comp 0 r3.1).bind fun u4 =>
    (AVal.int? .i64 u4).bind fun n5 =>
    (AVal.comp 1 r3.1).bind fun u6 =>
    (AVal.int? .i64 u6).bind fun n7 =>
    (AVal.comp 2 r3.1).bind fun u8 =>
    (AVal.int? .i64 u8).bind fun n9 =>
    (AVal.comp 3 r3.1).bind fun u10 =>
    (nilTest .iface u10).bind fun b11 =>
    (bif (!b11) then ((AHeap.storeAt r3.2 [(AVal.slice Sl.nil), (AVal.int .i64 (0 : Int)), (AVal.slice Sl.nil)] (Pt.mk ⟨AHeap.next h, 0, 0⟩ 3)).bind fun h12 =>
    (((((AHeap.cellsAt h12 3 (Pt.mk ⟨AHeap.next h, 0, 0⟩ 3)).bind fun c14 =>
    some ((AVal.agg c14)) : Option AVal).bind fun v13 =>
    some [v13, u10]) : Option (List AVal)).map AVal.tup).map fun v => (v, h12)) else ((run fuel d F_qdimacs_reader_blocks [(AVal.ptr (Pt.mk ⟨AHeap.next (AHeap.newMap r3.2), 0, 0⟩ 5))] (AHeap.push (AHeap.newMap r3.2) 1 [(AVal.slice s2), (AVal.int .i64 n9), (AVal.int .i64 ((x0.len : Nat) : Int)), (AVal.int .i64 n5), (AVal.map (some (List.length (AHeap.maps r3.2))))])).bind fun r15 =>
    (bif AVal.isTup 2 r15.1 then ((AVal.comp 0 r15.1).bind fun u16 =>
    (AVal.slice? u16).bind fun s17 =>
    (AVal.comp 1 r15.1).bind fun u18 =>
    (nilTest .iface u18).bind fun b19 =>
    (bif (!b19) then ((AHeap.storeAt r15.2 [(AVal.slice Sl.nil), (AVal.int .i64 (0 : Int)), (AVal.slice Sl.nil)] (Pt.mk ⟨AHeap.next h, 0, 0⟩ 3)).bind fun h20 =>
    (((((AHeap.cellsAt h20 3 (Pt.mk ⟨AHeap.next h, 0, 0⟩ 3)).bind fun c22 =>
    some ((AVal.agg c22)) : Option AVal).bind fun v21 =>
    some [v21, u18]) : Option (List AVal)).map AVal.tup).map fun v => (v, h20)) else ((Pt.chk (Pt.mk ⟨AHeap.next (AHeap.newMap r3.2), 0, 0⟩ 5)).bind fun p23 =>
    (Pt.field 1 p23).bind fun p24 =>
    (AHeap.cell r15.2 p24).bind fun u25 =>
    (AVal.int? .i64 u25).bind fun n26 =>
    (aHi (none : Option AVal) (Sl.len s2)).bind fun hi27 =>
    (aLo (some (AVal.int .i64 n26)) hi27).bind fun lo28 =>
    (aMx (none : Option AVal) hi27).bind fun cl29 =>
    (bif (AHeap.hasSz r15.2 3 s2) then ((run fuel d F_dimacs_Clauses [(AVal.slice (Sl.cut s2 3 lo28 hi27 cl29)), (AVal.int .i64 ((x0.len : Nat) : Int)), (AVal.int .i64 n5), (AVal.int .i64 n7)] r15.2).bind fun r30 =>
    (bif AVal.isTup 2 r30.1 then ((AVal.comp 0 r30.1).bind fun u31 =>
    (AVal.slice? u31).bind fun s32 =>
    (AVal.comp 1 r30.1).bind fun u33 =>
    (nilTest .iface u33).bind fun b34 =>
    (bif (!b34) then ((AHeap.storeAt r30.2 [(AVal.slice Sl.nil), (AVal.int .i64 (0 : Int)), (AVal.slice Sl.nil)] (Pt.mk ⟨AHeap.next h, 0, 0⟩ 3)).bind fun h35 =>
    (((((AHeap.cellsAt h35 3 (Pt.mk ⟨AHeap.next h, 0, 0⟩ 3)).bind fun c37 =>
    some ((AVal.agg c37)) : Option AVal).bind fun v36 =>
    some [v36, u33]) : Option (List AVal)).map AVal.tup).map fun v => (v, h35)) else ((AHeap.storeAt r30.2 [(AVal.slice s17), (AVal.int .i64 n5), (AVal.slice s32)] (Pt.mk ⟨AHeap.next h, 0, 0⟩ 3)).bind fun h38 =>
    (((((AHeap.cellsAt h38 3 (Pt.mk ⟨AHeap.next h, 0, 0⟩ 3)).bind fun c40 =>
    some ((AVal.agg c40)) : Option AVal).bind fun v39 =>
    some [v39, AVal.nilif]) : Option (List AVal)).map AVal.tup).map fun v => (v, h38)))) else none)) else (none))))) else none)))) else none))) := by
  generalize hh : run = R
  rw [run_is] at hh
  subst hh
  generalize hh : brun = R
  rw [brun_is] at hh
  subst hh
  kernel_rfl

theorem e_skolemref_SameFormula (fuel d : Nat) (x0 : List AVal) (x1 : List AVal) (h : AHeap) :
    brun fuel (d + 1) F_skolemref_SameFormula [(AVal.agg x0), (AVal.agg x1)] h =
  (bif (List.all x0 AVal.isCell) then ((bif (List.all x1 AVal.isCell) then ((Pt.field 0 (Pt.mk ⟨AHeap.next h, 0, 0⟩ (List.length x0))).bind fun p1 =>
    (AHeap.cell (AHeap.push (AHeap.push h 1 x0) 1 x1) p1).bind fun u2 =>
    (AVal.slice? u2).bind fun s3 =>
    (Pt.field 0 (Pt.mk ⟨AHeap.next (AHeap.push h 1 x0), 0, 0⟩ (List.length x1))).bind fun p4 =>
    (AHeap.cell (AHeap.push (AHeap.push h 1 x0) 1 x1) p4).bind fun u5 =>
    (AVal.slice? u5).bind fun s6 =>
    (run fuel d F_skolemref_SameBlocks [(AVal.slice s3), (AVal.slice s6)] (AHeap.push (AHeap.push h 1 x0) 1 x1)).bind fun r7 =>
    (AVal.bool? r7.1).bind fun b8 =>
    ((bif (b8 == true) then ((Pt.field 1 (Pt.mk ⟨AHeap.next h, 0, 0⟩ (List.length x0))).bind fun p9 =>
    (AHeap.cellsAt r7.2 2 p9).bind fun c10 =>
    (Pt.field 1 (Pt.mk ⟨AHeap.next (AHeap.push h 1 x0), 0, 0⟩ (List.length x1))).bind fun p11 =>
    (AHeap.cellsAt r7.2 2 p11).bind fun c12 =>
    (run fuel d F_skolemref_SameCNF [(AVal.agg c10), (AVal.agg c12)] r7.2).bind fun r13 =>
    (AVal.bool? r13.1).bind fun b14 =>
    some ((AVal.bool b14), r13.2)) else (some ((AVal.bool false), r7.2)) : Option (AVal × AHeap))).bind fun r15 =>
    (AVal.bool? r15.1).bind fun b16 =>
    some ((AVal.bool b16), r15.2)) else (none))) else (none)) := by
  generalize hh : run = R
  rw [run_is] at hh
  subst hh
  generalize hh : brun = R
  rw [brun_is] at hh
  subst hh
  kernel_rfl

noncomputable def s_skolemmake_Near_0 (fuel d : Nat) : Run := fun fr h k => aexec (Cf fuel F_skolemmake_Near) false (acall (C fuel) false d) (acall (C fuel) true d) 15 (csub [true, false, true, false, false] (fbody Go.Proofs.Tryd.f48)) (asub [true, false, true, false, false] an48) fr h k

noncomputable def l_skolemmake_Near_0r (fuel d : Nat) (n : Nat) (fr : Fr) (h : AHeap) : Option (AExit × Fr × AHeap) := aloop (s_skolemmake_Near_0 fuel d) (some [0, 3]) n fr h (kOut [2])

noncomputable def l_skolemmake_Near_0 : Nat → Nat → Nat → Fr → AHeap → Option (AExit × Fr × AHeap) := hide l_skolemmake_Near_0r

theorem l_skolemmake_Near_0_is : l_skolemmake_Near_0 = l_skolemmake_Near_0r := hide_eq _

noncomputable def k_skolemmake_Near_0r (fuel d : Nat) : AExit → Fr → AHeap → Option (AVal × AHeap) := (kBlock 0 (kSeq (Cf fuel F_skolemmake_Near) false (acall (C fuel) false d) (acall (C fuel) true d) 15 (csub [true, true] (fbody Go.Proofs.Tryd.f48)) (asub [true, true] an48) (kRet (Cf fuel F_skolemmake_Near) Go.Proofs.Tryd.f48.results.toList)))

noncomputable def k_skolemmake_Near_0 : Nat → Nat → AExit → Fr → AHeap → Option (AVal × AHeap) := hide k_skolemmake_Near_0r

theorem k_skolemmake_Near_0_is : k_skolemmake_Near_0 = k_skolemmake_Near_0r := hide_eq _

theorem e_skolemmake_Near (fuel d : Nat) (x0 : Sl) (h : AHeap) :
    brun fuel (d + 1) F_skolemmake_Near [(AVal.slice x0)] h =
  (l_skolemmake_Near_0 fuel d fuel [(0, (AVal.slice x0)), (3, (AVal.int .i64 (0 : Int)))] h).bind fun p1 =>
    k_skolemmake_Near_0 fuel d p1.1 p1.2.1 p1.2.2 := by
  generalize hh : brun = R
  rw [brun_is] at hh
  subst hh
  generalize hh : l_skolemmake_Near_0 = R
  rw [l_skolemmake_Near_0_is] at hh
  subst hh
  generalize hh : k_skolemmake_Near_0 = R
  rw [k_skolemmake_Near_0_is] at hh
  subst hh
  kernel_rfl

theorem l_skolemmake_Near_0_eq (fuel d : Nat) (n : Nat) (x0 : Sl) (x3 : Int) (h : AHeap) :
    l_skolemmake_Near_0 fuel d (n + 1) [(0, (AVal.slice x0)), (3, (AVal.int .i64 x3))] h =
  (bif (decide (x3 < ((x0.len : Nat) : Int))) then ((AHeap.addr h 1 x0 x3).bind fun p1 =>
    (AHeap.cell h p1).bind fun u2 =>
    (AVal.int? .i64 u2).bind fun n3 =>
    (bif (decide (n3 < (-1152921504606846976 : Int))) then (some (.ret, [(2, (AVal.bool false))], h)) else (l_skolemmake_Near_0 fuel d n [(0, (AVal.slice x0)), (3, (AVal.int .i64 (IntKind.wrap .i64 (x3 + (1 : Int)))))] h))) else (some ((.exit 0), [(2, AVal.bot)], h))) := by
  generalize hh : l_skolemmake_Near_0 = R
  rw [l_skolemmake_Near_0_is] at hh
  subst hh
  kernel_rfl

theorem k_skolemmake_Near_0_x0 (fuel d : Nat) (x2 : AVal) (h : AHeap) :
    k_skolemmake_Near_0 fuel d (.exit 0) [(2, x2)] h =
  some ((AVal.bool true), h) := by
  generalize hh : k_skolemmake_Near_0 = R
  rw [k_skolemmake_Near_0_is] at hh
  subst hh
  kernel_rfl

theorem k_skolemmake_Near_0_r (fuel d : Nat) (x2 : Bool) (h : AHeap) :
    k_skolemmake_Near_0 fuel d .ret [(2, (AVal.bool x2))] h =
  some ((AVal.bool x2), h) := by
  generalize hh : k_skolemmake_Near_0 = R
  rw [k_skolemmake_Near_0_is] at hh
  subst hh
  kernel_rfl

noncomputable def s_qdimacs_Bytes_0 (fuel d : Nat) : Run := fun fr h k => aexec (Cf fuel F_qdimacs_Bytes) false (acall (C fuel) false d) (acall (C fuel) true d) 44 (csub [true, true, false, true, false, false] (fbody Go.Proofs.Tryd.f52)) (asub [true, true, false, true, false, false] an52) fr h k

noncomputable def l_qdimacs_Bytes_0r (fuel d : Nat) (n : Nat) (fr : Fr) (h : AHeap) : Option (AExit × Fr × AHeap) := aloop (s_qdimacs_Bytes_0 fuel d) (some [1, 3, 12, 13, 14]) n fr h (kOut [1, 3])

noncomputable def l_qdimacs_Bytes_0 : Nat → Nat → Nat → Fr → AHeap → Option (AExit × Fr × AHeap) := hide l_qdimacs_Bytes_0r

theorem l_qdimacs_Bytes_0_is : l_qdimacs_Bytes_0 = l_qdimacs_Bytes_0r := hide_eq _

noncomputable def k_qdimacs_Bytes_0r (fuel d : Nat) : AExit → Fr → AHeap → Option (AVal × AHeap) := (kBlock 0 (kSeq (Cf fuel F_qdimacs_Bytes) false (acall (C fuel) false d) (acall (C fuel) true d) 44 (csub [true, true, true] (fbody Go.Proofs.Tryd.f52)) (asub [true, true, true] an52) (kRet (Cf fuel F_qdimacs_Bytes) Go.Proofs.Tryd.f52.results.toList)))

noncomputable def k_qdimacs_Bytes_0 : Nat → Nat → AExit → Fr → AHeap → Option (AVal × AHeap) := hide k_qdimacs_Bytes_0r

theorem k_qdimacs_Bytes_0_is : k_qdimacs_Bytes_0 = k_qdimacs_Bytes_0r := hide_eq _

noncomputable def k_qdimacs_Bytes_1r (fuel d : Nat) (n : Nat) : AExit → Fr → AHeap → Option (AExit × Fr × AHeap) := (kSeq (Cf fuel F_qdimacs_Bytes) false (acall (C fuel) false d) (acall (C fuel) true d) 44 (csub [true, true, false, true, false, false, true, true, false, false, true, true] (fbody Go.Proofs.Tryd.f52)) (asub [true, true, false, true, false, false, true, true, false, false, true, true] an52) (kBlock 1 (kSeq (Cf fuel F_qdimacs_Bytes) false (acall (C fuel) false d) (acall (C fuel) true d) 44 (csub [true, true, false, true, false, false, true, true, true] (fbody Go.Proofs.Tryd.f52)) (asub [true, true, false, true, false, false, true, true, true] an52) (kLoop (s_qdimacs_Bytes_0 fuel d) (some [1, 3, 12, 13, 14]) n (kOut [1, 3])))))

noncomputable def k_qdimacs_Bytes_1 : Nat → Nat → Nat → AExit → Fr → AHeap → Option (AExit × Fr × AHeap) := hide k_qdimacs_Bytes_1r

theorem k_qdimacs_Bytes_1_is : k_qdimacs_Bytes_1 = k_qdimacs_Bytes_1r := hide_eq _

noncomputable def s_qdimacs_Bytes_1 (fuel d : Nat) : Run := fun fr h k => aexec (Cf fuel F_qdimacs_Bytes) false (acall (C fuel) false d) (acall (C fuel) true d) 44 (csub [true, true, true, false, true, false, false] (fbody Go.Proofs.Tryd.f52)) (asub [true, true, true, false, true, false, false] an52) fr h k

noncomputable def l_qdimacs_Bytes_1r (fuel d : Nat) (n : Nat) (fr : Fr) (h : AHeap) : Option (AExit × Fr × AHeap) := aloop (s_qdimacs_Bytes_1 fuel d) (some [3, 33, 34, 35]) n fr h (kOut [3])

noncomputable def l_qdimacs_Bytes_1 : Nat → Nat → Nat → Fr → AHeap → Option (AExit × Fr × AHeap) := hide l_qdimacs_Bytes_1r

theorem l_qdimacs_Bytes_1_is : l_qdimacs_Bytes_1 = l_qdimacs_Bytes_1r := hide_eq _

noncomputable def k_qdimacs_Bytes_2r (fuel d : Nat) : AExit → Fr → AHeap → Option (AVal × AHeap) := (kBlock 2 (kSeq (Cf fuel F_qdimacs_Bytes) false (acall (C fuel) false d) (acall (C fuel) true d) 44 (csub [true, true, true, true] (fbody Go.Proofs.Tryd.f52)) (asub [true, true, true, true] an52) (kRet (Cf fuel F_qdimacs_Bytes) Go.Proofs.Tryd.f52.results.toList)))

noncomputable def k_qdimacs_Bytes_2 : Nat → Nat → AExit → Fr → AHeap → Option (AVal × AHeap) := hide k_qdimacs_Bytes_2r

theorem k_qdimacs_Bytes_2_is : k_qdimacs_Bytes_2 = k_qdimacs_Bytes_2r := hide_eq _

theorem e_qdimacs_Bytes (fuel d : Nat) (x0 : List AVal) (h : AHeap) :
    brun fuel (d + 1) F_qdimacs_Bytes [(AVal.agg x0)] h =
  (bif (List.all x0 AVal.isCell) then ((Pt.field 1 (Pt.mk ⟨AHeap.next h, 0, 0⟩ (List.length x0))).bind fun p1 =>
    (AHeap.cellsAt (AHeap.push h 1 x0) 2 p1).bind fun c2 =>
    (run fuel d F_dimacs_HeadBytes [(AVal.agg c2)] (AHeap.push h 1 x0)).bind fun r3 =>
    (AVal.slice? r3.1).bind fun s4 =>
    (Pt.field 0 (Pt.mk ⟨AHeap.next h, 0, 0⟩ (List.length x0))).bind fun p5 =>
    (AHeap.cell r3.2 p5).bind fun u6 =>
    (AVal.slice? u6).bind fun s7 =>
    (l_qdimacs_Bytes_0 fuel d fuel [(1, (AVal.ptr (Pt.mk ⟨AHeap.next h, 0, 0⟩ (List.length x0)))), (3, (AVal.slice s4)), (12, (AVal.slice s7)), (13, (AVal.int .i64 ((s7.len : Nat) : Int))), (14, (AVal.int .i64 (0 : Int)))] r3.2).bind fun p8 =>
    k_qdimacs_Bytes_0 fuel d p8.1 p8.2.1 p8.2.2) else (none)) := by
  generalize hh : run = R
  rw [run_is] at hh
  subst hh
  generalize hh : brun = R
  rw [brun_is] at hh
  subst hh
  generalize hh : l_qdimacs_Bytes_0 = R
  rw [l_qdimacs_Bytes_0_is] at hh
  subst hh
  generalize hh : k_qdimacs_Bytes_0 = R
  rw [k_qdimacs_Bytes_0_is] at hh
  subst hh
  kernel_rfl

theorem l_qdimacs_Bytes_0_eq (fuel d : Nat) (n : Nat) (x1 : Pt) (x3 : Sl) (x12 : Sl) (x13 : Int) (x14 : Int) (h : AHeap) :
    l_qdimacs_Bytes_0 fuel d (n + 1) [(1, (AVal.ptr x1)), (3, (AVal.slice x3)), (12, (AVal.slice x12)), (13, (AVal.int .i64 x13)), (14, (AVal.int .i64 x14))] h =
  (bif (decide (x14 < x13)) then ((AHeap.addr h 2 x12 x14).bind fun p1 =>
    (AHeap.cellsAt h 2 p1).bind fun c2 =>
    (bif (!false && Nat.beq (List.length c2) 2 && List.all c2 AVal.isCell) then ((AHeap.storeAt (AHeap.push h 1 [(AVal.bool false), (AVal.slice Sl.nil)]) c2 (Pt.mk ⟨AHeap.next h, 0, 0⟩ 2)).bind fun h3 =>
    (Pt.field 0 (Pt.mk ⟨AHeap.next h, 0, 0⟩ 2)).bind fun p4 =>
    (AHeap.cell h3 p4).bind fun u5 =>
    (AVal.bool? u5).bind fun b6 =>
    ((bif b6 then ((AHeap.sliceCells (AHeap.push h3 1 [(AVal.int .u8 (101 : Int)), (AVal.int .u8 (32 : Int))]) 1 (Sl.mk ⟨AHeap.next h3, 0, 0⟩ 2 true)).bind fun xs7 =>
    (AHeap.append (AHeap.push h3 1 [(AVal.int .u8 (101 : Int)), (AVal.int .u8 (32 : Int))]) false 1 1 x3 (Sl.mk ⟨AHeap.next h3, 0, 0⟩ 2 true).len xs7).bind fun a8 =>
    some (.normal, [(1, (AVal.ptr x1)), (3, (AVal.slice a8.1)), (5, (AVal.ptr (Pt.mk ⟨AHeap.next h, 0, 0⟩ 2))), (12, (AVal.slice x12)), (13, (AVal.int .i64 x13)), (14, (AVal.int .i64 x14))], a8.2)) else ((AHeap.sliceCells (AHeap.push h3 1 [(AVal.int .u8 (97 : Int)), (AVal.int .u8 (32 : Int))]) 1 (Sl.mk ⟨AHeap.next h3, 0, 0⟩ 2 true)).bind fun xs9 =>
    (AHeap.append (AHeap.push h3 1 [(AVal.int .u8 (97 : Int)), (AVal.int .u8 (32 : Int))]) false 1 1 x3 (Sl.mk ⟨AHeap.next h3, 0, 0⟩ 2 true).len xs9).bind fun a10 =>
    some (.normal, [(1, (AVal.ptr x1)), (3, (AVal.slice a10.1)), (5, (AVal.ptr (Pt.mk ⟨AHeap.next h, 0, 0⟩ 2))), (12, (AVal.slice x12)), (13, (AVal.int .i64 x13)), (14, (AVal.int .i64 x14))], a10.2)))).bind fun p11 =>
    k_qdimacs_Bytes_1 fuel d n p11.1 p11.2.1 p11.2.2) else (none))) else (some ((.exit 0), [(1, (AVal.ptr x1)), (3, (AVal.slice x3))], h))) := by
  generalize hh : l_qdimacs_Bytes_0 = R
  rw [l_qdimacs_Bytes_0_is] at hh
  subst hh
  generalize hh : k_qdimacs_Bytes_1 = R
  rw [k_qdimacs_Bytes_1_is] at hh
  subst hh
  kernel_rfl

theorem k_qdimacs_Bytes_0_x0 (fuel d : Nat) (x1 : Pt) (x3 : Sl) (h : AHeap) :
    k_qdimacs_Bytes_0 fuel d (.exit 0) [(1, (AVal.ptr x1)), (3, (AVal.slice x3))] h =
  (Pt.field 1 x1).bind fun p1 =>
    (Pt.field 1 p1).bind fun p2 =>
    (AHeap.cell h p2).bind fun u3 =>
    (AVal.slice? u3).bind fun s4 =>
    (l_qdimacs_Bytes_1 fuel d fuel [(3, (AVal.slice x3)), (33, (AVal.slice s4)), (34, (AVal.int .i64 ((s4.len : Nat) : Int))), (35, (AVal.int .i64 (0 : Int)))] h).bind fun p5 =>
    k_qdimacs_Bytes_2 fuel d p5.1 p5.2.1 p5.2.2 := by
  generalize hh : k_qdimacs_Bytes_0 = R
  rw [k_qdimacs_Bytes_0_is] at hh
  subst hh
  generalize hh : l_qdimacs_Bytes_1 = R
  rw [l_qdimacs_Bytes_1_is] at hh
  subst hh
  generalize hh : k_qdimacs_Bytes_2 = R
  rw [k_qdimacs_Bytes_2_is] at hh
  subst hh
  kernel_rfl

theorem k_qdimacs_Bytes_1_n (fuel d : Nat) (n : Nat) (x1 : Pt) (x3 : Sl) (x5 : Pt) (x12 : Sl) (x13 : Int) (x14 : Int) (h : AHeap) :
    k_qdimacs_Bytes_1 fuel d n .normal [(1, (AVal.ptr x1)), (3, (AVal.slice x3)), (5, (AVal.ptr x5)), (12, (AVal.slice x12)), (13, (AVal.int .i64 x13)), (14, (AVal.int .i64 x14))] h =
  (Pt.field 1 x5).bind fun p1 =>
    (AHeap.cell h p1).bind fun u2 =>
    (AVal.slice? u2).bind fun s3 =>
    (run fuel d F_dimacs_Line [(AVal.slice x3), (AVal.slice s3)] h).bind fun r4 =>
    (AVal.slice? r4.1).bind fun s5 =>
    l_qdimacs_Bytes_0 fuel d n [(1, (AVal.ptr x1)), (3, (AVal.slice s5)), (12, (AVal.slice x12)), (13, (AVal.int .i64 x13)), (14, (AVal.int .i64 (IntKind.wrap .i64 (x14 + (1 : Int)))))] r4.2 := by
  generalize hh : run = R
  rw [run_is] at hh
  subst hh
  generalize hh : l_qdimacs_Bytes_0 = R
  rw [l_qdimacs_Bytes_0_is] at hh
  subst hh
  generalize hh : k_qdimacs_Bytes_1 = R
  rw [k_qdimacs_Bytes_1_is] at hh
  subst hh
  kernel_rfl

theorem l_qdimacs_Bytes_1_eq (fuel d : Nat) (n : Nat) (x3 : Sl) (x33 : Sl) (x34 : Int) (x35 : Int) (h : AHeap) :
    l_qdimacs_Bytes_1 fuel d (n + 1) [(3, (AVal.slice x3)), (33, (AVal.slice x33)), (34, (AVal.int .i64 x34)), (35, (AVal.int .i64 x35))] h =
  (bif (decide (x35 < x34)) then ((AHeap.addr h 1 x33 x35).bind fun p1 =>
    (AHeap.cell h p1).bind fun u2 =>
    (AVal.slice? u2).bind fun s3 =>
    (run fuel d F_dimacs_Line [(AVal.slice x3), (AVal.slice s3)] h).bind fun r4 =>
    (AVal.slice? r4.1).bind fun s5 =>
    l_qdimacs_Bytes_1 fuel d n [(3, (AVal.slice s5)), (33, (AVal.slice x33)), (34, (AVal.int .i64 x34)), (35, (AVal.int .i64 (IntKind.wrap .i64 (x35 + (1 : Int)))))] r4.2) else (some ((.exit 2), [(3, (AVal.slice x3))], h))) := by
  generalize hh : run = R
  rw [run_is] at hh
  subst hh
  generalize hh : l_qdimacs_Bytes_1 = R
  rw [l_qdimacs_Bytes_1_is] at hh
  subst hh
  kernel_rfl

theorem k_qdimacs_Bytes_2_x2 (fuel d : Nat) (x3 : Sl) (h : AHeap) :
    k_qdimacs_Bytes_2 fuel d (.exit 2) [(3, (AVal.slice x3))] h =
  some ((AVal.slice x3), h) := by
  generalize hh : k_qdimacs_Bytes_2 = R
  rw [k_qdimacs_Bytes_2_is] at hh
  subst hh
  kernel_rfl

noncomputable def k_word_Number_0r (fuel d : Nat) : AExit → Fr → AHeap → Option (AVal × AHeap) := (kSeq (Cf fuel F_word_Number) false (acall (C fuel) false d) (acall (C fuel) true d) 51 (csub [true, true, true] (fbody Go.Proofs.Tryd.f55)) (asub [true, true, true] an55) (kRet (Cf fuel F_word_Number) Go.Proofs.Tryd.f55.results.toList))

noncomputable def k_word_Number_0 : Nat → Nat → AExit → Fr → AHeap → Option (AVal × AHeap) := hide k_word_Number_0r

theorem k_word_Number_0_is : k_word_Number_0 = k_word_Number_0r := hide_eq _

noncomputable def s_word_Number_0 (fuel d : Nat) : Run := fun fr h k => aexec (Cf fuel F_word_Number) false (acall (C fuel) false d) (acall (C fuel) true d) 51 (csub [true, true, true, true, false, true, false, false] (fbody Go.Proofs.Tryd.f55)) (asub [true, true, true, true, false, true, false, false] an55) fr h k

noncomputable def l_word_Number_0r (fuel d : Nat) (n : Nat) (fr : Fr) (h : AHeap) : Option (AExit × Fr × AHeap) := aloop (s_word_Number_0 fuel d) (some [0, 4, 28, 29]) n fr h (kOut [0, 2, 3])

noncomputable def l_word_Number_0 : Nat → Nat → Nat → Fr → AHeap → Option (AExit × Fr × AHeap) := hide l_word_Number_0r

theorem l_word_Number_0_is : l_word_Number_0 = l_word_Number_0r := hide_eq _

noncomputable def k_word_Number_1r (fuel d : Nat) : AExit → Fr → AHeap → Option (AVal × AHeap) := (kBlock 0 (kSeq (Cf fuel F_word_Number) false (acall (C fuel) false d) (acall (C fuel) true d) 51 (csub [true, true, true, true, true] (fbody Go.Proofs.Tryd.f55)) (asub [true, true, true, true, true] an55) (kRet (Cf fuel F_word_Number) Go.Proofs.Tryd.f55.results.toList)))

noncomputable def k_word_Number_1 : Nat → Nat → AExit → Fr → AHeap → Option (AVal × AHeap) := hide k_word_Number_1r

theorem k_word_Number_1_is : k_word_Number_1 = k_word_Number_1r := hide_eq _

theorem e_word_Number (fuel d : Nat) (x0 : ByteArray) (h : AHeap) :
    brun fuel (d + 1) F_word_Number [(AVal.str x0)] h =
  ((bif ((decide ((0 : Int) < ((ByteArray.size x0 : Nat) : Int))) == true) then ((strAt x0 (0 : Int)).bind fun n1 =>
    some ((AVal.bool (decide (n1 = (45 : Int)))), h)) else (some ((AVal.bool false), h)) : Option (AVal × AHeap))).bind fun r2 =>
    (AVal.bool? r2.1).bind fun b3 =>
    ((bif b3 then ((aHi (none : Option AVal) (ByteArray.size x0)).bind fun hi4 =>
    (aLo (some (AVal.int .i64 (1 : Int))) hi4).bind fun lo5 =>
    some (.normal, [(0, (AVal.str x0)), (4, (AVal.str (ByteArray.extract x0 lo5 hi4)))], r2.2)) else (some (.normal, [(0, (AVal.str x0)), (4, (AVal.str x0))], r2.2)))).bind fun p6 =>
    k_word_Number_0 fuel d p6.1 p6.2.1 p6.2.2 := by
  generalize hh : brun = R
  rw [brun_is] at hh
  subst hh
  generalize hh : k_word_Number_0 = R
  rw [k_word_Number_0_is] at hh
  subst hh
  kernel_rfl

theorem k_word_Number_0_n (fuel d : Nat) (x0 : ByteArray) (x4 : ByteArray) (h : AHeap) :
    k_word_Number_0 fuel d .normal [(0, (AVal.str x0)), (4, (AVal.str x4))] h =
  (bif (bif (decide (((ByteArray.size x4 : Nat) : Int) < (1 : Int))) then true else (decide ((9 : Int) < ((ByteArray.size x4 : Nat) : Int)))) then (some ((AVal.tup [(AVal.int .i64 (0 : Int)), (AVal.bool false)]), h)) else ((l_word_Number_0 fuel d fuel [(0, (AVal.str x0)), (4, (AVal.str x4)), (28, (AVal.int .i64 ((ByteArray.size x4 : Nat) : Int))), (29, (AVal.int .i64 (0 : Int)))] h).bind fun p1 =>
    k_word_Number_1 fuel d p1.1 p1.2.1 p1.2.2)) := by
  generalize hh : k_word_Number_0 = R
  rw [k_word_Number_0_is] at hh
  subst hh
  generalize hh : l_word_Number_0 = R
  rw [l_word_Number_0_is] at hh
  subst hh
  generalize hh : k_word_Number_1 = R
  rw [k_word_Number_1_is] at hh
  subst hh
  kernel_rfl

theorem l_word_Number_0_eq (fuel d : Nat) (n : Nat) (x0 : ByteArray) (x4 : ByteArray) (x28 : Int) (x29 : Int) (h : AHeap) :
    l_word_Number_0 fuel d (n + 1) [(0, (AVal.str x0)), (4, (AVal.str x4)), (28, (AVal.int .i64 x28)), (29, (AVal.int .i64 x29))] h =
  (bif (decide (x29 < x28)) then ((strAt x4 x29).bind fun n1 =>
    ((bif ((decide (n1 < (48 : Int))) == false) then ((strAt x4 x29).bind fun n2 =>
    some ((AVal.bool (decide ((57 : Int) < n2))), h)) else (some ((AVal.bool true), h)) : Option (AVal × AHeap))).bind fun r3 =>
    (AVal.bool? r3.1).bind fun b4 =>
    (bif b4 then (some (.ret, [(0, (AVal.str x0)), (2, (AVal.int .i64 (0 : Int))), (3, (AVal.bool false))], r3.2)) else (l_word_Number_0 fuel d n [(0, (AVal.str x0)), (4, (AVal.str x4)), (28, (AVal.int .i64 x28)), (29, (AVal.int .i64 (IntKind.wrap .i64 (x29 + (1 : Int)))))] r3.2))) else (some ((.exit 0), [(0, (AVal.str x0)), (2, AVal.bot), (3, AVal.bot)], h))) := by
  generalize hh : l_word_Number_0 = R
  rw [l_word_Number_0_is] at hh
  subst hh
  kernel_rfl

theorem k_word_Number_1_x0 (fuel d : Nat) (x0 : ByteArray) (x2 : AVal) (x3 : AVal) (h : AHeap) :
    k_word_Number_1 fuel d (.exit 0) [(0, (AVal.str x0)), (2, x2), (3, x3)] h =
  (run fuel d F_strconv_Atoi [(AVal.str x0)] h).bind fun r1 =>
    (bif AVal.isTup 2 r1.1 then ((AVal.comp 0 r1.1).bind fun u2 =>
    (AVal.int? .i64 u2).bind fun n3 =>
    (AVal.comp 1 r1.1).bind fun u4 =>
    (nilTest .iface u4).bind fun b5 =>
    some ((AVal.tup [(AVal.int .i64 n3), (AVal.bool (b5))]), r1.2)) else none) := by
  generalize hh : run = R
  rw [run_is] at hh
  subst hh
  generalize hh : k_word_Number_1 = R
  rw [k_word_Number_1_is] at hh
  subst hh
  kernel_rfl

theorem k_word_Number_1_r (fuel d : Nat) (x0 : AVal) (x2 : Int) (x3 : Bool) (h : AHeap) :
    k_word_Number_1 fuel d .ret [(0, x0), (2, (AVal.int .i64 x2)), (3, (AVal.bool x3))] h =
  some ((AVal.tup [(AVal.int .i64 x2), (AVal.bool x3)]), h) := by
  generalize hh : k_word_Number_1 = R
  rw [k_word_Number_1_is] at hh
  subst hh
  kernel_rfl

theorem e_lits_Is (fuel d : Nat) (x0 : Int) (x1 : Int) (h : AHeap) :
    brun fuel (d + 1) F_lits_Is [(AVal.int .i64 x0), (AVal.int .i64 x1)] h =
  some ((AVal.bool (bif (bif (!decide (x0 = (0 : Int))) then (decide ((IntKind.wrap .i64 (0 - x1)) ≤ x0)) else false) then (decide (x0 ≤ x1)) else false)), h) := by
  generalize hh : brun = R
  rw [brun_is] at hh
  subst hh
  kernel_rfl

theorem e_skolemref_None (fuel d : Nat)  (h : AHeap) :
    brun fuel (d + 1) F_skolemref_None [] h =
  (AHeap.storeAt (AHeap.push h 1 [(AVal.int .i64 (0 : Int)), (AVal.bool false), (AVal.int .i64 (0 : Int))]) [(AVal.int .i64 (0 : Int)), (AVal.bool false), (AVal.int .i64 (0 : Int))] (Pt.mk ⟨AHeap.next h, 0, 0⟩ 3)).bind fun h1 =>
    ((AHeap.cellsAt h1 3 (Pt.mk ⟨AHeap.next h, 0, 0⟩ 3)).bind fun c2 =>
    some ((AVal.agg c2)) : Option AVal).map fun v => (v, h1) := by
  generalize hh : brun = R
  rw [brun_is] at hh
  subst hh
  kernel_rfl

theorem e_skolemref_SameFault (fuel d : Nat) (x0 : List AVal) (x1 : List AVal) (h : AHeap) :
    brun fuel (d + 1) F_skolemref_SameFault [(AVal.agg x0), (AVal.agg x1)] h =
  (bif (List.all x0 AVal.isCell) then ((bif (List.all x1 AVal.isCell) then ((Pt.field 0 (Pt.mk ⟨AHeap.next h, 0, 0⟩ (List.length x0))).bind fun p1 =>
    (AHeap.cell (AHeap.push (AHeap.push h 1 x0) 1 x1) p1).bind fun u2 =>
    (AVal.int? .i64 u2).bind fun n3 =>
    (Pt.field 0 (Pt.mk ⟨AHeap.next (AHeap.push h 1 x0), 0, 0⟩ (List.length x1))).bind fun p4 =>
    (AHeap.cell (AHeap.push (AHeap.push h 1 x0) 1 x1) p4).bind fun u5 =>
    (AVal.int? .i64 u5).bind fun n6 =>
    ((bif ((decide (n3 = n6)) == true) then ((Pt.field 1 (Pt.mk ⟨AHeap.next h, 0, 0⟩ (List.length x0))).bind fun p7 =>
    (AHeap.cell (AHeap.push (AHeap.push h 1 x0) 1 x1) p7).bind fun u8 =>
    (AVal.bool? u8).bind fun b9 =>
    (Pt.field 1 (Pt.mk ⟨AHeap.next (AHeap.push h 1 x0), 0, 0⟩ (List.length x1))).bind fun p10 =>
    (AHeap.cell (AHeap.push (AHeap.push h 1 x0) 1 x1) p10).bind fun u11 =>
    (AVal.bool? u11).bind fun b12 =>
    some ((AVal.bool (b9 == b12)), (AHeap.push (AHeap.push h 1 x0) 1 x1))) else (some ((AVal.bool false), (AHeap.push (AHeap.push h 1 x0) 1 x1))) : Option (AVal × AHeap))).bind fun r13 =>
    (AVal.bool? r13.1).bind fun b14 =>
    ((bif (b14 == true) then ((Pt.field 2 (Pt.mk ⟨AHeap.next h, 0, 0⟩ (List.length x0))).bind fun p15 =>
    (AHeap.cell r13.2 p15).bind fun u16 =>
    (AVal.int? .i64 u16).bind fun n17 =>
    (Pt.field 2 (Pt.mk ⟨AHeap.next (AHeap.push h 1 x0), 0, 0⟩ (List.length x1))).bind fun p18 =>
    (AHeap.cell r13.2 p18).bind fun u19 =>
    (AVal.int? .i64 u19).bind fun n20 =>
    some ((AVal.bool (decide (n17 = n20))), r13.2)) else (some ((AVal.bool false), r13.2)) : Option (AVal × AHeap))).bind fun r21 =>
    (AVal.bool? r21.1).bind fun b22 =>
    some ((AVal.bool b22), r21.2)) else (none))) else (none)) := by
  generalize hh : brun = R
  rw [brun_is] at hh
  subst hh
  kernel_rfl

theorem e_skolemsee_Fault (fuel d : Nat) (x0 : AVal) (h : AHeap) :
    brun fuel (d + 1) F_skolemsee_Fault [x0] h =
  (nilTest .iface x0).bind fun b1 =>
    (bif (b1) then ((run fuel d F_skolemref_None [] (AHeap.push h 1 [(AVal.int .i64 (0 : Int)), (AVal.bool false), (AVal.int .i64 (0 : Int))])).bind fun r2 =>
    (AVal.agg? r2.1).bind fun c3 =>
    (bif (!false && Nat.beq (List.length c3) 3 && List.all c3 AVal.isCell) then ((AHeap.storeAt r2.2 c3 (Pt.mk ⟨AHeap.next h, 0, 0⟩ 3)).bind fun h4 =>
    ((AHeap.cellsAt h4 3 (Pt.mk ⟨AHeap.next h, 0, 0⟩ 3)).bind fun c5 =>
    some ((AVal.agg c5)) : Option AVal).map fun v => (v, h4)) else (none))) else ((tassert T_p_api_At x0).bind fun t6 =>
    (bif (!(Option.isSome t6)) then ((run fuel d F_skolemsee_sentinel [x0] (AHeap.push h 1 [(AVal.int .i64 (0 : Int)), (AVal.bool false), (AVal.int .i64 (0 : Int))])).bind fun r7 =>
    (AVal.int? .i64 r7.1).bind fun n8 =>
    (run fuel d F_skolemref_Bare [(AVal.int .i64 n8)] r7.2).bind fun r9 =>
    (AVal.agg? r9.1).bind fun c10 =>
    (bif (!false && Nat.beq (List.length c10) 3 && List.all c10 AVal.isCell) then ((AHeap.storeAt r9.2 c10 (Pt.mk ⟨AHeap.next h, 0, 0⟩ 3)).bind fun h11 =>
    ((AHeap.cellsAt h11 3 (Pt.mk ⟨AHeap.next h, 0, 0⟩ 3)).bind fun c12 =>
    some ((AVal.agg c12)) : Option AVal).map fun v => (v, h11)) else (none))) else ((nilTest .ptr (AVal.ptr (Option.getD t6 Pt.nil))).bind fun b13 =>
    ((bif ((b13) == false) then ((Pt.chk (Option.getD t6 Pt.nil)).bind fun p14 =>
    (Pt.field 1 p14).bind fun p15 =>
    (AHeap.cell (AHeap.push h 1 [(AVal.int .i64 (0 : Int)), (AVal.bool false), (AVal.int .i64 (0 : Int))]) p15).bind fun u16 =>
    (nilTest .iface u16).bind fun b17 =>
    some ((AVal.bool (b17)), (AHeap.push h 1 [(AVal.int .i64 (0 : Int)), (AVal.bool false), (AVal.int .i64 (0 : Int))]))) else (some ((AVal.bool true), (AHeap.push h 1 [(AVal.int .i64 (0 : Int)), (AVal.bool false), (AVal.int .i64 (0 : Int))]))) : Option (AVal × AHeap))).bind fun r18 =>
    (AVal.bool? r18.1).bind fun b19 =>
    (bif b19 then ((run fuel d F_skolemref_Bare [(AVal.int .i64 (-1 : Int))] r18.2).bind fun r20 =>
    (AVal.agg? r20.1).bind fun c21 =>
    (bif (!false && Nat.beq (List.length c21) 3 && List.all c21 AVal.isCell) then ((AHeap.storeAt r20.2 c21 (Pt.mk ⟨AHeap.next h, 0, 0⟩ 3)).bind fun h22 =>
    ((AHeap.cellsAt h22 3 (Pt.mk ⟨AHeap.next h, 0, 0⟩ 3)).bind fun c23 =>
    some ((AVal.agg c23)) : Option AVal).map fun v => (v, h22)) else (none))) else ((Pt.chk (Option.getD t6 Pt.nil)).bind fun p24 =>
    (Pt.field 1 p24).bind fun p25 =>
    (AHeap.cell r18.2 p25).bind fun u26 =>
    (run fuel d F_skolemsee_sentinel [u26] r18.2).bind fun r27 =>
    (AVal.int? .i64 r27.1).bind fun n28 =>
    (Pt.chk (Option.getD t6 Pt.nil)).bind fun p29 =>
    (Pt.field 0 p29).bind fun p30 =>
    (AHeap.cell r27.2 p30).bind fun u31 =>
    (AVal.int? .i64 u31).bind fun n32 =>
    same ((AHeap.cell r18.2 p30).bind fun u37 =>
    (AVal.int? .i64 u37).bind fun n38 =>
    some ((AVal.int .i64 n38), r18.2)) ((AVal.int .i64 n32), r18.2) (
    (run fuel d F_skolemref_Placed [(AVal.int .i64 n28), (AVal.int .i64 n32)] r27.2).bind fun r33 =>
    (AVal.agg? r33.1).bind fun c34 =>
    (bif (!false && Nat.beq (List.length c34) 3 && List.all c34 AVal.isCell) then ((AHeap.storeAt r33.2 c34 (Pt.mk ⟨AHeap.next h, 0, 0⟩ 3)).bind fun h35 =>
    ((AHeap.cellsAt h35 3 (Pt.mk ⟨AHeap.next h, 0, 0⟩ 3)).bind fun c36 =>
    some ((AVal.agg c36)) : Option AVal).map fun v => (v, h35)) else (none))))))))) := by
  generalize hh : run = R
  rw [run_is] at hh
  subst hh
  generalize hh : brun = R
  rw [brun_is] at hh
  subst hh
  kernel_rfl

noncomputable def s_dimacs_Line_0 (fuel d : Nat) : Run := fun fr h k => aexec (Cf fuel F_dimacs_Line) false (acall (C fuel) false d) (acall (C fuel) true d) 22 (csub [true, false, true, false, false] (fbody Go.Proofs.Tryd.f63)) (asub [true, false, true, false, false] an63) fr h k

noncomputable def l_dimacs_Line_0r (fuel d : Nat) (n : Nat) (fr : Fr) (h : AHeap) : Option (AExit × Fr × AHeap) := aloop (s_dimacs_Line_0 fuel d) (some [0, 7, 8, 9]) n fr h (kOut [0])

noncomputable def l_dimacs_Line_0 : Nat → Nat → Nat → Fr → AHeap → Option (AExit × Fr × AHeap) := hide l_dimacs_Line_0r

theorem l_dimacs_Line_0_is : l_dimacs_Line_0 = l_dimacs_Line_0r := hide_eq _

noncomputable def k_dimacs_Line_0r (fuel d : Nat) : AExit → Fr → AHeap → Option (AVal × AHeap) := (kBlock 0 (kSeq (Cf fuel F_dimacs_Line) false (acall (C fuel) false d) (acall (C fuel) true d) 22 (csub [true, true] (fbody Go.Proofs.Tryd.f63)) (asub [true, true] an63) (kRet (Cf fuel F_dimacs_Line) Go.Proofs.Tryd.f63.results.toList)))

noncomputable def k_dimacs_Line_0 : Nat → Nat → AExit → Fr → AHeap → Option (AVal × AHeap) := hide k_dimacs_Line_0r

theorem k_dimacs_Line_0_is : k_dimacs_Line_0 = k_dimacs_Line_0r := hide_eq _

theorem e_dimacs_Line (fuel d : Nat) (x0 : Sl) (x1 : Sl) (h : AHeap) :
    run fuel (d + 1) F_dimacs_Line [(AVal.slice x0), (AVal.slice x1)] h =
  (l_dimacs_Line_0 fuel d fuel [(0, (AVal.slice x0)), (7, (AVal.slice x1)), (8, (AVal.int .i64 ((x1.len : Nat) : Int))), (9, (AVal.int .i64 (0 : Int)))] h).bind fun p1 =>
    k_dimacs_Line_0 fuel d p1.1 p1.2.1 p1.2.2 := by
  generalize hh : run = R
  rw [run_is] at hh
  subst hh
  generalize hh : l_dimacs_Line_0 = R
  rw [l_dimacs_Line_0_is] at hh
  subst hh
  generalize hh : k_dimacs_Line_0 = R
  rw [k_dimacs_Line_0_is] at hh
  subst hh
  kernel_rfl

theorem l_dimacs_Line_0_eq (fuel d : Nat) (n : Nat) (x0 : Sl) (x7 : Sl) (x8 : Int) (x9 : Int) (h : AHeap) :
    l_dimacs_Line_0 fuel d (n + 1) [(0, (AVal.slice x0)), (7, (AVal.slice x7)), (8, (AVal.int .i64 x8)), (9, (AVal.int .i64 x9))] h =
  (bif (decide (x9 < x8)) then ((AHeap.addr h 1 x7 x9).bind fun p1 =>
    (AHeap.cell h p1).bind fun u2 =>
    (AVal.int? .i64 u2).bind fun n3 =>
    (run fuel d F_strconv_AppendInt [(AVal.slice x0), (AVal.int .i64 n3), (AVal.int .i64 (10 : Int))] h).bind fun r4 =>
    (AVal.slice? r4.1).bind fun s5 =>
    (AHeap.sliceCells (AHeap.push r4.2 1 [(AVal.int .u8 (32 : Int))]) 1 (Sl.mk ⟨AHeap.next r4.2, 0, 0⟩ 1 true)).bind fun xs6 =>
    (AHeap.append (AHeap.push r4.2 1 [(AVal.int .u8 (32 : Int))]) false 1 1 s5 (Sl.mk ⟨AHeap.next r4.2, 0, 0⟩ 1 true).len xs6).bind fun a7 =>
    l_dimacs_Line_0 fuel d n [(0, (AVal.slice a7.1)), (7, (AVal.slice x7)), (8, (AVal.int .i64 x8)), (9, (AVal.int .i64 (IntKind.wrap .i64 (x9 + (1 : Int)))))] a7.2) else (some ((.exit 0), [(0, (AVal.slice x0))], h))) := by
  generalize hh : run = R
  rw [run_is] at hh
  subst hh
  generalize hh : l_dimacs_Line_0 = R
  rw [l_dimacs_Line_0_is] at hh
  subst hh
  kernel_rfl

theorem k_dimacs_Line_0_x0 (fuel d : Nat) (x0 : Sl) (h : AHeap) :
    k_dimacs_Line_0 fuel d (.exit 0) [(0, (AVal.slice x0))] h =
  (AHeap.sliceCells (AHeap.push h 1 [(AVal.int .u8 (48 : Int)), (AVal.int .u8 (10 : Int))]) 1 (Sl.mk ⟨AHeap.next h, 0, 0⟩ 2 true)).bind fun xs1 =>
    (AHeap.append (AHeap.push h 1 [(AVal.int .u8 (48 : Int)), (AVal.int .u8 (10 : Int))]) false 1 1 x0 (Sl.mk ⟨AHeap.next h, 0, 0⟩ 2 true).len xs1).bind fun a2 =>
    some ((AVal.slice a2.1), a2.2) := by
  generalize hh : k_dimacs_Line_0 = R
  rw [k_dimacs_Line_0_is] at hh
  subst hh
  kernel_rfl

theorem e_skolemref_Bare (fuel d : Nat) (x0 : Int) (h : AHeap) :
    brun fuel (d + 1) F_skolemref_Bare [(AVal.int .i64 x0)] h =
  (AHeap.storeAt (AHeap.push h 1 [(AVal.int .i64 (0 : Int)), (AVal.bool false), (AVal.int .i64 (0 : Int))]) [(AVal.int .i64 x0), (AVal.bool false), (AVal.int .i64 (0 : Int))] (Pt.mk ⟨AHeap.next h, 0, 0⟩ 3)).bind fun h1 =>
    ((AHeap.cellsAt h1 3 (Pt.mk ⟨AHeap.next h, 0, 0⟩ 3)).bind fun c2 =>
    some ((AVal.agg c2)) : Option AVal).map fun v => (v, h1) := by
  generalize hh : brun = R
  rw [brun_is] at hh
  subst hh
  kernel_rfl

theorem e_strconv_AppendInt (fuel d : Nat) (x0 : Sl) (x1 : Int) (x2 : Int) (h : AHeap) :
    run fuel (d + 1) F_strconv_AppendInt [(AVal.slice x0), (AVal.int .i64 x1), (AVal.int .i64 x2)] h =
  (run fuel d F_internal_strconv_AppendInt [(AVal.slice x0), (AVal.int .i64 x1), (AVal.int .i64 x2)] h).bind fun r1 =>
    (AVal.slice? r1.1).bind fun s2 =>
    some ((AVal.slice s2), r1.2) := by
  generalize hh : run = R
  rw [run_is] at hh
  subst hh
  kernel_rfl

theorem e_dimacs_at (fuel d : Nat) (x0 : Int) (x1 : AVal) (h : AHeap) :
    brun fuel (d + 1) F_dimacs_at [(AVal.int .i64 x0), x1] h =
  ((bif (Nat.beq (List.length (AVal.cells x1)) 1 && Nat.ble (1 + 1) (List.length [(AVal.int .i64 x0), AVal.nilif]) && List.all (AVal.cells x1) AVal.isCell) then ((some (AHeap.overlay [(AVal.int .i64 x0), AVal.nilif] 1 (AVal.cells x1)))) else (none))).bind fun c1 =>
    (bif (List.all c1 AVal.isCell) then (some ((AVal.iface T_p_api_At (AVal.ptr (Pt.mk ⟨AHeap.next h, 0, 0⟩ (List.length c1)))), (AHeap.push h 1 c1))) else (none)) := by
  generalize hh : brun = R
  rw [brun_is] at hh
  subst hh
  kernel_rfl

theorem e_bytes_IndexByte (fuel d : Nat) (x0 : Sl) (x1 : Int) (h : AHeap) :
    brun fuel (d + 1) F_bytes_IndexByte [(AVal.slice x0), (AVal.int .u8 x1)] h =
  (run fuel d F_bytealg_IndexByte [(AVal.slice x0), (AVal.int .u8 x1)] h).bind fun r1 =>
    (AVal.int? .i64 r1.1).bind fun n2 =>
    some ((AVal.int .i64 n2), r1.2) := by
  generalize hh : run = R
  rw [run_is] at hh
  subst hh
  generalize hh : brun = R
  rw [brun_is] at hh
  subst hh
  kernel_rfl

noncomputable def s_word_line_0 (fuel d : Nat) : Run := fun fr h k => aexec (Cf fuel F_word_line) false (acall (C fuel) false d) (acall (C fuel) true d) 51 (csub [true, true, false, true, false, false] (fbody Go.Proofs.Tryd.f68)) (asub [true, true, false, true, false, false] an68) fr h k

noncomputable def l_word_line_0r (fuel d : Nat) (n : Nat) (fr : Fr) (h : AHeap) : Option (AExit × Fr × AHeap) := aloop (s_word_line_0 fuel d) (some [0, 1, 5, 6]) n fr h (kOut [5])

noncomputable def l_word_line_0 : Nat → Nat → Nat → Fr → AHeap → Option (AExit × Fr × AHeap) := hide l_word_line_0r

theorem l_word_line_0_is : l_word_line_0 = l_word_line_0r := hide_eq _

noncomputable def k_word_line_0r (fuel d : Nat) : AExit → Fr → AHeap → Option (AVal × AHeap) := (kBlock 0 (kSeq (Cf fuel F_word_line) false (acall (C fuel) false d) (acall (C fuel) true d) 51 (csub [true, true, true] (fbody Go.Proofs.Tryd.f68)) (asub [true, true, true] an68) (kRet (Cf fuel F_word_line) Go.Proofs.Tryd.f68.results.toList)))

noncomputable def k_word_line_0 : Nat → Nat → AExit → Fr → AHeap → Option (AVal × AHeap) := hide k_word_line_0r

theorem k_word_line_0_is : k_word_line_0 = k_word_line_0r := hide_eq _

noncomputable def s_word_line_1 (fuel d : Nat) : Run := fun fr h k => aexec (Cf fuel F_word_line) false (acall (C fuel) false d) (acall (C fuel) true d) 51 (csub [true, true, false, true, false, false, true, false, false, true, true, false, false, false] (fbody Go.Proofs.Tryd.f68)) (asub [true, true, false, true, false, false, true, false, false, true, true, false, false, false] an68) fr h k

noncomputable def l_word_line_1r (fuel d : Nat) (n : Nat) (fr : Fr) (h : AHeap) : Option (AExit × Fr × AHeap) := aloop (s_word_line_1 fuel d) (some [0, 1, 5, 6, 7]) n fr h (kOut [0, 1, 5, 6, 7])

noncomputable def l_word_line_1 : Nat → Nat → Nat → Fr → AHeap → Option (AExit × Fr × AHeap) := hide l_word_line_1r

theorem l_word_line_1_is : l_word_line_1 = l_word_line_1r := hide_eq _

noncomputable def k_word_line_1r (fuel d : Nat) (n : Nat) : AExit → Fr → AHeap → Option (AExit × Fr × AHeap) := (kBlock 2 (kSeq (Cf fuel F_word_line) false (acall (C fuel) false d) (acall (C fuel) true d) 51 (csub [true, true, false, true, false, false, true, false, false, true, true, true] (fbody Go.Proofs.Tryd.f68)) (asub [true, true, false, true, false, false, true, false, false, true, true, true] an68) (kBlock 1 (kSeq (Cf fuel F_word_line) false (acall (C fuel) false d) (acall (C fuel) true d) 51 (csub [true, true, false, true, false, false, true, true] (fbody Go.Proofs.Tryd.f68)) (asub [true, true, false, true, false, false, true, true] an68) (kLoop (s_word_line_0 fuel d) (some [0, 1, 5, 6]) n (kOut [5]))))))

noncomputable def k_word_line_1 : Nat → Nat → Nat → AExit → Fr → AHeap → Option (AExit × Fr × AHeap) := hide k_word_line_1r

theorem k_word_line_1_is : k_word_line_1 = k_word_line_1r := hide_eq _

theorem e_word_line (fuel d : Nat) (x0 : Sl) (x1 : Int) (h : AHeap) :
    brun fuel (d + 1) F_word_line [(AVal.slice x0), (AVal.int .i64 x1)] h =
  (l_word_line_0 fuel d fuel [(0, (AVal.slice x0)), (1, (AVal.int .i64 x1)), (5, (AVal.slice Sl.nil)), (6, (AVal.int .i64 (0 : Int)))] h).bind fun p1 =>
    k_word_line_0 fuel d p1.1 p1.2.1 p1.2.2 := by
  generalize hh : brun = R
  rw [brun_is] at hh
  subst hh
  generalize hh : l_word_line_0 = R
  rw [l_word_line_0_is] at hh
  subst hh
  generalize hh : k_word_line_0 = R
  rw [k_word_line_0_is] at hh
  subst hh
  kernel_rfl

theorem l_word_line_0_eq (fuel d : Nat) (n : Nat) (x0 : Sl) (x1 : Int) (x5 : Sl) (x6 : Int) (h : AHeap) :
    l_word_line_0 fuel d (n + 1) [(0, (AVal.slice x0)), (1, (AVal.int .i64 x1)), (5, (AVal.slice x5)), (6, (AVal.int .i64 x6))] h =
  (bif (decide (x6 < ((x0.len : Nat) : Int))) then ((AHeap.addr h 1 x0 x6).bind fun p1 =>
    (AHeap.cell h p1).bind fun u2 =>
    (AVal.int? .u8 u2).bind fun n3 =>
    (run fuel d F_word_kind [(AVal.int .u8 n3)] h).bind fun r4 =>
    (AVal.int? .i64 r4.1).bind fun n5 =>
    (bif (!decide (n5 = (0 : Int))) then (l_word_line_0 fuel d n [(0, (AVal.slice x0)), (1, (AVal.int .i64 x1)), (5, (AVal.slice x5)), (6, (AVal.int .i64 (IntKind.wrap .i64 (x6 + (1 : Int)))))] r4.2) else ((l_word_line_1 fuel d fuel [(0, (AVal.slice x0)), (1, (AVal.int .i64 x1)), (5, (AVal.slice x5)), (6, (AVal.int .i64 x6)), (7, (AVal.int .i64 x6))] r4.2).bind fun p6 =>
    k_word_line_1 fuel d n p6.1 p6.2.1 p6.2.2))) else (some ((.exit 0), [(5, (AVal.slice x5))], h))) := by
  generalize hh : run = R
  rw [run_is] at hh
  subst hh
  generalize hh : l_word_line_0 = R
  rw [l_word_line_0_is] at hh
  subst hh
  generalize hh : l_word_line_1 = R
  rw [l_word_line_1_is] at hh
  subst hh
  generalize hh : k_word_line_1 = R
  rw [k_word_line_1_is] at hh
  subst hh
  kernel_rfl

theorem k_word_line_0_x0 (fuel d : Nat) (x5 : Sl) (h : AHeap) :
    k_word_line_0 fuel d (.exit 0) [(5, (AVal.slice x5))] h =
  some ((AVal.slice x5), h) := by
  generalize hh : k_word_line_0 = R
  rw [k_word_line_0_is] at hh
  subst hh
  kernel_rfl

theorem l_word_line_1_eq (fuel d : Nat) (n : Nat) (x0 : Sl) (x1 : Int) (x5 : Sl) (x6 : Int) (x7 : Int) (h : AHeap) :
    l_word_line_1 fuel d (n + 1) [(0, (AVal.slice x0)), (1, (AVal.int .i64 x1)), (5, (AVal.slice x5)), (6, (AVal.int .i64 x6)), (7, (AVal.int .i64 x7))] h =
  ((bif ((decide (x6 < ((x0.len : Nat) : Int))) == true) then ((AHeap.addr h 1 x0 x6).bind fun p1 =>
    (AHeap.cell h p1).bind fun u2 =>
    (AVal.int? .u8 u2).bind fun n3 =>
    (run fuel d F_word_kind [(AVal.int .u8 n3)] h).bind fun r4 =>
    (AVal.int? .i64 r4.1).bind fun n5 =>
    some ((AVal.bool (decide (n5 = (0 : Int)))), r4.2)) else (some ((AVal.bool false), h)) : Option (AVal × AHeap))).bind fun r6 =>
    (AVal.bool? r6.1).bind fun b7 =>
    (bif b7 then (l_word_line_1 fuel d n [(0, (AVal.slice x0)), (1, (AVal.int .i64 x1)), (5, (AVal.slice x5)), (6, (AVal.int .i64 (IntKind.wrap .i64 (x6 + (1 : Int))))), (7, (AVal.int .i64 x7))] r6.2) else (some ((.exit 2), [(0, (AVal.slice x0)), (1, (AVal.int .i64 x1)), (5, (AVal.slice x5)), (6, (AVal.int .i64 x6)), (7, (AVal.int .i64 x7))], r6.2))) := by
  generalize hh : run = R
  rw [run_is] at hh
  subst hh
  generalize hh : l_word_line_1 = R
  rw [l_word_line_1_is] at hh
  subst hh
  kernel_rfl

theorem k_word_line_1_x2 (fuel d : Nat) (n : Nat) (x0 : Sl) (x1 : Int) (x5 : Sl) (x6 : Int) (x7 : Int) (h : AHeap) :
    k_word_line_1 fuel d n (.exit 2) [(0, (AVal.slice x0)), (1, (AVal.int .i64 x1)), (5, (AVal.slice x5)), (6, (AVal.int .i64 x6)), (7, (AVal.int .i64 x7))] h =
  (aHi (some (AVal.int .i64 x6)) (Sl.len x0)).bind fun hi1 =>
    (aLo (some (AVal.int .i64 x7)) hi1).bind fun lo2 =>
    (aMx (none : Option AVal) hi1).bind fun cl3 =>
    (bif (AHeap.hasSz h 1 x0) then ((AHeap.sliceCells h 1 (Sl.cut x0 1 lo2 hi1 cl3)).bind fun c4 =>
    (bytesFrom c4).bind fun bs5 =>
    (AHeap.append h false 3 32 x5 1 [(AVal.str (⟨List.toArray bs5⟩ : ByteArray)), (AVal.int .i64 (IntKind.wrap .i64 (x1 + x7))), (AVal.bool (decide (((x5.len : Nat) : Int) = (0 : Int))))]).bind fun a6 =>
    l_word_line_0 fuel d n [(0, (AVal.slice x0)), (1, (AVal.int .i64 x1)), (5, (AVal.slice a6.1)), (6, (AVal.int .i64 (IntKind.wrap .i64 (x6 + (1 : Int)))))] a6.2) else (none)) := by
  generalize hh : l_word_line_0 = R
  rw [l_word_line_0_is] at hh
  subst hh
  generalize hh : k_word_line_1 = R
  rw [k_word_line_1_is] at hh
  subst hh
  kernel_rfl

theorem e_dimacs_count (fuel d : Nat) (x0 : List AVal) (x1 : Int) (h : AHeap) :
    brun fuel (d + 1) F_dimacs_count [(AVal.agg x0), (AVal.int .i64 x1)] h =
  (bif (List.all x0 AVal.isCell) then ((Pt.field 0 (Pt.mk ⟨AHeap.next h, 0, 0⟩ (List.length x0))).bind fun p1 =>
    (AHeap.cell (AHeap.push h 1 x0) p1).bind fun u2 =>
    (AVal.str? u2).bind fun s3 =>
    (run fuel d F_word_Plain [(AVal.str s3)] (AHeap.push h 1 x0)).bind fun r4 =>
    (bif AVal.isTup 2 r4.1 then ((AVal.comp 0 r4.1).bind fun u5 =>
    (AVal.int? .i64 u5).bind fun n6 =>
    (AVal.comp 1 r4.1).bind fun u7 =>
    (AVal.bool? u7).bind fun b8 =>
    (Pt.field 2 (Pt.mk ⟨AHeap.next h, 0, 0⟩ (List.length x0))).bind fun p9 =>
    (AHeap.cell r4.2 p9).bind fun u10 =>
    (AVal.bool? u10).bind fun b11 =>
    (bif (bif b11 then true else (!b8)) then ((Pt.field 1 (Pt.mk ⟨AHeap.next h, 0, 0⟩ (List.length x0))).bind fun p12 =>
    (AHeap.cell r4.2 p12).bind fun u13 =>
    (AVal.int? .i64 u13).bind fun n14 =>
    (run fuel d F_dimacs_at [(AVal.int .i64 n14), err_api_ErrText] r4.2).bind fun r15 =>
    some ((AVal.tup [(AVal.int .i64 (0 : Int)), r15.1]), r15.2)) else ((bif (decide (x1 < n6)) then ((Pt.field 1 (Pt.mk ⟨AHeap.next h, 0, 0⟩ (List.length x0))).bind fun p16 =>
    (AHeap.cell r4.2 p16).bind fun u17 =>
    (AVal.int? .i64 u17).bind fun n18 =>
    (run fuel d F_dimacs_at [(AVal.int .i64 n18), err_api_ErrLimit] r4.2).bind fun r19 =>
    some ((AVal.tup [(AVal.int .i64 (0 : Int)), r19.1]), r19.2)) else (some ((AVal.tup [(AVal.int .i64 n6), AVal.nilif]), r4.2)))))) else none)) else (none)) := by
  generalize hh : run = R
  rw [run_is] at hh
  subst hh
  generalize hh : brun = R
  rw [brun_is] at hh
  subst hh
  kernel_rfl

noncomputable def s_skolemref_SameInts_0 (fuel d : Nat) : Run := fun fr h k => aexec (Cf fuel F_skolemref_SameInts) false (acall (C fuel) false d) (acall (C fuel) true d) 29 (csub [true, true, false, true, false, false] (fbody Go.Proofs.Tryd.f73)) (asub [true, true, false, true, false, false] an73) fr h k

noncomputable def l_skolemref_SameInts_0r (fuel d : Nat) (n : Nat) (fr : Fr) (h : AHeap) : Option (AExit × Fr × AHeap) := aloop (s_skolemref_SameInts_0 fuel d) (some [0, 1, 5]) n fr h (kOut [4])

noncomputable def l_skolemref_SameInts_0 : Nat → Nat → Nat → Fr → AHeap → Option (AExit × Fr × AHeap) := hide l_skolemref_SameInts_0r

theorem l_skolemref_SameInts_0_is : l_skolemref_SameInts_0 = l_skolemref_SameInts_0r := hide_eq _

noncomputable def k_skolemref_SameInts_0r (fuel d : Nat) : AExit → Fr → AHeap → Option (AVal × AHeap) := (kBlock 0 (kSeq (Cf fuel F_skolemref_SameInts) false (acall (C fuel) false d) (acall (C fuel) true d) 29 (csub [true, true, true] (fbody Go.Proofs.Tryd.f73)) (asub [true, true, true] an73) (kRet (Cf fuel F_skolemref_SameInts) Go.Proofs.Tryd.f73.results.toList)))

noncomputable def k_skolemref_SameInts_0 : Nat → Nat → AExit → Fr → AHeap → Option (AVal × AHeap) := hide k_skolemref_SameInts_0r

theorem k_skolemref_SameInts_0_is : k_skolemref_SameInts_0 = k_skolemref_SameInts_0r := hide_eq _

theorem e_skolemref_SameInts (fuel d : Nat) (x0 : Sl) (x1 : Sl) (h : AHeap) :
    brun fuel (d + 1) F_skolemref_SameInts [(AVal.slice x0), (AVal.slice x1)] h =
  (bif (!decide (((x0.len : Nat) : Int) = ((x1.len : Nat) : Int))) then (some ((AVal.bool false), h)) else ((l_skolemref_SameInts_0 fuel d fuel [(0, (AVal.slice x0)), (1, (AVal.slice x1)), (5, (AVal.int .i64 (0 : Int)))] h).bind fun p1 =>
    k_skolemref_SameInts_0 fuel d p1.1 p1.2.1 p1.2.2)) := by
  generalize hh : brun = R
  rw [brun_is] at hh
  subst hh
  generalize hh : l_skolemref_SameInts_0 = R
  rw [l_skolemref_SameInts_0_is] at hh
  subst hh
  generalize hh : k_skolemref_SameInts_0 = R
  rw [k_skolemref_SameInts_0_is] at hh
  subst hh
  kernel_rfl

theorem l_skolemref_SameInts_0_eq (fuel d : Nat) (n : Nat) (x0 : Sl) (x1 : Sl) (x5 : Int) (h : AHeap) :
    l_skolemref_SameInts_0 fuel d (n + 1) [(0, (AVal.slice x0)), (1, (AVal.slice x1)), (5, (AVal.int .i64 x5))] h =
  (bif (decide (x5 < ((x0.len : Nat) : Int))) then ((AHeap.addr h 1 x0 x5).bind fun p1 =>
    (AHeap.cell h p1).bind fun u2 =>
    (AVal.int? .i64 u2).bind fun n3 =>
    (AHeap.addr h 1 x1 x5).bind fun p4 =>
    (AHeap.cell h p4).bind fun u5 =>
    (AVal.int? .i64 u5).bind fun n6 =>
    (bif (!(decide (n3 = n6))) then (some (.ret, [(4, (AVal.bool false))], h)) else (l_skolemref_SameInts_0 fuel d n [(0, (AVal.slice x0)), (1, (AVal.slice x1)), (5, (AVal.int .i64 (IntKind.wrap .i64 (x5 + (1 : Int)))))] h))) else (some ((.exit 0), [(4, AVal.bot)], h))) := by
  generalize hh : l_skolemref_SameInts_0 = R
  rw [l_skolemref_SameInts_0_is] at hh
  subst hh
  kernel_rfl

theorem k_skolemref_SameInts_0_x0 (fuel d : Nat) (x4 : AVal) (h : AHeap) :
    k_skolemref_SameInts_0 fuel d (.exit 0) [(4, x4)] h =
  some ((AVal.bool true), h) := by
  generalize hh : k_skolemref_SameInts_0 = R
  rw [k_skolemref_SameInts_0_is] at hh
  subst hh
  kernel_rfl

theorem k_skolemref_SameInts_0_r (fuel d : Nat) (x4 : Bool) (h : AHeap) :
    k_skolemref_SameInts_0 fuel d .ret [(4, (AVal.bool x4))] h =
  some ((AVal.bool x4), h) := by
  generalize hh : k_skolemref_SameInts_0 = R
  rw [k_skolemref_SameInts_0_is] at hh
  subst hh
  kernel_rfl

theorem e_dimacs_HeadBytes (fuel d : Nat) (x0 : List AVal) (h : AHeap) :
    run fuel (d + 1) F_dimacs_HeadBytes [(AVal.agg x0)] h =
  (bif (List.all x0 AVal.isCell) then ((Pt.field 0 (Pt.mk ⟨AHeap.next h, 0, 0⟩ (List.length x0))).bind fun p1 =>
    (AHeap.cell (AHeap.push h 1 x0) p1).bind fun u2 =>
    (AVal.int? .i64 u2).bind fun n3 =>
    (run fuel d F_strconv_Itoa [(AVal.int .i64 n3)] (AHeap.push h 1 x0)).bind fun r4 =>
    (AVal.str? r4.1).bind fun s5 =>
    (bif Nat.ble (ByteArray.size (⟨#[112, 32, 99, 110, 102, 32]⟩ : ByteArray) + ByteArray.size s5) 9223372036854775807 then ((bif Nat.ble (ByteArray.size ((⟨#[112, 32, 99, 110, 102, 32]⟩ : ByteArray) ++ s5) + ByteArray.size (⟨#[32]⟩ : ByteArray)) 9223372036854775807 then ((Pt.field 1 (Pt.mk ⟨AHeap.next h, 0, 0⟩ (List.length x0))).bind fun p6 =>
    (AHeap.cell r4.2 p6).bind fun u7 =>
    (AVal.slice? u7).bind fun s8 =>
    same ((AHeap.cell (AHeap.push h 1 x0) p6).bind fun u11 =>
    (AVal.slice? u11).bind fun s12 =>
    some ((AVal.slice s12), (AHeap.push h 1 x0))) ((AVal.slice s8), (AHeap.push h 1 x0)) (
    (run fuel d F_strconv_Itoa [(AVal.int .i64 ((s8.len : Nat) : Int))] r4.2).bind fun r9 =>
    (AVal.str? r9.1).bind fun s10 =>
    (bif Nat.ble (ByteArray.size (((⟨#[112, 32, 99, 110, 102, 32]⟩ : ByteArray) ++ s5) ++ (⟨#[32]⟩ : ByteArray)) + ByteArray.size s10) 9223372036854775807 then ((bif Nat.ble (ByteArray.size ((((⟨#[112, 32, 99, 110, 102, 32]⟩ : ByteArray) ++ s5) ++ (⟨#[32]⟩ : ByteArray)) ++ s10) + ByteArray.size (⟨#[10]⟩ : ByteArray)) 9223372036854775807 then (some ((AVal.slice (Sl.mk ⟨AHeap.next r9.2, 0, 0⟩ (ByteArray.size (((((⟨#[112, 32, 99, 110, 102, 32]⟩ : ByteArray) ++ s5) ++ (⟨#[32]⟩ : ByteArray)) ++ s10) ++ (⟨#[10]⟩ : ByteArray))) false)), (AHeap.push r9.2 1 (bytesOf (((((⟨#[112, 32, 99, 110, 102, 32]⟩ : ByteArray) ++ s5) ++ (⟨#[32]⟩ : ByteArray)) ++ s10) ++ (⟨#[10]⟩ : ByteArray)))))) else (none))) else (none)))) else (none))) else (none))) else (none)) := by
  generalize hh : run = R
  rw [run_is] at hh
  subst hh
  kernel_rfl

noncomputable def s_qdimacs_reader_blocks_0 (fuel d : Nat) : Run := fun fr h k => aexec (Cf fuel F_qdimacs_reader_blocks) false (acall (C fuel) false d) (acall (C fuel) true d) 42 (csub [true, true, false, true, false, false] (fbody Go.Proofs.Tryd.f78)) (asub [true, true, false, true, false, false] an78) fr h k

noncomputable def l_qdimacs_reader_blocks_0r (fuel d : Nat) (n : Nat) (fr : Fr) (h : AHeap) : Option (AExit × Fr × AHeap) := aloop (s_qdimacs_reader_blocks_0 fuel d) (some [0, 4, 5, 6]) n fr h (kOut [2, 3, 4])

noncomputable def l_qdimacs_reader_blocks_0 : Nat → Nat → Nat → Fr → AHeap → Option (AExit × Fr × AHeap) := hide l_qdimacs_reader_blocks_0r

theorem l_qdimacs_reader_blocks_0_is : l_qdimacs_reader_blocks_0 = l_qdimacs_reader_blocks_0r := hide_eq _

noncomputable def k_qdimacs_reader_blocks_0r (fuel d : Nat) : AExit → Fr → AHeap → Option (AVal × AHeap) := (kBlock 0 (kSeq (Cf fuel F_qdimacs_reader_blocks) false (acall (C fuel) false d) (acall (C fuel) true d) 42 (csub [true, true, true] (fbody Go.Proofs.Tryd.f78)) (asub [true, true, true] an78) (kRet (Cf fuel F_qdimacs_reader_blocks) Go.Proofs.Tryd.f78.results.toList)))

noncomputable def k_qdimacs_reader_blocks_0 : Nat → Nat → AExit → Fr → AHeap → Option (AVal × AHeap) := hide k_qdimacs_reader_blocks_0r

theorem k_qdimacs_reader_blocks_0_is : k_qdimacs_reader_blocks_0 = k_qdimacs_reader_blocks_0r := hide_eq _

theorem e_qdimacs_reader_blocks (fuel d : Nat) (x0 : Pt) (h : AHeap) :
    run fuel (d + 1) F_qdimacs_reader_blocks [(AVal.ptr x0)] h =
  (run fuel d F_qdimacs_reader_begins [(AVal.ptr x0)] h).bind fun r1 =>
    (bif AVal.isTup 2 r1.1 then ((AVal.comp 0 r1.1).bind fun u2 =>
    (AVal.bool? u2).bind fun b3 =>
    (AVal.comp 1 r1.1).bind fun u4 =>
    (AVal.bool? u4).bind fun b5 =>
    (l_qdimacs_reader_blocks_0 fuel d fuel [(0, (AVal.ptr x0)), (4, (AVal.slice Sl.nil)), (5, (AVal.bool b3)), (6, (AVal.bool b5))] r1.2).bind fun p6 =>
    k_qdimacs_reader_blocks_0 fuel d p6.1 p6.2.1 p6.2.2) else none) := by
  generalize hh : run = R
  rw [run_is] at hh
  subst hh
  generalize hh : l_qdimacs_reader_blocks_0 = R
  rw [l_qdimacs_reader_blocks_0_is] at hh
  subst hh
  generalize hh : k_qdimacs_reader_blocks_0 = R
  rw [k_qdimacs_reader_blocks_0_is] at hh
  subst hh
  kernel_rfl

theorem l_qdimacs_reader_blocks_0_eq (fuel d : Nat) (n : Nat) (x0 : Pt) (x4 : Sl) (x5 : Bool) (x6 : Bool) (h : AHeap) :
    l_qdimacs_reader_blocks_0 fuel d (n + 1) [(0, (AVal.ptr x0)), (4, (AVal.slice x4)), (5, (AVal.bool x5)), (6, (AVal.bool x6))] h =
  (bif x6 then ((Pt.chk x0).bind fun p1 =>
    (Pt.field 1 p1).bind fun p2 =>
    (AHeap.cell h p2).bind fun u3 =>
    (AVal.int? .i64 u3).bind fun n4 =>
    (Pt.chk x0).bind fun p5 =>
    (Pt.field 1 p5).bind fun p6 =>
    (AHeap.storeAt h [(AVal.int .i64 (IntKind.wrap .i64 (n4 + (1 : Int))))] p6).bind fun h7 =>
    (run fuel d F_qdimacs_reader_block [(AVal.ptr x0)] h7).bind fun r8 =>
    (bif AVal.isTup 2 r8.1 then ((AVal.comp 0 r8.1).bind fun u9 =>
    (AVal.slice? u9).bind fun s10 =>
    (AVal.comp 1 r8.1).bind fun u11 =>
    (nilTest .iface u11).bind fun b12 =>
    (bif (!b12) then (some (.ret, [(2, (AVal.slice Sl.nil)), (3, u11), (4, (AVal.slice x4))], r8.2)) else ((AHeap.append (AHeap.fixL r8.2 [(AVal.bool x5), (AVal.slice s10)]).2 false 2 32 x4 1 (AHeap.fixL r8.2 [(AVal.bool x5), (AVal.slice s10)]).1).bind fun a13 =>
    (run fuel d F_qdimacs_reader_begins [(AVal.ptr x0)] a13.2).bind fun r14 =>
    (bif AVal.isTup 2 r14.1 then ((AVal.comp 0 r14.1).bind fun u15 =>
    (AVal.bool? u15).bind fun b16 =>
    (AVal.comp 1 r14.1).bind fun u17 =>
    (AVal.bool? u17).bind fun b18 =>
    l_qdimacs_reader_blocks_0 fuel d n [(0, (AVal.ptr x0)), (4, (AVal.slice a13.1)), (5, (AVal.bool b16)), (6, (AVal.bool b18))] r14.2) else none)))) else none)) else (some ((.exit 0), [(2, AVal.bot), (3, AVal.bot), (4, (AVal.slice x4))], h))) := by
  generalize hh : run = R
  rw [run_is] at hh
  subst hh
  generalize hh : l_qdimacs_reader_blocks_0 = R
  rw [l_qdimacs_reader_blocks_0_is] at hh
  subst hh
  kernel_rfl

theorem k_qdimacs_reader_blocks_0_x0 (fuel d : Nat) (x2 : AVal) (x3 : AVal) (x4 : Sl) (h : AHeap) :
    k_qdimacs_reader_blocks_0 fuel d (.exit 0) [(2, x2), (3, x3), (4, (AVal.slice x4))] h =
  some ((AVal.tup [(AVal.slice x4), AVal.nilif]), h) := by
  generalize hh : k_qdimacs_reader_blocks_0 = R
  rw [k_qdimacs_reader_blocks_0_is] at hh
  subst hh
  kernel_rfl

theorem k_qdimacs_reader_blocks_0_r (fuel d : Nat) (x2 : Sl) (x3 : AVal) (x4 : AVal) (h : AHeap) :
    k_qdimacs_reader_blocks_0 fuel d .ret [(2, (AVal.slice x2)), (3, x3), (4, x4)] h =
  some ((AVal.tup [(AVal.slice x2), x3]), h) := by
  generalize hh : k_qdimacs_reader_blocks_0 = R
  rw [k_qdimacs_reader_blocks_0_is] at hh
  subst hh
  kernel_rfl

noncomputable def s_skolemref_SameBlocks_0 (fuel d : Nat) : Run := fun fr h k => aexec (Cf fuel F_skolemref_SameBlocks) false (acall (C fuel) false d) (acall (C fuel) true d) 29 (csub [true, true, false, true, false, false] (fbody Go.Proofs.Tryd.f80)) (asub [true, true, false, true, false, false] an80) fr h k

noncomputable def l_skolemref_SameBlocks_0r (fuel d : Nat) (n : Nat) (fr : Fr) (h : AHeap) : Option (AExit × Fr × AHeap) := aloop (s_skolemref_SameBlocks_0 fuel d) (some [0, 1, 5]) n fr h (kOut [4])

noncomputable def l_skolemref_SameBlocks_0 : Nat → Nat → Nat → Fr → AHeap → Option (AExit × Fr × AHeap) := hide l_skolemref_SameBlocks_0r

theorem l_skolemref_SameBlocks_0_is : l_skolemref_SameBlocks_0 = l_skolemref_SameBlocks_0r := hide_eq _

noncomputable def k_skolemref_SameBlocks_0r (fuel d : Nat) : AExit → Fr → AHeap → Option (AVal × AHeap) := (kBlock 0 (kSeq (Cf fuel F_skolemref_SameBlocks) false (acall (C fuel) false d) (acall (C fuel) true d) 29 (csub [true, true, true] (fbody Go.Proofs.Tryd.f80)) (asub [true, true, true] an80) (kRet (Cf fuel F_skolemref_SameBlocks) Go.Proofs.Tryd.f80.results.toList)))

noncomputable def k_skolemref_SameBlocks_0 : Nat → Nat → AExit → Fr → AHeap → Option (AVal × AHeap) := hide k_skolemref_SameBlocks_0r

theorem k_skolemref_SameBlocks_0_is : k_skolemref_SameBlocks_0 = k_skolemref_SameBlocks_0r := hide_eq _

theorem e_skolemref_SameBlocks (fuel d : Nat) (x0 : Sl) (x1 : Sl) (h : AHeap) :
    brun fuel (d + 1) F_skolemref_SameBlocks [(AVal.slice x0), (AVal.slice x1)] h =
  (bif (!decide (((x0.len : Nat) : Int) = ((x1.len : Nat) : Int))) then (some ((AVal.bool false), h)) else ((l_skolemref_SameBlocks_0 fuel d fuel [(0, (AVal.slice x0)), (1, (AVal.slice x1)), (5, (AVal.int .i64 (0 : Int)))] h).bind fun p1 =>
    k_skolemref_SameBlocks_0 fuel d p1.1 p1.2.1 p1.2.2)) := by
  generalize hh : brun = R
  rw [brun_is] at hh
  subst hh
  generalize hh : l_skolemref_SameBlocks_0 = R
  rw [l_skolemref_SameBlocks_0_is] at hh
  subst hh
  generalize hh : k_skolemref_SameBlocks_0 = R
  rw [k_skolemref_SameBlocks_0_is] at hh
  subst hh
  kernel_rfl

theorem l_skolemref_SameBlocks_0_eq (fuel d : Nat) (n : Nat) (x0 : Sl) (x1 : Sl) (x5 : Int) (h : AHeap) :
    l_skolemref_SameBlocks_0 fuel d (n + 1) [(0, (AVal.slice x0)), (1, (AVal.slice x1)), (5, (AVal.int .i64 x5))] h =
  (bif (decide (x5 < ((x0.len : Nat) : Int))) then ((AHeap.addr h 2 x0 x5).bind fun p1 =>
    (AHeap.cellsAt h 2 p1).bind fun c2 =>
    (AHeap.addr h 2 x1 x5).bind fun p3 =>
    (AHeap.cellsAt h 2 p3).bind fun c4 =>
    (run fuel d F_skolemref_SameBlock [(AVal.agg c2), (AVal.agg c4)] h).bind fun r5 =>
    (AVal.bool? r5.1).bind fun b6 =>
    (bif (!b6) then (some (.ret, [(4, (AVal.bool false))], r5.2)) else (l_skolemref_SameBlocks_0 fuel d n [(0, (AVal.slice x0)), (1, (AVal.slice x1)), (5, (AVal.int .i64 (IntKind.wrap .i64 (x5 + (1 : Int)))))] r5.2))) else (some ((.exit 0), [(4, AVal.bot)], h))) := by
  generalize hh : run = R
  rw [run_is] at hh
  subst hh
  generalize hh : l_skolemref_SameBlocks_0 = R
  rw [l_skolemref_SameBlocks_0_is] at hh
  subst hh
  kernel_rfl

theorem k_skolemref_SameBlocks_0_x0 (fuel d : Nat) (x4 : AVal) (h : AHeap) :
    k_skolemref_SameBlocks_0 fuel d (.exit 0) [(4, x4)] h =
  some ((AVal.bool true), h) := by
  generalize hh : k_skolemref_SameBlocks_0 = R
  rw [k_skolemref_SameBlocks_0_is] at hh
  subst hh
  kernel_rfl

theorem e_strconv_Atoi (fuel d : Nat) (x0 : ByteArray) (h : AHeap) :
    brun fuel (d + 1) F_strconv_Atoi [(AVal.str x0)] h =
  (run fuel d F_internal_strconv_Atoi [(AVal.str x0)] h).bind fun r1 =>
    (bif AVal.isTup 2 r1.1 then ((AVal.comp 0 r1.1).bind fun u2 =>
    (AVal.int? .i64 u2).bind fun n3 =>
    (AVal.comp 1 r1.1).bind fun u4 =>
    (nilTest .iface u4).bind fun b5 =>
    (bif (!b5) then ((run fuel d F_strconv_toError [(AVal.str (⟨#[65, 116, 111, 105]⟩ : ByteArray)), (AVal.str x0), (AVal.int .i64 (0 : Int)), (AVal.int .i64 (0 : Int)), u4] r1.2).bind fun r6 =>
    some ((AVal.tup [(AVal.int .i64 n3), r6.1]), r6.2)) else (some ((AVal.tup [(AVal.int .i64 n3), AVal.nilif]), r1.2)))) else none) := by
  generalize hh : run = R
  rw [run_is] at hh
  subst hh
  generalize hh : brun = R
  rw [brun_is] at hh
  subst hh
  kernel_rfl

noncomputable def s_skolemsee_sentinel_0 (fuel d : Nat) : Run := fun fr h k => aexec (Cf fuel F_skolemsee_sentinel) false (acall (C fuel) false d) (acall (C fuel) true d) 20 (csub [true, true, false, true, false, false] (fbody Go.Proofs.Tryd.f86)) (asub [true, true, false, true, false, false] an86) fr h k

noncomputable def l_skolemsee_sentinel_0r (fuel d : Nat) (n : Nat) (fr : Fr) (h : AHeap) : Option (AExit × Fr × AHeap) := aloop (s_skolemsee_sentinel_0 fuel d) (some [0, 3, 4]) n fr h (kOut [2])

noncomputable def l_skolemsee_sentinel_0 : Nat → Nat → Nat → Fr → AHeap → Option (AExit × Fr × AHeap) := hide l_skolemsee_sentinel_0r

theorem l_skolemsee_sentinel_0_is : l_skolemsee_sentinel_0 = l_skolemsee_sentinel_0r := hide_eq _

noncomputable def k_skolemsee_sentinel_0r (fuel d : Nat) : AExit → Fr → AHeap → Option (AVal × AHeap) := (kBlock 0 (kSeq (Cf fuel F_skolemsee_sentinel) false (acall (C fuel) false d) (acall (C fuel) true d) 20 (csub [true, true, true] (fbody Go.Proofs.Tryd.f86)) (asub [true, true, true] an86) (kRet (Cf fuel F_skolemsee_sentinel) Go.Proofs.Tryd.f86.results.toList)))

noncomputable def k_skolemsee_sentinel_0 : Nat → Nat → AExit → Fr → AHeap → Option (AVal × AHeap) := hide k_skolemsee_sentinel_0r

theorem k_skolemsee_sentinel_0_is : k_skolemsee_sentinel_0 = k_skolemsee_sentinel_0r := hide_eq _

theorem e_skolemsee_sentinel (fuel d : Nat) (x0 : AVal) (h : AHeap) :
    brun fuel (d + 1) F_skolemsee_sentinel [x0] h =
  (run fuel d F_skolemsee_sentinels [] h).bind fun r1 =>
    (AVal.slice? r1.1).bind fun s2 =>
    (l_skolemsee_sentinel_0 fuel d fuel [(0, x0), (3, (AVal.slice s2)), (4, (AVal.int .i64 (0 : Int)))] r1.2).bind fun p3 =>
    k_skolemsee_sentinel_0 fuel d p3.1 p3.2.1 p3.2.2 := by
  generalize hh : run = R
  rw [run_is] at hh
  subst hh
  generalize hh : brun = R
  rw [brun_is] at hh
  subst hh
  generalize hh : l_skolemsee_sentinel_0 = R
  rw [l_skolemsee_sentinel_0_is] at hh
  subst hh
  generalize hh : k_skolemsee_sentinel_0 = R
  rw [k_skolemsee_sentinel_0_is] at hh
  subst hh
  kernel_rfl

theorem l_skolemsee_sentinel_0_eq (fuel d : Nat) (n : Nat) (x0 : AVal) (x3 : Sl) (x4 : Int) (h : AHeap) :
    l_skolemsee_sentinel_0 fuel d (n + 1) [(0, x0), (3, (AVal.slice x3)), (4, (AVal.int .i64 x4))] h =
  (bif (decide (x4 < ((x3.len : Nat) : Int))) then ((AHeap.addr h 1 x3 x4).bind fun p1 =>
    (AHeap.cell h p1).bind fun u2 =>
    (run fuel d F_skolemsee_Alike [x0, u2] h).bind fun r3 =>
    (AVal.bool? r3.1).bind fun b4 =>
    (bif b4 then (some (.ret, [(2, (AVal.int .i64 (IntKind.wrap .i64 ((101 : Int) + x4))))], r3.2)) else (l_skolemsee_sentinel_0 fuel d n [(0, x0), (3, (AVal.slice x3)), (4, (AVal.int .i64 (IntKind.wrap .i64 (x4 + (1 : Int)))))] r3.2))) else (some ((.exit 0), [(2, AVal.bot)], h))) := by
  generalize hh : run = R
  rw [run_is] at hh
  subst hh
  generalize hh : l_skolemsee_sentinel_0 = R
  rw [l_skolemsee_sentinel_0_is] at hh
  subst hh
  kernel_rfl

theorem k_skolemsee_sentinel_0_r (fuel d : Nat) (x2 : Int) (h : AHeap) :
    k_skolemsee_sentinel_0 fuel d .ret [(2, (AVal.int .i64 x2))] h =
  some ((AVal.int .i64 x2), h) := by
  generalize hh : k_skolemsee_sentinel_0 = R
  rw [k_skolemsee_sentinel_0_is] at hh
  subst hh
  kernel_rfl

noncomputable def k_internal_strconv_AppendInt_0r (fuel d : Nat) : AExit → Fr → AHeap → Option (AVal × AHeap) := (kSeq (Cf fuel F_internal_strconv_AppendInt) false (acall (C fuel) false d) (acall (C fuel) true d) 21 (csub [true, true, true] (fbody Go.Proofs.Tryd.f87)) (asub [true, true, true] an87) (kRet (Cf fuel F_internal_strconv_AppendInt) Go.Proofs.Tryd.f87.results.toList))

noncomputable def k_internal_strconv_AppendInt_0 : Nat → Nat → AExit → Fr → AHeap → Option (AVal × AHeap) := hide k_internal_strconv_AppendInt_0r

theorem k_internal_strconv_AppendInt_0_is : k_internal_strconv_AppendInt_0 = k_internal_strconv_AppendInt_0r := hide_eq _

theorem e_internal_strconv_AppendInt (fuel d : Nat) (x0 : Sl) (x1 : Int) (x2 : Int) (h : AHeap) :
    run fuel (d + 1) F_internal_strconv_AppendInt [(AVal.slice x0), (AVal.int .i64 x1), (AVal.int .i64 x2)] h =
  ((bif (decide (x1 < (0 : Int))) then ((AHeap.sliceCells (AHeap.push h 1 [(AVal.int .u8 (45 : Int))]) 1 (Sl.mk ⟨AHeap.next h, 0, 0⟩ 1 true)).bind fun xs1 =>
    (AHeap.append (AHeap.push h 1 [(AVal.int .u8 (45 : Int))]) false 1 1 x0 (Sl.mk ⟨AHeap.next h, 0, 0⟩ 1 true).len xs1).bind fun a2 =>
    some (.normal, [(0, (AVal.slice a2.1)), (2, (AVal.int .i64 x2)), (7, (AVal.int .u64 (IntKind.wrap .u64 (0 - (IntKind.wrap .u64 x1)))))], a2.2)) else (some (.normal, [(0, (AVal.slice x0)), (2, (AVal.int .i64 x2)), (7, (AVal.int .u64 (IntKind.wrap .u64 x1)))], h)))).bind fun p3 =>
    k_internal_strconv_AppendInt_0 fuel d p3.1 p3.2.1 p3.2.2 := by
  generalize hh : run = R
  rw [run_is] at hh
  subst hh
  generalize hh : k_internal_strconv_AppendInt_0 = R
  rw [k_internal_strconv_AppendInt_0_is] at hh
  subst hh
  kernel_rfl

theorem k_internal_strconv_AppendInt_0_n (fuel d : Nat) (x0 : Sl) (x2 : Int) (x7 : Int) (h : AHeap) :
    k_internal_strconv_AppendInt_0 fuel d .normal [(0, (AVal.slice x0)), (2, (AVal.int .i64 x2)), (7, (AVal.int .u64 x7))] h =
  (run fuel d F_strconv_AppendUint [(AVal.slice x0), (AVal.int .u64 x7), (AVal.int .i64 x2)] h).bind fun r1 =>
    (AVal.slice? r1.1).bind fun s2 =>
    some ((AVal.slice s2), r1.2) := by
  generalize hh : run = R
  rw [run_is] at hh
  subst hh
  generalize hh : k_internal_strconv_AppendInt_0 = R
  rw [k_internal_strconv_AppendInt_0_is] at hh
  subst hh
  kernel_rfl

noncomputable def k_word_kind_0r (fuel d : Nat) : AExit → Fr → AHeap → Option (AExit × Fr × AHeap) := (kBlock 3 (kOut []))

noncomputable def k_word_kind_0 : Nat → Nat → AExit → Fr → AHeap → Option (AExit × Fr × AHeap) := hide k_word_kind_0r

theorem k_word_kind_0_is : k_word_kind_0 = k_word_kind_0r := hide_eq _

noncomputable def k_word_kind_1r (fuel d : Nat) : AExit → Fr → AHeap → Option (AVal × AHeap) := (kSeq (Cf fuel F_word_kind) false (acall (C fuel) false d) (acall (C fuel) true d) 12 (csub [true, false, true, false, false, false, true] (fbody Go.Proofs.Tryd.f89)) (asub [true, false, true, false, false, false, true] an89) (kBlock 4 (kSeq (Cf fuel F_word_kind) false (acall (C fuel) false d) (acall (C fuel) true d) 12 (csub [true, false, true, false, true] (fbody Go.Proofs.Tryd.f89)) (asub [true, false, true, false, true] an89) (kBlock 0 (kSeq (Cf fuel F_word_kind) false (acall (C fuel) false d) (acall (C fuel) true d) 12 (csub [true, true] (fbody Go.Proofs.Tryd.f89)) (asub [true, true] an89) (kRet (Cf fuel F_word_kind) Go.Proofs.Tryd.f89.results.toList))))))

noncomputable def k_word_kind_1 : Nat → Nat → AExit → Fr → AHeap → Option (AVal × AHeap) := hide k_word_kind_1r

theorem k_word_kind_1_is : k_word_kind_1 = k_word_kind_1r := hide_eq _

theorem e_word_kind (fuel d : Nat) (x0 : Int) (h : AHeap) :
    brun fuel (d + 1) F_word_kind [(AVal.int .u8 x0)] h =
  (((bif (decide (x0 = (32 : Int))) then (some (.normal, [], h)) else ((bif (decide (x0 = (9 : Int))) then (some (.normal, [], h)) else ((bif (decide (x0 = (13 : Int))) then (some ((.exit 3), [], h)) else ((bif (decide (x0 = (10 : Int))) then (some ((.exit 4), [], h)) else (some ((.exit 0), [], h)))))))))).bind fun p1 =>
    k_word_kind_0 fuel d p1.1 p1.2.1 p1.2.2).bind fun p2 =>
    k_word_kind_1 fuel d p2.1 p2.2.1 p2.2.2 := by
  generalize hh : brun = R
  rw [brun_is] at hh
  subst hh
  generalize hh : k_word_kind_0 = R
  rw [k_word_kind_0_is] at hh
  subst hh
  generalize hh : k_word_kind_1 = R
  rw [k_word_kind_1_is] at hh
  subst hh
  kernel_rfl

theorem k_word_kind_0_x0 (fuel d : Nat)  (h : AHeap) :
    k_word_kind_0 fuel d (.exit 0) [] h =
  some ((.exit 0), [], h) := by
  generalize hh : k_word_kind_0 = R
  rw [k_word_kind_0_is] at hh
  subst hh
  kernel_rfl

theorem k_word_kind_0_x3 (fuel d : Nat)  (h : AHeap) :
    k_word_kind_0 fuel d (.exit 3) [] h =
  some (.normal, [], h) := by
  generalize hh : k_word_kind_0 = R
  rw [k_word_kind_0_is] at hh
  subst hh
  kernel_rfl

theorem k_word_kind_0_x4 (fuel d : Nat)  (h : AHeap) :
    k_word_kind_0 fuel d (.exit 4) [] h =
  some ((.exit 4), [], h) := by
  generalize hh : k_word_kind_0 = R
  rw [k_word_kind_0_is] at hh
  subst hh
  kernel_rfl

theorem k_word_kind_0_n (fuel d : Nat)  (h : AHeap) :
    k_word_kind_0 fuel d .normal [] h =
  some (.normal, [], h) := by
  generalize hh : k_word_kind_0 = R
  rw [k_word_kind_0_is] at hh
  subst hh
  kernel_rfl

theorem k_word_kind_1_x0 (fuel d : Nat)  (h : AHeap) :
    k_word_kind_1 fuel d (.exit 0) [] h =
  some ((AVal.int .i64 (0 : Int)), h) := by
  generalize hh : k_word_kind_1 = R
  rw [k_word_kind_1_is] at hh
  subst hh
  kernel_rfl

theorem k_word_kind_1_x4 (fuel d : Nat)  (h : AHeap) :
    k_word_kind_1 fuel d (.exit 4) [] h =
  some ((AVal.int .i64 (2 : Int)), h) := by
  generalize hh : k_word_kind_1 = R
  rw [k_word_kind_1_is] at hh
  subst hh
  kernel_rfl

theorem k_word_kind_1_n (fuel d : Nat)  (h : AHeap) :
    k_word_kind_1 fuel d .normal [] h =
  some ((AVal.int .i64 (1 : Int)), h) := by
  generalize hh : k_word_kind_1 = R
  rw [k_word_kind_1_is] at hh
  subst hh
  kernel_rfl

theorem e_word_Plain (fuel d : Nat) (x0 : ByteArray) (h : AHeap) :
    brun fuel (d + 1) F_word_Plain [(AVal.str x0)] h =
  (run fuel d F_word_Number [(AVal.str x0)] h).bind fun r1 =>
    (bif AVal.isTup 2 r1.1 then ((AVal.comp 0 r1.1).bind fun u2 =>
    (AVal.int? .i64 u2).bind fun n3 =>
    (AVal.comp 1 r1.1).bind fun u4 =>
    (AVal.bool? u4).bind fun b5 =>
    ((bif ((!b5) == false) then ((strAt x0 (0 : Int)).bind fun n6 =>
    some ((AVal.bool (decide (n6 = (45 : Int)))), r1.2)) else (some ((AVal.bool true), r1.2)) : Option (AVal × AHeap))).bind fun r7 =>
    (AVal.bool? r7.1).bind fun b8 =>
    (bif b8 then (some ((AVal.tup [(AVal.int .i64 (0 : Int)), (AVal.bool false)]), r7.2)) else (some ((AVal.tup [(AVal.int .i64 n3), (AVal.bool true)]), r7.2)))) else none) := by
  generalize hh : run = R
  rw [run_is] at hh
  subst hh
  generalize hh : brun = R
  rw [brun_is] at hh
  subst hh
  kernel_rfl

theorem e_strconv_Itoa (fuel d : Nat) (x0 : Int) (h : AHeap) :
    brun fuel (d + 1) F_strconv_Itoa [(AVal.int .i64 x0)] h =
  (run fuel d F_internal_strconv_Itoa [(AVal.int .i64 x0)] h).bind fun r1 =>
    (AVal.str? r1.1).bind fun s2 =>
    some ((AVal.str s2), r1.2) := by
  generalize hh : run = R
  rw [run_is] at hh
  subst hh
  generalize hh : brun = R
  rw [brun_is] at hh
  subst hh
  kernel_rfl

noncomputable def k_qdimacs_reader_begins_0r (fuel d : Nat) : AExit → Fr → AHeap → Option (AVal × AHeap) := (kSeq (Cf fuel F_qdimacs_reader_begins) false (acall (C fuel) false d) (acall (C fuel) true d) 48 (csub [true, false, true] (fbody Go.Proofs.Tryd.f94)) (asub [true, false, true] an94) (kSeq (Cf fuel F_qdimacs_reader_begins) false (acall (C fuel) false d) (acall (C fuel) true d) 48 (csub [true, true] (fbody Go.Proofs.Tryd.f94)) (asub [true, true] an94) (kRet (Cf fuel F_qdimacs_reader_begins) Go.Proofs.Tryd.f94.results.toList)))

noncomputable def k_qdimacs_reader_begins_0 : Nat → Nat → AExit → Fr → AHeap → Option (AVal × AHeap) := hide k_qdimacs_reader_begins_0r

theorem k_qdimacs_reader_begins_0_is : k_qdimacs_reader_begins_0 = k_qdimacs_reader_begins_0r := hide_eq _

theorem e_qdimacs_reader_begins (fuel d : Nat) (x0 : Pt) (h : AHeap) :
    run fuel (d + 1) F_qdimacs_reader_begins [(AVal.ptr x0)] h =
  ((Pt.chk x0).bind fun p1 =>
    (Pt.field 1 p1).bind fun p2 =>
    (AHeap.cell h p2).bind fun u3 =>
    (AVal.int? .i64 u3).bind fun n4 =>
    (Pt.chk x0).bind fun p5 =>
    (Pt.field 0 p5).bind fun p6 =>
    (AHeap.cell h p6).bind fun u7 =>
    (AVal.slice? u7).bind fun s8 =>
    (bif (decide (((s8.len : Nat) : Int) ≤ n4)) then (some (.normal, [(0, (AVal.ptr x0)), (28, (AVal.bool true))], h)) else ((Pt.chk x0).bind fun p9 =>
    (Pt.field 0 p9).bind fun p10 =>
    (AHeap.cell h p10).bind fun u11 =>
    (AVal.slice? u11).bind fun s12 =>
    (Pt.chk x0).bind fun p13 =>
    (Pt.field 1 p13).bind fun p14 =>
    (AHeap.cell h p14).bind fun u15 =>
    (AVal.int? .i64 u15).bind fun n16 =>
    (AHeap.addr h 3 s12 n16).bind fun p17 =>
    (Pt.field 2 p17).bind fun p18 =>
    (AHeap.cell h p18).bind fun u19 =>
    (AVal.bool? u19).bind fun b20 =>
    some (.normal, [(0, (AVal.ptr x0)), (28, (AVal.bool (!b20)))], h)))).bind fun p21 =>
    k_qdimacs_reader_begins_0 fuel d p21.1 p21.2.1 p21.2.2 := by
  generalize hh : run = R
  rw [run_is] at hh
  subst hh
  generalize hh : k_qdimacs_reader_begins_0 = R
  rw [k_qdimacs_reader_begins_0_is] at hh
  subst hh
  kernel_rfl

theorem k_qdimacs_reader_begins_0_n (fuel d : Nat) (x0 : Pt) (x28 : Bool) (h : AHeap) :
    k_qdimacs_reader_begins_0 fuel d .normal [(0, (AVal.ptr x0)), (28, (AVal.bool x28))] h =
  (bif x28 then (some ((AVal.tup [(AVal.bool false), (AVal.bool false)]), h)) else ((Pt.chk x0).bind fun p1 =>
    (Pt.field 0 p1).bind fun p2 =>
    (AHeap.cell h p2).bind fun u3 =>
    (AVal.slice? u3).bind fun s4 =>
    (Pt.chk x0).bind fun p5 =>
    (Pt.field 1 p5).bind fun p6 =>
    (AHeap.cell h p6).bind fun u7 =>
    (AVal.int? .i64 u7).bind fun n8 =>
    (AHeap.addr h 3 s4 n8).bind fun p9 =>
    (Pt.field 0 p9).bind fun p10 =>
    (AHeap.cell h p10).bind fun u11 =>
    (AVal.str? u11).bind fun s12 =>
    some ((AVal.tup [(AVal.bool (decide (s12 = (⟨#[101]⟩ : ByteArray)))), (AVal.bool (bif (decide (s12 = (⟨#[97]⟩ : ByteArray))) then true else (decide (s12 = (⟨#[101]⟩ : ByteArray)))))]), h))) := by
  generalize hh : k_qdimacs_reader_begins_0 = R
  rw [k_qdimacs_reader_begins_0_is] at hh
  subst hh
  kernel_rfl

noncomputable def s_qdimacs_reader_block_0 (fuel d : Nat) : Run := fun fr h k => aexec (Cf fuel F_qdimacs_reader_block) false (acall (C fuel) false d) (acall (C fuel) true d) 101 (csub [true, true, false, false, false] (fbody Go.Proofs.Tryd.f95)) (asub [true, true, false, false, false] an95) fr h k

noncomputable def l_qdimacs_reader_block_0r (fuel d : Nat) (n : Nat) (fr : Fr) (h : AHeap) : Option (AExit × Fr × AHeap) := aloop (s_qdimacs_reader_block_0 fuel d) (some [0, 4]) n fr h (kOut [0, 2, 3])

noncomputable def l_qdimacs_reader_block_0 : Nat → Nat → Nat → Fr → AHeap → Option (AExit × Fr × AHeap) := hide l_qdimacs_reader_block_0r

theorem l_qdimacs_reader_block_0_is : l_qdimacs_reader_block_0 = l_qdimacs_reader_block_0r := hide_eq _

noncomputable def k_qdimacs_reader_block_0r (fuel d : Nat) : AExit → Fr → AHeap → Option (AVal × AHeap) := (kBlock 0 (kSeq (Cf fuel F_qdimacs_reader_block) false (acall (C fuel) false d) (acall (C fuel) true d) 101 (csub [true, true, true] (fbody Go.Proofs.Tryd.f95)) (asub [true, true, true] an95) (kRet (Cf fuel F_qdimacs_reader_block) Go.Proofs.Tryd.f95.results.toList)))

noncomputable def k_qdimacs_reader_block_0 : Nat → Nat → AExit → Fr → AHeap → Option (AVal × AHeap) := hide k_qdimacs_reader_block_0r

theorem k_qdimacs_reader_block_0_is : k_qdimacs_reader_block_0 = k_qdimacs_reader_block_0r := hide_eq _

theorem e_qdimacs_reader_block (fuel d : Nat) (x0 : Pt) (h : AHeap) :
    run fuel (d + 1) F_qdimacs_reader_block [(AVal.ptr x0)] h =
  (l_qdimacs_reader_block_0 fuel d fuel [(0, (AVal.ptr x0)), (4, (AVal.slice Sl.nil))] h).bind fun p1 =>
    k_qdimacs_reader_block_0 fuel d p1.1 p1.2.1 p1.2.2 := by
  generalize hh : run = R
  rw [run_is] at hh
  subst hh
  generalize hh : l_qdimacs_reader_block_0 = R
  rw [l_qdimacs_reader_block_0_is] at hh
  subst hh
  generalize hh : k_qdimacs_reader_block_0 = R
  rw [k_qdimacs_reader_block_0_is] at hh
  subst hh
  kernel_rfl

theorem l_qdimacs_reader_block_0_eq (fuel d : Nat) (n : Nat) (x0 : Pt) (x4 : Sl) (h : AHeap) :
    l_qdimacs_reader_block_0 fuel d (n + 1) [(0, (AVal.ptr x0)), (4, (AVal.slice x4))] h =
  (Pt.chk x0).bind fun p1 =>
    (Pt.field 1 p1).bind fun p2 =>
    (AHeap.cell h p2).bind fun u3 =>
    (AVal.int? .i64 u3).bind fun n4 =>
    (Pt.chk x0).bind fun p5 =>
    (Pt.field 0 p5).bind fun p6 =>
    (AHeap.cell h p6).bind fun u7 =>
    (AVal.slice? u7).bind fun s8 =>
    (bif (decide (n4 < ((s8.len : Nat) : Int))) then ((Pt.chk x0).bind fun p9 =>
    (Pt.field 0 p9).bind fun p10 =>
    (AHeap.cell h p10).bind fun u11 =>
    (AVal.slice? u11).bind fun s12 =>
    (Pt.chk x0).bind fun p13 =>
    (Pt.field 1 p13).bind fun p14 =>
    (AHeap.cell h p14).bind fun u15 =>
    (AVal.int? .i64 u15).bind fun n16 =>
    (AHeap.addr h 3 s12 n16).bind fun p17 =>
    (AHeap.cellsAt h 3 p17).bind fun c18 =>
    same ((AHeap.cellsAt (AHeap.push h 1 [(AVal.str (⟨#[]⟩ : ByteArray)), (AVal.int .i64 (0 : Int)), (AVal.bool false)]) 3 p17).bind fun c74 =>
    some ((AVal.agg c74), (AHeap.push h 1 [(AVal.str (⟨#[]⟩ : ByteArray)), (AVal.int .i64 (0 : Int)), (AVal.bool false)]))) ((AVal.agg c18), (AHeap.push h 1 [(AVal.str (⟨#[]⟩ : ByteArray)), (AVal.int .i64 (0 : Int)), (AVal.bool false)])) (
    same ((AHeap.addr (AHeap.push h 1 [(AVal.str (⟨#[]⟩ : ByteArray)), (AVal.int .i64 (0 : Int)), (AVal.bool false)]) 3 s12 n16).bind fun p73 =>
    some ((AVal.ptr p73), (AHeap.push h 1 [(AVal.str (⟨#[]⟩ : ByteArray)), (AVal.int .i64 (0 : Int)), (AVal.bool false)]))) ((AVal.ptr p17), (AHeap.push h 1 [(AVal.str (⟨#[]⟩ : ByteArray)), (AVal.int .i64 (0 : Int)), (AVal.bool false)])) (
    same ((AHeap.cell (AHeap.push h 1 [(AVal.str (⟨#[]⟩ : ByteArray)), (AVal.int .i64 (0 : Int)), (AVal.bool false)]) p14).bind fun u71 =>
    (AVal.int? .i64 u71).bind fun n72 =>
    some ((AVal.int .i64 n72), (AHeap.push h 1 [(AVal.str (⟨#[]⟩ : ByteArray)), (AVal.int .i64 (0 : Int)), (AVal.bool false)]))) ((AVal.int .i64 n16), (AHeap.push h 1 [(AVal.str (⟨#[]⟩ : ByteArray)), (AVal.int .i64 (0 : Int)), (AVal.bool false)])) (
    same ((AHeap.cell (AHeap.push h 1 [(AVal.str (⟨#[]⟩ : ByteArray)), (AVal.int .i64 (0 : Int)), (AVal.bool false)]) p10).bind fun u69 =>
    (AVal.slice? u69).bind fun s70 =>
    some ((AVal.slice s70), (AHeap.push h 1 [(AVal.str (⟨#[]⟩ : ByteArray)), (AVal.int .i64 (0 : Int)), (AVal.bool false)]))) ((AVal.slice s12), (AHeap.push h 1 [(AVal.str (⟨#[]⟩ : ByteArray)), (AVal.int .i64 (0 : Int)), (AVal.bool false)])) (
    (bif (!false && Nat.beq (List.length c18) 3 && List.all c18 AVal.isCell) then ((AHeap.storeAt (AHeap.push h 1 [(AVal.str (⟨#[]⟩ : ByteArray)), (AVal.int .i64 (0 : Int)), (AVal.bool false)]) c18 (Pt.mk ⟨AHeap.next h, 0, 0⟩ 3)).bind fun h19 =>
    (Pt.field 0 (Pt.mk ⟨AHeap.next h, 0, 0⟩ 3)).bind fun p20 =>
    (AHeap.cell h19 p20).bind fun u21 =>
    (AVal.str? u21).bind fun s22 =>
    (run fuel d F_word_Number [(AVal.str s22)] h19).bind fun r23 =>
    (bif AVal.isTup 2 r23.1 then ((AVal.comp 0 r23.1).bind fun u24 =>
    (AVal.int? .i64 u24).bind fun n25 =>
    (AVal.comp 1 r23.1).bind fun u26 =>
    (AVal.bool? u26).bind fun b27 =>
    (bif (bif b27 then (decide (n25 = (0 : Int))) else false) then ((Pt.chk x0).bind fun p28 =>
    (Pt.field 1 p28).bind fun p29 =>
    (AHeap.cell r23.2 p29).bind fun u30 =>
    (AVal.int? .i64 u30).bind fun n31 =>
    (Pt.chk x0).bind fun p32 =>
    (Pt.field 1 p32).bind fun p33 =>
    (AHeap.storeAt r23.2 [(AVal.int .i64 (IntKind.wrap .i64 (n31 + (1 : Int))))] p33).bind fun h34 =>
    some (.ret, [(0, (AVal.ptr x0)), (2, (AVal.slice x4)), (3, AVal.nilif)], h34)) else (((bif ((bif (!b27) then true else (decide (n25 < (1 : Int)))) == false) then ((Pt.chk x0).bind fun p35 =>
    (Pt.field 3 p35).bind fun p36 =>
    (AHeap.cell r23.2 p36).bind fun u37 =>
    (AVal.int? .i64 u37).bind fun n38 =>
    some ((AVal.bool (decide (n38 < n25))), r23.2)) else (some ((AVal.bool true), r23.2)) : Option (AVal × AHeap))).bind fun r39 =>
    (AVal.bool? r39.1).bind fun b40 =>
    ((bif (b40 == false) then ((Pt.chk x0).bind fun p41 =>
    (Pt.field 4 p41).bind fun p42 =>
    (AHeap.cell r39.2 p42).bind fun u43 =>
    (AVal.map? u43).bind fun m44 =>
    (AHeap.mapOf r39.2 m44).bind fun es45 =>
    (mfind (AVal.int .i64 n25) es45).bind fun r46 =>
    (AVal.bool? (mgot (AVal.bool false) r46)).bind fun b47 =>
    some ((AVal.bool b47), r39.2)) else (some ((AVal.bool true), r39.2)) : Option (AVal × AHeap))).bind fun r48 =>
    (AVal.bool? r48.1).bind fun b49 =>
    (bif b49 then ((Pt.field 1 (Pt.mk ⟨AHeap.next h, 0, 0⟩ 3)).bind fun p50 =>
    (AHeap.cell r48.2 p50).bind fun u51 =>
    (AVal.int? .i64 u51).bind fun n52 =>
    ((bif (Nat.beq (List.length (AVal.cells err_api_ErrText)) 1 && Nat.ble (1 + 1) (List.length [(AVal.int .i64 n52), AVal.nilif]) && List.all (AVal.cells err_api_ErrText) AVal.isCell) then ((some (AHeap.overlay [(AVal.int .i64 n52), AVal.nilif] 1 (AVal.cells err_api_ErrText)))) else (none))).bind fun c53 =>
    (bif (List.all c53 AVal.isCell) then (some (.ret, [(0, (AVal.ptr x0)), (2, (AVal.slice Sl.nil)), (3, (AVal.iface T_p_api_At (AVal.ptr (Pt.mk ⟨AHeap.next r48.2, 0, 0⟩ (List.length c53)))))], (AHeap.push r48.2 1 c53))) else (none))) else ((Pt.chk x0).bind fun p54 =>
    (Pt.field 4 p54).bind fun p55 =>
    (AHeap.cell r48.2 p55).bind fun u56 =>
    (AVal.map? u56).bind fun m57 =>
    (m57).bind fun m58 =>
    ((r48.2.maps)[m58]?).bind fun es59 =>
    (mset (AVal.int .i64 n25) (AVal.bool true) es59).bind fun es60 =>
    (AHeap.append (AHeap.setMap r48.2 m58 es60) false 1 8 x4 1 [(AVal.int .i64 n25)]).bind fun a61 =>
    (Pt.chk x0).bind fun p62 =>
    (Pt.field 1 p62).bind fun p63 =>
    (AHeap.cell a61.2 p63).bind fun u64 =>
    (AVal.int? .i64 u64).bind fun n65 =>
    (Pt.chk x0).bind fun p66 =>
    (Pt.field 1 p66).bind fun p67 =>
    (AHeap.storeAt a61.2 [(AVal.int .i64 (IntKind.wrap .i64 (n65 + (1 : Int))))] p67).bind fun h68 =>
    l_qdimacs_reader_block_0 fuel d n [(0, (AVal.ptr x0)), (4, (AVal.slice a61.1))] h68))))) else none)) else (none))))))) else (some ((.exit 0), [(0, (AVal.ptr x0)), (2, AVal.bot), (3, AVal.bot)], h))) := by
  generalize hh : run = R
  rw [run_is] at hh
  subst hh
  generalize hh : l_qdimacs_reader_block_0 = R
  rw [l_qdimacs_reader_block_0_is] at hh
  subst hh
  kernel_rfl

theorem k_qdimacs_reader_block_0_x0 (fuel d : Nat) (x0 : Pt) (x2 : AVal) (x3 : AVal) (h : AHeap) :
    k_qdimacs_reader_block_0 fuel d (.exit 0) [(0, (AVal.ptr x0)), (2, x2), (3, x3)] h =
  (Pt.chk x0).bind fun p1 =>
    (Pt.field 2 p1).bind fun p2 =>
    (AHeap.cell h p2).bind fun u3 =>
    (AVal.int? .i64 u3).bind fun n4 =>
    ((bif (Nat.beq (List.length (AVal.cells err_api_ErrText)) 1 && Nat.ble (1 + 1) (List.length [(AVal.int .i64 n4), AVal.nilif]) && List.all (AVal.cells err_api_ErrText) AVal.isCell) then ((some (AHeap.overlay [(AVal.int .i64 n4), AVal.nilif] 1 (AVal.cells err_api_ErrText)))) else (none))).bind fun c5 =>
    (bif (List.all c5 AVal.isCell) then (some ((AVal.tup [(AVal.slice Sl.nil), (AVal.iface T_p_api_At (AVal.ptr (Pt.mk ⟨AHeap.next h, 0, 0⟩ (List.length c5))))]), (AHeap.push h 1 c5))) else (none)) := by
  generalize hh : k_qdimacs_reader_block_0 = R
  rw [k_qdimacs_reader_block_0_is] at hh
  subst hh
  kernel_rfl

theorem k_qdimacs_reader_block_0_r (fuel d : Nat) (x0 : AVal) (x2 : Sl) (x3 : AVal) (h : AHeap) :
    k_qdimacs_reader_block_0 fuel d .ret [(0, x0), (2, (AVal.slice x2)), (3, x3)] h =
  some ((AVal.tup [(AVal.slice x2), x3]), h) := by
  generalize hh : k_qdimacs_reader_block_0 = R
  rw [k_qdimacs_reader_block_0_is] at hh
  subst hh
  kernel_rfl

theorem e_skolemref_SameBlock (fuel d : Nat) (x0 : List AVal) (x1 : List AVal) (h : AHeap) :
    brun fuel (d + 1) F_skolemref_SameBlock [(AVal.agg x0), (AVal.agg x1)] h =
  (bif (List.all x0 AVal.isCell) then ((bif (List.all x1 AVal.isCell) then ((Pt.field 0 (Pt.mk ⟨AHeap.next h, 0, 0⟩ (List.length x0))).bind fun p1 =>
    (AHeap.cell (AHeap.push (AHeap.push h 1 x0) 1 x1) p1).bind fun u2 =>
    (AVal.bool? u2).bind fun b3 =>
    (Pt.field 0 (Pt.mk ⟨AHeap.next (AHeap.push h 1 x0), 0, 0⟩ (List.length x1))).bind fun p4 =>
    (AHeap.cell (AHeap.push (AHeap.push h 1 x0) 1 x1) p4).bind fun u5 =>
    (AVal.bool? u5).bind fun b6 =>
    ((bif ((b3 == b6) == true) then ((Pt.field 1 (Pt.mk ⟨AHeap.next h, 0, 0⟩ (List.length x0))).bind fun p7 =>
    (AHeap.cell (AHeap.push (AHeap.push h 1 x0) 1 x1) p7).bind fun u8 =>
    (AVal.slice? u8).bind fun s9 =>
    (Pt.field 1 (Pt.mk ⟨AHeap.next (AHeap.push h 1 x0), 0, 0⟩ (List.length x1))).bind fun p10 =>
    (AHeap.cell (AHeap.push (AHeap.push h 1 x0) 1 x1) p10).bind fun u11 =>
    (AVal.slice? u11).bind fun s12 =>
    (run fuel d F_skolemref_SameInts [(AVal.slice s9), (AVal.slice s12)] (AHeap.push (AHeap.push h 1 x0) 1 x1)).bind fun r13 =>
    (AVal.bool? r13.1).bind fun b14 =>
    some ((AVal.bool b14), r13.2)) else (some ((AVal.bool false), (AHeap.push (AHeap.push h 1 x0) 1 x1))) : Option (AVal × AHeap))).bind fun r15 =>
    (AVal.bool? r15.1).bind fun b16 =>
    some ((AVal.bool b16), r15.2)) else (none))) else (none)) := by
  generalize hh : run = R
  rw [run_is] at hh
  subst hh
  generalize hh : brun = R
  rw [brun_is] at hh
  subst hh
  kernel_rfl

noncomputable def s_internal_strconv_Atoi_0 (fuel d : Nat) : Run := fun fr h k => aexec (Cf fuel F_internal_strconv_Atoi) false (acall (C fuel) false d) (acall (C fuel) true d) 77 (csub [true, true, false, true, false, true, true, true, false, true, false, false] (fbody Go.Proofs.Tryd.f99)) (asub [true, true, false, true, false, true, true, true, false, true, false, false] an99) fr h k

noncomputable def l_internal_strconv_Atoi_0r (fuel d : Nat) (n : Nat) (fr : Fr) (h : AHeap) : Option (AExit × Fr × AHeap) := aloop (s_internal_strconv_Atoi_0 fuel d) (some [5, 6, 47, 48, 49]) n fr h (kOut [2, 3, 5, 6])

noncomputable def l_internal_strconv_Atoi_0 : Nat → Nat → Nat → Fr → AHeap → Option (AExit × Fr × AHeap) := hide l_internal_strconv_Atoi_0r

theorem l_internal_strconv_Atoi_0_is : l_internal_strconv_Atoi_0 = l_internal_strconv_Atoi_0r := hide_eq _

noncomputable def k_internal_strconv_Atoi_0r (fuel d : Nat) : AExit → Fr → AHeap → Option (AVal × AHeap) := (kBlock 0 (kSeq (Cf fuel F_internal_strconv_Atoi) false (acall (C fuel) false d) (acall (C fuel) true d) 77 (csub [true, true, false, true, false, true, true, true, true] (fbody Go.Proofs.Tryd.f99)) (asub [true, true, false, true, false, true, true, true, true] an99) (kSeq (Cf fuel F_internal_strconv_Atoi) false (acall (C fuel) false d) (acall (C fuel) true d) 77 (csub [true, true, true] (fbody Go.Proofs.Tryd.f99)) (asub [true, true, true] an99) (kRet (Cf fuel F_internal_strconv_Atoi) Go.Proofs.Tryd.f99.results.toList))))

noncomputable def k_internal_strconv_Atoi_0 : Nat → Nat → AExit → Fr → AHeap → Option (AVal × AHeap) := hide k_internal_strconv_Atoi_0r

theorem k_internal_strconv_Atoi_0_is : k_internal_strconv_Atoi_0 = k_internal_strconv_Atoi_0r := hide_eq _

noncomputable def k_internal_strconv_Atoi_1r (fuel d : Nat) : AExit → Fr → AHeap → Option (AVal × AHeap) := (kSeq (Cf fuel F_internal_strconv_Atoi) false (acall (C fuel) false d) (acall (C fuel) true d) 77 (csub [true, true, false, true, false, true, true, true, true, true] (fbody Go.Proofs.Tryd.f99)) (asub [true, true, false, true, false, true, true, true, true, true] an99) (kSeq (Cf fuel F_internal_strconv_Atoi) false (acall (C fuel) false d) (acall (C fuel) true d) 77 (csub [true, true, true] (fbody Go.Proofs.Tryd.f99)) (asub [true, true, true] an99) (kRet (Cf fuel F_internal_strconv_Atoi) Go.Proofs.Tryd.f99.results.toList)))

noncomputable def k_internal_strconv_Atoi_1 : Nat → Nat → AExit → Fr → AHeap → Option (AVal × AHeap) := hide k_internal_strconv_Atoi_1r

theorem k_internal_strconv_Atoi_1_is : k_internal_strconv_Atoi_1 = k_internal_strconv_Atoi_1r := hide_eq _

theorem e_internal_strconv_Atoi (fuel d : Nat) (x0 : ByteArray) (h : AHeap) :
    brun fuel (d + 1) F_internal_strconv_Atoi [(AVal.str x0)] h =
  ((bif (false == true) then (some ((AVal.bool (bif (decide ((0 : Int) < ((ByteArray.size x0 : Nat) : Int))) then (decide (((ByteArray.size x0 : Nat) : Int) < (10 : Int))) else false)), h)) else (some ((AVal.bool false), h)) : Option (AVal × AHeap))).bind fun r1 =>
    (AVal.bool? r1.1).bind fun b2 =>
    ((bif (b2 == false) then (((bif (true == true) then (some ((AVal.bool (bif (decide ((0 : Int) < ((ByteArray.size x0 : Nat) : Int))) then (decide (((ByteArray.size x0 : Nat) : Int) < (19 : Int))) else false)), r1.2)) else (some ((AVal.bool false), r1.2)) : Option (AVal × AHeap))).bind fun r3 =>
    (AVal.bool? r3.1).bind fun b4 =>
    some ((AVal.bool b4), r3.2)) else (some ((AVal.bool true), r1.2)) : Option (AVal × AHeap))).bind fun r5 =>
    (AVal.bool? r5.1).bind fun b6 =>
    (bif b6 then ((strAt x0 (0 : Int)).bind fun n7 =>
    ((bif ((decide (n7 = (45 : Int))) == false) then ((strAt x0 (0 : Int)).bind fun n8 =>
    some ((AVal.bool (decide (n8 = (43 : Int)))), r5.2)) else (some ((AVal.bool true), r5.2)) : Option (AVal × AHeap))).bind fun r9 =>
    (AVal.bool? r9.1).bind fun b10 =>
    (bif b10 then ((aHi (none : Option AVal) (ByteArray.size x0)).bind fun hi11 =>
    (aLo (some (AVal.int .i64 (1 : Int))) hi11).bind fun lo12 =>
    (bif (decide (((ByteArray.size (ByteArray.extract x0 lo12 hi11) : Nat) : Int) < (1 : Int))) then (some ((AVal.tup [(AVal.int .i64 (0 : Int)), (AVal.iface T_strconv_Error (AVal.int .i64 (2 : Int)))]), r9.2)) else ((l_internal_strconv_Atoi_0 fuel d fuel [(5, (AVal.str x0)), (6, (AVal.int .i64 (0 : Int))), (47, (AVal.slice (Sl.mk ⟨AHeap.next r9.2, 0, 0⟩ (ByteArray.size (ByteArray.extract x0 lo12 hi11)) false))), (48, (AVal.int .i64 (((Sl.mk ⟨AHeap.next r9.2, 0, 0⟩ (ByteArray.size (ByteArray.extract x0 lo12 hi11)) false).len : Nat) : Int))), (49, (AVal.int .i64 (0 : Int)))] (AHeap.push r9.2 1 (bytesOf (ByteArray.extract x0 lo12 hi11)))).bind fun p13 =>
    k_internal_strconv_Atoi_0 fuel d p13.1 p13.2.1 p13.2.2))) else ((l_internal_strconv_Atoi_0 fuel d fuel [(5, (AVal.str x0)), (6, (AVal.int .i64 (0 : Int))), (47, (AVal.slice (Sl.mk ⟨AHeap.next r9.2, 0, 0⟩ (ByteArray.size x0) false))), (48, (AVal.int .i64 (((Sl.mk ⟨AHeap.next r9.2, 0, 0⟩ (ByteArray.size x0) false).len : Nat) : Int))), (49, (AVal.int .i64 (0 : Int)))] (AHeap.push r9.2 1 (bytesOf x0))).bind fun p14 =>
    k_internal_strconv_Atoi_0 fuel d p14.1 p14.2.1 p14.2.2))) else ((run fuel d F_strconv_ParseInt [(AVal.str x0), (AVal.int .i64 (10 : Int)), (AVal.int .i64 (0 : Int))] r5.2).bind fun r15 =>
    (bif AVal.isTup 2 r15.1 then ((AVal.comp 0 r15.1).bind fun u16 =>
    (AVal.int? .i64 u16).bind fun n17 =>
    (AVal.comp 1 r15.1).bind fun u18 =>
    some ((AVal.tup [(AVal.int .i64 n17), u18]), r15.2)) else none))) := by
  generalize hh : run = R
  rw [run_is] at hh
  subst hh
  generalize hh : brun = R
  rw [brun_is] at hh
  subst hh
  generalize hh : l_internal_strconv_Atoi_0 = R
  rw [l_internal_strconv_Atoi_0_is] at hh
  subst hh
  generalize hh : k_internal_strconv_Atoi_0 = R
  rw [k_internal_strconv_Atoi_0_is] at hh
  subst hh
  kernel_rfl

theorem l_internal_strconv_Atoi_0_eq (fuel d : Nat) (n : Nat) (x5 : ByteArray) (x6 : Int) (x47 : Sl) (x48 : Int) (x49 : Int) (h : AHeap) :
    l_internal_strconv_Atoi_0 fuel d (n + 1) [(5, (AVal.str x5)), (6, (AVal.int .i64 x6)), (47, (AVal.slice x47)), (48, (AVal.int .i64 x48)), (49, (AVal.int .i64 x49))] h =
  (bif (decide (x49 < x48)) then ((AHeap.addr h 1 x47 x49).bind fun p1 =>
    (AHeap.cell h p1).bind fun u2 =>
    (AVal.int? .u8 u2).bind fun n3 =>
    (bif (decide ((9 : Int) < (IntKind.wrap .u8 (n3 - (48 : Int))))) then (some (.ret, [(2, (AVal.int .i64 (0 : Int))), (3, (AVal.iface T_strconv_Error (AVal.int .i64 (2 : Int)))), (5, (AVal.str x5)), (6, (AVal.int .i64 x6))], h)) else (l_internal_strconv_Atoi_0 fuel d n [(5, (AVal.str x5)), (6, (AVal.int .i64 (IntKind.wrap .i64 ((IntKind.wrap .i64 (x6 * (10 : Int))) + (IntKind.wrap .i64 (IntKind.wrap .u8 (n3 - (48 : Int)))))))), (47, (AVal.slice x47)), (48, (AVal.int .i64 x48)), (49, (AVal.int .i64 (IntKind.wrap .i64 (x49 + (1 : Int)))))] h))) else (some ((.exit 0), [(2, AVal.bot), (3, AVal.bot), (5, (AVal.str x5)), (6, (AVal.int .i64 x6))], h))) := by
  generalize hh : l_internal_strconv_Atoi_0 = R
  rw [l_internal_strconv_Atoi_0_is] at hh
  subst hh
  kernel_rfl

theorem k_internal_strconv_Atoi_0_x0 (fuel d : Nat) (x2 : AVal) (x3 : AVal) (x5 : ByteArray) (x6 : Int) (h : AHeap) :
    k_internal_strconv_Atoi_0 fuel d (.exit 0) [(2, x2), (3, x3), (5, (AVal.str x5)), (6, (AVal.int .i64 x6))] h =
  (strAt x5 (0 : Int)).bind fun n1 =>
    ((bif (decide (n1 = (45 : Int))) then (some (.normal, [(6, (AVal.int .i64 (IntKind.wrap .i64 (0 - x6))))], h)) else (some (.normal, [(6, (AVal.int .i64 x6))], h)))).bind fun p2 =>
    k_internal_strconv_Atoi_1 fuel d p2.1 p2.2.1 p2.2.2 := by
  generalize hh : k_internal_strconv_Atoi_0 = R
  rw [k_internal_strconv_Atoi_0_is] at hh
  subst hh
  generalize hh : k_internal_strconv_Atoi_1 = R
  rw [k_internal_strconv_Atoi_1_is] at hh
  subst hh
  kernel_rfl

theorem k_internal_strconv_Atoi_1_n (fuel d : Nat) (x6 : Int) (h : AHeap) :
    k_internal_strconv_Atoi_1 fuel d .normal [(6, (AVal.int .i64 x6))] h =
  some ((AVal.tup [(AVal.int .i64 x6), AVal.nilif]), h) := by
  generalize hh : k_internal_strconv_Atoi_1 = R
  rw [k_internal_strconv_Atoi_1_is] at hh
  subst hh
  kernel_rfl

theorem e_skolemsee_sentinels (fuel d : Nat)  (h : AHeap) :
    brun fuel (d + 1) F_skolemsee_sentinels [] h =
  ((bif (Nat.beq (List.length (AVal.cells err_api_ErrText)) 1 && Nat.ble (0 + 1) (List.length [AVal.nilif, AVal.nilif, AVal.nilif, AVal.nilif, AVal.nilif, AVal.nilif, AVal.nilif]) && List.all (AVal.cells err_api_ErrText) AVal.isCell) then ((bif (Nat.beq (List.length (AVal.cells err_api_ErrLimit)) 1 && Nat.ble (1 + 1) (List.length (AHeap.overlay [AVal.nilif, AVal.nilif, AVal.nilif, AVal.nilif, AVal.nilif, AVal.nilif, AVal.nilif] 0 (AVal.cells err_api_ErrText))) && List.all (AVal.cells err_api_ErrLimit) AVal.isCell) then ((bif (Nat.beq (List.length (AVal.cells err_api_ErrBudget)) 1 && Nat.ble (2 + 1) (List.length (AHeap.overlay (AHeap.overlay [AVal.nilif, AVal.nilif, AVal.nilif, AVal.nilif, AVal.nilif, AVal.nilif, AVal.nilif] 0 (AVal.cells err_api_ErrText)) 1 (AVal.cells err_api_ErrLimit))) && List.all (AVal.cells err_api_ErrBudget) AVal.isCell) then ((bif (Nat.beq (List.length (AVal.cells err_api_ErrRange)) 1 && Nat.ble (3 + 1) (List.length (AHeap.overlay (AHeap.overlay (AHeap.overlay [AVal.nilif, AVal.nilif, AVal.nilif, AVal.nilif, AVal.nilif, AVal.nilif, AVal.nilif] 0 (AVal.cells err_api_ErrText)) 1 (AVal.cells err_api_ErrLimit)) 2 (AVal.cells err_api_ErrBudget))) && List.all (AVal.cells err_api_ErrRange) AVal.isCell) then ((bif (Nat.beq (List.length (AVal.cells err_api_ErrBlocks)) 1 && Nat.ble (4 + 1) (List.length (AHeap.overlay (AHeap.overlay (AHeap.overlay (AHeap.overlay [AVal.nilif, AVal.nilif, AVal.nilif, AVal.nilif, AVal.nilif, AVal.nilif, AVal.nilif] 0 (AVal.cells err_api_ErrText)) 1 (AVal.cells err_api_ErrLimit)) 2 (AVal.cells err_api_ErrBudget)) 3 (AVal.cells err_api_ErrRange))) && List.all (AVal.cells err_api_ErrBlocks) AVal.isCell) then ((bif (Nat.beq (List.length (AVal.cells err_api_ErrProof)) 1 && Nat.ble (5 + 1) (List.length (AHeap.overlay (AHeap.overlay (AHeap.overlay (AHeap.overlay (AHeap.overlay [AVal.nilif, AVal.nilif, AVal.nilif, AVal.nilif, AVal.nilif, AVal.nilif, AVal.nilif] 0 (AVal.cells err_api_ErrText)) 1 (AVal.cells err_api_ErrLimit)) 2 (AVal.cells err_api_ErrBudget)) 3 (AVal.cells err_api_ErrRange)) 4 (AVal.cells err_api_ErrBlocks))) && List.all (AVal.cells err_api_ErrProof) AVal.isCell) then ((bif (Nat.beq (List.length (AVal.cells err_api_ErrCert)) 1 && Nat.ble (6 + 1) (List.length (AHeap.overlay (AHeap.overlay (AHeap.overlay (AHeap.overlay (AHeap.overlay (AHeap.overlay [AVal.nilif, AVal.nilif, AVal.nilif, AVal.nilif, AVal.nilif, AVal.nilif, AVal.nilif] 0 (AVal.cells err_api_ErrText)) 1 (AVal.cells err_api_ErrLimit)) 2 (AVal.cells err_api_ErrBudget)) 3 (AVal.cells err_api_ErrRange)) 4 (AVal.cells err_api_ErrBlocks)) 5 (AVal.cells err_api_ErrProof))) && List.all (AVal.cells err_api_ErrCert) AVal.isCell) then ((some (AHeap.overlay (AHeap.overlay (AHeap.overlay (AHeap.overlay (AHeap.overlay (AHeap.overlay (AHeap.overlay [AVal.nilif, AVal.nilif, AVal.nilif, AVal.nilif, AVal.nilif, AVal.nilif, AVal.nilif] 0 (AVal.cells err_api_ErrText)) 1 (AVal.cells err_api_ErrLimit)) 2 (AVal.cells err_api_ErrBudget)) 3 (AVal.cells err_api_ErrRange)) 4 (AVal.cells err_api_ErrBlocks)) 5 (AVal.cells err_api_ErrProof)) 6 (AVal.cells err_api_ErrCert)))) else (none))) else (none))) else (none))) else (none))) else (none))) else (none))) else (none))).bind fun c1 =>
    some ((AVal.slice (Sl.lst 7 true c1)), h) := by
  generalize hh : brun = R
  rw [brun_is] at hh
  subst hh
  kernel_rfl

theorem e_skolemsee_Alike (fuel d : Nat) (x0 : AVal) (x1 : AVal) (h : AHeap) :
    brun fuel (d + 1) F_skolemsee_Alike [x0, x1] h =
  (nilTest .iface x0).bind fun b1 =>
    ((bif ((b1) == false) then ((nilTest .iface x1).bind fun b2 =>
    some ((AVal.bool (b2)), h)) else (some ((AVal.bool true), h)) : Option (AVal × AHeap))).bind fun r3 =>
    (AVal.bool? r3.1).bind fun b4 =>
    (bif b4 then ((nilTest .iface x0).bind fun b5 =>
    ((bif ((b5) == true) then ((nilTest .iface x1).bind fun b6 =>
    some ((AVal.bool (b6)), r3.2)) else (some ((AVal.bool false), r3.2)) : Option (AVal × AHeap))).bind fun r7 =>
    (AVal.bool? r7.1).bind fun b8 =>
    some ((AVal.bool b8), r7.2)) else ((ifaceSame (Cf fuel F_skolemsee_Alike) x0 x1).bind fun b9 =>
    some ((AVal.bool (b9)), r3.2))) := by
  generalize hh : brun = R
  rw [brun_is] at hh
  subst hh
  kernel_rfl

theorem e_strconv_AppendUint (fuel d : Nat) (x0 : Sl) (x1 : Int) (x2 : Int) (h : AHeap) :
    run fuel (d + 1) F_strconv_AppendUint [(AVal.slice x0), (AVal.int .u64 x1), (AVal.int .i64 x2)] h =
  (bif (decide (x2 = (10 : Int))) then ((bif (decide (x1 < (100 : Int))) then ((run fuel d F_strconv_small [(AVal.int .i64 (IntKind.wrap .i64 x1))] h).bind fun r1 =>
    (AVal.str? r1.1).bind fun s2 =>
    (AHeap.append r1.2 false 1 1 x0 (ByteArray.size s2) (bytesOf s2)).bind fun a3 =>
    some ((AVal.slice a3.1), a3.2)) else ((run fuel d F_strconv_numDigits [(AVal.int .u64 x1)] (AHeap.push h 1 [(AVal.int .u8 (0 : Int)), (AVal.int .u8 (0 : Int)), (AVal.int .u8 (0 : Int)), (AVal.int .u8 (0 : Int)), (AVal.int .u8 (0 : Int)), (AVal.int .u8 (0 : Int)), (AVal.int .u8 (0 : Int)), (AVal.int .u8 (0 : Int)), (AVal.int .u8 (0 : Int)), (AVal.int .u8 (0 : Int)), (AVal.int .u8 (0 : Int)), (AVal.int .u8 (0 : Int)), (AVal.int .u8 (0 : Int)), (AVal.int .u8 (0 : Int)), (AVal.int .u8 (0 : Int)), (AVal.int .u8 (0 : Int)), (AVal.int .u8 (0 : Int)), (AVal.int .u8 (0 : Int)), (AVal.int .u8 (0 : Int)), (AVal.int .u8 (0 : Int)), (AVal.int .u8 (0 : Int)), (AVal.int .u8 (0 : Int)), (AVal.int .u8 (0 : Int)), (AVal.int .u8 (0 : Int))])).bind fun r4 =>
    (AVal.int? .i64 r4.1).bind fun n5 =>
    (aHi (some (AVal.int .i64 n5)) 24).bind fun hi6 =>
    (aLo (none : Option AVal) hi6).bind fun lo7 =>
    (aMx (none : Option AVal) hi6).bind fun cl8 =>
    (bif (AHeap.hasSz r4.2 1 (Sl.mk ⟨AHeap.next h, 0, 0⟩ 24 false) && Nat.ble (0 + 24 * 1) 24) then ((run fuel d F_strconv_formatBase10 [(AVal.slice (Sl.mk ⟨AHeap.next h, 0, 0 + lo7 * 1⟩ (hi6 - lo7) cl8)), (AVal.int .u64 x1)] r4.2).bind fun r9 =>
    (aHi (some (AVal.int .i64 n5)) 24).bind fun hi10 =>
    (aLo (none : Option AVal) hi10).bind fun lo11 =>
    (aMx (none : Option AVal) hi10).bind fun cl12 =>
    (bif (AHeap.hasSz r9.2 1 (Sl.mk ⟨AHeap.next h, 0, 0⟩ 24 false) && Nat.ble (0 + 24 * 1) 24) then ((AHeap.sliceCells r9.2 1 (Sl.mk ⟨AHeap.next h, 0, 0 + lo11 * 1⟩ (hi10 - lo11) cl12)).bind fun xs13 =>
    (AHeap.append r9.2 false 1 1 x0 (Sl.mk ⟨AHeap.next h, 0, 0 + lo11 * 1⟩ (hi10 - lo11) cl12).len xs13).bind fun a14 =>
    some ((AVal.slice a14.1), a14.2)) else (none))) else (none))))) else ((run fuel d F_strconv_formatBits [(AVal.slice x0), (AVal.int .u64 x1), (AVal.int .i64 x2), (AVal.bool false), (AVal.bool true)] h).bind fun r15 =>
    (bif AVal.isTup 2 r15.1 then ((AVal.comp 0 r15.1).bind fun u16 =>
    (AVal.slice? u16).bind fun s17 =>
    (AVal.comp 1 r15.1).bind fun u18 =>
    (AVal.str? u18).bind fun s19 =>
    some ((AVal.slice s17), r15.2)) else none))) := by
  generalize hh : run = R
  rw [run_is] at hh
  subst hh
  kernel_rfl

theorem e_internal_strconv_Itoa (fuel d : Nat) (x0 : Int) (h : AHeap) :
    brun fuel (d + 1) F_internal_strconv_Itoa [(AVal.int .i64 x0)] h =
  (run fuel d F_strconv_FormatInt [(AVal.int .i64 x0), (AVal.int .i64 (10 : Int))] h).bind fun r1 =>
    (AVal.str? r1.1).bind fun s2 =>
    some ((AVal.str s2), r1.2) := by
  generalize hh : run = R
  rw [run_is] at hh
  subst hh
  generalize hh : brun = R
  rw [brun_is] at hh
  subst hh
  kernel_rfl

theorem e_strconv_small (fuel d : Nat) (x0 : Int) (h : AHeap) :
    brun fuel (d + 1) F_strconv_small [(AVal.int .i64 x0)] h =
  (bif (decide (x0 < (10 : Int))) then ((aHi (some (AVal.int .i64 (IntKind.wrap .i64 (x0 + (1 : Int))))) (ByteArray.size bstr_e9b1713d)).bind fun hi1 =>
    (aLo (some (AVal.int .i64 x0)) hi1).bind fun lo2 =>
    some ((AVal.str (ByteArray.extract bstr_e9b1713d lo2 hi1)), h)) else ((aHi (some (AVal.int .i64 (IntKind.wrap .i64 ((IntKind.wrap .i64 (x0 * (2 : Int))) + (2 : Int))))) (ByteArray.size bstr_db3e2f51)).bind fun hi3 =>
    (aLo (some (AVal.int .i64 (IntKind.wrap .i64 (x0 * (2 : Int))))) hi3).bind fun lo4 =>
    some ((AVal.str (ByteArray.extract bstr_db3e2f51 lo4 hi3)), h))) := by
  generalize hh : brun = R
  rw [brun_is] at hh
  subst hh
  kernel_rfl

theorem e_strconv_numDigits (fuel d : Nat) (x0 : Int) (h : AHeap) :
    brun fuel (d + 1) F_strconv_numDigits [(AVal.int .u64 x0)] h =
  (run fuel d F_bits_Len64 [(AVal.int .u64 x0)] h).bind fun r1 =>
    (AVal.int? .i64 r1.1).bind fun n2 =>
    (run fuel d F_strconv_log10Pow2 [(AVal.int .i64 n2)] r1.2).bind fun r3 =>
    (AVal.int? .i64 r3.1).bind fun n4 =>
    (Pt.elem 1 20 n4 (Pt.fp 0 tab_strconv_uint64pow10)).bind fun p5 =>
    (AHeap.cell r3.2 p5).bind fun u6 =>
    (AVal.int? .u64 u6).bind fun n7 =>
    (run fuel d F_strconv_bool2_int [(AVal.bool (decide (n7 ≤ x0)))] r3.2).bind fun r8 =>
    (AVal.int? .i64 r8.1).bind fun n9 =>
    some ((AVal.int .i64 (IntKind.wrap .i64 (n4 + n9))), r8.2) := by
  generalize hh : run = R
  rw [run_is] at hh
  subst hh
  generalize hh : brun = R
  rw [brun_is] at hh
  subst hh
  kernel_rfl

noncomputable def s_strconv_formatBase10_0 (fuel d : Nat) : Run := fun fr h k => aexec (Cf fuel F_strconv_formatBase10) false (acall (C fuel) false d) (acall (C fuel) true d) 167 (csub [true, false, false, false] (fbody Go.Proofs.Tryd.f113)) (asub [true, false, false, false] an113) fr h k

noncomputable def l_strconv_formatBase10_0r (fuel d : Nat) (n : Nat) (fr : Fr) (h : AHeap) : Option (AExit × Fr × AHeap) := aloop (s_strconv_formatBase10_0 fuel d) (some [0, 1, 4]) n fr h (kOut [0, 1, 4])

noncomputable def l_strconv_formatBase10_0 : Nat → Nat → Nat → Fr → AHeap → Option (AExit × Fr × AHeap) := hide l_strconv_formatBase10_0r

theorem l_strconv_formatBase10_0_is : l_strconv_formatBase10_0 = l_strconv_formatBase10_0r := hide_eq _

noncomputable def k_strconv_formatBase10_0r (fuel d : Nat) : AExit → Fr → AHeap → Option (AVal × AHeap) := (kBlock 0 (kSeq (Cf fuel F_strconv_formatBase10) false (acall (C fuel) false d) (acall (C fuel) true d) 167 (csub [true, true] (fbody Go.Proofs.Tryd.f113)) (asub [true, true] an113) (kRet (Cf fuel F_strconv_formatBase10) Go.Proofs.Tryd.f113.results.toList)))

noncomputable def k_strconv_formatBase10_0 : Nat → Nat → AExit → Fr → AHeap → Option (AVal × AHeap) := hide k_strconv_formatBase10_0r

theorem k_strconv_formatBase10_0_is : k_strconv_formatBase10_0 = k_strconv_formatBase10_0r := hide_eq _

noncomputable def k_strconv_formatBase10_1r (fuel d : Nat) : AExit → Fr → AHeap → Option (AVal × AHeap) := (kSeq (Cf fuel F_strconv_formatBase10) false (acall (C fuel) false d) (acall (C fuel) true d) 167 (csub [true, true, true, true] (fbody Go.Proofs.Tryd.f113)) (asub [true, true, true, true] an113) (kRet (Cf fuel F_strconv_formatBase10) Go.Proofs.Tryd.f113.results.toList))

noncomputable def k_strconv_formatBase10_1 : Nat → Nat → AExit → Fr → AHeap → Option (AVal × AHeap) := hide k_strconv_formatBase10_1r

theorem k_strconv_formatBase10_1_is : k_strconv_formatBase10_1 = k_strconv_formatBase10_1r := hide_eq _

noncomputable def k_strconv_formatBase10_2r (fuel d : Nat) : AExit → Fr → AHeap → Option (AVal × AHeap) := (kSeq (Cf fuel F_strconv_formatBase10) false (acall (C fuel) false d) (acall (C fuel) true d) 167 (csub [true, true, true, true, true] (fbody Go.Proofs.Tryd.f113)) (asub [true, true, true, true, true] an113) (kRet (Cf fuel F_strconv_formatBase10) Go.Proofs.Tryd.f113.results.toList))

noncomputable def k_strconv_formatBase10_2 : Nat → Nat → AExit → Fr → AHeap → Option (AVal × AHeap) := hide k_strconv_formatBase10_2r

theorem k_strconv_formatBase10_2_is : k_strconv_formatBase10_2 = k_strconv_formatBase10_2r := hide_eq _

theorem e_strconv_formatBase10 (fuel d : Nat) (x0 : Sl) (x1 : Int) (h : AHeap) :
    run fuel (d + 1) F_strconv_formatBase10 [(AVal.slice x0), (AVal.int .u64 x1)] h =
  (l_strconv_formatBase10_0 fuel d fuel [(0, (AVal.slice x0)), (1, (AVal.int .u64 x1)), (4, (AVal.int .i64 ((x0.len : Nat) : Int)))] h).bind fun p1 =>
    k_strconv_formatBase10_0 fuel d p1.1 p1.2.1 p1.2.2 := by
  generalize hh : run = R
  rw [run_is] at hh
  subst hh
  generalize hh : l_strconv_formatBase10_0 = R
  rw [l_strconv_formatBase10_0_is] at hh
  subst hh
  generalize hh : k_strconv_formatBase10_0 = R
  rw [k_strconv_formatBase10_0_is] at hh
  subst hh
  kernel_rfl

theorem l_strconv_formatBase10_0_eq (fuel d : Nat) (n : Nat) (x0 : Sl) (x1 : Int) (x4 : Int) (h : AHeap) :
    l_strconv_formatBase10_0 fuel d (n + 1) [(0, (AVal.slice x0)), (1, (AVal.int .u64 x1)), (4, (AVal.int .i64 x4))] h =
  (bif (decide ((8 : Int) ≤ x4)) then ((strAt bstr_db3e2f51 (IntKind.wrap .u32 ((IntKind.wrap .u32 ((Int.tmod (Int.tmod (IntKind.wrap .u32 (Int.tmod x1 (100000000 : Int))) (10000 : Int)) (100 : Int)) * (2 : Int))) + (1 : Int)))).bind fun n1 =>
    (strAt bstr_db3e2f51 (IntKind.wrap .u32 ((Int.tmod (Int.tmod (IntKind.wrap .u32 (Int.tmod x1 (100000000 : Int))) (10000 : Int)) (100 : Int)) * (2 : Int)))).bind fun n2 =>
    (AHeap.addr h 1 x0 (IntKind.wrap .i64 (x4 - (1 : Int)))).bind fun p3 =>
    (AHeap.storeAt h [(AVal.int .u8 n1)] p3).bind fun h4 =>
    (AHeap.addr h4 1 x0 (IntKind.wrap .i64 (x4 - (2 : Int)))).bind fun p5 =>
    (AHeap.storeAt h4 [(AVal.int .u8 n2)] p5).bind fun h6 =>
    (strAt bstr_db3e2f51 (IntKind.wrap .u32 ((IntKind.wrap .u32 ((IntKind.wrap .u32 (Int.tdiv (Int.tmod (IntKind.wrap .u32 (Int.tmod x1 (100000000 : Int))) (10000 : Int)) (100 : Int))) * (2 : Int))) + (1 : Int)))).bind fun n7 =>
    (strAt bstr_db3e2f51 (IntKind.wrap .u32 ((IntKind.wrap .u32 (Int.tdiv (Int.tmod (IntKind.wrap .u32 (Int.tmod x1 (100000000 : Int))) (10000 : Int)) (100 : Int))) * (2 : Int)))).bind fun n8 =>
    (AHeap.addr h6 1 x0 (IntKind.wrap .i64 (x4 - (3 : Int)))).bind fun p9 =>
    (AHeap.storeAt h6 [(AVal.int .u8 n7)] p9).bind fun h10 =>
    (AHeap.addr h10 1 x0 (IntKind.wrap .i64 (x4 - (4 : Int)))).bind fun p11 =>
    (AHeap.storeAt h10 [(AVal.int .u8 n8)] p11).bind fun h12 =>
    (strAt bstr_db3e2f51 (IntKind.wrap .u32 ((IntKind.wrap .u32 ((Int.tmod (IntKind.wrap .u32 (Int.tdiv (IntKind.wrap .u32 (Int.tmod x1 (100000000 : Int))) (10000 : Int))) (100 : Int)) * (2 : Int))) + (1 : Int)))).bind fun n13 =>
    (strAt bstr_db3e2f51 (IntKind.wrap .u32 ((Int.tmod (IntKind.wrap .u32 (Int.tdiv (IntKind.wrap .u32 (Int.tmod x1 (100000000 : Int))) (10000 : Int))) (100 : Int)) * (2 : Int)))).bind fun n14 =>
    (AHeap.addr h12 1 x0 (IntKind.wrap .i64 (x4 - (5 : Int)))).bind fun p15 =>
    (AHeap.storeAt h12 [(AVal.int .u8 n13)] p15).bind fun h16 =>
    (AHeap.addr h16 1 x0 (IntKind.wrap .i64 (x4 - (6 : Int)))).bind fun p17 =>
    (AHeap.storeAt h16 [(AVal.int .u8 n14)] p17).bind fun h18 =>
    (strAt bstr_db3e2f51 (IntKind.wrap .u32 ((IntKind.wrap .u32 ((IntKind.wrap .u32 (Int.tdiv (IntKind.wrap .u32 (Int.tdiv (IntKind.wrap .u32 (Int.tmod x1 (100000000 : Int))) (10000 : Int))) (100 : Int))) * (2 : Int))) + (1 : Int)))).bind fun n19 =>
    (strAt bstr_db3e2f51 (IntKind.wrap .u32 ((IntKind.wrap .u32 (Int.tdiv (IntKind.wrap .u32 (Int.tdiv (IntKind.wrap .u32 (Int.tmod x1 (100000000 : Int))) (10000 : Int))) (100 : Int))) * (2 : Int)))).bind fun n20 =>
    (AHeap.addr h18 1 x0 (IntKind.wrap .i64 (x4 - (7 : Int)))).bind fun p21 =>
    (AHeap.storeAt h18 [(AVal.int .u8 n19)] p21).bind fun h22 =>
    (AHeap.addr h22 1 x0 (IntKind.wrap .i64 (x4 - (8 : Int)))).bind fun p23 =>
    (AHeap.storeAt h22 [(AVal.int .u8 n20)] p23).bind fun h24 =>
    l_strconv_formatBase10_0 fuel d n [(0, (AVal.slice x0)), (1, (AVal.int .u64 (IntKind.wrap .u64 (Int.tdiv x1 (100000000 : Int))))), (4, (AVal.int .i64 (IntKind.wrap .i64 (x4 - (8 : Int)))))] h24) else (some ((.exit 0), [(0, (AVal.slice x0)), (1, (AVal.int .u64 x1)), (4, (AVal.int .i64 x4))], h))) := by
  generalize hh : l_strconv_formatBase10_0 = R
  rw [l_strconv_formatBase10_0_is] at hh
  subst hh
  kernel_rfl

theorem k_strconv_formatBase10_0_x0 (fuel d : Nat) (x0 : Sl) (x1 : Int) (x4 : Int) (h : AHeap) :
    k_strconv_formatBase10_0 fuel d (.exit 0) [(0, (AVal.slice x0)), (1, (AVal.int .u64 x1)), (4, (AVal.int .i64 x4))] h =
  ((bif (decide ((4 : Int) ≤ x4)) then ((strAt bstr_db3e2f51 (IntKind.wrap .u32 ((IntKind.wrap .u32 ((Int.tmod (Int.tmod (IntKind.wrap .u32 x1) (10000 : Int)) (100 : Int)) * (2 : Int))) + (1 : Int)))).bind fun n1 =>
    (strAt bstr_db3e2f51 (IntKind.wrap .u32 ((Int.tmod (Int.tmod (IntKind.wrap .u32 x1) (10000 : Int)) (100 : Int)) * (2 : Int)))).bind fun n2 =>
    (AHeap.addr h 1 x0 (IntKind.wrap .i64 (x4 - (1 : Int)))).bind fun p3 =>
    (AHeap.storeAt h [(AVal.int .u8 n1)] p3).bind fun h4 =>
    (AHeap.addr h4 1 x0 (IntKind.wrap .i64 (x4 - (2 : Int)))).bind fun p5 =>
    (AHeap.storeAt h4 [(AVal.int .u8 n2)] p5).bind fun h6 =>
    (strAt bstr_db3e2f51 (IntKind.wrap .u32 ((IntKind.wrap .u32 ((IntKind.wrap .u32 (Int.tdiv (Int.tmod (IntKind.wrap .u32 x1) (10000 : Int)) (100 : Int))) * (2 : Int))) + (1 : Int)))).bind fun n7 =>
    (strAt bstr_db3e2f51 (IntKind.wrap .u32 ((IntKind.wrap .u32 (Int.tdiv (Int.tmod (IntKind.wrap .u32 x1) (10000 : Int)) (100 : Int))) * (2 : Int)))).bind fun n8 =>
    (AHeap.addr h6 1 x0 (IntKind.wrap .i64 (x4 - (3 : Int)))).bind fun p9 =>
    (AHeap.storeAt h6 [(AVal.int .u8 n7)] p9).bind fun h10 =>
    (AHeap.addr h10 1 x0 (IntKind.wrap .i64 (x4 - (4 : Int)))).bind fun p11 =>
    (AHeap.storeAt h10 [(AVal.int .u8 n8)] p11).bind fun h12 =>
    some (.normal, [(0, (AVal.slice x0)), (4, (AVal.int .i64 (IntKind.wrap .i64 (x4 - (4 : Int))))), (12, (AVal.int .u32 (IntKind.wrap .u32 (Int.tdiv (IntKind.wrap .u32 x1) (10000 : Int)))))], h12)) else (some (.normal, [(0, (AVal.slice x0)), (4, (AVal.int .i64 x4)), (12, (AVal.int .u32 (IntKind.wrap .u32 x1)))], h)))).bind fun p13 =>
    k_strconv_formatBase10_1 fuel d p13.1 p13.2.1 p13.2.2 := by
  generalize hh : k_strconv_formatBase10_0 = R
  rw [k_strconv_formatBase10_0_is] at hh
  subst hh
  generalize hh : k_strconv_formatBase10_1 = R
  rw [k_strconv_formatBase10_1_is] at hh
  subst hh
  kernel_rfl

theorem k_strconv_formatBase10_1_n (fuel d : Nat) (x0 : Sl) (x4 : Int) (x12 : Int) (h : AHeap) :
    k_strconv_formatBase10_1 fuel d .normal [(0, (AVal.slice x0)), (4, (AVal.int .i64 x4)), (12, (AVal.int .u32 x12))] h =
  ((bif (decide ((2 : Int) ≤ x4)) then ((strAt bstr_db3e2f51 (IntKind.wrap .u32 ((IntKind.wrap .u32 ((Int.tmod x12 (100 : Int)) * (2 : Int))) + (1 : Int)))).bind fun n1 =>
    (strAt bstr_db3e2f51 (IntKind.wrap .u32 ((Int.tmod x12 (100 : Int)) * (2 : Int)))).bind fun n2 =>
    (AHeap.addr h 1 x0 (IntKind.wrap .i64 (x4 - (1 : Int)))).bind fun p3 =>
    (AHeap.storeAt h [(AVal.int .u8 n1)] p3).bind fun h4 =>
    (AHeap.addr h4 1 x0 (IntKind.wrap .i64 (x4 - (2 : Int)))).bind fun p5 =>
    (AHeap.storeAt h4 [(AVal.int .u8 n2)] p5).bind fun h6 =>
    some (.normal, [(0, (AVal.slice x0)), (4, (AVal.int .i64 (IntKind.wrap .i64 (x4 - (2 : Int))))), (12, (AVal.int .u32 (IntKind.wrap .u32 (Int.tdiv x12 (100 : Int)))))], h6)) else (some (.normal, [(0, (AVal.slice x0)), (4, (AVal.int .i64 x4)), (12, (AVal.int .u32 x12))], h)))).bind fun p7 =>
    k_strconv_formatBase10_2 fuel d p7.1 p7.2.1 p7.2.2 := by
  generalize hh : k_strconv_formatBase10_1 = R
  rw [k_strconv_formatBase10_1_is] at hh
  subst hh
  generalize hh : k_strconv_formatBase10_2 = R
  rw [k_strconv_formatBase10_2_is] at hh
  subst hh
  kernel_rfl

theorem k_strconv_formatBase10_2_n (fuel d : Nat) (x0 : Sl) (x4 : Int) (x12 : Int) (h : AHeap) :
    k_strconv_formatBase10_2 fuel d .normal [(0, (AVal.slice x0)), (4, (AVal.int .i64 x4)), (12, (AVal.int .u32 x12))] h =
  (bif (decide ((0 : Int) < x4)) then ((AHeap.addr h 1 x0 (0 : Int)).bind fun p1 =>
    (AHeap.storeAt h [(AVal.int .u8 (IntKind.wrap .u8 (IntKind.wrap .u32 ((48 : Int) + x12))))] p1).bind fun h2 =>
    some ((AVal.tup []), h2)) else (some ((AVal.tup []), h))) := by
  generalize hh : k_strconv_formatBase10_2 = R
  rw [k_strconv_formatBase10_2_is] at hh
  subst hh
  kernel_rfl

noncomputable def k_strconv_FormatInt_0r (fuel d : Nat) : AExit → Fr → AHeap → Option (AVal × AHeap) := (kSeq (Cf fuel F_strconv_FormatInt) false (acall (C fuel) false d) (acall (C fuel) true d) 54 (csub [true, false, true, false, true, true, true, true] (fbody Go.Proofs.Tryd.f115)) (asub [true, false, true, false, true, true, true, true] an115) (kSeq (Cf fuel F_strconv_FormatInt) false (acall (C fuel) false d) (acall (C fuel) true d) 54 (csub [true, true] (fbody Go.Proofs.Tryd.f115)) (asub [true, true] an115) (kRet (Cf fuel F_strconv_FormatInt) Go.Proofs.Tryd.f115.results.toList)))

noncomputable def k_strconv_FormatInt_0 : Nat → Nat → AExit → Fr → AHeap → Option (AVal × AHeap) := hide k_strconv_FormatInt_0r

theorem k_strconv_FormatInt_0_is : k_strconv_FormatInt_0 = k_strconv_FormatInt_0r := hide_eq _

theorem e_strconv_FormatInt (fuel d : Nat) (x0 : Int) (x1 : Int) (h : AHeap) :
    brun fuel (d + 1) F_strconv_FormatInt [(AVal.int .i64 x0), (AVal.int .i64 x1)] h =
  (bif (decide (x1 = (10 : Int))) then ((bif (bif (decide ((0 : Int) ≤ x0)) then (decide (x0 < (100 : Int))) else false) then ((run fuel d F_strconv_small [(AVal.int .i64 x0)] h).bind fun r1 =>
    (AVal.str? r1.1).bind fun s2 =>
    some ((AVal.str s2), r1.2)) else (((bif (decide (x0 < (0 : Int))) then (some (.normal, [(0, (AVal.int .i64 x0)), (5, (AVal.ptr (Pt.mk ⟨AHeap.next h, 0, 0⟩ 24))), (6, (AVal.int .u64 (IntKind.wrap .u64 (0 - (IntKind.wrap .u64 x0)))))], (AHeap.push h 1 [(AVal.int .u8 (0 : Int)), (AVal.int .u8 (0 : Int)), (AVal.int .u8 (0 : Int)), (AVal.int .u8 (0 : Int)), (AVal.int .u8 (0 : Int)), (AVal.int .u8 (0 : Int)), (AVal.int .u8 (0 : Int)), (AVal.int .u8 (0 : Int)), (AVal.int .u8 (0 : Int)), (AVal.int .u8 (0 : Int)), (AVal.int .u8 (0 : Int)), (AVal.int .u8 (0 : Int)), (AVal.int .u8 (0 : Int)), (AVal.int .u8 (0 : Int)), (AVal.int .u8 (0 : Int)), (AVal.int .u8 (0 : Int)), (AVal.int .u8 (0 : Int)), (AVal.int .u8 (0 : Int)), (AVal.int .u8 (0 : Int)), (AVal.int .u8 (0 : Int)), (AVal.int .u8 (0 : Int)), (AVal.int .u8 (0 : Int)), (AVal.int .u8 (0 : Int)), (AVal.int .u8 (0 : Int))]))) else (some (.normal, [(0, (AVal.int .i64 x0)), (5, (AVal.ptr (Pt.mk ⟨AHeap.next h, 0, 0⟩ 24))), (6, (AVal.int .u64 (IntKind.wrap .u64 x0)))], (AHeap.push h 1 [(AVal.int .u8 (0 : Int)), (AVal.int .u8 (0 : Int)), (AVal.int .u8 (0 : Int)), (AVal.int .u8 (0 : Int)), (AVal.int .u8 (0 : Int)), (AVal.int .u8 (0 : Int)), (AVal.int .u8 (0 : Int)), (AVal.int .u8 (0 : Int)), (AVal.int .u8 (0 : Int)), (AVal.int .u8 (0 : Int)), (AVal.int .u8 (0 : Int)), (AVal.int .u8 (0 : Int)), (AVal.int .u8 (0 : Int)), (AVal.int .u8 (0 : Int)), (AVal.int .u8 (0 : Int)), (AVal.int .u8 (0 : Int)), (AVal.int .u8 (0 : Int)), (AVal.int .u8 (0 : Int)), (AVal.int .u8 (0 : Int)), (AVal.int .u8 (0 : Int)), (AVal.int .u8 (0 : Int)), (AVal.int .u8 (0 : Int)), (AVal.int .u8 (0 : Int)), (AVal.int .u8 (0 : Int))]))))).bind fun p3 =>
    k_strconv_FormatInt_0 fuel d p3.1 p3.2.1 p3.2.2))) else ((run fuel d F_strconv_formatBits [(AVal.slice Sl.nil), (AVal.int .u64 (IntKind.wrap .u64 x0)), (AVal.int .i64 x1), (AVal.bool (decide (x0 < (0 : Int)))), (AVal.bool false)] h).bind fun r4 =>
    (bif AVal.isTup 2 r4.1 then ((AVal.comp 0 r4.1).bind fun u5 =>
    (AVal.slice? u5).bind fun s6 =>
    (AVal.comp 1 r4.1).bind fun u7 =>
    (AVal.str? u7).bind fun s8 =>
    some ((AVal.str s8), r4.2)) else none))) := by
  generalize hh : run = R
  rw [run_is] at hh
  subst hh
  generalize hh : brun = R
  rw [brun_is] at hh
  subst hh
  generalize hh : k_strconv_FormatInt_0 = R
  rw [k_strconv_FormatInt_0_is] at hh
  subst hh
  kernel_rfl

theorem k_strconv_FormatInt_0_n (fuel d : Nat) (x0 : Int) (x5 : Pt) (x6 : Int) (h : AHeap) :
    k_strconv_FormatInt_0 fuel d .normal [(0, (AVal.int .i64 x0)), (5, (AVal.ptr x5)), (6, (AVal.int .u64 x6))] h =
  (run fuel d F_strconv_numDigits [(AVal.int .u64 x6)] h).bind fun r1 =>
    (AVal.int? .i64 r1.1).bind fun n2 =>
    (Pt.mk? x5).bind fun rl3 =>
    (aHi (some (AVal.int .i64 (IntKind.wrap .i64 ((1 : Int) + n2)))) 24).bind fun hi4 =>
    (aLo (some (AVal.int .i64 (1 : Int))) hi4).bind fun lo5 =>
    (aMx (none : Option AVal) hi4).bind fun cl6 =>
    (bif (AHeap.hasSz r1.2 1 (Sl.mk rl3.1 24 false) && Nat.ble (rl3.1.off + 24 * 1) rl3.2) then ((run fuel d F_strconv_formatBase10 [(AVal.slice (Sl.mk ⟨rl3.1.id, rl3.1.gen, rl3.1.off + lo5 * 1⟩ (hi4 - lo5) cl6)), (AVal.int .u64 x6)] r1.2).bind fun r7 =>
    (bif (decide (x0 < (0 : Int))) then ((Pt.elem 1 24 (0 : Int) x5).bind fun p8 =>
    (AHeap.storeAt r7.2 [(AVal.int .u8 (45 : Int))] p8).bind fun h9 =>
    (Pt.mk? x5).bind fun rl10 =>
    (aHi (some (AVal.int .i64 (IntKind.wrap .i64 ((1 : Int) + n2)))) 24).bind fun hi11 =>
    (aLo (none : Option AVal) hi11).bind fun lo12 =>
    (aMx (none : Option AVal) hi11).bind fun cl13 =>
    (bif (AHeap.hasSz h9 1 (Sl.mk rl10.1 24 false) && Nat.ble (rl10.1.off + 24 * 1) rl10.2) then ((AHeap.sliceCells h9 1 (Sl.mk ⟨rl10.1.id, rl10.1.gen, rl10.1.off + lo12 * 1⟩ (hi11 - lo12) cl13)).bind fun c14 =>
    (bytesFrom c14).bind fun bs15 =>
    some ((AVal.str (⟨List.toArray bs15⟩ : ByteArray)), h9)) else (none))) else ((Pt.mk? x5).bind fun rl16 =>
    (aHi (some (AVal.int .i64 (IntKind.wrap .i64 ((1 : Int) + n2)))) 24).bind fun hi17 =>
    (aLo (some (AVal.int .i64 (1 : Int))) hi17).bind fun lo18 =>
    (aMx (none : Option AVal) hi17).bind fun cl19 =>
    (bif (AHeap.hasSz r7.2 1 (Sl.mk rl16.1 24 false) && Nat.ble (rl16.1.off + 24 * 1) rl16.2) then ((AHeap.sliceCells r7.2 1 (Sl.mk ⟨rl16.1.id, rl16.1.gen, rl16.1.off + lo18 * 1⟩ (hi17 - lo18) cl19)).bind fun c20 =>
    (bytesFrom c20).bind fun bs21 =>
    some ((AVal.str (⟨List.toArray bs21⟩ : ByteArray)), r7.2)) else (none))))) else (none)) := by
  generalize hh : run = R
  rw [run_is] at hh
  subst hh
  generalize hh : k_strconv_FormatInt_0 = R
  rw [k_strconv_FormatInt_0_is] at hh
  subst hh
  kernel_rfl

theorem e_strconv_log10Pow2 (fuel d : Nat) (x0 : Int) (h : AHeap) :
    brun fuel (d + 1) F_strconv_log10Pow2 [(AVal.int .i64 x0)] h =
  some ((AVal.int .i64 (Int.fdiv (IntKind.wrap .i64 (x0 * (78913 : Int))) (2 ^ min (Int.toNat (18 : Int)) (IntKind.bits .i64)))), h) := by
  generalize hh : brun = R
  rw [brun_is] at hh
  subst hh
  kernel_rfl

noncomputable def k_bits_Len64_0r (fuel d : Nat) : AExit → Fr → AHeap → Option (AVal × AHeap) := (kSeq (Cf fuel F_bits_Len64) false (acall (C fuel) false d) (acall (C fuel) true d) 25 (csub [true, true] (fbody Go.Proofs.Tryd.f120)) (asub [true, true] an120) (kRet (Cf fuel F_bits_Len64) Go.Proofs.Tryd.f120.results.toList))

noncomputable def k_bits_Len64_0 : Nat → Nat → AExit → Fr → AHeap → Option (AVal × AHeap) := hide k_bits_Len64_0r

theorem k_bits_Len64_0_is : k_bits_Len64_0 = k_bits_Len64_0r := hide_eq _

noncomputable def k_bits_Len64_1r (fuel d : Nat) : AExit → Fr → AHeap → Option (AVal × AHeap) := (kSeq (Cf fuel F_bits_Len64) false (acall (C fuel) false d) (acall (C fuel) true d) 25 (csub [true, true, true] (fbody Go.Proofs.Tryd.f120)) (asub [true, true, true] an120) (kRet (Cf fuel F_bits_Len64) Go.Proofs.Tryd.f120.results.toList))

noncomputable def k_bits_Len64_1 : Nat → Nat → AExit → Fr → AHeap → Option (AVal × AHeap) := hide k_bits_Len64_1r

theorem k_bits_Len64_1_is : k_bits_Len64_1 = k_bits_Len64_1r := hide_eq _

noncomputable def k_bits_Len64_2r (fuel d : Nat) : AExit → Fr → AHeap → Option (AVal × AHeap) := (kSeq (Cf fuel F_bits_Len64) false (acall (C fuel) false d) (acall (C fuel) true d) 25 (csub [true, true, true, true] (fbody Go.Proofs.Tryd.f120)) (asub [true, true, true, true] an120) (kRet (Cf fuel F_bits_Len64) Go.Proofs.Tryd.f120.results.toList))

noncomputable def k_bits_Len64_2 : Nat → Nat → AExit → Fr → AHeap → Option (AVal × AHeap) := hide k_bits_Len64_2r

theorem k_bits_Len64_2_is : k_bits_Len64_2 = k_bits_Len64_2r := hide_eq _

theorem e_bits_Len64 (fuel d : Nat) (x0 : Int) (h : AHeap) :
    brun fuel (d + 1) F_bits_Len64 [(AVal.int .u64 x0)] h =
  ((bif (decide ((4294967296 : Int) ≤ x0)) then (some (.normal, [(0, (AVal.int .u64 (Int.fdiv x0 (2 ^ min (Int.toNat (32 : Int)) (IntKind.bits .u64))))), (2, (AVal.int .i64 (32 : Int)))], h)) else (some (.normal, [(0, (AVal.int .u64 x0)), (2, (AVal.int .i64 (0 : Int)))], h)))).bind fun p1 =>
    k_bits_Len64_0 fuel d p1.1 p1.2.1 p1.2.2 := by
  generalize hh : brun = R
  rw [brun_is] at hh
  subst hh
  generalize hh : k_bits_Len64_0 = R
  rw [k_bits_Len64_0_is] at hh
  subst hh
  kernel_rfl

theorem k_bits_Len64_0_n (fuel d : Nat) (x0 : Int) (x2 : Int) (h : AHeap) :
    k_bits_Len64_0 fuel d .normal [(0, (AVal.int .u64 x0)), (2, (AVal.int .i64 x2))] h =
  ((bif (decide ((65536 : Int) ≤ x0)) then (some (.normal, [(0, (AVal.int .u64 (Int.fdiv x0 (2 ^ min (Int.toNat (16 : Int)) (IntKind.bits .u64))))), (2, (AVal.int .i64 (IntKind.wrap .i64 (x2 + (16 : Int)))))], h)) else (some (.normal, [(0, (AVal.int .u64 x0)), (2, (AVal.int .i64 x2))], h)))).bind fun p1 =>
    k_bits_Len64_1 fuel d p1.1 p1.2.1 p1.2.2 := by
  generalize hh : k_bits_Len64_0 = R
  rw [k_bits_Len64_0_is] at hh
  subst hh
  generalize hh : k_bits_Len64_1 = R
  rw [k_bits_Len64_1_is] at hh
  subst hh
  kernel_rfl

theorem k_bits_Len64_1_n (fuel d : Nat) (x0 : Int) (x2 : Int) (h : AHeap) :
    k_bits_Len64_1 fuel d .normal [(0, (AVal.int .u64 x0)), (2, (AVal.int .i64 x2))] h =
  ((bif (decide ((256 : Int) ≤ x0)) then (some (.normal, [(0, (AVal.int .u64 (Int.fdiv x0 (2 ^ min (Int.toNat (8 : Int)) (IntKind.bits .u64))))), (2, (AVal.int .i64 (IntKind.wrap .i64 (x2 + (8 : Int)))))], h)) else (some (.normal, [(0, (AVal.int .u64 x0)), (2, (AVal.int .i64 x2))], h)))).bind fun p1 =>
    k_bits_Len64_2 fuel d p1.1 p1.2.1 p1.2.2 := by
  generalize hh : k_bits_Len64_1 = R
  rw [k_bits_Len64_1_is] at hh
  subst hh
  generalize hh : k_bits_Len64_2 = R
  rw [k_bits_Len64_2_is] at hh
  subst hh
  kernel_rfl

theorem k_bits_Len64_2_n (fuel d : Nat) (x0 : Int) (x2 : Int) (h : AHeap) :
    k_bits_Len64_2 fuel d .normal [(0, (AVal.int .u64 x0)), (2, (AVal.int .i64 x2))] h =
  (strAt bstr_633d862b (IntKind.wrap .u8 x0)).bind fun n1 =>
    some ((AVal.int .i64 (IntKind.wrap .i64 (x2 + (IntKind.wrap .i64 n1)))), h) := by
  generalize hh : k_bits_Len64_2 = R
  rw [k_bits_Len64_2_is] at hh
  subst hh
  kernel_rfl

theorem e_strconv_bool2_int (fuel d : Nat) (x0 : Bool) (h : AHeap) :
    brun fuel (d + 1) F_strconv_bool2_int [(AVal.bool x0)] h =
  (bif x0 then (some ((AVal.int .i64 (1 : Int)), h)) else (some ((AVal.int .i64 (0 : Int)), h))) := by
  generalize hh : brun = R
  rw [brun_is] at hh
  subst hh
  kernel_rfl

theorem e_bytealg_IndexByte (fuel d : Nat) (x0 : Sl) (x1 : Int) (h : AHeap) :
    run fuel d F_bytealg_IndexByte [(AVal.slice x0), (AVal.int .u8 x1)] h =
  (AHeap.sliceCells h 1 x0).bind fun c1 => (bytesFrom c1).bind fun b2 => some ((AVal.int .i64 (Lib.indexByte b2 (Int.toNat x1).toUInt8)), h) := by
  generalize hh : run = R
  rw [run_is] at hh
  subst hh
  cases d <;> kernel_rfl

end Go.Proofs.YtdkckkhghghhdaaDoor
