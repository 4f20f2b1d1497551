/-
  What each function does: printed by program, checked by the kernel.
-/
import Derived.Test.YthccobceodgmlaaCtx
namespace Go.Proofs.Ythccobceodgmlaa
set_option linter.unusedVariables false
set_option maxRecDepth 100000

/-! 2: gosem.cut.init -/

theorem e2 (fuel d : Nat)  (h : AHeap) :
    run fuel (d + 1) 2 [] h =
  (run fuel d 1 [] h).bind fun r1 =>
    some ((AVal.tup []), r1.2) := by
  generalize hh : run = R
  rw [run_is] at hh
  subst hh
  kernel_rfl

/-! 3: skolem/skolemlaw2.AssignOwn -/

noncomputable def s3_0 (fuel d : Nat) : Run := fun fr h k => aexec (C fuel) false (acall (C fuel) false d) (acall (C fuel) true d) 143 (csub [true, true, true, true, true, true, true, false, true, false, false] (fbody Go.Proofs.Try.f3)) (asub [true, true, true, true, true, true, true, false, true, false, false] an3) fr h k

noncomputable def l3_0r (fuel d : Nat) (n : Nat) (fr : Fr) (h : AHeap) : Option (AExit × Fr × AHeap) := aloop (s3_0 fuel d) (some [0, 5, 6, 7, 8]) n fr h (kOut [4, 5, 6, 7])

noncomputable def l3_0 : Nat → Nat → Nat → Fr → AHeap → Option (AExit × Fr × AHeap) := hide l3_0r

theorem l3_0_is : l3_0 = l3_0r := hide_eq _

noncomputable def k3_0r (fuel d : Nat) : AExit → Fr → AHeap → Option (AVal × AHeap) := (kBlock 0 (kSeq (C fuel) false (acall (C fuel) false d) (acall (C fuel) true d) 143 (csub [true, true, true, true, true, true, true, true] (fbody Go.Proofs.Try.f3)) (asub [true, true, true, true, true, true, true, true] an3) (kRet Go.Proofs.Try.f3.results.toList)))

noncomputable def k3_0 : Nat → Nat → AExit → Fr → AHeap → Option (AVal × AHeap) := hide k3_0r

theorem k3_0_is : k3_0 = k3_0r := hide_eq _

noncomputable def k3_1r (fuel d : Nat) (n : Nat) : AExit → Fr → AHeap → Option (AExit × Fr × AHeap) := (kSeq (C fuel) false (acall (C fuel) false d) (acall (C fuel) true d) 143 (csub [true, true, true, true, true, true, true, false, true, false, false, true, false, false, true, true, true, true] (fbody Go.Proofs.Try.f3)) (asub [true, true, true, true, true, true, true, false, true, false, false, true, false, false, true, true, true, true] an3) (kBlock 1 (kSeq (C fuel) false (acall (C fuel) false d) (acall (C fuel) true d) 143 (csub [true, true, true, true, true, true, true, false, true, false, false, true, true] (fbody Go.Proofs.Try.f3)) (asub [true, true, true, true, true, true, true, false, true, false, false, true, true] an3) (kLoop (s3_0 fuel d) (some [0, 5, 6, 7, 8]) n (kOut [4, 5, 6, 7])))))

noncomputable def k3_1 : Nat → Nat → Nat → AExit → Fr → AHeap → Option (AExit × Fr × AHeap) := hide k3_1r

theorem k3_1_is : k3_1 = k3_1r := hide_eq _

noncomputable def s3_1 (fuel d : Nat) : Run := fun fr h k => aexec (C fuel) false (acall (C fuel) false d) (acall (C fuel) true d) 143 (csub [true, true, true, true, true, true, true, true, false, true, false, false] (fbody Go.Proofs.Try.f3)) (asub [true, true, true, true, true, true, true, true, false, true, false, false] an3) fr h k

noncomputable def l3_1r (fuel d : Nat) (n : Nat) (fr : Fr) (h : AHeap) : Option (AExit × Fr × AHeap) := aloop (s3_1 fuel d) (some [5, 6, 7, 12]) n fr h (kOut [4, 5, 6])

noncomputable def l3_1 : Nat → Nat → Nat → Fr → AHeap → Option (AExit × Fr × AHeap) := hide l3_1r

theorem l3_1_is : l3_1 = l3_1r := hide_eq _

noncomputable def k3_2r (fuel d : Nat) : AExit → Fr → AHeap → Option (AVal × AHeap) := (kBlock 2 (kSeq (C fuel) false (acall (C fuel) false d) (acall (C fuel) true d) 143 (csub [true, true, true, true, true, true, true, true, true] (fbody Go.Proofs.Try.f3)) (asub [true, true, true, true, true, true, true, true, true] an3) (kRet Go.Proofs.Try.f3.results.toList)))

noncomputable def k3_2 : Nat → Nat → AExit → Fr → AHeap → Option (AVal × AHeap) := hide k3_2r

theorem k3_2_is : k3_2 = k3_2r := hide_eq _

noncomputable def k3_3r (fuel d : Nat) (n : Nat) : AExit → Fr → AHeap → Option (AExit × Fr × AHeap) := (kSeq (C fuel) false (acall (C fuel) false d) (acall (C fuel) true d) 143 (csub [true, true, true, true, true, true, true, false, true, false, false, true, false, false, true, true, true, true, true, true] (fbody Go.Proofs.Try.f3)) (asub [true, true, true, true, true, true, true, false, true, false, false, true, false, false, true, true, true, true, true, true] an3) (kBlock 1 (kSeq (C fuel) false (acall (C fuel) false d) (acall (C fuel) true d) 143 (csub [true, true, true, true, true, true, true, false, true, false, false, true, true] (fbody Go.Proofs.Try.f3)) (asub [true, true, true, true, true, true, true, false, true, false, false, true, true] an3) (kLoop (s3_0 fuel d) (some [0, 5, 6, 7, 8]) n (kOut [4, 5, 6, 7])))))

noncomputable def k3_3 : Nat → Nat → Nat → AExit → Fr → AHeap → Option (AExit × Fr × AHeap) := hide k3_3r

theorem k3_3_is : k3_3 = k3_3r := hide_eq _

theorem e3 (fuel d : Nat) (x0 : Sl) (x1 : Int) (h : AHeap) :
    run fuel (d + 1) 3 [(AVal.slice x0), (AVal.int .i64 x1)] h =
  (run fuel d 10 [] h).bind fun r1 =>
    (AVal.bool? r1.1).bind fun b2 =>
    (bif (!b2) then (some ((AVal.bool false), r1.2)) else ((bif (decide ((40 : Int) < ((x0.len : Nat) : Int))) then (some ((AVal.bool b2), r1.2)) else ((run fuel d 11 [(AVal.int .i64 (12 : Int))] r1.2).bind fun r3 =>
    (AVal.ptr? r3.1).bind fun p4 =>
    (nilTest .ptr (AVal.ptr p4)).bind fun b5 =>
    (bif (b5) then (some ((AVal.bool false), r3.2)) else ((bif (true && decide (0 ≤ (13 : Int)) && decide ((13 : Int) ≤ (13 : Int)) && decide ((13 : Int) * 8 ≤ 140737488355328) && decide ((13 : Int) ≤ 140737488355328)) then ((l3_0 fuel d fuel [(0, (AVal.slice x0)), (5, (AVal.bool b2)), (6, (AVal.ptr p4)), (7, (AVal.slice (Sl.mk ⟨AHeap.next r3.2, 0, 0⟩ (Int.toNat (13 : Int)) (decide ((13 : Int) = (13 : Int)))))), (8, (AVal.int .i64 (0 : Int)))] (AHeap.push r3.2 1 (repeatCells [(AVal.int .i64 (0 : Int))] (Int.toNat (13 : Int))))).bind fun p6 =>
    k3_0 fuel d p6.1 p6.2.1 p6.2.2) else (none)))))))) := by
  generalize hh : run = R
  rw [run_is] at hh
  subst hh
  generalize hh : l3_0 = R
  rw [l3_0_is] at hh
  subst hh
  generalize hh : k3_0 = R
  rw [k3_0_is] at hh
  subst hh
  kernel_rfl

theorem l3_0_eq (fuel d : Nat) (n : Nat) (x0 : Sl) (x5 : Bool) (x6 : Pt) (x7 : Sl) (x8 : Int) (h : AHeap) :
    l3_0 fuel d (n + 1) [(0, (AVal.slice x0)), (5, (AVal.bool x5)), (6, (AVal.ptr x6)), (7, (AVal.slice x7)), (8, (AVal.int .i64 x8))] h =
  (bif (decide (x8 < ((x0.len : Nat) : Int))) then ((AHeap.addr h 1 x0 x8).bind fun p1 =>
    (AHeap.cell h p1).bind fun u2 =>
    (AVal.int? .i64 u2).bind fun n3 =>
    (run fuel d 12 [(AVal.int .i64 n3), (AVal.int .i64 (12 : Int))] h).bind fun r4 =>
    (AVal.int? .i64 r4.1).bind fun n5 =>
    (run fuel d 13 [(AVal.int .i64 n5)] r4.2).bind fun r6 =>
    (AVal.int? .i64 r6.1).bind fun n7 =>
    ((bif (decide (n5 < (0 : Int))) then (some (.normal, [(0, (AVal.slice x0)), (5, (AVal.bool x5)), (6, (AVal.ptr x6)), (7, (AVal.slice x7)), (8, (AVal.int .i64 x8)), (9, (AVal.int .i64 n5)), (10, (AVal.int .i64 n7)), (11, (AVal.int .i64 (-1 : Int)))], r6.2)) else (some (.normal, [(0, (AVal.slice x0)), (5, (AVal.bool x5)), (6, (AVal.ptr x6)), (7, (AVal.slice x7)), (8, (AVal.int .i64 x8)), (9, (AVal.int .i64 n5)), (10, (AVal.int .i64 n7)), (11, (AVal.int .i64 (1 : Int)))], r6.2)))).bind fun p8 =>
    k3_1 fuel d n p8.1 p8.2.1 p8.2.2) else (some ((.exit 0), [(4, AVal.bot), (5, (AVal.bool x5)), (6, (AVal.ptr x6)), (7, (AVal.slice x7))], h))) := by
  generalize hh : run = R
  rw [run_is] at hh
  subst hh
  generalize hh : l3_0 = R
  rw [l3_0_is] at hh
  subst hh
  generalize hh : k3_1 = R
  rw [k3_1_is] at hh
  subst hh
  kernel_rfl

theorem l3_0_0 (fuel d : Nat) (fr : Fr) (h : AHeap) :
    l3_0 fuel d 0 fr h =
  none := by
  generalize hh : l3_0 = R
  rw [l3_0_is] at hh
  subst hh
  kernel_rfl

theorem k3_0_x0 (fuel d : Nat) (x4 : AVal) (x5 : Bool) (x6 : Pt) (x7 : Sl) (h : AHeap) :
    k3_0 fuel d (.exit 0) [(4, x4), (5, (AVal.bool x5)), (6, (AVal.ptr x6)), (7, (AVal.slice x7))] h =
  (l3_1 fuel d fuel [(5, (AVal.bool x5)), (6, (AVal.ptr x6)), (7, (AVal.slice x7)), (12, (AVal.int .i64 (1 : Int)))] h).bind fun p1 =>
    k3_2 fuel d p1.1 p1.2.1 p1.2.2 := by
  generalize hh : k3_0 = R
  rw [k3_0_is] at hh
  subst hh
  generalize hh : l3_1 = R
  rw [l3_1_is] at hh
  subst hh
  generalize hh : k3_2 = R
  rw [k3_2_is] at hh
  subst hh
  kernel_rfl

theorem k3_0_r (fuel d : Nat) (x4 : Bool) (x5 : AVal) (x6 : AVal) (x7 : AVal) (h : AHeap) :
    k3_0 fuel d .ret [(4, (AVal.bool x4)), (5, x5), (6, x6), (7, x7)] h =
  some ((AVal.bool x4), h) := by
  generalize hh : k3_0 = R
  rw [k3_0_is] at hh
  subst hh
  kernel_rfl

theorem k3_1_n (fuel d : Nat) (n : Nat) (x0 : Sl) (x5 : Bool) (x6 : Pt) (x7 : Sl) (x8 : Int) (x9 : Int) (x10 : Int) (x11 : Int) (h : AHeap) :
    k3_1 fuel d n .normal [(0, (AVal.slice x0)), (5, (AVal.bool x5)), (6, (AVal.ptr x6)), (7, (AVal.slice x7)), (8, (AVal.int .i64 x8)), (9, (AVal.int .i64 x9)), (10, (AVal.int .i64 x10)), (11, (AVal.int .i64 x11))] h =
  (run fuel d 14 [(AVal.ptr x6), (AVal.int .i64 x9)] h).bind fun r1 =>
    (AVal.bool? r1.1).bind fun b2 =>
    (AHeap.addr r1.2 1 x7 x10).bind fun p3 =>
    same ((AHeap.addr h 1 x7 x10).bind fun p14 =>
    some ((AVal.ptr p14), h)) ((AVal.ptr p3), h) (
    (AHeap.cell r1.2 p3).bind fun u4 =>
    (AVal.int? .i64 u4).bind fun n5 =>
    same ((AHeap.cell h p3).bind fun u12 =>
    (AVal.int? .i64 u12).bind fun n13 =>
    some ((AVal.int .i64 n13), h)) ((AVal.int .i64 n5), h) (
    (bif (!(b2 == (!decide (n5 = (IntKind.wrap .i64 (0 - x11)))))) then (some (.ret, [(4, (AVal.bool false)), (5, (AVal.bool x5)), (6, (AVal.ptr x6)), (7, (AVal.slice x7))], r1.2)) else ((AHeap.addr r1.2 1 x7 x10).bind fun p6 =>
    (AHeap.cell r1.2 p6).bind fun u7 =>
    (AVal.int? .i64 u7).bind fun n8 =>
    ((bif (decide (n8 = (0 : Int))) then ((AHeap.addr r1.2 1 x7 x10).bind fun p9 =>
    (AHeap.storeAt r1.2 [(AVal.int .i64 x11)] p9).bind fun h10 =>
    some (.normal, [(0, (AVal.slice x0)), (5, (AVal.bool x5)), (6, (AVal.ptr x6)), (7, (AVal.slice x7)), (8, (AVal.int .i64 x8)), (10, (AVal.int .i64 x10))], h10)) else (some (.normal, [(0, (AVal.slice x0)), (5, (AVal.bool x5)), (6, (AVal.ptr x6)), (7, (AVal.slice x7)), (8, (AVal.int .i64 x8)), (10, (AVal.int .i64 x10))], r1.2)))).bind fun p11 =>
    k3_3 fuel d n p11.1 p11.2.1 p11.2.2)))) := by
  generalize hh : run = R
  rw [run_is] at hh
  subst hh
  generalize hh : k3_1 = R
  rw [k3_1_is] at hh
  subst hh
  generalize hh : k3_3 = R
  rw [k3_3_is] at hh
  subst hh
  kernel_rfl

theorem l3_1_eq (fuel d : Nat) (n : Nat) (x5 : Bool) (x6 : Pt) (x7 : Sl) (x12 : Int) (h : AHeap) :
    l3_1 fuel d (n + 1) [(5, (AVal.bool x5)), (6, (AVal.ptr x6)), (7, (AVal.slice x7)), (12, (AVal.int .i64 x12))] h =
  (bif (decide (x12 ≤ (12 : Int))) then ((run fuel d 16 [(AVal.ptr x6), (AVal.int .i64 x12)] h).bind fun r1 =>
    (AVal.int? .i64 r1.1).bind fun n2 =>
    (run fuel d 16 [(AVal.ptr x6), (AVal.int .i64 (IntKind.wrap .i64 (0 - x12)))] r1.2).bind fun r3 =>
    (AVal.int? .i64 r3.1).bind fun n4 =>
    (AHeap.addr r3.2 1 x7 x12).bind fun p5 =>
    (AHeap.cell r3.2 p5).bind fun u6 =>
    (AVal.int? .i64 u6).bind fun n7 =>
    ((bif ((!((decide (n2 = (0 : Int))) == (decide (n7 = (0 : Int))))) == false) then ((AHeap.addr r3.2 1 x7 x12).bind fun p8 =>
    (AHeap.cell r3.2 p8).bind fun u9 =>
    (AVal.int? .i64 u9).bind fun n10 =>
    some ((AVal.bool (!((decide (n2 = (1 : Int))) == (decide (n10 = (1 : Int)))))), r3.2)) else (some ((AVal.bool true), r3.2)) : Option (AVal × AHeap))).bind fun r11 =>
    (AVal.bool? r11.1).bind fun b12 =>
    ((bif (b12 == false) then ((AHeap.addr r11.2 1 x7 x12).bind fun p13 =>
    (AHeap.cell r11.2 p13).bind fun u14 =>
    (AVal.int? .i64 u14).bind fun n15 =>
    some ((AVal.bool (!((decide (n4 = (1 : Int))) == (decide (n15 = (-1 : Int)))))), r11.2)) else (some ((AVal.bool true), r11.2)) : Option (AVal × AHeap))).bind fun r16 =>
    (AVal.bool? r16.1).bind fun b17 =>
    ((bif (b17 == false) then ((AHeap.addr r16.2 1 x7 x12).bind fun p18 =>
    (AHeap.cell r16.2 p18).bind fun u19 =>
    (AVal.int? .i64 u19).bind fun n20 =>
    some ((AVal.bool (!((decide (n4 = (0 : Int))) == (decide (n20 = (0 : Int)))))), r16.2)) else (some ((AVal.bool true), r16.2)) : Option (AVal × AHeap))).bind fun r21 =>
    (AVal.bool? r21.1).bind fun b22 =>
    (bif b22 then (some (.ret, [(4, (AVal.bool false)), (5, (AVal.bool x5)), (6, (AVal.ptr x6))], r21.2)) else (l3_1 fuel d n [(5, (AVal.bool x5)), (6, (AVal.ptr x6)), (7, (AVal.slice x7)), (12, (AVal.int .i64 (IntKind.wrap .i64 (x12 + (1 : Int)))))] r21.2))) else (some ((.exit 2), [(4, AVal.bot), (5, (AVal.bool x5)), (6, (AVal.ptr x6))], h))) := by
  generalize hh : run = R
  rw [run_is] at hh
  subst hh
  generalize hh : l3_1 = R
  rw [l3_1_is] at hh
  subst hh
  kernel_rfl

theorem l3_1_0 (fuel d : Nat) (fr : Fr) (h : AHeap) :
    l3_1 fuel d 0 fr h =
  none := by
  generalize hh : l3_1 = R
  rw [l3_1_is] at hh
  subst hh
  kernel_rfl

theorem k3_2_x2 (fuel d : Nat) (x4 : AVal) (x5 : Bool) (x6 : Pt) (h : AHeap) :
    k3_2 fuel d (.exit 2) [(4, x4), (5, (AVal.bool x5)), (6, (AVal.ptr x6))] h =
  ((bif (x5 == true) then ((run fuel d 16 [(AVal.ptr x6), (AVal.int .i64 (13 : Int))] h).bind fun r1 =>
    (AVal.int? .i64 r1.1).bind fun n2 =>
    some ((AVal.bool (decide (n2 = (0 : Int)))), r1.2)) else (some ((AVal.bool false), h)) : Option (AVal × AHeap))).bind fun r3 =>
    (AVal.bool? r3.1).bind fun b4 =>
    ((bif (b4 == true) then ((run fuel d 16 [(AVal.ptr x6), (AVal.int .i64 (0 : Int))] r3.2).bind fun r5 =>
    (AVal.int? .i64 r5.1).bind fun n6 =>
    some ((AVal.bool (decide (n6 = (0 : Int)))), r5.2)) else (some ((AVal.bool false), r3.2)) : Option (AVal × AHeap))).bind fun r7 =>
    (AVal.bool? r7.1).bind fun b8 =>
    ((bif (b8 == true) then ((run fuel d 14 [(AVal.ptr x6), (AVal.int .i64 (13 : Int))] r7.2).bind fun r9 =>
    (AVal.bool? r9.1).bind fun b10 =>
    some ((AVal.bool (!b10)), r9.2)) else (some ((AVal.bool false), r7.2)) : Option (AVal × AHeap))).bind fun r11 =>
    (AVal.bool? r11.1).bind fun b12 =>
    ((bif (b12 == true) then ((run fuel d 14 [(AVal.ptr x6), (AVal.int .i64 (0 : Int))] r11.2).bind fun r13 =>
    (AVal.bool? r13.1).bind fun b14 =>
    some ((AVal.bool (!b14)), r13.2)) else (some ((AVal.bool false), r11.2)) : Option (AVal × AHeap))).bind fun r15 =>
    (AVal.bool? r15.1).bind fun b16 =>
    some ((AVal.bool b16), r15.2) := by
  generalize hh : run = R
  rw [run_is] at hh
  subst hh
  generalize hh : k3_2 = R
  rw [k3_2_is] at hh
  subst hh
  kernel_rfl

theorem k3_2_r (fuel d : Nat) (x4 : Bool) (x5 : AVal) (x6 : AVal) (h : AHeap) :
    k3_2 fuel d .ret [(4, (AVal.bool x4)), (5, x5), (6, x6)] h =
  some ((AVal.bool x4), h) := by
  generalize hh : k3_2 = R
  rw [k3_2_is] at hh
  subst hh
  kernel_rfl

theorem k3_3_n (fuel d : Nat) (n : Nat) (x0 : Sl) (x5 : Bool) (x6 : Pt) (x7 : Sl) (x8 : Int) (x10 : Int) (h : AHeap) :
    k3_3 fuel d n .normal [(0, (AVal.slice x0)), (5, (AVal.bool x5)), (6, (AVal.ptr x6)), (7, (AVal.slice x7)), (8, (AVal.int .i64 x8)), (10, (AVal.int .i64 x10))] h =
  (AHeap.addr h 1 x0 x8).bind fun p1 =>
    (AHeap.cell h p1).bind fun u2 =>
    (AVal.int? .i64 u2).bind fun n3 =>
    (bif (decide ((bitsOp .and .i64 n3 (7 : Int)) = (7 : Int))) then ((run fuel d 15 [(AVal.ptr x6), (AVal.int .i64 x10)] h).bind fun r4 =>
    (AHeap.addr r4.2 1 x7 x10).bind fun p5 =>
    (AHeap.storeAt r4.2 [(AVal.int .i64 (0 : Int))] p5).bind fun h6 =>
    l3_0 fuel d n [(0, (AVal.slice x0)), (5, (AVal.bool x5)), (6, (AVal.ptr x6)), (7, (AVal.slice x7)), (8, (AVal.int .i64 (IntKind.wrap .i64 (x8 + (1 : Int)))))] h6) else (l3_0 fuel d n [(0, (AVal.slice x0)), (5, (AVal.bool x5)), (6, (AVal.ptr x6)), (7, (AVal.slice x7)), (8, (AVal.int .i64 (IntKind.wrap .i64 (x8 + (1 : Int)))))] h)) := by
  generalize hh : run = R
  rw [run_is] at hh
  subst hh
  generalize hh : l3_0 = R
  rw [l3_0_is] at hh
  subst hh
  generalize hh : k3_3 = R
  rw [k3_3_is] at hh
  subst hh
  kernel_rfl

/-! 4: skolem/skolemlaw2.AssignUnits -/

noncomputable def s4_0 (fuel d : Nat) : Run := fun fr h k => aexec (C fuel) false (acall (C fuel) false d) (acall (C fuel) true d) 127 (csub [true, true, true, true, true, false, true, false, false] (fbody Go.Proofs.Try.f4)) (asub [true, true, true, true, true, false, true, false, false] an4) fr h k

noncomputable def l4_0r (fuel d : Nat) (n : Nat) (fr : Fr) (h : AHeap) : Option (AExit × Fr × AHeap) := aloop (s4_0 fuel d) (some [0, 1, 5, 6, 7]) n fr h (kOut [1, 5, 6])

noncomputable def l4_0 : Nat → Nat → Nat → Fr → AHeap → Option (AExit × Fr × AHeap) := hide l4_0r

theorem l4_0_is : l4_0 = l4_0r := hide_eq _

noncomputable def k4_0r (fuel d : Nat) : AExit → Fr → AHeap → Option (AVal × AHeap) := (kBlock 0 (kSeq (C fuel) false (acall (C fuel) false d) (acall (C fuel) true d) 127 (csub [true, true, true, true, true, true] (fbody Go.Proofs.Try.f4)) (asub [true, true, true, true, true, true] an4) (kRet Go.Proofs.Try.f4.results.toList)))

noncomputable def k4_0 : Nat → Nat → AExit → Fr → AHeap → Option (AVal × AHeap) := hide k4_0r

theorem k4_0_is : k4_0 = k4_0r := hide_eq _

noncomputable def s4_1 (fuel d : Nat) : Run := fun fr h k => aexec (C fuel) false (acall (C fuel) false d) (acall (C fuel) true d) 127 (csub [true, true, true, true, true, true, true, true, false, true, false, false] (fbody Go.Proofs.Try.f4)) (asub [true, true, true, true, true, true, true, true, false, true, false, false] an4) fr h k

noncomputable def l4_1r (fuel d : Nat) (n : Nat) (fr : Fr) (h : AHeap) : Option (AExit × Fr × AHeap) := aloop (s4_1 fuel d) (some [1, 5, 6, 8, 9]) n fr h (kOut [5, 6, 8])

noncomputable def l4_1 : Nat → Nat → Nat → Fr → AHeap → Option (AExit × Fr × AHeap) := hide l4_1r

theorem l4_1_is : l4_1 = l4_1r := hide_eq _

noncomputable def k4_1r (fuel d : Nat) : AExit → Fr → AHeap → Option (AVal × AHeap) := (kBlock 2 (kSeq (C fuel) false (acall (C fuel) false d) (acall (C fuel) true d) 127 (csub [true, true, true, true, true, true, true, true, true] (fbody Go.Proofs.Try.f4)) (asub [true, true, true, true, true, true, true, true, true] an4) (kRet Go.Proofs.Try.f4.results.toList)))

noncomputable def k4_1 : Nat → Nat → AExit → Fr → AHeap → Option (AVal × AHeap) := hide k4_1r

theorem k4_1_is : k4_1 = k4_1r := hide_eq _

noncomputable def k4_2r (fuel d : Nat) : AExit → Fr → AHeap → Option (AVal × AHeap) := (kSeq (C fuel) false (acall (C fuel) false d) (acall (C fuel) true d) 127 (csub [true, true, true, true, true, true, true, true, true, true, true, true, true, true] (fbody Go.Proofs.Try.f4)) (asub [true, true, true, true, true, true, true, true, true, true, true, true, true, true] an4) (kRet Go.Proofs.Try.f4.results.toList))

noncomputable def k4_2 : Nat → Nat → AExit → Fr → AHeap → Option (AVal × AHeap) := hide k4_2r

theorem k4_2_is : k4_2 = k4_2r := hide_eq _

theorem e4 (fuel d : Nat) (x0 : Sl) (x1 : Sl) (h : AHeap) :
    run fuel (d + 1) 4 [(AVal.slice x0), (AVal.slice x1)] h =
  (run fuel d 10 [] h).bind fun r1 =>
    (AVal.bool? r1.1).bind fun b2 =>
    (bif (!b2) then (some ((AVal.bool false), r1.2)) else ((bif (bif (decide ((8 : Int) < ((x0.len : Nat) : Int))) then true else (decide ((20 : Int) < ((x1.len : Nat) : Int)))) then (some ((AVal.bool b2), r1.2)) else ((l4_0 fuel d fuel [(0, (AVal.slice x0)), (1, (AVal.slice x1)), (5, (AVal.bool b2)), (6, (AVal.slice Sl.nil)), (7, (AVal.int .i64 (0 : Int)))] r1.2).bind fun p3 =>
    k4_0 fuel d p3.1 p3.2.1 p3.2.2)))) := by
  generalize hh : run = R
  rw [run_is] at hh
  subst hh
  generalize hh : l4_0 = R
  rw [l4_0_is] at hh
  subst hh
  generalize hh : k4_0 = R
  rw [k4_0_is] at hh
  subst hh
  kernel_rfl

theorem l4_0_eq (fuel d : Nat) (n : Nat) (x0 : Sl) (x1 : Sl) (x5 : Bool) (x6 : Sl) (x7 : Int) (h : AHeap) :
    l4_0 fuel d (n + 1) [(0, (AVal.slice x0)), (1, (AVal.slice x1)), (5, (AVal.bool x5)), (6, (AVal.slice x6)), (7, (AVal.int .i64 x7))] h =
  (bif (decide (x7 < ((x0.len : Nat) : Int))) then ((AHeap.addr h 1 x0 x7).bind fun p1 =>
    (AHeap.cell h p1).bind fun u2 =>
    (AVal.int? .i64 u2).bind fun n3 =>
    (run fuel d 12 [(AVal.int .i64 n3), (AVal.int .i64 (6 : Int))] h).bind fun r4 =>
    (AVal.int? .i64 r4.1).bind fun n5 =>
    (AHeap.sliceCells (AHeap.push r4.2 1 [(AVal.int .i64 n5)]) 1 (Sl.mk ⟨AHeap.next r4.2, 0, 0⟩ 1 true)).bind fun xs6 =>
    (AHeap.append (AHeap.push r4.2 1 [(AVal.int .i64 n5)]) false 1 8 x6 (Sl.mk ⟨AHeap.next r4.2, 0, 0⟩ 1 true).len xs6).bind fun a7 =>
    l4_0 fuel d n [(0, (AVal.slice x0)), (1, (AVal.slice x1)), (5, (AVal.bool x5)), (6, (AVal.slice a7.1)), (7, (AVal.int .i64 (IntKind.wrap .i64 (x7 + (1 : Int)))))] a7.2) else (some ((.exit 0), [(1, (AVal.slice x1)), (5, (AVal.bool x5)), (6, (AVal.slice x6))], h))) := by
  generalize hh : run = R
  rw [run_is] at hh
  subst hh
  generalize hh : l4_0 = R
  rw [l4_0_is] at hh
  subst hh
  kernel_rfl

theorem l4_0_0 (fuel d : Nat) (fr : Fr) (h : AHeap) :
    l4_0 fuel d 0 fr h =
  none := by
  generalize hh : l4_0 = R
  rw [l4_0_is] at hh
  subst hh
  kernel_rfl

theorem k4_0_x0 (fuel d : Nat) (x1 : Sl) (x5 : Bool) (x6 : Sl) (h : AHeap) :
    k4_0 fuel d (.exit 0) [(1, (AVal.slice x1)), (5, (AVal.bool x5)), (6, (AVal.slice x6))] h =
  (run fuel d 11 [(AVal.int .i64 (6 : Int))] h).bind fun r1 =>
    (AVal.ptr? r1.1).bind fun p2 =>
    (nilTest .ptr (AVal.ptr p2)).bind fun b3 =>
    (bif (b3) then (some ((AVal.bool false), r1.2)) else ((l4_1 fuel d fuel [(1, (AVal.slice x1)), (5, (AVal.bool x5)), (6, (AVal.slice x6)), (8, (AVal.ptr p2)), (9, (AVal.int .i64 (0 : Int)))] r1.2).bind fun p4 =>
    k4_1 fuel d p4.1 p4.2.1 p4.2.2)) := by
  generalize hh : run = R
  rw [run_is] at hh
  subst hh
  generalize hh : k4_0 = R
  rw [k4_0_is] at hh
  subst hh
  generalize hh : l4_1 = R
  rw [l4_1_is] at hh
  subst hh
  generalize hh : k4_1 = R
  rw [k4_1_is] at hh
  subst hh
  kernel_rfl

theorem l4_1_eq (fuel d : Nat) (n : Nat) (x1 : Sl) (x5 : Bool) (x6 : Sl) (x8 : Pt) (x9 : Int) (h : AHeap) :
    l4_1 fuel d (n + 1) [(1, (AVal.slice x1)), (5, (AVal.bool x5)), (6, (AVal.slice x6)), (8, (AVal.ptr x8)), (9, (AVal.int .i64 x9))] h =
  (bif (decide (x9 < ((x1.len : Nat) : Int))) then ((AHeap.addr h 1 x1 x9).bind fun p1 =>
    (AHeap.cell h p1).bind fun u2 =>
    (AVal.int? .i64 u2).bind fun n3 =>
    (run fuel d 12 [(AVal.int .i64 n3), (AVal.int .i64 (6 : Int))] h).bind fun r4 =>
    (AVal.int? .i64 r4.1).bind fun n5 =>
    (run fuel d 14 [(AVal.ptr x8), (AVal.int .i64 n5)] r4.2).bind fun r6 =>
    (AVal.bool? r6.1).bind fun b7 =>
    l4_1 fuel d n [(1, (AVal.slice x1)), (5, (AVal.bool x5)), (6, (AVal.slice x6)), (8, (AVal.ptr x8)), (9, (AVal.int .i64 (IntKind.wrap .i64 (x9 + (1 : Int)))))] r6.2) else (some ((.exit 2), [(5, (AVal.bool x5)), (6, (AVal.slice x6)), (8, (AVal.ptr x8))], h))) := by
  generalize hh : run = R
  rw [run_is] at hh
  subst hh
  generalize hh : l4_1 = R
  rw [l4_1_is] at hh
  subst hh
  kernel_rfl

theorem l4_1_0 (fuel d : Nat) (fr : Fr) (h : AHeap) :
    l4_1 fuel d 0 fr h =
  none := by
  generalize hh : l4_1 = R
  rw [l4_1_is] at hh
  subst hh
  kernel_rfl

theorem k4_1_x2 (fuel d : Nat) (x5 : Bool) (x6 : Sl) (x8 : Pt) (h : AHeap) :
    k4_1 fuel d (.exit 2) [(5, (AVal.bool x5)), (6, (AVal.slice x6)), (8, (AVal.ptr x8))] h =
  (run fuel d 17 [(AVal.ptr x8), (AVal.slice x6)] h).bind fun r1 =>
    (bif AVal.isTup 2 r1.1 then ((AVal.comp 0 r1.1).bind fun u2 =>
    (AVal.int? .i64 u2).bind fun n3 =>
    (AVal.comp 1 r1.1).bind fun u4 =>
    (AVal.int? .i64 u4).bind fun n5 =>
    (bif (decide (n5 = (0 : Int))) then (some ((AVal.bool x5), r1.2)) else ((run fuel d 14 [(AVal.ptr x8), (AVal.int .i64 n5)] r1.2).bind fun r6 =>
    (AVal.bool? r6.1).bind fun b7 =>
    (run fuel d 17 [(AVal.ptr x8), (AVal.slice x6)] r6.2).bind fun r8 =>
    (bif AVal.isTup 2 r8.1 then ((AVal.comp 0 r8.1).bind fun u9 =>
    (AVal.int? .i64 u9).bind fun n10 =>
    (AVal.comp 1 r8.1).bind fun u11 =>
    (AVal.int? .i64 u11).bind fun n12 =>
    ((bif (decide ((0 : Int) < n5)) then ((run fuel d 15 [(AVal.ptr x8), (AVal.int .i64 n5)] r8.2).bind fun r13 =>
    some (.normal, [(5, (AVal.bool x5)), (6, (AVal.slice x6)), (8, (AVal.ptr x8)), (10, (AVal.int .i64 n3)), (11, (AVal.int .i64 n5)), (12, (AVal.bool b7)), (13, (AVal.int .i64 n10))], r13.2)) else ((run fuel d 15 [(AVal.ptr x8), (AVal.int .i64 (IntKind.wrap .i64 (0 - n5)))] r8.2).bind fun r14 =>
    some (.normal, [(5, (AVal.bool x5)), (6, (AVal.slice x6)), (8, (AVal.ptr x8)), (10, (AVal.int .i64 n3)), (11, (AVal.int .i64 n5)), (12, (AVal.bool b7)), (13, (AVal.int .i64 n10))], r14.2)))).bind fun p15 =>
    k4_2 fuel d p15.1 p15.2.1 p15.2.2) else none)))) else none) := by
  generalize hh : run = R
  rw [run_is] at hh
  subst hh
  generalize hh : k4_1 = R
  rw [k4_1_is] at hh
  subst hh
  generalize hh : k4_2 = R
  rw [k4_2_is] at hh
  subst hh
  kernel_rfl

theorem k4_2_n (fuel d : Nat) (x5 : Bool) (x6 : Sl) (x8 : Pt) (x10 : Int) (x11 : Int) (x12 : Bool) (x13 : Int) (h : AHeap) :
    k4_2 fuel d .normal [(5, (AVal.bool x5)), (6, (AVal.slice x6)), (8, (AVal.ptr x8)), (10, (AVal.int .i64 x10)), (11, (AVal.int .i64 x11)), (12, (AVal.bool x12)), (13, (AVal.int .i64 x13))] h =
  (run fuel d 14 [(AVal.ptr x8), (AVal.int .i64 (IntKind.wrap .i64 (0 - x11)))] h).bind fun r1 =>
    (AVal.bool? r1.1).bind fun b2 =>
    (run fuel d 17 [(AVal.ptr x8), (AVal.slice x6)] r1.2).bind fun r3 =>
    (bif AVal.isTup 2 r3.1 then ((AVal.comp 0 r3.1).bind fun u4 =>
    (AVal.int? .i64 u4).bind fun n5 =>
    (AVal.comp 1 r3.1).bind fun u6 =>
    (AVal.int? .i64 u6).bind fun n7 =>
    ((bif ((bif x5 then (decide (x10 = (0 : Int))) else false) == true) then ((run fuel d 18 [(AVal.slice x6), (AVal.int .i64 x11)] r3.2).bind fun r8 =>
    (AVal.bool? r8.1).bind fun b9 =>
    some ((AVal.bool b9), r8.2)) else (some ((AVal.bool false), r3.2)) : Option (AVal × AHeap))).bind fun r10 =>
    (AVal.bool? r10.1).bind fun b11 =>
    ((bif ((bif (bif (bif b11 then x12 else false) then b2 else false) then (decide (x13 = (1 : Int))) else false) == true) then (((bif ((decide (n5 = (2 : Int))) == false) then ((run fuel d 18 [(AVal.slice x6), (AVal.int .i64 (IntKind.wrap .i64 (0 - x11)))] r10.2).bind fun r12 =>
    (AVal.bool? r12.1).bind fun b13 =>
    some ((AVal.bool b13), r12.2)) else (some ((AVal.bool true), r10.2)) : Option (AVal × AHeap))).bind fun r14 =>
    (AVal.bool? r14.1).bind fun b15 =>
    some ((AVal.bool b15), r14.2)) else (some ((AVal.bool false), r10.2)) : Option (AVal × AHeap))).bind fun r16 =>
    (AVal.bool? r16.1).bind fun b17 =>
    some ((AVal.bool b17), r16.2)) else none) := by
  generalize hh : run = R
  rw [run_is] at hh
  subst hh
  generalize hh : k4_2 = R
  rw [k4_2_is] at hh
  subst hh
  kernel_rfl

/-! 5: skolem/skolemlaw2.AssignModels -/

noncomputable def s5_0 (fuel d : Nat) : Run := fun fr h k => aexec (C fuel) false (acall (C fuel) false d) (acall (C fuel) true d) 114 (csub [true, true, true, true, true, true, true, true, false, true, false, false] (fbody Go.Proofs.Try.f5)) (asub [true, true, true, true, true, true, true, true, false, true, false, false] an5) fr h k

noncomputable def l5_0r (fuel d : Nat) (n : Nat) (fr : Fr) (h : AHeap) : Option (AExit × Fr × AHeap) := aloop (s5_0 fuel d) (some [0, 2, 7, 8, 9, 11]) n fr h (kOut [0, 6, 7, 8, 9])

noncomputable def l5_0 : Nat → Nat → Nat → Fr → AHeap → Option (AExit × Fr × AHeap) := hide l5_0r

theorem l5_0_is : l5_0 = l5_0r := hide_eq _

noncomputable def k5_0r (fuel d : Nat) : AExit → Fr → AHeap → Option (AVal × AHeap) := (kBlock 0 (kSeq (C fuel) false (acall (C fuel) false d) (acall (C fuel) true d) 114 (csub [true, true, true, true, true, true, true, true, true] (fbody Go.Proofs.Try.f5)) (asub [true, true, true, true, true, true, true, true, true] an5) (kRet Go.Proofs.Try.f5.results.toList)))

noncomputable def k5_0 : Nat → Nat → AExit → Fr → AHeap → Option (AVal × AHeap) := hide k5_0r

theorem k5_0_is : k5_0 = k5_0r := hide_eq _

noncomputable def k5_1r (fuel d : Nat) (n : Nat) : AExit → Fr → AHeap → Option (AExit × Fr × AHeap) := (kSeq (C fuel) false (acall (C fuel) false d) (acall (C fuel) true d) 114 (csub [true, true, true, true, true, true, true, true, false, true, false, false, true, false, false, true, true] (fbody Go.Proofs.Try.f5)) (asub [true, true, true, true, true, true, true, true, false, true, false, false, true, false, false, true, true] an5) (kBlock 1 (kSeq (C fuel) false (acall (C fuel) false d) (acall (C fuel) true d) 114 (csub [true, true, true, true, true, true, true, true, false, true, false, false, true, true] (fbody Go.Proofs.Try.f5)) (asub [true, true, true, true, true, true, true, true, false, true, false, false, true, true] an5) (kLoop (s5_0 fuel d) (some [0, 2, 7, 8, 9, 11]) n (kOut [0, 6, 7, 8, 9])))))

noncomputable def k5_1 : Nat → Nat → Nat → AExit → Fr → AHeap → Option (AExit × Fr × AHeap) := hide k5_1r

theorem k5_1_is : k5_1 = k5_1r := hide_eq _

noncomputable def s5_1 (fuel d : Nat) : Run := fun fr h k => aexec (C fuel) false (acall (C fuel) false d) (acall (C fuel) true d) 114 (csub [true, true, true, true, true, true, true, true, true, true, false, true, false, false] (fbody Go.Proofs.Try.f5)) (asub [true, true, true, true, true, true, true, true, true, true, false, true, false, false] an5) fr h k

noncomputable def l5_1r (fuel d : Nat) (n : Nat) (fr : Fr) (h : AHeap) : Option (AExit × Fr × AHeap) := aloop (s5_1 fuel d) (some [0, 7, 8, 9, 10, 13]) n fr h (kOut [6, 7, 8, 9, 10])

noncomputable def l5_1 : Nat → Nat → Nat → Fr → AHeap → Option (AExit × Fr × AHeap) := hide l5_1r

theorem l5_1_is : l5_1 = l5_1r := hide_eq _

noncomputable def k5_2r (fuel d : Nat) : AExit → Fr → AHeap → Option (AVal × AHeap) := (kBlock 2 (kSeq (C fuel) false (acall (C fuel) false d) (acall (C fuel) true d) 114 (csub [true, true, true, true, true, true, true, true, true, true, true] (fbody Go.Proofs.Try.f5)) (asub [true, true, true, true, true, true, true, true, true, true, true] an5) (kRet Go.Proofs.Try.f5.results.toList)))

noncomputable def k5_2 : Nat → Nat → AExit → Fr → AHeap → Option (AVal × AHeap) := hide k5_2r

theorem k5_2_is : k5_2 = k5_2r := hide_eq _

noncomputable def k5_3r (fuel d : Nat) (n : Nat) : AExit → Fr → AHeap → Option (AExit × Fr × AHeap) := (kSeq (C fuel) false (acall (C fuel) false d) (acall (C fuel) true d) 114 (csub [true, true, true, true, true, true, true, true, true, true, false, true, false, false, true, false, false, true, true] (fbody Go.Proofs.Try.f5)) (asub [true, true, true, true, true, true, true, true, true, true, false, true, false, false, true, false, false, true, true] an5) (kBlock 3 (kSeq (C fuel) false (acall (C fuel) false d) (acall (C fuel) true d) 114 (csub [true, true, true, true, true, true, true, true, true, true, false, true, false, false, true, true] (fbody Go.Proofs.Try.f5)) (asub [true, true, true, true, true, true, true, true, true, true, false, true, false, false, true, true] an5) (kLoop (s5_1 fuel d) (some [0, 7, 8, 9, 10, 13]) n (kOut [6, 7, 8, 9, 10])))))

noncomputable def k5_3 : Nat → Nat → Nat → AExit → Fr → AHeap → Option (AExit × Fr × AHeap) := hide k5_3r

theorem k5_3_is : k5_3 = k5_3r := hide_eq _

theorem e5 (fuel d : Nat) (x0 : Int) (x1 : Sl) (x2 : Int) (h : AHeap) :
    run fuel (d + 1) 5 [(AVal.int .i64 x0), (AVal.slice x1), (AVal.int .i64 x2)] h =
  (run fuel d 10 [] h).bind fun r1 =>
    (AVal.bool? r1.1).bind fun b2 =>
    (bif (!b2) then (some ((AVal.bool false), r1.2)) else ((bif (decide ((60 : Int) < ((x1.len : Nat) : Int))) then (some ((AVal.bool b2), r1.2)) else ((run fuel d 19 [(AVal.slice x1), (AVal.int .i64 (12 : Int))] r1.2).bind fun r3 =>
    (AVal.slice? r3.1).bind fun s4 =>
    (run fuel d 11 [(AVal.int .i64 (12 : Int))] r3.2).bind fun r5 =>
    (AVal.ptr? r5.1).bind fun p6 =>
    (nilTest .ptr (AVal.ptr p6)).bind fun b7 =>
    (bif (b7) then (some ((AVal.bool false), r5.2)) else ((l5_0 fuel d fuel [(0, (AVal.int .i64 x0)), (2, (AVal.int .i64 x2)), (7, (AVal.bool b2)), (8, (AVal.slice s4)), (9, (AVal.ptr p6)), (11, (AVal.int .i64 (1 : Int)))] r5.2).bind fun p8 =>
    k5_0 fuel d p8.1 p8.2.1 p8.2.2)))))) := by
  generalize hh : run = R
  rw [run_is] at hh
  subst hh
  generalize hh : l5_0 = R
  rw [l5_0_is] at hh
  subst hh
  generalize hh : k5_0 = R
  rw [k5_0_is] at hh
  subst hh
  kernel_rfl

theorem l5_0_eq (fuel d : Nat) (n : Nat) (x0 : Int) (x2 : Int) (x7 : Bool) (x8 : Sl) (x9 : Pt) (x11 : Int) (h : AHeap) :
    l5_0 fuel d (n + 1) [(0, (AVal.int .i64 x0)), (2, (AVal.int .i64 x2)), (7, (AVal.bool x7)), (8, (AVal.slice x8)), (9, (AVal.ptr x9)), (11, (AVal.int .i64 x11))] h =
  (bif (decide (x11 ≤ (12 : Int))) then ((bif decide ((IntKind.wrap .u64 x11) < 0) then (none) else (((bif (decide ((bitsOp .and .i64 (Int.fdiv x0 (2 ^ min (Int.toNat (IntKind.wrap .u64 x11)) (IntKind.bits .i64))) (1 : Int)) = (0 : Int))) then (some (.normal, [(0, (AVal.int .i64 x0)), (2, (AVal.int .i64 x2)), (7, (AVal.bool x7)), (8, (AVal.slice x8)), (9, (AVal.ptr x9)), (11, (AVal.int .i64 x11)), (12, (AVal.int .i64 (IntKind.wrap .i64 (0 - x11))))], h)) else (some (.normal, [(0, (AVal.int .i64 x0)), (2, (AVal.int .i64 x2)), (7, (AVal.bool x7)), (8, (AVal.slice x8)), (9, (AVal.ptr x9)), (11, (AVal.int .i64 x11)), (12, (AVal.int .i64 x11))], h)))).bind fun p1 =>
    k5_1 fuel d n p1.1 p1.2.1 p1.2.2))) else (some ((.exit 0), [(0, (AVal.int .i64 x0)), (6, AVal.bot), (7, (AVal.bool x7)), (8, (AVal.slice x8)), (9, (AVal.ptr x9))], h))) := by
  generalize hh : l5_0 = R
  rw [l5_0_is] at hh
  subst hh
  generalize hh : k5_1 = R
  rw [k5_1_is] at hh
  subst hh
  kernel_rfl

theorem l5_0_0 (fuel d : Nat) (fr : Fr) (h : AHeap) :
    l5_0 fuel d 0 fr h =
  none := by
  generalize hh : l5_0 = R
  rw [l5_0_is] at hh
  subst hh
  kernel_rfl

theorem k5_0_x0 (fuel d : Nat) (x0 : Int) (x6 : AVal) (x7 : Bool) (x8 : Sl) (x9 : Pt) (h : AHeap) :
    k5_0 fuel d (.exit 0) [(0, (AVal.int .i64 x0)), (6, x6), (7, (AVal.bool x7)), (8, (AVal.slice x8)), (9, (AVal.ptr x9))] h =
  (run fuel d 20 [(AVal.ptr x9), (AVal.slice x8)] h).bind fun r1 =>
    (AVal.int? .i64 r1.1).bind fun n2 =>
    (l5_1 fuel d fuel [(0, (AVal.int .i64 x0)), (7, (AVal.bool x7)), (8, (AVal.slice x8)), (9, (AVal.ptr x9)), (10, (AVal.int .i64 n2)), (13, (AVal.int .i64 (1 : Int)))] r1.2).bind fun p3 =>
    k5_2 fuel d p3.1 p3.2.1 p3.2.2 := by
  generalize hh : run = R
  rw [run_is] at hh
  subst hh
  generalize hh : k5_0 = R
  rw [k5_0_is] at hh
  subst hh
  generalize hh : l5_1 = R
  rw [l5_1_is] at hh
  subst hh
  generalize hh : k5_2 = R
  rw [k5_2_is] at hh
  subst hh
  kernel_rfl

theorem k5_0_r (fuel d : Nat) (x0 : AVal) (x6 : Bool) (x7 : AVal) (x8 : AVal) (x9 : AVal) (h : AHeap) :
    k5_0 fuel d .ret [(0, x0), (6, (AVal.bool x6)), (7, x7), (8, x8), (9, x9)] h =
  some ((AVal.bool x6), h) := by
  generalize hh : k5_0 = R
  rw [k5_0_is] at hh
  subst hh
  kernel_rfl

theorem k5_1_n (fuel d : Nat) (n : Nat) (x0 : Int) (x2 : Int) (x7 : Bool) (x8 : Sl) (x9 : Pt) (x11 : Int) (x12 : Int) (h : AHeap) :
    k5_1 fuel d n .normal [(0, (AVal.int .i64 x0)), (2, (AVal.int .i64 x2)), (7, (AVal.bool x7)), (8, (AVal.slice x8)), (9, (AVal.ptr x9)), (11, (AVal.int .i64 x11)), (12, (AVal.int .i64 x12))] h =
  (bif decide ((IntKind.wrap .u64 x11) < 0) then (none) else ((bif (decide ((bitsOp .and .i64 (Int.fdiv x2 (2 ^ min (Int.toNat (IntKind.wrap .u64 x11)) (IntKind.bits .i64))) (1 : Int)) = (1 : Int))) then ((run fuel d 14 [(AVal.ptr x9), (AVal.int .i64 x12)] h).bind fun r1 =>
    (AVal.bool? r1.1).bind fun b2 =>
    (bif (!b2) then (some (.ret, [(0, (AVal.int .i64 x0)), (6, (AVal.bool false)), (7, (AVal.bool x7)), (8, (AVal.slice x8)), (9, (AVal.ptr x9))], r1.2)) else (l5_0 fuel d n [(0, (AVal.int .i64 x0)), (2, (AVal.int .i64 x2)), (7, (AVal.bool x7)), (8, (AVal.slice x8)), (9, (AVal.ptr x9)), (11, (AVal.int .i64 (IntKind.wrap .i64 (x11 + (1 : Int)))))] r1.2))) else (l5_0 fuel d n [(0, (AVal.int .i64 x0)), (2, (AVal.int .i64 x2)), (7, (AVal.bool x7)), (8, (AVal.slice x8)), (9, (AVal.ptr x9)), (11, (AVal.int .i64 (IntKind.wrap .i64 (x11 + (1 : Int)))))] h)))) := by
  generalize hh : run = R
  rw [run_is] at hh
  subst hh
  generalize hh : l5_0 = R
  rw [l5_0_is] at hh
  subst hh
  generalize hh : k5_1 = R
  rw [k5_1_is] at hh
  subst hh
  kernel_rfl

theorem l5_1_eq (fuel d : Nat) (n : Nat) (x0 : Int) (x7 : Bool) (x8 : Sl) (x9 : Pt) (x10 : Int) (x13 : Int) (h : AHeap) :
    l5_1 fuel d (n + 1) [(0, (AVal.int .i64 x0)), (7, (AVal.bool x7)), (8, (AVal.slice x8)), (9, (AVal.ptr x9)), (10, (AVal.int .i64 x10)), (13, (AVal.int .i64 x13))] h =
  (bif (decide (x13 ≤ (12 : Int))) then ((bif decide ((IntKind.wrap .u64 x13) < 0) then (none) else (((bif (decide ((bitsOp .and .i64 (Int.fdiv x0 (2 ^ min (Int.toNat (IntKind.wrap .u64 x13)) (IntKind.bits .i64))) (1 : Int)) = (0 : Int))) then (some (.normal, [(0, (AVal.int .i64 x0)), (7, (AVal.bool x7)), (8, (AVal.slice x8)), (9, (AVal.ptr x9)), (10, (AVal.int .i64 x10)), (13, (AVal.int .i64 x13)), (14, (AVal.int .i64 (IntKind.wrap .i64 (0 - x13))))], h)) else (some (.normal, [(0, (AVal.int .i64 x0)), (7, (AVal.bool x7)), (8, (AVal.slice x8)), (9, (AVal.ptr x9)), (10, (AVal.int .i64 x10)), (13, (AVal.int .i64 x13)), (14, (AVal.int .i64 x13))], h)))).bind fun p1 =>
    k5_3 fuel d n p1.1 p1.2.1 p1.2.2))) else (some ((.exit 2), [(6, AVal.bot), (7, (AVal.bool x7)), (8, (AVal.slice x8)), (9, (AVal.ptr x9)), (10, (AVal.int .i64 x10))], h))) := by
  generalize hh : l5_1 = R
  rw [l5_1_is] at hh
  subst hh
  generalize hh : k5_3 = R
  rw [k5_3_is] at hh
  subst hh
  kernel_rfl

theorem l5_1_0 (fuel d : Nat) (fr : Fr) (h : AHeap) :
    l5_1 fuel d 0 fr h =
  none := by
  generalize hh : l5_1 = R
  rw [l5_1_is] at hh
  subst hh
  kernel_rfl

theorem k5_2_x2 (fuel d : Nat) (x6 : AVal) (x7 : Bool) (x8 : Sl) (x9 : Pt) (x10 : Int) (h : AHeap) :
    k5_2 fuel d (.exit 2) [(6, x6), (7, (AVal.bool x7)), (8, (AVal.slice x8)), (9, (AVal.ptr x9)), (10, (AVal.int .i64 x10))] h =
  (run fuel d 20 [(AVal.ptr x9), (AVal.slice x8)] h).bind fun r1 =>
    (AVal.int? .i64 r1.1).bind fun n2 =>
    (run fuel d 22 [(AVal.ptr x9)] r1.2).bind fun r3 =>
    (AVal.slice? r3.1).bind fun s4 =>
    (run fuel d 21 [(AVal.slice x8), (AVal.slice s4)] r3.2).bind fun r5 =>
    (AVal.bool? r5.1).bind fun b6 =>
    ((bif ((bif (bif x7 then ((decide (n2 = (1 : Int))) == b6) else false) then ((decide (n2 = (2 : Int))) == (!b6)) else false) == true) then (some ((AVal.bool (bif (decide (x10 = (0 : Int))) then true else (decide (x10 = n2)))), r5.2)) else (some ((AVal.bool false), r5.2)) : Option (AVal × AHeap))).bind fun r7 =>
    (AVal.bool? r7.1).bind fun b8 =>
    ((bif (b8 == true) then ((run fuel d 23 [(AVal.ptr x9)] r7.2).bind fun r9 =>
    (AVal.slice? r9.1).bind fun s10 =>
    some ((AVal.bool (decide (((s10.len : Nat) : Int) = (12 : Int)))), r9.2)) else (some ((AVal.bool false), r7.2)) : Option (AVal × AHeap))).bind fun r11 =>
    (AVal.bool? r11.1).bind fun b12 =>
    some ((AVal.bool b12), r11.2) := by
  generalize hh : run = R
  rw [run_is] at hh
  subst hh
  generalize hh : k5_2 = R
  rw [k5_2_is] at hh
  subst hh
  kernel_rfl

theorem k5_2_r (fuel d : Nat) (x6 : Bool) (x7 : AVal) (x8 : AVal) (x9 : AVal) (x10 : AVal) (h : AHeap) :
    k5_2 fuel d .ret [(6, (AVal.bool x6)), (7, x7), (8, x8), (9, x9), (10, x10)] h =
  some ((AVal.bool x6), h) := by
  generalize hh : k5_2 = R
  rw [k5_2_is] at hh
  subst hh
  kernel_rfl

theorem k5_3_n (fuel d : Nat) (n : Nat) (x0 : Int) (x7 : Bool) (x8 : Sl) (x9 : Pt) (x10 : Int) (x13 : Int) (x14 : Int) (h : AHeap) :
    k5_3 fuel d n .normal [(0, (AVal.int .i64 x0)), (7, (AVal.bool x7)), (8, (AVal.slice x8)), (9, (AVal.ptr x9)), (10, (AVal.int .i64 x10)), (13, (AVal.int .i64 x13)), (14, (AVal.int .i64 x14))] h =
  (run fuel d 14 [(AVal.ptr x9), (AVal.int .i64 x14)] h).bind fun r1 =>
    (AVal.bool? r1.1).bind fun b2 =>
    ((bif ((!b2) == false) then ((run fuel d 14 [(AVal.ptr x9), (AVal.int .i64 (IntKind.wrap .i64 (0 - x14)))] r1.2).bind fun r3 =>
    (AVal.bool? r3.1).bind fun b4 =>
    some ((AVal.bool b4), r3.2)) else (some ((AVal.bool true), r1.2)) : Option (AVal × AHeap))).bind fun r5 =>
    (AVal.bool? r5.1).bind fun b6 =>
    (bif b6 then (some (.ret, [(6, (AVal.bool false)), (7, (AVal.bool x7)), (8, (AVal.slice x8)), (9, (AVal.ptr x9)), (10, (AVal.int .i64 x10))], r5.2)) else (l5_1 fuel d n [(0, (AVal.int .i64 x0)), (7, (AVal.bool x7)), (8, (AVal.slice x8)), (9, (AVal.ptr x9)), (10, (AVal.int .i64 x10)), (13, (AVal.int .i64 (IntKind.wrap .i64 (x13 + (1 : Int)))))] r5.2)) := by
  generalize hh : run = R
  rw [run_is] at hh
  subst hh
  generalize hh : l5_1 = R
  rw [l5_1_is] at hh
  subst hh
  generalize hh : k5_3 = R
  rw [k5_3_is] at hh
  subst hh
  kernel_rfl

/-! 6: skolem/skolemlaw2.AssignPlays -/

noncomputable def s6_0 (fuel d : Nat) : Run := fun fr h k => aexec (C fuel) false (acall (C fuel) false d) (acall (C fuel) true d) 214 (csub [true, true, true, true, true, true, true, false, true, false, false] (fbody Go.Proofs.Try.f6)) (asub [true, true, true, true, true, true, true, false, true, false, false] an6) fr h k

noncomputable def l6_0r (fuel d : Nat) (n : Nat) (fr : Fr) (h : AHeap) : Option (AExit × Fr × AHeap) := aloop (s6_0 fuel d) (some [0, 1, 2, 3, 9, 10, 11, 12]) n fr h (kOut [1, 2, 3, 8, 9, 10, 11])

noncomputable def l6_0 : Nat → Nat → Nat → Fr → AHeap → Option (AExit × Fr × AHeap) := hide l6_0r

theorem l6_0_is : l6_0 = l6_0r := hide_eq _

noncomputable def k6_0r (fuel d : Nat) : AExit → Fr → AHeap → Option (AVal × AHeap) := (kBlock 0 (kSeq (C fuel) false (acall (C fuel) false d) (acall (C fuel) true d) 214 (csub [true, true, true, true, true, true, true, true] (fbody Go.Proofs.Try.f6)) (asub [true, true, true, true, true, true, true, true] an6) (kRet Go.Proofs.Try.f6.results.toList)))

noncomputable def k6_0 : Nat → Nat → AExit → Fr → AHeap → Option (AVal × AHeap) := hide k6_0r

theorem k6_0_is : k6_0 = k6_0r := hide_eq _

noncomputable def s6_1 (fuel d : Nat) : Run := fun fr h k => aexec (C fuel) false (acall (C fuel) false d) (acall (C fuel) true d) 214 (csub [true, true, true, true, true, true, true, true, false, true, false, false] (fbody Go.Proofs.Try.f6)) (asub [true, true, true, true, true, true, true, true, false, true, false, false] an6) fr h k

noncomputable def l6_1r (fuel d : Nat) (n : Nat) (fr : Fr) (h : AHeap) : Option (AExit × Fr × AHeap) := aloop (s6_1 fuel d) (some [1, 2, 3, 9, 10, 11, 13]) n fr h (kOut [3, 8, 9, 10, 11])

noncomputable def l6_1 : Nat → Nat → Nat → Fr → AHeap → Option (AExit × Fr × AHeap) := hide l6_1r

theorem l6_1_is : l6_1 = l6_1r := hide_eq _

noncomputable def k6_1r (fuel d : Nat) : AExit → Fr → AHeap → Option (AVal × AHeap) := (kBlock 2 (kSeq (C fuel) false (acall (C fuel) false d) (acall (C fuel) true d) 214 (csub [true, true, true, true, true, true, true, true, true] (fbody Go.Proofs.Try.f6)) (asub [true, true, true, true, true, true, true, true, true] an6) (kRet Go.Proofs.Try.f6.results.toList)))

noncomputable def k6_1 : Nat → Nat → AExit → Fr → AHeap → Option (AVal × AHeap) := hide k6_1r

theorem k6_1_is : k6_1 = k6_1r := hide_eq _

noncomputable def s6_2 (fuel d : Nat) : Run := fun fr h k => aexec (C fuel) false (acall (C fuel) false d) (acall (C fuel) true d) 214 (csub [true, true, true, true, true, true, true, true, false, true, false, false, true, false, false, true, true, false, true, false, false] (fbody Go.Proofs.Try.f6)) (asub [true, true, true, true, true, true, true, true, false, true, false, false, true, false, false, true, true, false, true, false, false] an6) fr h k

noncomputable def l6_2r (fuel d : Nat) (n : Nat) (fr : Fr) (h : AHeap) : Option (AExit × Fr × AHeap) := aloop (s6_2 fuel d) (some [1, 2, 3, 9, 10, 11, 13, 14]) n fr h (kOut [1, 2, 3, 8, 9, 10, 11, 13])

noncomputable def l6_2 : Nat → Nat → Nat → Fr → AHeap → Option (AExit × Fr × AHeap) := hide l6_2r

theorem l6_2_is : l6_2 = l6_2r := hide_eq _

noncomputable def k6_2r (fuel d : Nat) (n : Nat) : AExit → Fr → AHeap → Option (AExit × Fr × AHeap) := (kBlock 4 (kSeq (C fuel) false (acall (C fuel) false d) (acall (C fuel) true d) 214 (csub [true, true, true, true, true, true, true, true, false, true, false, false, true, false, false, true, true, true] (fbody Go.Proofs.Try.f6)) (asub [true, true, true, true, true, true, true, true, false, true, false, false, true, false, false, true, true, true] an6) (kBlock 3 (kSeq (C fuel) false (acall (C fuel) false d) (acall (C fuel) true d) 214 (csub [true, true, true, true, true, true, true, true, false, true, false, false, true, true] (fbody Go.Proofs.Try.f6)) (asub [true, true, true, true, true, true, true, true, false, true, false, false, true, true] an6) (kLoop (s6_1 fuel d) (some [1, 2, 3, 9, 10, 11, 13]) n (kOut [3, 8, 9, 10, 11]))))))

noncomputable def k6_2 : Nat → Nat → Nat → AExit → Fr → AHeap → Option (AExit × Fr × AHeap) := hide k6_2r

theorem k6_2_is : k6_2 = k6_2r := hide_eq _

noncomputable def s6_3 (fuel d : Nat) : Run := fun fr h k => aexec (C fuel) false (acall (C fuel) false d) (acall (C fuel) true d) 214 (csub [true, true, true, true, true, true, true, true, true, true, true, false, true, false, false] (fbody Go.Proofs.Try.f6)) (asub [true, true, true, true, true, true, true, true, true, true, true, false, true, false, false] an6) fr h k

noncomputable def l6_3r (fuel d : Nat) (n : Nat) (fr : Fr) (h : AHeap) : Option (AExit × Fr × AHeap) := aloop (s6_3 fuel d) (some [3, 9, 11, 19, 20]) n fr h (kOut [3, 8, 9, 19])

noncomputable def l6_3 : Nat → Nat → Nat → Fr → AHeap → Option (AExit × Fr × AHeap) := hide l6_3r

theorem l6_3_is : l6_3 = l6_3r := hide_eq _

noncomputable def k6_3r (fuel d : Nat) : AExit → Fr → AHeap → Option (AVal × AHeap) := (kBlock 6 (kSeq (C fuel) false (acall (C fuel) false d) (acall (C fuel) true d) 214 (csub [true, true, true, true, true, true, true, true, true, true, true, true] (fbody Go.Proofs.Try.f6)) (asub [true, true, true, true, true, true, true, true, true, true, true, true] an6) (kRet Go.Proofs.Try.f6.results.toList)))

noncomputable def k6_3 : Nat → Nat → AExit → Fr → AHeap → Option (AVal × AHeap) := hide k6_3r

theorem k6_3_is : k6_3 = k6_3r := hide_eq _

theorem e6 (fuel d : Nat) (x0 : Int) (x1 : Sl) (x2 : Int) (x3 : Sl) (h : AHeap) :
    run fuel (d + 1) 6 [(AVal.int .i64 x0), (AVal.slice x1), (AVal.int .i64 x2), (AVal.slice x3)] h =
  (run fuel d 10 [] h).bind fun r1 =>
    (AVal.bool? r1.1).bind fun b2 =>
    (bif (!b2) then (some ((AVal.bool false), r1.2)) else (((bif ((bif (bif (decide ((60 : Int) < ((x1.len : Nat) : Int))) then true else (decide ((30 : Int) < ((x3.len : Nat) : Int)))) then true else (decide ((30 : Int) < x0))) == false) then ((run fuel d 24 [(AVal.slice (Sl.mk ⟨AHeap.next r1.2, 0, 0⟩ 1 true))] (AHeap.push r1.2 1 [(AVal.int .i64 x2)])).bind fun r3 =>
    (AVal.bool? r3.1).bind fun b4 =>
    some ((AVal.bool (!b4)), r3.2)) else (some ((AVal.bool true), r1.2)) : Option (AVal × AHeap))).bind fun r5 =>
    (AVal.bool? r5.1).bind fun b6 =>
    ((bif (b6 == false) then ((run fuel d 25 [(AVal.slice x3)] r5.2).bind fun r7 =>
    (AVal.int? .i64 r7.1).bind fun n8 =>
    some ((AVal.bool (decide ((200 : Int) < n8))), r7.2)) else (some ((AVal.bool true), r5.2)) : Option (AVal × AHeap))).bind fun r9 =>
    (AVal.bool? r9.1).bind fun b10 =>
    (bif b10 then (some ((AVal.bool b2), r9.2)) else ((run fuel d 11 [(AVal.int .i64 x0)] r9.2).bind fun r11 =>
    (AVal.ptr? r11.1).bind fun p12 =>
    (run fuel d 26 [(AVal.int .i64 x0)] r11.2).bind fun r13 =>
    (AVal.ptr? r13.1).bind fun p14 =>
    (nilTest .ptr (AVal.ptr p12)).bind fun b15 =>
    (bif (b15) then (some ((AVal.bool false), r13.2)) else ((l6_0 fuel d fuel [(0, (AVal.int .i64 x0)), (1, (AVal.slice x1)), (2, (AVal.int .i64 x2)), (3, (AVal.slice x3)), (9, (AVal.bool b2)), (10, (AVal.ptr p12)), (11, (AVal.ptr p14)), (12, (AVal.int .i64 (0 : Int)))] r13.2).bind fun p16 =>
    k6_0 fuel d p16.1 p16.2.1 p16.2.2)))))) := by
  generalize hh : run = R
  rw [run_is] at hh
  subst hh
  generalize hh : l6_0 = R
  rw [l6_0_is] at hh
  subst hh
  generalize hh : k6_0 = R
  rw [k6_0_is] at hh
  subst hh
  kernel_rfl

theorem l6_0_eq (fuel d : Nat) (n : Nat) (x0 : Int) (x1 : Sl) (x2 : Int) (x3 : Sl) (x9 : Bool) (x10 : Pt) (x11 : Pt) (x12 : Int) (h : AHeap) :
    l6_0 fuel d (n + 1) [(0, (AVal.int .i64 x0)), (1, (AVal.slice x1)), (2, (AVal.int .i64 x2)), (3, (AVal.slice x3)), (9, (AVal.bool x9)), (10, (AVal.ptr x10)), (11, (AVal.ptr x11)), (12, (AVal.int .i64 x12))] h =
  (bif (decide (x12 < ((x3.len : Nat) : Int))) then ((AHeap.addr h 1 x3 x12).bind fun p1 =>
    (AHeap.cell h p1).bind fun u2 =>
    (AVal.slice? u2).bind fun s3 =>
    (run fuel d 27 [(AVal.slice s3), (AVal.int .i64 (bif decide (x0 < (0 : Int)) then (0 : Int) else x0))] h).bind fun r4 =>
    (AVal.bool? r4.1).bind fun b5 =>
    (bif (!b5) then (some (.ret, [(1, (AVal.slice x1)), (2, (AVal.int .i64 x2)), (3, (AVal.slice x3)), (8, (AVal.bool x9)), (9, (AVal.bool x9)), (10, (AVal.ptr x10)), (11, (AVal.ptr x11))], r4.2)) else (l6_0 fuel d n [(0, (AVal.int .i64 x0)), (1, (AVal.slice x1)), (2, (AVal.int .i64 x2)), (3, (AVal.slice x3)), (9, (AVal.bool x9)), (10, (AVal.ptr x10)), (11, (AVal.ptr x11)), (12, (AVal.int .i64 (IntKind.wrap .i64 (x12 + (1 : Int)))))] r4.2))) else (some ((.exit 0), [(1, (AVal.slice x1)), (2, (AVal.int .i64 x2)), (3, (AVal.slice x3)), (8, AVal.bot), (9, (AVal.bool x9)), (10, (AVal.ptr x10)), (11, (AVal.ptr x11))], h))) := by
  generalize hh : run = R
  rw [run_is] at hh
  subst hh
  generalize hh : l6_0 = R
  rw [l6_0_is] at hh
  subst hh
  kernel_rfl

theorem l6_0_0 (fuel d : Nat) (fr : Fr) (h : AHeap) :
    l6_0 fuel d 0 fr h =
  none := by
  generalize hh : l6_0 = R
  rw [l6_0_is] at hh
  subst hh
  kernel_rfl

theorem k6_0_x0 (fuel d : Nat) (x1 : Sl) (x2 : Int) (x3 : Sl) (x8 : AVal) (x9 : Bool) (x10 : Pt) (x11 : Pt) (h : AHeap) :
    k6_0 fuel d (.exit 0) [(1, (AVal.slice x1)), (2, (AVal.int .i64 x2)), (3, (AVal.slice x3)), (8, x8), (9, (AVal.bool x9)), (10, (AVal.ptr x10)), (11, (AVal.ptr x11))] h =
  (l6_1 fuel d fuel [(1, (AVal.slice x1)), (2, (AVal.int .i64 x2)), (3, (AVal.slice x3)), (9, (AVal.bool x9)), (10, (AVal.ptr x10)), (11, (AVal.ptr x11)), (13, (AVal.int .i64 (0 : Int)))] h).bind fun p1 =>
    k6_1 fuel d p1.1 p1.2.1 p1.2.2 := by
  generalize hh : k6_0 = R
  rw [k6_0_is] at hh
  subst hh
  generalize hh : l6_1 = R
  rw [l6_1_is] at hh
  subst hh
  generalize hh : k6_1 = R
  rw [k6_1_is] at hh
  subst hh
  kernel_rfl

theorem k6_0_r (fuel d : Nat) (x1 : AVal) (x2 : AVal) (x3 : AVal) (x8 : Bool) (x9 : AVal) (x10 : AVal) (x11 : AVal) (h : AHeap) :
    k6_0 fuel d .ret [(1, x1), (2, x2), (3, x3), (8, (AVal.bool x8)), (9, x9), (10, x10), (11, x11)] h =
  some ((AVal.bool x8), h) := by
  generalize hh : k6_0 = R
  rw [k6_0_is] at hh
  subst hh
  kernel_rfl

theorem l6_1_eq (fuel d : Nat) (n : Nat) (x1 : Sl) (x2 : Int) (x3 : Sl) (x9 : Bool) (x10 : Pt) (x11 : Pt) (x13 : Int) (h : AHeap) :
    l6_1 fuel d (n + 1) [(1, (AVal.slice x1)), (2, (AVal.int .i64 x2)), (3, (AVal.slice x3)), (9, (AVal.bool x9)), (10, (AVal.ptr x10)), (11, (AVal.ptr x11)), (13, (AVal.int .i64 x13))] h =
  (bif (decide (x13 < ((x1.len : Nat) : Int))) then ((AHeap.addr h 2 x1 x13).bind fun p1 =>
    (Pt.field 1 p1).bind fun p2 =>
    (AHeap.cell h p2).bind fun u3 =>
    (AVal.int? .i64 u3).bind fun n4 =>
    (run fuel d 24 [(AVal.slice (Sl.mk ⟨AHeap.next h, 0, 0⟩ 1 true))] (AHeap.push h 1 [(AVal.int .i64 n4)])).bind fun r5 =>
    (AVal.bool? r5.1).bind fun b6 =>
    (bif (!b6) then (some (.ret, [(3, (AVal.slice x3)), (8, (AVal.bool x9)), (9, (AVal.bool x9)), (10, (AVal.ptr x10)), (11, (AVal.ptr x11))], r5.2)) else ((AHeap.addr r5.2 2 x1 x13).bind fun p7 =>
    (Pt.field 0 p7).bind fun p8 =>
    (AHeap.cell r5.2 p8).bind fun u9 =>
    (AVal.int? .i64 u9).bind fun n10 =>
    (bif (decide (n10 = (1 : Int))) then ((AHeap.addr r5.2 2 x1 x13).bind fun p11 =>
    (Pt.field 1 p11).bind fun p12 =>
    (AHeap.cell r5.2 p12).bind fun u13 =>
    (AVal.int? .i64 u13).bind fun n14 =>
    (run fuel d 14 [(AVal.ptr x10), (AVal.int .i64 n14)] r5.2).bind fun r15 =>
    (AVal.bool? r15.1).bind fun b16 =>
    (AHeap.addr r15.2 2 x1 x13).bind fun p17 =>
    same ((AHeap.addr r5.2 2 x1 x13).bind fun p26 =>
    some ((AVal.ptr p26), r5.2)) ((AVal.ptr p17), r5.2) (
    (Pt.field 1 p17).bind fun p18 =>
    (AHeap.cell r15.2 p18).bind fun u19 =>
    (AVal.int? .i64 u19).bind fun n20 =>
    same ((AHeap.cell r5.2 p18).bind fun u24 =>
    (AVal.int? .i64 u24).bind fun n25 =>
    some ((AVal.int .i64 n25), r5.2)) ((AVal.int .i64 n20), r5.2) (
    (run fuel d 28 [(AVal.ptr x11), (AVal.int .i64 n20)] r15.2).bind fun r21 =>
    (AVal.bool? r21.1).bind fun b22 =>
    (bif (!(b16 == b22)) then (some (.ret, [(3, (AVal.slice x3)), (8, (AVal.bool false)), (9, (AVal.bool x9)), (10, (AVal.ptr x10)), (11, (AVal.ptr x11))], r21.2)) else ((l6_2 fuel d fuel [(1, (AVal.slice x1)), (2, (AVal.int .i64 x2)), (3, (AVal.slice x3)), (9, (AVal.bool x9)), (10, (AVal.ptr x10)), (11, (AVal.ptr x11)), (13, (AVal.int .i64 x13)), (14, (AVal.int .i64 (0 : Int)))] r21.2).bind fun p23 =>
    k6_2 fuel d n p23.1 p23.2.1 p23.2.2))))) else ((AHeap.addr r5.2 2 x1 x13).bind fun p27 =>
    (Pt.field 1 p27).bind fun p28 =>
    (AHeap.cell r5.2 p28).bind fun u29 =>
    (AVal.int? .i64 u29).bind fun n30 =>
    (run fuel d 15 [(AVal.ptr x10), (AVal.int .i64 n30)] r5.2).bind fun r31 =>
    (AHeap.addr r31.2 2 x1 x13).bind fun p32 =>
    (Pt.field 1 p32).bind fun p33 =>
    (AHeap.cell r31.2 p33).bind fun u34 =>
    (AVal.int? .i64 u34).bind fun n35 =>
    (run fuel d 29 [(AVal.ptr x11), (AVal.int .i64 n35)] r31.2).bind fun r36 =>
    (l6_2 fuel d fuel [(1, (AVal.slice x1)), (2, (AVal.int .i64 x2)), (3, (AVal.slice x3)), (9, (AVal.bool x9)), (10, (AVal.ptr x10)), (11, (AVal.ptr x11)), (13, (AVal.int .i64 x13)), (14, (AVal.int .i64 (0 : Int)))] r36.2).bind fun p37 =>
    k6_2 fuel d n p37.1 p37.2.1 p37.2.2))))) else (some ((.exit 2), [(3, (AVal.slice x3)), (8, AVal.bot), (9, (AVal.bool x9)), (10, (AVal.ptr x10)), (11, (AVal.ptr x11))], h))) := by
  generalize hh : run = R
  rw [run_is] at hh
  subst hh
  generalize hh : l6_1 = R
  rw [l6_1_is] at hh
  subst hh
  generalize hh : l6_2 = R
  rw [l6_2_is] at hh
  subst hh
  generalize hh : k6_2 = R
  rw [k6_2_is] at hh
  subst hh
  kernel_rfl

theorem l6_1_0 (fuel d : Nat) (fr : Fr) (h : AHeap) :
    l6_1 fuel d 0 fr h =
  none := by
  generalize hh : l6_1 = R
  rw [l6_1_is] at hh
  subst hh
  kernel_rfl

theorem k6_1_x2 (fuel d : Nat) (x3 : Sl) (x8 : AVal) (x9 : Bool) (x10 : Pt) (x11 : Pt) (h : AHeap) :
    k6_1 fuel d (.exit 2) [(3, (AVal.slice x3)), (8, x8), (9, (AVal.bool x9)), (10, (AVal.ptr x10)), (11, (AVal.ptr x11))] h =
  (run fuel d 22 [(AVal.ptr x10)] h).bind fun r1 =>
    (AVal.slice? r1.1).bind fun s2 =>
    (Pt.chk x11).bind fun p3 =>
    (Pt.field 0 p3).bind fun p4 =>
    (AHeap.cell r1.2 p4).bind fun u5 =>
    (AVal.slice? u5).bind fun s6 =>
    (bif (!decide (((s2.len : Nat) : Int) = ((s6.len : Nat) : Int))) then (some ((AVal.bool false), r1.2)) else ((l6_3 fuel d fuel [(3, (AVal.slice x3)), (9, (AVal.bool x9)), (11, (AVal.ptr x11)), (19, (AVal.slice s2)), (20, (AVal.int .i64 (0 : Int)))] r1.2).bind fun p7 =>
    k6_3 fuel d p7.1 p7.2.1 p7.2.2)) := by
  generalize hh : run = R
  rw [run_is] at hh
  subst hh
  generalize hh : k6_1 = R
  rw [k6_1_is] at hh
  subst hh
  generalize hh : l6_3 = R
  rw [l6_3_is] at hh
  subst hh
  generalize hh : k6_3 = R
  rw [k6_3_is] at hh
  subst hh
  kernel_rfl

theorem k6_1_r (fuel d : Nat) (x3 : AVal) (x8 : Bool) (x9 : AVal) (x10 : AVal) (x11 : AVal) (h : AHeap) :
    k6_1 fuel d .ret [(3, x3), (8, (AVal.bool x8)), (9, x9), (10, x10), (11, x11)] h =
  some ((AVal.bool x8), h) := by
  generalize hh : k6_1 = R
  rw [k6_1_is] at hh
  subst hh
  kernel_rfl

theorem l6_2_eq (fuel d : Nat) (n : Nat) (x1 : Sl) (x2 : Int) (x3 : Sl) (x9 : Bool) (x10 : Pt) (x11 : Pt) (x13 : Int) (x14 : Int) (h : AHeap) :
    l6_2 fuel d (n + 1) [(1, (AVal.slice x1)), (2, (AVal.int .i64 x2)), (3, (AVal.slice x3)), (9, (AVal.bool x9)), (10, (AVal.ptr x10)), (11, (AVal.ptr x11)), (13, (AVal.int .i64 x13)), (14, (AVal.int .i64 x14))] h =
  (bif (decide (x14 < ((x3.len : Nat) : Int))) then ((AHeap.addr h 1 x3 x14).bind fun p1 =>
    (AHeap.cell h p1).bind fun u2 =>
    (AVal.slice? u2).bind fun s3 =>
    (run fuel d 17 [(AVal.ptr x10), (AVal.slice s3)] h).bind fun r4 =>
    (bif AVal.isTup 2 r4.1 then ((AVal.comp 0 r4.1).bind fun u5 =>
    (AVal.int? .i64 u5).bind fun n6 =>
    (AVal.comp 1 r4.1).bind fun u7 =>
    (AVal.int? .i64 u7).bind fun n8 =>
    (AHeap.addr r4.2 1 x3 x14).bind fun p9 =>
    (AHeap.cell r4.2 p9).bind fun u10 =>
    (AVal.slice? u10).bind fun s11 =>
    (run fuel d 30 [(AVal.ptr x11), (AVal.slice s11)] r4.2).bind fun r12 =>
    (bif AVal.isTup 2 r12.1 then ((AVal.comp 0 r12.1).bind fun u13 =>
    (AVal.int? .i64 u13).bind fun n14 =>
    (AVal.comp 1 r12.1).bind fun u15 =>
    (AVal.int? .i64 u15).bind fun n16 =>
    (bif (bif (!decide (n6 = n14)) then true else (!decide (n8 = n16))) then (some (.ret, [(1, (AVal.slice x1)), (2, (AVal.int .i64 x2)), (3, (AVal.slice x3)), (8, (AVal.bool false)), (9, (AVal.bool x9)), (10, (AVal.ptr x10)), (11, (AVal.ptr x11)), (13, (AVal.int .i64 x13))], r12.2)) else (l6_2 fuel d n [(1, (AVal.slice x1)), (2, (AVal.int .i64 x2)), (3, (AVal.slice x3)), (9, (AVal.bool x9)), (10, (AVal.ptr x10)), (11, (AVal.ptr x11)), (13, (AVal.int .i64 x13)), (14, (AVal.int .i64 (IntKind.wrap .i64 (x14 + (1 : Int)))))] r12.2))) else none)) else none)) else (some ((.exit 4), [(1, (AVal.slice x1)), (2, (AVal.int .i64 x2)), (3, (AVal.slice x3)), (8, AVal.bot), (9, (AVal.bool x9)), (10, (AVal.ptr x10)), (11, (AVal.ptr x11)), (13, (AVal.int .i64 x13))], h))) := by
  generalize hh : run = R
  rw [run_is] at hh
  subst hh
  generalize hh : l6_2 = R
  rw [l6_2_is] at hh
  subst hh
  kernel_rfl

theorem l6_2_0 (fuel d : Nat) (fr : Fr) (h : AHeap) :
    l6_2 fuel d 0 fr h =
  none := by
  generalize hh : l6_2 = R
  rw [l6_2_is] at hh
  subst hh
  kernel_rfl

theorem k6_2_x4 (fuel d : Nat) (n : Nat) (x1 : Sl) (x2 : Int) (x3 : Sl) (x8 : AVal) (x9 : Bool) (x10 : Pt) (x11 : Pt) (x13 : Int) (h : AHeap) :
    k6_2 fuel d n (.exit 4) [(1, (AVal.slice x1)), (2, (AVal.int .i64 x2)), (3, (AVal.slice x3)), (8, x8), (9, (AVal.bool x9)), (10, (AVal.ptr x10)), (11, (AVal.ptr x11)), (13, (AVal.int .i64 x13))] h =
  (run fuel d 16 [(AVal.ptr x10), (AVal.int .i64 x2)] h).bind fun r1 =>
    (AVal.int? .i64 r1.1).bind fun n2 =>
    (run fuel d 31 [(AVal.ptr x11), (AVal.int .i64 x2)] r1.2).bind fun r3 =>
    (AVal.int? .i64 r3.1).bind fun n4 =>
    ((bif ((!decide (n2 = n4)) == false) then ((run fuel d 20 [(AVal.ptr x10), (AVal.slice x3)] r3.2).bind fun r5 =>
    (AVal.int? .i64 r5.1).bind fun n6 =>
    (run fuel d 32 [(AVal.ptr x11), (AVal.slice x3)] r5.2).bind fun r7 =>
    (AVal.int? .i64 r7.1).bind fun n8 =>
    some ((AVal.bool (!decide (n6 = n8))), r7.2)) else (some ((AVal.bool true), r3.2)) : Option (AVal × AHeap))).bind fun r9 =>
    (AVal.bool? r9.1).bind fun b10 =>
    ((bif (b10 == false) then ((run fuel d 23 [(AVal.ptr x10)] r9.2).bind fun r11 =>
    (AVal.slice? r11.1).bind fun s12 =>
    (run fuel d 34 [(AVal.ptr x11)] r11.2).bind fun r13 =>
    (AVal.slice? r13.1).bind fun s14 =>
    (run fuel d 33 [(AVal.slice s12), (AVal.slice s14)] r13.2).bind fun r15 =>
    (AVal.bool? r15.1).bind fun b16 =>
    some ((AVal.bool (!b16)), r15.2)) else (some ((AVal.bool true), r9.2)) : Option (AVal × AHeap))).bind fun r17 =>
    (AVal.bool? r17.1).bind fun b18 =>
    (bif b18 then (some (.ret, [(3, (AVal.slice x3)), (8, (AVal.bool false)), (9, (AVal.bool x9)), (10, (AVal.ptr x10)), (11, (AVal.ptr x11))], r17.2)) else (l6_1 fuel d n [(1, (AVal.slice x1)), (2, (AVal.int .i64 x2)), (3, (AVal.slice x3)), (9, (AVal.bool x9)), (10, (AVal.ptr x10)), (11, (AVal.ptr x11)), (13, (AVal.int .i64 (IntKind.wrap .i64 (x13 + (1 : Int)))))] r17.2)) := by
  generalize hh : run = R
  rw [run_is] at hh
  subst hh
  generalize hh : l6_1 = R
  rw [l6_1_is] at hh
  subst hh
  generalize hh : k6_2 = R
  rw [k6_2_is] at hh
  subst hh
  kernel_rfl

theorem k6_2_r (fuel d : Nat) (n : Nat) (x1 : AVal) (x2 : AVal) (x3 : AVal) (x8 : Bool) (x9 : AVal) (x10 : AVal) (x11 : AVal) (x13 : AVal) (h : AHeap) :
    k6_2 fuel d n .ret [(1, x1), (2, x2), (3, x3), (8, (AVal.bool x8)), (9, x9), (10, x10), (11, x11), (13, x13)] h =
  some (.ret, [(3, x3), (8, (AVal.bool x8)), (9, x9), (10, x10), (11, x11)], h) := by
  generalize hh : k6_2 = R
  rw [k6_2_is] at hh
  subst hh
  kernel_rfl

theorem l6_3_eq (fuel d : Nat) (n : Nat) (x3 : Sl) (x9 : Bool) (x11 : Pt) (x19 : Sl) (x20 : Int) (h : AHeap) :
    l6_3 fuel d (n + 1) [(3, (AVal.slice x3)), (9, (AVal.bool x9)), (11, (AVal.ptr x11)), (19, (AVal.slice x19)), (20, (AVal.int .i64 x20))] h =
  (bif (decide (x20 < ((x19.len : Nat) : Int))) then ((AHeap.addr h 1 x19 x20).bind fun p1 =>
    (AHeap.cell h p1).bind fun u2 =>
    (AVal.bool? u2).bind fun b3 =>
    (Pt.chk x11).bind fun p4 =>
    (Pt.field 0 p4).bind fun p5 =>
    (AHeap.cell h p5).bind fun u6 =>
    (AVal.slice? u6).bind fun s7 =>
    (AHeap.addr h 1 s7 x20).bind fun p8 =>
    (AHeap.cell h p8).bind fun u9 =>
    (AVal.int? .i64 u9).bind fun n10 =>
    (bif (!(b3 == (decide (n10 = (1 : Int))))) then (some (.ret, [(3, (AVal.slice x3)), (8, (AVal.bool false)), (9, (AVal.bool x9)), (19, (AVal.slice x19))], h)) else (l6_3 fuel d n [(3, (AVal.slice x3)), (9, (AVal.bool x9)), (11, (AVal.ptr x11)), (19, (AVal.slice x19)), (20, (AVal.int .i64 (IntKind.wrap .i64 (x20 + (1 : Int)))))] h))) else (some ((.exit 6), [(3, (AVal.slice x3)), (8, AVal.bot), (9, (AVal.bool x9)), (19, (AVal.slice x19))], h))) := by
  generalize hh : l6_3 = R
  rw [l6_3_is] at hh
  subst hh
  kernel_rfl

theorem l6_3_0 (fuel d : Nat) (fr : Fr) (h : AHeap) :
    l6_3 fuel d 0 fr h =
  none := by
  generalize hh : l6_3 = R
  rw [l6_3_is] at hh
  subst hh
  kernel_rfl

theorem k6_3_x6 (fuel d : Nat) (x3 : Sl) (x8 : AVal) (x9 : Bool) (x19 : Sl) (h : AHeap) :
    k6_3 fuel d (.exit 6) [(3, (AVal.slice x3)), (8, x8), (9, (AVal.bool x9)), (19, (AVal.slice x19))] h =
  ((bif (x9 == true) then ((run fuel d 21 [(AVal.slice x3), (AVal.slice x19)] h).bind fun r1 =>
    (AVal.bool? r1.1).bind fun b2 =>
    (run fuel d 35 [(AVal.slice x3), (AVal.slice x19)] r1.2).bind fun r3 =>
    (AVal.bool? r3.1).bind fun b4 =>
    some ((AVal.bool (b2 == b4)), r3.2)) else (some ((AVal.bool false), h)) : Option (AVal × AHeap))).bind fun r5 =>
    (AVal.bool? r5.1).bind fun b6 =>
    some ((AVal.bool b6), r5.2) := by
  generalize hh : run = R
  rw [run_is] at hh
  subst hh
  generalize hh : k6_3 = R
  rw [k6_3_is] at hh
  subst hh
  kernel_rfl

theorem k6_3_r (fuel d : Nat) (x3 : AVal) (x8 : Bool) (x9 : AVal) (x19 : AVal) (h : AHeap) :
    k6_3 fuel d .ret [(3, x3), (8, (AVal.bool x8)), (9, x9), (19, x19)] h =
  some ((AVal.bool x8), h) := by
  generalize hh : k6_3 = R
  rw [k6_3_is] at hh
  subst hh
  kernel_rfl

/-! 7: skolem/skolemlaw3.WordPlaces -/

noncomputable def s7_0 (fuel d : Nat) : Run := fun fr h k => aexec (C fuel) false (acall (C fuel) false d) (acall (C fuel) true d) 172 (csub [true, true, true, true, true, true, true, false, true, false, false] (fbody Go.Proofs.Try.f7)) (asub [true, true, true, true, true, true, true, false, true, false, false] an7) fr h k

noncomputable def l7_0r (fuel d : Nat) (n : Nat) (fr : Fr) (h : AHeap) : Option (AExit × Fr × AHeap) := aloop (s7_0 fuel d) (some [0, 3, 4, 5, 6, 7]) n fr h (kOut [0, 2, 3, 6])

noncomputable def l7_0 : Nat → Nat → Nat → Fr → AHeap → Option (AExit × Fr × AHeap) := hide l7_0r

theorem l7_0_is : l7_0 = l7_0r := hide_eq _

noncomputable def k7_0r (fuel d : Nat) : AExit → Fr → AHeap → Option (AVal × AHeap) := (kBlock 0 (kSeq (C fuel) false (acall (C fuel) false d) (acall (C fuel) true d) 172 (csub [true, true, true, true, true, true, true, true] (fbody Go.Proofs.Try.f7)) (asub [true, true, true, true, true, true, true, true] an7) (kRet Go.Proofs.Try.f7.results.toList)))

noncomputable def k7_0 : Nat → Nat → AExit → Fr → AHeap → Option (AVal × AHeap) := hide k7_0r

theorem k7_0_is : k7_0 = k7_0r := hide_eq _

noncomputable def k7_1r (fuel d : Nat) (n : Nat) : AExit → Fr → AHeap → Option (AExit × Fr × AHeap) := (kSeq (C fuel) false (acall (C fuel) false d) (acall (C fuel) true d) 172 (csub [true, true, true, true, true, true, true, false, true, false, false, true, false, false, true, false, true] (fbody Go.Proofs.Try.f7)) (asub [true, true, true, true, true, true, true, false, true, false, false, true, false, false, true, false, true] an7) (kSeq (C fuel) false (acall (C fuel) false d) (acall (C fuel) true d) 172 (csub [true, true, true, true, true, true, true, false, true, false, false, true, false, false, true, true] (fbody Go.Proofs.Try.f7)) (asub [true, true, true, true, true, true, true, false, true, false, false, true, false, false, true, true] an7) (kBlock 1 (kSeq (C fuel) false (acall (C fuel) false d) (acall (C fuel) true d) 172 (csub [true, true, true, true, true, true, true, false, true, false, false, true, true] (fbody Go.Proofs.Try.f7)) (asub [true, true, true, true, true, true, true, false, true, false, false, true, true] an7) (kLoop (s7_0 fuel d) (some [0, 3, 4, 5, 6, 7]) n (kOut [0, 2, 3, 6]))))))

noncomputable def k7_1 : Nat → Nat → Nat → AExit → Fr → AHeap → Option (AExit × Fr × AHeap) := hide k7_1r

theorem k7_1_is : k7_1 = k7_1r := hide_eq _

noncomputable def s7_1 (fuel d : Nat) : Run := fun fr h k => aexec (C fuel) false (acall (C fuel) false d) (acall (C fuel) true d) 172 (csub [true, true, true, true, true, true, true, true, false, true, false, false] (fbody Go.Proofs.Try.f7)) (asub [true, true, true, true, true, true, true, true, false, true, false, false] an7) fr h k

noncomputable def l7_1r (fuel d : Nat) (n : Nat) (fr : Fr) (h : AHeap) : Option (AExit × Fr × AHeap) := aloop (s7_1 fuel d) (some [0, 3, 6, 11]) n fr h (kOut [3, 6])

noncomputable def l7_1 : Nat → Nat → Nat → Fr → AHeap → Option (AExit × Fr × AHeap) := hide l7_1r

theorem l7_1_is : l7_1 = l7_1r := hide_eq _

noncomputable def k7_2r (fuel d : Nat) : AExit → Fr → AHeap → Option (AVal × AHeap) := (kBlock 4 (kSeq (C fuel) false (acall (C fuel) false d) (acall (C fuel) true d) 172 (csub [true, true, true, true, true, true, true, true, true] (fbody Go.Proofs.Try.f7)) (asub [true, true, true, true, true, true, true, true, true] an7) (kRet Go.Proofs.Try.f7.results.toList)))

noncomputable def k7_2 : Nat → Nat → AExit → Fr → AHeap → Option (AVal × AHeap) := hide k7_2r

theorem k7_2_is : k7_2 = k7_2r := hide_eq _

noncomputable def s7_2 (fuel d : Nat) : Run := fun fr h k => aexec (C fuel) false (acall (C fuel) false d) (acall (C fuel) true d) 172 (csub [true, true, true, true, true, true, true, false, true, false, false, true, false, false, true, true, true, false, true, false, false] (fbody Go.Proofs.Try.f7)) (asub [true, true, true, true, true, true, true, false, true, false, false, true, false, false, true, true, true, false, true, false, false] an7) fr h k

noncomputable def l7_2r (fuel d : Nat) (n : Nat) (fr : Fr) (h : AHeap) : Option (AExit × Fr × AHeap) := aloop (s7_2 fuel d) (some [0, 3, 4, 6, 7, 8, 9, 10]) n fr h (kOut [0, 2, 3, 4, 6, 7, 8, 9])

noncomputable def l7_2 : Nat → Nat → Nat → Fr → AHeap → Option (AExit × Fr × AHeap) := hide l7_2r

theorem l7_2_is : l7_2 = l7_2r := hide_eq _

noncomputable def k7_3r (fuel d : Nat) (n : Nat) : AExit → Fr → AHeap → Option (AExit × Fr × AHeap) := (kBlock 2 (kSeq (C fuel) false (acall (C fuel) false d) (acall (C fuel) true d) 172 (csub [true, true, true, true, true, true, true, false, true, false, false, true, false, false, true, true, true, true] (fbody Go.Proofs.Try.f7)) (asub [true, true, true, true, true, true, true, false, true, false, false, true, false, false, true, true, true, true] an7) (kBlock 1 (kSeq (C fuel) false (acall (C fuel) false d) (acall (C fuel) true d) 172 (csub [true, true, true, true, true, true, true, false, true, false, false, true, true] (fbody Go.Proofs.Try.f7)) (asub [true, true, true, true, true, true, true, false, true, false, false, true, true] an7) (kLoop (s7_0 fuel d) (some [0, 3, 4, 5, 6, 7]) n (kOut [0, 2, 3, 6]))))))

noncomputable def k7_3 : Nat → Nat → Nat → AExit → Fr → AHeap → Option (AExit × Fr × AHeap) := hide k7_3r

theorem k7_3_is : k7_3 = k7_3r := hide_eq _

theorem e7 (fuel d : Nat) (x0 : Sl) (h : AHeap) :
    run fuel (d + 1) 7 [(AVal.slice x0)] h =
  (run fuel d 36 [] h).bind fun r1 =>
    (AVal.bool? r1.1).bind fun b2 =>
    (bif (!b2) then (some ((AVal.bool false), r1.2)) else ((bif (decide ((300 : Int) < ((x0.len : Nat) : Int))) then (some ((AVal.bool b2), r1.2)) else ((run fuel d 37 [(AVal.slice x0), (AVal.bool false)] r1.2).bind fun r3 =>
    (AVal.slice? r3.1).bind fun s4 =>
    (l7_0 fuel d fuel [(0, (AVal.slice x0)), (3, (AVal.bool b2)), (4, (AVal.slice s4)), (5, (AVal.int .i64 (0 : Int))), (6, (AVal.int .i64 (0 : Int))), (7, (AVal.int .i64 (0 : Int)))] r3.2).bind fun p5 =>
    k7_0 fuel d p5.1 p5.2.1 p5.2.2)))) := by
  generalize hh : run = R
  rw [run_is] at hh
  subst hh
  generalize hh : l7_0 = R
  rw [l7_0_is] at hh
  subst hh
  generalize hh : k7_0 = R
  rw [k7_0_is] at hh
  subst hh
  kernel_rfl

theorem l7_0_eq (fuel d : Nat) (n : Nat) (x0 : Sl) (x3 : Bool) (x4 : Sl) (x5 : Int) (x6 : Int) (x7 : Int) (h : AHeap) :
    l7_0 fuel d (n + 1) [(0, (AVal.slice x0)), (3, (AVal.bool x3)), (4, (AVal.slice x4)), (5, (AVal.int .i64 x5)), (6, (AVal.int .i64 x6)), (7, (AVal.int .i64 x7))] h =
  (bif (decide (x7 < ((x4.len : Nat) : Int))) then ((AHeap.addr h 3 x4 x7).bind fun p1 =>
    (AHeap.cellsAt h 3 p1).bind fun c2 =>
    (bif (!false && Nat.beq (List.length c2) 3 && List.all c2 AVal.isCell) then ((AHeap.storeAt (AHeap.push h 1 [(AVal.str (⟨#[]⟩ : ByteArray)), (AVal.int .i64 (0 : Int)), (AVal.bool false)]) c2 (Pt.mk ⟨AHeap.next h, 0, 0⟩ 3)).bind fun h3 =>
    ((Pt.field 0 (Pt.mk ⟨AHeap.next h, 0, 0⟩ 3)).bind fun p4 =>
    (AHeap.cell h3 p4).bind fun u5 =>
    (AVal.str? u5).bind fun s6 =>
    (bif (decide (((ByteArray.size s6 : Nat) : Int) = (0 : Int))) then (some (.normal, [(0, (AVal.slice x0)), (3, (AVal.bool x3)), (4, (AVal.slice x4)), (5, (AVal.int .i64 x5)), (6, (AVal.int .i64 x6)), (7, (AVal.int .i64 x7)), (8, (AVal.ptr (Pt.mk ⟨AHeap.next h, 0, 0⟩ 3))), (74, (AVal.bool true))], h3)) else ((Pt.field 1 (Pt.mk ⟨AHeap.next h, 0, 0⟩ 3)).bind fun p7 =>
    (AHeap.cell h3 p7).bind fun u8 =>
    (AVal.int? .i64 u8).bind fun n9 =>
    (bif (decide (n9 < x5)) then (some (.normal, [(0, (AVal.slice x0)), (3, (AVal.bool x3)), (4, (AVal.slice x4)), (5, (AVal.int .i64 x5)), (6, (AVal.int .i64 x6)), (7, (AVal.int .i64 x7)), (8, (AVal.ptr (Pt.mk ⟨AHeap.next h, 0, 0⟩ 3))), (74, (AVal.bool true))], h3)) else ((Pt.field 1 (Pt.mk ⟨AHeap.next h, 0, 0⟩ 3)).bind fun p10 =>
    (AHeap.cell h3 p10).bind fun u11 =>
    (AVal.int? .i64 u11).bind fun n12 =>
    (bif (decide (((x0.len : Nat) : Int) < n12)) then (some (.normal, [(0, (AVal.slice x0)), (3, (AVal.bool x3)), (4, (AVal.slice x4)), (5, (AVal.int .i64 x5)), (6, (AVal.int .i64 x6)), (7, (AVal.int .i64 x7)), (8, (AVal.ptr (Pt.mk ⟨AHeap.next h, 0, 0⟩ 3))), (74, (AVal.bool true))], h3)) else ((Pt.field 0 (Pt.mk ⟨AHeap.next h, 0, 0⟩ 3)).bind fun p13 =>
    (AHeap.cell h3 p13).bind fun u14 =>
    (AVal.str? u14).bind fun s15 =>
    (Pt.field 1 (Pt.mk ⟨AHeap.next h, 0, 0⟩ 3)).bind fun p16 =>
    (AHeap.cell h3 p16).bind fun u17 =>
    (AVal.int? .i64 u17).bind fun n18 =>
    (bif (decide ((IntKind.wrap .i64 (((x0.len : Nat) : Int) - n18)) < ((ByteArray.size s15 : Nat) : Int))) then (some (.normal, [(0, (AVal.slice x0)), (3, (AVal.bool x3)), (4, (AVal.slice x4)), (5, (AVal.int .i64 x5)), (6, (AVal.int .i64 x6)), (7, (AVal.int .i64 x7)), (8, (AVal.ptr (Pt.mk ⟨AHeap.next h, 0, 0⟩ 3))), (74, (AVal.bool true))], h3)) else ((Pt.field 1 (Pt.mk ⟨AHeap.next h, 0, 0⟩ 3)).bind fun p19 =>
    (AHeap.cell h3 p19).bind fun u20 =>
    (AVal.int? .i64 u20).bind fun n21 =>
    (Pt.field 1 (Pt.mk ⟨AHeap.next h, 0, 0⟩ 3)).bind fun p22 =>
    (AHeap.cell h3 p22).bind fun u23 =>
    (AVal.int? .i64 u23).bind fun n24 =>
    (Pt.field 0 (Pt.mk ⟨AHeap.next h, 0, 0⟩ 3)).bind fun p25 =>
    (AHeap.cell h3 p25).bind fun u26 =>
    (AVal.str? u26).bind fun s27 =>
    (aHi (some (AVal.int .i64 (IntKind.wrap .i64 (n24 + ((ByteArray.size s27 : Nat) : Int))))) (Sl.len x0)).bind fun hi28 =>
    (aLo (some (AVal.int .i64 n21)) hi28).bind fun lo29 =>
    (aMx (none : Option AVal) hi28).bind fun cl30 =>
    (bif (AHeap.hasSz h3 1 x0) then ((AHeap.sliceCells h3 1 (Sl.cut x0 1 lo29 hi28 cl30)).bind fun c31 =>
    (bytesFrom c31).bind fun bs32 =>
    (Pt.field 0 (Pt.mk ⟨AHeap.next h, 0, 0⟩ 3)).bind fun p33 =>
    (AHeap.cell h3 p33).bind fun u34 =>
    (AVal.str? u34).bind fun s35 =>
    some (.normal, [(0, (AVal.slice x0)), (3, (AVal.bool x3)), (4, (AVal.slice x4)), (5, (AVal.int .i64 x5)), (6, (AVal.int .i64 x6)), (7, (AVal.int .i64 x7)), (8, (AVal.ptr (Pt.mk ⟨AHeap.next h, 0, 0⟩ 3))), (74, (AVal.bool (!decide ((⟨List.toArray bs32⟩ : ByteArray) = s35))))], h3)) else (none))))))))))).bind fun p36 =>
    k7_1 fuel d n p36.1 p36.2.1 p36.2.2) else (none))) else (some ((.exit 0), [(0, (AVal.slice x0)), (2, AVal.bot), (3, (AVal.bool x3)), (6, (AVal.int .i64 x6))], h))) := by
  generalize hh : l7_0 = R
  rw [l7_0_is] at hh
  subst hh
  generalize hh : k7_1 = R
  rw [k7_1_is] at hh
  subst hh
  kernel_rfl

theorem l7_0_0 (fuel d : Nat) (fr : Fr) (h : AHeap) :
    l7_0 fuel d 0 fr h =
  none := by
  generalize hh : l7_0 = R
  rw [l7_0_is] at hh
  subst hh
  kernel_rfl

theorem k7_0_x0 (fuel d : Nat) (x0 : Sl) (x2 : AVal) (x3 : Bool) (x6 : Int) (h : AHeap) :
    k7_0 fuel d (.exit 0) [(0, (AVal.slice x0)), (2, x2), (3, (AVal.bool x3)), (6, (AVal.int .i64 x6))] h =
  (l7_1 fuel d fuel [(0, (AVal.slice x0)), (3, (AVal.bool x3)), (6, (AVal.int .i64 x6)), (11, (AVal.int .i64 (0 : Int)))] h).bind fun p1 =>
    k7_2 fuel d p1.1 p1.2.1 p1.2.2 := by
  generalize hh : k7_0 = R
  rw [k7_0_is] at hh
  subst hh
  generalize hh : l7_1 = R
  rw [l7_1_is] at hh
  subst hh
  generalize hh : k7_2 = R
  rw [k7_2_is] at hh
  subst hh
  kernel_rfl

theorem k7_0_r (fuel d : Nat) (x0 : AVal) (x2 : Bool) (x3 : AVal) (x6 : AVal) (h : AHeap) :
    k7_0 fuel d .ret [(0, x0), (2, (AVal.bool x2)), (3, x3), (6, x6)] h =
  some ((AVal.bool x2), h) := by
  generalize hh : k7_0 = R
  rw [k7_0_is] at hh
  subst hh
  kernel_rfl

theorem k7_1_n (fuel d : Nat) (n : Nat) (x0 : Sl) (x3 : Bool) (x4 : Sl) (x5 : Int) (x6 : Int) (x7 : Int) (x8 : Pt) (x74 : Bool) (h : AHeap) :
    k7_1 fuel d n .normal [(0, (AVal.slice x0)), (3, (AVal.bool x3)), (4, (AVal.slice x4)), (5, (AVal.int .i64 x5)), (6, (AVal.int .i64 x6)), (7, (AVal.int .i64 x7)), (8, (AVal.ptr x8)), (74, (AVal.bool x74))] h =
  (bif x74 then (some (.ret, [(0, (AVal.slice x0)), (2, (AVal.bool false)), (3, (AVal.bool x3)), (6, (AVal.int .i64 x6))], h)) else ((l7_2 fuel d fuel [(0, (AVal.slice x0)), (3, (AVal.bool x3)), (4, (AVal.slice x4)), (6, (AVal.int .i64 x6)), (7, (AVal.int .i64 x7)), (8, (AVal.ptr x8)), (9, (AVal.bool (decide (x7 = (0 : Int))))), (10, (AVal.int .i64 x5))] h).bind fun p1 =>
    k7_3 fuel d n p1.1 p1.2.1 p1.2.2)) := by
  generalize hh : k7_1 = R
  rw [k7_1_is] at hh
  subst hh
  generalize hh : l7_2 = R
  rw [l7_2_is] at hh
  subst hh
  generalize hh : k7_3 = R
  rw [k7_3_is] at hh
  subst hh
  kernel_rfl

theorem l7_1_eq (fuel d : Nat) (n : Nat) (x0 : Sl) (x3 : Bool) (x6 : Int) (x11 : Int) (h : AHeap) :
    l7_1 fuel d (n + 1) [(0, (AVal.slice x0)), (3, (AVal.bool x3)), (6, (AVal.int .i64 x6)), (11, (AVal.int .i64 x11))] h =
  (bif (decide (x11 < ((x0.len : Nat) : Int))) then ((AHeap.addr h 1 x0 x11).bind fun p1 =>
    (AHeap.cell h p1).bind fun u2 =>
    (AVal.int? .u8 u2).bind fun n3 =>
    ((bif ((!decide (n3 = (32 : Int))) == true) then ((AHeap.addr h 1 x0 x11).bind fun p4 =>
    (AHeap.cell h p4).bind fun u5 =>
    (AVal.int? .u8 u5).bind fun n6 =>
    some ((AVal.bool (!decide (n6 = (9 : Int)))), h)) else (some ((AVal.bool false), h)) : Option (AVal × AHeap))).bind fun r7 =>
    (AVal.bool? r7.1).bind fun b8 =>
    ((bif (b8 == true) then ((AHeap.addr r7.2 1 x0 x11).bind fun p9 =>
    (AHeap.cell r7.2 p9).bind fun u10 =>
    (AVal.int? .u8 u10).bind fun n11 =>
    some ((AVal.bool (!decide (n11 = (13 : Int)))), r7.2)) else (some ((AVal.bool false), r7.2)) : Option (AVal × AHeap))).bind fun r12 =>
    (AVal.bool? r12.1).bind fun b13 =>
    ((bif (b13 == true) then ((AHeap.addr r12.2 1 x0 x11).bind fun p14 =>
    (AHeap.cell r12.2 p14).bind fun u15 =>
    (AVal.int? .u8 u15).bind fun n16 =>
    some ((AVal.bool (!decide (n16 = (10 : Int)))), r12.2)) else (some ((AVal.bool false), r12.2)) : Option (AVal × AHeap))).bind fun r17 =>
    (AVal.bool? r17.1).bind fun b18 =>
    (bif b18 then (l7_1 fuel d n [(0, (AVal.slice x0)), (3, (AVal.bool x3)), (6, (AVal.int .i64 (IntKind.wrap .i64 (x6 - (1 : Int))))), (11, (AVal.int .i64 (IntKind.wrap .i64 (x11 + (1 : Int)))))] r17.2) else (l7_1 fuel d n [(0, (AVal.slice x0)), (3, (AVal.bool x3)), (6, (AVal.int .i64 x6)), (11, (AVal.int .i64 (IntKind.wrap .i64 (x11 + (1 : Int)))))] r17.2))) else (some ((.exit 4), [(3, (AVal.bool x3)), (6, (AVal.int .i64 x6))], h))) := by
  generalize hh : l7_1 = R
  rw [l7_1_is] at hh
  subst hh
  kernel_rfl

theorem l7_1_0 (fuel d : Nat) (fr : Fr) (h : AHeap) :
    l7_1 fuel d 0 fr h =
  none := by
  generalize hh : l7_1 = R
  rw [l7_1_is] at hh
  subst hh
  kernel_rfl

theorem k7_2_x4 (fuel d : Nat) (x3 : Bool) (x6 : Int) (h : AHeap) :
    k7_2 fuel d (.exit 4) [(3, (AVal.bool x3)), (6, (AVal.int .i64 x6))] h =
  some ((AVal.bool (bif x3 then (decide (x6 = (0 : Int))) else false)), h) := by
  generalize hh : k7_2 = R
  rw [k7_2_is] at hh
  subst hh
  kernel_rfl

theorem l7_2_eq (fuel d : Nat) (n : Nat) (x0 : Sl) (x3 : Bool) (x4 : Sl) (x6 : Int) (x7 : Int) (x8 : Pt) (x9 : Bool) (x10 : Int) (h : AHeap) :
    l7_2 fuel d (n + 1) [(0, (AVal.slice x0)), (3, (AVal.bool x3)), (4, (AVal.slice x4)), (6, (AVal.int .i64 x6)), (7, (AVal.int .i64 x7)), (8, (AVal.ptr x8)), (9, (AVal.bool x9)), (10, (AVal.int .i64 x10))] h =
  (Pt.field 1 x8).bind fun p1 =>
    (AHeap.cell h p1).bind fun u2 =>
    (AVal.int? .i64 u2).bind fun n3 =>
    (bif (decide (x10 < n3)) then ((AHeap.addr h 1 x0 x10).bind fun p4 =>
    (AHeap.cell h p4).bind fun u5 =>
    (AVal.int? .u8 u5).bind fun n6 =>
    ((bif ((!decide (n6 = (32 : Int))) == true) then ((AHeap.addr h 1 x0 x10).bind fun p7 =>
    (AHeap.cell h p7).bind fun u8 =>
    (AVal.int? .u8 u8).bind fun n9 =>
    some ((AVal.bool (!decide (n9 = (9 : Int)))), h)) else (some ((AVal.bool false), h)) : Option (AVal × AHeap))).bind fun r10 =>
    (AVal.bool? r10.1).bind fun b11 =>
    ((bif (b11 == true) then ((AHeap.addr r10.2 1 x0 x10).bind fun p12 =>
    (AHeap.cell r10.2 p12).bind fun u13 =>
    (AVal.int? .u8 u13).bind fun n14 =>
    some ((AVal.bool (!decide (n14 = (13 : Int)))), r10.2)) else (some ((AVal.bool false), r10.2)) : Option (AVal × AHeap))).bind fun r15 =>
    (AVal.bool? r15.1).bind fun b16 =>
    ((bif (b16 == true) then ((AHeap.addr r15.2 1 x0 x10).bind fun p17 =>
    (AHeap.cell r15.2 p17).bind fun u18 =>
    (AVal.int? .u8 u18).bind fun n19 =>
    some ((AVal.bool (!decide (n19 = (10 : Int)))), r15.2)) else (some ((AVal.bool false), r15.2)) : Option (AVal × AHeap))).bind fun r20 =>
    (AVal.bool? r20.1).bind fun b21 =>
    (bif b21 then (some (.ret, [(0, (AVal.slice x0)), (2, (AVal.bool false)), (3, (AVal.bool x3)), (4, (AVal.slice x4)), (6, (AVal.int .i64 x6)), (7, (AVal.int .i64 x7)), (8, (AVal.ptr x8)), (9, (AVal.bool x9))], r20.2)) else (((bif (x9 == false) then ((AHeap.addr r20.2 1 x0 x10).bind fun p22 =>
    (AHeap.cell r20.2 p22).bind fun u23 =>
    (AVal.int? .u8 u23).bind fun n24 =>
    some ((AVal.bool (decide (n24 = (10 : Int)))), r20.2)) else (some ((AVal.bool true), r20.2)) : Option (AVal × AHeap))).bind fun r25 =>
    (AVal.bool? r25.1).bind fun b26 =>
    l7_2 fuel d n [(0, (AVal.slice x0)), (3, (AVal.bool x3)), (4, (AVal.slice x4)), (6, (AVal.int .i64 x6)), (7, (AVal.int .i64 x7)), (8, (AVal.ptr x8)), (9, (AVal.bool b26)), (10, (AVal.int .i64 (IntKind.wrap .i64 (x10 + (1 : Int)))))] r25.2))) else (some ((.exit 2), [(0, (AVal.slice x0)), (2, AVal.bot), (3, (AVal.bool x3)), (4, (AVal.slice x4)), (6, (AVal.int .i64 x6)), (7, (AVal.int .i64 x7)), (8, (AVal.ptr x8)), (9, (AVal.bool x9))], h))) := by
  generalize hh : l7_2 = R
  rw [l7_2_is] at hh
  subst hh
  kernel_rfl

theorem l7_2_0 (fuel d : Nat) (fr : Fr) (h : AHeap) :
    l7_2 fuel d 0 fr h =
  none := by
  generalize hh : l7_2 = R
  rw [l7_2_is] at hh
  subst hh
  kernel_rfl

theorem k7_3_x2 (fuel d : Nat) (n : Nat) (x0 : Sl) (x2 : AVal) (x3 : Bool) (x4 : Sl) (x6 : Int) (x7 : Int) (x8 : Pt) (x9 : Bool) (h : AHeap) :
    k7_3 fuel d n (.exit 2) [(0, (AVal.slice x0)), (2, x2), (3, (AVal.bool x3)), (4, (AVal.slice x4)), (6, (AVal.int .i64 x6)), (7, (AVal.int .i64 x7)), (8, (AVal.ptr x8)), (9, (AVal.bool x9))] h =
  (Pt.field 2 x8).bind fun p1 =>
    (AHeap.cell h p1).bind fun u2 =>
    (AVal.bool? u2).bind fun b3 =>
    (bif (!(b3 == x9)) then (some (.ret, [(0, (AVal.slice x0)), (2, (AVal.bool false)), (3, (AVal.bool x3)), (6, (AVal.int .i64 x6))], h)) else ((Pt.field 1 x8).bind fun p4 =>
    (AHeap.cell h p4).bind fun u5 =>
    (AVal.int? .i64 u5).bind fun n6 =>
    (Pt.field 0 x8).bind fun p7 =>
    (AHeap.cell h p7).bind fun u8 =>
    (AVal.str? u8).bind fun s9 =>
    (Pt.field 0 x8).bind fun p10 =>
    (AHeap.cell h p10).bind fun u11 =>
    (AVal.str? u11).bind fun s12 =>
    l7_0 fuel d n [(0, (AVal.slice x0)), (3, (AVal.bool x3)), (4, (AVal.slice x4)), (5, (AVal.int .i64 (IntKind.wrap .i64 (n6 + ((ByteArray.size s9 : Nat) : Int))))), (6, (AVal.int .i64 (IntKind.wrap .i64 (x6 + ((ByteArray.size s12 : Nat) : Int))))), (7, (AVal.int .i64 (IntKind.wrap .i64 (x7 + (1 : Int)))))] h)) := by
  generalize hh : l7_0 = R
  rw [l7_0_is] at hh
  subst hh
  generalize hh : k7_3 = R
  rw [k7_3_is] at hh
  subst hh
  kernel_rfl

theorem k7_3_r (fuel d : Nat) (n : Nat) (x0 : AVal) (x2 : Bool) (x3 : AVal) (x4 : AVal) (x6 : AVal) (x7 : AVal) (x8 : AVal) (x9 : AVal) (h : AHeap) :
    k7_3 fuel d n .ret [(0, x0), (2, (AVal.bool x2)), (3, x3), (4, x4), (6, x6), (7, x7), (8, x8), (9, x9)] h =
  some (.ret, [(0, x0), (2, (AVal.bool x2)), (3, x3), (6, x6)], h) := by
  generalize hh : k7_3 = R
  rw [k7_3_is] at hh
  subst hh
  kernel_rfl

/-! 8: skolem/skolemlaw3.WordLines -/

noncomputable def s8_0 (fuel d : Nat) : Run := fun fr h k => aexec (C fuel) false (acall (C fuel) false d) (acall (C fuel) true d) 79 (csub [true, true, true, true, true, true, false, true, false, false] (fbody Go.Proofs.Try.f8)) (asub [true, true, true, true, true, true, false, true, false, false] an8) fr h k

noncomputable def l8_0r (fuel d : Nat) (n : Nat) (fr : Fr) (h : AHeap) : Option (AExit × Fr × AHeap) := aloop (s8_0 fuel d) (some [0, 3, 4, 5, 6]) n fr h (kOut [0, 2, 3, 4, 5])

noncomputable def l8_0 : Nat → Nat → Nat → Fr → AHeap → Option (AExit × Fr × AHeap) := hide l8_0r

theorem l8_0_is : l8_0 = l8_0r := hide_eq _

noncomputable def k8_0r (fuel d : Nat) : AExit → Fr → AHeap → Option (AVal × AHeap) := (kBlock 0 (kSeq (C fuel) false (acall (C fuel) false d) (acall (C fuel) true d) 79 (csub [true, true, true, true, true, true, true] (fbody Go.Proofs.Try.f8)) (asub [true, true, true, true, true, true, true] an8) (kRet Go.Proofs.Try.f8.results.toList)))

noncomputable def k8_0 : Nat → Nat → AExit → Fr → AHeap → Option (AVal × AHeap) := hide k8_0r

theorem k8_0_is : k8_0 = k8_0r := hide_eq _

noncomputable def s8_1 (fuel d : Nat) : Run := fun fr h k => aexec (C fuel) false (acall (C fuel) false d) (acall (C fuel) true d) 79 (csub [true, true, true, true, true, true, true, false, true, false, false] (fbody Go.Proofs.Try.f8)) (asub [true, true, true, true, true, true, true, false, true, false, false] an8) fr h k

noncomputable def l8_1r (fuel d : Nat) (n : Nat) (fr : Fr) (h : AHeap) : Option (AExit × Fr × AHeap) := aloop (s8_1 fuel d) (some [0, 3, 4, 5, 10]) n fr h (kOut [0, 2, 3, 4, 5])

noncomputable def l8_1 : Nat → Nat → Nat → Fr → AHeap → Option (AExit × Fr × AHeap) := hide l8_1r

theorem l8_1_is : l8_1 = l8_1r := hide_eq _

noncomputable def k8_1r (fuel d : Nat) : AExit → Fr → AHeap → Option (AVal × AHeap) := (kBlock 2 (kSeq (C fuel) false (acall (C fuel) false d) (acall (C fuel) true d) 79 (csub [true, true, true, true, true, true, true, true] (fbody Go.Proofs.Try.f8)) (asub [true, true, true, true, true, true, true, true] an8) (kRet Go.Proofs.Try.f8.results.toList)))

noncomputable def k8_1 : Nat → Nat → AExit → Fr → AHeap → Option (AVal × AHeap) := hide k8_1r

theorem k8_1_is : k8_1 = k8_1r := hide_eq _

theorem e8 (fuel d : Nat) (x0 : Sl) (h : AHeap) :
    run fuel (d + 1) 8 [(AVal.slice x0)] h =
  (run fuel d 36 [] h).bind fun r1 =>
    (AVal.bool? r1.1).bind fun b2 =>
    (bif (!b2) then (some ((AVal.bool false), r1.2)) else ((bif (decide ((200 : Int) < ((x0.len : Nat) : Int))) then (some ((AVal.bool b2), r1.2)) else ((l8_0 fuel d fuel [(0, (AVal.slice x0)), (3, (AVal.bool b2)), (4, (AVal.int .i64 (0 : Int))), (5, (AVal.slice Sl.nil)), (6, (AVal.int .i64 (0 : Int)))] r1.2).bind fun p3 =>
    k8_0 fuel d p3.1 p3.2.1 p3.2.2)))) := by
  generalize hh : run = R
  rw [run_is] at hh
  subst hh
  generalize hh : l8_0 = R
  rw [l8_0_is] at hh
  subst hh
  generalize hh : k8_0 = R
  rw [k8_0_is] at hh
  subst hh
  kernel_rfl

theorem l8_0_eq (fuel d : Nat) (n : Nat) (x0 : Sl) (x3 : Bool) (x4 : Int) (x5 : Sl) (x6 : Int) (h : AHeap) :
    l8_0 fuel d (n + 1) [(0, (AVal.slice x0)), (3, (AVal.bool x3)), (4, (AVal.int .i64 x4)), (5, (AVal.slice x5)), (6, (AVal.int .i64 x6))] h =
  (bif (decide (x6 ≤ (200 : Int))) then ((run fuel d 38 [(AVal.slice x0), (AVal.int .i64 x4)] h).bind fun r1 =>
    (bif AVal.isTup 3 r1.1 then ((AVal.comp 0 r1.1).bind fun u2 =>
    (AVal.str? u2).bind fun s3 =>
    (AVal.comp 1 r1.1).bind fun u4 =>
    (AVal.int? .i64 u4).bind fun n5 =>
    (AVal.comp 2 r1.1).bind fun u6 =>
    (AVal.bool? u6).bind fun b7 =>
    (bif (!b7) then (some ((.exit 0), [(0, (AVal.slice x0)), (2, AVal.bot), (3, (AVal.bool x3)), (4, (AVal.int .i64 x4)), (5, (AVal.slice x5))], r1.2)) else ((bif (bif (decide (n5 ≤ x4)) then true else (decide (((x0.len : Nat) : Int) < n5))) then (some (.ret, [(0, (AVal.slice x0)), (2, (AVal.bool false)), (3, (AVal.bool x3)), (4, (AVal.int .i64 x4)), (5, (AVal.slice x5))], r1.2)) else ((AHeap.append r1.2 false 1 1 x5 (ByteArray.size s3) (bytesOf s3)).bind fun a8 =>
    (AHeap.sliceCells (AHeap.push a8.2 1 [(AVal.int .u8 (10 : Int))]) 1 (Sl.mk ⟨AHeap.next a8.2, 0, 0⟩ 1 true)).bind fun xs9 =>
    (AHeap.append (AHeap.push a8.2 1 [(AVal.int .u8 (10 : Int))]) false 1 1 a8.1 (Sl.mk ⟨AHeap.next a8.2, 0, 0⟩ 1 true).len xs9).bind fun a10 =>
    l8_0 fuel d n [(0, (AVal.slice x0)), (3, (AVal.bool x3)), (4, (AVal.int .i64 n5)), (5, (AVal.slice a10.1)), (6, (AVal.int .i64 (IntKind.wrap .i64 (x6 + (1 : Int)))))] a10.2))))) else none)) else (some ((.exit 0), [(0, (AVal.slice x0)), (2, AVal.bot), (3, (AVal.bool x3)), (4, (AVal.int .i64 x4)), (5, (AVal.slice x5))], h))) := by
  generalize hh : run = R
  rw [run_is] at hh
  subst hh
  generalize hh : l8_0 = R
  rw [l8_0_is] at hh
  subst hh
  kernel_rfl

theorem l8_0_0 (fuel d : Nat) (fr : Fr) (h : AHeap) :
    l8_0 fuel d 0 fr h =
  none := by
  generalize hh : l8_0 = R
  rw [l8_0_is] at hh
  subst hh
  kernel_rfl

theorem k8_0_x0 (fuel d : Nat) (x0 : Sl) (x2 : AVal) (x3 : Bool) (x4 : Int) (x5 : Sl) (h : AHeap) :
    k8_0 fuel d (.exit 0) [(0, (AVal.slice x0)), (2, x2), (3, (AVal.bool x3)), (4, (AVal.int .i64 x4)), (5, (AVal.slice x5))] h =
  (l8_1 fuel d fuel [(0, (AVal.slice x0)), (3, (AVal.bool x3)), (4, (AVal.int .i64 x4)), (5, (AVal.slice x5)), (10, (AVal.int .i64 x4))] h).bind fun p1 =>
    k8_1 fuel d p1.1 p1.2.1 p1.2.2 := by
  generalize hh : k8_0 = R
  rw [k8_0_is] at hh
  subst hh
  generalize hh : l8_1 = R
  rw [l8_1_is] at hh
  subst hh
  generalize hh : k8_1 = R
  rw [k8_1_is] at hh
  subst hh
  kernel_rfl

theorem k8_0_r (fuel d : Nat) (x0 : AVal) (x2 : Bool) (x3 : AVal) (x4 : AVal) (x5 : AVal) (h : AHeap) :
    k8_0 fuel d .ret [(0, x0), (2, (AVal.bool x2)), (3, x3), (4, x4), (5, x5)] h =
  some ((AVal.bool x2), h) := by
  generalize hh : k8_0 = R
  rw [k8_0_is] at hh
  subst hh
  kernel_rfl

theorem l8_1_eq (fuel d : Nat) (n : Nat) (x0 : Sl) (x3 : Bool) (x4 : Int) (x5 : Sl) (x10 : Int) (h : AHeap) :
    l8_1 fuel d (n + 1) [(0, (AVal.slice x0)), (3, (AVal.bool x3)), (4, (AVal.int .i64 x4)), (5, (AVal.slice x5)), (10, (AVal.int .i64 x10))] h =
  (bif (decide (x10 < ((x0.len : Nat) : Int))) then ((AHeap.addr h 1 x0 x10).bind fun p1 =>
    (AHeap.cell h p1).bind fun u2 =>
    (AVal.int? .u8 u2).bind fun n3 =>
    (bif (decide (n3 = (10 : Int))) then (some (.ret, [(0, (AVal.slice x0)), (2, (AVal.bool false)), (3, (AVal.bool x3)), (4, (AVal.int .i64 x4)), (5, (AVal.slice x5))], h)) else (l8_1 fuel d n [(0, (AVal.slice x0)), (3, (AVal.bool x3)), (4, (AVal.int .i64 x4)), (5, (AVal.slice x5)), (10, (AVal.int .i64 (IntKind.wrap .i64 (x10 + (1 : Int)))))] h))) else (some ((.exit 2), [(0, (AVal.slice x0)), (2, AVal.bot), (3, (AVal.bool x3)), (4, (AVal.int .i64 x4)), (5, (AVal.slice x5))], h))) := by
  generalize hh : l8_1 = R
  rw [l8_1_is] at hh
  subst hh
  kernel_rfl

theorem l8_1_0 (fuel d : Nat) (fr : Fr) (h : AHeap) :
    l8_1 fuel d 0 fr h =
  none := by
  generalize hh : l8_1 = R
  rw [l8_1_is] at hh
  subst hh
  kernel_rfl

theorem k8_1_x2 (fuel d : Nat) (x0 : Sl) (x2 : AVal) (x3 : Bool) (x4 : Int) (x5 : Sl) (h : AHeap) :
    k8_1 fuel d (.exit 2) [(0, (AVal.slice x0)), (2, x2), (3, (AVal.bool x3)), (4, (AVal.int .i64 x4)), (5, (AVal.slice x5))] h =
  (run fuel d 38 [(AVal.slice x0), (AVal.int .i64 (-1 : Int))] h).bind fun r1 =>
    (bif AVal.isTup 3 r1.1 then ((AVal.comp 0 r1.1).bind fun u2 =>
    (AVal.str? u2).bind fun s3 =>
    (AVal.comp 1 r1.1).bind fun u4 =>
    (AVal.int? .i64 u4).bind fun n5 =>
    (AVal.comp 2 r1.1).bind fun u6 =>
    (AVal.bool? u6).bind fun b7 =>
    ((bif (x3 == true) then ((aHi (some (AVal.int .i64 x4)) (Sl.len x0)).bind fun hi8 =>
    (aLo (none : Option AVal) hi8).bind fun lo9 =>
    (aMx (none : Option AVal) hi8).bind fun cl10 =>
    (bif (AHeap.hasSz r1.2 1 x0) then ((run fuel d 39 [(AVal.slice x5), (AVal.slice (Sl.cut x0 1 lo9 hi8 cl10))] r1.2).bind fun r11 =>
    (AVal.bool? r11.1).bind fun b12 =>
    some ((AVal.bool b12), r11.2)) else (none))) else (some ((AVal.bool false), r1.2)) : Option (AVal × AHeap))).bind fun r13 =>
    (AVal.bool? r13.1).bind fun b14 =>
    some ((AVal.bool (bif b14 then (!b7) else false)), r13.2)) else none) := by
  generalize hh : run = R
  rw [run_is] at hh
  subst hh
  generalize hh : k8_1 = R
  rw [k8_1_is] at hh
  subst hh
  kernel_rfl

theorem k8_1_r (fuel d : Nat) (x0 : AVal) (x2 : Bool) (x3 : AVal) (x4 : AVal) (x5 : AVal) (h : AHeap) :
    k8_1 fuel d .ret [(0, x0), (2, (AVal.bool x2)), (3, x3), (4, x4), (5, x5)] h =
  some ((AVal.bool x2), h) := by
  generalize hh : k8_1 = R
  rw [k8_1_is] at hh
  subst hh
  kernel_rfl

/-! 9: skolem/skolemlaw3.WordBits -/

noncomputable def s9_0 (fuel d : Nat) : Run := fun fr h k => aexec (C fuel) false (acall (C fuel) false d) (acall (C fuel) true d) 95 (csub [true, true, true, true, true, false, true, false, false] (fbody Go.Proofs.Try.f9)) (asub [true, true, true, true, true, false, true, false, false] an9) fr h k

noncomputable def l9_0r (fuel d : Nat) (n : Nat) (fr : Fr) (h : AHeap) : Option (AExit × Fr × AHeap) := aloop (s9_0 fuel d) (some [0, 1, 2, 7, 8, 9]) n fr h (kOut [0, 1, 2, 7, 8])

noncomputable def l9_0 : Nat → Nat → Nat → Fr → AHeap → Option (AExit × Fr × AHeap) := hide l9_0r

theorem l9_0_is : l9_0 = l9_0r := hide_eq _

noncomputable def k9_0r (fuel d : Nat) : AExit → Fr → AHeap → Option (AVal × AHeap) := (kBlock 0 (kSeq (C fuel) false (acall (C fuel) false d) (acall (C fuel) true d) 95 (csub [true, true, true, true, true, true] (fbody Go.Proofs.Try.f9)) (asub [true, true, true, true, true, true] an9) (kRet Go.Proofs.Try.f9.results.toList)))

noncomputable def k9_0 : Nat → Nat → AExit → Fr → AHeap → Option (AVal × AHeap) := hide k9_0r

theorem k9_0_is : k9_0 = k9_0r := hide_eq _

noncomputable def k9_1r (fuel d : Nat) (n : Nat) : AExit → Fr → AHeap → Option (AExit × Fr × AHeap) := (kSeq (C fuel) false (acall (C fuel) false d) (acall (C fuel) true d) 95 (csub [true, true, true, true, true, false, true, false, false, true, false, false, true, true] (fbody Go.Proofs.Try.f9)) (asub [true, true, true, true, true, false, true, false, false, true, false, false, true, true] an9) (kBlock 1 (kSeq (C fuel) false (acall (C fuel) false d) (acall (C fuel) true d) 95 (csub [true, true, true, true, true, false, true, false, false, true, true] (fbody Go.Proofs.Try.f9)) (asub [true, true, true, true, true, false, true, false, false, true, true] an9) (kLoop (s9_0 fuel d) (some [0, 1, 2, 7, 8, 9]) n (kOut [0, 1, 2, 7, 8])))))

noncomputable def k9_1 : Nat → Nat → Nat → AExit → Fr → AHeap → Option (AExit × Fr × AHeap) := hide k9_1r

theorem k9_1_is : k9_1 = k9_1r := hide_eq _

noncomputable def s9_1 (fuel d : Nat) : Run := fun fr h k => aexec (C fuel) false (acall (C fuel) false d) (acall (C fuel) true d) 95 (csub [true, true, true, true, true, true, true, true, false, true, false, false] (fbody Go.Proofs.Try.f9)) (asub [true, true, true, true, true, true, true, true, false, true, false, false] an9) fr h k

noncomputable def l9_1r (fuel d : Nat) (n : Nat) (fr : Fr) (h : AHeap) : Option (AExit × Fr × AHeap) := aloop (s9_1 fuel d) (some [0, 1, 2, 7, 8, 11, 13]) n fr h (kOut [1, 2, 6, 7, 8])

noncomputable def l9_1 : Nat → Nat → Nat → Fr → AHeap → Option (AExit × Fr × AHeap) := hide l9_1r

theorem l9_1_is : l9_1 = l9_1r := hide_eq _

noncomputable def k9_2r (fuel d : Nat) : AExit → Fr → AHeap → Option (AVal × AHeap) := (kBlock 2 (kSeq (C fuel) false (acall (C fuel) false d) (acall (C fuel) true d) 95 (csub [true, true, true, true, true, true, true, true, true] (fbody Go.Proofs.Try.f9)) (asub [true, true, true, true, true, true, true, true, true] an9) (kRet Go.Proofs.Try.f9.results.toList)))

noncomputable def k9_2 : Nat → Nat → AExit → Fr → AHeap → Option (AVal × AHeap) := hide k9_2r

theorem k9_2_is : k9_2 = k9_2r := hide_eq _

theorem e9 (fuel d : Nat) (x0 : Sl) (x1 : Int) (x2 : Int) (h : AHeap) :
    run fuel (d + 1) 9 [(AVal.slice x0), (AVal.int .i64 x1), (AVal.int .u8 x2)] h =
  (run fuel d 36 [] h).bind fun r1 =>
    (AVal.bool? r1.1).bind fun b2 =>
    (bif (!b2) then (some ((AVal.bool false), r1.2)) else ((bif (decide ((40 : Int) < ((x0.len : Nat) : Int))) then (some ((AVal.bool b2), r1.2)) else ((l9_0 fuel d fuel [(0, (AVal.slice x0)), (1, (AVal.int .i64 x1)), (2, (AVal.int .u8 x2)), (7, (AVal.bool b2)), (8, (AVal.slice Sl.nil)), (9, (AVal.int .i64 (0 : Int)))] r1.2).bind fun p3 =>
    k9_0 fuel d p3.1 p3.2.1 p3.2.2)))) := by
  generalize hh : run = R
  rw [run_is] at hh
  subst hh
  generalize hh : l9_0 = R
  rw [l9_0_is] at hh
  subst hh
  generalize hh : k9_0 = R
  rw [k9_0_is] at hh
  subst hh
  kernel_rfl

theorem l9_0_eq (fuel d : Nat) (n : Nat) (x0 : Sl) (x1 : Int) (x2 : Int) (x7 : Bool) (x8 : Sl) (x9 : Int) (h : AHeap) :
    l9_0 fuel d (n + 1) [(0, (AVal.slice x0)), (1, (AVal.int .i64 x1)), (2, (AVal.int .u8 x2)), (7, (AVal.bool x7)), (8, (AVal.slice x8)), (9, (AVal.int .i64 x9))] h =
  (bif (decide (x9 < ((x0.len : Nat) : Int))) then ((AHeap.addr h 1 x0 x9).bind fun p1 =>
    (AHeap.cell h p1).bind fun u2 =>
    (AVal.bool? u2).bind fun b3 =>
    ((bif b3 then (some (.normal, [(0, (AVal.slice x0)), (1, (AVal.int .i64 x1)), (2, (AVal.int .u8 x2)), (7, (AVal.bool x7)), (8, (AVal.slice x8)), (9, (AVal.int .i64 x9)), (10, (AVal.int .u8 (49 : Int)))], h)) else (some (.normal, [(0, (AVal.slice x0)), (1, (AVal.int .i64 x1)), (2, (AVal.int .u8 x2)), (7, (AVal.bool x7)), (8, (AVal.slice x8)), (9, (AVal.int .i64 x9)), (10, (AVal.int .u8 (48 : Int)))], h)))).bind fun p4 =>
    k9_1 fuel d n p4.1 p4.2.1 p4.2.2) else (some ((.exit 0), [(0, (AVal.slice x0)), (1, (AVal.int .i64 x1)), (2, (AVal.int .u8 x2)), (7, (AVal.bool x7)), (8, (AVal.slice x8))], h))) := by
  generalize hh : l9_0 = R
  rw [l9_0_is] at hh
  subst hh
  generalize hh : k9_1 = R
  rw [k9_1_is] at hh
  subst hh
  kernel_rfl

theorem l9_0_0 (fuel d : Nat) (fr : Fr) (h : AHeap) :
    l9_0 fuel d 0 fr h =
  none := by
  generalize hh : l9_0 = R
  rw [l9_0_is] at hh
  subst hh
  kernel_rfl

theorem k9_0_x0 (fuel d : Nat) (x0 : Sl) (x1 : Int) (x2 : Int) (x7 : Bool) (x8 : Sl) (h : AHeap) :
    k9_0 fuel d (.exit 0) [(0, (AVal.slice x0)), (1, (AVal.int .i64 x1)), (2, (AVal.int .u8 x2)), (7, (AVal.bool x7)), (8, (AVal.slice x8))] h =
  (AHeap.sliceCells h 1 x8).bind fun c1 =>
    (bytesFrom c1).bind fun bs2 =>
    (run fuel d 40 [(AVal.str (⟨List.toArray bs2⟩ : ByteArray))] h).bind fun r3 =>
    (bif AVal.isTup 2 r3.1 then ((AVal.comp 0 r3.1).bind fun u4 =>
    (AVal.slice? u4).bind fun s5 =>
    (AVal.comp 1 r3.1).bind fun u6 =>
    (AVal.bool? u6).bind fun b7 =>
    (bif (bif (!b7) then true else (!decide (((s5.len : Nat) : Int) = ((x0.len : Nat) : Int)))) then (some ((AVal.bool false), r3.2)) else ((l9_1 fuel d fuel [(0, (AVal.slice x0)), (1, (AVal.int .i64 x1)), (2, (AVal.int .u8 x2)), (7, (AVal.bool x7)), (8, (AVal.slice x8)), (11, (AVal.slice s5)), (13, (AVal.int .i64 (0 : Int)))] r3.2).bind fun p8 =>
    k9_2 fuel d p8.1 p8.2.1 p8.2.2))) else none) := by
  generalize hh : run = R
  rw [run_is] at hh
  subst hh
  generalize hh : k9_0 = R
  rw [k9_0_is] at hh
  subst hh
  generalize hh : l9_1 = R
  rw [l9_1_is] at hh
  subst hh
  generalize hh : k9_2 = R
  rw [k9_2_is] at hh
  subst hh
  kernel_rfl

theorem k9_1_n (fuel d : Nat) (n : Nat) (x0 : Sl) (x1 : Int) (x2 : Int) (x7 : Bool) (x8 : Sl) (x9 : Int) (x10 : Int) (h : AHeap) :
    k9_1 fuel d n .normal [(0, (AVal.slice x0)), (1, (AVal.int .i64 x1)), (2, (AVal.int .u8 x2)), (7, (AVal.bool x7)), (8, (AVal.slice x8)), (9, (AVal.int .i64 x9)), (10, (AVal.int .u8 x10))] h =
  (AHeap.sliceCells (AHeap.push h 1 [(AVal.int .u8 x10)]) 1 (Sl.mk ⟨AHeap.next h, 0, 0⟩ 1 true)).bind fun xs1 =>
    (AHeap.append (AHeap.push h 1 [(AVal.int .u8 x10)]) false 1 1 x8 (Sl.mk ⟨AHeap.next h, 0, 0⟩ 1 true).len xs1).bind fun a2 =>
    l9_0 fuel d n [(0, (AVal.slice x0)), (1, (AVal.int .i64 x1)), (2, (AVal.int .u8 x2)), (7, (AVal.bool x7)), (8, (AVal.slice a2.1)), (9, (AVal.int .i64 (IntKind.wrap .i64 (x9 + (1 : Int)))))] a2.2 := by
  generalize hh : l9_0 = R
  rw [l9_0_is] at hh
  subst hh
  generalize hh : k9_1 = R
  rw [k9_1_is] at hh
  subst hh
  kernel_rfl

theorem l9_1_eq (fuel d : Nat) (n : Nat) (x0 : Sl) (x1 : Int) (x2 : Int) (x7 : Bool) (x8 : Sl) (x11 : Sl) (x13 : Int) (h : AHeap) :
    l9_1 fuel d (n + 1) [(0, (AVal.slice x0)), (1, (AVal.int .i64 x1)), (2, (AVal.int .u8 x2)), (7, (AVal.bool x7)), (8, (AVal.slice x8)), (11, (AVal.slice x11)), (13, (AVal.int .i64 x13))] h =
  (bif (decide (x13 < ((x0.len : Nat) : Int))) then ((AHeap.addr h 1 x11 x13).bind fun p1 =>
    (AHeap.cell h p1).bind fun u2 =>
    (AVal.bool? u2).bind fun b3 =>
    (AHeap.addr h 1 x0 x13).bind fun p4 =>
    (AHeap.cell h p4).bind fun u5 =>
    (AVal.bool? u5).bind fun b6 =>
    (bif (!(b3 == b6)) then (some (.ret, [(1, (AVal.int .i64 x1)), (2, (AVal.int .u8 x2)), (6, (AVal.bool false)), (7, (AVal.bool x7)), (8, (AVal.slice x8))], h)) else (l9_1 fuel d n [(0, (AVal.slice x0)), (1, (AVal.int .i64 x1)), (2, (AVal.int .u8 x2)), (7, (AVal.bool x7)), (8, (AVal.slice x8)), (11, (AVal.slice x11)), (13, (AVal.int .i64 (IntKind.wrap .i64 (x13 + (1 : Int)))))] h))) else (some ((.exit 2), [(1, (AVal.int .i64 x1)), (2, (AVal.int .u8 x2)), (6, AVal.bot), (7, (AVal.bool x7)), (8, (AVal.slice x8))], h))) := by
  generalize hh : l9_1 = R
  rw [l9_1_is] at hh
  subst hh
  kernel_rfl

theorem l9_1_0 (fuel d : Nat) (fr : Fr) (h : AHeap) :
    l9_1 fuel d 0 fr h =
  none := by
  generalize hh : l9_1 = R
  rw [l9_1_is] at hh
  subst hh
  kernel_rfl

theorem k9_2_x2 (fuel d : Nat) (x1 : Int) (x2 : Int) (x6 : AVal) (x7 : Bool) (x8 : Sl) (h : AHeap) :
    k9_2 fuel d (.exit 2) [(1, (AVal.int .i64 x1)), (2, (AVal.int .u8 x2)), (6, x6), (7, (AVal.bool x7)), (8, (AVal.slice x8))] h =
  (bif (decide (((x8.len : Nat) : Int) = (0 : Int))) then (some ((AVal.bool x7), h)) else ((run fuel d 41 [(AVal.int .i64 x1), (AVal.int .i64 ((x8.len : Nat) : Int))] h).bind fun r1 =>
    (AVal.int? .i64 r1.1).bind fun n2 =>
    (AHeap.addr r1.2 1 x8 n2).bind fun p3 =>
    (AHeap.storeAt r1.2 [(AVal.int .u8 x2)] p3).bind fun h4 =>
    (AHeap.sliceCells h4 1 x8).bind fun c5 =>
    (bytesFrom c5).bind fun bs6 =>
    (run fuel d 40 [(AVal.str (⟨List.toArray bs6⟩ : ByteArray))] h4).bind fun r7 =>
    (bif AVal.isTup 2 r7.1 then ((AVal.comp 0 r7.1).bind fun u8 =>
    (AVal.slice? u8).bind fun s9 =>
    (AVal.comp 1 r7.1).bind fun u10 =>
    (AVal.bool? u10).bind fun b11 =>
    ((bif (x7 == true) then (some ((AVal.bool (b11 == (bif (decide (x2 = (48 : Int))) then true else (decide (x2 = (49 : Int)))))), r7.2)) else (some ((AVal.bool false), r7.2)) : Option (AVal × AHeap))).bind fun r12 =>
    (AVal.bool? r12.1).bind fun b13 =>
    some ((AVal.bool b13), r12.2)) else none))) := by
  generalize hh : run = R
  rw [run_is] at hh
  subst hh
  generalize hh : k9_2 = R
  rw [k9_2_is] at hh
  subst hh
  kernel_rfl

theorem k9_2_r (fuel d : Nat) (x1 : AVal) (x2 : AVal) (x6 : Bool) (x7 : AVal) (x8 : AVal) (h : AHeap) :
    k9_2 fuel d .ret [(1, x1), (2, x2), (6, (AVal.bool x6)), (7, x7), (8, x8)] h =
  some ((AVal.bool x6), h) := by
  generalize hh : k9_2 = R
  rw [k9_2_is] at hh
  subst hh
  kernel_rfl

/-! 10: skolem/skolemlaw2.first -/

theorem e10 (fuel d : Nat)  (h : AHeap) :
    run fuel (d + 1) 10 [] h =
  (run fuel d 11 [(AVal.int .i64 (3 : Int))] h).bind fun r1 =>
    (AVal.ptr? r1.1).bind fun p2 =>
    (nilTest .ptr (AVal.ptr p2)).bind fun b3 =>
    ((bif ((!b3) == true) then ((run fuel d 14 [(AVal.ptr p2), (AVal.int .i64 (2 : Int))] r1.2).bind fun r4 =>
    (AVal.bool? r4.1).bind fun b5 =>
    some ((AVal.bool b5), r4.2)) else (some ((AVal.bool false), r1.2)) : Option (AVal × AHeap))).bind fun r6 =>
    (AVal.bool? r6.1).bind fun b7 =>
    ((bif (b7 == true) then ((run fuel d 14 [(AVal.ptr p2), (AVal.int .i64 (-2 : Int))] r6.2).bind fun r8 =>
    (AVal.bool? r8.1).bind fun b9 =>
    some ((AVal.bool (!b9)), r8.2)) else (some ((AVal.bool false), r6.2)) : Option (AVal × AHeap))).bind fun r10 =>
    (AVal.bool? r10.1).bind fun b11 =>
    ((bif (b11 == true) then ((run fuel d 16 [(AVal.ptr p2), (AVal.int .i64 (2 : Int))] r10.2).bind fun r12 =>
    (AVal.int? .i64 r12.1).bind fun n13 =>
    some ((AVal.bool (decide (n13 = (1 : Int)))), r12.2)) else (some ((AVal.bool false), r10.2)) : Option (AVal × AHeap))).bind fun r14 =>
    (AVal.bool? r14.1).bind fun b15 =>
    some ((AVal.bool b15), r14.2) := by
  generalize hh : run = R
  rw [run_is] at hh
  subst hh
  kernel_rfl

/-! 11: skolem/assign.New -/

theorem e11 (fuel d : Nat) (x0 : Int) (h : AHeap) :
    run fuel (d + 1) 11 [(AVal.int .i64 x0)] h =
  (run fuel d 42 [(AVal.int .i64 x0)] h).bind fun r1 =>
    (AVal.int? .i64 r1.1).bind fun n2 =>
    (bif (true && decide (0 ≤ (IntKind.wrap .i64 (n2 + (1 : Int)))) && decide ((IntKind.wrap .i64 (n2 + (1 : Int))) ≤ (IntKind.wrap .i64 (n2 + (1 : Int)))) && decide ((IntKind.wrap .i64 (n2 + (1 : Int))) * 1 ≤ 140737488355328) && decide ((IntKind.wrap .i64 (n2 + (1 : Int))) ≤ 140737488355328)) then (some ((AVal.ptr (Pt.mk ⟨AHeap.next (AHeap.push r1.2 1 (repeatCells [(AVal.int .i8 (0 : Int))] (Int.toNat (IntKind.wrap .i64 (n2 + (1 : Int)))))), 0, 0⟩ 1)), (AHeap.push (AHeap.push r1.2 1 (repeatCells [(AVal.int .i8 (0 : Int))] (Int.toNat (IntKind.wrap .i64 (n2 + (1 : Int)))))) 1 [(AVal.slice (Sl.mk ⟨AHeap.next r1.2, 0, 0⟩ (Int.toNat (IntKind.wrap .i64 (n2 + (1 : Int)))) (decide ((IntKind.wrap .i64 (n2 + (1 : Int))) = (IntKind.wrap .i64 (n2 + (1 : Int)))))))]))) else (none)) := by
  generalize hh : run = R
  rw [run_is] at hh
  subst hh
  kernel_rfl

/-! 12: skolem/skolemmake.Lit -/

theorem e12 (fuel d : Nat) (x0 : Int) (x1 : Int) (h : AHeap) :
    run fuel (d + 1) 12 [(AVal.int .i64 x0), (AVal.int .i64 x1)] h =
  (run fuel d 41 [(AVal.int .i64 x0), (AVal.int .i64 (IntKind.wrap .i64 ((2 : Int) * x1)))] h).bind fun r1 =>
    (AVal.int? .i64 r1.1).bind fun n2 =>
    (bif (decide (n2 < x1)) then (some ((AVal.int .i64 (IntKind.wrap .i64 (n2 + (1 : Int)))), r1.2)) else (some ((AVal.int .i64 (IntKind.wrap .i64 ((IntKind.wrap .i64 (x1 - n2)) - (1 : Int)))), r1.2))) := by
  generalize hh : run = R
  rw [run_is] at hh
  subst hh
  kernel_rfl

/-! 13: skolem/skolemref.Abs -/

theorem e13 (fuel d : Nat) (x0 : Int) (h : AHeap) :
    run fuel (d + 1) 13 [(AVal.int .i64 x0)] h =
  (bif (decide (x0 < (0 : Int))) then (some ((AVal.int .i64 (IntKind.wrap .i64 (0 - x0))), h)) else (some ((AVal.int .i64 x0), h))) := by
  generalize hh : run = R
  rw [run_is] at hh
  subst hh
  kernel_rfl

/-! 14: (*skolem/assign.Assign).Set -/

theorem e14 (fuel d : Nat) (x0 : Pt) (x1 : Int) (h : AHeap) :
    run fuel (d + 1) 14 [(AVal.ptr x0), (AVal.int .i64 x1)] h =
  (Pt.chk x0).bind fun p1 =>
    (Pt.field 0 p1).bind fun p2 =>
    (AHeap.cell h p2).bind fun u3 =>
    (AVal.slice? u3).bind fun s4 =>
    (run fuel d 43 [(AVal.int .i64 x1), (AVal.int .i64 (IntKind.wrap .i64 (((s4.len : Nat) : Int) - (1 : Int))))] h).bind fun r5 =>
    (AVal.bool? r5.1).bind fun b6 =>
    ((bif ((!b6) == false) then ((run fuel d 16 [(AVal.ptr x0), (AVal.int .i64 x1)] r5.2).bind fun r7 =>
    (AVal.int? .i64 r7.1).bind fun n8 =>
    some ((AVal.bool (decide (n8 = (2 : Int)))), r7.2)) else (some ((AVal.bool true), r5.2)) : Option (AVal × AHeap))).bind fun r9 =>
    (AVal.bool? r9.1).bind fun b10 =>
    (bif b10 then (some ((AVal.bool false), r9.2)) else ((bif (decide ((0 : Int) < x1)) then ((Pt.chk x0).bind fun p11 =>
    (Pt.field 0 p11).bind fun p12 =>
    (AHeap.cell r9.2 p12).bind fun u13 =>
    (AVal.slice? u13).bind fun s14 =>
    (AHeap.addr r9.2 1 s14 x1).bind fun p15 =>
    (AHeap.storeAt r9.2 [(AVal.int .i8 (1 : Int))] p15).bind fun h16 =>
    some ((AVal.bool true), h16)) else ((Pt.chk x0).bind fun p17 =>
    (Pt.field 0 p17).bind fun p18 =>
    (AHeap.cell r9.2 p18).bind fun u19 =>
    (AVal.slice? u19).bind fun s20 =>
    (AHeap.addr r9.2 1 s20 (IntKind.wrap .i64 (0 - x1))).bind fun p21 =>
    (AHeap.storeAt r9.2 [(AVal.int .i8 (2 : Int))] p21).bind fun h22 =>
    some ((AVal.bool true), h22))))) := by
  generalize hh : run = R
  rw [run_is] at hh
  subst hh
  kernel_rfl

/-! 15: (*skolem/assign.Assign).Unset -/

theorem e15 (fuel d : Nat) (x0 : Pt) (x1 : Int) (h : AHeap) :
    run fuel (d + 1) 15 [(AVal.ptr x0), (AVal.int .i64 x1)] h =
  ((bif ((decide ((0 : Int) < x1)) == true) then ((Pt.chk x0).bind fun p1 =>
    (Pt.field 0 p1).bind fun p2 =>
    (AHeap.cell h p2).bind fun u3 =>
    (AVal.slice? u3).bind fun s4 =>
    some ((AVal.bool (decide (x1 < ((s4.len : Nat) : Int)))), h)) else (some ((AVal.bool false), h)) : Option (AVal × AHeap))).bind fun r5 =>
    (AVal.bool? r5.1).bind fun b6 =>
    (bif b6 then ((Pt.chk x0).bind fun p7 =>
    (Pt.field 0 p7).bind fun p8 =>
    (AHeap.cell r5.2 p8).bind fun u9 =>
    (AVal.slice? u9).bind fun s10 =>
    (AHeap.addr r5.2 1 s10 x1).bind fun p11 =>
    (AHeap.storeAt r5.2 [(AVal.int .i8 (0 : Int))] p11).bind fun h12 =>
    some ((AVal.tup []), h12)) else (some ((AVal.tup []), r5.2))) := by
  generalize hh : run = R
  rw [run_is] at hh
  subst hh
  kernel_rfl

/-! 16: (*skolem/assign.Assign).Value -/

theorem e16 (fuel d : Nat) (x0 : Pt) (x1 : Int) (h : AHeap) :
    run fuel (d + 1) 16 [(AVal.ptr x0), (AVal.int .i64 x1)] h =
  (Pt.chk x0).bind fun p1 =>
    (Pt.field 0 p1).bind fun p2 =>
    (AHeap.cell h p2).bind fun u3 =>
    (AVal.slice? u3).bind fun s4 =>
    (run fuel d 43 [(AVal.int .i64 x1), (AVal.int .i64 (IntKind.wrap .i64 (((s4.len : Nat) : Int) - (1 : Int))))] h).bind fun r5 =>
    (AVal.bool? r5.1).bind fun b6 =>
    (bif (!b6) then (some ((AVal.int .i64 (0 : Int)), r5.2)) else ((Pt.chk x0).bind fun p7 =>
    (Pt.field 0 p7).bind fun p8 =>
    (AHeap.cell r5.2 p8).bind fun u9 =>
    (AVal.slice? u9).bind fun s10 =>
    (run fuel d 44 [(AVal.int .i64 x1)] r5.2).bind fun r11 =>
    (AVal.int? .i64 r11.1).bind fun n12 =>
    same ((AHeap.cell r11.2 p8).bind fun u16 =>
    (AVal.slice? u16).bind fun s17 =>
    some ((AVal.slice s17), r11.2)) ((AVal.slice s10), r11.2) (
    (AHeap.addr r11.2 1 s10 n12).bind fun p13 =>
    (AHeap.cell r11.2 p13).bind fun u14 =>
    (AVal.int? .i8 u14).bind fun n15 =>
    (bif (bif (decide (x1 < (0 : Int))) then (!decide ((IntKind.wrap .i64 n15) = (0 : Int))) else false) then (some ((AVal.int .i64 (IntKind.wrap .i64 ((3 : Int) - (IntKind.wrap .i64 n15)))), r11.2)) else (some ((AVal.int .i64 (IntKind.wrap .i64 n15)), r11.2)))))) := by
  generalize hh : run = R
  rw [run_is] at hh
  subst hh
  kernel_rfl

/-! 17: (*skolem/assign.Assign).Clause -/

noncomputable def s17_0 (fuel d : Nat) : Run := fun fr h k => aexec (C fuel) false (acall (C fuel) false d) (acall (C fuel) true d) 46 (csub [true, true, false, true, false, false] (fbody Go.Proofs.Try.f17)) (asub [true, true, false, true, false, false] an17) fr h k

noncomputable def l17_0r (fuel d : Nat) (n : Nat) (fr : Fr) (h : AHeap) : Option (AExit × Fr × AHeap) := aloop (s17_0 fuel d) (some [0, 6, 7, 8, 12, 13, 14]) n fr h (kOut [6, 7, 8])

noncomputable def l17_0 : Nat → Nat → Nat → Fr → AHeap → Option (AExit × Fr × AHeap) := hide l17_0r

theorem l17_0_is : l17_0 = l17_0r := hide_eq _

noncomputable def k17_0r (fuel d : Nat) : AExit → Fr → AHeap → Option (AVal × AHeap) := (kBlock 0 (kSeq (C fuel) false (acall (C fuel) false d) (acall (C fuel) true d) 46 (csub [true, true, true] (fbody Go.Proofs.Try.f17)) (asub [true, true, true] an17) (kRet Go.Proofs.Try.f17.results.toList)))

noncomputable def k17_0 : Nat → Nat → AExit → Fr → AHeap → Option (AVal × AHeap) := hide k17_0r

theorem k17_0_is : k17_0 = k17_0r := hide_eq _

noncomputable def k17_1r (fuel d : Nat) (n : Nat) : AExit → Fr → AHeap → Option (AExit × Fr × AHeap) := (kOut [0, 6, 7, 8, 10, 12, 13, 14])

noncomputable def k17_1 : Nat → Nat → Nat → AExit → Fr → AHeap → Option (AExit × Fr × AHeap) := hide k17_1r

theorem k17_1_is : k17_1 = k17_1r := hide_eq _

noncomputable def k17_2r (fuel d : Nat) (n : Nat) : AExit → Fr → AHeap → Option (AExit × Fr × AHeap) := (kSeq (C fuel) false (acall (C fuel) false d) (acall (C fuel) true d) 46 (csub [true, true, false, true, false, false, true, true, false, false, true, true, true, true] (fbody Go.Proofs.Try.f17)) (asub [true, true, false, true, false, false, true, true, false, false, true, true, true, true] an17) (kBlock 1 (kSeq (C fuel) false (acall (C fuel) false d) (acall (C fuel) true d) 46 (csub [true, true, false, true, false, false, true, true, true] (fbody Go.Proofs.Try.f17)) (asub [true, true, false, true, false, false, true, true, true] an17) (kLoop (s17_0 fuel d) (some [0, 6, 7, 8, 12, 13, 14]) n (kOut [6, 7, 8])))))

noncomputable def k17_2 : Nat → Nat → Nat → AExit → Fr → AHeap → Option (AExit × Fr × AHeap) := hide k17_2r

theorem k17_2_is : k17_2 = k17_2r := hide_eq _

theorem e17 (fuel d : Nat) (x0 : Pt) (x1 : Sl) (h : AHeap) :
    run fuel (d + 1) 17 [(AVal.ptr x0), (AVal.slice x1)] h =
  (l17_0 fuel d fuel [(0, (AVal.ptr x0)), (6, (AVal.int .i64 (0 : Int))), (7, (AVal.int .i64 (0 : Int))), (8, (AVal.int .i64 (2 : Int))), (12, (AVal.slice x1)), (13, (AVal.int .i64 ((x1.len : Nat) : Int))), (14, (AVal.int .i64 (0 : Int)))] h).bind fun p1 =>
    k17_0 fuel d p1.1 p1.2.1 p1.2.2 := by
  generalize hh : run = R
  rw [run_is] at hh
  subst hh
  generalize hh : l17_0 = R
  rw [l17_0_is] at hh
  subst hh
  generalize hh : k17_0 = R
  rw [k17_0_is] at hh
  subst hh
  kernel_rfl

theorem l17_0_eq (fuel d : Nat) (n : Nat) (x0 : Pt) (x6 : Int) (x7 : Int) (x8 : Int) (x12 : Sl) (x13 : Int) (x14 : Int) (h : AHeap) :
    l17_0 fuel d (n + 1) [(0, (AVal.ptr x0)), (6, (AVal.int .i64 x6)), (7, (AVal.int .i64 x7)), (8, (AVal.int .i64 x8)), (12, (AVal.slice x12)), (13, (AVal.int .i64 x13)), (14, (AVal.int .i64 x14))] h =
  (bif (decide (x14 < x13)) then ((AHeap.addr h 1 x12 x14).bind fun p1 =>
    (AHeap.cell h p1).bind fun u2 =>
    (AVal.int? .i64 u2).bind fun n3 =>
    (run fuel d 16 [(AVal.ptr x0), (AVal.int .i64 n3)] h).bind fun r4 =>
    (AVal.int? .i64 r4.1).bind fun n5 =>
    (bif (decide (n5 = (2 : Int))) then (l17_0 fuel d n [(0, (AVal.ptr x0)), (6, (AVal.int .i64 x6)), (7, (AVal.int .i64 x7)), (8, (AVal.int .i64 x8)), (12, (AVal.slice x12)), (13, (AVal.int .i64 x13)), (14, (AVal.int .i64 (IntKind.wrap .i64 (x14 + (1 : Int)))))] r4.2) else (((bif (decide (n5 = (1 : Int))) then (some (.normal, [(0, (AVal.ptr x0)), (6, (AVal.int .i64 x6)), (7, (AVal.int .i64 x7)), (8, (AVal.int .i64 (1 : Int))), (10, (AVal.int .i64 n3)), (12, (AVal.slice x12)), (13, (AVal.int .i64 x13)), (14, (AVal.int .i64 x14))], r4.2)) else (((bif (decide (x8 = (2 : Int))) then (some (.normal, [(0, (AVal.ptr x0)), (6, (AVal.int .i64 x6)), (7, (AVal.int .i64 x7)), (8, (AVal.int .i64 (0 : Int))), (10, (AVal.int .i64 n3)), (12, (AVal.slice x12)), (13, (AVal.int .i64 x13)), (14, (AVal.int .i64 x14))], r4.2)) else (some (.normal, [(0, (AVal.ptr x0)), (6, (AVal.int .i64 x6)), (7, (AVal.int .i64 x7)), (8, (AVal.int .i64 x8)), (10, (AVal.int .i64 n3)), (12, (AVal.slice x12)), (13, (AVal.int .i64 x13)), (14, (AVal.int .i64 x14))], r4.2)))).bind fun p6 =>
    k17_1 fuel d n p6.1 p6.2.1 p6.2.2))).bind fun p7 =>
    k17_2 fuel d n p7.1 p7.2.1 p7.2.2))) else (some ((.exit 0), [(6, (AVal.int .i64 x6)), (7, (AVal.int .i64 x7)), (8, (AVal.int .i64 x8))], h))) := by
  generalize hh : run = R
  rw [run_is] at hh
  subst hh
  generalize hh : l17_0 = R
  rw [l17_0_is] at hh
  subst hh
  generalize hh : k17_1 = R
  rw [k17_1_is] at hh
  subst hh
  generalize hh : k17_2 = R
  rw [k17_2_is] at hh
  subst hh
  kernel_rfl

theorem l17_0_0 (fuel d : Nat) (fr : Fr) (h : AHeap) :
    l17_0 fuel d 0 fr h =
  none := by
  generalize hh : l17_0 = R
  rw [l17_0_is] at hh
  subst hh
  kernel_rfl

theorem k17_0_x0 (fuel d : Nat) (x6 : Int) (x7 : Int) (x8 : Int) (h : AHeap) :
    k17_0 fuel d (.exit 0) [(6, (AVal.int .i64 x6)), (7, (AVal.int .i64 x7)), (8, (AVal.int .i64 x8))] h =
  (bif (bif (!decide (x7 = (1 : Int))) then true else (!decide (x8 = (0 : Int)))) then (some ((AVal.tup [(AVal.int .i64 x8), (AVal.int .i64 (0 : Int))]), h)) else (some ((AVal.tup [(AVal.int .i64 x8), (AVal.int .i64 x6)]), h))) := by
  generalize hh : k17_0 = R
  rw [k17_0_is] at hh
  subst hh
  kernel_rfl

theorem k17_1_n (fuel d : Nat) (n : Nat) (x0 : Pt) (x6 : Int) (x7 : Int) (x8 : Int) (x10 : Int) (x12 : Sl) (x13 : Int) (x14 : Int) (h : AHeap) :
    k17_1 fuel d n .normal [(0, (AVal.ptr x0)), (6, (AVal.int .i64 x6)), (7, (AVal.int .i64 x7)), (8, (AVal.int .i64 x8)), (10, (AVal.int .i64 x10)), (12, (AVal.slice x12)), (13, (AVal.int .i64 x13)), (14, (AVal.int .i64 x14))] h =
  some (.normal, [(0, (AVal.ptr x0)), (6, (AVal.int .i64 x6)), (7, (AVal.int .i64 x7)), (8, (AVal.int .i64 x8)), (10, (AVal.int .i64 x10)), (12, (AVal.slice x12)), (13, (AVal.int .i64 x13)), (14, (AVal.int .i64 x14))], h) := by
  generalize hh : k17_1 = R
  rw [k17_1_is] at hh
  subst hh
  kernel_rfl

theorem k17_2_n (fuel d : Nat) (n : Nat) (x0 : Pt) (x6 : Int) (x7 : Int) (x8 : Int) (x10 : Int) (x12 : Sl) (x13 : Int) (x14 : Int) (h : AHeap) :
    k17_2 fuel d n .normal [(0, (AVal.ptr x0)), (6, (AVal.int .i64 x6)), (7, (AVal.int .i64 x7)), (8, (AVal.int .i64 x8)), (10, (AVal.int .i64 x10)), (12, (AVal.slice x12)), (13, (AVal.int .i64 x13)), (14, (AVal.int .i64 x14))] h =
  (bif (bif (decide (x7 = (0 : Int))) then true else (!decide (x10 = x6))) then (l17_0 fuel d n [(0, (AVal.ptr x0)), (6, (AVal.int .i64 x10)), (7, (AVal.int .i64 (IntKind.wrap .i64 (x7 + (1 : Int))))), (8, (AVal.int .i64 x8)), (12, (AVal.slice x12)), (13, (AVal.int .i64 x13)), (14, (AVal.int .i64 (IntKind.wrap .i64 (x14 + (1 : Int)))))] h) else (l17_0 fuel d n [(0, (AVal.ptr x0)), (6, (AVal.int .i64 x6)), (7, (AVal.int .i64 x7)), (8, (AVal.int .i64 x8)), (12, (AVal.slice x12)), (13, (AVal.int .i64 x13)), (14, (AVal.int .i64 (IntKind.wrap .i64 (x14 + (1 : Int)))))] h)) := by
  generalize hh : l17_0 = R
  rw [l17_0_is] at hh
  subst hh
  generalize hh : k17_2 = R
  rw [k17_2_is] at hh
  subst hh
  kernel_rfl

/-! 18: skolem/skolemref.Has -/

noncomputable def s18_0 (fuel d : Nat) : Run := fun fr h k => aexec (C fuel) false (acall (C fuel) false d) (acall (C fuel) true d) 18 (csub [true, false, true, false, false] (fbody Go.Proofs.Try.f18)) (asub [true, false, true, false, false] an18) fr h k

noncomputable def l18_0r (fuel d : Nat) (n : Nat) (fr : Fr) (h : AHeap) : Option (AExit × Fr × AHeap) := aloop (s18_0 fuel d) (some [0, 1, 5]) n fr h (kOut [4])

noncomputable def l18_0 : Nat → Nat → Nat → Fr → AHeap → Option (AExit × Fr × AHeap) := hide l18_0r

theorem l18_0_is : l18_0 = l18_0r := hide_eq _

noncomputable def k18_0r (fuel d : Nat) : AExit → Fr → AHeap → Option (AVal × AHeap) := (kBlock 0 (kSeq (C fuel) false (acall (C fuel) false d) (acall (C fuel) true d) 18 (csub [true, true] (fbody Go.Proofs.Try.f18)) (asub [true, true] an18) (kRet Go.Proofs.Try.f18.results.toList)))

noncomputable def k18_0 : Nat → Nat → AExit → Fr → AHeap → Option (AVal × AHeap) := hide k18_0r

theorem k18_0_is : k18_0 = k18_0r := hide_eq _

theorem e18 (fuel d : Nat) (x0 : Sl) (x1 : Int) (h : AHeap) :
    run fuel (d + 1) 18 [(AVal.slice x0), (AVal.int .i64 x1)] h =
  (l18_0 fuel d fuel [(0, (AVal.slice x0)), (1, (AVal.int .i64 x1)), (5, (AVal.int .i64 (0 : Int)))] h).bind fun p1 =>
    k18_0 fuel d p1.1 p1.2.1 p1.2.2 := by
  generalize hh : run = R
  rw [run_is] at hh
  subst hh
  generalize hh : l18_0 = R
  rw [l18_0_is] at hh
  subst hh
  generalize hh : k18_0 = R
  rw [k18_0_is] at hh
  subst hh
  kernel_rfl

theorem l18_0_eq (fuel d : Nat) (n : Nat) (x0 : Sl) (x1 : Int) (x5 : Int) (h : AHeap) :
    l18_0 fuel d (n + 1) [(0, (AVal.slice x0)), (1, (AVal.int .i64 x1)), (5, (AVal.int .i64 x5))] h =
  (bif (decide (x5 < ((x0.len : Nat) : Int))) then ((AHeap.addr h 1 x0 x5).bind fun p1 =>
    (AHeap.cell h p1).bind fun u2 =>
    (AVal.int? .i64 u2).bind fun n3 =>
    (bif (decide (n3 = x1)) then (some (.ret, [(4, (AVal.bool true))], h)) else (l18_0 fuel d n [(0, (AVal.slice x0)), (1, (AVal.int .i64 x1)), (5, (AVal.int .i64 (IntKind.wrap .i64 (x5 + (1 : Int)))))] h))) else (some ((.exit 0), [(4, AVal.bot)], h))) := by
  generalize hh : l18_0 = R
  rw [l18_0_is] at hh
  subst hh
  kernel_rfl

theorem l18_0_0 (fuel d : Nat) (fr : Fr) (h : AHeap) :
    l18_0 fuel d 0 fr h =
  none := by
  generalize hh : l18_0 = R
  rw [l18_0_is] at hh
  subst hh
  kernel_rfl

theorem k18_0_x0 (fuel d : Nat) (x4 : AVal) (h : AHeap) :
    k18_0 fuel d (.exit 0) [(4, x4)] h =
  some ((AVal.bool false), h) := by
  generalize hh : k18_0 = R
  rw [k18_0_is] at hh
  subst hh
  kernel_rfl

theorem k18_0_r (fuel d : Nat) (x4 : Bool) (h : AHeap) :
    k18_0 fuel d .ret [(4, (AVal.bool x4))] h =
  some ((AVal.bool x4), h) := by
  generalize hh : k18_0 = R
  rw [k18_0_is] at hh
  subst hh
  kernel_rfl

/-! 19: skolem/skolemmake.Clauses -/

noncomputable def s19_0 (fuel d : Nat) : Run := fun fr h k => aexec (C fuel) false (acall (C fuel) false d) (acall (C fuel) true d) 55 (csub [true, true, true, true, false, true, false, false] (fbody Go.Proofs.Try.f19)) (asub [true, true, true, true, false, true, false, false] an19) fr h k

noncomputable def l19_0r (fuel d : Nat) (n : Nat) (fr : Fr) (h : AHeap) : Option (AExit × Fr × AHeap) := aloop (s19_0 fuel d) (some [0, 1, 5, 6, 7]) n fr h (kOut [5, 6])

noncomputable def l19_0 : Nat → Nat → Nat → Fr → AHeap → Option (AExit × Fr × AHeap) := hide l19_0r

theorem l19_0_is : l19_0 = l19_0r := hide_eq _

noncomputable def k19_0r (fuel d : Nat) : AExit → Fr → AHeap → Option (AVal × AHeap) := (kBlock 0 (kSeq (C fuel) false (acall (C fuel) false d) (acall (C fuel) true d) 55 (csub [true, true, true, true, true] (fbody Go.Proofs.Try.f19)) (asub [true, true, true, true, true] an19) (kRet Go.Proofs.Try.f19.results.toList)))

noncomputable def k19_0 : Nat → Nat → AExit → Fr → AHeap → Option (AVal × AHeap) := hide k19_0r

theorem k19_0_is : k19_0 = k19_0r := hide_eq _

noncomputable def k19_1r (fuel d : Nat) (n : Nat) : AExit → Fr → AHeap → Option (AExit × Fr × AHeap) := (kSeq (C fuel) false (acall (C fuel) false d) (acall (C fuel) true d) 55 (csub [true, true, true, true, false, true, false, false, true, false, false, true] (fbody Go.Proofs.Try.f19)) (asub [true, true, true, true, false, true, false, false, true, false, false, true] an19) (kBlock 1 (kSeq (C fuel) false (acall (C fuel) false d) (acall (C fuel) true d) 55 (csub [true, true, true, true, false, true, false, false, true, true] (fbody Go.Proofs.Try.f19)) (asub [true, true, true, true, false, true, false, false, true, true] an19) (kLoop (s19_0 fuel d) (some [0, 1, 5, 6, 7]) n (kOut [5, 6])))))

noncomputable def k19_1 : Nat → Nat → Nat → AExit → Fr → AHeap → Option (AExit × Fr × AHeap) := hide k19_1r

theorem k19_1_is : k19_1 = k19_1r := hide_eq _

theorem e19 (fuel d : Nat) (x0 : Sl) (x1 : Int) (h : AHeap) :
    run fuel (d + 1) 19 [(AVal.slice x0), (AVal.int .i64 x1)] h =
  (bif (decide (x1 < (1 : Int))) then (some ((AVal.slice Sl.nil), h)) else ((l19_0 fuel d fuel [(0, (AVal.slice x0)), (1, (AVal.int .i64 x1)), (5, (AVal.slice Sl.nil)), (6, (AVal.slice Sl.nil)), (7, (AVal.int .i64 (0 : Int)))] h).bind fun p1 =>
    k19_0 fuel d p1.1 p1.2.1 p1.2.2)) := by
  generalize hh : run = R
  rw [run_is] at hh
  subst hh
  generalize hh : l19_0 = R
  rw [l19_0_is] at hh
  subst hh
  generalize hh : k19_0 = R
  rw [k19_0_is] at hh
  subst hh
  kernel_rfl

theorem l19_0_eq (fuel d : Nat) (n : Nat) (x0 : Sl) (x1 : Int) (x5 : Sl) (x6 : Sl) (x7 : Int) (h : AHeap) :
    l19_0 fuel d (n + 1) [(0, (AVal.slice x0)), (1, (AVal.int .i64 x1)), (5, (AVal.slice x5)), (6, (AVal.slice x6)), (7, (AVal.int .i64 x7))] h =
  (bif (decide (x7 < ((x0.len : Nat) : Int))) then ((AHeap.addr h 1 x0 x7).bind fun p1 =>
    (AHeap.cell h p1).bind fun u2 =>
    (AVal.int? .i64 u2).bind fun n3 =>
    (run fuel d 41 [(AVal.int .i64 n3), (AVal.int .i64 (7 : Int))] h).bind fun r4 =>
    (AVal.int? .i64 r4.1).bind fun n5 =>
    ((bif (bif (bif (decide (n5 = (0 : Int))) then (decide ((0 : Int) < ((x6.len : Nat) : Int))) else false) then true else (decide ((5 : Int) ≤ ((x6.len : Nat) : Int)))) then ((AHeap.sliceCells (AHeap.push r4.2 1 [(AVal.slice x6)]) 1 (Sl.mk ⟨AHeap.next r4.2, 0, 0⟩ 1 true)).bind fun xs6 =>
    (AHeap.append (AHeap.push r4.2 1 [(AVal.slice x6)]) false 1 24 x5 (Sl.mk ⟨AHeap.next r4.2, 0, 0⟩ 1 true).len xs6).bind fun a7 =>
    some (.normal, [(0, (AVal.slice x0)), (1, (AVal.int .i64 x1)), (5, (AVal.slice a7.1)), (6, (AVal.slice Sl.nil)), (7, (AVal.int .i64 x7))], a7.2)) else (some (.normal, [(0, (AVal.slice x0)), (1, (AVal.int .i64 x1)), (5, (AVal.slice x5)), (6, (AVal.slice x6)), (7, (AVal.int .i64 x7))], r4.2)))).bind fun p8 =>
    k19_1 fuel d n p8.1 p8.2.1 p8.2.2) else (some ((.exit 0), [(5, (AVal.slice x5)), (6, (AVal.slice x6))], h))) := by
  generalize hh : run = R
  rw [run_is] at hh
  subst hh
  generalize hh : l19_0 = R
  rw [l19_0_is] at hh
  subst hh
  generalize hh : k19_1 = R
  rw [k19_1_is] at hh
  subst hh
  kernel_rfl

theorem l19_0_0 (fuel d : Nat) (fr : Fr) (h : AHeap) :
    l19_0 fuel d 0 fr h =
  none := by
  generalize hh : l19_0 = R
  rw [l19_0_is] at hh
  subst hh
  kernel_rfl

theorem k19_0_x0 (fuel d : Nat) (x5 : Sl) (x6 : Sl) (h : AHeap) :
    k19_0 fuel d (.exit 0) [(5, (AVal.slice x5)), (6, (AVal.slice x6))] h =
  (bif (decide ((0 : Int) < ((x6.len : Nat) : Int))) then ((AHeap.sliceCells (AHeap.push h 1 [(AVal.slice x6)]) 1 (Sl.mk ⟨AHeap.next h, 0, 0⟩ 1 true)).bind fun xs1 =>
    (AHeap.append (AHeap.push h 1 [(AVal.slice x6)]) false 1 24 x5 (Sl.mk ⟨AHeap.next h, 0, 0⟩ 1 true).len xs1).bind fun a2 =>
    some ((AVal.slice a2.1), a2.2)) else (some ((AVal.slice x5), h))) := by
  generalize hh : k19_0 = R
  rw [k19_0_is] at hh
  subst hh
  kernel_rfl

theorem k19_1_n (fuel d : Nat) (n : Nat) (x0 : Sl) (x1 : Int) (x5 : Sl) (x6 : Sl) (x7 : Int) (h : AHeap) :
    k19_1 fuel d n .normal [(0, (AVal.slice x0)), (1, (AVal.int .i64 x1)), (5, (AVal.slice x5)), (6, (AVal.slice x6)), (7, (AVal.int .i64 x7))] h =
  (AHeap.addr h 1 x0 x7).bind fun p1 =>
    (AHeap.cell h p1).bind fun u2 =>
    (AVal.int? .i64 u2).bind fun n3 =>
    (run fuel d 41 [(AVal.int .i64 n3), (AVal.int .i64 (1099511627776 : Int))] h).bind fun r4 =>
    (AVal.int? .i64 r4.1).bind fun n5 =>
    (run fuel d 12 [(AVal.int .i64 (IntKind.wrap .i64 (Int.tdiv n5 (7 : Int)))), (AVal.int .i64 x1)] r4.2).bind fun r6 =>
    (AVal.int? .i64 r6.1).bind fun n7 =>
    (AHeap.sliceCells (AHeap.push r6.2 1 [(AVal.int .i64 n7)]) 1 (Sl.mk ⟨AHeap.next r6.2, 0, 0⟩ 1 true)).bind fun xs8 =>
    (AHeap.append (AHeap.push r6.2 1 [(AVal.int .i64 n7)]) false 1 8 x6 (Sl.mk ⟨AHeap.next r6.2, 0, 0⟩ 1 true).len xs8).bind fun a9 =>
    l19_0 fuel d n [(0, (AVal.slice x0)), (1, (AVal.int .i64 x1)), (5, (AVal.slice x5)), (6, (AVal.slice a9.1)), (7, (AVal.int .i64 (IntKind.wrap .i64 (x7 + (1 : Int)))))] a9.2 := by
  generalize hh : run = R
  rw [run_is] at hh
  subst hh
  generalize hh : l19_0 = R
  rw [l19_0_is] at hh
  subst hh
  generalize hh : k19_1 = R
  rw [k19_1_is] at hh
  subst hh
  kernel_rfl

/-! 20: (*skolem/assign.Assign).All -/

noncomputable def s20_0 (fuel d : Nat) : Run := fun fr h k => aexec (C fuel) false (acall (C fuel) false d) (acall (C fuel) true d) 28 (csub [true, true, false, true, false, false] (fbody Go.Proofs.Try.f20)) (asub [true, true, false, true, false, false] an20) fr h k

noncomputable def l20_0r (fuel d : Nat) (n : Nat) (fr : Fr) (h : AHeap) : Option (AExit × Fr × AHeap) := aloop (s20_0 fuel d) (some [0, 5, 10, 11, 12]) n fr h (kOut [4, 5])

noncomputable def l20_0 : Nat → Nat → Nat → Fr → AHeap → Option (AExit × Fr × AHeap) := hide l20_0r

theorem l20_0_is : l20_0 = l20_0r := hide_eq _

noncomputable def k20_0r (fuel d : Nat) : AExit → Fr → AHeap → Option (AVal × AHeap) := (kBlock 0 (kSeq (C fuel) false (acall (C fuel) false d) (acall (C fuel) true d) 28 (csub [true, true, true] (fbody Go.Proofs.Try.f20)) (asub [true, true, true] an20) (kRet Go.Proofs.Try.f20.results.toList)))

noncomputable def k20_0 : Nat → Nat → AExit → Fr → AHeap → Option (AVal × AHeap) := hide k20_0r

theorem k20_0_is : k20_0 = k20_0r := hide_eq _

theorem e20 (fuel d : Nat) (x0 : Pt) (x1 : Sl) (h : AHeap) :
    run fuel (d + 1) 20 [(AVal.ptr x0), (AVal.slice x1)] h =
  (l20_0 fuel d fuel [(0, (AVal.ptr x0)), (5, (AVal.int .i64 (1 : Int))), (10, (AVal.slice x1)), (11, (AVal.int .i64 ((x1.len : Nat) : Int))), (12, (AVal.int .i64 (0 : Int)))] h).bind fun p1 =>
    k20_0 fuel d p1.1 p1.2.1 p1.2.2 := by
  generalize hh : run = R
  rw [run_is] at hh
  subst hh
  generalize hh : l20_0 = R
  rw [l20_0_is] at hh
  subst hh
  generalize hh : k20_0 = R
  rw [k20_0_is] at hh
  subst hh
  kernel_rfl

theorem l20_0_eq (fuel d : Nat) (n : Nat) (x0 : Pt) (x5 : Int) (x10 : Sl) (x11 : Int) (x12 : Int) (h : AHeap) :
    l20_0 fuel d (n + 1) [(0, (AVal.ptr x0)), (5, (AVal.int .i64 x5)), (10, (AVal.slice x10)), (11, (AVal.int .i64 x11)), (12, (AVal.int .i64 x12))] h =
  (bif (decide (x12 < x11)) then ((AHeap.addr h 1 x10 x12).bind fun p1 =>
    (AHeap.cell h p1).bind fun u2 =>
    (AVal.slice? u2).bind fun s3 =>
    (run fuel d 17 [(AVal.ptr x0), (AVal.slice s3)] h).bind fun r4 =>
    (bif AVal.isTup 2 r4.1 then ((AVal.comp 0 r4.1).bind fun u5 =>
    (AVal.int? .i64 u5).bind fun n6 =>
    (AVal.comp 1 r4.1).bind fun u7 =>
    (AVal.int? .i64 u7).bind fun n8 =>
    (bif (decide (n6 = (2 : Int))) then (some (.ret, [(4, (AVal.int .i64 (2 : Int))), (5, (AVal.int .i64 x5))], r4.2)) else ((bif (decide (n6 = (0 : Int))) then (l20_0 fuel d n [(0, (AVal.ptr x0)), (5, (AVal.int .i64 (0 : Int))), (10, (AVal.slice x10)), (11, (AVal.int .i64 x11)), (12, (AVal.int .i64 (IntKind.wrap .i64 (x12 + (1 : Int)))))] r4.2) else (l20_0 fuel d n [(0, (AVal.ptr x0)), (5, (AVal.int .i64 x5)), (10, (AVal.slice x10)), (11, (AVal.int .i64 x11)), (12, (AVal.int .i64 (IntKind.wrap .i64 (x12 + (1 : Int)))))] r4.2))))) else none)) else (some ((.exit 0), [(4, AVal.bot), (5, (AVal.int .i64 x5))], h))) := by
  generalize hh : run = R
  rw [run_is] at hh
  subst hh
  generalize hh : l20_0 = R
  rw [l20_0_is] at hh
  subst hh
  kernel_rfl

theorem l20_0_0 (fuel d : Nat) (fr : Fr) (h : AHeap) :
    l20_0 fuel d 0 fr h =
  none := by
  generalize hh : l20_0 = R
  rw [l20_0_is] at hh
  subst hh
  kernel_rfl

theorem k20_0_x0 (fuel d : Nat) (x4 : AVal) (x5 : Int) (h : AHeap) :
    k20_0 fuel d (.exit 0) [(4, x4), (5, (AVal.int .i64 x5))] h =
  some ((AVal.int .i64 x5), h) := by
  generalize hh : k20_0 = R
  rw [k20_0_is] at hh
  subst hh
  kernel_rfl

theorem k20_0_r (fuel d : Nat) (x4 : Int) (x5 : AVal) (h : AHeap) :
    k20_0 fuel d .ret [(4, (AVal.int .i64 x4)), (5, x5)] h =
  some ((AVal.int .i64 x4), h) := by
  generalize hh : k20_0 = R
  rw [k20_0_is] at hh
  subst hh
  kernel_rfl

/-! 21: skolem/assign.Of -/

noncomputable def s21_0 (fuel d : Nat) : Run := fun fr h k => aexec (C fuel) false (acall (C fuel) false d) (acall (C fuel) true d) 32 (csub [true, false, true, false, false] (fbody Go.Proofs.Try.f21)) (asub [true, false, true, false, false] an21) fr h k

noncomputable def l21_0r (fuel d : Nat) (n : Nat) (fr : Fr) (h : AHeap) : Option (AExit × Fr × AHeap) := aloop (s21_0 fuel d) (some [1, 10, 11, 12]) n fr h (kOut [4])

noncomputable def l21_0 : Nat → Nat → Nat → Fr → AHeap → Option (AExit × Fr × AHeap) := hide l21_0r

theorem l21_0_is : l21_0 = l21_0r := hide_eq _

noncomputable def k21_0r (fuel d : Nat) : AExit → Fr → AHeap → Option (AVal × AHeap) := (kBlock 0 (kSeq (C fuel) false (acall (C fuel) false d) (acall (C fuel) true d) 32 (csub [true, true] (fbody Go.Proofs.Try.f21)) (asub [true, true] an21) (kRet Go.Proofs.Try.f21.results.toList)))

noncomputable def k21_0 : Nat → Nat → AExit → Fr → AHeap → Option (AVal × AHeap) := hide k21_0r

theorem k21_0_is : k21_0 = k21_0r := hide_eq _

noncomputable def s21_1 (fuel d : Nat) : Run := fun fr h k => aexec (C fuel) false (acall (C fuel) false d) (acall (C fuel) true d) 32 (csub [true, false, true, false, false, true, true, false, false, true, true, false, true, false, false] (fbody Go.Proofs.Try.f21)) (asub [true, false, true, false, false, true, true, false, false, true, true, false, true, false, false] an21) fr h k

noncomputable def l21_1r (fuel d : Nat) (n : Nat) (fr : Fr) (h : AHeap) : Option (AExit × Fr × AHeap) := aloop (s21_1 fuel d) (some [1, 7, 10, 11, 12, 16, 17, 18]) n fr h (kOut [1, 7, 10, 11, 12])

noncomputable def l21_1 : Nat → Nat → Nat → Fr → AHeap → Option (AExit × Fr × AHeap) := hide l21_1r

theorem l21_1_is : l21_1 = l21_1r := hide_eq _

noncomputable def k21_1r (fuel d : Nat) (n : Nat) : AExit → Fr → AHeap → Option (AExit × Fr × AHeap) := (kBlock 2 (kSeq (C fuel) false (acall (C fuel) false d) (acall (C fuel) true d) 32 (csub [true, false, true, false, false, true, true, false, false, true, true, true] (fbody Go.Proofs.Try.f21)) (asub [true, false, true, false, false, true, true, false, false, true, true, true] an21) (kBlock 1 (kSeq (C fuel) false (acall (C fuel) false d) (acall (C fuel) true d) 32 (csub [true, false, true, false, false, true, true, true] (fbody Go.Proofs.Try.f21)) (asub [true, false, true, false, false, true, true, true] an21) (kLoop (s21_0 fuel d) (some [1, 10, 11, 12]) n (kOut [4]))))))

noncomputable def k21_1 : Nat → Nat → Nat → AExit → Fr → AHeap → Option (AExit × Fr × AHeap) := hide k21_1r

theorem k21_1_is : k21_1 = k21_1r := hide_eq _

theorem e21 (fuel d : Nat) (x0 : Sl) (x1 : Sl) (h : AHeap) :
    run fuel (d + 1) 21 [(AVal.slice x0), (AVal.slice x1)] h =
  (l21_0 fuel d fuel [(1, (AVal.slice x1)), (10, (AVal.slice x0)), (11, (AVal.int .i64 ((x0.len : Nat) : Int))), (12, (AVal.int .i64 (0 : Int)))] h).bind fun p1 =>
    k21_0 fuel d p1.1 p1.2.1 p1.2.2 := by
  generalize hh : run = R
  rw [run_is] at hh
  subst hh
  generalize hh : l21_0 = R
  rw [l21_0_is] at hh
  subst hh
  generalize hh : k21_0 = R
  rw [k21_0_is] at hh
  subst hh
  kernel_rfl

theorem l21_0_eq (fuel d : Nat) (n : Nat) (x1 : Sl) (x10 : Sl) (x11 : Int) (x12 : Int) (h : AHeap) :
    l21_0 fuel d (n + 1) [(1, (AVal.slice x1)), (10, (AVal.slice x10)), (11, (AVal.int .i64 x11)), (12, (AVal.int .i64 x12))] h =
  (bif (decide (x12 < x11)) then ((AHeap.addr h 1 x10 x12).bind fun p1 =>
    (AHeap.cell h p1).bind fun u2 =>
    (AVal.slice? u2).bind fun s3 =>
    (l21_1 fuel d fuel [(1, (AVal.slice x1)), (7, (AVal.bool false)), (10, (AVal.slice x10)), (11, (AVal.int .i64 x11)), (12, (AVal.int .i64 x12)), (16, (AVal.slice s3)), (17, (AVal.int .i64 ((s3.len : Nat) : Int))), (18, (AVal.int .i64 (0 : Int)))] h).bind fun p4 =>
    k21_1 fuel d n p4.1 p4.2.1 p4.2.2) else (some ((.exit 0), [(4, AVal.bot)], h))) := by
  generalize hh : l21_0 = R
  rw [l21_0_is] at hh
  subst hh
  generalize hh : l21_1 = R
  rw [l21_1_is] at hh
  subst hh
  generalize hh : k21_1 = R
  rw [k21_1_is] at hh
  subst hh
  kernel_rfl

theorem l21_0_0 (fuel d : Nat) (fr : Fr) (h : AHeap) :
    l21_0 fuel d 0 fr h =
  none := by
  generalize hh : l21_0 = R
  rw [l21_0_is] at hh
  subst hh
  kernel_rfl

theorem k21_0_x0 (fuel d : Nat) (x4 : AVal) (h : AHeap) :
    k21_0 fuel d (.exit 0) [(4, x4)] h =
  some ((AVal.bool true), h) := by
  generalize hh : k21_0 = R
  rw [k21_0_is] at hh
  subst hh
  kernel_rfl

theorem k21_0_r (fuel d : Nat) (x4 : Bool) (h : AHeap) :
    k21_0 fuel d .ret [(4, (AVal.bool x4))] h =
  some ((AVal.bool x4), h) := by
  generalize hh : k21_0 = R
  rw [k21_0_is] at hh
  subst hh
  kernel_rfl

theorem l21_1_eq (fuel d : Nat) (n : Nat) (x1 : Sl) (x7 : Bool) (x10 : Sl) (x11 : Int) (x12 : Int) (x16 : Sl) (x17 : Int) (x18 : Int) (h : AHeap) :
    l21_1 fuel d (n + 1) [(1, (AVal.slice x1)), (7, (AVal.bool x7)), (10, (AVal.slice x10)), (11, (AVal.int .i64 x11)), (12, (AVal.int .i64 x12)), (16, (AVal.slice x16)), (17, (AVal.int .i64 x17)), (18, (AVal.int .i64 x18))] h =
  (bif (decide (x18 < x17)) then ((AHeap.addr h 1 x16 x18).bind fun p1 =>
    (AHeap.cell h p1).bind fun u2 =>
    (AVal.int? .i64 u2).bind fun n3 =>
    ((bif (x7 == false) then ((run fuel d 45 [(AVal.int .i64 n3), (AVal.slice x1)] h).bind fun r4 =>
    (AVal.bool? r4.1).bind fun b5 =>
    some ((AVal.bool b5), r4.2)) else (some ((AVal.bool true), h)) : Option (AVal × AHeap))).bind fun r6 =>
    (AVal.bool? r6.1).bind fun b7 =>
    l21_1 fuel d n [(1, (AVal.slice x1)), (7, (AVal.bool b7)), (10, (AVal.slice x10)), (11, (AVal.int .i64 x11)), (12, (AVal.int .i64 x12)), (16, (AVal.slice x16)), (17, (AVal.int .i64 x17)), (18, (AVal.int .i64 (IntKind.wrap .i64 (x18 + (1 : Int)))))] r6.2) else (some ((.exit 2), [(1, (AVal.slice x1)), (7, (AVal.bool x7)), (10, (AVal.slice x10)), (11, (AVal.int .i64 x11)), (12, (AVal.int .i64 x12))], h))) := by
  generalize hh : run = R
  rw [run_is] at hh
  subst hh
  generalize hh : l21_1 = R
  rw [l21_1_is] at hh
  subst hh
  kernel_rfl

theorem l21_1_0 (fuel d : Nat) (fr : Fr) (h : AHeap) :
    l21_1 fuel d 0 fr h =
  none := by
  generalize hh : l21_1 = R
  rw [l21_1_is] at hh
  subst hh
  kernel_rfl

theorem k21_1_x2 (fuel d : Nat) (n : Nat) (x1 : Sl) (x7 : Bool) (x10 : Sl) (x11 : Int) (x12 : Int) (h : AHeap) :
    k21_1 fuel d n (.exit 2) [(1, (AVal.slice x1)), (7, (AVal.bool x7)), (10, (AVal.slice x10)), (11, (AVal.int .i64 x11)), (12, (AVal.int .i64 x12))] h =
  (bif (!x7) then (some (.ret, [(4, (AVal.bool false))], h)) else (l21_0 fuel d n [(1, (AVal.slice x1)), (10, (AVal.slice x10)), (11, (AVal.int .i64 x11)), (12, (AVal.int .i64 (IntKind.wrap .i64 (x12 + (1 : Int)))))] h)) := by
  generalize hh : l21_0 = R
  rw [l21_0_is] at hh
  subst hh
  generalize hh : k21_1 = R
  rw [k21_1_is] at hh
  subst hh
  kernel_rfl

/-! 22: (*skolem/assign.Assign).Model -/

noncomputable def s22_0 (fuel d : Nat) : Run := fun fr h k => aexec (C fuel) false (acall (C fuel) false d) (acall (C fuel) true d) 29 (csub [true, true, false, true, false, false] (fbody Go.Proofs.Try.f22)) (asub [true, true, false, true, false, false] an22) fr h k

noncomputable def l22_0r (fuel d : Nat) (n : Nat) (fr : Fr) (h : AHeap) : Option (AExit × Fr × AHeap) := aloop (s22_0 fuel d) (some [3, 15, 16, 17]) n fr h (kOut [3])

noncomputable def l22_0 : Nat → Nat → Nat → Fr → AHeap → Option (AExit × Fr × AHeap) := hide l22_0r

theorem l22_0_is : l22_0 = l22_0r := hide_eq _

noncomputable def k22_0r (fuel d : Nat) : AExit → Fr → AHeap → Option (AVal × AHeap) := (kBlock 0 (kSeq (C fuel) false (acall (C fuel) false d) (acall (C fuel) true d) 29 (csub [true, true, true] (fbody Go.Proofs.Try.f22)) (asub [true, true, true] an22) (kRet Go.Proofs.Try.f22.results.toList)))

noncomputable def k22_0 : Nat → Nat → AExit → Fr → AHeap → Option (AVal × AHeap) := hide k22_0r

theorem k22_0_is : k22_0 = k22_0r := hide_eq _

theorem e22 (fuel d : Nat) (x0 : Pt) (h : AHeap) :
    run fuel (d + 1) 22 [(AVal.ptr x0)] h =
  (Pt.chk x0).bind fun p1 =>
    (Pt.field 0 p1).bind fun p2 =>
    (AHeap.cell h p2).bind fun u3 =>
    (AVal.slice? u3).bind fun s4 =>
    (bif (true && decide (0 ≤ ((s4.len : Nat) : Int)) && decide (((s4.len : Nat) : Int) ≤ ((s4.len : Nat) : Int)) && decide (((s4.len : Nat) : Int) * 1 ≤ 140737488355328) && decide (((s4.len : Nat) : Int) ≤ 140737488355328)) then ((Pt.chk x0).bind fun p5 =>
    (Pt.field 0 p5).bind fun p6 =>
    (AHeap.cell (AHeap.push h 1 (repeatCells [(AVal.bool false)] (Int.toNat ((s4.len : Nat) : Int)))) p6).bind fun u7 =>
    (AVal.slice? u7).bind fun s8 =>
    (l22_0 fuel d fuel [(3, (AVal.slice (Sl.mk ⟨AHeap.next h, 0, 0⟩ (Int.toNat ((s4.len : Nat) : Int)) (decide (((s4.len : Nat) : Int) = ((s4.len : Nat) : Int)))))), (15, (AVal.slice s8)), (16, (AVal.int .i64 ((s8.len : Nat) : Int))), (17, (AVal.int .i64 (0 : Int)))] (AHeap.push h 1 (repeatCells [(AVal.bool false)] (Int.toNat ((s4.len : Nat) : Int))))).bind fun p9 =>
    k22_0 fuel d p9.1 p9.2.1 p9.2.2) else (none)) := by
  generalize hh : run = R
  rw [run_is] at hh
  subst hh
  generalize hh : l22_0 = R
  rw [l22_0_is] at hh
  subst hh
  generalize hh : k22_0 = R
  rw [k22_0_is] at hh
  subst hh
  kernel_rfl

theorem l22_0_eq (fuel d : Nat) (n : Nat) (x3 : Sl) (x15 : Sl) (x16 : Int) (x17 : Int) (h : AHeap) :
    l22_0 fuel d (n + 1) [(3, (AVal.slice x3)), (15, (AVal.slice x15)), (16, (AVal.int .i64 x16)), (17, (AVal.int .i64 x17))] h =
  (bif (decide (x17 < x16)) then ((AHeap.addr h 1 x15 x17).bind fun p1 =>
    (AHeap.cell h p1).bind fun u2 =>
    (AVal.int? .i8 u2).bind fun n3 =>
    (AHeap.addr h 1 x3 x17).bind fun p4 =>
    (AHeap.storeAt h [(AVal.bool (decide (n3 = (1 : Int))))] p4).bind fun h5 =>
    l22_0 fuel d n [(3, (AVal.slice x3)), (15, (AVal.slice x15)), (16, (AVal.int .i64 x16)), (17, (AVal.int .i64 (IntKind.wrap .i64 (x17 + (1 : Int)))))] h5) else (some ((.exit 0), [(3, (AVal.slice x3))], h))) := by
  generalize hh : l22_0 = R
  rw [l22_0_is] at hh
  subst hh
  kernel_rfl

theorem l22_0_0 (fuel d : Nat) (fr : Fr) (h : AHeap) :
    l22_0 fuel d 0 fr h =
  none := by
  generalize hh : l22_0 = R
  rw [l22_0_is] at hh
  subst hh
  kernel_rfl

theorem k22_0_x0 (fuel d : Nat) (x3 : Sl) (h : AHeap) :
    k22_0 fuel d (.exit 0) [(3, (AVal.slice x3))] h =
  some ((AVal.slice x3), h) := by
  generalize hh : k22_0 = R
  rw [k22_0_is] at hh
  subst hh
  kernel_rfl

/-! 23: (*skolem/assign.Assign).Known -/

noncomputable def s23_0 (fuel d : Nat) : Run := fun fr h k => aexec (C fuel) false (acall (C fuel) false d) (acall (C fuel) true d) 31 (csub [true, true, false, true, false, false] (fbody Go.Proofs.Try.f23)) (asub [true, true, false, true, false, false] an23) fr h k

noncomputable def l23_0r (fuel d : Nat) (n : Nat) (fr : Fr) (h : AHeap) : Option (AExit × Fr × AHeap) := aloop (s23_0 fuel d) (some [3, 9, 10, 11]) n fr h (kOut [3])

noncomputable def l23_0 : Nat → Nat → Nat → Fr → AHeap → Option (AExit × Fr × AHeap) := hide l23_0r

theorem l23_0_is : l23_0 = l23_0r := hide_eq _

noncomputable def k23_0r (fuel d : Nat) : AExit → Fr → AHeap → Option (AVal × AHeap) := (kBlock 0 (kSeq (C fuel) false (acall (C fuel) false d) (acall (C fuel) true d) 31 (csub [true, true, true] (fbody Go.Proofs.Try.f23)) (asub [true, true, true] an23) (kRet Go.Proofs.Try.f23.results.toList)))

noncomputable def k23_0 : Nat → Nat → AExit → Fr → AHeap → Option (AVal × AHeap) := hide k23_0r

theorem k23_0_is : k23_0 = k23_0r := hide_eq _

noncomputable def k23_1r (fuel d : Nat) (n : Nat) : AExit → Fr → AHeap → Option (AExit × Fr × AHeap) := (kSeq (C fuel) false (acall (C fuel) false d) (acall (C fuel) true d) 31 (csub [true, true, false, true, false, false, true, true, false, false, true, true] (fbody Go.Proofs.Try.f23)) (asub [true, true, false, true, false, false, true, true, false, false, true, true] an23) (kBlock 1 (kSeq (C fuel) false (acall (C fuel) false d) (acall (C fuel) true d) 31 (csub [true, true, false, true, false, false, true, true, true] (fbody Go.Proofs.Try.f23)) (asub [true, true, false, true, false, false, true, true, true] an23) (kLoop (s23_0 fuel d) (some [3, 9, 10, 11]) n (kOut [3])))))

noncomputable def k23_1 : Nat → Nat → Nat → AExit → Fr → AHeap → Option (AExit × Fr × AHeap) := hide k23_1r

theorem k23_1_is : k23_1 = k23_1r := hide_eq _

theorem e23 (fuel d : Nat) (x0 : Pt) (h : AHeap) :
    run fuel (d + 1) 23 [(AVal.ptr x0)] h =
  (Pt.chk x0).bind fun p1 =>
    (Pt.field 0 p1).bind fun p2 =>
    (AHeap.cell h p2).bind fun u3 =>
    (AVal.slice? u3).bind fun s4 =>
    (l23_0 fuel d fuel [(3, (AVal.slice Sl.nil)), (9, (AVal.slice s4)), (10, (AVal.int .i64 ((s4.len : Nat) : Int))), (11, (AVal.int .i64 (0 : Int)))] h).bind fun p5 =>
    k23_0 fuel d p5.1 p5.2.1 p5.2.2 := by
  generalize hh : run = R
  rw [run_is] at hh
  subst hh
  generalize hh : l23_0 = R
  rw [l23_0_is] at hh
  subst hh
  generalize hh : k23_0 = R
  rw [k23_0_is] at hh
  subst hh
  kernel_rfl

theorem l23_0_eq (fuel d : Nat) (n : Nat) (x3 : Sl) (x9 : Sl) (x10 : Int) (x11 : Int) (h : AHeap) :
    l23_0 fuel d (n + 1) [(3, (AVal.slice x3)), (9, (AVal.slice x9)), (10, (AVal.int .i64 x10)), (11, (AVal.int .i64 x11))] h =
  (bif (decide (x11 < x10)) then ((AHeap.addr h 1 x9 x11).bind fun p1 =>
    (AHeap.cell h p1).bind fun u2 =>
    (AVal.int? .i8 u2).bind fun n3 =>
    ((bif (decide (n3 = (1 : Int))) then ((AHeap.sliceCells (AHeap.push h 1 [(AVal.int .i64 x11)]) 1 (Sl.mk ⟨AHeap.next h, 0, 0⟩ 1 true)).bind fun xs4 =>
    (AHeap.append (AHeap.push h 1 [(AVal.int .i64 x11)]) false 1 8 x3 (Sl.mk ⟨AHeap.next h, 0, 0⟩ 1 true).len xs4).bind fun a5 =>
    some (.normal, [(3, (AVal.slice a5.1)), (4, (AVal.int .i64 x11)), (5, (AVal.int .i8 n3)), (9, (AVal.slice x9)), (10, (AVal.int .i64 x10)), (11, (AVal.int .i64 x11))], a5.2)) else (some (.normal, [(3, (AVal.slice x3)), (4, (AVal.int .i64 x11)), (5, (AVal.int .i8 n3)), (9, (AVal.slice x9)), (10, (AVal.int .i64 x10)), (11, (AVal.int .i64 x11))], h)))).bind fun p6 =>
    k23_1 fuel d n p6.1 p6.2.1 p6.2.2) else (some ((.exit 0), [(3, (AVal.slice x3))], h))) := by
  generalize hh : l23_0 = R
  rw [l23_0_is] at hh
  subst hh
  generalize hh : k23_1 = R
  rw [k23_1_is] at hh
  subst hh
  kernel_rfl

theorem l23_0_0 (fuel d : Nat) (fr : Fr) (h : AHeap) :
    l23_0 fuel d 0 fr h =
  none := by
  generalize hh : l23_0 = R
  rw [l23_0_is] at hh
  subst hh
  kernel_rfl

theorem k23_0_x0 (fuel d : Nat) (x3 : Sl) (h : AHeap) :
    k23_0 fuel d (.exit 0) [(3, (AVal.slice x3))] h =
  some ((AVal.slice x3), h) := by
  generalize hh : k23_0 = R
  rw [k23_0_is] at hh
  subst hh
  kernel_rfl

theorem k23_1_n (fuel d : Nat) (n : Nat) (x3 : Sl) (x4 : Int) (x5 : Int) (x9 : Sl) (x10 : Int) (x11 : Int) (h : AHeap) :
    k23_1 fuel d n .normal [(3, (AVal.slice x3)), (4, (AVal.int .i64 x4)), (5, (AVal.int .i8 x5)), (9, (AVal.slice x9)), (10, (AVal.int .i64 x10)), (11, (AVal.int .i64 x11))] h =
  (bif (decide (x5 = (2 : Int))) then ((AHeap.sliceCells (AHeap.push h 1 [(AVal.int .i64 (IntKind.wrap .i64 (0 - x4)))]) 1 (Sl.mk ⟨AHeap.next h, 0, 0⟩ 1 true)).bind fun xs1 =>
    (AHeap.append (AHeap.push h 1 [(AVal.int .i64 (IntKind.wrap .i64 (0 - x4)))]) false 1 8 x3 (Sl.mk ⟨AHeap.next h, 0, 0⟩ 1 true).len xs1).bind fun a2 =>
    l23_0 fuel d n [(3, (AVal.slice a2.1)), (9, (AVal.slice x9)), (10, (AVal.int .i64 x10)), (11, (AVal.int .i64 (IntKind.wrap .i64 (x11 + (1 : Int)))))] a2.2) else (l23_0 fuel d n [(3, (AVal.slice x3)), (9, (AVal.slice x9)), (10, (AVal.int .i64 x10)), (11, (AVal.int .i64 (IntKind.wrap .i64 (x11 + (1 : Int)))))] h)) := by
  generalize hh : l23_0 = R
  rw [l23_0_is] at hh
  subst hh
  generalize hh : k23_1 = R
  rw [k23_1_is] at hh
  subst hh
  kernel_rfl

/-! 24: skolem/skolemmake.Near -/

noncomputable def s24_0 (fuel d : Nat) : Run := fun fr h k => aexec (C fuel) false (acall (C fuel) false d) (acall (C fuel) true d) 15 (csub [true, false, true, false, false] (fbody Go.Proofs.Try.f24)) (asub [true, false, true, false, false] an24) fr h k

noncomputable def l24_0r (fuel d : Nat) (n : Nat) (fr : Fr) (h : AHeap) : Option (AExit × Fr × AHeap) := aloop (s24_0 fuel d) (some [0, 3]) n fr h (kOut [2])

noncomputable def l24_0 : Nat → Nat → Nat → Fr → AHeap → Option (AExit × Fr × AHeap) := hide l24_0r

theorem l24_0_is : l24_0 = l24_0r := hide_eq _

noncomputable def k24_0r (fuel d : Nat) : AExit → Fr → AHeap → Option (AVal × AHeap) := (kBlock 0 (kSeq (C fuel) false (acall (C fuel) false d) (acall (C fuel) true d) 15 (csub [true, true] (fbody Go.Proofs.Try.f24)) (asub [true, true] an24) (kRet Go.Proofs.Try.f24.results.toList)))

noncomputable def k24_0 : Nat → Nat → AExit → Fr → AHeap → Option (AVal × AHeap) := hide k24_0r

theorem k24_0_is : k24_0 = k24_0r := hide_eq _

theorem e24 (fuel d : Nat) (x0 : Sl) (h : AHeap) :
    run fuel (d + 1) 24 [(AVal.slice x0)] h =
  (l24_0 fuel d fuel [(0, (AVal.slice x0)), (3, (AVal.int .i64 (0 : Int)))] h).bind fun p1 =>
    k24_0 fuel d p1.1 p1.2.1 p1.2.2 := by
  generalize hh : run = R
  rw [run_is] at hh
  subst hh
  generalize hh : l24_0 = R
  rw [l24_0_is] at hh
  subst hh
  generalize hh : k24_0 = R
  rw [k24_0_is] at hh
  subst hh
  kernel_rfl

theorem l24_0_eq (fuel d : Nat) (n : Nat) (x0 : Sl) (x3 : Int) (h : AHeap) :
    l24_0 fuel d (n + 1) [(0, (AVal.slice x0)), (3, (AVal.int .i64 x3))] h =
  (bif (decide (x3 < ((x0.len : Nat) : Int))) then ((AHeap.addr h 1 x0 x3).bind fun p1 =>
    (AHeap.cell h p1).bind fun u2 =>
    (AVal.int? .i64 u2).bind fun n3 =>
    (bif (decide (n3 < (-1152921504606846976 : Int))) then (some (.ret, [(2, (AVal.bool false))], h)) else (l24_0 fuel d n [(0, (AVal.slice x0)), (3, (AVal.int .i64 (IntKind.wrap .i64 (x3 + (1 : Int)))))] h))) else (some ((.exit 0), [(2, AVal.bot)], h))) := by
  generalize hh : l24_0 = R
  rw [l24_0_is] at hh
  subst hh
  kernel_rfl

theorem l24_0_0 (fuel d : Nat) (fr : Fr) (h : AHeap) :
    l24_0 fuel d 0 fr h =
  none := by
  generalize hh : l24_0 = R
  rw [l24_0_is] at hh
  subst hh
  kernel_rfl

theorem k24_0_x0 (fuel d : Nat) (x2 : AVal) (h : AHeap) :
    k24_0 fuel d (.exit 0) [(2, x2)] h =
  some ((AVal.bool true), h) := by
  generalize hh : k24_0 = R
  rw [k24_0_is] at hh
  subst hh
  kernel_rfl

theorem k24_0_r (fuel d : Nat) (x2 : Bool) (h : AHeap) :
    k24_0 fuel d .ret [(2, (AVal.bool x2))] h =
  some ((AVal.bool x2), h) := by
  generalize hh : k24_0 = R
  rw [k24_0_is] at hh
  subst hh
  kernel_rfl

/-! 25: skolem/skolemmake.Count -/

noncomputable def s25_0 (fuel d : Nat) : Run := fun fr h k => aexec (C fuel) false (acall (C fuel) false d) (acall (C fuel) true d) 19 (csub [true, true, false, true, false, false] (fbody Go.Proofs.Try.f25)) (asub [true, true, false, true, false, false] an25) fr h k

noncomputable def l25_0r (fuel d : Nat) (n : Nat) (fr : Fr) (h : AHeap) : Option (AExit × Fr × AHeap) := aloop (s25_0 fuel d) (some [0, 3, 4]) n fr h (kOut [3])

noncomputable def l25_0 : Nat → Nat → Nat → Fr → AHeap → Option (AExit × Fr × AHeap) := hide l25_0r

theorem l25_0_is : l25_0 = l25_0r := hide_eq _

noncomputable def k25_0r (fuel d : Nat) : AExit → Fr → AHeap → Option (AVal × AHeap) := (kBlock 0 (kSeq (C fuel) false (acall (C fuel) false d) (acall (C fuel) true d) 19 (csub [true, true, true] (fbody Go.Proofs.Try.f25)) (asub [true, true, true] an25) (kRet Go.Proofs.Try.f25.results.toList)))

noncomputable def k25_0 : Nat → Nat → AExit → Fr → AHeap → Option (AVal × AHeap) := hide k25_0r

theorem k25_0_is : k25_0 = k25_0r := hide_eq _

theorem e25 (fuel d : Nat) (x0 : Sl) (h : AHeap) :
    run fuel (d + 1) 25 [(AVal.slice x0)] h =
  (l25_0 fuel d fuel [(0, (AVal.slice x0)), (3, (AVal.int .i64 (0 : Int))), (4, (AVal.int .i64 (0 : Int)))] h).bind fun p1 =>
    k25_0 fuel d p1.1 p1.2.1 p1.2.2 := by
  generalize hh : run = R
  rw [run_is] at hh
  subst hh
  generalize hh : l25_0 = R
  rw [l25_0_is] at hh
  subst hh
  generalize hh : k25_0 = R
  rw [k25_0_is] at hh
  subst hh
  kernel_rfl

theorem l25_0_eq (fuel d : Nat) (n : Nat) (x0 : Sl) (x3 : Int) (x4 : Int) (h : AHeap) :
    l25_0 fuel d (n + 1) [(0, (AVal.slice x0)), (3, (AVal.int .i64 x3)), (4, (AVal.int .i64 x4))] h =
  (bif (decide (x4 < ((x0.len : Nat) : Int))) then ((AHeap.addr h 1 x0 x4).bind fun p1 =>
    (AHeap.cell h p1).bind fun u2 =>
    (AVal.slice? u2).bind fun s3 =>
    l25_0 fuel d n [(0, (AVal.slice x0)), (3, (AVal.int .i64 (IntKind.wrap .i64 (x3 + ((s3.len : Nat) : Int))))), (4, (AVal.int .i64 (IntKind.wrap .i64 (x4 + (1 : Int)))))] h) else (some ((.exit 0), [(3, (AVal.int .i64 x3))], h))) := by
  generalize hh : l25_0 = R
  rw [l25_0_is] at hh
  subst hh
  kernel_rfl

theorem l25_0_0 (fuel d : Nat) (fr : Fr) (h : AHeap) :
    l25_0 fuel d 0 fr h =
  none := by
  generalize hh : l25_0 = R
  rw [l25_0_is] at hh
  subst hh
  kernel_rfl

theorem k25_0_x0 (fuel d : Nat) (x3 : Int) (h : AHeap) :
    k25_0 fuel d (.exit 0) [(3, (AVal.int .i64 x3))] h =
  some ((AVal.int .i64 x3), h) := by
  generalize hh : k25_0 = R
  rw [k25_0_is] at hh
  subst hh
  kernel_rfl

/-! 26: skolem/skolemref1.NewAssign -/

theorem e26 (fuel d : Nat) (x0 : Int) (h : AHeap) :
    run fuel (d + 1) 26 [(AVal.int .i64 x0)] h =
  (bif (true && decide (0 ≤ (IntKind.wrap .i64 ((bif decide ((4000 : Int) < (bif decide (x0 < (0 : Int)) then (0 : Int) else x0)) then (4000 : Int) else (bif decide (x0 < (0 : Int)) then (0 : Int) else x0)) + (1 : Int)))) && decide ((IntKind.wrap .i64 ((bif decide ((4000 : Int) < (bif decide (x0 < (0 : Int)) then (0 : Int) else x0)) then (4000 : Int) else (bif decide (x0 < (0 : Int)) then (0 : Int) else x0)) + (1 : Int))) ≤ (IntKind.wrap .i64 ((bif decide ((4000 : Int) < (bif decide (x0 < (0 : Int)) then (0 : Int) else x0)) then (4000 : Int) else (bif decide (x0 < (0 : Int)) then (0 : Int) else x0)) + (1 : Int)))) && decide ((IntKind.wrap .i64 ((bif decide ((4000 : Int) < (bif decide (x0 < (0 : Int)) then (0 : Int) else x0)) then (4000 : Int) else (bif decide (x0 < (0 : Int)) then (0 : Int) else x0)) + (1 : Int))) * 8 ≤ 140737488355328) && decide ((IntKind.wrap .i64 ((bif decide ((4000 : Int) < (bif decide (x0 < (0 : Int)) then (0 : Int) else x0)) then (4000 : Int) else (bif decide (x0 < (0 : Int)) then (0 : Int) else x0)) + (1 : Int))) ≤ 140737488355328)) then (some ((AVal.ptr (Pt.mk ⟨AHeap.next (AHeap.push h 1 (repeatCells [(AVal.int .i64 (0 : Int))] (Int.toNat (IntKind.wrap .i64 ((bif decide ((4000 : Int) < (bif decide (x0 < (0 : Int)) then (0 : Int) else x0)) then (4000 : Int) else (bif decide (x0 < (0 : Int)) then (0 : Int) else x0)) + (1 : Int)))))), 0, 0⟩ 1)), (AHeap.push (AHeap.push h 1 (repeatCells [(AVal.int .i64 (0 : Int))] (Int.toNat (IntKind.wrap .i64 ((bif decide ((4000 : Int) < (bif decide (x0 < (0 : Int)) then (0 : Int) else x0)) then (4000 : Int) else (bif decide (x0 < (0 : Int)) then (0 : Int) else x0)) + (1 : Int)))))) 1 [(AVal.slice (Sl.mk ⟨AHeap.next h, 0, 0⟩ (Int.toNat (IntKind.wrap .i64 ((bif decide ((4000 : Int) < (bif decide (x0 < (0 : Int)) then (0 : Int) else x0)) then (4000 : Int) else (bif decide (x0 < (0 : Int)) then (0 : Int) else x0)) + (1 : Int)))) (decide ((IntKind.wrap .i64 ((bif decide ((4000 : Int) < (bif decide (x0 < (0 : Int)) then (0 : Int) else x0)) then (4000 : Int) else (bif decide (x0 < (0 : Int)) then (0 : Int) else x0)) + (1 : Int))) = (IntKind.wrap .i64 ((bif decide ((4000 : Int) < (bif decide (x0 < (0 : Int)) then (0 : Int) else x0)) then (4000 : Int) else (bif decide (x0 < (0 : Int)) then (0 : Int) else x0)) + (1 : Int)))))))]))) else (none)) := by
  generalize hh : run = R
  rw [run_is] at hh
  subst hh
  kernel_rfl

/-! 27: skolem/skolemmake.Right -/

noncomputable def s27_0 (fuel d : Nat) : Run := fun fr h k => aexec (C fuel) false (acall (C fuel) false d) (acall (C fuel) true d) 34 (csub [true, false, true, false, false] (fbody Go.Proofs.Try.f27)) (asub [true, false, true, false, false] an27) fr h k

noncomputable def l27_0r (fuel d : Nat) (n : Nat) (fr : Fr) (h : AHeap) : Option (AExit × Fr × AHeap) := aloop (s27_0 fuel d) (some [0, 1, 5]) n fr h (kOut [4])

noncomputable def l27_0 : Nat → Nat → Nat → Fr → AHeap → Option (AExit × Fr × AHeap) := hide l27_0r

theorem l27_0_is : l27_0 = l27_0r := hide_eq _

noncomputable def k27_0r (fuel d : Nat) : AExit → Fr → AHeap → Option (AVal × AHeap) := (kBlock 0 (kSeq (C fuel) false (acall (C fuel) false d) (acall (C fuel) true d) 34 (csub [true, true] (fbody Go.Proofs.Try.f27)) (asub [true, true] an27) (kRet Go.Proofs.Try.f27.results.toList)))

noncomputable def k27_0 : Nat → Nat → AExit → Fr → AHeap → Option (AVal × AHeap) := hide k27_0r

theorem k27_0_is : k27_0 = k27_0r := hide_eq _

theorem e27 (fuel d : Nat) (x0 : Sl) (x1 : Int) (h : AHeap) :
    run fuel (d + 1) 27 [(AVal.slice x0), (AVal.int .i64 x1)] h =
  (l27_0 fuel d fuel [(0, (AVal.slice x0)), (1, (AVal.int .i64 x1)), (5, (AVal.int .i64 (0 : Int)))] h).bind fun p1 =>
    k27_0 fuel d p1.1 p1.2.1 p1.2.2 := by
  generalize hh : run = R
  rw [run_is] at hh
  subst hh
  generalize hh : l27_0 = R
  rw [l27_0_is] at hh
  subst hh
  generalize hh : k27_0 = R
  rw [k27_0_is] at hh
  subst hh
  kernel_rfl

theorem l27_0_eq (fuel d : Nat) (n : Nat) (x0 : Sl) (x1 : Int) (x5 : Int) (h : AHeap) :
    l27_0 fuel d (n + 1) [(0, (AVal.slice x0)), (1, (AVal.int .i64 x1)), (5, (AVal.int .i64 x5))] h =
  (bif (decide (x5 < ((x0.len : Nat) : Int))) then ((AHeap.addr h 1 x0 x5).bind fun p1 =>
    (AHeap.cell h p1).bind fun u2 =>
    (AVal.int? .i64 u2).bind fun n3 =>
    ((bif ((decide (n3 = (0 : Int))) == false) then ((AHeap.addr h 1 x0 x5).bind fun p4 =>
    (AHeap.cell h p4).bind fun u5 =>
    (AVal.int? .i64 u5).bind fun n6 =>
    some ((AVal.bool (decide (x1 < n6))), h)) else (some ((AVal.bool true), h)) : Option (AVal × AHeap))).bind fun r7 =>
    (AVal.bool? r7.1).bind fun b8 =>
    ((bif (b8 == false) then ((AHeap.addr r7.2 1 x0 x5).bind fun p9 =>
    (AHeap.cell r7.2 p9).bind fun u10 =>
    (AVal.int? .i64 u10).bind fun n11 =>
    some ((AVal.bool (decide (n11 < (IntKind.wrap .i64 (0 - x1))))), r7.2)) else (some ((AVal.bool true), r7.2)) : Option (AVal × AHeap))).bind fun r12 =>
    (AVal.bool? r12.1).bind fun b13 =>
    (bif b13 then (some (.ret, [(4, (AVal.bool false))], r12.2)) else (l27_0 fuel d n [(0, (AVal.slice x0)), (1, (AVal.int .i64 x1)), (5, (AVal.int .i64 (IntKind.wrap .i64 (x5 + (1 : Int)))))] r12.2))) else (some ((.exit 0), [(4, AVal.bot)], h))) := by
  generalize hh : l27_0 = R
  rw [l27_0_is] at hh
  subst hh
  kernel_rfl

theorem l27_0_0 (fuel d : Nat) (fr : Fr) (h : AHeap) :
    l27_0 fuel d 0 fr h =
  none := by
  generalize hh : l27_0 = R
  rw [l27_0_is] at hh
  subst hh
  kernel_rfl

theorem k27_0_x0 (fuel d : Nat) (x4 : AVal) (h : AHeap) :
    k27_0 fuel d (.exit 0) [(4, x4)] h =
  some ((AVal.bool true), h) := by
  generalize hh : k27_0 = R
  rw [k27_0_is] at hh
  subst hh
  kernel_rfl

theorem k27_0_r (fuel d : Nat) (x4 : Bool) (h : AHeap) :
    k27_0 fuel d .ret [(4, (AVal.bool x4))] h =
  some ((AVal.bool x4), h) := by
  generalize hh : k27_0 = R
  rw [k27_0_is] at hh
  subst hh
  kernel_rfl

/-! 28: (*skolem/skolemref1.Assign).Set -/

theorem e28 (fuel d : Nat) (x0 : Pt) (x1 : Int) (h : AHeap) :
    run fuel (d + 1) 28 [(AVal.ptr x0), (AVal.int .i64 x1)] h =
  (Pt.chk x0).bind fun p1 =>
    (Pt.field 0 p1).bind fun p2 =>
    (AHeap.cell h p2).bind fun u3 =>
    (AVal.slice? u3).bind fun s4 =>
    (run fuel d 46 [(AVal.int .i64 x1), (AVal.int .i64 (IntKind.wrap .i64 (((s4.len : Nat) : Int) - (1 : Int))))] h).bind fun r5 =>
    (AVal.bool? r5.1).bind fun b6 =>
    ((bif ((!b6) == false) then ((run fuel d 31 [(AVal.ptr x0), (AVal.int .i64 x1)] r5.2).bind fun r7 =>
    (AVal.int? .i64 r7.1).bind fun n8 =>
    some ((AVal.bool (decide (n8 = (2 : Int)))), r7.2)) else (some ((AVal.bool true), r5.2)) : Option (AVal × AHeap))).bind fun r9 =>
    (AVal.bool? r9.1).bind fun b10 =>
    (bif b10 then (some ((AVal.bool false), r9.2)) else ((bif (decide ((0 : Int) < x1)) then ((Pt.chk x0).bind fun p11 =>
    (Pt.field 0 p11).bind fun p12 =>
    (AHeap.cell r9.2 p12).bind fun u13 =>
    (AVal.slice? u13).bind fun s14 =>
    (AHeap.addr r9.2 1 s14 x1).bind fun p15 =>
    (AHeap.storeAt r9.2 [(AVal.int .i64 (1 : Int))] p15).bind fun h16 =>
    some ((AVal.bool true), h16)) else ((Pt.chk x0).bind fun p17 =>
    (Pt.field 0 p17).bind fun p18 =>
    (AHeap.cell r9.2 p18).bind fun u19 =>
    (AVal.slice? u19).bind fun s20 =>
    (AHeap.addr r9.2 1 s20 (IntKind.wrap .i64 (0 - x1))).bind fun p21 =>
    (AHeap.storeAt r9.2 [(AVal.int .i64 (2 : Int))] p21).bind fun h22 =>
    some ((AVal.bool true), h22))))) := by
  generalize hh : run = R
  rw [run_is] at hh
  subst hh
  kernel_rfl

/-! 29: (*skolem/skolemref1.Assign).Unset -/

theorem e29 (fuel d : Nat) (x0 : Pt) (x1 : Int) (h : AHeap) :
    run fuel (d + 1) 29 [(AVal.ptr x0), (AVal.int .i64 x1)] h =
  ((bif ((decide ((0 : Int) < x1)) == true) then ((Pt.chk x0).bind fun p1 =>
    (Pt.field 0 p1).bind fun p2 =>
    (AHeap.cell h p2).bind fun u3 =>
    (AVal.slice? u3).bind fun s4 =>
    some ((AVal.bool (decide (x1 < ((s4.len : Nat) : Int)))), h)) else (some ((AVal.bool false), h)) : Option (AVal × AHeap))).bind fun r5 =>
    (AVal.bool? r5.1).bind fun b6 =>
    (bif b6 then ((Pt.chk x0).bind fun p7 =>
    (Pt.field 0 p7).bind fun p8 =>
    (AHeap.cell r5.2 p8).bind fun u9 =>
    (AVal.slice? u9).bind fun s10 =>
    (AHeap.addr r5.2 1 s10 x1).bind fun p11 =>
    (AHeap.storeAt r5.2 [(AVal.int .i64 (0 : Int))] p11).bind fun h12 =>
    some ((AVal.tup []), h12)) else (some ((AVal.tup []), r5.2))) := by
  generalize hh : run = R
  rw [run_is] at hh
  subst hh
  kernel_rfl

/-! 30: (*skolem/skolemref1.Assign).Clause -/

noncomputable def s30_0 (fuel d : Nat) : Run := fun fr h k => aexec (C fuel) false (acall (C fuel) false d) (acall (C fuel) true d) 42 (csub [true, true, true, false, true, false, false] (fbody Go.Proofs.Try.f30)) (asub [true, true, true, false, true, false, false] an30) fr h k

noncomputable def l30_0r (fuel d : Nat) (n : Nat) (fr : Fr) (h : AHeap) : Option (AExit × Fr × AHeap) := aloop (s30_0 fuel d) (some [0, 1, 6, 7, 8]) n fr h (kOut [4, 5, 6, 7])

noncomputable def l30_0 : Nat → Nat → Nat → Fr → AHeap → Option (AExit × Fr × AHeap) := hide l30_0r

theorem l30_0_is : l30_0 = l30_0r := hide_eq _

noncomputable def k30_0r (fuel d : Nat) : AExit → Fr → AHeap → Option (AVal × AHeap) := (kBlock 0 (kSeq (C fuel) false (acall (C fuel) false d) (acall (C fuel) true d) 42 (csub [true, true, true, true] (fbody Go.Proofs.Try.f30)) (asub [true, true, true, true] an30) (kRet Go.Proofs.Try.f30.results.toList)))

noncomputable def k30_0 : Nat → Nat → AExit → Fr → AHeap → Option (AVal × AHeap) := hide k30_0r

theorem k30_0_is : k30_0 = k30_0r := hide_eq _

noncomputable def k30_1r (fuel d : Nat) (n : Nat) : AExit → Fr → AHeap → Option (AExit × Fr × AHeap) := (kSeq (C fuel) false (acall (C fuel) false d) (acall (C fuel) true d) 42 (csub [true, true, true, false, true, false, false, true, false, false, true, false, true, true, true, false, true] (fbody Go.Proofs.Try.f30)) (asub [true, true, true, false, true, false, false, true, false, false, true, false, true, true, true, false, true] an30) (kBlock 2 (kBlock 1 (kSeq (C fuel) false (acall (C fuel) false d) (acall (C fuel) true d) 42 (csub [true, true, true, false, true, false, false, true, true] (fbody Go.Proofs.Try.f30)) (asub [true, true, true, false, true, false, false, true, true] an30) (kLoop (s30_0 fuel d) (some [0, 1, 6, 7, 8]) n (kOut [4, 5, 6, 7]))))))

noncomputable def k30_1 : Nat → Nat → Nat → AExit → Fr → AHeap → Option (AExit × Fr × AHeap) := hide k30_1r

theorem k30_1_is : k30_1 = k30_1r := hide_eq _

theorem e30 (fuel d : Nat) (x0 : Pt) (x1 : Sl) (h : AHeap) :
    run fuel (d + 1) 30 [(AVal.ptr x0), (AVal.slice x1)] h =
  (l30_0 fuel d fuel [(0, (AVal.ptr x0)), (1, (AVal.slice x1)), (6, (AVal.int .i64 (0 : Int))), (7, (AVal.int .i64 (0 : Int))), (8, (AVal.int .i64 (0 : Int)))] h).bind fun p1 =>
    k30_0 fuel d p1.1 p1.2.1 p1.2.2 := by
  generalize hh : run = R
  rw [run_is] at hh
  subst hh
  generalize hh : l30_0 = R
  rw [l30_0_is] at hh
  subst hh
  generalize hh : k30_0 = R
  rw [k30_0_is] at hh
  subst hh
  kernel_rfl

theorem l30_0_eq (fuel d : Nat) (n : Nat) (x0 : Pt) (x1 : Sl) (x6 : Int) (x7 : Int) (x8 : Int) (h : AHeap) :
    l30_0 fuel d (n + 1) [(0, (AVal.ptr x0)), (1, (AVal.slice x1)), (6, (AVal.int .i64 x6)), (7, (AVal.int .i64 x7)), (8, (AVal.int .i64 x8))] h =
  (bif (decide (x8 < ((x1.len : Nat) : Int))) then ((AHeap.addr h 1 x1 x8).bind fun p1 =>
    (AHeap.cell h p1).bind fun u2 =>
    (AVal.int? .i64 u2).bind fun n3 =>
    (run fuel d 31 [(AVal.ptr x0), (AVal.int .i64 n3)] h).bind fun r4 =>
    (AVal.int? .i64 r4.1).bind fun n5 =>
    (bif (decide (n5 = (1 : Int))) then (some (.ret, [(4, (AVal.int .i64 (1 : Int))), (5, (AVal.int .i64 (0 : Int))), (6, (AVal.int .i64 x6)), (7, (AVal.int .i64 x7))], r4.2)) else ((bif (decide (n5 = (0 : Int))) then ((AHeap.addr r4.2 1 x1 x8).bind fun p6 =>
    (AHeap.cell r4.2 p6).bind fun u7 =>
    (AVal.int? .i64 u7).bind fun n8 =>
    ((bif (!decide (n8 = x6)) then (some (.normal, [(0, (AVal.ptr x0)), (1, (AVal.slice x1)), (7, (AVal.int .i64 (IntKind.wrap .i64 (x7 + (1 : Int))))), (8, (AVal.int .i64 x8))], r4.2)) else (some (.normal, [(0, (AVal.ptr x0)), (1, (AVal.slice x1)), (7, (AVal.int .i64 x7)), (8, (AVal.int .i64 x8))], r4.2)))).bind fun p9 =>
    k30_1 fuel d n p9.1 p9.2.1 p9.2.2) else (l30_0 fuel d n [(0, (AVal.ptr x0)), (1, (AVal.slice x1)), (6, (AVal.int .i64 x6)), (7, (AVal.int .i64 x7)), (8, (AVal.int .i64 (IntKind.wrap .i64 (x8 + (1 : Int)))))] r4.2))))) else (some ((.exit 0), [(4, AVal.bot), (5, AVal.bot), (6, (AVal.int .i64 x6)), (7, (AVal.int .i64 x7))], h))) := by
  generalize hh : run = R
  rw [run_is] at hh
  subst hh
  generalize hh : l30_0 = R
  rw [l30_0_is] at hh
  subst hh
  generalize hh : k30_1 = R
  rw [k30_1_is] at hh
  subst hh
  kernel_rfl

theorem l30_0_0 (fuel d : Nat) (fr : Fr) (h : AHeap) :
    l30_0 fuel d 0 fr h =
  none := by
  generalize hh : l30_0 = R
  rw [l30_0_is] at hh
  subst hh
  kernel_rfl

theorem k30_0_x0 (fuel d : Nat) (x4 : AVal) (x5 : AVal) (x6 : Int) (x7 : Int) (h : AHeap) :
    k30_0 fuel d (.exit 0) [(4, x4), (5, x5), (6, (AVal.int .i64 x6)), (7, (AVal.int .i64 x7))] h =
  (bif (decide (x7 = (0 : Int))) then (some ((AVal.tup [(AVal.int .i64 (2 : Int)), (AVal.int .i64 (0 : Int))]), h)) else ((bif (decide ((1 : Int) < x7)) then (some ((AVal.tup [(AVal.int .i64 (0 : Int)), (AVal.int .i64 (0 : Int))]), h)) else (some ((AVal.tup [(AVal.int .i64 (0 : Int)), (AVal.int .i64 x6)]), h))))) := by
  generalize hh : k30_0 = R
  rw [k30_0_is] at hh
  subst hh
  kernel_rfl

theorem k30_0_r (fuel d : Nat) (x4 : Int) (x5 : Int) (x6 : AVal) (x7 : AVal) (h : AHeap) :
    k30_0 fuel d .ret [(4, (AVal.int .i64 x4)), (5, (AVal.int .i64 x5)), (6, x6), (7, x7)] h =
  some ((AVal.tup [(AVal.int .i64 x4), (AVal.int .i64 x5)]), h) := by
  generalize hh : k30_0 = R
  rw [k30_0_is] at hh
  subst hh
  kernel_rfl

theorem k30_1_n (fuel d : Nat) (n : Nat) (x0 : Pt) (x1 : Sl) (x7 : Int) (x8 : Int) (h : AHeap) :
    k30_1 fuel d n .normal [(0, (AVal.ptr x0)), (1, (AVal.slice x1)), (7, (AVal.int .i64 x7)), (8, (AVal.int .i64 x8))] h =
  (AHeap.addr h 1 x1 x8).bind fun p1 =>
    (AHeap.cell h p1).bind fun u2 =>
    (AVal.int? .i64 u2).bind fun n3 =>
    l30_0 fuel d n [(0, (AVal.ptr x0)), (1, (AVal.slice x1)), (6, (AVal.int .i64 n3)), (7, (AVal.int .i64 x7)), (8, (AVal.int .i64 (IntKind.wrap .i64 (x8 + (1 : Int)))))] h := by
  generalize hh : l30_0 = R
  rw [l30_0_is] at hh
  subst hh
  generalize hh : k30_1 = R
  rw [k30_1_is] at hh
  subst hh
  kernel_rfl

/-! 31: (*skolem/skolemref1.Assign).Value -/

theorem e31 (fuel d : Nat) (x0 : Pt) (x1 : Int) (h : AHeap) :
    run fuel (d + 1) 31 [(AVal.ptr x0), (AVal.int .i64 x1)] h =
  (Pt.chk x0).bind fun p1 =>
    (Pt.field 0 p1).bind fun p2 =>
    (AHeap.cell h p2).bind fun u3 =>
    (AVal.slice? u3).bind fun s4 =>
    (run fuel d 46 [(AVal.int .i64 x1), (AVal.int .i64 (IntKind.wrap .i64 (((s4.len : Nat) : Int) - (1 : Int))))] h).bind fun r5 =>
    (AVal.bool? r5.1).bind fun b6 =>
    (bif (!b6) then (some ((AVal.int .i64 (0 : Int)), r5.2)) else ((Pt.chk x0).bind fun p7 =>
    (Pt.field 0 p7).bind fun p8 =>
    (AHeap.cell r5.2 p8).bind fun u9 =>
    (AVal.slice? u9).bind fun s10 =>
    (run fuel d 13 [(AVal.int .i64 x1)] r5.2).bind fun r11 =>
    (AVal.int? .i64 r11.1).bind fun n12 =>
    same ((AHeap.cell r11.2 p8).bind fun u16 =>
    (AVal.slice? u16).bind fun s17 =>
    some ((AVal.slice s17), r11.2)) ((AVal.slice s10), r11.2) (
    (AHeap.addr r11.2 1 s10 n12).bind fun p13 =>
    (AHeap.cell r11.2 p13).bind fun u14 =>
    (AVal.int? .i64 u14).bind fun n15 =>
    (bif (bif (decide (x1 < (0 : Int))) then (!decide (n15 = (0 : Int))) else false) then (some ((AVal.int .i64 (IntKind.wrap .i64 ((3 : Int) - n15))), r11.2)) else (some ((AVal.int .i64 n15), r11.2)))))) := by
  generalize hh : run = R
  rw [run_is] at hh
  subst hh
  kernel_rfl

/-! 32: (*skolem/skolemref1.Assign).All -/

noncomputable def s32_0 (fuel d : Nat) : Run := fun fr h k => aexec (C fuel) false (acall (C fuel) false d) (acall (C fuel) true d) 29 (csub [true, true, false, true, false, false] (fbody Go.Proofs.Try.f32)) (asub [true, true, false, true, false, false] an32) fr h k

noncomputable def l32_0r (fuel d : Nat) (n : Nat) (fr : Fr) (h : AHeap) : Option (AExit × Fr × AHeap) := aloop (s32_0 fuel d) (some [0, 1, 5, 6]) n fr h (kOut [4, 5])

noncomputable def l32_0 : Nat → Nat → Nat → Fr → AHeap → Option (AExit × Fr × AHeap) := hide l32_0r

theorem l32_0_is : l32_0 = l32_0r := hide_eq _

noncomputable def k32_0r (fuel d : Nat) : AExit → Fr → AHeap → Option (AVal × AHeap) := (kBlock 0 (kSeq (C fuel) false (acall (C fuel) false d) (acall (C fuel) true d) 29 (csub [true, true, true] (fbody Go.Proofs.Try.f32)) (asub [true, true, true] an32) (kRet Go.Proofs.Try.f32.results.toList)))

noncomputable def k32_0 : Nat → Nat → AExit → Fr → AHeap → Option (AVal × AHeap) := hide k32_0r

theorem k32_0_is : k32_0 = k32_0r := hide_eq _

theorem e32 (fuel d : Nat) (x0 : Pt) (x1 : Sl) (h : AHeap) :
    run fuel (d + 1) 32 [(AVal.ptr x0), (AVal.slice x1)] h =
  (l32_0 fuel d fuel [(0, (AVal.ptr x0)), (1, (AVal.slice x1)), (5, (AVal.int .i64 (1 : Int))), (6, (AVal.int .i64 (0 : Int)))] h).bind fun p1 =>
    k32_0 fuel d p1.1 p1.2.1 p1.2.2 := by
  generalize hh : run = R
  rw [run_is] at hh
  subst hh
  generalize hh : l32_0 = R
  rw [l32_0_is] at hh
  subst hh
  generalize hh : k32_0 = R
  rw [k32_0_is] at hh
  subst hh
  kernel_rfl

theorem l32_0_eq (fuel d : Nat) (n : Nat) (x0 : Pt) (x1 : Sl) (x5 : Int) (x6 : Int) (h : AHeap) :
    l32_0 fuel d (n + 1) [(0, (AVal.ptr x0)), (1, (AVal.slice x1)), (5, (AVal.int .i64 x5)), (6, (AVal.int .i64 x6))] h =
  (bif (decide (x6 < ((x1.len : Nat) : Int))) then ((AHeap.addr h 1 x1 x6).bind fun p1 =>
    (AHeap.cell h p1).bind fun u2 =>
    (AVal.slice? u2).bind fun s3 =>
    (run fuel d 30 [(AVal.ptr x0), (AVal.slice s3)] h).bind fun r4 =>
    (bif AVal.isTup 2 r4.1 then ((AVal.comp 0 r4.1).bind fun u5 =>
    (AVal.int? .i64 u5).bind fun n6 =>
    (AVal.comp 1 r4.1).bind fun u7 =>
    (AVal.int? .i64 u7).bind fun n8 =>
    (bif (decide (n6 = (2 : Int))) then (some (.ret, [(4, (AVal.int .i64 (2 : Int))), (5, (AVal.int .i64 x5))], r4.2)) else ((bif (decide (n6 = (0 : Int))) then (l32_0 fuel d n [(0, (AVal.ptr x0)), (1, (AVal.slice x1)), (5, (AVal.int .i64 (0 : Int))), (6, (AVal.int .i64 (IntKind.wrap .i64 (x6 + (1 : Int)))))] r4.2) else (l32_0 fuel d n [(0, (AVal.ptr x0)), (1, (AVal.slice x1)), (5, (AVal.int .i64 x5)), (6, (AVal.int .i64 (IntKind.wrap .i64 (x6 + (1 : Int)))))] r4.2))))) else none)) else (some ((.exit 0), [(4, AVal.bot), (5, (AVal.int .i64 x5))], h))) := by
  generalize hh : run = R
  rw [run_is] at hh
  subst hh
  generalize hh : l32_0 = R
  rw [l32_0_is] at hh
  subst hh
  kernel_rfl

theorem l32_0_0 (fuel d : Nat) (fr : Fr) (h : AHeap) :
    l32_0 fuel d 0 fr h =
  none := by
  generalize hh : l32_0 = R
  rw [l32_0_is] at hh
  subst hh
  kernel_rfl

theorem k32_0_x0 (fuel d : Nat) (x4 : AVal) (x5 : Int) (h : AHeap) :
    k32_0 fuel d (.exit 0) [(4, x4), (5, (AVal.int .i64 x5))] h =
  some ((AVal.int .i64 x5), h) := by
  generalize hh : k32_0 = R
  rw [k32_0_is] at hh
  subst hh
  kernel_rfl

theorem k32_0_r (fuel d : Nat) (x4 : Int) (x5 : AVal) (h : AHeap) :
    k32_0 fuel d .ret [(4, (AVal.int .i64 x4)), (5, x5)] h =
  some ((AVal.int .i64 x4), h) := by
  generalize hh : k32_0 = R
  rw [k32_0_is] at hh
  subst hh
  kernel_rfl

/-! 33: skolem/skolemref.SameInts -/

noncomputable def s33_0 (fuel d : Nat) : Run := fun fr h k => aexec (C fuel) false (acall (C fuel) false d) (acall (C fuel) true d) 29 (csub [true, true, false, true, false, false] (fbody Go.Proofs.Try.f33)) (asub [true, true, false, true, false, false] an33) fr h k

noncomputable def l33_0r (fuel d : Nat) (n : Nat) (fr : Fr) (h : AHeap) : Option (AExit × Fr × AHeap) := aloop (s33_0 fuel d) (some [0, 1, 5]) n fr h (kOut [4])

noncomputable def l33_0 : Nat → Nat → Nat → Fr → AHeap → Option (AExit × Fr × AHeap) := hide l33_0r

theorem l33_0_is : l33_0 = l33_0r := hide_eq _

noncomputable def k33_0r (fuel d : Nat) : AExit → Fr → AHeap → Option (AVal × AHeap) := (kBlock 0 (kSeq (C fuel) false (acall (C fuel) false d) (acall (C fuel) true d) 29 (csub [true, true, true] (fbody Go.Proofs.Try.f33)) (asub [true, true, true] an33) (kRet Go.Proofs.Try.f33.results.toList)))

noncomputable def k33_0 : Nat → Nat → AExit → Fr → AHeap → Option (AVal × AHeap) := hide k33_0r

theorem k33_0_is : k33_0 = k33_0r := hide_eq _

theorem e33 (fuel d : Nat) (x0 : Sl) (x1 : Sl) (h : AHeap) :
    run fuel (d + 1) 33 [(AVal.slice x0), (AVal.slice x1)] h =
  (bif (!decide (((x0.len : Nat) : Int) = ((x1.len : Nat) : Int))) then (some ((AVal.bool false), h)) else ((l33_0 fuel d fuel [(0, (AVal.slice x0)), (1, (AVal.slice x1)), (5, (AVal.int .i64 (0 : Int)))] h).bind fun p1 =>
    k33_0 fuel d p1.1 p1.2.1 p1.2.2)) := by
  generalize hh : run = R
  rw [run_is] at hh
  subst hh
  generalize hh : l33_0 = R
  rw [l33_0_is] at hh
  subst hh
  generalize hh : k33_0 = R
  rw [k33_0_is] at hh
  subst hh
  kernel_rfl

theorem l33_0_eq (fuel d : Nat) (n : Nat) (x0 : Sl) (x1 : Sl) (x5 : Int) (h : AHeap) :
    l33_0 fuel d (n + 1) [(0, (AVal.slice x0)), (1, (AVal.slice x1)), (5, (AVal.int .i64 x5))] h =
  (bif (decide (x5 < ((x0.len : Nat) : Int))) then ((AHeap.addr h 1 x0 x5).bind fun p1 =>
    (AHeap.cell h p1).bind fun u2 =>
    (AVal.int? .i64 u2).bind fun n3 =>
    (AHeap.addr h 1 x1 x5).bind fun p4 =>
    (AHeap.cell h p4).bind fun u5 =>
    (AVal.int? .i64 u5).bind fun n6 =>
    (bif (!(decide (n3 = n6))) then (some (.ret, [(4, (AVal.bool false))], h)) else (l33_0 fuel d n [(0, (AVal.slice x0)), (1, (AVal.slice x1)), (5, (AVal.int .i64 (IntKind.wrap .i64 (x5 + (1 : Int)))))] h))) else (some ((.exit 0), [(4, AVal.bot)], h))) := by
  generalize hh : l33_0 = R
  rw [l33_0_is] at hh
  subst hh
  kernel_rfl

theorem l33_0_0 (fuel d : Nat) (fr : Fr) (h : AHeap) :
    l33_0 fuel d 0 fr h =
  none := by
  generalize hh : l33_0 = R
  rw [l33_0_is] at hh
  subst hh
  kernel_rfl

theorem k33_0_x0 (fuel d : Nat) (x4 : AVal) (h : AHeap) :
    k33_0 fuel d (.exit 0) [(4, x4)] h =
  some ((AVal.bool true), h) := by
  generalize hh : k33_0 = R
  rw [k33_0_is] at hh
  subst hh
  kernel_rfl

theorem k33_0_r (fuel d : Nat) (x4 : Bool) (h : AHeap) :
    k33_0 fuel d .ret [(4, (AVal.bool x4))] h =
  some ((AVal.bool x4), h) := by
  generalize hh : k33_0 = R
  rw [k33_0_is] at hh
  subst hh
  kernel_rfl

/-! 34: (*skolem/skolemref1.Assign).Known -/

noncomputable def s34_0 (fuel d : Nat) : Run := fun fr h k => aexec (C fuel) false (acall (C fuel) false d) (acall (C fuel) true d) 40 (csub [true, true, false, true, false, false] (fbody Go.Proofs.Try.f34)) (asub [true, true, false, true, false, false] an34) fr h k

noncomputable def l34_0r (fuel d : Nat) (n : Nat) (fr : Fr) (h : AHeap) : Option (AExit × Fr × AHeap) := aloop (s34_0 fuel d) (some [0, 3, 4]) n fr h (kOut [3])

noncomputable def l34_0 : Nat → Nat → Nat → Fr → AHeap → Option (AExit × Fr × AHeap) := hide l34_0r

theorem l34_0_is : l34_0 = l34_0r := hide_eq _

noncomputable def k34_0r (fuel d : Nat) : AExit → Fr → AHeap → Option (AVal × AHeap) := (kBlock 0 (kSeq (C fuel) false (acall (C fuel) false d) (acall (C fuel) true d) 40 (csub [true, true, true] (fbody Go.Proofs.Try.f34)) (asub [true, true, true] an34) (kRet Go.Proofs.Try.f34.results.toList)))

noncomputable def k34_0 : Nat → Nat → AExit → Fr → AHeap → Option (AVal × AHeap) := hide k34_0r

theorem k34_0_is : k34_0 = k34_0r := hide_eq _

noncomputable def k34_1r (fuel d : Nat) (n : Nat) : AExit → Fr → AHeap → Option (AExit × Fr × AHeap) := (kSeq (C fuel) false (acall (C fuel) false d) (acall (C fuel) true d) 40 (csub [true, true, false, true, false, false, true, false, false, true] (fbody Go.Proofs.Try.f34)) (asub [true, true, false, true, false, false, true, false, false, true] an34) (kBlock 1 (kSeq (C fuel) false (acall (C fuel) false d) (acall (C fuel) true d) 40 (csub [true, true, false, true, false, false, true, true] (fbody Go.Proofs.Try.f34)) (asub [true, true, false, true, false, false, true, true] an34) (kLoop (s34_0 fuel d) (some [0, 3, 4]) n (kOut [3])))))

noncomputable def k34_1 : Nat → Nat → Nat → AExit → Fr → AHeap → Option (AExit × Fr × AHeap) := hide k34_1r

theorem k34_1_is : k34_1 = k34_1r := hide_eq _

theorem e34 (fuel d : Nat) (x0 : Pt) (h : AHeap) :
    run fuel (d + 1) 34 [(AVal.ptr x0)] h =
  (l34_0 fuel d fuel [(0, (AVal.ptr x0)), (3, (AVal.slice Sl.nil)), (4, (AVal.int .i64 (1 : Int)))] h).bind fun p1 =>
    k34_0 fuel d p1.1 p1.2.1 p1.2.2 := by
  generalize hh : run = R
  rw [run_is] at hh
  subst hh
  generalize hh : l34_0 = R
  rw [l34_0_is] at hh
  subst hh
  generalize hh : k34_0 = R
  rw [k34_0_is] at hh
  subst hh
  kernel_rfl

theorem l34_0_eq (fuel d : Nat) (n : Nat) (x0 : Pt) (x3 : Sl) (x4 : Int) (h : AHeap) :
    l34_0 fuel d (n + 1) [(0, (AVal.ptr x0)), (3, (AVal.slice x3)), (4, (AVal.int .i64 x4))] h =
  (Pt.chk x0).bind fun p1 =>
    (Pt.field 0 p1).bind fun p2 =>
    (AHeap.cell h p2).bind fun u3 =>
    (AVal.slice? u3).bind fun s4 =>
    (bif (decide (x4 < ((s4.len : Nat) : Int))) then ((Pt.chk x0).bind fun p5 =>
    (Pt.field 0 p5).bind fun p6 =>
    (AHeap.cell h p6).bind fun u7 =>
    (AVal.slice? u7).bind fun s8 =>
    (AHeap.addr h 1 s8 x4).bind fun p9 =>
    (AHeap.cell h p9).bind fun u10 =>
    (AVal.int? .i64 u10).bind fun n11 =>
    ((bif (decide (n11 = (1 : Int))) then ((AHeap.sliceCells (AHeap.push h 1 [(AVal.int .i64 x4)]) 1 (Sl.mk ⟨AHeap.next h, 0, 0⟩ 1 true)).bind fun xs12 =>
    (AHeap.append (AHeap.push h 1 [(AVal.int .i64 x4)]) false 1 8 x3 (Sl.mk ⟨AHeap.next h, 0, 0⟩ 1 true).len xs12).bind fun a13 =>
    some (.normal, [(0, (AVal.ptr x0)), (3, (AVal.slice a13.1)), (4, (AVal.int .i64 x4))], a13.2)) else (some (.normal, [(0, (AVal.ptr x0)), (3, (AVal.slice x3)), (4, (AVal.int .i64 x4))], h)))).bind fun p14 =>
    k34_1 fuel d n p14.1 p14.2.1 p14.2.2) else (some ((.exit 0), [(3, (AVal.slice x3))], h))) := by
  generalize hh : l34_0 = R
  rw [l34_0_is] at hh
  subst hh
  generalize hh : k34_1 = R
  rw [k34_1_is] at hh
  subst hh
  kernel_rfl

theorem l34_0_0 (fuel d : Nat) (fr : Fr) (h : AHeap) :
    l34_0 fuel d 0 fr h =
  none := by
  generalize hh : l34_0 = R
  rw [l34_0_is] at hh
  subst hh
  kernel_rfl

theorem k34_0_x0 (fuel d : Nat) (x3 : Sl) (h : AHeap) :
    k34_0 fuel d (.exit 0) [(3, (AVal.slice x3))] h =
  some ((AVal.slice x3), h) := by
  generalize hh : k34_0 = R
  rw [k34_0_is] at hh
  subst hh
  kernel_rfl

theorem k34_1_n (fuel d : Nat) (n : Nat) (x0 : Pt) (x3 : Sl) (x4 : Int) (h : AHeap) :
    k34_1 fuel d n .normal [(0, (AVal.ptr x0)), (3, (AVal.slice x3)), (4, (AVal.int .i64 x4))] h =
  (Pt.chk x0).bind fun p1 =>
    (Pt.field 0 p1).bind fun p2 =>
    (AHeap.cell h p2).bind fun u3 =>
    (AVal.slice? u3).bind fun s4 =>
    (AHeap.addr h 1 s4 x4).bind fun p5 =>
    (AHeap.cell h p5).bind fun u6 =>
    (AVal.int? .i64 u6).bind fun n7 =>
    (bif (decide (n7 = (2 : Int))) then ((AHeap.sliceCells (AHeap.push h 1 [(AVal.int .i64 (IntKind.wrap .i64 (0 - x4)))]) 1 (Sl.mk ⟨AHeap.next h, 0, 0⟩ 1 true)).bind fun xs8 =>
    (AHeap.append (AHeap.push h 1 [(AVal.int .i64 (IntKind.wrap .i64 (0 - x4)))]) false 1 8 x3 (Sl.mk ⟨AHeap.next h, 0, 0⟩ 1 true).len xs8).bind fun a9 =>
    l34_0 fuel d n [(0, (AVal.ptr x0)), (3, (AVal.slice a9.1)), (4, (AVal.int .i64 (IntKind.wrap .i64 (x4 + (1 : Int)))))] a9.2) else (l34_0 fuel d n [(0, (AVal.ptr x0)), (3, (AVal.slice x3)), (4, (AVal.int .i64 (IntKind.wrap .i64 (x4 + (1 : Int)))))] h)) := by
  generalize hh : l34_0 = R
  rw [l34_0_is] at hh
  subst hh
  generalize hh : k34_1 = R
  rw [k34_1_is] at hh
  subst hh
  kernel_rfl

/-! 35: skolem/skolemref1.Of -/

noncomputable def s35_0 (fuel d : Nat) : Run := fun fr h k => aexec (C fuel) false (acall (C fuel) false d) (acall (C fuel) true d) 71 (csub [true, false, true, false, false] (fbody Go.Proofs.Try.f35)) (asub [true, false, true, false, false] an35) fr h k

noncomputable def l35_0r (fuel d : Nat) (n : Nat) (fr : Fr) (h : AHeap) : Option (AExit × Fr × AHeap) := aloop (s35_0 fuel d) (some [0, 1, 5]) n fr h (kOut [4])

noncomputable def l35_0 : Nat → Nat → Nat → Fr → AHeap → Option (AExit × Fr × AHeap) := hide l35_0r

theorem l35_0_is : l35_0 = l35_0r := hide_eq _

noncomputable def k35_0r (fuel d : Nat) : AExit → Fr → AHeap → Option (AVal × AHeap) := (kBlock 0 (kSeq (C fuel) false (acall (C fuel) false d) (acall (C fuel) true d) 71 (csub [true, true] (fbody Go.Proofs.Try.f35)) (asub [true, true] an35) (kRet Go.Proofs.Try.f35.results.toList)))

noncomputable def k35_0 : Nat → Nat → AExit → Fr → AHeap → Option (AVal × AHeap) := hide k35_0r

theorem k35_0_is : k35_0 = k35_0r := hide_eq _

noncomputable def s35_1 (fuel d : Nat) : Run := fun fr h k => aexec (C fuel) false (acall (C fuel) false d) (acall (C fuel) true d) 71 (csub [true, false, true, false, false, true, false, false, true, false, true, false, false] (fbody Go.Proofs.Try.f35)) (asub [true, false, true, false, false, true, false, false, true, false, true, false, false] an35) fr h k

noncomputable def l35_1r (fuel d : Nat) (n : Nat) (fr : Fr) (h : AHeap) : Option (AExit × Fr × AHeap) := aloop (s35_1 fuel d) (some [0, 1, 5, 6, 7]) n fr h (kOut [0, 1, 5, 6])

noncomputable def l35_1 : Nat → Nat → Nat → Fr → AHeap → Option (AExit × Fr × AHeap) := hide l35_1r

theorem l35_1_is : l35_1 = l35_1r := hide_eq _

noncomputable def k35_1r (fuel d : Nat) (n : Nat) : AExit → Fr → AHeap → Option (AExit × Fr × AHeap) := (kBlock 2 (kSeq (C fuel) false (acall (C fuel) false d) (acall (C fuel) true d) 71 (csub [true, false, true, false, false, true, false, false, true, true] (fbody Go.Proofs.Try.f35)) (asub [true, false, true, false, false, true, false, false, true, true] an35) (kBlock 1 (kSeq (C fuel) false (acall (C fuel) false d) (acall (C fuel) true d) 71 (csub [true, false, true, false, false, true, true] (fbody Go.Proofs.Try.f35)) (asub [true, false, true, false, false, true, true] an35) (kLoop (s35_0 fuel d) (some [0, 1, 5]) n (kOut [4]))))))

noncomputable def k35_1 : Nat → Nat → Nat → AExit → Fr → AHeap → Option (AExit × Fr × AHeap) := hide k35_1r

theorem k35_1_is : k35_1 = k35_1r := hide_eq _

theorem e35 (fuel d : Nat) (x0 : Sl) (x1 : Sl) (h : AHeap) :
    run fuel (d + 1) 35 [(AVal.slice x0), (AVal.slice x1)] h =
  (l35_0 fuel d fuel [(0, (AVal.slice x0)), (1, (AVal.slice x1)), (5, (AVal.int .i64 (0 : Int)))] h).bind fun p1 =>
    k35_0 fuel d p1.1 p1.2.1 p1.2.2 := by
  generalize hh : run = R
  rw [run_is] at hh
  subst hh
  generalize hh : l35_0 = R
  rw [l35_0_is] at hh
  subst hh
  generalize hh : k35_0 = R
  rw [k35_0_is] at hh
  subst hh
  kernel_rfl

theorem l35_0_eq (fuel d : Nat) (n : Nat) (x0 : Sl) (x1 : Sl) (x5 : Int) (h : AHeap) :
    l35_0 fuel d (n + 1) [(0, (AVal.slice x0)), (1, (AVal.slice x1)), (5, (AVal.int .i64 x5))] h =
  (bif (decide (x5 < ((x0.len : Nat) : Int))) then ((l35_1 fuel d fuel [(0, (AVal.slice x0)), (1, (AVal.slice x1)), (5, (AVal.int .i64 x5)), (6, (AVal.bool false)), (7, (AVal.int .i64 (0 : Int)))] h).bind fun p1 =>
    k35_1 fuel d n p1.1 p1.2.1 p1.2.2) else (some ((.exit 0), [(4, AVal.bot)], h))) := by
  generalize hh : l35_0 = R
  rw [l35_0_is] at hh
  subst hh
  generalize hh : l35_1 = R
  rw [l35_1_is] at hh
  subst hh
  generalize hh : k35_1 = R
  rw [k35_1_is] at hh
  subst hh
  kernel_rfl

theorem l35_0_0 (fuel d : Nat) (fr : Fr) (h : AHeap) :
    l35_0 fuel d 0 fr h =
  none := by
  generalize hh : l35_0 = R
  rw [l35_0_is] at hh
  subst hh
  kernel_rfl

theorem k35_0_x0 (fuel d : Nat) (x4 : AVal) (h : AHeap) :
    k35_0 fuel d (.exit 0) [(4, x4)] h =
  some ((AVal.bool true), h) := by
  generalize hh : k35_0 = R
  rw [k35_0_is] at hh
  subst hh
  kernel_rfl

theorem k35_0_r (fuel d : Nat) (x4 : Bool) (h : AHeap) :
    k35_0 fuel d .ret [(4, (AVal.bool x4))] h =
  some ((AVal.bool x4), h) := by
  generalize hh : k35_0 = R
  rw [k35_0_is] at hh
  subst hh
  kernel_rfl

theorem l35_1_eq (fuel d : Nat) (n : Nat) (x0 : Sl) (x1 : Sl) (x5 : Int) (x6 : Bool) (x7 : Int) (h : AHeap) :
    l35_1 fuel d (n + 1) [(0, (AVal.slice x0)), (1, (AVal.slice x1)), (5, (AVal.int .i64 x5)), (6, (AVal.bool x6)), (7, (AVal.int .i64 x7))] h =
  (AHeap.addr h 1 x0 x5).bind fun p1 =>
    (AHeap.cell h p1).bind fun u2 =>
    (AVal.slice? u2).bind fun s3 =>
    (bif (decide (x7 < ((s3.len : Nat) : Int))) then ((AHeap.addr h 1 x0 x5).bind fun p4 =>
    (AHeap.cell h p4).bind fun u5 =>
    (AVal.slice? u5).bind fun s6 =>
    (AHeap.addr h 1 s6 x7).bind fun p7 =>
    (AHeap.cell h p7).bind fun u8 =>
    (AVal.int? .i64 u8).bind fun n9 =>
    ((bif ((bif (decide ((0 : Int) < n9)) then (decide (n9 < ((x1.len : Nat) : Int))) else false) == true) then ((AHeap.addr h 1 x1 n9).bind fun p10 =>
    (AHeap.cell h p10).bind fun u11 =>
    (AVal.bool? u11).bind fun b12 =>
    some ((AVal.bool b12), h)) else (some ((AVal.bool false), h)) : Option (AVal × AHeap))).bind fun r13 =>
    (AVal.bool? r13.1).bind fun b14 =>
    ((bif (b14 == false) then (((bif ((bif (bif (decide (n9 < (0 : Int))) then (decide ((0 : Int) < (IntKind.wrap .i64 (0 - n9)))) else false) then (decide ((IntKind.wrap .i64 (0 - n9)) < ((x1.len : Nat) : Int))) else false) == true) then ((AHeap.addr r13.2 1 x1 (IntKind.wrap .i64 (0 - n9))).bind fun p15 =>
    (AHeap.cell r13.2 p15).bind fun u16 =>
    (AVal.bool? u16).bind fun b17 =>
    some ((AVal.bool (!b17)), r13.2)) else (some ((AVal.bool false), r13.2)) : Option (AVal × AHeap))).bind fun r18 =>
    (AVal.bool? r18.1).bind fun b19 =>
    some ((AVal.bool b19), r18.2)) else (some ((AVal.bool true), r13.2)) : Option (AVal × AHeap))).bind fun r20 =>
    (AVal.bool? r20.1).bind fun b21 =>
    (bif b21 then (l35_1 fuel d n [(0, (AVal.slice x0)), (1, (AVal.slice x1)), (5, (AVal.int .i64 x5)), (6, (AVal.bool true)), (7, (AVal.int .i64 (IntKind.wrap .i64 (x7 + (1 : Int)))))] r20.2) else (l35_1 fuel d n [(0, (AVal.slice x0)), (1, (AVal.slice x1)), (5, (AVal.int .i64 x5)), (6, (AVal.bool x6)), (7, (AVal.int .i64 (IntKind.wrap .i64 (x7 + (1 : Int)))))] r20.2))) else (some ((.exit 2), [(0, (AVal.slice x0)), (1, (AVal.slice x1)), (5, (AVal.int .i64 x5)), (6, (AVal.bool x6))], h))) := by
  generalize hh : l35_1 = R
  rw [l35_1_is] at hh
  subst hh
  kernel_rfl

theorem l35_1_0 (fuel d : Nat) (fr : Fr) (h : AHeap) :
    l35_1 fuel d 0 fr h =
  none := by
  generalize hh : l35_1 = R
  rw [l35_1_is] at hh
  subst hh
  kernel_rfl

theorem k35_1_x2 (fuel d : Nat) (n : Nat) (x0 : Sl) (x1 : Sl) (x5 : Int) (x6 : Bool) (h : AHeap) :
    k35_1 fuel d n (.exit 2) [(0, (AVal.slice x0)), (1, (AVal.slice x1)), (5, (AVal.int .i64 x5)), (6, (AVal.bool x6))] h =
  (bif (!x6) then (some (.ret, [(4, (AVal.bool false))], h)) else (l35_0 fuel d n [(0, (AVal.slice x0)), (1, (AVal.slice x1)), (5, (AVal.int .i64 (IntKind.wrap .i64 (x5 + (1 : Int)))))] h)) := by
  generalize hh : l35_0 = R
  rw [l35_0_is] at hh
  subst hh
  generalize hh : k35_1 = R
  rw [k35_1_is] at hh
  subst hh
  kernel_rfl

/-! 36: skolem/skolemlaw3.first -/

theorem e36 (fuel d : Nat)  (h : AHeap) :
    run fuel (d + 1) 36 [] h =
  (bif (AHeap.ownAt (AHeap.push h 1 [(AVal.int .u8 (97 : Int)), (AVal.int .u8 (32 : Int)), (AVal.int .u8 (98 : Int))]) (AHeap.next h)) then ((run fuel d 37 [(AVal.slice (Sl.mk ⟨AHeap.next h, 0, 0⟩ 3 true)), (AVal.bool false)] (AHeap.push h 1 [(AVal.int .u8 (97 : Int)), (AVal.int .u8 (32 : Int)), (AVal.int .u8 (98 : Int))])).bind fun r1 =>
    (AVal.slice? r1.1).bind fun s2 =>
    ((bif ((decide (((s2.len : Nat) : Int) = (2 : Int))) == true) then ((AHeap.addr r1.2 3 s2 (1 : Int)).bind fun p3 =>
    (Pt.field 1 p3).bind fun p4 =>
    (AHeap.cell r1.2 p4).bind fun u5 =>
    (AVal.int? .i64 u5).bind fun n6 =>
    some ((AVal.bool (decide (n6 = (2 : Int)))), r1.2)) else (some ((AVal.bool false), r1.2)) : Option (AVal × AHeap))).bind fun r7 =>
    (AVal.bool? r7.1).bind fun b8 =>
    ((bif (b8 == true) then ((AHeap.addr r7.2 3 s2 (0 : Int)).bind fun p9 =>
    (Pt.field 2 p9).bind fun p10 =>
    (AHeap.cell r7.2 p10).bind fun u11 =>
    (AVal.bool? u11).bind fun b12 =>
    some ((AVal.bool b12), r7.2)) else (some ((AVal.bool false), r7.2)) : Option (AVal × AHeap))).bind fun r13 =>
    (AVal.bool? r13.1).bind fun b14 =>
    ((bif (b14 == true) then ((AHeap.addr r13.2 3 s2 (1 : Int)).bind fun p15 =>
    (Pt.field 2 p15).bind fun p16 =>
    (AHeap.cell r13.2 p16).bind fun u17 =>
    (AVal.bool? u17).bind fun b18 =>
    some ((AVal.bool (!b18)), r13.2)) else (some ((AVal.bool false), r13.2)) : Option (AVal × AHeap))).bind fun r19 =>
    (AVal.bool? r19.1).bind fun b20 =>
    some ((AVal.bool b20), r19.2)) else (none)) := by
  generalize hh : run = R
  rw [run_is] at hh
  subst hh
  kernel_rfl

/-! 37: skolem/word.Split -/

noncomputable def s37_0 (fuel d : Nat) : Run := fun fr h k => aexec (C fuel) false (acall (C fuel) false d) (acall (C fuel) true d) 54 (csub [true, true, false, true, false, false] (fbody Go.Proofs.Try.f37)) (asub [true, true, false, true, false, false] an37) fr h k

noncomputable def l37_0r (fuel d : Nat) (n : Nat) (fr : Fr) (h : AHeap) : Option (AExit × Fr × AHeap) := aloop (s37_0 fuel d) (some [0, 1, 5, 6]) n fr h (kOut [5])

noncomputable def l37_0 : Nat → Nat → Nat → Fr → AHeap → Option (AExit × Fr × AHeap) := hide l37_0r

theorem l37_0_is : l37_0 = l37_0r := hide_eq _

noncomputable def k37_0r (fuel d : Nat) : AExit → Fr → AHeap → Option (AVal × AHeap) := (kBlock 0 (kSeq (C fuel) false (acall (C fuel) false d) (acall (C fuel) true d) 54 (csub [true, true, true] (fbody Go.Proofs.Try.f37)) (asub [true, true, true] an37) (kRet Go.Proofs.Try.f37.results.toList)))

noncomputable def k37_0 : Nat → Nat → AExit → Fr → AHeap → Option (AVal × AHeap) := hide k37_0r

theorem k37_0_is : k37_0 = k37_0r := hide_eq _

noncomputable def k37_1r (fuel d : Nat) (n : Nat) : AExit → Fr → AHeap → Option (AExit × Fr × AHeap) := (kSeq (C fuel) false (acall (C fuel) false d) (acall (C fuel) true d) 54 (csub [true, true, false, true, false, false, true, false, true, true] (fbody Go.Proofs.Try.f37)) (asub [true, true, false, true, false, false, true, false, true, true] an37) (kBlock 1 (kLoop (s37_0 fuel d) (some [0, 1, 5, 6]) n (kOut [5]))))

noncomputable def k37_1 : Nat → Nat → Nat → AExit → Fr → AHeap → Option (AExit × Fr × AHeap) := hide k37_1r

theorem k37_1_is : k37_1 = k37_1r := hide_eq _

theorem e37 (fuel d : Nat) (x0 : Sl) (x1 : Bool) (h : AHeap) :
    run fuel (d + 1) 37 [(AVal.slice x0), (AVal.bool x1)] h =
  (l37_0 fuel d fuel [(0, (AVal.slice x0)), (1, (AVal.bool x1)), (5, (AVal.slice Sl.nil)), (6, (AVal.int .i64 (0 : Int)))] h).bind fun p1 =>
    k37_0 fuel d p1.1 p1.2.1 p1.2.2 := by
  generalize hh : run = R
  rw [run_is] at hh
  subst hh
  generalize hh : l37_0 = R
  rw [l37_0_is] at hh
  subst hh
  generalize hh : k37_0 = R
  rw [k37_0_is] at hh
  subst hh
  kernel_rfl

theorem l37_0_eq (fuel d : Nat) (n : Nat) (x0 : Sl) (x1 : Bool) (x5 : Sl) (x6 : Int) (h : AHeap) :
    l37_0 fuel d (n + 1) [(0, (AVal.slice x0)), (1, (AVal.bool x1)), (5, (AVal.slice x5)), (6, (AVal.int .i64 x6))] h =
  (bif (decide (x6 < ((x0.len : Nat) : Int))) then ((aHi (none : Option AVal) (Sl.len x0)).bind fun hi1 =>
    (aLo (some (AVal.int .i64 x6)) hi1).bind fun lo2 =>
    (aMx (none : Option AVal) hi1).bind fun cl3 =>
    (bif (AHeap.hasSz h 1 x0) then ((run fuel d 47 [(AVal.slice (Sl.cut x0 1 lo2 hi1 cl3)), (AVal.int .u8 (10 : Int))] h).bind fun r4 =>
    (AVal.int? .i64 r4.1).bind fun n5 =>
    ((bif (decide (n5 < (0 : Int))) then (some (.normal, [(0, (AVal.slice x0)), (1, (AVal.bool x1)), (5, (AVal.slice x5)), (6, (AVal.int .i64 x6)), (7, (AVal.int .i64 (IntKind.wrap .i64 (((x0.len : Nat) : Int) - x6))))], r4.2)) else (some (.normal, [(0, (AVal.slice x0)), (1, (AVal.bool x1)), (5, (AVal.slice x5)), (6, (AVal.int .i64 x6)), (7, (AVal.int .i64 n5))], r4.2)))).bind fun p6 =>
    k37_1 fuel d n p6.1 p6.2.1 p6.2.2) else (none))) else (some ((.exit 0), [(5, (AVal.slice x5))], h))) := by
  generalize hh : run = R
  rw [run_is] at hh
  subst hh
  generalize hh : l37_0 = R
  rw [l37_0_is] at hh
  subst hh
  generalize hh : k37_1 = R
  rw [k37_1_is] at hh
  subst hh
  kernel_rfl

theorem l37_0_0 (fuel d : Nat) (fr : Fr) (h : AHeap) :
    l37_0 fuel d 0 fr h =
  none := by
  generalize hh : l37_0 = R
  rw [l37_0_is] at hh
  subst hh
  kernel_rfl

theorem k37_0_x0 (fuel d : Nat) (x5 : Sl) (h : AHeap) :
    k37_0 fuel d (.exit 0) [(5, (AVal.slice x5))] h =
  some ((AVal.slice x5), h) := by
  generalize hh : k37_0 = R
  rw [k37_0_is] at hh
  subst hh
  kernel_rfl

theorem k37_1_n (fuel d : Nat) (n : Nat) (x0 : Sl) (x1 : Bool) (x5 : Sl) (x6 : Int) (x7 : Int) (h : AHeap) :
    k37_1 fuel d n .normal [(0, (AVal.slice x0)), (1, (AVal.bool x1)), (5, (AVal.slice x5)), (6, (AVal.int .i64 x6)), (7, (AVal.int .i64 x7))] h =
  (aHi (some (AVal.int .i64 (IntKind.wrap .i64 (x6 + x7)))) (Sl.len x0)).bind fun hi1 =>
    (aLo (some (AVal.int .i64 x6)) hi1).bind fun lo2 =>
    (aMx (none : Option AVal) hi1).bind fun cl3 =>
    (bif (AHeap.hasSz h 1 x0) then ((run fuel d 48 [(AVal.slice (Sl.cut x0 1 lo2 hi1 cl3)), (AVal.int .i64 x6)] h).bind fun r4 =>
    (AVal.slice? r4.1).bind fun s5 =>
    ((bif ((bif (!x1) then true else (decide (((s5.len : Nat) : Int) = (0 : Int)))) == false) then ((AHeap.addr r4.2 3 s5 (0 : Int)).bind fun p6 =>
    (Pt.field 0 p6).bind fun p7 =>
    (AHeap.cell r4.2 p7).bind fun u8 =>
    (AVal.str? u8).bind fun s9 =>
    (strAt s9 (0 : Int)).bind fun n10 =>
    some ((AVal.bool (!decide (n10 = (99 : Int)))), r4.2)) else (some ((AVal.bool true), r4.2)) : Option (AVal × AHeap))).bind fun r11 =>
    (AVal.bool? r11.1).bind fun b12 =>
    (bif b12 then ((AHeap.sliceCells r11.2 3 s5).bind fun xs13 =>
    (AHeap.append r11.2 false 3 32 x5 s5.len xs13).bind fun a14 =>
    l37_0 fuel d n [(0, (AVal.slice x0)), (1, (AVal.bool x1)), (5, (AVal.slice a14.1)), (6, (AVal.int .i64 (IntKind.wrap .i64 (x6 + (IntKind.wrap .i64 (x7 + (1 : Int)))))))] a14.2) else (l37_0 fuel d n [(0, (AVal.slice x0)), (1, (AVal.bool x1)), (5, (AVal.slice x5)), (6, (AVal.int .i64 (IntKind.wrap .i64 (x6 + (IntKind.wrap .i64 (x7 + (1 : Int)))))))] r11.2))) else (none)) := by
  generalize hh : run = R
  rw [run_is] at hh
  subst hh
  generalize hh : l37_0 = R
  rw [l37_0_is] at hh
  subst hh
  generalize hh : k37_1 = R
  rw [k37_1_is] at hh
  subst hh
  kernel_rfl

/-! 38: skolem/word.Line -/

theorem e38 (fuel d : Nat) (x0 : Sl) (x1 : Int) (h : AHeap) :
    run fuel (d + 1) 38 [(AVal.slice x0), (AVal.int .i64 x1)] h =
  (bif (bif (decide (x1 < (0 : Int))) then true else (decide (((x0.len : Nat) : Int) ≤ x1))) then (some ((AVal.tup [(AVal.str (⟨#[]⟩ : ByteArray)), (AVal.int .i64 (0 : Int)), (AVal.bool false)]), h)) else ((aHi (none : Option AVal) (Sl.len x0)).bind fun hi1 =>
    (aLo (some (AVal.int .i64 x1)) hi1).bind fun lo2 =>
    (aMx (none : Option AVal) hi1).bind fun cl3 =>
    (bif (AHeap.hasSz h 1 x0) then ((run fuel d 47 [(AVal.slice (Sl.cut x0 1 lo2 hi1 cl3)), (AVal.int .u8 (10 : Int))] h).bind fun r4 =>
    (AVal.int? .i64 r4.1).bind fun n5 =>
    (bif (decide (n5 < (0 : Int))) then (some ((AVal.tup [(AVal.str (⟨#[]⟩ : ByteArray)), (AVal.int .i64 (0 : Int)), (AVal.bool false)]), r4.2)) else ((aHi (some (AVal.int .i64 (IntKind.wrap .i64 (x1 + n5)))) (Sl.len x0)).bind fun hi6 =>
    (aLo (some (AVal.int .i64 x1)) hi6).bind fun lo7 =>
    (aMx (none : Option AVal) hi6).bind fun cl8 =>
    (bif (AHeap.hasSz r4.2 1 x0) then ((AHeap.sliceCells r4.2 1 (Sl.cut x0 1 lo7 hi6 cl8)).bind fun c9 =>
    (bytesFrom c9).bind fun bs10 =>
    some ((AVal.tup [(AVal.str (⟨List.toArray bs10⟩ : ByteArray)), (AVal.int .i64 (IntKind.wrap .i64 ((IntKind.wrap .i64 (x1 + n5)) + (1 : Int)))), (AVal.bool true)]), r4.2)) else (none))))) else (none)))) := by
  generalize hh : run = R
  rw [run_is] at hh
  subst hh
  kernel_rfl

/-! 39: skolem/skolemref.SameBytes -/

noncomputable def s39_0 (fuel d : Nat) : Run := fun fr h k => aexec (C fuel) false (acall (C fuel) false d) (acall (C fuel) true d) 29 (csub [true, true, false, true, false, false] (fbody Go.Proofs.Try.f39)) (asub [true, true, false, true, false, false] an39) fr h k

noncomputable def l39_0r (fuel d : Nat) (n : Nat) (fr : Fr) (h : AHeap) : Option (AExit × Fr × AHeap) := aloop (s39_0 fuel d) (some [0, 1, 5]) n fr h (kOut [4])

noncomputable def l39_0 : Nat → Nat → Nat → Fr → AHeap → Option (AExit × Fr × AHeap) := hide l39_0r

theorem l39_0_is : l39_0 = l39_0r := hide_eq _

noncomputable def k39_0r (fuel d : Nat) : AExit → Fr → AHeap → Option (AVal × AHeap) := (kBlock 0 (kSeq (C fuel) false (acall (C fuel) false d) (acall (C fuel) true d) 29 (csub [true, true, true] (fbody Go.Proofs.Try.f39)) (asub [true, true, true] an39) (kRet Go.Proofs.Try.f39.results.toList)))

noncomputable def k39_0 : Nat → Nat → AExit → Fr → AHeap → Option (AVal × AHeap) := hide k39_0r

theorem k39_0_is : k39_0 = k39_0r := hide_eq _

theorem e39 (fuel d : Nat) (x0 : Sl) (x1 : Sl) (h : AHeap) :
    run fuel (d + 1) 39 [(AVal.slice x0), (AVal.slice x1)] h =
  (bif (!decide (((x0.len : Nat) : Int) = ((x1.len : Nat) : Int))) then (some ((AVal.bool false), h)) else ((l39_0 fuel d fuel [(0, (AVal.slice x0)), (1, (AVal.slice x1)), (5, (AVal.int .i64 (0 : Int)))] h).bind fun p1 =>
    k39_0 fuel d p1.1 p1.2.1 p1.2.2)) := by
  generalize hh : run = R
  rw [run_is] at hh
  subst hh
  generalize hh : l39_0 = R
  rw [l39_0_is] at hh
  subst hh
  generalize hh : k39_0 = R
  rw [k39_0_is] at hh
  subst hh
  kernel_rfl

theorem l39_0_eq (fuel d : Nat) (n : Nat) (x0 : Sl) (x1 : Sl) (x5 : Int) (h : AHeap) :
    l39_0 fuel d (n + 1) [(0, (AVal.slice x0)), (1, (AVal.slice x1)), (5, (AVal.int .i64 x5))] h =
  (bif (decide (x5 < ((x0.len : Nat) : Int))) then ((AHeap.addr h 1 x0 x5).bind fun p1 =>
    (AHeap.cell h p1).bind fun u2 =>
    (AVal.int? .u8 u2).bind fun n3 =>
    (AHeap.addr h 1 x1 x5).bind fun p4 =>
    (AHeap.cell h p4).bind fun u5 =>
    (AVal.int? .u8 u5).bind fun n6 =>
    (bif (!(decide (n3 = n6))) then (some (.ret, [(4, (AVal.bool false))], h)) else (l39_0 fuel d n [(0, (AVal.slice x0)), (1, (AVal.slice x1)), (5, (AVal.int .i64 (IntKind.wrap .i64 (x5 + (1 : Int)))))] h))) else (some ((.exit 0), [(4, AVal.bot)], h))) := by
  generalize hh : l39_0 = R
  rw [l39_0_is] at hh
  subst hh
  kernel_rfl

theorem l39_0_0 (fuel d : Nat) (fr : Fr) (h : AHeap) :
    l39_0 fuel d 0 fr h =
  none := by
  generalize hh : l39_0 = R
  rw [l39_0_is] at hh
  subst hh
  kernel_rfl

theorem k39_0_x0 (fuel d : Nat) (x4 : AVal) (h : AHeap) :
    k39_0 fuel d (.exit 0) [(4, x4)] h =
  some ((AVal.bool true), h) := by
  generalize hh : k39_0 = R
  rw [k39_0_is] at hh
  subst hh
  kernel_rfl

theorem k39_0_r (fuel d : Nat) (x4 : Bool) (h : AHeap) :
    k39_0 fuel d .ret [(4, (AVal.bool x4))] h =
  some ((AVal.bool x4), h) := by
  generalize hh : k39_0 = R
  rw [k39_0_is] at hh
  subst hh
  kernel_rfl

/-! 40: skolem/word.Bits -/

noncomputable def s40_0 (fuel d : Nat) : Run := fun fr h k => aexec (C fuel) false (acall (C fuel) false d) (acall (C fuel) true d) 33 (csub [true, true, false, true, false, false] (fbody Go.Proofs.Try.f40)) (asub [true, true, false, true, false, false] an40) fr h k

noncomputable def l40_0r (fuel d : Nat) (n : Nat) (fr : Fr) (h : AHeap) : Option (AExit × Fr × AHeap) := aloop (s40_0 fuel d) (some [0, 4, 10, 11]) n fr h (kOut [2, 3, 4])

noncomputable def l40_0 : Nat → Nat → Nat → Fr → AHeap → Option (AExit × Fr × AHeap) := hide l40_0r

theorem l40_0_is : l40_0 = l40_0r := hide_eq _

noncomputable def k40_0r (fuel d : Nat) : AExit → Fr → AHeap → Option (AVal × AHeap) := (kBlock 0 (kSeq (C fuel) false (acall (C fuel) false d) (acall (C fuel) true d) 33 (csub [true, true, true] (fbody Go.Proofs.Try.f40)) (asub [true, true, true] an40) (kRet Go.Proofs.Try.f40.results.toList)))

noncomputable def k40_0 : Nat → Nat → AExit → Fr → AHeap → Option (AVal × AHeap) := hide k40_0r

theorem k40_0_is : k40_0 = k40_0r := hide_eq _

theorem e40 (fuel d : Nat) (x0 : ByteArray) (h : AHeap) :
    run fuel (d + 1) 40 [(AVal.str x0)] h =
  (bif (true && decide (0 ≤ (0 : Int)) && decide ((0 : Int) ≤ ((ByteArray.size x0 : Nat) : Int)) && decide (((ByteArray.size x0 : Nat) : Int) * 1 ≤ 140737488355328) && decide (((ByteArray.size x0 : Nat) : Int) ≤ 140737488355328)) then ((l40_0 fuel d fuel [(0, (AVal.str x0)), (4, (AVal.slice (Sl.mk ⟨AHeap.next h, 0, 0⟩ (Int.toNat (0 : Int)) (decide ((0 : Int) = ((ByteArray.size x0 : Nat) : Int)))))), (10, (AVal.int .i64 ((ByteArray.size x0 : Nat) : Int))), (11, (AVal.int .i64 (0 : Int)))] (AHeap.push h 1 (repeatCells [(AVal.bool false)] (Int.toNat (0 : Int))))).bind fun p1 =>
    k40_0 fuel d p1.1 p1.2.1 p1.2.2) else (none)) := by
  generalize hh : run = R
  rw [run_is] at hh
  subst hh
  generalize hh : l40_0 = R
  rw [l40_0_is] at hh
  subst hh
  generalize hh : k40_0 = R
  rw [k40_0_is] at hh
  subst hh
  kernel_rfl

theorem l40_0_eq (fuel d : Nat) (n : Nat) (x0 : ByteArray) (x4 : Sl) (x10 : Int) (x11 : Int) (h : AHeap) :
    l40_0 fuel d (n + 1) [(0, (AVal.str x0)), (4, (AVal.slice x4)), (10, (AVal.int .i64 x10)), (11, (AVal.int .i64 x11))] h =
  (bif (decide (x11 < x10)) then ((strAt x0 x11).bind fun n1 =>
    ((bif ((!decide (n1 = (48 : Int))) == true) then ((strAt x0 x11).bind fun n2 =>
    some ((AVal.bool (!decide (n2 = (49 : Int)))), h)) else (some ((AVal.bool false), h)) : Option (AVal × AHeap))).bind fun r3 =>
    (AVal.bool? r3.1).bind fun b4 =>
    (bif b4 then (some (.ret, [(2, (AVal.slice Sl.nil)), (3, (AVal.bool false)), (4, (AVal.slice x4))], r3.2)) else ((strAt x0 x11).bind fun n5 =>
    (AHeap.sliceCells (AHeap.push r3.2 1 [(AVal.bool (decide (n5 = (49 : Int))))]) 1 (Sl.mk ⟨AHeap.next r3.2, 0, 0⟩ 1 true)).bind fun xs6 =>
    (AHeap.append (AHeap.push r3.2 1 [(AVal.bool (decide (n5 = (49 : Int))))]) false 1 1 x4 (Sl.mk ⟨AHeap.next r3.2, 0, 0⟩ 1 true).len xs6).bind fun a7 =>
    l40_0 fuel d n [(0, (AVal.str x0)), (4, (AVal.slice a7.1)), (10, (AVal.int .i64 x10)), (11, (AVal.int .i64 (IntKind.wrap .i64 (x11 + (1 : Int)))))] a7.2))) else (some ((.exit 0), [(2, AVal.bot), (3, AVal.bot), (4, (AVal.slice x4))], h))) := by
  generalize hh : l40_0 = R
  rw [l40_0_is] at hh
  subst hh
  kernel_rfl

theorem l40_0_0 (fuel d : Nat) (fr : Fr) (h : AHeap) :
    l40_0 fuel d 0 fr h =
  none := by
  generalize hh : l40_0 = R
  rw [l40_0_is] at hh
  subst hh
  kernel_rfl

theorem k40_0_x0 (fuel d : Nat) (x2 : AVal) (x3 : AVal) (x4 : Sl) (h : AHeap) :
    k40_0 fuel d (.exit 0) [(2, x2), (3, x3), (4, (AVal.slice x4))] h =
  some ((AVal.tup [(AVal.slice x4), (AVal.bool true)]), h) := by
  generalize hh : k40_0 = R
  rw [k40_0_is] at hh
  subst hh
  kernel_rfl

theorem k40_0_r (fuel d : Nat) (x2 : Sl) (x3 : Bool) (x4 : AVal) (h : AHeap) :
    k40_0 fuel d .ret [(2, (AVal.slice x2)), (3, (AVal.bool x3)), (4, x4)] h =
  some ((AVal.tup [(AVal.slice x2), (AVal.bool x3)]), h) := by
  generalize hh : k40_0 = R
  rw [k40_0_is] at hh
  subst hh
  kernel_rfl

/-! 41: skolem/skolemworld.Number -/

theorem e41 (fuel d : Nat) (x0 : Int) (x1 : Int) (h : AHeap) :
    run fuel (d + 1) 41 [(AVal.int .i64 x0), (AVal.int .i64 x1)] h =
  (bif decide (x1 = 0) then (none) else ((bif (decide ((Int.tmod x0 x1) < (0 : Int))) then (some ((AVal.int .i64 (IntKind.wrap .i64 ((Int.tmod x0 x1) + x1))), h)) else (some ((AVal.int .i64 (Int.tmod x0 x1)), h))))) := by
  generalize hh : run = R
  rw [run_is] at hh
  subst hh
  kernel_rfl

/-! 42: skolem/assign.Cut -/

theorem e42 (fuel d : Nat) (x0 : Int) (h : AHeap) :
    run fuel (d + 1) 42 [(AVal.int .i64 x0)] h =
  some ((AVal.int .i64 (bif decide ((4000 : Int) < (bif decide (x0 < (0 : Int)) then (0 : Int) else x0)) then (4000 : Int) else (bif decide (x0 < (0 : Int)) then (0 : Int) else x0))), h) := by
  generalize hh : run = R
  rw [run_is] at hh
  subst hh
  kernel_rfl

/-! 43: skolem/lits.Is -/

theorem e43 (fuel d : Nat) (x0 : Int) (x1 : Int) (h : AHeap) :
    run fuel (d + 1) 43 [(AVal.int .i64 x0), (AVal.int .i64 x1)] h =
  some ((AVal.bool (bif (bif (!decide (x0 = (0 : Int))) then (decide ((IntKind.wrap .i64 (0 - x1)) ≤ x0)) else false) then (decide (x0 ≤ x1)) else false)), h) := by
  generalize hh : run = R
  rw [run_is] at hh
  subst hh
  kernel_rfl

/-! 44: skolem/lits.Var -/

theorem e44 (fuel d : Nat) (x0 : Int) (h : AHeap) :
    run fuel (d + 1) 44 [(AVal.int .i64 x0)] h =
  some ((AVal.int .i64 (bif decide (x0 < (IntKind.wrap .i64 (0 - x0))) then (IntKind.wrap .i64 (0 - x0)) else x0)), h) := by
  generalize hh : run = R
  rw [run_is] at hh
  subst hh
  kernel_rfl

/-! 45: skolem/assign.holds -/

theorem e45 (fuel d : Nat) (x0 : Int) (x1 : Sl) (h : AHeap) :
    run fuel (d + 1) 45 [(AVal.int .i64 x0), (AVal.slice x1)] h =
  (run fuel d 44 [(AVal.int .i64 x0)] h).bind fun r1 =>
    (AVal.int? .i64 r1.1).bind fun n2 =>
    ((bif ((bif (decide ((0 : Int) < n2)) then (decide (n2 < ((x1.len : Nat) : Int))) else false) == true) then ((AHeap.addr r1.2 1 x1 n2).bind fun p3 =>
    (AHeap.cell r1.2 p3).bind fun u4 =>
    (AVal.bool? u4).bind fun b5 =>
    some ((AVal.bool (b5 == (decide ((0 : Int) < x0)))), r1.2)) else (some ((AVal.bool false), r1.2)) : Option (AVal × AHeap))).bind fun r6 =>
    (AVal.bool? r6.1).bind fun b7 =>
    some ((AVal.bool b7), r6.2) := by
  generalize hh : run = R
  rw [run_is] at hh
  subst hh
  kernel_rfl

/-! 46: skolem/skolemref1.Is -/

theorem e46 (fuel d : Nat) (x0 : Int) (x1 : Int) (h : AHeap) :
    run fuel (d + 1) 46 [(AVal.int .i64 x0), (AVal.int .i64 x1)] h =
  some ((AVal.bool (bif (bif (!decide (x0 = (0 : Int))) then (decide (x0 ≤ x1)) else false) then (decide ((IntKind.wrap .i64 (0 - x1)) ≤ x0)) else false)), h) := by
  generalize hh : run = R
  rw [run_is] at hh
  subst hh
  kernel_rfl

/-! 47: bytes.IndexByte -/

theorem e47 (fuel d : Nat) (x0 : Sl) (x1 : Int) (h : AHeap) :
    run fuel (d + 1) 47 [(AVal.slice x0), (AVal.int .u8 x1)] h =
  (run fuel d 49 [(AVal.slice x0), (AVal.int .u8 x1)] h).bind fun r1 =>
    (AVal.int? .i64 r1.1).bind fun n2 =>
    some ((AVal.int .i64 n2), r1.2) := by
  generalize hh : run = R
  rw [run_is] at hh
  subst hh
  kernel_rfl

/-! 48: skolem/word.line -/

noncomputable def s48_0 (fuel d : Nat) : Run := fun fr h k => aexec (C fuel) false (acall (C fuel) false d) (acall (C fuel) true d) 51 (csub [true, true, false, true, false, false] (fbody Go.Proofs.Try.f48)) (asub [true, true, false, true, false, false] an48) fr h k

noncomputable def l48_0r (fuel d : Nat) (n : Nat) (fr : Fr) (h : AHeap) : Option (AExit × Fr × AHeap) := aloop (s48_0 fuel d) (some [0, 1, 5, 6]) n fr h (kOut [5])

noncomputable def l48_0 : Nat → Nat → Nat → Fr → AHeap → Option (AExit × Fr × AHeap) := hide l48_0r

theorem l48_0_is : l48_0 = l48_0r := hide_eq _

noncomputable def k48_0r (fuel d : Nat) : AExit → Fr → AHeap → Option (AVal × AHeap) := (kBlock 0 (kSeq (C fuel) false (acall (C fuel) false d) (acall (C fuel) true d) 51 (csub [true, true, true] (fbody Go.Proofs.Try.f48)) (asub [true, true, true] an48) (kRet Go.Proofs.Try.f48.results.toList)))

noncomputable def k48_0 : Nat → Nat → AExit → Fr → AHeap → Option (AVal × AHeap) := hide k48_0r

theorem k48_0_is : k48_0 = k48_0r := hide_eq _

noncomputable def s48_1 (fuel d : Nat) : Run := fun fr h k => aexec (C fuel) false (acall (C fuel) false d) (acall (C fuel) true d) 51 (csub [true, true, false, true, false, false, true, false, false, true, true, false, false, false] (fbody Go.Proofs.Try.f48)) (asub [true, true, false, true, false, false, true, false, false, true, true, false, false, false] an48) fr h k

noncomputable def l48_1r (fuel d : Nat) (n : Nat) (fr : Fr) (h : AHeap) : Option (AExit × Fr × AHeap) := aloop (s48_1 fuel d) (some [0, 1, 5, 6, 7]) n fr h (kOut [0, 1, 5, 6, 7])

noncomputable def l48_1 : Nat → Nat → Nat → Fr → AHeap → Option (AExit × Fr × AHeap) := hide l48_1r

theorem l48_1_is : l48_1 = l48_1r := hide_eq _

noncomputable def k48_1r (fuel d : Nat) (n : Nat) : AExit → Fr → AHeap → Option (AExit × Fr × AHeap) := (kBlock 2 (kSeq (C fuel) false (acall (C fuel) false d) (acall (C fuel) true d) 51 (csub [true, true, false, true, false, false, true, false, false, true, true, true] (fbody Go.Proofs.Try.f48)) (asub [true, true, false, true, false, false, true, false, false, true, true, true] an48) (kBlock 1 (kSeq (C fuel) false (acall (C fuel) false d) (acall (C fuel) true d) 51 (csub [true, true, false, true, false, false, true, true] (fbody Go.Proofs.Try.f48)) (asub [true, true, false, true, false, false, true, true] an48) (kLoop (s48_0 fuel d) (some [0, 1, 5, 6]) n (kOut [5]))))))

noncomputable def k48_1 : Nat → Nat → Nat → AExit → Fr → AHeap → Option (AExit × Fr × AHeap) := hide k48_1r

theorem k48_1_is : k48_1 = k48_1r := hide_eq _

theorem e48 (fuel d : Nat) (x0 : Sl) (x1 : Int) (h : AHeap) :
    run fuel (d + 1) 48 [(AVal.slice x0), (AVal.int .i64 x1)] h =
  (l48_0 fuel d fuel [(0, (AVal.slice x0)), (1, (AVal.int .i64 x1)), (5, (AVal.slice Sl.nil)), (6, (AVal.int .i64 (0 : Int)))] h).bind fun p1 =>
    k48_0 fuel d p1.1 p1.2.1 p1.2.2 := by
  generalize hh : run = R
  rw [run_is] at hh
  subst hh
  generalize hh : l48_0 = R
  rw [l48_0_is] at hh
  subst hh
  generalize hh : k48_0 = R
  rw [k48_0_is] at hh
  subst hh
  kernel_rfl

theorem l48_0_eq (fuel d : Nat) (n : Nat) (x0 : Sl) (x1 : Int) (x5 : Sl) (x6 : Int) (h : AHeap) :
    l48_0 fuel d (n + 1) [(0, (AVal.slice x0)), (1, (AVal.int .i64 x1)), (5, (AVal.slice x5)), (6, (AVal.int .i64 x6))] h =
  (bif (decide (x6 < ((x0.len : Nat) : Int))) then ((AHeap.addr h 1 x0 x6).bind fun p1 =>
    (AHeap.cell h p1).bind fun u2 =>
    (AVal.int? .u8 u2).bind fun n3 =>
    (run fuel d 50 [(AVal.int .u8 n3)] h).bind fun r4 =>
    (AVal.int? .i64 r4.1).bind fun n5 =>
    (bif (!decide (n5 = (0 : Int))) then (l48_0 fuel d n [(0, (AVal.slice x0)), (1, (AVal.int .i64 x1)), (5, (AVal.slice x5)), (6, (AVal.int .i64 (IntKind.wrap .i64 (x6 + (1 : Int)))))] r4.2) else ((l48_1 fuel d fuel [(0, (AVal.slice x0)), (1, (AVal.int .i64 x1)), (5, (AVal.slice x5)), (6, (AVal.int .i64 x6)), (7, (AVal.int .i64 x6))] r4.2).bind fun p6 =>
    k48_1 fuel d n p6.1 p6.2.1 p6.2.2))) else (some ((.exit 0), [(5, (AVal.slice x5))], h))) := by
  generalize hh : run = R
  rw [run_is] at hh
  subst hh
  generalize hh : l48_0 = R
  rw [l48_0_is] at hh
  subst hh
  generalize hh : l48_1 = R
  rw [l48_1_is] at hh
  subst hh
  generalize hh : k48_1 = R
  rw [k48_1_is] at hh
  subst hh
  kernel_rfl

theorem l48_0_0 (fuel d : Nat) (fr : Fr) (h : AHeap) :
    l48_0 fuel d 0 fr h =
  none := by
  generalize hh : l48_0 = R
  rw [l48_0_is] at hh
  subst hh
  kernel_rfl

theorem k48_0_x0 (fuel d : Nat) (x5 : Sl) (h : AHeap) :
    k48_0 fuel d (.exit 0) [(5, (AVal.slice x5))] h =
  some ((AVal.slice x5), h) := by
  generalize hh : k48_0 = R
  rw [k48_0_is] at hh
  subst hh
  kernel_rfl

theorem l48_1_eq (fuel d : Nat) (n : Nat) (x0 : Sl) (x1 : Int) (x5 : Sl) (x6 : Int) (x7 : Int) (h : AHeap) :
    l48_1 fuel d (n + 1) [(0, (AVal.slice x0)), (1, (AVal.int .i64 x1)), (5, (AVal.slice x5)), (6, (AVal.int .i64 x6)), (7, (AVal.int .i64 x7))] h =
  ((bif ((decide (x6 < ((x0.len : Nat) : Int))) == true) then ((AHeap.addr h 1 x0 x6).bind fun p1 =>
    (AHeap.cell h p1).bind fun u2 =>
    (AVal.int? .u8 u2).bind fun n3 =>
    (run fuel d 50 [(AVal.int .u8 n3)] h).bind fun r4 =>
    (AVal.int? .i64 r4.1).bind fun n5 =>
    some ((AVal.bool (decide (n5 = (0 : Int)))), r4.2)) else (some ((AVal.bool false), h)) : Option (AVal × AHeap))).bind fun r6 =>
    (AVal.bool? r6.1).bind fun b7 =>
    (bif b7 then (l48_1 fuel d n [(0, (AVal.slice x0)), (1, (AVal.int .i64 x1)), (5, (AVal.slice x5)), (6, (AVal.int .i64 (IntKind.wrap .i64 (x6 + (1 : Int))))), (7, (AVal.int .i64 x7))] r6.2) else (some ((.exit 2), [(0, (AVal.slice x0)), (1, (AVal.int .i64 x1)), (5, (AVal.slice x5)), (6, (AVal.int .i64 x6)), (7, (AVal.int .i64 x7))], r6.2))) := by
  generalize hh : run = R
  rw [run_is] at hh
  subst hh
  generalize hh : l48_1 = R
  rw [l48_1_is] at hh
  subst hh
  kernel_rfl

theorem l48_1_0 (fuel d : Nat) (fr : Fr) (h : AHeap) :
    l48_1 fuel d 0 fr h =
  none := by
  generalize hh : l48_1 = R
  rw [l48_1_is] at hh
  subst hh
  kernel_rfl

theorem k48_1_x2 (fuel d : Nat) (n : Nat) (x0 : Sl) (x1 : Int) (x5 : Sl) (x6 : Int) (x7 : Int) (h : AHeap) :
    k48_1 fuel d n (.exit 2) [(0, (AVal.slice x0)), (1, (AVal.int .i64 x1)), (5, (AVal.slice x5)), (6, (AVal.int .i64 x6)), (7, (AVal.int .i64 x7))] h =
  (aHi (some (AVal.int .i64 x6)) (Sl.len x0)).bind fun hi1 =>
    (aLo (some (AVal.int .i64 x7)) hi1).bind fun lo2 =>
    (aMx (none : Option AVal) hi1).bind fun cl3 =>
    (bif (AHeap.hasSz h 1 x0) then ((AHeap.sliceCells h 1 (Sl.cut x0 1 lo2 hi1 cl3)).bind fun c4 =>
    (bytesFrom c4).bind fun bs5 =>
    (AHeap.sliceCells (AHeap.push h 3 [(AVal.str (⟨List.toArray bs5⟩ : ByteArray)), (AVal.int .i64 (IntKind.wrap .i64 (x1 + x7))), (AVal.bool (decide (((x5.len : Nat) : Int) = (0 : Int))))]) 3 (Sl.mk ⟨AHeap.next h, 0, 0⟩ 1 true)).bind fun xs6 =>
    (AHeap.append (AHeap.push h 3 [(AVal.str (⟨List.toArray bs5⟩ : ByteArray)), (AVal.int .i64 (IntKind.wrap .i64 (x1 + x7))), (AVal.bool (decide (((x5.len : Nat) : Int) = (0 : Int))))]) false 3 32 x5 (Sl.mk ⟨AHeap.next h, 0, 0⟩ 1 true).len xs6).bind fun a7 =>
    l48_0 fuel d n [(0, (AVal.slice x0)), (1, (AVal.int .i64 x1)), (5, (AVal.slice a7.1)), (6, (AVal.int .i64 (IntKind.wrap .i64 (x6 + (1 : Int)))))] a7.2) else (none)) := by
  generalize hh : l48_0 = R
  rw [l48_0_is] at hh
  subst hh
  generalize hh : k48_1 = R
  rw [k48_1_is] at hh
  subst hh
  kernel_rfl

/-! 50: skolem/word.kind -/

noncomputable def k50_0r (fuel d : Nat) : AExit → Fr → AHeap → Option (AExit × Fr × AHeap) := (kBlock 3 (kOut []))

noncomputable def k50_0 : Nat → Nat → AExit → Fr → AHeap → Option (AExit × Fr × AHeap) := hide k50_0r

theorem k50_0_is : k50_0 = k50_0r := hide_eq _

noncomputable def k50_1r (fuel d : Nat) : AExit → Fr → AHeap → Option (AVal × AHeap) := (kSeq (C fuel) false (acall (C fuel) false d) (acall (C fuel) true d) 12 (csub [true, false, true, false, false, false, true] (fbody Go.Proofs.Try.f50)) (asub [true, false, true, false, false, false, true] an50) (kBlock 4 (kSeq (C fuel) false (acall (C fuel) false d) (acall (C fuel) true d) 12 (csub [true, false, true, false, true] (fbody Go.Proofs.Try.f50)) (asub [true, false, true, false, true] an50) (kBlock 0 (kSeq (C fuel) false (acall (C fuel) false d) (acall (C fuel) true d) 12 (csub [true, true] (fbody Go.Proofs.Try.f50)) (asub [true, true] an50) (kRet Go.Proofs.Try.f50.results.toList))))))

noncomputable def k50_1 : Nat → Nat → AExit → Fr → AHeap → Option (AVal × AHeap) := hide k50_1r

theorem k50_1_is : k50_1 = k50_1r := hide_eq _

theorem e50 (fuel d : Nat) (x0 : Int) (h : AHeap) :
    run fuel (d + 1) 50 [(AVal.int .u8 x0)] h =
  (((bif (decide (x0 = (32 : Int))) then (some (.normal, [], h)) else ((bif (decide (x0 = (9 : Int))) then (some (.normal, [], h)) else ((bif (decide (x0 = (13 : Int))) then (some ((.exit 3), [], h)) else ((bif (decide (x0 = (10 : Int))) then (some ((.exit 4), [], h)) else (some ((.exit 0), [], h)))))))))).bind fun p1 =>
    k50_0 fuel d p1.1 p1.2.1 p1.2.2).bind fun p2 =>
    k50_1 fuel d p2.1 p2.2.1 p2.2.2 := by
  generalize hh : run = R
  rw [run_is] at hh
  subst hh
  generalize hh : k50_0 = R
  rw [k50_0_is] at hh
  subst hh
  generalize hh : k50_1 = R
  rw [k50_1_is] at hh
  subst hh
  kernel_rfl

theorem k50_0_x0 (fuel d : Nat)  (h : AHeap) :
    k50_0 fuel d (.exit 0) [] h =
  some ((.exit 0), [], h) := by
  generalize hh : k50_0 = R
  rw [k50_0_is] at hh
  subst hh
  kernel_rfl

theorem k50_0_x3 (fuel d : Nat)  (h : AHeap) :
    k50_0 fuel d (.exit 3) [] h =
  some (.normal, [], h) := by
  generalize hh : k50_0 = R
  rw [k50_0_is] at hh
  subst hh
  kernel_rfl

theorem k50_0_x4 (fuel d : Nat)  (h : AHeap) :
    k50_0 fuel d (.exit 4) [] h =
  some ((.exit 4), [], h) := by
  generalize hh : k50_0 = R
  rw [k50_0_is] at hh
  subst hh
  kernel_rfl

theorem k50_0_n (fuel d : Nat)  (h : AHeap) :
    k50_0 fuel d .normal [] h =
  some (.normal, [], h) := by
  generalize hh : k50_0 = R
  rw [k50_0_is] at hh
  subst hh
  kernel_rfl

theorem k50_1_x0 (fuel d : Nat)  (h : AHeap) :
    k50_1 fuel d (.exit 0) [] h =
  some ((AVal.int .i64 (0 : Int)), h) := by
  generalize hh : k50_1 = R
  rw [k50_1_is] at hh
  subst hh
  kernel_rfl

theorem k50_1_x4 (fuel d : Nat)  (h : AHeap) :
    k50_1 fuel d (.exit 4) [] h =
  some ((AVal.int .i64 (2 : Int)), h) := by
  generalize hh : k50_1 = R
  rw [k50_1_is] at hh
  subst hh
  kernel_rfl

theorem k50_1_n (fuel d : Nat)  (h : AHeap) :
    k50_1 fuel d .normal [] h =
  some ((AVal.int .i64 (1 : Int)), h) := by
  generalize hh : k50_1 = R
  rw [k50_1_is] at hh
  subst hh
  kernel_rfl

theorem e49 (fuel d : Nat) (x0 : Sl) (x1 : Int) (h : AHeap) :
    run fuel d 49 [(AVal.slice x0), (AVal.int .u8 x1)] h =
  (AHeap.sliceCells h 1 x0).bind fun c1 => (bytesFrom c1).bind fun b2 => some ((AVal.int .i64 (Lib.indexByte b2 (Int.toNat x1).toUInt8)), h) := by
  generalize hh : run = R
  rw [run_is] at hh
  subst hh
  cases d <;> kernel_rfl

end Go.Proofs.Ythccobceodgmlaa
