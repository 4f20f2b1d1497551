/-
  What each function does: printed by program, checked by the kernel.
-/
import Derived.Test.YthccobceodgmlaaDoorCtx
namespace Go.Proofs.YthccobceodgmlaaDoor
set_option linter.unusedVariables false
set_option maxRecDepth 100000

/-! 3: skolem/skolemlaw7.SlowTurns -/

noncomputable def s_skolemlaw7_SlowTurns_0 (fuel d : Nat) : Run := fun fr h k => aexec (Cf fuel F_skolemlaw7_SlowTurns) false (acall (C fuel) false d) (acall (C fuel) true d) 152 (csub [true, true, true, true, true, true, false, true, false, false] (fbody Go.Proofs.Tryd.f3)) (asub [true, true, true, true, true, true, false, true, false, false] an3) fr h k

noncomputable def l_skolemlaw7_SlowTurns_0r (fuel d : Nat) (n : Nat) (fr : Fr) (h : AHeap) : Option (AExit × Fr × AHeap) := aloop (s_skolemlaw7_SlowTurns_0 fuel d) (some [0, 1, 2, 3, 9, 10, 11]) n fr h (kOut [1, 2, 3, 9, 10])

noncomputable def l_skolemlaw7_SlowTurns_0 : Nat → Nat → Nat → Fr → AHeap → Option (AExit × Fr × AHeap) := hide l_skolemlaw7_SlowTurns_0r

theorem l_skolemlaw7_SlowTurns_0_is : l_skolemlaw7_SlowTurns_0 = l_skolemlaw7_SlowTurns_0r := hide_eq _

noncomputable def k_skolemlaw7_SlowTurns_0r (fuel d : Nat) : AExit → Fr → AHeap → Option (AVal × AHeap) := (kBlock 0 (kSeq (Cf fuel F_skolemlaw7_SlowTurns) false (acall (C fuel) false d) (acall (C fuel) true d) 152 (csub [true, true, true, true, true, true, true] (fbody Go.Proofs.Tryd.f3)) (asub [true, true, true, true, true, true, true] an3) (kRet (Cf fuel F_skolemlaw7_SlowTurns) Go.Proofs.Tryd.f3.results.toList)))

noncomputable def k_skolemlaw7_SlowTurns_0 : Nat → Nat → AExit → Fr → AHeap → Option (AVal × AHeap) := hide k_skolemlaw7_SlowTurns_0r

theorem k_skolemlaw7_SlowTurns_0_is : k_skolemlaw7_SlowTurns_0 = k_skolemlaw7_SlowTurns_0r := hide_eq _

noncomputable def s_skolemlaw7_SlowTurns_1 (fuel d : Nat) : Run := fun fr h k => aexec (Cf fuel F_skolemlaw7_SlowTurns) false (acall (C fuel) false d) (acall (C fuel) true d) 152 (csub [true, true, true, true, true, true, true, true, true, false, true, false, false] (fbody Go.Proofs.Tryd.f3)) (asub [true, true, true, true, true, true, true, true, true, false, true, false, false] an3) fr h k

noncomputable def l_skolemlaw7_SlowTurns_1r (fuel d : Nat) (n : Nat) (fr : Fr) (h : AHeap) : Option (AExit × Fr × AHeap) := aloop (s_skolemlaw7_SlowTurns_1 fuel d) (some [1, 2, 3, 9, 10, 12, 13, 14]) n fr h (kOut [1, 2, 3, 9, 12, 13])

noncomputable def l_skolemlaw7_SlowTurns_1 : Nat → Nat → Nat → Fr → AHeap → Option (AExit × Fr × AHeap) := hide l_skolemlaw7_SlowTurns_1r

theorem l_skolemlaw7_SlowTurns_1_is : l_skolemlaw7_SlowTurns_1 = l_skolemlaw7_SlowTurns_1r := hide_eq _

noncomputable def k_skolemlaw7_SlowTurns_1r (fuel d : Nat) : AExit → Fr → AHeap → Option (AVal × AHeap) := (kBlock 2 (kSeq (Cf fuel F_skolemlaw7_SlowTurns) false (acall (C fuel) false d) (acall (C fuel) true d) 152 (csub [true, true, true, true, true, true, true, true, true, true] (fbody Go.Proofs.Tryd.f3)) (asub [true, true, true, true, true, true, true, true, true, true] an3) (kRet (Cf fuel F_skolemlaw7_SlowTurns) Go.Proofs.Tryd.f3.results.toList)))

noncomputable def k_skolemlaw7_SlowTurns_1 : Nat → Nat → AExit → Fr → AHeap → Option (AVal × AHeap) := hide k_skolemlaw7_SlowTurns_1r

theorem k_skolemlaw7_SlowTurns_1_is : k_skolemlaw7_SlowTurns_1 = k_skolemlaw7_SlowTurns_1r := hide_eq _

noncomputable def s_skolemlaw7_SlowTurns_2 (fuel d : Nat) : Run := fun fr h k => aexec (Cf fuel F_skolemlaw7_SlowTurns) false (acall (C fuel) false d) (acall (C fuel) true d) 152 (csub [true, true, true, true, true, true, true, true, true, true, false, true, false, false] (fbody Go.Proofs.Tryd.f3)) (asub [true, true, true, true, true, true, true, true, true, true, false, true, false, false] an3) fr h k

noncomputable def l_skolemlaw7_SlowTurns_2r (fuel d : Nat) (n : Nat) (fr : Fr) (h : AHeap) : Option (AExit × Fr × AHeap) := aloop (s_skolemlaw7_SlowTurns_2 fuel d) (some [1, 2, 3, 9, 12, 13, 15]) n fr h (kOut [1, 2, 3, 9, 12, 13])

noncomputable def l_skolemlaw7_SlowTurns_2 : Nat → Nat → Nat → Fr → AHeap → Option (AExit × Fr × AHeap) := hide l_skolemlaw7_SlowTurns_2r

theorem l_skolemlaw7_SlowTurns_2_is : l_skolemlaw7_SlowTurns_2 = l_skolemlaw7_SlowTurns_2r := hide_eq _

noncomputable def k_skolemlaw7_SlowTurns_2r (fuel d : Nat) : AExit → Fr → AHeap → Option (AVal × AHeap) := (kBlock 4 (kSeq (Cf fuel F_skolemlaw7_SlowTurns) false (acall (C fuel) false d) (acall (C fuel) true d) 152 (csub [true, true, true, true, true, true, true, true, true, true, true] (fbody Go.Proofs.Tryd.f3)) (asub [true, true, true, true, true, true, true, true, true, true, true] an3) (kRet (Cf fuel F_skolemlaw7_SlowTurns) Go.Proofs.Tryd.f3.results.toList)))

noncomputable def k_skolemlaw7_SlowTurns_2 : Nat → Nat → AExit → Fr → AHeap → Option (AVal × AHeap) := hide k_skolemlaw7_SlowTurns_2r

theorem k_skolemlaw7_SlowTurns_2_is : k_skolemlaw7_SlowTurns_2 = k_skolemlaw7_SlowTurns_2r := hide_eq _

theorem e_skolemlaw7_SlowTurns (fuel d : Nat) (x0 : Sl) (x1 : Int) (x2 : Bool) (x3 : Int) (h : AHeap) :
    run fuel (d + 1) F_skolemlaw7_SlowTurns [(AVal.slice x0), (AVal.int .i64 x1), (AVal.bool x2), (AVal.int .i64 x3)] h =
  (run fuel d F_skolemlaw7_first [] h).bind fun r1 =>
    (AVal.bool? r1.1).bind fun b2 =>
    (bif (!b2) then (some ((AVal.bool false), r1.2)) else ((bif (bif (decide ((8 : Int) < ((x0.len : Nat) : Int))) then true else (decide (((x0.len : Nat) : Int) = (0 : Int)))) then (some ((AVal.bool b2), r1.2)) else ((l_skolemlaw7_SlowTurns_0 fuel d fuel [(0, (AVal.slice x0)), (1, (AVal.int .i64 (Int.tmod (IntKind.wrap .i64 ((Int.tmod x1 (7 : Int)) + (7 : Int))) (7 : Int)))), (2, (AVal.bool x2)), (3, (AVal.int .i64 x3)), (9, (AVal.bool b2)), (10, (AVal.slice Sl.nil)), (11, (AVal.int .i64 (0 : Int)))] r1.2).bind fun p3 =>
    k_skolemlaw7_SlowTurns_0 fuel d p3.1 p3.2.1 p3.2.2)))) := by
  generalize hh : run = R
  rw [run_is] at hh
  subst hh
  generalize hh : l_skolemlaw7_SlowTurns_0 = R
  rw [l_skolemlaw7_SlowTurns_0_is] at hh
  subst hh
  generalize hh : k_skolemlaw7_SlowTurns_0 = R
  rw [k_skolemlaw7_SlowTurns_0_is] at hh
  subst hh
  kernel_rfl

theorem l_skolemlaw7_SlowTurns_0_eq (fuel d : Nat) (n : Nat) (x0 : Sl) (x1 : Int) (x2 : Bool) (x3 : Int) (x9 : Bool) (x10 : Sl) (x11 : Int) (h : AHeap) :
    l_skolemlaw7_SlowTurns_0 fuel d (n + 1) [(0, (AVal.slice x0)), (1, (AVal.int .i64 x1)), (2, (AVal.bool x2)), (3, (AVal.int .i64 x3)), (9, (AVal.bool x9)), (10, (AVal.slice x10)), (11, (AVal.int .i64 x11))] h =
  (bif (decide (x11 < ((x0.len : Nat) : Int))) then ((AHeap.addr h 1 x0 x11).bind fun p1 =>
    (AHeap.cell h p1).bind fun u2 =>
    (AVal.int? .i64 u2).bind fun n3 =>
    (run fuel d F_skolemmake_Lit [(AVal.int .i64 n3), (AVal.int .i64 (6 : Int))] h).bind fun r4 =>
    (AVal.int? .i64 r4.1).bind fun n5 =>
    (AHeap.append r4.2 false 1 8 x10 1 [(AVal.int .i64 n5)]).bind fun a6 =>
    l_skolemlaw7_SlowTurns_0 fuel d n [(0, (AVal.slice x0)), (1, (AVal.int .i64 x1)), (2, (AVal.bool x2)), (3, (AVal.int .i64 x3)), (9, (AVal.bool x9)), (10, (AVal.slice a6.1)), (11, (AVal.int .i64 (IntKind.wrap .i64 (x11 + (1 : Int)))))] a6.2) else (some ((.exit 0), [(1, (AVal.int .i64 x1)), (2, (AVal.bool x2)), (3, (AVal.int .i64 x3)), (9, (AVal.bool x9)), (10, (AVal.slice x10))], h))) := by
  generalize hh : run = R
  rw [run_is] at hh
  subst hh
  generalize hh : l_skolemlaw7_SlowTurns_0 = R
  rw [l_skolemlaw7_SlowTurns_0_is] at hh
  subst hh
  kernel_rfl

theorem l_skolemlaw7_SlowTurns_0_0 (fuel d : Nat) (fr : Fr) (h : AHeap) :
    l_skolemlaw7_SlowTurns_0 fuel d 0 fr h =
  none := by
  generalize hh : l_skolemlaw7_SlowTurns_0 = R
  rw [l_skolemlaw7_SlowTurns_0_is] at hh
  subst hh
  kernel_rfl

theorem k_skolemlaw7_SlowTurns_0_x0 (fuel d : Nat) (x1 : Int) (x2 : Bool) (x3 : Int) (x9 : Bool) (x10 : Sl) (h : AHeap) :
    k_skolemlaw7_SlowTurns_0 fuel d (.exit 0) [(1, (AVal.int .i64 x1)), (2, (AVal.bool x2)), (3, (AVal.int .i64 x3)), (9, (AVal.bool x9)), (10, (AVal.slice x10))] h =
  (AHeap.storeAt (AHeap.push h 1 [(AVal.bool false), (AVal.slice Sl.nil), (AVal.slice Sl.nil), (AVal.slice Sl.nil)]) [(AVal.bool x2), (AVal.slice Sl.nil), (AVal.slice Sl.nil), (AVal.slice (Sl.lst 1 true [(AVal.slice x10)]))] (Pt.mk ⟨AHeap.next h, 0, 0⟩ 4)).bind fun h1 =>
    (AHeap.storeAt (AHeap.push h1 1 [(AVal.bool false), (AVal.slice Sl.nil), (AVal.slice Sl.nil), (AVal.slice Sl.nil)]) [(AVal.bool (!x2)), (AVal.slice Sl.nil), (AVal.slice Sl.nil), (AVal.slice Sl.nil)] (Pt.mk ⟨AHeap.next h1, 0, 0⟩ 4)).bind fun h2 =>
    (l_skolemlaw7_SlowTurns_1 fuel d fuel [(1, (AVal.int .i64 x1)), (2, (AVal.bool x2)), (3, (AVal.int .i64 x3)), (9, (AVal.bool x9)), (10, (AVal.slice x10)), (12, (AVal.ptr (Pt.mk ⟨AHeap.next h, 0, 0⟩ 4))), (13, (AVal.ptr (Pt.mk ⟨AHeap.next h1, 0, 0⟩ 4))), (14, (AVal.int .i64 (0 : Int)))] h2).bind fun p3 =>
    k_skolemlaw7_SlowTurns_1 fuel d p3.1 p3.2.1 p3.2.2 := by
  generalize hh : k_skolemlaw7_SlowTurns_0 = R
  rw [k_skolemlaw7_SlowTurns_0_is] at hh
  subst hh
  generalize hh : l_skolemlaw7_SlowTurns_1 = R
  rw [l_skolemlaw7_SlowTurns_1_is] at hh
  subst hh
  generalize hh : k_skolemlaw7_SlowTurns_1 = R
  rw [k_skolemlaw7_SlowTurns_1_is] at hh
  subst hh
  kernel_rfl

theorem l_skolemlaw7_SlowTurns_1_eq (fuel d : Nat) (n : Nat) (x1 : Int) (x2 : Bool) (x3 : Int) (x9 : Bool) (x10 : Sl) (x12 : Pt) (x13 : Pt) (x14 : Int) (h : AHeap) :
    l_skolemlaw7_SlowTurns_1 fuel d (n + 1) [(1, (AVal.int .i64 x1)), (2, (AVal.bool x2)), (3, (AVal.int .i64 x3)), (9, (AVal.bool x9)), (10, (AVal.slice x10)), (12, (AVal.ptr x12)), (13, (AVal.ptr x13)), (14, (AVal.int .i64 x14))] h =
  (bif (decide (x14 < ((x10.len : Nat) : Int))) then ((Pt.field 3 x13).bind fun p1 =>
    (AHeap.cell h p1).bind fun u2 =>
    (AVal.slice? u2).bind fun s3 =>
    (AHeap.addr h 1 x10 x14).bind fun p4 =>
    (AHeap.cell h p4).bind fun u5 =>
    (AVal.int? .i64 u5).bind fun n6 =>
    (AHeap.append (AHeap.fixL h [(AVal.slice (Sl.lst 1 true [(AVal.int .i64 (IntKind.wrap .i64 (0 - n6)))]))]).2 false 1 24 s3 1 (AHeap.fixL h [(AVal.slice (Sl.lst 1 true [(AVal.int .i64 (IntKind.wrap .i64 (0 - n6)))]))]).1).bind fun a7 =>
    (Pt.field 3 x13).bind fun p8 =>
    (AHeap.storeAt a7.2 [(AVal.slice a7.1)] p8).bind fun h9 =>
    l_skolemlaw7_SlowTurns_1 fuel d n [(1, (AVal.int .i64 x1)), (2, (AVal.bool x2)), (3, (AVal.int .i64 x3)), (9, (AVal.bool x9)), (10, (AVal.slice x10)), (12, (AVal.ptr x12)), (13, (AVal.ptr x13)), (14, (AVal.int .i64 (IntKind.wrap .i64 (x14 + (1 : Int)))))] h9) else (some ((.exit 2), [(1, (AVal.int .i64 x1)), (2, (AVal.bool x2)), (3, (AVal.int .i64 x3)), (9, (AVal.bool x9)), (12, (AVal.ptr x12)), (13, (AVal.ptr x13))], h))) := by
  generalize hh : l_skolemlaw7_SlowTurns_1 = R
  rw [l_skolemlaw7_SlowTurns_1_is] at hh
  subst hh
  kernel_rfl

theorem l_skolemlaw7_SlowTurns_1_0 (fuel d : Nat) (fr : Fr) (h : AHeap) :
    l_skolemlaw7_SlowTurns_1 fuel d 0 fr h =
  none := by
  generalize hh : l_skolemlaw7_SlowTurns_1 = R
  rw [l_skolemlaw7_SlowTurns_1_is] at hh
  subst hh
  kernel_rfl

theorem k_skolemlaw7_SlowTurns_1_x2 (fuel d : Nat) (x1 : Int) (x2 : Bool) (x3 : Int) (x9 : Bool) (x12 : Pt) (x13 : Pt) (h : AHeap) :
    k_skolemlaw7_SlowTurns_1 fuel d (.exit 2) [(1, (AVal.int .i64 x1)), (2, (AVal.bool x2)), (3, (AVal.int .i64 x3)), (9, (AVal.bool x9)), (12, (AVal.ptr x12)), (13, (AVal.ptr x13))] h =
  (l_skolemlaw7_SlowTurns_2 fuel d fuel [(1, (AVal.int .i64 x1)), (2, (AVal.bool x2)), (3, (AVal.int .i64 x3)), (9, (AVal.bool x9)), (12, (AVal.ptr x12)), (13, (AVal.ptr x13)), (15, (AVal.int .i64 (1 : Int)))] h).bind fun p1 =>
    k_skolemlaw7_SlowTurns_2 fuel d p1.1 p1.2.1 p1.2.2 := by
  generalize hh : k_skolemlaw7_SlowTurns_1 = R
  rw [k_skolemlaw7_SlowTurns_1_is] at hh
  subst hh
  generalize hh : l_skolemlaw7_SlowTurns_2 = R
  rw [l_skolemlaw7_SlowTurns_2_is] at hh
  subst hh
  generalize hh : k_skolemlaw7_SlowTurns_2 = R
  rw [k_skolemlaw7_SlowTurns_2_is] at hh
  subst hh
  kernel_rfl

theorem l_skolemlaw7_SlowTurns_2_eq (fuel d : Nat) (n : Nat) (x1 : Int) (x2 : Bool) (x3 : Int) (x9 : Bool) (x12 : Pt) (x13 : Pt) (x15 : Int) (h : AHeap) :
    l_skolemlaw7_SlowTurns_2 fuel d (n + 1) [(1, (AVal.int .i64 x1)), (2, (AVal.bool x2)), (3, (AVal.int .i64 x3)), (9, (AVal.bool x9)), (12, (AVal.ptr x12)), (13, (AVal.ptr x13)), (15, (AVal.int .i64 x15))] h =
  (bif (decide (x15 ≤ (6 : Int))) then ((bif (decide (x15 ≤ x1)) then ((Pt.field 1 x12).bind fun p1 =>
    (AHeap.cell h p1).bind fun u2 =>
    (AVal.slice? u2).bind fun s3 =>
    (AHeap.append h false 1 8 s3 1 [(AVal.int .i64 x15)]).bind fun a4 =>
    (Pt.field 1 x12).bind fun p5 =>
    (AHeap.storeAt a4.2 [(AVal.slice a4.1)] p5).bind fun h6 =>
    (Pt.field 1 x13).bind fun p7 =>
    (AHeap.cell h6 p7).bind fun u8 =>
    (AVal.slice? u8).bind fun s9 =>
    (AHeap.append h6 false 1 8 s9 1 [(AVal.int .i64 x15)]).bind fun a10 =>
    (Pt.field 1 x13).bind fun p11 =>
    (AHeap.storeAt a10.2 [(AVal.slice a10.1)] p11).bind fun h12 =>
    l_skolemlaw7_SlowTurns_2 fuel d n [(1, (AVal.int .i64 x1)), (2, (AVal.bool x2)), (3, (AVal.int .i64 x3)), (9, (AVal.bool x9)), (12, (AVal.ptr x12)), (13, (AVal.ptr x13)), (15, (AVal.int .i64 (IntKind.wrap .i64 (x15 + (1 : Int)))))] h12) else ((Pt.field 2 x12).bind fun p13 =>
    (AHeap.cell h p13).bind fun u14 =>
    (AVal.slice? u14).bind fun s15 =>
    (AHeap.append h false 1 8 s15 1 [(AVal.int .i64 x15)]).bind fun a16 =>
    (Pt.field 2 x12).bind fun p17 =>
    (AHeap.storeAt a16.2 [(AVal.slice a16.1)] p17).bind fun h18 =>
    (Pt.field 2 x13).bind fun p19 =>
    (AHeap.cell h18 p19).bind fun u20 =>
    (AVal.slice? u20).bind fun s21 =>
    (AHeap.append h18 false 1 8 s21 1 [(AVal.int .i64 x15)]).bind fun a22 =>
    (Pt.field 2 x13).bind fun p23 =>
    (AHeap.storeAt a22.2 [(AVal.slice a22.1)] p23).bind fun h24 =>
    l_skolemlaw7_SlowTurns_2 fuel d n [(1, (AVal.int .i64 x1)), (2, (AVal.bool x2)), (3, (AVal.int .i64 x3)), (9, (AVal.bool x9)), (12, (AVal.ptr x12)), (13, (AVal.ptr x13)), (15, (AVal.int .i64 (IntKind.wrap .i64 (x15 + (1 : Int)))))] h24))) else (some ((.exit 4), [(1, (AVal.int .i64 x1)), (2, (AVal.bool x2)), (3, (AVal.int .i64 x3)), (9, (AVal.bool x9)), (12, (AVal.ptr x12)), (13, (AVal.ptr x13))], h))) := by
  generalize hh : l_skolemlaw7_SlowTurns_2 = R
  rw [l_skolemlaw7_SlowTurns_2_is] at hh
  subst hh
  kernel_rfl

theorem l_skolemlaw7_SlowTurns_2_0 (fuel d : Nat) (fr : Fr) (h : AHeap) :
    l_skolemlaw7_SlowTurns_2 fuel d 0 fr h =
  none := by
  generalize hh : l_skolemlaw7_SlowTurns_2 = R
  rw [l_skolemlaw7_SlowTurns_2_is] at hh
  subst hh
  kernel_rfl

theorem k_skolemlaw7_SlowTurns_2_x4 (fuel d : Nat) (x1 : Int) (x2 : Bool) (x3 : Int) (x9 : Bool) (x12 : Pt) (x13 : Pt) (h : AHeap) :
    k_skolemlaw7_SlowTurns_2 fuel d (.exit 4) [(1, (AVal.int .i64 x1)), (2, (AVal.bool x2)), (3, (AVal.int .i64 x3)), (9, (AVal.bool x9)), (12, (AVal.ptr x12)), (13, (AVal.ptr x13))] h =
  (AHeap.cellsAt h 4 x12).bind fun c1 =>
    (run fuel d F_slow_Value [(AVal.agg c1)] h).bind fun r2 =>
    (bif AVal.isTup 2 r2.1 then ((AVal.comp 0 r2.1).bind fun u3 =>
    (AVal.bool? u3).bind fun b4 =>
    (AVal.comp 1 r2.1).bind fun u5 =>
    (AHeap.cellsAt r2.2 4 x13).bind fun c6 =>
    (run fuel d F_slow_Value [(AVal.agg c6)] r2.2).bind fun r7 =>
    (bif AVal.isTup 2 r7.1 then ((AVal.comp 0 r7.1).bind fun u8 =>
    (AVal.bool? u8).bind fun b9 =>
    (AVal.comp 1 r7.1).bind fun u10 =>
    (AHeap.cellsAt r7.2 4 x12).bind fun c11 =>
    (run fuel d F_skolemmake_Values [(AVal.int .i64 x3), (AVal.int .i64 x1)] r7.2).bind fun r12 =>
    (AVal.slice? r12.1).bind fun s13 =>
    same ((AHeap.cellsAt r12.2 4 x12).bind fun c29 =>
    some ((AVal.agg c29), r12.2)) ((AVal.agg c11), r12.2) (
    (run fuel d F_slow_Wins [(AVal.agg c11), (AVal.slice s13)] r12.2).bind fun r14 =>
    (bif AVal.isTup 2 r14.1 then ((AVal.comp 0 r14.1).bind fun u15 =>
    (AVal.bool? u15).bind fun b16 =>
    (AVal.comp 1 r14.1).bind fun u17 =>
    ((bif (x9 == true) then ((nilTest .iface u5).bind fun b18 =>
    some ((AVal.bool (b18)), r14.2)) else (some ((AVal.bool false), r14.2)) : Option (AVal × AHeap))).bind fun r19 =>
    (AVal.bool? r19.1).bind fun b20 =>
    ((bif (b20 == true) then ((nilTest .iface u10).bind fun b21 =>
    some ((AVal.bool (b21)), r19.2)) else (some ((AVal.bool false), r19.2)) : Option (AVal × AHeap))).bind fun r22 =>
    (AVal.bool? r22.1).bind fun b23 =>
    ((bif (b23 == true) then ((nilTest .iface u17).bind fun b24 =>
    some ((AVal.bool (b24)), r22.2)) else (some ((AVal.bool false), r22.2)) : Option (AVal × AHeap))).bind fun r25 =>
    (AVal.bool? r25.1).bind fun b26 =>
    ((bif ((bif b26 then (!(b4 == b9)) else false) == true) then (some ((AVal.bool (bif (!b16) then true else (b4 == x2))), r25.2)) else (some ((AVal.bool false), r25.2)) : Option (AVal × AHeap))).bind fun r27 =>
    (AVal.bool? r27.1).bind fun b28 =>
    some ((AVal.bool b28), r27.2)) else none))) else none)) else none) := by
  generalize hh : run = R
  rw [run_is] at hh
  subst hh
  generalize hh : k_skolemlaw7_SlowTurns_2 = R
  rw [k_skolemlaw7_SlowTurns_2_is] at hh
  subst hh
  kernel_rfl

/-! 8: skolem/skolemlaw7.first -/

theorem e_skolemlaw7_first (fuel d : Nat)  (h : AHeap) :
    brun fuel (d + 1) F_skolemlaw7_first [] h =
  (run fuel d F_slow_Value [(AVal.agg [(AVal.bool false), (AVal.slice Sl.nil), (AVal.slice Sl.nil), (AVal.slice Sl.nil)])] h).bind fun r1 =>
    (bif AVal.isTup 2 r1.1 then ((AVal.comp 0 r1.1).bind fun u2 =>
    (AVal.bool? u2).bind fun b3 =>
    (AVal.comp 1 r1.1).bind fun u4 =>
    ((bif (b3 == true) then ((nilTest .iface u4).bind fun b5 =>
    some ((AVal.bool (b5)), r1.2)) else (some ((AVal.bool false), r1.2)) : Option (AVal × AHeap))).bind fun r6 =>
    (AVal.bool? r6.1).bind fun b7 =>
    some ((AVal.bool b7), r6.2)) else none) := by
  generalize hh : run = R
  rw [run_is] at hh
  subst hh
  generalize hh : brun = R
  rw [brun_is] at hh
  subst hh
  kernel_rfl

/-! 9: skolem/skolemmake.Lit -/

theorem e_skolemmake_Lit (fuel d : Nat) (x0 : Int) (x1 : Int) (h : AHeap) :
    brun fuel (d + 1) F_skolemmake_Lit [(AVal.int .i64 x0), (AVal.int .i64 x1)] h =
  (run fuel d F_skolemworld_Number [(AVal.int .i64 x0), (AVal.int .i64 (IntKind.wrap .i64 ((2 : Int) * x1)))] h).bind fun r1 =>
    (AVal.int? .i64 r1.1).bind fun n2 =>
    (bif (decide (n2 < x1)) then (some ((AVal.int .i64 (IntKind.wrap .i64 (n2 + (1 : Int)))), r1.2)) else (some ((AVal.int .i64 (IntKind.wrap .i64 ((IntKind.wrap .i64 (x1 - n2)) - (1 : Int)))), r1.2))) := by
  generalize hh : run = R
  rw [run_is] at hh
  subst hh
  generalize hh : brun = R
  rw [brun_is] at hh
  subst hh
  kernel_rfl

/-! 10: skolem/slow.Value -/

noncomputable def s_slow_Value_0 (fuel d : Nat) : Run := fun fr h k => aexec (Cf fuel F_slow_Value) false (acall (C fuel) false d) (acall (C fuel) true d) 56 (csub [true, true, true, true, true, true, false, false] (fbody Go.Proofs.Tryd.f10)) (asub [true, true, true, true, true, true, false, false] an10) fr h k

noncomputable def l_slow_Value_0r (fuel d : Nat) (n : Nat) (fr : Fr) (h : AHeap) : Option (AExit × Fr × AHeap) := aloop (s_slow_Value_0 fuel d) (some [1, 4, 6, 7, 8]) n fr h (kOut [2, 3])

noncomputable def l_slow_Value_0 : Nat → Nat → Nat → Fr → AHeap → Option (AExit × Fr × AHeap) := hide l_slow_Value_0r

theorem l_slow_Value_0_is : l_slow_Value_0 = l_slow_Value_0r := hide_eq _

noncomputable def k_slow_Value_0r (fuel d : Nat) : AExit → Fr → AHeap → Option (AVal × AHeap) := (kBlock 1 (kRet (Cf fuel F_slow_Value) Go.Proofs.Tryd.f10.results.toList))

noncomputable def k_slow_Value_0 : Nat → Nat → AExit → Fr → AHeap → Option (AVal × AHeap) := hide k_slow_Value_0r

theorem k_slow_Value_0_is : k_slow_Value_0 = k_slow_Value_0r := hide_eq _

theorem e_slow_Value (fuel d : Nat) (x0 : List AVal) (h : AHeap) :
    brun fuel (d + 1) F_slow_Value [(AVal.agg x0)] h =
  (bif (List.all x0 AVal.isCell) then ((AHeap.cellsAt (AHeap.push h 1 x0) 4 (Pt.mk ⟨AHeap.next h, 0, 0⟩ (List.length x0))).bind fun c1 =>
    (run fuel d F_prefix_Matrix [(AVal.agg c1)] (AHeap.push h 1 x0)).bind fun r2 =>
    (bif AVal.isTup 2 r2.1 then ((AVal.comp 0 r2.1).bind fun u3 =>
    (AVal.slice? u3).bind fun s4 =>
    (AVal.comp 1 r2.1).bind fun u5 =>
    (AVal.bool? u5).bind fun b6 =>
    (Pt.field 1 (Pt.mk ⟨AHeap.next h, 0, 0⟩ (List.length x0))).bind fun p7 =>
    (AHeap.cell r2.2 p7).bind fun u8 =>
    (AVal.slice? u8).bind fun s9 =>
    (bif (!b6) then (some ((AVal.tup [(AVal.bool false), err_api_ErrRange]), r2.2)) else ((Pt.field 2 (Pt.mk ⟨AHeap.next h, 0, 0⟩ (List.length x0))).bind fun p10 =>
    (AHeap.cell r2.2 p10).bind fun u11 =>
    (AVal.slice? u11).bind fun s12 =>
    (bif (decide ((20 : Int) < (IntKind.wrap .i64 (((s9.len : Nat) : Int) + ((s12.len : Nat) : Int))))) then (some ((AVal.tup [(AVal.bool false), err_api_ErrLimit]), r2.2)) else ((bif (true && decide (0 ≤ ((s9.len : Nat) : Int)) && decide (((s9.len : Nat) : Int) ≤ ((s9.len : Nat) : Int)) && decide (((s9.len : Nat) : Int) * 1 ≤ 140737488355328) && decide (((s9.len : Nat) : Int) ≤ 140737488355328)) then ((Pt.field 2 (Pt.mk ⟨AHeap.next h, 0, 0⟩ (List.length x0))).bind fun p13 =>
    (AHeap.cell (AHeap.push r2.2 1 (repeatCells [(AVal.bool false)] (Int.toNat ((s9.len : Nat) : Int)))) p13).bind fun u14 =>
    (AVal.slice? u14).bind fun s15 =>
    (bif (true && decide (0 ≤ (IntKind.wrap .i64 ((IntKind.wrap .i64 ((1 : Int) + ((s9.len : Nat) : Int))) + ((s15.len : Nat) : Int)))) && decide ((IntKind.wrap .i64 ((IntKind.wrap .i64 ((1 : Int) + ((s9.len : Nat) : Int))) + ((s15.len : Nat) : Int))) ≤ (IntKind.wrap .i64 ((IntKind.wrap .i64 ((1 : Int) + ((s9.len : Nat) : Int))) + ((s15.len : Nat) : Int)))) && decide ((IntKind.wrap .i64 ((IntKind.wrap .i64 ((1 : Int) + ((s9.len : Nat) : Int))) + ((s15.len : Nat) : Int))) * 1 ≤ 140737488355328) && decide ((IntKind.wrap .i64 ((IntKind.wrap .i64 ((1 : Int) + ((s9.len : Nat) : Int))) + ((s15.len : Nat) : Int))) ≤ 140737488355328)) then ((l_slow_Value_0 fuel d fuel [(1, (AVal.ptr (Pt.mk ⟨AHeap.next h, 0, 0⟩ (List.length x0)))), (4, (AVal.slice s4)), (6, (AVal.int .i64 ((s9.len : Nat) : Int))), (7, (AVal.slice (Sl.mk ⟨AHeap.next r2.2, 0, 0⟩ (Int.toNat ((s9.len : Nat) : Int)) (eqI ((s9.len : Nat) : Int) ((s9.len : Nat) : Int))))), (8, (AVal.slice (Sl.mk ⟨AHeap.next (AHeap.push r2.2 1 (repeatCells [(AVal.bool false)] (Int.toNat ((s9.len : Nat) : Int)))), 0, 0⟩ (Int.toNat (IntKind.wrap .i64 ((IntKind.wrap .i64 ((1 : Int) + ((s9.len : Nat) : Int))) + ((s15.len : Nat) : Int)))) (eqI (IntKind.wrap .i64 ((IntKind.wrap .i64 ((1 : Int) + ((s9.len : Nat) : Int))) + ((s15.len : Nat) : Int))) (IntKind.wrap .i64 ((IntKind.wrap .i64 ((1 : Int) + ((s9.len : Nat) : Int))) + ((s15.len : Nat) : Int)))))))] (AHeap.push (AHeap.push r2.2 1 (repeatCells [(AVal.bool false)] (Int.toNat ((s9.len : Nat) : Int)))) 1 (repeatCells [(AVal.bool false)] (Int.toNat (IntKind.wrap .i64 ((IntKind.wrap .i64 ((1 : Int) + ((s9.len : Nat) : Int))) + ((s15.len : Nat) : Int))))))).bind fun p16 =>
    k_slow_Value_0 fuel d p16.1 p16.2.1 p16.2.2) else (none))) else (none))))))) else none)) else (none)) := by
  generalize hh : run = R
  rw [run_is] at hh
  subst hh
  generalize hh : brun = R
  rw [brun_is] at hh
  subst hh
  generalize hh : l_slow_Value_0 = R
  rw [l_slow_Value_0_is] at hh
  subst hh
  generalize hh : k_slow_Value_0 = R
  rw [k_slow_Value_0_is] at hh
  subst hh
  kernel_rfl

theorem l_slow_Value_0_eq (fuel d : Nat) (n : Nat) (x1 : Pt) (x4 : Sl) (x6 : Int) (x7 : Sl) (x8 : Sl) (h : AHeap) :
    l_slow_Value_0 fuel d (n + 1) [(1, (AVal.ptr x1)), (4, (AVal.slice x4)), (6, (AVal.int .i64 x6)), (7, (AVal.slice x7)), (8, (AVal.slice x8))] h =
  (aHi (none : Option AVal) (Sl.len x8)).bind fun hi1 =>
    (aLo (some (AVal.int .i64 (1 : Int))) hi1).bind fun lo2 =>
    (aMx (none : Option AVal) hi1).bind fun cl3 =>
    (bif (AHeap.hasSz h 1 x8) then ((AHeap.sliceCells h 1 x7).bind fun xs4 =>
    (AHeap.copy h false 1 (Sl.cut x8 1 lo2 hi1 cl3) (min (Sl.len x7) (Sl.len (Sl.cut x8 1 lo2 hi1 cl3))) xs4).bind fun h5 =>
    (Pt.field 0 x1).bind fun p6 =>
    (AHeap.cell h5 p6).bind fun u7 =>
    (AVal.bool? u7).bind fun b8 =>
    (run fuel d F_slow_wins [(AVal.slice x4), (AVal.slice x8), (AVal.int .i64 x6), (AVal.bool b8)] h5).bind fun r9 =>
    (AVal.bool? r9.1).bind fun b10 =>
    (bif b10 then ((Pt.field 0 x1).bind fun p11 =>
    (AHeap.cell r9.2 p11).bind fun u12 =>
    (AVal.bool? u12).bind fun b13 =>
    some (.ret, [(2, (AVal.bool b13)), (3, AVal.nilif)], r9.2)) else ((run fuel d F_slow_next [(AVal.slice x7), (AVal.int .i64 (0 : Int))] r9.2).bind fun r14 =>
    (AVal.bool? r14.1).bind fun b15 =>
    (bif (!b15) then ((Pt.field 0 x1).bind fun p16 =>
    (AHeap.cell r14.2 p16).bind fun u17 =>
    (AVal.bool? u17).bind fun b18 =>
    some (.ret, [(2, (AVal.bool (!b18))), (3, AVal.nilif)], r14.2)) else (l_slow_Value_0 fuel d n [(1, (AVal.ptr x1)), (4, (AVal.slice x4)), (6, (AVal.int .i64 x6)), (7, (AVal.slice x7)), (8, (AVal.slice x8))] r14.2))))) else (none)) := by
  generalize hh : run = R
  rw [run_is] at hh
  subst hh
  generalize hh : l_slow_Value_0 = R
  rw [l_slow_Value_0_is] at hh
  subst hh
  kernel_rfl

theorem l_slow_Value_0_0 (fuel d : Nat) (fr : Fr) (h : AHeap) :
    l_slow_Value_0 fuel d 0 fr h =
  none := by
  generalize hh : l_slow_Value_0 = R
  rw [l_slow_Value_0_is] at hh
  subst hh
  kernel_rfl

theorem k_slow_Value_0_r (fuel d : Nat) (x2 : Bool) (x3 : AVal) (h : AHeap) :
    k_slow_Value_0 fuel d .ret [(2, (AVal.bool x2)), (3, x3)] h =
  some ((AVal.tup [(AVal.bool x2), x3]), h) := by
  generalize hh : k_slow_Value_0 = R
  rw [k_slow_Value_0_is] at hh
  subst hh
  kernel_rfl

/-! 11: skolem/slow.Wins -/

theorem e_slow_Wins (fuel d : Nat) (x0 : List AVal) (x1 : Sl) (h : AHeap) :
    brun fuel (d + 1) F_slow_Wins [(AVal.agg x0), (AVal.slice x1)] h =
  (bif (List.all x0 AVal.isCell) then ((AHeap.cellsAt (AHeap.push h 1 x0) 4 (Pt.mk ⟨AHeap.next h, 0, 0⟩ (List.length x0))).bind fun c1 =>
    (run fuel d F_prefix_Matrix [(AVal.agg c1)] (AHeap.push h 1 x0)).bind fun r2 =>
    (bif AVal.isTup 2 r2.1 then ((AVal.comp 0 r2.1).bind fun u3 =>
    (AVal.slice? u3).bind fun s4 =>
    (AVal.comp 1 r2.1).bind fun u5 =>
    (AVal.bool? u5).bind fun b6 =>
    ((bif ((!b6) == false) then ((Pt.field 1 (Pt.mk ⟨AHeap.next h, 0, 0⟩ (List.length x0))).bind fun p7 =>
    (AHeap.cell r2.2 p7).bind fun u8 =>
    (AVal.slice? u8).bind fun s9 =>
    some ((AVal.bool (!decide (((x1.len : Nat) : Int) = ((s9.len : Nat) : Int)))), r2.2)) else (some ((AVal.bool true), r2.2)) : Option (AVal × AHeap))).bind fun r10 =>
    (AVal.bool? r10.1).bind fun b11 =>
    (bif b11 then (some ((AVal.tup [(AVal.bool false), err_api_ErrRange]), r10.2)) else ((Pt.field 2 (Pt.mk ⟨AHeap.next h, 0, 0⟩ (List.length x0))).bind fun p12 =>
    (AHeap.cell r10.2 p12).bind fun u13 =>
    (AVal.slice? u13).bind fun s14 =>
    (bif (decide ((20 : Int) < ((s14.len : Nat) : Int))) then (some ((AVal.tup [(AVal.bool false), err_api_ErrLimit]), r10.2)) else ((Pt.field 1 (Pt.mk ⟨AHeap.next h, 0, 0⟩ (List.length x0))).bind fun p15 =>
    (AHeap.cell r10.2 p15).bind fun u16 =>
    (AVal.slice? u16).bind fun s17 =>
    (Pt.field 2 (Pt.mk ⟨AHeap.next h, 0, 0⟩ (List.length x0))).bind fun p18 =>
    (AHeap.cell r10.2 p18).bind fun u19 =>
    (AVal.slice? u19).bind fun s20 =>
    (bif (true && decide (0 ≤ (IntKind.wrap .i64 ((IntKind.wrap .i64 ((1 : Int) + ((s17.len : Nat) : Int))) + ((s20.len : Nat) : Int)))) && decide ((IntKind.wrap .i64 ((IntKind.wrap .i64 ((1 : Int) + ((s17.len : Nat) : Int))) + ((s20.len : Nat) : Int))) ≤ (IntKind.wrap .i64 ((IntKind.wrap .i64 ((1 : Int) + ((s17.len : Nat) : Int))) + ((s20.len : Nat) : Int)))) && decide ((IntKind.wrap .i64 ((IntKind.wrap .i64 ((1 : Int) + ((s17.len : Nat) : Int))) + ((s20.len : Nat) : Int))) * 1 ≤ 140737488355328) && decide ((IntKind.wrap .i64 ((IntKind.wrap .i64 ((1 : Int) + ((s17.len : Nat) : Int))) + ((s20.len : Nat) : Int))) ≤ 140737488355328)) then ((aHi (none : Option AVal) (Sl.len (Sl.mk ⟨AHeap.next r10.2, 0, 0⟩ (Int.toNat (IntKind.wrap .i64 ((IntKind.wrap .i64 ((1 : Int) + ((s17.len : Nat) : Int))) + ((s20.len : Nat) : Int)))) (eqI (IntKind.wrap .i64 ((IntKind.wrap .i64 ((1 : Int) + ((s17.len : Nat) : Int))) + ((s20.len : Nat) : Int))) (IntKind.wrap .i64 ((IntKind.wrap .i64 ((1 : Int) + ((s17.len : Nat) : Int))) + ((s20.len : Nat) : Int))))))).bind fun hi21 =>
    (aLo (some (AVal.int .i64 (1 : Int))) hi21).bind fun lo22 =>
    (aMx (none : Option AVal) hi21).bind fun cl23 =>
    (bif (AHeap.hasSz (AHeap.push r10.2 1 (repeatCells [(AVal.bool false)] (Int.toNat (IntKind.wrap .i64 ((IntKind.wrap .i64 ((1 : Int) + ((s17.len : Nat) : Int))) + ((s20.len : Nat) : Int)))))) 1 (Sl.mk ⟨AHeap.next r10.2, 0, 0⟩ (Int.toNat (IntKind.wrap .i64 ((IntKind.wrap .i64 ((1 : Int) + ((s17.len : Nat) : Int))) + ((s20.len : Nat) : Int)))) (eqI (IntKind.wrap .i64 ((IntKind.wrap .i64 ((1 : Int) + ((s17.len : Nat) : Int))) + ((s20.len : Nat) : Int))) (IntKind.wrap .i64 ((IntKind.wrap .i64 ((1 : Int) + ((s17.len : Nat) : Int))) + ((s20.len : Nat) : Int)))))) then ((AHeap.sliceCells (AHeap.push r10.2 1 (repeatCells [(AVal.bool false)] (Int.toNat (IntKind.wrap .i64 ((IntKind.wrap .i64 ((1 : Int) + ((s17.len : Nat) : Int))) + ((s20.len : Nat) : Int)))))) 1 x1).bind fun xs24 =>
    (AHeap.copy (AHeap.push r10.2 1 (repeatCells [(AVal.bool false)] (Int.toNat (IntKind.wrap .i64 ((IntKind.wrap .i64 ((1 : Int) + ((s17.len : Nat) : Int))) + ((s20.len : Nat) : Int)))))) false 1 (Sl.cut (Sl.mk ⟨AHeap.next r10.2, 0, 0⟩ (Int.toNat (IntKind.wrap .i64 ((IntKind.wrap .i64 ((1 : Int) + ((s17.len : Nat) : Int))) + ((s20.len : Nat) : Int)))) (eqI (IntKind.wrap .i64 ((IntKind.wrap .i64 ((1 : Int) + ((s17.len : Nat) : Int))) + ((s20.len : Nat) : Int))) (IntKind.wrap .i64 ((IntKind.wrap .i64 ((1 : Int) + ((s17.len : Nat) : Int))) + ((s20.len : Nat) : Int))))) 1 lo22 hi21 cl23) (min (Sl.len x1) (Sl.len (Sl.cut (Sl.mk ⟨AHeap.next r10.2, 0, 0⟩ (Int.toNat (IntKind.wrap .i64 ((IntKind.wrap .i64 ((1 : Int) + ((s17.len : Nat) : Int))) + ((s20.len : Nat) : Int)))) (eqI (IntKind.wrap .i64 ((IntKind.wrap .i64 ((1 : Int) + ((s17.len : Nat) : Int))) + ((s20.len : Nat) : Int))) (IntKind.wrap .i64 ((IntKind.wrap .i64 ((1 : Int) + ((s17.len : Nat) : Int))) + ((s20.len : Nat) : Int))))) 1 lo22 hi21 cl23))) xs24).bind fun h25 =>
    (Pt.field 0 (Pt.mk ⟨AHeap.next h, 0, 0⟩ (List.length x0))).bind fun p26 =>
    (AHeap.cell h25 p26).bind fun u27 =>
    (AVal.bool? u27).bind fun b28 =>
    (run fuel d F_slow_wins [(AVal.slice s4), (AVal.slice (Sl.mk ⟨AHeap.next r10.2, 0, 0⟩ (Int.toNat (IntKind.wrap .i64 ((IntKind.wrap .i64 ((1 : Int) + ((s17.len : Nat) : Int))) + ((s20.len : Nat) : Int)))) (eqI (IntKind.wrap .i64 ((IntKind.wrap .i64 ((1 : Int) + ((s17.len : Nat) : Int))) + ((s20.len : Nat) : Int))) (IntKind.wrap .i64 ((IntKind.wrap .i64 ((1 : Int) + ((s17.len : Nat) : Int))) + ((s20.len : Nat) : Int)))))), (AVal.int .i64 ((x1.len : Nat) : Int)), (AVal.bool b28)] h25).bind fun r29 =>
    (AVal.bool? r29.1).bind fun b30 =>
    some ((AVal.tup [(AVal.bool b30), AVal.nilif]), r29.2)) else (none))) else (none))))))) else none)) else (none)) := by
  generalize hh : run = R
  rw [run_is] at hh
  subst hh
  generalize hh : brun = R
  rw [brun_is] at hh
  subst hh
  kernel_rfl

/-! 12: skolem/skolemmake.Values -/

noncomputable def s_skolemmake_Values_0 (fuel d : Nat) : Run := fun fr h k => aexec (Cf fuel F_skolemmake_Values) false (acall (C fuel) false d) (acall (C fuel) true d) 23 (csub [true, true, false, true, false, false] (fbody Go.Proofs.Tryd.f12)) (asub [true, true, false, true, false, false] an12) fr h k

noncomputable def l_skolemmake_Values_0r (fuel d : Nat) (n : Nat) (fr : Fr) (h : AHeap) : Option (AExit × Fr × AHeap) := aloop (s_skolemmake_Values_0 fuel d) (some [0, 1, 5, 6]) n fr h (kOut [5])

noncomputable def l_skolemmake_Values_0 : Nat → Nat → Nat → Fr → AHeap → Option (AExit × Fr × AHeap) := hide l_skolemmake_Values_0r

theorem l_skolemmake_Values_0_is : l_skolemmake_Values_0 = l_skolemmake_Values_0r := hide_eq _

noncomputable def k_skolemmake_Values_0r (fuel d : Nat) : AExit → Fr → AHeap → Option (AVal × AHeap) := (kBlock 0 (kSeq (Cf fuel F_skolemmake_Values) false (acall (C fuel) false d) (acall (C fuel) true d) 23 (csub [true, true, true] (fbody Go.Proofs.Tryd.f12)) (asub [true, true, true] an12) (kRet (Cf fuel F_skolemmake_Values) Go.Proofs.Tryd.f12.results.toList)))

noncomputable def k_skolemmake_Values_0 : Nat → Nat → AExit → Fr → AHeap → Option (AVal × AHeap) := hide k_skolemmake_Values_0r

theorem k_skolemmake_Values_0_is : k_skolemmake_Values_0 = k_skolemmake_Values_0r := hide_eq _

theorem e_skolemmake_Values (fuel d : Nat) (x0 : Int) (x1 : Int) (h : AHeap) :
    brun fuel (d + 1) F_skolemmake_Values [(AVal.int .i64 x0), (AVal.int .i64 x1)] h =
  (l_skolemmake_Values_0 fuel d fuel [(0, (AVal.int .i64 x0)), (1, (AVal.int .i64 x1)), (5, (AVal.slice Sl.nil)), (6, (AVal.int .i64 (0 : Int)))] h).bind fun p1 =>
    k_skolemmake_Values_0 fuel d p1.1 p1.2.1 p1.2.2 := by
  generalize hh : brun = R
  rw [brun_is] at hh
  subst hh
  generalize hh : l_skolemmake_Values_0 = R
  rw [l_skolemmake_Values_0_is] at hh
  subst hh
  generalize hh : k_skolemmake_Values_0 = R
  rw [k_skolemmake_Values_0_is] at hh
  subst hh
  kernel_rfl

theorem l_skolemmake_Values_0_eq (fuel d : Nat) (n : Nat) (x0 : Int) (x1 : Int) (x5 : Sl) (x6 : Int) (h : AHeap) :
    l_skolemmake_Values_0 fuel d (n + 1) [(0, (AVal.int .i64 x0)), (1, (AVal.int .i64 x1)), (5, (AVal.slice x5)), (6, (AVal.int .i64 x6))] h =
  (bif (decide (x6 < x1)) then ((bif decide ((IntKind.wrap .u64 (Int.tmod x6 (60 : Int))) < 0) then (none) else ((AHeap.append h false 1 1 x5 1 [(AVal.bool (decide ((bitsOp .and .i64 (Int.fdiv x0 (2 ^ min (Int.toNat (IntKind.wrap .u64 (Int.tmod x6 (60 : Int)))) (IntKind.bits .i64))) (1 : Int)) = (1 : Int))))]).bind fun a1 =>
    l_skolemmake_Values_0 fuel d n [(0, (AVal.int .i64 x0)), (1, (AVal.int .i64 x1)), (5, (AVal.slice a1.1)), (6, (AVal.int .i64 (IntKind.wrap .i64 (x6 + (1 : Int)))))] a1.2))) else (some ((.exit 0), [(5, (AVal.slice x5))], h))) := by
  generalize hh : l_skolemmake_Values_0 = R
  rw [l_skolemmake_Values_0_is] at hh
  subst hh
  kernel_rfl

theorem l_skolemmake_Values_0_0 (fuel d : Nat) (fr : Fr) (h : AHeap) :
    l_skolemmake_Values_0 fuel d 0 fr h =
  none := by
  generalize hh : l_skolemmake_Values_0 = R
  rw [l_skolemmake_Values_0_is] at hh
  subst hh
  kernel_rfl

theorem k_skolemmake_Values_0_x0 (fuel d : Nat) (x5 : Sl) (h : AHeap) :
    k_skolemmake_Values_0 fuel d (.exit 0) [(5, (AVal.slice x5))] h =
  some ((AVal.slice x5), h) := by
  generalize hh : k_skolemmake_Values_0 = R
  rw [k_skolemmake_Values_0_is] at hh
  subst hh
  kernel_rfl

/-! 17: skolem/skolemworld.Number -/

theorem e_skolemworld_Number (fuel d : Nat) (x0 : Int) (x1 : Int) (h : AHeap) :
    brun fuel (d + 1) F_skolemworld_Number [(AVal.int .i64 x0), (AVal.int .i64 x1)] h =
  (bif decide (x1 = 0) then (none) else ((bif (decide ((Int.tmod x0 x1) < (0 : Int))) then (some ((AVal.int .i64 (IntKind.wrap .i64 ((Int.tmod x0 x1) + x1))), h)) else (some ((AVal.int .i64 (Int.tmod x0 x1)), h))))) := by
  generalize hh : brun = R
  rw [brun_is] at hh
  subst hh
  kernel_rfl

/-! 27: skolem/prefix.Matrix -/

noncomputable def s_prefix_Matrix_0 (fuel d : Nat) : Run := fun fr h k => aexec (Cf fuel F_prefix_Matrix) false (acall (C fuel) false d) (acall (C fuel) true d) 81 (csub [true, true, false, true, false, false] (fbody Go.Proofs.Tryd.f27)) (asub [true, true, false, true, false, false] an27) fr h k

noncomputable def l_prefix_Matrix_0r (fuel d : Nat) (n : Nat) (fr : Fr) (h : AHeap) : Option (AExit × Fr × AHeap) := aloop (s_prefix_Matrix_0 fuel d) (some [1, 4, 20, 21, 22]) n fr h (kOut [1, 4])

noncomputable def l_prefix_Matrix_0 : Nat → Nat → Nat → Fr → AHeap → Option (AExit × Fr × AHeap) := hide l_prefix_Matrix_0r

theorem l_prefix_Matrix_0_is : l_prefix_Matrix_0 = l_prefix_Matrix_0r := hide_eq _

noncomputable def k_prefix_Matrix_0r (fuel d : Nat) : AExit → Fr → AHeap → Option (AVal × AHeap) := (kBlock 0 (kSeq (Cf fuel F_prefix_Matrix) false (acall (C fuel) false d) (acall (C fuel) true d) 81 (csub [true, true, true] (fbody Go.Proofs.Tryd.f27)) (asub [true, true, true] an27) (kRet (Cf fuel F_prefix_Matrix) Go.Proofs.Tryd.f27.results.toList)))

noncomputable def k_prefix_Matrix_0 : Nat → Nat → AExit → Fr → AHeap → Option (AVal × AHeap) := hide k_prefix_Matrix_0r

theorem k_prefix_Matrix_0_is : k_prefix_Matrix_0 = k_prefix_Matrix_0r := hide_eq _

noncomputable def s_prefix_Matrix_1 (fuel d : Nat) : Run := fun fr h k => aexec (Cf fuel F_prefix_Matrix) false (acall (C fuel) false d) (acall (C fuel) true d) 81 (csub [true, true, true, true, false, true, false, false] (fbody Go.Proofs.Tryd.f27)) (asub [true, true, true, true, false, true, false, false] an27) fr h k

noncomputable def l_prefix_Matrix_1r (fuel d : Nat) (n : Nat) (fr : Fr) (h : AHeap) : Option (AExit × Fr × AHeap) := aloop (s_prefix_Matrix_1 fuel d) (some [4, 7, 41, 42, 43]) n fr h (kOut [2, 3, 7])

noncomputable def l_prefix_Matrix_1 : Nat → Nat → Nat → Fr → AHeap → Option (AExit × Fr × AHeap) := hide l_prefix_Matrix_1r

theorem l_prefix_Matrix_1_is : l_prefix_Matrix_1 = l_prefix_Matrix_1r := hide_eq _

noncomputable def k_prefix_Matrix_1r (fuel d : Nat) : AExit → Fr → AHeap → Option (AVal × AHeap) := (kBlock 2 (kSeq (Cf fuel F_prefix_Matrix) false (acall (C fuel) false d) (acall (C fuel) true d) 81 (csub [true, true, true, true, true] (fbody Go.Proofs.Tryd.f27)) (asub [true, true, true, true, true] an27) (kRet (Cf fuel F_prefix_Matrix) Go.Proofs.Tryd.f27.results.toList)))

noncomputable def k_prefix_Matrix_1 : Nat → Nat → AExit → Fr → AHeap → Option (AVal × AHeap) := hide k_prefix_Matrix_1r

theorem k_prefix_Matrix_1_is : k_prefix_Matrix_1 = k_prefix_Matrix_1r := hide_eq _

noncomputable def s_prefix_Matrix_2 (fuel d : Nat) : Run := fun fr h k => aexec (Cf fuel F_prefix_Matrix) false (acall (C fuel) false d) (acall (C fuel) true d) 81 (csub [true, true, true, true, false, true, false, false, true, true, false, false, true, true, false, true, false, false] (fbody Go.Proofs.Tryd.f27)) (asub [true, true, true, true, false, true, false, false, true, true, false, false, true, true, false, true, false, false] an27) fr h k

noncomputable def l_prefix_Matrix_2r (fuel d : Nat) (n : Nat) (fr : Fr) (h : AHeap) : Option (AExit × Fr × AHeap) := aloop (s_prefix_Matrix_2 fuel d) (some [4, 7, 10, 41, 42, 43, 50, 51, 52]) n fr h (kOut [2, 3, 4, 7, 10, 41, 42, 43])

noncomputable def l_prefix_Matrix_2 : Nat → Nat → Nat → Fr → AHeap → Option (AExit × Fr × AHeap) := hide l_prefix_Matrix_2r

theorem l_prefix_Matrix_2_is : l_prefix_Matrix_2 = l_prefix_Matrix_2r := hide_eq _

noncomputable def k_prefix_Matrix_2r (fuel d : Nat) (n : Nat) : AExit → Fr → AHeap → Option (AExit × Fr × AHeap) := (kBlock 4 (kSeq (Cf fuel F_prefix_Matrix) false (acall (C fuel) false d) (acall (C fuel) true d) 81 (csub [true, true, true, true, false, true, false, false, true, true, false, false, true, true, true] (fbody Go.Proofs.Tryd.f27)) (asub [true, true, true, true, false, true, false, false, true, true, false, false, true, true, true] an27) (kBlock 3 (kSeq (Cf fuel F_prefix_Matrix) false (acall (C fuel) false d) (acall (C fuel) true d) 81 (csub [true, true, true, true, false, true, false, false, true, true, true] (fbody Go.Proofs.Tryd.f27)) (asub [true, true, true, true, false, true, false, false, true, true, true] an27) (kLoop (s_prefix_Matrix_1 fuel d) (some [4, 7, 41, 42, 43]) n (kOut [2, 3, 7]))))))

noncomputable def k_prefix_Matrix_2 : Nat → Nat → Nat → AExit → Fr → AHeap → Option (AExit × Fr × AHeap) := hide k_prefix_Matrix_2r

theorem k_prefix_Matrix_2_is : k_prefix_Matrix_2 = k_prefix_Matrix_2r := hide_eq _

noncomputable def k_prefix_Matrix_3r (fuel d : Nat) (n : Nat) : AExit → Fr → AHeap → Option (AExit × Fr × AHeap) := (kSeq (Cf fuel F_prefix_Matrix) false (acall (C fuel) false d) (acall (C fuel) true d) 81 (csub [true, true, true, true, false, true, false, false, true, true, false, false, true, true, false, true, false, false, true, true, false, false, true, true, true, true] (fbody Go.Proofs.Tryd.f27)) (asub [true, true, true, true, false, true, false, false, true, true, false, false, true, true, false, true, false, false, true, true, false, false, true, true, true, true] an27) (kBlock 5 (kSeq (Cf fuel F_prefix_Matrix) false (acall (C fuel) false d) (acall (C fuel) true d) 81 (csub [true, true, true, true, false, true, false, false, true, true, false, false, true, true, false, true, false, false, true, true, true] (fbody Go.Proofs.Tryd.f27)) (asub [true, true, true, true, false, true, false, false, true, true, false, false, true, true, false, true, false, false, true, true, true] an27) (kLoop (s_prefix_Matrix_2 fuel d) (some [4, 7, 10, 41, 42, 43, 50, 51, 52]) n (kOut [2, 3, 4, 7, 10, 41, 42, 43])))))

noncomputable def k_prefix_Matrix_3 : Nat → Nat → Nat → AExit → Fr → AHeap → Option (AExit × Fr × AHeap) := hide k_prefix_Matrix_3r

theorem k_prefix_Matrix_3_is : k_prefix_Matrix_3 = k_prefix_Matrix_3r := hide_eq _

theorem e_prefix_Matrix (fuel d : Nat) (x0 : List AVal) (h : AHeap) :
    brun fuel (d + 1) F_prefix_Matrix [(AVal.agg x0)] h =
  (bif (List.all x0 AVal.isCell) then ((Pt.field 1 (Pt.mk ⟨AHeap.next h, 0, 0⟩ (List.length x0))).bind fun p1 =>
    (AHeap.cell (AHeap.newMap (AHeap.push h 1 x0)) p1).bind fun u2 =>
    (AVal.slice? u2).bind fun s3 =>
    (Pt.field 2 (Pt.mk ⟨AHeap.next h, 0, 0⟩ (List.length x0))).bind fun p4 =>
    (AHeap.cell (AHeap.newMap (AHeap.push h 1 x0)) p4).bind fun u5 =>
    (AVal.slice? u5).bind fun s6 =>
    (run fuel d F_slices_Concat_s_int_int [(AVal.slice (Sl.lst 2 true [(AVal.slice s3), (AVal.slice s6)]))] (AHeap.newMap (AHeap.push h 1 x0))).bind fun r7 =>
    (AVal.slice? r7.1).bind fun s8 =>
    (l_prefix_Matrix_0 fuel d fuel [(1, (AVal.ptr (Pt.mk ⟨AHeap.next h, 0, 0⟩ (List.length x0)))), (4, (AVal.map (some (List.length (AHeap.maps (AHeap.push h 1 x0)))))), (20, (AVal.slice s8)), (21, (AVal.int .i64 ((s8.len : Nat) : Int))), (22, (AVal.int .i64 (0 : Int)))] r7.2).bind fun p9 =>
    k_prefix_Matrix_0 fuel d p9.1 p9.2.1 p9.2.2) else (none)) := by
  generalize hh : run = R
  rw [run_is] at hh
  subst hh
  generalize hh : brun = R
  rw [brun_is] at hh
  subst hh
  generalize hh : l_prefix_Matrix_0 = R
  rw [l_prefix_Matrix_0_is] at hh
  subst hh
  generalize hh : k_prefix_Matrix_0 = R
  rw [k_prefix_Matrix_0_is] at hh
  subst hh
  kernel_rfl

theorem l_prefix_Matrix_0_eq (fuel d : Nat) (n : Nat) (x1 : Pt) (x4 : Option Nat) (x20 : Sl) (x21 : Int) (x22 : Int) (h : AHeap) :
    l_prefix_Matrix_0 fuel d (n + 1) [(1, (AVal.ptr x1)), (4, (AVal.map x4)), (20, (AVal.slice x20)), (21, (AVal.int .i64 x21)), (22, (AVal.int .i64 x22))] h =
  (bif (decide (x22 < x21)) then ((AHeap.addr h 1 x20 x22).bind fun p1 =>
    (AHeap.cell h p1).bind fun u2 =>
    (AVal.int? .i64 u2).bind fun n3 =>
    (AHeap.mapOf h x4).bind fun es4 =>
    (mfind (AVal.int .i64 n3) es4).bind fun r5 =>
    (AVal.int? .i64 (mgot (AVal.int .i64 (0 : Int)) r5)).bind fun n6 =>
    (bif (decide (n6 = (0 : Int))) then ((x4).bind fun m7 =>
    ((h.maps)[m7]?).bind fun es8 =>
    (mset (AVal.int .i64 n3) (AVal.int .i64 (IntKind.wrap .i64 (x22 + (1 : Int)))) es8).bind fun es9 =>
    l_prefix_Matrix_0 fuel d n [(1, (AVal.ptr x1)), (4, (AVal.map x4)), (20, (AVal.slice x20)), (21, (AVal.int .i64 x21)), (22, (AVal.int .i64 (IntKind.wrap .i64 (x22 + (1 : Int)))))] (AHeap.setMap h m7 es9)) else (l_prefix_Matrix_0 fuel d n [(1, (AVal.ptr x1)), (4, (AVal.map x4)), (20, (AVal.slice x20)), (21, (AVal.int .i64 x21)), (22, (AVal.int .i64 (IntKind.wrap .i64 (x22 + (1 : Int)))))] h))) else (some ((.exit 0), [(1, (AVal.ptr x1)), (4, (AVal.map x4))], h))) := by
  generalize hh : l_prefix_Matrix_0 = R
  rw [l_prefix_Matrix_0_is] at hh
  subst hh
  kernel_rfl

theorem l_prefix_Matrix_0_0 (fuel d : Nat) (fr : Fr) (h : AHeap) :
    l_prefix_Matrix_0 fuel d 0 fr h =
  none := by
  generalize hh : l_prefix_Matrix_0 = R
  rw [l_prefix_Matrix_0_is] at hh
  subst hh
  kernel_rfl

theorem k_prefix_Matrix_0_x0 (fuel d : Nat) (x1 : Pt) (x4 : Option Nat) (h : AHeap) :
    k_prefix_Matrix_0 fuel d (.exit 0) [(1, (AVal.ptr x1)), (4, (AVal.map x4))] h =
  (Pt.field 3 x1).bind fun p1 =>
    (AHeap.cell h p1).bind fun u2 =>
    (AVal.slice? u2).bind fun s3 =>
    (bif (decide ((0 : Int) ≤ ((s3.len : Nat) : Int)) && decide (((s3.len : Nat) : Int) * 24 ≤ 140737488355328) && decide (((s3.len : Nat) : Int) ≤ 140737488355328)) then ((Pt.field 3 x1).bind fun p4 =>
    (AHeap.cell (AHeap.push h 1 []) p4).bind fun u5 =>
    (AVal.slice? u5).bind fun s6 =>
    (l_prefix_Matrix_1 fuel d fuel [(4, (AVal.map x4)), (7, (AVal.slice (Sl.mk ⟨AHeap.next h, 0, 0⟩ 0 (eqI (0 : Int) ((s3.len : Nat) : Int))))), (41, (AVal.slice s6)), (42, (AVal.int .i64 ((s6.len : Nat) : Int))), (43, (AVal.int .i64 (0 : Int)))] (AHeap.push h 1 [])).bind fun p7 =>
    k_prefix_Matrix_1 fuel d p7.1 p7.2.1 p7.2.2) else (none)) := by
  generalize hh : k_prefix_Matrix_0 = R
  rw [k_prefix_Matrix_0_is] at hh
  subst hh
  generalize hh : l_prefix_Matrix_1 = R
  rw [l_prefix_Matrix_1_is] at hh
  subst hh
  generalize hh : k_prefix_Matrix_1 = R
  rw [k_prefix_Matrix_1_is] at hh
  subst hh
  kernel_rfl

theorem l_prefix_Matrix_1_eq (fuel d : Nat) (n : Nat) (x4 : Option Nat) (x7 : Sl) (x41 : Sl) (x42 : Int) (x43 : Int) (h : AHeap) :
    l_prefix_Matrix_1 fuel d (n + 1) [(4, (AVal.map x4)), (7, (AVal.slice x7)), (41, (AVal.slice x41)), (42, (AVal.int .i64 x42)), (43, (AVal.int .i64 x43))] h =
  (bif (decide (x43 < x42)) then ((AHeap.addr h 1 x41 x43).bind fun p1 =>
    (AHeap.cell h p1).bind fun u2 =>
    (AVal.slice? u2).bind fun s3 =>
    (bif (decide ((0 : Int) ≤ ((s3.len : Nat) : Int)) && decide (((s3.len : Nat) : Int) * 8 ≤ 140737488355328) && decide (((s3.len : Nat) : Int) ≤ 140737488355328)) then ((l_prefix_Matrix_2 fuel d fuel [(4, (AVal.map x4)), (7, (AVal.slice x7)), (10, (AVal.slice (Sl.mk ⟨AHeap.next h, 0, 0⟩ 0 (eqI (0 : Int) ((s3.len : Nat) : Int))))), (41, (AVal.slice x41)), (42, (AVal.int .i64 x42)), (43, (AVal.int .i64 x43)), (50, (AVal.slice s3)), (51, (AVal.int .i64 ((s3.len : Nat) : Int))), (52, (AVal.int .i64 (0 : Int)))] (AHeap.push h 1 [])).bind fun p4 =>
    k_prefix_Matrix_2 fuel d n p4.1 p4.2.1 p4.2.2) else (none))) else (some ((.exit 2), [(2, AVal.bot), (3, AVal.bot), (7, (AVal.slice x7))], h))) := by
  generalize hh : l_prefix_Matrix_1 = R
  rw [l_prefix_Matrix_1_is] at hh
  subst hh
  generalize hh : l_prefix_Matrix_2 = R
  rw [l_prefix_Matrix_2_is] at hh
  subst hh
  generalize hh : k_prefix_Matrix_2 = R
  rw [k_prefix_Matrix_2_is] at hh
  subst hh
  kernel_rfl

theorem l_prefix_Matrix_1_0 (fuel d : Nat) (fr : Fr) (h : AHeap) :
    l_prefix_Matrix_1 fuel d 0 fr h =
  none := by
  generalize hh : l_prefix_Matrix_1 = R
  rw [l_prefix_Matrix_1_is] at hh
  subst hh
  kernel_rfl

theorem k_prefix_Matrix_1_x2 (fuel d : Nat) (x2 : AVal) (x3 : AVal) (x7 : Sl) (h : AHeap) :
    k_prefix_Matrix_1 fuel d (.exit 2) [(2, x2), (3, x3), (7, (AVal.slice x7))] h =
  some ((AVal.tup [(AVal.slice x7), (AVal.bool true)]), h) := by
  generalize hh : k_prefix_Matrix_1 = R
  rw [k_prefix_Matrix_1_is] at hh
  subst hh
  kernel_rfl

theorem k_prefix_Matrix_1_r (fuel d : Nat) (x2 : Sl) (x3 : Bool) (x7 : AVal) (h : AHeap) :
    k_prefix_Matrix_1 fuel d .ret [(2, (AVal.slice x2)), (3, (AVal.bool x3)), (7, x7)] h =
  some ((AVal.tup [(AVal.slice x2), (AVal.bool x3)]), h) := by
  generalize hh : k_prefix_Matrix_1 = R
  rw [k_prefix_Matrix_1_is] at hh
  subst hh
  kernel_rfl

theorem l_prefix_Matrix_2_eq (fuel d : Nat) (n : Nat) (x4 : Option Nat) (x7 : Sl) (x10 : Sl) (x41 : Sl) (x42 : Int) (x43 : Int) (x50 : Sl) (x51 : Int) (x52 : Int) (h : AHeap) :
    l_prefix_Matrix_2 fuel d (n + 1) [(4, (AVal.map x4)), (7, (AVal.slice x7)), (10, (AVal.slice x10)), (41, (AVal.slice x41)), (42, (AVal.int .i64 x42)), (43, (AVal.int .i64 x43)), (50, (AVal.slice x50)), (51, (AVal.int .i64 x51)), (52, (AVal.int .i64 x52))] h =
  (bif (decide (x52 < x51)) then ((AHeap.addr h 1 x50 x52).bind fun p1 =>
    (AHeap.cell h p1).bind fun u2 =>
    (AVal.int? .i64 u2).bind fun n3 =>
    (run fuel d F_lits_Var [(AVal.int .i64 n3)] h).bind fun r4 =>
    (AVal.int? .i64 r4.1).bind fun n5 =>
    (AHeap.mapOf r4.2 x4).bind fun es6 =>
    (mfind (AVal.int .i64 n5) es6).bind fun r7 =>
    (AVal.int? .i64 (mgot (AVal.int .i64 (0 : Int)) r7)).bind fun n8 =>
    (bif (bif (decide (n8 = (0 : Int))) then true else (decide (n3 = (0 : Int)))) then (some (.ret, [(2, (AVal.slice Sl.nil)), (3, (AVal.bool false)), (4, (AVal.map x4)), (7, (AVal.slice x7)), (10, (AVal.slice x10)), (41, (AVal.slice x41)), (42, (AVal.int .i64 x42)), (43, (AVal.int .i64 x43))], r4.2)) else (((bif (decide (n3 < (0 : Int))) then (some (.normal, [(4, (AVal.map x4)), (7, (AVal.slice x7)), (10, (AVal.slice x10)), (13, (AVal.int .i64 (IntKind.wrap .i64 (0 - n8)))), (41, (AVal.slice x41)), (42, (AVal.int .i64 x42)), (43, (AVal.int .i64 x43)), (50, (AVal.slice x50)), (51, (AVal.int .i64 x51)), (52, (AVal.int .i64 x52))], r4.2)) else (some (.normal, [(4, (AVal.map x4)), (7, (AVal.slice x7)), (10, (AVal.slice x10)), (13, (AVal.int .i64 n8)), (41, (AVal.slice x41)), (42, (AVal.int .i64 x42)), (43, (AVal.int .i64 x43)), (50, (AVal.slice x50)), (51, (AVal.int .i64 x51)), (52, (AVal.int .i64 x52))], r4.2)))).bind fun p9 =>
    k_prefix_Matrix_3 fuel d n p9.1 p9.2.1 p9.2.2))) else (some ((.exit 4), [(2, AVal.bot), (3, AVal.bot), (4, (AVal.map x4)), (7, (AVal.slice x7)), (10, (AVal.slice x10)), (41, (AVal.slice x41)), (42, (AVal.int .i64 x42)), (43, (AVal.int .i64 x43))], h))) := by
  generalize hh : run = R
  rw [run_is] at hh
  subst hh
  generalize hh : l_prefix_Matrix_2 = R
  rw [l_prefix_Matrix_2_is] at hh
  subst hh
  generalize hh : k_prefix_Matrix_3 = R
  rw [k_prefix_Matrix_3_is] at hh
  subst hh
  kernel_rfl

theorem l_prefix_Matrix_2_0 (fuel d : Nat) (fr : Fr) (h : AHeap) :
    l_prefix_Matrix_2 fuel d 0 fr h =
  none := by
  generalize hh : l_prefix_Matrix_2 = R
  rw [l_prefix_Matrix_2_is] at hh
  subst hh
  kernel_rfl

theorem k_prefix_Matrix_2_x4 (fuel d : Nat) (n : Nat) (x2 : AVal) (x3 : AVal) (x4 : Option Nat) (x7 : Sl) (x10 : Sl) (x41 : Sl) (x42 : Int) (x43 : Int) (h : AHeap) :
    k_prefix_Matrix_2 fuel d n (.exit 4) [(2, x2), (3, x3), (4, (AVal.map x4)), (7, (AVal.slice x7)), (10, (AVal.slice x10)), (41, (AVal.slice x41)), (42, (AVal.int .i64 x42)), (43, (AVal.int .i64 x43))] h =
  (AHeap.append (AHeap.fixL h [(AVal.slice x10)]).2 false 1 24 x7 1 (AHeap.fixL h [(AVal.slice x10)]).1).bind fun a1 =>
    l_prefix_Matrix_1 fuel d n [(4, (AVal.map x4)), (7, (AVal.slice a1.1)), (41, (AVal.slice x41)), (42, (AVal.int .i64 x42)), (43, (AVal.int .i64 (IntKind.wrap .i64 (x43 + (1 : Int)))))] a1.2 := by
  generalize hh : l_prefix_Matrix_1 = R
  rw [l_prefix_Matrix_1_is] at hh
  subst hh
  generalize hh : k_prefix_Matrix_2 = R
  rw [k_prefix_Matrix_2_is] at hh
  subst hh
  kernel_rfl

theorem k_prefix_Matrix_2_r (fuel d : Nat) (n : Nat) (x2 : Sl) (x3 : Bool) (x4 : AVal) (x7 : AVal) (x10 : AVal) (x41 : AVal) (x42 : AVal) (x43 : AVal) (h : AHeap) :
    k_prefix_Matrix_2 fuel d n .ret [(2, (AVal.slice x2)), (3, (AVal.bool x3)), (4, x4), (7, x7), (10, x10), (41, x41), (42, x42), (43, x43)] h =
  some (.ret, [(2, (AVal.slice x2)), (3, (AVal.bool x3)), (7, x7)], h) := by
  generalize hh : k_prefix_Matrix_2 = R
  rw [k_prefix_Matrix_2_is] at hh
  subst hh
  kernel_rfl

theorem k_prefix_Matrix_3_n (fuel d : Nat) (n : Nat) (x4 : Option Nat) (x7 : Sl) (x10 : Sl) (x13 : Int) (x41 : Sl) (x42 : Int) (x43 : Int) (x50 : Sl) (x51 : Int) (x52 : Int) (h : AHeap) :
    k_prefix_Matrix_3 fuel d n .normal [(4, (AVal.map x4)), (7, (AVal.slice x7)), (10, (AVal.slice x10)), (13, (AVal.int .i64 x13)), (41, (AVal.slice x41)), (42, (AVal.int .i64 x42)), (43, (AVal.int .i64 x43)), (50, (AVal.slice x50)), (51, (AVal.int .i64 x51)), (52, (AVal.int .i64 x52))] h =
  (AHeap.append h false 1 8 x10 1 [(AVal.int .i64 x13)]).bind fun a1 =>
    l_prefix_Matrix_2 fuel d n [(4, (AVal.map x4)), (7, (AVal.slice x7)), (10, (AVal.slice a1.1)), (41, (AVal.slice x41)), (42, (AVal.int .i64 x42)), (43, (AVal.int .i64 x43)), (50, (AVal.slice x50)), (51, (AVal.int .i64 x51)), (52, (AVal.int .i64 (IntKind.wrap .i64 (x52 + (1 : Int)))))] a1.2 := by
  generalize hh : l_prefix_Matrix_2 = R
  rw [l_prefix_Matrix_2_is] at hh
  subst hh
  generalize hh : k_prefix_Matrix_3 = R
  rw [k_prefix_Matrix_3_is] at hh
  subst hh
  kernel_rfl

/-! 28: skolem/slow.wins -/

noncomputable def s_slow_wins_0 (fuel d : Nat) : Run := fun fr h k => aexec (Cf fuel F_slow_wins) false (acall (C fuel) false d) (acall (C fuel) true d) 31 (csub [true, false, true, false, false] (fbody Go.Proofs.Tryd.f28)) (asub [true, false, true, false, false] an28) fr h k

noncomputable def l_slow_wins_0r (fuel d : Nat) (n : Nat) (fr : Fr) (h : AHeap) : Option (AExit × Fr × AHeap) := aloop (s_slow_wins_0 fuel d) (some [0, 1, 2, 3, 9]) n fr h (kOut [0, 1, 2, 3])

noncomputable def l_slow_wins_0 : Nat → Nat → Nat → Fr → AHeap → Option (AExit × Fr × AHeap) := hide l_slow_wins_0r

theorem l_slow_wins_0_is : l_slow_wins_0 = l_slow_wins_0r := hide_eq _

noncomputable def k_slow_wins_0r (fuel d : Nat) : AExit → Fr → AHeap → Option (AVal × AHeap) := (kBlock 0 (kSeq (Cf fuel F_slow_wins) false (acall (C fuel) false d) (acall (C fuel) true d) 31 (csub [true, true] (fbody Go.Proofs.Tryd.f28)) (asub [true, true] an28) (kRet (Cf fuel F_slow_wins) Go.Proofs.Tryd.f28.results.toList)))

noncomputable def k_slow_wins_0 : Nat → Nat → AExit → Fr → AHeap → Option (AVal × AHeap) := hide k_slow_wins_0r

theorem k_slow_wins_0_is : k_slow_wins_0 = k_slow_wins_0r := hide_eq _

noncomputable def s_slow_wins_1 (fuel d : Nat) : Run := fun fr h k => aexec (Cf fuel F_slow_wins) false (acall (C fuel) false d) (acall (C fuel) true d) 31 (csub [true, true, false, false] (fbody Go.Proofs.Tryd.f28)) (asub [true, true, false, false] an28) fr h k

noncomputable def l_slow_wins_1r (fuel d : Nat) (n : Nat) (fr : Fr) (h : AHeap) : Option (AExit × Fr × AHeap) := aloop (s_slow_wins_1 fuel d) (some [0, 1, 2, 3]) n fr h (kOut [8])

noncomputable def l_slow_wins_1 : Nat → Nat → Nat → Fr → AHeap → Option (AExit × Fr × AHeap) := hide l_slow_wins_1r

theorem l_slow_wins_1_is : l_slow_wins_1 = l_slow_wins_1r := hide_eq _

noncomputable def k_slow_wins_1r (fuel d : Nat) : AExit → Fr → AHeap → Option (AVal × AHeap) := (kBlock 2 (kRet (Cf fuel F_slow_wins) Go.Proofs.Tryd.f28.results.toList))

noncomputable def k_slow_wins_1 : Nat → Nat → AExit → Fr → AHeap → Option (AVal × AHeap) := hide k_slow_wins_1r

theorem k_slow_wins_1_is : k_slow_wins_1 = k_slow_wins_1r := hide_eq _

theorem e_slow_wins (fuel d : Nat) (x0 : Sl) (x1 : Sl) (x2 : Int) (x3 : Bool) (h : AHeap) :
    run fuel (d + 1) F_slow_wins [(AVal.slice x0), (AVal.slice x1), (AVal.int .i64 x2), (AVal.bool x3)] h =
  (l_slow_wins_0 fuel d fuel [(0, (AVal.slice x0)), (1, (AVal.slice x1)), (2, (AVal.int .i64 x2)), (3, (AVal.bool x3)), (9, (AVal.int .i64 (IntKind.wrap .i64 ((1 : Int) + x2))))] h).bind fun p1 =>
    k_slow_wins_0 fuel d p1.1 p1.2.1 p1.2.2 := by
  generalize hh : run = R
  rw [run_is] at hh
  subst hh
  generalize hh : l_slow_wins_0 = R
  rw [l_slow_wins_0_is] at hh
  subst hh
  generalize hh : k_slow_wins_0 = R
  rw [k_slow_wins_0_is] at hh
  subst hh
  kernel_rfl

theorem l_slow_wins_0_eq (fuel d : Nat) (n : Nat) (x0 : Sl) (x1 : Sl) (x2 : Int) (x3 : Bool) (x9 : Int) (h : AHeap) :
    l_slow_wins_0 fuel d (n + 1) [(0, (AVal.slice x0)), (1, (AVal.slice x1)), (2, (AVal.int .i64 x2)), (3, (AVal.bool x3)), (9, (AVal.int .i64 x9))] h =
  (bif (decide (x9 < ((x1.len : Nat) : Int))) then ((AHeap.addr h 1 x1 x9).bind fun p1 =>
    (AHeap.storeAt h [(AVal.bool false)] p1).bind fun h2 =>
    l_slow_wins_0 fuel d n [(0, (AVal.slice x0)), (1, (AVal.slice x1)), (2, (AVal.int .i64 x2)), (3, (AVal.bool x3)), (9, (AVal.int .i64 (IntKind.wrap .i64 (x9 + (1 : Int)))))] h2) else (some ((.exit 0), [(0, (AVal.slice x0)), (1, (AVal.slice x1)), (2, (AVal.int .i64 x2)), (3, (AVal.bool x3))], h))) := by
  generalize hh : l_slow_wins_0 = R
  rw [l_slow_wins_0_is] at hh
  subst hh
  kernel_rfl

theorem l_slow_wins_0_0 (fuel d : Nat) (fr : Fr) (h : AHeap) :
    l_slow_wins_0 fuel d 0 fr h =
  none := by
  generalize hh : l_slow_wins_0 = R
  rw [l_slow_wins_0_is] at hh
  subst hh
  kernel_rfl

theorem k_slow_wins_0_x0 (fuel d : Nat) (x0 : Sl) (x1 : Sl) (x2 : Int) (x3 : Bool) (h : AHeap) :
    k_slow_wins_0 fuel d (.exit 0) [(0, (AVal.slice x0)), (1, (AVal.slice x1)), (2, (AVal.int .i64 x2)), (3, (AVal.bool x3))] h =
  (l_slow_wins_1 fuel d fuel [(0, (AVal.slice x0)), (1, (AVal.slice x1)), (2, (AVal.int .i64 x2)), (3, (AVal.bool x3))] h).bind fun p1 =>
    k_slow_wins_1 fuel d p1.1 p1.2.1 p1.2.2 := by
  generalize hh : k_slow_wins_0 = R
  rw [k_slow_wins_0_is] at hh
  subst hh
  generalize hh : l_slow_wins_1 = R
  rw [l_slow_wins_1_is] at hh
  subst hh
  generalize hh : k_slow_wins_1 = R
  rw [k_slow_wins_1_is] at hh
  subst hh
  kernel_rfl

theorem l_slow_wins_1_eq (fuel d : Nat) (n : Nat) (x0 : Sl) (x1 : Sl) (x2 : Int) (x3 : Bool) (h : AHeap) :
    l_slow_wins_1 fuel d (n + 1) [(0, (AVal.slice x0)), (1, (AVal.slice x1)), (2, (AVal.int .i64 x2)), (3, (AVal.bool x3))] h =
  (run fuel d F_assign_Of [(AVal.slice x0), (AVal.slice x1)] h).bind fun r1 =>
    (AVal.bool? r1.1).bind fun b2 =>
    (bif (!(b2 == x3)) then (some (.ret, [(8, (AVal.bool false))], r1.2)) else ((run fuel d F_slow_next [(AVal.slice x1), (AVal.int .i64 (IntKind.wrap .i64 ((1 : Int) + x2)))] r1.2).bind fun r3 =>
    (AVal.bool? r3.1).bind fun b4 =>
    (bif (!b4) then (some (.ret, [(8, (AVal.bool true))], r3.2)) else (l_slow_wins_1 fuel d n [(0, (AVal.slice x0)), (1, (AVal.slice x1)), (2, (AVal.int .i64 x2)), (3, (AVal.bool x3))] r3.2)))) := by
  generalize hh : run = R
  rw [run_is] at hh
  subst hh
  generalize hh : l_slow_wins_1 = R
  rw [l_slow_wins_1_is] at hh
  subst hh
  kernel_rfl

theorem l_slow_wins_1_0 (fuel d : Nat) (fr : Fr) (h : AHeap) :
    l_slow_wins_1 fuel d 0 fr h =
  none := by
  generalize hh : l_slow_wins_1 = R
  rw [l_slow_wins_1_is] at hh
  subst hh
  kernel_rfl

theorem k_slow_wins_1_r (fuel d : Nat) (x8 : Bool) (h : AHeap) :
    k_slow_wins_1 fuel d .ret [(8, (AVal.bool x8))] h =
  some ((AVal.bool x8), h) := by
  generalize hh : k_slow_wins_1 = R
  rw [k_slow_wins_1_is] at hh
  subst hh
  kernel_rfl

/-! 29: skolem/slow.next -/

noncomputable def s_slow_next_0 (fuel d : Nat) : Run := fun fr h k => aexec (Cf fuel F_slow_next) false (acall (C fuel) false d) (acall (C fuel) true d) 25 (csub [true, false, true, false, false] (fbody Go.Proofs.Tryd.f29)) (asub [true, false, true, false, false] an29) fr h k

noncomputable def l_slow_next_0r (fuel d : Nat) (n : Nat) (fr : Fr) (h : AHeap) : Option (AExit × Fr × AHeap) := aloop (s_slow_next_0 fuel d) (some [0, 5]) n fr h (kOut [4])

noncomputable def l_slow_next_0 : Nat → Nat → Nat → Fr → AHeap → Option (AExit × Fr × AHeap) := hide l_slow_next_0r

theorem l_slow_next_0_is : l_slow_next_0 = l_slow_next_0r := hide_eq _

noncomputable def k_slow_next_0r (fuel d : Nat) : AExit → Fr → AHeap → Option (AVal × AHeap) := (kBlock 0 (kSeq (Cf fuel F_slow_next) false (acall (C fuel) false d) (acall (C fuel) true d) 25 (csub [true, true] (fbody Go.Proofs.Tryd.f29)) (asub [true, true] an29) (kRet (Cf fuel F_slow_next) Go.Proofs.Tryd.f29.results.toList)))

noncomputable def k_slow_next_0 : Nat → Nat → AExit → Fr → AHeap → Option (AVal × AHeap) := hide k_slow_next_0r

theorem k_slow_next_0_is : k_slow_next_0 = k_slow_next_0r := hide_eq _

theorem e_slow_next (fuel d : Nat) (x0 : Sl) (x1 : Int) (h : AHeap) :
    run fuel (d + 1) F_slow_next [(AVal.slice x0), (AVal.int .i64 x1)] h =
  (l_slow_next_0 fuel d fuel [(0, (AVal.slice x0)), (5, (AVal.int .i64 x1))] h).bind fun p1 =>
    k_slow_next_0 fuel d p1.1 p1.2.1 p1.2.2 := by
  generalize hh : run = R
  rw [run_is] at hh
  subst hh
  generalize hh : l_slow_next_0 = R
  rw [l_slow_next_0_is] at hh
  subst hh
  generalize hh : k_slow_next_0 = R
  rw [k_slow_next_0_is] at hh
  subst hh
  kernel_rfl

theorem l_slow_next_0_eq (fuel d : Nat) (n : Nat) (x0 : Sl) (x5 : Int) (h : AHeap) :
    l_slow_next_0 fuel d (n + 1) [(0, (AVal.slice x0)), (5, (AVal.int .i64 x5))] h =
  (bif (decide (x5 < ((x0.len : Nat) : Int))) then ((AHeap.addr h 1 x0 x5).bind fun p1 =>
    (AHeap.cell h p1).bind fun u2 =>
    (AVal.bool? u2).bind fun b3 =>
    (AHeap.addr h 1 x0 x5).bind fun p4 =>
    (AHeap.storeAt h [(AVal.bool (!b3))] p4).bind fun h5 =>
    (AHeap.addr h5 1 x0 x5).bind fun p6 =>
    (AHeap.cell h5 p6).bind fun u7 =>
    (AVal.bool? u7).bind fun b8 =>
    (bif b8 then (some (.ret, [(4, (AVal.bool true))], h5)) else (l_slow_next_0 fuel d n [(0, (AVal.slice x0)), (5, (AVal.int .i64 (IntKind.wrap .i64 (x5 + (1 : Int)))))] h5))) else (some ((.exit 0), [(4, AVal.bot)], h))) := by
  generalize hh : l_slow_next_0 = R
  rw [l_slow_next_0_is] at hh
  subst hh
  kernel_rfl

theorem l_slow_next_0_0 (fuel d : Nat) (fr : Fr) (h : AHeap) :
    l_slow_next_0 fuel d 0 fr h =
  none := by
  generalize hh : l_slow_next_0 = R
  rw [l_slow_next_0_is] at hh
  subst hh
  kernel_rfl

theorem k_slow_next_0_x0 (fuel d : Nat) (x4 : AVal) (h : AHeap) :
    k_slow_next_0 fuel d (.exit 0) [(4, x4)] h =
  some ((AVal.bool false), h) := by
  generalize hh : k_slow_next_0 = R
  rw [k_slow_next_0_is] at hh
  subst hh
  kernel_rfl

theorem k_slow_next_0_r (fuel d : Nat) (x4 : Bool) (h : AHeap) :
    k_slow_next_0 fuel d .ret [(4, (AVal.bool x4))] h =
  some ((AVal.bool x4), h) := by
  generalize hh : k_slow_next_0 = R
  rw [k_slow_next_0_is] at hh
  subst hh
  kernel_rfl

/-! 31: skolem/assign.Of -/

noncomputable def s_assign_Of_0 (fuel d : Nat) : Run := fun fr h k => aexec (Cf fuel F_assign_Of) false (acall (C fuel) false d) (acall (C fuel) true d) 32 (csub [true, false, true, false, false] (fbody Go.Proofs.Tryd.f31)) (asub [true, false, true, false, false] an31) fr h k

noncomputable def l_assign_Of_0r (fuel d : Nat) (n : Nat) (fr : Fr) (h : AHeap) : Option (AExit × Fr × AHeap) := aloop (s_assign_Of_0 fuel d) (some [1, 10, 11, 12]) n fr h (kOut [4])

noncomputable def l_assign_Of_0 : Nat → Nat → Nat → Fr → AHeap → Option (AExit × Fr × AHeap) := hide l_assign_Of_0r

theorem l_assign_Of_0_is : l_assign_Of_0 = l_assign_Of_0r := hide_eq _

noncomputable def k_assign_Of_0r (fuel d : Nat) : AExit → Fr → AHeap → Option (AVal × AHeap) := (kBlock 0 (kSeq (Cf fuel F_assign_Of) false (acall (C fuel) false d) (acall (C fuel) true d) 32 (csub [true, true] (fbody Go.Proofs.Tryd.f31)) (asub [true, true] an31) (kRet (Cf fuel F_assign_Of) Go.Proofs.Tryd.f31.results.toList)))

noncomputable def k_assign_Of_0 : Nat → Nat → AExit → Fr → AHeap → Option (AVal × AHeap) := hide k_assign_Of_0r

theorem k_assign_Of_0_is : k_assign_Of_0 = k_assign_Of_0r := hide_eq _

noncomputable def s_assign_Of_1 (fuel d : Nat) : Run := fun fr h k => aexec (Cf fuel F_assign_Of) false (acall (C fuel) false d) (acall (C fuel) true d) 32 (csub [true, false, true, false, false, true, true, false, false, true, true, false, true, false, false] (fbody Go.Proofs.Tryd.f31)) (asub [true, false, true, false, false, true, true, false, false, true, true, false, true, false, false] an31) fr h k

noncomputable def l_assign_Of_1r (fuel d : Nat) (n : Nat) (fr : Fr) (h : AHeap) : Option (AExit × Fr × AHeap) := aloop (s_assign_Of_1 fuel d) (some [1, 7, 10, 11, 12, 16, 17, 18]) n fr h (kOut [1, 7, 10, 11, 12])

noncomputable def l_assign_Of_1 : Nat → Nat → Nat → Fr → AHeap → Option (AExit × Fr × AHeap) := hide l_assign_Of_1r

theorem l_assign_Of_1_is : l_assign_Of_1 = l_assign_Of_1r := hide_eq _

noncomputable def k_assign_Of_1r (fuel d : Nat) (n : Nat) : AExit → Fr → AHeap → Option (AExit × Fr × AHeap) := (kBlock 2 (kSeq (Cf fuel F_assign_Of) false (acall (C fuel) false d) (acall (C fuel) true d) 32 (csub [true, false, true, false, false, true, true, false, false, true, true, true] (fbody Go.Proofs.Tryd.f31)) (asub [true, false, true, false, false, true, true, false, false, true, true, true] an31) (kBlock 1 (kSeq (Cf fuel F_assign_Of) false (acall (C fuel) false d) (acall (C fuel) true d) 32 (csub [true, false, true, false, false, true, true, true] (fbody Go.Proofs.Tryd.f31)) (asub [true, false, true, false, false, true, true, true] an31) (kLoop (s_assign_Of_0 fuel d) (some [1, 10, 11, 12]) n (kOut [4]))))))

noncomputable def k_assign_Of_1 : Nat → Nat → Nat → AExit → Fr → AHeap → Option (AExit × Fr × AHeap) := hide k_assign_Of_1r

theorem k_assign_Of_1_is : k_assign_Of_1 = k_assign_Of_1r := hide_eq _

theorem e_assign_Of (fuel d : Nat) (x0 : Sl) (x1 : Sl) (h : AHeap) :
    brun fuel (d + 1) F_assign_Of [(AVal.slice x0), (AVal.slice x1)] h =
  (l_assign_Of_0 fuel d fuel [(1, (AVal.slice x1)), (10, (AVal.slice x0)), (11, (AVal.int .i64 ((x0.len : Nat) : Int))), (12, (AVal.int .i64 (0 : Int)))] h).bind fun p1 =>
    k_assign_Of_0 fuel d p1.1 p1.2.1 p1.2.2 := by
  generalize hh : brun = R
  rw [brun_is] at hh
  subst hh
  generalize hh : l_assign_Of_0 = R
  rw [l_assign_Of_0_is] at hh
  subst hh
  generalize hh : k_assign_Of_0 = R
  rw [k_assign_Of_0_is] at hh
  subst hh
  kernel_rfl

theorem l_assign_Of_0_eq (fuel d : Nat) (n : Nat) (x1 : Sl) (x10 : Sl) (x11 : Int) (x12 : Int) (h : AHeap) :
    l_assign_Of_0 fuel d (n + 1) [(1, (AVal.slice x1)), (10, (AVal.slice x10)), (11, (AVal.int .i64 x11)), (12, (AVal.int .i64 x12))] h =
  (bif (decide (x12 < x11)) then ((AHeap.addr h 1 x10 x12).bind fun p1 =>
    (AHeap.cell h p1).bind fun u2 =>
    (AVal.slice? u2).bind fun s3 =>
    (l_assign_Of_1 fuel d fuel [(1, (AVal.slice x1)), (7, (AVal.bool false)), (10, (AVal.slice x10)), (11, (AVal.int .i64 x11)), (12, (AVal.int .i64 x12)), (16, (AVal.slice s3)), (17, (AVal.int .i64 ((s3.len : Nat) : Int))), (18, (AVal.int .i64 (0 : Int)))] h).bind fun p4 =>
    k_assign_Of_1 fuel d n p4.1 p4.2.1 p4.2.2) else (some ((.exit 0), [(4, AVal.bot)], h))) := by
  generalize hh : l_assign_Of_0 = R
  rw [l_assign_Of_0_is] at hh
  subst hh
  generalize hh : l_assign_Of_1 = R
  rw [l_assign_Of_1_is] at hh
  subst hh
  generalize hh : k_assign_Of_1 = R
  rw [k_assign_Of_1_is] at hh
  subst hh
  kernel_rfl

theorem l_assign_Of_0_0 (fuel d : Nat) (fr : Fr) (h : AHeap) :
    l_assign_Of_0 fuel d 0 fr h =
  none := by
  generalize hh : l_assign_Of_0 = R
  rw [l_assign_Of_0_is] at hh
  subst hh
  kernel_rfl

theorem k_assign_Of_0_x0 (fuel d : Nat) (x4 : AVal) (h : AHeap) :
    k_assign_Of_0 fuel d (.exit 0) [(4, x4)] h =
  some ((AVal.bool true), h) := by
  generalize hh : k_assign_Of_0 = R
  rw [k_assign_Of_0_is] at hh
  subst hh
  kernel_rfl

theorem k_assign_Of_0_r (fuel d : Nat) (x4 : Bool) (h : AHeap) :
    k_assign_Of_0 fuel d .ret [(4, (AVal.bool x4))] h =
  some ((AVal.bool x4), h) := by
  generalize hh : k_assign_Of_0 = R
  rw [k_assign_Of_0_is] at hh
  subst hh
  kernel_rfl

theorem l_assign_Of_1_eq (fuel d : Nat) (n : Nat) (x1 : Sl) (x7 : Bool) (x10 : Sl) (x11 : Int) (x12 : Int) (x16 : Sl) (x17 : Int) (x18 : Int) (h : AHeap) :
    l_assign_Of_1 fuel d (n + 1) [(1, (AVal.slice x1)), (7, (AVal.bool x7)), (10, (AVal.slice x10)), (11, (AVal.int .i64 x11)), (12, (AVal.int .i64 x12)), (16, (AVal.slice x16)), (17, (AVal.int .i64 x17)), (18, (AVal.int .i64 x18))] h =
  (bif (decide (x18 < x17)) then ((AHeap.addr h 1 x16 x18).bind fun p1 =>
    (AHeap.cell h p1).bind fun u2 =>
    (AVal.int? .i64 u2).bind fun n3 =>
    ((bif (x7 == false) then ((run fuel d F_assign_holds [(AVal.int .i64 n3), (AVal.slice x1)] h).bind fun r4 =>
    (AVal.bool? r4.1).bind fun b5 =>
    some ((AVal.bool b5), r4.2)) else (some ((AVal.bool true), h)) : Option (AVal × AHeap))).bind fun r6 =>
    (AVal.bool? r6.1).bind fun b7 =>
    l_assign_Of_1 fuel d n [(1, (AVal.slice x1)), (7, (AVal.bool b7)), (10, (AVal.slice x10)), (11, (AVal.int .i64 x11)), (12, (AVal.int .i64 x12)), (16, (AVal.slice x16)), (17, (AVal.int .i64 x17)), (18, (AVal.int .i64 (IntKind.wrap .i64 (x18 + (1 : Int)))))] r6.2) else (some ((.exit 2), [(1, (AVal.slice x1)), (7, (AVal.bool x7)), (10, (AVal.slice x10)), (11, (AVal.int .i64 x11)), (12, (AVal.int .i64 x12))], h))) := by
  generalize hh : run = R
  rw [run_is] at hh
  subst hh
  generalize hh : l_assign_Of_1 = R
  rw [l_assign_Of_1_is] at hh
  subst hh
  kernel_rfl

theorem l_assign_Of_1_0 (fuel d : Nat) (fr : Fr) (h : AHeap) :
    l_assign_Of_1 fuel d 0 fr h =
  none := by
  generalize hh : l_assign_Of_1 = R
  rw [l_assign_Of_1_is] at hh
  subst hh
  kernel_rfl

theorem k_assign_Of_1_x2 (fuel d : Nat) (n : Nat) (x1 : Sl) (x7 : Bool) (x10 : Sl) (x11 : Int) (x12 : Int) (h : AHeap) :
    k_assign_Of_1 fuel d n (.exit 2) [(1, (AVal.slice x1)), (7, (AVal.bool x7)), (10, (AVal.slice x10)), (11, (AVal.int .i64 x11)), (12, (AVal.int .i64 x12))] h =
  (bif (!x7) then (some (.ret, [(4, (AVal.bool false))], h)) else (l_assign_Of_0 fuel d n [(1, (AVal.slice x1)), (10, (AVal.slice x10)), (11, (AVal.int .i64 x11)), (12, (AVal.int .i64 (IntKind.wrap .i64 (x12 + (1 : Int)))))] h)) := by
  generalize hh : l_assign_Of_0 = R
  rw [l_assign_Of_0_is] at hh
  subst hh
  generalize hh : k_assign_Of_1 = R
  rw [k_assign_Of_1_is] at hh
  subst hh
  kernel_rfl

/-! 38: slices.Concat[[]int,int] -/

noncomputable def s_slices_Concat_s_int_int_0 (fuel d : Nat) : Run := fun fr h k => aexec (Cf fuel F_slices_Concat_s_int_int) false (acall (C fuel) false d) (acall (C fuel) true d) 36 (csub [true, true, false, true, false, false] (fbody Go.Proofs.Tryd.f38)) (asub [true, true, false, true, false, false] an38) fr h k

noncomputable def l_slices_Concat_s_int_int_0r (fuel d : Nat) (n : Nat) (fr : Fr) (h : AHeap) : Option (AExit × Fr × AHeap) := aloop (s_slices_Concat_s_int_int_0 fuel d) (some [0, 3, 9, 10, 11]) n fr h (kOut [0, 3])

noncomputable def l_slices_Concat_s_int_int_0 : Nat → Nat → Nat → Fr → AHeap → Option (AExit × Fr × AHeap) := hide l_slices_Concat_s_int_int_0r

theorem l_slices_Concat_s_int_int_0_is : l_slices_Concat_s_int_int_0 = l_slices_Concat_s_int_int_0r := hide_eq _

noncomputable def k_slices_Concat_s_int_int_0r (fuel d : Nat) : AExit → Fr → AHeap → Option (AVal × AHeap) := (kBlock 0 (kSeq (Cf fuel F_slices_Concat_s_int_int) false (acall (C fuel) false d) (acall (C fuel) true d) 36 (csub [true, true, true] (fbody Go.Proofs.Tryd.f38)) (asub [true, true, true] an38) (kRet (Cf fuel F_slices_Concat_s_int_int) Go.Proofs.Tryd.f38.results.toList)))

noncomputable def k_slices_Concat_s_int_int_0 : Nat → Nat → AExit → Fr → AHeap → Option (AVal × AHeap) := hide k_slices_Concat_s_int_int_0r

theorem k_slices_Concat_s_int_int_0_is : k_slices_Concat_s_int_int_0 = k_slices_Concat_s_int_int_0r := hide_eq _

noncomputable def s_slices_Concat_s_int_int_1 (fuel d : Nat) : Run := fun fr h k => aexec (Cf fuel F_slices_Concat_s_int_int) false (acall (C fuel) false d) (acall (C fuel) true d) 36 (csub [true, true, true, true, false, true, false, false] (fbody Go.Proofs.Tryd.f38)) (asub [true, true, true, true, false, true, false, false] an38) fr h k

noncomputable def l_slices_Concat_s_int_int_1r (fuel d : Nat) (n : Nat) (fr : Fr) (h : AHeap) : Option (AExit × Fr × AHeap) := aloop (s_slices_Concat_s_int_int_1 fuel d) (some [6, 25, 26, 27]) n fr h (kOut [6])

noncomputable def l_slices_Concat_s_int_int_1 : Nat → Nat → Nat → Fr → AHeap → Option (AExit × Fr × AHeap) := hide l_slices_Concat_s_int_int_1r

theorem l_slices_Concat_s_int_int_1_is : l_slices_Concat_s_int_int_1 = l_slices_Concat_s_int_int_1r := hide_eq _

noncomputable def k_slices_Concat_s_int_int_1r (fuel d : Nat) : AExit → Fr → AHeap → Option (AVal × AHeap) := (kBlock 2 (kSeq (Cf fuel F_slices_Concat_s_int_int) false (acall (C fuel) false d) (acall (C fuel) true d) 36 (csub [true, true, true, true, true] (fbody Go.Proofs.Tryd.f38)) (asub [true, true, true, true, true] an38) (kRet (Cf fuel F_slices_Concat_s_int_int) Go.Proofs.Tryd.f38.results.toList)))

noncomputable def k_slices_Concat_s_int_int_1 : Nat → Nat → AExit → Fr → AHeap → Option (AVal × AHeap) := hide k_slices_Concat_s_int_int_1r

theorem k_slices_Concat_s_int_int_1_is : k_slices_Concat_s_int_int_1 = k_slices_Concat_s_int_int_1r := hide_eq _

theorem e_slices_Concat_s_int_int (fuel d : Nat) (x0 : Sl) (h : AHeap) :
    brun fuel (d + 1) F_slices_Concat_s_int_int [(AVal.slice x0)] h =
  (l_slices_Concat_s_int_int_0 fuel d fuel [(0, (AVal.slice x0)), (3, (AVal.int .i64 (0 : Int))), (9, (AVal.slice x0)), (10, (AVal.int .i64 ((x0.len : Nat) : Int))), (11, (AVal.int .i64 (0 : Int)))] h).bind fun p1 =>
    k_slices_Concat_s_int_int_0 fuel d p1.1 p1.2.1 p1.2.2 := by
  generalize hh : brun = R
  rw [brun_is] at hh
  subst hh
  generalize hh : l_slices_Concat_s_int_int_0 = R
  rw [l_slices_Concat_s_int_int_0_is] at hh
  subst hh
  generalize hh : k_slices_Concat_s_int_int_0 = R
  rw [k_slices_Concat_s_int_int_0_is] at hh
  subst hh
  kernel_rfl

theorem l_slices_Concat_s_int_int_0_eq (fuel d : Nat) (n : Nat) (x0 : Sl) (x3 : Int) (x9 : Sl) (x10 : Int) (x11 : Int) (h : AHeap) :
    l_slices_Concat_s_int_int_0 fuel d (n + 1) [(0, (AVal.slice x0)), (3, (AVal.int .i64 x3)), (9, (AVal.slice x9)), (10, (AVal.int .i64 x10)), (11, (AVal.int .i64 x11))] h =
  (bif (decide (x11 < x10)) then ((AHeap.addr h 1 x9 x11).bind fun p1 =>
    (AHeap.cell h p1).bind fun u2 =>
    (AVal.slice? u2).bind fun s3 =>
    (bif (decide ((IntKind.wrap .i64 (x3 + ((s3.len : Nat) : Int))) < (0 : Int))) then (none) else (l_slices_Concat_s_int_int_0 fuel d n [(0, (AVal.slice x0)), (3, (AVal.int .i64 (IntKind.wrap .i64 (x3 + ((s3.len : Nat) : Int))))), (9, (AVal.slice x9)), (10, (AVal.int .i64 x10)), (11, (AVal.int .i64 (IntKind.wrap .i64 (x11 + (1 : Int)))))] h))) else (some ((.exit 0), [(0, (AVal.slice x0)), (3, (AVal.int .i64 x3))], h))) := by
  generalize hh : l_slices_Concat_s_int_int_0 = R
  rw [l_slices_Concat_s_int_int_0_is] at hh
  subst hh
  kernel_rfl

theorem l_slices_Concat_s_int_int_0_0 (fuel d : Nat) (fr : Fr) (h : AHeap) :
    l_slices_Concat_s_int_int_0 fuel d 0 fr h =
  none := by
  generalize hh : l_slices_Concat_s_int_int_0 = R
  rw [l_slices_Concat_s_int_int_0_is] at hh
  subst hh
  kernel_rfl

theorem k_slices_Concat_s_int_int_0_x0 (fuel d : Nat) (x0 : Sl) (x3 : Int) (h : AHeap) :
    k_slices_Concat_s_int_int_0 fuel d (.exit 0) [(0, (AVal.slice x0)), (3, (AVal.int .i64 x3))] h =
  (run fuel d F_slices_Grow_s_int_int [(AVal.slice Sl.nil), (AVal.int .i64 x3)] h).bind fun r1 =>
    (AVal.slice? r1.1).bind fun s2 =>
    (l_slices_Concat_s_int_int_1 fuel d fuel [(6, (AVal.slice s2)), (25, (AVal.slice x0)), (26, (AVal.int .i64 ((x0.len : Nat) : Int))), (27, (AVal.int .i64 (0 : Int)))] r1.2).bind fun p3 =>
    k_slices_Concat_s_int_int_1 fuel d p3.1 p3.2.1 p3.2.2 := by
  generalize hh : run = R
  rw [run_is] at hh
  subst hh
  generalize hh : k_slices_Concat_s_int_int_0 = R
  rw [k_slices_Concat_s_int_int_0_is] at hh
  subst hh
  generalize hh : l_slices_Concat_s_int_int_1 = R
  rw [l_slices_Concat_s_int_int_1_is] at hh
  subst hh
  generalize hh : k_slices_Concat_s_int_int_1 = R
  rw [k_slices_Concat_s_int_int_1_is] at hh
  subst hh
  kernel_rfl

theorem l_slices_Concat_s_int_int_1_eq (fuel d : Nat) (n : Nat) (x6 : Sl) (x25 : Sl) (x26 : Int) (x27 : Int) (h : AHeap) :
    l_slices_Concat_s_int_int_1 fuel d (n + 1) [(6, (AVal.slice x6)), (25, (AVal.slice x25)), (26, (AVal.int .i64 x26)), (27, (AVal.int .i64 x27))] h =
  (bif (decide (x27 < x26)) then ((AHeap.addr h 1 x25 x27).bind fun p1 =>
    (AHeap.cell h p1).bind fun u2 =>
    (AVal.slice? u2).bind fun s3 =>
    (AHeap.sliceCells h 1 s3).bind fun xs4 =>
    (AHeap.append h false 1 8 x6 s3.len xs4).bind fun a5 =>
    l_slices_Concat_s_int_int_1 fuel d n [(6, (AVal.slice a5.1)), (25, (AVal.slice x25)), (26, (AVal.int .i64 x26)), (27, (AVal.int .i64 (IntKind.wrap .i64 (x27 + (1 : Int)))))] a5.2) else (some ((.exit 2), [(6, (AVal.slice x6))], h))) := by
  generalize hh : l_slices_Concat_s_int_int_1 = R
  rw [l_slices_Concat_s_int_int_1_is] at hh
  subst hh
  kernel_rfl

theorem l_slices_Concat_s_int_int_1_0 (fuel d : Nat) (fr : Fr) (h : AHeap) :
    l_slices_Concat_s_int_int_1 fuel d 0 fr h =
  none := by
  generalize hh : l_slices_Concat_s_int_int_1 = R
  rw [l_slices_Concat_s_int_int_1_is] at hh
  subst hh
  kernel_rfl

theorem k_slices_Concat_s_int_int_1_x2 (fuel d : Nat) (x6 : Sl) (h : AHeap) :
    k_slices_Concat_s_int_int_1 fuel d (.exit 2) [(6, (AVal.slice x6))] h =
  some ((AVal.slice x6), h) := by
  generalize hh : k_slices_Concat_s_int_int_1 = R
  rw [k_slices_Concat_s_int_int_1_is] at hh
  subst hh
  kernel_rfl

/-! 39: skolem/lits.Var -/

theorem e_lits_Var (fuel d : Nat) (x0 : Int) (h : AHeap) :
    brun fuel (d + 1) F_lits_Var [(AVal.int .i64 x0)] h =
  some ((AVal.int .i64 (bif decide (x0 < (IntKind.wrap .i64 (0 - x0))) then (IntKind.wrap .i64 (0 - x0)) else x0)), h) := by
  generalize hh : brun = R
  rw [brun_is] at hh
  subst hh
  kernel_rfl

/-! 43: skolem/assign.holds -/

theorem e_assign_holds (fuel d : Nat) (x0 : Int) (x1 : Sl) (h : AHeap) :
    brun fuel (d + 1) F_assign_holds [(AVal.int .i64 x0), (AVal.slice x1)] h =
  (run fuel d F_lits_Var [(AVal.int .i64 x0)] h).bind fun r1 =>
    (AVal.int? .i64 r1.1).bind fun n2 =>
    ((bif ((bif (decide ((0 : Int) < n2)) then (decide (n2 < ((x1.len : Nat) : Int))) else false) == true) then ((AHeap.addr r1.2 1 x1 n2).bind fun p3 =>
    (AHeap.cell r1.2 p3).bind fun u4 =>
    (AVal.bool? u4).bind fun b5 =>
    some ((AVal.bool (b5 == (decide ((0 : Int) < x0)))), r1.2)) else (some ((AVal.bool false), r1.2)) : Option (AVal × AHeap))).bind fun r6 =>
    (AVal.bool? r6.1).bind fun b7 =>
    some ((AVal.bool b7), r6.2) := by
  generalize hh : run = R
  rw [run_is] at hh
  subst hh
  generalize hh : brun = R
  rw [brun_is] at hh
  subst hh
  kernel_rfl

/-! 52: slices.Grow[[]int,int] -/

noncomputable def k_slices_Grow_s_int_int_0r (fuel d : Nat) : AExit → Fr → AHeap → Option (AVal × AHeap) := (kSeq (Cf fuel F_slices_Grow_s_int_int) false (acall (C fuel) false d) (acall (C fuel) true d) 27 (csub [true, true] (fbody Go.Proofs.Tryd.f52)) (asub [true, true] an52) (kRet (Cf fuel F_slices_Grow_s_int_int) Go.Proofs.Tryd.f52.results.toList))

noncomputable def k_slices_Grow_s_int_int_0 : Nat → Nat → AExit → Fr → AHeap → Option (AVal × AHeap) := hide k_slices_Grow_s_int_int_0r

theorem k_slices_Grow_s_int_int_0_is : k_slices_Grow_s_int_int_0 = k_slices_Grow_s_int_int_0r := hide_eq _

theorem e_slices_Grow_s_int_int (fuel d : Nat) (x0 : Sl) (x1 : Int) (h : AHeap) :
    run fuel (d + 1) F_slices_Grow_s_int_int [(AVal.slice x0), (AVal.int .i64 x1)] h =
  ((bif (decide (x1 < (0 : Int))) then (none) else (some (.normal, [(0, (AVal.slice x0)), (1, (AVal.int .i64 x1))], h)))).bind fun p1 =>
    k_slices_Grow_s_int_int_0 fuel d p1.1 p1.2.1 p1.2.2 := by
  generalize hh : run = R
  rw [run_is] at hh
  subst hh
  generalize hh : k_slices_Grow_s_int_int_0 = R
  rw [k_slices_Grow_s_int_int_0_is] at hh
  subst hh
  kernel_rfl

theorem k_slices_Grow_s_int_int_0_n (fuel d : Nat) (x0 : Sl) (x1 : Int) (h : AHeap) :
    k_slices_Grow_s_int_int_0 fuel d .normal [(0, (AVal.slice x0)), (1, (AVal.int .i64 x1))] h =
  (Sl.capOf x0).bind fun n1 =>
    (bif (decide ((0 : Int) < (IntKind.wrap .i64 (x1 - (IntKind.wrap .i64 (((n1 : Nat) : Int) - ((x0.len : Nat) : Int))))))) then ((Sl.capOf x0).bind fun n2 =>
    (aHi (some (AVal.int .i64 ((n2 : Nat) : Int))) (Sl.len x0)).bind fun hi3 =>
    (aLo (none : Option AVal) hi3).bind fun lo4 =>
    (aMx (none : Option AVal) hi3).bind fun cl5 =>
    (bif (AHeap.hasSz h 1 x0) then ((bif (decide (0 ≤ (IntKind.wrap .i64 (x1 - (IntKind.wrap .i64 (((n1 : Nat) : Int) - ((x0.len : Nat) : Int)))))) && decide ((IntKind.wrap .i64 (x1 - (IntKind.wrap .i64 (((n1 : Nat) : Int) - ((x0.len : Nat) : Int))))) ≤ 140737488355328) && decide ((IntKind.wrap .i64 (x1 - (IntKind.wrap .i64 (((n1 : Nat) : Int) - ((x0.len : Nat) : Int))))) * 8 ≤ 140737488355328)) then ((AHeap.append h false 1 8 (Sl.cut x0 1 lo4 hi3 cl5) (Int.toNat (IntKind.wrap .i64 (x1 - (IntKind.wrap .i64 (((n1 : Nat) : Int) - ((x0.len : Nat) : Int)))))) (repeatCells [(AVal.int .i64 (0 : Int))] (Int.toNat (IntKind.wrap .i64 (x1 - (IntKind.wrap .i64 (((n1 : Nat) : Int) - ((x0.len : Nat) : Int)))))))).bind fun a6 =>
    (aHi (some (AVal.int .i64 ((x0.len : Nat) : Int))) (Sl.len a6.1)).bind fun hi7 =>
    (aLo (none : Option AVal) hi7).bind fun lo8 =>
    (aMx (none : Option AVal) hi7).bind fun cl9 =>
    (bif (AHeap.hasSz a6.2 1 a6.1) then (some ((AVal.slice (Sl.cut a6.1 1 lo8 hi7 cl9)), a6.2)) else (none))) else (none))) else (none))) else (some ((AVal.slice x0), h))) := by
  generalize hh : k_slices_Grow_s_int_int_0 = R
  rw [k_slices_Grow_s_int_int_0_is] at hh
  subst hh
  kernel_rfl

theorem e_bytealg_IndexByte (fuel d : Nat) (x0 : Sl) (x1 : Int) (h : AHeap) :
    run fuel d F_bytealg_IndexByte [(AVal.slice x0), (AVal.int .u8 x1)] h =
  (AHeap.sliceCells h 1 x0).bind fun c1 => (bytesFrom c1).bind fun b2 => some ((AVal.int .i64 (Lib.indexByte b2 (Int.toNat x1).toUInt8)), h) := by
  generalize hh : run = R
  rw [run_is] at hh
  subst hh
  cases d <;> kernel_rfl

end Go.Proofs.YthccobceodgmlaaDoor
