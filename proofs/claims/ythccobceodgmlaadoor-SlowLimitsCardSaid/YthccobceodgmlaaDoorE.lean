/-
  What each function does: printed by program, checked by the kernel.
-/
import Derived.Test.YthccobceodgmlaaDoorCtx
namespace Go.Proofs.YthccobceodgmlaaDoor
set_option linter.unusedVariables false
set_option maxRecDepth 100000

/-! 6: skolem/skolemlaw7.SlowLimits -/

noncomputable def s_skolemlaw7_SlowLimits_0 (fuel d : Nat) : Run := fun fr h k => aexec (Cf fuel F_skolemlaw7_SlowLimits) false (acall (C fuel) false d) (acall (C fuel) true d) 107 (csub [true, true, true, true, true, false, true, false, false] (fbody Go.Proofs.Tryd.f6)) (asub [true, true, true, true, true, false, true, false, false] an6) fr h k

noncomputable def l_skolemlaw7_SlowLimits_0r (fuel d : Nat) (n : Nat) (fr : Fr) (h : AHeap) : Option (AExit × Fr × AHeap) := aloop (s_skolemlaw7_SlowLimits_0 fuel d) (some [0, 1, 5, 6, 7]) n fr h (kOut [0, 1, 5, 6])

noncomputable def l_skolemlaw7_SlowLimits_0 : Nat → Nat → Nat → Fr → AHeap → Option (AExit × Fr × AHeap) := hide l_skolemlaw7_SlowLimits_0r

theorem l_skolemlaw7_SlowLimits_0_is : l_skolemlaw7_SlowLimits_0 = l_skolemlaw7_SlowLimits_0r := hide_eq _

noncomputable def k_skolemlaw7_SlowLimits_0r (fuel d : Nat) : AExit → Fr → AHeap → Option (AVal × AHeap) := (kBlock 0 (kSeq (Cf fuel F_skolemlaw7_SlowLimits) false (acall (C fuel) false d) (acall (C fuel) true d) 107 (csub [true, true, true, true, true, true] (fbody Go.Proofs.Tryd.f6)) (asub [true, true, true, true, true, true] an6) (kRet (Cf fuel F_skolemlaw7_SlowLimits) Go.Proofs.Tryd.f6.results.toList)))

noncomputable def k_skolemlaw7_SlowLimits_0 : Nat → Nat → AExit → Fr → AHeap → Option (AVal × AHeap) := hide k_skolemlaw7_SlowLimits_0r

theorem k_skolemlaw7_SlowLimits_0_is : k_skolemlaw7_SlowLimits_0 = k_skolemlaw7_SlowLimits_0r := hide_eq _

noncomputable def k_skolemlaw7_SlowLimits_1r (fuel d : Nat) : AExit → Fr → AHeap → Option (AVal × AHeap) := (kSeq (Cf fuel F_skolemlaw7_SlowLimits) false (acall (C fuel) false d) (acall (C fuel) true d) 107 (csub [true, true, true, true, true, true, true, true, true, true, true, true, true, true, true] (fbody Go.Proofs.Tryd.f6)) (asub [true, true, true, true, true, true, true, true, true, true, true, true, true, true, true] an6) (kRet (Cf fuel F_skolemlaw7_SlowLimits) Go.Proofs.Tryd.f6.results.toList))

noncomputable def k_skolemlaw7_SlowLimits_1 : Nat → Nat → AExit → Fr → AHeap → Option (AVal × AHeap) := hide k_skolemlaw7_SlowLimits_1r

theorem k_skolemlaw7_SlowLimits_1_is : k_skolemlaw7_SlowLimits_1 = k_skolemlaw7_SlowLimits_1r := hide_eq _

theorem e_skolemlaw7_SlowLimits (fuel d : Nat) (x0 : Int) (x1 : Int) (h : AHeap) :
    run fuel (d + 1) F_skolemlaw7_SlowLimits [(AVal.int .i64 x0), (AVal.int .i64 x1)] h =
  (run fuel d F_skolemlaw7_first [] h).bind fun r1 =>
    (AVal.bool? r1.1).bind fun b2 =>
    (bif (!b2) then (some ((AVal.bool false), r1.2)) else ((l_skolemlaw7_SlowLimits_0 fuel d fuel [(0, (AVal.int .i64 (Int.tmod (IntKind.wrap .i64 ((Int.tmod x0 (30 : Int)) + (30 : Int))) (30 : Int)))), (1, (AVal.int .i64 x1)), (5, (AVal.bool b2)), (6, (AVal.slice Sl.nil)), (7, (AVal.int .i64 (1 : Int)))] r1.2).bind fun p3 =>
    k_skolemlaw7_SlowLimits_0 fuel d p3.1 p3.2.1 p3.2.2)) := by
  generalize hh : run = R
  rw [run_is] at hh
  subst hh
  generalize hh : l_skolemlaw7_SlowLimits_0 = R
  rw [l_skolemlaw7_SlowLimits_0_is] at hh
  subst hh
  generalize hh : k_skolemlaw7_SlowLimits_0 = R
  rw [k_skolemlaw7_SlowLimits_0_is] at hh
  subst hh
  kernel_rfl

theorem l_skolemlaw7_SlowLimits_0_eq (fuel d : Nat) (n : Nat) (x0 : Int) (x1 : Int) (x5 : Bool) (x6 : Sl) (x7 : Int) (h : AHeap) :
    l_skolemlaw7_SlowLimits_0 fuel d (n + 1) [(0, (AVal.int .i64 x0)), (1, (AVal.int .i64 x1)), (5, (AVal.bool x5)), (6, (AVal.slice x6)), (7, (AVal.int .i64 x7))] h =
  (bif (decide (x7 ≤ x0)) then ((AHeap.append h false 1 8 x6 1 [(AVal.int .i64 x7)]).bind fun a1 =>
    l_skolemlaw7_SlowLimits_0 fuel d n [(0, (AVal.int .i64 x0)), (1, (AVal.int .i64 x1)), (5, (AVal.bool x5)), (6, (AVal.slice a1.1)), (7, (AVal.int .i64 (IntKind.wrap .i64 (x7 + (1 : Int)))))] a1.2) else (some ((.exit 0), [(0, (AVal.int .i64 x0)), (1, (AVal.int .i64 x1)), (5, (AVal.bool x5)), (6, (AVal.slice x6))], h))) := by
  generalize hh : l_skolemlaw7_SlowLimits_0 = R
  rw [l_skolemlaw7_SlowLimits_0_is] at hh
  subst hh
  kernel_rfl

theorem l_skolemlaw7_SlowLimits_0_0 (fuel d : Nat) (fr : Fr) (h : AHeap) :
    l_skolemlaw7_SlowLimits_0 fuel d 0 fr h =
  none := by
  generalize hh : l_skolemlaw7_SlowLimits_0 = R
  rw [l_skolemlaw7_SlowLimits_0_is] at hh
  subst hh
  kernel_rfl

theorem k_skolemlaw7_SlowLimits_0_x0 (fuel d : Nat) (x0 : Int) (x1 : Int) (x5 : Bool) (x6 : Sl) (h : AHeap) :
    k_skolemlaw7_SlowLimits_0 fuel d (.exit 0) [(0, (AVal.int .i64 x0)), (1, (AVal.int .i64 x1)), (5, (AVal.bool x5)), (6, (AVal.slice x6))] h =
  (bif (bif (decide ((16 : Int) < x0)) then (decide (x0 ≤ (20 : Int))) else false) then (some ((AVal.bool x5), h)) else ((run fuel d F_slow_Value [(AVal.agg [(AVal.bool false), (AVal.slice x6), (AVal.slice Sl.nil), (AVal.slice Sl.nil)])] h).bind fun r1 =>
    (bif AVal.isTup 2 r1.1 then ((AVal.comp 0 r1.1).bind fun u2 =>
    (AVal.bool? u2).bind fun b3 =>
    (AVal.comp 1 r1.1).bind fun u4 =>
    (run fuel d F_slow_Wins [(AVal.agg [(AVal.bool false), (AVal.slice Sl.nil), (AVal.slice x6), (AVal.slice Sl.nil)]), (AVal.slice Sl.nil)] r1.2).bind fun r5 =>
    (bif AVal.isTup 2 r5.1 then ((AVal.comp 0 r5.1).bind fun u6 =>
    (AVal.bool? u6).bind fun b7 =>
    (AVal.comp 1 r5.1).bind fun u8 =>
    (run fuel d F_slow_Sat [(AVal.agg [(AVal.int .i64 x0), (AVal.slice Sl.nil)])] r5.2).bind fun r9 =>
    (bif AVal.isTup 3 r9.1 then ((AVal.comp 0 r9.1).bind fun u10 =>
    (AVal.slice? u10).bind fun s11 =>
    (AVal.comp 1 r9.1).bind fun u12 =>
    (AVal.bool? u12).bind fun b13 =>
    (AVal.comp 2 r9.1).bind fun u14 =>
    (run fuel d F_slow_Value [(AVal.agg [(AVal.bool false), (AVal.slice Sl.nil), (AVal.slice Sl.nil), (AVal.slice (Sl.lst 1 true [(AVal.slice (Sl.lst 1 true [(AVal.int .i64 (1 : Int))]))]))])] r9.2).bind fun r15 =>
    (bif AVal.isTup 2 r15.1 then ((AVal.comp 0 r15.1).bind fun u16 =>
    (AVal.bool? u16).bind fun b17 =>
    (AVal.comp 1 r15.1).bind fun u18 =>
    (bif (true && decide (0 ≤ (IntKind.wrap .i64 ((Int.tmod (IntKind.wrap .i64 ((Int.tmod x1 (5 : Int)) + (5 : Int))) (5 : Int)) + (1 : Int)))) && decide ((IntKind.wrap .i64 ((Int.tmod (IntKind.wrap .i64 ((Int.tmod x1 (5 : Int)) + (5 : Int))) (5 : Int)) + (1 : Int))) ≤ (IntKind.wrap .i64 ((Int.tmod (IntKind.wrap .i64 ((Int.tmod x1 (5 : Int)) + (5 : Int))) (5 : Int)) + (1 : Int)))) && decide ((IntKind.wrap .i64 ((Int.tmod (IntKind.wrap .i64 ((Int.tmod x1 (5 : Int)) + (5 : Int))) (5 : Int)) + (1 : Int))) * 1 ≤ 140737488355328) && decide ((IntKind.wrap .i64 ((Int.tmod (IntKind.wrap .i64 ((Int.tmod x1 (5 : Int)) + (5 : Int))) (5 : Int)) + (1 : Int))) ≤ 140737488355328)) then ((run fuel d F_slow_Wins [(AVal.agg [(AVal.bool false), (AVal.slice Sl.nil), (AVal.slice Sl.nil), (AVal.slice Sl.nil)]), (AVal.slice (Sl.mk ⟨AHeap.next r15.2, 0, 0⟩ (Int.toNat (IntKind.wrap .i64 ((Int.tmod (IntKind.wrap .i64 ((Int.tmod x1 (5 : Int)) + (5 : Int))) (5 : Int)) + (1 : Int)))) (eqI (IntKind.wrap .i64 ((Int.tmod (IntKind.wrap .i64 ((Int.tmod x1 (5 : Int)) + (5 : Int))) (5 : Int)) + (1 : Int))) (IntKind.wrap .i64 ((Int.tmod (IntKind.wrap .i64 ((Int.tmod x1 (5 : Int)) + (5 : Int))) (5 : Int)) + (1 : Int))))))] (AHeap.push r15.2 1 (repeatCells [(AVal.bool false)] (Int.toNat (IntKind.wrap .i64 ((Int.tmod (IntKind.wrap .i64 ((Int.tmod x1 (5 : Int)) + (5 : Int))) (5 : Int)) + (1 : Int))))))).bind fun r19 =>
    (bif AVal.isTup 2 r19.1 then ((AVal.comp 0 r19.1).bind fun u20 =>
    (AVal.bool? u20).bind fun b21 =>
    (AVal.comp 1 r19.1).bind fun u22 =>
    ((bif (decide ((20 : Int) < x0)) then (some (.normal, [(5, (AVal.bool x5)), (9, u4), (11, u8), (14, u14), (16, u18), (18, u22), (19, (AVal.int .i64 (102 : Int)))], r19.2)) else (some (.normal, [(5, (AVal.bool x5)), (9, u4), (11, u8), (14, u14), (16, u18), (18, u22), (19, (AVal.int .i64 (0 : Int)))], r19.2)))).bind fun p23 =>
    k_skolemlaw7_SlowLimits_1 fuel d p23.1 p23.2.1 p23.2.2) else none)) else (none))) else none)) else none)) else none)) else none))) := by
  generalize hh : run = R
  rw [run_is] at hh
  subst hh
  generalize hh : k_skolemlaw7_SlowLimits_0 = R
  rw [k_skolemlaw7_SlowLimits_0_is] at hh
  subst hh
  generalize hh : k_skolemlaw7_SlowLimits_1 = R
  rw [k_skolemlaw7_SlowLimits_1_is] at hh
  subst hh
  kernel_rfl

theorem k_skolemlaw7_SlowLimits_1_n (fuel d : Nat) (x5 : Bool) (x9 : AVal) (x11 : AVal) (x14 : AVal) (x16 : AVal) (x18 : AVal) (x19 : Int) (h : AHeap) :
    k_skolemlaw7_SlowLimits_1 fuel d .normal [(5, (AVal.bool x5)), (9, x9), (11, x11), (14, x14), (16, x16), (18, x18), (19, (AVal.int .i64 x19))] h =
  ((bif (x5 == true) then ((run fuel d F_skolemsee_Is [x9, (AVal.int .i64 x19)] h).bind fun r1 =>
    (AVal.bool? r1.1).bind fun b2 =>
    some ((AVal.bool b2), r1.2)) else (some ((AVal.bool false), h)) : Option (AVal × AHeap))).bind fun r3 =>
    (AVal.bool? r3.1).bind fun b4 =>
    ((bif (b4 == true) then ((run fuel d F_skolemsee_Is [x11, (AVal.int .i64 x19)] r3.2).bind fun r5 =>
    (AVal.bool? r5.1).bind fun b6 =>
    some ((AVal.bool b6), r5.2)) else (some ((AVal.bool false), r3.2)) : Option (AVal × AHeap))).bind fun r7 =>
    (AVal.bool? r7.1).bind fun b8 =>
    ((bif (b8 == true) then ((run fuel d F_skolemsee_Is [x14, (AVal.int .i64 x19)] r7.2).bind fun r9 =>
    (AVal.bool? r9.1).bind fun b10 =>
    some ((AVal.bool b10), r9.2)) else (some ((AVal.bool false), r7.2)) : Option (AVal × AHeap))).bind fun r11 =>
    (AVal.bool? r11.1).bind fun b12 =>
    ((bif (b12 == true) then ((run fuel d F_skolemsee_Is [x16, (AVal.int .i64 (104 : Int))] r11.2).bind fun r13 =>
    (AVal.bool? r13.1).bind fun b14 =>
    some ((AVal.bool b14), r13.2)) else (some ((AVal.bool false), r11.2)) : Option (AVal × AHeap))).bind fun r15 =>
    (AVal.bool? r15.1).bind fun b16 =>
    ((bif (b16 == true) then ((run fuel d F_skolemsee_Is [x18, (AVal.int .i64 (104 : Int))] r15.2).bind fun r17 =>
    (AVal.bool? r17.1).bind fun b18 =>
    some ((AVal.bool b18), r17.2)) else (some ((AVal.bool false), r15.2)) : Option (AVal × AHeap))).bind fun r19 =>
    (AVal.bool? r19.1).bind fun b20 =>
    some ((AVal.bool b20), r19.2) := by
  generalize hh : run = R
  rw [run_is] at hh
  subst hh
  generalize hh : k_skolemlaw7_SlowLimits_1 = R
  rw [k_skolemlaw7_SlowLimits_1_is] at hh
  subst hh
  kernel_rfl

/-! 8: skolem/skolemlaw7.first -/

theorem e_skolemlaw7_first (fuel d : Nat)  (h : AHeap) :
    brun fuel (d + 1) F_skolemlaw7_first [] h =
  (run fuel d F_slow_Value [(AVal.agg [(AVal.bool false), (AVal.slice Sl.nil), (AVal.slice Sl.nil), (AVal.slice Sl.nil)])] h).bind fun r1 =>
    (bif AVal.isTup 2 r1.1 then ((AVal.comp 0 r1.1).bind fun u2 =>
    (AVal.bool? u2).bind fun b3 =>
    (AVal.comp 1 r1.1).bind fun u4 =>
    ((bif (b3 == true) then ((nilTest .iface u4).bind fun b5 =>
    some ((AVal.bool (b5)), r1.2)) else (some ((AVal.bool false), r1.2)) : Option (AVal × AHeap))).bind fun r6 =>
    (AVal.bool? r6.1).bind fun b7 =>
    some ((AVal.bool b7), r6.2)) else none) := by
  generalize hh : run = R
  rw [run_is] at hh
  subst hh
  generalize hh : brun = R
  rw [brun_is] at hh
  subst hh
  kernel_rfl

/-! 9: skolem/skolemmake.Lit -/

theorem e_skolemmake_Lit (fuel d : Nat) (x0 : Int) (x1 : Int) (h : AHeap) :
    brun fuel (d + 1) F_skolemmake_Lit [(AVal.int .i64 x0), (AVal.int .i64 x1)] h =
  (run fuel d F_skolemworld_Number [(AVal.int .i64 x0), (AVal.int .i64 (IntKind.wrap .i64 ((2 : Int) * x1)))] h).bind fun r1 =>
    (AVal.int? .i64 r1.1).bind fun n2 =>
    (bif (decide (n2 < x1)) then (some ((AVal.int .i64 (IntKind.wrap .i64 (n2 + (1 : Int)))), r1.2)) else (some ((AVal.int .i64 (IntKind.wrap .i64 ((IntKind.wrap .i64 (x1 - n2)) - (1 : Int)))), r1.2))) := by
  generalize hh : run = R
  rw [run_is] at hh
  subst hh
  generalize hh : brun = R
  rw [brun_is] at hh
  subst hh
  kernel_rfl

/-! 10: skolem/slow.Value -/

noncomputable def s_slow_Value_0 (fuel d : Nat) : Run := fun fr h k => aexec (Cf fuel F_slow_Value) false (acall (C fuel) false d) (acall (C fuel) true d) 56 (csub [true, true, true, true, true, true, false, false] (fbody Go.Proofs.Tryd.f10)) (asub [true, true, true, true, true, true, false, false] an10) fr h k

noncomputable def l_slow_Value_0r (fuel d : Nat) (n : Nat) (fr : Fr) (h : AHeap) : Option (AExit × Fr × AHeap) := aloop (s_slow_Value_0 fuel d) (some [1, 4, 6, 7, 8]) n fr h (kOut [2, 3])

noncomputable def l_slow_Value_0 : Nat → Nat → Nat → Fr → AHeap → Option (AExit × Fr × AHeap) := hide l_slow_Value_0r

theorem l_slow_Value_0_is : l_slow_Value_0 = l_slow_Value_0r := hide_eq _

noncomputable def k_slow_Value_0r (fuel d : Nat) : AExit → Fr → AHeap → Option (AVal × AHeap) := (kBlock 1 (kRet (Cf fuel F_slow_Value) Go.Proofs.Tryd.f10.results.toList))

noncomputable def k_slow_Value_0 : Nat → Nat → AExit → Fr → AHeap → Option (AVal × AHeap) := hide k_slow_Value_0r

theorem k_slow_Value_0_is : k_slow_Value_0 = k_slow_Value_0r := hide_eq _

theorem e_slow_Value (fuel d : Nat) (x0 : List AVal) (h : AHeap) :
    brun fuel (d + 1) F_slow_Value [(AVal.agg x0)] h =
  (bif (List.all x0 AVal.isCell) then ((AHeap.cellsAt (AHeap.push h 1 x0) 4 (Pt.mk ⟨AHeap.next h, 0, 0⟩ (List.length x0))).bind fun c1 =>
    (run fuel d F_prefix_Matrix [(AVal.agg c1)] (AHeap.push h 1 x0)).bind fun r2 =>
    (bif AVal.isTup 2 r2.1 then ((AVal.comp 0 r2.1).bind fun u3 =>
    (AVal.slice? u3).bind fun s4 =>
    (AVal.comp 1 r2.1).bind fun u5 =>
    (AVal.bool? u5).bind fun b6 =>
    (Pt.field 1 (Pt.mk ⟨AHeap.next h, 0, 0⟩ (List.length x0))).bind fun p7 =>
    (AHeap.cell r2.2 p7).bind fun u8 =>
    (AVal.slice? u8).bind fun s9 =>
    (bif (!b6) then (some ((AVal.tup [(AVal.bool false), err_api_ErrRange]), r2.2)) else ((Pt.field 2 (Pt.mk ⟨AHeap.next h, 0, 0⟩ (List.length x0))).bind fun p10 =>
    (AHeap.cell r2.2 p10).bind fun u11 =>
    (AVal.slice? u11).bind fun s12 =>
    (bif (decide ((20 : Int) < (IntKind.wrap .i64 (((s9.len : Nat) : Int) + ((s12.len : Nat) : Int))))) then (some ((AVal.tup [(AVal.bool false), err_api_ErrLimit]), r2.2)) else ((bif (true && decide (0 ≤ ((s9.len : Nat) : Int)) && decide (((s9.len : Nat) : Int) ≤ ((s9.len : Nat) : Int)) && decide (((s9.len : Nat) : Int) * 1 ≤ 140737488355328) && decide (((s9.len : Nat) : Int) ≤ 140737488355328)) then ((Pt.field 2 (Pt.mk ⟨AHeap.next h, 0, 0⟩ (List.length x0))).bind fun p13 =>
    (AHeap.cell (AHeap.push r2.2 1 (repeatCells [(AVal.bool false)] (Int.toNat ((s9.len : Nat) : Int)))) p13).bind fun u14 =>
    (AVal.slice? u14).bind fun s15 =>
    (bif (true && decide (0 ≤ (IntKind.wrap .i64 ((IntKind.wrap .i64 ((1 : Int) + ((s9.len : Nat) : Int))) + ((s15.len : Nat) : Int)))) && decide ((IntKind.wrap .i64 ((IntKind.wrap .i64 ((1 : Int) + ((s9.len : Nat) : Int))) + ((s15.len : Nat) : Int))) ≤ (IntKind.wrap .i64 ((IntKind.wrap .i64 ((1 : Int) + ((s9.len : Nat) : Int))) + ((s15.len : Nat) : Int)))) && decide ((IntKind.wrap .i64 ((IntKind.wrap .i64 ((1 : Int) + ((s9.len : Nat) : Int))) + ((s15.len : Nat) : Int))) * 1 ≤ 140737488355328) && decide ((IntKind.wrap .i64 ((IntKind.wrap .i64 ((1 : Int) + ((s9.len : Nat) : Int))) + ((s15.len : Nat) : Int))) ≤ 140737488355328)) then ((l_slow_Value_0 fuel d fuel [(1, (AVal.ptr (Pt.mk ⟨AHeap.next h, 0, 0⟩ (List.length x0)))), (4, (AVal.slice s4)), (6, (AVal.int .i64 ((s9.len : Nat) : Int))), (7, (AVal.slice (Sl.mk ⟨AHeap.next r2.2, 0, 0⟩ (Int.toNat ((s9.len : Nat) : Int)) (eqI ((s9.len : Nat) : Int) ((s9.len : Nat) : Int))))), (8, (AVal.slice (Sl.mk ⟨AHeap.next (AHeap.push r2.2 1 (repeatCells [(AVal.bool false)] (Int.toNat ((s9.len : Nat) : Int)))), 0, 0⟩ (Int.toNat (IntKind.wrap .i64 ((IntKind.wrap .i64 ((1 : Int) + ((s9.len : Nat) : Int))) + ((s15.len : Nat) : Int)))) (eqI (IntKind.wrap .i64 ((IntKind.wrap .i64 ((1 : Int) + ((s9.len : Nat) : Int))) + ((s15.len : Nat) : Int))) (IntKind.wrap .i64 ((IntKind.wrap .i64 ((1 : Int) + ((s9.len : Nat) : Int))) + ((s15.len : Nat) : Int)))))))] (AHeap.push (AHeap.push r2.2 1 (repeatCells [(AVal.bool false)] (Int.toNat ((s9.len : Nat) : Int)))) 1 (repeatCells [(AVal.bool false)] (Int.toNat (IntKind.wrap .i64 ((IntKind.wrap .i64 ((1 : Int) + ((s9.len : Nat) : Int))) + ((s15.len : Nat) : Int))))))).bind fun p16 =>
    k_slow_Value_0 fuel d p16.1 p16.2.1 p16.2.2) else (none))) else (none))))))) else none)) else (none)) := by
  generalize hh : run = R
  rw [run_is] at hh
  subst hh
  generalize hh : brun = R
  rw [brun_is] at hh
  subst hh
  generalize hh : l_slow_Value_0 = R
  rw [l_slow_Value_0_is] at hh
  subst hh
  generalize hh : k_slow_Value_0 = R
  rw [k_slow_Value_0_is] at hh
  subst hh
  kernel_rfl

theorem l_slow_Value_0_eq (fuel d : Nat) (n : Nat) (x1 : Pt) (x4 : Sl) (x6 : Int) (x7 : Sl) (x8 : Sl) (h : AHeap) :
    l_slow_Value_0 fuel d (n + 1) [(1, (AVal.ptr x1)), (4, (AVal.slice x4)), (6, (AVal.int .i64 x6)), (7, (AVal.slice x7)), (8, (AVal.slice x8))] h =
  (aHi (none : Option AVal) (Sl.len x8)).bind fun hi1 =>
    (aLo (some (AVal.int .i64 (1 : Int))) hi1).bind fun lo2 =>
    (aMx (none : Option AVal) hi1).bind fun cl3 =>
    (bif (AHeap.hasSz h 1 x8) then ((AHeap.sliceCells h 1 x7).bind fun xs4 =>
    (AHeap.copy h false 1 (Sl.cut x8 1 lo2 hi1 cl3) (min (Sl.len x7) (Sl.len (Sl.cut x8 1 lo2 hi1 cl3))) xs4).bind fun h5 =>
    (Pt.field 0 x1).bind fun p6 =>
    (AHeap.cell h5 p6).bind fun u7 =>
    (AVal.bool? u7).bind fun b8 =>
    (run fuel d F_slow_wins [(AVal.slice x4), (AVal.slice x8), (AVal.int .i64 x6), (AVal.bool b8)] h5).bind fun r9 =>
    (AVal.bool? r9.1).bind fun b10 =>
    (bif b10 then ((Pt.field 0 x1).bind fun p11 =>
    (AHeap.cell r9.2 p11).bind fun u12 =>
    (AVal.bool? u12).bind fun b13 =>
    some (.ret, [(2, (AVal.bool b13)), (3, AVal.nilif)], r9.2)) else ((run fuel d F_slow_next [(AVal.slice x7), (AVal.int .i64 (0 : Int))] r9.2).bind fun r14 =>
    (AVal.bool? r14.1).bind fun b15 =>
    (bif (!b15) then ((Pt.field 0 x1).bind fun p16 =>
    (AHeap.cell r14.2 p16).bind fun u17 =>
    (AVal.bool? u17).bind fun b18 =>
    some (.ret, [(2, (AVal.bool (!b18))), (3, AVal.nilif)], r14.2)) else (l_slow_Value_0 fuel d n [(1, (AVal.ptr x1)), (4, (AVal.slice x4)), (6, (AVal.int .i64 x6)), (7, (AVal.slice x7)), (8, (AVal.slice x8))] r14.2))))) else (none)) := by
  generalize hh : run = R
  rw [run_is] at hh
  subst hh
  generalize hh : l_slow_Value_0 = R
  rw [l_slow_Value_0_is] at hh
  subst hh
  kernel_rfl

theorem l_slow_Value_0_0 (fuel d : Nat) (fr : Fr) (h : AHeap) :
    l_slow_Value_0 fuel d 0 fr h =
  none := by
  generalize hh : l_slow_Value_0 = R
  rw [l_slow_Value_0_is] at hh
  subst hh
  kernel_rfl

theorem k_slow_Value_0_r (fuel d : Nat) (x2 : Bool) (x3 : AVal) (h : AHeap) :
    k_slow_Value_0 fuel d .ret [(2, (AVal.bool x2)), (3, x3)] h =
  some ((AVal.tup [(AVal.bool x2), x3]), h) := by
  generalize hh : k_slow_Value_0 = R
  rw [k_slow_Value_0_is] at hh
  subst hh
  kernel_rfl

/-! 11: skolem/slow.Wins -/

theorem e_slow_Wins (fuel d : Nat) (x0 : List AVal) (x1 : Sl) (h : AHeap) :
    brun fuel (d + 1) F_slow_Wins [(AVal.agg x0), (AVal.slice x1)] h =
  (bif (List.all x0 AVal.isCell) then ((AHeap.cellsAt (AHeap.push h 1 x0) 4 (Pt.mk ⟨AHeap.next h, 0, 0⟩ (List.length x0))).bind fun c1 =>
    (run fuel d F_prefix_Matrix [(AVal.agg c1)] (AHeap.push h 1 x0)).bind fun r2 =>
    (bif AVal.isTup 2 r2.1 then ((AVal.comp 0 r2.1).bind fun u3 =>
    (AVal.slice? u3).bind fun s4 =>
    (AVal.comp 1 r2.1).bind fun u5 =>
    (AVal.bool? u5).bind fun b6 =>
    ((bif ((!b6) == false) then ((Pt.field 1 (Pt.mk ⟨AHeap.next h, 0, 0⟩ (List.length x0))).bind fun p7 =>
    (AHeap.cell r2.2 p7).bind fun u8 =>
    (AVal.slice? u8).bind fun s9 =>
    some ((AVal.bool (!decide (((x1.len : Nat) : Int) = ((s9.len : Nat) : Int)))), r2.2)) else (some ((AVal.bool true), r2.2)) : Option (AVal × AHeap))).bind fun r10 =>
    (AVal.bool? r10.1).bind fun b11 =>
    (bif b11 then (some ((AVal.tup [(AVal.bool false), err_api_ErrRange]), r10.2)) else ((Pt.field 2 (Pt.mk ⟨AHeap.next h, 0, 0⟩ (List.length x0))).bind fun p12 =>
    (AHeap.cell r10.2 p12).bind fun u13 =>
    (AVal.slice? u13).bind fun s14 =>
    (bif (decide ((20 : Int) < ((s14.len : Nat) : Int))) then (some ((AVal.tup [(AVal.bool false), err_api_ErrLimit]), r10.2)) else ((Pt.field 1 (Pt.mk ⟨AHeap.next h, 0, 0⟩ (List.length x0))).bind fun p15 =>
    (AHeap.cell r10.2 p15).bind fun u16 =>
    (AVal.slice? u16).bind fun s17 =>
    (Pt.field 2 (Pt.mk ⟨AHeap.next h, 0, 0⟩ (List.length x0))).bind fun p18 =>
    (AHeap.cell r10.2 p18).bind fun u19 =>
    (AVal.slice? u19).bind fun s20 =>
    (bif (true && decide (0 ≤ (IntKind.wrap .i64 ((IntKind.wrap .i64 ((1 : Int) + ((s17.len : Nat) : Int))) + ((s20.len : Nat) : Int)))) && decide ((IntKind.wrap .i64 ((IntKind.wrap .i64 ((1 : Int) + ((s17.len : Nat) : Int))) + ((s20.len : Nat) : Int))) ≤ (IntKind.wrap .i64 ((IntKind.wrap .i64 ((1 : Int) + ((s17.len : Nat) : Int))) + ((s20.len : Nat) : Int)))) && decide ((IntKind.wrap .i64 ((IntKind.wrap .i64 ((1 : Int) + ((s17.len : Nat) : Int))) + ((s20.len : Nat) : Int))) * 1 ≤ 140737488355328) && decide ((IntKind.wrap .i64 ((IntKind.wrap .i64 ((1 : Int) + ((s17.len : Nat) : Int))) + ((s20.len : Nat) : Int))) ≤ 140737488355328)) then ((aHi (none : Option AVal) (Sl.len (Sl.mk ⟨AHeap.next r10.2, 0, 0⟩ (Int.toNat (IntKind.wrap .i64 ((IntKind.wrap .i64 ((1 : Int) + ((s17.len : Nat) : Int))) + ((s20.len : Nat) : Int)))) (eqI (IntKind.wrap .i64 ((IntKind.wrap .i64 ((1 : Int) + ((s17.len : Nat) : Int))) + ((s20.len : Nat) : Int))) (IntKind.wrap .i64 ((IntKind.wrap .i64 ((1 : Int) + ((s17.len : Nat) : Int))) + ((s20.len : Nat) : Int))))))).bind fun hi21 =>
    (aLo (some (AVal.int .i64 (1 : Int))) hi21).bind fun lo22 =>
    (aMx (none : Option AVal) hi21).bind fun cl23 =>
    (bif (AHeap.hasSz (AHeap.push r10.2 1 (repeatCells [(AVal.bool false)] (Int.toNat (IntKind.wrap .i64 ((IntKind.wrap .i64 ((1 : Int) + ((s17.len : Nat) : Int))) + ((s20.len : Nat) : Int)))))) 1 (Sl.mk ⟨AHeap.next r10.2, 0, 0⟩ (Int.toNat (IntKind.wrap .i64 ((IntKind.wrap .i64 ((1 : Int) + ((s17.len : Nat) : Int))) + ((s20.len : Nat) : Int)))) (eqI (IntKind.wrap .i64 ((IntKind.wrap .i64 ((1 : Int) + ((s17.len : Nat) : Int))) + ((s20.len : Nat) : Int))) (IntKind.wrap .i64 ((IntKind.wrap .i64 ((1 : Int) + ((s17.len : Nat) : Int))) + ((s20.len : Nat) : Int)))))) then ((AHeap.sliceCells (AHeap.push r10.2 1 (repeatCells [(AVal.bool false)] (Int.toNat (IntKind.wrap .i64 ((IntKind.wrap .i64 ((1 : Int) + ((s17.len : Nat) : Int))) + ((s20.len : Nat) : Int)))))) 1 x1).bind fun xs24 =>
    (AHeap.copy (AHeap.push r10.2 1 (repeatCells [(AVal.bool false)] (Int.toNat (IntKind.wrap .i64 ((IntKind.wrap .i64 ((1 : Int) + ((s17.len : Nat) : Int))) + ((s20.len : Nat) : Int)))))) false 1 (Sl.cut (Sl.mk ⟨AHeap.next r10.2, 0, 0⟩ (Int.toNat (IntKind.wrap .i64 ((IntKind.wrap .i64 ((1 : Int) + ((s17.len : Nat) : Int))) + ((s20.len : Nat) : Int)))) (eqI (IntKind.wrap .i64 ((IntKind.wrap .i64 ((1 : Int) + ((s17.len : Nat) : Int))) + ((s20.len : Nat) : Int))) (IntKind.wrap .i64 ((IntKind.wrap .i64 ((1 : Int) + ((s17.len : Nat) : Int))) + ((s20.len : Nat) : Int))))) 1 lo22 hi21 cl23) (min (Sl.len x1) (Sl.len (Sl.cut (Sl.mk ⟨AHeap.next r10.2, 0, 0⟩ (Int.toNat (IntKind.wrap .i64 ((IntKind.wrap .i64 ((1 : Int) + ((s17.len : Nat) : Int))) + ((s20.len : Nat) : Int)))) (eqI (IntKind.wrap .i64 ((IntKind.wrap .i64 ((1 : Int) + ((s17.len : Nat) : Int))) + ((s20.len : Nat) : Int))) (IntKind.wrap .i64 ((IntKind.wrap .i64 ((1 : Int) + ((s17.len : Nat) : Int))) + ((s20.len : Nat) : Int))))) 1 lo22 hi21 cl23))) xs24).bind fun h25 =>
    (Pt.field 0 (Pt.mk ⟨AHeap.next h, 0, 0⟩ (List.length x0))).bind fun p26 =>
    (AHeap.cell h25 p26).bind fun u27 =>
    (AVal.bool? u27).bind fun b28 =>
    (run fuel d F_slow_wins [(AVal.slice s4), (AVal.slice (Sl.mk ⟨AHeap.next r10.2, 0, 0⟩ (Int.toNat (IntKind.wrap .i64 ((IntKind.wrap .i64 ((1 : Int) + ((s17.len : Nat) : Int))) + ((s20.len : Nat) : Int)))) (eqI (IntKind.wrap .i64 ((IntKind.wrap .i64 ((1 : Int) + ((s17.len : Nat) : Int))) + ((s20.len : Nat) : Int))) (IntKind.wrap .i64 ((IntKind.wrap .i64 ((1 : Int) + ((s17.len : Nat) : Int))) + ((s20.len : Nat) : Int)))))), (AVal.int .i64 ((x1.len : Nat) : Int)), (AVal.bool b28)] h25).bind fun r29 =>
    (AVal.bool? r29.1).bind fun b30 =>
    some ((AVal.tup [(AVal.bool b30), AVal.nilif]), r29.2)) else (none))) else (none))))))) else none)) else (none)) := by
  generalize hh : run = R
  rw [run_is] at hh
  subst hh
  generalize hh : brun = R
  rw [brun_is] at hh
  subst hh
  kernel_rfl

/-! 12: skolem/skolemmake.Values -/

noncomputable def s_skolemmake_Values_0 (fuel d : Nat) : Run := fun fr h k => aexec (Cf fuel F_skolemmake_Values) false (acall (C fuel) false d) (acall (C fuel) true d) 23 (csub [true, true, false, true, false, false] (fbody Go.Proofs.Tryd.f12)) (asub [true, true, false, true, false, false] an12) fr h k

noncomputable def l_skolemmake_Values_0r (fuel d : Nat) (n : Nat) (fr : Fr) (h : AHeap) : Option (AExit × Fr × AHeap) := aloop (s_skolemmake_Values_0 fuel d) (some [0, 1, 5, 6]) n fr h (kOut [5])

noncomputable def l_skolemmake_Values_0 : Nat → Nat → Nat → Fr → AHeap → Option (AExit × Fr × AHeap) := hide l_skolemmake_Values_0r

theorem l_skolemmake_Values_0_is : l_skolemmake_Values_0 = l_skolemmake_Values_0r := hide_eq _

noncomputable def k_skolemmake_Values_0r (fuel d : Nat) : AExit → Fr → AHeap → Option (AVal × AHeap) := (kBlock 0 (kSeq (Cf fuel F_skolemmake_Values) false (acall (C fuel) false d) (acall (C fuel) true d) 23 (csub [true, true, true] (fbody Go.Proofs.Tryd.f12)) (asub [true, true, true] an12) (kRet (Cf fuel F_skolemmake_Values) Go.Proofs.Tryd.f12.results.toList)))

noncomputable def k_skolemmake_Values_0 : Nat → Nat → AExit → Fr → AHeap → Option (AVal × AHeap) := hide k_skolemmake_Values_0r

theorem k_skolemmake_Values_0_is : k_skolemmake_Values_0 = k_skolemmake_Values_0r := hide_eq _

theorem e_skolemmake_Values (fuel d : Nat) (x0 : Int) (x1 : Int) (h : AHeap) :
    brun fuel (d + 1) F_skolemmake_Values [(AVal.int .i64 x0), (AVal.int .i64 x1)] h =
  (l_skolemmake_Values_0 fuel d fuel [(0, (AVal.int .i64 x0)), (1, (AVal.int .i64 x1)), (5, (AVal.slice Sl.nil)), (6, (AVal.int .i64 (0 : Int)))] h).bind fun p1 =>
    k_skolemmake_Values_0 fuel d p1.1 p1.2.1 p1.2.2 := by
  generalize hh : brun = R
  rw [brun_is] at hh
  subst hh
  generalize hh : l_skolemmake_Values_0 = R
  rw [l_skolemmake_Values_0_is] at hh
  subst hh
  generalize hh : k_skolemmake_Values_0 = R
  rw [k_skolemmake_Values_0_is] at hh
  subst hh
  kernel_rfl

theorem l_skolemmake_Values_0_eq (fuel d : Nat) (n : Nat) (x0 : Int) (x1 : Int) (x5 : Sl) (x6 : Int) (h : AHeap) :
    l_skolemmake_Values_0 fuel d (n + 1) [(0, (AVal.int .i64 x0)), (1, (AVal.int .i64 x1)), (5, (AVal.slice x5)), (6, (AVal.int .i64 x6))] h =
  (bif (decide (x6 < x1)) then ((bif decide ((IntKind.wrap .u64 (Int.tmod x6 (60 : Int))) < 0) then (none) else ((AHeap.append h false 1 1 x5 1 [(AVal.bool (decide ((bitsOp .and .i64 (Int.fdiv x0 (2 ^ min (Int.toNat (IntKind.wrap .u64 (Int.tmod x6 (60 : Int)))) (IntKind.bits .i64))) (1 : Int)) = (1 : Int))))]).bind fun a1 =>
    l_skolemmake_Values_0 fuel d n [(0, (AVal.int .i64 x0)), (1, (AVal.int .i64 x1)), (5, (AVal.slice a1.1)), (6, (AVal.int .i64 (IntKind.wrap .i64 (x6 + (1 : Int)))))] a1.2))) else (some ((.exit 0), [(5, (AVal.slice x5))], h))) := by
  generalize hh : l_skolemmake_Values_0 = R
  rw [l_skolemmake_Values_0_is] at hh
  subst hh
  kernel_rfl

theorem l_skolemmake_Values_0_0 (fuel d : Nat) (fr : Fr) (h : AHeap) :
    l_skolemmake_Values_0 fuel d 0 fr h =
  none := by
  generalize hh : l_skolemmake_Values_0 = R
  rw [l_skolemmake_Values_0_is] at hh
  subst hh
  kernel_rfl

theorem k_skolemmake_Values_0_x0 (fuel d : Nat) (x5 : Sl) (h : AHeap) :
    k_skolemmake_Values_0 fuel d (.exit 0) [(5, (AVal.slice x5))] h =
  some ((AVal.slice x5), h) := by
  generalize hh : k_skolemmake_Values_0 = R
  rw [k_skolemmake_Values_0_is] at hh
  subst hh
  kernel_rfl

/-! 13: skolem/skolemmake.CNF -/

theorem e_skolemmake_CNF (fuel d : Nat) (x0 : Sl) (x1 : Int) (h : AHeap) :
    brun fuel (d + 1) F_skolemmake_CNF [(AVal.slice x0), (AVal.int .i64 x1)] h =
  (run fuel d F_skolemmake_Clauses [(AVal.slice x0), (AVal.int .i64 x1)] (AHeap.push h 1 [(AVal.int .i64 (0 : Int)), (AVal.slice Sl.nil)])).bind fun r1 =>
    (AVal.slice? r1.1).bind fun s2 =>
    (AHeap.storeAt r1.2 [(AVal.int .i64 x1), (AVal.slice s2)] (Pt.mk ⟨AHeap.next h, 0, 0⟩ 2)).bind fun h3 =>
    ((AHeap.cellsAt h3 2 (Pt.mk ⟨AHeap.next h, 0, 0⟩ 2)).bind fun c4 =>
    some ((AVal.agg c4)) : Option AVal).map fun v => (v, h3) := by
  generalize hh : run = R
  rw [run_is] at hh
  subst hh
  generalize hh : brun = R
  rw [brun_is] at hh
  subst hh
  kernel_rfl

/-! 14: skolem/skolemmake.Clauses -/

noncomputable def s_skolemmake_Clauses_0 (fuel d : Nat) : Run := fun fr h k => aexec (Cf fuel F_skolemmake_Clauses) false (acall (C fuel) false d) (acall (C fuel) true d) 55 (csub [true, true, true, true, false, true, false, false] (fbody Go.Proofs.Tryd.f14)) (asub [true, true, true, true, false, true, false, false] an14) fr h k

noncomputable def l_skolemmake_Clauses_0r (fuel d : Nat) (n : Nat) (fr : Fr) (h : AHeap) : Option (AExit × Fr × AHeap) := aloop (s_skolemmake_Clauses_0 fuel d) (some [0, 1, 5, 6, 7]) n fr h (kOut [5, 6])

noncomputable def l_skolemmake_Clauses_0 : Nat → Nat → Nat → Fr → AHeap → Option (AExit × Fr × AHeap) := hide l_skolemmake_Clauses_0r

theorem l_skolemmake_Clauses_0_is : l_skolemmake_Clauses_0 = l_skolemmake_Clauses_0r := hide_eq _

noncomputable def k_skolemmake_Clauses_0r (fuel d : Nat) : AExit → Fr → AHeap → Option (AVal × AHeap) := (kBlock 0 (kSeq (Cf fuel F_skolemmake_Clauses) false (acall (C fuel) false d) (acall (C fuel) true d) 55 (csub [true, true, true, true, true] (fbody Go.Proofs.Tryd.f14)) (asub [true, true, true, true, true] an14) (kRet (Cf fuel F_skolemmake_Clauses) Go.Proofs.Tryd.f14.results.toList)))

noncomputable def k_skolemmake_Clauses_0 : Nat → Nat → AExit → Fr → AHeap → Option (AVal × AHeap) := hide k_skolemmake_Clauses_0r

theorem k_skolemmake_Clauses_0_is : k_skolemmake_Clauses_0 = k_skolemmake_Clauses_0r := hide_eq _

noncomputable def k_skolemmake_Clauses_1r (fuel d : Nat) (n : Nat) : AExit → Fr → AHeap → Option (AExit × Fr × AHeap) := (kSeq (Cf fuel F_skolemmake_Clauses) false (acall (C fuel) false d) (acall (C fuel) true d) 55 (csub [true, true, true, true, false, true, false, false, true, false, false, true] (fbody Go.Proofs.Tryd.f14)) (asub [true, true, true, true, false, true, false, false, true, false, false, true] an14) (kBlock 1 (kSeq (Cf fuel F_skolemmake_Clauses) false (acall (C fuel) false d) (acall (C fuel) true d) 55 (csub [true, true, true, true, false, true, false, false, true, true] (fbody Go.Proofs.Tryd.f14)) (asub [true, true, true, true, false, true, false, false, true, true] an14) (kLoop (s_skolemmake_Clauses_0 fuel d) (some [0, 1, 5, 6, 7]) n (kOut [5, 6])))))

noncomputable def k_skolemmake_Clauses_1 : Nat → Nat → Nat → AExit → Fr → AHeap → Option (AExit × Fr × AHeap) := hide k_skolemmake_Clauses_1r

theorem k_skolemmake_Clauses_1_is : k_skolemmake_Clauses_1 = k_skolemmake_Clauses_1r := hide_eq _

theorem e_skolemmake_Clauses (fuel d : Nat) (x0 : Sl) (x1 : Int) (h : AHeap) :
    brun fuel (d + 1) F_skolemmake_Clauses [(AVal.slice x0), (AVal.int .i64 x1)] h =
  (bif (decide (x1 < (1 : Int))) then (some ((AVal.slice Sl.nil), h)) else ((l_skolemmake_Clauses_0 fuel d fuel [(0, (AVal.slice x0)), (1, (AVal.int .i64 x1)), (5, (AVal.slice Sl.nil)), (6, (AVal.slice Sl.nil)), (7, (AVal.int .i64 (0 : Int)))] h).bind fun p1 =>
    k_skolemmake_Clauses_0 fuel d p1.1 p1.2.1 p1.2.2)) := by
  generalize hh : brun = R
  rw [brun_is] at hh
  subst hh
  generalize hh : l_skolemmake_Clauses_0 = R
  rw [l_skolemmake_Clauses_0_is] at hh
  subst hh
  generalize hh : k_skolemmake_Clauses_0 = R
  rw [k_skolemmake_Clauses_0_is] at hh
  subst hh
  kernel_rfl

theorem l_skolemmake_Clauses_0_eq (fuel d : Nat) (n : Nat) (x0 : Sl) (x1 : Int) (x5 : Sl) (x6 : Sl) (x7 : Int) (h : AHeap) :
    l_skolemmake_Clauses_0 fuel d (n + 1) [(0, (AVal.slice x0)), (1, (AVal.int .i64 x1)), (5, (AVal.slice x5)), (6, (AVal.slice x6)), (7, (AVal.int .i64 x7))] h =
  (bif (decide (x7 < ((x0.len : Nat) : Int))) then ((AHeap.addr h 1 x0 x7).bind fun p1 =>
    (AHeap.cell h p1).bind fun u2 =>
    (AVal.int? .i64 u2).bind fun n3 =>
    (run fuel d F_skolemworld_Number [(AVal.int .i64 n3), (AVal.int .i64 (7 : Int))] h).bind fun r4 =>
    (AVal.int? .i64 r4.1).bind fun n5 =>
    ((bif (bif (bif (decide (n5 = (0 : Int))) then (decide ((0 : Int) < ((x6.len : Nat) : Int))) else false) then true else (decide ((5 : Int) ≤ ((x6.len : Nat) : Int)))) then ((AHeap.append (AHeap.fixL r4.2 [(AVal.slice x6)]).2 false 1 24 x5 1 (AHeap.fixL r4.2 [(AVal.slice x6)]).1).bind fun a6 =>
    some (.normal, [(0, (AVal.slice x0)), (1, (AVal.int .i64 x1)), (5, (AVal.slice a6.1)), (6, (AVal.slice Sl.nil)), (7, (AVal.int .i64 x7))], a6.2)) else (some (.normal, [(0, (AVal.slice x0)), (1, (AVal.int .i64 x1)), (5, (AVal.slice x5)), (6, (AVal.slice x6)), (7, (AVal.int .i64 x7))], r4.2)))).bind fun p7 =>
    k_skolemmake_Clauses_1 fuel d n p7.1 p7.2.1 p7.2.2) else (some ((.exit 0), [(5, (AVal.slice x5)), (6, (AVal.slice x6))], h))) := by
  generalize hh : run = R
  rw [run_is] at hh
  subst hh
  generalize hh : l_skolemmake_Clauses_0 = R
  rw [l_skolemmake_Clauses_0_is] at hh
  subst hh
  generalize hh : k_skolemmake_Clauses_1 = R
  rw [k_skolemmake_Clauses_1_is] at hh
  subst hh
  kernel_rfl

theorem l_skolemmake_Clauses_0_0 (fuel d : Nat) (fr : Fr) (h : AHeap) :
    l_skolemmake_Clauses_0 fuel d 0 fr h =
  none := by
  generalize hh : l_skolemmake_Clauses_0 = R
  rw [l_skolemmake_Clauses_0_is] at hh
  subst hh
  kernel_rfl

theorem k_skolemmake_Clauses_0_x0 (fuel d : Nat) (x5 : Sl) (x6 : Sl) (h : AHeap) :
    k_skolemmake_Clauses_0 fuel d (.exit 0) [(5, (AVal.slice x5)), (6, (AVal.slice x6))] h =
  (bif (decide ((0 : Int) < ((x6.len : Nat) : Int))) then ((AHeap.append (AHeap.fixL h [(AVal.slice x6)]).2 false 1 24 x5 1 (AHeap.fixL h [(AVal.slice x6)]).1).bind fun a1 =>
    some ((AVal.slice a1.1), a1.2)) else (some ((AVal.slice x5), h))) := by
  generalize hh : k_skolemmake_Clauses_0 = R
  rw [k_skolemmake_Clauses_0_is] at hh
  subst hh
  kernel_rfl

theorem k_skolemmake_Clauses_1_n (fuel d : Nat) (n : Nat) (x0 : Sl) (x1 : Int) (x5 : Sl) (x6 : Sl) (x7 : Int) (h : AHeap) :
    k_skolemmake_Clauses_1 fuel d n .normal [(0, (AVal.slice x0)), (1, (AVal.int .i64 x1)), (5, (AVal.slice x5)), (6, (AVal.slice x6)), (7, (AVal.int .i64 x7))] h =
  (AHeap.addr h 1 x0 x7).bind fun p1 =>
    (AHeap.cell h p1).bind fun u2 =>
    (AVal.int? .i64 u2).bind fun n3 =>
    (run fuel d F_skolemworld_Number [(AVal.int .i64 n3), (AVal.int .i64 (1099511627776 : Int))] h).bind fun r4 =>
    (AVal.int? .i64 r4.1).bind fun n5 =>
    (run fuel d F_skolemmake_Lit [(AVal.int .i64 (IntKind.wrap .i64 (Int.tdiv n5 (7 : Int)))), (AVal.int .i64 x1)] r4.2).bind fun r6 =>
    (AVal.int? .i64 r6.1).bind fun n7 =>
    (AHeap.append r6.2 false 1 8 x6 1 [(AVal.int .i64 n7)]).bind fun a8 =>
    l_skolemmake_Clauses_0 fuel d n [(0, (AVal.slice x0)), (1, (AVal.int .i64 x1)), (5, (AVal.slice x5)), (6, (AVal.slice a8.1)), (7, (AVal.int .i64 (IntKind.wrap .i64 (x7 + (1 : Int)))))] a8.2 := by
  generalize hh : run = R
  rw [run_is] at hh
  subst hh
  generalize hh : l_skolemmake_Clauses_0 = R
  rw [l_skolemmake_Clauses_0_is] at hh
  subst hh
  generalize hh : k_skolemmake_Clauses_1 = R
  rw [k_skolemmake_Clauses_1_is] at hh
  subst hh
  kernel_rfl

/-! 15: skolem/slow.Sat -/

noncomputable def s_slow_Sat_0 (fuel d : Nat) : Run := fun fr h k => aexec (Cf fuel F_slow_Sat) false (acall (C fuel) false d) (acall (C fuel) true d) 28 (csub [true, true, true, false, false] (fbody Go.Proofs.Tryd.f15)) (asub [true, true, true, false, false] an15) fr h k

noncomputable def l_slow_Sat_0r (fuel d : Nat) (n : Nat) (fr : Fr) (h : AHeap) : Option (AExit × Fr × AHeap) := aloop (s_slow_Sat_0 fuel d) (some [1, 5]) n fr h (kOut [2, 3, 4])

noncomputable def l_slow_Sat_0 : Nat → Nat → Nat → Fr → AHeap → Option (AExit × Fr × AHeap) := hide l_slow_Sat_0r

theorem l_slow_Sat_0_is : l_slow_Sat_0 = l_slow_Sat_0r := hide_eq _

noncomputable def k_slow_Sat_0r (fuel d : Nat) : AExit → Fr → AHeap → Option (AVal × AHeap) := (kBlock 1 (kRet (Cf fuel F_slow_Sat) Go.Proofs.Tryd.f15.results.toList))

noncomputable def k_slow_Sat_0 : Nat → Nat → AExit → Fr → AHeap → Option (AVal × AHeap) := hide k_slow_Sat_0r

theorem k_slow_Sat_0_is : k_slow_Sat_0 = k_slow_Sat_0r := hide_eq _

theorem e_slow_Sat (fuel d : Nat) (x0 : List AVal) (h : AHeap) :
    brun fuel (d + 1) F_slow_Sat [(AVal.agg x0)] h =
  (bif (List.all x0 AVal.isCell) then ((AHeap.cellsAt (AHeap.push h 1 x0) 2 (Pt.mk ⟨AHeap.next h, 0, 0⟩ (List.length x0))).bind fun c1 =>
    (run fuel d F_lits_Check [(AVal.agg c1)] (AHeap.push h 1 x0)).bind fun r2 =>
    (nilTest .iface r2.1).bind fun b3 =>
    (bif (!b3) then (some ((AVal.tup [(AVal.slice Sl.nil), (AVal.bool false), err_api_ErrRange]), r2.2)) else ((Pt.field 0 (Pt.mk ⟨AHeap.next h, 0, 0⟩ (List.length x0))).bind fun p4 =>
    (AHeap.cell r2.2 p4).bind fun u5 =>
    (AVal.int? .i64 u5).bind fun n6 =>
    (bif (decide ((20 : Int) < n6)) then (some ((AVal.tup [(AVal.slice Sl.nil), (AVal.bool false), err_api_ErrLimit]), r2.2)) else ((Pt.field 0 (Pt.mk ⟨AHeap.next h, 0, 0⟩ (List.length x0))).bind fun p7 =>
    (AHeap.cell r2.2 p7).bind fun u8 =>
    (AVal.int? .i64 u8).bind fun n9 =>
    (bif (true && decide (0 ≤ (IntKind.wrap .i64 ((1 : Int) + n9))) && decide ((IntKind.wrap .i64 ((1 : Int) + n9)) ≤ (IntKind.wrap .i64 ((1 : Int) + n9))) && decide ((IntKind.wrap .i64 ((1 : Int) + n9)) * 1 ≤ 140737488355328) && decide ((IntKind.wrap .i64 ((1 : Int) + n9)) ≤ 140737488355328)) then ((l_slow_Sat_0 fuel d fuel [(1, (AVal.ptr (Pt.mk ⟨AHeap.next h, 0, 0⟩ (List.length x0)))), (5, (AVal.slice (Sl.mk ⟨AHeap.next r2.2, 0, 0⟩ (Int.toNat (IntKind.wrap .i64 ((1 : Int) + n9))) (eqI (IntKind.wrap .i64 ((1 : Int) + n9)) (IntKind.wrap .i64 ((1 : Int) + n9))))))] (AHeap.push r2.2 1 (repeatCells [(AVal.bool false)] (Int.toNat (IntKind.wrap .i64 ((1 : Int) + n9)))))).bind fun p10 =>
    k_slow_Sat_0 fuel d p10.1 p10.2.1 p10.2.2) else (none))))))) else (none)) := by
  generalize hh : run = R
  rw [run_is] at hh
  subst hh
  generalize hh : brun = R
  rw [brun_is] at hh
  subst hh
  generalize hh : l_slow_Sat_0 = R
  rw [l_slow_Sat_0_is] at hh
  subst hh
  generalize hh : k_slow_Sat_0 = R
  rw [k_slow_Sat_0_is] at hh
  subst hh
  kernel_rfl

theorem l_slow_Sat_0_eq (fuel d : Nat) (n : Nat) (x1 : Pt) (x5 : Sl) (h : AHeap) :
    l_slow_Sat_0 fuel d (n + 1) [(1, (AVal.ptr x1)), (5, (AVal.slice x5))] h =
  (Pt.field 1 x1).bind fun p1 =>
    (AHeap.cell h p1).bind fun u2 =>
    (AVal.slice? u2).bind fun s3 =>
    (run fuel d F_assign_Of [(AVal.slice s3), (AVal.slice x5)] h).bind fun r4 =>
    (AVal.bool? r4.1).bind fun b5 =>
    (bif b5 then (some (.ret, [(2, (AVal.slice x5)), (3, (AVal.bool true)), (4, AVal.nilif)], r4.2)) else ((run fuel d F_slow_next [(AVal.slice x5), (AVal.int .i64 (1 : Int))] r4.2).bind fun r6 =>
    (AVal.bool? r6.1).bind fun b7 =>
    (bif (!b7) then (some (.ret, [(2, (AVal.slice Sl.nil)), (3, (AVal.bool false)), (4, AVal.nilif)], r6.2)) else (l_slow_Sat_0 fuel d n [(1, (AVal.ptr x1)), (5, (AVal.slice x5))] r6.2)))) := by
  generalize hh : run = R
  rw [run_is] at hh
  subst hh
  generalize hh : l_slow_Sat_0 = R
  rw [l_slow_Sat_0_is] at hh
  subst hh
  kernel_rfl

theorem l_slow_Sat_0_0 (fuel d : Nat) (fr : Fr) (h : AHeap) :
    l_slow_Sat_0 fuel d 0 fr h =
  none := by
  generalize hh : l_slow_Sat_0 = R
  rw [l_slow_Sat_0_is] at hh
  subst hh
  kernel_rfl

theorem k_slow_Sat_0_r (fuel d : Nat) (x2 : Sl) (x3 : Bool) (x4 : AVal) (h : AHeap) :
    k_slow_Sat_0 fuel d .ret [(2, (AVal.slice x2)), (3, (AVal.bool x3)), (4, x4)] h =
  some ((AVal.tup [(AVal.slice x2), (AVal.bool x3), x4]), h) := by
  generalize hh : k_slow_Sat_0 = R
  rw [k_slow_Sat_0_is] at hh
  subst hh
  kernel_rfl

/-! 17: skolem/skolemworld.Number -/

theorem e_skolemworld_Number (fuel d : Nat) (x0 : Int) (x1 : Int) (h : AHeap) :
    brun fuel (d + 1) F_skolemworld_Number [(AVal.int .i64 x0), (AVal.int .i64 x1)] h =
  (bif decide (x1 = 0) then (none) else ((bif (decide ((Int.tmod x0 x1) < (0 : Int))) then (some ((AVal.int .i64 (IntKind.wrap .i64 ((Int.tmod x0 x1) + x1))), h)) else (some ((AVal.int .i64 (Int.tmod x0 x1)), h))))) := by
  generalize hh : brun = R
  rw [brun_is] at hh
  subst hh
  kernel_rfl

/-! 24: skolem/skolemsee.Is -/

theorem e_skolemsee_Is (fuel d : Nat) (x0 : AVal) (x1 : Int) (h : AHeap) :
    brun fuel (d + 1) F_skolemsee_Is [x0, (AVal.int .i64 x1)] h =
  (run fuel d F_skolemref_Bare [(AVal.int .i64 x1)] h).bind fun r1 =>
    (AVal.agg? r1.1).bind fun c2 =>
    (run fuel d F_skolemsee_Same [x0, (AVal.agg c2)] r1.2).bind fun r3 =>
    (AVal.bool? r3.1).bind fun b4 =>
    some ((AVal.bool b4), r3.2) := by
  generalize hh : run = R
  rw [run_is] at hh
  subst hh
  generalize hh : brun = R
  rw [brun_is] at hh
  subst hh
  kernel_rfl

/-! 27: skolem/prefix.Matrix -/

noncomputable def s_prefix_Matrix_0 (fuel d : Nat) : Run := fun fr h k => aexec (Cf fuel F_prefix_Matrix) false (acall (C fuel) false d) (acall (C fuel) true d) 81 (csub [true, true, false, true, false, false] (fbody Go.Proofs.Tryd.f27)) (asub [true, true, false, true, false, false] an27) fr h k

noncomputable def l_prefix_Matrix_0r (fuel d : Nat) (n : Nat) (fr : Fr) (h : AHeap) : Option (AExit × Fr × AHeap) := aloop (s_prefix_Matrix_0 fuel d) (some [1, 4, 20, 21, 22]) n fr h (kOut [1, 4])

noncomputable def l_prefix_Matrix_0 : Nat → Nat → Nat → Fr → AHeap → Option (AExit × Fr × AHeap) := hide l_prefix_Matrix_0r

theorem l_prefix_Matrix_0_is : l_prefix_Matrix_0 = l_prefix_Matrix_0r := hide_eq _

noncomputable def k_prefix_Matrix_0r (fuel d : Nat) : AExit → Fr → AHeap → Option (AVal × AHeap) := (kBlock 0 (kSeq (Cf fuel F_prefix_Matrix) false (acall (C fuel) false d) (acall (C fuel) true d) 81 (csub [true, true, true] (fbody Go.Proofs.Tryd.f27)) (asub [true, true, true] an27) (kRet (Cf fuel F_prefix_Matrix) Go.Proofs.Tryd.f27.results.toList)))

noncomputable def k_prefix_Matrix_0 : Nat → Nat → AExit → Fr → AHeap → Option (AVal × AHeap) := hide k_prefix_Matrix_0r

theorem k_prefix_Matrix_0_is : k_prefix_Matrix_0 = k_prefix_Matrix_0r := hide_eq _

noncomputable def s_prefix_Matrix_1 (fuel d : Nat) : Run := fun fr h k => aexec (Cf fuel F_prefix_Matrix) false (acall (C fuel) false d) (acall (C fuel) true d) 81 (csub [true, true, true, true, false, true, false, false] (fbody Go.Proofs.Tryd.f27)) (asub [true, true, true, true, false, true, false, false] an27) fr h k

noncomputable def l_prefix_Matrix_1r (fuel d : Nat) (n : Nat) (fr : Fr) (h : AHeap) : Option (AExit × Fr × AHeap) := aloop (s_prefix_Matrix_1 fuel d) (some [4, 7, 41, 42, 43]) n fr h (kOut [2, 3, 7])

noncomputable def l_prefix_Matrix_1 : Nat → Nat → Nat → Fr → AHeap → Option (AExit × Fr × AHeap) := hide l_prefix_Matrix_1r

theorem l_prefix_Matrix_1_is : l_prefix_Matrix_1 = l_prefix_Matrix_1r := hide_eq _

noncomputable def k_prefix_Matrix_1r (fuel d : Nat) : AExit → Fr → AHeap → Option (AVal × AHeap) := (kBlock 2 (kSeq (Cf fuel F_prefix_Matrix) false (acall (C fuel) false d) (acall (C fuel) true d) 81 (csub [true, true, true, true, true] (fbody Go.Proofs.Tryd.f27)) (asub [true, true, true, true, true] an27) (kRet (Cf fuel F_prefix_Matrix) Go.Proofs.Tryd.f27.results.toList)))

noncomputable def k_prefix_Matrix_1 : Nat → Nat → AExit → Fr → AHeap → Option (AVal × AHeap) := hide k_prefix_Matrix_1r

theorem k_prefix_Matrix_1_is : k_prefix_Matrix_1 = k_prefix_Matrix_1r := hide_eq _

noncomputable def s_prefix_Matrix_2 (fuel d : Nat) : Run := fun fr h k => aexec (Cf fuel F_prefix_Matrix) false (acall (C fuel) false d) (acall (C fuel) true d) 81 (csub [true, true, true, true, false, true, false, false, true, true, false, false, true, true, false, true, false, false] (fbody Go.Proofs.Tryd.f27)) (asub [true, true, true, true, false, true, false, false, true, true, false, false, true, true, false, true, false, false] an27) fr h k

noncomputable def l_prefix_Matrix_2r (fuel d : Nat) (n : Nat) (fr : Fr) (h : AHeap) : Option (AExit × Fr × AHeap) := aloop (s_prefix_Matrix_2 fuel d) (some [4, 7, 10, 41, 42, 43, 50, 51, 52]) n fr h (kOut [2, 3, 4, 7, 10, 41, 42, 43])

noncomputable def l_prefix_Matrix_2 : Nat → Nat → Nat → Fr → AHeap → Option (AExit × Fr × AHeap) := hide l_prefix_Matrix_2r

theorem l_prefix_Matrix_2_is : l_prefix_Matrix_2 = l_prefix_Matrix_2r := hide_eq _

noncomputable def k_prefix_Matrix_2r (fuel d : Nat) (n : Nat) : AExit → Fr → AHeap → Option (AExit × Fr × AHeap) := (kBlock 4 (kSeq (Cf fuel F_prefix_Matrix) false (acall (C fuel) false d) (acall (C fuel) true d) 81 (csub [true, true, true, true, false, true, false, false, true, true, false, false, true, true, true] (fbody Go.Proofs.Tryd.f27)) (asub [true, true, true, true, false, true, false, false, true, true, false, false, true, true, true] an27) (kBlock 3 (kSeq (Cf fuel F_prefix_Matrix) false (acall (C fuel) false d) (acall (C fuel) true d) 81 (csub [true, true, true, true, false, true, false, false, true, true, true] (fbody Go.Proofs.Tryd.f27)) (asub [true, true, true, true, false, true, false, false, true, true, true] an27) (kLoop (s_prefix_Matrix_1 fuel d) (some [4, 7, 41, 42, 43]) n (kOut [2, 3, 7]))))))

noncomputable def k_prefix_Matrix_2 : Nat → Nat → Nat → AExit → Fr → AHeap → Option (AExit × Fr × AHeap) := hide k_prefix_Matrix_2r

theorem k_prefix_Matrix_2_is : k_prefix_Matrix_2 = k_prefix_Matrix_2r := hide_eq _

noncomputable def k_prefix_Matrix_3r (fuel d : Nat) (n : Nat) : AExit → Fr → AHeap → Option (AExit × Fr × AHeap) := (kSeq (Cf fuel F_prefix_Matrix) false (acall (C fuel) false d) (acall (C fuel) true d) 81 (csub [true, true, true, true, false, true, false, false, true, true, false, false, true, true, false, true, false, false, true, true, false, false, true, true, true, true] (fbody Go.Proofs.Tryd.f27)) (asub [true, true, true, true, false, true, false, false, true, true, false, false, true, true, false, true, false, false, true, true, false, false, true, true, true, true] an27) (kBlock 5 (kSeq (Cf fuel F_prefix_Matrix) false (acall (C fuel) false d) (acall (C fuel) true d) 81 (csub [true, true, true, true, false, true, false, false, true, true, false, false, true, true, false, true, false, false, true, true, true] (fbody Go.Proofs.Tryd.f27)) (asub [true, true, true, true, false, true, false, false, true, true, false, false, true, true, false, true, false, false, true, true, true] an27) (kLoop (s_prefix_Matrix_2 fuel d) (some [4, 7, 10, 41, 42, 43, 50, 51, 52]) n (kOut [2, 3, 4, 7, 10, 41, 42, 43])))))

noncomputable def k_prefix_Matrix_3 : Nat → Nat → Nat → AExit → Fr → AHeap → Option (AExit × Fr × AHeap) := hide k_prefix_Matrix_3r

theorem k_prefix_Matrix_3_is : k_prefix_Matrix_3 = k_prefix_Matrix_3r := hide_eq _

theorem e_prefix_Matrix (fuel d : Nat) (x0 : List AVal) (h : AHeap) :
    brun fuel (d + 1) F_prefix_Matrix [(AVal.agg x0)] h =
  (bif (List.all x0 AVal.isCell) then ((Pt.field 1 (Pt.mk ⟨AHeap.next h, 0, 0⟩ (List.length x0))).bind fun p1 =>
    (AHeap.cell (AHeap.newMap (AHeap.push h 1 x0)) p1).bind fun u2 =>
    (AVal.slice? u2).bind fun s3 =>
    (Pt.field 2 (Pt.mk ⟨AHeap.next h, 0, 0⟩ (List.length x0))).bind fun p4 =>
    (AHeap.cell (AHeap.newMap (AHeap.push h 1 x0)) p4).bind fun u5 =>
    (AVal.slice? u5).bind fun s6 =>
    (run fuel d F_slices_Concat_s_int_int [(AVal.slice (Sl.lst 2 true [(AVal.slice s3), (AVal.slice s6)]))] (AHeap.newMap (AHeap.push h 1 x0))).bind fun r7 =>
    (AVal.slice? r7.1).bind fun s8 =>
    (l_prefix_Matrix_0 fuel d fuel [(1, (AVal.ptr (Pt.mk ⟨AHeap.next h, 0, 0⟩ (List.length x0)))), (4, (AVal.map (some (List.length (AHeap.maps (AHeap.push h 1 x0)))))), (20, (AVal.slice s8)), (21, (AVal.int .i64 ((s8.len : Nat) : Int))), (22, (AVal.int .i64 (0 : Int)))] r7.2).bind fun p9 =>
    k_prefix_Matrix_0 fuel d p9.1 p9.2.1 p9.2.2) else (none)) := by
  generalize hh : run = R
  rw [run_is] at hh
  subst hh
  generalize hh : brun = R
  rw [brun_is] at hh
  subst hh
  generalize hh : l_prefix_Matrix_0 = R
  rw [l_prefix_Matrix_0_is] at hh
  subst hh
  generalize hh : k_prefix_Matrix_0 = R
  rw [k_prefix_Matrix_0_is] at hh
  subst hh
  kernel_rfl

theorem l_prefix_Matrix_0_eq (fuel d : Nat) (n : Nat) (x1 : Pt) (x4 : Option Nat) (x20 : Sl) (x21 : Int) (x22 : Int) (h : AHeap) :
    l_prefix_Matrix_0 fuel d (n + 1) [(1, (AVal.ptr x1)), (4, (AVal.map x4)), (20, (AVal.slice x20)), (21, (AVal.int .i64 x21)), (22, (AVal.int .i64 x22))] h =
  (bif (decide (x22 < x21)) then ((AHeap.addr h 1 x20 x22).bind fun p1 =>
    (AHeap.cell h p1).bind fun u2 =>
    (AVal.int? .i64 u2).bind fun n3 =>
    (AHeap.mapOf h x4).bind fun es4 =>
    (mfind (AVal.int .i64 n3) es4).bind fun r5 =>
    (AVal.int? .i64 (mgot (AVal.int .i64 (0 : Int)) r5)).bind fun n6 =>
    (bif (decide (n6 = (0 : Int))) then ((x4).bind fun m7 =>
    ((h.maps)[m7]?).bind fun es8 =>
    (mset (AVal.int .i64 n3) (AVal.int .i64 (IntKind.wrap .i64 (x22 + (1 : Int)))) es8).bind fun es9 =>
    l_prefix_Matrix_0 fuel d n [(1, (AVal.ptr x1)), (4, (AVal.map x4)), (20, (AVal.slice x20)), (21, (AVal.int .i64 x21)), (22, (AVal.int .i64 (IntKind.wrap .i64 (x22 + (1 : Int)))))] (AHeap.setMap h m7 es9)) else (l_prefix_Matrix_0 fuel d n [(1, (AVal.ptr x1)), (4, (AVal.map x4)), (20, (AVal.slice x20)), (21, (AVal.int .i64 x21)), (22, (AVal.int .i64 (IntKind.wrap .i64 (x22 + (1 : Int)))))] h))) else (some ((.exit 0), [(1, (AVal.ptr x1)), (4, (AVal.map x4))], h))) := by
  generalize hh : l_prefix_Matrix_0 = R
  rw [l_prefix_Matrix_0_is] at hh
  subst hh
  kernel_rfl

theorem l_prefix_Matrix_0_0 (fuel d : Nat) (fr : Fr) (h : AHeap) :
    l_prefix_Matrix_0 fuel d 0 fr h =
  none := by
  generalize hh : l_prefix_Matrix_0 = R
  rw [l_prefix_Matrix_0_is] at hh
  subst hh
  kernel_rfl

theorem k_prefix_Matrix_0_x0 (fuel d : Nat) (x1 : Pt) (x4 : Option Nat) (h : AHeap) :
    k_prefix_Matrix_0 fuel d (.exit 0) [(1, (AVal.ptr x1)), (4, (AVal.map x4))] h =
  (Pt.field 3 x1).bind fun p1 =>
    (AHeap.cell h p1).bind fun u2 =>
    (AVal.slice? u2).bind fun s3 =>
    (bif (decide ((0 : Int) ≤ ((s3.len : Nat) : Int)) && decide (((s3.len : Nat) : Int) * 24 ≤ 140737488355328) && decide (((s3.len : Nat) : Int) ≤ 140737488355328)) then ((Pt.field 3 x1).bind fun p4 =>
    (AHeap.cell (AHeap.push h 1 []) p4).bind fun u5 =>
    (AVal.slice? u5).bind fun s6 =>
    (l_prefix_Matrix_1 fuel d fuel [(4, (AVal.map x4)), (7, (AVal.slice (Sl.mk ⟨AHeap.next h, 0, 0⟩ 0 (eqI (0 : Int) ((s3.len : Nat) : Int))))), (41, (AVal.slice s6)), (42, (AVal.int .i64 ((s6.len : Nat) : Int))), (43, (AVal.int .i64 (0 : Int)))] (AHeap.push h 1 [])).bind fun p7 =>
    k_prefix_Matrix_1 fuel d p7.1 p7.2.1 p7.2.2) else (none)) := by
  generalize hh : k_prefix_Matrix_0 = R
  rw [k_prefix_Matrix_0_is] at hh
  subst hh
  generalize hh : l_prefix_Matrix_1 = R
  rw [l_prefix_Matrix_1_is] at hh
  subst hh
  generalize hh : k_prefix_Matrix_1 = R
  rw [k_prefix_Matrix_1_is] at hh
  subst hh
  kernel_rfl

theorem l_prefix_Matrix_1_eq (fuel d : Nat) (n : Nat) (x4 : Option Nat) (x7 : Sl) (x41 : Sl) (x42 : Int) (x43 : Int) (h : AHeap) :
    l_prefix_Matrix_1 fuel d (n + 1) [(4, (AVal.map x4)), (7, (AVal.slice x7)), (41, (AVal.slice x41)), (42, (AVal.int .i64 x42)), (43, (AVal.int .i64 x43))] h =
  (bif (decide (x43 < x42)) then ((AHeap.addr h 1 x41 x43).bind fun p1 =>
    (AHeap.cell h p1).bind fun u2 =>
    (AVal.slice? u2).bind fun s3 =>
    (bif (decide ((0 : Int) ≤ ((s3.len : Nat) : Int)) && decide (((s3.len : Nat) : Int) * 8 ≤ 140737488355328) && decide (((s3.len : Nat) : Int) ≤ 140737488355328)) then ((l_prefix_Matrix_2 fuel d fuel [(4, (AVal.map x4)), (7, (AVal.slice x7)), (10, (AVal.slice (Sl.mk ⟨AHeap.next h, 0, 0⟩ 0 (eqI (0 : Int) ((s3.len : Nat) : Int))))), (41, (AVal.slice x41)), (42, (AVal.int .i64 x42)), (43, (AVal.int .i64 x43)), (50, (AVal.slice s3)), (51, (AVal.int .i64 ((s3.len : Nat) : Int))), (52, (AVal.int .i64 (0 : Int)))] (AHeap.push h 1 [])).bind fun p4 =>
    k_prefix_Matrix_2 fuel d n p4.1 p4.2.1 p4.2.2) else (none))) else (some ((.exit 2), [(2, AVal.bot), (3, AVal.bot), (7, (AVal.slice x7))], h))) := by
  generalize hh : l_prefix_Matrix_1 = R
  rw [l_prefix_Matrix_1_is] at hh
  subst hh
  generalize hh : l_prefix_Matrix_2 = R
  rw [l_prefix_Matrix_2_is] at hh
  subst hh
  generalize hh : k_prefix_Matrix_2 = R
  rw [k_prefix_Matrix_2_is] at hh
  subst hh
  kernel_rfl

theorem l_prefix_Matrix_1_0 (fuel d : Nat) (fr : Fr) (h : AHeap) :
    l_prefix_Matrix_1 fuel d 0 fr h =
  none := by
  generalize hh : l_prefix_Matrix_1 = R
  rw [l_prefix_Matrix_1_is] at hh
  subst hh
  kernel_rfl

theorem k_prefix_Matrix_1_x2 (fuel d : Nat) (x2 : AVal) (x3 : AVal) (x7 : Sl) (h : AHeap) :
    k_prefix_Matrix_1 fuel d (.exit 2) [(2, x2), (3, x3), (7, (AVal.slice x7))] h =
  some ((AVal.tup [(AVal.slice x7), (AVal.bool true)]), h) := by
  generalize hh : k_prefix_Matrix_1 = R
  rw [k_prefix_Matrix_1_is] at hh
  subst hh
  kernel_rfl

theorem k_prefix_Matrix_1_r (fuel d : Nat) (x2 : Sl) (x3 : Bool) (x7 : AVal) (h : AHeap) :
    k_prefix_Matrix_1 fuel d .ret [(2, (AVal.slice x2)), (3, (AVal.bool x3)), (7, x7)] h =
  some ((AVal.tup [(AVal.slice x2), (AVal.bool x3)]), h) := by
  generalize hh : k_prefix_Matrix_1 = R
  rw [k_prefix_Matrix_1_is] at hh
  subst hh
  kernel_rfl

theorem l_prefix_Matrix_2_eq (fuel d : Nat) (n : Nat) (x4 : Option Nat) (x7 : Sl) (x10 : Sl) (x41 : Sl) (x42 : Int) (x43 : Int) (x50 : Sl) (x51 : Int) (x52 : Int) (h : AHeap) :
    l_prefix_Matrix_2 fuel d (n + 1) [(4, (AVal.map x4)), (7, (AVal.slice x7)), (10, (AVal.slice x10)), (41, (AVal.slice x41)), (42, (AVal.int .i64 x42)), (43, (AVal.int .i64 x43)), (50, (AVal.slice x50)), (51, (AVal.int .i64 x51)), (52, (AVal.int .i64 x52))] h =
  (bif (decide (x52 < x51)) then ((AHeap.addr h 1 x50 x52).bind fun p1 =>
    (AHeap.cell h p1).bind fun u2 =>
    (AVal.int? .i64 u2).bind fun n3 =>
    (run fuel d F_lits_Var [(AVal.int .i64 n3)] h).bind fun r4 =>
    (AVal.int? .i64 r4.1).bind fun n5 =>
    (AHeap.mapOf r4.2 x4).bind fun es6 =>
    (mfind (AVal.int .i64 n5) es6).bind fun r7 =>
    (AVal.int? .i64 (mgot (AVal.int .i64 (0 : Int)) r7)).bind fun n8 =>
    (bif (bif (decide (n8 = (0 : Int))) then true else (decide (n3 = (0 : Int)))) then (some (.ret, [(2, (AVal.slice Sl.nil)), (3, (AVal.bool false)), (4, (AVal.map x4)), (7, (AVal.slice x7)), (10, (AVal.slice x10)), (41, (AVal.slice x41)), (42, (AVal.int .i64 x42)), (43, (AVal.int .i64 x43))], r4.2)) else (((bif (decide (n3 < (0 : Int))) then (some (.normal, [(4, (AVal.map x4)), (7, (AVal.slice x7)), (10, (AVal.slice x10)), (13, (AVal.int .i64 (IntKind.wrap .i64 (0 - n8)))), (41, (AVal.slice x41)), (42, (AVal.int .i64 x42)), (43, (AVal.int .i64 x43)), (50, (AVal.slice x50)), (51, (AVal.int .i64 x51)), (52, (AVal.int .i64 x52))], r4.2)) else (some (.normal, [(4, (AVal.map x4)), (7, (AVal.slice x7)), (10, (AVal.slice x10)), (13, (AVal.int .i64 n8)), (41, (AVal.slice x41)), (42, (AVal.int .i64 x42)), (43, (AVal.int .i64 x43)), (50, (AVal.slice x50)), (51, (AVal.int .i64 x51)), (52, (AVal.int .i64 x52))], r4.2)))).bind fun p9 =>
    k_prefix_Matrix_3 fuel d n p9.1 p9.2.1 p9.2.2))) else (some ((.exit 4), [(2, AVal.bot), (3, AVal.bot), (4, (AVal.map x4)), (7, (AVal.slice x7)), (10, (AVal.slice x10)), (41, (AVal.slice x41)), (42, (AVal.int .i64 x42)), (43, (AVal.int .i64 x43))], h))) := by
  generalize hh : run = R
  rw [run_is] at hh
  subst hh
  generalize hh : l_prefix_Matrix_2 = R
  rw [l_prefix_Matrix_2_is] at hh
  subst hh
  generalize hh : k_prefix_Matrix_3 = R
  rw [k_prefix_Matrix_3_is] at hh
  subst hh
  kernel_rfl

theorem l_prefix_Matrix_2_0 (fuel d : Nat) (fr : Fr) (h : AHeap) :
    l_prefix_Matrix_2 fuel d 0 fr h =
  none := by
  generalize hh : l_prefix_Matrix_2 = R
  rw [l_prefix_Matrix_2_is] at hh
  subst hh
  kernel_rfl

theorem k_prefix_Matrix_2_x4 (fuel d : Nat) (n : Nat) (x2 : AVal) (x3 : AVal) (x4 : Option Nat) (x7 : Sl) (x10 : Sl) (x41 : Sl) (x42 : Int) (x43 : Int) (h : AHeap) :
    k_prefix_Matrix_2 fuel d n (.exit 4) [(2, x2), (3, x3), (4, (AVal.map x4)), (7, (AVal.slice x7)), (10, (AVal.slice x10)), (41, (AVal.slice x41)), (42, (AVal.int .i64 x42)), (43, (AVal.int .i64 x43))] h =
  (AHeap.append (AHeap.fixL h [(AVal.slice x10)]).2 false 1 24 x7 1 (AHeap.fixL h [(AVal.slice x10)]).1).bind fun a1 =>
    l_prefix_Matrix_1 fuel d n [(4, (AVal.map x4)), (7, (AVal.slice a1.1)), (41, (AVal.slice x41)), (42, (AVal.int .i64 x42)), (43, (AVal.int .i64 (IntKind.wrap .i64 (x43 + (1 : Int)))))] a1.2 := by
  generalize hh : l_prefix_Matrix_1 = R
  rw [l_prefix_Matrix_1_is] at hh
  subst hh
  generalize hh : k_prefix_Matrix_2 = R
  rw [k_prefix_Matrix_2_is] at hh
  subst hh
  kernel_rfl

theorem k_prefix_Matrix_2_r (fuel d : Nat) (n : Nat) (x2 : Sl) (x3 : Bool) (x4 : AVal) (x7 : AVal) (x10 : AVal) (x41 : AVal) (x42 : AVal) (x43 : AVal) (h : AHeap) :
    k_prefix_Matrix_2 fuel d n .ret [(2, (AVal.slice x2)), (3, (AVal.bool x3)), (4, x4), (7, x7), (10, x10), (41, x41), (42, x42), (43, x43)] h =
  some (.ret, [(2, (AVal.slice x2)), (3, (AVal.bool x3)), (7, x7)], h) := by
  generalize hh : k_prefix_Matrix_2 = R
  rw [k_prefix_Matrix_2_is] at hh
  subst hh
  kernel_rfl

theorem k_prefix_Matrix_3_n (fuel d : Nat) (n : Nat) (x4 : Option Nat) (x7 : Sl) (x10 : Sl) (x13 : Int) (x41 : Sl) (x42 : Int) (x43 : Int) (x50 : Sl) (x51 : Int) (x52 : Int) (h : AHeap) :
    k_prefix_Matrix_3 fuel d n .normal [(4, (AVal.map x4)), (7, (AVal.slice x7)), (10, (AVal.slice x10)), (13, (AVal.int .i64 x13)), (41, (AVal.slice x41)), (42, (AVal.int .i64 x42)), (43, (AVal.int .i64 x43)), (50, (AVal.slice x50)), (51, (AVal.int .i64 x51)), (52, (AVal.int .i64 x52))] h =
  (AHeap.append h false 1 8 x10 1 [(AVal.int .i64 x13)]).bind fun a1 =>
    l_prefix_Matrix_2 fuel d n [(4, (AVal.map x4)), (7, (AVal.slice x7)), (10, (AVal.slice a1.1)), (41, (AVal.slice x41)), (42, (AVal.int .i64 x42)), (43, (AVal.int .i64 x43)), (50, (AVal.slice x50)), (51, (AVal.int .i64 x51)), (52, (AVal.int .i64 (IntKind.wrap .i64 (x52 + (1 : Int)))))] a1.2 := by
  generalize hh : l_prefix_Matrix_2 = R
  rw [l_prefix_Matrix_2_is] at hh
  subst hh
  generalize hh : k_prefix_Matrix_3 = R
  rw [k_prefix_Matrix_3_is] at hh
  subst hh
  kernel_rfl

/-! 28: skolem/slow.wins -/

noncomputable def s_slow_wins_0 (fuel d : Nat) : Run := fun fr h k => aexec (Cf fuel F_slow_wins) false (acall (C fuel) false d) (acall (C fuel) true d) 31 (csub [true, false, true, false, false] (fbody Go.Proofs.Tryd.f28)) (asub [true, false, true, false, false] an28) fr h k

noncomputable def l_slow_wins_0r (fuel d : Nat) (n : Nat) (fr : Fr) (h : AHeap) : Option (AExit × Fr × AHeap) := aloop (s_slow_wins_0 fuel d) (some [0, 1, 2, 3, 9]) n fr h (kOut [0, 1, 2, 3])

noncomputable def l_slow_wins_0 : Nat → Nat → Nat → Fr → AHeap → Option (AExit × Fr × AHeap) := hide l_slow_wins_0r

theorem l_slow_wins_0_is : l_slow_wins_0 = l_slow_wins_0r := hide_eq _

noncomputable def k_slow_wins_0r (fuel d : Nat) : AExit → Fr → AHeap → Option (AVal × AHeap) := (kBlock 0 (kSeq (Cf fuel F_slow_wins) false (acall (C fuel) false d) (acall (C fuel) true d) 31 (csub [true, true] (fbody Go.Proofs.Tryd.f28)) (asub [true, true] an28) (kRet (Cf fuel F_slow_wins) Go.Proofs.Tryd.f28.results.toList)))

noncomputable def k_slow_wins_0 : Nat → Nat → AExit → Fr → AHeap → Option (AVal × AHeap) := hide k_slow_wins_0r

theorem k_slow_wins_0_is : k_slow_wins_0 = k_slow_wins_0r := hide_eq _

noncomputable def s_slow_wins_1 (fuel d : Nat) : Run := fun fr h k => aexec (Cf fuel F_slow_wins) false (acall (C fuel) false d) (acall (C fuel) true d) 31 (csub [true, true, false, false] (fbody Go.Proofs.Tryd.f28)) (asub [true, true, false, false] an28) fr h k

noncomputable def l_slow_wins_1r (fuel d : Nat) (n : Nat) (fr : Fr) (h : AHeap) : Option (AExit × Fr × AHeap) := aloop (s_slow_wins_1 fuel d) (some [0, 1, 2, 3]) n fr h (kOut [8])

noncomputable def l_slow_wins_1 : Nat → Nat → Nat → Fr → AHeap → Option (AExit × Fr × AHeap) := hide l_slow_wins_1r

theorem l_slow_wins_1_is : l_slow_wins_1 = l_slow_wins_1r := hide_eq _

noncomputable def k_slow_wins_1r (fuel d : Nat) : AExit → Fr → AHeap → Option (AVal × AHeap) := (kBlock 2 (kRet (Cf fuel F_slow_wins) Go.Proofs.Tryd.f28.results.toList))

noncomputable def k_slow_wins_1 : Nat → Nat → AExit → Fr → AHeap → Option (AVal × AHeap) := hide k_slow_wins_1r

theorem k_slow_wins_1_is : k_slow_wins_1 = k_slow_wins_1r := hide_eq _

theorem e_slow_wins (fuel d : Nat) (x0 : Sl) (x1 : Sl) (x2 : Int) (x3 : Bool) (h : AHeap) :
    run fuel (d + 1) F_slow_wins [(AVal.slice x0), (AVal.slice x1), (AVal.int .i64 x2), (AVal.bool x3)] h =
  (l_slow_wins_0 fuel d fuel [(0, (AVal.slice x0)), (1, (AVal.slice x1)), (2, (AVal.int .i64 x2)), (3, (AVal.bool x3)), (9, (AVal.int .i64 (IntKind.wrap .i64 ((1 : Int) + x2))))] h).bind fun p1 =>
    k_slow_wins_0 fuel d p1.1 p1.2.1 p1.2.2 := by
  generalize hh : run = R
  rw [run_is] at hh
  subst hh
  generalize hh : l_slow_wins_0 = R
  rw [l_slow_wins_0_is] at hh
  subst hh
  generalize hh : k_slow_wins_0 = R
  rw [k_slow_wins_0_is] at hh
  subst hh
  kernel_rfl

theorem l_slow_wins_0_eq (fuel d : Nat) (n : Nat) (x0 : Sl) (x1 : Sl) (x2 : Int) (x3 : Bool) (x9 : Int) (h : AHeap) :
    l_slow_wins_0 fuel d (n + 1) [(0, (AVal.slice x0)), (1, (AVal.slice x1)), (2, (AVal.int .i64 x2)), (3, (AVal.bool x3)), (9, (AVal.int .i64 x9))] h =
  (bif (decide (x9 < ((x1.len : Nat) : Int))) then ((AHeap.addr h 1 x1 x9).bind fun p1 =>
    (AHeap.storeAt h [(AVal.bool false)] p1).bind fun h2 =>
    l_slow_wins_0 fuel d n [(0, (AVal.slice x0)), (1, (AVal.slice x1)), (2, (AVal.int .i64 x2)), (3, (AVal.bool x3)), (9, (AVal.int .i64 (IntKind.wrap .i64 (x9 + (1 : Int)))))] h2) else (some ((.exit 0), [(0, (AVal.slice x0)), (1, (AVal.slice x1)), (2, (AVal.int .i64 x2)), (3, (AVal.bool x3))], h))) := by
  generalize hh : l_slow_wins_0 = R
  rw [l_slow_wins_0_is] at hh
  subst hh
  kernel_rfl

theorem l_slow_wins_0_0 (fuel d : Nat) (fr : Fr) (h : AHeap) :
    l_slow_wins_0 fuel d 0 fr h =
  none := by
  generalize hh : l_slow_wins_0 = R
  rw [l_slow_wins_0_is] at hh
  subst hh
  kernel_rfl

theorem k_slow_wins_0_x0 (fuel d : Nat) (x0 : Sl) (x1 : Sl) (x2 : Int) (x3 : Bool) (h : AHeap) :
    k_slow_wins_0 fuel d (.exit 0) [(0, (AVal.slice x0)), (1, (AVal.slice x1)), (2, (AVal.int .i64 x2)), (3, (AVal.bool x3))] h =
  (l_slow_wins_1 fuel d fuel [(0, (AVal.slice x0)), (1, (AVal.slice x1)), (2, (AVal.int .i64 x2)), (3, (AVal.bool x3))] h).bind fun p1 =>
    k_slow_wins_1 fuel d p1.1 p1.2.1 p1.2.2 := by
  generalize hh : k_slow_wins_0 = R
  rw [k_slow_wins_0_is] at hh
  subst hh
  generalize hh : l_slow_wins_1 = R
  rw [l_slow_wins_1_is] at hh
  subst hh
  generalize hh : k_slow_wins_1 = R
  rw [k_slow_wins_1_is] at hh
  subst hh
  kernel_rfl

theorem l_slow_wins_1_eq (fuel d : Nat) (n : Nat) (x0 : Sl) (x1 : Sl) (x2 : Int) (x3 : Bool) (h : AHeap) :
    l_slow_wins_1 fuel d (n + 1) [(0, (AVal.slice x0)), (1, (AVal.slice x1)), (2, (AVal.int .i64 x2)), (3, (AVal.bool x3))] h =
  (run fuel d F_assign_Of [(AVal.slice x0), (AVal.slice x1)] h).bind fun r1 =>
    (AVal.bool? r1.1).bind fun b2 =>
    (bif (!(b2 == x3)) then (some (.ret, [(8, (AVal.bool false))], r1.2)) else ((run fuel d F_slow_next [(AVal.slice x1), (AVal.int .i64 (IntKind.wrap .i64 ((1 : Int) + x2)))] r1.2).bind fun r3 =>
    (AVal.bool? r3.1).bind fun b4 =>
    (bif (!b4) then (some (.ret, [(8, (AVal.bool true))], r3.2)) else (l_slow_wins_1 fuel d n [(0, (AVal.slice x0)), (1, (AVal.slice x1)), (2, (AVal.int .i64 x2)), (3, (AVal.bool x3))] r3.2)))) := by
  generalize hh : run = R
  rw [run_is] at hh
  subst hh
  generalize hh : l_slow_wins_1 = R
  rw [l_slow_wins_1_is] at hh
  subst hh
  kernel_rfl

theorem l_slow_wins_1_0 (fuel d : Nat) (fr : Fr) (h : AHeap) :
    l_slow_wins_1 fuel d 0 fr h =
  none := by
  generalize hh : l_slow_wins_1 = R
  rw [l_slow_wins_1_is] at hh
  subst hh
  kernel_rfl

theorem k_slow_wins_1_r (fuel d : Nat) (x8 : Bool) (h : AHeap) :
    k_slow_wins_1 fuel d .ret [(8, (AVal.bool x8))] h =
  some ((AVal.bool x8), h) := by
  generalize hh : k_slow_wins_1 = R
  rw [k_slow_wins_1_is] at hh
  subst hh
  kernel_rfl

/-! 29: skolem/slow.next -/

noncomputable def s_slow_next_0 (fuel d : Nat) : Run := fun fr h k => aexec (Cf fuel F_slow_next) false (acall (C fuel) false d) (acall (C fuel) true d) 25 (csub [true, false, true, false, false] (fbody Go.Proofs.Tryd.f29)) (asub [true, false, true, false, false] an29) fr h k

noncomputable def l_slow_next_0r (fuel d : Nat) (n : Nat) (fr : Fr) (h : AHeap) : Option (AExit × Fr × AHeap) := aloop (s_slow_next_0 fuel d) (some [0, 5]) n fr h (kOut [4])

noncomputable def l_slow_next_0 : Nat → Nat → Nat → Fr → AHeap → Option (AExit × Fr × AHeap) := hide l_slow_next_0r

theorem l_slow_next_0_is : l_slow_next_0 = l_slow_next_0r := hide_eq _

noncomputable def k_slow_next_0r (fuel d : Nat) : AExit → Fr → AHeap → Option (AVal × AHeap) := (kBlock 0 (kSeq (Cf fuel F_slow_next) false (acall (C fuel) false d) (acall (C fuel) true d) 25 (csub [true, true] (fbody Go.Proofs.Tryd.f29)) (asub [true, true] an29) (kRet (Cf fuel F_slow_next) Go.Proofs.Tryd.f29.results.toList)))

noncomputable def k_slow_next_0 : Nat → Nat → AExit → Fr → AHeap → Option (AVal × AHeap) := hide k_slow_next_0r

theorem k_slow_next_0_is : k_slow_next_0 = k_slow_next_0r := hide_eq _

theorem e_slow_next (fuel d : Nat) (x0 : Sl) (x1 : Int) (h : AHeap) :
    run fuel (d + 1) F_slow_next [(AVal.slice x0), (AVal.int .i64 x1)] h =
  (l_slow_next_0 fuel d fuel [(0, (AVal.slice x0)), (5, (AVal.int .i64 x1))] h).bind fun p1 =>
    k_slow_next_0 fuel d p1.1 p1.2.1 p1.2.2 := by
  generalize hh : run = R
  rw [run_is] at hh
  subst hh
  generalize hh : l_slow_next_0 = R
  rw [l_slow_next_0_is] at hh
  subst hh
  generalize hh : k_slow_next_0 = R
  rw [k_slow_next_0_is] at hh
  subst hh
  kernel_rfl

theorem l_slow_next_0_eq (fuel d : Nat) (n : Nat) (x0 : Sl) (x5 : Int) (h : AHeap) :
    l_slow_next_0 fuel d (n + 1) [(0, (AVal.slice x0)), (5, (AVal.int .i64 x5))] h =
  (bif (decide (x5 < ((x0.len : Nat) : Int))) then ((AHeap.addr h 1 x0 x5).bind fun p1 =>
    (AHeap.cell h p1).bind fun u2 =>
    (AVal.bool? u2).bind fun b3 =>
    (AHeap.addr h 1 x0 x5).bind fun p4 =>
    (AHeap.storeAt h [(AVal.bool (!b3))] p4).bind fun h5 =>
    (AHeap.addr h5 1 x0 x5).bind fun p6 =>
    (AHeap.cell h5 p6).bind fun u7 =>
    (AVal.bool? u7).bind fun b8 =>
    (bif b8 then (some (.ret, [(4, (AVal.bool true))], h5)) else (l_slow_next_0 fuel d n [(0, (AVal.slice x0)), (5, (AVal.int .i64 (IntKind.wrap .i64 (x5 + (1 : Int)))))] h5))) else (some ((.exit 0), [(4, AVal.bot)], h))) := by
  generalize hh : l_slow_next_0 = R
  rw [l_slow_next_0_is] at hh
  subst hh
  kernel_rfl

theorem l_slow_next_0_0 (fuel d : Nat) (fr : Fr) (h : AHeap) :
    l_slow_next_0 fuel d 0 fr h =
  none := by
  generalize hh : l_slow_next_0 = R
  rw [l_slow_next_0_is] at hh
  subst hh
  kernel_rfl

theorem k_slow_next_0_x0 (fuel d : Nat) (x4 : AVal) (h : AHeap) :
    k_slow_next_0 fuel d (.exit 0) [(4, x4)] h =
  some ((AVal.bool false), h) := by
  generalize hh : k_slow_next_0 = R
  rw [k_slow_next_0_is] at hh
  subst hh
  kernel_rfl

theorem k_slow_next_0_r (fuel d : Nat) (x4 : Bool) (h : AHeap) :
    k_slow_next_0 fuel d .ret [(4, (AVal.bool x4))] h =
  some ((AVal.bool x4), h) := by
  generalize hh : k_slow_next_0 = R
  rw [k_slow_next_0_is] at hh
  subst hh
  kernel_rfl

/-! 30: skolem/lits.Check -/

noncomputable def s_lits_Check_0 (fuel d : Nat) : Run := fun fr h k => aexec (Cf fuel F_lits_Check) false (acall (C fuel) false d) (acall (C fuel) true d) 56 (csub [true, true, false, true, false, false] (fbody Go.Proofs.Tryd.f30)) (asub [true, true, false, true, false, false] an30) fr h k

noncomputable def l_lits_Check_0r (fuel d : Nat) (n : Nat) (fr : Fr) (h : AHeap) : Option (AExit × Fr × AHeap) := aloop (s_lits_Check_0 fuel d) (some [1, 3, 9, 10, 11]) n fr h (kOut [1, 3])

noncomputable def l_lits_Check_0 : Nat → Nat → Nat → Fr → AHeap → Option (AExit × Fr × AHeap) := hide l_lits_Check_0r

theorem l_lits_Check_0_is : l_lits_Check_0 = l_lits_Check_0r := hide_eq _

noncomputable def k_lits_Check_0r (fuel d : Nat) : AExit → Fr → AHeap → Option (AVal × AHeap) := (kBlock 0 (kSeq (Cf fuel F_lits_Check) false (acall (C fuel) false d) (acall (C fuel) true d) 56 (csub [true, true, true] (fbody Go.Proofs.Tryd.f30)) (asub [true, true, true] an30) (kRet (Cf fuel F_lits_Check) Go.Proofs.Tryd.f30.results.toList)))

noncomputable def k_lits_Check_0 : Nat → Nat → AExit → Fr → AHeap → Option (AVal × AHeap) := hide k_lits_Check_0r

theorem k_lits_Check_0_is : k_lits_Check_0 = k_lits_Check_0r := hide_eq _

noncomputable def s_lits_Check_1 (fuel d : Nat) : Run := fun fr h k => aexec (Cf fuel F_lits_Check) false (acall (C fuel) false d) (acall (C fuel) true d) 56 (csub [true, true, true, true, false, true, false, false] (fbody Go.Proofs.Tryd.f30)) (asub [true, true, true, true, false, true, false, false] an30) fr h k

noncomputable def l_lits_Check_1r (fuel d : Nat) (n : Nat) (fr : Fr) (h : AHeap) : Option (AExit × Fr × AHeap) := aloop (s_lits_Check_1 fuel d) (some [1, 40, 41, 42]) n fr h (kOut [2])

noncomputable def l_lits_Check_1 : Nat → Nat → Nat → Fr → AHeap → Option (AExit × Fr × AHeap) := hide l_lits_Check_1r

theorem l_lits_Check_1_is : l_lits_Check_1 = l_lits_Check_1r := hide_eq _

noncomputable def k_lits_Check_1r (fuel d : Nat) : AExit → Fr → AHeap → Option (AVal × AHeap) := (kBlock 2 (kSeq (Cf fuel F_lits_Check) false (acall (C fuel) false d) (acall (C fuel) true d) 56 (csub [true, true, true, true, true] (fbody Go.Proofs.Tryd.f30)) (asub [true, true, true, true, true] an30) (kRet (Cf fuel F_lits_Check) Go.Proofs.Tryd.f30.results.toList)))

noncomputable def k_lits_Check_1 : Nat → Nat → AExit → Fr → AHeap → Option (AVal × AHeap) := hide k_lits_Check_1r

theorem k_lits_Check_1_is : k_lits_Check_1 = k_lits_Check_1r := hide_eq _

theorem e_lits_Check (fuel d : Nat) (x0 : List AVal) (h : AHeap) :
    brun fuel (d + 1) F_lits_Check [(AVal.agg x0)] h =
  (bif (List.all x0 AVal.isCell) then ((Pt.field 1 (Pt.mk ⟨AHeap.next h, 0, 0⟩ (List.length x0))).bind fun p1 =>
    (AHeap.cell (AHeap.push h 1 x0) p1).bind fun u2 =>
    (AVal.slice? u2).bind fun s3 =>
    (l_lits_Check_0 fuel d fuel [(1, (AVal.ptr (Pt.mk ⟨AHeap.next h, 0, 0⟩ (List.length x0)))), (3, (AVal.int .i64 (0 : Int))), (9, (AVal.slice s3)), (10, (AVal.int .i64 ((s3.len : Nat) : Int))), (11, (AVal.int .i64 (0 : Int)))] (AHeap.push h 1 x0)).bind fun p4 =>
    k_lits_Check_0 fuel d p4.1 p4.2.1 p4.2.2) else (none)) := by
  generalize hh : brun = R
  rw [brun_is] at hh
  subst hh
  generalize hh : l_lits_Check_0 = R
  rw [l_lits_Check_0_is] at hh
  subst hh
  generalize hh : k_lits_Check_0 = R
  rw [k_lits_Check_0_is] at hh
  subst hh
  kernel_rfl

theorem l_lits_Check_0_eq (fuel d : Nat) (n : Nat) (x1 : Pt) (x3 : Int) (x9 : Sl) (x10 : Int) (x11 : Int) (h : AHeap) :
    l_lits_Check_0 fuel d (n + 1) [(1, (AVal.ptr x1)), (3, (AVal.int .i64 x3)), (9, (AVal.slice x9)), (10, (AVal.int .i64 x10)), (11, (AVal.int .i64 x11))] h =
  (bif (decide (x11 < x10)) then ((AHeap.addr h 1 x9 x11).bind fun p1 =>
    (AHeap.cell h p1).bind fun u2 =>
    (AVal.slice? u2).bind fun s3 =>
    l_lits_Check_0 fuel d n [(1, (AVal.ptr x1)), (3, (AVal.int .i64 (IntKind.wrap .i64 (x3 + ((s3.len : Nat) : Int))))), (9, (AVal.slice x9)), (10, (AVal.int .i64 x10)), (11, (AVal.int .i64 (IntKind.wrap .i64 (x11 + (1 : Int)))))] h) else (some ((.exit 0), [(1, (AVal.ptr x1)), (3, (AVal.int .i64 x3))], h))) := by
  generalize hh : l_lits_Check_0 = R
  rw [l_lits_Check_0_is] at hh
  subst hh
  kernel_rfl

theorem l_lits_Check_0_0 (fuel d : Nat) (fr : Fr) (h : AHeap) :
    l_lits_Check_0 fuel d 0 fr h =
  none := by
  generalize hh : l_lits_Check_0 = R
  rw [l_lits_Check_0_is] at hh
  subst hh
  kernel_rfl

theorem k_lits_Check_0_x0 (fuel d : Nat) (x1 : Pt) (x3 : Int) (h : AHeap) :
    k_lits_Check_0 fuel d (.exit 0) [(1, (AVal.ptr x1)), (3, (AVal.int .i64 x3))] h =
  (Pt.field 0 x1).bind fun p1 =>
    (AHeap.cell h p1).bind fun u2 =>
    (AVal.int? .i64 u2).bind fun n3 =>
    ((bif ((decide (n3 < (0 : Int))) == false) then ((Pt.field 0 x1).bind fun p4 =>
    (AHeap.cell h p4).bind fun u5 =>
    (AVal.int? .i64 u5).bind fun n6 =>
    some ((AVal.bool (decide ((4000 : Int) < n6))), h)) else (some ((AVal.bool true), h)) : Option (AVal × AHeap))).bind fun r7 =>
    (AVal.bool? r7.1).bind fun b8 =>
    ((bif (b8 == false) then ((Pt.field 1 x1).bind fun p9 =>
    (AHeap.cell r7.2 p9).bind fun u10 =>
    (AVal.slice? u10).bind fun s11 =>
    some ((AVal.bool (decide ((20000 : Int) < ((s11.len : Nat) : Int)))), r7.2)) else (some ((AVal.bool true), r7.2)) : Option (AVal × AHeap))).bind fun r12 =>
    (AVal.bool? r12.1).bind fun b13 =>
    (bif (bif b13 then true else (decide ((80000 : Int) < x3))) then (some (err_api_ErrLimit, r12.2)) else ((Pt.field 1 x1).bind fun p14 =>
    (AHeap.cell r12.2 p14).bind fun u15 =>
    (AVal.slice? u15).bind fun s16 =>
    (l_lits_Check_1 fuel d fuel [(1, (AVal.ptr x1)), (40, (AVal.slice s16)), (41, (AVal.int .i64 ((s16.len : Nat) : Int))), (42, (AVal.int .i64 (0 : Int)))] r12.2).bind fun p17 =>
    k_lits_Check_1 fuel d p17.1 p17.2.1 p17.2.2)) := by
  generalize hh : k_lits_Check_0 = R
  rw [k_lits_Check_0_is] at hh
  subst hh
  generalize hh : l_lits_Check_1 = R
  rw [l_lits_Check_1_is] at hh
  subst hh
  generalize hh : k_lits_Check_1 = R
  rw [k_lits_Check_1_is] at hh
  subst hh
  kernel_rfl

theorem l_lits_Check_1_eq (fuel d : Nat) (n : Nat) (x1 : Pt) (x40 : Sl) (x41 : Int) (x42 : Int) (h : AHeap) :
    l_lits_Check_1 fuel d (n + 1) [(1, (AVal.ptr x1)), (40, (AVal.slice x40)), (41, (AVal.int .i64 x41)), (42, (AVal.int .i64 x42))] h =
  (bif (decide (x42 < x41)) then ((AHeap.addr h 1 x40 x42).bind fun p1 =>
    (AHeap.cell h p1).bind fun u2 =>
    (AVal.slice? u2).bind fun s3 =>
    (run fuel d F_slices_ContainsFunc_s_int_int [(AVal.slice s3), (AVal.func F_lits_Check_1 [x1])] h).bind fun r4 =>
    (AVal.bool? r4.1).bind fun b5 =>
    (bif b5 then (((bif (Nat.beq (List.length (AVal.cells err_api_ErrRange)) 1 && Nat.ble (1 + 1) (List.length [(AVal.int .i64 x42), AVal.nilif]) && List.all (AVal.cells err_api_ErrRange) AVal.isCell) then ((some (AHeap.overlay [(AVal.int .i64 x42), AVal.nilif] 1 (AVal.cells err_api_ErrRange)))) else (none))).bind fun c6 =>
    (bif (List.all c6 AVal.isCell) then (some (.ret, [(2, (AVal.iface T_p_api_At (AVal.ptr (Pt.mk ⟨AHeap.next r4.2, 0, 0⟩ (List.length c6)))))], (AHeap.push r4.2 1 c6))) else (none))) else (l_lits_Check_1 fuel d n [(1, (AVal.ptr x1)), (40, (AVal.slice x40)), (41, (AVal.int .i64 x41)), (42, (AVal.int .i64 (IntKind.wrap .i64 (x42 + (1 : Int)))))] r4.2))) else (some ((.exit 2), [(2, AVal.bot)], h))) := by
  generalize hh : run = R
  rw [run_is] at hh
  subst hh
  generalize hh : l_lits_Check_1 = R
  rw [l_lits_Check_1_is] at hh
  subst hh
  kernel_rfl

theorem l_lits_Check_1_0 (fuel d : Nat) (fr : Fr) (h : AHeap) :
    l_lits_Check_1 fuel d 0 fr h =
  none := by
  generalize hh : l_lits_Check_1 = R
  rw [l_lits_Check_1_is] at hh
  subst hh
  kernel_rfl

theorem k_lits_Check_1_x2 (fuel d : Nat) (x2 : AVal) (h : AHeap) :
    k_lits_Check_1 fuel d (.exit 2) [(2, x2)] h =
  some (AVal.nilif, h) := by
  generalize hh : k_lits_Check_1 = R
  rw [k_lits_Check_1_is] at hh
  subst hh
  kernel_rfl

theorem k_lits_Check_1_r (fuel d : Nat) (x2 : AVal) (h : AHeap) :
    k_lits_Check_1 fuel d .ret [(2, x2)] h =
  some (x2, h) := by
  generalize hh : k_lits_Check_1 = R
  rw [k_lits_Check_1_is] at hh
  subst hh
  kernel_rfl

/-! 31: skolem/assign.Of -/

noncomputable def s_assign_Of_0 (fuel d : Nat) : Run := fun fr h k => aexec (Cf fuel F_assign_Of) false (acall (C fuel) false d) (acall (C fuel) true d) 32 (csub [true, false, true, false, false] (fbody Go.Proofs.Tryd.f31)) (asub [true, false, true, false, false] an31) fr h k

noncomputable def l_assign_Of_0r (fuel d : Nat) (n : Nat) (fr : Fr) (h : AHeap) : Option (AExit × Fr × AHeap) := aloop (s_assign_Of_0 fuel d) (some [1, 10, 11, 12]) n fr h (kOut [4])

noncomputable def l_assign_Of_0 : Nat → Nat → Nat → Fr → AHeap → Option (AExit × Fr × AHeap) := hide l_assign_Of_0r

theorem l_assign_Of_0_is : l_assign_Of_0 = l_assign_Of_0r := hide_eq _

noncomputable def k_assign_Of_0r (fuel d : Nat) : AExit → Fr → AHeap → Option (AVal × AHeap) := (kBlock 0 (kSeq (Cf fuel F_assign_Of) false (acall (C fuel) false d) (acall (C fuel) true d) 32 (csub [true, true] (fbody Go.Proofs.Tryd.f31)) (asub [true, true] an31) (kRet (Cf fuel F_assign_Of) Go.Proofs.Tryd.f31.results.toList)))

noncomputable def k_assign_Of_0 : Nat → Nat → AExit → Fr → AHeap → Option (AVal × AHeap) := hide k_assign_Of_0r

theorem k_assign_Of_0_is : k_assign_Of_0 = k_assign_Of_0r := hide_eq _

noncomputable def s_assign_Of_1 (fuel d : Nat) : Run := fun fr h k => aexec (Cf fuel F_assign_Of) false (acall (C fuel) false d) (acall (C fuel) true d) 32 (csub [true, false, true, false, false, true, true, false, false, true, true, false, true, false, false] (fbody Go.Proofs.Tryd.f31)) (asub [true, false, true, false, false, true, true, false, false, true, true, false, true, false, false] an31) fr h k

noncomputable def l_assign_Of_1r (fuel d : Nat) (n : Nat) (fr : Fr) (h : AHeap) : Option (AExit × Fr × AHeap) := aloop (s_assign_Of_1 fuel d) (some [1, 7, 10, 11, 12, 16, 17, 18]) n fr h (kOut [1, 7, 10, 11, 12])

noncomputable def l_assign_Of_1 : Nat → Nat → Nat → Fr → AHeap → Option (AExit × Fr × AHeap) := hide l_assign_Of_1r

theorem l_assign_Of_1_is : l_assign_Of_1 = l_assign_Of_1r := hide_eq _

noncomputable def k_assign_Of_1r (fuel d : Nat) (n : Nat) : AExit → Fr → AHeap → Option (AExit × Fr × AHeap) := (kBlock 2 (kSeq (Cf fuel F_assign_Of) false (acall (C fuel) false d) (acall (C fuel) true d) 32 (csub [true, false, true, false, false, true, true, false, false, true, true, true] (fbody Go.Proofs.Tryd.f31)) (asub [true, false, true, false, false, true, true, false, false, true, true, true] an31) (kBlock 1 (kSeq (Cf fuel F_assign_Of) false (acall (C fuel) false d) (acall (C fuel) true d) 32 (csub [true, false, true, false, false, true, true, true] (fbody Go.Proofs.Tryd.f31)) (asub [true, false, true, false, false, true, true, true] an31) (kLoop (s_assign_Of_0 fuel d) (some [1, 10, 11, 12]) n (kOut [4]))))))

noncomputable def k_assign_Of_1 : Nat → Nat → Nat → AExit → Fr → AHeap → Option (AExit × Fr × AHeap) := hide k_assign_Of_1r

theorem k_assign_Of_1_is : k_assign_Of_1 = k_assign_Of_1r := hide_eq _

theorem e_assign_Of (fuel d : Nat) (x0 : Sl) (x1 : Sl) (h : AHeap) :
    brun fuel (d + 1) F_assign_Of [(AVal.slice x0), (AVal.slice x1)] h =
  (l_assign_Of_0 fuel d fuel [(1, (AVal.slice x1)), (10, (AVal.slice x0)), (11, (AVal.int .i64 ((x0.len : Nat) : Int))), (12, (AVal.int .i64 (0 : Int)))] h).bind fun p1 =>
    k_assign_Of_0 fuel d p1.1 p1.2.1 p1.2.2 := by
  generalize hh : brun = R
  rw [brun_is] at hh
  subst hh
  generalize hh : l_assign_Of_0 = R
  rw [l_assign_Of_0_is] at hh
  subst hh
  generalize hh : k_assign_Of_0 = R
  rw [k_assign_Of_0_is] at hh
  subst hh
  kernel_rfl

theorem l_assign_Of_0_eq (fuel d : Nat) (n : Nat) (x1 : Sl) (x10 : Sl) (x11 : Int) (x12 : Int) (h : AHeap) :
    l_assign_Of_0 fuel d (n + 1) [(1, (AVal.slice x1)), (10, (AVal.slice x10)), (11, (AVal.int .i64 x11)), (12, (AVal.int .i64 x12))] h =
  (bif (decide (x12 < x11)) then ((AHeap.addr h 1 x10 x12).bind fun p1 =>
    (AHeap.cell h p1).bind fun u2 =>
    (AVal.slice? u2).bind fun s3 =>
    (l_assign_Of_1 fuel d fuel [(1, (AVal.slice x1)), (7, (AVal.bool false)), (10, (AVal.slice x10)), (11, (AVal.int .i64 x11)), (12, (AVal.int .i64 x12)), (16, (AVal.slice s3)), (17, (AVal.int .i64 ((s3.len : Nat) : Int))), (18, (AVal.int .i64 (0 : Int)))] h).bind fun p4 =>
    k_assign_Of_1 fuel d n p4.1 p4.2.1 p4.2.2) else (some ((.exit 0), [(4, AVal.bot)], h))) := by
  generalize hh : l_assign_Of_0 = R
  rw [l_assign_Of_0_is] at hh
  subst hh
  generalize hh : l_assign_Of_1 = R
  rw [l_assign_Of_1_is] at hh
  subst hh
  generalize hh : k_assign_Of_1 = R
  rw [k_assign_Of_1_is] at hh
  subst hh
  kernel_rfl

theorem l_assign_Of_0_0 (fuel d : Nat) (fr : Fr) (h : AHeap) :
    l_assign_Of_0 fuel d 0 fr h =
  none := by
  generalize hh : l_assign_Of_0 = R
  rw [l_assign_Of_0_is] at hh
  subst hh
  kernel_rfl

theorem k_assign_Of_0_x0 (fuel d : Nat) (x4 : AVal) (h : AHeap) :
    k_assign_Of_0 fuel d (.exit 0) [(4, x4)] h =
  some ((AVal.bool true), h) := by
  generalize hh : k_assign_Of_0 = R
  rw [k_assign_Of_0_is] at hh
  subst hh
  kernel_rfl

theorem k_assign_Of_0_r (fuel d : Nat) (x4 : Bool) (h : AHeap) :
    k_assign_Of_0 fuel d .ret [(4, (AVal.bool x4))] h =
  some ((AVal.bool x4), h) := by
  generalize hh : k_assign_Of_0 = R
  rw [k_assign_Of_0_is] at hh
  subst hh
  kernel_rfl

theorem l_assign_Of_1_eq (fuel d : Nat) (n : Nat) (x1 : Sl) (x7 : Bool) (x10 : Sl) (x11 : Int) (x12 : Int) (x16 : Sl) (x17 : Int) (x18 : Int) (h : AHeap) :
    l_assign_Of_1 fuel d (n + 1) [(1, (AVal.slice x1)), (7, (AVal.bool x7)), (10, (AVal.slice x10)), (11, (AVal.int .i64 x11)), (12, (AVal.int .i64 x12)), (16, (AVal.slice x16)), (17, (AVal.int .i64 x17)), (18, (AVal.int .i64 x18))] h =
  (bif (decide (x18 < x17)) then ((AHeap.addr h 1 x16 x18).bind fun p1 =>
    (AHeap.cell h p1).bind fun u2 =>
    (AVal.int? .i64 u2).bind fun n3 =>
    ((bif (x7 == false) then ((run fuel d F_assign_holds [(AVal.int .i64 n3), (AVal.slice x1)] h).bind fun r4 =>
    (AVal.bool? r4.1).bind fun b5 =>
    some ((AVal.bool b5), r4.2)) else (some ((AVal.bool true), h)) : Option (AVal × AHeap))).bind fun r6 =>
    (AVal.bool? r6.1).bind fun b7 =>
    l_assign_Of_1 fuel d n [(1, (AVal.slice x1)), (7, (AVal.bool b7)), (10, (AVal.slice x10)), (11, (AVal.int .i64 x11)), (12, (AVal.int .i64 x12)), (16, (AVal.slice x16)), (17, (AVal.int .i64 x17)), (18, (AVal.int .i64 (IntKind.wrap .i64 (x18 + (1 : Int)))))] r6.2) else (some ((.exit 2), [(1, (AVal.slice x1)), (7, (AVal.bool x7)), (10, (AVal.slice x10)), (11, (AVal.int .i64 x11)), (12, (AVal.int .i64 x12))], h))) := by
  generalize hh : run = R
  rw [run_is] at hh
  subst hh
  generalize hh : l_assign_Of_1 = R
  rw [l_assign_Of_1_is] at hh
  subst hh
  kernel_rfl

theorem l_assign_Of_1_0 (fuel d : Nat) (fr : Fr) (h : AHeap) :
    l_assign_Of_1 fuel d 0 fr h =
  none := by
  generalize hh : l_assign_Of_1 = R
  rw [l_assign_Of_1_is] at hh
  subst hh
  kernel_rfl

theorem k_assign_Of_1_x2 (fuel d : Nat) (n : Nat) (x1 : Sl) (x7 : Bool) (x10 : Sl) (x11 : Int) (x12 : Int) (h : AHeap) :
    k_assign_Of_1 fuel d n (.exit 2) [(1, (AVal.slice x1)), (7, (AVal.bool x7)), (10, (AVal.slice x10)), (11, (AVal.int .i64 x11)), (12, (AVal.int .i64 x12))] h =
  (bif (!x7) then (some (.ret, [(4, (AVal.bool false))], h)) else (l_assign_Of_0 fuel d n [(1, (AVal.slice x1)), (10, (AVal.slice x10)), (11, (AVal.int .i64 x11)), (12, (AVal.int .i64 (IntKind.wrap .i64 (x12 + (1 : Int)))))] h)) := by
  generalize hh : l_assign_Of_0 = R
  rw [l_assign_Of_0_is] at hh
  subst hh
  generalize hh : k_assign_Of_1 = R
  rw [k_assign_Of_1_is] at hh
  subst hh
  kernel_rfl

/-! 34: skolem/skolemsee.Same -/

theorem e_skolemsee_Same (fuel d : Nat) (x0 : AVal) (x1 : List AVal) (h : AHeap) :
    brun fuel (d + 1) F_skolemsee_Same [x0, (AVal.agg x1)] h =
  (bif (List.all x1 AVal.isCell) then ((run fuel d F_skolemsee_Fault [x0] (AHeap.push h 1 x1)).bind fun r1 =>
    (AVal.agg? r1.1).bind fun c2 =>
    (AHeap.cellsAt r1.2 3 (Pt.mk ⟨AHeap.next h, 0, 0⟩ (List.length x1))).bind fun c3 =>
    same ((AHeap.cellsAt (AHeap.push h 1 x1) 3 (Pt.mk ⟨AHeap.next h, 0, 0⟩ (List.length x1))).bind fun c6 =>
    some ((AVal.agg c6), (AHeap.push h 1 x1))) ((AVal.agg c3), (AHeap.push h 1 x1)) (
    (run fuel d F_skolemref_SameFault [(AVal.agg c2), (AVal.agg c3)] r1.2).bind fun r4 =>
    (AVal.bool? r4.1).bind fun b5 =>
    some ((AVal.bool b5), r4.2))) else (none)) := by
  generalize hh : run = R
  rw [run_is] at hh
  subst hh
  generalize hh : brun = R
  rw [brun_is] at hh
  subst hh
  kernel_rfl

/-! 35: skolem/skolemref.Bare -/

theorem e_skolemref_Bare (fuel d : Nat) (x0 : Int) (h : AHeap) :
    brun fuel (d + 1) F_skolemref_Bare [(AVal.int .i64 x0)] h =
  (AHeap.storeAt (AHeap.push h 1 [(AVal.int .i64 (0 : Int)), (AVal.bool false), (AVal.int .i64 (0 : Int))]) [(AVal.int .i64 x0), (AVal.bool false), (AVal.int .i64 (0 : Int))] (Pt.mk ⟨AHeap.next h, 0, 0⟩ 3)).bind fun h1 =>
    ((AHeap.cellsAt h1 3 (Pt.mk ⟨AHeap.next h, 0, 0⟩ 3)).bind fun c2 =>
    some ((AVal.agg c2)) : Option AVal).map fun v => (v, h1) := by
  generalize hh : brun = R
  rw [brun_is] at hh
  subst hh
  kernel_rfl

/-! 38: slices.Concat[[]int,int] -/

noncomputable def s_slices_Concat_s_int_int_0 (fuel d : Nat) : Run := fun fr h k => aexec (Cf fuel F_slices_Concat_s_int_int) false (acall (C fuel) false d) (acall (C fuel) true d) 36 (csub [true, true, false, true, false, false] (fbody Go.Proofs.Tryd.f38)) (asub [true, true, false, true, false, false] an38) fr h k

noncomputable def l_slices_Concat_s_int_int_0r (fuel d : Nat) (n : Nat) (fr : Fr) (h : AHeap) : Option (AExit × Fr × AHeap) := aloop (s_slices_Concat_s_int_int_0 fuel d) (some [0, 3, 9, 10, 11]) n fr h (kOut [0, 3])

noncomputable def l_slices_Concat_s_int_int_0 : Nat → Nat → Nat → Fr → AHeap → Option (AExit × Fr × AHeap) := hide l_slices_Concat_s_int_int_0r

theorem l_slices_Concat_s_int_int_0_is : l_slices_Concat_s_int_int_0 = l_slices_Concat_s_int_int_0r := hide_eq _

noncomputable def k_slices_Concat_s_int_int_0r (fuel d : Nat) : AExit → Fr → AHeap → Option (AVal × AHeap) := (kBlock 0 (kSeq (Cf fuel F_slices_Concat_s_int_int) false (acall (C fuel) false d) (acall (C fuel) true d) 36 (csub [true, true, true] (fbody Go.Proofs.Tryd.f38)) (asub [true, true, true] an38) (kRet (Cf fuel F_slices_Concat_s_int_int) Go.Proofs.Tryd.f38.results.toList)))

noncomputable def k_slices_Concat_s_int_int_0 : Nat → Nat → AExit → Fr → AHeap → Option (AVal × AHeap) := hide k_slices_Concat_s_int_int_0r

theorem k_slices_Concat_s_int_int_0_is : k_slices_Concat_s_int_int_0 = k_slices_Concat_s_int_int_0r := hide_eq _

noncomputable def s_slices_Concat_s_int_int_1 (fuel d : Nat) : Run := fun fr h k => aexec (Cf fuel F_slices_Concat_s_int_int) false (acall (C fuel) false d) (acall (C fuel) true d) 36 (csub [true, true, true, true, false, true, false, false] (fbody Go.Proofs.Tryd.f38)) (asub [true, true, true, true, false, true, false, false] an38) fr h k

noncomputable def l_slices_Concat_s_int_int_1r (fuel d : Nat) (n : Nat) (fr : Fr) (h : AHeap) : Option (AExit × Fr × AHeap) := aloop (s_slices_Concat_s_int_int_1 fuel d) (some [6, 25, 26, 27]) n fr h (kOut [6])

noncomputable def l_slices_Concat_s_int_int_1 : Nat → Nat → Nat → Fr → AHeap → Option (AExit × Fr × AHeap) := hide l_slices_Concat_s_int_int_1r

theorem l_slices_Concat_s_int_int_1_is : l_slices_Concat_s_int_int_1 = l_slices_Concat_s_int_int_1r := hide_eq _

noncomputable def k_slices_Concat_s_int_int_1r (fuel d : Nat) : AExit → Fr → AHeap → Option (AVal × AHeap) := (kBlock 2 (kSeq (Cf fuel F_slices_Concat_s_int_int) false (acall (C fuel) false d) (acall (C fuel) true d) 36 (csub [true, true, true, true, true] (fbody Go.Proofs.Tryd.f38)) (asub [true, true, true, true, true] an38) (kRet (Cf fuel F_slices_Concat_s_int_int) Go.Proofs.Tryd.f38.results.toList)))

noncomputable def k_slices_Concat_s_int_int_1 : Nat → Nat → AExit → Fr → AHeap → Option (AVal × AHeap) := hide k_slices_Concat_s_int_int_1r

theorem k_slices_Concat_s_int_int_1_is : k_slices_Concat_s_int_int_1 = k_slices_Concat_s_int_int_1r := hide_eq _

theorem e_slices_Concat_s_int_int (fuel d : Nat) (x0 : Sl) (h : AHeap) :
    brun fuel (d + 1) F_slices_Concat_s_int_int [(AVal.slice x0)] h =
  (l_slices_Concat_s_int_int_0 fuel d fuel [(0, (AVal.slice x0)), (3, (AVal.int .i64 (0 : Int))), (9, (AVal.slice x0)), (10, (AVal.int .i64 ((x0.len : Nat) : Int))), (11, (AVal.int .i64 (0 : Int)))] h).bind fun p1 =>
    k_slices_Concat_s_int_int_0 fuel d p1.1 p1.2.1 p1.2.2 := by
  generalize hh : brun = R
  rw [brun_is] at hh
  subst hh
  generalize hh : l_slices_Concat_s_int_int_0 = R
  rw [l_slices_Concat_s_int_int_0_is] at hh
  subst hh
  generalize hh : k_slices_Concat_s_int_int_0 = R
  rw [k_slices_Concat_s_int_int_0_is] at hh
  subst hh
  kernel_rfl

theorem l_slices_Concat_s_int_int_0_eq (fuel d : Nat) (n : Nat) (x0 : Sl) (x3 : Int) (x9 : Sl) (x10 : Int) (x11 : Int) (h : AHeap) :
    l_slices_Concat_s_int_int_0 fuel d (n + 1) [(0, (AVal.slice x0)), (3, (AVal.int .i64 x3)), (9, (AVal.slice x9)), (10, (AVal.int .i64 x10)), (11, (AVal.int .i64 x11))] h =
  (bif (decide (x11 < x10)) then ((AHeap.addr h 1 x9 x11).bind fun p1 =>
    (AHeap.cell h p1).bind fun u2 =>
    (AVal.slice? u2).bind fun s3 =>
    (bif (decide ((IntKind.wrap .i64 (x3 + ((s3.len : Nat) : Int))) < (0 : Int))) then (none) else (l_slices_Concat_s_int_int_0 fuel d n [(0, (AVal.slice x0)), (3, (AVal.int .i64 (IntKind.wrap .i64 (x3 + ((s3.len : Nat) : Int))))), (9, (AVal.slice x9)), (10, (AVal.int .i64 x10)), (11, (AVal.int .i64 (IntKind.wrap .i64 (x11 + (1 : Int)))))] h))) else (some ((.exit 0), [(0, (AVal.slice x0)), (3, (AVal.int .i64 x3))], h))) := by
  generalize hh : l_slices_Concat_s_int_int_0 = R
  rw [l_slices_Concat_s_int_int_0_is] at hh
  subst hh
  kernel_rfl

theorem l_slices_Concat_s_int_int_0_0 (fuel d : Nat) (fr : Fr) (h : AHeap) :
    l_slices_Concat_s_int_int_0 fuel d 0 fr h =
  none := by
  generalize hh : l_slices_Concat_s_int_int_0 = R
  rw [l_slices_Concat_s_int_int_0_is] at hh
  subst hh
  kernel_rfl

theorem k_slices_Concat_s_int_int_0_x0 (fuel d : Nat) (x0 : Sl) (x3 : Int) (h : AHeap) :
    k_slices_Concat_s_int_int_0 fuel d (.exit 0) [(0, (AVal.slice x0)), (3, (AVal.int .i64 x3))] h =
  (run fuel d F_slices_Grow_s_int_int [(AVal.slice Sl.nil), (AVal.int .i64 x3)] h).bind fun r1 =>
    (AVal.slice? r1.1).bind fun s2 =>
    (l_slices_Concat_s_int_int_1 fuel d fuel [(6, (AVal.slice s2)), (25, (AVal.slice x0)), (26, (AVal.int .i64 ((x0.len : Nat) : Int))), (27, (AVal.int .i64 (0 : Int)))] r1.2).bind fun p3 =>
    k_slices_Concat_s_int_int_1 fuel d p3.1 p3.2.1 p3.2.2 := by
  generalize hh : run = R
  rw [run_is] at hh
  subst hh
  generalize hh : k_slices_Concat_s_int_int_0 = R
  rw [k_slices_Concat_s_int_int_0_is] at hh
  subst hh
  generalize hh : l_slices_Concat_s_int_int_1 = R
  rw [l_slices_Concat_s_int_int_1_is] at hh
  subst hh
  generalize hh : k_slices_Concat_s_int_int_1 = R
  rw [k_slices_Concat_s_int_int_1_is] at hh
  subst hh
  kernel_rfl

theorem l_slices_Concat_s_int_int_1_eq (fuel d : Nat) (n : Nat) (x6 : Sl) (x25 : Sl) (x26 : Int) (x27 : Int) (h : AHeap) :
    l_slices_Concat_s_int_int_1 fuel d (n + 1) [(6, (AVal.slice x6)), (25, (AVal.slice x25)), (26, (AVal.int .i64 x26)), (27, (AVal.int .i64 x27))] h =
  (bif (decide (x27 < x26)) then ((AHeap.addr h 1 x25 x27).bind fun p1 =>
    (AHeap.cell h p1).bind fun u2 =>
    (AVal.slice? u2).bind fun s3 =>
    (AHeap.sliceCells h 1 s3).bind fun xs4 =>
    (AHeap.append h false 1 8 x6 s3.len xs4).bind fun a5 =>
    l_slices_Concat_s_int_int_1 fuel d n [(6, (AVal.slice a5.1)), (25, (AVal.slice x25)), (26, (AVal.int .i64 x26)), (27, (AVal.int .i64 (IntKind.wrap .i64 (x27 + (1 : Int)))))] a5.2) else (some ((.exit 2), [(6, (AVal.slice x6))], h))) := by
  generalize hh : l_slices_Concat_s_int_int_1 = R
  rw [l_slices_Concat_s_int_int_1_is] at hh
  subst hh
  kernel_rfl

theorem l_slices_Concat_s_int_int_1_0 (fuel d : Nat) (fr : Fr) (h : AHeap) :
    l_slices_Concat_s_int_int_1 fuel d 0 fr h =
  none := by
  generalize hh : l_slices_Concat_s_int_int_1 = R
  rw [l_slices_Concat_s_int_int_1_is] at hh
  subst hh
  kernel_rfl

theorem k_slices_Concat_s_int_int_1_x2 (fuel d : Nat) (x6 : Sl) (h : AHeap) :
    k_slices_Concat_s_int_int_1 fuel d (.exit 2) [(6, (AVal.slice x6))] h =
  some ((AVal.slice x6), h) := by
  generalize hh : k_slices_Concat_s_int_int_1 = R
  rw [k_slices_Concat_s_int_int_1_is] at hh
  subst hh
  kernel_rfl

/-! 39: skolem/lits.Var -/

theorem e_lits_Var (fuel d : Nat) (x0 : Int) (h : AHeap) :
    brun fuel (d + 1) F_lits_Var [(AVal.int .i64 x0)] h =
  some ((AVal.int .i64 (bif decide (x0 < (IntKind.wrap .i64 (0 - x0))) then (IntKind.wrap .i64 (0 - x0)) else x0)), h) := by
  generalize hh : brun = R
  rw [brun_is] at hh
  subst hh
  kernel_rfl

/-! 40: slices.ContainsFunc[[]int,int] -/

theorem e_slices_ContainsFunc_s_int_int (fuel d : Nat) (x0 : Sl) (x1f : Nat) (x1c : List Pt) (h : AHeap) :
    brun fuel (d + 1) F_slices_ContainsFunc_s_int_int [(AVal.slice x0), (AVal.func x1f x1c)] h =
  (run fuel d F_slices_IndexFunc_s_int_int [(AVal.slice x0), (AVal.func x1f x1c)] h).bind fun r1 =>
    (AVal.int? .i64 r1.1).bind fun n2 =>
    some ((AVal.bool (decide ((0 : Int) ≤ n2))), r1.2) := by
  generalize hh : run = R
  rw [run_is] at hh
  subst hh
  generalize hh : brun = R
  rw [brun_is] at hh
  subst hh
  kernel_rfl

/-! 41: skolem/lits.Check$1 -/

theorem e_lits_Check_1 (fuel d : Nat) (x0 : Int) (x1 : Pt) (h : AHeap) :
    brun fuel (d + 1) F_lits_Check_1 [(AVal.int .i64 x0), (AVal.ptr x1)] h =
  (Pt.field 0 x1).bind fun p1 =>
    (AHeap.cell h p1).bind fun u2 =>
    (AVal.int? .i64 u2).bind fun n3 =>
    (run fuel d F_lits_Is [(AVal.int .i64 x0), (AVal.int .i64 n3)] h).bind fun r4 =>
    (AVal.bool? r4.1).bind fun b5 =>
    some ((AVal.bool (!b5)), r4.2) := by
  generalize hh : run = R
  rw [run_is] at hh
  subst hh
  generalize hh : brun = R
  rw [brun_is] at hh
  subst hh
  kernel_rfl

/-! 42: skolem/lits.Is -/

theorem e_lits_Is (fuel d : Nat) (x0 : Int) (x1 : Int) (h : AHeap) :
    brun fuel (d + 1) F_lits_Is [(AVal.int .i64 x0), (AVal.int .i64 x1)] h =
  some ((AVal.bool (bif (bif (!decide (x0 = (0 : Int))) then (decide ((IntKind.wrap .i64 (0 - x1)) ≤ x0)) else false) then (decide (x0 ≤ x1)) else false)), h) := by
  generalize hh : brun = R
  rw [brun_is] at hh
  subst hh
  kernel_rfl

/-! 43: skolem/assign.holds -/

theorem e_assign_holds (fuel d : Nat) (x0 : Int) (x1 : Sl) (h : AHeap) :
    brun fuel (d + 1) F_assign_holds [(AVal.int .i64 x0), (AVal.slice x1)] h =
  (run fuel d F_lits_Var [(AVal.int .i64 x0)] h).bind fun r1 =>
    (AVal.int? .i64 r1.1).bind fun n2 =>
    ((bif ((bif (decide ((0 : Int) < n2)) then (decide (n2 < ((x1.len : Nat) : Int))) else false) == true) then ((AHeap.addr r1.2 1 x1 n2).bind fun p3 =>
    (AHeap.cell r1.2 p3).bind fun u4 =>
    (AVal.bool? u4).bind fun b5 =>
    some ((AVal.bool (b5 == (decide ((0 : Int) < x0)))), r1.2)) else (some ((AVal.bool false), r1.2)) : Option (AVal × AHeap))).bind fun r6 =>
    (AVal.bool? r6.1).bind fun b7 =>
    some ((AVal.bool b7), r6.2) := by
  generalize hh : run = R
  rw [run_is] at hh
  subst hh
  generalize hh : brun = R
  rw [brun_is] at hh
  subst hh
  kernel_rfl

/-! 46: skolem/skolemref.SameFault -/

theorem e_skolemref_SameFault (fuel d : Nat) (x0 : List AVal) (x1 : List AVal) (h : AHeap) :
    brun fuel (d + 1) F_skolemref_SameFault [(AVal.agg x0), (AVal.agg x1)] h =
  (bif (List.all x0 AVal.isCell) then ((bif (List.all x1 AVal.isCell) then ((Pt.field 0 (Pt.mk ⟨AHeap.next h, 0, 0⟩ (List.length x0))).bind fun p1 =>
    (AHeap.cell (AHeap.push (AHeap.push h 1 x0) 1 x1) p1).bind fun u2 =>
    (AVal.int? .i64 u2).bind fun n3 =>
    (Pt.field 0 (Pt.mk ⟨AHeap.next (AHeap.push h 1 x0), 0, 0⟩ (List.length x1))).bind fun p4 =>
    (AHeap.cell (AHeap.push (AHeap.push h 1 x0) 1 x1) p4).bind fun u5 =>
    (AVal.int? .i64 u5).bind fun n6 =>
    ((bif ((decide (n3 = n6)) == true) then ((Pt.field 1 (Pt.mk ⟨AHeap.next h, 0, 0⟩ (List.length x0))).bind fun p7 =>
    (AHeap.cell (AHeap.push (AHeap.push h 1 x0) 1 x1) p7).bind fun u8 =>
    (AVal.bool? u8).bind fun b9 =>
    (Pt.field 1 (Pt.mk ⟨AHeap.next (AHeap.push h 1 x0), 0, 0⟩ (List.length x1))).bind fun p10 =>
    (AHeap.cell (AHeap.push (AHeap.push h 1 x0) 1 x1) p10).bind fun u11 =>
    (AVal.bool? u11).bind fun b12 =>
    some ((AVal.bool (b9 == b12)), (AHeap.push (AHeap.push h 1 x0) 1 x1))) else (some ((AVal.bool false), (AHeap.push (AHeap.push h 1 x0) 1 x1))) : Option (AVal × AHeap))).bind fun r13 =>
    (AVal.bool? r13.1).bind fun b14 =>
    ((bif (b14 == true) then ((Pt.field 2 (Pt.mk ⟨AHeap.next h, 0, 0⟩ (List.length x0))).bind fun p15 =>
    (AHeap.cell r13.2 p15).bind fun u16 =>
    (AVal.int? .i64 u16).bind fun n17 =>
    (Pt.field 2 (Pt.mk ⟨AHeap.next (AHeap.push h 1 x0), 0, 0⟩ (List.length x1))).bind fun p18 =>
    (AHeap.cell r13.2 p18).bind fun u19 =>
    (AVal.int? .i64 u19).bind fun n20 =>
    some ((AVal.bool (decide (n17 = n20))), r13.2)) else (some ((AVal.bool false), r13.2)) : Option (AVal × AHeap))).bind fun r21 =>
    (AVal.bool? r21.1).bind fun b22 =>
    some ((AVal.bool b22), r21.2)) else (none))) else (none)) := by
  generalize hh : brun = R
  rw [brun_is] at hh
  subst hh
  kernel_rfl

/-! 47: skolem/skolemsee.Fault -/

theorem e_skolemsee_Fault (fuel d : Nat) (x0 : AVal) (h : AHeap) :
    brun fuel (d + 1) F_skolemsee_Fault [x0] h =
  (nilTest .iface x0).bind fun b1 =>
    (bif (b1) then ((run fuel d F_skolemref_None [] (AHeap.push h 1 [(AVal.int .i64 (0 : Int)), (AVal.bool false), (AVal.int .i64 (0 : Int))])).bind fun r2 =>
    (AVal.agg? r2.1).bind fun c3 =>
    (bif (!false && Nat.beq (List.length c3) 3 && List.all c3 AVal.isCell) then ((AHeap.storeAt r2.2 c3 (Pt.mk ⟨AHeap.next h, 0, 0⟩ 3)).bind fun h4 =>
    ((AHeap.cellsAt h4 3 (Pt.mk ⟨AHeap.next h, 0, 0⟩ 3)).bind fun c5 =>
    some ((AVal.agg c5)) : Option AVal).map fun v => (v, h4)) else (none))) else ((tassert T_p_api_At x0).bind fun t6 =>
    (bif (!(Option.isSome t6)) then ((run fuel d F_skolemsee_sentinel [x0] (AHeap.push h 1 [(AVal.int .i64 (0 : Int)), (AVal.bool false), (AVal.int .i64 (0 : Int))])).bind fun r7 =>
    (AVal.int? .i64 r7.1).bind fun n8 =>
    (run fuel d F_skolemref_Bare [(AVal.int .i64 n8)] r7.2).bind fun r9 =>
    (AVal.agg? r9.1).bind fun c10 =>
    (bif (!false && Nat.beq (List.length c10) 3 && List.all c10 AVal.isCell) then ((AHeap.storeAt r9.2 c10 (Pt.mk ⟨AHeap.next h, 0, 0⟩ 3)).bind fun h11 =>
    ((AHeap.cellsAt h11 3 (Pt.mk ⟨AHeap.next h, 0, 0⟩ 3)).bind fun c12 =>
    some ((AVal.agg c12)) : Option AVal).map fun v => (v, h11)) else (none))) else ((nilTest .ptr (AVal.ptr (Option.getD t6 Pt.nil))).bind fun b13 =>
    ((bif ((b13) == false) then ((Pt.chk (Option.getD t6 Pt.nil)).bind fun p14 =>
    (Pt.field 1 p14).bind fun p15 =>
    (AHeap.cell (AHeap.push h 1 [(AVal.int .i64 (0 : Int)), (AVal.bool false), (AVal.int .i64 (0 : Int))]) p15).bind fun u16 =>
    (nilTest .iface u16).bind fun b17 =>
    some ((AVal.bool (b17)), (AHeap.push h 1 [(AVal.int .i64 (0 : Int)), (AVal.bool false), (AVal.int .i64 (0 : Int))]))) else (some ((AVal.bool true), (AHeap.push h 1 [(AVal.int .i64 (0 : Int)), (AVal.bool false), (AVal.int .i64 (0 : Int))]))) : Option (AVal × AHeap))).bind fun r18 =>
    (AVal.bool? r18.1).bind fun b19 =>
    (bif b19 then ((run fuel d F_skolemref_Bare [(AVal.int .i64 (-1 : Int))] r18.2).bind fun r20 =>
    (AVal.agg? r20.1).bind fun c21 =>
    (bif (!false && Nat.beq (List.length c21) 3 && List.all c21 AVal.isCell) then ((AHeap.storeAt r20.2 c21 (Pt.mk ⟨AHeap.next h, 0, 0⟩ 3)).bind fun h22 =>
    ((AHeap.cellsAt h22 3 (Pt.mk ⟨AHeap.next h, 0, 0⟩ 3)).bind fun c23 =>
    some ((AVal.agg c23)) : Option AVal).map fun v => (v, h22)) else (none))) else ((Pt.chk (Option.getD t6 Pt.nil)).bind fun p24 =>
    (Pt.field 1 p24).bind fun p25 =>
    (AHeap.cell r18.2 p25).bind fun u26 =>
    (run fuel d F_skolemsee_sentinel [u26] r18.2).bind fun r27 =>
    (AVal.int? .i64 r27.1).bind fun n28 =>
    (Pt.chk (Option.getD t6 Pt.nil)).bind fun p29 =>
    (Pt.field 0 p29).bind fun p30 =>
    (AHeap.cell r27.2 p30).bind fun u31 =>
    (AVal.int? .i64 u31).bind fun n32 =>
    same ((AHeap.cell r18.2 p30).bind fun u37 =>
    (AVal.int? .i64 u37).bind fun n38 =>
    some ((AVal.int .i64 n38), r18.2)) ((AVal.int .i64 n32), r18.2) (
    (run fuel d F_skolemref_Placed [(AVal.int .i64 n28), (AVal.int .i64 n32)] r27.2).bind fun r33 =>
    (AVal.agg? r33.1).bind fun c34 =>
    (bif (!false && Nat.beq (List.length c34) 3 && List.all c34 AVal.isCell) then ((AHeap.storeAt r33.2 c34 (Pt.mk ⟨AHeap.next h, 0, 0⟩ 3)).bind fun h35 =>
    ((AHeap.cellsAt h35 3 (Pt.mk ⟨AHeap.next h, 0, 0⟩ 3)).bind fun c36 =>
    some ((AVal.agg c36)) : Option AVal).map fun v => (v, h35)) else (none))))))))) := by
  generalize hh : run = R
  rw [run_is] at hh
  subst hh
  generalize hh : brun = R
  rw [brun_is] at hh
  subst hh
  kernel_rfl

/-! 52: slices.Grow[[]int,int] -/

noncomputable def k_slices_Grow_s_int_int_0r (fuel d : Nat) : AExit → Fr → AHeap → Option (AVal × AHeap) := (kSeq (Cf fuel F_slices_Grow_s_int_int) false (acall (C fuel) false d) (acall (C fuel) true d) 27 (csub [true, true] (fbody Go.Proofs.Tryd.f52)) (asub [true, true] an52) (kRet (Cf fuel F_slices_Grow_s_int_int) Go.Proofs.Tryd.f52.results.toList))

noncomputable def k_slices_Grow_s_int_int_0 : Nat → Nat → AExit → Fr → AHeap → Option (AVal × AHeap) := hide k_slices_Grow_s_int_int_0r

theorem k_slices_Grow_s_int_int_0_is : k_slices_Grow_s_int_int_0 = k_slices_Grow_s_int_int_0r := hide_eq _

theorem e_slices_Grow_s_int_int (fuel d : Nat) (x0 : Sl) (x1 : Int) (h : AHeap) :
    run fuel (d + 1) F_slices_Grow_s_int_int [(AVal.slice x0), (AVal.int .i64 x1)] h =
  ((bif (decide (x1 < (0 : Int))) then (none) else (some (.normal, [(0, (AVal.slice x0)), (1, (AVal.int .i64 x1))], h)))).bind fun p1 =>
    k_slices_Grow_s_int_int_0 fuel d p1.1 p1.2.1 p1.2.2 := by
  generalize hh : run = R
  rw [run_is] at hh
  subst hh
  generalize hh : k_slices_Grow_s_int_int_0 = R
  rw [k_slices_Grow_s_int_int_0_is] at hh
  subst hh
  kernel_rfl

theorem k_slices_Grow_s_int_int_0_n (fuel d : Nat) (x0 : Sl) (x1 : Int) (h : AHeap) :
    k_slices_Grow_s_int_int_0 fuel d .normal [(0, (AVal.slice x0)), (1, (AVal.int .i64 x1))] h =
  (Sl.capOf x0).bind fun n1 =>
    (bif (decide ((0 : Int) < (IntKind.wrap .i64 (x1 - (IntKind.wrap .i64 (((n1 : Nat) : Int) - ((x0.len : Nat) : Int))))))) then ((Sl.capOf x0).bind fun n2 =>
    (aHi (some (AVal.int .i64 ((n2 : Nat) : Int))) (Sl.len x0)).bind fun hi3 =>
    (aLo (none : Option AVal) hi3).bind fun lo4 =>
    (aMx (none : Option AVal) hi3).bind fun cl5 =>
    (bif (AHeap.hasSz h 1 x0) then ((bif (decide (0 ≤ (IntKind.wrap .i64 (x1 - (IntKind.wrap .i64 (((n1 : Nat) : Int) - ((x0.len : Nat) : Int)))))) && decide ((IntKind.wrap .i64 (x1 - (IntKind.wrap .i64 (((n1 : Nat) : Int) - ((x0.len : Nat) : Int))))) ≤ 140737488355328) && decide ((IntKind.wrap .i64 (x1 - (IntKind.wrap .i64 (((n1 : Nat) : Int) - ((x0.len : Nat) : Int))))) * 8 ≤ 140737488355328)) then ((AHeap.append h false 1 8 (Sl.cut x0 1 lo4 hi3 cl5) (Int.toNat (IntKind.wrap .i64 (x1 - (IntKind.wrap .i64 (((n1 : Nat) : Int) - ((x0.len : Nat) : Int)))))) (repeatCells [(AVal.int .i64 (0 : Int))] (Int.toNat (IntKind.wrap .i64 (x1 - (IntKind.wrap .i64 (((n1 : Nat) : Int) - ((x0.len : Nat) : Int)))))))).bind fun a6 =>
    (aHi (some (AVal.int .i64 ((x0.len : Nat) : Int))) (Sl.len a6.1)).bind fun hi7 =>
    (aLo (none : Option AVal) hi7).bind fun lo8 =>
    (aMx (none : Option AVal) hi7).bind fun cl9 =>
    (bif (AHeap.hasSz a6.2 1 a6.1) then (some ((AVal.slice (Sl.cut a6.1 1 lo8 hi7 cl9)), a6.2)) else (none))) else (none))) else (none))) else (some ((AVal.slice x0), h))) := by
  generalize hh : k_slices_Grow_s_int_int_0 = R
  rw [k_slices_Grow_s_int_int_0_is] at hh
  subst hh
  kernel_rfl

/-! 53: slices.IndexFunc[[]int,int] -/

noncomputable def s_slices_IndexFunc_s_int_int_0 (fuel d : Nat) : Run := fun fr h k => aexec (Cf fuel F_slices_IndexFunc_s_int_int) false (acall (C fuel) false d) (acall (C fuel) true d) 19 (csub [true, false, true, false, false] (fbody Go.Proofs.Tryd.f53)) (asub [true, false, true, false, false] an53) fr h k

noncomputable def l_slices_IndexFunc_s_int_int_0r (fuel d : Nat) (n : Nat) (fr : Fr) (h : AHeap) : Option (AExit × Fr × AHeap) := aloop (s_slices_IndexFunc_s_int_int_0 fuel d) (some [0, 1, 7, 8]) n fr h (kOut [4])

noncomputable def l_slices_IndexFunc_s_int_int_0 : Nat → Nat → Nat → Fr → AHeap → Option (AExit × Fr × AHeap) := hide l_slices_IndexFunc_s_int_int_0r

theorem l_slices_IndexFunc_s_int_int_0_is : l_slices_IndexFunc_s_int_int_0 = l_slices_IndexFunc_s_int_int_0r := hide_eq _

noncomputable def k_slices_IndexFunc_s_int_int_0r (fuel d : Nat) : AExit → Fr → AHeap → Option (AVal × AHeap) := (kBlock 0 (kSeq (Cf fuel F_slices_IndexFunc_s_int_int) false (acall (C fuel) false d) (acall (C fuel) true d) 19 (csub [true, true] (fbody Go.Proofs.Tryd.f53)) (asub [true, true] an53) (kRet (Cf fuel F_slices_IndexFunc_s_int_int) Go.Proofs.Tryd.f53.results.toList)))

noncomputable def k_slices_IndexFunc_s_int_int_0 : Nat → Nat → AExit → Fr → AHeap → Option (AVal × AHeap) := hide k_slices_IndexFunc_s_int_int_0r

theorem k_slices_IndexFunc_s_int_int_0_is : k_slices_IndexFunc_s_int_int_0 = k_slices_IndexFunc_s_int_int_0r := hide_eq _

theorem e_slices_IndexFunc_s_int_int (fuel d : Nat) (x0 : Sl) (x1f : Nat) (x1c : List Pt) (h : AHeap) :
    brun fuel (d + 1) F_slices_IndexFunc_s_int_int [(AVal.slice x0), (AVal.func x1f x1c)] h =
  (l_slices_IndexFunc_s_int_int_0 fuel d fuel [(0, (AVal.slice x0)), (1, (AVal.func x1f x1c)), (7, (AVal.int .i64 ((x0.len : Nat) : Int))), (8, (AVal.int .i64 (0 : Int)))] h).bind fun p1 =>
    k_slices_IndexFunc_s_int_int_0 fuel d p1.1 p1.2.1 p1.2.2 := by
  generalize hh : brun = R
  rw [brun_is] at hh
  subst hh
  generalize hh : l_slices_IndexFunc_s_int_int_0 = R
  rw [l_slices_IndexFunc_s_int_int_0_is] at hh
  subst hh
  generalize hh : k_slices_IndexFunc_s_int_int_0 = R
  rw [k_slices_IndexFunc_s_int_int_0_is] at hh
  subst hh
  kernel_rfl

theorem l_slices_IndexFunc_s_int_int_0_eq (fuel d : Nat) (n : Nat) (x0 : Sl) (x1f : Nat) (x1c : List Pt) (x7 : Int) (x8 : Int) (h : AHeap) :
    l_slices_IndexFunc_s_int_int_0 fuel d (n + 1) [(0, (AVal.slice x0)), (1, (AVal.func x1f x1c)), (7, (AVal.int .i64 x7)), (8, (AVal.int .i64 x8))] h =
  (bif (decide (x8 < x7)) then ((AHeap.addr h 1 x0 x8).bind fun p1 =>
    (AHeap.cell h p1).bind fun u2 =>
    (AVal.int? .i64 u2).bind fun n3 =>
    (run fuel d x1f ([(AVal.int .i64 n3)] ++ List.map AVal.ptr x1c) h).bind fun r4 =>
    (AVal.bool? r4.1).bind fun b5 =>
    (bif b5 then (some (.ret, [(4, (AVal.int .i64 x8))], r4.2)) else (l_slices_IndexFunc_s_int_int_0 fuel d n [(0, (AVal.slice x0)), (1, (AVal.func x1f x1c)), (7, (AVal.int .i64 x7)), (8, (AVal.int .i64 (IntKind.wrap .i64 (x8 + (1 : Int)))))] r4.2))) else (some ((.exit 0), [(4, AVal.bot)], h))) := by
  generalize hh : run = R
  rw [run_is] at hh
  subst hh
  generalize hh : l_slices_IndexFunc_s_int_int_0 = R
  rw [l_slices_IndexFunc_s_int_int_0_is] at hh
  subst hh
  kernel_rfl

theorem l_slices_IndexFunc_s_int_int_0_0 (fuel d : Nat) (fr : Fr) (h : AHeap) :
    l_slices_IndexFunc_s_int_int_0 fuel d 0 fr h =
  none := by
  generalize hh : l_slices_IndexFunc_s_int_int_0 = R
  rw [l_slices_IndexFunc_s_int_int_0_is] at hh
  subst hh
  kernel_rfl

theorem k_slices_IndexFunc_s_int_int_0_x0 (fuel d : Nat) (x4 : AVal) (h : AHeap) :
    k_slices_IndexFunc_s_int_int_0 fuel d (.exit 0) [(4, x4)] h =
  some ((AVal.int .i64 (-1 : Int)), h) := by
  generalize hh : k_slices_IndexFunc_s_int_int_0 = R
  rw [k_slices_IndexFunc_s_int_int_0_is] at hh
  subst hh
  kernel_rfl

theorem k_slices_IndexFunc_s_int_int_0_r (fuel d : Nat) (x4 : Int) (h : AHeap) :
    k_slices_IndexFunc_s_int_int_0 fuel d .ret [(4, (AVal.int .i64 x4))] h =
  some ((AVal.int .i64 x4), h) := by
  generalize hh : k_slices_IndexFunc_s_int_int_0 = R
  rw [k_slices_IndexFunc_s_int_int_0_is] at hh
  subst hh
  kernel_rfl

/-! 54: skolem/skolemref.None -/

theorem e_skolemref_None (fuel d : Nat)  (h : AHeap) :
    brun fuel (d + 1) F_skolemref_None [] h =
  (AHeap.storeAt (AHeap.push h 1 [(AVal.int .i64 (0 : Int)), (AVal.bool false), (AVal.int .i64 (0 : Int))]) [(AVal.int .i64 (0 : Int)), (AVal.bool false), (AVal.int .i64 (0 : Int))] (Pt.mk ⟨AHeap.next h, 0, 0⟩ 3)).bind fun h1 =>
    ((AHeap.cellsAt h1 3 (Pt.mk ⟨AHeap.next h, 0, 0⟩ 3)).bind fun c2 =>
    some ((AVal.agg c2)) : Option AVal).map fun v => (v, h1) := by
  generalize hh : brun = R
  rw [brun_is] at hh
  subst hh
  kernel_rfl

/-! 55: skolem/skolemsee.sentinel -/

noncomputable def s_skolemsee_sentinel_0 (fuel d : Nat) : Run := fun fr h k => aexec (Cf fuel F_skolemsee_sentinel) false (acall (C fuel) false d) (acall (C fuel) true d) 20 (csub [true, true, false, true, false, false] (fbody Go.Proofs.Tryd.f55)) (asub [true, true, false, true, false, false] an55) fr h k

noncomputable def l_skolemsee_sentinel_0r (fuel d : Nat) (n : Nat) (fr : Fr) (h : AHeap) : Option (AExit × Fr × AHeap) := aloop (s_skolemsee_sentinel_0 fuel d) (some [0, 3, 4]) n fr h (kOut [2])

noncomputable def l_skolemsee_sentinel_0 : Nat → Nat → Nat → Fr → AHeap → Option (AExit × Fr × AHeap) := hide l_skolemsee_sentinel_0r

theorem l_skolemsee_sentinel_0_is : l_skolemsee_sentinel_0 = l_skolemsee_sentinel_0r := hide_eq _

noncomputable def k_skolemsee_sentinel_0r (fuel d : Nat) : AExit → Fr → AHeap → Option (AVal × AHeap) := (kBlock 0 (kSeq (Cf fuel F_skolemsee_sentinel) false (acall (C fuel) false d) (acall (C fuel) true d) 20 (csub [true, true, true] (fbody Go.Proofs.Tryd.f55)) (asub [true, true, true] an55) (kRet (Cf fuel F_skolemsee_sentinel) Go.Proofs.Tryd.f55.results.toList)))

noncomputable def k_skolemsee_sentinel_0 : Nat → Nat → AExit → Fr → AHeap → Option (AVal × AHeap) := hide k_skolemsee_sentinel_0r

theorem k_skolemsee_sentinel_0_is : k_skolemsee_sentinel_0 = k_skolemsee_sentinel_0r := hide_eq _

theorem e_skolemsee_sentinel (fuel d : Nat) (x0 : AVal) (h : AHeap) :
    brun fuel (d + 1) F_skolemsee_sentinel [x0] h =
  (run fuel d F_skolemsee_sentinels [] h).bind fun r1 =>
    (AVal.slice? r1.1).bind fun s2 =>
    (l_skolemsee_sentinel_0 fuel d fuel [(0, x0), (3, (AVal.slice s2)), (4, (AVal.int .i64 (0 : Int)))] r1.2).bind fun p3 =>
    k_skolemsee_sentinel_0 fuel d p3.1 p3.2.1 p3.2.2 := by
  generalize hh : run = R
  rw [run_is] at hh
  subst hh
  generalize hh : brun = R
  rw [brun_is] at hh
  subst hh
  generalize hh : l_skolemsee_sentinel_0 = R
  rw [l_skolemsee_sentinel_0_is] at hh
  subst hh
  generalize hh : k_skolemsee_sentinel_0 = R
  rw [k_skolemsee_sentinel_0_is] at hh
  subst hh
  kernel_rfl

theorem l_skolemsee_sentinel_0_eq (fuel d : Nat) (n : Nat) (x0 : AVal) (x3 : Sl) (x4 : Int) (h : AHeap) :
    l_skolemsee_sentinel_0 fuel d (n + 1) [(0, x0), (3, (AVal.slice x3)), (4, (AVal.int .i64 x4))] h =
  (bif (decide (x4 < ((x3.len : Nat) : Int))) then ((AHeap.addr h 1 x3 x4).bind fun p1 =>
    (AHeap.cell h p1).bind fun u2 =>
    (run fuel d F_skolemsee_Alike [x0, u2] h).bind fun r3 =>
    (AVal.bool? r3.1).bind fun b4 =>
    (bif b4 then (some (.ret, [(2, (AVal.int .i64 (IntKind.wrap .i64 ((101 : Int) + x4))))], r3.2)) else (l_skolemsee_sentinel_0 fuel d n [(0, x0), (3, (AVal.slice x3)), (4, (AVal.int .i64 (IntKind.wrap .i64 (x4 + (1 : Int)))))] r3.2))) else (some ((.exit 0), [(2, AVal.bot)], h))) := by
  generalize hh : run = R
  rw [run_is] at hh
  subst hh
  generalize hh : l_skolemsee_sentinel_0 = R
  rw [l_skolemsee_sentinel_0_is] at hh
  subst hh
  kernel_rfl

theorem l_skolemsee_sentinel_0_0 (fuel d : Nat) (fr : Fr) (h : AHeap) :
    l_skolemsee_sentinel_0 fuel d 0 fr h =
  none := by
  generalize hh : l_skolemsee_sentinel_0 = R
  rw [l_skolemsee_sentinel_0_is] at hh
  subst hh
  kernel_rfl

theorem k_skolemsee_sentinel_0_x0 (fuel d : Nat) (x2 : AVal) (h : AHeap) :
    k_skolemsee_sentinel_0 fuel d (.exit 0) [(2, x2)] h =
  some ((AVal.int .i64 (-1 : Int)), h) := by
  generalize hh : k_skolemsee_sentinel_0 = R
  rw [k_skolemsee_sentinel_0_is] at hh
  subst hh
  kernel_rfl

theorem k_skolemsee_sentinel_0_r (fuel d : Nat) (x2 : Int) (h : AHeap) :
    k_skolemsee_sentinel_0 fuel d .ret [(2, (AVal.int .i64 x2))] h =
  some ((AVal.int .i64 x2), h) := by
  generalize hh : k_skolemsee_sentinel_0 = R
  rw [k_skolemsee_sentinel_0_is] at hh
  subst hh
  kernel_rfl

/-! 56: skolem/skolemref.Placed -/

theorem e_skolemref_Placed (fuel d : Nat) (x0 : Int) (x1 : Int) (h : AHeap) :
    brun fuel (d + 1) F_skolemref_Placed [(AVal.int .i64 x0), (AVal.int .i64 x1)] h =
  (bif (decide (x0 = (0 : Int))) then ((run fuel d F_skolemref_None [] (AHeap.push h 1 [(AVal.int .i64 (0 : Int)), (AVal.bool false), (AVal.int .i64 (0 : Int))])).bind fun r1 =>
    (AVal.agg? r1.1).bind fun c2 =>
    (bif (!false && Nat.beq (List.length c2) 3 && List.all c2 AVal.isCell) then ((AHeap.storeAt r1.2 c2 (Pt.mk ⟨AHeap.next h, 0, 0⟩ 3)).bind fun h3 =>
    ((AHeap.cellsAt h3 3 (Pt.mk ⟨AHeap.next h, 0, 0⟩ 3)).bind fun c4 =>
    some ((AVal.agg c4)) : Option AVal).map fun v => (v, h3)) else (none))) else ((AHeap.storeAt (AHeap.push h 1 [(AVal.int .i64 (0 : Int)), (AVal.bool false), (AVal.int .i64 (0 : Int))]) [(AVal.int .i64 x0), (AVal.bool true), (AVal.int .i64 x1)] (Pt.mk ⟨AHeap.next h, 0, 0⟩ 3)).bind fun h5 =>
    ((AHeap.cellsAt h5 3 (Pt.mk ⟨AHeap.next h, 0, 0⟩ 3)).bind fun c6 =>
    some ((AVal.agg c6)) : Option AVal).map fun v => (v, h5))) := by
  generalize hh : run = R
  rw [run_is] at hh
  subst hh
  generalize hh : brun = R
  rw [brun_is] at hh
  subst hh
  kernel_rfl

/-! 64: skolem/skolemsee.sentinels -/

theorem e_skolemsee_sentinels (fuel d : Nat)  (h : AHeap) :
    brun fuel (d + 1) F_skolemsee_sentinels [] h =
  ((bif (Nat.beq (List.length (AVal.cells err_api_ErrText)) 1 && Nat.ble (0 + 1) (List.length [AVal.nilif, AVal.nilif, AVal.nilif, AVal.nilif, AVal.nilif, AVal.nilif, AVal.nilif]) && List.all (AVal.cells err_api_ErrText) AVal.isCell) then ((bif (Nat.beq (List.length (AVal.cells err_api_ErrLimit)) 1 && Nat.ble (1 + 1) (List.length (AHeap.overlay [AVal.nilif, AVal.nilif, AVal.nilif, AVal.nilif, AVal.nilif, AVal.nilif, AVal.nilif] 0 (AVal.cells err_api_ErrText))) && List.all (AVal.cells err_api_ErrLimit) AVal.isCell) then ((bif (Nat.beq (List.length (AVal.cells err_api_ErrBudget)) 1 && Nat.ble (2 + 1) (List.length (AHeap.overlay (AHeap.overlay [AVal.nilif, AVal.nilif, AVal.nilif, AVal.nilif, AVal.nilif, AVal.nilif, AVal.nilif] 0 (AVal.cells err_api_ErrText)) 1 (AVal.cells err_api_ErrLimit))) && List.all (AVal.cells err_api_ErrBudget) AVal.isCell) then ((bif (Nat.beq (List.length (AVal.cells err_api_ErrRange)) 1 && Nat.ble (3 + 1) (List.length (AHeap.overlay (AHeap.overlay (AHeap.overlay [AVal.nilif, AVal.nilif, AVal.nilif, AVal.nilif, AVal.nilif, AVal.nilif, AVal.nilif] 0 (AVal.cells err_api_ErrText)) 1 (AVal.cells err_api_ErrLimit)) 2 (AVal.cells err_api_ErrBudget))) && List.all (AVal.cells err_api_ErrRange) AVal.isCell) then ((bif (Nat.beq (List.length (AVal.cells err_api_ErrBlocks)) 1 && Nat.ble (4 + 1) (List.length (AHeap.overlay (AHeap.overlay (AHeap.overlay (AHeap.overlay [AVal.nilif, AVal.nilif, AVal.nilif, AVal.nilif, AVal.nilif, AVal.nilif, AVal.nilif] 0 (AVal.cells err_api_ErrText)) 1 (AVal.cells err_api_ErrLimit)) 2 (AVal.cells err_api_ErrBudget)) 3 (AVal.cells err_api_ErrRange))) && List.all (AVal.cells err_api_ErrBlocks) AVal.isCell) then ((bif (Nat.beq (List.length (AVal.cells err_api_ErrProof)) 1 && Nat.ble (5 + 1) (List.length (AHeap.overlay (AHeap.overlay (AHeap.overlay (AHeap.overlay (AHeap.overlay [AVal.nilif, AVal.nilif, AVal.nilif, AVal.nilif, AVal.nilif, AVal.nilif, AVal.nilif] 0 (AVal.cells err_api_ErrText)) 1 (AVal.cells err_api_ErrLimit)) 2 (AVal.cells err_api_ErrBudget)) 3 (AVal.cells err_api_ErrRange)) 4 (AVal.cells err_api_ErrBlocks))) && List.all (AVal.cells err_api_ErrProof) AVal.isCell) then ((bif (Nat.beq (List.length (AVal.cells err_api_ErrCert)) 1 && Nat.ble (6 + 1) (List.length (AHeap.overlay (AHeap.overlay (AHeap.overlay (AHeap.overlay (AHeap.overlay (AHeap.overlay [AVal.nilif, AVal.nilif, AVal.nilif, AVal.nilif, AVal.nilif, AVal.nilif, AVal.nilif] 0 (AVal.cells err_api_ErrText)) 1 (AVal.cells err_api_ErrLimit)) 2 (AVal.cells err_api_ErrBudget)) 3 (AVal.cells err_api_ErrRange)) 4 (AVal.cells err_api_ErrBlocks)) 5 (AVal.cells err_api_ErrProof))) && List.all (AVal.cells err_api_ErrCert) AVal.isCell) then ((some (AHeap.overlay (AHeap.overlay (AHeap.overlay (AHeap.overlay (AHeap.overlay (AHeap.overlay (AHeap.overlay [AVal.nilif, AVal.nilif, AVal.nilif, AVal.nilif, AVal.nilif, AVal.nilif, AVal.nilif] 0 (AVal.cells err_api_ErrText)) 1 (AVal.cells err_api_ErrLimit)) 2 (AVal.cells err_api_ErrBudget)) 3 (AVal.cells err_api_ErrRange)) 4 (AVal.cells err_api_ErrBlocks)) 5 (AVal.cells err_api_ErrProof)) 6 (AVal.cells err_api_ErrCert)))) else (none))) else (none))) else (none))) else (none))) else (none))) else (none))) else (none))).bind fun c1 =>
    some ((AVal.slice (Sl.lst 7 true c1)), h) := by
  generalize hh : brun = R
  rw [brun_is] at hh
  subst hh
  kernel_rfl

/-! 65: skolem/skolemsee.Alike -/

theorem e_skolemsee_Alike (fuel d : Nat) (x0 : AVal) (x1 : AVal) (h : AHeap) :
    brun fuel (d + 1) F_skolemsee_Alike [x0, x1] h =
  (nilTest .iface x0).bind fun b1 =>
    ((bif ((b1) == false) then ((nilTest .iface x1).bind fun b2 =>
    some ((AVal.bool (b2)), h)) else (some ((AVal.bool true), h)) : Option (AVal × AHeap))).bind fun r3 =>
    (AVal.bool? r3.1).bind fun b4 =>
    (bif b4 then ((nilTest .iface x0).bind fun b5 =>
    ((bif ((b5) == true) then ((nilTest .iface x1).bind fun b6 =>
    some ((AVal.bool (b6)), r3.2)) else (some ((AVal.bool false), r3.2)) : Option (AVal × AHeap))).bind fun r7 =>
    (AVal.bool? r7.1).bind fun b8 =>
    some ((AVal.bool b8), r7.2)) else ((ifaceSame (Cf fuel F_skolemsee_Alike) x0 x1).bind fun b9 =>
    some ((AVal.bool (b9)), r3.2))) := by
  generalize hh : brun = R
  rw [brun_is] at hh
  subst hh
  kernel_rfl

theorem e_bytealg_IndexByte (fuel d : Nat) (x0 : Sl) (x1 : Int) (h : AHeap) :
    run fuel d F_bytealg_IndexByte [(AVal.slice x0), (AVal.int .u8 x1)] h =
  (AHeap.sliceCells h 1 x0).bind fun c1 => (bytesFrom c1).bind fun b2 => some ((AVal.int .i64 (Lib.indexByte b2 (Int.toNat x1).toUInt8)), h) := by
  generalize hh : run = R
  rw [run_is] at hh
  subst hh
  cases d <;> kernel_rfl

end Go.Proofs.YthccobceodgmlaaDoor
