/-
  What each function does: printed by program, checked by the kernel.
-/
import Derived.Test.YtdmbfmgebgdfnaaDoorCtx
namespace Go.Proofs.YtdmbfmgebgdfnaaDoor
set_option linter.unusedVariables false
set_option maxRecDepth 100000

noncomputable def s_skolemlaw21_RupTwice_0 (fuel d : Nat) : Run := fun fr h k => aexec (Cf fuel F_skolemlaw21_RupTwice) false (acall (C fuel) false d) (acall (C fuel) true d) 151 (csub [true, true, true, true, true, false, true, false, false] (fbody Go.Proofs.Tryd.f6)) (asub [true, true, true, true, true, false, true, false, false] an6) fr h k

noncomputable def l_skolemlaw21_RupTwice_0r (fuel d : Nat) (n : Nat) (fr : Fr) (h : AHeap) : Option (AExit × Fr × AHeap) := aloop (s_skolemlaw21_RupTwice_0 fuel d) (some [0, 1, 2, 7, 8, 9]) n fr h (kOut [1, 2, 7, 8])

noncomputable def l_skolemlaw21_RupTwice_0 : Nat → Nat → Nat → Fr → AHeap → Option (AExit × Fr × AHeap) := hide l_skolemlaw21_RupTwice_0r

theorem l_skolemlaw21_RupTwice_0_is : l_skolemlaw21_RupTwice_0 = l_skolemlaw21_RupTwice_0r := hide_eq _

noncomputable def k_skolemlaw21_RupTwice_0r (fuel d : Nat) : AExit → Fr → AHeap → Option (AVal × AHeap) := (kBlock 0 (kSeq (Cf fuel F_skolemlaw21_RupTwice) false (acall (C fuel) false d) (acall (C fuel) true d) 151 (csub [true, true, true, true, true, true] (fbody Go.Proofs.Tryd.f6)) (asub [true, true, true, true, true, true] an6) (kRet (Cf fuel F_skolemlaw21_RupTwice) Go.Proofs.Tryd.f6.results.toList)))

noncomputable def k_skolemlaw21_RupTwice_0 : Nat → Nat → AExit → Fr → AHeap → Option (AVal × AHeap) := hide k_skolemlaw21_RupTwice_0r

theorem k_skolemlaw21_RupTwice_0_is : k_skolemlaw21_RupTwice_0 = k_skolemlaw21_RupTwice_0r := hide_eq _

theorem e_skolemlaw21_RupTwice (fuel d : Nat) (x0 : Sl) (x1 : Int) (x2 : Sl) (h : AHeap) :
    run fuel (d + 1) F_skolemlaw21_RupTwice [(AVal.slice x0), (AVal.int .i64 x1), (AVal.slice x2)] h =
  (run fuel d F_skolemlaw21_first [] h).bind fun r1 =>
    (AVal.bool? r1.1).bind fun b2 =>
    (bif (!b2) then (some ((AVal.bool false), r1.2)) else ((bif (bif (bif (decide (((x0.len : Nat) : Int) = (0 : Int))) then true else (decide ((6 : Int) < ((x0.len : Nat) : Int)))) then true else (decide ((30 : Int) < ((x2.len : Nat) : Int)))) then (some ((AVal.bool b2), r1.2)) else ((l_skolemlaw21_RupTwice_0 fuel d fuel [(0, (AVal.slice x0)), (1, (AVal.int .i64 x1)), (2, (AVal.slice x2)), (7, (AVal.bool b2)), (8, (AVal.slice Sl.nil)), (9, (AVal.int .i64 (0 : Int)))] r1.2).bind fun p3 =>
    k_skolemlaw21_RupTwice_0 fuel d p3.1 p3.2.1 p3.2.2)))) := by
  generalize hh : run = R
  rw [run_is] at hh
  subst hh
  generalize hh : l_skolemlaw21_RupTwice_0 = R
  rw [l_skolemlaw21_RupTwice_0_is] at hh
  subst hh
  generalize hh : k_skolemlaw21_RupTwice_0 = R
  rw [k_skolemlaw21_RupTwice_0_is] at hh
  subst hh
  kernel_rfl

theorem l_skolemlaw21_RupTwice_0_eq (fuel d : Nat) (n : Nat) (x0 : Sl) (x1 : Int) (x2 : Sl) (x7 : Bool) (x8 : Sl) (x9 : Int) (h : AHeap) :
    l_skolemlaw21_RupTwice_0 fuel d (n + 1) [(0, (AVal.slice x0)), (1, (AVal.int .i64 x1)), (2, (AVal.slice x2)), (7, (AVal.bool x7)), (8, (AVal.slice x8)), (9, (AVal.int .i64 x9))] h =
  (bif (decide (x9 < ((x0.len : Nat) : Int))) then ((AHeap.addr h 1 x0 x9).bind fun p1 =>
    (AHeap.cell h p1).bind fun u2 =>
    (AVal.int? .i64 u2).bind fun n3 =>
    (run fuel d F_skolemmake_Lit [(AVal.int .i64 n3), (AVal.int .i64 (9 : Int))] h).bind fun r4 =>
    (AVal.int? .i64 r4.1).bind fun n5 =>
    (AHeap.append r4.2 false 1 8 x8 1 [(AVal.int .i64 n5)]).bind fun a6 =>
    l_skolemlaw21_RupTwice_0 fuel d n [(0, (AVal.slice x0)), (1, (AVal.int .i64 x1)), (2, (AVal.slice x2)), (7, (AVal.bool x7)), (8, (AVal.slice a6.1)), (9, (AVal.int .i64 (IntKind.wrap .i64 (x9 + (1 : Int)))))] a6.2) else (some ((.exit 0), [(1, (AVal.int .i64 x1)), (2, (AVal.slice x2)), (7, (AVal.bool x7)), (8, (AVal.slice x8))], h))) := by
  generalize hh : run = R
  rw [run_is] at hh
  subst hh
  generalize hh : l_skolemlaw21_RupTwice_0 = R
  rw [l_skolemlaw21_RupTwice_0_is] at hh
  subst hh
  kernel_rfl

theorem k_skolemlaw21_RupTwice_0_x0 (fuel d : Nat) (x1 : Int) (x2 : Sl) (x7 : Bool) (x8 : Sl) (h : AHeap) :
    k_skolemlaw21_RupTwice_0 fuel d (.exit 0) [(1, (AVal.int .i64 x1)), (2, (AVal.slice x2)), (7, (AVal.bool x7)), (8, (AVal.slice x8))] h =
  (run fuel d F_skolemworld_Number [(AVal.int .i64 x1), (AVal.int .i64 ((x8.len : Nat) : Int))] h).bind fun r1 =>
    (AVal.int? .i64 r1.1).bind fun n2 =>
    (aHi (none : Option AVal) (Sl.len x8)).bind fun hi3 =>
    (aLo (some (AVal.int .i64 n2)) hi3).bind fun lo4 =>
    (aMx (none : Option AVal) hi3).bind fun cl5 =>
    (bif (AHeap.hasSz r1.2 1 x8) then ((run fuel d F_skolemref_Ints [(AVal.slice (Sl.cut x8 1 lo4 hi3 cl5))] r1.2).bind fun r6 =>
    (AVal.slice? r6.1).bind fun s7 =>
    (aHi (some (AVal.int .i64 n2)) (Sl.len x8)).bind fun hi8 =>
    (aLo (none : Option AVal) hi8).bind fun lo9 =>
    (aMx (none : Option AVal) hi8).bind fun cl10 =>
    (bif (AHeap.hasSz r6.2 1 x8) then (same ((aHi (some (AVal.int .i64 n2)) (Sl.len x8)).bind fun hi60 =>
    (aLo (none : Option AVal) hi60).bind fun lo61 =>
    (aMx (none : Option AVal) hi60).bind fun cl62 =>
    (bif (AHeap.hasSz r1.2 1 x8) then (some ((AVal.slice (Sl.cut x8 1 lo61 hi60 cl62)), r1.2)) else (none))) ((AVal.slice (Sl.cut x8 1 lo9 hi8 cl10)), r1.2) (
    (AHeap.sliceCells r6.2 1 (Sl.cut x8 1 lo9 hi8 cl10)).bind fun xs11 =>
    (AHeap.append r6.2 false 1 8 s7 (Sl.cut x8 1 lo9 hi8 cl10).len xs11).bind fun a12 =>
    (run fuel d F_skolemmake_Clauses [(AVal.slice x2), (AVal.int .i64 (9 : Int))] a12.2).bind fun r13 =>
    (AVal.slice? r13.1).bind fun s14 =>
    (run fuel d F_rup_New [(AVal.int .i64 (20 : Int)), (AVal.slice s14)] r13.2).bind fun r15 =>
    (bif AVal.isTup 2 r15.1 then ((AVal.comp 0 r15.1).bind fun u16 =>
    (AVal.ptr? u16).bind fun p17 =>
    (AVal.comp 1 r15.1).bind fun u18 =>
    (nilTest .ptr (AVal.ptr p17)).bind fun b19 =>
    ((bif ((b19) == false) then ((nilTest .iface u18).bind fun b20 =>
    some ((AVal.bool (!b20)), r15.2)) else (some ((AVal.bool true), r15.2)) : Option (AVal × AHeap))).bind fun r21 =>
    (AVal.bool? r21.1).bind fun b22 =>
    (bif b22 then (some ((AVal.bool false), r21.2)) else ((AHeap.append r21.2 false 1 8 x8 1 [(AVal.int .i64 (15 : Int))]).bind fun a23 =>
    (AHeap.sliceCells a23.2 1 a12.1).bind fun xs24 =>
    (AHeap.append a23.2 false 1 8 (Sl.lst 1 true [(AVal.int .i64 (15 : Int))]) a12.1.len xs24).bind fun a25 =>
    (run fuel d F_rup_Base_Len [(AVal.ptr p17)] a25.2).bind fun r26 =>
    (AVal.int? .i64 r26.1).bind fun n27 =>
    (run fuel d F_rup_Base_Add [(AVal.ptr p17), (AVal.slice a23.1)] r26.2).bind fun r28 =>
    (AVal.bool? r28.1).bind fun b29 =>
    ((bif (b29 == true) then ((run fuel d F_rup_Base_Add [(AVal.ptr p17), (AVal.slice a25.1)] r28.2).bind fun r30 =>
    (AVal.bool? r30.1).bind fun b31 =>
    some ((AVal.bool b31), r30.2)) else (some ((AVal.bool false), r28.2)) : Option (AVal × AHeap))).bind fun r32 =>
    (AVal.bool? r32.1).bind fun b33 =>
    (run fuel d F_rup_Base_Has [(AVal.ptr p17), (AVal.slice a25.1)] r32.2).bind fun r34 =>
    (AVal.bool? r34.1).bind fun b35 =>
    ((bif (b35 == true) then ((run fuel d F_rup_Base_Len [(AVal.ptr p17)] r34.2).bind fun r36 =>
    (AVal.int? .i64 r36.1).bind fun n37 =>
    some ((AVal.bool (decide (n37 = (IntKind.wrap .i64 (n27 + (2 : Int)))))), r36.2)) else (some ((AVal.bool false), r34.2)) : Option (AVal × AHeap))).bind fun r38 =>
    (AVal.bool? r38.1).bind fun b39 =>
    ((bif (b39 == true) then ((run fuel d F_rup_Base_Implied [(AVal.ptr p17), (AVal.slice a23.1)] r38.2).bind fun r40 =>
    (AVal.bool? r40.1).bind fun b41 =>
    some ((AVal.bool b41), r40.2)) else (some ((AVal.bool false), r38.2)) : Option (AVal × AHeap))).bind fun r42 =>
    (AVal.bool? r42.1).bind fun b43 =>
    (run fuel d F_rup_Base_Drop [(AVal.ptr p17), (AVal.slice a25.1)] r42.2).bind fun r44 =>
    (AVal.bool? r44.1).bind fun b45 =>
    (run fuel d F_rup_Base_Has [(AVal.ptr p17), (AVal.slice a23.1)] r44.2).bind fun r46 =>
    (AVal.bool? r46.1).bind fun b47 =>
    (run fuel d F_rup_Base_Drop [(AVal.ptr p17), (AVal.slice a23.1)] r46.2).bind fun r48 =>
    (AVal.bool? r48.1).bind fun b49 =>
    (run fuel d F_rup_Base_Drop [(AVal.ptr p17), (AVal.slice a23.1)] r48.2).bind fun r50 =>
    (AVal.bool? r50.1).bind fun b51 =>
    ((bif ((bif (bif (bif (bif (bif (bif x7 then b33 else false) then b43 else false) then b45 else false) then b47 else false) then b49 else false) then (!b51) else false) == true) then ((run fuel d F_rup_Base_Has [(AVal.ptr p17), (AVal.slice a25.1)] r50.2).bind fun r52 =>
    (AVal.bool? r52.1).bind fun b53 =>
    some ((AVal.bool (!b53)), r52.2)) else (some ((AVal.bool false), r50.2)) : Option (AVal × AHeap))).bind fun r54 =>
    (AVal.bool? r54.1).bind fun b55 =>
    ((bif (b55 == true) then ((run fuel d F_rup_Base_Len [(AVal.ptr p17)] r54.2).bind fun r56 =>
    (AVal.int? .i64 r56.1).bind fun n57 =>
    some ((AVal.bool (decide (n57 = n27))), r56.2)) else (some ((AVal.bool false), r54.2)) : Option (AVal × AHeap))).bind fun r58 =>
    (AVal.bool? r58.1).bind fun b59 =>
    some ((AVal.bool b59), r58.2)))) else none))) else (none))) else (none)) := by
  generalize hh : run = R
  rw [run_is] at hh
  subst hh
  generalize hh : k_skolemlaw21_RupTwice_0 = R
  rw [k_skolemlaw21_RupTwice_0_is] at hh
  subst hh
  kernel_rfl

theorem e_skolemlaw21_first (fuel d : Nat)  (h : AHeap) :
    brun fuel (d + 1) F_skolemlaw21_first [] h =
  (run fuel d F_rup_New [(AVal.int .i64 (1 : Int)), (AVal.slice (Sl.lst 2 true [(AVal.slice (Sl.lst 1 true [(AVal.int .i64 (1 : Int))])), (AVal.slice (Sl.lst 1 true [(AVal.int .i64 (-1 : Int))]))]))] h).bind fun r1 =>
    (bif AVal.isTup 2 r1.1 then ((AVal.comp 0 r1.1).bind fun u2 =>
    (AVal.ptr? u2).bind fun p3 =>
    (AVal.comp 1 r1.1).bind fun u4 =>
    (nilTest .ptr (AVal.ptr p3)).bind fun b5 =>
    ((bif ((b5) == false) then ((nilTest .iface u4).bind fun b6 =>
    some ((AVal.bool (!b6)), r1.2)) else (some ((AVal.bool true), r1.2)) : Option (AVal × AHeap))).bind fun r7 =>
    (AVal.bool? r7.1).bind fun b8 =>
    (bif b8 then (some ((AVal.bool false), r7.2)) else ((run fuel d F_rup_New [(AVal.int .i64 (1 : Int)), (AVal.slice Sl.nil)] r7.2).bind fun r9 =>
    (bif AVal.isTup 2 r9.1 then ((AVal.comp 0 r9.1).bind fun u10 =>
    (AVal.ptr? u10).bind fun p11 =>
    (AVal.comp 1 r9.1).bind fun u12 =>
    (run fuel d F_rup_Base_Implied [(AVal.ptr p3), (AVal.slice Sl.nil)] r9.2).bind fun r13 =>
    (AVal.bool? r13.1).bind fun b14 =>
    ((bif (b14 == true) then ((nilTest .ptr (AVal.ptr p11)).bind fun b15 =>
    some ((AVal.bool (!b15)), r13.2)) else (some ((AVal.bool false), r13.2)) : Option (AVal × AHeap))).bind fun r16 =>
    (AVal.bool? r16.1).bind fun b17 =>
    ((bif (b17 == true) then ((run fuel d F_rup_Base_Implied [(AVal.ptr p11), (AVal.slice Sl.nil)] r16.2).bind fun r18 =>
    (AVal.bool? r18.1).bind fun b19 =>
    some ((AVal.bool (!b19)), r18.2)) else (some ((AVal.bool false), r16.2)) : Option (AVal × AHeap))).bind fun r20 =>
    (AVal.bool? r20.1).bind fun b21 =>
    some ((AVal.bool b21), r20.2)) else none)))) else none) := by
  generalize hh : run = R
  rw [run_is] at hh
  subst hh
  generalize hh : brun = R
  rw [brun_is] at hh
  subst hh
  kernel_rfl

noncomputable def s_skolemmake_Clauses_0 (fuel d : Nat) : Run := fun fr h k => aexec (Cf fuel F_skolemmake_Clauses) false (acall (C fuel) false d) (acall (C fuel) true d) 55 (csub [true, true, true, true, false, true, false, false] (fbody Go.Proofs.Tryd.f10)) (asub [true, true, true, true, false, true, false, false] an10) fr h k

noncomputable def l_skolemmake_Clauses_0r (fuel d : Nat) (n : Nat) (fr : Fr) (h : AHeap) : Option (AExit × Fr × AHeap) := aloop (s_skolemmake_Clauses_0 fuel d) (some [0, 1, 5, 6, 7]) n fr h (kOut [5, 6])

noncomputable def l_skolemmake_Clauses_0 : Nat → Nat → Nat → Fr → AHeap → Option (AExit × Fr × AHeap) := hide l_skolemmake_Clauses_0r

theorem l_skolemmake_Clauses_0_is : l_skolemmake_Clauses_0 = l_skolemmake_Clauses_0r := hide_eq _

noncomputable def k_skolemmake_Clauses_0r (fuel d : Nat) : AExit → Fr → AHeap → Option (AVal × AHeap) := (kBlock 0 (kSeq (Cf fuel F_skolemmake_Clauses) false (acall (C fuel) false d) (acall (C fuel) true d) 55 (csub [true, true, true, true, true] (fbody Go.Proofs.Tryd.f10)) (asub [true, true, true, true, true] an10) (kRet (Cf fuel F_skolemmake_Clauses) Go.Proofs.Tryd.f10.results.toList)))

noncomputable def k_skolemmake_Clauses_0 : Nat → Nat → AExit → Fr → AHeap → Option (AVal × AHeap) := hide k_skolemmake_Clauses_0r

theorem k_skolemmake_Clauses_0_is : k_skolemmake_Clauses_0 = k_skolemmake_Clauses_0r := hide_eq _

noncomputable def k_skolemmake_Clauses_1r (fuel d : Nat) (n : Nat) : AExit → Fr → AHeap → Option (AExit × Fr × AHeap) := (kSeq (Cf fuel F_skolemmake_Clauses) false (acall (C fuel) false d) (acall (C fuel) true d) 55 (csub [true, true, true, true, false, true, false, false, true, false, false, true] (fbody Go.Proofs.Tryd.f10)) (asub [true, true, true, true, false, true, false, false, true, false, false, true] an10) (kBlock 1 (kSeq (Cf fuel F_skolemmake_Clauses) false (acall (C fuel) false d) (acall (C fuel) true d) 55 (csub [true, true, true, true, false, true, false, false, true, true] (fbody Go.Proofs.Tryd.f10)) (asub [true, true, true, true, false, true, false, false, true, true] an10) (kLoop (s_skolemmake_Clauses_0 fuel d) (some [0, 1, 5, 6, 7]) n (kOut [5, 6])))))

noncomputable def k_skolemmake_Clauses_1 : Nat → Nat → Nat → AExit → Fr → AHeap → Option (AExit × Fr × AHeap) := hide k_skolemmake_Clauses_1r

theorem k_skolemmake_Clauses_1_is : k_skolemmake_Clauses_1 = k_skolemmake_Clauses_1r := hide_eq _

theorem e_skolemmake_Clauses (fuel d : Nat) (x0 : Sl) (x1 : Int) (h : AHeap) :
    brun fuel (d + 1) F_skolemmake_Clauses [(AVal.slice x0), (AVal.int .i64 x1)] h =
  (bif (decide (x1 < (1 : Int))) then (some ((AVal.slice Sl.nil), h)) else ((l_skolemmake_Clauses_0 fuel d fuel [(0, (AVal.slice x0)), (1, (AVal.int .i64 x1)), (5, (AVal.slice Sl.nil)), (6, (AVal.slice Sl.nil)), (7, (AVal.int .i64 (0 : Int)))] h).bind fun p1 =>
    k_skolemmake_Clauses_0 fuel d p1.1 p1.2.1 p1.2.2)) := by
  generalize hh : brun = R
  rw [brun_is] at hh
  subst hh
  generalize hh : l_skolemmake_Clauses_0 = R
  rw [l_skolemmake_Clauses_0_is] at hh
  subst hh
  generalize hh : k_skolemmake_Clauses_0 = R
  rw [k_skolemmake_Clauses_0_is] at hh
  subst hh
  kernel_rfl

theorem l_skolemmake_Clauses_0_eq (fuel d : Nat) (n : Nat) (x0 : Sl) (x1 : Int) (x5 : Sl) (x6 : Sl) (x7 : Int) (h : AHeap) :
    l_skolemmake_Clauses_0 fuel d (n + 1) [(0, (AVal.slice x0)), (1, (AVal.int .i64 x1)), (5, (AVal.slice x5)), (6, (AVal.slice x6)), (7, (AVal.int .i64 x7))] h =
  (bif (decide (x7 < ((x0.len : Nat) : Int))) then ((AHeap.addr h 1 x0 x7).bind fun p1 =>
    (AHeap.cell h p1).bind fun u2 =>
    (AVal.int? .i64 u2).bind fun n3 =>
    (run fuel d F_skolemworld_Number [(AVal.int .i64 n3), (AVal.int .i64 (7 : Int))] h).bind fun r4 =>
    (AVal.int? .i64 r4.1).bind fun n5 =>
    ((bif (bif (bif (decide (n5 = (0 : Int))) then (decide ((0 : Int) < ((x6.len : Nat) : Int))) else false) then true else (decide ((5 : Int) ≤ ((x6.len : Nat) : Int)))) then ((AHeap.append (AHeap.fixL r4.2 [(AVal.slice x6)]).2 false 1 24 x5 1 (AHeap.fixL r4.2 [(AVal.slice x6)]).1).bind fun a6 =>
    some (.normal, [(0, (AVal.slice x0)), (1, (AVal.int .i64 x1)), (5, (AVal.slice a6.1)), (6, (AVal.slice Sl.nil)), (7, (AVal.int .i64 x7))], a6.2)) else (some (.normal, [(0, (AVal.slice x0)), (1, (AVal.int .i64 x1)), (5, (AVal.slice x5)), (6, (AVal.slice x6)), (7, (AVal.int .i64 x7))], r4.2)))).bind fun p7 =>
    k_skolemmake_Clauses_1 fuel d n p7.1 p7.2.1 p7.2.2) else (some ((.exit 0), [(5, (AVal.slice x5)), (6, (AVal.slice x6))], h))) := by
  generalize hh : run = R
  rw [run_is] at hh
  subst hh
  generalize hh : l_skolemmake_Clauses_0 = R
  rw [l_skolemmake_Clauses_0_is] at hh
  subst hh
  generalize hh : k_skolemmake_Clauses_1 = R
  rw [k_skolemmake_Clauses_1_is] at hh
  subst hh
  kernel_rfl

theorem k_skolemmake_Clauses_0_x0 (fuel d : Nat) (x5 : Sl) (x6 : Sl) (h : AHeap) :
    k_skolemmake_Clauses_0 fuel d (.exit 0) [(5, (AVal.slice x5)), (6, (AVal.slice x6))] h =
  (bif (decide ((0 : Int) < ((x6.len : Nat) : Int))) then ((AHeap.append (AHeap.fixL h [(AVal.slice x6)]).2 false 1 24 x5 1 (AHeap.fixL h [(AVal.slice x6)]).1).bind fun a1 =>
    some ((AVal.slice a1.1), a1.2)) else (some ((AVal.slice x5), h))) := by
  generalize hh : k_skolemmake_Clauses_0 = R
  rw [k_skolemmake_Clauses_0_is] at hh
  subst hh
  kernel_rfl

theorem k_skolemmake_Clauses_1_n (fuel d : Nat) (n : Nat) (x0 : Sl) (x1 : Int) (x5 : Sl) (x6 : Sl) (x7 : Int) (h : AHeap) :
    k_skolemmake_Clauses_1 fuel d n .normal [(0, (AVal.slice x0)), (1, (AVal.int .i64 x1)), (5, (AVal.slice x5)), (6, (AVal.slice x6)), (7, (AVal.int .i64 x7))] h =
  (AHeap.addr h 1 x0 x7).bind fun p1 =>
    (AHeap.cell h p1).bind fun u2 =>
    (AVal.int? .i64 u2).bind fun n3 =>
    (run fuel d F_skolemworld_Number [(AVal.int .i64 n3), (AVal.int .i64 (1099511627776 : Int))] h).bind fun r4 =>
    (AVal.int? .i64 r4.1).bind fun n5 =>
    (run fuel d F_skolemmake_Lit [(AVal.int .i64 (IntKind.wrap .i64 (Int.tdiv n5 (7 : Int)))), (AVal.int .i64 x1)] r4.2).bind fun r6 =>
    (AVal.int? .i64 r6.1).bind fun n7 =>
    (AHeap.append r6.2 false 1 8 x6 1 [(AVal.int .i64 n7)]).bind fun a8 =>
    l_skolemmake_Clauses_0 fuel d n [(0, (AVal.slice x0)), (1, (AVal.int .i64 x1)), (5, (AVal.slice x5)), (6, (AVal.slice a8.1)), (7, (AVal.int .i64 (IntKind.wrap .i64 (x7 + (1 : Int)))))] a8.2 := by
  generalize hh : run = R
  rw [run_is] at hh
  subst hh
  generalize hh : l_skolemmake_Clauses_0 = R
  rw [l_skolemmake_Clauses_0_is] at hh
  subst hh
  generalize hh : k_skolemmake_Clauses_1 = R
  rw [k_skolemmake_Clauses_1_is] at hh
  subst hh
  kernel_rfl

noncomputable def s_rup_New_0 (fuel d : Nat) : Run := fun fr h k => aexec (Cf fuel F_rup_New) false (acall (C fuel) false d) (acall (C fuel) true d) 27 (csub [true, true, false, true, false, false] (fbody Go.Proofs.Tryd.f11)) (asub [true, true, false, true, false, false] an11) fr h k

noncomputable def l_rup_New_0r (fuel d : Nat) (n : Nat) (fr : Fr) (h : AHeap) : Option (AExit × Fr × AHeap) := aloop (s_rup_New_0 fuel d) (some [6, 14, 15, 16]) n fr h (kOut [4, 5, 6])

noncomputable def l_rup_New_0 : Nat → Nat → Nat → Fr → AHeap → Option (AExit × Fr × AHeap) := hide l_rup_New_0r

theorem l_rup_New_0_is : l_rup_New_0 = l_rup_New_0r := hide_eq _

noncomputable def k_rup_New_0r (fuel d : Nat) : AExit → Fr → AHeap → Option (AVal × AHeap) := (kBlock 0 (kSeq (Cf fuel F_rup_New) false (acall (C fuel) false d) (acall (C fuel) true d) 27 (csub [true, true, true] (fbody Go.Proofs.Tryd.f11)) (asub [true, true, true] an11) (kRet (Cf fuel F_rup_New) Go.Proofs.Tryd.f11.results.toList)))

noncomputable def k_rup_New_0 : Nat → Nat → AExit → Fr → AHeap → Option (AVal × AHeap) := hide k_rup_New_0r

theorem k_rup_New_0_is : k_rup_New_0 = k_rup_New_0r := hide_eq _

theorem e_rup_New (fuel d : Nat) (x0 : Int) (x1 : Sl) (h : AHeap) :
    run fuel (d + 1) F_rup_New [(AVal.int .i64 x0), (AVal.slice x1)] h =
  (run fuel d F_assign_Cut [(AVal.int .i64 x0)] h).bind fun r1 =>
    (AVal.int? .i64 r1.1).bind fun n2 =>
    (l_rup_New_0 fuel d fuel [(6, (AVal.ptr (Pt.mk ⟨AHeap.next (AHeap.newMap r1.2), 0, 0⟩ 6))), (14, (AVal.slice x1)), (15, (AVal.int .i64 ((x1.len : Nat) : Int))), (16, (AVal.int .i64 (0 : Int)))] (AHeap.push (AHeap.newMap r1.2) 1 [(AVal.int .i64 n2), (AVal.slice Sl.nil), (AVal.slice Sl.nil), (AVal.map (some (List.length (AHeap.maps r1.2)))), (AVal.slice Sl.nil), (AVal.int .i64 (0 : Int))])).bind fun p3 =>
    k_rup_New_0 fuel d p3.1 p3.2.1 p3.2.2 := by
  generalize hh : run = R
  rw [run_is] at hh
  subst hh
  generalize hh : l_rup_New_0 = R
  rw [l_rup_New_0_is] at hh
  subst hh
  generalize hh : k_rup_New_0 = R
  rw [k_rup_New_0_is] at hh
  subst hh
  kernel_rfl

theorem l_rup_New_0_eq (fuel d : Nat) (n : Nat) (x6 : Pt) (x14 : Sl) (x15 : Int) (x16 : Int) (h : AHeap) :
    l_rup_New_0 fuel d (n + 1) [(6, (AVal.ptr x6)), (14, (AVal.slice x14)), (15, (AVal.int .i64 x15)), (16, (AVal.int .i64 x16))] h =
  (bif (decide (x16 < x15)) then ((AHeap.addr h 1 x14 x16).bind fun p1 =>
    (AHeap.cell h p1).bind fun u2 =>
    (AVal.slice? u2).bind fun s3 =>
    (run fuel d F_rup_Base_Add [(AVal.ptr x6), (AVal.slice s3)] h).bind fun r4 =>
    (AVal.bool? r4.1).bind fun b5 =>
    (bif (!b5) then (some (.ret, [(4, (AVal.ptr Pt.nil)), (5, err_api_ErrRange), (6, (AVal.ptr x6))], r4.2)) else (l_rup_New_0 fuel d n [(6, (AVal.ptr x6)), (14, (AVal.slice x14)), (15, (AVal.int .i64 x15)), (16, (AVal.int .i64 (IntKind.wrap .i64 (x16 + (1 : Int)))))] r4.2))) else (some ((.exit 0), [(4, AVal.bot), (5, AVal.bot), (6, (AVal.ptr x6))], h))) := by
  generalize hh : run = R
  rw [run_is] at hh
  subst hh
  generalize hh : l_rup_New_0 = R
  rw [l_rup_New_0_is] at hh
  subst hh
  kernel_rfl

theorem k_rup_New_0_x0 (fuel d : Nat) (x4 : AVal) (x5 : AVal) (x6 : Pt) (h : AHeap) :
    k_rup_New_0 fuel d (.exit 0) [(4, x4), (5, x5), (6, (AVal.ptr x6))] h =
  some ((AVal.tup [(AVal.ptr x6), AVal.nilif]), h) := by
  generalize hh : k_rup_New_0 = R
  rw [k_rup_New_0_is] at hh
  subst hh
  kernel_rfl

theorem k_rup_New_0_r (fuel d : Nat) (x4 : Pt) (x5 : AVal) (x6 : AVal) (h : AHeap) :
    k_rup_New_0 fuel d .ret [(4, (AVal.ptr x4)), (5, x5), (6, x6)] h =
  some ((AVal.tup [(AVal.ptr x4), x5]), h) := by
  generalize hh : k_rup_New_0 = R
  rw [k_rup_New_0_is] at hh
  subst hh
  kernel_rfl

theorem e_skolemmake_Lit (fuel d : Nat) (x0 : Int) (x1 : Int) (h : AHeap) :
    brun fuel (d + 1) F_skolemmake_Lit [(AVal.int .i64 x0), (AVal.int .i64 x1)] h =
  (run fuel d F_skolemworld_Number [(AVal.int .i64 x0), (AVal.int .i64 (IntKind.wrap .i64 ((2 : Int) * x1)))] h).bind fun r1 =>
    (AVal.int? .i64 r1.1).bind fun n2 =>
    (bif (decide (n2 < x1)) then (some ((AVal.int .i64 (IntKind.wrap .i64 (n2 + (1 : Int)))), r1.2)) else (some ((AVal.int .i64 (IntKind.wrap .i64 ((IntKind.wrap .i64 (x1 - n2)) - (1 : Int)))), r1.2))) := by
  generalize hh : run = R
  rw [run_is] at hh
  subst hh
  generalize hh : brun = R
  rw [brun_is] at hh
  subst hh
  kernel_rfl

noncomputable def s_rup_Base_Implied_0 (fuel d : Nat) : Run := fun fr h k => aexec (Cf fuel F_rup_Base_Implied) false (acall (C fuel) false d) (acall (C fuel) true d) 37 (csub [true, true, true, false, true, false, false] (fbody Go.Proofs.Tryd.f14)) (asub [true, true, true, false, true, false, false] an14) fr h k

noncomputable def l_rup_Base_Implied_0r (fuel d : Nat) (n : Nat) (fr : Fr) (h : AHeap) : Option (AExit × Fr × AHeap) := aloop (s_rup_Base_Implied_0 fuel d) (some [0, 5, 17, 18, 19]) n fr h (kOut [0, 5])

noncomputable def l_rup_Base_Implied_0 : Nat → Nat → Nat → Fr → AHeap → Option (AExit × Fr × AHeap) := hide l_rup_Base_Implied_0r

theorem l_rup_Base_Implied_0_is : l_rup_Base_Implied_0 = l_rup_Base_Implied_0r := hide_eq _

noncomputable def k_rup_Base_Implied_0r (fuel d : Nat) : AExit → Fr → AHeap → Option (AVal × AHeap) := (kBlock 0 (kSeq (Cf fuel F_rup_Base_Implied) false (acall (C fuel) false d) (acall (C fuel) true d) 37 (csub [true, true, true, true] (fbody Go.Proofs.Tryd.f14)) (asub [true, true, true, true] an14) (kRet (Cf fuel F_rup_Base_Implied) Go.Proofs.Tryd.f14.results.toList)))

noncomputable def k_rup_Base_Implied_0 : Nat → Nat → AExit → Fr → AHeap → Option (AVal × AHeap) := hide k_rup_Base_Implied_0r

theorem k_rup_Base_Implied_0_is : k_rup_Base_Implied_0 = k_rup_Base_Implied_0r := hide_eq _

theorem e_rup_Base_Implied (fuel d : Nat) (x0 : Pt) (x1 : Sl) (h : AHeap) :
    run fuel (d + 1) F_rup_Base_Implied [(AVal.ptr x0), (AVal.slice x1)] h =
  (run fuel d F_rup_Base_right [(AVal.ptr x0), (AVal.slice x1)] h).bind fun r1 =>
    (AVal.bool? r1.1).bind fun b2 =>
    (bif (!b2) then (some ((AVal.bool false), r1.2)) else ((bif (decide ((0 : Int) ≤ ((x1.len : Nat) : Int)) && decide (((x1.len : Nat) : Int) * 8 ≤ 140737488355328) && decide (((x1.len : Nat) : Int) ≤ 140737488355328)) then ((l_rup_Base_Implied_0 fuel d fuel [(0, (AVal.ptr x0)), (5, (AVal.slice (Sl.mk ⟨AHeap.next r1.2, 0, 0⟩ 0 (eqI (0 : Int) ((x1.len : Nat) : Int))))), (17, (AVal.slice x1)), (18, (AVal.int .i64 ((x1.len : Nat) : Int))), (19, (AVal.int .i64 (0 : Int)))] (AHeap.push r1.2 1 [])).bind fun p3 =>
    k_rup_Base_Implied_0 fuel d p3.1 p3.2.1 p3.2.2) else (none)))) := by
  generalize hh : run = R
  rw [run_is] at hh
  subst hh
  generalize hh : l_rup_Base_Implied_0 = R
  rw [l_rup_Base_Implied_0_is] at hh
  subst hh
  generalize hh : k_rup_Base_Implied_0 = R
  rw [k_rup_Base_Implied_0_is] at hh
  subst hh
  kernel_rfl

theorem l_rup_Base_Implied_0_eq (fuel d : Nat) (n : Nat) (x0 : Pt) (x5 : Sl) (x17 : Sl) (x18 : Int) (x19 : Int) (h : AHeap) :
    l_rup_Base_Implied_0 fuel d (n + 1) [(0, (AVal.ptr x0)), (5, (AVal.slice x5)), (17, (AVal.slice x17)), (18, (AVal.int .i64 x18)), (19, (AVal.int .i64 x19))] h =
  (bif (decide (x19 < x18)) then ((AHeap.addr h 1 x17 x19).bind fun p1 =>
    (AHeap.cell h p1).bind fun u2 =>
    (AVal.int? .i64 u2).bind fun n3 =>
    (AHeap.append h false 1 8 x5 1 [(AVal.int .i64 (IntKind.wrap .i64 (0 - n3)))]).bind fun a4 =>
    l_rup_Base_Implied_0 fuel d n [(0, (AVal.ptr x0)), (5, (AVal.slice a4.1)), (17, (AVal.slice x17)), (18, (AVal.int .i64 x18)), (19, (AVal.int .i64 (IntKind.wrap .i64 (x19 + (1 : Int)))))] a4.2) else (some ((.exit 0), [(0, (AVal.ptr x0)), (5, (AVal.slice x5))], h))) := by
  generalize hh : l_rup_Base_Implied_0 = R
  rw [l_rup_Base_Implied_0_is] at hh
  subst hh
  kernel_rfl

theorem k_rup_Base_Implied_0_x0 (fuel d : Nat) (x0 : Pt) (x5 : Sl) (h : AHeap) :
    k_rup_Base_Implied_0 fuel d (.exit 0) [(0, (AVal.ptr x0)), (5, (AVal.slice x5))] h =
  (run fuel d F_rup_Base_closure [(AVal.ptr x0), (AVal.slice x5)] h).bind fun r1 =>
    (bif AVal.isTup 2 r1.1 then ((AVal.comp 0 r1.1).bind fun u2 =>
    (AVal.ptr? u2).bind fun p3 =>
    (AVal.comp 1 r1.1).bind fun u4 =>
    (AVal.bool? u4).bind fun b5 =>
    some ((AVal.bool (!b5)), r1.2)) else none) := by
  generalize hh : run = R
  rw [run_is] at hh
  subst hh
  generalize hh : k_rup_Base_Implied_0 = R
  rw [k_rup_Base_Implied_0_is] at hh
  subst hh
  kernel_rfl

theorem e_skolemworld_Number (fuel d : Nat) (x0 : Int) (x1 : Int) (h : AHeap) :
    brun fuel (d + 1) F_skolemworld_Number [(AVal.int .i64 x0), (AVal.int .i64 x1)] h =
  (bif decide (x1 = 0) then (none) else ((bif (decide ((Int.tmod x0 x1) < (0 : Int))) then (some ((AVal.int .i64 (IntKind.wrap .i64 ((Int.tmod x0 x1) + x1))), h)) else (some ((AVal.int .i64 (Int.tmod x0 x1)), h))))) := by
  generalize hh : brun = R
  rw [brun_is] at hh
  subst hh
  kernel_rfl

theorem e_rup_Base_Len (fuel d : Nat) (x0 : Pt) (h : AHeap) :
    run fuel (d + 1) F_rup_Base_Len [(AVal.ptr x0)] h =
  (Pt.chk x0).bind fun p1 =>
    (Pt.field 5 p1).bind fun p2 =>
    (AHeap.cell h p2).bind fun u3 =>
    (AVal.int? .i64 u3).bind fun n4 =>
    some ((AVal.int .i64 n4), h) := by
  generalize hh : run = R
  rw [run_is] at hh
  subst hh
  kernel_rfl

noncomputable def s_skolemref_Ints_0 (fuel d : Nat) : Run := fun fr h k => aexec (Cf fuel F_skolemref_Ints) false (acall (C fuel) false d) (acall (C fuel) true d) 22 (csub [true, true, false, true, false, false] (fbody Go.Proofs.Tryd.f22)) (asub [true, true, false, true, false, false] an22) fr h k

noncomputable def l_skolemref_Ints_0r (fuel d : Nat) (n : Nat) (fr : Fr) (h : AHeap) : Option (AExit × Fr × AHeap) := aloop (s_skolemref_Ints_0 fuel d) (some [0, 3, 4]) n fr h (kOut [3])

noncomputable def l_skolemref_Ints_0 : Nat → Nat → Nat → Fr → AHeap → Option (AExit × Fr × AHeap) := hide l_skolemref_Ints_0r

theorem l_skolemref_Ints_0_is : l_skolemref_Ints_0 = l_skolemref_Ints_0r := hide_eq _

noncomputable def k_skolemref_Ints_0r (fuel d : Nat) : AExit → Fr → AHeap → Option (AVal × AHeap) := (kBlock 0 (kSeq (Cf fuel F_skolemref_Ints) false (acall (C fuel) false d) (acall (C fuel) true d) 22 (csub [true, true, true] (fbody Go.Proofs.Tryd.f22)) (asub [true, true, true] an22) (kRet (Cf fuel F_skolemref_Ints) Go.Proofs.Tryd.f22.results.toList)))

noncomputable def k_skolemref_Ints_0 : Nat → Nat → AExit → Fr → AHeap → Option (AVal × AHeap) := hide k_skolemref_Ints_0r

theorem k_skolemref_Ints_0_is : k_skolemref_Ints_0 = k_skolemref_Ints_0r := hide_eq _

theorem e_skolemref_Ints (fuel d : Nat) (x0 : Sl) (h : AHeap) :
    run fuel (d + 1) F_skolemref_Ints [(AVal.slice x0)] h =
  (bif (decide ((0 : Int) ≤ ((x0.len : Nat) : Int)) && decide (((x0.len : Nat) : Int) * 8 ≤ 140737488355328) && decide (((x0.len : Nat) : Int) ≤ 140737488355328)) then ((l_skolemref_Ints_0 fuel d fuel [(0, (AVal.slice x0)), (3, (AVal.slice (Sl.mk ⟨AHeap.next h, 0, 0⟩ 0 (eqI (0 : Int) ((x0.len : Nat) : Int))))), (4, (AVal.int .i64 (0 : Int)))] (AHeap.push h 1 [])).bind fun p1 =>
    k_skolemref_Ints_0 fuel d p1.1 p1.2.1 p1.2.2) else (none)) := by
  generalize hh : run = R
  rw [run_is] at hh
  subst hh
  generalize hh : l_skolemref_Ints_0 = R
  rw [l_skolemref_Ints_0_is] at hh
  subst hh
  generalize hh : k_skolemref_Ints_0 = R
  rw [k_skolemref_Ints_0_is] at hh
  subst hh
  kernel_rfl

theorem l_skolemref_Ints_0_eq (fuel d : Nat) (n : Nat) (x0 : Sl) (x3 : Sl) (x4 : Int) (h : AHeap) :
    l_skolemref_Ints_0 fuel d (n + 1) [(0, (AVal.slice x0)), (3, (AVal.slice x3)), (4, (AVal.int .i64 x4))] h =
  (bif (decide (x4 < ((x0.len : Nat) : Int))) then ((AHeap.addr h 1 x0 x4).bind fun p1 =>
    (AHeap.cell h p1).bind fun u2 =>
    (AVal.int? .i64 u2).bind fun n3 =>
    (AHeap.append h false 1 8 x3 1 [(AVal.int .i64 n3)]).bind fun a4 =>
    l_skolemref_Ints_0 fuel d n [(0, (AVal.slice x0)), (3, (AVal.slice a4.1)), (4, (AVal.int .i64 (IntKind.wrap .i64 (x4 + (1 : Int)))))] a4.2) else (some ((.exit 0), [(3, (AVal.slice x3))], h))) := by
  generalize hh : l_skolemref_Ints_0 = R
  rw [l_skolemref_Ints_0_is] at hh
  subst hh
  kernel_rfl

theorem k_skolemref_Ints_0_x0 (fuel d : Nat) (x3 : Sl) (h : AHeap) :
    k_skolemref_Ints_0 fuel d (.exit 0) [(3, (AVal.slice x3))] h =
  some ((AVal.slice x3), h) := by
  generalize hh : k_skolemref_Ints_0 = R
  rw [k_skolemref_Ints_0_is] at hh
  subst hh
  kernel_rfl

noncomputable def s_rup_Base_Add_0 (fuel d : Nat) : Run := fun fr h k => aexec (Cf fuel F_rup_Base_Add) false (acall (C fuel) false d) (acall (C fuel) true d) 84 (csub [true, true, true, true, true, false, true, false, false] (fbody Go.Proofs.Tryd.f23)) (asub [true, true, true, true, true, false, true, false, false] an23) fr h k

noncomputable def l_rup_Base_Add_0r (fuel d : Nat) (n : Nat) (fr : Fr) (h : AHeap) : Option (AExit × Fr × AHeap) := aloop (s_rup_Base_Add_0 fuel d) (some [0, 5, 7, 43, 44, 45]) n fr h (kOut [0, 5, 7])

noncomputable def l_rup_Base_Add_0 : Nat → Nat → Nat → Fr → AHeap → Option (AExit × Fr × AHeap) := hide l_rup_Base_Add_0r

theorem l_rup_Base_Add_0_is : l_rup_Base_Add_0 = l_rup_Base_Add_0r := hide_eq _

noncomputable def k_rup_Base_Add_0r (fuel d : Nat) : AExit → Fr → AHeap → Option (AVal × AHeap) := (kBlock 0 (kSeq (Cf fuel F_rup_Base_Add) false (acall (C fuel) false d) (acall (C fuel) true d) 84 (csub [true, true, true, true, true, true] (fbody Go.Proofs.Tryd.f23)) (asub [true, true, true, true, true, true] an23) (kRet (Cf fuel F_rup_Base_Add) Go.Proofs.Tryd.f23.results.toList)))

noncomputable def k_rup_Base_Add_0 : Nat → Nat → AExit → Fr → AHeap → Option (AVal × AHeap) := hide k_rup_Base_Add_0r

theorem k_rup_Base_Add_0_is : k_rup_Base_Add_0 = k_rup_Base_Add_0r := hide_eq _

noncomputable def k_rup_Base_Add_1r (fuel d : Nat) : AExit → Fr → AHeap → Option (AVal × AHeap) := (kSeq (Cf fuel F_rup_Base_Add) false (acall (C fuel) false d) (acall (C fuel) true d) 84 (csub [true, true, true, true, true, true, true] (fbody Go.Proofs.Tryd.f23)) (asub [true, true, true, true, true, true, true] an23) (kRet (Cf fuel F_rup_Base_Add) Go.Proofs.Tryd.f23.results.toList))

noncomputable def k_rup_Base_Add_1 : Nat → Nat → AExit → Fr → AHeap → Option (AVal × AHeap) := hide k_rup_Base_Add_1r

theorem k_rup_Base_Add_1_is : k_rup_Base_Add_1 = k_rup_Base_Add_1r := hide_eq _

theorem e_rup_Base_Add (fuel d : Nat) (x0 : Pt) (x1 : Sl) (h : AHeap) :
    run fuel (d + 1) F_rup_Base_Add [(AVal.ptr x0), (AVal.slice x1)] h =
  (run fuel d F_rup_Base_right [(AVal.ptr x0), (AVal.slice x1)] h).bind fun r1 =>
    (AVal.bool? r1.1).bind fun b2 =>
    (bif (!b2) then (some ((AVal.bool false), r1.2)) else ((run fuel d F_lits_Norm [(AVal.slice x1)] r1.2).bind fun r3 =>
    (bif AVal.isTup 2 r3.1 then ((AVal.comp 0 r3.1).bind fun u4 =>
    (AVal.slice? u4).bind fun s5 =>
    (AVal.comp 1 r3.1).bind fun u6 =>
    (AVal.bool? u6).bind fun b7 =>
    (Pt.chk x0).bind fun p8 =>
    (Pt.field 1 p8).bind fun p9 =>
    (AHeap.cell r3.2 p9).bind fun u10 =>
    (AVal.slice? u10).bind fun s11 =>
    (Pt.chk x0).bind fun p12 =>
    (Pt.field 1 p12).bind fun p13 =>
    (AHeap.cell r3.2 p13).bind fun u14 =>
    (AVal.slice? u14).bind fun s15 =>
    (AHeap.append r3.2 false 1 24 s15 1 [(AVal.slice s5)]).bind fun a16 =>
    (Pt.chk x0).bind fun p17 =>
    (Pt.field 2 p17).bind fun p18 =>
    (AHeap.cell a16.2 p18).bind fun u19 =>
    (AVal.slice? u19).bind fun s20 =>
    same ((AHeap.cell r3.2 p18).bind fun u29 =>
    (AVal.slice? u29).bind fun s30 =>
    some ((AVal.slice s30), r3.2)) ((AVal.slice s20), r3.2) (
    (AHeap.append a16.2 false 1 1 s20 1 [(AVal.bool true)]).bind fun a21 =>
    (Pt.chk x0).bind fun p22 =>
    (Pt.field 1 p22).bind fun p23 =>
    (AHeap.storeAt a21.2 [(AVal.slice a16.1)] p23).bind fun h24 =>
    (Pt.chk x0).bind fun p25 =>
    (Pt.field 2 p25).bind fun p26 =>
    (AHeap.storeAt h24 [(AVal.slice a21.1)] p26).bind fun h27 =>
    (l_rup_Base_Add_0 fuel d fuel [(0, (AVal.ptr x0)), (5, (AVal.slice s5)), (7, (AVal.int .i64 ((s11.len : Nat) : Int))), (43, (AVal.slice s5)), (44, (AVal.int .i64 ((s5.len : Nat) : Int))), (45, (AVal.int .i64 (0 : Int)))] h27).bind fun p28 =>
    k_rup_Base_Add_0 fuel d p28.1 p28.2.1 p28.2.2)) else none))) := by
  generalize hh : run = R
  rw [run_is] at hh
  subst hh
  generalize hh : l_rup_Base_Add_0 = R
  rw [l_rup_Base_Add_0_is] at hh
  subst hh
  generalize hh : k_rup_Base_Add_0 = R
  rw [k_rup_Base_Add_0_is] at hh
  subst hh
  kernel_rfl

theorem l_rup_Base_Add_0_eq (fuel d : Nat) (n : Nat) (x0 : Pt) (x5 : Sl) (x7 : Int) (x43 : Sl) (x44 : Int) (x45 : Int) (h : AHeap) :
    l_rup_Base_Add_0 fuel d (n + 1) [(0, (AVal.ptr x0)), (5, (AVal.slice x5)), (7, (AVal.int .i64 x7)), (43, (AVal.slice x43)), (44, (AVal.int .i64 x44)), (45, (AVal.int .i64 x45))] h =
  (bif (decide (x45 < x44)) then ((AHeap.addr h 1 x43 x45).bind fun p1 =>
    (AHeap.cell h p1).bind fun u2 =>
    (AVal.int? .i64 u2).bind fun n3 =>
    (Pt.chk x0).bind fun p4 =>
    (Pt.field 3 p4).bind fun p5 =>
    (AHeap.cell h p5).bind fun u6 =>
    (AVal.map? u6).bind fun m7 =>
    (Pt.chk x0).bind fun p8 =>
    (Pt.field 3 p8).bind fun p9 =>
    (AHeap.cell h p9).bind fun u10 =>
    (AVal.map? u10).bind fun m11 =>
    (AHeap.mapOf h m11).bind fun es12 =>
    (mfind (AVal.int .i64 n3) es12).bind fun r13 =>
    (AVal.slice? (mgot (AVal.slice Sl.nil) r13)).bind fun s14 =>
    (AHeap.append h false 1 8 s14 1 [(AVal.int .i64 x7)]).bind fun a15 =>
    same ((AHeap.cell a15.2 p5).bind fun u19 =>
    (AVal.map? u19).bind fun m20 =>
    some ((AVal.map m20), a15.2)) ((AVal.map m7), a15.2) (
    (m7).bind fun m16 =>
    ((a15.2.maps)[m16]?).bind fun es17 =>
    (mset (AVal.int .i64 n3) (AVal.slice a15.1) es17).bind fun es18 =>
    l_rup_Base_Add_0 fuel d n [(0, (AVal.ptr x0)), (5, (AVal.slice x5)), (7, (AVal.int .i64 x7)), (43, (AVal.slice x43)), (44, (AVal.int .i64 x44)), (45, (AVal.int .i64 (IntKind.wrap .i64 (x45 + (1 : Int)))))] (AHeap.setMap a15.2 m16 es18))) else (some ((.exit 0), [(0, (AVal.ptr x0)), (5, (AVal.slice x5)), (7, (AVal.int .i64 x7))], h))) := by
  generalize hh : l_rup_Base_Add_0 = R
  rw [l_rup_Base_Add_0_is] at hh
  subst hh
  kernel_rfl

theorem k_rup_Base_Add_0_x0 (fuel d : Nat) (x0 : Pt) (x5 : Sl) (x7 : Int) (h : AHeap) :
    k_rup_Base_Add_0 fuel d (.exit 0) [(0, (AVal.ptr x0)), (5, (AVal.slice x5)), (7, (AVal.int .i64 x7))] h =
  ((bif (decide (((x5.len : Nat) : Int) < (2 : Int))) then ((Pt.chk x0).bind fun p1 =>
    (Pt.field 4 p1).bind fun p2 =>
    (AHeap.cell h p2).bind fun u3 =>
    (AVal.slice? u3).bind fun s4 =>
    (AHeap.append h false 1 8 s4 1 [(AVal.int .i64 x7)]).bind fun a5 =>
    (Pt.chk x0).bind fun p6 =>
    (Pt.field 4 p6).bind fun p7 =>
    (AHeap.storeAt a5.2 [(AVal.slice a5.1)] p7).bind fun h8 =>
    some (.normal, [(0, (AVal.ptr x0))], h8)) else (some (.normal, [(0, (AVal.ptr x0))], h)))).bind fun p9 =>
    k_rup_Base_Add_1 fuel d p9.1 p9.2.1 p9.2.2 := by
  generalize hh : k_rup_Base_Add_0 = R
  rw [k_rup_Base_Add_0_is] at hh
  subst hh
  generalize hh : k_rup_Base_Add_1 = R
  rw [k_rup_Base_Add_1_is] at hh
  subst hh
  kernel_rfl

theorem k_rup_Base_Add_1_n (fuel d : Nat) (x0 : Pt) (h : AHeap) :
    k_rup_Base_Add_1 fuel d .normal [(0, (AVal.ptr x0))] h =
  (Pt.chk x0).bind fun p1 =>
    (Pt.field 5 p1).bind fun p2 =>
    (AHeap.cell h p2).bind fun u3 =>
    (AVal.int? .i64 u3).bind fun n4 =>
    (Pt.chk x0).bind fun p5 =>
    (Pt.field 5 p5).bind fun p6 =>
    (AHeap.storeAt h [(AVal.int .i64 (IntKind.wrap .i64 (n4 + (1 : Int))))] p6).bind fun h7 =>
    some ((AVal.bool true), h7) := by
  generalize hh : k_rup_Base_Add_1 = R
  rw [k_rup_Base_Add_1_is] at hh
  subst hh
  kernel_rfl

theorem e_rup_Base_Has (fuel d : Nat) (x0 : Pt) (x1 : Sl) (h : AHeap) :
    run fuel (d + 1) F_rup_Base_Has [(AVal.ptr x0), (AVal.slice x1)] h =
  (run fuel d F_rup_Base_find [(AVal.ptr x0), (AVal.slice x1)] h).bind fun r1 =>
    (AVal.int? .i64 r1.1).bind fun n2 =>
    some ((AVal.bool (decide ((0 : Int) ≤ n2))), r1.2) := by
  generalize hh : run = R
  rw [run_is] at hh
  subst hh
  kernel_rfl

noncomputable def s_rup_Base_Drop_0 (fuel d : Nat) : Run := fun fr h k => aexec (Cf fuel F_rup_Base_Drop) false (acall (C fuel) false d) (acall (C fuel) true d) 67 (csub [true, true, true, false, true, false, false] (fbody Go.Proofs.Tryd.f25)) (asub [true, true, true, false, true, false, false] an25) fr h k

noncomputable def l_rup_Base_Drop_0r (fuel d : Nat) (n : Nat) (fr : Fr) (h : AHeap) : Option (AExit × Fr × AHeap) := aloop (s_rup_Base_Drop_0 fuel d) (some [0, 5, 19, 20, 21]) n fr h (kOut [0, 5])

noncomputable def l_rup_Base_Drop_0 : Nat → Nat → Nat → Fr → AHeap → Option (AExit × Fr × AHeap) := hide l_rup_Base_Drop_0r

theorem l_rup_Base_Drop_0_is : l_rup_Base_Drop_0 = l_rup_Base_Drop_0r := hide_eq _

noncomputable def k_rup_Base_Drop_0r (fuel d : Nat) : AExit → Fr → AHeap → Option (AVal × AHeap) := (kBlock 0 (kSeq (Cf fuel F_rup_Base_Drop) false (acall (C fuel) false d) (acall (C fuel) true d) 67 (csub [true, true, true, true] (fbody Go.Proofs.Tryd.f25)) (asub [true, true, true, true] an25) (kRet (Cf fuel F_rup_Base_Drop) Go.Proofs.Tryd.f25.results.toList)))

noncomputable def k_rup_Base_Drop_0 : Nat → Nat → AExit → Fr → AHeap → Option (AVal × AHeap) := hide k_rup_Base_Drop_0r

theorem k_rup_Base_Drop_0_is : k_rup_Base_Drop_0 = k_rup_Base_Drop_0r := hide_eq _

theorem e_rup_Base_Drop (fuel d : Nat) (x0 : Pt) (x1 : Sl) (h : AHeap) :
    run fuel (d + 1) F_rup_Base_Drop [(AVal.ptr x0), (AVal.slice x1)] h =
  (run fuel d F_rup_Base_find [(AVal.ptr x0), (AVal.slice x1)] h).bind fun r1 =>
    (AVal.int? .i64 r1.1).bind fun n2 =>
    (bif (decide (n2 < (0 : Int))) then (some ((AVal.bool false), r1.2)) else ((Pt.chk x0).bind fun p3 =>
    (Pt.field 1 p3).bind fun p4 =>
    (AHeap.cell r1.2 p4).bind fun u5 =>
    (AVal.slice? u5).bind fun s6 =>
    (AHeap.addr r1.2 1 s6 n2).bind fun p7 =>
    (AHeap.cell r1.2 p7).bind fun u8 =>
    (AVal.slice? u8).bind fun s9 =>
    (l_rup_Base_Drop_0 fuel d fuel [(0, (AVal.ptr x0)), (5, (AVal.int .i64 n2)), (19, (AVal.slice s9)), (20, (AVal.int .i64 ((s9.len : Nat) : Int))), (21, (AVal.int .i64 (0 : Int)))] r1.2).bind fun p10 =>
    k_rup_Base_Drop_0 fuel d p10.1 p10.2.1 p10.2.2)) := by
  generalize hh : run = R
  rw [run_is] at hh
  subst hh
  generalize hh : l_rup_Base_Drop_0 = R
  rw [l_rup_Base_Drop_0_is] at hh
  subst hh
  generalize hh : k_rup_Base_Drop_0 = R
  rw [k_rup_Base_Drop_0_is] at hh
  subst hh
  kernel_rfl

theorem l_rup_Base_Drop_0_eq (fuel d : Nat) (n : Nat) (x0 : Pt) (x5 : Int) (x19 : Sl) (x20 : Int) (x21 : Int) (h : AHeap) :
    l_rup_Base_Drop_0 fuel d (n + 1) [(0, (AVal.ptr x0)), (5, (AVal.int .i64 x5)), (19, (AVal.slice x19)), (20, (AVal.int .i64 x20)), (21, (AVal.int .i64 x21))] h =
  (bif (decide (x21 < x20)) then ((AHeap.addr h 1 x19 x21).bind fun p1 =>
    (AHeap.cell h p1).bind fun u2 =>
    (AVal.int? .i64 u2).bind fun n3 =>
    (Pt.chk x0).bind fun p4 =>
    (Pt.field 3 p4).bind fun p5 =>
    (AHeap.cell h p5).bind fun u6 =>
    (AVal.map? u6).bind fun m7 =>
    (Pt.chk x0).bind fun p8 =>
    (Pt.field 3 p8).bind fun p9 =>
    (AHeap.cell h p9).bind fun u10 =>
    (AVal.map? u10).bind fun m11 =>
    (AHeap.mapOf h m11).bind fun es12 =>
    (mfind (AVal.int .i64 n3) es12).bind fun r13 =>
    (AVal.slice? (mgot (AVal.slice Sl.nil) r13)).bind fun s14 =>
    (run fuel d F_rup_gone [(AVal.slice s14), (AVal.int .i64 x5)] h).bind fun r15 =>
    (AVal.slice? r15.1).bind fun s16 =>
    same ((AHeap.cell r15.2 p5).bind fun u20 =>
    (AVal.map? u20).bind fun m21 =>
    some ((AVal.map m21), r15.2)) ((AVal.map m7), r15.2) (
    (m7).bind fun m17 =>
    ((r15.2.maps)[m17]?).bind fun es18 =>
    (mset (AVal.int .i64 n3) (AVal.slice s16) es18).bind fun es19 =>
    l_rup_Base_Drop_0 fuel d n [(0, (AVal.ptr x0)), (5, (AVal.int .i64 x5)), (19, (AVal.slice x19)), (20, (AVal.int .i64 x20)), (21, (AVal.int .i64 (IntKind.wrap .i64 (x21 + (1 : Int)))))] (AHeap.setMap r15.2 m17 es19))) else (some ((.exit 0), [(0, (AVal.ptr x0)), (5, (AVal.int .i64 x5))], h))) := by
  generalize hh : run = R
  rw [run_is] at hh
  subst hh
  generalize hh : l_rup_Base_Drop_0 = R
  rw [l_rup_Base_Drop_0_is] at hh
  subst hh
  kernel_rfl

theorem k_rup_Base_Drop_0_x0 (fuel d : Nat) (x0 : Pt) (x5 : Int) (h : AHeap) :
    k_rup_Base_Drop_0 fuel d (.exit 0) [(0, (AVal.ptr x0)), (5, (AVal.int .i64 x5))] h =
  (Pt.chk x0).bind fun p1 =>
    (Pt.field 4 p1).bind fun p2 =>
    (AHeap.cell h p2).bind fun u3 =>
    (AVal.slice? u3).bind fun s4 =>
    (run fuel d F_rup_gone [(AVal.slice s4), (AVal.int .i64 x5)] h).bind fun r5 =>
    (AVal.slice? r5.1).bind fun s6 =>
    (Pt.chk x0).bind fun p7 =>
    (Pt.field 4 p7).bind fun p8 =>
    (AHeap.storeAt r5.2 [(AVal.slice s6)] p8).bind fun h9 =>
    (Pt.chk x0).bind fun p10 =>
    (Pt.field 1 p10).bind fun p11 =>
    (AHeap.cell h9 p11).bind fun u12 =>
    (AVal.slice? u12).bind fun s13 =>
    (Pt.chk x0).bind fun p14 =>
    (Pt.field 2 p14).bind fun p15 =>
    (AHeap.cell h9 p15).bind fun u16 =>
    (AVal.slice? u16).bind fun s17 =>
    (AHeap.addr h9 1 s13 x5).bind fun p18 =>
    (AHeap.storeAt h9 [(AVal.slice Sl.nil)] p18).bind fun h19 =>
    (AHeap.addr h19 1 s17 x5).bind fun p20 =>
    (AHeap.storeAt h19 [(AVal.bool false)] p20).bind fun h21 =>
    (Pt.chk x0).bind fun p22 =>
    (Pt.field 5 p22).bind fun p23 =>
    (AHeap.cell h21 p23).bind fun u24 =>
    (AVal.int? .i64 u24).bind fun n25 =>
    (Pt.chk x0).bind fun p26 =>
    (Pt.field 5 p26).bind fun p27 =>
    (AHeap.storeAt h21 [(AVal.int .i64 (IntKind.wrap .i64 (n25 - (1 : Int))))] p27).bind fun h28 =>
    some ((AVal.bool true), h28) := by
  generalize hh : run = R
  rw [run_is] at hh
  subst hh
  generalize hh : k_rup_Base_Drop_0 = R
  rw [k_rup_Base_Drop_0_is] at hh
  subst hh
  kernel_rfl

theorem e_assign_Cut (fuel d : Nat) (x0 : Int) (h : AHeap) :
    run fuel (d + 1) F_assign_Cut [(AVal.int .i64 x0)] h =
  some ((AVal.int .i64 (bif decide ((4000 : Int) < (bif decide (x0 < (0 : Int)) then (0 : Int) else x0)) then (4000 : Int) else (bif decide (x0 < (0 : Int)) then (0 : Int) else x0))), h) := by
  generalize hh : run = R
  rw [run_is] at hh
  subst hh
  kernel_rfl

theorem e_rup_Base_right (fuel d : Nat) (x0 : Pt) (x1 : Sl) (h : AHeap) :
    run fuel (d + 1) F_rup_Base_right [(AVal.ptr x0), (AVal.slice x1)] h =
  (run fuel d F_slices_ContainsFunc_s_int_int [(AVal.slice x1), (AVal.func F_rup_Base_right_1 [(Pt.mk ⟨AHeap.next h, 0, 0⟩ 1)])] (AHeap.push h 1 [(AVal.ptr x0)])).bind fun r1 =>
    (AVal.bool? r1.1).bind fun b2 =>
    some ((AVal.bool (!b2)), r1.2) := by
  generalize hh : run = R
  rw [run_is] at hh
  subst hh
  kernel_rfl

noncomputable def s_rup_Base_closure_0 (fuel d : Nat) : Run := fun fr h k => aexec (Cf fuel F_rup_Base_closure) false (acall (C fuel) false d) (acall (C fuel) true d) 75 (csub [true, true, true, true, true, false, true, false, false] (fbody Go.Proofs.Tryd.f38)) (asub [true, true, true, true, true, false, true, false, false] an38) fr h k

noncomputable def l_rup_Base_closure_0r (fuel d : Nat) (n : Nat) (fr : Fr) (h : AHeap) : Option (AExit × Fr × AHeap) := aloop (s_rup_Base_closure_0 fuel d) (some [2, 6, 7, 8, 9, 24, 25, 26]) n fr h (kOut [2, 4, 5, 6, 7, 9])

noncomputable def l_rup_Base_closure_0 : Nat → Nat → Nat → Fr → AHeap → Option (AExit × Fr × AHeap) := hide l_rup_Base_closure_0r

theorem l_rup_Base_closure_0_is : l_rup_Base_closure_0 = l_rup_Base_closure_0r := hide_eq _

noncomputable def k_rup_Base_closure_0r (fuel d : Nat) : AExit → Fr → AHeap → Option (AVal × AHeap) := (kBlock 0 (kSeq (Cf fuel F_rup_Base_closure) false (acall (C fuel) false d) (acall (C fuel) true d) 75 (csub [true, true, true, true, true, true] (fbody Go.Proofs.Tryd.f38)) (asub [true, true, true, true, true, true] an38) (kRet (Cf fuel F_rup_Base_closure) Go.Proofs.Tryd.f38.results.toList)))

noncomputable def k_rup_Base_closure_0 : Nat → Nat → AExit → Fr → AHeap → Option (AVal × AHeap) := hide k_rup_Base_closure_0r

theorem k_rup_Base_closure_0_is : k_rup_Base_closure_0 = k_rup_Base_closure_0r := hide_eq _

noncomputable def s_rup_Base_closure_1 (fuel d : Nat) : Run := fun fr h k => aexec (Cf fuel F_rup_Base_closure) false (acall (C fuel) false d) (acall (C fuel) true d) 75 (csub [true, true, true, true, true, true, false, true, false, false] (fbody Go.Proofs.Tryd.f38)) (asub [true, true, true, true, true, true, false, true, false, false] an38) fr h k

noncomputable def l_rup_Base_closure_1r (fuel d : Nat) (n : Nat) (fr : Fr) (h : AHeap) : Option (AExit × Fr × AHeap) := aloop (s_rup_Base_closure_1 fuel d) (some [2, 6, 7, 9, 38, 39, 40]) n fr h (kOut [2, 4, 5, 6, 7, 9])

noncomputable def l_rup_Base_closure_1 : Nat → Nat → Nat → Fr → AHeap → Option (AExit × Fr × AHeap) := hide l_rup_Base_closure_1r

theorem l_rup_Base_closure_1_is : l_rup_Base_closure_1 = l_rup_Base_closure_1r := hide_eq _

noncomputable def k_rup_Base_closure_1r (fuel d : Nat) : AExit → Fr → AHeap → Option (AVal × AHeap) := (kBlock 2 (kSeq (Cf fuel F_rup_Base_closure) false (acall (C fuel) false d) (acall (C fuel) true d) 75 (csub [true, true, true, true, true, true, true] (fbody Go.Proofs.Tryd.f38)) (asub [true, true, true, true, true, true, true] an38) (kRet (Cf fuel F_rup_Base_closure) Go.Proofs.Tryd.f38.results.toList)))

noncomputable def k_rup_Base_closure_1 : Nat → Nat → AExit → Fr → AHeap → Option (AVal × AHeap) := hide k_rup_Base_closure_1r

theorem k_rup_Base_closure_1_is : k_rup_Base_closure_1 = k_rup_Base_closure_1r := hide_eq _

noncomputable def s_rup_Base_closure_2 (fuel d : Nat) : Run := fun fr h k => aexec (Cf fuel F_rup_Base_closure) false (acall (C fuel) false d) (acall (C fuel) true d) 75 (csub [true, true, true, true, true, true, true, false, false, false] (fbody Go.Proofs.Tryd.f38)) (asub [true, true, true, true, true, true, true, false, false, false] an38) fr h k

noncomputable def l_rup_Base_closure_2r (fuel d : Nat) (n : Nat) (fr : Fr) (h : AHeap) : Option (AExit × Fr × AHeap) := aloop (s_rup_Base_closure_2 fuel d) (some [2, 6, 7, 9]) n fr h (kOut [4, 5, 6])

noncomputable def l_rup_Base_closure_2 : Nat → Nat → Nat → Fr → AHeap → Option (AExit × Fr × AHeap) := hide l_rup_Base_closure_2r

theorem l_rup_Base_closure_2_is : l_rup_Base_closure_2 = l_rup_Base_closure_2r := hide_eq _

noncomputable def k_rup_Base_closure_2r (fuel d : Nat) : AExit → Fr → AHeap → Option (AVal × AHeap) := (kBlock 4 (kSeq (Cf fuel F_rup_Base_closure) false (acall (C fuel) false d) (acall (C fuel) true d) 75 (csub [true, true, true, true, true, true, true, true] (fbody Go.Proofs.Tryd.f38)) (asub [true, true, true, true, true, true, true, true] an38) (kRet (Cf fuel F_rup_Base_closure) Go.Proofs.Tryd.f38.results.toList)))

noncomputable def k_rup_Base_closure_2 : Nat → Nat → AExit → Fr → AHeap → Option (AVal × AHeap) := hide k_rup_Base_closure_2r

theorem k_rup_Base_closure_2_is : k_rup_Base_closure_2 = k_rup_Base_closure_2r := hide_eq _

noncomputable def s_rup_Base_closure_3 (fuel d : Nat) : Run := fun fr h k => aexec (Cf fuel F_rup_Base_closure) false (acall (C fuel) false d) (acall (C fuel) true d) 75 (csub [true, true, true, true, true, true, true, false, false, false, true, false, true, true, true, false, false] (fbody Go.Proofs.Tryd.f38)) (asub [true, true, true, true, true, true, true, false, false, false, true, false, true, true, true, false, false] an38) fr h k

noncomputable def l_rup_Base_closure_3r (fuel d : Nat) (n : Nat) (fr : Fr) (h : AHeap) : Option (AExit × Fr × AHeap) := aloop (s_rup_Base_closure_3 fuel d) (some [2, 6, 7, 9, 63, 64, 65]) n fr h (kOut [2, 4, 5, 6, 7, 9])

noncomputable def l_rup_Base_closure_3 : Nat → Nat → Nat → Fr → AHeap → Option (AExit × Fr × AHeap) := hide l_rup_Base_closure_3r

theorem l_rup_Base_closure_3_is : l_rup_Base_closure_3 = l_rup_Base_closure_3r := hide_eq _

noncomputable def k_rup_Base_closure_3r (fuel d : Nat) (n : Nat) : AExit → Fr → AHeap → Option (AExit × Fr × AHeap) := (kBlock 6 (kBlock 5 (kLoop (s_rup_Base_closure_2 fuel d) (some [2, 6, 7, 9]) n (kOut [4, 5, 6]))))

noncomputable def k_rup_Base_closure_3 : Nat → Nat → Nat → AExit → Fr → AHeap → Option (AExit × Fr × AHeap) := hide k_rup_Base_closure_3r

theorem k_rup_Base_closure_3_is : k_rup_Base_closure_3 = k_rup_Base_closure_3r := hide_eq _

theorem e_rup_Base_closure (fuel d : Nat) (x0 : Pt) (x1 : Sl) (h : AHeap) :
    run fuel (d + 1) F_rup_Base_closure [(AVal.ptr x0), (AVal.slice x1)] h =
  (AHeap.cell (AHeap.push h 1 [(AVal.ptr x0)]) (Pt.mk ⟨AHeap.next h, 0, 0⟩ 1)).bind fun u1 =>
    (AVal.ptr? u1).bind fun p2 =>
    (Pt.chk p2).bind fun p3 =>
    (Pt.field 0 p3).bind fun p4 =>
    (AHeap.cell (AHeap.push h 1 [(AVal.ptr x0)]) p4).bind fun u5 =>
    (AVal.int? .i64 u5).bind fun n6 =>
    (run fuel d F_assign_New [(AVal.int .i64 n6)] (AHeap.push h 1 [(AVal.ptr x0)])).bind fun r7 =>
    (AVal.ptr? r7.1).bind fun p8 =>
    (AHeap.storeAt (AHeap.push r7.2 1 [(AVal.ptr Pt.nil)]) [(AVal.ptr p8)] (Pt.mk ⟨AHeap.next r7.2, 0, 0⟩ 1)).bind fun h9 =>
    (AHeap.storeAt (AHeap.push (AHeap.push h9 1 [(AVal.slice Sl.nil)]) 1 [AVal.nilfunc]) [(AVal.func F_rup_Base_closure_1 [(Pt.mk ⟨AHeap.next r7.2, 0, 0⟩ 1), (Pt.mk ⟨AHeap.next h9, 0, 0⟩ 1)])] (Pt.mk ⟨AHeap.next (AHeap.push h9 1 [(AVal.slice Sl.nil)]), 0, 0⟩ 1)).bind fun h10 =>
    (l_rup_Base_closure_0 fuel d fuel [(2, (AVal.ptr (Pt.mk ⟨AHeap.next h, 0, 0⟩ 1))), (6, (AVal.ptr (Pt.mk ⟨AHeap.next r7.2, 0, 0⟩ 1))), (7, (AVal.ptr (Pt.mk ⟨AHeap.next h9, 0, 0⟩ 1))), (8, (AVal.ptr (Pt.mk ⟨AHeap.next (AHeap.push h9 1 [(AVal.slice Sl.nil)]), 0, 0⟩ 1))), (9, (AVal.func F_rup_Base_closure_2 [(Pt.mk ⟨AHeap.next r7.2, 0, 0⟩ 1), (Pt.mk ⟨AHeap.next h, 0, 0⟩ 1), (Pt.mk ⟨AHeap.next (AHeap.push h9 1 [(AVal.slice Sl.nil)]), 0, 0⟩ 1)])), (24, (AVal.slice x1)), (25, (AVal.int .i64 ((x1.len : Nat) : Int))), (26, (AVal.int .i64 (0 : Int)))] h10).bind fun p11 =>
    k_rup_Base_closure_0 fuel d p11.1 p11.2.1 p11.2.2 := by
  generalize hh : run = R
  rw [run_is] at hh
  subst hh
  generalize hh : l_rup_Base_closure_0 = R
  rw [l_rup_Base_closure_0_is] at hh
  subst hh
  generalize hh : k_rup_Base_closure_0 = R
  rw [k_rup_Base_closure_0_is] at hh
  subst hh
  kernel_rfl

theorem l_rup_Base_closure_0_eq (fuel d : Nat) (n : Nat) (x2 : Pt) (x6 : Pt) (x7 : Pt) (x8 : Pt) (x9f : Nat) (x9c : List Pt) (x24 : Sl) (x25 : Int) (x26 : Int) (h : AHeap) :
    l_rup_Base_closure_0 fuel d (n + 1) [(2, (AVal.ptr x2)), (6, (AVal.ptr x6)), (7, (AVal.ptr x7)), (8, (AVal.ptr x8)), (9, (AVal.func x9f x9c)), (24, (AVal.slice x24)), (25, (AVal.int .i64 x25)), (26, (AVal.int .i64 x26))] h =
  (bif (decide (x26 < x25)) then ((AHeap.addr h 1 x24 x26).bind fun p1 =>
    (AHeap.cell h p1).bind fun u2 =>
    (AVal.int? .i64 u2).bind fun n3 =>
    (AHeap.cell h x8).bind fun u4 =>
    (AVal.func? u4).bind fun fc5 =>
    (run fuel d fc5.1 ([(AVal.int .i64 n3)] ++ List.map AVal.ptr fc5.2) h).bind fun r6 =>
    (AVal.bool? r6.1).bind fun b7 =>
    (bif (!b7) then (some (.ret, [(2, (AVal.ptr x2)), (4, (AVal.ptr Pt.nil)), (5, (AVal.bool false)), (6, (AVal.ptr x6)), (7, (AVal.ptr x7)), (9, (AVal.func x9f x9c))], r6.2)) else (l_rup_Base_closure_0 fuel d n [(2, (AVal.ptr x2)), (6, (AVal.ptr x6)), (7, (AVal.ptr x7)), (8, (AVal.ptr x8)), (9, (AVal.func x9f x9c)), (24, (AVal.slice x24)), (25, (AVal.int .i64 x25)), (26, (AVal.int .i64 (IntKind.wrap .i64 (x26 + (1 : Int)))))] r6.2))) else (some ((.exit 0), [(2, (AVal.ptr x2)), (4, AVal.bot), (5, AVal.bot), (6, (AVal.ptr x6)), (7, (AVal.ptr x7)), (9, (AVal.func x9f x9c))], h))) := by
  generalize hh : run = R
  rw [run_is] at hh
  subst hh
  generalize hh : l_rup_Base_closure_0 = R
  rw [l_rup_Base_closure_0_is] at hh
  subst hh
  kernel_rfl

theorem k_rup_Base_closure_0_x0 (fuel d : Nat) (x2 : Pt) (x4 : AVal) (x5 : AVal) (x6 : Pt) (x7 : Pt) (x9f : Nat) (x9c : List Pt) (h : AHeap) :
    k_rup_Base_closure_0 fuel d (.exit 0) [(2, (AVal.ptr x2)), (4, x4), (5, x5), (6, (AVal.ptr x6)), (7, (AVal.ptr x7)), (9, (AVal.func x9f x9c))] h =
  (AHeap.cell h x2).bind fun u1 =>
    (AVal.ptr? u1).bind fun p2 =>
    (Pt.chk p2).bind fun p3 =>
    (Pt.field 4 p3).bind fun p4 =>
    (AHeap.cell h p4).bind fun u5 =>
    (AVal.slice? u5).bind fun s6 =>
    (l_rup_Base_closure_1 fuel d fuel [(2, (AVal.ptr x2)), (6, (AVal.ptr x6)), (7, (AVal.ptr x7)), (9, (AVal.func x9f x9c)), (38, (AVal.slice s6)), (39, (AVal.int .i64 ((s6.len : Nat) : Int))), (40, (AVal.int .i64 (0 : Int)))] h).bind fun p7 =>
    k_rup_Base_closure_1 fuel d p7.1 p7.2.1 p7.2.2 := by
  generalize hh : k_rup_Base_closure_0 = R
  rw [k_rup_Base_closure_0_is] at hh
  subst hh
  generalize hh : l_rup_Base_closure_1 = R
  rw [l_rup_Base_closure_1_is] at hh
  subst hh
  generalize hh : k_rup_Base_closure_1 = R
  rw [k_rup_Base_closure_1_is] at hh
  subst hh
  kernel_rfl

theorem k_rup_Base_closure_0_r (fuel d : Nat) (x2 : AVal) (x4 : Pt) (x5 : Bool) (x6 : AVal) (x7 : AVal) (x9 : AVal) (h : AHeap) :
    k_rup_Base_closure_0 fuel d .ret [(2, x2), (4, (AVal.ptr x4)), (5, (AVal.bool x5)), (6, x6), (7, x7), (9, x9)] h =
  some ((AVal.tup [(AVal.ptr x4), (AVal.bool x5)]), h) := by
  generalize hh : k_rup_Base_closure_0 = R
  rw [k_rup_Base_closure_0_is] at hh
  subst hh
  kernel_rfl

theorem l_rup_Base_closure_1_eq (fuel d : Nat) (n : Nat) (x2 : Pt) (x6 : Pt) (x7 : Pt) (x9f : Nat) (x9c : List Pt) (x38 : Sl) (x39 : Int) (x40 : Int) (h : AHeap) :
    l_rup_Base_closure_1 fuel d (n + 1) [(2, (AVal.ptr x2)), (6, (AVal.ptr x6)), (7, (AVal.ptr x7)), (9, (AVal.func x9f x9c)), (38, (AVal.slice x38)), (39, (AVal.int .i64 x39)), (40, (AVal.int .i64 x40))] h =
  (bif (decide (x40 < x39)) then ((AHeap.addr h 1 x38 x40).bind fun p1 =>
    (AHeap.cell h p1).bind fun u2 =>
    (AVal.int? .i64 u2).bind fun n3 =>
    (run fuel d x9f ([(AVal.int .i64 n3)] ++ List.map AVal.ptr x9c) h).bind fun r4 =>
    (AVal.bool? r4.1).bind fun b5 =>
    (bif (!b5) then (some (.ret, [(2, (AVal.ptr x2)), (4, (AVal.ptr Pt.nil)), (5, (AVal.bool false)), (6, (AVal.ptr x6)), (7, (AVal.ptr x7)), (9, (AVal.func x9f x9c))], r4.2)) else (l_rup_Base_closure_1 fuel d n [(2, (AVal.ptr x2)), (6, (AVal.ptr x6)), (7, (AVal.ptr x7)), (9, (AVal.func x9f x9c)), (38, (AVal.slice x38)), (39, (AVal.int .i64 x39)), (40, (AVal.int .i64 (IntKind.wrap .i64 (x40 + (1 : Int)))))] r4.2))) else (some ((.exit 2), [(2, (AVal.ptr x2)), (4, AVal.bot), (5, AVal.bot), (6, (AVal.ptr x6)), (7, (AVal.ptr x7)), (9, (AVal.func x9f x9c))], h))) := by
  generalize hh : run = R
  rw [run_is] at hh
  subst hh
  generalize hh : l_rup_Base_closure_1 = R
  rw [l_rup_Base_closure_1_is] at hh
  subst hh
  kernel_rfl

theorem k_rup_Base_closure_1_x2 (fuel d : Nat) (x2 : Pt) (x4 : AVal) (x5 : AVal) (x6 : Pt) (x7 : Pt) (x9f : Nat) (x9c : List Pt) (h : AHeap) :
    k_rup_Base_closure_1 fuel d (.exit 2) [(2, (AVal.ptr x2)), (4, x4), (5, x5), (6, (AVal.ptr x6)), (7, (AVal.ptr x7)), (9, (AVal.func x9f x9c))] h =
  (l_rup_Base_closure_2 fuel d fuel [(2, (AVal.ptr x2)), (6, (AVal.ptr x6)), (7, (AVal.ptr x7)), (9, (AVal.func x9f x9c))] h).bind fun p1 =>
    k_rup_Base_closure_2 fuel d p1.1 p1.2.1 p1.2.2 := by
  generalize hh : k_rup_Base_closure_1 = R
  rw [k_rup_Base_closure_1_is] at hh
  subst hh
  generalize hh : l_rup_Base_closure_2 = R
  rw [l_rup_Base_closure_2_is] at hh
  subst hh
  generalize hh : k_rup_Base_closure_2 = R
  rw [k_rup_Base_closure_2_is] at hh
  subst hh
  kernel_rfl

theorem k_rup_Base_closure_1_r (fuel d : Nat) (x2 : AVal) (x4 : Pt) (x5 : Bool) (x6 : AVal) (x7 : AVal) (x9 : AVal) (h : AHeap) :
    k_rup_Base_closure_1 fuel d .ret [(2, x2), (4, (AVal.ptr x4)), (5, (AVal.bool x5)), (6, x6), (7, x7), (9, x9)] h =
  some ((AVal.tup [(AVal.ptr x4), (AVal.bool x5)]), h) := by
  generalize hh : k_rup_Base_closure_1 = R
  rw [k_rup_Base_closure_1_is] at hh
  subst hh
  kernel_rfl

theorem l_rup_Base_closure_2_eq (fuel d : Nat) (n : Nat) (x2 : Pt) (x6 : Pt) (x7 : Pt) (x9f : Nat) (x9c : List Pt) (h : AHeap) :
    l_rup_Base_closure_2 fuel d (n + 1) [(2, (AVal.ptr x2)), (6, (AVal.ptr x6)), (7, (AVal.ptr x7)), (9, (AVal.func x9f x9c))] h =
  (AHeap.cell h x7).bind fun u1 =>
    (AVal.slice? u1).bind fun s2 =>
    (bif (decide ((0 : Int) < ((s2.len : Nat) : Int))) then ((AHeap.cell h x7).bind fun u3 =>
    (AVal.slice? u3).bind fun s4 =>
    (AHeap.addr h 1 s4 (0 : Int)).bind fun p5 =>
    (AHeap.cell h p5).bind fun u6 =>
    (AVal.int? .i64 u6).bind fun n7 =>
    (AHeap.cell h x7).bind fun u8 =>
    (AVal.slice? u8).bind fun s9 =>
    (aHi (none : Option AVal) (Sl.len s9)).bind fun hi10 =>
    (aLo (some (AVal.int .i64 (1 : Int))) hi10).bind fun lo11 =>
    (aMx (none : Option AVal) hi10).bind fun cl12 =>
    (bif (AHeap.hasSz h 1 s9) then ((AHeap.storeAt h [(AVal.slice (Sl.cut s9 1 lo11 hi10 cl12))] x7).bind fun h13 =>
    (AHeap.cell h13 x2).bind fun u14 =>
    (AVal.ptr? u14).bind fun p15 =>
    (Pt.chk p15).bind fun p16 =>
    (Pt.field 3 p16).bind fun p17 =>
    (AHeap.cell h13 p17).bind fun u18 =>
    (AVal.map? u18).bind fun m19 =>
    (AHeap.mapOf h13 m19).bind fun es20 =>
    (mfind (AVal.int .i64 (IntKind.wrap .i64 (0 - n7))) es20).bind fun r21 =>
    (AVal.slice? (mgot (AVal.slice Sl.nil) r21)).bind fun s22 =>
    (l_rup_Base_closure_3 fuel d fuel [(2, (AVal.ptr x2)), (6, (AVal.ptr x6)), (7, (AVal.ptr x7)), (9, (AVal.func x9f x9c)), (63, (AVal.slice s22)), (64, (AVal.int .i64 ((s22.len : Nat) : Int))), (65, (AVal.int .i64 (0 : Int)))] h13).bind fun p23 =>
    k_rup_Base_closure_3 fuel d n p23.1 p23.2.1 p23.2.2) else (none))) else (some ((.exit 4), [(4, AVal.bot), (5, AVal.bot), (6, (AVal.ptr x6))], h))) := by
  generalize hh : l_rup_Base_closure_2 = R
  rw [l_rup_Base_closure_2_is] at hh
  subst hh
  generalize hh : l_rup_Base_closure_3 = R
  rw [l_rup_Base_closure_3_is] at hh
  subst hh
  generalize hh : k_rup_Base_closure_3 = R
  rw [k_rup_Base_closure_3_is] at hh
  subst hh
  kernel_rfl

theorem k_rup_Base_closure_2_x4 (fuel d : Nat) (x4 : AVal) (x5 : AVal) (x6 : Pt) (h : AHeap) :
    k_rup_Base_closure_2 fuel d (.exit 4) [(4, x4), (5, x5), (6, (AVal.ptr x6))] h =
  (AHeap.cell h x6).bind fun u1 =>
    (AVal.ptr? u1).bind fun p2 =>
    some ((AVal.tup [(AVal.ptr p2), (AVal.bool true)]), h) := by
  generalize hh : k_rup_Base_closure_2 = R
  rw [k_rup_Base_closure_2_is] at hh
  subst hh
  kernel_rfl

theorem k_rup_Base_closure_2_r (fuel d : Nat) (x4 : Pt) (x5 : Bool) (x6 : AVal) (h : AHeap) :
    k_rup_Base_closure_2 fuel d .ret [(4, (AVal.ptr x4)), (5, (AVal.bool x5)), (6, x6)] h =
  some ((AVal.tup [(AVal.ptr x4), (AVal.bool x5)]), h) := by
  generalize hh : k_rup_Base_closure_2 = R
  rw [k_rup_Base_closure_2_is] at hh
  subst hh
  kernel_rfl

theorem l_rup_Base_closure_3_eq (fuel d : Nat) (n : Nat) (x2 : Pt) (x6 : Pt) (x7 : Pt) (x9f : Nat) (x9c : List Pt) (x63 : Sl) (x64 : Int) (x65 : Int) (h : AHeap) :
    l_rup_Base_closure_3 fuel d (n + 1) [(2, (AVal.ptr x2)), (6, (AVal.ptr x6)), (7, (AVal.ptr x7)), (9, (AVal.func x9f x9c)), (63, (AVal.slice x63)), (64, (AVal.int .i64 x64)), (65, (AVal.int .i64 x65))] h =
  (bif (decide (x65 < x64)) then ((AHeap.addr h 1 x63 x65).bind fun p1 =>
    (AHeap.cell h p1).bind fun u2 =>
    (AVal.int? .i64 u2).bind fun n3 =>
    (run fuel d x9f ([(AVal.int .i64 n3)] ++ List.map AVal.ptr x9c) h).bind fun r4 =>
    (AVal.bool? r4.1).bind fun b5 =>
    (bif (!b5) then (some (.ret, [(2, (AVal.ptr x2)), (4, (AVal.ptr Pt.nil)), (5, (AVal.bool false)), (6, (AVal.ptr x6)), (7, (AVal.ptr x7)), (9, (AVal.func x9f x9c))], r4.2)) else (l_rup_Base_closure_3 fuel d n [(2, (AVal.ptr x2)), (6, (AVal.ptr x6)), (7, (AVal.ptr x7)), (9, (AVal.func x9f x9c)), (63, (AVal.slice x63)), (64, (AVal.int .i64 x64)), (65, (AVal.int .i64 (IntKind.wrap .i64 (x65 + (1 : Int)))))] r4.2))) else (some ((.exit 6), [(2, (AVal.ptr x2)), (4, AVal.bot), (5, AVal.bot), (6, (AVal.ptr x6)), (7, (AVal.ptr x7)), (9, (AVal.func x9f x9c))], h))) := by
  generalize hh : run = R
  rw [run_is] at hh
  subst hh
  generalize hh : l_rup_Base_closure_3 = R
  rw [l_rup_Base_closure_3_is] at hh
  subst hh
  kernel_rfl

theorem k_rup_Base_closure_3_x6 (fuel d : Nat) (n : Nat) (x2 : Pt) (x4 : AVal) (x5 : AVal) (x6 : Pt) (x7 : Pt) (x9f : Nat) (x9c : List Pt) (h : AHeap) :
    k_rup_Base_closure_3 fuel d n (.exit 6) [(2, (AVal.ptr x2)), (4, x4), (5, x5), (6, (AVal.ptr x6)), (7, (AVal.ptr x7)), (9, (AVal.func x9f x9c))] h =
  l_rup_Base_closure_2 fuel d n [(2, (AVal.ptr x2)), (6, (AVal.ptr x6)), (7, (AVal.ptr x7)), (9, (AVal.func x9f x9c))] h := by
  generalize hh : l_rup_Base_closure_2 = R
  rw [l_rup_Base_closure_2_is] at hh
  subst hh
  generalize hh : k_rup_Base_closure_3 = R
  rw [k_rup_Base_closure_3_is] at hh
  subst hh
  kernel_rfl

theorem k_rup_Base_closure_3_r (fuel d : Nat) (n : Nat) (x2 : AVal) (x4 : Pt) (x5 : Bool) (x6 : AVal) (x7 : AVal) (x9 : AVal) (h : AHeap) :
    k_rup_Base_closure_3 fuel d n .ret [(2, x2), (4, (AVal.ptr x4)), (5, (AVal.bool x5)), (6, x6), (7, x7), (9, x9)] h =
  some (.ret, [(4, (AVal.ptr x4)), (5, (AVal.bool x5)), (6, x6)], h) := by
  generalize hh : k_rup_Base_closure_3 = R
  rw [k_rup_Base_closure_3_is] at hh
  subst hh
  kernel_rfl

noncomputable def s_lits_Norm_0 (fuel d : Nat) : Run := fun fr h k => aexec (Cf fuel F_lits_Norm) false (acall (C fuel) false d) (acall (C fuel) true d) 33 (csub [true, true, true, true, false, true, false, false] (fbody Go.Proofs.Tryd.f40)) (asub [true, true, true, true, false, true, false, false] an40) fr h k

noncomputable def l_lits_Norm_0r (fuel d : Nat) (n : Nat) (fr : Fr) (h : AHeap) : Option (AExit × Fr × AHeap) := aloop (s_lits_Norm_0 fuel d) (some [4, 5]) n fr h (kOut [2, 3, 4])

noncomputable def l_lits_Norm_0 : Nat → Nat → Nat → Fr → AHeap → Option (AExit × Fr × AHeap) := hide l_lits_Norm_0r

theorem l_lits_Norm_0_is : l_lits_Norm_0 = l_lits_Norm_0r := hide_eq _

noncomputable def k_lits_Norm_0r (fuel d : Nat) : AExit → Fr → AHeap → Option (AVal × AHeap) := (kBlock 0 (kSeq (Cf fuel F_lits_Norm) false (acall (C fuel) false d) (acall (C fuel) true d) 33 (csub [true, true, true, true, true] (fbody Go.Proofs.Tryd.f40)) (asub [true, true, true, true, true] an40) (kRet (Cf fuel F_lits_Norm) Go.Proofs.Tryd.f40.results.toList)))

noncomputable def k_lits_Norm_0 : Nat → Nat → AExit → Fr → AHeap → Option (AVal × AHeap) := hide k_lits_Norm_0r

theorem k_lits_Norm_0_is : k_lits_Norm_0 = k_lits_Norm_0r := hide_eq _

theorem e_lits_Norm (fuel d : Nat) (x0 : Sl) (h : AHeap) :
    run fuel (d + 1) F_lits_Norm [(AVal.slice x0)] h =
  (run fuel d F_slices_Clone_s_int_int [(AVal.slice x0)] h).bind fun r1 =>
    (AVal.slice? r1.1).bind fun s2 =>
    (run fuel d F_slices_SortFunc_s_int_int [(AVal.slice s2), (AVal.func F_lits_order [])] r1.2).bind fun r3 =>
    (run fuel d F_slices_Compact_s_int_int [(AVal.slice s2)] r3.2).bind fun r4 =>
    (AVal.slice? r4.1).bind fun s5 =>
    (run fuel d F_slices_Clip_s_int_int [(AVal.slice s5)] r4.2).bind fun r6 =>
    (AVal.slice? r6.1).bind fun s7 =>
    (l_lits_Norm_0 fuel d fuel [(4, (AVal.slice s7)), (5, (AVal.int .i64 (1 : Int)))] r6.2).bind fun p8 =>
    k_lits_Norm_0 fuel d p8.1 p8.2.1 p8.2.2 := by
  generalize hh : run = R
  rw [run_is] at hh
  subst hh
  generalize hh : l_lits_Norm_0 = R
  rw [l_lits_Norm_0_is] at hh
  subst hh
  generalize hh : k_lits_Norm_0 = R
  rw [k_lits_Norm_0_is] at hh
  subst hh
  kernel_rfl

theorem l_lits_Norm_0_eq (fuel d : Nat) (n : Nat) (x4 : Sl) (x5 : Int) (h : AHeap) :
    l_lits_Norm_0 fuel d (n + 1) [(4, (AVal.slice x4)), (5, (AVal.int .i64 x5))] h =
  (bif (decide (x5 < ((x4.len : Nat) : Int))) then ((AHeap.addr h 1 x4 x5).bind fun p1 =>
    (AHeap.cell h p1).bind fun u2 =>
    (AVal.int? .i64 u2).bind fun n3 =>
    (run fuel d F_lits_Var [(AVal.int .i64 n3)] h).bind fun r4 =>
    (AVal.int? .i64 r4.1).bind fun n5 =>
    (AHeap.addr r4.2 1 x4 (IntKind.wrap .i64 (x5 - (1 : Int)))).bind fun p6 =>
    same ((AHeap.addr h 1 x4 (IntKind.wrap .i64 (x5 - (1 : Int)))).bind fun p13 =>
    some ((AVal.ptr p13), h)) ((AVal.ptr p6), h) (
    (AHeap.cell r4.2 p6).bind fun u7 =>
    (AVal.int? .i64 u7).bind fun n8 =>
    same ((AHeap.cell h p6).bind fun u11 =>
    (AVal.int? .i64 u11).bind fun n12 =>
    some ((AVal.int .i64 n12), h)) ((AVal.int .i64 n8), h) (
    (run fuel d F_lits_Var [(AVal.int .i64 n8)] r4.2).bind fun r9 =>
    (AVal.int? .i64 r9.1).bind fun n10 =>
    (bif (decide (n5 = n10)) then (some (.ret, [(2, (AVal.slice x4)), (3, (AVal.bool false)), (4, (AVal.slice x4))], r9.2)) else (l_lits_Norm_0 fuel d n [(4, (AVal.slice x4)), (5, (AVal.int .i64 (IntKind.wrap .i64 (x5 + (1 : Int)))))] r9.2))))) else (some ((.exit 0), [(2, AVal.bot), (3, AVal.bot), (4, (AVal.slice x4))], h))) := by
  generalize hh : run = R
  rw [run_is] at hh
  subst hh
  generalize hh : l_lits_Norm_0 = R
  rw [l_lits_Norm_0_is] at hh
  subst hh
  kernel_rfl

theorem k_lits_Norm_0_x0 (fuel d : Nat) (x2 : AVal) (x3 : AVal) (x4 : Sl) (h : AHeap) :
    k_lits_Norm_0 fuel d (.exit 0) [(2, x2), (3, x3), (4, (AVal.slice x4))] h =
  some ((AVal.tup [(AVal.slice x4), (AVal.bool true)]), h) := by
  generalize hh : k_lits_Norm_0 = R
  rw [k_lits_Norm_0_is] at hh
  subst hh
  kernel_rfl

theorem k_lits_Norm_0_r (fuel d : Nat) (x2 : Sl) (x3 : Bool) (x4 : AVal) (h : AHeap) :
    k_lits_Norm_0 fuel d .ret [(2, (AVal.slice x2)), (3, (AVal.bool x3)), (4, x4)] h =
  some ((AVal.tup [(AVal.slice x2), (AVal.bool x3)]), h) := by
  generalize hh : k_lits_Norm_0 = R
  rw [k_lits_Norm_0_is] at hh
  subst hh
  kernel_rfl

noncomputable def s_rup_Base_find_0 (fuel d : Nat) : Run := fun fr h k => aexec (Cf fuel F_rup_Base_find) false (acall (C fuel) false d) (acall (C fuel) true d) 56 (csub [true, true, true, true, false, true, false, false] (fbody Go.Proofs.Tryd.f41)) (asub [true, true, true, true, false, true, false, false] an41) fr h k

noncomputable def l_rup_Base_find_0r (fuel d : Nat) (n : Nat) (fr : Fr) (h : AHeap) : Option (AExit × Fr × AHeap) := aloop (s_rup_Base_find_0 fuel d) (some [0, 5, 30, 31, 32]) n fr h (kOut [4])

noncomputable def l_rup_Base_find_0 : Nat → Nat → Nat → Fr → AHeap → Option (AExit × Fr × AHeap) := hide l_rup_Base_find_0r

theorem l_rup_Base_find_0_is : l_rup_Base_find_0 = l_rup_Base_find_0r := hide_eq _

noncomputable def k_rup_Base_find_0r (fuel d : Nat) : AExit → Fr → AHeap → Option (AVal × AHeap) := (kBlock 0 (kSeq (Cf fuel F_rup_Base_find) false (acall (C fuel) false d) (acall (C fuel) true d) 56 (csub [true, true, true, true, true] (fbody Go.Proofs.Tryd.f41)) (asub [true, true, true, true, true] an41) (kRet (Cf fuel F_rup_Base_find) Go.Proofs.Tryd.f41.results.toList)))

noncomputable def k_rup_Base_find_0 : Nat → Nat → AExit → Fr → AHeap → Option (AVal × AHeap) := hide k_rup_Base_find_0r

theorem k_rup_Base_find_0_is : k_rup_Base_find_0 = k_rup_Base_find_0r := hide_eq _

theorem e_rup_Base_find (fuel d : Nat) (x0 : Pt) (x1 : Sl) (h : AHeap) :
    run fuel (d + 1) F_rup_Base_find [(AVal.ptr x0), (AVal.slice x1)] h =
  (run fuel d F_lits_Norm [(AVal.slice x1)] h).bind fun r1 =>
    (bif AVal.isTup 2 r1.1 then ((AVal.comp 0 r1.1).bind fun u2 =>
    (AVal.slice? u2).bind fun s3 =>
    (AVal.comp 1 r1.1).bind fun u4 =>
    (AVal.bool? u4).bind fun b5 =>
    (Pt.chk x0).bind fun p6 =>
    (Pt.field 4 p6).bind fun p7 =>
    (AHeap.cell r1.2 p7).bind fun u8 =>
    (AVal.slice? u8).bind fun s9 =>
    (bif (decide ((0 : Int) < ((s3.len : Nat) : Int))) then ((Pt.chk x0).bind fun p10 =>
    (Pt.field 3 p10).bind fun p11 =>
    (AHeap.cell r1.2 p11).bind fun u12 =>
    (AVal.map? u12).bind fun m13 =>
    (AHeap.addr r1.2 1 s3 (0 : Int)).bind fun p14 =>
    (AHeap.cell r1.2 p14).bind fun u15 =>
    (AVal.int? .i64 u15).bind fun n16 =>
    (AHeap.mapOf r1.2 m13).bind fun es17 =>
    (mfind (AVal.int .i64 n16) es17).bind fun r18 =>
    (AVal.slice? (mgot (AVal.slice Sl.nil) r18)).bind fun s19 =>
    (l_rup_Base_find_0 fuel d fuel [(0, (AVal.ptr x0)), (5, (AVal.slice s3)), (30, (AVal.slice s19)), (31, (AVal.int .i64 ((s19.len : Nat) : Int))), (32, (AVal.int .i64 (0 : Int)))] r1.2).bind fun p20 =>
    k_rup_Base_find_0 fuel d p20.1 p20.2.1 p20.2.2) else ((l_rup_Base_find_0 fuel d fuel [(0, (AVal.ptr x0)), (5, (AVal.slice s3)), (30, (AVal.slice s9)), (31, (AVal.int .i64 ((s9.len : Nat) : Int))), (32, (AVal.int .i64 (0 : Int)))] r1.2).bind fun p21 =>
    k_rup_Base_find_0 fuel d p21.1 p21.2.1 p21.2.2))) else none) := by
  generalize hh : run = R
  rw [run_is] at hh
  subst hh
  generalize hh : l_rup_Base_find_0 = R
  rw [l_rup_Base_find_0_is] at hh
  subst hh
  generalize hh : k_rup_Base_find_0 = R
  rw [k_rup_Base_find_0_is] at hh
  subst hh
  kernel_rfl

theorem l_rup_Base_find_0_eq (fuel d : Nat) (n : Nat) (x0 : Pt) (x5 : Sl) (x30 : Sl) (x31 : Int) (x32 : Int) (h : AHeap) :
    l_rup_Base_find_0 fuel d (n + 1) [(0, (AVal.ptr x0)), (5, (AVal.slice x5)), (30, (AVal.slice x30)), (31, (AVal.int .i64 x31)), (32, (AVal.int .i64 x32))] h =
  (bif (decide (x32 < x31)) then ((AHeap.addr h 1 x30 x32).bind fun p1 =>
    (AHeap.cell h p1).bind fun u2 =>
    (AVal.int? .i64 u2).bind fun n3 =>
    (Pt.chk x0).bind fun p4 =>
    (Pt.field 2 p4).bind fun p5 =>
    (AHeap.cell h p5).bind fun u6 =>
    (AVal.slice? u6).bind fun s7 =>
    (AHeap.addr h 1 s7 n3).bind fun p8 =>
    (AHeap.cell h p8).bind fun u9 =>
    (AVal.bool? u9).bind fun b10 =>
    ((bif (b10 == true) then ((Pt.chk x0).bind fun p11 =>
    (Pt.field 1 p11).bind fun p12 =>
    (AHeap.cell h p12).bind fun u13 =>
    (AVal.slice? u13).bind fun s14 =>
    (AHeap.addr h 1 s14 n3).bind fun p15 =>
    (AHeap.cell h p15).bind fun u16 =>
    (AVal.slice? u16).bind fun s17 =>
    (run fuel d F_slices_Equal_s_int_int [(AVal.slice s17), (AVal.slice x5)] h).bind fun r18 =>
    (AVal.bool? r18.1).bind fun b19 =>
    some ((AVal.bool b19), r18.2)) else (some ((AVal.bool false), h)) : Option (AVal × AHeap))).bind fun r20 =>
    (AVal.bool? r20.1).bind fun b21 =>
    (bif b21 then (some (.ret, [(4, (AVal.int .i64 n3))], r20.2)) else (l_rup_Base_find_0 fuel d n [(0, (AVal.ptr x0)), (5, (AVal.slice x5)), (30, (AVal.slice x30)), (31, (AVal.int .i64 x31)), (32, (AVal.int .i64 (IntKind.wrap .i64 (x32 + (1 : Int)))))] r20.2))) else (some ((.exit 0), [(4, AVal.bot)], h))) := by
  generalize hh : run = R
  rw [run_is] at hh
  subst hh
  generalize hh : l_rup_Base_find_0 = R
  rw [l_rup_Base_find_0_is] at hh
  subst hh
  kernel_rfl

theorem k_rup_Base_find_0_x0 (fuel d : Nat) (x4 : AVal) (h : AHeap) :
    k_rup_Base_find_0 fuel d (.exit 0) [(4, x4)] h =
  some ((AVal.int .i64 (-1 : Int)), h) := by
  generalize hh : k_rup_Base_find_0 = R
  rw [k_rup_Base_find_0_is] at hh
  subst hh
  kernel_rfl

theorem k_rup_Base_find_0_r (fuel d : Nat) (x4 : Int) (h : AHeap) :
    k_rup_Base_find_0 fuel d .ret [(4, (AVal.int .i64 x4))] h =
  some ((AVal.int .i64 x4), h) := by
  generalize hh : k_rup_Base_find_0 = R
  rw [k_rup_Base_find_0_is] at hh
  subst hh
  kernel_rfl

theorem e_rup_gone (fuel d : Nat) (x0 : Sl) (x1 : Int) (h : AHeap) :
    run fuel (d + 1) F_rup_gone [(AVal.slice x0), (AVal.int .i64 x1)] h =
  (run fuel d F_slices_DeleteFunc_s_int_int [(AVal.slice x0), (AVal.func F_rup_gone_1 [(Pt.mk ⟨AHeap.next h, 0, 0⟩ 1)])] (AHeap.push h 1 [(AVal.int .i64 x1)])).bind fun r1 =>
    (AVal.slice? r1.1).bind fun s2 =>
    some ((AVal.slice s2), r1.2) := by
  generalize hh : run = R
  rw [run_is] at hh
  subst hh
  kernel_rfl

theorem e_slices_ContainsFunc_s_int_int (fuel d : Nat) (x0 : Sl) (x1f : Nat) (x1c : List Pt) (h : AHeap) :
    brun fuel (d + 1) F_slices_ContainsFunc_s_int_int [(AVal.slice x0), (AVal.func x1f x1c)] h =
  (run fuel d F_slices_IndexFunc_s_int_int [(AVal.slice x0), (AVal.func x1f x1c)] h).bind fun r1 =>
    (AVal.int? .i64 r1.1).bind fun n2 =>
    some ((AVal.bool (decide ((0 : Int) ≤ n2))), r1.2) := by
  generalize hh : run = R
  rw [run_is] at hh
  subst hh
  generalize hh : brun = R
  rw [brun_is] at hh
  subst hh
  kernel_rfl

theorem e_rup_Base_right_1 (fuel d : Nat) (x0 : Int) (x1 : Pt) (h : AHeap) :
    run fuel (d + 1) F_rup_Base_right_1 [(AVal.int .i64 x0), (AVal.ptr x1)] h =
  (AHeap.cell h x1).bind fun u1 =>
    (AVal.ptr? u1).bind fun p2 =>
    (Pt.chk p2).bind fun p3 =>
    (Pt.field 0 p3).bind fun p4 =>
    (AHeap.cell h p4).bind fun u5 =>
    (AVal.int? .i64 u5).bind fun n6 =>
    (run fuel d F_lits_Is [(AVal.int .i64 x0), (AVal.int .i64 n6)] h).bind fun r7 =>
    (AVal.bool? r7.1).bind fun b8 =>
    some ((AVal.bool (!b8)), r7.2) := by
  generalize hh : run = R
  rw [run_is] at hh
  subst hh
  kernel_rfl

theorem e_lits_Is (fuel d : Nat) (x0 : Int) (x1 : Int) (h : AHeap) :
    brun fuel (d + 1) F_lits_Is [(AVal.int .i64 x0), (AVal.int .i64 x1)] h =
  some ((AVal.bool (bif (bif (!decide (x0 = (0 : Int))) then (decide ((IntKind.wrap .i64 (0 - x1)) ≤ x0)) else false) then (decide (x0 ≤ x1)) else false)), h) := by
  generalize hh : brun = R
  rw [brun_is] at hh
  subst hh
  kernel_rfl

theorem e_assign_New (fuel d : Nat) (x0 : Int) (h : AHeap) :
    run fuel (d + 1) F_assign_New [(AVal.int .i64 x0)] h =
  (run fuel d F_assign_Cut [(AVal.int .i64 x0)] h).bind fun r1 =>
    (AVal.int? .i64 r1.1).bind fun n2 =>
    (bif (true && decide (0 ≤ (IntKind.wrap .i64 (n2 + (1 : Int)))) && decide ((IntKind.wrap .i64 (n2 + (1 : Int))) ≤ (IntKind.wrap .i64 (n2 + (1 : Int)))) && decide ((IntKind.wrap .i64 (n2 + (1 : Int))) * 1 ≤ 140737488355328) && decide ((IntKind.wrap .i64 (n2 + (1 : Int))) ≤ 140737488355328)) then (some ((AVal.ptr (Pt.mk ⟨AHeap.next (AHeap.push r1.2 1 (repeatCells [(AVal.int .i8 (0 : Int))] (Int.toNat (IntKind.wrap .i64 (n2 + (1 : Int)))))), 0, 0⟩ 1)), (AHeap.push (AHeap.push r1.2 1 (repeatCells [(AVal.int .i8 (0 : Int))] (Int.toNat (IntKind.wrap .i64 (n2 + (1 : Int)))))) 1 [(AVal.slice (Sl.mk ⟨AHeap.next r1.2, 0, 0⟩ (Int.toNat (IntKind.wrap .i64 (n2 + (1 : Int)))) (eqI (IntKind.wrap .i64 (n2 + (1 : Int))) (IntKind.wrap .i64 (n2 + (1 : Int))))))]))) else (none)) := by
  generalize hh : run = R
  rw [run_is] at hh
  subst hh
  kernel_rfl

theorem e_rup_Base_closure_1 (fuel d : Nat) (x0 : Int) (x1 : Pt) (x2 : Pt) (h : AHeap) :
    run fuel (d + 1) F_rup_Base_closure_1 [(AVal.int .i64 x0), (AVal.ptr x1), (AVal.ptr x2)] h =
  (AHeap.cell h x1).bind fun u1 =>
    (AVal.ptr? u1).bind fun p2 =>
    (run fuel d F_assign_Assign_Value [(AVal.ptr p2), (AVal.int .i64 x0)] h).bind fun r3 =>
    (AVal.int? .i64 r3.1).bind fun n4 =>
    (bif (decide (n4 = (1 : Int))) then (some ((AVal.bool true), r3.2)) else ((AHeap.cell r3.2 x2).bind fun u5 =>
    (AVal.slice? u5).bind fun s6 =>
    (AHeap.append r3.2 false 1 8 s6 1 [(AVal.int .i64 x0)]).bind fun a7 =>
    (AHeap.storeAt a7.2 [(AVal.slice a7.1)] x2).bind fun h8 =>
    (AHeap.cell h8 x1).bind fun u9 =>
    (AVal.ptr? u9).bind fun p10 =>
    (run fuel d F_assign_Assign_Set [(AVal.ptr p10), (AVal.int .i64 x0)] h8).bind fun r11 =>
    (AVal.bool? r11.1).bind fun b12 =>
    some ((AVal.bool b12), r11.2))) := by
  generalize hh : run = R
  rw [run_is] at hh
  subst hh
  kernel_rfl

theorem e_assign_Assign_Value (fuel d : Nat) (x0 : Pt) (x1 : Int) (h : AHeap) :
    run fuel (d + 1) F_assign_Assign_Value [(AVal.ptr x0), (AVal.int .i64 x1)] h =
  (Pt.chk x0).bind fun p1 =>
    (Pt.field 0 p1).bind fun p2 =>
    (AHeap.cell h p2).bind fun u3 =>
    (AVal.slice? u3).bind fun s4 =>
    (run fuel d F_lits_Is [(AVal.int .i64 x1), (AVal.int .i64 (IntKind.wrap .i64 (((s4.len : Nat) : Int) - (1 : Int))))] h).bind fun r5 =>
    (AVal.bool? r5.1).bind fun b6 =>
    (bif (!b6) then (some ((AVal.int .i64 (0 : Int)), r5.2)) else ((Pt.chk x0).bind fun p7 =>
    (Pt.field 0 p7).bind fun p8 =>
    (AHeap.cell r5.2 p8).bind fun u9 =>
    (AVal.slice? u9).bind fun s10 =>
    (run fuel d F_lits_Var [(AVal.int .i64 x1)] r5.2).bind fun r11 =>
    (AVal.int? .i64 r11.1).bind fun n12 =>
    same ((AHeap.cell r11.2 p8).bind fun u16 =>
    (AVal.slice? u16).bind fun s17 =>
    some ((AVal.slice s17), r11.2)) ((AVal.slice s10), r11.2) (
    (AHeap.addr r11.2 1 s10 n12).bind fun p13 =>
    (AHeap.cell r11.2 p13).bind fun u14 =>
    (AVal.int? .i8 u14).bind fun n15 =>
    (bif (bif (decide (x1 < (0 : Int))) then (!decide ((IntKind.wrap .i64 n15) = (0 : Int))) else false) then (some ((AVal.int .i64 (IntKind.wrap .i64 ((3 : Int) - (IntKind.wrap .i64 n15)))), r11.2)) else (some ((AVal.int .i64 (IntKind.wrap .i64 n15)), r11.2)))))) := by
  generalize hh : run = R
  rw [run_is] at hh
  subst hh
  kernel_rfl

theorem e_assign_Assign_Set (fuel d : Nat) (x0 : Pt) (x1 : Int) (h : AHeap) :
    run fuel (d + 1) F_assign_Assign_Set [(AVal.ptr x0), (AVal.int .i64 x1)] h =
  (Pt.chk x0).bind fun p1 =>
    (Pt.field 0 p1).bind fun p2 =>
    (AHeap.cell h p2).bind fun u3 =>
    (AVal.slice? u3).bind fun s4 =>
    (run fuel d F_lits_Is [(AVal.int .i64 x1), (AVal.int .i64 (IntKind.wrap .i64 (((s4.len : Nat) : Int) - (1 : Int))))] h).bind fun r5 =>
    (AVal.bool? r5.1).bind fun b6 =>
    ((bif ((!b6) == false) then ((run fuel d F_assign_Assign_Value [(AVal.ptr x0), (AVal.int .i64 x1)] r5.2).bind fun r7 =>
    (AVal.int? .i64 r7.1).bind fun n8 =>
    some ((AVal.bool (decide (n8 = (2 : Int)))), r7.2)) else (some ((AVal.bool true), r5.2)) : Option (AVal × AHeap))).bind fun r9 =>
    (AVal.bool? r9.1).bind fun b10 =>
    (bif b10 then (some ((AVal.bool false), r9.2)) else ((bif (decide ((0 : Int) < x1)) then ((Pt.chk x0).bind fun p11 =>
    (Pt.field 0 p11).bind fun p12 =>
    (AHeap.cell r9.2 p12).bind fun u13 =>
    (AVal.slice? u13).bind fun s14 =>
    (AHeap.addr r9.2 1 s14 x1).bind fun p15 =>
    (AHeap.storeAt r9.2 [(AVal.int .i8 (1 : Int))] p15).bind fun h16 =>
    some ((AVal.bool true), h16)) else ((Pt.chk x0).bind fun p17 =>
    (Pt.field 0 p17).bind fun p18 =>
    (AHeap.cell r9.2 p18).bind fun u19 =>
    (AVal.slice? u19).bind fun s20 =>
    (AHeap.addr r9.2 1 s20 (IntKind.wrap .i64 (0 - x1))).bind fun p21 =>
    (AHeap.storeAt r9.2 [(AVal.int .i8 (2 : Int))] p21).bind fun h22 =>
    some ((AVal.bool true), h22))))) := by
  generalize hh : run = R
  rw [run_is] at hh
  subst hh
  kernel_rfl

theorem e_rup_Base_closure_2 (fuel d : Nat) (x0 : Int) (x1 : Pt) (x2 : Pt) (x3 : Pt) (h : AHeap) :
    run fuel (d + 1) F_rup_Base_closure_2 [(AVal.int .i64 x0), (AVal.ptr x1), (AVal.ptr x2), (AVal.ptr x3)] h =
  (AHeap.cell h x1).bind fun u1 =>
    (AVal.ptr? u1).bind fun p2 =>
    (AHeap.cell h x2).bind fun u3 =>
    (AVal.ptr? u3).bind fun p4 =>
    (Pt.chk p4).bind fun p5 =>
    (Pt.field 1 p5).bind fun p6 =>
    (AHeap.cell h p6).bind fun u7 =>
    (AVal.slice? u7).bind fun s8 =>
    (AHeap.addr h 1 s8 x0).bind fun p9 =>
    (AHeap.cell h p9).bind fun u10 =>
    (AVal.slice? u10).bind fun s11 =>
    (run fuel d F_assign_Assign_Clause [(AVal.ptr p2), (AVal.slice s11)] h).bind fun r12 =>
    (bif AVal.isTup 2 r12.1 then ((AVal.comp 0 r12.1).bind fun u13 =>
    (AVal.int? .i64 u13).bind fun n14 =>
    (AVal.comp 1 r12.1).bind fun u15 =>
    (AVal.int? .i64 u15).bind fun n16 =>
    ((bif ((!decide (n14 = (2 : Int))) == true) then (((bif ((decide (n16 = (0 : Int))) == false) then ((AHeap.cell r12.2 x3).bind fun u17 =>
    (AVal.func? u17).bind fun fc18 =>
    (run fuel d fc18.1 ([(AVal.int .i64 n16)] ++ List.map AVal.ptr fc18.2) r12.2).bind fun r19 =>
    (AVal.bool? r19.1).bind fun b20 =>
    some ((AVal.bool b20), r19.2)) else (some ((AVal.bool true), r12.2)) : Option (AVal × AHeap))).bind fun r21 =>
    (AVal.bool? r21.1).bind fun b22 =>
    some ((AVal.bool b22), r21.2)) else (some ((AVal.bool false), r12.2)) : Option (AVal × AHeap))).bind fun r23 =>
    (AVal.bool? r23.1).bind fun b24 =>
    some ((AVal.bool b24), r23.2)) else none) := by
  generalize hh : run = R
  rw [run_is] at hh
  subst hh
  kernel_rfl

noncomputable def s_assign_Assign_Clause_0 (fuel d : Nat) : Run := fun fr h k => aexec (Cf fuel F_assign_Assign_Clause) false (acall (C fuel) false d) (acall (C fuel) true d) 46 (csub [true, true, false, true, false, false] (fbody Go.Proofs.Tryd.f62)) (asub [true, true, false, true, false, false] an62) fr h k

noncomputable def l_assign_Assign_Clause_0r (fuel d : Nat) (n : Nat) (fr : Fr) (h : AHeap) : Option (AExit × Fr × AHeap) := aloop (s_assign_Assign_Clause_0 fuel d) (some [0, 6, 7, 8, 12, 13, 14]) n fr h (kOut [6, 7, 8])

noncomputable def l_assign_Assign_Clause_0 : Nat → Nat → Nat → Fr → AHeap → Option (AExit × Fr × AHeap) := hide l_assign_Assign_Clause_0r

theorem l_assign_Assign_Clause_0_is : l_assign_Assign_Clause_0 = l_assign_Assign_Clause_0r := hide_eq _

noncomputable def k_assign_Assign_Clause_0r (fuel d : Nat) : AExit → Fr → AHeap → Option (AVal × AHeap) := (kBlock 0 (kSeq (Cf fuel F_assign_Assign_Clause) false (acall (C fuel) false d) (acall (C fuel) true d) 46 (csub [true, true, true] (fbody Go.Proofs.Tryd.f62)) (asub [true, true, true] an62) (kRet (Cf fuel F_assign_Assign_Clause) Go.Proofs.Tryd.f62.results.toList)))

noncomputable def k_assign_Assign_Clause_0 : Nat → Nat → AExit → Fr → AHeap → Option (AVal × AHeap) := hide k_assign_Assign_Clause_0r

theorem k_assign_Assign_Clause_0_is : k_assign_Assign_Clause_0 = k_assign_Assign_Clause_0r := hide_eq _

noncomputable def k_assign_Assign_Clause_1r (fuel d : Nat) (n : Nat) : AExit → Fr → AHeap → Option (AExit × Fr × AHeap) := (kOut [0, 6, 7, 8, 10, 12, 13, 14])

noncomputable def k_assign_Assign_Clause_1 : Nat → Nat → Nat → AExit → Fr → AHeap → Option (AExit × Fr × AHeap) := hide k_assign_Assign_Clause_1r

theorem k_assign_Assign_Clause_1_is : k_assign_Assign_Clause_1 = k_assign_Assign_Clause_1r := hide_eq _

noncomputable def k_assign_Assign_Clause_2r (fuel d : Nat) (n : Nat) : AExit → Fr → AHeap → Option (AExit × Fr × AHeap) := (kSeq (Cf fuel F_assign_Assign_Clause) false (acall (C fuel) false d) (acall (C fuel) true d) 46 (csub [true, true, false, true, false, false, true, true, false, false, true, true, true, true] (fbody Go.Proofs.Tryd.f62)) (asub [true, true, false, true, false, false, true, true, false, false, true, true, true, true] an62) (kBlock 1 (kSeq (Cf fuel F_assign_Assign_Clause) false (acall (C fuel) false d) (acall (C fuel) true d) 46 (csub [true, true, false, true, false, false, true, true, true] (fbody Go.Proofs.Tryd.f62)) (asub [true, true, false, true, false, false, true, true, true] an62) (kLoop (s_assign_Assign_Clause_0 fuel d) (some [0, 6, 7, 8, 12, 13, 14]) n (kOut [6, 7, 8])))))

noncomputable def k_assign_Assign_Clause_2 : Nat → Nat → Nat → AExit → Fr → AHeap → Option (AExit × Fr × AHeap) := hide k_assign_Assign_Clause_2r

theorem k_assign_Assign_Clause_2_is : k_assign_Assign_Clause_2 = k_assign_Assign_Clause_2r := hide_eq _

theorem e_assign_Assign_Clause (fuel d : Nat) (x0 : Pt) (x1 : Sl) (h : AHeap) :
    run fuel (d + 1) F_assign_Assign_Clause [(AVal.ptr x0), (AVal.slice x1)] h =
  (l_assign_Assign_Clause_0 fuel d fuel [(0, (AVal.ptr x0)), (6, (AVal.int .i64 (0 : Int))), (7, (AVal.int .i64 (0 : Int))), (8, (AVal.int .i64 (2 : Int))), (12, (AVal.slice x1)), (13, (AVal.int .i64 ((x1.len : Nat) : Int))), (14, (AVal.int .i64 (0 : Int)))] h).bind fun p1 =>
    k_assign_Assign_Clause_0 fuel d p1.1 p1.2.1 p1.2.2 := by
  generalize hh : run = R
  rw [run_is] at hh
  subst hh
  generalize hh : l_assign_Assign_Clause_0 = R
  rw [l_assign_Assign_Clause_0_is] at hh
  subst hh
  generalize hh : k_assign_Assign_Clause_0 = R
  rw [k_assign_Assign_Clause_0_is] at hh
  subst hh
  kernel_rfl

theorem l_assign_Assign_Clause_0_eq (fuel d : Nat) (n : Nat) (x0 : Pt) (x6 : Int) (x7 : Int) (x8 : Int) (x12 : Sl) (x13 : Int) (x14 : Int) (h : AHeap) :
    l_assign_Assign_Clause_0 fuel d (n + 1) [(0, (AVal.ptr x0)), (6, (AVal.int .i64 x6)), (7, (AVal.int .i64 x7)), (8, (AVal.int .i64 x8)), (12, (AVal.slice x12)), (13, (AVal.int .i64 x13)), (14, (AVal.int .i64 x14))] h =
  (bif (decide (x14 < x13)) then ((AHeap.addr h 1 x12 x14).bind fun p1 =>
    (AHeap.cell h p1).bind fun u2 =>
    (AVal.int? .i64 u2).bind fun n3 =>
    (run fuel d F_assign_Assign_Value [(AVal.ptr x0), (AVal.int .i64 n3)] h).bind fun r4 =>
    (AVal.int? .i64 r4.1).bind fun n5 =>
    (bif (decide (n5 = (2 : Int))) then (l_assign_Assign_Clause_0 fuel d n [(0, (AVal.ptr x0)), (6, (AVal.int .i64 x6)), (7, (AVal.int .i64 x7)), (8, (AVal.int .i64 x8)), (12, (AVal.slice x12)), (13, (AVal.int .i64 x13)), (14, (AVal.int .i64 (IntKind.wrap .i64 (x14 + (1 : Int)))))] r4.2) else (((bif (decide (n5 = (1 : Int))) then (some (.normal, [(0, (AVal.ptr x0)), (6, (AVal.int .i64 x6)), (7, (AVal.int .i64 x7)), (8, (AVal.int .i64 (1 : Int))), (10, (AVal.int .i64 n3)), (12, (AVal.slice x12)), (13, (AVal.int .i64 x13)), (14, (AVal.int .i64 x14))], r4.2)) else (((bif (decide (x8 = (2 : Int))) then (some (.normal, [(0, (AVal.ptr x0)), (6, (AVal.int .i64 x6)), (7, (AVal.int .i64 x7)), (8, (AVal.int .i64 (0 : Int))), (10, (AVal.int .i64 n3)), (12, (AVal.slice x12)), (13, (AVal.int .i64 x13)), (14, (AVal.int .i64 x14))], r4.2)) else (some (.normal, [(0, (AVal.ptr x0)), (6, (AVal.int .i64 x6)), (7, (AVal.int .i64 x7)), (8, (AVal.int .i64 x8)), (10, (AVal.int .i64 n3)), (12, (AVal.slice x12)), (13, (AVal.int .i64 x13)), (14, (AVal.int .i64 x14))], r4.2)))).bind fun p6 =>
    k_assign_Assign_Clause_1 fuel d n p6.1 p6.2.1 p6.2.2))).bind fun p7 =>
    k_assign_Assign_Clause_2 fuel d n p7.1 p7.2.1 p7.2.2))) else (some ((.exit 0), [(6, (AVal.int .i64 x6)), (7, (AVal.int .i64 x7)), (8, (AVal.int .i64 x8))], h))) := by
  generalize hh : run = R
  rw [run_is] at hh
  subst hh
  generalize hh : l_assign_Assign_Clause_0 = R
  rw [l_assign_Assign_Clause_0_is] at hh
  subst hh
  generalize hh : k_assign_Assign_Clause_1 = R
  rw [k_assign_Assign_Clause_1_is] at hh
  subst hh
  generalize hh : k_assign_Assign_Clause_2 = R
  rw [k_assign_Assign_Clause_2_is] at hh
  subst hh
  kernel_rfl

theorem k_assign_Assign_Clause_0_x0 (fuel d : Nat) (x6 : Int) (x7 : Int) (x8 : Int) (h : AHeap) :
    k_assign_Assign_Clause_0 fuel d (.exit 0) [(6, (AVal.int .i64 x6)), (7, (AVal.int .i64 x7)), (8, (AVal.int .i64 x8))] h =
  (bif (bif (!decide (x7 = (1 : Int))) then true else (!decide (x8 = (0 : Int)))) then (some ((AVal.tup [(AVal.int .i64 x8), (AVal.int .i64 (0 : Int))]), h)) else (some ((AVal.tup [(AVal.int .i64 x8), (AVal.int .i64 x6)]), h))) := by
  generalize hh : k_assign_Assign_Clause_0 = R
  rw [k_assign_Assign_Clause_0_is] at hh
  subst hh
  kernel_rfl

theorem k_assign_Assign_Clause_1_n (fuel d : Nat) (n : Nat) (x0 : Pt) (x6 : Int) (x7 : Int) (x8 : Int) (x10 : Int) (x12 : Sl) (x13 : Int) (x14 : Int) (h : AHeap) :
    k_assign_Assign_Clause_1 fuel d n .normal [(0, (AVal.ptr x0)), (6, (AVal.int .i64 x6)), (7, (AVal.int .i64 x7)), (8, (AVal.int .i64 x8)), (10, (AVal.int .i64 x10)), (12, (AVal.slice x12)), (13, (AVal.int .i64 x13)), (14, (AVal.int .i64 x14))] h =
  some (.normal, [(0, (AVal.ptr x0)), (6, (AVal.int .i64 x6)), (7, (AVal.int .i64 x7)), (8, (AVal.int .i64 x8)), (10, (AVal.int .i64 x10)), (12, (AVal.slice x12)), (13, (AVal.int .i64 x13)), (14, (AVal.int .i64 x14))], h) := by
  generalize hh : k_assign_Assign_Clause_1 = R
  rw [k_assign_Assign_Clause_1_is] at hh
  subst hh
  kernel_rfl

theorem k_assign_Assign_Clause_2_n (fuel d : Nat) (n : Nat) (x0 : Pt) (x6 : Int) (x7 : Int) (x8 : Int) (x10 : Int) (x12 : Sl) (x13 : Int) (x14 : Int) (h : AHeap) :
    k_assign_Assign_Clause_2 fuel d n .normal [(0, (AVal.ptr x0)), (6, (AVal.int .i64 x6)), (7, (AVal.int .i64 x7)), (8, (AVal.int .i64 x8)), (10, (AVal.int .i64 x10)), (12, (AVal.slice x12)), (13, (AVal.int .i64 x13)), (14, (AVal.int .i64 x14))] h =
  (bif (bif (decide (x7 = (0 : Int))) then true else (!decide (x10 = x6))) then (l_assign_Assign_Clause_0 fuel d n [(0, (AVal.ptr x0)), (6, (AVal.int .i64 x10)), (7, (AVal.int .i64 (IntKind.wrap .i64 (x7 + (1 : Int))))), (8, (AVal.int .i64 x8)), (12, (AVal.slice x12)), (13, (AVal.int .i64 x13)), (14, (AVal.int .i64 (IntKind.wrap .i64 (x14 + (1 : Int)))))] h) else (l_assign_Assign_Clause_0 fuel d n [(0, (AVal.ptr x0)), (6, (AVal.int .i64 x6)), (7, (AVal.int .i64 x7)), (8, (AVal.int .i64 x8)), (12, (AVal.slice x12)), (13, (AVal.int .i64 x13)), (14, (AVal.int .i64 (IntKind.wrap .i64 (x14 + (1 : Int)))))] h)) := by
  generalize hh : l_assign_Assign_Clause_0 = R
  rw [l_assign_Assign_Clause_0_is] at hh
  subst hh
  generalize hh : k_assign_Assign_Clause_2 = R
  rw [k_assign_Assign_Clause_2_is] at hh
  subst hh
  kernel_rfl

theorem e_slices_Clone_s_int_int (fuel d : Nat) (x0 : Sl) (h : AHeap) :
    brun fuel (d + 1) F_slices_Clone_s_int_int [(AVal.slice x0)] h =
  (nilTest .slice (AVal.slice x0)).bind fun b1 =>
    (bif (b1) then (some ((AVal.slice Sl.nil), h)) else ((AHeap.sliceCells h 1 x0).bind fun xs2 =>
    (AHeap.append h false 1 8 (Sl.lst 0 true []) x0.len xs2).bind fun a3 =>
    some ((AVal.slice a3.1), a3.2))) := by
  generalize hh : brun = R
  rw [brun_is] at hh
  subst hh
  kernel_rfl

theorem e_slices_Clone_s_int_int_e (fuel d : Nat) (h : AHeap) :
    brun fuel (d + 1) F_slices_Clone_s_int_int [AVal.empty] h =
  (AHeap.append h false 1 8 (Sl.lst 0 true []) 0 []).bind fun a1 =>
    some ((AVal.slice a1.1), a1.2) := by
  generalize hh : brun = R
  rw [brun_is] at hh
  subst hh
  kernel_rfl

theorem e_slices_SortFunc_s_int_int (fuel d : Nat) (x0 : Sl) (x1f : Nat) (x1c : List Pt) (h : AHeap) :
    run fuel (d + 1) F_slices_SortFunc_s_int_int [(AVal.slice x0), (AVal.func x1f x1c)] h =
  (run fuel d F_bits_Len [(AVal.int .u64 (IntKind.wrap .u64 ((x0.len : Nat) : Int)))] h).bind fun r1 =>
    (AVal.int? .i64 r1.1).bind fun n2 =>
    (run fuel d F_slices_pdqsortCmpFunc_int [(AVal.slice x0), (AVal.int .i64 (0 : Int)), (AVal.int .i64 ((x0.len : Nat) : Int)), (AVal.int .i64 n2), (AVal.func x1f x1c)] r1.2).bind fun r3 =>
    some ((AVal.tup []), r3.2) := by
  generalize hh : run = R
  rw [run_is] at hh
  subst hh
  kernel_rfl

theorem e_lits_order (fuel d : Nat) (x0 : Int) (x1 : Int) (h : AHeap) :
    brun fuel (d + 1) F_lits_order [(AVal.int .i64 x0), (AVal.int .i64 x1)] h =
  (run fuel d F_lits_Var [(AVal.int .i64 x0)] h).bind fun r1 =>
    (AVal.int? .i64 r1.1).bind fun n2 =>
    (run fuel d F_lits_Var [(AVal.int .i64 x1)] r1.2).bind fun r3 =>
    (AVal.int? .i64 r3.1).bind fun n4 =>
    (run fuel d F_cmp_Compare_int [(AVal.int .i64 n2), (AVal.int .i64 n4)] r3.2).bind fun r5 =>
    (AVal.int? .i64 r5.1).bind fun n6 =>
    (run fuel d F_cmp_Compare_int [(AVal.int .i64 x0), (AVal.int .i64 x1)] r5.2).bind fun r7 =>
    (AVal.int? .i64 r7.1).bind fun n8 =>
    (run fuel d F_cmp_Or_int [(AVal.slice (Sl.lst 2 true [(AVal.int .i64 n6), (AVal.int .i64 n8)]))] r7.2).bind fun r9 =>
    (AVal.int? .i64 r9.1).bind fun n10 =>
    some ((AVal.int .i64 n10), r9.2) := by
  generalize hh : run = R
  rw [run_is] at hh
  subst hh
  generalize hh : brun = R
  rw [brun_is] at hh
  subst hh
  kernel_rfl

theorem e_slices_Clip_s_int_int (fuel d : Nat) (x0 : Sl) (h : AHeap) :
    brun fuel (d + 1) F_slices_Clip_s_int_int [(AVal.slice x0)] h =
  (aHi (some (AVal.int .i64 ((x0.len : Nat) : Int))) (Sl.len x0)).bind fun hi1 =>
    (aLo (none : Option AVal) hi1).bind fun lo2 =>
    (aMx (some (AVal.int .i64 ((x0.len : Nat) : Int))) hi1).bind fun cl3 =>
    (bif (AHeap.hasSz h 1 x0) then (some ((AVal.slice (Sl.cut x0 1 lo2 hi1 cl3)), h)) else (none)) := by
  generalize hh : brun = R
  rw [brun_is] at hh
  subst hh
  kernel_rfl

noncomputable def s_slices_Compact_s_int_int_0 (fuel d : Nat) : Run := fun fr h k => aexec (Cf fuel F_slices_Compact_s_int_int) false (acall (C fuel) false d) (acall (C fuel) true d) 61 (csub [true, true, false, true, false, false] (fbody Go.Proofs.Tryd.f67)) (asub [true, true, false, true, false, false] an67) fr h k

noncomputable def l_slices_Compact_s_int_int_0r (fuel d : Nat) (n : Nat) (fr : Fr) (h : AHeap) : Option (AExit × Fr × AHeap) := aloop (s_slices_Compact_s_int_int_0 fuel d) (some [0, 3]) n fr h (kOut [0, 2])

noncomputable def l_slices_Compact_s_int_int_0 : Nat → Nat → Nat → Fr → AHeap → Option (AExit × Fr × AHeap) := hide l_slices_Compact_s_int_int_0r

theorem l_slices_Compact_s_int_int_0_is : l_slices_Compact_s_int_int_0 = l_slices_Compact_s_int_int_0r := hide_eq _

noncomputable def k_slices_Compact_s_int_int_0r (fuel d : Nat) : AExit → Fr → AHeap → Option (AVal × AHeap) := (kBlock 0 (kSeq (Cf fuel F_slices_Compact_s_int_int) false (acall (C fuel) false d) (acall (C fuel) true d) 61 (csub [true, true, true] (fbody Go.Proofs.Tryd.f67)) (asub [true, true, true] an67) (kRet (Cf fuel F_slices_Compact_s_int_int) Go.Proofs.Tryd.f67.results.toList)))

noncomputable def k_slices_Compact_s_int_int_0 : Nat → Nat → AExit → Fr → AHeap → Option (AVal × AHeap) := hide k_slices_Compact_s_int_int_0r

theorem k_slices_Compact_s_int_int_0_is : k_slices_Compact_s_int_int_0 = k_slices_Compact_s_int_int_0r := hide_eq _

noncomputable def s_slices_Compact_s_int_int_1 (fuel d : Nat) : Run := fun fr h k => aexec (Cf fuel F_slices_Compact_s_int_int) false (acall (C fuel) false d) (acall (C fuel) true d) 61 (csub [true, true, false, true, false, false, true, false, false, true, false, true, false, true, false, false] (fbody Go.Proofs.Tryd.f67)) (asub [true, true, false, true, false, false, true, false, false, true, false, true, false, true, false, false] an67) fr h k

noncomputable def l_slices_Compact_s_int_int_1r (fuel d : Nat) (n : Nat) (fr : Fr) (h : AHeap) : Option (AExit × Fr × AHeap) := aloop (s_slices_Compact_s_int_int_1 fuel d) (some [0, 3, 4, 5]) n fr h (kOut [0, 3])

noncomputable def l_slices_Compact_s_int_int_1 : Nat → Nat → Nat → Fr → AHeap → Option (AExit × Fr × AHeap) := hide l_slices_Compact_s_int_int_1r

theorem l_slices_Compact_s_int_int_1_is : l_slices_Compact_s_int_int_1 = l_slices_Compact_s_int_int_1r := hide_eq _

noncomputable def k_slices_Compact_s_int_int_1r (fuel d : Nat) (n : Nat) : AExit → Fr → AHeap → Option (AExit × Fr × AHeap) := (kBlock 2 (kSeq (Cf fuel F_slices_Compact_s_int_int) false (acall (C fuel) false d) (acall (C fuel) true d) 61 (csub [true, true, false, true, false, false, true, false, false, true, false, true, true] (fbody Go.Proofs.Tryd.f67)) (asub [true, true, false, true, false, false, true, false, false, true, false, true, true] an67) (kBlock 1 (kSeq (Cf fuel F_slices_Compact_s_int_int) false (acall (C fuel) false d) (acall (C fuel) true d) 61 (csub [true, true, false, true, false, false, true, true] (fbody Go.Proofs.Tryd.f67)) (asub [true, true, false, true, false, false, true, true] an67) (kLoop (s_slices_Compact_s_int_int_0 fuel d) (some [0, 3]) n (kOut [0, 2]))))))

noncomputable def k_slices_Compact_s_int_int_1 : Nat → Nat → Nat → AExit → Fr → AHeap → Option (AExit × Fr × AHeap) := hide k_slices_Compact_s_int_int_1r

theorem k_slices_Compact_s_int_int_1_is : k_slices_Compact_s_int_int_1 = k_slices_Compact_s_int_int_1r := hide_eq _

theorem e_slices_Compact_s_int_int (fuel d : Nat) (x0 : Sl) (h : AHeap) :
    run fuel (d + 1) F_slices_Compact_s_int_int [(AVal.slice x0)] h =
  (bif (decide (((x0.len : Nat) : Int) < (2 : Int))) then (some ((AVal.slice x0), h)) else ((l_slices_Compact_s_int_int_0 fuel d fuel [(0, (AVal.slice x0)), (3, (AVal.int .i64 (1 : Int)))] h).bind fun p1 =>
    k_slices_Compact_s_int_int_0 fuel d p1.1 p1.2.1 p1.2.2)) := by
  generalize hh : run = R
  rw [run_is] at hh
  subst hh
  generalize hh : l_slices_Compact_s_int_int_0 = R
  rw [l_slices_Compact_s_int_int_0_is] at hh
  subst hh
  generalize hh : k_slices_Compact_s_int_int_0 = R
  rw [k_slices_Compact_s_int_int_0_is] at hh
  subst hh
  kernel_rfl

theorem l_slices_Compact_s_int_int_0_eq (fuel d : Nat) (n : Nat) (x0 : Sl) (x3 : Int) (h : AHeap) :
    l_slices_Compact_s_int_int_0 fuel d (n + 1) [(0, (AVal.slice x0)), (3, (AVal.int .i64 x3))] h =
  (bif (decide (x3 < ((x0.len : Nat) : Int))) then ((AHeap.addr h 1 x0 x3).bind fun p1 =>
    (AHeap.cell h p1).bind fun u2 =>
    (AVal.int? .i64 u2).bind fun n3 =>
    (AHeap.addr h 1 x0 (IntKind.wrap .i64 (x3 - (1 : Int)))).bind fun p4 =>
    (AHeap.cell h p4).bind fun u5 =>
    (AVal.int? .i64 u5).bind fun n6 =>
    (bif (decide (n3 = n6)) then ((aHi (none : Option AVal) (Sl.len x0)).bind fun hi7 =>
    (aLo (some (AVal.int .i64 x3)) hi7).bind fun lo8 =>
    (aMx (none : Option AVal) hi7).bind fun cl9 =>
    (bif (AHeap.hasSz h 1 x0) then ((l_slices_Compact_s_int_int_1 fuel d fuel [(0, (AVal.slice x0)), (3, (AVal.int .i64 x3)), (4, (AVal.slice (Sl.cut x0 1 lo8 hi7 cl9))), (5, (AVal.int .i64 (1 : Int)))] h).bind fun p10 =>
    k_slices_Compact_s_int_int_1 fuel d n p10.1 p10.2.1 p10.2.2) else (none))) else (l_slices_Compact_s_int_int_0 fuel d n [(0, (AVal.slice x0)), (3, (AVal.int .i64 (IntKind.wrap .i64 (x3 + (1 : Int)))))] h))) else (some ((.exit 0), [(0, (AVal.slice x0)), (2, AVal.bot)], h))) := by
  generalize hh : l_slices_Compact_s_int_int_0 = R
  rw [l_slices_Compact_s_int_int_0_is] at hh
  subst hh
  generalize hh : l_slices_Compact_s_int_int_1 = R
  rw [l_slices_Compact_s_int_int_1_is] at hh
  subst hh
  generalize hh : k_slices_Compact_s_int_int_1 = R
  rw [k_slices_Compact_s_int_int_1_is] at hh
  subst hh
  kernel_rfl

theorem k_slices_Compact_s_int_int_0_x0 (fuel d : Nat) (x0 : Sl) (x2 : AVal) (h : AHeap) :
    k_slices_Compact_s_int_int_0 fuel d (.exit 0) [(0, (AVal.slice x0)), (2, x2)] h =
  some ((AVal.slice x0), h) := by
  generalize hh : k_slices_Compact_s_int_int_0 = R
  rw [k_slices_Compact_s_int_int_0_is] at hh
  subst hh
  kernel_rfl

theorem k_slices_Compact_s_int_int_0_r (fuel d : Nat) (x0 : AVal) (x2 : Sl) (h : AHeap) :
    k_slices_Compact_s_int_int_0 fuel d .ret [(0, x0), (2, (AVal.slice x2))] h =
  some ((AVal.slice x2), h) := by
  generalize hh : k_slices_Compact_s_int_int_0 = R
  rw [k_slices_Compact_s_int_int_0_is] at hh
  subst hh
  kernel_rfl

theorem l_slices_Compact_s_int_int_1_eq (fuel d : Nat) (n : Nat) (x0 : Sl) (x3 : Int) (x4 : Sl) (x5 : Int) (h : AHeap) :
    l_slices_Compact_s_int_int_1 fuel d (n + 1) [(0, (AVal.slice x0)), (3, (AVal.int .i64 x3)), (4, (AVal.slice x4)), (5, (AVal.int .i64 x5))] h =
  (bif (decide (x5 < ((x4.len : Nat) : Int))) then ((AHeap.addr h 1 x4 x5).bind fun p1 =>
    (AHeap.cell h p1).bind fun u2 =>
    (AVal.int? .i64 u2).bind fun n3 =>
    (AHeap.addr h 1 x4 (IntKind.wrap .i64 (x5 - (1 : Int)))).bind fun p4 =>
    (AHeap.cell h p4).bind fun u5 =>
    (AVal.int? .i64 u5).bind fun n6 =>
    (bif (!decide (n3 = n6)) then ((AHeap.addr h 1 x4 x5).bind fun p7 =>
    (AHeap.cell h p7).bind fun u8 =>
    (AVal.int? .i64 u8).bind fun n9 =>
    (AHeap.addr h 1 x0 x3).bind fun p10 =>
    (AHeap.storeAt h [(AVal.int .i64 n9)] p10).bind fun h11 =>
    l_slices_Compact_s_int_int_1 fuel d n [(0, (AVal.slice x0)), (3, (AVal.int .i64 (IntKind.wrap .i64 (x3 + (1 : Int))))), (4, (AVal.slice x4)), (5, (AVal.int .i64 (IntKind.wrap .i64 (x5 + (1 : Int)))))] h11) else (l_slices_Compact_s_int_int_1 fuel d n [(0, (AVal.slice x0)), (3, (AVal.int .i64 x3)), (4, (AVal.slice x4)), (5, (AVal.int .i64 (IntKind.wrap .i64 (x5 + (1 : Int)))))] h))) else (some ((.exit 2), [(0, (AVal.slice x0)), (3, (AVal.int .i64 x3))], h))) := by
  generalize hh : l_slices_Compact_s_int_int_1 = R
  rw [l_slices_Compact_s_int_int_1_is] at hh
  subst hh
  kernel_rfl

theorem k_slices_Compact_s_int_int_1_x2 (fuel d : Nat) (n : Nat) (x0 : Sl) (x3 : Int) (h : AHeap) :
    k_slices_Compact_s_int_int_1 fuel d n (.exit 2) [(0, (AVal.slice x0)), (3, (AVal.int .i64 x3))] h =
  (aHi (none : Option AVal) (Sl.len x0)).bind fun hi1 =>
    (aLo (some (AVal.int .i64 x3)) hi1).bind fun lo2 =>
    (aMx (none : Option AVal) hi1).bind fun cl3 =>
    (bif (AHeap.hasSz h 1 x0) then ((AHeap.clear h false [(AVal.int .i64 (0 : Int))] 1 (Sl.cut x0 1 lo2 hi1 cl3)).bind fun h4 =>
    (aHi (some (AVal.int .i64 x3)) (Sl.len x0)).bind fun hi5 =>
    (aLo (none : Option AVal) hi5).bind fun lo6 =>
    (aMx (none : Option AVal) hi5).bind fun cl7 =>
    (bif (AHeap.hasSz h4 1 x0) then (some (.ret, [(0, (AVal.slice x0)), (2, (AVal.slice (Sl.cut x0 1 lo6 hi5 cl7)))], h4)) else (none))) else (none)) := by
  generalize hh : k_slices_Compact_s_int_int_1 = R
  rw [k_slices_Compact_s_int_int_1_is] at hh
  subst hh
  kernel_rfl

theorem e_lits_Var (fuel d : Nat) (x0 : Int) (h : AHeap) :
    brun fuel (d + 1) F_lits_Var [(AVal.int .i64 x0)] h =
  some ((AVal.int .i64 (bif decide (x0 < (IntKind.wrap .i64 (0 - x0))) then (IntKind.wrap .i64 (0 - x0)) else x0)), h) := by
  generalize hh : brun = R
  rw [brun_is] at hh
  subst hh
  kernel_rfl

noncomputable def s_slices_Equal_s_int_int_0 (fuel d : Nat) : Run := fun fr h k => aexec (Cf fuel F_slices_Equal_s_int_int) false (acall (C fuel) false d) (acall (C fuel) true d) 26 (csub [true, true, false, true, false, false] (fbody Go.Proofs.Tryd.f69)) (asub [true, true, false, true, false, false] an69) fr h k

noncomputable def l_slices_Equal_s_int_int_0r (fuel d : Nat) (n : Nat) (fr : Fr) (h : AHeap) : Option (AExit × Fr × AHeap) := aloop (s_slices_Equal_s_int_int_0 fuel d) (some [0, 1, 12, 13]) n fr h (kOut [4])

noncomputable def l_slices_Equal_s_int_int_0 : Nat → Nat → Nat → Fr → AHeap → Option (AExit × Fr × AHeap) := hide l_slices_Equal_s_int_int_0r

theorem l_slices_Equal_s_int_int_0_is : l_slices_Equal_s_int_int_0 = l_slices_Equal_s_int_int_0r := hide_eq _

noncomputable def k_slices_Equal_s_int_int_0r (fuel d : Nat) : AExit → Fr → AHeap → Option (AVal × AHeap) := (kBlock 0 (kSeq (Cf fuel F_slices_Equal_s_int_int) false (acall (C fuel) false d) (acall (C fuel) true d) 26 (csub [true, true, true] (fbody Go.Proofs.Tryd.f69)) (asub [true, true, true] an69) (kRet (Cf fuel F_slices_Equal_s_int_int) Go.Proofs.Tryd.f69.results.toList)))

noncomputable def k_slices_Equal_s_int_int_0 : Nat → Nat → AExit → Fr → AHeap → Option (AVal × AHeap) := hide k_slices_Equal_s_int_int_0r

theorem k_slices_Equal_s_int_int_0_is : k_slices_Equal_s_int_int_0 = k_slices_Equal_s_int_int_0r := hide_eq _

theorem e_slices_Equal_s_int_int (fuel d : Nat) (x0 : Sl) (x1 : Sl) (h : AHeap) :
    brun fuel (d + 1) F_slices_Equal_s_int_int [(AVal.slice x0), (AVal.slice x1)] h =
  (bif (!decide (((x0.len : Nat) : Int) = ((x1.len : Nat) : Int))) then (some ((AVal.bool false), h)) else ((l_slices_Equal_s_int_int_0 fuel d fuel [(0, (AVal.slice x0)), (1, (AVal.slice x1)), (12, (AVal.int .i64 ((x0.len : Nat) : Int))), (13, (AVal.int .i64 (0 : Int)))] h).bind fun p1 =>
    k_slices_Equal_s_int_int_0 fuel d p1.1 p1.2.1 p1.2.2)) := by
  generalize hh : brun = R
  rw [brun_is] at hh
  subst hh
  generalize hh : l_slices_Equal_s_int_int_0 = R
  rw [l_slices_Equal_s_int_int_0_is] at hh
  subst hh
  generalize hh : k_slices_Equal_s_int_int_0 = R
  rw [k_slices_Equal_s_int_int_0_is] at hh
  subst hh
  kernel_rfl

theorem l_slices_Equal_s_int_int_0_eq (fuel d : Nat) (n : Nat) (x0 : Sl) (x1 : Sl) (x12 : Int) (x13 : Int) (h : AHeap) :
    l_slices_Equal_s_int_int_0 fuel d (n + 1) [(0, (AVal.slice x0)), (1, (AVal.slice x1)), (12, (AVal.int .i64 x12)), (13, (AVal.int .i64 x13))] h =
  (bif (decide (x13 < x12)) then ((AHeap.addr h 1 x0 x13).bind fun p1 =>
    (AHeap.cell h p1).bind fun u2 =>
    (AVal.int? .i64 u2).bind fun n3 =>
    (AHeap.addr h 1 x1 x13).bind fun p4 =>
    (AHeap.cell h p4).bind fun u5 =>
    (AVal.int? .i64 u5).bind fun n6 =>
    (bif (!decide (n3 = n6)) then (some (.ret, [(4, (AVal.bool false))], h)) else (l_slices_Equal_s_int_int_0 fuel d n [(0, (AVal.slice x0)), (1, (AVal.slice x1)), (12, (AVal.int .i64 x12)), (13, (AVal.int .i64 (IntKind.wrap .i64 (x13 + (1 : Int)))))] h))) else (some ((.exit 0), [(4, AVal.bot)], h))) := by
  generalize hh : l_slices_Equal_s_int_int_0 = R
  rw [l_slices_Equal_s_int_int_0_is] at hh
  subst hh
  kernel_rfl

theorem k_slices_Equal_s_int_int_0_x0 (fuel d : Nat) (x4 : AVal) (h : AHeap) :
    k_slices_Equal_s_int_int_0 fuel d (.exit 0) [(4, x4)] h =
  some ((AVal.bool true), h) := by
  generalize hh : k_slices_Equal_s_int_int_0 = R
  rw [k_slices_Equal_s_int_int_0_is] at hh
  subst hh
  kernel_rfl

theorem k_slices_Equal_s_int_int_0_r (fuel d : Nat) (x4 : Bool) (h : AHeap) :
    k_slices_Equal_s_int_int_0 fuel d .ret [(4, (AVal.bool x4))] h =
  some ((AVal.bool x4), h) := by
  generalize hh : k_slices_Equal_s_int_int_0 = R
  rw [k_slices_Equal_s_int_int_0_is] at hh
  subst hh
  kernel_rfl

noncomputable def s_slices_DeleteFunc_s_int_int_0 (fuel d : Nat) : Run := fun fr h k => aexec (Cf fuel F_slices_DeleteFunc_s_int_int) false (acall (C fuel) false d) (acall (C fuel) true d) 42 (csub [true, true, true, false, true, false, false] (fbody Go.Proofs.Tryd.f70)) (asub [true, true, true, false, true, false, false] an70) fr h k

noncomputable def l_slices_DeleteFunc_s_int_int_0r (fuel d : Nat) (n : Nat) (fr : Fr) (h : AHeap) : Option (AExit × Fr × AHeap) := aloop (s_slices_DeleteFunc_s_int_int_0 fuel d) (some [0, 1, 5, 6]) n fr h (kOut [0, 5])

noncomputable def l_slices_DeleteFunc_s_int_int_0 : Nat → Nat → Nat → Fr → AHeap → Option (AExit × Fr × AHeap) := hide l_slices_DeleteFunc_s_int_int_0r

theorem l_slices_DeleteFunc_s_int_int_0_is : l_slices_DeleteFunc_s_int_int_0 = l_slices_DeleteFunc_s_int_int_0r := hide_eq _

noncomputable def k_slices_DeleteFunc_s_int_int_0r (fuel d : Nat) : AExit → Fr → AHeap → Option (AVal × AHeap) := (kBlock 0 (kSeq (Cf fuel F_slices_DeleteFunc_s_int_int) false (acall (C fuel) false d) (acall (C fuel) true d) 42 (csub [true, true, true, true] (fbody Go.Proofs.Tryd.f70)) (asub [true, true, true, true] an70) (kRet (Cf fuel F_slices_DeleteFunc_s_int_int) Go.Proofs.Tryd.f70.results.toList)))

noncomputable def k_slices_DeleteFunc_s_int_int_0 : Nat → Nat → AExit → Fr → AHeap → Option (AVal × AHeap) := hide k_slices_DeleteFunc_s_int_int_0r

theorem k_slices_DeleteFunc_s_int_int_0_is : k_slices_DeleteFunc_s_int_int_0 = k_slices_DeleteFunc_s_int_int_0r := hide_eq _

theorem e_slices_DeleteFunc_s_int_int (fuel d : Nat) (x0 : Sl) (x1f : Nat) (x1c : List Pt) (h : AHeap) :
    brun fuel (d + 1) F_slices_DeleteFunc_s_int_int [(AVal.slice x0), (AVal.func x1f x1c)] h =
  (run fuel d F_slices_IndexFunc_s_int_int [(AVal.slice x0), (AVal.func x1f x1c)] h).bind fun r1 =>
    (AVal.int? .i64 r1.1).bind fun n2 =>
    (bif (decide (n2 = (-1 : Int))) then (some ((AVal.slice x0), r1.2)) else ((l_slices_DeleteFunc_s_int_int_0 fuel d fuel [(0, (AVal.slice x0)), (1, (AVal.func x1f x1c)), (5, (AVal.int .i64 n2)), (6, (AVal.int .i64 (IntKind.wrap .i64 (n2 + (1 : Int)))))] r1.2).bind fun p3 =>
    k_slices_DeleteFunc_s_int_int_0 fuel d p3.1 p3.2.1 p3.2.2)) := by
  generalize hh : run = R
  rw [run_is] at hh
  subst hh
  generalize hh : brun = R
  rw [brun_is] at hh
  subst hh
  generalize hh : l_slices_DeleteFunc_s_int_int_0 = R
  rw [l_slices_DeleteFunc_s_int_int_0_is] at hh
  subst hh
  generalize hh : k_slices_DeleteFunc_s_int_int_0 = R
  rw [k_slices_DeleteFunc_s_int_int_0_is] at hh
  subst hh
  kernel_rfl

theorem l_slices_DeleteFunc_s_int_int_0_eq (fuel d : Nat) (n : Nat) (x0 : Sl) (x1f : Nat) (x1c : List Pt) (x5 : Int) (x6 : Int) (h : AHeap) :
    l_slices_DeleteFunc_s_int_int_0 fuel d (n + 1) [(0, (AVal.slice x0)), (1, (AVal.func x1f x1c)), (5, (AVal.int .i64 x5)), (6, (AVal.int .i64 x6))] h =
  (bif (decide (x6 < ((x0.len : Nat) : Int))) then ((AHeap.addr h 1 x0 x6).bind fun p1 =>
    (AHeap.cell h p1).bind fun u2 =>
    (AVal.int? .i64 u2).bind fun n3 =>
    (run fuel d x1f ([(AVal.int .i64 n3)] ++ List.map AVal.ptr x1c) h).bind fun r4 =>
    (AVal.bool? r4.1).bind fun b5 =>
    (bif (!b5) then ((AHeap.addr r4.2 1 x0 x5).bind fun p6 =>
    (AHeap.storeAt r4.2 [(AVal.int .i64 n3)] p6).bind fun h7 =>
    l_slices_DeleteFunc_s_int_int_0 fuel d n [(0, (AVal.slice x0)), (1, (AVal.func x1f x1c)), (5, (AVal.int .i64 (IntKind.wrap .i64 (x5 + (1 : Int))))), (6, (AVal.int .i64 (IntKind.wrap .i64 (x6 + (1 : Int)))))] h7) else (l_slices_DeleteFunc_s_int_int_0 fuel d n [(0, (AVal.slice x0)), (1, (AVal.func x1f x1c)), (5, (AVal.int .i64 x5)), (6, (AVal.int .i64 (IntKind.wrap .i64 (x6 + (1 : Int)))))] r4.2))) else (some ((.exit 0), [(0, (AVal.slice x0)), (5, (AVal.int .i64 x5))], h))) := by
  generalize hh : run = R
  rw [run_is] at hh
  subst hh
  generalize hh : l_slices_DeleteFunc_s_int_int_0 = R
  rw [l_slices_DeleteFunc_s_int_int_0_is] at hh
  subst hh
  kernel_rfl

theorem k_slices_DeleteFunc_s_int_int_0_x0 (fuel d : Nat) (x0 : Sl) (x5 : Int) (h : AHeap) :
    k_slices_DeleteFunc_s_int_int_0 fuel d (.exit 0) [(0, (AVal.slice x0)), (5, (AVal.int .i64 x5))] h =
  (aHi (none : Option AVal) (Sl.len x0)).bind fun hi1 =>
    (aLo (some (AVal.int .i64 x5)) hi1).bind fun lo2 =>
    (aMx (none : Option AVal) hi1).bind fun cl3 =>
    (bif (AHeap.hasSz h 1 x0) then ((AHeap.clear h false [(AVal.int .i64 (0 : Int))] 1 (Sl.cut x0 1 lo2 hi1 cl3)).bind fun h4 =>
    (aHi (some (AVal.int .i64 x5)) (Sl.len x0)).bind fun hi5 =>
    (aLo (none : Option AVal) hi5).bind fun lo6 =>
    (aMx (none : Option AVal) hi5).bind fun cl7 =>
    (bif (AHeap.hasSz h4 1 x0) then (some ((AVal.slice (Sl.cut x0 1 lo6 hi5 cl7)), h4)) else (none))) else (none)) := by
  generalize hh : k_slices_DeleteFunc_s_int_int_0 = R
  rw [k_slices_DeleteFunc_s_int_int_0_is] at hh
  subst hh
  kernel_rfl

theorem e_rup_gone_1 (fuel d : Nat) (x0 : Int) (x1 : Pt) (h : AHeap) :
    run fuel (d + 1) F_rup_gone_1 [(AVal.int .i64 x0), (AVal.ptr x1)] h =
  (AHeap.cell h x1).bind fun u1 =>
    (AVal.int? .i64 u1).bind fun n2 =>
    some ((AVal.bool (decide (x0 = n2))), h) := by
  generalize hh : run = R
  rw [run_is] at hh
  subst hh
  kernel_rfl

noncomputable def s_slices_IndexFunc_s_int_int_0 (fuel d : Nat) : Run := fun fr h k => aexec (Cf fuel F_slices_IndexFunc_s_int_int) false (acall (C fuel) false d) (acall (C fuel) true d) 19 (csub [true, false, true, false, false] (fbody Go.Proofs.Tryd.f79)) (asub [true, false, true, false, false] an79) fr h k

noncomputable def l_slices_IndexFunc_s_int_int_0r (fuel d : Nat) (n : Nat) (fr : Fr) (h : AHeap) : Option (AExit × Fr × AHeap) := aloop (s_slices_IndexFunc_s_int_int_0 fuel d) (some [0, 1, 7, 8]) n fr h (kOut [4])

noncomputable def l_slices_IndexFunc_s_int_int_0 : Nat → Nat → Nat → Fr → AHeap → Option (AExit × Fr × AHeap) := hide l_slices_IndexFunc_s_int_int_0r

theorem l_slices_IndexFunc_s_int_int_0_is : l_slices_IndexFunc_s_int_int_0 = l_slices_IndexFunc_s_int_int_0r := hide_eq _

noncomputable def k_slices_IndexFunc_s_int_int_0r (fuel d : Nat) : AExit → Fr → AHeap → Option (AVal × AHeap) := (kBlock 0 (kSeq (Cf fuel F_slices_IndexFunc_s_int_int) false (acall (C fuel) false d) (acall (C fuel) true d) 19 (csub [true, true] (fbody Go.Proofs.Tryd.f79)) (asub [true, true] an79) (kRet (Cf fuel F_slices_IndexFunc_s_int_int) Go.Proofs.Tryd.f79.results.toList)))

noncomputable def k_slices_IndexFunc_s_int_int_0 : Nat → Nat → AExit → Fr → AHeap → Option (AVal × AHeap) := hide k_slices_IndexFunc_s_int_int_0r

theorem k_slices_IndexFunc_s_int_int_0_is : k_slices_IndexFunc_s_int_int_0 = k_slices_IndexFunc_s_int_int_0r := hide_eq _

theorem e_slices_IndexFunc_s_int_int (fuel d : Nat) (x0 : Sl) (x1f : Nat) (x1c : List Pt) (h : AHeap) :
    brun fuel (d + 1) F_slices_IndexFunc_s_int_int [(AVal.slice x0), (AVal.func x1f x1c)] h =
  (l_slices_IndexFunc_s_int_int_0 fuel d fuel [(0, (AVal.slice x0)), (1, (AVal.func x1f x1c)), (7, (AVal.int .i64 ((x0.len : Nat) : Int))), (8, (AVal.int .i64 (0 : Int)))] h).bind fun p1 =>
    k_slices_IndexFunc_s_int_int_0 fuel d p1.1 p1.2.1 p1.2.2 := by
  generalize hh : brun = R
  rw [brun_is] at hh
  subst hh
  generalize hh : l_slices_IndexFunc_s_int_int_0 = R
  rw [l_slices_IndexFunc_s_int_int_0_is] at hh
  subst hh
  generalize hh : k_slices_IndexFunc_s_int_int_0 = R
  rw [k_slices_IndexFunc_s_int_int_0_is] at hh
  subst hh
  kernel_rfl

theorem l_slices_IndexFunc_s_int_int_0_eq (fuel d : Nat) (n : Nat) (x0 : Sl) (x1f : Nat) (x1c : List Pt) (x7 : Int) (x8 : Int) (h : AHeap) :
    l_slices_IndexFunc_s_int_int_0 fuel d (n + 1) [(0, (AVal.slice x0)), (1, (AVal.func x1f x1c)), (7, (AVal.int .i64 x7)), (8, (AVal.int .i64 x8))] h =
  (bif (decide (x8 < x7)) then ((AHeap.addr h 1 x0 x8).bind fun p1 =>
    (AHeap.cell h p1).bind fun u2 =>
    (AVal.int? .i64 u2).bind fun n3 =>
    (run fuel d x1f ([(AVal.int .i64 n3)] ++ List.map AVal.ptr x1c) h).bind fun r4 =>
    (AVal.bool? r4.1).bind fun b5 =>
    (bif b5 then (some (.ret, [(4, (AVal.int .i64 x8))], r4.2)) else (l_slices_IndexFunc_s_int_int_0 fuel d n [(0, (AVal.slice x0)), (1, (AVal.func x1f x1c)), (7, (AVal.int .i64 x7)), (8, (AVal.int .i64 (IntKind.wrap .i64 (x8 + (1 : Int)))))] r4.2))) else (some ((.exit 0), [(4, AVal.bot)], h))) := by
  generalize hh : run = R
  rw [run_is] at hh
  subst hh
  generalize hh : l_slices_IndexFunc_s_int_int_0 = R
  rw [l_slices_IndexFunc_s_int_int_0_is] at hh
  subst hh
  kernel_rfl

theorem k_slices_IndexFunc_s_int_int_0_x0 (fuel d : Nat) (x4 : AVal) (h : AHeap) :
    k_slices_IndexFunc_s_int_int_0 fuel d (.exit 0) [(4, x4)] h =
  some ((AVal.int .i64 (-1 : Int)), h) := by
  generalize hh : k_slices_IndexFunc_s_int_int_0 = R
  rw [k_slices_IndexFunc_s_int_int_0_is] at hh
  subst hh
  kernel_rfl

theorem k_slices_IndexFunc_s_int_int_0_r (fuel d : Nat) (x4 : Int) (h : AHeap) :
    k_slices_IndexFunc_s_int_int_0 fuel d .ret [(4, (AVal.int .i64 x4))] h =
  some ((AVal.int .i64 x4), h) := by
  generalize hh : k_slices_IndexFunc_s_int_int_0 = R
  rw [k_slices_IndexFunc_s_int_int_0_is] at hh
  subst hh
  kernel_rfl

noncomputable def s_slices_pdqsortCmpFunc_int_0 (fuel d : Nat) : Run := fun fr h k => aexec (Cf fuel F_slices_pdqsortCmpFunc_int) false (acall (C fuel) false d) (acall (C fuel) true d) 148 (csub [true, true, false, false] (fbody Go.Proofs.Tryd.f80)) (asub [true, true, false, false] an80) fr h k

noncomputable def l_slices_pdqsortCmpFunc_int_0r (fuel d : Nat) (n : Nat) (fr : Fr) (h : AHeap) : Option (AExit × Fr × AHeap) := aloop (s_slices_pdqsortCmpFunc_int_0 fuel d) (some [0, 1, 2, 3, 4, 10, 11]) n fr h (kOut [])

noncomputable def l_slices_pdqsortCmpFunc_int_0 : Nat → Nat → Nat → Fr → AHeap → Option (AExit × Fr × AHeap) := hide l_slices_pdqsortCmpFunc_int_0r

theorem l_slices_pdqsortCmpFunc_int_0_is : l_slices_pdqsortCmpFunc_int_0 = l_slices_pdqsortCmpFunc_int_0r := hide_eq _

noncomputable def k_slices_pdqsortCmpFunc_int_0r (fuel d : Nat) : AExit → Fr → AHeap → Option (AVal × AHeap) := (kBlock 0 (kRet (Cf fuel F_slices_pdqsortCmpFunc_int) Go.Proofs.Tryd.f80.results.toList))

noncomputable def k_slices_pdqsortCmpFunc_int_0 : Nat → Nat → AExit → Fr → AHeap → Option (AVal × AHeap) := hide k_slices_pdqsortCmpFunc_int_0r

theorem k_slices_pdqsortCmpFunc_int_0_is : k_slices_pdqsortCmpFunc_int_0 = k_slices_pdqsortCmpFunc_int_0r := hide_eq _

noncomputable def k_slices_pdqsortCmpFunc_int_1r (fuel d : Nat) (n : Nat) : AExit → Fr → AHeap → Option (AExit × Fr × AHeap) := (kSeq (Cf fuel F_slices_pdqsortCmpFunc_int) false (acall (C fuel) false d) (acall (C fuel) true d) 148 (csub [true, true, false, false, false, true, true, true, true] (fbody Go.Proofs.Tryd.f80)) (asub [true, true, false, false, false, true, true, true, true] an80) (kBlock 1 (kLoop (s_slices_pdqsortCmpFunc_int_0 fuel d) (some [0, 1, 2, 3, 4, 10, 11]) n (kOut []))))

noncomputable def k_slices_pdqsortCmpFunc_int_1 : Nat → Nat → Nat → AExit → Fr → AHeap → Option (AExit × Fr × AHeap) := hide k_slices_pdqsortCmpFunc_int_1r

theorem k_slices_pdqsortCmpFunc_int_1_is : k_slices_pdqsortCmpFunc_int_1 = k_slices_pdqsortCmpFunc_int_1r := hide_eq _

noncomputable def k_slices_pdqsortCmpFunc_int_2r (fuel d : Nat) (n : Nat) : AExit → Fr → AHeap → Option (AExit × Fr × AHeap) := (kSeq (Cf fuel F_slices_pdqsortCmpFunc_int) false (acall (C fuel) false d) (acall (C fuel) true d) 148 (csub [true, true, false, false, false, true, true, true, true, true, true] (fbody Go.Proofs.Tryd.f80)) (asub [true, true, false, false, false, true, true, true, true, true, true] an80) (kBlock 1 (kLoop (s_slices_pdqsortCmpFunc_int_0 fuel d) (some [0, 1, 2, 3, 4, 10, 11]) n (kOut []))))

noncomputable def k_slices_pdqsortCmpFunc_int_2 : Nat → Nat → Nat → AExit → Fr → AHeap → Option (AExit × Fr × AHeap) := hide k_slices_pdqsortCmpFunc_int_2r

theorem k_slices_pdqsortCmpFunc_int_2_is : k_slices_pdqsortCmpFunc_int_2 = k_slices_pdqsortCmpFunc_int_2r := hide_eq _

noncomputable def k_slices_pdqsortCmpFunc_int_3r (fuel d : Nat) (n : Nat) : AExit → Fr → AHeap → Option (AExit × Fr × AHeap) := (kSeq (Cf fuel F_slices_pdqsortCmpFunc_int) false (acall (C fuel) false d) (acall (C fuel) true d) 148 (csub [true, true, false, false, false, true, true, true, true, true, true, true] (fbody Go.Proofs.Tryd.f80)) (asub [true, true, false, false, false, true, true, true, true, true, true, true] an80) (kBlock 1 (kLoop (s_slices_pdqsortCmpFunc_int_0 fuel d) (some [0, 1, 2, 3, 4, 10, 11]) n (kOut []))))

noncomputable def k_slices_pdqsortCmpFunc_int_3 : Nat → Nat → Nat → AExit → Fr → AHeap → Option (AExit × Fr × AHeap) := hide k_slices_pdqsortCmpFunc_int_3r

theorem k_slices_pdqsortCmpFunc_int_3_is : k_slices_pdqsortCmpFunc_int_3 = k_slices_pdqsortCmpFunc_int_3r := hide_eq _

noncomputable def k_slices_pdqsortCmpFunc_int_4r (fuel d : Nat) (n : Nat) : AExit → Fr → AHeap → Option (AExit × Fr × AHeap) := (kSeq (Cf fuel F_slices_pdqsortCmpFunc_int) false (acall (C fuel) false d) (acall (C fuel) true d) 148 (csub [true, true, false, false, false, true, true, true, true, true, true, true, false, true] (fbody Go.Proofs.Tryd.f80)) (asub [true, true, false, false, false, true, true, true, true, true, true, true, false, true] an80) (kSeq (Cf fuel F_slices_pdqsortCmpFunc_int) false (acall (C fuel) false d) (acall (C fuel) true d) 148 (csub [true, true, false, false, false, true, true, true, true, true, true, true, true] (fbody Go.Proofs.Tryd.f80)) (asub [true, true, false, false, false, true, true, true, true, true, true, true, true] an80) (kBlock 1 (kLoop (s_slices_pdqsortCmpFunc_int_0 fuel d) (some [0, 1, 2, 3, 4, 10, 11]) n (kOut [])))))

noncomputable def k_slices_pdqsortCmpFunc_int_4 : Nat → Nat → Nat → AExit → Fr → AHeap → Option (AExit × Fr × AHeap) := hide k_slices_pdqsortCmpFunc_int_4r

theorem k_slices_pdqsortCmpFunc_int_4_is : k_slices_pdqsortCmpFunc_int_4 = k_slices_pdqsortCmpFunc_int_4r := hide_eq _

theorem e_slices_pdqsortCmpFunc_int (fuel d : Nat) (x0 : Sl) (x1 : Int) (x2 : Int) (x3 : Int) (x4f : Nat) (x4c : List Pt) (h : AHeap) :
    run fuel (d + 1) F_slices_pdqsortCmpFunc_int [(AVal.slice x0), (AVal.int .i64 x1), (AVal.int .i64 x2), (AVal.int .i64 x3), (AVal.func x4f x4c)] h =
  (l_slices_pdqsortCmpFunc_int_0 fuel d fuel [(0, (AVal.slice x0)), (1, (AVal.int .i64 x1)), (2, (AVal.int .i64 x2)), (3, (AVal.int .i64 x3)), (4, (AVal.func x4f x4c)), (10, (AVal.bool true)), (11, (AVal.bool true))] h).bind fun p1 =>
    k_slices_pdqsortCmpFunc_int_0 fuel d p1.1 p1.2.1 p1.2.2 := by
  generalize hh : run = R
  rw [run_is] at hh
  subst hh
  generalize hh : l_slices_pdqsortCmpFunc_int_0 = R
  rw [l_slices_pdqsortCmpFunc_int_0_is] at hh
  subst hh
  generalize hh : k_slices_pdqsortCmpFunc_int_0 = R
  rw [k_slices_pdqsortCmpFunc_int_0_is] at hh
  subst hh
  kernel_rfl

theorem l_slices_pdqsortCmpFunc_int_0_eq (fuel d : Nat) (n : Nat) (x0 : Sl) (x1 : Int) (x2 : Int) (x3 : Int) (x4f : Nat) (x4c : List Pt) (x10 : Bool) (x11 : Bool) (h : AHeap) :
    l_slices_pdqsortCmpFunc_int_0 fuel d (n + 1) [(0, (AVal.slice x0)), (1, (AVal.int .i64 x1)), (2, (AVal.int .i64 x2)), (3, (AVal.int .i64 x3)), (4, (AVal.func x4f x4c)), (10, (AVal.bool x10)), (11, (AVal.bool x11))] h =
  (bif (decide ((IntKind.wrap .i64 (x2 - x1)) ≤ (12 : Int))) then ((run fuel d F_slices_insertionSortCmpFunc_int [(AVal.slice x0), (AVal.int .i64 x1), (AVal.int .i64 x2), (AVal.func x4f x4c)] h).bind fun r1 =>
    some (.ret, [], r1.2)) else ((bif (decide (x3 = (0 : Int))) then ((run fuel d F_slices_heapSortCmpFunc_int [(AVal.slice x0), (AVal.int .i64 x1), (AVal.int .i64 x2), (AVal.func x4f x4c)] h).bind fun r2 =>
    some (.ret, [], r2.2)) else (((bif (!x10) then ((run fuel d F_slices_breakPatternsCmpFunc_int [(AVal.slice x0), (AVal.int .i64 x1), (AVal.int .i64 x2), (AVal.func x4f x4c)] h).bind fun r3 =>
    some (.normal, [(0, (AVal.slice x0)), (1, (AVal.int .i64 x1)), (2, (AVal.int .i64 x2)), (3, (AVal.int .i64 (IntKind.wrap .i64 (x3 - (1 : Int))))), (4, (AVal.func x4f x4c)), (10, (AVal.bool x10)), (11, (AVal.bool x11)), (12, (AVal.int .i64 (IntKind.wrap .i64 (x2 - x1))))], r3.2)) else (some (.normal, [(0, (AVal.slice x0)), (1, (AVal.int .i64 x1)), (2, (AVal.int .i64 x2)), (3, (AVal.int .i64 x3)), (4, (AVal.func x4f x4c)), (10, (AVal.bool x10)), (11, (AVal.bool x11)), (12, (AVal.int .i64 (IntKind.wrap .i64 (x2 - x1))))], h)))).bind fun p4 =>
    k_slices_pdqsortCmpFunc_int_1 fuel d n p4.1 p4.2.1 p4.2.2)))) := by
  generalize hh : run = R
  rw [run_is] at hh
  subst hh
  generalize hh : l_slices_pdqsortCmpFunc_int_0 = R
  rw [l_slices_pdqsortCmpFunc_int_0_is] at hh
  subst hh
  generalize hh : k_slices_pdqsortCmpFunc_int_1 = R
  rw [k_slices_pdqsortCmpFunc_int_1_is] at hh
  subst hh
  kernel_rfl

theorem k_slices_pdqsortCmpFunc_int_0_r (fuel d : Nat)  (h : AHeap) :
    k_slices_pdqsortCmpFunc_int_0 fuel d .ret [] h =
  some ((AVal.tup []), h) := by
  generalize hh : k_slices_pdqsortCmpFunc_int_0 = R
  rw [k_slices_pdqsortCmpFunc_int_0_is] at hh
  subst hh
  kernel_rfl

theorem k_slices_pdqsortCmpFunc_int_1_n (fuel d : Nat) (n : Nat) (x0 : Sl) (x1 : Int) (x2 : Int) (x3 : Int) (x4f : Nat) (x4c : List Pt) (x10 : Bool) (x11 : Bool) (x12 : Int) (h : AHeap) :
    k_slices_pdqsortCmpFunc_int_1 fuel d n .normal [(0, (AVal.slice x0)), (1, (AVal.int .i64 x1)), (2, (AVal.int .i64 x2)), (3, (AVal.int .i64 x3)), (4, (AVal.func x4f x4c)), (10, (AVal.bool x10)), (11, (AVal.bool x11)), (12, (AVal.int .i64 x12))] h =
  (run fuel d F_slices_choosePivotCmpFunc_int [(AVal.slice x0), (AVal.int .i64 x1), (AVal.int .i64 x2), (AVal.func x4f x4c)] h).bind fun r1 =>
    (bif AVal.isTup 2 r1.1 then ((AVal.comp 0 r1.1).bind fun u2 =>
    (AVal.int? .i64 u2).bind fun n3 =>
    (AVal.comp 1 r1.1).bind fun u4 =>
    (AVal.int? .i64 u4).bind fun n5 =>
    ((bif (decide (n5 = (2 : Int))) then ((run fuel d F_slices_reverseRangeCmpFunc_int [(AVal.slice x0), (AVal.int .i64 x1), (AVal.int .i64 x2), (AVal.func x4f x4c)] r1.2).bind fun r6 =>
    some (.normal, [(0, (AVal.slice x0)), (1, (AVal.int .i64 x1)), (2, (AVal.int .i64 x2)), (3, (AVal.int .i64 x3)), (4, (AVal.func x4f x4c)), (10, (AVal.bool x10)), (11, (AVal.bool x11)), (12, (AVal.int .i64 x12)), (13, (AVal.int .i64 (IntKind.wrap .i64 ((IntKind.wrap .i64 (x2 - (1 : Int))) - (IntKind.wrap .i64 (n3 - x1)))))), (14, (AVal.int .i64 (1 : Int)))], r6.2)) else (some (.normal, [(0, (AVal.slice x0)), (1, (AVal.int .i64 x1)), (2, (AVal.int .i64 x2)), (3, (AVal.int .i64 x3)), (4, (AVal.func x4f x4c)), (10, (AVal.bool x10)), (11, (AVal.bool x11)), (12, (AVal.int .i64 x12)), (13, (AVal.int .i64 n3)), (14, (AVal.int .i64 n5))], r1.2)))).bind fun p7 =>
    k_slices_pdqsortCmpFunc_int_2 fuel d n p7.1 p7.2.1 p7.2.2) else none) := by
  generalize hh : run = R
  rw [run_is] at hh
  subst hh
  generalize hh : k_slices_pdqsortCmpFunc_int_1 = R
  rw [k_slices_pdqsortCmpFunc_int_1_is] at hh
  subst hh
  generalize hh : k_slices_pdqsortCmpFunc_int_2 = R
  rw [k_slices_pdqsortCmpFunc_int_2_is] at hh
  subst hh
  kernel_rfl

theorem k_slices_pdqsortCmpFunc_int_2_n (fuel d : Nat) (n : Nat) (x0 : Sl) (x1 : Int) (x2 : Int) (x3 : Int) (x4f : Nat) (x4c : List Pt) (x10 : Bool) (x11 : Bool) (x12 : Int) (x13 : Int) (x14 : Int) (h : AHeap) :
    k_slices_pdqsortCmpFunc_int_2 fuel d n .normal [(0, (AVal.slice x0)), (1, (AVal.int .i64 x1)), (2, (AVal.int .i64 x2)), (3, (AVal.int .i64 x3)), (4, (AVal.func x4f x4c)), (10, (AVal.bool x10)), (11, (AVal.bool x11)), (12, (AVal.int .i64 x12)), (13, (AVal.int .i64 x13)), (14, (AVal.int .i64 x14))] h =
  ((bif (bif (bif x10 then x11 else false) then (decide (x14 = (1 : Int))) else false) then ((run fuel d F_slices_partialInsertionSortCmpFunc_int [(AVal.slice x0), (AVal.int .i64 x1), (AVal.int .i64 x2), (AVal.func x4f x4c)] h).bind fun r1 =>
    (AVal.bool? r1.1).bind fun b2 =>
    (bif b2 then (some (.ret, [(0, (AVal.slice x0)), (1, (AVal.int .i64 x1)), (2, (AVal.int .i64 x2)), (3, (AVal.int .i64 x3)), (4, (AVal.func x4f x4c)), (10, (AVal.bool x10)), (11, (AVal.bool x11)), (12, (AVal.int .i64 x12)), (13, (AVal.int .i64 x13))], r1.2)) else (some (.normal, [(0, (AVal.slice x0)), (1, (AVal.int .i64 x1)), (2, (AVal.int .i64 x2)), (3, (AVal.int .i64 x3)), (4, (AVal.func x4f x4c)), (10, (AVal.bool x10)), (11, (AVal.bool x11)), (12, (AVal.int .i64 x12)), (13, (AVal.int .i64 x13))], r1.2)))) else (some (.normal, [(0, (AVal.slice x0)), (1, (AVal.int .i64 x1)), (2, (AVal.int .i64 x2)), (3, (AVal.int .i64 x3)), (4, (AVal.func x4f x4c)), (10, (AVal.bool x10)), (11, (AVal.bool x11)), (12, (AVal.int .i64 x12)), (13, (AVal.int .i64 x13))], h)))).bind fun p3 =>
    k_slices_pdqsortCmpFunc_int_3 fuel d n p3.1 p3.2.1 p3.2.2 := by
  generalize hh : run = R
  rw [run_is] at hh
  subst hh
  generalize hh : k_slices_pdqsortCmpFunc_int_2 = R
  rw [k_slices_pdqsortCmpFunc_int_2_is] at hh
  subst hh
  generalize hh : k_slices_pdqsortCmpFunc_int_3 = R
  rw [k_slices_pdqsortCmpFunc_int_3_is] at hh
  subst hh
  kernel_rfl

theorem k_slices_pdqsortCmpFunc_int_3_n (fuel d : Nat) (n : Nat) (x0 : Sl) (x1 : Int) (x2 : Int) (x3 : Int) (x4f : Nat) (x4c : List Pt) (x10 : Bool) (x11 : Bool) (x12 : Int) (x13 : Int) (h : AHeap) :
    k_slices_pdqsortCmpFunc_int_3 fuel d n .normal [(0, (AVal.slice x0)), (1, (AVal.int .i64 x1)), (2, (AVal.int .i64 x2)), (3, (AVal.int .i64 x3)), (4, (AVal.func x4f x4c)), (10, (AVal.bool x10)), (11, (AVal.bool x11)), (12, (AVal.int .i64 x12)), (13, (AVal.int .i64 x13))] h =
  ((bif (decide ((0 : Int) < x1)) then ((AHeap.addr h 1 x0 (IntKind.wrap .i64 (x1 - (1 : Int)))).bind fun p1 =>
    (AHeap.cell h p1).bind fun u2 =>
    (AVal.int? .i64 u2).bind fun n3 =>
    (AHeap.addr h 1 x0 x13).bind fun p4 =>
    (AHeap.cell h p4).bind fun u5 =>
    (AVal.int? .i64 u5).bind fun n6 =>
    (run fuel d x4f ([(AVal.int .i64 n3), (AVal.int .i64 n6)] ++ List.map AVal.ptr x4c) h).bind fun r7 =>
    (AVal.int? .i64 r7.1).bind fun n8 =>
    some (.normal, [(0, (AVal.slice x0)), (1, (AVal.int .i64 x1)), (2, (AVal.int .i64 x2)), (3, (AVal.int .i64 x3)), (4, (AVal.func x4f x4c)), (10, (AVal.bool x10)), (11, (AVal.bool x11)), (12, (AVal.int .i64 x12)), (13, (AVal.int .i64 x13)), (97, (AVal.bool (!(decide (n8 < (0 : Int))))))], r7.2)) else (some (.normal, [(0, (AVal.slice x0)), (1, (AVal.int .i64 x1)), (2, (AVal.int .i64 x2)), (3, (AVal.int .i64 x3)), (4, (AVal.func x4f x4c)), (10, (AVal.bool x10)), (11, (AVal.bool x11)), (12, (AVal.int .i64 x12)), (13, (AVal.int .i64 x13)), (97, (AVal.bool false))], h)))).bind fun p9 =>
    k_slices_pdqsortCmpFunc_int_4 fuel d n p9.1 p9.2.1 p9.2.2 := by
  generalize hh : run = R
  rw [run_is] at hh
  subst hh
  generalize hh : k_slices_pdqsortCmpFunc_int_3 = R
  rw [k_slices_pdqsortCmpFunc_int_3_is] at hh
  subst hh
  generalize hh : k_slices_pdqsortCmpFunc_int_4 = R
  rw [k_slices_pdqsortCmpFunc_int_4_is] at hh
  subst hh
  kernel_rfl

theorem k_slices_pdqsortCmpFunc_int_3_r (fuel d : Nat) (n : Nat) (x0 : AVal) (x1 : AVal) (x2 : AVal) (x3 : AVal) (x4 : AVal) (x10 : AVal) (x11 : AVal) (x12 : AVal) (x13 : AVal) (h : AHeap) :
    k_slices_pdqsortCmpFunc_int_3 fuel d n .ret [(0, x0), (1, x1), (2, x2), (3, x3), (4, x4), (10, x10), (11, x11), (12, x12), (13, x13)] h =
  some (.ret, [], h) := by
  generalize hh : k_slices_pdqsortCmpFunc_int_3 = R
  rw [k_slices_pdqsortCmpFunc_int_3_is] at hh
  subst hh
  kernel_rfl

theorem k_slices_pdqsortCmpFunc_int_4_n (fuel d : Nat) (n : Nat) (x0 : Sl) (x1 : Int) (x2 : Int) (x3 : Int) (x4f : Nat) (x4c : List Pt) (x10 : Bool) (x11 : Bool) (x12 : Int) (x13 : Int) (x97 : Bool) (h : AHeap) :
    k_slices_pdqsortCmpFunc_int_4 fuel d n .normal [(0, (AVal.slice x0)), (1, (AVal.int .i64 x1)), (2, (AVal.int .i64 x2)), (3, (AVal.int .i64 x3)), (4, (AVal.func x4f x4c)), (10, (AVal.bool x10)), (11, (AVal.bool x11)), (12, (AVal.int .i64 x12)), (13, (AVal.int .i64 x13)), (97, (AVal.bool x97))] h =
  (bif x97 then ((run fuel d F_slices_partitionEqualCmpFunc_int [(AVal.slice x0), (AVal.int .i64 x1), (AVal.int .i64 x2), (AVal.int .i64 x13), (AVal.func x4f x4c)] h).bind fun r1 =>
    (AVal.int? .i64 r1.1).bind fun n2 =>
    l_slices_pdqsortCmpFunc_int_0 fuel d n [(0, (AVal.slice x0)), (1, (AVal.int .i64 n2)), (2, (AVal.int .i64 x2)), (3, (AVal.int .i64 x3)), (4, (AVal.func x4f x4c)), (10, (AVal.bool x10)), (11, (AVal.bool x11))] r1.2) else ((run fuel d F_slices_partitionCmpFunc_int [(AVal.slice x0), (AVal.int .i64 x1), (AVal.int .i64 x2), (AVal.int .i64 x13), (AVal.func x4f x4c)] h).bind fun r3 =>
    (bif AVal.isTup 2 r3.1 then ((AVal.comp 0 r3.1).bind fun u4 =>
    (AVal.int? .i64 u4).bind fun n5 =>
    (AVal.comp 1 r3.1).bind fun u6 =>
    (AVal.bool? u6).bind fun b7 =>
    (bif (decide ((IntKind.wrap .i64 (n5 - x1)) < (IntKind.wrap .i64 (x2 - n5)))) then ((run fuel d F_slices_pdqsortCmpFunc_int [(AVal.slice x0), (AVal.int .i64 x1), (AVal.int .i64 n5), (AVal.int .i64 x3), (AVal.func x4f x4c)] r3.2).bind fun r8 =>
    l_slices_pdqsortCmpFunc_int_0 fuel d n [(0, (AVal.slice x0)), (1, (AVal.int .i64 (IntKind.wrap .i64 (n5 + (1 : Int))))), (2, (AVal.int .i64 x2)), (3, (AVal.int .i64 x3)), (4, (AVal.func x4f x4c)), (10, (AVal.bool (decide ((IntKind.wrap .i64 (Int.tdiv x12 (8 : Int))) ≤ (IntKind.wrap .i64 (n5 - x1)))))), (11, (AVal.bool b7))] r8.2) else ((run fuel d F_slices_pdqsortCmpFunc_int [(AVal.slice x0), (AVal.int .i64 (IntKind.wrap .i64 (n5 + (1 : Int)))), (AVal.int .i64 x2), (AVal.int .i64 x3), (AVal.func x4f x4c)] r3.2).bind fun r9 =>
    l_slices_pdqsortCmpFunc_int_0 fuel d n [(0, (AVal.slice x0)), (1, (AVal.int .i64 x1)), (2, (AVal.int .i64 n5)), (3, (AVal.int .i64 x3)), (4, (AVal.func x4f x4c)), (10, (AVal.bool (decide ((IntKind.wrap .i64 (Int.tdiv x12 (8 : Int))) ≤ (IntKind.wrap .i64 (x2 - n5)))))), (11, (AVal.bool b7))] r9.2))) else none))) := by
  generalize hh : run = R
  rw [run_is] at hh
  subst hh
  generalize hh : l_slices_pdqsortCmpFunc_int_0 = R
  rw [l_slices_pdqsortCmpFunc_int_0_is] at hh
  subst hh
  generalize hh : k_slices_pdqsortCmpFunc_int_4 = R
  rw [k_slices_pdqsortCmpFunc_int_4_is] at hh
  subst hh
  kernel_rfl

theorem e_bits_Len (fuel d : Nat) (x0 : Int) (h : AHeap) :
    brun fuel (d + 1) F_bits_Len [(AVal.int .u64 x0)] h =
  (run fuel d F_bits_Len64 [(AVal.int .u64 x0)] h).bind fun r1 =>
    (AVal.int? .i64 r1.1).bind fun n2 =>
    some ((AVal.int .i64 n2), r1.2) := by
  generalize hh : run = R
  rw [run_is] at hh
  subst hh
  generalize hh : brun = R
  rw [brun_is] at hh
  subst hh
  kernel_rfl

noncomputable def s_cmp_Or_int_0 (fuel d : Nat) : Run := fun fr h k => aexec (Cf fuel F_cmp_Or_int) false (acall (C fuel) false d) (acall (C fuel) true d) 18 (csub [true, true, false, true, false, false] (fbody Go.Proofs.Tryd.f82)) (asub [true, true, false, true, false, false] an82) fr h k

noncomputable def l_cmp_Or_int_0r (fuel d : Nat) (n : Nat) (fr : Fr) (h : AHeap) : Option (AExit × Fr × AHeap) := aloop (s_cmp_Or_int_0 fuel d) (some [3, 6, 7, 8]) n fr h (kOut [2, 3])

noncomputable def l_cmp_Or_int_0 : Nat → Nat → Nat → Fr → AHeap → Option (AExit × Fr × AHeap) := hide l_cmp_Or_int_0r

theorem l_cmp_Or_int_0_is : l_cmp_Or_int_0 = l_cmp_Or_int_0r := hide_eq _

noncomputable def k_cmp_Or_int_0r (fuel d : Nat) : AExit → Fr → AHeap → Option (AVal × AHeap) := (kBlock 0 (kSeq (Cf fuel F_cmp_Or_int) false (acall (C fuel) false d) (acall (C fuel) true d) 18 (csub [true, true, true] (fbody Go.Proofs.Tryd.f82)) (asub [true, true, true] an82) (kRet (Cf fuel F_cmp_Or_int) Go.Proofs.Tryd.f82.results.toList)))

noncomputable def k_cmp_Or_int_0 : Nat → Nat → AExit → Fr → AHeap → Option (AVal × AHeap) := hide k_cmp_Or_int_0r

theorem k_cmp_Or_int_0_is : k_cmp_Or_int_0 = k_cmp_Or_int_0r := hide_eq _

theorem e_cmp_Or_int (fuel d : Nat) (x0 : Sl) (h : AHeap) :
    brun fuel (d + 1) F_cmp_Or_int [(AVal.slice x0)] h =
  (l_cmp_Or_int_0 fuel d fuel [(3, (AVal.int .i64 (0 : Int))), (6, (AVal.slice x0)), (7, (AVal.int .i64 ((x0.len : Nat) : Int))), (8, (AVal.int .i64 (0 : Int)))] h).bind fun p1 =>
    k_cmp_Or_int_0 fuel d p1.1 p1.2.1 p1.2.2 := by
  generalize hh : brun = R
  rw [brun_is] at hh
  subst hh
  generalize hh : l_cmp_Or_int_0 = R
  rw [l_cmp_Or_int_0_is] at hh
  subst hh
  generalize hh : k_cmp_Or_int_0 = R
  rw [k_cmp_Or_int_0_is] at hh
  subst hh
  kernel_rfl

theorem l_cmp_Or_int_0_eq (fuel d : Nat) (n : Nat) (x3 : Int) (x6 : Sl) (x7 : Int) (x8 : Int) (h : AHeap) :
    l_cmp_Or_int_0 fuel d (n + 1) [(3, (AVal.int .i64 x3)), (6, (AVal.slice x6)), (7, (AVal.int .i64 x7)), (8, (AVal.int .i64 x8))] h =
  (bif (decide (x8 < x7)) then ((AHeap.addr h 1 x6 x8).bind fun p1 =>
    (AHeap.cell h p1).bind fun u2 =>
    (AVal.int? .i64 u2).bind fun n3 =>
    (bif (!decide (n3 = x3)) then (some (.ret, [(2, (AVal.int .i64 n3)), (3, (AVal.int .i64 x3))], h)) else (l_cmp_Or_int_0 fuel d n [(3, (AVal.int .i64 x3)), (6, (AVal.slice x6)), (7, (AVal.int .i64 x7)), (8, (AVal.int .i64 (IntKind.wrap .i64 (x8 + (1 : Int)))))] h))) else (some ((.exit 0), [(2, AVal.bot), (3, (AVal.int .i64 x3))], h))) := by
  generalize hh : l_cmp_Or_int_0 = R
  rw [l_cmp_Or_int_0_is] at hh
  subst hh
  kernel_rfl

theorem k_cmp_Or_int_0_x0 (fuel d : Nat) (x2 : AVal) (x3 : Int) (h : AHeap) :
    k_cmp_Or_int_0 fuel d (.exit 0) [(2, x2), (3, (AVal.int .i64 x3))] h =
  some ((AVal.int .i64 x3), h) := by
  generalize hh : k_cmp_Or_int_0 = R
  rw [k_cmp_Or_int_0_is] at hh
  subst hh
  kernel_rfl

theorem k_cmp_Or_int_0_r (fuel d : Nat) (x2 : Int) (x3 : AVal) (h : AHeap) :
    k_cmp_Or_int_0 fuel d .ret [(2, (AVal.int .i64 x2)), (3, x3)] h =
  some ((AVal.int .i64 x2), h) := by
  generalize hh : k_cmp_Or_int_0 = R
  rw [k_cmp_Or_int_0_is] at hh
  subst hh
  kernel_rfl

theorem e_cmp_Compare_int (fuel d : Nat) (x0 : Int) (x1 : Int) (h : AHeap) :
    brun fuel (d + 1) F_cmp_Compare_int [(AVal.int .i64 x0), (AVal.int .i64 x1)] h =
  (run fuel d F_cmp_isNaN_int [(AVal.int .i64 x0)] h).bind fun r1 =>
    (AVal.bool? r1.1).bind fun b2 =>
    (run fuel d F_cmp_isNaN_int [(AVal.int .i64 x1)] r1.2).bind fun r3 =>
    (AVal.bool? r3.1).bind fun b4 =>
    (bif b2 then ((bif b4 then (some ((AVal.int .i64 (0 : Int)), r3.2)) else (some ((AVal.int .i64 (-1 : Int)), r3.2)))) else ((bif b4 then (some ((AVal.int .i64 (1 : Int)), r3.2)) else ((bif (decide (x0 < x1)) then (some ((AVal.int .i64 (-1 : Int)), r3.2)) else ((bif (decide (x1 < x0)) then (some ((AVal.int .i64 (1 : Int)), r3.2)) else (some ((AVal.int .i64 (0 : Int)), r3.2))))))))) := by
  generalize hh : run = R
  rw [run_is] at hh
  subst hh
  generalize hh : brun = R
  rw [brun_is] at hh
  subst hh
  kernel_rfl

noncomputable def s_slices_insertionSortCmpFunc_int_0 (fuel d : Nat) : Run := fun fr h k => aexec (Cf fuel F_slices_insertionSortCmpFunc_int) false (acall (C fuel) false d) (acall (C fuel) true d) 53 (csub [true, false, false] (fbody Go.Proofs.Tryd.f89)) (asub [true, false, false] an89) fr h k

noncomputable def l_slices_insertionSortCmpFunc_int_0r (fuel d : Nat) (n : Nat) (fr : Fr) (h : AHeap) : Option (AExit × Fr × AHeap) := aloop (s_slices_insertionSortCmpFunc_int_0 fuel d) (some [0, 1, 2, 3, 8]) n fr h (kOut [])

noncomputable def l_slices_insertionSortCmpFunc_int_0 : Nat → Nat → Nat → Fr → AHeap → Option (AExit × Fr × AHeap) := hide l_slices_insertionSortCmpFunc_int_0r

theorem l_slices_insertionSortCmpFunc_int_0_is : l_slices_insertionSortCmpFunc_int_0 = l_slices_insertionSortCmpFunc_int_0r := hide_eq _

noncomputable def k_slices_insertionSortCmpFunc_int_0r (fuel d : Nat) : AExit → Fr → AHeap → Option (AVal × AHeap) := (kBlock 0 (kRet (Cf fuel F_slices_insertionSortCmpFunc_int) Go.Proofs.Tryd.f89.results.toList))

noncomputable def k_slices_insertionSortCmpFunc_int_0 : Nat → Nat → AExit → Fr → AHeap → Option (AVal × AHeap) := hide k_slices_insertionSortCmpFunc_int_0r

theorem k_slices_insertionSortCmpFunc_int_0_is : k_slices_insertionSortCmpFunc_int_0 = k_slices_insertionSortCmpFunc_int_0r := hide_eq _

noncomputable def s_slices_insertionSortCmpFunc_int_1 (fuel d : Nat) : Run := fun fr h k => aexec (Cf fuel F_slices_insertionSortCmpFunc_int) false (acall (C fuel) false d) (acall (C fuel) true d) 53 (csub [true, false, false, true, false, false, true, false, false] (fbody Go.Proofs.Tryd.f89)) (asub [true, false, false, true, false, false, true, false, false] an89) fr h k

noncomputable def l_slices_insertionSortCmpFunc_int_1r (fuel d : Nat) (n : Nat) (fr : Fr) (h : AHeap) : Option (AExit × Fr × AHeap) := aloop (s_slices_insertionSortCmpFunc_int_1 fuel d) (some [0, 1, 2, 3, 8, 9]) n fr h (kOut [0, 1, 2, 3, 8])

noncomputable def l_slices_insertionSortCmpFunc_int_1 : Nat → Nat → Nat → Fr → AHeap → Option (AExit × Fr × AHeap) := hide l_slices_insertionSortCmpFunc_int_1r

theorem l_slices_insertionSortCmpFunc_int_1_is : l_slices_insertionSortCmpFunc_int_1 = l_slices_insertionSortCmpFunc_int_1r := hide_eq _

noncomputable def k_slices_insertionSortCmpFunc_int_1r (fuel d : Nat) (n : Nat) : AExit → Fr → AHeap → Option (AExit × Fr × AHeap) := (kBlock 2 (kBlock 1 (kSeq (Cf fuel F_slices_insertionSortCmpFunc_int) false (acall (C fuel) false d) (acall (C fuel) true d) 53 (csub [true, false, false, true, true] (fbody Go.Proofs.Tryd.f89)) (asub [true, false, false, true, true] an89) (kLoop (s_slices_insertionSortCmpFunc_int_0 fuel d) (some [0, 1, 2, 3, 8]) n (kOut [])))))

noncomputable def k_slices_insertionSortCmpFunc_int_1 : Nat → Nat → Nat → AExit → Fr → AHeap → Option (AExit × Fr × AHeap) := hide k_slices_insertionSortCmpFunc_int_1r

theorem k_slices_insertionSortCmpFunc_int_1_is : k_slices_insertionSortCmpFunc_int_1 = k_slices_insertionSortCmpFunc_int_1r := hide_eq _

noncomputable def k_slices_insertionSortCmpFunc_int_2r (fuel d : Nat) (n : Nat) : AExit → Fr → AHeap → Option (AExit × Fr × AHeap) := (kSeq (Cf fuel F_slices_insertionSortCmpFunc_int) false (acall (C fuel) false d) (acall (C fuel) true d) 53 (csub [true, false, false, true, false, false, true, false, false, false, true] (fbody Go.Proofs.Tryd.f89)) (asub [true, false, false, true, false, false, true, false, false, false, true] an89) (kSeq (Cf fuel F_slices_insertionSortCmpFunc_int) false (acall (C fuel) false d) (acall (C fuel) true d) 53 (csub [true, false, false, true, false, false, true, false, false, true] (fbody Go.Proofs.Tryd.f89)) (asub [true, false, false, true, false, false, true, false, false, true] an89) (kLoop (s_slices_insertionSortCmpFunc_int_1 fuel d) (some [0, 1, 2, 3, 8, 9]) n (kOut [0, 1, 2, 3, 8]))))

noncomputable def k_slices_insertionSortCmpFunc_int_2 : Nat → Nat → Nat → AExit → Fr → AHeap → Option (AExit × Fr × AHeap) := hide k_slices_insertionSortCmpFunc_int_2r

theorem k_slices_insertionSortCmpFunc_int_2_is : k_slices_insertionSortCmpFunc_int_2 = k_slices_insertionSortCmpFunc_int_2r := hide_eq _

theorem e_slices_insertionSortCmpFunc_int (fuel d : Nat) (x0 : Sl) (x1 : Int) (x2 : Int) (x3f : Nat) (x3c : List Pt) (h : AHeap) :
    run fuel (d + 1) F_slices_insertionSortCmpFunc_int [(AVal.slice x0), (AVal.int .i64 x1), (AVal.int .i64 x2), (AVal.func x3f x3c)] h =
  (l_slices_insertionSortCmpFunc_int_0 fuel d fuel [(0, (AVal.slice x0)), (1, (AVal.int .i64 x1)), (2, (AVal.int .i64 x2)), (3, (AVal.func x3f x3c)), (8, (AVal.int .i64 (IntKind.wrap .i64 (x1 + (1 : Int)))))] h).bind fun p1 =>
    k_slices_insertionSortCmpFunc_int_0 fuel d p1.1 p1.2.1 p1.2.2 := by
  generalize hh : run = R
  rw [run_is] at hh
  subst hh
  generalize hh : l_slices_insertionSortCmpFunc_int_0 = R
  rw [l_slices_insertionSortCmpFunc_int_0_is] at hh
  subst hh
  generalize hh : k_slices_insertionSortCmpFunc_int_0 = R
  rw [k_slices_insertionSortCmpFunc_int_0_is] at hh
  subst hh
  kernel_rfl

theorem l_slices_insertionSortCmpFunc_int_0_eq (fuel d : Nat) (n : Nat) (x0 : Sl) (x1 : Int) (x2 : Int) (x3f : Nat) (x3c : List Pt) (x8 : Int) (h : AHeap) :
    l_slices_insertionSortCmpFunc_int_0 fuel d (n + 1) [(0, (AVal.slice x0)), (1, (AVal.int .i64 x1)), (2, (AVal.int .i64 x2)), (3, (AVal.func x3f x3c)), (8, (AVal.int .i64 x8))] h =
  (bif (decide (x8 < x2)) then ((l_slices_insertionSortCmpFunc_int_1 fuel d fuel [(0, (AVal.slice x0)), (1, (AVal.int .i64 x1)), (2, (AVal.int .i64 x2)), (3, (AVal.func x3f x3c)), (8, (AVal.int .i64 x8)), (9, (AVal.int .i64 x8))] h).bind fun p1 =>
    k_slices_insertionSortCmpFunc_int_1 fuel d n p1.1 p1.2.1 p1.2.2) else (some ((.exit 0), [], h))) := by
  generalize hh : l_slices_insertionSortCmpFunc_int_0 = R
  rw [l_slices_insertionSortCmpFunc_int_0_is] at hh
  subst hh
  generalize hh : l_slices_insertionSortCmpFunc_int_1 = R
  rw [l_slices_insertionSortCmpFunc_int_1_is] at hh
  subst hh
  generalize hh : k_slices_insertionSortCmpFunc_int_1 = R
  rw [k_slices_insertionSortCmpFunc_int_1_is] at hh
  subst hh
  kernel_rfl

theorem k_slices_insertionSortCmpFunc_int_0_x0 (fuel d : Nat)  (h : AHeap) :
    k_slices_insertionSortCmpFunc_int_0 fuel d (.exit 0) [] h =
  some ((AVal.tup []), h) := by
  generalize hh : k_slices_insertionSortCmpFunc_int_0 = R
  rw [k_slices_insertionSortCmpFunc_int_0_is] at hh
  subst hh
  kernel_rfl

theorem l_slices_insertionSortCmpFunc_int_1_eq (fuel d : Nat) (n : Nat) (x0 : Sl) (x1 : Int) (x2 : Int) (x3f : Nat) (x3c : List Pt) (x8 : Int) (x9 : Int) (h : AHeap) :
    l_slices_insertionSortCmpFunc_int_1 fuel d (n + 1) [(0, (AVal.slice x0)), (1, (AVal.int .i64 x1)), (2, (AVal.int .i64 x2)), (3, (AVal.func x3f x3c)), (8, (AVal.int .i64 x8)), (9, (AVal.int .i64 x9))] h =
  ((bif (decide (x1 < x9)) then ((AHeap.addr h 1 x0 x9).bind fun p1 =>
    (AHeap.cell h p1).bind fun u2 =>
    (AVal.int? .i64 u2).bind fun n3 =>
    (AHeap.addr h 1 x0 (IntKind.wrap .i64 (x9 - (1 : Int)))).bind fun p4 =>
    (AHeap.cell h p4).bind fun u5 =>
    (AVal.int? .i64 u5).bind fun n6 =>
    (run fuel d x3f ([(AVal.int .i64 n3), (AVal.int .i64 n6)] ++ List.map AVal.ptr x3c) h).bind fun r7 =>
    (AVal.int? .i64 r7.1).bind fun n8 =>
    some (.normal, [(0, (AVal.slice x0)), (1, (AVal.int .i64 x1)), (2, (AVal.int .i64 x2)), (3, (AVal.func x3f x3c)), (8, (AVal.int .i64 x8)), (9, (AVal.int .i64 x9)), (34, (AVal.bool (decide (n8 < (0 : Int)))))], r7.2)) else (some (.normal, [(0, (AVal.slice x0)), (1, (AVal.int .i64 x1)), (2, (AVal.int .i64 x2)), (3, (AVal.func x3f x3c)), (8, (AVal.int .i64 x8)), (9, (AVal.int .i64 x9)), (34, (AVal.bool false))], h)))).bind fun p9 =>
    k_slices_insertionSortCmpFunc_int_2 fuel d n p9.1 p9.2.1 p9.2.2 := by
  generalize hh : run = R
  rw [run_is] at hh
  subst hh
  generalize hh : l_slices_insertionSortCmpFunc_int_1 = R
  rw [l_slices_insertionSortCmpFunc_int_1_is] at hh
  subst hh
  generalize hh : k_slices_insertionSortCmpFunc_int_2 = R
  rw [k_slices_insertionSortCmpFunc_int_2_is] at hh
  subst hh
  kernel_rfl

theorem k_slices_insertionSortCmpFunc_int_1_x2 (fuel d : Nat) (n : Nat) (x0 : Sl) (x1 : Int) (x2 : Int) (x3f : Nat) (x3c : List Pt) (x8 : Int) (h : AHeap) :
    k_slices_insertionSortCmpFunc_int_1 fuel d n (.exit 2) [(0, (AVal.slice x0)), (1, (AVal.int .i64 x1)), (2, (AVal.int .i64 x2)), (3, (AVal.func x3f x3c)), (8, (AVal.int .i64 x8))] h =
  l_slices_insertionSortCmpFunc_int_0 fuel d n [(0, (AVal.slice x0)), (1, (AVal.int .i64 x1)), (2, (AVal.int .i64 x2)), (3, (AVal.func x3f x3c)), (8, (AVal.int .i64 (IntKind.wrap .i64 (x8 + (1 : Int)))))] h := by
  generalize hh : l_slices_insertionSortCmpFunc_int_0 = R
  rw [l_slices_insertionSortCmpFunc_int_0_is] at hh
  subst hh
  generalize hh : k_slices_insertionSortCmpFunc_int_1 = R
  rw [k_slices_insertionSortCmpFunc_int_1_is] at hh
  subst hh
  kernel_rfl

theorem k_slices_insertionSortCmpFunc_int_2_n (fuel d : Nat) (n : Nat) (x0 : Sl) (x1 : Int) (x2 : Int) (x3f : Nat) (x3c : List Pt) (x8 : Int) (x9 : Int) (x34 : Bool) (h : AHeap) :
    k_slices_insertionSortCmpFunc_int_2 fuel d n .normal [(0, (AVal.slice x0)), (1, (AVal.int .i64 x1)), (2, (AVal.int .i64 x2)), (3, (AVal.func x3f x3c)), (8, (AVal.int .i64 x8)), (9, (AVal.int .i64 x9)), (34, (AVal.bool x34))] h =
  (bif x34 then ((AHeap.addr h 1 x0 (IntKind.wrap .i64 (x9 - (1 : Int)))).bind fun p1 =>
    (AHeap.cell h p1).bind fun u2 =>
    (AVal.int? .i64 u2).bind fun n3 =>
    (AHeap.addr h 1 x0 x9).bind fun p4 =>
    (AHeap.cell h p4).bind fun u5 =>
    (AVal.int? .i64 u5).bind fun n6 =>
    (AHeap.addr h 1 x0 x9).bind fun p7 =>
    (AHeap.storeAt h [(AVal.int .i64 n3)] p7).bind fun h8 =>
    (AHeap.addr h8 1 x0 (IntKind.wrap .i64 (x9 - (1 : Int)))).bind fun p9 =>
    (AHeap.storeAt h8 [(AVal.int .i64 n6)] p9).bind fun h10 =>
    l_slices_insertionSortCmpFunc_int_1 fuel d n [(0, (AVal.slice x0)), (1, (AVal.int .i64 x1)), (2, (AVal.int .i64 x2)), (3, (AVal.func x3f x3c)), (8, (AVal.int .i64 x8)), (9, (AVal.int .i64 (IntKind.wrap .i64 (x9 - (1 : Int)))))] h10) else (some ((.exit 2), [(0, (AVal.slice x0)), (1, (AVal.int .i64 x1)), (2, (AVal.int .i64 x2)), (3, (AVal.func x3f x3c)), (8, (AVal.int .i64 x8))], h))) := by
  generalize hh : l_slices_insertionSortCmpFunc_int_1 = R
  rw [l_slices_insertionSortCmpFunc_int_1_is] at hh
  subst hh
  generalize hh : k_slices_insertionSortCmpFunc_int_2 = R
  rw [k_slices_insertionSortCmpFunc_int_2_is] at hh
  subst hh
  kernel_rfl

noncomputable def s_slices_heapSortCmpFunc_int_0 (fuel d : Nat) : Run := fun fr h k => aexec (Cf fuel F_slices_heapSortCmpFunc_int) false (acall (C fuel) false d) (acall (C fuel) true d) 60 (csub [true, true, true, false, true, false, false] (fbody Go.Proofs.Tryd.f90)) (asub [true, true, true, false, true, false, false] an90) fr h k

noncomputable def l_slices_heapSortCmpFunc_int_0r (fuel d : Nat) (n : Nat) (fr : Fr) (h : AHeap) : Option (AExit × Fr × AHeap) := aloop (s_slices_heapSortCmpFunc_int_0 fuel d) (some [0, 3, 8, 9, 10, 11]) n fr h (kOut [0, 3, 8, 9, 10])

noncomputable def l_slices_heapSortCmpFunc_int_0 : Nat → Nat → Nat → Fr → AHeap → Option (AExit × Fr × AHeap) := hide l_slices_heapSortCmpFunc_int_0r

theorem l_slices_heapSortCmpFunc_int_0_is : l_slices_heapSortCmpFunc_int_0 = l_slices_heapSortCmpFunc_int_0r := hide_eq _

noncomputable def k_slices_heapSortCmpFunc_int_0r (fuel d : Nat) : AExit → Fr → AHeap → Option (AVal × AHeap) := (kBlock 0 (kSeq (Cf fuel F_slices_heapSortCmpFunc_int) false (acall (C fuel) false d) (acall (C fuel) true d) 60 (csub [true, true, true, true] (fbody Go.Proofs.Tryd.f90)) (asub [true, true, true, true] an90) (kRet (Cf fuel F_slices_heapSortCmpFunc_int) Go.Proofs.Tryd.f90.results.toList)))

noncomputable def k_slices_heapSortCmpFunc_int_0 : Nat → Nat → AExit → Fr → AHeap → Option (AVal × AHeap) := hide k_slices_heapSortCmpFunc_int_0r

theorem k_slices_heapSortCmpFunc_int_0_is : k_slices_heapSortCmpFunc_int_0 = k_slices_heapSortCmpFunc_int_0r := hide_eq _

noncomputable def s_slices_heapSortCmpFunc_int_1 (fuel d : Nat) : Run := fun fr h k => aexec (Cf fuel F_slices_heapSortCmpFunc_int) false (acall (C fuel) false d) (acall (C fuel) true d) 60 (csub [true, true, true, true, true, false, false] (fbody Go.Proofs.Tryd.f90)) (asub [true, true, true, true, true, false, false] an90) fr h k

noncomputable def l_slices_heapSortCmpFunc_int_1r (fuel d : Nat) (n : Nat) (fr : Fr) (h : AHeap) : Option (AExit × Fr × AHeap) := aloop (s_slices_heapSortCmpFunc_int_1 fuel d) (some [0, 3, 8, 9, 12]) n fr h (kOut [])

noncomputable def l_slices_heapSortCmpFunc_int_1 : Nat → Nat → Nat → Fr → AHeap → Option (AExit × Fr × AHeap) := hide l_slices_heapSortCmpFunc_int_1r

theorem l_slices_heapSortCmpFunc_int_1_is : l_slices_heapSortCmpFunc_int_1 = l_slices_heapSortCmpFunc_int_1r := hide_eq _

noncomputable def k_slices_heapSortCmpFunc_int_1r (fuel d : Nat) : AExit → Fr → AHeap → Option (AVal × AHeap) := (kBlock 2 (kRet (Cf fuel F_slices_heapSortCmpFunc_int) Go.Proofs.Tryd.f90.results.toList))

noncomputable def k_slices_heapSortCmpFunc_int_1 : Nat → Nat → AExit → Fr → AHeap → Option (AVal × AHeap) := hide k_slices_heapSortCmpFunc_int_1r

theorem k_slices_heapSortCmpFunc_int_1_is : k_slices_heapSortCmpFunc_int_1 = k_slices_heapSortCmpFunc_int_1r := hide_eq _

theorem e_slices_heapSortCmpFunc_int (fuel d : Nat) (x0 : Sl) (x1 : Int) (x2 : Int) (x3f : Nat) (x3c : List Pt) (h : AHeap) :
    run fuel (d + 1) F_slices_heapSortCmpFunc_int [(AVal.slice x0), (AVal.int .i64 x1), (AVal.int .i64 x2), (AVal.func x3f x3c)] h =
  (l_slices_heapSortCmpFunc_int_0 fuel d fuel [(0, (AVal.slice x0)), (3, (AVal.func x3f x3c)), (8, (AVal.int .i64 x1)), (9, (AVal.int .i64 (0 : Int))), (10, (AVal.int .i64 (IntKind.wrap .i64 (x2 - x1)))), (11, (AVal.int .i64 (IntKind.wrap .i64 (Int.tdiv (IntKind.wrap .i64 ((IntKind.wrap .i64 (x2 - x1)) - (1 : Int))) (2 : Int)))))] h).bind fun p1 =>
    k_slices_heapSortCmpFunc_int_0 fuel d p1.1 p1.2.1 p1.2.2 := by
  generalize hh : run = R
  rw [run_is] at hh
  subst hh
  generalize hh : l_slices_heapSortCmpFunc_int_0 = R
  rw [l_slices_heapSortCmpFunc_int_0_is] at hh
  subst hh
  generalize hh : k_slices_heapSortCmpFunc_int_0 = R
  rw [k_slices_heapSortCmpFunc_int_0_is] at hh
  subst hh
  kernel_rfl

theorem l_slices_heapSortCmpFunc_int_0_eq (fuel d : Nat) (n : Nat) (x0 : Sl) (x3f : Nat) (x3c : List Pt) (x8 : Int) (x9 : Int) (x10 : Int) (x11 : Int) (h : AHeap) :
    l_slices_heapSortCmpFunc_int_0 fuel d (n + 1) [(0, (AVal.slice x0)), (3, (AVal.func x3f x3c)), (8, (AVal.int .i64 x8)), (9, (AVal.int .i64 x9)), (10, (AVal.int .i64 x10)), (11, (AVal.int .i64 x11))] h =
  (bif (decide ((0 : Int) ≤ x11)) then ((run fuel d F_slices_siftDownCmpFunc_int [(AVal.slice x0), (AVal.int .i64 x11), (AVal.int .i64 x10), (AVal.int .i64 x8), (AVal.func x3f x3c)] h).bind fun r1 =>
    l_slices_heapSortCmpFunc_int_0 fuel d n [(0, (AVal.slice x0)), (3, (AVal.func x3f x3c)), (8, (AVal.int .i64 x8)), (9, (AVal.int .i64 x9)), (10, (AVal.int .i64 x10)), (11, (AVal.int .i64 (IntKind.wrap .i64 (x11 - (1 : Int)))))] r1.2) else (some ((.exit 0), [(0, (AVal.slice x0)), (3, (AVal.func x3f x3c)), (8, (AVal.int .i64 x8)), (9, (AVal.int .i64 x9)), (10, (AVal.int .i64 x10))], h))) := by
  generalize hh : run = R
  rw [run_is] at hh
  subst hh
  generalize hh : l_slices_heapSortCmpFunc_int_0 = R
  rw [l_slices_heapSortCmpFunc_int_0_is] at hh
  subst hh
  kernel_rfl

theorem k_slices_heapSortCmpFunc_int_0_x0 (fuel d : Nat) (x0 : Sl) (x3f : Nat) (x3c : List Pt) (x8 : Int) (x9 : Int) (x10 : Int) (h : AHeap) :
    k_slices_heapSortCmpFunc_int_0 fuel d (.exit 0) [(0, (AVal.slice x0)), (3, (AVal.func x3f x3c)), (8, (AVal.int .i64 x8)), (9, (AVal.int .i64 x9)), (10, (AVal.int .i64 x10))] h =
  (l_slices_heapSortCmpFunc_int_1 fuel d fuel [(0, (AVal.slice x0)), (3, (AVal.func x3f x3c)), (8, (AVal.int .i64 x8)), (9, (AVal.int .i64 x9)), (12, (AVal.int .i64 (IntKind.wrap .i64 (x10 - (1 : Int)))))] h).bind fun p1 =>
    k_slices_heapSortCmpFunc_int_1 fuel d p1.1 p1.2.1 p1.2.2 := by
  generalize hh : k_slices_heapSortCmpFunc_int_0 = R
  rw [k_slices_heapSortCmpFunc_int_0_is] at hh
  subst hh
  generalize hh : l_slices_heapSortCmpFunc_int_1 = R
  rw [l_slices_heapSortCmpFunc_int_1_is] at hh
  subst hh
  generalize hh : k_slices_heapSortCmpFunc_int_1 = R
  rw [k_slices_heapSortCmpFunc_int_1_is] at hh
  subst hh
  kernel_rfl

theorem l_slices_heapSortCmpFunc_int_1_eq (fuel d : Nat) (n : Nat) (x0 : Sl) (x3f : Nat) (x3c : List Pt) (x8 : Int) (x9 : Int) (x12 : Int) (h : AHeap) :
    l_slices_heapSortCmpFunc_int_1 fuel d (n + 1) [(0, (AVal.slice x0)), (3, (AVal.func x3f x3c)), (8, (AVal.int .i64 x8)), (9, (AVal.int .i64 x9)), (12, (AVal.int .i64 x12))] h =
  (bif (decide ((0 : Int) ≤ x12)) then ((AHeap.addr h 1 x0 (IntKind.wrap .i64 (x8 + x12))).bind fun p1 =>
    (AHeap.cell h p1).bind fun u2 =>
    (AVal.int? .i64 u2).bind fun n3 =>
    (AHeap.addr h 1 x0 x8).bind fun p4 =>
    (AHeap.cell h p4).bind fun u5 =>
    (AVal.int? .i64 u5).bind fun n6 =>
    (AHeap.addr h 1 x0 x8).bind fun p7 =>
    (AHeap.storeAt h [(AVal.int .i64 n3)] p7).bind fun h8 =>
    (AHeap.addr h8 1 x0 (IntKind.wrap .i64 (x8 + x12))).bind fun p9 =>
    (AHeap.storeAt h8 [(AVal.int .i64 n6)] p9).bind fun h10 =>
    (run fuel d F_slices_siftDownCmpFunc_int [(AVal.slice x0), (AVal.int .i64 x9), (AVal.int .i64 x12), (AVal.int .i64 x8), (AVal.func x3f x3c)] h10).bind fun r11 =>
    l_slices_heapSortCmpFunc_int_1 fuel d n [(0, (AVal.slice x0)), (3, (AVal.func x3f x3c)), (8, (AVal.int .i64 x8)), (9, (AVal.int .i64 x9)), (12, (AVal.int .i64 (IntKind.wrap .i64 (x12 - (1 : Int)))))] r11.2) else (some ((.exit 2), [], h))) := by
  generalize hh : run = R
  rw [run_is] at hh
  subst hh
  generalize hh : l_slices_heapSortCmpFunc_int_1 = R
  rw [l_slices_heapSortCmpFunc_int_1_is] at hh
  subst hh
  kernel_rfl

theorem k_slices_heapSortCmpFunc_int_1_x2 (fuel d : Nat)  (h : AHeap) :
    k_slices_heapSortCmpFunc_int_1 fuel d (.exit 2) [] h =
  some ((AVal.tup []), h) := by
  generalize hh : k_slices_heapSortCmpFunc_int_1 = R
  rw [k_slices_heapSortCmpFunc_int_1_is] at hh
  subst hh
  kernel_rfl

noncomputable def s_slices_breakPatternsCmpFunc_int_0 (fuel d : Nat) : Run := fun fr h k => aexec (Cf fuel F_slices_breakPatternsCmpFunc_int) false (acall (C fuel) false d) (acall (C fuel) true d) 67 (csub [true, true, false, true, true, true, false, false] (fbody Go.Proofs.Tryd.f91)) (asub [true, true, false, true, true, true, false, false] an91) fr h k

noncomputable def l_slices_breakPatternsCmpFunc_int_0r (fuel d : Nat) (n : Nat) (fr : Fr) (h : AHeap) : Option (AExit × Fr × AHeap) := aloop (s_slices_breakPatternsCmpFunc_int_0 fuel d) (some [0, 1, 8, 9, 10, 11]) n fr h (kOut [])

noncomputable def l_slices_breakPatternsCmpFunc_int_0 : Nat → Nat → Nat → Fr → AHeap → Option (AExit × Fr × AHeap) := hide l_slices_breakPatternsCmpFunc_int_0r

theorem l_slices_breakPatternsCmpFunc_int_0_is : l_slices_breakPatternsCmpFunc_int_0 = l_slices_breakPatternsCmpFunc_int_0r := hide_eq _

noncomputable def k_slices_breakPatternsCmpFunc_int_0r (fuel d : Nat) : AExit → Fr → AHeap → Option (AVal × AHeap) := (kBlock 0 (kRet (Cf fuel F_slices_breakPatternsCmpFunc_int) Go.Proofs.Tryd.f91.results.toList))

noncomputable def k_slices_breakPatternsCmpFunc_int_0 : Nat → Nat → AExit → Fr → AHeap → Option (AVal × AHeap) := hide k_slices_breakPatternsCmpFunc_int_0r

theorem k_slices_breakPatternsCmpFunc_int_0_is : k_slices_breakPatternsCmpFunc_int_0 = k_slices_breakPatternsCmpFunc_int_0r := hide_eq _

noncomputable def k_slices_breakPatternsCmpFunc_int_1r (fuel d : Nat) (n : Nat) : AExit → Fr → AHeap → Option (AExit × Fr × AHeap) := (kSeq (Cf fuel F_slices_breakPatternsCmpFunc_int) false (acall (C fuel) false d) (acall (C fuel) true d) 67 (csub [true, true, false, true, true, true, false, false, true, false, false, true, true] (fbody Go.Proofs.Tryd.f91)) (asub [true, true, false, true, true, true, false, false, true, false, false, true, true] an91) (kBlock 1 (kSeq (Cf fuel F_slices_breakPatternsCmpFunc_int) false (acall (C fuel) false d) (acall (C fuel) true d) 67 (csub [true, true, false, true, true, true, false, false, true, true] (fbody Go.Proofs.Tryd.f91)) (asub [true, true, false, true, true, true, false, false, true, true] an91) (kLoop (s_slices_breakPatternsCmpFunc_int_0 fuel d) (some [0, 1, 8, 9, 10, 11]) n (kOut [])))))

noncomputable def k_slices_breakPatternsCmpFunc_int_1 : Nat → Nat → Nat → AExit → Fr → AHeap → Option (AExit × Fr × AHeap) := hide k_slices_breakPatternsCmpFunc_int_1r

theorem k_slices_breakPatternsCmpFunc_int_1_is : k_slices_breakPatternsCmpFunc_int_1 = k_slices_breakPatternsCmpFunc_int_1r := hide_eq _

theorem e_slices_breakPatternsCmpFunc_int (fuel d : Nat) (x0 : Sl) (x1 : Int) (x2 : Int) (x3f : Nat) (x3c : List Pt) (h : AHeap) :
    run fuel (d + 1) F_slices_breakPatternsCmpFunc_int [(AVal.slice x0), (AVal.int .i64 x1), (AVal.int .i64 x2), (AVal.func x3f x3c)] h =
  (bif (decide ((8 : Int) ≤ (IntKind.wrap .i64 (x2 - x1)))) then ((AHeap.storeAt (AHeap.push h 1 [(AVal.int .u64 (0 : Int))]) [(AVal.int .u64 (IntKind.wrap .u64 (IntKind.wrap .i64 (x2 - x1))))] (Pt.mk ⟨AHeap.next h, 0, 0⟩ 1)).bind fun h1 =>
    (run fuel d F_slices_nextPowerOfTwo [(AVal.int .i64 (IntKind.wrap .i64 (x2 - x1)))] h1).bind fun r2 =>
    (AVal.int? .u64 r2.1).bind fun n3 =>
    (l_slices_breakPatternsCmpFunc_int_0 fuel d fuel [(0, (AVal.slice x0)), (1, (AVal.int .i64 x1)), (8, (AVal.int .i64 (IntKind.wrap .i64 (x2 - x1)))), (9, (AVal.ptr (Pt.mk ⟨AHeap.next h, 0, 0⟩ 1))), (10, (AVal.int .u64 n3)), (11, (AVal.int .i64 (IntKind.wrap .i64 ((IntKind.wrap .i64 (x1 + (IntKind.wrap .i64 ((IntKind.wrap .i64 (Int.tdiv (IntKind.wrap .i64 (x2 - x1)) (4 : Int))) * (2 : Int))))) - (1 : Int)))))] r2.2).bind fun p4 =>
    k_slices_breakPatternsCmpFunc_int_0 fuel d p4.1 p4.2.1 p4.2.2) else (some ((AVal.tup []), h))) := by
  generalize hh : run = R
  rw [run_is] at hh
  subst hh
  generalize hh : l_slices_breakPatternsCmpFunc_int_0 = R
  rw [l_slices_breakPatternsCmpFunc_int_0_is] at hh
  subst hh
  generalize hh : k_slices_breakPatternsCmpFunc_int_0 = R
  rw [k_slices_breakPatternsCmpFunc_int_0_is] at hh
  subst hh
  kernel_rfl

theorem l_slices_breakPatternsCmpFunc_int_0_eq (fuel d : Nat) (n : Nat) (x0 : Sl) (x1 : Int) (x8 : Int) (x9 : Pt) (x10 : Int) (x11 : Int) (h : AHeap) :
    l_slices_breakPatternsCmpFunc_int_0 fuel d (n + 1) [(0, (AVal.slice x0)), (1, (AVal.int .i64 x1)), (8, (AVal.int .i64 x8)), (9, (AVal.ptr x9)), (10, (AVal.int .u64 x10)), (11, (AVal.int .i64 x11))] h =
  (bif (decide (x11 ≤ (IntKind.wrap .i64 ((IntKind.wrap .i64 (x1 + (IntKind.wrap .i64 ((IntKind.wrap .i64 (Int.tdiv x8 (4 : Int))) * (2 : Int))))) + (1 : Int))))) then ((run fuel d F_slices_xorshift_Next [(AVal.ptr x9)] h).bind fun r1 =>
    (AVal.int? .u64 r1.1).bind fun n2 =>
    ((bif (decide (x8 ≤ (IntKind.wrap .i64 (bitsOp .and .u64 n2 (IntKind.wrap .u64 (x10 - (1 : Int))))))) then (some (.normal, [(0, (AVal.slice x0)), (1, (AVal.int .i64 x1)), (8, (AVal.int .i64 x8)), (9, (AVal.ptr x9)), (10, (AVal.int .u64 x10)), (11, (AVal.int .i64 x11)), (12, (AVal.int .i64 (IntKind.wrap .i64 ((IntKind.wrap .i64 (bitsOp .and .u64 n2 (IntKind.wrap .u64 (x10 - (1 : Int))))) - x8))))], r1.2)) else (some (.normal, [(0, (AVal.slice x0)), (1, (AVal.int .i64 x1)), (8, (AVal.int .i64 x8)), (9, (AVal.ptr x9)), (10, (AVal.int .u64 x10)), (11, (AVal.int .i64 x11)), (12, (AVal.int .i64 (IntKind.wrap .i64 (bitsOp .and .u64 n2 (IntKind.wrap .u64 (x10 - (1 : Int)))))))], r1.2)))).bind fun p3 =>
    k_slices_breakPatternsCmpFunc_int_1 fuel d n p3.1 p3.2.1 p3.2.2) else (some ((.exit 0), [], h))) := by
  generalize hh : run = R
  rw [run_is] at hh
  subst hh
  generalize hh : l_slices_breakPatternsCmpFunc_int_0 = R
  rw [l_slices_breakPatternsCmpFunc_int_0_is] at hh
  subst hh
  generalize hh : k_slices_breakPatternsCmpFunc_int_1 = R
  rw [k_slices_breakPatternsCmpFunc_int_1_is] at hh
  subst hh
  kernel_rfl

theorem k_slices_breakPatternsCmpFunc_int_0_x0 (fuel d : Nat)  (h : AHeap) :
    k_slices_breakPatternsCmpFunc_int_0 fuel d (.exit 0) [] h =
  some ((AVal.tup []), h) := by
  generalize hh : k_slices_breakPatternsCmpFunc_int_0 = R
  rw [k_slices_breakPatternsCmpFunc_int_0_is] at hh
  subst hh
  kernel_rfl

theorem k_slices_breakPatternsCmpFunc_int_1_n (fuel d : Nat) (n : Nat) (x0 : Sl) (x1 : Int) (x8 : Int) (x9 : Pt) (x10 : Int) (x11 : Int) (x12 : Int) (h : AHeap) :
    k_slices_breakPatternsCmpFunc_int_1 fuel d n .normal [(0, (AVal.slice x0)), (1, (AVal.int .i64 x1)), (8, (AVal.int .i64 x8)), (9, (AVal.ptr x9)), (10, (AVal.int .u64 x10)), (11, (AVal.int .i64 x11)), (12, (AVal.int .i64 x12))] h =
  (AHeap.addr h 1 x0 (IntKind.wrap .i64 (x1 + x12))).bind fun p1 =>
    (AHeap.cell h p1).bind fun u2 =>
    (AVal.int? .i64 u2).bind fun n3 =>
    (AHeap.addr h 1 x0 x11).bind fun p4 =>
    (AHeap.cell h p4).bind fun u5 =>
    (AVal.int? .i64 u5).bind fun n6 =>
    (AHeap.addr h 1 x0 x11).bind fun p7 =>
    (AHeap.storeAt h [(AVal.int .i64 n3)] p7).bind fun h8 =>
    (AHeap.addr h8 1 x0 (IntKind.wrap .i64 (x1 + x12))).bind fun p9 =>
    (AHeap.storeAt h8 [(AVal.int .i64 n6)] p9).bind fun h10 =>
    l_slices_breakPatternsCmpFunc_int_0 fuel d n [(0, (AVal.slice x0)), (1, (AVal.int .i64 x1)), (8, (AVal.int .i64 x8)), (9, (AVal.ptr x9)), (10, (AVal.int .u64 x10)), (11, (AVal.int .i64 (IntKind.wrap .i64 (x11 + (1 : Int)))))] h10 := by
  generalize hh : l_slices_breakPatternsCmpFunc_int_0 = R
  rw [l_slices_breakPatternsCmpFunc_int_0_is] at hh
  subst hh
  generalize hh : k_slices_breakPatternsCmpFunc_int_1 = R
  rw [k_slices_breakPatternsCmpFunc_int_1_is] at hh
  subst hh
  kernel_rfl

noncomputable def k_slices_choosePivotCmpFunc_int_0r (fuel d : Nat) : AExit → Fr → AHeap → Option (AExit × Fr × AHeap) := (kSeq (Cf fuel F_slices_choosePivotCmpFunc_int) false (acall (C fuel) false d) (acall (C fuel) true d) 63 (csub [true, true, true, true, true, true, false, true, false, true] (fbody Go.Proofs.Tryd.f92)) (asub [true, true, true, true, true, true, false, true, false, true] an92) (kOut [11, 13]))

noncomputable def k_slices_choosePivotCmpFunc_int_0 : Nat → Nat → AExit → Fr → AHeap → Option (AExit × Fr × AHeap) := hide k_slices_choosePivotCmpFunc_int_0r

theorem k_slices_choosePivotCmpFunc_int_0_is : k_slices_choosePivotCmpFunc_int_0 = k_slices_choosePivotCmpFunc_int_0r := hide_eq _

noncomputable def k_slices_choosePivotCmpFunc_int_1r (fuel d : Nat) : AExit → Fr → AHeap → Option (AVal × AHeap) := (kSeq (Cf fuel F_slices_choosePivotCmpFunc_int) false (acall (C fuel) false d) (acall (C fuel) true d) 63 (csub [true, true, true, true, true, true, true] (fbody Go.Proofs.Tryd.f92)) (asub [true, true, true, true, true, true, true] an92) (kRet (Cf fuel F_slices_choosePivotCmpFunc_int) Go.Proofs.Tryd.f92.results.toList))

noncomputable def k_slices_choosePivotCmpFunc_int_1 : Nat → Nat → AExit → Fr → AHeap → Option (AVal × AHeap) := hide k_slices_choosePivotCmpFunc_int_1r

theorem k_slices_choosePivotCmpFunc_int_1_is : k_slices_choosePivotCmpFunc_int_1 = k_slices_choosePivotCmpFunc_int_1r := hide_eq _

theorem e_slices_choosePivotCmpFunc_int (fuel d : Nat) (x0 : Sl) (x1 : Int) (x2 : Int) (x3f : Nat) (x3c : List Pt) (h : AHeap) :
    run fuel (d + 1) F_slices_choosePivotCmpFunc_int [(AVal.slice x0), (AVal.int .i64 x1), (AVal.int .i64 x2), (AVal.func x3f x3c)] h =
  ((bif (decide ((8 : Int) ≤ (IntKind.wrap .i64 (x2 - x1)))) then (((bif (decide ((50 : Int) ≤ (IntKind.wrap .i64 (x2 - x1)))) then ((run fuel d F_slices_medianAdjacentCmpFunc_int [(AVal.slice x0), (AVal.int .i64 (IntKind.wrap .i64 (x1 + (IntKind.wrap .i64 ((IntKind.wrap .i64 (Int.tdiv (IntKind.wrap .i64 (x2 - x1)) (4 : Int))) * (1 : Int)))))), (AVal.ptr (Pt.mk ⟨AHeap.next h, 0, 0⟩ 1)), (AVal.func x3f x3c)] (AHeap.push h 1 [(AVal.int .i64 (0 : Int))])).bind fun r1 =>
    (AVal.int? .i64 r1.1).bind fun n2 =>
    (run fuel d F_slices_medianAdjacentCmpFunc_int [(AVal.slice x0), (AVal.int .i64 (IntKind.wrap .i64 (x1 + (IntKind.wrap .i64 ((IntKind.wrap .i64 (Int.tdiv (IntKind.wrap .i64 (x2 - x1)) (4 : Int))) * (2 : Int)))))), (AVal.ptr (Pt.mk ⟨AHeap.next h, 0, 0⟩ 1)), (AVal.func x3f x3c)] r1.2).bind fun r3 =>
    (AVal.int? .i64 r3.1).bind fun n4 =>
    (run fuel d F_slices_medianAdjacentCmpFunc_int [(AVal.slice x0), (AVal.int .i64 (IntKind.wrap .i64 (x1 + (IntKind.wrap .i64 ((IntKind.wrap .i64 (Int.tdiv (IntKind.wrap .i64 (x2 - x1)) (4 : Int))) * (3 : Int)))))), (AVal.ptr (Pt.mk ⟨AHeap.next h, 0, 0⟩ 1)), (AVal.func x3f x3c)] r3.2).bind fun r5 =>
    (AVal.int? .i64 r5.1).bind fun n6 =>
    some (.normal, [(0, (AVal.slice x0)), (3, (AVal.func x3f x3c)), (11, (AVal.ptr (Pt.mk ⟨AHeap.next h, 0, 0⟩ 1))), (12, (AVal.int .i64 n2)), (13, (AVal.int .i64 n4)), (14, (AVal.int .i64 n6))], r5.2)) else (some (.normal, [(0, (AVal.slice x0)), (3, (AVal.func x3f x3c)), (11, (AVal.ptr (Pt.mk ⟨AHeap.next h, 0, 0⟩ 1))), (12, (AVal.int .i64 (IntKind.wrap .i64 (x1 + (IntKind.wrap .i64 ((IntKind.wrap .i64 (Int.tdiv (IntKind.wrap .i64 (x2 - x1)) (4 : Int))) * (1 : Int))))))), (13, (AVal.int .i64 (IntKind.wrap .i64 (x1 + (IntKind.wrap .i64 ((IntKind.wrap .i64 (Int.tdiv (IntKind.wrap .i64 (x2 - x1)) (4 : Int))) * (2 : Int))))))), (14, (AVal.int .i64 (IntKind.wrap .i64 (x1 + (IntKind.wrap .i64 ((IntKind.wrap .i64 (Int.tdiv (IntKind.wrap .i64 (x2 - x1)) (4 : Int))) * (3 : Int)))))))], (AHeap.push h 1 [(AVal.int .i64 (0 : Int))]))))).bind fun p7 =>
    k_slices_choosePivotCmpFunc_int_0 fuel d p7.1 p7.2.1 p7.2.2) else (some (.normal, [(11, (AVal.ptr (Pt.mk ⟨AHeap.next h, 0, 0⟩ 1))), (13, (AVal.int .i64 (IntKind.wrap .i64 (x1 + (IntKind.wrap .i64 ((IntKind.wrap .i64 (Int.tdiv (IntKind.wrap .i64 (x2 - x1)) (4 : Int))) * (2 : Int)))))))], (AHeap.push h 1 [(AVal.int .i64 (0 : Int))]))))).bind fun p8 =>
    k_slices_choosePivotCmpFunc_int_1 fuel d p8.1 p8.2.1 p8.2.2 := by
  generalize hh : run = R
  rw [run_is] at hh
  subst hh
  generalize hh : k_slices_choosePivotCmpFunc_int_0 = R
  rw [k_slices_choosePivotCmpFunc_int_0_is] at hh
  subst hh
  generalize hh : k_slices_choosePivotCmpFunc_int_1 = R
  rw [k_slices_choosePivotCmpFunc_int_1_is] at hh
  subst hh
  kernel_rfl

theorem k_slices_choosePivotCmpFunc_int_0_n (fuel d : Nat) (x0 : Sl) (x3f : Nat) (x3c : List Pt) (x11 : Pt) (x12 : Int) (x13 : Int) (x14 : Int) (h : AHeap) :
    k_slices_choosePivotCmpFunc_int_0 fuel d .normal [(0, (AVal.slice x0)), (3, (AVal.func x3f x3c)), (11, (AVal.ptr x11)), (12, (AVal.int .i64 x12)), (13, (AVal.int .i64 x13)), (14, (AVal.int .i64 x14))] h =
  (run fuel d F_slices_medianCmpFunc_int [(AVal.slice x0), (AVal.int .i64 x12), (AVal.int .i64 x13), (AVal.int .i64 x14), (AVal.ptr x11), (AVal.func x3f x3c)] h).bind fun r1 =>
    (AVal.int? .i64 r1.1).bind fun n2 =>
    some (.normal, [(11, (AVal.ptr x11)), (13, (AVal.int .i64 n2))], r1.2) := by
  generalize hh : run = R
  rw [run_is] at hh
  subst hh
  generalize hh : k_slices_choosePivotCmpFunc_int_0 = R
  rw [k_slices_choosePivotCmpFunc_int_0_is] at hh
  subst hh
  kernel_rfl

theorem k_slices_choosePivotCmpFunc_int_1_n (fuel d : Nat) (x11 : Pt) (x13 : Int) (h : AHeap) :
    k_slices_choosePivotCmpFunc_int_1 fuel d .normal [(11, (AVal.ptr x11)), (13, (AVal.int .i64 x13))] h =
  (AHeap.cell h x11).bind fun u1 =>
    (AVal.int? .i64 u1).bind fun n2 =>
    (bif (decide (n2 = (0 : Int))) then (some ((AVal.tup [(AVal.int .i64 x13), (AVal.int .i64 (1 : Int))]), h)) else ((bif (decide (n2 = (12 : Int))) then (some ((AVal.tup [(AVal.int .i64 x13), (AVal.int .i64 (2 : Int))]), h)) else (some ((AVal.tup [(AVal.int .i64 x13), (AVal.int .i64 (0 : Int))]), h))))) := by
  generalize hh : k_slices_choosePivotCmpFunc_int_1 = R
  rw [k_slices_choosePivotCmpFunc_int_1_is] at hh
  subst hh
  kernel_rfl

noncomputable def s_slices_reverseRangeCmpFunc_int_0 (fuel d : Nat) : Run := fun fr h k => aexec (Cf fuel F_slices_reverseRangeCmpFunc_int) false (acall (C fuel) false d) (acall (C fuel) true d) 34 (csub [true, true, false, false] (fbody Go.Proofs.Tryd.f93)) (asub [true, true, false, false] an93) fr h k

noncomputable def l_slices_reverseRangeCmpFunc_int_0r (fuel d : Nat) (n : Nat) (fr : Fr) (h : AHeap) : Option (AExit × Fr × AHeap) := aloop (s_slices_reverseRangeCmpFunc_int_0 fuel d) (some [0, 8, 9]) n fr h (kOut [])

noncomputable def l_slices_reverseRangeCmpFunc_int_0 : Nat → Nat → Nat → Fr → AHeap → Option (AExit × Fr × AHeap) := hide l_slices_reverseRangeCmpFunc_int_0r

theorem l_slices_reverseRangeCmpFunc_int_0_is : l_slices_reverseRangeCmpFunc_int_0 = l_slices_reverseRangeCmpFunc_int_0r := hide_eq _

noncomputable def k_slices_reverseRangeCmpFunc_int_0r (fuel d : Nat) : AExit → Fr → AHeap → Option (AVal × AHeap) := (kBlock 0 (kRet (Cf fuel F_slices_reverseRangeCmpFunc_int) Go.Proofs.Tryd.f93.results.toList))

noncomputable def k_slices_reverseRangeCmpFunc_int_0 : Nat → Nat → AExit → Fr → AHeap → Option (AVal × AHeap) := hide k_slices_reverseRangeCmpFunc_int_0r

theorem k_slices_reverseRangeCmpFunc_int_0_is : k_slices_reverseRangeCmpFunc_int_0 = k_slices_reverseRangeCmpFunc_int_0r := hide_eq _

theorem e_slices_reverseRangeCmpFunc_int (fuel d : Nat) (x0 : Sl) (x1 : Int) (x2 : Int) (x3f : Nat) (x3c : List Pt) (h : AHeap) :
    run fuel (d + 1) F_slices_reverseRangeCmpFunc_int [(AVal.slice x0), (AVal.int .i64 x1), (AVal.int .i64 x2), (AVal.func x3f x3c)] h =
  (l_slices_reverseRangeCmpFunc_int_0 fuel d fuel [(0, (AVal.slice x0)), (8, (AVal.int .i64 x1)), (9, (AVal.int .i64 (IntKind.wrap .i64 (x2 - (1 : Int)))))] h).bind fun p1 =>
    k_slices_reverseRangeCmpFunc_int_0 fuel d p1.1 p1.2.1 p1.2.2 := by
  generalize hh : run = R
  rw [run_is] at hh
  subst hh
  generalize hh : l_slices_reverseRangeCmpFunc_int_0 = R
  rw [l_slices_reverseRangeCmpFunc_int_0_is] at hh
  subst hh
  generalize hh : k_slices_reverseRangeCmpFunc_int_0 = R
  rw [k_slices_reverseRangeCmpFunc_int_0_is] at hh
  subst hh
  kernel_rfl

theorem l_slices_reverseRangeCmpFunc_int_0_eq (fuel d : Nat) (n : Nat) (x0 : Sl) (x8 : Int) (x9 : Int) (h : AHeap) :
    l_slices_reverseRangeCmpFunc_int_0 fuel d (n + 1) [(0, (AVal.slice x0)), (8, (AVal.int .i64 x8)), (9, (AVal.int .i64 x9))] h =
  (bif (decide (x8 < x9)) then ((AHeap.addr h 1 x0 x9).bind fun p1 =>
    (AHeap.cell h p1).bind fun u2 =>
    (AVal.int? .i64 u2).bind fun n3 =>
    (AHeap.addr h 1 x0 x8).bind fun p4 =>
    (AHeap.cell h p4).bind fun u5 =>
    (AVal.int? .i64 u5).bind fun n6 =>
    (AHeap.addr h 1 x0 x8).bind fun p7 =>
    (AHeap.storeAt h [(AVal.int .i64 n3)] p7).bind fun h8 =>
    (AHeap.addr h8 1 x0 x9).bind fun p9 =>
    (AHeap.storeAt h8 [(AVal.int .i64 n6)] p9).bind fun h10 =>
    l_slices_reverseRangeCmpFunc_int_0 fuel d n [(0, (AVal.slice x0)), (8, (AVal.int .i64 (IntKind.wrap .i64 (x8 + (1 : Int))))), (9, (AVal.int .i64 (IntKind.wrap .i64 (x9 - (1 : Int)))))] h10) else (some ((.exit 0), [], h))) := by
  generalize hh : l_slices_reverseRangeCmpFunc_int_0 = R
  rw [l_slices_reverseRangeCmpFunc_int_0_is] at hh
  subst hh
  kernel_rfl

theorem k_slices_reverseRangeCmpFunc_int_0_x0 (fuel d : Nat)  (h : AHeap) :
    k_slices_reverseRangeCmpFunc_int_0 fuel d (.exit 0) [] h =
  some ((AVal.tup []), h) := by
  generalize hh : k_slices_reverseRangeCmpFunc_int_0 = R
  rw [k_slices_reverseRangeCmpFunc_int_0_is] at hh
  subst hh
  kernel_rfl

noncomputable def s_slices_partialInsertionSortCmpFunc_int_0 (fuel d : Nat) : Run := fun fr h k => aexec (Cf fuel F_slices_partialInsertionSortCmpFunc_int) false (acall (C fuel) false d) (acall (C fuel) true d) 141 (csub [true, true, false, true, false, false] (fbody Go.Proofs.Tryd.f94)) (asub [true, true, false, true, false, false] an94) fr h k

noncomputable def l_slices_partialInsertionSortCmpFunc_int_0r (fuel d : Nat) (n : Nat) (fr : Fr) (h : AHeap) : Option (AExit × Fr × AHeap) := aloop (s_slices_partialInsertionSortCmpFunc_int_0 fuel d) (some [0, 1, 2, 3, 9, 10]) n fr h (kOut [8])

noncomputable def l_slices_partialInsertionSortCmpFunc_int_0 : Nat → Nat → Nat → Fr → AHeap → Option (AExit × Fr × AHeap) := hide l_slices_partialInsertionSortCmpFunc_int_0r

theorem l_slices_partialInsertionSortCmpFunc_int_0_is : l_slices_partialInsertionSortCmpFunc_int_0 = l_slices_partialInsertionSortCmpFunc_int_0r := hide_eq _

noncomputable def k_slices_partialInsertionSortCmpFunc_int_0r (fuel d : Nat) : AExit → Fr → AHeap → Option (AVal × AHeap) := (kBlock 0 (kSeq (Cf fuel F_slices_partialInsertionSortCmpFunc_int) false (acall (C fuel) false d) (acall (C fuel) true d) 141 (csub [true, true, true] (fbody Go.Proofs.Tryd.f94)) (asub [true, true, true] an94) (kRet (Cf fuel F_slices_partialInsertionSortCmpFunc_int) Go.Proofs.Tryd.f94.results.toList)))

noncomputable def k_slices_partialInsertionSortCmpFunc_int_0 : Nat → Nat → AExit → Fr → AHeap → Option (AVal × AHeap) := hide k_slices_partialInsertionSortCmpFunc_int_0r

theorem k_slices_partialInsertionSortCmpFunc_int_0_is : k_slices_partialInsertionSortCmpFunc_int_0 = k_slices_partialInsertionSortCmpFunc_int_0r := hide_eq _

noncomputable def s_slices_partialInsertionSortCmpFunc_int_1 (fuel d : Nat) : Run := fun fr h k => aexec (Cf fuel F_slices_partialInsertionSortCmpFunc_int) false (acall (C fuel) false d) (acall (C fuel) true d) 141 (csub [true, true, false, true, false, false, true, false, false, false, false, false] (fbody Go.Proofs.Tryd.f94)) (asub [true, true, false, true, false, false, true, false, false, false, false, false] an94) fr h k

noncomputable def l_slices_partialInsertionSortCmpFunc_int_1r (fuel d : Nat) (n : Nat) (fr : Fr) (h : AHeap) : Option (AExit × Fr × AHeap) := aloop (s_slices_partialInsertionSortCmpFunc_int_1 fuel d) (some [0, 1, 2, 3, 9, 10]) n fr h (kOut [0, 1, 2, 3, 9, 10])

noncomputable def l_slices_partialInsertionSortCmpFunc_int_1 : Nat → Nat → Nat → Fr → AHeap → Option (AExit × Fr × AHeap) := hide l_slices_partialInsertionSortCmpFunc_int_1r

theorem l_slices_partialInsertionSortCmpFunc_int_1_is : l_slices_partialInsertionSortCmpFunc_int_1 = l_slices_partialInsertionSortCmpFunc_int_1r := hide_eq _

noncomputable def k_slices_partialInsertionSortCmpFunc_int_1r (fuel d : Nat) (n : Nat) : AExit → Fr → AHeap → Option (AExit × Fr × AHeap) := (kBlock 2 (kSeq (Cf fuel F_slices_partialInsertionSortCmpFunc_int) false (acall (C fuel) false d) (acall (C fuel) true d) 141 (csub [true, true, false, true, false, false, true, false, false, true] (fbody Go.Proofs.Tryd.f94)) (asub [true, true, false, true, false, false, true, false, false, true] an94) (kBlock 1 (kSeq (Cf fuel F_slices_partialInsertionSortCmpFunc_int) false (acall (C fuel) false d) (acall (C fuel) true d) 141 (csub [true, true, false, true, false, false, true, true] (fbody Go.Proofs.Tryd.f94)) (asub [true, true, false, true, false, false, true, true] an94) (kLoop (s_slices_partialInsertionSortCmpFunc_int_0 fuel d) (some [0, 1, 2, 3, 9, 10]) n (kOut [8]))))))

noncomputable def k_slices_partialInsertionSortCmpFunc_int_1 : Nat → Nat → Nat → AExit → Fr → AHeap → Option (AExit × Fr × AHeap) := hide k_slices_partialInsertionSortCmpFunc_int_1r

theorem k_slices_partialInsertionSortCmpFunc_int_1_is : k_slices_partialInsertionSortCmpFunc_int_1 = k_slices_partialInsertionSortCmpFunc_int_1r := hide_eq _

noncomputable def k_slices_partialInsertionSortCmpFunc_int_2r (fuel d : Nat) (n : Nat) : AExit → Fr → AHeap → Option (AExit × Fr × AHeap) := (kSeq (Cf fuel F_slices_partialInsertionSortCmpFunc_int) false (acall (C fuel) false d) (acall (C fuel) true d) 141 (csub [true, true, false, true, false, false, true, false, false, false, false, false, false, true] (fbody Go.Proofs.Tryd.f94)) (asub [true, true, false, true, false, false, true, false, false, false, false, false, false, true] an94) (kSeq (Cf fuel F_slices_partialInsertionSortCmpFunc_int) false (acall (C fuel) false d) (acall (C fuel) true d) 141 (csub [true, true, false, true, false, false, true, false, false, false, false, false, true] (fbody Go.Proofs.Tryd.f94)) (asub [true, true, false, true, false, false, true, false, false, false, false, false, true] an94) (kLoop (s_slices_partialInsertionSortCmpFunc_int_1 fuel d) (some [0, 1, 2, 3, 9, 10]) n (kOut [0, 1, 2, 3, 9, 10]))))

noncomputable def k_slices_partialInsertionSortCmpFunc_int_2 : Nat → Nat → Nat → AExit → Fr → AHeap → Option (AExit × Fr × AHeap) := hide k_slices_partialInsertionSortCmpFunc_int_2r

theorem k_slices_partialInsertionSortCmpFunc_int_2_is : k_slices_partialInsertionSortCmpFunc_int_2 = k_slices_partialInsertionSortCmpFunc_int_2r := hide_eq _

noncomputable def s_slices_partialInsertionSortCmpFunc_int_2 (fuel d : Nat) : Run := fun fr h k => aexec (Cf fuel F_slices_partialInsertionSortCmpFunc_int) false (acall (C fuel) false d) (acall (C fuel) true d) 141 (csub [true, true, false, true, false, false, true, false, false, true, true, true, true, false, true, false, true, false, false] (fbody Go.Proofs.Tryd.f94)) (asub [true, true, false, true, false, false, true, false, false, true, true, true, true, false, true, false, true, false, false] an94) fr h k

noncomputable def l_slices_partialInsertionSortCmpFunc_int_2r (fuel d : Nat) (n : Nat) (fr : Fr) (h : AHeap) : Option (AExit × Fr × AHeap) := aloop (s_slices_partialInsertionSortCmpFunc_int_2 fuel d) (some [0, 1, 2, 3, 9, 10, 11]) n fr h (kOut [0, 1, 2, 3, 9, 10])

noncomputable def l_slices_partialInsertionSortCmpFunc_int_2 : Nat → Nat → Nat → Fr → AHeap → Option (AExit × Fr × AHeap) := hide l_slices_partialInsertionSortCmpFunc_int_2r

theorem l_slices_partialInsertionSortCmpFunc_int_2_is : l_slices_partialInsertionSortCmpFunc_int_2 = l_slices_partialInsertionSortCmpFunc_int_2r := hide_eq _

noncomputable def k_slices_partialInsertionSortCmpFunc_int_3r (fuel d : Nat) (n : Nat) : AExit → Fr → AHeap → Option (AExit × Fr × AHeap) := (kBlock 4 (kOut [0, 1, 2, 3, 9, 10]))

noncomputable def k_slices_partialInsertionSortCmpFunc_int_3 : Nat → Nat → Nat → AExit → Fr → AHeap → Option (AExit × Fr × AHeap) := hide k_slices_partialInsertionSortCmpFunc_int_3r

theorem k_slices_partialInsertionSortCmpFunc_int_3_is : k_slices_partialInsertionSortCmpFunc_int_3 = k_slices_partialInsertionSortCmpFunc_int_3r := hide_eq _

noncomputable def k_slices_partialInsertionSortCmpFunc_int_4r (fuel d : Nat) (n : Nat) : AExit → Fr → AHeap → Option (AExit × Fr × AHeap) := (kSeq (Cf fuel F_slices_partialInsertionSortCmpFunc_int) false (acall (C fuel) false d) (acall (C fuel) true d) 141 (csub [true, true, false, true, false, false, true, false, false, true, true, true, true, true] (fbody Go.Proofs.Tryd.f94)) (asub [true, true, false, true, false, false, true, false, false, true, true, true, true, true] an94) (kBlock 1 (kSeq (Cf fuel F_slices_partialInsertionSortCmpFunc_int) false (acall (C fuel) false d) (acall (C fuel) true d) 141 (csub [true, true, false, true, false, false, true, true] (fbody Go.Proofs.Tryd.f94)) (asub [true, true, false, true, false, false, true, true] an94) (kLoop (s_slices_partialInsertionSortCmpFunc_int_0 fuel d) (some [0, 1, 2, 3, 9, 10]) n (kOut [8])))))

noncomputable def k_slices_partialInsertionSortCmpFunc_int_4 : Nat → Nat → Nat → AExit → Fr → AHeap → Option (AExit × Fr × AHeap) := hide k_slices_partialInsertionSortCmpFunc_int_4r

theorem k_slices_partialInsertionSortCmpFunc_int_4_is : k_slices_partialInsertionSortCmpFunc_int_4 = k_slices_partialInsertionSortCmpFunc_int_4r := hide_eq _

noncomputable def s_slices_partialInsertionSortCmpFunc_int_3 (fuel d : Nat) : Run := fun fr h k => aexec (Cf fuel F_slices_partialInsertionSortCmpFunc_int) false (acall (C fuel) false d) (acall (C fuel) true d) 141 (csub [true, true, false, true, false, false, true, false, false, true, true, true, true, true, true, false, true, false, false] (fbody Go.Proofs.Tryd.f94)) (asub [true, true, false, true, false, false, true, false, false, true, true, true, true, true, true, false, true, false, false] an94) fr h k

noncomputable def l_slices_partialInsertionSortCmpFunc_int_3r (fuel d : Nat) (n : Nat) (fr : Fr) (h : AHeap) : Option (AExit × Fr × AHeap) := aloop (s_slices_partialInsertionSortCmpFunc_int_3 fuel d) (some [0, 1, 2, 3, 9, 10, 12]) n fr h (kOut [0, 1, 2, 3, 9, 10])

noncomputable def l_slices_partialInsertionSortCmpFunc_int_3 : Nat → Nat → Nat → Fr → AHeap → Option (AExit × Fr × AHeap) := hide l_slices_partialInsertionSortCmpFunc_int_3r

theorem l_slices_partialInsertionSortCmpFunc_int_3_is : l_slices_partialInsertionSortCmpFunc_int_3 = l_slices_partialInsertionSortCmpFunc_int_3r := hide_eq _

noncomputable def k_slices_partialInsertionSortCmpFunc_int_5r (fuel d : Nat) (n : Nat) : AExit → Fr → AHeap → Option (AExit × Fr × AHeap) := (kBlock 6 (kBlock 1 (kSeq (Cf fuel F_slices_partialInsertionSortCmpFunc_int) false (acall (C fuel) false d) (acall (C fuel) true d) 141 (csub [true, true, false, true, false, false, true, true] (fbody Go.Proofs.Tryd.f94)) (asub [true, true, false, true, false, false, true, true] an94) (kLoop (s_slices_partialInsertionSortCmpFunc_int_0 fuel d) (some [0, 1, 2, 3, 9, 10]) n (kOut [8])))))

noncomputable def k_slices_partialInsertionSortCmpFunc_int_5 : Nat → Nat → Nat → AExit → Fr → AHeap → Option (AExit × Fr × AHeap) := hide k_slices_partialInsertionSortCmpFunc_int_5r

theorem k_slices_partialInsertionSortCmpFunc_int_5_is : k_slices_partialInsertionSortCmpFunc_int_5 = k_slices_partialInsertionSortCmpFunc_int_5r := hide_eq _

theorem e_slices_partialInsertionSortCmpFunc_int (fuel d : Nat) (x0 : Sl) (x1 : Int) (x2 : Int) (x3f : Nat) (x3c : List Pt) (h : AHeap) :
    run fuel (d + 1) F_slices_partialInsertionSortCmpFunc_int [(AVal.slice x0), (AVal.int .i64 x1), (AVal.int .i64 x2), (AVal.func x3f x3c)] h =
  (l_slices_partialInsertionSortCmpFunc_int_0 fuel d fuel [(0, (AVal.slice x0)), (1, (AVal.int .i64 x1)), (2, (AVal.int .i64 x2)), (3, (AVal.func x3f x3c)), (9, (AVal.int .i64 (IntKind.wrap .i64 (x1 + (1 : Int))))), (10, (AVal.int .i64 (0 : Int)))] h).bind fun p1 =>
    k_slices_partialInsertionSortCmpFunc_int_0 fuel d p1.1 p1.2.1 p1.2.2 := by
  generalize hh : run = R
  rw [run_is] at hh
  subst hh
  generalize hh : l_slices_partialInsertionSortCmpFunc_int_0 = R
  rw [l_slices_partialInsertionSortCmpFunc_int_0_is] at hh
  subst hh
  generalize hh : k_slices_partialInsertionSortCmpFunc_int_0 = R
  rw [k_slices_partialInsertionSortCmpFunc_int_0_is] at hh
  subst hh
  kernel_rfl

theorem l_slices_partialInsertionSortCmpFunc_int_0_eq (fuel d : Nat) (n : Nat) (x0 : Sl) (x1 : Int) (x2 : Int) (x3f : Nat) (x3c : List Pt) (x9 : Int) (x10 : Int) (h : AHeap) :
    l_slices_partialInsertionSortCmpFunc_int_0 fuel d (n + 1) [(0, (AVal.slice x0)), (1, (AVal.int .i64 x1)), (2, (AVal.int .i64 x2)), (3, (AVal.func x3f x3c)), (9, (AVal.int .i64 x9)), (10, (AVal.int .i64 x10))] h =
  (bif (decide (x10 < (5 : Int))) then ((l_slices_partialInsertionSortCmpFunc_int_1 fuel d fuel [(0, (AVal.slice x0)), (1, (AVal.int .i64 x1)), (2, (AVal.int .i64 x2)), (3, (AVal.func x3f x3c)), (9, (AVal.int .i64 x9)), (10, (AVal.int .i64 x10))] h).bind fun p1 =>
    k_slices_partialInsertionSortCmpFunc_int_1 fuel d n p1.1 p1.2.1 p1.2.2) else (some ((.exit 0), [(8, AVal.bot)], h))) := by
  generalize hh : l_slices_partialInsertionSortCmpFunc_int_0 = R
  rw [l_slices_partialInsertionSortCmpFunc_int_0_is] at hh
  subst hh
  generalize hh : l_slices_partialInsertionSortCmpFunc_int_1 = R
  rw [l_slices_partialInsertionSortCmpFunc_int_1_is] at hh
  subst hh
  generalize hh : k_slices_partialInsertionSortCmpFunc_int_1 = R
  rw [k_slices_partialInsertionSortCmpFunc_int_1_is] at hh
  subst hh
  kernel_rfl

theorem k_slices_partialInsertionSortCmpFunc_int_0_x0 (fuel d : Nat) (x8 : AVal) (h : AHeap) :
    k_slices_partialInsertionSortCmpFunc_int_0 fuel d (.exit 0) [(8, x8)] h =
  some ((AVal.bool false), h) := by
  generalize hh : k_slices_partialInsertionSortCmpFunc_int_0 = R
  rw [k_slices_partialInsertionSortCmpFunc_int_0_is] at hh
  subst hh
  kernel_rfl

theorem k_slices_partialInsertionSortCmpFunc_int_0_r (fuel d : Nat) (x8 : Bool) (h : AHeap) :
    k_slices_partialInsertionSortCmpFunc_int_0 fuel d .ret [(8, (AVal.bool x8))] h =
  some ((AVal.bool x8), h) := by
  generalize hh : k_slices_partialInsertionSortCmpFunc_int_0 = R
  rw [k_slices_partialInsertionSortCmpFunc_int_0_is] at hh
  subst hh
  kernel_rfl

theorem l_slices_partialInsertionSortCmpFunc_int_1_eq (fuel d : Nat) (n : Nat) (x0 : Sl) (x1 : Int) (x2 : Int) (x3f : Nat) (x3c : List Pt) (x9 : Int) (x10 : Int) (h : AHeap) :
    l_slices_partialInsertionSortCmpFunc_int_1 fuel d (n + 1) [(0, (AVal.slice x0)), (1, (AVal.int .i64 x1)), (2, (AVal.int .i64 x2)), (3, (AVal.func x3f x3c)), (9, (AVal.int .i64 x9)), (10, (AVal.int .i64 x10))] h =
  ((bif (decide (x9 < x2)) then ((AHeap.addr h 1 x0 x9).bind fun p1 =>
    (AHeap.cell h p1).bind fun u2 =>
    (AVal.int? .i64 u2).bind fun n3 =>
    (AHeap.addr h 1 x0 (IntKind.wrap .i64 (x9 - (1 : Int)))).bind fun p4 =>
    (AHeap.cell h p4).bind fun u5 =>
    (AVal.int? .i64 u5).bind fun n6 =>
    (run fuel d x3f ([(AVal.int .i64 n3), (AVal.int .i64 n6)] ++ List.map AVal.ptr x3c) h).bind fun r7 =>
    (AVal.int? .i64 r7.1).bind fun n8 =>
    some (.normal, [(0, (AVal.slice x0)), (1, (AVal.int .i64 x1)), (2, (AVal.int .i64 x2)), (3, (AVal.func x3f x3c)), (9, (AVal.int .i64 x9)), (10, (AVal.int .i64 x10)), (36, (AVal.bool (!(decide (n8 < (0 : Int))))))], r7.2)) else (some (.normal, [(0, (AVal.slice x0)), (1, (AVal.int .i64 x1)), (2, (AVal.int .i64 x2)), (3, (AVal.func x3f x3c)), (9, (AVal.int .i64 x9)), (10, (AVal.int .i64 x10)), (36, (AVal.bool false))], h)))).bind fun p9 =>
    k_slices_partialInsertionSortCmpFunc_int_2 fuel d n p9.1 p9.2.1 p9.2.2 := by
  generalize hh : run = R
  rw [run_is] at hh
  subst hh
  generalize hh : l_slices_partialInsertionSortCmpFunc_int_1 = R
  rw [l_slices_partialInsertionSortCmpFunc_int_1_is] at hh
  subst hh
  generalize hh : k_slices_partialInsertionSortCmpFunc_int_2 = R
  rw [k_slices_partialInsertionSortCmpFunc_int_2_is] at hh
  subst hh
  kernel_rfl

theorem k_slices_partialInsertionSortCmpFunc_int_1_x2 (fuel d : Nat) (n : Nat) (x0 : Sl) (x1 : Int) (x2 : Int) (x3f : Nat) (x3c : List Pt) (x9 : Int) (x10 : Int) (h : AHeap) :
    k_slices_partialInsertionSortCmpFunc_int_1 fuel d n (.exit 2) [(0, (AVal.slice x0)), (1, (AVal.int .i64 x1)), (2, (AVal.int .i64 x2)), (3, (AVal.func x3f x3c)), (9, (AVal.int .i64 x9)), (10, (AVal.int .i64 x10))] h =
  (bif (decide (x9 = x2)) then (some (.ret, [(8, (AVal.bool true))], h)) else ((bif (decide ((IntKind.wrap .i64 (x2 - x1)) < (50 : Int))) then (some (.ret, [(8, (AVal.bool false))], h)) else ((AHeap.addr h 1 x0 (IntKind.wrap .i64 (x9 - (1 : Int)))).bind fun p1 =>
    (AHeap.cell h p1).bind fun u2 =>
    (AVal.int? .i64 u2).bind fun n3 =>
    (AHeap.addr h 1 x0 x9).bind fun p4 =>
    (AHeap.cell h p4).bind fun u5 =>
    (AVal.int? .i64 u5).bind fun n6 =>
    (AHeap.addr h 1 x0 x9).bind fun p7 =>
    (AHeap.storeAt h [(AVal.int .i64 n3)] p7).bind fun h8 =>
    (AHeap.addr h8 1 x0 (IntKind.wrap .i64 (x9 - (1 : Int)))).bind fun p9 =>
    (AHeap.storeAt h8 [(AVal.int .i64 n6)] p9).bind fun h10 =>
    ((bif (decide ((2 : Int) ≤ (IntKind.wrap .i64 (x9 - x1)))) then ((l_slices_partialInsertionSortCmpFunc_int_2 fuel d fuel [(0, (AVal.slice x0)), (1, (AVal.int .i64 x1)), (2, (AVal.int .i64 x2)), (3, (AVal.func x3f x3c)), (9, (AVal.int .i64 x9)), (10, (AVal.int .i64 x10)), (11, (AVal.int .i64 (IntKind.wrap .i64 (x9 - (1 : Int)))))] h10).bind fun p11 =>
    k_slices_partialInsertionSortCmpFunc_int_3 fuel d n p11.1 p11.2.1 p11.2.2) else (some (.normal, [(0, (AVal.slice x0)), (1, (AVal.int .i64 x1)), (2, (AVal.int .i64 x2)), (3, (AVal.func x3f x3c)), (9, (AVal.int .i64 x9)), (10, (AVal.int .i64 x10))], h10)))).bind fun p12 =>
    k_slices_partialInsertionSortCmpFunc_int_4 fuel d n p12.1 p12.2.1 p12.2.2)))) := by
  generalize hh : k_slices_partialInsertionSortCmpFunc_int_1 = R
  rw [k_slices_partialInsertionSortCmpFunc_int_1_is] at hh
  subst hh
  generalize hh : l_slices_partialInsertionSortCmpFunc_int_2 = R
  rw [l_slices_partialInsertionSortCmpFunc_int_2_is] at hh
  subst hh
  generalize hh : k_slices_partialInsertionSortCmpFunc_int_3 = R
  rw [k_slices_partialInsertionSortCmpFunc_int_3_is] at hh
  subst hh
  generalize hh : k_slices_partialInsertionSortCmpFunc_int_4 = R
  rw [k_slices_partialInsertionSortCmpFunc_int_4_is] at hh
  subst hh
  kernel_rfl

theorem k_slices_partialInsertionSortCmpFunc_int_2_n (fuel d : Nat) (n : Nat) (x0 : Sl) (x1 : Int) (x2 : Int) (x3f : Nat) (x3c : List Pt) (x9 : Int) (x10 : Int) (x36 : Bool) (h : AHeap) :
    k_slices_partialInsertionSortCmpFunc_int_2 fuel d n .normal [(0, (AVal.slice x0)), (1, (AVal.int .i64 x1)), (2, (AVal.int .i64 x2)), (3, (AVal.func x3f x3c)), (9, (AVal.int .i64 x9)), (10, (AVal.int .i64 x10)), (36, (AVal.bool x36))] h =
  (bif x36 then (l_slices_partialInsertionSortCmpFunc_int_1 fuel d n [(0, (AVal.slice x0)), (1, (AVal.int .i64 x1)), (2, (AVal.int .i64 x2)), (3, (AVal.func x3f x3c)), (9, (AVal.int .i64 (IntKind.wrap .i64 (x9 + (1 : Int))))), (10, (AVal.int .i64 x10))] h) else (some ((.exit 2), [(0, (AVal.slice x0)), (1, (AVal.int .i64 x1)), (2, (AVal.int .i64 x2)), (3, (AVal.func x3f x3c)), (9, (AVal.int .i64 x9)), (10, (AVal.int .i64 x10))], h))) := by
  generalize hh : l_slices_partialInsertionSortCmpFunc_int_1 = R
  rw [l_slices_partialInsertionSortCmpFunc_int_1_is] at hh
  subst hh
  generalize hh : k_slices_partialInsertionSortCmpFunc_int_2 = R
  rw [k_slices_partialInsertionSortCmpFunc_int_2_is] at hh
  subst hh
  kernel_rfl

theorem l_slices_partialInsertionSortCmpFunc_int_2_eq (fuel d : Nat) (n : Nat) (x0 : Sl) (x1 : Int) (x2 : Int) (x3f : Nat) (x3c : List Pt) (x9 : Int) (x10 : Int) (x11 : Int) (h : AHeap) :
    l_slices_partialInsertionSortCmpFunc_int_2 fuel d (n + 1) [(0, (AVal.slice x0)), (1, (AVal.int .i64 x1)), (2, (AVal.int .i64 x2)), (3, (AVal.func x3f x3c)), (9, (AVal.int .i64 x9)), (10, (AVal.int .i64 x10)), (11, (AVal.int .i64 x11))] h =
  (bif (decide ((1 : Int) ≤ x11)) then ((AHeap.addr h 1 x0 x11).bind fun p1 =>
    (AHeap.cell h p1).bind fun u2 =>
    (AVal.int? .i64 u2).bind fun n3 =>
    (AHeap.addr h 1 x0 (IntKind.wrap .i64 (x11 - (1 : Int)))).bind fun p4 =>
    (AHeap.cell h p4).bind fun u5 =>
    (AVal.int? .i64 u5).bind fun n6 =>
    (run fuel d x3f ([(AVal.int .i64 n3), (AVal.int .i64 n6)] ++ List.map AVal.ptr x3c) h).bind fun r7 =>
    (AVal.int? .i64 r7.1).bind fun n8 =>
    (bif (!(decide (n8 < (0 : Int)))) then (some ((.exit 4), [(0, (AVal.slice x0)), (1, (AVal.int .i64 x1)), (2, (AVal.int .i64 x2)), (3, (AVal.func x3f x3c)), (9, (AVal.int .i64 x9)), (10, (AVal.int .i64 x10))], r7.2)) else ((AHeap.addr r7.2 1 x0 (IntKind.wrap .i64 (x11 - (1 : Int)))).bind fun p9 =>
    (AHeap.cell r7.2 p9).bind fun u10 =>
    (AVal.int? .i64 u10).bind fun n11 =>
    (AHeap.addr r7.2 1 x0 x11).bind fun p12 =>
    (AHeap.cell r7.2 p12).bind fun u13 =>
    (AVal.int? .i64 u13).bind fun n14 =>
    (AHeap.addr r7.2 1 x0 x11).bind fun p15 =>
    (AHeap.storeAt r7.2 [(AVal.int .i64 n11)] p15).bind fun h16 =>
    (AHeap.addr h16 1 x0 (IntKind.wrap .i64 (x11 - (1 : Int)))).bind fun p17 =>
    (AHeap.storeAt h16 [(AVal.int .i64 n14)] p17).bind fun h18 =>
    l_slices_partialInsertionSortCmpFunc_int_2 fuel d n [(0, (AVal.slice x0)), (1, (AVal.int .i64 x1)), (2, (AVal.int .i64 x2)), (3, (AVal.func x3f x3c)), (9, (AVal.int .i64 x9)), (10, (AVal.int .i64 x10)), (11, (AVal.int .i64 (IntKind.wrap .i64 (x11 - (1 : Int)))))] h18))) else (some ((.exit 4), [(0, (AVal.slice x0)), (1, (AVal.int .i64 x1)), (2, (AVal.int .i64 x2)), (3, (AVal.func x3f x3c)), (9, (AVal.int .i64 x9)), (10, (AVal.int .i64 x10))], h))) := by
  generalize hh : run = R
  rw [run_is] at hh
  subst hh
  generalize hh : l_slices_partialInsertionSortCmpFunc_int_2 = R
  rw [l_slices_partialInsertionSortCmpFunc_int_2_is] at hh
  subst hh
  kernel_rfl

theorem k_slices_partialInsertionSortCmpFunc_int_3_x4 (fuel d : Nat) (n : Nat) (x0 : Sl) (x1 : Int) (x2 : Int) (x3f : Nat) (x3c : List Pt) (x9 : Int) (x10 : Int) (h : AHeap) :
    k_slices_partialInsertionSortCmpFunc_int_3 fuel d n (.exit 4) [(0, (AVal.slice x0)), (1, (AVal.int .i64 x1)), (2, (AVal.int .i64 x2)), (3, (AVal.func x3f x3c)), (9, (AVal.int .i64 x9)), (10, (AVal.int .i64 x10))] h =
  some (.normal, [(0, (AVal.slice x0)), (1, (AVal.int .i64 x1)), (2, (AVal.int .i64 x2)), (3, (AVal.func x3f x3c)), (9, (AVal.int .i64 x9)), (10, (AVal.int .i64 x10))], h) := by
  generalize hh : k_slices_partialInsertionSortCmpFunc_int_3 = R
  rw [k_slices_partialInsertionSortCmpFunc_int_3_is] at hh
  subst hh
  kernel_rfl

theorem k_slices_partialInsertionSortCmpFunc_int_4_n (fuel d : Nat) (n : Nat) (x0 : Sl) (x1 : Int) (x2 : Int) (x3f : Nat) (x3c : List Pt) (x9 : Int) (x10 : Int) (h : AHeap) :
    k_slices_partialInsertionSortCmpFunc_int_4 fuel d n .normal [(0, (AVal.slice x0)), (1, (AVal.int .i64 x1)), (2, (AVal.int .i64 x2)), (3, (AVal.func x3f x3c)), (9, (AVal.int .i64 x9)), (10, (AVal.int .i64 x10))] h =
  (bif (decide ((2 : Int) ≤ (IntKind.wrap .i64 (x2 - x9)))) then ((l_slices_partialInsertionSortCmpFunc_int_3 fuel d fuel [(0, (AVal.slice x0)), (1, (AVal.int .i64 x1)), (2, (AVal.int .i64 x2)), (3, (AVal.func x3f x3c)), (9, (AVal.int .i64 x9)), (10, (AVal.int .i64 x10)), (12, (AVal.int .i64 (IntKind.wrap .i64 (x9 + (1 : Int)))))] h).bind fun p1 =>
    k_slices_partialInsertionSortCmpFunc_int_5 fuel d n p1.1 p1.2.1 p1.2.2) else (l_slices_partialInsertionSortCmpFunc_int_0 fuel d n [(0, (AVal.slice x0)), (1, (AVal.int .i64 x1)), (2, (AVal.int .i64 x2)), (3, (AVal.func x3f x3c)), (9, (AVal.int .i64 x9)), (10, (AVal.int .i64 (IntKind.wrap .i64 (x10 + (1 : Int)))))] h)) := by
  generalize hh : l_slices_partialInsertionSortCmpFunc_int_0 = R
  rw [l_slices_partialInsertionSortCmpFunc_int_0_is] at hh
  subst hh
  generalize hh : k_slices_partialInsertionSortCmpFunc_int_4 = R
  rw [k_slices_partialInsertionSortCmpFunc_int_4_is] at hh
  subst hh
  generalize hh : l_slices_partialInsertionSortCmpFunc_int_3 = R
  rw [l_slices_partialInsertionSortCmpFunc_int_3_is] at hh
  subst hh
  generalize hh : k_slices_partialInsertionSortCmpFunc_int_5 = R
  rw [k_slices_partialInsertionSortCmpFunc_int_5_is] at hh
  subst hh
  kernel_rfl

theorem l_slices_partialInsertionSortCmpFunc_int_3_eq (fuel d : Nat) (n : Nat) (x0 : Sl) (x1 : Int) (x2 : Int) (x3f : Nat) (x3c : List Pt) (x9 : Int) (x10 : Int) (x12 : Int) (h : AHeap) :
    l_slices_partialInsertionSortCmpFunc_int_3 fuel d (n + 1) [(0, (AVal.slice x0)), (1, (AVal.int .i64 x1)), (2, (AVal.int .i64 x2)), (3, (AVal.func x3f x3c)), (9, (AVal.int .i64 x9)), (10, (AVal.int .i64 x10)), (12, (AVal.int .i64 x12))] h =
  (bif (decide (x12 < x2)) then ((AHeap.addr h 1 x0 x12).bind fun p1 =>
    (AHeap.cell h p1).bind fun u2 =>
    (AVal.int? .i64 u2).bind fun n3 =>
    (AHeap.addr h 1 x0 (IntKind.wrap .i64 (x12 - (1 : Int)))).bind fun p4 =>
    (AHeap.cell h p4).bind fun u5 =>
    (AVal.int? .i64 u5).bind fun n6 =>
    (run fuel d x3f ([(AVal.int .i64 n3), (AVal.int .i64 n6)] ++ List.map AVal.ptr x3c) h).bind fun r7 =>
    (AVal.int? .i64 r7.1).bind fun n8 =>
    (bif (!(decide (n8 < (0 : Int)))) then (some ((.exit 6), [(0, (AVal.slice x0)), (1, (AVal.int .i64 x1)), (2, (AVal.int .i64 x2)), (3, (AVal.func x3f x3c)), (9, (AVal.int .i64 x9)), (10, (AVal.int .i64 x10))], r7.2)) else ((AHeap.addr r7.2 1 x0 (IntKind.wrap .i64 (x12 - (1 : Int)))).bind fun p9 =>
    (AHeap.cell r7.2 p9).bind fun u10 =>
    (AVal.int? .i64 u10).bind fun n11 =>
    (AHeap.addr r7.2 1 x0 x12).bind fun p12 =>
    (AHeap.cell r7.2 p12).bind fun u13 =>
    (AVal.int? .i64 u13).bind fun n14 =>
    (AHeap.addr r7.2 1 x0 x12).bind fun p15 =>
    (AHeap.storeAt r7.2 [(AVal.int .i64 n11)] p15).bind fun h16 =>
    (AHeap.addr h16 1 x0 (IntKind.wrap .i64 (x12 - (1 : Int)))).bind fun p17 =>
    (AHeap.storeAt h16 [(AVal.int .i64 n14)] p17).bind fun h18 =>
    l_slices_partialInsertionSortCmpFunc_int_3 fuel d n [(0, (AVal.slice x0)), (1, (AVal.int .i64 x1)), (2, (AVal.int .i64 x2)), (3, (AVal.func x3f x3c)), (9, (AVal.int .i64 x9)), (10, (AVal.int .i64 x10)), (12, (AVal.int .i64 (IntKind.wrap .i64 (x12 + (1 : Int)))))] h18))) else (some ((.exit 6), [(0, (AVal.slice x0)), (1, (AVal.int .i64 x1)), (2, (AVal.int .i64 x2)), (3, (AVal.func x3f x3c)), (9, (AVal.int .i64 x9)), (10, (AVal.int .i64 x10))], h))) := by
  generalize hh : run = R
  rw [run_is] at hh
  subst hh
  generalize hh : l_slices_partialInsertionSortCmpFunc_int_3 = R
  rw [l_slices_partialInsertionSortCmpFunc_int_3_is] at hh
  subst hh
  kernel_rfl

theorem k_slices_partialInsertionSortCmpFunc_int_5_x6 (fuel d : Nat) (n : Nat) (x0 : Sl) (x1 : Int) (x2 : Int) (x3f : Nat) (x3c : List Pt) (x9 : Int) (x10 : Int) (h : AHeap) :
    k_slices_partialInsertionSortCmpFunc_int_5 fuel d n (.exit 6) [(0, (AVal.slice x0)), (1, (AVal.int .i64 x1)), (2, (AVal.int .i64 x2)), (3, (AVal.func x3f x3c)), (9, (AVal.int .i64 x9)), (10, (AVal.int .i64 x10))] h =
  l_slices_partialInsertionSortCmpFunc_int_0 fuel d n [(0, (AVal.slice x0)), (1, (AVal.int .i64 x1)), (2, (AVal.int .i64 x2)), (3, (AVal.func x3f x3c)), (9, (AVal.int .i64 x9)), (10, (AVal.int .i64 (IntKind.wrap .i64 (x10 + (1 : Int)))))] h := by
  generalize hh : l_slices_partialInsertionSortCmpFunc_int_0 = R
  rw [l_slices_partialInsertionSortCmpFunc_int_0_is] at hh
  subst hh
  generalize hh : k_slices_partialInsertionSortCmpFunc_int_5 = R
  rw [k_slices_partialInsertionSortCmpFunc_int_5_is] at hh
  subst hh
  kernel_rfl

noncomputable def s_slices_partitionEqualCmpFunc_int_0 (fuel d : Nat) : Run := fun fr h k => aexec (Cf fuel F_slices_partitionEqualCmpFunc_int) false (acall (C fuel) false d) (acall (C fuel) true d) 90 (csub [true, true, true, false, false, false] (fbody Go.Proofs.Tryd.f95)) (asub [true, true, true, false, false, false] an95) fr h k

noncomputable def l_slices_partitionEqualCmpFunc_int_0r (fuel d : Nat) (n : Nat) (fr : Fr) (h : AHeap) : Option (AExit × Fr × AHeap) := aloop (s_slices_partitionEqualCmpFunc_int_0 fuel d) (some [0, 1, 4, 11, 12]) n fr h (kOut [11])

noncomputable def l_slices_partitionEqualCmpFunc_int_0 : Nat → Nat → Nat → Fr → AHeap → Option (AExit × Fr × AHeap) := hide l_slices_partitionEqualCmpFunc_int_0r

theorem l_slices_partitionEqualCmpFunc_int_0_is : l_slices_partitionEqualCmpFunc_int_0 = l_slices_partitionEqualCmpFunc_int_0r := hide_eq _

noncomputable def k_slices_partitionEqualCmpFunc_int_0r (fuel d : Nat) : AExit → Fr → AHeap → Option (AVal × AHeap) := (kBlock 0 (kSeq (Cf fuel F_slices_partitionEqualCmpFunc_int) false (acall (C fuel) false d) (acall (C fuel) true d) 90 (csub [true, true, true, true] (fbody Go.Proofs.Tryd.f95)) (asub [true, true, true, true] an95) (kRet (Cf fuel F_slices_partitionEqualCmpFunc_int) Go.Proofs.Tryd.f95.results.toList)))

noncomputable def k_slices_partitionEqualCmpFunc_int_0 : Nat → Nat → AExit → Fr → AHeap → Option (AVal × AHeap) := hide k_slices_partitionEqualCmpFunc_int_0r

theorem k_slices_partitionEqualCmpFunc_int_0_is : k_slices_partitionEqualCmpFunc_int_0 = k_slices_partitionEqualCmpFunc_int_0r := hide_eq _

noncomputable def s_slices_partitionEqualCmpFunc_int_1 (fuel d : Nat) : Run := fun fr h k => aexec (Cf fuel F_slices_partitionEqualCmpFunc_int) false (acall (C fuel) false d) (acall (C fuel) true d) 90 (csub [true, true, true, false, false, false, false, false, false, false] (fbody Go.Proofs.Tryd.f95)) (asub [true, true, true, false, false, false, false, false, false, false] an95) fr h k

noncomputable def l_slices_partitionEqualCmpFunc_int_1r (fuel d : Nat) (n : Nat) (fr : Fr) (h : AHeap) : Option (AExit × Fr × AHeap) := aloop (s_slices_partitionEqualCmpFunc_int_1 fuel d) (some [0, 1, 4, 11, 12]) n fr h (kOut [0, 1, 4, 11, 12])

noncomputable def l_slices_partitionEqualCmpFunc_int_1 : Nat → Nat → Nat → Fr → AHeap → Option (AExit × Fr × AHeap) := hide l_slices_partitionEqualCmpFunc_int_1r

theorem l_slices_partitionEqualCmpFunc_int_1_is : l_slices_partitionEqualCmpFunc_int_1 = l_slices_partitionEqualCmpFunc_int_1r := hide_eq _

noncomputable def k_slices_partitionEqualCmpFunc_int_1r (fuel d : Nat) (n : Nat) : AExit → Fr → AHeap → Option (AExit × Fr × AHeap) := (kBlock 2 (kSeq (Cf fuel F_slices_partitionEqualCmpFunc_int) false (acall (C fuel) false d) (acall (C fuel) true d) 90 (csub [true, true, true, false, false, false, false, true] (fbody Go.Proofs.Tryd.f95)) (asub [true, true, true, false, false, false, false, true] an95) (kBlock 1 (kLoop (s_slices_partitionEqualCmpFunc_int_0 fuel d) (some [0, 1, 4, 11, 12]) n (kOut [11])))))

noncomputable def k_slices_partitionEqualCmpFunc_int_1 : Nat → Nat → Nat → AExit → Fr → AHeap → Option (AExit × Fr × AHeap) := hide k_slices_partitionEqualCmpFunc_int_1r

theorem k_slices_partitionEqualCmpFunc_int_1_is : k_slices_partitionEqualCmpFunc_int_1 = k_slices_partitionEqualCmpFunc_int_1r := hide_eq _

noncomputable def k_slices_partitionEqualCmpFunc_int_2r (fuel d : Nat) (n : Nat) : AExit → Fr → AHeap → Option (AExit × Fr × AHeap) := (kSeq (Cf fuel F_slices_partitionEqualCmpFunc_int) false (acall (C fuel) false d) (acall (C fuel) true d) 90 (csub [true, true, true, false, false, false, false, false, false, false, false, true] (fbody Go.Proofs.Tryd.f95)) (asub [true, true, true, false, false, false, false, false, false, false, false, true] an95) (kSeq (Cf fuel F_slices_partitionEqualCmpFunc_int) false (acall (C fuel) false d) (acall (C fuel) true d) 90 (csub [true, true, true, false, false, false, false, false, false, false, true] (fbody Go.Proofs.Tryd.f95)) (asub [true, true, true, false, false, false, false, false, false, false, true] an95) (kLoop (s_slices_partitionEqualCmpFunc_int_1 fuel d) (some [0, 1, 4, 11, 12]) n (kOut [0, 1, 4, 11, 12]))))

noncomputable def k_slices_partitionEqualCmpFunc_int_2 : Nat → Nat → Nat → AExit → Fr → AHeap → Option (AExit × Fr × AHeap) := hide k_slices_partitionEqualCmpFunc_int_2r

theorem k_slices_partitionEqualCmpFunc_int_2_is : k_slices_partitionEqualCmpFunc_int_2 = k_slices_partitionEqualCmpFunc_int_2r := hide_eq _

noncomputable def s_slices_partitionEqualCmpFunc_int_2 (fuel d : Nat) : Run := fun fr h k => aexec (Cf fuel F_slices_partitionEqualCmpFunc_int) false (acall (C fuel) false d) (acall (C fuel) true d) 90 (csub [true, true, true, false, false, false, false, true, false, false, false] (fbody Go.Proofs.Tryd.f95)) (asub [true, true, true, false, false, false, false, true, false, false, false] an95) fr h k

noncomputable def l_slices_partitionEqualCmpFunc_int_2r (fuel d : Nat) (n : Nat) (fr : Fr) (h : AHeap) : Option (AExit × Fr × AHeap) := aloop (s_slices_partitionEqualCmpFunc_int_2 fuel d) (some [0, 1, 4, 11, 12]) n fr h (kOut [0, 1, 4, 11, 12])

noncomputable def l_slices_partitionEqualCmpFunc_int_2 : Nat → Nat → Nat → Fr → AHeap → Option (AExit × Fr × AHeap) := hide l_slices_partitionEqualCmpFunc_int_2r

theorem l_slices_partitionEqualCmpFunc_int_2_is : l_slices_partitionEqualCmpFunc_int_2 = l_slices_partitionEqualCmpFunc_int_2r := hide_eq _

noncomputable def k_slices_partitionEqualCmpFunc_int_3r (fuel d : Nat) (n : Nat) : AExit → Fr → AHeap → Option (AExit × Fr × AHeap) := (kBlock 4 (kSeq (Cf fuel F_slices_partitionEqualCmpFunc_int) false (acall (C fuel) false d) (acall (C fuel) true d) 90 (csub [true, true, true, false, false, false, false, true, true] (fbody Go.Proofs.Tryd.f95)) (asub [true, true, true, false, false, false, false, true, true] an95) (kBlock 1 (kLoop (s_slices_partitionEqualCmpFunc_int_0 fuel d) (some [0, 1, 4, 11, 12]) n (kOut [11])))))

noncomputable def k_slices_partitionEqualCmpFunc_int_3 : Nat → Nat → Nat → AExit → Fr → AHeap → Option (AExit × Fr × AHeap) := hide k_slices_partitionEqualCmpFunc_int_3r

theorem k_slices_partitionEqualCmpFunc_int_3_is : k_slices_partitionEqualCmpFunc_int_3 = k_slices_partitionEqualCmpFunc_int_3r := hide_eq _

noncomputable def k_slices_partitionEqualCmpFunc_int_4r (fuel d : Nat) (n : Nat) : AExit → Fr → AHeap → Option (AExit × Fr × AHeap) := (kSeq (Cf fuel F_slices_partitionEqualCmpFunc_int) false (acall (C fuel) false d) (acall (C fuel) true d) 90 (csub [true, true, true, false, false, false, false, true, false, false, false, false, true] (fbody Go.Proofs.Tryd.f95)) (asub [true, true, true, false, false, false, false, true, false, false, false, false, true] an95) (kSeq (Cf fuel F_slices_partitionEqualCmpFunc_int) false (acall (C fuel) false d) (acall (C fuel) true d) 90 (csub [true, true, true, false, false, false, false, true, false, false, false, true] (fbody Go.Proofs.Tryd.f95)) (asub [true, true, true, false, false, false, false, true, false, false, false, true] an95) (kLoop (s_slices_partitionEqualCmpFunc_int_2 fuel d) (some [0, 1, 4, 11, 12]) n (kOut [0, 1, 4, 11, 12]))))

noncomputable def k_slices_partitionEqualCmpFunc_int_4 : Nat → Nat → Nat → AExit → Fr → AHeap → Option (AExit × Fr × AHeap) := hide k_slices_partitionEqualCmpFunc_int_4r

theorem k_slices_partitionEqualCmpFunc_int_4_is : k_slices_partitionEqualCmpFunc_int_4 = k_slices_partitionEqualCmpFunc_int_4r := hide_eq _

theorem e_slices_partitionEqualCmpFunc_int (fuel d : Nat) (x0 : Sl) (x1 : Int) (x2 : Int) (x3 : Int) (x4f : Nat) (x4c : List Pt) (h : AHeap) :
    run fuel (d + 1) F_slices_partitionEqualCmpFunc_int [(AVal.slice x0), (AVal.int .i64 x1), (AVal.int .i64 x2), (AVal.int .i64 x3), (AVal.func x4f x4c)] h =
  (AHeap.addr h 1 x0 x3).bind fun p1 =>
    (AHeap.cell h p1).bind fun u2 =>
    (AVal.int? .i64 u2).bind fun n3 =>
    (AHeap.addr h 1 x0 x1).bind fun p4 =>
    (AHeap.cell h p4).bind fun u5 =>
    (AVal.int? .i64 u5).bind fun n6 =>
    (AHeap.addr h 1 x0 x1).bind fun p7 =>
    (AHeap.storeAt h [(AVal.int .i64 n3)] p7).bind fun h8 =>
    (AHeap.addr h8 1 x0 x3).bind fun p9 =>
    (AHeap.storeAt h8 [(AVal.int .i64 n6)] p9).bind fun h10 =>
    (l_slices_partitionEqualCmpFunc_int_0 fuel d fuel [(0, (AVal.slice x0)), (1, (AVal.int .i64 x1)), (4, (AVal.func x4f x4c)), (11, (AVal.int .i64 (IntKind.wrap .i64 (x1 + (1 : Int))))), (12, (AVal.int .i64 (IntKind.wrap .i64 (x2 - (1 : Int)))))] h10).bind fun p11 =>
    k_slices_partitionEqualCmpFunc_int_0 fuel d p11.1 p11.2.1 p11.2.2 := by
  generalize hh : run = R
  rw [run_is] at hh
  subst hh
  generalize hh : l_slices_partitionEqualCmpFunc_int_0 = R
  rw [l_slices_partitionEqualCmpFunc_int_0_is] at hh
  subst hh
  generalize hh : k_slices_partitionEqualCmpFunc_int_0 = R
  rw [k_slices_partitionEqualCmpFunc_int_0_is] at hh
  subst hh
  kernel_rfl

theorem l_slices_partitionEqualCmpFunc_int_0_eq (fuel d : Nat) (n : Nat) (x0 : Sl) (x1 : Int) (x4f : Nat) (x4c : List Pt) (x11 : Int) (x12 : Int) (h : AHeap) :
    l_slices_partitionEqualCmpFunc_int_0 fuel d (n + 1) [(0, (AVal.slice x0)), (1, (AVal.int .i64 x1)), (4, (AVal.func x4f x4c)), (11, (AVal.int .i64 x11)), (12, (AVal.int .i64 x12))] h =
  (l_slices_partitionEqualCmpFunc_int_1 fuel d fuel [(0, (AVal.slice x0)), (1, (AVal.int .i64 x1)), (4, (AVal.func x4f x4c)), (11, (AVal.int .i64 x11)), (12, (AVal.int .i64 x12))] h).bind fun p1 =>
    k_slices_partitionEqualCmpFunc_int_1 fuel d n p1.1 p1.2.1 p1.2.2 := by
  generalize hh : l_slices_partitionEqualCmpFunc_int_0 = R
  rw [l_slices_partitionEqualCmpFunc_int_0_is] at hh
  subst hh
  generalize hh : l_slices_partitionEqualCmpFunc_int_1 = R
  rw [l_slices_partitionEqualCmpFunc_int_1_is] at hh
  subst hh
  generalize hh : k_slices_partitionEqualCmpFunc_int_1 = R
  rw [k_slices_partitionEqualCmpFunc_int_1_is] at hh
  subst hh
  kernel_rfl

theorem k_slices_partitionEqualCmpFunc_int_0_x0 (fuel d : Nat) (x11 : Int) (h : AHeap) :
    k_slices_partitionEqualCmpFunc_int_0 fuel d (.exit 0) [(11, (AVal.int .i64 x11))] h =
  some ((AVal.int .i64 x11), h) := by
  generalize hh : k_slices_partitionEqualCmpFunc_int_0 = R
  rw [k_slices_partitionEqualCmpFunc_int_0_is] at hh
  subst hh
  kernel_rfl

theorem l_slices_partitionEqualCmpFunc_int_1_eq (fuel d : Nat) (n : Nat) (x0 : Sl) (x1 : Int) (x4f : Nat) (x4c : List Pt) (x11 : Int) (x12 : Int) (h : AHeap) :
    l_slices_partitionEqualCmpFunc_int_1 fuel d (n + 1) [(0, (AVal.slice x0)), (1, (AVal.int .i64 x1)), (4, (AVal.func x4f x4c)), (11, (AVal.int .i64 x11)), (12, (AVal.int .i64 x12))] h =
  ((bif (decide (x11 ≤ x12)) then ((AHeap.addr h 1 x0 x1).bind fun p1 =>
    (AHeap.cell h p1).bind fun u2 =>
    (AVal.int? .i64 u2).bind fun n3 =>
    (AHeap.addr h 1 x0 x11).bind fun p4 =>
    (AHeap.cell h p4).bind fun u5 =>
    (AVal.int? .i64 u5).bind fun n6 =>
    (run fuel d x4f ([(AVal.int .i64 n3), (AVal.int .i64 n6)] ++ List.map AVal.ptr x4c) h).bind fun r7 =>
    (AVal.int? .i64 r7.1).bind fun n8 =>
    some (.normal, [(0, (AVal.slice x0)), (1, (AVal.int .i64 x1)), (4, (AVal.func x4f x4c)), (11, (AVal.int .i64 x11)), (12, (AVal.int .i64 x12)), (47, (AVal.bool (!(decide (n8 < (0 : Int))))))], r7.2)) else (some (.normal, [(0, (AVal.slice x0)), (1, (AVal.int .i64 x1)), (4, (AVal.func x4f x4c)), (11, (AVal.int .i64 x11)), (12, (AVal.int .i64 x12)), (47, (AVal.bool false))], h)))).bind fun p9 =>
    k_slices_partitionEqualCmpFunc_int_2 fuel d n p9.1 p9.2.1 p9.2.2 := by
  generalize hh : run = R
  rw [run_is] at hh
  subst hh
  generalize hh : l_slices_partitionEqualCmpFunc_int_1 = R
  rw [l_slices_partitionEqualCmpFunc_int_1_is] at hh
  subst hh
  generalize hh : k_slices_partitionEqualCmpFunc_int_2 = R
  rw [k_slices_partitionEqualCmpFunc_int_2_is] at hh
  subst hh
  kernel_rfl

theorem k_slices_partitionEqualCmpFunc_int_1_x2 (fuel d : Nat) (n : Nat) (x0 : Sl) (x1 : Int) (x4f : Nat) (x4c : List Pt) (x11 : Int) (x12 : Int) (h : AHeap) :
    k_slices_partitionEqualCmpFunc_int_1 fuel d n (.exit 2) [(0, (AVal.slice x0)), (1, (AVal.int .i64 x1)), (4, (AVal.func x4f x4c)), (11, (AVal.int .i64 x11)), (12, (AVal.int .i64 x12))] h =
  (l_slices_partitionEqualCmpFunc_int_2 fuel d fuel [(0, (AVal.slice x0)), (1, (AVal.int .i64 x1)), (4, (AVal.func x4f x4c)), (11, (AVal.int .i64 x11)), (12, (AVal.int .i64 x12))] h).bind fun p1 =>
    k_slices_partitionEqualCmpFunc_int_3 fuel d n p1.1 p1.2.1 p1.2.2 := by
  generalize hh : k_slices_partitionEqualCmpFunc_int_1 = R
  rw [k_slices_partitionEqualCmpFunc_int_1_is] at hh
  subst hh
  generalize hh : l_slices_partitionEqualCmpFunc_int_2 = R
  rw [l_slices_partitionEqualCmpFunc_int_2_is] at hh
  subst hh
  generalize hh : k_slices_partitionEqualCmpFunc_int_3 = R
  rw [k_slices_partitionEqualCmpFunc_int_3_is] at hh
  subst hh
  kernel_rfl

theorem k_slices_partitionEqualCmpFunc_int_2_n (fuel d : Nat) (n : Nat) (x0 : Sl) (x1 : Int) (x4f : Nat) (x4c : List Pt) (x11 : Int) (x12 : Int) (x47 : Bool) (h : AHeap) :
    k_slices_partitionEqualCmpFunc_int_2 fuel d n .normal [(0, (AVal.slice x0)), (1, (AVal.int .i64 x1)), (4, (AVal.func x4f x4c)), (11, (AVal.int .i64 x11)), (12, (AVal.int .i64 x12)), (47, (AVal.bool x47))] h =
  (bif x47 then (l_slices_partitionEqualCmpFunc_int_1 fuel d n [(0, (AVal.slice x0)), (1, (AVal.int .i64 x1)), (4, (AVal.func x4f x4c)), (11, (AVal.int .i64 (IntKind.wrap .i64 (x11 + (1 : Int))))), (12, (AVal.int .i64 x12))] h) else (some ((.exit 2), [(0, (AVal.slice x0)), (1, (AVal.int .i64 x1)), (4, (AVal.func x4f x4c)), (11, (AVal.int .i64 x11)), (12, (AVal.int .i64 x12))], h))) := by
  generalize hh : l_slices_partitionEqualCmpFunc_int_1 = R
  rw [l_slices_partitionEqualCmpFunc_int_1_is] at hh
  subst hh
  generalize hh : k_slices_partitionEqualCmpFunc_int_2 = R
  rw [k_slices_partitionEqualCmpFunc_int_2_is] at hh
  subst hh
  kernel_rfl

theorem l_slices_partitionEqualCmpFunc_int_2_eq (fuel d : Nat) (n : Nat) (x0 : Sl) (x1 : Int) (x4f : Nat) (x4c : List Pt) (x11 : Int) (x12 : Int) (h : AHeap) :
    l_slices_partitionEqualCmpFunc_int_2 fuel d (n + 1) [(0, (AVal.slice x0)), (1, (AVal.int .i64 x1)), (4, (AVal.func x4f x4c)), (11, (AVal.int .i64 x11)), (12, (AVal.int .i64 x12))] h =
  ((bif (decide (x11 ≤ x12)) then ((AHeap.addr h 1 x0 x1).bind fun p1 =>
    (AHeap.cell h p1).bind fun u2 =>
    (AVal.int? .i64 u2).bind fun n3 =>
    (AHeap.addr h 1 x0 x12).bind fun p4 =>
    (AHeap.cell h p4).bind fun u5 =>
    (AVal.int? .i64 u5).bind fun n6 =>
    (run fuel d x4f ([(AVal.int .i64 n3), (AVal.int .i64 n6)] ++ List.map AVal.ptr x4c) h).bind fun r7 =>
    (AVal.int? .i64 r7.1).bind fun n8 =>
    some (.normal, [(0, (AVal.slice x0)), (1, (AVal.int .i64 x1)), (4, (AVal.func x4f x4c)), (11, (AVal.int .i64 x11)), (12, (AVal.int .i64 x12)), (65, (AVal.bool (decide (n8 < (0 : Int)))))], r7.2)) else (some (.normal, [(0, (AVal.slice x0)), (1, (AVal.int .i64 x1)), (4, (AVal.func x4f x4c)), (11, (AVal.int .i64 x11)), (12, (AVal.int .i64 x12)), (65, (AVal.bool false))], h)))).bind fun p9 =>
    k_slices_partitionEqualCmpFunc_int_4 fuel d n p9.1 p9.2.1 p9.2.2 := by
  generalize hh : run = R
  rw [run_is] at hh
  subst hh
  generalize hh : l_slices_partitionEqualCmpFunc_int_2 = R
  rw [l_slices_partitionEqualCmpFunc_int_2_is] at hh
  subst hh
  generalize hh : k_slices_partitionEqualCmpFunc_int_4 = R
  rw [k_slices_partitionEqualCmpFunc_int_4_is] at hh
  subst hh
  kernel_rfl

theorem k_slices_partitionEqualCmpFunc_int_3_x4 (fuel d : Nat) (n : Nat) (x0 : Sl) (x1 : Int) (x4f : Nat) (x4c : List Pt) (x11 : Int) (x12 : Int) (h : AHeap) :
    k_slices_partitionEqualCmpFunc_int_3 fuel d n (.exit 4) [(0, (AVal.slice x0)), (1, (AVal.int .i64 x1)), (4, (AVal.func x4f x4c)), (11, (AVal.int .i64 x11)), (12, (AVal.int .i64 x12))] h =
  (bif (decide (x12 < x11)) then (some ((.exit 0), [(11, (AVal.int .i64 x11))], h)) else ((AHeap.addr h 1 x0 x12).bind fun p1 =>
    (AHeap.cell h p1).bind fun u2 =>
    (AVal.int? .i64 u2).bind fun n3 =>
    (AHeap.addr h 1 x0 x11).bind fun p4 =>
    (AHeap.cell h p4).bind fun u5 =>
    (AVal.int? .i64 u5).bind fun n6 =>
    (AHeap.addr h 1 x0 x11).bind fun p7 =>
    (AHeap.storeAt h [(AVal.int .i64 n3)] p7).bind fun h8 =>
    (AHeap.addr h8 1 x0 x12).bind fun p9 =>
    (AHeap.storeAt h8 [(AVal.int .i64 n6)] p9).bind fun h10 =>
    l_slices_partitionEqualCmpFunc_int_0 fuel d n [(0, (AVal.slice x0)), (1, (AVal.int .i64 x1)), (4, (AVal.func x4f x4c)), (11, (AVal.int .i64 (IntKind.wrap .i64 (x11 + (1 : Int))))), (12, (AVal.int .i64 (IntKind.wrap .i64 (x12 - (1 : Int)))))] h10)) := by
  generalize hh : l_slices_partitionEqualCmpFunc_int_0 = R
  rw [l_slices_partitionEqualCmpFunc_int_0_is] at hh
  subst hh
  generalize hh : k_slices_partitionEqualCmpFunc_int_3 = R
  rw [k_slices_partitionEqualCmpFunc_int_3_is] at hh
  subst hh
  kernel_rfl

theorem k_slices_partitionEqualCmpFunc_int_4_n (fuel d : Nat) (n : Nat) (x0 : Sl) (x1 : Int) (x4f : Nat) (x4c : List Pt) (x11 : Int) (x12 : Int) (x65 : Bool) (h : AHeap) :
    k_slices_partitionEqualCmpFunc_int_4 fuel d n .normal [(0, (AVal.slice x0)), (1, (AVal.int .i64 x1)), (4, (AVal.func x4f x4c)), (11, (AVal.int .i64 x11)), (12, (AVal.int .i64 x12)), (65, (AVal.bool x65))] h =
  (bif x65 then (l_slices_partitionEqualCmpFunc_int_2 fuel d n [(0, (AVal.slice x0)), (1, (AVal.int .i64 x1)), (4, (AVal.func x4f x4c)), (11, (AVal.int .i64 x11)), (12, (AVal.int .i64 (IntKind.wrap .i64 (x12 - (1 : Int)))))] h) else (some ((.exit 4), [(0, (AVal.slice x0)), (1, (AVal.int .i64 x1)), (4, (AVal.func x4f x4c)), (11, (AVal.int .i64 x11)), (12, (AVal.int .i64 x12))], h))) := by
  generalize hh : l_slices_partitionEqualCmpFunc_int_2 = R
  rw [l_slices_partitionEqualCmpFunc_int_2_is] at hh
  subst hh
  generalize hh : k_slices_partitionEqualCmpFunc_int_4 = R
  rw [k_slices_partitionEqualCmpFunc_int_4_is] at hh
  subst hh
  kernel_rfl

noncomputable def s_slices_partitionCmpFunc_int_0 (fuel d : Nat) : Run := fun fr h k => aexec (Cf fuel F_slices_partitionCmpFunc_int) false (acall (C fuel) false d) (acall (C fuel) true d) 178 (csub [true, true, true, false, false, false] (fbody Go.Proofs.Tryd.f96)) (asub [true, true, true, false, false, false] an96) fr h k

noncomputable def l_slices_partitionCmpFunc_int_0r (fuel d : Nat) (n : Nat) (fr : Fr) (h : AHeap) : Option (AExit × Fr × AHeap) := aloop (s_slices_partitionCmpFunc_int_0 fuel d) (some [0, 1, 4, 12, 13]) n fr h (kOut [0, 1, 4, 12, 13])

noncomputable def l_slices_partitionCmpFunc_int_0 : Nat → Nat → Nat → Fr → AHeap → Option (AExit × Fr × AHeap) := hide l_slices_partitionCmpFunc_int_0r

theorem l_slices_partitionCmpFunc_int_0_is : l_slices_partitionCmpFunc_int_0 = l_slices_partitionCmpFunc_int_0r := hide_eq _

noncomputable def k_slices_partitionCmpFunc_int_0r (fuel d : Nat) : AExit → Fr → AHeap → Option (AVal × AHeap) := (kBlock 0 (kSeq (Cf fuel F_slices_partitionCmpFunc_int) false (acall (C fuel) false d) (acall (C fuel) true d) 178 (csub [true, true, true, true] (fbody Go.Proofs.Tryd.f96)) (asub [true, true, true, true] an96) (kRet (Cf fuel F_slices_partitionCmpFunc_int) Go.Proofs.Tryd.f96.results.toList)))

noncomputable def k_slices_partitionCmpFunc_int_0 : Nat → Nat → AExit → Fr → AHeap → Option (AVal × AHeap) := hide k_slices_partitionCmpFunc_int_0r

theorem k_slices_partitionCmpFunc_int_0_is : k_slices_partitionCmpFunc_int_0 = k_slices_partitionCmpFunc_int_0r := hide_eq _

noncomputable def k_slices_partitionCmpFunc_int_1r (fuel d : Nat) (n : Nat) : AExit → Fr → AHeap → Option (AExit × Fr × AHeap) := (kSeq (Cf fuel F_slices_partitionCmpFunc_int) false (acall (C fuel) false d) (acall (C fuel) true d) 178 (csub [true, true, true, false, false, false, false, true] (fbody Go.Proofs.Tryd.f96)) (asub [true, true, true, false, false, false, false, true] an96) (kSeq (Cf fuel F_slices_partitionCmpFunc_int) false (acall (C fuel) false d) (acall (C fuel) true d) 178 (csub [true, true, true, false, false, false, true] (fbody Go.Proofs.Tryd.f96)) (asub [true, true, true, false, false, false, true] an96) (kLoop (s_slices_partitionCmpFunc_int_0 fuel d) (some [0, 1, 4, 12, 13]) n (kOut [0, 1, 4, 12, 13]))))

noncomputable def k_slices_partitionCmpFunc_int_1 : Nat → Nat → Nat → AExit → Fr → AHeap → Option (AExit × Fr × AHeap) := hide k_slices_partitionCmpFunc_int_1r

theorem k_slices_partitionCmpFunc_int_1_is : k_slices_partitionCmpFunc_int_1 = k_slices_partitionCmpFunc_int_1r := hide_eq _

noncomputable def s_slices_partitionCmpFunc_int_1 (fuel d : Nat) : Run := fun fr h k => aexec (Cf fuel F_slices_partitionCmpFunc_int) false (acall (C fuel) false d) (acall (C fuel) true d) 178 (csub [true, true, true, true, false, false, false] (fbody Go.Proofs.Tryd.f96)) (asub [true, true, true, true, false, false, false] an96) fr h k

noncomputable def l_slices_partitionCmpFunc_int_1r (fuel d : Nat) (n : Nat) (fr : Fr) (h : AHeap) : Option (AExit × Fr × AHeap) := aloop (s_slices_partitionCmpFunc_int_1 fuel d) (some [0, 1, 4, 12, 13]) n fr h (kOut [0, 1, 4, 12, 13])

noncomputable def l_slices_partitionCmpFunc_int_1 : Nat → Nat → Nat → Fr → AHeap → Option (AExit × Fr × AHeap) := hide l_slices_partitionCmpFunc_int_1r

theorem l_slices_partitionCmpFunc_int_1_is : l_slices_partitionCmpFunc_int_1 = l_slices_partitionCmpFunc_int_1r := hide_eq _

noncomputable def k_slices_partitionCmpFunc_int_2r (fuel d : Nat) : AExit → Fr → AHeap → Option (AVal × AHeap) := (kBlock 2 (kSeq (Cf fuel F_slices_partitionCmpFunc_int) false (acall (C fuel) false d) (acall (C fuel) true d) 178 (csub [true, true, true, true, true] (fbody Go.Proofs.Tryd.f96)) (asub [true, true, true, true, true] an96) (kRet (Cf fuel F_slices_partitionCmpFunc_int) Go.Proofs.Tryd.f96.results.toList)))

noncomputable def k_slices_partitionCmpFunc_int_2 : Nat → Nat → AExit → Fr → AHeap → Option (AVal × AHeap) := hide k_slices_partitionCmpFunc_int_2r

theorem k_slices_partitionCmpFunc_int_2_is : k_slices_partitionCmpFunc_int_2 = k_slices_partitionCmpFunc_int_2r := hide_eq _

noncomputable def k_slices_partitionCmpFunc_int_3r (fuel d : Nat) (n : Nat) : AExit → Fr → AHeap → Option (AExit × Fr × AHeap) := (kSeq (Cf fuel F_slices_partitionCmpFunc_int) false (acall (C fuel) false d) (acall (C fuel) true d) 178 (csub [true, true, true, true, false, false, false, false, true] (fbody Go.Proofs.Tryd.f96)) (asub [true, true, true, true, false, false, false, false, true] an96) (kSeq (Cf fuel F_slices_partitionCmpFunc_int) false (acall (C fuel) false d) (acall (C fuel) true d) 178 (csub [true, true, true, true, false, false, false, true] (fbody Go.Proofs.Tryd.f96)) (asub [true, true, true, true, false, false, false, true] an96) (kLoop (s_slices_partitionCmpFunc_int_1 fuel d) (some [0, 1, 4, 12, 13]) n (kOut [0, 1, 4, 12, 13]))))

noncomputable def k_slices_partitionCmpFunc_int_3 : Nat → Nat → Nat → AExit → Fr → AHeap → Option (AExit × Fr × AHeap) := hide k_slices_partitionCmpFunc_int_3r

theorem k_slices_partitionCmpFunc_int_3_is : k_slices_partitionCmpFunc_int_3 = k_slices_partitionCmpFunc_int_3r := hide_eq _

noncomputable def s_slices_partitionCmpFunc_int_2 (fuel d : Nat) : Run := fun fr h k => aexec (Cf fuel F_slices_partitionCmpFunc_int) false (acall (C fuel) false d) (acall (C fuel) true d) 178 (csub [true, true, true, true, true, true, true, true, true, false, false, false] (fbody Go.Proofs.Tryd.f96)) (asub [true, true, true, true, true, true, true, true, true, false, false, false] an96) fr h k

noncomputable def l_slices_partitionCmpFunc_int_2r (fuel d : Nat) (n : Nat) (fr : Fr) (h : AHeap) : Option (AExit × Fr × AHeap) := aloop (s_slices_partitionCmpFunc_int_2 fuel d) (some [0, 1, 4, 12, 13]) n fr h (kOut [0, 1, 13])

noncomputable def l_slices_partitionCmpFunc_int_2 : Nat → Nat → Nat → Fr → AHeap → Option (AExit × Fr × AHeap) := hide l_slices_partitionCmpFunc_int_2r

theorem l_slices_partitionCmpFunc_int_2_is : l_slices_partitionCmpFunc_int_2 = l_slices_partitionCmpFunc_int_2r := hide_eq _

noncomputable def k_slices_partitionCmpFunc_int_4r (fuel d : Nat) : AExit → Fr → AHeap → Option (AVal × AHeap) := (kBlock 4 (kSeq (Cf fuel F_slices_partitionCmpFunc_int) false (acall (C fuel) false d) (acall (C fuel) true d) 178 (csub [true, true, true, true, true, true, true, true, true, true] (fbody Go.Proofs.Tryd.f96)) (asub [true, true, true, true, true, true, true, true, true, true] an96) (kRet (Cf fuel F_slices_partitionCmpFunc_int) Go.Proofs.Tryd.f96.results.toList)))

noncomputable def k_slices_partitionCmpFunc_int_4 : Nat → Nat → AExit → Fr → AHeap → Option (AVal × AHeap) := hide k_slices_partitionCmpFunc_int_4r

theorem k_slices_partitionCmpFunc_int_4_is : k_slices_partitionCmpFunc_int_4 = k_slices_partitionCmpFunc_int_4r := hide_eq _

noncomputable def s_slices_partitionCmpFunc_int_3 (fuel d : Nat) : Run := fun fr h k => aexec (Cf fuel F_slices_partitionCmpFunc_int) false (acall (C fuel) false d) (acall (C fuel) true d) 178 (csub [true, true, true, true, true, true, true, true, true, false, false, false, false, false, false, false] (fbody Go.Proofs.Tryd.f96)) (asub [true, true, true, true, true, true, true, true, true, false, false, false, false, false, false, false] an96) fr h k

noncomputable def l_slices_partitionCmpFunc_int_3r (fuel d : Nat) (n : Nat) (fr : Fr) (h : AHeap) : Option (AExit × Fr × AHeap) := aloop (s_slices_partitionCmpFunc_int_3 fuel d) (some [0, 1, 4, 12, 13]) n fr h (kOut [0, 1, 4, 12, 13])

noncomputable def l_slices_partitionCmpFunc_int_3 : Nat → Nat → Nat → Fr → AHeap → Option (AExit × Fr × AHeap) := hide l_slices_partitionCmpFunc_int_3r

theorem l_slices_partitionCmpFunc_int_3_is : l_slices_partitionCmpFunc_int_3 = l_slices_partitionCmpFunc_int_3r := hide_eq _

noncomputable def k_slices_partitionCmpFunc_int_5r (fuel d : Nat) (n : Nat) : AExit → Fr → AHeap → Option (AExit × Fr × AHeap) := (kBlock 6 (kSeq (Cf fuel F_slices_partitionCmpFunc_int) false (acall (C fuel) false d) (acall (C fuel) true d) 178 (csub [true, true, true, true, true, true, true, true, true, false, false, false, false, true] (fbody Go.Proofs.Tryd.f96)) (asub [true, true, true, true, true, true, true, true, true, false, false, false, false, true] an96) (kBlock 5 (kLoop (s_slices_partitionCmpFunc_int_2 fuel d) (some [0, 1, 4, 12, 13]) n (kOut [0, 1, 13])))))

noncomputable def k_slices_partitionCmpFunc_int_5 : Nat → Nat → Nat → AExit → Fr → AHeap → Option (AExit × Fr × AHeap) := hide k_slices_partitionCmpFunc_int_5r

theorem k_slices_partitionCmpFunc_int_5_is : k_slices_partitionCmpFunc_int_5 = k_slices_partitionCmpFunc_int_5r := hide_eq _

noncomputable def k_slices_partitionCmpFunc_int_6r (fuel d : Nat) (n : Nat) : AExit → Fr → AHeap → Option (AExit × Fr × AHeap) := (kSeq (Cf fuel F_slices_partitionCmpFunc_int) false (acall (C fuel) false d) (acall (C fuel) true d) 178 (csub [true, true, true, true, true, true, true, true, true, false, false, false, false, false, false, false, false, true] (fbody Go.Proofs.Tryd.f96)) (asub [true, true, true, true, true, true, true, true, true, false, false, false, false, false, false, false, false, true] an96) (kSeq (Cf fuel F_slices_partitionCmpFunc_int) false (acall (C fuel) false d) (acall (C fuel) true d) 178 (csub [true, true, true, true, true, true, true, true, true, false, false, false, false, false, false, false, true] (fbody Go.Proofs.Tryd.f96)) (asub [true, true, true, true, true, true, true, true, true, false, false, false, false, false, false, false, true] an96) (kLoop (s_slices_partitionCmpFunc_int_3 fuel d) (some [0, 1, 4, 12, 13]) n (kOut [0, 1, 4, 12, 13]))))

noncomputable def k_slices_partitionCmpFunc_int_6 : Nat → Nat → Nat → AExit → Fr → AHeap → Option (AExit × Fr × AHeap) := hide k_slices_partitionCmpFunc_int_6r

theorem k_slices_partitionCmpFunc_int_6_is : k_slices_partitionCmpFunc_int_6 = k_slices_partitionCmpFunc_int_6r := hide_eq _

noncomputable def s_slices_partitionCmpFunc_int_4 (fuel d : Nat) : Run := fun fr h k => aexec (Cf fuel F_slices_partitionCmpFunc_int) false (acall (C fuel) false d) (acall (C fuel) true d) 178 (csub [true, true, true, true, true, true, true, true, true, false, false, false, false, true, false, false, false] (fbody Go.Proofs.Tryd.f96)) (asub [true, true, true, true, true, true, true, true, true, false, false, false, false, true, false, false, false] an96) fr h k

noncomputable def l_slices_partitionCmpFunc_int_4r (fuel d : Nat) (n : Nat) (fr : Fr) (h : AHeap) : Option (AExit × Fr × AHeap) := aloop (s_slices_partitionCmpFunc_int_4 fuel d) (some [0, 1, 4, 12, 13]) n fr h (kOut [0, 1, 4, 12, 13])

noncomputable def l_slices_partitionCmpFunc_int_4 : Nat → Nat → Nat → Fr → AHeap → Option (AExit × Fr × AHeap) := hide l_slices_partitionCmpFunc_int_4r

theorem l_slices_partitionCmpFunc_int_4_is : l_slices_partitionCmpFunc_int_4 = l_slices_partitionCmpFunc_int_4r := hide_eq _

noncomputable def k_slices_partitionCmpFunc_int_7r (fuel d : Nat) (n : Nat) : AExit → Fr → AHeap → Option (AExit × Fr × AHeap) := (kBlock 8 (kSeq (Cf fuel F_slices_partitionCmpFunc_int) false (acall (C fuel) false d) (acall (C fuel) true d) 178 (csub [true, true, true, true, true, true, true, true, true, false, false, false, false, true, true] (fbody Go.Proofs.Tryd.f96)) (asub [true, true, true, true, true, true, true, true, true, false, false, false, false, true, true] an96) (kBlock 5 (kLoop (s_slices_partitionCmpFunc_int_2 fuel d) (some [0, 1, 4, 12, 13]) n (kOut [0, 1, 13])))))

noncomputable def k_slices_partitionCmpFunc_int_7 : Nat → Nat → Nat → AExit → Fr → AHeap → Option (AExit × Fr × AHeap) := hide k_slices_partitionCmpFunc_int_7r

theorem k_slices_partitionCmpFunc_int_7_is : k_slices_partitionCmpFunc_int_7 = k_slices_partitionCmpFunc_int_7r := hide_eq _

noncomputable def k_slices_partitionCmpFunc_int_8r (fuel d : Nat) (n : Nat) : AExit → Fr → AHeap → Option (AExit × Fr × AHeap) := (kSeq (Cf fuel F_slices_partitionCmpFunc_int) false (acall (C fuel) false d) (acall (C fuel) true d) 178 (csub [true, true, true, true, true, true, true, true, true, false, false, false, false, true, false, false, false, false, true] (fbody Go.Proofs.Tryd.f96)) (asub [true, true, true, true, true, true, true, true, true, false, false, false, false, true, false, false, false, false, true] an96) (kSeq (Cf fuel F_slices_partitionCmpFunc_int) false (acall (C fuel) false d) (acall (C fuel) true d) 178 (csub [true, true, true, true, true, true, true, true, true, false, false, false, false, true, false, false, false, true] (fbody Go.Proofs.Tryd.f96)) (asub [true, true, true, true, true, true, true, true, true, false, false, false, false, true, false, false, false, true] an96) (kLoop (s_slices_partitionCmpFunc_int_4 fuel d) (some [0, 1, 4, 12, 13]) n (kOut [0, 1, 4, 12, 13]))))

noncomputable def k_slices_partitionCmpFunc_int_8 : Nat → Nat → Nat → AExit → Fr → AHeap → Option (AExit × Fr × AHeap) := hide k_slices_partitionCmpFunc_int_8r

theorem k_slices_partitionCmpFunc_int_8_is : k_slices_partitionCmpFunc_int_8 = k_slices_partitionCmpFunc_int_8r := hide_eq _

theorem e_slices_partitionCmpFunc_int (fuel d : Nat) (x0 : Sl) (x1 : Int) (x2 : Int) (x3 : Int) (x4f : Nat) (x4c : List Pt) (h : AHeap) :
    run fuel (d + 1) F_slices_partitionCmpFunc_int [(AVal.slice x0), (AVal.int .i64 x1), (AVal.int .i64 x2), (AVal.int .i64 x3), (AVal.func x4f x4c)] h =
  (AHeap.addr h 1 x0 x3).bind fun p1 =>
    (AHeap.cell h p1).bind fun u2 =>
    (AVal.int? .i64 u2).bind fun n3 =>
    (AHeap.addr h 1 x0 x1).bind fun p4 =>
    (AHeap.cell h p4).bind fun u5 =>
    (AVal.int? .i64 u5).bind fun n6 =>
    (AHeap.addr h 1 x0 x1).bind fun p7 =>
    (AHeap.storeAt h [(AVal.int .i64 n3)] p7).bind fun h8 =>
    (AHeap.addr h8 1 x0 x3).bind fun p9 =>
    (AHeap.storeAt h8 [(AVal.int .i64 n6)] p9).bind fun h10 =>
    (l_slices_partitionCmpFunc_int_0 fuel d fuel [(0, (AVal.slice x0)), (1, (AVal.int .i64 x1)), (4, (AVal.func x4f x4c)), (12, (AVal.int .i64 (IntKind.wrap .i64 (x1 + (1 : Int))))), (13, (AVal.int .i64 (IntKind.wrap .i64 (x2 - (1 : Int)))))] h10).bind fun p11 =>
    k_slices_partitionCmpFunc_int_0 fuel d p11.1 p11.2.1 p11.2.2 := by
  generalize hh : run = R
  rw [run_is] at hh
  subst hh
  generalize hh : l_slices_partitionCmpFunc_int_0 = R
  rw [l_slices_partitionCmpFunc_int_0_is] at hh
  subst hh
  generalize hh : k_slices_partitionCmpFunc_int_0 = R
  rw [k_slices_partitionCmpFunc_int_0_is] at hh
  subst hh
  kernel_rfl

theorem l_slices_partitionCmpFunc_int_0_eq (fuel d : Nat) (n : Nat) (x0 : Sl) (x1 : Int) (x4f : Nat) (x4c : List Pt) (x12 : Int) (x13 : Int) (h : AHeap) :
    l_slices_partitionCmpFunc_int_0 fuel d (n + 1) [(0, (AVal.slice x0)), (1, (AVal.int .i64 x1)), (4, (AVal.func x4f x4c)), (12, (AVal.int .i64 x12)), (13, (AVal.int .i64 x13))] h =
  ((bif (decide (x12 ≤ x13)) then ((AHeap.addr h 1 x0 x12).bind fun p1 =>
    (AHeap.cell h p1).bind fun u2 =>
    (AVal.int? .i64 u2).bind fun n3 =>
    (AHeap.addr h 1 x0 x1).bind fun p4 =>
    (AHeap.cell h p4).bind fun u5 =>
    (AVal.int? .i64 u5).bind fun n6 =>
    (run fuel d x4f ([(AVal.int .i64 n3), (AVal.int .i64 n6)] ++ List.map AVal.ptr x4c) h).bind fun r7 =>
    (AVal.int? .i64 r7.1).bind fun n8 =>
    some (.normal, [(0, (AVal.slice x0)), (1, (AVal.int .i64 x1)), (4, (AVal.func x4f x4c)), (12, (AVal.int .i64 x12)), (13, (AVal.int .i64 x13)), (47, (AVal.bool (decide (n8 < (0 : Int)))))], r7.2)) else (some (.normal, [(0, (AVal.slice x0)), (1, (AVal.int .i64 x1)), (4, (AVal.func x4f x4c)), (12, (AVal.int .i64 x12)), (13, (AVal.int .i64 x13)), (47, (AVal.bool false))], h)))).bind fun p9 =>
    k_slices_partitionCmpFunc_int_1 fuel d n p9.1 p9.2.1 p9.2.2 := by
  generalize hh : run = R
  rw [run_is] at hh
  subst hh
  generalize hh : l_slices_partitionCmpFunc_int_0 = R
  rw [l_slices_partitionCmpFunc_int_0_is] at hh
  subst hh
  generalize hh : k_slices_partitionCmpFunc_int_1 = R
  rw [k_slices_partitionCmpFunc_int_1_is] at hh
  subst hh
  kernel_rfl

theorem k_slices_partitionCmpFunc_int_0_x0 (fuel d : Nat) (x0 : Sl) (x1 : Int) (x4f : Nat) (x4c : List Pt) (x12 : Int) (x13 : Int) (h : AHeap) :
    k_slices_partitionCmpFunc_int_0 fuel d (.exit 0) [(0, (AVal.slice x0)), (1, (AVal.int .i64 x1)), (4, (AVal.func x4f x4c)), (12, (AVal.int .i64 x12)), (13, (AVal.int .i64 x13))] h =
  (l_slices_partitionCmpFunc_int_1 fuel d fuel [(0, (AVal.slice x0)), (1, (AVal.int .i64 x1)), (4, (AVal.func x4f x4c)), (12, (AVal.int .i64 x12)), (13, (AVal.int .i64 x13))] h).bind fun p1 =>
    k_slices_partitionCmpFunc_int_2 fuel d p1.1 p1.2.1 p1.2.2 := by
  generalize hh : k_slices_partitionCmpFunc_int_0 = R
  rw [k_slices_partitionCmpFunc_int_0_is] at hh
  subst hh
  generalize hh : l_slices_partitionCmpFunc_int_1 = R
  rw [l_slices_partitionCmpFunc_int_1_is] at hh
  subst hh
  generalize hh : k_slices_partitionCmpFunc_int_2 = R
  rw [k_slices_partitionCmpFunc_int_2_is] at hh
  subst hh
  kernel_rfl

theorem k_slices_partitionCmpFunc_int_1_n (fuel d : Nat) (n : Nat) (x0 : Sl) (x1 : Int) (x4f : Nat) (x4c : List Pt) (x12 : Int) (x13 : Int) (x47 : Bool) (h : AHeap) :
    k_slices_partitionCmpFunc_int_1 fuel d n .normal [(0, (AVal.slice x0)), (1, (AVal.int .i64 x1)), (4, (AVal.func x4f x4c)), (12, (AVal.int .i64 x12)), (13, (AVal.int .i64 x13)), (47, (AVal.bool x47))] h =
  (bif x47 then (l_slices_partitionCmpFunc_int_0 fuel d n [(0, (AVal.slice x0)), (1, (AVal.int .i64 x1)), (4, (AVal.func x4f x4c)), (12, (AVal.int .i64 (IntKind.wrap .i64 (x12 + (1 : Int))))), (13, (AVal.int .i64 x13))] h) else (some ((.exit 0), [(0, (AVal.slice x0)), (1, (AVal.int .i64 x1)), (4, (AVal.func x4f x4c)), (12, (AVal.int .i64 x12)), (13, (AVal.int .i64 x13))], h))) := by
  generalize hh : l_slices_partitionCmpFunc_int_0 = R
  rw [l_slices_partitionCmpFunc_int_0_is] at hh
  subst hh
  generalize hh : k_slices_partitionCmpFunc_int_1 = R
  rw [k_slices_partitionCmpFunc_int_1_is] at hh
  subst hh
  kernel_rfl

theorem l_slices_partitionCmpFunc_int_1_eq (fuel d : Nat) (n : Nat) (x0 : Sl) (x1 : Int) (x4f : Nat) (x4c : List Pt) (x12 : Int) (x13 : Int) (h : AHeap) :
    l_slices_partitionCmpFunc_int_1 fuel d (n + 1) [(0, (AVal.slice x0)), (1, (AVal.int .i64 x1)), (4, (AVal.func x4f x4c)), (12, (AVal.int .i64 x12)), (13, (AVal.int .i64 x13))] h =
  ((bif (decide (x12 ≤ x13)) then ((AHeap.addr h 1 x0 x13).bind fun p1 =>
    (AHeap.cell h p1).bind fun u2 =>
    (AVal.int? .i64 u2).bind fun n3 =>
    (AHeap.addr h 1 x0 x1).bind fun p4 =>
    (AHeap.cell h p4).bind fun u5 =>
    (AVal.int? .i64 u5).bind fun n6 =>
    (run fuel d x4f ([(AVal.int .i64 n3), (AVal.int .i64 n6)] ++ List.map AVal.ptr x4c) h).bind fun r7 =>
    (AVal.int? .i64 r7.1).bind fun n8 =>
    some (.normal, [(0, (AVal.slice x0)), (1, (AVal.int .i64 x1)), (4, (AVal.func x4f x4c)), (12, (AVal.int .i64 x12)), (13, (AVal.int .i64 x13)), (66, (AVal.bool (!(decide (n8 < (0 : Int))))))], r7.2)) else (some (.normal, [(0, (AVal.slice x0)), (1, (AVal.int .i64 x1)), (4, (AVal.func x4f x4c)), (12, (AVal.int .i64 x12)), (13, (AVal.int .i64 x13)), (66, (AVal.bool false))], h)))).bind fun p9 =>
    k_slices_partitionCmpFunc_int_3 fuel d n p9.1 p9.2.1 p9.2.2 := by
  generalize hh : run = R
  rw [run_is] at hh
  subst hh
  generalize hh : l_slices_partitionCmpFunc_int_1 = R
  rw [l_slices_partitionCmpFunc_int_1_is] at hh
  subst hh
  generalize hh : k_slices_partitionCmpFunc_int_3 = R
  rw [k_slices_partitionCmpFunc_int_3_is] at hh
  subst hh
  kernel_rfl

theorem k_slices_partitionCmpFunc_int_2_x2 (fuel d : Nat) (x0 : Sl) (x1 : Int) (x4f : Nat) (x4c : List Pt) (x12 : Int) (x13 : Int) (h : AHeap) :
    k_slices_partitionCmpFunc_int_2 fuel d (.exit 2) [(0, (AVal.slice x0)), (1, (AVal.int .i64 x1)), (4, (AVal.func x4f x4c)), (12, (AVal.int .i64 x12)), (13, (AVal.int .i64 x13))] h =
  (bif (decide (x13 < x12)) then ((AHeap.addr h 1 x0 x1).bind fun p1 =>
    (AHeap.cell h p1).bind fun u2 =>
    (AVal.int? .i64 u2).bind fun n3 =>
    (AHeap.addr h 1 x0 x13).bind fun p4 =>
    (AHeap.cell h p4).bind fun u5 =>
    (AVal.int? .i64 u5).bind fun n6 =>
    (AHeap.addr h 1 x0 x13).bind fun p7 =>
    (AHeap.storeAt h [(AVal.int .i64 n3)] p7).bind fun h8 =>
    (AHeap.addr h8 1 x0 x1).bind fun p9 =>
    (AHeap.storeAt h8 [(AVal.int .i64 n6)] p9).bind fun h10 =>
    some ((AVal.tup [(AVal.int .i64 x13), (AVal.bool true)]), h10)) else ((AHeap.addr h 1 x0 x13).bind fun p11 =>
    (AHeap.cell h p11).bind fun u12 =>
    (AVal.int? .i64 u12).bind fun n13 =>
    (AHeap.addr h 1 x0 x12).bind fun p14 =>
    (AHeap.cell h p14).bind fun u15 =>
    (AVal.int? .i64 u15).bind fun n16 =>
    (AHeap.addr h 1 x0 x12).bind fun p17 =>
    (AHeap.storeAt h [(AVal.int .i64 n13)] p17).bind fun h18 =>
    (AHeap.addr h18 1 x0 x13).bind fun p19 =>
    (AHeap.storeAt h18 [(AVal.int .i64 n16)] p19).bind fun h20 =>
    (l_slices_partitionCmpFunc_int_2 fuel d fuel [(0, (AVal.slice x0)), (1, (AVal.int .i64 x1)), (4, (AVal.func x4f x4c)), (12, (AVal.int .i64 (IntKind.wrap .i64 (x12 + (1 : Int))))), (13, (AVal.int .i64 (IntKind.wrap .i64 (x13 - (1 : Int)))))] h20).bind fun p21 =>
    k_slices_partitionCmpFunc_int_4 fuel d p21.1 p21.2.1 p21.2.2)) := by
  generalize hh : k_slices_partitionCmpFunc_int_2 = R
  rw [k_slices_partitionCmpFunc_int_2_is] at hh
  subst hh
  generalize hh : l_slices_partitionCmpFunc_int_2 = R
  rw [l_slices_partitionCmpFunc_int_2_is] at hh
  subst hh
  generalize hh : k_slices_partitionCmpFunc_int_4 = R
  rw [k_slices_partitionCmpFunc_int_4_is] at hh
  subst hh
  kernel_rfl

theorem k_slices_partitionCmpFunc_int_3_n (fuel d : Nat) (n : Nat) (x0 : Sl) (x1 : Int) (x4f : Nat) (x4c : List Pt) (x12 : Int) (x13 : Int) (x66 : Bool) (h : AHeap) :
    k_slices_partitionCmpFunc_int_3 fuel d n .normal [(0, (AVal.slice x0)), (1, (AVal.int .i64 x1)), (4, (AVal.func x4f x4c)), (12, (AVal.int .i64 x12)), (13, (AVal.int .i64 x13)), (66, (AVal.bool x66))] h =
  (bif x66 then (l_slices_partitionCmpFunc_int_1 fuel d n [(0, (AVal.slice x0)), (1, (AVal.int .i64 x1)), (4, (AVal.func x4f x4c)), (12, (AVal.int .i64 x12)), (13, (AVal.int .i64 (IntKind.wrap .i64 (x13 - (1 : Int)))))] h) else (some ((.exit 2), [(0, (AVal.slice x0)), (1, (AVal.int .i64 x1)), (4, (AVal.func x4f x4c)), (12, (AVal.int .i64 x12)), (13, (AVal.int .i64 x13))], h))) := by
  generalize hh : l_slices_partitionCmpFunc_int_1 = R
  rw [l_slices_partitionCmpFunc_int_1_is] at hh
  subst hh
  generalize hh : k_slices_partitionCmpFunc_int_3 = R
  rw [k_slices_partitionCmpFunc_int_3_is] at hh
  subst hh
  kernel_rfl

theorem l_slices_partitionCmpFunc_int_2_eq (fuel d : Nat) (n : Nat) (x0 : Sl) (x1 : Int) (x4f : Nat) (x4c : List Pt) (x12 : Int) (x13 : Int) (h : AHeap) :
    l_slices_partitionCmpFunc_int_2 fuel d (n + 1) [(0, (AVal.slice x0)), (1, (AVal.int .i64 x1)), (4, (AVal.func x4f x4c)), (12, (AVal.int .i64 x12)), (13, (AVal.int .i64 x13))] h =
  (l_slices_partitionCmpFunc_int_3 fuel d fuel [(0, (AVal.slice x0)), (1, (AVal.int .i64 x1)), (4, (AVal.func x4f x4c)), (12, (AVal.int .i64 x12)), (13, (AVal.int .i64 x13))] h).bind fun p1 =>
    k_slices_partitionCmpFunc_int_5 fuel d n p1.1 p1.2.1 p1.2.2 := by
  generalize hh : l_slices_partitionCmpFunc_int_2 = R
  rw [l_slices_partitionCmpFunc_int_2_is] at hh
  subst hh
  generalize hh : l_slices_partitionCmpFunc_int_3 = R
  rw [l_slices_partitionCmpFunc_int_3_is] at hh
  subst hh
  generalize hh : k_slices_partitionCmpFunc_int_5 = R
  rw [k_slices_partitionCmpFunc_int_5_is] at hh
  subst hh
  kernel_rfl

theorem k_slices_partitionCmpFunc_int_4_x4 (fuel d : Nat) (x0 : Sl) (x1 : Int) (x13 : Int) (h : AHeap) :
    k_slices_partitionCmpFunc_int_4 fuel d (.exit 4) [(0, (AVal.slice x0)), (1, (AVal.int .i64 x1)), (13, (AVal.int .i64 x13))] h =
  (AHeap.addr h 1 x0 x1).bind fun p1 =>
    (AHeap.cell h p1).bind fun u2 =>
    (AVal.int? .i64 u2).bind fun n3 =>
    (AHeap.addr h 1 x0 x13).bind fun p4 =>
    (AHeap.cell h p4).bind fun u5 =>
    (AVal.int? .i64 u5).bind fun n6 =>
    (AHeap.addr h 1 x0 x13).bind fun p7 =>
    (AHeap.storeAt h [(AVal.int .i64 n3)] p7).bind fun h8 =>
    (AHeap.addr h8 1 x0 x1).bind fun p9 =>
    (AHeap.storeAt h8 [(AVal.int .i64 n6)] p9).bind fun h10 =>
    some ((AVal.tup [(AVal.int .i64 x13), (AVal.bool false)]), h10) := by
  generalize hh : k_slices_partitionCmpFunc_int_4 = R
  rw [k_slices_partitionCmpFunc_int_4_is] at hh
  subst hh
  kernel_rfl

theorem l_slices_partitionCmpFunc_int_3_eq (fuel d : Nat) (n : Nat) (x0 : Sl) (x1 : Int) (x4f : Nat) (x4c : List Pt) (x12 : Int) (x13 : Int) (h : AHeap) :
    l_slices_partitionCmpFunc_int_3 fuel d (n + 1) [(0, (AVal.slice x0)), (1, (AVal.int .i64 x1)), (4, (AVal.func x4f x4c)), (12, (AVal.int .i64 x12)), (13, (AVal.int .i64 x13))] h =
  ((bif (decide (x12 ≤ x13)) then ((AHeap.addr h 1 x0 x12).bind fun p1 =>
    (AHeap.cell h p1).bind fun u2 =>
    (AVal.int? .i64 u2).bind fun n3 =>
    (AHeap.addr h 1 x0 x1).bind fun p4 =>
    (AHeap.cell h p4).bind fun u5 =>
    (AVal.int? .i64 u5).bind fun n6 =>
    (run fuel d x4f ([(AVal.int .i64 n3), (AVal.int .i64 n6)] ++ List.map AVal.ptr x4c) h).bind fun r7 =>
    (AVal.int? .i64 r7.1).bind fun n8 =>
    some (.normal, [(0, (AVal.slice x0)), (1, (AVal.int .i64 x1)), (4, (AVal.func x4f x4c)), (12, (AVal.int .i64 x12)), (13, (AVal.int .i64 x13)), (120, (AVal.bool (decide (n8 < (0 : Int)))))], r7.2)) else (some (.normal, [(0, (AVal.slice x0)), (1, (AVal.int .i64 x1)), (4, (AVal.func x4f x4c)), (12, (AVal.int .i64 x12)), (13, (AVal.int .i64 x13)), (120, (AVal.bool false))], h)))).bind fun p9 =>
    k_slices_partitionCmpFunc_int_6 fuel d n p9.1 p9.2.1 p9.2.2 := by
  generalize hh : run = R
  rw [run_is] at hh
  subst hh
  generalize hh : l_slices_partitionCmpFunc_int_3 = R
  rw [l_slices_partitionCmpFunc_int_3_is] at hh
  subst hh
  generalize hh : k_slices_partitionCmpFunc_int_6 = R
  rw [k_slices_partitionCmpFunc_int_6_is] at hh
  subst hh
  kernel_rfl

theorem k_slices_partitionCmpFunc_int_5_x6 (fuel d : Nat) (n : Nat) (x0 : Sl) (x1 : Int) (x4f : Nat) (x4c : List Pt) (x12 : Int) (x13 : Int) (h : AHeap) :
    k_slices_partitionCmpFunc_int_5 fuel d n (.exit 6) [(0, (AVal.slice x0)), (1, (AVal.int .i64 x1)), (4, (AVal.func x4f x4c)), (12, (AVal.int .i64 x12)), (13, (AVal.int .i64 x13))] h =
  (l_slices_partitionCmpFunc_int_4 fuel d fuel [(0, (AVal.slice x0)), (1, (AVal.int .i64 x1)), (4, (AVal.func x4f x4c)), (12, (AVal.int .i64 x12)), (13, (AVal.int .i64 x13))] h).bind fun p1 =>
    k_slices_partitionCmpFunc_int_7 fuel d n p1.1 p1.2.1 p1.2.2 := by
  generalize hh : k_slices_partitionCmpFunc_int_5 = R
  rw [k_slices_partitionCmpFunc_int_5_is] at hh
  subst hh
  generalize hh : l_slices_partitionCmpFunc_int_4 = R
  rw [l_slices_partitionCmpFunc_int_4_is] at hh
  subst hh
  generalize hh : k_slices_partitionCmpFunc_int_7 = R
  rw [k_slices_partitionCmpFunc_int_7_is] at hh
  subst hh
  kernel_rfl

theorem k_slices_partitionCmpFunc_int_6_n (fuel d : Nat) (n : Nat) (x0 : Sl) (x1 : Int) (x4f : Nat) (x4c : List Pt) (x12 : Int) (x13 : Int) (x120 : Bool) (h : AHeap) :
    k_slices_partitionCmpFunc_int_6 fuel d n .normal [(0, (AVal.slice x0)), (1, (AVal.int .i64 x1)), (4, (AVal.func x4f x4c)), (12, (AVal.int .i64 x12)), (13, (AVal.int .i64 x13)), (120, (AVal.bool x120))] h =
  (bif x120 then (l_slices_partitionCmpFunc_int_3 fuel d n [(0, (AVal.slice x0)), (1, (AVal.int .i64 x1)), (4, (AVal.func x4f x4c)), (12, (AVal.int .i64 (IntKind.wrap .i64 (x12 + (1 : Int))))), (13, (AVal.int .i64 x13))] h) else (some ((.exit 6), [(0, (AVal.slice x0)), (1, (AVal.int .i64 x1)), (4, (AVal.func x4f x4c)), (12, (AVal.int .i64 x12)), (13, (AVal.int .i64 x13))], h))) := by
  generalize hh : l_slices_partitionCmpFunc_int_3 = R
  rw [l_slices_partitionCmpFunc_int_3_is] at hh
  subst hh
  generalize hh : k_slices_partitionCmpFunc_int_6 = R
  rw [k_slices_partitionCmpFunc_int_6_is] at hh
  subst hh
  kernel_rfl

theorem l_slices_partitionCmpFunc_int_4_eq (fuel d : Nat) (n : Nat) (x0 : Sl) (x1 : Int) (x4f : Nat) (x4c : List Pt) (x12 : Int) (x13 : Int) (h : AHeap) :
    l_slices_partitionCmpFunc_int_4 fuel d (n + 1) [(0, (AVal.slice x0)), (1, (AVal.int .i64 x1)), (4, (AVal.func x4f x4c)), (12, (AVal.int .i64 x12)), (13, (AVal.int .i64 x13))] h =
  ((bif (decide (x12 ≤ x13)) then ((AHeap.addr h 1 x0 x13).bind fun p1 =>
    (AHeap.cell h p1).bind fun u2 =>
    (AVal.int? .i64 u2).bind fun n3 =>
    (AHeap.addr h 1 x0 x1).bind fun p4 =>
    (AHeap.cell h p4).bind fun u5 =>
    (AVal.int? .i64 u5).bind fun n6 =>
    (run fuel d x4f ([(AVal.int .i64 n3), (AVal.int .i64 n6)] ++ List.map AVal.ptr x4c) h).bind fun r7 =>
    (AVal.int? .i64 r7.1).bind fun n8 =>
    some (.normal, [(0, (AVal.slice x0)), (1, (AVal.int .i64 x1)), (4, (AVal.func x4f x4c)), (12, (AVal.int .i64 x12)), (13, (AVal.int .i64 x13)), (139, (AVal.bool (!(decide (n8 < (0 : Int))))))], r7.2)) else (some (.normal, [(0, (AVal.slice x0)), (1, (AVal.int .i64 x1)), (4, (AVal.func x4f x4c)), (12, (AVal.int .i64 x12)), (13, (AVal.int .i64 x13)), (139, (AVal.bool false))], h)))).bind fun p9 =>
    k_slices_partitionCmpFunc_int_8 fuel d n p9.1 p9.2.1 p9.2.2 := by
  generalize hh : run = R
  rw [run_is] at hh
  subst hh
  generalize hh : l_slices_partitionCmpFunc_int_4 = R
  rw [l_slices_partitionCmpFunc_int_4_is] at hh
  subst hh
  generalize hh : k_slices_partitionCmpFunc_int_8 = R
  rw [k_slices_partitionCmpFunc_int_8_is] at hh
  subst hh
  kernel_rfl

theorem k_slices_partitionCmpFunc_int_7_x8 (fuel d : Nat) (n : Nat) (x0 : Sl) (x1 : Int) (x4f : Nat) (x4c : List Pt) (x12 : Int) (x13 : Int) (h : AHeap) :
    k_slices_partitionCmpFunc_int_7 fuel d n (.exit 8) [(0, (AVal.slice x0)), (1, (AVal.int .i64 x1)), (4, (AVal.func x4f x4c)), (12, (AVal.int .i64 x12)), (13, (AVal.int .i64 x13))] h =
  (bif (decide (x13 < x12)) then (some ((.exit 4), [(0, (AVal.slice x0)), (1, (AVal.int .i64 x1)), (13, (AVal.int .i64 x13))], h)) else ((AHeap.addr h 1 x0 x13).bind fun p1 =>
    (AHeap.cell h p1).bind fun u2 =>
    (AVal.int? .i64 u2).bind fun n3 =>
    (AHeap.addr h 1 x0 x12).bind fun p4 =>
    (AHeap.cell h p4).bind fun u5 =>
    (AVal.int? .i64 u5).bind fun n6 =>
    (AHeap.addr h 1 x0 x12).bind fun p7 =>
    (AHeap.storeAt h [(AVal.int .i64 n3)] p7).bind fun h8 =>
    (AHeap.addr h8 1 x0 x13).bind fun p9 =>
    (AHeap.storeAt h8 [(AVal.int .i64 n6)] p9).bind fun h10 =>
    l_slices_partitionCmpFunc_int_2 fuel d n [(0, (AVal.slice x0)), (1, (AVal.int .i64 x1)), (4, (AVal.func x4f x4c)), (12, (AVal.int .i64 (IntKind.wrap .i64 (x12 + (1 : Int))))), (13, (AVal.int .i64 (IntKind.wrap .i64 (x13 - (1 : Int)))))] h10)) := by
  generalize hh : l_slices_partitionCmpFunc_int_2 = R
  rw [l_slices_partitionCmpFunc_int_2_is] at hh
  subst hh
  generalize hh : k_slices_partitionCmpFunc_int_7 = R
  rw [k_slices_partitionCmpFunc_int_7_is] at hh
  subst hh
  kernel_rfl

theorem k_slices_partitionCmpFunc_int_8_n (fuel d : Nat) (n : Nat) (x0 : Sl) (x1 : Int) (x4f : Nat) (x4c : List Pt) (x12 : Int) (x13 : Int) (x139 : Bool) (h : AHeap) :
    k_slices_partitionCmpFunc_int_8 fuel d n .normal [(0, (AVal.slice x0)), (1, (AVal.int .i64 x1)), (4, (AVal.func x4f x4c)), (12, (AVal.int .i64 x12)), (13, (AVal.int .i64 x13)), (139, (AVal.bool x139))] h =
  (bif x139 then (l_slices_partitionCmpFunc_int_4 fuel d n [(0, (AVal.slice x0)), (1, (AVal.int .i64 x1)), (4, (AVal.func x4f x4c)), (12, (AVal.int .i64 x12)), (13, (AVal.int .i64 (IntKind.wrap .i64 (x13 - (1 : Int)))))] h) else (some ((.exit 8), [(0, (AVal.slice x0)), (1, (AVal.int .i64 x1)), (4, (AVal.func x4f x4c)), (12, (AVal.int .i64 x12)), (13, (AVal.int .i64 x13))], h))) := by
  generalize hh : l_slices_partitionCmpFunc_int_4 = R
  rw [l_slices_partitionCmpFunc_int_4_is] at hh
  subst hh
  generalize hh : k_slices_partitionCmpFunc_int_8 = R
  rw [k_slices_partitionCmpFunc_int_8_is] at hh
  subst hh
  kernel_rfl

noncomputable def k_bits_Len64_0r (fuel d : Nat) : AExit → Fr → AHeap → Option (AVal × AHeap) := (kSeq (Cf fuel F_bits_Len64) false (acall (C fuel) false d) (acall (C fuel) true d) 25 (csub [true, true] (fbody Go.Proofs.Tryd.f98)) (asub [true, true] an98) (kRet (Cf fuel F_bits_Len64) Go.Proofs.Tryd.f98.results.toList))

noncomputable def k_bits_Len64_0 : Nat → Nat → AExit → Fr → AHeap → Option (AVal × AHeap) := hide k_bits_Len64_0r

theorem k_bits_Len64_0_is : k_bits_Len64_0 = k_bits_Len64_0r := hide_eq _

noncomputable def k_bits_Len64_1r (fuel d : Nat) : AExit → Fr → AHeap → Option (AVal × AHeap) := (kSeq (Cf fuel F_bits_Len64) false (acall (C fuel) false d) (acall (C fuel) true d) 25 (csub [true, true, true] (fbody Go.Proofs.Tryd.f98)) (asub [true, true, true] an98) (kRet (Cf fuel F_bits_Len64) Go.Proofs.Tryd.f98.results.toList))

noncomputable def k_bits_Len64_1 : Nat → Nat → AExit → Fr → AHeap → Option (AVal × AHeap) := hide k_bits_Len64_1r

theorem k_bits_Len64_1_is : k_bits_Len64_1 = k_bits_Len64_1r := hide_eq _

noncomputable def k_bits_Len64_2r (fuel d : Nat) : AExit → Fr → AHeap → Option (AVal × AHeap) := (kSeq (Cf fuel F_bits_Len64) false (acall (C fuel) false d) (acall (C fuel) true d) 25 (csub [true, true, true, true] (fbody Go.Proofs.Tryd.f98)) (asub [true, true, true, true] an98) (kRet (Cf fuel F_bits_Len64) Go.Proofs.Tryd.f98.results.toList))

noncomputable def k_bits_Len64_2 : Nat → Nat → AExit → Fr → AHeap → Option (AVal × AHeap) := hide k_bits_Len64_2r

end Go.Proofs.YtdmbfmgebgdfnaaDoor
