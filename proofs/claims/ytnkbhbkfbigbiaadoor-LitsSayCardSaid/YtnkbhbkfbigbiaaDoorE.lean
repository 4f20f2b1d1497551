/-
  What each function does: printed by program, checked by the kernel.
-/
import Derived.Test.YtnkbhbkfbigbiaaDoorCtx
namespace Go.Proofs.YtnkbhbkfbigbiaaDoor
set_option linter.unusedVariables false
set_option maxRecDepth 100000

/-! 4: skolem/skolemlaw1.LitsSay -/

noncomputable def k_skolemlaw1_LitsSay_0r (fuel d : Nat) : AExit → Fr → AHeap → Option (AVal × AHeap) := (kSeq (Cf fuel F_skolemlaw1_LitsSay) false (acall (C fuel) false d) (acall (C fuel) true d) 153 (csub [true, true, true, true, true, true, true, true, true] (fbody Go.Proofs.Tryd.f4)) (asub [true, true, true, true, true, true, true, true, true] an4) (kRet (Cf fuel F_skolemlaw1_LitsSay) Go.Proofs.Tryd.f4.results.toList))

noncomputable def k_skolemlaw1_LitsSay_0 : Nat → Nat → AExit → Fr → AHeap → Option (AVal × AHeap) := hide k_skolemlaw1_LitsSay_0r

theorem k_skolemlaw1_LitsSay_0_is : k_skolemlaw1_LitsSay_0 = k_skolemlaw1_LitsSay_0r := hide_eq _

theorem e_skolemlaw1_LitsSay (fuel d : Nat) (x0 : Int) (x1 : Int) (x2 : Sl) (x3 : Sl) (x4 : List AVal) (x5 : Sl) (h : AHeap) :
    run fuel (d + 1) F_skolemlaw1_LitsSay [(AVal.int .i64 x0), (AVal.int .i64 x1), (AVal.slice x2), (AVal.slice x3), (AVal.agg x4), (AVal.slice x5)] h =
  (bif (List.all x4 AVal.isCell) then ((run fuel d F_skolemlaw1_first [] (AHeap.push h 1 x4)).bind fun r1 =>
    (AVal.bool? r1.1).bind fun b2 =>
    (bif (!b2) then (some ((AVal.bool false), r1.2)) else (((bif ((bif (bif (decide ((60 : Int) < ((x2.len : Nat) : Int))) then true else (decide ((60 : Int) < ((x3.len : Nat) : Int)))) then true else (decide ((60 : Int) < ((x5.len : Nat) : Int)))) == false) then ((Pt.field 1 (Pt.mk ⟨AHeap.next h, 0, 0⟩ (List.length x4))).bind fun p3 =>
    (AHeap.cell r1.2 p3).bind fun u4 =>
    (AVal.slice? u4).bind fun s5 =>
    some ((AVal.bool (decide ((60 : Int) < ((s5.len : Nat) : Int)))), r1.2)) else (some ((AVal.bool true), r1.2)) : Option (AVal × AHeap))).bind fun r6 =>
    (AVal.bool? r6.1).bind fun b7 =>
    ((bif (b7 == false) then ((run fuel d F_skolemmake_Near [(AVal.slice x2)] r6.2).bind fun r8 =>
    (AVal.bool? r8.1).bind fun b9 =>
    some ((AVal.bool (!b9)), r8.2)) else (some ((AVal.bool true), r6.2)) : Option (AVal × AHeap))).bind fun r10 =>
    (AVal.bool? r10.1).bind fun b11 =>
    ((bif (b11 == false) then ((run fuel d F_skolemmake_Near [(AVal.slice x3)] r10.2).bind fun r12 =>
    (AVal.bool? r12.1).bind fun b13 =>
    some ((AVal.bool (!b13)), r12.2)) else (some ((AVal.bool true), r10.2)) : Option (AVal × AHeap))).bind fun r14 =>
    (AVal.bool? r14.1).bind fun b15 =>
    ((bif (b15 == false) then ((run fuel d F_skolemmake_Near [(AVal.slice x5)] r14.2).bind fun r16 =>
    (AVal.bool? r16.1).bind fun b17 =>
    some ((AVal.bool (!b17)), r16.2)) else (some ((AVal.bool true), r14.2)) : Option (AVal × AHeap))).bind fun r18 =>
    (AVal.bool? r18.1).bind fun b19 =>
    ((bif (b19 == false) then ((Pt.field 1 (Pt.mk ⟨AHeap.next h, 0, 0⟩ (List.length x4))).bind fun p20 =>
    (AHeap.cell r18.2 p20).bind fun u21 =>
    (AVal.slice? u21).bind fun s22 =>
    (run fuel d F_skolemmake_NearAll [(AVal.slice s22)] r18.2).bind fun r23 =>
    (AVal.bool? r23.1).bind fun b24 =>
    some ((AVal.bool (!b24)), r23.2)) else (some ((AVal.bool true), r18.2)) : Option (AVal × AHeap))).bind fun r25 =>
    (AVal.bool? r25.1).bind fun b26 =>
    ((bif (b26 == false) then ((Pt.field 1 (Pt.mk ⟨AHeap.next h, 0, 0⟩ (List.length x4))).bind fun p27 =>
    (AHeap.cell r25.2 p27).bind fun u28 =>
    (AVal.slice? u28).bind fun s29 =>
    (run fuel d F_skolemmake_Count [(AVal.slice s29)] r25.2).bind fun r30 =>
    (AVal.int? .i64 r30.1).bind fun n31 =>
    some ((AVal.bool (decide ((300 : Int) < n31))), r30.2)) else (some ((AVal.bool true), r25.2)) : Option (AVal × AHeap))).bind fun r32 =>
    (AVal.bool? r32.1).bind fun b33 =>
    ((bif (b33 == false) then ((run fuel d F_skolemmake_Near [(AVal.slice (Sl.lst 1 true [(AVal.int .i64 x0)]))] r32.2).bind fun r34 =>
    (AVal.bool? r34.1).bind fun b35 =>
    some ((AVal.bool (!b35)), r34.2)) else (some ((AVal.bool true), r32.2)) : Option (AVal × AHeap))).bind fun r36 =>
    (AVal.bool? r36.1).bind fun b37 =>
    (bif b37 then (some ((AVal.bool b2), r36.2)) else ((run fuel d F_lits_Norm [(AVal.slice x2)] r36.2).bind fun r38 =>
    (bif AVal.isTup 2 r38.1 then ((AVal.comp 0 r38.1).bind fun u39 =>
    (AVal.slice? u39).bind fun s40 =>
    (AVal.comp 1 r38.1).bind fun u41 =>
    (AVal.bool? u41).bind fun b42 =>
    (run fuel d F_skolemref1_Norm [(AVal.slice x2)] r38.2).bind fun r43 =>
    (bif AVal.isTup 2 r43.1 then ((AVal.comp 0 r43.1).bind fun u44 =>
    (AVal.slice? u44).bind fun s45 =>
    (AVal.comp 1 r43.1).bind fun u46 =>
    (AVal.bool? u46).bind fun b47 =>
    (run fuel d F_lits_Rename [(AVal.slice x3), (AVal.slice x5)] r43.2).bind fun r48 =>
    (bif AVal.isTup 2 r48.1 then ((AVal.comp 0 r48.1).bind fun u49 =>
    (AVal.slice? u49).bind fun s50 =>
    (AVal.comp 1 r48.1).bind fun u51 =>
    (AVal.bool? u51).bind fun b52 =>
    (run fuel d F_skolemref1_Rename [(AVal.slice x3), (AVal.slice x5)] r48.2).bind fun r53 =>
    (bif AVal.isTup 2 r53.1 then ((AVal.comp 0 r53.1).bind fun u54 =>
    (AVal.slice? u54).bind fun s55 =>
    (AVal.comp 1 r53.1).bind fun u56 =>
    (AVal.bool? u56).bind fun b57 =>
    ((bif b2 then ((run fuel d F_lits_Var [(AVal.int .i64 x0)] r53.2).bind fun r58 =>
    (AVal.int? .i64 r58.1).bind fun n59 =>
    (run fuel d F_skolemref_Abs [(AVal.int .i64 x0)] r58.2).bind fun r60 =>
    (AVal.int? .i64 r60.1).bind fun n61 =>
    (bif (decide (n59 = n61)) then ((run fuel d F_lits_Is [(AVal.int .i64 x0), (AVal.int .i64 x1)] r60.2).bind fun r62 =>
    (AVal.bool? r62.1).bind fun b63 =>
    (run fuel d F_skolemref1_Is [(AVal.int .i64 x0), (AVal.int .i64 x1)] r62.2).bind fun r64 =>
    (AVal.bool? r64.1).bind fun b65 =>
    (bif (b63 == b65) then ((run fuel d F_skolemref_SameInts [(AVal.slice s40), (AVal.slice s45)] r64.2).bind fun r66 =>
    (AVal.bool? r66.1).bind fun b67 =>
    (bif b67 then ((bif (b42 == b47) then ((AHeap.cellsAt r66.2 2 (Pt.mk ⟨AHeap.next h, 0, 0⟩ (List.length x4))).bind fun c68 =>
    (run fuel d F_lits_Check [(AVal.agg c68)] r66.2).bind fun r69 =>
    (AHeap.cellsAt r69.2 2 (Pt.mk ⟨AHeap.next h, 0, 0⟩ (List.length x4))).bind fun c70 =>
    same ((AHeap.cellsAt r66.2 2 (Pt.mk ⟨AHeap.next h, 0, 0⟩ (List.length x4))).bind fun c81 =>
    some ((AVal.agg c81), r66.2)) ((AVal.agg c70), r66.2) (
    (run fuel d F_skolemref1_CheckCNF [(AVal.agg c70)] r69.2).bind fun r71 =>
    (AVal.agg? r71.1).bind fun c72 =>
    (run fuel d F_skolemsee_Same [r69.1, (AVal.agg c72)] r71.2).bind fun r73 =>
    (AVal.bool? r73.1).bind fun b74 =>
    (bif b74 then ((run fuel d F_lits_Same [(AVal.slice x2), (AVal.slice x3)] r73.2).bind fun r75 =>
    (AVal.bool? r75.1).bind fun b76 =>
    (run fuel d F_skolemref1_SameClause [(AVal.slice x2), (AVal.slice x3)] r75.2).bind fun r77 =>
    (AVal.bool? r77.1).bind fun b78 =>
    (bif (b76 == b78) then ((run fuel d F_skolemref_SameInts [(AVal.slice s50), (AVal.slice s55)] r77.2).bind fun r79 =>
    (AVal.bool? r79.1).bind fun b80 =>
    (bif b80 then (some (.normal, [(12, (AVal.bool (b52 == b57)))], r79.2)) else (some (.normal, [(12, (AVal.bool false))], r79.2)))) else (some (.normal, [(12, (AVal.bool false))], r77.2)))) else (some (.normal, [(12, (AVal.bool false))], r73.2))))) else (some (.normal, [(12, (AVal.bool false))], r66.2)))) else (some (.normal, [(12, (AVal.bool false))], r66.2)))) else (some (.normal, [(12, (AVal.bool false))], r64.2)))) else (some (.normal, [(12, (AVal.bool false))], r60.2)))) else (some (.normal, [(12, (AVal.bool false))], r53.2)))).bind fun p82 =>
    k_skolemlaw1_LitsSay_0 fuel d p82.1 p82.2.1 p82.2.2) else none)) else none)) else none)) else none)))))) else (none)) := by
  generalize hh : run = R
  rw [run_is] at hh
  subst hh
  generalize hh : k_skolemlaw1_LitsSay_0 = R
  rw [k_skolemlaw1_LitsSay_0_is] at hh
  subst hh
  kernel_rfl

theorem k_skolemlaw1_LitsSay_0_n (fuel d : Nat) (x12 : Bool) (h : AHeap) :
    k_skolemlaw1_LitsSay_0 fuel d .normal [(12, (AVal.bool x12))] h =
  some ((AVal.bool x12), h) := by
  generalize hh : k_skolemlaw1_LitsSay_0 = R
  rw [k_skolemlaw1_LitsSay_0_is] at hh
  subst hh
  kernel_rfl

/-! 12: skolem/skolemlaw1.first -/

theorem e_skolemlaw1_first (fuel d : Nat)  (h : AHeap) :
    brun fuel (d + 1) F_skolemlaw1_first [] h =
  (run fuel d F_lits_Norm [(AVal.slice (Sl.lst 3 true [(AVal.int .i64 (2 : Int)), (AVal.int .i64 (-1 : Int)), (AVal.int .i64 (2 : Int))]))] h).bind fun r1 =>
    (bif AVal.isTup 2 r1.1 then ((AVal.comp 0 r1.1).bind fun u2 =>
    (AVal.slice? u2).bind fun s3 =>
    (AVal.comp 1 r1.1).bind fun u4 =>
    (AVal.bool? u4).bind fun b5 =>
    ((bif ((bif b5 then (decide (((s3.len : Nat) : Int) = (2 : Int))) else false) == true) then ((AHeap.addr r1.2 1 s3 (0 : Int)).bind fun p6 =>
    (AHeap.cell r1.2 p6).bind fun u7 =>
    (AVal.int? .i64 u7).bind fun n8 =>
    some ((AVal.bool (decide (n8 = (-1 : Int)))), r1.2)) else (some ((AVal.bool false), r1.2)) : Option (AVal × AHeap))).bind fun r9 =>
    (AVal.bool? r9.1).bind fun b10 =>
    ((bif (b10 == true) then ((AHeap.addr r9.2 1 s3 (1 : Int)).bind fun p11 =>
    (AHeap.cell r9.2 p11).bind fun u12 =>
    (AVal.int? .i64 u12).bind fun n13 =>
    some ((AVal.bool (decide (n13 = (2 : Int)))), r9.2)) else (some ((AVal.bool false), r9.2)) : Option (AVal × AHeap))).bind fun r14 =>
    (AVal.bool? r14.1).bind fun b15 =>
    some ((AVal.bool b15), r14.2)) else none) := by
  generalize hh : run = R
  rw [run_is] at hh
  subst hh
  generalize hh : brun = R
  rw [brun_is] at hh
  subst hh
  kernel_rfl

/-! 13: skolem/skolemmake.Near -/

noncomputable def s_skolemmake_Near_0 (fuel d : Nat) : Run := fun fr h k => aexec (Cf fuel F_skolemmake_Near) false (acall (C fuel) false d) (acall (C fuel) true d) 15 (csub [true, false, true, false, false] (fbody Go.Proofs.Tryd.f13)) (asub [true, false, true, false, false] an13) fr h k

noncomputable def l_skolemmake_Near_0r (fuel d : Nat) (n : Nat) (fr : Fr) (h : AHeap) : Option (AExit × Fr × AHeap) := aloop (s_skolemmake_Near_0 fuel d) (some [0, 3]) n fr h (kOut [2])

noncomputable def l_skolemmake_Near_0 : Nat → Nat → Nat → Fr → AHeap → Option (AExit × Fr × AHeap) := hide l_skolemmake_Near_0r

theorem l_skolemmake_Near_0_is : l_skolemmake_Near_0 = l_skolemmake_Near_0r := hide_eq _

noncomputable def k_skolemmake_Near_0r (fuel d : Nat) : AExit → Fr → AHeap → Option (AVal × AHeap) := (kBlock 0 (kSeq (Cf fuel F_skolemmake_Near) false (acall (C fuel) false d) (acall (C fuel) true d) 15 (csub [true, true] (fbody Go.Proofs.Tryd.f13)) (asub [true, true] an13) (kRet (Cf fuel F_skolemmake_Near) Go.Proofs.Tryd.f13.results.toList)))

noncomputable def k_skolemmake_Near_0 : Nat → Nat → AExit → Fr → AHeap → Option (AVal × AHeap) := hide k_skolemmake_Near_0r

theorem k_skolemmake_Near_0_is : k_skolemmake_Near_0 = k_skolemmake_Near_0r := hide_eq _

theorem e_skolemmake_Near (fuel d : Nat) (x0 : Sl) (h : AHeap) :
    brun fuel (d + 1) F_skolemmake_Near [(AVal.slice x0)] h =
  (l_skolemmake_Near_0 fuel d fuel [(0, (AVal.slice x0)), (3, (AVal.int .i64 (0 : Int)))] h).bind fun p1 =>
    k_skolemmake_Near_0 fuel d p1.1 p1.2.1 p1.2.2 := by
  generalize hh : brun = R
  rw [brun_is] at hh
  subst hh
  generalize hh : l_skolemmake_Near_0 = R
  rw [l_skolemmake_Near_0_is] at hh
  subst hh
  generalize hh : k_skolemmake_Near_0 = R
  rw [k_skolemmake_Near_0_is] at hh
  subst hh
  kernel_rfl

theorem l_skolemmake_Near_0_eq (fuel d : Nat) (n : Nat) (x0 : Sl) (x3 : Int) (h : AHeap) :
    l_skolemmake_Near_0 fuel d (n + 1) [(0, (AVal.slice x0)), (3, (AVal.int .i64 x3))] h =
  (bif (decide (x3 < ((x0.len : Nat) : Int))) then ((AHeap.addr h 1 x0 x3).bind fun p1 =>
    (AHeap.cell h p1).bind fun u2 =>
    (AVal.int? .i64 u2).bind fun n3 =>
    (bif (decide (n3 < (-1152921504606846976 : Int))) then (some (.ret, [(2, (AVal.bool false))], h)) else (l_skolemmake_Near_0 fuel d n [(0, (AVal.slice x0)), (3, (AVal.int .i64 (IntKind.wrap .i64 (x3 + (1 : Int)))))] h))) else (some ((.exit 0), [(2, AVal.bot)], h))) := by
  generalize hh : l_skolemmake_Near_0 = R
  rw [l_skolemmake_Near_0_is] at hh
  subst hh
  kernel_rfl

theorem l_skolemmake_Near_0_0 (fuel d : Nat) (fr : Fr) (h : AHeap) :
    l_skolemmake_Near_0 fuel d 0 fr h =
  none := by
  generalize hh : l_skolemmake_Near_0 = R
  rw [l_skolemmake_Near_0_is] at hh
  subst hh
  kernel_rfl

theorem k_skolemmake_Near_0_x0 (fuel d : Nat) (x2 : AVal) (h : AHeap) :
    k_skolemmake_Near_0 fuel d (.exit 0) [(2, x2)] h =
  some ((AVal.bool true), h) := by
  generalize hh : k_skolemmake_Near_0 = R
  rw [k_skolemmake_Near_0_is] at hh
  subst hh
  kernel_rfl

theorem k_skolemmake_Near_0_r (fuel d : Nat) (x2 : Bool) (h : AHeap) :
    k_skolemmake_Near_0 fuel d .ret [(2, (AVal.bool x2))] h =
  some ((AVal.bool x2), h) := by
  generalize hh : k_skolemmake_Near_0 = R
  rw [k_skolemmake_Near_0_is] at hh
  subst hh
  kernel_rfl

/-! 14: skolem/skolemsee.Same -/

theorem e_skolemsee_Same (fuel d : Nat) (x0 : AVal) (x1 : List AVal) (h : AHeap) :
    brun fuel (d + 1) F_skolemsee_Same [x0, (AVal.agg x1)] h =
  (bif (List.all x1 AVal.isCell) then ((run fuel d F_skolemsee_Fault [x0] (AHeap.push h 1 x1)).bind fun r1 =>
    (AVal.agg? r1.1).bind fun c2 =>
    (AHeap.cellsAt r1.2 3 (Pt.mk ⟨AHeap.next h, 0, 0⟩ (List.length x1))).bind fun c3 =>
    same ((AHeap.cellsAt (AHeap.push h 1 x1) 3 (Pt.mk ⟨AHeap.next h, 0, 0⟩ (List.length x1))).bind fun c6 =>
    some ((AVal.agg c6), (AHeap.push h 1 x1))) ((AVal.agg c3), (AHeap.push h 1 x1)) (
    (run fuel d F_skolemref_SameFault [(AVal.agg c2), (AVal.agg c3)] r1.2).bind fun r4 =>
    (AVal.bool? r4.1).bind fun b5 =>
    some ((AVal.bool b5), r4.2))) else (none)) := by
  generalize hh : run = R
  rw [run_is] at hh
  subst hh
  generalize hh : brun = R
  rw [brun_is] at hh
  subst hh
  kernel_rfl

/-! 15: skolem/lits.Check -/

noncomputable def s_lits_Check_0 (fuel d : Nat) : Run := fun fr h k => aexec (Cf fuel F_lits_Check) false (acall (C fuel) false d) (acall (C fuel) true d) 56 (csub [true, true, false, true, false, false] (fbody Go.Proofs.Tryd.f15)) (asub [true, true, false, true, false, false] an15) fr h k

noncomputable def l_lits_Check_0r (fuel d : Nat) (n : Nat) (fr : Fr) (h : AHeap) : Option (AExit × Fr × AHeap) := aloop (s_lits_Check_0 fuel d) (some [1, 3, 9, 10, 11]) n fr h (kOut [1, 3])

noncomputable def l_lits_Check_0 : Nat → Nat → Nat → Fr → AHeap → Option (AExit × Fr × AHeap) := hide l_lits_Check_0r

theorem l_lits_Check_0_is : l_lits_Check_0 = l_lits_Check_0r := hide_eq _

noncomputable def k_lits_Check_0r (fuel d : Nat) : AExit → Fr → AHeap → Option (AVal × AHeap) := (kBlock 0 (kSeq (Cf fuel F_lits_Check) false (acall (C fuel) false d) (acall (C fuel) true d) 56 (csub [true, true, true] (fbody Go.Proofs.Tryd.f15)) (asub [true, true, true] an15) (kRet (Cf fuel F_lits_Check) Go.Proofs.Tryd.f15.results.toList)))

noncomputable def k_lits_Check_0 : Nat → Nat → AExit → Fr → AHeap → Option (AVal × AHeap) := hide k_lits_Check_0r

theorem k_lits_Check_0_is : k_lits_Check_0 = k_lits_Check_0r := hide_eq _

noncomputable def s_lits_Check_1 (fuel d : Nat) : Run := fun fr h k => aexec (Cf fuel F_lits_Check) false (acall (C fuel) false d) (acall (C fuel) true d) 56 (csub [true, true, true, true, false, true, false, false] (fbody Go.Proofs.Tryd.f15)) (asub [true, true, true, true, false, true, false, false] an15) fr h k

noncomputable def l_lits_Check_1r (fuel d : Nat) (n : Nat) (fr : Fr) (h : AHeap) : Option (AExit × Fr × AHeap) := aloop (s_lits_Check_1 fuel d) (some [1, 40, 41, 42]) n fr h (kOut [2])

noncomputable def l_lits_Check_1 : Nat → Nat → Nat → Fr → AHeap → Option (AExit × Fr × AHeap) := hide l_lits_Check_1r

theorem l_lits_Check_1_is : l_lits_Check_1 = l_lits_Check_1r := hide_eq _

noncomputable def k_lits_Check_1r (fuel d : Nat) : AExit → Fr → AHeap → Option (AVal × AHeap) := (kBlock 2 (kSeq (Cf fuel F_lits_Check) false (acall (C fuel) false d) (acall (C fuel) true d) 56 (csub [true, true, true, true, true] (fbody Go.Proofs.Tryd.f15)) (asub [true, true, true, true, true] an15) (kRet (Cf fuel F_lits_Check) Go.Proofs.Tryd.f15.results.toList)))

noncomputable def k_lits_Check_1 : Nat → Nat → AExit → Fr → AHeap → Option (AVal × AHeap) := hide k_lits_Check_1r

theorem k_lits_Check_1_is : k_lits_Check_1 = k_lits_Check_1r := hide_eq _

theorem e_lits_Check (fuel d : Nat) (x0 : List AVal) (h : AHeap) :
    brun fuel (d + 1) F_lits_Check [(AVal.agg x0)] h =
  (bif (List.all x0 AVal.isCell) then ((Pt.field 1 (Pt.mk ⟨AHeap.next h, 0, 0⟩ (List.length x0))).bind fun p1 =>
    (AHeap.cell (AHeap.push h 1 x0) p1).bind fun u2 =>
    (AVal.slice? u2).bind fun s3 =>
    (l_lits_Check_0 fuel d fuel [(1, (AVal.ptr (Pt.mk ⟨AHeap.next h, 0, 0⟩ (List.length x0)))), (3, (AVal.int .i64 (0 : Int))), (9, (AVal.slice s3)), (10, (AVal.int .i64 ((s3.len : Nat) : Int))), (11, (AVal.int .i64 (0 : Int)))] (AHeap.push h 1 x0)).bind fun p4 =>
    k_lits_Check_0 fuel d p4.1 p4.2.1 p4.2.2) else (none)) := by
  generalize hh : brun = R
  rw [brun_is] at hh
  subst hh
  generalize hh : l_lits_Check_0 = R
  rw [l_lits_Check_0_is] at hh
  subst hh
  generalize hh : k_lits_Check_0 = R
  rw [k_lits_Check_0_is] at hh
  subst hh
  kernel_rfl

theorem l_lits_Check_0_eq (fuel d : Nat) (n : Nat) (x1 : Pt) (x3 : Int) (x9 : Sl) (x10 : Int) (x11 : Int) (h : AHeap) :
    l_lits_Check_0 fuel d (n + 1) [(1, (AVal.ptr x1)), (3, (AVal.int .i64 x3)), (9, (AVal.slice x9)), (10, (AVal.int .i64 x10)), (11, (AVal.int .i64 x11))] h =
  (bif (decide (x11 < x10)) then ((AHeap.addr h 1 x9 x11).bind fun p1 =>
    (AHeap.cell h p1).bind fun u2 =>
    (AVal.slice? u2).bind fun s3 =>
    l_lits_Check_0 fuel d n [(1, (AVal.ptr x1)), (3, (AVal.int .i64 (IntKind.wrap .i64 (x3 + ((s3.len : Nat) : Int))))), (9, (AVal.slice x9)), (10, (AVal.int .i64 x10)), (11, (AVal.int .i64 (IntKind.wrap .i64 (x11 + (1 : Int)))))] h) else (some ((.exit 0), [(1, (AVal.ptr x1)), (3, (AVal.int .i64 x3))], h))) := by
  generalize hh : l_lits_Check_0 = R
  rw [l_lits_Check_0_is] at hh
  subst hh
  kernel_rfl

theorem l_lits_Check_0_0 (fuel d : Nat) (fr : Fr) (h : AHeap) :
    l_lits_Check_0 fuel d 0 fr h =
  none := by
  generalize hh : l_lits_Check_0 = R
  rw [l_lits_Check_0_is] at hh
  subst hh
  kernel_rfl

theorem k_lits_Check_0_x0 (fuel d : Nat) (x1 : Pt) (x3 : Int) (h : AHeap) :
    k_lits_Check_0 fuel d (.exit 0) [(1, (AVal.ptr x1)), (3, (AVal.int .i64 x3))] h =
  (Pt.field 0 x1).bind fun p1 =>
    (AHeap.cell h p1).bind fun u2 =>
    (AVal.int? .i64 u2).bind fun n3 =>
    ((bif ((decide (n3 < (0 : Int))) == false) then ((Pt.field 0 x1).bind fun p4 =>
    (AHeap.cell h p4).bind fun u5 =>
    (AVal.int? .i64 u5).bind fun n6 =>
    some ((AVal.bool (decide ((4000 : Int) < n6))), h)) else (some ((AVal.bool true), h)) : Option (AVal × AHeap))).bind fun r7 =>
    (AVal.bool? r7.1).bind fun b8 =>
    ((bif (b8 == false) then ((Pt.field 1 x1).bind fun p9 =>
    (AHeap.cell r7.2 p9).bind fun u10 =>
    (AVal.slice? u10).bind fun s11 =>
    some ((AVal.bool (decide ((20000 : Int) < ((s11.len : Nat) : Int)))), r7.2)) else (some ((AVal.bool true), r7.2)) : Option (AVal × AHeap))).bind fun r12 =>
    (AVal.bool? r12.1).bind fun b13 =>
    (bif (bif b13 then true else (decide ((80000 : Int) < x3))) then (some (err_api_ErrLimit, r12.2)) else ((Pt.field 1 x1).bind fun p14 =>
    (AHeap.cell r12.2 p14).bind fun u15 =>
    (AVal.slice? u15).bind fun s16 =>
    (l_lits_Check_1 fuel d fuel [(1, (AVal.ptr x1)), (40, (AVal.slice s16)), (41, (AVal.int .i64 ((s16.len : Nat) : Int))), (42, (AVal.int .i64 (0 : Int)))] r12.2).bind fun p17 =>
    k_lits_Check_1 fuel d p17.1 p17.2.1 p17.2.2)) := by
  generalize hh : k_lits_Check_0 = R
  rw [k_lits_Check_0_is] at hh
  subst hh
  generalize hh : l_lits_Check_1 = R
  rw [l_lits_Check_1_is] at hh
  subst hh
  generalize hh : k_lits_Check_1 = R
  rw [k_lits_Check_1_is] at hh
  subst hh
  kernel_rfl

theorem l_lits_Check_1_eq (fuel d : Nat) (n : Nat) (x1 : Pt) (x40 : Sl) (x41 : Int) (x42 : Int) (h : AHeap) :
    l_lits_Check_1 fuel d (n + 1) [(1, (AVal.ptr x1)), (40, (AVal.slice x40)), (41, (AVal.int .i64 x41)), (42, (AVal.int .i64 x42))] h =
  (bif (decide (x42 < x41)) then ((AHeap.addr h 1 x40 x42).bind fun p1 =>
    (AHeap.cell h p1).bind fun u2 =>
    (AVal.slice? u2).bind fun s3 =>
    (run fuel d F_slices_ContainsFunc_s_int_int [(AVal.slice s3), (AVal.func F_lits_Check_1 [x1])] h).bind fun r4 =>
    (AVal.bool? r4.1).bind fun b5 =>
    (bif b5 then (((bif (Nat.beq (List.length (AVal.cells err_api_ErrRange)) 1 && Nat.ble (1 + 1) (List.length [(AVal.int .i64 x42), AVal.nilif]) && List.all (AVal.cells err_api_ErrRange) AVal.isCell) then ((some (AHeap.overlay [(AVal.int .i64 x42), AVal.nilif] 1 (AVal.cells err_api_ErrRange)))) else (none))).bind fun c6 =>
    (bif (List.all c6 AVal.isCell) then (some (.ret, [(2, (AVal.iface T_p_api_At (AVal.ptr (Pt.mk ⟨AHeap.next r4.2, 0, 0⟩ (List.length c6)))))], (AHeap.push r4.2 1 c6))) else (none))) else (l_lits_Check_1 fuel d n [(1, (AVal.ptr x1)), (40, (AVal.slice x40)), (41, (AVal.int .i64 x41)), (42, (AVal.int .i64 (IntKind.wrap .i64 (x42 + (1 : Int)))))] r4.2))) else (some ((.exit 2), [(2, AVal.bot)], h))) := by
  generalize hh : run = R
  rw [run_is] at hh
  subst hh
  generalize hh : l_lits_Check_1 = R
  rw [l_lits_Check_1_is] at hh
  subst hh
  kernel_rfl

theorem l_lits_Check_1_0 (fuel d : Nat) (fr : Fr) (h : AHeap) :
    l_lits_Check_1 fuel d 0 fr h =
  none := by
  generalize hh : l_lits_Check_1 = R
  rw [l_lits_Check_1_is] at hh
  subst hh
  kernel_rfl

theorem k_lits_Check_1_x2 (fuel d : Nat) (x2 : AVal) (h : AHeap) :
    k_lits_Check_1 fuel d (.exit 2) [(2, x2)] h =
  some (AVal.nilif, h) := by
  generalize hh : k_lits_Check_1 = R
  rw [k_lits_Check_1_is] at hh
  subst hh
  kernel_rfl

theorem k_lits_Check_1_r (fuel d : Nat) (x2 : AVal) (h : AHeap) :
    k_lits_Check_1 fuel d .ret [(2, x2)] h =
  some (x2, h) := by
  generalize hh : k_lits_Check_1 = R
  rw [k_lits_Check_1_is] at hh
  subst hh
  kernel_rfl

/-! 16: skolem/skolemref.Bare -/

theorem e_skolemref_Bare (fuel d : Nat) (x0 : Int) (h : AHeap) :
    brun fuel (d + 1) F_skolemref_Bare [(AVal.int .i64 x0)] h =
  (AHeap.storeAt (AHeap.push h 1 [(AVal.int .i64 (0 : Int)), (AVal.bool false), (AVal.int .i64 (0 : Int))]) [(AVal.int .i64 x0), (AVal.bool false), (AVal.int .i64 (0 : Int))] (Pt.mk ⟨AHeap.next h, 0, 0⟩ 3)).bind fun h1 =>
    ((AHeap.cellsAt h1 3 (Pt.mk ⟨AHeap.next h, 0, 0⟩ 3)).bind fun c2 =>
    some ((AVal.agg c2)) : Option AVal).map fun v => (v, h1) := by
  generalize hh : brun = R
  rw [brun_is] at hh
  subst hh
  kernel_rfl

/-! 17: skolem/lits.Is -/

theorem e_lits_Is (fuel d : Nat) (x0 : Int) (x1 : Int) (h : AHeap) :
    brun fuel (d + 1) F_lits_Is [(AVal.int .i64 x0), (AVal.int .i64 x1)] h =
  some ((AVal.bool (bif (bif (!decide (x0 = (0 : Int))) then (decide ((IntKind.wrap .i64 (0 - x1)) ≤ x0)) else false) then (decide (x0 ≤ x1)) else false)), h) := by
  generalize hh : brun = R
  rw [brun_is] at hh
  subst hh
  kernel_rfl

/-! 18: skolem/skolemref.Placed -/

theorem e_skolemref_Placed (fuel d : Nat) (x0 : Int) (x1 : Int) (h : AHeap) :
    brun fuel (d + 1) F_skolemref_Placed [(AVal.int .i64 x0), (AVal.int .i64 x1)] h =
  (bif (decide (x0 = (0 : Int))) then ((run fuel d F_skolemref_None [] (AHeap.push h 1 [(AVal.int .i64 (0 : Int)), (AVal.bool false), (AVal.int .i64 (0 : Int))])).bind fun r1 =>
    (AVal.agg? r1.1).bind fun c2 =>
    (bif (!false && Nat.beq (List.length c2) 3 && List.all c2 AVal.isCell) then ((AHeap.storeAt r1.2 c2 (Pt.mk ⟨AHeap.next h, 0, 0⟩ 3)).bind fun h3 =>
    ((AHeap.cellsAt h3 3 (Pt.mk ⟨AHeap.next h, 0, 0⟩ 3)).bind fun c4 =>
    some ((AVal.agg c4)) : Option AVal).map fun v => (v, h3)) else (none))) else ((AHeap.storeAt (AHeap.push h 1 [(AVal.int .i64 (0 : Int)), (AVal.bool false), (AVal.int .i64 (0 : Int))]) [(AVal.int .i64 x0), (AVal.bool true), (AVal.int .i64 x1)] (Pt.mk ⟨AHeap.next h, 0, 0⟩ 3)).bind fun h5 =>
    ((AHeap.cellsAt h5 3 (Pt.mk ⟨AHeap.next h, 0, 0⟩ 3)).bind fun c6 =>
    some ((AVal.agg c6)) : Option AVal).map fun v => (v, h5))) := by
  generalize hh : run = R
  rw [run_is] at hh
  subst hh
  generalize hh : brun = R
  rw [brun_is] at hh
  subst hh
  kernel_rfl

/-! 19: skolem/skolemmake.NearAll -/

noncomputable def s_skolemmake_NearAll_0 (fuel d : Nat) : Run := fun fr h k => aexec (Cf fuel F_skolemmake_NearAll) false (acall (C fuel) false d) (acall (C fuel) true d) 16 (csub [true, false, true, false, false] (fbody Go.Proofs.Tryd.f19)) (asub [true, false, true, false, false] an19) fr h k

noncomputable def l_skolemmake_NearAll_0r (fuel d : Nat) (n : Nat) (fr : Fr) (h : AHeap) : Option (AExit × Fr × AHeap) := aloop (s_skolemmake_NearAll_0 fuel d) (some [0, 3]) n fr h (kOut [2])

noncomputable def l_skolemmake_NearAll_0 : Nat → Nat → Nat → Fr → AHeap → Option (AExit × Fr × AHeap) := hide l_skolemmake_NearAll_0r

theorem l_skolemmake_NearAll_0_is : l_skolemmake_NearAll_0 = l_skolemmake_NearAll_0r := hide_eq _

noncomputable def k_skolemmake_NearAll_0r (fuel d : Nat) : AExit → Fr → AHeap → Option (AVal × AHeap) := (kBlock 0 (kSeq (Cf fuel F_skolemmake_NearAll) false (acall (C fuel) false d) (acall (C fuel) true d) 16 (csub [true, true] (fbody Go.Proofs.Tryd.f19)) (asub [true, true] an19) (kRet (Cf fuel F_skolemmake_NearAll) Go.Proofs.Tryd.f19.results.toList)))

noncomputable def k_skolemmake_NearAll_0 : Nat → Nat → AExit → Fr → AHeap → Option (AVal × AHeap) := hide k_skolemmake_NearAll_0r

theorem k_skolemmake_NearAll_0_is : k_skolemmake_NearAll_0 = k_skolemmake_NearAll_0r := hide_eq _

theorem e_skolemmake_NearAll (fuel d : Nat) (x0 : Sl) (h : AHeap) :
    brun fuel (d + 1) F_skolemmake_NearAll [(AVal.slice x0)] h =
  (l_skolemmake_NearAll_0 fuel d fuel [(0, (AVal.slice x0)), (3, (AVal.int .i64 (0 : Int)))] h).bind fun p1 =>
    k_skolemmake_NearAll_0 fuel d p1.1 p1.2.1 p1.2.2 := by
  generalize hh : brun = R
  rw [brun_is] at hh
  subst hh
  generalize hh : l_skolemmake_NearAll_0 = R
  rw [l_skolemmake_NearAll_0_is] at hh
  subst hh
  generalize hh : k_skolemmake_NearAll_0 = R
  rw [k_skolemmake_NearAll_0_is] at hh
  subst hh
  kernel_rfl

theorem l_skolemmake_NearAll_0_eq (fuel d : Nat) (n : Nat) (x0 : Sl) (x3 : Int) (h : AHeap) :
    l_skolemmake_NearAll_0 fuel d (n + 1) [(0, (AVal.slice x0)), (3, (AVal.int .i64 x3))] h =
  (bif (decide (x3 < ((x0.len : Nat) : Int))) then ((AHeap.addr h 1 x0 x3).bind fun p1 =>
    (AHeap.cell h p1).bind fun u2 =>
    (AVal.slice? u2).bind fun s3 =>
    (run fuel d F_skolemmake_Near [(AVal.slice s3)] h).bind fun r4 =>
    (AVal.bool? r4.1).bind fun b5 =>
    (bif (!b5) then (some (.ret, [(2, (AVal.bool false))], r4.2)) else (l_skolemmake_NearAll_0 fuel d n [(0, (AVal.slice x0)), (3, (AVal.int .i64 (IntKind.wrap .i64 (x3 + (1 : Int)))))] r4.2))) else (some ((.exit 0), [(2, AVal.bot)], h))) := by
  generalize hh : run = R
  rw [run_is] at hh
  subst hh
  generalize hh : l_skolemmake_NearAll_0 = R
  rw [l_skolemmake_NearAll_0_is] at hh
  subst hh
  kernel_rfl

theorem l_skolemmake_NearAll_0_0 (fuel d : Nat) (fr : Fr) (h : AHeap) :
    l_skolemmake_NearAll_0 fuel d 0 fr h =
  none := by
  generalize hh : l_skolemmake_NearAll_0 = R
  rw [l_skolemmake_NearAll_0_is] at hh
  subst hh
  kernel_rfl

theorem k_skolemmake_NearAll_0_x0 (fuel d : Nat) (x2 : AVal) (h : AHeap) :
    k_skolemmake_NearAll_0 fuel d (.exit 0) [(2, x2)] h =
  some ((AVal.bool true), h) := by
  generalize hh : k_skolemmake_NearAll_0 = R
  rw [k_skolemmake_NearAll_0_is] at hh
  subst hh
  kernel_rfl

theorem k_skolemmake_NearAll_0_r (fuel d : Nat) (x2 : Bool) (h : AHeap) :
    k_skolemmake_NearAll_0 fuel d .ret [(2, (AVal.bool x2))] h =
  some ((AVal.bool x2), h) := by
  generalize hh : k_skolemmake_NearAll_0 = R
  rw [k_skolemmake_NearAll_0_is] at hh
  subst hh
  kernel_rfl

/-! 20: skolem/skolemmake.Count -/

noncomputable def s_skolemmake_Count_0 (fuel d : Nat) : Run := fun fr h k => aexec (Cf fuel F_skolemmake_Count) false (acall (C fuel) false d) (acall (C fuel) true d) 19 (csub [true, true, false, true, false, false] (fbody Go.Proofs.Tryd.f20)) (asub [true, true, false, true, false, false] an20) fr h k

noncomputable def l_skolemmake_Count_0r (fuel d : Nat) (n : Nat) (fr : Fr) (h : AHeap) : Option (AExit × Fr × AHeap) := aloop (s_skolemmake_Count_0 fuel d) (some [0, 3, 4]) n fr h (kOut [3])

noncomputable def l_skolemmake_Count_0 : Nat → Nat → Nat → Fr → AHeap → Option (AExit × Fr × AHeap) := hide l_skolemmake_Count_0r

theorem l_skolemmake_Count_0_is : l_skolemmake_Count_0 = l_skolemmake_Count_0r := hide_eq _

noncomputable def k_skolemmake_Count_0r (fuel d : Nat) : AExit → Fr → AHeap → Option (AVal × AHeap) := (kBlock 0 (kSeq (Cf fuel F_skolemmake_Count) false (acall (C fuel) false d) (acall (C fuel) true d) 19 (csub [true, true, true] (fbody Go.Proofs.Tryd.f20)) (asub [true, true, true] an20) (kRet (Cf fuel F_skolemmake_Count) Go.Proofs.Tryd.f20.results.toList)))

noncomputable def k_skolemmake_Count_0 : Nat → Nat → AExit → Fr → AHeap → Option (AVal × AHeap) := hide k_skolemmake_Count_0r

theorem k_skolemmake_Count_0_is : k_skolemmake_Count_0 = k_skolemmake_Count_0r := hide_eq _

theorem e_skolemmake_Count (fuel d : Nat) (x0 : Sl) (h : AHeap) :
    brun fuel (d + 1) F_skolemmake_Count [(AVal.slice x0)] h =
  (l_skolemmake_Count_0 fuel d fuel [(0, (AVal.slice x0)), (3, (AVal.int .i64 (0 : Int))), (4, (AVal.int .i64 (0 : Int)))] h).bind fun p1 =>
    k_skolemmake_Count_0 fuel d p1.1 p1.2.1 p1.2.2 := by
  generalize hh : brun = R
  rw [brun_is] at hh
  subst hh
  generalize hh : l_skolemmake_Count_0 = R
  rw [l_skolemmake_Count_0_is] at hh
  subst hh
  generalize hh : k_skolemmake_Count_0 = R
  rw [k_skolemmake_Count_0_is] at hh
  subst hh
  kernel_rfl

theorem l_skolemmake_Count_0_eq (fuel d : Nat) (n : Nat) (x0 : Sl) (x3 : Int) (x4 : Int) (h : AHeap) :
    l_skolemmake_Count_0 fuel d (n + 1) [(0, (AVal.slice x0)), (3, (AVal.int .i64 x3)), (4, (AVal.int .i64 x4))] h =
  (bif (decide (x4 < ((x0.len : Nat) : Int))) then ((AHeap.addr h 1 x0 x4).bind fun p1 =>
    (AHeap.cell h p1).bind fun u2 =>
    (AVal.slice? u2).bind fun s3 =>
    l_skolemmake_Count_0 fuel d n [(0, (AVal.slice x0)), (3, (AVal.int .i64 (IntKind.wrap .i64 (x3 + ((s3.len : Nat) : Int))))), (4, (AVal.int .i64 (IntKind.wrap .i64 (x4 + (1 : Int)))))] h) else (some ((.exit 0), [(3, (AVal.int .i64 x3))], h))) := by
  generalize hh : l_skolemmake_Count_0 = R
  rw [l_skolemmake_Count_0_is] at hh
  subst hh
  kernel_rfl

theorem l_skolemmake_Count_0_0 (fuel d : Nat) (fr : Fr) (h : AHeap) :
    l_skolemmake_Count_0 fuel d 0 fr h =
  none := by
  generalize hh : l_skolemmake_Count_0 = R
  rw [l_skolemmake_Count_0_is] at hh
  subst hh
  kernel_rfl

theorem k_skolemmake_Count_0_x0 (fuel d : Nat) (x3 : Int) (h : AHeap) :
    k_skolemmake_Count_0 fuel d (.exit 0) [(3, (AVal.int .i64 x3))] h =
  some ((AVal.int .i64 x3), h) := by
  generalize hh : k_skolemmake_Count_0 = R
  rw [k_skolemmake_Count_0_is] at hh
  subst hh
  kernel_rfl

/-! 21: skolem/lits.Norm -/

noncomputable def s_lits_Norm_0 (fuel d : Nat) : Run := fun fr h k => aexec (Cf fuel F_lits_Norm) false (acall (C fuel) false d) (acall (C fuel) true d) 33 (csub [true, true, true, true, false, true, false, false] (fbody Go.Proofs.Tryd.f21)) (asub [true, true, true, true, false, true, false, false] an21) fr h k

noncomputable def l_lits_Norm_0r (fuel d : Nat) (n : Nat) (fr : Fr) (h : AHeap) : Option (AExit × Fr × AHeap) := aloop (s_lits_Norm_0 fuel d) (some [4, 5]) n fr h (kOut [2, 3, 4])

noncomputable def l_lits_Norm_0 : Nat → Nat → Nat → Fr → AHeap → Option (AExit × Fr × AHeap) := hide l_lits_Norm_0r

theorem l_lits_Norm_0_is : l_lits_Norm_0 = l_lits_Norm_0r := hide_eq _

noncomputable def k_lits_Norm_0r (fuel d : Nat) : AExit → Fr → AHeap → Option (AVal × AHeap) := (kBlock 0 (kSeq (Cf fuel F_lits_Norm) false (acall (C fuel) false d) (acall (C fuel) true d) 33 (csub [true, true, true, true, true] (fbody Go.Proofs.Tryd.f21)) (asub [true, true, true, true, true] an21) (kRet (Cf fuel F_lits_Norm) Go.Proofs.Tryd.f21.results.toList)))

noncomputable def k_lits_Norm_0 : Nat → Nat → AExit → Fr → AHeap → Option (AVal × AHeap) := hide k_lits_Norm_0r

theorem k_lits_Norm_0_is : k_lits_Norm_0 = k_lits_Norm_0r := hide_eq _

theorem e_lits_Norm (fuel d : Nat) (x0 : Sl) (h : AHeap) :
    brun fuel (d + 1) F_lits_Norm [(AVal.slice x0)] h =
  (run fuel d F_slices_Clone_s_int_int [(AVal.slice x0)] h).bind fun r1 =>
    (AVal.slice? r1.1).bind fun s2 =>
    (run fuel d F_slices_SortFunc_s_int_int [(AVal.slice s2), (AVal.func F_lits_order [])] r1.2).bind fun r3 =>
    (run fuel d F_slices_Compact_s_int_int [(AVal.slice s2)] r3.2).bind fun r4 =>
    (AVal.slice? r4.1).bind fun s5 =>
    (run fuel d F_slices_Clip_s_int_int [(AVal.slice s5)] r4.2).bind fun r6 =>
    (AVal.slice? r6.1).bind fun s7 =>
    (l_lits_Norm_0 fuel d fuel [(4, (AVal.slice s7)), (5, (AVal.int .i64 (1 : Int)))] r6.2).bind fun p8 =>
    k_lits_Norm_0 fuel d p8.1 p8.2.1 p8.2.2 := by
  generalize hh : run = R
  rw [run_is] at hh
  subst hh
  generalize hh : brun = R
  rw [brun_is] at hh
  subst hh
  generalize hh : l_lits_Norm_0 = R
  rw [l_lits_Norm_0_is] at hh
  subst hh
  generalize hh : k_lits_Norm_0 = R
  rw [k_lits_Norm_0_is] at hh
  subst hh
  kernel_rfl

theorem l_lits_Norm_0_eq (fuel d : Nat) (n : Nat) (x4 : Sl) (x5 : Int) (h : AHeap) :
    l_lits_Norm_0 fuel d (n + 1) [(4, (AVal.slice x4)), (5, (AVal.int .i64 x5))] h =
  (bif (decide (x5 < ((x4.len : Nat) : Int))) then ((AHeap.addr h 1 x4 x5).bind fun p1 =>
    (AHeap.cell h p1).bind fun u2 =>
    (AVal.int? .i64 u2).bind fun n3 =>
    (run fuel d F_lits_Var [(AVal.int .i64 n3)] h).bind fun r4 =>
    (AVal.int? .i64 r4.1).bind fun n5 =>
    (AHeap.addr r4.2 1 x4 (IntKind.wrap .i64 (x5 - (1 : Int)))).bind fun p6 =>
    same ((AHeap.addr h 1 x4 (IntKind.wrap .i64 (x5 - (1 : Int)))).bind fun p13 =>
    some ((AVal.ptr p13), h)) ((AVal.ptr p6), h) (
    (AHeap.cell r4.2 p6).bind fun u7 =>
    (AVal.int? .i64 u7).bind fun n8 =>
    same ((AHeap.cell h p6).bind fun u11 =>
    (AVal.int? .i64 u11).bind fun n12 =>
    some ((AVal.int .i64 n12), h)) ((AVal.int .i64 n8), h) (
    (run fuel d F_lits_Var [(AVal.int .i64 n8)] r4.2).bind fun r9 =>
    (AVal.int? .i64 r9.1).bind fun n10 =>
    (bif (decide (n5 = n10)) then (some (.ret, [(2, (AVal.slice x4)), (3, (AVal.bool false)), (4, (AVal.slice x4))], r9.2)) else (l_lits_Norm_0 fuel d n [(4, (AVal.slice x4)), (5, (AVal.int .i64 (IntKind.wrap .i64 (x5 + (1 : Int)))))] r9.2))))) else (some ((.exit 0), [(2, AVal.bot), (3, AVal.bot), (4, (AVal.slice x4))], h))) := by
  generalize hh : run = R
  rw [run_is] at hh
  subst hh
  generalize hh : l_lits_Norm_0 = R
  rw [l_lits_Norm_0_is] at hh
  subst hh
  kernel_rfl

theorem l_lits_Norm_0_0 (fuel d : Nat) (fr : Fr) (h : AHeap) :
    l_lits_Norm_0 fuel d 0 fr h =
  none := by
  generalize hh : l_lits_Norm_0 = R
  rw [l_lits_Norm_0_is] at hh
  subst hh
  kernel_rfl

theorem k_lits_Norm_0_x0 (fuel d : Nat) (x2 : AVal) (x3 : AVal) (x4 : Sl) (h : AHeap) :
    k_lits_Norm_0 fuel d (.exit 0) [(2, x2), (3, x3), (4, (AVal.slice x4))] h =
  some ((AVal.tup [(AVal.slice x4), (AVal.bool true)]), h) := by
  generalize hh : k_lits_Norm_0 = R
  rw [k_lits_Norm_0_is] at hh
  subst hh
  kernel_rfl

theorem k_lits_Norm_0_r (fuel d : Nat) (x2 : Sl) (x3 : Bool) (x4 : AVal) (h : AHeap) :
    k_lits_Norm_0 fuel d .ret [(2, (AVal.slice x2)), (3, (AVal.bool x3)), (4, x4)] h =
  some ((AVal.tup [(AVal.slice x2), (AVal.bool x3)]), h) := by
  generalize hh : k_lits_Norm_0 = R
  rw [k_lits_Norm_0_is] at hh
  subst hh
  kernel_rfl

/-! 22: skolem/skolemref1.Norm -/

noncomputable def s_skolemref1_Norm_0 (fuel d : Nat) : Run := fun fr h k => aexec (Cf fuel F_skolemref1_Norm) false (acall (C fuel) false d) (acall (C fuel) true d) 66 (csub [true, true, true, false, true, false, false] (fbody Go.Proofs.Tryd.f22)) (asub [true, true, true, false, true, false, false] an22) fr h k

noncomputable def l_skolemref1_Norm_0r (fuel d : Nat) (n : Nat) (fr : Fr) (h : AHeap) : Option (AExit × Fr × AHeap) := aloop (s_skolemref1_Norm_0 fuel d) (some [0, 4, 5, 6]) n fr h (kOut [4, 5])

noncomputable def l_skolemref1_Norm_0 : Nat → Nat → Nat → Fr → AHeap → Option (AExit × Fr × AHeap) := hide l_skolemref1_Norm_0r

theorem l_skolemref1_Norm_0_is : l_skolemref1_Norm_0 = l_skolemref1_Norm_0r := hide_eq _

noncomputable def k_skolemref1_Norm_0r (fuel d : Nat) : AExit → Fr → AHeap → Option (AVal × AHeap) := (kBlock 0 (kSeq (Cf fuel F_skolemref1_Norm) false (acall (C fuel) false d) (acall (C fuel) true d) 66 (csub [true, true, true, true] (fbody Go.Proofs.Tryd.f22)) (asub [true, true, true, true] an22) (kRet (Cf fuel F_skolemref1_Norm) Go.Proofs.Tryd.f22.results.toList)))

noncomputable def k_skolemref1_Norm_0 : Nat → Nat → AExit → Fr → AHeap → Option (AVal × AHeap) := hide k_skolemref1_Norm_0r

theorem k_skolemref1_Norm_0_is : k_skolemref1_Norm_0 = k_skolemref1_Norm_0r := hide_eq _

noncomputable def s_skolemref1_Norm_1 (fuel d : Nat) : Run := fun fr h k => aexec (Cf fuel F_skolemref1_Norm) false (acall (C fuel) false d) (acall (C fuel) true d) 66 (csub [true, true, true, false, true, false, false, true, false, false, true, true, false, false, false] (fbody Go.Proofs.Tryd.f22)) (asub [true, true, true, false, true, false, false, true, false, false, true, true, false, false, false] an22) fr h k

noncomputable def l_skolemref1_Norm_1r (fuel d : Nat) (n : Nat) (fr : Fr) (h : AHeap) : Option (AExit × Fr × AHeap) := aloop (s_skolemref1_Norm_1 fuel d) (some [0, 4, 5, 6, 7]) n fr h (kOut [0, 4, 5, 6, 7])

noncomputable def l_skolemref1_Norm_1 : Nat → Nat → Nat → Fr → AHeap → Option (AExit × Fr × AHeap) := hide l_skolemref1_Norm_1r

theorem l_skolemref1_Norm_1_is : l_skolemref1_Norm_1 = l_skolemref1_Norm_1r := hide_eq _

noncomputable def k_skolemref1_Norm_1r (fuel d : Nat) (n : Nat) : AExit → Fr → AHeap → Option (AExit × Fr × AHeap) := (kBlock 2 (kSeq (Cf fuel F_skolemref1_Norm) false (acall (C fuel) false d) (acall (C fuel) true d) 66 (csub [true, true, true, false, true, false, false, true, false, false, true, true, true] (fbody Go.Proofs.Tryd.f22)) (asub [true, true, true, false, true, false, false, true, false, false, true, true, true] an22) (kBlock 1 (kSeq (Cf fuel F_skolemref1_Norm) false (acall (C fuel) false d) (acall (C fuel) true d) 66 (csub [true, true, true, false, true, false, false, true, true] (fbody Go.Proofs.Tryd.f22)) (asub [true, true, true, false, true, false, false, true, true] an22) (kLoop (s_skolemref1_Norm_0 fuel d) (some [0, 4, 5, 6]) n (kOut [4, 5]))))))

noncomputable def k_skolemref1_Norm_1 : Nat → Nat → Nat → AExit → Fr → AHeap → Option (AExit × Fr × AHeap) := hide k_skolemref1_Norm_1r

theorem k_skolemref1_Norm_1_is : k_skolemref1_Norm_1 = k_skolemref1_Norm_1r := hide_eq _

noncomputable def k_skolemref1_Norm_2r (fuel d : Nat) (n : Nat) : AExit → Fr → AHeap → Option (AExit × Fr × AHeap) := (kSeq (Cf fuel F_skolemref1_Norm) false (acall (C fuel) false d) (acall (C fuel) true d) 66 (csub [true, true, true, false, true, false, false, true, false, false, true, true, false, false, false, false, true] (fbody Go.Proofs.Tryd.f22)) (asub [true, true, true, false, true, false, false, true, false, false, true, true, false, false, false, false, true] an22) (kSeq (Cf fuel F_skolemref1_Norm) false (acall (C fuel) false d) (acall (C fuel) true d) 66 (csub [true, true, true, false, true, false, false, true, false, false, true, true, false, false, false, true] (fbody Go.Proofs.Tryd.f22)) (asub [true, true, true, false, true, false, false, true, false, false, true, true, false, false, false, true] an22) (kLoop (s_skolemref1_Norm_1 fuel d) (some [0, 4, 5, 6, 7]) n (kOut [0, 4, 5, 6, 7]))))

noncomputable def k_skolemref1_Norm_2 : Nat → Nat → Nat → AExit → Fr → AHeap → Option (AExit × Fr × AHeap) := hide k_skolemref1_Norm_2r

theorem k_skolemref1_Norm_2_is : k_skolemref1_Norm_2 = k_skolemref1_Norm_2r := hide_eq _

theorem e_skolemref1_Norm (fuel d : Nat) (x0 : Sl) (h : AHeap) :
    brun fuel (d + 1) F_skolemref1_Norm [(AVal.slice x0)] h =
  (l_skolemref1_Norm_0 fuel d fuel [(0, (AVal.slice x0)), (4, (AVal.slice Sl.nil)), (5, (AVal.bool true)), (6, (AVal.int .i64 (0 : Int)))] h).bind fun p1 =>
    k_skolemref1_Norm_0 fuel d p1.1 p1.2.1 p1.2.2 := by
  generalize hh : brun = R
  rw [brun_is] at hh
  subst hh
  generalize hh : l_skolemref1_Norm_0 = R
  rw [l_skolemref1_Norm_0_is] at hh
  subst hh
  generalize hh : k_skolemref1_Norm_0 = R
  rw [k_skolemref1_Norm_0_is] at hh
  subst hh
  kernel_rfl

theorem l_skolemref1_Norm_0_eq (fuel d : Nat) (n : Nat) (x0 : Sl) (x4 : Sl) (x5 : Bool) (x6 : Int) (h : AHeap) :
    l_skolemref1_Norm_0 fuel d (n + 1) [(0, (AVal.slice x0)), (4, (AVal.slice x4)), (5, (AVal.bool x5)), (6, (AVal.int .i64 x6))] h =
  (bif (decide (x6 < ((x0.len : Nat) : Int))) then ((AHeap.addr h 1 x0 x6).bind fun p1 =>
    (AHeap.cell h p1).bind fun u2 =>
    (AVal.int? .i64 u2).bind fun n3 =>
    (run fuel d F_skolemref_Has [(AVal.slice x4), (AVal.int .i64 n3)] h).bind fun r4 =>
    (AVal.bool? r4.1).bind fun b5 =>
    (bif b5 then (l_skolemref1_Norm_0 fuel d n [(0, (AVal.slice x0)), (4, (AVal.slice x4)), (5, (AVal.bool x5)), (6, (AVal.int .i64 (IntKind.wrap .i64 (x6 + (1 : Int)))))] r4.2) else ((l_skolemref1_Norm_1 fuel d fuel [(0, (AVal.slice x0)), (4, (AVal.slice x4)), (5, (AVal.bool x5)), (6, (AVal.int .i64 x6)), (7, (AVal.int .i64 (0 : Int)))] r4.2).bind fun p6 =>
    k_skolemref1_Norm_1 fuel d n p6.1 p6.2.1 p6.2.2))) else (some ((.exit 0), [(4, (AVal.slice x4)), (5, (AVal.bool x5))], h))) := by
  generalize hh : run = R
  rw [run_is] at hh
  subst hh
  generalize hh : l_skolemref1_Norm_0 = R
  rw [l_skolemref1_Norm_0_is] at hh
  subst hh
  generalize hh : l_skolemref1_Norm_1 = R
  rw [l_skolemref1_Norm_1_is] at hh
  subst hh
  generalize hh : k_skolemref1_Norm_1 = R
  rw [k_skolemref1_Norm_1_is] at hh
  subst hh
  kernel_rfl

theorem l_skolemref1_Norm_0_0 (fuel d : Nat) (fr : Fr) (h : AHeap) :
    l_skolemref1_Norm_0 fuel d 0 fr h =
  none := by
  generalize hh : l_skolemref1_Norm_0 = R
  rw [l_skolemref1_Norm_0_is] at hh
  subst hh
  kernel_rfl

theorem k_skolemref1_Norm_0_x0 (fuel d : Nat) (x4 : Sl) (x5 : Bool) (h : AHeap) :
    k_skolemref1_Norm_0 fuel d (.exit 0) [(4, (AVal.slice x4)), (5, (AVal.bool x5))] h =
  some ((AVal.tup [(AVal.slice x4), (AVal.bool x5)]), h) := by
  generalize hh : k_skolemref1_Norm_0 = R
  rw [k_skolemref1_Norm_0_is] at hh
  subst hh
  kernel_rfl

theorem l_skolemref1_Norm_1_eq (fuel d : Nat) (n : Nat) (x0 : Sl) (x4 : Sl) (x5 : Bool) (x6 : Int) (x7 : Int) (h : AHeap) :
    l_skolemref1_Norm_1 fuel d (n + 1) [(0, (AVal.slice x0)), (4, (AVal.slice x4)), (5, (AVal.bool x5)), (6, (AVal.int .i64 x6)), (7, (AVal.int .i64 x7))] h =
  ((bif (decide (x7 < ((x4.len : Nat) : Int))) then ((AHeap.addr h 1 x4 x7).bind fun p1 =>
    (AHeap.cell h p1).bind fun u2 =>
    (AVal.int? .i64 u2).bind fun n3 =>
    (AHeap.addr h 1 x0 x6).bind fun p4 =>
    (AHeap.cell h p4).bind fun u5 =>
    (AVal.int? .i64 u5).bind fun n6 =>
    (run fuel d F_skolemref1_before [(AVal.int .i64 n3), (AVal.int .i64 n6)] h).bind fun r7 =>
    (AVal.bool? r7.1).bind fun b8 =>
    some (.normal, [(0, (AVal.slice x0)), (4, (AVal.slice x4)), (5, (AVal.bool x5)), (6, (AVal.int .i64 x6)), (7, (AVal.int .i64 x7)), (35, (AVal.bool b8))], r7.2)) else (some (.normal, [(0, (AVal.slice x0)), (4, (AVal.slice x4)), (5, (AVal.bool x5)), (6, (AVal.int .i64 x6)), (7, (AVal.int .i64 x7)), (35, (AVal.bool false))], h)))).bind fun p9 =>
    k_skolemref1_Norm_2 fuel d n p9.1 p9.2.1 p9.2.2 := by
  generalize hh : run = R
  rw [run_is] at hh
  subst hh
  generalize hh : l_skolemref1_Norm_1 = R
  rw [l_skolemref1_Norm_1_is] at hh
  subst hh
  generalize hh : k_skolemref1_Norm_2 = R
  rw [k_skolemref1_Norm_2_is] at hh
  subst hh
  kernel_rfl

theorem l_skolemref1_Norm_1_0 (fuel d : Nat) (fr : Fr) (h : AHeap) :
    l_skolemref1_Norm_1 fuel d 0 fr h =
  none := by
  generalize hh : l_skolemref1_Norm_1 = R
  rw [l_skolemref1_Norm_1_is] at hh
  subst hh
  kernel_rfl

theorem k_skolemref1_Norm_1_x2 (fuel d : Nat) (n : Nat) (x0 : Sl) (x4 : Sl) (x5 : Bool) (x6 : Int) (x7 : Int) (h : AHeap) :
    k_skolemref1_Norm_1 fuel d n (.exit 2) [(0, (AVal.slice x0)), (4, (AVal.slice x4)), (5, (AVal.bool x5)), (6, (AVal.int .i64 x6)), (7, (AVal.int .i64 x7))] h =
  ((bif (x5 == true) then ((AHeap.addr h 1 x0 x6).bind fun p1 =>
    (AHeap.cell h p1).bind fun u2 =>
    (AVal.int? .i64 u2).bind fun n3 =>
    (run fuel d F_skolemref_Has [(AVal.slice x4), (AVal.int .i64 (IntKind.wrap .i64 (0 - n3)))] h).bind fun r4 =>
    (AVal.bool? r4.1).bind fun b5 =>
    some ((AVal.bool (!b5)), r4.2)) else (some ((AVal.bool false), h)) : Option (AVal × AHeap))).bind fun r6 =>
    (AVal.bool? r6.1).bind fun b7 =>
    (aHi (some (AVal.int .i64 x7)) (Sl.len x4)).bind fun hi8 =>
    (aLo (none : Option AVal) hi8).bind fun lo9 =>
    (aMx (none : Option AVal) hi8).bind fun cl10 =>
    (bif (AHeap.hasSz r6.2 1 x4) then ((run fuel d F_skolemref_Ints [(AVal.slice (Sl.cut x4 1 lo9 hi8 cl10))] r6.2).bind fun r11 =>
    (AVal.slice? r11.1).bind fun s12 =>
    (AHeap.addr r11.2 1 x0 x6).bind fun p13 =>
    same ((AHeap.addr r6.2 1 x0 x6).bind fun p24 =>
    some ((AVal.ptr p24), r6.2)) ((AVal.ptr p13), r6.2) (
    (AHeap.cell r11.2 p13).bind fun u14 =>
    (AVal.int? .i64 u14).bind fun n15 =>
    same ((AHeap.cell r6.2 p13).bind fun u22 =>
    (AVal.int? .i64 u22).bind fun n23 =>
    some ((AVal.int .i64 n23), r6.2)) ((AVal.int .i64 n15), r6.2) (
    (AHeap.append r11.2 false 1 8 s12 1 [(AVal.int .i64 n15)]).bind fun a16 =>
    (aHi (none : Option AVal) (Sl.len x4)).bind fun hi17 =>
    (aLo (some (AVal.int .i64 x7)) hi17).bind fun lo18 =>
    (aMx (none : Option AVal) hi17).bind fun cl19 =>
    (bif (AHeap.hasSz a16.2 1 x4) then ((AHeap.sliceCells a16.2 1 (Sl.cut x4 1 lo18 hi17 cl19)).bind fun xs20 =>
    (AHeap.append a16.2 false 1 8 a16.1 (Sl.cut x4 1 lo18 hi17 cl19).len xs20).bind fun a21 =>
    l_skolemref1_Norm_0 fuel d n [(0, (AVal.slice x0)), (4, (AVal.slice a21.1)), (5, (AVal.bool b7)), (6, (AVal.int .i64 (IntKind.wrap .i64 (x6 + (1 : Int)))))] a21.2) else (none))))) else (none)) := by
  generalize hh : run = R
  rw [run_is] at hh
  subst hh
  generalize hh : l_skolemref1_Norm_0 = R
  rw [l_skolemref1_Norm_0_is] at hh
  subst hh
  generalize hh : k_skolemref1_Norm_1 = R
  rw [k_skolemref1_Norm_1_is] at hh
  subst hh
  kernel_rfl

theorem k_skolemref1_Norm_2_n (fuel d : Nat) (n : Nat) (x0 : Sl) (x4 : Sl) (x5 : Bool) (x6 : Int) (x7 : Int) (x35 : Bool) (h : AHeap) :
    k_skolemref1_Norm_2 fuel d n .normal [(0, (AVal.slice x0)), (4, (AVal.slice x4)), (5, (AVal.bool x5)), (6, (AVal.int .i64 x6)), (7, (AVal.int .i64 x7)), (35, (AVal.bool x35))] h =
  (bif x35 then (l_skolemref1_Norm_1 fuel d n [(0, (AVal.slice x0)), (4, (AVal.slice x4)), (5, (AVal.bool x5)), (6, (AVal.int .i64 x6)), (7, (AVal.int .i64 (IntKind.wrap .i64 (x7 + (1 : Int)))))] h) else (some ((.exit 2), [(0, (AVal.slice x0)), (4, (AVal.slice x4)), (5, (AVal.bool x5)), (6, (AVal.int .i64 x6)), (7, (AVal.int .i64 x7))], h))) := by
  generalize hh : l_skolemref1_Norm_1 = R
  rw [l_skolemref1_Norm_1_is] at hh
  subst hh
  generalize hh : k_skolemref1_Norm_2 = R
  rw [k_skolemref1_Norm_2_is] at hh
  subst hh
  kernel_rfl

/-! 23: skolem/lits.Rename -/

noncomputable def s_lits_Rename_0 (fuel d : Nat) : Run := fun fr h k => aexec (Cf fuel F_lits_Rename) false (acall (C fuel) false d) (acall (C fuel) true d) 55 (csub [true, true, false, true, false, false] (fbody Go.Proofs.Tryd.f23)) (asub [true, true, false, true, false, false] an23) fr h k

noncomputable def l_lits_Rename_0r (fuel d : Nat) (n : Nat) (fr : Fr) (h : AHeap) : Option (AExit × Fr × AHeap) := aloop (s_lits_Rename_0 fuel d) (some [1, 6, 13, 14, 15]) n fr h (kOut [4, 5, 6])

noncomputable def l_lits_Rename_0 : Nat → Nat → Nat → Fr → AHeap → Option (AExit × Fr × AHeap) := hide l_lits_Rename_0r

theorem l_lits_Rename_0_is : l_lits_Rename_0 = l_lits_Rename_0r := hide_eq _

noncomputable def k_lits_Rename_0r (fuel d : Nat) : AExit → Fr → AHeap → Option (AVal × AHeap) := (kBlock 0 (kSeq (Cf fuel F_lits_Rename) false (acall (C fuel) false d) (acall (C fuel) true d) 55 (csub [true, true, true] (fbody Go.Proofs.Tryd.f23)) (asub [true, true, true] an23) (kRet (Cf fuel F_lits_Rename) Go.Proofs.Tryd.f23.results.toList)))

noncomputable def k_lits_Rename_0 : Nat → Nat → AExit → Fr → AHeap → Option (AVal × AHeap) := hide k_lits_Rename_0r

theorem k_lits_Rename_0_is : k_lits_Rename_0 = k_lits_Rename_0r := hide_eq _

theorem e_lits_Rename (fuel d : Nat) (x0 : Sl) (x1 : Sl) (h : AHeap) :
    brun fuel (d + 1) F_lits_Rename [(AVal.slice x0), (AVal.slice x1)] h =
  (bif (decide ((0 : Int) ≤ ((x0.len : Nat) : Int)) && decide (((x0.len : Nat) : Int) * 8 ≤ 140737488355328) && decide (((x0.len : Nat) : Int) ≤ 140737488355328)) then ((l_lits_Rename_0 fuel d fuel [(1, (AVal.slice x1)), (6, (AVal.slice (Sl.mk ⟨AHeap.next h, 0, 0⟩ 0 (eqI (0 : Int) ((x0.len : Nat) : Int))))), (13, (AVal.slice x0)), (14, (AVal.int .i64 ((x0.len : Nat) : Int))), (15, (AVal.int .i64 (0 : Int)))] (AHeap.push h 1 [])).bind fun p1 =>
    k_lits_Rename_0 fuel d p1.1 p1.2.1 p1.2.2) else (none)) := by
  generalize hh : brun = R
  rw [brun_is] at hh
  subst hh
  generalize hh : l_lits_Rename_0 = R
  rw [l_lits_Rename_0_is] at hh
  subst hh
  generalize hh : k_lits_Rename_0 = R
  rw [k_lits_Rename_0_is] at hh
  subst hh
  kernel_rfl

theorem l_lits_Rename_0_eq (fuel d : Nat) (n : Nat) (x1 : Sl) (x6 : Sl) (x13 : Sl) (x14 : Int) (x15 : Int) (h : AHeap) :
    l_lits_Rename_0 fuel d (n + 1) [(1, (AVal.slice x1)), (6, (AVal.slice x6)), (13, (AVal.slice x13)), (14, (AVal.int .i64 x14)), (15, (AVal.int .i64 x15))] h =
  (bif (decide (x15 < x14)) then ((AHeap.addr h 1 x13 x15).bind fun p1 =>
    (AHeap.cell h p1).bind fun u2 =>
    (AVal.int? .i64 u2).bind fun n3 =>
    (run fuel d F_lits_Var [(AVal.int .i64 n3)] h).bind fun r4 =>
    (AVal.int? .i64 r4.1).bind fun n5 =>
    ((bif ((bif (decide (n5 < (1 : Int))) then true else (decide (((x1.len : Nat) : Int) ≤ n5))) == false) then ((AHeap.addr r4.2 1 x1 n5).bind fun p6 =>
    (AHeap.cell r4.2 p6).bind fun u7 =>
    (AVal.int? .i64 u7).bind fun n8 =>
    some ((AVal.bool (decide (n8 = (0 : Int)))), r4.2)) else (some ((AVal.bool true), r4.2)) : Option (AVal × AHeap))).bind fun r9 =>
    (AVal.bool? r9.1).bind fun b10 =>
    (bif b10 then (some (.ret, [(4, (AVal.slice Sl.nil)), (5, (AVal.bool false)), (6, (AVal.slice x6))], r9.2)) else ((bif (decide (n3 < (0 : Int))) then ((AHeap.addr r9.2 1 x1 n5).bind fun p11 =>
    (AHeap.cell r9.2 p11).bind fun u12 =>
    (AVal.int? .i64 u12).bind fun n13 =>
    (AHeap.append r9.2 false 1 8 x6 1 [(AVal.int .i64 (IntKind.wrap .i64 (0 - n13)))]).bind fun a14 =>
    l_lits_Rename_0 fuel d n [(1, (AVal.slice x1)), (6, (AVal.slice a14.1)), (13, (AVal.slice x13)), (14, (AVal.int .i64 x14)), (15, (AVal.int .i64 (IntKind.wrap .i64 (x15 + (1 : Int)))))] a14.2) else ((AHeap.addr r9.2 1 x1 n5).bind fun p15 =>
    (AHeap.cell r9.2 p15).bind fun u16 =>
    (AVal.int? .i64 u16).bind fun n17 =>
    (AHeap.append r9.2 false 1 8 x6 1 [(AVal.int .i64 n17)]).bind fun a18 =>
    l_lits_Rename_0 fuel d n [(1, (AVal.slice x1)), (6, (AVal.slice a18.1)), (13, (AVal.slice x13)), (14, (AVal.int .i64 x14)), (15, (AVal.int .i64 (IntKind.wrap .i64 (x15 + (1 : Int)))))] a18.2))))) else (some ((.exit 0), [(4, AVal.bot), (5, AVal.bot), (6, (AVal.slice x6))], h))) := by
  generalize hh : run = R
  rw [run_is] at hh
  subst hh
  generalize hh : l_lits_Rename_0 = R
  rw [l_lits_Rename_0_is] at hh
  subst hh
  kernel_rfl

theorem l_lits_Rename_0_0 (fuel d : Nat) (fr : Fr) (h : AHeap) :
    l_lits_Rename_0 fuel d 0 fr h =
  none := by
  generalize hh : l_lits_Rename_0 = R
  rw [l_lits_Rename_0_is] at hh
  subst hh
  kernel_rfl

theorem k_lits_Rename_0_x0 (fuel d : Nat) (x4 : AVal) (x5 : AVal) (x6 : Sl) (h : AHeap) :
    k_lits_Rename_0 fuel d (.exit 0) [(4, x4), (5, x5), (6, (AVal.slice x6))] h =
  some ((AVal.tup [(AVal.slice x6), (AVal.bool true)]), h) := by
  generalize hh : k_lits_Rename_0 = R
  rw [k_lits_Rename_0_is] at hh
  subst hh
  kernel_rfl

theorem k_lits_Rename_0_r (fuel d : Nat) (x4 : Sl) (x5 : Bool) (x6 : AVal) (h : AHeap) :
    k_lits_Rename_0 fuel d .ret [(4, (AVal.slice x4)), (5, (AVal.bool x5)), (6, x6)] h =
  some ((AVal.tup [(AVal.slice x4), (AVal.bool x5)]), h) := by
  generalize hh : k_lits_Rename_0 = R
  rw [k_lits_Rename_0_is] at hh
  subst hh
  kernel_rfl

/-! 24: skolem/skolemref1.Rename -/

noncomputable def s_skolemref1_Rename_0 (fuel d : Nat) : Run := fun fr h k => aexec (Cf fuel F_skolemref1_Rename) false (acall (C fuel) false d) (acall (C fuel) true d) 53 (csub [true, true, false, true, false, false] (fbody Go.Proofs.Tryd.f24)) (asub [true, true, false, true, false, false] an24) fr h k

noncomputable def l_skolemref1_Rename_0r (fuel d : Nat) (n : Nat) (fr : Fr) (h : AHeap) : Option (AExit × Fr × AHeap) := aloop (s_skolemref1_Rename_0 fuel d) (some [0, 1, 6, 7]) n fr h (kOut [4, 5, 6])

noncomputable def l_skolemref1_Rename_0 : Nat → Nat → Nat → Fr → AHeap → Option (AExit × Fr × AHeap) := hide l_skolemref1_Rename_0r

theorem l_skolemref1_Rename_0_is : l_skolemref1_Rename_0 = l_skolemref1_Rename_0r := hide_eq _

noncomputable def k_skolemref1_Rename_0r (fuel d : Nat) : AExit → Fr → AHeap → Option (AVal × AHeap) := (kBlock 0 (kSeq (Cf fuel F_skolemref1_Rename) false (acall (C fuel) false d) (acall (C fuel) true d) 53 (csub [true, true, true] (fbody Go.Proofs.Tryd.f24)) (asub [true, true, true] an24) (kRet (Cf fuel F_skolemref1_Rename) Go.Proofs.Tryd.f24.results.toList)))

noncomputable def k_skolemref1_Rename_0 : Nat → Nat → AExit → Fr → AHeap → Option (AVal × AHeap) := hide k_skolemref1_Rename_0r

theorem k_skolemref1_Rename_0_is : k_skolemref1_Rename_0 = k_skolemref1_Rename_0r := hide_eq _

noncomputable def k_skolemref1_Rename_1r (fuel d : Nat) (n : Nat) : AExit → Fr → AHeap → Option (AExit × Fr × AHeap) := (kSeq (Cf fuel F_skolemref1_Rename) false (acall (C fuel) false d) (acall (C fuel) true d) 53 (csub [true, true, false, true, false, false, true, false, false, true, true, true, true, true] (fbody Go.Proofs.Tryd.f24)) (asub [true, true, false, true, false, false, true, false, false, true, true, true, true, true] an24) (kBlock 1 (kSeq (Cf fuel F_skolemref1_Rename) false (acall (C fuel) false d) (acall (C fuel) true d) 53 (csub [true, true, false, true, false, false, true, true] (fbody Go.Proofs.Tryd.f24)) (asub [true, true, false, true, false, false, true, true] an24) (kLoop (s_skolemref1_Rename_0 fuel d) (some [0, 1, 6, 7]) n (kOut [4, 5, 6])))))

noncomputable def k_skolemref1_Rename_1 : Nat → Nat → Nat → AExit → Fr → AHeap → Option (AExit × Fr × AHeap) := hide k_skolemref1_Rename_1r

theorem k_skolemref1_Rename_1_is : k_skolemref1_Rename_1 = k_skolemref1_Rename_1r := hide_eq _

theorem e_skolemref1_Rename (fuel d : Nat) (x0 : Sl) (x1 : Sl) (h : AHeap) :
    brun fuel (d + 1) F_skolemref1_Rename [(AVal.slice x0), (AVal.slice x1)] h =
  (l_skolemref1_Rename_0 fuel d fuel [(0, (AVal.slice x0)), (1, (AVal.slice x1)), (6, (AVal.slice Sl.nil)), (7, (AVal.int .i64 (0 : Int)))] h).bind fun p1 =>
    k_skolemref1_Rename_0 fuel d p1.1 p1.2.1 p1.2.2 := by
  generalize hh : brun = R
  rw [brun_is] at hh
  subst hh
  generalize hh : l_skolemref1_Rename_0 = R
  rw [l_skolemref1_Rename_0_is] at hh
  subst hh
  generalize hh : k_skolemref1_Rename_0 = R
  rw [k_skolemref1_Rename_0_is] at hh
  subst hh
  kernel_rfl

theorem l_skolemref1_Rename_0_eq (fuel d : Nat) (n : Nat) (x0 : Sl) (x1 : Sl) (x6 : Sl) (x7 : Int) (h : AHeap) :
    l_skolemref1_Rename_0 fuel d (n + 1) [(0, (AVal.slice x0)), (1, (AVal.slice x1)), (6, (AVal.slice x6)), (7, (AVal.int .i64 x7))] h =
  (bif (decide (x7 < ((x0.len : Nat) : Int))) then ((AHeap.addr h 1 x0 x7).bind fun p1 =>
    (AHeap.cell h p1).bind fun u2 =>
    (AVal.int? .i64 u2).bind fun n3 =>
    (bif (bif (bif (decide (((x1.len : Nat) : Int) ≤ n3)) then true else (decide (((x1.len : Nat) : Int) ≤ (IntKind.wrap .i64 (0 - n3))))) then true else (decide (n3 = (IntKind.wrap .i64 (0 - n3))))) then (some (.ret, [(4, (AVal.slice Sl.nil)), (5, (AVal.bool false)), (6, (AVal.slice x6))], h)) else ((run fuel d F_skolemref_Abs [(AVal.int .i64 n3)] h).bind fun r4 =>
    (AVal.int? .i64 r4.1).bind fun n5 =>
    (AHeap.addr r4.2 1 x1 n5).bind fun p6 =>
    (AHeap.cell r4.2 p6).bind fun u7 =>
    (AVal.int? .i64 u7).bind fun n8 =>
    (bif (decide (n8 = (0 : Int))) then (some (.ret, [(4, (AVal.slice Sl.nil)), (5, (AVal.bool false)), (6, (AVal.slice x6))], r4.2)) else (((bif (decide (n3 < (0 : Int))) then (some (.normal, [(0, (AVal.slice x0)), (1, (AVal.slice x1)), (6, (AVal.slice x6)), (7, (AVal.int .i64 x7)), (9, (AVal.int .i64 (IntKind.wrap .i64 (0 - n8))))], r4.2)) else (some (.normal, [(0, (AVal.slice x0)), (1, (AVal.slice x1)), (6, (AVal.slice x6)), (7, (AVal.int .i64 x7)), (9, (AVal.int .i64 n8))], r4.2)))).bind fun p9 =>
    k_skolemref1_Rename_1 fuel d n p9.1 p9.2.1 p9.2.2))))) else (some ((.exit 0), [(4, AVal.bot), (5, AVal.bot), (6, (AVal.slice x6))], h))) := by
  generalize hh : run = R
  rw [run_is] at hh
  subst hh
  generalize hh : l_skolemref1_Rename_0 = R
  rw [l_skolemref1_Rename_0_is] at hh
  subst hh
  generalize hh : k_skolemref1_Rename_1 = R
  rw [k_skolemref1_Rename_1_is] at hh
  subst hh
  kernel_rfl

theorem l_skolemref1_Rename_0_0 (fuel d : Nat) (fr : Fr) (h : AHeap) :
    l_skolemref1_Rename_0 fuel d 0 fr h =
  none := by
  generalize hh : l_skolemref1_Rename_0 = R
  rw [l_skolemref1_Rename_0_is] at hh
  subst hh
  kernel_rfl

theorem k_skolemref1_Rename_0_x0 (fuel d : Nat) (x4 : AVal) (x5 : AVal) (x6 : Sl) (h : AHeap) :
    k_skolemref1_Rename_0 fuel d (.exit 0) [(4, x4), (5, x5), (6, (AVal.slice x6))] h =
  some ((AVal.tup [(AVal.slice x6), (AVal.bool true)]), h) := by
  generalize hh : k_skolemref1_Rename_0 = R
  rw [k_skolemref1_Rename_0_is] at hh
  subst hh
  kernel_rfl

theorem k_skolemref1_Rename_0_r (fuel d : Nat) (x4 : Sl) (x5 : Bool) (x6 : AVal) (h : AHeap) :
    k_skolemref1_Rename_0 fuel d .ret [(4, (AVal.slice x4)), (5, (AVal.bool x5)), (6, x6)] h =
  some ((AVal.tup [(AVal.slice x4), (AVal.bool x5)]), h) := by
  generalize hh : k_skolemref1_Rename_0 = R
  rw [k_skolemref1_Rename_0_is] at hh
  subst hh
  kernel_rfl

theorem k_skolemref1_Rename_1_n (fuel d : Nat) (n : Nat) (x0 : Sl) (x1 : Sl) (x6 : Sl) (x7 : Int) (x9 : Int) (h : AHeap) :
    k_skolemref1_Rename_1 fuel d n .normal [(0, (AVal.slice x0)), (1, (AVal.slice x1)), (6, (AVal.slice x6)), (7, (AVal.int .i64 x7)), (9, (AVal.int .i64 x9))] h =
  (AHeap.append h false 1 8 x6 1 [(AVal.int .i64 x9)]).bind fun a1 =>
    l_skolemref1_Rename_0 fuel d n [(0, (AVal.slice x0)), (1, (AVal.slice x1)), (6, (AVal.slice a1.1)), (7, (AVal.int .i64 (IntKind.wrap .i64 (x7 + (1 : Int)))))] a1.2 := by
  generalize hh : l_skolemref1_Rename_0 = R
  rw [l_skolemref1_Rename_0_is] at hh
  subst hh
  generalize hh : k_skolemref1_Rename_1 = R
  rw [k_skolemref1_Rename_1_is] at hh
  subst hh
  kernel_rfl

/-! 25: skolem/lits.Var -/

theorem e_lits_Var (fuel d : Nat) (x0 : Int) (h : AHeap) :
    brun fuel (d + 1) F_lits_Var [(AVal.int .i64 x0)] h =
  some ((AVal.int .i64 (bif decide (x0 < (IntKind.wrap .i64 (0 - x0))) then (IntKind.wrap .i64 (0 - x0)) else x0)), h) := by
  generalize hh : brun = R
  rw [brun_is] at hh
  subst hh
  kernel_rfl

/-! 26: skolem/skolemref.Abs -/

theorem e_skolemref_Abs (fuel d : Nat) (x0 : Int) (h : AHeap) :
    brun fuel (d + 1) F_skolemref_Abs [(AVal.int .i64 x0)] h =
  (bif (decide (x0 < (0 : Int))) then (some ((AVal.int .i64 (IntKind.wrap .i64 (0 - x0))), h)) else (some ((AVal.int .i64 x0), h))) := by
  generalize hh : brun = R
  rw [brun_is] at hh
  subst hh
  kernel_rfl

/-! 27: skolem/skolemref1.Is -/

theorem e_skolemref1_Is (fuel d : Nat) (x0 : Int) (x1 : Int) (h : AHeap) :
    brun fuel (d + 1) F_skolemref1_Is [(AVal.int .i64 x0), (AVal.int .i64 x1)] h =
  some ((AVal.bool (bif (bif (!decide (x0 = (0 : Int))) then (decide (x0 ≤ x1)) else false) then (decide ((IntKind.wrap .i64 (0 - x1)) ≤ x0)) else false)), h) := by
  generalize hh : brun = R
  rw [brun_is] at hh
  subst hh
  kernel_rfl

/-! 28: skolem/skolemref.SameInts -/

noncomputable def s_skolemref_SameInts_0 (fuel d : Nat) : Run := fun fr h k => aexec (Cf fuel F_skolemref_SameInts) false (acall (C fuel) false d) (acall (C fuel) true d) 29 (csub [true, true, false, true, false, false] (fbody Go.Proofs.Tryd.f28)) (asub [true, true, false, true, false, false] an28) fr h k

noncomputable def l_skolemref_SameInts_0r (fuel d : Nat) (n : Nat) (fr : Fr) (h : AHeap) : Option (AExit × Fr × AHeap) := aloop (s_skolemref_SameInts_0 fuel d) (some [0, 1, 5]) n fr h (kOut [4])

noncomputable def l_skolemref_SameInts_0 : Nat → Nat → Nat → Fr → AHeap → Option (AExit × Fr × AHeap) := hide l_skolemref_SameInts_0r

theorem l_skolemref_SameInts_0_is : l_skolemref_SameInts_0 = l_skolemref_SameInts_0r := hide_eq _

noncomputable def k_skolemref_SameInts_0r (fuel d : Nat) : AExit → Fr → AHeap → Option (AVal × AHeap) := (kBlock 0 (kSeq (Cf fuel F_skolemref_SameInts) false (acall (C fuel) false d) (acall (C fuel) true d) 29 (csub [true, true, true] (fbody Go.Proofs.Tryd.f28)) (asub [true, true, true] an28) (kRet (Cf fuel F_skolemref_SameInts) Go.Proofs.Tryd.f28.results.toList)))

noncomputable def k_skolemref_SameInts_0 : Nat → Nat → AExit → Fr → AHeap → Option (AVal × AHeap) := hide k_skolemref_SameInts_0r

theorem k_skolemref_SameInts_0_is : k_skolemref_SameInts_0 = k_skolemref_SameInts_0r := hide_eq _

theorem e_skolemref_SameInts (fuel d : Nat) (x0 : Sl) (x1 : Sl) (h : AHeap) :
    brun fuel (d + 1) F_skolemref_SameInts [(AVal.slice x0), (AVal.slice x1)] h =
  (bif (!decide (((x0.len : Nat) : Int) = ((x1.len : Nat) : Int))) then (some ((AVal.bool false), h)) else ((l_skolemref_SameInts_0 fuel d fuel [(0, (AVal.slice x0)), (1, (AVal.slice x1)), (5, (AVal.int .i64 (0 : Int)))] h).bind fun p1 =>
    k_skolemref_SameInts_0 fuel d p1.1 p1.2.1 p1.2.2)) := by
  generalize hh : brun = R
  rw [brun_is] at hh
  subst hh
  generalize hh : l_skolemref_SameInts_0 = R
  rw [l_skolemref_SameInts_0_is] at hh
  subst hh
  generalize hh : k_skolemref_SameInts_0 = R
  rw [k_skolemref_SameInts_0_is] at hh
  subst hh
  kernel_rfl

theorem l_skolemref_SameInts_0_eq (fuel d : Nat) (n : Nat) (x0 : Sl) (x1 : Sl) (x5 : Int) (h : AHeap) :
    l_skolemref_SameInts_0 fuel d (n + 1) [(0, (AVal.slice x0)), (1, (AVal.slice x1)), (5, (AVal.int .i64 x5))] h =
  (bif (decide (x5 < ((x0.len : Nat) : Int))) then ((AHeap.addr h 1 x0 x5).bind fun p1 =>
    (AHeap.cell h p1).bind fun u2 =>
    (AVal.int? .i64 u2).bind fun n3 =>
    (AHeap.addr h 1 x1 x5).bind fun p4 =>
    (AHeap.cell h p4).bind fun u5 =>
    (AVal.int? .i64 u5).bind fun n6 =>
    (bif (!(decide (n3 = n6))) then (some (.ret, [(4, (AVal.bool false))], h)) else (l_skolemref_SameInts_0 fuel d n [(0, (AVal.slice x0)), (1, (AVal.slice x1)), (5, (AVal.int .i64 (IntKind.wrap .i64 (x5 + (1 : Int)))))] h))) else (some ((.exit 0), [(4, AVal.bot)], h))) := by
  generalize hh : l_skolemref_SameInts_0 = R
  rw [l_skolemref_SameInts_0_is] at hh
  subst hh
  kernel_rfl

theorem l_skolemref_SameInts_0_0 (fuel d : Nat) (fr : Fr) (h : AHeap) :
    l_skolemref_SameInts_0 fuel d 0 fr h =
  none := by
  generalize hh : l_skolemref_SameInts_0 = R
  rw [l_skolemref_SameInts_0_is] at hh
  subst hh
  kernel_rfl

theorem k_skolemref_SameInts_0_x0 (fuel d : Nat) (x4 : AVal) (h : AHeap) :
    k_skolemref_SameInts_0 fuel d (.exit 0) [(4, x4)] h =
  some ((AVal.bool true), h) := by
  generalize hh : k_skolemref_SameInts_0 = R
  rw [k_skolemref_SameInts_0_is] at hh
  subst hh
  kernel_rfl

theorem k_skolemref_SameInts_0_r (fuel d : Nat) (x4 : Bool) (h : AHeap) :
    k_skolemref_SameInts_0 fuel d .ret [(4, (AVal.bool x4))] h =
  some ((AVal.bool x4), h) := by
  generalize hh : k_skolemref_SameInts_0 = R
  rw [k_skolemref_SameInts_0_is] at hh
  subst hh
  kernel_rfl

/-! 29: skolem/skolemref1.CheckCNF -/

noncomputable def s_skolemref1_CheckCNF_0 (fuel d : Nat) : Run := fun fr h k => aexec (Cf fuel F_skolemref1_CheckCNF) false (acall (C fuel) false d) (acall (C fuel) true d) 73 (csub [true, true, false, true, false, false] (fbody Go.Proofs.Tryd.f29)) (asub [true, true, false, true, false, false] an29) fr h k

noncomputable def l_skolemref1_CheckCNF_0r (fuel d : Nat) (n : Nat) (fr : Fr) (h : AHeap) : Option (AExit × Fr × AHeap) := aloop (s_skolemref1_CheckCNF_0 fuel d) (some [1, 2, 3, 4]) n fr h (kOut [1, 2, 3])

noncomputable def l_skolemref1_CheckCNF_0 : Nat → Nat → Nat → Fr → AHeap → Option (AExit × Fr × AHeap) := hide l_skolemref1_CheckCNF_0r

theorem l_skolemref1_CheckCNF_0_is : l_skolemref1_CheckCNF_0 = l_skolemref1_CheckCNF_0r := hide_eq _

noncomputable def k_skolemref1_CheckCNF_0r (fuel d : Nat) : AExit → Fr → AHeap → Option (AVal × AHeap) := (kBlock 0 (kSeq (Cf fuel F_skolemref1_CheckCNF) false (acall (C fuel) false d) (acall (C fuel) true d) 73 (csub [true, true, true] (fbody Go.Proofs.Tryd.f29)) (asub [true, true, true] an29) (kRet (Cf fuel F_skolemref1_CheckCNF) Go.Proofs.Tryd.f29.results.toList)))

noncomputable def k_skolemref1_CheckCNF_0 : Nat → Nat → AExit → Fr → AHeap → Option (AVal × AHeap) := hide k_skolemref1_CheckCNF_0r

theorem k_skolemref1_CheckCNF_0_is : k_skolemref1_CheckCNF_0 = k_skolemref1_CheckCNF_0r := hide_eq _

noncomputable def s_skolemref1_CheckCNF_1 (fuel d : Nat) : Run := fun fr h k => aexec (Cf fuel F_skolemref1_CheckCNF) false (acall (C fuel) false d) (acall (C fuel) true d) 73 (csub [true, true, true, true, false, true, false, false] (fbody Go.Proofs.Tryd.f29)) (asub [true, true, true, true, false, true, false, false] an29) fr h k

noncomputable def l_skolemref1_CheckCNF_1r (fuel d : Nat) (n : Nat) (fr : Fr) (h : AHeap) : Option (AExit × Fr × AHeap) := aloop (s_skolemref1_CheckCNF_1 fuel d) (some [1, 2, 5]) n fr h (kOut [2])

noncomputable def l_skolemref1_CheckCNF_1 : Nat → Nat → Nat → Fr → AHeap → Option (AExit × Fr × AHeap) := hide l_skolemref1_CheckCNF_1r

theorem l_skolemref1_CheckCNF_1_is : l_skolemref1_CheckCNF_1 = l_skolemref1_CheckCNF_1r := hide_eq _

noncomputable def k_skolemref1_CheckCNF_1r (fuel d : Nat) : AExit → Fr → AHeap → Option (AVal × AHeap) := (kBlock 2 (kSeq (Cf fuel F_skolemref1_CheckCNF) false (acall (C fuel) false d) (acall (C fuel) true d) 73 (csub [true, true, true, true, true] (fbody Go.Proofs.Tryd.f29)) (asub [true, true, true, true, true] an29) (kRet (Cf fuel F_skolemref1_CheckCNF) Go.Proofs.Tryd.f29.results.toList)))

noncomputable def k_skolemref1_CheckCNF_1 : Nat → Nat → AExit → Fr → AHeap → Option (AVal × AHeap) := hide k_skolemref1_CheckCNF_1r

theorem k_skolemref1_CheckCNF_1_is : k_skolemref1_CheckCNF_1 = k_skolemref1_CheckCNF_1r := hide_eq _

noncomputable def s_skolemref1_CheckCNF_2 (fuel d : Nat) : Run := fun fr h k => aexec (Cf fuel F_skolemref1_CheckCNF) false (acall (C fuel) false d) (acall (C fuel) true d) 73 (csub [true, true, true, true, false, true, false, false, true, false, false, true, false, false] (fbody Go.Proofs.Tryd.f29)) (asub [true, true, true, true, false, true, false, false, true, false, false, true, false, false] an29) fr h k

noncomputable def l_skolemref1_CheckCNF_2r (fuel d : Nat) (n : Nat) (fr : Fr) (h : AHeap) : Option (AExit × Fr × AHeap) := aloop (s_skolemref1_CheckCNF_2 fuel d) (some [1, 2, 5, 6]) n fr h (kOut [1, 2, 5])

noncomputable def l_skolemref1_CheckCNF_2 : Nat → Nat → Nat → Fr → AHeap → Option (AExit × Fr × AHeap) := hide l_skolemref1_CheckCNF_2r

theorem l_skolemref1_CheckCNF_2_is : l_skolemref1_CheckCNF_2 = l_skolemref1_CheckCNF_2r := hide_eq _

noncomputable def k_skolemref1_CheckCNF_2r (fuel d : Nat) (n : Nat) : AExit → Fr → AHeap → Option (AExit × Fr × AHeap) := (kBlock 4 (kBlock 3 (kSeq (Cf fuel F_skolemref1_CheckCNF) false (acall (C fuel) false d) (acall (C fuel) true d) 73 (csub [true, true, true, true, false, true, false, false, true, true] (fbody Go.Proofs.Tryd.f29)) (asub [true, true, true, true, false, true, false, false, true, true] an29) (kLoop (s_skolemref1_CheckCNF_1 fuel d) (some [1, 2, 5]) n (kOut [2])))))

noncomputable def k_skolemref1_CheckCNF_2 : Nat → Nat → Nat → AExit → Fr → AHeap → Option (AExit × Fr × AHeap) := hide k_skolemref1_CheckCNF_2r

theorem k_skolemref1_CheckCNF_2_is : k_skolemref1_CheckCNF_2 = k_skolemref1_CheckCNF_2r := hide_eq _

theorem e_skolemref1_CheckCNF (fuel d : Nat) (x0 : List AVal) (h : AHeap) :
    brun fuel (d + 1) F_skolemref1_CheckCNF [(AVal.agg x0)] h =
  (bif (List.all x0 AVal.isCell) then ((l_skolemref1_CheckCNF_0 fuel d fuel [(1, (AVal.ptr (Pt.mk ⟨AHeap.next h, 0, 0⟩ (List.length x0)))), (2, (AVal.ptr (Pt.mk ⟨AHeap.next (AHeap.push h 1 x0), 0, 0⟩ 3))), (3, (AVal.int .i64 (0 : Int))), (4, (AVal.int .i64 (0 : Int)))] (AHeap.push (AHeap.push h 1 x0) 1 [(AVal.int .i64 (0 : Int)), (AVal.bool false), (AVal.int .i64 (0 : Int))])).bind fun p1 =>
    k_skolemref1_CheckCNF_0 fuel d p1.1 p1.2.1 p1.2.2) else (none)) := by
  generalize hh : brun = R
  rw [brun_is] at hh
  subst hh
  generalize hh : l_skolemref1_CheckCNF_0 = R
  rw [l_skolemref1_CheckCNF_0_is] at hh
  subst hh
  generalize hh : k_skolemref1_CheckCNF_0 = R
  rw [k_skolemref1_CheckCNF_0_is] at hh
  subst hh
  kernel_rfl

theorem l_skolemref1_CheckCNF_0_eq (fuel d : Nat) (n : Nat) (x1 : Pt) (x2 : Pt) (x3 : Int) (x4 : Int) (h : AHeap) :
    l_skolemref1_CheckCNF_0 fuel d (n + 1) [(1, (AVal.ptr x1)), (2, (AVal.ptr x2)), (3, (AVal.int .i64 x3)), (4, (AVal.int .i64 x4))] h =
  (Pt.field 1 x1).bind fun p1 =>
    (AHeap.cell h p1).bind fun u2 =>
    (AVal.slice? u2).bind fun s3 =>
    (bif (decide (x4 < ((s3.len : Nat) : Int))) then ((Pt.field 1 x1).bind fun p4 =>
    (AHeap.cell h p4).bind fun u5 =>
    (AVal.slice? u5).bind fun s6 =>
    (AHeap.addr h 1 s6 x4).bind fun p7 =>
    (AHeap.cell h p7).bind fun u8 =>
    (AVal.slice? u8).bind fun s9 =>
    l_skolemref1_CheckCNF_0 fuel d n [(1, (AVal.ptr x1)), (2, (AVal.ptr x2)), (3, (AVal.int .i64 (IntKind.wrap .i64 (x3 + ((s9.len : Nat) : Int))))), (4, (AVal.int .i64 (IntKind.wrap .i64 (x4 + (1 : Int)))))] h) else (some ((.exit 0), [(1, (AVal.ptr x1)), (2, (AVal.ptr x2)), (3, (AVal.int .i64 x3))], h))) := by
  generalize hh : l_skolemref1_CheckCNF_0 = R
  rw [l_skolemref1_CheckCNF_0_is] at hh
  subst hh
  kernel_rfl

theorem l_skolemref1_CheckCNF_0_0 (fuel d : Nat) (fr : Fr) (h : AHeap) :
    l_skolemref1_CheckCNF_0 fuel d 0 fr h =
  none := by
  generalize hh : l_skolemref1_CheckCNF_0 = R
  rw [l_skolemref1_CheckCNF_0_is] at hh
  subst hh
  kernel_rfl

theorem k_skolemref1_CheckCNF_0_x0 (fuel d : Nat) (x1 : Pt) (x2 : Pt) (x3 : Int) (h : AHeap) :
    k_skolemref1_CheckCNF_0 fuel d (.exit 0) [(1, (AVal.ptr x1)), (2, (AVal.ptr x2)), (3, (AVal.int .i64 x3))] h =
  (Pt.field 0 x1).bind fun p1 =>
    (AHeap.cell h p1).bind fun u2 =>
    (AVal.int? .i64 u2).bind fun n3 =>
    ((bif ((decide (n3 < (0 : Int))) == false) then ((Pt.field 0 x1).bind fun p4 =>
    (AHeap.cell h p4).bind fun u5 =>
    (AVal.int? .i64 u5).bind fun n6 =>
    some ((AVal.bool (decide ((4000 : Int) < n6))), h)) else (some ((AVal.bool true), h)) : Option (AVal × AHeap))).bind fun r7 =>
    (AVal.bool? r7.1).bind fun b8 =>
    ((bif (b8 == false) then ((Pt.field 1 x1).bind fun p9 =>
    (AHeap.cell r7.2 p9).bind fun u10 =>
    (AVal.slice? u10).bind fun s11 =>
    some ((AVal.bool (decide ((20000 : Int) < ((s11.len : Nat) : Int)))), r7.2)) else (some ((AVal.bool true), r7.2)) : Option (AVal × AHeap))).bind fun r12 =>
    (AVal.bool? r12.1).bind fun b13 =>
    (bif (bif b13 then true else (decide ((80000 : Int) < x3))) then ((run fuel d F_skolemref_Bare [(AVal.int .i64 (102 : Int))] r12.2).bind fun r14 =>
    (AVal.agg? r14.1).bind fun c15 =>
    (bif (!false && Nat.beq (List.length c15) 3 && List.all c15 AVal.isCell) then ((AHeap.storeAt r14.2 c15 x2).bind fun h16 =>
    ((AHeap.cellsAt h16 3 x2).bind fun c17 =>
    some ((AVal.agg c17)) : Option AVal).map fun v => (v, h16)) else (none))) else ((l_skolemref1_CheckCNF_1 fuel d fuel [(1, (AVal.ptr x1)), (2, (AVal.ptr x2)), (5, (AVal.int .i64 (0 : Int)))] r12.2).bind fun p18 =>
    k_skolemref1_CheckCNF_1 fuel d p18.1 p18.2.1 p18.2.2)) := by
  generalize hh : run = R
  rw [run_is] at hh
  subst hh
  generalize hh : k_skolemref1_CheckCNF_0 = R
  rw [k_skolemref1_CheckCNF_0_is] at hh
  subst hh
  generalize hh : l_skolemref1_CheckCNF_1 = R
  rw [l_skolemref1_CheckCNF_1_is] at hh
  subst hh
  generalize hh : k_skolemref1_CheckCNF_1 = R
  rw [k_skolemref1_CheckCNF_1_is] at hh
  subst hh
  kernel_rfl

theorem l_skolemref1_CheckCNF_1_eq (fuel d : Nat) (n : Nat) (x1 : Pt) (x2 : Pt) (x5 : Int) (h : AHeap) :
    l_skolemref1_CheckCNF_1 fuel d (n + 1) [(1, (AVal.ptr x1)), (2, (AVal.ptr x2)), (5, (AVal.int .i64 x5))] h =
  (Pt.field 1 x1).bind fun p1 =>
    (AHeap.cell h p1).bind fun u2 =>
    (AVal.slice? u2).bind fun s3 =>
    (bif (decide (x5 < ((s3.len : Nat) : Int))) then ((l_skolemref1_CheckCNF_2 fuel d fuel [(1, (AVal.ptr x1)), (2, (AVal.ptr x2)), (5, (AVal.int .i64 x5)), (6, (AVal.int .i64 (0 : Int)))] h).bind fun p4 =>
    k_skolemref1_CheckCNF_2 fuel d n p4.1 p4.2.1 p4.2.2) else (some ((.exit 2), [(2, (AVal.ptr x2))], h))) := by
  generalize hh : l_skolemref1_CheckCNF_1 = R
  rw [l_skolemref1_CheckCNF_1_is] at hh
  subst hh
  generalize hh : l_skolemref1_CheckCNF_2 = R
  rw [l_skolemref1_CheckCNF_2_is] at hh
  subst hh
  generalize hh : k_skolemref1_CheckCNF_2 = R
  rw [k_skolemref1_CheckCNF_2_is] at hh
  subst hh
  kernel_rfl

theorem l_skolemref1_CheckCNF_1_0 (fuel d : Nat) (fr : Fr) (h : AHeap) :
    l_skolemref1_CheckCNF_1 fuel d 0 fr h =
  none := by
  generalize hh : l_skolemref1_CheckCNF_1 = R
  rw [l_skolemref1_CheckCNF_1_is] at hh
  subst hh
  kernel_rfl

theorem k_skolemref1_CheckCNF_1_x2 (fuel d : Nat) (x2 : Pt) (h : AHeap) :
    k_skolemref1_CheckCNF_1 fuel d (.exit 2) [(2, (AVal.ptr x2))] h =
  (run fuel d F_skolemref_None [] h).bind fun r1 =>
    (AVal.agg? r1.1).bind fun c2 =>
    (bif (!false && Nat.beq (List.length c2) 3 && List.all c2 AVal.isCell) then ((AHeap.storeAt r1.2 c2 x2).bind fun h3 =>
    ((AHeap.cellsAt h3 3 x2).bind fun c4 =>
    some ((AVal.agg c4)) : Option AVal).map fun v => (v, h3)) else (none)) := by
  generalize hh : run = R
  rw [run_is] at hh
  subst hh
  generalize hh : k_skolemref1_CheckCNF_1 = R
  rw [k_skolemref1_CheckCNF_1_is] at hh
  subst hh
  kernel_rfl

theorem k_skolemref1_CheckCNF_1_r (fuel d : Nat) (x2 : Pt) (h : AHeap) :
    k_skolemref1_CheckCNF_1 fuel d .ret [(2, (AVal.ptr x2))] h =
  ((AHeap.cellsAt h 3 x2).bind fun c1 =>
    some ((AVal.agg c1)) : Option AVal).map fun v => (v, h) := by
  generalize hh : k_skolemref1_CheckCNF_1 = R
  rw [k_skolemref1_CheckCNF_1_is] at hh
  subst hh
  kernel_rfl

theorem l_skolemref1_CheckCNF_2_eq (fuel d : Nat) (n : Nat) (x1 : Pt) (x2 : Pt) (x5 : Int) (x6 : Int) (h : AHeap) :
    l_skolemref1_CheckCNF_2 fuel d (n + 1) [(1, (AVal.ptr x1)), (2, (AVal.ptr x2)), (5, (AVal.int .i64 x5)), (6, (AVal.int .i64 x6))] h =
  (Pt.field 1 x1).bind fun p1 =>
    (AHeap.cell h p1).bind fun u2 =>
    (AVal.slice? u2).bind fun s3 =>
    (AHeap.addr h 1 s3 x5).bind fun p4 =>
    (AHeap.cell h p4).bind fun u5 =>
    (AVal.slice? u5).bind fun s6 =>
    (bif (decide (x6 < ((s6.len : Nat) : Int))) then ((Pt.field 1 x1).bind fun p7 =>
    (AHeap.cell h p7).bind fun u8 =>
    (AVal.slice? u8).bind fun s9 =>
    (AHeap.addr h 1 s9 x5).bind fun p10 =>
    (AHeap.cell h p10).bind fun u11 =>
    (AVal.slice? u11).bind fun s12 =>
    (AHeap.addr h 1 s12 x6).bind fun p13 =>
    (AHeap.cell h p13).bind fun u14 =>
    (AVal.int? .i64 u14).bind fun n15 =>
    (Pt.field 0 x1).bind fun p16 =>
    (AHeap.cell h p16).bind fun u17 =>
    (AVal.int? .i64 u17).bind fun n18 =>
    (run fuel d F_skolemref1_Is [(AVal.int .i64 n15), (AVal.int .i64 n18)] h).bind fun r19 =>
    (AVal.bool? r19.1).bind fun b20 =>
    (bif (!b20) then ((run fuel d F_skolemref_Placed [(AVal.int .i64 (104 : Int)), (AVal.int .i64 x5)] r19.2).bind fun r21 =>
    (AVal.agg? r21.1).bind fun c22 =>
    (bif (!false && Nat.beq (List.length c22) 3 && List.all c22 AVal.isCell) then ((AHeap.storeAt r21.2 c22 x2).bind fun h23 =>
    some (.ret, [(1, (AVal.ptr x1)), (2, (AVal.ptr x2)), (5, (AVal.int .i64 x5))], h23)) else (none))) else (l_skolemref1_CheckCNF_2 fuel d n [(1, (AVal.ptr x1)), (2, (AVal.ptr x2)), (5, (AVal.int .i64 x5)), (6, (AVal.int .i64 (IntKind.wrap .i64 (x6 + (1 : Int)))))] r19.2))) else (some ((.exit 4), [(1, (AVal.ptr x1)), (2, (AVal.ptr x2)), (5, (AVal.int .i64 x5))], h))) := by
  generalize hh : run = R
  rw [run_is] at hh
  subst hh
  generalize hh : l_skolemref1_CheckCNF_2 = R
  rw [l_skolemref1_CheckCNF_2_is] at hh
  subst hh
  kernel_rfl

theorem l_skolemref1_CheckCNF_2_0 (fuel d : Nat) (fr : Fr) (h : AHeap) :
    l_skolemref1_CheckCNF_2 fuel d 0 fr h =
  none := by
  generalize hh : l_skolemref1_CheckCNF_2 = R
  rw [l_skolemref1_CheckCNF_2_is] at hh
  subst hh
  kernel_rfl

theorem k_skolemref1_CheckCNF_2_x4 (fuel d : Nat) (n : Nat) (x1 : Pt) (x2 : Pt) (x5 : Int) (h : AHeap) :
    k_skolemref1_CheckCNF_2 fuel d n (.exit 4) [(1, (AVal.ptr x1)), (2, (AVal.ptr x2)), (5, (AVal.int .i64 x5))] h =
  l_skolemref1_CheckCNF_1 fuel d n [(1, (AVal.ptr x1)), (2, (AVal.ptr x2)), (5, (AVal.int .i64 (IntKind.wrap .i64 (x5 + (1 : Int)))))] h := by
  generalize hh : l_skolemref1_CheckCNF_1 = R
  rw [l_skolemref1_CheckCNF_1_is] at hh
  subst hh
  generalize hh : k_skolemref1_CheckCNF_2 = R
  rw [k_skolemref1_CheckCNF_2_is] at hh
  subst hh
  kernel_rfl

theorem k_skolemref1_CheckCNF_2_r (fuel d : Nat) (n : Nat) (x1 : AVal) (x2 : Pt) (x5 : AVal) (h : AHeap) :
    k_skolemref1_CheckCNF_2 fuel d n .ret [(1, x1), (2, (AVal.ptr x2)), (5, x5)] h =
  some (.ret, [(2, (AVal.ptr x2))], h) := by
  generalize hh : k_skolemref1_CheckCNF_2 = R
  rw [k_skolemref1_CheckCNF_2_is] at hh
  subst hh
  kernel_rfl

/-! 30: skolem/lits.Same -/

theorem e_lits_Same (fuel d : Nat) (x0 : Sl) (x1 : Sl) (h : AHeap) :
    brun fuel (d + 1) F_lits_Same [(AVal.slice x0), (AVal.slice x1)] h =
  (run fuel d F_lits_Norm [(AVal.slice x0)] h).bind fun r1 =>
    (bif AVal.isTup 2 r1.1 then ((AVal.comp 0 r1.1).bind fun u2 =>
    (AVal.slice? u2).bind fun s3 =>
    (AVal.comp 1 r1.1).bind fun u4 =>
    (AVal.bool? u4).bind fun b5 =>
    (run fuel d F_lits_Norm [(AVal.slice x1)] r1.2).bind fun r6 =>
    (bif AVal.isTup 2 r6.1 then ((AVal.comp 0 r6.1).bind fun u7 =>
    (AVal.slice? u7).bind fun s8 =>
    (AVal.comp 1 r6.1).bind fun u9 =>
    (AVal.bool? u9).bind fun b10 =>
    (run fuel d F_slices_Equal_s_int_int [(AVal.slice s3), (AVal.slice s8)] r6.2).bind fun r11 =>
    (AVal.bool? r11.1).bind fun b12 =>
    some ((AVal.bool b12), r11.2)) else none)) else none) := by
  generalize hh : run = R
  rw [run_is] at hh
  subst hh
  generalize hh : brun = R
  rw [brun_is] at hh
  subst hh
  kernel_rfl

/-! 31: skolem/skolemref1.SameClause -/

theorem e_skolemref1_SameClause (fuel d : Nat) (x0 : Sl) (x1 : Sl) (h : AHeap) :
    brun fuel (d + 1) F_skolemref1_SameClause [(AVal.slice x0), (AVal.slice x1)] h =
  (run fuel d F_skolemref1_Norm [(AVal.slice x0)] h).bind fun r1 =>
    (bif AVal.isTup 2 r1.1 then ((AVal.comp 0 r1.1).bind fun u2 =>
    (AVal.slice? u2).bind fun s3 =>
    (AVal.comp 1 r1.1).bind fun u4 =>
    (AVal.bool? u4).bind fun b5 =>
    (run fuel d F_skolemref1_Norm [(AVal.slice x1)] r1.2).bind fun r6 =>
    (bif AVal.isTup 2 r6.1 then ((AVal.comp 0 r6.1).bind fun u7 =>
    (AVal.slice? u7).bind fun s8 =>
    (AVal.comp 1 r6.1).bind fun u9 =>
    (AVal.bool? u9).bind fun b10 =>
    (run fuel d F_skolemref_SameInts [(AVal.slice s3), (AVal.slice s8)] r6.2).bind fun r11 =>
    (AVal.bool? r11.1).bind fun b12 =>
    some ((AVal.bool b12), r11.2)) else none)) else none) := by
  generalize hh : run = R
  rw [run_is] at hh
  subst hh
  generalize hh : brun = R
  rw [brun_is] at hh
  subst hh
  kernel_rfl

/-! 35: skolem/skolemmake.Lit -/

theorem e_skolemmake_Lit (fuel d : Nat) (x0 : Int) (x1 : Int) (h : AHeap) :
    brun fuel (d + 1) F_skolemmake_Lit [(AVal.int .i64 x0), (AVal.int .i64 x1)] h =
  (run fuel d F_skolemworld_Number [(AVal.int .i64 x0), (AVal.int .i64 (IntKind.wrap .i64 ((2 : Int) * x1)))] h).bind fun r1 =>
    (AVal.int? .i64 r1.1).bind fun n2 =>
    (bif (decide (n2 < x1)) then (some ((AVal.int .i64 (IntKind.wrap .i64 (n2 + (1 : Int)))), r1.2)) else (some ((AVal.int .i64 (IntKind.wrap .i64 ((IntKind.wrap .i64 (x1 - n2)) - (1 : Int)))), r1.2))) := by
  generalize hh : run = R
  rw [run_is] at hh
  subst hh
  generalize hh : brun = R
  rw [brun_is] at hh
  subst hh
  kernel_rfl

/-! 41: skolem/skolemref.Has -/

noncomputable def s_skolemref_Has_0 (fuel d : Nat) : Run := fun fr h k => aexec (Cf fuel F_skolemref_Has) false (acall (C fuel) false d) (acall (C fuel) true d) 18 (csub [true, false, true, false, false] (fbody Go.Proofs.Tryd.f41)) (asub [true, false, true, false, false] an41) fr h k

noncomputable def l_skolemref_Has_0r (fuel d : Nat) (n : Nat) (fr : Fr) (h : AHeap) : Option (AExit × Fr × AHeap) := aloop (s_skolemref_Has_0 fuel d) (some [0, 1, 5]) n fr h (kOut [4])

noncomputable def l_skolemref_Has_0 : Nat → Nat → Nat → Fr → AHeap → Option (AExit × Fr × AHeap) := hide l_skolemref_Has_0r

theorem l_skolemref_Has_0_is : l_skolemref_Has_0 = l_skolemref_Has_0r := hide_eq _

noncomputable def k_skolemref_Has_0r (fuel d : Nat) : AExit → Fr → AHeap → Option (AVal × AHeap) := (kBlock 0 (kSeq (Cf fuel F_skolemref_Has) false (acall (C fuel) false d) (acall (C fuel) true d) 18 (csub [true, true] (fbody Go.Proofs.Tryd.f41)) (asub [true, true] an41) (kRet (Cf fuel F_skolemref_Has) Go.Proofs.Tryd.f41.results.toList)))

noncomputable def k_skolemref_Has_0 : Nat → Nat → AExit → Fr → AHeap → Option (AVal × AHeap) := hide k_skolemref_Has_0r

theorem k_skolemref_Has_0_is : k_skolemref_Has_0 = k_skolemref_Has_0r := hide_eq _

theorem e_skolemref_Has (fuel d : Nat) (x0 : Sl) (x1 : Int) (h : AHeap) :
    brun fuel (d + 1) F_skolemref_Has [(AVal.slice x0), (AVal.int .i64 x1)] h =
  (l_skolemref_Has_0 fuel d fuel [(0, (AVal.slice x0)), (1, (AVal.int .i64 x1)), (5, (AVal.int .i64 (0 : Int)))] h).bind fun p1 =>
    k_skolemref_Has_0 fuel d p1.1 p1.2.1 p1.2.2 := by
  generalize hh : brun = R
  rw [brun_is] at hh
  subst hh
  generalize hh : l_skolemref_Has_0 = R
  rw [l_skolemref_Has_0_is] at hh
  subst hh
  generalize hh : k_skolemref_Has_0 = R
  rw [k_skolemref_Has_0_is] at hh
  subst hh
  kernel_rfl

theorem l_skolemref_Has_0_eq (fuel d : Nat) (n : Nat) (x0 : Sl) (x1 : Int) (x5 : Int) (h : AHeap) :
    l_skolemref_Has_0 fuel d (n + 1) [(0, (AVal.slice x0)), (1, (AVal.int .i64 x1)), (5, (AVal.int .i64 x5))] h =
  (bif (decide (x5 < ((x0.len : Nat) : Int))) then ((AHeap.addr h 1 x0 x5).bind fun p1 =>
    (AHeap.cell h p1).bind fun u2 =>
    (AVal.int? .i64 u2).bind fun n3 =>
    (bif (decide (n3 = x1)) then (some (.ret, [(4, (AVal.bool true))], h)) else (l_skolemref_Has_0 fuel d n [(0, (AVal.slice x0)), (1, (AVal.int .i64 x1)), (5, (AVal.int .i64 (IntKind.wrap .i64 (x5 + (1 : Int)))))] h))) else (some ((.exit 0), [(4, AVal.bot)], h))) := by
  generalize hh : l_skolemref_Has_0 = R
  rw [l_skolemref_Has_0_is] at hh
  subst hh
  kernel_rfl

theorem l_skolemref_Has_0_0 (fuel d : Nat) (fr : Fr) (h : AHeap) :
    l_skolemref_Has_0 fuel d 0 fr h =
  none := by
  generalize hh : l_skolemref_Has_0 = R
  rw [l_skolemref_Has_0_is] at hh
  subst hh
  kernel_rfl

theorem k_skolemref_Has_0_x0 (fuel d : Nat) (x4 : AVal) (h : AHeap) :
    k_skolemref_Has_0 fuel d (.exit 0) [(4, x4)] h =
  some ((AVal.bool false), h) := by
  generalize hh : k_skolemref_Has_0 = R
  rw [k_skolemref_Has_0_is] at hh
  subst hh
  kernel_rfl

theorem k_skolemref_Has_0_r (fuel d : Nat) (x4 : Bool) (h : AHeap) :
    k_skolemref_Has_0 fuel d .ret [(4, (AVal.bool x4))] h =
  some ((AVal.bool x4), h) := by
  generalize hh : k_skolemref_Has_0 = R
  rw [k_skolemref_Has_0_is] at hh
  subst hh
  kernel_rfl

/-! 42: skolem/skolemworld.Number -/

theorem e_skolemworld_Number (fuel d : Nat) (x0 : Int) (x1 : Int) (h : AHeap) :
    brun fuel (d + 1) F_skolemworld_Number [(AVal.int .i64 x0), (AVal.int .i64 x1)] h =
  (bif decide (x1 = 0) then (none) else ((bif (decide ((Int.tmod x0 x1) < (0 : Int))) then (some ((AVal.int .i64 (IntKind.wrap .i64 ((Int.tmod x0 x1) + x1))), h)) else (some ((AVal.int .i64 (Int.tmod x0 x1)), h))))) := by
  generalize hh : brun = R
  rw [brun_is] at hh
  subst hh
  kernel_rfl

/-! 44: skolem/skolemref.Ints -/

noncomputable def s_skolemref_Ints_0 (fuel d : Nat) : Run := fun fr h k => aexec (Cf fuel F_skolemref_Ints) false (acall (C fuel) false d) (acall (C fuel) true d) 22 (csub [true, true, false, true, false, false] (fbody Go.Proofs.Tryd.f44)) (asub [true, true, false, true, false, false] an44) fr h k

noncomputable def l_skolemref_Ints_0r (fuel d : Nat) (n : Nat) (fr : Fr) (h : AHeap) : Option (AExit × Fr × AHeap) := aloop (s_skolemref_Ints_0 fuel d) (some [0, 3, 4]) n fr h (kOut [3])

noncomputable def l_skolemref_Ints_0 : Nat → Nat → Nat → Fr → AHeap → Option (AExit × Fr × AHeap) := hide l_skolemref_Ints_0r

theorem l_skolemref_Ints_0_is : l_skolemref_Ints_0 = l_skolemref_Ints_0r := hide_eq _

noncomputable def k_skolemref_Ints_0r (fuel d : Nat) : AExit → Fr → AHeap → Option (AVal × AHeap) := (kBlock 0 (kSeq (Cf fuel F_skolemref_Ints) false (acall (C fuel) false d) (acall (C fuel) true d) 22 (csub [true, true, true] (fbody Go.Proofs.Tryd.f44)) (asub [true, true, true] an44) (kRet (Cf fuel F_skolemref_Ints) Go.Proofs.Tryd.f44.results.toList)))

noncomputable def k_skolemref_Ints_0 : Nat → Nat → AExit → Fr → AHeap → Option (AVal × AHeap) := hide k_skolemref_Ints_0r

theorem k_skolemref_Ints_0_is : k_skolemref_Ints_0 = k_skolemref_Ints_0r := hide_eq _

theorem e_skolemref_Ints (fuel d : Nat) (x0 : Sl) (h : AHeap) :
    run fuel (d + 1) F_skolemref_Ints [(AVal.slice x0)] h =
  (bif (decide ((0 : Int) ≤ ((x0.len : Nat) : Int)) && decide (((x0.len : Nat) : Int) * 8 ≤ 140737488355328) && decide (((x0.len : Nat) : Int) ≤ 140737488355328)) then ((l_skolemref_Ints_0 fuel d fuel [(0, (AVal.slice x0)), (3, (AVal.slice (Sl.mk ⟨AHeap.next h, 0, 0⟩ 0 (eqI (0 : Int) ((x0.len : Nat) : Int))))), (4, (AVal.int .i64 (0 : Int)))] (AHeap.push h 1 [])).bind fun p1 =>
    k_skolemref_Ints_0 fuel d p1.1 p1.2.1 p1.2.2) else (none)) := by
  generalize hh : run = R
  rw [run_is] at hh
  subst hh
  generalize hh : l_skolemref_Ints_0 = R
  rw [l_skolemref_Ints_0_is] at hh
  subst hh
  generalize hh : k_skolemref_Ints_0 = R
  rw [k_skolemref_Ints_0_is] at hh
  subst hh
  kernel_rfl

theorem l_skolemref_Ints_0_eq (fuel d : Nat) (n : Nat) (x0 : Sl) (x3 : Sl) (x4 : Int) (h : AHeap) :
    l_skolemref_Ints_0 fuel d (n + 1) [(0, (AVal.slice x0)), (3, (AVal.slice x3)), (4, (AVal.int .i64 x4))] h =
  (bif (decide (x4 < ((x0.len : Nat) : Int))) then ((AHeap.addr h 1 x0 x4).bind fun p1 =>
    (AHeap.cell h p1).bind fun u2 =>
    (AVal.int? .i64 u2).bind fun n3 =>
    (AHeap.append h false 1 8 x3 1 [(AVal.int .i64 n3)]).bind fun a4 =>
    l_skolemref_Ints_0 fuel d n [(0, (AVal.slice x0)), (3, (AVal.slice a4.1)), (4, (AVal.int .i64 (IntKind.wrap .i64 (x4 + (1 : Int)))))] a4.2) else (some ((.exit 0), [(3, (AVal.slice x3))], h))) := by
  generalize hh : l_skolemref_Ints_0 = R
  rw [l_skolemref_Ints_0_is] at hh
  subst hh
  kernel_rfl

theorem l_skolemref_Ints_0_0 (fuel d : Nat) (fr : Fr) (h : AHeap) :
    l_skolemref_Ints_0 fuel d 0 fr h =
  none := by
  generalize hh : l_skolemref_Ints_0 = R
  rw [l_skolemref_Ints_0_is] at hh
  subst hh
  kernel_rfl

theorem k_skolemref_Ints_0_x0 (fuel d : Nat) (x3 : Sl) (h : AHeap) :
    k_skolemref_Ints_0 fuel d (.exit 0) [(3, (AVal.slice x3))] h =
  some ((AVal.slice x3), h) := by
  generalize hh : k_skolemref_Ints_0 = R
  rw [k_skolemref_Ints_0_is] at hh
  subst hh
  kernel_rfl

/-! 67: skolem/skolemref.SameFault -/

theorem e_skolemref_SameFault (fuel d : Nat) (x0 : List AVal) (x1 : List AVal) (h : AHeap) :
    brun fuel (d + 1) F_skolemref_SameFault [(AVal.agg x0), (AVal.agg x1)] h =
  (bif (List.all x0 AVal.isCell) then ((bif (List.all x1 AVal.isCell) then ((Pt.field 0 (Pt.mk ⟨AHeap.next h, 0, 0⟩ (List.length x0))).bind fun p1 =>
    (AHeap.cell (AHeap.push (AHeap.push h 1 x0) 1 x1) p1).bind fun u2 =>
    (AVal.int? .i64 u2).bind fun n3 =>
    (Pt.field 0 (Pt.mk ⟨AHeap.next (AHeap.push h 1 x0), 0, 0⟩ (List.length x1))).bind fun p4 =>
    (AHeap.cell (AHeap.push (AHeap.push h 1 x0) 1 x1) p4).bind fun u5 =>
    (AVal.int? .i64 u5).bind fun n6 =>
    ((bif ((decide (n3 = n6)) == true) then ((Pt.field 1 (Pt.mk ⟨AHeap.next h, 0, 0⟩ (List.length x0))).bind fun p7 =>
    (AHeap.cell (AHeap.push (AHeap.push h 1 x0) 1 x1) p7).bind fun u8 =>
    (AVal.bool? u8).bind fun b9 =>
    (Pt.field 1 (Pt.mk ⟨AHeap.next (AHeap.push h 1 x0), 0, 0⟩ (List.length x1))).bind fun p10 =>
    (AHeap.cell (AHeap.push (AHeap.push h 1 x0) 1 x1) p10).bind fun u11 =>
    (AVal.bool? u11).bind fun b12 =>
    some ((AVal.bool (b9 == b12)), (AHeap.push (AHeap.push h 1 x0) 1 x1))) else (some ((AVal.bool false), (AHeap.push (AHeap.push h 1 x0) 1 x1))) : Option (AVal × AHeap))).bind fun r13 =>
    (AVal.bool? r13.1).bind fun b14 =>
    ((bif (b14 == true) then ((Pt.field 2 (Pt.mk ⟨AHeap.next h, 0, 0⟩ (List.length x0))).bind fun p15 =>
    (AHeap.cell r13.2 p15).bind fun u16 =>
    (AVal.int? .i64 u16).bind fun n17 =>
    (Pt.field 2 (Pt.mk ⟨AHeap.next (AHeap.push h 1 x0), 0, 0⟩ (List.length x1))).bind fun p18 =>
    (AHeap.cell r13.2 p18).bind fun u19 =>
    (AVal.int? .i64 u19).bind fun n20 =>
    some ((AVal.bool (decide (n17 = n20))), r13.2)) else (some ((AVal.bool false), r13.2)) : Option (AVal × AHeap))).bind fun r21 =>
    (AVal.bool? r21.1).bind fun b22 =>
    some ((AVal.bool b22), r21.2)) else (none))) else (none)) := by
  generalize hh : brun = R
  rw [brun_is] at hh
  subst hh
  kernel_rfl

/-! 68: skolem/skolemsee.Fault -/

theorem e_skolemsee_Fault (fuel d : Nat) (x0 : AVal) (h : AHeap) :
    brun fuel (d + 1) F_skolemsee_Fault [x0] h =
  (nilTest .iface x0).bind fun b1 =>
    (bif (b1) then ((run fuel d F_skolemref_None [] (AHeap.push h 1 [(AVal.int .i64 (0 : Int)), (AVal.bool false), (AVal.int .i64 (0 : Int))])).bind fun r2 =>
    (AVal.agg? r2.1).bind fun c3 =>
    (bif (!false && Nat.beq (List.length c3) 3 && List.all c3 AVal.isCell) then ((AHeap.storeAt r2.2 c3 (Pt.mk ⟨AHeap.next h, 0, 0⟩ 3)).bind fun h4 =>
    ((AHeap.cellsAt h4 3 (Pt.mk ⟨AHeap.next h, 0, 0⟩ 3)).bind fun c5 =>
    some ((AVal.agg c5)) : Option AVal).map fun v => (v, h4)) else (none))) else ((tassert T_p_api_At x0).bind fun t6 =>
    (bif (!(Option.isSome t6)) then ((run fuel d F_skolemsee_sentinel [x0] (AHeap.push h 1 [(AVal.int .i64 (0 : Int)), (AVal.bool false), (AVal.int .i64 (0 : Int))])).bind fun r7 =>
    (AVal.int? .i64 r7.1).bind fun n8 =>
    (run fuel d F_skolemref_Bare [(AVal.int .i64 n8)] r7.2).bind fun r9 =>
    (AVal.agg? r9.1).bind fun c10 =>
    (bif (!false && Nat.beq (List.length c10) 3 && List.all c10 AVal.isCell) then ((AHeap.storeAt r9.2 c10 (Pt.mk ⟨AHeap.next h, 0, 0⟩ 3)).bind fun h11 =>
    ((AHeap.cellsAt h11 3 (Pt.mk ⟨AHeap.next h, 0, 0⟩ 3)).bind fun c12 =>
    some ((AVal.agg c12)) : Option AVal).map fun v => (v, h11)) else (none))) else ((nilTest .ptr (AVal.ptr (Option.getD t6 Pt.nil))).bind fun b13 =>
    ((bif ((b13) == false) then ((Pt.chk (Option.getD t6 Pt.nil)).bind fun p14 =>
    (Pt.field 1 p14).bind fun p15 =>
    (AHeap.cell (AHeap.push h 1 [(AVal.int .i64 (0 : Int)), (AVal.bool false), (AVal.int .i64 (0 : Int))]) p15).bind fun u16 =>
    (nilTest .iface u16).bind fun b17 =>
    some ((AVal.bool (b17)), (AHeap.push h 1 [(AVal.int .i64 (0 : Int)), (AVal.bool false), (AVal.int .i64 (0 : Int))]))) else (some ((AVal.bool true), (AHeap.push h 1 [(AVal.int .i64 (0 : Int)), (AVal.bool false), (AVal.int .i64 (0 : Int))]))) : Option (AVal × AHeap))).bind fun r18 =>
    (AVal.bool? r18.1).bind fun b19 =>
    (bif b19 then ((run fuel d F_skolemref_Bare [(AVal.int .i64 (-1 : Int))] r18.2).bind fun r20 =>
    (AVal.agg? r20.1).bind fun c21 =>
    (bif (!false && Nat.beq (List.length c21) 3 && List.all c21 AVal.isCell) then ((AHeap.storeAt r20.2 c21 (Pt.mk ⟨AHeap.next h, 0, 0⟩ 3)).bind fun h22 =>
    ((AHeap.cellsAt h22 3 (Pt.mk ⟨AHeap.next h, 0, 0⟩ 3)).bind fun c23 =>
    some ((AVal.agg c23)) : Option AVal).map fun v => (v, h22)) else (none))) else ((Pt.chk (Option.getD t6 Pt.nil)).bind fun p24 =>
    (Pt.field 1 p24).bind fun p25 =>
    (AHeap.cell r18.2 p25).bind fun u26 =>
    (run fuel d F_skolemsee_sentinel [u26] r18.2).bind fun r27 =>
    (AVal.int? .i64 r27.1).bind fun n28 =>
    (Pt.chk (Option.getD t6 Pt.nil)).bind fun p29 =>
    (Pt.field 0 p29).bind fun p30 =>
    (AHeap.cell r27.2 p30).bind fun u31 =>
    (AVal.int? .i64 u31).bind fun n32 =>
    same ((AHeap.cell r18.2 p30).bind fun u37 =>
    (AVal.int? .i64 u37).bind fun n38 =>
    some ((AVal.int .i64 n38), r18.2)) ((AVal.int .i64 n32), r18.2) (
    (run fuel d F_skolemref_Placed [(AVal.int .i64 n28), (AVal.int .i64 n32)] r27.2).bind fun r33 =>
    (AVal.agg? r33.1).bind fun c34 =>
    (bif (!false && Nat.beq (List.length c34) 3 && List.all c34 AVal.isCell) then ((AHeap.storeAt r33.2 c34 (Pt.mk ⟨AHeap.next h, 0, 0⟩ 3)).bind fun h35 =>
    ((AHeap.cellsAt h35 3 (Pt.mk ⟨AHeap.next h, 0, 0⟩ 3)).bind fun c36 =>
    some ((AVal.agg c36)) : Option AVal).map fun v => (v, h35)) else (none))))))))) := by
  generalize hh : run = R
  rw [run_is] at hh
  subst hh
  generalize hh : brun = R
  rw [brun_is] at hh
  subst hh
  kernel_rfl

/-! 69: slices.ContainsFunc[[]int,int] -/

theorem e_slices_ContainsFunc_s_int_int (fuel d : Nat) (x0 : Sl) (x1f : Nat) (x1c : List Pt) (h : AHeap) :
    brun fuel (d + 1) F_slices_ContainsFunc_s_int_int [(AVal.slice x0), (AVal.func x1f x1c)] h =
  (run fuel d F_slices_IndexFunc_s_int_int [(AVal.slice x0), (AVal.func x1f x1c)] h).bind fun r1 =>
    (AVal.int? .i64 r1.1).bind fun n2 =>
    some ((AVal.bool (decide ((0 : Int) ≤ n2))), r1.2) := by
  generalize hh : run = R
  rw [run_is] at hh
  subst hh
  generalize hh : brun = R
  rw [brun_is] at hh
  subst hh
  kernel_rfl

/-! 70: skolem/lits.Check$1 -/

theorem e_lits_Check_1 (fuel d : Nat) (x0 : Int) (x1 : Pt) (h : AHeap) :
    brun fuel (d + 1) F_lits_Check_1 [(AVal.int .i64 x0), (AVal.ptr x1)] h =
  (Pt.field 0 x1).bind fun p1 =>
    (AHeap.cell h p1).bind fun u2 =>
    (AVal.int? .i64 u2).bind fun n3 =>
    (run fuel d F_lits_Is [(AVal.int .i64 x0), (AVal.int .i64 n3)] h).bind fun r4 =>
    (AVal.bool? r4.1).bind fun b5 =>
    some ((AVal.bool (!b5)), r4.2) := by
  generalize hh : run = R
  rw [run_is] at hh
  subst hh
  generalize hh : brun = R
  rw [brun_is] at hh
  subst hh
  kernel_rfl

/-! 71: skolem/skolemref.None -/

theorem e_skolemref_None (fuel d : Nat)  (h : AHeap) :
    brun fuel (d + 1) F_skolemref_None [] h =
  (AHeap.storeAt (AHeap.push h 1 [(AVal.int .i64 (0 : Int)), (AVal.bool false), (AVal.int .i64 (0 : Int))]) [(AVal.int .i64 (0 : Int)), (AVal.bool false), (AVal.int .i64 (0 : Int))] (Pt.mk ⟨AHeap.next h, 0, 0⟩ 3)).bind fun h1 =>
    ((AHeap.cellsAt h1 3 (Pt.mk ⟨AHeap.next h, 0, 0⟩ 3)).bind fun c2 =>
    some ((AVal.agg c2)) : Option AVal).map fun v => (v, h1) := by
  generalize hh : brun = R
  rw [brun_is] at hh
  subst hh
  kernel_rfl

/-! 72: slices.Clone[[]int,int] -/

theorem e_slices_Clone_s_int_int (fuel d : Nat) (x0 : Sl) (h : AHeap) :
    brun fuel (d + 1) F_slices_Clone_s_int_int [(AVal.slice x0)] h =
  (nilTest .slice (AVal.slice x0)).bind fun b1 =>
    (bif (b1) then (some ((AVal.slice Sl.nil), h)) else ((AHeap.sliceCells h 1 x0).bind fun xs2 =>
    (AHeap.append h false 1 8 (Sl.lst 0 true []) x0.len xs2).bind fun a3 =>
    some ((AVal.slice a3.1), a3.2))) := by
  generalize hh : brun = R
  rw [brun_is] at hh
  subst hh
  kernel_rfl

theorem e_slices_Clone_s_int_int_e (fuel d : Nat) (h : AHeap) :
    brun fuel (d + 1) F_slices_Clone_s_int_int [AVal.empty] h =
  (AHeap.append h false 1 8 (Sl.lst 0 true []) 0 []).bind fun a1 =>
    some ((AVal.slice a1.1), a1.2) := by
  generalize hh : brun = R
  rw [brun_is] at hh
  subst hh
  kernel_rfl

/-! 73: slices.SortFunc[[]int,int] -/

theorem e_slices_SortFunc_s_int_int (fuel d : Nat) (x0 : Sl) (x1f : Nat) (x1c : List Pt) (h : AHeap) :
    run fuel (d + 1) F_slices_SortFunc_s_int_int [(AVal.slice x0), (AVal.func x1f x1c)] h =
  (run fuel d F_bits_Len [(AVal.int .u64 (IntKind.wrap .u64 ((x0.len : Nat) : Int)))] h).bind fun r1 =>
    (AVal.int? .i64 r1.1).bind fun n2 =>
    (run fuel d F_slices_pdqsortCmpFunc_int [(AVal.slice x0), (AVal.int .i64 (0 : Int)), (AVal.int .i64 ((x0.len : Nat) : Int)), (AVal.int .i64 n2), (AVal.func x1f x1c)] r1.2).bind fun r3 =>
    some ((AVal.tup []), r3.2) := by
  generalize hh : run = R
  rw [run_is] at hh
  subst hh
  kernel_rfl

/-! 74: skolem/lits.order -/

theorem e_lits_order (fuel d : Nat) (x0 : Int) (x1 : Int) (h : AHeap) :
    brun fuel (d + 1) F_lits_order [(AVal.int .i64 x0), (AVal.int .i64 x1)] h =
  (run fuel d F_lits_Var [(AVal.int .i64 x0)] h).bind fun r1 =>
    (AVal.int? .i64 r1.1).bind fun n2 =>
    (run fuel d F_lits_Var [(AVal.int .i64 x1)] r1.2).bind fun r3 =>
    (AVal.int? .i64 r3.1).bind fun n4 =>
    (run fuel d F_cmp_Compare_int [(AVal.int .i64 n2), (AVal.int .i64 n4)] r3.2).bind fun r5 =>
    (AVal.int? .i64 r5.1).bind fun n6 =>
    (run fuel d F_cmp_Compare_int [(AVal.int .i64 x0), (AVal.int .i64 x1)] r5.2).bind fun r7 =>
    (AVal.int? .i64 r7.1).bind fun n8 =>
    (run fuel d F_cmp_Or_int [(AVal.slice (Sl.lst 2 true [(AVal.int .i64 n6), (AVal.int .i64 n8)]))] r7.2).bind fun r9 =>
    (AVal.int? .i64 r9.1).bind fun n10 =>
    some ((AVal.int .i64 n10), r9.2) := by
  generalize hh : run = R
  rw [run_is] at hh
  subst hh
  generalize hh : brun = R
  rw [brun_is] at hh
  subst hh
  kernel_rfl

/-! 75: slices.Clip[[]int,int] -/

theorem e_slices_Clip_s_int_int (fuel d : Nat) (x0 : Sl) (h : AHeap) :
    brun fuel (d + 1) F_slices_Clip_s_int_int [(AVal.slice x0)] h =
  (aHi (some (AVal.int .i64 ((x0.len : Nat) : Int))) (Sl.len x0)).bind fun hi1 =>
    (aLo (none : Option AVal) hi1).bind fun lo2 =>
    (aMx (some (AVal.int .i64 ((x0.len : Nat) : Int))) hi1).bind fun cl3 =>
    (bif (AHeap.hasSz h 1 x0) then (some ((AVal.slice (Sl.cut x0 1 lo2 hi1 cl3)), h)) else (none)) := by
  generalize hh : brun = R
  rw [brun_is] at hh
  subst hh
  kernel_rfl

/-! 76: slices.Compact[[]int,int] -/

noncomputable def s_slices_Compact_s_int_int_0 (fuel d : Nat) : Run := fun fr h k => aexec (Cf fuel F_slices_Compact_s_int_int) false (acall (C fuel) false d) (acall (C fuel) true d) 61 (csub [true, true, false, true, false, false] (fbody Go.Proofs.Tryd.f76)) (asub [true, true, false, true, false, false] an76) fr h k

noncomputable def l_slices_Compact_s_int_int_0r (fuel d : Nat) (n : Nat) (fr : Fr) (h : AHeap) : Option (AExit × Fr × AHeap) := aloop (s_slices_Compact_s_int_int_0 fuel d) (some [0, 3]) n fr h (kOut [0, 2])

noncomputable def l_slices_Compact_s_int_int_0 : Nat → Nat → Nat → Fr → AHeap → Option (AExit × Fr × AHeap) := hide l_slices_Compact_s_int_int_0r

theorem l_slices_Compact_s_int_int_0_is : l_slices_Compact_s_int_int_0 = l_slices_Compact_s_int_int_0r := hide_eq _

noncomputable def k_slices_Compact_s_int_int_0r (fuel d : Nat) : AExit → Fr → AHeap → Option (AVal × AHeap) := (kBlock 0 (kSeq (Cf fuel F_slices_Compact_s_int_int) false (acall (C fuel) false d) (acall (C fuel) true d) 61 (csub [true, true, true] (fbody Go.Proofs.Tryd.f76)) (asub [true, true, true] an76) (kRet (Cf fuel F_slices_Compact_s_int_int) Go.Proofs.Tryd.f76.results.toList)))

noncomputable def k_slices_Compact_s_int_int_0 : Nat → Nat → AExit → Fr → AHeap → Option (AVal × AHeap) := hide k_slices_Compact_s_int_int_0r

theorem k_slices_Compact_s_int_int_0_is : k_slices_Compact_s_int_int_0 = k_slices_Compact_s_int_int_0r := hide_eq _

noncomputable def s_slices_Compact_s_int_int_1 (fuel d : Nat) : Run := fun fr h k => aexec (Cf fuel F_slices_Compact_s_int_int) false (acall (C fuel) false d) (acall (C fuel) true d) 61 (csub [true, true, false, true, false, false, true, false, false, true, false, true, false, true, false, false] (fbody Go.Proofs.Tryd.f76)) (asub [true, true, false, true, false, false, true, false, false, true, false, true, false, true, false, false] an76) fr h k

noncomputable def l_slices_Compact_s_int_int_1r (fuel d : Nat) (n : Nat) (fr : Fr) (h : AHeap) : Option (AExit × Fr × AHeap) := aloop (s_slices_Compact_s_int_int_1 fuel d) (some [0, 3, 4, 5]) n fr h (kOut [0, 3])

noncomputable def l_slices_Compact_s_int_int_1 : Nat → Nat → Nat → Fr → AHeap → Option (AExit × Fr × AHeap) := hide l_slices_Compact_s_int_int_1r

theorem l_slices_Compact_s_int_int_1_is : l_slices_Compact_s_int_int_1 = l_slices_Compact_s_int_int_1r := hide_eq _

noncomputable def k_slices_Compact_s_int_int_1r (fuel d : Nat) (n : Nat) : AExit → Fr → AHeap → Option (AExit × Fr × AHeap) := (kBlock 2 (kSeq (Cf fuel F_slices_Compact_s_int_int) false (acall (C fuel) false d) (acall (C fuel) true d) 61 (csub [true, true, false, true, false, false, true, false, false, true, false, true, true] (fbody Go.Proofs.Tryd.f76)) (asub [true, true, false, true, false, false, true, false, false, true, false, true, true] an76) (kBlock 1 (kSeq (Cf fuel F_slices_Compact_s_int_int) false (acall (C fuel) false d) (acall (C fuel) true d) 61 (csub [true, true, false, true, false, false, true, true] (fbody Go.Proofs.Tryd.f76)) (asub [true, true, false, true, false, false, true, true] an76) (kLoop (s_slices_Compact_s_int_int_0 fuel d) (some [0, 3]) n (kOut [0, 2]))))))

noncomputable def k_slices_Compact_s_int_int_1 : Nat → Nat → Nat → AExit → Fr → AHeap → Option (AExit × Fr × AHeap) := hide k_slices_Compact_s_int_int_1r

theorem k_slices_Compact_s_int_int_1_is : k_slices_Compact_s_int_int_1 = k_slices_Compact_s_int_int_1r := hide_eq _

theorem e_slices_Compact_s_int_int (fuel d : Nat) (x0 : Sl) (h : AHeap) :
    run fuel (d + 1) F_slices_Compact_s_int_int [(AVal.slice x0)] h =
  (bif (decide (((x0.len : Nat) : Int) < (2 : Int))) then (some ((AVal.slice x0), h)) else ((l_slices_Compact_s_int_int_0 fuel d fuel [(0, (AVal.slice x0)), (3, (AVal.int .i64 (1 : Int)))] h).bind fun p1 =>
    k_slices_Compact_s_int_int_0 fuel d p1.1 p1.2.1 p1.2.2)) := by
  generalize hh : run = R
  rw [run_is] at hh
  subst hh
  generalize hh : l_slices_Compact_s_int_int_0 = R
  rw [l_slices_Compact_s_int_int_0_is] at hh
  subst hh
  generalize hh : k_slices_Compact_s_int_int_0 = R
  rw [k_slices_Compact_s_int_int_0_is] at hh
  subst hh
  kernel_rfl

theorem l_slices_Compact_s_int_int_0_eq (fuel d : Nat) (n : Nat) (x0 : Sl) (x3 : Int) (h : AHeap) :
    l_slices_Compact_s_int_int_0 fuel d (n + 1) [(0, (AVal.slice x0)), (3, (AVal.int .i64 x3))] h =
  (bif (decide (x3 < ((x0.len : Nat) : Int))) then ((AHeap.addr h 1 x0 x3).bind fun p1 =>
    (AHeap.cell h p1).bind fun u2 =>
    (AVal.int? .i64 u2).bind fun n3 =>
    (AHeap.addr h 1 x0 (IntKind.wrap .i64 (x3 - (1 : Int)))).bind fun p4 =>
    (AHeap.cell h p4).bind fun u5 =>
    (AVal.int? .i64 u5).bind fun n6 =>
    (bif (decide (n3 = n6)) then ((aHi (none : Option AVal) (Sl.len x0)).bind fun hi7 =>
    (aLo (some (AVal.int .i64 x3)) hi7).bind fun lo8 =>
    (aMx (none : Option AVal) hi7).bind fun cl9 =>
    (bif (AHeap.hasSz h 1 x0) then ((l_slices_Compact_s_int_int_1 fuel d fuel [(0, (AVal.slice x0)), (3, (AVal.int .i64 x3)), (4, (AVal.slice (Sl.cut x0 1 lo8 hi7 cl9))), (5, (AVal.int .i64 (1 : Int)))] h).bind fun p10 =>
    k_slices_Compact_s_int_int_1 fuel d n p10.1 p10.2.1 p10.2.2) else (none))) else (l_slices_Compact_s_int_int_0 fuel d n [(0, (AVal.slice x0)), (3, (AVal.int .i64 (IntKind.wrap .i64 (x3 + (1 : Int)))))] h))) else (some ((.exit 0), [(0, (AVal.slice x0)), (2, AVal.bot)], h))) := by
  generalize hh : l_slices_Compact_s_int_int_0 = R
  rw [l_slices_Compact_s_int_int_0_is] at hh
  subst hh
  generalize hh : l_slices_Compact_s_int_int_1 = R
  rw [l_slices_Compact_s_int_int_1_is] at hh
  subst hh
  generalize hh : k_slices_Compact_s_int_int_1 = R
  rw [k_slices_Compact_s_int_int_1_is] at hh
  subst hh
  kernel_rfl

theorem l_slices_Compact_s_int_int_0_0 (fuel d : Nat) (fr : Fr) (h : AHeap) :
    l_slices_Compact_s_int_int_0 fuel d 0 fr h =
  none := by
  generalize hh : l_slices_Compact_s_int_int_0 = R
  rw [l_slices_Compact_s_int_int_0_is] at hh
  subst hh
  kernel_rfl

theorem k_slices_Compact_s_int_int_0_x0 (fuel d : Nat) (x0 : Sl) (x2 : AVal) (h : AHeap) :
    k_slices_Compact_s_int_int_0 fuel d (.exit 0) [(0, (AVal.slice x0)), (2, x2)] h =
  some ((AVal.slice x0), h) := by
  generalize hh : k_slices_Compact_s_int_int_0 = R
  rw [k_slices_Compact_s_int_int_0_is] at hh
  subst hh
  kernel_rfl

theorem k_slices_Compact_s_int_int_0_r (fuel d : Nat) (x0 : AVal) (x2 : Sl) (h : AHeap) :
    k_slices_Compact_s_int_int_0 fuel d .ret [(0, x0), (2, (AVal.slice x2))] h =
  some ((AVal.slice x2), h) := by
  generalize hh : k_slices_Compact_s_int_int_0 = R
  rw [k_slices_Compact_s_int_int_0_is] at hh
  subst hh
  kernel_rfl

theorem l_slices_Compact_s_int_int_1_eq (fuel d : Nat) (n : Nat) (x0 : Sl) (x3 : Int) (x4 : Sl) (x5 : Int) (h : AHeap) :
    l_slices_Compact_s_int_int_1 fuel d (n + 1) [(0, (AVal.slice x0)), (3, (AVal.int .i64 x3)), (4, (AVal.slice x4)), (5, (AVal.int .i64 x5))] h =
  (bif (decide (x5 < ((x4.len : Nat) : Int))) then ((AHeap.addr h 1 x4 x5).bind fun p1 =>
    (AHeap.cell h p1).bind fun u2 =>
    (AVal.int? .i64 u2).bind fun n3 =>
    (AHeap.addr h 1 x4 (IntKind.wrap .i64 (x5 - (1 : Int)))).bind fun p4 =>
    (AHeap.cell h p4).bind fun u5 =>
    (AVal.int? .i64 u5).bind fun n6 =>
    (bif (!decide (n3 = n6)) then ((AHeap.addr h 1 x4 x5).bind fun p7 =>
    (AHeap.cell h p7).bind fun u8 =>
    (AVal.int? .i64 u8).bind fun n9 =>
    (AHeap.addr h 1 x0 x3).bind fun p10 =>
    (AHeap.storeAt h [(AVal.int .i64 n9)] p10).bind fun h11 =>
    l_slices_Compact_s_int_int_1 fuel d n [(0, (AVal.slice x0)), (3, (AVal.int .i64 (IntKind.wrap .i64 (x3 + (1 : Int))))), (4, (AVal.slice x4)), (5, (AVal.int .i64 (IntKind.wrap .i64 (x5 + (1 : Int)))))] h11) else (l_slices_Compact_s_int_int_1 fuel d n [(0, (AVal.slice x0)), (3, (AVal.int .i64 x3)), (4, (AVal.slice x4)), (5, (AVal.int .i64 (IntKind.wrap .i64 (x5 + (1 : Int)))))] h))) else (some ((.exit 2), [(0, (AVal.slice x0)), (3, (AVal.int .i64 x3))], h))) := by
  generalize hh : l_slices_Compact_s_int_int_1 = R
  rw [l_slices_Compact_s_int_int_1_is] at hh
  subst hh
  kernel_rfl

theorem l_slices_Compact_s_int_int_1_0 (fuel d : Nat) (fr : Fr) (h : AHeap) :
    l_slices_Compact_s_int_int_1 fuel d 0 fr h =
  none := by
  generalize hh : l_slices_Compact_s_int_int_1 = R
  rw [l_slices_Compact_s_int_int_1_is] at hh
  subst hh
  kernel_rfl

theorem k_slices_Compact_s_int_int_1_x2 (fuel d : Nat) (n : Nat) (x0 : Sl) (x3 : Int) (h : AHeap) :
    k_slices_Compact_s_int_int_1 fuel d n (.exit 2) [(0, (AVal.slice x0)), (3, (AVal.int .i64 x3))] h =
  (aHi (none : Option AVal) (Sl.len x0)).bind fun hi1 =>
    (aLo (some (AVal.int .i64 x3)) hi1).bind fun lo2 =>
    (aMx (none : Option AVal) hi1).bind fun cl3 =>
    (bif (AHeap.hasSz h 1 x0) then ((AHeap.clear h false [(AVal.int .i64 (0 : Int))] 1 (Sl.cut x0 1 lo2 hi1 cl3)).bind fun h4 =>
    (aHi (some (AVal.int .i64 x3)) (Sl.len x0)).bind fun hi5 =>
    (aLo (none : Option AVal) hi5).bind fun lo6 =>
    (aMx (none : Option AVal) hi5).bind fun cl7 =>
    (bif (AHeap.hasSz h4 1 x0) then (some (.ret, [(0, (AVal.slice x0)), (2, (AVal.slice (Sl.cut x0 1 lo6 hi5 cl7)))], h4)) else (none))) else (none)) := by
  generalize hh : k_slices_Compact_s_int_int_1 = R
  rw [k_slices_Compact_s_int_int_1_is] at hh
  subst hh
  kernel_rfl

/-! 77: skolem/skolemref1.before -/

theorem e_skolemref1_before (fuel d : Nat) (x0 : Int) (x1 : Int) (h : AHeap) :
    brun fuel (d + 1) F_skolemref1_before [(AVal.int .i64 x0), (AVal.int .i64 x1)] h =
  (run fuel d F_skolemref_Abs [(AVal.int .i64 x0)] h).bind fun r1 =>
    (AVal.int? .i64 r1.1).bind fun n2 =>
    (run fuel d F_skolemref_Abs [(AVal.int .i64 x1)] r1.2).bind fun r3 =>
    (AVal.int? .i64 r3.1).bind fun n4 =>
    ((bif ((decide (n2 < n4)) == false) then (some ((AVal.bool (bif (decide (n2 = n4)) then (decide (x0 < x1)) else false)), r3.2)) else (some ((AVal.bool true), r3.2)) : Option (AVal × AHeap))).bind fun r5 =>
    (AVal.bool? r5.1).bind fun b6 =>
    some ((AVal.bool b6), r5.2) := by
  generalize hh : run = R
  rw [run_is] at hh
  subst hh
  generalize hh : brun = R
  rw [brun_is] at hh
  subst hh
  kernel_rfl

/-! 78: slices.Equal[[]int,int] -/

noncomputable def s_slices_Equal_s_int_int_0 (fuel d : Nat) : Run := fun fr h k => aexec (Cf fuel F_slices_Equal_s_int_int) false (acall (C fuel) false d) (acall (C fuel) true d) 26 (csub [true, true, false, true, false, false] (fbody Go.Proofs.Tryd.f78)) (asub [true, true, false, true, false, false] an78) fr h k

noncomputable def l_slices_Equal_s_int_int_0r (fuel d : Nat) (n : Nat) (fr : Fr) (h : AHeap) : Option (AExit × Fr × AHeap) := aloop (s_slices_Equal_s_int_int_0 fuel d) (some [0, 1, 12, 13]) n fr h (kOut [4])

noncomputable def l_slices_Equal_s_int_int_0 : Nat → Nat → Nat → Fr → AHeap → Option (AExit × Fr × AHeap) := hide l_slices_Equal_s_int_int_0r

theorem l_slices_Equal_s_int_int_0_is : l_slices_Equal_s_int_int_0 = l_slices_Equal_s_int_int_0r := hide_eq _

noncomputable def k_slices_Equal_s_int_int_0r (fuel d : Nat) : AExit → Fr → AHeap → Option (AVal × AHeap) := (kBlock 0 (kSeq (Cf fuel F_slices_Equal_s_int_int) false (acall (C fuel) false d) (acall (C fuel) true d) 26 (csub [true, true, true] (fbody Go.Proofs.Tryd.f78)) (asub [true, true, true] an78) (kRet (Cf fuel F_slices_Equal_s_int_int) Go.Proofs.Tryd.f78.results.toList)))

noncomputable def k_slices_Equal_s_int_int_0 : Nat → Nat → AExit → Fr → AHeap → Option (AVal × AHeap) := hide k_slices_Equal_s_int_int_0r

theorem k_slices_Equal_s_int_int_0_is : k_slices_Equal_s_int_int_0 = k_slices_Equal_s_int_int_0r := hide_eq _

theorem e_slices_Equal_s_int_int (fuel d : Nat) (x0 : Sl) (x1 : Sl) (h : AHeap) :
    brun fuel (d + 1) F_slices_Equal_s_int_int [(AVal.slice x0), (AVal.slice x1)] h =
  (bif (!decide (((x0.len : Nat) : Int) = ((x1.len : Nat) : Int))) then (some ((AVal.bool false), h)) else ((l_slices_Equal_s_int_int_0 fuel d fuel [(0, (AVal.slice x0)), (1, (AVal.slice x1)), (12, (AVal.int .i64 ((x0.len : Nat) : Int))), (13, (AVal.int .i64 (0 : Int)))] h).bind fun p1 =>
    k_slices_Equal_s_int_int_0 fuel d p1.1 p1.2.1 p1.2.2)) := by
  generalize hh : brun = R
  rw [brun_is] at hh
  subst hh
  generalize hh : l_slices_Equal_s_int_int_0 = R
  rw [l_slices_Equal_s_int_int_0_is] at hh
  subst hh
  generalize hh : k_slices_Equal_s_int_int_0 = R
  rw [k_slices_Equal_s_int_int_0_is] at hh
  subst hh
  kernel_rfl

theorem l_slices_Equal_s_int_int_0_eq (fuel d : Nat) (n : Nat) (x0 : Sl) (x1 : Sl) (x12 : Int) (x13 : Int) (h : AHeap) :
    l_slices_Equal_s_int_int_0 fuel d (n + 1) [(0, (AVal.slice x0)), (1, (AVal.slice x1)), (12, (AVal.int .i64 x12)), (13, (AVal.int .i64 x13))] h =
  (bif (decide (x13 < x12)) then ((AHeap.addr h 1 x0 x13).bind fun p1 =>
    (AHeap.cell h p1).bind fun u2 =>
    (AVal.int? .i64 u2).bind fun n3 =>
    (AHeap.addr h 1 x1 x13).bind fun p4 =>
    (AHeap.cell h p4).bind fun u5 =>
    (AVal.int? .i64 u5).bind fun n6 =>
    (bif (!decide (n3 = n6)) then (some (.ret, [(4, (AVal.bool false))], h)) else (l_slices_Equal_s_int_int_0 fuel d n [(0, (AVal.slice x0)), (1, (AVal.slice x1)), (12, (AVal.int .i64 x12)), (13, (AVal.int .i64 (IntKind.wrap .i64 (x13 + (1 : Int)))))] h))) else (some ((.exit 0), [(4, AVal.bot)], h))) := by
  generalize hh : l_slices_Equal_s_int_int_0 = R
  rw [l_slices_Equal_s_int_int_0_is] at hh
  subst hh
  kernel_rfl

theorem l_slices_Equal_s_int_int_0_0 (fuel d : Nat) (fr : Fr) (h : AHeap) :
    l_slices_Equal_s_int_int_0 fuel d 0 fr h =
  none := by
  generalize hh : l_slices_Equal_s_int_int_0 = R
  rw [l_slices_Equal_s_int_int_0_is] at hh
  subst hh
  kernel_rfl

theorem k_slices_Equal_s_int_int_0_x0 (fuel d : Nat) (x4 : AVal) (h : AHeap) :
    k_slices_Equal_s_int_int_0 fuel d (.exit 0) [(4, x4)] h =
  some ((AVal.bool true), h) := by
  generalize hh : k_slices_Equal_s_int_int_0 = R
  rw [k_slices_Equal_s_int_int_0_is] at hh
  subst hh
  kernel_rfl

theorem k_slices_Equal_s_int_int_0_r (fuel d : Nat) (x4 : Bool) (h : AHeap) :
    k_slices_Equal_s_int_int_0 fuel d .ret [(4, (AVal.bool x4))] h =
  some ((AVal.bool x4), h) := by
  generalize hh : k_slices_Equal_s_int_int_0 = R
  rw [k_slices_Equal_s_int_int_0_is] at hh
  subst hh
  kernel_rfl

/-! 97: skolem/skolemsee.sentinel -/

noncomputable def s_skolemsee_sentinel_0 (fuel d : Nat) : Run := fun fr h k => aexec (Cf fuel F_skolemsee_sentinel) false (acall (C fuel) false d) (acall (C fuel) true d) 20 (csub [true, true, false, true, false, false] (fbody Go.Proofs.Tryd.f97)) (asub [true, true, false, true, false, false] an97) fr h k

noncomputable def l_skolemsee_sentinel_0r (fuel d : Nat) (n : Nat) (fr : Fr) (h : AHeap) : Option (AExit × Fr × AHeap) := aloop (s_skolemsee_sentinel_0 fuel d) (some [0, 3, 4]) n fr h (kOut [2])

noncomputable def l_skolemsee_sentinel_0 : Nat → Nat → Nat → Fr → AHeap → Option (AExit × Fr × AHeap) := hide l_skolemsee_sentinel_0r

theorem l_skolemsee_sentinel_0_is : l_skolemsee_sentinel_0 = l_skolemsee_sentinel_0r := hide_eq _

noncomputable def k_skolemsee_sentinel_0r (fuel d : Nat) : AExit → Fr → AHeap → Option (AVal × AHeap) := (kBlock 0 (kSeq (Cf fuel F_skolemsee_sentinel) false (acall (C fuel) false d) (acall (C fuel) true d) 20 (csub [true, true, true] (fbody Go.Proofs.Tryd.f97)) (asub [true, true, true] an97) (kRet (Cf fuel F_skolemsee_sentinel) Go.Proofs.Tryd.f97.results.toList)))

noncomputable def k_skolemsee_sentinel_0 : Nat → Nat → AExit → Fr → AHeap → Option (AVal × AHeap) := hide k_skolemsee_sentinel_0r

theorem k_skolemsee_sentinel_0_is : k_skolemsee_sentinel_0 = k_skolemsee_sentinel_0r := hide_eq _

theorem e_skolemsee_sentinel (fuel d : Nat) (x0 : AVal) (h : AHeap) :
    brun fuel (d + 1) F_skolemsee_sentinel [x0] h =
  (run fuel d F_skolemsee_sentinels [] h).bind fun r1 =>
    (AVal.slice? r1.1).bind fun s2 =>
    (l_skolemsee_sentinel_0 fuel d fuel [(0, x0), (3, (AVal.slice s2)), (4, (AVal.int .i64 (0 : Int)))] r1.2).bind fun p3 =>
    k_skolemsee_sentinel_0 fuel d p3.1 p3.2.1 p3.2.2 := by
  generalize hh : run = R
  rw [run_is] at hh
  subst hh
  generalize hh : brun = R
  rw [brun_is] at hh
  subst hh
  generalize hh : l_skolemsee_sentinel_0 = R
  rw [l_skolemsee_sentinel_0_is] at hh
  subst hh
  generalize hh : k_skolemsee_sentinel_0 = R
  rw [k_skolemsee_sentinel_0_is] at hh
  subst hh
  kernel_rfl

theorem l_skolemsee_sentinel_0_eq (fuel d : Nat) (n : Nat) (x0 : AVal) (x3 : Sl) (x4 : Int) (h : AHeap) :
    l_skolemsee_sentinel_0 fuel d (n + 1) [(0, x0), (3, (AVal.slice x3)), (4, (AVal.int .i64 x4))] h =
  (bif (decide (x4 < ((x3.len : Nat) : Int))) then ((AHeap.addr h 1 x3 x4).bind fun p1 =>
    (AHeap.cell h p1).bind fun u2 =>
    (run fuel d F_skolemsee_Alike [x0, u2] h).bind fun r3 =>
    (AVal.bool? r3.1).bind fun b4 =>
    (bif b4 then (some (.ret, [(2, (AVal.int .i64 (IntKind.wrap .i64 ((101 : Int) + x4))))], r3.2)) else (l_skolemsee_sentinel_0 fuel d n [(0, x0), (3, (AVal.slice x3)), (4, (AVal.int .i64 (IntKind.wrap .i64 (x4 + (1 : Int)))))] r3.2))) else (some ((.exit 0), [(2, AVal.bot)], h))) := by
  generalize hh : run = R
  rw [run_is] at hh
  subst hh
  generalize hh : l_skolemsee_sentinel_0 = R
  rw [l_skolemsee_sentinel_0_is] at hh
  subst hh
  kernel_rfl

theorem l_skolemsee_sentinel_0_0 (fuel d : Nat) (fr : Fr) (h : AHeap) :
    l_skolemsee_sentinel_0 fuel d 0 fr h =
  none := by
  generalize hh : l_skolemsee_sentinel_0 = R
  rw [l_skolemsee_sentinel_0_is] at hh
  subst hh
  kernel_rfl

theorem k_skolemsee_sentinel_0_x0 (fuel d : Nat) (x2 : AVal) (h : AHeap) :
    k_skolemsee_sentinel_0 fuel d (.exit 0) [(2, x2)] h =
  some ((AVal.int .i64 (-1 : Int)), h) := by
  generalize hh : k_skolemsee_sentinel_0 = R
  rw [k_skolemsee_sentinel_0_is] at hh
  subst hh
  kernel_rfl

theorem k_skolemsee_sentinel_0_r (fuel d : Nat) (x2 : Int) (h : AHeap) :
    k_skolemsee_sentinel_0 fuel d .ret [(2, (AVal.int .i64 x2))] h =
  some ((AVal.int .i64 x2), h) := by
  generalize hh : k_skolemsee_sentinel_0 = R
  rw [k_skolemsee_sentinel_0_is] at hh
  subst hh
  kernel_rfl

/-! 98: slices.IndexFunc[[]int,int] -/

noncomputable def s_slices_IndexFunc_s_int_int_0 (fuel d : Nat) : Run := fun fr h k => aexec (Cf fuel F_slices_IndexFunc_s_int_int) false (acall (C fuel) false d) (acall (C fuel) true d) 19 (csub [true, false, true, false, false] (fbody Go.Proofs.Tryd.f98)) (asub [true, false, true, false, false] an98) fr h k

noncomputable def l_slices_IndexFunc_s_int_int_0r (fuel d : Nat) (n : Nat) (fr : Fr) (h : AHeap) : Option (AExit × Fr × AHeap) := aloop (s_slices_IndexFunc_s_int_int_0 fuel d) (some [0, 1, 7, 8]) n fr h (kOut [4])

noncomputable def l_slices_IndexFunc_s_int_int_0 : Nat → Nat → Nat → Fr → AHeap → Option (AExit × Fr × AHeap) := hide l_slices_IndexFunc_s_int_int_0r

theorem l_slices_IndexFunc_s_int_int_0_is : l_slices_IndexFunc_s_int_int_0 = l_slices_IndexFunc_s_int_int_0r := hide_eq _

noncomputable def k_slices_IndexFunc_s_int_int_0r (fuel d : Nat) : AExit → Fr → AHeap → Option (AVal × AHeap) := (kBlock 0 (kSeq (Cf fuel F_slices_IndexFunc_s_int_int) false (acall (C fuel) false d) (acall (C fuel) true d) 19 (csub [true, true] (fbody Go.Proofs.Tryd.f98)) (asub [true, true] an98) (kRet (Cf fuel F_slices_IndexFunc_s_int_int) Go.Proofs.Tryd.f98.results.toList)))

noncomputable def k_slices_IndexFunc_s_int_int_0 : Nat → Nat → AExit → Fr → AHeap → Option (AVal × AHeap) := hide k_slices_IndexFunc_s_int_int_0r

theorem k_slices_IndexFunc_s_int_int_0_is : k_slices_IndexFunc_s_int_int_0 = k_slices_IndexFunc_s_int_int_0r := hide_eq _

theorem e_slices_IndexFunc_s_int_int (fuel d : Nat) (x0 : Sl) (x1f : Nat) (x1c : List Pt) (h : AHeap) :
    brun fuel (d + 1) F_slices_IndexFunc_s_int_int [(AVal.slice x0), (AVal.func x1f x1c)] h =
  (l_slices_IndexFunc_s_int_int_0 fuel d fuel [(0, (AVal.slice x0)), (1, (AVal.func x1f x1c)), (7, (AVal.int .i64 ((x0.len : Nat) : Int))), (8, (AVal.int .i64 (0 : Int)))] h).bind fun p1 =>
    k_slices_IndexFunc_s_int_int_0 fuel d p1.1 p1.2.1 p1.2.2 := by
  generalize hh : brun = R
  rw [brun_is] at hh
  subst hh
  generalize hh : l_slices_IndexFunc_s_int_int_0 = R
  rw [l_slices_IndexFunc_s_int_int_0_is] at hh
  subst hh
  generalize hh : k_slices_IndexFunc_s_int_int_0 = R
  rw [k_slices_IndexFunc_s_int_int_0_is] at hh
  subst hh
  kernel_rfl

theorem l_slices_IndexFunc_s_int_int_0_eq (fuel d : Nat) (n : Nat) (x0 : Sl) (x1f : Nat) (x1c : List Pt) (x7 : Int) (x8 : Int) (h : AHeap) :
    l_slices_IndexFunc_s_int_int_0 fuel d (n + 1) [(0, (AVal.slice x0)), (1, (AVal.func x1f x1c)), (7, (AVal.int .i64 x7)), (8, (AVal.int .i64 x8))] h =
  (bif (decide (x8 < x7)) then ((AHeap.addr h 1 x0 x8).bind fun p1 =>
    (AHeap.cell h p1).bind fun u2 =>
    (AVal.int? .i64 u2).bind fun n3 =>
    (run fuel d x1f ([(AVal.int .i64 n3)] ++ List.map AVal.ptr x1c) h).bind fun r4 =>
    (AVal.bool? r4.1).bind fun b5 =>
    (bif b5 then (some (.ret, [(4, (AVal.int .i64 x8))], r4.2)) else (l_slices_IndexFunc_s_int_int_0 fuel d n [(0, (AVal.slice x0)), (1, (AVal.func x1f x1c)), (7, (AVal.int .i64 x7)), (8, (AVal.int .i64 (IntKind.wrap .i64 (x8 + (1 : Int)))))] r4.2))) else (some ((.exit 0), [(4, AVal.bot)], h))) := by
  generalize hh : run = R
  rw [run_is] at hh
  subst hh
  generalize hh : l_slices_IndexFunc_s_int_int_0 = R
  rw [l_slices_IndexFunc_s_int_int_0_is] at hh
  subst hh
  kernel_rfl

theorem l_slices_IndexFunc_s_int_int_0_0 (fuel d : Nat) (fr : Fr) (h : AHeap) :
    l_slices_IndexFunc_s_int_int_0 fuel d 0 fr h =
  none := by
  generalize hh : l_slices_IndexFunc_s_int_int_0 = R
  rw [l_slices_IndexFunc_s_int_int_0_is] at hh
  subst hh
  kernel_rfl

theorem k_slices_IndexFunc_s_int_int_0_x0 (fuel d : Nat) (x4 : AVal) (h : AHeap) :
    k_slices_IndexFunc_s_int_int_0 fuel d (.exit 0) [(4, x4)] h =
  some ((AVal.int .i64 (-1 : Int)), h) := by
  generalize hh : k_slices_IndexFunc_s_int_int_0 = R
  rw [k_slices_IndexFunc_s_int_int_0_is] at hh
  subst hh
  kernel_rfl

theorem k_slices_IndexFunc_s_int_int_0_r (fuel d : Nat) (x4 : Int) (h : AHeap) :
    k_slices_IndexFunc_s_int_int_0 fuel d .ret [(4, (AVal.int .i64 x4))] h =
  some ((AVal.int .i64 x4), h) := by
  generalize hh : k_slices_IndexFunc_s_int_int_0 = R
  rw [k_slices_IndexFunc_s_int_int_0_is] at hh
  subst hh
  kernel_rfl

/-! 99: slices.pdqsortCmpFunc[int] -/

noncomputable def s_slices_pdqsortCmpFunc_int_0 (fuel d : Nat) : Run := fun fr h k => aexec (Cf fuel F_slices_pdqsortCmpFunc_int) false (acall (C fuel) false d) (acall (C fuel) true d) 148 (csub [true, true, false, false] (fbody Go.Proofs.Tryd.f99)) (asub [true, true, false, false] an99) fr h k

noncomputable def l_slices_pdqsortCmpFunc_int_0r (fuel d : Nat) (n : Nat) (fr : Fr) (h : AHeap) : Option (AExit × Fr × AHeap) := aloop (s_slices_pdqsortCmpFunc_int_0 fuel d) (some [0, 1, 2, 3, 4, 10, 11]) n fr h (kOut [])

noncomputable def l_slices_pdqsortCmpFunc_int_0 : Nat → Nat → Nat → Fr → AHeap → Option (AExit × Fr × AHeap) := hide l_slices_pdqsortCmpFunc_int_0r

theorem l_slices_pdqsortCmpFunc_int_0_is : l_slices_pdqsortCmpFunc_int_0 = l_slices_pdqsortCmpFunc_int_0r := hide_eq _

noncomputable def k_slices_pdqsortCmpFunc_int_0r (fuel d : Nat) : AExit → Fr → AHeap → Option (AVal × AHeap) := (kBlock 0 (kRet (Cf fuel F_slices_pdqsortCmpFunc_int) Go.Proofs.Tryd.f99.results.toList))

noncomputable def k_slices_pdqsortCmpFunc_int_0 : Nat → Nat → AExit → Fr → AHeap → Option (AVal × AHeap) := hide k_slices_pdqsortCmpFunc_int_0r

theorem k_slices_pdqsortCmpFunc_int_0_is : k_slices_pdqsortCmpFunc_int_0 = k_slices_pdqsortCmpFunc_int_0r := hide_eq _

noncomputable def k_slices_pdqsortCmpFunc_int_1r (fuel d : Nat) (n : Nat) : AExit → Fr → AHeap → Option (AExit × Fr × AHeap) := (kSeq (Cf fuel F_slices_pdqsortCmpFunc_int) false (acall (C fuel) false d) (acall (C fuel) true d) 148 (csub [true, true, false, false, false, true, true, true, true] (fbody Go.Proofs.Tryd.f99)) (asub [true, true, false, false, false, true, true, true, true] an99) (kBlock 1 (kLoop (s_slices_pdqsortCmpFunc_int_0 fuel d) (some [0, 1, 2, 3, 4, 10, 11]) n (kOut []))))

noncomputable def k_slices_pdqsortCmpFunc_int_1 : Nat → Nat → Nat → AExit → Fr → AHeap → Option (AExit × Fr × AHeap) := hide k_slices_pdqsortCmpFunc_int_1r

theorem k_slices_pdqsortCmpFunc_int_1_is : k_slices_pdqsortCmpFunc_int_1 = k_slices_pdqsortCmpFunc_int_1r := hide_eq _

noncomputable def k_slices_pdqsortCmpFunc_int_2r (fuel d : Nat) (n : Nat) : AExit → Fr → AHeap → Option (AExit × Fr × AHeap) := (kSeq (Cf fuel F_slices_pdqsortCmpFunc_int) false (acall (C fuel) false d) (acall (C fuel) true d) 148 (csub [true, true, false, false, false, true, true, true, true, true, true] (fbody Go.Proofs.Tryd.f99)) (asub [true, true, false, false, false, true, true, true, true, true, true] an99) (kBlock 1 (kLoop (s_slices_pdqsortCmpFunc_int_0 fuel d) (some [0, 1, 2, 3, 4, 10, 11]) n (kOut []))))

noncomputable def k_slices_pdqsortCmpFunc_int_2 : Nat → Nat → Nat → AExit → Fr → AHeap → Option (AExit × Fr × AHeap) := hide k_slices_pdqsortCmpFunc_int_2r

theorem k_slices_pdqsortCmpFunc_int_2_is : k_slices_pdqsortCmpFunc_int_2 = k_slices_pdqsortCmpFunc_int_2r := hide_eq _

noncomputable def k_slices_pdqsortCmpFunc_int_3r (fuel d : Nat) (n : Nat) : AExit → Fr → AHeap → Option (AExit × Fr × AHeap) := (kSeq (Cf fuel F_slices_pdqsortCmpFunc_int) false (acall (C fuel) false d) (acall (C fuel) true d) 148 (csub [true, true, false, false, false, true, true, true, true, true, true, true] (fbody Go.Proofs.Tryd.f99)) (asub [true, true, false, false, false, true, true, true, true, true, true, true] an99) (kBlock 1 (kLoop (s_slices_pdqsortCmpFunc_int_0 fuel d) (some [0, 1, 2, 3, 4, 10, 11]) n (kOut []))))

noncomputable def k_slices_pdqsortCmpFunc_int_3 : Nat → Nat → Nat → AExit → Fr → AHeap → Option (AExit × Fr × AHeap) := hide k_slices_pdqsortCmpFunc_int_3r

theorem k_slices_pdqsortCmpFunc_int_3_is : k_slices_pdqsortCmpFunc_int_3 = k_slices_pdqsortCmpFunc_int_3r := hide_eq _

noncomputable def k_slices_pdqsortCmpFunc_int_4r (fuel d : Nat) (n : Nat) : AExit → Fr → AHeap → Option (AExit × Fr × AHeap) := (kSeq (Cf fuel F_slices_pdqsortCmpFunc_int) false (acall (C fuel) false d) (acall (C fuel) true d) 148 (csub [true, true, false, false, false, true, true, true, true, true, true, true, false, true] (fbody Go.Proofs.Tryd.f99)) (asub [true, true, false, false, false, true, true, true, true, true, true, true, false, true] an99) (kSeq (Cf fuel F_slices_pdqsortCmpFunc_int) false (acall (C fuel) false d) (acall (C fuel) true d) 148 (csub [true, true, false, false, false, true, true, true, true, true, true, true, true] (fbody Go.Proofs.Tryd.f99)) (asub [true, true, false, false, false, true, true, true, true, true, true, true, true] an99) (kBlock 1 (kLoop (s_slices_pdqsortCmpFunc_int_0 fuel d) (some [0, 1, 2, 3, 4, 10, 11]) n (kOut [])))))

noncomputable def k_slices_pdqsortCmpFunc_int_4 : Nat → Nat → Nat → AExit → Fr → AHeap → Option (AExit × Fr × AHeap) := hide k_slices_pdqsortCmpFunc_int_4r

theorem k_slices_pdqsortCmpFunc_int_4_is : k_slices_pdqsortCmpFunc_int_4 = k_slices_pdqsortCmpFunc_int_4r := hide_eq _

theorem e_slices_pdqsortCmpFunc_int (fuel d : Nat) (x0 : Sl) (x1 : Int) (x2 : Int) (x3 : Int) (x4f : Nat) (x4c : List Pt) (h : AHeap) :
    run fuel (d + 1) F_slices_pdqsortCmpFunc_int [(AVal.slice x0), (AVal.int .i64 x1), (AVal.int .i64 x2), (AVal.int .i64 x3), (AVal.func x4f x4c)] h =
  (l_slices_pdqsortCmpFunc_int_0 fuel d fuel [(0, (AVal.slice x0)), (1, (AVal.int .i64 x1)), (2, (AVal.int .i64 x2)), (3, (AVal.int .i64 x3)), (4, (AVal.func x4f x4c)), (10, (AVal.bool true)), (11, (AVal.bool true))] h).bind fun p1 =>
    k_slices_pdqsortCmpFunc_int_0 fuel d p1.1 p1.2.1 p1.2.2 := by
  generalize hh : run = R
  rw [run_is] at hh
  subst hh
  generalize hh : l_slices_pdqsortCmpFunc_int_0 = R
  rw [l_slices_pdqsortCmpFunc_int_0_is] at hh
  subst hh
  generalize hh : k_slices_pdqsortCmpFunc_int_0 = R
  rw [k_slices_pdqsortCmpFunc_int_0_is] at hh
  subst hh
  kernel_rfl

theorem l_slices_pdqsortCmpFunc_int_0_eq (fuel d : Nat) (n : Nat) (x0 : Sl) (x1 : Int) (x2 : Int) (x3 : Int) (x4f : Nat) (x4c : List Pt) (x10 : Bool) (x11 : Bool) (h : AHeap) :
    l_slices_pdqsortCmpFunc_int_0 fuel d (n + 1) [(0, (AVal.slice x0)), (1, (AVal.int .i64 x1)), (2, (AVal.int .i64 x2)), (3, (AVal.int .i64 x3)), (4, (AVal.func x4f x4c)), (10, (AVal.bool x10)), (11, (AVal.bool x11))] h =
  (bif (decide ((IntKind.wrap .i64 (x2 - x1)) ≤ (12 : Int))) then ((run fuel d F_slices_insertionSortCmpFunc_int [(AVal.slice x0), (AVal.int .i64 x1), (AVal.int .i64 x2), (AVal.func x4f x4c)] h).bind fun r1 =>
    some (.ret, [], r1.2)) else ((bif (decide (x3 = (0 : Int))) then ((run fuel d F_slices_heapSortCmpFunc_int [(AVal.slice x0), (AVal.int .i64 x1), (AVal.int .i64 x2), (AVal.func x4f x4c)] h).bind fun r2 =>
    some (.ret, [], r2.2)) else (((bif (!x10) then ((run fuel d F_slices_breakPatternsCmpFunc_int [(AVal.slice x0), (AVal.int .i64 x1), (AVal.int .i64 x2), (AVal.func x4f x4c)] h).bind fun r3 =>
    some (.normal, [(0, (AVal.slice x0)), (1, (AVal.int .i64 x1)), (2, (AVal.int .i64 x2)), (3, (AVal.int .i64 (IntKind.wrap .i64 (x3 - (1 : Int))))), (4, (AVal.func x4f x4c)), (10, (AVal.bool x10)), (11, (AVal.bool x11)), (12, (AVal.int .i64 (IntKind.wrap .i64 (x2 - x1))))], r3.2)) else (some (.normal, [(0, (AVal.slice x0)), (1, (AVal.int .i64 x1)), (2, (AVal.int .i64 x2)), (3, (AVal.int .i64 x3)), (4, (AVal.func x4f x4c)), (10, (AVal.bool x10)), (11, (AVal.bool x11)), (12, (AVal.int .i64 (IntKind.wrap .i64 (x2 - x1))))], h)))).bind fun p4 =>
    k_slices_pdqsortCmpFunc_int_1 fuel d n p4.1 p4.2.1 p4.2.2)))) := by
  generalize hh : run = R
  rw [run_is] at hh
  subst hh
  generalize hh : l_slices_pdqsortCmpFunc_int_0 = R
  rw [l_slices_pdqsortCmpFunc_int_0_is] at hh
  subst hh
  generalize hh : k_slices_pdqsortCmpFunc_int_1 = R
  rw [k_slices_pdqsortCmpFunc_int_1_is] at hh
  subst hh
  kernel_rfl

theorem l_slices_pdqsortCmpFunc_int_0_0 (fuel d : Nat) (fr : Fr) (h : AHeap) :
    l_slices_pdqsortCmpFunc_int_0 fuel d 0 fr h =
  none := by
  generalize hh : l_slices_pdqsortCmpFunc_int_0 = R
  rw [l_slices_pdqsortCmpFunc_int_0_is] at hh
  subst hh
  kernel_rfl

theorem k_slices_pdqsortCmpFunc_int_0_r (fuel d : Nat)  (h : AHeap) :
    k_slices_pdqsortCmpFunc_int_0 fuel d .ret [] h =
  some ((AVal.tup []), h) := by
  generalize hh : k_slices_pdqsortCmpFunc_int_0 = R
  rw [k_slices_pdqsortCmpFunc_int_0_is] at hh
  subst hh
  kernel_rfl

theorem k_slices_pdqsortCmpFunc_int_1_n (fuel d : Nat) (n : Nat) (x0 : Sl) (x1 : Int) (x2 : Int) (x3 : Int) (x4f : Nat) (x4c : List Pt) (x10 : Bool) (x11 : Bool) (x12 : Int) (h : AHeap) :
    k_slices_pdqsortCmpFunc_int_1 fuel d n .normal [(0, (AVal.slice x0)), (1, (AVal.int .i64 x1)), (2, (AVal.int .i64 x2)), (3, (AVal.int .i64 x3)), (4, (AVal.func x4f x4c)), (10, (AVal.bool x10)), (11, (AVal.bool x11)), (12, (AVal.int .i64 x12))] h =
  (run fuel d F_slices_choosePivotCmpFunc_int [(AVal.slice x0), (AVal.int .i64 x1), (AVal.int .i64 x2), (AVal.func x4f x4c)] h).bind fun r1 =>
    (bif AVal.isTup 2 r1.1 then ((AVal.comp 0 r1.1).bind fun u2 =>
    (AVal.int? .i64 u2).bind fun n3 =>
    (AVal.comp 1 r1.1).bind fun u4 =>
    (AVal.int? .i64 u4).bind fun n5 =>
    ((bif (decide (n5 = (2 : Int))) then ((run fuel d F_slices_reverseRangeCmpFunc_int [(AVal.slice x0), (AVal.int .i64 x1), (AVal.int .i64 x2), (AVal.func x4f x4c)] r1.2).bind fun r6 =>
    some (.normal, [(0, (AVal.slice x0)), (1, (AVal.int .i64 x1)), (2, (AVal.int .i64 x2)), (3, (AVal.int .i64 x3)), (4, (AVal.func x4f x4c)), (10, (AVal.bool x10)), (11, (AVal.bool x11)), (12, (AVal.int .i64 x12)), (13, (AVal.int .i64 (IntKind.wrap .i64 ((IntKind.wrap .i64 (x2 - (1 : Int))) - (IntKind.wrap .i64 (n3 - x1)))))), (14, (AVal.int .i64 (1 : Int)))], r6.2)) else (some (.normal, [(0, (AVal.slice x0)), (1, (AVal.int .i64 x1)), (2, (AVal.int .i64 x2)), (3, (AVal.int .i64 x3)), (4, (AVal.func x4f x4c)), (10, (AVal.bool x10)), (11, (AVal.bool x11)), (12, (AVal.int .i64 x12)), (13, (AVal.int .i64 n3)), (14, (AVal.int .i64 n5))], r1.2)))).bind fun p7 =>
    k_slices_pdqsortCmpFunc_int_2 fuel d n p7.1 p7.2.1 p7.2.2) else none) := by
  generalize hh : run = R
  rw [run_is] at hh
  subst hh
  generalize hh : k_slices_pdqsortCmpFunc_int_1 = R
  rw [k_slices_pdqsortCmpFunc_int_1_is] at hh
  subst hh
  generalize hh : k_slices_pdqsortCmpFunc_int_2 = R
  rw [k_slices_pdqsortCmpFunc_int_2_is] at hh
  subst hh
  kernel_rfl

theorem k_slices_pdqsortCmpFunc_int_2_n (fuel d : Nat) (n : Nat) (x0 : Sl) (x1 : Int) (x2 : Int) (x3 : Int) (x4f : Nat) (x4c : List Pt) (x10 : Bool) (x11 : Bool) (x12 : Int) (x13 : Int) (x14 : Int) (h : AHeap) :
    k_slices_pdqsortCmpFunc_int_2 fuel d n .normal [(0, (AVal.slice x0)), (1, (AVal.int .i64 x1)), (2, (AVal.int .i64 x2)), (3, (AVal.int .i64 x3)), (4, (AVal.func x4f x4c)), (10, (AVal.bool x10)), (11, (AVal.bool x11)), (12, (AVal.int .i64 x12)), (13, (AVal.int .i64 x13)), (14, (AVal.int .i64 x14))] h =
  ((bif (bif (bif x10 then x11 else false) then (decide (x14 = (1 : Int))) else false) then ((run fuel d F_slices_partialInsertionSortCmpFunc_int [(AVal.slice x0), (AVal.int .i64 x1), (AVal.int .i64 x2), (AVal.func x4f x4c)] h).bind fun r1 =>
    (AVal.bool? r1.1).bind fun b2 =>
    (bif b2 then (some (.ret, [(0, (AVal.slice x0)), (1, (AVal.int .i64 x1)), (2, (AVal.int .i64 x2)), (3, (AVal.int .i64 x3)), (4, (AVal.func x4f x4c)), (10, (AVal.bool x10)), (11, (AVal.bool x11)), (12, (AVal.int .i64 x12)), (13, (AVal.int .i64 x13))], r1.2)) else (some (.normal, [(0, (AVal.slice x0)), (1, (AVal.int .i64 x1)), (2, (AVal.int .i64 x2)), (3, (AVal.int .i64 x3)), (4, (AVal.func x4f x4c)), (10, (AVal.bool x10)), (11, (AVal.bool x11)), (12, (AVal.int .i64 x12)), (13, (AVal.int .i64 x13))], r1.2)))) else (some (.normal, [(0, (AVal.slice x0)), (1, (AVal.int .i64 x1)), (2, (AVal.int .i64 x2)), (3, (AVal.int .i64 x3)), (4, (AVal.func x4f x4c)), (10, (AVal.bool x10)), (11, (AVal.bool x11)), (12, (AVal.int .i64 x12)), (13, (AVal.int .i64 x13))], h)))).bind fun p3 =>
    k_slices_pdqsortCmpFunc_int_3 fuel d n p3.1 p3.2.1 p3.2.2 := by
  generalize hh : run = R
  rw [run_is] at hh
  subst hh
  generalize hh : k_slices_pdqsortCmpFunc_int_2 = R
  rw [k_slices_pdqsortCmpFunc_int_2_is] at hh
  subst hh
  generalize hh : k_slices_pdqsortCmpFunc_int_3 = R
  rw [k_slices_pdqsortCmpFunc_int_3_is] at hh
  subst hh
  kernel_rfl

theorem k_slices_pdqsortCmpFunc_int_3_n (fuel d : Nat) (n : Nat) (x0 : Sl) (x1 : Int) (x2 : Int) (x3 : Int) (x4f : Nat) (x4c : List Pt) (x10 : Bool) (x11 : Bool) (x12 : Int) (x13 : Int) (h : AHeap) :
    k_slices_pdqsortCmpFunc_int_3 fuel d n .normal [(0, (AVal.slice x0)), (1, (AVal.int .i64 x1)), (2, (AVal.int .i64 x2)), (3, (AVal.int .i64 x3)), (4, (AVal.func x4f x4c)), (10, (AVal.bool x10)), (11, (AVal.bool x11)), (12, (AVal.int .i64 x12)), (13, (AVal.int .i64 x13))] h =
  ((bif (decide ((0 : Int) < x1)) then ((AHeap.addr h 1 x0 (IntKind.wrap .i64 (x1 - (1 : Int)))).bind fun p1 =>
    (AHeap.cell h p1).bind fun u2 =>
    (AVal.int? .i64 u2).bind fun n3 =>
    (AHeap.addr h 1 x0 x13).bind fun p4 =>
    (AHeap.cell h p4).bind fun u5 =>
    (AVal.int? .i64 u5).bind fun n6 =>
    (run fuel d x4f ([(AVal.int .i64 n3), (AVal.int .i64 n6)] ++ List.map AVal.ptr x4c) h).bind fun r7 =>
    (AVal.int? .i64 r7.1).bind fun n8 =>
    some (.normal, [(0, (AVal.slice x0)), (1, (AVal.int .i64 x1)), (2, (AVal.int .i64 x2)), (3, (AVal.int .i64 x3)), (4, (AVal.func x4f x4c)), (10, (AVal.bool x10)), (11, (AVal.bool x11)), (12, (AVal.int .i64 x12)), (13, (AVal.int .i64 x13)), (97, (AVal.bool (!(decide (n8 < (0 : Int))))))], r7.2)) else (some (.normal, [(0, (AVal.slice x0)), (1, (AVal.int .i64 x1)), (2, (AVal.int .i64 x2)), (3, (AVal.int .i64 x3)), (4, (AVal.func x4f x4c)), (10, (AVal.bool x10)), (11, (AVal.bool x11)), (12, (AVal.int .i64 x12)), (13, (AVal.int .i64 x13)), (97, (AVal.bool false))], h)))).bind fun p9 =>
    k_slices_pdqsortCmpFunc_int_4 fuel d n p9.1 p9.2.1 p9.2.2 := by
  generalize hh : run = R
  rw [run_is] at hh
  subst hh
  generalize hh : k_slices_pdqsortCmpFunc_int_3 = R
  rw [k_slices_pdqsortCmpFunc_int_3_is] at hh
  subst hh
  generalize hh : k_slices_pdqsortCmpFunc_int_4 = R
  rw [k_slices_pdqsortCmpFunc_int_4_is] at hh
  subst hh
  kernel_rfl

theorem k_slices_pdqsortCmpFunc_int_3_r (fuel d : Nat) (n : Nat) (x0 : AVal) (x1 : AVal) (x2 : AVal) (x3 : AVal) (x4 : AVal) (x10 : AVal) (x11 : AVal) (x12 : AVal) (x13 : AVal) (h : AHeap) :
    k_slices_pdqsortCmpFunc_int_3 fuel d n .ret [(0, x0), (1, x1), (2, x2), (3, x3), (4, x4), (10, x10), (11, x11), (12, x12), (13, x13)] h =
  some (.ret, [], h) := by
  generalize hh : k_slices_pdqsortCmpFunc_int_3 = R
  rw [k_slices_pdqsortCmpFunc_int_3_is] at hh
  subst hh
  kernel_rfl

theorem k_slices_pdqsortCmpFunc_int_4_n (fuel d : Nat) (n : Nat) (x0 : Sl) (x1 : Int) (x2 : Int) (x3 : Int) (x4f : Nat) (x4c : List Pt) (x10 : Bool) (x11 : Bool) (x12 : Int) (x13 : Int) (x97 : Bool) (h : AHeap) :
    k_slices_pdqsortCmpFunc_int_4 fuel d n .normal [(0, (AVal.slice x0)), (1, (AVal.int .i64 x1)), (2, (AVal.int .i64 x2)), (3, (AVal.int .i64 x3)), (4, (AVal.func x4f x4c)), (10, (AVal.bool x10)), (11, (AVal.bool x11)), (12, (AVal.int .i64 x12)), (13, (AVal.int .i64 x13)), (97, (AVal.bool x97))] h =
  (bif x97 then ((run fuel d F_slices_partitionEqualCmpFunc_int [(AVal.slice x0), (AVal.int .i64 x1), (AVal.int .i64 x2), (AVal.int .i64 x13), (AVal.func x4f x4c)] h).bind fun r1 =>
    (AVal.int? .i64 r1.1).bind fun n2 =>
    l_slices_pdqsortCmpFunc_int_0 fuel d n [(0, (AVal.slice x0)), (1, (AVal.int .i64 n2)), (2, (AVal.int .i64 x2)), (3, (AVal.int .i64 x3)), (4, (AVal.func x4f x4c)), (10, (AVal.bool x10)), (11, (AVal.bool x11))] r1.2) else ((run fuel d F_slices_partitionCmpFunc_int [(AVal.slice x0), (AVal.int .i64 x1), (AVal.int .i64 x2), (AVal.int .i64 x13), (AVal.func x4f x4c)] h).bind fun r3 =>
    (bif AVal.isTup 2 r3.1 then ((AVal.comp 0 r3.1).bind fun u4 =>
    (AVal.int? .i64 u4).bind fun n5 =>
    (AVal.comp 1 r3.1).bind fun u6 =>
    (AVal.bool? u6).bind fun b7 =>
    (bif (decide ((IntKind.wrap .i64 (n5 - x1)) < (IntKind.wrap .i64 (x2 - n5)))) then ((run fuel d F_slices_pdqsortCmpFunc_int [(AVal.slice x0), (AVal.int .i64 x1), (AVal.int .i64 n5), (AVal.int .i64 x3), (AVal.func x4f x4c)] r3.2).bind fun r8 =>
    l_slices_pdqsortCmpFunc_int_0 fuel d n [(0, (AVal.slice x0)), (1, (AVal.int .i64 (IntKind.wrap .i64 (n5 + (1 : Int))))), (2, (AVal.int .i64 x2)), (3, (AVal.int .i64 x3)), (4, (AVal.func x4f x4c)), (10, (AVal.bool (decide ((IntKind.wrap .i64 (Int.tdiv x12 (8 : Int))) ≤ (IntKind.wrap .i64 (n5 - x1)))))), (11, (AVal.bool b7))] r8.2) else ((run fuel d F_slices_pdqsortCmpFunc_int [(AVal.slice x0), (AVal.int .i64 (IntKind.wrap .i64 (n5 + (1 : Int)))), (AVal.int .i64 x2), (AVal.int .i64 x3), (AVal.func x4f x4c)] r3.2).bind fun r9 =>
    l_slices_pdqsortCmpFunc_int_0 fuel d n [(0, (AVal.slice x0)), (1, (AVal.int .i64 x1)), (2, (AVal.int .i64 n5)), (3, (AVal.int .i64 x3)), (4, (AVal.func x4f x4c)), (10, (AVal.bool (decide ((IntKind.wrap .i64 (Int.tdiv x12 (8 : Int))) ≤ (IntKind.wrap .i64 (x2 - n5)))))), (11, (AVal.bool b7))] r9.2))) else none))) := by
  generalize hh : run = R
  rw [run_is] at hh
  subst hh
  generalize hh : l_slices_pdqsortCmpFunc_int_0 = R
  rw [l_slices_pdqsortCmpFunc_int_0_is] at hh
  subst hh
  generalize hh : k_slices_pdqsortCmpFunc_int_4 = R
  rw [k_slices_pdqsortCmpFunc_int_4_is] at hh
  subst hh
  kernel_rfl

/-! 100: math/bits.Len -/

theorem e_bits_Len (fuel d : Nat) (x0 : Int) (h : AHeap) :
    brun fuel (d + 1) F_bits_Len [(AVal.int .u64 x0)] h =
  (run fuel d F_bits_Len64 [(AVal.int .u64 x0)] h).bind fun r1 =>
    (AVal.int? .i64 r1.1).bind fun n2 =>
    some ((AVal.int .i64 n2), r1.2) := by
  generalize hh : run = R
  rw [run_is] at hh
  subst hh
  generalize hh : brun = R
  rw [brun_is] at hh
  subst hh
  kernel_rfl

/-! 101: cmp.Or[int] -/

noncomputable def s_cmp_Or_int_0 (fuel d : Nat) : Run := fun fr h k => aexec (Cf fuel F_cmp_Or_int) false (acall (C fuel) false d) (acall (C fuel) true d) 18 (csub [true, true, false, true, false, false] (fbody Go.Proofs.Tryd.f101)) (asub [true, true, false, true, false, false] an101) fr h k

noncomputable def l_cmp_Or_int_0r (fuel d : Nat) (n : Nat) (fr : Fr) (h : AHeap) : Option (AExit × Fr × AHeap) := aloop (s_cmp_Or_int_0 fuel d) (some [3, 6, 7, 8]) n fr h (kOut [2, 3])

noncomputable def l_cmp_Or_int_0 : Nat → Nat → Nat → Fr → AHeap → Option (AExit × Fr × AHeap) := hide l_cmp_Or_int_0r

theorem l_cmp_Or_int_0_is : l_cmp_Or_int_0 = l_cmp_Or_int_0r := hide_eq _

noncomputable def k_cmp_Or_int_0r (fuel d : Nat) : AExit → Fr → AHeap → Option (AVal × AHeap) := (kBlock 0 (kSeq (Cf fuel F_cmp_Or_int) false (acall (C fuel) false d) (acall (C fuel) true d) 18 (csub [true, true, true] (fbody Go.Proofs.Tryd.f101)) (asub [true, true, true] an101) (kRet (Cf fuel F_cmp_Or_int) Go.Proofs.Tryd.f101.results.toList)))

noncomputable def k_cmp_Or_int_0 : Nat → Nat → AExit → Fr → AHeap → Option (AVal × AHeap) := hide k_cmp_Or_int_0r

theorem k_cmp_Or_int_0_is : k_cmp_Or_int_0 = k_cmp_Or_int_0r := hide_eq _

theorem e_cmp_Or_int (fuel d : Nat) (x0 : Sl) (h : AHeap) :
    brun fuel (d + 1) F_cmp_Or_int [(AVal.slice x0)] h =
  (l_cmp_Or_int_0 fuel d fuel [(3, (AVal.int .i64 (0 : Int))), (6, (AVal.slice x0)), (7, (AVal.int .i64 ((x0.len : Nat) : Int))), (8, (AVal.int .i64 (0 : Int)))] h).bind fun p1 =>
    k_cmp_Or_int_0 fuel d p1.1 p1.2.1 p1.2.2 := by
  generalize hh : brun = R
  rw [brun_is] at hh
  subst hh
  generalize hh : l_cmp_Or_int_0 = R
  rw [l_cmp_Or_int_0_is] at hh
  subst hh
  generalize hh : k_cmp_Or_int_0 = R
  rw [k_cmp_Or_int_0_is] at hh
  subst hh
  kernel_rfl

theorem l_cmp_Or_int_0_eq (fuel d : Nat) (n : Nat) (x3 : Int) (x6 : Sl) (x7 : Int) (x8 : Int) (h : AHeap) :
    l_cmp_Or_int_0 fuel d (n + 1) [(3, (AVal.int .i64 x3)), (6, (AVal.slice x6)), (7, (AVal.int .i64 x7)), (8, (AVal.int .i64 x8))] h =
  (bif (decide (x8 < x7)) then ((AHeap.addr h 1 x6 x8).bind fun p1 =>
    (AHeap.cell h p1).bind fun u2 =>
    (AVal.int? .i64 u2).bind fun n3 =>
    (bif (!decide (n3 = x3)) then (some (.ret, [(2, (AVal.int .i64 n3)), (3, (AVal.int .i64 x3))], h)) else (l_cmp_Or_int_0 fuel d n [(3, (AVal.int .i64 x3)), (6, (AVal.slice x6)), (7, (AVal.int .i64 x7)), (8, (AVal.int .i64 (IntKind.wrap .i64 (x8 + (1 : Int)))))] h))) else (some ((.exit 0), [(2, AVal.bot), (3, (AVal.int .i64 x3))], h))) := by
  generalize hh : l_cmp_Or_int_0 = R
  rw [l_cmp_Or_int_0_is] at hh
  subst hh
  kernel_rfl

theorem l_cmp_Or_int_0_0 (fuel d : Nat) (fr : Fr) (h : AHeap) :
    l_cmp_Or_int_0 fuel d 0 fr h =
  none := by
  generalize hh : l_cmp_Or_int_0 = R
  rw [l_cmp_Or_int_0_is] at hh
  subst hh
  kernel_rfl

theorem k_cmp_Or_int_0_x0 (fuel d : Nat) (x2 : AVal) (x3 : Int) (h : AHeap) :
    k_cmp_Or_int_0 fuel d (.exit 0) [(2, x2), (3, (AVal.int .i64 x3))] h =
  some ((AVal.int .i64 x3), h) := by
  generalize hh : k_cmp_Or_int_0 = R
  rw [k_cmp_Or_int_0_is] at hh
  subst hh
  kernel_rfl

theorem k_cmp_Or_int_0_r (fuel d : Nat) (x2 : Int) (x3 : AVal) (h : AHeap) :
    k_cmp_Or_int_0 fuel d .ret [(2, (AVal.int .i64 x2)), (3, x3)] h =
  some ((AVal.int .i64 x2), h) := by
  generalize hh : k_cmp_Or_int_0 = R
  rw [k_cmp_Or_int_0_is] at hh
  subst hh
  kernel_rfl

/-! 102: cmp.Compare[int] -/

theorem e_cmp_Compare_int (fuel d : Nat) (x0 : Int) (x1 : Int) (h : AHeap) :
    brun fuel (d + 1) F_cmp_Compare_int [(AVal.int .i64 x0), (AVal.int .i64 x1)] h =
  (run fuel d F_cmp_isNaN_int [(AVal.int .i64 x0)] h).bind fun r1 =>
    (AVal.bool? r1.1).bind fun b2 =>
    (run fuel d F_cmp_isNaN_int [(AVal.int .i64 x1)] r1.2).bind fun r3 =>
    (AVal.bool? r3.1).bind fun b4 =>
    (bif b2 then ((bif b4 then (some ((AVal.int .i64 (0 : Int)), r3.2)) else (some ((AVal.int .i64 (-1 : Int)), r3.2)))) else ((bif b4 then (some ((AVal.int .i64 (1 : Int)), r3.2)) else ((bif (decide (x0 < x1)) then (some ((AVal.int .i64 (-1 : Int)), r3.2)) else ((bif (decide (x1 < x0)) then (some ((AVal.int .i64 (1 : Int)), r3.2)) else (some ((AVal.int .i64 (0 : Int)), r3.2))))))))) := by
  generalize hh : run = R
  rw [run_is] at hh
  subst hh
  generalize hh : brun = R
  rw [brun_is] at hh
  subst hh
  kernel_rfl

/-! 119: skolem/skolemsee.sentinels -/

theorem e_skolemsee_sentinels (fuel d : Nat)  (h : AHeap) :
    brun fuel (d + 1) F_skolemsee_sentinels [] h =
  ((bif (Nat.beq (List.length (AVal.cells err_api_ErrText)) 1 && Nat.ble (0 + 1) (List.length [AVal.nilif, AVal.nilif, AVal.nilif, AVal.nilif, AVal.nilif, AVal.nilif, AVal.nilif]) && List.all (AVal.cells err_api_ErrText) AVal.isCell) then ((bif (Nat.beq (List.length (AVal.cells err_api_ErrLimit)) 1 && Nat.ble (1 + 1) (List.length (AHeap.overlay [AVal.nilif, AVal.nilif, AVal.nilif, AVal.nilif, AVal.nilif, AVal.nilif, AVal.nilif] 0 (AVal.cells err_api_ErrText))) && List.all (AVal.cells err_api_ErrLimit) AVal.isCell) then ((bif (Nat.beq (List.length (AVal.cells err_api_ErrBudget)) 1 && Nat.ble (2 + 1) (List.length (AHeap.overlay (AHeap.overlay [AVal.nilif, AVal.nilif, AVal.nilif, AVal.nilif, AVal.nilif, AVal.nilif, AVal.nilif] 0 (AVal.cells err_api_ErrText)) 1 (AVal.cells err_api_ErrLimit))) && List.all (AVal.cells err_api_ErrBudget) AVal.isCell) then ((bif (Nat.beq (List.length (AVal.cells err_api_ErrRange)) 1 && Nat.ble (3 + 1) (List.length (AHeap.overlay (AHeap.overlay (AHeap.overlay [AVal.nilif, AVal.nilif, AVal.nilif, AVal.nilif, AVal.nilif, AVal.nilif, AVal.nilif] 0 (AVal.cells err_api_ErrText)) 1 (AVal.cells err_api_ErrLimit)) 2 (AVal.cells err_api_ErrBudget))) && List.all (AVal.cells err_api_ErrRange) AVal.isCell) then ((bif (Nat.beq (List.length (AVal.cells err_api_ErrBlocks)) 1 && Nat.ble (4 + 1) (List.length (AHeap.overlay (AHeap.overlay (AHeap.overlay (AHeap.overlay [AVal.nilif, AVal.nilif, AVal.nilif, AVal.nilif, AVal.nilif, AVal.nilif, AVal.nilif] 0 (AVal.cells err_api_ErrText)) 1 (AVal.cells err_api_ErrLimit)) 2 (AVal.cells err_api_ErrBudget)) 3 (AVal.cells err_api_ErrRange))) && List.all (AVal.cells err_api_ErrBlocks) AVal.isCell) then ((bif (Nat.beq (List.length (AVal.cells err_api_ErrProof)) 1 && Nat.ble (5 + 1) (List.length (AHeap.overlay (AHeap.overlay (AHeap.overlay (AHeap.overlay (AHeap.overlay [AVal.nilif, AVal.nilif, AVal.nilif, AVal.nilif, AVal.nilif, AVal.nilif, AVal.nilif] 0 (AVal.cells err_api_ErrText)) 1 (AVal.cells err_api_ErrLimit)) 2 (AVal.cells err_api_ErrBudget)) 3 (AVal.cells err_api_ErrRange)) 4 (AVal.cells err_api_ErrBlocks))) && List.all (AVal.cells err_api_ErrProof) AVal.isCell) then ((bif (Nat.beq (List.length (AVal.cells err_api_ErrCert)) 1 && Nat.ble (6 + 1) (List.length (AHeap.overlay (AHeap.overlay (AHeap.overlay (AHeap.overlay (AHeap.overlay (AHeap.overlay [AVal.nilif, AVal.nilif, AVal.nilif, AVal.nilif, AVal.nilif, AVal.nilif, AVal.nilif] 0 (AVal.cells err_api_ErrText)) 1 (AVal.cells err_api_ErrLimit)) 2 (AVal.cells err_api_ErrBudget)) 3 (AVal.cells err_api_ErrRange)) 4 (AVal.cells err_api_ErrBlocks)) 5 (AVal.cells err_api_ErrProof))) && List.all (AVal.cells err_api_ErrCert) AVal.isCell) then ((some (AHeap.overlay (AHeap.overlay (AHeap.overlay (AHeap.overlay (AHeap.overlay (AHeap.overlay (AHeap.overlay [AVal.nilif, AVal.nilif, AVal.nilif, AVal.nilif, AVal.nilif, AVal.nilif, AVal.nilif] 0 (AVal.cells err_api_ErrText)) 1 (AVal.cells err_api_ErrLimit)) 2 (AVal.cells err_api_ErrBudget)) 3 (AVal.cells err_api_ErrRange)) 4 (AVal.cells err_api_ErrBlocks)) 5 (AVal.cells err_api_ErrProof)) 6 (AVal.cells err_api_ErrCert)))) else (none))) else (none))) else (none))) else (none))) else (none))) else (none))) else (none))).bind fun c1 =>
    some ((AVal.slice (Sl.lst 7 true c1)), h) := by
  generalize hh : brun = R
  rw [brun_is] at hh
  subst hh
  kernel_rfl

/-! 120: skolem/skolemsee.Alike -/

theorem e_skolemsee_Alike (fuel d : Nat) (x0 : AVal) (x1 : AVal) (h : AHeap) :
    brun fuel (d + 1) F_skolemsee_Alike [x0, x1] h =
  (nilTest .iface x0).bind fun b1 =>
    ((bif ((b1) == false) then ((nilTest .iface x1).bind fun b2 =>
    some ((AVal.bool (b2)), h)) else (some ((AVal.bool true), h)) : Option (AVal × AHeap))).bind fun r3 =>
    (AVal.bool? r3.1).bind fun b4 =>
    (bif b4 then ((nilTest .iface x0).bind fun b5 =>
    ((bif ((b5) == true) then ((nilTest .iface x1).bind fun b6 =>
    some ((AVal.bool (b6)), r3.2)) else (some ((AVal.bool false), r3.2)) : Option (AVal × AHeap))).bind fun r7 =>
    (AVal.bool? r7.1).bind fun b8 =>
    some ((AVal.bool b8), r7.2)) else ((ifaceSame (Cf fuel F_skolemsee_Alike) x0 x1).bind fun b9 =>
    some ((AVal.bool (b9)), r3.2))) := by
  generalize hh : brun = R
  rw [brun_is] at hh
  subst hh
  kernel_rfl

/-! 121: slices.insertionSortCmpFunc[int] -/

noncomputable def s_slices_insertionSortCmpFunc_int_0 (fuel d : Nat) : Run := fun fr h k => aexec (Cf fuel F_slices_insertionSortCmpFunc_int) false (acall (C fuel) false d) (acall (C fuel) true d) 53 (csub [true, false, false] (fbody Go.Proofs.Tryd.f121)) (asub [true, false, false] an121) fr h k

noncomputable def l_slices_insertionSortCmpFunc_int_0r (fuel d : Nat) (n : Nat) (fr : Fr) (h : AHeap) : Option (AExit × Fr × AHeap) := aloop (s_slices_insertionSortCmpFunc_int_0 fuel d) (some [0, 1, 2, 3, 8]) n fr h (kOut [])

noncomputable def l_slices_insertionSortCmpFunc_int_0 : Nat → Nat → Nat → Fr → AHeap → Option (AExit × Fr × AHeap) := hide l_slices_insertionSortCmpFunc_int_0r

theorem l_slices_insertionSortCmpFunc_int_0_is : l_slices_insertionSortCmpFunc_int_0 = l_slices_insertionSortCmpFunc_int_0r := hide_eq _

noncomputable def k_slices_insertionSortCmpFunc_int_0r (fuel d : Nat) : AExit → Fr → AHeap → Option (AVal × AHeap) := (kBlock 0 (kRet (Cf fuel F_slices_insertionSortCmpFunc_int) Go.Proofs.Tryd.f121.results.toList))

noncomputable def k_slices_insertionSortCmpFunc_int_0 : Nat → Nat → AExit → Fr → AHeap → Option (AVal × AHeap) := hide k_slices_insertionSortCmpFunc_int_0r

theorem k_slices_insertionSortCmpFunc_int_0_is : k_slices_insertionSortCmpFunc_int_0 = k_slices_insertionSortCmpFunc_int_0r := hide_eq _

noncomputable def s_slices_insertionSortCmpFunc_int_1 (fuel d : Nat) : Run := fun fr h k => aexec (Cf fuel F_slices_insertionSortCmpFunc_int) false (acall (C fuel) false d) (acall (C fuel) true d) 53 (csub [true, false, false, true, false, false, true, false, false] (fbody Go.Proofs.Tryd.f121)) (asub [true, false, false, true, false, false, true, false, false] an121) fr h k

noncomputable def l_slices_insertionSortCmpFunc_int_1r (fuel d : Nat) (n : Nat) (fr : Fr) (h : AHeap) : Option (AExit × Fr × AHeap) := aloop (s_slices_insertionSortCmpFunc_int_1 fuel d) (some [0, 1, 2, 3, 8, 9]) n fr h (kOut [0, 1, 2, 3, 8])

noncomputable def l_slices_insertionSortCmpFunc_int_1 : Nat → Nat → Nat → Fr → AHeap → Option (AExit × Fr × AHeap) := hide l_slices_insertionSortCmpFunc_int_1r

theorem l_slices_insertionSortCmpFunc_int_1_is : l_slices_insertionSortCmpFunc_int_1 = l_slices_insertionSortCmpFunc_int_1r := hide_eq _

noncomputable def k_slices_insertionSortCmpFunc_int_1r (fuel d : Nat) (n : Nat) : AExit → Fr → AHeap → Option (AExit × Fr × AHeap) := (kBlock 2 (kBlock 1 (kSeq (Cf fuel F_slices_insertionSortCmpFunc_int) false (acall (C fuel) false d) (acall (C fuel) true d) 53 (csub [true, false, false, true, true] (fbody Go.Proofs.Tryd.f121)) (asub [true, false, false, true, true] an121) (kLoop (s_slices_insertionSortCmpFunc_int_0 fuel d) (some [0, 1, 2, 3, 8]) n (kOut [])))))

noncomputable def k_slices_insertionSortCmpFunc_int_1 : Nat → Nat → Nat → AExit → Fr → AHeap → Option (AExit × Fr × AHeap) := hide k_slices_insertionSortCmpFunc_int_1r

theorem k_slices_insertionSortCmpFunc_int_1_is : k_slices_insertionSortCmpFunc_int_1 = k_slices_insertionSortCmpFunc_int_1r := hide_eq _

noncomputable def k_slices_insertionSortCmpFunc_int_2r (fuel d : Nat) (n : Nat) : AExit → Fr → AHeap → Option (AExit × Fr × AHeap) := (kSeq (Cf fuel F_slices_insertionSortCmpFunc_int) false (acall (C fuel) false d) (acall (C fuel) true d) 53 (csub [true, false, false, true, false, false, true, false, false, false, true] (fbody Go.Proofs.Tryd.f121)) (asub [true, false, false, true, false, false, true, false, false, false, true] an121) (kSeq (Cf fuel F_slices_insertionSortCmpFunc_int) false (acall (C fuel) false d) (acall (C fuel) true d) 53 (csub [true, false, false, true, false, false, true, false, false, true] (fbody Go.Proofs.Tryd.f121)) (asub [true, false, false, true, false, false, true, false, false, true] an121) (kLoop (s_slices_insertionSortCmpFunc_int_1 fuel d) (some [0, 1, 2, 3, 8, 9]) n (kOut [0, 1, 2, 3, 8]))))

noncomputable def k_slices_insertionSortCmpFunc_int_2 : Nat → Nat → Nat → AExit → Fr → AHeap → Option (AExit × Fr × AHeap) := hide k_slices_insertionSortCmpFunc_int_2r

theorem k_slices_insertionSortCmpFunc_int_2_is : k_slices_insertionSortCmpFunc_int_2 = k_slices_insertionSortCmpFunc_int_2r := hide_eq _

theorem e_slices_insertionSortCmpFunc_int (fuel d : Nat) (x0 : Sl) (x1 : Int) (x2 : Int) (x3f : Nat) (x3c : List Pt) (h : AHeap) :
    run fuel (d + 1) F_slices_insertionSortCmpFunc_int [(AVal.slice x0), (AVal.int .i64 x1), (AVal.int .i64 x2), (AVal.func x3f x3c)] h =
  (l_slices_insertionSortCmpFunc_int_0 fuel d fuel [(0, (AVal.slice x0)), (1, (AVal.int .i64 x1)), (2, (AVal.int .i64 x2)), (3, (AVal.func x3f x3c)), (8, (AVal.int .i64 (IntKind.wrap .i64 (x1 + (1 : Int)))))] h).bind fun p1 =>
    k_slices_insertionSortCmpFunc_int_0 fuel d p1.1 p1.2.1 p1.2.2 := by
  generalize hh : run = R
  rw [run_is] at hh
  subst hh
  generalize hh : l_slices_insertionSortCmpFunc_int_0 = R
  rw [l_slices_insertionSortCmpFunc_int_0_is] at hh
  subst hh
  generalize hh : k_slices_insertionSortCmpFunc_int_0 = R
  rw [k_slices_insertionSortCmpFunc_int_0_is] at hh
  subst hh
  kernel_rfl

theorem l_slices_insertionSortCmpFunc_int_0_eq (fuel d : Nat) (n : Nat) (x0 : Sl) (x1 : Int) (x2 : Int) (x3f : Nat) (x3c : List Pt) (x8 : Int) (h : AHeap) :
    l_slices_insertionSortCmpFunc_int_0 fuel d (n + 1) [(0, (AVal.slice x0)), (1, (AVal.int .i64 x1)), (2, (AVal.int .i64 x2)), (3, (AVal.func x3f x3c)), (8, (AVal.int .i64 x8))] h =
  (bif (decide (x8 < x2)) then ((l_slices_insertionSortCmpFunc_int_1 fuel d fuel [(0, (AVal.slice x0)), (1, (AVal.int .i64 x1)), (2, (AVal.int .i64 x2)), (3, (AVal.func x3f x3c)), (8, (AVal.int .i64 x8)), (9, (AVal.int .i64 x8))] h).bind fun p1 =>
    k_slices_insertionSortCmpFunc_int_1 fuel d n p1.1 p1.2.1 p1.2.2) else (some ((.exit 0), [], h))) := by
  generalize hh : l_slices_insertionSortCmpFunc_int_0 = R
  rw [l_slices_insertionSortCmpFunc_int_0_is] at hh
  subst hh
  generalize hh : l_slices_insertionSortCmpFunc_int_1 = R
  rw [l_slices_insertionSortCmpFunc_int_1_is] at hh
  subst hh
  generalize hh : k_slices_insertionSortCmpFunc_int_1 = R
  rw [k_slices_insertionSortCmpFunc_int_1_is] at hh
  subst hh
  kernel_rfl

theorem l_slices_insertionSortCmpFunc_int_0_0 (fuel d : Nat) (fr : Fr) (h : AHeap) :
    l_slices_insertionSortCmpFunc_int_0 fuel d 0 fr h =
  none := by
  generalize hh : l_slices_insertionSortCmpFunc_int_0 = R
  rw [l_slices_insertionSortCmpFunc_int_0_is] at hh
  subst hh
  kernel_rfl

theorem k_slices_insertionSortCmpFunc_int_0_x0 (fuel d : Nat)  (h : AHeap) :
    k_slices_insertionSortCmpFunc_int_0 fuel d (.exit 0) [] h =
  some ((AVal.tup []), h) := by
  generalize hh : k_slices_insertionSortCmpFunc_int_0 = R
  rw [k_slices_insertionSortCmpFunc_int_0_is] at hh
  subst hh
  kernel_rfl

theorem l_slices_insertionSortCmpFunc_int_1_eq (fuel d : Nat) (n : Nat) (x0 : Sl) (x1 : Int) (x2 : Int) (x3f : Nat) (x3c : List Pt) (x8 : Int) (x9 : Int) (h : AHeap) :
    l_slices_insertionSortCmpFunc_int_1 fuel d (n + 1) [(0, (AVal.slice x0)), (1, (AVal.int .i64 x1)), (2, (AVal.int .i64 x2)), (3, (AVal.func x3f x3c)), (8, (AVal.int .i64 x8)), (9, (AVal.int .i64 x9))] h =
  ((bif (decide (x1 < x9)) then ((AHeap.addr h 1 x0 x9).bind fun p1 =>
    (AHeap.cell h p1).bind fun u2 =>
    (AVal.int? .i64 u2).bind fun n3 =>
    (AHeap.addr h 1 x0 (IntKind.wrap .i64 (x9 - (1 : Int)))).bind fun p4 =>
    (AHeap.cell h p4).bind fun u5 =>
    (AVal.int? .i64 u5).bind fun n6 =>
    (run fuel d x3f ([(AVal.int .i64 n3), (AVal.int .i64 n6)] ++ List.map AVal.ptr x3c) h).bind fun r7 =>
    (AVal.int? .i64 r7.1).bind fun n8 =>
    some (.normal, [(0, (AVal.slice x0)), (1, (AVal.int .i64 x1)), (2, (AVal.int .i64 x2)), (3, (AVal.func x3f x3c)), (8, (AVal.int .i64 x8)), (9, (AVal.int .i64 x9)), (34, (AVal.bool (decide (n8 < (0 : Int)))))], r7.2)) else (some (.normal, [(0, (AVal.slice x0)), (1, (AVal.int .i64 x1)), (2, (AVal.int .i64 x2)), (3, (AVal.func x3f x3c)), (8, (AVal.int .i64 x8)), (9, (AVal.int .i64 x9)), (34, (AVal.bool false))], h)))).bind fun p9 =>
    k_slices_insertionSortCmpFunc_int_2 fuel d n p9.1 p9.2.1 p9.2.2 := by
  generalize hh : run = R
  rw [run_is] at hh
  subst hh
  generalize hh : l_slices_insertionSortCmpFunc_int_1 = R
  rw [l_slices_insertionSortCmpFunc_int_1_is] at hh
  subst hh
  generalize hh : k_slices_insertionSortCmpFunc_int_2 = R
  rw [k_slices_insertionSortCmpFunc_int_2_is] at hh
  subst hh
  kernel_rfl

theorem l_slices_insertionSortCmpFunc_int_1_0 (fuel d : Nat) (fr : Fr) (h : AHeap) :
    l_slices_insertionSortCmpFunc_int_1 fuel d 0 fr h =
  none := by
  generalize hh : l_slices_insertionSortCmpFunc_int_1 = R
  rw [l_slices_insertionSortCmpFunc_int_1_is] at hh
  subst hh
  kernel_rfl

theorem k_slices_insertionSortCmpFunc_int_1_x2 (fuel d : Nat) (n : Nat) (x0 : Sl) (x1 : Int) (x2 : Int) (x3f : Nat) (x3c : List Pt) (x8 : Int) (h : AHeap) :
    k_slices_insertionSortCmpFunc_int_1 fuel d n (.exit 2) [(0, (AVal.slice x0)), (1, (AVal.int .i64 x1)), (2, (AVal.int .i64 x2)), (3, (AVal.func x3f x3c)), (8, (AVal.int .i64 x8))] h =
  l_slices_insertionSortCmpFunc_int_0 fuel d n [(0, (AVal.slice x0)), (1, (AVal.int .i64 x1)), (2, (AVal.int .i64 x2)), (3, (AVal.func x3f x3c)), (8, (AVal.int .i64 (IntKind.wrap .i64 (x8 + (1 : Int)))))] h := by
  generalize hh : l_slices_insertionSortCmpFunc_int_0 = R
  rw [l_slices_insertionSortCmpFunc_int_0_is] at hh
  subst hh
  generalize hh : k_slices_insertionSortCmpFunc_int_1 = R
  rw [k_slices_insertionSortCmpFunc_int_1_is] at hh
  subst hh
  kernel_rfl

theorem k_slices_insertionSortCmpFunc_int_2_n (fuel d : Nat) (n : Nat) (x0 : Sl) (x1 : Int) (x2 : Int) (x3f : Nat) (x3c : List Pt) (x8 : Int) (x9 : Int) (x34 : Bool) (h : AHeap) :
    k_slices_insertionSortCmpFunc_int_2 fuel d n .normal [(0, (AVal.slice x0)), (1, (AVal.int .i64 x1)), (2, (AVal.int .i64 x2)), (3, (AVal.func x3f x3c)), (8, (AVal.int .i64 x8)), (9, (AVal.int .i64 x9)), (34, (AVal.bool x34))] h =
  (bif x34 then ((AHeap.addr h 1 x0 (IntKind.wrap .i64 (x9 - (1 : Int)))).bind fun p1 =>
    (AHeap.cell h p1).bind fun u2 =>
    (AVal.int? .i64 u2).bind fun n3 =>
    (AHeap.addr h 1 x0 x9).bind fun p4 =>
    (AHeap.cell h p4).bind fun u5 =>
    (AVal.int? .i64 u5).bind fun n6 =>
    (AHeap.addr h 1 x0 x9).bind fun p7 =>
    (AHeap.storeAt h [(AVal.int .i64 n3)] p7).bind fun h8 =>
    (AHeap.addr h8 1 x0 (IntKind.wrap .i64 (x9 - (1 : Int)))).bind fun p9 =>
    (AHeap.storeAt h8 [(AVal.int .i64 n6)] p9).bind fun h10 =>
    l_slices_insertionSortCmpFunc_int_1 fuel d n [(0, (AVal.slice x0)), (1, (AVal.int .i64 x1)), (2, (AVal.int .i64 x2)), (3, (AVal.func x3f x3c)), (8, (AVal.int .i64 x8)), (9, (AVal.int .i64 (IntKind.wrap .i64 (x9 - (1 : Int)))))] h10) else (some ((.exit 2), [(0, (AVal.slice x0)), (1, (AVal.int .i64 x1)), (2, (AVal.int .i64 x2)), (3, (AVal.func x3f x3c)), (8, (AVal.int .i64 x8))], h))) := by
  generalize hh : l_slices_insertionSortCmpFunc_int_1 = R
  rw [l_slices_insertionSortCmpFunc_int_1_is] at hh
  subst hh
  generalize hh : k_slices_insertionSortCmpFunc_int_2 = R
  rw [k_slices_insertionSortCmpFunc_int_2_is] at hh
  subst hh
  kernel_rfl

/-! 122: slices.heapSortCmpFunc[int] -/

noncomputable def s_slices_heapSortCmpFunc_int_0 (fuel d : Nat) : Run := fun fr h k => aexec (Cf fuel F_slices_heapSortCmpFunc_int) false (acall (C fuel) false d) (acall (C fuel) true d) 60 (csub [true, true, true, false, true, false, false] (fbody Go.Proofs.Tryd.f122)) (asub [true, true, true, false, true, false, false] an122) fr h k

noncomputable def l_slices_heapSortCmpFunc_int_0r (fuel d : Nat) (n : Nat) (fr : Fr) (h : AHeap) : Option (AExit × Fr × AHeap) := aloop (s_slices_heapSortCmpFunc_int_0 fuel d) (some [0, 3, 8, 9, 10, 11]) n fr h (kOut [0, 3, 8, 9, 10])

noncomputable def l_slices_heapSortCmpFunc_int_0 : Nat → Nat → Nat → Fr → AHeap → Option (AExit × Fr × AHeap) := hide l_slices_heapSortCmpFunc_int_0r

theorem l_slices_heapSortCmpFunc_int_0_is : l_slices_heapSortCmpFunc_int_0 = l_slices_heapSortCmpFunc_int_0r := hide_eq _

noncomputable def k_slices_heapSortCmpFunc_int_0r (fuel d : Nat) : AExit → Fr → AHeap → Option (AVal × AHeap) := (kBlock 0 (kSeq (Cf fuel F_slices_heapSortCmpFunc_int) false (acall (C fuel) false d) (acall (C fuel) true d) 60 (csub [true, true, true, true] (fbody Go.Proofs.Tryd.f122)) (asub [true, true, true, true] an122) (kRet (Cf fuel F_slices_heapSortCmpFunc_int) Go.Proofs.Tryd.f122.results.toList)))

noncomputable def k_slices_heapSortCmpFunc_int_0 : Nat → Nat → AExit → Fr → AHeap → Option (AVal × AHeap) := hide k_slices_heapSortCmpFunc_int_0r

theorem k_slices_heapSortCmpFunc_int_0_is : k_slices_heapSortCmpFunc_int_0 = k_slices_heapSortCmpFunc_int_0r := hide_eq _

noncomputable def s_slices_heapSortCmpFunc_int_1 (fuel d : Nat) : Run := fun fr h k => aexec (Cf fuel F_slices_heapSortCmpFunc_int) false (acall (C fuel) false d) (acall (C fuel) true d) 60 (csub [true, true, true, true, true, false, false] (fbody Go.Proofs.Tryd.f122)) (asub [true, true, true, true, true, false, false] an122) fr h k

noncomputable def l_slices_heapSortCmpFunc_int_1r (fuel d : Nat) (n : Nat) (fr : Fr) (h : AHeap) : Option (AExit × Fr × AHeap) := aloop (s_slices_heapSortCmpFunc_int_1 fuel d) (some [0, 3, 8, 9, 12]) n fr h (kOut [])

noncomputable def l_slices_heapSortCmpFunc_int_1 : Nat → Nat → Nat → Fr → AHeap → Option (AExit × Fr × AHeap) := hide l_slices_heapSortCmpFunc_int_1r

theorem l_slices_heapSortCmpFunc_int_1_is : l_slices_heapSortCmpFunc_int_1 = l_slices_heapSortCmpFunc_int_1r := hide_eq _

noncomputable def k_slices_heapSortCmpFunc_int_1r (fuel d : Nat) : AExit → Fr → AHeap → Option (AVal × AHeap) := (kBlock 2 (kRet (Cf fuel F_slices_heapSortCmpFunc_int) Go.Proofs.Tryd.f122.results.toList))

noncomputable def k_slices_heapSortCmpFunc_int_1 : Nat → Nat → AExit → Fr → AHeap → Option (AVal × AHeap) := hide k_slices_heapSortCmpFunc_int_1r

theorem k_slices_heapSortCmpFunc_int_1_is : k_slices_heapSortCmpFunc_int_1 = k_slices_heapSortCmpFunc_int_1r := hide_eq _

theorem e_slices_heapSortCmpFunc_int (fuel d : Nat) (x0 : Sl) (x1 : Int) (x2 : Int) (x3f : Nat) (x3c : List Pt) (h : AHeap) :
    run fuel (d + 1) F_slices_heapSortCmpFunc_int [(AVal.slice x0), (AVal.int .i64 x1), (AVal.int .i64 x2), (AVal.func x3f x3c)] h =
  (l_slices_heapSortCmpFunc_int_0 fuel d fuel [(0, (AVal.slice x0)), (3, (AVal.func x3f x3c)), (8, (AVal.int .i64 x1)), (9, (AVal.int .i64 (0 : Int))), (10, (AVal.int .i64 (IntKind.wrap .i64 (x2 - x1)))), (11, (AVal.int .i64 (IntKind.wrap .i64 (Int.tdiv (IntKind.wrap .i64 ((IntKind.wrap .i64 (x2 - x1)) - (1 : Int))) (2 : Int)))))] h).bind fun p1 =>
    k_slices_heapSortCmpFunc_int_0 fuel d p1.1 p1.2.1 p1.2.2 := by
  generalize hh : run = R
  rw [run_is] at hh
  subst hh
  generalize hh : l_slices_heapSortCmpFunc_int_0 = R
  rw [l_slices_heapSortCmpFunc_int_0_is] at hh
  subst hh
  generalize hh : k_slices_heapSortCmpFunc_int_0 = R
  rw [k_slices_heapSortCmpFunc_int_0_is] at hh
  subst hh
  kernel_rfl

theorem l_slices_heapSortCmpFunc_int_0_eq (fuel d : Nat) (n : Nat) (x0 : Sl) (x3f : Nat) (x3c : List Pt) (x8 : Int) (x9 : Int) (x10 : Int) (x11 : Int) (h : AHeap) :
    l_slices_heapSortCmpFunc_int_0 fuel d (n + 1) [(0, (AVal.slice x0)), (3, (AVal.func x3f x3c)), (8, (AVal.int .i64 x8)), (9, (AVal.int .i64 x9)), (10, (AVal.int .i64 x10)), (11, (AVal.int .i64 x11))] h =
  (bif (decide ((0 : Int) ≤ x11)) then ((run fuel d F_slices_siftDownCmpFunc_int [(AVal.slice x0), (AVal.int .i64 x11), (AVal.int .i64 x10), (AVal.int .i64 x8), (AVal.func x3f x3c)] h).bind fun r1 =>
    l_slices_heapSortCmpFunc_int_0 fuel d n [(0, (AVal.slice x0)), (3, (AVal.func x3f x3c)), (8, (AVal.int .i64 x8)), (9, (AVal.int .i64 x9)), (10, (AVal.int .i64 x10)), (11, (AVal.int .i64 (IntKind.wrap .i64 (x11 - (1 : Int)))))] r1.2) else (some ((.exit 0), [(0, (AVal.slice x0)), (3, (AVal.func x3f x3c)), (8, (AVal.int .i64 x8)), (9, (AVal.int .i64 x9)), (10, (AVal.int .i64 x10))], h))) := by
  generalize hh : run = R
  rw [run_is] at hh
  subst hh
  generalize hh : l_slices_heapSortCmpFunc_int_0 = R
  rw [l_slices_heapSortCmpFunc_int_0_is] at hh
  subst hh
  kernel_rfl

theorem l_slices_heapSortCmpFunc_int_0_0 (fuel d : Nat) (fr : Fr) (h : AHeap) :
    l_slices_heapSortCmpFunc_int_0 fuel d 0 fr h =
  none := by
  generalize hh : l_slices_heapSortCmpFunc_int_0 = R
  rw [l_slices_heapSortCmpFunc_int_0_is] at hh
  subst hh
  kernel_rfl

theorem k_slices_heapSortCmpFunc_int_0_x0 (fuel d : Nat) (x0 : Sl) (x3f : Nat) (x3c : List Pt) (x8 : Int) (x9 : Int) (x10 : Int) (h : AHeap) :
    k_slices_heapSortCmpFunc_int_0 fuel d (.exit 0) [(0, (AVal.slice x0)), (3, (AVal.func x3f x3c)), (8, (AVal.int .i64 x8)), (9, (AVal.int .i64 x9)), (10, (AVal.int .i64 x10))] h =
  (l_slices_heapSortCmpFunc_int_1 fuel d fuel [(0, (AVal.slice x0)), (3, (AVal.func x3f x3c)), (8, (AVal.int .i64 x8)), (9, (AVal.int .i64 x9)), (12, (AVal.int .i64 (IntKind.wrap .i64 (x10 - (1 : Int)))))] h).bind fun p1 =>
    k_slices_heapSortCmpFunc_int_1 fuel d p1.1 p1.2.1 p1.2.2 := by
  generalize hh : k_slices_heapSortCmpFunc_int_0 = R
  rw [k_slices_heapSortCmpFunc_int_0_is] at hh
  subst hh
  generalize hh : l_slices_heapSortCmpFunc_int_1 = R
  rw [l_slices_heapSortCmpFunc_int_1_is] at hh
  subst hh
  generalize hh : k_slices_heapSortCmpFunc_int_1 = R
  rw [k_slices_heapSortCmpFunc_int_1_is] at hh
  subst hh
  kernel_rfl

theorem l_slices_heapSortCmpFunc_int_1_eq (fuel d : Nat) (n : Nat) (x0 : Sl) (x3f : Nat) (x3c : List Pt) (x8 : Int) (x9 : Int) (x12 : Int) (h : AHeap) :
    l_slices_heapSortCmpFunc_int_1 fuel d (n + 1) [(0, (AVal.slice x0)), (3, (AVal.func x3f x3c)), (8, (AVal.int .i64 x8)), (9, (AVal.int .i64 x9)), (12, (AVal.int .i64 x12))] h =
  (bif (decide ((0 : Int) ≤ x12)) then ((AHeap.addr h 1 x0 (IntKind.wrap .i64 (x8 + x12))).bind fun p1 =>
    (AHeap.cell h p1).bind fun u2 =>
    (AVal.int? .i64 u2).bind fun n3 =>
    (AHeap.addr h 1 x0 x8).bind fun p4 =>
    (AHeap.cell h p4).bind fun u5 =>
    (AVal.int? .i64 u5).bind fun n6 =>
    (AHeap.addr h 1 x0 x8).bind fun p7 =>
    (AHeap.storeAt h [(AVal.int .i64 n3)] p7).bind fun h8 =>
    (AHeap.addr h8 1 x0 (IntKind.wrap .i64 (x8 + x12))).bind fun p9 =>
    (AHeap.storeAt h8 [(AVal.int .i64 n6)] p9).bind fun h10 =>
    (run fuel d F_slices_siftDownCmpFunc_int [(AVal.slice x0), (AVal.int .i64 x9), (AVal.int .i64 x12), (AVal.int .i64 x8), (AVal.func x3f x3c)] h10).bind fun r11 =>
    l_slices_heapSortCmpFunc_int_1 fuel d n [(0, (AVal.slice x0)), (3, (AVal.func x3f x3c)), (8, (AVal.int .i64 x8)), (9, (AVal.int .i64 x9)), (12, (AVal.int .i64 (IntKind.wrap .i64 (x12 - (1 : Int)))))] r11.2) else (some ((.exit 2), [], h))) := by
  generalize hh : run = R
  rw [run_is] at hh
  subst hh
  generalize hh : l_slices_heapSortCmpFunc_int_1 = R
  rw [l_slices_heapSortCmpFunc_int_1_is] at hh
  subst hh
  kernel_rfl

theorem l_slices_heapSortCmpFunc_int_1_0 (fuel d : Nat) (fr : Fr) (h : AHeap) :
    l_slices_heapSortCmpFunc_int_1 fuel d 0 fr h =
  none := by
  generalize hh : l_slices_heapSortCmpFunc_int_1 = R
  rw [l_slices_heapSortCmpFunc_int_1_is] at hh
  subst hh
  kernel_rfl

theorem k_slices_heapSortCmpFunc_int_1_x2 (fuel d : Nat)  (h : AHeap) :
    k_slices_heapSortCmpFunc_int_1 fuel d (.exit 2) [] h =
  some ((AVal.tup []), h) := by
  generalize hh : k_slices_heapSortCmpFunc_int_1 = R
  rw [k_slices_heapSortCmpFunc_int_1_is] at hh
  subst hh
  kernel_rfl

/-! 123: slices.breakPatternsCmpFunc[int] -/

noncomputable def s_slices_breakPatternsCmpFunc_int_0 (fuel d : Nat) : Run := fun fr h k => aexec (Cf fuel F_slices_breakPatternsCmpFunc_int) false (acall (C fuel) false d) (acall (C fuel) true d) 67 (csub [true, true, false, true, true, true, false, false] (fbody Go.Proofs.Tryd.f123)) (asub [true, true, false, true, true, true, false, false] an123) fr h k

noncomputable def l_slices_breakPatternsCmpFunc_int_0r (fuel d : Nat) (n : Nat) (fr : Fr) (h : AHeap) : Option (AExit × Fr × AHeap) := aloop (s_slices_breakPatternsCmpFunc_int_0 fuel d) (some [0, 1, 8, 9, 10, 11]) n fr h (kOut [])

noncomputable def l_slices_breakPatternsCmpFunc_int_0 : Nat → Nat → Nat → Fr → AHeap → Option (AExit × Fr × AHeap) := hide l_slices_breakPatternsCmpFunc_int_0r

theorem l_slices_breakPatternsCmpFunc_int_0_is : l_slices_breakPatternsCmpFunc_int_0 = l_slices_breakPatternsCmpFunc_int_0r := hide_eq _

noncomputable def k_slices_breakPatternsCmpFunc_int_0r (fuel d : Nat) : AExit → Fr → AHeap → Option (AVal × AHeap) := (kBlock 0 (kRet (Cf fuel F_slices_breakPatternsCmpFunc_int) Go.Proofs.Tryd.f123.results.toList))

noncomputable def k_slices_breakPatternsCmpFunc_int_0 : Nat → Nat → AExit → Fr → AHeap → Option (AVal × AHeap) := hide k_slices_breakPatternsCmpFunc_int_0r

theorem k_slices_breakPatternsCmpFunc_int_0_is : k_slices_breakPatternsCmpFunc_int_0 = k_slices_breakPatternsCmpFunc_int_0r := hide_eq _

noncomputable def k_slices_breakPatternsCmpFunc_int_1r (fuel d : Nat) (n : Nat) : AExit → Fr → AHeap → Option (AExit × Fr × AHeap) := (kSeq (Cf fuel F_slices_breakPatternsCmpFunc_int) false (acall (C fuel) false d) (acall (C fuel) true d) 67 (csub [true, true, false, true, true, true, false, false, true, false, false, true, true] (fbody Go.Proofs.Tryd.f123)) (asub [true, true, false, true, true, true, false, false, true, false, false, true, true] an123) (kBlock 1 (kSeq (Cf fuel F_slices_breakPatternsCmpFunc_int) false (acall (C fuel) false d) (acall (C fuel) true d) 67 (csub [true, true, false, true, true, true, false, false, true, true] (fbody Go.Proofs.Tryd.f123)) (asub [true, true, false, true, true, true, false, false, true, true] an123) (kLoop (s_slices_breakPatternsCmpFunc_int_0 fuel d) (some [0, 1, 8, 9, 10, 11]) n (kOut [])))))

noncomputable def k_slices_breakPatternsCmpFunc_int_1 : Nat → Nat → Nat → AExit → Fr → AHeap → Option (AExit × Fr × AHeap) := hide k_slices_breakPatternsCmpFunc_int_1r

theorem k_slices_breakPatternsCmpFunc_int_1_is : k_slices_breakPatternsCmpFunc_int_1 = k_slices_breakPatternsCmpFunc_int_1r := hide_eq _

theorem e_slices_breakPatternsCmpFunc_int (fuel d : Nat) (x0 : Sl) (x1 : Int) (x2 : Int) (x3f : Nat) (x3c : List Pt) (h : AHeap) :
    run fuel (d + 1) F_slices_breakPatternsCmpFunc_int [(AVal.slice x0), (AVal.int .i64 x1), (AVal.int .i64 x2), (AVal.func x3f x3c)] h =
  (bif (decide ((8 : Int) ≤ (IntKind.wrap .i64 (x2 - x1)))) then ((AHeap.storeAt (AHeap.push h 1 [(AVal.int .u64 (0 : Int))]) [(AVal.int .u64 (IntKind.wrap .u64 (IntKind.wrap .i64 (x2 - x1))))] (Pt.mk ⟨AHeap.next h, 0, 0⟩ 1)).bind fun h1 =>
    (run fuel d F_slices_nextPowerOfTwo [(AVal.int .i64 (IntKind.wrap .i64 (x2 - x1)))] h1).bind fun r2 =>
    (AVal.int? .u64 r2.1).bind fun n3 =>
    (l_slices_breakPatternsCmpFunc_int_0 fuel d fuel [(0, (AVal.slice x0)), (1, (AVal.int .i64 x1)), (8, (AVal.int .i64 (IntKind.wrap .i64 (x2 - x1)))), (9, (AVal.ptr (Pt.mk ⟨AHeap.next h, 0, 0⟩ 1))), (10, (AVal.int .u64 n3)), (11, (AVal.int .i64 (IntKind.wrap .i64 ((IntKind.wrap .i64 (x1 + (IntKind.wrap .i64 ((IntKind.wrap .i64 (Int.tdiv (IntKind.wrap .i64 (x2 - x1)) (4 : Int))) * (2 : Int))))) - (1 : Int)))))] r2.2).bind fun p4 =>
    k_slices_breakPatternsCmpFunc_int_0 fuel d p4.1 p4.2.1 p4.2.2) else (some ((AVal.tup []), h))) := by
  generalize hh : run = R
  rw [run_is] at hh
  subst hh
  generalize hh : l_slices_breakPatternsCmpFunc_int_0 = R
  rw [l_slices_breakPatternsCmpFunc_int_0_is] at hh
  subst hh
  generalize hh : k_slices_breakPatternsCmpFunc_int_0 = R
  rw [k_slices_breakPatternsCmpFunc_int_0_is] at hh
  subst hh
  kernel_rfl

theorem l_slices_breakPatternsCmpFunc_int_0_eq (fuel d : Nat) (n : Nat) (x0 : Sl) (x1 : Int) (x8 : Int) (x9 : Pt) (x10 : Int) (x11 : Int) (h : AHeap) :
    l_slices_breakPatternsCmpFunc_int_0 fuel d (n + 1) [(0, (AVal.slice x0)), (1, (AVal.int .i64 x1)), (8, (AVal.int .i64 x8)), (9, (AVal.ptr x9)), (10, (AVal.int .u64 x10)), (11, (AVal.int .i64 x11))] h =
  (bif (decide (x11 ≤ (IntKind.wrap .i64 ((IntKind.wrap .i64 (x1 + (IntKind.wrap .i64 ((IntKind.wrap .i64 (Int.tdiv x8 (4 : Int))) * (2 : Int))))) + (1 : Int))))) then ((run fuel d F_slices_xorshift_Next [(AVal.ptr x9)] h).bind fun r1 =>
    (AVal.int? .u64 r1.1).bind fun n2 =>
    ((bif (decide (x8 ≤ (IntKind.wrap .i64 (bitsOp .and .u64 n2 (IntKind.wrap .u64 (x10 - (1 : Int))))))) then (some (.normal, [(0, (AVal.slice x0)), (1, (AVal.int .i64 x1)), (8, (AVal.int .i64 x8)), (9, (AVal.ptr x9)), (10, (AVal.int .u64 x10)), (11, (AVal.int .i64 x11)), (12, (AVal.int .i64 (IntKind.wrap .i64 ((IntKind.wrap .i64 (bitsOp .and .u64 n2 (IntKind.wrap .u64 (x10 - (1 : Int))))) - x8))))], r1.2)) else (some (.normal, [(0, (AVal.slice x0)), (1, (AVal.int .i64 x1)), (8, (AVal.int .i64 x8)), (9, (AVal.ptr x9)), (10, (AVal.int .u64 x10)), (11, (AVal.int .i64 x11)), (12, (AVal.int .i64 (IntKind.wrap .i64 (bitsOp .and .u64 n2 (IntKind.wrap .u64 (x10 - (1 : Int)))))))], r1.2)))).bind fun p3 =>
    k_slices_breakPatternsCmpFunc_int_1 fuel d n p3.1 p3.2.1 p3.2.2) else (some ((.exit 0), [], h))) := by
  generalize hh : run = R
  rw [run_is] at hh
  subst hh
  generalize hh : l_slices_breakPatternsCmpFunc_int_0 = R
  rw [l_slices_breakPatternsCmpFunc_int_0_is] at hh
  subst hh
  generalize hh : k_slices_breakPatternsCmpFunc_int_1 = R
  rw [k_slices_breakPatternsCmpFunc_int_1_is] at hh
  subst hh
  kernel_rfl

theorem l_slices_breakPatternsCmpFunc_int_0_0 (fuel d : Nat) (fr : Fr) (h : AHeap) :
    l_slices_breakPatternsCmpFunc_int_0 fuel d 0 fr h =
  none := by
  generalize hh : l_slices_breakPatternsCmpFunc_int_0 = R
  rw [l_slices_breakPatternsCmpFunc_int_0_is] at hh
  subst hh
  kernel_rfl

theorem k_slices_breakPatternsCmpFunc_int_0_x0 (fuel d : Nat)  (h : AHeap) :
    k_slices_breakPatternsCmpFunc_int_0 fuel d (.exit 0) [] h =
  some ((AVal.tup []), h) := by
  generalize hh : k_slices_breakPatternsCmpFunc_int_0 = R
  rw [k_slices_breakPatternsCmpFunc_int_0_is] at hh
  subst hh
  kernel_rfl

theorem k_slices_breakPatternsCmpFunc_int_1_n (fuel d : Nat) (n : Nat) (x0 : Sl) (x1 : Int) (x8 : Int) (x9 : Pt) (x10 : Int) (x11 : Int) (x12 : Int) (h : AHeap) :
    k_slices_breakPatternsCmpFunc_int_1 fuel d n .normal [(0, (AVal.slice x0)), (1, (AVal.int .i64 x1)), (8, (AVal.int .i64 x8)), (9, (AVal.ptr x9)), (10, (AVal.int .u64 x10)), (11, (AVal.int .i64 x11)), (12, (AVal.int .i64 x12))] h =
  (AHeap.addr h 1 x0 (IntKind.wrap .i64 (x1 + x12))).bind fun p1 =>
    (AHeap.cell h p1).bind fun u2 =>
    (AVal.int? .i64 u2).bind fun n3 =>
    (AHeap.addr h 1 x0 x11).bind fun p4 =>
    (AHeap.cell h p4).bind fun u5 =>
    (AVal.int? .i64 u5).bind fun n6 =>
    (AHeap.addr h 1 x0 x11).bind fun p7 =>
    (AHeap.storeAt h [(AVal.int .i64 n3)] p7).bind fun h8 =>
    (AHeap.addr h8 1 x0 (IntKind.wrap .i64 (x1 + x12))).bind fun p9 =>
    (AHeap.storeAt h8 [(AVal.int .i64 n6)] p9).bind fun h10 =>
    l_slices_breakPatternsCmpFunc_int_0 fuel d n [(0, (AVal.slice x0)), (1, (AVal.int .i64 x1)), (8, (AVal.int .i64 x8)), (9, (AVal.ptr x9)), (10, (AVal.int .u64 x10)), (11, (AVal.int .i64 (IntKind.wrap .i64 (x11 + (1 : Int)))))] h10 := by
  generalize hh : l_slices_breakPatternsCmpFunc_int_0 = R
  rw [l_slices_breakPatternsCmpFunc_int_0_is] at hh
  subst hh
  generalize hh : k_slices_breakPatternsCmpFunc_int_1 = R
  rw [k_slices_breakPatternsCmpFunc_int_1_is] at hh
  subst hh
  kernel_rfl

/-! 124: slices.choosePivotCmpFunc[int] -/

noncomputable def k_slices_choosePivotCmpFunc_int_0r (fuel d : Nat) : AExit → Fr → AHeap → Option (AExit × Fr × AHeap) := (kSeq (Cf fuel F_slices_choosePivotCmpFunc_int) false (acall (C fuel) false d) (acall (C fuel) true d) 63 (csub [true, true, true, true, true, true, false, true, false, true] (fbody Go.Proofs.Tryd.f124)) (asub [true, true, true, true, true, true, false, true, false, true] an124) (kOut [11, 13]))

noncomputable def k_slices_choosePivotCmpFunc_int_0 : Nat → Nat → AExit → Fr → AHeap → Option (AExit × Fr × AHeap) := hide k_slices_choosePivotCmpFunc_int_0r

theorem k_slices_choosePivotCmpFunc_int_0_is : k_slices_choosePivotCmpFunc_int_0 = k_slices_choosePivotCmpFunc_int_0r := hide_eq _

noncomputable def k_slices_choosePivotCmpFunc_int_1r (fuel d : Nat) : AExit → Fr → AHeap → Option (AVal × AHeap) := (kSeq (Cf fuel F_slices_choosePivotCmpFunc_int) false (acall (C fuel) false d) (acall (C fuel) true d) 63 (csub [true, true, true, true, true, true, true] (fbody Go.Proofs.Tryd.f124)) (asub [true, true, true, true, true, true, true] an124) (kRet (Cf fuel F_slices_choosePivotCmpFunc_int) Go.Proofs.Tryd.f124.results.toList))

noncomputable def k_slices_choosePivotCmpFunc_int_1 : Nat → Nat → AExit → Fr → AHeap → Option (AVal × AHeap) := hide k_slices_choosePivotCmpFunc_int_1r

theorem k_slices_choosePivotCmpFunc_int_1_is : k_slices_choosePivotCmpFunc_int_1 = k_slices_choosePivotCmpFunc_int_1r := hide_eq _

theorem e_slices_choosePivotCmpFunc_int (fuel d : Nat) (x0 : Sl) (x1 : Int) (x2 : Int) (x3f : Nat) (x3c : List Pt) (h : AHeap) :
    run fuel (d + 1) F_slices_choosePivotCmpFunc_int [(AVal.slice x0), (AVal.int .i64 x1), (AVal.int .i64 x2), (AVal.func x3f x3c)] h =
  ((bif (decide ((8 : Int) ≤ (IntKind.wrap .i64 (x2 - x1)))) then (((bif (decide ((50 : Int) ≤ (IntKind.wrap .i64 (x2 - x1)))) then ((run fuel d F_slices_medianAdjacentCmpFunc_int [(AVal.slice x0), (AVal.int .i64 (IntKind.wrap .i64 (x1 + (IntKind.wrap .i64 ((IntKind.wrap .i64 (Int.tdiv (IntKind.wrap .i64 (x2 - x1)) (4 : Int))) * (1 : Int)))))), (AVal.ptr (Pt.mk ⟨AHeap.next h, 0, 0⟩ 1)), (AVal.func x3f x3c)] (AHeap.push h 1 [(AVal.int .i64 (0 : Int))])).bind fun r1 =>
    (AVal.int? .i64 r1.1).bind fun n2 =>
    (run fuel d F_slices_medianAdjacentCmpFunc_int [(AVal.slice x0), (AVal.int .i64 (IntKind.wrap .i64 (x1 + (IntKind.wrap .i64 ((IntKind.wrap .i64 (Int.tdiv (IntKind.wrap .i64 (x2 - x1)) (4 : Int))) * (2 : Int)))))), (AVal.ptr (Pt.mk ⟨AHeap.next h, 0, 0⟩ 1)), (AVal.func x3f x3c)] r1.2).bind fun r3 =>
    (AVal.int? .i64 r3.1).bind fun n4 =>
    (run fuel d F_slices_medianAdjacentCmpFunc_int [(AVal.slice x0), (AVal.int .i64 (IntKind.wrap .i64 (x1 + (IntKind.wrap .i64 ((IntKind.wrap .i64 (Int.tdiv (IntKind.wrap .i64 (x2 - x1)) (4 : Int))) * (3 : Int)))))), (AVal.ptr (Pt.mk ⟨AHeap.next h, 0, 0⟩ 1)), (AVal.func x3f x3c)] r3.2).bind fun r5 =>
    (AVal.int? .i64 r5.1).bind fun n6 =>
    some (.normal, [(0, (AVal.slice x0)), (3, (AVal.func x3f x3c)), (11, (AVal.ptr (Pt.mk ⟨AHeap.next h, 0, 0⟩ 1))), (12, (AVal.int .i64 n2)), (13, (AVal.int .i64 n4)), (14, (AVal.int .i64 n6))], r5.2)) else (some (.normal, [(0, (AVal.slice x0)), (3, (AVal.func x3f x3c)), (11, (AVal.ptr (Pt.mk ⟨AHeap.next h, 0, 0⟩ 1))), (12, (AVal.int .i64 (IntKind.wrap .i64 (x1 + (IntKind.wrap .i64 ((IntKind.wrap .i64 (Int.tdiv (IntKind.wrap .i64 (x2 - x1)) (4 : Int))) * (1 : Int))))))), (13, (AVal.int .i64 (IntKind.wrap .i64 (x1 + (IntKind.wrap .i64 ((IntKind.wrap .i64 (Int.tdiv (IntKind.wrap .i64 (x2 - x1)) (4 : Int))) * (2 : Int))))))), (14, (AVal.int .i64 (IntKind.wrap .i64 (x1 + (IntKind.wrap .i64 ((IntKind.wrap .i64 (Int.tdiv (IntKind.wrap .i64 (x2 - x1)) (4 : Int))) * (3 : Int)))))))], (AHeap.push h 1 [(AVal.int .i64 (0 : Int))]))))).bind fun p7 =>
    k_slices_choosePivotCmpFunc_int_0 fuel d p7.1 p7.2.1 p7.2.2) else (some (.normal, [(11, (AVal.ptr (Pt.mk ⟨AHeap.next h, 0, 0⟩ 1))), (13, (AVal.int .i64 (IntKind.wrap .i64 (x1 + (IntKind.wrap .i64 ((IntKind.wrap .i64 (Int.tdiv (IntKind.wrap .i64 (x2 - x1)) (4 : Int))) * (2 : Int)))))))], (AHeap.push h 1 [(AVal.int .i64 (0 : Int))]))))).bind fun p8 =>
    k_slices_choosePivotCmpFunc_int_1 fuel d p8.1 p8.2.1 p8.2.2 := by
  generalize hh : run = R
  rw [run_is] at hh
  subst hh
  generalize hh : k_slices_choosePivotCmpFunc_int_0 = R
  rw [k_slices_choosePivotCmpFunc_int_0_is] at hh
  subst hh
  generalize hh : k_slices_choosePivotCmpFunc_int_1 = R
  rw [k_slices_choosePivotCmpFunc_int_1_is] at hh
  subst hh
  kernel_rfl

theorem k_slices_choosePivotCmpFunc_int_0_n (fuel d : Nat) (x0 : Sl) (x3f : Nat) (x3c : List Pt) (x11 : Pt) (x12 : Int) (x13 : Int) (x14 : Int) (h : AHeap) :
    k_slices_choosePivotCmpFunc_int_0 fuel d .normal [(0, (AVal.slice x0)), (3, (AVal.func x3f x3c)), (11, (AVal.ptr x11)), (12, (AVal.int .i64 x12)), (13, (AVal.int .i64 x13)), (14, (AVal.int .i64 x14))] h =
  (run fuel d F_slices_medianCmpFunc_int [(AVal.slice x0), (AVal.int .i64 x12), (AVal.int .i64 x13), (AVal.int .i64 x14), (AVal.ptr x11), (AVal.func x3f x3c)] h).bind fun r1 =>
    (AVal.int? .i64 r1.1).bind fun n2 =>
    some (.normal, [(11, (AVal.ptr x11)), (13, (AVal.int .i64 n2))], r1.2) := by
  generalize hh : run = R
  rw [run_is] at hh
  subst hh
  generalize hh : k_slices_choosePivotCmpFunc_int_0 = R
  rw [k_slices_choosePivotCmpFunc_int_0_is] at hh
  subst hh
  kernel_rfl

theorem k_slices_choosePivotCmpFunc_int_1_n (fuel d : Nat) (x11 : Pt) (x13 : Int) (h : AHeap) :
    k_slices_choosePivotCmpFunc_int_1 fuel d .normal [(11, (AVal.ptr x11)), (13, (AVal.int .i64 x13))] h =
  (AHeap.cell h x11).bind fun u1 =>
    (AVal.int? .i64 u1).bind fun n2 =>
    (bif (decide (n2 = (0 : Int))) then (some ((AVal.tup [(AVal.int .i64 x13), (AVal.int .i64 (1 : Int))]), h)) else ((bif (decide (n2 = (12 : Int))) then (some ((AVal.tup [(AVal.int .i64 x13), (AVal.int .i64 (2 : Int))]), h)) else (some ((AVal.tup [(AVal.int .i64 x13), (AVal.int .i64 (0 : Int))]), h))))) := by
  generalize hh : k_slices_choosePivotCmpFunc_int_1 = R
  rw [k_slices_choosePivotCmpFunc_int_1_is] at hh
  subst hh
  kernel_rfl

/-! 125: slices.reverseRangeCmpFunc[int] -/

noncomputable def s_slices_reverseRangeCmpFunc_int_0 (fuel d : Nat) : Run := fun fr h k => aexec (Cf fuel F_slices_reverseRangeCmpFunc_int) false (acall (C fuel) false d) (acall (C fuel) true d) 34 (csub [true, true, false, false] (fbody Go.Proofs.Tryd.f125)) (asub [true, true, false, false] an125) fr h k

noncomputable def l_slices_reverseRangeCmpFunc_int_0r (fuel d : Nat) (n : Nat) (fr : Fr) (h : AHeap) : Option (AExit × Fr × AHeap) := aloop (s_slices_reverseRangeCmpFunc_int_0 fuel d) (some [0, 8, 9]) n fr h (kOut [])

noncomputable def l_slices_reverseRangeCmpFunc_int_0 : Nat → Nat → Nat → Fr → AHeap → Option (AExit × Fr × AHeap) := hide l_slices_reverseRangeCmpFunc_int_0r

theorem l_slices_reverseRangeCmpFunc_int_0_is : l_slices_reverseRangeCmpFunc_int_0 = l_slices_reverseRangeCmpFunc_int_0r := hide_eq _

noncomputable def k_slices_reverseRangeCmpFunc_int_0r (fuel d : Nat) : AExit → Fr → AHeap → Option (AVal × AHeap) := (kBlock 0 (kRet (Cf fuel F_slices_reverseRangeCmpFunc_int) Go.Proofs.Tryd.f125.results.toList))

noncomputable def k_slices_reverseRangeCmpFunc_int_0 : Nat → Nat → AExit → Fr → AHeap → Option (AVal × AHeap) := hide k_slices_reverseRangeCmpFunc_int_0r

theorem k_slices_reverseRangeCmpFunc_int_0_is : k_slices_reverseRangeCmpFunc_int_0 = k_slices_reverseRangeCmpFunc_int_0r := hide_eq _

theorem e_slices_reverseRangeCmpFunc_int (fuel d : Nat) (x0 : Sl) (x1 : Int) (x2 : Int) (x3f : Nat) (x3c : List Pt) (h : AHeap) :
    run fuel (d + 1) F_slices_reverseRangeCmpFunc_int [(AVal.slice x0), (AVal.int .i64 x1), (AVal.int .i64 x2), (AVal.func x3f x3c)] h =
  (l_slices_reverseRangeCmpFunc_int_0 fuel d fuel [(0, (AVal.slice x0)), (8, (AVal.int .i64 x1)), (9, (AVal.int .i64 (IntKind.wrap .i64 (x2 - (1 : Int)))))] h).bind fun p1 =>
    k_slices_reverseRangeCmpFunc_int_0 fuel d p1.1 p1.2.1 p1.2.2 := by
  generalize hh : run = R
  rw [run_is] at hh
  subst hh
  generalize hh : l_slices_reverseRangeCmpFunc_int_0 = R
  rw [l_slices_reverseRangeCmpFunc_int_0_is] at hh
  subst hh
  generalize hh : k_slices_reverseRangeCmpFunc_int_0 = R
  rw [k_slices_reverseRangeCmpFunc_int_0_is] at hh
  subst hh
  kernel_rfl

theorem l_slices_reverseRangeCmpFunc_int_0_eq (fuel d : Nat) (n : Nat) (x0 : Sl) (x8 : Int) (x9 : Int) (h : AHeap) :
    l_slices_reverseRangeCmpFunc_int_0 fuel d (n + 1) [(0, (AVal.slice x0)), (8, (AVal.int .i64 x8)), (9, (AVal.int .i64 x9))] h =
  (bif (decide (x8 < x9)) then ((AHeap.addr h 1 x0 x9).bind fun p1 =>
    (AHeap.cell h p1).bind fun u2 =>
    (AVal.int? .i64 u2).bind fun n3 =>
    (AHeap.addr h 1 x0 x8).bind fun p4 =>
    (AHeap.cell h p4).bind fun u5 =>
    (AVal.int? .i64 u5).bind fun n6 =>
    (AHeap.addr h 1 x0 x8).bind fun p7 =>
    (AHeap.storeAt h [(AVal.int .i64 n3)] p7).bind fun h8 =>
    (AHeap.addr h8 1 x0 x9).bind fun p9 =>
    (AHeap.storeAt h8 [(AVal.int .i64 n6)] p9).bind fun h10 =>
    l_slices_reverseRangeCmpFunc_int_0 fuel d n [(0, (AVal.slice x0)), (8, (AVal.int .i64 (IntKind.wrap .i64 (x8 + (1 : Int))))), (9, (AVal.int .i64 (IntKind.wrap .i64 (x9 - (1 : Int)))))] h10) else (some ((.exit 0), [], h))) := by
  generalize hh : l_slices_reverseRangeCmpFunc_int_0 = R
  rw [l_slices_reverseRangeCmpFunc_int_0_is] at hh
  subst hh
  kernel_rfl

theorem l_slices_reverseRangeCmpFunc_int_0_0 (fuel d : Nat) (fr : Fr) (h : AHeap) :
    l_slices_reverseRangeCmpFunc_int_0 fuel d 0 fr h =
  none := by
  generalize hh : l_slices_reverseRangeCmpFunc_int_0 = R
  rw [l_slices_reverseRangeCmpFunc_int_0_is] at hh
  subst hh
  kernel_rfl

theorem k_slices_reverseRangeCmpFunc_int_0_x0 (fuel d : Nat)  (h : AHeap) :
    k_slices_reverseRangeCmpFunc_int_0 fuel d (.exit 0) [] h =
  some ((AVal.tup []), h) := by
  generalize hh : k_slices_reverseRangeCmpFunc_int_0 = R
  rw [k_slices_reverseRangeCmpFunc_int_0_is] at hh
  subst hh
  kernel_rfl

/-! 126: slices.partialInsertionSortCmpFunc[int] -/

noncomputable def s_slices_partialInsertionSortCmpFunc_int_0 (fuel d : Nat) : Run := fun fr h k => aexec (Cf fuel F_slices_partialInsertionSortCmpFunc_int) false (acall (C fuel) false d) (acall (C fuel) true d) 141 (csub [true, true, false, true, false, false] (fbody Go.Proofs.Tryd.f126)) (asub [true, true, false, true, false, false] an126) fr h k

noncomputable def l_slices_partialInsertionSortCmpFunc_int_0r (fuel d : Nat) (n : Nat) (fr : Fr) (h : AHeap) : Option (AExit × Fr × AHeap) := aloop (s_slices_partialInsertionSortCmpFunc_int_0 fuel d) (some [0, 1, 2, 3, 9, 10]) n fr h (kOut [8])

noncomputable def l_slices_partialInsertionSortCmpFunc_int_0 : Nat → Nat → Nat → Fr → AHeap → Option (AExit × Fr × AHeap) := hide l_slices_partialInsertionSortCmpFunc_int_0r

theorem l_slices_partialInsertionSortCmpFunc_int_0_is : l_slices_partialInsertionSortCmpFunc_int_0 = l_slices_partialInsertionSortCmpFunc_int_0r := hide_eq _

noncomputable def k_slices_partialInsertionSortCmpFunc_int_0r (fuel d : Nat) : AExit → Fr → AHeap → Option (AVal × AHeap) := (kBlock 0 (kSeq (Cf fuel F_slices_partialInsertionSortCmpFunc_int) false (acall (C fuel) false d) (acall (C fuel) true d) 141 (csub [true, true, true] (fbody Go.Proofs.Tryd.f126)) (asub [true, true, true] an126) (kRet (Cf fuel F_slices_partialInsertionSortCmpFunc_int) Go.Proofs.Tryd.f126.results.toList)))

noncomputable def k_slices_partialInsertionSortCmpFunc_int_0 : Nat → Nat → AExit → Fr → AHeap → Option (AVal × AHeap) := hide k_slices_partialInsertionSortCmpFunc_int_0r

theorem k_slices_partialInsertionSortCmpFunc_int_0_is : k_slices_partialInsertionSortCmpFunc_int_0 = k_slices_partialInsertionSortCmpFunc_int_0r := hide_eq _

noncomputable def s_slices_partialInsertionSortCmpFunc_int_1 (fuel d : Nat) : Run := fun fr h k => aexec (Cf fuel F_slices_partialInsertionSortCmpFunc_int) false (acall (C fuel) false d) (acall (C fuel) true d) 141 (csub [true, true, false, true, false, false, true, false, false, false, false, false] (fbody Go.Proofs.Tryd.f126)) (asub [true, true, false, true, false, false, true, false, false, false, false, false] an126) fr h k

noncomputable def l_slices_partialInsertionSortCmpFunc_int_1r (fuel d : Nat) (n : Nat) (fr : Fr) (h : AHeap) : Option (AExit × Fr × AHeap) := aloop (s_slices_partialInsertionSortCmpFunc_int_1 fuel d) (some [0, 1, 2, 3, 9, 10]) n fr h (kOut [0, 1, 2, 3, 9, 10])

noncomputable def l_slices_partialInsertionSortCmpFunc_int_1 : Nat → Nat → Nat → Fr → AHeap → Option (AExit × Fr × AHeap) := hide l_slices_partialInsertionSortCmpFunc_int_1r

theorem l_slices_partialInsertionSortCmpFunc_int_1_is : l_slices_partialInsertionSortCmpFunc_int_1 = l_slices_partialInsertionSortCmpFunc_int_1r := hide_eq _

noncomputable def k_slices_partialInsertionSortCmpFunc_int_1r (fuel d : Nat) (n : Nat) : AExit → Fr → AHeap → Option (AExit × Fr × AHeap) := (kBlock 2 (kSeq (Cf fuel F_slices_partialInsertionSortCmpFunc_int) false (acall (C fuel) false d) (acall (C fuel) true d) 141 (csub [true, true, false, true, false, false, true, false, false, true] (fbody Go.Proofs.Tryd.f126)) (asub [true, true, false, true, false, false, true, false, false, true] an126) (kBlock 1 (kSeq (Cf fuel F_slices_partialInsertionSortCmpFunc_int) false (acall (C fuel) false d) (acall (C fuel) true d) 141 (csub [true, true, false, true, false, false, true, true] (fbody Go.Proofs.Tryd.f126)) (asub [true, true, false, true, false, false, true, true] an126) (kLoop (s_slices_partialInsertionSortCmpFunc_int_0 fuel d) (some [0, 1, 2, 3, 9, 10]) n (kOut [8]))))))

noncomputable def k_slices_partialInsertionSortCmpFunc_int_1 : Nat → Nat → Nat → AExit → Fr → AHeap → Option (AExit × Fr × AHeap) := hide k_slices_partialInsertionSortCmpFunc_int_1r

theorem k_slices_partialInsertionSortCmpFunc_int_1_is : k_slices_partialInsertionSortCmpFunc_int_1 = k_slices_partialInsertionSortCmpFunc_int_1r := hide_eq _

noncomputable def k_slices_partialInsertionSortCmpFunc_int_2r (fuel d : Nat) (n : Nat) : AExit → Fr → AHeap → Option (AExit × Fr × AHeap) := (kSeq (Cf fuel F_slices_partialInsertionSortCmpFunc_int) false (acall (C fuel) false d) (acall (C fuel) true d) 141 (csub [true, true, false, true, false, false, true, false, false, false, false, false, false, true] (fbody Go.Proofs.Tryd.f126)) (asub [true, true, false, true, false, false, true, false, false, false, false, false, false, true] an126) (kSeq (Cf fuel F_slices_partialInsertionSortCmpFunc_int) false (acall (C fuel) false d) (acall (C fuel) true d) 141 (csub [true, true, false, true, false, false, true, false, false, false, false, false, true] (fbody Go.Proofs.Tryd.f126)) (asub [true, true, false, true, false, false, true, false, false, false, false, false, true] an126) (kLoop (s_slices_partialInsertionSortCmpFunc_int_1 fuel d) (some [0, 1, 2, 3, 9, 10]) n (kOut [0, 1, 2, 3, 9, 10]))))

noncomputable def k_slices_partialInsertionSortCmpFunc_int_2 : Nat → Nat → Nat → AExit → Fr → AHeap → Option (AExit × Fr × AHeap) := hide k_slices_partialInsertionSortCmpFunc_int_2r

theorem k_slices_partialInsertionSortCmpFunc_int_2_is : k_slices_partialInsertionSortCmpFunc_int_2 = k_slices_partialInsertionSortCmpFunc_int_2r := hide_eq _

noncomputable def s_slices_partialInsertionSortCmpFunc_int_2 (fuel d : Nat) : Run := fun fr h k => aexec (Cf fuel F_slices_partialInsertionSortCmpFunc_int) false (acall (C fuel) false d) (acall (C fuel) true d) 141 (csub [true, true, false, true, false, false, true, false, false, true, true, true, true, false, true, false, true, false, false] (fbody Go.Proofs.Tryd.f126)) (asub [true, true, false, true, false, false, true, false, false, true, true, true, true, false, true, false, true, false, false] an126) fr h k

noncomputable def l_slices_partialInsertionSortCmpFunc_int_2r (fuel d : Nat) (n : Nat) (fr : Fr) (h : AHeap) : Option (AExit × Fr × AHeap) := aloop (s_slices_partialInsertionSortCmpFunc_int_2 fuel d) (some [0, 1, 2, 3, 9, 10, 11]) n fr h (kOut [0, 1, 2, 3, 9, 10])

noncomputable def l_slices_partialInsertionSortCmpFunc_int_2 : Nat → Nat → Nat → Fr → AHeap → Option (AExit × Fr × AHeap) := hide l_slices_partialInsertionSortCmpFunc_int_2r

theorem l_slices_partialInsertionSortCmpFunc_int_2_is : l_slices_partialInsertionSortCmpFunc_int_2 = l_slices_partialInsertionSortCmpFunc_int_2r := hide_eq _

noncomputable def k_slices_partialInsertionSortCmpFunc_int_3r (fuel d : Nat) (n : Nat) : AExit → Fr → AHeap → Option (AExit × Fr × AHeap) := (kBlock 4 (kOut [0, 1, 2, 3, 9, 10]))

noncomputable def k_slices_partialInsertionSortCmpFunc_int_3 : Nat → Nat → Nat → AExit → Fr → AHeap → Option (AExit × Fr × AHeap) := hide k_slices_partialInsertionSortCmpFunc_int_3r

theorem k_slices_partialInsertionSortCmpFunc_int_3_is : k_slices_partialInsertionSortCmpFunc_int_3 = k_slices_partialInsertionSortCmpFunc_int_3r := hide_eq _

noncomputable def k_slices_partialInsertionSortCmpFunc_int_4r (fuel d : Nat) (n : Nat) : AExit → Fr → AHeap → Option (AExit × Fr × AHeap) := (kSeq (Cf fuel F_slices_partialInsertionSortCmpFunc_int) false (acall (C fuel) false d) (acall (C fuel) true d) 141 (csub [true, true, false, true, false, false, true, false, false, true, true, true, true, true] (fbody Go.Proofs.Tryd.f126)) (asub [true, true, false, true, false, false, true, false, false, true, true, true, true, true] an126) (kBlock 1 (kSeq (Cf fuel F_slices_partialInsertionSortCmpFunc_int) false (acall (C fuel) false d) (acall (C fuel) true d) 141 (csub [true, true, false, true, false, false, true, true] (fbody Go.Proofs.Tryd.f126)) (asub [true, true, false, true, false, false, true, true] an126) (kLoop (s_slices_partialInsertionSortCmpFunc_int_0 fuel d) (some [0, 1, 2, 3, 9, 10]) n (kOut [8])))))

noncomputable def k_slices_partialInsertionSortCmpFunc_int_4 : Nat → Nat → Nat → AExit → Fr → AHeap → Option (AExit × Fr × AHeap) := hide k_slices_partialInsertionSortCmpFunc_int_4r

theorem k_slices_partialInsertionSortCmpFunc_int_4_is : k_slices_partialInsertionSortCmpFunc_int_4 = k_slices_partialInsertionSortCmpFunc_int_4r := hide_eq _

noncomputable def s_slices_partialInsertionSortCmpFunc_int_3 (fuel d : Nat) : Run := fun fr h k => aexec (Cf fuel F_slices_partialInsertionSortCmpFunc_int) false (acall (C fuel) false d) (acall (C fuel) true d) 141 (csub [true, true, false, true, false, false, true, false, false, true, true, true, true, true, true, false, true, false, false] (fbody Go.Proofs.Tryd.f126)) (asub [true, true, false, true, false, false, true, false, false, true, true, true, true, true, true, false, true, false, false] an126) fr h k

noncomputable def l_slices_partialInsertionSortCmpFunc_int_3r (fuel d : Nat) (n : Nat) (fr : Fr) (h : AHeap) : Option (AExit × Fr × AHeap) := aloop (s_slices_partialInsertionSortCmpFunc_int_3 fuel d) (some [0, 1, 2, 3, 9, 10, 12]) n fr h (kOut [0, 1, 2, 3, 9, 10])

noncomputable def l_slices_partialInsertionSortCmpFunc_int_3 : Nat → Nat → Nat → Fr → AHeap → Option (AExit × Fr × AHeap) := hide l_slices_partialInsertionSortCmpFunc_int_3r

theorem l_slices_partialInsertionSortCmpFunc_int_3_is : l_slices_partialInsertionSortCmpFunc_int_3 = l_slices_partialInsertionSortCmpFunc_int_3r := hide_eq _

noncomputable def k_slices_partialInsertionSortCmpFunc_int_5r (fuel d : Nat) (n : Nat) : AExit → Fr → AHeap → Option (AExit × Fr × AHeap) := (kBlock 6 (kBlock 1 (kSeq (Cf fuel F_slices_partialInsertionSortCmpFunc_int) false (acall (C fuel) false d) (acall (C fuel) true d) 141 (csub [true, true, false, true, false, false, true, true] (fbody Go.Proofs.Tryd.f126)) (asub [true, true, false, true, false, false, true, true] an126) (kLoop (s_slices_partialInsertionSortCmpFunc_int_0 fuel d) (some [0, 1, 2, 3, 9, 10]) n (kOut [8])))))

noncomputable def k_slices_partialInsertionSortCmpFunc_int_5 : Nat → Nat → Nat → AExit → Fr → AHeap → Option (AExit × Fr × AHeap) := hide k_slices_partialInsertionSortCmpFunc_int_5r

theorem k_slices_partialInsertionSortCmpFunc_int_5_is : k_slices_partialInsertionSortCmpFunc_int_5 = k_slices_partialInsertionSortCmpFunc_int_5r := hide_eq _

theorem e_slices_partialInsertionSortCmpFunc_int (fuel d : Nat) (x0 : Sl) (x1 : Int) (x2 : Int) (x3f : Nat) (x3c : List Pt) (h : AHeap) :
    run fuel (d + 1) F_slices_partialInsertionSortCmpFunc_int [(AVal.slice x0), (AVal.int .i64 x1), (AVal.int .i64 x2), (AVal.func x3f x3c)] h =
  (l_slices_partialInsertionSortCmpFunc_int_0 fuel d fuel [(0, (AVal.slice x0)), (1, (AVal.int .i64 x1)), (2, (AVal.int .i64 x2)), (3, (AVal.func x3f x3c)), (9, (AVal.int .i64 (IntKind.wrap .i64 (x1 + (1 : Int))))), (10, (AVal.int .i64 (0 : Int)))] h).bind fun p1 =>
    k_slices_partialInsertionSortCmpFunc_int_0 fuel d p1.1 p1.2.1 p1.2.2 := by
  generalize hh : run = R
  rw [run_is] at hh
  subst hh
  generalize hh : l_slices_partialInsertionSortCmpFunc_int_0 = R
  rw [l_slices_partialInsertionSortCmpFunc_int_0_is] at hh
  subst hh
  generalize hh : k_slices_partialInsertionSortCmpFunc_int_0 = R
  rw [k_slices_partialInsertionSortCmpFunc_int_0_is] at hh
  subst hh
  kernel_rfl

theorem l_slices_partialInsertionSortCmpFunc_int_0_eq (fuel d : Nat) (n : Nat) (x0 : Sl) (x1 : Int) (x2 : Int) (x3f : Nat) (x3c : List Pt) (x9 : Int) (x10 : Int) (h : AHeap) :
    l_slices_partialInsertionSortCmpFunc_int_0 fuel d (n + 1) [(0, (AVal.slice x0)), (1, (AVal.int .i64 x1)), (2, (AVal.int .i64 x2)), (3, (AVal.func x3f x3c)), (9, (AVal.int .i64 x9)), (10, (AVal.int .i64 x10))] h =
  (bif (decide (x10 < (5 : Int))) then ((l_slices_partialInsertionSortCmpFunc_int_1 fuel d fuel [(0, (AVal.slice x0)), (1, (AVal.int .i64 x1)), (2, (AVal.int .i64 x2)), (3, (AVal.func x3f x3c)), (9, (AVal.int .i64 x9)), (10, (AVal.int .i64 x10))] h).bind fun p1 =>
    k_slices_partialInsertionSortCmpFunc_int_1 fuel d n p1.1 p1.2.1 p1.2.2) else (some ((.exit 0), [(8, AVal.bot)], h))) := by
  generalize hh : l_slices_partialInsertionSortCmpFunc_int_0 = R
  rw [l_slices_partialInsertionSortCmpFunc_int_0_is] at hh
  subst hh
  generalize hh : l_slices_partialInsertionSortCmpFunc_int_1 = R
  rw [l_slices_partialInsertionSortCmpFunc_int_1_is] at hh
  subst hh
  generalize hh : k_slices_partialInsertionSortCmpFunc_int_1 = R
  rw [k_slices_partialInsertionSortCmpFunc_int_1_is] at hh
  subst hh
  kernel_rfl

theorem l_slices_partialInsertionSortCmpFunc_int_0_0 (fuel d : Nat) (fr : Fr) (h : AHeap) :
    l_slices_partialInsertionSortCmpFunc_int_0 fuel d 0 fr h =
  none := by
  generalize hh : l_slices_partialInsertionSortCmpFunc_int_0 = R
  rw [l_slices_partialInsertionSortCmpFunc_int_0_is] at hh
  subst hh
  kernel_rfl

theorem k_slices_partialInsertionSortCmpFunc_int_0_x0 (fuel d : Nat) (x8 : AVal) (h : AHeap) :
    k_slices_partialInsertionSortCmpFunc_int_0 fuel d (.exit 0) [(8, x8)] h =
  some ((AVal.bool false), h) := by
  generalize hh : k_slices_partialInsertionSortCmpFunc_int_0 = R
  rw [k_slices_partialInsertionSortCmpFunc_int_0_is] at hh
  subst hh
  kernel_rfl

theorem k_slices_partialInsertionSortCmpFunc_int_0_r (fuel d : Nat) (x8 : Bool) (h : AHeap) :
    k_slices_partialInsertionSortCmpFunc_int_0 fuel d .ret [(8, (AVal.bool x8))] h =
  some ((AVal.bool x8), h) := by
  generalize hh : k_slices_partialInsertionSortCmpFunc_int_0 = R
  rw [k_slices_partialInsertionSortCmpFunc_int_0_is] at hh
  subst hh
  kernel_rfl

theorem l_slices_partialInsertionSortCmpFunc_int_1_eq (fuel d : Nat) (n : Nat) (x0 : Sl) (x1 : Int) (x2 : Int) (x3f : Nat) (x3c : List Pt) (x9 : Int) (x10 : Int) (h : AHeap) :
    l_slices_partialInsertionSortCmpFunc_int_1 fuel d (n + 1) [(0, (AVal.slice x0)), (1, (AVal.int .i64 x1)), (2, (AVal.int .i64 x2)), (3, (AVal.func x3f x3c)), (9, (AVal.int .i64 x9)), (10, (AVal.int .i64 x10))] h =
  ((bif (decide (x9 < x2)) then ((AHeap.addr h 1 x0 x9).bind fun p1 =>
    (AHeap.cell h p1).bind fun u2 =>
    (AVal.int? .i64 u2).bind fun n3 =>
    (AHeap.addr h 1 x0 (IntKind.wrap .i64 (x9 - (1 : Int)))).bind fun p4 =>
    (AHeap.cell h p4).bind fun u5 =>
    (AVal.int? .i64 u5).bind fun n6 =>
    (run fuel d x3f ([(AVal.int .i64 n3), (AVal.int .i64 n6)] ++ List.map AVal.ptr x3c) h).bind fun r7 =>
    (AVal.int? .i64 r7.1).bind fun n8 =>
    some (.normal, [(0, (AVal.slice x0)), (1, (AVal.int .i64 x1)), (2, (AVal.int .i64 x2)), (3, (AVal.func x3f x3c)), (9, (AVal.int .i64 x9)), (10, (AVal.int .i64 x10)), (36, (AVal.bool (!(decide (n8 < (0 : Int))))))], r7.2)) else (some (.normal, [(0, (AVal.slice x0)), (1, (AVal.int .i64 x1)), (2, (AVal.int .i64 x2)), (3, (AVal.func x3f x3c)), (9, (AVal.int .i64 x9)), (10, (AVal.int .i64 x10)), (36, (AVal.bool false))], h)))).bind fun p9 =>
    k_slices_partialInsertionSortCmpFunc_int_2 fuel d n p9.1 p9.2.1 p9.2.2 := by
  generalize hh : run = R
  rw [run_is] at hh
  subst hh
  generalize hh : l_slices_partialInsertionSortCmpFunc_int_1 = R
  rw [l_slices_partialInsertionSortCmpFunc_int_1_is] at hh
  subst hh
  generalize hh : k_slices_partialInsertionSortCmpFunc_int_2 = R
  rw [k_slices_partialInsertionSortCmpFunc_int_2_is] at hh
  subst hh
  kernel_rfl

theorem l_slices_partialInsertionSortCmpFunc_int_1_0 (fuel d : Nat) (fr : Fr) (h : AHeap) :
    l_slices_partialInsertionSortCmpFunc_int_1 fuel d 0 fr h =
  none := by
  generalize hh : l_slices_partialInsertionSortCmpFunc_int_1 = R
  rw [l_slices_partialInsertionSortCmpFunc_int_1_is] at hh
  subst hh
  kernel_rfl

theorem k_slices_partialInsertionSortCmpFunc_int_1_x2 (fuel d : Nat) (n : Nat) (x0 : Sl) (x1 : Int) (x2 : Int) (x3f : Nat) (x3c : List Pt) (x9 : Int) (x10 : Int) (h : AHeap) :
    k_slices_partialInsertionSortCmpFunc_int_1 fuel d n (.exit 2) [(0, (AVal.slice x0)), (1, (AVal.int .i64 x1)), (2, (AVal.int .i64 x2)), (3, (AVal.func x3f x3c)), (9, (AVal.int .i64 x9)), (10, (AVal.int .i64 x10))] h =
  (bif (decide (x9 = x2)) then (some (.ret, [(8, (AVal.bool true))], h)) else ((bif (decide ((IntKind.wrap .i64 (x2 - x1)) < (50 : Int))) then (some (.ret, [(8, (AVal.bool false))], h)) else ((AHeap.addr h 1 x0 (IntKind.wrap .i64 (x9 - (1 : Int)))).bind fun p1 =>
    (AHeap.cell h p1).bind fun u2 =>
    (AVal.int? .i64 u2).bind fun n3 =>
    (AHeap.addr h 1 x0 x9).bind fun p4 =>
    (AHeap.cell h p4).bind fun u5 =>
    (AVal.int? .i64 u5).bind fun n6 =>
    (AHeap.addr h 1 x0 x9).bind fun p7 =>
    (AHeap.storeAt h [(AVal.int .i64 n3)] p7).bind fun h8 =>
    (AHeap.addr h8 1 x0 (IntKind.wrap .i64 (x9 - (1 : Int)))).bind fun p9 =>
    (AHeap.storeAt h8 [(AVal.int .i64 n6)] p9).bind fun h10 =>
    ((bif (decide ((2 : Int) ≤ (IntKind.wrap .i64 (x9 - x1)))) then ((l_slices_partialInsertionSortCmpFunc_int_2 fuel d fuel [(0, (AVal.slice x0)), (1, (AVal.int .i64 x1)), (2, (AVal.int .i64 x2)), (3, (AVal.func x3f x3c)), (9, (AVal.int .i64 x9)), (10, (AVal.int .i64 x10)), (11, (AVal.int .i64 (IntKind.wrap .i64 (x9 - (1 : Int)))))] h10).bind fun p11 =>
    k_slices_partialInsertionSortCmpFunc_int_3 fuel d n p11.1 p11.2.1 p11.2.2) else (some (.normal, [(0, (AVal.slice x0)), (1, (AVal.int .i64 x1)), (2, (AVal.int .i64 x2)), (3, (AVal.func x3f x3c)), (9, (AVal.int .i64 x9)), (10, (AVal.int .i64 x10))], h10)))).bind fun p12 =>
    k_slices_partialInsertionSortCmpFunc_int_4 fuel d n p12.1 p12.2.1 p12.2.2)))) := by
  generalize hh : k_slices_partialInsertionSortCmpFunc_int_1 = R
  rw [k_slices_partialInsertionSortCmpFunc_int_1_is] at hh
  subst hh
  generalize hh : l_slices_partialInsertionSortCmpFunc_int_2 = R
  rw [l_slices_partialInsertionSortCmpFunc_int_2_is] at hh
  subst hh
  generalize hh : k_slices_partialInsertionSortCmpFunc_int_3 = R
  rw [k_slices_partialInsertionSortCmpFunc_int_3_is] at hh
  subst hh
  generalize hh : k_slices_partialInsertionSortCmpFunc_int_4 = R
  rw [k_slices_partialInsertionSortCmpFunc_int_4_is] at hh
  subst hh
  kernel_rfl

theorem k_slices_partialInsertionSortCmpFunc_int_2_n (fuel d : Nat) (n : Nat) (x0 : Sl) (x1 : Int) (x2 : Int) (x3f : Nat) (x3c : List Pt) (x9 : Int) (x10 : Int) (x36 : Bool) (h : AHeap) :
    k_slices_partialInsertionSortCmpFunc_int_2 fuel d n .normal [(0, (AVal.slice x0)), (1, (AVal.int .i64 x1)), (2, (AVal.int .i64 x2)), (3, (AVal.func x3f x3c)), (9, (AVal.int .i64 x9)), (10, (AVal.int .i64 x10)), (36, (AVal.bool x36))] h =
  (bif x36 then (l_slices_partialInsertionSortCmpFunc_int_1 fuel d n [(0, (AVal.slice x0)), (1, (AVal.int .i64 x1)), (2, (AVal.int .i64 x2)), (3, (AVal.func x3f x3c)), (9, (AVal.int .i64 (IntKind.wrap .i64 (x9 + (1 : Int))))), (10, (AVal.int .i64 x10))] h) else (some ((.exit 2), [(0, (AVal.slice x0)), (1, (AVal.int .i64 x1)), (2, (AVal.int .i64 x2)), (3, (AVal.func x3f x3c)), (9, (AVal.int .i64 x9)), (10, (AVal.int .i64 x10))], h))) := by
  generalize hh : l_slices_partialInsertionSortCmpFunc_int_1 = R
  rw [l_slices_partialInsertionSortCmpFunc_int_1_is] at hh
  subst hh
  generalize hh : k_slices_partialInsertionSortCmpFunc_int_2 = R
  rw [k_slices_partialInsertionSortCmpFunc_int_2_is] at hh
  subst hh
  kernel_rfl

theorem l_slices_partialInsertionSortCmpFunc_int_2_eq (fuel d : Nat) (n : Nat) (x0 : Sl) (x1 : Int) (x2 : Int) (x3f : Nat) (x3c : List Pt) (x9 : Int) (x10 : Int) (x11 : Int) (h : AHeap) :
    l_slices_partialInsertionSortCmpFunc_int_2 fuel d (n + 1) [(0, (AVal.slice x0)), (1, (AVal.int .i64 x1)), (2, (AVal.int .i64 x2)), (3, (AVal.func x3f x3c)), (9, (AVal.int .i64 x9)), (10, (AVal.int .i64 x10)), (11, (AVal.int .i64 x11))] h =
  (bif (decide ((1 : Int) ≤ x11)) then ((AHeap.addr h 1 x0 x11).bind fun p1 =>
    (AHeap.cell h p1).bind fun u2 =>
    (AVal.int? .i64 u2).bind fun n3 =>
    (AHeap.addr h 1 x0 (IntKind.wrap .i64 (x11 - (1 : Int)))).bind fun p4 =>
    (AHeap.cell h p4).bind fun u5 =>
    (AVal.int? .i64 u5).bind fun n6 =>
    (run fuel d x3f ([(AVal.int .i64 n3), (AVal.int .i64 n6)] ++ List.map AVal.ptr x3c) h).bind fun r7 =>
    (AVal.int? .i64 r7.1).bind fun n8 =>
    (bif (!(decide (n8 < (0 : Int)))) then (some ((.exit 4), [(0, (AVal.slice x0)), (1, (AVal.int .i64 x1)), (2, (AVal.int .i64 x2)), (3, (AVal.func x3f x3c)), (9, (AVal.int .i64 x9)), (10, (AVal.int .i64 x10))], r7.2)) else ((AHeap.addr r7.2 1 x0 (IntKind.wrap .i64 (x11 - (1 : Int)))).bind fun p9 =>
    (AHeap.cell r7.2 p9).bind fun u10 =>
    (AVal.int? .i64 u10).bind fun n11 =>
    (AHeap.addr r7.2 1 x0 x11).bind fun p12 =>
    (AHeap.cell r7.2 p12).bind fun u13 =>
    (AVal.int? .i64 u13).bind fun n14 =>
    (AHeap.addr r7.2 1 x0 x11).bind fun p15 =>
    (AHeap.storeAt r7.2 [(AVal.int .i64 n11)] p15).bind fun h16 =>
    (AHeap.addr h16 1 x0 (IntKind.wrap .i64 (x11 - (1 : Int)))).bind fun p17 =>
    (AHeap.storeAt h16 [(AVal.int .i64 n14)] p17).bind fun h18 =>
    l_slices_partialInsertionSortCmpFunc_int_2 fuel d n [(0, (AVal.slice x0)), (1, (AVal.int .i64 x1)), (2, (AVal.int .i64 x2)), (3, (AVal.func x3f x3c)), (9, (AVal.int .i64 x9)), (10, (AVal.int .i64 x10)), (11, (AVal.int .i64 (IntKind.wrap .i64 (x11 - (1 : Int)))))] h18))) else (some ((.exit 4), [(0, (AVal.slice x0)), (1, (AVal.int .i64 x1)), (2, (AVal.int .i64 x2)), (3, (AVal.func x3f x3c)), (9, (AVal.int .i64 x9)), (10, (AVal.int .i64 x10))], h))) := by
  generalize hh : run = R
  rw [run_is] at hh
  subst hh
  generalize hh : l_slices_partialInsertionSortCmpFunc_int_2 = R
  rw [l_slices_partialInsertionSortCmpFunc_int_2_is] at hh
  subst hh
  kernel_rfl

theorem l_slices_partialInsertionSortCmpFunc_int_2_0 (fuel d : Nat) (fr : Fr) (h : AHeap) :
    l_slices_partialInsertionSortCmpFunc_int_2 fuel d 0 fr h =
  none := by
  generalize hh : l_slices_partialInsertionSortCmpFunc_int_2 = R
  rw [l_slices_partialInsertionSortCmpFunc_int_2_is] at hh
  subst hh
  kernel_rfl

theorem k_slices_partialInsertionSortCmpFunc_int_3_x4 (fuel d : Nat) (n : Nat) (x0 : Sl) (x1 : Int) (x2 : Int) (x3f : Nat) (x3c : List Pt) (x9 : Int) (x10 : Int) (h : AHeap) :
    k_slices_partialInsertionSortCmpFunc_int_3 fuel d n (.exit 4) [(0, (AVal.slice x0)), (1, (AVal.int .i64 x1)), (2, (AVal.int .i64 x2)), (3, (AVal.func x3f x3c)), (9, (AVal.int .i64 x9)), (10, (AVal.int .i64 x10))] h =
  some (.normal, [(0, (AVal.slice x0)), (1, (AVal.int .i64 x1)), (2, (AVal.int .i64 x2)), (3, (AVal.func x3f x3c)), (9, (AVal.int .i64 x9)), (10, (AVal.int .i64 x10))], h) := by
  generalize hh : k_slices_partialInsertionSortCmpFunc_int_3 = R
  rw [k_slices_partialInsertionSortCmpFunc_int_3_is] at hh
  subst hh
  kernel_rfl

theorem k_slices_partialInsertionSortCmpFunc_int_4_n (fuel d : Nat) (n : Nat) (x0 : Sl) (x1 : Int) (x2 : Int) (x3f : Nat) (x3c : List Pt) (x9 : Int) (x10 : Int) (h : AHeap) :
    k_slices_partialInsertionSortCmpFunc_int_4 fuel d n .normal [(0, (AVal.slice x0)), (1, (AVal.int .i64 x1)), (2, (AVal.int .i64 x2)), (3, (AVal.func x3f x3c)), (9, (AVal.int .i64 x9)), (10, (AVal.int .i64 x10))] h =
  (bif (decide ((2 : Int) ≤ (IntKind.wrap .i64 (x2 - x9)))) then ((l_slices_partialInsertionSortCmpFunc_int_3 fuel d fuel [(0, (AVal.slice x0)), (1, (AVal.int .i64 x1)), (2, (AVal.int .i64 x2)), (3, (AVal.func x3f x3c)), (9, (AVal.int .i64 x9)), (10, (AVal.int .i64 x10)), (12, (AVal.int .i64 (IntKind.wrap .i64 (x9 + (1 : Int)))))] h).bind fun p1 =>
    k_slices_partialInsertionSortCmpFunc_int_5 fuel d n p1.1 p1.2.1 p1.2.2) else (l_slices_partialInsertionSortCmpFunc_int_0 fuel d n [(0, (AVal.slice x0)), (1, (AVal.int .i64 x1)), (2, (AVal.int .i64 x2)), (3, (AVal.func x3f x3c)), (9, (AVal.int .i64 x9)), (10, (AVal.int .i64 (IntKind.wrap .i64 (x10 + (1 : Int)))))] h)) := by
  generalize hh : l_slices_partialInsertionSortCmpFunc_int_0 = R
  rw [l_slices_partialInsertionSortCmpFunc_int_0_is] at hh
  subst hh
  generalize hh : k_slices_partialInsertionSortCmpFunc_int_4 = R
  rw [k_slices_partialInsertionSortCmpFunc_int_4_is] at hh
  subst hh
  generalize hh : l_slices_partialInsertionSortCmpFunc_int_3 = R
  rw [l_slices_partialInsertionSortCmpFunc_int_3_is] at hh
  subst hh
  generalize hh : k_slices_partialInsertionSortCmpFunc_int_5 = R
  rw [k_slices_partialInsertionSortCmpFunc_int_5_is] at hh
  subst hh
  kernel_rfl

theorem l_slices_partialInsertionSortCmpFunc_int_3_eq (fuel d : Nat) (n : Nat) (x0 : Sl) (x1 : Int) (x2 : Int) (x3f : Nat) (x3c : List Pt) (x9 : Int) (x10 : Int) (x12 : Int) (h : AHeap) :
    l_slices_partialInsertionSortCmpFunc_int_3 fuel d (n + 1) [(0, (AVal.slice x0)), (1, (AVal.int .i64 x1)), (2, (AVal.int .i64 x2)), (3, (AVal.func x3f x3c)), (9, (AVal.int .i64 x9)), (10, (AVal.int .i64 x10)), (12, (AVal.int .i64 x12))] h =
  (bif (decide (x12 < x2)) then ((AHeap.addr h 1 x0 x12).bind fun p1 =>
    (AHeap.cell h p1).bind fun u2 =>
    (AVal.int? .i64 u2).bind fun n3 =>
    (AHeap.addr h 1 x0 (IntKind.wrap .i64 (x12 - (1 : Int)))).bind fun p4 =>
    (AHeap.cell h p4).bind fun u5 =>
    (AVal.int? .i64 u5).bind fun n6 =>
    (run fuel d x3f ([(AVal.int .i64 n3), (AVal.int .i64 n6)] ++ List.map AVal.ptr x3c) h).bind fun r7 =>
    (AVal.int? .i64 r7.1).bind fun n8 =>
    (bif (!(decide (n8 < (0 : Int)))) then (some ((.exit 6), [(0, (AVal.slice x0)), (1, (AVal.int .i64 x1)), (2, (AVal.int .i64 x2)), (3, (AVal.func x3f x3c)), (9, (AVal.int .i64 x9)), (10, (AVal.int .i64 x10))], r7.2)) else ((AHeap.addr r7.2 1 x0 (IntKind.wrap .i64 (x12 - (1 : Int)))).bind fun p9 =>
    (AHeap.cell r7.2 p9).bind fun u10 =>
    (AVal.int? .i64 u10).bind fun n11 =>
    (AHeap.addr r7.2 1 x0 x12).bind fun p12 =>
    (AHeap.cell r7.2 p12).bind fun u13 =>
    (AVal.int? .i64 u13).bind fun n14 =>
    (AHeap.addr r7.2 1 x0 x12).bind fun p15 =>
    (AHeap.storeAt r7.2 [(AVal.int .i64 n11)] p15).bind fun h16 =>
    (AHeap.addr h16 1 x0 (IntKind.wrap .i64 (x12 - (1 : Int)))).bind fun p17 =>
    (AHeap.storeAt h16 [(AVal.int .i64 n14)] p17).bind fun h18 =>
    l_slices_partialInsertionSortCmpFunc_int_3 fuel d n [(0, (AVal.slice x0)), (1, (AVal.int .i64 x1)), (2, (AVal.int .i64 x2)), (3, (AVal.func x3f x3c)), (9, (AVal.int .i64 x9)), (10, (AVal.int .i64 x10)), (12, (AVal.int .i64 (IntKind.wrap .i64 (x12 + (1 : Int)))))] h18))) else (some ((.exit 6), [(0, (AVal.slice x0)), (1, (AVal.int .i64 x1)), (2, (AVal.int .i64 x2)), (3, (AVal.func x3f x3c)), (9, (AVal.int .i64 x9)), (10, (AVal.int .i64 x10))], h))) := by
  generalize hh : run = R
  rw [run_is] at hh
  subst hh
  generalize hh : l_slices_partialInsertionSortCmpFunc_int_3 = R
  rw [l_slices_partialInsertionSortCmpFunc_int_3_is] at hh
  subst hh
  kernel_rfl

theorem l_slices_partialInsertionSortCmpFunc_int_3_0 (fuel d : Nat) (fr : Fr) (h : AHeap) :
    l_slices_partialInsertionSortCmpFunc_int_3 fuel d 0 fr h =
  none := by
  generalize hh : l_slices_partialInsertionSortCmpFunc_int_3 = R
  rw [l_slices_partialInsertionSortCmpFunc_int_3_is] at hh
  subst hh
  kernel_rfl

theorem k_slices_partialInsertionSortCmpFunc_int_5_x6 (fuel d : Nat) (n : Nat) (x0 : Sl) (x1 : Int) (x2 : Int) (x3f : Nat) (x3c : List Pt) (x9 : Int) (x10 : Int) (h : AHeap) :
    k_slices_partialInsertionSortCmpFunc_int_5 fuel d n (.exit 6) [(0, (AVal.slice x0)), (1, (AVal.int .i64 x1)), (2, (AVal.int .i64 x2)), (3, (AVal.func x3f x3c)), (9, (AVal.int .i64 x9)), (10, (AVal.int .i64 x10))] h =
  l_slices_partialInsertionSortCmpFunc_int_0 fuel d n [(0, (AVal.slice x0)), (1, (AVal.int .i64 x1)), (2, (AVal.int .i64 x2)), (3, (AVal.func x3f x3c)), (9, (AVal.int .i64 x9)), (10, (AVal.int .i64 (IntKind.wrap .i64 (x10 + (1 : Int)))))] h := by
  generalize hh : l_slices_partialInsertionSortCmpFunc_int_0 = R
  rw [l_slices_partialInsertionSortCmpFunc_int_0_is] at hh
  subst hh
  generalize hh : k_slices_partialInsertionSortCmpFunc_int_5 = R
  rw [k_slices_partialInsertionSortCmpFunc_int_5_is] at hh
  subst hh
  kernel_rfl

/-! 127: slices.partitionEqualCmpFunc[int] -/

noncomputable def s_slices_partitionEqualCmpFunc_int_0 (fuel d : Nat) : Run := fun fr h k => aexec (Cf fuel F_slices_partitionEqualCmpFunc_int) false (acall (C fuel) false d) (acall (C fuel) true d) 90 (csub [true, true, true, false, false, false] (fbody Go.Proofs.Tryd.f127)) (asub [true, true, true, false, false, false] an127) fr h k

noncomputable def l_slices_partitionEqualCmpFunc_int_0r (fuel d : Nat) (n : Nat) (fr : Fr) (h : AHeap) : Option (AExit × Fr × AHeap) := aloop (s_slices_partitionEqualCmpFunc_int_0 fuel d) (some [0, 1, 4, 11, 12]) n fr h (kOut [11])

noncomputable def l_slices_partitionEqualCmpFunc_int_0 : Nat → Nat → Nat → Fr → AHeap → Option (AExit × Fr × AHeap) := hide l_slices_partitionEqualCmpFunc_int_0r

theorem l_slices_partitionEqualCmpFunc_int_0_is : l_slices_partitionEqualCmpFunc_int_0 = l_slices_partitionEqualCmpFunc_int_0r := hide_eq _

noncomputable def k_slices_partitionEqualCmpFunc_int_0r (fuel d : Nat) : AExit → Fr → AHeap → Option (AVal × AHeap) := (kBlock 0 (kSeq (Cf fuel F_slices_partitionEqualCmpFunc_int) false (acall (C fuel) false d) (acall (C fuel) true d) 90 (csub [true, true, true, true] (fbody Go.Proofs.Tryd.f127)) (asub [true, true, true, true] an127) (kRet (Cf fuel F_slices_partitionEqualCmpFunc_int) Go.Proofs.Tryd.f127.results.toList)))

noncomputable def k_slices_partitionEqualCmpFunc_int_0 : Nat → Nat → AExit → Fr → AHeap → Option (AVal × AHeap) := hide k_slices_partitionEqualCmpFunc_int_0r

theorem k_slices_partitionEqualCmpFunc_int_0_is : k_slices_partitionEqualCmpFunc_int_0 = k_slices_partitionEqualCmpFunc_int_0r := hide_eq _

noncomputable def s_slices_partitionEqualCmpFunc_int_1 (fuel d : Nat) : Run := fun fr h k => aexec (Cf fuel F_slices_partitionEqualCmpFunc_int) false (acall (C fuel) false d) (acall (C fuel) true d) 90 (csub [true, true, true, false, false, false, false, false, false, false] (fbody Go.Proofs.Tryd.f127)) (asub [true, true, true, false, false, false, false, false, false, false] an127) fr h k

noncomputable def l_slices_partitionEqualCmpFunc_int_1r (fuel d : Nat) (n : Nat) (fr : Fr) (h : AHeap) : Option (AExit × Fr × AHeap) := aloop (s_slices_partitionEqualCmpFunc_int_1 fuel d) (some [0, 1, 4, 11, 12]) n fr h (kOut [0, 1, 4, 11, 12])

noncomputable def l_slices_partitionEqualCmpFunc_int_1 : Nat → Nat → Nat → Fr → AHeap → Option (AExit × Fr × AHeap) := hide l_slices_partitionEqualCmpFunc_int_1r

theorem l_slices_partitionEqualCmpFunc_int_1_is : l_slices_partitionEqualCmpFunc_int_1 = l_slices_partitionEqualCmpFunc_int_1r := hide_eq _

noncomputable def k_slices_partitionEqualCmpFunc_int_1r (fuel d : Nat) (n : Nat) : AExit → Fr → AHeap → Option (AExit × Fr × AHeap) := (kBlock 2 (kSeq (Cf fuel F_slices_partitionEqualCmpFunc_int) false (acall (C fuel) false d) (acall (C fuel) true d) 90 (csub [true, true, true, false, false, false, false, true] (fbody Go.Proofs.Tryd.f127)) (asub [true, true, true, false, false, false, false, true] an127) (kBlock 1 (kLoop (s_slices_partitionEqualCmpFunc_int_0 fuel d) (some [0, 1, 4, 11, 12]) n (kOut [11])))))

noncomputable def k_slices_partitionEqualCmpFunc_int_1 : Nat → Nat → Nat → AExit → Fr → AHeap → Option (AExit × Fr × AHeap) := hide k_slices_partitionEqualCmpFunc_int_1r

theorem k_slices_partitionEqualCmpFunc_int_1_is : k_slices_partitionEqualCmpFunc_int_1 = k_slices_partitionEqualCmpFunc_int_1r := hide_eq _

noncomputable def k_slices_partitionEqualCmpFunc_int_2r (fuel d : Nat) (n : Nat) : AExit → Fr → AHeap → Option (AExit × Fr × AHeap) := (kSeq (Cf fuel F_slices_partitionEqualCmpFunc_int) false (acall (C fuel) false d) (acall (C fuel) true d) 90 (csub [true, true, true, false, false, false, false, false, false, false, false, true] (fbody Go.Proofs.Tryd.f127)) (asub [true, true, true, false, false, false, false, false, false, false, false, true] an127) (kSeq (Cf fuel F_slices_partitionEqualCmpFunc_int) false (acall (C fuel) false d) (acall (C fuel) true d) 90 (csub [true, true, true, false, false, false, false, false, false, false, true] (fbody Go.Proofs.Tryd.f127)) (asub [true, true, true, false, false, false, false, false, false, false, true] an127) (kLoop (s_slices_partitionEqualCmpFunc_int_1 fuel d) (some [0, 1, 4, 11, 12]) n (kOut [0, 1, 4, 11, 12]))))

noncomputable def k_slices_partitionEqualCmpFunc_int_2 : Nat → Nat → Nat → AExit → Fr → AHeap → Option (AExit × Fr × AHeap) := hide k_slices_partitionEqualCmpFunc_int_2r

theorem k_slices_partitionEqualCmpFunc_int_2_is : k_slices_partitionEqualCmpFunc_int_2 = k_slices_partitionEqualCmpFunc_int_2r := hide_eq _

noncomputable def s_slices_partitionEqualCmpFunc_int_2 (fuel d : Nat) : Run := fun fr h k => aexec (Cf fuel F_slices_partitionEqualCmpFunc_int) false (acall (C fuel) false d) (acall (C fuel) true d) 90 (csub [true, true, true, false, false, false, false, true, false, false, false] (fbody Go.Proofs.Tryd.f127)) (asub [true, true, true, false, false, false, false, true, false, false, false] an127) fr h k

noncomputable def l_slices_partitionEqualCmpFunc_int_2r (fuel d : Nat) (n : Nat) (fr : Fr) (h : AHeap) : Option (AExit × Fr × AHeap) := aloop (s_slices_partitionEqualCmpFunc_int_2 fuel d) (some [0, 1, 4, 11, 12]) n fr h (kOut [0, 1, 4, 11, 12])

noncomputable def l_slices_partitionEqualCmpFunc_int_2 : Nat → Nat → Nat → Fr → AHeap → Option (AExit × Fr × AHeap) := hide l_slices_partitionEqualCmpFunc_int_2r

theorem l_slices_partitionEqualCmpFunc_int_2_is : l_slices_partitionEqualCmpFunc_int_2 = l_slices_partitionEqualCmpFunc_int_2r := hide_eq _

noncomputable def k_slices_partitionEqualCmpFunc_int_3r (fuel d : Nat) (n : Nat) : AExit → Fr → AHeap → Option (AExit × Fr × AHeap) := (kBlock 4 (kSeq (Cf fuel F_slices_partitionEqualCmpFunc_int) false (acall (C fuel) false d) (acall (C fuel) true d) 90 (csub [true, true, true, false, false, false, false, true, true] (fbody Go.Proofs.Tryd.f127)) (asub [true, true, true, false, false, false, false, true, true] an127) (kBlock 1 (kLoop (s_slices_partitionEqualCmpFunc_int_0 fuel d) (some [0, 1, 4, 11, 12]) n (kOut [11])))))

noncomputable def k_slices_partitionEqualCmpFunc_int_3 : Nat → Nat → Nat → AExit → Fr → AHeap → Option (AExit × Fr × AHeap) := hide k_slices_partitionEqualCmpFunc_int_3r

theorem k_slices_partitionEqualCmpFunc_int_3_is : k_slices_partitionEqualCmpFunc_int_3 = k_slices_partitionEqualCmpFunc_int_3r := hide_eq _

noncomputable def k_slices_partitionEqualCmpFunc_int_4r (fuel d : Nat) (n : Nat) : AExit → Fr → AHeap → Option (AExit × Fr × AHeap) := (kSeq (Cf fuel F_slices_partitionEqualCmpFunc_int) false (acall (C fuel) false d) (acall (C fuel) true d) 90 (csub [true, true, true, false, false, false, false, true, false, false, false, false, true] (fbody Go.Proofs.Tryd.f127)) (asub [true, true, true, false, false, false, false, true, false, false, false, false, true] an127) (kSeq (Cf fuel F_slices_partitionEqualCmpFunc_int) false (acall (C fuel) false d) (acall (C fuel) true d) 90 (csub [true, true, true, false, false, false, false, true, false, false, false, true] (fbody Go.Proofs.Tryd.f127)) (asub [true, true, true, false, false, false, false, true, false, false, false, true] an127) (kLoop (s_slices_partitionEqualCmpFunc_int_2 fuel d) (some [0, 1, 4, 11, 12]) n (kOut [0, 1, 4, 11, 12]))))

noncomputable def k_slices_partitionEqualCmpFunc_int_4 : Nat → Nat → Nat → AExit → Fr → AHeap → Option (AExit × Fr × AHeap) := hide k_slices_partitionEqualCmpFunc_int_4r

theorem k_slices_partitionEqualCmpFunc_int_4_is : k_slices_partitionEqualCmpFunc_int_4 = k_slices_partitionEqualCmpFunc_int_4r := hide_eq _

theorem e_slices_partitionEqualCmpFunc_int (fuel d : Nat) (x0 : Sl) (x1 : Int) (x2 : Int) (x3 : Int) (x4f : Nat) (x4c : List Pt) (h : AHeap) :
    run fuel (d + 1) F_slices_partitionEqualCmpFunc_int [(AVal.slice x0), (AVal.int .i64 x1), (AVal.int .i64 x2), (AVal.int .i64 x3), (AVal.func x4f x4c)] h =
  (AHeap.addr h 1 x0 x3).bind fun p1 =>
    (AHeap.cell h p1).bind fun u2 =>
    (AVal.int? .i64 u2).bind fun n3 =>
    (AHeap.addr h 1 x0 x1).bind fun p4 =>
    (AHeap.cell h p4).bind fun u5 =>
    (AVal.int? .i64 u5).bind fun n6 =>
    (AHeap.addr h 1 x0 x1).bind fun p7 =>
    (AHeap.storeAt h [(AVal.int .i64 n3)] p7).bind fun h8 =>
    (AHeap.addr h8 1 x0 x3).bind fun p9 =>
    (AHeap.storeAt h8 [(AVal.int .i64 n6)] p9).bind fun h10 =>
    (l_slices_partitionEqualCmpFunc_int_0 fuel d fuel [(0, (AVal.slice x0)), (1, (AVal.int .i64 x1)), (4, (AVal.func x4f x4c)), (11, (AVal.int .i64 (IntKind.wrap .i64 (x1 + (1 : Int))))), (12, (AVal.int .i64 (IntKind.wrap .i64 (x2 - (1 : Int)))))] h10).bind fun p11 =>
    k_slices_partitionEqualCmpFunc_int_0 fuel d p11.1 p11.2.1 p11.2.2 := by
  generalize hh : run = R
  rw [run_is] at hh
  subst hh
  generalize hh : l_slices_partitionEqualCmpFunc_int_0 = R
  rw [l_slices_partitionEqualCmpFunc_int_0_is] at hh
  subst hh
  generalize hh : k_slices_partitionEqualCmpFunc_int_0 = R
  rw [k_slices_partitionEqualCmpFunc_int_0_is] at hh
  subst hh
  kernel_rfl

theorem l_slices_partitionEqualCmpFunc_int_0_eq (fuel d : Nat) (n : Nat) (x0 : Sl) (x1 : Int) (x4f : Nat) (x4c : List Pt) (x11 : Int) (x12 : Int) (h : AHeap) :
    l_slices_partitionEqualCmpFunc_int_0 fuel d (n + 1) [(0, (AVal.slice x0)), (1, (AVal.int .i64 x1)), (4, (AVal.func x4f x4c)), (11, (AVal.int .i64 x11)), (12, (AVal.int .i64 x12))] h =
  (l_slices_partitionEqualCmpFunc_int_1 fuel d fuel [(0, (AVal.slice x0)), (1, (AVal.int .i64 x1)), (4, (AVal.func x4f x4c)), (11, (AVal.int .i64 x11)), (12, (AVal.int .i64 x12))] h).bind fun p1 =>
    k_slices_partitionEqualCmpFunc_int_1 fuel d n p1.1 p1.2.1 p1.2.2 := by
  generalize hh : l_slices_partitionEqualCmpFunc_int_0 = R
  rw [l_slices_partitionEqualCmpFunc_int_0_is] at hh
  subst hh
  generalize hh : l_slices_partitionEqualCmpFunc_int_1 = R
  rw [l_slices_partitionEqualCmpFunc_int_1_is] at hh
  subst hh
  generalize hh : k_slices_partitionEqualCmpFunc_int_1 = R
  rw [k_slices_partitionEqualCmpFunc_int_1_is] at hh
  subst hh
  kernel_rfl

theorem l_slices_partitionEqualCmpFunc_int_0_0 (fuel d : Nat) (fr : Fr) (h : AHeap) :
    l_slices_partitionEqualCmpFunc_int_0 fuel d 0 fr h =
  none := by
  generalize hh : l_slices_partitionEqualCmpFunc_int_0 = R
  rw [l_slices_partitionEqualCmpFunc_int_0_is] at hh
  subst hh
  kernel_rfl

theorem k_slices_partitionEqualCmpFunc_int_0_x0 (fuel d : Nat) (x11 : Int) (h : AHeap) :
    k_slices_partitionEqualCmpFunc_int_0 fuel d (.exit 0) [(11, (AVal.int .i64 x11))] h =
  some ((AVal.int .i64 x11), h) := by
  generalize hh : k_slices_partitionEqualCmpFunc_int_0 = R
  rw [k_slices_partitionEqualCmpFunc_int_0_is] at hh
  subst hh
  kernel_rfl

theorem l_slices_partitionEqualCmpFunc_int_1_eq (fuel d : Nat) (n : Nat) (x0 : Sl) (x1 : Int) (x4f : Nat) (x4c : List Pt) (x11 : Int) (x12 : Int) (h : AHeap) :
    l_slices_partitionEqualCmpFunc_int_1 fuel d (n + 1) [(0, (AVal.slice x0)), (1, (AVal.int .i64 x1)), (4, (AVal.func x4f x4c)), (11, (AVal.int .i64 x11)), (12, (AVal.int .i64 x12))] h =
  ((bif (decide (x11 ≤ x12)) then ((AHeap.addr h 1 x0 x1).bind fun p1 =>
    (AHeap.cell h p1).bind fun u2 =>
    (AVal.int? .i64 u2).bind fun n3 =>
    (AHeap.addr h 1 x0 x11).bind fun p4 =>
    (AHeap.cell h p4).bind fun u5 =>
    (AVal.int? .i64 u5).bind fun n6 =>
    (run fuel d x4f ([(AVal.int .i64 n3), (AVal.int .i64 n6)] ++ List.map AVal.ptr x4c) h).bind fun r7 =>
    (AVal.int? .i64 r7.1).bind fun n8 =>
    some (.normal, [(0, (AVal.slice x0)), (1, (AVal.int .i64 x1)), (4, (AVal.func x4f x4c)), (11, (AVal.int .i64 x11)), (12, (AVal.int .i64 x12)), (47, (AVal.bool (!(decide (n8 < (0 : Int))))))], r7.2)) else (some (.normal, [(0, (AVal.slice x0)), (1, (AVal.int .i64 x1)), (4, (AVal.func x4f x4c)), (11, (AVal.int .i64 x11)), (12, (AVal.int .i64 x12)), (47, (AVal.bool false))], h)))).bind fun p9 =>
    k_slices_partitionEqualCmpFunc_int_2 fuel d n p9.1 p9.2.1 p9.2.2 := by
  generalize hh : run = R
  rw [run_is] at hh
  subst hh
  generalize hh : l_slices_partitionEqualCmpFunc_int_1 = R
  rw [l_slices_partitionEqualCmpFunc_int_1_is] at hh
  subst hh
  generalize hh : k_slices_partitionEqualCmpFunc_int_2 = R
  rw [k_slices_partitionEqualCmpFunc_int_2_is] at hh
  subst hh
  kernel_rfl

theorem l_slices_partitionEqualCmpFunc_int_1_0 (fuel d : Nat) (fr : Fr) (h : AHeap) :
    l_slices_partitionEqualCmpFunc_int_1 fuel d 0 fr h =
  none := by
  generalize hh : l_slices_partitionEqualCmpFunc_int_1 = R
  rw [l_slices_partitionEqualCmpFunc_int_1_is] at hh
  subst hh
  kernel_rfl

theorem k_slices_partitionEqualCmpFunc_int_1_x2 (fuel d : Nat) (n : Nat) (x0 : Sl) (x1 : Int) (x4f : Nat) (x4c : List Pt) (x11 : Int) (x12 : Int) (h : AHeap) :
    k_slices_partitionEqualCmpFunc_int_1 fuel d n (.exit 2) [(0, (AVal.slice x0)), (1, (AVal.int .i64 x1)), (4, (AVal.func x4f x4c)), (11, (AVal.int .i64 x11)), (12, (AVal.int .i64 x12))] h =
  (l_slices_partitionEqualCmpFunc_int_2 fuel d fuel [(0, (AVal.slice x0)), (1, (AVal.int .i64 x1)), (4, (AVal.func x4f x4c)), (11, (AVal.int .i64 x11)), (12, (AVal.int .i64 x12))] h).bind fun p1 =>
    k_slices_partitionEqualCmpFunc_int_3 fuel d n p1.1 p1.2.1 p1.2.2 := by
  generalize hh : k_slices_partitionEqualCmpFunc_int_1 = R
  rw [k_slices_partitionEqualCmpFunc_int_1_is] at hh
  subst hh
  generalize hh : l_slices_partitionEqualCmpFunc_int_2 = R
  rw [l_slices_partitionEqualCmpFunc_int_2_is] at hh
  subst hh
  generalize hh : k_slices_partitionEqualCmpFunc_int_3 = R
  rw [k_slices_partitionEqualCmpFunc_int_3_is] at hh
  subst hh
  kernel_rfl

theorem k_slices_partitionEqualCmpFunc_int_2_n (fuel d : Nat) (n : Nat) (x0 : Sl) (x1 : Int) (x4f : Nat) (x4c : List Pt) (x11 : Int) (x12 : Int) (x47 : Bool) (h : AHeap) :
    k_slices_partitionEqualCmpFunc_int_2 fuel d n .normal [(0, (AVal.slice x0)), (1, (AVal.int .i64 x1)), (4, (AVal.func x4f x4c)), (11, (AVal.int .i64 x11)), (12, (AVal.int .i64 x12)), (47, (AVal.bool x47))] h =
  (bif x47 then (l_slices_partitionEqualCmpFunc_int_1 fuel d n [(0, (AVal.slice x0)), (1, (AVal.int .i64 x1)), (4, (AVal.func x4f x4c)), (11, (AVal.int .i64 (IntKind.wrap .i64 (x11 + (1 : Int))))), (12, (AVal.int .i64 x12))] h) else (some ((.exit 2), [(0, (AVal.slice x0)), (1, (AVal.int .i64 x1)), (4, (AVal.func x4f x4c)), (11, (AVal.int .i64 x11)), (12, (AVal.int .i64 x12))], h))) := by
  generalize hh : l_slices_partitionEqualCmpFunc_int_1 = R
  rw [l_slices_partitionEqualCmpFunc_int_1_is] at hh
  subst hh
  generalize hh : k_slices_partitionEqualCmpFunc_int_2 = R
  rw [k_slices_partitionEqualCmpFunc_int_2_is] at hh
  subst hh
  kernel_rfl

theorem l_slices_partitionEqualCmpFunc_int_2_eq (fuel d : Nat) (n : Nat) (x0 : Sl) (x1 : Int) (x4f : Nat) (x4c : List Pt) (x11 : Int) (x12 : Int) (h : AHeap) :
    l_slices_partitionEqualCmpFunc_int_2 fuel d (n + 1) [(0, (AVal.slice x0)), (1, (AVal.int .i64 x1)), (4, (AVal.func x4f x4c)), (11, (AVal.int .i64 x11)), (12, (AVal.int .i64 x12))] h =
  ((bif (decide (x11 ≤ x12)) then ((AHeap.addr h 1 x0 x1).bind fun p1 =>
    (AHeap.cell h p1).bind fun u2 =>
    (AVal.int? .i64 u2).bind fun n3 =>
    (AHeap.addr h 1 x0 x12).bind fun p4 =>
    (AHeap.cell h p4).bind fun u5 =>
    (AVal.int? .i64 u5).bind fun n6 =>
    (run fuel d x4f ([(AVal.int .i64 n3), (AVal.int .i64 n6)] ++ List.map AVal.ptr x4c) h).bind fun r7 =>
    (AVal.int? .i64 r7.1).bind fun n8 =>
    some (.normal, [(0, (AVal.slice x0)), (1, (AVal.int .i64 x1)), (4, (AVal.func x4f x4c)), (11, (AVal.int .i64 x11)), (12, (AVal.int .i64 x12)), (65, (AVal.bool (decide (n8 < (0 : Int)))))], r7.2)) else (some (.normal, [(0, (AVal.slice x0)), (1, (AVal.int .i64 x1)), (4, (AVal.func x4f x4c)), (11, (AVal.int .i64 x11)), (12, (AVal.int .i64 x12)), (65, (AVal.bool false))], h)))).bind fun p9 =>
    k_slices_partitionEqualCmpFunc_int_4 fuel d n p9.1 p9.2.1 p9.2.2 := by
  generalize hh : run = R
  rw [run_is] at hh
  subst hh
  generalize hh : l_slices_partitionEqualCmpFunc_int_2 = R
  rw [l_slices_partitionEqualCmpFunc_int_2_is] at hh
  subst hh
  generalize hh : k_slices_partitionEqualCmpFunc_int_4 = R
  rw [k_slices_partitionEqualCmpFunc_int_4_is] at hh
  subst hh
  kernel_rfl

theorem l_slices_partitionEqualCmpFunc_int_2_0 (fuel d : Nat) (fr : Fr) (h : AHeap) :
    l_slices_partitionEqualCmpFunc_int_2 fuel d 0 fr h =
  none := by
  generalize hh : l_slices_partitionEqualCmpFunc_int_2 = R
  rw [l_slices_partitionEqualCmpFunc_int_2_is] at hh
  subst hh
  kernel_rfl

theorem k_slices_partitionEqualCmpFunc_int_3_x4 (fuel d : Nat) (n : Nat) (x0 : Sl) (x1 : Int) (x4f : Nat) (x4c : List Pt) (x11 : Int) (x12 : Int) (h : AHeap) :
    k_slices_partitionEqualCmpFunc_int_3 fuel d n (.exit 4) [(0, (AVal.slice x0)), (1, (AVal.int .i64 x1)), (4, (AVal.func x4f x4c)), (11, (AVal.int .i64 x11)), (12, (AVal.int .i64 x12))] h =
  (bif (decide (x12 < x11)) then (some ((.exit 0), [(11, (AVal.int .i64 x11))], h)) else ((AHeap.addr h 1 x0 x12).bind fun p1 =>
    (AHeap.cell h p1).bind fun u2 =>
    (AVal.int? .i64 u2).bind fun n3 =>
    (AHeap.addr h 1 x0 x11).bind fun p4 =>
    (AHeap.cell h p4).bind fun u5 =>
    (AVal.int? .i64 u5).bind fun n6 =>
    (AHeap.addr h 1 x0 x11).bind fun p7 =>
    (AHeap.storeAt h [(AVal.int .i64 n3)] p7).bind fun h8 =>
    (AHeap.addr h8 1 x0 x12).bind fun p9 =>
    (AHeap.storeAt h8 [(AVal.int .i64 n6)] p9).bind fun h10 =>
    l_slices_partitionEqualCmpFunc_int_0 fuel d n [(0, (AVal.slice x0)), (1, (AVal.int .i64 x1)), (4, (AVal.func x4f x4c)), (11, (AVal.int .i64 (IntKind.wrap .i64 (x11 + (1 : Int))))), (12, (AVal.int .i64 (IntKind.wrap .i64 (x12 - (1 : Int)))))] h10)) := by
  generalize hh : l_slices_partitionEqualCmpFunc_int_0 = R
  rw [l_slices_partitionEqualCmpFunc_int_0_is] at hh
  subst hh
  generalize hh : k_slices_partitionEqualCmpFunc_int_3 = R
  rw [k_slices_partitionEqualCmpFunc_int_3_is] at hh
  subst hh
  kernel_rfl

theorem k_slices_partitionEqualCmpFunc_int_4_n (fuel d : Nat) (n : Nat) (x0 : Sl) (x1 : Int) (x4f : Nat) (x4c : List Pt) (x11 : Int) (x12 : Int) (x65 : Bool) (h : AHeap) :
    k_slices_partitionEqualCmpFunc_int_4 fuel d n .normal [(0, (AVal.slice x0)), (1, (AVal.int .i64 x1)), (4, (AVal.func x4f x4c)), (11, (AVal.int .i64 x11)), (12, (AVal.int .i64 x12)), (65, (AVal.bool x65))] h =
  (bif x65 then (l_slices_partitionEqualCmpFunc_int_2 fuel d n [(0, (AVal.slice x0)), (1, (AVal.int .i64 x1)), (4, (AVal.func x4f x4c)), (11, (AVal.int .i64 x11)), (12, (AVal.int .i64 (IntKind.wrap .i64 (x12 - (1 : Int)))))] h) else (some ((.exit 4), [(0, (AVal.slice x0)), (1, (AVal.int .i64 x1)), (4, (AVal.func x4f x4c)), (11, (AVal.int .i64 x11)), (12, (AVal.int .i64 x12))], h))) := by
  generalize hh : l_slices_partitionEqualCmpFunc_int_2 = R
  rw [l_slices_partitionEqualCmpFunc_int_2_is] at hh
  subst hh
  generalize hh : k_slices_partitionEqualCmpFunc_int_4 = R
  rw [k_slices_partitionEqualCmpFunc_int_4_is] at hh
  subst hh
  kernel_rfl

/-! 128: slices.partitionCmpFunc[int] -/

noncomputable def s_slices_partitionCmpFunc_int_0 (fuel d : Nat) : Run := fun fr h k => aexec (Cf fuel F_slices_partitionCmpFunc_int) false (acall (C fuel) false d) (acall (C fuel) true d) 178 (csub [true, true, true, false, false, false] (fbody Go.Proofs.Tryd.f128)) (asub [true, true, true, false, false, false] an128) fr h k

noncomputable def l_slices_partitionCmpFunc_int_0r (fuel d : Nat) (n : Nat) (fr : Fr) (h : AHeap) : Option (AExit × Fr × AHeap) := aloop (s_slices_partitionCmpFunc_int_0 fuel d) (some [0, 1, 4, 12, 13]) n fr h (kOut [0, 1, 4, 12, 13])

noncomputable def l_slices_partitionCmpFunc_int_0 : Nat → Nat → Nat → Fr → AHeap → Option (AExit × Fr × AHeap) := hide l_slices_partitionCmpFunc_int_0r

theorem l_slices_partitionCmpFunc_int_0_is : l_slices_partitionCmpFunc_int_0 = l_slices_partitionCmpFunc_int_0r := hide_eq _

noncomputable def k_slices_partitionCmpFunc_int_0r (fuel d : Nat) : AExit → Fr → AHeap → Option (AVal × AHeap) := (kBlock 0 (kSeq (Cf fuel F_slices_partitionCmpFunc_int) false (acall (C fuel) false d) (acall (C fuel) true d) 178 (csub [true, true, true, true] (fbody Go.Proofs.Tryd.f128)) (asub [true, true, true, true] an128) (kRet (Cf fuel F_slices_partitionCmpFunc_int) Go.Proofs.Tryd.f128.results.toList)))

noncomputable def k_slices_partitionCmpFunc_int_0 : Nat → Nat → AExit → Fr → AHeap → Option (AVal × AHeap) := hide k_slices_partitionCmpFunc_int_0r

theorem k_slices_partitionCmpFunc_int_0_is : k_slices_partitionCmpFunc_int_0 = k_slices_partitionCmpFunc_int_0r := hide_eq _

noncomputable def k_slices_partitionCmpFunc_int_1r (fuel d : Nat) (n : Nat) : AExit → Fr → AHeap → Option (AExit × Fr × AHeap) := (kSeq (Cf fuel F_slices_partitionCmpFunc_int) false (acall (C fuel) false d) (acall (C fuel) true d) 178 (csub [true, true, true, false, false, false, false, true] (fbody Go.Proofs.Tryd.f128)) (asub [true, true, true, false, false, false, false, true] an128) (kSeq (Cf fuel F_slices_partitionCmpFunc_int) false (acall (C fuel) false d) (acall (C fuel) true d) 178 (csub [true, true, true, false, false, false, true] (fbody Go.Proofs.Tryd.f128)) (asub [true, true, true, false, false, false, true] an128) (kLoop (s_slices_partitionCmpFunc_int_0 fuel d) (some [0, 1, 4, 12, 13]) n (kOut [0, 1, 4, 12, 13]))))

noncomputable def k_slices_partitionCmpFunc_int_1 : Nat → Nat → Nat → AExit → Fr → AHeap → Option (AExit × Fr × AHeap) := hide k_slices_partitionCmpFunc_int_1r

theorem k_slices_partitionCmpFunc_int_1_is : k_slices_partitionCmpFunc_int_1 = k_slices_partitionCmpFunc_int_1r := hide_eq _

noncomputable def s_slices_partitionCmpFunc_int_1 (fuel d : Nat) : Run := fun fr h k => aexec (Cf fuel F_slices_partitionCmpFunc_int) false (acall (C fuel) false d) (acall (C fuel) true d) 178 (csub [true, true, true, true, false, false, false] (fbody Go.Proofs.Tryd.f128)) (asub [true, true, true, true, false, false, false] an128) fr h k

noncomputable def l_slices_partitionCmpFunc_int_1r (fuel d : Nat) (n : Nat) (fr : Fr) (h : AHeap) : Option (AExit × Fr × AHeap) := aloop (s_slices_partitionCmpFunc_int_1 fuel d) (some [0, 1, 4, 12, 13]) n fr h (kOut [0, 1, 4, 12, 13])

noncomputable def l_slices_partitionCmpFunc_int_1 : Nat → Nat → Nat → Fr → AHeap → Option (AExit × Fr × AHeap) := hide l_slices_partitionCmpFunc_int_1r

theorem l_slices_partitionCmpFunc_int_1_is : l_slices_partitionCmpFunc_int_1 = l_slices_partitionCmpFunc_int_1r := hide_eq _

noncomputable def k_slices_partitionCmpFunc_int_2r (fuel d : Nat) : AExit → Fr → AHeap → Option (AVal × AHeap) := (kBlock 2 (kSeq (Cf fuel F_slices_partitionCmpFunc_int) false (acall (C fuel) false d) (acall (C fuel) true d) 178 (csub [true, true, true, true, true] (fbody Go.Proofs.Tryd.f128)) (asub [true, true, true, true, true] an128) (kRet (Cf fuel F_slices_partitionCmpFunc_int) Go.Proofs.Tryd.f128.results.toList)))

noncomputable def k_slices_partitionCmpFunc_int_2 : Nat → Nat → AExit → Fr → AHeap → Option (AVal × AHeap) := hide k_slices_partitionCmpFunc_int_2r

theorem k_slices_partitionCmpFunc_int_2_is : k_slices_partitionCmpFunc_int_2 = k_slices_partitionCmpFunc_int_2r := hide_eq _

noncomputable def k_slices_partitionCmpFunc_int_3r (fuel d : Nat) (n : Nat) : AExit → Fr → AHeap → Option (AExit × Fr × AHeap) := (kSeq (Cf fuel F_slices_partitionCmpFunc_int) false (acall (C fuel) false d) (acall (C fuel) true d) 178 (csub [true, true, true, true, false, false, false, false, true] (fbody Go.Proofs.Tryd.f128)) (asub [true, true, true, true, false, false, false, false, true] an128) (kSeq (Cf fuel F_slices_partitionCmpFunc_int) false (acall (C fuel) false d) (acall (C fuel) true d) 178 (csub [true, true, true, true, false, false, false, true] (fbody Go.Proofs.Tryd.f128)) (asub [true, true, true, true, false, false, false, true] an128) (kLoop (s_slices_partitionCmpFunc_int_1 fuel d) (some [0, 1, 4, 12, 13]) n (kOut [0, 1, 4, 12, 13]))))

noncomputable def k_slices_partitionCmpFunc_int_3 : Nat → Nat → Nat → AExit → Fr → AHeap → Option (AExit × Fr × AHeap) := hide k_slices_partitionCmpFunc_int_3r

theorem k_slices_partitionCmpFunc_int_3_is : k_slices_partitionCmpFunc_int_3 = k_slices_partitionCmpFunc_int_3r := hide_eq _

noncomputable def s_slices_partitionCmpFunc_int_2 (fuel d : Nat) : Run := fun fr h k => aexec (Cf fuel F_slices_partitionCmpFunc_int) false (acall (C fuel) false d) (acall (C fuel) true d) 178 (csub [true, true, true, true, true, true, true, true, true, false, false, false] (fbody Go.Proofs.Tryd.f128)) (asub [true, true, true, true, true, true, true, true, true, false, false, false] an128) fr h k

noncomputable def l_slices_partitionCmpFunc_int_2r (fuel d : Nat) (n : Nat) (fr : Fr) (h : AHeap) : Option (AExit × Fr × AHeap) := aloop (s_slices_partitionCmpFunc_int_2 fuel d) (some [0, 1, 4, 12, 13]) n fr h (kOut [0, 1, 13])

noncomputable def l_slices_partitionCmpFunc_int_2 : Nat → Nat → Nat → Fr → AHeap → Option (AExit × Fr × AHeap) := hide l_slices_partitionCmpFunc_int_2r

theorem l_slices_partitionCmpFunc_int_2_is : l_slices_partitionCmpFunc_int_2 = l_slices_partitionCmpFunc_int_2r := hide_eq _

noncomputable def k_slices_partitionCmpFunc_int_4r (fuel d : Nat) : AExit → Fr → AHeap → Option (AVal × AHeap) := (kBlock 4 (kSeq (Cf fuel F_slices_partitionCmpFunc_int) false (acall (C fuel) false d) (acall (C fuel) true d) 178 (csub [true, true, true, true, true, true, true, true, true, true] (fbody Go.Proofs.Tryd.f128)) (asub [true, true, true, true, true, true, true, true, true, true] an128) (kRet (Cf fuel F_slices_partitionCmpFunc_int) Go.Proofs.Tryd.f128.results.toList)))

noncomputable def k_slices_partitionCmpFunc_int_4 : Nat → Nat → AExit → Fr → AHeap → Option (AVal × AHeap) := hide k_slices_partitionCmpFunc_int_4r

theorem k_slices_partitionCmpFunc_int_4_is : k_slices_partitionCmpFunc_int_4 = k_slices_partitionCmpFunc_int_4r := hide_eq _

noncomputable def s_slices_partitionCmpFunc_int_3 (fuel d : Nat) : Run := fun fr h k => aexec (Cf fuel F_slices_partitionCmpFunc_int) false (acall (C fuel) false d) (acall (C fuel) true d) 178 (csub [true, true, true, true, true, true, true, true, true, false, false, false, false, false, false, false] (fbody Go.Proofs.Tryd.f128)) (asub [true, true, true, true, true, true, true, true, true, false, false, false, false, false, false, false] an128) fr h k

noncomputable def l_slices_partitionCmpFunc_int_3r (fuel d : Nat) (n : Nat) (fr : Fr) (h : AHeap) : Option (AExit × Fr × AHeap) := aloop (s_slices_partitionCmpFunc_int_3 fuel d) (some [0, 1, 4, 12, 13]) n fr h (kOut [0, 1, 4, 12, 13])

noncomputable def l_slices_partitionCmpFunc_int_3 : Nat → Nat → Nat → Fr → AHeap → Option (AExit × Fr × AHeap) := hide l_slices_partitionCmpFunc_int_3r

theorem l_slices_partitionCmpFunc_int_3_is : l_slices_partitionCmpFunc_int_3 = l_slices_partitionCmpFunc_int_3r := hide_eq _

noncomputable def k_slices_partitionCmpFunc_int_5r (fuel d : Nat) (n : Nat) : AExit → Fr → AHeap → Option (AExit × Fr × AHeap) := (kBlock 6 (kSeq (Cf fuel F_slices_partitionCmpFunc_int) false (acall (C fuel) false d) (acall (C fuel) true d) 178 (csub [true, true, true, true, true, true, true, true, true, false, false, false, false, true] (fbody Go.Proofs.Tryd.f128)) (asub [true, true, true, true, true, true, true, true, true, false, false, false, false, true] an128) (kBlock 5 (kLoop (s_slices_partitionCmpFunc_int_2 fuel d) (some [0, 1, 4, 12, 13]) n (kOut [0, 1, 13])))))

noncomputable def k_slices_partitionCmpFunc_int_5 : Nat → Nat → Nat → AExit → Fr → AHeap → Option (AExit × Fr × AHeap) := hide k_slices_partitionCmpFunc_int_5r

theorem k_slices_partitionCmpFunc_int_5_is : k_slices_partitionCmpFunc_int_5 = k_slices_partitionCmpFunc_int_5r := hide_eq _

noncomputable def k_slices_partitionCmpFunc_int_6r (fuel d : Nat) (n : Nat) : AExit → Fr → AHeap → Option (AExit × Fr × AHeap) := (kSeq (Cf fuel F_slices_partitionCmpFunc_int) false (acall (C fuel) false d) (acall (C fuel) true d) 178 (csub [true, true, true, true, true, true, true, true, true, false, false, false, false, false, false, false, false, true] (fbody Go.Proofs.Tryd.f128)) (asub [true, true, true, true, true, true, true, true, true, false, false, false, false, false, false, false, false, true] an128) (kSeq (Cf fuel F_slices_partitionCmpFunc_int) false (acall (C fuel) false d) (acall (C fuel) true d) 178 (csub [true, true, true, true, true, true, true, true, true, false, false, false, false, false, false, false, true] (fbody Go.Proofs.Tryd.f128)) (asub [true, true, true, true, true, true, true, true, true, false, false, false, false, false, false, false, true] an128) (kLoop (s_slices_partitionCmpFunc_int_3 fuel d) (some [0, 1, 4, 12, 13]) n (kOut [0, 1, 4, 12, 13]))))

noncomputable def k_slices_partitionCmpFunc_int_6 : Nat → Nat → Nat → AExit → Fr → AHeap → Option (AExit × Fr × AHeap) := hide k_slices_partitionCmpFunc_int_6r

theorem k_slices_partitionCmpFunc_int_6_is : k_slices_partitionCmpFunc_int_6 = k_slices_partitionCmpFunc_int_6r := hide_eq _

noncomputable def s_slices_partitionCmpFunc_int_4 (fuel d : Nat) : Run := fun fr h k => aexec (Cf fuel F_slices_partitionCmpFunc_int) false (acall (C fuel) false d) (acall (C fuel) true d) 178 (csub [true, true, true, true, true, true, true, true, true, false, false, false, false, true, false, false, false] (fbody Go.Proofs.Tryd.f128)) (asub [true, true, true, true, true, true, true, true, true, false, false, false, false, true, false, false, false] an128) fr h k

noncomputable def l_slices_partitionCmpFunc_int_4r (fuel d : Nat) (n : Nat) (fr : Fr) (h : AHeap) : Option (AExit × Fr × AHeap) := aloop (s_slices_partitionCmpFunc_int_4 fuel d) (some [0, 1, 4, 12, 13]) n fr h (kOut [0, 1, 4, 12, 13])

noncomputable def l_slices_partitionCmpFunc_int_4 : Nat → Nat → Nat → Fr → AHeap → Option (AExit × Fr × AHeap) := hide l_slices_partitionCmpFunc_int_4r

theorem l_slices_partitionCmpFunc_int_4_is : l_slices_partitionCmpFunc_int_4 = l_slices_partitionCmpFunc_int_4r := hide_eq _

noncomputable def k_slices_partitionCmpFunc_int_7r (fuel d : Nat) (n : Nat) : AExit → Fr → AHeap → Option (AExit × Fr × AHeap) := (kBlock 8 (kSeq (Cf fuel F_slices_partitionCmpFunc_int) false (acall (C fuel) false d) (acall (C fuel) true d) 178 (csub [true, true, true, true, true, true, true, true, true, false, false, false, false, true, true] (fbody Go.Proofs.Tryd.f128)) (asub [true, true, true, true, true, true, true, true, true, false, false, false, false, true, true] an128) (kBlock 5 (kLoop (s_slices_partitionCmpFunc_int_2 fuel d) (some [0, 1, 4, 12, 13]) n (kOut [0, 1, 13])))))

noncomputable def k_slices_partitionCmpFunc_int_7 : Nat → Nat → Nat → AExit → Fr → AHeap → Option (AExit × Fr × AHeap) := hide k_slices_partitionCmpFunc_int_7r

theorem k_slices_partitionCmpFunc_int_7_is : k_slices_partitionCmpFunc_int_7 = k_slices_partitionCmpFunc_int_7r := hide_eq _

noncomputable def k_slices_partitionCmpFunc_int_8r (fuel d : Nat) (n : Nat) : AExit → Fr → AHeap → Option (AExit × Fr × AHeap) := (kSeq (Cf fuel F_slices_partitionCmpFunc_int) false (acall (C fuel) false d) (acall (C fuel) true d) 178 (csub [true, true, true, true, true, true, true, true, true, false, false, false, false, true, false, false, false, false, true] (fbody Go.Proofs.Tryd.f128)) (asub [true, true, true, true, true, true, true, true, true, false, false, false, false, true, false, false, false, false, true] an128) (kSeq (Cf fuel F_slices_partitionCmpFunc_int) false (acall (C fuel) false d) (acall (C fuel) true d) 178 (csub [true, true, true, true, true, true, true, true, true, false, false, false, false, true, false, false, false, true] (fbody Go.Proofs.Tryd.f128)) (asub [true, true, true, true, true, true, true, true, true, false, false, false, false, true, false, false, false, true] an128) (kLoop (s_slices_partitionCmpFunc_int_4 fuel d) (some [0, 1, 4, 12, 13]) n (kOut [0, 1, 4, 12, 13]))))

noncomputable def k_slices_partitionCmpFunc_int_8 : Nat → Nat → Nat → AExit → Fr → AHeap → Option (AExit × Fr × AHeap) := hide k_slices_partitionCmpFunc_int_8r

theorem k_slices_partitionCmpFunc_int_8_is : k_slices_partitionCmpFunc_int_8 = k_slices_partitionCmpFunc_int_8r := hide_eq _

theorem e_slices_partitionCmpFunc_int (fuel d : Nat) (x0 : Sl) (x1 : Int) (x2 : Int) (x3 : Int) (x4f : Nat) (x4c : List Pt) (h : AHeap) :
    run fuel (d + 1) F_slices_partitionCmpFunc_int [(AVal.slice x0), (AVal.int .i64 x1), (AVal.int .i64 x2), (AVal.int .i64 x3), (AVal.func x4f x4c)] h =
  (AHeap.addr h 1 x0 x3).bind fun p1 =>
    (AHeap.cell h p1).bind fun u2 =>
    (AVal.int? .i64 u2).bind fun n3 =>
    (AHeap.addr h 1 x0 x1).bind fun p4 =>
    (AHeap.cell h p4).bind fun u5 =>
    (AVal.int? .i64 u5).bind fun n6 =>
    (AHeap.addr h 1 x0 x1).bind fun p7 =>
    (AHeap.storeAt h [(AVal.int .i64 n3)] p7).bind fun h8 =>
    (AHeap.addr h8 1 x0 x3).bind fun p9 =>
    (AHeap.storeAt h8 [(AVal.int .i64 n6)] p9).bind fun h10 =>
    (l_slices_partitionCmpFunc_int_0 fuel d fuel [(0, (AVal.slice x0)), (1, (AVal.int .i64 x1)), (4, (AVal.func x4f x4c)), (12, (AVal.int .i64 (IntKind.wrap .i64 (x1 + (1 : Int))))), (13, (AVal.int .i64 (IntKind.wrap .i64 (x2 - (1 : Int)))))] h10).bind fun p11 =>
    k_slices_partitionCmpFunc_int_0 fuel d p11.1 p11.2.1 p11.2.2 := by
  generalize hh : run = R
  rw [run_is] at hh
  subst hh
  generalize hh : l_slices_partitionCmpFunc_int_0 = R
  rw [l_slices_partitionCmpFunc_int_0_is] at hh
  subst hh
  generalize hh : k_slices_partitionCmpFunc_int_0 = R
  rw [k_slices_partitionCmpFunc_int_0_is] at hh
  subst hh
  kernel_rfl

theorem l_slices_partitionCmpFunc_int_0_eq (fuel d : Nat) (n : Nat) (x0 : Sl) (x1 : Int) (x4f : Nat) (x4c : List Pt) (x12 : Int) (x13 : Int) (h : AHeap) :
    l_slices_partitionCmpFunc_int_0 fuel d (n + 1) [(0, (AVal.slice x0)), (1, (AVal.int .i64 x1)), (4, (AVal.func x4f x4c)), (12, (AVal.int .i64 x12)), (13, (AVal.int .i64 x13))] h =
  ((bif (decide (x12 ≤ x13)) then ((AHeap.addr h 1 x0 x12).bind fun p1 =>
    (AHeap.cell h p1).bind fun u2 =>
    (AVal.int? .i64 u2).bind fun n3 =>
    (AHeap.addr h 1 x0 x1).bind fun p4 =>
    (AHeap.cell h p4).bind fun u5 =>
    (AVal.int? .i64 u5).bind fun n6 =>
    (run fuel d x4f ([(AVal.int .i64 n3), (AVal.int .i64 n6)] ++ List.map AVal.ptr x4c) h).bind fun r7 =>
    (AVal.int? .i64 r7.1).bind fun n8 =>
    some (.normal, [(0, (AVal.slice x0)), (1, (AVal.int .i64 x1)), (4, (AVal.func x4f x4c)), (12, (AVal.int .i64 x12)), (13, (AVal.int .i64 x13)), (47, (AVal.bool (decide (n8 < (0 : Int)))))], r7.2)) else (some (.normal, [(0, (AVal.slice x0)), (1, (AVal.int .i64 x1)), (4, (AVal.func x4f x4c)), (12, (AVal.int .i64 x12)), (13, (AVal.int .i64 x13)), (47, (AVal.bool false))], h)))).bind fun p9 =>
    k_slices_partitionCmpFunc_int_1 fuel d n p9.1 p9.2.1 p9.2.2 := by
  generalize hh : run = R
  rw [run_is] at hh
  subst hh
  generalize hh : l_slices_partitionCmpFunc_int_0 = R
  rw [l_slices_partitionCmpFunc_int_0_is] at hh
  subst hh
  generalize hh : k_slices_partitionCmpFunc_int_1 = R
  rw [k_slices_partitionCmpFunc_int_1_is] at hh
  subst hh
  kernel_rfl

theorem l_slices_partitionCmpFunc_int_0_0 (fuel d : Nat) (fr : Fr) (h : AHeap) :
    l_slices_partitionCmpFunc_int_0 fuel d 0 fr h =
  none := by
  generalize hh : l_slices_partitionCmpFunc_int_0 = R
  rw [l_slices_partitionCmpFunc_int_0_is] at hh
  subst hh
  kernel_rfl

theorem k_slices_partitionCmpFunc_int_0_x0 (fuel d : Nat) (x0 : Sl) (x1 : Int) (x4f : Nat) (x4c : List Pt) (x12 : Int) (x13 : Int) (h : AHeap) :
    k_slices_partitionCmpFunc_int_0 fuel d (.exit 0) [(0, (AVal.slice x0)), (1, (AVal.int .i64 x1)), (4, (AVal.func x4f x4c)), (12, (AVal.int .i64 x12)), (13, (AVal.int .i64 x13))] h =
  (l_slices_partitionCmpFunc_int_1 fuel d fuel [(0, (AVal.slice x0)), (1, (AVal.int .i64 x1)), (4, (AVal.func x4f x4c)), (12, (AVal.int .i64 x12)), (13, (AVal.int .i64 x13))] h).bind fun p1 =>
    k_slices_partitionCmpFunc_int_2 fuel d p1.1 p1.2.1 p1.2.2 := by
  generalize hh : k_slices_partitionCmpFunc_int_0 = R
  rw [k_slices_partitionCmpFunc_int_0_is] at hh
  subst hh
  generalize hh : l_slices_partitionCmpFunc_int_1 = R
  rw [l_slices_partitionCmpFunc_int_1_is] at hh
  subst hh
  generalize hh : k_slices_partitionCmpFunc_int_2 = R
  rw [k_slices_partitionCmpFunc_int_2_is] at hh
  subst hh
  kernel_rfl

theorem k_slices_partitionCmpFunc_int_1_n (fuel d : Nat) (n : Nat) (x0 : Sl) (x1 : Int) (x4f : Nat) (x4c : List Pt) (x12 : Int) (x13 : Int) (x47 : Bool) (h : AHeap) :
    k_slices_partitionCmpFunc_int_1 fuel d n .normal [(0, (AVal.slice x0)), (1, (AVal.int .i64 x1)), (4, (AVal.func x4f x4c)), (12, (AVal.int .i64 x12)), (13, (AVal.int .i64 x13)), (47, (AVal.bool x47))] h =
  (bif x47 then (l_slices_partitionCmpFunc_int_0 fuel d n [(0, (AVal.slice x0)), (1, (AVal.int .i64 x1)), (4, (AVal.func x4f x4c)), (12, (AVal.int .i64 (IntKind.wrap .i64 (x12 + (1 : Int))))), (13, (AVal.int .i64 x13))] h) else (some ((.exit 0), [(0, (AVal.slice x0)), (1, (AVal.int .i64 x1)), (4, (AVal.func x4f x4c)), (12, (AVal.int .i64 x12)), (13, (AVal.int .i64 x13))], h))) := by
  generalize hh : l_slices_partitionCmpFunc_int_0 = R
  rw [l_slices_partitionCmpFunc_int_0_is] at hh
  subst hh
  generalize hh : k_slices_partitionCmpFunc_int_1 = R
  rw [k_slices_partitionCmpFunc_int_1_is] at hh
  subst hh
  kernel_rfl

theorem l_slices_partitionCmpFunc_int_1_eq (fuel d : Nat) (n : Nat) (x0 : Sl) (x1 : Int) (x4f : Nat) (x4c : List Pt) (x12 : Int) (x13 : Int) (h : AHeap) :
    l_slices_partitionCmpFunc_int_1 fuel d (n + 1) [(0, (AVal.slice x0)), (1, (AVal.int .i64 x1)), (4, (AVal.func x4f x4c)), (12, (AVal.int .i64 x12)), (13, (AVal.int .i64 x13))] h =
  ((bif (decide (x12 ≤ x13)) then ((AHeap.addr h 1 x0 x13).bind fun p1 =>
    (AHeap.cell h p1).bind fun u2 =>
    (AVal.int? .i64 u2).bind fun n3 =>
    (AHeap.addr h 1 x0 x1).bind fun p4 =>
    (AHeap.cell h p4).bind fun u5 =>
    (AVal.int? .i64 u5).bind fun n6 =>
    (run fuel d x4f ([(AVal.int .i64 n3), (AVal.int .i64 n6)] ++ List.map AVal.ptr x4c) h).bind fun r7 =>
    (AVal.int? .i64 r7.1).bind fun n8 =>
    some (.normal, [(0, (AVal.slice x0)), (1, (AVal.int .i64 x1)), (4, (AVal.func x4f x4c)), (12, (AVal.int .i64 x12)), (13, (AVal.int .i64 x13)), (66, (AVal.bool (!(decide (n8 < (0 : Int))))))], r7.2)) else (some (.normal, [(0, (AVal.slice x0)), (1, (AVal.int .i64 x1)), (4, (AVal.func x4f x4c)), (12, (AVal.int .i64 x12)), (13, (AVal.int .i64 x13)), (66, (AVal.bool false))], h)))).bind fun p9 =>
    k_slices_partitionCmpFunc_int_3 fuel d n p9.1 p9.2.1 p9.2.2 := by
  generalize hh : run = R
  rw [run_is] at hh
  subst hh
  generalize hh : l_slices_partitionCmpFunc_int_1 = R
  rw [l_slices_partitionCmpFunc_int_1_is] at hh
  subst hh
  generalize hh : k_slices_partitionCmpFunc_int_3 = R
  rw [k_slices_partitionCmpFunc_int_3_is] at hh
  subst hh
  kernel_rfl

theorem l_slices_partitionCmpFunc_int_1_0 (fuel d : Nat) (fr : Fr) (h : AHeap) :
    l_slices_partitionCmpFunc_int_1 fuel d 0 fr h =
  none := by
  generalize hh : l_slices_partitionCmpFunc_int_1 = R
  rw [l_slices_partitionCmpFunc_int_1_is] at hh
  subst hh
  kernel_rfl

theorem k_slices_partitionCmpFunc_int_2_x2 (fuel d : Nat) (x0 : Sl) (x1 : Int) (x4f : Nat) (x4c : List Pt) (x12 : Int) (x13 : Int) (h : AHeap) :
    k_slices_partitionCmpFunc_int_2 fuel d (.exit 2) [(0, (AVal.slice x0)), (1, (AVal.int .i64 x1)), (4, (AVal.func x4f x4c)), (12, (AVal.int .i64 x12)), (13, (AVal.int .i64 x13))] h =
  (bif (decide (x13 < x12)) then ((AHeap.addr h 1 x0 x1).bind fun p1 =>
    (AHeap.cell h p1).bind fun u2 =>
    (AVal.int? .i64 u2).bind fun n3 =>
    (AHeap.addr h 1 x0 x13).bind fun p4 =>
    (AHeap.cell h p4).bind fun u5 =>
    (AVal.int? .i64 u5).bind fun n6 =>
    (AHeap.addr h 1 x0 x13).bind fun p7 =>
    (AHeap.storeAt h [(AVal.int .i64 n3)] p7).bind fun h8 =>
    (AHeap.addr h8 1 x0 x1).bind fun p9 =>
    (AHeap.storeAt h8 [(AVal.int .i64 n6)] p9).bind fun h10 =>
    some ((AVal.tup [(AVal.int .i64 x13), (AVal.bool true)]), h10)) else ((AHeap.addr h 1 x0 x13).bind fun p11 =>
    (AHeap.cell h p11).bind fun u12 =>
    (AVal.int? .i64 u12).bind fun n13 =>
    (AHeap.addr h 1 x0 x12).bind fun p14 =>
    (AHeap.cell h p14).bind fun u15 =>
    (AVal.int? .i64 u15).bind fun n16 =>
    (AHeap.addr h 1 x0 x12).bind fun p17 =>
    (AHeap.storeAt h [(AVal.int .i64 n13)] p17).bind fun h18 =>
    (AHeap.addr h18 1 x0 x13).bind fun p19 =>
    (AHeap.storeAt h18 [(AVal.int .i64 n16)] p19).bind fun h20 =>
    (l_slices_partitionCmpFunc_int_2 fuel d fuel [(0, (AVal.slice x0)), (1, (AVal.int .i64 x1)), (4, (AVal.func x4f x4c)), (12, (AVal.int .i64 (IntKind.wrap .i64 (x12 + (1 : Int))))), (13, (AVal.int .i64 (IntKind.wrap .i64 (x13 - (1 : Int)))))] h20).bind fun p21 =>
    k_slices_partitionCmpFunc_int_4 fuel d p21.1 p21.2.1 p21.2.2)) := by
  generalize hh : k_slices_partitionCmpFunc_int_2 = R
  rw [k_slices_partitionCmpFunc_int_2_is] at hh
  subst hh
  generalize hh : l_slices_partitionCmpFunc_int_2 = R
  rw [l_slices_partitionCmpFunc_int_2_is] at hh
  subst hh
  generalize hh : k_slices_partitionCmpFunc_int_4 = R
  rw [k_slices_partitionCmpFunc_int_4_is] at hh
  subst hh
  kernel_rfl

theorem k_slices_partitionCmpFunc_int_3_n (fuel d : Nat) (n : Nat) (x0 : Sl) (x1 : Int) (x4f : Nat) (x4c : List Pt) (x12 : Int) (x13 : Int) (x66 : Bool) (h : AHeap) :
    k_slices_partitionCmpFunc_int_3 fuel d n .normal [(0, (AVal.slice x0)), (1, (AVal.int .i64 x1)), (4, (AVal.func x4f x4c)), (12, (AVal.int .i64 x12)), (13, (AVal.int .i64 x13)), (66, (AVal.bool x66))] h =
  (bif x66 then (l_slices_partitionCmpFunc_int_1 fuel d n [(0, (AVal.slice x0)), (1, (AVal.int .i64 x1)), (4, (AVal.func x4f x4c)), (12, (AVal.int .i64 x12)), (13, (AVal.int .i64 (IntKind.wrap .i64 (x13 - (1 : Int)))))] h) else (some ((.exit 2), [(0, (AVal.slice x0)), (1, (AVal.int .i64 x1)), (4, (AVal.func x4f x4c)), (12, (AVal.int .i64 x12)), (13, (AVal.int .i64 x13))], h))) := by
  generalize hh : l_slices_partitionCmpFunc_int_1 = R
  rw [l_slices_partitionCmpFunc_int_1_is] at hh
  subst hh
  generalize hh : k_slices_partitionCmpFunc_int_3 = R
  rw [k_slices_partitionCmpFunc_int_3_is] at hh
  subst hh
  kernel_rfl

theorem l_slices_partitionCmpFunc_int_2_eq (fuel d : Nat) (n : Nat) (x0 : Sl) (x1 : Int) (x4f : Nat) (x4c : List Pt) (x12 : Int) (x13 : Int) (h : AHeap) :
    l_slices_partitionCmpFunc_int_2 fuel d (n + 1) [(0, (AVal.slice x0)), (1, (AVal.int .i64 x1)), (4, (AVal.func x4f x4c)), (12, (AVal.int .i64 x12)), (13, (AVal.int .i64 x13))] h =
  (l_slices_partitionCmpFunc_int_3 fuel d fuel [(0, (AVal.slice x0)), (1, (AVal.int .i64 x1)), (4, (AVal.func x4f x4c)), (12, (AVal.int .i64 x12)), (13, (AVal.int .i64 x13))] h).bind fun p1 =>
    k_slices_partitionCmpFunc_int_5 fuel d n p1.1 p1.2.1 p1.2.2 := by
  generalize hh : l_slices_partitionCmpFunc_int_2 = R
  rw [l_slices_partitionCmpFunc_int_2_is] at hh
  subst hh
  generalize hh : l_slices_partitionCmpFunc_int_3 = R
  rw [l_slices_partitionCmpFunc_int_3_is] at hh
  subst hh
  generalize hh : k_slices_partitionCmpFunc_int_5 = R
  rw [k_slices_partitionCmpFunc_int_5_is] at hh
  subst hh
  kernel_rfl

theorem l_slices_partitionCmpFunc_int_2_0 (fuel d : Nat) (fr : Fr) (h : AHeap) :
    l_slices_partitionCmpFunc_int_2 fuel d 0 fr h =
  none := by
  generalize hh : l_slices_partitionCmpFunc_int_2 = R
  rw [l_slices_partitionCmpFunc_int_2_is] at hh
  subst hh
  kernel_rfl

theorem k_slices_partitionCmpFunc_int_4_x4 (fuel d : Nat) (x0 : Sl) (x1 : Int) (x13 : Int) (h : AHeap) :
    k_slices_partitionCmpFunc_int_4 fuel d (.exit 4) [(0, (AVal.slice x0)), (1, (AVal.int .i64 x1)), (13, (AVal.int .i64 x13))] h =
  (AHeap.addr h 1 x0 x1).bind fun p1 =>
    (AHeap.cell h p1).bind fun u2 =>
    (AVal.int? .i64 u2).bind fun n3 =>
    (AHeap.addr h 1 x0 x13).bind fun p4 =>
    (AHeap.cell h p4).bind fun u5 =>
    (AVal.int? .i64 u5).bind fun n6 =>
    (AHeap.addr h 1 x0 x13).bind fun p7 =>
    (AHeap.storeAt h [(AVal.int .i64 n3)] p7).bind fun h8 =>
    (AHeap.addr h8 1 x0 x1).bind fun p9 =>
    (AHeap.storeAt h8 [(AVal.int .i64 n6)] p9).bind fun h10 =>
    some ((AVal.tup [(AVal.int .i64 x13), (AVal.bool false)]), h10) := by
  generalize hh : k_slices_partitionCmpFunc_int_4 = R
  rw [k_slices_partitionCmpFunc_int_4_is] at hh
  subst hh
  kernel_rfl

theorem l_slices_partitionCmpFunc_int_3_eq (fuel d : Nat) (n : Nat) (x0 : Sl) (x1 : Int) (x4f : Nat) (x4c : List Pt) (x12 : Int) (x13 : Int) (h : AHeap) :
    l_slices_partitionCmpFunc_int_3 fuel d (n + 1) [(0, (AVal.slice x0)), (1, (AVal.int .i64 x1)), (4, (AVal.func x4f x4c)), (12, (AVal.int .i64 x12)), (13, (AVal.int .i64 x13))] h =
  ((bif (decide (x12 ≤ x13)) then ((AHeap.addr h 1 x0 x12).bind fun p1 =>
    (AHeap.cell h p1).bind fun u2 =>
    (AVal.int? .i64 u2).bind fun n3 =>
    (AHeap.addr h 1 x0 x1).bind fun p4 =>
    (AHeap.cell h p4).bind fun u5 =>
    (AVal.int? .i64 u5).bind fun n6 =>
    (run fuel d x4f ([(AVal.int .i64 n3), (AVal.int .i64 n6)] ++ List.map AVal.ptr x4c) h).bind fun r7 =>
    (AVal.int? .i64 r7.1).bind fun n8 =>
    some (.normal, [(0, (AVal.slice x0)), (1, (AVal.int .i64 x1)), (4, (AVal.func x4f x4c)), (12, (AVal.int .i64 x12)), (13, (AVal.int .i64 x13)), (120, (AVal.bool (decide (n8 < (0 : Int)))))], r7.2)) else (some (.normal, [(0, (AVal.slice x0)), (1, (AVal.int .i64 x1)), (4, (AVal.func x4f x4c)), (12, (AVal.int .i64 x12)), (13, (AVal.int .i64 x13)), (120, (AVal.bool false))], h)))).bind fun p9 =>
    k_slices_partitionCmpFunc_int_6 fuel d n p9.1 p9.2.1 p9.2.2 := by
  generalize hh : run = R
  rw [run_is] at hh
  subst hh
  generalize hh : l_slices_partitionCmpFunc_int_3 = R
  rw [l_slices_partitionCmpFunc_int_3_is] at hh
  subst hh
  generalize hh : k_slices_partitionCmpFunc_int_6 = R
  rw [k_slices_partitionCmpFunc_int_6_is] at hh
  subst hh
  kernel_rfl

theorem l_slices_partitionCmpFunc_int_3_0 (fuel d : Nat) (fr : Fr) (h : AHeap) :
    l_slices_partitionCmpFunc_int_3 fuel d 0 fr h =
  none := by
  generalize hh : l_slices_partitionCmpFunc_int_3 = R
  rw [l_slices_partitionCmpFunc_int_3_is] at hh
  subst hh
  kernel_rfl

theorem k_slices_partitionCmpFunc_int_5_x6 (fuel d : Nat) (n : Nat) (x0 : Sl) (x1 : Int) (x4f : Nat) (x4c : List Pt) (x12 : Int) (x13 : Int) (h : AHeap) :
    k_slices_partitionCmpFunc_int_5 fuel d n (.exit 6) [(0, (AVal.slice x0)), (1, (AVal.int .i64 x1)), (4, (AVal.func x4f x4c)), (12, (AVal.int .i64 x12)), (13, (AVal.int .i64 x13))] h =
  (l_slices_partitionCmpFunc_int_4 fuel d fuel [(0, (AVal.slice x0)), (1, (AVal.int .i64 x1)), (4, (AVal.func x4f x4c)), (12, (AVal.int .i64 x12)), (13, (AVal.int .i64 x13))] h).bind fun p1 =>
    k_slices_partitionCmpFunc_int_7 fuel d n p1.1 p1.2.1 p1.2.2 := by
  generalize hh : k_slices_partitionCmpFunc_int_5 = R
  rw [k_slices_partitionCmpFunc_int_5_is] at hh
  subst hh
  generalize hh : l_slices_partitionCmpFunc_int_4 = R
  rw [l_slices_partitionCmpFunc_int_4_is] at hh
  subst hh
  generalize hh : k_slices_partitionCmpFunc_int_7 = R
  rw [k_slices_partitionCmpFunc_int_7_is] at hh
  subst hh
  kernel_rfl

theorem k_slices_partitionCmpFunc_int_6_n (fuel d : Nat) (n : Nat) (x0 : Sl) (x1 : Int) (x4f : Nat) (x4c : List Pt) (x12 : Int) (x13 : Int) (x120 : Bool) (h : AHeap) :
    k_slices_partitionCmpFunc_int_6 fuel d n .normal [(0, (AVal.slice x0)), (1, (AVal.int .i64 x1)), (4, (AVal.func x4f x4c)), (12, (AVal.int .i64 x12)), (13, (AVal.int .i64 x13)), (120, (AVal.bool x120))] h =
  (bif x120 then (l_slices_partitionCmpFunc_int_3 fuel d n [(0, (AVal.slice x0)), (1, (AVal.int .i64 x1)), (4, (AVal.func x4f x4c)), (12, (AVal.int .i64 (IntKind.wrap .i64 (x12 + (1 : Int))))), (13, (AVal.int .i64 x13))] h) else (some ((.exit 6), [(0, (AVal.slice x0)), (1, (AVal.int .i64 x1)), (4, (AVal.func x4f x4c)), (12, (AVal.int .i64 x12)), (13, (AVal.int .i64 x13))], h))) := by
  generalize hh : l_slices_partitionCmpFunc_int_3 = R
  rw [l_slices_partitionCmpFunc_int_3_is] at hh
  subst hh
  generalize hh : k_slices_partitionCmpFunc_int_6 = R
  rw [k_slices_partitionCmpFunc_int_6_is] at hh
  subst hh
  kernel_rfl

theorem l_slices_partitionCmpFunc_int_4_eq (fuel d : Nat) (n : Nat) (x0 : Sl) (x1 : Int) (x4f : Nat) (x4c : List Pt) (x12 : Int) (x13 : Int) (h : AHeap) :
    l_slices_partitionCmpFunc_int_4 fuel d (n + 1) [(0, (AVal.slice x0)), (1, (AVal.int .i64 x1)), (4, (AVal.func x4f x4c)), (12, (AVal.int .i64 x12)), (13, (AVal.int .i64 x13))] h =
  ((bif (decide (x12 ≤ x13)) then ((AHeap.addr h 1 x0 x13).bind fun p1 =>
    (AHeap.cell h p1).bind fun u2 =>
    (AVal.int? .i64 u2).bind fun n3 =>
    (AHeap.addr h 1 x0 x1).bind fun p4 =>
    (AHeap.cell h p4).bind fun u5 =>
    (AVal.int? .i64 u5).bind fun n6 =>
    (run fuel d x4f ([(AVal.int .i64 n3), (AVal.int .i64 n6)] ++ List.map AVal.ptr x4c) h).bind fun r7 =>
    (AVal.int? .i64 r7.1).bind fun n8 =>
    some (.normal, [(0, (AVal.slice x0)), (1, (AVal.int .i64 x1)), (4, (AVal.func x4f x4c)), (12, (AVal.int .i64 x12)), (13, (AVal.int .i64 x13)), (139, (AVal.bool (!(decide (n8 < (0 : Int))))))], r7.2)) else (some (.normal, [(0, (AVal.slice x0)), (1, (AVal.int .i64 x1)), (4, (AVal.func x4f x4c)), (12, (AVal.int .i64 x12)), (13, (AVal.int .i64 x13)), (139, (AVal.bool false))], h)))).bind fun p9 =>
    k_slices_partitionCmpFunc_int_8 fuel d n p9.1 p9.2.1 p9.2.2 := by
  generalize hh : run = R
  rw [run_is] at hh
  subst hh
  generalize hh : l_slices_partitionCmpFunc_int_4 = R
  rw [l_slices_partitionCmpFunc_int_4_is] at hh
  subst hh
  generalize hh : k_slices_partitionCmpFunc_int_8 = R
  rw [k_slices_partitionCmpFunc_int_8_is] at hh
  subst hh
  kernel_rfl

theorem l_slices_partitionCmpFunc_int_4_0 (fuel d : Nat) (fr : Fr) (h : AHeap) :
    l_slices_partitionCmpFunc_int_4 fuel d 0 fr h =
  none := by
  generalize hh : l_slices_partitionCmpFunc_int_4 = R
  rw [l_slices_partitionCmpFunc_int_4_is] at hh
  subst hh
  kernel_rfl

theorem k_slices_partitionCmpFunc_int_7_x8 (fuel d : Nat) (n : Nat) (x0 : Sl) (x1 : Int) (x4f : Nat) (x4c : List Pt) (x12 : Int) (x13 : Int) (h : AHeap) :
    k_slices_partitionCmpFunc_int_7 fuel d n (.exit 8) [(0, (AVal.slice x0)), (1, (AVal.int .i64 x1)), (4, (AVal.func x4f x4c)), (12, (AVal.int .i64 x12)), (13, (AVal.int .i64 x13))] h =
  (bif (decide (x13 < x12)) then (some ((.exit 4), [(0, (AVal.slice x0)), (1, (AVal.int .i64 x1)), (13, (AVal.int .i64 x13))], h)) else ((AHeap.addr h 1 x0 x13).bind fun p1 =>
    (AHeap.cell h p1).bind fun u2 =>
    (AVal.int? .i64 u2).bind fun n3 =>
    (AHeap.addr h 1 x0 x12).bind fun p4 =>
    (AHeap.cell h p4).bind fun u5 =>
    (AVal.int? .i64 u5).bind fun n6 =>
    (AHeap.addr h 1 x0 x12).bind fun p7 =>
    (AHeap.storeAt h [(AVal.int .i64 n3)] p7).bind fun h8 =>
    (AHeap.addr h8 1 x0 x13).bind fun p9 =>
    (AHeap.storeAt h8 [(AVal.int .i64 n6)] p9).bind fun h10 =>
    l_slices_partitionCmpFunc_int_2 fuel d n [(0, (AVal.slice x0)), (1, (AVal.int .i64 x1)), (4, (AVal.func x4f x4c)), (12, (AVal.int .i64 (IntKind.wrap .i64 (x12 + (1 : Int))))), (13, (AVal.int .i64 (IntKind.wrap .i64 (x13 - (1 : Int)))))] h10)) := by
  generalize hh : l_slices_partitionCmpFunc_int_2 = R
  rw [l_slices_partitionCmpFunc_int_2_is] at hh
  subst hh
  generalize hh : k_slices_partitionCmpFunc_int_7 = R
  rw [k_slices_partitionCmpFunc_int_7_is] at hh
  subst hh
  kernel_rfl

theorem k_slices_partitionCmpFunc_int_8_n (fuel d : Nat) (n : Nat) (x0 : Sl) (x1 : Int) (x4f : Nat) (x4c : List Pt) (x12 : Int) (x13 : Int) (x139 : Bool) (h : AHeap) :
    k_slices_partitionCmpFunc_int_8 fuel d n .normal [(0, (AVal.slice x0)), (1, (AVal.int .i64 x1)), (4, (AVal.func x4f x4c)), (12, (AVal.int .i64 x12)), (13, (AVal.int .i64 x13)), (139, (AVal.bool x139))] h =
  (bif x139 then (l_slices_partitionCmpFunc_int_4 fuel d n [(0, (AVal.slice x0)), (1, (AVal.int .i64 x1)), (4, (AVal.func x4f x4c)), (12, (AVal.int .i64 x12)), (13, (AVal.int .i64 (IntKind.wrap .i64 (x13 - (1 : Int)))))] h) else (some ((.exit 8), [(0, (AVal.slice x0)), (1, (AVal.int .i64 x1)), (4, (AVal.func x4f x4c)), (12, (AVal.int .i64 x12)), (13, (AVal.int .i64 x13))], h))) := by
  generalize hh : l_slices_partitionCmpFunc_int_4 = R
  rw [l_slices_partitionCmpFunc_int_4_is] at hh
  subst hh
  generalize hh : k_slices_partitionCmpFunc_int_8 = R
  rw [k_slices_partitionCmpFunc_int_8_is] at hh
  subst hh
  kernel_rfl

/-! 130: math/bits.Len64 -/

noncomputable def k_bits_Len64_0r (fuel d : Nat) : AExit → Fr → AHeap → Option (AVal × AHeap) := (kSeq (Cf fuel F_bits_Len64) false (acall (C fuel) false d) (acall (C fuel) true d) 25 (csub [true, true] (fbody Go.Proofs.Tryd.f130)) (asub [true, true] an130) (kRet (Cf fuel F_bits_Len64) Go.Proofs.Tryd.f130.results.toList))

noncomputable def k_bits_Len64_0 : Nat → Nat → AExit → Fr → AHeap → Option (AVal × AHeap) := hide k_bits_Len64_0r

theorem k_bits_Len64_0_is : k_bits_Len64_0 = k_bits_Len64_0r := hide_eq _

noncomputable def k_bits_Len64_1r (fuel d : Nat) : AExit → Fr → AHeap → Option (AVal × AHeap) := (kSeq (Cf fuel F_bits_Len64) false (acall (C fuel) false d) (acall (C fuel) true d) 25 (csub [true, true, true] (fbody Go.Proofs.Tryd.f130)) (asub [true, true, true] an130) (kRet (Cf fuel F_bits_Len64) Go.Proofs.Tryd.f130.results.toList))

noncomputable def k_bits_Len64_1 : Nat → Nat → AExit → Fr → AHeap → Option (AVal × AHeap) := hide k_bits_Len64_1r

theorem k_bits_Len64_1_is : k_bits_Len64_1 = k_bits_Len64_1r := hide_eq _

noncomputable def k_bits_Len64_2r (fuel d : Nat) : AExit → Fr → AHeap → Option (AVal × AHeap) := (kSeq (Cf fuel F_bits_Len64) false (acall (C fuel) false d) (acall (C fuel) true d) 25 (csub [true, true, true, true] (fbody Go.Proofs.Tryd.f130)) (asub [true, true, true, true] an130) (kRet (Cf fuel F_bits_Len64) Go.Proofs.Tryd.f130.results.toList))

noncomputable def k_bits_Len64_2 : Nat → Nat → AExit → Fr → AHeap → Option (AVal × AHeap) := hide k_bits_Len64_2r

theorem k_bits_Len64_2_is : k_bits_Len64_2 = k_bits_Len64_2r := hide_eq _

theorem e_bits_Len64 (fuel d : Nat) (x0 : Int) (h : AHeap) :
    brun fuel (d + 1) F_bits_Len64 [(AVal.int .u64 x0)] h =
  ((bif (decide ((4294967296 : Int) ≤ x0)) then (some (.normal, [(0, (AVal.int .u64 (Int.fdiv x0 (2 ^ min (Int.toNat (32 : Int)) (IntKind.bits .u64))))), (2, (AVal.int .i64 (32 : Int)))], h)) else (some (.normal, [(0, (AVal.int .u64 x0)), (2, (AVal.int .i64 (0 : Int)))], h)))).bind fun p1 =>
    k_bits_Len64_0 fuel d p1.1 p1.2.1 p1.2.2 := by
  generalize hh : brun = R
  rw [brun_is] at hh
  subst hh
  generalize hh : k_bits_Len64_0 = R
  rw [k_bits_Len64_0_is] at hh
  subst hh
  kernel_rfl

theorem k_bits_Len64_0_n (fuel d : Nat) (x0 : Int) (x2 : Int) (h : AHeap) :
    k_bits_Len64_0 fuel d .normal [(0, (AVal.int .u64 x0)), (2, (AVal.int .i64 x2))] h =
  ((bif (decide ((65536 : Int) ≤ x0)) then (some (.normal, [(0, (AVal.int .u64 (Int.fdiv x0 (2 ^ min (Int.toNat (16 : Int)) (IntKind.bits .u64))))), (2, (AVal.int .i64 (IntKind.wrap .i64 (x2 + (16 : Int)))))], h)) else (some (.normal, [(0, (AVal.int .u64 x0)), (2, (AVal.int .i64 x2))], h)))).bind fun p1 =>
    k_bits_Len64_1 fuel d p1.1 p1.2.1 p1.2.2 := by
  generalize hh : k_bits_Len64_0 = R
  rw [k_bits_Len64_0_is] at hh
  subst hh
  generalize hh : k_bits_Len64_1 = R
  rw [k_bits_Len64_1_is] at hh
  subst hh
  kernel_rfl

theorem k_bits_Len64_1_n (fuel d : Nat) (x0 : Int) (x2 : Int) (h : AHeap) :
    k_bits_Len64_1 fuel d .normal [(0, (AVal.int .u64 x0)), (2, (AVal.int .i64 x2))] h =
  ((bif (decide ((256 : Int) ≤ x0)) then (some (.normal, [(0, (AVal.int .u64 (Int.fdiv x0 (2 ^ min (Int.toNat (8 : Int)) (IntKind.bits .u64))))), (2, (AVal.int .i64 (IntKind.wrap .i64 (x2 + (8 : Int)))))], h)) else (some (.normal, [(0, (AVal.int .u64 x0)), (2, (AVal.int .i64 x2))], h)))).bind fun p1 =>
    k_bits_Len64_2 fuel d p1.1 p1.2.1 p1.2.2 := by
  generalize hh : k_bits_Len64_1 = R
  rw [k_bits_Len64_1_is] at hh
  subst hh
  generalize hh : k_bits_Len64_2 = R
  rw [k_bits_Len64_2_is] at hh
  subst hh
  kernel_rfl

theorem k_bits_Len64_2_n (fuel d : Nat) (x0 : Int) (x2 : Int) (h : AHeap) :
    k_bits_Len64_2 fuel d .normal [(0, (AVal.int .u64 x0)), (2, (AVal.int .i64 x2))] h =
  (strAt bstr_633d862b (IntKind.wrap .u8 x0)).bind fun n1 =>
    some ((AVal.int .i64 (IntKind.wrap .i64 (x2 + (IntKind.wrap .i64 n1)))), h) := by
  generalize hh : k_bits_Len64_2 = R
  rw [k_bits_Len64_2_is] at hh
  subst hh
  kernel_rfl

/-! 131: cmp.isNaN[int] -/

theorem e_cmp_isNaN_int (fuel d : Nat) (x0 : Int) (h : AHeap) :
    brun fuel (d + 1) F_cmp_isNaN_int [(AVal.int .i64 x0)] h =
  some ((AVal.bool (!decide (x0 = x0))), h) := by
  generalize hh : brun = R
  rw [brun_is] at hh
  subst hh
  kernel_rfl

/-! 137: slices.siftDownCmpFunc[int] -/

noncomputable def s_slices_siftDownCmpFunc_int_0 (fuel d : Nat) : Run := fun fr h k => aexec (Cf fuel F_slices_siftDownCmpFunc_int) false (acall (C fuel) false d) (acall (C fuel) true d) 82 (csub [true, false, false] (fbody Go.Proofs.Tryd.f137)) (asub [true, false, false] an137) fr h k

noncomputable def l_slices_siftDownCmpFunc_int_0r (fuel d : Nat) (n : Nat) (fr : Fr) (h : AHeap) : Option (AExit × Fr × AHeap) := aloop (s_slices_siftDownCmpFunc_int_0 fuel d) (some [0, 2, 3, 4, 10]) n fr h (kOut [])

noncomputable def l_slices_siftDownCmpFunc_int_0 : Nat → Nat → Nat → Fr → AHeap → Option (AExit × Fr × AHeap) := hide l_slices_siftDownCmpFunc_int_0r

theorem l_slices_siftDownCmpFunc_int_0_is : l_slices_siftDownCmpFunc_int_0 = l_slices_siftDownCmpFunc_int_0r := hide_eq _

noncomputable def k_slices_siftDownCmpFunc_int_0r (fuel d : Nat) : AExit → Fr → AHeap → Option (AVal × AHeap) := (kBlock 0 (kRet (Cf fuel F_slices_siftDownCmpFunc_int) Go.Proofs.Tryd.f137.results.toList))

noncomputable def k_slices_siftDownCmpFunc_int_0 : Nat → Nat → AExit → Fr → AHeap → Option (AVal × AHeap) := hide k_slices_siftDownCmpFunc_int_0r

theorem k_slices_siftDownCmpFunc_int_0_is : k_slices_siftDownCmpFunc_int_0 = k_slices_siftDownCmpFunc_int_0r := hide_eq _

noncomputable def k_slices_siftDownCmpFunc_int_1r (fuel d : Nat) (n : Nat) : AExit → Fr → AHeap → Option (AExit × Fr × AHeap) := (kSeq (Cf fuel F_slices_siftDownCmpFunc_int) false (acall (C fuel) false d) (acall (C fuel) true d) 82 (csub [true, false, false, false, true, true, false, true] (fbody Go.Proofs.Tryd.f137)) (asub [true, false, false, false, true, true, false, true] an137) (kSeq (Cf fuel F_slices_siftDownCmpFunc_int) false (acall (C fuel) false d) (acall (C fuel) true d) 82 (csub [true, false, false, false, true, true, true] (fbody Go.Proofs.Tryd.f137)) (asub [true, false, false, false, true, true, true] an137) (kBlock 1 (kLoop (s_slices_siftDownCmpFunc_int_0 fuel d) (some [0, 2, 3, 4, 10]) n (kOut [])))))

noncomputable def k_slices_siftDownCmpFunc_int_1 : Nat → Nat → Nat → AExit → Fr → AHeap → Option (AExit × Fr × AHeap) := hide k_slices_siftDownCmpFunc_int_1r

theorem k_slices_siftDownCmpFunc_int_1_is : k_slices_siftDownCmpFunc_int_1 = k_slices_siftDownCmpFunc_int_1r := hide_eq _

noncomputable def k_slices_siftDownCmpFunc_int_2r (fuel d : Nat) (n : Nat) : AExit → Fr → AHeap → Option (AExit × Fr × AHeap) := (kSeq (Cf fuel F_slices_siftDownCmpFunc_int) false (acall (C fuel) false d) (acall (C fuel) true d) 82 (csub [true, false, false, false, true, true, true] (fbody Go.Proofs.Tryd.f137)) (asub [true, false, false, false, true, true, true] an137) (kBlock 1 (kLoop (s_slices_siftDownCmpFunc_int_0 fuel d) (some [0, 2, 3, 4, 10]) n (kOut []))))

noncomputable def k_slices_siftDownCmpFunc_int_2 : Nat → Nat → Nat → AExit → Fr → AHeap → Option (AExit × Fr × AHeap) := hide k_slices_siftDownCmpFunc_int_2r

theorem k_slices_siftDownCmpFunc_int_2_is : k_slices_siftDownCmpFunc_int_2 = k_slices_siftDownCmpFunc_int_2r := hide_eq _

theorem e_slices_siftDownCmpFunc_int (fuel d : Nat) (x0 : Sl) (x1 : Int) (x2 : Int) (x3 : Int) (x4f : Nat) (x4c : List Pt) (h : AHeap) :
    run fuel (d + 1) F_slices_siftDownCmpFunc_int [(AVal.slice x0), (AVal.int .i64 x1), (AVal.int .i64 x2), (AVal.int .i64 x3), (AVal.func x4f x4c)] h =
  (l_slices_siftDownCmpFunc_int_0 fuel d fuel [(0, (AVal.slice x0)), (2, (AVal.int .i64 x2)), (3, (AVal.int .i64 x3)), (4, (AVal.func x4f x4c)), (10, (AVal.int .i64 x1))] h).bind fun p1 =>
    k_slices_siftDownCmpFunc_int_0 fuel d p1.1 p1.2.1 p1.2.2 := by
  generalize hh : run = R
  rw [run_is] at hh
  subst hh
  generalize hh : l_slices_siftDownCmpFunc_int_0 = R
  rw [l_slices_siftDownCmpFunc_int_0_is] at hh
  subst hh
  generalize hh : k_slices_siftDownCmpFunc_int_0 = R
  rw [k_slices_siftDownCmpFunc_int_0_is] at hh
  subst hh
  kernel_rfl

theorem l_slices_siftDownCmpFunc_int_0_eq (fuel d : Nat) (n : Nat) (x0 : Sl) (x2 : Int) (x3 : Int) (x4f : Nat) (x4c : List Pt) (x10 : Int) (h : AHeap) :
    l_slices_siftDownCmpFunc_int_0 fuel d (n + 1) [(0, (AVal.slice x0)), (2, (AVal.int .i64 x2)), (3, (AVal.int .i64 x3)), (4, (AVal.func x4f x4c)), (10, (AVal.int .i64 x10))] h =
  (bif (decide (x2 ≤ (IntKind.wrap .i64 ((IntKind.wrap .i64 ((2 : Int) * x10)) + (1 : Int))))) then (some ((.exit 0), [], h)) else (((bif (decide ((IntKind.wrap .i64 ((IntKind.wrap .i64 ((IntKind.wrap .i64 ((2 : Int) * x10)) + (1 : Int))) + (1 : Int))) < x2)) then ((AHeap.addr h 1 x0 (IntKind.wrap .i64 (x3 + (IntKind.wrap .i64 ((IntKind.wrap .i64 ((2 : Int) * x10)) + (1 : Int)))))).bind fun p1 =>
    (AHeap.cell h p1).bind fun u2 =>
    (AVal.int? .i64 u2).bind fun n3 =>
    (AHeap.addr h 1 x0 (IntKind.wrap .i64 ((IntKind.wrap .i64 (x3 + (IntKind.wrap .i64 ((IntKind.wrap .i64 ((2 : Int) * x10)) + (1 : Int))))) + (1 : Int)))).bind fun p4 =>
    (AHeap.cell h p4).bind fun u5 =>
    (AVal.int? .i64 u5).bind fun n6 =>
    (run fuel d x4f ([(AVal.int .i64 n3), (AVal.int .i64 n6)] ++ List.map AVal.ptr x4c) h).bind fun r7 =>
    (AVal.int? .i64 r7.1).bind fun n8 =>
    some (.normal, [(0, (AVal.slice x0)), (2, (AVal.int .i64 x2)), (3, (AVal.int .i64 x3)), (4, (AVal.func x4f x4c)), (10, (AVal.int .i64 x10)), (11, (AVal.int .i64 (IntKind.wrap .i64 ((IntKind.wrap .i64 ((2 : Int) * x10)) + (1 : Int))))), (40, (AVal.bool (decide (n8 < (0 : Int)))))], r7.2)) else (some (.normal, [(0, (AVal.slice x0)), (2, (AVal.int .i64 x2)), (3, (AVal.int .i64 x3)), (4, (AVal.func x4f x4c)), (10, (AVal.int .i64 x10)), (11, (AVal.int .i64 (IntKind.wrap .i64 ((IntKind.wrap .i64 ((2 : Int) * x10)) + (1 : Int))))), (40, (AVal.bool false))], h)))).bind fun p9 =>
    k_slices_siftDownCmpFunc_int_1 fuel d n p9.1 p9.2.1 p9.2.2)) := by
  generalize hh : run = R
  rw [run_is] at hh
  subst hh
  generalize hh : l_slices_siftDownCmpFunc_int_0 = R
  rw [l_slices_siftDownCmpFunc_int_0_is] at hh
  subst hh
  generalize hh : k_slices_siftDownCmpFunc_int_1 = R
  rw [k_slices_siftDownCmpFunc_int_1_is] at hh
  subst hh
  kernel_rfl

theorem l_slices_siftDownCmpFunc_int_0_0 (fuel d : Nat) (fr : Fr) (h : AHeap) :
    l_slices_siftDownCmpFunc_int_0 fuel d 0 fr h =
  none := by
  generalize hh : l_slices_siftDownCmpFunc_int_0 = R
  rw [l_slices_siftDownCmpFunc_int_0_is] at hh
  subst hh
  kernel_rfl

theorem k_slices_siftDownCmpFunc_int_0_x0 (fuel d : Nat)  (h : AHeap) :
    k_slices_siftDownCmpFunc_int_0 fuel d (.exit 0) [] h =
  some ((AVal.tup []), h) := by
  generalize hh : k_slices_siftDownCmpFunc_int_0 = R
  rw [k_slices_siftDownCmpFunc_int_0_is] at hh
  subst hh
  kernel_rfl

theorem k_slices_siftDownCmpFunc_int_0_r (fuel d : Nat)  (h : AHeap) :
    k_slices_siftDownCmpFunc_int_0 fuel d .ret [] h =
  some ((AVal.tup []), h) := by
  generalize hh : k_slices_siftDownCmpFunc_int_0 = R
  rw [k_slices_siftDownCmpFunc_int_0_is] at hh
  subst hh
  kernel_rfl

theorem k_slices_siftDownCmpFunc_int_1_n (fuel d : Nat) (n : Nat) (x0 : Sl) (x2 : Int) (x3 : Int) (x4f : Nat) (x4c : List Pt) (x10 : Int) (x11 : Int) (x40 : Bool) (h : AHeap) :
    k_slices_siftDownCmpFunc_int_1 fuel d n .normal [(0, (AVal.slice x0)), (2, (AVal.int .i64 x2)), (3, (AVal.int .i64 x3)), (4, (AVal.func x4f x4c)), (10, (AVal.int .i64 x10)), (11, (AVal.int .i64 x11)), (40, (AVal.bool x40))] h =
  ((bif x40 then (some (.normal, [(0, (AVal.slice x0)), (2, (AVal.int .i64 x2)), (3, (AVal.int .i64 x3)), (4, (AVal.func x4f x4c)), (10, (AVal.int .i64 x10)), (11, (AVal.int .i64 (IntKind.wrap .i64 (x11 + (1 : Int)))))], h)) else (some (.normal, [(0, (AVal.slice x0)), (2, (AVal.int .i64 x2)), (3, (AVal.int .i64 x3)), (4, (AVal.func x4f x4c)), (10, (AVal.int .i64 x10)), (11, (AVal.int .i64 x11))], h)))).bind fun p1 =>
    k_slices_siftDownCmpFunc_int_2 fuel d n p1.1 p1.2.1 p1.2.2 := by
  generalize hh : k_slices_siftDownCmpFunc_int_1 = R
  rw [k_slices_siftDownCmpFunc_int_1_is] at hh
  subst hh
  generalize hh : k_slices_siftDownCmpFunc_int_2 = R
  rw [k_slices_siftDownCmpFunc_int_2_is] at hh
  subst hh
  kernel_rfl

theorem k_slices_siftDownCmpFunc_int_2_n (fuel d : Nat) (n : Nat) (x0 : Sl) (x2 : Int) (x3 : Int) (x4f : Nat) (x4c : List Pt) (x10 : Int) (x11 : Int) (h : AHeap) :
    k_slices_siftDownCmpFunc_int_2 fuel d n .normal [(0, (AVal.slice x0)), (2, (AVal.int .i64 x2)), (3, (AVal.int .i64 x3)), (4, (AVal.func x4f x4c)), (10, (AVal.int .i64 x10)), (11, (AVal.int .i64 x11))] h =
  (AHeap.addr h 1 x0 (IntKind.wrap .i64 (x3 + x10))).bind fun p1 =>
    (AHeap.cell h p1).bind fun u2 =>
    (AVal.int? .i64 u2).bind fun n3 =>
    (AHeap.addr h 1 x0 (IntKind.wrap .i64 (x3 + x11))).bind fun p4 =>
    (AHeap.cell h p4).bind fun u5 =>
    (AVal.int? .i64 u5).bind fun n6 =>
    (run fuel d x4f ([(AVal.int .i64 n3), (AVal.int .i64 n6)] ++ List.map AVal.ptr x4c) h).bind fun r7 =>
    (AVal.int? .i64 r7.1).bind fun n8 =>
    (bif (!(decide (n8 < (0 : Int)))) then (some (.ret, [], r7.2)) else ((AHeap.addr r7.2 1 x0 (IntKind.wrap .i64 (x3 + x11))).bind fun p9 =>
    (AHeap.cell r7.2 p9).bind fun u10 =>
    (AVal.int? .i64 u10).bind fun n11 =>
    (AHeap.addr r7.2 1 x0 (IntKind.wrap .i64 (x3 + x10))).bind fun p12 =>
    (AHeap.cell r7.2 p12).bind fun u13 =>
    (AVal.int? .i64 u13).bind fun n14 =>
    (AHeap.addr r7.2 1 x0 (IntKind.wrap .i64 (x3 + x10))).bind fun p15 =>
    (AHeap.storeAt r7.2 [(AVal.int .i64 n11)] p15).bind fun h16 =>
    (AHeap.addr h16 1 x0 (IntKind.wrap .i64 (x3 + x11))).bind fun p17 =>
    (AHeap.storeAt h16 [(AVal.int .i64 n14)] p17).bind fun h18 =>
    l_slices_siftDownCmpFunc_int_0 fuel d n [(0, (AVal.slice x0)), (2, (AVal.int .i64 x2)), (3, (AVal.int .i64 x3)), (4, (AVal.func x4f x4c)), (10, (AVal.int .i64 x11))] h18)) := by
  generalize hh : run = R
  rw [run_is] at hh
  subst hh
  generalize hh : l_slices_siftDownCmpFunc_int_0 = R
  rw [l_slices_siftDownCmpFunc_int_0_is] at hh
  subst hh
  generalize hh : k_slices_siftDownCmpFunc_int_2 = R
  rw [k_slices_siftDownCmpFunc_int_2_is] at hh
  subst hh
  kernel_rfl

/-! 138: slices.nextPowerOfTwo -/

theorem e_slices_nextPowerOfTwo (fuel d : Nat) (x0 : Int) (h : AHeap) :
    brun fuel (d + 1) F_slices_nextPowerOfTwo [(AVal.int .i64 x0)] h =
  (run fuel d F_bits_Len [(AVal.int .u64 (IntKind.wrap .u64 x0))] h).bind fun r1 =>
    (AVal.int? .i64 r1.1).bind fun n2 =>
    (bif decide (n2 < 0) then (none) else (some ((AVal.int .u64 (IntKind.wrap .u64 ((1 : Int) * 2 ^ min (Int.toNat n2) (IntKind.bits .u64)))), r1.2))) := by
  generalize hh : run = R
  rw [run_is] at hh
  subst hh
  generalize hh : brun = R
  rw [brun_is] at hh
  subst hh
  kernel_rfl

/-! 139: (*slices.xorshift).Next -/

theorem e_slices_xorshift_Next (fuel d : Nat) (x0 : Pt) (h : AHeap) :
    run fuel (d + 1) F_slices_xorshift_Next [(AVal.ptr x0)] h =
  (Pt.chk x0).bind fun p1 =>
    (AHeap.cell h p1).bind fun u2 =>
    (AVal.int? .u64 u2).bind fun n3 =>
    (Pt.chk x0).bind fun p4 =>
    (AHeap.cell h p4).bind fun u5 =>
    (AVal.int? .u64 u5).bind fun n6 =>
    (Pt.chk x0).bind fun p7 =>
    (AHeap.storeAt h [(AVal.int .u64 (bitsOp .xor .u64 n3 (IntKind.wrap .u64 (n6 * 2 ^ min (Int.toNat (13 : Int)) (IntKind.bits .u64)))))] p7).bind fun h8 =>
    (Pt.chk x0).bind fun p9 =>
    (AHeap.cell h8 p9).bind fun u10 =>
    (AVal.int? .u64 u10).bind fun n11 =>
    (Pt.chk x0).bind fun p12 =>
    (AHeap.cell h8 p12).bind fun u13 =>
    (AVal.int? .u64 u13).bind fun n14 =>
    (Pt.chk x0).bind fun p15 =>
    (AHeap.storeAt h8 [(AVal.int .u64 (bitsOp .xor .u64 n11 (Int.fdiv n14 (2 ^ min (Int.toNat (7 : Int)) (IntKind.bits .u64)))))] p15).bind fun h16 =>
    (Pt.chk x0).bind fun p17 =>
    (AHeap.cell h16 p17).bind fun u18 =>
    (AVal.int? .u64 u18).bind fun n19 =>
    (Pt.chk x0).bind fun p20 =>
    (AHeap.cell h16 p20).bind fun u21 =>
    (AVal.int? .u64 u21).bind fun n22 =>
    (Pt.chk x0).bind fun p23 =>
    (AHeap.storeAt h16 [(AVal.int .u64 (bitsOp .xor .u64 n19 (IntKind.wrap .u64 (n22 * 2 ^ min (Int.toNat (17 : Int)) (IntKind.bits .u64)))))] p23).bind fun h24 =>
    (Pt.chk x0).bind fun p25 =>
    (AHeap.cell h24 p25).bind fun u26 =>
    (AVal.int? .u64 u26).bind fun n27 =>
    some ((AVal.int .u64 n27), h24) := by
  generalize hh : run = R
  rw [run_is] at hh
  subst hh
  kernel_rfl

/-! 140: slices.medianAdjacentCmpFunc[int] -/

theorem e_slices_medianAdjacentCmpFunc_int (fuel d : Nat) (x0 : Sl) (x1 : Int) (x2 : Pt) (x3f : Nat) (x3c : List Pt) (h : AHeap) :
    run fuel (d + 1) F_slices_medianAdjacentCmpFunc_int [(AVal.slice x0), (AVal.int .i64 x1), (AVal.ptr x2), (AVal.func x3f x3c)] h =
  (run fuel d F_slices_medianCmpFunc_int [(AVal.slice x0), (AVal.int .i64 (IntKind.wrap .i64 (x1 - (1 : Int)))), (AVal.int .i64 x1), (AVal.int .i64 (IntKind.wrap .i64 (x1 + (1 : Int)))), (AVal.ptr x2), (AVal.func x3f x3c)] h).bind fun r1 =>
    (AVal.int? .i64 r1.1).bind fun n2 =>
    some ((AVal.int .i64 n2), r1.2) := by
  generalize hh : run = R
  rw [run_is] at hh
  subst hh
  kernel_rfl

/-! 141: slices.medianCmpFunc[int] -/

theorem e_slices_medianCmpFunc_int (fuel d : Nat) (x0 : Sl) (x1 : Int) (x2 : Int) (x3 : Int) (x4 : Pt) (x5f : Nat) (x5c : List Pt) (h : AHeap) :
    run fuel (d + 1) F_slices_medianCmpFunc_int [(AVal.slice x0), (AVal.int .i64 x1), (AVal.int .i64 x2), (AVal.int .i64 x3), (AVal.ptr x4), (AVal.func x5f x5c)] h =
  (run fuel d F_slices_order2CmpFunc_int [(AVal.slice x0), (AVal.int .i64 x1), (AVal.int .i64 x2), (AVal.ptr x4), (AVal.func x5f x5c)] h).bind fun r1 =>
    (bif AVal.isTup 2 r1.1 then ((AVal.comp 0 r1.1).bind fun u2 =>
    (AVal.int? .i64 u2).bind fun n3 =>
    (AVal.comp 1 r1.1).bind fun u4 =>
    (AVal.int? .i64 u4).bind fun n5 =>
    (run fuel d F_slices_order2CmpFunc_int [(AVal.slice x0), (AVal.int .i64 n5), (AVal.int .i64 x3), (AVal.ptr x4), (AVal.func x5f x5c)] r1.2).bind fun r6 =>
    (bif AVal.isTup 2 r6.1 then ((AVal.comp 0 r6.1).bind fun u7 =>
    (AVal.int? .i64 u7).bind fun n8 =>
    (AVal.comp 1 r6.1).bind fun u9 =>
    (AVal.int? .i64 u9).bind fun n10 =>
    (run fuel d F_slices_order2CmpFunc_int [(AVal.slice x0), (AVal.int .i64 n3), (AVal.int .i64 n8), (AVal.ptr x4), (AVal.func x5f x5c)] r6.2).bind fun r11 =>
    (bif AVal.isTup 2 r11.1 then ((AVal.comp 0 r11.1).bind fun u12 =>
    (AVal.int? .i64 u12).bind fun n13 =>
    (AVal.comp 1 r11.1).bind fun u14 =>
    (AVal.int? .i64 u14).bind fun n15 =>
    some ((AVal.int .i64 n15), r11.2)) else none)) else none)) else none) := by
  generalize hh : run = R
  rw [run_is] at hh
  subst hh
  kernel_rfl

/-! 146: slices.order2CmpFunc[int] -/

theorem e_slices_order2CmpFunc_int (fuel d : Nat) (x0 : Sl) (x1 : Int) (x2 : Int) (x3 : Pt) (x4f : Nat) (x4c : List Pt) (h : AHeap) :
    run fuel (d + 1) F_slices_order2CmpFunc_int [(AVal.slice x0), (AVal.int .i64 x1), (AVal.int .i64 x2), (AVal.ptr x3), (AVal.func x4f x4c)] h =
  (AHeap.addr h 1 x0 x2).bind fun p1 =>
    (AHeap.cell h p1).bind fun u2 =>
    (AVal.int? .i64 u2).bind fun n3 =>
    (AHeap.addr h 1 x0 x1).bind fun p4 =>
    (AHeap.cell h p4).bind fun u5 =>
    (AVal.int? .i64 u5).bind fun n6 =>
    (run fuel d x4f ([(AVal.int .i64 n3), (AVal.int .i64 n6)] ++ List.map AVal.ptr x4c) h).bind fun r7 =>
    (AVal.int? .i64 r7.1).bind fun n8 =>
    (bif (decide (n8 < (0 : Int))) then ((Pt.chk x3).bind fun p9 =>
    (AHeap.cell r7.2 p9).bind fun u10 =>
    (AVal.int? .i64 u10).bind fun n11 =>
    (Pt.chk x3).bind fun p12 =>
    (AHeap.storeAt r7.2 [(AVal.int .i64 (IntKind.wrap .i64 (n11 + (1 : Int))))] p12).bind fun h13 =>
    some ((AVal.tup [(AVal.int .i64 x2), (AVal.int .i64 x1)]), h13)) else (some ((AVal.tup [(AVal.int .i64 x1), (AVal.int .i64 x2)]), r7.2))) := by
  generalize hh : run = R
  rw [run_is] at hh
  subst hh
  kernel_rfl

theorem e_bytealg_IndexByte (fuel d : Nat) (x0 : Sl) (x1 : Int) (h : AHeap) :
    run fuel d F_bytealg_IndexByte [(AVal.slice x0), (AVal.int .u8 x1)] h =
  (AHeap.sliceCells h 1 x0).bind fun c1 => (bytesFrom c1).bind fun b2 => some ((AVal.int .i64 (Lib.indexByte b2 (Int.toNat x1).toUInt8)), h) := by
  generalize hh : run = R
  rw [run_is] at hh
  subst hh
  cases d <;> kernel_rfl

end Go.Proofs.YtnkbhbkfbigbiaaDoor
