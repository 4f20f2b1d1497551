/-
 What each function does: printed by program, checked by the kernel.
-/
import Derived.Test.YtjagkijfngokaaaGreatDoorCtx
namespace Go.Proofs.YtjagkijfngokaaaGreatDoor
set_option linter.unusedVariables false
set_option maxRecDepth 100000
noncomputable def k_skolemlaw26_CertBack_0r (fuel d : Nat) : AExit → Fr → AH → Option (AV × AH) := (kSeq (Cf fuel F_skolemlaw26_CertBack) false (acall (C fuel) false d) (acall (C fuel) true d) 48 (csub [true, true, true, true, true] (fbody Go.Proofs.Tryz.f5)) (asub [true, true, true, true, true] an5) (kRet (Cf fuel F_skolemlaw26_CertBack) Go.Proofs.Tryz.f5.results.toList))
noncomputable def k_skolemlaw26_CertBack_0 : Nat → Nat → AExit → Fr → AH → Option (AV × AH) := hide k_skolemlaw26_CertBack_0r
theorem k_skolemlaw26_CertBack_0_is : k_skolemlaw26_CertBack_0 = k_skolemlaw26_CertBack_0r := hide_eq _
theorem e_skolemlaw26_CertBack (fuel d : Nat) (x0 : List AV) (h : AH) :
   run fuel (d + 1) F_skolemlaw26_CertBack [(AV.agg x0)] h =
 (bif (List.all x0 AV.isCell) then ((run fuel d F_skolemlaw26_first [] (AH.push h 1 x0)).bind fun r1 =>
   (AV.bool? r1.1).bind fun b2 =>
   (bif (!b2) then (some ((AV.bool false), r1.2)) else ((AH.cellsAt r1.2 7 (Pt.mk ⟨AH.next h, 0, 0⟩ (List.length x0))).bind fun c3 =>
   (run fuel d F_skolemlaw26_light [(AV.agg c3)] r1.2).bind fun r4 =>
   (AV.bool? r4.1).bind fun b5 =>
   ((bif ((!b5) == false) then ((Pt.field 3 (Pt.mk ⟨AH.next h, 0, 0⟩ (List.length x0))).bind fun p6 =>
   (AH.cellsAt r4.2 3 p6).bind fun c7 =>
   (run fuel d F_skolemref8_Check [(AV.agg c7)] r4.2).bind fun r8 =>
   (AV.int? .i64 r8.1).bind fun n9 =>
   some ((AV.bool (!decide (n9 = (0 : Int)))), r8.2)) else (some ((AV.bool true), r4.2)) : Option (AV × AH))).bind fun r10 =>
   (AV.bool? r10.1).bind fun b11 =>
   (bif b11 then (some ((AV.bool b2), r10.2)) else ((Pt.field 1 (Pt.mk ⟨AH.next h, 0, 0⟩ (List.length x0))).bind fun p12 =>
   (AH.cell r10.2 p12).bind fun u13 =>
   (AV.bool? u13).bind fun b14 =>
   ((bif b14 then ((Pt.field 3 (Pt.mk ⟨AH.next h, 0, 0⟩ (List.length x0))).bind fun p15 =>
   (AH.storeAt r10.2 [(AV.int .i64 0), .slice Sl.nil, .slice Sl.nil] p15).bind fun h16 =>
   some (.normal, [(1, (AV.ptr (Pt.mk ⟨AH.next h, 0, 0⟩ (List.length x0)))), (3, .bool b2)], h16)) else ((Pt.field 2 (Pt.mk ⟨AH.next h, 0, 0⟩ (List.length x0))).bind fun p17 =>
   (AH.storeAt r10.2 [(AV.slice Sl.nil)] p17).bind fun h18 =>
   some (.normal, [(1, (AV.ptr (Pt.mk ⟨AH.next h, 0, 0⟩ (List.length x0)))), (3, .bool b2)], h18)))).bind fun p19 =>
   k_skolemlaw26_CertBack_0 fuel d p19.1 p19.2.1 p19.2.2))))) else (none)) := by
 generalize hh : run = R
 rw [run_is] at hh
 subst hh
 generalize hh : k_skolemlaw26_CertBack_0 = R
 rw [k_skolemlaw26_CertBack_0_is] at hh
 subst hh
 kernel_rfl
theorem k_skolemlaw26_CertBack_0_n (fuel d : Nat) (x1 : Pt) (x3 : Bool) (h : AH) :
   k_skolemlaw26_CertBack_0 fuel d .normal [(1, .ptr x1), (3, .bool x3)] h =
 (AH.cellsAt h 7 x1).bind fun c1 =>
   (run fuel d F_cert_Bytes [(AV.agg c1)] h).bind fun r2 =>
   (AV.slice? r2.1).bind fun s3 =>
   (run fuel d F_cert_Read [(AV.slice s3)] r2.2).bind fun r4 =>
   (bif AV.isTup 2 r4.1 then ((AV.comp 0 r4.1).bind fun u5 =>
   (AV.agg? u5).bind fun c6 =>
   (AV.comp 1 r4.1).bind fun u7 =>
   (bif (!false && Nat.beq (List.length c6) 7 && List.all c6 AV.isCell) then ((AH.storeAt (AH.push r4.2 1 [(AV.bool false), .bool false, .slice Sl.nil, .int .i64 0, .slice Sl.nil, .slice Sl.nil, .slice Sl.nil]) c6 (Pt.mk ⟨AH.next r4.2, 0, 0⟩ 7)).bind fun h8 =>
   ((bif (x3 == true) then ((AH.cellsAt h8 7 x1).bind fun c9 =>
   (run fuel d F_skolemref23_CertBytes [(AV.agg c9)] h8).bind fun r10 =>
   (AV.slice? r10.1).bind fun s11 =>
   (run fuel d F_skolemref_SameBytes [(AV.slice s3), .slice s11] r10.2).bind fun r12 =>
   (AV.bool? r12.1).bind fun b13 =>
   some ((AV.bool b13), r12.2)) else (some ((AV.bool false), h8)) : Option (AV × AH))).bind fun r14 =>
   (AV.bool? r14.1).bind fun b15 =>
   ((bif (b15 == true) then ((nilTest .iface u7).bind fun b16 =>
   some ((AV.bool (b16)), r14.2)) else (some ((AV.bool false), r14.2)) : Option (AV × AH))).bind fun r17 =>
   (AV.bool? r17.1).bind fun b18 =>
   ((bif (b18 == true) then ((AH.cellsAt r17.2 7 (Pt.mk ⟨AH.next r4.2, 0, 0⟩ 7)).bind fun c19 =>
   (AH.cellsAt r17.2 7 x1).bind fun c20 =>
   (run fuel d F_skolemref_SameCert [(AV.agg c19), .agg c20] r17.2).bind fun r21 =>
   (AV.bool? r21.1).bind fun b22 =>
   some ((AV.bool b22), r21.2)) else (some ((AV.bool false), r17.2)) : Option (AV × AH))).bind fun r23 =>
   (AV.bool? r23.1).bind fun b24 =>
   some ((AV.bool b24), r23.2)) else (none))) else none) := by
 generalize hh : run = R
 rw [run_is] at hh
 subst hh
 generalize hh : k_skolemlaw26_CertBack_0 = R
 rw [k_skolemlaw26_CertBack_0_is] at hh
 subst hh
 kernel_rfl
theorem e_skolemlaw26_first (fuel d : Nat)  (h : AH) :
   brun fuel (d + 1) F_skolemlaw26_first [] h =
 (run fuel d F_cert_Bytes [(AV.agg [(AV.bool false), .bool true, .slice Sl.nil, .int .i64 0, .slice Sl.nil, .slice Sl.nil, .slice Sl.nil])] h).bind fun r1 =>
   (AV.slice? r1.1).bind fun s2 =>
   (AH.sliceCells r1.2 1 s2).bind fun c3 =>
   (bytesFrom c3).bind fun bs4 =>
   ((bif ((decide ((⟨List.toArray bs4⟩ : ByteArray) = (⟨#[115, 32, 102, 97, 108, 115, 101, 10, 119, 32, 10]⟩ : ByteArray))) == true) then ((run fuel d F_cert_Value [(AV.agg [(AV.bool true), .int .i64 0, .int .i64 0, .slice Sl.nil, .slice Sl.nil]), .bool true] r1.2).bind fun r5 =>
   (AV.bool? r5.1).bind fun b6 =>
   some ((AV.bool b6), r5.2)) else (some ((AV.bool false), r1.2)) : Option (AV × AH))).bind fun r7 =>
   (AV.bool? r7.1).bind fun b8 =>
   some ((AV.bool b8), r7.2) := by
 generalize hh : run = R
 rw [run_is] at hh
 subst hh
 generalize hh : brun = R
 rw [brun_is] at hh
 subst hh
 kernel_rfl
noncomputable def s_skolemlaw26_light_0 (fuel d : Nat) : Run := fun fr h k => aexec (Cf fuel F_skolemlaw26_light) false (acall (C fuel) false d) (acall (C fuel) true d) 59 (csub [true, true, false, true, false, false] (fbody Go.Proofs.Tryz.f8)) (asub [true, true, false, true, false, false] an8) fr h k
noncomputable def l_skolemlaw26_light_0r (fuel d : Nat) (n : Nat) (fr : Fr) (h : AH) : Option (AExit × Fr × AH) := aloop (s_skolemlaw26_light_0 fuel d) (some [1, 3]) n fr h (kOut [2])
noncomputable def l_skolemlaw26_light_0 : Nat → Nat → Nat → Fr → AH → Option (AExit × Fr × AH) := hide l_skolemlaw26_light_0r
theorem l_skolemlaw26_light_0_is : l_skolemlaw26_light_0 = l_skolemlaw26_light_0r := hide_eq _
noncomputable def k_skolemlaw26_light_0r (fuel d : Nat) : AExit → Fr → AH → Option (AV × AH) := (kBlock 0 (kSeq (Cf fuel F_skolemlaw26_light) false (acall (C fuel) false d) (acall (C fuel) true d) 59 (csub [true, true, true] (fbody Go.Proofs.Tryz.f8)) (asub [true, true, true] an8) (kRet (Cf fuel F_skolemlaw26_light) Go.Proofs.Tryz.f8.results.toList)))
noncomputable def k_skolemlaw26_light_0 : Nat → Nat → AExit → Fr → AH → Option (AV × AH) := hide k_skolemlaw26_light_0r
theorem k_skolemlaw26_light_0_is : k_skolemlaw26_light_0 = k_skolemlaw26_light_0r := hide_eq _
theorem e_skolemlaw26_light (fuel d : Nat) (x0 : List AV) (h : AH) :
   brun fuel (d + 1) F_skolemlaw26_light [(AV.agg x0)] h =
 (bif (List.all x0 AV.isCell) then ((Pt.field 2 (Pt.mk ⟨AH.next h, 0, 0⟩ (List.length x0))).bind fun p1 =>
   (AH.cell (AH.push h 1 x0) p1).bind fun u2 =>
   (AV.slice? u2).bind fun s3 =>
   ((bif ((decide ((40 : Int) < (s3.len : Int))) == false) then ((Pt.field 3 (Pt.mk ⟨AH.next h, 0, 0⟩ (List.length x0))).bind fun p4 =>
   (Pt.field 1 p4).bind fun p5 =>
   (AH.cell (AH.push h 1 x0) p5).bind fun u6 =>
   (AV.slice? u6).bind fun s7 =>
   some ((AV.bool (decide ((60 : Int) < (s7.len : Int)))), (AH.push h 1 x0))) else (some ((AV.bool true), (AH.push h 1 x0))) : Option (AV × AH))).bind fun r8 =>
   (AV.bool? r8.1).bind fun b9 =>
   ((bif (b9 == false) then ((Pt.field 3 (Pt.mk ⟨AH.next h, 0, 0⟩ (List.length x0))).bind fun p10 =>
   (Pt.field 2 p10).bind fun p11 =>
   (AH.cell r8.2 p11).bind fun u12 =>
   (AV.slice? u12).bind fun s13 =>
   some ((AV.bool (decide ((30 : Int) < (s13.len : Int)))), r8.2)) else (some ((AV.bool true), r8.2)) : Option (AV × AH))).bind fun r14 =>
   (AV.bool? r14.1).bind fun b15 =>
   ((bif (b15 == false) then ((Pt.field 6 (Pt.mk ⟨AH.next h, 0, 0⟩ (List.length x0))).bind fun p16 =>
   (AH.cell r14.2 p16).bind fun u17 =>
   (AV.slice? u17).bind fun s18 =>
   some ((AV.bool (decide ((30 : Int) < (s18.len : Int)))), r14.2)) else (some ((AV.bool true), r14.2)) : Option (AV × AH))).bind fun r19 =>
   (AV.bool? r19.1).bind fun b20 =>
   ((bif (b20 == false) then ((Pt.field 3 (Pt.mk ⟨AH.next h, 0, 0⟩ (List.length x0))).bind fun p21 =>
   (Pt.field 0 p21).bind fun p22 =>
   (AH.cell r19.2 p22).bind fun u23 =>
   (AV.int? .i64 u23).bind fun n24 =>
   some ((AV.bool (decide ((60 : Int) < n24))), r19.2)) else (some ((AV.bool true), r19.2)) : Option (AV × AH))).bind fun r25 =>
   (AV.bool? r25.1).bind fun b26 =>
   (bif b26 then (some ((AV.bool false), r25.2)) else ((l_skolemlaw26_light_0 fuel d fuel [(1, (AV.ptr (Pt.mk ⟨AH.next h, 0, 0⟩ (List.length x0)))), (3, .int .i64 0)] r25.2).bind fun p27 =>
   k_skolemlaw26_light_0 fuel d p27.1 p27.2.1 p27.2.2))) else (none)) := by
 generalize hh : brun = R
 rw [brun_is] at hh
 subst hh
 generalize hh : l_skolemlaw26_light_0 = R
 rw [l_skolemlaw26_light_0_is] at hh
 subst hh
 generalize hh : k_skolemlaw26_light_0 = R
 rw [k_skolemlaw26_light_0_is] at hh
 subst hh
 kernel_rfl
theorem l_skolemlaw26_light_0_eq (fuel d : Nat) (n : Nat) (x1 : Pt) (x3 : Int) (h : AH) :
   l_skolemlaw26_light_0 fuel d (n + 1) [(1, .ptr x1), (3, .int .i64 x3)] h =
 (Pt.field 6 x1).bind fun p1 =>
   (AH.cell h p1).bind fun u2 =>
   (AV.slice? u2).bind fun s3 =>
   (bif (decide (x3 < (s3.len : Int))) then ((Pt.field 6 x1).bind fun p4 =>
   (AH.cell h p4).bind fun u5 =>
   (AV.slice? u5).bind fun s6 =>
   (AH.addr h 2 s6 x3).bind fun p7 =>
   (Pt.field 1 p7).bind fun p8 =>
   (AH.cell h p8).bind fun u9 =>
   (AV.slice? u9).bind fun s10 =>
   ((bif ((decide ((20 : Int) < (s10.len : Int))) == false) then ((Pt.field 6 x1).bind fun p11 =>
   (AH.cell h p11).bind fun u12 =>
   (AV.slice? u12).bind fun s13 =>
   (AH.addr h 2 s13 x3).bind fun p14 =>
   (Pt.field 1 p14).bind fun p15 =>
   (AH.cell h p15).bind fun u16 =>
   (AV.slice? u16).bind fun s17 =>
   (run fuel d F_skolemmake_Right [(AV.slice s17), .int .i64 4000] h).bind fun r18 =>
   (AV.bool? r18.1).bind fun b19 =>
   some ((AV.bool (!b19)), r18.2)) else (some ((AV.bool true), h)) : Option (AV × AH))).bind fun r20 =>
   (AV.bool? r20.1).bind fun b21 =>
   (bif b21 then (some (.ret, [(2, .bool false)], r20.2)) else (l_skolemlaw26_light_0 fuel d n [(1, .ptr x1), (3, (AV.int .i64 (IntKind.wrap .i64 (x3 + (1 : Int)))))] r20.2))) else (some ((.exit 0), [(2, AV.bot)], h))) := by
 generalize hh : run = R
 rw [run_is] at hh
 subst hh
 generalize hh : l_skolemlaw26_light_0 = R
 rw [l_skolemlaw26_light_0_is] at hh
 subst hh
 kernel_rfl
theorem k_skolemlaw26_light_0_x0 (fuel d : Nat) (x2 : AV) (h : AH) :
   k_skolemlaw26_light_0 fuel d (.exit 0) [(2, x2)] h =
 some ((AV.bool true), h) := by
 generalize hh : k_skolemlaw26_light_0 = R
 rw [k_skolemlaw26_light_0_is] at hh
 subst hh
 kernel_rfl
theorem k_skolemlaw26_light_0_r (fuel d : Nat) (x2 : Bool) (h : AH) :
   k_skolemlaw26_light_0 fuel d .ret [(2, .bool x2)] h =
 some ((AV.bool x2), h) := by
 generalize hh : k_skolemlaw26_light_0 = R
 rw [k_skolemlaw26_light_0_is] at hh
 subst hh
 kernel_rfl
theorem e_cert_Value (fuel d : Nat) (x0 : List AV) (x1 : Bool) (h : AH) :
   brun fuel (d + 1) F_cert_Value [(AV.agg x0), .bool x1] h =
 (bif (List.all x0 AV.isCell) then ((Pt.field 0 (Pt.mk ⟨AH.next h, 0, 0⟩ (List.length x0))).bind fun p1 =>
   (AH.cell (AH.push h 1 x0) p1).bind fun u2 =>
   (AV.bool? u2).bind fun b3 =>
   some ((AV.bool (b3 == x1)), (AH.push h 1 x0))) else (none)) := by
 generalize hh : brun = R
 rw [brun_is] at hh
 subst hh
 kernel_rfl
theorem e_cert_Read (fuel d : Nat) (x0 : Sl) (h : AH) :
   brun fuel (d + 1) F_cert_Read [(AV.slice x0)] h =
 (bif (decide ((1048576 : Int) < (x0.len : Int))) then ((run fuel d F_cert_at [(AV.int .i64 1048576), err_api_ErrLimit] (AH.push h 1 [(AV.bool false), .bool false, .slice Sl.nil, .int .i64 0, .slice Sl.nil, .slice Sl.nil, .slice Sl.nil])).bind fun r1 =>
   (AH.storeAt r1.2 [(AV.bool false), .bool false, .slice Sl.nil, .int .i64 0, .slice Sl.nil, .slice Sl.nil, .slice Sl.nil] (Pt.mk ⟨AH.next h, 0, 0⟩ 7)).bind fun h2 =>
   (((((AH.cellsAt h2 7 (Pt.mk ⟨AH.next h, 0, 0⟩ 7)).bind fun c4 =>
   some ((AV.agg c4)) : Option AV).bind fun v3 =>
   some [v3, r1.1]) : Option (List AV)).map AV.tup).map fun v => (v, h2)) else ((run fuel d F_word_Line [(AV.slice x0), .int .i64 0] (AH.push h 1 [(AV.bool false), .bool false, .slice Sl.nil, .int .i64 0, .slice Sl.nil, .slice Sl.nil, .slice Sl.nil])).bind fun r5 =>
   (bif AV.isTup 3 r5.1 then ((AV.comp 0 r5.1).bind fun u6 =>
   (AV.str? u6).bind fun s7 =>
   (AV.comp 1 r5.1).bind fun u8 =>
   (AV.int? .i64 u8).bind fun n9 =>
   (AV.comp 2 r5.1).bind fun u10 =>
   (AV.bool? u10).bind fun b11 =>
   ((bif ((!b11) == false) then (some ((AV.bool (bif (!decide (s7 = (⟨#[115, 32, 116, 114, 117, 101]⟩ : ByteArray))) then (!decide (s7 = (⟨#[115, 32, 102, 97, 108, 115, 101]⟩ : ByteArray))) else false)), r5.2)) else (some ((AV.bool true), r5.2)) : Option (AV × AH))).bind fun r12 =>
   (AV.bool? r12.1).bind fun b13 =>
   (bif b13 then ((run fuel d F_cert_at [(AV.int .i64 0), err_api_ErrText] r12.2).bind fun r14 =>
   (AH.storeAt r14.2 [(AV.bool false), .bool false, .slice Sl.nil, .int .i64 0, .slice Sl.nil, .slice Sl.nil, .slice Sl.nil] (Pt.mk ⟨AH.next h, 0, 0⟩ 7)).bind fun h15 =>
   (((((AH.cellsAt h15 7 (Pt.mk ⟨AH.next h, 0, 0⟩ 7)).bind fun c17 =>
   some ((AV.agg c17)) : Option AV).bind fun v16 =>
   some [v16, r14.1]) : Option (List AV)).map AV.tup).map fun v => (v, h15)) else ((AH.storeAt (AH.push r12.2 1 [(AV.bool false), .bool false, .slice Sl.nil, .int .i64 0, .slice Sl.nil, .slice Sl.nil, .slice Sl.nil]) [(AV.bool (decide (s7 = (⟨#[115, 32, 116, 114, 117, 101]⟩ : ByteArray)))), .bool false, .slice Sl.nil, .int .i64 0, .slice Sl.nil, .slice Sl.nil, .slice Sl.nil] (Pt.mk ⟨AH.next r12.2, 0, 0⟩ 7)).bind fun h18 =>
   (run fuel d F_cert_player [(AV.slice x0), .int .i64 n9, (AV.ptr (Pt.mk ⟨AH.next r12.2, 0, 0⟩ 7))] h18).bind fun r19 =>
   (bif AV.isTup 2 r19.1 then ((AV.comp 0 r19.1).bind fun u20 =>
   (AV.int? .i64 u20).bind fun n21 =>
   (AV.comp 1 r19.1).bind fun u22 =>
   (nilTest .iface u22).bind fun b23 =>
   (bif (!b23) then ((AH.storeAt r19.2 [(AV.bool false), .bool false, .slice Sl.nil, .int .i64 0, .slice Sl.nil, .slice Sl.nil, .slice Sl.nil] (Pt.mk ⟨AH.next h, 0, 0⟩ 7)).bind fun h24 =>
   (((((AH.cellsAt h24 7 (Pt.mk ⟨AH.next h, 0, 0⟩ 7)).bind fun c26 =>
   some ((AV.agg c26)) : Option AV).bind fun v25 =>
   some [v25, u22]) : Option (List AV)).map AV.tup).map fun v => (v, h24)) else ((aHi (none : Option AV) (Sl.len x0)).bind fun hi27 =>
   (aLo (some (AV.int .i64 n21)) hi27).bind fun lo28 =>
   (aMx (none : Option AV) hi27).bind fun cl29 =>
   (bif (AH.hasSz r19.2 1 x0) then ((run fuel d F_proof_Read [(AV.slice (Sl.cut x0 1 lo28 hi27 cl29))] r19.2).bind fun r30 =>
   (bif AV.isTup 2 r30.1 then ((AV.comp 0 r30.1).bind fun u31 =>
   (AV.slice? u31).bind fun s32 =>
   (AV.comp 1 r30.1).bind fun u33 =>
   (Pt.field 6 (Pt.mk ⟨AH.next r12.2, 0, 0⟩ 7)).bind fun p34 =>
   (AH.storeAt r30.2 [(AV.slice s32)] p34).bind fun h35 =>
   (nilTest .iface u33).bind fun b36 =>
   (bif (!b36) then ((run fuel d F_cert_Behind [u33, .int .i64 n21] h35).bind fun r37 =>
   (AH.storeAt r37.2 [(AV.bool false), .bool false, .slice Sl.nil, .int .i64 0, .slice Sl.nil, .slice Sl.nil, .slice Sl.nil] (Pt.mk ⟨AH.next h, 0, 0⟩ 7)).bind fun h38 =>
   (((((AH.cellsAt h38 7 (Pt.mk ⟨AH.next h, 0, 0⟩ 7)).bind fun c40 =>
   some ((AV.agg c40)) : Option AV).bind fun v39 =>
   some [v39, r37.1]) : Option (List AV)).map AV.tup).map fun v => (v, h38)) else ((AH.cellsAt h35 7 (Pt.mk ⟨AH.next r12.2, 0, 0⟩ 7)).bind fun c41 =>
   (bif (!false && Nat.beq (List.length c41) 7 && List.all c41 AV.isCell) then ((AH.storeAt h35 c41 (Pt.mk ⟨AH.next h, 0, 0⟩ 7)).bind fun h42 =>
   (((((AH.cellsAt h42 7 (Pt.mk ⟨AH.next h, 0, 0⟩ 7)).bind fun c44 =>
   some ((AV.agg c44)) : Option AV).bind fun v43 =>
   some [v43, AV.nilif]) : Option (List AV)).map AV.tup).map fun v => (v, h42)) else (none))))) else none)) else (none))))) else none)))) else none))) := by
 generalize hh : run = R
 rw [run_is] at hh
 subst hh
 generalize hh : brun = R
 rw [brun_is] at hh
 subst hh
 kernel_rfl
theorem e_skolemref_SameCert (fuel d : Nat) (x0 : List AV) (x1 : List AV) (h : AH) :
   brun fuel (d + 1) F_skolemref_SameCert [(AV.agg x0), .agg x1] h =
 (bif (List.all x0 AV.isCell) then ((bif (List.all x1 AV.isCell) then ((Pt.field 0 (Pt.mk ⟨AH.next h, 0, 0⟩ (List.length x0))).bind fun p1 =>
   (AH.cell (AH.push (AH.push h 1 x0) 1 x1) p1).bind fun u2 =>
   (AV.bool? u2).bind fun b3 =>
   (Pt.field 0 (Pt.mk ⟨AH.next (AH.push h 1 x0), 0, 0⟩ (List.length x1))).bind fun p4 =>
   (AH.cell (AH.push (AH.push h 1 x0) 1 x1) p4).bind fun u5 =>
   (AV.bool? u5).bind fun b6 =>
   ((bif ((b3 == b6) == true) then ((Pt.field 1 (Pt.mk ⟨AH.next h, 0, 0⟩ (List.length x0))).bind fun p7 =>
   (AH.cell (AH.push (AH.push h 1 x0) 1 x1) p7).bind fun u8 =>
   (AV.bool? u8).bind fun b9 =>
   (Pt.field 1 (Pt.mk ⟨AH.next (AH.push h 1 x0), 0, 0⟩ (List.length x1))).bind fun p10 =>
   (AH.cell (AH.push (AH.push h 1 x0) 1 x1) p10).bind fun u11 =>
   (AV.bool? u11).bind fun b12 =>
   some ((AV.bool (b9 == b12)), (AH.push (AH.push h 1 x0) 1 x1))) else (some ((AV.bool false), (AH.push (AH.push h 1 x0) 1 x1))) : Option (AV × AH))).bind fun r13 =>
   (AV.bool? r13.1).bind fun b14 =>
   ((bif (b14 == true) then ((Pt.field 2 (Pt.mk ⟨AH.next h, 0, 0⟩ (List.length x0))).bind fun p15 =>
   (AH.cell r13.2 p15).bind fun u16 =>
   (AV.slice? u16).bind fun s17 =>
   (Pt.field 2 (Pt.mk ⟨AH.next (AH.push h 1 x0), 0, 0⟩ (List.length x1))).bind fun p18 =>
   (AH.cell r13.2 p18).bind fun u19 =>
   (AV.slice? u19).bind fun s20 =>
   (run fuel d F_skolemref_SameBools [(AV.slice s17), .slice s20] r13.2).bind fun r21 =>
   (AV.bool? r21.1).bind fun b22 =>
   some ((AV.bool b22), r21.2)) else (some ((AV.bool false), r13.2)) : Option (AV × AH))).bind fun r23 =>
   (AV.bool? r23.1).bind fun b24 =>
   ((bif (b24 == true) then ((Pt.field 3 (Pt.mk ⟨AH.next h, 0, 0⟩ (List.length x0))).bind fun p25 =>
   (AH.cellsAt r23.2 3 p25).bind fun c26 =>
   (Pt.field 3 (Pt.mk ⟨AH.next (AH.push h 1 x0), 0, 0⟩ (List.length x1))).bind fun p27 =>
   (AH.cellsAt r23.2 3 p27).bind fun c28 =>
   (run fuel d F_skolemref_SameCircuit [(AV.agg c26), .agg c28] r23.2).bind fun r29 =>
   (AV.bool? r29.1).bind fun b30 =>
   some ((AV.bool b30), r29.2)) else (some ((AV.bool false), r23.2)) : Option (AV × AH))).bind fun r31 =>
   (AV.bool? r31.1).bind fun b32 =>
   ((bif (b32 == true) then ((Pt.field 6 (Pt.mk ⟨AH.next h, 0, 0⟩ (List.length x0))).bind fun p33 =>
   (AH.cell r31.2 p33).bind fun u34 =>
   (AV.slice? u34).bind fun s35 =>
   (Pt.field 6 (Pt.mk ⟨AH.next (AH.push h 1 x0), 0, 0⟩ (List.length x1))).bind fun p36 =>
   (AH.cell r31.2 p36).bind fun u37 =>
   (AV.slice? u37).bind fun s38 =>
   (run fuel d F_skolemref_SameSteps [(AV.slice s35), .slice s38] r31.2).bind fun r39 =>
   (AV.bool? r39.1).bind fun b40 =>
   some ((AV.bool b40), r39.2)) else (some ((AV.bool false), r31.2)) : Option (AV × AH))).bind fun r41 =>
   (AV.bool? r41.1).bind fun b42 =>
   some ((AV.bool b42), r41.2)) else (none))) else (none)) := by
 generalize hh : run = R
 rw [run_is] at hh
 subst hh
 generalize hh : brun = R
 rw [brun_is] at hh
 subst hh
 kernel_rfl
noncomputable def s_skolemref8_Check_0 (fuel d : Nat) : Run := fun fr h k => aexec (Cf fuel F_skolemref8_Check) false (acall (C fuel) false d) (acall (C fuel) true d) 93 (csub [true, true, false, true, false, false] (fbody Go.Proofs.Tryz.f19)) (asub [true, true, false, true, false, false] an19) fr h k
noncomputable def l_skolemref8_Check_0r (fuel d : Nat) (n : Nat) (fr : Fr) (h : AH) : Option (AExit × Fr × AH) := aloop (s_skolemref8_Check_0 fuel d) (some [1, 3]) n fr h (kOut [1, 2])
noncomputable def l_skolemref8_Check_0 : Nat → Nat → Nat → Fr → AH → Option (AExit × Fr × AH) := hide l_skolemref8_Check_0r
theorem l_skolemref8_Check_0_is : l_skolemref8_Check_0 = l_skolemref8_Check_0r := hide_eq _
noncomputable def k_skolemref8_Check_0r (fuel d : Nat) : AExit → Fr → AH → Option (AV × AH) := (kBlock 0 (kSeq (Cf fuel F_skolemref8_Check) false (acall (C fuel) false d) (acall (C fuel) true d) 93 (csub [true, true, true] (fbody Go.Proofs.Tryz.f19)) (asub [true, true, true] an19) (kRet (Cf fuel F_skolemref8_Check) Go.Proofs.Tryz.f19.results.toList)))
noncomputable def k_skolemref8_Check_0 : Nat → Nat → AExit → Fr → AH → Option (AV × AH) := hide k_skolemref8_Check_0r
theorem k_skolemref8_Check_0_is : k_skolemref8_Check_0 = k_skolemref8_Check_0r := hide_eq _
noncomputable def s_skolemref8_Check_1 (fuel d : Nat) : Run := fun fr h k => aexec (Cf fuel F_skolemref8_Check) false (acall (C fuel) false d) (acall (C fuel) true d) 93 (csub [true, true, true, false, true, false, false] (fbody Go.Proofs.Tryz.f19)) (asub [true, true, true, false, true, false, false] an19) fr h k
noncomputable def l_skolemref8_Check_1r (fuel d : Nat) (n : Nat) (fr : Fr) (h : AH) : Option (AExit × Fr × AH) := aloop (s_skolemref8_Check_1 fuel d) (some [1, 6]) n fr h (kOut [2])
noncomputable def l_skolemref8_Check_1 : Nat → Nat → Nat → Fr → AH → Option (AExit × Fr × AH) := hide l_skolemref8_Check_1r
theorem l_skolemref8_Check_1_is : l_skolemref8_Check_1 = l_skolemref8_Check_1r := hide_eq _
noncomputable def k_skolemref8_Check_1r (fuel d : Nat) : AExit → Fr → AH → Option (AV × AH) := (kBlock 2 (kSeq (Cf fuel F_skolemref8_Check) false (acall (C fuel) false d) (acall (C fuel) true d) 93 (csub [true, true, true, true] (fbody Go.Proofs.Tryz.f19)) (asub [true, true, true, true] an19) (kRet (Cf fuel F_skolemref8_Check) Go.Proofs.Tryz.f19.results.toList)))
noncomputable def k_skolemref8_Check_1 : Nat → Nat → AExit → Fr → AH → Option (AV × AH) := hide k_skolemref8_Check_1r
theorem k_skolemref8_Check_1_is : k_skolemref8_Check_1 = k_skolemref8_Check_1r := hide_eq _
noncomputable def k_skolemref8_Check_2r (fuel d : Nat) (n : Nat) : AExit → Fr → AH → Option (AExit × Fr × AH) := (kSeq (Cf fuel F_skolemref8_Check) false (acall (C fuel) false d) (acall (C fuel) true d) 93 (csub [true, true, true, false, true, false, false, true, false, false, true] (fbody Go.Proofs.Tryz.f19)) (asub [true, true, true, false, true, false, false, true, false, false, true] an19) (kBlock 3 (kSeq (Cf fuel F_skolemref8_Check) false (acall (C fuel) false d) (acall (C fuel) true d) 93 (csub [true, true, true, false, true, false, false, true, true] (fbody Go.Proofs.Tryz.f19)) (asub [true, true, true, false, true, false, false, true, true] an19) (kLoop (s_skolemref8_Check_1 fuel d) (some [1, 6]) n (kOut [2])))))
noncomputable def k_skolemref8_Check_2 : Nat → Nat → Nat → AExit → Fr → AH → Option (AExit × Fr × AH) := hide k_skolemref8_Check_2r
theorem k_skolemref8_Check_2_is : k_skolemref8_Check_2 = k_skolemref8_Check_2r := hide_eq _
theorem e_skolemref8_Check (fuel d : Nat) (x0 : List AV) (h : AH) :
   brun fuel (d + 1) F_skolemref8_Check [(AV.agg x0)] h =
 (bif (List.all x0 AV.isCell) then ((Pt.field 0 (Pt.mk ⟨AH.next h, 0, 0⟩ (List.length x0))).bind fun p1 =>
   (AH.cell (AH.push h 1 x0) p1).bind fun u2 =>
   (AV.int? .i64 u2).bind fun n3 =>
   ((bif ((decide (n3 < (0 : Int))) == false) then ((Pt.field 0 (Pt.mk ⟨AH.next h, 0, 0⟩ (List.length x0))).bind fun p4 =>
   (AH.cell (AH.push h 1 x0) p4).bind fun u5 =>
   (AV.int? .i64 u5).bind fun n6 =>
   some ((AV.bool (decide ((8000 : Int) < n6))), (AH.push h 1 x0))) else (some ((AV.bool true), (AH.push h 1 x0))) : Option (AV × AH))).bind fun r7 =>
   (AV.bool? r7.1).bind fun b8 =>
   ((bif (b8 == false) then ((Pt.field 0 (Pt.mk ⟨AH.next h, 0, 0⟩ (List.length x0))).bind fun p9 =>
   (AH.cell r7.2 p9).bind fun u10 =>
   (AV.int? .i64 u10).bind fun n11 =>
   (Pt.field 1 (Pt.mk ⟨AH.next h, 0, 0⟩ (List.length x0))).bind fun p12 =>
   (AH.cell r7.2 p12).bind fun u13 =>
   (AV.slice? u13).bind fun s14 =>
   some ((AV.bool (decide ((8000 : Int) < (IntKind.wrap .i64 (n11 + (s14.len : Int)))))), r7.2)) else (some ((AV.bool true), r7.2)) : Option (AV × AH))).bind fun r15 =>
   (AV.bool? r15.1).bind fun b16 =>
   (bif b16 then (some ((AV.int .i64 102), r15.2)) else ((l_skolemref8_Check_0 fuel d fuel [(1, (AV.ptr (Pt.mk ⟨AH.next h, 0, 0⟩ (List.length x0)))), (3, .int .i64 0)] r15.2).bind fun p17 =>
   k_skolemref8_Check_0 fuel d p17.1 p17.2.1 p17.2.2))) else (none)) := by
 generalize hh : brun = R
 rw [brun_is] at hh
 subst hh
 generalize hh : l_skolemref8_Check_0 = R
 rw [l_skolemref8_Check_0_is] at hh
 subst hh
 generalize hh : k_skolemref8_Check_0 = R
 rw [k_skolemref8_Check_0_is] at hh
 subst hh
 kernel_rfl
theorem l_skolemref8_Check_0_eq (fuel d : Nat) (n : Nat) (x1 : Pt) (x3 : Int) (h : AH) :
   l_skolemref8_Check_0 fuel d (n + 1) [(1, .ptr x1), (3, .int .i64 x3)] h =
 (Pt.field 1 x1).bind fun p1 =>
   (AH.cell h p1).bind fun u2 =>
   (AV.slice? u2).bind fun s3 =>
   (bif (decide (x3 < (s3.len : Int))) then ((Pt.field 1 x1).bind fun p4 =>
   (AH.cell h p4).bind fun u5 =>
   (AV.slice? u5).bind fun s6 =>
   (AH.addr h 2 s6 x3).bind fun p7 =>
   (Pt.elem 1 2 (0 : Int) p7).bind fun p8 =>
   (AH.cell h p8).bind fun u9 =>
   (AV.int? .i64 u9).bind fun n10 =>
   (Pt.field 1 x1).bind fun p11 =>
   (AH.cell h p11).bind fun u12 =>
   (AV.slice? u12).bind fun s13 =>
   (AH.addr h 2 s13 x3).bind fun p14 =>
   (Pt.elem 1 2 (1 : Int) p14).bind fun p15 =>
   (AH.cell h p15).bind fun u16 =>
   (AV.int? .i64 u16).bind fun n17 =>
   ((bif ((bif (decide (n10 < (0 : Int))) then true else (decide (n17 < (0 : Int)))) == false) then ((Pt.field 0 x1).bind fun p18 =>
   (AH.cell h p18).bind fun u19 =>
   (AV.int? .i64 u19).bind fun n20 =>
   some ((AV.bool (decide ((IntKind.wrap .i64 ((2 : Int) * (IntKind.wrap .i64 ((IntKind.wrap .i64 (n20 + x3)) + (1 : Int))))) ≤ n10))), h)) else (some ((AV.bool true), h)) : Option (AV × AH))).bind fun r21 =>
   (AV.bool? r21.1).bind fun b22 =>
   (bif (bif b22 then true else (decide (n10 < n17))) then (some (.ret, [(1, .ptr x1), (2, .int .i64 104)], r21.2)) else (l_skolemref8_Check_0 fuel d n [(1, .ptr x1), (3, (AV.int .i64 (IntKind.wrap .i64 (x3 + (1 : Int)))))] r21.2))) else (some ((.exit 0), [(1, .ptr x1), (2, AV.bot)], h))) := by
 generalize hh : l_skolemref8_Check_0 = R
 rw [l_skolemref8_Check_0_is] at hh
 subst hh
 kernel_rfl
theorem k_skolemref8_Check_0_x0 (fuel d : Nat) (x1 : Pt) (x2 : AV) (h : AH) :
   k_skolemref8_Check_0 fuel d (.exit 0) [(1, .ptr x1), (2, x2)] h =
 (l_skolemref8_Check_1 fuel d fuel [(1, .ptr x1), (6, .int .i64 0)] h).bind fun p1 =>
   k_skolemref8_Check_1 fuel d p1.1 p1.2.1 p1.2.2 := by
 generalize hh : k_skolemref8_Check_0 = R
 rw [k_skolemref8_Check_0_is] at hh
 subst hh
 generalize hh : l_skolemref8_Check_1 = R
 rw [l_skolemref8_Check_1_is] at hh
 subst hh
 generalize hh : k_skolemref8_Check_1 = R
 rw [k_skolemref8_Check_1_is] at hh
 subst hh
 kernel_rfl
theorem k_skolemref8_Check_0_r (fuel d : Nat) (x1 : AV) (x2 : Int) (h : AH) :
   k_skolemref8_Check_0 fuel d .ret [(1, x1), (2, .int .i64 x2)] h =
 some ((AV.int .i64 x2), h) := by
 generalize hh : k_skolemref8_Check_0 = R
 rw [k_skolemref8_Check_0_is] at hh
 subst hh
 kernel_rfl
theorem l_skolemref8_Check_1_eq (fuel d : Nat) (n : Nat) (x1 : Pt) (x6 : Int) (h : AH) :
   l_skolemref8_Check_1 fuel d (n + 1) [(1, .ptr x1), (6, .int .i64 x6)] h =
 (Pt.field 2 x1).bind fun p1 =>
   (AH.cell h p1).bind fun u2 =>
   (AV.slice? u2).bind fun s3 =>
   (bif (decide (x6 < (s3.len : Int))) then (((Pt.field 2 x1).bind fun p4 =>
   (AH.cell h p4).bind fun u5 =>
   (AV.slice? u5).bind fun s6 =>
   (AH.addr h 1 s6 x6).bind fun p7 =>
   (AH.cell h p7).bind fun u8 =>
   (AV.int? .i64 u8).bind fun n9 =>
   (bif (decide (n9 < (0 : Int))) then (some (.normal, [(1, .ptr x1), (6, .int .i64 x6), (92, .bool true)], h)) else ((Pt.field 2 x1).bind fun p10 =>
   (AH.cell h p10).bind fun u11 =>
   (AV.slice? u11).bind fun s12 =>
   (AH.addr h 1 s12 x6).bind fun p13 =>
   (AH.cell h p13).bind fun u14 =>
   (AV.int? .i64 u14).bind fun n15 =>
   (Pt.field 0 x1).bind fun p16 =>
   (AH.cell h p16).bind fun u17 =>
   (AV.int? .i64 u17).bind fun n18 =>
   (Pt.field 1 x1).bind fun p19 =>
   (AH.cell h p19).bind fun u20 =>
   (AV.slice? u20).bind fun s21 =>
   some (.normal, [(1, .ptr x1), (6, .int .i64 x6), (92, (AV.bool (decide ((IntKind.wrap .i64 ((IntKind.wrap .i64 ((2 : Int) * (IntKind.wrap .i64 (n18 + (s21.len : Int))))) + (1 : Int))) < n15))))], h)))).bind fun p22 =>
   k_skolemref8_Check_2 fuel d n p22.1 p22.2.1 p22.2.2) else (some ((.exit 2), [(2, AV.bot)], h))) := by
 generalize hh : l_skolemref8_Check_1 = R
 rw [l_skolemref8_Check_1_is] at hh
 subst hh
 generalize hh : k_skolemref8_Check_2 = R
 rw [k_skolemref8_Check_2_is] at hh
 subst hh
 kernel_rfl
theorem k_skolemref8_Check_1_x2 (fuel d : Nat) (x2 : AV) (h : AH) :
   k_skolemref8_Check_1 fuel d (.exit 2) [(2, x2)] h =
 some ((AV.int .i64 0), h) := by
 generalize hh : k_skolemref8_Check_1 = R
 rw [k_skolemref8_Check_1_is] at hh
 subst hh
 kernel_rfl
theorem k_skolemref8_Check_1_r (fuel d : Nat) (x2 : Int) (h : AH) :
   k_skolemref8_Check_1 fuel d .ret [(2, .int .i64 x2)] h =
 some ((AV.int .i64 x2), h) := by
 generalize hh : k_skolemref8_Check_1 = R
 rw [k_skolemref8_Check_1_is] at hh
 subst hh
 kernel_rfl
theorem k_skolemref8_Check_2_n (fuel d : Nat) (n : Nat) (x1 : Pt) (x6 : Int) (x92 : Bool) (h : AH) :
   k_skolemref8_Check_2 fuel d n .normal [(1, .ptr x1), (6, .int .i64 x6), (92, .bool x92)] h =
 (bif x92 then (some (.ret, [(2, .int .i64 104)], h)) else (l_skolemref8_Check_1 fuel d n [(1, .ptr x1), (6, (AV.int .i64 (IntKind.wrap .i64 (x6 + (1 : Int)))))] h)) := by
 generalize hh : l_skolemref8_Check_1 = R
 rw [l_skolemref8_Check_1_is] at hh
 subst hh
 generalize hh : k_skolemref8_Check_2 = R
 rw [k_skolemref8_Check_2_is] at hh
 subst hh
 kernel_rfl
noncomputable def s_cert_Bytes_0 (fuel d : Nat) : Run := fun fr h k => aexec (Cf fuel F_cert_Bytes) false (acall (C fuel) false d) (acall (C fuel) true d) 45 (csub [true, true, true, false, true, false, true, true, false, false] (fbody Go.Proofs.Tryz.f20)) (asub [true, true, true, false, true, false, true, true, false, false] an20) fr h k
noncomputable def l_cert_Bytes_0r (fuel d : Nat) (n : Nat) (fr : Fr) (h : AH) : Option (AExit × Fr × AH) := aloop (s_cert_Bytes_0 fuel d) (some [1, 3, 17, 18, 19]) n fr h (kOut [1, 3])
noncomputable def l_cert_Bytes_0 : Nat → Nat → Nat → Fr → AH → Option (AExit × Fr × AH) := hide l_cert_Bytes_0r
theorem l_cert_Bytes_0_is : l_cert_Bytes_0 = l_cert_Bytes_0r := hide_eq _
noncomputable def k_cert_Bytes_0r (fuel d : Nat) : AExit → Fr → AH → Option (AExit × Fr × AH) := (kBlock 0 (kOut [1, 3]))
noncomputable def k_cert_Bytes_0 : Nat → Nat → AExit → Fr → AH → Option (AExit × Fr × AH) := hide k_cert_Bytes_0r
theorem k_cert_Bytes_0_is : k_cert_Bytes_0 = k_cert_Bytes_0r := hide_eq _
noncomputable def k_cert_Bytes_1r (fuel d : Nat) : AExit → Fr → AH → Option (AV × AH) := (kSeq (Cf fuel F_cert_Bytes) false (acall (C fuel) false d) (acall (C fuel) true d) 45 (csub [true, true, true, true] (fbody Go.Proofs.Tryz.f20)) (asub [true, true, true, true] an20) (kRet (Cf fuel F_cert_Bytes) Go.Proofs.Tryz.f20.results.toList))
noncomputable def k_cert_Bytes_1 : Nat → Nat → AExit → Fr → AH → Option (AV × AH) := hide k_cert_Bytes_1r
theorem k_cert_Bytes_1_is : k_cert_Bytes_1 = k_cert_Bytes_1r := hide_eq _
theorem e_cert_Bytes (fuel d : Nat) (x0 : List AV) (h : AH) :
   brun fuel (d + 1) F_cert_Bytes [(AV.agg x0)] h =
 (bif (List.all x0 AV.isCell) then ((Pt.field 0 (Pt.mk ⟨AH.next h, 0, 0⟩ (List.length x0))).bind fun p1 =>
   (AH.cell (AH.pushT (AH.push h 1 x0) (BT, 2) 1 [(AV.ptr Pt.nil), .slice Sl.nil]) p1).bind fun u2 =>
   (AV.bool? u2).bind fun b3 =>
   (run fuel d F_strconv_FormatBool [(AV.bool b3)] (AH.pushT (AH.push h 1 x0) (BT, 2) 1 [(AV.ptr Pt.nil), .slice Sl.nil])).bind fun r4 =>
   (AV.str? r4.1).bind fun s5 =>
   (bif Nat.ble (ByteArray.size (⟨#[115, 32]⟩ : ByteArray) + ByteArray.size s5) 9223372036854775807 then ((bif Nat.ble (ByteArray.size ((⟨#[115, 32]⟩ : ByteArray) ++ s5) + ByteArray.size (⟨#[10]⟩ : ByteArray)) 9223372036854775807 then ((run fuel d F_strings_Builder_WriteString [(AV.ptr (Pt.mk ⟨AH.next (AH.push h 1 x0), 0, 0⟩ 2)), (AV.str (((⟨#[115, 32]⟩ : ByteArray) ++ s5) ++ (⟨#[10]⟩ : ByteArray)))] r4.2).bind fun r6 =>
   (bif AV.isTup 2 r6.1 then ((AV.comp 0 r6.1).bind fun u7 =>
   (AV.int? .i64 u7).bind fun n8 =>
   (AV.comp 1 r6.1).bind fun u9 =>
   (Pt.field 1 (Pt.mk ⟨AH.next h, 0, 0⟩ (List.length x0))).bind fun p10 =>
   (AH.cell r6.2 p10).bind fun u11 =>
   (AV.bool? u11).bind fun b12 =>
   ((bif b12 then ((run fuel d F_strings_Builder_WriteString [(AV.ptr (Pt.mk ⟨AH.next (AH.push h 1 x0), 0, 0⟩ 2)), (AV.str (⟨#[119, 32]⟩ : ByteArray))] r6.2).bind fun r13 =>
   (bif AV.isTup 2 r13.1 then ((AV.comp 0 r13.1).bind fun u14 =>
   (AV.int? .i64 u14).bind fun n15 =>
   (AV.comp 1 r13.1).bind fun u16 =>
   (Pt.field 2 (Pt.mk ⟨AH.next h, 0, 0⟩ (List.length x0))).bind fun p17 =>
   (AH.cell r13.2 p17).bind fun u18 =>
   (AV.slice? u18).bind fun s19 =>
   (l_cert_Bytes_0 fuel d fuel [(1, (AV.ptr (Pt.mk ⟨AH.next h, 0, 0⟩ (List.length x0)))), (3, (AV.ptr (Pt.mk ⟨AH.next (AH.push h 1 x0), 0, 0⟩ 2))), (17, .slice s19), (18, (AV.int .i64 (s19.len : Int))), (19, .int .i64 0)] r13.2).bind fun p20 =>
   k_cert_Bytes_0 fuel d p20.1 p20.2.1 p20.2.2) else none)) else ((Pt.field 3 (Pt.mk ⟨AH.next h, 0, 0⟩ (List.length x0))).bind fun p21 =>
   (AH.cellsAt r6.2 3 p21).bind fun c22 =>
   (run fuel d F_aig_Bytes [(AV.agg c22)] r6.2).bind fun r23 =>
   (AV.slice? r23.1).bind fun s24 =>
   (run fuel d F_strconv_Itoa [(AV.int .i64 (s24.len : Int))] r23.2).bind fun r25 =>
   (AV.str? r25.1).bind fun s26 =>
   (bif Nat.ble (ByteArray.size (⟨#[102, 32]⟩ : ByteArray) + ByteArray.size s26) 9223372036854775807 then ((bif Nat.ble (ByteArray.size ((⟨#[102, 32]⟩ : ByteArray) ++ s26) + ByteArray.size (⟨#[10]⟩ : ByteArray)) 9223372036854775807 then ((run fuel d F_strings_Builder_WriteString [(AV.ptr (Pt.mk ⟨AH.next (AH.push h 1 x0), 0, 0⟩ 2)), (AV.str (((⟨#[102, 32]⟩ : ByteArray) ++ s26) ++ (⟨#[10]⟩ : ByteArray)))] r25.2).bind fun r27 =>
   (bif AV.isTup 2 r27.1 then ((AV.comp 0 r27.1).bind fun u28 =>
   (AV.int? .i64 u28).bind fun n29 =>
   (AV.comp 1 r27.1).bind fun u30 =>
   (run fuel d F_strings_Builder_Write [(AV.ptr (Pt.mk ⟨AH.next (AH.push h 1 x0), 0, 0⟩ 2)), .slice s24] r27.2).bind fun r31 =>
   (bif AV.isTup 2 r31.1 then ((AV.comp 0 r31.1).bind fun u32 =>
   (AV.int? .i64 u32).bind fun n33 =>
   (AV.comp 1 r31.1).bind fun u34 =>
   some (.normal, [(1, (AV.ptr (Pt.mk ⟨AH.next h, 0, 0⟩ (List.length x0)))), (3, (AV.ptr (Pt.mk ⟨AH.next (AH.push h 1 x0), 0, 0⟩ 2)))], r31.2)) else none)) else none)) else (none))) else (none))))).bind fun p35 =>
   k_cert_Bytes_1 fuel d p35.1 p35.2.1 p35.2.2) else none)) else (none))) else (none))) else (none)) := by
 generalize hh : run = R
 rw [run_is] at hh
 subst hh
 generalize hh : brun = R
 rw [brun_is] at hh
 subst hh
 generalize hh : l_cert_Bytes_0 = R
 rw [l_cert_Bytes_0_is] at hh
 subst hh
 generalize hh : k_cert_Bytes_0 = R
 rw [k_cert_Bytes_0_is] at hh
 subst hh
 generalize hh : k_cert_Bytes_1 = R
 rw [k_cert_Bytes_1_is] at hh
 subst hh
 kernel_rfl
theorem l_cert_Bytes_0_eq (fuel d : Nat) (n : Nat) (x1 : Pt) (x3 : Pt) (x17 : Sl) (x18 : Int) (x19 : Int) (h : AH) :
   l_cert_Bytes_0 fuel d (n + 1) [(1, .ptr x1), (3, .ptr x3), (17, .slice x17), (18, .int .i64 x18), (19, .int .i64 x19)] h =
 (bif (decide (x19 < x18)) then ((AH.addr h 1 x17 x19).bind fun p1 =>
   (AH.cell h p1).bind fun u2 =>
   (AV.bool? u2).bind fun b3 =>
   (bif b3 then ((run fuel d F_strings_Builder_WriteByte [(AV.ptr x3), (AV.int .u8 49)] h).bind fun r4 =>
   l_cert_Bytes_0 fuel d n [(1, .ptr x1), (3, .ptr x3), (17, .slice x17), (18, .int .i64 x18), (19, (AV.int .i64 (IntKind.wrap .i64 (x19 + (1 : Int)))))] r4.2) else ((run fuel d F_strings_Builder_WriteByte [(AV.ptr x3), (AV.int .u8 48)] h).bind fun r5 =>
   l_cert_Bytes_0 fuel d n [(1, .ptr x1), (3, .ptr x3), (17, .slice x17), (18, .int .i64 x18), (19, (AV.int .i64 (IntKind.wrap .i64 (x19 + (1 : Int)))))] r5.2))) else (some ((.exit 0), [(1, .ptr x1), (3, .ptr x3)], h))) := by
 generalize hh : run = R
 rw [run_is] at hh
 subst hh
 generalize hh : l_cert_Bytes_0 = R
 rw [l_cert_Bytes_0_is] at hh
 subst hh
 kernel_rfl
theorem k_cert_Bytes_0_x0 (fuel d : Nat) (x1 : Pt) (x3 : Pt) (h : AH) :
   k_cert_Bytes_0 fuel d (.exit 0) [(1, .ptr x1), (3, .ptr x3)] h =
 some (.normal, [(1, .ptr x1), (3, .ptr x3)], h) := by
 generalize hh : k_cert_Bytes_0 = R
 rw [k_cert_Bytes_0_is] at hh
 subst hh
 kernel_rfl
theorem k_cert_Bytes_1_n (fuel d : Nat) (x1 : Pt) (x3 : Pt) (h : AH) :
   k_cert_Bytes_1 fuel d .normal [(1, .ptr x1), (3, .ptr x3)] h =
 (run fuel d F_strings_Builder_WriteByte [(AV.ptr x3), (AV.int .u8 10)] h).bind fun r1 =>
   (Pt.field 6 x1).bind fun p2 =>
   (AH.cell r1.2 p2).bind fun u3 =>
   (AV.slice? u3).bind fun s4 =>
   (run fuel d F_proof_Bytes [(AV.slice s4)] r1.2).bind fun r5 =>
   (AV.slice? r5.1).bind fun s6 =>
   (run fuel d F_strings_Builder_Write [(AV.ptr x3), .slice s6] r5.2).bind fun r7 =>
   (bif AV.isTup 2 r7.1 then ((AV.comp 0 r7.1).bind fun u8 =>
   (AV.int? .i64 u8).bind fun n9 =>
   (AV.comp 1 r7.1).bind fun u10 =>
   (run fuel d F_strings_Builder_String [(AV.ptr x3)] r7.2).bind fun r11 =>
   (AV.str? r11.1).bind fun s12 =>
   some ((AV.slice (Sl.mk ⟨AH.next r11.2, 0, 0⟩ (ByteArray.size s12) false)), (AH.push r11.2 1 (bytesOf s12)))) else none) := by
 generalize hh : run = R
 rw [run_is] at hh
 subst hh
 generalize hh : k_cert_Bytes_1 = R
 rw [k_cert_Bytes_1_is] at hh
 subst hh
 kernel_rfl
noncomputable def s_skolemref_SameBytes_0 (fuel d : Nat) : Run := fun fr h k => aexec (Cf fuel F_skolemref_SameBytes) false (acall (C fuel) false d) (acall (C fuel) true d) 29 (csub [true, true, false, true, false, false] (fbody Go.Proofs.Tryz.f21)) (asub [true, true, false, true, false, false] an21) fr h k
noncomputable def l_skolemref_SameBytes_0r (fuel d : Nat) (n : Nat) (fr : Fr) (h : AH) : Option (AExit × Fr × AH) := aloop (s_skolemref_SameBytes_0 fuel d) (some [0, 1, 5]) n fr h (kOut [4])
noncomputable def l_skolemref_SameBytes_0 : Nat → Nat → Nat → Fr → AH → Option (AExit × Fr × AH) := hide l_skolemref_SameBytes_0r
theorem l_skolemref_SameBytes_0_is : l_skolemref_SameBytes_0 = l_skolemref_SameBytes_0r := hide_eq _
noncomputable def k_skolemref_SameBytes_0r (fuel d : Nat) : AExit → Fr → AH → Option (AV × AH) := (kBlock 0 (kSeq (Cf fuel F_skolemref_SameBytes) false (acall (C fuel) false d) (acall (C fuel) true d) 29 (csub [true, true, true] (fbody Go.Proofs.Tryz.f21)) (asub [true, true, true] an21) (kRet (Cf fuel F_skolemref_SameBytes) Go.Proofs.Tryz.f21.results.toList)))
noncomputable def k_skolemref_SameBytes_0 : Nat → Nat → AExit → Fr → AH → Option (AV × AH) := hide k_skolemref_SameBytes_0r
theorem k_skolemref_SameBytes_0_is : k_skolemref_SameBytes_0 = k_skolemref_SameBytes_0r := hide_eq _
theorem e_skolemref_SameBytes (fuel d : Nat) (x0 : Sl) (x1 : Sl) (h : AH) :
   brun fuel (d + 1) F_skolemref_SameBytes [(AV.slice x0), .slice x1] h =
 (bif (!decide ((x0.len : Int) = (x1.len : Int))) then (some ((AV.bool false), h)) else ((l_skolemref_SameBytes_0 fuel d fuel [(0, .slice x0), (1, .slice x1), (5, .int .i64 0)] h).bind fun p1 =>
   k_skolemref_SameBytes_0 fuel d p1.1 p1.2.1 p1.2.2)) := by
 generalize hh : brun = R
 rw [brun_is] at hh
 subst hh
 generalize hh : l_skolemref_SameBytes_0 = R
 rw [l_skolemref_SameBytes_0_is] at hh
 subst hh
 generalize hh : k_skolemref_SameBytes_0 = R
 rw [k_skolemref_SameBytes_0_is] at hh
 subst hh
 kernel_rfl
theorem l_skolemref_SameBytes_0_eq (fuel d : Nat) (n : Nat) (x0 : Sl) (x1 : Sl) (x5 : Int) (h : AH) :
   l_skolemref_SameBytes_0 fuel d (n + 1) [(0, .slice x0), (1, .slice x1), (5, .int .i64 x5)] h =
 (bif (decide (x5 < (x0.len : Int))) then ((AH.addr h 1 x0 x5).bind fun p1 =>
   (AH.cell h p1).bind fun u2 =>
   (AV.int? .u8 u2).bind fun n3 =>
   (AH.addr h 1 x1 x5).bind fun p4 =>
   (AH.cell h p4).bind fun u5 =>
   (AV.int? .u8 u5).bind fun n6 =>
   (bif (!(decide (n3 = n6))) then (some (.ret, [(4, .bool false)], h)) else (l_skolemref_SameBytes_0 fuel d n [(0, .slice x0), (1, .slice x1), (5, (AV.int .i64 (IntKind.wrap .i64 (x5 + (1 : Int)))))] h))) else (some ((.exit 0), [(4, AV.bot)], h))) := by
 generalize hh : l_skolemref_SameBytes_0 = R
 rw [l_skolemref_SameBytes_0_is] at hh
 subst hh
 kernel_rfl
theorem k_skolemref_SameBytes_0_x0 (fuel d : Nat) (x4 : AV) (h : AH) :
   k_skolemref_SameBytes_0 fuel d (.exit 0) [(4, x4)] h =
 some ((AV.bool true), h) := by
 generalize hh : k_skolemref_SameBytes_0 = R
 rw [k_skolemref_SameBytes_0_is] at hh
 subst hh
 kernel_rfl
noncomputable def k_skolemref23_CertBytes_0r (fuel d : Nat) : AExit → Fr → AH → Option (AV × AH) := (kSeq (Cf fuel F_skolemref23_CertBytes) false (acall (C fuel) false d) (acall (C fuel) true d) 56 (csub [true, true, true] (fbody Go.Proofs.Tryz.f22)) (asub [true, true, true] an22) (kRet (Cf fuel F_skolemref23_CertBytes) Go.Proofs.Tryz.f22.results.toList))
noncomputable def k_skolemref23_CertBytes_0 : Nat → Nat → AExit → Fr → AH → Option (AV × AH) := hide k_skolemref23_CertBytes_0r
theorem k_skolemref23_CertBytes_0_is : k_skolemref23_CertBytes_0 = k_skolemref23_CertBytes_0r := hide_eq _
noncomputable def s_skolemref23_CertBytes_0 (fuel d : Nat) : Run := fun fr h k => aexec (Cf fuel F_skolemref23_CertBytes) false (acall (C fuel) false d) (acall (C fuel) true d) 56 (csub [true, true, true, false, true, false, true, true, false, false] (fbody Go.Proofs.Tryz.f22)) (asub [true, true, true, false, true, false, true, true, false, false] an22) fr h k
noncomputable def l_skolemref23_CertBytes_0r (fuel d : Nat) (n : Nat) (fr : Fr) (h : AH) : Option (AExit × Fr × AH) := aloop (s_skolemref23_CertBytes_0 fuel d) (some [1, 3, 4]) n fr h (kOut [1, 3])
noncomputable def l_skolemref23_CertBytes_0 : Nat → Nat → Nat → Fr → AH → Option (AExit × Fr × AH) := hide l_skolemref23_CertBytes_0r
theorem l_skolemref23_CertBytes_0_is : l_skolemref23_CertBytes_0 = l_skolemref23_CertBytes_0r := hide_eq _
noncomputable def k_skolemref23_CertBytes_1r (fuel d : Nat) : AExit → Fr → AH → Option (AExit × Fr × AH) := (kBlock 0 (kOut [1, 3]))
noncomputable def k_skolemref23_CertBytes_1 : Nat → Nat → AExit → Fr → AH → Option (AExit × Fr × AH) := hide k_skolemref23_CertBytes_1r
theorem k_skolemref23_CertBytes_1_is : k_skolemref23_CertBytes_1 = k_skolemref23_CertBytes_1r := hide_eq _
noncomputable def k_skolemref23_CertBytes_2r (fuel d : Nat) : AExit → Fr → AH → Option (AV × AH) := (kSeq (Cf fuel F_skolemref23_CertBytes) false (acall (C fuel) false d) (acall (C fuel) true d) 56 (csub [true, true, true, true] (fbody Go.Proofs.Tryz.f22)) (asub [true, true, true, true] an22) (kRet (Cf fuel F_skolemref23_CertBytes) Go.Proofs.Tryz.f22.results.toList))
noncomputable def k_skolemref23_CertBytes_2 : Nat → Nat → AExit → Fr → AH → Option (AV × AH) := hide k_skolemref23_CertBytes_2r
theorem k_skolemref23_CertBytes_2_is : k_skolemref23_CertBytes_2 = k_skolemref23_CertBytes_2r := hide_eq _
theorem e_skolemref23_CertBytes (fuel d : Nat) (x0 : List AV) (h : AH) :
   brun fuel (d + 1) F_skolemref23_CertBytes [(AV.agg x0)] h =
 (bif (List.all x0 AV.isCell) then ((bif (AH.ownAt (AH.push (AH.push h 1 x0) 1 [(AV.int .u8 115), (AV.int .u8 32), (AV.int .u8 102), (AV.int .u8 97), (AV.int .u8 108), (AV.int .u8 115), (AV.int .u8 101), (AV.int .u8 10)]) (AH.next (AH.push h 1 x0))) then ((Pt.field 0 (Pt.mk ⟨AH.next h, 0, 0⟩ (List.length x0))).bind fun p1 =>
   (AH.cell (AH.push (AH.push h 1 x0) 1 [(AV.int .u8 115), (AV.int .u8 32), (AV.int .u8 102), (AV.int .u8 97), (AV.int .u8 108), (AV.int .u8 115), (AV.int .u8 101), (AV.int .u8 10)]) p1).bind fun u2 =>
   (AV.bool? u2).bind fun b3 =>
   ((bif b3 then ((bif (AH.ownAt (AH.push (AH.push (AH.push h 1 x0) 1 [(AV.int .u8 115), (AV.int .u8 32), (AV.int .u8 102), (AV.int .u8 97), (AV.int .u8 108), (AV.int .u8 115), (AV.int .u8 101), (AV.int .u8 10)]) 1 [(AV.int .u8 115), (AV.int .u8 32), (AV.int .u8 116), (AV.int .u8 114), (AV.int .u8 117), (AV.int .u8 101), (AV.int .u8 10)]) (AH.next (AH.push (AH.push h 1 x0) 1 [(AV.int .u8 115), (AV.int .u8 32), (AV.int .u8 102), (AV.int .u8 97), (AV.int .u8 108), (AV.int .u8 115), (AV.int .u8 101), (AV.int .u8 10)]))) then (some (.normal, [(1, (AV.ptr (Pt.mk ⟨AH.next h, 0, 0⟩ (List.length x0)))), (3, (AV.slice (Sl.mk ⟨AH.next (AH.push (AH.push h 1 x0) 1 [(AV.int .u8 115), (AV.int .u8 32), (AV.int .u8 102), (AV.int .u8 97), (AV.int .u8 108), (AV.int .u8 115), (AV.int .u8 101), (AV.int .u8 10)]), 0, 0⟩ 7 true)))], (AH.push (AH.push (AH.push h 1 x0) 1 [(AV.int .u8 115), (AV.int .u8 32), (AV.int .u8 102), (AV.int .u8 97), (AV.int .u8 108), (AV.int .u8 115), (AV.int .u8 101), (AV.int .u8 10)]) 1 [(AV.int .u8 115), (AV.int .u8 32), (AV.int .u8 116), (AV.int .u8 114), (AV.int .u8 117), (AV.int .u8 101), (AV.int .u8 10)]))) else (none))) else (some (.normal, [(1, (AV.ptr (Pt.mk ⟨AH.next h, 0, 0⟩ (List.length x0)))), (3, (AV.slice (Sl.mk ⟨AH.next (AH.push h 1 x0), 0, 0⟩ 8 true)))], (AH.push (AH.push h 1 x0) 1 [(AV.int .u8 115), (AV.int .u8 32), (AV.int .u8 102), (AV.int .u8 97), (AV.int .u8 108), (AV.int .u8 115), (AV.int .u8 101), (AV.int .u8 10)]))))).bind fun p4 =>
   k_skolemref23_CertBytes_0 fuel d p4.1 p4.2.1 p4.2.2) else (none))) else (none)) := by
 generalize hh : brun = R
 rw [brun_is] at hh
 subst hh
 generalize hh : k_skolemref23_CertBytes_0 = R
 rw [k_skolemref23_CertBytes_0_is] at hh
 subst hh
 kernel_rfl
theorem k_skolemref23_CertBytes_0_n (fuel d : Nat) (x1 : Pt) (x3 : Sl) (h : AH) :
   k_skolemref23_CertBytes_0 fuel d .normal [(1, .ptr x1), (3, .slice x3)] h =
 (Pt.field 1 x1).bind fun p1 =>
   (AH.cell h p1).bind fun u2 =>
   (AV.bool? u2).bind fun b3 =>
   ((bif b3 then ((AH.sliceCells (AH.push h 1 [(AV.int .u8 119), (AV.int .u8 32)]) 1 (Sl.mk ⟨AH.next h, 0, 0⟩ 2 true)).bind fun xs4 =>
   (AH.append (AH.push h 1 [(AV.int .u8 119), (AV.int .u8 32)]) false 1 1 x3 (Sl.mk ⟨AH.next h, 0, 0⟩ 2 true).len xs4).bind fun a5 =>
   (l_skolemref23_CertBytes_0 fuel d fuel [(1, .ptr x1), (3, .slice a5.1), (4, .int .i64 0)] a5.2).bind fun p6 =>
   k_skolemref23_CertBytes_1 fuel d p6.1 p6.2.1 p6.2.2) else ((Pt.field 3 x1).bind fun p7 =>
   (AH.cellsAt h 3 p7).bind fun c8 =>
   (run fuel d F_skolemref8_AigBytes [(AV.agg c8)] h).bind fun r9 =>
   (AV.slice? r9.1).bind fun s10 =>
   (AH.sliceCells (AH.push r9.2 1 [(AV.int .u8 102), (AV.int .u8 32)]) 1 (Sl.mk ⟨AH.next r9.2, 0, 0⟩ 2 true)).bind fun xs11 =>
   (AH.append (AH.push r9.2 1 [(AV.int .u8 102), (AV.int .u8 32)]) false 1 1 x3 (Sl.mk ⟨AH.next r9.2, 0, 0⟩ 2 true).len xs11).bind fun a12 =>
   (run fuel d F_strconv_AppendInt [(AV.slice a12.1), (AV.int .i64 (s10.len : Int)), .int .i64 10] a12.2).bind fun r13 =>
   (AV.slice? r13.1).bind fun s14 =>
   (AH.sliceCells (AH.push r13.2 1 [(AV.int .u8 10)]) 1 (Sl.mk ⟨AH.next r13.2, 0, 0⟩ 1 true)).bind fun xs15 =>
   (AH.append (AH.push r13.2 1 [(AV.int .u8 10)]) false 1 1 s14 (Sl.mk ⟨AH.next r13.2, 0, 0⟩ 1 true).len xs15).bind fun a16 =>
   (AH.sliceCells a16.2 1 s10).bind fun xs17 =>
   (AH.append a16.2 false 1 1 a16.1 s10.len xs17).bind fun a18 =>
   some (.normal, [(1, .ptr x1), (3, .slice a18.1)], a18.2)))).bind fun p19 =>
   k_skolemref23_CertBytes_2 fuel d p19.1 p19.2.1 p19.2.2 := by
 generalize hh : run = R
 rw [run_is] at hh
 subst hh
 generalize hh : k_skolemref23_CertBytes_0 = R
 rw [k_skolemref23_CertBytes_0_is] at hh
 subst hh
 generalize hh : l_skolemref23_CertBytes_0 = R
 rw [l_skolemref23_CertBytes_0_is] at hh
 subst hh
 generalize hh : k_skolemref23_CertBytes_1 = R
 rw [k_skolemref23_CertBytes_1_is] at hh
 subst hh
 generalize hh : k_skolemref23_CertBytes_2 = R
 rw [k_skolemref23_CertBytes_2_is] at hh
 subst hh
 kernel_rfl
theorem l_skolemref23_CertBytes_0_eq (fuel d : Nat) (n : Nat) (x1 : Pt) (x3 : Sl) (x4 : Int) (h : AH) :
   l_skolemref23_CertBytes_0 fuel d (n + 1) [(1, .ptr x1), (3, .slice x3), (4, .int .i64 x4)] h =
 (Pt.field 2 x1).bind fun p1 =>
   (AH.cell h p1).bind fun u2 =>
   (AV.slice? u2).bind fun s3 =>
   (bif (decide (x4 < (s3.len : Int))) then ((Pt.field 2 x1).bind fun p4 =>
   (AH.cell h p4).bind fun u5 =>
   (AV.slice? u5).bind fun s6 =>
   (AH.addr h 1 s6 x4).bind fun p7 =>
   (AH.cell h p7).bind fun u8 =>
   (AV.bool? u8).bind fun b9 =>
   (run fuel d F_skolemref23_one [(AV.bool b9)] h).bind fun r10 =>
   (AV.int? .i64 r10.1).bind fun n11 =>
   (AH.append r10.2 false 1 1 x3 1 [(AV.int .u8 (IntKind.wrap .u8 (IntKind.wrap .i64 ((48 : Int) + n11))))]).bind fun a12 =>
   l_skolemref23_CertBytes_0 fuel d n [(1, .ptr x1), (3, .slice a12.1), (4, (AV.int .i64 (IntKind.wrap .i64 (x4 + (1 : Int)))))] a12.2) else (some ((.exit 0), [(1, .ptr x1), (3, .slice x3)], h))) := by
 generalize hh : run = R
 rw [run_is] at hh
 subst hh
 generalize hh : l_skolemref23_CertBytes_0 = R
 rw [l_skolemref23_CertBytes_0_is] at hh
 subst hh
 kernel_rfl
theorem k_skolemref23_CertBytes_1_x0 (fuel d : Nat) (x1 : Pt) (x3 : Sl) (h : AH) :
   k_skolemref23_CertBytes_1 fuel d (.exit 0) [(1, .ptr x1), (3, .slice x3)] h =
 some (.normal, [(1, .ptr x1), (3, .slice x3)], h) := by
 generalize hh : k_skolemref23_CertBytes_1 = R
 rw [k_skolemref23_CertBytes_1_is] at hh
 subst hh
 kernel_rfl
theorem k_skolemref23_CertBytes_2_n (fuel d : Nat) (x1 : Pt) (x3 : Sl) (h : AH) :
   k_skolemref23_CertBytes_2 fuel d .normal [(1, .ptr x1), (3, .slice x3)] h =
 (AH.sliceCells (AH.push h 1 [(AV.int .u8 10)]) 1 (Sl.mk ⟨AH.next h, 0, 0⟩ 1 true)).bind fun xs1 =>
   (AH.append (AH.push h 1 [(AV.int .u8 10)]) false 1 1 x3 (Sl.mk ⟨AH.next h, 0, 0⟩ 1 true).len xs1).bind fun a2 =>
   (Pt.field 6 x1).bind fun p3 =>
   (AH.cell a2.2 p3).bind fun u4 =>
   (AV.slice? u4).bind fun s5 =>
   same ((AH.cell (AH.push h 1 [(AV.int .u8 10)]) p3).bind fun u12 =>
   (AV.slice? u12).bind fun s13 =>
   some ((AV.slice s13), (AH.push h 1 [(AV.int .u8 10)]))) ((AV.slice s5), (AH.push h 1 [(AV.int .u8 10)])) (
   same ((AH.cell h p3).bind fun u10 =>
   (AV.slice? u10).bind fun s11 =>
   some ((AV.slice s11), h)) ((AV.slice s5), h) (
   (run fuel d F_skolemref20_Bytes [(AV.slice s5)] a2.2).bind fun r6 =>
   (AV.slice? r6.1).bind fun s7 =>
   (AH.sliceCells r6.2 1 s7).bind fun xs8 =>
   (AH.append r6.2 false 1 1 a2.1 s7.len xs8).bind fun a9 =>
   some ((AV.slice a9.1), a9.2))) := by
 generalize hh : run = R
 rw [run_is] at hh
 subst hh
 generalize hh : k_skolemref23_CertBytes_2 = R
 rw [k_skolemref23_CertBytes_2_is] at hh
 subst hh
 kernel_rfl
noncomputable def s_skolemmake_Right_0 (fuel d : Nat) : Run := fun fr h k => aexec (Cf fuel F_skolemmake_Right) false (acall (C fuel) false d) (acall (C fuel) true d) 34 (csub [true, false, true, false, false] (fbody Go.Proofs.Tryz.f24)) (asub [true, false, true, false, false] an24) fr h k
noncomputable def l_skolemmake_Right_0r (fuel d : Nat) (n : Nat) (fr : Fr) (h : AH) : Option (AExit × Fr × AH) := aloop (s_skolemmake_Right_0 fuel d) (some [0, 1, 5]) n fr h (kOut [4])
noncomputable def l_skolemmake_Right_0 : Nat → Nat → Nat → Fr → AH → Option (AExit × Fr × AH) := hide l_skolemmake_Right_0r
theorem l_skolemmake_Right_0_is : l_skolemmake_Right_0 = l_skolemmake_Right_0r := hide_eq _
noncomputable def k_skolemmake_Right_0r (fuel d : Nat) : AExit → Fr → AH → Option (AV × AH) := (kBlock 0 (kSeq (Cf fuel F_skolemmake_Right) false (acall (C fuel) false d) (acall (C fuel) true d) 34 (csub [true, true] (fbody Go.Proofs.Tryz.f24)) (asub [true, true] an24) (kRet (Cf fuel F_skolemmake_Right) Go.Proofs.Tryz.f24.results.toList)))
noncomputable def k_skolemmake_Right_0 : Nat → Nat → AExit → Fr → AH → Option (AV × AH) := hide k_skolemmake_Right_0r
theorem k_skolemmake_Right_0_is : k_skolemmake_Right_0 = k_skolemmake_Right_0r := hide_eq _
theorem e_skolemmake_Right (fuel d : Nat) (x0 : Sl) (x1 : Int) (h : AH) :
   brun fuel (d + 1) F_skolemmake_Right [(AV.slice x0), .int .i64 x1] h =
 (l_skolemmake_Right_0 fuel d fuel [(0, .slice x0), (1, .int .i64 x1), (5, .int .i64 0)] h).bind fun p1 =>
   k_skolemmake_Right_0 fuel d p1.1 p1.2.1 p1.2.2 := by
 generalize hh : brun = R
 rw [brun_is] at hh
 subst hh
 generalize hh : l_skolemmake_Right_0 = R
 rw [l_skolemmake_Right_0_is] at hh
 subst hh
 generalize hh : k_skolemmake_Right_0 = R
 rw [k_skolemmake_Right_0_is] at hh
 subst hh
 kernel_rfl
theorem l_skolemmake_Right_0_eq (fuel d : Nat) (n : Nat) (x0 : Sl) (x1 : Int) (x5 : Int) (h : AH) :
   l_skolemmake_Right_0 fuel d (n + 1) [(0, .slice x0), (1, .int .i64 x1), (5, .int .i64 x5)] h =
 (bif (decide (x5 < (x0.len : Int))) then ((AH.addr h 1 x0 x5).bind fun p1 =>
   (AH.cell h p1).bind fun u2 =>
   (AV.int? .i64 u2).bind fun n3 =>
   ((bif ((decide (n3 = (0 : Int))) == false) then ((AH.addr h 1 x0 x5).bind fun p4 =>
   (AH.cell h p4).bind fun u5 =>
   (AV.int? .i64 u5).bind fun n6 =>
   some ((AV.bool (decide (x1 < n6))), h)) else (some ((AV.bool true), h)) : Option (AV × AH))).bind fun r7 =>
   (AV.bool? r7.1).bind fun b8 =>
   ((bif (b8 == false) then ((AH.addr r7.2 1 x0 x5).bind fun p9 =>
   (AH.cell r7.2 p9).bind fun u10 =>
   (AV.int? .i64 u10).bind fun n11 =>
   some ((AV.bool (decide (n11 < (IntKind.wrap .i64 (0 - x1))))), r7.2)) else (some ((AV.bool true), r7.2)) : Option (AV × AH))).bind fun r12 =>
   (AV.bool? r12.1).bind fun b13 =>
   (bif b13 then (some (.ret, [(4, .bool false)], r12.2)) else (l_skolemmake_Right_0 fuel d n [(0, .slice x0), (1, .int .i64 x1), (5, (AV.int .i64 (IntKind.wrap .i64 (x5 + (1 : Int)))))] r12.2))) else (some ((.exit 0), [(4, AV.bot)], h))) := by
 generalize hh : l_skolemmake_Right_0 = R
 rw [l_skolemmake_Right_0_is] at hh
 subst hh
 kernel_rfl
theorem k_skolemmake_Right_0_x0 (fuel d : Nat) (x4 : AV) (h : AH) :
   k_skolemmake_Right_0 fuel d (.exit 0) [(4, x4)] h =
 some ((AV.bool true), h) := by
 generalize hh : k_skolemmake_Right_0 = R
 rw [k_skolemmake_Right_0_is] at hh
 subst hh
 kernel_rfl
theorem k_skolemmake_Right_0_r (fuel d : Nat) (x4 : Bool) (h : AH) :
   k_skolemmake_Right_0 fuel d .ret [(4, .bool x4)] h =
 some ((AV.bool x4), h) := by
 generalize hh : k_skolemmake_Right_0 = R
 rw [k_skolemmake_Right_0_is] at hh
 subst hh
 kernel_rfl
theorem e_word_Line (fuel d : Nat) (x0 : Sl) (x1 : Int) (h : AH) :
   brun fuel (d + 1) F_word_Line [(AV.slice x0), .int .i64 x1] h =
 (bif (bif (decide (x1 < (0 : Int))) then true else (decide ((x0.len : Int) ≤ x1))) then (some ((AV.tup [(AV.str (⟨#[]⟩ : ByteArray)), .int .i64 0, .bool false]), h)) else ((aHi (none : Option AV) (Sl.len x0)).bind fun hi1 =>
   (aLo (some (AV.int .i64 x1)) hi1).bind fun lo2 =>
   (aMx (none : Option AV) hi1).bind fun cl3 =>
   (bif (AH.hasSz h 1 x0) then ((run fuel d F_bytes_IndexByte [(AV.slice (Sl.cut x0 1 lo2 hi1 cl3)), (AV.int .u8 10)] h).bind fun r4 =>
   (AV.int? .i64 r4.1).bind fun n5 =>
   (bif (decide (n5 < (0 : Int))) then (some ((AV.tup [(AV.str (⟨#[]⟩ : ByteArray)), .int .i64 0, .bool false]), r4.2)) else ((aHi (some (AV.int .i64 (IntKind.wrap .i64 (x1 + n5)))) (Sl.len x0)).bind fun hi6 =>
   (aLo (some (AV.int .i64 x1)) hi6).bind fun lo7 =>
   (aMx (none : Option AV) hi6).bind fun cl8 =>
   (bif (AH.hasSz r4.2 1 x0) then ((AH.sliceCells r4.2 1 (Sl.cut x0 1 lo7 hi6 cl8)).bind fun c9 =>
   (bytesFrom c9).bind fun bs10 =>
   some ((AV.tup [(AV.str (⟨List.toArray bs10⟩ : ByteArray)), (AV.int .i64 (IntKind.wrap .i64 ((IntKind.wrap .i64 (x1 + n5)) + (1 : Int)))), .bool true]), r4.2)) else (none))))) else (none)))) := by
 generalize hh : run = R
 rw [run_is] at hh
 subst hh
 generalize hh : brun = R
 rw [brun_is] at hh
 subst hh
 kernel_rfl
theorem e_cert_player (fuel d : Nat) (x0 : Sl) (x1 : Int) (x2 : Pt) (h : AH) :
   run fuel (d + 1) F_cert_player [(AV.slice x0), .int .i64 x1, .ptr x2] h =
 (run fuel d F_word_Line [(AV.slice x0), .int .i64 x1] h).bind fun r1 =>
   (bif AV.isTup 3 r1.1 then ((AV.comp 0 r1.1).bind fun u2 =>
   (AV.str? u2).bind fun s3 =>
   (AV.comp 1 r1.1).bind fun u4 =>
   (AV.int? .i64 u4).bind fun n5 =>
   (AV.comp 2 r1.1).bind fun u6 =>
   (AV.bool? u6).bind fun b7 =>
   ((bif ((bif (!b7) then true else (decide (((ByteArray.size s3 : Nat) : Int) < (2 : Int)))) == false) then ((strAt s3 (1 : Int)).bind fun n8 =>
   some ((AV.bool (!decide (n8 = (32 : Int)))), r1.2)) else (some ((AV.bool true), r1.2)) : Option (AV × AH))).bind fun r9 =>
   (AV.bool? r9.1).bind fun b10 =>
   (bif b10 then ((run fuel d F_cert_at [(AV.int .i64 x1), err_api_ErrText] r9.2).bind fun r11 =>
   some ((AV.tup [(AV.int .i64 0), r11.1]), r11.2)) else ((strAt s3 (0 : Int)).bind fun n12 =>
   (bif (decide (n12 = (119 : Int))) then ((Pt.chk x2).bind fun p13 =>
   (Pt.field 1 p13).bind fun p14 =>
   (AH.storeAt r9.2 [(AV.bool true)] p14).bind fun h15 =>
   (aHi (none : Option AV) (ByteArray.size s3)).bind fun hi16 =>
   (aLo (some (AV.int .i64 2)) hi16).bind fun lo17 =>
   (run fuel d F_word_Bits [(AV.str (ByteArray.extract s3 lo17 hi16))] h15).bind fun r18 =>
   (bif AV.isTup 2 r18.1 then ((AV.comp 0 r18.1).bind fun u19 =>
   (AV.slice? u19).bind fun s20 =>
   (AV.comp 1 r18.1).bind fun u21 =>
   (AV.bool? u21).bind fun b22 =>
   (Pt.chk x2).bind fun p23 =>
   (Pt.field 2 p23).bind fun p24 =>
   (AH.storeAt r18.2 [(AV.slice s20)] p24).bind fun h25 =>
   (bif (!b22) then ((run fuel d F_cert_at [(AV.int .i64 x1), err_api_ErrText] h25).bind fun r26 =>
   some ((AV.tup [(AV.int .i64 0), r26.1]), r26.2)) else (some ((AV.tup [(AV.int .i64 n5), AV.nilif]), h25)))) else none)) else ((bif (decide (n12 = (102 : Int))) then ((aHi (none : Option AV) (ByteArray.size s3)).bind fun hi27 =>
   (aLo (some (AV.int .i64 2)) hi27).bind fun lo28 =>
   (run fuel d F_word_Plain [(AV.str (ByteArray.extract s3 lo28 hi27))] r9.2).bind fun r29 =>
   (bif AV.isTup 2 r29.1 then ((AV.comp 0 r29.1).bind fun u30 =>
   (AV.int? .i64 u30).bind fun n31 =>
   (AV.comp 1 r29.1).bind fun u32 =>
   (AV.bool? u32).bind fun b33 =>
   (bif (!b33) then ((run fuel d F_cert_at [(AV.int .i64 x1), err_api_ErrText] r29.2).bind fun r34 =>
   some ((AV.tup [(AV.int .i64 0), r34.1]), r34.2)) else ((run fuel d F_cert_functions [(AV.slice x0), .int .i64 n5, .int .i64 n31, .ptr x2] r29.2).bind fun r35 =>
   (bif AV.isTup 2 r35.1 then ((AV.comp 0 r35.1).bind fun u36 =>
   (AV.int? .i64 u36).bind fun n37 =>
   (AV.comp 1 r35.1).bind fun u38 =>
   some ((AV.tup [(AV.int .i64 n37), u38]), r35.2)) else none)))) else none)) else ((run fuel d F_cert_at [(AV.int .i64 x1), err_api_ErrText] r9.2).bind fun r39 =>
   some ((AV.tup [(AV.int .i64 0), r39.1]), r39.2)))))))) else none) := by
 generalize hh : run = R
 rw [run_is] at hh
 subst hh
 kernel_rfl
noncomputable def s_proof_Read_0 (fuel d : Nat) : Run := fun fr h k => aexec (Cf fuel F_proof_Read) false (acall (C fuel) false d) (acall (C fuel) true d) 84 (csub [true, true, true, true, true, true, false, true, false, false] (fbody Go.Proofs.Tryz.f32)) (asub [true, true, true, true, true, true, false, true, false, false] an32) fr h k
noncomputable def l_proof_Read_0r (fuel d : Nat) (n : Nat) (fr : Fr) (h : AH) : Option (AExit × Fr × AH) := aloop (s_proof_Read_0 fuel d) (some [0, 4, 5, 6, 7, 18, 19, 20]) n fr h (kOut [0, 2, 3, 4, 6])
noncomputable def l_proof_Read_0 : Nat → Nat → Nat → Fr → AH → Option (AExit × Fr × AH) := hide l_proof_Read_0r
theorem l_proof_Read_0_is : l_proof_Read_0 = l_proof_Read_0r := hide_eq _
noncomputable def k_proof_Read_0r (fuel d : Nat) : AExit → Fr → AH → Option (AV × AH) := (kBlock 0 (kSeq (Cf fuel F_proof_Read) false (acall (C fuel) false d) (acall (C fuel) true d) 84 (csub [true, true, true, true, true, true, true] (fbody Go.Proofs.Tryz.f32)) (asub [true, true, true, true, true, true, true] an32) (kRet (Cf fuel F_proof_Read) Go.Proofs.Tryz.f32.results.toList)))
noncomputable def k_proof_Read_0 : Nat → Nat → AExit → Fr → AH → Option (AV × AH) := hide k_proof_Read_0r
theorem k_proof_Read_0_is : k_proof_Read_0 = k_proof_Read_0r := hide_eq _
theorem e_proof_Read (fuel d : Nat) (x0 : Sl) (h : AH) :
   brun fuel (d + 1) F_proof_Read [(AV.slice x0)] h =
 (bif (decide ((1048576 : Int) < (x0.len : Int))) then ((run fuel d F_proof_at [(AV.int .i64 1048576), err_api_ErrLimit] h).bind fun r1 =>
   some ((AV.tup [(AV.slice Sl.nil), r1.1]), r1.2)) else ((run fuel d F_word_Split [(AV.slice x0), .bool true] (AH.push h 1 [(AV.bool false), .slice Sl.nil])).bind fun r2 =>
   (AV.slice? r2.1).bind fun s3 =>
   (l_proof_Read_0 fuel d fuel [(0, .slice x0), (4, .slice Sl.nil), (5, (AV.ptr (Pt.mk ⟨AH.next h, 0, 0⟩ 2))), (6, .bool false), (7, .int .i64 0), (18, .slice s3), (19, (AV.int .i64 (s3.len : Int))), (20, .int .i64 0)] r2.2).bind fun p4 =>
   k_proof_Read_0 fuel d p4.1 p4.2.1 p4.2.2)) := by
 generalize hh : run = R
 rw [run_is] at hh
 subst hh
 generalize hh : brun = R
 rw [brun_is] at hh
 subst hh
 generalize hh : l_proof_Read_0 = R
 rw [l_proof_Read_0_is] at hh
 subst hh
 generalize hh : k_proof_Read_0 = R
 rw [k_proof_Read_0_is] at hh
 subst hh
 kernel_rfl
theorem l_proof_Read_0_eq (fuel d : Nat) (n : Nat) (x0 : Sl) (x4 : Sl) (x5 : Pt) (x6 : Bool) (x7 : Int) (x18 : Sl) (x19 : Int) (x20 : Int) (h : AH) :
   l_proof_Read_0 fuel d (n + 1) [(0, .slice x0), (4, .slice x4), (5, .ptr x5), (6, .bool x6), (7, .int .i64 x7), (18, .slice x18), (19, .int .i64 x19), (20, .int .i64 x20)] h =
 (bif (decide (x20 < x19)) then ((AH.addr h 3 x18 x20).bind fun p1 =>
   (AH.cellsAt h 3 p1).bind fun c2 =>
   (bif (!false && Nat.beq (List.length c2) 3 && List.all c2 AV.isCell) then ((AH.storeAt (AH.push h 1 [(AV.str (⟨#[]⟩ : ByteArray)), .int .i64 0, .bool false]) c2 (Pt.mk ⟨AH.next h, 0, 0⟩ 3)).bind fun h3 =>
   ((bif ((!x6) == true) then ((Pt.field 0 (Pt.mk ⟨AH.next h, 0, 0⟩ 3)).bind fun p4 =>
   (AH.cell h3 p4).bind fun u5 =>
   (AV.str? u5).bind fun s6 =>
   some ((AV.bool (decide (s6 = (⟨#[100]⟩ : ByteArray)))), h3)) else (some ((AV.bool false), h3)) : Option (AV × AH))).bind fun r7 =>
   (AV.bool? r7.1).bind fun b8 =>
   (bif b8 then ((Pt.field 0 x5).bind fun p9 =>
   (AH.storeAt r7.2 [(AV.bool true)] p9).bind fun h10 =>
   l_proof_Read_0 fuel d n [(0, .slice x0), (4, .slice x4), (5, .ptr x5), (6, .bool true), (7, .int .i64 x7), (18, .slice x18), (19, .int .i64 x19), (20, (AV.int .i64 (IntKind.wrap .i64 (x20 + (1 : Int)))))] h10) else ((Pt.field 0 (Pt.mk ⟨AH.next h, 0, 0⟩ 3)).bind fun p11 =>
   (AH.cell r7.2 p11).bind fun u12 =>
   (AV.str? u12).bind fun s13 =>
   (run fuel d F_word_Number [(AV.str s13)] r7.2).bind fun r14 =>
   (bif AV.isTup 2 r14.1 then ((AV.comp 0 r14.1).bind fun u15 =>
   (AV.int? .i64 u15).bind fun n16 =>
   (AV.comp 1 r14.1).bind fun u17 =>
   (AV.bool? u17).bind fun b18 =>
   ((bif ((!b18) == false) then (((bif ((!decide (n16 = (0 : Int))) == true) then ((run fuel d F_lits_Is [(AV.int .i64 n16), .int .i64 4000] r14.2).bind fun r19 =>
   (AV.bool? r19.1).bind fun b20 =>
   some ((AV.bool (!b20)), r19.2)) else (some ((AV.bool false), r14.2)) : Option (AV × AH))).bind fun r21 =>
   (AV.bool? r21.1).bind fun b22 =>
   some ((AV.bool b22), r21.2)) else (some ((AV.bool true), r14.2)) : Option (AV × AH))).bind fun r23 =>
   (AV.bool? r23.1).bind fun b24 =>
   (bif b24 then ((Pt.field 1 (Pt.mk ⟨AH.next h, 0, 0⟩ 3)).bind fun p25 =>
   (AH.cell r23.2 p25).bind fun u26 =>
   (AV.int? .i64 u26).bind fun n27 =>
   (run fuel d F_proof_at [(AV.int .i64 n27), err_api_ErrText] r23.2).bind fun r28 =>
   some (.ret, [(0, .slice x0), (2, .slice Sl.nil), (3, r28.1), (4, .slice x4), (6, .bool x6)], r28.2)) else ((bif (decide (n16 = (0 : Int))) then ((AH.cellsAt r23.2 2 x5).bind fun c29 =>
   ((bif (Nat.beq (List.length c29) 2 && Nat.ble (0 + 2) (List.length [(AV.bool false), .slice Sl.nil]) && List.all c29 AV.isCell) then ((some (AH.overlay [(AV.bool false), .slice Sl.nil] 0 c29))) else (none))).bind fun c30 =>
   (AH.sliceCells r23.2 2 (Sl.lst 1 true c30)).bind fun xs31 =>
   (AH.append (AH.fixL r23.2 xs31).2 false 2 32 x4 (Sl.lst 1 true c30).len (AH.fixL r23.2 xs31).1).bind fun a32 =>
   (AH.storeAt a32.2 [(AV.bool false), .slice Sl.nil] x5).bind fun h33 =>
   l_proof_Read_0 fuel d n [(0, .slice x0), (4, .slice a32.1), (5, .ptr x5), (6, .bool false), (7, .int .i64 x7), (18, .slice x18), (19, .int .i64 x19), (20, (AV.int .i64 (IntKind.wrap .i64 (x20 + (1 : Int)))))] h33) else ((bif (decide ((320000 : Int) ≤ x7)) then ((Pt.field 1 (Pt.mk ⟨AH.next h, 0, 0⟩ 3)).bind fun p34 =>
   (AH.cell r23.2 p34).bind fun u35 =>
   (AV.int? .i64 u35).bind fun n36 =>
   (run fuel d F_proof_at [(AV.int .i64 n36), err_api_ErrLimit] r23.2).bind fun r37 =>
   some (.ret, [(0, .slice x0), (2, .slice Sl.nil), (3, r37.1), (4, .slice x4), (6, .bool x6)], r37.2)) else ((Pt.field 1 x5).bind fun p38 =>
   (AH.cell r23.2 p38).bind fun u39 =>
   (AV.slice? u39).bind fun s40 =>
   (AH.append r23.2 false 1 8 s40 1 [(AV.int .i64 n16)]).bind fun a41 =>
   (Pt.field 1 x5).bind fun p42 =>
   (AH.storeAt a41.2 [(AV.slice a41.1)] p42).bind fun h43 =>
   l_proof_Read_0 fuel d n [(0, .slice x0), (4, .slice x4), (5, .ptr x5), (6, .bool true), (7, (AV.int .i64 (IntKind.wrap .i64 (x7 + (1 : Int))))), (18, .slice x18), (19, .int .i64 x19), (20, (AV.int .i64 (IntKind.wrap .i64 (x20 + (1 : Int)))))] h43))))))) else none)))) else (none))) else (some ((.exit 0), [(0, .slice x0), (2, AV.bot), (3, AV.bot), (4, .slice x4), (6, .bool x6)], h))) := by
 generalize hh : run = R
 rw [run_is] at hh
 subst hh
 generalize hh : l_proof_Read_0 = R
 rw [l_proof_Read_0_is] at hh
 subst hh
 kernel_rfl
theorem k_proof_Read_0_x0 (fuel d : Nat) (x0 : Sl) (x2 : AV) (x3 : AV) (x4 : Sl) (x6 : Bool) (h : AH) :
   k_proof_Read_0 fuel d (.exit 0) [(0, .slice x0), (2, x2), (3, x3), (4, .slice x4), (6, .bool x6)] h =
 (bif x6 then ((run fuel d F_proof_at [(AV.int .i64 (x0.len : Int)), err_api_ErrText] h).bind fun r1 =>
   some ((AV.tup [(AV.slice Sl.nil), r1.1]), r1.2)) else (some ((AV.tup [(AV.slice x4), AV.nilif]), h))) := by
 generalize hh : run = R
 rw [run_is] at hh
 subst hh
 generalize hh : k_proof_Read_0 = R
 rw [k_proof_Read_0_is] at hh
 subst hh
 kernel_rfl
theorem k_proof_Read_0_r (fuel d : Nat) (x0 : AV) (x2 : Sl) (x3 : AV) (x4 : AV) (x6 : AV) (h : AH) :
   k_proof_Read_0 fuel d .ret [(0, x0), (2, .slice x2), (3, x3), (4, x4), (6, x6)] h =
 some ((AV.tup [(AV.slice x2), x3]), h) := by
 generalize hh : k_proof_Read_0 = R
 rw [k_proof_Read_0_is] at hh
 subst hh
 kernel_rfl
noncomputable def s_skolemref_SameBools_0 (fuel d : Nat) : Run := fun fr h k => aexec (Cf fuel F_skolemref_SameBools) false (acall (C fuel) false d) (acall (C fuel) true d) 29 (csub [true, true, false, true, false, false] (fbody Go.Proofs.Tryz.f40)) (asub [true, true, false, true, false, false] an40) fr h k
noncomputable def l_skolemref_SameBools_0r (fuel d : Nat) (n : Nat) (fr : Fr) (h : AH) : Option (AExit × Fr × AH) := aloop (s_skolemref_SameBools_0 fuel d) (some [0, 1, 5]) n fr h (kOut [4])
noncomputable def l_skolemref_SameBools_0 : Nat → Nat → Nat → Fr → AH → Option (AExit × Fr × AH) := hide l_skolemref_SameBools_0r
theorem l_skolemref_SameBools_0_is : l_skolemref_SameBools_0 = l_skolemref_SameBools_0r := hide_eq _
noncomputable def k_skolemref_SameBools_0r (fuel d : Nat) : AExit → Fr → AH → Option (AV × AH) := (kBlock 0 (kSeq (Cf fuel F_skolemref_SameBools) false (acall (C fuel) false d) (acall (C fuel) true d) 29 (csub [true, true, true] (fbody Go.Proofs.Tryz.f40)) (asub [true, true, true] an40) (kRet (Cf fuel F_skolemref_SameBools) Go.Proofs.Tryz.f40.results.toList)))
noncomputable def k_skolemref_SameBools_0 : Nat → Nat → AExit → Fr → AH → Option (AV × AH) := hide k_skolemref_SameBools_0r
theorem k_skolemref_SameBools_0_is : k_skolemref_SameBools_0 = k_skolemref_SameBools_0r := hide_eq _
theorem e_skolemref_SameBools (fuel d : Nat) (x0 : Sl) (x1 : Sl) (h : AH) :
   brun fuel (d + 1) F_skolemref_SameBools [(AV.slice x0), .slice x1] h =
 (bif (!decide ((x0.len : Int) = (x1.len : Int))) then (some ((AV.bool false), h)) else ((l_skolemref_SameBools_0 fuel d fuel [(0, .slice x0), (1, .slice x1), (5, .int .i64 0)] h).bind fun p1 =>
   k_skolemref_SameBools_0 fuel d p1.1 p1.2.1 p1.2.2)) := by
 generalize hh : brun = R
 rw [brun_is] at hh
 subst hh
 generalize hh : l_skolemref_SameBools_0 = R
 rw [l_skolemref_SameBools_0_is] at hh
 subst hh
 generalize hh : k_skolemref_SameBools_0 = R
 rw [k_skolemref_SameBools_0_is] at hh
 subst hh
 kernel_rfl
theorem l_skolemref_SameBools_0_eq (fuel d : Nat) (n : Nat) (x0 : Sl) (x1 : Sl) (x5 : Int) (h : AH) :
   l_skolemref_SameBools_0 fuel d (n + 1) [(0, .slice x0), (1, .slice x1), (5, .int .i64 x5)] h =
 (bif (decide (x5 < (x0.len : Int))) then ((AH.addr h 1 x0 x5).bind fun p1 =>
   (AH.cell h p1).bind fun u2 =>
   (AV.bool? u2).bind fun b3 =>
   (AH.addr h 1 x1 x5).bind fun p4 =>
   (AH.cell h p4).bind fun u5 =>
   (AV.bool? u5).bind fun b6 =>
   (bif (!(b3 == b6)) then (some (.ret, [(4, .bool false)], h)) else (l_skolemref_SameBools_0 fuel d n [(0, .slice x0), (1, .slice x1), (5, (AV.int .i64 (IntKind.wrap .i64 (x5 + (1 : Int)))))] h))) else (some ((.exit 0), [(4, AV.bot)], h))) := by
 generalize hh : l_skolemref_SameBools_0 = R
 rw [l_skolemref_SameBools_0_is] at hh
 subst hh
 kernel_rfl
theorem k_skolemref_SameBools_0_x0 (fuel d : Nat) (x4 : AV) (h : AH) :
   k_skolemref_SameBools_0 fuel d (.exit 0) [(4, x4)] h =
 some ((AV.bool true), h) := by
 generalize hh : k_skolemref_SameBools_0 = R
 rw [k_skolemref_SameBools_0_is] at hh
 subst hh
 kernel_rfl
theorem e_skolemref_SameCircuit (fuel d : Nat) (x0 : List AV) (x1 : List AV) (h : AH) :
   brun fuel (d + 1) F_skolemref_SameCircuit [(AV.agg x0), .agg x1] h =
 (bif (List.all x0 AV.isCell) then ((bif (List.all x1 AV.isCell) then ((Pt.field 0 (Pt.mk ⟨AH.next h, 0, 0⟩ (List.length x0))).bind fun p1 =>
   (AH.cell (AH.push (AH.push h 1 x0) 1 x1) p1).bind fun u2 =>
   (AV.int? .i64 u2).bind fun n3 =>
   (Pt.field 0 (Pt.mk ⟨AH.next (AH.push h 1 x0), 0, 0⟩ (List.length x1))).bind fun p4 =>
   (AH.cell (AH.push (AH.push h 1 x0) 1 x1) p4).bind fun u5 =>
   (AV.int? .i64 u5).bind fun n6 =>
   ((bif ((decide (n3 = n6)) == true) then ((Pt.field 1 (Pt.mk ⟨AH.next h, 0, 0⟩ (List.length x0))).bind fun p7 =>
   (AH.cell (AH.push (AH.push h 1 x0) 1 x1) p7).bind fun u8 =>
   (AV.slice? u8).bind fun s9 =>
   (Pt.field 1 (Pt.mk ⟨AH.next (AH.push h 1 x0), 0, 0⟩ (List.length x1))).bind fun p10 =>
   (AH.cell (AH.push (AH.push h 1 x0) 1 x1) p10).bind fun u11 =>
   (AV.slice? u11).bind fun s12 =>
   (run fuel d F_skolemref_SamePairs [(AV.slice s9), .slice s12] (AH.push (AH.push h 1 x0) 1 x1)).bind fun r13 =>
   (AV.bool? r13.1).bind fun b14 =>
   some ((AV.bool b14), r13.2)) else (some ((AV.bool false), (AH.push (AH.push h 1 x0) 1 x1))) : Option (AV × AH))).bind fun r15 =>
   (AV.bool? r15.1).bind fun b16 =>
   ((bif (b16 == true) then ((Pt.field 2 (Pt.mk ⟨AH.next h, 0, 0⟩ (List.length x0))).bind fun p17 =>
   (AH.cell r15.2 p17).bind fun u18 =>
   (AV.slice? u18).bind fun s19 =>
   (Pt.field 2 (Pt.mk ⟨AH.next (AH.push h 1 x0), 0, 0⟩ (List.length x1))).bind fun p20 =>
   (AH.cell r15.2 p20).bind fun u21 =>
   (AV.slice? u21).bind fun s22 =>
   (run fuel d F_skolemref_SameInts [(AV.slice s19), .slice s22] r15.2).bind fun r23 =>
   (AV.bool? r23.1).bind fun b24 =>
   some ((AV.bool b24), r23.2)) else (some ((AV.bool false), r15.2)) : Option (AV × AH))).bind fun r25 =>
   (AV.bool? r25.1).bind fun b26 =>
   some ((AV.bool b26), r25.2)) else (none))) else (none)) := by
 generalize hh : run = R
 rw [run_is] at hh
 subst hh
 generalize hh : brun = R
 rw [brun_is] at hh
 subst hh
 kernel_rfl
noncomputable def s_skolemref_SameSteps_0 (fuel d : Nat) : Run := fun fr h k => aexec (Cf fuel F_skolemref_SameSteps) false (acall (C fuel) false d) (acall (C fuel) true d) 29 (csub [true, true, false, true, false, false] (fbody Go.Proofs.Tryz.f42)) (asub [true, true, false, true, false, false] an42) fr h k
noncomputable def l_skolemref_SameSteps_0r (fuel d : Nat) (n : Nat) (fr : Fr) (h : AH) : Option (AExit × Fr × AH) := aloop (s_skolemref_SameSteps_0 fuel d) (some [0, 1, 5]) n fr h (kOut [4])
noncomputable def l_skolemref_SameSteps_0 : Nat → Nat → Nat → Fr → AH → Option (AExit × Fr × AH) := hide l_skolemref_SameSteps_0r
theorem l_skolemref_SameSteps_0_is : l_skolemref_SameSteps_0 = l_skolemref_SameSteps_0r := hide_eq _
noncomputable def k_skolemref_SameSteps_0r (fuel d : Nat) : AExit → Fr → AH → Option (AV × AH) := (kBlock 0 (kSeq (Cf fuel F_skolemref_SameSteps) false (acall (C fuel) false d) (acall (C fuel) true d) 29 (csub [true, true, true] (fbody Go.Proofs.Tryz.f42)) (asub [true, true, true] an42) (kRet (Cf fuel F_skolemref_SameSteps) Go.Proofs.Tryz.f42.results.toList)))
noncomputable def k_skolemref_SameSteps_0 : Nat → Nat → AExit → Fr → AH → Option (AV × AH) := hide k_skolemref_SameSteps_0r
theorem k_skolemref_SameSteps_0_is : k_skolemref_SameSteps_0 = k_skolemref_SameSteps_0r := hide_eq _
theorem e_skolemref_SameSteps (fuel d : Nat) (x0 : Sl) (x1 : Sl) (h : AH) :
   brun fuel (d + 1) F_skolemref_SameSteps [(AV.slice x0), .slice x1] h =
 (bif (!decide ((x0.len : Int) = (x1.len : Int))) then (some ((AV.bool false), h)) else ((l_skolemref_SameSteps_0 fuel d fuel [(0, .slice x0), (1, .slice x1), (5, .int .i64 0)] h).bind fun p1 =>
   k_skolemref_SameSteps_0 fuel d p1.1 p1.2.1 p1.2.2)) := by
 generalize hh : brun = R
 rw [brun_is] at hh
 subst hh
 generalize hh : l_skolemref_SameSteps_0 = R
 rw [l_skolemref_SameSteps_0_is] at hh
 subst hh
 generalize hh : k_skolemref_SameSteps_0 = R
 rw [k_skolemref_SameSteps_0_is] at hh
 subst hh
 kernel_rfl
theorem l_skolemref_SameSteps_0_eq (fuel d : Nat) (n : Nat) (x0 : Sl) (x1 : Sl) (x5 : Int) (h : AH) :
   l_skolemref_SameSteps_0 fuel d (n + 1) [(0, .slice x0), (1, .slice x1), (5, .int .i64 x5)] h =
 (bif (decide (x5 < (x0.len : Int))) then ((AH.addr h 2 x0 x5).bind fun p1 =>
   (AH.cellsAt h 2 p1).bind fun c2 =>
   (AH.addr h 2 x1 x5).bind fun p3 =>
   (AH.cellsAt h 2 p3).bind fun c4 =>
   (run fuel d F_skolemref_SameStep [(AV.agg c2), .agg c4] h).bind fun r5 =>
   (AV.bool? r5.1).bind fun b6 =>
   (bif (!b6) then (some (.ret, [(4, .bool false)], r5.2)) else (l_skolemref_SameSteps_0 fuel d n [(0, .slice x0), (1, .slice x1), (5, (AV.int .i64 (IntKind.wrap .i64 (x5 + (1 : Int)))))] r5.2))) else (some ((.exit 0), [(4, AV.bot)], h))) := by
 generalize hh : run = R
 rw [run_is] at hh
 subst hh
 generalize hh : l_skolemref_SameSteps_0 = R
 rw [l_skolemref_SameSteps_0_is] at hh
 subst hh
 kernel_rfl
theorem k_skolemref_SameSteps_0_x0 (fuel d : Nat) (x4 : AV) (h : AH) :
   k_skolemref_SameSteps_0 fuel d (.exit 0) [(4, x4)] h =
 some ((AV.bool true), h) := by
 generalize hh : k_skolemref_SameSteps_0 = R
 rw [k_skolemref_SameSteps_0_is] at hh
 subst hh
 kernel_rfl
theorem e_strings_Builder_WriteString (fuel d : Nat) (x0 : Pt) (x1 : ByteArray) (h : AH) :
   run fuel (d + 1) F_strings_Builder_WriteString [(AV.ptr x0), .str x1] h =
 (run fuel d F_strings_Builder_copyCheck [(AV.ptr x0)] h).bind fun r1 =>
   (Pt.chk x0).bind fun p2 =>
   (Pt.field 1 p2).bind fun p3 =>
   (AH.cell r1.2 p3).bind fun u4 =>
   (AV.slice? u4).bind fun s5 =>
   (AH.appendT r1.2 false BE 1 1 s5 (ByteArray.size x1) (bytesOf x1)).bind fun a6 =>
   (Pt.chk x0).bind fun p7 =>
   (Pt.field 1 p7).bind fun p8 =>
   (AH.storeAt a6.2 [(AV.slice a6.1)] p8).bind fun h9 =>
   some ((AV.tup [(AV.int .i64 ((ByteArray.size x1 : Nat) : Int)), AV.nilif]), h9) := by
 generalize hh : run = R
 rw [run_is] at hh
 subst hh
 kernel_rfl
theorem e_strconv_FormatBool (fuel d : Nat) (x0 : Bool) (h : AH) :
   brun fuel (d + 1) F_strconv_FormatBool [(AV.bool x0)] h =
 (run fuel d F_internal_strconv_FormatBool [(AV.bool x0)] h).bind fun r1 =>
   (AV.str? r1.1).bind fun s2 =>
   some ((AV.str s2), r1.2) := by
 generalize hh : run = R
 rw [run_is] at hh
 subst hh
 generalize hh : brun = R
 rw [brun_is] at hh
 subst hh
 kernel_rfl
theorem e_strings_Builder_WriteByte (fuel d : Nat) (x0 : Pt) (x1 : Int) (h : AH) :
   run fuel (d + 1) F_strings_Builder_WriteByte [(AV.ptr x0), .int .u8 x1] h =
 (run fuel d F_strings_Builder_copyCheck [(AV.ptr x0)] h).bind fun r1 =>
   (Pt.chk x0).bind fun p2 =>
   (Pt.field 1 p2).bind fun p3 =>
   (AH.cell r1.2 p3).bind fun u4 =>
   (AV.slice? u4).bind fun s5 =>
   (AH.appendT r1.2 false BE 1 1 s5 1 [(AV.int .u8 x1)]).bind fun a6 =>
   (Pt.chk x0).bind fun p7 =>
   (Pt.field 1 p7).bind fun p8 =>
   (AH.storeAt a6.2 [(AV.slice a6.1)] p8).bind fun h9 =>
   some (AV.nilif, h9) := by
 generalize hh : run = R
 rw [run_is] at hh
 subst hh
 kernel_rfl
noncomputable def s_aig_Bytes_0 (fuel d : Nat) : Run := fun fr h k => aexec (Cf fuel F_aig_Bytes) false (acall (C fuel) false d) (acall (C fuel) true d) 53 (csub [true, true, false, true, false, false] (fbody Go.Proofs.Tryz.f48)) (asub [true, true, false, true, false, false] an48) fr h k
noncomputable def l_aig_Bytes_0r (fuel d : Nat) (n : Nat) (fr : Fr) (h : AH) : Option (AExit × Fr × AH) := aloop (s_aig_Bytes_0 fuel d) (some [1, 3, 12, 13, 14]) n fr h (kOut [1, 3])
noncomputable def l_aig_Bytes_0 : Nat → Nat → Nat → Fr → AH → Option (AExit × Fr × AH) := hide l_aig_Bytes_0r
theorem l_aig_Bytes_0_is : l_aig_Bytes_0 = l_aig_Bytes_0r := hide_eq _
noncomputable def k_aig_Bytes_0r (fuel d : Nat) : AExit → Fr → AH → Option (AV × AH) := (kBlock 0 (kSeq (Cf fuel F_aig_Bytes) false (acall (C fuel) false d) (acall (C fuel) true d) 53 (csub [true, true, true] (fbody Go.Proofs.Tryz.f48)) (asub [true, true, true] an48) (kRet (Cf fuel F_aig_Bytes) Go.Proofs.Tryz.f48.results.toList)))
noncomputable def k_aig_Bytes_0 : Nat → Nat → AExit → Fr → AH → Option (AV × AH) := hide k_aig_Bytes_0r
theorem k_aig_Bytes_0_is : k_aig_Bytes_0 = k_aig_Bytes_0r := hide_eq _
noncomputable def s_aig_Bytes_1 (fuel d : Nat) : Run := fun fr h k => aexec (Cf fuel F_aig_Bytes) false (acall (C fuel) false d) (acall (C fuel) true d) 53 (csub [true, true, true, false, true, false, false] (fbody Go.Proofs.Tryz.f48)) (asub [true, true, true, false, true, false, false] an48) fr h k
noncomputable def l_aig_Bytes_1r (fuel d : Nat) (n : Nat) (fr : Fr) (h : AH) : Option (AExit × Fr × AH) := aloop (s_aig_Bytes_1 fuel d) (some [1, 3, 27, 28, 29]) n fr h (kOut [3])
noncomputable def l_aig_Bytes_1 : Nat → Nat → Nat → Fr → AH → Option (AExit × Fr × AH) := hide l_aig_Bytes_1r
theorem l_aig_Bytes_1_is : l_aig_Bytes_1 = l_aig_Bytes_1r := hide_eq _
noncomputable def k_aig_Bytes_1r (fuel d : Nat) : AExit → Fr → AH → Option (AV × AH) := (kBlock 2 (kSeq (Cf fuel F_aig_Bytes) false (acall (C fuel) false d) (acall (C fuel) true d) 53 (csub [true, true, true, true] (fbody Go.Proofs.Tryz.f48)) (asub [true, true, true, true] an48) (kRet (Cf fuel F_aig_Bytes) Go.Proofs.Tryz.f48.results.toList)))
noncomputable def k_aig_Bytes_1 : Nat → Nat → AExit → Fr → AH → Option (AV × AH) := hide k_aig_Bytes_1r
theorem k_aig_Bytes_1_is : k_aig_Bytes_1 = k_aig_Bytes_1r := hide_eq _
theorem e_aig_Bytes (fuel d : Nat) (x0 : List AV) (h : AH) :
   brun fuel (d + 1) F_aig_Bytes [(AV.agg x0)] h =
 (bif (List.all x0 AV.isCell) then ((AH.cellsAt (AH.push h 1 x0) 3 (Pt.mk ⟨AH.next h, 0, 0⟩ (List.length x0))).bind fun c1 =>
   (run fuel d F_aag_Head [(AV.str (⟨#[97, 105, 103]⟩ : ByteArray)), .agg c1] (AH.push h 1 x0)).bind fun r2 =>
   (AV.str? r2.1).bind fun s3 =>
   (Pt.field 2 (Pt.mk ⟨AH.next h, 0, 0⟩ (List.length x0))).bind fun p4 =>
   (AH.cell (AH.push r2.2 1 (bytesOf s3)) p4).bind fun u5 =>
   (AV.slice? u5).bind fun s6 =>
   (l_aig_Bytes_0 fuel d fuel [(1, (AV.ptr (Pt.mk ⟨AH.next h, 0, 0⟩ (List.length x0)))), (3, (AV.slice (Sl.mk ⟨AH.next r2.2, 0, 0⟩ (ByteArray.size s3) false))), (12, .slice s6), (13, (AV.int .i64 (s6.len : Int))), (14, .int .i64 0)] (AH.push r2.2 1 (bytesOf s3))).bind fun p7 =>
   k_aig_Bytes_0 fuel d p7.1 p7.2.1 p7.2.2) else (none)) := by
 generalize hh : run = R
 rw [run_is] at hh
 subst hh
 generalize hh : brun = R
 rw [brun_is] at hh
 subst hh
 generalize hh : l_aig_Bytes_0 = R
 rw [l_aig_Bytes_0_is] at hh
 subst hh
 generalize hh : k_aig_Bytes_0 = R
 rw [k_aig_Bytes_0_is] at hh
 subst hh
 kernel_rfl
theorem l_aig_Bytes_0_eq (fuel d : Nat) (n : Nat) (x1 : Pt) (x3 : Sl) (x12 : Sl) (x13 : Int) (x14 : Int) (h : AH) :
   l_aig_Bytes_0 fuel d (n + 1) [(1, .ptr x1), (3, .slice x3), (12, .slice x12), (13, .int .i64 x13), (14, .int .i64 x14)] h =
 (bif (decide (x14 < x13)) then ((AH.addr h 1 x12 x14).bind fun p1 =>
   (AH.cell h p1).bind fun u2 =>
   (AV.int? .i64 u2).bind fun n3 =>
   (run fuel d F_aag_Line [(AV.slice (Sl.lst 1 true [(AV.int .i64 n3)]))] h).bind fun r4 =>
   (AV.str? r4.1).bind fun s5 =>
   (run fuel d F_slices_Concat_s_byte_byte [(AV.slice (Sl.lst 2 true [(AV.slice x3), (AV.slice (Sl.mk ⟨AH.next r4.2, 0, 0⟩ (ByteArray.size s5) false))]))] (AH.push r4.2 1 (bytesOf s5))).bind fun r6 =>
   (AV.slice? r6.1).bind fun s7 =>
   l_aig_Bytes_0 fuel d n [(1, .ptr x1), (3, .slice s7), (12, .slice x12), (13, .int .i64 x13), (14, (AV.int .i64 (IntKind.wrap .i64 (x14 + (1 : Int)))))] r6.2) else (some ((.exit 0), [(1, .ptr x1), (3, .slice x3)], h))) := by
 generalize hh : run = R
 rw [run_is] at hh
 subst hh
 generalize hh : l_aig_Bytes_0 = R
 rw [l_aig_Bytes_0_is] at hh
 subst hh
 kernel_rfl
theorem k_aig_Bytes_0_x0 (fuel d : Nat) (x1 : Pt) (x3 : Sl) (h : AH) :
   k_aig_Bytes_0 fuel d (.exit 0) [(1, .ptr x1), (3, .slice x3)] h =
 (Pt.field 1 x1).bind fun p1 =>
   (AH.cell h p1).bind fun u2 =>
   (AV.slice? u2).bind fun s3 =>
   (l_aig_Bytes_1 fuel d fuel [(1, .ptr x1), (3, .slice x3), (27, .slice s3), (28, (AV.int .i64 (s3.len : Int))), (29, .int .i64 0)] h).bind fun p4 =>
   k_aig_Bytes_1 fuel d p4.1 p4.2.1 p4.2.2 := by
 generalize hh : k_aig_Bytes_0 = R
 rw [k_aig_Bytes_0_is] at hh
 subst hh
 generalize hh : l_aig_Bytes_1 = R
 rw [l_aig_Bytes_1_is] at hh
 subst hh
 generalize hh : k_aig_Bytes_1 = R
 rw [k_aig_Bytes_1_is] at hh
 subst hh
 kernel_rfl
theorem l_aig_Bytes_1_eq (fuel d : Nat) (n : Nat) (x1 : Pt) (x3 : Sl) (x27 : Sl) (x28 : Int) (x29 : Int) (h : AH) :
   l_aig_Bytes_1 fuel d (n + 1) [(1, .ptr x1), (3, .slice x3), (27, .slice x27), (28, .int .i64 x28), (29, .int .i64 x29)] h =
 (bif (decide (x29 < x28)) then ((AH.addr h 2 x27 x29).bind fun p1 =>
   (AH.cellsAt h 2 p1).bind fun c2 =>
   (bif (!false && Nat.beq (List.length c2) 2 && List.all c2 AV.isCell) then ((AH.storeAt (AH.push h 1 [(AV.int .i64 0), .int .i64 0]) c2 (Pt.mk ⟨AH.next h, 0, 0⟩ 2)).bind fun h3 =>
   (Pt.field 0 x1).bind fun p4 =>
   (AH.cell h3 p4).bind fun u5 =>
   (AV.int? .i64 u5).bind fun n6 =>
   (Pt.elem 1 2 (0 : Int) (Pt.mk ⟨AH.next h, 0, 0⟩ 2)).bind fun p7 =>
   (AH.cell h3 p7).bind fun u8 =>
   (AV.int? .i64 u8).bind fun n9 =>
   (run fuel d F_aig_number [(AV.slice x3), (AV.int .i64 (IntKind.wrap .i64 ((IntKind.wrap .i64 ((2 : Int) * (IntKind.wrap .i64 ((IntKind.wrap .i64 (n6 + x29)) + (1 : Int))))) - n9)))] h3).bind fun r10 =>
   (AV.slice? r10.1).bind fun s11 =>
   (Pt.elem 1 2 (0 : Int) (Pt.mk ⟨AH.next h, 0, 0⟩ 2)).bind fun p12 =>
   same ((Pt.elem 1 2 (0 : Int) (Pt.mk ⟨AH.next h, 0, 0⟩ 2)).bind fun p25 =>
   some ((AV.ptr p25), h3)) ((AV.ptr p12), h3) (
   (AH.cell r10.2 p12).bind fun u13 =>
   (AV.int? .i64 u13).bind fun n14 =>
   same ((AH.cell h3 p12).bind fun u23 =>
   (AV.int? .i64 u23).bind fun n24 =>
   some ((AV.int .i64 n24), h3)) ((AV.int .i64 n14), h3) (
   (Pt.elem 1 2 (1 : Int) (Pt.mk ⟨AH.next h, 0, 0⟩ 2)).bind fun p15 =>
   same ((Pt.elem 1 2 (1 : Int) (Pt.mk ⟨AH.next h, 0, 0⟩ 2)).bind fun p22 =>
   some ((AV.ptr p22), h3)) ((AV.ptr p15), h3) (
   (AH.cell r10.2 p15).bind fun u16 =>
   (AV.int? .i64 u16).bind fun n17 =>
   same ((AH.cell h3 p15).bind fun u20 =>
   (AV.int? .i64 u20).bind fun n21 =>
   some ((AV.int .i64 n21), h3)) ((AV.int .i64 n17), h3) (
   (run fuel d F_aig_number [(AV.slice s11), (AV.int .i64 (IntKind.wrap .i64 (n14 - n17)))] r10.2).bind fun r18 =>
   (AV.slice? r18.1).bind fun s19 =>
   l_aig_Bytes_1 fuel d n [(1, .ptr x1), (3, .slice s19), (27, .slice x27), (28, .int .i64 x28), (29, (AV.int .i64 (IntKind.wrap .i64 (x29 + (1 : Int)))))] r18.2))))) else (none))) else (some ((.exit 2), [(3, .slice x3)], h))) := by
 generalize hh : run = R
 rw [run_is] at hh
 subst hh
 generalize hh : l_aig_Bytes_1 = R
 rw [l_aig_Bytes_1_is] at hh
 subst hh
 kernel_rfl
theorem k_aig_Bytes_1_x2 (fuel d : Nat) (x3 : Sl) (h : AH) :
   k_aig_Bytes_1 fuel d (.exit 2) [(3, .slice x3)] h =
 some ((AV.slice x3), h) := by
 generalize hh : k_aig_Bytes_1 = R
 rw [k_aig_Bytes_1_is] at hh
 subst hh
 kernel_rfl
theorem e_strconv_Itoa (fuel d : Nat) (x0 : Int) (h : AH) :
   brun fuel (d + 1) F_strconv_Itoa [(AV.int .i64 x0)] h =
 (run fuel d F_internal_strconv_Itoa [(AV.int .i64 x0)] h).bind fun r1 =>
   (AV.str? r1.1).bind fun s2 =>
   some ((AV.str s2), r1.2) := by
 generalize hh : run = R
 rw [run_is] at hh
 subst hh
 generalize hh : brun = R
 rw [brun_is] at hh
 subst hh
 kernel_rfl
theorem e_strings_Builder_Write (fuel d : Nat) (x0 : Pt) (x1 : Sl) (h : AH) :
   run fuel (d + 1) F_strings_Builder_Write [(AV.ptr x0), .slice x1] h =
 (run fuel d F_strings_Builder_copyCheck [(AV.ptr x0)] h).bind fun r1 =>
   (Pt.chk x0).bind fun p2 =>
   (Pt.field 1 p2).bind fun p3 =>
   (AH.cell r1.2 p3).bind fun u4 =>
   (AV.slice? u4).bind fun s5 =>
   (AH.sliceCells r1.2 1 x1).bind fun xs6 =>
   (AH.appendT r1.2 false BE 1 1 s5 x1.len xs6).bind fun a7 =>
   (Pt.chk x0).bind fun p8 =>
   (Pt.field 1 p8).bind fun p9 =>
   (AH.storeAt a7.2 [(AV.slice a7.1)] p9).bind fun h10 =>
   some ((AV.tup [(AV.int .i64 (x1.len : Int)), AV.nilif]), h10) := by
 generalize hh : run = R
 rw [run_is] at hh
 subst hh
 kernel_rfl
noncomputable def s_proof_Bytes_0 (fuel d : Nat) : Run := fun fr h k => aexec (Cf fuel F_proof_Bytes) false (acall (C fuel) false d) (acall (C fuel) true d) 23 (csub [true, true, false, true, false, false] (fbody Go.Proofs.Tryz.f51)) (asub [true, true, false, true, false, false] an51) fr h k
noncomputable def l_proof_Bytes_0r (fuel d : Nat) (n : Nat) (fr : Fr) (h : AH) : Option (AExit × Fr × AH) := aloop (s_proof_Bytes_0 fuel d) (some [3, 6, 7, 8]) n fr h (kOut [3])
noncomputable def l_proof_Bytes_0 : Nat → Nat → Nat → Fr → AH → Option (AExit × Fr × AH) := hide l_proof_Bytes_0r
theorem l_proof_Bytes_0_is : l_proof_Bytes_0 = l_proof_Bytes_0r := hide_eq _
noncomputable def k_proof_Bytes_0r (fuel d : Nat) : AExit → Fr → AH → Option (AV × AH) := (kBlock 0 (kSeq (Cf fuel F_proof_Bytes) false (acall (C fuel) false d) (acall (C fuel) true d) 23 (csub [true, true, true] (fbody Go.Proofs.Tryz.f51)) (asub [true, true, true] an51) (kRet (Cf fuel F_proof_Bytes) Go.Proofs.Tryz.f51.results.toList)))
noncomputable def k_proof_Bytes_0 : Nat → Nat → AExit → Fr → AH → Option (AV × AH) := hide k_proof_Bytes_0r
theorem k_proof_Bytes_0_is : k_proof_Bytes_0 = k_proof_Bytes_0r := hide_eq _
noncomputable def k_proof_Bytes_1r (fuel d : Nat) (n : Nat) : AExit → Fr → AH → Option (AExit × Fr × AH) := (kSeq (Cf fuel F_proof_Bytes) false (acall (C fuel) false d) (acall (C fuel) true d) 23 (csub [true, true, false, true, false, false, true, true, false, false, true, true] (fbody Go.Proofs.Tryz.f51)) (asub [true, true, false, true, false, false, true, true, false, false, true, true] an51) (kBlock 1 (kSeq (Cf fuel F_proof_Bytes) false (acall (C fuel) false d) (acall (C fuel) true d) 23 (csub [true, true, false, true, false, false, true, true, true] (fbody Go.Proofs.Tryz.f51)) (asub [true, true, false, true, false, false, true, true, true] an51) (kLoop (s_proof_Bytes_0 fuel d) (some [3, 6, 7, 8]) n (kOut [3])))))
noncomputable def k_proof_Bytes_1 : Nat → Nat → Nat → AExit → Fr → AH → Option (AExit × Fr × AH) := hide k_proof_Bytes_1r
theorem k_proof_Bytes_1_is : k_proof_Bytes_1 = k_proof_Bytes_1r := hide_eq _
theorem e_proof_Bytes (fuel d : Nat) (x0 : Sl) (h : AH) :
   brun fuel (d + 1) F_proof_Bytes [(AV.slice x0)] h =
 (l_proof_Bytes_0 fuel d fuel [(3, .slice Sl.nil), (6, .slice x0), (7, (AV.int .i64 (x0.len : Int))), (8, .int .i64 0)] h).bind fun p1 =>
   k_proof_Bytes_0 fuel d p1.1 p1.2.1 p1.2.2 := by
 generalize hh : brun = R
 rw [brun_is] at hh
 subst hh
 generalize hh : l_proof_Bytes_0 = R
 rw [l_proof_Bytes_0_is] at hh
 subst hh
 generalize hh : k_proof_Bytes_0 = R
 rw [k_proof_Bytes_0_is] at hh
 subst hh
 kernel_rfl
theorem l_proof_Bytes_0_eq (fuel d : Nat) (n : Nat) (x3 : Sl) (x6 : Sl) (x7 : Int) (x8 : Int) (h : AH) :
   l_proof_Bytes_0 fuel d (n + 1) [(3, .slice x3), (6, .slice x6), (7, .int .i64 x7), (8, .int .i64 x8)] h =
 (bif (decide (x8 < x7)) then ((AH.addr h 2 x6 x8).bind fun p1 =>
   (AH.cellsAt h 2 p1).bind fun c2 =>
   (bif (!false && Nat.beq (List.length c2) 2 && List.all c2 AV.isCell) then ((AH.storeAt (AH.push h 1 [(AV.bool false), .slice Sl.nil]) c2 (Pt.mk ⟨AH.next h, 0, 0⟩ 2)).bind fun h3 =>
   (Pt.field 0 (Pt.mk ⟨AH.next h, 0, 0⟩ 2)).bind fun p4 =>
   (AH.cell h3 p4).bind fun u5 =>
   (AV.bool? u5).bind fun b6 =>
   ((bif b6 then ((AH.sliceCells (AH.push h3 1 [(AV.int .u8 100), (AV.int .u8 32)]) 1 (Sl.mk ⟨AH.next h3, 0, 0⟩ 2 true)).bind fun xs7 =>
   (AH.append (AH.push h3 1 [(AV.int .u8 100), (AV.int .u8 32)]) false 1 1 x3 (Sl.mk ⟨AH.next h3, 0, 0⟩ 2 true).len xs7).bind fun a8 =>
   some (.normal, [(3, .slice a8.1), (5, (AV.ptr (Pt.mk ⟨AH.next h, 0, 0⟩ 2))), (6, .slice x6), (7, .int .i64 x7), (8, .int .i64 x8)], a8.2)) else (some (.normal, [(3, .slice x3), (5, (AV.ptr (Pt.mk ⟨AH.next h, 0, 0⟩ 2))), (6, .slice x6), (7, .int .i64 x7), (8, .int .i64 x8)], h3)))).bind fun p9 =>
   k_proof_Bytes_1 fuel d n p9.1 p9.2.1 p9.2.2) else (none))) else (some ((.exit 0), [(3, .slice x3)], h))) := by
 generalize hh : l_proof_Bytes_0 = R
 rw [l_proof_Bytes_0_is] at hh
 subst hh
 generalize hh : k_proof_Bytes_1 = R
 rw [k_proof_Bytes_1_is] at hh
 subst hh
 kernel_rfl
theorem k_proof_Bytes_0_x0 (fuel d : Nat) (x3 : Sl) (h : AH) :
   k_proof_Bytes_0 fuel d (.exit 0) [(3, .slice x3)] h =
 some ((AV.slice x3), h) := by
 generalize hh : k_proof_Bytes_0 = R
 rw [k_proof_Bytes_0_is] at hh
 subst hh
 kernel_rfl
theorem k_proof_Bytes_1_n (fuel d : Nat) (n : Nat) (x3 : Sl) (x5 : Pt) (x6 : Sl) (x7 : Int) (x8 : Int) (h : AH) :
   k_proof_Bytes_1 fuel d n .normal [(3, .slice x3), (5, .ptr x5), (6, .slice x6), (7, .int .i64 x7), (8, .int .i64 x8)] h =
 (Pt.field 1 x5).bind fun p1 =>
   (AH.cell h p1).bind fun u2 =>
   (AV.slice? u2).bind fun s3 =>
   (run fuel d F_dimacs_Line [(AV.slice x3), .slice s3] h).bind fun r4 =>
   (AV.slice? r4.1).bind fun s5 =>
   l_proof_Bytes_0 fuel d n [(3, .slice s5), (6, .slice x6), (7, .int .i64 x7), (8, (AV.int .i64 (IntKind.wrap .i64 (x8 + (1 : Int)))))] r4.2 := by
 generalize hh : run = R
 rw [run_is] at hh
 subst hh
 generalize hh : l_proof_Bytes_0 = R
 rw [l_proof_Bytes_0_is] at hh
 subst hh
 generalize hh : k_proof_Bytes_1 = R
 rw [k_proof_Bytes_1_is] at hh
 subst hh
 kernel_rfl
theorem e_skolemref23_one (fuel d : Nat) (x0 : Bool) (h : AH) :
   brun fuel (d + 1) F_skolemref23_one [(AV.bool x0)] h =
 (bif x0 then (some ((AV.int .i64 1), h)) else (some ((AV.int .i64 0), h))) := by
 generalize hh : brun = R
 rw [brun_is] at hh
 subst hh
 kernel_rfl
noncomputable def s_skolemref8_AigBytes_0 (fuel d : Nat) : Run := fun fr h k => aexec (Cf fuel F_skolemref8_AigBytes) false (acall (C fuel) false d) (acall (C fuel) true d) 78 (csub [true, true, false, true, false, false] (fbody Go.Proofs.Tryz.f54)) (asub [true, true, false, true, false, false] an54) fr h k
noncomputable def l_skolemref8_AigBytes_0r (fuel d : Nat) (n : Nat) (fr : Fr) (h : AH) : Option (AExit × Fr × AH) := aloop (s_skolemref8_AigBytes_0 fuel d) (some [1, 3, 4]) n fr h (kOut [1, 3])
noncomputable def l_skolemref8_AigBytes_0 : Nat → Nat → Nat → Fr → AH → Option (AExit × Fr × AH) := hide l_skolemref8_AigBytes_0r
theorem l_skolemref8_AigBytes_0_is : l_skolemref8_AigBytes_0 = l_skolemref8_AigBytes_0r := hide_eq _
noncomputable def k_skolemref8_AigBytes_0r (fuel d : Nat) : AExit → Fr → AH → Option (AV × AH) := (kBlock 0 (kSeq (Cf fuel F_skolemref8_AigBytes) false (acall (C fuel) false d) (acall (C fuel) true d) 78 (csub [true, true, true] (fbody Go.Proofs.Tryz.f54)) (asub [true, true, true] an54) (kRet (Cf fuel F_skolemref8_AigBytes) Go.Proofs.Tryz.f54.results.toList)))
noncomputable def k_skolemref8_AigBytes_0 : Nat → Nat → AExit → Fr → AH → Option (AV × AH) := hide k_skolemref8_AigBytes_0r
theorem k_skolemref8_AigBytes_0_is : k_skolemref8_AigBytes_0 = k_skolemref8_AigBytes_0r := hide_eq _
noncomputable def s_skolemref8_AigBytes_1 (fuel d : Nat) : Run := fun fr h k => aexec (Cf fuel F_skolemref8_AigBytes) false (acall (C fuel) false d) (acall (C fuel) true d) 78 (csub [true, true, true, false, true, false, false] (fbody Go.Proofs.Tryz.f54)) (asub [true, true, true, false, true, false, false] an54) fr h k
noncomputable def l_skolemref8_AigBytes_1r (fuel d : Nat) (n : Nat) (fr : Fr) (h : AH) : Option (AExit × Fr × AH) := aloop (s_skolemref8_AigBytes_1 fuel d) (some [1, 3, 5]) n fr h (kOut [3])
noncomputable def l_skolemref8_AigBytes_1 : Nat → Nat → Nat → Fr → AH → Option (AExit × Fr × AH) := hide l_skolemref8_AigBytes_1r
theorem l_skolemref8_AigBytes_1_is : l_skolemref8_AigBytes_1 = l_skolemref8_AigBytes_1r := hide_eq _
noncomputable def k_skolemref8_AigBytes_1r (fuel d : Nat) : AExit → Fr → AH → Option (AV × AH) := (kBlock 2 (kSeq (Cf fuel F_skolemref8_AigBytes) false (acall (C fuel) false d) (acall (C fuel) true d) 78 (csub [true, true, true, true] (fbody Go.Proofs.Tryz.f54)) (asub [true, true, true, true] an54) (kRet (Cf fuel F_skolemref8_AigBytes) Go.Proofs.Tryz.f54.results.toList)))
noncomputable def k_skolemref8_AigBytes_1 : Nat → Nat → AExit → Fr → AH → Option (AV × AH) := hide k_skolemref8_AigBytes_1r
theorem k_skolemref8_AigBytes_1_is : k_skolemref8_AigBytes_1 = k_skolemref8_AigBytes_1r := hide_eq _
theorem e_skolemref8_AigBytes (fuel d : Nat) (x0 : List AV) (h : AH) :
   brun fuel (d + 1) F_skolemref8_AigBytes [(AV.agg x0)] h =
 (bif (List.all x0 AV.isCell) then ((bif (AH.ownAt (AH.push (AH.push h 1 x0) 1 [(AV.int .u8 97), (AV.int .u8 105), (AV.int .u8 103), (AV.int .u8 32)]) (AH.next (AH.push h 1 x0))) then ((Pt.field 0 (Pt.mk ⟨AH.next h, 0, 0⟩ (List.length x0))).bind fun p1 =>
   (AH.cell (AH.push (AH.push h 1 x0) 1 [(AV.int .u8 97), (AV.int .u8 105), (AV.int .u8 103), (AV.int .u8 32)]) p1).bind fun u2 =>
   (AV.int? .i64 u2).bind fun n3 =>
   (Pt.field 1 (Pt.mk ⟨AH.next h, 0, 0⟩ (List.length x0))).bind fun p4 =>
   (AH.cell (AH.push (AH.push h 1 x0) 1 [(AV.int .u8 97), (AV.int .u8 105), (AV.int .u8 103), (AV.int .u8 32)]) p4).bind fun u5 =>
   (AV.slice? u5).bind fun s6 =>
   (Pt.field 0 (Pt.mk ⟨AH.next h, 0, 0⟩ (List.length x0))).bind fun p7 =>
   (AH.cell (AH.push (AH.push h 1 x0) 1 [(AV.int .u8 97), (AV.int .u8 105), (AV.int .u8 103), (AV.int .u8 32)]) p7).bind fun u8 =>
   (AV.int? .i64 u8).bind fun n9 =>
   (Pt.field 2 (Pt.mk ⟨AH.next h, 0, 0⟩ (List.length x0))).bind fun p10 =>
   (AH.cell (AH.push (AH.push h 1 x0) 1 [(AV.int .u8 97), (AV.int .u8 105), (AV.int .u8 103), (AV.int .u8 32)]) p10).bind fun u11 =>
   (AV.slice? u11).bind fun s12 =>
   (Pt.field 1 (Pt.mk ⟨AH.next h, 0, 0⟩ (List.length x0))).bind fun p13 =>
   (AH.cell (AH.push (AH.push h 1 x0) 1 [(AV.int .u8 97), (AV.int .u8 105), (AV.int .u8 103), (AV.int .u8 32)]) p13).bind fun u14 =>
   (AV.slice? u14).bind fun s15 =>
   (run fuel d F_skolemref8_numbers [(AV.slice (Sl.mk ⟨AH.next (AH.push h 1 x0), 0, 0⟩ 4 true)), (AV.slice (Sl.lst 5 true [(AV.int .i64 (IntKind.wrap .i64 (n3 + (s6.len : Int)))), .int .i64 n9, .int .i64 0, (AV.int .i64 (s12.len : Int)), (AV.int .i64 (s15.len : Int))]))] (AH.push (AH.push h 1 x0) 1 [(AV.int .u8 97), (AV.int .u8 105), (AV.int .u8 103), (AV.int .u8 32)])).bind fun r16 =>
   (AV.slice? r16.1).bind fun s17 =>
   (l_skolemref8_AigBytes_0 fuel d fuel [(1, (AV.ptr (Pt.mk ⟨AH.next h, 0, 0⟩ (List.length x0)))), (3, .slice s17), (4, .int .i64 0)] r16.2).bind fun p18 =>
   k_skolemref8_AigBytes_0 fuel d p18.1 p18.2.1 p18.2.2) else (none))) else (none)) := by
 generalize hh : run = R
 rw [run_is] at hh
 subst hh
 generalize hh : brun = R
 rw [brun_is] at hh
 subst hh
 generalize hh : l_skolemref8_AigBytes_0 = R
 rw [l_skolemref8_AigBytes_0_is] at hh
 subst hh
 generalize hh : k_skolemref8_AigBytes_0 = R
 rw [k_skolemref8_AigBytes_0_is] at hh
 subst hh
 kernel_rfl
theorem l_skolemref8_AigBytes_0_eq (fuel d : Nat) (n : Nat) (x1 : Pt) (x3 : Sl) (x4 : Int) (h : AH) :
   l_skolemref8_AigBytes_0 fuel d (n + 1) [(1, .ptr x1), (3, .slice x3), (4, .int .i64 x4)] h =
 (Pt.field 2 x1).bind fun p1 =>
   (AH.cell h p1).bind fun u2 =>
   (AV.slice? u2).bind fun s3 =>
   (bif (decide (x4 < (s3.len : Int))) then ((Pt.field 2 x1).bind fun p4 =>
   (AH.cell h p4).bind fun u5 =>
   (AV.slice? u5).bind fun s6 =>
   (AH.addr h 1 s6 x4).bind fun p7 =>
   (AH.cell h p7).bind fun u8 =>
   (AV.int? .i64 u8).bind fun n9 =>
   (run fuel d F_skolemref8_numbers [(AV.slice x3), (AV.slice (Sl.lst 1 true [(AV.int .i64 n9)]))] h).bind fun r10 =>
   (AV.slice? r10.1).bind fun s11 =>
   l_skolemref8_AigBytes_0 fuel d n [(1, .ptr x1), (3, .slice s11), (4, (AV.int .i64 (IntKind.wrap .i64 (x4 + (1 : Int)))))] r10.2) else (some ((.exit 0), [(1, .ptr x1), (3, .slice x3)], h))) := by
 generalize hh : run = R
 rw [run_is] at hh
 subst hh
 generalize hh : l_skolemref8_AigBytes_0 = R
 rw [l_skolemref8_AigBytes_0_is] at hh
 subst hh
 kernel_rfl
theorem k_skolemref8_AigBytes_0_x0 (fuel d : Nat) (x1 : Pt) (x3 : Sl) (h : AH) :
   k_skolemref8_AigBytes_0 fuel d (.exit 0) [(1, .ptr x1), (3, .slice x3)] h =
 (l_skolemref8_AigBytes_1 fuel d fuel [(1, .ptr x1), (3, .slice x3), (5, .int .i64 0)] h).bind fun p1 =>
   k_skolemref8_AigBytes_1 fuel d p1.1 p1.2.1 p1.2.2 := by
 generalize hh : k_skolemref8_AigBytes_0 = R
 rw [k_skolemref8_AigBytes_0_is] at hh
 subst hh
 generalize hh : l_skolemref8_AigBytes_1 = R
 rw [l_skolemref8_AigBytes_1_is] at hh
 subst hh
 generalize hh : k_skolemref8_AigBytes_1 = R
 rw [k_skolemref8_AigBytes_1_is] at hh
 subst hh
 kernel_rfl
theorem l_skolemref8_AigBytes_1_eq (fuel d : Nat) (n : Nat) (x1 : Pt) (x3 : Sl) (x5 : Int) (h : AH) :
   l_skolemref8_AigBytes_1 fuel d (n + 1) [(1, .ptr x1), (3, .slice x3), (5, .int .i64 x5)] h =
 (Pt.field 1 x1).bind fun p1 =>
   (AH.cell h p1).bind fun u2 =>
   (AV.slice? u2).bind fun s3 =>
   (bif (decide (x5 < (s3.len : Int))) then ((Pt.field 0 x1).bind fun p4 =>
   (AH.cell h p4).bind fun u5 =>
   (AV.int? .i64 u5).bind fun n6 =>
   (Pt.field 1 x1).bind fun p7 =>
   (AH.cell h p7).bind fun u8 =>
   (AV.slice? u8).bind fun s9 =>
   (AH.addr h 2 s9 x5).bind fun p10 =>
   (Pt.elem 1 2 (0 : Int) p10).bind fun p11 =>
   (AH.cell h p11).bind fun u12 =>
   (AV.int? .i64 u12).bind fun n13 =>
   (run fuel d F_skolemref8_small [(AV.slice x3), (AV.int .i64 (IntKind.wrap .i64 ((IntKind.wrap .i64 ((2 : Int) * (IntKind.wrap .i64 ((IntKind.wrap .i64 (n6 + x5)) + (1 : Int))))) - n13)))] h).bind fun r14 =>
   (AV.slice? r14.1).bind fun s15 =>
   (Pt.field 1 x1).bind fun p16 =>
   (AH.cell r14.2 p16).bind fun u17 =>
   (AV.slice? u17).bind fun s18 =>
   same ((AH.cell h p16).bind fun u42 =>
   (AV.slice? u42).bind fun s43 =>
   some ((AV.slice s43), h)) ((AV.slice s18), h) (
   (AH.addr r14.2 2 s18 x5).bind fun p19 =>
   same ((AH.addr h 2 s18 x5).bind fun p41 =>
   some ((AV.ptr p41), h)) ((AV.ptr p19), h) (
   (Pt.elem 1 2 (0 : Int) p19).bind fun p20 =>
   same ((Pt.elem 1 2 (0 : Int) p19).bind fun p40 =>
   some ((AV.ptr p40), h)) ((AV.ptr p20), h) (
   (AH.cell r14.2 p20).bind fun u21 =>
   (AV.int? .i64 u21).bind fun n22 =>
   same ((AH.cell h p20).bind fun u38 =>
   (AV.int? .i64 u38).bind fun n39 =>
   some ((AV.int .i64 n39), h)) ((AV.int .i64 n22), h) (
   (Pt.field 1 x1).bind fun p23 =>
   (AH.cell r14.2 p23).bind fun u24 =>
   (AV.slice? u24).bind fun s25 =>
   same ((AH.cell h p23).bind fun u36 =>
   (AV.slice? u36).bind fun s37 =>
   some ((AV.slice s37), h)) ((AV.slice s25), h) (
   (AH.addr r14.2 2 s25 x5).bind fun p26 =>
   same ((AH.addr h 2 s25 x5).bind fun p35 =>
   some ((AV.ptr p35), h)) ((AV.ptr p26), h) (
   (Pt.elem 1 2 (1 : Int) p26).bind fun p27 =>
   same ((Pt.elem 1 2 (1 : Int) p26).bind fun p34 =>
   some ((AV.ptr p34), h)) ((AV.ptr p27), h) (
   (AH.cell r14.2 p27).bind fun u28 =>
   (AV.int? .i64 u28).bind fun n29 =>
   same ((AH.cell h p27).bind fun u32 =>
   (AV.int? .i64 u32).bind fun n33 =>
   some ((AV.int .i64 n33), h)) ((AV.int .i64 n29), h) (
   (run fuel d F_skolemref8_small [(AV.slice s15), (AV.int .i64 (IntKind.wrap .i64 (n22 - n29)))] r14.2).bind fun r30 =>
   (AV.slice? r30.1).bind fun s31 =>
   l_skolemref8_AigBytes_1 fuel d n [(1, .ptr x1), (3, .slice s31), (5, (AV.int .i64 (IntKind.wrap .i64 (x5 + (1 : Int)))))] r30.2))))))))) else (some ((.exit 2), [(3, .slice x3)], h))) := by
 generalize hh : run = R
 rw [run_is] at hh
 subst hh
 generalize hh : l_skolemref8_AigBytes_1 = R
 rw [l_skolemref8_AigBytes_1_is] at hh
 subst hh
 kernel_rfl
theorem k_skolemref8_AigBytes_1_x2 (fuel d : Nat) (x3 : Sl) (h : AH) :
   k_skolemref8_AigBytes_1 fuel d (.exit 2) [(3, .slice x3)] h =
 some ((AV.slice x3), h) := by
 generalize hh : k_skolemref8_AigBytes_1 = R
 rw [k_skolemref8_AigBytes_1_is] at hh
 subst hh
 kernel_rfl
theorem e_strconv_AppendInt (fuel d : Nat) (x0 : Sl) (x1 : Int) (x2 : Int) (h : AH) :
   run fuel (d + 1) F_strconv_AppendInt [(AV.slice x0), .int .i64 x1, .int .i64 x2] h =
 (run fuel d F_internal_strconv_AppendInt [(AV.slice x0), .int .i64 x1, .int .i64 x2] h).bind fun r1 =>
   (AV.slice? r1.1).bind fun s2 =>
   some ((AV.slice s2), r1.2) := by
 generalize hh : run = R
 rw [run_is] at hh
 subst hh
 kernel_rfl
noncomputable def s_skolemref20_Bytes_0 (fuel d : Nat) : Run := fun fr h k => aexec (Cf fuel F_skolemref20_Bytes) false (acall (C fuel) false d) (acall (C fuel) true d) 46 (csub [true, true, false, true, false, false] (fbody Go.Proofs.Tryz.f56)) (asub [true, true, false, true, false, false] an56) fr h k
noncomputable def l_skolemref20_Bytes_0r (fuel d : Nat) (n : Nat) (fr : Fr) (h : AH) : Option (AExit × Fr × AH) := aloop (s_skolemref20_Bytes_0 fuel d) (some [0, 3, 4]) n fr h (kOut [3])
noncomputable def l_skolemref20_Bytes_0 : Nat → Nat → Nat → Fr → AH → Option (AExit × Fr × AH) := hide l_skolemref20_Bytes_0r
theorem l_skolemref20_Bytes_0_is : l_skolemref20_Bytes_0 = l_skolemref20_Bytes_0r := hide_eq _
noncomputable def k_skolemref20_Bytes_0r (fuel d : Nat) : AExit → Fr → AH → Option (AV × AH) := (kBlock 0 (kSeq (Cf fuel F_skolemref20_Bytes) false (acall (C fuel) false d) (acall (C fuel) true d) 46 (csub [true, true, true] (fbody Go.Proofs.Tryz.f56)) (asub [true, true, true] an56) (kRet (Cf fuel F_skolemref20_Bytes) Go.Proofs.Tryz.f56.results.toList)))
noncomputable def k_skolemref20_Bytes_0 : Nat → Nat → AExit → Fr → AH → Option (AV × AH) := hide k_skolemref20_Bytes_0r
theorem k_skolemref20_Bytes_0_is : k_skolemref20_Bytes_0 = k_skolemref20_Bytes_0r := hide_eq _
noncomputable def s_skolemref20_Bytes_1 (fuel d : Nat) : Run := fun fr h k => aexec (Cf fuel F_skolemref20_Bytes) false (acall (C fuel) false d) (acall (C fuel) true d) 46 (csub [true, true, false, true, false, false, true, false, false, true, false, true, false, false] (fbody Go.Proofs.Tryz.f56)) (asub [true, true, false, true, false, false, true, false, false, true, false, true, false, false] an56) fr h k
noncomputable def l_skolemref20_Bytes_1r (fuel d : Nat) (n : Nat) (fr : Fr) (h : AH) : Option (AExit × Fr × AH) := aloop (s_skolemref20_Bytes_1 fuel d) (some [0, 3, 4, 5]) n fr h (kOut [0, 3, 4])
noncomputable def l_skolemref20_Bytes_1 : Nat → Nat → Nat → Fr → AH → Option (AExit × Fr × AH) := hide l_skolemref20_Bytes_1r
theorem l_skolemref20_Bytes_1_is : l_skolemref20_Bytes_1 = l_skolemref20_Bytes_1r := hide_eq _
noncomputable def k_skolemref20_Bytes_1r (fuel d : Nat) (n : Nat) : AExit → Fr → AH → Option (AExit × Fr × AH) := (kBlock 2 (kSeq (Cf fuel F_skolemref20_Bytes) false (acall (C fuel) false d) (acall (C fuel) true d) 46 (csub [true, true, false, true, false, false, true, false, false, true, true] (fbody Go.Proofs.Tryz.f56)) (asub [true, true, false, true, false, false, true, false, false, true, true] an56) (kBlock 1 (kSeq (Cf fuel F_skolemref20_Bytes) false (acall (C fuel) false d) (acall (C fuel) true d) 46 (csub [true, true, false, true, false, false, true, true] (fbody Go.Proofs.Tryz.f56)) (asub [true, true, false, true, false, false, true, true] an56) (kLoop (s_skolemref20_Bytes_0 fuel d) (some [0, 3, 4]) n (kOut [3]))))))
noncomputable def k_skolemref20_Bytes_1 : Nat → Nat → Nat → AExit → Fr → AH → Option (AExit × Fr × AH) := hide k_skolemref20_Bytes_1r
theorem k_skolemref20_Bytes_1_is : k_skolemref20_Bytes_1 = k_skolemref20_Bytes_1r := hide_eq _
theorem e_skolemref20_Bytes (fuel d : Nat) (x0 : Sl) (h : AH) :
   brun fuel (d + 1) F_skolemref20_Bytes [(AV.slice x0)] h =
 (l_skolemref20_Bytes_0 fuel d fuel [(0, .slice x0), (3, .slice Sl.nil), (4, .int .i64 0)] h).bind fun p1 =>
   k_skolemref20_Bytes_0 fuel d p1.1 p1.2.1 p1.2.2 := by
 generalize hh : brun = R
 rw [brun_is] at hh
 subst hh
 generalize hh : l_skolemref20_Bytes_0 = R
 rw [l_skolemref20_Bytes_0_is] at hh
 subst hh
 generalize hh : k_skolemref20_Bytes_0 = R
 rw [k_skolemref20_Bytes_0_is] at hh
 subst hh
 kernel_rfl
theorem l_skolemref20_Bytes_0_eq (fuel d : Nat) (n : Nat) (x0 : Sl) (x3 : Sl) (x4 : Int) (h : AH) :
   l_skolemref20_Bytes_0 fuel d (n + 1) [(0, .slice x0), (3, .slice x3), (4, .int .i64 x4)] h =
 (bif (decide (x4 < (x0.len : Int))) then ((AH.addr h 2 x0 x4).bind fun p1 =>
   (Pt.field 0 p1).bind fun p2 =>
   (AH.cell h p2).bind fun u3 =>
   (AV.bool? u3).bind fun b4 =>
   (bif b4 then ((AH.sliceCells (AH.push h 1 [(AV.int .u8 100), (AV.int .u8 32)]) 1 (Sl.mk ⟨AH.next h, 0, 0⟩ 2 true)).bind fun xs5 =>
   (AH.append (AH.push h 1 [(AV.int .u8 100), (AV.int .u8 32)]) false 1 1 x3 (Sl.mk ⟨AH.next h, 0, 0⟩ 2 true).len xs5).bind fun a6 =>
   (l_skolemref20_Bytes_1 fuel d fuel [(0, .slice x0), (3, .slice a6.1), (4, .int .i64 x4), (5, .int .i64 0)] a6.2).bind fun p7 =>
   k_skolemref20_Bytes_1 fuel d n p7.1 p7.2.1 p7.2.2) else ((l_skolemref20_Bytes_1 fuel d fuel [(0, .slice x0), (3, .slice x3), (4, .int .i64 x4), (5, .int .i64 0)] h).bind fun p8 =>
   k_skolemref20_Bytes_1 fuel d n p8.1 p8.2.1 p8.2.2))) else (some ((.exit 0), [(3, .slice x3)], h))) := by
 generalize hh : l_skolemref20_Bytes_0 = R
 rw [l_skolemref20_Bytes_0_is] at hh
 subst hh
 generalize hh : l_skolemref20_Bytes_1 = R
 rw [l_skolemref20_Bytes_1_is] at hh
 subst hh
 generalize hh : k_skolemref20_Bytes_1 = R
 rw [k_skolemref20_Bytes_1_is] at hh
 subst hh
 kernel_rfl
theorem k_skolemref20_Bytes_0_x0 (fuel d : Nat) (x3 : Sl) (h : AH) :
   k_skolemref20_Bytes_0 fuel d (.exit 0) [(3, .slice x3)] h =
 some ((AV.slice x3), h) := by
 generalize hh : k_skolemref20_Bytes_0 = R
 rw [k_skolemref20_Bytes_0_is] at hh
 subst hh
 kernel_rfl
theorem l_skolemref20_Bytes_1_eq (fuel d : Nat) (n : Nat) (x0 : Sl) (x3 : Sl) (x4 : Int) (x5 : Int) (h : AH) :
   l_skolemref20_Bytes_1 fuel d (n + 1) [(0, .slice x0), (3, .slice x3), (4, .int .i64 x4), (5, .int .i64 x5)] h =
 (AH.addr h 2 x0 x4).bind fun p1 =>
   (Pt.field 1 p1).bind fun p2 =>
   (AH.cell h p2).bind fun u3 =>
   (AV.slice? u3).bind fun s4 =>
   (bif (decide (x5 < (s4.len : Int))) then ((AH.addr h 2 x0 x4).bind fun p5 =>
   (Pt.field 1 p5).bind fun p6 =>
   (AH.cell h p6).bind fun u7 =>
   (AV.slice? u7).bind fun s8 =>
   (AH.addr h 1 s8 x5).bind fun p9 =>
   (AH.cell h p9).bind fun u10 =>
   (AV.int? .i64 u10).bind fun n11 =>
   (run fuel d F_strconv_AppendInt [(AV.slice x3), .int .i64 n11, .int .i64 10] h).bind fun r12 =>
   (AV.slice? r12.1).bind fun s13 =>
   (AH.sliceCells (AH.push r12.2 1 [(AV.int .u8 32)]) 1 (Sl.mk ⟨AH.next r12.2, 0, 0⟩ 1 true)).bind fun xs14 =>
   (AH.append (AH.push r12.2 1 [(AV.int .u8 32)]) false 1 1 s13 (Sl.mk ⟨AH.next r12.2, 0, 0⟩ 1 true).len xs14).bind fun a15 =>
   l_skolemref20_Bytes_1 fuel d n [(0, .slice x0), (3, .slice a15.1), (4, .int .i64 x4), (5, (AV.int .i64 (IntKind.wrap .i64 (x5 + (1 : Int)))))] a15.2) else (some ((.exit 2), [(0, .slice x0), (3, .slice x3), (4, .int .i64 x4)], h))) := by
 generalize hh : run = R
 rw [run_is] at hh
 subst hh
 generalize hh : l_skolemref20_Bytes_1 = R
 rw [l_skolemref20_Bytes_1_is] at hh
 subst hh
 kernel_rfl
theorem k_skolemref20_Bytes_1_x2 (fuel d : Nat) (n : Nat) (x0 : Sl) (x3 : Sl) (x4 : Int) (h : AH) :
   k_skolemref20_Bytes_1 fuel d n (.exit 2) [(0, .slice x0), (3, .slice x3), (4, .int .i64 x4)] h =
 (AH.sliceCells (AH.push h 1 [(AV.int .u8 48), (AV.int .u8 10)]) 1 (Sl.mk ⟨AH.next h, 0, 0⟩ 2 true)).bind fun xs1 =>
   (AH.append (AH.push h 1 [(AV.int .u8 48), (AV.int .u8 10)]) false 1 1 x3 (Sl.mk ⟨AH.next h, 0, 0⟩ 2 true).len xs1).bind fun a2 =>
   l_skolemref20_Bytes_0 fuel d n [(0, .slice x0), (3, .slice a2.1), (4, (AV.int .i64 (IntKind.wrap .i64 (x4 + (1 : Int)))))] a2.2 := by
 generalize hh : l_skolemref20_Bytes_0 = R
 rw [l_skolemref20_Bytes_0_is] at hh
 subst hh
 generalize hh : k_skolemref20_Bytes_1 = R
 rw [k_skolemref20_Bytes_1_is] at hh
 subst hh
 kernel_rfl
theorem e_bytes_IndexByte (fuel d : Nat) (x0 : Sl) (x1 : Int) (h : AH) :
   brun fuel (d + 1) F_bytes_IndexByte [(AV.slice x0), .int .u8 x1] h =
 (run fuel d F_bytealg_IndexByte [(AV.slice x0), .int .u8 x1] h).bind fun r1 =>
   (AV.int? .i64 r1.1).bind fun n2 =>
   some ((AV.int .i64 n2), r1.2) := by
 generalize hh : run = R
 rw [run_is] at hh
 subst hh
 generalize hh : brun = R
 rw [brun_is] at hh
 subst hh
 kernel_rfl
noncomputable def s_word_Bits_0 (fuel d : Nat) : Run := fun fr h k => aexec (Cf fuel F_word_Bits) false (acall (C fuel) false d) (acall (C fuel) true d) 33 (csub [true, true, false, true, false, false] (fbody Go.Proofs.Tryz.f75)) (asub [true, true, false, true, false, false] an75) fr h k
noncomputable def l_word_Bits_0r (fuel d : Nat) (n : Nat) (fr : Fr) (h : AH) : Option (AExit × Fr × AH) := aloop (s_word_Bits_0 fuel d) (some [0, 4, 10, 11]) n fr h (kOut [2, 3, 4])
noncomputable def l_word_Bits_0 : Nat → Nat → Nat → Fr → AH → Option (AExit × Fr × AH) := hide l_word_Bits_0r
theorem l_word_Bits_0_is : l_word_Bits_0 = l_word_Bits_0r := hide_eq _
noncomputable def k_word_Bits_0r (fuel d : Nat) : AExit → Fr → AH → Option (AV × AH) := (kBlock 0 (kSeq (Cf fuel F_word_Bits) false (acall (C fuel) false d) (acall (C fuel) true d) 33 (csub [true, true, true] (fbody Go.Proofs.Tryz.f75)) (asub [true, true, true] an75) (kRet (Cf fuel F_word_Bits) Go.Proofs.Tryz.f75.results.toList)))
noncomputable def k_word_Bits_0 : Nat → Nat → AExit → Fr → AH → Option (AV × AH) := hide k_word_Bits_0r
theorem k_word_Bits_0_is : k_word_Bits_0 = k_word_Bits_0r := hide_eq _
theorem e_word_Bits (fuel d : Nat) (x0 : ByteArray) (h : AH) :
   brun fuel (d + 1) F_word_Bits [(AV.str x0)] h =
 (bif (decide ((0 : Int) ≤ ((ByteArray.size x0 : Nat) : Int)) && decide (((ByteArray.size x0 : Nat) : Int) * 1 ≤ 140737488355328) && decide (((ByteArray.size x0 : Nat) : Int) ≤ 140737488355328)) then ((l_word_Bits_0 fuel d fuel [(0, .str x0), (4, (AV.slice (Sl.mk ⟨AH.next h, 0, 0⟩ 0 (eqI (0 : Int) ((ByteArray.size x0 : Nat) : Int))))), (10, (AV.int .i64 ((ByteArray.size x0 : Nat) : Int))), (11, .int .i64 0)] (AH.push h 1 [])).bind fun p1 =>
   k_word_Bits_0 fuel d p1.1 p1.2.1 p1.2.2) else (none)) := by
 generalize hh : brun = R
 rw [brun_is] at hh
 subst hh
 generalize hh : l_word_Bits_0 = R
 rw [l_word_Bits_0_is] at hh
 subst hh
 generalize hh : k_word_Bits_0 = R
 rw [k_word_Bits_0_is] at hh
 subst hh
 kernel_rfl
theorem l_word_Bits_0_eq (fuel d : Nat) (n : Nat) (x0 : ByteArray) (x4 : Sl) (x10 : Int) (x11 : Int) (h : AH) :
   l_word_Bits_0 fuel d (n + 1) [(0, .str x0), (4, .slice x4), (10, .int .i64 x10), (11, .int .i64 x11)] h =
 (bif (decide (x11 < x10)) then ((strAt x0 x11).bind fun n1 =>
   ((bif ((!decide (n1 = (48 : Int))) == true) then ((strAt x0 x11).bind fun n2 =>
   some ((AV.bool (!decide (n2 = (49 : Int)))), h)) else (some ((AV.bool false), h)) : Option (AV × AH))).bind fun r3 =>
   (AV.bool? r3.1).bind fun b4 =>
   (bif b4 then (some (.ret, [(2, .slice Sl.nil), (3, .bool false), (4, .slice x4)], r3.2)) else ((strAt x0 x11).bind fun n5 =>
   (AH.append r3.2 false 1 1 x4 1 [(AV.bool (decide (n5 = (49 : Int))))]).bind fun a6 =>
   l_word_Bits_0 fuel d n [(0, .str x0), (4, .slice a6.1), (10, .int .i64 x10), (11, (AV.int .i64 (IntKind.wrap .i64 (x11 + (1 : Int)))))] a6.2))) else (some ((.exit 0), [(2, AV.bot), (3, AV.bot), (4, .slice x4)], h))) := by
 generalize hh : l_word_Bits_0 = R
 rw [l_word_Bits_0_is] at hh
 subst hh
 kernel_rfl
theorem k_word_Bits_0_x0 (fuel d : Nat) (x2 : AV) (x3 : AV) (x4 : Sl) (h : AH) :
   k_word_Bits_0 fuel d (.exit 0) [(2, x2), (3, x3), (4, .slice x4)] h =
 some ((AV.tup [(AV.slice x4), .bool true]), h) := by
 generalize hh : k_word_Bits_0 = R
 rw [k_word_Bits_0_is] at hh
 subst hh
 kernel_rfl
theorem k_word_Bits_0_r (fuel d : Nat) (x2 : Sl) (x3 : Bool) (x4 : AV) (h : AH) :
   k_word_Bits_0 fuel d .ret [(2, .slice x2), (3, .bool x3), (4, x4)] h =
 some ((AV.tup [(AV.slice x2), .bool x3]), h) := by
 generalize hh : k_word_Bits_0 = R
 rw [k_word_Bits_0_is] at hh
 subst hh
 kernel_rfl
theorem e_word_Plain (fuel d : Nat) (x0 : ByteArray) (h : AH) :
   brun fuel (d + 1) F_word_Plain [(AV.str x0)] h =
 (run fuel d F_word_Number [(AV.str x0)] h).bind fun r1 =>
   (bif AV.isTup 2 r1.1 then ((AV.comp 0 r1.1).bind fun u2 =>
   (AV.int? .i64 u2).bind fun n3 =>
   (AV.comp 1 r1.1).bind fun u4 =>
   (AV.bool? u4).bind fun b5 =>
   ((bif ((!b5) == false) then ((strAt x0 (0 : Int)).bind fun n6 =>
   some ((AV.bool (decide (n6 = (45 : Int)))), r1.2)) else (some ((AV.bool true), r1.2)) : Option (AV × AH))).bind fun r7 =>
   (AV.bool? r7.1).bind fun b8 =>
   (bif b8 then (some ((AV.tup [(AV.int .i64 0), .bool false]), r7.2)) else (some ((AV.tup [(AV.int .i64 n3), .bool true]), r7.2)))) else none) := by
 generalize hh : run = R
 rw [run_is] at hh
 subst hh
 generalize hh : brun = R
 rw [brun_is] at hh
 subst hh
 kernel_rfl
theorem e_cert_functions (fuel d : Nat) (x0 : Sl) (x1 : Int) (x2 : Int) (x3 : Pt) (h : AH) :
   run fuel (d + 1) F_cert_functions [(AV.slice x0), .int .i64 x1, .int .i64 x2, .ptr x3] h =
 (bif (decide ((x0.len : Int) ≤ (IntKind.wrap .i64 (x1 + x2)))) then ((run fuel d F_cert_at [(AV.int .i64 (x0.len : Int)), err_api_ErrText] h).bind fun r1 =>
   some ((AV.tup [(AV.int .i64 0), r1.1]), r1.2)) else ((AH.addr h 1 x0 (IntKind.wrap .i64 (x1 + x2))).bind fun p2 =>
   (AH.cell h p2).bind fun u3 =>
   (AV.int? .u8 u3).bind fun n4 =>
   (bif (!decide (n4 = (10 : Int))) then ((run fuel d F_cert_at [(AV.int .i64 (IntKind.wrap .i64 (x1 + x2))), err_api_ErrText] h).bind fun r5 =>
   some ((AV.tup [(AV.int .i64 0), r5.1]), r5.2)) else ((aHi (some (AV.int .i64 (IntKind.wrap .i64 (x1 + x2)))) (Sl.len x0)).bind fun hi6 =>
   (aLo (some (AV.int .i64 x1)) hi6).bind fun lo7 =>
   (aMx (none : Option AV) hi6).bind fun cl8 =>
   (bif (AH.hasSz h 1 x0) then ((run fuel d F_aig_Read [(AV.slice (Sl.cut x0 1 lo7 hi6 cl8))] h).bind fun r9 =>
   (bif AV.isTup 2 r9.1 then ((AV.comp 0 r9.1).bind fun u10 =>
   (AV.agg? u10).bind fun c11 =>
   (AV.comp 1 r9.1).bind fun u12 =>
   (Pt.chk x3).bind fun p13 =>
   (Pt.field 3 p13).bind fun p14 =>
   (bif (!false && Nat.beq (List.length c11) 3 && List.all c11 AV.isCell) then ((AH.storeAt r9.2 c11 p14).bind fun h15 =>
   (nilTest .iface u12).bind fun b16 =>
   (bif (!b16) then ((run fuel d F_cert_Behind [u12, .int .i64 x1] h15).bind fun r17 =>
   some ((AV.tup [(AV.int .i64 0), r17.1]), r17.2)) else (some ((AV.tup [(AV.int .i64 (IntKind.wrap .i64 ((IntKind.wrap .i64 (x1 + x2)) + (1 : Int)))), AV.nilif]), h15)))) else (none))) else none)) else (none)))))) := by
 generalize hh : run = R
 rw [run_is] at hh
 subst hh
 kernel_rfl
theorem e_proof_at (fuel d : Nat) (x0 : Int) (x1 : AV) (h : AH) :
   brun fuel (d + 1) F_proof_at [(AV.int .i64 x0), x1] h =
 ((bif (Nat.beq (List.length (AV.cells x1)) 1 && Nat.ble (1 + 1) (List.length [(AV.int .i64 x0), AV.nilif]) && List.all (AV.cells x1) AV.isCell) then ((some (AH.overlay [(AV.int .i64 x0), AV.nilif] 1 (AV.cells x1)))) else (none))).bind fun c1 =>
   (bif (List.all c1 AV.isCell) then (some ((AV.iface T_p_api_At (AV.ptr (Pt.mk ⟨AH.next h, 0, 0⟩ (List.length c1)))), (AH.push h 1 c1))) else (none)) := by
 generalize hh : brun = R
 rw [brun_is] at hh
 subst hh
 kernel_rfl
noncomputable def s_word_Split_0 (fuel d : Nat) : Run := fun fr h k => aexec (Cf fuel F_word_Split) false (acall (C fuel) false d) (acall (C fuel) true d) 54 (csub [true, true, false, true, false, false] (fbody Go.Proofs.Tryz.f79)) (asub [true, true, false, true, false, false] an79) fr h k
noncomputable def l_word_Split_0r (fuel d : Nat) (n : Nat) (fr : Fr) (h : AH) : Option (AExit × Fr × AH) := aloop (s_word_Split_0 fuel d) (some [0, 1, 5, 6]) n fr h (kOut [5])
noncomputable def l_word_Split_0 : Nat → Nat → Nat → Fr → AH → Option (AExit × Fr × AH) := hide l_word_Split_0r
theorem l_word_Split_0_is : l_word_Split_0 = l_word_Split_0r := hide_eq _
noncomputable def k_word_Split_0r (fuel d : Nat) : AExit → Fr → AH → Option (AV × AH) := (kBlock 0 (kSeq (Cf fuel F_word_Split) false (acall (C fuel) false d) (acall (C fuel) true d) 54 (csub [true, true, true] (fbody Go.Proofs.Tryz.f79)) (asub [true, true, true] an79) (kRet (Cf fuel F_word_Split) Go.Proofs.Tryz.f79.results.toList)))
noncomputable def k_word_Split_0 : Nat → Nat → AExit → Fr → AH → Option (AV × AH) := hide k_word_Split_0r
theorem k_word_Split_0_is : k_word_Split_0 = k_word_Split_0r := hide_eq _
noncomputable def k_word_Split_1r (fuel d : Nat) (n : Nat) : AExit → Fr → AH → Option (AExit × Fr × AH) := (kSeq (Cf fuel F_word_Split) false (acall (C fuel) false d) (acall (C fuel) true d) 54 (csub [true, true, false, true, false, false, true, false, true, true] (fbody Go.Proofs.Tryz.f79)) (asub [true, true, false, true, false, false, true, false, true, true] an79) (kBlock 1 (kLoop (s_word_Split_0 fuel d) (some [0, 1, 5, 6]) n (kOut [5]))))
noncomputable def k_word_Split_1 : Nat → Nat → Nat → AExit → Fr → AH → Option (AExit × Fr × AH) := hide k_word_Split_1r
theorem k_word_Split_1_is : k_word_Split_1 = k_word_Split_1r := hide_eq _
theorem e_word_Split (fuel d : Nat) (x0 : Sl) (x1 : Bool) (h : AH) :
   brun fuel (d + 1) F_word_Split [(AV.slice x0), .bool x1] h =
 (l_word_Split_0 fuel d fuel [(0, .slice x0), (1, .bool x1), (5, .slice Sl.nil), (6, .int .i64 0)] h).bind fun p1 =>
   k_word_Split_0 fuel d p1.1 p1.2.1 p1.2.2 := by
 generalize hh : brun = R
 rw [brun_is] at hh
 subst hh
 generalize hh : l_word_Split_0 = R
 rw [l_word_Split_0_is] at hh
 subst hh
 generalize hh : k_word_Split_0 = R
 rw [k_word_Split_0_is] at hh
 subst hh
 kernel_rfl
theorem l_word_Split_0_eq (fuel d : Nat) (n : Nat) (x0 : Sl) (x1 : Bool) (x5 : Sl) (x6 : Int) (h : AH) :
   l_word_Split_0 fuel d (n + 1) [(0, .slice x0), (1, .bool x1), (5, .slice x5), (6, .int .i64 x6)] h =
 (bif (decide (x6 < (x0.len : Int))) then ((aHi (none : Option AV) (Sl.len x0)).bind fun hi1 =>
   (aLo (some (AV.int .i64 x6)) hi1).bind fun lo2 =>
   (aMx (none : Option AV) hi1).bind fun cl3 =>
   (bif (AH.hasSz h 1 x0) then ((run fuel d F_bytes_IndexByte [(AV.slice (Sl.cut x0 1 lo2 hi1 cl3)), (AV.int .u8 10)] h).bind fun r4 =>
   (AV.int? .i64 r4.1).bind fun n5 =>
   ((bif (decide (n5 < (0 : Int))) then (some (.normal, [(0, .slice x0), (1, .bool x1), (5, .slice x5), (6, .int .i64 x6), (7, (AV.int .i64 (IntKind.wrap .i64 ((x0.len : Int) - x6))))], r4.2)) else (some (.normal, [(0, .slice x0), (1, .bool x1), (5, .slice x5), (6, .int .i64 x6), (7, .int .i64 n5)], r4.2)))).bind fun p6 =>
   k_word_Split_1 fuel d n p6.1 p6.2.1 p6.2.2) else (none))) else (some ((.exit 0), [(5, .slice x5)], h))) := by
 generalize hh : run = R
 rw [run_is] at hh
 subst hh
 generalize hh : l_word_Split_0 = R
 rw [l_word_Split_0_is] at hh
 subst hh
 generalize hh : k_word_Split_1 = R
 rw [k_word_Split_1_is] at hh
 subst hh
 kernel_rfl
theorem k_word_Split_0_x0 (fuel d : Nat) (x5 : Sl) (h : AH) :
   k_word_Split_0 fuel d (.exit 0) [(5, .slice x5)] h =
 some ((AV.slice x5), h) := by
 generalize hh : k_word_Split_0 = R
 rw [k_word_Split_0_is] at hh
 subst hh
 kernel_rfl
theorem k_word_Split_1_n (fuel d : Nat) (n : Nat) (x0 : Sl) (x1 : Bool) (x5 : Sl) (x6 : Int) (x7 : Int) (h : AH) :
   k_word_Split_1 fuel d n .normal [(0, .slice x0), (1, .bool x1), (5, .slice x5), (6, .int .i64 x6), (7, .int .i64 x7)] h =
 (aHi (some (AV.int .i64 (IntKind.wrap .i64 (x6 + x7)))) (Sl.len x0)).bind fun hi1 =>
   (aLo (some (AV.int .i64 x6)) hi1).bind fun lo2 =>
   (aMx (none : Option AV) hi1).bind fun cl3 =>
   (bif (AH.hasSz h 1 x0) then ((run fuel d F_word_line [(AV.slice (Sl.cut x0 1 lo2 hi1 cl3)), .int .i64 x6] h).bind fun r4 =>
   (AV.slice? r4.1).bind fun s5 =>
   ((bif ((bif (!x1) then true else (decide ((s5.len : Int) = (0 : Int)))) == false) then ((AH.addr r4.2 3 s5 (0 : Int)).bind fun p6 =>
   (Pt.field 0 p6).bind fun p7 =>
   (AH.cell r4.2 p7).bind fun u8 =>
   (AV.str? u8).bind fun s9 =>
   (strAt s9 (0 : Int)).bind fun n10 =>
   some ((AV.bool (!decide (n10 = (99 : Int)))), r4.2)) else (some ((AV.bool true), r4.2)) : Option (AV × AH))).bind fun r11 =>
   (AV.bool? r11.1).bind fun b12 =>
   (bif b12 then ((AH.sliceCells r11.2 3 s5).bind fun xs13 =>
   (AH.append r11.2 false 3 32 x5 s5.len xs13).bind fun a14 =>
   l_word_Split_0 fuel d n [(0, .slice x0), (1, .bool x1), (5, .slice a14.1), (6, (AV.int .i64 (IntKind.wrap .i64 (x6 + (IntKind.wrap .i64 (x7 + (1 : Int)))))))] a14.2) else (l_word_Split_0 fuel d n [(0, .slice x0), (1, .bool x1), (5, .slice x5), (6, (AV.int .i64 (IntKind.wrap .i64 (x6 + (IntKind.wrap .i64 (x7 + (1 : Int)))))))] r11.2))) else (none)) := by
 generalize hh : run = R
 rw [run_is] at hh
 subst hh
 generalize hh : l_word_Split_0 = R
 rw [l_word_Split_0_is] at hh
 subst hh
 generalize hh : k_word_Split_1 = R
 rw [k_word_Split_1_is] at hh
 subst hh
 kernel_rfl
noncomputable def k_word_Number_0r (fuel d : Nat) : AExit → Fr → AH → Option (AV × AH) := (kSeq (Cf fuel F_word_Number) false (acall (C fuel) false d) (acall (C fuel) true d) 51 (csub [true, true, true] (fbody Go.Proofs.Tryz.f80)) (asub [true, true, true] an80) (kRet (Cf fuel F_word_Number) Go.Proofs.Tryz.f80.results.toList))
noncomputable def k_word_Number_0 : Nat → Nat → AExit → Fr → AH → Option (AV × AH) := hide k_word_Number_0r
theorem k_word_Number_0_is : k_word_Number_0 = k_word_Number_0r := hide_eq _
noncomputable def s_word_Number_0 (fuel d : Nat) : Run := fun fr h k => aexec (Cf fuel F_word_Number) false (acall (C fuel) false d) (acall (C fuel) true d) 51 (csub [true, true, true, true, false, true, false, false] (fbody Go.Proofs.Tryz.f80)) (asub [true, true, true, true, false, true, false, false] an80) fr h k
noncomputable def l_word_Number_0r (fuel d : Nat) (n : Nat) (fr : Fr) (h : AH) : Option (AExit × Fr × AH) := aloop (s_word_Number_0 fuel d) (some [0, 4, 28, 29]) n fr h (kOut [0, 2, 3])
noncomputable def l_word_Number_0 : Nat → Nat → Nat → Fr → AH → Option (AExit × Fr × AH) := hide l_word_Number_0r
theorem l_word_Number_0_is : l_word_Number_0 = l_word_Number_0r := hide_eq _
noncomputable def k_word_Number_1r (fuel d : Nat) : AExit → Fr → AH → Option (AV × AH) := (kBlock 0 (kSeq (Cf fuel F_word_Number) false (acall (C fuel) false d) (acall (C fuel) true d) 51 (csub [true, true, true, true, true] (fbody Go.Proofs.Tryz.f80)) (asub [true, true, true, true, true] an80) (kRet (Cf fuel F_word_Number) Go.Proofs.Tryz.f80.results.toList)))
noncomputable def k_word_Number_1 : Nat → Nat → AExit → Fr → AH → Option (AV × AH) := hide k_word_Number_1r
theorem k_word_Number_1_is : k_word_Number_1 = k_word_Number_1r := hide_eq _
theorem e_word_Number (fuel d : Nat) (x0 : ByteArray) (h : AH) :
   brun fuel (d + 1) F_word_Number [(AV.str x0)] h =
 ((bif ((decide ((0 : Int) < ((ByteArray.size x0 : Nat) : Int))) == true) then ((strAt x0 (0 : Int)).bind fun n1 =>
   some ((AV.bool (decide (n1 = (45 : Int)))), h)) else (some ((AV.bool false), h)) : Option (AV × AH))).bind fun r2 =>
   (AV.bool? r2.1).bind fun b3 =>
   ((bif b3 then ((aHi (none : Option AV) (ByteArray.size x0)).bind fun hi4 =>
   (aLo (some (AV.int .i64 1)) hi4).bind fun lo5 =>
   some (.normal, [(0, .str x0), (4, (AV.str (ByteArray.extract x0 lo5 hi4)))], r2.2)) else (some (.normal, [(0, .str x0), (4, .str x0)], r2.2)))).bind fun p6 =>
   k_word_Number_0 fuel d p6.1 p6.2.1 p6.2.2 := by
 generalize hh : brun = R
 rw [brun_is] at hh
 subst hh
 generalize hh : k_word_Number_0 = R
 rw [k_word_Number_0_is] at hh
 subst hh
 kernel_rfl
theorem k_word_Number_0_n (fuel d : Nat) (x0 : ByteArray) (x4 : ByteArray) (h : AH) :
   k_word_Number_0 fuel d .normal [(0, .str x0), (4, .str x4)] h =
 (bif (bif (decide (((ByteArray.size x4 : Nat) : Int) < (1 : Int))) then true else (decide ((9 : Int) < ((ByteArray.size x4 : Nat) : Int)))) then (some ((AV.tup [(AV.int .i64 0), .bool false]), h)) else ((l_word_Number_0 fuel d fuel [(0, .str x0), (4, .str x4), (28, (AV.int .i64 ((ByteArray.size x4 : Nat) : Int))), (29, .int .i64 0)] h).bind fun p1 =>
   k_word_Number_1 fuel d p1.1 p1.2.1 p1.2.2)) := by
 generalize hh : k_word_Number_0 = R
 rw [k_word_Number_0_is] at hh
 subst hh
 generalize hh : l_word_Number_0 = R
 rw [l_word_Number_0_is] at hh
 subst hh
 generalize hh : k_word_Number_1 = R
 rw [k_word_Number_1_is] at hh
 subst hh
 kernel_rfl
theorem l_word_Number_0_eq (fuel d : Nat) (n : Nat) (x0 : ByteArray) (x4 : ByteArray) (x28 : Int) (x29 : Int) (h : AH) :
   l_word_Number_0 fuel d (n + 1) [(0, .str x0), (4, .str x4), (28, .int .i64 x28), (29, .int .i64 x29)] h =
 (bif (decide (x29 < x28)) then ((strAt x4 x29).bind fun n1 =>
   ((bif ((decide (n1 < (48 : Int))) == false) then ((strAt x4 x29).bind fun n2 =>
   some ((AV.bool (decide ((57 : Int) < n2))), h)) else (some ((AV.bool true), h)) : Option (AV × AH))).bind fun r3 =>
   (AV.bool? r3.1).bind fun b4 =>
   (bif b4 then (some (.ret, [(0, .str x0), (2, .int .i64 0), (3, .bool false)], r3.2)) else (l_word_Number_0 fuel d n [(0, .str x0), (4, .str x4), (28, .int .i64 x28), (29, (AV.int .i64 (IntKind.wrap .i64 (x29 + (1 : Int)))))] r3.2))) else (some ((.exit 0), [(0, .str x0), (2, AV.bot), (3, AV.bot)], h))) := by
 generalize hh : l_word_Number_0 = R
 rw [l_word_Number_0_is] at hh
 subst hh
 kernel_rfl
theorem k_word_Number_1_x0 (fuel d : Nat) (x0 : ByteArray) (x2 : AV) (x3 : AV) (h : AH) :
   k_word_Number_1 fuel d (.exit 0) [(0, .str x0), (2, x2), (3, x3)] h =
 (run fuel d F_strconv_Atoi [(AV.str x0)] h).bind fun r1 =>
   (bif AV.isTup 2 r1.1 then ((AV.comp 0 r1.1).bind fun u2 =>
   (AV.int? .i64 u2).bind fun n3 =>
   (AV.comp 1 r1.1).bind fun u4 =>
   (nilTest .iface u4).bind fun b5 =>
   some ((AV.tup [(AV.int .i64 n3), (AV.bool (b5))]), r1.2)) else none) := by
 generalize hh : run = R
 rw [run_is] at hh
 subst hh
 generalize hh : k_word_Number_1 = R
 rw [k_word_Number_1_is] at hh
 subst hh
 kernel_rfl
theorem k_word_Number_1_r (fuel d : Nat) (x0 : AV) (x2 : Int) (x3 : Bool) (h : AH) :
   k_word_Number_1 fuel d .ret [(0, x0), (2, .int .i64 x2), (3, .bool x3)] h =
 some ((AV.tup [(AV.int .i64 x2), .bool x3]), h) := by
 generalize hh : k_word_Number_1 = R
 rw [k_word_Number_1_is] at hh
 subst hh
 kernel_rfl
theorem e_lits_Is (fuel d : Nat) (x0 : Int) (x1 : Int) (h : AH) :
   brun fuel (d + 1) F_lits_Is [(AV.int .i64 x0), .int .i64 x1] h =
 some ((AV.bool (bif (bif (!decide (x0 = (0 : Int))) then (decide ((IntKind.wrap .i64 (0 - x1)) ≤ x0)) else false) then (decide (x0 ≤ x1)) else false)), h) := by
 generalize hh : brun = R
 rw [brun_is] at hh
 subst hh
 kernel_rfl
noncomputable def s_skolemref_SamePairs_0 (fuel d : Nat) : Run := fun fr h k => aexec (Cf fuel F_skolemref_SamePairs) false (acall (C fuel) false d) (acall (C fuel) true d) 44 (csub [true, true, false, true, false, false] (fbody Go.Proofs.Tryz.f88)) (asub [true, true, false, true, false, false] an88) fr h k
noncomputable def l_skolemref_SamePairs_0r (fuel d : Nat) (n : Nat) (fr : Fr) (h : AH) : Option (AExit × Fr × AH) := aloop (s_skolemref_SamePairs_0 fuel d) (some [0, 1, 5]) n fr h (kOut [4])
noncomputable def l_skolemref_SamePairs_0 : Nat → Nat → Nat → Fr → AH → Option (AExit × Fr × AH) := hide l_skolemref_SamePairs_0r
theorem l_skolemref_SamePairs_0_is : l_skolemref_SamePairs_0 = l_skolemref_SamePairs_0r := hide_eq _
noncomputable def k_skolemref_SamePairs_0r (fuel d : Nat) : AExit → Fr → AH → Option (AV × AH) := (kBlock 0 (kSeq (Cf fuel F_skolemref_SamePairs) false (acall (C fuel) false d) (acall (C fuel) true d) 44 (csub [true, true, true] (fbody Go.Proofs.Tryz.f88)) (asub [true, true, true] an88) (kRet (Cf fuel F_skolemref_SamePairs) Go.Proofs.Tryz.f88.results.toList)))
noncomputable def k_skolemref_SamePairs_0 : Nat → Nat → AExit → Fr → AH → Option (AV × AH) := hide k_skolemref_SamePairs_0r
theorem k_skolemref_SamePairs_0_is : k_skolemref_SamePairs_0 = k_skolemref_SamePairs_0r := hide_eq _
noncomputable def k_skolemref_SamePairs_1r (fuel d : Nat) (n : Nat) : AExit → Fr → AH → Option (AExit × Fr × AH) := (kSeq (Cf fuel F_skolemref_SamePairs) false (acall (C fuel) false d) (acall (C fuel) true d) 44 (csub [true, true, false, true, false, false, true, false, false, true] (fbody Go.Proofs.Tryz.f88)) (asub [true, true, false, true, false, false, true, false, false, true] an88) (kBlock 1 (kSeq (Cf fuel F_skolemref_SamePairs) false (acall (C fuel) false d) (acall (C fuel) true d) 44 (csub [true, true, false, true, false, false, true, true] (fbody Go.Proofs.Tryz.f88)) (asub [true, true, false, true, false, false, true, true] an88) (kLoop (s_skolemref_SamePairs_0 fuel d) (some [0, 1, 5]) n (kOut [4])))))
noncomputable def k_skolemref_SamePairs_1 : Nat → Nat → Nat → AExit → Fr → AH → Option (AExit × Fr × AH) := hide k_skolemref_SamePairs_1r
theorem k_skolemref_SamePairs_1_is : k_skolemref_SamePairs_1 = k_skolemref_SamePairs_1r := hide_eq _
theorem e_skolemref_SamePairs (fuel d : Nat) (x0 : Sl) (x1 : Sl) (h : AH) :
   brun fuel (d + 1) F_skolemref_SamePairs [(AV.slice x0), .slice x1] h =
 (bif (!decide ((x0.len : Int) = (x1.len : Int))) then (some ((AV.bool false), h)) else ((l_skolemref_SamePairs_0 fuel d fuel [(0, .slice x0), (1, .slice x1), (5, .int .i64 0)] h).bind fun p1 =>
   k_skolemref_SamePairs_0 fuel d p1.1 p1.2.1 p1.2.2)) := by
 generalize hh : brun = R
 rw [brun_is] at hh
 subst hh
 generalize hh : l_skolemref_SamePairs_0 = R
 rw [l_skolemref_SamePairs_0_is] at hh
 subst hh
 generalize hh : k_skolemref_SamePairs_0 = R
 rw [k_skolemref_SamePairs_0_is] at hh
 subst hh
 kernel_rfl
theorem l_skolemref_SamePairs_0_eq (fuel d : Nat) (n : Nat) (x0 : Sl) (x1 : Sl) (x5 : Int) (h : AH) :
   l_skolemref_SamePairs_0 fuel d (n + 1) [(0, .slice x0), (1, .slice x1), (5, .int .i64 x5)] h =
 (bif (decide (x5 < (x0.len : Int))) then (((AH.addr h 2 x0 x5).bind fun p1 =>
   (Pt.elem 1 2 (0 : Int) p1).bind fun p2 =>
   (AH.cell h p2).bind fun u3 =>
   (AV.int? .i64 u3).bind fun n4 =>
   (AH.addr h 2 x1 x5).bind fun p5 =>
   (Pt.elem 1 2 (0 : Int) p5).bind fun p6 =>
   (AH.cell h p6).bind fun u7 =>
   (AV.int? .i64 u7).bind fun n8 =>
   (bif (decide (n4 = n8)) then ((AH.addr h 2 x0 x5).bind fun p9 =>
   (Pt.elem 1 2 (1 : Int) p9).bind fun p10 =>
   (AH.cell h p10).bind fun u11 =>
   (AV.int? .i64 u11).bind fun n12 =>
   (AH.addr h 2 x1 x5).bind fun p13 =>
   (Pt.elem 1 2 (1 : Int) p13).bind fun p14 =>
   (AH.cell h p14).bind fun u15 =>
   (AV.int? .i64 u15).bind fun n16 =>
   some (.normal, [(0, .slice x0), (1, .slice x1), (5, .int .i64 x5), (6, (AV.bool (decide (n12 = n16))))], h)) else (some (.normal, [(0, .slice x0), (1, .slice x1), (5, .int .i64 x5), (6, .bool false)], h)))).bind fun p17 =>
   k_skolemref_SamePairs_1 fuel d n p17.1 p17.2.1 p17.2.2) else (some ((.exit 0), [(4, AV.bot)], h))) := by
 generalize hh : l_skolemref_SamePairs_0 = R
 rw [l_skolemref_SamePairs_0_is] at hh
 subst hh
 generalize hh : k_skolemref_SamePairs_1 = R
 rw [k_skolemref_SamePairs_1_is] at hh
 subst hh
 kernel_rfl
theorem k_skolemref_SamePairs_0_x0 (fuel d : Nat) (x4 : AV) (h : AH) :
   k_skolemref_SamePairs_0 fuel d (.exit 0) [(4, x4)] h =
 some ((AV.bool true), h) := by
 generalize hh : k_skolemref_SamePairs_0 = R
 rw [k_skolemref_SamePairs_0_is] at hh
 subst hh
 kernel_rfl
theorem k_skolemref_SamePairs_0_r (fuel d : Nat) (x4 : Bool) (h : AH) :
   k_skolemref_SamePairs_0 fuel d .ret [(4, .bool x4)] h =
 some ((AV.bool x4), h) := by
 generalize hh : k_skolemref_SamePairs_0 = R
 rw [k_skolemref_SamePairs_0_is] at hh
 subst hh
 kernel_rfl
theorem k_skolemref_SamePairs_1_n (fuel d : Nat) (n : Nat) (x0 : Sl) (x1 : Sl) (x5 : Int) (x6 : Bool) (h : AH) :
   k_skolemref_SamePairs_1 fuel d n .normal [(0, .slice x0), (1, .slice x1), (5, .int .i64 x5), (6, .bool x6)] h =
 (bif (!x6) then (some (.ret, [(4, .bool false)], h)) else (l_skolemref_SamePairs_0 fuel d n [(0, .slice x0), (1, .slice x1), (5, (AV.int .i64 (IntKind.wrap .i64 (x5 + (1 : Int)))))] h)) := by
 generalize hh : l_skolemref_SamePairs_0 = R
 rw [l_skolemref_SamePairs_0_is] at hh
 subst hh
 generalize hh : k_skolemref_SamePairs_1 = R
 rw [k_skolemref_SamePairs_1_is] at hh
 subst hh
 kernel_rfl
noncomputable def s_skolemref_SameInts_0 (fuel d : Nat) : Run := fun fr h k => aexec (Cf fuel F_skolemref_SameInts) false (acall (C fuel) false d) (acall (C fuel) true d) 29 (csub [true, true, false, true, false, false] (fbody Go.Proofs.Tryz.f89)) (asub [true, true, false, true, false, false] an89) fr h k
noncomputable def l_skolemref_SameInts_0r (fuel d : Nat) (n : Nat) (fr : Fr) (h : AH) : Option (AExit × Fr × AH) := aloop (s_skolemref_SameInts_0 fuel d) (some [0, 1, 5]) n fr h (kOut [4])
noncomputable def l_skolemref_SameInts_0 : Nat → Nat → Nat → Fr → AH → Option (AExit × Fr × AH) := hide l_skolemref_SameInts_0r
theorem l_skolemref_SameInts_0_is : l_skolemref_SameInts_0 = l_skolemref_SameInts_0r := hide_eq _
noncomputable def k_skolemref_SameInts_0r (fuel d : Nat) : AExit → Fr → AH → Option (AV × AH) := (kBlock 0 (kSeq (Cf fuel F_skolemref_SameInts) false (acall (C fuel) false d) (acall (C fuel) true d) 29 (csub [true, true, true] (fbody Go.Proofs.Tryz.f89)) (asub [true, true, true] an89) (kRet (Cf fuel F_skolemref_SameInts) Go.Proofs.Tryz.f89.results.toList)))
noncomputable def k_skolemref_SameInts_0 : Nat → Nat → AExit → Fr → AH → Option (AV × AH) := hide k_skolemref_SameInts_0r
theorem k_skolemref_SameInts_0_is : k_skolemref_SameInts_0 = k_skolemref_SameInts_0r := hide_eq _
theorem e_skolemref_SameInts (fuel d : Nat) (x0 : Sl) (x1 : Sl) (h : AH) :
   brun fuel (d + 1) F_skolemref_SameInts [(AV.slice x0), .slice x1] h =
 (bif (!decide ((x0.len : Int) = (x1.len : Int))) then (some ((AV.bool false), h)) else ((l_skolemref_SameInts_0 fuel d fuel [(0, .slice x0), (1, .slice x1), (5, .int .i64 0)] h).bind fun p1 =>
   k_skolemref_SameInts_0 fuel d p1.1 p1.2.1 p1.2.2)) := by
 generalize hh : brun = R
 rw [brun_is] at hh
 subst hh
 generalize hh : l_skolemref_SameInts_0 = R
 rw [l_skolemref_SameInts_0_is] at hh
 subst hh
 generalize hh : k_skolemref_SameInts_0 = R
 rw [k_skolemref_SameInts_0_is] at hh
 subst hh
 kernel_rfl
theorem l_skolemref_SameInts_0_eq (fuel d : Nat) (n : Nat) (x0 : Sl) (x1 : Sl) (x5 : Int) (h : AH) :
   l_skolemref_SameInts_0 fuel d (n + 1) [(0, .slice x0), (1, .slice x1), (5, .int .i64 x5)] h =
 (bif (decide (x5 < (x0.len : Int))) then ((AH.addr h 1 x0 x5).bind fun p1 =>
   (AH.cell h p1).bind fun u2 =>
   (AV.int? .i64 u2).bind fun n3 =>
   (AH.addr h 1 x1 x5).bind fun p4 =>
   (AH.cell h p4).bind fun u5 =>
   (AV.int? .i64 u5).bind fun n6 =>
   (bif (!(decide (n3 = n6))) then (some (.ret, [(4, .bool false)], h)) else (l_skolemref_SameInts_0 fuel d n [(0, .slice x0), (1, .slice x1), (5, (AV.int .i64 (IntKind.wrap .i64 (x5 + (1 : Int)))))] h))) else (some ((.exit 0), [(4, AV.bot)], h))) := by
 generalize hh : l_skolemref_SameInts_0 = R
 rw [l_skolemref_SameInts_0_is] at hh
 subst hh
 kernel_rfl
theorem k_skolemref_SameInts_0_x0 (fuel d : Nat) (x4 : AV) (h : AH) :
   k_skolemref_SameInts_0 fuel d (.exit 0) [(4, x4)] h =
 some ((AV.bool true), h) := by
 generalize hh : k_skolemref_SameInts_0 = R
 rw [k_skolemref_SameInts_0_is] at hh
 subst hh
 kernel_rfl
theorem k_skolemref_SameInts_0_r (fuel d : Nat) (x4 : Bool) (h : AH) :
   k_skolemref_SameInts_0 fuel d .ret [(4, .bool x4)] h =
 some ((AV.bool x4), h) := by
 generalize hh : k_skolemref_SameInts_0 = R
 rw [k_skolemref_SameInts_0_is] at hh
 subst hh
 kernel_rfl
theorem e_skolemref_SameStep (fuel d : Nat) (x0 : List AV) (x1 : List AV) (h : AH) :
   brun fuel (d + 1) F_skolemref_SameStep [(AV.agg x0), .agg x1] h =
 (bif (List.all x0 AV.isCell) then ((bif (List.all x1 AV.isCell) then ((Pt.field 0 (Pt.mk ⟨AH.next h, 0, 0⟩ (List.length x0))).bind fun p1 =>
   (AH.cell (AH.push (AH.push h 1 x0) 1 x1) p1).bind fun u2 =>
   (AV.bool? u2).bind fun b3 =>
   (Pt.field 0 (Pt.mk ⟨AH.next (AH.push h 1 x0), 0, 0⟩ (List.length x1))).bind fun p4 =>
   (AH.cell (AH.push (AH.push h 1 x0) 1 x1) p4).bind fun u5 =>
   (AV.bool? u5).bind fun b6 =>
   ((bif ((b3 == b6) == true) then ((Pt.field 1 (Pt.mk ⟨AH.next h, 0, 0⟩ (List.length x0))).bind fun p7 =>
   (AH.cell (AH.push (AH.push h 1 x0) 1 x1) p7).bind fun u8 =>
   (AV.slice? u8).bind fun s9 =>
   (Pt.field 1 (Pt.mk ⟨AH.next (AH.push h 1 x0), 0, 0⟩ (List.length x1))).bind fun p10 =>
   (AH.cell (AH.push (AH.push h 1 x0) 1 x1) p10).bind fun u11 =>
   (AV.slice? u11).bind fun s12 =>
   (run fuel d F_skolemref_SameInts [(AV.slice s9), .slice s12] (AH.push (AH.push h 1 x0) 1 x1)).bind fun r13 =>
   (AV.bool? r13.1).bind fun b14 =>
   some ((AV.bool b14), r13.2)) else (some ((AV.bool false), (AH.push (AH.push h 1 x0) 1 x1))) : Option (AV × AH))).bind fun r15 =>
   (AV.bool? r15.1).bind fun b16 =>
   some ((AV.bool b16), r15.2)) else (none))) else (none)) := by
 generalize hh : run = R
 rw [run_is] at hh
 subst hh
 generalize hh : brun = R
 rw [brun_is] at hh
 subst hh
 kernel_rfl
theorem e_internal_strconv_FormatBool (fuel d : Nat) (x0 : Bool) (h : AH) :
   brun fuel (d + 1) F_internal_strconv_FormatBool [(AV.bool x0)] h =
 (bif x0 then (some ((AV.str (⟨#[116, 114, 117, 101]⟩ : ByteArray)), h)) else (some ((AV.str (⟨#[102, 97, 108, 115, 101]⟩ : ByteArray)), h))) := by
 generalize hh : brun = R
 rw [brun_is] at hh
 subst hh
 kernel_rfl
theorem e_aag_Head (fuel d : Nat) (x0 : ByteArray) (x1 : List AV) (h : AH) :
   brun fuel (d + 1) F_aag_Head [(AV.str x0), .agg x1] h =
 (bif (List.all x1 AV.isCell) then ((bif Nat.ble (ByteArray.size x0 + ByteArray.size (⟨#[32]⟩ : ByteArray)) 9223372036854775807 then ((Pt.field 0 (Pt.mk ⟨AH.next h, 0, 0⟩ (List.length x1))).bind fun p1 =>
   (AH.cell (AH.push h 1 x1) p1).bind fun u2 =>
   (AV.int? .i64 u2).bind fun n3 =>
   (Pt.field 1 (Pt.mk ⟨AH.next h, 0, 0⟩ (List.length x1))).bind fun p4 =>
   (AH.cell (AH.push h 1 x1) p4).bind fun u5 =>
   (AV.slice? u5).bind fun s6 =>
   (Pt.field 0 (Pt.mk ⟨AH.next h, 0, 0⟩ (List.length x1))).bind fun p7 =>
   (AH.cell (AH.push h 1 x1) p7).bind fun u8 =>
   (AV.int? .i64 u8).bind fun n9 =>
   (Pt.field 2 (Pt.mk ⟨AH.next h, 0, 0⟩ (List.length x1))).bind fun p10 =>
   (AH.cell (AH.push h 1 x1) p10).bind fun u11 =>
   (AV.slice? u11).bind fun s12 =>
   (Pt.field 1 (Pt.mk ⟨AH.next h, 0, 0⟩ (List.length x1))).bind fun p13 =>
   (AH.cell (AH.push h 1 x1) p13).bind fun u14 =>
   (AV.slice? u14).bind fun s15 =>
   (run fuel d F_aag_Line [(AV.slice (Sl.lst 5 true [(AV.int .i64 (IntKind.wrap .i64 (n3 + (s6.len : Int)))), .int .i64 n9, .int .i64 0, (AV.int .i64 (s12.len : Int)), (AV.int .i64 (s15.len : Int))]))] (AH.push h 1 x1)).bind fun r16 =>
   (AV.str? r16.1).bind fun s17 =>
   (bif Nat.ble (ByteArray.size (x0 ++ (⟨#[32]⟩ : ByteArray)) + ByteArray.size s17) 9223372036854775807 then (some ((AV.str ((x0 ++ (⟨#[32]⟩ : ByteArray)) ++ s17)), r16.2)) else (none))) else (none))) else (none)) := by
 generalize hh : run = R
 rw [run_is] at hh
 subst hh
 generalize hh : brun = R
 rw [brun_is] at hh
 subst hh
 kernel_rfl
noncomputable def s_slices_Concat_s_byte_byte_0 (fuel d : Nat) : Run := fun fr h k => aexec (Cf fuel F_slices_Concat_s_byte_byte) false (acall (C fuel) false d) (acall (C fuel) true d) 36 (csub [true, true, false, true, false, false] (fbody Go.Proofs.Tryz.f95)) (asub [true, true, false, true, false, false] an95) fr h k
noncomputable def l_slices_Concat_s_byte_byte_0r (fuel d : Nat) (n : Nat) (fr : Fr) (h : AH) : Option (AExit × Fr × AH) := aloop (s_slices_Concat_s_byte_byte_0 fuel d) (some [0, 3, 9, 10, 11]) n fr h (kOut [0, 3])
noncomputable def l_slices_Concat_s_byte_byte_0 : Nat → Nat → Nat → Fr → AH → Option (AExit × Fr × AH) := hide l_slices_Concat_s_byte_byte_0r
theorem l_slices_Concat_s_byte_byte_0_is : l_slices_Concat_s_byte_byte_0 = l_slices_Concat_s_byte_byte_0r := hide_eq _
noncomputable def k_slices_Concat_s_byte_byte_0r (fuel d : Nat) : AExit → Fr → AH → Option (AV × AH) := (kBlock 0 (kSeq (Cf fuel F_slices_Concat_s_byte_byte) false (acall (C fuel) false d) (acall (C fuel) true d) 36 (csub [true, true, true] (fbody Go.Proofs.Tryz.f95)) (asub [true, true, true] an95) (kRet (Cf fuel F_slices_Concat_s_byte_byte) Go.Proofs.Tryz.f95.results.toList)))
noncomputable def k_slices_Concat_s_byte_byte_0 : Nat → Nat → AExit → Fr → AH → Option (AV × AH) := hide k_slices_Concat_s_byte_byte_0r
theorem k_slices_Concat_s_byte_byte_0_is : k_slices_Concat_s_byte_byte_0 = k_slices_Concat_s_byte_byte_0r := hide_eq _
noncomputable def s_slices_Concat_s_byte_byte_1 (fuel d : Nat) : Run := fun fr h k => aexec (Cf fuel F_slices_Concat_s_byte_byte) false (acall (C fuel) false d) (acall (C fuel) true d) 36 (csub [true, true, true, true, false, true, false, false] (fbody Go.Proofs.Tryz.f95)) (asub [true, true, true, true, false, true, false, false] an95) fr h k
noncomputable def l_slices_Concat_s_byte_byte_1r (fuel d : Nat) (n : Nat) (fr : Fr) (h : AH) : Option (AExit × Fr × AH) := aloop (s_slices_Concat_s_byte_byte_1 fuel d) (some [6, 25, 26, 27]) n fr h (kOut [6])
noncomputable def l_slices_Concat_s_byte_byte_1 : Nat → Nat → Nat → Fr → AH → Option (AExit × Fr × AH) := hide l_slices_Concat_s_byte_byte_1r
theorem l_slices_Concat_s_byte_byte_1_is : l_slices_Concat_s_byte_byte_1 = l_slices_Concat_s_byte_byte_1r := hide_eq _
noncomputable def k_slices_Concat_s_byte_byte_1r (fuel d : Nat) : AExit → Fr → AH → Option (AV × AH) := (kBlock 2 (kSeq (Cf fuel F_slices_Concat_s_byte_byte) false (acall (C fuel) false d) (acall (C fuel) true d) 36 (csub [true, true, true, true, true] (fbody Go.Proofs.Tryz.f95)) (asub [true, true, true, true, true] an95) (kRet (Cf fuel F_slices_Concat_s_byte_byte) Go.Proofs.Tryz.f95.results.toList)))
noncomputable def k_slices_Concat_s_byte_byte_1 : Nat → Nat → AExit → Fr → AH → Option (AV × AH) := hide k_slices_Concat_s_byte_byte_1r
theorem k_slices_Concat_s_byte_byte_1_is : k_slices_Concat_s_byte_byte_1 = k_slices_Concat_s_byte_byte_1r := hide_eq _
theorem e_slices_Concat_s_byte_byte (fuel d : Nat) (x0 : Sl) (h : AH) :
   run fuel (d + 1) F_slices_Concat_s_byte_byte [(AV.slice x0)] h =
 (l_slices_Concat_s_byte_byte_0 fuel d fuel [(0, .slice x0), (3, .int .i64 0), (9, .slice x0), (10, (AV.int .i64 (x0.len : Int))), (11, .int .i64 0)] h).bind fun p1 =>
   k_slices_Concat_s_byte_byte_0 fuel d p1.1 p1.2.1 p1.2.2 := by
 generalize hh : run = R
 rw [run_is] at hh
 subst hh
 generalize hh : l_slices_Concat_s_byte_byte_0 = R
 rw [l_slices_Concat_s_byte_byte_0_is] at hh
 subst hh
 generalize hh : k_slices_Concat_s_byte_byte_0 = R
 rw [k_slices_Concat_s_byte_byte_0_is] at hh
 subst hh
 kernel_rfl
theorem l_slices_Concat_s_byte_byte_0_eq (fuel d : Nat) (n : Nat) (x0 : Sl) (x3 : Int) (x9 : Sl) (x10 : Int) (x11 : Int) (h : AH) :
   l_slices_Concat_s_byte_byte_0 fuel d (n + 1) [(0, .slice x0), (3, .int .i64 x3), (9, .slice x9), (10, .int .i64 x10), (11, .int .i64 x11)] h =
 (bif (decide (x11 < x10)) then ((AH.addr h 1 x9 x11).bind fun p1 =>
   (AH.cell h p1).bind fun u2 =>
   (AV.slice? u2).bind fun s3 =>
   (bif (decide ((IntKind.wrap .i64 (x3 + (s3.len : Int))) < (0 : Int))) then (none) else (l_slices_Concat_s_byte_byte_0 fuel d n [(0, .slice x0), (3, (AV.int .i64 (IntKind.wrap .i64 (x3 + (s3.len : Int))))), (9, .slice x9), (10, .int .i64 x10), (11, (AV.int .i64 (IntKind.wrap .i64 (x11 + (1 : Int)))))] h))) else (some ((.exit 0), [(0, .slice x0), (3, .int .i64 x3)], h))) := by
 generalize hh : l_slices_Concat_s_byte_byte_0 = R
 rw [l_slices_Concat_s_byte_byte_0_is] at hh
 subst hh
 kernel_rfl
theorem k_slices_Concat_s_byte_byte_0_x0 (fuel d : Nat) (x0 : Sl) (x3 : Int) (h : AH) :
   k_slices_Concat_s_byte_byte_0 fuel d (.exit 0) [(0, .slice x0), (3, .int .i64 x3)] h =
 (run fuel d F_slices_Grow_s_byte_byte [(AV.slice Sl.nil), .int .i64 x3] h).bind fun r1 =>
   (AV.slice? r1.1).bind fun s2 =>
   (l_slices_Concat_s_byte_byte_1 fuel d fuel [(6, .slice s2), (25, .slice x0), (26, (AV.int .i64 (x0.len : Int))), (27, .int .i64 0)] r1.2).bind fun p3 =>
   k_slices_Concat_s_byte_byte_1 fuel d p3.1 p3.2.1 p3.2.2 := by
 generalize hh : run = R
 rw [run_is] at hh
 subst hh
 generalize hh : k_slices_Concat_s_byte_byte_0 = R
 rw [k_slices_Concat_s_byte_byte_0_is] at hh
 subst hh
 generalize hh : l_slices_Concat_s_byte_byte_1 = R
 rw [l_slices_Concat_s_byte_byte_1_is] at hh
 subst hh
 generalize hh : k_slices_Concat_s_byte_byte_1 = R
 rw [k_slices_Concat_s_byte_byte_1_is] at hh
 subst hh
 kernel_rfl
theorem l_slices_Concat_s_byte_byte_1_eq (fuel d : Nat) (n : Nat) (x6 : Sl) (x25 : Sl) (x26 : Int) (x27 : Int) (h : AH) :
   l_slices_Concat_s_byte_byte_1 fuel d (n + 1) [(6, .slice x6), (25, .slice x25), (26, .int .i64 x26), (27, .int .i64 x27)] h =
 (bif (decide (x27 < x26)) then ((AH.addr h 1 x25 x27).bind fun p1 =>
   (AH.cell h p1).bind fun u2 =>
   (AV.slice? u2).bind fun s3 =>
   (AH.sliceCells h 1 s3).bind fun xs4 =>
   (AH.append h false 1 1 x6 s3.len xs4).bind fun a5 =>
   l_slices_Concat_s_byte_byte_1 fuel d n [(6, .slice a5.1), (25, .slice x25), (26, .int .i64 x26), (27, (AV.int .i64 (IntKind.wrap .i64 (x27 + (1 : Int)))))] a5.2) else (some ((.exit 2), [(6, .slice x6)], h))) := by
 generalize hh : l_slices_Concat_s_byte_byte_1 = R
 rw [l_slices_Concat_s_byte_byte_1_is] at hh
 subst hh
 kernel_rfl
theorem k_slices_Concat_s_byte_byte_1_x2 (fuel d : Nat) (x6 : Sl) (h : AH) :
   k_slices_Concat_s_byte_byte_1 fuel d (.exit 2) [(6, .slice x6)] h =
 some ((AV.slice x6), h) := by
 generalize hh : k_slices_Concat_s_byte_byte_1 = R
 rw [k_slices_Concat_s_byte_byte_1_is] at hh
 subst hh
 kernel_rfl
noncomputable def s_aag_Line_0 (fuel d : Nat) : Run := fun fr h k => aexec (Cf fuel F_aag_Line) false (acall (C fuel) false d) (acall (C fuel) true d) 21 (csub [true, true, false, true, false, false] (fbody Go.Proofs.Tryz.f96)) (asub [true, true, false, true, false, false] an96) fr h k
noncomputable def l_aag_Line_0r (fuel d : Nat) (n : Nat) (fr : Fr) (h : AH) : Option (AExit × Fr × AH) := aloop (s_aag_Line_0 fuel d) (some [3, 6, 7, 8]) n fr h (kOut [3])
noncomputable def l_aag_Line_0 : Nat → Nat → Nat → Fr → AH → Option (AExit × Fr × AH) := hide l_aag_Line_0r
theorem l_aag_Line_0_is : l_aag_Line_0 = l_aag_Line_0r := hide_eq _
noncomputable def k_aag_Line_0r (fuel d : Nat) : AExit → Fr → AH → Option (AV × AH) := (kBlock 0 (kSeq (Cf fuel F_aag_Line) false (acall (C fuel) false d) (acall (C fuel) true d) 21 (csub [true, true, true] (fbody Go.Proofs.Tryz.f96)) (asub [true, true, true] an96) (kRet (Cf fuel F_aag_Line) Go.Proofs.Tryz.f96.results.toList)))
noncomputable def k_aag_Line_0 : Nat → Nat → AExit → Fr → AH → Option (AV × AH) := hide k_aag_Line_0r
theorem k_aag_Line_0_is : k_aag_Line_0 = k_aag_Line_0r := hide_eq _
theorem e_aag_Line (fuel d : Nat) (x0 : Sl) (h : AH) :
   brun fuel (d + 1) F_aag_Line [(AV.slice x0)] h =
 (l_aag_Line_0 fuel d fuel [(3, .slice Sl.nil), (6, .slice x0), (7, (AV.int .i64 (x0.len : Int))), (8, .int .i64 0)] h).bind fun p1 =>
   k_aag_Line_0 fuel d p1.1 p1.2.1 p1.2.2 := by
 generalize hh : brun = R
 rw [brun_is] at hh
 subst hh
 generalize hh : l_aag_Line_0 = R
 rw [l_aag_Line_0_is] at hh
 subst hh
 generalize hh : k_aag_Line_0 = R
 rw [k_aag_Line_0_is] at hh
 subst hh
 kernel_rfl
theorem l_aag_Line_0_eq (fuel d : Nat) (n : Nat) (x3 : Sl) (x6 : Sl) (x7 : Int) (x8 : Int) (h : AH) :
   l_aag_Line_0 fuel d (n + 1) [(3, .slice x3), (6, .slice x6), (7, .int .i64 x7), (8, .int .i64 x8)] h =
 (bif (decide (x8 < x7)) then ((AH.addr h 1 x6 x8).bind fun p1 =>
   (AH.cell h p1).bind fun u2 =>
   (AV.int? .i64 u2).bind fun n3 =>
   (run fuel d F_strconv_Itoa [(AV.int .i64 n3)] h).bind fun r4 =>
   (AV.str? r4.1).bind fun s5 =>
   (AH.append r4.2 false 1 16 x3 1 [(AV.str s5)]).bind fun a6 =>
   l_aag_Line_0 fuel d n [(3, .slice a6.1), (6, .slice x6), (7, .int .i64 x7), (8, (AV.int .i64 (IntKind.wrap .i64 (x8 + (1 : Int)))))] a6.2) else (some ((.exit 0), [(3, .slice x3)], h))) := by
 generalize hh : run = R
 rw [run_is] at hh
 subst hh
 generalize hh : l_aag_Line_0 = R
 rw [l_aag_Line_0_is] at hh
 subst hh
 kernel_rfl
theorem k_aag_Line_0_x0 (fuel d : Nat) (x3 : Sl) (h : AH) :
   k_aag_Line_0 fuel d (.exit 0) [(3, .slice x3)] h =
 (run fuel d F_strings_Join [(AV.slice x3), (AV.str (⟨#[32]⟩ : ByteArray))] h).bind fun r1 =>
   (AV.str? r1.1).bind fun s2 =>
   (bif Nat.ble (ByteArray.size s2 + ByteArray.size (⟨#[10]⟩ : ByteArray)) 9223372036854775807 then (some ((AV.str (s2 ++ (⟨#[10]⟩ : ByteArray))), r1.2)) else (none)) := by
 generalize hh : run = R
 rw [run_is] at hh
 subst hh
 generalize hh : k_aag_Line_0 = R
 rw [k_aag_Line_0_is] at hh
 subst hh
 kernel_rfl
noncomputable def s_aig_number_0 (fuel d : Nat) : Run := fun fr h k => aexec (Cf fuel F_aig_number) false (acall (C fuel) false d) (acall (C fuel) true d) 21 (csub [true, false, false, false] (fbody Go.Proofs.Tryz.f97)) (asub [true, false, false, false] an97) fr h k
noncomputable def l_aig_number_0r (fuel d : Nat) (n : Nat) (fr : Fr) (h : AH) : Option (AExit × Fr × AH) := aloop (s_aig_number_0 fuel d) (some [0, 1]) n fr h (kOut [0, 1])
noncomputable def l_aig_number_0 : Nat → Nat → Nat → Fr → AH → Option (AExit × Fr × AH) := hide l_aig_number_0r
theorem l_aig_number_0_is : l_aig_number_0 = l_aig_number_0r := hide_eq _
noncomputable def k_aig_number_0r (fuel d : Nat) : AExit → Fr → AH → Option (AV × AH) := (kBlock 0 (kSeq (Cf fuel F_aig_number) false (acall (C fuel) false d) (acall (C fuel) true d) 21 (csub [true, true] (fbody Go.Proofs.Tryz.f97)) (asub [true, true] an97) (kRet (Cf fuel F_aig_number) Go.Proofs.Tryz.f97.results.toList)))
noncomputable def k_aig_number_0 : Nat → Nat → AExit → Fr → AH → Option (AV × AH) := hide k_aig_number_0r
theorem k_aig_number_0_is : k_aig_number_0 = k_aig_number_0r := hide_eq _
theorem e_aig_number (fuel d : Nat) (x0 : Sl) (x1 : Int) (h : AH) :
   run fuel (d + 1) F_aig_number [(AV.slice x0), .int .i64 x1] h =
 (l_aig_number_0 fuel d fuel [(0, .slice x0), (1, .int .i64 x1)] h).bind fun p1 =>
   k_aig_number_0 fuel d p1.1 p1.2.1 p1.2.2 := by
 generalize hh : run = R
 rw [run_is] at hh
 subst hh
 generalize hh : l_aig_number_0 = R
 rw [l_aig_number_0_is] at hh
 subst hh
 generalize hh : k_aig_number_0 = R
 rw [k_aig_number_0_is] at hh
 subst hh
 kernel_rfl
theorem l_aig_number_0_eq (fuel d : Nat) (n : Nat) (x0 : Sl) (x1 : Int) (h : AH) :
   l_aig_number_0 fuel d (n + 1) [(0, .slice x0), (1, .int .i64 x1)] h =
 (bif (decide ((127 : Int) < x1)) then ((AH.append h false 1 1 x0 1 [(AV.int .u8 (bitsOp .or .u8 (IntKind.wrap .u8 (bitsOp .and .i64 x1 (127 : Int))) (128 : Int)))]).bind fun a1 =>
   l_aig_number_0 fuel d n [(0, .slice a1.1), (1, (AV.int .i64 (Int.fdiv x1 (2 ^ min (Int.toNat (7 : Int)) (IntKind.bits .i64)))))] a1.2) else (some ((.exit 0), [(0, .slice x0), (1, .int .i64 x1)], h))) := by
 generalize hh : l_aig_number_0 = R
 rw [l_aig_number_0_is] at hh
 subst hh
 kernel_rfl
theorem k_aig_number_0_x0 (fuel d : Nat) (x0 : Sl) (x1 : Int) (h : AH) :
   k_aig_number_0 fuel d (.exit 0) [(0, .slice x0), (1, .int .i64 x1)] h =
 (AH.append h false 1 1 x0 1 [(AV.int .u8 (IntKind.wrap .u8 x1))]).bind fun a1 =>
   some ((AV.slice a1.1), a1.2) := by
 generalize hh : k_aig_number_0 = R
 rw [k_aig_number_0_is] at hh
 subst hh
 kernel_rfl
theorem e_internal_strconv_Itoa (fuel d : Nat) (x0 : Int) (h : AH) :
   brun fuel (d + 1) F_internal_strconv_Itoa [(AV.int .i64 x0)] h =
 (run fuel d F_strconv_FormatInt [(AV.int .i64 x0), .int .i64 10] h).bind fun r1 =>
   (AV.str? r1.1).bind fun s2 =>
   some ((AV.str s2), r1.2) := by
 generalize hh : run = R
 rw [run_is] at hh
 subst hh
 generalize hh : brun = R
 rw [brun_is] at hh
 subst hh
 kernel_rfl
noncomputable def s_dimacs_Line_0 (fuel d : Nat) : Run := fun fr h k => aexec (Cf fuel F_dimacs_Line) false (acall (C fuel) false d) (acall (C fuel) true d) 22 (csub [true, false, true, false, false] (fbody Go.Proofs.Tryz.f99)) (asub [true, false, true, false, false] an99) fr h k
noncomputable def l_dimacs_Line_0r (fuel d : Nat) (n : Nat) (fr : Fr) (h : AH) : Option (AExit × Fr × AH) := aloop (s_dimacs_Line_0 fuel d) (some [0, 7, 8, 9]) n fr h (kOut [0])
noncomputable def l_dimacs_Line_0 : Nat → Nat → Nat → Fr → AH → Option (AExit × Fr × AH) := hide l_dimacs_Line_0r
theorem l_dimacs_Line_0_is : l_dimacs_Line_0 = l_dimacs_Line_0r := hide_eq _
noncomputable def k_dimacs_Line_0r (fuel d : Nat) : AExit → Fr → AH → Option (AV × AH) := (kBlock 0 (kSeq (Cf fuel F_dimacs_Line) false (acall (C fuel) false d) (acall (C fuel) true d) 22 (csub [true, true] (fbody Go.Proofs.Tryz.f99)) (asub [true, true] an99) (kRet (Cf fuel F_dimacs_Line) Go.Proofs.Tryz.f99.results.toList)))
noncomputable def k_dimacs_Line_0 : Nat → Nat → AExit → Fr → AH → Option (AV × AH) := hide k_dimacs_Line_0r
theorem k_dimacs_Line_0_is : k_dimacs_Line_0 = k_dimacs_Line_0r := hide_eq _
theorem e_dimacs_Line (fuel d : Nat) (x0 : Sl) (x1 : Sl) (h : AH) :
   run fuel (d + 1) F_dimacs_Line [(AV.slice x0), .slice x1] h =
 (l_dimacs_Line_0 fuel d fuel [(0, .slice x0), (7, .slice x1), (8, (AV.int .i64 (x1.len : Int))), (9, .int .i64 0)] h).bind fun p1 =>
   k_dimacs_Line_0 fuel d p1.1 p1.2.1 p1.2.2 := by
 generalize hh : run = R
 rw [run_is] at hh
 subst hh
 generalize hh : l_dimacs_Line_0 = R
 rw [l_dimacs_Line_0_is] at hh
 subst hh
 generalize hh : k_dimacs_Line_0 = R
 rw [k_dimacs_Line_0_is] at hh
 subst hh
 kernel_rfl
theorem l_dimacs_Line_0_eq (fuel d : Nat) (n : Nat) (x0 : Sl) (x7 : Sl) (x8 : Int) (x9 : Int) (h : AH) :
   l_dimacs_Line_0 fuel d (n + 1) [(0, .slice x0), (7, .slice x7), (8, .int .i64 x8), (9, .int .i64 x9)] h =
 (bif (decide (x9 < x8)) then ((AH.addr h 1 x7 x9).bind fun p1 =>
   (AH.cell h p1).bind fun u2 =>
   (AV.int? .i64 u2).bind fun n3 =>
   (run fuel d F_strconv_AppendInt [(AV.slice x0), .int .i64 n3, .int .i64 10] h).bind fun r4 =>
   (AV.slice? r4.1).bind fun s5 =>
   (AH.sliceCells (AH.push r4.2 1 [(AV.int .u8 32)]) 1 (Sl.mk ⟨AH.next r4.2, 0, 0⟩ 1 true)).bind fun xs6 =>
   (AH.append (AH.push r4.2 1 [(AV.int .u8 32)]) false 1 1 s5 (Sl.mk ⟨AH.next r4.2, 0, 0⟩ 1 true).len xs6).bind fun a7 =>
   l_dimacs_Line_0 fuel d n [(0, .slice a7.1), (7, .slice x7), (8, .int .i64 x8), (9, (AV.int .i64 (IntKind.wrap .i64 (x9 + (1 : Int)))))] a7.2) else (some ((.exit 0), [(0, .slice x0)], h))) := by
 generalize hh : run = R
 rw [run_is] at hh
 subst hh
 generalize hh : l_dimacs_Line_0 = R
 rw [l_dimacs_Line_0_is] at hh
 subst hh
 kernel_rfl
theorem k_dimacs_Line_0_x0 (fuel d : Nat) (x0 : Sl) (h : AH) :
   k_dimacs_Line_0 fuel d (.exit 0) [(0, .slice x0)] h =
 (AH.sliceCells (AH.push h 1 [(AV.int .u8 48), (AV.int .u8 10)]) 1 (Sl.mk ⟨AH.next h, 0, 0⟩ 2 true)).bind fun xs1 =>
   (AH.append (AH.push h 1 [(AV.int .u8 48), (AV.int .u8 10)]) false 1 1 x0 (Sl.mk ⟨AH.next h, 0, 0⟩ 2 true).len xs1).bind fun a2 =>
   some ((AV.slice a2.1), a2.2) := by
 generalize hh : k_dimacs_Line_0 = R
 rw [k_dimacs_Line_0_is] at hh
 subst hh
 kernel_rfl
noncomputable def s_skolemref8_numbers_0 (fuel d : Nat) : Run := fun fr h k => aexec (Cf fuel F_skolemref8_numbers) false (acall (C fuel) false d) (acall (C fuel) true d) 26 (csub [true, false, true, false, false] (fbody Go.Proofs.Tryz.f100)) (asub [true, false, true, false, false] an100) fr h k
noncomputable def l_skolemref8_numbers_0r (fuel d : Nat) (n : Nat) (fr : Fr) (h : AH) : Option (AExit × Fr × AH) := aloop (s_skolemref8_numbers_0 fuel d) (some [0, 1, 5]) n fr h (kOut [0])
noncomputable def l_skolemref8_numbers_0 : Nat → Nat → Nat → Fr → AH → Option (AExit × Fr × AH) := hide l_skolemref8_numbers_0r
theorem l_skolemref8_numbers_0_is : l_skolemref8_numbers_0 = l_skolemref8_numbers_0r := hide_eq _
noncomputable def k_skolemref8_numbers_0r (fuel d : Nat) : AExit → Fr → AH → Option (AV × AH) := (kBlock 0 (kSeq (Cf fuel F_skolemref8_numbers) false (acall (C fuel) false d) (acall (C fuel) true d) 26 (csub [true, true] (fbody Go.Proofs.Tryz.f100)) (asub [true, true] an100) (kRet (Cf fuel F_skolemref8_numbers) Go.Proofs.Tryz.f100.results.toList)))
noncomputable def k_skolemref8_numbers_0 : Nat → Nat → AExit → Fr → AH → Option (AV × AH) := hide k_skolemref8_numbers_0r
theorem k_skolemref8_numbers_0_is : k_skolemref8_numbers_0 = k_skolemref8_numbers_0r := hide_eq _
noncomputable def k_skolemref8_numbers_1r (fuel d : Nat) (n : Nat) : AExit → Fr → AH → Option (AExit × Fr × AH) := (kSeq (Cf fuel F_skolemref8_numbers) false (acall (C fuel) false d) (acall (C fuel) true d) 26 (csub [true, false, true, false, false, true, false, false, true] (fbody Go.Proofs.Tryz.f100)) (asub [true, false, true, false, false, true, false, false, true] an100) (kBlock 1 (kSeq (Cf fuel F_skolemref8_numbers) false (acall (C fuel) false d) (acall (C fuel) true d) 26 (csub [true, false, true, false, false, true, true] (fbody Go.Proofs.Tryz.f100)) (asub [true, false, true, false, false, true, true] an100) (kLoop (s_skolemref8_numbers_0 fuel d) (some [0, 1, 5]) n (kOut [0])))))
noncomputable def k_skolemref8_numbers_1 : Nat → Nat → Nat → AExit → Fr → AH → Option (AExit × Fr × AH) := hide k_skolemref8_numbers_1r
theorem k_skolemref8_numbers_1_is : k_skolemref8_numbers_1 = k_skolemref8_numbers_1r := hide_eq _
theorem e_skolemref8_numbers (fuel d : Nat) (x0 : Sl) (x1 : Sl) (h : AH) :
   run fuel (d + 1) F_skolemref8_numbers [(AV.slice x0), .slice x1] h =
 (l_skolemref8_numbers_0 fuel d fuel [(0, .slice x0), (1, .slice x1), (5, .int .i64 0)] h).bind fun p1 =>
   k_skolemref8_numbers_0 fuel d p1.1 p1.2.1 p1.2.2 := by
 generalize hh : run = R
 rw [run_is] at hh
 subst hh
 generalize hh : l_skolemref8_numbers_0 = R
 rw [l_skolemref8_numbers_0_is] at hh
 subst hh
 generalize hh : k_skolemref8_numbers_0 = R
 rw [k_skolemref8_numbers_0_is] at hh
 subst hh
 kernel_rfl
theorem l_skolemref8_numbers_0_eq (fuel d : Nat) (n : Nat) (x0 : Sl) (x1 : Sl) (x5 : Int) (h : AH) :
   l_skolemref8_numbers_0 fuel d (n + 1) [(0, .slice x0), (1, .slice x1), (5, .int .i64 x5)] h =
 (bif (decide (x5 < (x1.len : Int))) then (((bif (decide ((0 : Int) < x5)) then ((AH.sliceCells (AH.push h 1 [(AV.int .u8 32)]) 1 (Sl.mk ⟨AH.next h, 0, 0⟩ 1 true)).bind fun xs1 =>
   (AH.append (AH.push h 1 [(AV.int .u8 32)]) false 1 1 x0 (Sl.mk ⟨AH.next h, 0, 0⟩ 1 true).len xs1).bind fun a2 =>
   some (.normal, [(0, .slice a2.1), (1, .slice x1), (5, .int .i64 x5)], a2.2)) else (some (.normal, [(0, .slice x0), (1, .slice x1), (5, .int .i64 x5)], h)))).bind fun p3 =>
   k_skolemref8_numbers_1 fuel d n p3.1 p3.2.1 p3.2.2) else (some ((.exit 0), [(0, .slice x0)], h))) := by
 generalize hh : l_skolemref8_numbers_0 = R
 rw [l_skolemref8_numbers_0_is] at hh
 subst hh
 generalize hh : k_skolemref8_numbers_1 = R
 rw [k_skolemref8_numbers_1_is] at hh
 subst hh
 kernel_rfl
theorem k_skolemref8_numbers_0_x0 (fuel d : Nat) (x0 : Sl) (h : AH) :
   k_skolemref8_numbers_0 fuel d (.exit 0) [(0, .slice x0)] h =
 (AH.sliceCells (AH.push h 1 [(AV.int .u8 10)]) 1 (Sl.mk ⟨AH.next h, 0, 0⟩ 1 true)).bind fun xs1 =>
   (AH.append (AH.push h 1 [(AV.int .u8 10)]) false 1 1 x0 (Sl.mk ⟨AH.next h, 0, 0⟩ 1 true).len xs1).bind fun a2 =>
   some ((AV.slice a2.1), a2.2) := by
 generalize hh : k_skolemref8_numbers_0 = R
 rw [k_skolemref8_numbers_0_is] at hh
 subst hh
 kernel_rfl
theorem k_skolemref8_numbers_1_n (fuel d : Nat) (n : Nat) (x0 : Sl) (x1 : Sl) (x5 : Int) (h : AH) :
   k_skolemref8_numbers_1 fuel d n .normal [(0, .slice x0), (1, .slice x1), (5, .int .i64 x5)] h =
 (AH.addr h 1 x1 x5).bind fun p1 =>
   (AH.cell h p1).bind fun u2 =>
   (AV.int? .i64 u2).bind fun n3 =>
   (run fuel d F_strconv_AppendInt [(AV.slice x0), .int .i64 n3, .int .i64 10] h).bind fun r4 =>
   (AV.slice? r4.1).bind fun s5 =>
   l_skolemref8_numbers_0 fuel d n [(0, .slice s5), (1, .slice x1), (5, (AV.int .i64 (IntKind.wrap .i64 (x5 + (1 : Int)))))] r4.2 := by
 generalize hh : run = R
 rw [run_is] at hh
 subst hh
 generalize hh : l_skolemref8_numbers_0 = R
 rw [l_skolemref8_numbers_0_is] at hh
 subst hh
 generalize hh : k_skolemref8_numbers_1 = R
 rw [k_skolemref8_numbers_1_is] at hh
 subst hh
 kernel_rfl
noncomputable def s_skolemref8_small_0 (fuel d : Nat) : Run := fun fr h k => aexec (Cf fuel F_skolemref8_small) false (acall (C fuel) false d) (acall (C fuel) true d) 21 (csub [true, false, false, false] (fbody Go.Proofs.Tryz.f101)) (asub [true, false, false, false] an101) fr h k
noncomputable def l_skolemref8_small_0r (fuel d : Nat) (n : Nat) (fr : Fr) (h : AH) : Option (AExit × Fr × AH) := aloop (s_skolemref8_small_0 fuel d) (some [0, 1]) n fr h (kOut [0, 1])
noncomputable def l_skolemref8_small_0 : Nat → Nat → Nat → Fr → AH → Option (AExit × Fr × AH) := hide l_skolemref8_small_0r
theorem l_skolemref8_small_0_is : l_skolemref8_small_0 = l_skolemref8_small_0r := hide_eq _
noncomputable def k_skolemref8_small_0r (fuel d : Nat) : AExit → Fr → AH → Option (AV × AH) := (kBlock 0 (kSeq (Cf fuel F_skolemref8_small) false (acall (C fuel) false d) (acall (C fuel) true d) 21 (csub [true, true] (fbody Go.Proofs.Tryz.f101)) (asub [true, true] an101) (kRet (Cf fuel F_skolemref8_small) Go.Proofs.Tryz.f101.results.toList)))
noncomputable def k_skolemref8_small_0 : Nat → Nat → AExit → Fr → AH → Option (AV × AH) := hide k_skolemref8_small_0r
theorem k_skolemref8_small_0_is : k_skolemref8_small_0 = k_skolemref8_small_0r := hide_eq _
theorem e_skolemref8_small (fuel d : Nat) (x0 : Sl) (x1 : Int) (h : AH) :
   run fuel (d + 1) F_skolemref8_small [(AV.slice x0), .int .i64 x1] h =
 (l_skolemref8_small_0 fuel d fuel [(0, .slice x0), (1, .int .i64 x1)] h).bind fun p1 =>
   k_skolemref8_small_0 fuel d p1.1 p1.2.1 p1.2.2 := by
 generalize hh : run = R
 rw [run_is] at hh
 subst hh
 generalize hh : l_skolemref8_small_0 = R
 rw [l_skolemref8_small_0_is] at hh
 subst hh
 generalize hh : k_skolemref8_small_0 = R
 rw [k_skolemref8_small_0_is] at hh
 subst hh
 kernel_rfl
theorem l_skolemref8_small_0_eq (fuel d : Nat) (n : Nat) (x0 : Sl) (x1 : Int) (h : AH) :
   l_skolemref8_small_0 fuel d (n + 1) [(0, .slice x0), (1, .int .i64 x1)] h =
 (bif (decide ((128 : Int) ≤ x1)) then ((AH.append h false 1 1 x0 1 [(AV.int .u8 (IntKind.wrap .u8 (bitsOp .or .i64 (bitsOp .and .i64 x1 (127 : Int)) (128 : Int))))]).bind fun a1 =>
   l_skolemref8_small_0 fuel d n [(0, .slice a1.1), (1, (AV.int .i64 (Int.fdiv x1 (2 ^ min (Int.toNat (7 : Int)) (IntKind.bits .i64)))))] a1.2) else (some ((.exit 0), [(0, .slice x0), (1, .int .i64 x1)], h))) := by
 generalize hh : l_skolemref8_small_0 = R
 rw [l_skolemref8_small_0_is] at hh
 subst hh
 kernel_rfl
theorem k_skolemref8_small_0_x0 (fuel d : Nat) (x0 : Sl) (x1 : Int) (h : AH) :
   k_skolemref8_small_0 fuel d (.exit 0) [(0, .slice x0), (1, .int .i64 x1)] h =
 (AH.append h false 1 1 x0 1 [(AV.int .u8 (IntKind.wrap .u8 x1))]).bind fun a1 =>
   some ((AV.slice a1.1), a1.2) := by
 generalize hh : k_skolemref8_small_0 = R
 rw [k_skolemref8_small_0_is] at hh
 subst hh
 kernel_rfl
noncomputable def k_internal_strconv_AppendInt_0r (fuel d : Nat) : AExit → Fr → AH → Option (AV × AH) := (kSeq (Cf fuel F_internal_strconv_AppendInt) false (acall (C fuel) false d) (acall (C fuel) true d) 21 (csub [true, true, true] (fbody Go.Proofs.Tryz.f102)) (asub [true, true, true] an102) (kRet (Cf fuel F_internal_strconv_AppendInt) Go.Proofs.Tryz.f102.results.toList))
noncomputable def k_internal_strconv_AppendInt_0 : Nat → Nat → AExit → Fr → AH → Option (AV × AH) := hide k_internal_strconv_AppendInt_0r
theorem k_internal_strconv_AppendInt_0_is : k_internal_strconv_AppendInt_0 = k_internal_strconv_AppendInt_0r := hide_eq _
theorem e_internal_strconv_AppendInt (fuel d : Nat) (x0 : Sl) (x1 : Int) (x2 : Int) (h : AH) :
   run fuel (d + 1) F_internal_strconv_AppendInt [(AV.slice x0), .int .i64 x1, .int .i64 x2] h =
 ((bif (decide (x1 < (0 : Int))) then ((AH.sliceCells (AH.push h 1 [(AV.int .u8 45)]) 1 (Sl.mk ⟨AH.next h, 0, 0⟩ 1 true)).bind fun xs1 =>
   (AH.append (AH.push h 1 [(AV.int .u8 45)]) false 1 1 x0 (Sl.mk ⟨AH.next h, 0, 0⟩ 1 true).len xs1).bind fun a2 =>
   some (.normal, [(0, .slice a2.1), (2, .int .i64 x2), (7, (AV.int .u64 (IntKind.wrap .u64 (0 - (IntKind.wrap .u64 x1)))))], a2.2)) else (some (.normal, [(0, .slice x0), (2, .int .i64 x2), (7, (AV.int .u64 (IntKind.wrap .u64 x1)))], h)))).bind fun p3 =>
   k_internal_strconv_AppendInt_0 fuel d p3.1 p3.2.1 p3.2.2 := by
 generalize hh : run = R
 rw [run_is] at hh
 subst hh
 generalize hh : k_internal_strconv_AppendInt_0 = R
 rw [k_internal_strconv_AppendInt_0_is] at hh
 subst hh
 kernel_rfl
theorem k_internal_strconv_AppendInt_0_n (fuel d : Nat) (x0 : Sl) (x2 : Int) (x7 : Int) (h : AH) :
   k_internal_strconv_AppendInt_0 fuel d .normal [(0, .slice x0), (2, .int .i64 x2), (7, .int .u64 x7)] h =
 (run fuel d F_strconv_AppendUint [(AV.slice x0), .int .u64 x7, .int .i64 x2] h).bind fun r1 =>
   (AV.slice? r1.1).bind fun s2 =>
   some ((AV.slice s2), r1.2) := by
 generalize hh : run = R
 rw [run_is] at hh
 subst hh
 generalize hh : k_internal_strconv_AppendInt_0 = R
 rw [k_internal_strconv_AppendInt_0_is] at hh
 subst hh
 kernel_rfl
noncomputable def s_aig_Read_0 (fuel d : Nat) : Run := fun fr h k => aexec (Cf fuel F_aig_Read) false (acall (C fuel) false d) (acall (C fuel) true d) 128 (csub [true, true, true, true, true, true, false, true, false, false] (fbody Go.Proofs.Tryz.f121)) (asub [true, true, true, true, true, true, false, true, false, false] an121) fr h k
noncomputable def l_aig_Read_0r (fuel d : Nat) (n : Nat) (fr : Fr) (h : AH) : Option (AExit × Fr × AH) := aloop (s_aig_Read_0 fuel d) (some [0, 2, 4, 5, 7, 36, 37]) n fr h (kOut [0, 2, 3, 4, 5, 7])
noncomputable def l_aig_Read_0 : Nat → Nat → Nat → Fr → AH → Option (AExit × Fr × AH) := hide l_aig_Read_0r
theorem l_aig_Read_0_is : l_aig_Read_0 = l_aig_Read_0r := hide_eq _
noncomputable def k_aig_Read_0r (fuel d : Nat) : AExit → Fr → AH → Option (AV × AH) := (kBlock 0 (kSeq (Cf fuel F_aig_Read) false (acall (C fuel) false d) (acall (C fuel) true d) 128 (csub [true, true, true, true, true, true, true] (fbody Go.Proofs.Tryz.f121)) (asub [true, true, true, true, true, true, true] an121) (kRet (Cf fuel F_aig_Read) Go.Proofs.Tryz.f121.results.toList)))
noncomputable def k_aig_Read_0 : Nat → Nat → AExit → Fr → AH → Option (AV × AH) := hide k_aig_Read_0r
theorem k_aig_Read_0_is : k_aig_Read_0 = k_aig_Read_0r := hide_eq _
theorem e_aig_Read (fuel d : Nat) (x0 : Sl) (h : AH) :
   brun fuel (d + 1) F_aig_Read [(AV.slice x0)] h =
 (bif (decide ((1048576 : Int) < (x0.len : Int))) then ((run fuel d F_aig_at [(AV.int .i64 1048576), err_api_ErrLimit] (AH.push h 1 [(AV.int .i64 0), .slice Sl.nil, .slice Sl.nil])).bind fun r1 =>
   (AH.storeAt r1.2 [(AV.int .i64 0), .slice Sl.nil, .slice Sl.nil] (Pt.mk ⟨AH.next h, 0, 0⟩ 3)).bind fun h2 =>
   (((((AH.cellsAt h2 3 (Pt.mk ⟨AH.next h, 0, 0⟩ 3)).bind fun c4 =>
   some ((AV.agg c4)) : Option AV).bind fun v3 =>
   some [v3, r1.1]) : Option (List AV)).map AV.tup).map fun v => (v, h2)) else ((run fuel d F_aig_reader_head [(AV.ptr (Pt.mk ⟨AH.next (AH.push h 1 [(AV.int .i64 0), .slice Sl.nil, .slice Sl.nil]), 0, 0⟩ 2))] (AH.push (AH.push h 1 [(AV.int .i64 0), .slice Sl.nil, .slice Sl.nil]) 1 [(AV.slice x0), .int .i64 0])).bind fun r5 =>
   (bif AV.isTup 2 r5.1 then ((AV.comp 0 r5.1).bind fun u6 =>
   (AV.agg? u6).bind fun c7 =>
   (AV.comp 1 r5.1).bind fun u8 =>
   (bif (!false && Nat.beq (List.length c7) 6 && List.all c7 AV.isCell) then ((AH.storeAt (AH.push r5.2 1 [(AV.int .i64 0), .int .i64 0, .int .i64 0, .int .i64 0, .int .i64 0, .int .i64 0]) c7 (Pt.mk ⟨AH.next r5.2, 0, 0⟩ 6)).bind fun h9 =>
   (nilTest .iface u8).bind fun b10 =>
   (bif (!b10) then ((AH.storeAt h9 [(AV.int .i64 0), .slice Sl.nil, .slice Sl.nil] (Pt.mk ⟨AH.next h, 0, 0⟩ 3)).bind fun h11 =>
   (((((AH.cellsAt h11 3 (Pt.mk ⟨AH.next h, 0, 0⟩ 3)).bind fun c13 =>
   some ((AV.agg c13)) : Option AV).bind fun v12 =>
   some [v12, u8]) : Option (List AV)).map AV.tup).map fun v => (v, h11)) else ((Pt.elem 1 6 (2 : Int) (Pt.mk ⟨AH.next r5.2, 0, 0⟩ 6)).bind fun p14 =>
   (AH.cell h9 p14).bind fun u15 =>
   (AV.int? .i64 u15).bind fun n16 =>
   (AH.storeAt (AH.push h9 1 [(AV.int .i64 0), .slice Sl.nil, .slice Sl.nil]) [(AV.int .i64 n16), .slice Sl.nil, .slice Sl.nil] (Pt.mk ⟨AH.next h9, 0, 0⟩ 3)).bind fun h17 =>
   (Pt.elem 1 6 (4 : Int) (Pt.mk ⟨AH.next r5.2, 0, 0⟩ 6)).bind fun p18 =>
   (AH.cell h17 p18).bind fun u19 =>
   (AV.int? .i64 u19).bind fun n20 =>
   (l_aig_Read_0 fuel d fuel [(0, .slice x0), (2, (AV.ptr (Pt.mk ⟨AH.next h, 0, 0⟩ 3))), (4, (AV.ptr (Pt.mk ⟨AH.next (AH.push h 1 [(AV.int .i64 0), .slice Sl.nil, .slice Sl.nil]), 0, 0⟩ 2))), (5, (AV.ptr (Pt.mk ⟨AH.next r5.2, 0, 0⟩ 6))), (7, (AV.ptr (Pt.mk ⟨AH.next h9, 0, 0⟩ 3))), (36, .int .i64 n20), (37, .int .i64 0)] h17).bind fun p21 =>
   k_aig_Read_0 fuel d p21.1 p21.2.1 p21.2.2))) else (none))) else none))) := by
 generalize hh : run = R
 rw [run_is] at hh
 subst hh
 generalize hh : brun = R
 rw [brun_is] at hh
 subst hh
 generalize hh : l_aig_Read_0 = R
 rw [l_aig_Read_0_is] at hh
 subst hh
 generalize hh : k_aig_Read_0 = R
 rw [k_aig_Read_0_is] at hh
 subst hh
 kernel_rfl
theorem l_aig_Read_0_eq (fuel d : Nat) (n : Nat) (x0 : Sl) (x2 : Pt) (x4 : Pt) (x5 : Pt) (x7 : Pt) (x36 : Int) (x37 : Int) (h : AH) :
   l_aig_Read_0 fuel d (n + 1) [(0, .slice x0), (2, .ptr x2), (4, .ptr x4), (5, .ptr x5), (7, .ptr x7), (36, .int .i64 x36), (37, .int .i64 x37)] h =
 (bif (decide (x37 < x36)) then ((Pt.chk x4).bind fun p1 =>
   (Pt.field 1 p1).bind fun p2 =>
   (AH.cell h p2).bind fun u3 =>
   (AV.int? .i64 u3).bind fun n4 =>
   (run fuel d F_aig_reader_line [(AV.ptr x4), .int .i64 1] h).bind fun r5 =>
   (bif AV.isTup 2 r5.1 then ((AV.comp 0 r5.1).bind fun u6 =>
   (AV.slice? u6).bind fun s7 =>
   (AV.comp 1 r5.1).bind fun u8 =>
   (nilTest .iface u8).bind fun b9 =>
   (bif (!b9) then ((AH.storeAt r5.2 [(AV.int .i64 0), .slice Sl.nil, .slice Sl.nil] x2).bind fun h10 =>
   some (.ret, [(0, .slice x0), (2, .ptr x2), (3, u8), (4, .ptr x4), (5, .ptr x5), (7, .ptr x7)], h10)) else ((AH.addr r5.2 1 s7 (0 : Int)).bind fun p11 =>
   (AH.cell r5.2 p11).bind fun u12 =>
   (AV.str? u12).bind fun s13 =>
   (run fuel d F_word_Plain [(AV.str s13)] r5.2).bind fun r14 =>
   (bif AV.isTup 2 r14.1 then ((AV.comp 0 r14.1).bind fun u15 =>
   (AV.int? .i64 u15).bind fun n16 =>
   (AV.comp 1 r14.1).bind fun u17 =>
   (AV.bool? u17).bind fun b18 =>
   ((bif ((!b18) == false) then ((Pt.elem 1 6 (1 : Int) x5).bind fun p19 =>
   (AH.cell r14.2 p19).bind fun u20 =>
   (AV.int? .i64 u20).bind fun n21 =>
   some ((AV.bool (decide ((IntKind.wrap .i64 ((IntKind.wrap .i64 ((2 : Int) * n21)) + (1 : Int))) < n16))), r14.2)) else (some ((AV.bool true), r14.2)) : Option (AV × AH))).bind fun r22 =>
   (AV.bool? r22.1).bind fun b23 =>
   (bif b23 then ((run fuel d F_aig_at [(AV.int .i64 n4), err_api_ErrText] r22.2).bind fun r24 =>
   (AH.storeAt r24.2 [(AV.int .i64 0), .slice Sl.nil, .slice Sl.nil] x2).bind fun h25 =>
   some (.ret, [(0, .slice x0), (2, .ptr x2), (3, r24.1), (4, .ptr x4), (5, .ptr x5), (7, .ptr x7)], h25)) else ((Pt.field 2 x7).bind fun p26 =>
   (AH.cell r22.2 p26).bind fun u27 =>
   (AV.slice? u27).bind fun s28 =>
   (AH.append r22.2 false 1 8 s28 1 [(AV.int .i64 n16)]).bind fun a29 =>
   (Pt.field 2 x7).bind fun p30 =>
   (AH.storeAt a29.2 [(AV.slice a29.1)] p30).bind fun h31 =>
   l_aig_Read_0 fuel d n [(0, .slice x0), (2, .ptr x2), (4, .ptr x4), (5, .ptr x5), (7, .ptr x7), (36, .int .i64 x36), (37, (AV.int .i64 (IntKind.wrap .i64 (x37 + (1 : Int)))))] h31))) else none)))) else none)) else (some ((.exit 0), [(0, .slice x0), (2, .ptr x2), (3, AV.bot), (4, .ptr x4), (5, .ptr x5), (7, .ptr x7)], h))) := by
 generalize hh : run = R
 rw [run_is] at hh
 subst hh
 generalize hh : l_aig_Read_0 = R
 rw [l_aig_Read_0_is] at hh
 subst hh
 kernel_rfl
theorem k_aig_Read_0_x0 (fuel d : Nat) (x0 : Sl) (x2 : Pt) (x3 : AV) (x4 : Pt) (x5 : Pt) (x7 : Pt) (h : AH) :
   k_aig_Read_0 fuel d (.exit 0) [(0, .slice x0), (2, .ptr x2), (3, x3), (4, .ptr x4), (5, .ptr x5), (7, .ptr x7)] h =
 (Pt.elem 1 6 (2 : Int) x5).bind fun p1 =>
   (AH.cell h p1).bind fun u2 =>
   (AV.int? .i64 u2).bind fun n3 =>
   (Pt.elem 1 6 (5 : Int) x5).bind fun p4 =>
   (AH.cell h p4).bind fun u5 =>
   (AV.int? .i64 u5).bind fun n6 =>
   (run fuel d F_aig_reader_ands [(AV.ptr x4), .int .i64 n3, .int .i64 n6] h).bind fun r7 =>
   (bif AV.isTup 2 r7.1 then ((AV.comp 0 r7.1).bind fun u8 =>
   (AV.slice? u8).bind fun s9 =>
   (AV.comp 1 r7.1).bind fun u10 =>
   (Pt.field 1 x7).bind fun p11 =>
   (AH.storeAt r7.2 [(AV.slice s9)] p11).bind fun h12 =>
   (nilTest .iface u10).bind fun b13 =>
   (bif (!b13) then ((AH.storeAt h12 [(AV.int .i64 0), .slice Sl.nil, .slice Sl.nil] x2).bind fun h14 =>
   (((((AH.cellsAt h14 3 x2).bind fun c16 =>
   some ((AV.agg c16)) : Option AV).bind fun v15 =>
   some [v15, u10]) : Option (List AV)).map AV.tup).map fun v => (v, h14)) else ((Pt.chk x4).bind fun p17 =>
   (Pt.field 1 p17).bind fun p18 =>
   (AH.cell h12 p18).bind fun u19 =>
   (AV.int? .i64 u19).bind fun n20 =>
   (aHi (none : Option AV) (Sl.len x0)).bind fun hi21 =>
   (aLo (some (AV.int .i64 n20)) hi21).bind fun lo22 =>
   (aMx (none : Option AV) hi21).bind fun cl23 =>
   (bif (AH.hasSz h12 1 x0) then (((bif ((decide ((0 : Int) < (((Sl.cut x0 1 lo22 hi21 cl23).len : Nat) : Int))) == true) then (((bif ((decide ((((Sl.cut x0 1 lo22 hi21 cl23).len : Nat) : Int) < (2 : Int))) == false) then ((AH.addr h12 1 (Sl.cut x0 1 lo22 hi21 cl23) (0 : Int)).bind fun p24 =>
   (AH.cell h12 p24).bind fun u25 =>
   (AV.int? .u8 u25).bind fun n26 =>
   some ((AV.bool (!decide (n26 = (99 : Int)))), h12)) else (some ((AV.bool true), h12)) : Option (AV × AH))).bind fun r27 =>
   (AV.bool? r27.1).bind fun b28 =>
   ((bif (b28 == false) then ((AH.addr r27.2 1 (Sl.cut x0 1 lo22 hi21 cl23) (1 : Int)).bind fun p29 =>
   (AH.cell r27.2 p29).bind fun u30 =>
   (AV.int? .u8 u30).bind fun n31 =>
   some ((AV.bool (!decide (n31 = (10 : Int)))), r27.2)) else (some ((AV.bool true), r27.2)) : Option (AV × AH))).bind fun r32 =>
   (AV.bool? r32.1).bind fun b33 =>
   some ((AV.bool b33), r32.2)) else (some ((AV.bool false), h12)) : Option (AV × AH))).bind fun r34 =>
   (AV.bool? r34.1).bind fun b35 =>
   (bif b35 then ((Pt.chk x4).bind fun p36 =>
   (Pt.field 1 p36).bind fun p37 =>
   (AH.cell r34.2 p37).bind fun u38 =>
   (AV.int? .i64 u38).bind fun n39 =>
   (run fuel d F_aig_at [(AV.int .i64 n39), err_api_ErrText] r34.2).bind fun r40 =>
   (AH.storeAt r40.2 [(AV.int .i64 0), .slice Sl.nil, .slice Sl.nil] x2).bind fun h41 =>
   (((((AH.cellsAt h41 3 x2).bind fun c43 =>
   some ((AV.agg c43)) : Option AV).bind fun v42 =>
   some [v42, r40.1]) : Option (List AV)).map AV.tup).map fun v => (v, h41)) else ((AH.cellsAt r34.2 3 x7).bind fun c44 =>
   (bif (!false && Nat.beq (List.length c44) 3 && List.all c44 AV.isCell) then ((AH.storeAt r34.2 c44 x2).bind fun h45 =>
   (((((AH.cellsAt h45 3 x2).bind fun c47 =>
   some ((AV.agg c47)) : Option AV).bind fun v46 =>
   some [v46, AV.nilif]) : Option (List AV)).map AV.tup).map fun v => (v, h45)) else (none))))) else (none))))) else none) := by
 generalize hh : run = R
 rw [run_is] at hh
 subst hh
 generalize hh : k_aig_Read_0 = R
 rw [k_aig_Read_0_is] at hh
 subst hh
 kernel_rfl
theorem k_aig_Read_0_r (fuel d : Nat) (x0 : AV) (x2 : Pt) (x3 : AV) (x4 : AV) (x5 : AV) (x7 : AV) (h : AH) :
   k_aig_Read_0 fuel d .ret [(0, x0), (2, .ptr x2), (3, x3), (4, x4), (5, x5), (7, x7)] h =
 (((((AH.cellsAt h 3 x2).bind fun c2 =>
   some ((AV.agg c2)) : Option AV).bind fun v1 =>
   some [v1, x3]) : Option (List AV)).map AV.tup).map fun v => (v, h) := by
 generalize hh : k_aig_Read_0 = R
 rw [k_aig_Read_0_is] at hh
 subst hh
 kernel_rfl
noncomputable def s_word_line_0 (fuel d : Nat) : Run := fun fr h k => aexec (Cf fuel F_word_line) false (acall (C fuel) false d) (acall (C fuel) true d) 51 (csub [true, true, false, true, false, false] (fbody Go.Proofs.Tryz.f122)) (asub [true, true, false, true, false, false] an122) fr h k
noncomputable def l_word_line_0r (fuel d : Nat) (n : Nat) (fr : Fr) (h : AH) : Option (AExit × Fr × AH) := aloop (s_word_line_0 fuel d) (some [0, 1, 5, 6]) n fr h (kOut [5])
noncomputable def l_word_line_0 : Nat → Nat → Nat → Fr → AH → Option (AExit × Fr × AH) := hide l_word_line_0r
theorem l_word_line_0_is : l_word_line_0 = l_word_line_0r := hide_eq _
noncomputable def k_word_line_0r (fuel d : Nat) : AExit → Fr → AH → Option (AV × AH) := (kBlock 0 (kSeq (Cf fuel F_word_line) false (acall (C fuel) false d) (acall (C fuel) true d) 51 (csub [true, true, true] (fbody Go.Proofs.Tryz.f122)) (asub [true, true, true] an122) (kRet (Cf fuel F_word_line) Go.Proofs.Tryz.f122.results.toList)))
noncomputable def k_word_line_0 : Nat → Nat → AExit → Fr → AH → Option (AV × AH) := hide k_word_line_0r
theorem k_word_line_0_is : k_word_line_0 = k_word_line_0r := hide_eq _
noncomputable def s_word_line_1 (fuel d : Nat) : Run := fun fr h k => aexec (Cf fuel F_word_line) false (acall (C fuel) false d) (acall (C fuel) true d) 51 (csub [true, true, false, true, false, false, true, false, false, true, true, false, false, false] (fbody Go.Proofs.Tryz.f122)) (asub [true, true, false, true, false, false, true, false, false, true, true, false, false, false] an122) fr h k
noncomputable def l_word_line_1r (fuel d : Nat) (n : Nat) (fr : Fr) (h : AH) : Option (AExit × Fr × AH) := aloop (s_word_line_1 fuel d) (some [0, 1, 5, 6, 7]) n fr h (kOut [0, 1, 5, 6, 7])
noncomputable def l_word_line_1 : Nat → Nat → Nat → Fr → AH → Option (AExit × Fr × AH) := hide l_word_line_1r
theorem l_word_line_1_is : l_word_line_1 = l_word_line_1r := hide_eq _
noncomputable def k_word_line_1r (fuel d : Nat) (n : Nat) : AExit → Fr → AH → Option (AExit × Fr × AH) := (kBlock 2 (kSeq (Cf fuel F_word_line) false (acall (C fuel) false d) (acall (C fuel) true d) 51 (csub [true, true, false, true, false, false, true, false, false, true, true, true] (fbody Go.Proofs.Tryz.f122)) (asub [true, true, false, true, false, false, true, false, false, true, true, true] an122) (kBlock 1 (kSeq (Cf fuel F_word_line) false (acall (C fuel) false d) (acall (C fuel) true d) 51 (csub [true, true, false, true, false, false, true, true] (fbody Go.Proofs.Tryz.f122)) (asub [true, true, false, true, false, false, true, true] an122) (kLoop (s_word_line_0 fuel d) (some [0, 1, 5, 6]) n (kOut [5]))))))
noncomputable def k_word_line_1 : Nat → Nat → Nat → AExit → Fr → AH → Option (AExit × Fr × AH) := hide k_word_line_1r
theorem k_word_line_1_is : k_word_line_1 = k_word_line_1r := hide_eq _
theorem e_word_line (fuel d : Nat) (x0 : Sl) (x1 : Int) (h : AH) :
   brun fuel (d + 1) F_word_line [(AV.slice x0), .int .i64 x1] h =
 (l_word_line_0 fuel d fuel [(0, .slice x0), (1, .int .i64 x1), (5, .slice Sl.nil), (6, .int .i64 0)] h).bind fun p1 =>
   k_word_line_0 fuel d p1.1 p1.2.1 p1.2.2 := by
 generalize hh : brun = R
 rw [brun_is] at hh
 subst hh
 generalize hh : l_word_line_0 = R
 rw [l_word_line_0_is] at hh
 subst hh
 generalize hh : k_word_line_0 = R
 rw [k_word_line_0_is] at hh
 subst hh
 kernel_rfl
theorem l_word_line_0_eq (fuel d : Nat) (n : Nat) (x0 : Sl) (x1 : Int) (x5 : Sl) (x6 : Int) (h : AH) :
   l_word_line_0 fuel d (n + 1) [(0, .slice x0), (1, .int .i64 x1), (5, .slice x5), (6, .int .i64 x6)] h =
 (bif (decide (x6 < (x0.len : Int))) then ((AH.addr h 1 x0 x6).bind fun p1 =>
   (AH.cell h p1).bind fun u2 =>
   (AV.int? .u8 u2).bind fun n3 =>
   (run fuel d F_word_kind [(AV.int .u8 n3)] h).bind fun r4 =>
   (AV.int? .i64 r4.1).bind fun n5 =>
   (bif (!decide (n5 = (0 : Int))) then (l_word_line_0 fuel d n [(0, .slice x0), (1, .int .i64 x1), (5, .slice x5), (6, (AV.int .i64 (IntKind.wrap .i64 (x6 + (1 : Int)))))] r4.2) else ((l_word_line_1 fuel d fuel [(0, .slice x0), (1, .int .i64 x1), (5, .slice x5), (6, .int .i64 x6), (7, .int .i64 x6)] r4.2).bind fun p6 =>
   k_word_line_1 fuel d n p6.1 p6.2.1 p6.2.2))) else (some ((.exit 0), [(5, .slice x5)], h))) := by
 generalize hh : run = R
 rw [run_is] at hh
 subst hh
 generalize hh : l_word_line_0 = R
 rw [l_word_line_0_is] at hh
 subst hh
 generalize hh : l_word_line_1 = R
 rw [l_word_line_1_is] at hh
 subst hh
 generalize hh : k_word_line_1 = R
 rw [k_word_line_1_is] at hh
 subst hh
 kernel_rfl
theorem k_word_line_0_x0 (fuel d : Nat) (x5 : Sl) (h : AH) :
   k_word_line_0 fuel d (.exit 0) [(5, .slice x5)] h =
 some ((AV.slice x5), h) := by
 generalize hh : k_word_line_0 = R
 rw [k_word_line_0_is] at hh
 subst hh
 kernel_rfl
theorem l_word_line_1_eq (fuel d : Nat) (n : Nat) (x0 : Sl) (x1 : Int) (x5 : Sl) (x6 : Int) (x7 : Int) (h : AH) :
   l_word_line_1 fuel d (n + 1) [(0, .slice x0), (1, .int .i64 x1), (5, .slice x5), (6, .int .i64 x6), (7, .int .i64 x7)] h =
 ((bif ((decide (x6 < (x0.len : Int))) == true) then ((AH.addr h 1 x0 x6).bind fun p1 =>
   (AH.cell h p1).bind fun u2 =>
   (AV.int? .u8 u2).bind fun n3 =>
   (run fuel d F_word_kind [(AV.int .u8 n3)] h).bind fun r4 =>
   (AV.int? .i64 r4.1).bind fun n5 =>
   some ((AV.bool (decide (n5 = (0 : Int)))), r4.2)) else (some ((AV.bool false), h)) : Option (AV × AH))).bind fun r6 =>
   (AV.bool? r6.1).bind fun b7 =>
   (bif b7 then (l_word_line_1 fuel d n [(0, .slice x0), (1, .int .i64 x1), (5, .slice x5), (6, (AV.int .i64 (IntKind.wrap .i64 (x6 + (1 : Int))))), (7, .int .i64 x7)] r6.2) else (some ((.exit 2), [(0, .slice x0), (1, .int .i64 x1), (5, .slice x5), (6, .int .i64 x6), (7, .int .i64 x7)], r6.2))) := by
 generalize hh : run = R
 rw [run_is] at hh
 subst hh
 generalize hh : l_word_line_1 = R
 rw [l_word_line_1_is] at hh
 subst hh
 kernel_rfl
theorem k_word_line_1_x2 (fuel d : Nat) (n : Nat) (x0 : Sl) (x1 : Int) (x5 : Sl) (x6 : Int) (x7 : Int) (h : AH) :
   k_word_line_1 fuel d n (.exit 2) [(0, .slice x0), (1, .int .i64 x1), (5, .slice x5), (6, .int .i64 x6), (7, .int .i64 x7)] h =
 (aHi (some (AV.int .i64 x6)) (Sl.len x0)).bind fun hi1 =>
   (aLo (some (AV.int .i64 x7)) hi1).bind fun lo2 =>
   (aMx (none : Option AV) hi1).bind fun cl3 =>
   (bif (AH.hasSz h 1 x0) then ((AH.sliceCells h 1 (Sl.cut x0 1 lo2 hi1 cl3)).bind fun c4 =>
   (bytesFrom c4).bind fun bs5 =>
   (AH.append h false 3 32 x5 1 [(AV.str (⟨List.toArray bs5⟩ : ByteArray)), (AV.int .i64 (IntKind.wrap .i64 (x1 + x7))), (AV.bool (decide ((x5.len : Int) = (0 : Int))))]).bind fun a6 =>
   l_word_line_0 fuel d n [(0, .slice x0), (1, .int .i64 x1), (5, .slice a6.1), (6, (AV.int .i64 (IntKind.wrap .i64 (x6 + (1 : Int)))))] a6.2) else (none)) := by
 generalize hh : l_word_line_0 = R
 rw [l_word_line_0_is] at hh
 subst hh
 generalize hh : k_word_line_1 = R
 rw [k_word_line_1_is] at hh
 subst hh
 kernel_rfl
theorem e_strconv_Atoi (fuel d : Nat) (x0 : ByteArray) (h : AH) :
   brun fuel (d + 1) F_strconv_Atoi [(AV.str x0)] h =
 (run fuel d F_internal_strconv_Atoi [(AV.str x0)] h).bind fun r1 =>
   (bif AV.isTup 2 r1.1 then ((AV.comp 0 r1.1).bind fun u2 =>
   (AV.int? .i64 u2).bind fun n3 =>
   (AV.comp 1 r1.1).bind fun u4 =>
   (nilTest .iface u4).bind fun b5 =>
   (bif (!b5) then ((run fuel d F_strconv_toError [(AV.str (⟨#[65, 116, 111, 105]⟩ : ByteArray)), .str x0, .int .i64 0, .int .i64 0, u4] r1.2).bind fun r6 =>
   some ((AV.tup [(AV.int .i64 n3), r6.1]), r6.2)) else (some ((AV.tup [(AV.int .i64 n3), AV.nilif]), r1.2)))) else none) := by
 generalize hh : run = R
 rw [run_is] at hh
 subst hh
 generalize hh : brun = R
 rw [brun_is] at hh
 subst hh
 kernel_rfl
noncomputable def k_slices_Grow_s_byte_byte_0r (fuel d : Nat) : AExit → Fr → AH → Option (AV × AH) := (kSeq (Cf fuel F_slices_Grow_s_byte_byte) false (acall (C fuel) false d) (acall (C fuel) true d) 27 (csub [true, true] (fbody Go.Proofs.Tryz.f132)) (asub [true, true] an132) (kRet (Cf fuel F_slices_Grow_s_byte_byte) Go.Proofs.Tryz.f132.results.toList))
noncomputable def k_slices_Grow_s_byte_byte_0 : Nat → Nat → AExit → Fr → AH → Option (AV × AH) := hide k_slices_Grow_s_byte_byte_0r
theorem k_slices_Grow_s_byte_byte_0_is : k_slices_Grow_s_byte_byte_0 = k_slices_Grow_s_byte_byte_0r := hide_eq _
theorem e_slices_Grow_s_byte_byte (fuel d : Nat) (x0 : Sl) (x1 : Int) (h : AH) :
   run fuel (d + 1) F_slices_Grow_s_byte_byte [(AV.slice x0), .int .i64 x1] h =
 ((bif (decide (x1 < (0 : Int))) then (none) else (some (.normal, [(0, .slice x0), (1, .int .i64 x1)], h)))).bind fun p1 =>
   k_slices_Grow_s_byte_byte_0 fuel d p1.1 p1.2.1 p1.2.2 := by
 generalize hh : run = R
 rw [run_is] at hh
 subst hh
 generalize hh : k_slices_Grow_s_byte_byte_0 = R
 rw [k_slices_Grow_s_byte_byte_0_is] at hh
 subst hh
 kernel_rfl
theorem k_slices_Grow_s_byte_byte_0_n (fuel d : Nat) (x0 : Sl) (x1 : Int) (h : AH) :
   k_slices_Grow_s_byte_byte_0 fuel d .normal [(0, .slice x0), (1, .int .i64 x1)] h =
 (Sl.capOf x0).bind fun n1 =>
   (bif (decide ((0 : Int) < (IntKind.wrap .i64 (x1 - (IntKind.wrap .i64 (((n1 : Nat) : Int) - (x0.len : Int))))))) then ((Sl.capOf x0).bind fun n2 =>
   (aHi (some (AV.int .i64 ((n2 : Nat) : Int))) (Sl.len x0)).bind fun hi3 =>
   (aLo (none : Option AV) hi3).bind fun lo4 =>
   (aMx (none : Option AV) hi3).bind fun cl5 =>
   (bif (AH.hasSz h 1 x0) then ((bif (decide (0 ≤ (IntKind.wrap .i64 (x1 - (IntKind.wrap .i64 (((n1 : Nat) : Int) - (x0.len : Int)))))) && decide ((IntKind.wrap .i64 (x1 - (IntKind.wrap .i64 (((n1 : Nat) : Int) - (x0.len : Int))))) ≤ 140737488355328) && decide ((IntKind.wrap .i64 (x1 - (IntKind.wrap .i64 (((n1 : Nat) : Int) - (x0.len : Int))))) * 1 ≤ 140737488355328)) then ((AH.append h false 1 1 (Sl.cut x0 1 lo4 hi3 cl5) (Int.toNat (IntKind.wrap .i64 (x1 - (IntKind.wrap .i64 (((n1 : Nat) : Int) - (x0.len : Int)))))) (repeatCells [(AV.int .u8 0)] (Int.toNat (IntKind.wrap .i64 (x1 - (IntKind.wrap .i64 (((n1 : Nat) : Int) - (x0.len : Int)))))))).bind fun a6 =>
   (aHi (some (AV.int .i64 (x0.len : Int))) (Sl.len a6.1)).bind fun hi7 =>
   (aLo (none : Option AV) hi7).bind fun lo8 =>
   (aMx (none : Option AV) hi7).bind fun cl9 =>
   (bif (AH.hasSz a6.2 1 a6.1) then (some ((AV.slice (Sl.cut a6.1 1 lo8 hi7 cl9)), a6.2)) else (none))) else (none))) else (none))) else (some ((AV.slice x0), h))) := by
 generalize hh : k_slices_Grow_s_byte_byte_0 = R
 rw [k_slices_Grow_s_byte_byte_0_is] at hh
 subst hh
 kernel_rfl
noncomputable def k_strconv_FormatInt_0r (fuel d : Nat) : AExit → Fr → AH → Option (AV × AH) := (kSeq (Cf fuel F_strconv_FormatInt) false (acall (C fuel) false d) (acall (C fuel) true d) 54 (csub [true, false, true, false, true, true, true, true] (fbody Go.Proofs.Tryz.f134)) (asub [true, false, true, false, true, true, true, true] an134) (kSeq (Cf fuel F_strconv_FormatInt) false (acall (C fuel) false d) (acall (C fuel) true d) 54 (csub [true, true] (fbody Go.Proofs.Tryz.f134)) (asub [true, true] an134) (kRet (Cf fuel F_strconv_FormatInt) Go.Proofs.Tryz.f134.results.toList)))
noncomputable def k_strconv_FormatInt_0 : Nat → Nat → AExit → Fr → AH → Option (AV × AH) := hide k_strconv_FormatInt_0r
theorem k_strconv_FormatInt_0_is : k_strconv_FormatInt_0 = k_strconv_FormatInt_0r := hide_eq _
theorem e_strconv_FormatInt (fuel d : Nat) (x0 : Int) (x1 : Int) (h : AH) :
   brun fuel (d + 1) F_strconv_FormatInt [(AV.int .i64 x0), .int .i64 x1] h =
 (bif (decide (x1 = (10 : Int))) then ((bif (bif (decide ((0 : Int) ≤ x0)) then (decide (x0 < (100 : Int))) else false) then ((run fuel d F_strconv_small [(AV.int .i64 x0)] h).bind fun r1 =>
   (AV.str? r1.1).bind fun s2 =>
   some ((AV.str s2), r1.2)) else (((bif (decide (x0 < (0 : Int))) then (some (.normal, [(0, .int .i64 x0), (5, (AV.ptr (Pt.mk ⟨AH.next h, 0, 0⟩ 24))), (6, (AV.int .u64 (IntKind.wrap .u64 (0 - (IntKind.wrap .u64 x0)))))], (AH.push h 1 [(AV.int .u8 0), (AV.int .u8 0), (AV.int .u8 0), (AV.int .u8 0), (AV.int .u8 0), (AV.int .u8 0), (AV.int .u8 0), (AV.int .u8 0), (AV.int .u8 0), (AV.int .u8 0), (AV.int .u8 0), (AV.int .u8 0), (AV.int .u8 0), (AV.int .u8 0), (AV.int .u8 0), (AV.int .u8 0), (AV.int .u8 0), (AV.int .u8 0), (AV.int .u8 0), (AV.int .u8 0), (AV.int .u8 0), (AV.int .u8 0), (AV.int .u8 0), (AV.int .u8 0)]))) else (some (.normal, [(0, .int .i64 x0), (5, (AV.ptr (Pt.mk ⟨AH.next h, 0, 0⟩ 24))), (6, (AV.int .u64 (IntKind.wrap .u64 x0)))], (AH.push h 1 [(AV.int .u8 0), (AV.int .u8 0), (AV.int .u8 0), (AV.int .u8 0), (AV.int .u8 0), (AV.int .u8 0), (AV.int .u8 0), (AV.int .u8 0), (AV.int .u8 0), (AV.int .u8 0), (AV.int .u8 0), (AV.int .u8 0), (AV.int .u8 0), (AV.int .u8 0), (AV.int .u8 0), (AV.int .u8 0), (AV.int .u8 0), (AV.int .u8 0), (AV.int .u8 0), (AV.int .u8 0), (AV.int .u8 0), (AV.int .u8 0), (AV.int .u8 0), (AV.int .u8 0)]))))).bind fun p3 =>
   k_strconv_FormatInt_0 fuel d p3.1 p3.2.1 p3.2.2))) else ((run fuel d F_strconv_formatBits [(AV.slice Sl.nil), (AV.int .u64 (IntKind.wrap .u64 x0)), .int .i64 x1, (AV.bool (decide (x0 < (0 : Int)))), .bool false] h).bind fun r4 =>
   (bif AV.isTup 2 r4.1 then ((AV.comp 0 r4.1).bind fun u5 =>
   (AV.slice? u5).bind fun s6 =>
   (AV.comp 1 r4.1).bind fun u7 =>
   (AV.str? u7).bind fun s8 =>
   some ((AV.str s8), r4.2)) else none))) := by
 generalize hh : run = R
 rw [run_is] at hh
 subst hh
 generalize hh : brun = R
 rw [brun_is] at hh
 subst hh
 generalize hh : k_strconv_FormatInt_0 = R
 rw [k_strconv_FormatInt_0_is] at hh
 subst hh
 kernel_rfl
theorem k_strconv_FormatInt_0_n (fuel d : Nat) (x0 : Int) (x5 : Pt) (x6 : Int) (h : AH) :
   k_strconv_FormatInt_0 fuel d .normal [(0, .int .i64 x0), (5, .ptr x5), (6, .int .u64 x6)] h =
 (run fuel d F_strconv_numDigits [(AV.int .u64 x6)] h).bind fun r1 =>
   (AV.int? .i64 r1.1).bind fun n2 =>
   (Pt.mk? x5).bind fun rl3 =>
   (aHi (some (AV.int .i64 (IntKind.wrap .i64 ((1 : Int) + n2)))) 24).bind fun hi4 =>
   (aLo (some (AV.int .i64 1)) hi4).bind fun lo5 =>
   (aMx (none : Option AV) hi4).bind fun cl6 =>
   (bif (AH.hasSz r1.2 1 (Sl.mk rl3.1 24 false) && Nat.ble (rl3.1.off + 24 * 1) rl3.2) then ((run fuel d F_strconv_formatBase10 [(AV.slice (Sl.mk ⟨rl3.1.id, rl3.1.gen, rl3.1.off + lo5 * 1⟩ (hi4 - lo5) cl6)), .int .u64 x6] r1.2).bind fun r7 =>
   (bif (decide (x0 < (0 : Int))) then ((Pt.elem 1 24 (0 : Int) x5).bind fun p8 =>
   (AH.storeAt r7.2 [(AV.int .u8 45)] p8).bind fun h9 =>
   (Pt.mk? x5).bind fun rl10 =>
   (aHi (some (AV.int .i64 (IntKind.wrap .i64 ((1 : Int) + n2)))) 24).bind fun hi11 =>
   (aLo (none : Option AV) hi11).bind fun lo12 =>
   (aMx (none : Option AV) hi11).bind fun cl13 =>
   (bif (AH.hasSz h9 1 (Sl.mk rl10.1 24 false) && Nat.ble (rl10.1.off + 24 * 1) rl10.2) then ((AH.sliceCells h9 1 (Sl.mk ⟨rl10.1.id, rl10.1.gen, rl10.1.off + lo12 * 1⟩ (hi11 - lo12) cl13)).bind fun c14 =>
   (bytesFrom c14).bind fun bs15 =>
   some ((AV.str (⟨List.toArray bs15⟩ : ByteArray)), h9)) else (none))) else ((Pt.mk? x5).bind fun rl16 =>
   (aHi (some (AV.int .i64 (IntKind.wrap .i64 ((1 : Int) + n2)))) 24).bind fun hi17 =>
   (aLo (some (AV.int .i64 1)) hi17).bind fun lo18 =>
   (aMx (none : Option AV) hi17).bind fun cl19 =>
   (bif (AH.hasSz r7.2 1 (Sl.mk rl16.1 24 false) && Nat.ble (rl16.1.off + 24 * 1) rl16.2) then ((AH.sliceCells r7.2 1 (Sl.mk ⟨rl16.1.id, rl16.1.gen, rl16.1.off + lo18 * 1⟩ (hi17 - lo18) cl19)).bind fun c20 =>
   (bytesFrom c20).bind fun bs21 =>
   some ((AV.str (⟨List.toArray bs21⟩ : ByteArray)), r7.2)) else (none))))) else (none)) := by
 generalize hh : run = R
 rw [run_is] at hh
 subst hh
 generalize hh : k_strconv_FormatInt_0 = R
 rw [k_strconv_FormatInt_0_is] at hh
 subst hh
 kernel_rfl
theorem e_strconv_AppendUint (fuel d : Nat) (x0 : Sl) (x1 : Int) (x2 : Int) (h : AH) :
   run fuel (d + 1) F_strconv_AppendUint [(AV.slice x0), .int .u64 x1, .int .i64 x2] h =
 (bif (decide (x2 = (10 : Int))) then ((bif (decide (x1 < (100 : Int))) then ((run fuel d F_strconv_small [(AV.int .i64 (IntKind.wrap .i64 x1))] h).bind fun r1 =>
   (AV.str? r1.1).bind fun s2 =>
   (AH.append r1.2 false 1 1 x0 (ByteArray.size s2) (bytesOf s2)).bind fun a3 =>
   some ((AV.slice a3.1), a3.2)) else ((run fuel d F_strconv_numDigits [(AV.int .u64 x1)] (AH.push h 1 [(AV.int .u8 0), (AV.int .u8 0), (AV.int .u8 0), (AV.int .u8 0), (AV.int .u8 0), (AV.int .u8 0), (AV.int .u8 0), (AV.int .u8 0), (AV.int .u8 0), (AV.int .u8 0), (AV.int .u8 0), (AV.int .u8 0), (AV.int .u8 0), (AV.int .u8 0), (AV.int .u8 0), (AV.int .u8 0), (AV.int .u8 0), (AV.int .u8 0), (AV.int .u8 0), (AV.int .u8 0), (AV.int .u8 0), (AV.int .u8 0), (AV.int .u8 0), (AV.int .u8 0)])).bind fun r4 =>
   (AV.int? .i64 r4.1).bind fun n5 =>
   (aHi (some (AV.int .i64 n5)) 24).bind fun hi6 =>
   (aLo (none : Option AV) hi6).bind fun lo7 =>
   (aMx (none : Option AV) hi6).bind fun cl8 =>
   (bif (AH.hasSz r4.2 1 (Sl.mk ⟨AH.next h, 0, 0⟩ 24 false) && Nat.ble (0 + 24 * 1) 24) then ((run fuel d F_strconv_formatBase10 [(AV.slice (Sl.mk ⟨AH.next h, 0, 0 + lo7 * 1⟩ (hi6 - lo7) cl8)), .int .u64 x1] r4.2).bind fun r9 =>
   (aHi (some (AV.int .i64 n5)) 24).bind fun hi10 =>
   (aLo (none : Option AV) hi10).bind fun lo11 =>
   (aMx (none : Option AV) hi10).bind fun cl12 =>
   (bif (AH.hasSz r9.2 1 (Sl.mk ⟨AH.next h, 0, 0⟩ 24 false) && Nat.ble (0 + 24 * 1) 24) then ((AH.sliceCells r9.2 1 (Sl.mk ⟨AH.next h, 0, 0 + lo11 * 1⟩ (hi10 - lo11) cl12)).bind fun xs13 =>
   (AH.append r9.2 false 1 1 x0 (Sl.mk ⟨AH.next h, 0, 0 + lo11 * 1⟩ (hi10 - lo11) cl12).len xs13).bind fun a14 =>
   some ((AV.slice a14.1), a14.2)) else (none))) else (none))))) else ((run fuel d F_strconv_formatBits [(AV.slice x0), .int .u64 x1, .int .i64 x2, .bool false, .bool true] h).bind fun r15 =>
   (bif AV.isTup 2 r15.1 then ((AV.comp 0 r15.1).bind fun u16 =>
   (AV.slice? u16).bind fun s17 =>
   (AV.comp 1 r15.1).bind fun u18 =>
   (AV.str? u18).bind fun s19 =>
   some ((AV.slice s17), r15.2)) else none))) := by
 generalize hh : run = R
 rw [run_is] at hh
 subst hh
 kernel_rfl
theorem e_aig_at (fuel d : Nat) (x0 : Int) (x1 : AV) (h : AH) :
   brun fuel (d + 1) F_aig_at [(AV.int .i64 x0), x1] h =
 ((bif (Nat.beq (List.length (AV.cells x1)) 1 && Nat.ble (1 + 1) (List.length [(AV.int .i64 x0), AV.nilif]) && List.all (AV.cells x1) AV.isCell) then ((some (AH.overlay [(AV.int .i64 x0), AV.nilif] 1 (AV.cells x1)))) else (none))).bind fun c1 =>
   (bif (List.all c1 AV.isCell) then (some ((AV.iface T_p_api_At (AV.ptr (Pt.mk ⟨AH.next h, 0, 0⟩ (List.length c1)))), (AH.push h 1 c1))) else (none)) := by
 generalize hh : brun = R
 rw [brun_is] at hh
 subst hh
 kernel_rfl
noncomputable def s_aig_reader_head_0 (fuel d : Nat) : Run := fun fr h k => aexec (Cf fuel F_aig_reader_head) false (acall (C fuel) false d) (acall (C fuel) true d) 57 (csub [true, true, true, true, true, false, true, false, false] (fbody Go.Proofs.Tryz.f146)) (asub [true, true, true, true, true, false, true, false, false] an146) fr h k
noncomputable def l_aig_reader_head_0r (fuel d : Nat) (n : Nat) (fr : Fr) (h : AH) : Option (AExit × Fr × AH) := aloop (s_aig_reader_head_0 fuel d) (some [2, 4, 5, 7, 8]) n fr h (kOut [2, 4, 7])
noncomputable def l_aig_reader_head_0 : Nat → Nat → Nat → Fr → AH → Option (AExit × Fr × AH) := hide l_aig_reader_head_0r
theorem l_aig_reader_head_0_is : l_aig_reader_head_0 = l_aig_reader_head_0r := hide_eq _
noncomputable def k_aig_reader_head_0r (fuel d : Nat) : AExit → Fr → AH → Option (AV × AH) := (kBlock 0 (kSeq (Cf fuel F_aig_reader_head) false (acall (C fuel) false d) (acall (C fuel) true d) 57 (csub [true, true, true, true, true, true] (fbody Go.Proofs.Tryz.f146)) (asub [true, true, true, true, true, true] an146) (kRet (Cf fuel F_aig_reader_head) Go.Proofs.Tryz.f146.results.toList)))
noncomputable def k_aig_reader_head_0 : Nat → Nat → AExit → Fr → AH → Option (AV × AH) := hide k_aig_reader_head_0r
theorem k_aig_reader_head_0_is : k_aig_reader_head_0 = k_aig_reader_head_0r := hide_eq _
theorem e_aig_reader_head (fuel d : Nat) (x0 : Pt) (h : AH) :
   run fuel (d + 1) F_aig_reader_head [(AV.ptr x0)] h =
 (run fuel d F_aig_reader_line [(AV.ptr x0), .int .i64 6] (AH.push (AH.push h 1 [(AV.int .i64 0), .int .i64 0, .int .i64 0, .int .i64 0, .int .i64 0, .int .i64 0]) 1 [(AV.int .i64 0), .int .i64 0, .int .i64 0, .int .i64 0, .int .i64 0, .int .i64 0])).bind fun r1 =>
   (bif AV.isTup 2 r1.1 then ((AV.comp 0 r1.1).bind fun u2 =>
   (AV.slice? u2).bind fun s3 =>
   (AV.comp 1 r1.1).bind fun u4 =>
   (nilTest .iface u4).bind fun b5 =>
   (bif (!b5) then ((AH.cellsAt r1.2 6 (Pt.mk ⟨AH.next (AH.push h 1 [(AV.int .i64 0), .int .i64 0, .int .i64 0, .int .i64 0, .int .i64 0, .int .i64 0]), 0, 0⟩ 6)).bind fun c6 =>
   (bif (!false && Nat.beq (List.length c6) 6 && List.all c6 AV.isCell) then ((AH.storeAt r1.2 c6 (Pt.mk ⟨AH.next h, 0, 0⟩ 6)).bind fun h7 =>
   (((((AH.cellsAt h7 6 (Pt.mk ⟨AH.next h, 0, 0⟩ 6)).bind fun c9 =>
   some ((AV.agg c9)) : Option AV).bind fun v8 =>
   some [v8, u4]) : Option (List AV)).map AV.tup).map fun v => (v, h7)) else (none))) else ((AH.addr r1.2 1 s3 (0 : Int)).bind fun p10 =>
   (AH.cell r1.2 p10).bind fun u11 =>
   (AV.str? u11).bind fun s12 =>
   (l_aig_reader_head_0 fuel d fuel [(2, (AV.ptr (Pt.mk ⟨AH.next h, 0, 0⟩ 6))), (4, (AV.ptr (Pt.mk ⟨AH.next (AH.push h 1 [(AV.int .i64 0), .int .i64 0, .int .i64 0, .int .i64 0, .int .i64 0, .int .i64 0]), 0, 0⟩ 6))), (5, .slice s3), (7, (AV.bool (decide (s12 = (⟨#[97, 105, 103]⟩ : ByteArray))))), (8, .int .i64 1)] r1.2).bind fun p13 =>
   k_aig_reader_head_0 fuel d p13.1 p13.2.1 p13.2.2))) else none) := by
 generalize hh : run = R
 rw [run_is] at hh
 subst hh
 generalize hh : l_aig_reader_head_0 = R
 rw [l_aig_reader_head_0_is] at hh
 subst hh
 generalize hh : k_aig_reader_head_0 = R
 rw [k_aig_reader_head_0_is] at hh
 subst hh
 kernel_rfl
theorem l_aig_reader_head_0_eq (fuel d : Nat) (n : Nat) (x2 : Pt) (x4 : Pt) (x5 : Sl) (x7 : Bool) (x8 : Int) (h : AH) :
   l_aig_reader_head_0 fuel d (n + 1) [(2, .ptr x2), (4, .ptr x4), (5, .slice x5), (7, .bool x7), (8, .int .i64 x8)] h =
 (bif (bif (decide (x8 < (6 : Int))) then x7 else false) then ((AH.addr h 1 x5 x8).bind fun p1 =>
   (AH.cell h p1).bind fun u2 =>
   (AV.str? u2).bind fun s3 =>
   (run fuel d F_word_Plain [(AV.str s3)] h).bind fun r4 =>
   (bif AV.isTup 2 r4.1 then ((AV.comp 0 r4.1).bind fun u5 =>
   (AV.int? .i64 u5).bind fun n6 =>
   (AV.comp 1 r4.1).bind fun u7 =>
   (AV.bool? u7).bind fun b8 =>
   (Pt.elem 1 6 x8 x4).bind fun p9 =>
   (AH.storeAt r4.2 [(AV.int .i64 n6)] p9).bind fun h10 =>
   l_aig_reader_head_0 fuel d n [(2, .ptr x2), (4, .ptr x4), (5, .slice x5), (7, .bool b8), (8, (AV.int .i64 (IntKind.wrap .i64 (x8 + (1 : Int)))))] h10) else none)) else (some ((.exit 0), [(2, .ptr x2), (4, .ptr x4), (7, .bool x7)], h))) := by
 generalize hh : run = R
 rw [run_is] at hh
 subst hh
 generalize hh : l_aig_reader_head_0 = R
 rw [l_aig_reader_head_0_is] at hh
 subst hh
 kernel_rfl
theorem k_aig_reader_head_0_x0 (fuel d : Nat) (x2 : Pt) (x4 : Pt) (x7 : Bool) (h : AH) :
   k_aig_reader_head_0 fuel d (.exit 0) [(2, .ptr x2), (4, .ptr x4), (7, .bool x7)] h =
 (bif (!x7) then ((AH.cellsAt h 6 x4).bind fun c1 =>
   (run fuel d F_aig_at [(AV.int .i64 0), err_api_ErrText] h).bind fun r2 =>
   same ((AH.cellsAt r2.2 6 x4).bind fun c6 =>
   some ((AV.agg c6), r2.2)) ((AV.agg c1), r2.2) (
   (bif (!false && Nat.beq (List.length c1) 6 && List.all c1 AV.isCell) then ((AH.storeAt r2.2 c1 x2).bind fun h3 =>
   (((((AH.cellsAt h3 6 x2).bind fun c5 =>
   some ((AV.agg c5)) : Option AV).bind fun v4 =>
   some [v4, r2.1]) : Option (List AV)).map AV.tup).map fun v => (v, h3)) else (none)))) else ((AH.cellsAt h 6 x4).bind fun c7 =>
   (run fuel d F_aag_Limits [(AV.agg c7)] h).bind fun r8 =>
   (bif AV.isTup 2 r8.1 then ((AV.comp 0 r8.1).bind fun u9 =>
   (AV.int? .i64 u9).bind fun n10 =>
   (AV.comp 1 r8.1).bind fun u11 =>
   (nilTest .iface u11).bind fun b12 =>
   (bif (!b12) then ((AH.cellsAt r8.2 6 x4).bind fun c13 =>
   (run fuel d F_aig_at [(AV.int .i64 0), u11] r8.2).bind fun r14 =>
   same ((AH.cellsAt r14.2 6 x4).bind fun c18 =>
   some ((AV.agg c18), r14.2)) ((AV.agg c13), r14.2) (
   (bif (!false && Nat.beq (List.length c13) 6 && List.all c13 AV.isCell) then ((AH.storeAt r14.2 c13 x2).bind fun h15 =>
   (((((AH.cellsAt h15 6 x2).bind fun c17 =>
   some ((AV.agg c17)) : Option AV).bind fun v16 =>
   some [v16, r14.1]) : Option (List AV)).map AV.tup).map fun v => (v, h15)) else (none)))) else ((AH.cellsAt r8.2 6 x4).bind fun c19 =>
   (bif (!false && Nat.beq (List.length c19) 6 && List.all c19 AV.isCell) then ((AH.storeAt r8.2 c19 x2).bind fun h20 =>
   (((((AH.cellsAt h20 6 x2).bind fun c22 =>
   some ((AV.agg c22)) : Option AV).bind fun v21 =>
   some [v21, AV.nilif]) : Option (List AV)).map AV.tup).map fun v => (v, h20)) else (none))))) else none))) := by
 generalize hh : run = R
 rw [run_is] at hh
 subst hh
 generalize hh : k_aig_reader_head_0 = R
 rw [k_aig_reader_head_0_is] at hh
 subst hh
 kernel_rfl
noncomputable def s_aig_reader_line_0 (fuel d : Nat) : Run := fun fr h k => aexec (Cf fuel F_aig_reader_line) false (acall (C fuel) false d) (acall (C fuel) true d) 60 (csub [true, true, true, true, true, true, false, true, false, false] (fbody Go.Proofs.Tryz.f147)) (asub [true, true, true, true, true, true, false, true, false, false] an147) fr h k
noncomputable def l_aig_reader_line_0r (fuel d : Nat) (n : Nat) (fr : Fr) (h : AH) : Option (AExit × Fr × AH) := aloop (s_aig_reader_line_0 fuel d) (some [10, 47, 48, 49]) n fr h (kOut [10])
noncomputable def l_aig_reader_line_0 : Nat → Nat → Nat → Fr → AH → Option (AExit × Fr × AH) := hide l_aig_reader_line_0r
theorem l_aig_reader_line_0_is : l_aig_reader_line_0 = l_aig_reader_line_0r := hide_eq _
noncomputable def k_aig_reader_line_0r (fuel d : Nat) : AExit → Fr → AH → Option (AV × AH) := (kBlock 0 (kSeq (Cf fuel F_aig_reader_line) false (acall (C fuel) false d) (acall (C fuel) true d) 60 (csub [true, true, true, true, true, true, true] (fbody Go.Proofs.Tryz.f147)) (asub [true, true, true, true, true, true, true] an147) (kRet (Cf fuel F_aig_reader_line) Go.Proofs.Tryz.f147.results.toList)))
noncomputable def k_aig_reader_line_0 : Nat → Nat → AExit → Fr → AH → Option (AV × AH) := hide k_aig_reader_line_0r
theorem k_aig_reader_line_0_is : k_aig_reader_line_0 = k_aig_reader_line_0r := hide_eq _
theorem e_aig_reader_line (fuel d : Nat) (x0 : Pt) (x1 : Int) (h : AH) :
   run fuel (d + 1) F_aig_reader_line [(AV.ptr x0), .int .i64 x1] h =
 (Pt.chk x0).bind fun p1 =>
   (Pt.field 0 p1).bind fun p2 =>
   (AH.cell h p2).bind fun u3 =>
   (AV.slice? u3).bind fun s4 =>
   (Pt.chk x0).bind fun p5 =>
   (Pt.field 1 p5).bind fun p6 =>
   (AH.cell h p6).bind fun u7 =>
   (AV.int? .i64 u7).bind fun n8 =>
   (run fuel d F_word_Line [(AV.slice s4), .int .i64 n8] h).bind fun r9 =>
   (bif AV.isTup 3 r9.1 then ((AV.comp 0 r9.1).bind fun u10 =>
   (AV.str? u10).bind fun s11 =>
   (AV.comp 1 r9.1).bind fun u12 =>
   (AV.int? .i64 u12).bind fun n13 =>
   (AV.comp 2 r9.1).bind fun u14 =>
   (AV.bool? u14).bind fun b15 =>
   (run fuel d F_word_Split [(AV.slice (Sl.mk ⟨AH.next r9.2, 0, 0⟩ (ByteArray.size s11) false)), .bool false] (AH.push r9.2 1 (bytesOf s11))).bind fun r16 =>
   (AV.slice? r16.1).bind fun s17 =>
   (bif (bif (!b15) then true else (!decide ((s17.len : Int) = x1))) then ((Pt.chk x0).bind fun p18 =>
   (Pt.field 1 p18).bind fun p19 =>
   (AH.cell r16.2 p19).bind fun u20 =>
   (AV.int? .i64 u20).bind fun n21 =>
   (run fuel d F_aig_at [(AV.int .i64 n21), err_api_ErrText] r16.2).bind fun r22 =>
   some ((AV.tup [(AV.slice Sl.nil), r22.1]), r22.2)) else ((Pt.chk x0).bind fun p23 =>
   (Pt.field 1 p23).bind fun p24 =>
   (AH.storeAt r16.2 [(AV.int .i64 n13)] p24).bind fun h25 =>
   (l_aig_reader_line_0 fuel d fuel [(10, .slice Sl.nil), (47, .slice s17), (48, (AV.int .i64 (s17.len : Int))), (49, .int .i64 0)] h25).bind fun p26 =>
   k_aig_reader_line_0 fuel d p26.1 p26.2.1 p26.2.2))) else none) := by
 generalize hh : run = R
 rw [run_is] at hh
 subst hh
 generalize hh : l_aig_reader_line_0 = R
 rw [l_aig_reader_line_0_is] at hh
 subst hh
 generalize hh : k_aig_reader_line_0 = R
 rw [k_aig_reader_line_0_is] at hh
 subst hh
 kernel_rfl
theorem l_aig_reader_line_0_eq (fuel d : Nat) (n : Nat) (x10 : Sl) (x47 : Sl) (x48 : Int) (x49 : Int) (h : AH) :
   l_aig_reader_line_0 fuel d (n + 1) [(10, .slice x10), (47, .slice x47), (48, .int .i64 x48), (49, .int .i64 x49)] h =
 (bif (decide (x49 < x48)) then ((AH.addr h 3 x47 x49).bind fun p1 =>
   (AH.cellsAt h 3 p1).bind fun c2 =>
   (bif (!false && Nat.beq (List.length c2) 3 && List.all c2 AV.isCell) then ((AH.storeAt (AH.push h 1 [(AV.str (⟨#[]⟩ : ByteArray)), .int .i64 0, .bool false]) c2 (Pt.mk ⟨AH.next h, 0, 0⟩ 3)).bind fun h3 =>
   (Pt.field 0 (Pt.mk ⟨AH.next h, 0, 0⟩ 3)).bind fun p4 =>
   (AH.cell h3 p4).bind fun u5 =>
   (AV.str? u5).bind fun s6 =>
   (AH.append h3 false 1 16 x10 1 [(AV.str s6)]).bind fun a7 =>
   l_aig_reader_line_0 fuel d n [(10, .slice a7.1), (47, .slice x47), (48, .int .i64 x48), (49, (AV.int .i64 (IntKind.wrap .i64 (x49 + (1 : Int)))))] a7.2) else (none))) else (some ((.exit 0), [(10, .slice x10)], h))) := by
 generalize hh : l_aig_reader_line_0 = R
 rw [l_aig_reader_line_0_is] at hh
 subst hh
 kernel_rfl
theorem k_aig_reader_line_0_x0 (fuel d : Nat) (x10 : Sl) (h : AH) :
   k_aig_reader_line_0 fuel d (.exit 0) [(10, .slice x10)] h =
 some ((AV.tup [(AV.slice x10), AV.nilif]), h) := by
 generalize hh : k_aig_reader_line_0 = R
 rw [k_aig_reader_line_0_is] at hh
 subst hh
 kernel_rfl
noncomputable def s_aig_reader_ands_0 (fuel d : Nat) : Run := fun fr h k => aexec (Cf fuel F_aig_reader_ands) false (acall (C fuel) false d) (acall (C fuel) true d) 55 (csub [true, true, false, true, false, false] (fbody Go.Proofs.Tryz.f148)) (asub [true, true, false, true, false, false] an148) fr h k
noncomputable def l_aig_reader_ands_0r (fuel d : Nat) (n : Nat) (fr : Fr) (h : AH) : Option (AExit × Fr × AH) := aloop (s_aig_reader_ands_0 fuel d) (some [0, 1, 8, 15, 16]) n fr h (kOut [6, 7, 8])
noncomputable def l_aig_reader_ands_0 : Nat → Nat → Nat → Fr → AH → Option (AExit × Fr × AH) := hide l_aig_reader_ands_0r
theorem l_aig_reader_ands_0_is : l_aig_reader_ands_0 = l_aig_reader_ands_0r := hide_eq _
noncomputable def k_aig_reader_ands_0r (fuel d : Nat) : AExit → Fr → AH → Option (AV × AH) := (kBlock 0 (kSeq (Cf fuel F_aig_reader_ands) false (acall (C fuel) false d) (acall (C fuel) true d) 55 (csub [true, true, true] (fbody Go.Proofs.Tryz.f148)) (asub [true, true, true] an148) (kRet (Cf fuel F_aig_reader_ands) Go.Proofs.Tryz.f148.results.toList)))
noncomputable def k_aig_reader_ands_0 : Nat → Nat → AExit → Fr → AH → Option (AV × AH) := hide k_aig_reader_ands_0r
theorem k_aig_reader_ands_0_is : k_aig_reader_ands_0 = k_aig_reader_ands_0r := hide_eq _
theorem e_aig_reader_ands (fuel d : Nat) (x0 : Pt) (x1 : Int) (x2 : Int) (h : AH) :
   run fuel (d + 1) F_aig_reader_ands [(AV.ptr x0), .int .i64 x1, .int .i64 x2] h =
 (l_aig_reader_ands_0 fuel d fuel [(0, .ptr x0), (1, .int .i64 x1), (8, .slice Sl.nil), (15, .int .i64 x2), (16, .int .i64 0)] h).bind fun p1 =>
   k_aig_reader_ands_0 fuel d p1.1 p1.2.1 p1.2.2 := by
 generalize hh : run = R
 rw [run_is] at hh
 subst hh
 generalize hh : l_aig_reader_ands_0 = R
 rw [l_aig_reader_ands_0_is] at hh
 subst hh
 generalize hh : k_aig_reader_ands_0 = R
 rw [k_aig_reader_ands_0_is] at hh
 subst hh
 kernel_rfl
theorem l_aig_reader_ands_0_eq (fuel d : Nat) (n : Nat) (x0 : Pt) (x1 : Int) (x8 : Sl) (x15 : Int) (x16 : Int) (h : AH) :
   l_aig_reader_ands_0 fuel d (n + 1) [(0, .ptr x0), (1, .int .i64 x1), (8, .slice x8), (15, .int .i64 x15), (16, .int .i64 x16)] h =
 (bif (decide (x16 < x15)) then ((run fuel d F_aig_reader_number [(AV.ptr x0), .int .i64 1, (AV.int .i64 (IntKind.wrap .i64 ((2 : Int) * (IntKind.wrap .i64 ((IntKind.wrap .i64 (x1 + x16)) + (1 : Int))))))] h).bind fun r1 =>
   (bif AV.isTup 2 r1.1 then ((AV.comp 0 r1.1).bind fun u2 =>
   (AV.int? .i64 u2).bind fun n3 =>
   (AV.comp 1 r1.1).bind fun u4 =>
   (nilTest .iface u4).bind fun b5 =>
   (bif (!b5) then (some (.ret, [(6, .slice Sl.nil), (7, u4), (8, .slice x8)], r1.2)) else ((run fuel d F_aig_reader_number [(AV.ptr x0), .int .i64 0, (AV.int .i64 (IntKind.wrap .i64 ((IntKind.wrap .i64 ((2 : Int) * (IntKind.wrap .i64 ((IntKind.wrap .i64 (x1 + x16)) + (1 : Int))))) - n3)))] r1.2).bind fun r6 =>
   (bif AV.isTup 2 r6.1 then ((AV.comp 0 r6.1).bind fun u7 =>
   (AV.int? .i64 u7).bind fun n8 =>
   (AV.comp 1 r6.1).bind fun u9 =>
   (nilTest .iface u9).bind fun b10 =>
   (bif (!b10) then (some (.ret, [(6, .slice Sl.nil), (7, u9), (8, .slice x8)], r6.2)) else ((AH.append r6.2 false 2 16 x8 1 [(AV.int .i64 (IntKind.wrap .i64 ((IntKind.wrap .i64 ((2 : Int) * (IntKind.wrap .i64 ((IntKind.wrap .i64 (x1 + x16)) + (1 : Int))))) - n3))), (AV.int .i64 (IntKind.wrap .i64 ((IntKind.wrap .i64 ((IntKind.wrap .i64 ((2 : Int) * (IntKind.wrap .i64 ((IntKind.wrap .i64 (x1 + x16)) + (1 : Int))))) - n3)) - n8)))]).bind fun a11 =>
   l_aig_reader_ands_0 fuel d n [(0, .ptr x0), (1, .int .i64 x1), (8, .slice a11.1), (15, .int .i64 x15), (16, (AV.int .i64 (IntKind.wrap .i64 (x16 + (1 : Int)))))] a11.2))) else none)))) else none)) else (some ((.exit 0), [(6, AV.bot), (7, AV.bot), (8, .slice x8)], h))) := by
 generalize hh : run = R
 rw [run_is] at hh
 subst hh
 generalize hh : l_aig_reader_ands_0 = R
 rw [l_aig_reader_ands_0_is] at hh
 subst hh
 kernel_rfl
theorem k_aig_reader_ands_0_x0 (fuel d : Nat) (x6 : AV) (x7 : AV) (x8 : Sl) (h : AH) :
   k_aig_reader_ands_0 fuel d (.exit 0) [(6, x6), (7, x7), (8, .slice x8)] h =
 some ((AV.tup [(AV.slice x8), AV.nilif]), h) := by
 generalize hh : k_aig_reader_ands_0 = R
 rw [k_aig_reader_ands_0_is] at hh
 subst hh
 kernel_rfl
theorem k_aig_reader_ands_0_r (fuel d : Nat) (x6 : Sl) (x7 : AV) (x8 : AV) (h : AH) :
   k_aig_reader_ands_0 fuel d .ret [(6, .slice x6), (7, x7), (8, x8)] h =
 some ((AV.tup [(AV.slice x6), x7]), h) := by
 generalize hh : k_aig_reader_ands_0 = R
 rw [k_aig_reader_ands_0_is] at hh
 subst hh
 kernel_rfl
noncomputable def k_word_kind_0r (fuel d : Nat) : AExit → Fr → AH → Option (AExit × Fr × AH) := (kBlock 3 (kOut []))
noncomputable def k_word_kind_0 : Nat → Nat → AExit → Fr → AH → Option (AExit × Fr × AH) := hide k_word_kind_0r
theorem k_word_kind_0_is : k_word_kind_0 = k_word_kind_0r := hide_eq _
noncomputable def k_word_kind_1r (fuel d : Nat) : AExit → Fr → AH → Option (AV × AH) := (kSeq (Cf fuel F_word_kind) false (acall (C fuel) false d) (acall (C fuel) true d) 12 (csub [true, false, true, false, false, false, true] (fbody Go.Proofs.Tryz.f149)) (asub [true, false, true, false, false, false, true] an149) (kBlock 4 (kSeq (Cf fuel F_word_kind) false (acall (C fuel) false d) (acall (C fuel) true d) 12 (csub [true, false, true, false, true] (fbody Go.Proofs.Tryz.f149)) (asub [true, false, true, false, true] an149) (kBlock 0 (kSeq (Cf fuel F_word_kind) false (acall (C fuel) false d) (acall (C fuel) true d) 12 (csub [true, true] (fbody Go.Proofs.Tryz.f149)) (asub [true, true] an149) (kRet (Cf fuel F_word_kind) Go.Proofs.Tryz.f149.results.toList))))))
noncomputable def k_word_kind_1 : Nat → Nat → AExit → Fr → AH → Option (AV × AH) := hide k_word_kind_1r
theorem k_word_kind_1_is : k_word_kind_1 = k_word_kind_1r := hide_eq _
theorem e_word_kind (fuel d : Nat) (x0 : Int) (h : AH) :
   brun fuel (d + 1) F_word_kind [(AV.int .u8 x0)] h =
 (((bif (decide (x0 = (32 : Int))) then (some (.normal, [], h)) else ((bif (decide (x0 = (9 : Int))) then (some (.normal, [], h)) else ((bif (decide (x0 = (13 : Int))) then (some ((.exit 3), [], h)) else ((bif (decide (x0 = (10 : Int))) then (some ((.exit 4), [], h)) else (some ((.exit 0), [], h)))))))))).bind fun p1 =>
   k_word_kind_0 fuel d p1.1 p1.2.1 p1.2.2).bind fun p2 =>
   k_word_kind_1 fuel d p2.1 p2.2.1 p2.2.2 := by
 generalize hh : brun = R
 rw [brun_is] at hh
 subst hh
 generalize hh : k_word_kind_0 = R
 rw [k_word_kind_0_is] at hh
 subst hh
 generalize hh : k_word_kind_1 = R
 rw [k_word_kind_1_is] at hh
 subst hh
 kernel_rfl
theorem k_word_kind_0_x0 (fuel d : Nat)  (h : AH) :
   k_word_kind_0 fuel d (.exit 0) [] h =
 some ((.exit 0), [], h) := by
 generalize hh : k_word_kind_0 = R
 rw [k_word_kind_0_is] at hh
 subst hh
 kernel_rfl
theorem k_word_kind_0_x3 (fuel d : Nat)  (h : AH) :
   k_word_kind_0 fuel d (.exit 3) [] h =
 some (.normal, [], h) := by
 generalize hh : k_word_kind_0 = R
 rw [k_word_kind_0_is] at hh
 subst hh
 kernel_rfl
theorem k_word_kind_0_x4 (fuel d : Nat)  (h : AH) :
   k_word_kind_0 fuel d (.exit 4) [] h =
 some ((.exit 4), [], h) := by
 generalize hh : k_word_kind_0 = R
 rw [k_word_kind_0_is] at hh
 subst hh
 kernel_rfl
theorem k_word_kind_0_n (fuel d : Nat)  (h : AH) :
   k_word_kind_0 fuel d .normal [] h =
 some (.normal, [], h) := by
 generalize hh : k_word_kind_0 = R
 rw [k_word_kind_0_is] at hh
 subst hh
 kernel_rfl
theorem k_word_kind_1_x0 (fuel d : Nat)  (h : AH) :
   k_word_kind_1 fuel d (.exit 0) [] h =
 some ((AV.int .i64 0), h) := by
 generalize hh : k_word_kind_1 = R
 rw [k_word_kind_1_is] at hh
 subst hh
 kernel_rfl
theorem k_word_kind_1_x4 (fuel d : Nat)  (h : AH) :
   k_word_kind_1 fuel d (.exit 4) [] h =
 some ((AV.int .i64 2), h) := by
 generalize hh : k_word_kind_1 = R
 rw [k_word_kind_1_is] at hh
 subst hh
 kernel_rfl
theorem k_word_kind_1_n (fuel d : Nat)  (h : AH) :
   k_word_kind_1 fuel d .normal [] h =
 some ((AV.int .i64 1), h) := by
 generalize hh : k_word_kind_1 = R
 rw [k_word_kind_1_is] at hh
 subst hh
 kernel_rfl
noncomputable def s_internal_strconv_Atoi_0 (fuel d : Nat) : Run := fun fr h k => aexec (Cf fuel F_internal_strconv_Atoi) false (acall (C fuel) false d) (acall (C fuel) true d) 77 (csub [true, true, false, true, false, true, true, true, false, true, false, false] (fbody Go.Proofs.Tryz.f150)) (asub [true, true, false, true, false, true, true, true, false, true, false, false] an150) fr h k
noncomputable def l_internal_strconv_Atoi_0r (fuel d : Nat) (n : Nat) (fr : Fr) (h : AH) : Option (AExit × Fr × AH) := aloop (s_internal_strconv_Atoi_0 fuel d) (some [5, 6, 47, 48, 49]) n fr h (kOut [2, 3, 5, 6])
noncomputable def l_internal_strconv_Atoi_0 : Nat → Nat → Nat → Fr → AH → Option (AExit × Fr × AH) := hide l_internal_strconv_Atoi_0r
theorem l_internal_strconv_Atoi_0_is : l_internal_strconv_Atoi_0 = l_internal_strconv_Atoi_0r := hide_eq _
noncomputable def k_internal_strconv_Atoi_0r (fuel d : Nat) : AExit → Fr → AH → Option (AV × AH) := (kBlock 0 (kSeq (Cf fuel F_internal_strconv_Atoi) false (acall (C fuel) false d) (acall (C fuel) true d) 77 (csub [true, true, false, true, false, true, true, true, true] (fbody Go.Proofs.Tryz.f150)) (asub [true, true, false, true, false, true, true, true, true] an150) (kSeq (Cf fuel F_internal_strconv_Atoi) false (acall (C fuel) false d) (acall (C fuel) true d) 77 (csub [true, true, true] (fbody Go.Proofs.Tryz.f150)) (asub [true, true, true] an150) (kRet (Cf fuel F_internal_strconv_Atoi) Go.Proofs.Tryz.f150.results.toList))))
noncomputable def k_internal_strconv_Atoi_0 : Nat → Nat → AExit → Fr → AH → Option (AV × AH) := hide k_internal_strconv_Atoi_0r
theorem k_internal_strconv_Atoi_0_is : k_internal_strconv_Atoi_0 = k_internal_strconv_Atoi_0r := hide_eq _
noncomputable def k_internal_strconv_Atoi_1r (fuel d : Nat) : AExit → Fr → AH → Option (AV × AH) := (kSeq (Cf fuel F_internal_strconv_Atoi) false (acall (C fuel) false d) (acall (C fuel) true d) 77 (csub [true, true, false, true, false, true, true, true, true, true] (fbody Go.Proofs.Tryz.f150)) (asub [true, true, false, true, false, true, true, true, true, true] an150) (kSeq (Cf fuel F_internal_strconv_Atoi) false (acall (C fuel) false d) (acall (C fuel) true d) 77 (csub [true, true, true] (fbody Go.Proofs.Tryz.f150)) (asub [true, true, true] an150) (kRet (Cf fuel F_internal_strconv_Atoi) Go.Proofs.Tryz.f150.results.toList)))
noncomputable def k_internal_strconv_Atoi_1 : Nat → Nat → AExit → Fr → AH → Option (AV × AH) := hide k_internal_strconv_Atoi_1r
theorem k_internal_strconv_Atoi_1_is : k_internal_strconv_Atoi_1 = k_internal_strconv_Atoi_1r := hide_eq _
theorem e_internal_strconv_Atoi (fuel d : Nat) (x0 : ByteArray) (h : AH) :
   brun fuel (d + 1) F_internal_strconv_Atoi [(AV.str x0)] h =
 ((bif (false == true) then (some ((AV.bool (bif (decide ((0 : Int) < ((ByteArray.size x0 : Nat) : Int))) then (decide (((ByteArray.size x0 : Nat) : Int) < (10 : Int))) else false)), h)) else (some ((AV.bool false), h)) : Option (AV × AH))).bind fun r1 =>
   (AV.bool? r1.1).bind fun b2 =>
   ((bif (b2 == false) then (((bif (true == true) then (some ((AV.bool (bif (decide ((0 : Int) < ((ByteArray.size x0 : Nat) : Int))) then (decide (((ByteArray.size x0 : Nat) : Int) < (19 : Int))) else false)), r1.2)) else (some ((AV.bool false), r1.2)) : Option (AV × AH))).bind fun r3 =>
   (AV.bool? r3.1).bind fun b4 =>
   some ((AV.bool b4), r3.2)) else (some ((AV.bool true), r1.2)) : Option (AV × AH))).bind fun r5 =>
   (AV.bool? r5.1).bind fun b6 =>
   (bif b6 then ((strAt x0 (0 : Int)).bind fun n7 =>
   ((bif ((decide (n7 = (45 : Int))) == false) then ((strAt x0 (0 : Int)).bind fun n8 =>
   some ((AV.bool (decide (n8 = (43 : Int)))), r5.2)) else (some ((AV.bool true), r5.2)) : Option (AV × AH))).bind fun r9 =>
   (AV.bool? r9.1).bind fun b10 =>
   (bif b10 then ((aHi (none : Option AV) (ByteArray.size x0)).bind fun hi11 =>
   (aLo (some (AV.int .i64 1)) hi11).bind fun lo12 =>
   (bif (decide (((ByteArray.size (ByteArray.extract x0 lo12 hi11) : Nat) : Int) < (1 : Int))) then (some ((AV.tup [(AV.int .i64 0), (AV.iface T_strconv_Error (AV.int .i64 2))]), r9.2)) else ((l_internal_strconv_Atoi_0 fuel d fuel [(5, .str x0), (6, .int .i64 0), (47, (AV.slice (Sl.mk ⟨AH.next r9.2, 0, 0⟩ (ByteArray.size (ByteArray.extract x0 lo12 hi11)) false))), (48, (AV.int .i64 (((Sl.mk ⟨AH.next r9.2, 0, 0⟩ (ByteArray.size (ByteArray.extract x0 lo12 hi11)) false).len : Nat) : Int))), (49, .int .i64 0)] (AH.push r9.2 1 (bytesOf (ByteArray.extract x0 lo12 hi11)))).bind fun p13 =>
   k_internal_strconv_Atoi_0 fuel d p13.1 p13.2.1 p13.2.2))) else ((l_internal_strconv_Atoi_0 fuel d fuel [(5, .str x0), (6, .int .i64 0), (47, (AV.slice (Sl.mk ⟨AH.next r9.2, 0, 0⟩ (ByteArray.size x0) false))), (48, (AV.int .i64 (((Sl.mk ⟨AH.next r9.2, 0, 0⟩ (ByteArray.size x0) false).len : Nat) : Int))), (49, .int .i64 0)] (AH.push r9.2 1 (bytesOf x0))).bind fun p14 =>
   k_internal_strconv_Atoi_0 fuel d p14.1 p14.2.1 p14.2.2))) else ((run fuel d F_strconv_ParseInt [(AV.str x0), .int .i64 10, .int .i64 0] r5.2).bind fun r15 =>
   (bif AV.isTup 2 r15.1 then ((AV.comp 0 r15.1).bind fun u16 =>
   (AV.int? .i64 u16).bind fun n17 =>
   (AV.comp 1 r15.1).bind fun u18 =>
   some ((AV.tup [(AV.int .i64 n17), u18]), r15.2)) else none))) := by
 generalize hh : run = R
 rw [run_is] at hh
 subst hh
 generalize hh : brun = R
 rw [brun_is] at hh
 subst hh
 generalize hh : l_internal_strconv_Atoi_0 = R
 rw [l_internal_strconv_Atoi_0_is] at hh
 subst hh
 generalize hh : k_internal_strconv_Atoi_0 = R
 rw [k_internal_strconv_Atoi_0_is] at hh
 subst hh
 kernel_rfl
theorem l_internal_strconv_Atoi_0_eq (fuel d : Nat) (n : Nat) (x5 : ByteArray) (x6 : Int) (x47 : Sl) (x48 : Int) (x49 : Int) (h : AH) :
   l_internal_strconv_Atoi_0 fuel d (n + 1) [(5, .str x5), (6, .int .i64 x6), (47, .slice x47), (48, .int .i64 x48), (49, .int .i64 x49)] h =
 (bif (decide (x49 < x48)) then ((AH.addr h 1 x47 x49).bind fun p1 =>
   (AH.cell h p1).bind fun u2 =>
   (AV.int? .u8 u2).bind fun n3 =>
   (bif (decide ((9 : Int) < (IntKind.wrap .u8 (n3 - (48 : Int))))) then (some (.ret, [(2, .int .i64 0), (3, (AV.iface T_strconv_Error (AV.int .i64 2))), (5, .str x5), (6, .int .i64 x6)], h)) else (l_internal_strconv_Atoi_0 fuel d n [(5, .str x5), (6, (AV.int .i64 (IntKind.wrap .i64 ((IntKind.wrap .i64 (x6 * (10 : Int))) + (IntKind.wrap .i64 (IntKind.wrap .u8 (n3 - (48 : Int)))))))), (47, .slice x47), (48, .int .i64 x48), (49, (AV.int .i64 (IntKind.wrap .i64 (x49 + (1 : Int)))))] h))) else (some ((.exit 0), [(2, AV.bot), (3, AV.bot), (5, .str x5), (6, .int .i64 x6)], h))) := by
 generalize hh : l_internal_strconv_Atoi_0 = R
 rw [l_internal_strconv_Atoi_0_is] at hh
 subst hh
 kernel_rfl
theorem k_internal_strconv_Atoi_0_x0 (fuel d : Nat) (x2 : AV) (x3 : AV) (x5 : ByteArray) (x6 : Int) (h : AH) :
   k_internal_strconv_Atoi_0 fuel d (.exit 0) [(2, x2), (3, x3), (5, .str x5), (6, .int .i64 x6)] h =
 (strAt x5 (0 : Int)).bind fun n1 =>
   ((bif (decide (n1 = (45 : Int))) then (some (.normal, [(6, (AV.int .i64 (IntKind.wrap .i64 (0 - x6))))], h)) else (some (.normal, [(6, .int .i64 x6)], h)))).bind fun p2 =>
   k_internal_strconv_Atoi_1 fuel d p2.1 p2.2.1 p2.2.2 := by
 generalize hh : k_internal_strconv_Atoi_0 = R
 rw [k_internal_strconv_Atoi_0_is] at hh
 subst hh
 generalize hh : k_internal_strconv_Atoi_1 = R
 rw [k_internal_strconv_Atoi_1_is] at hh
 subst hh
 kernel_rfl
theorem k_internal_strconv_Atoi_1_n (fuel d : Nat) (x6 : Int) (h : AH) :
   k_internal_strconv_Atoi_1 fuel d .normal [(6, .int .i64 x6)] h =
 some ((AV.tup [(AV.int .i64 x6), AV.nilif]), h) := by
 generalize hh : k_internal_strconv_Atoi_1 = R
 rw [k_internal_strconv_Atoi_1_is] at hh
 subst hh
 kernel_rfl
theorem e_strconv_small (fuel d : Nat) (x0 : Int) (h : AH) :
   brun fuel (d + 1) F_strconv_small [(AV.int .i64 x0)] h =
 (bif (decide (x0 < (10 : Int))) then ((aHi (some (AV.int .i64 (IntKind.wrap .i64 (x0 + (1 : Int))))) (ByteArray.size bstr_e9b1713d)).bind fun hi1 =>
   (aLo (some (AV.int .i64 x0)) hi1).bind fun lo2 =>
   some ((AV.str (ByteArray.extract bstr_e9b1713d lo2 hi1)), h)) else ((aHi (some (AV.int .i64 (IntKind.wrap .i64 ((IntKind.wrap .i64 (x0 * (2 : Int))) + (2 : Int))))) (ByteArray.size bstr_db3e2f51)).bind fun hi3 =>
   (aLo (some (AV.int .i64 (IntKind.wrap .i64 (x0 * (2 : Int))))) hi3).bind fun lo4 =>
   some ((AV.str (ByteArray.extract bstr_db3e2f51 lo4 hi3)), h))) := by
 generalize hh : brun = R
 rw [brun_is] at hh
 subst hh
 kernel_rfl
theorem e_strconv_numDigits (fuel d : Nat) (x0 : Int) (h : AH) :
   brun fuel (d + 1) F_strconv_numDigits [(AV.int .u64 x0)] h =
 (run fuel d F_bits_Len64 [(AV.int .u64 x0)] h).bind fun r1 =>
   (AV.int? .i64 r1.1).bind fun n2 =>
   (run fuel d F_strconv_log10Pow2 [(AV.int .i64 n2)] r1.2).bind fun r3 =>
   (AV.int? .i64 r3.1).bind fun n4 =>
   (Pt.elem 1 20 n4 (Pt.fp 0 tab_strconv_uint64pow10)).bind fun p5 =>
   (AH.cell r3.2 p5).bind fun u6 =>
   (AV.int? .u64 u6).bind fun n7 =>
   (run fuel d F_strconv_bool2_int [(AV.bool (decide (n7 ≤ x0)))] r3.2).bind fun r8 =>
   (AV.int? .i64 r8.1).bind fun n9 =>
   some ((AV.int .i64 (IntKind.wrap .i64 (n4 + n9))), r8.2) := by
 generalize hh : run = R
 rw [run_is] at hh
 subst hh
 generalize hh : brun = R
 rw [brun_is] at hh
 subst hh
 kernel_rfl
noncomputable def s_strconv_formatBase10_0 (fuel d : Nat) : Run := fun fr h k => aexec (Cf fuel F_strconv_formatBase10) false (acall (C fuel) false d) (acall (C fuel) true d) 167 (csub [true, false, false, false] (fbody Go.Proofs.Tryz.f158)) (asub [true, false, false, false] an158) fr h k
noncomputable def l_strconv_formatBase10_0r (fuel d : Nat) (n : Nat) (fr : Fr) (h : AH) : Option (AExit × Fr × AH) := aloop (s_strconv_formatBase10_0 fuel d) (some [0, 1, 4]) n fr h (kOut [0, 1, 4])
noncomputable def l_strconv_formatBase10_0 : Nat → Nat → Nat → Fr → AH → Option (AExit × Fr × AH) := hide l_strconv_formatBase10_0r
theorem l_strconv_formatBase10_0_is : l_strconv_formatBase10_0 = l_strconv_formatBase10_0r := hide_eq _
noncomputable def k_strconv_formatBase10_0r (fuel d : Nat) : AExit → Fr → AH → Option (AV × AH) := (kBlock 0 (kSeq (Cf fuel F_strconv_formatBase10) false (acall (C fuel) false d) (acall (C fuel) true d) 167 (csub [true, true] (fbody Go.Proofs.Tryz.f158)) (asub [true, true] an158) (kRet (Cf fuel F_strconv_formatBase10) Go.Proofs.Tryz.f158.results.toList)))
noncomputable def k_strconv_formatBase10_0 : Nat → Nat → AExit → Fr → AH → Option (AV × AH) := hide k_strconv_formatBase10_0r
theorem k_strconv_formatBase10_0_is : k_strconv_formatBase10_0 = k_strconv_formatBase10_0r := hide_eq _
noncomputable def k_strconv_formatBase10_1r (fuel d : Nat) : AExit → Fr → AH → Option (AV × AH) := (kSeq (Cf fuel F_strconv_formatBase10) false (acall (C fuel) false d) (acall (C fuel) true d) 167 (csub [true, true, true, true] (fbody Go.Proofs.Tryz.f158)) (asub [true, true, true, true] an158) (kRet (Cf fuel F_strconv_formatBase10) Go.Proofs.Tryz.f158.results.toList))
noncomputable def k_strconv_formatBase10_1 : Nat → Nat → AExit → Fr → AH → Option (AV × AH) := hide k_strconv_formatBase10_1r
theorem k_strconv_formatBase10_1_is : k_strconv_formatBase10_1 = k_strconv_formatBase10_1r := hide_eq _
noncomputable def k_strconv_formatBase10_2r (fuel d : Nat) : AExit → Fr → AH → Option (AV × AH) := (kSeq (Cf fuel F_strconv_formatBase10) false (acall (C fuel) false d) (acall (C fuel) true d) 167 (csub [true, true, true, true, true] (fbody Go.Proofs.Tryz.f158)) (asub [true, true, true, true, true] an158) (kRet (Cf fuel F_strconv_formatBase10) Go.Proofs.Tryz.f158.results.toList))
noncomputable def k_strconv_formatBase10_2 : Nat → Nat → AExit → Fr → AH → Option (AV × AH) := hide k_strconv_formatBase10_2r
theorem k_strconv_formatBase10_2_is : k_strconv_formatBase10_2 = k_strconv_formatBase10_2r := hide_eq _
theorem e_strconv_formatBase10 (fuel d : Nat) (x0 : Sl) (x1 : Int) (h : AH) :
   run fuel (d + 1) F_strconv_formatBase10 [(AV.slice x0), .int .u64 x1] h =
 (l_strconv_formatBase10_0 fuel d fuel [(0, .slice x0), (1, .int .u64 x1), (4, (AV.int .i64 (x0.len : Int)))] h).bind fun p1 =>
   k_strconv_formatBase10_0 fuel d p1.1 p1.2.1 p1.2.2 := by
 generalize hh : run = R
 rw [run_is] at hh
 subst hh
 generalize hh : l_strconv_formatBase10_0 = R
 rw [l_strconv_formatBase10_0_is] at hh
 subst hh
 generalize hh : k_strconv_formatBase10_0 = R
 rw [k_strconv_formatBase10_0_is] at hh
 subst hh
 kernel_rfl
end Go.Proofs.YtjagkijfngokaaaGreatDoor
