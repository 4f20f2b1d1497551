/-
 What each function does: printed by program, checked by the kernel.
-/
import Derived.Test.YtjagkijfngokaaaGreatDoorE
namespace Go.Proofs.YtjagkijfngokaaaGreatDoor
set_option linter.unusedVariables false
set_option maxRecDepth 100000
theorem l_strconv_formatBase10_0_eq (fuel d : Nat) (n : Nat) (x0 : Sl) (x1 : Int) (x4 : Int) (h : AH) :
   l_strconv_formatBase10_0 fuel d (n + 1) [(0, .slice x0), (1, .int .u64 x1), (4, .int .i64 x4)] h =
 (bif (decide ((8 : Int) ≤ x4)) then ((strAt bstr_db3e2f51 (IntKind.wrap .u32 ((IntKind.wrap .u32 ((Int.tmod (Int.tmod (IntKind.wrap .u32 (Int.tmod x1 (100000000 : Int))) (10000 : Int)) (100 : Int)) * (2 : Int))) + (1 : Int)))).bind fun n1 =>
   (strAt bstr_db3e2f51 (IntKind.wrap .u32 ((Int.tmod (Int.tmod (IntKind.wrap .u32 (Int.tmod x1 (100000000 : Int))) (10000 : Int)) (100 : Int)) * (2 : Int)))).bind fun n2 =>
   (AH.addr h 1 x0 (IntKind.wrap .i64 (x4 - (1 : Int)))).bind fun p3 =>
   (AH.storeAt h [(AV.int .u8 n1)] p3).bind fun h4 =>
   (AH.addr h4 1 x0 (IntKind.wrap .i64 (x4 - (2 : Int)))).bind fun p5 =>
   (AH.storeAt h4 [(AV.int .u8 n2)] p5).bind fun h6 =>
   (strAt bstr_db3e2f51 (IntKind.wrap .u32 ((IntKind.wrap .u32 ((IntKind.wrap .u32 (Int.tdiv (Int.tmod (IntKind.wrap .u32 (Int.tmod x1 (100000000 : Int))) (10000 : Int)) (100 : Int))) * (2 : Int))) + (1 : Int)))).bind fun n7 =>
   (strAt bstr_db3e2f51 (IntKind.wrap .u32 ((IntKind.wrap .u32 (Int.tdiv (Int.tmod (IntKind.wrap .u32 (Int.tmod x1 (100000000 : Int))) (10000 : Int)) (100 : Int))) * (2 : Int)))).bind fun n8 =>
   (AH.addr h6 1 x0 (IntKind.wrap .i64 (x4 - (3 : Int)))).bind fun p9 =>
   (AH.storeAt h6 [(AV.int .u8 n7)] p9).bind fun h10 =>
   (AH.addr h10 1 x0 (IntKind.wrap .i64 (x4 - (4 : Int)))).bind fun p11 =>
   (AH.storeAt h10 [(AV.int .u8 n8)] p11).bind fun h12 =>
   (strAt bstr_db3e2f51 (IntKind.wrap .u32 ((IntKind.wrap .u32 ((Int.tmod (IntKind.wrap .u32 (Int.tdiv (IntKind.wrap .u32 (Int.tmod x1 (100000000 : Int))) (10000 : Int))) (100 : Int)) * (2 : Int))) + (1 : Int)))).bind fun n13 =>
   (strAt bstr_db3e2f51 (IntKind.wrap .u32 ((Int.tmod (IntKind.wrap .u32 (Int.tdiv (IntKind.wrap .u32 (Int.tmod x1 (100000000 : Int))) (10000 : Int))) (100 : Int)) * (2 : Int)))).bind fun n14 =>
   (AH.addr h12 1 x0 (IntKind.wrap .i64 (x4 - (5 : Int)))).bind fun p15 =>
   (AH.storeAt h12 [(AV.int .u8 n13)] p15).bind fun h16 =>
   (AH.addr h16 1 x0 (IntKind.wrap .i64 (x4 - (6 : Int)))).bind fun p17 =>
   (AH.storeAt h16 [(AV.int .u8 n14)] p17).bind fun h18 =>
   (strAt bstr_db3e2f51 (IntKind.wrap .u32 ((IntKind.wrap .u32 ((IntKind.wrap .u32 (Int.tdiv (IntKind.wrap .u32 (Int.tdiv (IntKind.wrap .u32 (Int.tmod x1 (100000000 : Int))) (10000 : Int))) (100 : Int))) * (2 : Int))) + (1 : Int)))).bind fun n19 =>
   (strAt bstr_db3e2f51 (IntKind.wrap .u32 ((IntKind.wrap .u32 (Int.tdiv (IntKind.wrap .u32 (Int.tdiv (IntKind.wrap .u32 (Int.tmod x1 (100000000 : Int))) (10000 : Int))) (100 : Int))) * (2 : Int)))).bind fun n20 =>
   (AH.addr h18 1 x0 (IntKind.wrap .i64 (x4 - (7 : Int)))).bind fun p21 =>
   (AH.storeAt h18 [(AV.int .u8 n19)] p21).bind fun h22 =>
   (AH.addr h22 1 x0 (IntKind.wrap .i64 (x4 - (8 : Int)))).bind fun p23 =>
   (AH.storeAt h22 [(AV.int .u8 n20)] p23).bind fun h24 =>
   l_strconv_formatBase10_0 fuel d n [(0, .slice x0), (1, (AV.int .u64 (IntKind.wrap .u64 (Int.tdiv x1 (100000000 : Int))))), (4, (AV.int .i64 (IntKind.wrap .i64 (x4 - (8 : Int)))))] h24) else (some ((.exit 0), [(0, .slice x0), (1, .int .u64 x1), (4, .int .i64 x4)], h))) := by
 generalize hh : l_strconv_formatBase10_0 = R
 rw [l_strconv_formatBase10_0_is] at hh
 subst hh
 kernel_rfl
theorem k_strconv_formatBase10_0_x0 (fuel d : Nat) (x0 : Sl) (x1 : Int) (x4 : Int) (h : AH) :
   k_strconv_formatBase10_0 fuel d (.exit 0) [(0, .slice x0), (1, .int .u64 x1), (4, .int .i64 x4)] h =
 ((bif (decide ((4 : Int) ≤ x4)) then ((strAt bstr_db3e2f51 (IntKind.wrap .u32 ((IntKind.wrap .u32 ((Int.tmod (Int.tmod (IntKind.wrap .u32 x1) (10000 : Int)) (100 : Int)) * (2 : Int))) + (1 : Int)))).bind fun n1 =>
   (strAt bstr_db3e2f51 (IntKind.wrap .u32 ((Int.tmod (Int.tmod (IntKind.wrap .u32 x1) (10000 : Int)) (100 : Int)) * (2 : Int)))).bind fun n2 =>
   (AH.addr h 1 x0 (IntKind.wrap .i64 (x4 - (1 : Int)))).bind fun p3 =>
   (AH.storeAt h [(AV.int .u8 n1)] p3).bind fun h4 =>
   (AH.addr h4 1 x0 (IntKind.wrap .i64 (x4 - (2 : Int)))).bind fun p5 =>
   (AH.storeAt h4 [(AV.int .u8 n2)] p5).bind fun h6 =>
   (strAt bstr_db3e2f51 (IntKind.wrap .u32 ((IntKind.wrap .u32 ((IntKind.wrap .u32 (Int.tdiv (Int.tmod (IntKind.wrap .u32 x1) (10000 : Int)) (100 : Int))) * (2 : Int))) + (1 : Int)))).bind fun n7 =>
   (strAt bstr_db3e2f51 (IntKind.wrap .u32 ((IntKind.wrap .u32 (Int.tdiv (Int.tmod (IntKind.wrap .u32 x1) (10000 : Int)) (100 : Int))) * (2 : Int)))).bind fun n8 =>
   (AH.addr h6 1 x0 (IntKind.wrap .i64 (x4 - (3 : Int)))).bind fun p9 =>
   (AH.storeAt h6 [(AV.int .u8 n7)] p9).bind fun h10 =>
   (AH.addr h10 1 x0 (IntKind.wrap .i64 (x4 - (4 : Int)))).bind fun p11 =>
   (AH.storeAt h10 [(AV.int .u8 n8)] p11).bind fun h12 =>
   some (.normal, [(0, .slice x0), (4, (AV.int .i64 (IntKind.wrap .i64 (x4 - (4 : Int))))), (12, (AV.int .u32 (IntKind.wrap .u32 (Int.tdiv (IntKind.wrap .u32 x1) (10000 : Int)))))], h12)) else (some (.normal, [(0, .slice x0), (4, .int .i64 x4), (12, (AV.int .u32 (IntKind.wrap .u32 x1)))], h)))).bind fun p13 =>
   k_strconv_formatBase10_1 fuel d p13.1 p13.2.1 p13.2.2 := by
 generalize hh : k_strconv_formatBase10_0 = R
 rw [k_strconv_formatBase10_0_is] at hh
 subst hh
 generalize hh : k_strconv_formatBase10_1 = R
 rw [k_strconv_formatBase10_1_is] at hh
 subst hh
 kernel_rfl
theorem k_strconv_formatBase10_1_n (fuel d : Nat) (x0 : Sl) (x4 : Int) (x12 : Int) (h : AH) :
   k_strconv_formatBase10_1 fuel d .normal [(0, .slice x0), (4, .int .i64 x4), (12, .int .u32 x12)] h =
 ((bif (decide ((2 : Int) ≤ x4)) then ((strAt bstr_db3e2f51 (IntKind.wrap .u32 ((IntKind.wrap .u32 ((Int.tmod x12 (100 : Int)) * (2 : Int))) + (1 : Int)))).bind fun n1 =>
   (strAt bstr_db3e2f51 (IntKind.wrap .u32 ((Int.tmod x12 (100 : Int)) * (2 : Int)))).bind fun n2 =>
   (AH.addr h 1 x0 (IntKind.wrap .i64 (x4 - (1 : Int)))).bind fun p3 =>
   (AH.storeAt h [(AV.int .u8 n1)] p3).bind fun h4 =>
   (AH.addr h4 1 x0 (IntKind.wrap .i64 (x4 - (2 : Int)))).bind fun p5 =>
   (AH.storeAt h4 [(AV.int .u8 n2)] p5).bind fun h6 =>
   some (.normal, [(0, .slice x0), (4, (AV.int .i64 (IntKind.wrap .i64 (x4 - (2 : Int))))), (12, (AV.int .u32 (IntKind.wrap .u32 (Int.tdiv x12 (100 : Int)))))], h6)) else (some (.normal, [(0, .slice x0), (4, .int .i64 x4), (12, .int .u32 x12)], h)))).bind fun p7 =>
   k_strconv_formatBase10_2 fuel d p7.1 p7.2.1 p7.2.2 := by
 generalize hh : k_strconv_formatBase10_1 = R
 rw [k_strconv_formatBase10_1_is] at hh
 subst hh
 generalize hh : k_strconv_formatBase10_2 = R
 rw [k_strconv_formatBase10_2_is] at hh
 subst hh
 kernel_rfl
theorem k_strconv_formatBase10_2_n (fuel d : Nat) (x0 : Sl) (x4 : Int) (x12 : Int) (h : AH) :
   k_strconv_formatBase10_2 fuel d .normal [(0, .slice x0), (4, .int .i64 x4), (12, .int .u32 x12)] h =
 (bif (decide ((0 : Int) < x4)) then ((AH.addr h 1 x0 (0 : Int)).bind fun p1 =>
   (AH.storeAt h [(AV.int .u8 (IntKind.wrap .u8 (IntKind.wrap .u32 ((48 : Int) + x12))))] p1).bind fun h2 =>
   some ((AV.tup []), h2)) else (some ((AV.tup []), h))) := by
 generalize hh : k_strconv_formatBase10_2 = R
 rw [k_strconv_formatBase10_2_is] at hh
 subst hh
 kernel_rfl
theorem e_aag_Limits (fuel d : Nat) (x0 : List AV) (h : AH) :
   brun fuel (d + 1) F_aag_Limits [(AV.agg x0)] h =
 (bif (List.all x0 AV.isCell) then ((Pt.elem 1 6 (2 : Int) (Pt.mk ⟨AH.next h, 0, 0⟩ (List.length x0))).bind fun p1 =>
   (AH.cell (AH.push h 1 x0) p1).bind fun u2 =>
   (AV.int? .i64 u2).bind fun n3 =>
   (bif (decide ((8000 : Int) < n3)) then (some ((AV.tup [(AV.int .i64 2), err_api_ErrLimit]), (AH.push h 1 x0))) else ((Pt.elem 1 6 (2 : Int) (Pt.mk ⟨AH.next h, 0, 0⟩ (List.length x0))).bind fun p4 =>
   (AH.cell (AH.push h 1 x0) p4).bind fun u5 =>
   (AV.int? .i64 u5).bind fun n6 =>
   (Pt.elem 1 6 (5 : Int) (Pt.mk ⟨AH.next h, 0, 0⟩ (List.length x0))).bind fun p7 =>
   (AH.cell (AH.push h 1 x0) p7).bind fun u8 =>
   (AV.int? .i64 u8).bind fun n9 =>
   (bif (decide ((8000 : Int) < (IntKind.wrap .i64 (n6 + n9)))) then (some ((AV.tup [(AV.int .i64 5), err_api_ErrLimit]), (AH.push h 1 x0))) else ((Pt.elem 1 6 (4 : Int) (Pt.mk ⟨AH.next h, 0, 0⟩ (List.length x0))).bind fun p10 =>
   (AH.cell (AH.push h 1 x0) p10).bind fun u11 =>
   (AV.int? .i64 u11).bind fun n12 =>
   (bif (decide ((8000 : Int) < n12)) then (some ((AV.tup [(AV.int .i64 4), err_api_ErrLimit]), (AH.push h 1 x0))) else ((Pt.elem 1 6 (1 : Int) (Pt.mk ⟨AH.next h, 0, 0⟩ (List.length x0))).bind fun p13 =>
   (AH.cell (AH.push h 1 x0) p13).bind fun u14 =>
   (AV.int? .i64 u14).bind fun n15 =>
   (Pt.elem 1 6 (2 : Int) (Pt.mk ⟨AH.next h, 0, 0⟩ (List.length x0))).bind fun p16 =>
   (AH.cell (AH.push h 1 x0) p16).bind fun u17 =>
   (AV.int? .i64 u17).bind fun n18 =>
   (Pt.elem 1 6 (5 : Int) (Pt.mk ⟨AH.next h, 0, 0⟩ (List.length x0))).bind fun p19 =>
   (AH.cell (AH.push h 1 x0) p19).bind fun u20 =>
   (AV.int? .i64 u20).bind fun n21 =>
   (bif (!decide (n15 = (IntKind.wrap .i64 (n18 + n21)))) then (some ((AV.tup [(AV.int .i64 1), err_api_ErrText]), (AH.push h 1 x0))) else ((Pt.elem 1 6 (3 : Int) (Pt.mk ⟨AH.next h, 0, 0⟩ (List.length x0))).bind fun p22 =>
   (AH.cell (AH.push h 1 x0) p22).bind fun u23 =>
   (AV.int? .i64 u23).bind fun n24 =>
   (bif (!decide (n24 = (0 : Int))) then (some ((AV.tup [(AV.int .i64 3), err_api_ErrText]), (AH.push h 1 x0))) else (some ((AV.tup [(AV.int .i64 0), AV.nilif]), (AH.push h 1 x0))))))))))))) else (none)) := by
 generalize hh : brun = R
 rw [brun_is] at hh
 subst hh
 kernel_rfl
noncomputable def s_aig_reader_number_0 (fuel d : Nat) : Run := fun fr h k => aexec (Cf fuel F_aig_reader_number) false (acall (C fuel) false d) (acall (C fuel) true d) 73 (csub [true, true, false, true, false, false] (fbody Go.Proofs.Tryz.f162)) (asub [true, true, false, true, false, false] an162) fr h k
noncomputable def l_aig_reader_number_0r (fuel d : Nat) (n : Nat) (fr : Fr) (h : AH) : Option (AExit × Fr × AH) := aloop (s_aig_reader_number_0 fuel d) (some [0, 1, 2, 8, 11]) n fr h (kOut [0, 6, 7])
noncomputable def l_aig_reader_number_0 : Nat → Nat → Nat → Fr → AH → Option (AExit × Fr × AH) := hide l_aig_reader_number_0r
theorem l_aig_reader_number_0_is : l_aig_reader_number_0 = l_aig_reader_number_0r := hide_eq _
noncomputable def k_aig_reader_number_0r (fuel d : Nat) : AExit → Fr → AH → Option (AV × AH) := (kBlock 0 (kSeq (Cf fuel F_aig_reader_number) false (acall (C fuel) false d) (acall (C fuel) true d) 73 (csub [true, true, true] (fbody Go.Proofs.Tryz.f162)) (asub [true, true, true] an162) (kRet (Cf fuel F_aig_reader_number) Go.Proofs.Tryz.f162.results.toList)))
noncomputable def k_aig_reader_number_0 : Nat → Nat → AExit → Fr → AH → Option (AV × AH) := hide k_aig_reader_number_0r
theorem k_aig_reader_number_0_is : k_aig_reader_number_0 = k_aig_reader_number_0r := hide_eq _
theorem e_aig_reader_number (fuel d : Nat) (x0 : Pt) (x1 : Int) (x2 : Int) (h : AH) :
   run fuel (d + 1) F_aig_reader_number [(AV.ptr x0), .int .i64 x1, .int .i64 x2] h =
 (l_aig_reader_number_0 fuel d fuel [(0, .ptr x0), (1, .int .i64 x1), (2, .int .i64 x2), (8, .int .i64 0), (11, .int .i64 0)] h).bind fun p1 =>
   k_aig_reader_number_0 fuel d p1.1 p1.2.1 p1.2.2 := by
 generalize hh : run = R
 rw [run_is] at hh
 subst hh
 generalize hh : l_aig_reader_number_0 = R
 rw [l_aig_reader_number_0_is] at hh
 subst hh
 generalize hh : k_aig_reader_number_0 = R
 rw [k_aig_reader_number_0_is] at hh
 subst hh
 kernel_rfl
theorem l_aig_reader_number_0_eq (fuel d : Nat) (n : Nat) (x0 : Pt) (x1 : Int) (x2 : Int) (x8 : Int) (x11 : Int) (h : AH) :
   l_aig_reader_number_0 fuel d (n + 1) [(0, .ptr x0), (1, .int .i64 x1), (2, .int .i64 x2), (8, .int .i64 x8), (11, .int .i64 x11)] h =
 (bif (decide (x11 < (5 : Int))) then ((Pt.chk x0).bind fun p1 =>
   (Pt.field 1 p1).bind fun p2 =>
   (AH.cell h p2).bind fun u3 =>
   (AV.int? .i64 u3).bind fun n4 =>
   (Pt.chk x0).bind fun p5 =>
   (Pt.field 0 p5).bind fun p6 =>
   (AH.cell h p6).bind fun u7 =>
   (AV.slice? u7).bind fun s8 =>
   (bif (decide ((s8.len : Int) ≤ (IntKind.wrap .i64 (n4 + x11)))) then (some ((.exit 0), [(0, .ptr x0), (6, AV.bot), (7, AV.bot)], h)) else ((Pt.chk x0).bind fun p9 =>
   (Pt.field 0 p9).bind fun p10 =>
   (AH.cell h p10).bind fun u11 =>
   (AV.slice? u11).bind fun s12 =>
   (Pt.chk x0).bind fun p13 =>
   (Pt.field 1 p13).bind fun p14 =>
   (AH.cell h p14).bind fun u15 =>
   (AV.int? .i64 u15).bind fun n16 =>
   (AH.addr h 1 s12 (IntKind.wrap .i64 (n16 + x11))).bind fun p17 =>
   (AH.cell h p17).bind fun u18 =>
   (AV.int? .u8 u18).bind fun n19 =>
   (bif decide ((IntKind.wrap .i64 ((7 : Int) * x11)) < 0) then (none) else ((bif (decide ((128 : Int) ≤ n19)) then (l_aig_reader_number_0 fuel d n [(0, .ptr x0), (1, .int .i64 x1), (2, .int .i64 x2), (8, (AV.int .i64 (bitsOp .or .i64 x8 (IntKind.wrap .i64 ((IntKind.wrap .i64 (bitsOp .and .u8 n19 (127 : Int))) * 2 ^ min (Int.toNat (IntKind.wrap .i64 ((7 : Int) * x11))) (IntKind.bits .i64)))))), (11, (AV.int .i64 (IntKind.wrap .i64 (x11 + (1 : Int)))))] h) else ((bif (bif (decide ((bitsOp .or .i64 x8 (IntKind.wrap .i64 ((IntKind.wrap .i64 (bitsOp .and .u8 n19 (127 : Int))) * 2 ^ min (Int.toNat (IntKind.wrap .i64 ((7 : Int) * x11))) (IntKind.bits .i64)))) < x1)) then true else (decide (x2 < (bitsOp .or .i64 x8 (IntKind.wrap .i64 ((IntKind.wrap .i64 (bitsOp .and .u8 n19 (127 : Int))) * 2 ^ min (Int.toNat (IntKind.wrap .i64 ((7 : Int) * x11))) (IntKind.bits .i64))))))) then (some ((.exit 0), [(0, .ptr x0), (6, AV.bot), (7, AV.bot)], h)) else ((Pt.chk x0).bind fun p20 =>
   (Pt.field 1 p20).bind fun p21 =>
   (AH.cell h p21).bind fun u22 =>
   (AV.int? .i64 u22).bind fun n23 =>
   (Pt.chk x0).bind fun p24 =>
   (Pt.field 1 p24).bind fun p25 =>
   (AH.storeAt h [(AV.int .i64 (IntKind.wrap .i64 (n23 + (IntKind.wrap .i64 (x11 + (1 : Int))))))] p25).bind fun h26 =>
   some (.ret, [(0, .ptr x0), (6, (AV.int .i64 (bitsOp .or .i64 x8 (IntKind.wrap .i64 ((IntKind.wrap .i64 (bitsOp .and .u8 n19 (127 : Int))) * 2 ^ min (Int.toNat (IntKind.wrap .i64 ((7 : Int) * x11))) (IntKind.bits .i64)))))), (7, AV.nilif)], h26)))))))))) else (some ((.exit 0), [(0, .ptr x0), (6, AV.bot), (7, AV.bot)], h))) := by
 generalize hh : l_aig_reader_number_0 = R
 rw [l_aig_reader_number_0_is] at hh
 subst hh
 kernel_rfl
theorem k_aig_reader_number_0_x0 (fuel d : Nat) (x0 : Pt) (x6 : AV) (x7 : AV) (h : AH) :
   k_aig_reader_number_0 fuel d (.exit 0) [(0, .ptr x0), (6, x6), (7, x7)] h =
 (Pt.chk x0).bind fun p1 =>
   (Pt.field 1 p1).bind fun p2 =>
   (AH.cell h p2).bind fun u3 =>
   (AV.int? .i64 u3).bind fun n4 =>
   (run fuel d F_aig_at [(AV.int .i64 n4), err_api_ErrText] h).bind fun r5 =>
   some ((AV.tup [(AV.int .i64 0), r5.1]), r5.2) := by
 generalize hh : run = R
 rw [run_is] at hh
 subst hh
 generalize hh : k_aig_reader_number_0 = R
 rw [k_aig_reader_number_0_is] at hh
 subst hh
 kernel_rfl
theorem k_aig_reader_number_0_r (fuel d : Nat) (x0 : AV) (x6 : Int) (x7 : AV) (h : AH) :
   k_aig_reader_number_0 fuel d .ret [(0, x0), (6, .int .i64 x6), (7, x7)] h =
 some ((AV.tup [(AV.int .i64 x6), x7]), h) := by
 generalize hh : k_aig_reader_number_0 = R
 rw [k_aig_reader_number_0_is] at hh
 subst hh
 kernel_rfl
theorem e_strconv_log10Pow2 (fuel d : Nat) (x0 : Int) (h : AH) :
   brun fuel (d + 1) F_strconv_log10Pow2 [(AV.int .i64 x0)] h =
 some ((AV.int .i64 (Int.fdiv (IntKind.wrap .i64 (x0 * (78913 : Int))) (2 ^ min (Int.toNat (18 : Int)) (IntKind.bits .i64)))), h) := by
 generalize hh : brun = R
 rw [brun_is] at hh
 subst hh
 kernel_rfl
noncomputable def k_bits_Len64_0r (fuel d : Nat) : AExit → Fr → AH → Option (AV × AH) := (kSeq (Cf fuel F_bits_Len64) false (acall (C fuel) false d) (acall (C fuel) true d) 25 (csub [true, true] (fbody Go.Proofs.Tryz.f170)) (asub [true, true] an170) (kRet (Cf fuel F_bits_Len64) Go.Proofs.Tryz.f170.results.toList))
noncomputable def k_bits_Len64_0 : Nat → Nat → AExit → Fr → AH → Option (AV × AH) := hide k_bits_Len64_0r
theorem k_bits_Len64_0_is : k_bits_Len64_0 = k_bits_Len64_0r := hide_eq _
noncomputable def k_bits_Len64_1r (fuel d : Nat) : AExit → Fr → AH → Option (AV × AH) := (kSeq (Cf fuel F_bits_Len64) false (acall (C fuel) false d) (acall (C fuel) true d) 25 (csub [true, true, true] (fbody Go.Proofs.Tryz.f170)) (asub [true, true, true] an170) (kRet (Cf fuel F_bits_Len64) Go.Proofs.Tryz.f170.results.toList))
noncomputable def k_bits_Len64_1 : Nat → Nat → AExit → Fr → AH → Option (AV × AH) := hide k_bits_Len64_1r
theorem k_bits_Len64_1_is : k_bits_Len64_1 = k_bits_Len64_1r := hide_eq _
noncomputable def k_bits_Len64_2r (fuel d : Nat) : AExit → Fr → AH → Option (AV × AH) := (kSeq (Cf fuel F_bits_Len64) false (acall (C fuel) false d) (acall (C fuel) true d) 25 (csub [true, true, true, true] (fbody Go.Proofs.Tryz.f170)) (asub [true, true, true, true] an170) (kRet (Cf fuel F_bits_Len64) Go.Proofs.Tryz.f170.results.toList))
noncomputable def k_bits_Len64_2 : Nat → Nat → AExit → Fr → AH → Option (AV × AH) := hide k_bits_Len64_2r
theorem k_bits_Len64_2_is : k_bits_Len64_2 = k_bits_Len64_2r := hide_eq _
theorem e_bits_Len64 (fuel d : Nat) (x0 : Int) (h : AH) :
   brun fuel (d + 1) F_bits_Len64 [(AV.int .u64 x0)] h =
 ((bif (decide ((4294967296 : Int) ≤ x0)) then (some (.normal, [(0, (AV.int .u64 (Int.fdiv x0 (2 ^ min (Int.toNat (32 : Int)) (IntKind.bits .u64))))), (2, .int .i64 32)], h)) else (some (.normal, [(0, .int .u64 x0), (2, .int .i64 0)], h)))).bind fun p1 =>
   k_bits_Len64_0 fuel d p1.1 p1.2.1 p1.2.2 := by
 generalize hh : brun = R
 rw [brun_is] at hh
 subst hh
 generalize hh : k_bits_Len64_0 = R
 rw [k_bits_Len64_0_is] at hh
 subst hh
 kernel_rfl
theorem k_bits_Len64_0_n (fuel d : Nat) (x0 : Int) (x2 : Int) (h : AH) :
   k_bits_Len64_0 fuel d .normal [(0, .int .u64 x0), (2, .int .i64 x2)] h =
 ((bif (decide ((65536 : Int) ≤ x0)) then (some (.normal, [(0, (AV.int .u64 (Int.fdiv x0 (2 ^ min (Int.toNat (16 : Int)) (IntKind.bits .u64))))), (2, (AV.int .i64 (IntKind.wrap .i64 (x2 + (16 : Int)))))], h)) else (some (.normal, [(0, .int .u64 x0), (2, .int .i64 x2)], h)))).bind fun p1 =>
   k_bits_Len64_1 fuel d p1.1 p1.2.1 p1.2.2 := by
 generalize hh : k_bits_Len64_0 = R
 rw [k_bits_Len64_0_is] at hh
 subst hh
 generalize hh : k_bits_Len64_1 = R
 rw [k_bits_Len64_1_is] at hh
 subst hh
 kernel_rfl
theorem k_bits_Len64_1_n (fuel d : Nat) (x0 : Int) (x2 : Int) (h : AH) :
   k_bits_Len64_1 fuel d .normal [(0, .int .u64 x0), (2, .int .i64 x2)] h =
 ((bif (decide ((256 : Int) ≤ x0)) then (some (.normal, [(0, (AV.int .u64 (Int.fdiv x0 (2 ^ min (Int.toNat (8 : Int)) (IntKind.bits .u64))))), (2, (AV.int .i64 (IntKind.wrap .i64 (x2 + (8 : Int)))))], h)) else (some (.normal, [(0, .int .u64 x0), (2, .int .i64 x2)], h)))).bind fun p1 =>
   k_bits_Len64_2 fuel d p1.1 p1.2.1 p1.2.2 := by
 generalize hh : k_bits_Len64_1 = R
 rw [k_bits_Len64_1_is] at hh
 subst hh
 generalize hh : k_bits_Len64_2 = R
 rw [k_bits_Len64_2_is] at hh
 subst hh
 kernel_rfl
theorem k_bits_Len64_2_n (fuel d : Nat) (x0 : Int) (x2 : Int) (h : AH) :
   k_bits_Len64_2 fuel d .normal [(0, .int .u64 x0), (2, .int .i64 x2)] h =
 (strAt bstr_633d862b (IntKind.wrap .u8 x0)).bind fun n1 =>
   some ((AV.int .i64 (IntKind.wrap .i64 (x2 + (IntKind.wrap .i64 n1)))), h) := by
 generalize hh : k_bits_Len64_2 = R
 rw [k_bits_Len64_2_is] at hh
 subst hh
 kernel_rfl
theorem e_strconv_bool2_int (fuel d : Nat) (x0 : Bool) (h : AH) :
   brun fuel (d + 1) F_strconv_bool2_int [(AV.bool x0)] h =
 (bif x0 then (some ((AV.int .i64 1), h)) else (some ((AV.int .i64 0), h))) := by
 generalize hh : brun = R
 rw [brun_is] at hh
 subst hh
 kernel_rfl
theorem e_bytealg_IndexByte (fuel d : Nat) (x0 : Sl) (x1 : Int) (h : AH) :
   run fuel d F_bytealg_IndexByte [(AV.slice x0), .int .u8 x1] h =
 (AH.sliceCells h 1 x0).bind fun c1 => (bytesFrom c1).bind fun b2 => some ((AV.int .i64 (Lib.indexByte b2 (Int.toNat x1).toUInt8)), h) := by
 generalize hh : run = R
 rw [run_is] at hh
 subst hh
 cases d <;> kernel_rfl
end Go.Proofs.YtjagkijfngokaaaGreatDoor
