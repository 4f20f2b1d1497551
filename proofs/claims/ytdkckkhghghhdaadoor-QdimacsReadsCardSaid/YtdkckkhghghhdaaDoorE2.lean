/-
  What each function does: printed by program, checked by the kernel.
-/
import Derived.Test.YtdkckkhghghhdaaDoorE
namespace Go.Proofs.YtdkckkhghghhdaaDoor
set_option linter.unusedVariables false
set_option maxRecDepth 100000

theorem k_strconv_formatBase10_0_x0 (fuel d : Nat) (x0 : Sl) (x1 : Int) (x4 : Int) (h : AHeap) :
    k_strconv_formatBase10_0 fuel d (.exit 0) [(0, (AVal.slice x0)), (1, (AVal.int .u64 x1)), (4, (AVal.int .i64 x4))] h =
  ((bif (decide ((4 : Int) ≤ x4)) then ((strAt bstr_db3e2f51 (IntKind.wrap .u32 ((IntKind.wrap .u32 ((Int.tmod (Int.tmod (IntKind.wrap .u32 x1) (10000 : Int)) (100 : Int)) * (2 : Int))) + (1 : Int)))).bind fun n1 =>
    (strAt bstr_db3e2f51 (IntKind.wrap .u32 ((Int.tmod (Int.tmod (IntKind.wrap .u32 x1) (10000 : Int)) (100 : Int)) * (2 : Int)))).bind fun n2 =>
    (AHeap.addr h 1 x0 (IntKind.wrap .i64 (x4 - (1 : Int)))).bind fun p3 =>
    (AHeap.storeAt h [(AVal.int .u8 n1)] p3).bind fun h4 =>
    (AHeap.addr h4 1 x0 (IntKind.wrap .i64 (x4 - (2 : Int)))).bind fun p5 =>
    (AHeap.storeAt h4 [(AVal.int .u8 n2)] p5).bind fun h6 =>
    (strAt bstr_db3e2f51 (IntKind.wrap .u32 ((IntKind.wrap .u32 ((IntKind.wrap .u32 (Int.tdiv (Int.tmod (IntKind.wrap .u32 x1) (10000 : Int)) (100 : Int))) * (2 : Int))) + (1 : Int)))).bind fun n7 =>
    (strAt bstr_db3e2f51 (IntKind.wrap .u32 ((IntKind.wrap .u32 (Int.tdiv (Int.tmod (IntKind.wrap .u32 x1) (10000 : Int)) (100 : Int))) * (2 : Int)))).bind fun n8 =>
    (AHeap.addr h6 1 x0 (IntKind.wrap .i64 (x4 - (3 : Int)))).bind fun p9 =>
    (AHeap.storeAt h6 [(AVal.int .u8 n7)] p9).bind fun h10 =>
    (AHeap.addr h10 1 x0 (IntKind.wrap .i64 (x4 - (4 : Int)))).bind fun p11 =>
    (AHeap.storeAt h10 [(AVal.int .u8 n8)] p11).bind fun h12 =>
    some (.normal, [(0, (AVal.slice x0)), (4, (AVal.int .i64 (IntKind.wrap .i64 (x4 - (4 : Int))))), (12, (AVal.int .u32 (IntKind.wrap .u32 (Int.tdiv (IntKind.wrap .u32 x1) (10000 : Int)))))], h12)) else (some (.normal, [(0, (AVal.slice x0)), (4, (AVal.int .i64 x4)), (12, (AVal.int .u32 (IntKind.wrap .u32 x1)))], h)))).bind fun p13 =>
    k_strconv_formatBase10_1 fuel d p13.1 p13.2.1 p13.2.2 := by
  generalize hh : k_strconv_formatBase10_0 = R
  rw [k_strconv_formatBase10_0_is] at hh
  subst hh
  generalize hh : k_strconv_formatBase10_1 = R
  rw [k_strconv_formatBase10_1_is] at hh
  subst hh
  kernel_rfl

theorem k_strconv_formatBase10_1_n (fuel d : Nat) (x0 : Sl) (x4 : Int) (x12 : Int) (h : AHeap) :
    k_strconv_formatBase10_1 fuel d .normal [(0, (AVal.slice x0)), (4, (AVal.int .i64 x4)), (12, (AVal.int .u32 x12))] h =
  ((bif (decide ((2 : Int) ≤ x4)) then ((strAt bstr_db3e2f51 (IntKind.wrap .u32 ((IntKind.wrap .u32 ((Int.tmod x12 (100 : Int)) * (2 : Int))) + (1 : Int)))).bind fun n1 =>
    (strAt bstr_db3e2f51 (IntKind.wrap .u32 ((Int.tmod x12 (100 : Int)) * (2 : Int)))).bind fun n2 =>
    (AHeap.addr h 1 x0 (IntKind.wrap .i64 (x4 - (1 : Int)))).bind fun p3 =>
    (AHeap.storeAt h [(AVal.int .u8 n1)] p3).bind fun h4 =>
    (AHeap.addr h4 1 x0 (IntKind.wrap .i64 (x4 - (2 : Int)))).bind fun p5 =>
    (AHeap.storeAt h4 [(AVal.int .u8 n2)] p5).bind fun h6 =>
    some (.normal, [(0, (AVal.slice x0)), (4, (AVal.int .i64 (IntKind.wrap .i64 (x4 - (2 : Int))))), (12, (AVal.int .u32 (IntKind.wrap .u32 (Int.tdiv x12 (100 : Int)))))], h6)) else (some (.normal, [(0, (AVal.slice x0)), (4, (AVal.int .i64 x4)), (12, (AVal.int .u32 x12))], h)))).bind fun p7 =>
    k_strconv_formatBase10_2 fuel d p7.1 p7.2.1 p7.2.2 := by
  generalize hh : k_strconv_formatBase10_1 = R
  rw [k_strconv_formatBase10_1_is] at hh
  subst hh
  generalize hh : k_strconv_formatBase10_2 = R
  rw [k_strconv_formatBase10_2_is] at hh
  subst hh
  kernel_rfl

theorem k_strconv_formatBase10_2_n (fuel d : Nat) (x0 : Sl) (x4 : Int) (x12 : Int) (h : AHeap) :
    k_strconv_formatBase10_2 fuel d .normal [(0, (AVal.slice x0)), (4, (AVal.int .i64 x4)), (12, (AVal.int .u32 x12))] h =
  (bif (decide ((0 : Int) < x4)) then ((AHeap.addr h 1 x0 (0 : Int)).bind fun p1 =>
    (AHeap.storeAt h [(AVal.int .u8 (IntKind.wrap .u8 (IntKind.wrap .u32 ((48 : Int) + x12))))] p1).bind fun h2 =>
    some ((AVal.tup []), h2)) else (some ((AVal.tup []), h))) := by
  generalize hh : k_strconv_formatBase10_2 = R
  rw [k_strconv_formatBase10_2_is] at hh
  subst hh
  kernel_rfl

noncomputable def k_strconv_FormatInt_0r (fuel d : Nat) : AExit → Fr → AHeap → Option (AVal × AHeap) := (kSeq (Cf fuel F_strconv_FormatInt) false (acall (C fuel) false d) (acall (C fuel) true d) 54 (csub [true, false, true, false, true, true, true, true] (fbody Go.Proofs.Tryd.f115)) (asub [true, false, true, false, true, true, true, true] an115) (kSeq (Cf fuel F_strconv_FormatInt) false (acall (C fuel) false d) (acall (C fuel) true d) 54 (csub [true, true] (fbody Go.Proofs.Tryd.f115)) (asub [true, true] an115) (kRet (Cf fuel F_strconv_FormatInt) Go.Proofs.Tryd.f115.results.toList)))

noncomputable def k_strconv_FormatInt_0 : Nat → Nat → AExit → Fr → AHeap → Option (AVal × AHeap) := hide k_strconv_FormatInt_0r

theorem k_strconv_FormatInt_0_is : k_strconv_FormatInt_0 = k_strconv_FormatInt_0r := hide_eq _

theorem e_strconv_FormatInt (fuel d : Nat) (x0 : Int) (x1 : Int) (h : AHeap) :
    brun fuel (d + 1) F_strconv_FormatInt [(AVal.int .i64 x0), (AVal.int .i64 x1)] h =
  (bif (decide (x1 = (10 : Int))) then ((bif (bif (decide ((0 : Int) ≤ x0)) then (decide (x0 < (100 : Int))) else false) then ((run fuel d F_strconv_small [(AVal.int .i64 x0)] h).bind fun r1 =>
    (AVal.str? r1.1).bind fun s2 =>
    some ((AVal.str s2), r1.2)) else (((bif (decide (x0 < (0 : Int))) then (some (.normal, [(0, (AVal.int .i64 x0)), (5, (AVal.ptr (Pt.mk ⟨AHeap.next h, 0, 0⟩ 24))), (6, (AVal.int .u64 (IntKind.wrap .u64 (0 - (IntKind.wrap .u64 x0)))))], (AHeap.push h 1 [(AVal.int .u8 (0 : Int)), (AVal.int .u8 (0 : Int)), (AVal.int .u8 (0 : Int)), (AVal.int .u8 (0 : Int)), (AVal.int .u8 (0 : Int)), (AVal.int .u8 (0 : Int)), (AVal.int .u8 (0 : Int)), (AVal.int .u8 (0 : Int)), (AVal.int .u8 (0 : Int)), (AVal.int .u8 (0 : Int)), (AVal.int .u8 (0 : Int)), (AVal.int .u8 (0 : Int)), (AVal.int .u8 (0 : Int)), (AVal.int .u8 (0 : Int)), (AVal.int .u8 (0 : Int)), (AVal.int .u8 (0 : Int)), (AVal.int .u8 (0 : Int)), (AVal.int .u8 (0 : Int)), (AVal.int .u8 (0 : Int)), (AVal.int .u8 (0 : Int)), (AVal.int .u8 (0 : Int)), (AVal.int .u8 (0 : Int)), (AVal.int .u8 (0 : Int)), (AVal.int .u8 (0 : Int))]))) else (some (.normal, [(0, (AVal.int .i64 x0)), (5, (AVal.ptr (Pt.mk ⟨AHeap.next h, 0, 0⟩ 24))), (6, (AVal.int .u64 (IntKind.wrap .u64 x0)))], (AHeap.push h 1 [(AVal.int .u8 (0 : Int)), (AVal.int .u8 (0 : Int)), (AVal.int .u8 (0 : Int)), (AVal.int .u8 (0 : Int)), (AVal.int .u8 (0 : Int)), (AVal.int .u8 (0 : Int)), (AVal.int .u8 (0 : Int)), (AVal.int .u8 (0 : Int)), (AVal.int .u8 (0 : Int)), (AVal.int .u8 (0 : Int)), (AVal.int .u8 (0 : Int)), (AVal.int .u8 (0 : Int)), (AVal.int .u8 (0 : Int)), (AVal.int .u8 (0 : Int)), (AVal.int .u8 (0 : Int)), (AVal.int .u8 (0 : Int)), (AVal.int .u8 (0 : Int)), (AVal.int .u8 (0 : Int)), (AVal.int .u8 (0 : Int)), (AVal.int .u8 (0 : Int)), (AVal.int .u8 (0 : Int)), (AVal.int .u8 (0 : Int)), (AVal.int .u8 (0 : Int)), (AVal.int .u8 (0 : Int))]))))).bind fun p3 =>
    k_strconv_FormatInt_0 fuel d p3.1 p3.2.1 p3.2.2))) else ((run fuel d F_strconv_formatBits [(AVal.slice Sl.nil), (AVal.int .u64 (IntKind.wrap .u64 x0)), (AVal.int .i64 x1), (AVal.bool (decide (x0 < (0 : Int)))), (AVal.bool false)] h).bind fun r4 =>
    (bif AVal.isTup 2 r4.1 then ((AVal.comp 0 r4.1).bind fun u5 =>
    (AVal.slice? u5).bind fun s6 =>
    (AVal.comp 1 r4.1).bind fun u7 =>
    (AVal.str? u7).bind fun s8 =>
    some ((AVal.str s8), r4.2)) else none))) := by
  generalize hh : run = R
  rw [run_is] at hh
  subst hh
  generalize hh : brun = R
  rw [brun_is] at hh
  subst hh
  generalize hh : k_strconv_FormatInt_0 = R
  rw [k_strconv_FormatInt_0_is] at hh
  subst hh
  kernel_rfl

theorem k_strconv_FormatInt_0_n (fuel d : Nat) (x0 : Int) (x5 : Pt) (x6 : Int) (h : AHeap) :
    k_strconv_FormatInt_0 fuel d .normal [(0, (AVal.int .i64 x0)), (5, (AVal.ptr x5)), (6, (AVal.int .u64 x6))] h =
  (run fuel d F_strconv_numDigits [(AVal.int .u64 x6)] h).bind fun r1 =>
    (AVal.int? .i64 r1.1).bind fun n2 =>
    (Pt.mk? x5).bind fun rl3 =>
    (aHi (some (AVal.int .i64 (IntKind.wrap .i64 ((1 : Int) + n2)))) 24).bind fun hi4 =>
    (aLo (some (AVal.int .i64 (1 : Int))) hi4).bind fun lo5 =>
    (aMx (none : Option AVal) hi4).bind fun cl6 =>
    (bif (AHeap.hasSz r1.2 1 (Sl.mk rl3.1 24 false) && Nat.ble (rl3.1.off + 24 * 1) rl3.2) then ((run fuel d F_strconv_formatBase10 [(AVal.slice (Sl.mk ⟨rl3.1.id, rl3.1.gen, rl3.1.off + lo5 * 1⟩ (hi4 - lo5) cl6)), (AVal.int .u64 x6)] r1.2).bind fun r7 =>
    (bif (decide (x0 < (0 : Int))) then ((Pt.elem 1 24 (0 : Int) x5).bind fun p8 =>
    (AHeap.storeAt r7.2 [(AVal.int .u8 (45 : Int))] p8).bind fun h9 =>
    (Pt.mk? x5).bind fun rl10 =>
    (aHi (some (AVal.int .i64 (IntKind.wrap .i64 ((1 : Int) + n2)))) 24).bind fun hi11 =>
    (aLo (none : Option AVal) hi11).bind fun lo12 =>
    (aMx (none : Option AVal) hi11).bind fun cl13 =>
    (bif (AHeap.hasSz h9 1 (Sl.mk rl10.1 24 false) && Nat.ble (rl10.1.off + 24 * 1) rl10.2) then ((AHeap.sliceCells h9 1 (Sl.mk ⟨rl10.1.id, rl10.1.gen, rl10.1.off + lo12 * 1⟩ (hi11 - lo12) cl13)).bind fun c14 =>
    (bytesFrom c14).bind fun bs15 =>
    some ((AVal.str (⟨List.toArray bs15⟩ : ByteArray)), h9)) else (none))) else ((Pt.mk? x5).bind fun rl16 =>
    (aHi (some (AVal.int .i64 (IntKind.wrap .i64 ((1 : Int) + n2)))) 24).bind fun hi17 =>
    (aLo (some (AVal.int .i64 (1 : Int))) hi17).bind fun lo18 =>
    (aMx (none : Option AVal) hi17).bind fun cl19 =>
    (bif (AHeap.hasSz r7.2 1 (Sl.mk rl16.1 24 false) && Nat.ble (rl16.1.off + 24 * 1) rl16.2) then ((AHeap.sliceCells r7.2 1 (Sl.mk ⟨rl16.1.id, rl16.1.gen, rl16.1.off + lo18 * 1⟩ (hi17 - lo18) cl19)).bind fun c20 =>
    (bytesFrom c20).bind fun bs21 =>
    some ((AVal.str (⟨List.toArray bs21⟩ : ByteArray)), r7.2)) else (none))))) else (none)) := by
  generalize hh : run = R
  rw [run_is] at hh
  subst hh
  generalize hh : k_strconv_FormatInt_0 = R
  rw [k_strconv_FormatInt_0_is] at hh
  subst hh
  kernel_rfl

theorem e_strconv_log10Pow2 (fuel d : Nat) (x0 : Int) (h : AHeap) :
    brun fuel (d + 1) F_strconv_log10Pow2 [(AVal.int .i64 x0)] h =
  some ((AVal.int .i64 (Int.fdiv (IntKind.wrap .i64 (x0 * (78913 : Int))) (2 ^ min (Int.toNat (18 : Int)) (IntKind.bits .i64)))), h) := by
  generalize hh : brun = R
  rw [brun_is] at hh
  subst hh
  kernel_rfl

noncomputable def k_bits_Len64_0r (fuel d : Nat) : AExit → Fr → AHeap → Option (AVal × AHeap) := (kSeq (Cf fuel F_bits_Len64) false (acall (C fuel) false d) (acall (C fuel) true d) 25 (csub [true, true] (fbody Go.Proofs.Tryd.f120)) (asub [true, true] an120) (kRet (Cf fuel F_bits_Len64) Go.Proofs.Tryd.f120.results.toList))

noncomputable def k_bits_Len64_0 : Nat → Nat → AExit → Fr → AHeap → Option (AVal × AHeap) := hide k_bits_Len64_0r

theorem k_bits_Len64_0_is : k_bits_Len64_0 = k_bits_Len64_0r := hide_eq _

noncomputable def k_bits_Len64_1r (fuel d : Nat) : AExit → Fr → AHeap → Option (AVal × AHeap) := (kSeq (Cf fuel F_bits_Len64) false (acall (C fuel) false d) (acall (C fuel) true d) 25 (csub [true, true, true] (fbody Go.Proofs.Tryd.f120)) (asub [true, true, true] an120) (kRet (Cf fuel F_bits_Len64) Go.Proofs.Tryd.f120.results.toList))

noncomputable def k_bits_Len64_1 : Nat → Nat → AExit → Fr → AHeap → Option (AVal × AHeap) := hide k_bits_Len64_1r

theorem k_bits_Len64_1_is : k_bits_Len64_1 = k_bits_Len64_1r := hide_eq _

noncomputable def k_bits_Len64_2r (fuel d : Nat) : AExit → Fr → AHeap → Option (AVal × AHeap) := (kSeq (Cf fuel F_bits_Len64) false (acall (C fuel) false d) (acall (C fuel) true d) 25 (csub [true, true, true, true] (fbody Go.Proofs.Tryd.f120)) (asub [true, true, true, true] an120) (kRet (Cf fuel F_bits_Len64) Go.Proofs.Tryd.f120.results.toList))

noncomputable def k_bits_Len64_2 : Nat → Nat → AExit → Fr → AHeap → Option (AVal × AHeap) := hide k_bits_Len64_2r

theorem k_bits_Len64_2_is : k_bits_Len64_2 = k_bits_Len64_2r := hide_eq _

theorem e_bits_Len64 (fuel d : Nat) (x0 : Int) (h : AHeap) :
    brun fuel (d + 1) F_bits_Len64 [(AVal.int .u64 x0)] h =
  ((bif (decide ((4294967296 : Int) ≤ x0)) then (some (.normal, [(0, (AVal.int .u64 (Int.fdiv x0 (2 ^ min (Int.toNat (32 : Int)) (IntKind.bits .u64))))), (2, (AVal.int .i64 (32 : Int)))], h)) else (some (.normal, [(0, (AVal.int .u64 x0)), (2, (AVal.int .i64 (0 : Int)))], h)))).bind fun p1 =>
    k_bits_Len64_0 fuel d p1.1 p1.2.1 p1.2.2 := by
  generalize hh : brun = R
  rw [brun_is] at hh
  subst hh
  generalize hh : k_bits_Len64_0 = R
  rw [k_bits_Len64_0_is] at hh
  subst hh
  kernel_rfl

theorem k_bits_Len64_0_n (fuel d : Nat) (x0 : Int) (x2 : Int) (h : AHeap) :
    k_bits_Len64_0 fuel d .normal [(0, (AVal.int .u64 x0)), (2, (AVal.int .i64 x2))] h =
  ((bif (decide ((65536 : Int) ≤ x0)) then (some (.normal, [(0, (AVal.int .u64 (Int.fdiv x0 (2 ^ min (Int.toNat (16 : Int)) (IntKind.bits .u64))))), (2, (AVal.int .i64 (IntKind.wrap .i64 (x2 + (16 : Int)))))], h)) else (some (.normal, [(0, (AVal.int .u64 x0)), (2, (AVal.int .i64 x2))], h)))).bind fun p1 =>
    k_bits_Len64_1 fuel d p1.1 p1.2.1 p1.2.2 := by
  generalize hh : k_bits_Len64_0 = R
  rw [k_bits_Len64_0_is] at hh
  subst hh
  generalize hh : k_bits_Len64_1 = R
  rw [k_bits_Len64_1_is] at hh
  subst hh
  kernel_rfl

theorem k_bits_Len64_1_n (fuel d : Nat) (x0 : Int) (x2 : Int) (h : AHeap) :
    k_bits_Len64_1 fuel d .normal [(0, (AVal.int .u64 x0)), (2, (AVal.int .i64 x2))] h =
  ((bif (decide ((256 : Int) ≤ x0)) then (some (.normal, [(0, (AVal.int .u64 (Int.fdiv x0 (2 ^ min (Int.toNat (8 : Int)) (IntKind.bits .u64))))), (2, (AVal.int .i64 (IntKind.wrap .i64 (x2 + (8 : Int)))))], h)) else (some (.normal, [(0, (AVal.int .u64 x0)), (2, (AVal.int .i64 x2))], h)))).bind fun p1 =>
    k_bits_Len64_2 fuel d p1.1 p1.2.1 p1.2.2 := by
  generalize hh : k_bits_Len64_1 = R
  rw [k_bits_Len64_1_is] at hh
  subst hh
  generalize hh : k_bits_Len64_2 = R
  rw [k_bits_Len64_2_is] at hh
  subst hh
  kernel_rfl

theorem k_bits_Len64_2_n (fuel d : Nat) (x0 : Int) (x2 : Int) (h : AHeap) :
    k_bits_Len64_2 fuel d .normal [(0, (AVal.int .u64 x0)), (2, (AVal.int .i64 x2))] h =
  (strAt bstr_633d862b (IntKind.wrap .u8 x0)).bind fun n1 =>
    some ((AVal.int .i64 (IntKind.wrap .i64 (x2 + (IntKind.wrap .i64 n1)))), h) := by
  generalize hh : k_bits_Len64_2 = R
  rw [k_bits_Len64_2_is] at hh
  subst hh
  kernel_rfl

theorem e_strconv_bool2_int (fuel d : Nat) (x0 : Bool) (h : AHeap) :
    brun fuel (d + 1) F_strconv_bool2_int [(AVal.bool x0)] h =
  (bif x0 then (some ((AVal.int .i64 (1 : Int)), h)) else (some ((AVal.int .i64 (0 : Int)), h))) := by
  generalize hh : brun = R
  rw [brun_is] at hh
  subst hh
  kernel_rfl

theorem e_bytealg_IndexByte (fuel d : Nat) (x0 : Sl) (x1 : Int) (h : AHeap) :
    run fuel d F_bytealg_IndexByte [(AVal.slice x0), (AVal.int .u8 x1)] h =
  (AHeap.sliceCells h 1 x0).bind fun c1 => (bytesFrom c1).bind fun b2 => some ((AVal.int .i64 (Lib.indexByte b2 (Int.toNat x1).toUInt8)), h) := by
  generalize hh : run = R
  rw [run_is] at hh
  subst hh
  cases d <;> kernel_rfl

end Go.Proofs.YtdkckkhghghhdaaDoor
