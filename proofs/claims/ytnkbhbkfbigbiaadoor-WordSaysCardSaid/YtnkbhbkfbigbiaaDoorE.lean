/-
  What each function does: printed by program, checked by the kernel.
-/
import Derived.Test.YtnkbhbkfbigbiaaDoorCtx
namespace Go.Proofs.YtnkbhbkfbigbiaaDoor
set_option linter.unusedVariables false
set_option maxRecDepth 100000

/-! 11: skolem/skolemlaw3.WordSays -/

noncomputable def s_skolemlaw3_WordSays_0 (fuel d : Nat) : Run := fun fr h k => aexec (Cf fuel F_skolemlaw3_WordSays) false (acall (C fuel) false d) (acall (C fuel) true d) 163 (csub [true, true, true, true, true, true, true, false, true, false, false] (fbody Go.Proofs.Tryd.f11)) (asub [true, true, true, true, true, true, true, false, true, false, false] an11) fr h k

noncomputable def l_skolemlaw3_WordSays_0r (fuel d : Nat) (n : Nat) (fr : Fr) (h : AHeap) : Option (AExit × Fr × AHeap) := aloop (s_skolemlaw3_WordSays_0 fuel d) (some [0, 2, 3, 9, 10, 11, 12]) n fr h (kOut [0, 2, 3, 8, 9])

noncomputable def l_skolemlaw3_WordSays_0 : Nat → Nat → Nat → Fr → AHeap → Option (AExit × Fr × AHeap) := hide l_skolemlaw3_WordSays_0r

theorem l_skolemlaw3_WordSays_0_is : l_skolemlaw3_WordSays_0 = l_skolemlaw3_WordSays_0r := hide_eq _

noncomputable def k_skolemlaw3_WordSays_0r (fuel d : Nat) : AExit → Fr → AHeap → Option (AVal × AHeap) := (kBlock 0 (kSeq (Cf fuel F_skolemlaw3_WordSays) false (acall (C fuel) false d) (acall (C fuel) true d) 163 (csub [true, true, true, true, true, true, true, true] (fbody Go.Proofs.Tryd.f11)) (asub [true, true, true, true, true, true, true, true] an11) (kRet (Cf fuel F_skolemlaw3_WordSays) Go.Proofs.Tryd.f11.results.toList)))

noncomputable def k_skolemlaw3_WordSays_0 : Nat → Nat → AExit → Fr → AHeap → Option (AVal × AHeap) := hide k_skolemlaw3_WordSays_0r

theorem k_skolemlaw3_WordSays_0_is : k_skolemlaw3_WordSays_0 = k_skolemlaw3_WordSays_0r := hide_eq _

noncomputable def k_skolemlaw3_WordSays_1r (fuel d : Nat) (n : Nat) : AExit → Fr → AHeap → Option (AExit × Fr × AHeap) := (kSeq (Cf fuel F_skolemlaw3_WordSays) false (acall (C fuel) false d) (acall (C fuel) true d) 163 (csub [true, true, true, true, true, true, true, false, true, false, false, true, false, false, true] (fbody Go.Proofs.Tryd.f11)) (asub [true, true, true, true, true, true, true, false, true, false, false, true, false, false, true] an11) (kBlock 1 (kSeq (Cf fuel F_skolemlaw3_WordSays) false (acall (C fuel) false d) (acall (C fuel) true d) 163 (csub [true, true, true, true, true, true, true, false, true, false, false, true, true] (fbody Go.Proofs.Tryd.f11)) (asub [true, true, true, true, true, true, true, false, true, false, false, true, true] an11) (kLoop (s_skolemlaw3_WordSays_0 fuel d) (some [0, 2, 3, 9, 10, 11, 12]) n (kOut [0, 2, 3, 8, 9])))))

noncomputable def k_skolemlaw3_WordSays_1 : Nat → Nat → Nat → AExit → Fr → AHeap → Option (AExit × Fr × AHeap) := hide k_skolemlaw3_WordSays_1r

theorem k_skolemlaw3_WordSays_1_is : k_skolemlaw3_WordSays_1 = k_skolemlaw3_WordSays_1r := hide_eq _

theorem e_skolemlaw3_WordSays (fuel d : Nat) (x0 : Sl) (x1 : Bool) (x2 : ByteArray) (x3 : Int) (h : AHeap) :
    run fuel (d + 1) F_skolemlaw3_WordSays [(AVal.slice x0), (AVal.bool x1), (AVal.str x2), (AVal.int .i64 x3)] h =
  (run fuel d F_skolemlaw3_first [] h).bind fun r1 =>
    (AVal.bool? r1.1).bind fun b2 =>
    (bif (!b2) then (some ((AVal.bool false), r1.2)) else ((bif (bif (decide ((300 : Int) < ((x0.len : Nat) : Int))) then true else (decide ((60 : Int) < ((ByteArray.size x2 : Nat) : Int)))) then (some ((AVal.bool b2), r1.2)) else ((run fuel d F_word_Split [(AVal.slice x0), (AVal.bool x1)] r1.2).bind fun r3 =>
    (AVal.slice? r3.1).bind fun s4 =>
    (run fuel d F_skolemref1_Split [(AVal.slice x0), (AVal.bool x1)] r3.2).bind fun r5 =>
    (AVal.slice? r5.1).bind fun s6 =>
    (bif (!decide (((s4.len : Nat) : Int) = ((s6.len : Nat) : Int))) then (some ((AVal.bool false), r5.2)) else ((l_skolemlaw3_WordSays_0 fuel d fuel [(0, (AVal.slice x0)), (2, (AVal.str x2)), (3, (AVal.int .i64 x3)), (9, (AVal.bool b2)), (10, (AVal.slice s4)), (11, (AVal.slice s6)), (12, (AVal.int .i64 (0 : Int)))] r5.2).bind fun p7 =>
    k_skolemlaw3_WordSays_0 fuel d p7.1 p7.2.1 p7.2.2)))))) := by
  generalize hh : run = R
  rw [run_is] at hh
  subst hh
  generalize hh : l_skolemlaw3_WordSays_0 = R
  rw [l_skolemlaw3_WordSays_0_is] at hh
  subst hh
  generalize hh : k_skolemlaw3_WordSays_0 = R
  rw [k_skolemlaw3_WordSays_0_is] at hh
  subst hh
  kernel_rfl

theorem l_skolemlaw3_WordSays_0_eq (fuel d : Nat) (n : Nat) (x0 : Sl) (x2 : ByteArray) (x3 : Int) (x9 : Bool) (x10 : Sl) (x11 : Sl) (x12 : Int) (h : AHeap) :
    l_skolemlaw3_WordSays_0 fuel d (n + 1) [(0, (AVal.slice x0)), (2, (AVal.str x2)), (3, (AVal.int .i64 x3)), (9, (AVal.bool x9)), (10, (AVal.slice x10)), (11, (AVal.slice x11)), (12, (AVal.int .i64 x12))] h =
  (bif (decide (x12 < ((x10.len : Nat) : Int))) then (((AHeap.addr h 3 x10 x12).bind fun p1 =>
    (Pt.field 0 p1).bind fun p2 =>
    (AHeap.cell h p2).bind fun u3 =>
    (AVal.str? u3).bind fun s4 =>
    (AHeap.addr h 3 x11 x12).bind fun p5 =>
    (Pt.field 0 p5).bind fun p6 =>
    (AHeap.cell h p6).bind fun u7 =>
    (AVal.str? u7).bind fun s8 =>
    (bif (!decide (s4 = s8)) then (some (.normal, [(0, (AVal.slice x0)), (2, (AVal.str x2)), (3, (AVal.int .i64 x3)), (9, (AVal.bool x9)), (10, (AVal.slice x10)), (11, (AVal.slice x11)), (12, (AVal.int .i64 x12)), (92, (AVal.bool true))], h)) else ((AHeap.addr h 3 x10 x12).bind fun p9 =>
    (Pt.field 1 p9).bind fun p10 =>
    (AHeap.cell h p10).bind fun u11 =>
    (AVal.int? .i64 u11).bind fun n12 =>
    (AHeap.addr h 3 x11 x12).bind fun p13 =>
    (Pt.field 1 p13).bind fun p14 =>
    (AHeap.cell h p14).bind fun u15 =>
    (AVal.int? .i64 u15).bind fun n16 =>
    (bif (!decide (n12 = n16)) then (some (.normal, [(0, (AVal.slice x0)), (2, (AVal.str x2)), (3, (AVal.int .i64 x3)), (9, (AVal.bool x9)), (10, (AVal.slice x10)), (11, (AVal.slice x11)), (12, (AVal.int .i64 x12)), (92, (AVal.bool true))], h)) else ((AHeap.addr h 3 x10 x12).bind fun p17 =>
    (Pt.field 2 p17).bind fun p18 =>
    (AHeap.cell h p18).bind fun u19 =>
    (AVal.bool? u19).bind fun b20 =>
    (AHeap.addr h 3 x11 x12).bind fun p21 =>
    (Pt.field 2 p21).bind fun p22 =>
    (AHeap.cell h p22).bind fun u23 =>
    (AVal.bool? u23).bind fun b24 =>
    some (.normal, [(0, (AVal.slice x0)), (2, (AVal.str x2)), (3, (AVal.int .i64 x3)), (9, (AVal.bool x9)), (10, (AVal.slice x10)), (11, (AVal.slice x11)), (12, (AVal.int .i64 x12)), (92, (AVal.bool (!(b20 == b24))))], h)))))).bind fun p25 =>
    k_skolemlaw3_WordSays_1 fuel d n p25.1 p25.2.1 p25.2.2) else (some ((.exit 0), [(0, (AVal.slice x0)), (2, (AVal.str x2)), (3, (AVal.int .i64 x3)), (8, AVal.bot), (9, (AVal.bool x9))], h))) := by
  generalize hh : l_skolemlaw3_WordSays_0 = R
  rw [l_skolemlaw3_WordSays_0_is] at hh
  subst hh
  generalize hh : k_skolemlaw3_WordSays_1 = R
  rw [k_skolemlaw3_WordSays_1_is] at hh
  subst hh
  kernel_rfl

theorem l_skolemlaw3_WordSays_0_0 (fuel d : Nat) (fr : Fr) (h : AHeap) :
    l_skolemlaw3_WordSays_0 fuel d 0 fr h =
  none := by
  generalize hh : l_skolemlaw3_WordSays_0 = R
  rw [l_skolemlaw3_WordSays_0_is] at hh
  subst hh
  kernel_rfl

theorem k_skolemlaw3_WordSays_0_x0 (fuel d : Nat) (x0 : Sl) (x2 : ByteArray) (x3 : Int) (x8 : AVal) (x9 : Bool) (h : AHeap) :
    k_skolemlaw3_WordSays_0 fuel d (.exit 0) [(0, (AVal.slice x0)), (2, (AVal.str x2)), (3, (AVal.int .i64 x3)), (8, x8), (9, (AVal.bool x9))] h =
  (run fuel d F_word_Number [(AVal.str x2)] h).bind fun r1 =>
    (bif AVal.isTup 2 r1.1 then ((AVal.comp 0 r1.1).bind fun u2 =>
    (AVal.int? .i64 u2).bind fun n3 =>
    (AVal.comp 1 r1.1).bind fun u4 =>
    (AVal.bool? u4).bind fun b5 =>
    (run fuel d F_skolemref1_Number [(AVal.str x2)] r1.2).bind fun r6 =>
    (bif AVal.isTup 2 r6.1 then ((AVal.comp 0 r6.1).bind fun u7 =>
    (AVal.int? .i64 u7).bind fun n8 =>
    (AVal.comp 1 r6.1).bind fun u9 =>
    (AVal.bool? u9).bind fun b10 =>
    (run fuel d F_word_Bits [(AVal.str x2)] r6.2).bind fun r11 =>
    (bif AVal.isTup 2 r11.1 then ((AVal.comp 0 r11.1).bind fun u12 =>
    (AVal.slice? u12).bind fun s13 =>
    (AVal.comp 1 r11.1).bind fun u14 =>
    (AVal.bool? u14).bind fun b15 =>
    (run fuel d F_skolemref1_Bits [(AVal.str x2)] r11.2).bind fun r16 =>
    (bif AVal.isTup 2 r16.1 then ((AVal.comp 0 r16.1).bind fun u17 =>
    (AVal.slice? u17).bind fun s18 =>
    (AVal.comp 1 r16.1).bind fun u19 =>
    (AVal.bool? u19).bind fun b20 =>
    (run fuel d F_word_Line [(AVal.slice x0), (AVal.int .i64 x3)] r16.2).bind fun r21 =>
    (bif AVal.isTup 3 r21.1 then ((AVal.comp 0 r21.1).bind fun u22 =>
    (AVal.str? u22).bind fun s23 =>
    (AVal.comp 1 r21.1).bind fun u24 =>
    (AVal.int? .i64 u24).bind fun n25 =>
    (AVal.comp 2 r21.1).bind fun u26 =>
    (AVal.bool? u26).bind fun b27 =>
    (run fuel d F_skolemref1_Line [(AVal.slice x0), (AVal.int .i64 x3)] r21.2).bind fun r28 =>
    (bif AVal.isTup 3 r28.1 then ((AVal.comp 0 r28.1).bind fun u29 =>
    (AVal.str? u29).bind fun s30 =>
    (AVal.comp 1 r28.1).bind fun u31 =>
    (AVal.int? .i64 u31).bind fun n32 =>
    (AVal.comp 2 r28.1).bind fun u33 =>
    (AVal.bool? u33).bind fun b34 =>
    ((bif ((bif (bif x9 then (decide (n3 = n8)) else false) then (b5 == b10) else false) == true) then ((run fuel d F_skolemref_SameBools [(AVal.slice s13), (AVal.slice s18)] r28.2).bind fun r35 =>
    (AVal.bool? r35.1).bind fun b36 =>
    some ((AVal.bool b36), r35.2)) else (some ((AVal.bool false), r28.2)) : Option (AVal × AHeap))).bind fun r37 =>
    (AVal.bool? r37.1).bind fun b38 =>
    some ((AVal.bool (bif (bif (bif (bif b38 then (b15 == b20) else false) then (decide (s23 = s30)) else false) then (decide (n25 = n32)) else false) then (b27 == b34) else false)), r37.2)) else none)) else none)) else none)) else none)) else none)) else none) := by
  generalize hh : run = R
  rw [run_is] at hh
  subst hh
  generalize hh : k_skolemlaw3_WordSays_0 = R
  rw [k_skolemlaw3_WordSays_0_is] at hh
  subst hh
  kernel_rfl

theorem k_skolemlaw3_WordSays_0_r (fuel d : Nat) (x0 : AVal) (x2 : AVal) (x3 : AVal) (x8 : Bool) (x9 : AVal) (h : AHeap) :
    k_skolemlaw3_WordSays_0 fuel d .ret [(0, x0), (2, x2), (3, x3), (8, (AVal.bool x8)), (9, x9)] h =
  some ((AVal.bool x8), h) := by
  generalize hh : k_skolemlaw3_WordSays_0 = R
  rw [k_skolemlaw3_WordSays_0_is] at hh
  subst hh
  kernel_rfl

theorem k_skolemlaw3_WordSays_1_n (fuel d : Nat) (n : Nat) (x0 : Sl) (x2 : ByteArray) (x3 : Int) (x9 : Bool) (x10 : Sl) (x11 : Sl) (x12 : Int) (x92 : Bool) (h : AHeap) :
    k_skolemlaw3_WordSays_1 fuel d n .normal [(0, (AVal.slice x0)), (2, (AVal.str x2)), (3, (AVal.int .i64 x3)), (9, (AVal.bool x9)), (10, (AVal.slice x10)), (11, (AVal.slice x11)), (12, (AVal.int .i64 x12)), (92, (AVal.bool x92))] h =
  (bif x92 then (some (.ret, [(0, (AVal.slice x0)), (2, (AVal.str x2)), (3, (AVal.int .i64 x3)), (8, (AVal.bool false)), (9, (AVal.bool x9))], h)) else (l_skolemlaw3_WordSays_0 fuel d n [(0, (AVal.slice x0)), (2, (AVal.str x2)), (3, (AVal.int .i64 x3)), (9, (AVal.bool x9)), (10, (AVal.slice x10)), (11, (AVal.slice x11)), (12, (AVal.int .i64 (IntKind.wrap .i64 (x12 + (1 : Int)))))] h)) := by
  generalize hh : l_skolemlaw3_WordSays_0 = R
  rw [l_skolemlaw3_WordSays_0_is] at hh
  subst hh
  generalize hh : k_skolemlaw3_WordSays_1 = R
  rw [k_skolemlaw3_WordSays_1_is] at hh
  subst hh
  kernel_rfl

/-! 57: skolem/skolemlaw3.first -/

theorem e_skolemlaw3_first (fuel d : Nat)  (h : AHeap) :
    brun fuel (d + 1) F_skolemlaw3_first [] h =
  (bif (AHeap.ownAt (AHeap.push h 1 [(AVal.int .u8 (97 : Int)), (AVal.int .u8 (32 : Int)), (AVal.int .u8 (98 : Int))]) (AHeap.next h)) then ((run fuel d F_word_Split [(AVal.slice (Sl.mk ⟨AHeap.next h, 0, 0⟩ 3 true)), (AVal.bool false)] (AHeap.push h 1 [(AVal.int .u8 (97 : Int)), (AVal.int .u8 (32 : Int)), (AVal.int .u8 (98 : Int))])).bind fun r1 =>
    (AVal.slice? r1.1).bind fun s2 =>
    ((bif ((decide (((s2.len : Nat) : Int) = (2 : Int))) == true) then ((AHeap.addr r1.2 3 s2 (1 : Int)).bind fun p3 =>
    (Pt.field 1 p3).bind fun p4 =>
    (AHeap.cell r1.2 p4).bind fun u5 =>
    (AVal.int? .i64 u5).bind fun n6 =>
    some ((AVal.bool (decide (n6 = (2 : Int)))), r1.2)) else (some ((AVal.bool false), r1.2)) : Option (AVal × AHeap))).bind fun r7 =>
    (AVal.bool? r7.1).bind fun b8 =>
    ((bif (b8 == true) then ((AHeap.addr r7.2 3 s2 (0 : Int)).bind fun p9 =>
    (Pt.field 2 p9).bind fun p10 =>
    (AHeap.cell r7.2 p10).bind fun u11 =>
    (AVal.bool? u11).bind fun b12 =>
    some ((AVal.bool b12), r7.2)) else (some ((AVal.bool false), r7.2)) : Option (AVal × AHeap))).bind fun r13 =>
    (AVal.bool? r13.1).bind fun b14 =>
    ((bif (b14 == true) then ((AHeap.addr r13.2 3 s2 (1 : Int)).bind fun p15 =>
    (Pt.field 2 p15).bind fun p16 =>
    (AHeap.cell r13.2 p16).bind fun u17 =>
    (AVal.bool? u17).bind fun b18 =>
    some ((AVal.bool (!b18)), r13.2)) else (some ((AVal.bool false), r13.2)) : Option (AVal × AHeap))).bind fun r19 =>
    (AVal.bool? r19.1).bind fun b20 =>
    some ((AVal.bool b20), r19.2)) else (none)) := by
  generalize hh : run = R
  rw [run_is] at hh
  subst hh
  generalize hh : brun = R
  rw [brun_is] at hh
  subst hh
  kernel_rfl

/-! 58: skolem/word.Split -/

noncomputable def s_word_Split_0 (fuel d : Nat) : Run := fun fr h k => aexec (Cf fuel F_word_Split) false (acall (C fuel) false d) (acall (C fuel) true d) 54 (csub [true, true, false, true, false, false] (fbody Go.Proofs.Tryd.f58)) (asub [true, true, false, true, false, false] an58) fr h k

noncomputable def l_word_Split_0r (fuel d : Nat) (n : Nat) (fr : Fr) (h : AHeap) : Option (AExit × Fr × AHeap) := aloop (s_word_Split_0 fuel d) (some [0, 1, 5, 6]) n fr h (kOut [5])

noncomputable def l_word_Split_0 : Nat → Nat → Nat → Fr → AHeap → Option (AExit × Fr × AHeap) := hide l_word_Split_0r

theorem l_word_Split_0_is : l_word_Split_0 = l_word_Split_0r := hide_eq _

noncomputable def k_word_Split_0r (fuel d : Nat) : AExit → Fr → AHeap → Option (AVal × AHeap) := (kBlock 0 (kSeq (Cf fuel F_word_Split) false (acall (C fuel) false d) (acall (C fuel) true d) 54 (csub [true, true, true] (fbody Go.Proofs.Tryd.f58)) (asub [true, true, true] an58) (kRet (Cf fuel F_word_Split) Go.Proofs.Tryd.f58.results.toList)))

noncomputable def k_word_Split_0 : Nat → Nat → AExit → Fr → AHeap → Option (AVal × AHeap) := hide k_word_Split_0r

theorem k_word_Split_0_is : k_word_Split_0 = k_word_Split_0r := hide_eq _

noncomputable def k_word_Split_1r (fuel d : Nat) (n : Nat) : AExit → Fr → AHeap → Option (AExit × Fr × AHeap) := (kSeq (Cf fuel F_word_Split) false (acall (C fuel) false d) (acall (C fuel) true d) 54 (csub [true, true, false, true, false, false, true, false, true, true] (fbody Go.Proofs.Tryd.f58)) (asub [true, true, false, true, false, false, true, false, true, true] an58) (kBlock 1 (kLoop (s_word_Split_0 fuel d) (some [0, 1, 5, 6]) n (kOut [5]))))

noncomputable def k_word_Split_1 : Nat → Nat → Nat → AExit → Fr → AHeap → Option (AExit × Fr × AHeap) := hide k_word_Split_1r

theorem k_word_Split_1_is : k_word_Split_1 = k_word_Split_1r := hide_eq _

theorem e_word_Split (fuel d : Nat) (x0 : Sl) (x1 : Bool) (h : AHeap) :
    brun fuel (d + 1) F_word_Split [(AVal.slice x0), (AVal.bool x1)] h =
  (l_word_Split_0 fuel d fuel [(0, (AVal.slice x0)), (1, (AVal.bool x1)), (5, (AVal.slice Sl.nil)), (6, (AVal.int .i64 (0 : Int)))] h).bind fun p1 =>
    k_word_Split_0 fuel d p1.1 p1.2.1 p1.2.2 := by
  generalize hh : brun = R
  rw [brun_is] at hh
  subst hh
  generalize hh : l_word_Split_0 = R
  rw [l_word_Split_0_is] at hh
  subst hh
  generalize hh : k_word_Split_0 = R
  rw [k_word_Split_0_is] at hh
  subst hh
  kernel_rfl

theorem l_word_Split_0_eq (fuel d : Nat) (n : Nat) (x0 : Sl) (x1 : Bool) (x5 : Sl) (x6 : Int) (h : AHeap) :
    l_word_Split_0 fuel d (n + 1) [(0, (AVal.slice x0)), (1, (AVal.bool x1)), (5, (AVal.slice x5)), (6, (AVal.int .i64 x6))] h =
  (bif (decide (x6 < ((x0.len : Nat) : Int))) then ((aHi (none : Option AVal) (Sl.len x0)).bind fun hi1 =>
    (aLo (some (AVal.int .i64 x6)) hi1).bind fun lo2 =>
    (aMx (none : Option AVal) hi1).bind fun cl3 =>
    (bif (AHeap.hasSz h 1 x0) then ((run fuel d F_bytes_IndexByte [(AVal.slice (Sl.cut x0 1 lo2 hi1 cl3)), (AVal.int .u8 (10 : Int))] h).bind fun r4 =>
    (AVal.int? .i64 r4.1).bind fun n5 =>
    ((bif (decide (n5 < (0 : Int))) then (some (.normal, [(0, (AVal.slice x0)), (1, (AVal.bool x1)), (5, (AVal.slice x5)), (6, (AVal.int .i64 x6)), (7, (AVal.int .i64 (IntKind.wrap .i64 (((x0.len : Nat) : Int) - x6))))], r4.2)) else (some (.normal, [(0, (AVal.slice x0)), (1, (AVal.bool x1)), (5, (AVal.slice x5)), (6, (AVal.int .i64 x6)), (7, (AVal.int .i64 n5))], r4.2)))).bind fun p6 =>
    k_word_Split_1 fuel d n p6.1 p6.2.1 p6.2.2) else (none))) else (some ((.exit 0), [(5, (AVal.slice x5))], h))) := by
  generalize hh : run = R
  rw [run_is] at hh
  subst hh
  generalize hh : l_word_Split_0 = R
  rw [l_word_Split_0_is] at hh
  subst hh
  generalize hh : k_word_Split_1 = R
  rw [k_word_Split_1_is] at hh
  subst hh
  kernel_rfl

theorem l_word_Split_0_0 (fuel d : Nat) (fr : Fr) (h : AHeap) :
    l_word_Split_0 fuel d 0 fr h =
  none := by
  generalize hh : l_word_Split_0 = R
  rw [l_word_Split_0_is] at hh
  subst hh
  kernel_rfl

theorem k_word_Split_0_x0 (fuel d : Nat) (x5 : Sl) (h : AHeap) :
    k_word_Split_0 fuel d (.exit 0) [(5, (AVal.slice x5))] h =
  some ((AVal.slice x5), h) := by
  generalize hh : k_word_Split_0 = R
  rw [k_word_Split_0_is] at hh
  subst hh
  kernel_rfl

theorem k_word_Split_1_n (fuel d : Nat) (n : Nat) (x0 : Sl) (x1 : Bool) (x5 : Sl) (x6 : Int) (x7 : Int) (h : AHeap) :
    k_word_Split_1 fuel d n .normal [(0, (AVal.slice x0)), (1, (AVal.bool x1)), (5, (AVal.slice x5)), (6, (AVal.int .i64 x6)), (7, (AVal.int .i64 x7))] h =
  (aHi (some (AVal.int .i64 (IntKind.wrap .i64 (x6 + x7)))) (Sl.len x0)).bind fun hi1 =>
    (aLo (some (AVal.int .i64 x6)) hi1).bind fun lo2 =>
    (aMx (none : Option AVal) hi1).bind fun cl3 =>
    (bif (AHeap.hasSz h 1 x0) then ((run fuel d F_word_line [(AVal.slice (Sl.cut x0 1 lo2 hi1 cl3)), (AVal.int .i64 x6)] h).bind fun r4 =>
    (AVal.slice? r4.1).bind fun s5 =>
    ((bif ((bif (!x1) then true else (decide (((s5.len : Nat) : Int) = (0 : Int)))) == false) then ((AHeap.addr r4.2 3 s5 (0 : Int)).bind fun p6 =>
    (Pt.field 0 p6).bind fun p7 =>
    (AHeap.cell r4.2 p7).bind fun u8 =>
    (AVal.str? u8).bind fun s9 =>
    (strAt s9 (0 : Int)).bind fun n10 =>
    some ((AVal.bool (!decide (n10 = (99 : Int)))), r4.2)) else (some ((AVal.bool true), r4.2)) : Option (AVal × AHeap))).bind fun r11 =>
    (AVal.bool? r11.1).bind fun b12 =>
    (bif b12 then ((AHeap.sliceCells r11.2 3 s5).bind fun xs13 =>
    (AHeap.append r11.2 false 3 32 x5 s5.len xs13).bind fun a14 =>
    l_word_Split_0 fuel d n [(0, (AVal.slice x0)), (1, (AVal.bool x1)), (5, (AVal.slice a14.1)), (6, (AVal.int .i64 (IntKind.wrap .i64 (x6 + (IntKind.wrap .i64 (x7 + (1 : Int)))))))] a14.2) else (l_word_Split_0 fuel d n [(0, (AVal.slice x0)), (1, (AVal.bool x1)), (5, (AVal.slice x5)), (6, (AVal.int .i64 (IntKind.wrap .i64 (x6 + (IntKind.wrap .i64 (x7 + (1 : Int)))))))] r11.2))) else (none)) := by
  generalize hh : run = R
  rw [run_is] at hh
  subst hh
  generalize hh : l_word_Split_0 = R
  rw [l_word_Split_0_is] at hh
  subst hh
  generalize hh : k_word_Split_1 = R
  rw [k_word_Split_1_is] at hh
  subst hh
  kernel_rfl

/-! 59: skolem/skolemref1.Split -/

noncomputable def s_skolemref1_Split_0 (fuel d : Nat) : Run := fun fr h k => aexec (Cf fuel F_skolemref1_Split) false (acall (C fuel) false d) (acall (C fuel) true d) 78 (csub [true, true, true, true, false, true, false, false] (fbody Go.Proofs.Tryd.f59)) (asub [true, true, true, true, false, true, false, false] an59) fr h k

noncomputable def l_skolemref1_Split_0r (fuel d : Nat) (n : Nat) (fr : Fr) (h : AHeap) : Option (AExit × Fr × AHeap) := aloop (s_skolemref1_Split_0 fuel d) (some [0, 1, 5, 6, 7, 8]) n fr h (kOut [5])

noncomputable def l_skolemref1_Split_0 : Nat → Nat → Nat → Fr → AHeap → Option (AExit × Fr × AHeap) := hide l_skolemref1_Split_0r

theorem l_skolemref1_Split_0_is : l_skolemref1_Split_0 = l_skolemref1_Split_0r := hide_eq _

noncomputable def k_skolemref1_Split_0r (fuel d : Nat) : AExit → Fr → AHeap → Option (AVal × AHeap) := (kBlock 0 (kSeq (Cf fuel F_skolemref1_Split) false (acall (C fuel) false d) (acall (C fuel) true d) 78 (csub [true, true, true, true, true] (fbody Go.Proofs.Tryd.f59)) (asub [true, true, true, true, true] an59) (kRet (Cf fuel F_skolemref1_Split) Go.Proofs.Tryd.f59.results.toList)))

noncomputable def k_skolemref1_Split_0 : Nat → Nat → AExit → Fr → AHeap → Option (AVal × AHeap) := hide k_skolemref1_Split_0r

theorem k_skolemref1_Split_0_is : k_skolemref1_Split_0 = k_skolemref1_Split_0r := hide_eq _

noncomputable def s_skolemref1_Split_1 (fuel d : Nat) : Run := fun fr h k => aexec (Cf fuel F_skolemref1_Split) false (acall (C fuel) false d) (acall (C fuel) true d) 78 (csub [true, true, true, true, false, true, false, false, true, false, false, true, true, true, true, true, false, false, false] (fbody Go.Proofs.Tryd.f59)) (asub [true, true, true, true, false, true, false, false, true, false, false, true, true, true, true, true, false, false, false] an59) fr h k

noncomputable def l_skolemref1_Split_1r (fuel d : Nat) (n : Nat) (fr : Fr) (h : AHeap) : Option (AExit × Fr × AHeap) := aloop (s_skolemref1_Split_1 fuel d) (some [0, 1, 5, 6, 7, 8, 9]) n fr h (kOut [0, 1, 5, 6, 7, 8, 9])

noncomputable def l_skolemref1_Split_1 : Nat → Nat → Nat → Fr → AHeap → Option (AExit × Fr × AHeap) := hide l_skolemref1_Split_1r

theorem l_skolemref1_Split_1_is : l_skolemref1_Split_1 = l_skolemref1_Split_1r := hide_eq _

noncomputable def k_skolemref1_Split_1r (fuel d : Nat) (n : Nat) : AExit → Fr → AHeap → Option (AExit × Fr × AHeap) := (kBlock 3 (kSeq (Cf fuel F_skolemref1_Split) false (acall (C fuel) false d) (acall (C fuel) true d) 78 (csub [true, true, true, true, false, true, false, false, true, false, false, true, true, true, true, true, true] (fbody Go.Proofs.Tryd.f59)) (asub [true, true, true, true, false, true, false, false, true, false, false, true, true, true, true, true, true] an59) (kBlock 2 (kBlock 1 (kLoop (s_skolemref1_Split_0 fuel d) (some [0, 1, 5, 6, 7, 8]) n (kOut [5]))))))

noncomputable def k_skolemref1_Split_1 : Nat → Nat → Nat → AExit → Fr → AHeap → Option (AExit × Fr × AHeap) := hide k_skolemref1_Split_1r

theorem k_skolemref1_Split_1_is : k_skolemref1_Split_1 = k_skolemref1_Split_1r := hide_eq _

noncomputable def k_skolemref1_Split_2r (fuel d : Nat) (n : Nat) : AExit → Fr → AHeap → Option (AExit × Fr × AHeap) := (kSeq (Cf fuel F_skolemref1_Split) false (acall (C fuel) false d) (acall (C fuel) true d) 78 (csub [true, true, true, true, false, true, false, false, true, false, false, true, true, true, true, true, true, true] (fbody Go.Proofs.Tryd.f59)) (asub [true, true, true, true, false, true, false, false, true, false, false, true, true, true, true, true, true, true] an59) (kBlock 2 (kBlock 1 (kLoop (s_skolemref1_Split_0 fuel d) (some [0, 1, 5, 6, 7, 8]) n (kOut [5])))))

noncomputable def k_skolemref1_Split_2 : Nat → Nat → Nat → AExit → Fr → AHeap → Option (AExit × Fr × AHeap) := hide k_skolemref1_Split_2r

theorem k_skolemref1_Split_2_is : k_skolemref1_Split_2 = k_skolemref1_Split_2r := hide_eq _

theorem e_skolemref1_Split (fuel d : Nat) (x0 : Sl) (x1 : Bool) (h : AHeap) :
    brun fuel (d + 1) F_skolemref1_Split [(AVal.slice x0), (AVal.bool x1)] h =
  (l_skolemref1_Split_0 fuel d fuel [(0, (AVal.slice x0)), (1, (AVal.bool x1)), (5, (AVal.slice Sl.nil)), (6, (AVal.bool true)), (7, (AVal.bool false)), (8, (AVal.int .i64 (0 : Int)))] h).bind fun p1 =>
    k_skolemref1_Split_0 fuel d p1.1 p1.2.1 p1.2.2 := by
  generalize hh : brun = R
  rw [brun_is] at hh
  subst hh
  generalize hh : l_skolemref1_Split_0 = R
  rw [l_skolemref1_Split_0_is] at hh
  subst hh
  generalize hh : k_skolemref1_Split_0 = R
  rw [k_skolemref1_Split_0_is] at hh
  subst hh
  kernel_rfl

theorem l_skolemref1_Split_0_eq (fuel d : Nat) (n : Nat) (x0 : Sl) (x1 : Bool) (x5 : Sl) (x6 : Bool) (x7 : Bool) (x8 : Int) (h : AHeap) :
    l_skolemref1_Split_0 fuel d (n + 1) [(0, (AVal.slice x0)), (1, (AVal.bool x1)), (5, (AVal.slice x5)), (6, (AVal.bool x6)), (7, (AVal.bool x7)), (8, (AVal.int .i64 x8))] h =
  (bif (decide (x8 < ((x0.len : Nat) : Int))) then ((AHeap.addr h 1 x0 x8).bind fun p1 =>
    (AHeap.cell h p1).bind fun u2 =>
    (AVal.int? .u8 u2).bind fun n3 =>
    (bif (decide (n3 = (10 : Int))) then (l_skolemref1_Split_0 fuel d n [(0, (AVal.slice x0)), (1, (AVal.bool x1)), (5, (AVal.slice x5)), (6, (AVal.bool true)), (7, (AVal.bool false)), (8, (AVal.int .i64 (IntKind.wrap .i64 (x8 + (1 : Int)))))] h) else ((AHeap.addr h 1 x0 x8).bind fun p4 =>
    (AHeap.cell h p4).bind fun u5 =>
    (AVal.int? .u8 u5).bind fun n6 =>
    (run fuel d F_skolemref1_blank [(AVal.int .u8 n6)] h).bind fun r7 =>
    (AVal.bool? r7.1).bind fun b8 =>
    (bif b8 then (l_skolemref1_Split_0 fuel d n [(0, (AVal.slice x0)), (1, (AVal.bool x1)), (5, (AVal.slice x5)), (6, (AVal.bool x6)), (7, (AVal.bool x7)), (8, (AVal.int .i64 (IntKind.wrap .i64 (x8 + (1 : Int)))))] r7.2) else ((l_skolemref1_Split_1 fuel d fuel [(0, (AVal.slice x0)), (1, (AVal.bool x1)), (5, (AVal.slice x5)), (6, (AVal.bool x6)), (7, (AVal.bool x7)), (8, (AVal.int .i64 x8)), (9, (AVal.int .i64 x8))] r7.2).bind fun p9 =>
    k_skolemref1_Split_1 fuel d n p9.1 p9.2.1 p9.2.2))))) else (some ((.exit 0), [(5, (AVal.slice x5))], h))) := by
  generalize hh : run = R
  rw [run_is] at hh
  subst hh
  generalize hh : l_skolemref1_Split_0 = R
  rw [l_skolemref1_Split_0_is] at hh
  subst hh
  generalize hh : l_skolemref1_Split_1 = R
  rw [l_skolemref1_Split_1_is] at hh
  subst hh
  generalize hh : k_skolemref1_Split_1 = R
  rw [k_skolemref1_Split_1_is] at hh
  subst hh
  kernel_rfl

theorem l_skolemref1_Split_0_0 (fuel d : Nat) (fr : Fr) (h : AHeap) :
    l_skolemref1_Split_0 fuel d 0 fr h =
  none := by
  generalize hh : l_skolemref1_Split_0 = R
  rw [l_skolemref1_Split_0_is] at hh
  subst hh
  kernel_rfl

theorem k_skolemref1_Split_0_x0 (fuel d : Nat) (x5 : Sl) (h : AHeap) :
    k_skolemref1_Split_0 fuel d (.exit 0) [(5, (AVal.slice x5))] h =
  some ((AVal.slice x5), h) := by
  generalize hh : k_skolemref1_Split_0 = R
  rw [k_skolemref1_Split_0_is] at hh
  subst hh
  kernel_rfl

theorem l_skolemref1_Split_1_eq (fuel d : Nat) (n : Nat) (x0 : Sl) (x1 : Bool) (x5 : Sl) (x6 : Bool) (x7 : Bool) (x8 : Int) (x9 : Int) (h : AHeap) :
    l_skolemref1_Split_1 fuel d (n + 1) [(0, (AVal.slice x0)), (1, (AVal.bool x1)), (5, (AVal.slice x5)), (6, (AVal.bool x6)), (7, (AVal.bool x7)), (8, (AVal.int .i64 x8)), (9, (AVal.int .i64 x9))] h =
  ((bif ((decide (x9 < ((x0.len : Nat) : Int))) == true) then ((AHeap.addr h 1 x0 x9).bind fun p1 =>
    (AHeap.cell h p1).bind fun u2 =>
    (AVal.int? .u8 u2).bind fun n3 =>
    some ((AVal.bool (!decide (n3 = (10 : Int)))), h)) else (some ((AVal.bool false), h)) : Option (AVal × AHeap))).bind fun r4 =>
    (AVal.bool? r4.1).bind fun b5 =>
    ((bif (b5 == true) then ((AHeap.addr r4.2 1 x0 x9).bind fun p6 =>
    (AHeap.cell r4.2 p6).bind fun u7 =>
    (AVal.int? .u8 u7).bind fun n8 =>
    (run fuel d F_skolemref1_blank [(AVal.int .u8 n8)] r4.2).bind fun r9 =>
    (AVal.bool? r9.1).bind fun b10 =>
    some ((AVal.bool (!b10)), r9.2)) else (some ((AVal.bool false), r4.2)) : Option (AVal × AHeap))).bind fun r11 =>
    (AVal.bool? r11.1).bind fun b12 =>
    (bif b12 then (l_skolemref1_Split_1 fuel d n [(0, (AVal.slice x0)), (1, (AVal.bool x1)), (5, (AVal.slice x5)), (6, (AVal.bool x6)), (7, (AVal.bool x7)), (8, (AVal.int .i64 x8)), (9, (AVal.int .i64 (IntKind.wrap .i64 (x9 + (1 : Int)))))] r11.2) else (some ((.exit 3), [(0, (AVal.slice x0)), (1, (AVal.bool x1)), (5, (AVal.slice x5)), (6, (AVal.bool x6)), (7, (AVal.bool x7)), (8, (AVal.int .i64 x8)), (9, (AVal.int .i64 x9))], r11.2))) := by
  generalize hh : run = R
  rw [run_is] at hh
  subst hh
  generalize hh : l_skolemref1_Split_1 = R
  rw [l_skolemref1_Split_1_is] at hh
  subst hh
  kernel_rfl

theorem l_skolemref1_Split_1_0 (fuel d : Nat) (fr : Fr) (h : AHeap) :
    l_skolemref1_Split_1 fuel d 0 fr h =
  none := by
  generalize hh : l_skolemref1_Split_1 = R
  rw [l_skolemref1_Split_1_is] at hh
  subst hh
  kernel_rfl

theorem k_skolemref1_Split_1_x3 (fuel d : Nat) (n : Nat) (x0 : Sl) (x1 : Bool) (x5 : Sl) (x6 : Bool) (x7 : Bool) (x8 : Int) (x9 : Int) (h : AHeap) :
    k_skolemref1_Split_1 fuel d n (.exit 3) [(0, (AVal.slice x0)), (1, (AVal.bool x1)), (5, (AVal.slice x5)), (6, (AVal.bool x6)), (7, (AVal.bool x7)), (8, (AVal.int .i64 x8)), (9, (AVal.int .i64 x9))] h =
  ((bif ((bif x1 then x6 else false) == true) then ((AHeap.addr h 1 x0 x8).bind fun p1 =>
    (AHeap.cell h p1).bind fun u2 =>
    (AVal.int? .u8 u2).bind fun n3 =>
    some ((AVal.bool (decide (n3 = (99 : Int)))), h)) else (some ((AVal.bool false), h)) : Option (AVal × AHeap))).bind fun r4 =>
    (AVal.bool? r4.1).bind fun b5 =>
    ((bif b5 then (some (.normal, [(0, (AVal.slice x0)), (1, (AVal.bool x1)), (5, (AVal.slice x5)), (6, (AVal.bool x6)), (7, (AVal.bool true)), (8, (AVal.int .i64 x8)), (9, (AVal.int .i64 x9))], r4.2)) else (some (.normal, [(0, (AVal.slice x0)), (1, (AVal.bool x1)), (5, (AVal.slice x5)), (6, (AVal.bool x6)), (7, (AVal.bool x7)), (8, (AVal.int .i64 x8)), (9, (AVal.int .i64 x9))], r4.2)))).bind fun p6 =>
    k_skolemref1_Split_2 fuel d n p6.1 p6.2.1 p6.2.2 := by
  generalize hh : k_skolemref1_Split_1 = R
  rw [k_skolemref1_Split_1_is] at hh
  subst hh
  generalize hh : k_skolemref1_Split_2 = R
  rw [k_skolemref1_Split_2_is] at hh
  subst hh
  kernel_rfl

theorem k_skolemref1_Split_2_n (fuel d : Nat) (n : Nat) (x0 : Sl) (x1 : Bool) (x5 : Sl) (x6 : Bool) (x7 : Bool) (x8 : Int) (x9 : Int) (h : AHeap) :
    k_skolemref1_Split_2 fuel d n .normal [(0, (AVal.slice x0)), (1, (AVal.bool x1)), (5, (AVal.slice x5)), (6, (AVal.bool x6)), (7, (AVal.bool x7)), (8, (AVal.int .i64 x8)), (9, (AVal.int .i64 x9))] h =
  (bif (!x7) then ((aHi (some (AVal.int .i64 x9)) (Sl.len x0)).bind fun hi1 =>
    (aLo (some (AVal.int .i64 x8)) hi1).bind fun lo2 =>
    (aMx (none : Option AVal) hi1).bind fun cl3 =>
    (bif (AHeap.hasSz h 1 x0) then ((AHeap.sliceCells h 1 (Sl.cut x0 1 lo2 hi1 cl3)).bind fun c4 =>
    (bytesFrom c4).bind fun bs5 =>
    (AHeap.append h false 3 32 x5 1 [(AVal.str (⟨List.toArray bs5⟩ : ByteArray)), (AVal.int .i64 x8), (AVal.bool x6)]).bind fun a6 =>
    l_skolemref1_Split_0 fuel d n [(0, (AVal.slice x0)), (1, (AVal.bool x1)), (5, (AVal.slice a6.1)), (6, (AVal.bool false)), (7, (AVal.bool x7)), (8, (AVal.int .i64 x9))] a6.2) else (none))) else (l_skolemref1_Split_0 fuel d n [(0, (AVal.slice x0)), (1, (AVal.bool x1)), (5, (AVal.slice x5)), (6, (AVal.bool false)), (7, (AVal.bool x7)), (8, (AVal.int .i64 x9))] h)) := by
  generalize hh : l_skolemref1_Split_0 = R
  rw [l_skolemref1_Split_0_is] at hh
  subst hh
  generalize hh : k_skolemref1_Split_2 = R
  rw [k_skolemref1_Split_2_is] at hh
  subst hh
  kernel_rfl

/-! 60: skolem/word.Number -/

noncomputable def k_word_Number_0r (fuel d : Nat) : AExit → Fr → AHeap → Option (AVal × AHeap) := (kSeq (Cf fuel F_word_Number) false (acall (C fuel) false d) (acall (C fuel) true d) 51 (csub [true, true, true] (fbody Go.Proofs.Tryd.f60)) (asub [true, true, true] an60) (kRet (Cf fuel F_word_Number) Go.Proofs.Tryd.f60.results.toList))

noncomputable def k_word_Number_0 : Nat → Nat → AExit → Fr → AHeap → Option (AVal × AHeap) := hide k_word_Number_0r

theorem k_word_Number_0_is : k_word_Number_0 = k_word_Number_0r := hide_eq _

noncomputable def s_word_Number_0 (fuel d : Nat) : Run := fun fr h k => aexec (Cf fuel F_word_Number) false (acall (C fuel) false d) (acall (C fuel) true d) 51 (csub [true, true, true, true, false, true, false, false] (fbody Go.Proofs.Tryd.f60)) (asub [true, true, true, true, false, true, false, false] an60) fr h k

noncomputable def l_word_Number_0r (fuel d : Nat) (n : Nat) (fr : Fr) (h : AHeap) : Option (AExit × Fr × AHeap) := aloop (s_word_Number_0 fuel d) (some [0, 4, 28, 29]) n fr h (kOut [0, 2, 3])

noncomputable def l_word_Number_0 : Nat → Nat → Nat → Fr → AHeap → Option (AExit × Fr × AHeap) := hide l_word_Number_0r

theorem l_word_Number_0_is : l_word_Number_0 = l_word_Number_0r := hide_eq _

noncomputable def k_word_Number_1r (fuel d : Nat) : AExit → Fr → AHeap → Option (AVal × AHeap) := (kBlock 0 (kSeq (Cf fuel F_word_Number) false (acall (C fuel) false d) (acall (C fuel) true d) 51 (csub [true, true, true, true, true] (fbody Go.Proofs.Tryd.f60)) (asub [true, true, true, true, true] an60) (kRet (Cf fuel F_word_Number) Go.Proofs.Tryd.f60.results.toList)))

noncomputable def k_word_Number_1 : Nat → Nat → AExit → Fr → AHeap → Option (AVal × AHeap) := hide k_word_Number_1r

theorem k_word_Number_1_is : k_word_Number_1 = k_word_Number_1r := hide_eq _

theorem e_word_Number (fuel d : Nat) (x0 : ByteArray) (h : AHeap) :
    brun fuel (d + 1) F_word_Number [(AVal.str x0)] h =
  ((bif ((decide ((0 : Int) < ((ByteArray.size x0 : Nat) : Int))) == true) then ((strAt x0 (0 : Int)).bind fun n1 =>
    some ((AVal.bool (decide (n1 = (45 : Int)))), h)) else (some ((AVal.bool false), h)) : Option (AVal × AHeap))).bind fun r2 =>
    (AVal.bool? r2.1).bind fun b3 =>
    ((bif b3 then ((aHi (none : Option AVal) (ByteArray.size x0)).bind fun hi4 =>
    (aLo (some (AVal.int .i64 (1 : Int))) hi4).bind fun lo5 =>
    some (.normal, [(0, (AVal.str x0)), (4, (AVal.str (ByteArray.extract x0 lo5 hi4)))], r2.2)) else (some (.normal, [(0, (AVal.str x0)), (4, (AVal.str x0))], r2.2)))).bind fun p6 =>
    k_word_Number_0 fuel d p6.1 p6.2.1 p6.2.2 := by
  generalize hh : brun = R
  rw [brun_is] at hh
  subst hh
  generalize hh : k_word_Number_0 = R
  rw [k_word_Number_0_is] at hh
  subst hh
  kernel_rfl

theorem k_word_Number_0_n (fuel d : Nat) (x0 : ByteArray) (x4 : ByteArray) (h : AHeap) :
    k_word_Number_0 fuel d .normal [(0, (AVal.str x0)), (4, (AVal.str x4))] h =
  (bif (bif (decide (((ByteArray.size x4 : Nat) : Int) < (1 : Int))) then true else (decide ((9 : Int) < ((ByteArray.size x4 : Nat) : Int)))) then (some ((AVal.tup [(AVal.int .i64 (0 : Int)), (AVal.bool false)]), h)) else ((l_word_Number_0 fuel d fuel [(0, (AVal.str x0)), (4, (AVal.str x4)), (28, (AVal.int .i64 ((ByteArray.size x4 : Nat) : Int))), (29, (AVal.int .i64 (0 : Int)))] h).bind fun p1 =>
    k_word_Number_1 fuel d p1.1 p1.2.1 p1.2.2)) := by
  generalize hh : k_word_Number_0 = R
  rw [k_word_Number_0_is] at hh
  subst hh
  generalize hh : l_word_Number_0 = R
  rw [l_word_Number_0_is] at hh
  subst hh
  generalize hh : k_word_Number_1 = R
  rw [k_word_Number_1_is] at hh
  subst hh
  kernel_rfl

theorem l_word_Number_0_eq (fuel d : Nat) (n : Nat) (x0 : ByteArray) (x4 : ByteArray) (x28 : Int) (x29 : Int) (h : AHeap) :
    l_word_Number_0 fuel d (n + 1) [(0, (AVal.str x0)), (4, (AVal.str x4)), (28, (AVal.int .i64 x28)), (29, (AVal.int .i64 x29))] h =
  (bif (decide (x29 < x28)) then ((strAt x4 x29).bind fun n1 =>
    ((bif ((decide (n1 < (48 : Int))) == false) then ((strAt x4 x29).bind fun n2 =>
    some ((AVal.bool (decide ((57 : Int) < n2))), h)) else (some ((AVal.bool true), h)) : Option (AVal × AHeap))).bind fun r3 =>
    (AVal.bool? r3.1).bind fun b4 =>
    (bif b4 then (some (.ret, [(0, (AVal.str x0)), (2, (AVal.int .i64 (0 : Int))), (3, (AVal.bool false))], r3.2)) else (l_word_Number_0 fuel d n [(0, (AVal.str x0)), (4, (AVal.str x4)), (28, (AVal.int .i64 x28)), (29, (AVal.int .i64 (IntKind.wrap .i64 (x29 + (1 : Int)))))] r3.2))) else (some ((.exit 0), [(0, (AVal.str x0)), (2, AVal.bot), (3, AVal.bot)], h))) := by
  generalize hh : l_word_Number_0 = R
  rw [l_word_Number_0_is] at hh
  subst hh
  kernel_rfl

theorem l_word_Number_0_0 (fuel d : Nat) (fr : Fr) (h : AHeap) :
    l_word_Number_0 fuel d 0 fr h =
  none := by
  generalize hh : l_word_Number_0 = R
  rw [l_word_Number_0_is] at hh
  subst hh
  kernel_rfl

theorem k_word_Number_1_x0 (fuel d : Nat) (x0 : ByteArray) (x2 : AVal) (x3 : AVal) (h : AHeap) :
    k_word_Number_1 fuel d (.exit 0) [(0, (AVal.str x0)), (2, x2), (3, x3)] h =
  (run fuel d F_strconv_Atoi [(AVal.str x0)] h).bind fun r1 =>
    (bif AVal.isTup 2 r1.1 then ((AVal.comp 0 r1.1).bind fun u2 =>
    (AVal.int? .i64 u2).bind fun n3 =>
    (AVal.comp 1 r1.1).bind fun u4 =>
    (nilTest .iface u4).bind fun b5 =>
    some ((AVal.tup [(AVal.int .i64 n3), (AVal.bool (b5))]), r1.2)) else none) := by
  generalize hh : run = R
  rw [run_is] at hh
  subst hh
  generalize hh : k_word_Number_1 = R
  rw [k_word_Number_1_is] at hh
  subst hh
  kernel_rfl

theorem k_word_Number_1_r (fuel d : Nat) (x0 : AVal) (x2 : Int) (x3 : Bool) (h : AHeap) :
    k_word_Number_1 fuel d .ret [(0, x0), (2, (AVal.int .i64 x2)), (3, (AVal.bool x3))] h =
  some ((AVal.tup [(AVal.int .i64 x2), (AVal.bool x3)]), h) := by
  generalize hh : k_word_Number_1 = R
  rw [k_word_Number_1_is] at hh
  subst hh
  kernel_rfl

/-! 61: skolem/skolemref1.Number -/

noncomputable def k_skolemref1_Number_0r (fuel d : Nat) : AExit → Fr → AHeap → Option (AVal × AHeap) := (kSeq (Cf fuel F_skolemref1_Number) false (acall (C fuel) false d) (acall (C fuel) true d) 54 (csub [true, true, true] (fbody Go.Proofs.Tryd.f61)) (asub [true, true, true] an61) (kRet (Cf fuel F_skolemref1_Number) Go.Proofs.Tryd.f61.results.toList))

noncomputable def k_skolemref1_Number_0 : Nat → Nat → AExit → Fr → AHeap → Option (AVal × AHeap) := hide k_skolemref1_Number_0r

theorem k_skolemref1_Number_0_is : k_skolemref1_Number_0 = k_skolemref1_Number_0r := hide_eq _

noncomputable def s_skolemref1_Number_0 (fuel d : Nat) : Run := fun fr h k => aexec (Cf fuel F_skolemref1_Number) false (acall (C fuel) false d) (acall (C fuel) true d) 54 (csub [true, true, true, true, true, false, true, false, false] (fbody Go.Proofs.Tryd.f61)) (asub [true, true, true, true, true, false, true, false, false] an61) fr h k

noncomputable def l_skolemref1_Number_0r (fuel d : Nat) (n : Nat) (fr : Fr) (h : AHeap) : Option (AExit × Fr × AHeap) := aloop (s_skolemref1_Number_0 fuel d) (some [0, 4, 5, 6]) n fr h (kOut [2, 3, 4, 5])

noncomputable def l_skolemref1_Number_0 : Nat → Nat → Nat → Fr → AHeap → Option (AExit × Fr × AHeap) := hide l_skolemref1_Number_0r

theorem l_skolemref1_Number_0_is : l_skolemref1_Number_0 = l_skolemref1_Number_0r := hide_eq _

noncomputable def k_skolemref1_Number_1r (fuel d : Nat) : AExit → Fr → AHeap → Option (AVal × AHeap) := (kBlock 0 (kSeq (Cf fuel F_skolemref1_Number) false (acall (C fuel) false d) (acall (C fuel) true d) 54 (csub [true, true, true, true, true, true] (fbody Go.Proofs.Tryd.f61)) (asub [true, true, true, true, true, true] an61) (kRet (Cf fuel F_skolemref1_Number) Go.Proofs.Tryd.f61.results.toList)))

noncomputable def k_skolemref1_Number_1 : Nat → Nat → AExit → Fr → AHeap → Option (AVal × AHeap) := hide k_skolemref1_Number_1r

theorem k_skolemref1_Number_1_is : k_skolemref1_Number_1 = k_skolemref1_Number_1r := hide_eq _

theorem e_skolemref1_Number (fuel d : Nat) (x0 : ByteArray) (h : AHeap) :
    brun fuel (d + 1) F_skolemref1_Number [(AVal.str x0)] h =
  ((bif ((decide ((0 : Int) < ((ByteArray.size x0 : Nat) : Int))) == true) then ((strAt x0 (0 : Int)).bind fun n1 =>
    some ((AVal.bool (decide (n1 = (45 : Int)))), h)) else (some ((AVal.bool false), h)) : Option (AVal × AHeap))).bind fun r2 =>
    (AVal.bool? r2.1).bind fun b3 =>
    ((bif b3 then ((aHi (none : Option AVal) (ByteArray.size x0)).bind fun hi4 =>
    (aLo (some (AVal.int .i64 (1 : Int))) hi4).bind fun lo5 =>
    some (.normal, [(0, (AVal.str (ByteArray.extract x0 lo5 hi4))), (4, (AVal.bool b3))], r2.2)) else (some (.normal, [(0, (AVal.str x0)), (4, (AVal.bool b3))], r2.2)))).bind fun p6 =>
    k_skolemref1_Number_0 fuel d p6.1 p6.2.1 p6.2.2 := by
  generalize hh : brun = R
  rw [brun_is] at hh
  subst hh
  generalize hh : k_skolemref1_Number_0 = R
  rw [k_skolemref1_Number_0_is] at hh
  subst hh
  kernel_rfl

theorem k_skolemref1_Number_0_n (fuel d : Nat) (x0 : ByteArray) (x4 : Bool) (h : AHeap) :
    k_skolemref1_Number_0 fuel d .normal [(0, (AVal.str x0)), (4, (AVal.bool x4))] h =
  (bif (bif (decide (((ByteArray.size x0 : Nat) : Int) < (1 : Int))) then true else (decide ((9 : Int) < ((ByteArray.size x0 : Nat) : Int)))) then (some ((AVal.tup [(AVal.int .i64 (0 : Int)), (AVal.bool false)]), h)) else ((l_skolemref1_Number_0 fuel d fuel [(0, (AVal.str x0)), (4, (AVal.bool x4)), (5, (AVal.int .i64 (0 : Int))), (6, (AVal.int .i64 (0 : Int)))] h).bind fun p1 =>
    k_skolemref1_Number_1 fuel d p1.1 p1.2.1 p1.2.2)) := by
  generalize hh : k_skolemref1_Number_0 = R
  rw [k_skolemref1_Number_0_is] at hh
  subst hh
  generalize hh : l_skolemref1_Number_0 = R
  rw [l_skolemref1_Number_0_is] at hh
  subst hh
  generalize hh : k_skolemref1_Number_1 = R
  rw [k_skolemref1_Number_1_is] at hh
  subst hh
  kernel_rfl

theorem l_skolemref1_Number_0_eq (fuel d : Nat) (n : Nat) (x0 : ByteArray) (x4 : Bool) (x5 : Int) (x6 : Int) (h : AHeap) :
    l_skolemref1_Number_0 fuel d (n + 1) [(0, (AVal.str x0)), (4, (AVal.bool x4)), (5, (AVal.int .i64 x5)), (6, (AVal.int .i64 x6))] h =
  (bif (decide (x6 < ((ByteArray.size x0 : Nat) : Int))) then ((strAt x0 x6).bind fun n1 =>
    ((bif ((decide (n1 < (48 : Int))) == false) then ((strAt x0 x6).bind fun n2 =>
    some ((AVal.bool (decide ((57 : Int) < n2))), h)) else (some ((AVal.bool true), h)) : Option (AVal × AHeap))).bind fun r3 =>
    (AVal.bool? r3.1).bind fun b4 =>
    (bif b4 then (some (.ret, [(2, (AVal.int .i64 (0 : Int))), (3, (AVal.bool false)), (4, (AVal.bool x4)), (5, (AVal.int .i64 x5))], r3.2)) else ((strAt x0 x6).bind fun n5 =>
    l_skolemref1_Number_0 fuel d n [(0, (AVal.str x0)), (4, (AVal.bool x4)), (5, (AVal.int .i64 (IntKind.wrap .i64 ((IntKind.wrap .i64 ((10 : Int) * x5)) + (IntKind.wrap .i64 (IntKind.wrap .u8 (n5 - (48 : Int)))))))), (6, (AVal.int .i64 (IntKind.wrap .i64 (x6 + (1 : Int)))))] r3.2))) else (some ((.exit 0), [(2, AVal.bot), (3, AVal.bot), (4, (AVal.bool x4)), (5, (AVal.int .i64 x5))], h))) := by
  generalize hh : l_skolemref1_Number_0 = R
  rw [l_skolemref1_Number_0_is] at hh
  subst hh
  kernel_rfl

theorem l_skolemref1_Number_0_0 (fuel d : Nat) (fr : Fr) (h : AHeap) :
    l_skolemref1_Number_0 fuel d 0 fr h =
  none := by
  generalize hh : l_skolemref1_Number_0 = R
  rw [l_skolemref1_Number_0_is] at hh
  subst hh
  kernel_rfl

theorem k_skolemref1_Number_1_x0 (fuel d : Nat) (x2 : AVal) (x3 : AVal) (x4 : Bool) (x5 : Int) (h : AHeap) :
    k_skolemref1_Number_1 fuel d (.exit 0) [(2, x2), (3, x3), (4, (AVal.bool x4)), (5, (AVal.int .i64 x5))] h =
  (bif x4 then (some ((AVal.tup [(AVal.int .i64 (IntKind.wrap .i64 (0 - x5))), (AVal.bool true)]), h)) else (some ((AVal.tup [(AVal.int .i64 x5), (AVal.bool true)]), h))) := by
  generalize hh : k_skolemref1_Number_1 = R
  rw [k_skolemref1_Number_1_is] at hh
  subst hh
  kernel_rfl

theorem k_skolemref1_Number_1_r (fuel d : Nat) (x2 : Int) (x3 : Bool) (x4 : AVal) (x5 : AVal) (h : AHeap) :
    k_skolemref1_Number_1 fuel d .ret [(2, (AVal.int .i64 x2)), (3, (AVal.bool x3)), (4, x4), (5, x5)] h =
  some ((AVal.tup [(AVal.int .i64 x2), (AVal.bool x3)]), h) := by
  generalize hh : k_skolemref1_Number_1 = R
  rw [k_skolemref1_Number_1_is] at hh
  subst hh
  kernel_rfl

/-! 62: skolem/word.Bits -/

noncomputable def s_word_Bits_0 (fuel d : Nat) : Run := fun fr h k => aexec (Cf fuel F_word_Bits) false (acall (C fuel) false d) (acall (C fuel) true d) 33 (csub [true, true, false, true, false, false] (fbody Go.Proofs.Tryd.f62)) (asub [true, true, false, true, false, false] an62) fr h k

noncomputable def l_word_Bits_0r (fuel d : Nat) (n : Nat) (fr : Fr) (h : AHeap) : Option (AExit × Fr × AHeap) := aloop (s_word_Bits_0 fuel d) (some [0, 4, 10, 11]) n fr h (kOut [2, 3, 4])

noncomputable def l_word_Bits_0 : Nat → Nat → Nat → Fr → AHeap → Option (AExit × Fr × AHeap) := hide l_word_Bits_0r

theorem l_word_Bits_0_is : l_word_Bits_0 = l_word_Bits_0r := hide_eq _

noncomputable def k_word_Bits_0r (fuel d : Nat) : AExit → Fr → AHeap → Option (AVal × AHeap) := (kBlock 0 (kSeq (Cf fuel F_word_Bits) false (acall (C fuel) false d) (acall (C fuel) true d) 33 (csub [true, true, true] (fbody Go.Proofs.Tryd.f62)) (asub [true, true, true] an62) (kRet (Cf fuel F_word_Bits) Go.Proofs.Tryd.f62.results.toList)))

noncomputable def k_word_Bits_0 : Nat → Nat → AExit → Fr → AHeap → Option (AVal × AHeap) := hide k_word_Bits_0r

theorem k_word_Bits_0_is : k_word_Bits_0 = k_word_Bits_0r := hide_eq _

theorem e_word_Bits (fuel d : Nat) (x0 : ByteArray) (h : AHeap) :
    brun fuel (d + 1) F_word_Bits [(AVal.str x0)] h =
  (bif (decide ((0 : Int) ≤ ((ByteArray.size x0 : Nat) : Int)) && decide (((ByteArray.size x0 : Nat) : Int) * 1 ≤ 140737488355328) && decide (((ByteArray.size x0 : Nat) : Int) ≤ 140737488355328)) then ((l_word_Bits_0 fuel d fuel [(0, (AVal.str x0)), (4, (AVal.slice (Sl.mk ⟨AHeap.next h, 0, 0⟩ 0 (eqI (0 : Int) ((ByteArray.size x0 : Nat) : Int))))), (10, (AVal.int .i64 ((ByteArray.size x0 : Nat) : Int))), (11, (AVal.int .i64 (0 : Int)))] (AHeap.push h 1 [])).bind fun p1 =>
    k_word_Bits_0 fuel d p1.1 p1.2.1 p1.2.2) else (none)) := by
  generalize hh : brun = R
  rw [brun_is] at hh
  subst hh
  generalize hh : l_word_Bits_0 = R
  rw [l_word_Bits_0_is] at hh
  subst hh
  generalize hh : k_word_Bits_0 = R
  rw [k_word_Bits_0_is] at hh
  subst hh
  kernel_rfl

theorem l_word_Bits_0_eq (fuel d : Nat) (n : Nat) (x0 : ByteArray) (x4 : Sl) (x10 : Int) (x11 : Int) (h : AHeap) :
    l_word_Bits_0 fuel d (n + 1) [(0, (AVal.str x0)), (4, (AVal.slice x4)), (10, (AVal.int .i64 x10)), (11, (AVal.int .i64 x11))] h =
  (bif (decide (x11 < x10)) then ((strAt x0 x11).bind fun n1 =>
    ((bif ((!decide (n1 = (48 : Int))) == true) then ((strAt x0 x11).bind fun n2 =>
    some ((AVal.bool (!decide (n2 = (49 : Int)))), h)) else (some ((AVal.bool false), h)) : Option (AVal × AHeap))).bind fun r3 =>
    (AVal.bool? r3.1).bind fun b4 =>
    (bif b4 then (some (.ret, [(2, (AVal.slice Sl.nil)), (3, (AVal.bool false)), (4, (AVal.slice x4))], r3.2)) else ((strAt x0 x11).bind fun n5 =>
    (AHeap.append r3.2 false 1 1 x4 1 [(AVal.bool (decide (n5 = (49 : Int))))]).bind fun a6 =>
    l_word_Bits_0 fuel d n [(0, (AVal.str x0)), (4, (AVal.slice a6.1)), (10, (AVal.int .i64 x10)), (11, (AVal.int .i64 (IntKind.wrap .i64 (x11 + (1 : Int)))))] a6.2))) else (some ((.exit 0), [(2, AVal.bot), (3, AVal.bot), (4, (AVal.slice x4))], h))) := by
  generalize hh : l_word_Bits_0 = R
  rw [l_word_Bits_0_is] at hh
  subst hh
  kernel_rfl

theorem l_word_Bits_0_0 (fuel d : Nat) (fr : Fr) (h : AHeap) :
    l_word_Bits_0 fuel d 0 fr h =
  none := by
  generalize hh : l_word_Bits_0 = R
  rw [l_word_Bits_0_is] at hh
  subst hh
  kernel_rfl

theorem k_word_Bits_0_x0 (fuel d : Nat) (x2 : AVal) (x3 : AVal) (x4 : Sl) (h : AHeap) :
    k_word_Bits_0 fuel d (.exit 0) [(2, x2), (3, x3), (4, (AVal.slice x4))] h =
  some ((AVal.tup [(AVal.slice x4), (AVal.bool true)]), h) := by
  generalize hh : k_word_Bits_0 = R
  rw [k_word_Bits_0_is] at hh
  subst hh
  kernel_rfl

theorem k_word_Bits_0_r (fuel d : Nat) (x2 : Sl) (x3 : Bool) (x4 : AVal) (h : AHeap) :
    k_word_Bits_0 fuel d .ret [(2, (AVal.slice x2)), (3, (AVal.bool x3)), (4, x4)] h =
  some ((AVal.tup [(AVal.slice x2), (AVal.bool x3)]), h) := by
  generalize hh : k_word_Bits_0 = R
  rw [k_word_Bits_0_is] at hh
  subst hh
  kernel_rfl

/-! 63: skolem/skolemref1.Bits -/

noncomputable def s_skolemref1_Bits_0 (fuel d : Nat) : Run := fun fr h k => aexec (Cf fuel F_skolemref1_Bits) false (acall (C fuel) false d) (acall (C fuel) true d) 30 (csub [true, true, false, true, false, false] (fbody Go.Proofs.Tryd.f63)) (asub [true, true, false, true, false, false] an63) fr h k

noncomputable def l_skolemref1_Bits_0r (fuel d : Nat) (n : Nat) (fr : Fr) (h : AHeap) : Option (AExit × Fr × AHeap) := aloop (s_skolemref1_Bits_0 fuel d) (some [0, 4, 5]) n fr h (kOut [2, 3, 4])

noncomputable def l_skolemref1_Bits_0 : Nat → Nat → Nat → Fr → AHeap → Option (AExit × Fr × AHeap) := hide l_skolemref1_Bits_0r

theorem l_skolemref1_Bits_0_is : l_skolemref1_Bits_0 = l_skolemref1_Bits_0r := hide_eq _

noncomputable def k_skolemref1_Bits_0r (fuel d : Nat) : AExit → Fr → AHeap → Option (AVal × AHeap) := (kBlock 0 (kSeq (Cf fuel F_skolemref1_Bits) false (acall (C fuel) false d) (acall (C fuel) true d) 30 (csub [true, true, true] (fbody Go.Proofs.Tryd.f63)) (asub [true, true, true] an63) (kRet (Cf fuel F_skolemref1_Bits) Go.Proofs.Tryd.f63.results.toList)))

noncomputable def k_skolemref1_Bits_0 : Nat → Nat → AExit → Fr → AHeap → Option (AVal × AHeap) := hide k_skolemref1_Bits_0r

theorem k_skolemref1_Bits_0_is : k_skolemref1_Bits_0 = k_skolemref1_Bits_0r := hide_eq _

theorem e_skolemref1_Bits (fuel d : Nat) (x0 : ByteArray) (h : AHeap) :
    brun fuel (d + 1) F_skolemref1_Bits [(AVal.str x0)] h =
  (l_skolemref1_Bits_0 fuel d fuel [(0, (AVal.str x0)), (4, (AVal.slice Sl.nil)), (5, (AVal.int .i64 (0 : Int)))] h).bind fun p1 =>
    k_skolemref1_Bits_0 fuel d p1.1 p1.2.1 p1.2.2 := by
  generalize hh : brun = R
  rw [brun_is] at hh
  subst hh
  generalize hh : l_skolemref1_Bits_0 = R
  rw [l_skolemref1_Bits_0_is] at hh
  subst hh
  generalize hh : k_skolemref1_Bits_0 = R
  rw [k_skolemref1_Bits_0_is] at hh
  subst hh
  kernel_rfl

theorem l_skolemref1_Bits_0_eq (fuel d : Nat) (n : Nat) (x0 : ByteArray) (x4 : Sl) (x5 : Int) (h : AHeap) :
    l_skolemref1_Bits_0 fuel d (n + 1) [(0, (AVal.str x0)), (4, (AVal.slice x4)), (5, (AVal.int .i64 x5))] h =
  (bif (decide (x5 < ((ByteArray.size x0 : Nat) : Int))) then ((strAt x0 x5).bind fun n1 =>
    ((bif ((!decide (n1 = (48 : Int))) == true) then ((strAt x0 x5).bind fun n2 =>
    some ((AVal.bool (!decide (n2 = (49 : Int)))), h)) else (some ((AVal.bool false), h)) : Option (AVal × AHeap))).bind fun r3 =>
    (AVal.bool? r3.1).bind fun b4 =>
    (bif b4 then (some (.ret, [(2, (AVal.slice Sl.nil)), (3, (AVal.bool false)), (4, (AVal.slice x4))], r3.2)) else ((strAt x0 x5).bind fun n5 =>
    (AHeap.append r3.2 false 1 1 x4 1 [(AVal.bool (decide (n5 = (49 : Int))))]).bind fun a6 =>
    l_skolemref1_Bits_0 fuel d n [(0, (AVal.str x0)), (4, (AVal.slice a6.1)), (5, (AVal.int .i64 (IntKind.wrap .i64 (x5 + (1 : Int)))))] a6.2))) else (some ((.exit 0), [(2, AVal.bot), (3, AVal.bot), (4, (AVal.slice x4))], h))) := by
  generalize hh : l_skolemref1_Bits_0 = R
  rw [l_skolemref1_Bits_0_is] at hh
  subst hh
  kernel_rfl

theorem l_skolemref1_Bits_0_0 (fuel d : Nat) (fr : Fr) (h : AHeap) :
    l_skolemref1_Bits_0 fuel d 0 fr h =
  none := by
  generalize hh : l_skolemref1_Bits_0 = R
  rw [l_skolemref1_Bits_0_is] at hh
  subst hh
  kernel_rfl

theorem k_skolemref1_Bits_0_x0 (fuel d : Nat) (x2 : AVal) (x3 : AVal) (x4 : Sl) (h : AHeap) :
    k_skolemref1_Bits_0 fuel d (.exit 0) [(2, x2), (3, x3), (4, (AVal.slice x4))] h =
  some ((AVal.tup [(AVal.slice x4), (AVal.bool true)]), h) := by
  generalize hh : k_skolemref1_Bits_0 = R
  rw [k_skolemref1_Bits_0_is] at hh
  subst hh
  kernel_rfl

theorem k_skolemref1_Bits_0_r (fuel d : Nat) (x2 : Sl) (x3 : Bool) (x4 : AVal) (h : AHeap) :
    k_skolemref1_Bits_0 fuel d .ret [(2, (AVal.slice x2)), (3, (AVal.bool x3)), (4, x4)] h =
  some ((AVal.tup [(AVal.slice x2), (AVal.bool x3)]), h) := by
  generalize hh : k_skolemref1_Bits_0 = R
  rw [k_skolemref1_Bits_0_is] at hh
  subst hh
  kernel_rfl

/-! 64: skolem/word.Line -/

theorem e_word_Line (fuel d : Nat) (x0 : Sl) (x1 : Int) (h : AHeap) :
    brun fuel (d + 1) F_word_Line [(AVal.slice x0), (AVal.int .i64 x1)] h =
  (bif (bif (decide (x1 < (0 : Int))) then true else (decide (((x0.len : Nat) : Int) ≤ x1))) then (some ((AVal.tup [(AVal.str (⟨#[]⟩ : ByteArray)), (AVal.int .i64 (0 : Int)), (AVal.bool false)]), h)) else ((aHi (none : Option AVal) (Sl.len x0)).bind fun hi1 =>
    (aLo (some (AVal.int .i64 x1)) hi1).bind fun lo2 =>
    (aMx (none : Option AVal) hi1).bind fun cl3 =>
    (bif (AHeap.hasSz h 1 x0) then ((run fuel d F_bytes_IndexByte [(AVal.slice (Sl.cut x0 1 lo2 hi1 cl3)), (AVal.int .u8 (10 : Int))] h).bind fun r4 =>
    (AVal.int? .i64 r4.1).bind fun n5 =>
    (bif (decide (n5 < (0 : Int))) then (some ((AVal.tup [(AVal.str (⟨#[]⟩ : ByteArray)), (AVal.int .i64 (0 : Int)), (AVal.bool false)]), r4.2)) else ((aHi (some (AVal.int .i64 (IntKind.wrap .i64 (x1 + n5)))) (Sl.len x0)).bind fun hi6 =>
    (aLo (some (AVal.int .i64 x1)) hi6).bind fun lo7 =>
    (aMx (none : Option AVal) hi6).bind fun cl8 =>
    (bif (AHeap.hasSz r4.2 1 x0) then ((AHeap.sliceCells r4.2 1 (Sl.cut x0 1 lo7 hi6 cl8)).bind fun c9 =>
    (bytesFrom c9).bind fun bs10 =>
    some ((AVal.tup [(AVal.str (⟨List.toArray bs10⟩ : ByteArray)), (AVal.int .i64 (IntKind.wrap .i64 ((IntKind.wrap .i64 (x1 + n5)) + (1 : Int)))), (AVal.bool true)]), r4.2)) else (none))))) else (none)))) := by
  generalize hh : run = R
  rw [run_is] at hh
  subst hh
  generalize hh : brun = R
  rw [brun_is] at hh
  subst hh
  kernel_rfl

/-! 65: skolem/skolemref1.Line -/

noncomputable def s_skolemref1_Line_0 (fuel d : Nat) : Run := fun fr h k => aexec (Cf fuel F_skolemref1_Line) false (acall (C fuel) false d) (acall (C fuel) true d) 35 (csub [true, true, false, true, false, false] (fbody Go.Proofs.Tryd.f65)) (asub [true, true, false, true, false, false] an65) fr h k

noncomputable def l_skolemref1_Line_0r (fuel d : Nat) (n : Nat) (fr : Fr) (h : AHeap) : Option (AExit × Fr × AHeap) := aloop (s_skolemref1_Line_0 fuel d) (some [0, 1, 7]) n fr h (kOut [4, 5, 6])

noncomputable def l_skolemref1_Line_0 : Nat → Nat → Nat → Fr → AHeap → Option (AExit × Fr × AHeap) := hide l_skolemref1_Line_0r

theorem l_skolemref1_Line_0_is : l_skolemref1_Line_0 = l_skolemref1_Line_0r := hide_eq _

noncomputable def k_skolemref1_Line_0r (fuel d : Nat) : AExit → Fr → AHeap → Option (AVal × AHeap) := (kBlock 0 (kSeq (Cf fuel F_skolemref1_Line) false (acall (C fuel) false d) (acall (C fuel) true d) 35 (csub [true, true, true] (fbody Go.Proofs.Tryd.f65)) (asub [true, true, true] an65) (kRet (Cf fuel F_skolemref1_Line) Go.Proofs.Tryd.f65.results.toList)))

noncomputable def k_skolemref1_Line_0 : Nat → Nat → AExit → Fr → AHeap → Option (AVal × AHeap) := hide k_skolemref1_Line_0r

theorem k_skolemref1_Line_0_is : k_skolemref1_Line_0 = k_skolemref1_Line_0r := hide_eq _

theorem e_skolemref1_Line (fuel d : Nat) (x0 : Sl) (x1 : Int) (h : AHeap) :
    brun fuel (d + 1) F_skolemref1_Line [(AVal.slice x0), (AVal.int .i64 x1)] h =
  (bif (bif (decide (x1 < (0 : Int))) then true else (decide (((x0.len : Nat) : Int) ≤ x1))) then (some ((AVal.tup [(AVal.str (⟨#[]⟩ : ByteArray)), (AVal.int .i64 (0 : Int)), (AVal.bool false)]), h)) else ((l_skolemref1_Line_0 fuel d fuel [(0, (AVal.slice x0)), (1, (AVal.int .i64 x1)), (7, (AVal.int .i64 x1))] h).bind fun p1 =>
    k_skolemref1_Line_0 fuel d p1.1 p1.2.1 p1.2.2)) := by
  generalize hh : brun = R
  rw [brun_is] at hh
  subst hh
  generalize hh : l_skolemref1_Line_0 = R
  rw [l_skolemref1_Line_0_is] at hh
  subst hh
  generalize hh : k_skolemref1_Line_0 = R
  rw [k_skolemref1_Line_0_is] at hh
  subst hh
  kernel_rfl

theorem l_skolemref1_Line_0_eq (fuel d : Nat) (n : Nat) (x0 : Sl) (x1 : Int) (x7 : Int) (h : AHeap) :
    l_skolemref1_Line_0 fuel d (n + 1) [(0, (AVal.slice x0)), (1, (AVal.int .i64 x1)), (7, (AVal.int .i64 x7))] h =
  (bif (decide (x7 < ((x0.len : Nat) : Int))) then ((AHeap.addr h 1 x0 x7).bind fun p1 =>
    (AHeap.cell h p1).bind fun u2 =>
    (AVal.int? .u8 u2).bind fun n3 =>
    (bif (decide (n3 = (10 : Int))) then ((aHi (some (AVal.int .i64 x7)) (Sl.len x0)).bind fun hi4 =>
    (aLo (some (AVal.int .i64 x1)) hi4).bind fun lo5 =>
    (aMx (none : Option AVal) hi4).bind fun cl6 =>
    (bif (AHeap.hasSz h 1 x0) then ((AHeap.sliceCells h 1 (Sl.cut x0 1 lo5 hi4 cl6)).bind fun c7 =>
    (bytesFrom c7).bind fun bs8 =>
    some (.ret, [(4, (AVal.str (⟨List.toArray bs8⟩ : ByteArray))), (5, (AVal.int .i64 (IntKind.wrap .i64 (x7 + (1 : Int))))), (6, (AVal.bool true))], h)) else (none))) else (l_skolemref1_Line_0 fuel d n [(0, (AVal.slice x0)), (1, (AVal.int .i64 x1)), (7, (AVal.int .i64 (IntKind.wrap .i64 (x7 + (1 : Int)))))] h))) else (some ((.exit 0), [(4, AVal.bot), (5, AVal.bot), (6, AVal.bot)], h))) := by
  generalize hh : l_skolemref1_Line_0 = R
  rw [l_skolemref1_Line_0_is] at hh
  subst hh
  kernel_rfl

theorem l_skolemref1_Line_0_0 (fuel d : Nat) (fr : Fr) (h : AHeap) :
    l_skolemref1_Line_0 fuel d 0 fr h =
  none := by
  generalize hh : l_skolemref1_Line_0 = R
  rw [l_skolemref1_Line_0_is] at hh
  subst hh
  kernel_rfl

theorem k_skolemref1_Line_0_x0 (fuel d : Nat) (x4 : AVal) (x5 : AVal) (x6 : AVal) (h : AHeap) :
    k_skolemref1_Line_0 fuel d (.exit 0) [(4, x4), (5, x5), (6, x6)] h =
  some ((AVal.tup [(AVal.str (⟨#[]⟩ : ByteArray)), (AVal.int .i64 (0 : Int)), (AVal.bool false)]), h) := by
  generalize hh : k_skolemref1_Line_0 = R
  rw [k_skolemref1_Line_0_is] at hh
  subst hh
  kernel_rfl

theorem k_skolemref1_Line_0_r (fuel d : Nat) (x4 : ByteArray) (x5 : Int) (x6 : Bool) (h : AHeap) :
    k_skolemref1_Line_0 fuel d .ret [(4, (AVal.str x4)), (5, (AVal.int .i64 x5)), (6, (AVal.bool x6))] h =
  some ((AVal.tup [(AVal.str x4), (AVal.int .i64 x5), (AVal.bool x6)]), h) := by
  generalize hh : k_skolemref1_Line_0 = R
  rw [k_skolemref1_Line_0_is] at hh
  subst hh
  kernel_rfl

/-! 66: skolem/skolemref.SameBools -/

noncomputable def s_skolemref_SameBools_0 (fuel d : Nat) : Run := fun fr h k => aexec (Cf fuel F_skolemref_SameBools) false (acall (C fuel) false d) (acall (C fuel) true d) 29 (csub [true, true, false, true, false, false] (fbody Go.Proofs.Tryd.f66)) (asub [true, true, false, true, false, false] an66) fr h k

noncomputable def l_skolemref_SameBools_0r (fuel d : Nat) (n : Nat) (fr : Fr) (h : AHeap) : Option (AExit × Fr × AHeap) := aloop (s_skolemref_SameBools_0 fuel d) (some [0, 1, 5]) n fr h (kOut [4])

noncomputable def l_skolemref_SameBools_0 : Nat → Nat → Nat → Fr → AHeap → Option (AExit × Fr × AHeap) := hide l_skolemref_SameBools_0r

theorem l_skolemref_SameBools_0_is : l_skolemref_SameBools_0 = l_skolemref_SameBools_0r := hide_eq _

noncomputable def k_skolemref_SameBools_0r (fuel d : Nat) : AExit → Fr → AHeap → Option (AVal × AHeap) := (kBlock 0 (kSeq (Cf fuel F_skolemref_SameBools) false (acall (C fuel) false d) (acall (C fuel) true d) 29 (csub [true, true, true] (fbody Go.Proofs.Tryd.f66)) (asub [true, true, true] an66) (kRet (Cf fuel F_skolemref_SameBools) Go.Proofs.Tryd.f66.results.toList)))

noncomputable def k_skolemref_SameBools_0 : Nat → Nat → AExit → Fr → AHeap → Option (AVal × AHeap) := hide k_skolemref_SameBools_0r

theorem k_skolemref_SameBools_0_is : k_skolemref_SameBools_0 = k_skolemref_SameBools_0r := hide_eq _

theorem e_skolemref_SameBools (fuel d : Nat) (x0 : Sl) (x1 : Sl) (h : AHeap) :
    brun fuel (d + 1) F_skolemref_SameBools [(AVal.slice x0), (AVal.slice x1)] h =
  (bif (!decide (((x0.len : Nat) : Int) = ((x1.len : Nat) : Int))) then (some ((AVal.bool false), h)) else ((l_skolemref_SameBools_0 fuel d fuel [(0, (AVal.slice x0)), (1, (AVal.slice x1)), (5, (AVal.int .i64 (0 : Int)))] h).bind fun p1 =>
    k_skolemref_SameBools_0 fuel d p1.1 p1.2.1 p1.2.2)) := by
  generalize hh : brun = R
  rw [brun_is] at hh
  subst hh
  generalize hh : l_skolemref_SameBools_0 = R
  rw [l_skolemref_SameBools_0_is] at hh
  subst hh
  generalize hh : k_skolemref_SameBools_0 = R
  rw [k_skolemref_SameBools_0_is] at hh
  subst hh
  kernel_rfl

theorem l_skolemref_SameBools_0_eq (fuel d : Nat) (n : Nat) (x0 : Sl) (x1 : Sl) (x5 : Int) (h : AHeap) :
    l_skolemref_SameBools_0 fuel d (n + 1) [(0, (AVal.slice x0)), (1, (AVal.slice x1)), (5, (AVal.int .i64 x5))] h =
  (bif (decide (x5 < ((x0.len : Nat) : Int))) then ((AHeap.addr h 1 x0 x5).bind fun p1 =>
    (AHeap.cell h p1).bind fun u2 =>
    (AVal.bool? u2).bind fun b3 =>
    (AHeap.addr h 1 x1 x5).bind fun p4 =>
    (AHeap.cell h p4).bind fun u5 =>
    (AVal.bool? u5).bind fun b6 =>
    (bif (!(b3 == b6)) then (some (.ret, [(4, (AVal.bool false))], h)) else (l_skolemref_SameBools_0 fuel d n [(0, (AVal.slice x0)), (1, (AVal.slice x1)), (5, (AVal.int .i64 (IntKind.wrap .i64 (x5 + (1 : Int)))))] h))) else (some ((.exit 0), [(4, AVal.bot)], h))) := by
  generalize hh : l_skolemref_SameBools_0 = R
  rw [l_skolemref_SameBools_0_is] at hh
  subst hh
  kernel_rfl

theorem l_skolemref_SameBools_0_0 (fuel d : Nat) (fr : Fr) (h : AHeap) :
    l_skolemref_SameBools_0 fuel d 0 fr h =
  none := by
  generalize hh : l_skolemref_SameBools_0 = R
  rw [l_skolemref_SameBools_0_is] at hh
  subst hh
  kernel_rfl

theorem k_skolemref_SameBools_0_x0 (fuel d : Nat) (x4 : AVal) (h : AHeap) :
    k_skolemref_SameBools_0 fuel d (.exit 0) [(4, x4)] h =
  some ((AVal.bool true), h) := by
  generalize hh : k_skolemref_SameBools_0 = R
  rw [k_skolemref_SameBools_0_is] at hh
  subst hh
  kernel_rfl

theorem k_skolemref_SameBools_0_r (fuel d : Nat) (x4 : Bool) (h : AHeap) :
    k_skolemref_SameBools_0 fuel d .ret [(4, (AVal.bool x4))] h =
  some ((AVal.bool x4), h) := by
  generalize hh : k_skolemref_SameBools_0 = R
  rw [k_skolemref_SameBools_0_is] at hh
  subst hh
  kernel_rfl

/-! 93: bytes.IndexByte -/

theorem e_bytes_IndexByte (fuel d : Nat) (x0 : Sl) (x1 : Int) (h : AHeap) :
    brun fuel (d + 1) F_bytes_IndexByte [(AVal.slice x0), (AVal.int .u8 x1)] h =
  (run fuel d F_bytealg_IndexByte [(AVal.slice x0), (AVal.int .u8 x1)] h).bind fun r1 =>
    (AVal.int? .i64 r1.1).bind fun n2 =>
    some ((AVal.int .i64 n2), r1.2) := by
  generalize hh : run = R
  rw [run_is] at hh
  subst hh
  generalize hh : brun = R
  rw [brun_is] at hh
  subst hh
  kernel_rfl

/-! 94: skolem/word.line -/

noncomputable def s_word_line_0 (fuel d : Nat) : Run := fun fr h k => aexec (Cf fuel F_word_line) false (acall (C fuel) false d) (acall (C fuel) true d) 51 (csub [true, true, false, true, false, false] (fbody Go.Proofs.Tryd.f94)) (asub [true, true, false, true, false, false] an94) fr h k

noncomputable def l_word_line_0r (fuel d : Nat) (n : Nat) (fr : Fr) (h : AHeap) : Option (AExit × Fr × AHeap) := aloop (s_word_line_0 fuel d) (some [0, 1, 5, 6]) n fr h (kOut [5])

noncomputable def l_word_line_0 : Nat → Nat → Nat → Fr → AHeap → Option (AExit × Fr × AHeap) := hide l_word_line_0r

theorem l_word_line_0_is : l_word_line_0 = l_word_line_0r := hide_eq _

noncomputable def k_word_line_0r (fuel d : Nat) : AExit → Fr → AHeap → Option (AVal × AHeap) := (kBlock 0 (kSeq (Cf fuel F_word_line) false (acall (C fuel) false d) (acall (C fuel) true d) 51 (csub [true, true, true] (fbody Go.Proofs.Tryd.f94)) (asub [true, true, true] an94) (kRet (Cf fuel F_word_line) Go.Proofs.Tryd.f94.results.toList)))

noncomputable def k_word_line_0 : Nat → Nat → AExit → Fr → AHeap → Option (AVal × AHeap) := hide k_word_line_0r

theorem k_word_line_0_is : k_word_line_0 = k_word_line_0r := hide_eq _

noncomputable def s_word_line_1 (fuel d : Nat) : Run := fun fr h k => aexec (Cf fuel F_word_line) false (acall (C fuel) false d) (acall (C fuel) true d) 51 (csub [true, true, false, true, false, false, true, false, false, true, true, false, false, false] (fbody Go.Proofs.Tryd.f94)) (asub [true, true, false, true, false, false, true, false, false, true, true, false, false, false] an94) fr h k

noncomputable def l_word_line_1r (fuel d : Nat) (n : Nat) (fr : Fr) (h : AHeap) : Option (AExit × Fr × AHeap) := aloop (s_word_line_1 fuel d) (some [0, 1, 5, 6, 7]) n fr h (kOut [0, 1, 5, 6, 7])

noncomputable def l_word_line_1 : Nat → Nat → Nat → Fr → AHeap → Option (AExit × Fr × AHeap) := hide l_word_line_1r

theorem l_word_line_1_is : l_word_line_1 = l_word_line_1r := hide_eq _

noncomputable def k_word_line_1r (fuel d : Nat) (n : Nat) : AExit → Fr → AHeap → Option (AExit × Fr × AHeap) := (kBlock 2 (kSeq (Cf fuel F_word_line) false (acall (C fuel) false d) (acall (C fuel) true d) 51 (csub [true, true, false, true, false, false, true, false, false, true, true, true] (fbody Go.Proofs.Tryd.f94)) (asub [true, true, false, true, false, false, true, false, false, true, true, true] an94) (kBlock 1 (kSeq (Cf fuel F_word_line) false (acall (C fuel) false d) (acall (C fuel) true d) 51 (csub [true, true, false, true, false, false, true, true] (fbody Go.Proofs.Tryd.f94)) (asub [true, true, false, true, false, false, true, true] an94) (kLoop (s_word_line_0 fuel d) (some [0, 1, 5, 6]) n (kOut [5]))))))

noncomputable def k_word_line_1 : Nat → Nat → Nat → AExit → Fr → AHeap → Option (AExit × Fr × AHeap) := hide k_word_line_1r

theorem k_word_line_1_is : k_word_line_1 = k_word_line_1r := hide_eq _

theorem e_word_line (fuel d : Nat) (x0 : Sl) (x1 : Int) (h : AHeap) :
    brun fuel (d + 1) F_word_line [(AVal.slice x0), (AVal.int .i64 x1)] h =
  (l_word_line_0 fuel d fuel [(0, (AVal.slice x0)), (1, (AVal.int .i64 x1)), (5, (AVal.slice Sl.nil)), (6, (AVal.int .i64 (0 : Int)))] h).bind fun p1 =>
    k_word_line_0 fuel d p1.1 p1.2.1 p1.2.2 := by
  generalize hh : brun = R
  rw [brun_is] at hh
  subst hh
  generalize hh : l_word_line_0 = R
  rw [l_word_line_0_is] at hh
  subst hh
  generalize hh : k_word_line_0 = R
  rw [k_word_line_0_is] at hh
  subst hh
  kernel_rfl

theorem l_word_line_0_eq (fuel d : Nat) (n : Nat) (x0 : Sl) (x1 : Int) (x5 : Sl) (x6 : Int) (h : AHeap) :
    l_word_line_0 fuel d (n + 1) [(0, (AVal.slice x0)), (1, (AVal.int .i64 x1)), (5, (AVal.slice x5)), (6, (AVal.int .i64 x6))] h =
  (bif (decide (x6 < ((x0.len : Nat) : Int))) then ((AHeap.addr h 1 x0 x6).bind fun p1 =>
    (AHeap.cell h p1).bind fun u2 =>
    (AVal.int? .u8 u2).bind fun n3 =>
    (run fuel d F_word_kind [(AVal.int .u8 n3)] h).bind fun r4 =>
    (AVal.int? .i64 r4.1).bind fun n5 =>
    (bif (!decide (n5 = (0 : Int))) then (l_word_line_0 fuel d n [(0, (AVal.slice x0)), (1, (AVal.int .i64 x1)), (5, (AVal.slice x5)), (6, (AVal.int .i64 (IntKind.wrap .i64 (x6 + (1 : Int)))))] r4.2) else ((l_word_line_1 fuel d fuel [(0, (AVal.slice x0)), (1, (AVal.int .i64 x1)), (5, (AVal.slice x5)), (6, (AVal.int .i64 x6)), (7, (AVal.int .i64 x6))] r4.2).bind fun p6 =>
    k_word_line_1 fuel d n p6.1 p6.2.1 p6.2.2))) else (some ((.exit 0), [(5, (AVal.slice x5))], h))) := by
  generalize hh : run = R
  rw [run_is] at hh
  subst hh
  generalize hh : l_word_line_0 = R
  rw [l_word_line_0_is] at hh
  subst hh
  generalize hh : l_word_line_1 = R
  rw [l_word_line_1_is] at hh
  subst hh
  generalize hh : k_word_line_1 = R
  rw [k_word_line_1_is] at hh
  subst hh
  kernel_rfl

theorem l_word_line_0_0 (fuel d : Nat) (fr : Fr) (h : AHeap) :
    l_word_line_0 fuel d 0 fr h =
  none := by
  generalize hh : l_word_line_0 = R
  rw [l_word_line_0_is] at hh
  subst hh
  kernel_rfl

theorem k_word_line_0_x0 (fuel d : Nat) (x5 : Sl) (h : AHeap) :
    k_word_line_0 fuel d (.exit 0) [(5, (AVal.slice x5))] h =
  some ((AVal.slice x5), h) := by
  generalize hh : k_word_line_0 = R
  rw [k_word_line_0_is] at hh
  subst hh
  kernel_rfl

theorem l_word_line_1_eq (fuel d : Nat) (n : Nat) (x0 : Sl) (x1 : Int) (x5 : Sl) (x6 : Int) (x7 : Int) (h : AHeap) :
    l_word_line_1 fuel d (n + 1) [(0, (AVal.slice x0)), (1, (AVal.int .i64 x1)), (5, (AVal.slice x5)), (6, (AVal.int .i64 x6)), (7, (AVal.int .i64 x7))] h =
  ((bif ((decide (x6 < ((x0.len : Nat) : Int))) == true) then ((AHeap.addr h 1 x0 x6).bind fun p1 =>
    (AHeap.cell h p1).bind fun u2 =>
    (AVal.int? .u8 u2).bind fun n3 =>
    (run fuel d F_word_kind [(AVal.int .u8 n3)] h).bind fun r4 =>
    (AVal.int? .i64 r4.1).bind fun n5 =>
    some ((AVal.bool (decide (n5 = (0 : Int)))), r4.2)) else (some ((AVal.bool false), h)) : Option (AVal × AHeap))).bind fun r6 =>
    (AVal.bool? r6.1).bind fun b7 =>
    (bif b7 then (l_word_line_1 fuel d n [(0, (AVal.slice x0)), (1, (AVal.int .i64 x1)), (5, (AVal.slice x5)), (6, (AVal.int .i64 (IntKind.wrap .i64 (x6 + (1 : Int))))), (7, (AVal.int .i64 x7))] r6.2) else (some ((.exit 2), [(0, (AVal.slice x0)), (1, (AVal.int .i64 x1)), (5, (AVal.slice x5)), (6, (AVal.int .i64 x6)), (7, (AVal.int .i64 x7))], r6.2))) := by
  generalize hh : run = R
  rw [run_is] at hh
  subst hh
  generalize hh : l_word_line_1 = R
  rw [l_word_line_1_is] at hh
  subst hh
  kernel_rfl

theorem l_word_line_1_0 (fuel d : Nat) (fr : Fr) (h : AHeap) :
    l_word_line_1 fuel d 0 fr h =
  none := by
  generalize hh : l_word_line_1 = R
  rw [l_word_line_1_is] at hh
  subst hh
  kernel_rfl

theorem k_word_line_1_x2 (fuel d : Nat) (n : Nat) (x0 : Sl) (x1 : Int) (x5 : Sl) (x6 : Int) (x7 : Int) (h : AHeap) :
    k_word_line_1 fuel d n (.exit 2) [(0, (AVal.slice x0)), (1, (AVal.int .i64 x1)), (5, (AVal.slice x5)), (6, (AVal.int .i64 x6)), (7, (AVal.int .i64 x7))] h =
  (aHi (some (AVal.int .i64 x6)) (Sl.len x0)).bind fun hi1 =>
    (aLo (some (AVal.int .i64 x7)) hi1).bind fun lo2 =>
    (aMx (none : Option AVal) hi1).bind fun cl3 =>
    (bif (AHeap.hasSz h 1 x0) then ((AHeap.sliceCells h 1 (Sl.cut x0 1 lo2 hi1 cl3)).bind fun c4 =>
    (bytesFrom c4).bind fun bs5 =>
    (AHeap.append h false 3 32 x5 1 [(AVal.str (⟨List.toArray bs5⟩ : ByteArray)), (AVal.int .i64 (IntKind.wrap .i64 (x1 + x7))), (AVal.bool (decide (((x5.len : Nat) : Int) = (0 : Int))))]).bind fun a6 =>
    l_word_line_0 fuel d n [(0, (AVal.slice x0)), (1, (AVal.int .i64 x1)), (5, (AVal.slice a6.1)), (6, (AVal.int .i64 (IntKind.wrap .i64 (x6 + (1 : Int)))))] a6.2) else (none)) := by
  generalize hh : l_word_line_0 = R
  rw [l_word_line_0_is] at hh
  subst hh
  generalize hh : k_word_line_1 = R
  rw [k_word_line_1_is] at hh
  subst hh
  kernel_rfl

/-! 95: skolem/skolemref1.blank -/

theorem e_skolemref1_blank (fuel d : Nat) (x0 : Int) (h : AHeap) :
    brun fuel (d + 1) F_skolemref1_blank [(AVal.int .u8 x0)] h =
  some ((AVal.bool (bif (bif (decide (x0 = (32 : Int))) then true else (decide (x0 = (9 : Int)))) then true else (decide (x0 = (13 : Int))))), h) := by
  generalize hh : brun = R
  rw [brun_is] at hh
  subst hh
  kernel_rfl

/-! 96: strconv.Atoi -/

theorem e_strconv_Atoi (fuel d : Nat) (x0 : ByteArray) (h : AHeap) :
    brun fuel (d + 1) F_strconv_Atoi [(AVal.str x0)] h =
  (run fuel d F_strconv_Atoi_117 [(AVal.str x0)] h).bind fun r1 =>
    (bif AVal.isTup 2 r1.1 then ((AVal.comp 0 r1.1).bind fun u2 =>
    (AVal.int? .i64 u2).bind fun n3 =>
    (AVal.comp 1 r1.1).bind fun u4 =>
    (nilTest .iface u4).bind fun b5 =>
    (bif (!b5) then ((run fuel d F_strconv_toError [(AVal.str (⟨#[65, 116, 111, 105]⟩ : ByteArray)), (AVal.str x0), (AVal.int .i64 (0 : Int)), (AVal.int .i64 (0 : Int)), u4] r1.2).bind fun r6 =>
    some ((AVal.tup [(AVal.int .i64 n3), r6.1]), r6.2)) else (some ((AVal.tup [(AVal.int .i64 n3), AVal.nilif]), r1.2)))) else none) := by
  generalize hh : run = R
  rw [run_is] at hh
  subst hh
  generalize hh : brun = R
  rw [brun_is] at hh
  subst hh
  kernel_rfl

/-! 116: skolem/word.kind -/

noncomputable def k_word_kind_0r (fuel d : Nat) : AExit → Fr → AHeap → Option (AExit × Fr × AHeap) := (kBlock 3 (kOut []))

noncomputable def k_word_kind_0 : Nat → Nat → AExit → Fr → AHeap → Option (AExit × Fr × AHeap) := hide k_word_kind_0r

theorem k_word_kind_0_is : k_word_kind_0 = k_word_kind_0r := hide_eq _

noncomputable def k_word_kind_1r (fuel d : Nat) : AExit → Fr → AHeap → Option (AVal × AHeap) := (kSeq (Cf fuel F_word_kind) false (acall (C fuel) false d) (acall (C fuel) true d) 12 (csub [true, false, true, false, false, false, true] (fbody Go.Proofs.Tryd.f116)) (asub [true, false, true, false, false, false, true] an116) (kBlock 4 (kSeq (Cf fuel F_word_kind) false (acall (C fuel) false d) (acall (C fuel) true d) 12 (csub [true, false, true, false, true] (fbody Go.Proofs.Tryd.f116)) (asub [true, false, true, false, true] an116) (kBlock 0 (kSeq (Cf fuel F_word_kind) false (acall (C fuel) false d) (acall (C fuel) true d) 12 (csub [true, true] (fbody Go.Proofs.Tryd.f116)) (asub [true, true] an116) (kRet (Cf fuel F_word_kind) Go.Proofs.Tryd.f116.results.toList))))))

noncomputable def k_word_kind_1 : Nat → Nat → AExit → Fr → AHeap → Option (AVal × AHeap) := hide k_word_kind_1r

theorem k_word_kind_1_is : k_word_kind_1 = k_word_kind_1r := hide_eq _

theorem e_word_kind (fuel d : Nat) (x0 : Int) (h : AHeap) :
    brun fuel (d + 1) F_word_kind [(AVal.int .u8 x0)] h =
  (((bif (decide (x0 = (32 : Int))) then (some (.normal, [], h)) else ((bif (decide (x0 = (9 : Int))) then (some (.normal, [], h)) else ((bif (decide (x0 = (13 : Int))) then (some ((.exit 3), [], h)) else ((bif (decide (x0 = (10 : Int))) then (some ((.exit 4), [], h)) else (some ((.exit 0), [], h)))))))))).bind fun p1 =>
    k_word_kind_0 fuel d p1.1 p1.2.1 p1.2.2).bind fun p2 =>
    k_word_kind_1 fuel d p2.1 p2.2.1 p2.2.2 := by
  generalize hh : brun = R
  rw [brun_is] at hh
  subst hh
  generalize hh : k_word_kind_0 = R
  rw [k_word_kind_0_is] at hh
  subst hh
  generalize hh : k_word_kind_1 = R
  rw [k_word_kind_1_is] at hh
  subst hh
  kernel_rfl

theorem k_word_kind_0_x0 (fuel d : Nat)  (h : AHeap) :
    k_word_kind_0 fuel d (.exit 0) [] h =
  some ((.exit 0), [], h) := by
  generalize hh : k_word_kind_0 = R
  rw [k_word_kind_0_is] at hh
  subst hh
  kernel_rfl

theorem k_word_kind_0_x3 (fuel d : Nat)  (h : AHeap) :
    k_word_kind_0 fuel d (.exit 3) [] h =
  some (.normal, [], h) := by
  generalize hh : k_word_kind_0 = R
  rw [k_word_kind_0_is] at hh
  subst hh
  kernel_rfl

theorem k_word_kind_0_x4 (fuel d : Nat)  (h : AHeap) :
    k_word_kind_0 fuel d (.exit 4) [] h =
  some ((.exit 4), [], h) := by
  generalize hh : k_word_kind_0 = R
  rw [k_word_kind_0_is] at hh
  subst hh
  kernel_rfl

theorem k_word_kind_0_n (fuel d : Nat)  (h : AHeap) :
    k_word_kind_0 fuel d .normal [] h =
  some (.normal, [], h) := by
  generalize hh : k_word_kind_0 = R
  rw [k_word_kind_0_is] at hh
  subst hh
  kernel_rfl

theorem k_word_kind_1_x0 (fuel d : Nat)  (h : AHeap) :
    k_word_kind_1 fuel d (.exit 0) [] h =
  some ((AVal.int .i64 (0 : Int)), h) := by
  generalize hh : k_word_kind_1 = R
  rw [k_word_kind_1_is] at hh
  subst hh
  kernel_rfl

theorem k_word_kind_1_x4 (fuel d : Nat)  (h : AHeap) :
    k_word_kind_1 fuel d (.exit 4) [] h =
  some ((AVal.int .i64 (2 : Int)), h) := by
  generalize hh : k_word_kind_1 = R
  rw [k_word_kind_1_is] at hh
  subst hh
  kernel_rfl

theorem k_word_kind_1_n (fuel d : Nat)  (h : AHeap) :
    k_word_kind_1 fuel d .normal [] h =
  some ((AVal.int .i64 (1 : Int)), h) := by
  generalize hh : k_word_kind_1 = R
  rw [k_word_kind_1_is] at hh
  subst hh
  kernel_rfl

/-! 117: internal/strconv.Atoi -/

noncomputable def s_strconv_Atoi_117_0 (fuel d : Nat) : Run := fun fr h k => aexec (Cf fuel F_strconv_Atoi_117) false (acall (C fuel) false d) (acall (C fuel) true d) 77 (csub [true, true, false, true, false, true, true, true, false, true, false, false] (fbody Go.Proofs.Tryd.f117)) (asub [true, true, false, true, false, true, true, true, false, true, false, false] an117) fr h k

noncomputable def l_strconv_Atoi_117_0r (fuel d : Nat) (n : Nat) (fr : Fr) (h : AHeap) : Option (AExit × Fr × AHeap) := aloop (s_strconv_Atoi_117_0 fuel d) (some [5, 6, 47, 48, 49]) n fr h (kOut [2, 3, 5, 6])

noncomputable def l_strconv_Atoi_117_0 : Nat → Nat → Nat → Fr → AHeap → Option (AExit × Fr × AHeap) := hide l_strconv_Atoi_117_0r

theorem l_strconv_Atoi_117_0_is : l_strconv_Atoi_117_0 = l_strconv_Atoi_117_0r := hide_eq _

noncomputable def k_strconv_Atoi_117_0r (fuel d : Nat) : AExit → Fr → AHeap → Option (AVal × AHeap) := (kBlock 0 (kSeq (Cf fuel F_strconv_Atoi_117) false (acall (C fuel) false d) (acall (C fuel) true d) 77 (csub [true, true, false, true, false, true, true, true, true] (fbody Go.Proofs.Tryd.f117)) (asub [true, true, false, true, false, true, true, true, true] an117) (kSeq (Cf fuel F_strconv_Atoi_117) false (acall (C fuel) false d) (acall (C fuel) true d) 77 (csub [true, true, true] (fbody Go.Proofs.Tryd.f117)) (asub [true, true, true] an117) (kRet (Cf fuel F_strconv_Atoi_117) Go.Proofs.Tryd.f117.results.toList))))

noncomputable def k_strconv_Atoi_117_0 : Nat → Nat → AExit → Fr → AHeap → Option (AVal × AHeap) := hide k_strconv_Atoi_117_0r

theorem k_strconv_Atoi_117_0_is : k_strconv_Atoi_117_0 = k_strconv_Atoi_117_0r := hide_eq _

noncomputable def k_strconv_Atoi_117_1r (fuel d : Nat) : AExit → Fr → AHeap → Option (AVal × AHeap) := (kSeq (Cf fuel F_strconv_Atoi_117) false (acall (C fuel) false d) (acall (C fuel) true d) 77 (csub [true, true, false, true, false, true, true, true, true, true] (fbody Go.Proofs.Tryd.f117)) (asub [true, true, false, true, false, true, true, true, true, true] an117) (kSeq (Cf fuel F_strconv_Atoi_117) false (acall (C fuel) false d) (acall (C fuel) true d) 77 (csub [true, true, true] (fbody Go.Proofs.Tryd.f117)) (asub [true, true, true] an117) (kRet (Cf fuel F_strconv_Atoi_117) Go.Proofs.Tryd.f117.results.toList)))

noncomputable def k_strconv_Atoi_117_1 : Nat → Nat → AExit → Fr → AHeap → Option (AVal × AHeap) := hide k_strconv_Atoi_117_1r

theorem k_strconv_Atoi_117_1_is : k_strconv_Atoi_117_1 = k_strconv_Atoi_117_1r := hide_eq _

theorem e_strconv_Atoi_117 (fuel d : Nat) (x0 : ByteArray) (h : AHeap) :
    brun fuel (d + 1) F_strconv_Atoi_117 [(AVal.str x0)] h =
  ((bif (false == true) then (some ((AVal.bool (bif (decide ((0 : Int) < ((ByteArray.size x0 : Nat) : Int))) then (decide (((ByteArray.size x0 : Nat) : Int) < (10 : Int))) else false)), h)) else (some ((AVal.bool false), h)) : Option (AVal × AHeap))).bind fun r1 =>
    (AVal.bool? r1.1).bind fun b2 =>
    ((bif (b2 == false) then (((bif (true == true) then (some ((AVal.bool (bif (decide ((0 : Int) < ((ByteArray.size x0 : Nat) : Int))) then (decide (((ByteArray.size x0 : Nat) : Int) < (19 : Int))) else false)), r1.2)) else (some ((AVal.bool false), r1.2)) : Option (AVal × AHeap))).bind fun r3 =>
    (AVal.bool? r3.1).bind fun b4 =>
    some ((AVal.bool b4), r3.2)) else (some ((AVal.bool true), r1.2)) : Option (AVal × AHeap))).bind fun r5 =>
    (AVal.bool? r5.1).bind fun b6 =>
    (bif b6 then ((strAt x0 (0 : Int)).bind fun n7 =>
    ((bif ((decide (n7 = (45 : Int))) == false) then ((strAt x0 (0 : Int)).bind fun n8 =>
    some ((AVal.bool (decide (n8 = (43 : Int)))), r5.2)) else (some ((AVal.bool true), r5.2)) : Option (AVal × AHeap))).bind fun r9 =>
    (AVal.bool? r9.1).bind fun b10 =>
    (bif b10 then ((aHi (none : Option AVal) (ByteArray.size x0)).bind fun hi11 =>
    (aLo (some (AVal.int .i64 (1 : Int))) hi11).bind fun lo12 =>
    (bif (decide (((ByteArray.size (ByteArray.extract x0 lo12 hi11) : Nat) : Int) < (1 : Int))) then (some ((AVal.tup [(AVal.int .i64 (0 : Int)), (AVal.iface T_strconv_Error (AVal.int .i64 (2 : Int)))]), r9.2)) else ((l_strconv_Atoi_117_0 fuel d fuel [(5, (AVal.str x0)), (6, (AVal.int .i64 (0 : Int))), (47, (AVal.slice (Sl.mk ⟨AHeap.next r9.2, 0, 0⟩ (ByteArray.size (ByteArray.extract x0 lo12 hi11)) false))), (48, (AVal.int .i64 (((Sl.mk ⟨AHeap.next r9.2, 0, 0⟩ (ByteArray.size (ByteArray.extract x0 lo12 hi11)) false).len : Nat) : Int))), (49, (AVal.int .i64 (0 : Int)))] (AHeap.push r9.2 1 (bytesOf (ByteArray.extract x0 lo12 hi11)))).bind fun p13 =>
    k_strconv_Atoi_117_0 fuel d p13.1 p13.2.1 p13.2.2))) else ((l_strconv_Atoi_117_0 fuel d fuel [(5, (AVal.str x0)), (6, (AVal.int .i64 (0 : Int))), (47, (AVal.slice (Sl.mk ⟨AHeap.next r9.2, 0, 0⟩ (ByteArray.size x0) false))), (48, (AVal.int .i64 (((Sl.mk ⟨AHeap.next r9.2, 0, 0⟩ (ByteArray.size x0) false).len : Nat) : Int))), (49, (AVal.int .i64 (0 : Int)))] (AHeap.push r9.2 1 (bytesOf x0))).bind fun p14 =>
    k_strconv_Atoi_117_0 fuel d p14.1 p14.2.1 p14.2.2))) else ((run fuel d F_strconv_ParseInt [(AVal.str x0), (AVal.int .i64 (10 : Int)), (AVal.int .i64 (0 : Int))] r5.2).bind fun r15 =>
    (bif AVal.isTup 2 r15.1 then ((AVal.comp 0 r15.1).bind fun u16 =>
    (AVal.int? .i64 u16).bind fun n17 =>
    (AVal.comp 1 r15.1).bind fun u18 =>
    some ((AVal.tup [(AVal.int .i64 n17), u18]), r15.2)) else none))) := by
  generalize hh : run = R
  rw [run_is] at hh
  subst hh
  generalize hh : brun = R
  rw [brun_is] at hh
  subst hh
  generalize hh : l_strconv_Atoi_117_0 = R
  rw [l_strconv_Atoi_117_0_is] at hh
  subst hh
  generalize hh : k_strconv_Atoi_117_0 = R
  rw [k_strconv_Atoi_117_0_is] at hh
  subst hh
  kernel_rfl

theorem l_strconv_Atoi_117_0_eq (fuel d : Nat) (n : Nat) (x5 : ByteArray) (x6 : Int) (x47 : Sl) (x48 : Int) (x49 : Int) (h : AHeap) :
    l_strconv_Atoi_117_0 fuel d (n + 1) [(5, (AVal.str x5)), (6, (AVal.int .i64 x6)), (47, (AVal.slice x47)), (48, (AVal.int .i64 x48)), (49, (AVal.int .i64 x49))] h =
  (bif (decide (x49 < x48)) then ((AHeap.addr h 1 x47 x49).bind fun p1 =>
    (AHeap.cell h p1).bind fun u2 =>
    (AVal.int? .u8 u2).bind fun n3 =>
    (bif (decide ((9 : Int) < (IntKind.wrap .u8 (n3 - (48 : Int))))) then (some (.ret, [(2, (AVal.int .i64 (0 : Int))), (3, (AVal.iface T_strconv_Error (AVal.int .i64 (2 : Int)))), (5, (AVal.str x5)), (6, (AVal.int .i64 x6))], h)) else (l_strconv_Atoi_117_0 fuel d n [(5, (AVal.str x5)), (6, (AVal.int .i64 (IntKind.wrap .i64 ((IntKind.wrap .i64 (x6 * (10 : Int))) + (IntKind.wrap .i64 (IntKind.wrap .u8 (n3 - (48 : Int)))))))), (47, (AVal.slice x47)), (48, (AVal.int .i64 x48)), (49, (AVal.int .i64 (IntKind.wrap .i64 (x49 + (1 : Int)))))] h))) else (some ((.exit 0), [(2, AVal.bot), (3, AVal.bot), (5, (AVal.str x5)), (6, (AVal.int .i64 x6))], h))) := by
  generalize hh : l_strconv_Atoi_117_0 = R
  rw [l_strconv_Atoi_117_0_is] at hh
  subst hh
  kernel_rfl

theorem l_strconv_Atoi_117_0_0 (fuel d : Nat) (fr : Fr) (h : AHeap) :
    l_strconv_Atoi_117_0 fuel d 0 fr h =
  none := by
  generalize hh : l_strconv_Atoi_117_0 = R
  rw [l_strconv_Atoi_117_0_is] at hh
  subst hh
  kernel_rfl

theorem k_strconv_Atoi_117_0_x0 (fuel d : Nat) (x2 : AVal) (x3 : AVal) (x5 : ByteArray) (x6 : Int) (h : AHeap) :
    k_strconv_Atoi_117_0 fuel d (.exit 0) [(2, x2), (3, x3), (5, (AVal.str x5)), (6, (AVal.int .i64 x6))] h =
  (strAt x5 (0 : Int)).bind fun n1 =>
    ((bif (decide (n1 = (45 : Int))) then (some (.normal, [(6, (AVal.int .i64 (IntKind.wrap .i64 (0 - x6))))], h)) else (some (.normal, [(6, (AVal.int .i64 x6))], h)))).bind fun p2 =>
    k_strconv_Atoi_117_1 fuel d p2.1 p2.2.1 p2.2.2 := by
  generalize hh : k_strconv_Atoi_117_0 = R
  rw [k_strconv_Atoi_117_0_is] at hh
  subst hh
  generalize hh : k_strconv_Atoi_117_1 = R
  rw [k_strconv_Atoi_117_1_is] at hh
  subst hh
  kernel_rfl

theorem k_strconv_Atoi_117_0_r (fuel d : Nat) (x2 : Int) (x3 : AVal) (x5 : AVal) (x6 : AVal) (h : AHeap) :
    k_strconv_Atoi_117_0 fuel d .ret [(2, (AVal.int .i64 x2)), (3, x3), (5, x5), (6, x6)] h =
  some ((AVal.tup [(AVal.int .i64 x2), x3]), h) := by
  generalize hh : k_strconv_Atoi_117_0 = R
  rw [k_strconv_Atoi_117_0_is] at hh
  subst hh
  kernel_rfl

theorem k_strconv_Atoi_117_1_n (fuel d : Nat) (x6 : Int) (h : AHeap) :
    k_strconv_Atoi_117_1 fuel d .normal [(6, (AVal.int .i64 x6))] h =
  some ((AVal.tup [(AVal.int .i64 x6), AVal.nilif]), h) := by
  generalize hh : k_strconv_Atoi_117_1 = R
  rw [k_strconv_Atoi_117_1_is] at hh
  subst hh
  kernel_rfl

theorem e_bytealg_IndexByte (fuel d : Nat) (x0 : Sl) (x1 : Int) (h : AHeap) :
    run fuel d F_bytealg_IndexByte [(AVal.slice x0), (AVal.int .u8 x1)] h =
  (AHeap.sliceCells h 1 x0).bind fun c1 => (bytesFrom c1).bind fun b2 => some ((AVal.int .i64 (Lib.indexByte b2 (Int.toNat x1).toUInt8)), h) := by
  generalize hh : run = R
  rw [run_is] at hh
  subst hh
  cases d <;> kernel_rfl

end Go.Proofs.YtnkbhbkfbigbiaaDoor
