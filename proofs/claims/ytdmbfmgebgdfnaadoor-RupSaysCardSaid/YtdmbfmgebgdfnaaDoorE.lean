/-
 What each function does: printed by program, checked by the kernel.
-/
import Derived.Test.YtdmbfmgebgdfnaaDoorCtx
namespace Go.Proofs.YtdmbfmgebgdfnaaDoor
set_option linter.unusedVariables false
set_option maxRecDepth 100000
noncomputable def zoV (fuel d : Nat) : Run := fun fr h k => zf8 (Cf fuel zau) false (zak (C fuel) false d) (zak (C fuel) true d) 291 (csub [true, true, true, true, true, true, true, true, true, false, true, false, false] (zbV Go.Proofs.Tryd.f8)) (asub [true, true, true, true, true, true, true, true, true, false, true, false, false] an8) fr h k
noncomputable def zkp (fuel d : Nat) (n : Nat) (fr : Fr) (h : AH) : Option (zaj × Fr × AH) := ziV (zoV fuel d) (some [1, 2, 3, 9, 11, 13, 14, 15]) n fr h (kOut [1, 2, 3, 9, 11, 13, 14])
noncomputable def zb5 : Nat → Nat → Nat → Fr → AH → Option (zaj × Fr × AH) := hide zkp
theorem zjt : zb5 = zkp := zae _
noncomputable def zkG (fuel d : Nat) : zaj → Fr → AH → Option (AV × AH) := (zbG 0 (kSeq (Cf fuel zau) false (zak (C fuel) false d) (zak (C fuel) true d) 291 (csub [true, true, true, true, true, true, true, true, true, true] (zbV Go.Proofs.Tryd.f8)) (asub [true, true, true, true, true, true, true, true, true, true] an8) (kRet (Cf fuel zau) Go.Proofs.Tryd.f8.results.toList)))
noncomputable def zeu : Nat → Nat → zaj → Fr → AH → Option (AV × AH) := hide zkG
theorem zjE : zeu = zkG := zae _
noncomputable def zfY (fuel d : Nat) : Run := fun fr h k => zf8 (Cf fuel zau) false (zak (C fuel) false d) (zak (C fuel) true d) 291 (csub [true, true, true, true, true, true, true, true, true, true, false, true, false, false] (zbV Go.Proofs.Tryd.f8)) (asub [true, true, true, true, true, true, true, true, true, true, false, true, false, false] an8) fr h k
noncomputable def zko (fuel d : Nat) (n : Nat) (fr : Fr) (h : AH) : Option (zaj × Fr × AH) := ziV (zfY fuel d) (some [1, 2, 3, 9, 11, 13, 14, 16]) n fr h (kOut [8, 9])
noncomputable def zbh : Nat → Nat → Nat → Fr → AH → Option (zaj × Fr × AH) := hide zko
theorem zgD : zbh = zko := zae _
noncomputable def zkF (fuel d : Nat) : zaj → Fr → AH → Option (AV × AH) := (zbG 2 (kSeq (Cf fuel zau) false (zak (C fuel) false d) (zak (C fuel) true d) 291 (csub [true, true, true, true, true, true, true, true, true, true, true] (zbV Go.Proofs.Tryd.f8)) (asub [true, true, true, true, true, true, true, true, true, true, true] an8) (kRet (Cf fuel zau) Go.Proofs.Tryd.f8.results.toList)))
noncomputable def zbF : Nat → Nat → zaj → Fr → AH → Option (AV × AH) := hide zkF
theorem zgH : zbF = zkF := zae _
noncomputable def zkE (fuel d : Nat) (n : Nat) : zaj → Fr → AH → Option (zaj × Fr × AH) := (kSeq (Cf fuel zau) false (zak (C fuel) false d) (zak (C fuel) true d) 291 (csub [true, true, true, true, true, true, true, true, true, true, false, true, false, false, true, false, false, true, true, false, true] (zbV Go.Proofs.Tryd.f8)) (asub [true, true, true, true, true, true, true, true, true, true, false, true, false, false, true, false, false, true, true, false, true] an8) (kSeq (Cf fuel zau) false (zak (C fuel) false d) (zak (C fuel) true d) 291 (csub [true, true, true, true, true, true, true, true, true, true, false, true, false, false, true, false, false, true, true, true] (zbV Go.Proofs.Tryd.f8)) (asub [true, true, true, true, true, true, true, true, true, true, false, true, false, false, true, false, false, true, true, true] an8) (zbG 3 (kSeq (Cf fuel zau) false (zak (C fuel) false d) (zak (C fuel) true d) 291 (csub [true, true, true, true, true, true, true, true, true, true, false, true, false, false, true, true] (zbV Go.Proofs.Tryd.f8)) (asub [true, true, true, true, true, true, true, true, true, true, false, true, false, false, true, true] an8) (zo9 (zfY fuel d) (some [1, 2, 3, 9, 11, 13, 14, 16]) n (kOut [8, 9]))))))
noncomputable def zdj : Nat → Nat → Nat → zaj → Fr → AH → Option (zaj × Fr × AH) := hide zkE
theorem zjD : zdj = zkE := zae _
noncomputable def zoU (fuel d : Nat) : Run := fun fr h k => zf8 (Cf fuel zau) false (zak (C fuel) false d) (zak (C fuel) true d) 291 (csub [true, true, true, true, true, true, true, true, true, true, false, true, false, false, true, false, false, true, true, true, true, true, true, true, false, true, false, false] (zbV Go.Proofs.Tryd.f8)) (asub [true, true, true, true, true, true, true, true, true, true, false, true, false, false, true, false, false, true, true, true, true, true, true, true, false, true, false, false] an8) fr h k
noncomputable def zkn (fuel d : Nat) (n : Nat) (fr : Fr) (h : AH) : Option (zaj × Fr × AH) := ziV (zoU fuel d) (some [1, 2, 3, 9, 11, 13, 14, 16, 21, 22, 23]) n fr h (kOut [1, 2, 3, 9, 11, 13, 14, 16, 21, 22])
noncomputable def zb4 : Nat → Nat → Nat → Fr → AH → Option (zaj × Fr × AH) := hide zkn
theorem zjs : zb4 = zkn := zae _
noncomputable def zkD (fuel d : Nat) (n : Nat) : zaj → Fr → AH → Option (zaj × Fr × AH) := (zbG 4 (kSeq (Cf fuel zau) false (zak (C fuel) false d) (zak (C fuel) true d) 291 (csub [true, true, true, true, true, true, true, true, true, true, false, true, false, false, true, false, false, true, true, true, true, true, true, true, true] (zbV Go.Proofs.Tryd.f8)) (asub [true, true, true, true, true, true, true, true, true, true, false, true, false, false, true, false, false, true, true, true, true, true, true, true, true] an8) (zbG 3 (kSeq (Cf fuel zau) false (zak (C fuel) false d) (zak (C fuel) true d) 291 (csub [true, true, true, true, true, true, true, true, true, true, false, true, false, false, true, true] (zbV Go.Proofs.Tryd.f8)) (asub [true, true, true, true, true, true, true, true, true, true, false, true, false, false, true, true] an8) (zo9 (zfY fuel d) (some [1, 2, 3, 9, 11, 13, 14, 16]) n (kOut [8, 9]))))))
noncomputable def zdi : Nat → Nat → Nat → zaj → Fr → AH → Option (zaj × Fr × AH) := hide zkD
theorem zjC : zdi = zkD := zae _
noncomputable def zkC (fuel d : Nat) (n : Nat) : zaj → Fr → AH → Option (zaj × Fr × AH) := (kOut [1, 2, 3, 9, 11, 13, 14, 16, 24])
noncomputable def zet : Nat → Nat → Nat → zaj → Fr → AH → Option (zaj × Fr × AH) := hide zkC
theorem zjB : zet = zkC := zae _
noncomputable def zkB (fuel d : Nat) (n : Nat) : zaj → Fr → AH → Option (zaj × Fr × AH) := (kOut [1, 2, 3, 9, 11, 13, 14, 16, 24])
noncomputable def zes : Nat → Nat → Nat → zaj → Fr → AH → Option (zaj × Fr × AH) := hide zkB
theorem zjA : zes = zkB := zae _
noncomputable def zkA (fuel d : Nat) (n : Nat) : zaj → Fr → AH → Option (zaj × Fr × AH) := (zbG 6 (kSeq (Cf fuel zau) false (zak (C fuel) false d) (zak (C fuel) true d) 291 (csub [true, true, true, true, true, true, true, true, true, true, false, true, false, false, true, false, false, true, true, true, true, true, true, true, true, true, true] (zbV Go.Proofs.Tryd.f8)) (asub [true, true, true, true, true, true, true, true, true, true, false, true, false, false, true, false, false, true, true, true, true, true, true, true, true, true, true] an8) (zbG 3 (kSeq (Cf fuel zau) false (zak (C fuel) false d) (zak (C fuel) true d) 291 (csub [true, true, true, true, true, true, true, true, true, true, false, true, false, false, true, true] (zbV Go.Proofs.Tryd.f8)) (asub [true, true, true, true, true, true, true, true, true, true, false, true, false, false, true, true] an8) (zo9 (zfY fuel d) (some [1, 2, 3, 9, 11, 13, 14, 16]) n (kOut [8, 9]))))))
noncomputable def zer : Nat → Nat → Nat → zaj → Fr → AH → Option (zaj × Fr × AH) := hide zkA
theorem zjz : zer = zkA := zae _
theorem zp4 (fuel d : Nat) (x0 : Sl) (x1 : Sl) (x2 : Sl) (x3 : Sl) (h : AH) :
   run fuel (d + 1) zau [(AV.slice x0), .slice x1, .slice x2, .slice x3] h =
 (run fuel d ziz [] h).bind fun r1 =>
   (AV.bool? r1.1).bind fun b2 =>
   (bif (!b2) then (some ((AV.bool false), r1.2)) else (((bif ((bif (bif (bif (decide ((100 : Int) < (x0.len : Int))) then true else (decide ((30 : Int) < (x1.len : Int)))) then true else (decide ((12 : Int) < (x2.len : Int)))) then true else (decide ((12 : Int) < (x3.len : Int)))) == false) then ((run fuel d zcB [(AV.slice x2)] r1.2).bind fun r3 =>
   (AV.bool? r3.1).bind fun b4 =>
   some ((AV.bool (!b4)), r3.2)) else (some ((AV.bool true), r1.2)) : Option (AV × AH))).bind fun r5 =>
   (AV.bool? r5.1).bind fun b6 =>
   ((bif (b6 == false) then ((run fuel d zcB [(AV.slice x3)] r5.2).bind fun r7 =>
   (AV.bool? r7.1).bind fun b8 =>
   some ((AV.bool (!b8)), r7.2)) else (some ((AV.bool true), r5.2)) : Option (AV × AH))).bind fun r9 =>
   (AV.bool? r9.1).bind fun b10 =>
   (bif b10 then (some ((AV.bool b2), r9.2)) else ((run fuel d zcx [(AV.slice x0), .int .i64 12] r9.2).bind fun r11 =>
   (AV.slice? r11.1).bind fun s12 =>
   (run fuel d ziA [(AV.int .i64 12), .slice s12] r11.2).bind fun r13 =>
   (bif AV.isTup 2 r13.1 then ((AV.comp 0 r13.1).bind fun u14 =>
   (AV.ptr? u14).bind fun p15 =>
   (AV.comp 1 r13.1).bind fun u16 =>
   (zd0 .ptr (AV.ptr p15)).bind fun b17 =>
   ((bif ((b17) == false) then ((zd0 .iface u16).bind fun b18 =>
   some ((AV.bool (!b18)), (AH.push r13.2 1 [(AV.int .i64 12), .slice s12]))) else (some ((AV.bool true), (AH.push r13.2 1 [(AV.int .i64 12), .slice s12]))) : Option (AV × AH))).bind fun r19 =>
   (AV.bool? r19.1).bind fun b20 =>
   (bif b20 then (some ((AV.bool false), r19.2)) else ((zb5 fuel d fuel [(1, .slice x1), (2, .slice x2), (3, .slice x3), (9, .bool b2), (11, .ptr p15), (13, (AV.ptr (Pt.mk ⟨AH.next r13.2, 0, 0⟩ 2))), (14, .slice Sl.nil), (15, .int .i64 0)] r19.2).bind fun p21 =>
   zeu fuel d p21.1 p21.2.1 p21.2.2))) else none))))) := by
 generalize hh : run = R
 rw [zaD] at hh
 subst hh
 generalize hh : zb5 = R
 rw [zjt] at hh
 subst hh
 generalize hh : zeu = R
 rw [zjE] at hh
 subst hh
 kernel_rfl
theorem znM (fuel d : Nat) (n : Nat) (x1 : Sl) (x2 : Sl) (x3 : Sl) (x9 : Bool) (x11 : Pt) (x13 : Pt) (x14 : Sl) (x15 : Int) (h : AH) :
   zb5 fuel d (n + 1) [(1, .slice x1), (2, .slice x2), (3, .slice x3), (9, .bool x9), (11, .ptr x11), (13, .ptr x13), (14, .slice x14), (15, .int .i64 x15)] h =
 (bif (decide (x15 < (x2.len : Int))) then ((AH.addr h 1 x2 x15).bind fun p1 =>
   (AH.cell h p1).bind fun u2 =>
   (AV.int? .i64 u2).bind fun n3 =>
   (run fuel d ziZ [(AV.int .i64 n3), .int .i64 12] h).bind fun r4 =>
   (AV.int? .i64 r4.1).bind fun n5 =>
   (AH.append r4.2 false 1 8 x14 1 [(AV.int .i64 n5)]).bind fun a6 =>
   zb5 fuel d n [(1, .slice x1), (2, .slice x2), (3, .slice x3), (9, .bool x9), (11, .ptr x11), (13, .ptr x13), (14, .slice a6.1), (15, (AV.int .i64 (IntKind.wrap .i64 (x15 + (1 : Int)))))] a6.2) else (some ((.exit 0), [(1, .slice x1), (2, .slice x2), (3, .slice x3), (9, .bool x9), (11, .ptr x11), (13, .ptr x13), (14, .slice x14)], h))) := by
 generalize hh : run = R
 rw [zaD] at hh
 subst hh
 generalize hh : zb5 = R
 rw [zjt] at hh
 subst hh
 kernel_rfl
theorem znS (fuel d : Nat) (x1 : Sl) (x2 : Sl) (x3 : Sl) (x9 : Bool) (x11 : Pt) (x13 : Pt) (x14 : Sl) (h : AH) :
   zeu fuel d (.exit 0) [(1, .slice x1), (2, .slice x2), (3, .slice x3), (9, .bool x9), (11, .ptr x11), (13, .ptr x13), (14, .slice x14)] h =
 (zbh fuel d fuel [(1, .slice x1), (2, .slice x2), (3, .slice x3), (9, .bool x9), (11, .ptr x11), (13, .ptr x13), (14, .slice x14), (16, .int .i64 0)] h).bind fun p1 =>
   zbF fuel d p1.1 p1.2.1 p1.2.2 := by
 generalize hh : zeu = R
 rw [zjE] at hh
 subst hh
 generalize hh : zbh = R
 rw [zgD] at hh
 subst hh
 generalize hh : zbF = R
 rw [zgH] at hh
 subst hh
 kernel_rfl
theorem znL (fuel d : Nat) (n : Nat) (x1 : Sl) (x2 : Sl) (x3 : Sl) (x9 : Bool) (x11 : Pt) (x13 : Pt) (x14 : Sl) (x16 : Int) (h : AH) :
   zbh fuel d (n + 1) [(1, .slice x1), (2, .slice x2), (3, .slice x3), (9, .bool x9), (11, .ptr x11), (13, .ptr x13), (14, .slice x14), (16, .int .i64 x16)] h =
 (bif (decide (x16 ≤ (x1.len : Int))) then ((Pt.chk x13).bind fun p1 =>
   (Pt.field 1 p1).bind fun p2 =>
   (AH.cell h p2).bind fun u3 =>
   (AV.slice? u3).bind fun s4 =>
   (run fuel d zlW [(AV.int .i64 12), .slice s4, .slice x3] h).bind fun r5 =>
   (bif AV.isTup 2 r5.1 then ((AV.comp 0 r5.1).bind fun u6 =>
   (AV.slice? u6).bind fun s7 =>
   (AV.comp 1 r5.1).bind fun u8 =>
   (AV.bool? u8).bind fun b9 =>
   (Pt.chk x13).bind fun p10 =>
   (Pt.field 1 p10).bind fun p11 =>
   (AH.cell r5.2 p11).bind fun u12 =>
   (AV.slice? u12).bind fun s13 =>
   (run fuel d za6 [(AV.int .i64 12), .slice s13, .slice x3] r5.2).bind fun r14 =>
   (bif AV.isTup 2 r14.1 then ((AV.comp 0 r14.1).bind fun u15 =>
   (AV.slice? u15).bind fun s16 =>
   (AV.comp 1 r14.1).bind fun u17 =>
   (AV.bool? u17).bind fun b18 =>
   ((run fuel d zdv [(AV.slice s7), .slice s16] r14.2).bind fun r19 =>
   (AV.bool? r19.1).bind fun b20 =>
   (bif (!b20) then (some (.normal, [(1, .slice x1), (2, .slice x2), (3, .slice x3), (9, .bool x9), (11, .ptr x11), (13, .ptr x13), (14, .slice x14), (16, .int .i64 x16), (168, .bool true)], r19.2)) else ((bif (!(b9 == b18)) then (some (.normal, [(1, .slice x1), (2, .slice x2), (3, .slice x3), (9, .bool x9), (11, .ptr x11), (13, .ptr x13), (14, .slice x14), (16, .int .i64 x16), (168, .bool true)], r19.2)) else ((run fuel d za5 [(AV.ptr x11), .slice x14] r19.2).bind fun r21 =>
   (AV.bool? r21.1).bind fun b22 =>
   (run fuel d zay [(AV.ptr x13), .slice x14] r21.2).bind fun r23 =>
   (AV.bool? r23.1).bind fun b24 =>
   (bif (!(b22 == b24)) then (some (.normal, [(1, .slice x1), (2, .slice x2), (3, .slice x3), (9, .bool x9), (11, .ptr x11), (13, .ptr x13), (14, .slice x14), (16, .int .i64 x16), (168, .bool true)], r23.2)) else ((run fuel d zeE [(AV.ptr x11), .slice x14] r23.2).bind fun r25 =>
   (AV.bool? r25.1).bind fun b26 =>
   (run fuel d zaF [(AV.ptr x13), .slice x14] r25.2).bind fun r27 =>
   (AV.bool? r27.1).bind fun b28 =>
   (bif (!(b26 == b28)) then (some (.normal, [(1, .slice x1), (2, .slice x2), (3, .slice x3), (9, .bool x9), (11, .ptr x11), (13, .ptr x13), (14, .slice x14), (16, .int .i64 x16), (168, .bool true)], r27.2)) else ((run fuel d zmJ [(AV.ptr x11), .slice x14] r27.2).bind fun r29 =>
   (AV.bool? r29.1).bind fun b30 =>
   (run fuel d zdY [(AV.ptr x13), .slice x14] r29.2).bind fun r31 =>
   (AV.bool? r31.1).bind fun b32 =>
   (bif (!(b30 == b32)) then (some (.normal, [(1, .slice x1), (2, .slice x2), (3, .slice x3), (9, .bool x9), (11, .ptr x11), (13, .ptr x13), (14, .slice x14), (16, .int .i64 x16), (168, .bool true)], r31.2)) else ((run fuel d zmI [(AV.ptr x11)] r31.2).bind fun r33 =>
   (AV.int? .i64 r33.1).bind fun n34 =>
   (Pt.chk x13).bind fun p35 =>
   (Pt.field 1 p35).bind fun p36 =>
   (AH.cell r33.2 p36).bind fun u37 =>
   (AV.slice? u37).bind fun s38 =>
   same ((AH.cell r31.2 p36).bind fun u43 =>
   (AV.slice? u43).bind fun s44 =>
   some ((AV.slice s44), r31.2)) ((AV.slice s38), r31.2) (
   (bif (!decide (n34 = (s38.len : Int))) then (some (.normal, [(1, .slice x1), (2, .slice x2), (3, .slice x3), (9, .bool x9), (11, .ptr x11), (13, .ptr x13), (14, .slice x14), (16, .int .i64 x16), (168, .bool true)], r33.2)) else ((run fuel d za5 [(AV.ptr x11), .slice x2] r33.2).bind fun r39 =>
   (AV.bool? r39.1).bind fun b40 =>
   (run fuel d zay [(AV.ptr x13), .slice x2] r39.2).bind fun r41 =>
   (AV.bool? r41.1).bind fun b42 =>
   some (.normal, [(1, .slice x1), (2, .slice x2), (3, .slice x3), (9, .bool x9), (11, .ptr x11), (13, .ptr x13), (14, .slice x14), (16, .int .i64 x16), (168, (AV.bool (!(b40 == b42))))], r41.2))))))))))))))).bind fun p45 =>
   zdj fuel d n p45.1 p45.2.1 p45.2.2) else none)) else none)) else (some ((.exit 2), [(8, AV.bot), (9, .bool x9)], h))) := by
 generalize hh : run = R
 rw [zaD] at hh
 subst hh
 generalize hh : zbh = R
 rw [zgD] at hh
 subst hh
 generalize hh : zdj = R
 rw [zjD] at hh
 subst hh
 kernel_rfl
theorem znR (fuel d : Nat) (x8 : AV) (x9 : Bool) (h : AH) :
   zbF fuel d (.exit 2) [(8, x8), (9, .bool x9)] h =
 (run fuel d ziA [(AV.int .i64 3), (AV.slice (Sl.lst 2 true [(AV.slice (Sl.lst 1 true [(AV.int .i64 1)])), (AV.slice (Sl.lst 1 true [(AV.int .i64 4)]))]))] h).bind fun r1 =>
   (bif AV.isTup 2 r1.1 then ((AV.comp 0 r1.1).bind fun u2 =>
   (AV.ptr? u2).bind fun p3 =>
   (AV.comp 1 r1.1).bind fun u4 =>
   ((bif (x9 == true) then ((run fuel d zmH [u4, .int .i64 104] r1.2).bind fun r5 =>
   (AV.bool? r5.1).bind fun b6 =>
   some ((AV.bool b6), r5.2)) else (some ((AV.bool false), r1.2)) : Option (AV × AH))).bind fun r7 =>
   (AV.bool? r7.1).bind fun b8 =>
   some ((AV.bool b8), r7.2)) else none) := by
 generalize hh : run = R
 rw [zaD] at hh
 subst hh
 generalize hh : zbF = R
 rw [zgH] at hh
 subst hh
 kernel_rfl
theorem zj6 (fuel d : Nat) (x8 : Bool) (x9 : AV) (h : AH) :
   zbF fuel d .ret [(8, .bool x8), (9, x9)] h =
 some ((AV.bool x8), h) := by
 generalize hh : zbF = R
 rw [zgH] at hh
 subst hh
 kernel_rfl
theorem zog (fuel d : Nat) (n : Nat) (x1 : Sl) (x2 : Sl) (x3 : Sl) (x9 : Bool) (x11 : Pt) (x13 : Pt) (x14 : Sl) (x16 : Int) (x168 : Bool) (h : AH) :
   zdj fuel d n .normal [(1, .slice x1), (2, .slice x2), (3, .slice x3), (9, .bool x9), (11, .ptr x11), (13, .ptr x13), (14, .slice x14), (16, .int .i64 x16), (168, .bool x168)] h =
 (bif x168 then (some (.ret, [(8, .bool false), (9, .bool x9)], h)) else ((bif (decide (x16 = (x1.len : Int))) then (some ((.exit 2), [(8, AV.bot), (9, .bool x9)], h)) else ((AH.addr h 3 x1 x16).bind fun p1 =>
   (AH.cellsAt h 3 p1).bind fun c2 =>
   (bif (!false && Nat.beq (List.length c2) 3 && List.all c2 AV.isCell) then ((AH.storeAt (AH.push h 1 [(AV.int .i64 0), .int .i64 0, .slice Sl.nil]) c2 (Pt.mk ⟨AH.next h, 0, 0⟩ 3)).bind fun h3 =>
   (Pt.field 2 (Pt.mk ⟨AH.next h, 0, 0⟩ 3)).bind fun p4 =>
   (AH.cell h3 p4).bind fun u5 =>
   (AV.slice? u5).bind fun s6 =>
   ((bif ((decide ((10 : Int) < (s6.len : Int))) == false) then ((Pt.field 2 (Pt.mk ⟨AH.next h, 0, 0⟩ 3)).bind fun p7 =>
   (AH.cell h3 p7).bind fun u8 =>
   (AV.slice? u8).bind fun s9 =>
   (run fuel d zcB [(AV.slice s9)] h3).bind fun r10 =>
   (AV.bool? r10.1).bind fun b11 =>
   some ((AV.bool (!b11)), r10.2)) else (some ((AV.bool true), h3)) : Option (AV × AH))).bind fun r12 =>
   (AV.bool? r12.1).bind fun b13 =>
   (bif b13 then (some (.ret, [(8, .bool x9), (9, .bool x9)], r12.2)) else ((zb4 fuel d fuel [(1, .slice x1), (2, .slice x2), (3, .slice x3), (9, .bool x9), (11, .ptr x11), (13, .ptr x13), (14, .slice x14), (16, .int .i64 x16), (21, (AV.ptr (Pt.mk ⟨AH.next h, 0, 0⟩ 3))), (22, .slice Sl.nil), (23, .int .i64 0)] r12.2).bind fun p14 =>
   zdi fuel d n p14.1 p14.2.1 p14.2.2))) else (none)))))) := by
 generalize hh : run = R
 rw [zaD] at hh
 subst hh
 generalize hh : zdj = R
 rw [zjD] at hh
 subst hh
 generalize hh : zb4 = R
 rw [zjs] at hh
 subst hh
 generalize hh : zdi = R
 rw [zjC] at hh
 subst hh
 kernel_rfl
theorem znK (fuel d : Nat) (n : Nat) (x1 : Sl) (x2 : Sl) (x3 : Sl) (x9 : Bool) (x11 : Pt) (x13 : Pt) (x14 : Sl) (x16 : Int) (x21 : Pt) (x22 : Sl) (x23 : Int) (h : AH) :
   zb4 fuel d (n + 1) [(1, .slice x1), (2, .slice x2), (3, .slice x3), (9, .bool x9), (11, .ptr x11), (13, .ptr x13), (14, .slice x14), (16, .int .i64 x16), (21, .ptr x21), (22, .slice x22), (23, .int .i64 x23)] h =
 (Pt.field 2 x21).bind fun p1 =>
   (AH.cell h p1).bind fun u2 =>
   (AV.slice? u2).bind fun s3 =>
   (bif (decide (x23 < (s3.len : Int))) then ((Pt.field 2 x21).bind fun p4 =>
   (AH.cell h p4).bind fun u5 =>
   (AV.slice? u5).bind fun s6 =>
   (AH.addr h 1 s6 x23).bind fun p7 =>
   (AH.cell h p7).bind fun u8 =>
   (AV.int? .i64 u8).bind fun n9 =>
   (run fuel d ziZ [(AV.int .i64 n9), .int .i64 12] h).bind fun r10 =>
   (AV.int? .i64 r10.1).bind fun n11 =>
   (AH.append r10.2 false 1 8 x22 1 [(AV.int .i64 n11)]).bind fun a12 =>
   zb4 fuel d n [(1, .slice x1), (2, .slice x2), (3, .slice x3), (9, .bool x9), (11, .ptr x11), (13, .ptr x13), (14, .slice x14), (16, .int .i64 x16), (21, .ptr x21), (22, .slice a12.1), (23, (AV.int .i64 (IntKind.wrap .i64 (x23 + (1 : Int)))))] a12.2) else (some ((.exit 4), [(1, .slice x1), (2, .slice x2), (3, .slice x3), (9, .bool x9), (11, .ptr x11), (13, .ptr x13), (14, .slice x14), (16, .int .i64 x16), (21, .ptr x21), (22, .slice x22)], h))) := by
 generalize hh : run = R
 rw [zaD] at hh
 subst hh
 generalize hh : zb4 = R
 rw [zjs] at hh
 subst hh
 kernel_rfl
theorem znQ (fuel d : Nat) (n : Nat) (x1 : Sl) (x2 : Sl) (x3 : Sl) (x9 : Bool) (x11 : Pt) (x13 : Pt) (x14 : Sl) (x16 : Int) (x21 : Pt) (x22 : Sl) (h : AH) :
   zdi fuel d n (.exit 4) [(1, .slice x1), (2, .slice x2), (3, .slice x3), (9, .bool x9), (11, .ptr x11), (13, .ptr x13), (14, .slice x14), (16, .int .i64 x16), (21, .ptr x21), (22, .slice x22)] h =
 (Pt.field 0 x21).bind fun p1 =>
   (AH.cell h p1).bind fun u2 =>
   (AV.int? .i64 u2).bind fun n3 =>
   ((bif (decide (n3 = (1 : Int))) then ((run fuel d zdq [(AV.ptr x11), .slice x22] h).bind fun r4 =>
   (AV.bool? r4.1).bind fun b5 =>
   (run fuel d zdz [(AV.ptr x13), .slice x22] r4.2).bind fun r6 =>
   (AV.bool? r6.1).bind fun b7 =>
   ((bif ((b5 == b7) == true) then ((AH.append r6.2 false 1 8 x22 1 [(AV.int .i64 13)]).bind fun a8 =>
   (run fuel d zdq [(AV.ptr x11), .slice a8.1] a8.2).bind fun r9 =>
   (AV.bool? r9.1).bind fun b10 =>
   (AH.append r9.2 false 1 8 x22 1 [(AV.int .i64 13)]).bind fun a11 =>
   (run fuel d zdz [(AV.ptr x13), .slice a11.1] a11.2).bind fun r12 =>
   (AV.bool? r12.1).bind fun b13 =>
   some ((AV.bool (b10 == b13)), r12.2)) else (some ((AV.bool false), r6.2)) : Option (AV × AH))).bind fun r14 =>
   (AV.bool? r14.1).bind fun b15 =>
   some (.normal, [(1, .slice x1), (2, .slice x2), (3, .slice x3), (9, .bool x9), (11, .ptr x11), (13, .ptr x13), (14, .slice x14), (16, .int .i64 x16), (24, .bool b15)], r14.2)) else (((bif (decide (n3 = (2 : Int))) then ((run fuel d zeI [(AV.ptr x11), .slice x22] h).bind fun r16 =>
   (AV.bool? r16.1).bind fun b17 =>
   (run fuel d zez [(AV.ptr x13), .slice x22] r16.2).bind fun r18 =>
   (AV.bool? r18.1).bind fun b19 =>
   some (.normal, [(1, .slice x1), (2, .slice x2), (3, .slice x3), (9, .bool x9), (11, .ptr x11), (13, .ptr x13), (14, .slice x14), (16, .int .i64 x16), (24, (AV.bool (b17 == b19)))], r18.2)) else ((Pt.chk x13).bind fun p20 =>
   (Pt.field 1 p20).bind fun p21 =>
   (AH.cell h p21).bind fun u22 =>
   (AV.slice? u22).bind fun s23 =>
   ((bif (decide ((0 : Int) < (s23.len : Int))) then ((Pt.chk x13).bind fun p24 =>
   (Pt.field 1 p24).bind fun p25 =>
   (AH.cell h p25).bind fun u26 =>
   (AV.slice? u26).bind fun s27 =>
   (Pt.field 1 x21).bind fun p28 =>
   (AH.cell h p28).bind fun u29 =>
   (AV.int? .i64 u29).bind fun n30 =>
   (Pt.chk x13).bind fun p31 =>
   (Pt.field 1 p31).bind fun p32 =>
   (AH.cell h p32).bind fun u33 =>
   (AV.slice? u33).bind fun s34 =>
   (bif decide ((s34.len : Int) = 0) then (none) else ((Pt.chk x13).bind fun p35 =>
   (Pt.field 1 p35).bind fun p36 =>
   (AH.cell h p36).bind fun u37 =>
   (AV.slice? u37).bind fun s38 =>
   (Pt.chk x13).bind fun p39 =>
   (Pt.field 1 p39).bind fun p40 =>
   (AH.cell h p40).bind fun u41 =>
   (AV.slice? u41).bind fun s42 =>
   (bif decide ((s42.len : Int) = 0) then (none) else ((AH.addr h 1 s27 (Int.tmod (IntKind.wrap .i64 ((Int.tmod n30 (s34.len : Int)) + (s38.len : Int))) (s42.len : Int))).bind fun p43 =>
   (AH.cell h p43).bind fun u44 =>
   (AV.slice? u44).bind fun s45 =>
   (run fuel d zeI [(AV.ptr x11), .slice s45] h).bind fun r46 =>
   (AV.bool? r46.1).bind fun b47 =>
   ((bif (b47 == true) then ((run fuel d zez [(AV.ptr x13), .slice s45] r46.2).bind fun r48 =>
   (AV.bool? r48.1).bind fun b49 =>
   some ((AV.bool b49), r48.2)) else (some ((AV.bool false), r46.2)) : Option (AV × AH))).bind fun r50 =>
   (AV.bool? r50.1).bind fun b51 =>
   some (.normal, [(1, .slice x1), (2, .slice x2), (3, .slice x3), (9, .bool x9), (11, .ptr x11), (13, .ptr x13), (14, .slice x14), (16, .int .i64 x16), (24, .bool b51)], r50.2)))))) else (some (.normal, [(1, .slice x1), (2, .slice x2), (3, .slice x3), (9, .bool x9), (11, .ptr x11), (13, .ptr x13), (14, .slice x14), (16, .int .i64 x16), (24, .bool true)], h)))).bind fun p52 =>
   zet fuel d n p52.1 p52.2.1 p52.2.2))).bind fun p53 =>
   zes fuel d n p53.1 p53.2.1 p53.2.2))).bind fun p54 =>
   zer fuel d n p54.1 p54.2.1 p54.2.2 := by
 generalize hh : run = R
 rw [zaD] at hh
 subst hh
 generalize hh : zdi = R
 rw [zjC] at hh
 subst hh
 generalize hh : zet = R
 rw [zjB] at hh
 subst hh
 generalize hh : zes = R
 rw [zjA] at hh
 subst hh
 generalize hh : zer = R
 rw [zjz] at hh
 subst hh
 kernel_rfl
theorem zj5 (fuel d : Nat) (n : Nat) (x1 : Sl) (x2 : Sl) (x3 : Sl) (x9 : Bool) (x11 : Pt) (x13 : Pt) (x14 : Sl) (x16 : Int) (x24 : Bool) (h : AH) :
   zet fuel d n .normal [(1, .slice x1), (2, .slice x2), (3, .slice x3), (9, .bool x9), (11, .ptr x11), (13, .ptr x13), (14, .slice x14), (16, .int .i64 x16), (24, .bool x24)] h =
 some (.normal, [(1, .slice x1), (2, .slice x2), (3, .slice x3), (9, .bool x9), (11, .ptr x11), (13, .ptr x13), (14, .slice x14), (16, .int .i64 x16), (24, .bool x24)], h) := by
 generalize hh : zet = R
 rw [zjB] at hh
 subst hh
 kernel_rfl
theorem zhj (fuel d : Nat) (n : Nat) (x1 : Sl) (x2 : Sl) (x3 : Sl) (x9 : Bool) (x11 : Pt) (x13 : Pt) (x14 : Sl) (x16 : Int) (x24 : Bool) (h : AH) :
   zes fuel d n .normal [(1, .slice x1), (2, .slice x2), (3, .slice x3), (9, .bool x9), (11, .ptr x11), (13, .ptr x13), (14, .slice x14), (16, .int .i64 x16), (24, .bool x24)] h =
 some (.normal, [(1, .slice x1), (2, .slice x2), (3, .slice x3), (9, .bool x9), (11, .ptr x11), (13, .ptr x13), (14, .slice x14), (16, .int .i64 x16), (24, .bool x24)], h) := by
 generalize hh : zes = R
 rw [zjA] at hh
 subst hh
 kernel_rfl
theorem ze7 (fuel d : Nat) (n : Nat) (x1 : Sl) (x2 : Sl) (x3 : Sl) (x9 : Bool) (x11 : Pt) (x13 : Pt) (x14 : Sl) (x16 : Int) (x24 : Bool) (h : AH) :
   zer fuel d n .normal [(1, .slice x1), (2, .slice x2), (3, .slice x3), (9, .bool x9), (11, .ptr x11), (13, .ptr x13), (14, .slice x14), (16, .int .i64 x16), (24, .bool x24)] h =
 (bif (!x24) then (some (.ret, [(8, .bool false), (9, .bool x9)], h)) else (zbh fuel d n [(1, .slice x1), (2, .slice x2), (3, .slice x3), (9, .bool x9), (11, .ptr x11), (13, .ptr x13), (14, .slice x14), (16, (AV.int .i64 (IntKind.wrap .i64 (x16 + (1 : Int)))))] h)) := by
 generalize hh : zbh = R
 rw [zgD] at hh
 subst hh
 generalize hh : zer = R
 rw [zjz] at hh
 subst hh
 kernel_rfl
theorem zq9 (fuel d : Nat)  (h : AH) :
   brun fuel (d + 1) ziz [] h =
 (run fuel d ziA [(AV.int .i64 1), (AV.slice (Sl.lst 2 true [(AV.slice (Sl.lst 1 true [(AV.int .i64 1)])), (AV.slice (Sl.lst 1 true [(AV.int .i64 (-1 : Int))]))]))] h).bind fun r1 =>
   (bif AV.isTup 2 r1.1 then ((AV.comp 0 r1.1).bind fun u2 =>
   (AV.ptr? u2).bind fun p3 =>
   (AV.comp 1 r1.1).bind fun u4 =>
   (zd0 .ptr (AV.ptr p3)).bind fun b5 =>
   ((bif ((b5) == false) then ((zd0 .iface u4).bind fun b6 =>
   some ((AV.bool (!b6)), r1.2)) else (some ((AV.bool true), r1.2)) : Option (AV × AH))).bind fun r7 =>
   (AV.bool? r7.1).bind fun b8 =>
   (bif b8 then (some ((AV.bool false), r7.2)) else ((run fuel d ziA [(AV.int .i64 1), .slice Sl.nil] r7.2).bind fun r9 =>
   (bif AV.isTup 2 r9.1 then ((AV.comp 0 r9.1).bind fun u10 =>
   (AV.ptr? u10).bind fun p11 =>
   (AV.comp 1 r9.1).bind fun u12 =>
   (run fuel d za5 [(AV.ptr p3), .slice Sl.nil] r9.2).bind fun r13 =>
   (AV.bool? r13.1).bind fun b14 =>
   ((bif (b14 == true) then ((zd0 .ptr (AV.ptr p11)).bind fun b15 =>
   some ((AV.bool (!b15)), r13.2)) else (some ((AV.bool false), r13.2)) : Option (AV × AH))).bind fun r16 =>
   (AV.bool? r16.1).bind fun b17 =>
   ((bif (b17 == true) then ((run fuel d za5 [(AV.ptr p11), .slice Sl.nil] r16.2).bind fun r18 =>
   (AV.bool? r18.1).bind fun b19 =>
   some ((AV.bool (!b19)), r18.2)) else (some ((AV.bool false), r16.2)) : Option (AV × AH))).bind fun r20 =>
   (AV.bool? r20.1).bind fun b21 =>
   some ((AV.bool b21), r20.2)) else none)))) else none) := by
 generalize hh : run = R
 rw [zaD] at hh
 subst hh
 generalize hh : brun = R
 rw [zcI] at hh
 subst hh
 kernel_rfl
noncomputable def zlw (fuel d : Nat) : Run := fun fr h k => zf8 (Cf fuel zcx) false (zak (C fuel) false d) (zak (C fuel) true d) 55 (csub [true, true, true, true, false, true, false, false] (zbV Go.Proofs.Tryd.f10)) (asub [true, true, true, true, false, true, false, false] an10) fr h k
noncomputable def zk2 (fuel d : Nat) (n : Nat) (fr : Fr) (h : AH) : Option (zaj × Fr × AH) := ziV (zlw fuel d) (some [0, 1, 5, 6, 7]) n fr h (kOut [5, 6])
noncomputable def zbR : Nat → Nat → Nat → Fr → AH → Option (zaj × Fr × AH) := hide zk2
theorem zg1 : zbR = zk2 := zae _
noncomputable def zlb (fuel d : Nat) : zaj → Fr → AH → Option (AV × AH) := (zbG 0 (kSeq (Cf fuel zcx) false (zak (C fuel) false d) (zak (C fuel) true d) 55 (csub [true, true, true, true, true] (zbV Go.Proofs.Tryd.f10)) (asub [true, true, true, true, true] an10) (kRet (Cf fuel zcx) Go.Proofs.Tryd.f10.results.toList)))
noncomputable def zcp : Nat → Nat → zaj → Fr → AH → Option (AV × AH) := hide zlb
theorem zj4 : zcp = zlb := zae _
noncomputable def zla (fuel d : Nat) (n : Nat) : zaj → Fr → AH → Option (zaj × Fr × AH) := (kSeq (Cf fuel zcx) false (zak (C fuel) false d) (zak (C fuel) true d) 55 (csub [true, true, true, true, false, true, false, false, true, false, false, true] (zbV Go.Proofs.Tryd.f10)) (asub [true, true, true, true, false, true, false, false, true, false, false, true] an10) (zbG 1 (kSeq (Cf fuel zcx) false (zak (C fuel) false d) (zak (C fuel) true d) 55 (csub [true, true, true, true, false, true, false, false, true, true] (zbV Go.Proofs.Tryd.f10)) (asub [true, true, true, true, false, true, false, false, true, true] an10) (zo9 (zlw fuel d) (some [0, 1, 5, 6, 7]) n (kOut [5, 6])))))
noncomputable def zdy : Nat → Nat → Nat → zaj → Fr → AH → Option (zaj × Fr × AH) := hide zla
theorem zj3 : zdy = zla := zae _
theorem zqz (fuel d : Nat) (x0 : Sl) (x1 : Int) (h : AH) :
   brun fuel (d + 1) zcx [(AV.slice x0), .int .i64 x1] h =
 (bif (decide (x1 < (1 : Int))) then (some ((AV.slice Sl.nil), h)) else ((zbR fuel d fuel [(0, .slice x0), (1, .int .i64 x1), (5, .slice Sl.nil), (6, .slice Sl.nil), (7, .int .i64 0)] h).bind fun p1 =>
   zcp fuel d p1.1 p1.2.1 p1.2.2)) := by
 generalize hh : brun = R
 rw [zcI] at hh
 subst hh
 generalize hh : zbR = R
 rw [zg1] at hh
 subst hh
 generalize hh : zcp = R
 rw [zj4] at hh
 subst hh
 kernel_rfl
theorem zn9 (fuel d : Nat) (n : Nat) (x0 : Sl) (x1 : Int) (x5 : Sl) (x6 : Sl) (x7 : Int) (h : AH) :
   zbR fuel d (n + 1) [(0, .slice x0), (1, .int .i64 x1), (5, .slice x5), (6, .slice x6), (7, .int .i64 x7)] h =
 (bif (decide (x7 < (x0.len : Int))) then ((AH.addr h 1 x0 x7).bind fun p1 =>
   (AH.cell h p1).bind fun u2 =>
   (AV.int? .i64 u2).bind fun n3 =>
   (run fuel d zfV [(AV.int .i64 n3), .int .i64 7] h).bind fun r4 =>
   (AV.int? .i64 r4.1).bind fun n5 =>
   ((bif (bif (bif (decide (n5 = (0 : Int))) then (decide ((0 : Int) < (x6.len : Int))) else false) then true else (decide ((5 : Int) ≤ (x6.len : Int)))) then ((AH.append (AH.fixL r4.2 [(AV.slice x6)]).2 false 1 24 x5 1 (AH.fixL r4.2 [(AV.slice x6)]).1).bind fun a6 =>
   some (.normal, [(0, .slice x0), (1, .int .i64 x1), (5, .slice a6.1), (6, .slice Sl.nil), (7, .int .i64 x7)], a6.2)) else (some (.normal, [(0, .slice x0), (1, .int .i64 x1), (5, .slice x5), (6, .slice x6), (7, .int .i64 x7)], r4.2)))).bind fun p7 =>
   zdy fuel d n p7.1 p7.2.1 p7.2.2) else (some ((.exit 0), [(5, .slice x5), (6, .slice x6)], h))) := by
 generalize hh : run = R
 rw [zaD] at hh
 subst hh
 generalize hh : zbR = R
 rw [zg1] at hh
 subst hh
 generalize hh : zdy = R
 rw [zj3] at hh
 subst hh
 kernel_rfl
theorem zof (fuel d : Nat) (x5 : Sl) (x6 : Sl) (h : AH) :
   zcp fuel d (.exit 0) [(5, .slice x5), (6, .slice x6)] h =
 (bif (decide ((0 : Int) < (x6.len : Int))) then ((AH.append (AH.fixL h [(AV.slice x6)]).2 false 1 24 x5 1 (AH.fixL h [(AV.slice x6)]).1).bind fun a1 =>
   some ((AV.slice a1.1), a1.2)) else (some ((AV.slice x5), h))) := by
 generalize hh : zcp = R
 rw [zj4] at hh
 subst hh
 kernel_rfl
theorem zoA (fuel d : Nat) (n : Nat) (x0 : Sl) (x1 : Int) (x5 : Sl) (x6 : Sl) (x7 : Int) (h : AH) :
   zdy fuel d n .normal [(0, .slice x0), (1, .int .i64 x1), (5, .slice x5), (6, .slice x6), (7, .int .i64 x7)] h =
 (AH.addr h 1 x0 x7).bind fun p1 =>
   (AH.cell h p1).bind fun u2 =>
   (AV.int? .i64 u2).bind fun n3 =>
   (run fuel d zfV [(AV.int .i64 n3), .int .i64 1099511627776] h).bind fun r4 =>
   (AV.int? .i64 r4.1).bind fun n5 =>
   (run fuel d ziZ [(AV.int .i64 (IntKind.wrap .i64 (Int.tdiv n5 (7 : Int)))), .int .i64 x1] r4.2).bind fun r6 =>
   (AV.int? .i64 r6.1).bind fun n7 =>
   (AH.append r6.2 false 1 8 x6 1 [(AV.int .i64 n7)]).bind fun a8 =>
   zbR fuel d n [(0, .slice x0), (1, .int .i64 x1), (5, .slice x5), (6, .slice a8.1), (7, (AV.int .i64 (IntKind.wrap .i64 (x7 + (1 : Int)))))] a8.2 := by
 generalize hh : run = R
 rw [zaD] at hh
 subst hh
 generalize hh : zbR = R
 rw [zg1] at hh
 subst hh
 generalize hh : zdy = R
 rw [zj3] at hh
 subst hh
 kernel_rfl
noncomputable def zw1 (fuel d : Nat) : Run := fun fr h k => zf8 (Cf fuel ziA) false (zak (C fuel) false d) (zak (C fuel) true d) 27 (csub [true, true, false, true, false, false] (zbV Go.Proofs.Tryd.f11)) (asub [true, true, false, true, false, false] an11) fr h k
noncomputable def zsP (fuel d : Nat) (n : Nat) (fr : Fr) (h : AH) : Option (zaj × Fr × AH) := ziV (zw1 fuel d) (some [6, 14, 15, 16]) n fr h (kOut [4, 5, 6])
noncomputable def zlf : Nat → Nat → Nat → Fr → AH → Option (zaj × Fr × AH) := hide zsP
theorem zqU : zlf = zsP := zae _
noncomputable def zsR (fuel d : Nat) : zaj → Fr → AH → Option (AV × AH) := (zbG 0 (kSeq (Cf fuel ziA) false (zak (C fuel) false d) (zak (C fuel) true d) 27 (csub [true, true, true] (zbV Go.Proofs.Tryd.f11)) (asub [true, true, true] an11) (kRet (Cf fuel ziA) Go.Proofs.Tryd.f11.results.toList)))
noncomputable def zj7 : Nat → Nat → zaj → Fr → AH → Option (AV × AH) := hide zsR
theorem zoC : zj7 = zsR := zae _
theorem zzJ (fuel d : Nat) (x0 : Int) (x1 : Sl) (h : AH) :
   run fuel (d + 1) ziA [(AV.int .i64 x0), .slice x1] h =
 (run fuel d zoJ [(AV.int .i64 x0)] h).bind fun r1 =>
   (AV.int? .i64 r1.1).bind fun n2 =>
   (zlf fuel d fuel [(6, (AV.ptr (Pt.mk ⟨AH.next (AH.newMap r1.2), 0, 0⟩ 6))), (14, .slice x1), (15, (AV.int .i64 (x1.len : Int))), (16, .int .i64 0)] (AH.push (AH.newMap r1.2) 1 [(AV.int .i64 n2), .slice Sl.nil, .slice Sl.nil, (AV.map (some (List.length (AH.maps r1.2)))), .slice Sl.nil, .int .i64 0])).bind fun p3 =>
   zj7 fuel d p3.1 p3.2.1 p3.2.2 := by
 generalize hh : run = R
 rw [zaD] at hh
 subst hh
 generalize hh : zlf = R
 rw [zqU] at hh
 subst hh
 generalize hh : zj7 = R
 rw [zoC] at hh
 subst hh
 kernel_rfl
theorem zuc (fuel d : Nat) (n : Nat) (x6 : Pt) (x14 : Sl) (x15 : Int) (x16 : Int) (h : AH) :
   zlf fuel d (n + 1) [(6, .ptr x6), (14, .slice x14), (15, .int .i64 x15), (16, .int .i64 x16)] h =
 (bif (decide (x16 < x15)) then ((AH.addr h 1 x14 x16).bind fun p1 =>
   (AH.cell h p1).bind fun u2 =>
   (AV.slice? u2).bind fun s3 =>
   (run fuel d zdq [(AV.ptr x6), .slice s3] h).bind fun r4 =>
   (AV.bool? r4.1).bind fun b5 =>
   (bif (!b5) then (some (.ret, [(4, .ptr Pt.nil), (5, zdm), (6, .ptr x6)], r4.2)) else (zlf fuel d n [(6, .ptr x6), (14, .slice x14), (15, .int .i64 x15), (16, (AV.int .i64 (IntKind.wrap .i64 (x16 + (1 : Int)))))] r4.2))) else (some ((.exit 0), [(4, AV.bot), (5, AV.bot), (6, .ptr x6)], h))) := by
 generalize hh : run = R
 rw [zaD] at hh
 subst hh
 generalize hh : zlf = R
 rw [zqU] at hh
 subst hh
 kernel_rfl
theorem zud (fuel d : Nat) (x4 : AV) (x5 : AV) (x6 : Pt) (h : AH) :
   zj7 fuel d (.exit 0) [(4, x4), (5, x5), (6, .ptr x6)] h =
 some ((AV.tup [(AV.ptr x6), AV.nilif]), h) := by
 generalize hh : zj7 = R
 rw [zoC] at hh
 subst hh
 kernel_rfl
theorem zu2 (fuel d : Nat) (x4 : Pt) (x5 : AV) (x6 : AV) (h : AH) :
   zj7 fuel d .ret [(4, .ptr x4), (5, x5), (6, x6)] h =
 some ((AV.tup [(AV.ptr x4), x5]), h) := by
 generalize hh : zj7 = R
 rw [zoC] at hh
 subst hh
 kernel_rfl
theorem zs7 (fuel d : Nat) (x0 : Int) (x1 : Int) (h : AH) :
   brun fuel (d + 1) ziZ [(AV.int .i64 x0), .int .i64 x1] h =
 (run fuel d zfV [(AV.int .i64 x0), (AV.int .i64 (IntKind.wrap .i64 ((2 : Int) * x1)))] h).bind fun r1 =>
   (AV.int? .i64 r1.1).bind fun n2 =>
   (bif (decide (n2 < x1)) then (some ((AV.int .i64 (IntKind.wrap .i64 (n2 + (1 : Int)))), r1.2)) else (some ((AV.int .i64 (IntKind.wrap .i64 ((IntKind.wrap .i64 (x1 - n2)) - (1 : Int)))), r1.2))) := by
 generalize hh : run = R
 rw [zaD] at hh
 subst hh
 generalize hh : brun = R
 rw [zcI] at hh
 subst hh
 kernel_rfl
noncomputable def zqn (fuel d : Nat) : Run := fun fr h k => zf8 (Cf fuel za5) false (zak (C fuel) false d) (zak (C fuel) true d) 37 (csub [true, true, true, false, true, false, false] (zbV Go.Proofs.Tryd.f14)) (asub [true, true, true, false, true, false, false] an14) fr h k
noncomputable def zmo (fuel d : Nat) (n : Nat) (fr : Fr) (h : AH) : Option (zaj × Fr × AH) := ziV (zqn fuel d) (some [0, 5, 17, 18, 19]) n fr h (kOut [0, 5])
noncomputable def zds : Nat → Nat → Nat → Fr → AH → Option (zaj × Fr × AH) := hide zmo
theorem zk6 : zds = zmo := zae _
noncomputable def zmw (fuel d : Nat) : zaj → Fr → AH → Option (AV × AH) := (zbG 0 (kSeq (Cf fuel za5) false (zak (C fuel) false d) (zak (C fuel) true d) 37 (csub [true, true, true, true] (zbV Go.Proofs.Tryd.f14)) (asub [true, true, true, true] an14) (kRet (Cf fuel za5) Go.Proofs.Tryd.f14.results.toList)))
noncomputable def zfT : Nat → Nat → zaj → Fr → AH → Option (AV × AH) := hide zmw
theorem zlc : zfT = zmw := zae _
theorem zrG (fuel d : Nat) (x0 : Pt) (x1 : Sl) (h : AH) :
   run fuel (d + 1) za5 [(AV.ptr x0), .slice x1] h =
 (run fuel d zeT [(AV.ptr x0), .slice x1] h).bind fun r1 =>
   (AV.bool? r1.1).bind fun b2 =>
   (bif (!b2) then (some ((AV.bool false), r1.2)) else ((bif (decide ((0 : Int) ≤ (x1.len : Int)) && decide ((x1.len : Int) * 8 ≤ 140737488355328) && decide ((x1.len : Int) ≤ 140737488355328)) then ((zds fuel d fuel [(0, .ptr x0), (5, (AV.slice (Sl.mk ⟨AH.next r1.2, 0, 0⟩ 0 (eqI (0 : Int) (x1.len : Int))))), (17, .slice x1), (18, (AV.int .i64 (x1.len : Int))), (19, .int .i64 0)] (AH.push r1.2 1 [])).bind fun p3 =>
   zfT fuel d p3.1 p3.2.1 p3.2.2) else (none)))) := by
 generalize hh : run = R
 rw [zaD] at hh
 subst hh
 generalize hh : zds = R
 rw [zk6] at hh
 subst hh
 generalize hh : zfT = R
 rw [zlc] at hh
 subst hh
 kernel_rfl
theorem zo0 (fuel d : Nat) (n : Nat) (x0 : Pt) (x5 : Sl) (x17 : Sl) (x18 : Int) (x19 : Int) (h : AH) :
   zds fuel d (n + 1) [(0, .ptr x0), (5, .slice x5), (17, .slice x17), (18, .int .i64 x18), (19, .int .i64 x19)] h =
 (bif (decide (x19 < x18)) then ((AH.addr h 1 x17 x19).bind fun p1 =>
   (AH.cell h p1).bind fun u2 =>
   (AV.int? .i64 u2).bind fun n3 =>
   (AH.append h false 1 8 x5 1 [(AV.int .i64 (IntKind.wrap .i64 (0 - n3)))]).bind fun a4 =>
   zds fuel d n [(0, .ptr x0), (5, .slice a4.1), (17, .slice x17), (18, .int .i64 x18), (19, (AV.int .i64 (IntKind.wrap .i64 (x19 + (1 : Int)))))] a4.2) else (some ((.exit 0), [(0, .ptr x0), (5, .slice x5)], h))) := by
 generalize hh : zds = R
 rw [zk6] at hh
 subst hh
 kernel_rfl
theorem zo7 (fuel d : Nat) (x0 : Pt) (x5 : Sl) (h : AH) :
   zfT fuel d (.exit 0) [(0, .ptr x0), (5, .slice x5)] h =
 (run fuel d za4 [(AV.ptr x0), .slice x5] h).bind fun r1 =>
   (bif AV.isTup 2 r1.1 then ((AV.comp 0 r1.1).bind fun u2 =>
   (AV.ptr? u2).bind fun p3 =>
   (AV.comp 1 r1.1).bind fun u4 =>
   (AV.bool? u4).bind fun b5 =>
   some ((AV.bool (!b5)), r1.2)) else none) := by
 generalize hh : run = R
 rw [zaD] at hh
 subst hh
 generalize hh : zfT = R
 rw [zlc] at hh
 subst hh
 kernel_rfl
noncomputable def zpV (fuel d : Nat) : Run := fun fr h k => zf8 (Cf fuel zdX) false (zak (C fuel) false d) (zak (C fuel) true d) 22 (csub [true, true, false, true, false, false] (zbV Go.Proofs.Tryd.f16)) (asub [true, true, false, true, false, false] an16) fr h k
noncomputable def zly (fuel d : Nat) (n : Nat) (fr : Fr) (h : AH) : Option (zaj × Fr × AH) := ziV (zpV fuel d) (some [0, 3, 4]) n fr h (kOut [3])
noncomputable def zda : Nat → Nat → Nat → Fr → AH → Option (zaj × Fr × AH) := hide zly
theorem zki : zda = zly := zae _
noncomputable def zlL (fuel d : Nat) : zaj → Fr → AH → Option (AV × AH) := (zbG 0 (kSeq (Cf fuel zdX) false (zak (C fuel) false d) (zak (C fuel) true d) 22 (csub [true, true, true] (zbV Go.Proofs.Tryd.f16)) (asub [true, true, true] an16) (kRet (Cf fuel zdX) Go.Proofs.Tryd.f16.results.toList)))
noncomputable def zfl : Nat → Nat → zaj → Fr → AH → Option (AV × AH) := hide zlL
theorem zkw : zfl = zlL := zae _
theorem zq6 (fuel d : Nat) (x0 : Sl) (h : AH) :
   run fuel (d + 1) zdX [(AV.slice x0)] h =
 (bif (decide ((0 : Int) ≤ (x0.len : Int)) && decide ((x0.len : Int) * 24 ≤ 140737488355328) && decide ((x0.len : Int) ≤ 140737488355328)) then ((zda fuel d fuel [(0, .slice x0), (3, (AV.slice (Sl.mk ⟨AH.next h, 0, 0⟩ 0 (eqI (0 : Int) (x0.len : Int))))), (4, .int .i64 0)] (AH.push h 1 [])).bind fun p1 =>
   zfl fuel d p1.1 p1.2.1 p1.2.2) else (none)) := by
 generalize hh : run = R
 rw [zaD] at hh
 subst hh
 generalize hh : zda = R
 rw [zki] at hh
 subst hh
 generalize hh : zfl = R
 rw [zkw] at hh
 subst hh
 kernel_rfl
theorem zou (fuel d : Nat) (n : Nat) (x0 : Sl) (x3 : Sl) (x4 : Int) (h : AH) :
   zda fuel d (n + 1) [(0, .slice x0), (3, .slice x3), (4, .int .i64 x4)] h =
 (bif (decide (x4 < (x0.len : Int))) then ((AH.addr h 1 x0 x4).bind fun p1 =>
   (AH.cell h p1).bind fun u2 =>
   (AV.slice? u2).bind fun s3 =>
   (AH.append (AH.fixL h [(AV.slice s3)]).2 false 1 24 x3 1 (AH.fixL h [(AV.slice s3)]).1).bind fun a4 =>
   zda fuel d n [(0, .slice x0), (3, .slice a4.1), (4, (AV.int .i64 (IntKind.wrap .i64 (x4 + (1 : Int)))))] a4.2) else (some ((.exit 0), [(3, .slice x3)], h))) := by
 generalize hh : zda = R
 rw [zki] at hh
 subst hh
 kernel_rfl
theorem zoz (fuel d : Nat) (x3 : Sl) (h : AH) :
   zfl fuel d (.exit 0) [(3, .slice x3)] h =
 some ((AV.slice x3), h) := by
 generalize hh : zfl = R
 rw [zkw] at hh
 subst hh
 kernel_rfl
theorem zu7 (fuel d : Nat) (x0 : Int) (x1 : Sl) (x2 : Sl) (h : AH) :
   run fuel (d + 1) zlW [(AV.int .i64 x0), .slice x1, .slice x2] h =
 (run fuel d ziA [(AV.int .i64 x0), .slice x1] h).bind fun r1 =>
   (bif AV.isTup 2 r1.1 then ((AV.comp 0 r1.1).bind fun u2 =>
   (AV.ptr? u2).bind fun p3 =>
   (AV.comp 1 r1.1).bind fun u4 =>
   (zd0 .iface u4).bind fun b5 =>
   ((bif ((!b5) == false) then ((run fuel d zeT [(AV.ptr p3), .slice x2] r1.2).bind fun r6 =>
   (AV.bool? r6.1).bind fun b7 =>
   some ((AV.bool (!b7)), r6.2)) else (some ((AV.bool true), r1.2)) : Option (AV × AH))).bind fun r8 =>
   (AV.bool? r8.1).bind fun b9 =>
   (bif b9 then (some ((AV.tup [(AV.slice Sl.nil), .bool false]), r8.2)) else ((run fuel d za4 [(AV.ptr p3), .slice x2] r8.2).bind fun r10 =>
   (bif AV.isTup 2 r10.1 then ((AV.comp 0 r10.1).bind fun u11 =>
   (AV.ptr? u11).bind fun p12 =>
   (AV.comp 1 r10.1).bind fun u13 =>
   (AV.bool? u13).bind fun b14 =>
   (bif (!b14) then (some ((AV.tup [(AV.slice Sl.nil), .bool false]), r10.2)) else ((run fuel d zcE [(AV.ptr p12)] r10.2).bind fun r15 =>
   (AV.slice? r15.1).bind fun s16 =>
   some ((AV.tup [(AV.slice s16), .bool true]), r15.2)))) else none)))) else none) := by
 generalize hh : run = R
 rw [zaD] at hh
 subst hh
 kernel_rfl
noncomputable def zr1 (fuel d : Nat) : Run := fun fr h k => zf8 (Cf fuel zdM) false (zak (C fuel) false d) (zak (C fuel) true d) 18 (csub [true, false, true, false, false] (zbV Go.Proofs.Tryd.f18)) (asub [true, false, true, false, false] an18) fr h k
noncomputable def zn8 (fuel d : Nat) (n : Nat) (fr : Fr) (h : AH) : Option (zaj × Fr × AH) := ziV (zr1 fuel d) (some [0, 1, 5]) n fr h (kOut [4])
noncomputable def zd5 : Nat → Nat → Nat → Fr → AH → Option (zaj × Fr × AH) := hide zn8
theorem zmS : zd5 = zn8 := zae _
noncomputable def zod (fuel d : Nat) : zaj → Fr → AH → Option (AV × AH) := (zbG 0 (kSeq (Cf fuel zdM) false (zak (C fuel) false d) (zak (C fuel) true d) 18 (csub [true, true] (zbV Go.Proofs.Tryd.f18)) (asub [true, true] an18) (kRet (Cf fuel zdM) Go.Proofs.Tryd.f18.results.toList)))
noncomputable def zdo : Nat → Nat → zaj → Fr → AH → Option (AV × AH) := hide zod
theorem zjS : zdo = zod := zae _
theorem zqh (fuel d : Nat) (x0 : Sl) (x1 : Int) (h : AH) :
   brun fuel (d + 1) zdM [(AV.slice x0), .int .i64 x1] h =
 (zd5 fuel d fuel [(0, .slice x0), (1, .int .i64 x1), (5, .int .i64 0)] h).bind fun p1 =>
   zdo fuel d p1.1 p1.2.1 p1.2.2 := by
 generalize hh : brun = R
 rw [zcI] at hh
 subst hh
 generalize hh : zd5 = R
 rw [zmS] at hh
 subst hh
 generalize hh : zdo = R
 rw [zjS] at hh
 subst hh
 kernel_rfl
theorem zmT (fuel d : Nat) (n : Nat) (x0 : Sl) (x1 : Int) (x5 : Int) (h : AH) :
   zd5 fuel d (n + 1) [(0, .slice x0), (1, .int .i64 x1), (5, .int .i64 x5)] h =
 (bif (decide (x5 < (x0.len : Int))) then ((AH.addr h 1 x0 x5).bind fun p1 =>
   (AH.cell h p1).bind fun u2 =>
   (AV.int? .i64 u2).bind fun n3 =>
   (bif (decide (n3 = x1)) then (some (.ret, [(4, .bool true)], h)) else (zd5 fuel d n [(0, .slice x0), (1, .int .i64 x1), (5, (AV.int .i64 (IntKind.wrap .i64 (x5 + (1 : Int)))))] h))) else (some ((.exit 0), [(4, AV.bot)], h))) := by
 generalize hh : zd5 = R
 rw [zmS] at hh
 subst hh
 kernel_rfl
theorem zm2 (fuel d : Nat) (x4 : AV) (h : AH) :
   zdo fuel d (.exit 0) [(4, x4)] h =
 some ((AV.bool false), h) := by
 generalize hh : zdo = R
 rw [zjS] at hh
 subst hh
 kernel_rfl
theorem znx (fuel d : Nat) (x4 : Bool) (h : AH) :
   zdo fuel d .ret [(4, .bool x4)] h =
 some ((AV.bool x4), h) := by
 generalize hh : zdo = R
 rw [zjS] at hh
 subst hh
 kernel_rfl
noncomputable def zpk (fuel d : Nat) : Run := fun fr h k => zf8 (Cf fuel zdv) false (zak (C fuel) false d) (zak (C fuel) true d) 29 (csub [true, true, false, true, false, false] (zbV Go.Proofs.Tryd.f19)) (asub [true, true, false, true, false, false] an19) fr h k
noncomputable def zk1 (fuel d : Nat) (n : Nat) (fr : Fr) (h : AH) : Option (zaj × Fr × AH) := ziV (zpk fuel d) (some [0, 1, 5]) n fr h (kOut [4])
noncomputable def zcL : Nat → Nat → Nat → Fr → AH → Option (zaj × Fr × AH) := hide zk1
theorem zjX : zcL = zk1 := zae _
noncomputable def zk9 (fuel d : Nat) : zaj → Fr → AH → Option (AV × AH) := (zbG 0 (kSeq (Cf fuel zdv) false (zak (C fuel) false d) (zak (C fuel) true d) 29 (csub [true, true, true] (zbV Go.Proofs.Tryd.f19)) (asub [true, true, true] an19) (kRet (Cf fuel zdv) Go.Proofs.Tryd.f19.results.toList)))
noncomputable def zco : Nat → Nat → zaj → Fr → AH → Option (AV × AH) := hide zk9
theorem zhh : zco = zk9 := zae _
theorem zqy (fuel d : Nat) (x0 : Sl) (x1 : Sl) (h : AH) :
   brun fuel (d + 1) zdv [(AV.slice x0), .slice x1] h =
 (bif (!decide ((x0.len : Int) = (x1.len : Int))) then (some ((AV.bool false), h)) else ((zcL fuel d fuel [(0, .slice x0), (1, .slice x1), (5, .int .i64 0)] h).bind fun p1 =>
   zco fuel d p1.1 p1.2.1 p1.2.2)) := by
 generalize hh : brun = R
 rw [zcI] at hh
 subst hh
 generalize hh : zcL = R
 rw [zjX] at hh
 subst hh
 generalize hh : zco = R
 rw [zhh] at hh
 subst hh
 kernel_rfl
theorem zn7 (fuel d : Nat) (n : Nat) (x0 : Sl) (x1 : Sl) (x5 : Int) (h : AH) :
   zcL fuel d (n + 1) [(0, .slice x0), (1, .slice x1), (5, .int .i64 x5)] h =
 (bif (decide (x5 < (x0.len : Int))) then ((AH.addr h 1 x0 x5).bind fun p1 =>
   (AH.cell h p1).bind fun u2 =>
   (AV.int? .i64 u2).bind fun n3 =>
   (AH.addr h 1 x1 x5).bind fun p4 =>
   (AH.cell h p4).bind fun u5 =>
   (AV.int? .i64 u5).bind fun n6 =>
   (bif (!(decide (n3 = n6))) then (some (.ret, [(4, .bool false)], h)) else (zcL fuel d n [(0, .slice x0), (1, .slice x1), (5, (AV.int .i64 (IntKind.wrap .i64 (x5 + (1 : Int)))))] h))) else (some ((.exit 0), [(4, AV.bot)], h))) := by
 generalize hh : zcL = R
 rw [zjX] at hh
 subst hh
 kernel_rfl
theorem zoc (fuel d : Nat) (x4 : AV) (h : AH) :
   zco fuel d (.exit 0) [(4, x4)] h =
 some ((AV.bool true), h) := by
 generalize hh : zco = R
 rw [zhh] at hh
 subst hh
 kernel_rfl
theorem zoy (fuel d : Nat) (x4 : Bool) (h : AH) :
   zco fuel d .ret [(4, .bool x4)] h =
 some ((AV.bool x4), h) := by
 generalize hh : zco = R
 rw [zhh] at hh
 subst hh
 kernel_rfl
theorem zqw (fuel d : Nat) (x0 : Int) (x1 : Int) (h : AH) :
   brun fuel (d + 1) zfV [(AV.int .i64 x0), .int .i64 x1] h =
 (bif decide (x1 = 0) then (none) else ((bif (decide ((Int.tmod x0 x1) < (0 : Int))) then (some ((AV.int .i64 (IntKind.wrap .i64 ((Int.tmod x0 x1) + x1))), h)) else (some ((AV.int .i64 (Int.tmod x0 x1)), h))))) := by
 generalize hh : brun = R
 rw [zcI] at hh
 subst hh
 kernel_rfl
theorem zun (fuel d : Nat) (x0 : Pt) (h : AH) :
   run fuel (d + 1) zmI [(AV.ptr x0)] h =
 (Pt.chk x0).bind fun p1 =>
   (Pt.field 5 p1).bind fun p2 =>
   (AH.cell h p2).bind fun u3 =>
   (AV.int? .i64 u3).bind fun n4 =>
   some ((AV.int .i64 n4), h) := by
 generalize hh : run = R
 rw [zaD] at hh
 subst hh
 kernel_rfl
noncomputable def zrp (fuel d : Nat) : Run := fun fr h k => zf8 (Cf fuel zeS) false (zak (C fuel) false d) (zak (C fuel) true d) 22 (csub [true, true, false, true, false, false] (zbV Go.Proofs.Tryd.f22)) (asub [true, true, false, true, false, false] an22) fr h k
noncomputable def znu (fuel d : Nat) (n : Nat) (fr : Fr) (h : AH) : Option (zaj × Fr × AH) := ziV (zrp fuel d) (some [0, 3, 4]) n fr h (kOut [3])
noncomputable def zeB : Nat → Nat → Nat → Fr → AH → Option (zaj × Fr × AH) := hide znu
theorem zmj : zeB = znu := zae _
noncomputable def znw (fuel d : Nat) : zaj → Fr → AH → Option (AV × AH) := (zbG 0 (kSeq (Cf fuel zeS) false (zak (C fuel) false d) (zak (C fuel) true d) 22 (csub [true, true, true] (zbV Go.Proofs.Tryd.f22)) (asub [true, true, true] an22) (kRet (Cf fuel zeS) Go.Proofs.Tryd.f22.results.toList)))
noncomputable def zhi : Nat → Nat → zaj → Fr → AH → Option (AV × AH) := hide znw
theorem zmq : zhi = znw := zae _
theorem zs5 (fuel d : Nat) (x0 : Sl) (h : AH) :
   run fuel (d + 1) zeS [(AV.slice x0)] h =
 (bif (decide ((0 : Int) ≤ (x0.len : Int)) && decide ((x0.len : Int) * 8 ≤ 140737488355328) && decide ((x0.len : Int) ≤ 140737488355328)) then ((zeB fuel d fuel [(0, .slice x0), (3, (AV.slice (Sl.mk ⟨AH.next h, 0, 0⟩ 0 (eqI (0 : Int) (x0.len : Int))))), (4, .int .i64 0)] (AH.push h 1 [])).bind fun p1 =>
   zhi fuel d p1.1 p1.2.1 p1.2.2) else (none)) := by
 generalize hh : run = R
 rw [zaD] at hh
 subst hh
 generalize hh : zeB = R
 rw [zmj] at hh
 subst hh
 generalize hh : zhi = R
 rw [zmq] at hh
 subst hh
 kernel_rfl
theorem zpY (fuel d : Nat) (n : Nat) (x0 : Sl) (x3 : Sl) (x4 : Int) (h : AH) :
   zeB fuel d (n + 1) [(0, .slice x0), (3, .slice x3), (4, .int .i64 x4)] h =
 (bif (decide (x4 < (x0.len : Int))) then ((AH.addr h 1 x0 x4).bind fun p1 =>
   (AH.cell h p1).bind fun u2 =>
   (AV.int? .i64 u2).bind fun n3 =>
   (AH.append h false 1 8 x3 1 [(AV.int .i64 n3)]).bind fun a4 =>
   zeB fuel d n [(0, .slice x0), (3, .slice a4.1), (4, (AV.int .i64 (IntKind.wrap .i64 (x4 + (1 : Int)))))] a4.2) else (some ((.exit 0), [(3, .slice x3)], h))) := by
 generalize hh : zeB = R
 rw [zmj] at hh
 subst hh
 kernel_rfl
theorem zpZ (fuel d : Nat) (x3 : Sl) (h : AH) :
   zhi fuel d (.exit 0) [(3, .slice x3)] h =
 some ((AV.slice x3), h) := by
 generalize hh : zhi = R
 rw [zmq] at hh
 subst hh
 kernel_rfl
noncomputable def zsC (fuel d : Nat) : Run := fun fr h k => zf8 (Cf fuel zdq) false (zak (C fuel) false d) (zak (C fuel) true d) 84 (csub [true, true, true, true, true, false, true, false, false] (zbV Go.Proofs.Tryd.f23)) (asub [true, true, true, true, true, false, true, false, false] an23) fr h k
noncomputable def zoL (fuel d : Nat) (n : Nat) (fr : Fr) (h : AH) : Option (zaj × Fr × AH) := ziV (zsC fuel d) (some [0, 5, 7, 43, 44, 45]) n fr h (kOut [0, 5, 7])
noncomputable def zeM : Nat → Nat → Nat → Fr → AH → Option (zaj × Fr × AH) := hide zoL
theorem znv : zeM = zoL := zae _
noncomputable def zoO (fuel d : Nat) : zaj → Fr → AH → Option (AV × AH) := (zbG 0 (kSeq (Cf fuel zdq) false (zak (C fuel) false d) (zak (C fuel) true d) 84 (csub [true, true, true, true, true, true] (zbV Go.Proofs.Tryd.f23)) (asub [true, true, true, true, true, true] an23) (kRet (Cf fuel zdq) Go.Proofs.Tryd.f23.results.toList)))
noncomputable def ziQ : Nat → Nat → zaj → Fr → AH → Option (AV × AH) := hide zoO
theorem znz : ziQ = zoO := zae _
noncomputable def zoN (fuel d : Nat) : zaj → Fr → AH → Option (AV × AH) := (kSeq (Cf fuel zdq) false (zak (C fuel) false d) (zak (C fuel) true d) 84 (csub [true, true, true, true, true, true, true] (zbV Go.Proofs.Tryd.f23)) (asub [true, true, true, true, true, true, true] an23) (kRet (Cf fuel zdq) Go.Proofs.Tryd.f23.results.toList))
noncomputable def zhk : Nat → Nat → zaj → Fr → AH → Option (AV × AH) := hide zoN
theorem zny : zhk = zoN := zae _
theorem zup (fuel d : Nat) (x0 : Pt) (x1 : Sl) (h : AH) :
   run fuel (d + 1) zdq [(AV.ptr x0), .slice x1] h =
 (run fuel d zeT [(AV.ptr x0), .slice x1] h).bind fun r1 =>
   (AV.bool? r1.1).bind fun b2 =>
   (bif (!b2) then (some ((AV.bool false), r1.2)) else ((run fuel d zlo [(AV.slice x1)] r1.2).bind fun r3 =>
   (bif AV.isTup 2 r3.1 then ((AV.comp 0 r3.1).bind fun u4 =>
   (AV.slice? u4).bind fun s5 =>
   (AV.comp 1 r3.1).bind fun u6 =>
   (AV.bool? u6).bind fun b7 =>
   (Pt.chk x0).bind fun p8 =>
   (Pt.field 1 p8).bind fun p9 =>
   (AH.cell r3.2 p9).bind fun u10 =>
   (AV.slice? u10).bind fun s11 =>
   (Pt.chk x0).bind fun p12 =>
   (Pt.field 1 p12).bind fun p13 =>
   (AH.cell r3.2 p13).bind fun u14 =>
   (AV.slice? u14).bind fun s15 =>
   (AH.append r3.2 false 1 24 s15 1 [(AV.slice s5)]).bind fun a16 =>
   (Pt.chk x0).bind fun p17 =>
   (Pt.field 2 p17).bind fun p18 =>
   (AH.cell a16.2 p18).bind fun u19 =>
   (AV.slice? u19).bind fun s20 =>
   same ((AH.cell r3.2 p18).bind fun u29 =>
   (AV.slice? u29).bind fun s30 =>
   some ((AV.slice s30), r3.2)) ((AV.slice s20), r3.2) (
   (AH.append a16.2 false 1 1 s20 1 [(AV.bool true)]).bind fun a21 =>
   (Pt.chk x0).bind fun p22 =>
   (Pt.field 1 p22).bind fun p23 =>
   (AH.storeAt a21.2 [(AV.slice a16.1)] p23).bind fun h24 =>
   (Pt.chk x0).bind fun p25 =>
   (Pt.field 2 p25).bind fun p26 =>
   (AH.storeAt h24 [(AV.slice a21.1)] p26).bind fun h27 =>
   (zeM fuel d fuel [(0, .ptr x0), (5, .slice s5), (7, (AV.int .i64 (s11.len : Int))), (43, .slice s5), (44, (AV.int .i64 (s5.len : Int))), (45, .int .i64 0)] h27).bind fun p28 =>
   ziQ fuel d p28.1 p28.2.1 p28.2.2)) else none))) := by
 generalize hh : run = R
 rw [zaD] at hh
 subst hh
 generalize hh : zeM = R
 rw [znv] at hh
 subst hh
 generalize hh : ziQ = R
 rw [znz] at hh
 subst hh
 kernel_rfl
theorem zqV (fuel d : Nat) (n : Nat) (x0 : Pt) (x5 : Sl) (x7 : Int) (x43 : Sl) (x44 : Int) (x45 : Int) (h : AH) :
   zeM fuel d (n + 1) [(0, .ptr x0), (5, .slice x5), (7, .int .i64 x7), (43, .slice x43), (44, .int .i64 x44), (45, .int .i64 x45)] h =
 (bif (decide (x45 < x44)) then ((AH.addr h 1 x43 x45).bind fun p1 =>
   (AH.cell h p1).bind fun u2 =>
   (AV.int? .i64 u2).bind fun n3 =>
   (Pt.chk x0).bind fun p4 =>
   (Pt.field 3 p4).bind fun p5 =>
   (AH.cell h p5).bind fun u6 =>
   (AV.map? u6).bind fun m7 =>
   (Pt.chk x0).bind fun p8 =>
   (Pt.field 3 p8).bind fun p9 =>
   (AH.cell h p9).bind fun u10 =>
   (AV.map? u10).bind fun m11 =>
   (AH.mapOf h m11).bind fun es12 =>
   (zwq (AV.int .i64 n3) es12).bind fun r13 =>
   (AV.slice? (mgot (AV.slice Sl.nil) r13)).bind fun s14 =>
   (AH.append h false 1 8 s14 1 [(AV.int .i64 x7)]).bind fun a15 =>
   same ((AH.cell a15.2 p5).bind fun u19 =>
   (AV.map? u19).bind fun m20 =>
   some ((AV.map m20), a15.2)) ((AV.map m7), a15.2) (
   (m7).bind fun m16 =>
   ((a15.2.maps)[m16]?).bind fun es17 =>
   (mset (AV.int .i64 n3) (AV.slice a15.1) es17).bind fun es18 =>
   zeM fuel d n [(0, .ptr x0), (5, .slice x5), (7, .int .i64 x7), (43, .slice x43), (44, .int .i64 x44), (45, (AV.int .i64 (IntKind.wrap .i64 (x45 + (1 : Int)))))] (AH.setMap a15.2 m16 es18))) else (some ((.exit 0), [(0, .ptr x0), (5, .slice x5), (7, .int .i64 x7)], h))) := by
 generalize hh : zeM = R
 rw [znv] at hh
 subst hh
 kernel_rfl
theorem zqY (fuel d : Nat) (x0 : Pt) (x5 : Sl) (x7 : Int) (h : AH) :
   ziQ fuel d (.exit 0) [(0, .ptr x0), (5, .slice x5), (7, .int .i64 x7)] h =
 ((bif (decide ((x5.len : Int) < (2 : Int))) then ((Pt.chk x0).bind fun p1 =>
   (Pt.field 4 p1).bind fun p2 =>
   (AH.cell h p2).bind fun u3 =>
   (AV.slice? u3).bind fun s4 =>
   (AH.append h false 1 8 s4 1 [(AV.int .i64 x7)]).bind fun a5 =>
   (Pt.chk x0).bind fun p6 =>
   (Pt.field 4 p6).bind fun p7 =>
   (AH.storeAt a5.2 [(AV.slice a5.1)] p7).bind fun h8 =>
   some (.normal, [(0, .ptr x0)], h8)) else (some (.normal, [(0, .ptr x0)], h)))).bind fun p9 =>
   zhk fuel d p9.1 p9.2.1 p9.2.2 := by
 generalize hh : ziQ = R
 rw [znz] at hh
 subst hh
 generalize hh : zhk = R
 rw [zny] at hh
 subst hh
 kernel_rfl
theorem zrz (fuel d : Nat) (x0 : Pt) (h : AH) :
   zhk fuel d .normal [(0, .ptr x0)] h =
 (Pt.chk x0).bind fun p1 =>
   (Pt.field 5 p1).bind fun p2 =>
   (AH.cell h p2).bind fun u3 =>
   (AV.int? .i64 u3).bind fun n4 =>
   (Pt.chk x0).bind fun p5 =>
   (Pt.field 5 p5).bind fun p6 =>
   (AH.storeAt h [(AV.int .i64 (IntKind.wrap .i64 (n4 + (1 : Int))))] p6).bind fun h7 =>
   some ((AV.bool true), h7) := by
 generalize hh : zhk = R
 rw [zny] at hh
 subst hh
 kernel_rfl
theorem zuo (fuel d : Nat) (x0 : Pt) (x1 : Sl) (h : AH) :
   run fuel (d + 1) zmJ [(AV.ptr x0), .slice x1] h =
 (run fuel d zgI [(AV.ptr x0), .slice x1] h).bind fun r1 =>
   (AV.int? .i64 r1.1).bind fun n2 =>
   some ((AV.bool (decide ((0 : Int) ≤ n2))), r1.2) := by
 generalize hh : run = R
 rw [zaD] at hh
 subst hh
 kernel_rfl
noncomputable def zr3 (fuel d : Nat) : Run := fun fr h k => zf8 (Cf fuel zeI) false (zak (C fuel) false d) (zak (C fuel) true d) 67 (csub [true, true, true, false, true, false, false] (zbV Go.Proofs.Tryd.f25)) (asub [true, true, true, false, true, false, false] an25) fr h k
noncomputable def zob (fuel d : Nat) (n : Nat) (fr : Fr) (h : AH) : Option (zaj × Fr × AH) := ziV (zr3 fuel d) (some [0, 5, 19, 20, 21]) n fr h (kOut [0, 5])
noncomputable def zd7 : Nat → Nat → Nat → Fr → AH → Option (zaj × Fr × AH) := hide zob
theorem zmZ : zd7 = zob := zae _
noncomputable def zoi (fuel d : Nat) : zaj → Fr → AH → Option (AV × AH) := (zbG 0 (kSeq (Cf fuel zeI) false (zak (C fuel) false d) (zak (C fuel) true d) 67 (csub [true, true, true, true] (zbV Go.Proofs.Tryd.f25)) (asub [true, true, true, true] an25) (kRet (Cf fuel zeI) Go.Proofs.Tryd.f25.results.toList)))
noncomputable def zh8 : Nat → Nat → zaj → Fr → AH → Option (AV × AH) := hide zoi
theorem zm9 : zh8 = zoi := zae _
theorem ztv (fuel d : Nat) (x0 : Pt) (x1 : Sl) (h : AH) :
   run fuel (d + 1) zeI [(AV.ptr x0), .slice x1] h =
 (run fuel d zgI [(AV.ptr x0), .slice x1] h).bind fun r1 =>
   (AV.int? .i64 r1.1).bind fun n2 =>
   (bif (decide (n2 < (0 : Int))) then (some ((AV.bool false), r1.2)) else ((Pt.chk x0).bind fun p3 =>
   (Pt.field 1 p3).bind fun p4 =>
   (AH.cell r1.2 p4).bind fun u5 =>
   (AV.slice? u5).bind fun s6 =>
   (AH.addr r1.2 1 s6 n2).bind fun p7 =>
   (AH.cell r1.2 p7).bind fun u8 =>
   (AV.slice? u8).bind fun s9 =>
   (zd7 fuel d fuel [(0, .ptr x0), (5, .int .i64 n2), (19, .slice s9), (20, (AV.int .i64 (s9.len : Int))), (21, .int .i64 0)] r1.2).bind fun p10 =>
   zh8 fuel d p10.1 p10.2.1 p10.2.2)) := by
 generalize hh : run = R
 rw [zaD] at hh
 subst hh
 generalize hh : zd7 = R
 rw [zmZ] at hh
 subst hh
 generalize hh : zh8 = R
 rw [zm9] at hh
 subst hh
 kernel_rfl
theorem zqr (fuel d : Nat) (n : Nat) (x0 : Pt) (x5 : Int) (x19 : Sl) (x20 : Int) (x21 : Int) (h : AH) :
   zd7 fuel d (n + 1) [(0, .ptr x0), (5, .int .i64 x5), (19, .slice x19), (20, .int .i64 x20), (21, .int .i64 x21)] h =
 (bif (decide (x21 < x20)) then ((AH.addr h 1 x19 x21).bind fun p1 =>
   (AH.cell h p1).bind fun u2 =>
   (AV.int? .i64 u2).bind fun n3 =>
   (Pt.chk x0).bind fun p4 =>
   (Pt.field 3 p4).bind fun p5 =>
   (AH.cell h p5).bind fun u6 =>
   (AV.map? u6).bind fun m7 =>
   (Pt.chk x0).bind fun p8 =>
   (Pt.field 3 p8).bind fun p9 =>
   (AH.cell h p9).bind fun u10 =>
   (AV.map? u10).bind fun m11 =>
   (AH.mapOf h m11).bind fun es12 =>
   (zwq (AV.int .i64 n3) es12).bind fun r13 =>
   (AV.slice? (mgot (AV.slice Sl.nil) r13)).bind fun s14 =>
   (run fuel d zpP [(AV.slice s14), .int .i64 x5] h).bind fun r15 =>
   (AV.slice? r15.1).bind fun s16 =>
   same ((AH.cell r15.2 p5).bind fun u20 =>
   (AV.map? u20).bind fun m21 =>
   some ((AV.map m21), r15.2)) ((AV.map m7), r15.2) (
   (m7).bind fun m17 =>
   ((r15.2.maps)[m17]?).bind fun es18 =>
   (mset (AV.int .i64 n3) (AV.slice s16) es18).bind fun es19 =>
   zd7 fuel d n [(0, .ptr x0), (5, .int .i64 x5), (19, .slice x19), (20, .int .i64 x20), (21, (AV.int .i64 (IntKind.wrap .i64 (x21 + (1 : Int)))))] (AH.setMap r15.2 m17 es19))) else (some ((.exit 0), [(0, .ptr x0), (5, .int .i64 x5)], h))) := by
 generalize hh : run = R
 rw [zaD] at hh
 subst hh
 generalize hh : zd7 = R
 rw [zmZ] at hh
 subst hh
 kernel_rfl
theorem zqt (fuel d : Nat) (x0 : Pt) (x5 : Int) (h : AH) :
   zh8 fuel d (.exit 0) [(0, .ptr x0), (5, .int .i64 x5)] h =
 (Pt.chk x0).bind fun p1 =>
   (Pt.field 4 p1).bind fun p2 =>
   (AH.cell h p2).bind fun u3 =>
   (AV.slice? u3).bind fun s4 =>
   (run fuel d zpP [(AV.slice s4), .int .i64 x5] h).bind fun r5 =>
   (AV.slice? r5.1).bind fun s6 =>
   (Pt.chk x0).bind fun p7 =>
   (Pt.field 4 p7).bind fun p8 =>
   (AH.storeAt r5.2 [(AV.slice s6)] p8).bind fun h9 =>
   (Pt.chk x0).bind fun p10 =>
   (Pt.field 1 p10).bind fun p11 =>
   (AH.cell h9 p11).bind fun u12 =>
   (AV.slice? u12).bind fun s13 =>
   (Pt.chk x0).bind fun p14 =>
   (Pt.field 2 p14).bind fun p15 =>
   (AH.cell h9 p15).bind fun u16 =>
   (AV.slice? u16).bind fun s17 =>
   (AH.addr h9 1 s13 x5).bind fun p18 =>
   (AH.storeAt h9 [(AV.slice Sl.nil)] p18).bind fun h19 =>
   (AH.addr h19 1 s17 x5).bind fun p20 =>
   (AH.storeAt h19 [(AV.bool false)] p20).bind fun h21 =>
   (Pt.chk x0).bind fun p22 =>
   (Pt.field 5 p22).bind fun p23 =>
   (AH.cell h21 p23).bind fun u24 =>
   (AV.int? .i64 u24).bind fun n25 =>
   (Pt.chk x0).bind fun p26 =>
   (Pt.field 5 p26).bind fun p27 =>
   (AH.storeAt h21 [(AV.int .i64 (IntKind.wrap .i64 (n25 - (1 : Int))))] p27).bind fun h28 =>
   some ((AV.bool true), h28) := by
 generalize hh : run = R
 rw [zaD] at hh
 subst hh
 generalize hh : zh8 = R
 rw [zm9] at hh
 subst hh
 kernel_rfl
noncomputable def zqo (fuel d : Nat) : Run := fun fr h k => zf8 (Cf fuel zeE) false (zak (C fuel) false d) (zak (C fuel) true d) 52 (csub [true, true, true, false, true, false, false] (zbV Go.Proofs.Tryd.f26)) (asub [true, true, true, false, true, false, false] an26) fr h k
noncomputable def zmp (fuel d : Nat) (n : Nat) (fr : Fr) (h : AH) : Option (zaj × Fr × AH) := ziV (zqo fuel d) (some [0, 1, 27, 28, 29]) n fr h (kOut [4])
noncomputable def zdt : Nat → Nat → Nat → Fr → AH → Option (zaj × Fr × AH) := hide zmp
theorem zk7 : zdt = zmp := zae _
noncomputable def zmx (fuel d : Nat) : zaj → Fr → AH → Option (AV × AH) := (zbG 0 (kSeq (Cf fuel zeE) false (zak (C fuel) false d) (zak (C fuel) true d) 52 (csub [true, true, true, true] (zbV Go.Proofs.Tryd.f26)) (asub [true, true, true, true] an26) (kRet (Cf fuel zeE) Go.Proofs.Tryd.f26.results.toList)))
noncomputable def zcV : Nat → Nat → zaj → Fr → AH → Option (AV × AH) := hide zmx
theorem zii : zcV = zmx := zae _
theorem zrH (fuel d : Nat) (x0 : Pt) (x1 : Sl) (h : AH) :
   run fuel (d + 1) zeE [(AV.ptr x0), .slice x1] h =
 (run fuel d za5 [(AV.ptr x0), .slice x1] h).bind fun r1 =>
   (AV.bool? r1.1).bind fun b2 =>
   (bif b2 then (some ((AV.bool true), r1.2)) else (((bif ((decide ((x1.len : Int) = (0 : Int))) == false) then ((run fuel d zeT [(AV.ptr x0), .slice x1] r1.2).bind fun r3 =>
   (AV.bool? r3.1).bind fun b4 =>
   some ((AV.bool (!b4)), r3.2)) else (some ((AV.bool true), r1.2)) : Option (AV × AH))).bind fun r5 =>
   (AV.bool? r5.1).bind fun b6 =>
   (bif b6 then (some ((AV.bool false), r5.2)) else ((Pt.chk x0).bind fun p7 =>
   (Pt.field 3 p7).bind fun p8 =>
   (AH.cell r5.2 p8).bind fun u9 =>
   (AV.map? u9).bind fun m10 =>
   (AH.addr r5.2 1 x1 (0 : Int)).bind fun p11 =>
   (AH.cell r5.2 p11).bind fun u12 =>
   (AV.int? .i64 u12).bind fun n13 =>
   (AH.mapOf r5.2 m10).bind fun es14 =>
   (zwq (AV.int .i64 (IntKind.wrap .i64 (0 - n13))) es14).bind fun r15 =>
   (AV.slice? (mgot (AV.slice Sl.nil) r15)).bind fun s16 =>
   (zdt fuel d fuel [(0, .ptr x0), (1, .slice x1), (27, .slice s16), (28, (AV.int .i64 (s16.len : Int))), (29, .int .i64 0)] r5.2).bind fun p17 =>
   zcV fuel d p17.1 p17.2.1 p17.2.2)))) := by
 generalize hh : run = R
 rw [zaD] at hh
 subst hh
 generalize hh : zdt = R
 rw [zk7] at hh
 subst hh
 generalize hh : zcV = R
 rw [zii] at hh
 subst hh
 kernel_rfl
theorem zo1 (fuel d : Nat) (n : Nat) (x0 : Pt) (x1 : Sl) (x27 : Sl) (x28 : Int) (x29 : Int) (h : AH) :
   zdt fuel d (n + 1) [(0, .ptr x0), (1, .slice x1), (27, .slice x27), (28, .int .i64 x28), (29, .int .i64 x29)] h =
 (bif (decide (x29 < x28)) then ((AH.addr h 1 x27 x29).bind fun p1 =>
   (AH.cell h p1).bind fun u2 =>
   (AV.int? .i64 u2).bind fun n3 =>
   (Pt.chk x0).bind fun p4 =>
   (Pt.field 1 p4).bind fun p5 =>
   (AH.cell h p5).bind fun u6 =>
   (AV.slice? u6).bind fun s7 =>
   (AH.addr h 1 s7 n3).bind fun p8 =>
   (AH.cell h p8).bind fun u9 =>
   (AV.slice? u9).bind fun s10 =>
   (AH.addr h 1 x1 (0 : Int)).bind fun p11 =>
   (AH.cell h p11).bind fun u12 =>
   (AV.int? .i64 u12).bind fun n13 =>
   (run fuel d znC [(AV.slice s10), (AV.int .i64 (IntKind.wrap .i64 (0 - n13)))] h).bind fun r14 =>
   (AV.slice? r14.1).bind fun s15 =>
   (run fuel d zaX [(AV.slice (Sl.lst 2 true [(AV.slice x1), .slice s15]))] r14.2).bind fun r16 =>
   (AV.slice? r16.1).bind fun s17 =>
   (run fuel d za5 [(AV.ptr x0), .slice s17] r16.2).bind fun r18 =>
   (AV.bool? r18.1).bind fun b19 =>
   (bif (!b19) then (some (.ret, [(4, .bool false)], r18.2)) else (zdt fuel d n [(0, .ptr x0), (1, .slice x1), (27, .slice x27), (28, .int .i64 x28), (29, (AV.int .i64 (IntKind.wrap .i64 (x29 + (1 : Int)))))] r18.2))) else (some ((.exit 0), [(4, AV.bot)], h))) := by
 generalize hh : run = R
 rw [zaD] at hh
 subst hh
 generalize hh : zdt = R
 rw [zk7] at hh
 subst hh
 kernel_rfl
theorem zo8 (fuel d : Nat) (x4 : AV) (h : AH) :
   zcV fuel d (.exit 0) [(4, x4)] h =
 some ((AV.bool true), h) := by
 generalize hh : zcV = R
 rw [zii] at hh
 subst hh
 kernel_rfl
theorem zpE (fuel d : Nat) (x4 : Bool) (h : AH) :
   zcV fuel d .ret [(4, .bool x4)] h =
 some ((AV.bool x4), h) := by
 generalize hh : zcV = R
 rw [zii] at hh
 subst hh
 kernel_rfl
noncomputable def zqQ (fuel d : Nat) : Run := fun fr h k => zf8 (Cf fuel zcB) false (zak (C fuel) false d) (zak (C fuel) true d) 15 (csub [true, false, true, false, false] (zbV Go.Proofs.Tryd.f28)) (asub [true, false, true, false, false] an28) fr h k
noncomputable def zmX (fuel d : Nat) (n : Nat) (fr : Fr) (h : AH) : Option (zaj × Fr × AH) := ziV (zqQ fuel d) (some [0, 3]) n fr h (kOut [2])
noncomputable def zdS : Nat → Nat → Nat → Fr → AH → Option (zaj × Fr × AH) := hide zmX
theorem zlD : zdS = zmX := zae _
noncomputable def zm8 (fuel d : Nat) : zaj → Fr → AH → Option (AV × AH) := (zbG 0 (kSeq (Cf fuel zcB) false (zak (C fuel) false d) (zak (C fuel) true d) 15 (csub [true, true] (zbV Go.Proofs.Tryd.f28)) (asub [true, true] an28) (kRet (Cf fuel zcB) Go.Proofs.Tryd.f28.results.toList)))
noncomputable def zdg : Nat → Nat → zaj → Fr → AH → Option (AV × AH) := hide zm8
theorem ziP : zdg = zm8 := zae _
theorem zr7 (fuel d : Nat) (x0 : Sl) (h : AH) :
   brun fuel (d + 1) zcB [(AV.slice x0)] h =
 (zdS fuel d fuel [(0, .slice x0), (3, .int .i64 0)] h).bind fun p1 =>
   zdg fuel d p1.1 p1.2.1 p1.2.2 := by
 generalize hh : brun = R
 rw [zcI] at hh
 subst hh
 generalize hh : zdS = R
 rw [zlD] at hh
 subst hh
 generalize hh : zdg = R
 rw [ziP] at hh
 subst hh
 kernel_rfl
theorem zpu (fuel d : Nat) (n : Nat) (x0 : Sl) (x3 : Int) (h : AH) :
   zdS fuel d (n + 1) [(0, .slice x0), (3, .int .i64 x3)] h =
 (bif (decide (x3 < (x0.len : Int))) then ((AH.addr h 1 x0 x3).bind fun p1 =>
   (AH.cell h p1).bind fun u2 =>
   (AV.int? .i64 u2).bind fun n3 =>
   (bif (decide (n3 < (-1152921504606846976 : Int))) then (some (.ret, [(2, .bool false)], h)) else (zdS fuel d n [(0, .slice x0), (3, (AV.int .i64 (IntKind.wrap .i64 (x3 + (1 : Int)))))] h))) else (some ((.exit 0), [(2, AV.bot)], h))) := by
 generalize hh : zdS = R
 rw [zlD] at hh
 subst hh
 kernel_rfl
theorem zpz (fuel d : Nat) (x2 : AV) (h : AH) :
   zdg fuel d (.exit 0) [(2, x2)] h =
 some ((AV.bool true), h) := by
 generalize hh : zdg = R
 rw [ziP] at hh
 subst hh
 kernel_rfl
theorem zp0 (fuel d : Nat) (x2 : Bool) (h : AH) :
   zdg fuel d .ret [(2, .bool x2)] h =
 some ((AV.bool x2), h) := by
 generalize hh : zdg = R
 rw [ziP] at hh
 subst hh
 kernel_rfl
noncomputable def zoT (fuel d : Nat) : Run := fun fr h k => zf8 (Cf fuel za6) false (zak (C fuel) false d) (zak (C fuel) true d) 56 (csub [true, true, false, true, false, false] (zbV Go.Proofs.Tryd.f29)) (asub [true, true, false, true, false, false] an29) fr h k
noncomputable def zkl (fuel d : Nat) (n : Nat) (fr : Fr) (h : AH) : Option (zaj × Fr × AH) := ziV (zoT fuel d) (some [1, 2, 8, 9]) n fr h (kOut [1, 6, 7, 8])
noncomputable def zb3 : Nat → Nat → Nat → Fr → AH → Option (zaj × Fr × AH) := hide zkl
theorem zjq : zb3 = zkl := zae _
noncomputable def zkz (fuel d : Nat) : zaj → Fr → AH → Option (AV × AH) := (zbG 0 (kSeq (Cf fuel za6) false (zak (C fuel) false d) (zak (C fuel) true d) 56 (csub [true, true, true] (zbV Go.Proofs.Tryd.f29)) (asub [true, true, true] an29) (kRet (Cf fuel za6) Go.Proofs.Tryd.f29.results.toList)))
noncomputable def zb7 : Nat → Nat → zaj → Fr → AH → Option (AV × AH) := hide zkz
theorem zgG : zb7 = zkz := zae _
noncomputable def zkY (fuel d : Nat) : Run := fun fr h k => zf8 (Cf fuel za6) false (zak (C fuel) false d) (zak (C fuel) true d) 56 (csub [true, true, true, false, false] (zbV Go.Proofs.Tryd.f29)) (asub [true, true, true, false, false] an29) fr h k
noncomputable def zkk (fuel d : Nat) (n : Nat) (fr : Fr) (h : AH) : Option (zaj × Fr × AH) := ziV (zkY fuel d) (some [1, 8]) n fr h (kOut [6, 7])
noncomputable def zb2 : Nat → Nat → Nat → Fr → AH → Option (zaj × Fr × AH) := hide zkk
theorem zgC : zb2 = zkk := zae _
noncomputable def zky (fuel d : Nat) : zaj → Fr → AH → Option (AV × AH) := (zbG 2 (kRet (Cf fuel za6) Go.Proofs.Tryd.f29.results.toList))
noncomputable def zdh : Nat → Nat → zaj → Fr → AH → Option (AV × AH) := hide zky
theorem zjx : zdh = zky := zae _
noncomputable def zoS (fuel d : Nat) : Run := fun fr h k => zf8 (Cf fuel za6) false (zak (C fuel) false d) (zak (C fuel) true d) 56 (csub [true, true, true, false, false, false, true, false, true, false, false] (zbV Go.Proofs.Tryd.f29)) (asub [true, true, true, false, false, false, true, false, true, false, false] an29) fr h k
noncomputable def zkj (fuel d : Nat) (n : Nat) (fr : Fr) (h : AH) : Option (zaj × Fr × AH) := ziV (zoS fuel d) (some [1, 8, 10, 11]) n fr h (kOut [1, 6, 7, 8, 10])
noncomputable def zbD : Nat → Nat → Nat → Fr → AH → Option (zaj × Fr × AH) := hide zkj
theorem zjp : zbD = zkj := zae _
noncomputable def zkx (fuel d : Nat) (n : Nat) : zaj → Fr → AH → Option (zaj × Fr × AH) := (zbG 4 (kSeq (Cf fuel za6) false (zak (C fuel) false d) (zak (C fuel) true d) 56 (csub [true, true, true, false, false, false, true, true] (zbV Go.Proofs.Tryd.f29)) (asub [true, true, true, false, false, false, true, true] an29) (zbG 3 (zo9 (zkY fuel d) (some [1, 8]) n (kOut [6, 7])))))
noncomputable def zb6 : Nat → Nat → Nat → zaj → Fr → AH → Option (zaj × Fr × AH) := hide zkx
theorem zgF : zb6 = zkx := zae _
theorem zp3 (fuel d : Nat) (x0 : Int) (x1 : Sl) (x2 : Sl) (h : AH) :
   run fuel (d + 1) za6 [(AV.int .i64 x0), .slice x1, .slice x2] h =
 (run fuel d ziY [(AV.int .i64 x0)] h).bind fun r1 =>
   (AV.ptr? r1.1).bind fun p2 =>
   (zb3 fuel d fuel [(1, .slice x1), (2, .slice x2), (8, .ptr p2), (9, .int .i64 0)] r1.2).bind fun p3 =>
   zb7 fuel d p3.1 p3.2.1 p3.2.2 := by
 generalize hh : run = R
 rw [zaD] at hh
 subst hh
 generalize hh : zb3 = R
 rw [zjq] at hh
 subst hh
 generalize hh : zb7 = R
 rw [zgG] at hh
 subst hh
 kernel_rfl
theorem znJ (fuel d : Nat) (n : Nat) (x1 : Sl) (x2 : Sl) (x8 : Pt) (x9 : Int) (h : AH) :
   zb3 fuel d (n + 1) [(1, .slice x1), (2, .slice x2), (8, .ptr x8), (9, .int .i64 x9)] h =
 (bif (decide (x9 < (x2.len : Int))) then ((AH.addr h 1 x2 x9).bind fun p1 =>
   (AH.cell h p1).bind fun u2 =>
   (AV.int? .i64 u2).bind fun n3 =>
   (run fuel d zf0 [(AV.ptr x8), .int .i64 n3] h).bind fun r4 =>
   (AV.bool? r4.1).bind fun b5 =>
   (bif (!b5) then (some (.ret, [(1, .slice x1), (6, .slice Sl.nil), (7, .bool false), (8, .ptr x8)], r4.2)) else (zb3 fuel d n [(1, .slice x1), (2, .slice x2), (8, .ptr x8), (9, (AV.int .i64 (IntKind.wrap .i64 (x9 + (1 : Int)))))] r4.2))) else (some ((.exit 0), [(1, .slice x1), (6, AV.bot), (7, AV.bot), (8, .ptr x8)], h))) := by
 generalize hh : run = R
 rw [zaD] at hh
 subst hh
 generalize hh : zb3 = R
 rw [zjq] at hh
 subst hh
 kernel_rfl
theorem znP (fuel d : Nat) (x1 : Sl) (x6 : AV) (x7 : AV) (x8 : Pt) (h : AH) :
   zb7 fuel d (.exit 0) [(1, .slice x1), (6, x6), (7, x7), (8, .ptr x8)] h =
 (zb2 fuel d fuel [(1, .slice x1), (8, .ptr x8)] h).bind fun p1 =>
   zdh fuel d p1.1 p1.2.1 p1.2.2 := by
 generalize hh : zb7 = R
 rw [zgG] at hh
 subst hh
 generalize hh : zb2 = R
 rw [zgC] at hh
 subst hh
 generalize hh : zdh = R
 rw [zjx] at hh
 subst hh
 kernel_rfl
theorem zoe (fuel d : Nat) (x1 : AV) (x6 : Sl) (x7 : Bool) (x8 : AV) (h : AH) :
   zb7 fuel d .ret [(1, x1), (6, .slice x6), (7, .bool x7), (8, x8)] h =
 some ((AV.tup [(AV.slice x6), .bool x7]), h) := by
 generalize hh : zb7 = R
 rw [zgG] at hh
 subst hh
 kernel_rfl
theorem znI (fuel d : Nat) (n : Nat) (x1 : Sl) (x8 : Pt) (h : AH) :
   zb2 fuel d (n + 1) [(1, .slice x1), (8, .ptr x8)] h =
 (zbD fuel d fuel [(1, .slice x1), (8, .ptr x8), (10, .bool false), (11, .int .i64 0)] h).bind fun p1 =>
   zb6 fuel d n p1.1 p1.2.1 p1.2.2 := by
 generalize hh : zb2 = R
 rw [zgC] at hh
 subst hh
 generalize hh : zbD = R
 rw [zjp] at hh
 subst hh
 generalize hh : zb6 = R
 rw [zgF] at hh
 subst hh
 kernel_rfl
theorem zj2 (fuel d : Nat) (x6 : Sl) (x7 : Bool) (h : AH) :
   zdh fuel d .ret [(6, .slice x6), (7, .bool x7)] h =
 some ((AV.tup [(AV.slice x6), .bool x7]), h) := by
 generalize hh : zdh = R
 rw [zjx] at hh
 subst hh
 kernel_rfl
theorem znH (fuel d : Nat) (n : Nat) (x1 : Sl) (x8 : Pt) (x10 : Bool) (x11 : Int) (h : AH) :
   zbD fuel d (n + 1) [(1, .slice x1), (8, .ptr x8), (10, .bool x10), (11, .int .i64 x11)] h =
 (bif (decide (x11 < (x1.len : Int))) then ((AH.addr h 1 x1 x11).bind fun p1 =>
   (AH.cell h p1).bind fun u2 =>
   (AV.slice? u2).bind fun s3 =>
   (run fuel d zbt [(AV.ptr x8), .slice s3] h).bind fun r4 =>
   (bif AV.isTup 2 r4.1 then ((AV.comp 0 r4.1).bind fun u5 =>
   (AV.int? .i64 u5).bind fun n6 =>
   (AV.comp 1 r4.1).bind fun u7 =>
   (AV.int? .i64 u7).bind fun n8 =>
   (bif (decide (n6 = (2 : Int))) then (some (.ret, [(1, .slice x1), (6, .slice Sl.nil), (7, .bool false), (8, .ptr x8), (10, .bool x10)], r4.2)) else ((bif (!decide (n8 = (0 : Int))) then ((run fuel d zf0 [(AV.ptr x8), .int .i64 n8] r4.2).bind fun r9 =>
   (AV.bool? r9.1).bind fun b10 =>
   (bif (!b10) then (some (.ret, [(1, .slice x1), (6, .slice Sl.nil), (7, .bool false), (8, .ptr x8), (10, .bool x10)], r9.2)) else (zbD fuel d n [(1, .slice x1), (8, .ptr x8), (10, .bool true), (11, (AV.int .i64 (IntKind.wrap .i64 (x11 + (1 : Int)))))] r9.2))) else (zbD fuel d n [(1, .slice x1), (8, .ptr x8), (10, .bool x10), (11, (AV.int .i64 (IntKind.wrap .i64 (x11 + (1 : Int)))))] r4.2))))) else none)) else (some ((.exit 4), [(1, .slice x1), (6, AV.bot), (7, AV.bot), (8, .ptr x8), (10, .bool x10)], h))) := by
 generalize hh : run = R
 rw [zaD] at hh
 subst hh
 generalize hh : zbD = R
 rw [zjp] at hh
 subst hh
 kernel_rfl
theorem znO (fuel d : Nat) (n : Nat) (x1 : Sl) (x6 : AV) (x7 : AV) (x8 : Pt) (x10 : Bool) (h : AH) :
   zb6 fuel d n (.exit 4) [(1, .slice x1), (6, x6), (7, x7), (8, .ptr x8), (10, .bool x10)] h =
 (bif (!x10) then ((run fuel d zbJ [(AV.ptr x8)] h).bind fun r1 =>
   (AV.slice? r1.1).bind fun s2 =>
   some (.ret, [(6, .slice s2), (7, .bool true)], r1.2)) else (zb2 fuel d n [(1, .slice x1), (8, .ptr x8)] h)) := by
 generalize hh : run = R
 rw [zaD] at hh
 subst hh
 generalize hh : zb2 = R
 rw [zgC] at hh
 subst hh
 generalize hh : zb6 = R
 rw [zgF] at hh
 subst hh
 kernel_rfl
theorem zj1 (fuel d : Nat) (n : Nat) (x1 : AV) (x6 : Sl) (x7 : Bool) (x8 : AV) (x10 : AV) (h : AH) :
   zb6 fuel d n .ret [(1, x1), (6, .slice x6), (7, .bool x7), (8, x8), (10, x10)] h =
 some (.ret, [(6, .slice x6), (7, .bool x7)], h) := by
 generalize hh : zb6 = R
 rw [zgF] at hh
 subst hh
 kernel_rfl
noncomputable def zmO (fuel d : Nat) : Run := fun fr h k => zf8 (Cf fuel zay) false (zak (C fuel) false d) (zak (C fuel) true d) 42 (csub [true, true, true, false, true, false, false] (zbV Go.Proofs.Tryd.f30)) (asub [true, true, true, false, true, false, false] an30) fr h k
noncomputable def zio (fuel d : Nat) (n : Nat) (fr : Fr) (h : AH) : Option (zaj × Fr × AH) := ziV (zmO fuel d) (some [0, 1, 5, 6]) n fr h (kOut [0, 5])
noncomputable def zbv : Nat → Nat → Nat → Fr → AH → Option (zaj × Fr × AH) := hide zio
theorem zhC : zbv = zio := zae _
noncomputable def ziu (fuel d : Nat) : zaj → Fr → AH → Option (AV × AH) := (zbG 0 (kSeq (Cf fuel zay) false (zak (C fuel) false d) (zak (C fuel) true d) 42 (csub [true, true, true, true] (zbV Go.Proofs.Tryd.f30)) (asub [true, true, true, true] an30) (kRet (Cf fuel zay) Go.Proofs.Tryd.f30.results.toList)))
noncomputable def zcP : Nat → Nat → zaj → Fr → AH → Option (AV × AH) := hide ziu
theorem zhN : zcP = ziu := zae _
theorem znY (fuel d : Nat) (x0 : Pt) (x1 : Sl) (h : AH) :
   brun fuel (d + 1) zay [(AV.ptr x0), .slice x1] h =
 (run fuel d zbU [(AV.ptr x0), .slice x1] h).bind fun r1 =>
   (AV.bool? r1.1).bind fun b2 =>
   (bif (!b2) then (some ((AV.bool false), r1.2)) else ((zbv fuel d fuel [(0, .ptr x0), (1, .slice x1), (5, .slice Sl.nil), (6, .int .i64 0)] r1.2).bind fun p3 =>
   zcP fuel d p3.1 p3.2.1 p3.2.2)) := by
 generalize hh : run = R
 rw [zaD] at hh
 subst hh
 generalize hh : brun = R
 rw [zcI] at hh
 subst hh
 generalize hh : zbv = R
 rw [zhC] at hh
 subst hh
 generalize hh : zcP = R
 rw [zhN] at hh
 subst hh
 kernel_rfl
theorem zlz (fuel d : Nat) (n : Nat) (x0 : Pt) (x1 : Sl) (x5 : Sl) (x6 : Int) (h : AH) :
   zbv fuel d (n + 1) [(0, .ptr x0), (1, .slice x1), (5, .slice x5), (6, .int .i64 x6)] h =
 (bif (decide (x6 < (x1.len : Int))) then ((AH.addr h 1 x1 x6).bind fun p1 =>
   (AH.cell h p1).bind fun u2 =>
   (AV.int? .i64 u2).bind fun n3 =>
   (AH.append h false 1 8 x5 1 [(AV.int .i64 (IntKind.wrap .i64 (0 - n3)))]).bind fun a4 =>
   zbv fuel d n [(0, .ptr x0), (1, .slice x1), (5, .slice a4.1), (6, (AV.int .i64 (IntKind.wrap .i64 (x6 + (1 : Int)))))] a4.2) else (some ((.exit 0), [(0, .ptr x0), (5, .slice x5)], h))) := by
 generalize hh : zbv = R
 rw [zhC] at hh
 subst hh
 kernel_rfl
theorem zlM (fuel d : Nat) (x0 : Pt) (x5 : Sl) (h : AH) :
   zcP fuel d (.exit 0) [(0, .ptr x0), (5, .slice x5)] h =
 (Pt.chk x0).bind fun p1 =>
   (Pt.field 0 p1).bind fun p2 =>
   (AH.cell h p2).bind fun u3 =>
   (AV.int? .i64 u3).bind fun n4 =>
   (Pt.chk x0).bind fun p5 =>
   (Pt.field 1 p5).bind fun p6 =>
   (AH.cell h p6).bind fun u7 =>
   (AV.slice? u7).bind fun s8 =>
   (run fuel d za6 [(AV.int .i64 n4), .slice s8, .slice x5] h).bind fun r9 =>
   (bif AV.isTup 2 r9.1 then ((AV.comp 0 r9.1).bind fun u10 =>
   (AV.slice? u10).bind fun s11 =>
   (AV.comp 1 r9.1).bind fun u12 =>
   (AV.bool? u12).bind fun b13 =>
   some ((AV.bool (!b13)), r9.2)) else none) := by
 generalize hh : run = R
 rw [zaD] at hh
 subst hh
 generalize hh : zcP = R
 rw [zhN] at hh
 subst hh
 kernel_rfl
noncomputable def ziC (fuel d : Nat) : Run := fun fr h k => zf8 (Cf fuel zaF) false (zak (C fuel) false d) (zak (C fuel) true d) 88 (csub [true, true, true, true, false, true, false, false] (zbV Go.Proofs.Tryd.f31)) (asub [true, true, true, true, false, true, false, false] an31) fr h k
noncomputable def ziq (fuel d : Nat) (n : Nat) (fr : Fr) (h : AH) : Option (zaj × Fr × AH) := ziV (ziC fuel d) (some [0, 1, 5, 6]) n fr h (kOut [4])
noncomputable def zaO : Nat → Nat → Nat → Fr → AH → Option (zaj × Fr × AH) := hide ziq
theorem zeK : zaO = ziq := zae _
noncomputable def ziw (fuel d : Nat) : zaj → Fr → AH → Option (AV × AH) := (zbG 0 (kSeq (Cf fuel zaF) false (zak (C fuel) false d) (zak (C fuel) true d) 88 (csub [true, true, true, true, true] (zbV Go.Proofs.Tryd.f31)) (asub [true, true, true, true, true] an31) (kRet (Cf fuel zaF) Go.Proofs.Tryd.f31.results.toList)))
noncomputable def zbe : Nat → Nat → zaj → Fr → AH → Option (AV × AH) := hide ziw
theorem zeO : zbe = ziw := zae _
noncomputable def zmP (fuel d : Nat) : Run := fun fr h k => zf8 (Cf fuel zaF) false (zak (C fuel) false d) (zak (C fuel) true d) 88 (csub [true, true, true, true, false, true, false, false, true, false, false, true, true, false, true, false, false] (zbV Go.Proofs.Tryd.f31)) (asub [true, true, true, true, false, true, false, false, true, false, false, true, true, false, true, false, false] an31) fr h k
noncomputable def zip (fuel d : Nat) (n : Nat) (fr : Fr) (h : AH) : Option (zaj × Fr × AH) := ziV (zmP fuel d) (some [0, 1, 5, 6, 7, 8]) n fr h (kOut [0, 1, 5, 6, 7])
noncomputable def zbc : Nat → Nat → Nat → Fr → AH → Option (zaj × Fr × AH) := hide zip
theorem zhD : zbc = zip := zae _
noncomputable def ziv (fuel d : Nat) (n : Nat) : zaj → Fr → AH → Option (zaj × Fr × AH) := (zbG 2 (kSeq (Cf fuel zaF) false (zak (C fuel) false d) (zak (C fuel) true d) 88 (csub [true, true, true, true, false, true, false, false, true, false, false, true, true, true] (zbV Go.Proofs.Tryd.f31)) (asub [true, true, true, true, false, true, false, false, true, false, false, true, true, true] an31) (zbG 1 (kSeq (Cf fuel zaF) false (zak (C fuel) false d) (zak (C fuel) true d) 88 (csub [true, true, true, true, false, true, false, false, true, true] (zbV Go.Proofs.Tryd.f31)) (asub [true, true, true, true, false, true, false, false, true, true] an31) (zo9 (ziC fuel d) (some [0, 1, 5, 6]) n (kOut [4]))))))
noncomputable def zcQ : Nat → Nat → Nat → zaj → Fr → AH → Option (zaj × Fr × AH) := hide ziv
theorem zhO : zcQ = ziv := zae _
theorem znZ (fuel d : Nat) (x0 : Pt) (x1 : Sl) (h : AH) :
   brun fuel (d + 1) zaF [(AV.ptr x0), .slice x1] h =
 (run fuel d zay [(AV.ptr x0), .slice x1] h).bind fun r1 =>
   (AV.bool? r1.1).bind fun b2 =>
   (bif b2 then (some ((AV.bool true), r1.2)) else (((bif ((decide ((x1.len : Int) = (0 : Int))) == false) then ((run fuel d zbU [(AV.ptr x0), .slice x1] r1.2).bind fun r3 =>
   (AV.bool? r3.1).bind fun b4 =>
   some ((AV.bool (!b4)), r3.2)) else (some ((AV.bool true), r1.2)) : Option (AV × AH))).bind fun r5 =>
   (AV.bool? r5.1).bind fun b6 =>
   (bif b6 then (some ((AV.bool false), r5.2)) else ((AH.addr r5.2 1 x1 (0 : Int)).bind fun p7 =>
   (AH.cell r5.2 p7).bind fun u8 =>
   (AV.int? .i64 u8).bind fun n9 =>
   (zaO fuel d fuel [(0, .ptr x0), (1, .slice x1), (5, .int .i64 n9), (6, .int .i64 0)] r5.2).bind fun p10 =>
   zbe fuel d p10.1 p10.2.1 p10.2.2)))) := by
 generalize hh : run = R
 rw [zaD] at hh
 subst hh
 generalize hh : brun = R
 rw [zcI] at hh
 subst hh
 generalize hh : zaO = R
 rw [zeK] at hh
 subst hh
 generalize hh : zbe = R
 rw [zeO] at hh
 subst hh
 kernel_rfl
theorem zlB (fuel d : Nat) (n : Nat) (x0 : Pt) (x1 : Sl) (x5 : Int) (x6 : Int) (h : AH) :
   zaO fuel d (n + 1) [(0, .ptr x0), (1, .slice x1), (5, .int .i64 x5), (6, .int .i64 x6)] h =
 (Pt.chk x0).bind fun p1 =>
   (Pt.field 1 p1).bind fun p2 =>
   (AH.cell h p2).bind fun u3 =>
   (AV.slice? u3).bind fun s4 =>
   (bif (decide (x6 < (s4.len : Int))) then ((Pt.chk x0).bind fun p5 =>
   (Pt.field 1 p5).bind fun p6 =>
   (AH.cell h p6).bind fun u7 =>
   (AV.slice? u7).bind fun s8 =>
   (AH.addr h 1 s8 x6).bind fun p9 =>
   (AH.cell h p9).bind fun u10 =>
   (AV.slice? u10).bind fun s11 =>
   (run fuel d zdM [(AV.slice s11), (AV.int .i64 (IntKind.wrap .i64 (0 - x5)))] h).bind fun r12 =>
   (AV.bool? r12.1).bind fun b13 =>
   (bif (!b13) then (zaO fuel d n [(0, .ptr x0), (1, .slice x1), (5, .int .i64 x5), (6, (AV.int .i64 (IntKind.wrap .i64 (x6 + (1 : Int)))))] r12.2) else ((run fuel d zeS [(AV.slice x1)] r12.2).bind fun r14 =>
   (AV.slice? r14.1).bind fun s15 =>
   (zbc fuel d fuel [(0, .ptr x0), (1, .slice x1), (5, .int .i64 x5), (6, .int .i64 x6), (7, .slice s15), (8, .int .i64 0)] r14.2).bind fun p16 =>
   zcQ fuel d n p16.1 p16.2.1 p16.2.2))) else (some ((.exit 0), [(4, AV.bot)], h))) := by
 generalize hh : run = R
 rw [zaD] at hh
 subst hh
 generalize hh : zaO = R
 rw [zeK] at hh
 subst hh
 generalize hh : zbc = R
 rw [zhD] at hh
 subst hh
 generalize hh : zcQ = R
 rw [zhO] at hh
 subst hh
 kernel_rfl
theorem zlO (fuel d : Nat) (x4 : AV) (h : AH) :
   zbe fuel d (.exit 0) [(4, x4)] h =
 some ((AV.bool true), h) := by
 generalize hh : zbe = R
 rw [zeO] at hh
 subst hh
 kernel_rfl
theorem zmb (fuel d : Nat) (x4 : Bool) (h : AH) :
   zbe fuel d .ret [(4, .bool x4)] h =
 some ((AV.bool x4), h) := by
 generalize hh : zbe = R
 rw [zeO] at hh
 subst hh
 kernel_rfl
theorem zlA (fuel d : Nat) (n : Nat) (x0 : Pt) (x1 : Sl) (x5 : Int) (x6 : Int) (x7 : Sl) (x8 : Int) (h : AH) :
   zbc fuel d (n + 1) [(0, .ptr x0), (1, .slice x1), (5, .int .i64 x5), (6, .int .i64 x6), (7, .slice x7), (8, .int .i64 x8)] h =
 (Pt.chk x0).bind fun p1 =>
   (Pt.field 1 p1).bind fun p2 =>
   (AH.cell h p2).bind fun u3 =>
   (AV.slice? u3).bind fun s4 =>
   (AH.addr h 1 s4 x6).bind fun p5 =>
   (AH.cell h p5).bind fun u6 =>
   (AV.slice? u6).bind fun s7 =>
   (bif (decide (x8 < (s7.len : Int))) then ((Pt.chk x0).bind fun p8 =>
   (Pt.field 1 p8).bind fun p9 =>
   (AH.cell h p9).bind fun u10 =>
   (AV.slice? u10).bind fun s11 =>
   (AH.addr h 1 s11 x6).bind fun p12 =>
   (AH.cell h p12).bind fun u13 =>
   (AV.slice? u13).bind fun s14 =>
   (AH.addr h 1 s14 x8).bind fun p15 =>
   (AH.cell h p15).bind fun u16 =>
   (AV.int? .i64 u16).bind fun n17 =>
   (bif (!decide (n17 = (IntKind.wrap .i64 (0 - x5)))) then ((Pt.chk x0).bind fun p18 =>
   (Pt.field 1 p18).bind fun p19 =>
   (AH.cell h p19).bind fun u20 =>
   (AV.slice? u20).bind fun s21 =>
   (AH.addr h 1 s21 x6).bind fun p22 =>
   (AH.cell h p22).bind fun u23 =>
   (AV.slice? u23).bind fun s24 =>
   (AH.addr h 1 s24 x8).bind fun p25 =>
   (AH.cell h p25).bind fun u26 =>
   (AV.int? .i64 u26).bind fun n27 =>
   (AH.append h false 1 8 x7 1 [(AV.int .i64 n27)]).bind fun a28 =>
   zbc fuel d n [(0, .ptr x0), (1, .slice x1), (5, .int .i64 x5), (6, .int .i64 x6), (7, .slice a28.1), (8, (AV.int .i64 (IntKind.wrap .i64 (x8 + (1 : Int)))))] a28.2) else (zbc fuel d n [(0, .ptr x0), (1, .slice x1), (5, .int .i64 x5), (6, .int .i64 x6), (7, .slice x7), (8, (AV.int .i64 (IntKind.wrap .i64 (x8 + (1 : Int)))))] h))) else (some ((.exit 2), [(0, .ptr x0), (1, .slice x1), (5, .int .i64 x5), (6, .int .i64 x6), (7, .slice x7)], h))) := by
 generalize hh : zbc = R
 rw [zhD] at hh
 subst hh
 kernel_rfl
theorem zlN (fuel d : Nat) (n : Nat) (x0 : Pt) (x1 : Sl) (x5 : Int) (x6 : Int) (x7 : Sl) (h : AH) :
   zcQ fuel d n (.exit 2) [(0, .ptr x0), (1, .slice x1), (5, .int .i64 x5), (6, .int .i64 x6), (7, .slice x7)] h =
 (run fuel d zay [(AV.ptr x0), .slice x7] h).bind fun r1 =>
   (AV.bool? r1.1).bind fun b2 =>
   (bif (!b2) then (some (.ret, [(4, .bool false)], r1.2)) else (zaO fuel d n [(0, .ptr x0), (1, .slice x1), (5, .int .i64 x5), (6, (AV.int .i64 (IntKind.wrap .i64 (x6 + (1 : Int)))))] r1.2)) := by
 generalize hh : run = R
 rw [zaD] at hh
 subst hh
 generalize hh : zaO = R
 rw [zeK] at hh
 subst hh
 generalize hh : zcQ = R
 rw [zhO] at hh
 subst hh
 kernel_rfl
noncomputable def zpW (fuel d : Nat) : Run := fun fr h k => zf8 (Cf fuel zdY) false (zak (C fuel) false d) (zak (C fuel) true d) 24 (csub [true, false, true, false, false] (zbV Go.Proofs.Tryd.f32)) (asub [true, false, true, false, false] an32) fr h k
noncomputable def zlE (fuel d : Nat) (n : Nat) (fr : Fr) (h : AH) : Option (zaj × Fr × AH) := ziV (zpW fuel d) (some [0, 1, 5]) n fr h (kOut [4])
noncomputable def zdb : Nat → Nat → Nat → Fr → AH → Option (zaj × Fr × AH) := hide zlE
theorem zkm : zdb = zlE := zae _
noncomputable def zlT (fuel d : Nat) : zaj → Fr → AH → Option (AV × AH) := (zbG 0 (kSeq (Cf fuel zdY) false (zak (C fuel) false d) (zak (C fuel) true d) 24 (csub [true, true] (zbV Go.Proofs.Tryd.f32)) (asub [true, true] an32) (kRet (Cf fuel zdY) Go.Proofs.Tryd.f32.results.toList)))
noncomputable def zcD : Nat → Nat → zaj → Fr → AH → Option (AV × AH) := hide zlT
theorem zhR : zcD = zlT := zae _
theorem zq8 (fuel d : Nat) (x0 : Pt) (x1 : Sl) (h : AH) :
   brun fuel (d + 1) zdY [(AV.ptr x0), .slice x1] h =
 (zdb fuel d fuel [(0, .ptr x0), (1, .slice x1), (5, .int .i64 0)] h).bind fun p1 =>
   zcD fuel d p1.1 p1.2.1 p1.2.2 := by
 generalize hh : brun = R
 rw [zcI] at hh
 subst hh
 generalize hh : zdb = R
 rw [zkm] at hh
 subst hh
 generalize hh : zcD = R
 rw [zhR] at hh
 subst hh
 kernel_rfl
theorem zov (fuel d : Nat) (n : Nat) (x0 : Pt) (x1 : Sl) (x5 : Int) (h : AH) :
   zdb fuel d (n + 1) [(0, .ptr x0), (1, .slice x1), (5, .int .i64 x5)] h =
 (Pt.chk x0).bind fun p1 =>
   (Pt.field 1 p1).bind fun p2 =>
   (AH.cell h p2).bind fun u3 =>
   (AV.slice? u3).bind fun s4 =>
   (bif (decide (x5 < (s4.len : Int))) then ((Pt.chk x0).bind fun p5 =>
   (Pt.field 1 p5).bind fun p6 =>
   (AH.cell h p6).bind fun u7 =>
   (AV.slice? u7).bind fun s8 =>
   (AH.addr h 1 s8 x5).bind fun p9 =>
   (AH.cell h p9).bind fun u10 =>
   (AV.slice? u10).bind fun s11 =>
   (run fuel d zfZ [(AV.slice s11), .slice x1] h).bind fun r12 =>
   (AV.bool? r12.1).bind fun b13 =>
   (bif b13 then (some (.ret, [(4, .bool true)], r12.2)) else (zdb fuel d n [(0, .ptr x0), (1, .slice x1), (5, (AV.int .i64 (IntKind.wrap .i64 (x5 + (1 : Int)))))] r12.2))) else (some ((.exit 0), [(4, AV.bot)], h))) := by
 generalize hh : run = R
 rw [zaD] at hh
 subst hh
 generalize hh : zdb = R
 rw [zkm] at hh
 subst hh
 kernel_rfl
theorem zoB (fuel d : Nat) (x4 : AV) (h : AH) :
   zcD fuel d (.exit 0) [(4, x4)] h =
 some ((AV.bool false), h) := by
 generalize hh : zcD = R
 rw [zhR] at hh
 subst hh
 kernel_rfl
theorem zo2 (fuel d : Nat) (x4 : Bool) (h : AH) :
   zcD fuel d .ret [(4, .bool x4)] h =
 some ((AV.bool x4), h) := by
 generalize hh : zcD = R
 rw [zhR] at hh
 subst hh
 kernel_rfl
theorem zpK (fuel d : Nat) (x0 : Pt) (x1 : Sl) (h : AH) :
   run fuel (d + 1) zdz [(AV.ptr x0), .slice x1] h =
 (run fuel d zbU [(AV.ptr x0), .slice x1] h).bind fun r1 =>
   (AV.bool? r1.1).bind fun b2 =>
   (bif (!b2) then (some ((AV.bool false), r1.2)) else ((Pt.chk x0).bind fun p3 =>
   (Pt.field 1 p3).bind fun p4 =>
   (AH.cell r1.2 p4).bind fun u5 =>
   (AV.slice? u5).bind fun s6 =>
   (run fuel d zdX [(AV.slice s6)] r1.2).bind fun r7 =>
   (AV.slice? r7.1).bind fun s8 =>
   (run fuel d zeS [(AV.slice x1)] r7.2).bind fun r9 =>
   (AV.slice? r9.1).bind fun s10 =>
   (AH.append (AH.fixL r9.2 [(AV.slice s10)]).2 false 1 24 s8 1 (AH.fixL r9.2 [(AV.slice s10)]).1).bind fun a11 =>
   (Pt.chk x0).bind fun p12 =>
   (Pt.field 1 p12).bind fun p13 =>
   (AH.storeAt a11.2 [(AV.slice a11.1)] p13).bind fun h14 =>
   some ((AV.bool true), h14))) := by
 generalize hh : run = R
 rw [zaD] at hh
 subst hh
 kernel_rfl
theorem zpd (fuel d : Nat) (x0 : Pt) (x1 : Sl) (h : AH) :
   run fuel (d + 1) zez [(AV.ptr x0), .slice x1] h =
 (run fuel d zdk [(AV.ptr x0), .slice x1] h).bind fun r1 =>
   (AV.int? .i64 r1.1).bind fun n2 =>
   (bif (decide (n2 < (0 : Int))) then (some ((AV.bool false), r1.2)) else ((Pt.chk x0).bind fun p3 =>
   (Pt.field 1 p3).bind fun p4 =>
   (AH.cell r1.2 p4).bind fun u5 =>
   (AV.slice? u5).bind fun s6 =>
   (aHi (some (AV.int .i64 n2)) (Sl.len s6)).bind fun hi7 =>
   (aLo (none : Option AV) hi7).bind fun lo8 =>
   (aMx (none : Option AV) hi7).bind fun cl9 =>
   (bif (AH.hasSz r1.2 1 s6) then ((run fuel d zdX [(AV.slice (Sl.cut s6 1 lo8 hi7 cl9))] r1.2).bind fun r10 =>
   (AV.slice? r10.1).bind fun s11 =>
   (Pt.chk x0).bind fun p12 =>
   (Pt.field 1 p12).bind fun p13 =>
   (AH.cell r10.2 p13).bind fun u14 =>
   (AV.slice? u14).bind fun s15 =>
   (aHi (none : Option AV) (Sl.len s15)).bind fun hi16 =>
   (aLo (some (AV.int .i64 (IntKind.wrap .i64 (n2 + (1 : Int))))) hi16).bind fun lo17 =>
   (aMx (none : Option AV) hi16).bind fun cl18 =>
   (bif (AH.hasSz r10.2 1 s15) then ((AH.sliceCells r10.2 1 (Sl.cut s15 1 lo17 hi16 cl18)).bind fun xs19 =>
   (AH.append (AH.fixL r10.2 xs19).2 false 1 24 s11 (Sl.cut s15 1 lo17 hi16 cl18).len (AH.fixL r10.2 xs19).1).bind fun a20 =>
   (Pt.chk x0).bind fun p21 =>
   (Pt.field 1 p21).bind fun p22 =>
   (AH.storeAt a20.2 [(AV.slice a20.1)] p22).bind fun h23 =>
   some ((AV.bool true), h23)) else (none))) else (none)))) := by
 generalize hh : run = R
 rw [zaD] at hh
 subst hh
 kernel_rfl
theorem zum (fuel d : Nat) (x0 : AV) (x1 : Int) (h : AH) :
   brun fuel (d + 1) zmH [x0, .int .i64 x1] h =
 (run fuel d ziX [(AV.int .i64 x1)] h).bind fun r1 =>
   (AV.agg? r1.1).bind fun c2 =>
   (run fuel d znj [x0, .agg c2] r1.2).bind fun r3 =>
   (AV.bool? r3.1).bind fun b4 =>
   some ((AV.bool b4), r3.2) := by
 generalize hh : run = R
 rw [zaD] at hh
 subst hh
 generalize hh : brun = R
 rw [zcI] at hh
 subst hh
 kernel_rfl
theorem zvN (fuel d : Nat) (x0 : Int) (h : AH) :
   run fuel (d + 1) zoJ [(AV.int .i64 x0)] h =
 some ((AV.int .i64 (bif decide ((4000 : Int) < (bif decide (x0 < (0 : Int)) then (0 : Int) else x0)) then (4000 : Int) else (bif decide (x0 < (0 : Int)) then (0 : Int) else x0))), h) := by
 generalize hh : run = R
 rw [zaD] at hh
 subst hh
 kernel_rfl
theorem zs8 (fuel d : Nat) (x0 : Pt) (x1 : Sl) (h : AH) :
   run fuel (d + 1) zeT [(AV.ptr x0), .slice x1] h =
 (run fuel d zeR [(AV.slice x1), (AV.func zln [(Pt.mk ⟨AH.next h, 0, 0⟩ 1)])] (AH.push h 1 [(AV.ptr x0)])).bind fun r1 =>
   (AV.bool? r1.1).bind fun b2 =>
   some ((AV.bool (!b2)), r1.2) := by
 generalize hh : run = R
 rw [zaD] at hh
 subst hh
 kernel_rfl
noncomputable def zqm (fuel d : Nat) : Run := fun fr h k => zf8 (Cf fuel za4) false (zak (C fuel) false d) (zak (C fuel) true d) 75 (csub [true, true, true, true, true, false, true, false, false] (zbV Go.Proofs.Tryd.f38)) (asub [true, true, true, true, true, false, true, false, false] an38) fr h k
noncomputable def zmn (fuel d : Nat) (n : Nat) (fr : Fr) (h : AH) : Option (zaj × Fr × AH) := ziV (zqm fuel d) (some [2, 6, 7, 8, 9, 24, 25, 26]) n fr h (kOut [2, 4, 5, 6, 7, 9])
noncomputable def zcu : Nat → Nat → Nat → Fr → AH → Option (zaj × Fr × AH) := hide zmn
theorem zk5 : zcu = zmn := zae _
noncomputable def zmv (fuel d : Nat) : zaj → Fr → AH → Option (AV × AH) := (zbG 0 (kSeq (Cf fuel za4) false (zak (C fuel) false d) (zak (C fuel) true d) 75 (csub [true, true, true, true, true, true] (zbV Go.Proofs.Tryd.f38)) (asub [true, true, true, true, true, true] an38) (kRet (Cf fuel za4) Go.Proofs.Tryd.f38.results.toList)))
noncomputable def zcU : Nat → Nat → zaj → Fr → AH → Option (AV × AH) := hide zmv
theorem zih : zcU = zmv := zae _
noncomputable def zql (fuel d : Nat) : Run := fun fr h k => zf8 (Cf fuel za4) false (zak (C fuel) false d) (zak (C fuel) true d) 75 (csub [true, true, true, true, true, true, false, true, false, false] (zbV Go.Proofs.Tryd.f38)) (asub [true, true, true, true, true, true, false, true, false, false] an38) fr h k
noncomputable def zmm (fuel d : Nat) (n : Nat) (fr : Fr) (h : AH) : Option (zaj × Fr × AH) := ziV (zql fuel d) (some [2, 6, 7, 9, 38, 39, 40]) n fr h (kOut [2, 4, 5, 6, 7, 9])
noncomputable def zcN : Nat → Nat → Nat → Fr → AH → Option (zaj × Fr × AH) := hide zmm
theorem zk4 : zcN = zmm := zae _
noncomputable def zmu (fuel d : Nat) : zaj → Fr → AH → Option (AV × AH) := (zbG 2 (kSeq (Cf fuel za4) false (zak (C fuel) false d) (zak (C fuel) true d) 75 (csub [true, true, true, true, true, true, true] (zbV Go.Proofs.Tryd.f38)) (asub [true, true, true, true, true, true, true] an38) (kRet (Cf fuel za4) Go.Proofs.Tryd.f38.results.toList)))
noncomputable def zcT : Nat → Nat → zaj → Fr → AH → Option (AV × AH) := hide zmu
theorem zig : zcT = zmu := zae _
noncomputable def zmQ (fuel d : Nat) : Run := fun fr h k => zf8 (Cf fuel za4) false (zak (C fuel) false d) (zak (C fuel) true d) 75 (csub [true, true, true, true, true, true, true, false, false, false] (zbV Go.Proofs.Tryd.f38)) (asub [true, true, true, true, true, true, true, false, false, false] an38) fr h k
noncomputable def zml (fuel d : Nat) (n : Nat) (fr : Fr) (h : AH) : Option (zaj × Fr × AH) := ziV (zmQ fuel d) (some [2, 6, 7, 9]) n fr h (kOut [4, 5, 6])
noncomputable def zct : Nat → Nat → Nat → Fr → AH → Option (zaj × Fr × AH) := hide zml
theorem zid : zct = zml := zae _
noncomputable def zmt (fuel d : Nat) : zaj → Fr → AH → Option (AV × AH) := (zbG 4 (kSeq (Cf fuel za4) false (zak (C fuel) false d) (zak (C fuel) true d) 75 (csub [true, true, true, true, true, true, true, true] (zbV Go.Proofs.Tryd.f38)) (asub [true, true, true, true, true, true, true, true] an38) (kRet (Cf fuel za4) Go.Proofs.Tryd.f38.results.toList)))
noncomputable def zcw : Nat → Nat → zaj → Fr → AH → Option (AV × AH) := hide zmt
theorem zif : zcw = zmt := zae _
noncomputable def zqk (fuel d : Nat) : Run := fun fr h k => zf8 (Cf fuel za4) false (zak (C fuel) false d) (zak (C fuel) true d) 75 (csub [true, true, true, true, true, true, true, false, false, false, true, false, true, true, true, false, false] (zbV Go.Proofs.Tryd.f38)) (asub [true, true, true, true, true, true, true, false, false, false, true, false, true, true, true, false, false] an38) fr h k
noncomputable def zmk (fuel d : Nat) (n : Nat) (fr : Fr) (h : AH) : Option (zaj × Fr × AH) := ziV (zqk fuel d) (some [2, 6, 7, 9, 63, 64, 65]) n fr h (kOut [2, 4, 5, 6, 7, 9])
noncomputable def zcM : Nat → Nat → Nat → Fr → AH → Option (zaj × Fr × AH) := hide zmk
theorem zk3 : zcM = zmk := zae _
noncomputable def zms (fuel d : Nat) (n : Nat) : zaj → Fr → AH → Option (zaj × Fr × AH) := (zbG 6 (zbG 5 (zo9 (zmQ fuel d) (some [2, 6, 7, 9]) n (kOut [4, 5, 6]))))
noncomputable def zcS : Nat → Nat → Nat → zaj → Fr → AH → Option (zaj × Fr × AH) := hide zms
theorem zie : zcS = zms := zae _
theorem zrF (fuel d : Nat) (x0 : Pt) (x1 : Sl) (h : AH) :
   run fuel (d + 1) za4 [(AV.ptr x0), .slice x1] h =
 (AH.cell (AH.push h 1 [(AV.ptr x0)]) (Pt.mk ⟨AH.next h, 0, 0⟩ 1)).bind fun u1 =>
   (AV.ptr? u1).bind fun p2 =>
   (Pt.chk p2).bind fun p3 =>
   (Pt.field 0 p3).bind fun p4 =>
   (AH.cell (AH.push h 1 [(AV.ptr x0)]) p4).bind fun u5 =>
   (AV.int? .i64 u5).bind fun n6 =>
   (run fuel d zqL [(AV.int .i64 n6)] (AH.push h 1 [(AV.ptr x0)])).bind fun r7 =>
   (AV.ptr? r7.1).bind fun p8 =>
   (AH.storeAt (AH.push r7.2 1 [(AV.ptr Pt.nil)]) [(AV.ptr p8)] (Pt.mk ⟨AH.next r7.2, 0, 0⟩ 1)).bind fun h9 =>
   (AH.storeAt (AH.push (AH.push h9 1 [(AV.slice Sl.nil)]) 1 [AV.nilfunc]) [(AV.func zbY [(Pt.mk ⟨AH.next r7.2, 0, 0⟩ 1), (Pt.mk ⟨AH.next h9, 0, 0⟩ 1)])] (Pt.mk ⟨AH.next (AH.push h9 1 [(AV.slice Sl.nil)]), 0, 0⟩ 1)).bind fun h10 =>
   (zcu fuel d fuel [(2, (AV.ptr (Pt.mk ⟨AH.next h, 0, 0⟩ 1))), (6, (AV.ptr (Pt.mk ⟨AH.next r7.2, 0, 0⟩ 1))), (7, (AV.ptr (Pt.mk ⟨AH.next h9, 0, 0⟩ 1))), (8, (AV.ptr (Pt.mk ⟨AH.next (AH.push h9 1 [(AV.slice Sl.nil)]), 0, 0⟩ 1))), (9, (AV.func zfW [(Pt.mk ⟨AH.next r7.2, 0, 0⟩ 1), (Pt.mk ⟨AH.next h, 0, 0⟩ 1), (Pt.mk ⟨AH.next (AH.push h9 1 [(AV.slice Sl.nil)]), 0, 0⟩ 1)])), (24, .slice x1), (25, (AV.int .i64 (x1.len : Int))), (26, .int .i64 0)] h10).bind fun p11 =>
   zcU fuel d p11.1 p11.2.1 p11.2.2 := by
 generalize hh : run = R
 rw [zaD] at hh
 subst hh
 generalize hh : zcu = R
 rw [zk5] at hh
 subst hh
 generalize hh : zcU = R
 rw [zih] at hh
 subst hh
 kernel_rfl
theorem zoZ (fuel d : Nat) (n : Nat) (x2 : Pt) (x6 : Pt) (x7 : Pt) (x8 : Pt) (x9f : Nat) (x9c : List Pt) (x24 : Sl) (x25 : Int) (x26 : Int) (h : AH) :
   zcu fuel d (n + 1) [(2, .ptr x2), (6, .ptr x6), (7, .ptr x7), (8, .ptr x8), (9, .func x9f x9c), (24, .slice x24), (25, .int .i64 x25), (26, .int .i64 x26)] h =
 (bif (decide (x26 < x25)) then ((AH.addr h 1 x24 x26).bind fun p1 =>
   (AH.cell h p1).bind fun u2 =>
   (AV.int? .i64 u2).bind fun n3 =>
   (AH.cell h x8).bind fun u4 =>
   (AV.func? u4).bind fun fc5 =>
   (run fuel d fc5.1 ([(AV.int .i64 n3)] ++ List.map AV.ptr fc5.2) h).bind fun r6 =>
   (AV.bool? r6.1).bind fun b7 =>
   (bif (!b7) then (some (.ret, [(2, .ptr x2), (4, .ptr Pt.nil), (5, .bool false), (6, .ptr x6), (7, .ptr x7), (9, .func x9f x9c)], r6.2)) else (zcu fuel d n [(2, .ptr x2), (6, .ptr x6), (7, .ptr x7), (8, .ptr x8), (9, .func x9f x9c), (24, .slice x24), (25, .int .i64 x25), (26, (AV.int .i64 (IntKind.wrap .i64 (x26 + (1 : Int)))))] r6.2))) else (some ((.exit 0), [(2, .ptr x2), (4, AV.bot), (5, AV.bot), (6, .ptr x6), (7, .ptr x7), (9, .func x9f x9c)], h))) := by
 generalize hh : run = R
 rw [zaD] at hh
 subst hh
 generalize hh : zcu = R
 rw [zk5] at hh
 subst hh
 kernel_rfl
theorem zo6 (fuel d : Nat) (x2 : Pt) (x4 : AV) (x5 : AV) (x6 : Pt) (x7 : Pt) (x9f : Nat) (x9c : List Pt) (h : AH) :
   zcU fuel d (.exit 0) [(2, .ptr x2), (4, x4), (5, x5), (6, .ptr x6), (7, .ptr x7), (9, .func x9f x9c)] h =
 (AH.cell h x2).bind fun u1 =>
   (AV.ptr? u1).bind fun p2 =>
   (Pt.chk p2).bind fun p3 =>
   (Pt.field 4 p3).bind fun p4 =>
   (AH.cell h p4).bind fun u5 =>
   (AV.slice? u5).bind fun s6 =>
   (zcN fuel d fuel [(2, .ptr x2), (6, .ptr x6), (7, .ptr x7), (9, .func x9f x9c), (38, .slice s6), (39, (AV.int .i64 (s6.len : Int))), (40, .int .i64 0)] h).bind fun p7 =>
   zcT fuel d p7.1 p7.2.1 p7.2.2 := by
 generalize hh : zcU = R
 rw [zih] at hh
 subst hh
 generalize hh : zcN = R
 rw [zk4] at hh
 subst hh
 generalize hh : zcT = R
 rw [zig] at hh
 subst hh
 kernel_rfl
theorem zpD (fuel d : Nat) (x2 : AV) (x4 : Pt) (x5 : Bool) (x6 : AV) (x7 : AV) (x9 : AV) (h : AH) :
   zcU fuel d .ret [(2, x2), (4, .ptr x4), (5, .bool x5), (6, x6), (7, x7), (9, x9)] h =
 some ((AV.tup [(AV.ptr x4), .bool x5]), h) := by
 generalize hh : zcU = R
 rw [zih] at hh
 subst hh
 kernel_rfl
theorem zoY (fuel d : Nat) (n : Nat) (x2 : Pt) (x6 : Pt) (x7 : Pt) (x9f : Nat) (x9c : List Pt) (x38 : Sl) (x39 : Int) (x40 : Int) (h : AH) :
   zcN fuel d (n + 1) [(2, .ptr x2), (6, .ptr x6), (7, .ptr x7), (9, .func x9f x9c), (38, .slice x38), (39, .int .i64 x39), (40, .int .i64 x40)] h =
 (bif (decide (x40 < x39)) then ((AH.addr h 1 x38 x40).bind fun p1 =>
   (AH.cell h p1).bind fun u2 =>
   (AV.int? .i64 u2).bind fun n3 =>
   (run fuel d x9f ([(AV.int .i64 n3)] ++ List.map AV.ptr x9c) h).bind fun r4 =>
   (AV.bool? r4.1).bind fun b5 =>
   (bif (!b5) then (some (.ret, [(2, .ptr x2), (4, .ptr Pt.nil), (5, .bool false), (6, .ptr x6), (7, .ptr x7), (9, .func x9f x9c)], r4.2)) else (zcN fuel d n [(2, .ptr x2), (6, .ptr x6), (7, .ptr x7), (9, .func x9f x9c), (38, .slice x38), (39, .int .i64 x39), (40, (AV.int .i64 (IntKind.wrap .i64 (x40 + (1 : Int)))))] r4.2))) else (some ((.exit 2), [(2, .ptr x2), (4, AV.bot), (5, AV.bot), (6, .ptr x6), (7, .ptr x7), (9, .func x9f x9c)], h))) := by
 generalize hh : run = R
 rw [zaD] at hh
 subst hh
 generalize hh : zcN = R
 rw [zk4] at hh
 subst hh
 kernel_rfl
theorem zo5 (fuel d : Nat) (x2 : Pt) (x4 : AV) (x5 : AV) (x6 : Pt) (x7 : Pt) (x9f : Nat) (x9c : List Pt) (h : AH) :
   zcT fuel d (.exit 2) [(2, .ptr x2), (4, x4), (5, x5), (6, .ptr x6), (7, .ptr x7), (9, .func x9f x9c)] h =
 (zct fuel d fuel [(2, .ptr x2), (6, .ptr x6), (7, .ptr x7), (9, .func x9f x9c)] h).bind fun p1 =>
   zcw fuel d p1.1 p1.2.1 p1.2.2 := by
 generalize hh : zcT = R
 rw [zig] at hh
 subst hh
 generalize hh : zct = R
 rw [zid] at hh
 subst hh
 generalize hh : zcw = R
 rw [zif] at hh
 subst hh
 kernel_rfl
theorem zpC (fuel d : Nat) (x2 : AV) (x4 : Pt) (x5 : Bool) (x6 : AV) (x7 : AV) (x9 : AV) (h : AH) :
   zcT fuel d .ret [(2, x2), (4, .ptr x4), (5, .bool x5), (6, x6), (7, x7), (9, x9)] h =
 some ((AV.tup [(AV.ptr x4), .bool x5]), h) := by
 generalize hh : zcT = R
 rw [zig] at hh
 subst hh
 kernel_rfl
theorem zoX (fuel d : Nat) (n : Nat) (x2 : Pt) (x6 : Pt) (x7 : Pt) (x9f : Nat) (x9c : List Pt) (h : AH) :
   zct fuel d (n + 1) [(2, .ptr x2), (6, .ptr x6), (7, .ptr x7), (9, .func x9f x9c)] h =
 (AH.cell h x7).bind fun u1 =>
   (AV.slice? u1).bind fun s2 =>
   (bif (decide ((0 : Int) < (s2.len : Int))) then ((AH.cell h x7).bind fun u3 =>
   (AV.slice? u3).bind fun s4 =>
   (AH.addr h 1 s4 (0 : Int)).bind fun p5 =>
   (AH.cell h p5).bind fun u6 =>
   (AV.int? .i64 u6).bind fun n7 =>
   (AH.cell h x7).bind fun u8 =>
   (AV.slice? u8).bind fun s9 =>
   (aHi (none : Option AV) (Sl.len s9)).bind fun hi10 =>
   (aLo (some (AV.int .i64 1)) hi10).bind fun lo11 =>
   (aMx (none : Option AV) hi10).bind fun cl12 =>
   (bif (AH.hasSz h 1 s9) then ((AH.storeAt h [(AV.slice (Sl.cut s9 1 lo11 hi10 cl12))] x7).bind fun h13 =>
   (AH.cell h13 x2).bind fun u14 =>
   (AV.ptr? u14).bind fun p15 =>
   (Pt.chk p15).bind fun p16 =>
   (Pt.field 3 p16).bind fun p17 =>
   (AH.cell h13 p17).bind fun u18 =>
   (AV.map? u18).bind fun m19 =>
   (AH.mapOf h13 m19).bind fun es20 =>
   (zwq (AV.int .i64 (IntKind.wrap .i64 (0 - n7))) es20).bind fun r21 =>
   (AV.slice? (mgot (AV.slice Sl.nil) r21)).bind fun s22 =>
   (zcM fuel d fuel [(2, .ptr x2), (6, .ptr x6), (7, .ptr x7), (9, .func x9f x9c), (63, .slice s22), (64, (AV.int .i64 (s22.len : Int))), (65, .int .i64 0)] h13).bind fun p23 =>
   zcS fuel d n p23.1 p23.2.1 p23.2.2) else (none))) else (some ((.exit 4), [(4, AV.bot), (5, AV.bot), (6, .ptr x6)], h))) := by
 generalize hh : zct = R
 rw [zid] at hh
 subst hh
 generalize hh : zcM = R
 rw [zk3] at hh
 subst hh
 generalize hh : zcS = R
 rw [zie] at hh
 subst hh
 kernel_rfl
theorem zo4 (fuel d : Nat) (x4 : AV) (x5 : AV) (x6 : Pt) (h : AH) :
   zcw fuel d (.exit 4) [(4, x4), (5, x5), (6, .ptr x6)] h =
 (AH.cell h x6).bind fun u1 =>
   (AV.ptr? u1).bind fun p2 =>
   some ((AV.tup [(AV.ptr p2), .bool true]), h) := by
 generalize hh : zcw = R
 rw [zif] at hh
 subst hh
 kernel_rfl
theorem zpB (fuel d : Nat) (x4 : Pt) (x5 : Bool) (x6 : AV) (h : AH) :
   zcw fuel d .ret [(4, .ptr x4), (5, .bool x5), (6, x6)] h =
 some ((AV.tup [(AV.ptr x4), .bool x5]), h) := by
 generalize hh : zcw = R
 rw [zif] at hh
 subst hh
 kernel_rfl
theorem zoW (fuel d : Nat) (n : Nat) (x2 : Pt) (x6 : Pt) (x7 : Pt) (x9f : Nat) (x9c : List Pt) (x63 : Sl) (x64 : Int) (x65 : Int) (h : AH) :
   zcM fuel d (n + 1) [(2, .ptr x2), (6, .ptr x6), (7, .ptr x7), (9, .func x9f x9c), (63, .slice x63), (64, .int .i64 x64), (65, .int .i64 x65)] h =
 (bif (decide (x65 < x64)) then ((AH.addr h 1 x63 x65).bind fun p1 =>
   (AH.cell h p1).bind fun u2 =>
   (AV.int? .i64 u2).bind fun n3 =>
   (run fuel d x9f ([(AV.int .i64 n3)] ++ List.map AV.ptr x9c) h).bind fun r4 =>
   (AV.bool? r4.1).bind fun b5 =>
   (bif (!b5) then (some (.ret, [(2, .ptr x2), (4, .ptr Pt.nil), (5, .bool false), (6, .ptr x6), (7, .ptr x7), (9, .func x9f x9c)], r4.2)) else (zcM fuel d n [(2, .ptr x2), (6, .ptr x6), (7, .ptr x7), (9, .func x9f x9c), (63, .slice x63), (64, .int .i64 x64), (65, (AV.int .i64 (IntKind.wrap .i64 (x65 + (1 : Int)))))] r4.2))) else (some ((.exit 6), [(2, .ptr x2), (4, AV.bot), (5, AV.bot), (6, .ptr x6), (7, .ptr x7), (9, .func x9f x9c)], h))) := by
 generalize hh : run = R
 rw [zaD] at hh
 subst hh
 generalize hh : zcM = R
 rw [zk3] at hh
 subst hh
 kernel_rfl
theorem zo3 (fuel d : Nat) (n : Nat) (x2 : Pt) (x4 : AV) (x5 : AV) (x6 : Pt) (x7 : Pt) (x9f : Nat) (x9c : List Pt) (h : AH) :
   zcS fuel d n (.exit 6) [(2, .ptr x2), (4, x4), (5, x5), (6, .ptr x6), (7, .ptr x7), (9, .func x9f x9c)] h =
 zct fuel d n [(2, .ptr x2), (6, .ptr x6), (7, .ptr x7), (9, .func x9f x9c)] h := by
 generalize hh : zct = R
 rw [zid] at hh
 subst hh
 generalize hh : zcS = R
 rw [zie] at hh
 subst hh
 kernel_rfl
theorem zpA (fuel d : Nat) (n : Nat) (x2 : AV) (x4 : Pt) (x5 : Bool) (x6 : AV) (x7 : AV) (x9 : AV) (h : AH) :
   zcS fuel d n .ret [(2, x2), (4, .ptr x4), (5, .bool x5), (6, x6), (7, x7), (9, x9)] h =
 some (.ret, [(4, .ptr x4), (5, .bool x5), (6, x6)], h) := by
 generalize hh : zcS = R
 rw [zie] at hh
 subst hh
 kernel_rfl
noncomputable def zkZ (fuel d : Nat) : Run := fun fr h k => zf8 (Cf fuel zcE) false (zak (C fuel) false d) (zak (C fuel) true d) 31 (csub [true, true, false, true, false, false] (zbV Go.Proofs.Tryd.f39)) (asub [true, true, false, true, false, false] an39) fr h k
noncomputable def zkq (fuel d : Nat) (n : Nat) (fr : Fr) (h : AH) : Option (zaj × Fr × AH) := ziV (zkZ fuel d) (some [3, 9, 10, 11]) n fr h (kOut [3])
noncomputable def zbE : Nat → Nat → Nat → Fr → AH → Option (zaj × Fr × AH) := hide zkq
theorem zgE : zbE = zkq := zae _
noncomputable def zkI (fuel d : Nat) : zaj → Fr → AH → Option (AV × AH) := (zbG 0 (kSeq (Cf fuel zcE) false (zak (C fuel) false d) (zak (C fuel) true d) 31 (csub [true, true, true] (zbV Go.Proofs.Tryd.f39)) (asub [true, true, true] an39) (kRet (Cf fuel zcE) Go.Proofs.Tryd.f39.results.toList)))
noncomputable def zew : Nat → Nat → zaj → Fr → AH → Option (AV × AH) := hide zkI
theorem zjG : zew = zkI := zae _
noncomputable def zkH (fuel d : Nat) (n : Nat) : zaj → Fr → AH → Option (zaj × Fr × AH) := (kSeq (Cf fuel zcE) false (zak (C fuel) false d) (zak (C fuel) true d) 31 (csub [true, true, false, true, false, false, true, true, false, false, true, true] (zbV Go.Proofs.Tryd.f39)) (asub [true, true, false, true, false, false, true, true, false, false, true, true] an39) (zbG 1 (kSeq (Cf fuel zcE) false (zak (C fuel) false d) (zak (C fuel) true d) 31 (csub [true, true, false, true, false, false, true, true, true] (zbV Go.Proofs.Tryd.f39)) (asub [true, true, false, true, false, false, true, true, true] an39) (zo9 (zkZ fuel d) (some [3, 9, 10, 11]) n (kOut [3])))))
noncomputable def zev : Nat → Nat → Nat → zaj → Fr → AH → Option (zaj × Fr × AH) := hide zkH
theorem zjF : zev = zkH := zae _
theorem zp6 (fuel d : Nat) (x0 : Pt) (h : AH) :
   run fuel (d + 1) zcE [(AV.ptr x0)] h =
 (Pt.chk x0).bind fun p1 =>
   (Pt.field 0 p1).bind fun p2 =>
   (AH.cell h p2).bind fun u3 =>
   (AV.slice? u3).bind fun s4 =>
   (zbE fuel d fuel [(3, .slice Sl.nil), (9, .slice s4), (10, (AV.int .i64 (s4.len : Int))), (11, .int .i64 0)] h).bind fun p5 =>
   zew fuel d p5.1 p5.2.1 p5.2.2 := by
 generalize hh : run = R
 rw [zaD] at hh
 subst hh
 generalize hh : zbE = R
 rw [zgE] at hh
 subst hh
 generalize hh : zew = R
 rw [zjG] at hh
 subst hh
 kernel_rfl
theorem znN (fuel d : Nat) (n : Nat) (x3 : Sl) (x9 : Sl) (x10 : Int) (x11 : Int) (h : AH) :
   zbE fuel d (n + 1) [(3, .slice x3), (9, .slice x9), (10, .int .i64 x10), (11, .int .i64 x11)] h =
 (bif (decide (x11 < x10)) then ((AH.addr h 1 x9 x11).bind fun p1 =>
   (AH.cell h p1).bind fun u2 =>
   (AV.int? .i8 u2).bind fun n3 =>
   ((bif (decide (n3 = (1 : Int))) then ((AH.append h false 1 8 x3 1 [(AV.int .i64 x11)]).bind fun a4 =>
   some (.normal, [(3, .slice a4.1), (4, .int .i64 x11), (5, .int .i8 n3), (9, .slice x9), (10, .int .i64 x10), (11, .int .i64 x11)], a4.2)) else (some (.normal, [(3, .slice x3), (4, .int .i64 x11), (5, .int .i8 n3), (9, .slice x9), (10, .int .i64 x10), (11, .int .i64 x11)], h)))).bind fun p5 =>
   zev fuel d n p5.1 p5.2.1 p5.2.2) else (some ((.exit 0), [(3, .slice x3)], h))) := by
 generalize hh : zbE = R
 rw [zgE] at hh
 subst hh
 generalize hh : zev = R
 rw [zjF] at hh
 subst hh
 kernel_rfl
theorem znT (fuel d : Nat) (x3 : Sl) (h : AH) :
   zew fuel d (.exit 0) [(3, .slice x3)] h =
 some ((AV.slice x3), h) := by
 generalize hh : zew = R
 rw [zjG] at hh
 subst hh
 kernel_rfl
theorem zhl (fuel d : Nat) (n : Nat) (x3 : Sl) (x4 : Int) (x5 : Int) (x9 : Sl) (x10 : Int) (x11 : Int) (h : AH) :
   zev fuel d n .normal [(3, .slice x3), (4, .int .i64 x4), (5, .int .i8 x5), (9, .slice x9), (10, .int .i64 x10), (11, .int .i64 x11)] h =
 (bif (decide (x5 = (2 : Int))) then ((AH.append h false 1 8 x3 1 [(AV.int .i64 (IntKind.wrap .i64 (0 - x4)))]).bind fun a1 =>
   zbE fuel d n [(3, .slice a1.1), (9, .slice x9), (10, .int .i64 x10), (11, (AV.int .i64 (IntKind.wrap .i64 (x11 + (1 : Int)))))] a1.2) else (zbE fuel d n [(3, .slice x3), (9, .slice x9), (10, .int .i64 x10), (11, (AV.int .i64 (IntKind.wrap .i64 (x11 + (1 : Int)))))] h)) := by
 generalize hh : zbE = R
 rw [zgE] at hh
 subst hh
 generalize hh : zev = R
 rw [zjF] at hh
 subst hh
 kernel_rfl
noncomputable def zuL (fuel d : Nat) : Run := fun fr h k => zf8 (Cf fuel zlo) false (zak (C fuel) false d) (zak (C fuel) true d) 33 (csub [true, true, true, true, false, true, false, false] (zbV Go.Proofs.Tryd.f40)) (asub [true, true, true, true, false, true, false, false] an40) fr h k
noncomputable def zqW (fuel d : Nat) (n : Nat) (fr : Fr) (h : AH) : Option (zaj × Fr × AH) := ziV (zuL fuel d) (some [4, 5]) n fr h (kOut [2, 3, 4])
noncomputable def zhE : Nat → Nat → Nat → Fr → AH → Option (zaj × Fr × AH) := hide zqW
theorem zpv : zhE = zqW := zae _
noncomputable def zqZ (fuel d : Nat) : zaj → Fr → AH → Option (AV × AH) := (zbG 0 (kSeq (Cf fuel zlo) false (zak (C fuel) false d) (zak (C fuel) true d) 33 (csub [true, true, true, true, true] (zbV Go.Proofs.Tryd.f40)) (asub [true, true, true, true, true] an40) (kRet (Cf fuel zlo) Go.Proofs.Tryd.f40.results.toList)))
noncomputable def zgz : Nat → Nat → zaj → Fr → AH → Option (AV × AH) := hide zqZ
theorem zna : zgz = zqZ := zae _
theorem zxm (fuel d : Nat) (x0 : Sl) (h : AH) :
   run fuel (d + 1) zlo [(AV.slice x0)] h =
 (run fuel d zc1 [(AV.slice x0)] h).bind fun r1 =>
   (AV.slice? r1.1).bind fun s2 =>
   (run fuel d zen [(AV.slice s2), .func zi0 []] r1.2).bind fun r3 =>
   (run fuel d zaM [(AV.slice s2)] r3.2).bind fun r4 =>
   (AV.slice? r4.1).bind fun s5 =>
   (run fuel d zey [(AV.slice s5)] r4.2).bind fun r6 =>
   (AV.slice? r6.1).bind fun s7 =>
   (zhE fuel d fuel [(4, .slice s7), (5, .int .i64 1)] r6.2).bind fun p8 =>
   zgz fuel d p8.1 p8.2.1 p8.2.2 := by
 generalize hh : run = R
 rw [zaD] at hh
 subst hh
 generalize hh : zhE = R
 rw [zpv] at hh
 subst hh
 generalize hh : zgz = R
 rw [zna] at hh
 subst hh
 kernel_rfl
theorem zm0 (fuel d : Nat) (n : Nat) (x4 : Sl) (x5 : Int) (h : AH) :
   zhE fuel d (n + 1) [(4, .slice x4), (5, .int .i64 x5)] h =
 (bif (decide (x5 < (x4.len : Int))) then ((AH.addr h 1 x4 x5).bind fun p1 =>
   (AH.cell h p1).bind fun u2 =>
   (AV.int? .i64 u2).bind fun n3 =>
   (run fuel d zlX [(AV.int .i64 n3)] h).bind fun r4 =>
   (AV.int? .i64 r4.1).bind fun n5 =>
   (AH.addr r4.2 1 x4 (IntKind.wrap .i64 (x5 - (1 : Int)))).bind fun p6 =>
   same ((AH.addr h 1 x4 (IntKind.wrap .i64 (x5 - (1 : Int)))).bind fun p13 =>
   some ((AV.ptr p13), h)) ((AV.ptr p6), h) (
   (AH.cell r4.2 p6).bind fun u7 =>
   (AV.int? .i64 u7).bind fun n8 =>
   same ((AH.cell h p6).bind fun u11 =>
   (AV.int? .i64 u11).bind fun n12 =>
   some ((AV.int .i64 n12), h)) ((AV.int .i64 n8), h) (
   (run fuel d zlX [(AV.int .i64 n8)] r4.2).bind fun r9 =>
   (AV.int? .i64 r9.1).bind fun n10 =>
   (bif (decide (n5 = n10)) then (some (.ret, [(2, .slice x4), (3, .bool false), (4, .slice x4)], r9.2)) else (zhE fuel d n [(4, .slice x4), (5, (AV.int .i64 (IntKind.wrap .i64 (x5 + (1 : Int)))))] r9.2))))) else (some ((.exit 0), [(2, AV.bot), (3, AV.bot), (4, .slice x4)], h))) := by
 generalize hh : run = R
 rw [zaD] at hh
 subst hh
 generalize hh : zhE = R
 rw [zpv] at hh
 subst hh
 kernel_rfl
theorem zpF (fuel d : Nat) (x2 : AV) (x3 : AV) (x4 : Sl) (h : AH) :
   zgz fuel d (.exit 0) [(2, x2), (3, x3), (4, .slice x4)] h =
 some ((AV.tup [(AV.slice x4), .bool true]), h) := by
 generalize hh : zgz = R
 rw [zna] at hh
 subst hh
 kernel_rfl
theorem ztq (fuel d : Nat) (x2 : Sl) (x3 : Bool) (x4 : AV) (h : AH) :
   zgz fuel d .ret [(2, .slice x2), (3, .bool x3), (4, x4)] h =
 some ((AV.tup [(AV.slice x2), .bool x3]), h) := by
 generalize hh : zgz = R
 rw [zna] at hh
 subst hh
 kernel_rfl
noncomputable def zr2 (fuel d : Nat) : Run := fun fr h k => zf8 (Cf fuel zgI) false (zak (C fuel) false d) (zak (C fuel) true d) 56 (csub [true, true, true, true, false, true, false, false] (zbV Go.Proofs.Tryd.f41)) (asub [true, true, true, true, false, true, false, false] an41) fr h k
noncomputable def zoa (fuel d : Nat) (n : Nat) (fr : Fr) (h : AH) : Option (zaj × Fr × AH) := ziV (zr2 fuel d) (some [0, 5, 30, 31, 32]) n fr h (kOut [4])
noncomputable def zd6 : Nat → Nat → Nat → Fr → AH → Option (zaj × Fr × AH) := hide zoa
theorem zmY : zd6 = zoa := zae _
noncomputable def zoh (fuel d : Nat) : zaj → Fr → AH → Option (AV × AH) := (zbG 0 (kSeq (Cf fuel zgI) false (zak (C fuel) false d) (zak (C fuel) true d) 56 (csub [true, true, true, true, true] (zbV Go.Proofs.Tryd.f41)) (asub [true, true, true, true, true] an41) (kRet (Cf fuel zgI) Go.Proofs.Tryd.f41.results.toList)))
noncomputable def zdp : Nat → Nat → zaj → Fr → AH → Option (AV × AH) := hide zoh
theorem zjT : zdp = zoh := zae _
theorem ztu (fuel d : Nat) (x0 : Pt) (x1 : Sl) (h : AH) :
   run fuel (d + 1) zgI [(AV.ptr x0), .slice x1] h =
 (run fuel d zlo [(AV.slice x1)] h).bind fun r1 =>
   (bif AV.isTup 2 r1.1 then ((AV.comp 0 r1.1).bind fun u2 =>
   (AV.slice? u2).bind fun s3 =>
   (AV.comp 1 r1.1).bind fun u4 =>
   (AV.bool? u4).bind fun b5 =>
   (Pt.chk x0).bind fun p6 =>
   (Pt.field 4 p6).bind fun p7 =>
   (AH.cell r1.2 p7).bind fun u8 =>
   (AV.slice? u8).bind fun s9 =>
   (bif (decide ((0 : Int) < (s3.len : Int))) then ((Pt.chk x0).bind fun p10 =>
   (Pt.field 3 p10).bind fun p11 =>
   (AH.cell r1.2 p11).bind fun u12 =>
   (AV.map? u12).bind fun m13 =>
   (AH.addr r1.2 1 s3 (0 : Int)).bind fun p14 =>
   (AH.cell r1.2 p14).bind fun u15 =>
   (AV.int? .i64 u15).bind fun n16 =>
   (AH.mapOf r1.2 m13).bind fun es17 =>
   (zwq (AV.int .i64 n16) es17).bind fun r18 =>
   (AV.slice? (mgot (AV.slice Sl.nil) r18)).bind fun s19 =>
   (zd6 fuel d fuel [(0, .ptr x0), (5, .slice s3), (30, .slice s19), (31, (AV.int .i64 (s19.len : Int))), (32, .int .i64 0)] r1.2).bind fun p20 =>
   zdp fuel d p20.1 p20.2.1 p20.2.2) else ((zd6 fuel d fuel [(0, .ptr x0), (5, .slice s3), (30, .slice s9), (31, (AV.int .i64 (s9.len : Int))), (32, .int .i64 0)] r1.2).bind fun p21 =>
   zdp fuel d p21.1 p21.2.1 p21.2.2))) else none) := by
 generalize hh : run = R
 rw [zaD] at hh
 subst hh
 generalize hh : zd6 = R
 rw [zmY] at hh
 subst hh
 generalize hh : zdp = R
 rw [zjT] at hh
 subst hh
 kernel_rfl
theorem zqq (fuel d : Nat) (n : Nat) (x0 : Pt) (x5 : Sl) (x30 : Sl) (x31 : Int) (x32 : Int) (h : AH) :
   zd6 fuel d (n + 1) [(0, .ptr x0), (5, .slice x5), (30, .slice x30), (31, .int .i64 x31), (32, .int .i64 x32)] h =
 (bif (decide (x32 < x31)) then ((AH.addr h 1 x30 x32).bind fun p1 =>
   (AH.cell h p1).bind fun u2 =>
   (AV.int? .i64 u2).bind fun n3 =>
   (Pt.chk x0).bind fun p4 =>
   (Pt.field 2 p4).bind fun p5 =>
   (AH.cell h p5).bind fun u6 =>
   (AV.slice? u6).bind fun s7 =>
   (AH.addr h 1 s7 n3).bind fun p8 =>
   (AH.cell h p8).bind fun u9 =>
   (AV.bool? u9).bind fun b10 =>
   ((bif (b10 == true) then ((Pt.chk x0).bind fun p11 =>
   (Pt.field 1 p11).bind fun p12 =>
   (AH.cell h p12).bind fun u13 =>
   (AV.slice? u13).bind fun s14 =>
   (AH.addr h 1 s14 n3).bind fun p15 =>
   (AH.cell h p15).bind fun u16 =>
   (AV.slice? u16).bind fun s17 =>
   (run fuel d zc0 [(AV.slice s17), .slice x5] h).bind fun r18 =>
   (AV.bool? r18.1).bind fun b19 =>
   some ((AV.bool b19), r18.2)) else (some ((AV.bool false), h)) : Option (AV × AH))).bind fun r20 =>
   (AV.bool? r20.1).bind fun b21 =>
   (bif b21 then (some (.ret, [(4, .int .i64 n3)], r20.2)) else (zd6 fuel d n [(0, .ptr x0), (5, .slice x5), (30, .slice x30), (31, .int .i64 x31), (32, (AV.int .i64 (IntKind.wrap .i64 (x32 + (1 : Int)))))] r20.2))) else (some ((.exit 0), [(4, AV.bot)], h))) := by
 generalize hh : run = R
 rw [zaD] at hh
 subst hh
 generalize hh : zd6 = R
 rw [zmY] at hh
 subst hh
 kernel_rfl
theorem zqs (fuel d : Nat) (x4 : AV) (h : AH) :
   zdp fuel d (.exit 0) [(4, x4)] h =
 some ((AV.int .i64 (-1 : Int)), h) := by
 generalize hh : zdp = R
 rw [zjT] at hh
 subst hh
 kernel_rfl
theorem zqX (fuel d : Nat) (x4 : Int) (h : AH) :
   zdp fuel d .ret [(4, .int .i64 x4)] h =
 some ((AV.int .i64 x4), h) := by
 generalize hh : zdp = R
 rw [zjT] at hh
 subst hh
 kernel_rfl
theorem zyx (fuel d : Nat) (x0 : Sl) (x1 : Int) (h : AH) :
   run fuel (d + 1) zpP [(AV.slice x0), .int .i64 x1] h =
 (run fuel d zbp [(AV.slice x0), (AV.func zqK [(Pt.mk ⟨AH.next h, 0, 0⟩ 1)])] (AH.push h 1 [(AV.int .i64 x1)])).bind fun r1 =>
   (AV.slice? r1.1).bind fun s2 =>
   some ((AV.slice s2), r1.2) := by
 generalize hh : run = R
 rw [zaD] at hh
 subst hh
 kernel_rfl
noncomputable def znl (fuel d : Nat) : Run := fun fr h k => zf8 (Cf fuel zaX) false (zak (C fuel) false d) (zak (C fuel) true d) 36 (csub [true, true, false, true, false, false] (zbV Go.Proofs.Tryd.f43)) (asub [true, true, false, true, false, false] an43) fr h k
noncomputable def ziF (fuel d : Nat) (n : Nat) (fr : Fr) (h : AH) : Option (zaj × Fr × AH) := ziV (znl fuel d) (some [0, 3, 9, 10, 11]) n fr h (kOut [0, 3])
noncomputable def zbP : Nat → Nat → Nat → Fr → AH → Option (zaj × Fr × AH) := hide ziF
theorem zhX : zbP = ziF := zae _
noncomputable def ziM (fuel d : Nat) : zaj → Fr → AH → Option (AV × AH) := (zbG 0 (kSeq (Cf fuel zaX) false (zak (C fuel) false d) (zak (C fuel) true d) 36 (csub [true, true, true] (zbV Go.Proofs.Tryd.f43)) (asub [true, true, true] an43) (kRet (Cf fuel zaX) Go.Proofs.Tryd.f43.results.toList)))
noncomputable def zc3 : Nat → Nat → zaj → Fr → AH → Option (AV × AH) := hide ziM
theorem zh4 : zc3 = ziM := zae _
noncomputable def znk (fuel d : Nat) : Run := fun fr h k => zf8 (Cf fuel zaX) false (zak (C fuel) false d) (zak (C fuel) true d) 36 (csub [true, true, true, true, false, true, false, false] (zbV Go.Proofs.Tryd.f43)) (asub [true, true, true, true, false, true, false, false] an43) fr h k
noncomputable def ziE (fuel d : Nat) (n : Nat) (fr : Fr) (h : AH) : Option (zaj × Fr × AH) := ziV (znk fuel d) (some [6, 25, 26, 27]) n fr h (kOut [6])
noncomputable def zbO : Nat → Nat → Nat → Fr → AH → Option (zaj × Fr × AH) := hide ziE
theorem zhW : zbO = ziE := zae _
noncomputable def ziL (fuel d : Nat) : zaj → Fr → AH → Option (AV × AH) := (zbG 2 (kSeq (Cf fuel zaX) false (zak (C fuel) false d) (zak (C fuel) true d) 36 (csub [true, true, true, true, true] (zbV Go.Proofs.Tryd.f43)) (asub [true, true, true, true, true] an43) (kRet (Cf fuel zaX) Go.Proofs.Tryd.f43.results.toList)))
noncomputable def zc2 : Nat → Nat → zaj → Fr → AH → Option (AV × AH) := hide ziL
theorem zh3 : zc2 = ziL := zae _
theorem zok (fuel d : Nat) (x0 : Sl) (h : AH) :
   run fuel (d + 1) zaX [(AV.slice x0)] h =
 (zbP fuel d fuel [(0, .slice x0), (3, .int .i64 0), (9, .slice x0), (10, (AV.int .i64 (x0.len : Int))), (11, .int .i64 0)] h).bind fun p1 =>
   zc3 fuel d p1.1 p1.2.1 p1.2.2 := by
 generalize hh : run = R
 rw [zaD] at hh
 subst hh
 generalize hh : zbP = R
 rw [zhX] at hh
 subst hh
 generalize hh : zc3 = R
 rw [zh4] at hh
 subst hh
 kernel_rfl
theorem zl5 (fuel d : Nat) (n : Nat) (x0 : Sl) (x3 : Int) (x9 : Sl) (x10 : Int) (x11 : Int) (h : AH) :
   zbP fuel d (n + 1) [(0, .slice x0), (3, .int .i64 x3), (9, .slice x9), (10, .int .i64 x10), (11, .int .i64 x11)] h =
 (bif (decide (x11 < x10)) then ((AH.addr h 1 x9 x11).bind fun p1 =>
   (AH.cell h p1).bind fun u2 =>
   (AV.slice? u2).bind fun s3 =>
   (bif (decide ((IntKind.wrap .i64 (x3 + (s3.len : Int))) < (0 : Int))) then (none) else (zbP fuel d n [(0, .slice x0), (3, (AV.int .i64 (IntKind.wrap .i64 (x3 + (s3.len : Int))))), (9, .slice x9), (10, .int .i64 x10), (11, (AV.int .i64 (IntKind.wrap .i64 (x11 + (1 : Int)))))] h))) else (some ((.exit 0), [(0, .slice x0), (3, .int .i64 x3)], h))) := by
 generalize hh : zbP = R
 rw [zhX] at hh
 subst hh
 kernel_rfl
theorem zl9 (fuel d : Nat) (x0 : Sl) (x3 : Int) (h : AH) :
   zc3 fuel d (.exit 0) [(0, .slice x0), (3, .int .i64 x3)] h =
 (run fuel d zex [(AV.slice Sl.nil), .int .i64 x3] h).bind fun r1 =>
   (AV.slice? r1.1).bind fun s2 =>
   (zbO fuel d fuel [(6, .slice s2), (25, .slice x0), (26, (AV.int .i64 (x0.len : Int))), (27, .int .i64 0)] r1.2).bind fun p3 =>
   zc2 fuel d p3.1 p3.2.1 p3.2.2 := by
 generalize hh : run = R
 rw [zaD] at hh
 subst hh
 generalize hh : zc3 = R
 rw [zh4] at hh
 subst hh
 generalize hh : zbO = R
 rw [zhW] at hh
 subst hh
 generalize hh : zc2 = R
 rw [zh3] at hh
 subst hh
 kernel_rfl
theorem zl4 (fuel d : Nat) (n : Nat) (x6 : Sl) (x25 : Sl) (x26 : Int) (x27 : Int) (h : AH) :
   zbO fuel d (n + 1) [(6, .slice x6), (25, .slice x25), (26, .int .i64 x26), (27, .int .i64 x27)] h =
 (bif (decide (x27 < x26)) then ((AH.addr h 1 x25 x27).bind fun p1 =>
   (AH.cell h p1).bind fun u2 =>
   (AV.slice? u2).bind fun s3 =>
   (AH.sliceCells h 1 s3).bind fun xs4 =>
   (AH.append h false 1 8 x6 s3.len xs4).bind fun a5 =>
   zbO fuel d n [(6, .slice a5.1), (25, .slice x25), (26, .int .i64 x26), (27, (AV.int .i64 (IntKind.wrap .i64 (x27 + (1 : Int)))))] a5.2) else (some ((.exit 2), [(6, .slice x6)], h))) := by
 generalize hh : zbO = R
 rw [zhW] at hh
 subst hh
 kernel_rfl
theorem zl8 (fuel d : Nat) (x6 : Sl) (h : AH) :
   zc2 fuel d (.exit 2) [(6, .slice x6)] h =
 some ((AV.slice x6), h) := by
 generalize hh : zc2 = R
 rw [zh3] at hh
 subst hh
 kernel_rfl
theorem zu6 (fuel d : Nat) (x0 : Sl) (x1 : Int) (h : AH) :
   run fuel (d + 1) znC [(AV.slice x0), .int .i64 x1] h =
 (run fuel d zc1 [(AV.slice x0)] (AH.push h 1 [(AV.int .i64 x1)])).bind fun r1 =>
   (AV.slice? r1.1).bind fun s2 =>
   (run fuel d zbp [(AV.slice s2), (AV.func zn3 [(Pt.mk ⟨AH.next h, 0, 0⟩ 1)])] r1.2).bind fun r3 =>
   (AV.slice? r3.1).bind fun s4 =>
   some ((AV.slice s4), r3.2) := by
 generalize hh : run = R
 rw [zaD] at hh
 subst hh
 kernel_rfl
theorem zpL (fuel d : Nat) (x0 : Int) (h : AH) :
   run fuel (d + 1) ziY [(AV.int .i64 x0)] h =
 (bif (true && decide (0 ≤ (IntKind.wrap .i64 ((bif decide ((4000 : Int) < (bif decide (x0 < (0 : Int)) then (0 : Int) else x0)) then (4000 : Int) else (bif decide (x0 < (0 : Int)) then (0 : Int) else x0)) + (1 : Int)))) && decide ((IntKind.wrap .i64 ((bif decide ((4000 : Int) < (bif decide (x0 < (0 : Int)) then (0 : Int) else x0)) then (4000 : Int) else (bif decide (x0 < (0 : Int)) then (0 : Int) else x0)) + (1 : Int))) ≤ (IntKind.wrap .i64 ((bif decide ((4000 : Int) < (bif decide (x0 < (0 : Int)) then (0 : Int) else x0)) then (4000 : Int) else (bif decide (x0 < (0 : Int)) then (0 : Int) else x0)) + (1 : Int)))) && decide ((IntKind.wrap .i64 ((bif decide ((4000 : Int) < (bif decide (x0 < (0 : Int)) then (0 : Int) else x0)) then (4000 : Int) else (bif decide (x0 < (0 : Int)) then (0 : Int) else x0)) + (1 : Int))) * 8 ≤ 140737488355328) && decide ((IntKind.wrap .i64 ((bif decide ((4000 : Int) < (bif decide (x0 < (0 : Int)) then (0 : Int) else x0)) then (4000 : Int) else (bif decide (x0 < (0 : Int)) then (0 : Int) else x0)) + (1 : Int))) ≤ 140737488355328)) then (some ((AV.ptr (Pt.mk ⟨AH.next (AH.push h 1 (za9 [(AV.int .i64 0)] (Int.toNat (IntKind.wrap .i64 ((bif decide ((4000 : Int) < (bif decide (x0 < (0 : Int)) then (0 : Int) else x0)) then (4000 : Int) else (bif decide (x0 < (0 : Int)) then (0 : Int) else x0)) + (1 : Int)))))), 0, 0⟩ 1)), (AH.push (AH.push h 1 (za9 [(AV.int .i64 0)] (Int.toNat (IntKind.wrap .i64 ((bif decide ((4000 : Int) < (bif decide (x0 < (0 : Int)) then (0 : Int) else x0)) then (4000 : Int) else (bif decide (x0 < (0 : Int)) then (0 : Int) else x0)) + (1 : Int)))))) 1 [(AV.slice (Sl.mk ⟨AH.next h, 0, 0⟩ (Int.toNat (IntKind.wrap .i64 ((bif decide ((4000 : Int) < (bif decide (x0 < (0 : Int)) then (0 : Int) else x0)) then (4000 : Int) else (bif decide (x0 < (0 : Int)) then (0 : Int) else x0)) + (1 : Int)))) (eqI (IntKind.wrap .i64 ((bif decide ((4000 : Int) < (bif decide (x0 < (0 : Int)) then (0 : Int) else x0)) then (4000 : Int) else (bif decide (x0 < (0 : Int)) then (0 : Int) else x0)) + (1 : Int))) (IntKind.wrap .i64 ((bif decide ((4000 : Int) < (bif decide (x0 < (0 : Int)) then (0 : Int) else x0)) then (4000 : Int) else (bif decide (x0 < (0 : Int)) then (0 : Int) else x0)) + (1 : Int))))))]))) else (none)) := by
 generalize hh : run = R
 rw [zaD] at hh
 subst hh
 kernel_rfl
theorem zpf (fuel d : Nat) (x0 : Pt) (x1 : Int) (h : AH) :
   run fuel (d + 1) zf0 [(AV.ptr x0), .int .i64 x1] h =
 (Pt.chk x0).bind fun p1 =>
   (Pt.field 0 p1).bind fun p2 =>
   (AH.cell h p2).bind fun u3 =>
   (AV.slice? u3).bind fun s4 =>
   (run fuel d zjL [(AV.int .i64 x1), (AV.int .i64 (IntKind.wrap .i64 ((s4.len : Int) - (1 : Int))))] h).bind fun r5 =>
   (AV.bool? r5.1).bind fun b6 =>
   ((bif ((!b6) == false) then ((run fuel d ze8 [(AV.ptr x0), .int .i64 x1] r5.2).bind fun r7 =>
   (AV.int? .i64 r7.1).bind fun n8 =>
   some ((AV.bool (decide (n8 = (2 : Int)))), r7.2)) else (some ((AV.bool true), r5.2)) : Option (AV × AH))).bind fun r9 =>
   (AV.bool? r9.1).bind fun b10 =>
   (bif b10 then (some ((AV.bool false), r9.2)) else ((bif (decide ((0 : Int) < x1)) then ((Pt.chk x0).bind fun p11 =>
   (Pt.field 0 p11).bind fun p12 =>
   (AH.cell r9.2 p12).bind fun u13 =>
   (AV.slice? u13).bind fun s14 =>
   (AH.addr r9.2 1 s14 x1).bind fun p15 =>
   (AH.storeAt r9.2 [(AV.int .i64 1)] p15).bind fun h16 =>
   some ((AV.bool true), h16)) else ((Pt.chk x0).bind fun p17 =>
   (Pt.field 0 p17).bind fun p18 =>
   (AH.cell r9.2 p18).bind fun u19 =>
   (AV.slice? u19).bind fun s20 =>
   (AH.addr r9.2 1 s20 (IntKind.wrap .i64 (0 - x1))).bind fun p21 =>
   (AH.storeAt r9.2 [(AV.int .i64 2)] p21).bind fun h22 =>
   some ((AV.bool true), h22))))) := by
 generalize hh : run = R
 rw [zaD] at hh
 subst hh
 kernel_rfl
noncomputable def ziD (fuel d : Nat) : Run := fun fr h k => zf8 (Cf fuel zbt) false (zak (C fuel) false d) (zak (C fuel) true d) 42 (csub [true, true, true, false, true, false, false] (zbV Go.Proofs.Tryd.f47)) (asub [true, true, true, false, true, false, false] an47) fr h k
noncomputable def zir (fuel d : Nat) (n : Nat) (fr : Fr) (h : AH) : Option (zaj × Fr × AH) := ziV (ziD fuel d) (some [0, 1, 6, 7, 8]) n fr h (kOut [4, 5, 6, 7])
noncomputable def zaP : Nat → Nat → Nat → Fr → AH → Option (zaj × Fr × AH) := hide zir
theorem zeL : zaP = zir := zae _
noncomputable def ziy (fuel d : Nat) : zaj → Fr → AH → Option (AV × AH) := (zbG 0 (kSeq (Cf fuel zbt) false (zak (C fuel) false d) (zak (C fuel) true d) 42 (csub [true, true, true, true] (zbV Go.Proofs.Tryd.f47)) (asub [true, true, true, true] an47) (kRet (Cf fuel zbt) Go.Proofs.Tryd.f47.results.toList)))
noncomputable def zbf : Nat → Nat → zaj → Fr → AH → Option (AV × AH) := hide ziy
theorem zeP : zbf = ziy := zae _
noncomputable def zix (fuel d : Nat) (n : Nat) : zaj → Fr → AH → Option (zaj × Fr × AH) := (kSeq (Cf fuel zbt) false (zak (C fuel) false d) (zak (C fuel) true d) 42 (csub [true, true, true, false, true, false, false, true, false, false, true, false, true, true, true, false, true] (zbV Go.Proofs.Tryd.f47)) (asub [true, true, true, false, true, false, false, true, false, false, true, false, true, true, true, false, true] an47) (zbG 2 (zbG 1 (kSeq (Cf fuel zbt) false (zak (C fuel) false d) (zak (C fuel) true d) 42 (csub [true, true, true, false, true, false, false, true, true] (zbV Go.Proofs.Tryd.f47)) (asub [true, true, true, false, true, false, false, true, true] an47) (zo9 (ziD fuel d) (some [0, 1, 6, 7, 8]) n (kOut [4, 5, 6, 7]))))))
noncomputable def zcR : Nat → Nat → Nat → zaj → Fr → AH → Option (zaj × Fr × AH) := hide zix
theorem zhP : zcR = zix := zae _
theorem zn0 (fuel d : Nat) (x0 : Pt) (x1 : Sl) (h : AH) :
   run fuel (d + 1) zbt [(AV.ptr x0), .slice x1] h =
 (zaP fuel d fuel [(0, .ptr x0), (1, .slice x1), (6, .int .i64 0), (7, .int .i64 0), (8, .int .i64 0)] h).bind fun p1 =>
   zbf fuel d p1.1 p1.2.1 p1.2.2 := by
 generalize hh : run = R
 rw [zaD] at hh
 subst hh
 generalize hh : zaP = R
 rw [zeL] at hh
 subst hh
 generalize hh : zbf = R
 rw [zeP] at hh
 subst hh
 kernel_rfl
theorem zlC (fuel d : Nat) (n : Nat) (x0 : Pt) (x1 : Sl) (x6 : Int) (x7 : Int) (x8 : Int) (h : AH) :
   zaP fuel d (n + 1) [(0, .ptr x0), (1, .slice x1), (6, .int .i64 x6), (7, .int .i64 x7), (8, .int .i64 x8)] h =
 (bif (decide (x8 < (x1.len : Int))) then ((AH.addr h 1 x1 x8).bind fun p1 =>
   (AH.cell h p1).bind fun u2 =>
   (AV.int? .i64 u2).bind fun n3 =>
   (run fuel d ze8 [(AV.ptr x0), .int .i64 n3] h).bind fun r4 =>
   (AV.int? .i64 r4.1).bind fun n5 =>
   (bif (decide (n5 = (1 : Int))) then (some (.ret, [(4, .int .i64 1), (5, .int .i64 0), (6, .int .i64 x6), (7, .int .i64 x7)], r4.2)) else ((bif (decide (n5 = (0 : Int))) then ((AH.addr r4.2 1 x1 x8).bind fun p6 =>
   (AH.cell r4.2 p6).bind fun u7 =>
   (AV.int? .i64 u7).bind fun n8 =>
   ((bif (!decide (n8 = x6)) then (some (.normal, [(0, .ptr x0), (1, .slice x1), (7, (AV.int .i64 (IntKind.wrap .i64 (x7 + (1 : Int))))), (8, .int .i64 x8)], r4.2)) else (some (.normal, [(0, .ptr x0), (1, .slice x1), (7, .int .i64 x7), (8, .int .i64 x8)], r4.2)))).bind fun p9 =>
   zcR fuel d n p9.1 p9.2.1 p9.2.2) else (zaP fuel d n [(0, .ptr x0), (1, .slice x1), (6, .int .i64 x6), (7, .int .i64 x7), (8, (AV.int .i64 (IntKind.wrap .i64 (x8 + (1 : Int)))))] r4.2))))) else (some ((.exit 0), [(4, AV.bot), (5, AV.bot), (6, .int .i64 x6), (7, .int .i64 x7)], h))) := by
 generalize hh : run = R
 rw [zaD] at hh
 subst hh
 generalize hh : zaP = R
 rw [zeL] at hh
 subst hh
 generalize hh : zcR = R
 rw [zhP] at hh
 subst hh
 kernel_rfl
theorem zlS (fuel d : Nat) (x4 : AV) (x5 : AV) (x6 : Int) (x7 : Int) (h : AH) :
   zbf fuel d (.exit 0) [(4, x4), (5, x5), (6, .int .i64 x6), (7, .int .i64 x7)] h =
 (bif (decide (x7 = (0 : Int))) then (some ((AV.tup [(AV.int .i64 2), .int .i64 0]), h)) else ((bif (decide ((1 : Int) < x7)) then (some ((AV.tup [(AV.int .i64 0), .int .i64 0]), h)) else (some ((AV.tup [(AV.int .i64 0), .int .i64 x6]), h))))) := by
 generalize hh : zbf = R
 rw [zeP] at hh
 subst hh
 kernel_rfl
theorem zmd (fuel d : Nat) (x4 : Int) (x5 : Int) (x6 : AV) (x7 : AV) (h : AH) :
   zbf fuel d .ret [(4, .int .i64 x4), (5, .int .i64 x5), (6, x6), (7, x7)] h =
 some ((AV.tup [(AV.int .i64 x4), .int .i64 x5]), h) := by
 generalize hh : zbf = R
 rw [zeP] at hh
 subst hh
 kernel_rfl
theorem zh7 (fuel d : Nat) (n : Nat) (x0 : Pt) (x1 : Sl) (x7 : Int) (x8 : Int) (h : AH) :
   zcR fuel d n .normal [(0, .ptr x0), (1, .slice x1), (7, .int .i64 x7), (8, .int .i64 x8)] h =
 (AH.addr h 1 x1 x8).bind fun p1 =>
   (AH.cell h p1).bind fun u2 =>
   (AV.int? .i64 u2).bind fun n3 =>
   zaP fuel d n [(0, .ptr x0), (1, .slice x1), (6, .int .i64 n3), (7, .int .i64 x7), (8, (AV.int .i64 (IntKind.wrap .i64 (x8 + (1 : Int)))))] h := by
 generalize hh : zaP = R
 rw [zeL] at hh
 subst hh
 generalize hh : zcR = R
 rw [zhP] at hh
 subst hh
 kernel_rfl
noncomputable def zi8 (fuel d : Nat) : Run := fun fr h k => zf8 (Cf fuel zbJ) false (zak (C fuel) false d) (zak (C fuel) true d) 40 (csub [true, true, false, true, false, false] (zbV Go.Proofs.Tryd.f48)) (asub [true, true, false, true, false, false] an48) fr h k
noncomputable def ziJ (fuel d : Nat) (n : Nat) (fr : Fr) (h : AH) : Option (zaj × Fr × AH) := ziV (zi8 fuel d) (some [0, 3, 4]) n fr h (kOut [3])
noncomputable def zaY : Nat → Nat → Nat → Fr → AH → Option (zaj × Fr × AH) := hide ziJ
theorem zfb : zaY = ziJ := zae _
noncomputable def ziO (fuel d : Nat) : zaj → Fr → AH → Option (AV × AH) := (zbG 0 (kSeq (Cf fuel zbJ) false (zak (C fuel) false d) (zak (C fuel) true d) 40 (csub [true, true, true] (zbV Go.Proofs.Tryd.f48)) (asub [true, true, true] an48) (kRet (Cf fuel zbJ) Go.Proofs.Tryd.f48.results.toList)))
noncomputable def zc5 : Nat → Nat → zaj → Fr → AH → Option (AV × AH) := hide ziO
theorem zh6 : zc5 = ziO := zae _
noncomputable def ziN (fuel d : Nat) (n : Nat) : zaj → Fr → AH → Option (zaj × Fr × AH) := (kSeq (Cf fuel zbJ) false (zak (C fuel) false d) (zak (C fuel) true d) 40 (csub [true, true, false, true, false, false, true, false, false, true] (zbV Go.Proofs.Tryd.f48)) (asub [true, true, false, true, false, false, true, false, false, true] an48) (zbG 1 (kSeq (Cf fuel zbJ) false (zak (C fuel) false d) (zak (C fuel) true d) 40 (csub [true, true, false, true, false, false, true, true] (zbV Go.Proofs.Tryd.f48)) (asub [true, true, false, true, false, false, true, true] an48) (zo9 (zi8 fuel d) (some [0, 3, 4]) n (kOut [3])))))
noncomputable def zc4 : Nat → Nat → Nat → zaj → Fr → AH → Option (zaj × Fr × AH) := hide ziN
theorem zh5 : zc4 = ziN := zae _
theorem zom (fuel d : Nat) (x0 : Pt) (h : AH) :
   run fuel (d + 1) zbJ [(AV.ptr x0)] h =
 (zaY fuel d fuel [(0, .ptr x0), (3, .slice Sl.nil), (4, .int .i64 1)] h).bind fun p1 =>
   zc5 fuel d p1.1 p1.2.1 p1.2.2 := by
 generalize hh : run = R
 rw [zaD] at hh
 subst hh
 generalize hh : zaY = R
 rw [zfb] at hh
 subst hh
 generalize hh : zc5 = R
 rw [zh6] at hh
 subst hh
 kernel_rfl
theorem zl6 (fuel d : Nat) (n : Nat) (x0 : Pt) (x3 : Sl) (x4 : Int) (h : AH) :
   zaY fuel d (n + 1) [(0, .ptr x0), (3, .slice x3), (4, .int .i64 x4)] h =
 (Pt.chk x0).bind fun p1 =>
   (Pt.field 0 p1).bind fun p2 =>
   (AH.cell h p2).bind fun u3 =>
   (AV.slice? u3).bind fun s4 =>
   (bif (decide (x4 < (s4.len : Int))) then ((Pt.chk x0).bind fun p5 =>
   (Pt.field 0 p5).bind fun p6 =>
   (AH.cell h p6).bind fun u7 =>
   (AV.slice? u7).bind fun s8 =>
   (AH.addr h 1 s8 x4).bind fun p9 =>
   (AH.cell h p9).bind fun u10 =>
   (AV.int? .i64 u10).bind fun n11 =>
   ((bif (decide (n11 = (1 : Int))) then ((AH.append h false 1 8 x3 1 [(AV.int .i64 x4)]).bind fun a12 =>
   some (.normal, [(0, .ptr x0), (3, .slice a12.1), (4, .int .i64 x4)], a12.2)) else (some (.normal, [(0, .ptr x0), (3, .slice x3), (4, .int .i64 x4)], h)))).bind fun p13 =>
   zc4 fuel d n p13.1 p13.2.1 p13.2.2) else (some ((.exit 0), [(3, .slice x3)], h))) := by
 generalize hh : zaY = R
 rw [zfb] at hh
 subst hh
 generalize hh : zc4 = R
 rw [zh5] at hh
 subst hh
 kernel_rfl
theorem zmc (fuel d : Nat) (x3 : Sl) (h : AH) :
   zc5 fuel d (.exit 0) [(3, .slice x3)] h =
 some ((AV.slice x3), h) := by
 generalize hh : zc5 = R
 rw [zh6] at hh
 subst hh
 kernel_rfl
theorem zfq (fuel d : Nat) (n : Nat) (x0 : Pt) (x3 : Sl) (x4 : Int) (h : AH) :
   zc4 fuel d n .normal [(0, .ptr x0), (3, .slice x3), (4, .int .i64 x4)] h =
 (Pt.chk x0).bind fun p1 =>
   (Pt.field 0 p1).bind fun p2 =>
   (AH.cell h p2).bind fun u3 =>
   (AV.slice? u3).bind fun s4 =>
   (AH.addr h 1 s4 x4).bind fun p5 =>
   (AH.cell h p5).bind fun u6 =>
   (AV.int? .i64 u6).bind fun n7 =>
   (bif (decide (n7 = (2 : Int))) then ((AH.append h false 1 8 x3 1 [(AV.int .i64 (IntKind.wrap .i64 (0 - x4)))]).bind fun a8 =>
   zaY fuel d n [(0, .ptr x0), (3, .slice a8.1), (4, (AV.int .i64 (IntKind.wrap .i64 (x4 + (1 : Int)))))] a8.2) else (zaY fuel d n [(0, .ptr x0), (3, .slice x3), (4, (AV.int .i64 (IntKind.wrap .i64 (x4 + (1 : Int)))))] h)) := by
 generalize hh : zaY = R
 rw [zfb] at hh
 subst hh
 generalize hh : zc4 = R
 rw [zh5] at hh
 subst hh
 kernel_rfl
noncomputable def znF (fuel d : Nat) : Run := fun fr h k => zf8 (Cf fuel zbU) false (zak (C fuel) false d) (zak (C fuel) true d) 22 (csub [true, false, true, false, false] (zbV Go.Proofs.Tryd.f49)) (asub [true, false, true, false, false] an49) fr h k
noncomputable def zja (fuel d : Nat) (n : Nat) (fr : Fr) (h : AH) : Option (zaj × Fr × AH) := ziV (znF fuel d) (some [0, 1, 5]) n fr h (kOut [4])
noncomputable def zbX : Nat → Nat → Nat → Fr → AH → Option (zaj × Fr × AH) := hide zja
theorem zin : zbX = zja := zae _
noncomputable def zjc (fuel d : Nat) : zaj → Fr → AH → Option (AV × AH) := (zbG 0 (kSeq (Cf fuel zbU) false (zak (C fuel) false d) (zak (C fuel) true d) 22 (csub [true, true] (zbV Go.Proofs.Tryd.f49)) (asub [true, true] an49) (kRet (Cf fuel zbU) Go.Proofs.Tryd.f49.results.toList)))
noncomputable def zbr : Nat → Nat → zaj → Fr → AH → Option (AV × AH) := hide zjc
theorem zfp : zbr = zjc := zae _
theorem zoG (fuel d : Nat) (x0 : Pt) (x1 : Sl) (h : AH) :
   brun fuel (d + 1) zbU [(AV.ptr x0), .slice x1] h =
 (zbX fuel d fuel [(0, .ptr x0), (1, .slice x1), (5, .int .i64 0)] h).bind fun p1 =>
   zbr fuel d p1.1 p1.2.1 p1.2.2 := by
 generalize hh : brun = R
 rw [zcI] at hh
 subst hh
 generalize hh : zbX = R
 rw [zin] at hh
 subst hh
 generalize hh : zbr = R
 rw [zfp] at hh
 subst hh
 kernel_rfl
theorem zmA (fuel d : Nat) (n : Nat) (x0 : Pt) (x1 : Sl) (x5 : Int) (h : AH) :
   zbX fuel d (n + 1) [(0, .ptr x0), (1, .slice x1), (5, .int .i64 x5)] h =
 (bif (decide (x5 < (x1.len : Int))) then ((AH.addr h 1 x1 x5).bind fun p1 =>
   (AH.cell h p1).bind fun u2 =>
   (AV.int? .i64 u2).bind fun n3 =>
   (Pt.chk x0).bind fun p4 =>
   (Pt.field 0 p4).bind fun p5 =>
   (AH.cell h p5).bind fun u6 =>
   (AV.int? .i64 u6).bind fun n7 =>
   (run fuel d zjL [(AV.int .i64 n3), .int .i64 n7] h).bind fun r8 =>
   (AV.bool? r8.1).bind fun b9 =>
   (bif (!b9) then (some (.ret, [(4, .bool false)], r8.2)) else (zbX fuel d n [(0, .ptr x0), (1, .slice x1), (5, (AV.int .i64 (IntKind.wrap .i64 (x5 + (1 : Int)))))] r8.2))) else (some ((.exit 0), [(4, AV.bot)], h))) := by
 generalize hh : run = R
 rw [zaD] at hh
 subst hh
 generalize hh : zbX = R
 rw [zin] at hh
 subst hh
 kernel_rfl
theorem zmC (fuel d : Nat) (x4 : AV) (h : AH) :
   zbr fuel d (.exit 0) [(4, x4)] h =
 some ((AV.bool true), h) := by
 generalize hh : zbr = R
 rw [zfp] at hh
 subst hh
 kernel_rfl
theorem zm3 (fuel d : Nat) (x4 : Bool) (h : AH) :
   zbr fuel d .ret [(4, .bool x4)] h =
 some ((AV.bool x4), h) := by
 generalize hh : zbr = R
 rw [zfp] at hh
 subst hh
 kernel_rfl
theorem zpe (fuel d : Nat) (x0 : Sl) (x1 : Sl) (h : AH) :
   brun fuel (d + 1) zfZ [(AV.slice x0), .slice x1] h =
 (run fuel d zb8 [(AV.slice x0)] h).bind fun r1 =>
   (bif AV.isTup 2 r1.1 then ((AV.comp 0 r1.1).bind fun u2 =>
   (AV.slice? u2).bind fun s3 =>
   (AV.comp 1 r1.1).bind fun u4 =>
   (AV.bool? u4).bind fun b5 =>
   (run fuel d zb8 [(AV.slice x1)] r1.2).bind fun r6 =>
   (bif AV.isTup 2 r6.1 then ((AV.comp 0 r6.1).bind fun u7 =>
   (AV.slice? u7).bind fun s8 =>
   (AV.comp 1 r6.1).bind fun u9 =>
   (AV.bool? u9).bind fun b10 =>
   (run fuel d zdv [(AV.slice s3), .slice s8] r6.2).bind fun r11 =>
   (AV.bool? r11.1).bind fun b12 =>
   some ((AV.bool b12), r11.2)) else none)) else none) := by
 generalize hh : run = R
 rw [zaD] at hh
 subst hh
 generalize hh : brun = R
 rw [zcI] at hh
 subst hh
 kernel_rfl
noncomputable def zn4 (fuel d : Nat) : Run := fun fr h k => zf8 (Cf fuel zdk) false (zak (C fuel) false d) (zak (C fuel) true d) 25 (csub [true, false, true, false, false] (zbV Go.Proofs.Tryd.f51)) (asub [true, false, true, false, false] an51) fr h k
noncomputable def zjr (fuel d : Nat) (n : Nat) (fr : Fr) (h : AH) : Option (zaj × Fr × AH) := ziV (zn4 fuel d) (some [0, 1, 5]) n fr h (kOut [4])
noncomputable def zb9 : Nat → Nat → Nat → Fr → AH → Option (zaj × Fr × AH) := hide zjr
theorem ziG : zb9 = zjr := zae _
noncomputable def zjy (fuel d : Nat) : zaj → Fr → AH → Option (AV × AH) := (zbG 0 (kSeq (Cf fuel zdk) false (zak (C fuel) false d) (zak (C fuel) true d) 25 (csub [true, true] (zbV Go.Proofs.Tryd.f51)) (asub [true, true] an51) (kRet (Cf fuel zdk) Go.Proofs.Tryd.f51.results.toList)))
noncomputable def zbH : Nat → Nat → zaj → Fr → AH → Option (AV × AH) := hide zjy
theorem zfS : zbH = zjy := zae _
theorem zpc (fuel d : Nat) (x0 : Pt) (x1 : Sl) (h : AH) :
   brun fuel (d + 1) zdk [(AV.ptr x0), .slice x1] h =
 (zb9 fuel d fuel [(0, .ptr x0), (1, .slice x1), (5, .int .i64 0)] h).bind fun p1 =>
   zbH fuel d p1.1 p1.2.1 p1.2.2 := by
 generalize hh : brun = R
 rw [zcI] at hh
 subst hh
 generalize hh : zb9 = R
 rw [ziG] at hh
 subst hh
 generalize hh : zbH = R
 rw [zfS] at hh
 subst hh
 kernel_rfl
theorem zmU (fuel d : Nat) (n : Nat) (x0 : Pt) (x1 : Sl) (x5 : Int) (h : AH) :
   zb9 fuel d (n + 1) [(0, .ptr x0), (1, .slice x1), (5, .int .i64 x5)] h =
 (Pt.chk x0).bind fun p1 =>
   (Pt.field 1 p1).bind fun p2 =>
   (AH.cell h p2).bind fun u3 =>
   (AV.slice? u3).bind fun s4 =>
   (bif (decide (x5 < (s4.len : Int))) then ((Pt.chk x0).bind fun p5 =>
   (Pt.field 1 p5).bind fun p6 =>
   (AH.cell h p6).bind fun u7 =>
   (AV.slice? u7).bind fun s8 =>
   (AH.addr h 1 s8 x5).bind fun p9 =>
   (AH.cell h p9).bind fun u10 =>
   (AV.slice? u10).bind fun s11 =>
   (run fuel d zfZ [(AV.slice s11), .slice x1] h).bind fun r12 =>
   (AV.bool? r12.1).bind fun b13 =>
   (bif b13 then (some (.ret, [(4, .int .i64 x5)], r12.2)) else (zb9 fuel d n [(0, .ptr x0), (1, .slice x1), (5, (AV.int .i64 (IntKind.wrap .i64 (x5 + (1 : Int)))))] r12.2))) else (some ((.exit 0), [(4, AV.bot)], h))) := by
 generalize hh : run = R
 rw [zaD] at hh
 subst hh
 generalize hh : zb9 = R
 rw [ziG] at hh
 subst hh
 kernel_rfl
theorem zm4 (fuel d : Nat) (x4 : AV) (h : AH) :
   zbH fuel d (.exit 0) [(4, x4)] h =
 some ((AV.int .i64 (-1 : Int)), h) := by
 generalize hh : zbH = R
 rw [zfS] at hh
 subst hh
 kernel_rfl
theorem zno (fuel d : Nat) (x4 : Int) (h : AH) :
   zbH fuel d .ret [(4, .int .i64 x4)] h =
 some ((AV.int .i64 x4), h) := by
 generalize hh : zbH = R
 rw [zfS] at hh
 subst hh
 kernel_rfl
theorem zs3 (fuel d : Nat) (x0 : AV) (x1 : List AV) (h : AH) :
   brun fuel (d + 1) znj [x0, .agg x1] h =
 (bif (List.all x1 AV.isCell) then ((run fuel d zmi [x0] (AH.push h 1 x1)).bind fun r1 =>
   (AV.agg? r1.1).bind fun c2 =>
   (AH.cellsAt r1.2 3 (Pt.mk ⟨AH.next h, 0, 0⟩ (List.length x1))).bind fun c3 =>
   same ((AH.cellsAt (AH.push h 1 x1) 3 (Pt.mk ⟨AH.next h, 0, 0⟩ (List.length x1))).bind fun c6 =>
   some ((AV.agg c6), (AH.push h 1 x1))) ((AV.agg c3), (AH.push h 1 x1)) (
   (run fuel d zjo [(AV.agg c2), .agg c3] r1.2).bind fun r4 =>
   (AV.bool? r4.1).bind fun b5 =>
   some ((AV.bool b5), r4.2))) else (none)) := by
 generalize hh : run = R
 rw [zaD] at hh
 subst hh
 generalize hh : brun = R
 rw [zcI] at hh
 subst hh
 kernel_rfl
theorem zs6 (fuel d : Nat) (x0 : Int) (h : AH) :
   brun fuel (d + 1) ziX [(AV.int .i64 x0)] h =
 (AH.storeAt (AH.push h 1 [(AV.int .i64 0), .bool false, .int .i64 0]) [(AV.int .i64 x0), .bool false, .int .i64 0] (Pt.mk ⟨AH.next h, 0, 0⟩ 3)).bind fun h1 =>
   ((AH.cellsAt h1 3 (Pt.mk ⟨AH.next h, 0, 0⟩ 3)).bind fun c2 =>
   some ((AV.agg c2)) : Option AV).map fun v => (v, h1) := by
 generalize hh : brun = R
 rw [zcI] at hh
 subst hh
 kernel_rfl
theorem zlV (fuel d : Nat) (x0 : Sl) (x1f : Nat) (x1c : List Pt) (h : AH) :
   brun fuel (d + 1) zeR [(AV.slice x0), .func x1f x1c] h =
 (run fuel d zbB [(AV.slice x0), .func x1f x1c] h).bind fun r1 =>
   (AV.int? .i64 r1.1).bind fun n2 =>
   some ((AV.bool (decide ((0 : Int) ≤ n2))), r1.2) := by
 generalize hh : run = R
 rw [zaD] at hh
 subst hh
 generalize hh : brun = R
 rw [zcI] at hh
 subst hh
 kernel_rfl
theorem zrE (fuel d : Nat) (x0 : Int) (x1 : Pt) (h : AH) :
   run fuel (d + 1) zln [(AV.int .i64 x0), .ptr x1] h =
 (AH.cell h x1).bind fun u1 =>
   (AV.ptr? u1).bind fun p2 =>
   (Pt.chk p2).bind fun p3 =>
   (Pt.field 0 p3).bind fun p4 =>
   (AH.cell h p4).bind fun u5 =>
   (AV.int? .i64 u5).bind fun n6 =>
   (run fuel d zrj [(AV.int .i64 x0), .int .i64 n6] h).bind fun r7 =>
   (AV.bool? r7.1).bind fun b8 =>
   some ((AV.bool (!b8)), r7.2) := by
 generalize hh : run = R
 rw [zaD] at hh
 subst hh
 kernel_rfl
theorem zzK (fuel d : Nat) (x0 : Int) (x1 : Int) (h : AH) :
   brun fuel (d + 1) zrj [(AV.int .i64 x0), .int .i64 x1] h =
 some ((AV.bool (bif (bif (!decide (x0 = (0 : Int))) then (decide ((IntKind.wrap .i64 (0 - x1)) ≤ x0)) else false) then (decide (x0 ≤ x1)) else false)), h) := by
 generalize hh : brun = R
 rw [zcI] at hh
 subst hh
 kernel_rfl
theorem zvM (fuel d : Nat) (x0 : Int) (h : AH) :
   run fuel (d + 1) zqL [(AV.int .i64 x0)] h =
 (run fuel d zoJ [(AV.int .i64 x0)] h).bind fun r1 =>
   (AV.int? .i64 r1.1).bind fun n2 =>
   (bif (true && decide (0 ≤ (IntKind.wrap .i64 (n2 + (1 : Int)))) && decide ((IntKind.wrap .i64 (n2 + (1 : Int))) ≤ (IntKind.wrap .i64 (n2 + (1 : Int)))) && decide ((IntKind.wrap .i64 (n2 + (1 : Int))) * 1 ≤ 140737488355328) && decide ((IntKind.wrap .i64 (n2 + (1 : Int))) ≤ 140737488355328)) then (some ((AV.ptr (Pt.mk ⟨AH.next (AH.push r1.2 1 (za9 [(AV.int .i8 0)] (Int.toNat (IntKind.wrap .i64 (n2 + (1 : Int)))))), 0, 0⟩ 1)), (AH.push (AH.push r1.2 1 (za9 [(AV.int .i8 0)] (Int.toNat (IntKind.wrap .i64 (n2 + (1 : Int)))))) 1 [(AV.slice (Sl.mk ⟨AH.next r1.2, 0, 0⟩ (Int.toNat (IntKind.wrap .i64 (n2 + (1 : Int)))) (eqI (IntKind.wrap .i64 (n2 + (1 : Int))) (IntKind.wrap .i64 (n2 + (1 : Int))))))]))) else (none)) := by
 generalize hh : run = R
 rw [zaD] at hh
 subst hh
 kernel_rfl
theorem zqB (fuel d : Nat) (x0 : Int) (x1 : Pt) (x2 : Pt) (h : AH) :
   run fuel (d + 1) zbY [(AV.int .i64 x0), .ptr x1, .ptr x2] h =
 (AH.cell h x1).bind fun u1 =>
   (AV.ptr? u1).bind fun p2 =>
   (run fuel d zfm [(AV.ptr p2), .int .i64 x0] h).bind fun r3 =>
   (AV.int? .i64 r3.1).bind fun n4 =>
   (bif (decide (n4 = (1 : Int))) then (some ((AV.bool true), r3.2)) else ((AH.cell r3.2 x2).bind fun u5 =>
   (AV.slice? u5).bind fun s6 =>
   (AH.append r3.2 false 1 8 s6 1 [(AV.int .i64 x0)]).bind fun a7 =>
   (AH.storeAt a7.2 [(AV.slice a7.1)] x2).bind fun h8 =>
   (AH.cell h8 x1).bind fun u9 =>
   (AV.ptr? u9).bind fun p10 =>
   (run fuel d zkO [(AV.ptr p10), .int .i64 x0] h8).bind fun r11 =>
   (AV.bool? r11.1).bind fun b12 =>
   some ((AV.bool b12), r11.2))) := by
 generalize hh : run = R
 rw [zaD] at hh
 subst hh
 kernel_rfl
theorem zp5 (fuel d : Nat) (x0 : Pt) (x1 : Int) (h : AH) :
   run fuel (d + 1) zfm [(AV.ptr x0), .int .i64 x1] h =
 (Pt.chk x0).bind fun p1 =>
   (Pt.field 0 p1).bind fun p2 =>
   (AH.cell h p2).bind fun u3 =>
   (AV.slice? u3).bind fun s4 =>
   (run fuel d zrj [(AV.int .i64 x1), (AV.int .i64 (IntKind.wrap .i64 ((s4.len : Int) - (1 : Int))))] h).bind fun r5 =>
   (AV.bool? r5.1).bind fun b6 =>
   (bif (!b6) then (some ((AV.int .i64 0), r5.2)) else ((Pt.chk x0).bind fun p7 =>
   (Pt.field 0 p7).bind fun p8 =>
   (AH.cell r5.2 p8).bind fun u9 =>
   (AV.slice? u9).bind fun s10 =>
   (run fuel d zlX [(AV.int .i64 x1)] r5.2).bind fun r11 =>
   (AV.int? .i64 r11.1).bind fun n12 =>
   same ((AH.cell r11.2 p8).bind fun u16 =>
   (AV.slice? u16).bind fun s17 =>
   some ((AV.slice s17), r11.2)) ((AV.slice s10), r11.2) (
   (AH.addr r11.2 1 s10 n12).bind fun p13 =>
   (AH.cell r11.2 p13).bind fun u14 =>
   (AV.int? .i8 u14).bind fun n15 =>
   (bif (bif (decide (x1 < (0 : Int))) then (!decide ((IntKind.wrap .i64 n15) = (0 : Int))) else false) then (some ((AV.int .i64 (IntKind.wrap .i64 ((3 : Int) - (IntKind.wrap .i64 n15)))), r11.2)) else (some ((AV.int .i64 (IntKind.wrap .i64 n15)), r11.2)))))) := by
 generalize hh : run = R
 rw [zaD] at hh
 subst hh
 kernel_rfl
theorem zra (fuel d : Nat) (x0 : Pt) (x1 : Int) (h : AH) :
   run fuel (d + 1) zkO [(AV.ptr x0), .int .i64 x1] h =
 (Pt.chk x0).bind fun p1 =>
   (Pt.field 0 p1).bind fun p2 =>
   (AH.cell h p2).bind fun u3 =>
   (AV.slice? u3).bind fun s4 =>
   (run fuel d zrj [(AV.int .i64 x1), (AV.int .i64 (IntKind.wrap .i64 ((s4.len : Int) - (1 : Int))))] h).bind fun r5 =>
   (AV.bool? r5.1).bind fun b6 =>
   ((bif ((!b6) == false) then ((run fuel d zfm [(AV.ptr x0), .int .i64 x1] r5.2).bind fun r7 =>
   (AV.int? .i64 r7.1).bind fun n8 =>
   some ((AV.bool (decide (n8 = (2 : Int)))), r7.2)) else (some ((AV.bool true), r5.2)) : Option (AV × AH))).bind fun r9 =>
   (AV.bool? r9.1).bind fun b10 =>
   (bif b10 then (some ((AV.bool false), r9.2)) else ((bif (decide ((0 : Int) < x1)) then ((Pt.chk x0).bind fun p11 =>
   (Pt.field 0 p11).bind fun p12 =>
   (AH.cell r9.2 p12).bind fun u13 =>
   (AV.slice? u13).bind fun s14 =>
   (AH.addr r9.2 1 s14 x1).bind fun p15 =>
   (AH.storeAt r9.2 [(AV.int .i8 1)] p15).bind fun h16 =>
   some ((AV.bool true), h16)) else ((Pt.chk x0).bind fun p17 =>
   (Pt.field 0 p17).bind fun p18 =>
   (AH.cell r9.2 p18).bind fun u19 =>
   (AV.slice? u19).bind fun s20 =>
   (AH.addr r9.2 1 s20 (IntKind.wrap .i64 (0 - x1))).bind fun p21 =>
   (AH.storeAt r9.2 [(AV.int .i8 2)] p21).bind fun h22 =>
   some ((AV.bool true), h22))))) := by
 generalize hh : run = R
 rw [zaD] at hh
 subst hh
 kernel_rfl
theorem zqA (fuel d : Nat) (x0 : Int) (x1 : Pt) (x2 : Pt) (x3 : Pt) (h : AH) :
   run fuel (d + 1) zfW [(AV.int .i64 x0), .ptr x1, .ptr x2, .ptr x3] h =
 (AH.cell h x1).bind fun u1 =>
   (AV.ptr? u1).bind fun p2 =>
   (AH.cell h x2).bind fun u3 =>
   (AV.ptr? u3).bind fun p4 =>
   (Pt.chk p4).bind fun p5 =>
   (Pt.field 1 p5).bind fun p6 =>
   (AH.cell h p6).bind fun u7 =>
   (AV.slice? u7).bind fun s8 =>
   (AH.addr h 1 s8 x0).bind fun p9 =>
   (AH.cell h p9).bind fun u10 =>
   (AV.slice? u10).bind fun s11 =>
   (run fuel d zcr [(AV.ptr p2), .slice s11] h).bind fun r12 =>
   (bif AV.isTup 2 r12.1 then ((AV.comp 0 r12.1).bind fun u13 =>
   (AV.int? .i64 u13).bind fun n14 =>
   (AV.comp 1 r12.1).bind fun u15 =>
   (AV.int? .i64 u15).bind fun n16 =>
   ((bif ((!decide (n14 = (2 : Int))) == true) then (((bif ((decide (n16 = (0 : Int))) == false) then ((AH.cell r12.2 x3).bind fun u17 =>
   (AV.func? u17).bind fun fc18 =>
   (run fuel d fc18.1 ([(AV.int .i64 n16)] ++ List.map AV.ptr fc18.2) r12.2).bind fun r19 =>
   (AV.bool? r19.1).bind fun b20 =>
   some ((AV.bool b20), r19.2)) else (some ((AV.bool true), r12.2)) : Option (AV × AH))).bind fun r21 =>
   (AV.bool? r21.1).bind fun b22 =>
   some ((AV.bool b22), r21.2)) else (some ((AV.bool false), r12.2)) : Option (AV × AH))).bind fun r23 =>
   (AV.bool? r23.1).bind fun b24 =>
   some ((AV.bool b24), r23.2)) else none) := by
 generalize hh : run = R
 rw [zaD] at hh
 subst hh
 kernel_rfl
noncomputable def zkg (fuel d : Nat) : Run := fun fr h k => zf8 (Cf fuel zcr) false (zak (C fuel) false d) (zak (C fuel) true d) 46 (csub [true, true, false, true, false, false] (zbV Go.Proofs.Tryd.f62)) (asub [true, true, false, true, false, false] an62) fr h k
noncomputable def zjY (fuel d : Nat) (n : Nat) (fr : Fr) (h : AH) : Option (zaj × Fr × AH) := ziV (zkg fuel d) (some [0, 6, 7, 8, 12, 13, 14]) n fr h (kOut [6, 7, 8])
noncomputable def za8 : Nat → Nat → Nat → Fr → AH → Option (zaj × Fr × AH) := hide zjY
theorem zf7 : za8 = zjY := zae _
noncomputable def zka (fuel d : Nat) : zaj → Fr → AH → Option (AV × AH) := (zbG 0 (kSeq (Cf fuel zcr) false (zak (C fuel) false d) (zak (C fuel) true d) 46 (csub [true, true, true] (zbV Go.Proofs.Tryd.f62)) (asub [true, true, true] an62) (kRet (Cf fuel zcr) Go.Proofs.Tryd.f62.results.toList)))
noncomputable def zdV : Nat → Nat → zaj → Fr → AH → Option (AV × AH) := hide zka
theorem zjf : zdV = zka := zae _
noncomputable def zj9 (fuel d : Nat) (n : Nat) : zaj → Fr → AH → Option (zaj × Fr × AH) := (kOut [0, 6, 7, 8, 10, 12, 13, 14])
noncomputable def zdU : Nat → Nat → Nat → zaj → Fr → AH → Option (zaj × Fr × AH) := hide zj9
theorem zje : zdU = zj9 := zae _
noncomputable def zj8 (fuel d : Nat) (n : Nat) : zaj → Fr → AH → Option (zaj × Fr × AH) := (kSeq (Cf fuel zcr) false (zak (C fuel) false d) (zak (C fuel) true d) 46 (csub [true, true, false, true, false, false, true, true, false, false, true, true, true, true] (zbV Go.Proofs.Tryd.f62)) (asub [true, true, false, true, false, false, true, true, false, false, true, true, true, true] an62) (zbG 1 (kSeq (Cf fuel zcr) false (zak (C fuel) false d) (zak (C fuel) true d) 46 (csub [true, true, false, true, false, false, true, true, true] (zbV Go.Proofs.Tryd.f62)) (asub [true, true, false, true, false, false, true, true, true] an62) (zo9 (zkg fuel d) (some [0, 6, 7, 8, 12, 13, 14]) n (kOut [6, 7, 8])))))
noncomputable def zcZ : Nat → Nat → Nat → zaj → Fr → AH → Option (zaj × Fr × AH) := hide zj8
theorem zjd : zcZ = zj8 := zae _
theorem zpM (fuel d : Nat) (x0 : Pt) (x1 : Sl) (h : AH) :
   run fuel (d + 1) zcr [(AV.ptr x0), .slice x1] h =
 (za8 fuel d fuel [(0, .ptr x0), (6, .int .i64 0), (7, .int .i64 0), (8, .int .i64 2), (12, .slice x1), (13, (AV.int .i64 (x1.len : Int))), (14, .int .i64 0)] h).bind fun p1 =>
   zdV fuel d p1.1 p1.2.1 p1.2.2 := by
 generalize hh : run = R
 rw [zaD] at hh
 subst hh
 generalize hh : za8 = R
 rw [zf7] at hh
 subst hh
 generalize hh : zdV = R
 rw [zjf] at hh
 subst hh
 kernel_rfl
theorem znm (fuel d : Nat) (n : Nat) (x0 : Pt) (x6 : Int) (x7 : Int) (x8 : Int) (x12 : Sl) (x13 : Int) (x14 : Int) (h : AH) :
   za8 fuel d (n + 1) [(0, .ptr x0), (6, .int .i64 x6), (7, .int .i64 x7), (8, .int .i64 x8), (12, .slice x12), (13, .int .i64 x13), (14, .int .i64 x14)] h =
 (bif (decide (x14 < x13)) then ((AH.addr h 1 x12 x14).bind fun p1 =>
   (AH.cell h p1).bind fun u2 =>
   (AV.int? .i64 u2).bind fun n3 =>
   (run fuel d zfm [(AV.ptr x0), .int .i64 n3] h).bind fun r4 =>
   (AV.int? .i64 r4.1).bind fun n5 =>
   (bif (decide (n5 = (2 : Int))) then (za8 fuel d n [(0, .ptr x0), (6, .int .i64 x6), (7, .int .i64 x7), (8, .int .i64 x8), (12, .slice x12), (13, .int .i64 x13), (14, (AV.int .i64 (IntKind.wrap .i64 (x14 + (1 : Int)))))] r4.2) else (((bif (decide (n5 = (1 : Int))) then (some (.normal, [(0, .ptr x0), (6, .int .i64 x6), (7, .int .i64 x7), (8, .int .i64 1), (10, .int .i64 n3), (12, .slice x12), (13, .int .i64 x13), (14, .int .i64 x14)], r4.2)) else (((bif (decide (x8 = (2 : Int))) then (some (.normal, [(0, .ptr x0), (6, .int .i64 x6), (7, .int .i64 x7), (8, .int .i64 0), (10, .int .i64 n3), (12, .slice x12), (13, .int .i64 x13), (14, .int .i64 x14)], r4.2)) else (some (.normal, [(0, .ptr x0), (6, .int .i64 x6), (7, .int .i64 x7), (8, .int .i64 x8), (10, .int .i64 n3), (12, .slice x12), (13, .int .i64 x13), (14, .int .i64 x14)], r4.2)))).bind fun p6 =>
   zdU fuel d n p6.1 p6.2.1 p6.2.2))).bind fun p7 =>
   zcZ fuel d n p7.1 p7.2.1 p7.2.2))) else (some ((.exit 0), [(6, .int .i64 x6), (7, .int .i64 x7), (8, .int .i64 x8)], h))) := by
 generalize hh : run = R
 rw [zaD] at hh
 subst hh
 generalize hh : za8 = R
 rw [zf7] at hh
 subst hh
 generalize hh : zdU = R
 rw [zje] at hh
 subst hh
 generalize hh : zcZ = R
 rw [zjd] at hh
 subst hh
 kernel_rfl
theorem znp (fuel d : Nat) (x6 : Int) (x7 : Int) (x8 : Int) (h : AH) :
   zdV fuel d (.exit 0) [(6, .int .i64 x6), (7, .int .i64 x7), (8, .int .i64 x8)] h =
 (bif (bif (!decide (x7 = (1 : Int))) then true else (!decide (x8 = (0 : Int)))) then (some ((AV.tup [(AV.int .i64 x8), .int .i64 0]), h)) else (some ((AV.tup [(AV.int .i64 x8), .int .i64 x6]), h))) := by
 generalize hh : zdV = R
 rw [zjf] at hh
 subst hh
 kernel_rfl
theorem zjH (fuel d : Nat) (n : Nat) (x0 : Pt) (x6 : Int) (x7 : Int) (x8 : Int) (x10 : Int) (x12 : Sl) (x13 : Int) (x14 : Int) (h : AH) :
   zdU fuel d n .normal [(0, .ptr x0), (6, .int .i64 x6), (7, .int .i64 x7), (8, .int .i64 x8), (10, .int .i64 x10), (12, .slice x12), (13, .int .i64 x13), (14, .int .i64 x14)] h =
 some (.normal, [(0, .ptr x0), (6, .int .i64 x6), (7, .int .i64 x7), (8, .int .i64 x8), (10, .int .i64 x10), (12, .slice x12), (13, .int .i64 x13), (14, .int .i64 x14)], h) := by
 generalize hh : zdU = R
 rw [zje] at hh
 subst hh
 kernel_rfl
theorem znU (fuel d : Nat) (n : Nat) (x0 : Pt) (x6 : Int) (x7 : Int) (x8 : Int) (x10 : Int) (x12 : Sl) (x13 : Int) (x14 : Int) (h : AH) :
   zcZ fuel d n .normal [(0, .ptr x0), (6, .int .i64 x6), (7, .int .i64 x7), (8, .int .i64 x8), (10, .int .i64 x10), (12, .slice x12), (13, .int .i64 x13), (14, .int .i64 x14)] h =
 (bif (bif (decide (x7 = (0 : Int))) then true else (!decide (x10 = x6))) then (za8 fuel d n [(0, .ptr x0), (6, .int .i64 x10), (7, (AV.int .i64 (IntKind.wrap .i64 (x7 + (1 : Int))))), (8, .int .i64 x8), (12, .slice x12), (13, .int .i64 x13), (14, (AV.int .i64 (IntKind.wrap .i64 (x14 + (1 : Int)))))] h) else (za8 fuel d n [(0, .ptr x0), (6, .int .i64 x6), (7, .int .i64 x7), (8, .int .i64 x8), (12, .slice x12), (13, .int .i64 x13), (14, (AV.int .i64 (IntKind.wrap .i64 (x14 + (1 : Int)))))] h)) := by
 generalize hh : za8 = R
 rw [zf7] at hh
 subst hh
 generalize hh : zcZ = R
 rw [zjd] at hh
 subst hh
 kernel_rfl
theorem zfr (fuel d : Nat) (x0 : Sl) (h : AH) :
   brun fuel (d + 1) zc1 [(AV.slice x0)] h =
 (zd0 .slice (AV.slice x0)).bind fun b1 =>
   (bif (b1) then (some ((AV.slice Sl.nil), h)) else ((AH.sliceCells h 1 x0).bind fun xs2 =>
   (AH.append h false 1 8 (Sl.lst 0 true []) x0.len xs2).bind fun a3 =>
   some ((AV.slice a3.1), a3.2))) := by
 generalize hh : brun = R
 rw [zcI] at hh
 subst hh
 kernel_rfl
theorem znX (fuel d : Nat) (h : AH) :
   brun fuel (d + 1) zc1 [AV.empty] h =
 (AH.append h false 1 8 (Sl.lst 0 true []) 0 []).bind fun a1 =>
   some ((AV.slice a1.1), a1.2) := by
 generalize hh : brun = R
 rw [zcI] at hh
 subst hh
 kernel_rfl
theorem zjh (fuel d : Nat) (x0 : Sl) (x1f : Nat) (x1c : List Pt) (h : AH) :
   run fuel (d + 1) zen [(AV.slice x0), .func x1f x1c] h =
 (run fuel d zrk [(AV.int .u64 (IntKind.wrap .u64 (x0.len : Int)))] h).bind fun r1 =>
   (AV.int? .i64 r1.1).bind fun n2 =>
   (run fuel d zaq [(AV.slice x0), .int .i64 0, (AV.int .i64 (x0.len : Int)), .int .i64 n2, .func x1f x1c] r1.2).bind fun r3 =>
   some ((AV.tup []), r3.2) := by
 generalize hh : run = R
 rw [zaD] at hh
 subst hh
 kernel_rfl
theorem zvJ (fuel d : Nat) (x0 : Int) (x1 : Int) (h : AH) :
   brun fuel (d + 1) zi0 [(AV.int .i64 x0), .int .i64 x1] h =
 (run fuel d zlX [(AV.int .i64 x0)] h).bind fun r1 =>
   (AV.int? .i64 r1.1).bind fun n2 =>
   (run fuel d zlX [(AV.int .i64 x1)] r1.2).bind fun r3 =>
   (AV.int? .i64 r3.1).bind fun n4 =>
   (run fuel d zjO [(AV.int .i64 n2), .int .i64 n4] r3.2).bind fun r5 =>
   (AV.int? .i64 r5.1).bind fun n6 =>
   (run fuel d zjO [(AV.int .i64 x0), .int .i64 x1] r5.2).bind fun r7 =>
   (AV.int? .i64 r7.1).bind fun n8 =>
   (run fuel d zlp [(AV.slice (Sl.lst 2 true [(AV.int .i64 n6), .int .i64 n8]))] r7.2).bind fun r9 =>
   (AV.int? .i64 r9.1).bind fun n10 =>
   some ((AV.int .i64 n10), r9.2) := by
 generalize hh : run = R
 rw [zaD] at hh
 subst hh
 generalize hh : brun = R
 rw [zcI] at hh
 subst hh
 kernel_rfl
theorem zld (fuel d : Nat) (x0 : Sl) (h : AH) :
   brun fuel (d + 1) zey [(AV.slice x0)] h =
 (aHi (some (AV.int .i64 (x0.len : Int))) (Sl.len x0)).bind fun hi1 =>
   (aLo (none : Option AV) hi1).bind fun lo2 =>
   (aMx (some (AV.int .i64 (x0.len : Int))) hi1).bind fun cl3 =>
   (bif (AH.hasSz h 1 x0) then (some ((AV.slice (Sl.cut x0 1 lo2 hi1 cl3)), h)) else (none)) := by
 generalize hh : brun = R
 rw [zcI] at hh
 subst hh
 kernel_rfl
noncomputable def ziB (fuel d : Nat) : Run := fun fr h k => zf8 (Cf fuel zaM) false (zak (C fuel) false d) (zak (C fuel) true d) 61 (csub [true, true, false, true, false, false] (zbV Go.Proofs.Tryd.f67)) (asub [true, true, false, true, false, false] an67) fr h k
noncomputable def zim (fuel d : Nat) (n : Nat) (fr : Fr) (h : AH) : Option (zaj × Fr × AH) := ziV (ziB fuel d) (some [0, 3]) n fr h (kOut [0, 2])
noncomputable def zbu : Nat → Nat → Nat → Fr → AH → Option (zaj × Fr × AH) := hide zim
theorem zhA : zbu = zim := zae _
noncomputable def zit (fuel d : Nat) : zaj → Fr → AH → Option (AV × AH) := (zbG 0 (kSeq (Cf fuel zaM) false (zak (C fuel) false d) (zak (C fuel) true d) 61 (csub [true, true, true] (zbV Go.Proofs.Tryd.f67)) (asub [true, true, true] an67) (kRet (Cf fuel zaM) Go.Proofs.Tryd.f67.results.toList)))
noncomputable def zbd : Nat → Nat → zaj → Fr → AH → Option (AV × AH) := hide zit
theorem zeN : zbd = zit := zae _
noncomputable def zmN (fuel d : Nat) : Run := fun fr h k => zf8 (Cf fuel zaM) false (zak (C fuel) false d) (zak (C fuel) true d) 61 (csub [true, true, false, true, false, false, true, false, false, true, false, true, false, true, false, false] (zbV Go.Proofs.Tryd.f67)) (asub [true, true, false, true, false, false, true, false, false, true, false, true, false, true, false, false] an67) fr h k
noncomputable def zil (fuel d : Nat) (n : Nat) (fr : Fr) (h : AH) : Option (zaj × Fr × AH) := ziV (zmN fuel d) (some [0, 3, 4, 5]) n fr h (kOut [0, 3])
noncomputable def zbb : Nat → Nat → Nat → Fr → AH → Option (zaj × Fr × AH) := hide zil
theorem zhy : zbb = zil := zae _
noncomputable def zis (fuel d : Nat) (n : Nat) : zaj → Fr → AH → Option (zaj × Fr × AH) := (zbG 2 (kSeq (Cf fuel zaM) false (zak (C fuel) false d) (zak (C fuel) true d) 61 (csub [true, true, false, true, false, false, true, false, false, true, false, true, true] (zbV Go.Proofs.Tryd.f67)) (asub [true, true, false, true, false, false, true, false, false, true, false, true, true] an67) (zbG 1 (kSeq (Cf fuel zaM) false (zak (C fuel) false d) (zak (C fuel) true d) 61 (csub [true, true, false, true, false, false, true, true] (zbV Go.Proofs.Tryd.f67)) (asub [true, true, false, true, false, false, true, true] an67) (zo9 (ziB fuel d) (some [0, 3]) n (kOut [0, 2]))))))
noncomputable def zcO : Nat → Nat → Nat → zaj → Fr → AH → Option (zaj × Fr × AH) := hide zis
theorem zhM : zcO = zis := zae _
theorem zjI (fuel d : Nat) (x0 : Sl) (h : AH) :
   run fuel (d + 1) zaM [(AV.slice x0)] h =
 (bif (decide ((x0.len : Int) < (2 : Int))) then (some ((AV.slice x0), h)) else ((zbu fuel d fuel [(0, .slice x0), (3, .int .i64 1)] h).bind fun p1 =>
   zbd fuel d p1.1 p1.2.1 p1.2.2)) := by
 generalize hh : run = R
 rw [zaD] at hh
 subst hh
 generalize hh : zbu = R
 rw [zhA] at hh
 subst hh
 generalize hh : zbd = R
 rw [zeN] at hh
 subst hh
 kernel_rfl
theorem zhB (fuel d : Nat) (n : Nat) (x0 : Sl) (x3 : Int) (h : AH) :
   zbu fuel d (n + 1) [(0, .slice x0), (3, .int .i64 x3)] h =
 (bif (decide (x3 < (x0.len : Int))) then ((AH.addr h 1 x0 x3).bind fun p1 =>
   (AH.cell h p1).bind fun u2 =>
   (AV.int? .i64 u2).bind fun n3 =>
   (AH.addr h 1 x0 (IntKind.wrap .i64 (x3 - (1 : Int)))).bind fun p4 =>
   (AH.cell h p4).bind fun u5 =>
   (AV.int? .i64 u5).bind fun n6 =>
   (bif (decide (n3 = n6)) then ((aHi (none : Option AV) (Sl.len x0)).bind fun hi7 =>
   (aLo (some (AV.int .i64 x3)) hi7).bind fun lo8 =>
   (aMx (none : Option AV) hi7).bind fun cl9 =>
   (bif (AH.hasSz h 1 x0) then ((zbb fuel d fuel [(0, .slice x0), (3, .int .i64 x3), (4, (AV.slice (Sl.cut x0 1 lo8 hi7 cl9))), (5, .int .i64 1)] h).bind fun p10 =>
   zcO fuel d n p10.1 p10.2.1 p10.2.2) else (none))) else (zbu fuel d n [(0, .slice x0), (3, (AV.int .i64 (IntKind.wrap .i64 (x3 + (1 : Int)))))] h))) else (some ((.exit 0), [(0, .slice x0), (2, AV.bot)], h))) := by
 generalize hh : zbu = R
 rw [zhA] at hh
 subst hh
 generalize hh : zbb = R
 rw [zhy] at hh
 subst hh
 generalize hh : zcO = R
 rw [zhM] at hh
 subst hh
 kernel_rfl
theorem zlK (fuel d : Nat) (x0 : Sl) (x2 : AV) (h : AH) :
   zbd fuel d (.exit 0) [(0, .slice x0), (2, x2)] h =
 some ((AV.slice x0), h) := by
 generalize hh : zbd = R
 rw [zeN] at hh
 subst hh
 kernel_rfl
theorem zma (fuel d : Nat) (x0 : AV) (x2 : Sl) (h : AH) :
   zbd fuel d .ret [(0, x0), (2, .slice x2)] h =
 some ((AV.slice x2), h) := by
 generalize hh : zbd = R
 rw [zeN] at hh
 subst hh
 kernel_rfl
theorem zhz (fuel d : Nat) (n : Nat) (x0 : Sl) (x3 : Int) (x4 : Sl) (x5 : Int) (h : AH) :
   zbb fuel d (n + 1) [(0, .slice x0), (3, .int .i64 x3), (4, .slice x4), (5, .int .i64 x5)] h =
 (bif (decide (x5 < (x4.len : Int))) then ((AH.addr h 1 x4 x5).bind fun p1 =>
   (AH.cell h p1).bind fun u2 =>
   (AV.int? .i64 u2).bind fun n3 =>
   (AH.addr h 1 x4 (IntKind.wrap .i64 (x5 - (1 : Int)))).bind fun p4 =>
   (AH.cell h p4).bind fun u5 =>
   (AV.int? .i64 u5).bind fun n6 =>
   (bif (!decide (n3 = n6)) then ((AH.addr h 1 x4 x5).bind fun p7 =>
   (AH.cell h p7).bind fun u8 =>
   (AV.int? .i64 u8).bind fun n9 =>
   (AH.addr h 1 x0 x3).bind fun p10 =>
   (AH.storeAt h [(AV.int .i64 n9)] p10).bind fun h11 =>
   zbb fuel d n [(0, .slice x0), (3, (AV.int .i64 (IntKind.wrap .i64 (x3 + (1 : Int))))), (4, .slice x4), (5, (AV.int .i64 (IntKind.wrap .i64 (x5 + (1 : Int)))))] h11) else (zbb fuel d n [(0, .slice x0), (3, .int .i64 x3), (4, .slice x4), (5, (AV.int .i64 (IntKind.wrap .i64 (x5 + (1 : Int)))))] h))) else (some ((.exit 2), [(0, .slice x0), (3, .int .i64 x3)], h))) := by
 generalize hh : zbb = R
 rw [zhy] at hh
 subst hh
 kernel_rfl
theorem zlJ (fuel d : Nat) (n : Nat) (x0 : Sl) (x3 : Int) (h : AH) :
   zcO fuel d n (.exit 2) [(0, .slice x0), (3, .int .i64 x3)] h =
 (aHi (none : Option AV) (Sl.len x0)).bind fun hi1 =>
   (aLo (some (AV.int .i64 x3)) hi1).bind fun lo2 =>
   (aMx (none : Option AV) hi1).bind fun cl3 =>
   (bif (AH.hasSz h 1 x0) then ((AH.clear h false [(AV.int .i64 0)] 1 (Sl.cut x0 1 lo2 hi1 cl3)).bind fun h4 =>
   (aHi (some (AV.int .i64 x3)) (Sl.len x0)).bind fun hi5 =>
   (aLo (none : Option AV) hi5).bind fun lo6 =>
   (aMx (none : Option AV) hi5).bind fun cl7 =>
   (bif (AH.hasSz h4 1 x0) then (some (.ret, [(0, .slice x0), (2, (AV.slice (Sl.cut x0 1 lo6 hi5 cl7)))], h4)) else (none))) else (none)) := by
 generalize hh : zcO = R
 rw [zhM] at hh
 subst hh
 kernel_rfl
theorem zyy (fuel d : Nat) (x0 : Int) (h : AH) :
   brun fuel (d + 1) zlX [(AV.int .i64 x0)] h =
 some ((AV.int .i64 (bif decide (x0 < (IntKind.wrap .i64 (0 - x0))) then (IntKind.wrap .i64 (0 - x0)) else x0)), h) := by
 generalize hh : brun = R
 rw [zcI] at hh
 subst hh
 kernel_rfl
noncomputable def znE (fuel d : Nat) : Run := fun fr h k => zf8 (Cf fuel zc0) false (zak (C fuel) false d) (zak (C fuel) true d) 26 (csub [true, true, false, true, false, false] (zbV Go.Proofs.Tryd.f69)) (asub [true, true, false, true, false, false] an69) fr h k
noncomputable def zi9 (fuel d : Nat) (n : Nat) (fr : Fr) (h : AH) : Option (zaj × Fr × AH) := ziV (znE fuel d) (some [0, 1, 12, 13]) n fr h (kOut [4])
noncomputable def zbW : Nat → Nat → Nat → Fr → AH → Option (zaj × Fr × AH) := hide zi9
theorem zik : zbW = zi9 := zae _
noncomputable def zjb (fuel d : Nat) : zaj → Fr → AH → Option (AV × AH) := (zbG 0 (kSeq (Cf fuel zc0) false (zak (C fuel) false d) (zak (C fuel) true d) 26 (csub [true, true, true] (zbV Go.Proofs.Tryd.f69)) (asub [true, true, true] an69) (kRet (Cf fuel zc0) Go.Proofs.Tryd.f69.results.toList)))
noncomputable def zbq : Nat → Nat → zaj → Fr → AH → Option (AV × AH) := hide zjb
theorem zfo : zbq = zjb := zae _
theorem zoF (fuel d : Nat) (x0 : Sl) (x1 : Sl) (h : AH) :
   brun fuel (d + 1) zc0 [(AV.slice x0), .slice x1] h =
 (bif (!decide ((x0.len : Int) = (x1.len : Int))) then (some ((AV.bool false), h)) else ((zbW fuel d fuel [(0, .slice x0), (1, .slice x1), (12, (AV.int .i64 (x0.len : Int))), (13, .int .i64 0)] h).bind fun p1 =>
   zbq fuel d p1.1 p1.2.1 p1.2.2)) := by
 generalize hh : brun = R
 rw [zcI] at hh
 subst hh
 generalize hh : zbW = R
 rw [zik] at hh
 subst hh
 generalize hh : zbq = R
 rw [zfo] at hh
 subst hh
 kernel_rfl
theorem zmz (fuel d : Nat) (n : Nat) (x0 : Sl) (x1 : Sl) (x12 : Int) (x13 : Int) (h : AH) :
   zbW fuel d (n + 1) [(0, .slice x0), (1, .slice x1), (12, .int .i64 x12), (13, .int .i64 x13)] h =
 (bif (decide (x13 < x12)) then ((AH.addr h 1 x0 x13).bind fun p1 =>
   (AH.cell h p1).bind fun u2 =>
   (AV.int? .i64 u2).bind fun n3 =>
   (AH.addr h 1 x1 x13).bind fun p4 =>
   (AH.cell h p4).bind fun u5 =>
   (AV.int? .i64 u5).bind fun n6 =>
   (bif (!decide (n3 = n6)) then (some (.ret, [(4, .bool false)], h)) else (zbW fuel d n [(0, .slice x0), (1, .slice x1), (12, .int .i64 x12), (13, (AV.int .i64 (IntKind.wrap .i64 (x13 + (1 : Int)))))] h))) else (some ((.exit 0), [(4, AV.bot)], h))) := by
 generalize hh : zbW = R
 rw [zik] at hh
 subst hh
 kernel_rfl
theorem zmB (fuel d : Nat) (x4 : AV) (h : AH) :
   zbq fuel d (.exit 0) [(4, x4)] h =
 some ((AV.bool true), h) := by
 generalize hh : zbq = R
 rw [zfo] at hh
 subst hh
 kernel_rfl
theorem zm1 (fuel d : Nat) (x4 : Bool) (h : AH) :
   zbq fuel d .ret [(4, .bool x4)] h =
 some ((AV.bool x4), h) := by
 generalize hh : zbq = R
 rw [zfo] at hh
 subst hh
 kernel_rfl
noncomputable def zlv (fuel d : Nat) : Run := fun fr h k => zf8 (Cf fuel zbp) false (zak (C fuel) false d) (zak (C fuel) true d) 42 (csub [true, true, true, false, true, false, false] (zbV Go.Proofs.Tryd.f70)) (asub [true, true, true, false, true, false, false] an70) fr h k
noncomputable def zg0 (fuel d : Nat) (n : Nat) (fr : Fr) (h : AH) : Option (zaj × Fr × AH) := ziV (zlv fuel d) (some [0, 1, 5, 6]) n fr h (kOut [0, 5])
noncomputable def zaL : Nat → Nat → Nat → Fr → AH → Option (zaj × Fr × AH) := hide zg0
theorem zgh : zaL = zg0 := zae _
noncomputable def zhg (fuel d : Nat) : zaj → Fr → AH → Option (AV × AH) := (zbG 0 (kSeq (Cf fuel zbp) false (zak (C fuel) false d) (zak (C fuel) true d) 42 (csub [true, true, true, true] (zbV Go.Proofs.Tryd.f70)) (asub [true, true, true, true] an70) (kRet (Cf fuel zbp) Go.Proofs.Tryd.f70.results.toList)))
noncomputable def zcn : Nat → Nat → zaj → Fr → AH → Option (AV × AH) := hide zhg
theorem zgv : zcn = zhg := zae _
theorem zmE (fuel d : Nat) (x0 : Sl) (x1f : Nat) (x1c : List Pt) (h : AH) :
   brun fuel (d + 1) zbp [(AV.slice x0), .func x1f x1c] h =
 (run fuel d zbB [(AV.slice x0), .func x1f x1c] h).bind fun r1 =>
   (AV.int? .i64 r1.1).bind fun n2 =>
   (bif (decide (n2 = (-1 : Int))) then (some ((AV.slice x0), r1.2)) else ((zaL fuel d fuel [(0, .slice x0), (1, .func x1f x1c), (5, .int .i64 n2), (6, (AV.int .i64 (IntKind.wrap .i64 (n2 + (1 : Int)))))] r1.2).bind fun p3 =>
   zcn fuel d p3.1 p3.2.1 p3.2.2)) := by
 generalize hh : run = R
 rw [zaD] at hh
 subst hh
 generalize hh : brun = R
 rw [zcI] at hh
 subst hh
 generalize hh : zaL = R
 rw [zgh] at hh
 subst hh
 generalize hh : zcn = R
 rw [zgv] at hh
 subst hh
 kernel_rfl
theorem zkh (fuel d : Nat) (n : Nat) (x0 : Sl) (x1f : Nat) (x1c : List Pt) (x5 : Int) (x6 : Int) (h : AH) :
   zaL fuel d (n + 1) [(0, .slice x0), (1, .func x1f x1c), (5, .int .i64 x5), (6, .int .i64 x6)] h =
 (bif (decide (x6 < (x0.len : Int))) then ((AH.addr h 1 x0 x6).bind fun p1 =>
   (AH.cell h p1).bind fun u2 =>
   (AV.int? .i64 u2).bind fun n3 =>
   (run fuel d x1f ([(AV.int .i64 n3)] ++ List.map AV.ptr x1c) h).bind fun r4 =>
   (AV.bool? r4.1).bind fun b5 =>
   (bif (!b5) then ((AH.addr r4.2 1 x0 x5).bind fun p6 =>
   (AH.storeAt r4.2 [(AV.int .i64 n3)] p6).bind fun h7 =>
   zaL fuel d n [(0, .slice x0), (1, .func x1f x1c), (5, (AV.int .i64 (IntKind.wrap .i64 (x5 + (1 : Int))))), (6, (AV.int .i64 (IntKind.wrap .i64 (x6 + (1 : Int)))))] h7) else (zaL fuel d n [(0, .slice x0), (1, .func x1f x1c), (5, .int .i64 x5), (6, (AV.int .i64 (IntKind.wrap .i64 (x6 + (1 : Int)))))] r4.2))) else (some ((.exit 0), [(0, .slice x0), (5, .int .i64 x5)], h))) := by
 generalize hh : run = R
 rw [zaD] at hh
 subst hh
 generalize hh : zaL = R
 rw [zgh] at hh
 subst hh
 kernel_rfl
theorem zkv (fuel d : Nat) (x0 : Sl) (x5 : Int) (h : AH) :
   zcn fuel d (.exit 0) [(0, .slice x0), (5, .int .i64 x5)] h =
 (aHi (none : Option AV) (Sl.len x0)).bind fun hi1 =>
   (aLo (some (AV.int .i64 x5)) hi1).bind fun lo2 =>
   (aMx (none : Option AV) hi1).bind fun cl3 =>
   (bif (AH.hasSz h 1 x0) then ((AH.clear h false [(AV.int .i64 0)] 1 (Sl.cut x0 1 lo2 hi1 cl3)).bind fun h4 =>
   (aHi (some (AV.int .i64 x5)) (Sl.len x0)).bind fun hi5 =>
   (aLo (none : Option AV) hi5).bind fun lo6 =>
   (aMx (none : Option AV) hi5).bind fun cl7 =>
   (bif (AH.hasSz h4 1 x0) then (some ((AV.slice (Sl.cut x0 1 lo6 hi5 cl7)), h4)) else (none))) else (none)) := by
 generalize hh : zcn = R
 rw [zgv] at hh
 subst hh
 kernel_rfl
theorem zvI (fuel d : Nat) (x0 : Int) (x1 : Pt) (h : AH) :
   run fuel (d + 1) zqK [(AV.int .i64 x0), .ptr x1] h =
 (AH.cell h x1).bind fun u1 =>
   (AV.int? .i64 u1).bind fun n2 =>
   some ((AV.bool (decide (x0 = n2))), h) := by
 generalize hh : run = R
 rw [zaD] at hh
 subst hh
 kernel_rfl
noncomputable def zjw (fuel d : Nat) : zaj → Fr → AH → Option (AV × AH) := (kSeq (Cf fuel zex) false (zak (C fuel) false d) (zak (C fuel) true d) 27 (csub [true, true] (zbV Go.Proofs.Tryd.f72)) (asub [true, true] an72) (kRet (Cf fuel zex) Go.Proofs.Tryd.f72.results.toList))
noncomputable def zdw : Nat → Nat → zaj → Fr → AH → Option (AV × AH) := hide zjw
theorem ziK : zdw = zjw := zae _
theorem zpb (fuel d : Nat) (x0 : Sl) (x1 : Int) (h : AH) :
   run fuel (d + 1) zex [(AV.slice x0), .int .i64 x1] h =
 ((bif (decide (x1 < (0 : Int))) then (none) else (some (.normal, [(0, .slice x0), (1, .int .i64 x1)], h)))).bind fun p1 =>
   zdw fuel d p1.1 p1.2.1 p1.2.2 := by
 generalize hh : run = R
 rw [zaD] at hh
 subst hh
 generalize hh : zdw = R
 rw [ziK] at hh
 subst hh
 kernel_rfl
theorem znn (fuel d : Nat) (x0 : Sl) (x1 : Int) (h : AH) :
   zdw fuel d .normal [(0, .slice x0), (1, .int .i64 x1)] h =
 (Sl.capOf x0).bind fun n1 =>
   (bif (decide ((0 : Int) < (IntKind.wrap .i64 (x1 - (IntKind.wrap .i64 (((n1 : Nat) : Int) - (x0.len : Int))))))) then ((Sl.capOf x0).bind fun n2 =>
   (aHi (some (AV.int .i64 ((n2 : Nat) : Int))) (Sl.len x0)).bind fun hi3 =>
   (aLo (none : Option AV) hi3).bind fun lo4 =>
   (aMx (none : Option AV) hi3).bind fun cl5 =>
   (bif (AH.hasSz h 1 x0) then ((bif (decide (0 ≤ (IntKind.wrap .i64 (x1 - (IntKind.wrap .i64 (((n1 : Nat) : Int) - (x0.len : Int)))))) && decide ((IntKind.wrap .i64 (x1 - (IntKind.wrap .i64 (((n1 : Nat) : Int) - (x0.len : Int))))) ≤ 140737488355328) && decide ((IntKind.wrap .i64 (x1 - (IntKind.wrap .i64 (((n1 : Nat) : Int) - (x0.len : Int))))) * 8 ≤ 140737488355328)) then ((AH.append h false 1 8 (Sl.cut x0 1 lo4 hi3 cl5) (Int.toNat (IntKind.wrap .i64 (x1 - (IntKind.wrap .i64 (((n1 : Nat) : Int) - (x0.len : Int)))))) (za9 [(AV.int .i64 0)] (Int.toNat (IntKind.wrap .i64 (x1 - (IntKind.wrap .i64 (((n1 : Nat) : Int) - (x0.len : Int)))))))).bind fun a6 =>
   (aHi (some (AV.int .i64 (x0.len : Int))) (Sl.len a6.1)).bind fun hi7 =>
   (aLo (none : Option AV) hi7).bind fun lo8 =>
   (aMx (none : Option AV) hi7).bind fun cl9 =>
   (bif (AH.hasSz a6.2 1 a6.1) then (some ((AV.slice (Sl.cut a6.1 1 lo8 hi7 cl9)), a6.2)) else (none))) else (none))) else (none))) else (some ((AV.slice x0), h))) := by
 generalize hh : zdw = R
 rw [ziK] at hh
 subst hh
 kernel_rfl
theorem ztt (fuel d : Nat) (x0 : Int) (x1 : Pt) (h : AH) :
   run fuel (d + 1) zn3 [(AV.int .i64 x0), .ptr x1] h =
 (AH.cell h x1).bind fun u1 =>
   (AV.int? .i64 u1).bind fun n2 =>
   some ((AV.bool (decide (x0 = n2))), h) := by
 generalize hh : run = R
 rw [zaD] at hh
 subst hh
 kernel_rfl
theorem zts (fuel d : Nat) (x0 : Int) (x1 : Int) (h : AH) :
   brun fuel (d + 1) zjL [(AV.int .i64 x0), .int .i64 x1] h =
 some ((AV.bool (bif (bif (!decide (x0 = (0 : Int))) then (decide (x0 ≤ x1)) else false) then (decide ((IntKind.wrap .i64 (0 - x1)) ≤ x0)) else false)), h) := by
 generalize hh : brun = R
 rw [zcI] at hh
 subst hh
 kernel_rfl
theorem zol (fuel d : Nat) (x0 : Pt) (x1 : Int) (h : AH) :
   run fuel (d + 1) ze8 [(AV.ptr x0), .int .i64 x1] h =
 (Pt.chk x0).bind fun p1 =>
   (Pt.field 0 p1).bind fun p2 =>
   (AH.cell h p2).bind fun u3 =>
   (AV.slice? u3).bind fun s4 =>
   (run fuel d zjL [(AV.int .i64 x1), (AV.int .i64 (IntKind.wrap .i64 ((s4.len : Int) - (1 : Int))))] h).bind fun r5 =>
   (AV.bool? r5.1).bind fun b6 =>
   (bif (!b6) then (some ((AV.int .i64 0), r5.2)) else ((Pt.chk x0).bind fun p7 =>
   (Pt.field 0 p7).bind fun p8 =>
   (AH.cell r5.2 p8).bind fun u9 =>
   (AV.slice? u9).bind fun s10 =>
   (run fuel d zjK [(AV.int .i64 x1)] r5.2).bind fun r11 =>
   (AV.int? .i64 r11.1).bind fun n12 =>
   same ((AH.cell r11.2 p8).bind fun u16 =>
   (AV.slice? u16).bind fun s17 =>
   some ((AV.slice s17), r11.2)) ((AV.slice s10), r11.2) (
   (AH.addr r11.2 1 s10 n12).bind fun p13 =>
   (AH.cell r11.2 p13).bind fun u14 =>
   (AV.int? .i64 u14).bind fun n15 =>
   (bif (bif (decide (x1 < (0 : Int))) then (!decide (n15 = (0 : Int))) else false) then (some ((AV.int .i64 (IntKind.wrap .i64 ((3 : Int) - n15))), r11.2)) else (some ((AV.int .i64 n15), r11.2)))))) := by
 generalize hh : run = R
 rw [zaD] at hh
 subst hh
 kernel_rfl
noncomputable def znt (fuel d : Nat) : Run := fun fr h k => zf8 (Cf fuel zb8) false (zak (C fuel) false d) (zak (C fuel) true d) 66 (csub [true, true, true, false, true, false, false] (zbV Go.Proofs.Tryd.f76)) (asub [true, true, true, false, true, false, false] an76) fr h k
noncomputable def zmW (fuel d : Nat) (n : Nat) (fr : Fr) (h : AH) : Option (zaj × Fr × AH) := ziV (znt fuel d) (some [0, 4, 5, 6]) n fr h (kOut [4, 5])
noncomputable def zcG : Nat → Nat → Nat → Fr → AH → Option (zaj × Fr × AH) := hide zmW
theorem ziI : zcG = zmW := zae _
noncomputable def zm7 (fuel d : Nat) : zaj → Fr → AH → Option (AV × AH) := (zbG 0 (kSeq (Cf fuel zb8) false (zak (C fuel) false d) (zak (C fuel) true d) 66 (csub [true, true, true, true] (zbV Go.Proofs.Tryd.f76)) (asub [true, true, true, true] an76) (kRet (Cf fuel zb8) Go.Proofs.Tryd.f76.results.toList)))
noncomputable def zgy : Nat → Nat → zaj → Fr → AH → Option (AV × AH) := hide zm7
theorem zlR : zgy = zm7 := zae _
noncomputable def zns (fuel d : Nat) : Run := fun fr h k => zf8 (Cf fuel zb8) false (zak (C fuel) false d) (zak (C fuel) true d) 66 (csub [true, true, true, false, true, false, false, true, false, false, true, true, false, false, false] (zbV Go.Proofs.Tryd.f76)) (asub [true, true, true, false, true, false, false, true, false, false, true, true, false, false, false] an76) fr h k
noncomputable def zmV (fuel d : Nat) (n : Nat) (fr : Fr) (h : AH) : Option (zaj × Fr × AH) := ziV (zns fuel d) (some [0, 4, 5, 6, 7]) n fr h (kOut [0, 4, 5, 6, 7])
noncomputable def zde : Nat → Nat → Nat → Fr → AH → Option (zaj × Fr × AH) := hide zmV
theorem ziH : zde = zmV := zae _
noncomputable def zm6 (fuel d : Nat) (n : Nat) : zaj → Fr → AH → Option (zaj × Fr × AH) := (zbG 2 (kSeq (Cf fuel zb8) false (zak (C fuel) false d) (zak (C fuel) true d) 66 (csub [true, true, true, false, true, false, false, true, false, false, true, true, true] (zbV Go.Proofs.Tryd.f76)) (asub [true, true, true, false, true, false, false, true, false, false, true, true, true] an76) (zbG 1 (kSeq (Cf fuel zb8) false (zak (C fuel) false d) (zak (C fuel) true d) 66 (csub [true, true, true, false, true, false, false, true, true] (zbV Go.Proofs.Tryd.f76)) (asub [true, true, true, false, true, false, false, true, true] an76) (zo9 (znt fuel d) (some [0, 4, 5, 6]) n (kOut [4, 5]))))))
noncomputable def zgx : Nat → Nat → Nat → zaj → Fr → AH → Option (zaj × Fr × AH) := hide zm6
theorem zlQ : zgx = zm6 := zae _
noncomputable def zm5 (fuel d : Nat) (n : Nat) : zaj → Fr → AH → Option (zaj × Fr × AH) := (kSeq (Cf fuel zb8) false (zak (C fuel) false d) (zak (C fuel) true d) 66 (csub [true, true, true, false, true, false, false, true, false, false, true, true, false, false, false, false, true] (zbV Go.Proofs.Tryd.f76)) (asub [true, true, true, false, true, false, false, true, false, false, true, true, false, false, false, false, true] an76) (kSeq (Cf fuel zb8) false (zak (C fuel) false d) (zak (C fuel) true d) 66 (csub [true, true, true, false, true, false, false, true, false, false, true, true, false, false, false, true] (zbV Go.Proofs.Tryd.f76)) (asub [true, true, true, false, true, false, false, true, false, false, true, true, false, false, false, true] an76) (zo9 (zns fuel d) (some [0, 4, 5, 6, 7]) n (kOut [0, 4, 5, 6, 7]))))
noncomputable def zgw : Nat → Nat → Nat → zaj → Fr → AH → Option (zaj × Fr × AH) := hide zm5
theorem zlP : zgw = zm5 := zae _
theorem zr6 (fuel d : Nat) (x0 : Sl) (h : AH) :
   brun fuel (d + 1) zb8 [(AV.slice x0)] h =
 (zcG fuel d fuel [(0, .slice x0), (4, .slice Sl.nil), (5, .bool true), (6, .int .i64 0)] h).bind fun p1 =>
   zgy fuel d p1.1 p1.2.1 p1.2.2 := by
 generalize hh : brun = R
 rw [zcI] at hh
 subst hh
 generalize hh : zcG = R
 rw [ziI] at hh
 subst hh
 generalize hh : zgy = R
 rw [zlR] at hh
 subst hh
 kernel_rfl
theorem zpt (fuel d : Nat) (n : Nat) (x0 : Sl) (x4 : Sl) (x5 : Bool) (x6 : Int) (h : AH) :
   zcG fuel d (n + 1) [(0, .slice x0), (4, .slice x4), (5, .bool x5), (6, .int .i64 x6)] h =
 (bif (decide (x6 < (x0.len : Int))) then ((AH.addr h 1 x0 x6).bind fun p1 =>
   (AH.cell h p1).bind fun u2 =>
   (AV.int? .i64 u2).bind fun n3 =>
   (run fuel d zdM [(AV.slice x4), .int .i64 n3] h).bind fun r4 =>
   (AV.bool? r4.1).bind fun b5 =>
   (bif b5 then (zcG fuel d n [(0, .slice x0), (4, .slice x4), (5, .bool x5), (6, (AV.int .i64 (IntKind.wrap .i64 (x6 + (1 : Int)))))] r4.2) else ((zde fuel d fuel [(0, .slice x0), (4, .slice x4), (5, .bool x5), (6, .int .i64 x6), (7, .int .i64 0)] r4.2).bind fun p6 =>
   zgx fuel d n p6.1 p6.2.1 p6.2.2))) else (some ((.exit 0), [(4, .slice x4), (5, .bool x5)], h))) := by
 generalize hh : run = R
 rw [zaD] at hh
 subst hh
 generalize hh : zcG = R
 rw [ziI] at hh
 subst hh
 generalize hh : zde = R
 rw [ziH] at hh
 subst hh
 generalize hh : zgx = R
 rw [zlQ] at hh
 subst hh
 kernel_rfl
theorem zpy (fuel d : Nat) (x4 : Sl) (x5 : Bool) (h : AH) :
   zgy fuel d (.exit 0) [(4, .slice x4), (5, .bool x5)] h =
 some ((AV.tup [(AV.slice x4), .bool x5]), h) := by
 generalize hh : zgy = R
 rw [zlR] at hh
 subst hh
 kernel_rfl
theorem zps (fuel d : Nat) (n : Nat) (x0 : Sl) (x4 : Sl) (x5 : Bool) (x6 : Int) (x7 : Int) (h : AH) :
   zde fuel d (n + 1) [(0, .slice x0), (4, .slice x4), (5, .bool x5), (6, .int .i64 x6), (7, .int .i64 x7)] h =
 ((bif (decide (x7 < (x4.len : Int))) then ((AH.addr h 1 x4 x7).bind fun p1 =>
   (AH.cell h p1).bind fun u2 =>
   (AV.int? .i64 u2).bind fun n3 =>
   (AH.addr h 1 x0 x6).bind fun p4 =>
   (AH.cell h p4).bind fun u5 =>
   (AV.int? .i64 u5).bind fun n6 =>
   (run fuel d zkN [(AV.int .i64 n3), .int .i64 n6] h).bind fun r7 =>
   (AV.bool? r7.1).bind fun b8 =>
   some (.normal, [(0, .slice x0), (4, .slice x4), (5, .bool x5), (6, .int .i64 x6), (7, .int .i64 x7), (35, .bool b8)], r7.2)) else (some (.normal, [(0, .slice x0), (4, .slice x4), (5, .bool x5), (6, .int .i64 x6), (7, .int .i64 x7), (35, .bool false)], h)))).bind fun p9 =>
   zgw fuel d n p9.1 p9.2.1 p9.2.2 := by
 generalize hh : run = R
 rw [zaD] at hh
 subst hh
 generalize hh : zde = R
 rw [ziH] at hh
 subst hh
 generalize hh : zgw = R
 rw [zlP] at hh
 subst hh
 kernel_rfl
theorem zpx (fuel d : Nat) (n : Nat) (x0 : Sl) (x4 : Sl) (x5 : Bool) (x6 : Int) (x7 : Int) (h : AH) :
   zgx fuel d n (.exit 2) [(0, .slice x0), (4, .slice x4), (5, .bool x5), (6, .int .i64 x6), (7, .int .i64 x7)] h =
 ((bif (x5 == true) then ((AH.addr h 1 x0 x6).bind fun p1 =>
   (AH.cell h p1).bind fun u2 =>
   (AV.int? .i64 u2).bind fun n3 =>
   (run fuel d zdM [(AV.slice x4), (AV.int .i64 (IntKind.wrap .i64 (0 - n3)))] h).bind fun r4 =>
   (AV.bool? r4.1).bind fun b5 =>
   some ((AV.bool (!b5)), r4.2)) else (some ((AV.bool false), h)) : Option (AV × AH))).bind fun r6 =>
   (AV.bool? r6.1).bind fun b7 =>
   (aHi (some (AV.int .i64 x7)) (Sl.len x4)).bind fun hi8 =>
   (aLo (none : Option AV) hi8).bind fun lo9 =>
   (aMx (none : Option AV) hi8).bind fun cl10 =>
   (bif (AH.hasSz r6.2 1 x4) then ((run fuel d zeS [(AV.slice (Sl.cut x4 1 lo9 hi8 cl10))] r6.2).bind fun r11 =>
   (AV.slice? r11.1).bind fun s12 =>
   (AH.addr r11.2 1 x0 x6).bind fun p13 =>
   same ((AH.addr r6.2 1 x0 x6).bind fun p24 =>
   some ((AV.ptr p24), r6.2)) ((AV.ptr p13), r6.2) (
   (AH.cell r11.2 p13).bind fun u14 =>
   (AV.int? .i64 u14).bind fun n15 =>
   same ((AH.cell r6.2 p13).bind fun u22 =>
   (AV.int? .i64 u22).bind fun n23 =>
   some ((AV.int .i64 n23), r6.2)) ((AV.int .i64 n15), r6.2) (
   (AH.append r11.2 false 1 8 s12 1 [(AV.int .i64 n15)]).bind fun a16 =>
   (aHi (none : Option AV) (Sl.len x4)).bind fun hi17 =>
   (aLo (some (AV.int .i64 x7)) hi17).bind fun lo18 =>
   (aMx (none : Option AV) hi17).bind fun cl19 =>
   (bif (AH.hasSz a16.2 1 x4) then ((AH.sliceCells a16.2 1 (Sl.cut x4 1 lo18 hi17 cl19)).bind fun xs20 =>
   (AH.append a16.2 false 1 8 a16.1 (Sl.cut x4 1 lo18 hi17 cl19).len xs20).bind fun a21 =>
   zcG fuel d n [(0, .slice x0), (4, .slice a21.1), (5, .bool b7), (6, (AV.int .i64 (IntKind.wrap .i64 (x6 + (1 : Int)))))] a21.2) else (none))))) else (none)) := by
 generalize hh : run = R
 rw [zaD] at hh
 subst hh
 generalize hh : zcG = R
 rw [ziI] at hh
 subst hh
 generalize hh : zgx = R
 rw [zlQ] at hh
 subst hh
 kernel_rfl
theorem zmr (fuel d : Nat) (n : Nat) (x0 : Sl) (x4 : Sl) (x5 : Bool) (x6 : Int) (x7 : Int) (x35 : Bool) (h : AH) :
   zgw fuel d n .normal [(0, .slice x0), (4, .slice x4), (5, .bool x5), (6, .int .i64 x6), (7, .int .i64 x7), (35, .bool x35)] h =
 (bif x35 then (zde fuel d n [(0, .slice x0), (4, .slice x4), (5, .bool x5), (6, .int .i64 x6), (7, (AV.int .i64 (IntKind.wrap .i64 (x7 + (1 : Int)))))] h) else (some ((.exit 2), [(0, .slice x0), (4, .slice x4), (5, .bool x5), (6, .int .i64 x6), (7, .int .i64 x7)], h))) := by
 generalize hh : zde = R
 rw [ziH] at hh
 subst hh
 generalize hh : zgw = R
 rw [zlP] at hh
 subst hh
 kernel_rfl
theorem zp2 (fuel d : Nat) (x0 : List AV) (x1 : List AV) (h : AH) :
   brun fuel (d + 1) zjo [(AV.agg x0), .agg x1] h =
 (bif (List.all x0 AV.isCell) then ((bif (List.all x1 AV.isCell) then ((Pt.field 0 (Pt.mk ⟨AH.next h, 0, 0⟩ (List.length x0))).bind fun p1 =>
   (AH.cell (AH.push (AH.push h 1 x0) 1 x1) p1).bind fun u2 =>
   (AV.int? .i64 u2).bind fun n3 =>
   (Pt.field 0 (Pt.mk ⟨AH.next (AH.push h 1 x0), 0, 0⟩ (List.length x1))).bind fun p4 =>
   (AH.cell (AH.push (AH.push h 1 x0) 1 x1) p4).bind fun u5 =>
   (AV.int? .i64 u5).bind fun n6 =>
   ((bif ((decide (n3 = n6)) == true) then ((Pt.field 1 (Pt.mk ⟨AH.next h, 0, 0⟩ (List.length x0))).bind fun p7 =>
   (AH.cell (AH.push (AH.push h 1 x0) 1 x1) p7).bind fun u8 =>
   (AV.bool? u8).bind fun b9 =>
   (Pt.field 1 (Pt.mk ⟨AH.next (AH.push h 1 x0), 0, 0⟩ (List.length x1))).bind fun p10 =>
   (AH.cell (AH.push (AH.push h 1 x0) 1 x1) p10).bind fun u11 =>
   (AV.bool? u11).bind fun b12 =>
   some ((AV.bool (b9 == b12)), (AH.push (AH.push h 1 x0) 1 x1))) else (some ((AV.bool false), (AH.push (AH.push h 1 x0) 1 x1))) : Option (AV × AH))).bind fun r13 =>
   (AV.bool? r13.1).bind fun b14 =>
   ((bif (b14 == true) then ((Pt.field 2 (Pt.mk ⟨AH.next h, 0, 0⟩ (List.length x0))).bind fun p15 =>
   (AH.cell r13.2 p15).bind fun u16 =>
   (AV.int? .i64 u16).bind fun n17 =>
   (Pt.field 2 (Pt.mk ⟨AH.next (AH.push h 1 x0), 0, 0⟩ (List.length x1))).bind fun p18 =>
   (AH.cell r13.2 p18).bind fun u19 =>
   (AV.int? .i64 u19).bind fun n20 =>
   some ((AV.bool (decide (n17 = n20))), r13.2)) else (some ((AV.bool false), r13.2)) : Option (AV × AH))).bind fun r21 =>
   (AV.bool? r21.1).bind fun b22 =>
   some ((AV.bool b22), r21.2)) else (none))) else (none)) := by
 generalize hh : brun = R
 rw [zcI] at hh
 subst hh
 kernel_rfl
end Go.Proofs.YtdmbfmgebgdfnaaDoor
