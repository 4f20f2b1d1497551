/-
 What each function does: printed by program, checked by the kernel.
-/
import Derived.Test.YtdmbfmgebgdfnaaDoorE
namespace Go.Proofs.YtdmbfmgebgdfnaaDoor
set_option linter.unusedVariables false
set_option maxRecDepth 100000
theorem zmg (fuel d : Nat) (x0 : AV) (h : AH) :
   brun fuel (d + 1) zmi [x0] h =
 (zd0 .iface x0).bind fun b1 =>
   (bif (b1) then ((run fuel d zkM [] (AH.push h 1 [(AV.int .i64 0), .bool false, .int .i64 0])).bind fun r2 =>
   (AV.agg? r2.1).bind fun c3 =>
   (bif (!false && Nat.beq (List.length c3) 3 && List.all c3 AV.isCell) then ((AH.storeAt r2.2 c3 (Pt.mk ⟨AH.next h, 0, 0⟩ 3)).bind fun h4 =>
   ((AH.cellsAt h4 3 (Pt.mk ⟨AH.next h, 0, 0⟩ 3)).bind fun c5 =>
   some ((AV.agg c5)) : Option AV).map fun v => (v, h4)) else (none))) else ((zrP zrg x0).bind fun t6 =>
   (bif (!(Option.isSome t6)) then ((run fuel d zdu [x0] (AH.push h 1 [(AV.int .i64 0), .bool false, .int .i64 0])).bind fun r7 =>
   (AV.int? .i64 r7.1).bind fun n8 =>
   (run fuel d ziX [(AV.int .i64 n8)] r7.2).bind fun r9 =>
   (AV.agg? r9.1).bind fun c10 =>
   (bif (!false && Nat.beq (List.length c10) 3 && List.all c10 AV.isCell) then ((AH.storeAt r9.2 c10 (Pt.mk ⟨AH.next h, 0, 0⟩ 3)).bind fun h11 =>
   ((AH.cellsAt h11 3 (Pt.mk ⟨AH.next h, 0, 0⟩ 3)).bind fun c12 =>
   some ((AV.agg c12)) : Option AV).map fun v => (v, h11)) else (none))) else ((zd0 .ptr (AV.ptr (Option.getD t6 Pt.nil))).bind fun b13 =>
   ((bif ((b13) == false) then ((Pt.chk (Option.getD t6 Pt.nil)).bind fun p14 =>
   (Pt.field 1 p14).bind fun p15 =>
   (AH.cell (AH.push h 1 [(AV.int .i64 0), .bool false, .int .i64 0]) p15).bind fun u16 =>
   (zd0 .iface u16).bind fun b17 =>
   some ((AV.bool (b17)), (AH.push h 1 [(AV.int .i64 0), .bool false, .int .i64 0]))) else (some ((AV.bool true), (AH.push h 1 [(AV.int .i64 0), .bool false, .int .i64 0]))) : Option (AV × AH))).bind fun r18 =>
   (AV.bool? r18.1).bind fun b19 =>
   (bif b19 then ((run fuel d ziX [(AV.int .i64 (-1 : Int))] r18.2).bind fun r20 =>
   (AV.agg? r20.1).bind fun c21 =>
   (bif (!false && Nat.beq (List.length c21) 3 && List.all c21 AV.isCell) then ((AH.storeAt r20.2 c21 (Pt.mk ⟨AH.next h, 0, 0⟩ 3)).bind fun h22 =>
   ((AH.cellsAt h22 3 (Pt.mk ⟨AH.next h, 0, 0⟩ 3)).bind fun c23 =>
   some ((AV.agg c23)) : Option AV).map fun v => (v, h22)) else (none))) else ((Pt.chk (Option.getD t6 Pt.nil)).bind fun p24 =>
   (Pt.field 1 p24).bind fun p25 =>
   (AH.cell r18.2 p25).bind fun u26 =>
   (run fuel d zdu [u26] r18.2).bind fun r27 =>
   (AV.int? .i64 r27.1).bind fun n28 =>
   (Pt.chk (Option.getD t6 Pt.nil)).bind fun p29 =>
   (Pt.field 0 p29).bind fun p30 =>
   (AH.cell r27.2 p30).bind fun u31 =>
   (AV.int? .i64 u31).bind fun n32 =>
   same ((AH.cell r18.2 p30).bind fun u37 =>
   (AV.int? .i64 u37).bind fun n38 =>
   some ((AV.int .i64 n38), r18.2)) ((AV.int .i64 n32), r18.2) (
   (run fuel d zlm [(AV.int .i64 n28), .int .i64 n32] r27.2).bind fun r33 =>
   (AV.agg? r33.1).bind fun c34 =>
   (bif (!false && Nat.beq (List.length c34) 3 && List.all c34 AV.isCell) then ((AH.storeAt r33.2 c34 (Pt.mk ⟨AH.next h, 0, 0⟩ 3)).bind fun h35 =>
   ((AH.cellsAt h35 3 (Pt.mk ⟨AH.next h, 0, 0⟩ 3)).bind fun c36 =>
   some ((AV.agg c36)) : Option AV).map fun v => (v, h35)) else (none))))))))) := by
 generalize hh : run = R
 rw [zaD] at hh
 subst hh
 generalize hh : brun = R
 rw [zcI] at hh
 subst hh
 kernel_rfl
noncomputable def zl0 (fuel d : Nat) : Run := fun fr h k => zf8 (Cf fuel zbB) false (zak (C fuel) false d) (zak (C fuel) true d) 19 (csub [true, false, true, false, false] (zbV Go.Proofs.Tryd.f79)) (asub [true, false, true, false, false] an79) fr h k
noncomputable def zhx (fuel d : Nat) (n : Nat) (fr : Fr) (h : AH) : Option (zaj × Fr × AH) := ziV (zl0 fuel d) (some [0, 1, 7, 8]) n fr h (kOut [4])
noncomputable def zbk : Nat → Nat → Nat → Fr → AH → Option (zaj × Fr × AH) := hide zhx
theorem zgO : zbk = zhx := zae _
noncomputable def zhL (fuel d : Nat) : zaj → Fr → AH → Option (AV × AH) := (zbG 0 (kSeq (Cf fuel zbB) false (zak (C fuel) false d) (zak (C fuel) true d) 19 (csub [true, true] (zbV Go.Proofs.Tryd.f79)) (asub [true, true] an79) (kRet (Cf fuel zbB) Go.Proofs.Tryd.f79.results.toList)))
noncomputable def zaU : Nat → Nat → zaj → Fr → AH → Option (AV × AH) := hide zhL
theorem zel : zaU = zhL := zae _
theorem zne (fuel d : Nat) (x0 : Sl) (x1f : Nat) (x1c : List Pt) (h : AH) :
   brun fuel (d + 1) zbB [(AV.slice x0), .func x1f x1c] h =
 (zbk fuel d fuel [(0, .slice x0), (1, .func x1f x1c), (7, (AV.int .i64 (x0.len : Int))), (8, .int .i64 0)] h).bind fun p1 =>
   zaU fuel d p1.1 p1.2.1 p1.2.2 := by
 generalize hh : brun = R
 rw [zcI] at hh
 subst hh
 generalize hh : zbk = R
 rw [zgO] at hh
 subst hh
 generalize hh : zaU = R
 rw [zel] at hh
 subst hh
 kernel_rfl
theorem zkR (fuel d : Nat) (n : Nat) (x0 : Sl) (x1f : Nat) (x1c : List Pt) (x7 : Int) (x8 : Int) (h : AH) :
   zbk fuel d (n + 1) [(0, .slice x0), (1, .func x1f x1c), (7, .int .i64 x7), (8, .int .i64 x8)] h =
 (bif (decide (x8 < x7)) then ((AH.addr h 1 x0 x8).bind fun p1 =>
   (AH.cell h p1).bind fun u2 =>
   (AV.int? .i64 u2).bind fun n3 =>
   (run fuel d x1f ([(AV.int .i64 n3)] ++ List.map AV.ptr x1c) h).bind fun r4 =>
   (AV.bool? r4.1).bind fun b5 =>
   (bif b5 then (some (.ret, [(4, .int .i64 x8)], r4.2)) else (zbk fuel d n [(0, .slice x0), (1, .func x1f x1c), (7, .int .i64 x7), (8, (AV.int .i64 (IntKind.wrap .i64 (x8 + (1 : Int)))))] r4.2))) else (some ((.exit 0), [(4, AV.bot)], h))) := by
 generalize hh : run = R
 rw [zaD] at hh
 subst hh
 generalize hh : zbk = R
 rw [zgO] at hh
 subst hh
 kernel_rfl
theorem zkV (fuel d : Nat) (x4 : AV) (h : AH) :
   zaU fuel d (.exit 0) [(4, x4)] h =
 some ((AV.int .i64 (-1 : Int)), h) := by
 generalize hh : zaU = R
 rw [zel] at hh
 subst hh
 kernel_rfl
theorem zli (fuel d : Nat) (x4 : Int) (h : AH) :
   zaU fuel d .ret [(4, .int .i64 x4)] h =
 some ((AV.int .i64 x4), h) := by
 generalize hh : zaU = R
 rw [zel] at hh
 subst hh
 kernel_rfl
noncomputable def zcF (fuel d : Nat) : Run := fun fr h k => zf8 (Cf fuel zaq) false (zak (C fuel) false d) (zak (C fuel) true d) 148 (csub [true, true, false, false] (zbV Go.Proofs.Tryd.f80)) (asub [true, true, false, false] an80) fr h k
noncomputable def zhV (fuel d : Nat) (n : Nat) (fr : Fr) (h : AH) : Option (zaj × Fr × AH) := ziV (zcF fuel d) (some [0, 1, 2, 3, 4, 10, 11]) n fr h (kOut [])
noncomputable def zaC : Nat → Nat → Nat → Fr → AH → Option (zaj × Fr × AH) := hide zhV
theorem zeA : zaC = zhV := zae _
noncomputable def zh2 (fuel d : Nat) : zaj → Fr → AH → Option (AV × AH) := (zbG 0 (kRet (Cf fuel zaq) Go.Proofs.Tryd.f80.results.toList))
noncomputable def zcH : Nat → Nat → zaj → Fr → AH → Option (AV × AH) := hide zh2
theorem zg6 : zcH = zh2 := zae _
noncomputable def zh1 (fuel d : Nat) (n : Nat) : zaj → Fr → AH → Option (zaj × Fr × AH) := (kSeq (Cf fuel zaq) false (zak (C fuel) false d) (zak (C fuel) true d) 148 (csub [true, true, false, false, false, true, true, true, true] (zbV Go.Proofs.Tryd.f80)) (asub [true, true, false, false, false, true, true, true, true] an80) (zbG 1 (zo9 (zcF fuel d) (some [0, 1, 2, 3, 4, 10, 11]) n (kOut []))))
noncomputable def zb1 : Nat → Nat → Nat → zaj → Fr → AH → Option (zaj × Fr × AH) := hide zh1
theorem zg5 : zb1 = zh1 := zae _
noncomputable def zh0 (fuel d : Nat) (n : Nat) : zaj → Fr → AH → Option (zaj × Fr × AH) := (kSeq (Cf fuel zaq) false (zak (C fuel) false d) (zak (C fuel) true d) 148 (csub [true, true, false, false, false, true, true, true, true, true, true] (zbV Go.Proofs.Tryd.f80)) (asub [true, true, false, false, false, true, true, true, true, true, true] an80) (zbG 1 (zo9 (zcF fuel d) (some [0, 1, 2, 3, 4, 10, 11]) n (kOut []))))
noncomputable def zb0 : Nat → Nat → Nat → zaj → Fr → AH → Option (zaj × Fr × AH) := hide zh0
theorem zg4 : zb0 = zh0 := zae _
noncomputable def zhZ (fuel d : Nat) (n : Nat) : zaj → Fr → AH → Option (zaj × Fr × AH) := (kSeq (Cf fuel zaq) false (zak (C fuel) false d) (zak (C fuel) true d) 148 (csub [true, true, false, false, false, true, true, true, true, true, true, true] (zbV Go.Proofs.Tryd.f80)) (asub [true, true, false, false, false, true, true, true, true, true, true, true] an80) (zbG 1 (zo9 (zcF fuel d) (some [0, 1, 2, 3, 4, 10, 11]) n (kOut []))))
noncomputable def za3 : Nat → Nat → Nat → zaj → Fr → AH → Option (zaj × Fr × AH) := hide zhZ
theorem zeC : za3 = zhZ := zae _
noncomputable def zhY (fuel d : Nat) (n : Nat) : zaj → Fr → AH → Option (zaj × Fr × AH) := (kSeq (Cf fuel zaq) false (zak (C fuel) false d) (zak (C fuel) true d) 148 (csub [true, true, false, false, false, true, true, true, true, true, true, true, false, true] (zbV Go.Proofs.Tryd.f80)) (asub [true, true, false, false, false, true, true, true, true, true, true, true, false, true] an80) (kSeq (Cf fuel zaq) false (zak (C fuel) false d) (zak (C fuel) true d) 148 (csub [true, true, false, false, false, true, true, true, true, true, true, true, true] (zbV Go.Proofs.Tryd.f80)) (asub [true, true, false, false, false, true, true, true, true, true, true, true, true] an80) (zbG 1 (zo9 (zcF fuel d) (some [0, 1, 2, 3, 4, 10, 11]) n (kOut [])))))
noncomputable def zbZ : Nat → Nat → Nat → zaj → Fr → AH → Option (zaj × Fr × AH) := hide zhY
theorem zg3 : zbZ = zhY := zae _
theorem zem (fuel d : Nat) (x0 : Sl) (x1 : Int) (x2 : Int) (x3 : Int) (x4f : Nat) (x4c : List Pt) (h : AH) :
   run fuel (d + 1) zaq [(AV.slice x0), .int .i64 x1, .int .i64 x2, .int .i64 x3, .func x4f x4c] h =
 (zaC fuel d fuel [(0, .slice x0), (1, .int .i64 x1), (2, .int .i64 x2), (3, .int .i64 x3), (4, .func x4f x4c), (10, .bool true), (11, .bool true)] h).bind fun p1 =>
   zcH fuel d p1.1 p1.2.1 p1.2.2 := by
 generalize hh : run = R
 rw [zaD] at hh
 subst hh
 generalize hh : zaC = R
 rw [zeA] at hh
 subst hh
 generalize hh : zcH = R
 rw [zg6] at hh
 subst hh
 kernel_rfl
theorem zgU (fuel d : Nat) (n : Nat) (x0 : Sl) (x1 : Int) (x2 : Int) (x3 : Int) (x4f : Nat) (x4c : List Pt) (x10 : Bool) (x11 : Bool) (h : AH) :
   zaC fuel d (n + 1) [(0, .slice x0), (1, .int .i64 x1), (2, .int .i64 x2), (3, .int .i64 x3), (4, .func x4f x4c), (10, .bool x10), (11, .bool x11)] h =
 (bif (decide ((IntKind.wrap .i64 (x2 - x1)) ≤ (12 : Int))) then ((run fuel d zat [(AV.slice x0), .int .i64 x1, .int .i64 x2, .func x4f x4c] h).bind fun r1 =>
   some (.ret, [], r1.2)) else ((bif (decide (x3 = (0 : Int))) then ((run fuel d zbg [(AV.slice x0), .int .i64 x1, .int .i64 x2, .func x4f x4c] h).bind fun r2 =>
   some (.ret, [], r2.2)) else (((bif (!x10) then ((run fuel d zaW [(AV.slice x0), .int .i64 x1, .int .i64 x2, .func x4f x4c] h).bind fun r3 =>
   some (.normal, [(0, .slice x0), (1, .int .i64 x1), (2, .int .i64 x2), (3, (AV.int .i64 (IntKind.wrap .i64 (x3 - (1 : Int))))), (4, .func x4f x4c), (10, .bool x10), (11, .bool x11), (12, (AV.int .i64 (IntKind.wrap .i64 (x2 - x1))))], r3.2)) else (some (.normal, [(0, .slice x0), (1, .int .i64 x1), (2, .int .i64 x2), (3, .int .i64 x3), (4, .func x4f x4c), (10, .bool x10), (11, .bool x11), (12, (AV.int .i64 (IntKind.wrap .i64 (x2 - x1))))], h)))).bind fun p4 =>
   zb1 fuel d n p4.1 p4.2.1 p4.2.2)))) := by
 generalize hh : run = R
 rw [zaD] at hh
 subst hh
 generalize hh : zaC = R
 rw [zeA] at hh
 subst hh
 generalize hh : zb1 = R
 rw [zg5] at hh
 subst hh
 kernel_rfl
theorem zdf (fuel d : Nat)  (h : AH) :
   zcH fuel d .ret [] h =
 some ((AV.tup []), h) := by
 generalize hh : zcH = R
 rw [zg6] at hh
 subst hh
 kernel_rfl
theorem zlI (fuel d : Nat) (n : Nat) (x0 : Sl) (x1 : Int) (x2 : Int) (x3 : Int) (x4f : Nat) (x4c : List Pt) (x10 : Bool) (x11 : Bool) (x12 : Int) (h : AH) :
   zb1 fuel d n .normal [(0, .slice x0), (1, .int .i64 x1), (2, .int .i64 x2), (3, .int .i64 x3), (4, .func x4f x4c), (10, .bool x10), (11, .bool x11), (12, .int .i64 x12)] h =
 (run fuel d zbI [(AV.slice x0), .int .i64 x1, .int .i64 x2, .func x4f x4c] h).bind fun r1 =>
   (bif AV.isTup 2 r1.1 then ((AV.comp 0 r1.1).bind fun u2 =>
   (AV.int? .i64 u2).bind fun n3 =>
   (AV.comp 1 r1.1).bind fun u4 =>
   (AV.int? .i64 u4).bind fun n5 =>
   ((bif (decide (n5 = (2 : Int))) then ((run fuel d zca [(AV.slice x0), .int .i64 x1, .int .i64 x2, .func x4f x4c] r1.2).bind fun r6 =>
   some (.normal, [(0, .slice x0), (1, .int .i64 x1), (2, .int .i64 x2), (3, .int .i64 x3), (4, .func x4f x4c), (10, .bool x10), (11, .bool x11), (12, .int .i64 x12), (13, (AV.int .i64 (IntKind.wrap .i64 ((IntKind.wrap .i64 (x2 - (1 : Int))) - (IntKind.wrap .i64 (n3 - x1)))))), (14, .int .i64 1)], r6.2)) else (some (.normal, [(0, .slice x0), (1, .int .i64 x1), (2, .int .i64 x2), (3, .int .i64 x3), (4, .func x4f x4c), (10, .bool x10), (11, .bool x11), (12, .int .i64 x12), (13, .int .i64 n3), (14, .int .i64 n5)], r1.2)))).bind fun p7 =>
   zb0 fuel d n p7.1 p7.2.1 p7.2.2) else none) := by
 generalize hh : run = R
 rw [zaD] at hh
 subst hh
 generalize hh : zb1 = R
 rw [zg5] at hh
 subst hh
 generalize hh : zb0 = R
 rw [zg4] at hh
 subst hh
 kernel_rfl
theorem zlH (fuel d : Nat) (n : Nat) (x0 : Sl) (x1 : Int) (x2 : Int) (x3 : Int) (x4f : Nat) (x4c : List Pt) (x10 : Bool) (x11 : Bool) (x12 : Int) (x13 : Int) (x14 : Int) (h : AH) :
   zb0 fuel d n .normal [(0, .slice x0), (1, .int .i64 x1), (2, .int .i64 x2), (3, .int .i64 x3), (4, .func x4f x4c), (10, .bool x10), (11, .bool x11), (12, .int .i64 x12), (13, .int .i64 x13), (14, .int .i64 x14)] h =
 ((bif (bif (bif x10 then x11 else false) then (decide (x14 = (1 : Int))) else false) then ((run fuel d zab [(AV.slice x0), .int .i64 x1, .int .i64 x2, .func x4f x4c] h).bind fun r1 =>
   (AV.bool? r1.1).bind fun b2 =>
   (bif b2 then (some (.ret, [(0, .slice x0), (1, .int .i64 x1), (2, .int .i64 x2), (3, .int .i64 x3), (4, .func x4f x4c), (10, .bool x10), (11, .bool x11), (12, .int .i64 x12), (13, .int .i64 x13)], r1.2)) else (some (.normal, [(0, .slice x0), (1, .int .i64 x1), (2, .int .i64 x2), (3, .int .i64 x3), (4, .func x4f x4c), (10, .bool x10), (11, .bool x11), (12, .int .i64 x12), (13, .int .i64 x13)], r1.2)))) else (some (.normal, [(0, .slice x0), (1, .int .i64 x1), (2, .int .i64 x2), (3, .int .i64 x3), (4, .func x4f x4c), (10, .bool x10), (11, .bool x11), (12, .int .i64 x12), (13, .int .i64 x13)], h)))).bind fun p3 =>
   za3 fuel d n p3.1 p3.2.1 p3.2.2 := by
 generalize hh : run = R
 rw [zaD] at hh
 subst hh
 generalize hh : zb0 = R
 rw [zg4] at hh
 subst hh
 generalize hh : za3 = R
 rw [zeC] at hh
 subst hh
 kernel_rfl
theorem zlG (fuel d : Nat) (n : Nat) (x0 : Sl) (x1 : Int) (x2 : Int) (x3 : Int) (x4f : Nat) (x4c : List Pt) (x10 : Bool) (x11 : Bool) (x12 : Int) (x13 : Int) (h : AH) :
   za3 fuel d n .normal [(0, .slice x0), (1, .int .i64 x1), (2, .int .i64 x2), (3, .int .i64 x3), (4, .func x4f x4c), (10, .bool x10), (11, .bool x11), (12, .int .i64 x12), (13, .int .i64 x13)] h =
 ((bif (decide ((0 : Int) < x1)) then ((AH.addr h 1 x0 (IntKind.wrap .i64 (x1 - (1 : Int)))).bind fun p1 =>
   (AH.cell h p1).bind fun u2 =>
   (AV.int? .i64 u2).bind fun n3 =>
   (AH.addr h 1 x0 x13).bind fun p4 =>
   (AH.cell h p4).bind fun u5 =>
   (AV.int? .i64 u5).bind fun n6 =>
   (run fuel d x4f ([(AV.int .i64 n3), .int .i64 n6] ++ List.map AV.ptr x4c) h).bind fun r7 =>
   (AV.int? .i64 r7.1).bind fun n8 =>
   some (.normal, [(0, .slice x0), (1, .int .i64 x1), (2, .int .i64 x2), (3, .int .i64 x3), (4, .func x4f x4c), (10, .bool x10), (11, .bool x11), (12, .int .i64 x12), (13, .int .i64 x13), (97, (AV.bool (!(decide (n8 < (0 : Int))))))], r7.2)) else (some (.normal, [(0, .slice x0), (1, .int .i64 x1), (2, .int .i64 x2), (3, .int .i64 x3), (4, .func x4f x4c), (10, .bool x10), (11, .bool x11), (12, .int .i64 x12), (13, .int .i64 x13), (97, .bool false)], h)))).bind fun p9 =>
   zbZ fuel d n p9.1 p9.2.1 p9.2.2 := by
 generalize hh : run = R
 rw [zaD] at hh
 subst hh
 generalize hh : za3 = R
 rw [zeC] at hh
 subst hh
 generalize hh : zbZ = R
 rw [zg3] at hh
 subst hh
 kernel_rfl
theorem zlF (fuel d : Nat) (n : Nat) (x0 : AV) (x1 : AV) (x2 : AV) (x3 : AV) (x4 : AV) (x10 : AV) (x11 : AV) (x12 : AV) (x13 : AV) (h : AH) :
   za3 fuel d n .ret [(0, x0), (1, x1), (2, x2), (3, x3), (4, x4), (10, x10), (11, x11), (12, x12), (13, x13)] h =
 some (.ret, [], h) := by
 generalize hh : za3 = R
 rw [zeC] at hh
 subst hh
 kernel_rfl
theorem zhI (fuel d : Nat) (n : Nat) (x0 : Sl) (x1 : Int) (x2 : Int) (x3 : Int) (x4f : Nat) (x4c : List Pt) (x10 : Bool) (x11 : Bool) (x12 : Int) (x13 : Int) (x97 : Bool) (h : AH) :
   zbZ fuel d n .normal [(0, .slice x0), (1, .int .i64 x1), (2, .int .i64 x2), (3, .int .i64 x3), (4, .func x4f x4c), (10, .bool x10), (11, .bool x11), (12, .int .i64 x12), (13, .int .i64 x13), (97, .bool x97)] h =
 (bif x97 then ((run fuel d zag [(AV.slice x0), .int .i64 x1, .int .i64 x2, .int .i64 x13, .func x4f x4c] h).bind fun r1 =>
   (AV.int? .i64 r1.1).bind fun n2 =>
   zaC fuel d n [(0, .slice x0), (1, .int .i64 n2), (2, .int .i64 x2), (3, .int .i64 x3), (4, .func x4f x4c), (10, .bool x10), (11, .bool x11)] r1.2) else ((run fuel d zaa [(AV.slice x0), .int .i64 x1, .int .i64 x2, .int .i64 x13, .func x4f x4c] h).bind fun r3 =>
   (bif AV.isTup 2 r3.1 then ((AV.comp 0 r3.1).bind fun u4 =>
   (AV.int? .i64 u4).bind fun n5 =>
   (AV.comp 1 r3.1).bind fun u6 =>
   (AV.bool? u6).bind fun b7 =>
   (bif (decide ((IntKind.wrap .i64 (n5 - x1)) < (IntKind.wrap .i64 (x2 - n5)))) then ((run fuel d zaq [(AV.slice x0), .int .i64 x1, .int .i64 n5, .int .i64 x3, .func x4f x4c] r3.2).bind fun r8 =>
   zaC fuel d n [(0, .slice x0), (1, (AV.int .i64 (IntKind.wrap .i64 (n5 + (1 : Int))))), (2, .int .i64 x2), (3, .int .i64 x3), (4, .func x4f x4c), (10, (AV.bool (decide ((IntKind.wrap .i64 (Int.tdiv x12 (8 : Int))) ≤ (IntKind.wrap .i64 (n5 - x1)))))), (11, .bool b7)] r8.2) else ((run fuel d zaq [(AV.slice x0), (AV.int .i64 (IntKind.wrap .i64 (n5 + (1 : Int)))), .int .i64 x2, .int .i64 x3, .func x4f x4c] r3.2).bind fun r9 =>
   zaC fuel d n [(0, .slice x0), (1, .int .i64 x1), (2, .int .i64 n5), (3, .int .i64 x3), (4, .func x4f x4c), (10, (AV.bool (decide ((IntKind.wrap .i64 (Int.tdiv x12 (8 : Int))) ≤ (IntKind.wrap .i64 (x2 - n5)))))), (11, .bool b7)] r9.2))) else none))) := by
 generalize hh : run = R
 rw [zaD] at hh
 subst hh
 generalize hh : zaC = R
 rw [zeA] at hh
 subst hh
 generalize hh : zbZ = R
 rw [zg3] at hh
 subst hh
 kernel_rfl
theorem zyz (fuel d : Nat) (x0 : Int) (h : AH) :
   brun fuel (d + 1) zrk [(AV.int .u64 x0)] h =
 (run fuel d zhU [(AV.int .u64 x0)] h).bind fun r1 =>
   (AV.int? .i64 r1.1).bind fun n2 =>
   some ((AV.int .i64 n2), r1.2) := by
 generalize hh : run = R
 rw [zaD] at hh
 subst hh
 generalize hh : brun = R
 rw [zcI] at hh
 subst hh
 kernel_rfl
noncomputable def zt8 (fuel d : Nat) : Run := fun fr h k => zf8 (Cf fuel zlp) false (zak (C fuel) false d) (zak (C fuel) true d) 18 (csub [true, true, false, true, false, false] (zbV Go.Proofs.Tryd.f82)) (asub [true, true, false, true, false, false] an82) fr h k
noncomputable def zqb (fuel d : Nat) (n : Nat) (fr : Fr) (h : AH) : Option (zaj × Fr × AH) := ziV (zt8 fuel d) (some [3, 6, 7, 8]) n fr h (kOut [2, 3])
noncomputable def zi2 : Nat → Nat → Nat → Fr → AH → Option (zaj × Fr × AH) := hide zqb
theorem zoM : zi2 = zqb := zae _
noncomputable def zqc (fuel d : Nat) : zaj → Fr → AH → Option (AV × AH) := (zbG 0 (kSeq (Cf fuel zlp) false (zak (C fuel) false d) (zak (C fuel) true d) 18 (csub [true, true, true] (zbV Go.Proofs.Tryd.f82)) (asub [true, true, true] an82) (kRet (Cf fuel zlp) Go.Proofs.Tryd.f82.results.toList)))
noncomputable def zhS : Nat → Nat → zaj → Fr → AH → Option (AV × AH) := hide zqc
theorem zme : zhS = zqc := zae _
theorem zvK (fuel d : Nat) (x0 : Sl) (h : AH) :
   brun fuel (d + 1) zlp [(AV.slice x0)] h =
 (zi2 fuel d fuel [(3, .int .i64 0), (6, .slice x0), (7, (AV.int .i64 (x0.len : Int))), (8, .int .i64 0)] h).bind fun p1 =>
   zhS fuel d p1.1 p1.2.1 p1.2.2 := by
 generalize hh : brun = R
 rw [zcI] at hh
 subst hh
 generalize hh : zi2 = R
 rw [zoM] at hh
 subst hh
 generalize hh : zhS = R
 rw [zme] at hh
 subst hh
 kernel_rfl
theorem zl7 (fuel d : Nat) (n : Nat) (x3 : Int) (x6 : Sl) (x7 : Int) (x8 : Int) (h : AH) :
   zi2 fuel d (n + 1) [(3, .int .i64 x3), (6, .slice x6), (7, .int .i64 x7), (8, .int .i64 x8)] h =
 (bif (decide (x8 < x7)) then ((AH.addr h 1 x6 x8).bind fun p1 =>
   (AH.cell h p1).bind fun u2 =>
   (AV.int? .i64 u2).bind fun n3 =>
   (bif (!decide (n3 = x3)) then (some (.ret, [(2, .int .i64 n3), (3, .int .i64 x3)], h)) else (zi2 fuel d n [(3, .int .i64 x3), (6, .slice x6), (7, .int .i64 x7), (8, (AV.int .i64 (IntKind.wrap .i64 (x8 + (1 : Int)))))] h))) else (some ((.exit 0), [(2, AV.bot), (3, .int .i64 x3)], h))) := by
 generalize hh : zi2 = R
 rw [zoM] at hh
 subst hh
 kernel_rfl
theorem zr4 (fuel d : Nat) (x2 : AV) (x3 : Int) (h : AH) :
   zhS fuel d (.exit 0) [(2, x2), (3, .int .i64 x3)] h =
 some ((AV.int .i64 x3), h) := by
 generalize hh : zhS = R
 rw [zme] at hh
 subst hh
 kernel_rfl
theorem zpG (fuel d : Nat) (x2 : Int) (x3 : AV) (h : AH) :
   zhS fuel d .ret [(2, .int .i64 x2), (3, x3)] h =
 some ((AV.int .i64 x2), h) := by
 generalize hh : zhS = R
 rw [zme] at hh
 subst hh
 kernel_rfl
theorem zr8 (fuel d : Nat) (x0 : Int) (x1 : Int) (h : AH) :
   brun fuel (d + 1) zjO [(AV.int .i64 x0), .int .i64 x1] h =
 (run fuel d zlu [(AV.int .i64 x0)] h).bind fun r1 =>
   (AV.bool? r1.1).bind fun b2 =>
   (run fuel d zlu [(AV.int .i64 x1)] r1.2).bind fun r3 =>
   (AV.bool? r3.1).bind fun b4 =>
   (bif b2 then ((bif b4 then (some ((AV.int .i64 0), r3.2)) else (some ((AV.int .i64 (-1 : Int)), r3.2)))) else ((bif b4 then (some ((AV.int .i64 1), r3.2)) else ((bif (decide (x0 < x1)) then (some ((AV.int .i64 (-1 : Int)), r3.2)) else ((bif (decide (x1 < x0)) then (some ((AV.int .i64 1), r3.2)) else (some ((AV.int .i64 0), r3.2))))))))) := by
 generalize hh : run = R
 rw [zaD] at hh
 subst hh
 generalize hh : brun = R
 rw [zcI] at hh
 subst hh
 kernel_rfl
theorem ztr (fuel d : Nat) (x0 : Int) (h : AH) :
   brun fuel (d + 1) zjK [(AV.int .i64 x0)] h =
 (bif (decide (x0 < (0 : Int))) then (some ((AV.int .i64 (IntKind.wrap .i64 (0 - x0))), h)) else (some ((AV.int .i64 x0), h))) := by
 generalize hh : brun = R
 rw [zcI] at hh
 subst hh
 kernel_rfl
theorem zq7 (fuel d : Nat) (x0 : Int) (x1 : Int) (h : AH) :
   brun fuel (d + 1) zkN [(AV.int .i64 x0), .int .i64 x1] h =
 (run fuel d zjK [(AV.int .i64 x0)] h).bind fun r1 =>
   (AV.int? .i64 r1.1).bind fun n2 =>
   (run fuel d zjK [(AV.int .i64 x1)] r1.2).bind fun r3 =>
   (AV.int? .i64 r3.1).bind fun n4 =>
   ((bif ((decide (n2 < n4)) == false) then (some ((AV.bool (bif (decide (n2 = n4)) then (decide (x0 < x1)) else false)), r3.2)) else (some ((AV.bool true), r3.2)) : Option (AV × AH))).bind fun r5 =>
   (AV.bool? r5.1).bind fun b6 =>
   some ((AV.bool b6), r5.2) := by
 generalize hh : run = R
 rw [zaD] at hh
 subst hh
 generalize hh : brun = R
 rw [zcI] at hh
 subst hh
 kernel_rfl
theorem zs4 (fuel d : Nat)  (h : AH) :
   brun fuel (d + 1) zkM [] h =
 (AH.storeAt (AH.push h 1 [(AV.int .i64 0), .bool false, .int .i64 0]) [(AV.int .i64 0), .bool false, .int .i64 0] (Pt.mk ⟨AH.next h, 0, 0⟩ 3)).bind fun h1 =>
   ((AH.cellsAt h1 3 (Pt.mk ⟨AH.next h, 0, 0⟩ 3)).bind fun c2 =>
   some ((AV.agg c2)) : Option AV).map fun v => (v, h1) := by
 generalize hh : brun = R
 rw [zcI] at hh
 subst hh
 kernel_rfl
noncomputable def zpj (fuel d : Nat) : Run := fun fr h k => zf8 (Cf fuel zdu) false (zak (C fuel) false d) (zak (C fuel) true d) 20 (csub [true, true, false, true, false, false] (zbV Go.Proofs.Tryd.f87)) (asub [true, true, false, true, false, false] an87) fr h k
noncomputable def zk0 (fuel d : Nat) (n : Nat) (fr : Fr) (h : AH) : Option (zaj × Fr × AH) := ziV (zpj fuel d) (some [0, 3, 4]) n fr h (kOut [2])
noncomputable def zcK : Nat → Nat → Nat → Fr → AH → Option (zaj × Fr × AH) := hide zk0
theorem zjW : zcK = zk0 := zae _
noncomputable def zk8 (fuel d : Nat) : zaj → Fr → AH → Option (AV × AH) := (zbG 0 (kSeq (Cf fuel zdu) false (zak (C fuel) false d) (zak (C fuel) true d) 20 (csub [true, true, true] (zbV Go.Proofs.Tryd.f87)) (asub [true, true, true] an87) (kRet (Cf fuel zdu) Go.Proofs.Tryd.f87.results.toList)))
noncomputable def zdx : Nat → Nat → zaj → Fr → AH → Option (AV × AH) := hide zk8
theorem zj0 : zdx = zk8 := zae _
theorem zqx (fuel d : Nat) (x0 : AV) (h : AH) :
   brun fuel (d + 1) zdu [x0] h =
 (run fuel d zjn [] h).bind fun r1 =>
   (AV.slice? r1.1).bind fun s2 =>
   (zcK fuel d fuel [(0, x0), (3, .slice s2), (4, .int .i64 0)] r1.2).bind fun p3 =>
   zdx fuel d p3.1 p3.2.1 p3.2.2 := by
 generalize hh : run = R
 rw [zaD] at hh
 subst hh
 generalize hh : brun = R
 rw [zcI] at hh
 subst hh
 generalize hh : zcK = R
 rw [zjW] at hh
 subst hh
 generalize hh : zdx = R
 rw [zj0] at hh
 subst hh
 kernel_rfl
theorem zn6 (fuel d : Nat) (n : Nat) (x0 : AV) (x3 : Sl) (x4 : Int) (h : AH) :
   zcK fuel d (n + 1) [(0, x0), (3, .slice x3), (4, .int .i64 x4)] h =
 (bif (decide (x4 < (x3.len : Int))) then ((AH.addr h 1 x3 x4).bind fun p1 =>
   (AH.cell h p1).bind fun u2 =>
   (run fuel d zh9 [x0, u2] h).bind fun r3 =>
   (AV.bool? r3.1).bind fun b4 =>
   (bif b4 then (some (.ret, [(2, (AV.int .i64 (IntKind.wrap .i64 ((101 : Int) + x4))))], r3.2)) else (zcK fuel d n [(0, x0), (3, .slice x3), (4, (AV.int .i64 (IntKind.wrap .i64 (x4 + (1 : Int)))))] r3.2))) else (some ((.exit 0), [(2, AV.bot)], h))) := by
 generalize hh : run = R
 rw [zaD] at hh
 subst hh
 generalize hh : zcK = R
 rw [zjW] at hh
 subst hh
 kernel_rfl
theorem zox (fuel d : Nat) (x2 : Int) (h : AH) :
   zdx fuel d .ret [(2, .int .i64 x2)] h =
 some ((AV.int .i64 x2), h) := by
 generalize hh : zdx = R
 rw [zj0] at hh
 subst hh
 kernel_rfl
theorem zrD (fuel d : Nat) (x0 : Int) (x1 : Int) (h : AH) :
   brun fuel (d + 1) zlm [(AV.int .i64 x0), .int .i64 x1] h =
 (bif (decide (x0 = (0 : Int))) then ((run fuel d zkM [] (AH.push h 1 [(AV.int .i64 0), .bool false, .int .i64 0])).bind fun r1 =>
   (AV.agg? r1.1).bind fun c2 =>
   (bif (!false && Nat.beq (List.length c2) 3 && List.all c2 AV.isCell) then ((AH.storeAt r1.2 c2 (Pt.mk ⟨AH.next h, 0, 0⟩ 3)).bind fun h3 =>
   ((AH.cellsAt h3 3 (Pt.mk ⟨AH.next h, 0, 0⟩ 3)).bind fun c4 =>
   some ((AV.agg c4)) : Option AV).map fun v => (v, h3)) else (none))) else ((AH.storeAt (AH.push h 1 [(AV.int .i64 0), .bool false, .int .i64 0]) [(AV.int .i64 x0), .bool true, .int .i64 x1] (Pt.mk ⟨AH.next h, 0, 0⟩ 3)).bind fun h5 =>
   ((AH.cellsAt h5 3 (Pt.mk ⟨AH.next h, 0, 0⟩ 3)).bind fun c6 =>
   some ((AV.agg c6)) : Option AV).map fun v => (v, h5))) := by
 generalize hh : run = R
 rw [zaD] at hh
 subst hh
 generalize hh : brun = R
 rw [zcI] at hh
 subst hh
 kernel_rfl
noncomputable def zf2 (fuel d : Nat) : Run := fun fr h k => zf8 (Cf fuel zat) false (zak (C fuel) false d) (zak (C fuel) true d) 53 (csub [true, false, false] (zbV Go.Proofs.Tryd.f89)) (asub [true, false, false] an89) fr h k
noncomputable def zfJ (fuel d : Nat) (n : Nat) (fr : Fr) (h : AH) : Option (zaj × Fr × AH) := ziV (zf2 fuel d) (some [0, 1, 2, 3, 8]) n fr h (kOut [])
noncomputable def zaA : Nat → Nat → Nat → Fr → AH → Option (zaj × Fr × AH) := hide zfJ
theorem zc7 : zaA = zfJ := zae _
noncomputable def zfN (fuel d : Nat) : zaj → Fr → AH → Option (AV × AH) := (zbG 0 (kRet (Cf fuel zat) Go.Proofs.Tryd.f89.results.toList))
noncomputable def zbM : Nat → Nat → zaj → Fr → AH → Option (AV × AH) := hide zfN
theorem zfi : zbM = zfN := zae _
noncomputable def zf1 (fuel d : Nat) : Run := fun fr h k => zf8 (Cf fuel zat) false (zak (C fuel) false d) (zak (C fuel) true d) 53 (csub [true, false, false, true, false, false, true, false, false] (zbV Go.Proofs.Tryd.f89)) (asub [true, false, false, true, false, false, true, false, false] an89) fr h k
noncomputable def zfI (fuel d : Nat) (n : Nat) (fr : Fr) (h : AH) : Option (zaj × Fr × AH) := ziV (zf1 fuel d) (some [0, 1, 2, 3, 8, 9]) n fr h (kOut [0, 1, 2, 3, 8])
noncomputable def zaz : Nat → Nat → Nat → Fr → AH → Option (zaj × Fr × AH) := hide zfI
theorem zc6 : zaz = zfI := zae _
noncomputable def zfM (fuel d : Nat) (n : Nat) : zaj → Fr → AH → Option (zaj × Fr × AH) := (zbG 2 (zbG 1 (kSeq (Cf fuel zat) false (zak (C fuel) false d) (zak (C fuel) true d) 53 (csub [true, false, false, true, true] (zbV Go.Proofs.Tryd.f89)) (asub [true, false, false, true, true] an89) (zo9 (zf2 fuel d) (some [0, 1, 2, 3, 8]) n (kOut [])))))
noncomputable def zbL : Nat → Nat → Nat → zaj → Fr → AH → Option (zaj × Fr × AH) := hide zfM
theorem zfg : zbL = zfM := zae _
noncomputable def zfL (fuel d : Nat) (n : Nat) : zaj → Fr → AH → Option (zaj × Fr × AH) := (kSeq (Cf fuel zat) false (zak (C fuel) false d) (zak (C fuel) true d) 53 (csub [true, false, false, true, false, false, true, false, false, false, true] (zbV Go.Proofs.Tryd.f89)) (asub [true, false, false, true, false, false, true, false, false, false, true] an89) (kSeq (Cf fuel zat) false (zak (C fuel) false d) (zak (C fuel) true d) 53 (csub [true, false, false, true, false, false, true, false, false, true] (zbV Go.Proofs.Tryd.f89)) (asub [true, false, false, true, false, false, true, false, false, true] an89) (zo9 (zf1 fuel d) (some [0, 1, 2, 3, 8, 9]) n (kOut [0, 1, 2, 3, 8]))))
noncomputable def zbK : Nat → Nat → Nat → zaj → Fr → AH → Option (zaj × Fr × AH) := hide zfL
theorem zff : zbK = zfL := zae _
theorem zgT (fuel d : Nat) (x0 : Sl) (x1 : Int) (x2 : Int) (x3f : Nat) (x3c : List Pt) (h : AH) :
   run fuel (d + 1) zat [(AV.slice x0), .int .i64 x1, .int .i64 x2, .func x3f x3c] h =
 (zaA fuel d fuel [(0, .slice x0), (1, .int .i64 x1), (2, .int .i64 x2), (3, .func x3f x3c), (8, (AV.int .i64 (IntKind.wrap .i64 (x1 + (1 : Int)))))] h).bind fun p1 =>
   zbM fuel d p1.1 p1.2.1 p1.2.2 := by
 generalize hh : run = R
 rw [zaD] at hh
 subst hh
 generalize hh : zaA = R
 rw [zc7] at hh
 subst hh
 generalize hh : zbM = R
 rw [zfi] at hh
 subst hh
 kernel_rfl
theorem zc8 (fuel d : Nat) (n : Nat) (x0 : Sl) (x1 : Int) (x2 : Int) (x3f : Nat) (x3c : List Pt) (x8 : Int) (h : AH) :
   zaA fuel d (n + 1) [(0, .slice x0), (1, .int .i64 x1), (2, .int .i64 x2), (3, .func x3f x3c), (8, .int .i64 x8)] h =
 (bif (decide (x8 < x2)) then ((zaz fuel d fuel [(0, .slice x0), (1, .int .i64 x1), (2, .int .i64 x2), (3, .func x3f x3c), (8, .int .i64 x8), (9, .int .i64 x8)] h).bind fun p1 =>
   zbL fuel d n p1.1 p1.2.1 p1.2.2) else (some ((.exit 0), [], h))) := by
 generalize hh : zaA = R
 rw [zc7] at hh
 subst hh
 generalize hh : zaz = R
 rw [zc6] at hh
 subst hh
 generalize hh : zbL = R
 rw [zfg] at hh
 subst hh
 kernel_rfl
theorem zfh (fuel d : Nat)  (h : AH) :
   zbM fuel d (.exit 0) [] h =
 some ((AV.tup []), h) := by
 generalize hh : zbM = R
 rw [zfi] at hh
 subst hh
 kernel_rfl
theorem zfd (fuel d : Nat) (n : Nat) (x0 : Sl) (x1 : Int) (x2 : Int) (x3f : Nat) (x3c : List Pt) (x8 : Int) (x9 : Int) (h : AH) :
   zaz fuel d (n + 1) [(0, .slice x0), (1, .int .i64 x1), (2, .int .i64 x2), (3, .func x3f x3c), (8, .int .i64 x8), (9, .int .i64 x9)] h =
 ((bif (decide (x1 < x9)) then ((AH.addr h 1 x0 x9).bind fun p1 =>
   (AH.cell h p1).bind fun u2 =>
   (AV.int? .i64 u2).bind fun n3 =>
   (AH.addr h 1 x0 (IntKind.wrap .i64 (x9 - (1 : Int)))).bind fun p4 =>
   (AH.cell h p4).bind fun u5 =>
   (AV.int? .i64 u5).bind fun n6 =>
   (run fuel d x3f ([(AV.int .i64 n3), .int .i64 n6] ++ List.map AV.ptr x3c) h).bind fun r7 =>
   (AV.int? .i64 r7.1).bind fun n8 =>
   some (.normal, [(0, .slice x0), (1, .int .i64 x1), (2, .int .i64 x2), (3, .func x3f x3c), (8, .int .i64 x8), (9, .int .i64 x9), (34, (AV.bool (decide (n8 < (0 : Int)))))], r7.2)) else (some (.normal, [(0, .slice x0), (1, .int .i64 x1), (2, .int .i64 x2), (3, .func x3f x3c), (8, .int .i64 x8), (9, .int .i64 x9), (34, .bool false)], h)))).bind fun p9 =>
   zbK fuel d n p9.1 p9.2.1 p9.2.2 := by
 generalize hh : run = R
 rw [zaD] at hh
 subst hh
 generalize hh : zaz = R
 rw [zc6] at hh
 subst hh
 generalize hh : zbK = R
 rw [zff] at hh
 subst hh
 kernel_rfl
theorem zji (fuel d : Nat) (n : Nat) (x0 : Sl) (x1 : Int) (x2 : Int) (x3f : Nat) (x3c : List Pt) (x8 : Int) (h : AH) :
   zbL fuel d n (.exit 2) [(0, .slice x0), (1, .int .i64 x1), (2, .int .i64 x2), (3, .func x3f x3c), (8, .int .i64 x8)] h =
 zaA fuel d n [(0, .slice x0), (1, .int .i64 x1), (2, .int .i64 x2), (3, .func x3f x3c), (8, (AV.int .i64 (IntKind.wrap .i64 (x8 + (1 : Int)))))] h := by
 generalize hh : zaA = R
 rw [zc7] at hh
 subst hh
 generalize hh : zbL = R
 rw [zfg] at hh
 subst hh
 kernel_rfl
theorem zdl (fuel d : Nat) (n : Nat) (x0 : Sl) (x1 : Int) (x2 : Int) (x3f : Nat) (x3c : List Pt) (x8 : Int) (x9 : Int) (x34 : Bool) (h : AH) :
   zbK fuel d n .normal [(0, .slice x0), (1, .int .i64 x1), (2, .int .i64 x2), (3, .func x3f x3c), (8, .int .i64 x8), (9, .int .i64 x9), (34, .bool x34)] h =
 (bif x34 then ((AH.addr h 1 x0 (IntKind.wrap .i64 (x9 - (1 : Int)))).bind fun p1 =>
   (AH.cell h p1).bind fun u2 =>
   (AV.int? .i64 u2).bind fun n3 =>
   (AH.addr h 1 x0 x9).bind fun p4 =>
   (AH.cell h p4).bind fun u5 =>
   (AV.int? .i64 u5).bind fun n6 =>
   (AH.addr h 1 x0 x9).bind fun p7 =>
   (AH.storeAt h [(AV.int .i64 n3)] p7).bind fun h8 =>
   (AH.addr h8 1 x0 (IntKind.wrap .i64 (x9 - (1 : Int)))).bind fun p9 =>
   (AH.storeAt h8 [(AV.int .i64 n6)] p9).bind fun h10 =>
   zaz fuel d n [(0, .slice x0), (1, .int .i64 x1), (2, .int .i64 x2), (3, .func x3f x3c), (8, .int .i64 x8), (9, (AV.int .i64 (IntKind.wrap .i64 (x9 - (1 : Int)))))] h10) else (some ((.exit 2), [(0, .slice x0), (1, .int .i64 x1), (2, .int .i64 x2), (3, .func x3f x3c), (8, .int .i64 x8)], h))) := by
 generalize hh : zaz = R
 rw [zc6] at hh
 subst hh
 generalize hh : zbK = R
 rw [zff] at hh
 subst hh
 kernel_rfl
noncomputable def zlZ (fuel d : Nat) : Run := fun fr h k => zf8 (Cf fuel zbg) false (zak (C fuel) false d) (zak (C fuel) true d) 60 (csub [true, true, true, false, true, false, false] (zbV Go.Proofs.Tryd.f90)) (asub [true, true, true, false, true, false, false] an90) fr h k
noncomputable def zhw (fuel d : Nat) (n : Nat) (fr : Fr) (h : AH) : Option (zaj × Fr × AH) := ziV (zlZ fuel d) (some [0, 3, 8, 9, 10, 11]) n fr h (kOut [0, 3, 8, 9, 10])
noncomputable def zbj : Nat → Nat → Nat → Fr → AH → Option (zaj × Fr × AH) := hide zhw
theorem zgM : zbj = zhw := zae _
noncomputable def zhK (fuel d : Nat) : zaj → Fr → AH → Option (AV × AH) := (zbG 0 (kSeq (Cf fuel zbg) false (zak (C fuel) false d) (zak (C fuel) true d) 60 (csub [true, true, true, true] (zbV Go.Proofs.Tryd.f90)) (asub [true, true, true, true] an90) (kRet (Cf fuel zbg) Go.Proofs.Tryd.f90.results.toList)))
noncomputable def zcA : Nat → Nat → zaj → Fr → AH → Option (AV × AH) := hide zhK
theorem zgS : zcA = zhK := zae _
noncomputable def zlY (fuel d : Nat) : Run := fun fr h k => zf8 (Cf fuel zbg) false (zak (C fuel) false d) (zak (C fuel) true d) 60 (csub [true, true, true, true, true, false, false] (zbV Go.Proofs.Tryd.f90)) (asub [true, true, true, true, true, false, false] an90) fr h k
noncomputable def zhv (fuel d : Nat) (n : Nat) (fr : Fr) (h : AH) : Option (zaj × Fr × AH) := ziV (zlY fuel d) (some [0, 3, 8, 9, 12]) n fr h (kOut [])
noncomputable def zbi : Nat → Nat → Nat → Fr → AH → Option (zaj × Fr × AH) := hide zhv
theorem zgK : zbi = zhv := zae _
noncomputable def zhJ (fuel d : Nat) : zaj → Fr → AH → Option (AV × AH) := (zbG 2 (kRet (Cf fuel zbg) Go.Proofs.Tryd.f90.results.toList))
noncomputable def zcz : Nat → Nat → zaj → Fr → AH → Option (AV × AH) := hide zhJ
theorem zgR : zcz = zhJ := zae _
theorem znd (fuel d : Nat) (x0 : Sl) (x1 : Int) (x2 : Int) (x3f : Nat) (x3c : List Pt) (h : AH) :
   run fuel (d + 1) zbg [(AV.slice x0), .int .i64 x1, .int .i64 x2, .func x3f x3c] h =
 (zbj fuel d fuel [(0, .slice x0), (3, .func x3f x3c), (8, .int .i64 x1), (9, .int .i64 0), (10, (AV.int .i64 (IntKind.wrap .i64 (x2 - x1)))), (11, (AV.int .i64 (IntKind.wrap .i64 (Int.tdiv (IntKind.wrap .i64 ((IntKind.wrap .i64 (x2 - x1)) - (1 : Int))) (2 : Int)))))] h).bind fun p1 =>
   zcA fuel d p1.1 p1.2.1 p1.2.2 := by
 generalize hh : run = R
 rw [zaD] at hh
 subst hh
 generalize hh : zbj = R
 rw [zgM] at hh
 subst hh
 generalize hh : zcA = R
 rw [zgS] at hh
 subst hh
 kernel_rfl
theorem zgN (fuel d : Nat) (n : Nat) (x0 : Sl) (x3f : Nat) (x3c : List Pt) (x8 : Int) (x9 : Int) (x10 : Int) (x11 : Int) (h : AH) :
   zbj fuel d (n + 1) [(0, .slice x0), (3, .func x3f x3c), (8, .int .i64 x8), (9, .int .i64 x9), (10, .int .i64 x10), (11, .int .i64 x11)] h =
 (bif (decide ((0 : Int) ≤ x11)) then ((run fuel d zaR [(AV.slice x0), .int .i64 x11, .int .i64 x10, .int .i64 x8, .func x3f x3c] h).bind fun r1 =>
   zbj fuel d n [(0, .slice x0), (3, .func x3f x3c), (8, .int .i64 x8), (9, .int .i64 x9), (10, .int .i64 x10), (11, (AV.int .i64 (IntKind.wrap .i64 (x11 - (1 : Int)))))] r1.2) else (some ((.exit 0), [(0, .slice x0), (3, .func x3f x3c), (8, .int .i64 x8), (9, .int .i64 x9), (10, .int .i64 x10)], h))) := by
 generalize hh : run = R
 rw [zaD] at hh
 subst hh
 generalize hh : zbj = R
 rw [zgM] at hh
 subst hh
 kernel_rfl
theorem zkU (fuel d : Nat) (x0 : Sl) (x3f : Nat) (x3c : List Pt) (x8 : Int) (x9 : Int) (x10 : Int) (h : AH) :
   zcA fuel d (.exit 0) [(0, .slice x0), (3, .func x3f x3c), (8, .int .i64 x8), (9, .int .i64 x9), (10, .int .i64 x10)] h =
 (zbi fuel d fuel [(0, .slice x0), (3, .func x3f x3c), (8, .int .i64 x8), (9, .int .i64 x9), (12, (AV.int .i64 (IntKind.wrap .i64 (x10 - (1 : Int)))))] h).bind fun p1 =>
   zcz fuel d p1.1 p1.2.1 p1.2.2 := by
 generalize hh : zcA = R
 rw [zgS] at hh
 subst hh
 generalize hh : zbi = R
 rw [zgK] at hh
 subst hh
 generalize hh : zcz = R
 rw [zgR] at hh
 subst hh
 kernel_rfl
theorem zgL (fuel d : Nat) (n : Nat) (x0 : Sl) (x3f : Nat) (x3c : List Pt) (x8 : Int) (x9 : Int) (x12 : Int) (h : AH) :
   zbi fuel d (n + 1) [(0, .slice x0), (3, .func x3f x3c), (8, .int .i64 x8), (9, .int .i64 x9), (12, .int .i64 x12)] h =
 (bif (decide ((0 : Int) ≤ x12)) then ((AH.addr h 1 x0 (IntKind.wrap .i64 (x8 + x12))).bind fun p1 =>
   (AH.cell h p1).bind fun u2 =>
   (AV.int? .i64 u2).bind fun n3 =>
   (AH.addr h 1 x0 x8).bind fun p4 =>
   (AH.cell h p4).bind fun u5 =>
   (AV.int? .i64 u5).bind fun n6 =>
   (AH.addr h 1 x0 x8).bind fun p7 =>
   (AH.storeAt h [(AV.int .i64 n3)] p7).bind fun h8 =>
   (AH.addr h8 1 x0 (IntKind.wrap .i64 (x8 + x12))).bind fun p9 =>
   (AH.storeAt h8 [(AV.int .i64 n6)] p9).bind fun h10 =>
   (run fuel d zaR [(AV.slice x0), .int .i64 x9, .int .i64 x12, .int .i64 x8, .func x3f x3c] h10).bind fun r11 =>
   zbi fuel d n [(0, .slice x0), (3, .func x3f x3c), (8, .int .i64 x8), (9, .int .i64 x9), (12, (AV.int .i64 (IntKind.wrap .i64 (x12 - (1 : Int)))))] r11.2) else (some ((.exit 2), [], h))) := by
 generalize hh : run = R
 rw [zaD] at hh
 subst hh
 generalize hh : zbi = R
 rw [zgK] at hh
 subst hh
 kernel_rfl
theorem zkT (fuel d : Nat)  (h : AH) :
   zcz fuel d (.exit 2) [] h =
 some ((AV.tup []), h) := by
 generalize hh : zcz = R
 rw [zgR] at hh
 subst hh
 kernel_rfl
noncomputable def zf3 (fuel d : Nat) : Run := fun fr h k => zf8 (Cf fuel zaW) false (zak (C fuel) false d) (zak (C fuel) true d) 67 (csub [true, true, false, true, true, true, false, false] (zbV Go.Proofs.Tryd.f91)) (asub [true, true, false, true, true, true, false, false] an91) fr h k
noncomputable def zfK (fuel d : Nat) (n : Nat) (fr : Fr) (h : AH) : Option (zaj × Fr × AH) := ziV (zf3 fuel d) (some [0, 1, 8, 9, 10, 11]) n fr h (kOut [])
noncomputable def zaB : Nat → Nat → Nat → Fr → AH → Option (zaj × Fr × AH) := hide zfK
theorem zc9 : zaB = zfK := zae _
noncomputable def zfR (fuel d : Nat) : zaj → Fr → AH → Option (AV × AH) := (zbG 0 (kRet (Cf fuel zaW) Go.Proofs.Tryd.f91.results.toList))
noncomputable def zbN : Nat → Nat → zaj → Fr → AH → Option (AV × AH) := hide zfR
theorem zfk : zbN = zfR := zae _
noncomputable def zfQ (fuel d : Nat) (n : Nat) : zaj → Fr → AH → Option (zaj × Fr × AH) := (kSeq (Cf fuel zaW) false (zak (C fuel) false d) (zak (C fuel) true d) 67 (csub [true, true, false, true, true, true, false, false, true, false, false, true, true] (zbV Go.Proofs.Tryd.f91)) (asub [true, true, false, true, true, true, false, false, true, false, false, true, true] an91) (zbG 1 (kSeq (Cf fuel zaW) false (zak (C fuel) false d) (zak (C fuel) true d) 67 (csub [true, true, false, true, true, true, false, false, true, true] (zbV Go.Proofs.Tryd.f91)) (asub [true, true, false, true, true, true, false, false, true, true] an91) (zo9 (zf3 fuel d) (some [0, 1, 8, 9, 10, 11]) n (kOut [])))))
noncomputable def zba : Nat → Nat → Nat → zaj → Fr → AH → Option (zaj × Fr × AH) := hide zfQ
theorem zfj : zba = zfQ := zae _
theorem zkW (fuel d : Nat) (x0 : Sl) (x1 : Int) (x2 : Int) (x3f : Nat) (x3c : List Pt) (h : AH) :
   run fuel (d + 1) zaW [(AV.slice x0), .int .i64 x1, .int .i64 x2, .func x3f x3c] h =
 (bif (decide ((8 : Int) ≤ (IntKind.wrap .i64 (x2 - x1)))) then ((AH.storeAt (AH.push h 1 [(AV.int .u64 0)]) [(AV.int .u64 (IntKind.wrap .u64 (IntKind.wrap .i64 (x2 - x1))))] (Pt.mk ⟨AH.next h, 0, 0⟩ 1)).bind fun h1 =>
   (run fuel d zij [(AV.int .i64 (IntKind.wrap .i64 (x2 - x1)))] h1).bind fun r2 =>
   (AV.int? .u64 r2.1).bind fun n3 =>
   (zaB fuel d fuel [(0, .slice x0), (1, .int .i64 x1), (8, (AV.int .i64 (IntKind.wrap .i64 (x2 - x1)))), (9, (AV.ptr (Pt.mk ⟨AH.next h, 0, 0⟩ 1))), (10, .int .u64 n3), (11, (AV.int .i64 (IntKind.wrap .i64 ((IntKind.wrap .i64 (x1 + (IntKind.wrap .i64 ((IntKind.wrap .i64 (Int.tdiv (IntKind.wrap .i64 (x2 - x1)) (4 : Int))) * (2 : Int))))) - (1 : Int)))))] r2.2).bind fun p4 =>
   zbN fuel d p4.1 p4.2.1 p4.2.2) else (some ((AV.tup []), h))) := by
 generalize hh : run = R
 rw [zaD] at hh
 subst hh
 generalize hh : zaB = R
 rw [zc9] at hh
 subst hh
 generalize hh : zbN = R
 rw [zfk] at hh
 subst hh
 kernel_rfl
theorem zfe (fuel d : Nat) (n : Nat) (x0 : Sl) (x1 : Int) (x8 : Int) (x9 : Pt) (x10 : Int) (x11 : Int) (h : AH) :
   zaB fuel d (n + 1) [(0, .slice x0), (1, .int .i64 x1), (8, .int .i64 x8), (9, .ptr x9), (10, .int .u64 x10), (11, .int .i64 x11)] h =
 (bif (decide (x11 ≤ (IntKind.wrap .i64 ((IntKind.wrap .i64 (x1 + (IntKind.wrap .i64 ((IntKind.wrap .i64 (Int.tdiv x8 (4 : Int))) * (2 : Int))))) + (1 : Int))))) then ((run fuel d ziW [(AV.ptr x9)] h).bind fun r1 =>
   (AV.int? .u64 r1.1).bind fun n2 =>
   ((bif (decide (x8 ≤ (IntKind.wrap .i64 (zmG .and .u64 n2 (IntKind.wrap .u64 (x10 - (1 : Int))))))) then (some (.normal, [(0, .slice x0), (1, .int .i64 x1), (8, .int .i64 x8), (9, .ptr x9), (10, .int .u64 x10), (11, .int .i64 x11), (12, (AV.int .i64 (IntKind.wrap .i64 ((IntKind.wrap .i64 (zmG .and .u64 n2 (IntKind.wrap .u64 (x10 - (1 : Int))))) - x8))))], r1.2)) else (some (.normal, [(0, .slice x0), (1, .int .i64 x1), (8, .int .i64 x8), (9, .ptr x9), (10, .int .u64 x10), (11, .int .i64 x11), (12, (AV.int .i64 (IntKind.wrap .i64 (zmG .and .u64 n2 (IntKind.wrap .u64 (x10 - (1 : Int)))))))], r1.2)))).bind fun p3 =>
   zba fuel d n p3.1 p3.2.1 p3.2.2) else (some ((.exit 0), [], h))) := by
 generalize hh : run = R
 rw [zaD] at hh
 subst hh
 generalize hh : zaB = R
 rw [zc9] at hh
 subst hh
 generalize hh : zba = R
 rw [zfj] at hh
 subst hh
 kernel_rfl
theorem zjj (fuel d : Nat)  (h : AH) :
   zbN fuel d (.exit 0) [] h =
 some ((AV.tup []), h) := by
 generalize hh : zbN = R
 rw [zfk] at hh
 subst hh
 kernel_rfl
theorem zjv (fuel d : Nat) (n : Nat) (x0 : Sl) (x1 : Int) (x8 : Int) (x9 : Pt) (x10 : Int) (x11 : Int) (x12 : Int) (h : AH) :
   zba fuel d n .normal [(0, .slice x0), (1, .int .i64 x1), (8, .int .i64 x8), (9, .ptr x9), (10, .int .u64 x10), (11, .int .i64 x11), (12, .int .i64 x12)] h =
 (AH.addr h 1 x0 (IntKind.wrap .i64 (x1 + x12))).bind fun p1 =>
   (AH.cell h p1).bind fun u2 =>
   (AV.int? .i64 u2).bind fun n3 =>
   (AH.addr h 1 x0 x11).bind fun p4 =>
   (AH.cell h p4).bind fun u5 =>
   (AV.int? .i64 u5).bind fun n6 =>
   (AH.addr h 1 x0 x11).bind fun p7 =>
   (AH.storeAt h [(AV.int .i64 n3)] p7).bind fun h8 =>
   (AH.addr h8 1 x0 (IntKind.wrap .i64 (x1 + x12))).bind fun p9 =>
   (AH.storeAt h8 [(AV.int .i64 n6)] p9).bind fun h10 =>
   zaB fuel d n [(0, .slice x0), (1, .int .i64 x1), (8, .int .i64 x8), (9, .ptr x9), (10, .int .u64 x10), (11, (AV.int .i64 (IntKind.wrap .i64 (x11 + (1 : Int)))))] h10 := by
 generalize hh : zaB = R
 rw [zc9] at hh
 subst hh
 generalize hh : zba = R
 rw [zfj] at hh
 subst hh
 kernel_rfl
noncomputable def zgu (fuel d : Nat) : zaj → Fr → AH → Option (zaj × Fr × AH) := (kSeq (Cf fuel zbI) false (zak (C fuel) false d) (zak (C fuel) true d) 63 (csub [true, true, true, true, true, true, false, true, false, true] (zbV Go.Proofs.Tryd.f92)) (asub [true, true, true, true, true, true, false, true, false, true] an92) (kOut [11, 13]))
noncomputable def zbo : Nat → Nat → zaj → Fr → AH → Option (zaj × Fr × AH) := hide zgu
theorem zfP : zbo = zgu := zae _
noncomputable def zgt (fuel d : Nat) : zaj → Fr → AH → Option (AV × AH) := (kSeq (Cf fuel zbI) false (zak (C fuel) false d) (zak (C fuel) true d) 63 (csub [true, true, true, true, true, true, true] (zbV Go.Proofs.Tryd.f92)) (asub [true, true, true, true, true, true, true] an92) (kRet (Cf fuel zbI) Go.Proofs.Tryd.f92.results.toList))
noncomputable def zaV : Nat → Nat → zaj → Fr → AH → Option (AV × AH) := hide zgt
theorem zfO : zaV = zgt := zae _
theorem zlU (fuel d : Nat) (x0 : Sl) (x1 : Int) (x2 : Int) (x3f : Nat) (x3c : List Pt) (h : AH) :
   run fuel (d + 1) zbI [(AV.slice x0), .int .i64 x1, .int .i64 x2, .func x3f x3c] h =
 ((bif (decide ((8 : Int) ≤ (IntKind.wrap .i64 (x2 - x1)))) then (((bif (decide ((50 : Int) ≤ (IntKind.wrap .i64 (x2 - x1)))) then ((run fuel d zbT [(AV.slice x0), (AV.int .i64 (IntKind.wrap .i64 (x1 + (IntKind.wrap .i64 ((IntKind.wrap .i64 (Int.tdiv (IntKind.wrap .i64 (x2 - x1)) (4 : Int))) * (1 : Int)))))), (AV.ptr (Pt.mk ⟨AH.next h, 0, 0⟩ 1)), .func x3f x3c] (AH.push h 1 [(AV.int .i64 0)])).bind fun r1 =>
   (AV.int? .i64 r1.1).bind fun n2 =>
   (run fuel d zbT [(AV.slice x0), (AV.int .i64 (IntKind.wrap .i64 (x1 + (IntKind.wrap .i64 ((IntKind.wrap .i64 (Int.tdiv (IntKind.wrap .i64 (x2 - x1)) (4 : Int))) * (2 : Int)))))), (AV.ptr (Pt.mk ⟨AH.next h, 0, 0⟩ 1)), .func x3f x3c] r1.2).bind fun r3 =>
   (AV.int? .i64 r3.1).bind fun n4 =>
   (run fuel d zbT [(AV.slice x0), (AV.int .i64 (IntKind.wrap .i64 (x1 + (IntKind.wrap .i64 ((IntKind.wrap .i64 (Int.tdiv (IntKind.wrap .i64 (x2 - x1)) (4 : Int))) * (3 : Int)))))), (AV.ptr (Pt.mk ⟨AH.next h, 0, 0⟩ 1)), .func x3f x3c] r3.2).bind fun r5 =>
   (AV.int? .i64 r5.1).bind fun n6 =>
   some (.normal, [(0, .slice x0), (3, .func x3f x3c), (11, (AV.ptr (Pt.mk ⟨AH.next h, 0, 0⟩ 1))), (12, .int .i64 n2), (13, .int .i64 n4), (14, .int .i64 n6)], r5.2)) else (some (.normal, [(0, .slice x0), (3, .func x3f x3c), (11, (AV.ptr (Pt.mk ⟨AH.next h, 0, 0⟩ 1))), (12, (AV.int .i64 (IntKind.wrap .i64 (x1 + (IntKind.wrap .i64 ((IntKind.wrap .i64 (Int.tdiv (IntKind.wrap .i64 (x2 - x1)) (4 : Int))) * (1 : Int))))))), (13, (AV.int .i64 (IntKind.wrap .i64 (x1 + (IntKind.wrap .i64 ((IntKind.wrap .i64 (Int.tdiv (IntKind.wrap .i64 (x2 - x1)) (4 : Int))) * (2 : Int))))))), (14, (AV.int .i64 (IntKind.wrap .i64 (x1 + (IntKind.wrap .i64 ((IntKind.wrap .i64 (Int.tdiv (IntKind.wrap .i64 (x2 - x1)) (4 : Int))) * (3 : Int)))))))], (AH.push h 1 [(AV.int .i64 0)]))))).bind fun p7 =>
   zbo fuel d p7.1 p7.2.1 p7.2.2) else (some (.normal, [(11, (AV.ptr (Pt.mk ⟨AH.next h, 0, 0⟩ 1))), (13, (AV.int .i64 (IntKind.wrap .i64 (x1 + (IntKind.wrap .i64 ((IntKind.wrap .i64 (Int.tdiv (IntKind.wrap .i64 (x2 - x1)) (4 : Int))) * (2 : Int)))))))], (AH.push h 1 [(AV.int .i64 0)]))))).bind fun p8 =>
   zaV fuel d p8.1 p8.2.1 p8.2.2 := by
 generalize hh : run = R
 rw [zaD] at hh
 subst hh
 generalize hh : zbo = R
 rw [zfP] at hh
 subst hh
 generalize hh : zaV = R
 rw [zfO] at hh
 subst hh
 kernel_rfl
theorem zkd (fuel d : Nat) (x0 : Sl) (x3f : Nat) (x3c : List Pt) (x11 : Pt) (x12 : Int) (x13 : Int) (x14 : Int) (h : AH) :
   zbo fuel d .normal [(0, .slice x0), (3, .func x3f x3c), (11, .ptr x11), (12, .int .i64 x12), (13, .int .i64 x13), (14, .int .i64 x14)] h =
 (run fuel d zeH [(AV.slice x0), .int .i64 x12, .int .i64 x13, .int .i64 x14, .ptr x11, .func x3f x3c] h).bind fun r1 =>
   (AV.int? .i64 r1.1).bind fun n2 =>
   some (.normal, [(11, .ptr x11), (13, .int .i64 n2)], r1.2) := by
 generalize hh : run = R
 rw [zaD] at hh
 subst hh
 generalize hh : zbo = R
 rw [zfP] at hh
 subst hh
 kernel_rfl
theorem zkc (fuel d : Nat) (x11 : Pt) (x13 : Int) (h : AH) :
   zaV fuel d .normal [(11, .ptr x11), (13, .int .i64 x13)] h =
 (AH.cell h x11).bind fun u1 =>
   (AV.int? .i64 u1).bind fun n2 =>
   (bif (decide (n2 = (0 : Int))) then (some ((AV.tup [(AV.int .i64 x13), .int .i64 1]), h)) else ((bif (decide (n2 = (12 : Int))) then (some ((AV.tup [(AV.int .i64 x13), .int .i64 2]), h)) else (some ((AV.tup [(AV.int .i64 x13), .int .i64 0]), h))))) := by
 generalize hh : zaV = R
 rw [zfO] at hh
 subst hh
 kernel_rfl
noncomputable def zkf (fuel d : Nat) : Run := fun fr h k => zf8 (Cf fuel zca) false (zak (C fuel) false d) (zak (C fuel) true d) 34 (csub [true, true, false, false] (zbV Go.Proofs.Tryd.f93)) (asub [true, true, false, false] an93) fr h k
noncomputable def zf4 (fuel d : Nat) (n : Nat) (fr : Fr) (h : AH) : Option (zaj × Fr × AH) := ziV (zkf fuel d) (some [0, 8, 9]) n fr h (kOut [])
noncomputable def zaN : Nat → Nat → Nat → Fr → AH → Option (zaj × Fr × AH) := hide zf4
theorem zfu : zaN = zf4 := zae _
noncomputable def zf5 (fuel d : Nat) : zaj → Fr → AH → Option (AV × AH) := (zbG 0 (kRet (Cf fuel zca) Go.Proofs.Tryd.f93.results.toList))
noncomputable def zbS : Nat → Nat → zaj → Fr → AH → Option (AV × AH) := hide zf5
theorem zfz : zbS = zf5 := zae _
theorem zlk (fuel d : Nat) (x0 : Sl) (x1 : Int) (x2 : Int) (x3f : Nat) (x3c : List Pt) (h : AH) :
   run fuel (d + 1) zca [(AV.slice x0), .int .i64 x1, .int .i64 x2, .func x3f x3c] h =
 (zaN fuel d fuel [(0, .slice x0), (8, .int .i64 x1), (9, (AV.int .i64 (IntKind.wrap .i64 (x2 - (1 : Int)))))] h).bind fun p1 =>
   zbS fuel d p1.1 p1.2.1 p1.2.2 := by
 generalize hh : run = R
 rw [zaD] at hh
 subst hh
 generalize hh : zaN = R
 rw [zfu] at hh
 subst hh
 generalize hh : zbS = R
 rw [zfz] at hh
 subst hh
 kernel_rfl
theorem zfv (fuel d : Nat) (n : Nat) (x0 : Sl) (x8 : Int) (x9 : Int) (h : AH) :
   zaN fuel d (n + 1) [(0, .slice x0), (8, .int .i64 x8), (9, .int .i64 x9)] h =
 (bif (decide (x8 < x9)) then ((AH.addr h 1 x0 x9).bind fun p1 =>
   (AH.cell h p1).bind fun u2 =>
   (AV.int? .i64 u2).bind fun n3 =>
   (AH.addr h 1 x0 x8).bind fun p4 =>
   (AH.cell h p4).bind fun u5 =>
   (AV.int? .i64 u5).bind fun n6 =>
   (AH.addr h 1 x0 x8).bind fun p7 =>
   (AH.storeAt h [(AV.int .i64 n3)] p7).bind fun h8 =>
   (AH.addr h8 1 x0 x9).bind fun p9 =>
   (AH.storeAt h8 [(AV.int .i64 n6)] p9).bind fun h10 =>
   zaN fuel d n [(0, .slice x0), (8, (AV.int .i64 (IntKind.wrap .i64 (x8 + (1 : Int))))), (9, (AV.int .i64 (IntKind.wrap .i64 (x9 - (1 : Int)))))] h10) else (some ((.exit 0), [], h))) := by
 generalize hh : zaN = R
 rw [zfu] at hh
 subst hh
 kernel_rfl
theorem zju (fuel d : Nat)  (h : AH) :
   zbS fuel d (.exit 0) [] h =
 some ((AV.tup []), h) := by
 generalize hh : zbS = R
 rw [zfz] at hh
 subst hh
 kernel_rfl
noncomputable def zbC (fuel d : Nat) : Run := fun fr h k => zf8 (Cf fuel zab) false (zak (C fuel) false d) (zak (C fuel) true d) 141 (csub [true, true, false, true, false, false] (zbV Go.Proofs.Tryd.f94)) (asub [true, true, false, true, false, false] an94) fr h k
noncomputable def zd4 (fuel d : Nat) (n : Nat) (fr : Fr) (h : AH) : Option (zaj × Fr × AH) := ziV (zbC fuel d) (some [0, 1, 2, 3, 9, 10]) n fr h (kOut [8])
noncomputable def zai : Nat → Nat → Nat → Fr → AH → Option (zaj × Fr × AH) := hide zd4
theorem zbm : zai = zd4 := zae _
noncomputable def zed (fuel d : Nat) : zaj → Fr → AH → Option (AV × AH) := (zbG 0 (kSeq (Cf fuel zab) false (zak (C fuel) false d) (zak (C fuel) true d) 141 (csub [true, true, true] (zbV Go.Proofs.Tryd.f94)) (asub [true, true, true] an94) (kRet (Cf fuel zab) Go.Proofs.Tryd.f94.results.toList)))
noncomputable def zal : Nat → Nat → zaj → Fr → AH → Option (AV × AH) := hide zed
theorem zcc : zal = zed := zae _
noncomputable def zeq (fuel d : Nat) : Run := fun fr h k => zf8 (Cf fuel zab) false (zak (C fuel) false d) (zak (C fuel) true d) 141 (csub [true, true, false, true, false, false, true, false, false, false, false, false] (zbV Go.Proofs.Tryd.f94)) (asub [true, true, false, true, false, false, true, false, false, false, false, false] an94) fr h k
noncomputable def zd3 (fuel d : Nat) (n : Nat) (fr : Fr) (h : AH) : Option (zaj × Fr × AH) := ziV (zeq fuel d) (some [0, 1, 2, 3, 9, 10]) n fr h (kOut [0, 1, 2, 3, 9, 10])
noncomputable def zao : Nat → Nat → Nat → Fr → AH → Option (zaj × Fr × AH) := hide zd3
theorem zcb : zao = zd3 := zae _
noncomputable def zec (fuel d : Nat) (n : Nat) : zaj → Fr → AH → Option (zaj × Fr × AH) := (zbG 2 (kSeq (Cf fuel zab) false (zak (C fuel) false d) (zak (C fuel) true d) 141 (csub [true, true, false, true, false, false, true, false, false, true] (zbV Go.Proofs.Tryd.f94)) (asub [true, true, false, true, false, false, true, false, false, true] an94) (zbG 1 (kSeq (Cf fuel zab) false (zak (C fuel) false d) (zak (C fuel) true d) 141 (csub [true, true, false, true, false, false, true, true] (zbV Go.Proofs.Tryd.f94)) (asub [true, true, false, true, false, false, true, true] an94) (zo9 (zbC fuel d) (some [0, 1, 2, 3, 9, 10]) n (kOut [8]))))))
noncomputable def za2 : Nat → Nat → Nat → zaj → Fr → AH → Option (zaj × Fr × AH) := hide zec
theorem zdK : za2 = zec := zae _
noncomputable def zeb (fuel d : Nat) (n : Nat) : zaj → Fr → AH → Option (zaj × Fr × AH) := (kSeq (Cf fuel zab) false (zak (C fuel) false d) (zak (C fuel) true d) 141 (csub [true, true, false, true, false, false, true, false, false, false, false, false, false, true] (zbV Go.Proofs.Tryd.f94)) (asub [true, true, false, true, false, false, true, false, false, false, false, false, false, true] an94) (kSeq (Cf fuel zab) false (zak (C fuel) false d) (zak (C fuel) true d) 141 (csub [true, true, false, true, false, false, true, false, false, false, false, false, true] (zbV Go.Proofs.Tryd.f94)) (asub [true, true, false, true, false, false, true, false, false, false, false, false, true] an94) (zo9 (zeq fuel d) (some [0, 1, 2, 3, 9, 10]) n (kOut [0, 1, 2, 3, 9, 10]))))
noncomputable def za1 : Nat → Nat → Nat → zaj → Fr → AH → Option (zaj × Fr × AH) := hide zeb
theorem zdJ : za1 = zeb := zae _
noncomputable def zic (fuel d : Nat) : Run := fun fr h k => zf8 (Cf fuel zab) false (zak (C fuel) false d) (zak (C fuel) true d) 141 (csub [true, true, false, true, false, false, true, false, false, true, true, true, true, false, true, false, true, false, false] (zbV Go.Proofs.Tryd.f94)) (asub [true, true, false, true, false, false, true, false, false, true, true, true, true, false, true, false, true, false, false] an94) fr h k
noncomputable def zd2 (fuel d : Nat) (n : Nat) (fr : Fr) (h : AH) : Option (zaj × Fr × AH) := ziV (zic fuel d) (some [0, 1, 2, 3, 9, 10, 11]) n fr h (kOut [0, 1, 2, 3, 9, 10])
noncomputable def zas : Nat → Nat → Nat → Fr → AH → Option (zaj × Fr × AH) := hide zd2
theorem zdC : zas = zd2 := zae _
noncomputable def zea (fuel d : Nat) (n : Nat) : zaj → Fr → AH → Option (zaj × Fr × AH) := (zbG 4 (kOut [0, 1, 2, 3, 9, 10]))
noncomputable def za0 : Nat → Nat → Nat → zaj → Fr → AH → Option (zaj × Fr × AH) := hide zea
theorem zdI : za0 = zea := zae _
noncomputable def zd9 (fuel d : Nat) (n : Nat) : zaj → Fr → AH → Option (zaj × Fr × AH) := (kSeq (Cf fuel zab) false (zak (C fuel) false d) (zak (C fuel) true d) 141 (csub [true, true, false, true, false, false, true, false, false, true, true, true, true, true] (zbV Go.Proofs.Tryd.f94)) (asub [true, true, false, true, false, false, true, false, false, true, true, true, true, true] an94) (zbG 1 (kSeq (Cf fuel zab) false (zak (C fuel) false d) (zak (C fuel) true d) 141 (csub [true, true, false, true, false, false, true, true] (zbV Go.Proofs.Tryd.f94)) (asub [true, true, false, true, false, false, true, true] an94) (zo9 (zbC fuel d) (some [0, 1, 2, 3, 9, 10]) n (kOut [8])))))
noncomputable def zaE : Nat → Nat → Nat → zaj → Fr → AH → Option (zaj × Fr × AH) := hide zd9
theorem zdH : zaE = zd9 := zae _
noncomputable def zib (fuel d : Nat) : Run := fun fr h k => zf8 (Cf fuel zab) false (zak (C fuel) false d) (zak (C fuel) true d) 141 (csub [true, true, false, true, false, false, true, false, false, true, true, true, true, true, true, false, true, false, false] (zbV Go.Proofs.Tryd.f94)) (asub [true, true, false, true, false, false, true, false, false, true, true, true, true, true, true, false, true, false, false] an94) fr h k
noncomputable def zd1 (fuel d : Nat) (n : Nat) (fr : Fr) (h : AH) : Option (zaj × Fr × AH) := ziV (zib fuel d) (some [0, 1, 2, 3, 9, 10, 12]) n fr h (kOut [0, 1, 2, 3, 9, 10])
noncomputable def zar : Nat → Nat → Nat → Fr → AH → Option (zaj × Fr × AH) := hide zd1
theorem zdA : zar = zd1 := zae _
noncomputable def zd8 (fuel d : Nat) (n : Nat) : zaj → Fr → AH → Option (zaj × Fr × AH) := (zbG 6 (zbG 1 (kSeq (Cf fuel zab) false (zak (C fuel) false d) (zak (C fuel) true d) 141 (csub [true, true, false, true, false, false, true, true] (zbV Go.Proofs.Tryd.f94)) (asub [true, true, false, true, false, false, true, true] an94) (zo9 (zbC fuel d) (some [0, 1, 2, 3, 9, 10]) n (kOut [8])))))
noncomputable def zaZ : Nat → Nat → Nat → zaj → Fr → AH → Option (zaj × Fr × AH) := hide zd8
theorem zdG : zaZ = zd8 := zae _
theorem ziS (fuel d : Nat) (x0 : Sl) (x1 : Int) (x2 : Int) (x3f : Nat) (x3c : List Pt) (h : AH) :
   run fuel (d + 1) zab [(AV.slice x0), .int .i64 x1, .int .i64 x2, .func x3f x3c] h =
 (zai fuel d fuel [(0, .slice x0), (1, .int .i64 x1), (2, .int .i64 x2), (3, .func x3f x3c), (9, (AV.int .i64 (IntKind.wrap .i64 (x1 + (1 : Int))))), (10, .int .i64 0)] h).bind fun p1 =>
   zal fuel d p1.1 p1.2.1 p1.2.2 := by
 generalize hh : run = R
 rw [zaD] at hh
 subst hh
 generalize hh : zai = R
 rw [zbm] at hh
 subst hh
 generalize hh : zal = R
 rw [zcc] at hh
 subst hh
 kernel_rfl
theorem zdF (fuel d : Nat) (n : Nat) (x0 : Sl) (x1 : Int) (x2 : Int) (x3f : Nat) (x3c : List Pt) (x9 : Int) (x10 : Int) (h : AH) :
   zai fuel d (n + 1) [(0, .slice x0), (1, .int .i64 x1), (2, .int .i64 x2), (3, .func x3f x3c), (9, .int .i64 x9), (10, .int .i64 x10)] h =
 (bif (decide (x10 < (5 : Int))) then ((zao fuel d fuel [(0, .slice x0), (1, .int .i64 x1), (2, .int .i64 x2), (3, .func x3f x3c), (9, .int .i64 x9), (10, .int .i64 x10)] h).bind fun p1 =>
   za2 fuel d n p1.1 p1.2.1 p1.2.2) else (some ((.exit 0), [(8, AV.bot)], h))) := by
 generalize hh : zai = R
 rw [zbm] at hh
 subst hh
 generalize hh : zao = R
 rw [zcb] at hh
 subst hh
 generalize hh : za2 = R
 rw [zdK] at hh
 subst hh
 kernel_rfl
theorem zhp (fuel d : Nat) (x8 : AV) (h : AH) :
   zal fuel d (.exit 0) [(8, x8)] h =
 some ((AV.bool false), h) := by
 generalize hh : zal = R
 rw [zcc] at hh
 subst hh
 kernel_rfl
theorem zdT (fuel d : Nat) (x8 : Bool) (h : AH) :
   zal fuel d .ret [(8, .bool x8)] h =
 some ((AV.bool x8), h) := by
 generalize hh : zal = R
 rw [zcc] at hh
 subst hh
 kernel_rfl
theorem zdE (fuel d : Nat) (n : Nat) (x0 : Sl) (x1 : Int) (x2 : Int) (x3f : Nat) (x3c : List Pt) (x9 : Int) (x10 : Int) (h : AH) :
   zao fuel d (n + 1) [(0, .slice x0), (1, .int .i64 x1), (2, .int .i64 x2), (3, .func x3f x3c), (9, .int .i64 x9), (10, .int .i64 x10)] h =
 ((bif (decide (x9 < x2)) then ((AH.addr h 1 x0 x9).bind fun p1 =>
   (AH.cell h p1).bind fun u2 =>
   (AV.int? .i64 u2).bind fun n3 =>
   (AH.addr h 1 x0 (IntKind.wrap .i64 (x9 - (1 : Int)))).bind fun p4 =>
   (AH.cell h p4).bind fun u5 =>
   (AV.int? .i64 u5).bind fun n6 =>
   (run fuel d x3f ([(AV.int .i64 n3), .int .i64 n6] ++ List.map AV.ptr x3c) h).bind fun r7 =>
   (AV.int? .i64 r7.1).bind fun n8 =>
   some (.normal, [(0, .slice x0), (1, .int .i64 x1), (2, .int .i64 x2), (3, .func x3f x3c), (9, .int .i64 x9), (10, .int .i64 x10), (36, (AV.bool (!(decide (n8 < (0 : Int))))))], r7.2)) else (some (.normal, [(0, .slice x0), (1, .int .i64 x1), (2, .int .i64 x2), (3, .func x3f x3c), (9, .int .i64 x9), (10, .int .i64 x10), (36, .bool false)], h)))).bind fun p9 =>
   za1 fuel d n p9.1 p9.2.1 p9.2.2 := by
 generalize hh : run = R
 rw [zaD] at hh
 subst hh
 generalize hh : zao = R
 rw [zcb] at hh
 subst hh
 generalize hh : za1 = R
 rw [zdJ] at hh
 subst hh
 kernel_rfl
theorem zho (fuel d : Nat) (n : Nat) (x0 : Sl) (x1 : Int) (x2 : Int) (x3f : Nat) (x3c : List Pt) (x9 : Int) (x10 : Int) (h : AH) :
   za2 fuel d n (.exit 2) [(0, .slice x0), (1, .int .i64 x1), (2, .int .i64 x2), (3, .func x3f x3c), (9, .int .i64 x9), (10, .int .i64 x10)] h =
 (bif (decide (x9 = x2)) then (some (.ret, [(8, .bool true)], h)) else ((bif (decide ((IntKind.wrap .i64 (x2 - x1)) < (50 : Int))) then (some (.ret, [(8, .bool false)], h)) else ((AH.addr h 1 x0 (IntKind.wrap .i64 (x9 - (1 : Int)))).bind fun p1 =>
   (AH.cell h p1).bind fun u2 =>
   (AV.int? .i64 u2).bind fun n3 =>
   (AH.addr h 1 x0 x9).bind fun p4 =>
   (AH.cell h p4).bind fun u5 =>
   (AV.int? .i64 u5).bind fun n6 =>
   (AH.addr h 1 x0 x9).bind fun p7 =>
   (AH.storeAt h [(AV.int .i64 n3)] p7).bind fun h8 =>
   (AH.addr h8 1 x0 (IntKind.wrap .i64 (x9 - (1 : Int)))).bind fun p9 =>
   (AH.storeAt h8 [(AV.int .i64 n6)] p9).bind fun h10 =>
   ((bif (decide ((2 : Int) ≤ (IntKind.wrap .i64 (x9 - x1)))) then ((zas fuel d fuel [(0, .slice x0), (1, .int .i64 x1), (2, .int .i64 x2), (3, .func x3f x3c), (9, .int .i64 x9), (10, .int .i64 x10), (11, (AV.int .i64 (IntKind.wrap .i64 (x9 - (1 : Int)))))] h10).bind fun p11 =>
   za0 fuel d n p11.1 p11.2.1 p11.2.2) else (some (.normal, [(0, .slice x0), (1, .int .i64 x1), (2, .int .i64 x2), (3, .func x3f x3c), (9, .int .i64 x9), (10, .int .i64 x10)], h10)))).bind fun p12 =>
   zaE fuel d n p12.1 p12.2.1 p12.2.2)))) := by
 generalize hh : za2 = R
 rw [zdK] at hh
 subst hh
 generalize hh : zas = R
 rw [zdC] at hh
 subst hh
 generalize hh : za0 = R
 rw [zdI] at hh
 subst hh
 generalize hh : zaE = R
 rw [zdH] at hh
 subst hh
 kernel_rfl
theorem zcv (fuel d : Nat) (n : Nat) (x0 : Sl) (x1 : Int) (x2 : Int) (x3f : Nat) (x3c : List Pt) (x9 : Int) (x10 : Int) (x36 : Bool) (h : AH) :
   za1 fuel d n .normal [(0, .slice x0), (1, .int .i64 x1), (2, .int .i64 x2), (3, .func x3f x3c), (9, .int .i64 x9), (10, .int .i64 x10), (36, .bool x36)] h =
 (bif x36 then (zao fuel d n [(0, .slice x0), (1, .int .i64 x1), (2, .int .i64 x2), (3, .func x3f x3c), (9, (AV.int .i64 (IntKind.wrap .i64 (x9 + (1 : Int))))), (10, .int .i64 x10)] h) else (some ((.exit 2), [(0, .slice x0), (1, .int .i64 x1), (2, .int .i64 x2), (3, .func x3f x3c), (9, .int .i64 x9), (10, .int .i64 x10)], h))) := by
 generalize hh : zao = R
 rw [zcb] at hh
 subst hh
 generalize hh : za1 = R
 rw [zdJ] at hh
 subst hh
 kernel_rfl
theorem zdD (fuel d : Nat) (n : Nat) (x0 : Sl) (x1 : Int) (x2 : Int) (x3f : Nat) (x3c : List Pt) (x9 : Int) (x10 : Int) (x11 : Int) (h : AH) :
   zas fuel d (n + 1) [(0, .slice x0), (1, .int .i64 x1), (2, .int .i64 x2), (3, .func x3f x3c), (9, .int .i64 x9), (10, .int .i64 x10), (11, .int .i64 x11)] h =
 (bif (decide ((1 : Int) ≤ x11)) then ((AH.addr h 1 x0 x11).bind fun p1 =>
   (AH.cell h p1).bind fun u2 =>
   (AV.int? .i64 u2).bind fun n3 =>
   (AH.addr h 1 x0 (IntKind.wrap .i64 (x11 - (1 : Int)))).bind fun p4 =>
   (AH.cell h p4).bind fun u5 =>
   (AV.int? .i64 u5).bind fun n6 =>
   (run fuel d x3f ([(AV.int .i64 n3), .int .i64 n6] ++ List.map AV.ptr x3c) h).bind fun r7 =>
   (AV.int? .i64 r7.1).bind fun n8 =>
   (bif (!(decide (n8 < (0 : Int)))) then (some ((.exit 4), [(0, .slice x0), (1, .int .i64 x1), (2, .int .i64 x2), (3, .func x3f x3c), (9, .int .i64 x9), (10, .int .i64 x10)], r7.2)) else ((AH.addr r7.2 1 x0 (IntKind.wrap .i64 (x11 - (1 : Int)))).bind fun p9 =>
   (AH.cell r7.2 p9).bind fun u10 =>
   (AV.int? .i64 u10).bind fun n11 =>
   (AH.addr r7.2 1 x0 x11).bind fun p12 =>
   (AH.cell r7.2 p12).bind fun u13 =>
   (AV.int? .i64 u13).bind fun n14 =>
   (AH.addr r7.2 1 x0 x11).bind fun p15 =>
   (AH.storeAt r7.2 [(AV.int .i64 n11)] p15).bind fun h16 =>
   (AH.addr h16 1 x0 (IntKind.wrap .i64 (x11 - (1 : Int)))).bind fun p17 =>
   (AH.storeAt h16 [(AV.int .i64 n14)] p17).bind fun h18 =>
   zas fuel d n [(0, .slice x0), (1, .int .i64 x1), (2, .int .i64 x2), (3, .func x3f x3c), (9, .int .i64 x9), (10, .int .i64 x10), (11, (AV.int .i64 (IntKind.wrap .i64 (x11 - (1 : Int)))))] h18))) else (some ((.exit 4), [(0, .slice x0), (1, .int .i64 x1), (2, .int .i64 x2), (3, .func x3f x3c), (9, .int .i64 x9), (10, .int .i64 x10)], h))) := by
 generalize hh : run = R
 rw [zaD] at hh
 subst hh
 generalize hh : zas = R
 rw [zdC] at hh
 subst hh
 kernel_rfl
theorem zhn (fuel d : Nat) (n : Nat) (x0 : Sl) (x1 : Int) (x2 : Int) (x3f : Nat) (x3c : List Pt) (x9 : Int) (x10 : Int) (h : AH) :
   za0 fuel d n (.exit 4) [(0, .slice x0), (1, .int .i64 x1), (2, .int .i64 x2), (3, .func x3f x3c), (9, .int .i64 x9), (10, .int .i64 x10)] h =
 some (.normal, [(0, .slice x0), (1, .int .i64 x1), (2, .int .i64 x2), (3, .func x3f x3c), (9, .int .i64 x9), (10, .int .i64 x10)], h) := by
 generalize hh : za0 = R
 rw [zdI] at hh
 subst hh
 kernel_rfl
theorem zhQ (fuel d : Nat) (n : Nat) (x0 : Sl) (x1 : Int) (x2 : Int) (x3f : Nat) (x3c : List Pt) (x9 : Int) (x10 : Int) (h : AH) :
   zaE fuel d n .normal [(0, .slice x0), (1, .int .i64 x1), (2, .int .i64 x2), (3, .func x3f x3c), (9, .int .i64 x9), (10, .int .i64 x10)] h =
 (bif (decide ((2 : Int) ≤ (IntKind.wrap .i64 (x2 - x9)))) then ((zar fuel d fuel [(0, .slice x0), (1, .int .i64 x1), (2, .int .i64 x2), (3, .func x3f x3c), (9, .int .i64 x9), (10, .int .i64 x10), (12, (AV.int .i64 (IntKind.wrap .i64 (x9 + (1 : Int)))))] h).bind fun p1 =>
   zaZ fuel d n p1.1 p1.2.1 p1.2.2) else (zai fuel d n [(0, .slice x0), (1, .int .i64 x1), (2, .int .i64 x2), (3, .func x3f x3c), (9, .int .i64 x9), (10, (AV.int .i64 (IntKind.wrap .i64 (x10 + (1 : Int)))))] h)) := by
 generalize hh : zai = R
 rw [zbm] at hh
 subst hh
 generalize hh : zaE = R
 rw [zdH] at hh
 subst hh
 generalize hh : zar = R
 rw [zdA] at hh
 subst hh
 generalize hh : zaZ = R
 rw [zdG] at hh
 subst hh
 kernel_rfl
theorem zdB (fuel d : Nat) (n : Nat) (x0 : Sl) (x1 : Int) (x2 : Int) (x3f : Nat) (x3c : List Pt) (x9 : Int) (x10 : Int) (x12 : Int) (h : AH) :
   zar fuel d (n + 1) [(0, .slice x0), (1, .int .i64 x1), (2, .int .i64 x2), (3, .func x3f x3c), (9, .int .i64 x9), (10, .int .i64 x10), (12, .int .i64 x12)] h =
 (bif (decide (x12 < x2)) then ((AH.addr h 1 x0 x12).bind fun p1 =>
   (AH.cell h p1).bind fun u2 =>
   (AV.int? .i64 u2).bind fun n3 =>
   (AH.addr h 1 x0 (IntKind.wrap .i64 (x12 - (1 : Int)))).bind fun p4 =>
   (AH.cell h p4).bind fun u5 =>
   (AV.int? .i64 u5).bind fun n6 =>
   (run fuel d x3f ([(AV.int .i64 n3), .int .i64 n6] ++ List.map AV.ptr x3c) h).bind fun r7 =>
   (AV.int? .i64 r7.1).bind fun n8 =>
   (bif (!(decide (n8 < (0 : Int)))) then (some ((.exit 6), [(0, .slice x0), (1, .int .i64 x1), (2, .int .i64 x2), (3, .func x3f x3c), (9, .int .i64 x9), (10, .int .i64 x10)], r7.2)) else ((AH.addr r7.2 1 x0 (IntKind.wrap .i64 (x12 - (1 : Int)))).bind fun p9 =>
   (AH.cell r7.2 p9).bind fun u10 =>
   (AV.int? .i64 u10).bind fun n11 =>
   (AH.addr r7.2 1 x0 x12).bind fun p12 =>
   (AH.cell r7.2 p12).bind fun u13 =>
   (AV.int? .i64 u13).bind fun n14 =>
   (AH.addr r7.2 1 x0 x12).bind fun p15 =>
   (AH.storeAt r7.2 [(AV.int .i64 n11)] p15).bind fun h16 =>
   (AH.addr h16 1 x0 (IntKind.wrap .i64 (x12 - (1 : Int)))).bind fun p17 =>
   (AH.storeAt h16 [(AV.int .i64 n14)] p17).bind fun h18 =>
   zar fuel d n [(0, .slice x0), (1, .int .i64 x1), (2, .int .i64 x2), (3, .func x3f x3c), (9, .int .i64 x9), (10, .int .i64 x10), (12, (AV.int .i64 (IntKind.wrap .i64 (x12 + (1 : Int)))))] h18))) else (some ((.exit 6), [(0, .slice x0), (1, .int .i64 x1), (2, .int .i64 x2), (3, .func x3f x3c), (9, .int .i64 x9), (10, .int .i64 x10)], h))) := by
 generalize hh : run = R
 rw [zaD] at hh
 subst hh
 generalize hh : zar = R
 rw [zdA] at hh
 subst hh
 kernel_rfl
theorem zhm (fuel d : Nat) (n : Nat) (x0 : Sl) (x1 : Int) (x2 : Int) (x3f : Nat) (x3c : List Pt) (x9 : Int) (x10 : Int) (h : AH) :
   zaZ fuel d n (.exit 6) [(0, .slice x0), (1, .int .i64 x1), (2, .int .i64 x2), (3, .func x3f x3c), (9, .int .i64 x9), (10, .int .i64 x10)] h =
 zai fuel d n [(0, .slice x0), (1, .int .i64 x1), (2, .int .i64 x2), (3, .func x3f x3c), (9, .int .i64 x9), (10, (AV.int .i64 (IntKind.wrap .i64 (x10 + (1 : Int)))))] h := by
 generalize hh : zai = R
 rw [zbm] at hh
 subst hh
 generalize hh : zaZ = R
 rw [zdG] at hh
 subst hh
 kernel_rfl
noncomputable def zdr (fuel d : Nat) : Run := fun fr h k => zf8 (Cf fuel zag) false (zak (C fuel) false d) (zak (C fuel) true d) 90 (csub [true, true, true, false, false, false] (zbV Go.Proofs.Tryd.f95)) (asub [true, true, true, false, false, false] an95) fr h k
noncomputable def zfy (fuel d : Nat) (n : Nat) (fr : Fr) (h : AH) : Option (zaj × Fr × AH) := ziV (zdr fuel d) (some [0, 1, 4, 11, 12]) n fr h (kOut [11])
noncomputable def zax : Nat → Nat → Nat → Fr → AH → Option (zaj × Fr × AH) := hide zfy
theorem zcY : zax = zfy := zae _
noncomputable def zfE (fuel d : Nat) : zaj → Fr → AH → Option (AV × AH) := (zbG 0 (kSeq (Cf fuel zag) false (zak (C fuel) false d) (zak (C fuel) true d) 90 (csub [true, true, true, true] (zbV Go.Proofs.Tryd.f95)) (asub [true, true, true, true] an95) (kRet (Cf fuel zag) Go.Proofs.Tryd.f95.results.toList)))
noncomputable def zbA : Nat → Nat → zaj → Fr → AH → Option (AV × AH) := hide zfE
theorem ze6 : zbA = zfE := zae _
noncomputable def zfH (fuel d : Nat) : Run := fun fr h k => zf8 (Cf fuel zag) false (zak (C fuel) false d) (zak (C fuel) true d) 90 (csub [true, true, true, false, false, false, false, false, false, false] (zbV Go.Proofs.Tryd.f95)) (asub [true, true, true, false, false, false, false, false, false, false] an95) fr h k
noncomputable def zfx (fuel d : Nat) (n : Nat) (fr : Fr) (h : AH) : Option (zaj × Fr × AH) := ziV (zfH fuel d) (some [0, 1, 4, 11, 12]) n fr h (kOut [0, 1, 4, 11, 12])
noncomputable def zaw : Nat → Nat → Nat → Fr → AH → Option (zaj × Fr × AH) := hide zfx
theorem zcX : zaw = zfx := zae _
noncomputable def zfD (fuel d : Nat) (n : Nat) : zaj → Fr → AH → Option (zaj × Fr × AH) := (zbG 2 (kSeq (Cf fuel zag) false (zak (C fuel) false d) (zak (C fuel) true d) 90 (csub [true, true, true, false, false, false, false, true] (zbV Go.Proofs.Tryd.f95)) (asub [true, true, true, false, false, false, false, true] an95) (zbG 1 (zo9 (zdr fuel d) (some [0, 1, 4, 11, 12]) n (kOut [11])))))
noncomputable def zbz : Nat → Nat → Nat → zaj → Fr → AH → Option (zaj × Fr × AH) := hide zfD
theorem ze5 : zbz = zfD := zae _
noncomputable def zfC (fuel d : Nat) (n : Nat) : zaj → Fr → AH → Option (zaj × Fr × AH) := (kSeq (Cf fuel zag) false (zak (C fuel) false d) (zak (C fuel) true d) 90 (csub [true, true, true, false, false, false, false, false, false, false, false, true] (zbV Go.Proofs.Tryd.f95)) (asub [true, true, true, false, false, false, false, false, false, false, false, true] an95) (kSeq (Cf fuel zag) false (zak (C fuel) false d) (zak (C fuel) true d) 90 (csub [true, true, true, false, false, false, false, false, false, false, true] (zbV Go.Proofs.Tryd.f95)) (asub [true, true, true, false, false, false, false, false, false, false, true] an95) (zo9 (zfH fuel d) (some [0, 1, 4, 11, 12]) n (kOut [0, 1, 4, 11, 12]))))
noncomputable def zby : Nat → Nat → Nat → zaj → Fr → AH → Option (zaj × Fr × AH) := hide zfC
theorem ze3 : zby = zfC := zae _
noncomputable def zfG (fuel d : Nat) : Run := fun fr h k => zf8 (Cf fuel zag) false (zak (C fuel) false d) (zak (C fuel) true d) 90 (csub [true, true, true, false, false, false, false, true, false, false, false] (zbV Go.Proofs.Tryd.f95)) (asub [true, true, true, false, false, false, false, true, false, false, false] an95) fr h k
noncomputable def zfw (fuel d : Nat) (n : Nat) (fr : Fr) (h : AH) : Option (zaj × Fr × AH) := ziV (zfG fuel d) (some [0, 1, 4, 11, 12]) n fr h (kOut [0, 1, 4, 11, 12])
noncomputable def zav : Nat → Nat → Nat → Fr → AH → Option (zaj × Fr × AH) := hide zfw
theorem zcW : zav = zfw := zae _
noncomputable def zfB (fuel d : Nat) (n : Nat) : zaj → Fr → AH → Option (zaj × Fr × AH) := (zbG 4 (kSeq (Cf fuel zag) false (zak (C fuel) false d) (zak (C fuel) true d) 90 (csub [true, true, true, false, false, false, false, true, true] (zbV Go.Proofs.Tryd.f95)) (asub [true, true, true, false, false, false, false, true, true] an95) (zbG 1 (zo9 (zdr fuel d) (some [0, 1, 4, 11, 12]) n (kOut [11])))))
noncomputable def zbx : Nat → Nat → Nat → zaj → Fr → AH → Option (zaj × Fr × AH) := hide zfB
theorem ze2 : zbx = zfB := zae _
noncomputable def zfA (fuel d : Nat) (n : Nat) : zaj → Fr → AH → Option (zaj × Fr × AH) := (kSeq (Cf fuel zag) false (zak (C fuel) false d) (zak (C fuel) true d) 90 (csub [true, true, true, false, false, false, false, true, false, false, false, false, true] (zbV Go.Proofs.Tryd.f95)) (asub [true, true, true, false, false, false, false, true, false, false, false, false, true] an95) (kSeq (Cf fuel zag) false (zak (C fuel) false d) (zak (C fuel) true d) 90 (csub [true, true, true, false, false, false, false, true, false, false, false, true] (zbV Go.Proofs.Tryd.f95)) (asub [true, true, true, false, false, false, false, true, false, false, false, true] an95) (zo9 (zfG fuel d) (some [0, 1, 4, 11, 12]) n (kOut [0, 1, 4, 11, 12]))))
noncomputable def zbw : Nat → Nat → Nat → zaj → Fr → AH → Option (zaj × Fr × AH) := hide zfA
theorem ze0 : zbw = zfA := zae _
theorem zkJ (fuel d : Nat) (x0 : Sl) (x1 : Int) (x2 : Int) (x3 : Int) (x4f : Nat) (x4c : List Pt) (h : AH) :
   run fuel (d + 1) zag [(AV.slice x0), .int .i64 x1, .int .i64 x2, .int .i64 x3, .func x4f x4c] h =
 (AH.addr h 1 x0 x3).bind fun p1 =>
   (AH.cell h p1).bind fun u2 =>
   (AV.int? .i64 u2).bind fun n3 =>
   (AH.addr h 1 x0 x1).bind fun p4 =>
   (AH.cell h p4).bind fun u5 =>
   (AV.int? .i64 u5).bind fun n6 =>
   (AH.addr h 1 x0 x1).bind fun p7 =>
   (AH.storeAt h [(AV.int .i64 n3)] p7).bind fun h8 =>
   (AH.addr h8 1 x0 x3).bind fun p9 =>
   (AH.storeAt h8 [(AV.int .i64 n6)] p9).bind fun h10 =>
   (zax fuel d fuel [(0, .slice x0), (1, .int .i64 x1), (4, .func x4f x4c), (11, (AV.int .i64 (IntKind.wrap .i64 (x1 + (1 : Int))))), (12, (AV.int .i64 (IntKind.wrap .i64 (x2 - (1 : Int)))))] h10).bind fun p11 =>
   zbA fuel d p11.1 p11.2.1 p11.2.2 := by
 generalize hh : run = R
 rw [zaD] at hh
 subst hh
 generalize hh : zax = R
 rw [zcY] at hh
 subst hh
 generalize hh : zbA = R
 rw [ze6] at hh
 subst hh
 kernel_rfl
theorem zeZ (fuel d : Nat) (n : Nat) (x0 : Sl) (x1 : Int) (x4f : Nat) (x4c : List Pt) (x11 : Int) (x12 : Int) (h : AH) :
   zax fuel d (n + 1) [(0, .slice x0), (1, .int .i64 x1), (4, .func x4f x4c), (11, .int .i64 x11), (12, .int .i64 x12)] h =
 (zaw fuel d fuel [(0, .slice x0), (1, .int .i64 x1), (4, .func x4f x4c), (11, .int .i64 x11), (12, .int .i64 x12)] h).bind fun p1 =>
   zbz fuel d n p1.1 p1.2.1 p1.2.2 := by
 generalize hh : zax = R
 rw [zcY] at hh
 subst hh
 generalize hh : zaw = R
 rw [zcX] at hh
 subst hh
 generalize hh : zbz = R
 rw [ze5] at hh
 subst hh
 kernel_rfl
theorem zi3 (fuel d : Nat) (x11 : Int) (h : AH) :
   zbA fuel d (.exit 0) [(11, .int .i64 x11)] h =
 some ((AV.int .i64 x11), h) := by
 generalize hh : zbA = R
 rw [ze6] at hh
 subst hh
 kernel_rfl
theorem zeY (fuel d : Nat) (n : Nat) (x0 : Sl) (x1 : Int) (x4f : Nat) (x4c : List Pt) (x11 : Int) (x12 : Int) (h : AH) :
   zaw fuel d (n + 1) [(0, .slice x0), (1, .int .i64 x1), (4, .func x4f x4c), (11, .int .i64 x11), (12, .int .i64 x12)] h =
 ((bif (decide (x11 ≤ x12)) then ((AH.addr h 1 x0 x1).bind fun p1 =>
   (AH.cell h p1).bind fun u2 =>
   (AV.int? .i64 u2).bind fun n3 =>
   (AH.addr h 1 x0 x11).bind fun p4 =>
   (AH.cell h p4).bind fun u5 =>
   (AV.int? .i64 u5).bind fun n6 =>
   (run fuel d x4f ([(AV.int .i64 n3), .int .i64 n6] ++ List.map AV.ptr x4c) h).bind fun r7 =>
   (AV.int? .i64 r7.1).bind fun n8 =>
   some (.normal, [(0, .slice x0), (1, .int .i64 x1), (4, .func x4f x4c), (11, .int .i64 x11), (12, .int .i64 x12), (47, (AV.bool (!(decide (n8 < (0 : Int))))))], r7.2)) else (some (.normal, [(0, .slice x0), (1, .int .i64 x1), (4, .func x4f x4c), (11, .int .i64 x11), (12, .int .i64 x12), (47, .bool false)], h)))).bind fun p9 =>
   zby fuel d n p9.1 p9.2.1 p9.2.2 := by
 generalize hh : run = R
 rw [zaD] at hh
 subst hh
 generalize hh : zaw = R
 rw [zcX] at hh
 subst hh
 generalize hh : zby = R
 rw [ze3] at hh
 subst hh
 kernel_rfl
theorem ze4 (fuel d : Nat) (n : Nat) (x0 : Sl) (x1 : Int) (x4f : Nat) (x4c : List Pt) (x11 : Int) (x12 : Int) (h : AH) :
   zbz fuel d n (.exit 2) [(0, .slice x0), (1, .int .i64 x1), (4, .func x4f x4c), (11, .int .i64 x11), (12, .int .i64 x12)] h =
 (zav fuel d fuel [(0, .slice x0), (1, .int .i64 x1), (4, .func x4f x4c), (11, .int .i64 x11), (12, .int .i64 x12)] h).bind fun p1 =>
   zbx fuel d n p1.1 p1.2.1 p1.2.2 := by
 generalize hh : zbz = R
 rw [ze5] at hh
 subst hh
 generalize hh : zav = R
 rw [zcW] at hh
 subst hh
 generalize hh : zbx = R
 rw [ze2] at hh
 subst hh
 kernel_rfl
theorem zdd (fuel d : Nat) (n : Nat) (x0 : Sl) (x1 : Int) (x4f : Nat) (x4c : List Pt) (x11 : Int) (x12 : Int) (x47 : Bool) (h : AH) :
   zby fuel d n .normal [(0, .slice x0), (1, .int .i64 x1), (4, .func x4f x4c), (11, .int .i64 x11), (12, .int .i64 x12), (47, .bool x47)] h =
 (bif x47 then (zaw fuel d n [(0, .slice x0), (1, .int .i64 x1), (4, .func x4f x4c), (11, (AV.int .i64 (IntKind.wrap .i64 (x11 + (1 : Int))))), (12, .int .i64 x12)] h) else (some ((.exit 2), [(0, .slice x0), (1, .int .i64 x1), (4, .func x4f x4c), (11, .int .i64 x11), (12, .int .i64 x12)], h))) := by
 generalize hh : zaw = R
 rw [zcX] at hh
 subst hh
 generalize hh : zby = R
 rw [ze3] at hh
 subst hh
 kernel_rfl
theorem zeX (fuel d : Nat) (n : Nat) (x0 : Sl) (x1 : Int) (x4f : Nat) (x4c : List Pt) (x11 : Int) (x12 : Int) (h : AH) :
   zav fuel d (n + 1) [(0, .slice x0), (1, .int .i64 x1), (4, .func x4f x4c), (11, .int .i64 x11), (12, .int .i64 x12)] h =
 ((bif (decide (x11 ≤ x12)) then ((AH.addr h 1 x0 x1).bind fun p1 =>
   (AH.cell h p1).bind fun u2 =>
   (AV.int? .i64 u2).bind fun n3 =>
   (AH.addr h 1 x0 x12).bind fun p4 =>
   (AH.cell h p4).bind fun u5 =>
   (AV.int? .i64 u5).bind fun n6 =>
   (run fuel d x4f ([(AV.int .i64 n3), .int .i64 n6] ++ List.map AV.ptr x4c) h).bind fun r7 =>
   (AV.int? .i64 r7.1).bind fun n8 =>
   some (.normal, [(0, .slice x0), (1, .int .i64 x1), (4, .func x4f x4c), (11, .int .i64 x11), (12, .int .i64 x12), (65, (AV.bool (decide (n8 < (0 : Int)))))], r7.2)) else (some (.normal, [(0, .slice x0), (1, .int .i64 x1), (4, .func x4f x4c), (11, .int .i64 x11), (12, .int .i64 x12), (65, .bool false)], h)))).bind fun p9 =>
   zbw fuel d n p9.1 p9.2.1 p9.2.2 := by
 generalize hh : run = R
 rw [zaD] at hh
 subst hh
 generalize hh : zav = R
 rw [zcW] at hh
 subst hh
 generalize hh : zbw = R
 rw [ze0] at hh
 subst hh
 kernel_rfl
theorem ze1 (fuel d : Nat) (n : Nat) (x0 : Sl) (x1 : Int) (x4f : Nat) (x4c : List Pt) (x11 : Int) (x12 : Int) (h : AH) :
   zbx fuel d n (.exit 4) [(0, .slice x0), (1, .int .i64 x1), (4, .func x4f x4c), (11, .int .i64 x11), (12, .int .i64 x12)] h =
 (bif (decide (x12 < x11)) then (some ((.exit 0), [(11, .int .i64 x11)], h)) else ((AH.addr h 1 x0 x12).bind fun p1 =>
   (AH.cell h p1).bind fun u2 =>
   (AV.int? .i64 u2).bind fun n3 =>
   (AH.addr h 1 x0 x11).bind fun p4 =>
   (AH.cell h p4).bind fun u5 =>
   (AV.int? .i64 u5).bind fun n6 =>
   (AH.addr h 1 x0 x11).bind fun p7 =>
   (AH.storeAt h [(AV.int .i64 n3)] p7).bind fun h8 =>
   (AH.addr h8 1 x0 x12).bind fun p9 =>
   (AH.storeAt h8 [(AV.int .i64 n6)] p9).bind fun h10 =>
   zax fuel d n [(0, .slice x0), (1, .int .i64 x1), (4, .func x4f x4c), (11, (AV.int .i64 (IntKind.wrap .i64 (x11 + (1 : Int))))), (12, (AV.int .i64 (IntKind.wrap .i64 (x12 - (1 : Int)))))] h10)) := by
 generalize hh : zax = R
 rw [zcY] at hh
 subst hh
 generalize hh : zbx = R
 rw [ze2] at hh
 subst hh
 kernel_rfl
theorem zdc (fuel d : Nat) (n : Nat) (x0 : Sl) (x1 : Int) (x4f : Nat) (x4c : List Pt) (x11 : Int) (x12 : Int) (x65 : Bool) (h : AH) :
   zbw fuel d n .normal [(0, .slice x0), (1, .int .i64 x1), (4, .func x4f x4c), (11, .int .i64 x11), (12, .int .i64 x12), (65, .bool x65)] h =
 (bif x65 then (zav fuel d n [(0, .slice x0), (1, .int .i64 x1), (4, .func x4f x4c), (11, .int .i64 x11), (12, (AV.int .i64 (IntKind.wrap .i64 (x12 - (1 : Int)))))] h) else (some ((.exit 4), [(0, .slice x0), (1, .int .i64 x1), (4, .func x4f x4c), (11, .int .i64 x11), (12, .int .i64 x12)], h))) := by
 generalize hh : zav = R
 rw [zcW] at hh
 subst hh
 generalize hh : zbw = R
 rw [ze0] at hh
 subst hh
 kernel_rfl
noncomputable def zht (fuel d : Nat) : Run := fun fr h k => zf8 (Cf fuel zaa) false (zak (C fuel) false d) (zak (C fuel) true d) 178 (csub [true, true, true, false, false, false] (zbV Go.Proofs.Tryd.f96)) (asub [true, true, true, false, false, false] an96) fr h k
noncomputable def zgZ (fuel d : Nat) (n : Nat) (fr : Fr) (h : AH) : Option (zaj × Fr × AH) := ziV (zht fuel d) (some [0, 1, 4, 12, 13]) n fr h (kOut [0, 1, 4, 12, 13])
noncomputable def zaK : Nat → Nat → Nat → Fr → AH → Option (zaj × Fr × AH) := hide zgZ
theorem zdR : zaK = zgZ := zae _
noncomputable def zhf (fuel d : Nat) : zaj → Fr → AH → Option (AV × AH) := (zbG 0 (kSeq (Cf fuel zaa) false (zak (C fuel) false d) (zak (C fuel) true d) 178 (csub [true, true, true, true] (zbV Go.Proofs.Tryd.f96)) (asub [true, true, true, true] an96) (kRet (Cf fuel zaa) Go.Proofs.Tryd.f96.results.toList)))
noncomputable def zcm : Nat → Nat → zaj → Fr → AH → Option (AV × AH) := hide zhf
theorem zgs : zcm = zhf := zae _
noncomputable def zhe (fuel d : Nat) (n : Nat) : zaj → Fr → AH → Option (zaj × Fr × AH) := (kSeq (Cf fuel zaa) false (zak (C fuel) false d) (zak (C fuel) true d) 178 (csub [true, true, true, false, false, false, false, true] (zbV Go.Proofs.Tryd.f96)) (asub [true, true, true, false, false, false, false, true] an96) (kSeq (Cf fuel zaa) false (zak (C fuel) false d) (zak (C fuel) true d) 178 (csub [true, true, true, false, false, false, true] (zbV Go.Proofs.Tryd.f96)) (asub [true, true, true, false, false, false, true] an96) (zo9 (zht fuel d) (some [0, 1, 4, 12, 13]) n (kOut [0, 1, 4, 12, 13]))))
noncomputable def zcl : Nat → Nat → Nat → zaj → Fr → AH → Option (zaj × Fr × AH) := hide zhe
theorem zgr : zcl = zhe := zae _
noncomputable def zhs (fuel d : Nat) : Run := fun fr h k => zf8 (Cf fuel zaa) false (zak (C fuel) false d) (zak (C fuel) true d) 178 (csub [true, true, true, true, false, false, false] (zbV Go.Proofs.Tryd.f96)) (asub [true, true, true, true, false, false, false] an96) fr h k
noncomputable def zgY (fuel d : Nat) (n : Nat) (fr : Fr) (h : AH) : Option (zaj × Fr × AH) := ziV (zhs fuel d) (some [0, 1, 4, 12, 13]) n fr h (kOut [0, 1, 4, 12, 13])
noncomputable def zaJ : Nat → Nat → Nat → Fr → AH → Option (zaj × Fr × AH) := hide zgY
theorem zdQ : zaJ = zgY := zae _
noncomputable def zhd (fuel d : Nat) : zaj → Fr → AH → Option (AV × AH) := (zbG 2 (kSeq (Cf fuel zaa) false (zak (C fuel) false d) (zak (C fuel) true d) 178 (csub [true, true, true, true, true] (zbV Go.Proofs.Tryd.f96)) (asub [true, true, true, true, true] an96) (kRet (Cf fuel zaa) Go.Proofs.Tryd.f96.results.toList)))
noncomputable def zck : Nat → Nat → zaj → Fr → AH → Option (AV × AH) := hide zhd
theorem zgq : zck = zhd := zae _
noncomputable def zhc (fuel d : Nat) (n : Nat) : zaj → Fr → AH → Option (zaj × Fr × AH) := (kSeq (Cf fuel zaa) false (zak (C fuel) false d) (zak (C fuel) true d) 178 (csub [true, true, true, true, false, false, false, false, true] (zbV Go.Proofs.Tryd.f96)) (asub [true, true, true, true, false, false, false, false, true] an96) (kSeq (Cf fuel zaa) false (zak (C fuel) false d) (zak (C fuel) true d) 178 (csub [true, true, true, true, false, false, false, true] (zbV Go.Proofs.Tryd.f96)) (asub [true, true, true, true, false, false, false, true] an96) (zo9 (zhs fuel d) (some [0, 1, 4, 12, 13]) n (kOut [0, 1, 4, 12, 13]))))
noncomputable def zcj : Nat → Nat → Nat → zaj → Fr → AH → Option (zaj × Fr × AH) := hide zhc
theorem zgp : zcj = zhc := zae _
noncomputable def zeJ (fuel d : Nat) : Run := fun fr h k => zf8 (Cf fuel zaa) false (zak (C fuel) false d) (zak (C fuel) true d) 178 (csub [true, true, true, true, true, true, true, true, true, false, false, false] (zbV Go.Proofs.Tryd.f96)) (asub [true, true, true, true, true, true, true, true, true, false, false, false] an96) fr h k
noncomputable def zgX (fuel d : Nat) (n : Nat) (fr : Fr) (h : AH) : Option (zaj × Fr × AH) := ziV (zeJ fuel d) (some [0, 1, 4, 12, 13]) n fr h (kOut [0, 1, 13])
noncomputable def zaI : Nat → Nat → Nat → Fr → AH → Option (zaj × Fr × AH) := hide zgX
theorem zdP : zaI = zgX := zae _
noncomputable def zhb (fuel d : Nat) : zaj → Fr → AH → Option (AV × AH) := (zbG 4 (kSeq (Cf fuel zaa) false (zak (C fuel) false d) (zak (C fuel) true d) 178 (csub [true, true, true, true, true, true, true, true, true, true] (zbV Go.Proofs.Tryd.f96)) (asub [true, true, true, true, true, true, true, true, true, true] an96) (kRet (Cf fuel zaa) Go.Proofs.Tryd.f96.results.toList)))
noncomputable def zci : Nat → Nat → zaj → Fr → AH → Option (AV × AH) := hide zhb
theorem zgo : zci = zhb := zae _
noncomputable def zhr (fuel d : Nat) : Run := fun fr h k => zf8 (Cf fuel zaa) false (zak (C fuel) false d) (zak (C fuel) true d) 178 (csub [true, true, true, true, true, true, true, true, true, false, false, false, false, false, false, false] (zbV Go.Proofs.Tryd.f96)) (asub [true, true, true, true, true, true, true, true, true, false, false, false, false, false, false, false] an96) fr h k
noncomputable def zgW (fuel d : Nat) (n : Nat) (fr : Fr) (h : AH) : Option (zaj × Fr × AH) := ziV (zhr fuel d) (some [0, 1, 4, 12, 13]) n fr h (kOut [0, 1, 4, 12, 13])
noncomputable def zaH : Nat → Nat → Nat → Fr → AH → Option (zaj × Fr × AH) := hide zgW
theorem zdO : zaH = zgW := zae _
noncomputable def zha (fuel d : Nat) (n : Nat) : zaj → Fr → AH → Option (zaj × Fr × AH) := (zbG 6 (kSeq (Cf fuel zaa) false (zak (C fuel) false d) (zak (C fuel) true d) 178 (csub [true, true, true, true, true, true, true, true, true, false, false, false, false, true] (zbV Go.Proofs.Tryd.f96)) (asub [true, true, true, true, true, true, true, true, true, false, false, false, false, true] an96) (zbG 5 (zo9 (zeJ fuel d) (some [0, 1, 4, 12, 13]) n (kOut [0, 1, 13])))))
noncomputable def zch : Nat → Nat → Nat → zaj → Fr → AH → Option (zaj × Fr × AH) := hide zha
theorem zgn : zch = zha := zae _
noncomputable def zg9 (fuel d : Nat) (n : Nat) : zaj → Fr → AH → Option (zaj × Fr × AH) := (kSeq (Cf fuel zaa) false (zak (C fuel) false d) (zak (C fuel) true d) 178 (csub [true, true, true, true, true, true, true, true, true, false, false, false, false, false, false, false, false, true] (zbV Go.Proofs.Tryd.f96)) (asub [true, true, true, true, true, true, true, true, true, false, false, false, false, false, false, false, false, true] an96) (kSeq (Cf fuel zaa) false (zak (C fuel) false d) (zak (C fuel) true d) 178 (csub [true, true, true, true, true, true, true, true, true, false, false, false, false, false, false, false, true] (zbV Go.Proofs.Tryd.f96)) (asub [true, true, true, true, true, true, true, true, true, false, false, false, false, false, false, false, true] an96) (zo9 (zhr fuel d) (some [0, 1, 4, 12, 13]) n (kOut [0, 1, 4, 12, 13]))))
noncomputable def zcg : Nat → Nat → Nat → zaj → Fr → AH → Option (zaj × Fr × AH) := hide zg9
theorem zgl : zcg = zg9 := zae _
noncomputable def zhq (fuel d : Nat) : Run := fun fr h k => zf8 (Cf fuel zaa) false (zak (C fuel) false d) (zak (C fuel) true d) 178 (csub [true, true, true, true, true, true, true, true, true, false, false, false, false, true, false, false, false] (zbV Go.Proofs.Tryd.f96)) (asub [true, true, true, true, true, true, true, true, true, false, false, false, false, true, false, false, false] an96) fr h k
noncomputable def zgV (fuel d : Nat) (n : Nat) (fr : Fr) (h : AH) : Option (zaj × Fr × AH) := ziV (zhq fuel d) (some [0, 1, 4, 12, 13]) n fr h (kOut [0, 1, 4, 12, 13])
noncomputable def zaG : Nat → Nat → Nat → Fr → AH → Option (zaj × Fr × AH) := hide zgV
theorem zdN : zaG = zgV := zae _
noncomputable def zg8 (fuel d : Nat) (n : Nat) : zaj → Fr → AH → Option (zaj × Fr × AH) := (zbG 8 (kSeq (Cf fuel zaa) false (zak (C fuel) false d) (zak (C fuel) true d) 178 (csub [true, true, true, true, true, true, true, true, true, false, false, false, false, true, true] (zbV Go.Proofs.Tryd.f96)) (asub [true, true, true, true, true, true, true, true, true, false, false, false, false, true, true] an96) (zbG 5 (zo9 (zeJ fuel d) (some [0, 1, 4, 12, 13]) n (kOut [0, 1, 13])))))
noncomputable def zcf : Nat → Nat → Nat → zaj → Fr → AH → Option (zaj × Fr × AH) := hide zg8
theorem zgk : zcf = zg8 := zae _
noncomputable def zg7 (fuel d : Nat) (n : Nat) : zaj → Fr → AH → Option (zaj × Fr × AH) := (kSeq (Cf fuel zaa) false (zak (C fuel) false d) (zak (C fuel) true d) 178 (csub [true, true, true, true, true, true, true, true, true, false, false, false, false, true, false, false, false, false, true] (zbV Go.Proofs.Tryd.f96)) (asub [true, true, true, true, true, true, true, true, true, false, false, false, false, true, false, false, false, false, true] an96) (kSeq (Cf fuel zaa) false (zak (C fuel) false d) (zak (C fuel) true d) 178 (csub [true, true, true, true, true, true, true, true, true, false, false, false, false, true, false, false, false, true] (zbV Go.Proofs.Tryd.f96)) (asub [true, true, true, true, true, true, true, true, true, false, false, false, false, true, false, false, false, true] an96) (zo9 (zhq fuel d) (some [0, 1, 4, 12, 13]) n (kOut [0, 1, 4, 12, 13]))))
noncomputable def zce : Nat → Nat → Nat → zaj → Fr → AH → Option (zaj × Fr × AH) := hide zg7
theorem zgi : zce = zg7 := zae _
theorem zmD (fuel d : Nat) (x0 : Sl) (x1 : Int) (x2 : Int) (x3 : Int) (x4f : Nat) (x4c : List Pt) (h : AH) :
   run fuel (d + 1) zaa [(AV.slice x0), .int .i64 x1, .int .i64 x2, .int .i64 x3, .func x4f x4c] h =
 (AH.addr h 1 x0 x3).bind fun p1 =>
   (AH.cell h p1).bind fun u2 =>
   (AV.int? .i64 u2).bind fun n3 =>
   (AH.addr h 1 x0 x1).bind fun p4 =>
   (AH.cell h p4).bind fun u5 =>
   (AV.int? .i64 u5).bind fun n6 =>
   (AH.addr h 1 x0 x1).bind fun p7 =>
   (AH.storeAt h [(AV.int .i64 n3)] p7).bind fun h8 =>
   (AH.addr h8 1 x0 x3).bind fun p9 =>
   (AH.storeAt h8 [(AV.int .i64 n6)] p9).bind fun h10 =>
   (zaK fuel d fuel [(0, .slice x0), (1, .int .i64 x1), (4, .func x4f x4c), (12, (AV.int .i64 (IntKind.wrap .i64 (x1 + (1 : Int))))), (13, (AV.int .i64 (IntKind.wrap .i64 (x2 - (1 : Int)))))] h10).bind fun p11 =>
   zcm fuel d p11.1 p11.2.1 p11.2.2 := by
 generalize hh : run = R
 rw [zaD] at hh
 subst hh
 generalize hh : zaK = R
 rw [zdR] at hh
 subst hh
 generalize hh : zcm = R
 rw [zgs] at hh
 subst hh
 kernel_rfl
theorem zgg (fuel d : Nat) (n : Nat) (x0 : Sl) (x1 : Int) (x4f : Nat) (x4c : List Pt) (x12 : Int) (x13 : Int) (h : AH) :
   zaK fuel d (n + 1) [(0, .slice x0), (1, .int .i64 x1), (4, .func x4f x4c), (12, .int .i64 x12), (13, .int .i64 x13)] h =
 ((bif (decide (x12 ≤ x13)) then ((AH.addr h 1 x0 x12).bind fun p1 =>
   (AH.cell h p1).bind fun u2 =>
   (AV.int? .i64 u2).bind fun n3 =>
   (AH.addr h 1 x0 x1).bind fun p4 =>
   (AH.cell h p4).bind fun u5 =>
   (AV.int? .i64 u5).bind fun n6 =>
   (run fuel d x4f ([(AV.int .i64 n3), .int .i64 n6] ++ List.map AV.ptr x4c) h).bind fun r7 =>
   (AV.int? .i64 r7.1).bind fun n8 =>
   some (.normal, [(0, .slice x0), (1, .int .i64 x1), (4, .func x4f x4c), (12, .int .i64 x12), (13, .int .i64 x13), (47, (AV.bool (decide (n8 < (0 : Int)))))], r7.2)) else (some (.normal, [(0, .slice x0), (1, .int .i64 x1), (4, .func x4f x4c), (12, .int .i64 x12), (13, .int .i64 x13), (47, .bool false)], h)))).bind fun p9 =>
   zcl fuel d n p9.1 p9.2.1 p9.2.2 := by
 generalize hh : run = R
 rw [zaD] at hh
 subst hh
 generalize hh : zaK = R
 rw [zdR] at hh
 subst hh
 generalize hh : zcl = R
 rw [zgr] at hh
 subst hh
 kernel_rfl
theorem zku (fuel d : Nat) (x0 : Sl) (x1 : Int) (x4f : Nat) (x4c : List Pt) (x12 : Int) (x13 : Int) (h : AH) :
   zcm fuel d (.exit 0) [(0, .slice x0), (1, .int .i64 x1), (4, .func x4f x4c), (12, .int .i64 x12), (13, .int .i64 x13)] h =
 (zaJ fuel d fuel [(0, .slice x0), (1, .int .i64 x1), (4, .func x4f x4c), (12, .int .i64 x12), (13, .int .i64 x13)] h).bind fun p1 =>
   zck fuel d p1.1 p1.2.1 p1.2.2 := by
 generalize hh : zcm = R
 rw [zgs] at hh
 subst hh
 generalize hh : zaJ = R
 rw [zdQ] at hh
 subst hh
 generalize hh : zck = R
 rw [zgq] at hh
 subst hh
 kernel_rfl
theorem zek (fuel d : Nat) (n : Nat) (x0 : Sl) (x1 : Int) (x4f : Nat) (x4c : List Pt) (x12 : Int) (x13 : Int) (x47 : Bool) (h : AH) :
   zcl fuel d n .normal [(0, .slice x0), (1, .int .i64 x1), (4, .func x4f x4c), (12, .int .i64 x12), (13, .int .i64 x13), (47, .bool x47)] h =
 (bif x47 then (zaK fuel d n [(0, .slice x0), (1, .int .i64 x1), (4, .func x4f x4c), (12, (AV.int .i64 (IntKind.wrap .i64 (x12 + (1 : Int))))), (13, .int .i64 x13)] h) else (some ((.exit 0), [(0, .slice x0), (1, .int .i64 x1), (4, .func x4f x4c), (12, .int .i64 x12), (13, .int .i64 x13)], h))) := by
 generalize hh : zaK = R
 rw [zdR] at hh
 subst hh
 generalize hh : zcl = R
 rw [zgr] at hh
 subst hh
 kernel_rfl
theorem zgf (fuel d : Nat) (n : Nat) (x0 : Sl) (x1 : Int) (x4f : Nat) (x4c : List Pt) (x12 : Int) (x13 : Int) (h : AH) :
   zaJ fuel d (n + 1) [(0, .slice x0), (1, .int .i64 x1), (4, .func x4f x4c), (12, .int .i64 x12), (13, .int .i64 x13)] h =
 ((bif (decide (x12 ≤ x13)) then ((AH.addr h 1 x0 x13).bind fun p1 =>
   (AH.cell h p1).bind fun u2 =>
   (AV.int? .i64 u2).bind fun n3 =>
   (AH.addr h 1 x0 x1).bind fun p4 =>
   (AH.cell h p4).bind fun u5 =>
   (AV.int? .i64 u5).bind fun n6 =>
   (run fuel d x4f ([(AV.int .i64 n3), .int .i64 n6] ++ List.map AV.ptr x4c) h).bind fun r7 =>
   (AV.int? .i64 r7.1).bind fun n8 =>
   some (.normal, [(0, .slice x0), (1, .int .i64 x1), (4, .func x4f x4c), (12, .int .i64 x12), (13, .int .i64 x13), (66, (AV.bool (!(decide (n8 < (0 : Int))))))], r7.2)) else (some (.normal, [(0, .slice x0), (1, .int .i64 x1), (4, .func x4f x4c), (12, .int .i64 x12), (13, .int .i64 x13), (66, .bool false)], h)))).bind fun p9 =>
   zcj fuel d n p9.1 p9.2.1 p9.2.2 := by
 generalize hh : run = R
 rw [zaD] at hh
 subst hh
 generalize hh : zaJ = R
 rw [zdQ] at hh
 subst hh
 generalize hh : zcj = R
 rw [zgp] at hh
 subst hh
 kernel_rfl
theorem zkt (fuel d : Nat) (x0 : Sl) (x1 : Int) (x4f : Nat) (x4c : List Pt) (x12 : Int) (x13 : Int) (h : AH) :
   zck fuel d (.exit 2) [(0, .slice x0), (1, .int .i64 x1), (4, .func x4f x4c), (12, .int .i64 x12), (13, .int .i64 x13)] h =
 (bif (decide (x13 < x12)) then ((AH.addr h 1 x0 x1).bind fun p1 =>
   (AH.cell h p1).bind fun u2 =>
   (AV.int? .i64 u2).bind fun n3 =>
   (AH.addr h 1 x0 x13).bind fun p4 =>
   (AH.cell h p4).bind fun u5 =>
   (AV.int? .i64 u5).bind fun n6 =>
   (AH.addr h 1 x0 x13).bind fun p7 =>
   (AH.storeAt h [(AV.int .i64 n3)] p7).bind fun h8 =>
   (AH.addr h8 1 x0 x1).bind fun p9 =>
   (AH.storeAt h8 [(AV.int .i64 n6)] p9).bind fun h10 =>
   some ((AV.tup [(AV.int .i64 x13), .bool true]), h10)) else ((AH.addr h 1 x0 x13).bind fun p11 =>
   (AH.cell h p11).bind fun u12 =>
   (AV.int? .i64 u12).bind fun n13 =>
   (AH.addr h 1 x0 x12).bind fun p14 =>
   (AH.cell h p14).bind fun u15 =>
   (AV.int? .i64 u15).bind fun n16 =>
   (AH.addr h 1 x0 x12).bind fun p17 =>
   (AH.storeAt h [(AV.int .i64 n13)] p17).bind fun h18 =>
   (AH.addr h18 1 x0 x13).bind fun p19 =>
   (AH.storeAt h18 [(AV.int .i64 n16)] p19).bind fun h20 =>
   (zaI fuel d fuel [(0, .slice x0), (1, .int .i64 x1), (4, .func x4f x4c), (12, (AV.int .i64 (IntKind.wrap .i64 (x12 + (1 : Int))))), (13, (AV.int .i64 (IntKind.wrap .i64 (x13 - (1 : Int)))))] h20).bind fun p21 =>
   zci fuel d p21.1 p21.2.1 p21.2.2)) := by
 generalize hh : zck = R
 rw [zgq] at hh
 subst hh
 generalize hh : zaI = R
 rw [zdP] at hh
 subst hh
 generalize hh : zci = R
 rw [zgo] at hh
 subst hh
 kernel_rfl
theorem zej (fuel d : Nat) (n : Nat) (x0 : Sl) (x1 : Int) (x4f : Nat) (x4c : List Pt) (x12 : Int) (x13 : Int) (x66 : Bool) (h : AH) :
   zcj fuel d n .normal [(0, .slice x0), (1, .int .i64 x1), (4, .func x4f x4c), (12, .int .i64 x12), (13, .int .i64 x13), (66, .bool x66)] h =
 (bif x66 then (zaJ fuel d n [(0, .slice x0), (1, .int .i64 x1), (4, .func x4f x4c), (12, .int .i64 x12), (13, (AV.int .i64 (IntKind.wrap .i64 (x13 - (1 : Int)))))] h) else (some ((.exit 2), [(0, .slice x0), (1, .int .i64 x1), (4, .func x4f x4c), (12, .int .i64 x12), (13, .int .i64 x13)], h))) := by
 generalize hh : zaJ = R
 rw [zdQ] at hh
 subst hh
 generalize hh : zcj = R
 rw [zgp] at hh
 subst hh
 kernel_rfl
theorem zge (fuel d : Nat) (n : Nat) (x0 : Sl) (x1 : Int) (x4f : Nat) (x4c : List Pt) (x12 : Int) (x13 : Int) (h : AH) :
   zaI fuel d (n + 1) [(0, .slice x0), (1, .int .i64 x1), (4, .func x4f x4c), (12, .int .i64 x12), (13, .int .i64 x13)] h =
 (zaH fuel d fuel [(0, .slice x0), (1, .int .i64 x1), (4, .func x4f x4c), (12, .int .i64 x12), (13, .int .i64 x13)] h).bind fun p1 =>
   zch fuel d n p1.1 p1.2.1 p1.2.2 := by
 generalize hh : zaI = R
 rw [zdP] at hh
 subst hh
 generalize hh : zaH = R
 rw [zdO] at hh
 subst hh
 generalize hh : zch = R
 rw [zgn] at hh
 subst hh
 kernel_rfl
theorem zks (fuel d : Nat) (x0 : Sl) (x1 : Int) (x13 : Int) (h : AH) :
   zci fuel d (.exit 4) [(0, .slice x0), (1, .int .i64 x1), (13, .int .i64 x13)] h =
 (AH.addr h 1 x0 x1).bind fun p1 =>
   (AH.cell h p1).bind fun u2 =>
   (AV.int? .i64 u2).bind fun n3 =>
   (AH.addr h 1 x0 x13).bind fun p4 =>
   (AH.cell h p4).bind fun u5 =>
   (AV.int? .i64 u5).bind fun n6 =>
   (AH.addr h 1 x0 x13).bind fun p7 =>
   (AH.storeAt h [(AV.int .i64 n3)] p7).bind fun h8 =>
   (AH.addr h8 1 x0 x1).bind fun p9 =>
   (AH.storeAt h8 [(AV.int .i64 n6)] p9).bind fun h10 =>
   some ((AV.tup [(AV.int .i64 x13), .bool false]), h10) := by
 generalize hh : zci = R
 rw [zgo] at hh
 subst hh
 kernel_rfl
theorem zgd (fuel d : Nat) (n : Nat) (x0 : Sl) (x1 : Int) (x4f : Nat) (x4c : List Pt) (x12 : Int) (x13 : Int) (h : AH) :
   zaH fuel d (n + 1) [(0, .slice x0), (1, .int .i64 x1), (4, .func x4f x4c), (12, .int .i64 x12), (13, .int .i64 x13)] h =
 ((bif (decide (x12 ≤ x13)) then ((AH.addr h 1 x0 x12).bind fun p1 =>
   (AH.cell h p1).bind fun u2 =>
   (AV.int? .i64 u2).bind fun n3 =>
   (AH.addr h 1 x0 x1).bind fun p4 =>
   (AH.cell h p4).bind fun u5 =>
   (AV.int? .i64 u5).bind fun n6 =>
   (run fuel d x4f ([(AV.int .i64 n3), .int .i64 n6] ++ List.map AV.ptr x4c) h).bind fun r7 =>
   (AV.int? .i64 r7.1).bind fun n8 =>
   some (.normal, [(0, .slice x0), (1, .int .i64 x1), (4, .func x4f x4c), (12, .int .i64 x12), (13, .int .i64 x13), (120, (AV.bool (decide (n8 < (0 : Int)))))], r7.2)) else (some (.normal, [(0, .slice x0), (1, .int .i64 x1), (4, .func x4f x4c), (12, .int .i64 x12), (13, .int .i64 x13), (120, .bool false)], h)))).bind fun p9 =>
   zcg fuel d n p9.1 p9.2.1 p9.2.2 := by
 generalize hh : run = R
 rw [zaD] at hh
 subst hh
 generalize hh : zaH = R
 rw [zdO] at hh
 subst hh
 generalize hh : zcg = R
 rw [zgl] at hh
 subst hh
 kernel_rfl
theorem zgm (fuel d : Nat) (n : Nat) (x0 : Sl) (x1 : Int) (x4f : Nat) (x4c : List Pt) (x12 : Int) (x13 : Int) (h : AH) :
   zch fuel d n (.exit 6) [(0, .slice x0), (1, .int .i64 x1), (4, .func x4f x4c), (12, .int .i64 x12), (13, .int .i64 x13)] h =
 (zaG fuel d fuel [(0, .slice x0), (1, .int .i64 x1), (4, .func x4f x4c), (12, .int .i64 x12), (13, .int .i64 x13)] h).bind fun p1 =>
   zcf fuel d n p1.1 p1.2.1 p1.2.2 := by
 generalize hh : zch = R
 rw [zgn] at hh
 subst hh
 generalize hh : zaG = R
 rw [zdN] at hh
 subst hh
 generalize hh : zcf = R
 rw [zgk] at hh
 subst hh
 kernel_rfl
theorem zei (fuel d : Nat) (n : Nat) (x0 : Sl) (x1 : Int) (x4f : Nat) (x4c : List Pt) (x12 : Int) (x13 : Int) (x120 : Bool) (h : AH) :
   zcg fuel d n .normal [(0, .slice x0), (1, .int .i64 x1), (4, .func x4f x4c), (12, .int .i64 x12), (13, .int .i64 x13), (120, .bool x120)] h =
 (bif x120 then (zaH fuel d n [(0, .slice x0), (1, .int .i64 x1), (4, .func x4f x4c), (12, (AV.int .i64 (IntKind.wrap .i64 (x12 + (1 : Int))))), (13, .int .i64 x13)] h) else (some ((.exit 6), [(0, .slice x0), (1, .int .i64 x1), (4, .func x4f x4c), (12, .int .i64 x12), (13, .int .i64 x13)], h))) := by
 generalize hh : zaH = R
 rw [zdO] at hh
 subst hh
 generalize hh : zcg = R
 rw [zgl] at hh
 subst hh
 kernel_rfl
theorem zgc (fuel d : Nat) (n : Nat) (x0 : Sl) (x1 : Int) (x4f : Nat) (x4c : List Pt) (x12 : Int) (x13 : Int) (h : AH) :
   zaG fuel d (n + 1) [(0, .slice x0), (1, .int .i64 x1), (4, .func x4f x4c), (12, .int .i64 x12), (13, .int .i64 x13)] h =
 ((bif (decide (x12 ≤ x13)) then ((AH.addr h 1 x0 x13).bind fun p1 =>
   (AH.cell h p1).bind fun u2 =>
   (AV.int? .i64 u2).bind fun n3 =>
   (AH.addr h 1 x0 x1).bind fun p4 =>
   (AH.cell h p4).bind fun u5 =>
   (AV.int? .i64 u5).bind fun n6 =>
   (run fuel d x4f ([(AV.int .i64 n3), .int .i64 n6] ++ List.map AV.ptr x4c) h).bind fun r7 =>
   (AV.int? .i64 r7.1).bind fun n8 =>
   some (.normal, [(0, .slice x0), (1, .int .i64 x1), (4, .func x4f x4c), (12, .int .i64 x12), (13, .int .i64 x13), (139, (AV.bool (!(decide (n8 < (0 : Int))))))], r7.2)) else (some (.normal, [(0, .slice x0), (1, .int .i64 x1), (4, .func x4f x4c), (12, .int .i64 x12), (13, .int .i64 x13), (139, .bool false)], h)))).bind fun p9 =>
   zce fuel d n p9.1 p9.2.1 p9.2.2 := by
 generalize hh : run = R
 rw [zaD] at hh
 subst hh
 generalize hh : zaG = R
 rw [zdN] at hh
 subst hh
 generalize hh : zce = R
 rw [zgi] at hh
 subst hh
 kernel_rfl
theorem zgj (fuel d : Nat) (n : Nat) (x0 : Sl) (x1 : Int) (x4f : Nat) (x4c : List Pt) (x12 : Int) (x13 : Int) (h : AH) :
   zcf fuel d n (.exit 8) [(0, .slice x0), (1, .int .i64 x1), (4, .func x4f x4c), (12, .int .i64 x12), (13, .int .i64 x13)] h =
 (bif (decide (x13 < x12)) then (some ((.exit 4), [(0, .slice x0), (1, .int .i64 x1), (13, .int .i64 x13)], h)) else ((AH.addr h 1 x0 x13).bind fun p1 =>
   (AH.cell h p1).bind fun u2 =>
   (AV.int? .i64 u2).bind fun n3 =>
   (AH.addr h 1 x0 x12).bind fun p4 =>
   (AH.cell h p4).bind fun u5 =>
   (AV.int? .i64 u5).bind fun n6 =>
   (AH.addr h 1 x0 x12).bind fun p7 =>
   (AH.storeAt h [(AV.int .i64 n3)] p7).bind fun h8 =>
   (AH.addr h8 1 x0 x13).bind fun p9 =>
   (AH.storeAt h8 [(AV.int .i64 n6)] p9).bind fun h10 =>
   zaI fuel d n [(0, .slice x0), (1, .int .i64 x1), (4, .func x4f x4c), (12, (AV.int .i64 (IntKind.wrap .i64 (x12 + (1 : Int))))), (13, (AV.int .i64 (IntKind.wrap .i64 (x13 - (1 : Int)))))] h10)) := by
 generalize hh : zaI = R
 rw [zdP] at hh
 subst hh
 generalize hh : zcf = R
 rw [zgk] at hh
 subst hh
 kernel_rfl
theorem zeh (fuel d : Nat) (n : Nat) (x0 : Sl) (x1 : Int) (x4f : Nat) (x4c : List Pt) (x12 : Int) (x13 : Int) (x139 : Bool) (h : AH) :
   zce fuel d n .normal [(0, .slice x0), (1, .int .i64 x1), (4, .func x4f x4c), (12, .int .i64 x12), (13, .int .i64 x13), (139, .bool x139)] h =
 (bif x139 then (zaG fuel d n [(0, .slice x0), (1, .int .i64 x1), (4, .func x4f x4c), (12, .int .i64 x12), (13, (AV.int .i64 (IntKind.wrap .i64 (x13 - (1 : Int)))))] h) else (some ((.exit 8), [(0, .slice x0), (1, .int .i64 x1), (4, .func x4f x4c), (12, .int .i64 x12), (13, .int .i64 x13)], h))) := by
 generalize hh : zaG = R
 rw [zdN] at hh
 subst hh
 generalize hh : zce = R
 rw [zgi] at hh
 subst hh
 kernel_rfl
noncomputable def zqf (fuel d : Nat) : zaj → Fr → AH → Option (AV × AH) := (kSeq (Cf fuel zhU) false (zak (C fuel) false d) (zak (C fuel) true d) 25 (csub [true, true] (zbV Go.Proofs.Tryd.f98)) (asub [true, true] an98) (kRet (Cf fuel zhU) Go.Proofs.Tryd.f98.results.toList))
noncomputable def zi6 : Nat → Nat → zaj → Fr → AH → Option (AV × AH) := hide zqf
theorem zoR : zi6 = zqf := zae _
noncomputable def zqe (fuel d : Nat) : zaj → Fr → AH → Option (AV × AH) := (kSeq (Cf fuel zhU) false (zak (C fuel) false d) (zak (C fuel) true d) 25 (csub [true, true, true] (zbV Go.Proofs.Tryd.f98)) (asub [true, true, true] an98) (kRet (Cf fuel zhU) Go.Proofs.Tryd.f98.results.toList))
noncomputable def zi5 : Nat → Nat → zaj → Fr → AH → Option (AV × AH) := hide zqe
theorem zoQ : zi5 = zqe := zae _
noncomputable def zqd (fuel d : Nat) : zaj → Fr → AH → Option (AV × AH) := (kSeq (Cf fuel zhU) false (zak (C fuel) false d) (zak (C fuel) true d) 25 (csub [true, true, true, true] (zbV Go.Proofs.Tryd.f98)) (asub [true, true, true, true] an98) (kRet (Cf fuel zhU) Go.Proofs.Tryd.f98.results.toList))
noncomputable def zi4 : Nat → Nat → zaj → Fr → AH → Option (AV × AH) := hide zqd
theorem zoP : zi4 = zqd := zae _
theorem zvL (fuel d : Nat) (x0 : Int) (h : AH) :
   brun fuel (d + 1) zhU [(AV.int .u64 x0)] h =
 ((bif (decide ((4294967296 : Int) ≤ x0)) then (some (.normal, [(0, (AV.int .u64 (Int.fdiv x0 (2 ^ min (Int.toNat (32 : Int)) (IntKind.bits .u64))))), (2, .int .i64 32)], h)) else (some (.normal, [(0, .int .u64 x0), (2, .int .i64 0)], h)))).bind fun p1 =>
   zi6 fuel d p1.1 p1.2.1 p1.2.2 := by
 generalize hh : brun = R
 rw [zcI] at hh
 subst hh
 generalize hh : zi6 = R
 rw [zoR] at hh
 subst hh
 kernel_rfl
theorem zsU (fuel d : Nat) (x0 : Int) (x2 : Int) (h : AH) :
   zi6 fuel d .normal [(0, .int .u64 x0), (2, .int .i64 x2)] h =
 ((bif (decide ((65536 : Int) ≤ x0)) then (some (.normal, [(0, (AV.int .u64 (Int.fdiv x0 (2 ^ min (Int.toNat (16 : Int)) (IntKind.bits .u64))))), (2, (AV.int .i64 (IntKind.wrap .i64 (x2 + (16 : Int)))))], h)) else (some (.normal, [(0, .int .u64 x0), (2, .int .i64 x2)], h)))).bind fun p1 =>
   zi5 fuel d p1.1 p1.2.1 p1.2.2 := by
 generalize hh : zi6 = R
 rw [zoR] at hh
 subst hh
 generalize hh : zi5 = R
 rw [zoQ] at hh
 subst hh
 kernel_rfl
theorem zsT (fuel d : Nat) (x0 : Int) (x2 : Int) (h : AH) :
   zi5 fuel d .normal [(0, .int .u64 x0), (2, .int .i64 x2)] h =
 ((bif (decide ((256 : Int) ≤ x0)) then (some (.normal, [(0, (AV.int .u64 (Int.fdiv x0 (2 ^ min (Int.toNat (8 : Int)) (IntKind.bits .u64))))), (2, (AV.int .i64 (IntKind.wrap .i64 (x2 + (8 : Int)))))], h)) else (some (.normal, [(0, .int .u64 x0), (2, .int .i64 x2)], h)))).bind fun p1 =>
   zi4 fuel d p1.1 p1.2.1 p1.2.2 := by
 generalize hh : zi5 = R
 rw [zoQ] at hh
 subst hh
 generalize hh : zi4 = R
 rw [zoP] at hh
 subst hh
 kernel_rfl
theorem zsS (fuel d : Nat) (x0 : Int) (x2 : Int) (h : AH) :
   zi4 fuel d .normal [(0, .int .u64 x0), (2, .int .i64 x2)] h =
 (zAa znB (IntKind.wrap .u8 x0)).bind fun n1 =>
   some ((AV.int .i64 (IntKind.wrap .i64 (x2 + (IntKind.wrap .i64 n1)))), h) := by
 generalize hh : zi4 = R
 rw [zoP] at hh
 subst hh
 kernel_rfl
theorem ztw (fuel d : Nat) (x0 : Int) (h : AH) :
   brun fuel (d + 1) zlu [(AV.int .i64 x0)] h =
 some ((AV.bool (!decide (x0 = x0))), h) := by
 generalize hh : brun = R
 rw [zcI] at hh
 subst hh
 kernel_rfl
theorem zp1 (fuel d : Nat)  (h : AH) :
   brun fuel (d + 1) zjn [] h =
 ((bif (Nat.beq (List.length (AV.cells zdL)) 1 && Nat.ble (0 + 1) (List.length [AV.nilif, AV.nilif, AV.nilif, AV.nilif, AV.nilif, AV.nilif, AV.nilif]) && List.all (AV.cells zdL) AV.isCell) then ((bif (Nat.beq (List.length (AV.cells zdW)) 1 && Nat.ble (1 + 1) (List.length (AH.overlay [AV.nilif, AV.nilif, AV.nilif, AV.nilif, AV.nilif, AV.nilif, AV.nilif] 0 (AV.cells zdL))) && List.all (AV.cells zdW) AV.isCell) then ((bif (Nat.beq (List.length (AV.cells zee)) 1 && Nat.ble (2 + 1) (List.length (AH.overlay (AH.overlay [AV.nilif, AV.nilif, AV.nilif, AV.nilif, AV.nilif, AV.nilif, AV.nilif] 0 (AV.cells zdL)) 1 (AV.cells zdW))) && List.all (AV.cells zee) AV.isCell) then ((bif (Nat.beq (List.length (AV.cells zdm)) 1 && Nat.ble (3 + 1) (List.length (AH.overlay (AH.overlay (AH.overlay [AV.nilif, AV.nilif, AV.nilif, AV.nilif, AV.nilif, AV.nilif, AV.nilif] 0 (AV.cells zdL)) 1 (AV.cells zdW)) 2 (AV.cells zee))) && List.all (AV.cells zdm) AV.isCell) then ((bif (Nat.beq (List.length (AV.cells zga)) 1 && Nat.ble (4 + 1) (List.length (AH.overlay (AH.overlay (AH.overlay (AH.overlay [AV.nilif, AV.nilif, AV.nilif, AV.nilif, AV.nilif, AV.nilif, AV.nilif] 0 (AV.cells zdL)) 1 (AV.cells zdW)) 2 (AV.cells zee)) 3 (AV.cells zdm))) && List.all (AV.cells zga) AV.isCell) then ((bif (Nat.beq (List.length (AV.cells ziR)) 1 && Nat.ble (5 + 1) (List.length (AH.overlay (AH.overlay (AH.overlay (AH.overlay (AH.overlay [AV.nilif, AV.nilif, AV.nilif, AV.nilif, AV.nilif, AV.nilif, AV.nilif] 0 (AV.cells zdL)) 1 (AV.cells zdW)) 2 (AV.cells zee)) 3 (AV.cells zdm)) 4 (AV.cells zga))) && List.all (AV.cells ziR) AV.isCell) then ((bif (Nat.beq (List.length (AV.cells zlt)) 1 && Nat.ble (6 + 1) (List.length (AH.overlay (AH.overlay (AH.overlay (AH.overlay (AH.overlay (AH.overlay [AV.nilif, AV.nilif, AV.nilif, AV.nilif, AV.nilif, AV.nilif, AV.nilif] 0 (AV.cells zdL)) 1 (AV.cells zdW)) 2 (AV.cells zee)) 3 (AV.cells zdm)) 4 (AV.cells zga)) 5 (AV.cells ziR))) && List.all (AV.cells zlt) AV.isCell) then ((some (AH.overlay (AH.overlay (AH.overlay (AH.overlay (AH.overlay (AH.overlay (AH.overlay [AV.nilif, AV.nilif, AV.nilif, AV.nilif, AV.nilif, AV.nilif, AV.nilif] 0 (AV.cells zdL)) 1 (AV.cells zdW)) 2 (AV.cells zee)) 3 (AV.cells zdm)) 4 (AV.cells zga)) 5 (AV.cells ziR)) 6 (AV.cells zlt)))) else (none))) else (none))) else (none))) else (none))) else (none))) else (none))) else (none))).bind fun c1 =>
   some ((AV.slice (Sl.lst 7 true c1)), h) := by
 generalize hh : brun = R
 rw [zcI] at hh
 subst hh
 kernel_rfl
theorem zr5 (fuel d : Nat) (x0 : AV) (x1 : AV) (h : AH) :
   brun fuel (d + 1) zh9 [x0, x1] h =
 (zd0 .iface x0).bind fun b1 =>
   ((bif ((b1) == false) then ((zd0 .iface x1).bind fun b2 =>
   some ((AV.bool (b2)), h)) else (some ((AV.bool true), h)) : Option (AV × AH))).bind fun r3 =>
   (AV.bool? r3.1).bind fun b4 =>
   (bif b4 then ((zd0 .iface x0).bind fun b5 =>
   ((bif ((b5) == true) then ((zd0 .iface x1).bind fun b6 =>
   some ((AV.bool (b6)), r3.2)) else (some ((AV.bool false), r3.2)) : Option (AV × AH))).bind fun r7 =>
   (AV.bool? r7.1).bind fun b8 =>
   some ((AV.bool b8), r7.2)) else ((znA (Cf fuel zh9) x0 x1).bind fun b9 =>
   some ((AV.bool (b9)), r3.2))) := by
 generalize hh : brun = R
 rw [zcI] at hh
 subst hh
 kernel_rfl
noncomputable def ze9 (fuel d : Nat) : Run := fun fr h k => zf8 (Cf fuel zaR) false (zak (C fuel) false d) (zak (C fuel) true d) 82 (csub [true, false, false] (zbV Go.Proofs.Tryd.f102)) (asub [true, false, false] zCI) fr h k
noncomputable def zhu (fuel d : Nat) (n : Nat) (fr : Fr) (h : AH) : Option (zaj × Fr × AH) := ziV (ze9 fuel d) (some [0, 2, 3, 4, 10]) n fr h (kOut [])
noncomputable def zaT : Nat → Nat → Nat → Fr → AH → Option (zaj × Fr × AH) := hide zhu
theorem zef : zaT = zhu := zae _
noncomputable def zhH (fuel d : Nat) : zaj → Fr → AH → Option (AV × AH) := (zbG 0 (kRet (Cf fuel zaR) Go.Proofs.Tryd.f102.results.toList))
noncomputable def zbl : Nat → Nat → zaj → Fr → AH → Option (AV × AH) := hide zhH
theorem zeg : zbl = zhH := zae _
noncomputable def zhG (fuel d : Nat) (n : Nat) : zaj → Fr → AH → Option (zaj × Fr × AH) := (kSeq (Cf fuel zaR) false (zak (C fuel) false d) (zak (C fuel) true d) 82 (csub [true, false, false, false, true, true, false, true] (zbV Go.Proofs.Tryd.f102)) (asub [true, false, false, false, true, true, false, true] zCI) (kSeq (Cf fuel zaR) false (zak (C fuel) false d) (zak (C fuel) true d) 82 (csub [true, false, false, false, true, true, true] (zbV Go.Proofs.Tryd.f102)) (asub [true, false, false, false, true, true, true] zCI) (zbG 1 (zo9 (ze9 fuel d) (some [0, 2, 3, 4, 10]) n (kOut [])))))
noncomputable def zcy : Nat → Nat → Nat → zaj → Fr → AH → Option (zaj × Fr × AH) := hide zhG
theorem zgQ : zcy = zhG := zae _
noncomputable def zhF (fuel d : Nat) (n : Nat) : zaj → Fr → AH → Option (zaj × Fr × AH) := (kSeq (Cf fuel zaR) false (zak (C fuel) false d) (zak (C fuel) true d) 82 (csub [true, false, false, false, true, true, true] (zbV Go.Proofs.Tryd.f102)) (asub [true, false, false, false, true, true, true] zCI) (zbG 1 (zo9 (ze9 fuel d) (some [0, 2, 3, 4, 10]) n (kOut []))))
noncomputable def zbQ : Nat → Nat → Nat → zaj → Fr → AH → Option (zaj × Fr × AH) := hide zhF
theorem zgP : zbQ = zhF := zae _
theorem znc (fuel d : Nat) (x0 : Sl) (x1 : Int) (x2 : Int) (x3 : Int) (x4f : Nat) (x4c : List Pt) (h : AH) :
   run fuel (d + 1) zaR [(AV.slice x0), .int .i64 x1, .int .i64 x2, .int .i64 x3, .func x4f x4c] h =
 (zaT fuel d fuel [(0, .slice x0), (2, .int .i64 x2), (3, .int .i64 x3), (4, .func x4f x4c), (10, .int .i64 x1)] h).bind fun p1 =>
   zbl fuel d p1.1 p1.2.1 p1.2.2 := by
 generalize hh : run = R
 rw [zaD] at hh
 subst hh
 generalize hh : zaT = R
 rw [zef] at hh
 subst hh
 generalize hh : zbl = R
 rw [zeg] at hh
 subst hh
 kernel_rfl
theorem zgJ (fuel d : Nat) (n : Nat) (x0 : Sl) (x2 : Int) (x3 : Int) (x4f : Nat) (x4c : List Pt) (x10 : Int) (h : AH) :
   zaT fuel d (n + 1) [(0, .slice x0), (2, .int .i64 x2), (3, .int .i64 x3), (4, .func x4f x4c), (10, .int .i64 x10)] h =
 (bif (decide (x2 ≤ (IntKind.wrap .i64 ((IntKind.wrap .i64 ((2 : Int) * x10)) + (1 : Int))))) then (some ((.exit 0), [], h)) else (((bif (decide ((IntKind.wrap .i64 ((IntKind.wrap .i64 ((IntKind.wrap .i64 ((2 : Int) * x10)) + (1 : Int))) + (1 : Int))) < x2)) then ((AH.addr h 1 x0 (IntKind.wrap .i64 (x3 + (IntKind.wrap .i64 ((IntKind.wrap .i64 ((2 : Int) * x10)) + (1 : Int)))))).bind fun p1 =>
   (AH.cell h p1).bind fun u2 =>
   (AV.int? .i64 u2).bind fun n3 =>
   (AH.addr h 1 x0 (IntKind.wrap .i64 ((IntKind.wrap .i64 (x3 + (IntKind.wrap .i64 ((IntKind.wrap .i64 ((2 : Int) * x10)) + (1 : Int))))) + (1 : Int)))).bind fun p4 =>
   (AH.cell h p4).bind fun u5 =>
   (AV.int? .i64 u5).bind fun n6 =>
   (run fuel d x4f ([(AV.int .i64 n3), .int .i64 n6] ++ List.map AV.ptr x4c) h).bind fun r7 =>
   (AV.int? .i64 r7.1).bind fun n8 =>
   some (.normal, [(0, .slice x0), (2, .int .i64 x2), (3, .int .i64 x3), (4, .func x4f x4c), (10, .int .i64 x10), (11, (AV.int .i64 (IntKind.wrap .i64 ((IntKind.wrap .i64 ((2 : Int) * x10)) + (1 : Int))))), (40, (AV.bool (decide (n8 < (0 : Int)))))], r7.2)) else (some (.normal, [(0, .slice x0), (2, .int .i64 x2), (3, .int .i64 x3), (4, .func x4f x4c), (10, .int .i64 x10), (11, (AV.int .i64 (IntKind.wrap .i64 ((IntKind.wrap .i64 ((2 : Int) * x10)) + (1 : Int))))), (40, .bool false)], h)))).bind fun p9 =>
   zcy fuel d n p9.1 p9.2.1 p9.2.2)) := by
 generalize hh : run = R
 rw [zaD] at hh
 subst hh
 generalize hh : zaT = R
 rw [zef] at hh
 subst hh
 generalize hh : zcy = R
 rw [zgQ] at hh
 subst hh
 kernel_rfl
theorem zkS (fuel d : Nat)  (h : AH) :
   zbl fuel d (.exit 0) [] h =
 some ((AV.tup []), h) := by
 generalize hh : zbl = R
 rw [zeg] at hh
 subst hh
 kernel_rfl
theorem zlh (fuel d : Nat)  (h : AH) :
   zbl fuel d .ret [] h =
 some ((AV.tup []), h) := by
 generalize hh : zbl = R
 rw [zeg] at hh
 subst hh
 kernel_rfl
theorem zg2 (fuel d : Nat) (n : Nat) (x0 : Sl) (x2 : Int) (x3 : Int) (x4f : Nat) (x4c : List Pt) (x10 : Int) (x11 : Int) (x40 : Bool) (h : AH) :
   zcy fuel d n .normal [(0, .slice x0), (2, .int .i64 x2), (3, .int .i64 x3), (4, .func x4f x4c), (10, .int .i64 x10), (11, .int .i64 x11), (40, .bool x40)] h =
 ((bif x40 then (some (.normal, [(0, .slice x0), (2, .int .i64 x2), (3, .int .i64 x3), (4, .func x4f x4c), (10, .int .i64 x10), (11, (AV.int .i64 (IntKind.wrap .i64 (x11 + (1 : Int)))))], h)) else (some (.normal, [(0, .slice x0), (2, .int .i64 x2), (3, .int .i64 x3), (4, .func x4f x4c), (10, .int .i64 x10), (11, .int .i64 x11)], h)))).bind fun p1 =>
   zbQ fuel d n p1.1 p1.2.1 p1.2.2 := by
 generalize hh : zcy = R
 rw [zgQ] at hh
 subst hh
 generalize hh : zbQ = R
 rw [zgP] at hh
 subst hh
 kernel_rfl
theorem zlg (fuel d : Nat) (n : Nat) (x0 : Sl) (x2 : Int) (x3 : Int) (x4f : Nat) (x4c : List Pt) (x10 : Int) (x11 : Int) (h : AH) :
   zbQ fuel d n .normal [(0, .slice x0), (2, .int .i64 x2), (3, .int .i64 x3), (4, .func x4f x4c), (10, .int .i64 x10), (11, .int .i64 x11)] h =
 (AH.addr h 1 x0 (IntKind.wrap .i64 (x3 + x10))).bind fun p1 =>
   (AH.cell h p1).bind fun u2 =>
   (AV.int? .i64 u2).bind fun n3 =>
   (AH.addr h 1 x0 (IntKind.wrap .i64 (x3 + x11))).bind fun p4 =>
   (AH.cell h p4).bind fun u5 =>
   (AV.int? .i64 u5).bind fun n6 =>
   (run fuel d x4f ([(AV.int .i64 n3), .int .i64 n6] ++ List.map AV.ptr x4c) h).bind fun r7 =>
   (AV.int? .i64 r7.1).bind fun n8 =>
   (bif (!(decide (n8 < (0 : Int)))) then (some (.ret, [], r7.2)) else ((AH.addr r7.2 1 x0 (IntKind.wrap .i64 (x3 + x11))).bind fun p9 =>
   (AH.cell r7.2 p9).bind fun u10 =>
   (AV.int? .i64 u10).bind fun n11 =>
   (AH.addr r7.2 1 x0 (IntKind.wrap .i64 (x3 + x10))).bind fun p12 =>
   (AH.cell r7.2 p12).bind fun u13 =>
   (AV.int? .i64 u13).bind fun n14 =>
   (AH.addr r7.2 1 x0 (IntKind.wrap .i64 (x3 + x10))).bind fun p15 =>
   (AH.storeAt r7.2 [(AV.int .i64 n11)] p15).bind fun h16 =>
   (AH.addr h16 1 x0 (IntKind.wrap .i64 (x3 + x11))).bind fun p17 =>
   (AH.storeAt h16 [(AV.int .i64 n14)] p17).bind fun h18 =>
   zaT fuel d n [(0, .slice x0), (2, .int .i64 x2), (3, .int .i64 x3), (4, .func x4f x4c), (10, .int .i64 x11)] h18)) := by
 generalize hh : run = R
 rw [zaD] at hh
 subst hh
 generalize hh : zaT = R
 rw [zef] at hh
 subst hh
 generalize hh : zbQ = R
 rw [zgP] at hh
 subst hh
 kernel_rfl
theorem zpa (fuel d : Nat) (x0 : Int) (h : AH) :
   brun fuel (d + 1) zij [(AV.int .i64 x0)] h =
 (run fuel d zrk [(AV.int .u64 (IntKind.wrap .u64 x0))] h).bind fun r1 =>
   (AV.int? .i64 r1.1).bind fun n2 =>
   (bif decide (n2 < 0) then (none) else (some ((AV.int .u64 (IntKind.wrap .u64 ((1 : Int) * 2 ^ min (Int.toNat n2) (IntKind.bits .u64)))), r1.2))) := by
 generalize hh : run = R
 rw [zaD] at hh
 subst hh
 generalize hh : brun = R
 rw [zcI] at hh
 subst hh
 kernel_rfl
theorem zpJ (fuel d : Nat) (x0 : Pt) (h : AH) :
   run fuel (d + 1) ziW [(AV.ptr x0)] h =
 (Pt.chk x0).bind fun p1 =>
   (AH.cell h p1).bind fun u2 =>
   (AV.int? .u64 u2).bind fun n3 =>
   (Pt.chk x0).bind fun p4 =>
   (AH.cell h p4).bind fun u5 =>
   (AV.int? .u64 u5).bind fun n6 =>
   (Pt.chk x0).bind fun p7 =>
   (AH.storeAt h [(AV.int .u64 (zmG .xor .u64 n3 (IntKind.wrap .u64 (n6 * 2 ^ min (Int.toNat (13 : Int)) (IntKind.bits .u64)))))] p7).bind fun h8 =>
   (Pt.chk x0).bind fun p9 =>
   (AH.cell h8 p9).bind fun u10 =>
   (AV.int? .u64 u10).bind fun n11 =>
   (Pt.chk x0).bind fun p12 =>
   (AH.cell h8 p12).bind fun u13 =>
   (AV.int? .u64 u13).bind fun n14 =>
   (Pt.chk x0).bind fun p15 =>
   (AH.storeAt h8 [(AV.int .u64 (zmG .xor .u64 n11 (Int.fdiv n14 (2 ^ min (Int.toNat (7 : Int)) (IntKind.bits .u64)))))] p15).bind fun h16 =>
   (Pt.chk x0).bind fun p17 =>
   (AH.cell h16 p17).bind fun u18 =>
   (AV.int? .u64 u18).bind fun n19 =>
   (Pt.chk x0).bind fun p20 =>
   (AH.cell h16 p20).bind fun u21 =>
   (AV.int? .u64 u21).bind fun n22 =>
   (Pt.chk x0).bind fun p23 =>
   (AH.storeAt h16 [(AV.int .u64 (zmG .xor .u64 n19 (IntKind.wrap .u64 (n22 * 2 ^ min (Int.toNat (17 : Int)) (IntKind.bits .u64)))))] p23).bind fun h24 =>
   (Pt.chk x0).bind fun p25 =>
   (AH.cell h24 p25).bind fun u26 =>
   (AV.int? .u64 u26).bind fun n27 =>
   some ((AV.int .u64 n27), h24) := by
 generalize hh : run = R
 rw [zaD] at hh
 subst hh
 kernel_rfl
theorem zkK (fuel d : Nat) (x0 : Sl) (x1 : Int) (x2 : Pt) (x3f : Nat) (x3c : List Pt) (h : AH) :
   run fuel (d + 1) zbT [(AV.slice x0), .int .i64 x1, .ptr x2, .func x3f x3c] h =
 (run fuel d zeH [(AV.slice x0), (AV.int .i64 (IntKind.wrap .i64 (x1 - (1 : Int)))), .int .i64 x1, (AV.int .i64 (IntKind.wrap .i64 (x1 + (1 : Int)))), .ptr x2, .func x3f x3c] h).bind fun r1 =>
   (AV.int? .i64 r1.1).bind fun n2 =>
   some ((AV.int .i64 n2), r1.2) := by
 generalize hh : run = R
 rw [zaD] at hh
 subst hh
 kernel_rfl
theorem znW (fuel d : Nat) (x0 : Sl) (x1 : Int) (x2 : Int) (x3 : Int) (x4 : Pt) (x5f : Nat) (x5c : List Pt) (h : AH) :
   run fuel (d + 1) zeH [(AV.slice x0), .int .i64 x1, .int .i64 x2, .int .i64 x3, .ptr x4, .func x5f x5c] h =
 (run fuel d zdn [(AV.slice x0), .int .i64 x1, .int .i64 x2, .ptr x4, .func x5f x5c] h).bind fun r1 =>
   (bif AV.isTup 2 r1.1 then ((AV.comp 0 r1.1).bind fun u2 =>
   (AV.int? .i64 u2).bind fun n3 =>
   (AV.comp 1 r1.1).bind fun u4 =>
   (AV.int? .i64 u4).bind fun n5 =>
   (run fuel d zdn [(AV.slice x0), .int .i64 n5, .int .i64 x3, .ptr x4, .func x5f x5c] r1.2).bind fun r6 =>
   (bif AV.isTup 2 r6.1 then ((AV.comp 0 r6.1).bind fun u7 =>
   (AV.int? .i64 u7).bind fun n8 =>
   (AV.comp 1 r6.1).bind fun u9 =>
   (AV.int? .i64 u9).bind fun n10 =>
   (run fuel d zdn [(AV.slice x0), .int .i64 n3, .int .i64 n8, .ptr x4, .func x5f x5c] r6.2).bind fun r11 =>
   (bif AV.isTup 2 r11.1 then ((AV.comp 0 r11.1).bind fun u12 =>
   (AV.int? .i64 u12).bind fun n13 =>
   (AV.comp 1 r11.1).bind fun u14 =>
   (AV.int? .i64 u14).bind fun n15 =>
   some ((AV.int .i64 n15), r11.2)) else none)) else none)) else none) := by
 generalize hh : run = R
 rw [zaD] at hh
 subst hh
 kernel_rfl
theorem znV (fuel d : Nat) (x0 : Sl) (x1 : Int) (x2 : Int) (x3 : Pt) (x4f : Nat) (x4c : List Pt) (h : AH) :
   run fuel (d + 1) zdn [(AV.slice x0), .int .i64 x1, .int .i64 x2, .ptr x3, .func x4f x4c] h =
 (AH.addr h 1 x0 x2).bind fun p1 =>
   (AH.cell h p1).bind fun u2 =>
   (AV.int? .i64 u2).bind fun n3 =>
   (AH.addr h 1 x0 x1).bind fun p4 =>
   (AH.cell h p4).bind fun u5 =>
   (AV.int? .i64 u5).bind fun n6 =>
   (run fuel d x4f ([(AV.int .i64 n3), .int .i64 n6] ++ List.map AV.ptr x4c) h).bind fun r7 =>
   (AV.int? .i64 r7.1).bind fun n8 =>
   (bif (decide (n8 < (0 : Int))) then ((Pt.chk x3).bind fun p9 =>
   (AH.cell r7.2 p9).bind fun u10 =>
   (AV.int? .i64 u10).bind fun n11 =>
   (Pt.chk x3).bind fun p12 =>
   (AH.storeAt r7.2 [(AV.int .i64 (IntKind.wrap .i64 (n11 + (1 : Int))))] p12).bind fun h13 =>
   some ((AV.tup [(AV.int .i64 x2), .int .i64 x1]), h13)) else (some ((AV.tup [(AV.int .i64 x1), .int .i64 x2]), r7.2))) := by
 generalize hh : run = R
 rw [zaD] at hh
 subst hh
 kernel_rfl
end Go.Proofs.YtdmbfmgebgdfnaaDoor
