/-
  What each function does: printed by program, checked by the kernel.
-/
import Derived.Test.YtmjbjgbcpaagmaaDoorCtx
namespace Go.Proofs.YtmjbjgbcpaagmaaDoor
set_option linter.unusedVariables false
set_option maxRecDepth 100000

noncomputable def k_skolemlaw11_AagTurned_0r (fuel d : Nat) : AExit → Fr → AHeap → Option (AVal × AHeap) := (kSeq (Cf fuel F_skolemlaw11_AagTurned) false (acall (C fuel) false d) (acall (C fuel) true d) 119 (csub [true, true, true, true, true, true, true, true, true, true, true] (fbody Go.Proofs.Tryd.f4)) (asub [true, true, true, true, true, true, true, true, true, true, true] an4) (kRet (Cf fuel F_skolemlaw11_AagTurned) Go.Proofs.Tryd.f4.results.toList))

noncomputable def k_skolemlaw11_AagTurned_0 : Nat → Nat → AExit → Fr → AHeap → Option (AVal × AHeap) := hide k_skolemlaw11_AagTurned_0r

theorem k_skolemlaw11_AagTurned_0_is : k_skolemlaw11_AagTurned_0 = k_skolemlaw11_AagTurned_0r := hide_eq _

theorem e_skolemlaw11_AagTurned (fuel d : Nat) (x0 : Int) (x1 : Sl) (x2 : Int) (h : AHeap) :
    run fuel (d + 1) F_skolemlaw11_AagTurned [(AVal.int .i64 x0), (AVal.slice x1), (AVal.int .i64 x2)] h =
  (run fuel d F_skolemlaw11_first [] h).bind fun r1 =>
    (AVal.bool? r1.1).bind fun b2 =>
    (bif (!b2) then (some ((AVal.bool false), r1.2)) else ((bif (bif (bif (decide ((40 : Int) < ((x1.len : Nat) : Int))) then true else (decide (x0 < (1 : Int)))) then true else (decide ((9 : Int) < x0))) then (some ((AVal.bool b2), r1.2)) else ((run fuel d F_skolemmake_Circuit [(AVal.int .i64 x0), (AVal.slice x1), (AVal.slice (Sl.lst 1 true [(AVal.int .i64 (2 : Int))]))] r1.2).bind fun r3 =>
    (AVal.agg? r3.1).bind fun c4 =>
    (bif (!false && Nat.beq (List.length c4) 3 && List.all c4 AVal.isCell) then ((AHeap.storeAt (AHeap.push r3.2 1 [(AVal.int .i64 (0 : Int)), (AVal.slice Sl.nil), (AVal.slice Sl.nil)]) c4 (Pt.mk ⟨AHeap.next r3.2, 0, 0⟩ 3)).bind fun h5 =>
    (AHeap.cellsAt h5 3 (Pt.mk ⟨AHeap.next r3.2, 0, 0⟩ 3)).bind fun c6 =>
    (run fuel d F_aag_Bytes [(AVal.agg c6)] h5).bind fun r7 =>
    (AVal.slice? r7.1).bind fun s8 =>
    (bif (decide (((s8.len : Nat) : Int) < (5 : Int))) then (some ((AVal.bool false), r7.2)) else ((run fuel d F_skolemref_Bytes [(AVal.slice s8)] r7.2).bind fun r9 =>
    (AVal.slice? r9.1).bind fun s10 =>
    (AHeap.append r9.2 false 1 1 s10 (ByteArray.size (⟨#[55, 10]⟩ : ByteArray)) (bytesOf (⟨#[55, 10]⟩ : ByteArray))).bind fun a11 =>
    (run fuel d F_aag_Read [(AVal.slice a11.1)] a11.2).bind fun r12 =>
    (bif AVal.isTup 2 r12.1 then ((AVal.comp 0 r12.1).bind fun u13 =>
    (AVal.agg? u13).bind fun c14 =>
    (AVal.comp 1 r12.1).bind fun u15 =>
    (bif (!false && Nat.beq (List.length c14) 3 && List.all c14 AVal.isCell) then ((AHeap.storeAt (AHeap.push r12.2 1 [(AVal.int .i64 (0 : Int)), (AVal.slice Sl.nil), (AVal.slice Sl.nil)]) c14 (Pt.mk ⟨AHeap.next r12.2, 0, 0⟩ 3)).bind fun h16 =>
    (bif (AHeap.ownAt (AHeap.push h16 1 [(AVal.int .u8 (32 : Int)), (AVal.int .u8 (120 : Int)), (AVal.int .u8 (32 : Int))]) (AHeap.next h16)) then ((AHeap.sliceCells (AHeap.push h16 1 [(AVal.int .u8 (32 : Int)), (AVal.int .u8 (120 : Int)), (AVal.int .u8 (32 : Int))]) 1 s8).bind fun xs17 =>
    (AHeap.append (AHeap.push h16 1 [(AVal.int .u8 (32 : Int)), (AVal.int .u8 (120 : Int)), (AVal.int .u8 (32 : Int))]) false 1 1 (Sl.mk ⟨AHeap.next h16, 0, 0⟩ 3 true) s8.len xs17).bind fun a18 =>
    (run fuel d F_aag_Read [(AVal.slice a18.1)] a18.2).bind fun r19 =>
    (bif AVal.isTup 2 r19.1 then ((AVal.comp 0 r19.1).bind fun u20 =>
    (AVal.agg? u20).bind fun c21 =>
    (AVal.comp 1 r19.1).bind fun u22 =>
    (bif (!false && Nat.beq (List.length c21) 3 && List.all c21 AVal.isCell) then ((AHeap.storeAt (AHeap.push r19.2 1 [(AVal.int .i64 (0 : Int)), (AVal.slice Sl.nil), (AVal.slice Sl.nil)]) c21 (Pt.mk ⟨AHeap.next r19.2, 0, 0⟩ 3)).bind fun h23 =>
    (bif (AHeap.ownAt (AHeap.push h23 1 [(AVal.int .u8 (120 : Int))]) (AHeap.next h23)) then ((AHeap.sliceCells (AHeap.push h23 1 [(AVal.int .u8 (120 : Int))]) 1 s8).bind fun xs24 =>
    (AHeap.append (AHeap.push h23 1 [(AVal.int .u8 (120 : Int))]) false 1 1 (Sl.mk ⟨AHeap.next h23, 0, 0⟩ 1 true) s8.len xs24).bind fun a25 =>
    (run fuel d F_aag_Read [(AVal.slice a25.1)] a25.2).bind fun r26 =>
    (bif AVal.isTup 2 r26.1 then ((AVal.comp 0 r26.1).bind fun u27 =>
    (AVal.agg? u27).bind fun c28 =>
    (AVal.comp 1 r26.1).bind fun u29 =>
    (bif (!false && Nat.beq (List.length c28) 3 && List.all c28 AVal.isCell) then ((AHeap.storeAt (AHeap.push r26.2 1 [(AVal.int .i64 (0 : Int)), (AVal.slice Sl.nil), (AVal.slice Sl.nil)]) c28 (Pt.mk ⟨AHeap.next r26.2, 0, 0⟩ 3)).bind fun h30 =>
    ((bif (decide (x2 < (0 : Int))) then (some (.normal, [(2, (AVal.int .i64 (IntKind.wrap .i64 (0 - (IntKind.wrap .i64 (x2 + (1 : Int))))))), (7, (AVal.bool b2)), (8, (AVal.ptr (Pt.mk ⟨AHeap.next r3.2, 0, 0⟩ 3))), (9, (AVal.slice s8)), (11, u15), (13, u22), (15, u29)], h30)) else (some (.normal, [(2, (AVal.int .i64 x2)), (7, (AVal.bool b2)), (8, (AVal.ptr (Pt.mk ⟨AHeap.next r3.2, 0, 0⟩ 3))), (9, (AVal.slice s8)), (11, u15), (13, u22), (15, u29)], h30)))).bind fun p31 =>
    k_skolemlaw11_AagTurned_0 fuel d p31.1 p31.2.1 p31.2.2) else (none))) else none)) else (none))) else (none))) else none)) else (none))) else (none))) else none)))) else (none)))))) := by
  generalize hh : run = R
  rw [run_is] at hh
  subst hh
  generalize hh : k_skolemlaw11_AagTurned_0 = R
  rw [k_skolemlaw11_AagTurned_0_is] at hh
  subst hh
  kernel_rfl

theorem k_skolemlaw11_AagTurned_0_n (fuel d : Nat) (x2 : Int) (x7 : Bool) (x8 : Pt) (x9 : Sl) (x11 : AVal) (x13 : AVal) (x15 : AVal) (h : AHeap) :
    k_skolemlaw11_AagTurned_0 fuel d .normal [(2, (AVal.int .i64 x2)), (7, (AVal.bool x7)), (8, (AVal.ptr x8)), (9, (AVal.slice x9)), (11, x11), (13, x13), (15, x15)] h =
  (bif decide ((IntKind.wrap .i64 (((x9.len : Nat) : Int) - (1 : Int))) = 0) then (none) else ((aHi (some (AVal.int .i64 (Int.tmod x2 (IntKind.wrap .i64 (((x9.len : Nat) : Int) - (1 : Int)))))) (Sl.len x9)).bind fun hi1 =>
    (aLo (none : Option AVal) hi1).bind fun lo2 =>
    (aMx (none : Option AVal) hi1).bind fun cl3 =>
    (bif (AHeap.hasSz h 1 x9) then ((run fuel d F_aag_Read [(AVal.slice (Sl.cut x9 1 lo2 hi1 cl3))] h).bind fun r4 =>
    (bif AVal.isTup 2 r4.1 then ((AVal.comp 0 r4.1).bind fun u5 =>
    (AVal.agg? u5).bind fun c6 =>
    (AVal.comp 1 r4.1).bind fun u7 =>
    (bif (!false && Nat.beq (List.length c6) 3 && List.all c6 AVal.isCell) then ((AHeap.storeAt (AHeap.push r4.2 1 [(AVal.int .i64 (0 : Int)), (AVal.slice Sl.nil), (AVal.slice Sl.nil)]) c6 (Pt.mk ⟨AHeap.next r4.2, 0, 0⟩ 3)).bind fun h8 =>
    ((bif (x7 == true) then ((run fuel d F_skolemref_Placed [(AVal.int .i64 (101 : Int)), (AVal.int .i64 ((x9.len : Nat) : Int))] h8).bind fun r9 =>
    (AVal.agg? r9.1).bind fun c10 =>
    (run fuel d F_skolemsee_Same [x11, (AVal.agg c10)] r9.2).bind fun r11 =>
    (AVal.bool? r11.1).bind fun b12 =>
    some ((AVal.bool b12), r11.2)) else (some ((AVal.bool false), h8)) : Option (AVal × AHeap))).bind fun r13 =>
    (AVal.bool? r13.1).bind fun b14 =>
    ((bif (b14 == true) then ((run fuel d F_skolemref_Placed [(AVal.int .i64 (101 : Int)), (AVal.int .i64 (1 : Int))] r13.2).bind fun r15 =>
    (AVal.agg? r15.1).bind fun c16 =>
    (run fuel d F_skolemsee_Same [x13, (AVal.agg c16)] r15.2).bind fun r17 =>
    (AVal.bool? r17.1).bind fun b18 =>
    some ((AVal.bool b18), r17.2)) else (some ((AVal.bool false), r13.2)) : Option (AVal × AHeap))).bind fun r19 =>
    (AVal.bool? r19.1).bind fun b20 =>
    ((bif (b20 == true) then ((run fuel d F_skolemref_Placed [(AVal.int .i64 (101 : Int)), (AVal.int .i64 (0 : Int))] r19.2).bind fun r21 =>
    (AVal.agg? r21.1).bind fun c22 =>
    (run fuel d F_skolemsee_Same [x15, (AVal.agg c22)] r21.2).bind fun r23 =>
    (AVal.bool? r23.1).bind fun b24 =>
    some ((AVal.bool b24), r23.2)) else (some ((AVal.bool false), r19.2)) : Option (AVal × AHeap))).bind fun r25 =>
    (AVal.bool? r25.1).bind fun b26 =>
    ((bif (b26 == true) then ((nilTest .iface u7).bind fun b27 =>
    ((bif ((!b27) == false) then ((AHeap.cellsAt r25.2 3 (Pt.mk ⟨AHeap.next r4.2, 0, 0⟩ 3)).bind fun c28 =>
    (AHeap.cellsAt r25.2 3 x8).bind fun c29 =>
    (run fuel d F_skolemref_SameCircuit [(AVal.agg c28), (AVal.agg c29)] r25.2).bind fun r30 =>
    (AVal.bool? r30.1).bind fun b31 =>
    some ((AVal.bool (!b31)), r30.2)) else (some ((AVal.bool true), r25.2)) : Option (AVal × AHeap))).bind fun r32 =>
    (AVal.bool? r32.1).bind fun b33 =>
    some ((AVal.bool (bif b33 then true else (decide ((((Sl.cut x9 1 lo2 hi1 cl3).len : Nat) : Int) = (IntKind.wrap .i64 (((x9.len : Nat) : Int) - (1 : Int))))))), r32.2)) else (some ((AVal.bool false), r25.2)) : Option (AVal × AHeap))).bind fun r34 =>
    (AVal.bool? r34.1).bind fun b35 =>
    some ((AVal.bool b35), r34.2)) else (none))) else none)) else (none)))) := by
  generalize hh : run = R
  rw [run_is] at hh
  subst hh
  generalize hh : k_skolemlaw11_AagTurned_0 = R
  rw [k_skolemlaw11_AagTurned_0_is] at hh
  subst hh
  kernel_rfl

theorem e_skolemlaw11_first (fuel d : Nat)  (h : AHeap) :
    brun fuel (d + 1) F_skolemlaw11_first [] h =
  (run fuel d F_aag_Read [(AVal.slice Sl.nil)] h).bind fun r1 =>
    (bif AVal.isTup 2 r1.1 then ((AVal.comp 0 r1.1).bind fun u2 =>
    (AVal.agg? u2).bind fun c3 =>
    (AVal.comp 1 r1.1).bind fun u4 =>
    (bif (!false && Nat.beq (List.length c3) 3 && List.all c3 AVal.isCell) then ((AHeap.storeAt (AHeap.push r1.2 1 [(AVal.int .i64 (0 : Int)), (AVal.slice Sl.nil), (AVal.slice Sl.nil)]) c3 (Pt.mk ⟨AHeap.next r1.2, 0, 0⟩ 3)).bind fun h5 =>
    (run fuel d F_skolemref_Placed [(AVal.int .i64 (101 : Int)), (AVal.int .i64 (0 : Int))] h5).bind fun r6 =>
    (AVal.agg? r6.1).bind fun c7 =>
    (run fuel d F_skolemsee_Same [u4, (AVal.agg c7)] r6.2).bind fun r8 =>
    (AVal.bool? r8.1).bind fun b9 =>
    ((bif (b9 == true) then ((run fuel d F_aag_Bytes [(AVal.agg [(AVal.int .i64 (0 : Int)), (AVal.slice Sl.nil), (AVal.slice Sl.nil)])] r8.2).bind fun r10 =>
    (AVal.slice? r10.1).bind fun s11 =>
    (AHeap.sliceCells r10.2 1 s11).bind fun c12 =>
    (bytesFrom c12).bind fun bs13 =>
    some ((AVal.bool (decide ((⟨List.toArray bs13⟩ : ByteArray) = (⟨#[97, 97, 103, 32, 48, 32, 48, 32, 48, 32, 48, 32, 48, 10]⟩ : ByteArray)))), r10.2)) else (some ((AVal.bool false), r8.2)) : Option (AVal × AHeap))).bind fun r14 =>
    (AVal.bool? r14.1).bind fun b15 =>
    some ((AVal.bool b15), r14.2)) else (none))) else none) := by
  generalize hh : run = R
  rw [run_is] at hh
  subst hh
  generalize hh : brun = R
  rw [brun_is] at hh
  subst hh
  kernel_rfl

theorem e_aag_Read (fuel d : Nat) (x0 : Sl) (h : AHeap) :
    brun fuel (d + 1) F_aag_Read [(AVal.slice x0)] h =
  (bif (decide ((1048576 : Int) < ((x0.len : Nat) : Int))) then ((run fuel d F_aag_at [(AVal.int .i64 (1048576 : Int)), err_api_ErrLimit] (AHeap.push h 1 [(AVal.int .i64 (0 : Int)), (AVal.slice Sl.nil), (AVal.slice Sl.nil)])).bind fun r1 =>
    (AHeap.storeAt r1.2 [(AVal.int .i64 (0 : Int)), (AVal.slice Sl.nil), (AVal.slice Sl.nil)] (Pt.mk ⟨AHeap.next h, 0, 0⟩ 3)).bind fun h2 =>
    (((((AHeap.cellsAt h2 3 (Pt.mk ⟨AHeap.next h, 0, 0⟩ 3)).bind fun c4 =>
    some ((AVal.agg c4)) : Option AVal).bind fun v3 =>
    some [v3, r1.1]) : Option (List AVal)).map AVal.tup).map fun v => (v, h2)) else ((run fuel d F_word_Split [(AVal.slice x0), (AVal.bool false)] (AHeap.push h 1 [(AVal.int .i64 (0 : Int)), (AVal.slice Sl.nil), (AVal.slice Sl.nil)])).bind fun r5 =>
    (AVal.slice? r5.1).bind fun s6 =>
    (run fuel d F_aag_reader_head [(AVal.ptr (Pt.mk ⟨AHeap.next r5.2, 0, 0⟩ 3))] (AHeap.push r5.2 1 [(AVal.slice s6), (AVal.int .i64 (0 : Int)), (AVal.int .i64 ((x0.len : Nat) : Int))])).bind fun r7 =>
    (bif AVal.isTup 2 r7.1 then ((AVal.comp 0 r7.1).bind fun u8 =>
    (AVal.agg? u8).bind fun c9 =>
    (AVal.comp 1 r7.1).bind fun u10 =>
    (bif (!false && Nat.beq (List.length c9) 6 && List.all c9 AVal.isCell) then ((AHeap.storeAt (AHeap.push r7.2 1 [(AVal.int .i64 (0 : Int)), (AVal.int .i64 (0 : Int)), (AVal.int .i64 (0 : Int)), (AVal.int .i64 (0 : Int)), (AVal.int .i64 (0 : Int)), (AVal.int .i64 (0 : Int))]) c9 (Pt.mk ⟨AHeap.next r7.2, 0, 0⟩ 6)).bind fun h11 =>
    (nilTest .iface u10).bind fun b12 =>
    (bif (!b12) then ((AHeap.storeAt h11 [(AVal.int .i64 (0 : Int)), (AVal.slice Sl.nil), (AVal.slice Sl.nil)] (Pt.mk ⟨AHeap.next h, 0, 0⟩ 3)).bind fun h13 =>
    (((((AHeap.cellsAt h13 3 (Pt.mk ⟨AHeap.next h, 0, 0⟩ 3)).bind fun c15 =>
    some ((AVal.agg c15)) : Option AVal).bind fun v14 =>
    some [v14, u10]) : Option (List AVal)).map AVal.tup).map fun v => (v, h13)) else ((AHeap.cellsAt h11 6 (Pt.mk ⟨AHeap.next r7.2, 0, 0⟩ 6)).bind fun c16 =>
    (run fuel d F_aag_reader_body [(AVal.ptr (Pt.mk ⟨AHeap.next r5.2, 0, 0⟩ 3)), (AVal.agg c16)] h11).bind fun r17 =>
    (bif AVal.isTup 2 r17.1 then ((AVal.comp 0 r17.1).bind fun u18 =>
    (AVal.agg? u18).bind fun c19 =>
    (AVal.comp 1 r17.1).bind fun u20 =>
    (bif (!false && Nat.beq (List.length c19) 3 && List.all c19 AVal.isCell) then ((AHeap.storeAt r17.2 c19 (Pt.mk ⟨AHeap.next h, 0, 0⟩ 3)).bind fun h21 =>
    (((((AHeap.cellsAt h21 3 (Pt.mk ⟨AHeap.next h, 0, 0⟩ 3)).bind fun c23 =>
    some ((AVal.agg c23)) : Option AVal).bind fun v22 =>
    some [v22, u20]) : Option (List AVal)).map AVal.tup).map fun v => (v, h21)) else (none))) else none)))) else (none))) else none))) := by
  generalize hh : run = R
  rw [run_is] at hh
  subst hh
  generalize hh : brun = R
  rw [brun_is] at hh
  subst hh
  kernel_rfl

theorem e_skolemref_SameCircuit (fuel d : Nat) (x0 : List AVal) (x1 : List AVal) (h : AHeap) :
    brun fuel (d + 1) F_skolemref_SameCircuit [(AVal.agg x0), (AVal.agg x1)] h =
  (bif (List.all x0 AVal.isCell) then ((bif (List.all x1 AVal.isCell) then ((Pt.field 0 (Pt.mk ⟨AHeap.next h, 0, 0⟩ (List.length x0))).bind fun p1 =>
    (AHeap.cell (AHeap.push (AHeap.push h 1 x0) 1 x1) p1).bind fun u2 =>
    (AVal.int? .i64 u2).bind fun n3 =>
    (Pt.field 0 (Pt.mk ⟨AHeap.next (AHeap.push h 1 x0), 0, 0⟩ (List.length x1))).bind fun p4 =>
    (AHeap.cell (AHeap.push (AHeap.push h 1 x0) 1 x1) p4).bind fun u5 =>
    (AVal.int? .i64 u5).bind fun n6 =>
    ((bif ((decide (n3 = n6)) == true) then ((Pt.field 1 (Pt.mk ⟨AHeap.next h, 0, 0⟩ (List.length x0))).bind fun p7 =>
    (AHeap.cell (AHeap.push (AHeap.push h 1 x0) 1 x1) p7).bind fun u8 =>
    (AVal.slice? u8).bind fun s9 =>
    (Pt.field 1 (Pt.mk ⟨AHeap.next (AHeap.push h 1 x0), 0, 0⟩ (List.length x1))).bind fun p10 =>
    (AHeap.cell (AHeap.push (AHeap.push h 1 x0) 1 x1) p10).bind fun u11 =>
    (AVal.slice? u11).bind fun s12 =>
    (run fuel d F_skolemref_SamePairs [(AVal.slice s9), (AVal.slice s12)] (AHeap.push (AHeap.push h 1 x0) 1 x1)).bind fun r13 =>
    (AVal.bool? r13.1).bind fun b14 =>
    some ((AVal.bool b14), r13.2)) else (some ((AVal.bool false), (AHeap.push (AHeap.push h 1 x0) 1 x1))) : Option (AVal × AHeap))).bind fun r15 =>
    (AVal.bool? r15.1).bind fun b16 =>
    ((bif (b16 == true) then ((Pt.field 2 (Pt.mk ⟨AHeap.next h, 0, 0⟩ (List.length x0))).bind fun p17 =>
    (AHeap.cell r15.2 p17).bind fun u18 =>
    (AVal.slice? u18).bind fun s19 =>
    (Pt.field 2 (Pt.mk ⟨AHeap.next (AHeap.push h 1 x0), 0, 0⟩ (List.length x1))).bind fun p20 =>
    (AHeap.cell r15.2 p20).bind fun u21 =>
    (AVal.slice? u21).bind fun s22 =>
    (run fuel d F_skolemref_SameInts [(AVal.slice s19), (AVal.slice s22)] r15.2).bind fun r23 =>
    (AVal.bool? r23.1).bind fun b24 =>
    some ((AVal.bool b24), r23.2)) else (some ((AVal.bool false), r15.2)) : Option (AVal × AHeap))).bind fun r25 =>
    (AVal.bool? r25.1).bind fun b26 =>
    some ((AVal.bool b26), r25.2)) else (none))) else (none)) := by
  generalize hh : run = R
  rw [run_is] at hh
  subst hh
  generalize hh : brun = R
  rw [brun_is] at hh
  subst hh
  kernel_rfl

theorem e_skolemsee_Same (fuel d : Nat) (x0 : AVal) (x1 : List AVal) (h : AHeap) :
    brun fuel (d + 1) F_skolemsee_Same [x0, (AVal.agg x1)] h =
  (bif (List.all x1 AVal.isCell) then ((run fuel d F_skolemsee_Fault [x0] (AHeap.push h 1 x1)).bind fun r1 =>
    (AVal.agg? r1.1).bind fun c2 =>
    (AHeap.cellsAt r1.2 3 (Pt.mk ⟨AHeap.next h, 0, 0⟩ (List.length x1))).bind fun c3 =>
    same ((AHeap.cellsAt (AHeap.push h 1 x1) 3 (Pt.mk ⟨AHeap.next h, 0, 0⟩ (List.length x1))).bind fun c6 =>
    some ((AVal.agg c6), (AHeap.push h 1 x1))) ((AVal.agg c3), (AHeap.push h 1 x1)) (
    (run fuel d F_skolemref_SameFault [(AVal.agg c2), (AVal.agg c3)] r1.2).bind fun r4 =>
    (AVal.bool? r4.1).bind fun b5 =>
    some ((AVal.bool b5), r4.2))) else (none)) := by
  generalize hh : run = R
  rw [run_is] at hh
  subst hh
  generalize hh : brun = R
  rw [brun_is] at hh
  subst hh
  kernel_rfl

noncomputable def s_skolemmake_Circuit_0 (fuel d : Nat) : Run := fun fr h k => aexec (Cf fuel F_skolemmake_Circuit) false (acall (C fuel) false d) (acall (C fuel) true d) 78 (csub [true, true, false, true, false, false] (fbody Go.Proofs.Tryd.f15)) (asub [true, true, false, true, false, false] an15) fr h k

noncomputable def l_skolemmake_Circuit_0r (fuel d : Nat) (n : Nat) (fr : Fr) (h : AHeap) : Option (AExit × Fr × AHeap) := aloop (s_skolemmake_Circuit_0 fuel d) (some [0, 1, 2, 6, 7, 8]) n fr h (kOut [0, 2, 6, 7])

noncomputable def l_skolemmake_Circuit_0 : Nat → Nat → Nat → Fr → AHeap → Option (AExit × Fr × AHeap) := hide l_skolemmake_Circuit_0r

theorem l_skolemmake_Circuit_0_is : l_skolemmake_Circuit_0 = l_skolemmake_Circuit_0r := hide_eq _

noncomputable def k_skolemmake_Circuit_0r (fuel d : Nat) : AExit → Fr → AHeap → Option (AVal × AHeap) := (kBlock 0 (kSeq (Cf fuel F_skolemmake_Circuit) false (acall (C fuel) false d) (acall (C fuel) true d) 78 (csub [true, true, true] (fbody Go.Proofs.Tryd.f15)) (asub [true, true, true] an15) (kRet (Cf fuel F_skolemmake_Circuit) Go.Proofs.Tryd.f15.results.toList)))

noncomputable def k_skolemmake_Circuit_0 : Nat → Nat → AExit → Fr → AHeap → Option (AVal × AHeap) := hide k_skolemmake_Circuit_0r

theorem k_skolemmake_Circuit_0_is : k_skolemmake_Circuit_0 = k_skolemmake_Circuit_0r := hide_eq _

noncomputable def s_skolemmake_Circuit_1 (fuel d : Nat) : Run := fun fr h k => aexec (Cf fuel F_skolemmake_Circuit) false (acall (C fuel) false d) (acall (C fuel) true d) 78 (csub [true, true, true, false, true, false, false] (fbody Go.Proofs.Tryd.f15)) (asub [true, true, true, false, true, false, false] an15) fr h k

noncomputable def l_skolemmake_Circuit_1r (fuel d : Nat) (n : Nat) (fr : Fr) (h : AHeap) : Option (AExit × Fr × AHeap) := aloop (s_skolemmake_Circuit_1 fuel d) (some [0, 2, 6, 7, 12]) n fr h (kOut [6, 7])

noncomputable def l_skolemmake_Circuit_1 : Nat → Nat → Nat → Fr → AHeap → Option (AExit × Fr × AHeap) := hide l_skolemmake_Circuit_1r

theorem l_skolemmake_Circuit_1_is : l_skolemmake_Circuit_1 = l_skolemmake_Circuit_1r := hide_eq _

noncomputable def k_skolemmake_Circuit_1r (fuel d : Nat) : AExit → Fr → AHeap → Option (AVal × AHeap) := (kBlock 2 (kSeq (Cf fuel F_skolemmake_Circuit) false (acall (C fuel) false d) (acall (C fuel) true d) 78 (csub [true, true, true, true] (fbody Go.Proofs.Tryd.f15)) (asub [true, true, true, true] an15) (kRet (Cf fuel F_skolemmake_Circuit) Go.Proofs.Tryd.f15.results.toList)))

noncomputable def k_skolemmake_Circuit_1 : Nat → Nat → AExit → Fr → AHeap → Option (AVal × AHeap) := hide k_skolemmake_Circuit_1r

theorem k_skolemmake_Circuit_1_is : k_skolemmake_Circuit_1 = k_skolemmake_Circuit_1r := hide_eq _

theorem e_skolemmake_Circuit (fuel d : Nat) (x0 : Int) (x1 : Sl) (x2 : Sl) (h : AHeap) :
    brun fuel (d + 1) F_skolemmake_Circuit [(AVal.int .i64 x0), (AVal.slice x1), (AVal.slice x2)] h =
  (AHeap.storeAt (AHeap.push (AHeap.push h 1 [(AVal.int .i64 (0 : Int)), (AVal.slice Sl.nil), (AVal.slice Sl.nil)]) 1 [(AVal.int .i64 (0 : Int)), (AVal.slice Sl.nil), (AVal.slice Sl.nil)]) [(AVal.int .i64 x0), (AVal.slice Sl.nil), (AVal.slice Sl.nil)] (Pt.mk ⟨AHeap.next (AHeap.push h 1 [(AVal.int .i64 (0 : Int)), (AVal.slice Sl.nil), (AVal.slice Sl.nil)]), 0, 0⟩ 3)).bind fun h1 =>
    (l_skolemmake_Circuit_0 fuel d fuel [(0, (AVal.int .i64 x0)), (1, (AVal.slice x1)), (2, (AVal.slice x2)), (6, (AVal.ptr (Pt.mk ⟨AHeap.next h, 0, 0⟩ 3))), (7, (AVal.ptr (Pt.mk ⟨AHeap.next (AHeap.push h 1 [(AVal.int .i64 (0 : Int)), (AVal.slice Sl.nil), (AVal.slice Sl.nil)]), 0, 0⟩ 3))), (8, (AVal.int .i64 (0 : Int)))] h1).bind fun p2 =>
    k_skolemmake_Circuit_0 fuel d p2.1 p2.2.1 p2.2.2 := by
  generalize hh : brun = R
  rw [brun_is] at hh
  subst hh
  generalize hh : l_skolemmake_Circuit_0 = R
  rw [l_skolemmake_Circuit_0_is] at hh
  subst hh
  generalize hh : k_skolemmake_Circuit_0 = R
  rw [k_skolemmake_Circuit_0_is] at hh
  subst hh
  kernel_rfl

theorem l_skolemmake_Circuit_0_eq (fuel d : Nat) (n : Nat) (x0 : Int) (x1 : Sl) (x2 : Sl) (x6 : Pt) (x7 : Pt) (x8 : Int) (h : AHeap) :
    l_skolemmake_Circuit_0 fuel d (n + 1) [(0, (AVal.int .i64 x0)), (1, (AVal.slice x1)), (2, (AVal.slice x2)), (6, (AVal.ptr x6)), (7, (AVal.ptr x7)), (8, (AVal.int .i64 x8))] h =
  (bif (decide ((IntKind.wrap .i64 (x8 + (1 : Int))) < ((x1.len : Nat) : Int))) then ((Pt.field 1 x7).bind fun p1 =>
    (AHeap.cell h p1).bind fun u2 =>
    (AVal.slice? u2).bind fun s3 =>
    (AHeap.addr h 1 x1 x8).bind fun p4 =>
    (AHeap.cell h p4).bind fun u5 =>
    (AVal.int? .i64 u5).bind fun n6 =>
    (run fuel d F_skolemworld_Number [(AVal.int .i64 n6), (AVal.int .i64 (IntKind.wrap .i64 ((2 : Int) * (IntKind.wrap .i64 ((IntKind.wrap .i64 (x0 + ((s3.len : Nat) : Int))) + (1 : Int))))))] h).bind fun r7 =>
    (AVal.int? .i64 r7.1).bind fun n8 =>
    (AHeap.addr r7.2 1 x1 (IntKind.wrap .i64 (x8 + (1 : Int)))).bind fun p9 =>
    (AHeap.cell r7.2 p9).bind fun u10 =>
    (AVal.int? .i64 u10).bind fun n11 =>
    (run fuel d F_skolemworld_Number [(AVal.int .i64 n11), (AVal.int .i64 (IntKind.wrap .i64 ((2 : Int) * (IntKind.wrap .i64 ((IntKind.wrap .i64 (x0 + ((s3.len : Nat) : Int))) + (1 : Int))))))] r7.2).bind fun r12 =>
    (AVal.int? .i64 r12.1).bind fun n13 =>
    (Pt.field 1 x7).bind fun p14 =>
    (AHeap.cell r12.2 p14).bind fun u15 =>
    (AVal.slice? u15).bind fun s16 =>
    (AHeap.append r12.2 false 2 16 s16 1 [(AVal.int .i64 (bif decide (n8 < n13) then n13 else n8)), (AVal.int .i64 (bif decide (n13 < n8) then n13 else n8))]).bind fun a17 =>
    (Pt.field 1 x7).bind fun p18 =>
    (AHeap.storeAt a17.2 [(AVal.slice a17.1)] p18).bind fun h19 =>
    l_skolemmake_Circuit_0 fuel d n [(0, (AVal.int .i64 x0)), (1, (AVal.slice x1)), (2, (AVal.slice x2)), (6, (AVal.ptr x6)), (7, (AVal.ptr x7)), (8, (AVal.int .i64 (IntKind.wrap .i64 (x8 + (2 : Int)))))] h19) else (some ((.exit 0), [(0, (AVal.int .i64 x0)), (2, (AVal.slice x2)), (6, (AVal.ptr x6)), (7, (AVal.ptr x7))], h))) := by
  generalize hh : run = R
  rw [run_is] at hh
  subst hh
  generalize hh : l_skolemmake_Circuit_0 = R
  rw [l_skolemmake_Circuit_0_is] at hh
  subst hh
  kernel_rfl

theorem k_skolemmake_Circuit_0_x0 (fuel d : Nat) (x0 : Int) (x2 : Sl) (x6 : Pt) (x7 : Pt) (h : AHeap) :
    k_skolemmake_Circuit_0 fuel d (.exit 0) [(0, (AVal.int .i64 x0)), (2, (AVal.slice x2)), (6, (AVal.ptr x6)), (7, (AVal.ptr x7))] h =
  (l_skolemmake_Circuit_1 fuel d fuel [(0, (AVal.int .i64 x0)), (2, (AVal.slice x2)), (6, (AVal.ptr x6)), (7, (AVal.ptr x7)), (12, (AVal.int .i64 (0 : Int)))] h).bind fun p1 =>
    k_skolemmake_Circuit_1 fuel d p1.1 p1.2.1 p1.2.2 := by
  generalize hh : k_skolemmake_Circuit_0 = R
  rw [k_skolemmake_Circuit_0_is] at hh
  subst hh
  generalize hh : l_skolemmake_Circuit_1 = R
  rw [l_skolemmake_Circuit_1_is] at hh
  subst hh
  generalize hh : k_skolemmake_Circuit_1 = R
  rw [k_skolemmake_Circuit_1_is] at hh
  subst hh
  kernel_rfl

theorem l_skolemmake_Circuit_1_eq (fuel d : Nat) (n : Nat) (x0 : Int) (x2 : Sl) (x6 : Pt) (x7 : Pt) (x12 : Int) (h : AHeap) :
    l_skolemmake_Circuit_1 fuel d (n + 1) [(0, (AVal.int .i64 x0)), (2, (AVal.slice x2)), (6, (AVal.ptr x6)), (7, (AVal.ptr x7)), (12, (AVal.int .i64 x12))] h =
  (bif (decide (x12 < ((x2.len : Nat) : Int))) then ((Pt.field 2 x7).bind fun p1 =>
    (AHeap.cell h p1).bind fun u2 =>
    (AVal.slice? u2).bind fun s3 =>
    (AHeap.addr h 1 x2 x12).bind fun p4 =>
    (AHeap.cell h p4).bind fun u5 =>
    (AVal.int? .i64 u5).bind fun n6 =>
    (Pt.field 1 x7).bind fun p7 =>
    (AHeap.cell h p7).bind fun u8 =>
    (AVal.slice? u8).bind fun s9 =>
    (run fuel d F_skolemworld_Number [(AVal.int .i64 n6), (AVal.int .i64 (IntKind.wrap .i64 ((2 : Int) * (IntKind.wrap .i64 ((IntKind.wrap .i64 (x0 + ((s9.len : Nat) : Int))) + (1 : Int))))))] h).bind fun r10 =>
    (AVal.int? .i64 r10.1).bind fun n11 =>
    same ((AHeap.cell r10.2 p1).bind fun u15 =>
    (AVal.slice? u15).bind fun s16 =>
    some ((AVal.slice s16), r10.2)) ((AVal.slice s3), r10.2) (
    (AHeap.append r10.2 false 1 8 s3 1 [(AVal.int .i64 n11)]).bind fun a12 =>
    (Pt.field 2 x7).bind fun p13 =>
    (AHeap.storeAt a12.2 [(AVal.slice a12.1)] p13).bind fun h14 =>
    l_skolemmake_Circuit_1 fuel d n [(0, (AVal.int .i64 x0)), (2, (AVal.slice x2)), (6, (AVal.ptr x6)), (7, (AVal.ptr x7)), (12, (AVal.int .i64 (IntKind.wrap .i64 (x12 + (1 : Int)))))] h14)) else (some ((.exit 2), [(6, (AVal.ptr x6)), (7, (AVal.ptr x7))], h))) := by
  generalize hh : run = R
  rw [run_is] at hh
  subst hh
  generalize hh : l_skolemmake_Circuit_1 = R
  rw [l_skolemmake_Circuit_1_is] at hh
  subst hh
  kernel_rfl

theorem k_skolemmake_Circuit_1_x2 (fuel d : Nat) (x6 : Pt) (x7 : Pt) (h : AHeap) :
    k_skolemmake_Circuit_1 fuel d (.exit 2) [(6, (AVal.ptr x6)), (7, (AVal.ptr x7))] h =
  (AHeap.cellsAt h 3 x7).bind fun c1 =>
    (bif (!false && Nat.beq (List.length c1) 3 && List.all c1 AVal.isCell) then ((AHeap.storeAt h c1 x6).bind fun h2 =>
    ((AHeap.cellsAt h2 3 x6).bind fun c3 =>
    some ((AVal.agg c3)) : Option AVal).map fun v => (v, h2)) else (none)) := by
  generalize hh : k_skolemmake_Circuit_1 = R
  rw [k_skolemmake_Circuit_1_is] at hh
  subst hh
  kernel_rfl

noncomputable def s_aag_Bytes_0 (fuel d : Nat) : Run := fun fr h k => aexec (Cf fuel F_aag_Bytes) false (acall (C fuel) false d) (acall (C fuel) true d) 61 (csub [true, true, true, false, true, false, false] (fbody Go.Proofs.Tryd.f16)) (asub [true, true, true, false, true, false, false] an16) fr h k

noncomputable def l_aag_Bytes_0r (fuel d : Nat) (n : Nat) (fr : Fr) (h : AHeap) : Option (AExit × Fr × AHeap) := aloop (s_aag_Bytes_0 fuel d) (some [1, 3, 14, 15]) n fr h (kOut [1, 3])

noncomputable def l_aag_Bytes_0 : Nat → Nat → Nat → Fr → AHeap → Option (AExit × Fr × AHeap) := hide l_aag_Bytes_0r

theorem l_aag_Bytes_0_is : l_aag_Bytes_0 = l_aag_Bytes_0r := hide_eq _

noncomputable def k_aag_Bytes_0r (fuel d : Nat) : AExit → Fr → AHeap → Option (AVal × AHeap) := (kBlock 0 (kSeq (Cf fuel F_aag_Bytes) false (acall (C fuel) false d) (acall (C fuel) true d) 61 (csub [true, true, true, true] (fbody Go.Proofs.Tryd.f16)) (asub [true, true, true, true] an16) (kRet (Cf fuel F_aag_Bytes) Go.Proofs.Tryd.f16.results.toList)))

noncomputable def k_aag_Bytes_0 : Nat → Nat → AExit → Fr → AHeap → Option (AVal × AHeap) := hide k_aag_Bytes_0r

theorem k_aag_Bytes_0_is : k_aag_Bytes_0 = k_aag_Bytes_0r := hide_eq _

noncomputable def s_aag_Bytes_1 (fuel d : Nat) : Run := fun fr h k => aexec (Cf fuel F_aag_Bytes) false (acall (C fuel) false d) (acall (C fuel) true d) 61 (csub [true, true, true, true, false, true, false, false] (fbody Go.Proofs.Tryd.f16)) (asub [true, true, true, true, false, true, false, false] an16) fr h k

noncomputable def l_aag_Bytes_1r (fuel d : Nat) (n : Nat) (fr : Fr) (h : AHeap) : Option (AExit × Fr × AHeap) := aloop (s_aag_Bytes_1 fuel d) (some [1, 3, 26, 27, 28]) n fr h (kOut [1, 3])

noncomputable def l_aag_Bytes_1 : Nat → Nat → Nat → Fr → AHeap → Option (AExit × Fr × AHeap) := hide l_aag_Bytes_1r

theorem l_aag_Bytes_1_is : l_aag_Bytes_1 = l_aag_Bytes_1r := hide_eq _

noncomputable def k_aag_Bytes_1r (fuel d : Nat) : AExit → Fr → AHeap → Option (AVal × AHeap) := (kBlock 2 (kSeq (Cf fuel F_aag_Bytes) false (acall (C fuel) false d) (acall (C fuel) true d) 61 (csub [true, true, true, true, true] (fbody Go.Proofs.Tryd.f16)) (asub [true, true, true, true, true] an16) (kRet (Cf fuel F_aag_Bytes) Go.Proofs.Tryd.f16.results.toList)))

noncomputable def k_aag_Bytes_1 : Nat → Nat → AExit → Fr → AHeap → Option (AVal × AHeap) := hide k_aag_Bytes_1r

theorem k_aag_Bytes_1_is : k_aag_Bytes_1 = k_aag_Bytes_1r := hide_eq _

noncomputable def s_aag_Bytes_2 (fuel d : Nat) : Run := fun fr h k => aexec (Cf fuel F_aag_Bytes) false (acall (C fuel) false d) (acall (C fuel) true d) 61 (csub [true, true, true, true, true, false, true, false, false] (fbody Go.Proofs.Tryd.f16)) (asub [true, true, true, true, true, false, true, false, false] an16) fr h k

noncomputable def l_aag_Bytes_2r (fuel d : Nat) (n : Nat) (fr : Fr) (h : AHeap) : Option (AExit × Fr × AHeap) := aloop (s_aag_Bytes_2 fuel d) (some [1, 3, 38, 39, 40]) n fr h (kOut [3])

noncomputable def l_aag_Bytes_2 : Nat → Nat → Nat → Fr → AHeap → Option (AExit × Fr × AHeap) := hide l_aag_Bytes_2r

theorem l_aag_Bytes_2_is : l_aag_Bytes_2 = l_aag_Bytes_2r := hide_eq _

noncomputable def k_aag_Bytes_2r (fuel d : Nat) : AExit → Fr → AHeap → Option (AVal × AHeap) := (kBlock 4 (kSeq (Cf fuel F_aag_Bytes) false (acall (C fuel) false d) (acall (C fuel) true d) 61 (csub [true, true, true, true, true, true] (fbody Go.Proofs.Tryd.f16)) (asub [true, true, true, true, true, true] an16) (kRet (Cf fuel F_aag_Bytes) Go.Proofs.Tryd.f16.results.toList)))

noncomputable def k_aag_Bytes_2 : Nat → Nat → AExit → Fr → AHeap → Option (AVal × AHeap) := hide k_aag_Bytes_2r

theorem k_aag_Bytes_2_is : k_aag_Bytes_2 = k_aag_Bytes_2r := hide_eq _

theorem e_aag_Bytes (fuel d : Nat) (x0 : List AVal) (h : AHeap) :
    brun fuel (d + 1) F_aag_Bytes [(AVal.agg x0)] h =
  (bif (List.all x0 AVal.isCell) then ((AHeap.cellsAt (AHeap.pushT (AHeap.push h 1 x0) (BT, 2) 1 [(AVal.ptr Pt.nil), (AVal.slice Sl.nil)]) 3 (Pt.mk ⟨AHeap.next h, 0, 0⟩ (List.length x0))).bind fun c1 =>
    (run fuel d F_aag_Head [(AVal.str (⟨#[97, 97, 103]⟩ : ByteArray)), (AVal.agg c1)] (AHeap.pushT (AHeap.push h 1 x0) (BT, 2) 1 [(AVal.ptr Pt.nil), (AVal.slice Sl.nil)])).bind fun r2 =>
    (AVal.str? r2.1).bind fun s3 =>
    (run fuel d F_strings_Builder_WriteString [(AVal.ptr (Pt.mk ⟨AHeap.next (AHeap.push h 1 x0), 0, 0⟩ 2)), (AVal.str s3)] r2.2).bind fun r4 =>
    (bif AVal.isTup 2 r4.1 then ((AVal.comp 0 r4.1).bind fun u5 =>
    (AVal.int? .i64 u5).bind fun n6 =>
    (AVal.comp 1 r4.1).bind fun u7 =>
    (Pt.field 0 (Pt.mk ⟨AHeap.next h, 0, 0⟩ (List.length x0))).bind fun p8 =>
    (AHeap.cell r4.2 p8).bind fun u9 =>
    (AVal.int? .i64 u9).bind fun n10 =>
    (l_aag_Bytes_0 fuel d fuel [(1, (AVal.ptr (Pt.mk ⟨AHeap.next h, 0, 0⟩ (List.length x0)))), (3, (AVal.ptr (Pt.mk ⟨AHeap.next (AHeap.push h 1 x0), 0, 0⟩ 2))), (14, (AVal.int .i64 (bif decide (n10 < (0 : Int)) then (0 : Int) else n10))), (15, (AVal.int .i64 (0 : Int)))] r4.2).bind fun p11 =>
    k_aag_Bytes_0 fuel d p11.1 p11.2.1 p11.2.2) else none)) else (none)) := by
  generalize hh : run = R
  rw [run_is] at hh
  subst hh
  generalize hh : brun = R
  rw [brun_is] at hh
  subst hh
  generalize hh : l_aag_Bytes_0 = R
  rw [l_aag_Bytes_0_is] at hh
  subst hh
  generalize hh : k_aag_Bytes_0 = R
  rw [k_aag_Bytes_0_is] at hh
  subst hh
  kernel_rfl

theorem l_aag_Bytes_0_eq (fuel d : Nat) (n : Nat) (x1 : Pt) (x3 : Pt) (x14 : Int) (x15 : Int) (h : AHeap) :
    l_aag_Bytes_0 fuel d (n + 1) [(1, (AVal.ptr x1)), (3, (AVal.ptr x3)), (14, (AVal.int .i64 x14)), (15, (AVal.int .i64 x15))] h =
  (bif (decide (x15 < x14)) then ((run fuel d F_aag_Line [(AVal.slice (Sl.lst 1 true [(AVal.int .i64 (IntKind.wrap .i64 ((2 : Int) * (IntKind.wrap .i64 (x15 + (1 : Int))))))]))] h).bind fun r1 =>
    (AVal.str? r1.1).bind fun s2 =>
    (run fuel d F_strings_Builder_WriteString [(AVal.ptr x3), (AVal.str s2)] r1.2).bind fun r3 =>
    (bif AVal.isTup 2 r3.1 then ((AVal.comp 0 r3.1).bind fun u4 =>
    (AVal.int? .i64 u4).bind fun n5 =>
    (AVal.comp 1 r3.1).bind fun u6 =>
    l_aag_Bytes_0 fuel d n [(1, (AVal.ptr x1)), (3, (AVal.ptr x3)), (14, (AVal.int .i64 x14)), (15, (AVal.int .i64 (IntKind.wrap .i64 (x15 + (1 : Int)))))] r3.2) else none)) else (some ((.exit 0), [(1, (AVal.ptr x1)), (3, (AVal.ptr x3))], h))) := by
  generalize hh : run = R
  rw [run_is] at hh
  subst hh
  generalize hh : l_aag_Bytes_0 = R
  rw [l_aag_Bytes_0_is] at hh
  subst hh
  kernel_rfl

theorem k_aag_Bytes_0_x0 (fuel d : Nat) (x1 : Pt) (x3 : Pt) (h : AHeap) :
    k_aag_Bytes_0 fuel d (.exit 0) [(1, (AVal.ptr x1)), (3, (AVal.ptr x3))] h =
  (Pt.field 2 x1).bind fun p1 =>
    (AHeap.cell h p1).bind fun u2 =>
    (AVal.slice? u2).bind fun s3 =>
    (l_aag_Bytes_1 fuel d fuel [(1, (AVal.ptr x1)), (3, (AVal.ptr x3)), (26, (AVal.slice s3)), (27, (AVal.int .i64 ((s3.len : Nat) : Int))), (28, (AVal.int .i64 (0 : Int)))] h).bind fun p4 =>
    k_aag_Bytes_1 fuel d p4.1 p4.2.1 p4.2.2 := by
  generalize hh : k_aag_Bytes_0 = R
  rw [k_aag_Bytes_0_is] at hh
  subst hh
  generalize hh : l_aag_Bytes_1 = R
  rw [l_aag_Bytes_1_is] at hh
  subst hh
  generalize hh : k_aag_Bytes_1 = R
  rw [k_aag_Bytes_1_is] at hh
  subst hh
  kernel_rfl

theorem l_aag_Bytes_1_eq (fuel d : Nat) (n : Nat) (x1 : Pt) (x3 : Pt) (x26 : Sl) (x27 : Int) (x28 : Int) (h : AHeap) :
    l_aag_Bytes_1 fuel d (n + 1) [(1, (AVal.ptr x1)), (3, (AVal.ptr x3)), (26, (AVal.slice x26)), (27, (AVal.int .i64 x27)), (28, (AVal.int .i64 x28))] h =
  (bif (decide (x28 < x27)) then ((AHeap.addr h 1 x26 x28).bind fun p1 =>
    (AHeap.cell h p1).bind fun u2 =>
    (AVal.int? .i64 u2).bind fun n3 =>
    (run fuel d F_aag_Line [(AVal.slice (Sl.lst 1 true [(AVal.int .i64 n3)]))] h).bind fun r4 =>
    (AVal.str? r4.1).bind fun s5 =>
    (run fuel d F_strings_Builder_WriteString [(AVal.ptr x3), (AVal.str s5)] r4.2).bind fun r6 =>
    (bif AVal.isTup 2 r6.1 then ((AVal.comp 0 r6.1).bind fun u7 =>
    (AVal.int? .i64 u7).bind fun n8 =>
    (AVal.comp 1 r6.1).bind fun u9 =>
    l_aag_Bytes_1 fuel d n [(1, (AVal.ptr x1)), (3, (AVal.ptr x3)), (26, (AVal.slice x26)), (27, (AVal.int .i64 x27)), (28, (AVal.int .i64 (IntKind.wrap .i64 (x28 + (1 : Int)))))] r6.2) else none)) else (some ((.exit 2), [(1, (AVal.ptr x1)), (3, (AVal.ptr x3))], h))) := by
  generalize hh : run = R
  rw [run_is] at hh
  subst hh
  generalize hh : l_aag_Bytes_1 = R
  rw [l_aag_Bytes_1_is] at hh
  subst hh
  kernel_rfl

theorem k_aag_Bytes_1_x2 (fuel d : Nat) (x1 : Pt) (x3 : Pt) (h : AHeap) :
    k_aag_Bytes_1 fuel d (.exit 2) [(1, (AVal.ptr x1)), (3, (AVal.ptr x3))] h =
  (Pt.field 1 x1).bind fun p1 =>
    (AHeap.cell h p1).bind fun u2 =>
    (AVal.slice? u2).bind fun s3 =>
    (l_aag_Bytes_2 fuel d fuel [(1, (AVal.ptr x1)), (3, (AVal.ptr x3)), (38, (AVal.slice s3)), (39, (AVal.int .i64 ((s3.len : Nat) : Int))), (40, (AVal.int .i64 (0 : Int)))] h).bind fun p4 =>
    k_aag_Bytes_2 fuel d p4.1 p4.2.1 p4.2.2 := by
  generalize hh : k_aag_Bytes_1 = R
  rw [k_aag_Bytes_1_is] at hh
  subst hh
  generalize hh : l_aag_Bytes_2 = R
  rw [l_aag_Bytes_2_is] at hh
  subst hh
  generalize hh : k_aag_Bytes_2 = R
  rw [k_aag_Bytes_2_is] at hh
  subst hh
  kernel_rfl

theorem l_aag_Bytes_2_eq (fuel d : Nat) (n : Nat) (x1 : Pt) (x3 : Pt) (x38 : Sl) (x39 : Int) (x40 : Int) (h : AHeap) :
    l_aag_Bytes_2 fuel d (n + 1) [(1, (AVal.ptr x1)), (3, (AVal.ptr x3)), (38, (AVal.slice x38)), (39, (AVal.int .i64 x39)), (40, (AVal.int .i64 x40))] h =
  (bif (decide (x40 < x39)) then ((AHeap.addr h 2 x38 x40).bind fun p1 =>
    (AHeap.cellsAt h 2 p1).bind fun c2 =>
    (bif (!false && Nat.beq (List.length c2) 2 && List.all c2 AVal.isCell) then ((AHeap.storeAt (AHeap.push h 1 [(AVal.int .i64 (0 : Int)), (AVal.int .i64 (0 : Int))]) c2 (Pt.mk ⟨AHeap.next h, 0, 0⟩ 2)).bind fun h3 =>
    (Pt.field 0 x1).bind fun p4 =>
    (AHeap.cell h3 p4).bind fun u5 =>
    (AVal.int? .i64 u5).bind fun n6 =>
    (Pt.elem 1 2 (0 : Int) (Pt.mk ⟨AHeap.next h, 0, 0⟩ 2)).bind fun p7 =>
    (AHeap.cell h3 p7).bind fun u8 =>
    (AVal.int? .i64 u8).bind fun n9 =>
    (Pt.elem 1 2 (1 : Int) (Pt.mk ⟨AHeap.next h, 0, 0⟩ 2)).bind fun p10 =>
    (AHeap.cell h3 p10).bind fun u11 =>
    (AVal.int? .i64 u11).bind fun n12 =>
    (run fuel d F_aag_Line [(AVal.slice (Sl.lst 3 true [(AVal.int .i64 (IntKind.wrap .i64 ((2 : Int) * (IntKind.wrap .i64 ((IntKind.wrap .i64 (n6 + x40)) + (1 : Int)))))), (AVal.int .i64 n9), (AVal.int .i64 n12)]))] h3).bind fun r13 =>
    (AVal.str? r13.1).bind fun s14 =>
    (run fuel d F_strings_Builder_WriteString [(AVal.ptr x3), (AVal.str s14)] r13.2).bind fun r15 =>
    (bif AVal.isTup 2 r15.1 then ((AVal.comp 0 r15.1).bind fun u16 =>
    (AVal.int? .i64 u16).bind fun n17 =>
    (AVal.comp 1 r15.1).bind fun u18 =>
    l_aag_Bytes_2 fuel d n [(1, (AVal.ptr x1)), (3, (AVal.ptr x3)), (38, (AVal.slice x38)), (39, (AVal.int .i64 x39)), (40, (AVal.int .i64 (IntKind.wrap .i64 (x40 + (1 : Int)))))] r15.2) else none)) else (none))) else (some ((.exit 4), [(3, (AVal.ptr x3))], h))) := by
  generalize hh : run = R
  rw [run_is] at hh
  subst hh
  generalize hh : l_aag_Bytes_2 = R
  rw [l_aag_Bytes_2_is] at hh
  subst hh
  kernel_rfl

theorem k_aag_Bytes_2_x4 (fuel d : Nat) (x3 : Pt) (h : AHeap) :
    k_aag_Bytes_2 fuel d (.exit 4) [(3, (AVal.ptr x3))] h =
  (run fuel d F_strings_Builder_String [(AVal.ptr x3)] h).bind fun r1 =>
    (AVal.str? r1.1).bind fun s2 =>
    some ((AVal.slice (Sl.mk ⟨AHeap.next r1.2, 0, 0⟩ (ByteArray.size s2) false)), (AHeap.push r1.2 1 (bytesOf s2))) := by
  generalize hh : run = R
  rw [run_is] at hh
  subst hh
  generalize hh : k_aag_Bytes_2 = R
  rw [k_aag_Bytes_2_is] at hh
  subst hh
  kernel_rfl

noncomputable def s_skolemref_Bytes_0 (fuel d : Nat) : Run := fun fr h k => aexec (Cf fuel F_skolemref_Bytes) false (acall (C fuel) false d) (acall (C fuel) true d) 22 (csub [true, true, false, true, false, false] (fbody Go.Proofs.Tryd.f17)) (asub [true, true, false, true, false, false] an17) fr h k

noncomputable def l_skolemref_Bytes_0r (fuel d : Nat) (n : Nat) (fr : Fr) (h : AHeap) : Option (AExit × Fr × AHeap) := aloop (s_skolemref_Bytes_0 fuel d) (some [0, 3, 4]) n fr h (kOut [3])

noncomputable def l_skolemref_Bytes_0 : Nat → Nat → Nat → Fr → AHeap → Option (AExit × Fr × AHeap) := hide l_skolemref_Bytes_0r

theorem l_skolemref_Bytes_0_is : l_skolemref_Bytes_0 = l_skolemref_Bytes_0r := hide_eq _

noncomputable def k_skolemref_Bytes_0r (fuel d : Nat) : AExit → Fr → AHeap → Option (AVal × AHeap) := (kBlock 0 (kSeq (Cf fuel F_skolemref_Bytes) false (acall (C fuel) false d) (acall (C fuel) true d) 22 (csub [true, true, true] (fbody Go.Proofs.Tryd.f17)) (asub [true, true, true] an17) (kRet (Cf fuel F_skolemref_Bytes) Go.Proofs.Tryd.f17.results.toList)))

noncomputable def k_skolemref_Bytes_0 : Nat → Nat → AExit → Fr → AHeap → Option (AVal × AHeap) := hide k_skolemref_Bytes_0r

theorem k_skolemref_Bytes_0_is : k_skolemref_Bytes_0 = k_skolemref_Bytes_0r := hide_eq _

theorem e_skolemref_Bytes (fuel d : Nat) (x0 : Sl) (h : AHeap) :
    run fuel (d + 1) F_skolemref_Bytes [(AVal.slice x0)] h =
  (bif (decide ((0 : Int) ≤ ((x0.len : Nat) : Int)) && decide (((x0.len : Nat) : Int) * 1 ≤ 140737488355328) && decide (((x0.len : Nat) : Int) ≤ 140737488355328)) then ((l_skolemref_Bytes_0 fuel d fuel [(0, (AVal.slice x0)), (3, (AVal.slice (Sl.mk ⟨AHeap.next h, 0, 0⟩ 0 (eqI (0 : Int) ((x0.len : Nat) : Int))))), (4, (AVal.int .i64 (0 : Int)))] (AHeap.push h 1 [])).bind fun p1 =>
    k_skolemref_Bytes_0 fuel d p1.1 p1.2.1 p1.2.2) else (none)) := by
  generalize hh : run = R
  rw [run_is] at hh
  subst hh
  generalize hh : l_skolemref_Bytes_0 = R
  rw [l_skolemref_Bytes_0_is] at hh
  subst hh
  generalize hh : k_skolemref_Bytes_0 = R
  rw [k_skolemref_Bytes_0_is] at hh
  subst hh
  kernel_rfl

theorem l_skolemref_Bytes_0_eq (fuel d : Nat) (n : Nat) (x0 : Sl) (x3 : Sl) (x4 : Int) (h : AHeap) :
    l_skolemref_Bytes_0 fuel d (n + 1) [(0, (AVal.slice x0)), (3, (AVal.slice x3)), (4, (AVal.int .i64 x4))] h =
  (bif (decide (x4 < ((x0.len : Nat) : Int))) then ((AHeap.addr h 1 x0 x4).bind fun p1 =>
    (AHeap.cell h p1).bind fun u2 =>
    (AVal.int? .u8 u2).bind fun n3 =>
    (AHeap.append h false 1 1 x3 1 [(AVal.int .u8 n3)]).bind fun a4 =>
    l_skolemref_Bytes_0 fuel d n [(0, (AVal.slice x0)), (3, (AVal.slice a4.1)), (4, (AVal.int .i64 (IntKind.wrap .i64 (x4 + (1 : Int)))))] a4.2) else (some ((.exit 0), [(3, (AVal.slice x3))], h))) := by
  generalize hh : l_skolemref_Bytes_0 = R
  rw [l_skolemref_Bytes_0_is] at hh
  subst hh
  kernel_rfl

theorem k_skolemref_Bytes_0_x0 (fuel d : Nat) (x3 : Sl) (h : AHeap) :
    k_skolemref_Bytes_0 fuel d (.exit 0) [(3, (AVal.slice x3))] h =
  some ((AVal.slice x3), h) := by
  generalize hh : k_skolemref_Bytes_0 = R
  rw [k_skolemref_Bytes_0_is] at hh
  subst hh
  kernel_rfl

theorem e_skolemref_Placed (fuel d : Nat) (x0 : Int) (x1 : Int) (h : AHeap) :
    brun fuel (d + 1) F_skolemref_Placed [(AVal.int .i64 x0), (AVal.int .i64 x1)] h =
  (bif (decide (x0 = (0 : Int))) then ((run fuel d F_skolemref_None [] (AHeap.push h 1 [(AVal.int .i64 (0 : Int)), (AVal.bool false), (AVal.int .i64 (0 : Int))])).bind fun r1 =>
    (AVal.agg? r1.1).bind fun c2 =>
    (bif (!false && Nat.beq (List.length c2) 3 && List.all c2 AVal.isCell) then ((AHeap.storeAt r1.2 c2 (Pt.mk ⟨AHeap.next h, 0, 0⟩ 3)).bind fun h3 =>
    ((AHeap.cellsAt h3 3 (Pt.mk ⟨AHeap.next h, 0, 0⟩ 3)).bind fun c4 =>
    some ((AVal.agg c4)) : Option AVal).map fun v => (v, h3)) else (none))) else ((AHeap.storeAt (AHeap.push h 1 [(AVal.int .i64 (0 : Int)), (AVal.bool false), (AVal.int .i64 (0 : Int))]) [(AVal.int .i64 x0), (AVal.bool true), (AVal.int .i64 x1)] (Pt.mk ⟨AHeap.next h, 0, 0⟩ 3)).bind fun h5 =>
    ((AHeap.cellsAt h5 3 (Pt.mk ⟨AHeap.next h, 0, 0⟩ 3)).bind fun c6 =>
    some ((AVal.agg c6)) : Option AVal).map fun v => (v, h5))) := by
  generalize hh : run = R
  rw [run_is] at hh
  subst hh
  generalize hh : brun = R
  rw [brun_is] at hh
  subst hh
  kernel_rfl

theorem e_skolemworld_Number (fuel d : Nat) (x0 : Int) (x1 : Int) (h : AHeap) :
    brun fuel (d + 1) F_skolemworld_Number [(AVal.int .i64 x0), (AVal.int .i64 x1)] h =
  (bif decide (x1 = 0) then (none) else ((bif (decide ((Int.tmod x0 x1) < (0 : Int))) then (some ((AVal.int .i64 (IntKind.wrap .i64 ((Int.tmod x0 x1) + x1))), h)) else (some ((AVal.int .i64 (Int.tmod x0 x1)), h))))) := by
  generalize hh : brun = R
  rw [brun_is] at hh
  subst hh
  kernel_rfl

theorem e_aag_at (fuel d : Nat) (x0 : Int) (x1 : AVal) (h : AHeap) :
    brun fuel (d + 1) F_aag_at [(AVal.int .i64 x0), x1] h =
  ((bif (Nat.beq (List.length (AVal.cells x1)) 1 && Nat.ble (1 + 1) (List.length [(AVal.int .i64 x0), AVal.nilif]) && List.all (AVal.cells x1) AVal.isCell) then ((some (AHeap.overlay [(AVal.int .i64 x0), AVal.nilif] 1 (AVal.cells x1)))) else (none))).bind fun c1 =>
    (bif (List.all c1 AVal.isCell) then (some ((AVal.iface T_p_api_At (AVal.ptr (Pt.mk ⟨AHeap.next h, 0, 0⟩ (List.length c1)))), (AHeap.push h 1 c1))) else (none)) := by
  generalize hh : brun = R
  rw [brun_is] at hh
  subst hh
  kernel_rfl

noncomputable def s_word_Split_0 (fuel d : Nat) : Run := fun fr h k => aexec (Cf fuel F_word_Split) false (acall (C fuel) false d) (acall (C fuel) true d) 54 (csub [true, true, false, true, false, false] (fbody Go.Proofs.Tryd.f28)) (asub [true, true, false, true, false, false] an28) fr h k

noncomputable def l_word_Split_0r (fuel d : Nat) (n : Nat) (fr : Fr) (h : AHeap) : Option (AExit × Fr × AHeap) := aloop (s_word_Split_0 fuel d) (some [0, 1, 5, 6]) n fr h (kOut [5])

noncomputable def l_word_Split_0 : Nat → Nat → Nat → Fr → AHeap → Option (AExit × Fr × AHeap) := hide l_word_Split_0r

theorem l_word_Split_0_is : l_word_Split_0 = l_word_Split_0r := hide_eq _

noncomputable def k_word_Split_0r (fuel d : Nat) : AExit → Fr → AHeap → Option (AVal × AHeap) := (kBlock 0 (kSeq (Cf fuel F_word_Split) false (acall (C fuel) false d) (acall (C fuel) true d) 54 (csub [true, true, true] (fbody Go.Proofs.Tryd.f28)) (asub [true, true, true] an28) (kRet (Cf fuel F_word_Split) Go.Proofs.Tryd.f28.results.toList)))

noncomputable def k_word_Split_0 : Nat → Nat → AExit → Fr → AHeap → Option (AVal × AHeap) := hide k_word_Split_0r

theorem k_word_Split_0_is : k_word_Split_0 = k_word_Split_0r := hide_eq _

noncomputable def k_word_Split_1r (fuel d : Nat) (n : Nat) : AExit → Fr → AHeap → Option (AExit × Fr × AHeap) := (kSeq (Cf fuel F_word_Split) false (acall (C fuel) false d) (acall (C fuel) true d) 54 (csub [true, true, false, true, false, false, true, false, true, true] (fbody Go.Proofs.Tryd.f28)) (asub [true, true, false, true, false, false, true, false, true, true] an28) (kBlock 1 (kLoop (s_word_Split_0 fuel d) (some [0, 1, 5, 6]) n (kOut [5]))))

noncomputable def k_word_Split_1 : Nat → Nat → Nat → AExit → Fr → AHeap → Option (AExit × Fr × AHeap) := hide k_word_Split_1r

theorem k_word_Split_1_is : k_word_Split_1 = k_word_Split_1r := hide_eq _

theorem e_word_Split (fuel d : Nat) (x0 : Sl) (x1 : Bool) (h : AHeap) :
    brun fuel (d + 1) F_word_Split [(AVal.slice x0), (AVal.bool x1)] h =
  (l_word_Split_0 fuel d fuel [(0, (AVal.slice x0)), (1, (AVal.bool x1)), (5, (AVal.slice Sl.nil)), (6, (AVal.int .i64 (0 : Int)))] h).bind fun p1 =>
    k_word_Split_0 fuel d p1.1 p1.2.1 p1.2.2 := by
  generalize hh : brun = R
  rw [brun_is] at hh
  subst hh
  generalize hh : l_word_Split_0 = R
  rw [l_word_Split_0_is] at hh
  subst hh
  generalize hh : k_word_Split_0 = R
  rw [k_word_Split_0_is] at hh
  subst hh
  kernel_rfl

theorem l_word_Split_0_eq (fuel d : Nat) (n : Nat) (x0 : Sl) (x1 : Bool) (x5 : Sl) (x6 : Int) (h : AHeap) :
    l_word_Split_0 fuel d (n + 1) [(0, (AVal.slice x0)), (1, (AVal.bool x1)), (5, (AVal.slice x5)), (6, (AVal.int .i64 x6))] h =
  (bif (decide (x6 < ((x0.len : Nat) : Int))) then ((aHi (none : Option AVal) (Sl.len x0)).bind fun hi1 =>
    (aLo (some (AVal.int .i64 x6)) hi1).bind fun lo2 =>
    (aMx (none : Option AVal) hi1).bind fun cl3 =>
    (bif (AHeap.hasSz h 1 x0) then ((run fuel d F_bytes_IndexByte [(AVal.slice (Sl.cut x0 1 lo2 hi1 cl3)), (AVal.int .u8 (10 : Int))] h).bind fun r4 =>
    (AVal.int? .i64 r4.1).bind fun n5 =>
    ((bif (decide (n5 < (0 : Int))) then (some (.normal, [(0, (AVal.slice x0)), (1, (AVal.bool x1)), (5, (AVal.slice x5)), (6, (AVal.int .i64 x6)), (7, (AVal.int .i64 (IntKind.wrap .i64 (((x0.len : Nat) : Int) - x6))))], r4.2)) else (some (.normal, [(0, (AVal.slice x0)), (1, (AVal.bool x1)), (5, (AVal.slice x5)), (6, (AVal.int .i64 x6)), (7, (AVal.int .i64 n5))], r4.2)))).bind fun p6 =>
    k_word_Split_1 fuel d n p6.1 p6.2.1 p6.2.2) else (none))) else (some ((.exit 0), [(5, (AVal.slice x5))], h))) := by
  generalize hh : run = R
  rw [run_is] at hh
  subst hh
  generalize hh : l_word_Split_0 = R
  rw [l_word_Split_0_is] at hh
  subst hh
  generalize hh : k_word_Split_1 = R
  rw [k_word_Split_1_is] at hh
  subst hh
  kernel_rfl

theorem k_word_Split_0_x0 (fuel d : Nat) (x5 : Sl) (h : AHeap) :
    k_word_Split_0 fuel d (.exit 0) [(5, (AVal.slice x5))] h =
  some ((AVal.slice x5), h) := by
  generalize hh : k_word_Split_0 = R
  rw [k_word_Split_0_is] at hh
  subst hh
  kernel_rfl

theorem k_word_Split_1_n (fuel d : Nat) (n : Nat) (x0 : Sl) (x1 : Bool) (x5 : Sl) (x6 : Int) (x7 : Int) (h : AHeap) :
    k_word_Split_1 fuel d n .normal [(0, (AVal.slice x0)), (1, (AVal.bool x1)), (5, (AVal.slice x5)), (6, (AVal.int .i64 x6)), (7, (AVal.int .i64 x7))] h =
  (aHi (some (AVal.int .i64 (IntKind.wrap .i64 (x6 + x7)))) (Sl.len x0)).bind fun hi1 =>
    (aLo (some (AVal.int .i64 x6)) hi1).bind fun lo2 =>
    (aMx (none : Option AVal) hi1).bind fun cl3 =>
    (bif (AHeap.hasSz h 1 x0) then ((run fuel d F_word_line [(AVal.slice (Sl.cut x0 1 lo2 hi1 cl3)), (AVal.int .i64 x6)] h).bind fun r4 =>
    (AVal.slice? r4.1).bind fun s5 =>
    ((bif ((bif (!x1) then true else (decide (((s5.len : Nat) : Int) = (0 : Int)))) == false) then ((AHeap.addr r4.2 3 s5 (0 : Int)).bind fun p6 =>
    (Pt.field 0 p6).bind fun p7 =>
    (AHeap.cell r4.2 p7).bind fun u8 =>
    (AVal.str? u8).bind fun s9 =>
    (strAt s9 (0 : Int)).bind fun n10 =>
    some ((AVal.bool (!decide (n10 = (99 : Int)))), r4.2)) else (some ((AVal.bool true), r4.2)) : Option (AVal × AHeap))).bind fun r11 =>
    (AVal.bool? r11.1).bind fun b12 =>
    (bif b12 then ((AHeap.sliceCells r11.2 3 s5).bind fun xs13 =>
    (AHeap.append r11.2 false 3 32 x5 s5.len xs13).bind fun a14 =>
    l_word_Split_0 fuel d n [(0, (AVal.slice x0)), (1, (AVal.bool x1)), (5, (AVal.slice a14.1)), (6, (AVal.int .i64 (IntKind.wrap .i64 (x6 + (IntKind.wrap .i64 (x7 + (1 : Int)))))))] a14.2) else (l_word_Split_0 fuel d n [(0, (AVal.slice x0)), (1, (AVal.bool x1)), (5, (AVal.slice x5)), (6, (AVal.int .i64 (IntKind.wrap .i64 (x6 + (IntKind.wrap .i64 (x7 + (1 : Int)))))))] r11.2))) else (none)) := by
  generalize hh : run = R
  rw [run_is] at hh
  subst hh
  generalize hh : l_word_Split_0 = R
  rw [l_word_Split_0_is] at hh
  subst hh
  generalize hh : k_word_Split_1 = R
  rw [k_word_Split_1_is] at hh
  subst hh
  kernel_rfl

noncomputable def s_aag_reader_head_0 (fuel d : Nat) : Run := fun fr h k => aexec (Cf fuel F_aag_reader_head) false (acall (C fuel) false d) (acall (C fuel) true d) 64 (csub [true, true, true, false, true, false, false] (fbody Go.Proofs.Tryd.f29)) (asub [true, true, true, false, true, false, false] an29) fr h k

noncomputable def l_aag_reader_head_0r (fuel d : Nat) (n : Nat) (fr : Fr) (h : AHeap) : Option (AExit × Fr × AHeap) := aloop (s_aag_reader_head_0 fuel d) (some [0, 2, 4, 5, 12]) n fr h (kOut [2, 3, 4, 5])

noncomputable def l_aag_reader_head_0 : Nat → Nat → Nat → Fr → AHeap → Option (AExit × Fr × AHeap) := hide l_aag_reader_head_0r

theorem l_aag_reader_head_0_is : l_aag_reader_head_0 = l_aag_reader_head_0r := hide_eq _

noncomputable def k_aag_reader_head_0r (fuel d : Nat) : AExit → Fr → AHeap → Option (AVal × AHeap) := (kBlock 0 (kSeq (Cf fuel F_aag_reader_head) false (acall (C fuel) false d) (acall (C fuel) true d) 64 (csub [true, true, true, true] (fbody Go.Proofs.Tryd.f29)) (asub [true, true, true, true] an29) (kRet (Cf fuel F_aag_reader_head) Go.Proofs.Tryd.f29.results.toList)))

noncomputable def k_aag_reader_head_0 : Nat → Nat → AExit → Fr → AHeap → Option (AVal × AHeap) := hide k_aag_reader_head_0r

theorem k_aag_reader_head_0_is : k_aag_reader_head_0 = k_aag_reader_head_0r := hide_eq _

noncomputable def k_aag_reader_head_1r (fuel d : Nat) (n : Nat) : AExit → Fr → AHeap → Option (AExit × Fr × AHeap) := (kSeq (Cf fuel F_aag_reader_head) false (acall (C fuel) false d) (acall (C fuel) true d) 64 (csub [true, true, true, false, true, false, false, true, true, false, false, true, true, true, true, true, true] (fbody Go.Proofs.Tryd.f29)) (asub [true, true, true, false, true, false, false, true, true, false, false, true, true, true, true, true, true] an29) (kBlock 1 (kSeq (Cf fuel F_aag_reader_head) false (acall (C fuel) false d) (acall (C fuel) true d) 64 (csub [true, true, true, false, true, false, false, true, true, true] (fbody Go.Proofs.Tryd.f29)) (asub [true, true, true, false, true, false, false, true, true, true] an29) (kLoop (s_aag_reader_head_0 fuel d) (some [0, 2, 4, 5, 12]) n (kOut [2, 3, 4, 5])))))

noncomputable def k_aag_reader_head_1 : Nat → Nat → Nat → AExit → Fr → AHeap → Option (AExit × Fr × AHeap) := hide k_aag_reader_head_1r

theorem k_aag_reader_head_1_is : k_aag_reader_head_1 = k_aag_reader_head_1r := hide_eq _

theorem e_aag_reader_head (fuel d : Nat) (x0 : Pt) (h : AHeap) :
    run fuel (d + 1) F_aag_reader_head [(AVal.ptr x0)] h =
  (l_aag_reader_head_0 fuel d fuel [(0, (AVal.ptr x0)), (2, (AVal.ptr (Pt.mk ⟨AHeap.next h, 0, 0⟩ 6))), (4, (AVal.ptr (Pt.mk ⟨AHeap.next (AHeap.push h 1 [(AVal.int .i64 (0 : Int)), (AVal.int .i64 (0 : Int)), (AVal.int .i64 (0 : Int)), (AVal.int .i64 (0 : Int)), (AVal.int .i64 (0 : Int)), (AVal.int .i64 (0 : Int))]), 0, 0⟩ 6))), (5, (AVal.ptr (Pt.mk ⟨AHeap.next (AHeap.push (AHeap.push h 1 [(AVal.int .i64 (0 : Int)), (AVal.int .i64 (0 : Int)), (AVal.int .i64 (0 : Int)), (AVal.int .i64 (0 : Int)), (AVal.int .i64 (0 : Int)), (AVal.int .i64 (0 : Int))]) 1 [(AVal.int .i64 (0 : Int)), (AVal.int .i64 (0 : Int)), (AVal.int .i64 (0 : Int)), (AVal.int .i64 (0 : Int)), (AVal.int .i64 (0 : Int)), (AVal.int .i64 (0 : Int))]), 0, 0⟩ 6))), (12, (AVal.int .i64 (0 : Int)))] (AHeap.push (AHeap.push (AHeap.push h 1 [(AVal.int .i64 (0 : Int)), (AVal.int .i64 (0 : Int)), (AVal.int .i64 (0 : Int)), (AVal.int .i64 (0 : Int)), (AVal.int .i64 (0 : Int)), (AVal.int .i64 (0 : Int))]) 1 [(AVal.int .i64 (0 : Int)), (AVal.int .i64 (0 : Int)), (AVal.int .i64 (0 : Int)), (AVal.int .i64 (0 : Int)), (AVal.int .i64 (0 : Int)), (AVal.int .i64 (0 : Int))]) 1 [(AVal.int .i64 (0 : Int)), (AVal.int .i64 (0 : Int)), (AVal.int .i64 (0 : Int)), (AVal.int .i64 (0 : Int)), (AVal.int .i64 (0 : Int)), (AVal.int .i64 (0 : Int))])).bind fun p1 =>
    k_aag_reader_head_0 fuel d p1.1 p1.2.1 p1.2.2 := by
  generalize hh : run = R
  rw [run_is] at hh
  subst hh
  generalize hh : l_aag_reader_head_0 = R
  rw [l_aag_reader_head_0_is] at hh
  subst hh
  generalize hh : k_aag_reader_head_0 = R
  rw [k_aag_reader_head_0_is] at hh
  subst hh
  kernel_rfl

theorem l_aag_reader_head_0_eq (fuel d : Nat) (n : Nat) (x0 : Pt) (x2 : Pt) (x4 : Pt) (x5 : Pt) (x12 : Int) (h : AHeap) :
    l_aag_reader_head_0 fuel d (n + 1) [(0, (AVal.ptr x0)), (2, (AVal.ptr x2)), (4, (AVal.ptr x4)), (5, (AVal.ptr x5)), (12, (AVal.int .i64 x12))] h =
  (bif (decide (x12 < (6 : Int))) then ((run fuel d F_aag_reader_pos [(AVal.ptr x0)] h).bind fun r1 =>
    (AVal.int? .i64 r1.1).bind fun n2 =>
    (Pt.elem 1 6 x12 x5).bind fun p3 =>
    (AHeap.storeAt r1.2 [(AVal.int .i64 n2)] p3).bind fun h4 =>
    (run fuel d F_aag_reader_word [(AVal.ptr x0), (AVal.bool (decide (x12 = (0 : Int))))] h4).bind fun r5 =>
    (bif AVal.isTup 2 r5.1 then ((AVal.comp 0 r5.1).bind fun u6 =>
    (AVal.str? u6).bind fun s7 =>
    (AVal.comp 1 r5.1).bind fun u8 =>
    (nilTest .iface u8).bind fun b9 =>
    (bif (!b9) then ((AHeap.cellsAt r5.2 6 x4).bind fun c10 =>
    (bif (!false && Nat.beq (List.length c10) 6 && List.all c10 AVal.isCell) then ((AHeap.storeAt r5.2 c10 x2).bind fun h11 =>
    some (.ret, [(2, (AVal.ptr x2)), (3, u8), (4, (AVal.ptr x4)), (5, (AVal.ptr x5))], h11)) else (none))) else (((bif (decide ((0 : Int) < x12)) then ((run fuel d F_word_Plain [(AVal.str s7)] r5.2).bind fun r12 =>
    (bif AVal.isTup 2 r12.1 then ((AVal.comp 0 r12.1).bind fun u13 =>
    (AVal.int? .i64 u13).bind fun n14 =>
    (AVal.comp 1 r12.1).bind fun u15 =>
    (AVal.bool? u15).bind fun b16 =>
    (Pt.elem 1 6 x12 x4).bind fun p17 =>
    (AHeap.storeAt r12.2 [(AVal.int .i64 n14)] p17).bind fun h18 =>
    some (.normal, [(0, (AVal.ptr x0)), (2, (AVal.ptr x2)), (4, (AVal.ptr x4)), (5, (AVal.ptr x5)), (6, (AVal.int .i64 x12)), (9, (AVal.bool b16)), (12, (AVal.int .i64 x12))], h18)) else none)) else (some (.normal, [(0, (AVal.ptr x0)), (2, (AVal.ptr x2)), (4, (AVal.ptr x4)), (5, (AVal.ptr x5)), (6, (AVal.int .i64 x12)), (9, (AVal.bool (decide (s7 = (⟨#[97, 97, 103]⟩ : ByteArray))))), (12, (AVal.int .i64 x12))], r5.2)))).bind fun p19 =>
    k_aag_reader_head_1 fuel d n p19.1 p19.2.1 p19.2.2))) else none)) else (some ((.exit 0), [(2, (AVal.ptr x2)), (3, AVal.bot), (4, (AVal.ptr x4)), (5, (AVal.ptr x5))], h))) := by
  generalize hh : run = R
  rw [run_is] at hh
  subst hh
  generalize hh : l_aag_reader_head_0 = R
  rw [l_aag_reader_head_0_is] at hh
  subst hh
  generalize hh : k_aag_reader_head_1 = R
  rw [k_aag_reader_head_1_is] at hh
  subst hh
  kernel_rfl

theorem k_aag_reader_head_0_x0 (fuel d : Nat) (x2 : Pt) (x3 : AVal) (x4 : Pt) (x5 : Pt) (h : AHeap) :
    k_aag_reader_head_0 fuel d (.exit 0) [(2, (AVal.ptr x2)), (3, x3), (4, (AVal.ptr x4)), (5, (AVal.ptr x5))] h =
  (AHeap.cellsAt h 6 x4).bind fun c1 =>
    (run fuel d F_aag_Limits [(AVal.agg c1)] h).bind fun r2 =>
    (bif AVal.isTup 2 r2.1 then ((AVal.comp 0 r2.1).bind fun u3 =>
    (AVal.int? .i64 u3).bind fun n4 =>
    (AVal.comp 1 r2.1).bind fun u5 =>
    (nilTest .iface u5).bind fun b6 =>
    (bif (!b6) then ((AHeap.cellsAt r2.2 6 x4).bind fun c7 =>
    (Pt.elem 1 6 n4 x5).bind fun p8 =>
    (AHeap.cell r2.2 p8).bind fun u9 =>
    (AVal.int? .i64 u9).bind fun n10 =>
    (run fuel d F_aag_at [(AVal.int .i64 n10), u5] r2.2).bind fun r11 =>
    same ((AHeap.cellsAt r11.2 6 x4).bind fun c15 =>
    some ((AVal.agg c15), r11.2)) ((AVal.agg c7), r11.2) (
    (bif (!false && Nat.beq (List.length c7) 6 && List.all c7 AVal.isCell) then ((AHeap.storeAt r11.2 c7 x2).bind fun h12 =>
    (((((AHeap.cellsAt h12 6 x2).bind fun c14 =>
    some ((AVal.agg c14)) : Option AVal).bind fun v13 =>
    some [v13, r11.1]) : Option (List AVal)).map AVal.tup).map fun v => (v, h12)) else (none)))) else ((AHeap.cellsAt r2.2 6 x4).bind fun c16 =>
    (bif (!false && Nat.beq (List.length c16) 6 && List.all c16 AVal.isCell) then ((AHeap.storeAt r2.2 c16 x2).bind fun h17 =>
    (((((AHeap.cellsAt h17 6 x2).bind fun c19 =>
    some ((AVal.agg c19)) : Option AVal).bind fun v18 =>
    some [v18, AVal.nilif]) : Option (List AVal)).map AVal.tup).map fun v => (v, h17)) else (none))))) else none) := by
  generalize hh : run = R
  rw [run_is] at hh
  subst hh
  generalize hh : k_aag_reader_head_0 = R
  rw [k_aag_reader_head_0_is] at hh
  subst hh
  kernel_rfl

theorem k_aag_reader_head_0_r (fuel d : Nat) (x2 : Pt) (x3 : AVal) (x4 : AVal) (x5 : AVal) (h : AHeap) :
    k_aag_reader_head_0 fuel d .ret [(2, (AVal.ptr x2)), (3, x3), (4, x4), (5, x5)] h =
  (((((AHeap.cellsAt h 6 x2).bind fun c2 =>
    some ((AVal.agg c2)) : Option AVal).bind fun v1 =>
    some [v1, x3]) : Option (List AVal)).map AVal.tup).map fun v => (v, h) := by
  generalize hh : k_aag_reader_head_0 = R
  rw [k_aag_reader_head_0_is] at hh
  subst hh
  kernel_rfl

theorem k_aag_reader_head_1_n (fuel d : Nat) (n : Nat) (x0 : Pt) (x2 : Pt) (x4 : Pt) (x5 : Pt) (x6 : Int) (x9 : Bool) (x12 : Int) (h : AHeap) :
    k_aag_reader_head_1 fuel d n .normal [(0, (AVal.ptr x0)), (2, (AVal.ptr x2)), (4, (AVal.ptr x4)), (5, (AVal.ptr x5)), (6, (AVal.int .i64 x6)), (9, (AVal.bool x9)), (12, (AVal.int .i64 x12))] h =
  (bif (!x9) then ((AHeap.cellsAt h 6 x4).bind fun c1 =>
    (Pt.elem 1 6 x6 x5).bind fun p2 =>
    (AHeap.cell h p2).bind fun u3 =>
    (AVal.int? .i64 u3).bind fun n4 =>
    (run fuel d F_aag_at [(AVal.int .i64 n4), err_api_ErrText] h).bind fun r5 =>
    same ((AHeap.cellsAt r5.2 6 x4).bind fun c7 =>
    some ((AVal.agg c7), r5.2)) ((AVal.agg c1), r5.2) (
    (bif (!false && Nat.beq (List.length c1) 6 && List.all c1 AVal.isCell) then ((AHeap.storeAt r5.2 c1 x2).bind fun h6 =>
    some (.ret, [(2, (AVal.ptr x2)), (3, r5.1), (4, (AVal.ptr x4)), (5, (AVal.ptr x5))], h6)) else (none)))) else (l_aag_reader_head_0 fuel d n [(0, (AVal.ptr x0)), (2, (AVal.ptr x2)), (4, (AVal.ptr x4)), (5, (AVal.ptr x5)), (12, (AVal.int .i64 (IntKind.wrap .i64 (x12 + (1 : Int)))))] h)) := by
  generalize hh : run = R
  rw [run_is] at hh
  subst hh
  generalize hh : l_aag_reader_head_0 = R
  rw [l_aag_reader_head_0_is] at hh
  subst hh
  generalize hh : k_aag_reader_head_1 = R
  rw [k_aag_reader_head_1_is] at hh
  subst hh
  kernel_rfl

noncomputable def s_aag_reader_body_0 (fuel d : Nat) : Run := fun fr h k => aexec (Cf fuel F_aag_reader_body) false (acall (C fuel) false d) (acall (C fuel) true d) 135 (csub [true, true, false, true, false, false] (fbody Go.Proofs.Tryd.f30)) (asub [true, true, false, true, false, false] an30) fr h k

noncomputable def l_aag_reader_body_0r (fuel d : Nat) (n : Nat) (fr : Fr) (h : AHeap) : Option (AExit × Fr × AHeap) := aloop (s_aag_reader_body_0 fuel d) (some [0, 3, 4, 6, 19, 20]) n fr h (kOut [0, 3, 4, 5, 6])

noncomputable def l_aag_reader_body_0 : Nat → Nat → Nat → Fr → AHeap → Option (AExit × Fr × AHeap) := hide l_aag_reader_body_0r

theorem l_aag_reader_body_0_is : l_aag_reader_body_0 = l_aag_reader_body_0r := hide_eq _

noncomputable def k_aag_reader_body_0r (fuel d : Nat) : AExit → Fr → AHeap → Option (AVal × AHeap) := (kBlock 0 (kSeq (Cf fuel F_aag_reader_body) false (acall (C fuel) false d) (acall (C fuel) true d) 135 (csub [true, true, true] (fbody Go.Proofs.Tryd.f30)) (asub [true, true, true] an30) (kRet (Cf fuel F_aag_reader_body) Go.Proofs.Tryd.f30.results.toList)))

noncomputable def k_aag_reader_body_0 : Nat → Nat → AExit → Fr → AHeap → Option (AVal × AHeap) := hide k_aag_reader_body_0r

theorem k_aag_reader_body_0_is : k_aag_reader_body_0 = k_aag_reader_body_0r := hide_eq _

noncomputable def s_aag_reader_body_1 (fuel d : Nat) : Run := fun fr h k => aexec (Cf fuel F_aag_reader_body) false (acall (C fuel) false d) (acall (C fuel) true d) 135 (csub [true, true, true, false, true, false, false] (fbody Go.Proofs.Tryd.f30)) (asub [true, true, true, false, true, false, false] an30) fr h k

noncomputable def l_aag_reader_body_1r (fuel d : Nat) (n : Nat) (fr : Fr) (h : AHeap) : Option (AExit × Fr × AHeap) := aloop (s_aag_reader_body_1 fuel d) (some [0, 3, 4, 6, 40, 41]) n fr h (kOut [0, 3, 4, 5, 6])

noncomputable def l_aag_reader_body_1 : Nat → Nat → Nat → Fr → AHeap → Option (AExit × Fr × AHeap) := hide l_aag_reader_body_1r

theorem l_aag_reader_body_1_is : l_aag_reader_body_1 = l_aag_reader_body_1r := hide_eq _

noncomputable def k_aag_reader_body_1r (fuel d : Nat) : AExit → Fr → AHeap → Option (AVal × AHeap) := (kBlock 2 (kSeq (Cf fuel F_aag_reader_body) false (acall (C fuel) false d) (acall (C fuel) true d) 135 (csub [true, true, true, true] (fbody Go.Proofs.Tryd.f30)) (asub [true, true, true, true] an30) (kRet (Cf fuel F_aag_reader_body) Go.Proofs.Tryd.f30.results.toList)))

noncomputable def k_aag_reader_body_1 : Nat → Nat → AExit → Fr → AHeap → Option (AVal × AHeap) := hide k_aag_reader_body_1r

theorem k_aag_reader_body_1_is : k_aag_reader_body_1 = k_aag_reader_body_1r := hide_eq _

noncomputable def s_aag_reader_body_2 (fuel d : Nat) : Run := fun fr h k => aexec (Cf fuel F_aag_reader_body) false (acall (C fuel) false d) (acall (C fuel) true d) 135 (csub [true, true, true, true, false, true, false, false] (fbody Go.Proofs.Tryd.f30)) (asub [true, true, true, true, false, true, false, false] an30) fr h k

noncomputable def l_aag_reader_body_2r (fuel d : Nat) (n : Nat) (fr : Fr) (h : AHeap) : Option (AExit × Fr × AHeap) := aloop (s_aag_reader_body_2 fuel d) (some [0, 3, 4, 6, 64, 65]) n fr h (kOut [0, 4, 5, 6])

noncomputable def l_aag_reader_body_2 : Nat → Nat → Nat → Fr → AHeap → Option (AExit × Fr × AHeap) := hide l_aag_reader_body_2r

theorem l_aag_reader_body_2_is : l_aag_reader_body_2 = l_aag_reader_body_2r := hide_eq _

noncomputable def k_aag_reader_body_2r (fuel d : Nat) : AExit → Fr → AHeap → Option (AVal × AHeap) := (kBlock 4 (kSeq (Cf fuel F_aag_reader_body) false (acall (C fuel) false d) (acall (C fuel) true d) 135 (csub [true, true, true, true, true] (fbody Go.Proofs.Tryd.f30)) (asub [true, true, true, true, true] an30) (kRet (Cf fuel F_aag_reader_body) Go.Proofs.Tryd.f30.results.toList)))

noncomputable def k_aag_reader_body_2 : Nat → Nat → AExit → Fr → AHeap → Option (AVal × AHeap) := hide k_aag_reader_body_2r

theorem k_aag_reader_body_2_is : k_aag_reader_body_2 = k_aag_reader_body_2r := hide_eq _

noncomputable def k_aag_reader_body_3r (fuel d : Nat) : AExit → Fr → AHeap → Option (AVal × AHeap) := (kSeq (Cf fuel F_aag_reader_body) false (acall (C fuel) false d) (acall (C fuel) true d) 135 (csub [true, true, true, true, true, false, true] (fbody Go.Proofs.Tryd.f30)) (asub [true, true, true, true, true, false, true] an30) (kSeq (Cf fuel F_aag_reader_body) false (acall (C fuel) false d) (acall (C fuel) true d) 135 (csub [true, true, true, true, true, true] (fbody Go.Proofs.Tryd.f30)) (asub [true, true, true, true, true, true] an30) (kRet (Cf fuel F_aag_reader_body) Go.Proofs.Tryd.f30.results.toList)))

noncomputable def k_aag_reader_body_3 : Nat → Nat → AExit → Fr → AHeap → Option (AVal × AHeap) := hide k_aag_reader_body_3r

theorem k_aag_reader_body_3_is : k_aag_reader_body_3 = k_aag_reader_body_3r := hide_eq _

theorem e_aag_reader_body (fuel d : Nat) (x0 : Pt) (x1 : List AVal) (h : AHeap) :
    run fuel (d + 1) F_aag_reader_body [(AVal.ptr x0), (AVal.agg x1)] h =
  (bif (List.all x1 AVal.isCell) then ((Pt.elem 1 6 (2 : Int) (Pt.mk ⟨AHeap.next h, 0, 0⟩ (List.length x1))).bind fun p1 =>
    (AHeap.cell (AHeap.push (AHeap.push h 1 x1) 1 [(AVal.int .i64 (0 : Int)), (AVal.slice Sl.nil), (AVal.slice Sl.nil)]) p1).bind fun u2 =>
    (AVal.int? .i64 u2).bind fun n3 =>
    (AHeap.storeAt (AHeap.push (AHeap.push (AHeap.push h 1 x1) 1 [(AVal.int .i64 (0 : Int)), (AVal.slice Sl.nil), (AVal.slice Sl.nil)]) 1 [(AVal.int .i64 (0 : Int)), (AVal.slice Sl.nil), (AVal.slice Sl.nil)]) [(AVal.int .i64 n3), (AVal.slice Sl.nil), (AVal.slice Sl.nil)] (Pt.mk ⟨AHeap.next (AHeap.push (AHeap.push h 1 x1) 1 [(AVal.int .i64 (0 : Int)), (AVal.slice Sl.nil), (AVal.slice Sl.nil)]), 0, 0⟩ 3)).bind fun h4 =>
    (Pt.elem 1 6 (2 : Int) (Pt.mk ⟨AHeap.next h, 0, 0⟩ (List.length x1))).bind fun p5 =>
    (AHeap.cell h4 p5).bind fun u6 =>
    (AVal.int? .i64 u6).bind fun n7 =>
    (l_aag_reader_body_0 fuel d fuel [(0, (AVal.ptr x0)), (3, (AVal.ptr (Pt.mk ⟨AHeap.next h, 0, 0⟩ (List.length x1)))), (4, (AVal.ptr (Pt.mk ⟨AHeap.next (AHeap.push h 1 x1), 0, 0⟩ 3))), (6, (AVal.ptr (Pt.mk ⟨AHeap.next (AHeap.push (AHeap.push h 1 x1) 1 [(AVal.int .i64 (0 : Int)), (AVal.slice Sl.nil), (AVal.slice Sl.nil)]), 0, 0⟩ 3))), (19, (AVal.int .i64 n7)), (20, (AVal.int .i64 (0 : Int)))] h4).bind fun p8 =>
    k_aag_reader_body_0 fuel d p8.1 p8.2.1 p8.2.2) else (none)) := by
  generalize hh : run = R
  rw [run_is] at hh
  subst hh
  generalize hh : l_aag_reader_body_0 = R
  rw [l_aag_reader_body_0_is] at hh
  subst hh
  generalize hh : k_aag_reader_body_0 = R
  rw [k_aag_reader_body_0_is] at hh
  subst hh
  kernel_rfl

theorem l_aag_reader_body_0_eq (fuel d : Nat) (n : Nat) (x0 : Pt) (x3 : Pt) (x4 : Pt) (x6 : Pt) (x19 : Int) (x20 : Int) (h : AHeap) :
    l_aag_reader_body_0 fuel d (n + 1) [(0, (AVal.ptr x0)), (3, (AVal.ptr x3)), (4, (AVal.ptr x4)), (6, (AVal.ptr x6)), (19, (AVal.int .i64 x19)), (20, (AVal.int .i64 x20))] h =
  (bif (decide (x20 < x19)) then ((run fuel d F_aag_reader_number [(AVal.ptr x0), (AVal.bool true), (AVal.int .i64 (IntKind.wrap .i64 ((2 : Int) * (IntKind.wrap .i64 (x20 + (1 : Int)))))), (AVal.int .i64 (IntKind.wrap .i64 ((2 : Int) * (IntKind.wrap .i64 (x20 + (1 : Int))))))] h).bind fun r1 =>
    (bif AVal.isTup 2 r1.1 then ((AVal.comp 0 r1.1).bind fun u2 =>
    (AVal.int? .i64 u2).bind fun n3 =>
    (AVal.comp 1 r1.1).bind fun u4 =>
    (nilTest .iface u4).bind fun b5 =>
    (bif (!b5) then ((AHeap.storeAt r1.2 [(AVal.int .i64 (0 : Int)), (AVal.slice Sl.nil), (AVal.slice Sl.nil)] x4).bind fun h6 =>
    some (.ret, [(0, (AVal.ptr x0)), (3, (AVal.ptr x3)), (4, (AVal.ptr x4)), (5, u4), (6, (AVal.ptr x6))], h6)) else (l_aag_reader_body_0 fuel d n [(0, (AVal.ptr x0)), (3, (AVal.ptr x3)), (4, (AVal.ptr x4)), (6, (AVal.ptr x6)), (19, (AVal.int .i64 x19)), (20, (AVal.int .i64 (IntKind.wrap .i64 (x20 + (1 : Int)))))] r1.2))) else none)) else (some ((.exit 0), [(0, (AVal.ptr x0)), (3, (AVal.ptr x3)), (4, (AVal.ptr x4)), (5, AVal.bot), (6, (AVal.ptr x6))], h))) := by
  generalize hh : run = R
  rw [run_is] at hh
  subst hh
  generalize hh : l_aag_reader_body_0 = R
  rw [l_aag_reader_body_0_is] at hh
  subst hh
  kernel_rfl

theorem k_aag_reader_body_0_x0 (fuel d : Nat) (x0 : Pt) (x3 : Pt) (x4 : Pt) (x5 : AVal) (x6 : Pt) (h : AHeap) :
    k_aag_reader_body_0 fuel d (.exit 0) [(0, (AVal.ptr x0)), (3, (AVal.ptr x3)), (4, (AVal.ptr x4)), (5, x5), (6, (AVal.ptr x6))] h =
  (Pt.elem 1 6 (4 : Int) x3).bind fun p1 =>
    (AHeap.cell h p1).bind fun u2 =>
    (AVal.int? .i64 u2).bind fun n3 =>
    (l_aag_reader_body_1 fuel d fuel [(0, (AVal.ptr x0)), (3, (AVal.ptr x3)), (4, (AVal.ptr x4)), (6, (AVal.ptr x6)), (40, (AVal.int .i64 n3)), (41, (AVal.int .i64 (0 : Int)))] h).bind fun p4 =>
    k_aag_reader_body_1 fuel d p4.1 p4.2.1 p4.2.2 := by
  generalize hh : k_aag_reader_body_0 = R
  rw [k_aag_reader_body_0_is] at hh
  subst hh
  generalize hh : l_aag_reader_body_1 = R
  rw [l_aag_reader_body_1_is] at hh
  subst hh
  generalize hh : k_aag_reader_body_1 = R
  rw [k_aag_reader_body_1_is] at hh
  subst hh
  kernel_rfl

theorem k_aag_reader_body_0_r (fuel d : Nat) (x0 : AVal) (x3 : AVal) (x4 : Pt) (x5 : AVal) (x6 : AVal) (h : AHeap) :
    k_aag_reader_body_0 fuel d .ret [(0, x0), (3, x3), (4, (AVal.ptr x4)), (5, x5), (6, x6)] h =
  (((((AHeap.cellsAt h 3 x4).bind fun c2 =>
    some ((AVal.agg c2)) : Option AVal).bind fun v1 =>
    some [v1, x5]) : Option (List AVal)).map AVal.tup).map fun v => (v, h) := by
  generalize hh : k_aag_reader_body_0 = R
  rw [k_aag_reader_body_0_is] at hh
  subst hh
  kernel_rfl

theorem l_aag_reader_body_1_eq (fuel d : Nat) (n : Nat) (x0 : Pt) (x3 : Pt) (x4 : Pt) (x6 : Pt) (x40 : Int) (x41 : Int) (h : AHeap) :
    l_aag_reader_body_1 fuel d (n + 1) [(0, (AVal.ptr x0)), (3, (AVal.ptr x3)), (4, (AVal.ptr x4)), (6, (AVal.ptr x6)), (40, (AVal.int .i64 x40)), (41, (AVal.int .i64 x41))] h =
  (bif (decide (x41 < x40)) then ((Pt.elem 1 6 (1 : Int) x3).bind fun p1 =>
    (AHeap.cell h p1).bind fun u2 =>
    (AVal.int? .i64 u2).bind fun n3 =>
    (run fuel d F_aag_reader_number [(AVal.ptr x0), (AVal.bool true), (AVal.int .i64 (0 : Int)), (AVal.int .i64 (IntKind.wrap .i64 ((IntKind.wrap .i64 ((2 : Int) * n3)) + (1 : Int))))] h).bind fun r4 =>
    (bif AVal.isTup 2 r4.1 then ((AVal.comp 0 r4.1).bind fun u5 =>
    (AVal.int? .i64 u5).bind fun n6 =>
    (AVal.comp 1 r4.1).bind fun u7 =>
    (nilTest .iface u7).bind fun b8 =>
    (bif (!b8) then ((AHeap.storeAt r4.2 [(AVal.int .i64 (0 : Int)), (AVal.slice Sl.nil), (AVal.slice Sl.nil)] x4).bind fun h9 =>
    some (.ret, [(0, (AVal.ptr x0)), (3, (AVal.ptr x3)), (4, (AVal.ptr x4)), (5, u7), (6, (AVal.ptr x6))], h9)) else ((Pt.field 2 x6).bind fun p10 =>
    (AHeap.cell r4.2 p10).bind fun u11 =>
    (AVal.slice? u11).bind fun s12 =>
    (AHeap.append r4.2 false 1 8 s12 1 [(AVal.int .i64 n6)]).bind fun a13 =>
    (Pt.field 2 x6).bind fun p14 =>
    (AHeap.storeAt a13.2 [(AVal.slice a13.1)] p14).bind fun h15 =>
    l_aag_reader_body_1 fuel d n [(0, (AVal.ptr x0)), (3, (AVal.ptr x3)), (4, (AVal.ptr x4)), (6, (AVal.ptr x6)), (40, (AVal.int .i64 x40)), (41, (AVal.int .i64 (IntKind.wrap .i64 (x41 + (1 : Int)))))] h15))) else none)) else (some ((.exit 2), [(0, (AVal.ptr x0)), (3, (AVal.ptr x3)), (4, (AVal.ptr x4)), (5, AVal.bot), (6, (AVal.ptr x6))], h))) := by
  generalize hh : run = R
  rw [run_is] at hh
  subst hh
  generalize hh : l_aag_reader_body_1 = R
  rw [l_aag_reader_body_1_is] at hh
  subst hh
  kernel_rfl

theorem k_aag_reader_body_1_x2 (fuel d : Nat) (x0 : Pt) (x3 : Pt) (x4 : Pt) (x5 : AVal) (x6 : Pt) (h : AHeap) :
    k_aag_reader_body_1 fuel d (.exit 2) [(0, (AVal.ptr x0)), (3, (AVal.ptr x3)), (4, (AVal.ptr x4)), (5, x5), (6, (AVal.ptr x6))] h =
  (Pt.elem 1 6 (5 : Int) x3).bind fun p1 =>
    (AHeap.cell h p1).bind fun u2 =>
    (AVal.int? .i64 u2).bind fun n3 =>
    (l_aag_reader_body_2 fuel d fuel [(0, (AVal.ptr x0)), (3, (AVal.ptr x3)), (4, (AVal.ptr x4)), (6, (AVal.ptr x6)), (64, (AVal.int .i64 n3)), (65, (AVal.int .i64 (0 : Int)))] h).bind fun p4 =>
    k_aag_reader_body_2 fuel d p4.1 p4.2.1 p4.2.2 := by
  generalize hh : k_aag_reader_body_1 = R
  rw [k_aag_reader_body_1_is] at hh
  subst hh
  generalize hh : l_aag_reader_body_2 = R
  rw [l_aag_reader_body_2_is] at hh
  subst hh
  generalize hh : k_aag_reader_body_2 = R
  rw [k_aag_reader_body_2_is] at hh
  subst hh
  kernel_rfl

theorem k_aag_reader_body_1_r (fuel d : Nat) (x0 : AVal) (x3 : AVal) (x4 : Pt) (x5 : AVal) (x6 : AVal) (h : AHeap) :
    k_aag_reader_body_1 fuel d .ret [(0, x0), (3, x3), (4, (AVal.ptr x4)), (5, x5), (6, x6)] h =
  (((((AHeap.cellsAt h 3 x4).bind fun c2 =>
    some ((AVal.agg c2)) : Option AVal).bind fun v1 =>
    some [v1, x5]) : Option (List AVal)).map AVal.tup).map fun v => (v, h) := by
  generalize hh : k_aag_reader_body_1 = R
  rw [k_aag_reader_body_1_is] at hh
  subst hh
  kernel_rfl

theorem l_aag_reader_body_2_eq (fuel d : Nat) (n : Nat) (x0 : Pt) (x3 : Pt) (x4 : Pt) (x6 : Pt) (x64 : Int) (x65 : Int) (h : AHeap) :
    l_aag_reader_body_2 fuel d (n + 1) [(0, (AVal.ptr x0)), (3, (AVal.ptr x3)), (4, (AVal.ptr x4)), (6, (AVal.ptr x6)), (64, (AVal.int .i64 x64)), (65, (AVal.int .i64 x65))] h =
  (bif (decide (x65 < x64)) then ((Pt.elem 1 6 (2 : Int) x3).bind fun p1 =>
    (AHeap.cell h p1).bind fun u2 =>
    (AVal.int? .i64 u2).bind fun n3 =>
    (run fuel d F_aag_reader_and [(AVal.ptr x0), (AVal.int .i64 (IntKind.wrap .i64 ((2 : Int) * (IntKind.wrap .i64 ((IntKind.wrap .i64 (n3 + x65)) + (1 : Int))))))] h).bind fun r4 =>
    (bif AVal.isTup 2 r4.1 then ((AVal.comp 0 r4.1).bind fun u5 =>
    (AVal.agg? u5).bind fun c6 =>
    (AVal.comp 1 r4.1).bind fun u7 =>
    (bif (!false && Nat.beq (List.length c6) 2 && List.all c6 AVal.isCell) then ((AHeap.storeAt (AHeap.push r4.2 1 [(AVal.int .i64 (0 : Int)), (AVal.int .i64 (0 : Int))]) c6 (Pt.mk ⟨AHeap.next r4.2, 0, 0⟩ 2)).bind fun h8 =>
    (nilTest .iface u7).bind fun b9 =>
    (bif (!b9) then ((AHeap.storeAt h8 [(AVal.int .i64 (0 : Int)), (AVal.slice Sl.nil), (AVal.slice Sl.nil)] x4).bind fun h10 =>
    some (.ret, [(0, (AVal.ptr x0)), (4, (AVal.ptr x4)), (5, u7), (6, (AVal.ptr x6))], h10)) else ((Pt.field 1 x6).bind fun p11 =>
    (AHeap.cell h8 p11).bind fun u12 =>
    (AVal.slice? u12).bind fun s13 =>
    (AHeap.cellsAt h8 2 (Pt.mk ⟨AHeap.next r4.2, 0, 0⟩ 2)).bind fun c14 =>
    ((bif (Nat.beq (List.length c14) 2 && Nat.ble (0 + 2) (List.length [(AVal.int .i64 (0 : Int)), (AVal.int .i64 (0 : Int))]) && List.all c14 AVal.isCell) then ((some (AHeap.overlay [(AVal.int .i64 (0 : Int)), (AVal.int .i64 (0 : Int))] 0 c14))) else (none))).bind fun c15 =>
    (AHeap.sliceCells h8 2 (Sl.lst 1 true c15)).bind fun xs16 =>
    (AHeap.append h8 false 2 16 s13 (Sl.lst 1 true c15).len xs16).bind fun a17 =>
    (Pt.field 1 x6).bind fun p18 =>
    (AHeap.storeAt a17.2 [(AVal.slice a17.1)] p18).bind fun h19 =>
    l_aag_reader_body_2 fuel d n [(0, (AVal.ptr x0)), (3, (AVal.ptr x3)), (4, (AVal.ptr x4)), (6, (AVal.ptr x6)), (64, (AVal.int .i64 x64)), (65, (AVal.int .i64 (IntKind.wrap .i64 (x65 + (1 : Int)))))] h19))) else (none))) else none)) else (some ((.exit 4), [(0, (AVal.ptr x0)), (4, (AVal.ptr x4)), (5, AVal.bot), (6, (AVal.ptr x6))], h))) := by
  generalize hh : run = R
  rw [run_is] at hh
  subst hh
  generalize hh : l_aag_reader_body_2 = R
  rw [l_aag_reader_body_2_is] at hh
  subst hh
  kernel_rfl

theorem k_aag_reader_body_2_x4 (fuel d : Nat) (x0 : Pt) (x4 : Pt) (x5 : AVal) (x6 : Pt) (h : AHeap) :
    k_aag_reader_body_2 fuel d (.exit 4) [(0, (AVal.ptr x0)), (4, (AVal.ptr x4)), (5, x5), (6, (AVal.ptr x6))] h =
  ((Pt.chk x0).bind fun p1 =>
    (Pt.field 1 p1).bind fun p2 =>
    (AHeap.cell h p2).bind fun u3 =>
    (AVal.int? .i64 u3).bind fun n4 =>
    (Pt.chk x0).bind fun p5 =>
    (Pt.field 0 p5).bind fun p6 =>
    (AHeap.cell h p6).bind fun u7 =>
    (AVal.slice? u7).bind fun s8 =>
    (bif (decide (n4 < ((s8.len : Nat) : Int))) then ((Pt.chk x0).bind fun p9 =>
    (Pt.field 0 p9).bind fun p10 =>
    (AHeap.cell h p10).bind fun u11 =>
    (AVal.slice? u11).bind fun s12 =>
    (Pt.chk x0).bind fun p13 =>
    (Pt.field 1 p13).bind fun p14 =>
    (AHeap.cell h p14).bind fun u15 =>
    (AVal.int? .i64 u15).bind fun n16 =>
    (AHeap.addr h 3 s12 n16).bind fun p17 =>
    (Pt.field 2 p17).bind fun p18 =>
    (AHeap.cell h p18).bind fun u19 =>
    (AVal.bool? u19).bind fun b20 =>
    (bif (!b20) then (some (.normal, [(0, (AVal.ptr x0)), (4, (AVal.ptr x4)), (6, (AVal.ptr x6)), (128, (AVal.bool true))], h)) else ((Pt.chk x0).bind fun p21 =>
    (Pt.field 0 p21).bind fun p22 =>
    (AHeap.cell h p22).bind fun u23 =>
    (AVal.slice? u23).bind fun s24 =>
    (Pt.chk x0).bind fun p25 =>
    (Pt.field 1 p25).bind fun p26 =>
    (AHeap.cell h p26).bind fun u27 =>
    (AVal.int? .i64 u27).bind fun n28 =>
    (AHeap.addr h 3 s24 n28).bind fun p29 =>
    (Pt.field 0 p29).bind fun p30 =>
    (AHeap.cell h p30).bind fun u31 =>
    (AVal.str? u31).bind fun s32 =>
    (strAt s32 (0 : Int)).bind fun n33 =>
    some (.normal, [(0, (AVal.ptr x0)), (4, (AVal.ptr x4)), (6, (AVal.ptr x6)), (128, (AVal.bool (!decide (n33 = (99 : Int)))))], h)))) else (some (.normal, [(0, (AVal.ptr x0)), (4, (AVal.ptr x4)), (6, (AVal.ptr x6)), (128, (AVal.bool false))], h)))).bind fun p34 =>
    k_aag_reader_body_3 fuel d p34.1 p34.2.1 p34.2.2 := by
  generalize hh : k_aag_reader_body_2 = R
  rw [k_aag_reader_body_2_is] at hh
  subst hh
  generalize hh : k_aag_reader_body_3 = R
  rw [k_aag_reader_body_3_is] at hh
  subst hh
  kernel_rfl

theorem k_aag_reader_body_2_r (fuel d : Nat) (x0 : AVal) (x4 : Pt) (x5 : AVal) (x6 : AVal) (h : AHeap) :
    k_aag_reader_body_2 fuel d .ret [(0, x0), (4, (AVal.ptr x4)), (5, x5), (6, x6)] h =
  (((((AHeap.cellsAt h 3 x4).bind fun c2 =>
    some ((AVal.agg c2)) : Option AVal).bind fun v1 =>
    some [v1, x5]) : Option (List AVal)).map AVal.tup).map fun v => (v, h) := by
  generalize hh : k_aag_reader_body_2 = R
  rw [k_aag_reader_body_2_is] at hh
  subst hh
  kernel_rfl

theorem k_aag_reader_body_3_n (fuel d : Nat) (x0 : Pt) (x4 : Pt) (x6 : Pt) (x128 : Bool) (h : AHeap) :
    k_aag_reader_body_3 fuel d .normal [(0, (AVal.ptr x0)), (4, (AVal.ptr x4)), (6, (AVal.ptr x6)), (128, (AVal.bool x128))] h =
  (bif x128 then ((run fuel d F_aag_reader_pos [(AVal.ptr x0)] h).bind fun r1 =>
    (AVal.int? .i64 r1.1).bind fun n2 =>
    same (some (err_api_ErrText, h)) (err_api_ErrText, h) (
    (run fuel d F_aag_at [(AVal.int .i64 n2), err_api_ErrText] r1.2).bind fun r3 =>
    (AHeap.storeAt r3.2 [(AVal.int .i64 (0 : Int)), (AVal.slice Sl.nil), (AVal.slice Sl.nil)] x4).bind fun h4 =>
    (((((AHeap.cellsAt h4 3 x4).bind fun c6 =>
    some ((AVal.agg c6)) : Option AVal).bind fun v5 =>
    some [v5, r3.1]) : Option (List AVal)).map AVal.tup).map fun v => (v, h4))) else ((AHeap.cellsAt h 3 x6).bind fun c7 =>
    (bif (!false && Nat.beq (List.length c7) 3 && List.all c7 AVal.isCell) then ((AHeap.storeAt h c7 x4).bind fun h8 =>
    (((((AHeap.cellsAt h8 3 x4).bind fun c10 =>
    some ((AVal.agg c10)) : Option AVal).bind fun v9 =>
    some [v9, AVal.nilif]) : Option (List AVal)).map AVal.tup).map fun v => (v, h8)) else (none)))) := by
  generalize hh : run = R
  rw [run_is] at hh
  subst hh
  generalize hh : k_aag_reader_body_3 = R
  rw [k_aag_reader_body_3_is] at hh
  subst hh
  kernel_rfl

theorem e_skolemref_None (fuel d : Nat)  (h : AHeap) :
    brun fuel (d + 1) F_skolemref_None [] h =
  (AHeap.storeAt (AHeap.push h 1 [(AVal.int .i64 (0 : Int)), (AVal.bool false), (AVal.int .i64 (0 : Int))]) [(AVal.int .i64 (0 : Int)), (AVal.bool false), (AVal.int .i64 (0 : Int))] (Pt.mk ⟨AHeap.next h, 0, 0⟩ 3)).bind fun h1 =>
    ((AHeap.cellsAt h1 3 (Pt.mk ⟨AHeap.next h, 0, 0⟩ 3)).bind fun c2 =>
    some ((AVal.agg c2)) : Option AVal).map fun v => (v, h1) := by
  generalize hh : brun = R
  rw [brun_is] at hh
  subst hh
  kernel_rfl

noncomputable def s_skolemref_SamePairs_0 (fuel d : Nat) : Run := fun fr h k => aexec (Cf fuel F_skolemref_SamePairs) false (acall (C fuel) false d) (acall (C fuel) true d) 44 (csub [true, true, false, true, false, false] (fbody Go.Proofs.Tryd.f36)) (asub [true, true, false, true, false, false] an36) fr h k

noncomputable def l_skolemref_SamePairs_0r (fuel d : Nat) (n : Nat) (fr : Fr) (h : AHeap) : Option (AExit × Fr × AHeap) := aloop (s_skolemref_SamePairs_0 fuel d) (some [0, 1, 5]) n fr h (kOut [4])

noncomputable def l_skolemref_SamePairs_0 : Nat → Nat → Nat → Fr → AHeap → Option (AExit × Fr × AHeap) := hide l_skolemref_SamePairs_0r

theorem l_skolemref_SamePairs_0_is : l_skolemref_SamePairs_0 = l_skolemref_SamePairs_0r := hide_eq _

noncomputable def k_skolemref_SamePairs_0r (fuel d : Nat) : AExit → Fr → AHeap → Option (AVal × AHeap) := (kBlock 0 (kSeq (Cf fuel F_skolemref_SamePairs) false (acall (C fuel) false d) (acall (C fuel) true d) 44 (csub [true, true, true] (fbody Go.Proofs.Tryd.f36)) (asub [true, true, true] an36) (kRet (Cf fuel F_skolemref_SamePairs) Go.Proofs.Tryd.f36.results.toList)))

noncomputable def k_skolemref_SamePairs_0 : Nat → Nat → AExit → Fr → AHeap → Option (AVal × AHeap) := hide k_skolemref_SamePairs_0r

theorem k_skolemref_SamePairs_0_is : k_skolemref_SamePairs_0 = k_skolemref_SamePairs_0r := hide_eq _

noncomputable def k_skolemref_SamePairs_1r (fuel d : Nat) (n : Nat) : AExit → Fr → AHeap → Option (AExit × Fr × AHeap) := (kSeq (Cf fuel F_skolemref_SamePairs) false (acall (C fuel) false d) (acall (C fuel) true d) 44 (csub [true, true, false, true, false, false, true, false, false, true] (fbody Go.Proofs.Tryd.f36)) (asub [true, true, false, true, false, false, true, false, false, true] an36) (kBlock 1 (kSeq (Cf fuel F_skolemref_SamePairs) false (acall (C fuel) false d) (acall (C fuel) true d) 44 (csub [true, true, false, true, false, false, true, true] (fbody Go.Proofs.Tryd.f36)) (asub [true, true, false, true, false, false, true, true] an36) (kLoop (s_skolemref_SamePairs_0 fuel d) (some [0, 1, 5]) n (kOut [4])))))

noncomputable def k_skolemref_SamePairs_1 : Nat → Nat → Nat → AExit → Fr → AHeap → Option (AExit × Fr × AHeap) := hide k_skolemref_SamePairs_1r

theorem k_skolemref_SamePairs_1_is : k_skolemref_SamePairs_1 = k_skolemref_SamePairs_1r := hide_eq _

theorem e_skolemref_SamePairs (fuel d : Nat) (x0 : Sl) (x1 : Sl) (h : AHeap) :
    brun fuel (d + 1) F_skolemref_SamePairs [(AVal.slice x0), (AVal.slice x1)] h =
  (bif (!decide (((x0.len : Nat) : Int) = ((x1.len : Nat) : Int))) then (some ((AVal.bool false), h)) else ((l_skolemref_SamePairs_0 fuel d fuel [(0, (AVal.slice x0)), (1, (AVal.slice x1)), (5, (AVal.int .i64 (0 : Int)))] h).bind fun p1 =>
    k_skolemref_SamePairs_0 fuel d p1.1 p1.2.1 p1.2.2)) := by
  generalize hh : brun = R
  rw [brun_is] at hh
  subst hh
  generalize hh : l_skolemref_SamePairs_0 = R
  rw [l_skolemref_SamePairs_0_is] at hh
  subst hh
  generalize hh : k_skolemref_SamePairs_0 = R
  rw [k_skolemref_SamePairs_0_is] at hh
  subst hh
  kernel_rfl

theorem l_skolemref_SamePairs_0_eq (fuel d : Nat) (n : Nat) (x0 : Sl) (x1 : Sl) (x5 : Int) (h : AHeap) :
    l_skolemref_SamePairs_0 fuel d (n + 1) [(0, (AVal.slice x0)), (1, (AVal.slice x1)), (5, (AVal.int .i64 x5))] h =
  (bif (decide (x5 < ((x0.len : Nat) : Int))) then (((AHeap.addr h 2 x0 x5).bind fun p1 =>
    (Pt.elem 1 2 (0 : Int) p1).bind fun p2 =>
    (AHeap.cell h p2).bind fun u3 =>
    (AVal.int? .i64 u3).bind fun n4 =>
    (AHeap.addr h 2 x1 x5).bind fun p5 =>
    (Pt.elem 1 2 (0 : Int) p5).bind fun p6 =>
    (AHeap.cell h p6).bind fun u7 =>
    (AVal.int? .i64 u7).bind fun n8 =>
    (bif (decide (n4 = n8)) then ((AHeap.addr h 2 x0 x5).bind fun p9 =>
    (Pt.elem 1 2 (1 : Int) p9).bind fun p10 =>
    (AHeap.cell h p10).bind fun u11 =>
    (AVal.int? .i64 u11).bind fun n12 =>
    (AHeap.addr h 2 x1 x5).bind fun p13 =>
    (Pt.elem 1 2 (1 : Int) p13).bind fun p14 =>
    (AHeap.cell h p14).bind fun u15 =>
    (AVal.int? .i64 u15).bind fun n16 =>
    some (.normal, [(0, (AVal.slice x0)), (1, (AVal.slice x1)), (5, (AVal.int .i64 x5)), (6, (AVal.bool (decide (n12 = n16))))], h)) else (some (.normal, [(0, (AVal.slice x0)), (1, (AVal.slice x1)), (5, (AVal.int .i64 x5)), (6, (AVal.bool false))], h)))).bind fun p17 =>
    k_skolemref_SamePairs_1 fuel d n p17.1 p17.2.1 p17.2.2) else (some ((.exit 0), [(4, AVal.bot)], h))) := by
  generalize hh : l_skolemref_SamePairs_0 = R
  rw [l_skolemref_SamePairs_0_is] at hh
  subst hh
  generalize hh : k_skolemref_SamePairs_1 = R
  rw [k_skolemref_SamePairs_1_is] at hh
  subst hh
  kernel_rfl

theorem k_skolemref_SamePairs_0_x0 (fuel d : Nat) (x4 : AVal) (h : AHeap) :
    k_skolemref_SamePairs_0 fuel d (.exit 0) [(4, x4)] h =
  some ((AVal.bool true), h) := by
  generalize hh : k_skolemref_SamePairs_0 = R
  rw [k_skolemref_SamePairs_0_is] at hh
  subst hh
  kernel_rfl

theorem k_skolemref_SamePairs_0_r (fuel d : Nat) (x4 : Bool) (h : AHeap) :
    k_skolemref_SamePairs_0 fuel d .ret [(4, (AVal.bool x4))] h =
  some ((AVal.bool x4), h) := by
  generalize hh : k_skolemref_SamePairs_0 = R
  rw [k_skolemref_SamePairs_0_is] at hh
  subst hh
  kernel_rfl

theorem k_skolemref_SamePairs_1_n (fuel d : Nat) (n : Nat) (x0 : Sl) (x1 : Sl) (x5 : Int) (x6 : Bool) (h : AHeap) :
    k_skolemref_SamePairs_1 fuel d n .normal [(0, (AVal.slice x0)), (1, (AVal.slice x1)), (5, (AVal.int .i64 x5)), (6, (AVal.bool x6))] h =
  (bif (!x6) then (some (.ret, [(4, (AVal.bool false))], h)) else (l_skolemref_SamePairs_0 fuel d n [(0, (AVal.slice x0)), (1, (AVal.slice x1)), (5, (AVal.int .i64 (IntKind.wrap .i64 (x5 + (1 : Int)))))] h)) := by
  generalize hh : l_skolemref_SamePairs_0 = R
  rw [l_skolemref_SamePairs_0_is] at hh
  subst hh
  generalize hh : k_skolemref_SamePairs_1 = R
  rw [k_skolemref_SamePairs_1_is] at hh
  subst hh
  kernel_rfl

noncomputable def s_skolemref_SameInts_0 (fuel d : Nat) : Run := fun fr h k => aexec (Cf fuel F_skolemref_SameInts) false (acall (C fuel) false d) (acall (C fuel) true d) 29 (csub [true, true, false, true, false, false] (fbody Go.Proofs.Tryd.f37)) (asub [true, true, false, true, false, false] an37) fr h k

noncomputable def l_skolemref_SameInts_0r (fuel d : Nat) (n : Nat) (fr : Fr) (h : AHeap) : Option (AExit × Fr × AHeap) := aloop (s_skolemref_SameInts_0 fuel d) (some [0, 1, 5]) n fr h (kOut [4])

noncomputable def l_skolemref_SameInts_0 : Nat → Nat → Nat → Fr → AHeap → Option (AExit × Fr × AHeap) := hide l_skolemref_SameInts_0r

theorem l_skolemref_SameInts_0_is : l_skolemref_SameInts_0 = l_skolemref_SameInts_0r := hide_eq _

noncomputable def k_skolemref_SameInts_0r (fuel d : Nat) : AExit → Fr → AHeap → Option (AVal × AHeap) := (kBlock 0 (kSeq (Cf fuel F_skolemref_SameInts) false (acall (C fuel) false d) (acall (C fuel) true d) 29 (csub [true, true, true] (fbody Go.Proofs.Tryd.f37)) (asub [true, true, true] an37) (kRet (Cf fuel F_skolemref_SameInts) Go.Proofs.Tryd.f37.results.toList)))

noncomputable def k_skolemref_SameInts_0 : Nat → Nat → AExit → Fr → AHeap → Option (AVal × AHeap) := hide k_skolemref_SameInts_0r

theorem k_skolemref_SameInts_0_is : k_skolemref_SameInts_0 = k_skolemref_SameInts_0r := hide_eq _

theorem e_skolemref_SameInts (fuel d : Nat) (x0 : Sl) (x1 : Sl) (h : AHeap) :
    brun fuel (d + 1) F_skolemref_SameInts [(AVal.slice x0), (AVal.slice x1)] h =
  (bif (!decide (((x0.len : Nat) : Int) = ((x1.len : Nat) : Int))) then (some ((AVal.bool false), h)) else ((l_skolemref_SameInts_0 fuel d fuel [(0, (AVal.slice x0)), (1, (AVal.slice x1)), (5, (AVal.int .i64 (0 : Int)))] h).bind fun p1 =>
    k_skolemref_SameInts_0 fuel d p1.1 p1.2.1 p1.2.2)) := by
  generalize hh : brun = R
  rw [brun_is] at hh
  subst hh
  generalize hh : l_skolemref_SameInts_0 = R
  rw [l_skolemref_SameInts_0_is] at hh
  subst hh
  generalize hh : k_skolemref_SameInts_0 = R
  rw [k_skolemref_SameInts_0_is] at hh
  subst hh
  kernel_rfl

theorem l_skolemref_SameInts_0_eq (fuel d : Nat) (n : Nat) (x0 : Sl) (x1 : Sl) (x5 : Int) (h : AHeap) :
    l_skolemref_SameInts_0 fuel d (n + 1) [(0, (AVal.slice x0)), (1, (AVal.slice x1)), (5, (AVal.int .i64 x5))] h =
  (bif (decide (x5 < ((x0.len : Nat) : Int))) then ((AHeap.addr h 1 x0 x5).bind fun p1 =>
    (AHeap.cell h p1).bind fun u2 =>
    (AVal.int? .i64 u2).bind fun n3 =>
    (AHeap.addr h 1 x1 x5).bind fun p4 =>
    (AHeap.cell h p4).bind fun u5 =>
    (AVal.int? .i64 u5).bind fun n6 =>
    (bif (!(decide (n3 = n6))) then (some (.ret, [(4, (AVal.bool false))], h)) else (l_skolemref_SameInts_0 fuel d n [(0, (AVal.slice x0)), (1, (AVal.slice x1)), (5, (AVal.int .i64 (IntKind.wrap .i64 (x5 + (1 : Int)))))] h))) else (some ((.exit 0), [(4, AVal.bot)], h))) := by
  generalize hh : l_skolemref_SameInts_0 = R
  rw [l_skolemref_SameInts_0_is] at hh
  subst hh
  kernel_rfl

theorem k_skolemref_SameInts_0_x0 (fuel d : Nat) (x4 : AVal) (h : AHeap) :
    k_skolemref_SameInts_0 fuel d (.exit 0) [(4, x4)] h =
  some ((AVal.bool true), h) := by
  generalize hh : k_skolemref_SameInts_0 = R
  rw [k_skolemref_SameInts_0_is] at hh
  subst hh
  kernel_rfl

theorem k_skolemref_SameInts_0_r (fuel d : Nat) (x4 : Bool) (h : AHeap) :
    k_skolemref_SameInts_0 fuel d .ret [(4, (AVal.bool x4))] h =
  some ((AVal.bool x4), h) := by
  generalize hh : k_skolemref_SameInts_0 = R
  rw [k_skolemref_SameInts_0_is] at hh
  subst hh
  kernel_rfl

theorem e_skolemref_SameFault (fuel d : Nat) (x0 : List AVal) (x1 : List AVal) (h : AHeap) :
    brun fuel (d + 1) F_skolemref_SameFault [(AVal.agg x0), (AVal.agg x1)] h =
  (bif (List.all x0 AVal.isCell) then ((bif (List.all x1 AVal.isCell) then ((Pt.field 0 (Pt.mk ⟨AHeap.next h, 0, 0⟩ (List.length x0))).bind fun p1 =>
    (AHeap.cell (AHeap.push (AHeap.push h 1 x0) 1 x1) p1).bind fun u2 =>
    (AVal.int? .i64 u2).bind fun n3 =>
    (Pt.field 0 (Pt.mk ⟨AHeap.next (AHeap.push h 1 x0), 0, 0⟩ (List.length x1))).bind fun p4 =>
    (AHeap.cell (AHeap.push (AHeap.push h 1 x0) 1 x1) p4).bind fun u5 =>
    (AVal.int? .i64 u5).bind fun n6 =>
    ((bif ((decide (n3 = n6)) == true) then ((Pt.field 1 (Pt.mk ⟨AHeap.next h, 0, 0⟩ (List.length x0))).bind fun p7 =>
    (AHeap.cell (AHeap.push (AHeap.push h 1 x0) 1 x1) p7).bind fun u8 =>
    (AVal.bool? u8).bind fun b9 =>
    (Pt.field 1 (Pt.mk ⟨AHeap.next (AHeap.push h 1 x0), 0, 0⟩ (List.length x1))).bind fun p10 =>
    (AHeap.cell (AHeap.push (AHeap.push h 1 x0) 1 x1) p10).bind fun u11 =>
    (AVal.bool? u11).bind fun b12 =>
    some ((AVal.bool (b9 == b12)), (AHeap.push (AHeap.push h 1 x0) 1 x1))) else (some ((AVal.bool false), (AHeap.push (AHeap.push h 1 x0) 1 x1))) : Option (AVal × AHeap))).bind fun r13 =>
    (AVal.bool? r13.1).bind fun b14 =>
    ((bif (b14 == true) then ((Pt.field 2 (Pt.mk ⟨AHeap.next h, 0, 0⟩ (List.length x0))).bind fun p15 =>
    (AHeap.cell r13.2 p15).bind fun u16 =>
    (AVal.int? .i64 u16).bind fun n17 =>
    (Pt.field 2 (Pt.mk ⟨AHeap.next (AHeap.push h 1 x0), 0, 0⟩ (List.length x1))).bind fun p18 =>
    (AHeap.cell r13.2 p18).bind fun u19 =>
    (AVal.int? .i64 u19).bind fun n20 =>
    some ((AVal.bool (decide (n17 = n20))), r13.2)) else (some ((AVal.bool false), r13.2)) : Option (AVal × AHeap))).bind fun r21 =>
    (AVal.bool? r21.1).bind fun b22 =>
    some ((AVal.bool b22), r21.2)) else (none))) else (none)) := by
  generalize hh : brun = R
  rw [brun_is] at hh
  subst hh
  kernel_rfl

theorem e_skolemsee_Fault (fuel d : Nat) (x0 : AVal) (h : AHeap) :
    brun fuel (d + 1) F_skolemsee_Fault [x0] h =
  (nilTest .iface x0).bind fun b1 =>
    (bif (b1) then ((run fuel d F_skolemref_None [] (AHeap.push h 1 [(AVal.int .i64 (0 : Int)), (AVal.bool false), (AVal.int .i64 (0 : Int))])).bind fun r2 =>
    (AVal.agg? r2.1).bind fun c3 =>
    (bif (!false && Nat.beq (List.length c3) 3 && List.all c3 AVal.isCell) then ((AHeap.storeAt r2.2 c3 (Pt.mk ⟨AHeap.next h, 0, 0⟩ 3)).bind fun h4 =>
    ((AHeap.cellsAt h4 3 (Pt.mk ⟨AHeap.next h, 0, 0⟩ 3)).bind fun c5 =>
    some ((AVal.agg c5)) : Option AVal).map fun v => (v, h4)) else (none))) else ((tassert T_p_api_At x0).bind fun t6 =>
    (bif (!(Option.isSome t6)) then ((run fuel d F_skolemsee_sentinel [x0] (AHeap.push h 1 [(AVal.int .i64 (0 : Int)), (AVal.bool false), (AVal.int .i64 (0 : Int))])).bind fun r7 =>
    (AVal.int? .i64 r7.1).bind fun n8 =>
    (run fuel d F_skolemref_Bare [(AVal.int .i64 n8)] r7.2).bind fun r9 =>
    (AVal.agg? r9.1).bind fun c10 =>
    (bif (!false && Nat.beq (List.length c10) 3 && List.all c10 AVal.isCell) then ((AHeap.storeAt r9.2 c10 (Pt.mk ⟨AHeap.next h, 0, 0⟩ 3)).bind fun h11 =>
    ((AHeap.cellsAt h11 3 (Pt.mk ⟨AHeap.next h, 0, 0⟩ 3)).bind fun c12 =>
    some ((AVal.agg c12)) : Option AVal).map fun v => (v, h11)) else (none))) else ((nilTest .ptr (AVal.ptr (Option.getD t6 Pt.nil))).bind fun b13 =>
    ((bif ((b13) == false) then ((Pt.chk (Option.getD t6 Pt.nil)).bind fun p14 =>
    (Pt.field 1 p14).bind fun p15 =>
    (AHeap.cell (AHeap.push h 1 [(AVal.int .i64 (0 : Int)), (AVal.bool false), (AVal.int .i64 (0 : Int))]) p15).bind fun u16 =>
    (nilTest .iface u16).bind fun b17 =>
    some ((AVal.bool (b17)), (AHeap.push h 1 [(AVal.int .i64 (0 : Int)), (AVal.bool false), (AVal.int .i64 (0 : Int))]))) else (some ((AVal.bool true), (AHeap.push h 1 [(AVal.int .i64 (0 : Int)), (AVal.bool false), (AVal.int .i64 (0 : Int))]))) : Option (AVal × AHeap))).bind fun r18 =>
    (AVal.bool? r18.1).bind fun b19 =>
    (bif b19 then ((run fuel d F_skolemref_Bare [(AVal.int .i64 (-1 : Int))] r18.2).bind fun r20 =>
    (AVal.agg? r20.1).bind fun c21 =>
    (bif (!false && Nat.beq (List.length c21) 3 && List.all c21 AVal.isCell) then ((AHeap.storeAt r20.2 c21 (Pt.mk ⟨AHeap.next h, 0, 0⟩ 3)).bind fun h22 =>
    ((AHeap.cellsAt h22 3 (Pt.mk ⟨AHeap.next h, 0, 0⟩ 3)).bind fun c23 =>
    some ((AVal.agg c23)) : Option AVal).map fun v => (v, h22)) else (none))) else ((Pt.chk (Option.getD t6 Pt.nil)).bind fun p24 =>
    (Pt.field 1 p24).bind fun p25 =>
    (AHeap.cell r18.2 p25).bind fun u26 =>
    (run fuel d F_skolemsee_sentinel [u26] r18.2).bind fun r27 =>
    (AVal.int? .i64 r27.1).bind fun n28 =>
    (Pt.chk (Option.getD t6 Pt.nil)).bind fun p29 =>
    (Pt.field 0 p29).bind fun p30 =>
    (AHeap.cell r27.2 p30).bind fun u31 =>
    (AVal.int? .i64 u31).bind fun n32 =>
    same ((AHeap.cell r18.2 p30).bind fun u37 =>
    (AVal.int? .i64 u37).bind fun n38 =>
    some ((AVal.int .i64 n38), r18.2)) ((AVal.int .i64 n32), r18.2) (
    (run fuel d F_skolemref_Placed [(AVal.int .i64 n28), (AVal.int .i64 n32)] r27.2).bind fun r33 =>
    (AVal.agg? r33.1).bind fun c34 =>
    (bif (!false && Nat.beq (List.length c34) 3 && List.all c34 AVal.isCell) then ((AHeap.storeAt r33.2 c34 (Pt.mk ⟨AHeap.next h, 0, 0⟩ 3)).bind fun h35 =>
    ((AHeap.cellsAt h35 3 (Pt.mk ⟨AHeap.next h, 0, 0⟩ 3)).bind fun c36 =>
    some ((AVal.agg c36)) : Option AVal).map fun v => (v, h35)) else (none))))))))) := by
  generalize hh : run = R
  rw [run_is] at hh
  subst hh
  generalize hh : brun = R
  rw [brun_is] at hh
  subst hh
  kernel_rfl

theorem e_strings_Builder_WriteString (fuel d : Nat) (x0 : Pt) (x1 : ByteArray) (h : AHeap) :
    run fuel (d + 1) F_strings_Builder_WriteString [(AVal.ptr x0), (AVal.str x1)] h =
  (run fuel d F_strings_Builder_copyCheck [(AVal.ptr x0)] h).bind fun r1 =>
    (Pt.chk x0).bind fun p2 =>
    (Pt.field 1 p2).bind fun p3 =>
    (AHeap.cell r1.2 p3).bind fun u4 =>
    (AVal.slice? u4).bind fun s5 =>
    (AHeap.appendT r1.2 false BE 1 1 s5 (ByteArray.size x1) (bytesOf x1)).bind fun a6 =>
    (Pt.chk x0).bind fun p7 =>
    (Pt.field 1 p7).bind fun p8 =>
    (AHeap.storeAt a6.2 [(AVal.slice a6.1)] p8).bind fun h9 =>
    some ((AVal.tup [(AVal.int .i64 ((ByteArray.size x1 : Nat) : Int)), AVal.nilif]), h9) := by
  generalize hh : run = R
  rw [run_is] at hh
  subst hh
  kernel_rfl

theorem e_aag_Head (fuel d : Nat) (x0 : ByteArray) (x1 : List AVal) (h : AHeap) :
    brun fuel (d + 1) F_aag_Head [(AVal.str x0), (AVal.agg x1)] h =
  (bif (List.all x1 AVal.isCell) then ((bif Nat.ble (ByteArray.size x0 + ByteArray.size (⟨#[32]⟩ : ByteArray)) 9223372036854775807 then ((Pt.field 0 (Pt.mk ⟨AHeap.next h, 0, 0⟩ (List.length x1))).bind fun p1 =>
    (AHeap.cell (AHeap.push h 1 x1) p1).bind fun u2 =>
    (AVal.int? .i64 u2).bind fun n3 =>
    (Pt.field 1 (Pt.mk ⟨AHeap.next h, 0, 0⟩ (List.length x1))).bind fun p4 =>
    (AHeap.cell (AHeap.push h 1 x1) p4).bind fun u5 =>
    (AVal.slice? u5).bind fun s6 =>
    (Pt.field 0 (Pt.mk ⟨AHeap.next h, 0, 0⟩ (List.length x1))).bind fun p7 =>
    (AHeap.cell (AHeap.push h 1 x1) p7).bind fun u8 =>
    (AVal.int? .i64 u8).bind fun n9 =>
    (Pt.field 2 (Pt.mk ⟨AHeap.next h, 0, 0⟩ (List.length x1))).bind fun p10 =>
    (AHeap.cell (AHeap.push h 1 x1) p10).bind fun u11 =>
    (AVal.slice? u11).bind fun s12 =>
    (Pt.field 1 (Pt.mk ⟨AHeap.next h, 0, 0⟩ (List.length x1))).bind fun p13 =>
    (AHeap.cell (AHeap.push h 1 x1) p13).bind fun u14 =>
    (AVal.slice? u14).bind fun s15 =>
    (run fuel d F_aag_Line [(AVal.slice (Sl.lst 5 true [(AVal.int .i64 (IntKind.wrap .i64 (n3 + ((s6.len : Nat) : Int)))), (AVal.int .i64 n9), (AVal.int .i64 (0 : Int)), (AVal.int .i64 ((s12.len : Nat) : Int)), (AVal.int .i64 ((s15.len : Nat) : Int))]))] (AHeap.push h 1 x1)).bind fun r16 =>
    (AVal.str? r16.1).bind fun s17 =>
    (bif Nat.ble (ByteArray.size (x0 ++ (⟨#[32]⟩ : ByteArray)) + ByteArray.size s17) 9223372036854775807 then (some ((AVal.str ((x0 ++ (⟨#[32]⟩ : ByteArray)) ++ s17)), r16.2)) else (none))) else (none))) else (none)) := by
  generalize hh : run = R
  rw [run_is] at hh
  subst hh
  generalize hh : brun = R
  rw [brun_is] at hh
  subst hh
  kernel_rfl

noncomputable def s_aag_Line_0 (fuel d : Nat) : Run := fun fr h k => aexec (Cf fuel F_aag_Line) false (acall (C fuel) false d) (acall (C fuel) true d) 21 (csub [true, true, false, true, false, false] (fbody Go.Proofs.Tryd.f42)) (asub [true, true, false, true, false, false] an42) fr h k

noncomputable def l_aag_Line_0r (fuel d : Nat) (n : Nat) (fr : Fr) (h : AHeap) : Option (AExit × Fr × AHeap) := aloop (s_aag_Line_0 fuel d) (some [3, 6, 7, 8]) n fr h (kOut [3])

noncomputable def l_aag_Line_0 : Nat → Nat → Nat → Fr → AHeap → Option (AExit × Fr × AHeap) := hide l_aag_Line_0r

theorem l_aag_Line_0_is : l_aag_Line_0 = l_aag_Line_0r := hide_eq _

noncomputable def k_aag_Line_0r (fuel d : Nat) : AExit → Fr → AHeap → Option (AVal × AHeap) := (kBlock 0 (kSeq (Cf fuel F_aag_Line) false (acall (C fuel) false d) (acall (C fuel) true d) 21 (csub [true, true, true] (fbody Go.Proofs.Tryd.f42)) (asub [true, true, true] an42) (kRet (Cf fuel F_aag_Line) Go.Proofs.Tryd.f42.results.toList)))

noncomputable def k_aag_Line_0 : Nat → Nat → AExit → Fr → AHeap → Option (AVal × AHeap) := hide k_aag_Line_0r

theorem k_aag_Line_0_is : k_aag_Line_0 = k_aag_Line_0r := hide_eq _

theorem e_aag_Line (fuel d : Nat) (x0 : Sl) (h : AHeap) :
    brun fuel (d + 1) F_aag_Line [(AVal.slice x0)] h =
  (l_aag_Line_0 fuel d fuel [(3, (AVal.slice Sl.nil)), (6, (AVal.slice x0)), (7, (AVal.int .i64 ((x0.len : Nat) : Int))), (8, (AVal.int .i64 (0 : Int)))] h).bind fun p1 =>
    k_aag_Line_0 fuel d p1.1 p1.2.1 p1.2.2 := by
  generalize hh : brun = R
  rw [brun_is] at hh
  subst hh
  generalize hh : l_aag_Line_0 = R
  rw [l_aag_Line_0_is] at hh
  subst hh
  generalize hh : k_aag_Line_0 = R
  rw [k_aag_Line_0_is] at hh
  subst hh
  kernel_rfl

theorem l_aag_Line_0_eq (fuel d : Nat) (n : Nat) (x3 : Sl) (x6 : Sl) (x7 : Int) (x8 : Int) (h : AHeap) :
    l_aag_Line_0 fuel d (n + 1) [(3, (AVal.slice x3)), (6, (AVal.slice x6)), (7, (AVal.int .i64 x7)), (8, (AVal.int .i64 x8))] h =
  (bif (decide (x8 < x7)) then ((AHeap.addr h 1 x6 x8).bind fun p1 =>
    (AHeap.cell h p1).bind fun u2 =>
    (AVal.int? .i64 u2).bind fun n3 =>
    (run fuel d F_strconv_Itoa [(AVal.int .i64 n3)] h).bind fun r4 =>
    (AVal.str? r4.1).bind fun s5 =>
    (AHeap.append r4.2 false 1 16 x3 1 [(AVal.str s5)]).bind fun a6 =>
    l_aag_Line_0 fuel d n [(3, (AVal.slice a6.1)), (6, (AVal.slice x6)), (7, (AVal.int .i64 x7)), (8, (AVal.int .i64 (IntKind.wrap .i64 (x8 + (1 : Int)))))] a6.2) else (some ((.exit 0), [(3, (AVal.slice x3))], h))) := by
  generalize hh : run = R
  rw [run_is] at hh
  subst hh
  generalize hh : l_aag_Line_0 = R
  rw [l_aag_Line_0_is] at hh
  subst hh
  kernel_rfl

theorem k_aag_Line_0_x0 (fuel d : Nat) (x3 : Sl) (h : AHeap) :
    k_aag_Line_0 fuel d (.exit 0) [(3, (AVal.slice x3))] h =
  (run fuel d F_strings_Join [(AVal.slice x3), (AVal.str (⟨#[32]⟩ : ByteArray))] h).bind fun r1 =>
    (AVal.str? r1.1).bind fun s2 =>
    (bif Nat.ble (ByteArray.size s2 + ByteArray.size (⟨#[10]⟩ : ByteArray)) 9223372036854775807 then (some ((AVal.str (s2 ++ (⟨#[10]⟩ : ByteArray))), r1.2)) else (none)) := by
  generalize hh : run = R
  rw [run_is] at hh
  subst hh
  generalize hh : k_aag_Line_0 = R
  rw [k_aag_Line_0_is] at hh
  subst hh
  kernel_rfl

theorem e_word_Plain (fuel d : Nat) (x0 : ByteArray) (h : AHeap) :
    brun fuel (d + 1) F_word_Plain [(AVal.str x0)] h =
  (run fuel d F_word_Number [(AVal.str x0)] h).bind fun r1 =>
    (bif AVal.isTup 2 r1.1 then ((AVal.comp 0 r1.1).bind fun u2 =>
    (AVal.int? .i64 u2).bind fun n3 =>
    (AVal.comp 1 r1.1).bind fun u4 =>
    (AVal.bool? u4).bind fun b5 =>
    ((bif ((!b5) == false) then ((strAt x0 (0 : Int)).bind fun n6 =>
    some ((AVal.bool (decide (n6 = (45 : Int)))), r1.2)) else (some ((AVal.bool true), r1.2)) : Option (AVal × AHeap))).bind fun r7 =>
    (AVal.bool? r7.1).bind fun b8 =>
    (bif b8 then (some ((AVal.tup [(AVal.int .i64 (0 : Int)), (AVal.bool false)]), r7.2)) else (some ((AVal.tup [(AVal.int .i64 n3), (AVal.bool true)]), r7.2)))) else none) := by
  generalize hh : run = R
  rw [run_is] at hh
  subst hh
  generalize hh : brun = R
  rw [brun_is] at hh
  subst hh
  kernel_rfl

theorem e_bytes_IndexByte (fuel d : Nat) (x0 : Sl) (x1 : Int) (h : AHeap) :
    brun fuel (d + 1) F_bytes_IndexByte [(AVal.slice x0), (AVal.int .u8 x1)] h =
  (run fuel d F_bytealg_IndexByte [(AVal.slice x0), (AVal.int .u8 x1)] h).bind fun r1 =>
    (AVal.int? .i64 r1.1).bind fun n2 =>
    some ((AVal.int .i64 n2), r1.2) := by
  generalize hh : run = R
  rw [run_is] at hh
  subst hh
  generalize hh : brun = R
  rw [brun_is] at hh
  subst hh
  kernel_rfl

noncomputable def s_word_line_0 (fuel d : Nat) : Run := fun fr h k => aexec (Cf fuel F_word_line) false (acall (C fuel) false d) (acall (C fuel) true d) 51 (csub [true, true, false, true, false, false] (fbody Go.Proofs.Tryd.f54)) (asub [true, true, false, true, false, false] an54) fr h k

noncomputable def l_word_line_0r (fuel d : Nat) (n : Nat) (fr : Fr) (h : AHeap) : Option (AExit × Fr × AHeap) := aloop (s_word_line_0 fuel d) (some [0, 1, 5, 6]) n fr h (kOut [5])

noncomputable def l_word_line_0 : Nat → Nat → Nat → Fr → AHeap → Option (AExit × Fr × AHeap) := hide l_word_line_0r

theorem l_word_line_0_is : l_word_line_0 = l_word_line_0r := hide_eq _

noncomputable def k_word_line_0r (fuel d : Nat) : AExit → Fr → AHeap → Option (AVal × AHeap) := (kBlock 0 (kSeq (Cf fuel F_word_line) false (acall (C fuel) false d) (acall (C fuel) true d) 51 (csub [true, true, true] (fbody Go.Proofs.Tryd.f54)) (asub [true, true, true] an54) (kRet (Cf fuel F_word_line) Go.Proofs.Tryd.f54.results.toList)))

noncomputable def k_word_line_0 : Nat → Nat → AExit → Fr → AHeap → Option (AVal × AHeap) := hide k_word_line_0r

theorem k_word_line_0_is : k_word_line_0 = k_word_line_0r := hide_eq _

noncomputable def s_word_line_1 (fuel d : Nat) : Run := fun fr h k => aexec (Cf fuel F_word_line) false (acall (C fuel) false d) (acall (C fuel) true d) 51 (csub [true, true, false, true, false, false, true, false, false, true, true, false, false, false] (fbody Go.Proofs.Tryd.f54)) (asub [true, true, false, true, false, false, true, false, false, true, true, false, false, false] an54) fr h k

noncomputable def l_word_line_1r (fuel d : Nat) (n : Nat) (fr : Fr) (h : AHeap) : Option (AExit × Fr × AHeap) := aloop (s_word_line_1 fuel d) (some [0, 1, 5, 6, 7]) n fr h (kOut [0, 1, 5, 6, 7])

noncomputable def l_word_line_1 : Nat → Nat → Nat → Fr → AHeap → Option (AExit × Fr × AHeap) := hide l_word_line_1r

theorem l_word_line_1_is : l_word_line_1 = l_word_line_1r := hide_eq _

noncomputable def k_word_line_1r (fuel d : Nat) (n : Nat) : AExit → Fr → AHeap → Option (AExit × Fr × AHeap) := (kBlock 2 (kSeq (Cf fuel F_word_line) false (acall (C fuel) false d) (acall (C fuel) true d) 51 (csub [true, true, false, true, false, false, true, false, false, true, true, true] (fbody Go.Proofs.Tryd.f54)) (asub [true, true, false, true, false, false, true, false, false, true, true, true] an54) (kBlock 1 (kSeq (Cf fuel F_word_line) false (acall (C fuel) false d) (acall (C fuel) true d) 51 (csub [true, true, false, true, false, false, true, true] (fbody Go.Proofs.Tryd.f54)) (asub [true, true, false, true, false, false, true, true] an54) (kLoop (s_word_line_0 fuel d) (some [0, 1, 5, 6]) n (kOut [5]))))))

noncomputable def k_word_line_1 : Nat → Nat → Nat → AExit → Fr → AHeap → Option (AExit × Fr × AHeap) := hide k_word_line_1r

theorem k_word_line_1_is : k_word_line_1 = k_word_line_1r := hide_eq _

theorem e_word_line (fuel d : Nat) (x0 : Sl) (x1 : Int) (h : AHeap) :
    brun fuel (d + 1) F_word_line [(AVal.slice x0), (AVal.int .i64 x1)] h =
  (l_word_line_0 fuel d fuel [(0, (AVal.slice x0)), (1, (AVal.int .i64 x1)), (5, (AVal.slice Sl.nil)), (6, (AVal.int .i64 (0 : Int)))] h).bind fun p1 =>
    k_word_line_0 fuel d p1.1 p1.2.1 p1.2.2 := by
  generalize hh : brun = R
  rw [brun_is] at hh
  subst hh
  generalize hh : l_word_line_0 = R
  rw [l_word_line_0_is] at hh
  subst hh
  generalize hh : k_word_line_0 = R
  rw [k_word_line_0_is] at hh
  subst hh
  kernel_rfl

theorem l_word_line_0_eq (fuel d : Nat) (n : Nat) (x0 : Sl) (x1 : Int) (x5 : Sl) (x6 : Int) (h : AHeap) :
    l_word_line_0 fuel d (n + 1) [(0, (AVal.slice x0)), (1, (AVal.int .i64 x1)), (5, (AVal.slice x5)), (6, (AVal.int .i64 x6))] h =
  (bif (decide (x6 < ((x0.len : Nat) : Int))) then ((AHeap.addr h 1 x0 x6).bind fun p1 =>
    (AHeap.cell h p1).bind fun u2 =>
    (AVal.int? .u8 u2).bind fun n3 =>
    (run fuel d F_word_kind [(AVal.int .u8 n3)] h).bind fun r4 =>
    (AVal.int? .i64 r4.1).bind fun n5 =>
    (bif (!decide (n5 = (0 : Int))) then (l_word_line_0 fuel d n [(0, (AVal.slice x0)), (1, (AVal.int .i64 x1)), (5, (AVal.slice x5)), (6, (AVal.int .i64 (IntKind.wrap .i64 (x6 + (1 : Int)))))] r4.2) else ((l_word_line_1 fuel d fuel [(0, (AVal.slice x0)), (1, (AVal.int .i64 x1)), (5, (AVal.slice x5)), (6, (AVal.int .i64 x6)), (7, (AVal.int .i64 x6))] r4.2).bind fun p6 =>
    k_word_line_1 fuel d n p6.1 p6.2.1 p6.2.2))) else (some ((.exit 0), [(5, (AVal.slice x5))], h))) := by
  generalize hh : run = R
  rw [run_is] at hh
  subst hh
  generalize hh : l_word_line_0 = R
  rw [l_word_line_0_is] at hh
  subst hh
  generalize hh : l_word_line_1 = R
  rw [l_word_line_1_is] at hh
  subst hh
  generalize hh : k_word_line_1 = R
  rw [k_word_line_1_is] at hh
  subst hh
  kernel_rfl

theorem k_word_line_0_x0 (fuel d : Nat) (x5 : Sl) (h : AHeap) :
    k_word_line_0 fuel d (.exit 0) [(5, (AVal.slice x5))] h =
  some ((AVal.slice x5), h) := by
  generalize hh : k_word_line_0 = R
  rw [k_word_line_0_is] at hh
  subst hh
  kernel_rfl

theorem l_word_line_1_eq (fuel d : Nat) (n : Nat) (x0 : Sl) (x1 : Int) (x5 : Sl) (x6 : Int) (x7 : Int) (h : AHeap) :
    l_word_line_1 fuel d (n + 1) [(0, (AVal.slice x0)), (1, (AVal.int .i64 x1)), (5, (AVal.slice x5)), (6, (AVal.int .i64 x6)), (7, (AVal.int .i64 x7))] h =
  ((bif ((decide (x6 < ((x0.len : Nat) : Int))) == true) then ((AHeap.addr h 1 x0 x6).bind fun p1 =>
    (AHeap.cell h p1).bind fun u2 =>
    (AVal.int? .u8 u2).bind fun n3 =>
    (run fuel d F_word_kind [(AVal.int .u8 n3)] h).bind fun r4 =>
    (AVal.int? .i64 r4.1).bind fun n5 =>
    some ((AVal.bool (decide (n5 = (0 : Int)))), r4.2)) else (some ((AVal.bool false), h)) : Option (AVal × AHeap))).bind fun r6 =>
    (AVal.bool? r6.1).bind fun b7 =>
    (bif b7 then (l_word_line_1 fuel d n [(0, (AVal.slice x0)), (1, (AVal.int .i64 x1)), (5, (AVal.slice x5)), (6, (AVal.int .i64 (IntKind.wrap .i64 (x6 + (1 : Int))))), (7, (AVal.int .i64 x7))] r6.2) else (some ((.exit 2), [(0, (AVal.slice x0)), (1, (AVal.int .i64 x1)), (5, (AVal.slice x5)), (6, (AVal.int .i64 x6)), (7, (AVal.int .i64 x7))], r6.2))) := by
  generalize hh : run = R
  rw [run_is] at hh
  subst hh
  generalize hh : l_word_line_1 = R
  rw [l_word_line_1_is] at hh
  subst hh
  kernel_rfl

theorem k_word_line_1_x2 (fuel d : Nat) (n : Nat) (x0 : Sl) (x1 : Int) (x5 : Sl) (x6 : Int) (x7 : Int) (h : AHeap) :
    k_word_line_1 fuel d n (.exit 2) [(0, (AVal.slice x0)), (1, (AVal.int .i64 x1)), (5, (AVal.slice x5)), (6, (AVal.int .i64 x6)), (7, (AVal.int .i64 x7))] h =
  (aHi (some (AVal.int .i64 x6)) (Sl.len x0)).bind fun hi1 =>
    (aLo (some (AVal.int .i64 x7)) hi1).bind fun lo2 =>
    (aMx (none : Option AVal) hi1).bind fun cl3 =>
    (bif (AHeap.hasSz h 1 x0) then ((AHeap.sliceCells h 1 (Sl.cut x0 1 lo2 hi1 cl3)).bind fun c4 =>
    (bytesFrom c4).bind fun bs5 =>
    (AHeap.append h false 3 32 x5 1 [(AVal.str (⟨List.toArray bs5⟩ : ByteArray)), (AVal.int .i64 (IntKind.wrap .i64 (x1 + x7))), (AVal.bool (decide (((x5.len : Nat) : Int) = (0 : Int))))]).bind fun a6 =>
    l_word_line_0 fuel d n [(0, (AVal.slice x0)), (1, (AVal.int .i64 x1)), (5, (AVal.slice a6.1)), (6, (AVal.int .i64 (IntKind.wrap .i64 (x6 + (1 : Int)))))] a6.2) else (none)) := by
  generalize hh : l_word_line_0 = R
  rw [l_word_line_0_is] at hh
  subst hh
  generalize hh : k_word_line_1 = R
  rw [k_word_line_1_is] at hh
  subst hh
  kernel_rfl

theorem e_aag_reader_pos (fuel d : Nat) (x0 : Pt) (h : AHeap) :
    run fuel (d + 1) F_aag_reader_pos [(AVal.ptr x0)] h =
  (Pt.chk x0).bind fun p1 =>
    (Pt.field 1 p1).bind fun p2 =>
    (AHeap.cell h p2).bind fun u3 =>
    (AVal.int? .i64 u3).bind fun n4 =>
    (Pt.chk x0).bind fun p5 =>
    (Pt.field 0 p5).bind fun p6 =>
    (AHeap.cell h p6).bind fun u7 =>
    (AVal.slice? u7).bind fun s8 =>
    (bif (decide (n4 < ((s8.len : Nat) : Int))) then ((Pt.chk x0).bind fun p9 =>
    (Pt.field 0 p9).bind fun p10 =>
    (AHeap.cell h p10).bind fun u11 =>
    (AVal.slice? u11).bind fun s12 =>
    (Pt.chk x0).bind fun p13 =>
    (Pt.field 1 p13).bind fun p14 =>
    (AHeap.cell h p14).bind fun u15 =>
    (AVal.int? .i64 u15).bind fun n16 =>
    (AHeap.addr h 3 s12 n16).bind fun p17 =>
    (Pt.field 1 p17).bind fun p18 =>
    (AHeap.cell h p18).bind fun u19 =>
    (AVal.int? .i64 u19).bind fun n20 =>
    some ((AVal.int .i64 n20), h)) else ((Pt.chk x0).bind fun p21 =>
    (Pt.field 2 p21).bind fun p22 =>
    (AHeap.cell h p22).bind fun u23 =>
    (AVal.int? .i64 u23).bind fun n24 =>
    some ((AVal.int .i64 n24), h))) := by
  generalize hh : run = R
  rw [run_is] at hh
  subst hh
  kernel_rfl

noncomputable def k_aag_reader_word_0r (fuel d : Nat) : AExit → Fr → AHeap → Option (AVal × AHeap) := (kSeq (Cf fuel F_aag_reader_word) false (acall (C fuel) false d) (acall (C fuel) true d) 55 (csub [true, false, true] (fbody Go.Proofs.Tryd.f56)) (asub [true, false, true] an56) (kSeq (Cf fuel F_aag_reader_word) false (acall (C fuel) false d) (acall (C fuel) true d) 55 (csub [true, true] (fbody Go.Proofs.Tryd.f56)) (asub [true, true] an56) (kRet (Cf fuel F_aag_reader_word) Go.Proofs.Tryd.f56.results.toList)))

noncomputable def k_aag_reader_word_0 : Nat → Nat → AExit → Fr → AHeap → Option (AVal × AHeap) := hide k_aag_reader_word_0r

theorem k_aag_reader_word_0_is : k_aag_reader_word_0 = k_aag_reader_word_0r := hide_eq _

theorem e_aag_reader_word (fuel d : Nat) (x0 : Pt) (x1 : Bool) (h : AHeap) :
    run fuel (d + 1) F_aag_reader_word [(AVal.ptr x0), (AVal.bool x1)] h =
  ((Pt.chk x0).bind fun p1 =>
    (Pt.field 1 p1).bind fun p2 =>
    (AHeap.cell h p2).bind fun u3 =>
    (AVal.int? .i64 u3).bind fun n4 =>
    (Pt.chk x0).bind fun p5 =>
    (Pt.field 0 p5).bind fun p6 =>
    (AHeap.cell h p6).bind fun u7 =>
    (AVal.slice? u7).bind fun s8 =>
    (bif (decide (((s8.len : Nat) : Int) ≤ n4)) then (some (.normal, [(0, (AVal.ptr x0)), (31, (AVal.bool true))], h)) else ((Pt.chk x0).bind fun p9 =>
    (Pt.field 0 p9).bind fun p10 =>
    (AHeap.cell h p10).bind fun u11 =>
    (AVal.slice? u11).bind fun s12 =>
    (Pt.chk x0).bind fun p13 =>
    (Pt.field 1 p13).bind fun p14 =>
    (AHeap.cell h p14).bind fun u15 =>
    (AVal.int? .i64 u15).bind fun n16 =>
    (AHeap.addr h 3 s12 n16).bind fun p17 =>
    (Pt.field 2 p17).bind fun p18 =>
    (AHeap.cell h p18).bind fun u19 =>
    (AVal.bool? u19).bind fun b20 =>
    some (.normal, [(0, (AVal.ptr x0)), (31, (AVal.bool (!(b20 == x1))))], h)))).bind fun p21 =>
    k_aag_reader_word_0 fuel d p21.1 p21.2.1 p21.2.2 := by
  generalize hh : run = R
  rw [run_is] at hh
  subst hh
  generalize hh : k_aag_reader_word_0 = R
  rw [k_aag_reader_word_0_is] at hh
  subst hh
  kernel_rfl

theorem k_aag_reader_word_0_n (fuel d : Nat) (x0 : Pt) (x31 : Bool) (h : AHeap) :
    k_aag_reader_word_0 fuel d .normal [(0, (AVal.ptr x0)), (31, (AVal.bool x31))] h =
  (bif x31 then ((run fuel d F_aag_reader_pos [(AVal.ptr x0)] h).bind fun r1 =>
    (AVal.int? .i64 r1.1).bind fun n2 =>
    same (some (err_api_ErrText, h)) (err_api_ErrText, h) (
    (run fuel d F_aag_at [(AVal.int .i64 n2), err_api_ErrText] r1.2).bind fun r3 =>
    some ((AVal.tup [(AVal.str (⟨#[]⟩ : ByteArray)), r3.1]), r3.2))) else ((Pt.chk x0).bind fun p4 =>
    (Pt.field 0 p4).bind fun p5 =>
    (AHeap.cell h p5).bind fun u6 =>
    (AVal.slice? u6).bind fun s7 =>
    (Pt.chk x0).bind fun p8 =>
    (Pt.field 1 p8).bind fun p9 =>
    (AHeap.cell h p9).bind fun u10 =>
    (AVal.int? .i64 u10).bind fun n11 =>
    (AHeap.addr h 3 s7 n11).bind fun p12 =>
    (Pt.field 0 p12).bind fun p13 =>
    (AHeap.cell h p13).bind fun u14 =>
    (AVal.str? u14).bind fun s15 =>
    (Pt.chk x0).bind fun p16 =>
    (Pt.field 1 p16).bind fun p17 =>
    (AHeap.cell h p17).bind fun u18 =>
    (AVal.int? .i64 u18).bind fun n19 =>
    (Pt.chk x0).bind fun p20 =>
    (Pt.field 1 p20).bind fun p21 =>
    (AHeap.storeAt h [(AVal.int .i64 (IntKind.wrap .i64 (n19 + (1 : Int))))] p21).bind fun h22 =>
    some ((AVal.tup [(AVal.str s15), AVal.nilif]), h22))) := by
  generalize hh : run = R
  rw [run_is] at hh
  subst hh
  generalize hh : k_aag_reader_word_0 = R
  rw [k_aag_reader_word_0_is] at hh
  subst hh
  kernel_rfl

theorem e_aag_Limits (fuel d : Nat) (x0 : List AVal) (h : AHeap) :
    brun fuel (d + 1) F_aag_Limits [(AVal.agg x0)] h =
  (bif (List.all x0 AVal.isCell) then ((Pt.elem 1 6 (2 : Int) (Pt.mk ⟨AHeap.next h, 0, 0⟩ (List.length x0))).bind fun p1 =>
    (AHeap.cell (AHeap.push h 1 x0) p1).bind fun u2 =>
    (AVal.int? .i64 u2).bind fun n3 =>
    (bif (decide ((8000 : Int) < n3)) then (some ((AVal.tup [(AVal.int .i64 (2 : Int)), err_api_ErrLimit]), (AHeap.push h 1 x0))) else ((Pt.elem 1 6 (2 : Int) (Pt.mk ⟨AHeap.next h, 0, 0⟩ (List.length x0))).bind fun p4 =>
    (AHeap.cell (AHeap.push h 1 x0) p4).bind fun u5 =>
    (AVal.int? .i64 u5).bind fun n6 =>
    (Pt.elem 1 6 (5 : Int) (Pt.mk ⟨AHeap.next h, 0, 0⟩ (List.length x0))).bind fun p7 =>
    (AHeap.cell (AHeap.push h 1 x0) p7).bind fun u8 =>
    (AVal.int? .i64 u8).bind fun n9 =>
    (bif (decide ((8000 : Int) < (IntKind.wrap .i64 (n6 + n9)))) then (some ((AVal.tup [(AVal.int .i64 (5 : Int)), err_api_ErrLimit]), (AHeap.push h 1 x0))) else ((Pt.elem 1 6 (4 : Int) (Pt.mk ⟨AHeap.next h, 0, 0⟩ (List.length x0))).bind fun p10 =>
    (AHeap.cell (AHeap.push h 1 x0) p10).bind fun u11 =>
    (AVal.int? .i64 u11).bind fun n12 =>
    (bif (decide ((8000 : Int) < n12)) then (some ((AVal.tup [(AVal.int .i64 (4 : Int)), err_api_ErrLimit]), (AHeap.push h 1 x0))) else ((Pt.elem 1 6 (1 : Int) (Pt.mk ⟨AHeap.next h, 0, 0⟩ (List.length x0))).bind fun p13 =>
    (AHeap.cell (AHeap.push h 1 x0) p13).bind fun u14 =>
    (AVal.int? .i64 u14).bind fun n15 =>
    (Pt.elem 1 6 (2 : Int) (Pt.mk ⟨AHeap.next h, 0, 0⟩ (List.length x0))).bind fun p16 =>
    (AHeap.cell (AHeap.push h 1 x0) p16).bind fun u17 =>
    (AVal.int? .i64 u17).bind fun n18 =>
    (Pt.elem 1 6 (5 : Int) (Pt.mk ⟨AHeap.next h, 0, 0⟩ (List.length x0))).bind fun p19 =>
    (AHeap.cell (AHeap.push h 1 x0) p19).bind fun u20 =>
    (AVal.int? .i64 u20).bind fun n21 =>
    (bif (!decide (n15 = (IntKind.wrap .i64 (n18 + n21)))) then (some ((AVal.tup [(AVal.int .i64 (1 : Int)), err_api_ErrText]), (AHeap.push h 1 x0))) else ((Pt.elem 1 6 (3 : Int) (Pt.mk ⟨AHeap.next h, 0, 0⟩ (List.length x0))).bind fun p22 =>
    (AHeap.cell (AHeap.push h 1 x0) p22).bind fun u23 =>
    (AVal.int? .i64 u23).bind fun n24 =>
    (bif (!decide (n24 = (0 : Int))) then (some ((AVal.tup [(AVal.int .i64 (3 : Int)), err_api_ErrText]), (AHeap.push h 1 x0))) else (some ((AVal.tup [(AVal.int .i64 (0 : Int)), AVal.nilif]), (AHeap.push h 1 x0))))))))))))) else (none)) := by
  generalize hh : brun = R
  rw [brun_is] at hh
  subst hh
  kernel_rfl

theorem e_aag_reader_number (fuel d : Nat) (x0 : Pt) (x1 : Bool) (x2 : Int) (x3 : Int) (h : AHeap) :
    run fuel (d + 1) F_aag_reader_number [(AVal.ptr x0), (AVal.bool x1), (AVal.int .i64 x2), (AVal.int .i64 x3)] h =
  (run fuel d F_aag_reader_pos [(AVal.ptr x0)] h).bind fun r1 =>
    (AVal.int? .i64 r1.1).bind fun n2 =>
    (run fuel d F_aag_reader_word [(AVal.ptr x0), (AVal.bool x1)] r1.2).bind fun r3 =>
    (bif AVal.isTup 2 r3.1 then ((AVal.comp 0 r3.1).bind fun u4 =>
    (AVal.str? u4).bind fun s5 =>
    (AVal.comp 1 r3.1).bind fun u6 =>
    (nilTest .iface u6).bind fun b7 =>
    (bif (!b7) then (some ((AVal.tup [(AVal.int .i64 (0 : Int)), u6]), r3.2)) else ((run fuel d F_word_Plain [(AVal.str s5)] r3.2).bind fun r8 =>
    (bif AVal.isTup 2 r8.1 then ((AVal.comp 0 r8.1).bind fun u9 =>
    (AVal.int? .i64 u9).bind fun n10 =>
    (AVal.comp 1 r8.1).bind fun u11 =>
    (AVal.bool? u11).bind fun b12 =>
    (bif (bif (bif (!b12) then true else (decide (n10 < x2))) then true else (decide (x3 < n10))) then ((run fuel d F_aag_at [(AVal.int .i64 n2), err_api_ErrText] r8.2).bind fun r13 =>
    some ((AVal.tup [(AVal.int .i64 (0 : Int)), r13.1]), r13.2)) else (some ((AVal.tup [(AVal.int .i64 n10), AVal.nilif]), r8.2)))) else none)))) else none) := by
  generalize hh : run = R
  rw [run_is] at hh
  subst hh
  kernel_rfl

theorem e_aag_reader_and (fuel d : Nat) (x0 : Pt) (x1 : Int) (h : AHeap) :
    run fuel (d + 1) F_aag_reader_and [(AVal.ptr x0), (AVal.int .i64 x1)] h =
  (run fuel d F_aag_reader_number [(AVal.ptr x0), (AVal.bool true), (AVal.int .i64 x1), (AVal.int .i64 x1)] (AHeap.push h 1 [(AVal.int .i64 (0 : Int)), (AVal.int .i64 (0 : Int))])).bind fun r1 =>
    (bif AVal.isTup 2 r1.1 then ((AVal.comp 0 r1.1).bind fun u2 =>
    (AVal.int? .i64 u2).bind fun n3 =>
    (AVal.comp 1 r1.1).bind fun u4 =>
    (nilTest .iface u4).bind fun b5 =>
    (bif (!b5) then ((AHeap.storeAt r1.2 [(AVal.int .i64 (0 : Int)), (AVal.int .i64 (0 : Int))] (Pt.mk ⟨AHeap.next h, 0, 0⟩ 2)).bind fun h6 =>
    (((((AHeap.cellsAt h6 2 (Pt.mk ⟨AHeap.next h, 0, 0⟩ 2)).bind fun c8 =>
    some ((AVal.agg c8)) : Option AVal).bind fun v7 =>
    some [v7, u4]) : Option (List AVal)).map AVal.tup).map fun v => (v, h6)) else ((run fuel d F_aag_reader_number [(AVal.ptr x0), (AVal.bool false), (AVal.int .i64 (0 : Int)), (AVal.int .i64 (IntKind.wrap .i64 (x1 - (1 : Int))))] r1.2).bind fun r9 =>
    (bif AVal.isTup 2 r9.1 then ((AVal.comp 0 r9.1).bind fun u10 =>
    (AVal.int? .i64 u10).bind fun n11 =>
    (AVal.comp 1 r9.1).bind fun u12 =>
    (nilTest .iface u12).bind fun b13 =>
    (bif (!b13) then ((AHeap.storeAt r9.2 [(AVal.int .i64 (0 : Int)), (AVal.int .i64 (0 : Int))] (Pt.mk ⟨AHeap.next h, 0, 0⟩ 2)).bind fun h14 =>
    (((((AHeap.cellsAt h14 2 (Pt.mk ⟨AHeap.next h, 0, 0⟩ 2)).bind fun c16 =>
    some ((AVal.agg c16)) : Option AVal).bind fun v15 =>
    some [v15, u12]) : Option (List AVal)).map AVal.tup).map fun v => (v, h14)) else ((run fuel d F_aag_reader_number [(AVal.ptr x0), (AVal.bool false), (AVal.int .i64 (0 : Int)), (AVal.int .i64 n11)] r9.2).bind fun r17 =>
    (bif AVal.isTup 2 r17.1 then ((AVal.comp 0 r17.1).bind fun u18 =>
    (AVal.int? .i64 u18).bind fun n19 =>
    (AVal.comp 1 r17.1).bind fun u20 =>
    (nilTest .iface u20).bind fun b21 =>
    (bif (!b21) then ((AHeap.storeAt r17.2 [(AVal.int .i64 (0 : Int)), (AVal.int .i64 (0 : Int))] (Pt.mk ⟨AHeap.next h, 0, 0⟩ 2)).bind fun h22 =>
    (((((AHeap.cellsAt h22 2 (Pt.mk ⟨AHeap.next h, 0, 0⟩ 2)).bind fun c24 =>
    some ((AVal.agg c24)) : Option AVal).bind fun v23 =>
    some [v23, u20]) : Option (List AVal)).map AVal.tup).map fun v => (v, h22)) else ((AHeap.storeAt r17.2 [(AVal.int .i64 n11), (AVal.int .i64 n19)] (Pt.mk ⟨AHeap.next h, 0, 0⟩ 2)).bind fun h25 =>
    (((((AHeap.cellsAt h25 2 (Pt.mk ⟨AHeap.next h, 0, 0⟩ 2)).bind fun c27 =>
    some ((AVal.agg c27)) : Option AVal).bind fun v26 =>
    some [v26, AVal.nilif]) : Option (List AVal)).map AVal.tup).map fun v => (v, h25)))) else none)))) else none)))) else none) := by
  generalize hh : run = R
  rw [run_is] at hh
  subst hh
  kernel_rfl

theorem e_skolemref_Bare (fuel d : Nat) (x0 : Int) (h : AHeap) :
    brun fuel (d + 1) F_skolemref_Bare [(AVal.int .i64 x0)] h =
  (AHeap.storeAt (AHeap.push h 1 [(AVal.int .i64 (0 : Int)), (AVal.bool false), (AVal.int .i64 (0 : Int))]) [(AVal.int .i64 x0), (AVal.bool false), (AVal.int .i64 (0 : Int))] (Pt.mk ⟨AHeap.next h, 0, 0⟩ 3)).bind fun h1 =>
    ((AHeap.cellsAt h1 3 (Pt.mk ⟨AHeap.next h, 0, 0⟩ 3)).bind fun c2 =>
    some ((AVal.agg c2)) : Option AVal).map fun v => (v, h1) := by
  generalize hh : brun = R
  rw [brun_is] at hh
  subst hh
  kernel_rfl

noncomputable def s_skolemsee_sentinel_0 (fuel d : Nat) : Run := fun fr h k => aexec (Cf fuel F_skolemsee_sentinel) false (acall (C fuel) false d) (acall (C fuel) true d) 20 (csub [true, true, false, true, false, false] (fbody Go.Proofs.Tryd.f63)) (asub [true, true, false, true, false, false] an63) fr h k

noncomputable def l_skolemsee_sentinel_0r (fuel d : Nat) (n : Nat) (fr : Fr) (h : AHeap) : Option (AExit × Fr × AHeap) := aloop (s_skolemsee_sentinel_0 fuel d) (some [0, 3, 4]) n fr h (kOut [2])

noncomputable def l_skolemsee_sentinel_0 : Nat → Nat → Nat → Fr → AHeap → Option (AExit × Fr × AHeap) := hide l_skolemsee_sentinel_0r

theorem l_skolemsee_sentinel_0_is : l_skolemsee_sentinel_0 = l_skolemsee_sentinel_0r := hide_eq _

noncomputable def k_skolemsee_sentinel_0r (fuel d : Nat) : AExit → Fr → AHeap → Option (AVal × AHeap) := (kBlock 0 (kSeq (Cf fuel F_skolemsee_sentinel) false (acall (C fuel) false d) (acall (C fuel) true d) 20 (csub [true, true, true] (fbody Go.Proofs.Tryd.f63)) (asub [true, true, true] an63) (kRet (Cf fuel F_skolemsee_sentinel) Go.Proofs.Tryd.f63.results.toList)))

noncomputable def k_skolemsee_sentinel_0 : Nat → Nat → AExit → Fr → AHeap → Option (AVal × AHeap) := hide k_skolemsee_sentinel_0r

theorem k_skolemsee_sentinel_0_is : k_skolemsee_sentinel_0 = k_skolemsee_sentinel_0r := hide_eq _

theorem e_skolemsee_sentinel (fuel d : Nat) (x0 : AVal) (h : AHeap) :
    brun fuel (d + 1) F_skolemsee_sentinel [x0] h =
  (run fuel d F_skolemsee_sentinels [] h).bind fun r1 =>
    (AVal.slice? r1.1).bind fun s2 =>
    (l_skolemsee_sentinel_0 fuel d fuel [(0, x0), (3, (AVal.slice s2)), (4, (AVal.int .i64 (0 : Int)))] r1.2).bind fun p3 =>
    k_skolemsee_sentinel_0 fuel d p3.1 p3.2.1 p3.2.2 := by
  generalize hh : run = R
  rw [run_is] at hh
  subst hh
  generalize hh : brun = R
  rw [brun_is] at hh
  subst hh
  generalize hh : l_skolemsee_sentinel_0 = R
  rw [l_skolemsee_sentinel_0_is] at hh
  subst hh
  generalize hh : k_skolemsee_sentinel_0 = R
  rw [k_skolemsee_sentinel_0_is] at hh
  subst hh
  kernel_rfl

theorem l_skolemsee_sentinel_0_eq (fuel d : Nat) (n : Nat) (x0 : AVal) (x3 : Sl) (x4 : Int) (h : AHeap) :
    l_skolemsee_sentinel_0 fuel d (n + 1) [(0, x0), (3, (AVal.slice x3)), (4, (AVal.int .i64 x4))] h =
  (bif (decide (x4 < ((x3.len : Nat) : Int))) then ((AHeap.addr h 1 x3 x4).bind fun p1 =>
    (AHeap.cell h p1).bind fun u2 =>
    (run fuel d F_skolemsee_Alike [x0, u2] h).bind fun r3 =>
    (AVal.bool? r3.1).bind fun b4 =>
    (bif b4 then (some (.ret, [(2, (AVal.int .i64 (IntKind.wrap .i64 ((101 : Int) + x4))))], r3.2)) else (l_skolemsee_sentinel_0 fuel d n [(0, x0), (3, (AVal.slice x3)), (4, (AVal.int .i64 (IntKind.wrap .i64 (x4 + (1 : Int)))))] r3.2))) else (some ((.exit 0), [(2, AVal.bot)], h))) := by
  generalize hh : run = R
  rw [run_is] at hh
  subst hh
  generalize hh : l_skolemsee_sentinel_0 = R
  rw [l_skolemsee_sentinel_0_is] at hh
  subst hh
  kernel_rfl

theorem k_skolemsee_sentinel_0_r (fuel d : Nat) (x2 : Int) (h : AHeap) :
    k_skolemsee_sentinel_0 fuel d .ret [(2, (AVal.int .i64 x2))] h =
  some ((AVal.int .i64 x2), h) := by
  generalize hh : k_skolemsee_sentinel_0 = R
  rw [k_skolemsee_sentinel_0_is] at hh
  subst hh
  kernel_rfl

theorem e_strconv_Itoa (fuel d : Nat) (x0 : Int) (h : AHeap) :
    brun fuel (d + 1) F_strconv_Itoa [(AVal.int .i64 x0)] h =
  (run fuel d F_internal_strconv_Itoa [(AVal.int .i64 x0)] h).bind fun r1 =>
    (AVal.str? r1.1).bind fun s2 =>
    some ((AVal.str s2), r1.2) := by
  generalize hh : run = R
  rw [run_is] at hh
  subst hh
  generalize hh : brun = R
  rw [brun_is] at hh
  subst hh
  kernel_rfl

noncomputable def k_word_Number_0r (fuel d : Nat) : AExit → Fr → AHeap → Option (AVal × AHeap) := (kSeq (Cf fuel F_word_Number) false (acall (C fuel) false d) (acall (C fuel) true d) 51 (csub [true, true, true] (fbody Go.Proofs.Tryd.f70)) (asub [true, true, true] an70) (kRet (Cf fuel F_word_Number) Go.Proofs.Tryd.f70.results.toList))

noncomputable def k_word_Number_0 : Nat → Nat → AExit → Fr → AHeap → Option (AVal × AHeap) := hide k_word_Number_0r

theorem k_word_Number_0_is : k_word_Number_0 = k_word_Number_0r := hide_eq _

noncomputable def s_word_Number_0 (fuel d : Nat) : Run := fun fr h k => aexec (Cf fuel F_word_Number) false (acall (C fuel) false d) (acall (C fuel) true d) 51 (csub [true, true, true, true, false, true, false, false] (fbody Go.Proofs.Tryd.f70)) (asub [true, true, true, true, false, true, false, false] an70) fr h k

noncomputable def l_word_Number_0r (fuel d : Nat) (n : Nat) (fr : Fr) (h : AHeap) : Option (AExit × Fr × AHeap) := aloop (s_word_Number_0 fuel d) (some [0, 4, 28, 29]) n fr h (kOut [0, 2, 3])

noncomputable def l_word_Number_0 : Nat → Nat → Nat → Fr → AHeap → Option (AExit × Fr × AHeap) := hide l_word_Number_0r

theorem l_word_Number_0_is : l_word_Number_0 = l_word_Number_0r := hide_eq _

noncomputable def k_word_Number_1r (fuel d : Nat) : AExit → Fr → AHeap → Option (AVal × AHeap) := (kBlock 0 (kSeq (Cf fuel F_word_Number) false (acall (C fuel) false d) (acall (C fuel) true d) 51 (csub [true, true, true, true, true] (fbody Go.Proofs.Tryd.f70)) (asub [true, true, true, true, true] an70) (kRet (Cf fuel F_word_Number) Go.Proofs.Tryd.f70.results.toList)))

noncomputable def k_word_Number_1 : Nat → Nat → AExit → Fr → AHeap → Option (AVal × AHeap) := hide k_word_Number_1r

theorem k_word_Number_1_is : k_word_Number_1 = k_word_Number_1r := hide_eq _

theorem e_word_Number (fuel d : Nat) (x0 : ByteArray) (h : AHeap) :
    brun fuel (d + 1) F_word_Number [(AVal.str x0)] h =
  ((bif ((decide ((0 : Int) < ((ByteArray.size x0 : Nat) : Int))) == true) then ((strAt x0 (0 : Int)).bind fun n1 =>
    some ((AVal.bool (decide (n1 = (45 : Int)))), h)) else (some ((AVal.bool false), h)) : Option (AVal × AHeap))).bind fun r2 =>
    (AVal.bool? r2.1).bind fun b3 =>
    ((bif b3 then ((aHi (none : Option AVal) (ByteArray.size x0)).bind fun hi4 =>
    (aLo (some (AVal.int .i64 (1 : Int))) hi4).bind fun lo5 =>
    some (.normal, [(0, (AVal.str x0)), (4, (AVal.str (ByteArray.extract x0 lo5 hi4)))], r2.2)) else (some (.normal, [(0, (AVal.str x0)), (4, (AVal.str x0))], r2.2)))).bind fun p6 =>
    k_word_Number_0 fuel d p6.1 p6.2.1 p6.2.2 := by
  generalize hh : brun = R
  rw [brun_is] at hh
  subst hh
  generalize hh : k_word_Number_0 = R
  rw [k_word_Number_0_is] at hh
  subst hh
  kernel_rfl

theorem k_word_Number_0_n (fuel d : Nat) (x0 : ByteArray) (x4 : ByteArray) (h : AHeap) :
    k_word_Number_0 fuel d .normal [(0, (AVal.str x0)), (4, (AVal.str x4))] h =
  (bif (bif (decide (((ByteArray.size x4 : Nat) : Int) < (1 : Int))) then true else (decide ((9 : Int) < ((ByteArray.size x4 : Nat) : Int)))) then (some ((AVal.tup [(AVal.int .i64 (0 : Int)), (AVal.bool false)]), h)) else ((l_word_Number_0 fuel d fuel [(0, (AVal.str x0)), (4, (AVal.str x4)), (28, (AVal.int .i64 ((ByteArray.size x4 : Nat) : Int))), (29, (AVal.int .i64 (0 : Int)))] h).bind fun p1 =>
    k_word_Number_1 fuel d p1.1 p1.2.1 p1.2.2)) := by
  generalize hh : k_word_Number_0 = R
  rw [k_word_Number_0_is] at hh
  subst hh
  generalize hh : l_word_Number_0 = R
  rw [l_word_Number_0_is] at hh
  subst hh
  generalize hh : k_word_Number_1 = R
  rw [k_word_Number_1_is] at hh
  subst hh
  kernel_rfl

theorem l_word_Number_0_eq (fuel d : Nat) (n : Nat) (x0 : ByteArray) (x4 : ByteArray) (x28 : Int) (x29 : Int) (h : AHeap) :
    l_word_Number_0 fuel d (n + 1) [(0, (AVal.str x0)), (4, (AVal.str x4)), (28, (AVal.int .i64 x28)), (29, (AVal.int .i64 x29))] h =
  (bif (decide (x29 < x28)) then ((strAt x4 x29).bind fun n1 =>
    ((bif ((decide (n1 < (48 : Int))) == false) then ((strAt x4 x29).bind fun n2 =>
    some ((AVal.bool (decide ((57 : Int) < n2))), h)) else (some ((AVal.bool true), h)) : Option (AVal × AHeap))).bind fun r3 =>
    (AVal.bool? r3.1).bind fun b4 =>
    (bif b4 then (some (.ret, [(0, (AVal.str x0)), (2, (AVal.int .i64 (0 : Int))), (3, (AVal.bool false))], r3.2)) else (l_word_Number_0 fuel d n [(0, (AVal.str x0)), (4, (AVal.str x4)), (28, (AVal.int .i64 x28)), (29, (AVal.int .i64 (IntKind.wrap .i64 (x29 + (1 : Int)))))] r3.2))) else (some ((.exit 0), [(0, (AVal.str x0)), (2, AVal.bot), (3, AVal.bot)], h))) := by
  generalize hh : l_word_Number_0 = R
  rw [l_word_Number_0_is] at hh
  subst hh
  kernel_rfl

theorem k_word_Number_1_x0 (fuel d : Nat) (x0 : ByteArray) (x2 : AVal) (x3 : AVal) (h : AHeap) :
    k_word_Number_1 fuel d (.exit 0) [(0, (AVal.str x0)), (2, x2), (3, x3)] h =
  (run fuel d F_strconv_Atoi [(AVal.str x0)] h).bind fun r1 =>
    (bif AVal.isTup 2 r1.1 then ((AVal.comp 0 r1.1).bind fun u2 =>
    (AVal.int? .i64 u2).bind fun n3 =>
    (AVal.comp 1 r1.1).bind fun u4 =>
    (nilTest .iface u4).bind fun b5 =>
    some ((AVal.tup [(AVal.int .i64 n3), (AVal.bool (b5))]), r1.2)) else none) := by
  generalize hh : run = R
  rw [run_is] at hh
  subst hh
  generalize hh : k_word_Number_1 = R
  rw [k_word_Number_1_is] at hh
  subst hh
  kernel_rfl

theorem k_word_Number_1_r (fuel d : Nat) (x0 : AVal) (x2 : Int) (x3 : Bool) (h : AHeap) :
    k_word_Number_1 fuel d .ret [(0, x0), (2, (AVal.int .i64 x2)), (3, (AVal.bool x3))] h =
  some ((AVal.tup [(AVal.int .i64 x2), (AVal.bool x3)]), h) := by
  generalize hh : k_word_Number_1 = R
  rw [k_word_Number_1_is] at hh
  subst hh
  kernel_rfl

noncomputable def k_word_kind_0r (fuel d : Nat) : AExit → Fr → AHeap → Option (AExit × Fr × AHeap) := (kBlock 3 (kOut []))

noncomputable def k_word_kind_0 : Nat → Nat → AExit → Fr → AHeap → Option (AExit × Fr × AHeap) := hide k_word_kind_0r

theorem k_word_kind_0_is : k_word_kind_0 = k_word_kind_0r := hide_eq _

noncomputable def k_word_kind_1r (fuel d : Nat) : AExit → Fr → AHeap → Option (AVal × AHeap) := (kSeq (Cf fuel F_word_kind) false (acall (C fuel) false d) (acall (C fuel) true d) 12 (csub [true, false, true, false, false, false, true] (fbody Go.Proofs.Tryd.f73)) (asub [true, false, true, false, false, false, true] an73) (kBlock 4 (kSeq (Cf fuel F_word_kind) false (acall (C fuel) false d) (acall (C fuel) true d) 12 (csub [true, false, true, false, true] (fbody Go.Proofs.Tryd.f73)) (asub [true, false, true, false, true] an73) (kBlock 0 (kSeq (Cf fuel F_word_kind) false (acall (C fuel) false d) (acall (C fuel) true d) 12 (csub [true, true] (fbody Go.Proofs.Tryd.f73)) (asub [true, true] an73) (kRet (Cf fuel F_word_kind) Go.Proofs.Tryd.f73.results.toList))))))

noncomputable def k_word_kind_1 : Nat → Nat → AExit → Fr → AHeap → Option (AVal × AHeap) := hide k_word_kind_1r

theorem k_word_kind_1_is : k_word_kind_1 = k_word_kind_1r := hide_eq _

theorem e_word_kind (fuel d : Nat) (x0 : Int) (h : AHeap) :
    brun fuel (d + 1) F_word_kind [(AVal.int .u8 x0)] h =
  (((bif (decide (x0 = (32 : Int))) then (some (.normal, [], h)) else ((bif (decide (x0 = (9 : Int))) then (some (.normal, [], h)) else ((bif (decide (x0 = (13 : Int))) then (some ((.exit 3), [], h)) else ((bif (decide (x0 = (10 : Int))) then (some ((.exit 4), [], h)) else (some ((.exit 0), [], h)))))))))).bind fun p1 =>
    k_word_kind_0 fuel d p1.1 p1.2.1 p1.2.2).bind fun p2 =>
    k_word_kind_1 fuel d p2.1 p2.2.1 p2.2.2 := by
  generalize hh : brun = R
  rw [brun_is] at hh
  subst hh
  generalize hh : k_word_kind_0 = R
  rw [k_word_kind_0_is] at hh
  subst hh
  generalize hh : k_word_kind_1 = R
  rw [k_word_kind_1_is] at hh
  subst hh
  kernel_rfl

theorem k_word_kind_0_x0 (fuel d : Nat)  (h : AHeap) :
    k_word_kind_0 fuel d (.exit 0) [] h =
  some ((.exit 0), [], h) := by
  generalize hh : k_word_kind_0 = R
  rw [k_word_kind_0_is] at hh
  subst hh
  kernel_rfl

theorem k_word_kind_0_x3 (fuel d : Nat)  (h : AHeap) :
    k_word_kind_0 fuel d (.exit 3) [] h =
  some (.normal, [], h) := by
  generalize hh : k_word_kind_0 = R
  rw [k_word_kind_0_is] at hh
  subst hh
  kernel_rfl

theorem k_word_kind_0_x4 (fuel d : Nat)  (h : AHeap) :
    k_word_kind_0 fuel d (.exit 4) [] h =
  some ((.exit 4), [], h) := by
  generalize hh : k_word_kind_0 = R
  rw [k_word_kind_0_is] at hh
  subst hh
  kernel_rfl

theorem k_word_kind_0_n (fuel d : Nat)  (h : AHeap) :
    k_word_kind_0 fuel d .normal [] h =
  some (.normal, [], h) := by
  generalize hh : k_word_kind_0 = R
  rw [k_word_kind_0_is] at hh
  subst hh
  kernel_rfl

theorem k_word_kind_1_x0 (fuel d : Nat)  (h : AHeap) :
    k_word_kind_1 fuel d (.exit 0) [] h =
  some ((AVal.int .i64 (0 : Int)), h) := by
  generalize hh : k_word_kind_1 = R
  rw [k_word_kind_1_is] at hh
  subst hh
  kernel_rfl

theorem k_word_kind_1_x4 (fuel d : Nat)  (h : AHeap) :
    k_word_kind_1 fuel d (.exit 4) [] h =
  some ((AVal.int .i64 (2 : Int)), h) := by
  generalize hh : k_word_kind_1 = R
  rw [k_word_kind_1_is] at hh
  subst hh
  kernel_rfl

theorem k_word_kind_1_n (fuel d : Nat)  (h : AHeap) :
    k_word_kind_1 fuel d .normal [] h =
  some ((AVal.int .i64 (1 : Int)), h) := by
  generalize hh : k_word_kind_1 = R
  rw [k_word_kind_1_is] at hh
  subst hh
  kernel_rfl

theorem e_skolemsee_sentinels (fuel d : Nat)  (h : AHeap) :
    brun fuel (d + 1) F_skolemsee_sentinels [] h =
  ((bif (Nat.beq (List.length (AVal.cells err_api_ErrText)) 1 && Nat.ble (0 + 1) (List.length [AVal.nilif, AVal.nilif, AVal.nilif, AVal.nilif, AVal.nilif, AVal.nilif, AVal.nilif]) && List.all (AVal.cells err_api_ErrText) AVal.isCell) then ((bif (Nat.beq (List.length (AVal.cells err_api_ErrLimit)) 1 && Nat.ble (1 + 1) (List.length (AHeap.overlay [AVal.nilif, AVal.nilif, AVal.nilif, AVal.nilif, AVal.nilif, AVal.nilif, AVal.nilif] 0 (AVal.cells err_api_ErrText))) && List.all (AVal.cells err_api_ErrLimit) AVal.isCell) then ((bif (Nat.beq (List.length (AVal.cells err_api_ErrBudget)) 1 && Nat.ble (2 + 1) (List.length (AHeap.overlay (AHeap.overlay [AVal.nilif, AVal.nilif, AVal.nilif, AVal.nilif, AVal.nilif, AVal.nilif, AVal.nilif] 0 (AVal.cells err_api_ErrText)) 1 (AVal.cells err_api_ErrLimit))) && List.all (AVal.cells err_api_ErrBudget) AVal.isCell) then ((bif (Nat.beq (List.length (AVal.cells err_api_ErrRange)) 1 && Nat.ble (3 + 1) (List.length (AHeap.overlay (AHeap.overlay (AHeap.overlay [AVal.nilif, AVal.nilif, AVal.nilif, AVal.nilif, AVal.nilif, AVal.nilif, AVal.nilif] 0 (AVal.cells err_api_ErrText)) 1 (AVal.cells err_api_ErrLimit)) 2 (AVal.cells err_api_ErrBudget))) && List.all (AVal.cells err_api_ErrRange) AVal.isCell) then ((bif (Nat.beq (List.length (AVal.cells err_api_ErrBlocks)) 1 && Nat.ble (4 + 1) (List.length (AHeap.overlay (AHeap.overlay (AHeap.overlay (AHeap.overlay [AVal.nilif, AVal.nilif, AVal.nilif, AVal.nilif, AVal.nilif, AVal.nilif, AVal.nilif] 0 (AVal.cells err_api_ErrText)) 1 (AVal.cells err_api_ErrLimit)) 2 (AVal.cells err_api_ErrBudget)) 3 (AVal.cells err_api_ErrRange))) && List.all (AVal.cells err_api_ErrBlocks) AVal.isCell) then ((bif (Nat.beq (List.length (AVal.cells err_api_ErrProof)) 1 && Nat.ble (5 + 1) (List.length (AHeap.overlay (AHeap.overlay (AHeap.overlay (AHeap.overlay (AHeap.overlay [AVal.nilif, AVal.nilif, AVal.nilif, AVal.nilif, AVal.nilif, AVal.nilif, AVal.nilif] 0 (AVal.cells err_api_ErrText)) 1 (AVal.cells err_api_ErrLimit)) 2 (AVal.cells err_api_ErrBudget)) 3 (AVal.cells err_api_ErrRange)) 4 (AVal.cells err_api_ErrBlocks))) && List.all (AVal.cells err_api_ErrProof) AVal.isCell) then ((bif (Nat.beq (List.length (AVal.cells err_api_ErrCert)) 1 && Nat.ble (6 + 1) (List.length (AHeap.overlay (AHeap.overlay (AHeap.overlay (AHeap.overlay (AHeap.overlay (AHeap.overlay [AVal.nilif, AVal.nilif, AVal.nilif, AVal.nilif, AVal.nilif, AVal.nilif, AVal.nilif] 0 (AVal.cells err_api_ErrText)) 1 (AVal.cells err_api_ErrLimit)) 2 (AVal.cells err_api_ErrBudget)) 3 (AVal.cells err_api_ErrRange)) 4 (AVal.cells err_api_ErrBlocks)) 5 (AVal.cells err_api_ErrProof))) && List.all (AVal.cells err_api_ErrCert) AVal.isCell) then ((some (AHeap.overlay (AHeap.overlay (AHeap.overlay (AHeap.overlay (AHeap.overlay (AHeap.overlay (AHeap.overlay [AVal.nilif, AVal.nilif, AVal.nilif, AVal.nilif, AVal.nilif, AVal.nilif, AVal.nilif] 0 (AVal.cells err_api_ErrText)) 1 (AVal.cells err_api_ErrLimit)) 2 (AVal.cells err_api_ErrBudget)) 3 (AVal.cells err_api_ErrRange)) 4 (AVal.cells err_api_ErrBlocks)) 5 (AVal.cells err_api_ErrProof)) 6 (AVal.cells err_api_ErrCert)))) else (none))) else (none))) else (none))) else (none))) else (none))) else (none))) else (none))).bind fun c1 =>
    some ((AVal.slice (Sl.lst 7 true c1)), h) := by
  generalize hh : brun = R
  rw [brun_is] at hh
  subst hh
  kernel_rfl

theorem e_skolemsee_Alike (fuel d : Nat) (x0 : AVal) (x1 : AVal) (h : AHeap) :
    brun fuel (d + 1) F_skolemsee_Alike [x0, x1] h =
  (nilTest .iface x0).bind fun b1 =>
    ((bif ((b1) == false) then ((nilTest .iface x1).bind fun b2 =>
    some ((AVal.bool (b2)), h)) else (some ((AVal.bool true), h)) : Option (AVal × AHeap))).bind fun r3 =>
    (AVal.bool? r3.1).bind fun b4 =>
    (bif b4 then ((nilTest .iface x0).bind fun b5 =>
    ((bif ((b5) == true) then ((nilTest .iface x1).bind fun b6 =>
    some ((AVal.bool (b6)), r3.2)) else (some ((AVal.bool false), r3.2)) : Option (AVal × AHeap))).bind fun r7 =>
    (AVal.bool? r7.1).bind fun b8 =>
    some ((AVal.bool b8), r7.2)) else ((ifaceSame (Cf fuel F_skolemsee_Alike) x0 x1).bind fun b9 =>
    some ((AVal.bool (b9)), r3.2))) := by
  generalize hh : brun = R
  rw [brun_is] at hh
  subst hh
  kernel_rfl

theorem e_internal_strconv_Itoa (fuel d : Nat) (x0 : Int) (h : AHeap) :
    brun fuel (d + 1) F_internal_strconv_Itoa [(AVal.int .i64 x0)] h =
  (run fuel d F_strconv_FormatInt [(AVal.int .i64 x0), (AVal.int .i64 (10 : Int))] h).bind fun r1 =>
    (AVal.str? r1.1).bind fun s2 =>
    some ((AVal.str s2), r1.2) := by
  generalize hh : run = R
  rw [run_is] at hh
  subst hh
  generalize hh : brun = R
  rw [brun_is] at hh
  subst hh
  kernel_rfl

theorem e_strconv_Atoi (fuel d : Nat) (x0 : ByteArray) (h : AHeap) :
    brun fuel (d + 1) F_strconv_Atoi [(AVal.str x0)] h =
  (run fuel d F_internal_strconv_Atoi [(AVal.str x0)] h).bind fun r1 =>
    (bif AVal.isTup 2 r1.1 then ((AVal.comp 0 r1.1).bind fun u2 =>
    (AVal.int? .i64 u2).bind fun n3 =>
    (AVal.comp 1 r1.1).bind fun u4 =>
    (nilTest .iface u4).bind fun b5 =>
    (bif (!b5) then ((run fuel d F_strconv_toError [(AVal.str (⟨#[65, 116, 111, 105]⟩ : ByteArray)), (AVal.str x0), (AVal.int .i64 (0 : Int)), (AVal.int .i64 (0 : Int)), u4] r1.2).bind fun r6 =>
    some ((AVal.tup [(AVal.int .i64 n3), r6.1]), r6.2)) else (some ((AVal.tup [(AVal.int .i64 n3), AVal.nilif]), r1.2)))) else none) := by
  generalize hh : run = R
  rw [run_is] at hh
  subst hh
  generalize hh : brun = R
  rw [brun_is] at hh
  subst hh
  kernel_rfl

noncomputable def k_strconv_FormatInt_0r (fuel d : Nat) : AExit → Fr → AHeap → Option (AVal × AHeap) := (kSeq (Cf fuel F_strconv_FormatInt) false (acall (C fuel) false d) (acall (C fuel) true d) 54 (csub [true, false, true, false, true, true, true, true] (fbody Go.Proofs.Tryd.f81)) (asub [true, false, true, false, true, true, true, true] an81) (kSeq (Cf fuel F_strconv_FormatInt) false (acall (C fuel) false d) (acall (C fuel) true d) 54 (csub [true, true] (fbody Go.Proofs.Tryd.f81)) (asub [true, true] an81) (kRet (Cf fuel F_strconv_FormatInt) Go.Proofs.Tryd.f81.results.toList)))

noncomputable def k_strconv_FormatInt_0 : Nat → Nat → AExit → Fr → AHeap → Option (AVal × AHeap) := hide k_strconv_FormatInt_0r

theorem k_strconv_FormatInt_0_is : k_strconv_FormatInt_0 = k_strconv_FormatInt_0r := hide_eq _

theorem e_strconv_FormatInt (fuel d : Nat) (x0 : Int) (x1 : Int) (h : AHeap) :
    brun fuel (d + 1) F_strconv_FormatInt [(AVal.int .i64 x0), (AVal.int .i64 x1)] h =
  (bif (decide (x1 = (10 : Int))) then ((bif (bif (decide ((0 : Int) ≤ x0)) then (decide (x0 < (100 : Int))) else false) then ((run fuel d F_strconv_small [(AVal.int .i64 x0)] h).bind fun r1 =>
    (AVal.str? r1.1).bind fun s2 =>
    some ((AVal.str s2), r1.2)) else (((bif (decide (x0 < (0 : Int))) then (some (.normal, [(0, (AVal.int .i64 x0)), (5, (AVal.ptr (Pt.mk ⟨AHeap.next h, 0, 0⟩ 24))), (6, (AVal.int .u64 (IntKind.wrap .u64 (0 - (IntKind.wrap .u64 x0)))))], (AHeap.push h 1 [(AVal.int .u8 (0 : Int)), (AVal.int .u8 (0 : Int)), (AVal.int .u8 (0 : Int)), (AVal.int .u8 (0 : Int)), (AVal.int .u8 (0 : Int)), (AVal.int .u8 (0 : Int)), (AVal.int .u8 (0 : Int)), (AVal.int .u8 (0 : Int)), (AVal.int .u8 (0 : Int)), (AVal.int .u8 (0 : Int)), (AVal.int .u8 (0 : Int)), (AVal.int .u8 (0 : Int)), (AVal.int .u8 (0 : Int)), (AVal.int .u8 (0 : Int)), (AVal.int .u8 (0 : Int)), (AVal.int .u8 (0 : Int)), (AVal.int .u8 (0 : Int)), (AVal.int .u8 (0 : Int)), (AVal.int .u8 (0 : Int)), (AVal.int .u8 (0 : Int)), (AVal.int .u8 (0 : Int)), (AVal.int .u8 (0 : Int)), (AVal.int .u8 (0 : Int)), (AVal.int .u8 (0 : Int))]))) else (some (.normal, [(0, (AVal.int .i64 x0)), (5, (AVal.ptr (Pt.mk ⟨AHeap.next h, 0, 0⟩ 24))), (6, (AVal.int .u64 (IntKind.wrap .u64 x0)))], (AHeap.push h 1 [(AVal.int .u8 (0 : Int)), (AVal.int .u8 (0 : Int)), (AVal.int .u8 (0 : Int)), (AVal.int .u8 (0 : Int)), (AVal.int .u8 (0 : Int)), (AVal.int .u8 (0 : Int)), (AVal.int .u8 (0 : Int)), (AVal.int .u8 (0 : Int)), (AVal.int .u8 (0 : Int)), (AVal.int .u8 (0 : Int)), (AVal.int .u8 (0 : Int)), (AVal.int .u8 (0 : Int)), (AVal.int .u8 (0 : Int)), (AVal.int .u8 (0 : Int)), (AVal.int .u8 (0 : Int)), (AVal.int .u8 (0 : Int)), (AVal.int .u8 (0 : Int)), (AVal.int .u8 (0 : Int)), (AVal.int .u8 (0 : Int)), (AVal.int .u8 (0 : Int)), (AVal.int .u8 (0 : Int)), (AVal.int .u8 (0 : Int)), (AVal.int .u8 (0 : Int)), (AVal.int .u8 (0 : Int))]))))).bind fun p3 =>
    k_strconv_FormatInt_0 fuel d p3.1 p3.2.1 p3.2.2))) else ((run fuel d F_strconv_formatBits [(AVal.slice Sl.nil), (AVal.int .u64 (IntKind.wrap .u64 x0)), (AVal.int .i64 x1), (AVal.bool (decide (x0 < (0 : Int)))), (AVal.bool false)] h).bind fun r4 =>
    (bif AVal.isTup 2 r4.1 then ((AVal.comp 0 r4.1).bind fun u5 =>
    (AVal.slice? u5).bind fun s6 =>
    (AVal.comp 1 r4.1).bind fun u7 =>
    (AVal.str? u7).bind fun s8 =>
    some ((AVal.str s8), r4.2)) else none))) := by
  generalize hh : run = R
  rw [run_is] at hh
  subst hh
  generalize hh : brun = R
  rw [brun_is] at hh
  subst hh
  generalize hh : k_strconv_FormatInt_0 = R
  rw [k_strconv_FormatInt_0_is] at hh
  subst hh
  kernel_rfl

theorem k_strconv_FormatInt_0_n (fuel d : Nat) (x0 : Int) (x5 : Pt) (x6 : Int) (h : AHeap) :
    k_strconv_FormatInt_0 fuel d .normal [(0, (AVal.int .i64 x0)), (5, (AVal.ptr x5)), (6, (AVal.int .u64 x6))] h =
  (run fuel d F_strconv_numDigits [(AVal.int .u64 x6)] h).bind fun r1 =>
    (AVal.int? .i64 r1.1).bind fun n2 =>
    (Pt.mk? x5).bind fun rl3 =>
    (aHi (some (AVal.int .i64 (IntKind.wrap .i64 ((1 : Int) + n2)))) 24).bind fun hi4 =>
    (aLo (some (AVal.int .i64 (1 : Int))) hi4).bind fun lo5 =>
    (aMx (none : Option AVal) hi4).bind fun cl6 =>
    (bif (AHeap.hasSz r1.2 1 (Sl.mk rl3.1 24 false) && Nat.ble (rl3.1.off + 24 * 1) rl3.2) then ((run fuel d F_strconv_formatBase10 [(AVal.slice (Sl.mk ⟨rl3.1.id, rl3.1.gen, rl3.1.off + lo5 * 1⟩ (hi4 - lo5) cl6)), (AVal.int .u64 x6)] r1.2).bind fun r7 =>
    (bif (decide (x0 < (0 : Int))) then ((Pt.elem 1 24 (0 : Int) x5).bind fun p8 =>
    (AHeap.storeAt r7.2 [(AVal.int .u8 (45 : Int))] p8).bind fun h9 =>
    (Pt.mk? x5).bind fun rl10 =>
    (aHi (some (AVal.int .i64 (IntKind.wrap .i64 ((1 : Int) + n2)))) 24).bind fun hi11 =>
    (aLo (none : Option AVal) hi11).bind fun lo12 =>
    (aMx (none : Option AVal) hi11).bind fun cl13 =>
    (bif (AHeap.hasSz h9 1 (Sl.mk rl10.1 24 false) && Nat.ble (rl10.1.off + 24 * 1) rl10.2) then ((AHeap.sliceCells h9 1 (Sl.mk ⟨rl10.1.id, rl10.1.gen, rl10.1.off + lo12 * 1⟩ (hi11 - lo12) cl13)).bind fun c14 =>
    (bytesFrom c14).bind fun bs15 =>
    some ((AVal.str (⟨List.toArray bs15⟩ : ByteArray)), h9)) else (none))) else ((Pt.mk? x5).bind fun rl16 =>
    (aHi (some (AVal.int .i64 (IntKind.wrap .i64 ((1 : Int) + n2)))) 24).bind fun hi17 =>
    (aLo (some (AVal.int .i64 (1 : Int))) hi17).bind fun lo18 =>
    (aMx (none : Option AVal) hi17).bind fun cl19 =>
    (bif (AHeap.hasSz r7.2 1 (Sl.mk rl16.1 24 false) && Nat.ble (rl16.1.off + 24 * 1) rl16.2) then ((AHeap.sliceCells r7.2 1 (Sl.mk ⟨rl16.1.id, rl16.1.gen, rl16.1.off + lo18 * 1⟩ (hi17 - lo18) cl19)).bind fun c20 =>
    (bytesFrom c20).bind fun bs21 =>
    some ((AVal.str (⟨List.toArray bs21⟩ : ByteArray)), r7.2)) else (none))))) else (none)) := by
  generalize hh : run = R
  rw [run_is] at hh
  subst hh
  generalize hh : k_strconv_FormatInt_0 = R
  rw [k_strconv_FormatInt_0_is] at hh
  subst hh
  kernel_rfl

noncomputable def s_internal_strconv_Atoi_0 (fuel d : Nat) : Run := fun fr h k => aexec (Cf fuel F_internal_strconv_Atoi) false (acall (C fuel) false d) (acall (C fuel) true d) 77 (csub [true, true, false, true, false, true, true, true, false, true, false, false] (fbody Go.Proofs.Tryd.f84)) (asub [true, true, false, true, false, true, true, true, false, true, false, false] an84) fr h k

noncomputable def l_internal_strconv_Atoi_0r (fuel d : Nat) (n : Nat) (fr : Fr) (h : AHeap) : Option (AExit × Fr × AHeap) := aloop (s_internal_strconv_Atoi_0 fuel d) (some [5, 6, 47, 48, 49]) n fr h (kOut [2, 3, 5, 6])

noncomputable def l_internal_strconv_Atoi_0 : Nat → Nat → Nat → Fr → AHeap → Option (AExit × Fr × AHeap) := hide l_internal_strconv_Atoi_0r

theorem l_internal_strconv_Atoi_0_is : l_internal_strconv_Atoi_0 = l_internal_strconv_Atoi_0r := hide_eq _

noncomputable def k_internal_strconv_Atoi_0r (fuel d : Nat) : AExit → Fr → AHeap → Option (AVal × AHeap) := (kBlock 0 (kSeq (Cf fuel F_internal_strconv_Atoi) false (acall (C fuel) false d) (acall (C fuel) true d) 77 (csub [true, true, false, true, false, true, true, true, true] (fbody Go.Proofs.Tryd.f84)) (asub [true, true, false, true, false, true, true, true, true] an84) (kSeq (Cf fuel F_internal_strconv_Atoi) false (acall (C fuel) false d) (acall (C fuel) true d) 77 (csub [true, true, true] (fbody Go.Proofs.Tryd.f84)) (asub [true, true, true] an84) (kRet (Cf fuel F_internal_strconv_Atoi) Go.Proofs.Tryd.f84.results.toList))))

noncomputable def k_internal_strconv_Atoi_0 : Nat → Nat → AExit → Fr → AHeap → Option (AVal × AHeap) := hide k_internal_strconv_Atoi_0r

theorem k_internal_strconv_Atoi_0_is : k_internal_strconv_Atoi_0 = k_internal_strconv_Atoi_0r := hide_eq _

noncomputable def k_internal_strconv_Atoi_1r (fuel d : Nat) : AExit → Fr → AHeap → Option (AVal × AHeap) := (kSeq (Cf fuel F_internal_strconv_Atoi) false (acall (C fuel) false d) (acall (C fuel) true d) 77 (csub [true, true, false, true, false, true, true, true, true, true] (fbody Go.Proofs.Tryd.f84)) (asub [true, true, false, true, false, true, true, true, true, true] an84) (kSeq (Cf fuel F_internal_strconv_Atoi) false (acall (C fuel) false d) (acall (C fuel) true d) 77 (csub [true, true, true] (fbody Go.Proofs.Tryd.f84)) (asub [true, true, true] an84) (kRet (Cf fuel F_internal_strconv_Atoi) Go.Proofs.Tryd.f84.results.toList)))

noncomputable def k_internal_strconv_Atoi_1 : Nat → Nat → AExit → Fr → AHeap → Option (AVal × AHeap) := hide k_internal_strconv_Atoi_1r

theorem k_internal_strconv_Atoi_1_is : k_internal_strconv_Atoi_1 = k_internal_strconv_Atoi_1r := hide_eq _

theorem e_internal_strconv_Atoi (fuel d : Nat) (x0 : ByteArray) (h : AHeap) :
    brun fuel (d + 1) F_internal_strconv_Atoi [(AVal.str x0)] h =
  ((bif (false == true) then (some ((AVal.bool (bif (decide ((0 : Int) < ((ByteArray.size x0 : Nat) : Int))) then (decide (((ByteArray.size x0 : Nat) : Int) < (10 : Int))) else false)), h)) else (some ((AVal.bool false), h)) : Option (AVal × AHeap))).bind fun r1 =>
    (AVal.bool? r1.1).bind fun b2 =>
    ((bif (b2 == false) then (((bif (true == true) then (some ((AVal.bool (bif (decide ((0 : Int) < ((ByteArray.size x0 : Nat) : Int))) then (decide (((ByteArray.size x0 : Nat) : Int) < (19 : Int))) else false)), r1.2)) else (some ((AVal.bool false), r1.2)) : Option (AVal × AHeap))).bind fun r3 =>
    (AVal.bool? r3.1).bind fun b4 =>
    some ((AVal.bool b4), r3.2)) else (some ((AVal.bool true), r1.2)) : Option (AVal × AHeap))).bind fun r5 =>
    (AVal.bool? r5.1).bind fun b6 =>
    (bif b6 then ((strAt x0 (0 : Int)).bind fun n7 =>
    ((bif ((decide (n7 = (45 : Int))) == false) then ((strAt x0 (0 : Int)).bind fun n8 =>
    some ((AVal.bool (decide (n8 = (43 : Int)))), r5.2)) else (some ((AVal.bool true), r5.2)) : Option (AVal × AHeap))).bind fun r9 =>
    (AVal.bool? r9.1).bind fun b10 =>
    (bif b10 then ((aHi (none : Option AVal) (ByteArray.size x0)).bind fun hi11 =>
    (aLo (some (AVal.int .i64 (1 : Int))) hi11).bind fun lo12 =>
    (bif (decide (((ByteArray.size (ByteArray.extract x0 lo12 hi11) : Nat) : Int) < (1 : Int))) then (some ((AVal.tup [(AVal.int .i64 (0 : Int)), (AVal.iface T_strconv_Error (AVal.int .i64 (2 : Int)))]), r9.2)) else ((l_internal_strconv_Atoi_0 fuel d fuel [(5, (AVal.str x0)), (6, (AVal.int .i64 (0 : Int))), (47, (AVal.slice (Sl.mk ⟨AHeap.next r9.2, 0, 0⟩ (ByteArray.size (ByteArray.extract x0 lo12 hi11)) false))), (48, (AVal.int .i64 (((Sl.mk ⟨AHeap.next r9.2, 0, 0⟩ (ByteArray.size (ByteArray.extract x0 lo12 hi11)) false).len : Nat) : Int))), (49, (AVal.int .i64 (0 : Int)))] (AHeap.push r9.2 1 (bytesOf (ByteArray.extract x0 lo12 hi11)))).bind fun p13 =>
    k_internal_strconv_Atoi_0 fuel d p13.1 p13.2.1 p13.2.2))) else ((l_internal_strconv_Atoi_0 fuel d fuel [(5, (AVal.str x0)), (6, (AVal.int .i64 (0 : Int))), (47, (AVal.slice (Sl.mk ⟨AHeap.next r9.2, 0, 0⟩ (ByteArray.size x0) false))), (48, (AVal.int .i64 (((Sl.mk ⟨AHeap.next r9.2, 0, 0⟩ (ByteArray.size x0) false).len : Nat) : Int))), (49, (AVal.int .i64 (0 : Int)))] (AHeap.push r9.2 1 (bytesOf x0))).bind fun p14 =>
    k_internal_strconv_Atoi_0 fuel d p14.1 p14.2.1 p14.2.2))) else ((run fuel d F_strconv_ParseInt [(AVal.str x0), (AVal.int .i64 (10 : Int)), (AVal.int .i64 (0 : Int))] r5.2).bind fun r15 =>
    (bif AVal.isTup 2 r15.1 then ((AVal.comp 0 r15.1).bind fun u16 =>
    (AVal.int? .i64 u16).bind fun n17 =>
    (AVal.comp 1 r15.1).bind fun u18 =>
    some ((AVal.tup [(AVal.int .i64 n17), u18]), r15.2)) else none))) := by
  generalize hh : run = R
  rw [run_is] at hh
  subst hh
  generalize hh : brun = R
  rw [brun_is] at hh
  subst hh
  generalize hh : l_internal_strconv_Atoi_0 = R
  rw [l_internal_strconv_Atoi_0_is] at hh
  subst hh
  generalize hh : k_internal_strconv_Atoi_0 = R
  rw [k_internal_strconv_Atoi_0_is] at hh
  subst hh
  kernel_rfl

theorem l_internal_strconv_Atoi_0_eq (fuel d : Nat) (n : Nat) (x5 : ByteArray) (x6 : Int) (x47 : Sl) (x48 : Int) (x49 : Int) (h : AHeap) :
    l_internal_strconv_Atoi_0 fuel d (n + 1) [(5, (AVal.str x5)), (6, (AVal.int .i64 x6)), (47, (AVal.slice x47)), (48, (AVal.int .i64 x48)), (49, (AVal.int .i64 x49))] h =
  (bif (decide (x49 < x48)) then ((AHeap.addr h 1 x47 x49).bind fun p1 =>
    (AHeap.cell h p1).bind fun u2 =>
    (AVal.int? .u8 u2).bind fun n3 =>
    (bif (decide ((9 : Int) < (IntKind.wrap .u8 (n3 - (48 : Int))))) then (some (.ret, [(2, (AVal.int .i64 (0 : Int))), (3, (AVal.iface T_strconv_Error (AVal.int .i64 (2 : Int)))), (5, (AVal.str x5)), (6, (AVal.int .i64 x6))], h)) else (l_internal_strconv_Atoi_0 fuel d n [(5, (AVal.str x5)), (6, (AVal.int .i64 (IntKind.wrap .i64 ((IntKind.wrap .i64 (x6 * (10 : Int))) + (IntKind.wrap .i64 (IntKind.wrap .u8 (n3 - (48 : Int)))))))), (47, (AVal.slice x47)), (48, (AVal.int .i64 x48)), (49, (AVal.int .i64 (IntKind.wrap .i64 (x49 + (1 : Int)))))] h))) else (some ((.exit 0), [(2, AVal.bot), (3, AVal.bot), (5, (AVal.str x5)), (6, (AVal.int .i64 x6))], h))) := by
  generalize hh : l_internal_strconv_Atoi_0 = R
  rw [l_internal_strconv_Atoi_0_is] at hh
  subst hh
  kernel_rfl

theorem k_internal_strconv_Atoi_0_x0 (fuel d : Nat) (x2 : AVal) (x3 : AVal) (x5 : ByteArray) (x6 : Int) (h : AHeap) :
    k_internal_strconv_Atoi_0 fuel d (.exit 0) [(2, x2), (3, x3), (5, (AVal.str x5)), (6, (AVal.int .i64 x6))] h =
  (strAt x5 (0 : Int)).bind fun n1 =>
    ((bif (decide (n1 = (45 : Int))) then (some (.normal, [(6, (AVal.int .i64 (IntKind.wrap .i64 (0 - x6))))], h)) else (some (.normal, [(6, (AVal.int .i64 x6))], h)))).bind fun p2 =>
    k_internal_strconv_Atoi_1 fuel d p2.1 p2.2.1 p2.2.2 := by
  generalize hh : k_internal_strconv_Atoi_0 = R
  rw [k_internal_strconv_Atoi_0_is] at hh
  subst hh
  generalize hh : k_internal_strconv_Atoi_1 = R
  rw [k_internal_strconv_Atoi_1_is] at hh
  subst hh
  kernel_rfl

theorem k_internal_strconv_Atoi_1_n (fuel d : Nat) (x6 : Int) (h : AHeap) :
    k_internal_strconv_Atoi_1 fuel d .normal [(6, (AVal.int .i64 x6))] h =
  some ((AVal.tup [(AVal.int .i64 x6), AVal.nilif]), h) := by
  generalize hh : k_internal_strconv_Atoi_1 = R
  rw [k_internal_strconv_Atoi_1_is] at hh
  subst hh
  kernel_rfl

theorem e_strconv_small (fuel d : Nat) (x0 : Int) (h : AHeap) :
    brun fuel (d + 1) F_strconv_small [(AVal.int .i64 x0)] h =
  (bif (decide (x0 < (10 : Int))) then ((aHi (some (AVal.int .i64 (IntKind.wrap .i64 (x0 + (1 : Int))))) (ByteArray.size bstr_e9b1713d)).bind fun hi1 =>
    (aLo (some (AVal.int .i64 x0)) hi1).bind fun lo2 =>
    some ((AVal.str (ByteArray.extract bstr_e9b1713d lo2 hi1)), h)) else ((aHi (some (AVal.int .i64 (IntKind.wrap .i64 ((IntKind.wrap .i64 (x0 * (2 : Int))) + (2 : Int))))) (ByteArray.size bstr_db3e2f51)).bind fun hi3 =>
    (aLo (some (AVal.int .i64 (IntKind.wrap .i64 (x0 * (2 : Int))))) hi3).bind fun lo4 =>
    some ((AVal.str (ByteArray.extract bstr_db3e2f51 lo4 hi3)), h))) := by
  generalize hh : brun = R
  rw [brun_is] at hh
  subst hh
  kernel_rfl

theorem e_strconv_numDigits (fuel d : Nat) (x0 : Int) (h : AHeap) :
    brun fuel (d + 1) F_strconv_numDigits [(AVal.int .u64 x0)] h =
  (run fuel d F_bits_Len64 [(AVal.int .u64 x0)] h).bind fun r1 =>
    (AVal.int? .i64 r1.1).bind fun n2 =>
    (run fuel d F_strconv_log10Pow2 [(AVal.int .i64 n2)] r1.2).bind fun r3 =>
    (AVal.int? .i64 r3.1).bind fun n4 =>
    (Pt.elem 1 20 n4 (Pt.fp 0 tab_strconv_uint64pow10)).bind fun p5 =>
    (AHeap.cell r3.2 p5).bind fun u6 =>
    (AVal.int? .u64 u6).bind fun n7 =>
    (run fuel d F_strconv_bool2_int [(AVal.bool (decide (n7 ≤ x0)))] r3.2).bind fun r8 =>
    (AVal.int? .i64 r8.1).bind fun n9 =>
    some ((AVal.int .i64 (IntKind.wrap .i64 (n4 + n9))), r8.2) := by
  generalize hh : run = R
  rw [run_is] at hh
  subst hh
  generalize hh : brun = R
  rw [brun_is] at hh
  subst hh
  kernel_rfl

noncomputable def s_strconv_formatBase10_0 (fuel d : Nat) : Run := fun fr h k => aexec (Cf fuel F_strconv_formatBase10) false (acall (C fuel) false d) (acall (C fuel) true d) 167 (csub [true, false, false, false] (fbody Go.Proofs.Tryd.f88)) (asub [true, false, false, false] an88) fr h k

noncomputable def l_strconv_formatBase10_0r (fuel d : Nat) (n : Nat) (fr : Fr) (h : AHeap) : Option (AExit × Fr × AHeap) := aloop (s_strconv_formatBase10_0 fuel d) (some [0, 1, 4]) n fr h (kOut [0, 1, 4])

noncomputable def l_strconv_formatBase10_0 : Nat → Nat → Nat → Fr → AHeap → Option (AExit × Fr × AHeap) := hide l_strconv_formatBase10_0r

theorem l_strconv_formatBase10_0_is : l_strconv_formatBase10_0 = l_strconv_formatBase10_0r := hide_eq _

noncomputable def k_strconv_formatBase10_0r (fuel d : Nat) : AExit → Fr → AHeap → Option (AVal × AHeap) := (kBlock 0 (kSeq (Cf fuel F_strconv_formatBase10) false (acall (C fuel) false d) (acall (C fuel) true d) 167 (csub [true, true] (fbody Go.Proofs.Tryd.f88)) (asub [true, true] an88) (kRet (Cf fuel F_strconv_formatBase10) Go.Proofs.Tryd.f88.results.toList)))

noncomputable def k_strconv_formatBase10_0 : Nat → Nat → AExit → Fr → AHeap → Option (AVal × AHeap) := hide k_strconv_formatBase10_0r

theorem k_strconv_formatBase10_0_is : k_strconv_formatBase10_0 = k_strconv_formatBase10_0r := hide_eq _

noncomputable def k_strconv_formatBase10_1r (fuel d : Nat) : AExit → Fr → AHeap → Option (AVal × AHeap) := (kSeq (Cf fuel F_strconv_formatBase10) false (acall (C fuel) false d) (acall (C fuel) true d) 167 (csub [true, true, true, true] (fbody Go.Proofs.Tryd.f88)) (asub [true, true, true, true] an88) (kRet (Cf fuel F_strconv_formatBase10) Go.Proofs.Tryd.f88.results.toList))

noncomputable def k_strconv_formatBase10_1 : Nat → Nat → AExit → Fr → AHeap → Option (AVal × AHeap) := hide k_strconv_formatBase10_1r

theorem k_strconv_formatBase10_1_is : k_strconv_formatBase10_1 = k_strconv_formatBase10_1r := hide_eq _

noncomputable def k_strconv_formatBase10_2r (fuel d : Nat) : AExit → Fr → AHeap → Option (AVal × AHeap) := (kSeq (Cf fuel F_strconv_formatBase10) false (acall (C fuel) false d) (acall (C fuel) true d) 167 (csub [true, true, true, true, true] (fbody Go.Proofs.Tryd.f88)) (asub [true, true, true, true, true] an88) (kRet (Cf fuel F_strconv_formatBase10) Go.Proofs.Tryd.f88.results.toList))

noncomputable def k_strconv_formatBase10_2 : Nat → Nat → AExit → Fr → AHeap → Option (AVal × AHeap) := hide k_strconv_formatBase10_2r

theorem k_strconv_formatBase10_2_is : k_strconv_formatBase10_2 = k_strconv_formatBase10_2r := hide_eq _

theorem e_strconv_formatBase10 (fuel d : Nat) (x0 : Sl) (x1 : Int) (h : AHeap) :
    run fuel (d + 1) F_strconv_formatBase10 [(AVal.slice x0), (AVal.int .u64 x1)] h =
  (l_strconv_formatBase10_0 fuel d fuel [(0, (AVal.slice x0)), (1, (AVal.int .u64 x1)), (4, (AVal.int .i64 ((x0.len : Nat) : Int)))] h).bind fun p1 =>
    k_strconv_formatBase10_0 fuel d p1.1 p1.2.1 p1.2.2 := by
  generalize hh : run = R
  rw [run_is] at hh
  subst hh
  generalize hh : l_strconv_formatBase10_0 = R
  rw [l_strconv_formatBase10_0_is] at hh
  subst hh
  generalize hh : k_strconv_formatBase10_0 = R
  rw [k_strconv_formatBase10_0_is] at hh
  subst hh
  kernel_rfl

theorem l_strconv_formatBase10_0_eq (fuel d : Nat) (n : Nat) (x0 : Sl) (x1 : Int) (x4 : Int) (h : AHeap) :
    l_strconv_formatBase10_0 fuel d (n + 1) [(0, (AVal.slice x0)), (1, (AVal.int .u64 x1)), (4, (AVal.int .i64 x4))] h =
  (bif (decide ((8 : Int) ≤ x4)) then ((strAt bstr_db3e2f51 (IntKind.wrap .u32 ((IntKind.wrap .u32 ((Int.tmod (Int.tmod (IntKind.wrap .u32 (Int.tmod x1 (100000000 : Int))) (10000 : Int)) (100 : Int)) * (2 : Int))) + (1 : Int)))).bind fun n1 =>
    (strAt bstr_db3e2f51 (IntKind.wrap .u32 ((Int.tmod (Int.tmod (IntKind.wrap .u32 (Int.tmod x1 (100000000 : Int))) (10000 : Int)) (100 : Int)) * (2 : Int)))).bind fun n2 =>
    (AHeap.addr h 1 x0 (IntKind.wrap .i64 (x4 - (1 : Int)))).bind fun p3 =>
    (AHeap.storeAt h [(AVal.int .u8 n1)] p3).bind fun h4 =>
    (AHeap.addr h4 1 x0 (IntKind.wrap .i64 (x4 - (2 : Int)))).bind fun p5 =>
    (AHeap.storeAt h4 [(AVal.int .u8 n2)] p5).bind fun h6 =>
    (strAt bstr_db3e2f51 (IntKind.wrap .u32 ((IntKind.wrap .u32 ((IntKind.wrap .u32 (Int.tdiv (Int.tmod (IntKind.wrap .u32 (Int.tmod x1 (100000000 : Int))) (10000 : Int)) (100 : Int))) * (2 : Int))) + (1 : Int)))).bind fun n7 =>
    (strAt bstr_db3e2f51 (IntKind.wrap .u32 ((IntKind.wrap .u32 (Int.tdiv (Int.tmod (IntKind.wrap .u32 (Int.tmod x1 (100000000 : Int))) (10000 : Int)) (100 : Int))) * (2 : Int)))).bind fun n8 =>
    (AHeap.addr h6 1 x0 (IntKind.wrap .i64 (x4 - (3 : Int)))).bind fun p9 =>
    (AHeap.storeAt h6 [(AVal.int .u8 n7)] p9).bind fun h10 =>
    (AHeap.addr h10 1 x0 (IntKind.wrap .i64 (x4 - (4 : Int)))).bind fun p11 =>
    (AHeap.storeAt h10 [(AVal.int .u8 n8)] p11).bind fun h12 =>
    (strAt bstr_db3e2f51 (IntKind.wrap .u32 ((IntKind.wrap .u32 ((Int.tmod (IntKind.wrap .u32 (Int.tdiv (IntKind.wrap .u32 (Int.tmod x1 (100000000 : Int))) (10000 : Int))) (100 : Int)) * (2 : Int))) + (1 : Int)))).bind fun n13 =>
    (strAt bstr_db3e2f51 (IntKind.wrap .u32 ((Int.tmod (IntKind.wrap .u32 (Int.tdiv (IntKind.wrap .u32 (Int.tmod x1 (100000000 : Int))) (10000 : Int))) (100 : Int)) * (2 : Int)))).bind fun n14 =>
    (AHeap.addr h12 1 x0 (IntKind.wrap .i64 (x4 - (5 : Int)))).bind fun p15 =>
    (AHeap.storeAt h12 [(AVal.int .u8 n13)] p15).bind fun h16 =>
    (AHeap.addr h16 1 x0 (IntKind.wrap .i64 (x4 - (6 : Int)))).bind fun p17 =>
    (AHeap.storeAt h16 [(AVal.int .u8 n14)] p17).bind fun h18 =>
    (strAt bstr_db3e2f51 (IntKind.wrap .u32 ((IntKind.wrap .u32 ((IntKind.wrap .u32 (Int.tdiv (IntKind.wrap .u32 (Int.tdiv (IntKind.wrap .u32 (Int.tmod x1 (100000000 : Int))) (10000 : Int))) (100 : Int))) * (2 : Int))) + (1 : Int)))).bind fun n19 =>
    (strAt bstr_db3e2f51 (IntKind.wrap .u32 ((IntKind.wrap .u32 (Int.tdiv (IntKind.wrap .u32 (Int.tdiv (IntKind.wrap .u32 (Int.tmod x1 (100000000 : Int))) (10000 : Int))) (100 : Int))) * (2 : Int)))).bind fun n20 =>
    (AHeap.addr h18 1 x0 (IntKind.wrap .i64 (x4 - (7 : Int)))).bind fun p21 =>
    (AHeap.storeAt h18 [(AVal.int .u8 n19)] p21).bind fun h22 =>
    (AHeap.addr h22 1 x0 (IntKind.wrap .i64 (x4 - (8 : Int)))).bind fun p23 =>
    (AHeap.storeAt h22 [(AVal.int .u8 n20)] p23).bind fun h24 =>
    l_strconv_formatBase10_0 fuel d n [(0, (AVal.slice x0)), (1, (AVal.int .u64 (IntKind.wrap .u64 (Int.tdiv x1 (100000000 : Int))))), (4, (AVal.int .i64 (IntKind.wrap .i64 (x4 - (8 : Int)))))] h24) else (some ((.exit 0), [(0, (AVal.slice x0)), (1, (AVal.int .u64 x1)), (4, (AVal.int .i64 x4))], h))) := by
  generalize hh : l_strconv_formatBase10_0 = R
  rw [l_strconv_formatBase10_0_is] at hh
  subst hh
  kernel_rfl

theorem k_strconv_formatBase10_0_x0 (fuel d : Nat) (x0 : Sl) (x1 : Int) (x4 : Int) (h : AHeap) :
    k_strconv_formatBase10_0 fuel d (.exit 0) [(0, (AVal.slice x0)), (1, (AVal.int .u64 x1)), (4, (AVal.int .i64 x4))] h =
  ((bif (decide ((4 : Int) ≤ x4)) then ((strAt bstr_db3e2f51 (IntKind.wrap .u32 ((IntKind.wrap .u32 ((Int.tmod (Int.tmod (IntKind.wrap .u32 x1) (10000 : Int)) (100 : Int)) * (2 : Int))) + (1 : Int)))).bind fun n1 =>
    (strAt bstr_db3e2f51 (IntKind.wrap .u32 ((Int.tmod (Int.tmod (IntKind.wrap .u32 x1) (10000 : Int)) (100 : Int)) * (2 : Int)))).bind fun n2 =>
    (AHeap.addr h 1 x0 (IntKind.wrap .i64 (x4 - (1 : Int)))).bind fun p3 =>
    (AHeap.storeAt h [(AVal.int .u8 n1)] p3).bind fun h4 =>
    (AHeap.addr h4 1 x0 (IntKind.wrap .i64 (x4 - (2 : Int)))).bind fun p5 =>
    (AHeap.storeAt h4 [(AVal.int .u8 n2)] p5).bind fun h6 =>
    (strAt bstr_db3e2f51 (IntKind.wrap .u32 ((IntKind.wrap .u32 ((IntKind.wrap .u32 (Int.tdiv (Int.tmod (IntKind.wrap .u32 x1) (10000 : Int)) (100 : Int))) * (2 : Int))) + (1 : Int)))).bind fun n7 =>
    (strAt bstr_db3e2f51 (IntKind.wrap .u32 ((IntKind.wrap .u32 (Int.tdiv (Int.tmod (IntKind.wrap .u32 x1) (10000 : Int)) (100 : Int))) * (2 : Int)))).bind fun n8 =>
    (AHeap.addr h6 1 x0 (IntKind.wrap .i64 (x4 - (3 : Int)))).bind fun p9 =>
    (AHeap.storeAt h6 [(AVal.int .u8 n7)] p9).bind fun h10 =>
    (AHeap.addr h10 1 x0 (IntKind.wrap .i64 (x4 - (4 : Int)))).bind fun p11 =>
    (AHeap.storeAt h10 [(AVal.int .u8 n8)] p11).bind fun h12 =>
    some (.normal, [(0, (AVal.slice x0)), (4, (AVal.int .i64 (IntKind.wrap .i64 (x4 - (4 : Int))))), (12, (AVal.int .u32 (IntKind.wrap .u32 (Int.tdiv (IntKind.wrap .u32 x1) (10000 : Int)))))], h12)) else (some (.normal, [(0, (AVal.slice x0)), (4, (AVal.int .i64 x4)), (12, (AVal.int .u32 (IntKind.wrap .u32 x1)))], h)))).bind fun p13 =>
    k_strconv_formatBase10_1 fuel d p13.1 p13.2.1 p13.2.2 := by
  generalize hh : k_strconv_formatBase10_0 = R
  rw [k_strconv_formatBase10_0_is] at hh
  subst hh
  generalize hh : k_strconv_formatBase10_1 = R
  rw [k_strconv_formatBase10_1_is] at hh
  subst hh
  kernel_rfl

theorem k_strconv_formatBase10_1_n (fuel d : Nat) (x0 : Sl) (x4 : Int) (x12 : Int) (h : AHeap) :
    k_strconv_formatBase10_1 fuel d .normal [(0, (AVal.slice x0)), (4, (AVal.int .i64 x4)), (12, (AVal.int .u32 x12))] h =
  ((bif (decide ((2 : Int) ≤ x4)) then ((strAt bstr_db3e2f51 (IntKind.wrap .u32 ((IntKind.wrap .u32 ((Int.tmod x12 (100 : Int)) * (2 : Int))) + (1 : Int)))).bind fun n1 =>
    (strAt bstr_db3e2f51 (IntKind.wrap .u32 ((Int.tmod x12 (100 : Int)) * (2 : Int)))).bind fun n2 =>
    (AHeap.addr h 1 x0 (IntKind.wrap .i64 (x4 - (1 : Int)))).bind fun p3 =>
    (AHeap.storeAt h [(AVal.int .u8 n1)] p3).bind fun h4 =>
    (AHeap.addr h4 1 x0 (IntKind.wrap .i64 (x4 - (2 : Int)))).bind fun p5 =>
    (AHeap.storeAt h4 [(AVal.int .u8 n2)] p5).bind fun h6 =>
    some (.normal, [(0, (AVal.slice x0)), (4, (AVal.int .i64 (IntKind.wrap .i64 (x4 - (2 : Int))))), (12, (AVal.int .u32 (IntKind.wrap .u32 (Int.tdiv x12 (100 : Int)))))], h6)) else (some (.normal, [(0, (AVal.slice x0)), (4, (AVal.int .i64 x4)), (12, (AVal.int .u32 x12))], h)))).bind fun p7 =>
    k_strconv_formatBase10_2 fuel d p7.1 p7.2.1 p7.2.2 := by
  generalize hh : k_strconv_formatBase10_1 = R
  rw [k_strconv_formatBase10_1_is] at hh
  subst hh
  generalize hh : k_strconv_formatBase10_2 = R
  rw [k_strconv_formatBase10_2_is] at hh
  subst hh
  kernel_rfl

theorem k_strconv_formatBase10_2_n (fuel d : Nat) (x0 : Sl) (x4 : Int) (x12 : Int) (h : AHeap) :
    k_strconv_formatBase10_2 fuel d .normal [(0, (AVal.slice x0)), (4, (AVal.int .i64 x4)), (12, (AVal.int .u32 x12))] h =
  (bif (decide ((0 : Int) < x4)) then ((AHeap.addr h 1 x0 (0 : Int)).bind fun p1 =>
    (AHeap.storeAt h [(AVal.int .u8 (IntKind.wrap .u8 (IntKind.wrap .u32 ((48 : Int) + x12))))] p1).bind fun h2 =>
    some ((AVal.tup []), h2)) else (some ((AVal.tup []), h))) := by
  generalize hh : k_strconv_formatBase10_2 = R
  rw [k_strconv_formatBase10_2_is] at hh
  subst hh
  kernel_rfl

theorem e_strconv_log10Pow2 (fuel d : Nat) (x0 : Int) (h : AHeap) :
    brun fuel (d + 1) F_strconv_log10Pow2 [(AVal.int .i64 x0)] h =
  some ((AVal.int .i64 (Int.fdiv (IntKind.wrap .i64 (x0 * (78913 : Int))) (2 ^ min (Int.toNat (18 : Int)) (IntKind.bits .i64)))), h) := by
  generalize hh : brun = R
  rw [brun_is] at hh
  subst hh
  kernel_rfl

noncomputable def k_bits_Len64_0r (fuel d : Nat) : AExit → Fr → AHeap → Option (AVal × AHeap) := (kSeq (Cf fuel F_bits_Len64) false (acall (C fuel) false d) (acall (C fuel) true d) 25 (csub [true, true] (fbody Go.Proofs.Tryd.f97)) (asub [true, true] an97) (kRet (Cf fuel F_bits_Len64) Go.Proofs.Tryd.f97.results.toList))

noncomputable def k_bits_Len64_0 : Nat → Nat → AExit → Fr → AHeap → Option (AVal × AHeap) := hide k_bits_Len64_0r

theorem k_bits_Len64_0_is : k_bits_Len64_0 = k_bits_Len64_0r := hide_eq _

noncomputable def k_bits_Len64_1r (fuel d : Nat) : AExit → Fr → AHeap → Option (AVal × AHeap) := (kSeq (Cf fuel F_bits_Len64) false (acall (C fuel) false d) (acall (C fuel) true d) 25 (csub [true, true, true] (fbody Go.Proofs.Tryd.f97)) (asub [true, true, true] an97) (kRet (Cf fuel F_bits_Len64) Go.Proofs.Tryd.f97.results.toList))

noncomputable def k_bits_Len64_1 : Nat → Nat → AExit → Fr → AHeap → Option (AVal × AHeap) := hide k_bits_Len64_1r

theorem k_bits_Len64_1_is : k_bits_Len64_1 = k_bits_Len64_1r := hide_eq _

noncomputable def k_bits_Len64_2r (fuel d : Nat) : AExit → Fr → AHeap → Option (AVal × AHeap) := (kSeq (Cf fuel F_bits_Len64) false (acall (C fuel) false d) (acall (C fuel) true d) 25 (csub [true, true, true, true] (fbody Go.Proofs.Tryd.f97)) (asub [true, true, true, true] an97) (kRet (Cf fuel F_bits_Len64) Go.Proofs.Tryd.f97.results.toList))

noncomputable def k_bits_Len64_2 : Nat → Nat → AExit → Fr → AHeap → Option (AVal × AHeap) := hide k_bits_Len64_2r

theorem k_bits_Len64_2_is : k_bits_Len64_2 = k_bits_Len64_2r := hide_eq _

theorem e_bits_Len64 (fuel d : Nat) (x0 : Int) (h : AHeap) :
    brun fuel (d + 1) F_bits_Len64 [(AVal.int .u64 x0)] h =
  ((bif (decide ((4294967296 : Int) ≤ x0)) then (some (.normal, [(0, (AVal.int .u64 (Int.fdiv x0 (2 ^ min (Int.toNat (32 : Int)) (IntKind.bits .u64))))), (2, (AVal.int .i64 (32 : Int)))], h)) else (some (.normal, [(0, (AVal.int .u64 x0)), (2, (AVal.int .i64 (0 : Int)))], h)))).bind fun p1 =>
    k_bits_Len64_0 fuel d p1.1 p1.2.1 p1.2.2 := by
  generalize hh : brun = R
  rw [brun_is] at hh
  subst hh
  generalize hh : k_bits_Len64_0 = R
  rw [k_bits_Len64_0_is] at hh
  subst hh
  kernel_rfl

theorem k_bits_Len64_0_n (fuel d : Nat) (x0 : Int) (x2 : Int) (h : AHeap) :
    k_bits_Len64_0 fuel d .normal [(0, (AVal.int .u64 x0)), (2, (AVal.int .i64 x2))] h =
  ((bif (decide ((65536 : Int) ≤ x0)) then (some (.normal, [(0, (AVal.int .u64 (Int.fdiv x0 (2 ^ min (Int.toNat (16 : Int)) (IntKind.bits .u64))))), (2, (AVal.int .i64 (IntKind.wrap .i64 (x2 + (16 : Int)))))], h)) else (some (.normal, [(0, (AVal.int .u64 x0)), (2, (AVal.int .i64 x2))], h)))).bind fun p1 =>
    k_bits_Len64_1 fuel d p1.1 p1.2.1 p1.2.2 := by
  generalize hh : k_bits_Len64_0 = R
  rw [k_bits_Len64_0_is] at hh
  subst hh
  generalize hh : k_bits_Len64_1 = R
  rw [k_bits_Len64_1_is] at hh
  subst hh
  kernel_rfl

theorem k_bits_Len64_1_n (fuel d : Nat) (x0 : Int) (x2 : Int) (h : AHeap) :
    k_bits_Len64_1 fuel d .normal [(0, (AVal.int .u64 x0)), (2, (AVal.int .i64 x2))] h =
  ((bif (decide ((256 : Int) ≤ x0)) then (some (.normal, [(0, (AVal.int .u64 (Int.fdiv x0 (2 ^ min (Int.toNat (8 : Int)) (IntKind.bits .u64))))), (2, (AVal.int .i64 (IntKind.wrap .i64 (x2 + (8 : Int)))))], h)) else (some (.normal, [(0, (AVal.int .u64 x0)), (2, (AVal.int .i64 x2))], h)))).bind fun p1 =>
    k_bits_Len64_2 fuel d p1.1 p1.2.1 p1.2.2 := by
  generalize hh : k_bits_Len64_1 = R
  rw [k_bits_Len64_1_is] at hh
  subst hh
  generalize hh : k_bits_Len64_2 = R
  rw [k_bits_Len64_2_is] at hh
  subst hh
  kernel_rfl

theorem k_bits_Len64_2_n (fuel d : Nat) (x0 : Int) (x2 : Int) (h : AHeap) :
    k_bits_Len64_2 fuel d .normal [(0, (AVal.int .u64 x0)), (2, (AVal.int .i64 x2))] h =
  (strAt bstr_633d862b (IntKind.wrap .u8 x0)).bind fun n1 =>
    some ((AVal.int .i64 (IntKind.wrap .i64 (x2 + (IntKind.wrap .i64 n1)))), h) := by
  generalize hh : k_bits_Len64_2 = R
  rw [k_bits_Len64_2_is] at hh
  subst hh
  kernel_rfl

theorem e_strconv_bool2_int (fuel d : Nat) (x0 : Bool) (h : AHeap) :
    brun fuel (d + 1) F_strconv_bool2_int [(AVal.bool x0)] h =
  (bif x0 then (some ((AVal.int .i64 (1 : Int)), h)) else (some ((AVal.int .i64 (0 : Int)), h))) := by
  generalize hh : brun = R
  rw [brun_is] at hh
  subst hh
  kernel_rfl

theorem e_bytealg_IndexByte (fuel d : Nat) (x0 : Sl) (x1 : Int) (h : AHeap) :
    run fuel d F_bytealg_IndexByte [(AVal.slice x0), (AVal.int .u8 x1)] h =
  (AHeap.sliceCells h 1 x0).bind fun c1 => (bytesFrom c1).bind fun b2 => some ((AVal.int .i64 (Lib.indexByte b2 (Int.toNat x1).toUInt8)), h) := by
  generalize hh : run = R
  rw [run_is] at hh
  subst hh
  cases d <;> kernel_rfl

end Go.Proofs.YtmjbjgbcpaagmaaDoor
