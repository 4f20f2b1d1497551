/-
  What each function does: printed by program, checked by the kernel.
-/
import Derived.Test.YthccobceodgmlaaDoorCtx
namespace Go.Proofs.YthccobceodgmlaaDoor
set_option linter.unusedVariables false
set_option maxRecDepth 100000

/-! 7: skolem/skolemlaw3.WordNumbers -/

noncomputable def s_skolemlaw3_WordNumbers_0 (fuel d : Nat) : Run := fun fr h k => aexec (Cf fuel F_skolemlaw3_WordNumbers) false (acall (C fuel) false d) (acall (C fuel) true d) 117 (csub [true, true, true, true, true, false, true, false, false] (fbody Go.Proofs.Tryd.f7)) (asub [true, true, true, true, true, false, true, false, false] an7) fr h k

noncomputable def l_skolemlaw3_WordNumbers_0r (fuel d : Nat) (n : Nat) (fr : Fr) (h : AHeap) : Option (AExit × Fr × AHeap) := aloop (s_skolemlaw3_WordNumbers_0 fuel d) (some [0, 1, 5, 6, 7]) n fr h (kOut [0, 1, 5, 6])

noncomputable def l_skolemlaw3_WordNumbers_0 : Nat → Nat → Nat → Fr → AHeap → Option (AExit × Fr × AHeap) := hide l_skolemlaw3_WordNumbers_0r

theorem l_skolemlaw3_WordNumbers_0_is : l_skolemlaw3_WordNumbers_0 = l_skolemlaw3_WordNumbers_0r := hide_eq _

noncomputable def k_skolemlaw3_WordNumbers_0r (fuel d : Nat) : AExit → Fr → AHeap → Option (AVal × AHeap) := (kBlock 0 (kSeq (Cf fuel F_skolemlaw3_WordNumbers) false (acall (C fuel) false d) (acall (C fuel) true d) 117 (csub [true, true, true, true, true, true] (fbody Go.Proofs.Tryd.f7)) (asub [true, true, true, true, true, true] an7) (kRet (Cf fuel F_skolemlaw3_WordNumbers) Go.Proofs.Tryd.f7.results.toList)))

noncomputable def k_skolemlaw3_WordNumbers_0 : Nat → Nat → AExit → Fr → AHeap → Option (AVal × AHeap) := hide k_skolemlaw3_WordNumbers_0r

theorem k_skolemlaw3_WordNumbers_0_is : k_skolemlaw3_WordNumbers_0 = k_skolemlaw3_WordNumbers_0r := hide_eq _

theorem e_skolemlaw3_WordNumbers (fuel d : Nat) (x0 : Int) (x1 : Int) (h : AHeap) :
    run fuel (d + 1) F_skolemlaw3_WordNumbers [(AVal.int .i64 x0), (AVal.int .u8 x1)] h =
  (run fuel d F_skolemlaw3_first [] h).bind fun r1 =>
    (AVal.bool? r1.1).bind fun b2 =>
    (bif (!b2) then (some ((AVal.bool false), r1.2)) else ((run fuel d F_skolemworld_Number [(AVal.int .i64 x0), (AVal.int .i64 (1000000000 : Int))] r1.2).bind fun r3 =>
    (AVal.int? .i64 r3.1).bind fun n4 =>
    (l_skolemlaw3_WordNumbers_0 fuel d fuel [(0, (AVal.int .i64 n4)), (1, (AVal.int .u8 x1)), (5, (AVal.bool b2)), (6, (AVal.str (⟨#[]⟩ : ByteArray))), (7, (AVal.int .i64 n4))] r3.2).bind fun p5 =>
    k_skolemlaw3_WordNumbers_0 fuel d p5.1 p5.2.1 p5.2.2)) := by
  generalize hh : run = R
  rw [run_is] at hh
  subst hh
  generalize hh : l_skolemlaw3_WordNumbers_0 = R
  rw [l_skolemlaw3_WordNumbers_0_is] at hh
  subst hh
  generalize hh : k_skolemlaw3_WordNumbers_0 = R
  rw [k_skolemlaw3_WordNumbers_0_is] at hh
  subst hh
  kernel_rfl

theorem l_skolemlaw3_WordNumbers_0_eq (fuel d : Nat) (n : Nat) (x0 : Int) (x1 : Int) (x5 : Bool) (x6 : ByteArray) (x7 : Int) (h : AHeap) :
    l_skolemlaw3_WordNumbers_0 fuel d (n + 1) [(0, (AVal.int .i64 x0)), (1, (AVal.int .u8 x1)), (5, (AVal.bool x5)), (6, (AVal.str x6)), (7, (AVal.int .i64 x7))] h =
  (AHeap.sliceCells h 1 (Sl.lst 1 true [(AVal.int .u8 (IntKind.wrap .u8 (IntKind.wrap .i64 ((48 : Int) + (Int.tmod x7 (10 : Int))))))])).bind fun c1 =>
    (bytesFrom c1).bind fun bs2 =>
    (bif Nat.ble (ByteArray.size (⟨List.toArray bs2⟩ : ByteArray) + ByteArray.size x6) 9223372036854775807 then ((bif (decide (x7 < (10 : Int))) then (some ((.exit 0), [(0, (AVal.int .i64 x0)), (1, (AVal.int .u8 x1)), (5, (AVal.bool x5)), (6, (AVal.str ((⟨List.toArray bs2⟩ : ByteArray) ++ x6)))], h)) else (l_skolemlaw3_WordNumbers_0 fuel d n [(0, (AVal.int .i64 x0)), (1, (AVal.int .u8 x1)), (5, (AVal.bool x5)), (6, (AVal.str ((⟨List.toArray bs2⟩ : ByteArray) ++ x6))), (7, (AVal.int .i64 (IntKind.wrap .i64 (Int.tdiv x7 (10 : Int)))))] h))) else (none)) := by
  generalize hh : l_skolemlaw3_WordNumbers_0 = R
  rw [l_skolemlaw3_WordNumbers_0_is] at hh
  subst hh
  kernel_rfl

theorem l_skolemlaw3_WordNumbers_0_0 (fuel d : Nat) (fr : Fr) (h : AHeap) :
    l_skolemlaw3_WordNumbers_0 fuel d 0 fr h =
  none := by
  generalize hh : l_skolemlaw3_WordNumbers_0 = R
  rw [l_skolemlaw3_WordNumbers_0_is] at hh
  subst hh
  kernel_rfl

theorem k_skolemlaw3_WordNumbers_0_x0 (fuel d : Nat) (x0 : Int) (x1 : Int) (x5 : Bool) (x6 : ByteArray) (h : AHeap) :
    k_skolemlaw3_WordNumbers_0 fuel d (.exit 0) [(0, (AVal.int .i64 x0)), (1, (AVal.int .u8 x1)), (5, (AVal.bool x5)), (6, (AVal.str x6))] h =
  (run fuel d F_word_Number [(AVal.str x6)] h).bind fun r1 =>
    (bif AVal.isTup 2 r1.1 then ((AVal.comp 0 r1.1).bind fun u2 =>
    (AVal.int? .i64 u2).bind fun n3 =>
    (AVal.comp 1 r1.1).bind fun u4 =>
    (AVal.bool? u4).bind fun b5 =>
    (bif Nat.ble (ByteArray.size (⟨#[45]⟩ : ByteArray) + ByteArray.size x6) 9223372036854775807 then ((run fuel d F_word_Number [(AVal.str ((⟨#[45]⟩ : ByteArray) ++ x6))] r1.2).bind fun r6 =>
    (bif AVal.isTup 2 r6.1 then ((AVal.comp 0 r6.1).bind fun u7 =>
    (AVal.int? .i64 u7).bind fun n8 =>
    (AVal.comp 1 r6.1).bind fun u9 =>
    (AVal.bool? u9).bind fun b10 =>
    (run fuel d F_word_Number [(AVal.str (⟨#[49, 50, 51, 52, 53, 54, 55, 56, 57, 48]⟩ : ByteArray))] r6.2).bind fun r11 =>
    (bif AVal.isTup 2 r11.1 then ((AVal.comp 0 r11.1).bind fun u12 =>
    (AVal.int? .i64 u12).bind fun n13 =>
    (AVal.comp 1 r11.1).bind fun u14 =>
    (AVal.bool? u14).bind fun b15 =>
    (run fuel d F_word_Number [(AVal.str (⟨#[45]⟩ : ByteArray))] r11.2).bind fun r16 =>
    (bif AVal.isTup 2 r16.1 then ((AVal.comp 0 r16.1).bind fun u17 =>
    (AVal.int? .i64 u17).bind fun n18 =>
    (AVal.comp 1 r16.1).bind fun u19 =>
    (AVal.bool? u19).bind fun b20 =>
    (run fuel d F_word_Number [(AVal.str (⟨#[]⟩ : ByteArray))] r16.2).bind fun r21 =>
    (bif AVal.isTup 2 r21.1 then ((AVal.comp 0 r21.1).bind fun u22 =>
    (AVal.int? .i64 u22).bind fun n23 =>
    (AVal.comp 1 r21.1).bind fun u24 =>
    (AVal.bool? u24).bind fun b25 =>
    (AHeap.sliceCells r21.2 1 (Sl.lst 1 true [(AVal.int .u8 x1)])).bind fun c26 =>
    (bytesFrom c26).bind fun bs27 =>
    (bif Nat.ble (ByteArray.size x6 + ByteArray.size (⟨List.toArray bs27⟩ : ByteArray)) 9223372036854775807 then ((run fuel d F_word_Number [(AVal.str (x6 ++ (⟨List.toArray bs27⟩ : ByteArray)))] r21.2).bind fun r28 =>
    (bif AVal.isTup 2 r28.1 then ((AVal.comp 0 r28.1).bind fun u29 =>
    (AVal.int? .i64 u29).bind fun n30 =>
    (AVal.comp 1 r28.1).bind fun u31 =>
    (AVal.bool? u31).bind fun b32 =>
    ((bif ((bif (bif (bif (bif (bif (bif (bif x5 then b5 else false) then (decide (n3 = x0)) else false) then b10 else false) then (decide (n8 = (IntKind.wrap .i64 (0 - x0)))) else false) then (!b15) else false) then (!b20) else false) then (!b25) else false) == true) then (some ((AVal.bool (b32 == (bif (bif (decide ((48 : Int) ≤ x1)) then (decide (x1 ≤ (57 : Int))) else false) then (decide (((ByteArray.size x6 : Nat) : Int) < (9 : Int))) else false))), r28.2)) else (some ((AVal.bool false), r28.2)) : Option (AVal × AHeap))).bind fun r33 =>
    (AVal.bool? r33.1).bind fun b34 =>
    some ((AVal.bool b34), r33.2)) else none)) else (none))) else none)) else none)) else none)) else none)) else (none))) else none) := by
  generalize hh : run = R
  rw [run_is] at hh
  subst hh
  generalize hh : k_skolemlaw3_WordNumbers_0 = R
  rw [k_skolemlaw3_WordNumbers_0_is] at hh
  subst hh
  kernel_rfl

/-! 17: skolem/skolemworld.Number -/

theorem e_skolemworld_Number (fuel d : Nat) (x0 : Int) (x1 : Int) (h : AHeap) :
    brun fuel (d + 1) F_skolemworld_Number [(AVal.int .i64 x0), (AVal.int .i64 x1)] h =
  (bif decide (x1 = 0) then (none) else ((bif (decide ((Int.tmod x0 x1) < (0 : Int))) then (some ((AVal.int .i64 (IntKind.wrap .i64 ((Int.tmod x0 x1) + x1))), h)) else (some ((AVal.int .i64 (Int.tmod x0 x1)), h))))) := by
  generalize hh : brun = R
  rw [brun_is] at hh
  subst hh
  kernel_rfl

/-! 25: skolem/skolemlaw3.first -/

theorem e_skolemlaw3_first (fuel d : Nat)  (h : AHeap) :
    brun fuel (d + 1) F_skolemlaw3_first [] h =
  (bif (AHeap.ownAt (AHeap.push h 1 [(AVal.int .u8 (97 : Int)), (AVal.int .u8 (32 : Int)), (AVal.int .u8 (98 : Int))]) (AHeap.next h)) then ((run fuel d F_word_Split [(AVal.slice (Sl.mk ⟨AHeap.next h, 0, 0⟩ 3 true)), (AVal.bool false)] (AHeap.push h 1 [(AVal.int .u8 (97 : Int)), (AVal.int .u8 (32 : Int)), (AVal.int .u8 (98 : Int))])).bind fun r1 =>
    (AVal.slice? r1.1).bind fun s2 =>
    ((bif ((decide (((s2.len : Nat) : Int) = (2 : Int))) == true) then ((AHeap.addr r1.2 3 s2 (1 : Int)).bind fun p3 =>
    (Pt.field 1 p3).bind fun p4 =>
    (AHeap.cell r1.2 p4).bind fun u5 =>
    (AVal.int? .i64 u5).bind fun n6 =>
    some ((AVal.bool (decide (n6 = (2 : Int)))), r1.2)) else (some ((AVal.bool false), r1.2)) : Option (AVal × AHeap))).bind fun r7 =>
    (AVal.bool? r7.1).bind fun b8 =>
    ((bif (b8 == true) then ((AHeap.addr r7.2 3 s2 (0 : Int)).bind fun p9 =>
    (Pt.field 2 p9).bind fun p10 =>
    (AHeap.cell r7.2 p10).bind fun u11 =>
    (AVal.bool? u11).bind fun b12 =>
    some ((AVal.bool b12), r7.2)) else (some ((AVal.bool false), r7.2)) : Option (AVal × AHeap))).bind fun r13 =>
    (AVal.bool? r13.1).bind fun b14 =>
    ((bif (b14 == true) then ((AHeap.addr r13.2 3 s2 (1 : Int)).bind fun p15 =>
    (Pt.field 2 p15).bind fun p16 =>
    (AHeap.cell r13.2 p16).bind fun u17 =>
    (AVal.bool? u17).bind fun b18 =>
    some ((AVal.bool (!b18)), r13.2)) else (some ((AVal.bool false), r13.2)) : Option (AVal × AHeap))).bind fun r19 =>
    (AVal.bool? r19.1).bind fun b20 =>
    some ((AVal.bool b20), r19.2)) else (none)) := by
  generalize hh : run = R
  rw [run_is] at hh
  subst hh
  generalize hh : brun = R
  rw [brun_is] at hh
  subst hh
  kernel_rfl

/-! 26: skolem/word.Number -/

noncomputable def k_word_Number_0r (fuel d : Nat) : AExit → Fr → AHeap → Option (AVal × AHeap) := (kSeq (Cf fuel F_word_Number) false (acall (C fuel) false d) (acall (C fuel) true d) 51 (csub [true, true, true] (fbody Go.Proofs.Tryd.f26)) (asub [true, true, true] an26) (kRet (Cf fuel F_word_Number) Go.Proofs.Tryd.f26.results.toList))

noncomputable def k_word_Number_0 : Nat → Nat → AExit → Fr → AHeap → Option (AVal × AHeap) := hide k_word_Number_0r

theorem k_word_Number_0_is : k_word_Number_0 = k_word_Number_0r := hide_eq _

noncomputable def s_word_Number_0 (fuel d : Nat) : Run := fun fr h k => aexec (Cf fuel F_word_Number) false (acall (C fuel) false d) (acall (C fuel) true d) 51 (csub [true, true, true, true, false, true, false, false] (fbody Go.Proofs.Tryd.f26)) (asub [true, true, true, true, false, true, false, false] an26) fr h k

noncomputable def l_word_Number_0r (fuel d : Nat) (n : Nat) (fr : Fr) (h : AHeap) : Option (AExit × Fr × AHeap) := aloop (s_word_Number_0 fuel d) (some [0, 4, 28, 29]) n fr h (kOut [0, 2, 3])

noncomputable def l_word_Number_0 : Nat → Nat → Nat → Fr → AHeap → Option (AExit × Fr × AHeap) := hide l_word_Number_0r

theorem l_word_Number_0_is : l_word_Number_0 = l_word_Number_0r := hide_eq _

noncomputable def k_word_Number_1r (fuel d : Nat) : AExit → Fr → AHeap → Option (AVal × AHeap) := (kBlock 0 (kSeq (Cf fuel F_word_Number) false (acall (C fuel) false d) (acall (C fuel) true d) 51 (csub [true, true, true, true, true] (fbody Go.Proofs.Tryd.f26)) (asub [true, true, true, true, true] an26) (kRet (Cf fuel F_word_Number) Go.Proofs.Tryd.f26.results.toList)))

noncomputable def k_word_Number_1 : Nat → Nat → AExit → Fr → AHeap → Option (AVal × AHeap) := hide k_word_Number_1r

theorem k_word_Number_1_is : k_word_Number_1 = k_word_Number_1r := hide_eq _

theorem e_word_Number (fuel d : Nat) (x0 : ByteArray) (h : AHeap) :
    brun fuel (d + 1) F_word_Number [(AVal.str x0)] h =
  ((bif ((decide ((0 : Int) < ((ByteArray.size x0 : Nat) : Int))) == true) then ((strAt x0 (0 : Int)).bind fun n1 =>
    some ((AVal.bool (decide (n1 = (45 : Int)))), h)) else (some ((AVal.bool false), h)) : Option (AVal × AHeap))).bind fun r2 =>
    (AVal.bool? r2.1).bind fun b3 =>
    ((bif b3 then ((aHi (none : Option AVal) (ByteArray.size x0)).bind fun hi4 =>
    (aLo (some (AVal.int .i64 (1 : Int))) hi4).bind fun lo5 =>
    some (.normal, [(0, (AVal.str x0)), (4, (AVal.str (ByteArray.extract x0 lo5 hi4)))], r2.2)) else (some (.normal, [(0, (AVal.str x0)), (4, (AVal.str x0))], r2.2)))).bind fun p6 =>
    k_word_Number_0 fuel d p6.1 p6.2.1 p6.2.2 := by
  generalize hh : brun = R
  rw [brun_is] at hh
  subst hh
  generalize hh : k_word_Number_0 = R
  rw [k_word_Number_0_is] at hh
  subst hh
  kernel_rfl

theorem k_word_Number_0_n (fuel d : Nat) (x0 : ByteArray) (x4 : ByteArray) (h : AHeap) :
    k_word_Number_0 fuel d .normal [(0, (AVal.str x0)), (4, (AVal.str x4))] h =
  (bif (bif (decide (((ByteArray.size x4 : Nat) : Int) < (1 : Int))) then true else (decide ((9 : Int) < ((ByteArray.size x4 : Nat) : Int)))) then (some ((AVal.tup [(AVal.int .i64 (0 : Int)), (AVal.bool false)]), h)) else ((l_word_Number_0 fuel d fuel [(0, (AVal.str x0)), (4, (AVal.str x4)), (28, (AVal.int .i64 ((ByteArray.size x4 : Nat) : Int))), (29, (AVal.int .i64 (0 : Int)))] h).bind fun p1 =>
    k_word_Number_1 fuel d p1.1 p1.2.1 p1.2.2)) := by
  generalize hh : k_word_Number_0 = R
  rw [k_word_Number_0_is] at hh
  subst hh
  generalize hh : l_word_Number_0 = R
  rw [l_word_Number_0_is] at hh
  subst hh
  generalize hh : k_word_Number_1 = R
  rw [k_word_Number_1_is] at hh
  subst hh
  kernel_rfl

theorem l_word_Number_0_eq (fuel d : Nat) (n : Nat) (x0 : ByteArray) (x4 : ByteArray) (x28 : Int) (x29 : Int) (h : AHeap) :
    l_word_Number_0 fuel d (n + 1) [(0, (AVal.str x0)), (4, (AVal.str x4)), (28, (AVal.int .i64 x28)), (29, (AVal.int .i64 x29))] h =
  (bif (decide (x29 < x28)) then ((strAt x4 x29).bind fun n1 =>
    ((bif ((decide (n1 < (48 : Int))) == false) then ((strAt x4 x29).bind fun n2 =>
    some ((AVal.bool (decide ((57 : Int) < n2))), h)) else (some ((AVal.bool true), h)) : Option (AVal × AHeap))).bind fun r3 =>
    (AVal.bool? r3.1).bind fun b4 =>
    (bif b4 then (some (.ret, [(0, (AVal.str x0)), (2, (AVal.int .i64 (0 : Int))), (3, (AVal.bool false))], r3.2)) else (l_word_Number_0 fuel d n [(0, (AVal.str x0)), (4, (AVal.str x4)), (28, (AVal.int .i64 x28)), (29, (AVal.int .i64 (IntKind.wrap .i64 (x29 + (1 : Int)))))] r3.2))) else (some ((.exit 0), [(0, (AVal.str x0)), (2, AVal.bot), (3, AVal.bot)], h))) := by
  generalize hh : l_word_Number_0 = R
  rw [l_word_Number_0_is] at hh
  subst hh
  kernel_rfl

theorem l_word_Number_0_0 (fuel d : Nat) (fr : Fr) (h : AHeap) :
    l_word_Number_0 fuel d 0 fr h =
  none := by
  generalize hh : l_word_Number_0 = R
  rw [l_word_Number_0_is] at hh
  subst hh
  kernel_rfl

theorem k_word_Number_1_x0 (fuel d : Nat) (x0 : ByteArray) (x2 : AVal) (x3 : AVal) (h : AHeap) :
    k_word_Number_1 fuel d (.exit 0) [(0, (AVal.str x0)), (2, x2), (3, x3)] h =
  (run fuel d F_strconv_Atoi [(AVal.str x0)] h).bind fun r1 =>
    (bif AVal.isTup 2 r1.1 then ((AVal.comp 0 r1.1).bind fun u2 =>
    (AVal.int? .i64 u2).bind fun n3 =>
    (AVal.comp 1 r1.1).bind fun u4 =>
    (nilTest .iface u4).bind fun b5 =>
    some ((AVal.tup [(AVal.int .i64 n3), (AVal.bool (b5))]), r1.2)) else none) := by
  generalize hh : run = R
  rw [run_is] at hh
  subst hh
  generalize hh : k_word_Number_1 = R
  rw [k_word_Number_1_is] at hh
  subst hh
  kernel_rfl

theorem k_word_Number_1_r (fuel d : Nat) (x0 : AVal) (x2 : Int) (x3 : Bool) (h : AHeap) :
    k_word_Number_1 fuel d .ret [(0, x0), (2, (AVal.int .i64 x2)), (3, (AVal.bool x3))] h =
  some ((AVal.tup [(AVal.int .i64 x2), (AVal.bool x3)]), h) := by
  generalize hh : k_word_Number_1 = R
  rw [k_word_Number_1_is] at hh
  subst hh
  kernel_rfl

/-! 36: skolem/word.Split -/

noncomputable def s_word_Split_0 (fuel d : Nat) : Run := fun fr h k => aexec (Cf fuel F_word_Split) false (acall (C fuel) false d) (acall (C fuel) true d) 54 (csub [true, true, false, true, false, false] (fbody Go.Proofs.Tryd.f36)) (asub [true, true, false, true, false, false] an36) fr h k

noncomputable def l_word_Split_0r (fuel d : Nat) (n : Nat) (fr : Fr) (h : AHeap) : Option (AExit × Fr × AHeap) := aloop (s_word_Split_0 fuel d) (some [0, 1, 5, 6]) n fr h (kOut [5])

noncomputable def l_word_Split_0 : Nat → Nat → Nat → Fr → AHeap → Option (AExit × Fr × AHeap) := hide l_word_Split_0r

theorem l_word_Split_0_is : l_word_Split_0 = l_word_Split_0r := hide_eq _

noncomputable def k_word_Split_0r (fuel d : Nat) : AExit → Fr → AHeap → Option (AVal × AHeap) := (kBlock 0 (kSeq (Cf fuel F_word_Split) false (acall (C fuel) false d) (acall (C fuel) true d) 54 (csub [true, true, true] (fbody Go.Proofs.Tryd.f36)) (asub [true, true, true] an36) (kRet (Cf fuel F_word_Split) Go.Proofs.Tryd.f36.results.toList)))

noncomputable def k_word_Split_0 : Nat → Nat → AExit → Fr → AHeap → Option (AVal × AHeap) := hide k_word_Split_0r

theorem k_word_Split_0_is : k_word_Split_0 = k_word_Split_0r := hide_eq _

noncomputable def k_word_Split_1r (fuel d : Nat) (n : Nat) : AExit → Fr → AHeap → Option (AExit × Fr × AHeap) := (kSeq (Cf fuel F_word_Split) false (acall (C fuel) false d) (acall (C fuel) true d) 54 (csub [true, true, false, true, false, false, true, false, true, true] (fbody Go.Proofs.Tryd.f36)) (asub [true, true, false, true, false, false, true, false, true, true] an36) (kBlock 1 (kLoop (s_word_Split_0 fuel d) (some [0, 1, 5, 6]) n (kOut [5]))))

noncomputable def k_word_Split_1 : Nat → Nat → Nat → AExit → Fr → AHeap → Option (AExit × Fr × AHeap) := hide k_word_Split_1r

theorem k_word_Split_1_is : k_word_Split_1 = k_word_Split_1r := hide_eq _

theorem e_word_Split (fuel d : Nat) (x0 : Sl) (x1 : Bool) (h : AHeap) :
    brun fuel (d + 1) F_word_Split [(AVal.slice x0), (AVal.bool x1)] h =
  (l_word_Split_0 fuel d fuel [(0, (AVal.slice x0)), (1, (AVal.bool x1)), (5, (AVal.slice Sl.nil)), (6, (AVal.int .i64 (0 : Int)))] h).bind fun p1 =>
    k_word_Split_0 fuel d p1.1 p1.2.1 p1.2.2 := by
  generalize hh : brun = R
  rw [brun_is] at hh
  subst hh
  generalize hh : l_word_Split_0 = R
  rw [l_word_Split_0_is] at hh
  subst hh
  generalize hh : k_word_Split_0 = R
  rw [k_word_Split_0_is] at hh
  subst hh
  kernel_rfl

theorem l_word_Split_0_eq (fuel d : Nat) (n : Nat) (x0 : Sl) (x1 : Bool) (x5 : Sl) (x6 : Int) (h : AHeap) :
    l_word_Split_0 fuel d (n + 1) [(0, (AVal.slice x0)), (1, (AVal.bool x1)), (5, (AVal.slice x5)), (6, (AVal.int .i64 x6))] h =
  (bif (decide (x6 < ((x0.len : Nat) : Int))) then ((aHi (none : Option AVal) (Sl.len x0)).bind fun hi1 =>
    (aLo (some (AVal.int .i64 x6)) hi1).bind fun lo2 =>
    (aMx (none : Option AVal) hi1).bind fun cl3 =>
    (bif (AHeap.hasSz h 1 x0) then ((run fuel d F_bytes_IndexByte [(AVal.slice (Sl.cut x0 1 lo2 hi1 cl3)), (AVal.int .u8 (10 : Int))] h).bind fun r4 =>
    (AVal.int? .i64 r4.1).bind fun n5 =>
    ((bif (decide (n5 < (0 : Int))) then (some (.normal, [(0, (AVal.slice x0)), (1, (AVal.bool x1)), (5, (AVal.slice x5)), (6, (AVal.int .i64 x6)), (7, (AVal.int .i64 (IntKind.wrap .i64 (((x0.len : Nat) : Int) - x6))))], r4.2)) else (some (.normal, [(0, (AVal.slice x0)), (1, (AVal.bool x1)), (5, (AVal.slice x5)), (6, (AVal.int .i64 x6)), (7, (AVal.int .i64 n5))], r4.2)))).bind fun p6 =>
    k_word_Split_1 fuel d n p6.1 p6.2.1 p6.2.2) else (none))) else (some ((.exit 0), [(5, (AVal.slice x5))], h))) := by
  generalize hh : run = R
  rw [run_is] at hh
  subst hh
  generalize hh : l_word_Split_0 = R
  rw [l_word_Split_0_is] at hh
  subst hh
  generalize hh : k_word_Split_1 = R
  rw [k_word_Split_1_is] at hh
  subst hh
  kernel_rfl

theorem l_word_Split_0_0 (fuel d : Nat) (fr : Fr) (h : AHeap) :
    l_word_Split_0 fuel d 0 fr h =
  none := by
  generalize hh : l_word_Split_0 = R
  rw [l_word_Split_0_is] at hh
  subst hh
  kernel_rfl

theorem k_word_Split_0_x0 (fuel d : Nat) (x5 : Sl) (h : AHeap) :
    k_word_Split_0 fuel d (.exit 0) [(5, (AVal.slice x5))] h =
  some ((AVal.slice x5), h) := by
  generalize hh : k_word_Split_0 = R
  rw [k_word_Split_0_is] at hh
  subst hh
  kernel_rfl

theorem k_word_Split_1_n (fuel d : Nat) (n : Nat) (x0 : Sl) (x1 : Bool) (x5 : Sl) (x6 : Int) (x7 : Int) (h : AHeap) :
    k_word_Split_1 fuel d n .normal [(0, (AVal.slice x0)), (1, (AVal.bool x1)), (5, (AVal.slice x5)), (6, (AVal.int .i64 x6)), (7, (AVal.int .i64 x7))] h =
  (aHi (some (AVal.int .i64 (IntKind.wrap .i64 (x6 + x7)))) (Sl.len x0)).bind fun hi1 =>
    (aLo (some (AVal.int .i64 x6)) hi1).bind fun lo2 =>
    (aMx (none : Option AVal) hi1).bind fun cl3 =>
    (bif (AHeap.hasSz h 1 x0) then ((run fuel d F_word_line [(AVal.slice (Sl.cut x0 1 lo2 hi1 cl3)), (AVal.int .i64 x6)] h).bind fun r4 =>
    (AVal.slice? r4.1).bind fun s5 =>
    ((bif ((bif (!x1) then true else (decide (((s5.len : Nat) : Int) = (0 : Int)))) == false) then ((AHeap.addr r4.2 3 s5 (0 : Int)).bind fun p6 =>
    (Pt.field 0 p6).bind fun p7 =>
    (AHeap.cell r4.2 p7).bind fun u8 =>
    (AVal.str? u8).bind fun s9 =>
    (strAt s9 (0 : Int)).bind fun n10 =>
    some ((AVal.bool (!decide (n10 = (99 : Int)))), r4.2)) else (some ((AVal.bool true), r4.2)) : Option (AVal × AHeap))).bind fun r11 =>
    (AVal.bool? r11.1).bind fun b12 =>
    (bif b12 then ((AHeap.sliceCells r11.2 3 s5).bind fun xs13 =>
    (AHeap.append r11.2 false 3 32 x5 s5.len xs13).bind fun a14 =>
    l_word_Split_0 fuel d n [(0, (AVal.slice x0)), (1, (AVal.bool x1)), (5, (AVal.slice a14.1)), (6, (AVal.int .i64 (IntKind.wrap .i64 (x6 + (IntKind.wrap .i64 (x7 + (1 : Int)))))))] a14.2) else (l_word_Split_0 fuel d n [(0, (AVal.slice x0)), (1, (AVal.bool x1)), (5, (AVal.slice x5)), (6, (AVal.int .i64 (IntKind.wrap .i64 (x6 + (IntKind.wrap .i64 (x7 + (1 : Int)))))))] r11.2))) else (none)) := by
  generalize hh : run = R
  rw [run_is] at hh
  subst hh
  generalize hh : l_word_Split_0 = R
  rw [l_word_Split_0_is] at hh
  subst hh
  generalize hh : k_word_Split_1 = R
  rw [k_word_Split_1_is] at hh
  subst hh
  kernel_rfl

/-! 37: strconv.Atoi -/

theorem e_strconv_Atoi (fuel d : Nat) (x0 : ByteArray) (h : AHeap) :
    brun fuel (d + 1) F_strconv_Atoi [(AVal.str x0)] h =
  (run fuel d F_internal_strconv_Atoi [(AVal.str x0)] h).bind fun r1 =>
    (bif AVal.isTup 2 r1.1 then ((AVal.comp 0 r1.1).bind fun u2 =>
    (AVal.int? .i64 u2).bind fun n3 =>
    (AVal.comp 1 r1.1).bind fun u4 =>
    (nilTest .iface u4).bind fun b5 =>
    (bif (!b5) then ((run fuel d F_strconv_toError [(AVal.str (⟨#[65, 116, 111, 105]⟩ : ByteArray)), (AVal.str x0), (AVal.int .i64 (0 : Int)), (AVal.int .i64 (0 : Int)), u4] r1.2).bind fun r6 =>
    some ((AVal.tup [(AVal.int .i64 n3), r6.1]), r6.2)) else (some ((AVal.tup [(AVal.int .i64 n3), AVal.nilif]), r1.2)))) else none) := by
  generalize hh : run = R
  rw [run_is] at hh
  subst hh
  generalize hh : brun = R
  rw [brun_is] at hh
  subst hh
  kernel_rfl

/-! 48: bytes.IndexByte -/

theorem e_bytes_IndexByte (fuel d : Nat) (x0 : Sl) (x1 : Int) (h : AHeap) :
    brun fuel (d + 1) F_bytes_IndexByte [(AVal.slice x0), (AVal.int .u8 x1)] h =
  (run fuel d F_bytealg_IndexByte [(AVal.slice x0), (AVal.int .u8 x1)] h).bind fun r1 =>
    (AVal.int? .i64 r1.1).bind fun n2 =>
    some ((AVal.int .i64 n2), r1.2) := by
  generalize hh : run = R
  rw [run_is] at hh
  subst hh
  generalize hh : brun = R
  rw [brun_is] at hh
  subst hh
  kernel_rfl

/-! 49: skolem/word.line -/

noncomputable def s_word_line_0 (fuel d : Nat) : Run := fun fr h k => aexec (Cf fuel F_word_line) false (acall (C fuel) false d) (acall (C fuel) true d) 51 (csub [true, true, false, true, false, false] (fbody Go.Proofs.Tryd.f49)) (asub [true, true, false, true, false, false] an49) fr h k

noncomputable def l_word_line_0r (fuel d : Nat) (n : Nat) (fr : Fr) (h : AHeap) : Option (AExit × Fr × AHeap) := aloop (s_word_line_0 fuel d) (some [0, 1, 5, 6]) n fr h (kOut [5])

noncomputable def l_word_line_0 : Nat → Nat → Nat → Fr → AHeap → Option (AExit × Fr × AHeap) := hide l_word_line_0r

theorem l_word_line_0_is : l_word_line_0 = l_word_line_0r := hide_eq _

noncomputable def k_word_line_0r (fuel d : Nat) : AExit → Fr → AHeap → Option (AVal × AHeap) := (kBlock 0 (kSeq (Cf fuel F_word_line) false (acall (C fuel) false d) (acall (C fuel) true d) 51 (csub [true, true, true] (fbody Go.Proofs.Tryd.f49)) (asub [true, true, true] an49) (kRet (Cf fuel F_word_line) Go.Proofs.Tryd.f49.results.toList)))

noncomputable def k_word_line_0 : Nat → Nat → AExit → Fr → AHeap → Option (AVal × AHeap) := hide k_word_line_0r

theorem k_word_line_0_is : k_word_line_0 = k_word_line_0r := hide_eq _

noncomputable def s_word_line_1 (fuel d : Nat) : Run := fun fr h k => aexec (Cf fuel F_word_line) false (acall (C fuel) false d) (acall (C fuel) true d) 51 (csub [true, true, false, true, false, false, true, false, false, true, true, false, false, false] (fbody Go.Proofs.Tryd.f49)) (asub [true, true, false, true, false, false, true, false, false, true, true, false, false, false] an49) fr h k

noncomputable def l_word_line_1r (fuel d : Nat) (n : Nat) (fr : Fr) (h : AHeap) : Option (AExit × Fr × AHeap) := aloop (s_word_line_1 fuel d) (some [0, 1, 5, 6, 7]) n fr h (kOut [0, 1, 5, 6, 7])

noncomputable def l_word_line_1 : Nat → Nat → Nat → Fr → AHeap → Option (AExit × Fr × AHeap) := hide l_word_line_1r

theorem l_word_line_1_is : l_word_line_1 = l_word_line_1r := hide_eq _

noncomputable def k_word_line_1r (fuel d : Nat) (n : Nat) : AExit → Fr → AHeap → Option (AExit × Fr × AHeap) := (kBlock 2 (kSeq (Cf fuel F_word_line) false (acall (C fuel) false d) (acall (C fuel) true d) 51 (csub [true, true, false, true, false, false, true, false, false, true, true, true] (fbody Go.Proofs.Tryd.f49)) (asub [true, true, false, true, false, false, true, false, false, true, true, true] an49) (kBlock 1 (kSeq (Cf fuel F_word_line) false (acall (C fuel) false d) (acall (C fuel) true d) 51 (csub [true, true, false, true, false, false, true, true] (fbody Go.Proofs.Tryd.f49)) (asub [true, true, false, true, false, false, true, true] an49) (kLoop (s_word_line_0 fuel d) (some [0, 1, 5, 6]) n (kOut [5]))))))

noncomputable def k_word_line_1 : Nat → Nat → Nat → AExit → Fr → AHeap → Option (AExit × Fr × AHeap) := hide k_word_line_1r

theorem k_word_line_1_is : k_word_line_1 = k_word_line_1r := hide_eq _

theorem e_word_line (fuel d : Nat) (x0 : Sl) (x1 : Int) (h : AHeap) :
    brun fuel (d + 1) F_word_line [(AVal.slice x0), (AVal.int .i64 x1)] h =
  (l_word_line_0 fuel d fuel [(0, (AVal.slice x0)), (1, (AVal.int .i64 x1)), (5, (AVal.slice Sl.nil)), (6, (AVal.int .i64 (0 : Int)))] h).bind fun p1 =>
    k_word_line_0 fuel d p1.1 p1.2.1 p1.2.2 := by
  generalize hh : brun = R
  rw [brun_is] at hh
  subst hh
  generalize hh : l_word_line_0 = R
  rw [l_word_line_0_is] at hh
  subst hh
  generalize hh : k_word_line_0 = R
  rw [k_word_line_0_is] at hh
  subst hh
  kernel_rfl

theorem l_word_line_0_eq (fuel d : Nat) (n : Nat) (x0 : Sl) (x1 : Int) (x5 : Sl) (x6 : Int) (h : AHeap) :
    l_word_line_0 fuel d (n + 1) [(0, (AVal.slice x0)), (1, (AVal.int .i64 x1)), (5, (AVal.slice x5)), (6, (AVal.int .i64 x6))] h =
  (bif (decide (x6 < ((x0.len : Nat) : Int))) then ((AHeap.addr h 1 x0 x6).bind fun p1 =>
    (AHeap.cell h p1).bind fun u2 =>
    (AVal.int? .u8 u2).bind fun n3 =>
    (run fuel d F_word_kind [(AVal.int .u8 n3)] h).bind fun r4 =>
    (AVal.int? .i64 r4.1).bind fun n5 =>
    (bif (!decide (n5 = (0 : Int))) then (l_word_line_0 fuel d n [(0, (AVal.slice x0)), (1, (AVal.int .i64 x1)), (5, (AVal.slice x5)), (6, (AVal.int .i64 (IntKind.wrap .i64 (x6 + (1 : Int)))))] r4.2) else ((l_word_line_1 fuel d fuel [(0, (AVal.slice x0)), (1, (AVal.int .i64 x1)), (5, (AVal.slice x5)), (6, (AVal.int .i64 x6)), (7, (AVal.int .i64 x6))] r4.2).bind fun p6 =>
    k_word_line_1 fuel d n p6.1 p6.2.1 p6.2.2))) else (some ((.exit 0), [(5, (AVal.slice x5))], h))) := by
  generalize hh : run = R
  rw [run_is] at hh
  subst hh
  generalize hh : l_word_line_0 = R
  rw [l_word_line_0_is] at hh
  subst hh
  generalize hh : l_word_line_1 = R
  rw [l_word_line_1_is] at hh
  subst hh
  generalize hh : k_word_line_1 = R
  rw [k_word_line_1_is] at hh
  subst hh
  kernel_rfl

theorem l_word_line_0_0 (fuel d : Nat) (fr : Fr) (h : AHeap) :
    l_word_line_0 fuel d 0 fr h =
  none := by
  generalize hh : l_word_line_0 = R
  rw [l_word_line_0_is] at hh
  subst hh
  kernel_rfl

theorem k_word_line_0_x0 (fuel d : Nat) (x5 : Sl) (h : AHeap) :
    k_word_line_0 fuel d (.exit 0) [(5, (AVal.slice x5))] h =
  some ((AVal.slice x5), h) := by
  generalize hh : k_word_line_0 = R
  rw [k_word_line_0_is] at hh
  subst hh
  kernel_rfl

theorem l_word_line_1_eq (fuel d : Nat) (n : Nat) (x0 : Sl) (x1 : Int) (x5 : Sl) (x6 : Int) (x7 : Int) (h : AHeap) :
    l_word_line_1 fuel d (n + 1) [(0, (AVal.slice x0)), (1, (AVal.int .i64 x1)), (5, (AVal.slice x5)), (6, (AVal.int .i64 x6)), (7, (AVal.int .i64 x7))] h =
  ((bif ((decide (x6 < ((x0.len : Nat) : Int))) == true) then ((AHeap.addr h 1 x0 x6).bind fun p1 =>
    (AHeap.cell h p1).bind fun u2 =>
    (AVal.int? .u8 u2).bind fun n3 =>
    (run fuel d F_word_kind [(AVal.int .u8 n3)] h).bind fun r4 =>
    (AVal.int? .i64 r4.1).bind fun n5 =>
    some ((AVal.bool (decide (n5 = (0 : Int)))), r4.2)) else (some ((AVal.bool false), h)) : Option (AVal × AHeap))).bind fun r6 =>
    (AVal.bool? r6.1).bind fun b7 =>
    (bif b7 then (l_word_line_1 fuel d n [(0, (AVal.slice x0)), (1, (AVal.int .i64 x1)), (5, (AVal.slice x5)), (6, (AVal.int .i64 (IntKind.wrap .i64 (x6 + (1 : Int))))), (7, (AVal.int .i64 x7))] r6.2) else (some ((.exit 2), [(0, (AVal.slice x0)), (1, (AVal.int .i64 x1)), (5, (AVal.slice x5)), (6, (AVal.int .i64 x6)), (7, (AVal.int .i64 x7))], r6.2))) := by
  generalize hh : run = R
  rw [run_is] at hh
  subst hh
  generalize hh : l_word_line_1 = R
  rw [l_word_line_1_is] at hh
  subst hh
  kernel_rfl

theorem l_word_line_1_0 (fuel d : Nat) (fr : Fr) (h : AHeap) :
    l_word_line_1 fuel d 0 fr h =
  none := by
  generalize hh : l_word_line_1 = R
  rw [l_word_line_1_is] at hh
  subst hh
  kernel_rfl

theorem k_word_line_1_x2 (fuel d : Nat) (n : Nat) (x0 : Sl) (x1 : Int) (x5 : Sl) (x6 : Int) (x7 : Int) (h : AHeap) :
    k_word_line_1 fuel d n (.exit 2) [(0, (AVal.slice x0)), (1, (AVal.int .i64 x1)), (5, (AVal.slice x5)), (6, (AVal.int .i64 x6)), (7, (AVal.int .i64 x7))] h =
  (aHi (some (AVal.int .i64 x6)) (Sl.len x0)).bind fun hi1 =>
    (aLo (some (AVal.int .i64 x7)) hi1).bind fun lo2 =>
    (aMx (none : Option AVal) hi1).bind fun cl3 =>
    (bif (AHeap.hasSz h 1 x0) then ((AHeap.sliceCells h 1 (Sl.cut x0 1 lo2 hi1 cl3)).bind fun c4 =>
    (bytesFrom c4).bind fun bs5 =>
    (AHeap.append h false 3 32 x5 1 [(AVal.str (⟨List.toArray bs5⟩ : ByteArray)), (AVal.int .i64 (IntKind.wrap .i64 (x1 + x7))), (AVal.bool (decide (((x5.len : Nat) : Int) = (0 : Int))))]).bind fun a6 =>
    l_word_line_0 fuel d n [(0, (AVal.slice x0)), (1, (AVal.int .i64 x1)), (5, (AVal.slice a6.1)), (6, (AVal.int .i64 (IntKind.wrap .i64 (x6 + (1 : Int)))))] a6.2) else (none)) := by
  generalize hh : l_word_line_0 = R
  rw [l_word_line_0_is] at hh
  subst hh
  generalize hh : k_word_line_1 = R
  rw [k_word_line_1_is] at hh
  subst hh
  kernel_rfl

/-! 50: internal/strconv.Atoi -/

noncomputable def s_internal_strconv_Atoi_0 (fuel d : Nat) : Run := fun fr h k => aexec (Cf fuel F_internal_strconv_Atoi) false (acall (C fuel) false d) (acall (C fuel) true d) 77 (csub [true, true, false, true, false, true, true, true, false, true, false, false] (fbody Go.Proofs.Tryd.f50)) (asub [true, true, false, true, false, true, true, true, false, true, false, false] an50) fr h k

noncomputable def l_internal_strconv_Atoi_0r (fuel d : Nat) (n : Nat) (fr : Fr) (h : AHeap) : Option (AExit × Fr × AHeap) := aloop (s_internal_strconv_Atoi_0 fuel d) (some [5, 6, 47, 48, 49]) n fr h (kOut [2, 3, 5, 6])

noncomputable def l_internal_strconv_Atoi_0 : Nat → Nat → Nat → Fr → AHeap → Option (AExit × Fr × AHeap) := hide l_internal_strconv_Atoi_0r

theorem l_internal_strconv_Atoi_0_is : l_internal_strconv_Atoi_0 = l_internal_strconv_Atoi_0r := hide_eq _

noncomputable def k_internal_strconv_Atoi_0r (fuel d : Nat) : AExit → Fr → AHeap → Option (AVal × AHeap) := (kBlock 0 (kSeq (Cf fuel F_internal_strconv_Atoi) false (acall (C fuel) false d) (acall (C fuel) true d) 77 (csub [true, true, false, true, false, true, true, true, true] (fbody Go.Proofs.Tryd.f50)) (asub [true, true, false, true, false, true, true, true, true] an50) (kSeq (Cf fuel F_internal_strconv_Atoi) false (acall (C fuel) false d) (acall (C fuel) true d) 77 (csub [true, true, true] (fbody Go.Proofs.Tryd.f50)) (asub [true, true, true] an50) (kRet (Cf fuel F_internal_strconv_Atoi) Go.Proofs.Tryd.f50.results.toList))))

noncomputable def k_internal_strconv_Atoi_0 : Nat → Nat → AExit → Fr → AHeap → Option (AVal × AHeap) := hide k_internal_strconv_Atoi_0r

theorem k_internal_strconv_Atoi_0_is : k_internal_strconv_Atoi_0 = k_internal_strconv_Atoi_0r := hide_eq _

noncomputable def k_internal_strconv_Atoi_1r (fuel d : Nat) : AExit → Fr → AHeap → Option (AVal × AHeap) := (kSeq (Cf fuel F_internal_strconv_Atoi) false (acall (C fuel) false d) (acall (C fuel) true d) 77 (csub [true, true, false, true, false, true, true, true, true, true] (fbody Go.Proofs.Tryd.f50)) (asub [true, true, false, true, false, true, true, true, true, true] an50) (kSeq (Cf fuel F_internal_strconv_Atoi) false (acall (C fuel) false d) (acall (C fuel) true d) 77 (csub [true, true, true] (fbody Go.Proofs.Tryd.f50)) (asub [true, true, true] an50) (kRet (Cf fuel F_internal_strconv_Atoi) Go.Proofs.Tryd.f50.results.toList)))

noncomputable def k_internal_strconv_Atoi_1 : Nat → Nat → AExit → Fr → AHeap → Option (AVal × AHeap) := hide k_internal_strconv_Atoi_1r

theorem k_internal_strconv_Atoi_1_is : k_internal_strconv_Atoi_1 = k_internal_strconv_Atoi_1r := hide_eq _

theorem e_internal_strconv_Atoi (fuel d : Nat) (x0 : ByteArray) (h : AHeap) :
    brun fuel (d + 1) F_internal_strconv_Atoi [(AVal.str x0)] h =
  ((bif (false == true) then (some ((AVal.bool (bif (decide ((0 : Int) < ((ByteArray.size x0 : Nat) : Int))) then (decide (((ByteArray.size x0 : Nat) : Int) < (10 : Int))) else false)), h)) else (some ((AVal.bool false), h)) : Option (AVal × AHeap))).bind fun r1 =>
    (AVal.bool? r1.1).bind fun b2 =>
    ((bif (b2 == false) then (((bif (true == true) then (some ((AVal.bool (bif (decide ((0 : Int) < ((ByteArray.size x0 : Nat) : Int))) then (decide (((ByteArray.size x0 : Nat) : Int) < (19 : Int))) else false)), r1.2)) else (some ((AVal.bool false), r1.2)) : Option (AVal × AHeap))).bind fun r3 =>
    (AVal.bool? r3.1).bind fun b4 =>
    some ((AVal.bool b4), r3.2)) else (some ((AVal.bool true), r1.2)) : Option (AVal × AHeap))).bind fun r5 =>
    (AVal.bool? r5.1).bind fun b6 =>
    (bif b6 then ((strAt x0 (0 : Int)).bind fun n7 =>
    ((bif ((decide (n7 = (45 : Int))) == false) then ((strAt x0 (0 : Int)).bind fun n8 =>
    some ((AVal.bool (decide (n8 = (43 : Int)))), r5.2)) else (some ((AVal.bool true), r5.2)) : Option (AVal × AHeap))).bind fun r9 =>
    (AVal.bool? r9.1).bind fun b10 =>
    (bif b10 then ((aHi (none : Option AVal) (ByteArray.size x0)).bind fun hi11 =>
    (aLo (some (AVal.int .i64 (1 : Int))) hi11).bind fun lo12 =>
    (bif (decide (((ByteArray.size (ByteArray.extract x0 lo12 hi11) : Nat) : Int) < (1 : Int))) then (some ((AVal.tup [(AVal.int .i64 (0 : Int)), (AVal.iface T_strconv_Error (AVal.int .i64 (2 : Int)))]), r9.2)) else ((l_internal_strconv_Atoi_0 fuel d fuel [(5, (AVal.str x0)), (6, (AVal.int .i64 (0 : Int))), (47, (AVal.slice (Sl.mk ⟨AHeap.next r9.2, 0, 0⟩ (ByteArray.size (ByteArray.extract x0 lo12 hi11)) false))), (48, (AVal.int .i64 (((Sl.mk ⟨AHeap.next r9.2, 0, 0⟩ (ByteArray.size (ByteArray.extract x0 lo12 hi11)) false).len : Nat) : Int))), (49, (AVal.int .i64 (0 : Int)))] (AHeap.push r9.2 1 (bytesOf (ByteArray.extract x0 lo12 hi11)))).bind fun p13 =>
    k_internal_strconv_Atoi_0 fuel d p13.1 p13.2.1 p13.2.2))) else ((l_internal_strconv_Atoi_0 fuel d fuel [(5, (AVal.str x0)), (6, (AVal.int .i64 (0 : Int))), (47, (AVal.slice (Sl.mk ⟨AHeap.next r9.2, 0, 0⟩ (ByteArray.size x0) false))), (48, (AVal.int .i64 (((Sl.mk ⟨AHeap.next r9.2, 0, 0⟩ (ByteArray.size x0) false).len : Nat) : Int))), (49, (AVal.int .i64 (0 : Int)))] (AHeap.push r9.2 1 (bytesOf x0))).bind fun p14 =>
    k_internal_strconv_Atoi_0 fuel d p14.1 p14.2.1 p14.2.2))) else ((run fuel d F_strconv_ParseInt [(AVal.str x0), (AVal.int .i64 (10 : Int)), (AVal.int .i64 (0 : Int))] r5.2).bind fun r15 =>
    (bif AVal.isTup 2 r15.1 then ((AVal.comp 0 r15.1).bind fun u16 =>
    (AVal.int? .i64 u16).bind fun n17 =>
    (AVal.comp 1 r15.1).bind fun u18 =>
    some ((AVal.tup [(AVal.int .i64 n17), u18]), r15.2)) else none))) := by
  generalize hh : run = R
  rw [run_is] at hh
  subst hh
  generalize hh : brun = R
  rw [brun_is] at hh
  subst hh
  generalize hh : l_internal_strconv_Atoi_0 = R
  rw [l_internal_strconv_Atoi_0_is] at hh
  subst hh
  generalize hh : k_internal_strconv_Atoi_0 = R
  rw [k_internal_strconv_Atoi_0_is] at hh
  subst hh
  kernel_rfl

theorem l_internal_strconv_Atoi_0_eq (fuel d : Nat) (n : Nat) (x5 : ByteArray) (x6 : Int) (x47 : Sl) (x48 : Int) (x49 : Int) (h : AHeap) :
    l_internal_strconv_Atoi_0 fuel d (n + 1) [(5, (AVal.str x5)), (6, (AVal.int .i64 x6)), (47, (AVal.slice x47)), (48, (AVal.int .i64 x48)), (49, (AVal.int .i64 x49))] h =
  (bif (decide (x49 < x48)) then ((AHeap.addr h 1 x47 x49).bind fun p1 =>
    (AHeap.cell h p1).bind fun u2 =>
    (AVal.int? .u8 u2).bind fun n3 =>
    (bif (decide ((9 : Int) < (IntKind.wrap .u8 (n3 - (48 : Int))))) then (some (.ret, [(2, (AVal.int .i64 (0 : Int))), (3, (AVal.iface T_strconv_Error (AVal.int .i64 (2 : Int)))), (5, (AVal.str x5)), (6, (AVal.int .i64 x6))], h)) else (l_internal_strconv_Atoi_0 fuel d n [(5, (AVal.str x5)), (6, (AVal.int .i64 (IntKind.wrap .i64 ((IntKind.wrap .i64 (x6 * (10 : Int))) + (IntKind.wrap .i64 (IntKind.wrap .u8 (n3 - (48 : Int)))))))), (47, (AVal.slice x47)), (48, (AVal.int .i64 x48)), (49, (AVal.int .i64 (IntKind.wrap .i64 (x49 + (1 : Int)))))] h))) else (some ((.exit 0), [(2, AVal.bot), (3, AVal.bot), (5, (AVal.str x5)), (6, (AVal.int .i64 x6))], h))) := by
  generalize hh : l_internal_strconv_Atoi_0 = R
  rw [l_internal_strconv_Atoi_0_is] at hh
  subst hh
  kernel_rfl

theorem l_internal_strconv_Atoi_0_0 (fuel d : Nat) (fr : Fr) (h : AHeap) :
    l_internal_strconv_Atoi_0 fuel d 0 fr h =
  none := by
  generalize hh : l_internal_strconv_Atoi_0 = R
  rw [l_internal_strconv_Atoi_0_is] at hh
  subst hh
  kernel_rfl

theorem k_internal_strconv_Atoi_0_x0 (fuel d : Nat) (x2 : AVal) (x3 : AVal) (x5 : ByteArray) (x6 : Int) (h : AHeap) :
    k_internal_strconv_Atoi_0 fuel d (.exit 0) [(2, x2), (3, x3), (5, (AVal.str x5)), (6, (AVal.int .i64 x6))] h =
  (strAt x5 (0 : Int)).bind fun n1 =>
    ((bif (decide (n1 = (45 : Int))) then (some (.normal, [(6, (AVal.int .i64 (IntKind.wrap .i64 (0 - x6))))], h)) else (some (.normal, [(6, (AVal.int .i64 x6))], h)))).bind fun p2 =>
    k_internal_strconv_Atoi_1 fuel d p2.1 p2.2.1 p2.2.2 := by
  generalize hh : k_internal_strconv_Atoi_0 = R
  rw [k_internal_strconv_Atoi_0_is] at hh
  subst hh
  generalize hh : k_internal_strconv_Atoi_1 = R
  rw [k_internal_strconv_Atoi_1_is] at hh
  subst hh
  kernel_rfl

theorem k_internal_strconv_Atoi_0_r (fuel d : Nat) (x2 : Int) (x3 : AVal) (x5 : AVal) (x6 : AVal) (h : AHeap) :
    k_internal_strconv_Atoi_0 fuel d .ret [(2, (AVal.int .i64 x2)), (3, x3), (5, x5), (6, x6)] h =
  some ((AVal.tup [(AVal.int .i64 x2), x3]), h) := by
  generalize hh : k_internal_strconv_Atoi_0 = R
  rw [k_internal_strconv_Atoi_0_is] at hh
  subst hh
  kernel_rfl

theorem k_internal_strconv_Atoi_1_n (fuel d : Nat) (x6 : Int) (h : AHeap) :
    k_internal_strconv_Atoi_1 fuel d .normal [(6, (AVal.int .i64 x6))] h =
  some ((AVal.tup [(AVal.int .i64 x6), AVal.nilif]), h) := by
  generalize hh : k_internal_strconv_Atoi_1 = R
  rw [k_internal_strconv_Atoi_1_is] at hh
  subst hh
  kernel_rfl

/-! 58: skolem/word.kind -/

noncomputable def k_word_kind_0r (fuel d : Nat) : AExit → Fr → AHeap → Option (AExit × Fr × AHeap) := (kBlock 3 (kOut []))

noncomputable def k_word_kind_0 : Nat → Nat → AExit → Fr → AHeap → Option (AExit × Fr × AHeap) := hide k_word_kind_0r

theorem k_word_kind_0_is : k_word_kind_0 = k_word_kind_0r := hide_eq _

noncomputable def k_word_kind_1r (fuel d : Nat) : AExit → Fr → AHeap → Option (AVal × AHeap) := (kSeq (Cf fuel F_word_kind) false (acall (C fuel) false d) (acall (C fuel) true d) 12 (csub [true, false, true, false, false, false, true] (fbody Go.Proofs.Tryd.f58)) (asub [true, false, true, false, false, false, true] an58) (kBlock 4 (kSeq (Cf fuel F_word_kind) false (acall (C fuel) false d) (acall (C fuel) true d) 12 (csub [true, false, true, false, true] (fbody Go.Proofs.Tryd.f58)) (asub [true, false, true, false, true] an58) (kBlock 0 (kSeq (Cf fuel F_word_kind) false (acall (C fuel) false d) (acall (C fuel) true d) 12 (csub [true, true] (fbody Go.Proofs.Tryd.f58)) (asub [true, true] an58) (kRet (Cf fuel F_word_kind) Go.Proofs.Tryd.f58.results.toList))))))

noncomputable def k_word_kind_1 : Nat → Nat → AExit → Fr → AHeap → Option (AVal × AHeap) := hide k_word_kind_1r

theorem k_word_kind_1_is : k_word_kind_1 = k_word_kind_1r := hide_eq _

theorem e_word_kind (fuel d : Nat) (x0 : Int) (h : AHeap) :
    brun fuel (d + 1) F_word_kind [(AVal.int .u8 x0)] h =
  (((bif (decide (x0 = (32 : Int))) then (some (.normal, [], h)) else ((bif (decide (x0 = (9 : Int))) then (some (.normal, [], h)) else ((bif (decide (x0 = (13 : Int))) then (some ((.exit 3), [], h)) else ((bif (decide (x0 = (10 : Int))) then (some ((.exit 4), [], h)) else (some ((.exit 0), [], h)))))))))).bind fun p1 =>
    k_word_kind_0 fuel d p1.1 p1.2.1 p1.2.2).bind fun p2 =>
    k_word_kind_1 fuel d p2.1 p2.2.1 p2.2.2 := by
  generalize hh : brun = R
  rw [brun_is] at hh
  subst hh
  generalize hh : k_word_kind_0 = R
  rw [k_word_kind_0_is] at hh
  subst hh
  generalize hh : k_word_kind_1 = R
  rw [k_word_kind_1_is] at hh
  subst hh
  kernel_rfl

theorem k_word_kind_0_x0 (fuel d : Nat)  (h : AHeap) :
    k_word_kind_0 fuel d (.exit 0) [] h =
  some ((.exit 0), [], h) := by
  generalize hh : k_word_kind_0 = R
  rw [k_word_kind_0_is] at hh
  subst hh
  kernel_rfl

theorem k_word_kind_0_x3 (fuel d : Nat)  (h : AHeap) :
    k_word_kind_0 fuel d (.exit 3) [] h =
  some (.normal, [], h) := by
  generalize hh : k_word_kind_0 = R
  rw [k_word_kind_0_is] at hh
  subst hh
  kernel_rfl

theorem k_word_kind_0_x4 (fuel d : Nat)  (h : AHeap) :
    k_word_kind_0 fuel d (.exit 4) [] h =
  some ((.exit 4), [], h) := by
  generalize hh : k_word_kind_0 = R
  rw [k_word_kind_0_is] at hh
  subst hh
  kernel_rfl

theorem k_word_kind_0_n (fuel d : Nat)  (h : AHeap) :
    k_word_kind_0 fuel d .normal [] h =
  some (.normal, [], h) := by
  generalize hh : k_word_kind_0 = R
  rw [k_word_kind_0_is] at hh
  subst hh
  kernel_rfl

theorem k_word_kind_1_x0 (fuel d : Nat)  (h : AHeap) :
    k_word_kind_1 fuel d (.exit 0) [] h =
  some ((AVal.int .i64 (0 : Int)), h) := by
  generalize hh : k_word_kind_1 = R
  rw [k_word_kind_1_is] at hh
  subst hh
  kernel_rfl

theorem k_word_kind_1_x4 (fuel d : Nat)  (h : AHeap) :
    k_word_kind_1 fuel d (.exit 4) [] h =
  some ((AVal.int .i64 (2 : Int)), h) := by
  generalize hh : k_word_kind_1 = R
  rw [k_word_kind_1_is] at hh
  subst hh
  kernel_rfl

theorem k_word_kind_1_n (fuel d : Nat)  (h : AHeap) :
    k_word_kind_1 fuel d .normal [] h =
  some ((AVal.int .i64 (1 : Int)), h) := by
  generalize hh : k_word_kind_1 = R
  rw [k_word_kind_1_is] at hh
  subst hh
  kernel_rfl

theorem e_bytealg_IndexByte (fuel d : Nat) (x0 : Sl) (x1 : Int) (h : AHeap) :
    run fuel d F_bytealg_IndexByte [(AVal.slice x0), (AVal.int .u8 x1)] h =
  (AHeap.sliceCells h 1 x0).bind fun c1 => (bytesFrom c1).bind fun b2 => some ((AVal.int .i64 (Lib.indexByte b2 (Int.toNat x1).toUInt8)), h) := by
  generalize hh : run = R
  rw [run_is] at hh
  subst hh
  cases d <;> kernel_rfl

end Go.Proofs.YthccobceodgmlaaDoor
