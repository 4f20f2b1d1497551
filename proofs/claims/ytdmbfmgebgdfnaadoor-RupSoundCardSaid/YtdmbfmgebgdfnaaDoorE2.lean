/-
  What each function does: printed by program, checked by the kernel.
-/
import Derived.Test.YtdmbfmgebgdfnaaDoorE
namespace Go.Proofs.YtdmbfmgebgdfnaaDoor
set_option linter.unusedVariables false
set_option maxRecDepth 100000

theorem e_slices_medianCmpFunc_int (fuel d : Nat) (x0 : Sl) (x1 : Int) (x2 : Int) (x3 : Int) (x4 : Pt) (x5f : Nat) (x5c : List Pt) (h : AHeap) :
    run fuel (d + 1) F_slices_medianCmpFunc_int [(AVal.slice x0), (AVal.int .i64 x1), (AVal.int .i64 x2), (AVal.int .i64 x3), (AVal.ptr x4), (AVal.func x5f x5c)] h =
  (run fuel d F_slices_order2CmpFunc_int [(AVal.slice x0), (AVal.int .i64 x1), (AVal.int .i64 x2), (AVal.ptr x4), (AVal.func x5f x5c)] h).bind fun r1 =>
    (bif AVal.isTup 2 r1.1 then ((AVal.comp 0 r1.1).bind fun u2 =>
    (AVal.int? .i64 u2).bind fun n3 =>
    (AVal.comp 1 r1.1).bind fun u4 =>
    (AVal.int? .i64 u4).bind fun n5 =>
    (run fuel d F_slices_order2CmpFunc_int [(AVal.slice x0), (AVal.int .i64 n5), (AVal.int .i64 x3), (AVal.ptr x4), (AVal.func x5f x5c)] r1.2).bind fun r6 =>
    (bif AVal.isTup 2 r6.1 then ((AVal.comp 0 r6.1).bind fun u7 =>
    (AVal.int? .i64 u7).bind fun n8 =>
    (AVal.comp 1 r6.1).bind fun u9 =>
    (AVal.int? .i64 u9).bind fun n10 =>
    (run fuel d F_slices_order2CmpFunc_int [(AVal.slice x0), (AVal.int .i64 n3), (AVal.int .i64 n8), (AVal.ptr x4), (AVal.func x5f x5c)] r6.2).bind fun r11 =>
    (bif AVal.isTup 2 r11.1 then ((AVal.comp 0 r11.1).bind fun u12 =>
    (AVal.int? .i64 u12).bind fun n13 =>
    (AVal.comp 1 r11.1).bind fun u14 =>
    (AVal.int? .i64 u14).bind fun n15 =>
    some ((AVal.int .i64 n15), r11.2)) else none)) else none)) else none) := by
  generalize hh : run = R
  rw [run_is] at hh
  subst hh
  kernel_rfl

theorem e_slices_order2CmpFunc_int (fuel d : Nat) (x0 : Sl) (x1 : Int) (x2 : Int) (x3 : Pt) (x4f : Nat) (x4c : List Pt) (h : AHeap) :
    run fuel (d + 1) F_slices_order2CmpFunc_int [(AVal.slice x0), (AVal.int .i64 x1), (AVal.int .i64 x2), (AVal.ptr x3), (AVal.func x4f x4c)] h =
  (AHeap.addr h 1 x0 x2).bind fun p1 =>
    (AHeap.cell h p1).bind fun u2 =>
    (AVal.int? .i64 u2).bind fun n3 =>
    (AHeap.addr h 1 x0 x1).bind fun p4 =>
    (AHeap.cell h p4).bind fun u5 =>
    (AVal.int? .i64 u5).bind fun n6 =>
    (run fuel d x4f ([(AVal.int .i64 n3), (AVal.int .i64 n6)] ++ List.map AVal.ptr x4c) h).bind fun r7 =>
    (AVal.int? .i64 r7.1).bind fun n8 =>
    (bif (decide (n8 < (0 : Int))) then ((Pt.chk x3).bind fun p9 =>
    (AHeap.cell r7.2 p9).bind fun u10 =>
    (AVal.int? .i64 u10).bind fun n11 =>
    (Pt.chk x3).bind fun p12 =>
    (AHeap.storeAt r7.2 [(AVal.int .i64 (IntKind.wrap .i64 (n11 + (1 : Int))))] p12).bind fun h13 =>
    some ((AVal.tup [(AVal.int .i64 x2), (AVal.int .i64 x1)]), h13)) else (some ((AVal.tup [(AVal.int .i64 x1), (AVal.int .i64 x2)]), r7.2))) := by
  generalize hh : run = R
  rw [run_is] at hh
  subst hh
  kernel_rfl

end Go.Proofs.YtdmbfmgebgdfnaaDoor
