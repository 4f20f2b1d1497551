/-
  lits.Is.
-/
import Derived.Test.YtdkckkhghghhdaaDoorE
namespace Go.Proofs.YtdkckkhghghhdaaDoor
open Go.RowKit

def isI (l n : Int) : Bool := bif (bif (!decide (l = (0 : Int))) then (decide ((IntKind.wrap .i64 (0 - n)) ≤ l)) else false) then (decide (l ≤ n)) else false
theorem Is_run (fuel d : Nat) (l n : Int) (h : AHeap) : run fuel (d + 1) F_lits_Is [.int .i64 l, .int .i64 n] h = some (.bool (isI l n), h) :=
  pure_of rfl rfl (cc2 rfl rfl) (by rw [e_lits_Is]) rfl
theorem isI_iff {l n : Int} (h0 : -9223372036854775808 < n) (h1 : n ≤ 9223372036854775807) : isI l n = true ↔ l ≠ 0 ∧ -n ≤ l ∧ l ≤ n := by
  unfold isI
  rw [wrap64 (by omega) (by omega)]
  by_cases a : l = 0
  · simp [a]
  · by_cases b : -n ≤ l <;> by_cases c : l ≤ n <;> simp [a, b, c]

end Go.Proofs.YtdkckkhghghhdaaDoor
