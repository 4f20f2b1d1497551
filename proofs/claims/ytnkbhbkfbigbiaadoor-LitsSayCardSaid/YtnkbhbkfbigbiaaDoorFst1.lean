/-
  The first examples of chapter 1.
-/
import Derived.Test.YtnkbhbkfbigbiaaDoorNrm1
namespace Go.Proofs.YtnkbhbkfbigbiaaDoor
open Go.RowKit

/-! the first examples -/
theorem norm_first : normL [2, -1, 2] = [-1, 2] ∧ saysL (normL [2, -1, 2]) = true := by
  have : normL [2, -1, 2] = [-1, 2] := by decide +kernel
  rw [this]
  exact ⟨rfl, by decide +kernel⟩
theorem first1_run (fuel : Nat) {e : Nat} (he : 51 ≤ e) (hf : 20 < fuel) (h : AHeap) : run fuel e F_skolemlaw1_first [] h = some (.bool true, h) := by
  obtain ⟨e, rfl⟩ : ∃ e', e = e' + 51 := ⟨e - 51, by omega⟩
  refine pure_of rfl rfl canonL_nil (r := .bool true) (h' := AHeap.none) ?_ rfl
  have hr := Norm_canon (fuel := fuel) (e := e + 50) (by omega) (l := [2, -1, 2]) (by simp) (by simp; omega) (v := .slice (Sl.lst 3 true [.int .i64 2, .int .i64 (-1), .int .i64 2])) (canon_lst (n := 7) rfl) AHeap.none
  rw [norm_first.2, norm_first.1] at hr
  rw [e_skolemlaw1_first, hr]
  rfl
end Go.Proofs.YtnkbhbkfbigbiaaDoor
