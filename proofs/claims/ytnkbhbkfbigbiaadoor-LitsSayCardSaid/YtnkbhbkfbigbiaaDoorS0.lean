/-
  Literals.
-/
import Derived.Test.YtnkbhbkfbigbiaaDoorE
namespace Go.Proofs.YtnkbhbkfbigbiaaDoor
open Go.RowKit

theorem succI {n : Nat} (h : n < 9000000000000000000) : IntKind.wrap .i64 ((n : Int) + 1) = ((n + 1 : Nat) : Int) := by rw [wrap64 (by omega) (by omega)]; omega

/-! lits.Var -/
def varI (l : Int) : Int := bif decide (l < IntKind.wrap .i64 (0 - l)) then IntKind.wrap .i64 (0 - l) else l
theorem Var_run (fuel d : Nat) (l : Int) (h : AHeap) : run fuel (d + 1) F_lits_Var [.int .i64 l] h = some (.int .i64 (varI l), h) :=
  pure_of rfl rfl (cc1 rfl) (by rw [e_lits_Var]) rfl
def okInt (l : Int) : Prop := -9223372036854775808 < l ∧ l ≤ 9223372036854775807
theorem varI_eq {l : Int} (h : okInt l) : varI l = (l.natAbs : Int) := by
  obtain ⟨h1, h2⟩ := h
  unfold varI
  rw [wrap64 (by omega) (by omega)]
  by_cases h0 : l < 0 - l
  · rw [decide_eq_true h0, cond_true]; omega
  · rw [decide_eq_false h0, cond_false]; omega

end Go.Proofs.YtnkbhbkfbigbiaaDoor
