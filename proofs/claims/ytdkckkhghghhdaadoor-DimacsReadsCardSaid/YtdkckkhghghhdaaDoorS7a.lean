/-
  Clauses and CNFs as cells.
-/
import Derived.Test.YtdkckkhghghhdaaDoorBm31
namespace Go.Proofs.YtdkckkhghghhdaaDoor
open Go.RowKit

abbrev gridC (cc : List (List Int)) : List AVal := cc.map fun c => .slice (lstI c)
theorem gridC_append (a b : List (List Int)) : gridC (a ++ b) = gridC a ++ gridC b := List.map_append
theorem intsC_append (a b : List Int) : intsC (a ++ b) = intsC a ++ intsC b := List.map_append

theorem freeze_gridC {h : AHeap} (n : Nat) (cc : List (List Int)) : (gridC cc).mapM (freezeV h (n + 1)) = some (gridC cc) := mapM_freeze (g := fun c => .slice (lstI c)) (fun c => freeze_lstI n c) cc

/-! A CNF's cells. -/
def cnfC (vars : Int) (cc : List (List Int)) : List AVal := [.int .i64 vars, .slice (lstLL cc)]
theorem freeze_cnf {h : AHeap} (n : Nat) (vars : Int) (cc : List (List Int)) : freezeV h (n + 2) (.agg (cnfC vars cc)) = some (.agg (cnfC vars cc)) :=
  freeze_agg _ (mm2 rfl (freeze_lst _ _ _ (closedL_map closed_lstI cc)))
def totalI (cc : List (List Int)) : Nat := (cc.map List.length).sum
end Go.Proofs.YtdkckkhghghhdaaDoor
