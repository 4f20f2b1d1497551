/-
  Proofs as text: what is read.
-/
import Derived.Test.YtdkckkhghghhdaaDoorWd4
import Derived.Test.YtdkckkhghghhdaaDoorS8a
namespace Go.Proofs.YtdkckkhghghhdaaDoor
open Go.RowKit

/-- a step: whether it drops, its literals -/
abbrev Stp := Bool × List Int
def stepC (s : Stp) : List AVal := [.bool s.1, .slice (lstI s.2)]
theorem stepC_len (s : Stp) : (stepC s).length = 2 := rfl
abbrev stepsC (l : List Stp) : List AVal := l.flatMap stepC
abbrev lstS (l : List Stp) : Sl := lstN stepC l
theorem stepsC_len (l : List Stp) : (stepsC l).length = l.length * 2 := flatMap_len stepC_len l
theorem closed_stepC (s : Stp) : closedL (stepC s) = true := by
  show (true && ((AVal.slice (lstI s.2)).closed && true)) = true
  rw [closed_lstI]; rfl
theorem freeze_stepsC {h : AHeap} (n : Nat) (l : List Stp) : (stepsC l).mapM (freezeV h (n + 2)) = some (stepsC l) := mapM_freezeN (fun w => mm2 rfl (freeze_lstI _ _)) l
theorem freeze_lstS {h : AHeap} (n : Nat) (l : List Stp) : freezeV h (n + 1) (.slice (lstS l)) = some (.slice (lstS l)) := freeze_lst _ _ _ (closedL_flatMap closed_stepC l)
theorem canon_lstS (n : Nat) (l : List Stp) : canonV (n + 1) (.slice (lstS l)) = some (.slice (lstS l)) := canon_lst (closedL_flatMap closed_stepC l)

/-- what reading gives: steps, or the place of what is amiss -/
inductive RdS where
  | ok (l : List Stp) : RdS
  | bad (p : Nat) : RdS
/-- a word that is no literal, nor 0 -/
def noLit (t : List UInt8) : Bool := !okNum t || (!decide (numW t = 0) && !isI (numW t) 4000)
def readT (e : Nat) : List Wd → List Stp → Stp → Bool → RdS
  | [], out, _, begun => if begun = true then .bad e else .ok out
  | w :: ws, out, now, begun =>
    if (!begun && w.text == [100]) = true then readT e ws out (true, now.2) true
    else if noLit w.text = true then .bad w.pos
    else if numW w.text = 0 then readT e ws (out ++ [now]) (false, []) false
    else readT e ws out (now.1, now.2 ++ [numW w.text]) true
end Go.Proofs.YtdkckkhghghhdaaDoor
