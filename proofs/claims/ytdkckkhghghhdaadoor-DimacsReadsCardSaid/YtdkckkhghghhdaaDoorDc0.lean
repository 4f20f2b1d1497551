/-
  Clauses of words: what is read.
-/
import Derived.Test.YtdkckkhghghhdaaDoorWd4
import Derived.Test.YtdkckkhghghhdaaDoorS8a
import Derived.Test.YtdkckkhghghhdaaDoorS7a
namespace Go.Proofs.YtdkckkhghghhdaaDoor
open Go.RowKit

/-- what reading clauses gives: clauses, or the place of what is amiss -/
inductive ClR where
  | ok (l : List (List Int)) : ClR
  | bad (p : Int) : ClR
def noLitV (t : List UInt8) (vars : Int) : Bool := !okNum t || (!decide (numW t = 0) && !isI (numW t) vars)
def clT (e vars many : Int) : List Wd → List (List Int) → List Int → ClR
  | [], out, c => if (out.length : Int) < many ∨ c ≠ [] then .bad e else .ok out
  | w :: ws, out, c =>
    if many ≤ (out.length : Int) ∨ noLitV w.text vars = true then .bad (w.pos : Int)
    else if numW w.text = 0 then clT e vars many ws (out ++ [c]) []
    else clT e vars many ws out (c ++ [numW w.text])
end Go.Proofs.YtdkckkhghghhdaaDoor
