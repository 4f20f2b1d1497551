/-
  ProofLimits: the texts, read.
-/
import Derived.Test.YtdkckkhghghhdaaDoorRd1
import Derived.Test.YtdkckkhghghhdaaDoorPChk
namespace Go.Proofs.YtdkckkhghghhdaaDoor
open Go.RowKit

def manyL (n : Nat) : List UInt8 := (List.replicate n [49, 32, 48, 10]).flatten
def textsL : List (List UInt8) := [[52, 48, 48, 49, 32, 48], [45, 52, 48, 48, 49, 32, 48], [120], [49, 32, 50], [100], [49, 32, 100, 32, 48], [100, 32, 100, 32, 49, 32, 48], [52, 48, 48, 48, 32, 45, 52, 48, 48, 48, 32, 48], [48], [100, 32, 48]]
def placesL : List Int := [0, 0, 0, 3, 1, 2, 2, -1, -1, -1]
def chkL (n k : Nat) : Bool := match readA (manyL n ++ textsL.getD k []) with
  | .ok l => decide (placesL.getD k 0 < 0) && (l.length == n + 1) && ((l.getD n (false, [])).1 == decide (k = 9)) && decide (litsN l ≤ 1000) && (badS l 0).isNone && l.all fun s => decide (s.2.length < 1000)
  | .bad p => decide (0 ≤ placesL.getD k 0) && decide ((p : Int) = 4 * (n : Int) + placesL.getD k 0)
theorem chkL_all : ((List.range 20).all fun n => (List.range 10).all fun k => chkL n k) = true := by kernel_rfl
theorem chkL_at {n k : Nat} (hn : n < 20) (hk : k < 10) : chkL n k = true := by
  have := List.all_eq_true.1 chkL_all n (List.mem_range.2 hn)
  exact List.all_eq_true.1 this k (List.mem_range.2 hk)
end Go.Proofs.YtdkckkhghghhdaaDoor
