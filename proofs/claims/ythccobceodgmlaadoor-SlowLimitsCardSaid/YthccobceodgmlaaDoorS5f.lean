/-
  The chapter's example.
-/
import Derived.Test.YthccobceodgmlaaDoorS5
namespace Go.Proofs.YthccobceodgmlaaDoor
open Go.RowKit

theorem first7_run (fuel d : Nat) (hf : 2 ^ 21 ≤ fuel) (h : AHeap) : run fuel (d + 6) F_skolemlaw7_first [] h = some (.bool true, h) := by
  refine pure_of rfl rfl canonL_nil (r := .bool true) (h' := AHeap.none) ?_ rfl
  obtain ⟨r, e1, e2⟩ := Value_run fuel d (ex := false) (outer := []) (inner := []) (cc := []) (mc := []) (by simp) hf ⟨by simp, by simp; omega, fun c h => by cases h⟩ rfl (h := AHeap.none) (x := .agg [.bool false, .slice .nil, .slice .nil, .slice .nil]) rfl
  have hr : r = true := by
    cases r with
    | true => rfl
    | false =>
      obtain ⟨o', l1, l2⟩ := e2.1 rfl
      have := l2 [] rfl
      cases this
  rw [e_skolemlaw7_first, e1, hr]
  rfl

end Go.Proofs.YthccobceodgmlaaDoor
