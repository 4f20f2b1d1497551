/-
  skolemmake.Clauses, skolemmake.CNF, as values.
-/
import Derived.Test.YthccobceodgmlaaDoorS7
namespace Go.Proofs.YthccobceodgmlaaDoor
open Go.RowKit

theorem Clauses_run (fuel d : Nat) {l : List Int} {vars : Int} (hv' : vars ≤ 1000000) (hl : l.length < 1000000) (hf : l.length < fuel) (h : AHeap) :
    run fuel (d + 3) F_skolemmake_Clauses [.slice (lstI l), .int .i64 vars] h = some (.slice (lstLL (clausesI l vars)), h) := by
  obtain ⟨s, h', e1, e2⟩ := Clauses_body fuel d hv' hl hf AHeap.none
  refine pure_of rfl rfl (cc2 (canon_lstI 7 l) rfl) (by rw [e_skolemmake_Clauses]; exact e1) ?_
  have hg : Grown h' 1 s (gridC (clausesI l vars)) := e2.holds
  have hl2 := hg.len
  simp only [List.length_map, Nat.mul_one] at hl2
  rw [hg.freeze (n := 7) (by omega) (freeze_gridC 6 _), ← hl2]

theorem CNF_run (fuel d : Nat) {l : List Int} {vars : Int} (hv' : vars ≤ 1000000) (hl : l.length < 1000000) (hf : l.length < fuel) (h : AHeap) :
    run fuel (d + 4) F_skolemmake_CNF [.slice (lstI l), .int .i64 vars] h = some (.agg (cnfC vars (clausesI l vars)), h) := by
  refine pure_of rfl rfl (cc2 (canon_lstI 7 l) rfl) (r := .agg (cnfC vars (clausesI l vars))) (h' := ?_) ?_ (freeze_cnf 6 _ _)
  rotate_left
  · rw [e_skolemmake_CNF, Clauses_run fuel d hv' hl hf]
    rfl

end Go.Proofs.YthccobceodgmlaaDoor
