/-
  skolemmake.Clauses as a row of its own, skolemmake.CNF as a value.
-/
import Derived.Test.YthccobceodgmlaaDoorS7
namespace Go.Proofs.YthccobceodgmlaaDoor
open Go.RowKit

theorem Clauses_run (fuel d : Nat) {l : List Int} {vars : Int} (hv' : vars ≤ 1000000) (hl : l.length < 1000000) (hf : l.length < fuel) (h : AHeap) :
    ∃ s h', run fuel (d + 3) F_skolemmake_Clauses [.slice (lstI l), .int .i64 vars] h = some (.slice s, h') ∧ New h h' (.grown 1 s (gridC (clausesI l vars))) := by
  rw [e_skolemmake_Clauses]
  exact Clauses_body fuel d hv' hl hf h

theorem CNF_run (fuel d : Nat) {l : List Int} {vars : Int} (hv' : vars ≤ 1000000) (hl : l.length < 1000000) (hf : l.length < fuel) (h : AHeap) :
    run fuel (d + 4) F_skolemmake_CNF [.slice (lstI l), .int .i64 vars] h = some (.agg (cnfC vars (clausesI l vars)), h) := by
  obtain ⟨s, h1, e1, e2⟩ := Clauses_run fuel d hv' hl hf (AHeap.none.push 1 [.int .i64 0, .slice .nil])
  have s0 := (((Sep0.start AHeap.none).push 1 2 (cs := [.int .i64 0, .slice .nil]) rfl).add e2)
  obtain ⟨h2, p1, q1⟩ := s0.put (i := 0) (o := 0) (l := 2) (vs := [.int .i64 vars, .slice s]) rfl (by simp) (by simp)
  have hg := q1.sep.grown (i := 1) (sz := 1) (s := s) (cs := gridC (clausesI l vars)) rfl
  have hl2 := hg.len
  simp only [List.length_map, Nat.mul_one] at hl2
  refine pure_of rfl rfl (cc2 (canon_lstI 7 l) rfl) (r := .agg [.int .i64 vars, .slice s]) (h' := h2) ?_ ?_
  · rw [e_skolemmake_CNF, e1]
    have c1 : h2.cellsAt 2 (.mk ⟨AHeap.none.next, 0, 0⟩ 2) = some [.int .i64 vars, .slice s] := (q1.sep.own (i := 0) rfl).parts (by omega) (by simp)
    simp only [Option.bind_some, slice_slice, p1, c1, Option.map_some]
  · refine freeze_agg 7 (mm2 rfl ?_)
    rw [hg.freeze (n := 6) (by omega) (freeze_gridC 5 _), ← hl2]

end Go.Proofs.YthccobceodgmlaaDoor
