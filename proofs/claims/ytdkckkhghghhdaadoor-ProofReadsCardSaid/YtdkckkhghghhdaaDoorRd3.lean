/-
  skolemref.SameSteps.
-/
import Derived.Test.YtdkckkhghghhdaaDoorRd0
import Derived.Test.YtdkckkhghghhdaaDoorRef0s
namespace Go.Proofs.YtdkckkhghghhdaaDoor
open Go.RowKit

theorem sameStep_run (fuel d : Nat) {s : Stp} (hl : s.2.length < 1000000000) (hf : s.2.length < fuel) (h : AHeap) : run fuel (d + 2) F_skolemref_SameStep [.agg (stepC s), .agg (stepC s)] h = some (.bool true, h) := by
  have hc : canonV 8 (.agg (stepC s)) = some (.agg (stepC s)) := by
    unfold stepC
    rw [canon_agg, canonM_cons (u := .bool s.1) rfl (canonM_cons (u := .slice (lstI s.2)) (canon_lstI _ _) (canonM_nil _))]
    rfl
  refine pure_of rfl rfl (cc2 hc hc) (r := .bool true) ?_ rfl (h' := (AHeap.none.push 1 (stepC s)).push 1 (stepC s))
  rw [e_skolemref_SameStep, show List.all (stepC s) AVal.isCell = true from rfl, cond_true, cond_true, stepC_len]
  have s1 := ((Sep0.start AHeap.none).push 1 2 (cs := stepC s) rfl).push 1 2 (cs := stepC s) rfl
  have a0 : ((AHeap.none.push 1 (stepC s)).push 1 (stepC s)).cell (.mk ⟨AHeap.none.next, 0, 0 + 0⟩ 2) = some (.bool s.1) := s1.part (i := 0) rfl (by omega) rfl
  have a1 : ((AHeap.none.push 1 (stepC s)).push 1 (stepC s)).cell (.mk ⟨AHeap.none.next, 0, 0 + 1⟩ 2) = some (.slice (lstI s.2)) := s1.part (i := 0) rfl (by omega) rfl
  have b0 : ((AHeap.none.push 1 (stepC s)).push 1 (stepC s)).cell (.mk ⟨(AHeap.none.push 1 (stepC s)).next, 0, 0 + 0⟩ 2) = some (.bool s.1) := s1.part (i := 1) rfl (by omega) rfl
  have b1 : ((AHeap.none.push 1 (stepC s)).push 1 (stepC s)).cell (.mk ⟨(AHeap.none.push 1 (stepC s)).next, 0, 0 + 1⟩ 2) = some (.slice (lstI s.2)) := s1.part (i := 1) rfl (by omega) rfl
  simp only [field_mk, Option.bind_some, a0, a1, b0, b1, bool_bool, slice_slice]
  rw [show (s.1 == s.1) = true from by cases s.1 <;> rfl]
  simp only [beq_self_eq_true, cond_true]
  rw [sameI_run fuel d (freeze_lstI 7 _) (freeze_lstI 7 _) hl hf]
  simp only [Option.bind_some, bool_bool, decide_true]
theorem sameSteps_loop (fuel d : Nat) {l : List Stp} (hl : l.length < 1000000000) (hs : ∀ s ∈ l, s.2.length < 1000000000 ∧ s.2.length < fuel) (h : AHeap) : ∀ (n k : Nat), l.length < n + k → k ≤ l.length →
    l_skolemref_SameSteps_0 fuel (d + 2) n [(0, .slice (lstS l)), (1, .slice (lstS l)), (5, .int .i64 (k : Int))] h = some (.exit 0, [(4, .bot)], h) := by
  intro n
  induction n with
  | zero => intro k h1 h2; omega
  | succ n ih =>
    intro k h1 h2
    rw [l_skolemref_SameSteps_0_eq, len_lst]
    by_cases hk : k < l.length
    · obtain ⟨q1, q2⟩ := hs (l.getD k (false, [])) (by simp [List.getD, hk])
      rw [bif_pos (by omega), addr_lstN (sz := 2) (f := stepC) stepC_len (l := l) (j := (k : Int)) (by omega) (by omega) (false, []), Int.toNat_natCast]
      generalize l.getD k (false, []) = s at q1 q2
      simp only [Option.bind_some]
      rw [cellsAt_fp (stepC_len s)]
      simp only [Option.bind_some]
      rw [sameStep_run fuel d q1 q2]
      simp only [Option.bind_some, bool_bool, Bool.not_true, cond_false]
      rw [sucS (by omega)]
      exact ih (k + 1) (by omega) (by omega)
    · rw [bif_neg (by omega)]
theorem sameSteps_run (fuel d : Nat) {l : List Stp} (hl : l.length < 1000000000) (hlf : l.length < fuel) (hs : ∀ s ∈ l, s.2.length < 1000000000 ∧ s.2.length < fuel) (h : AHeap) : run fuel (d + 3) F_skolemref_SameSteps [.slice (lstS l), .slice (lstS l)] h = some (.bool true, h) := by
  refine pure_of rfl rfl (cc2 (canon_lstS 7 l) (canon_lstS 7 l)) (r := .bool true) (h' := AHeap.none) ?_ rfl
  rw [e_skolemref_SameSteps, len_lst, bif_npos rfl]
  have := sameSteps_loop fuel d hl hs AHeap.none fuel 0 (by omega) (by omega)
  rw [show ((0 : Nat) : Int) = 0 from rfl] at this
  rw [this]
  simp only [Option.bind_some, k_skolemref_SameSteps_0_x0]
end Go.Proofs.YtdkckkhghghhdaaDoor
