/-
  slices.Equal, lits.Same.
-/
import Derived.Test.YtnkbhbkfbigbiaaDoorNrm1
namespace Go.Proofs.YtnkbhbkfbigbiaaDoor
open Go.RowKit Go.Sort

section
variable {fuel : Nat} {h : AHeap}

/-! slices.Equal, lits.Same -/
theorem equal_loop (e : Nat) {a b : List Int} (hl : a.length = b.length) (hn : a.length < 1000000000) {h : AHeap} : ∀ (m k : Nat), a.length < m + k → k ≤ a.length → a.take k = b.take k →
    ((l_slices_Equal_s_int_int_0 fuel e m [(0, .slice (lstI a)), (1, .slice (lstI b)), (12, .int .i64 (a.length : Int)), (13, .int .i64 (k : Int))] h).bind fun p => k_slices_Equal_s_int_int_0 fuel e p.1 p.2.1 p.2.2) = some (.bool (decide (a = b)), h) := by
  intro m
  induction m with
  | zero => intro k h1 h2; omega
  | succ m ih =>
    intro k h1 h2 h3
    rw [l_slices_Equal_s_int_int_0_eq]
    by_cases hk : k < a.length
    · rw [bif_pos (by omega), addr_lstM _ (by omega) (by omega) 0, Option.bind_some, cell_fp, Option.bind_some, int_int, Option.bind_some, addr_lstM _ (by omega) (by omega) 0, Option.bind_some, cell_fp, Option.bind_some, int_int, Option.bind_some]
      simp only [Int.toNat_natCast]
      by_cases he : a.getD k 0 = b.getD k 0
      · rw [bif_npos he, sucI (by omega), ih (k + 1) (by omega) (by omega) (by rw [take_get hk 0, take_get (by omega) 0, h3, he])]
      · rw [bif_nneg he]
        simp only [Option.bind_some, k_slices_Equal_s_int_int_0_r]
        rw [decide_eq_false (fun h => he (by rw [h]))]
    · have : k = a.length := by omega
      subst this
      have : a = b := by rw [List.take_length, hl, List.take_length] at h3; exact h3
      rw [bif_neg (by omega)]
      simp only [Option.bind_some, k_slices_Equal_s_int_int_0_x0]
      rw [decide_eq_true this]
theorem equal_run (e : Nat) {a b : List Int} (hn : a.length < 1000000000) (hf : a.length < fuel) (h : AHeap) : run fuel (e + 1) F_slices_Equal_s_int_int [.slice (lstI a), .slice (lstI b)] h = some (.bool (decide (a = b)), h) := by
  refine pure_of rfl rfl (cc2 (canon_lstI 7 a) (canon_lstI 7 b)) (r := .bool (decide (a = b))) (h' := AHeap.none) ?_ rfl
  rw [e_slices_Equal_s_int_int, len_lst, len_lst]
  by_cases hl : a.length = b.length
  · rw [bif_npos (by omega)]
    exact equal_loop e hl hn fuel 0 (by omega) (by omega) rfl
  · rw [bif_nneg (by omega), decide_eq_false (fun h => hl (by rw [h]))]

theorem LSame_run {e : Nat} (he : 51 ≤ e) {a b : List Int} (ha : a.length < 1000000000) (hb : b.length < 1000000000) (hfa : a.length + 10 < fuel) (hfb : b.length + 10 < fuel) {h : AHeap} {s t : Sl} (hs : freezeV h 8 (.slice s) = some (.slice (lstI a))) (ht : freezeV h 8 (.slice t) = some (.slice (lstI b))) :
    run fuel e F_lits_Same [.slice s, .slice t] h = some (.bool (decide (normL a = normL b)), h) := by
  obtain ⟨e, rfl⟩ : ∃ e', e = e' + 50 + 1 := ⟨e - 51, by omega⟩
  refine run_val rfl rfl (mm2 hs ht) (r := .bool (decide (normL a = normL b))) (h' := AHeap.none) ?_ rfl rfl
  have := normL_length a
  rw [e_lits_Same, Norm_run (by omega) ha hfa]
  simp only [Option.bind_some, isTup_tup, List.length_cons, List.length_nil, Nat.beq, cond_true, comp_tup, List.getElem?_cons_zero, List.getElem?_cons_succ, slice_slice, bool_bool]
  rw [Norm_run (by omega) hb hfb]
  simp only [Option.bind_some, isTup_tup, List.length_cons, List.length_nil, Nat.beq, cond_true, comp_tup, List.getElem?_cons_zero, List.getElem?_cons_succ, slice_slice, bool_bool]
  rw [equal_run (e + 49) (by omega) (by omega)]
  simp only [Option.bind_some, bool_bool]
end
end Go.Proofs.YtnkbhbkfbigbiaaDoor
