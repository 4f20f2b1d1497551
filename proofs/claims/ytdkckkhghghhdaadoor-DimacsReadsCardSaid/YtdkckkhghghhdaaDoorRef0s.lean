/-
  skolemref.SameInts.
-/
import Derived.Test.YtdkckkhghghhdaaDoorE
import Derived.Test.YtdkckkhghghhdaaDoorBm31
namespace Go.Proofs.YtdkckkhghghhdaaDoor
open Go.RowKit

theorem sucS {m : Nat} (h : m < 9000000000000000000) : IntKind.wrap .i64 ((m : Int) + 1) = ((m + 1 : Nat) : Int) := by rw [wrap64 (by omega) (by omega)]; omega
theorem sameI_loop (fuel d : Nat) {a b : List Int} (hl : a.length = b.length) (hn : a.length < 1000000000) {h : AHeap} : ∀ (n k : Nat), a.length < n + k → k ≤ a.length → a.take k = b.take k →
    (l_skolemref_SameInts_0 fuel d n [(0, .slice (lstI a)), (1, .slice (lstI b)), (5, .int .i64 (k : Int))] h).bind (fun p => k_skolemref_SameInts_0 fuel d p.1 p.2.1 p.2.2) = some (.bool (decide (a = b)), h) := by
  intro n
  induction n with
  | zero => intro k h1 h2; omega
  | succ n ih =>
    intro k h1 h2 h3
    rw [l_skolemref_SameInts_0_eq, len_lst]
    by_cases hk : k < a.length
    · rw [bif_pos (by omega), addr_lstM _ (by omega) (by omega) 0, addr_lstM _ (by omega) (by omega) 0]
      simp only [Option.bind_some, cell_fp, int_int, Int.toNat_natCast]
      by_cases he : a.getD k 0 = b.getD k 0
      · rw [bif_npos he, sucS (by omega), ih (k + 1) (by omega) (by omega) (by rw [take_get hk 0, take_get (by omega) 0, h3, he])]
      · rw [bif_nneg he]
        simp only [Option.bind_some, k_skolemref_SameInts_0_r]
        rw [decide_eq_false (fun h => he (by rw [h]))]
    · have : k = a.length := by omega
      subst this
      rw [bif_neg (by omega)]
      have : a = b := by rw [List.take_length, hl, List.take_length] at h3; exact h3
      simp only [Option.bind_some, k_skolemref_SameInts_0_x0]
      rw [decide_eq_true this]
theorem sameI_run (fuel d : Nat) {a b : List Int} {s t : Sl} {h : AHeap} (hs : freezeV h 8 (.slice s) = some (.slice (lstI a))) (ht : freezeV h 8 (.slice t) = some (.slice (lstI b))) (hn : a.length < 1000000000) (hf : a.length < fuel) :
    run fuel (d + 1) F_skolemref_SameInts [.slice s, .slice t] h = some (.bool (decide (a = b)), h) := by
  refine run_val rfl rfl (mm2 hs ht) (r := .bool (decide (a = b))) (h' := AHeap.none) ?_ rfl rfl
  rw [e_skolemref_SameInts, len_lst, len_lst]
  by_cases hl : a.length = b.length
  · rw [bif_npos (by omega)]
    have := sameI_loop fuel d hl hn (h := AHeap.none) fuel 0 (by omega) (by omega) rfl
    exact this
  · rw [bif_nneg (by omega), decide_eq_false (fun h => hl (by rw [h]))]

end Go.Proofs.YtdkckkhghghhdaaDoor
