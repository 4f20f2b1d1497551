/-
  skolemmake.Near.
-/
import Derived.Test.YtnkbhbkfbigbiaaDoorS0
namespace Go.Proofs.YtnkbhbkfbigbiaaDoor
open Go.RowKit

/-- not too near to the least of numbers -/
def nearI (a : List Int) : Bool := a.all fun x => !decide (x < -1152921504606846976)
theorem near_loop (fuel d : Nat) {a : List Int} (hn : a.length < 9000000000000000000) {h : AHeap} : ∀ (n k : Nat), a.length < n + k → k ≤ a.length →
    (l_skolemmake_Near_0 fuel d n [(0, .slice (lstI a)), (3, .int .i64 (k : Int))] h).bind (fun p => k_skolemmake_Near_0 fuel d p.1 p.2.1 p.2.2) = some (.bool (nearI (a.drop k)), h) := by
  intro n
  induction n with
  | zero => intro k h1 h2; omega
  | succ n ih =>
    intro k h1 h2
    rw [l_skolemmake_Near_0_eq, len_lst]
    by_cases hk : k < a.length
    · rw [bif_pos (by omega), addr_lstM _ (by omega) (by omega) 0]
      simp only [Option.bind_some, cell_fp, int_int, Int.toNat_natCast]
      have hd : a.drop k = a.getD k 0 :: a.drop (k + 1) := by rw [List.drop_eq_getElem_cons hk]; simp [List.getD, hk]
      rw [hd]
      unfold nearI
      rw [List.all_cons]
      by_cases he : a.getD k 0 < -1152921504606846976
      · rw [bif_pos he, decide_eq_true he]
        simp only [Option.bind_some, k_skolemmake_Near_0_r, Bool.not_true, Bool.false_and]
      · rw [bif_neg he, succI (by omega), ih (k + 1) (by omega) (by omega), decide_eq_false he, Bool.not_false, Bool.true_and]
        rfl
    · have : k = a.length := by omega
      subst this
      rw [bif_neg (by omega)]
      simp only [Option.bind_some, k_skolemmake_Near_0_x0, List.drop_length]
      rfl
theorem near_run (fuel d : Nat) {a : List Int} {s : Sl} {h : AHeap} (hs : freezeV h 8 (.slice s) = some (.slice (lstI a))) (hn : a.length < 9000000000000000000) (hf : a.length < fuel) :
    run fuel (d + 1) F_skolemmake_Near [.slice s] h = some (.bool (nearI a), h) := by
  refine run_val rfl rfl (mm1 hs) (r := .bool (nearI a)) (h' := AHeap.none) ?_ rfl rfl
  rw [e_skolemmake_Near]
  have := near_loop fuel d hn (h := AHeap.none) fuel 0 (by omega) (by omega)
  rw [List.drop_zero] at this
  exact this
theorem near_ok {a : List Int} (h : nearI a = true) (hw : ∀ x ∈ a, x ≤ 9223372036854775807) : ∀ x ∈ a, okInt x := fun x hx => by
  have := List.all_eq_true.1 h x hx
  simp at this
  exact ⟨by omega, hw x hx⟩
end Go.Proofs.YtnkbhbkfbigbiaaDoor
