/-
  skolemworld.Number.
-/
import Derived.Test.YtdkckkhghghhdaaDoorE
namespace Go.Proofs.YtdkckkhghghhdaaDoor
open Go.RowKit

/-! skolemworld.Number -/
def numI (n b : Int) : Int := bif decide (Int.tmod n b < 0) then IntKind.wrap .i64 (Int.tmod n b + b) else Int.tmod n b
theorem Number_run (fuel d : Nat) {n b : Int} (hb : b ≠ 0) (h : AHeap) : run fuel (d + 1) F_skolemworld_Number [.int .i64 n, .int .i64 b] h = some (.int .i64 (numI n b), h) :=
  pure_of rfl rfl (cc2 rfl rfl) (by
    rw [e_skolemworld_Number, bif_neg hb]
    show _ = some (AVal.int .i64 (numI n b), AHeap.none)
    unfold numI
    cases decide (Int.tmod n b < 0) <;> rfl) rfl
theorem numI_range {n b : Int} (hb : 0 < b) (hb2 : b ≤ 9223372036854775807) : 0 ≤ numI n b ∧ numI n b < b := by
  have h1 := Int.tmod_lt_of_pos n hb
  have h2 : -b < Int.tmod n b := by
    have := Int.neg_lt_of_neg_lt (a := Int.tmod n b) (b := b)
    have h3 := Int.tmod_lt_of_pos (-n) hb
    rw [Int.neg_tmod] at h3
    omega
  unfold numI
  by_cases h0 : Int.tmod n b < 0
  · rw [decide_eq_true h0, cond_true, wrap64 (by omega) (by omega)]; omega
  · rw [decide_eq_false h0, cond_false]; omega

end Go.Proofs.YtdkckkhghghhdaaDoor
