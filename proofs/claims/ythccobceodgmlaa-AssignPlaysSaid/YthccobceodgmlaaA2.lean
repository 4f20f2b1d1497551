/-
  What New, Lit, Clause and Has do, told of lists.
-/
import Derived.Test.YthccobceodgmlaaA1
namespace Go.Proofs.Ythccobceodgmlaa
open Go.RowKit

theorem cut42 (fuel d : Nat) (n : Int) (h : AHeap) (h0 : 0 ≤ n) (h1 : n ≤ 4000) : run fuel (d + 1) 42 [.int .i64 n] h = some (.int .i64 n, h) := by
  rw [e42]
  simp only [Bool.cond_eq_ite, decide_eq_true_eq]
  rw [if_neg (show ¬ n < 0 by omega), if_neg (by omega)]

/-- New values, of which none is known. -/
theorem new11 (fuel d : Nat) (n : Nat) (h : AHeap) (hn : n ≤ 4000) :
    ∃ h', run fuel (d + 2) 11 [.int .i64 (n : Int)] h = some (.ptr (aPt (h.rows.length + 1)), h') ∧ IsAssign h' (h.rows.length + 1) h.rows.length (List.replicate (n + 1) 0) ∧ (∀ t, Keeps h h' t) ∧ h'.rows.length = h.rows.length + 2 ∧
      ∃ row, h'.rows[h.rows.length + 1]? = some row ∧ row.ro = false := by
  rw [e11, cut42 _ _ _ _ (by omega) (by omega)]
  simp only [Option.bind_some, int_int]
  rw [wrap64 (by omega) (by omega)]
  have e : ((n : Int) + 1).toNat = n + 1 := by omega
  have c1 : decide (0 ≤ (n : Int) + 1) = true := by simp; omega
  have c2 : decide (((n : Int) + 1) * 1 ≤ 140737488355328) = true := by simp; omega
  have c3 : decide ((n : Int) + 1 ≤ 140737488355328) = true := by simp; omega
  simp only [c1, c2, c3, e, Bool.and_self, cond_true, Int.le_refl, decide_true, repeat_one, AHeap.next, AHeap.push, List.length_append, List.length_singleton]
  refine ⟨_, rfl, ⟨by omega, by simp, by simp; omega, (by simp), ?_, ?_⟩, fun t => ⟨by simp, fun i row hi _ => ?_⟩, by simp, ?_⟩
  · exact ⟨{ cells := [.slice (.mk ⟨h.rows.length, 0, 0⟩ (n + 1) true)], sz := 1 }, by simp, by simp, rfl, rfl⟩
  · exact ⟨{ cells := List.replicate (n + 1) (.int .i8 0), sz := 1 }, by simp, by simp, rfl, rfl, rfl, rfl⟩
  · have := (List.getElem?_eq_some_iff.1 hi).1
    simp only
    rw [List.getElem?_append_left (by simp; omega), List.getElem?_append_left this]
    exact hi
  · exact ⟨{ cells := [.slice (.mk ⟨h.rows.length, 0, 0⟩ (n + 1) true)], sz := 1 }, by simp, rfl⟩

/-- Number: of so many. -/
theorem number41 (fuel d : Nat) (n m : Int) (h : AHeap) (hm : 0 < m) (hm' : m ≤ 4611686018427387904) :
    run fuel (d + 1) 41 [.int .i64 n, .int .i64 m] h = some (.int .i64 (n % m), h) := by
  rw [e41]
  have h0 : decide (m = 0) = false := by simp; omega
  have hlt := Int.tmod_lt_of_pos n hm
  have hgt := Int.lt_tmod_of_pos n hm
  rw [h0, cond_false]
  simp only [Bool.cond_eq_ite, decide_eq_true_eq]
  have key : n % m = if n.tmod m < 0 then n.tmod m + m else n.tmod m := by
    have e1 := Int.tmod_eq_emod (a := n) (b := m)
    split at e1
    · rename_i hc
      have := Int.emod_nonneg n (show m ≠ 0 by omega)
      rw [e1, if_neg (by omega)]
      omega
    · rename_i hc
      have h2 : n % m < m := Int.emod_lt_of_pos n hm
      have hab : ((m.natAbs : Nat) : Int) = m := by omega
      rw [e1, hab, if_pos (by omega)]
      omega
  split
  · rename_i hc
    rw [wrap64 (by omega) (by omega), key, if_pos hc]
  · rename_i hc
    rw [key, if_neg hc]

/-- A literal made of a number. -/
def litOf (n : Int) (vars : Int) : Int := if n % (2 * vars) < vars then n % (2 * vars) + 1 else vars - n % (2 * vars) - 1

theorem litOf_lit {n vars : Int} (h : 0 < vars) : isLit (litOf n vars) vars = true := by
  have h1 := Int.emod_nonneg n (show 2 * vars ≠ 0 by omega)
  have h2 := Int.emod_lt_of_pos n (show 0 < 2 * vars by omega)
  rw [isLit_spec]
  unfold litOf
  split <;> refine ⟨?_, ?_, ?_⟩ <;> omega

theorem lit12 (fuel d : Nat) (n m : Int) (h : AHeap) (hm : 0 < m) (hm' : m ≤ 1000000) :
    run fuel (d + 2) 12 [.int .i64 n, .int .i64 m] h = some (.int .i64 (litOf n m), h) := by
  have h1 := Int.emod_nonneg n (show 2 * m ≠ 0 by omega)
  have h2 := Int.emod_lt_of_pos n (show 0 < 2 * m by omega)
  rw [e12, wrap64 (by omega) (by omega), number41 _ _ _ _ _ (by omega) (by omega)]
  simp only [Option.bind_some, int_int, Bool.cond_eq_ite, decide_eq_true_eq]
  unfold litOf
  split
  · rw [wrap64 (by omega) (by omega)]
  · rw [wrap64 (n := m - n % (2 * m)) (by omega) (by omega), wrap64 (by omega) (by omega)]

end Go.Proofs.Ythccobceodgmlaa
