/-
  What the package assign does, told of lists.
-/
import Derived.Test.YthccobceodgmlaaE
import Derived.Test.YthccobceodgmlaaAm22
namespace Go.Proofs.Ythccobceodgmlaa
open Go.RowKit

/-- A literal of n variables. -/
def isLit (l n : Int) : Bool := decide (l ≠ 0) && decide (-n ≤ l) && decide (l ≤ n)

theorem is43 (fuel d : Nat) (l n : Int) (h : AHeap) (hn : -9223372036854775807 ≤ n) (hn' : n ≤ 9223372036854775807) :
    run fuel (d + 1) 43 [.int .i64 l, .int .i64 n] h = some (.bool (isLit l n), h) := by
  rw [e43, wrap64 (by omega) (by omega)]
  simp only [Int.zero_sub, isLit]
  congr 3
  rw [Bool.eq_iff_iff]
  by_cases h1 : l = 0 <;> by_cases h2 : -n ≤ l <;> by_cases h3 : l ≤ n <;> simp [h1, h2, h3]

/-- The size of a number. -/
def absI (l : Int) : Int := if l < 0 then -l else l

theorem var44 (fuel d : Nat) (l : Int) (h : AHeap) (hn : -9223372036854775807 ≤ l) (hn' : l ≤ 9223372036854775807) :
    run fuel (d + 1) 44 [.int .i64 l] h = some (.int .i64 (absI l), h) := by
  rw [e44, wrap64 (by omega) (by omega)]
  simp only [Int.zero_sub, absI, Bool.cond_eq_ite, decide_eq_true_eq]
  congr 3
  split <;> split <;> omega

/-- An Assign: row i holds it, row j its values. -/
structure IsAssign (h : AHeap) (i j : Nat) (v : List Int) : Prop where
  ne : i ≠ j
  pos : v ≠ []
  small : v.length ≤ 4001
  all : ∀ x ∈ v, x = 0 ∨ x = 1 ∨ x = 2
  own : ∃ row, h.rows[i]? = some row ∧ row.cells = [.slice (.mk ⟨j, 0, 0⟩ v.length true)] ∧ row.valid = 0 ∧ row.gen = 0
  vals : ∃ row, h.rows[j]? = some row ∧ row.cells = v.map (.int .i8) ∧ row.valid = 0 ∧ row.gen = 0 ∧ row.ro = false ∧ row.sz = 1

theorem IsAssign.keep {h h' : AHeap} {i j : Nat} {v : List Int} (ha : IsAssign h i j v) {t : Nat → Prop} (hk : Keeps h h' t) (hi : ¬ t i) (hj : ¬ t j) : IsAssign h' i j v := by
  obtain ⟨h1, h2, h3, h4, ⟨r1, a1, a2⟩, ⟨r2, b1, b2⟩⟩ := ha
  exact ⟨h1, h2, h3, h4, ⟨r1, hk.2 _ _ a1 hi, a2⟩, ⟨r2, hk.2 _ _ b1 hj, b2⟩⟩

/-- its slice -/
abbrev aSl (j : Nat) (v : List Int) : Sl := .mk ⟨j, 0, 0⟩ v.length true
abbrev aPt (i : Nat) : Pt := .mk ⟨i, 0, 0⟩ 1

theorem IsAssign.cell {h : AHeap} {i j : Nat} {v : List Int} (ha : IsAssign h i j v) : h.cell (.mk ⟨i, 0, 0⟩ 1) = some (.slice (aSl j v)) := by
  obtain ⟨row, h1, h2, h3, h4⟩ := ha.own
  rw [cell_row (r := ⟨i, 0, 0⟩) h1 (by simp [h3]) (by simp) (by simp), h2]
  rfl
theorem IsAssign.cells {h : AHeap} {i j : Nat} {v : List Int} (ha : IsAssign h i j v) : h.sliceCells 1 (aSl j v) = some (v.map (.int .i8)) := by
  obtain ⟨row, h1, h2, h3, h4, h5, h6⟩ := ha.vals
  rw [sliceCells_of (r := ⟨j, 0, 0⟩) h1 h6 (by simp [h3]) (by simp) (by simp [h2]), h2]
  rw [List.drop_zero, Nat.mul_one, List.take_of_length_le (by simp)]

/-- What a literal is worth. -/
def valOf (v : List Int) (l : Int) : Int :=
  if isLit l ((v.length : Int) - 1) then
    (let x := v.getD (absI l).toNat 0
     if l < 0 ∧ x ≠ 0 then 3 - x else x)
  else 0

theorem isLit_spec {l n : Int} : isLit l n = true ↔ l ≠ 0 ∧ -n ≤ l ∧ l ≤ n := by simp [isLit, and_assoc]

theorem value16 (fuel d : Nat) {h : AHeap} {i j : Nat} {v : List Int} (ha : IsAssign h i j v) (l : Int) :
    run fuel (d + 2) 16 [.ptr (aPt i), .int .i64 l] h = some (.int .i64 (valOf v l), h) := by
  have hs := ha.small
  have hp : 0 < v.length := List.length_pos_iff.2 ha.pos
  rw [e16]
  simp only [chk_mk, Option.bind_some, field_mk, Nat.add_zero, ha.cell, slice_slice, len_mk]
  rw [wrap64 (by omega) (by omega), is43 _ _ _ _ _ (by omega) (by omega)]
  simp only [Option.bind_some, bool_bool]
  unfold valOf
  cases hl : isLit l ((v.length : Int) - 1) with
  | false => rfl
  | true =>
    have hl' := isLit_spec.1 hl
    have habs : 0 ≤ absI l ∧ (absI l).toNat < v.length := by unfold absI; split <;> omega
    simp only [Bool.not_true, cond_false, ha.cell, Option.bind_some, slice_slice, if_true]
    rw [var44 _ _ _ _ (by omega) (by omega)]
    simp only [Option.bind_some, int_int]
    have hv : (v.map (AVal.int .i8))[(absI l).toNat]? = some (.int .i8 (v.getD (absI l).toNat 0)) := by
      simp [List.getElem?_map, List.getElem?_eq_getElem habs.2]
    rw [read1 ha.cells habs.1 hv]
    have hx := ha.all (v.getD (absI l).toNat 0) (by
      rw [List.getD_eq_getElem?_getD, List.getElem?_eq_getElem habs.2]
      exact List.getElem_mem _)
    simp only [int_int, Option.bind_some]
    generalize v.getD (absI l).toNat 0 = x at hx
    rw [wrap64 (by omega) (by omega), wrap64 (by omega) (by omega)]
    by_cases h1 : l < 0 <;> by_cases h2 : x = 0 <;> simp [h1, h2, ha.cell, slice_slice, same_self]

/-- A literal set, where it can be. -/
def canSet (v : List Int) (l : Int) : Bool := isLit l ((v.length : Int) - 1) && !decide (valOf v l = 2)
def setOf (v : List Int) (l : Int) : List Int := if canSet v l then v.set (absI l).toNat (if 0 < l then 1 else 2) else v

theorem setOf_len (v : List Int) (l : Int) : (setOf v l).length = v.length := by unfold setOf; split <;> simp

theorem IsAssign.set {h : AHeap} {i j : Nat} {v : List Int} (ha : IsAssign h i j v) {row : ARow} (hr : h.rows[j]? = some row) {n : Nat} {x : Int} (hx : x = 0 ∨ x = 1 ∨ x = 2) :
    IsAssign (h.setRow j { row with cells := row.cells.set (0 + n) (.int .i8 x), valid := row.gen }) i j (v.set n x) := by
  obtain ⟨h1, h2, h3, h4, ⟨r1, a1, a2, a3, a4⟩, ⟨r2, b1, b2, b3, b4, b5, b6⟩⟩ := ha
  rw [hr] at b1
  cases b1
  refine ⟨h1, by simpa using h2, by simpa using h3, fun y hy => ?_, ⟨r1, ?_, by simpa using a2, a3, a4⟩, ⟨{ row with cells := row.cells.set (0 + n) (.int .i8 x), valid := row.gen }, ?_, ?_, b4, b4, b5, b6⟩⟩
  · rcases List.mem_or_eq_of_mem_set hy with hy | rfl
    · exact h4 y hy
    · exact hx
  · exact (Keeps.setRow h j _).2 i r1 a1 h1
  · simp only [AHeap.setRow]; exact List.getElem?_set_self (List.getElem?_eq_some_iff.1 hr).1
  · simp [b2, List.map_set]

theorem set14 (fuel d : Nat) {h : AHeap} {i j : Nat} {v : List Int} (ha : IsAssign h i j v) (l : Int) :
    ∃ h', run fuel (d + 3) 14 [.ptr (aPt i), .int .i64 l] h = some (.bool (canSet v l), h') ∧ IsAssign h' i j (setOf v l) ∧ Keeps h h' (· = j) := by
  have hs := ha.small
  have hp : 0 < v.length := List.length_pos_iff.2 ha.pos
  rw [e14]
  simp only [chk_mk, Option.bind_some, field_mk, Nat.add_zero, ha.cell, slice_slice, len_mk]
  rw [wrap64 (by omega) (by omega), is43 _ _ _ _ _ (by omega) (by omega)]
  simp only [Option.bind_some, bool_bool]
  unfold setOf canSet
  cases hl : isLit l ((v.length : Int) - 1) with
  | false => exact ⟨h, by simp [bool_bool], by simpa using ha, .refl _ _⟩
  | true =>
    have hl' := isLit_spec.1 hl
    simp only [Bool.not_true, beq_self_eq_true, cond_true, Bool.true_and]
    rw [value16 _ _ ha]
    simp only [Option.bind_some, int_int, bool_bool]
    cases hv : decide (valOf v l = 2) with
    | true => exact ⟨h, by simp, by simpa using ha, .refl _ _⟩
    | false =>
      obtain ⟨row, h1, h2, h3, h4, h5, h6⟩ := ha.vals
      have hlen : 0 + v.length ≤ row.cells.length := by simp [h2]
      simp only [cond_false, Bool.not_false, if_true]
      by_cases hpos : 0 < l
      · have e : absI l = l := by unfold absI; rw [if_neg (by omega)]
        rw [if_pos hpos, e]
        simp only [hpos, decide_true, cond_true, ha.cell, Option.bind_some, slice_slice]
        rw [write1 (r := ⟨j, 0, 0⟩) h1 h6 h4 h5 hlen (by omega) (by omega)]
        exact ⟨_, rfl, ha.set h1 (.inr (.inl rfl)), Keeps.setRow _ _ _⟩
      · have e : absI l = -l := by unfold absI; rw [if_pos (by omega)]
        rw [if_neg hpos, e]
        simp only [hpos, decide_false, cond_false, ha.cell, Option.bind_some, slice_slice]
        rw [wrap64 (by omega) (by omega), Int.zero_sub, write1 (r := ⟨j, 0, 0⟩) h1 h6 h4 h5 hlen (by omega) (by omega)]
        exact ⟨_, rfl, ha.set h1 (.inr (.inr rfl)), Keeps.setRow _ _ _⟩

/-- A variable unset. -/
def unsetOf (v : List Int) (x : Int) : List Int := if 0 < x ∧ x < v.length then v.set x.toNat 0 else v

theorem unset15 (fuel d : Nat) {h : AHeap} {i j : Nat} {v : List Int} (ha : IsAssign h i j v) (x : Int) :
    ∃ h', run fuel (d + 1) 15 [.ptr (aPt i), .int .i64 x] h = some (.tup [], h') ∧ IsAssign h' i j (unsetOf v x) ∧ Keeps h h' (· = j) := by
  obtain ⟨row, h1, h2, h3, h4, h5, h6⟩ := ha.vals
  have hlen : 0 + v.length ≤ row.cells.length := by simp [h2]
  rw [e15]
  simp only [chk_mk, Option.bind_some, field_mk, Nat.add_zero, ha.cell, slice_slice, len_mk]
  unfold unsetOf
  by_cases h0 : 0 < x
  · by_cases hx : x < v.length
    · simp only [h0, hx, decide_true, beq_self_eq_true, cond_true, Option.bind_some, bool_bool, ha.cell, slice_slice, true_and, if_true]
      rw [write1 (r := ⟨j, 0, 0⟩) h1 h6 h4 h5 hlen (by omega) hx]
      exact ⟨_, rfl, ha.set h1 (.inl rfl), Keeps.setRow _ _ _⟩
    · exact ⟨h, by simp [h0, hx, bool_bool], by simpa [h0, hx] using ha, .refl _ _⟩
  · exact ⟨h, by simp [h0, bool_bool], by simpa [h0] using ha, .refl _ _⟩

end Go.Proofs.Ythccobceodgmlaa
