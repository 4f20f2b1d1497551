/-
  What the reference's values do, told of lists.
-/
import Derived.Test.YthccobceodgmlaaA9
namespace Go.Proofs.Ythccobceodgmlaa
open Go.RowKit

/-- The reference's Assign: row i holds it, row j its values. -/
structure IsRef (h : AHeap) (i j : Nat) (v : List Int) : Prop where
  ne : i ≠ j
  pos : v ≠ []
  small : v.length ≤ 4001
  all : ∀ x ∈ v, x = 0 ∨ x = 1 ∨ x = 2
  own : ∃ row, h.rows[i]? = some row ∧ row.cells = [.slice (.mk ⟨j, 0, 0⟩ v.length true)] ∧ row.valid = 0 ∧ row.gen = 0
  vals : Own h 1 j 0 v.length (intsC v)

theorem IsRef.keep {h h' : AHeap} {i j : Nat} {v : List Int} (ha : IsRef h i j v) {t : Nat → Prop} (hk : Keeps h h' t) (hi : ¬ t i) (hj : ¬ t j) : IsRef h' i j v := by
  obtain ⟨h1, h2, h3, h4, ⟨r1, a1, a2⟩, h5⟩ := ha
  exact ⟨h1, h2, h3, h4, ⟨r1, hk.2 _ _ a1 hi, a2⟩, h5.keep hk hj⟩

theorem IsRef.cell {h : AHeap} {i j : Nat} {v : List Int} (ha : IsRef h i j v) : h.cell (.mk ⟨i, 0, 0⟩ 1) = some (.slice (aSl j v)) := by
  obtain ⟨row, h1, h2, h3, h4⟩ := ha.own
  rw [cell_row (r := ⟨i, 0, 0⟩) h1 (by simp [h3]) (by simp) (by simp), h2]
  rfl
theorem IsRef.cells {h : AHeap} {i j : Nat} {v : List Int} (ha : IsRef h i j v) : h.sliceCells 1 (aSl j v) = some (intsC v) := ha.vals.cells true

theorem is46 (fuel d : Nat) (l n : Int) (h : AHeap) (hn : -9223372036854775807 ≤ n) (hn' : n ≤ 9223372036854775807) :
    run fuel (d + 1) 46 [.int .i64 l, .int .i64 n] h = some (.bool (isLit l n), h) := by
  rw [e46, wrap64 (by omega) (by omega)]
  simp only [Int.zero_sub, isLit]
  congr 3
  rw [Bool.eq_iff_iff]
  by_cases h1 : l = 0 <;> by_cases h2 : -n ≤ l <;> by_cases h3 : l ≤ n <;> simp [h1, h2, h3]

theorem value31 (fuel d : Nat) {h : AHeap} {i j : Nat} {v : List Int} (ha : IsRef h i j v) (l : Int) :
    run fuel (d + 2) 31 [.ptr (aPt i), .int .i64 l] h = some (.int .i64 (valOf v l), h) := by
  have hs := ha.small
  have hp : 0 < v.length := List.length_pos_iff.2 ha.pos
  rw [e31]
  simp only [chk_mk, Option.bind_some, field_mk, Nat.add_zero, ha.cell, slice_slice, len_mk]
  rw [wrap64 (by omega) (by omega), is46 _ _ _ _ _ (by omega) (by omega)]
  simp only [Option.bind_some, bool_bool]
  unfold valOf
  cases hl : isLit l ((v.length : Int) - 1) with
  | false => rfl
  | true =>
    have hl' := isLit_spec.1 hl
    have habs : 0 ≤ absI l ∧ (absI l).toNat < v.length := by unfold absI; split <;> omega
    simp only [Bool.not_true, cond_false, ha.cell, Option.bind_some, slice_slice, if_true]
    rw [abs13 _ _ _ _ (by omega) (by omega)]
    obtain ⟨r1, r2⟩ := readI ha.cells habs.1 habs.2
    simp only [Option.bind_some, int_int, ha.cell, slice_slice, same_self, r1, r2]
    have hx := ha.all _ (getD_mem habs.2)
    generalize v.getD (absI l).toNat 0 = x at hx
    rw [wrap64 (by omega) (by omega)]
    by_cases h1 : l < 0 <;> by_cases h2 : x = 0 <;> simp [h1, h2]

theorem IsRef.set {h h' : AHeap} {i j : Nat} {v : List Int} (ha : IsRef h i j v) {n : Nat} {x : Int} (hx : x = 0 ∨ x = 1 ∨ x = 2) (ho : Own h' 1 j 0 v.length (intsC (v.set n x))) (hk : Keeps h h' (· = j)) : IsRef h' i j (v.set n x) := by
  obtain ⟨h1, h2, h3, h4, ⟨r1, a1, a2⟩, h5⟩ := ha
  refine ⟨h1, by simpa using h2, by simpa using h3, fun y hy => ?_, ⟨r1, hk.2 _ _ a1 h1, by simpa using a2⟩, by simpa using ho⟩
  rcases List.mem_or_eq_of_mem_set hy with hy | rfl
  · exact h4 y hy
  · exact hx

theorem set28 (fuel d : Nat) {h : AHeap} {i j : Nat} {v : List Int} (ha : IsRef h i j v) (l : Int) :
    ∃ h', run fuel (d + 3) 28 [.ptr (aPt i), .int .i64 l] h = some (.bool (canSet v l), h') ∧ IsRef h' i j (setOf v l) ∧ Keeps h h' (· = j) := by
  have hs := ha.small
  have hp : 0 < v.length := List.length_pos_iff.2 ha.pos
  rw [e28]
  simp only [chk_mk, Option.bind_some, field_mk, Nat.add_zero, ha.cell, slice_slice, len_mk]
  rw [wrap64 (by omega) (by omega), is46 _ _ _ _ _ (by omega) (by omega)]
  simp only [Option.bind_some, bool_bool]
  unfold setOf canSet
  cases hl : isLit l ((v.length : Int) - 1) with
  | false => exact ⟨h, by simp [bool_bool], by simpa using ha, .refl _ _⟩
  | true =>
    have hl' := isLit_spec.1 hl
    simp only [Bool.not_true, beq_self_eq_true, cond_true, Bool.true_and]
    rw [value31 _ _ ha]
    simp only [Option.bind_some, int_int, bool_bool]
    cases hv : decide (valOf v l = 2) with
    | true => exact ⟨h, by simp, by simpa using ha, .refl _ _⟩
    | false =>
      simp only [cond_false, Bool.not_false, if_true]
      by_cases hpos : 0 < l
      · have e : absI l = l := by unfold absI; rw [if_neg (by omega)]
        rw [if_pos hpos, e]
        obtain ⟨g1, h', g2, g3, g4, _⟩ := ha.vals.intsStore (j := l) (by omega) (by omega) true 1
        simp only [hpos, decide_true, cond_true, ha.cell, Option.bind_some, slice_slice, g1, g2]
        exact ⟨h', rfl, ha.set (.inr (.inl rfl)) g3 g4, g4⟩
      · have e : absI l = -l := by unfold absI; rw [if_pos (by omega)]
        rw [if_neg hpos, e]
        obtain ⟨g1, h', g2, g3, g4, _⟩ := ha.vals.intsStore (j := -l) (by omega) (by omega) true 2
        have hw : IntKind.wrap .i64 (0 - l) = -l := by rw [wrap64 (by omega) (by omega)]; omega
        simp only [hpos, decide_false, cond_false, ha.cell, Option.bind_some, slice_slice, hw, g1, g2]
        exact ⟨h', rfl, ha.set (.inr (.inr rfl)) g3 g4, g4⟩

theorem unset29 (fuel d : Nat) {h : AHeap} {i j : Nat} {v : List Int} (ha : IsRef h i j v) (x : Int) :
    ∃ h', run fuel (d + 1) 29 [.ptr (aPt i), .int .i64 x] h = some (.tup [], h') ∧ IsRef h' i j (unsetOf v x) ∧ Keeps h h' (· = j) := by
  rw [e29]
  simp only [chk_mk, Option.bind_some, field_mk, Nat.add_zero, ha.cell, slice_slice]
  unfold unsetOf
  by_cases h0 : 0 < x
  · by_cases hx : x < v.length
    · obtain ⟨g1, h', g2, g3, g4, _⟩ := ha.vals.intsStore (j := x) (by omega) hx true 0
      have hx' : x < ((aSl j v).len : Int) := hx
      simp only [h0, hx, hx', decide_true, beq_self_eq_true, cond_true, Option.bind_some, bool_bool, ha.cell, slice_slice, true_and, if_true, g1, g2]
      exact ⟨h', rfl, ha.set (.inl rfl) g3 g4, g4⟩
    · exact ⟨h, by simp [h0, hx, bool_bool, len_mk], by simpa [h0, hx] using ha, .refl _ _⟩
  · exact ⟨h, by simp [h0, bool_bool], by simpa [h0] using ha, .refl _ _⟩

/-- how many variables there are, cut -/
def cutI (n : Int) : Nat := (min (max n 0) 4000).toNat

theorem ref26 (fuel d : Nat) (n : Int) (h : AHeap) (hn : n ≤ 4000) :
    ∃ h', run fuel (d + 1) 26 [.int .i64 n] h = some (.ptr (aPt (h.rows.length + 1)), h') ∧ IsRef h' (h.rows.length + 1) h.rows.length (List.replicate (cutI n + 1) 0) ∧ Ext h h' ∧ h'.rows.length = h.rows.length + 2 := by
  have e : (bif decide ((4000 : Int) < (bif decide (n < (0 : Int)) then (0 : Int) else n)) then (4000 : Int) else (bif decide (n < (0 : Int)) then (0 : Int) else n)) = (cutI n : Int) := by
    unfold cutI
    simp only [Bool.cond_eq_ite, decide_eq_true_eq]
    split <;> split <;> omega
  have hc : cutI n ≤ 4000 := by unfold cutI; omega
  rw [e26, e, wrap64 (by omega) (by omega)]
  rw [cond_pos _ _ (by simp only [Bool.true_and, Bool.and_eq_true, decide_eq_true_eq]; omega)]
  have e2 : ((cutI n : Int) + 1).toNat = cutI n + 1 := by omega
  simp only [e2, decide_true, repeat_one, AHeap.next]
  have k1 := Keeps.push h 1 (List.replicate (cutI n + 1) (.int .i64 0)) fun _ => False
  have k2 := Keeps.push (h.push 1 (List.replicate (cutI n + 1) (.int .i64 0))) 1 [.slice (.mk ⟨h.rows.length, 0, 0⟩ (cutI n + 1) true)] fun _ => False
  have hl : (h.push 1 (List.replicate (cutI n + 1) (.int .i64 0))).rows.length = h.rows.length + 1 := by simp [AHeap.push]
  refine ⟨_, by rw [hl], ⟨by omega, by simp, by simp; omega, by simp, ?_, ?_⟩, k1.trans k2, by simp [AHeap.push]⟩
  · exact ⟨{ cells := [.slice (.mk ⟨h.rows.length, 0, 0⟩ (cutI n + 1) true)], sz := 1 }, by simp [AHeap.push], by simp, rfl, rfl⟩
  · have := Own.push h 1 (cutI n + 1) (List.replicate (cutI n + 1) (.int .i64 0)) (by simp)
    have := this.keep k2 id
    simpa [intsC] using this

theorem cut42n (fuel d : Nat) (n : Int) (h : AHeap) : run fuel (d + 1) 42 [.int .i64 n] h = some (.int .i64 (cutI n : Int), h) := by
  rw [e42]
  unfold cutI
  simp only [Bool.cond_eq_ite, decide_eq_true_eq]
  congr 3
  split <;> split <;> omega

/-- New values, of any number of variables. -/
theorem new11n (fuel d : Nat) (n : Int) (h : AHeap) :
    ∃ h', run fuel (d + 2) 11 [.int .i64 n] h = some (.ptr (aPt (h.rows.length + 1)), h') ∧ IsAssign h' (h.rows.length + 1) h.rows.length (List.replicate (cutI n + 1) 0) ∧ Ext h h' ∧ h'.rows.length = h.rows.length + 2 := by
  have hc : cutI n ≤ 4000 := by unfold cutI; omega
  obtain ⟨h', e1, e2, e3, e4, _⟩ := new11 fuel d (cutI n) h hc
  refine ⟨h', ?_, e2, e3 _, e4⟩
  rw [← e1, e11, e11, cut42n, cut42n]
  have : cutI (cutI n : Int) = cutI n := by unfold cutI; omega
  rw [this]

/-- The reference's clause. -/
structure RcSt where
  one : Int
  many : Int

structure RcInv (v p : List Int) (s : RcSt) : Prop where
  no : ∀ l ∈ p, valOf v l ≠ 1
  pos : 0 ≤ s.many
  m0 : s.many = 0 → (∀ l ∈ p, valOf v l = 2) ∧ s.one = 0
  mp : s.many ≠ 0 → s.one ∈ p ∧ valOf v s.one = 0
  m1 : s.many = 1 ↔ (s.one ∈ p ∧ valOf v s.one = 0) ∧ ∀ l ∈ p, valOf v l = 0 → l = s.one

theorem clauseSpec_of {v p : List Int} {s : RcSt} (hi : RcInv v p s) :
    clauseSpec v p = if s.many = 0 then (2, 0) else if 1 < s.many then (0, 0) else (0, s.one) := by
  obtain ⟨no, pos, m0, mp, m1⟩ := hi
  unfold clauseSpec
  rw [if_neg (by rintro ⟨l, hl, e⟩; exact no l hl e)]
  cases hf : p.filter (fun l => decide (valOf v l = 0)) with
  | nil =>
    have : s.many = 0 := by
      apply Classical.byContradiction
      intro h
      obtain ⟨a, b⟩ := mp h
      have : s.one ∈ p.filter (fun l => decide (valOf v l = 0)) := List.mem_filter.2 ⟨a, by simp [b]⟩
      rw [hf] at this
      cases this
    rw [if_pos this]
  | cons u r =>
    have hmem : ∀ x, x ∈ u :: r ↔ x ∈ p ∧ valOf v x = 0 := by
      intro x
      rw [← hf, List.mem_filter]
      simp
    have hu := (hmem u).1 (List.mem_cons_self ..)
    have hm : s.many ≠ 0 := fun e => by have := (m0 e).1 u hu.1; omega
    rw [if_neg hm]
    simp only
    by_cases h1 : s.many = 1
    · obtain ⟨⟨a1, a2⟩, a3⟩ := m1.1 h1
      have hu1 := a3 u hu.1 hu.2
      rw [if_neg (show ¬ 1 < s.many by omega), if_pos]
      · rw [hu1]
      · intro x hx
        have := (hmem x).1 (List.mem_cons_of_mem _ hx)
        rw [hu1]; exact a3 x this.1 this.2
    · rw [if_pos (show 1 < s.many by omega), if_neg]
      intro hr
      apply h1
      obtain ⟨a, b⟩ := mp hm
      have key : ∀ x ∈ p, valOf v x = 0 → x = u := by
        intro x hx h0
        rcases List.mem_cons.1 ((hmem x).2 ⟨hx, h0⟩) with h | h
        · exact h
        · exact hr x h
      exact m1.2 ⟨⟨a, b⟩, fun l hl h0 => by rw [key l hl h0, key s.one a b]⟩

theorem rc_step {v p : List Int} (hv : ∀ x ∈ v, x = 0 ∨ x = 1 ∨ x = 2) {s : RcSt} (hi : RcInv v p s) {l : Int} (h0 : l ≠ 0) (h1 : valOf v l ≠ 1) :
    RcInv v (p ++ [l]) (if valOf v l = 0 then ⟨l, if l ≠ s.one then s.many + 1 else s.many⟩ else s) := by
  obtain ⟨no, pos, m0, mp, m1⟩ := hi
  have hmem : ∀ x, x ∈ p ++ [l] ↔ x ∈ p ∨ x = l := by simp
  have hl : l ∈ p ++ [l] := by simp
  have hno : ∀ x ∈ p ++ [l], valOf v x ≠ 1 := by
    intro x hx
    rcases (hmem x).1 hx with hx | rfl
    · exact no x hx
    · exact h1
  by_cases hv0 : valOf v l = 0
  · rw [if_pos hv0]
    by_cases hne : l ≠ s.one
    · rw [if_pos hne]
      refine ⟨hno, by simp only; omega, fun h => by simp only at h; omega, fun _ => ⟨hl, hv0⟩, ?_⟩
      simp only
      constructor
      · intro h
        have hm0 : s.many = 0 := by omega
        refine ⟨⟨hl, hv0⟩, fun x hx hx0 => ?_⟩
        rcases (hmem x).1 hx with hx | rfl
        · have := (m0 hm0).1 x hx; omega
        · rfl
      · rintro ⟨_, h⟩
        by_cases hm0 : s.many = 0
        · omega
        · obtain ⟨a, b⟩ := mp hm0
          exact absurd (h s.one (List.mem_append_left _ a) b).symm hne
    · have hle : l = s.one := Decidable.not_not.1 hne
      rw [if_neg hne]
      have hm0 : s.many ≠ 0 := fun e => by have := (m0 e).2; omega
      refine ⟨hno, pos, fun h => absurd h hm0, fun _ => ⟨hl, hv0⟩, ?_⟩
      simp only
      rw [m1]
      constructor
      · rintro ⟨_, h⟩
        refine ⟨⟨hl, hv0⟩, fun x hx hx0 => ?_⟩
        rcases (hmem x).1 hx with hx | rfl
        · rw [hle]; exact h x hx hx0
        · rfl
      · rintro ⟨_, h⟩
        exact ⟨mp hm0, fun x hx hx0 => by rw [← hle]; exact h x (List.mem_append_left _ hx) hx0⟩
  · rw [if_neg hv0]
    have hv2 : valOf v l = 2 := by
      rcases valOf_cases hv l with h | h | h
      · exact absurd h hv0
      · exact absurd h h1
      · exact h
    refine ⟨hno, pos, fun h => ⟨fun x hx => ?_, (m0 h).2⟩, fun h => ⟨List.mem_append_left _ (mp h).1, (mp h).2⟩, ?_⟩
    · rcases (hmem x).1 hx with hx | rfl
      · exact (m0 h).1 x hx
      · exact hv2
    · rw [m1]
      constructor
      · rintro ⟨⟨a, b⟩, h⟩
        refine ⟨⟨List.mem_append_left _ a, b⟩, fun x hx hx0 => ?_⟩
        rcases (hmem x).1 hx with hx | rfl
        · exact h x hx hx0
        · exact absurd hx0 hv0
      · rintro ⟨⟨a, b⟩, h⟩
        refine ⟨⟨?_, b⟩, fun x hx hx0 => h x (List.mem_append_left _ hx) hx0⟩
        rcases (hmem _).1 a with a | a
        · exact a
        · rw [a] at b; exact absurd b hv0

theorem rclause_loop (fuel d : Nat) {h : AHeap} {i j : Nat} {v : List Int} (ha : IsRef h i j v) {s : Sl} {c : List Int} (hs : h.sliceCells 1 s = some (intsC c)) (hc : c.length < 4000000000000000000) (h0 : ∀ l ∈ c, l ≠ 0) :
    ∀ (n k : Nat) (st : RcSt), c.length < n + k → k ≤ c.length → st.many ≤ k → RcInv v (c.take k) st →
      (l30_0 fuel (d + 2) n [(0, .ptr (aPt i)), (1, .slice s), (6, .int .i64 st.one), (7, .int .i64 st.many), (8, .int .i64 (k : Int))] h).bind (fun p => k30_0 fuel (d + 2) p.1 p.2.1 p.2.2) =
        some (.tup [.int .i64 (clauseSpec v c).1, .int .i64 (clauseSpec v c).2], h) := by
  have hl : s.len = c.length := by have := sliceCells_len hs; simp at this; omega
  intro n
  induction n with
  | zero => intro k st h1 h2; omega
  | succ n ih =>
    intro k st h1 h2 hmk hi
    rw [l30_0_eq, hl]
    by_cases hk : k < c.length
    · rw [bif_pos (by omega)]
      obtain ⟨r1, r2⟩ := readI hs (j := (k : Int)) (by omega) (by simpa using hk)
      rw [Int.toNat_natCast] at r2
      have hmem : c.getD k 0 ∈ c := getD_mem hk
      have htk := take_succ hk
      have hx0 := h0 _ hmem
      have e1 := value31 fuel d ha (c.getD k 0)
      have hstep : valOf v (c.getD k 0) ≠ 1 → RcInv v (c.take (k + 1)) (if valOf v (c.getD k 0) = 0 then ⟨c.getD k 0, if c.getD k 0 ≠ st.one then st.many + 1 else st.many⟩ else st) := fun hne => by
        rw [htk]; exact rc_step ha.all hi hx0 hne
      have hone : valOf v (c.getD k 0) = 1 → clauseSpec v c = (1, 0) := fun e => by
        unfold clauseSpec
        rw [if_pos ⟨_, hmem, e⟩]
      clear hmem
      generalize c.getD k 0 = x at r2 htk hx0 e1 hstep hone
      simp only [r1, r2, Option.bind_some, int_int, e1]
      have hp := hi.pos
      by_cases hv1 : valOf v x = 1
      · rw [bif_pos hv1]
        simp only [Option.bind_some, k30_0_r, hone hv1]
      · rw [bif_neg hv1]
        have hst := hstep hv1
        by_cases hv0 : valOf v x = 0
        · rw [bif_pos hv0]
          rw [if_pos hv0] at hst
          have hw : IntKind.wrap .i64 (st.many + 1) = st.many + 1 := wrap64 (by omega) (by omega)
          by_cases hxo : x = st.one
          · rw [bif_npos hxo]
            rw [if_neg (by simp [hxo])] at hst
            simp only [Option.bind_some, k30_1_n, r1, r2, int_int, succI (show k < 9000000000000000000 by omega)]
            exact ih (k + 1) ⟨x, st.many⟩ (by omega) (by omega) (by simp only; omega) hst
          · rw [bif_nneg hxo]
            rw [if_pos hxo] at hst
            simp only [Option.bind_some, k30_1_n, r1, r2, int_int, succI (show k < 9000000000000000000 by omega), hw]
            exact ih (k + 1) ⟨x, st.many + 1⟩ (by omega) (by omega) (by simp only; omega) hst
        · rw [bif_neg hv0]
          rw [if_neg hv0] at hst
          simp only [succI (show k < 9000000000000000000 by omega)]
          exact ih (k + 1) st (by omega) (by omega) (by omega) hst
    · have : k = c.length := by omega
      subst this
      rw [List.take_length] at hi
      rw [bif_neg (by omega)]
      simp only [Option.bind_some, k30_0_x0]
      rw [clauseSpec_of hi]
      by_cases hm0 : st.many = 0
      · rw [bif_pos hm0, if_pos hm0]
      · rw [bif_neg hm0, if_neg hm0]
        by_cases hm1 : 1 < st.many
        · rw [bif_pos hm1, if_pos hm1]
        · rw [bif_neg hm1, if_neg hm1]

theorem clause30 (fuel d : Nat) {h : AHeap} {i j : Nat} {v : List Int} (ha : IsRef h i j v) {s : Sl} {c : List Int} (hs : h.sliceCells 1 s = some (intsC c)) (hf : c.length < fuel) (hc : c.length < 4000000000000000000) (h0 : ∀ l ∈ c, l ≠ 0) :
    run fuel (d + 3) 30 [.ptr (aPt i), .slice s] h = some (.tup [.int .i64 (clauseSpec v c).1, .int .i64 (clauseSpec v c).2], h) := by
  rw [e30]
  exact rclause_loop fuel d ha hs hc h0 fuel 0 ⟨0, 0⟩ (by omega) (by omega) (by simp) ⟨by simp, by simp, by simp, by simp, by simp⟩

theorem rall_loop (fuel d : Nat) {h : AHeap} {i j : Nat} {v : List Int} (ha : IsRef h i j v) {s : Sl} {cc : List (List Int)} (hn : Nest h s cc) (hc : cc.length < 4000000000000000000) (hl : ∀ c ∈ cc, c.length < fuel ∧ c.length < 4000000000000000000 ∧ ∀ l ∈ c, l ≠ 0) :
    ∀ (n m : Nat) (o : Int), cc.length < n + m → m ≤ cc.length → (o = 0 ∨ o = 1) → (∀ c ∈ cc.take m, (clauseSpec v c).1 ≠ 2) → (o = 0 ↔ ∃ c ∈ cc.take m, (clauseSpec v c).1 = 0) →
      (l32_0 fuel (d + 3) n [(0, .ptr (aPt i)), (1, .slice s), (5, .int .i64 o), (6, .int .i64 (m : Int))] h).bind (fun p => k32_0 fuel (d + 3) p.1 p.2.1 p.2.2) = some (.int .i64 (allSpec v cc), h) := by
  intro n
  induction n with
  | zero => intro m o h1 h2; omega
  | succ n ih =>
    intro m o h1 h2 ho hno hoz
    rw [l32_0_eq, hn.len]
    by_cases hm : m < cc.length
    · rw [bif_pos (by omega)]
      obtain ⟨s', r1, r2, r3, r4⟩ := hn.read hm
      have hmem : cc.getD m [] ∈ cc := by
        rw [List.getD_eq_getElem?_getD, List.getElem?_eq_getElem hm]
        exact List.getElem_mem _
      have e1 := clause30 fuel d ha r3 (hl _ hmem).1 (hl _ hmem).2.1 (hl _ hmem).2.2
      have htk : cc.take (m + 1) = cc.take m ++ [cc.getD m []] := by
        rw [List.take_succ_eq_append_getElem hm, List.getD_eq_getElem?_getD, List.getElem?_eq_getElem hm, Option.getD_some]
      simp only [r1, r2, Option.bind_some, slice_slice, e1, isTup_tup, List.length_cons, List.length_nil, Nat.reduceAdd, beq_eq, decide_true, cond_true, comp_tup, List.getElem?_cons_zero, List.getElem?_cons_succ, int_int, succI (show m < 9000000000000000000 by omega)]
      generalize hcm : cc.getD m [] = c at hmem htk
      by_cases hw2 : (clauseSpec v c).1 = 2
      · rw [bif_pos hw2]
        simp only [Option.bind_some, k32_0_r]
        unfold allSpec
        rw [if_pos ⟨c, hmem, hw2⟩]
      · rw [bif_neg hw2]
        have hno' : ∀ x ∈ cc.take (m + 1), (clauseSpec v x).1 ≠ 2 := by
          intro x hx
          rw [htk] at hx
          rcases List.mem_append.1 hx with hx | hx
          · exact hno x hx
          · rw [List.mem_singleton.1 hx]; exact hw2
        by_cases hw0 : (clauseSpec v c).1 = 0
        · rw [bif_pos hw0]
          refine ih (m + 1) 0 (by omega) (by omega) (.inl rfl) hno' ⟨fun _ => ⟨c, by rw [htk]; simp, hw0⟩, fun _ => rfl⟩
        · rw [bif_neg hw0]
          refine ih (m + 1) o (by omega) (by omega) ho hno' ?_
          rw [hoz]
          constructor
          · rintro ⟨x, hx, hx0⟩; exact ⟨x, by rw [htk]; exact List.mem_append_left _ hx, hx0⟩
          · rintro ⟨x, hx, hx0⟩
            rw [htk] at hx
            rcases List.mem_append.1 hx with hx | hx
            · exact ⟨x, hx, hx0⟩
            · rw [List.mem_singleton.1 hx] at hx0; exact absurd hx0 hw0
    · have : m = cc.length := by omega
      subst this
      rw [List.take_length] at hno hoz
      rw [bif_neg (by omega)]
      simp only [Option.bind_some, k32_0_x0]
      unfold allSpec
      rw [if_neg (by rintro ⟨c, hc, h2⟩; exact hno c hc h2)]
      by_cases h0 : ∃ c ∈ cc, (clauseSpec v c).1 = 0
      · rw [if_pos h0, hoz.2 h0]
      · rw [if_neg h0]
        rcases ho with rfl | rfl
        · exact absurd (hoz.1 rfl) h0
        · rfl

theorem all32 (fuel d : Nat) {h : AHeap} {i j : Nat} {v : List Int} (ha : IsRef h i j v) {s : Sl} {cc : List (List Int)} (hn : Nest h s cc) (hf : cc.length < fuel) (hc : cc.length < 4000000000000000000) (hl : ∀ c ∈ cc, c.length < fuel ∧ c.length < 4000000000000000000 ∧ ∀ l ∈ c, l ≠ 0) :
    run fuel (d + 4) 32 [.ptr (aPt i), .slice s] h = some (.int .i64 (allSpec v cc), h) := by
  rw [e32]
  exact rall_loop fuel d ha hn hc hl fuel 0 1 (by omega) (by omega) (.inr rfl) (by simp) (by simp)

theorem rknown_loop (fuel d : Nat) {h0 : AHeap} {i j : Nat} {v : List Int} (ha0 : IsRef h0 i j v) : ∀ (n m : Nat) (s3 : Sl) (h : AHeap), v.length < n + m → 1 ≤ m → m ≤ v.length → Ext h0 h → s3.From h0.rows.length → Grown h 1 s3 (intsC ((List.range m).flatMap (knownAt v))) →
    ∃ s' h', l34_0 fuel d n [(0, .ptr (aPt i)), (3, .slice s3), (4, .int .i64 (m : Int))] h = some (.exit 0, [(3, .slice s')], h') ∧ Ext h0 h' ∧ Grown h' 1 s' (intsC (knownOf v)) := by
  intro n
  induction n with
  | zero => intro m s3 h h1 h2; omega
  | succ n ih =>
    intro m s3 h h1 hm1 h2 hx hf hg
    have ha := ha0.keep hx id id
    have hsm := ha.small
    have hgl : s3.len ≤ m := by have := hg.len; have h9 := knownLen v m; simp only [List.length_map] at this; omega
    have hlen : (aSl j v).len = v.length := rfl
    rw [l34_0_eq]
    simp only [chk_mk, Option.bind_some, field_mk, Nat.add_zero, ha.cell, slice_slice]
    rw [hlen]
    by_cases hm : m < v.length
    · rw [bif_pos (by omega)]
      obtain ⟨r1, r2⟩ := readI ha.cells (j := (m : Int)) (by omega) (by simpa using hm)
      rw [Int.toNat_natCast] at r2
      have hr : (List.range (m + 1)).flatMap (knownAt v) = (List.range m).flatMap (knownAt v) ++ knownAt v m := by
        rw [List.range_succ, List.flatMap_append]; simp
      have hwm : IntKind.wrap .i64 (0 - (m : Int)) = -(m : Int) := by rw [wrap64 (by omega) (by omega)]; omega
      simp only [r1, r2, Option.bind_some, int_int]
      by_cases h1' : v.getD m 0 = 1
      · obtain ⟨g0, s', h', g1, g2, g3, g4, g5⟩ := growOneExt (bytes := 8) (vs := [.int .i64 (m : Int)]) hx hf hg rfl (by omega) (by omega)
        have ha' := ha0.keep g4 id id
        obtain ⟨q1, q2⟩ := readI ha'.cells (j := (m : Int)) (by omega) (by simpa using hm)
        rw [Int.toNat_natCast] at q2
        rw [bif_pos h1']
        simp only [g0, g1, Option.bind_some, k34_1_n, chk_mk, field_mk, Nat.add_zero, ha'.cell, slice_slice, q1, q2, int_int]
        rw [bif_neg (show ¬ v.getD m 0 = 2 by omega)]
        simp only [succI (show m < 9000000000000000000 by omega)]
        refine ih (m + 1) s' h' (by omega) (by omega) (by omega) g4 g5 ?_
        rw [hr]
        have : knownAt v m = [(m : Int)] := by unfold knownAt; rw [if_pos h1']
        rw [this]
        simpa using g2
      · rw [bif_neg h1']
        simp only [Option.bind_some, k34_1_n, chk_mk, field_mk, Nat.add_zero, ha.cell, slice_slice, r1, r2, int_int]
        by_cases h2' : v.getD m 0 = 2
        · obtain ⟨g0, s', h', g1, g2, g3, g4, g5⟩ := growOneExt (bytes := 8) (vs := [.int .i64 (-(m : Int))]) hx hf hg rfl (by omega) (by omega)
          rw [bif_pos h2']
          simp only [hwm, g0, g1, Option.bind_some, succI (show m < 9000000000000000000 by omega)]
          refine ih (m + 1) s' h' (by omega) (by omega) (by omega) g4 g5 ?_
          rw [hr]
          have : knownAt v m = [-(m : Int)] := by unfold knownAt; rw [if_neg h1', if_pos h2']
          rw [this]
          simpa using g2
        · rw [bif_neg h2']
          simp only [succI (show m < 9000000000000000000 by omega)]
          refine ih (m + 1) s3 h (by omega) (by omega) (by omega) hx hf ?_
          rw [hr]
          have : knownAt v m = [] := by unfold knownAt; rw [if_neg h1', if_neg h2']
          rw [this, List.append_nil]
          exact hg
    · have : m = v.length := by omega
      subst this
      rw [bif_neg (by omega)]
      exact ⟨s3, h, rfl, hx, hg⟩

theorem known34 (fuel d : Nat) {h : AHeap} {i j : Nat} {v : List Int} (ha : IsRef h i j v) (hz : v.getD 0 0 = 0) (hf : v.length < fuel) :
    ∃ s' h', run fuel (d + 1) 34 [.ptr (aPt i)] h = some (.slice s', h') ∧ Ext h h' ∧ Grown h' 1 s' (intsC (knownOf v)) := by
  have hp : 0 < v.length := List.length_pos_iff.2 ha.pos
  have h0 : (List.range 1).flatMap (knownAt v) = [] := by
    simp [List.range, List.range.loop, knownAt]
    rw [List.getD_eq_getElem?_getD] at hz
    simp [hz]
  obtain ⟨s', h', e1, e2, e3⟩ := rknown_loop fuel d ha fuel 1 .nil h (by omega) (by omega) (by omega) (.refl _ _) (.nil _) (by rw [h0]; exact .nil)
  refine ⟨s', h', ?_, e2, e3⟩
  rw [e34]
  rw [show ((1 : Nat) : Int) = 1 from rfl] at e1
  simp only [e1, Option.bind_some, k34_0_x0]

/-- The reference's literal in a model. -/
theorem rholds (m : List Bool) (l : Int) :
    holdsB m l = ((decide (0 < l ∧ l.toNat < m.length) && m.getD l.toNat false) || (decide (l < 0 ∧ (-l).toNat < m.length) && !m.getD (-l).toNat false)) := by
  unfold holdsB absI
  by_cases hneg : l < 0
  · rw [if_pos hneg]
    have a : ¬ (0 < l ∧ l.toNat < m.length) := by omega
    rw [decide_eq_false a, Bool.false_and, Bool.false_or, decide_eq_false (show ¬ 0 < l by omega)]
    by_cases hlt : (-l).toNat < m.length
    · rw [decide_eq_true (show 0 < -l ∧ (-l).toNat < m.length by omega), decide_eq_true (show l < 0 ∧ (-l).toNat < m.length by omega)]
      cases m.getD (-l).toNat false <;> rfl
    · rw [decide_eq_false (show ¬ (0 < -l ∧ (-l).toNat < m.length) by omega), decide_eq_false (show ¬ (l < 0 ∧ (-l).toNat < m.length) by omega)]
      rfl
  · rw [if_neg hneg]
    rw [decide_eq_false (show ¬ (l < 0 ∧ (-l).toNat < m.length) by omega), Bool.false_and, Bool.or_false]
    by_cases hlt : 0 < l ∧ l.toNat < m.length
    · rw [decide_eq_true hlt, decide_eq_true hlt.1]
      cases m.getD l.toNat false <;> rfl
    · rw [decide_eq_false hlt]; rfl

theorem rof_inner (fuel d : Nat) {h : AHeap} {s s0 : Sl} {m : List Bool} {cc : List (List Int)} (hs : h.sliceCells 1 s = some (boolsC m)) (hn : Nest h s0 cc) {a : Nat} (ha : a < cc.length) (hok : ∀ l ∈ cc.getD a [], okInt l) (hl : (cc.getD a []).length < 4000000000000000000) :
    ∀ (n k : Nat) (b : Bool), (cc.getD a []).length < n + k → k ≤ (cc.getD a []).length → b = ((cc.getD a []).take k).any (holdsB m) →
      l35_1 fuel d n [(0, .slice s0), (1, .slice s), (5, .int .i64 (a : Int)), (6, .bool b), (7, .int .i64 (k : Int))] h =
        some (.exit 2, [(0, .slice s0), (1, .slice s), (5, .int .i64 (a : Int)), (6, .bool ((cc.getD a []).any (holdsB m)))], h) := by
  obtain ⟨s', q1, q2, q3, q4⟩ := hn.read ha
  have hsl : s.len = m.length := by have := sliceCells_len hs; simp at this; omega
  generalize cc.getD a [] = c at hok hl q3 q4
  intro n
  induction n with
  | zero => intro k b h1 h2; omega
  | succ n ih =>
    intro k b h1 h2 hb
    rw [l35_1_eq]
    simp only [q1, q2, Option.bind_some, slice_slice]
    rw [q4]
    by_cases hk : k < c.length
    · rw [bif_pos (by omega)]
      obtain ⟨r1, r2⟩ := readI q3 (j := (k : Int)) (by omega) (by simpa using hk)
      rw [Int.toNat_natCast] at r2
      have hmem : c.getD k 0 ∈ c := getD_mem hk
      have htk := take_succ hk
      have hokx := hok _ hmem
      have hnext : (c.take (k + 1)).any (holdsB m) = (b || holdsB m (c.getD k 0)) := by rw [htk, List.any_append, hb]; simp
      have key := ih (k + 1) (b || holdsB m (c.getD k 0)) (by omega) (by omega) hnext.symm
      clear hmem hnext htk
      generalize c.getD k 0 = x at r2 key hokx
      rw [rholds] at key
      have hw : IntKind.wrap .i64 (0 - x) = -x := by unfold okInt at hokx; rw [wrap64 (by omega) (by omega)]; omega
      simp only [r1, r2, Option.bind_some, int_int, hw, succI (show k < 9000000000000000000 by omega)]
      rw [hsl]
      by_cases hx0 : 0 < x
      · have n1 : ¬ x < 0 := by omega
        by_cases hxl : x < (m.length : Int)
        · obtain ⟨b1, b2⟩ := readB hs (j := x) (by omega) (by omega)
          rw [decide_eq_true (show 0 < x ∧ x.toNat < m.length by omega), decide_eq_false (show ¬ (x < 0 ∧ (-x).toNat < m.length) by omega), Bool.true_and, Bool.false_and, Bool.or_false] at key
          simp only [decide_eq_true hx0, decide_eq_true hxl, cond_true, beq_self_eq_true, b1, b2, Option.bind_some, bool_bool]
          cases hmb : m.getD x.toNat false with
          | true =>
            rw [hmb] at key
            simpa [bool_bool] using key
          | false =>
            rw [hmb] at key
            simpa [bool_bool, n1] using key
        · rw [decide_eq_false (show ¬ (0 < x ∧ x.toNat < m.length) by omega), decide_eq_false (show ¬ (x < 0 ∧ (-x).toNat < m.length) by omega)] at key
          simp only [decide_eq_true hx0, decide_eq_false hxl, cond_true]
          simpa [bool_bool, n1] using key
      · by_cases hxn : x < 0
        · by_cases hxl : -x < (m.length : Int)
          · obtain ⟨b1, b2⟩ := readB hs (j := -x) (by omega) (by omega)
            rw [decide_eq_false (show ¬ (0 < x ∧ x.toNat < m.length) by omega), decide_eq_true (show x < 0 ∧ (-x).toNat < m.length by omega), Bool.true_and, Bool.false_and, Bool.false_or] at key
            have hpx : (0 : Int) < -x := by omega
            simp only [decide_eq_false hx0, cond_false, beq_self_eq_true, cond_true, Option.bind_some, bool_bool, decide_eq_true hxn, decide_eq_true hpx, decide_eq_true hxl, b1, b2, show (false == true) = false from rfl]
            cases hmb : m.getD (-x).toNat false with
            | true =>
              rw [hmb] at key
              simpa [bool_bool] using key
            | false =>
              rw [hmb] at key
              simpa [bool_bool] using key
          · rw [decide_eq_false (show ¬ (0 < x ∧ x.toNat < m.length) by omega), decide_eq_false (show ¬ (x < 0 ∧ (-x).toNat < m.length) by omega)] at key
            simp only [decide_eq_false hx0, cond_false, show (false == true) = false from rfl, beq_self_eq_true, cond_true, Option.bind_some, bool_bool, decide_eq_false hxl, Bool.cond_self]
            simpa [bool_bool] using key
        · rw [decide_eq_false (show ¬ (0 < x ∧ x.toNat < m.length) by omega), decide_eq_false (show ¬ (x < 0 ∧ (-x).toNat < m.length) by omega)] at key
          simp only [decide_eq_false hx0, cond_false, show (false == true) = false from rfl, beq_self_eq_true, cond_true, Option.bind_some, bool_bool, decide_eq_false hxn]
          simpa [bool_bool] using key
    · have : k = c.length := by omega
      subst this
      rw [bif_neg (by omega), hb, List.take_length]

theorem rof_loop (fuel d : Nat) {h : AHeap} {s s0 : Sl} {m : List Bool} {cc : List (List Int)} (hs : h.sliceCells 1 s = some (boolsC m)) (hn : Nest h s0 cc) (hl : cc.length < 4000000000000000000) (hok : ∀ c ∈ cc, c.length < fuel ∧ c.length < 4000000000000000000 ∧ ∀ l ∈ c, okInt l) :
    ∀ (n k : Nat), cc.length < n + k → k ≤ cc.length →
      (l35_0 fuel d n [(0, .slice s0), (1, .slice s), (5, .int .i64 (k : Int))] h).bind (fun p => k35_0 fuel d p.1 p.2.1 p.2.2) = some (.bool (ofSpec (cc.drop k) m), h) := by
  intro n
  induction n with
  | zero => intro k h1 h2; omega
  | succ n ih =>
    intro k h1 h2
    rw [l35_0_eq, hn.len]
    by_cases hk : k < cc.length
    · rw [bif_pos (by omega)]
      have hmem : cc.getD k [] ∈ cc := by
        rw [List.getD_eq_getElem?_getD, List.getElem?_eq_getElem hk]
        exact List.getElem_mem _
      have hd : cc.drop k = cc.getD k [] :: cc.drop (k + 1) := by
        rw [List.drop_eq_getElem_cons hk, List.getD_eq_getElem?_getD, List.getElem?_eq_getElem hk, Option.getD_some]
      obtain ⟨a1, a2, a3⟩ := hok _ hmem
      have e1 := rof_inner fuel d hs hn hk a3 a2 fuel 0 false (by omega) (by omega) (by simp)
      rw [show ((0 : Nat) : Int) = 0 from rfl] at e1
      simp only [e1, Option.bind_some, k35_1_x2, succI (show k < 9000000000000000000 by omega)]
      rw [hd]
      generalize cc.getD k [] = c
      cases hb : c.any (holdsB m) with
      | true =>
        simp only [Bool.not_true, cond_false]
        rw [ih (k + 1) (by omega) (by omega)]
        simp [ofSpec, hb]
      | false =>
        simp only [Bool.not_false, cond_true, Option.bind_some, k35_0_r]
        simp [ofSpec, hb]
    · have : k = cc.length := by omega
      subst this
      rw [bif_neg (by omega), List.drop_length]
      simp only [Option.bind_some, k35_0_x0]
      rfl

theorem of35 (fuel d : Nat) {h : AHeap} {s s0 : Sl} {m : List Bool} {cc : List (List Int)} (hs : h.sliceCells 1 s = some (boolsC m)) (hn : Nest h s0 cc) (hf : cc.length < fuel) (hl : cc.length < 4000000000000000000) (hok : ∀ c ∈ cc, c.length < fuel ∧ c.length < 4000000000000000000 ∧ ∀ l ∈ c, okInt l) :
    run fuel (d + 1) 35 [.slice s0, .slice s] h = some (.bool (ofSpec cc m), h) := by
  rw [e35]
  have := rof_loop fuel d hs hn hl hok fuel 0 (by omega) (by omega)
  simpa using this

theorem same_loop (fuel d : Nat) {h : AHeap} {s t : Sl} {a b : List Int} (hs : h.sliceCells 1 s = some (intsC a)) (ht : h.sliceCells 1 t = some (intsC b)) (hab : a.length = b.length) (hl : a.length < 4000000000000000000) : ∀ (n k : Nat), a.length < n + k → k ≤ a.length → a.take k = b.take k →
    (l33_0 fuel d n [(0, .slice s), (1, .slice t), (5, .int .i64 (k : Int))] h).bind (fun p => k33_0 fuel d p.1 p.2.1 p.2.2) = some (.bool (decide (a = b)), h) := by
  have hsl : s.len = a.length := by have := sliceCells_len hs; simp at this; omega
  intro n
  induction n with
  | zero => intro k h1 h2; omega
  | succ n ih =>
    intro k h1 h2 htk
    rw [l33_0_eq, hsl]
    by_cases hk : k < a.length
    · rw [bif_pos (by omega)]
      obtain ⟨r1, r2⟩ := readI hs (j := (k : Int)) (by omega) (by simpa using hk)
      obtain ⟨q1, q2⟩ := readI ht (j := (k : Int)) (by omega) (by simp; omega)
      rw [Int.toNat_natCast] at r2 q2
      have e1 := take_succ hk
      have e2 := take_succ (l := b) (m := k) (by omega)
      simp only [r1, r2, q1, q2, Option.bind_some, int_int, succI (show k < 9000000000000000000 by omega)]
      by_cases he : a.getD k 0 = b.getD k 0
      · rw [bif_npos he]
        exact ih (k + 1) (by omega) (by omega) (by rw [e1, e2, htk, he])
      · rw [bif_nneg he]
        simp only [Option.bind_some, k33_0_r]
        rw [decide_eq_false (fun e => he (by rw [e]))]
    · have : k = a.length := by omega
      subst this
      rw [bif_neg (by omega)]
      simp only [Option.bind_some, k33_0_x0]
      rw [List.take_length, hab, List.take_length] at htk
      rw [decide_eq_true htk]

theorem same33 (fuel d : Nat) {h : AHeap} {s t : Sl} {a b : List Int} (hs : h.sliceCells 1 s = some (intsC a)) (ht : h.sliceCells 1 t = some (intsC b)) (hf : a.length < fuel) (hl : a.length < 4000000000000000000) :
    run fuel (d + 1) 33 [.slice s, .slice t] h = some (.bool (decide (a = b)), h) := by
  have hsl : s.len = a.length := by have := sliceCells_len hs; simp at this; omega
  have htl : t.len = b.length := by have := sliceCells_len ht; simp at this; omega
  rw [e33, hsl, htl]
  by_cases hab : a.length = b.length
  · rw [bif_npos (by omega)]
    exact same_loop fuel d hs ht hab hl fuel 0 (by omega) (by omega) rfl
  · rw [bif_nneg (by omega), decide_eq_false (fun e => hab (by rw [e]))]

theorem near_loop (fuel d : Nat) {h : AHeap} {s : Sl} {c : List Int} (hs : h.sliceCells 1 s = some (intsC c)) (hl : c.length < 4000000000000000000) : ∀ (n k : Nat), c.length < n + k → k ≤ c.length →
    (l24_0 fuel d n [(0, .slice s), (3, .int .i64 (k : Int))] h).bind (fun p => k24_0 fuel d p.1 p.2.1 p.2.2) = some (.bool ((c.drop k).all fun x => !decide (x < -1152921504606846976)), h) := by
  have hsl : s.len = c.length := by have := sliceCells_len hs; simp at this; omega
  intro n
  induction n with
  | zero => intro k h1 h2; omega
  | succ n ih =>
    intro k h1 h2
    rw [l24_0_eq, hsl]
    by_cases hk : k < c.length
    · rw [bif_pos (by omega)]
      obtain ⟨r1, r2⟩ := readI hs (j := (k : Int)) (by omega) (by simpa using hk)
      rw [Int.toNat_natCast] at r2
      have hd : c.drop k = c.getD k 0 :: c.drop (k + 1) := by
        rw [List.drop_eq_getElem_cons hk, List.getD_eq_getElem?_getD, List.getElem?_eq_getElem hk, Option.getD_some]
      simp only [r1, r2, Option.bind_some, int_int, succI (show k < 9000000000000000000 by omega)]
      rw [hd, List.all_cons]
      by_cases hx : c.getD k 0 < -1152921504606846976
      · rw [bif_pos hx]
        simp only [Option.bind_some, k24_0_r, decide_eq_true hx, Bool.not_true, Bool.false_and]
      · rw [bif_neg hx, ih (k + 1) (by omega) (by omega)]
        simp only [decide_eq_false hx, Bool.not_false, Bool.true_and]
    · have : k = c.length := by omega
      subst this
      rw [bif_neg (by omega), List.drop_length]
      simp only [Option.bind_some, k24_0_x0]
      rfl

/-- Near, of one number, written out. -/
theorem near24 (fuel d : Nat) (x : Int) (h : AHeap) (hf : 1 < fuel) :
    run fuel (d + 1) 24 [.slice (.mk ⟨AHeap.next h, 0, 0⟩ 1 true)] (h.push 1 [.int .i64 x]) = some (.bool (!decide (x < -1152921504606846976)), h.push 1 [.int .i64 x]) := by
  have hs : (h.push 1 [.int .i64 x]).sliceCells 1 (.mk ⟨AHeap.next h, 0, 0⟩ 1 true) = some (intsC [x]) := (Own.push h 1 1 [.int .i64 x] rfl).cells true
  rw [e24]
  have := near_loop fuel d hs (by simp) fuel 0 (by simp; omega) (by simp)
  simpa using this

theorem count_loop (fuel d : Nat) {h : AHeap} {s : Sl} {cc : List (List Int)} (hn : Nest h s cc) (hl : cc.length < 1000) (hb : ∀ c ∈ cc, c.length ≤ 140737488355328) : ∀ (n k : Nat), cc.length < n + k → k ≤ cc.length →
    l25_0 fuel d n [(0, .slice s), (3, .int .i64 (total (cc.take k) : Int)), (4, .int .i64 (k : Int))] h = some (.exit 0, [(3, .int .i64 (total cc : Int))], h) := by
  have htot : ∀ l : List (List Int), (∀ c ∈ l, c.length ≤ 140737488355328) → total l ≤ l.length * 140737488355328 := by
    intro l
    induction l with
    | nil => intro _; simp [total]
    | cons c l ih =>
      intro h
      have h1 := ih fun b hb => h b (List.mem_cons_of_mem _ hb)
      have h2 := h c (List.mem_cons_self ..)
      have e : total (c :: l) = c.length + total l := by simp [total]
      rw [e, List.length_cons]
      omega
  intro n
  induction n with
  | zero => intro k h1 h2; omega
  | succ n ih =>
    intro k h1 h2
    rw [l25_0_eq, hn.len]
    by_cases hk : k < cc.length
    · rw [bif_pos (by omega)]
      obtain ⟨s', r1, r2, r3, r4⟩ := hn.read hk
      have htk : cc.take (k + 1) = cc.take k ++ [cc.getD k []] := by
        rw [List.take_succ_eq_append_getElem hk, List.getD_eq_getElem?_getD, List.getElem?_eq_getElem hk, Option.getD_some]
      have h3 := htot (cc.take k) fun c hc => hb c (List.mem_of_mem_take hc)
      have h4 : (cc.take k).length ≤ cc.length := List.length_take_le' _ _
      have hmem : cc.getD k [] ∈ cc := by
        rw [List.getD_eq_getElem?_getD, List.getElem?_eq_getElem hk]
        exact List.getElem_mem _
      have h5 := hb _ hmem
      have e : total (cc.take (k + 1)) = total (cc.take k) + (cc.getD k []).length := by rw [htk]; simp [total]
      have hmul : (cc.take k).length * 140737488355328 ≤ 1000 * 140737488355328 := Nat.mul_le_mul_right _ (by omega)
      simp only [r1, r2, Option.bind_some, slice_slice, r4, succI (show k < 9000000000000000000 by omega)]
      have hw : IntKind.wrap .i64 ((total (cc.take k) : Int) + ((cc.getD k []).length : Int)) = (total (cc.take (k + 1)) : Int) := by
        rw [e, wrap64 (by omega) (by omega)]; omega
      rw [hw]
      exact ih (k + 1) (by omega) (by omega)
    · have : k = cc.length := by omega
      subst this
      rw [bif_neg (by omega), List.take_length]

theorem count25 (fuel d : Nat) {h : AHeap} {s : Sl} {cc : List (List Int)} (hn : Nest h s cc) (hl : cc.length < 1000) (hf : cc.length < fuel) (hb : ∀ c ∈ cc, c.length ≤ 140737488355328) :
    run fuel (d + 1) 25 [.slice s] h = some (.int .i64 (total cc : Int), h) := by
  rw [e25]
  have := count_loop fuel d hn hl hb fuel 0 (by omega) (by omega)
  simp only [List.take_zero] at this
  rw [show ((total [] : Nat) : Int) = 0 from rfl, show ((0 : Nat) : Int) = 0 from rfl] at this
  simp only [this, Option.bind_some, k25_0_x0]

theorem right_loop (fuel d : Nat) {h : AHeap} {s : Sl} {c : List Int} (vars : Int) (hv : 0 ≤ vars) (hv' : vars ≤ 1000000) (hs : h.sliceCells 1 s = some (intsC c)) (hl : c.length < 4000000000000000000) : ∀ (n k : Nat), c.length < n + k → k ≤ c.length →
    (l27_0 fuel d n [(0, .slice s), (1, .int .i64 vars), (5, .int .i64 (k : Int))] h).bind (fun p => k27_0 fuel d p.1 p.2.1 p.2.2) = some (.bool ((c.drop k).all fun x => isLit x vars), h) := by
  have hsl : s.len = c.length := by have := sliceCells_len hs; simp at this; omega
  have hw : IntKind.wrap .i64 (0 - vars) = -vars := by rw [wrap64 (by omega) (by omega)]; omega
  intro n
  induction n with
  | zero => intro k h1 h2; omega
  | succ n ih =>
    intro k h1 h2
    rw [l27_0_eq, hsl]
    by_cases hk : k < c.length
    · rw [bif_pos (by omega)]
      obtain ⟨r1, r2⟩ := readI hs (j := (k : Int)) (by omega) (by simpa using hk)
      rw [Int.toNat_natCast] at r2
      have hd : c.drop k = c.getD k 0 :: c.drop (k + 1) := by
        rw [List.drop_eq_getElem_cons hk, List.getD_eq_getElem?_getD, List.getElem?_eq_getElem hk, Option.getD_some]
      have key := ih (k + 1) (by omega) (by omega)
      simp only [r1, r2, Option.bind_some, int_int, hw, succI (show k < 9000000000000000000 by omega)]
      rw [hd, List.all_cons]
      generalize c.getD k 0 = x at r2
      by_cases h0 : x = 0
      · have : isLit x vars = false := by simp [isLit, h0]
        simp [h0, isLit, bool_bool, k27_0_r]
      · by_cases h1 : vars < x
        · have : isLit x vars = false := by
            rw [← Bool.not_eq_true, isLit_spec]; omega
          simp [h0, h1, this, bool_bool, r1, r2, int_int, k27_0_r]
        · by_cases h2 : x < -vars
          · have : isLit x vars = false := by
              rw [← Bool.not_eq_true, isLit_spec]; omega
            simp [h0, h1, h2, this, bool_bool, r1, r2, int_int, k27_0_r]
          · have : isLit x vars = true := isLit_spec.2 (by omega)
            simpa [h0, h1, h2, this, bool_bool, r1, r2, int_int] using key
    · have : k = c.length := by omega
      subst this
      rw [bif_neg (by omega), List.drop_length]
      simp only [Option.bind_some, k27_0_x0]
      rfl

theorem right27 (fuel d : Nat) {h : AHeap} {s : Sl} {c : List Int} (vars : Int) (hv : 0 ≤ vars) (hv' : vars ≤ 1000000) (hs : h.sliceCells 1 s = some (intsC c)) (hf : c.length < fuel) (hl : c.length < 4000000000000000000) :
    run fuel (d + 1) 27 [.slice s, .int .i64 vars] h = some (.bool (c.all fun x => isLit x vars), h) := by
  rw [e27]
  have := right_loop fuel d vars hv hv' hs hl fuel 0 (by omega) (by omega)
  simpa using this

end Go.Proofs.Ythccobceodgmlaa
