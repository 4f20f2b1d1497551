/-
  The law AssignUnits, over abstract heaps.
-/
import Derived.Test.YthccobceodgmlaaA5
namespace Go.Proofs.Ythccobceodgmlaa
open Go.RowKit

theorem succI {m : Nat} (h : m < 9000000000000000000) : IntKind.wrap .i64 ((m : Int) + 1) = ((m + 1 : Nat) : Int) := by rw [wrap64 (by omega) (by omega)]; omega

theorem take_succ {l : List Int} {m : Nat} (h : m < l.length) : l.take (m + 1) = l.take m ++ [l.getD m 0] := by
  rw [List.take_succ_eq_append_getElem h, List.getD_eq_getElem?_getD, List.getElem?_eq_getElem h, Option.getD_some]

theorem units_build (fuel d : Nat) {s s1 : Sl} {c : List Int} {h0 : AHeap} (hc : c.length ≤ 8) (hs0 : h0.sliceCells 1 s = some (intsC c)) : ∀ (n m : Nat) (s6 : Sl) (h : AHeap), c.length < n + m → m ≤ c.length → Ext h0 h → s6.From h0.rows.length → s6.len = m → Grown h 1 s6 (intsC ((c.take m).map (litOf · 6))) →
    ∃ s' h', l4_0 fuel (d + 2) n [(0, .slice s), (1, .slice s1), (5, .bool true), (6, .slice s6), (7, .int .i64 (m : Int))] h = some (.exit 0, [(1, .slice s1), (5, .bool true), (6, .slice s')], h') ∧ Ext h0 h' ∧ s'.From h0.rows.length ∧ Grown h' 1 s' (intsC (c.map (litOf · 6))) := by
  intro n
  induction n with
  | zero => intro m s6 h h1 h2; omega
  | succ n ih =>
    intro m s6 h h1 h2 hx hf hl hg
    have hs := sliceCells_ext hx hs0
    have hsl : s.len = c.length := by have := sliceCells_len hs; simp at this; omega
    rw [l4_0_eq, hsl]
    by_cases hm : m < c.length
    · rw [bif_pos (by omega)]
      obtain ⟨r1, r2⟩ := readI hs (j := (m : Int)) (by omega) (by simpa using hm)
      rw [Int.toNat_natCast] at r2
      have e1 := lit12 fuel d (c.getD m 0) 6 h (by omega) (by omega)
      obtain ⟨g0, s', h', g1, g2, g3, g4, g5⟩ := growOneExt (bytes := 8) (vs := [.int .i64 (litOf (c.getD m 0) 6)]) hx hf hg rfl (by omega) (by omega)
      simp only [r1, r2, Option.bind_some, int_int, e1, g0, g1, succI (show m < 9000000000000000000 by omega)]
      refine ih (m + 1) s' h' (by omega) (by omega) g4 g5 (by omega) ?_
      rw [take_succ hm, List.map_append]
      simpa using g2
    · have : m = c.length := by omega
      subst this
      rw [bif_neg (by omega)]
      rw [List.take_length] at hg
      exact ⟨s6, h, rfl, hx, hf, hg⟩

theorem units_sets (fuel d : Nat) {s s6 : Sl} {l : List Int} {i j : Nat} (hl : l.length ≤ 20) (hj : s.Apart j) : ∀ (n m : Nat) (v : List Int) (h : AHeap), l.length < n + m → m ≤ l.length → h.sliceCells 1 s = some (intsC l) → IsAssign h i j v →
    ∃ v' h', l4_1 fuel (d + 3) n [(1, .slice s), (5, .bool true), (6, .slice s6), (8, .ptr (aPt i)), (9, .int .i64 (m : Int))] h = some (.exit 2, [(5, .bool true), (6, .slice s6), (8, .ptr (aPt i))], h') ∧ IsAssign h' i j v' ∧ v'.length = v.length ∧ Keeps h h' (· = j) := by
  intro n
  induction n with
  | zero => intro m v h h1 h2; omega
  | succ n ih =>
    intro m v h h1 h2 hs ha
    have hsl : s.len = l.length := by have := sliceCells_len hs; simp at this; omega
    rw [l4_1_eq, hsl]
    by_cases hm : m < l.length
    · rw [bif_pos (by omega)]
      obtain ⟨r1, r2⟩ := readI hs (j := (m : Int)) (by omega) (by simpa using hm)
      have e1 := lit12 fuel (d + 1) (l.getD (m : Int).toNat 0) 6 h (by omega) (by omega)
      obtain ⟨h2, e2, a2, k2⟩ := set14 fuel d ha (litOf (l.getD (m : Int).toNat 0) 6)
      obtain ⟨v', h', f1, f2, f3, f4⟩ := ih (m + 1) _ h2 (by omega) (by omega) (sliceCells_one k2 hs hj) a2
      simp only [r1, r2, Option.bind_some, int_int, e1, e2, bool_bool, succI (show m < 9000000000000000000 by omega)]
      exact ⟨v', h', f1, f2, by rw [f3, setOf_len], k2.trans f4⟩
    · rw [bif_neg (by omega)]
      exact ⟨v, h, rfl, ha, rfl, .refl _ _⟩

theorem law4 (fuel d : Nat) {h : AHeap} {s0 s1 : Sl} {c l : List Int} (hs0 : h.sliceCells 1 s0 = some (intsC c)) (hs1 : h.sliceCells 1 s1 = some (intsC l)) (hf : 50 < fuel) :
    ∃ h', run fuel (d + 5) 4 [.slice s0, .slice s1] h = some (.bool true, h') := by
  have hsl0 : s0.len = c.length := by have := sliceCells_len hs0; simp at this; omega
  have hsl1 : s1.len = l.length := by have := sliceCells_len hs1; simp at this; omega
  obtain ⟨h1, e1, x1⟩ := first10 fuel d h
  rw [e4]
  simp only [e1, Option.bind_some, bool_bool, Bool.not_true, cond_false, hsl0, hsl1]
  by_cases hc : c.length ≤ 8
  · by_cases hl : l.length ≤ 20
    · rw [bif_neg (show ¬ (8 : Int) < (c.length : Int) by omega), bif_neg (show ¬ (20 : Int) < (l.length : Int) by omega)]
      obtain ⟨s6, h2, e2, x2, f2, g2⟩ := units_build fuel (d + 2) (s1 := s1) hc (sliceCells_ext x1 hs0) fuel 0 .nil h1 (by omega) (by omega) (.refl _ _) (.nil _) rfl .nil
      rw [show ((0 : Nat) : Int) = 0 from rfl] at e2
      obtain ⟨h3, e3, a3, k3, n3, _⟩ := new11 fuel (d + 2) 6 h2 (by omega)
      rw [show ((6 : Nat) : Int) = 6 from rfl] at e3
      have hs1' := sliceCells_ext (k3 fun _ => False) (sliceCells_ext x2 (sliceCells_ext x1 hs1))
      have hap1 : s1.Apart h2.rows.length := apart_new (sliceCells_ext x1 hs1) (Keeps.len x2)
      obtain ⟨v, h4, e4', a4, len4, k4⟩ := units_sets fuel (d + 1) (s6 := s6) hl hap1 fuel 0 _ h3 (by omega) (by omega) hs1' a3
      rw [show ((0 : Nat) : Int) = 0 from rfl] at e4'
      have hs6 := (g2.keep (k3 fun _ => False) fun _ _ => id).cells
      have hap6 : s6.Apart h2.rows.length := apart_new g2.cells (Nat.le_refl _)
      have hs6' := sliceCells_one k4 hs6 hap6
      simp only [e2, Option.bind_some, k4_0_x0, e3, ptr_ptr, nilTest_ptr_mk, cond_false, e4']
      have hlen : v.length = 7 := by rw [len4]; rfl
      have hclit : ∀ y ∈ c.map (litOf · 6), isLit y ((v.length : Int) - 1) = true := by
        intro y hy
        obtain ⟨x, _, rfl⟩ := List.mem_map.1 hy
        rw [hlen]
        exact litOf_lit (by omega)
      have hcl : (c.map (litOf · 6)).length < fuel ∧ (c.map (litOf · 6)).length < 4000000000000000000 := by simp; omega
      have e5 := clause17 fuel (d + 1) a4 hs6' hcl.1 hcl.2
      rw [clauseOf_spec a4.all] at e5
      rw [k4_1_x2]
      simp only [e5, Option.bind_some, isTup_tup, List.length_cons, List.length_nil, Nat.reduceAdd, beq_eq, decide_true, cond_true, comp_tup, List.getElem?_cons_zero, List.getElem?_cons_succ, int_int]
      by_cases h1 : (clauseSpec v (c.map (litOf · 6))).2 = 0
      · rw [bif_pos h1]
        exact ⟨_, rfl⟩
      · rw [bif_neg h1]
        obtain ⟨u1, u2, u3, u4, u5⟩ := units a4.all hclit h1
        generalize hone : (clauseSpec v (c.map (litOf · 6))).2 = one at h1 u2 u3 u4 u5
        have hl1 := hclit one u2
        have hl1' := isLit_spec.1 hl1
        have hl2 : isLit (-one) ((v.length : Int) - 1) = true := by rw [isLit_neg]; exact hl1
        have hun := valOf_neg a4.all hl1 u3
        have hz := unknown_zero a4.all hl1 u3
        obtain ⟨p1, p2⟩ := setOf_pos hl1 (by rw [u3]; omega)
        obtain ⟨q1, q2⟩ := setOf_pos hl2 (by rw [hun]; omega)
        obtain ⟨h5, e6, a5, k5⟩ := set14 fuel (d + 1) a4 one
        have hs5 := sliceCells_one k5 hs6' hap6
        have e7 := clause17 fuel (d + 1) a5 hs5 hcl.1 hcl.2
        rw [clauseOf_spec a5.all, u4] at e7
        rw [p1] at e6
        have hback : unsetOf (setOf v one) (absI one) = v := by rw [p2]; exact unset_set hl1 hz _
        obtain ⟨h6, e8, a6, k6⟩ := unset15 fuel (d + 3) a5 (absI one)
        rw [hback] at a6
        have hs6b := sliceCells_one k6 hs5 hap6
        obtain ⟨h7, e9, a7, k7⟩ := set14 fuel (d + 1) a6 (-one)
        rw [q1] at e9
        have hs7 := sliceCells_one k7 hs6b hap6
        have e10 := clause17 fuel (d + 1) a7 hs7 hcl.1 hcl.2
        rw [clauseOf_spec a7.all] at e10
        have e11 := has18 fuel (d + 3) hs7 hcl.1 hcl.2 one
        have e12 := has18 fuel (d + 3) hs7 hcl.1 hcl.2 (-one)
        have hw : IntKind.wrap .i64 (0 - one) = -one := by rw [wrap64 (by omega) (by omega)]; omega
        have tail : k4_2 fuel (d + 4) .normal [(5, .bool true), (6, .slice s6), (8, .ptr (aPt (h2.rows.length + 1))), (10, .int .i64 (clauseSpec v (c.map (litOf · 6))).1), (11, .int .i64 one), (12, .bool true), (13, .int .i64 1)] h6 = some (.bool true, h7) := by
          rw [k4_2_n]
          simp only [hw, e9, Option.bind_some, bool_bool, e10, isTup_tup, List.length_cons, List.length_nil, Nat.reduceAdd, beq_eq, decide_true, cond_true, comp_tup, List.getElem?_cons_zero, List.getElem?_cons_succ, int_int, u1, beq_self_eq_true, e11, u2, e12]
          rcases u5 with u5 | u5
          · simp [u5, bool_bool]
          · by_cases h9 : (clauseSpec (setOf v (-one)) (c.map (litOf · 6))).1 = 2
            · simp [h9, bool_bool]
            · have h9' : (decide ((clauseSpec (setOf v (-one)) (c.map (litOf · 6))).1 = 2) == false) = true := by simp [h9]
              simp only [h9', cond_true, Option.bind_some, bool_bool, u5, decide_true]
        simp only [e6, Option.bind_some, bool_bool, e7, isTup_tup, List.length_cons, List.length_nil, Nat.reduceAdd, beq_eq, decide_true, cond_true, comp_tup, List.getElem?_cons_zero, List.getElem?_cons_succ, int_int, hw]
        refine ⟨h7, ?_⟩
        by_cases hp : 0 < one
        · have ea : absI one = one := by unfold absI; rw [if_neg (by omega)]
          rw [ea] at e8
          rw [bif_pos hp]
          simp only [e8, Option.bind_some]
          exact tail
        · have ea : absI one = -one := by unfold absI; rw [if_pos (by omega)]
          rw [ea] at e8
          rw [bif_neg hp]
          simp only [e8, Option.bind_some]
          exact tail
    · rw [bif_neg (show ¬ (8 : Int) < (c.length : Int) by omega), decide_eq_true (show (20 : Int) < (l.length : Int) by omega), cond_true]
      exact ⟨_, rfl⟩
  · rw [decide_eq_true (show (8 : Int) < (c.length : Int) by omega), cond_true, cond_true]
    exact ⟨_, rfl⟩

end Go.Proofs.Ythccobceodgmlaa
