/-
  What a clause is worth, told without going through it; the law AssignUnits.
-/
import Derived.Test.YthccobceodgmlaaA4
namespace Go.Proofs.Ythccobceodgmlaa
open Go.RowKit

theorem valOf_cases {v : List Int} (hv : ∀ x ∈ v, x = 0 ∨ x = 1 ∨ x = 2) (l : Int) : valOf v l = 0 ∨ valOf v l = 1 ∨ valOf v l = 2 := by
  unfold valOf
  split
  · rename_i hl
    have hl' := isLit_spec.1 hl
    have hlt : (absI l).toNat < v.length := by unfold absI; split <;> omega
    rcases hv _ (getD_mem hlt) with h | h | h <;> simp only [h] <;> split <;> omega
  · exact .inl rfl

/-- What a clause is worth, and the literal that is left. -/
def clauseSpec (v c : List Int) : Int × Int :=
  if ∃ l ∈ c, valOf v l = 1 then (1, 0)
  else match c.filter (fun l => decide (valOf v l = 0)) with
    | [] => (2, 0)
    | u :: r => (0, if ∀ x ∈ r, x = u then u else 0)

structure ClInv (v p : List Int) (s : ClSt) : Prop where
  w1 : s.worth = 1 ↔ ∃ l ∈ p, valOf v l = 1
  w2 : s.worth = 2 ↔ ∀ l ∈ p, valOf v l = 2
  w0 : s.worth = 0 ∨ s.worth = 1 ∨ s.worth = 2
  pos : 0 ≤ s.many
  m0 : s.many = 0 ↔ ∀ l ∈ p, valOf v l = 2
  m1 : s.many = 1 ↔ (s.left ∈ p ∧ valOf v s.left ≠ 2) ∧ ∀ l ∈ p, valOf v l ≠ 2 → l = s.left
  lt : s.many ≠ 0 → s.left ∈ p ∧ valOf v s.left ≠ 2

theorem clStep_inv {v : List Int} (hv : ∀ x ∈ v, x = 0 ∨ x = 1 ∨ x = 2) {p : List Int} {s : ClSt} (hi : ClInv v p s) (l : Int) : ClInv v (p ++ [l]) (clStep v s l) := by
  obtain ⟨w1, w2, w0, pos, m0, m1, lt⟩ := hi
  unfold clStep
  by_cases h2 : valOf v l = 2
  · rw [if_pos h2]
    have hmem : ∀ x, x ∈ p ++ [l] ↔ x ∈ p ∨ x = l := by simp
    refine ⟨?_, ?_, w0, pos, ?_, ?_, fun h => ⟨List.mem_append_left _ (lt h).1, (lt h).2⟩⟩
    · rw [w1]
      constructor
      · rintro ⟨x, h1, h3⟩; exact ⟨x, List.mem_append_left _ h1, h3⟩
      · rintro ⟨x, h1, h3⟩
        rcases (hmem x).1 h1 with h1 | rfl
        · exact ⟨x, h1, h3⟩
        · omega
    · rw [w2]
      constructor
      · intro h x hx
        rcases (hmem x).1 hx with hx | rfl
        · exact h x hx
        · exact h2
      · intro h x hx; exact h x (List.mem_append_left _ hx)
    · rw [m0]
      constructor
      · intro h x hx
        rcases (hmem x).1 hx with hx | rfl
        · exact h x hx
        · exact h2
      · intro h x hx; exact h x (List.mem_append_left _ hx)
    · rw [m1]
      constructor
      · rintro ⟨⟨h1, h3⟩, h4⟩
        refine ⟨⟨List.mem_append_left _ h1, h3⟩, fun x hx hn => ?_⟩
        rcases (hmem x).1 hx with hx | rfl
        · exact h4 x hx hn
        · exact absurd h2 hn
      · rintro ⟨⟨h1, h3⟩, h4⟩
        refine ⟨⟨?_, h3⟩, fun x hx hn => h4 x (List.mem_append_left _ hx) hn⟩
        rcases (hmem _).1 h1 with h1 | h1
        · exact h1
        · rw [h1] at h3; exact absurd h2 h3
  · rw [if_neg h2]
    have hmem : ∀ x, x ∈ p ++ [l] ↔ x ∈ p ∨ x = l := by simp
    have hl : l ∈ p ++ [l] := by simp
    have hc := valOf_cases hv l
    have hw : ∀ a b, (⟨a, b, if valOf v l = 1 then 1 else if s.worth = 2 then 0 else s.worth⟩ : ClSt).worth = (if valOf v l = 1 then 1 else if s.worth = 2 then 0 else s.worth) := fun _ _ => rfl
    have k1 : (if valOf v l = 1 then (1 : Int) else if s.worth = 2 then 0 else s.worth) = 1 ↔ ∃ x ∈ p ++ [l], valOf v x = 1 := by
      by_cases h1 : valOf v l = 1
      · rw [if_pos h1]; exact ⟨fun _ => ⟨l, hl, h1⟩, fun _ => rfl⟩
      · rw [if_neg h1]
        have : (∃ x ∈ p ++ [l], valOf v x = 1) ↔ s.worth = 1 := by
          rw [w1]
          constructor
          · rintro ⟨x, hx, hx1⟩
            rcases (hmem x).1 hx with hx | rfl
            · exact ⟨x, hx, hx1⟩
            · exact absurd hx1 h1
          · rintro ⟨x, hx, hx1⟩; exact ⟨x, List.mem_append_left _ hx, hx1⟩
        rw [this]
        split <;> omega
    have k2 : (if valOf v l = 1 then (1 : Int) else if s.worth = 2 then 0 else s.worth) = 2 ↔ ∀ x ∈ p ++ [l], valOf v x = 2 := by
      constructor
      · intro h
        split at h
        · omega
        · split at h <;> omega
      · intro h; exact absurd (h l hl) h2
    have k0 : (if valOf v l = 1 then (1 : Int) else if s.worth = 2 then 0 else s.worth) = 0 ∨ (if valOf v l = 1 then (1 : Int) else if s.worth = 2 then 0 else s.worth) = 1 ∨ (if valOf v l = 1 then (1 : Int) else if s.worth = 2 then 0 else s.worth) = 2 := by
      split
      · omega
      · split <;> omega
    by_cases hm : s.many = 0 ∨ l ≠ s.left
    · simp only [if_pos hm]
      refine ⟨k1, k2, k0, by simp only; omega, ?_, ?_, fun _ => ⟨hl, h2⟩⟩
      · constructor
        · intro h; simp only at h; omega
        · intro h; exact absurd (h l hl) h2
      · simp only
        constructor
        · intro h
          have h0 : s.many = 0 := by omega
          refine ⟨⟨hl, h2⟩, fun x hx hn => ?_⟩
          rcases (hmem x).1 hx with hx | rfl
          · exact absurd (m0.1 h0 x hx) hn
          · rfl
        · rintro ⟨_, h⟩
          by_cases h0 : s.many = 0
          · omega
          · have := h s.left (List.mem_append_left _ (lt h0).1) (lt h0).2
            rcases hm with hm | hm
            · exact absurd hm h0
            · exact absurd this.symm hm
    · simp only [if_neg hm]
      simp only [not_or, ne_eq, Decidable.not_not] at hm
      obtain ⟨hm0, hml⟩ := hm
      refine ⟨k1, k2, k0, pos, ?_, ?_, fun h => ⟨List.mem_append_left _ (lt h).1, (lt h).2⟩⟩
      · constructor
        · intro h; exact absurd h hm0
        · intro h; exact absurd (h l hl) h2
      · simp only
        rw [m1]
        constructor
        · rintro ⟨⟨h1, h3⟩, h4⟩
          refine ⟨⟨List.mem_append_left _ h1, h3⟩, fun x hx hn => ?_⟩
          rcases (hmem x).1 hx with hx | rfl
          · exact h4 x hx hn
          · exact hml
        · rintro ⟨_, h4⟩
          exact ⟨lt hm0, fun x hx hn => h4 x (List.mem_append_left _ hx) hn⟩

theorem clFold_inv {v : List Int} (hv : ∀ x ∈ v, x = 0 ∨ x = 1 ∨ x = 2) : ∀ (c p : List Int) (s : ClSt), ClInv v p s → ClInv v (p ++ c) (c.foldl (clStep v) s)
  | [], p, s, h => by simpa using h
  | l :: c, p, s, h => by
    have := clFold_inv hv c (p ++ [l]) _ (clStep_inv hv h l)
    simpa using this

theorem clauseOf_spec {v : List Int} (hv : ∀ x ∈ v, x = 0 ∨ x = 1 ∨ x = 2) (c : List Int) : clauseOf v c = clauseSpec v c := by
  have hi := clFold_inv hv c [] ⟨0, 0, 2⟩ ⟨by simp, by simp, .inr (.inr rfl), by simp, by simp, by simp, by simp⟩
  rw [List.nil_append] at hi
  unfold clauseOf clauseSpec
  simp only
  generalize c.foldl (clStep v) ⟨0, 0, 2⟩ = s at hi
  obtain ⟨w1, w2, w0, pos, m0, m1, lt⟩ := hi
  by_cases h1 : ∃ l ∈ c, valOf v l = 1
  · have := w1.2 h1
    rw [if_pos h1, this, if_neg (by omega)]
  · rw [if_neg h1]
    have n1 : ∀ l ∈ c, valOf v l ≠ 1 := fun l hl e => h1 ⟨l, hl, e⟩
    cases hf : c.filter (fun l => decide (valOf v l = 0)) with
    | nil =>
      have : ∀ l ∈ c, valOf v l = 2 := by
        intro l hl
        rcases valOf_cases hv l with h | h | h
        · have : l ∈ c.filter (fun l => decide (valOf v l = 0)) := List.mem_filter.2 ⟨hl, by simp [h]⟩
          rw [hf] at this
          cases this
        · exact absurd h (n1 l hl)
        · exact h
      rw [w2.2 this, if_neg (by omega)]
    | cons u r =>
      have hmem : ∀ x, x ∈ u :: r ↔ x ∈ c ∧ valOf v x = 0 := by
        intro x
        rw [← hf, List.mem_filter]
        simp
      have hu := (hmem u).1 (List.mem_cons_self ..)
      have hw : s.worth = 0 := by
        rcases w0 with h | h | h
        · exact h
        · exact absurd (w1.1 h) h1
        · have := w2.1 h u hu.1; omega
      rw [hw]
      have hne : ∀ x ∈ c, valOf v x ≠ 2 → valOf v x = 0 := by
        intro x hx hn
        rcases valOf_cases hv x with h | h | h
        · exact h
        · exact absurd h (n1 x hx)
        · exact absurd h hn
      by_cases hm : s.many = 1
      · obtain ⟨⟨a1, a2⟩, a3⟩ := m1.1 hm
        have hul := a3 u hu.1 (by omega)
        rw [if_pos ⟨hm, rfl⟩]
        simp only
        rw [if_pos]
        · rw [hul]
        · intro x hx
          have := (hmem x).1 (List.mem_cons_of_mem _ hx)
          rw [hul]
          exact a3 x this.1 (by omega)
      · rw [if_neg fun h => hm h.1]
        simp only
        rw [if_neg]
        intro hr
        apply hm
        have h0 : s.many ≠ 0 := fun h0 => by have := m0.1 h0 u hu.1; omega
        have key : ∀ x ∈ c, valOf v x ≠ 2 → x = u := fun x hx hn => by
          rcases List.mem_cons.1 ((hmem x).2 ⟨hx, hne x hx hn⟩) with h | h
          · exact h
          · exact hr x h
        have hl := lt h0
        refine m1.2 ⟨hl, fun x hx hn => ?_⟩
        rw [key x hx hn, key s.left hl.1 hl.2]

/-- What a literal is worth behind another one's setting. -/
theorem valOf_set {v : List Int} {y l : Int} (hy : isLit y ((v.length : Int) - 1) = true) (hl : isLit l ((v.length : Int) - 1) = true) :
    valOf (v.set (absI y).toNat (if 0 < y then 1 else 2)) l = if absI l = absI y then (if l = y then 1 else 2) else valOf v l := by
  have hy' := isLit_spec.1 hy
  have hl' := isLit_spec.1 hl
  have h1 : (absI y).toNat < v.length ∧ 0 ≤ absI y := by unfold absI; split <;> omega
  have h2 : (absI l).toNat < v.length ∧ 0 ≤ absI l := by unfold absI; split <;> omega
  have hset : isLit l (((v.set (absI y).toNat (if 0 < y then 1 else 2)).length : Int) - 1) = true := by rw [List.length_set]; exact hl
  rw [valOf_lit hset, valOf_lit hl]
  by_cases e : absI l = absI y
  · rw [if_pos e, e, List.getD_eq_getElem?_getD, List.getElem?_set_self h1.1, Option.getD_some]
    have : l = y ∨ l = -y := by unfold absI at e; split at e <;> split at e <;> omega
    by_cases hp : 0 < y
    · rcases this with rfl | rfl
      · simp [hp, show ¬ l < 0 by omega]
      · simp [hp, show ¬ -y = y by omega]
    · rcases this with rfl | rfl
      · simp [hp, show l < 0 by omega]
      · simp [hp, show ¬ -y = y by omega]
  · have hne : (absI y).toNat ≠ (absI l).toNat := by omega
    rw [if_neg e, List.getD_eq_getElem?_getD, List.getElem?_set_ne hne, ← List.getD_eq_getElem?_getD]

theorem isLit_neg {y n : Int} : isLit (-y) n = isLit y n := by
  rw [Bool.eq_iff_iff, isLit_spec, isLit_spec]
  omega
theorem absI_neg (y : Int) : absI (-y) = absI y := by unfold absI; split <;> split <;> omega

theorem valOf_neg {v : List Int} (hv : ∀ x ∈ v, x = 0 ∨ x = 1 ∨ x = 2) {y : Int} (hy : isLit y ((v.length : Int) - 1) = true) (h0 : valOf v y = 0) : valOf v (-y) = 0 := by
  have hn : isLit (-y) ((v.length : Int) - 1) = true := by rw [isLit_neg]; exact hy
  have hy' := isLit_spec.1 hy
  have hlt : (absI y).toNat < v.length := by unfold absI; split <;> omega
  have hx := hv _ (getD_mem hlt)
  rw [valOf_lit hn, absI_neg]
  rw [valOf_lit hy] at h0
  generalize v.getD (absI y).toNat 0 = x at hx h0
  rcases hx with rfl | rfl | rfl
  · simp
  · split at h0 <;> omega
  · split at h0 <;> omega

theorem unknown_zero {v : List Int} (hv : ∀ x ∈ v, x = 0 ∨ x = 1 ∨ x = 2) {y : Int} (hy : isLit y ((v.length : Int) - 1) = true) (h0 : valOf v y = 0) : v.getD (absI y).toNat 0 = 0 := by
  have hy' := isLit_spec.1 hy
  have hlt : (absI y).toNat < v.length := by unfold absI; split <;> omega
  have hx := hv _ (getD_mem hlt)
  rw [valOf_lit hy] at h0
  generalize v.getD (absI y).toNat 0 = x at hx h0
  rcases hx with rfl | rfl | rfl
  · rfl
  · split at h0 <;> omega
  · split at h0 <;> omega

/-- Set and unset again. -/
theorem unset_set {v : List Int} {y : Int} (hy : isLit y ((v.length : Int) - 1) = true) (h0 : v.getD (absI y).toNat 0 = 0) (z : Int) : unsetOf (v.set (absI y).toNat z) (absI y) = v := by
  have hy' := isLit_spec.1 hy
  have hlt : (absI y).toNat < v.length ∧ 0 < absI y := by unfold absI; split <;> omega
  unfold unsetOf
  rw [if_pos ⟨hlt.2, by rw [List.length_set]; omega⟩, List.set_set, ← h0, List.getD_eq_getElem?_getD, List.getElem?_eq_getElem hlt.1, Option.getD_some, List.set_getElem_self]

theorem setOf_pos {v : List Int} {y : Int} (hy : isLit y ((v.length : Int) - 1) = true) (h0 : valOf v y ≠ 2) : canSet v y = true ∧ setOf v y = v.set (absI y).toNat (if 0 < y then 1 else 2) := by
  have : canSet v y = true := by unfold canSet; rw [hy]; simp [h0]
  exact ⟨this, by unfold setOf; rw [if_pos this]⟩

/-- What the law says of one literal that is left. -/
theorem units {v c : List Int} (hv : ∀ x ∈ v, x = 0 ∨ x = 1 ∨ x = 2) (hc : ∀ l ∈ c, isLit l ((v.length : Int) - 1) = true) (h1 : (clauseSpec v c).2 ≠ 0) :
    (clauseSpec v c).1 = 0 ∧ (clauseSpec v c).2 ∈ c ∧ valOf v (clauseSpec v c).2 = 0 ∧
      (clauseSpec (setOf v (clauseSpec v c).2) c).1 = 1 ∧ ((clauseSpec (setOf v (-(clauseSpec v c).2)) c).1 = 2 ∨ -(clauseSpec v c).2 ∈ c) := by
  have hn : ¬ ∃ l ∈ c, valOf v l = 1 := by
    intro h
    apply h1
    unfold clauseSpec
    rw [if_pos h]
  cases hf : c.filter (fun l => decide (valOf v l = 0)) with
  | nil =>
    exfalso
    apply h1
    unfold clauseSpec
    rw [if_neg hn, hf]
  | cons u r =>
    have hmem : ∀ x, x ∈ u :: r ↔ x ∈ c ∧ valOf v x = 0 := by
      intro x
      rw [← hf, List.mem_filter]
      simp
    have hu := (hmem u).1 (List.mem_cons_self ..)
    by_cases hr : ∀ x ∈ r, x = u
    · have e : clauseSpec v c = (0, u) := by
        unfold clauseSpec
        rw [if_neg hn, hf]
        simp only
        rw [if_pos hr]
      rw [e]
      simp only
      have hlu := hc u hu.1
      have hnu : isLit (-u) ((v.length : Int) - 1) = true := by rw [isLit_neg]; exact hlu
      have hvn := valOf_neg hv hlu hu.2
      obtain ⟨a1, a2⟩ := setOf_pos hlu (by rw [hu.2]; omega)
      obtain ⟨b1, b2⟩ := setOf_pos hnu (by rw [hvn]; omega)
      refine ⟨trivial, hu.1, hu.2, ?_, ?_⟩
      · unfold clauseSpec
        rw [if_pos ⟨u, hu.1, by rw [a2, valOf_set hlu hlu, if_pos rfl, if_pos rfl]⟩]
      · by_cases hm : -u ∈ c
        · exact .inr hm
        · left
          have all2 : ∀ l ∈ c, valOf (setOf v (-u)) l = 2 := by
            intro l hl
            rw [b2, valOf_set hnu (hc l hl)]
            by_cases ha : absI l = absI (-u)
            · have hul := isLit_spec.1 hlu
              rw [if_pos ha, if_neg]
              intro e
              rw [e] at hl
              exact hm hl
            · rw [if_neg ha]
              rcases valOf_cases hv l with h | h | h
              · exfalso
                have : l = u := by
                  rcases List.mem_cons.1 ((hmem l).2 ⟨hl, h⟩) with e | e
                  · exact e
                  · exact hr l e
                rw [this, absI_neg] at ha
                exact ha rfl
              · exact absurd ⟨l, hl, h⟩ hn
              · exact h
          unfold clauseSpec
          rw [if_neg]
          · have : c.filter (fun l => decide (valOf (setOf v (-u)) l = 0)) = [] := by
              rw [List.filter_eq_nil_iff]
              intro l hl
              simp [all2 l hl]
            rw [this]
          · rintro ⟨l, hl, h⟩
            rw [all2 l hl] at h
            omega
    · exfalso
      apply h1
      unfold clauseSpec
      rw [if_neg hn, hf]
      simp only
      rw [if_neg hr]

end Go.Proofs.Ythccobceodgmlaa
