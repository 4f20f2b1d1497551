/-
  What Clause and Has do, told of lists.
-/
import Derived.Test.YthccobceodgmlaaA2
namespace Go.Proofs.Ythccobceodgmlaa
open Go.RowKit

structure ClSt where
  left : Int
  many : Int
  worth : Int

def clStep (v : List Int) (s : ClSt) (l : Int) : ClSt :=
  if valOf v l = 2 then s
  else
    let w := if valOf v l = 1 then 1 else if s.worth = 2 then 0 else s.worth
    if s.many = 0 ∨ l ≠ s.left then ⟨l, s.many + 1, w⟩ else ⟨s.left, s.many, w⟩

theorem clause_loop (fuel d : Nat) {h : AHeap} {i j : Nat} {v : List Int} (ha : IsAssign h i j v) {s : Sl} {c : List Int} (hs : h.sliceCells 1 s = some (intsC c)) (hc : c.length < 4000000000000000000) :
    ∀ (n k : Nat) (st : ClSt), c.length < n + k → k ≤ c.length → 0 ≤ st.many → st.many ≤ k →
      l17_0 fuel (d + 2) n [(0, .ptr (aPt i)), (6, .int .i64 st.left), (7, .int .i64 st.many), (8, .int .i64 st.worth), (12, .slice s), (13, .int .i64 (c.length : Int)), (14, .int .i64 (k : Int))] h =
        some (.exit 0, [(6, .int .i64 ((c.drop k).foldl (clStep v) st).left), (7, .int .i64 ((c.drop k).foldl (clStep v) st).many), (8, .int .i64 ((c.drop k).foldl (clStep v) st).worth)], h) := by
  intro n
  induction n with
  | zero => intro k st h1 h2; omega
  | succ n ih =>
    intro k st h1 h2 h3 h4
    rw [l17_0_eq]
    by_cases hk : k < c.length
    · have hk' : (k : Int) < (c.length : Int) := by omega
      have hg : (intsC c)[(k : Int).toNat]? = some (.int .i64 c[k]) := by simp [List.getElem?_eq_getElem hk]
      have hd : c.drop k = c[k] :: c.drop (k + 1) := List.drop_eq_getElem_cons hk
      have hw : IntKind.wrap .i64 ((k : Int) + 1) = ((k + 1 : Nat) : Int) := by rw [wrap64 (by omega) (by omega)]; omega
      simp only [hk', decide_true, cond_true]
      rw [read1 hs (by omega) hg]
      simp only [int_int, Option.bind_some]
      rw [value16 _ _ ha]
      simp only [int_int, Option.bind_some, hw]
      rw [hd, List.foldl_cons]
      generalize hx : valOf v c[k] = x
      have hstep : clStep v st c[k] = if x = 2 then st else if st.many = 0 ∨ c[k] ≠ st.left then ⟨c[k], st.many + 1, if x = 1 then 1 else if st.worth = 2 then 0 else st.worth⟩ else ⟨st.left, st.many, if x = 1 then 1 else if st.worth = 2 then 0 else st.worth⟩ := by
        unfold clStep; rw [hx]
      have go : ∀ w, w = (if x = 1 then 1 else if st.worth = 2 then 0 else st.worth) → x ≠ 2 →
          k17_2 fuel (d + 2) n .normal [(0, .ptr (aPt i)), (6, .int .i64 st.left), (7, .int .i64 st.many), (8, .int .i64 w), (10, .int .i64 c[k]), (12, .slice s), (13, .int .i64 (c.length : Int)), (14, .int .i64 (k : Int))] h =
          some (.exit 0, [(6, .int .i64 ((c.drop (k + 1)).foldl (clStep v) (clStep v st c[k])).left), (7, .int .i64 ((c.drop (k + 1)).foldl (clStep v) (clStep v st c[k])).many), (8, .int .i64 ((c.drop (k + 1)).foldl (clStep v) (clStep v st c[k])).worth)], h) := by
        intro w hw' hx2
        rw [k17_2_n, hw]
        rw [hstep, if_neg hx2, ← hw']
        by_cases hm : st.many = 0 ∨ c[k] ≠ st.left
        · rw [if_pos hm]
          have e : (bif decide (st.many = 0) then true else !decide (c[k] = st.left)) = true := by
            rcases hm with hm | hm <;> by_cases h9 : st.many = 0 <;> simp [hm, h9]
          rw [e, cond_true, wrap64 (by omega) (by omega)]
          exact ih (k + 1) ⟨c[k], st.many + 1, w⟩ (by omega) (by omega) (by simp only; omega) (by simp only; omega)
        · rw [if_neg hm]
          have e : (bif decide (st.many = 0) then true else !decide (c[k] = st.left)) = false := by
            simp only [not_or, ne_eq, Decidable.not_not] at hm
            simp [hm.1, hm.2]
          rw [e, cond_false]
          exact ih (k + 1) ⟨st.left, st.many, w⟩ (by omega) (by omega) h3 (by simp only; omega)
      by_cases hx2 : x = 2
      · simp only [hx2, decide_true, cond_true]
        rw [hstep, if_pos hx2]
        exact ih (k + 1) st (by omega) (by omega) h3 (by omega)
      · simp only [hx2, decide_false, cond_false]
        by_cases hx1 : x = 1
        · simp only [hx1, decide_true, cond_true, Option.bind_some]
          exact go 1 (by rw [if_pos hx1]) hx2
        · simp only [hx1, decide_false, cond_false]
          by_cases hw2 : st.worth = 2
          · simp only [hw2, decide_true, cond_true, Option.bind_some, k17_1_n]
            exact go 0 (by rw [if_neg hx1, if_pos hw2]) hx2
          · simp only [hw2, decide_false, cond_false, Option.bind_some, k17_1_n]
            exact go st.worth (by rw [if_neg hx1, if_neg hw2]) hx2
    · have hk' : ¬ (k : Int) < (c.length : Int) := by omega
      have : k = c.length := by omega
      subst this
      simp only [hk', decide_false, cond_false, List.drop_length, List.foldl_nil]

/-- What a clause is worth, and the literal that is left. -/
def clauseOf (v : List Int) (c : List Int) : Int × Int :=
  let s := c.foldl (clStep v) ⟨0, 0, 2⟩
  (s.worth, if s.many = 1 ∧ s.worth = 0 then s.left else 0)

theorem clause17 (fuel d : Nat) {h : AHeap} {i j : Nat} {v : List Int} (ha : IsAssign h i j v) {s : Sl} {c : List Int} (hs : h.sliceCells 1 s = some (intsC c)) (hf : c.length < fuel) (hc : c.length < 4000000000000000000) :
    run fuel (d + 3) 17 [.ptr (aPt i), .slice s] h = some (.tup [.int .i64 (clauseOf v c).1, .int .i64 (clauseOf v c).2], h) := by
  have hl : s.len = c.length := by have := sliceCells_len hs; simp at this; omega
  rw [e17, hl]
  have := clause_loop fuel d ha hs hc fuel 0 ⟨0, 0, 2⟩ (by omega) (by omega) (by simp) (by simp)
  simp only [Int.natCast_zero] at this
  rw [this]
  simp only [Option.bind_some, k17_0_x0, List.drop_zero, clauseOf]
  generalize c.foldl (clStep v) ⟨0, 0, 2⟩ = st
  by_cases h1 : st.many = 1 <;> by_cases h2 : st.worth = 0 <;> simp [h1, h2]

theorem has_loop (fuel d : Nat) {h : AHeap} {s : Sl} {c : List Int} (hs : h.sliceCells 1 s = some (intsC c)) (hc : c.length < 4000000000000000000) (x : Int) :
    ∀ (n k : Nat), c.length < n + k → k ≤ c.length →
      (l18_0 fuel d n [(0, .slice s), (1, .int .i64 x), (5, .int .i64 (k : Int))] h).bind (fun p => k18_0 fuel d p.1 p.2.1 p.2.2) = some (.bool (decide (x ∈ c.drop k)), h) := by
  have hl : s.len = c.length := by have := sliceCells_len hs; simp at this; omega
  intro n
  induction n with
  | zero => intro k h1 h2; omega
  | succ n ih =>
    intro k h1 h2
    rw [l18_0_eq, hl]
    by_cases hk : k < c.length
    · have hk' : (k : Int) < (c.length : Int) := by omega
      have hg : (intsC c)[(k : Int).toNat]? = some (.int .i64 c[k]) := by simp [List.getElem?_eq_getElem hk]
      have hd : c.drop k = c[k] :: c.drop (k + 1) := List.drop_eq_getElem_cons hk
      have hw : IntKind.wrap .i64 ((k : Int) + 1) = ((k + 1 : Nat) : Int) := by rw [wrap64 (by omega) (by omega)]; omega
      simp only [hk', decide_true, cond_true]
      rw [read1 hs (by omega) hg]
      simp only [int_int, Option.bind_some, hw]
      by_cases hx : c[k] = x
      · rw [hd]; simp [hx, k18_0_r]
      · simp only [hx, decide_false, cond_false]
        rw [ih (k + 1) (by omega) (by omega)]
        have hx' : ¬ x = c[k] := fun e => hx e.symm
        have : (x ∈ c.drop k) = (x ∈ c.drop (k + 1)) := by rw [hd]; simp only [List.mem_cons, hx', false_or]
        simp only [this]
    · have hk' : ¬ (k : Int) < (c.length : Int) := by omega
      have : k = c.length := by omega
      subst this
      simp [hk', k18_0_x0]

theorem has18 (fuel d : Nat) {h : AHeap} {s : Sl} {c : List Int} (hs : h.sliceCells 1 s = some (intsC c)) (hf : c.length < fuel) (hc : c.length < 4000000000000000000) (x : Int) :
    run fuel (d + 1) 18 [.slice s, .int .i64 x] h = some (.bool (decide (x ∈ c)), h) := by
  rw [e18]
  have := has_loop fuel d hs hc x fuel 0 (by omega) (by omega)
  simpa using this

end Go.Proofs.Ythccobceodgmlaa
