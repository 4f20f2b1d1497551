/-
  The law AssignModels, over abstract heaps.
-/
import Derived.Test.YthccobceodgmlaaA8
namespace Go.Proofs.Ythccobceodgmlaa
open Go.RowKit

theorem wrapu64 {n : Int} (h0 : 0 ≤ n) (h1 : n < 18446744073709551616) : IntKind.wrap .u64 n = n := by
  rw [IntKind.wrap_u64]; omega

/-- Bit t of a number is 0. -/
def bit0 (x : Int) (t : Nat) : Bool := decide (bitsOp .and .i64 (Int.fdiv x (2 ^ min (Int.toNat (t : Int)) (IntKind.bits .i64))) 1 = 0)
def tgt (x : Int) (t : Nat) : Int := if bit0 x t then 2 else 1
def litT (x : Int) (t : Nat) : Int := if bit0 x t then -(t : Int) else t

structure Ph (x : Int) (v : List Int) : Prop where
  len : v.length = 13
  zero : v.getD 0 0 = 0
  some : ∀ i, 1 ≤ i → i ≤ 12 → v.getD i 0 = 0 ∨ v.getD i 0 = tgt x i

theorem tgt_cases (x : Int) (t : Nat) : tgt x t = 1 ∨ tgt x t = 2 := by unfold tgt; split <;> simp

theorem getD_set {v : List Int} {m k : Nat} {z : Int} (hm : m < v.length) : (v.set m z).getD k 0 = if k = m then z else v.getD k 0 := by
  rw [List.getD_eq_getElem?_getD, List.getD_eq_getElem?_getD]
  by_cases h : k = m
  · subst h; rw [if_pos rfl, List.getElem?_set_self hm]; rfl
  · rw [if_neg h, List.getElem?_set_ne (fun e => h e.symm)]

theorem ph_set {x : Int} {v : List Int} (hp : Ph x v) {t : Nat} (h1 : 1 ≤ t) (h2 : t ≤ 12) :
    canSet v (litT x t) = true ∧ setOf v (litT x t) = v.set t (tgt x t) ∧ Ph x (v.set t (tgt x t)) ∧ canSet (v.set t (tgt x t)) (-(litT x t)) = false := by
  obtain ⟨hl, hz, hs⟩ := hp
  have hlt : t < v.length := by omega
  have hlit : isLit (litT x t) ((v.length : Int) - 1) = true := by
    rw [isLit_spec, hl]; unfold litT; split <;> omega
  have habs : (absI (litT x t)).toNat = t := by
    unfold litT absI; split <;> split <;> omega
  have hval : valOf v (litT x t) ≠ 2 := by
    rw [valOf_lit hlit, habs]
    rcases hs t h1 h2 with h | h
    · rw [h]; simp
    · rw [h]; unfold litT tgt; split <;> simp <;> omega
  obtain ⟨a1, a2⟩ := setOf_pos hlit hval
  have hsgn : (if 0 < litT x t then (1 : Int) else 2) = tgt x t := by
    unfold litT tgt; split
    · rw [if_neg (by omega)]
    · rw [if_pos (by omega)]
  rw [habs, hsgn] at a2
  refine ⟨a1, a2, ⟨by simpa using hl, ?_, fun i i1 i2 => ?_⟩, ?_⟩
  · rw [getD_set hlt, if_neg (by omega)]; exact hz
  · rw [getD_set hlt]
    by_cases h : i = t
    · subst h; rw [if_pos rfl]; exact .inr rfl
    · rw [if_neg h]; exact hs i i1 i2
  · have hlit2 : isLit (-(litT x t)) (((v.set t (tgt x t)).length : Int) - 1) = true := by
      rw [List.length_set, isLit_neg]; exact hlit
    unfold canSet
    rw [hlit2, valOf_lit hlit2, absI_neg, habs, getD_set hlt, if_pos rfl]
    unfold litT tgt
    split
    · rw [if_neg (by omega)]; rfl
    · rw [if_pos (by omega)]; rfl

theorem models_one (fuel d : Nat) (x y : Int) {h0 : AHeap} {s : Sl} {i j : Nat} (hj : h0.rows.length ≤ j) : ∀ (n t : Nat) (v : List Int) (h : AHeap), 13 < n + t → 1 ≤ t → t ≤ 13 → Ext h0 h → IsAssign h i j v → Ph x v →
    ∃ v' h', l5_0 fuel (d + 3) n [(0, .int .i64 x), (2, .int .i64 y), (7, .bool true), (8, .slice s), (9, .ptr (aPt i)), (11, .int .i64 (t : Int))] h = some (.exit 0, [(0, .int .i64 x), (6, .bot), (7, .bool true), (8, .slice s), (9, .ptr (aPt i))], h') ∧ Ext h0 h' ∧ IsAssign h' i j v' ∧ Ph x v' := by
  intro n
  induction n with
  | zero => intro t v h h1 h2 h3; omega
  | succ n ih =>
    intro t v h h1 h2 h3 hx ha hp
    rw [l5_0_eq]
    by_cases ht : t ≤ 12
    · rw [bif_pos (by omega)]
      have hw : IntKind.wrap .u64 (t : Int) = (t : Int) := wrapu64 (by omega) (by omega)
      have hneg : IntKind.wrap .i64 (0 - (t : Int)) = -(t : Int) := by rw [wrap64 (by omega) (by omega)]; omega
      have tail : k5_1 fuel (d + 3) n .normal [(0, .int .i64 x), (2, .int .i64 y), (7, .bool true), (8, .slice s), (9, .ptr (aPt i)), (11, .int .i64 (t : Int)), (12, .int .i64 (litT x t))] h = k5_1 fuel (d + 3) n .normal [(0, .int .i64 x), (2, .int .i64 y), (7, .bool true), (8, .slice s), (9, .ptr (aPt i)), (11, .int .i64 (t : Int)), (12, .int .i64 (litT x t))] h := rfl
      have key : ∃ v' h', k5_1 fuel (d + 3) n .normal [(0, .int .i64 x), (2, .int .i64 y), (7, .bool true), (8, .slice s), (9, .ptr (aPt i)), (11, .int .i64 (t : Int)), (12, .int .i64 (litT x t))] h = some (.exit 0, [(0, .int .i64 x), (6, .bot), (7, .bool true), (8, .slice s), (9, .ptr (aPt i))], h') ∧ Ext h0 h' ∧ IsAssign h' i j v' ∧ Ph x v' := by
        rw [k5_1_n, hw, bif_neg (by omega), succI (by omega)]
        obtain ⟨a1, a2, a3, _⟩ := ph_set hp h2 ht
        obtain ⟨h2', e1, e2, e3⟩ := set14 fuel d ha (litT x t)
        rw [a1] at e1
        rw [a2] at e2
        by_cases hb : bitsOp .and .i64 (Int.fdiv y (2 ^ min (Int.toNat (t : Int)) (IntKind.bits .i64))) 1 = 1
        · rw [bif_pos hb]
          simp only [e1, Option.bind_some, bool_bool, Bool.not_true, cond_false]
          exact ih (t + 1) _ h2' (by omega) (by omega) (by omega) (Keeps.toNew hx e3 fun r e => by omega) e2 a3
        · rw [bif_neg hb]
          exact ih (t + 1) v h (by omega) (by omega) (by omega) hx ha hp
      rw [hw, bif_neg (by omega), hneg]
      clear tail
      by_cases hb : bit0 x t = true
      · have hb' : bitsOp .and .i64 (Int.fdiv x (2 ^ min (Int.toNat (t : Int)) (IntKind.bits .i64))) 1 = 0 := of_decide_eq_true hb
        rw [bif_pos hb']
        have : litT x t = -(t : Int) := by unfold litT; rw [if_pos hb]
        rw [this] at key
        simpa only [Option.bind_some] using key
      · have hb' : ¬ bitsOp .and .i64 (Int.fdiv x (2 ^ min (Int.toNat (t : Int)) (IntKind.bits .i64))) 1 = 0 := fun e => hb (decide_eq_true e)
        rw [bif_neg hb']
        have : litT x t = (t : Int) := by unfold litT; rw [if_neg hb]
        rw [this] at key
        simpa only [Option.bind_some] using key
    · rw [bif_neg (by omega)]
      exact ⟨v, h, rfl, hx, ha, hp⟩

theorem models_two (fuel d : Nat) (x p : Int) {h0 : AHeap} {s : Sl} {i j : Nat} (hj : h0.rows.length ≤ j) : ∀ (n t : Nat) (v : List Int) (h : AHeap), 13 < n + t → 1 ≤ t → t ≤ 13 → Ext h0 h → IsAssign h i j v → Ph x v → (∀ k, 1 ≤ k → k < t → v.getD k 0 = tgt x k) →
    ∃ v' h', l5_1 fuel (d + 3) n [(0, .int .i64 x), (7, .bool true), (8, .slice s), (9, .ptr (aPt i)), (10, .int .i64 p), (13, .int .i64 (t : Int))] h = some (.exit 2, [(6, .bot), (7, .bool true), (8, .slice s), (9, .ptr (aPt i)), (10, .int .i64 p)], h') ∧ Ext h0 h' ∧ IsAssign h' i j v' ∧ Ph x v' ∧ ∀ k, 1 ≤ k → k < 13 → v'.getD k 0 = tgt x k := by
  intro n
  induction n with
  | zero => intro t v h h1 h2 h3; omega
  | succ n ih =>
    intro t v h h1 h2 h3 hx ha hp hall
    rw [l5_1_eq]
    by_cases ht : t ≤ 12
    · rw [bif_pos (by omega)]
      have hw : IntKind.wrap .u64 (t : Int) = (t : Int) := wrapu64 (by omega) (by omega)
      have hneg : IntKind.wrap .i64 (0 - (t : Int)) = -(t : Int) := by rw [wrap64 (by omega) (by omega)]; omega
      have key : ∃ v' h', k5_3 fuel (d + 3) n .normal [(0, .int .i64 x), (7, .bool true), (8, .slice s), (9, .ptr (aPt i)), (10, .int .i64 p), (13, .int .i64 (t : Int)), (14, .int .i64 (litT x t))] h = some (.exit 2, [(6, .bot), (7, .bool true), (8, .slice s), (9, .ptr (aPt i)), (10, .int .i64 p)], h') ∧ Ext h0 h' ∧ IsAssign h' i j v' ∧ Ph x v' ∧ ∀ k, 1 ≤ k → k < 13 → v'.getD k 0 = tgt x k := by
        obtain ⟨a1, a2, a3, a4⟩ := ph_set hp h2 ht
        obtain ⟨h2', e1, e2, e3⟩ := set14 fuel d ha (litT x t)
        rw [a1] at e1
        rw [a2] at e2
        obtain ⟨h3', e4, e5, e6⟩ := set14 fuel d e2 (-(litT x t))
        have hlw : IntKind.wrap .i64 (0 - litT x t) = -(litT x t) := by
          rw [wrap64]
          · omega
          · unfold litT; split <;> omega
          · unfold litT; split <;> omega
        have hns : setOf (v.set t (tgt x t)) (-(litT x t)) = v.set t (tgt x t) := by unfold setOf; rw [a4]; rfl
        rw [a4] at e4
        rw [hns] at e5
        rw [k5_3_n, hlw]
        simp only [e1, Option.bind_some, bool_bool, Bool.not_true, beq_self_eq_true, cond_true, e4, cond_false, succI (show t < 9000000000000000000 by omega)]
        refine ih (t + 1) _ h3' (by omega) (by omega) (by omega) (Keeps.toNew hx (e3.trans e6) fun r e => by omega) e5 a3 fun k k1 k2 => ?_
        rw [getD_set (by have := hp.len; omega)]
        by_cases hk : k = t
        · rw [if_pos hk, hk]
        · rw [if_neg hk]; exact hall k k1 (by omega)
      rw [hw, bif_neg (by omega), hneg]
      by_cases hb : bit0 x t = true
      · have hb' : bitsOp .and .i64 (Int.fdiv x (2 ^ min (Int.toNat (t : Int)) (IntKind.bits .i64))) 1 = 0 := of_decide_eq_true hb
        rw [bif_pos hb']
        have : litT x t = -(t : Int) := by unfold litT; rw [if_pos hb]
        rw [this] at key
        simpa only [Option.bind_some] using key
      · have hb' : ¬ bitsOp .and .i64 (Int.fdiv x (2 ^ min (Int.toNat (t : Int)) (IntKind.bits .i64))) 1 = 0 := fun e => hb (decide_eq_true e)
        rw [bif_neg hb']
        have : litT x t = (t : Int) := by unfold litT; rw [if_neg hb]
        rw [this] at key
        simpa only [Option.bind_some] using key
    · rw [bif_neg (by omega)]
      exact ⟨v, h, rfl, hx, ha, hp, fun k k1 k2 => hall k k1 (by omega)⟩

/-- A clause where all is known. -/
theorem worth_full {v c : List Int} (hall : ∀ l ∈ c, valOf v l = 1 ∨ valOf v l = 2) : (clauseSpec v c).1 = if ∃ l ∈ c, valOf v l = 1 then 1 else 2 := by
  unfold clauseSpec
  by_cases h : ∃ l ∈ c, valOf v l = 1
  · rw [if_pos h, if_pos h]
  · rw [if_neg h, if_neg h]
    have : c.filter (fun l => decide (valOf v l = 0)) = [] := by
      rw [List.filter_eq_nil_iff]
      intro l hl
      rcases hall l hl with e | e <;> simp [e]
    rw [this]

theorem worth_cases (v c : List Int) : (clauseSpec v c).1 = 0 ∨ (clauseSpec v c).1 = 1 ∨ (clauseSpec v c).1 = 2 := by
  unfold clauseSpec
  split
  · simp
  · split <;> simp

theorem models_plain {x : Int} {v1 v2 : List Int} {cc : List (List Int)} (p1 : Ph x v1) (p2 : Ph x v2) (hf : ∀ k, 1 ≤ k → k < 13 → v2.getD k 0 = tgt x k) (hc : ∀ c ∈ cc, ∀ l ∈ c, isLit l 12 = true) :
    (allSpec v2 cc = 1 ↔ ofSpec cc (modelOf v2) = true) ∧ (allSpec v2 cc = 2 ↔ ofSpec cc (modelOf v2) = false) ∧ (allSpec v1 cc = 0 ∨ allSpec v1 cc = allSpec v2 cc) ∧ (knownOf v2).length = 12 := by
  have l1 := p1.len
  have l2 := p2.len
  have lit1 : ∀ c ∈ cc, ∀ l ∈ c, isLit l ((v1.length : Int) - 1) = true := fun c h l hl => by rw [l1]; exact hc c h l hl
  have lit2 : ∀ c ∈ cc, ∀ l ∈ c, isLit l ((v2.length : Int) - 1) = true := fun c h l hl => by rw [l2]; exact hc c h l hl
  have rng : ∀ {l : Int}, isLit l 12 = true → 1 ≤ (absI l).toNat ∧ (absI l).toNat ≤ 12 ∧ 0 < absI l := by
    intro l h
    have := isLit_spec.1 h
    unfold absI; split <;> omega
  have val2 : ∀ c ∈ cc, ∀ l ∈ c, valOf v2 l = 1 ∨ valOf v2 l = 2 := by
    intro c h l hl
    obtain ⟨r1, r2, _⟩ := rng (hc c h l hl)
    rw [valOf_lit (lit2 c h l hl), hf _ r1 (by omega)]
    rcases tgt_cases x (absI l).toNat with e | e <;> rw [e] <;> split <;> simp
  have val1 : ∀ c ∈ cc, ∀ l ∈ c, valOf v1 l = 0 ∨ valOf v1 l = valOf v2 l := by
    intro c h l hl
    obtain ⟨r1, r2, _⟩ := rng (hc c h l hl)
    rw [valOf_lit (lit1 c h l hl), valOf_lit (lit2 c h l hl), hf _ r1 (by omega)]
    rcases p1.some _ r1 r2 with e | e
    · left; rw [e]; simp
    · right; rw [e]
  have hold : ∀ c ∈ cc, ∀ l ∈ c, holdsB (modelOf v2) l = decide (valOf v2 l = 1) := by
    intro c h l hl
    have hlit := hc c h l hl
    obtain ⟨r1, r2, r3⟩ := rng hlit
    have hm : (modelOf v2).getD (absI l).toNat false = decide (v2.getD (absI l).toNat 0 = 1) := by
      have : (absI l).toNat < v2.length := by omega
      simp [modelOf, List.getD_eq_getElem?_getD, List.getElem?_map, List.getElem?_eq_getElem this]
    have hlen : (modelOf v2).length = 13 := by simp [modelOf, l2]
    unfold holdsB
    rw [hm, hlen, decide_eq_true (show 0 < absI l ∧ (absI l).toNat < 13 by omega), Bool.true_and, valOf_lit (lit2 c h l hl), hf _ r1 (by omega)]
    have := isLit_spec.1 hlit
    rcases tgt_cases x (absI l).toNat with e | e <;> rw [e] <;> by_cases hneg : l < 0 <;> simp [hneg] <;> omega
  have any2 : ∀ c ∈ cc, (c.any (holdsB (modelOf v2)) = true ↔ ∃ l ∈ c, valOf v2 l = 1) := by
    intro c h
    rw [List.any_eq_true]
    constructor
    · rintro ⟨l, hl, e⟩
      rw [hold c h l hl] at e
      exact ⟨l, hl, of_decide_eq_true e⟩
    · rintro ⟨l, hl, e⟩
      exact ⟨l, hl, by rw [hold c h l hl]; exact decide_eq_true e⟩
  have w2 : ∀ c ∈ cc, (clauseSpec v2 c).1 = if ∃ l ∈ c, valOf v2 l = 1 then 1 else 2 := fun c h => worth_full (val2 c h)
  have n0 : ¬ ∃ c ∈ cc, (clauseSpec v2 c).1 = 0 := by
    rintro ⟨c, h, e⟩
    rw [w2 c h] at e
    split at e <;> omega
  have hof : ofSpec cc (modelOf v2) = true ↔ ¬ ∃ c ∈ cc, (clauseSpec v2 c).1 = 2 := by
    unfold ofSpec
    rw [List.all_eq_true]
    constructor
    · rintro h ⟨c, hcc, e⟩
      rw [w2 c hcc, if_pos ((any2 c hcc).1 (h c hcc))] at e
      omega
    · intro h c hcc
      refine (any2 c hcc).2 ?_
      apply Classical.byContradiction
      intro hn
      exact h ⟨c, hcc, by rw [w2 c hcc, if_neg hn]⟩
  refine ⟨?_, ?_, ?_, ?_⟩
  · rw [hof]
    unfold allSpec
    by_cases h : ∃ c ∈ cc, (clauseSpec v2 c).1 = 2
    · rw [if_pos h]; simp [h]
    · rw [if_neg h, if_neg n0]; simp [h]
  · rw [← Bool.not_eq_true, hof]
    unfold allSpec
    by_cases h : ∃ c ∈ cc, (clauseSpec v2 c).1 = 2
    · rw [if_pos h]; simp [h]
    · rw [if_neg h, if_neg n0]; simp [h]
  · by_cases h : ∃ c ∈ cc, (clauseSpec v1 c).1 = 2
    · right
      obtain ⟨c, hcc, e⟩ := h
      have a1 : allSpec v1 cc = 2 := by unfold allSpec; rw [if_pos ⟨c, hcc, e⟩]
      have all2 : ∀ l ∈ c, valOf v1 l = 2 := by
        intro l hl
        unfold clauseSpec at e
        split at e
        · omega
        · rename_i hn
          split at e
          · rename_i hf0
            rcases val1 c hcc l hl with h0 | h0
            · have : l ∈ c.filter (fun l => decide (valOf v1 l = 0)) := List.mem_filter.2 ⟨hl, by simp [h0]⟩
              rw [hf0] at this; cases this
            · rcases val2 c hcc l hl with h1 | h1
              · exact absurd ⟨l, hl, by rw [h0]; exact h1⟩ hn
              · rw [h0]; exact h1
          · omega
      have : (clauseSpec v2 c).1 = 2 := by
        rw [w2 c hcc, if_neg]
        rintro ⟨l, hl, e1⟩
        rcases val1 c hcc l hl with h0 | h0
        · have := all2 l hl; omega
        · have := all2 l hl; omega
      rw [a1]
      unfold allSpec
      rw [if_pos ⟨c, hcc, this⟩]
    · by_cases h0 : ∃ c ∈ cc, (clauseSpec v1 c).1 = 0
      · left; unfold allSpec; rw [if_neg h, if_pos h0]
      · right
        have a1 : allSpec v1 cc = 1 := by unfold allSpec; rw [if_neg h, if_neg h0]
        have : ¬ ∃ c ∈ cc, (clauseSpec v2 c).1 = 2 := by
          rintro ⟨c, hcc, e⟩
          have h1 : (clauseSpec v1 c).1 = 1 := by
            rcases worth_cases v1 c with e | e | e
            · exact absurd ⟨c, hcc, e⟩ h0
            · exact e
            · exact absurd ⟨c, hcc, e⟩ h
          have : ∃ l ∈ c, valOf v1 l = 1 := by
            unfold clauseSpec at h1
            split at h1
            · assumption
            · split at h1 <;> simp at h1
          obtain ⟨l, hl, e1⟩ := this
          rw [w2 c hcc, if_pos] at e
          · omega
          · refine ⟨l, hl, ?_⟩
            rcases val1 c hcc l hl with q | q <;> omega
        rw [a1]
        unfold allSpec
        rw [if_neg this, if_neg n0]
  · unfold knownOf
    rw [l2]
    have one : ∀ k, 1 ≤ k → k < 13 → (knownAt v2 k).length = 1 := by
      intro k k1 k2
      unfold knownAt
      rw [hf k k1 k2]
      rcases tgt_cases x k with e | e <;> simp [e]
    have nil : (knownAt v2 0).length = 0 := by unfold knownAt; rw [p2.zero]; rfl
    rw [List.length_flatMap]
    simp [List.range, List.range.loop, nil, one]

theorem law5 (fuel d : Nat) {h : AHeap} {s : Sl} {l : List Int} (hs : h.sliceCells 1 s = some (intsC l)) (hf : 100 ≤ fuel) (x y : Int) :
    ∃ h', run fuel (d + 6) 5 [.int .i64 x, .slice s, .int .i64 y] h = some (.bool true, h') := by
  have hsl : s.len = l.length := by have := sliceCells_len hs; simp at this; omega
  obtain ⟨h1, e1, x1⟩ := first10 fuel (d + 1) h
  rw [e5]
  simp only [e1, Option.bind_some, bool_bool, Bool.not_true, cond_false, hsl]
  by_cases hl : l.length ≤ 60
  · rw [bif_neg (by omega)]
    obtain ⟨s2, h2, e2, x2, n2⟩ := clauses19 fuel (d + 2) (vars := 12) (by omega) (by omega) (by omega) (by omega) (sliceCells_ext x1 hs)
    obtain ⟨sz1, sz2⟩ := clausesOf_size l 12
    have hlits := clausesOf_lits (vars := 12) l
    generalize clausesOf l 12 = cc at n2 sz1 sz2 hlits
    obtain ⟨h3, e3, a3, k3, n3, _⟩ := new11 fuel (d + 3) 12 h2 (by omega)
    rw [show ((12 : Nat) : Int) = 12 from rfl] at e3
    have ph0 : Ph x (List.replicate (12 + 1) 0) := by
      refine ⟨rfl, rfl, fun i i1 i2 => .inl ?_⟩
      rw [List.getD_eq_getElem?_getD, List.getElem?_replicate]
      split <;> rfl
    obtain ⟨v1, h4, e4, x4, a4, p4⟩ := models_one fuel (d + 2) x y (s := s2) (Nat.le_refl _) fuel 1 _ h3 (by omega) (by omega) (by omega) (k3 _) a3 ph0
    have hcl : ∀ c ∈ cc, c.length < fuel ∧ c.length < 4000000000000000000 := fun c hc => by have := sz2 c hc; omega
    have hok : ∀ c ∈ cc, c.length < fuel ∧ c.length < 4000000000000000000 ∧ ∀ l ∈ c, okInt l := fun c hc => ⟨(hcl c hc).1, (hcl c hc).2, fun l hl => by
      have := isLit_spec.1 (hlits c hc l hl)
      unfold okInt; omega⟩
    have e5 := all20 fuel (d + 1) a4 (n2.ext x4) (by omega) (by omega) hcl
    obtain ⟨v2, h6, e6, x6, a6, p6, f6⟩ := models_two fuel (d + 2) x (allSpec v1 cc) (s := s2) (Nat.le_refl _) fuel 1 _ h4 (by omega) (by omega) (by omega) x4 a4 p4 (fun k k1 k2 => by omega)
    have e7 := all20 fuel (d + 1) a6 (n2.ext x6) (by omega) (by omega) hcl
    have l6 := p6.len
    obtain ⟨h8, e8, o8, x8⟩ := model22 fuel (d + 4) a6 (by omega)
    have e9 := of21 fuel (d + 2) (o8.cells true) ((n2.ext x6).ext x8) (by omega) (by omega) hok
    obtain ⟨s10, h10, e10, x10, g10⟩ := known23 fuel (d + 4) (a6.keep x8 id id) (by omega)
    obtain ⟨q1, q2, q3, q4⟩ := models_plain p4 p6 f6 hlits
    have hkl : s10.len = 12 := by have := g10.len; simp only [List.length_map] at this; omega
    refine ⟨h10, ?_⟩
    rw [show ((1 : Nat) : Int) = 1 from rfl] at e4 e6
    simp only [e2, Option.bind_some, slice_slice, e3, ptr_ptr, nilTest_ptr_mk, cond_false, e4, k5_0_x0, e5, int_int, e6, k5_2_x2, e7, e8, e9, bool_bool, cond_true]
    have b1 : (bif (decide (allSpec v2 cc = 1) == ofSpec cc (modelOf v2)) then (decide (allSpec v2 cc = 2) == !ofSpec cc (modelOf v2)) else false) = true := by
      cases hof : ofSpec cc (modelOf v2) with
      | true =>
        have z1 := q1.2 hof
        rw [z1]; rfl
      | false =>
        have z2 := q2.2 hof
        rw [z2]; rfl
    have b2 : (bif decide (allSpec v1 cc = 0) then true else decide (allSpec v1 cc = allSpec v2 cc)) = true := by
      rcases q3 with q | q
      · rw [decide_eq_true q, cond_true]
      · rw [decide_eq_true q, Bool.cond_self]
    rw [b1]
    simp only [beq_self_eq_true, cond_true, Option.bind_some, bool_bool]
    rw [b2]
    simp only [beq_self_eq_true, cond_true, Option.bind_some, bool_bool, e10, slice_slice, hkl]
    rfl
  · rw [bif_pos (by omega)]
    exact ⟨_, rfl⟩

end Go.Proofs.Ythccobceodgmlaa
