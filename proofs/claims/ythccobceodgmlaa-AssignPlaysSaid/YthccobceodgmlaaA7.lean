/-
  What All and Clauses do, told of lists.
-/
import Derived.Test.YthccobceodgmlaaA6
namespace Go.Proofs.Ythccobceodgmlaa
open Go.RowKit

/-- What clauses are worth together. -/
def allSpec (v : List Int) (cc : List (List Int)) : Int :=
  if ∃ c ∈ cc, (clauseSpec v c).1 = 2 then 2 else if ∃ c ∈ cc, (clauseSpec v c).1 = 0 then 0 else 1

theorem all_loop (fuel d : Nat) {h : AHeap} {i j : Nat} {v : List Int} (ha : IsAssign h i j v) {s : Sl} {cc : List (List Int)} (hn : Nest h s cc) (hc : cc.length < 4000000000000000000) (hl : ∀ c ∈ cc, c.length < fuel ∧ c.length < 4000000000000000000) :
    ∀ (n m : Nat) (o : Int), cc.length < n + m → m ≤ cc.length → (o = 0 ∨ o = 1) → (∀ c ∈ cc.take m, (clauseSpec v c).1 ≠ 2) → (o = 0 ↔ ∃ c ∈ cc.take m, (clauseSpec v c).1 = 0) →
      (l20_0 fuel (d + 3) n [(0, .ptr (aPt i)), (5, .int .i64 o), (10, .slice s), (11, .int .i64 (cc.length : Int)), (12, .int .i64 (m : Int))] h).bind (fun p => k20_0 fuel (d + 3) p.1 p.2.1 p.2.2) = some (.int .i64 (allSpec v cc), h) := by
  intro n
  induction n with
  | zero => intro m o h1 h2; omega
  | succ n ih =>
    intro m o h1 h2 ho hno hoz
    rw [l20_0_eq]
    by_cases hm : m < cc.length
    · rw [bif_pos (by omega)]
      obtain ⟨s', r1, r2, r3, r4⟩ := hn.read hm
      have hmem : cc.getD m [] ∈ cc := by
        rw [List.getD_eq_getElem?_getD, List.getElem?_eq_getElem hm]
        exact List.getElem_mem _
      have e1 := clause17 fuel d ha r3 (hl _ hmem).1 (hl _ hmem).2
      rw [clauseOf_spec ha.all] at e1
      have htk : cc.take (m + 1) = cc.take m ++ [cc.getD m []] := by
        rw [List.take_succ_eq_append_getElem hm, List.getD_eq_getElem?_getD, List.getElem?_eq_getElem hm, Option.getD_some]
      simp only [r1, r2, Option.bind_some, slice_slice, e1, isTup_tup, List.length_cons, List.length_nil, Nat.reduceAdd, beq_eq, decide_true, cond_true, comp_tup, List.getElem?_cons_zero, List.getElem?_cons_succ, int_int, succI (show m < 9000000000000000000 by omega)]
      generalize hcm : cc.getD m [] = c at hmem htk
      by_cases hw2 : (clauseSpec v c).1 = 2
      · rw [bif_pos hw2]
        simp only [Option.bind_some, k20_0_r]
        unfold allSpec
        rw [if_pos ⟨c, hmem, hw2⟩]
      · rw [bif_neg hw2]
        have hno' : ∀ x ∈ cc.take (m + 1), (clauseSpec v x).1 ≠ 2 := by
          intro x hx
          rw [htk] at hx
          rcases List.mem_append.1 hx with hx | hx
          · exact hno x hx
          · rw [List.mem_singleton.1 hx]; exact hw2
        by_cases hw0 : (clauseSpec v c).1 = 0
        · rw [bif_pos hw0]
          refine ih (m + 1) 0 (by omega) (by omega) (.inl rfl) hno' ⟨fun _ => ⟨c, by rw [htk]; simp, hw0⟩, fun _ => rfl⟩
        · rw [bif_neg hw0]
          refine ih (m + 1) o (by omega) (by omega) ho hno' ?_
          rw [hoz]
          constructor
          · rintro ⟨x, hx, hx0⟩; exact ⟨x, by rw [htk]; exact List.mem_append_left _ hx, hx0⟩
          · rintro ⟨x, hx, hx0⟩
            rw [htk] at hx
            rcases List.mem_append.1 hx with hx | hx
            · exact ⟨x, hx, hx0⟩
            · rw [List.mem_singleton.1 hx] at hx0; exact absurd hx0 hw0
    · have : m = cc.length := by omega
      subst this
      rw [List.take_length] at hno hoz
      rw [bif_neg (by omega)]
      simp only [Option.bind_some, k20_0_x0]
      unfold allSpec
      rw [if_neg (by rintro ⟨c, hc, h2⟩; exact hno c hc h2)]
      by_cases h0 : ∃ c ∈ cc, (clauseSpec v c).1 = 0
      · rw [if_pos h0, hoz.2 h0]
      · rw [if_neg h0]
        rcases ho with rfl | rfl
        · exact absurd (hoz.1 rfl) h0
        · rfl

theorem all20 (fuel d : Nat) {h : AHeap} {i j : Nat} {v : List Int} (ha : IsAssign h i j v) {s : Sl} {cc : List (List Int)} (hn : Nest h s cc) (hf : cc.length < fuel) (hc : cc.length < 4000000000000000000) (hl : ∀ c ∈ cc, c.length < fuel ∧ c.length < 4000000000000000000) :
    run fuel (d + 4) 20 [.ptr (aPt i), .slice s] h = some (.int .i64 (allSpec v cc), h) := by
  rw [e20, hn.len]
  exact all_loop fuel d ha hn hc hl fuel 0 1 (by omega) (by omega) (.inr rfl) (by simp) (by simp)

/-- Numbers cut into clauses. -/
def clausesGo (vars : Int) : List Int → List (List Int) → List Int → List (List Int)
  | [], cc, c => if 0 < c.length then cc ++ [c] else cc
  | x :: r, cc, c => if (x % 7 = 0 ∧ 0 < c.length) ∨ 5 ≤ c.length then clausesGo vars r (cc ++ [c]) [litOf ((x % 1099511627776) / 7) vars] else clausesGo vars r cc (c ++ [litOf ((x % 1099511627776) / 7) vars])
def clausesOf (l : List Int) (vars : Int) : List (List Int) := if vars < 1 then [] else clausesGo vars l [] []

/-- Where the cutting stands. -/
structure Cut (h : AHeap) (s5 s6 : Sl) (ss : List Sl) (cc : List (List Int)) (c : List Int) : Prop where
  out : Grown h 1 s5 (ss.map AVal.slice)
  len : ss.length = cc.length
  ins : ∀ (k : Nat) s' c, ss[k]? = some s' → cc[k]? = some c → h.sliceCells 1 s' = some (intsC c)
  cur : Grown h 1 s6 (intsC c)
  apart : ∀ r, s5.row = some r → s6.row ≠ some r
  ap5 : ∀ s' ∈ ss, ∀ r, s5.row = some r → s'.Apart r
  ap6 : ∀ s' ∈ ss, ∀ r, s6.row = some r → s'.Apart r

theorem Grown.len {h : AHeap} {s : Sl} {cs : List AVal} (hg : Grown h 1 s cs) : s.len = cs.length := by
  have := sliceCells_len hg.cells; omega

theorem Cut.flush {h h0 : AHeap} {s5 s6 : Sl} {ss : List Sl} {cc : List (List Int)} {c : List Int} (hx : Ext h0 h) (f5 : s5.From h0.rows.length) (hc : Cut h s5 s6 ss cc c) (hn : cc.length < 1000000) :
    AHeap.sliceCells (AHeap.push h 1 [.slice s6]) 1 (Sl.mk ⟨AHeap.next h, 0, 0⟩ 1 true) = some [.slice s6] ∧
    ∃ s' h', AHeap.append (AHeap.push h 1 [.slice s6]) false 1 24 s5 (Sl.mk ⟨AHeap.next h, 0, 0⟩ 1 true).len [.slice s6] = some (s', h') ∧ Ext h0 h' ∧ s'.From h0.rows.length ∧ Cut h' s' .nil (ss ++ [s6]) (cc ++ [c]) [] := by
  obtain ⟨c1, c2, c3, c4, c5, c6, c7⟩ := hc
  have hl := c1.len
  simp at hl
  obtain ⟨e0, s', h', e1, e2, e3, e4, e5, e6⟩ := growOne (bytes := 24) (vs := [.slice s6]) c1 rfl (by omega) (by omega)
  refine ⟨e0, s', h', e1, Keeps.toNew hx e4 f5, e5 _ f5 hx.1, ?_, by simp [c2], ?_, .nil, fun r _ h => (by cases h), ?_, fun s' _ r h => (by cases h)⟩
  · simpa using e2
  · intro k t b h1 h2
    rcases (getElem?_append_one _ _ _ _).1 h1 with ⟨g1, g2⟩ | ⟨g1, rfl⟩
    · rcases (getElem?_append_one _ _ _ _).1 h2 with ⟨g3, g4⟩ | ⟨g3, _⟩
      · exact sliceCells_keep e4 (c3 k t b g2 g4) fun r hr hn e => c6 t (List.mem_of_getElem? g2) r e r hr hn rfl
      · omega
    · rcases (getElem?_append_one _ _ _ _).1 h2 with ⟨g3, g4⟩ | ⟨g3, rfl⟩
      · omega
      · exact sliceCells_keep e4 c4.cells fun r hr _ e => c5 r e hr
  · intro t ht r hr q hq hqn
    rintro rfl
    rcases e6 q hr with h1 | h1
    · rcases List.mem_append.1 ht with ht | ht
      · exact c6 t ht q h1 q hq hqn rfl
      · rw [List.mem_singleton.1 ht] at hq
        exact c5 q h1 hq
    · rcases List.mem_append.1 ht with ht | ht
      · obtain ⟨k, hk⟩ := List.mem_iff_getElem?.1 ht
        have hkl := (List.getElem?_eq_some_iff.1 hk).1
        have := sliceCells_lt (c3 k t _ hk (List.getElem?_eq_getElem (by omega))) hq hqn
        omega
      · rw [List.mem_singleton.1 ht] at hq
        have := c4.row_lt hq
        omega

theorem Cut.more {h h0 : AHeap} {s5 s6 : Sl} {ss : List Sl} {cc : List (List Int)} {c : List Int} (hx : Ext h0 h) (f6 : s6.From h0.rows.length) (hc : Cut h s5 s6 ss cc c) (hn : c.length < 1000000) (x : Int) :
    AHeap.sliceCells (AHeap.push h 1 [.int .i64 x]) 1 (Sl.mk ⟨AHeap.next h, 0, 0⟩ 1 true) = some [.int .i64 x] ∧
    ∃ s' h', AHeap.append (AHeap.push h 1 [.int .i64 x]) false 1 8 s6 (Sl.mk ⟨AHeap.next h, 0, 0⟩ 1 true).len [.int .i64 x] = some (s', h') ∧ Ext h0 h' ∧ s'.From h0.rows.length ∧ Cut h' s5 s' ss cc (c ++ [x]) := by
  obtain ⟨c1, c2, c3, c4, c5, c6, c7⟩ := hc
  have hl := c4.len
  simp at hl
  obtain ⟨e0, s', h', e1, e2, e3, e4, e5, e6⟩ := growOne (bytes := 8) (vs := [.int .i64 x]) c4 rfl (by omega) (by omega)
  refine ⟨e0, s', h', e1, Keeps.toNew hx e4 f6, e5 _ f6 hx.1, ?_, c2, ?_, by simpa using e2, ?_, c6, ?_⟩
  · exact c1.keep e4 fun r hr e => c5 r hr e
  · intro k t b h1 h2
    exact sliceCells_keep e4 (c3 k t b h1 h2) fun r hr hn e => c7 t (List.mem_of_getElem? h1) r e r hr hn rfl
  · intro r hr e
    rcases e6 r e with h1 | h1
    · exact c5 r hr h1
    · have := c1.row_lt hr; omega
  · intro t ht r hr q hq hqn
    rintro rfl
    rcases e6 q hr with h1 | h1
    · exact c7 t ht q h1 q hq hqn rfl
    · obtain ⟨k, hk⟩ := List.mem_iff_getElem?.1 ht
      have hkl := (List.getElem?_eq_some_iff.1 hk).1
      have := sliceCells_lt (c3 k t _ hk (List.getElem?_eq_getElem (by omega))) hq hqn
      omega

theorem clauses_loop (fuel d : Nat) {s : Sl} {l : List Int} {h0 : AHeap} {vars : Int} (hv : 0 < vars) (hv' : vars ≤ 1000000) (hl : l.length < 1000000) (hs0 : h0.sliceCells 1 s = some (intsC l)) : ∀ (n m : Nat) (s5 s6 : Sl) (ss : List Sl) (cc : List (List Int)) (c : List Int) (h : AHeap),
    l.length < n + m → m ≤ l.length → Ext h0 h → s5.From h0.rows.length → s6.From h0.rows.length → cc.length ≤ m → c.length ≤ m → Cut h s5 s6 ss cc c →
    ∃ s' h', (l19_0 fuel (d + 2) n [(0, .slice s), (1, .int .i64 vars), (5, .slice s5), (6, .slice s6), (7, .int .i64 (m : Int))] h).bind (fun p => k19_0 fuel (d + 2) p.1 p.2.1 p.2.2) = some (.slice s', h') ∧ Ext h0 h' ∧ s'.From h0.rows.length ∧ Nest h' s' (clausesGo vars (l.drop m) cc c) := by
  intro n
  induction n with
  | zero => intro m s5 s6 ss cc c h h1 h2; omega
  | succ n ih =>
    intro m s5 s6 ss cc c h h1 h2 hx f5 f6 n5 n6 hc
    have hs := sliceCells_ext hx hs0
    have hsl : s.len = l.length := by have := sliceCells_len hs; simp at this; omega
    have hcl : s6.len = c.length := by have := hc.cur.len; simpa using this
    rw [l19_0_eq, hsl, hcl]
    by_cases hm : m < l.length
    · rw [bif_pos (by omega)]
      obtain ⟨r1, r2⟩ := readI hs (j := (m : Int)) (by omega) (by simpa using hm)
      rw [Int.toNat_natCast] at r2
      have hd : l.drop m = l.getD m 0 :: l.drop (m + 1) := by
        rw [List.drop_eq_getElem_cons hm, List.getD_eq_getElem?_getD, List.getElem?_eq_getElem hm, Option.getD_some]
      generalize hxe : l.getD m 0 = x at r2 hd
      have e1 := number41 fuel (d + 1) x 7 h (by omega) (by omega)
      simp only [r1, r2, Option.bind_some, int_int, e1]
      rw [hd, clausesGo]
      -- what comes behind the test
      have tail : ∀ (t5 t6 : Sl) (ts : List Sl) (dd : List (List Int)) (b : List Int) (h3 : AHeap), Ext h0 h3 → t5.From h0.rows.length → t6.From h0.rows.length → dd.length ≤ m + 1 → b.length ≤ m → Cut h3 t5 t6 ts dd b →
          ∃ s' h', (k19_1 fuel (d + 2) n .normal [(0, .slice s), (1, .int .i64 vars), (5, .slice t5), (6, .slice t6), (7, .int .i64 (m : Int))] h3).bind (fun p => k19_0 fuel (d + 2) p.1 p.2.1 p.2.2) = some (.slice s', h') ∧ Ext h0 h' ∧ s'.From h0.rows.length ∧ Nest h' s' (clausesGo vars (l.drop (m + 1)) dd (b ++ [litOf ((x % 1099511627776) / 7) vars])) := by
        intro t5 t6 ts dd b h3 hx3 g5 g6 k5 k6 hc3
        have hs3 := sliceCells_ext hx3 hs0
        obtain ⟨q1, q2⟩ := readI hs3 (j := (m : Int)) (by omega) (by simpa using hm)
        rw [Int.toNat_natCast] at q2
        rw [hxe] at q2
        have e2 := number41 fuel (d + 1) x 1099511627776 h3 (by omega) (by omega)
        have hp := Int.emod_nonneg x (show (1099511627776 : Int) ≠ 0 by omega)
        have hlt := Int.emod_lt_of_pos x (show (0 : Int) < 1099511627776 by omega)
        have hdiv : IntKind.wrap .i64 (Int.tdiv (x % 1099511627776) 7) = (x % 1099511627776) / 7 := by
          rw [Int.tdiv_eq_ediv_of_nonneg hp, wrap64 (by omega) (by omega)]
        have e3 := lit12 fuel d ((x % 1099511627776) / 7) vars h3 hv hv'
        obtain ⟨a0, s', h', a1, a2, a3, a4⟩ := hc3.more hx3 g6 (by omega) (litOf ((x % 1099511627776) / 7) vars)
        rw [k19_1_n]
        simp only [q1, q2, Option.bind_some, int_int, e2, hdiv, e3, a0, a1, succI (show m < 9000000000000000000 by omega)]
        exact ih (m + 1) t5 s' ts dd _ h' (by omega) (by omega) a2 g5 a3 k5 (by simp; omega) a4
      by_cases hb : (x % 7 = 0 ∧ 0 < c.length) ∨ 5 ≤ c.length
      · have hbb : (bif (bif (decide (x % 7 = 0)) then (decide ((0 : Int) < (c.length : Int))) else false) then true else (decide ((5 : Int) ≤ (c.length : Int)))) = true := by
          rcases hb with ⟨b1, b2⟩ | b1
          · simp only [decide_eq_true b1, decide_eq_true (show (0 : Int) < (c.length : Int) by omega), cond_true]
          · simp only [decide_eq_true (show (5 : Int) ≤ (c.length : Int) by omega), Bool.cond_self]
        rw [hbb, cond_true, if_pos hb]
        obtain ⟨a0, s', h', a1, a2, a3, a4⟩ := hc.flush hx f5 (by omega)
        simp only [a0, a1, Option.bind_some]
        exact tail s' .nil _ _ [] h' a2 a3 (.nil _) (by simp; omega) (by simp) a4
      · have hbb : (bif (bif (decide (x % 7 = 0)) then (decide ((0 : Int) < (c.length : Int))) else false) then true else (decide ((5 : Int) ≤ (c.length : Int)))) = false := by
          simp only [not_or, not_and] at hb
          have h5 : ¬ (5 : Int) ≤ (c.length : Int) := by omega
          by_cases b1 : x % 7 = 0
          · have := hb.1 b1
            simp only [decide_eq_true b1, decide_eq_false (show ¬ (0 : Int) < (c.length : Int) by omega), decide_eq_false h5, cond_true, cond_false]
          · simp only [decide_eq_false b1, decide_eq_false h5, cond_false]
        rw [hbb, cond_false, if_neg hb]
        simp only [Option.bind_some]
        exact tail s5 s6 ss cc c h hx f5 f6 (by omega) n6 hc
    · have : m = l.length := by omega
      subst this
      rw [bif_neg (by omega)]
      simp only [Option.bind_some, k19_0_x0, hcl, List.drop_length, clausesGo]
      by_cases h0c : 0 < c.length
      · rw [bif_pos (by omega), if_pos h0c]
        obtain ⟨a0, s', h', a1, a2, a3, a4⟩ := hc.flush hx f5 (by omega)
        simp only [a0, a1, Option.bind_some]
        exact ⟨s', h', rfl, a2, a3, _, a4.out.cells, a4.len, a4.ins⟩
      · rw [bif_neg (by omega), if_neg h0c]
        exact ⟨s5, h, rfl, hx, f5, _, hc.out.cells, hc.len, hc.ins⟩

theorem clauses19 (fuel d : Nat) {s : Sl} {l : List Int} {h : AHeap} {vars : Int} (hv : 0 < vars) (hv' : vars ≤ 1000000) (hl : l.length < 1000000) (hf : l.length < fuel) (hs : h.sliceCells 1 s = some (intsC l)) :
    ∃ s' h', run fuel (d + 3) 19 [.slice s, .int .i64 vars] h = some (.slice s', h') ∧ Ext h h' ∧ Nest h' s' (clausesOf l vars) := by
  rw [e19, bif_neg (by omega)]
  obtain ⟨s', h', e1, e2, _, e4⟩ := clauses_loop fuel d hv hv' hl hs fuel 0 .nil .nil [] [] [] h (by omega) (by omega) (.refl _ _) (.nil _) (.nil _) (by simp) (by simp)
    ⟨.nil, rfl, fun k s' c h => (by simp at h), .nil, fun r h => (by cases h), fun s' h => (by cases h), fun s' h => (by cases h)⟩
  refine ⟨s', h', e1, e2, ?_⟩
  unfold clausesOf
  rw [if_neg (by omega)]
  exact e4

theorem clausesGo_lits {vars : Int} (hv : 0 < vars) : ∀ (l : List Int) (cc : List (List Int)) (c : List Int), (∀ b ∈ cc, ∀ x ∈ b, isLit x vars = true) → (∀ x ∈ c, isLit x vars = true) → ∀ b ∈ clausesGo vars l cc c, ∀ x ∈ b, isLit x vars = true
  | [], cc, c, h1, h2, b, hb => by
    simp only [clausesGo] at hb
    split at hb
    · rcases List.mem_append.1 hb with hb | hb
      · exact h1 b hb
      · rw [List.mem_singleton.1 hb]; exact h2
    · exact h1 b hb
  | y :: l, cc, c, h1, h2, b, hb => by
    simp only [clausesGo] at hb
    split at hb
    · refine clausesGo_lits hv l _ _ (fun b' hb' => ?_) (fun x hx => ?_) b hb
      · rcases List.mem_append.1 hb' with hb' | hb'
        · exact h1 b' hb'
        · rw [List.mem_singleton.1 hb']; exact h2
      · rw [List.mem_singleton.1 hx]; exact litOf_lit hv
    · refine clausesGo_lits hv l _ _ h1 (fun x hx => ?_) b hb
      rcases List.mem_append.1 hx with hx | hx
      · exact h2 x hx
      · rw [List.mem_singleton.1 hx]; exact litOf_lit hv

theorem clausesOf_lits {vars : Int} (l : List Int) : ∀ b ∈ clausesOf l vars, ∀ x ∈ b, isLit x vars = true := by
  unfold clausesOf
  split
  · intro b hb; cases hb
  · exact clausesGo_lits (by omega) l [] [] (fun b h => (by cases h)) (fun x h => (by cases h))

/-- how many literals there are -/
def total (cc : List (List Int)) : Nat := (cc.map List.length).sum

theorem clausesGo_size {vars : Int} : ∀ (l : List Int) (cc : List (List Int)) (c : List Int), (∀ b ∈ cc, b ≠ []) → total (clausesGo vars l cc c) = total cc + c.length + l.length ∧ ∀ b ∈ clausesGo vars l cc c, b ≠ []
  | [], cc, c, h1 => by
    simp only [clausesGo]
    split
    · rename_i h0
      refine ⟨by simp [total], fun b hb => ?_⟩
      rcases List.mem_append.1 hb with hb | hb
      · exact h1 b hb
      · rw [List.mem_singleton.1 hb]; intro e; rw [e] at h0; simp at h0
    · rename_i h0
      refine ⟨?_, h1⟩
      rw [List.length_nil]
      omega
  | y :: l, cc, c, h1 => by
    simp only [clausesGo]
    split
    · rename_i hb
      obtain ⟨a1, a2⟩ := clausesGo_size (vars := vars) l (cc ++ [c]) [litOf ((y % 1099511627776) / 7) vars] (fun b' hb' => by
        rcases List.mem_append.1 hb' with hb' | hb'
        · exact h1 b' hb'
        · rw [List.mem_singleton.1 hb']; intro e; rw [e] at hb; simp at hb)
      refine ⟨?_, a2⟩
      rw [a1]
      simp [total]
      omega
    · obtain ⟨a1, a2⟩ := clausesGo_size (vars := vars) l cc (c ++ [litOf ((y % 1099511627776) / 7) vars]) h1
      refine ⟨?_, a2⟩
      rw [a1]
      simp
      omega

theorem total_bounds : ∀ (cc : List (List Int)), (∀ b ∈ cc, b ≠ []) → cc.length ≤ total cc ∧ ∀ b ∈ cc, b.length ≤ total cc
  | [], _ => ⟨by simp, fun b h => by cases h⟩
  | c :: cc, h => by
    obtain ⟨a1, a2⟩ := total_bounds cc fun b hb => h b (List.mem_cons_of_mem _ hb)
    have h0 := h c (List.mem_cons_self ..)
    have hp : 0 < c.length := List.length_pos_iff.2 h0
    have e : total (c :: cc) = c.length + total cc := by simp [total]
    refine ⟨by simp; omega, fun b hb => ?_⟩
    rcases List.mem_cons.1 hb with rfl | hb
    · omega
    · have := a2 b hb; omega

theorem clausesOf_size (l : List Int) (vars : Int) : (clausesOf l vars).length ≤ l.length ∧ ∀ b ∈ clausesOf l vars, b.length ≤ l.length := by
  unfold clausesOf
  split
  · exact ⟨by simp, fun b h => by cases h⟩
  · obtain ⟨a1, a2⟩ := clausesGo_size (vars := vars) l [] [] (fun b h => by cases h)
    obtain ⟨b1, b2⟩ := total_bounds _ a2
    rw [a1] at b1 b2
    simp [total] at b1 b2
    exact ⟨b1, b2⟩

end Go.Proofs.Ythccobceodgmlaa
