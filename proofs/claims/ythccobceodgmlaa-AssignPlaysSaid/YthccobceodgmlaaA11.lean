/-
  The law AssignPlays, over abstract heaps.
-/
import Derived.Test.YthccobceodgmlaaA10
namespace Go.Proofs.Ythccobceodgmlaa
open Go.RowKit

theorem plays_clauses (fuel d : Nat) {h : AHeap} {i j i' j' : Nat} {v : List Int} {s1 s3 : Sl} {cc : List (List Int)} {x2 x13 : Int} (ha : IsAssign h i j v) (hr : IsRef h i' j' v) (hn : Nest h s3 cc) (hc : cc.length < 1000) (hok : ∀ c ∈ cc, c.length < fuel ∧ c.length < 4000000000000000000 ∧ ∀ l ∈ c, l ≠ 0) :
    ∀ (n m : Nat), cc.length < n + m → m ≤ cc.length →
    l6_2 fuel (d + 3) n [(1, .slice s1), (2, .int .i64 x2), (3, .slice s3), (9, .bool true), (10, .ptr (aPt i)), (11, .ptr (aPt i')), (13, .int .i64 x13), (14, .int .i64 (m : Int))] h =
      some (.exit 4, [(1, .slice s1), (2, .int .i64 x2), (3, .slice s3), (8, .bot), (9, .bool true), (10, .ptr (aPt i)), (11, .ptr (aPt i')), (13, .int .i64 x13)], h) := by
  intro n
  induction n with
  | zero => intro m h1 h2; omega
  | succ n ih =>
    intro m h1 h2
    rw [l6_2_eq, hn.len]
    by_cases hm : m < cc.length
    · rw [bif_pos (by omega)]
      obtain ⟨s', r1, r2, r3, r4⟩ := hn.read hm
      have hmem : cc.getD m [] ∈ cc := by
        rw [List.getD_eq_getElem?_getD, List.getElem?_eq_getElem hm]
        exact List.getElem_mem _
      obtain ⟨o1, o2, o3⟩ := hok _ hmem
      have e1 := clause17 fuel d ha r3 o1 o2
      have e2 := clause30 fuel d hr r3 o1 o2 o3
      rw [clauseOf_spec ha.all] at e1
      simp only [r1, r2, Option.bind_some, slice_slice, e1, e2, isTup_tup, List.length_cons, List.length_nil, Nat.reduceAdd, beq_eq, decide_true, cond_true, comp_tup, List.getElem?_cons_zero, List.getElem?_cons_succ, int_int, succI (show m < 9000000000000000000 by omega), Bool.not_true, cond_false]
      exact ih (m + 1) (by omega) (by omega)
    · rw [bif_neg (by omega)]

theorem setOf_zero {v : List Int} (h : v.getD 0 0 = 0) (l : Int) : (setOf v l).getD 0 0 = 0 := by
  unfold setOf
  split
  · rename_i hc
    unfold canSet at hc
    rw [Bool.and_eq_true] at hc
    have hl := isLit_spec.1 hc.1
    have hlt : (absI l).toNat < v.length ∧ (absI l).toNat ≠ 0 := by unfold absI; split <;> omega
    rw [getD_set hlt.1, if_neg (fun e => hlt.2 e.symm)]
    exact h
  · exact h

theorem unsetOf_zero {v : List Int} (h : v.getD 0 0 = 0) (x : Int) : (unsetOf v x).getD 0 0 = 0 := by
  unfold unsetOf
  split
  · rename_i hc
    have hlt : x.toNat < v.length ∧ x.toNat ≠ 0 := by omega
    rw [getD_set hlt.1, if_neg (fun e => hlt.2 e.symm)]
    exact h
  · exact h

theorem unsetOf_len (v : List Int) (x : Int) : (unsetOf v x).length = v.length := by unfold unsetOf; split <;> simp

/-- Both values side by side. -/
structure Both (h0 h : AHeap) (i j i' j' : Nat) (v : List Int) : Prop where
  ext : Ext h0 h
  a : IsAssign h i j v
  r : IsRef h i' j' v
  zero : v.getD 0 0 = 0
  len : v.length ≤ 31

theorem plays_loop (fuel d : Nat) {h0 : AHeap} {s1 s3 : Sl} {l : List (Int × Int)} {cc : List (List Int)} {i j i' j' : Nat} (ask : Int) (hs0 : h0.sliceCells 2 s1 = some (pairsC l)) (hn0 : Nest h0 s3 cc) (hl : l.length ≤ 60) (hc : cc.length < 1000) (hf : 1000 < fuel) (hok : ∀ c ∈ cc, c.length < fuel ∧ c.length < 4000000000000000000 ∧ ∀ l ∈ c, l ≠ 0)
    (hj : h0.rows.length ≤ j) (hj' : h0.rows.length ≤ j') (d1 : i ≠ j') (d2 : j ≠ j') (d3 : j ≠ i') : ∀ (n m : Nat) (v : List Int) (h : AHeap), l.length < n + m → m ≤ l.length → Both h0 h i j i' j' v →
    (∃ h', l6_1 fuel (d + 4) n [(1, .slice s1), (2, .int .i64 ask), (3, .slice s3), (9, .bool true), (10, .ptr (aPt i)), (11, .ptr (aPt i')), (13, .int .i64 (m : Int))] h = some (.ret, [(3, .slice s3), (8, .bool true), (9, .bool true), (10, .ptr (aPt i)), (11, .ptr (aPt i'))], h')) ∨
    ∃ v' h', l6_1 fuel (d + 4) n [(1, .slice s1), (2, .int .i64 ask), (3, .slice s3), (9, .bool true), (10, .ptr (aPt i)), (11, .ptr (aPt i')), (13, .int .i64 (m : Int))] h = some (.exit 2, [(3, .slice s3), (8, .bot), (9, .bool true), (10, .ptr (aPt i)), (11, .ptr (aPt i'))], h') ∧ Both h0 h' i j i' j' v' := by
  intro n
  induction n with
  | zero => intro m v h h1 h2; omega
  | succ n ih =>
    intro m v h h1 h2 hb
    have hs := sliceCells_ext hb.ext hs0
    have hsl : s1.len = l.length := by have := sliceCells_len hs; rw [pairsC_len] at this; omega
    rw [l6_1_eq, hsl]
    by_cases hm : m < l.length
    · rw [bif_pos (by omega)]
      obtain ⟨r1, r2, r3, r4, r5⟩ := readP hs hm
      generalize hL : (l.getD m (0, 0)).2 = L at r5
      generalize hK : (l.getD m (0, 0)).1 = Kd at r4
      have e1 := near24 fuel (d + 3) L h (by omega)
      have hp := Keeps.push h 1 [.int .i64 L] fun _ => False
      have hx2 : Ext h0 (h.push 1 [.int .i64 L]) := hb.ext.trans hp
      have ha2 := hb.a.keep hp id id
      have hr2 := hb.r.keep hp id id
      have hs2 := sliceCells_ext hx2 hs0
      obtain ⟨q1, q2, q3, q4, q5⟩ := readP hs2 hm
      rw [hL] at q5
      rw [hK] at q4
      -- what comes behind the step
      have tail : ∀ (w : List Int) (g : AHeap), Both h0 g i j i' j' w →
          (∃ h', ((l6_2 fuel (d + 4) fuel [(1, .slice s1), (2, .int .i64 ask), (3, .slice s3), (9, .bool true), (10, .ptr (aPt i)), (11, .ptr (aPt i')), (13, .int .i64 (m : Int)), (14, .int .i64 0)] g).bind fun p => k6_2 fuel (d + 4) n p.1 p.2.1 p.2.2) = some (.ret, [(3, .slice s3), (8, .bool true), (9, .bool true), (10, .ptr (aPt i)), (11, .ptr (aPt i'))], h')) ∨
          ∃ v' h', ((l6_2 fuel (d + 4) fuel [(1, .slice s1), (2, .int .i64 ask), (3, .slice s3), (9, .bool true), (10, .ptr (aPt i)), (11, .ptr (aPt i')), (13, .int .i64 (m : Int)), (14, .int .i64 0)] g).bind fun p => k6_2 fuel (d + 4) n p.1 p.2.1 p.2.2) = some (.exit 2, [(3, .slice s3), (8, .bot), (9, .bool true), (10, .ptr (aPt i)), (11, .ptr (aPt i'))], h') ∧ Both h0 h' i j i' j' v' := by
        intro w g hg
        have hng := hn0.ext hg.ext
        have c1 := plays_clauses fuel (d + 1) (s1 := s1) (x2 := ask) (x13 := (m : Int)) hg.a hg.r hng hc hok fuel 0 (by omega) (by omega)
        rw [show ((0 : Nat) : Int) = 0 from rfl] at c1
        have c2 := value16 fuel (d + 2) hg.a ask
        have c3 := value31 fuel (d + 2) hg.r ask
        have c4 := all20 fuel d hg.a hng (by omega) (by omega) fun c hc => ⟨(hok c hc).1, (hok c hc).2.1⟩
        have c5 := all32 fuel d hg.r hng (by omega) (by omega) hok
        obtain ⟨t1, g1, c6, x6, o6⟩ := known23 fuel (d + 3) hg.a (by have := hg.len; omega)
        obtain ⟨t2, g2, c7, x7, o7⟩ := known34 fuel (d + 3) (hg.r.keep x6 id id) hg.zero (by have := hg.len; omega)
        have kl := knownLen w w.length
        have hkl : (knownOf w).length ≤ 31 := by unfold knownOf; have := hg.len; omega
        have c8 := same33 fuel (d + 3) (sliceCells_ext x7 o6.cells) o7.cells (by omega) (by omega)
        have hb' : Both h0 g2 i j i' j' w := ⟨(hg.ext.trans x6).trans x7, (hg.a.keep x6 id id).keep x7 id id, (hg.r.keep x6 id id).keep x7 id id, hg.zero, hg.len⟩
        have key := ih (m + 1) w g2 (by omega) (by omega) hb'
        simp only [c1, Option.bind_some, k6_2_x4, c2, c3, int_int, decide_true, Bool.not_true, beq_self_eq_true, cond_true, c4, c5, bool_bool, c6, slice_slice, c7, c8, cond_false, succI (show m < 9000000000000000000 by omega)]
        exact key
      simp only [r1, r3, r5, Option.bind_some, int_int, e1, bool_bool]
      by_cases hnear : L < -1152921504606846976
      · left
        rw [decide_eq_true hnear]
        exact ⟨_, rfl⟩
      · rw [decide_eq_false hnear]
        simp only [Bool.not_false, Bool.not_true, cond_false, q1, q2, q4, Option.bind_some, int_int]
        by_cases hk : Kd = 1
        · rw [bif_pos hk]
          obtain ⟨g1, c1, a1, k1⟩ := set14 fuel (d + 1) ha2 L
          have hx3 : Ext h0 g1 := Keeps.toNew hx2 k1 fun r e => by omega
          have hr3 := hr2.keep k1 (fun e => d3 e.symm) (fun e => d2 e.symm)
          obtain ⟨g2, c2, a2, k2⟩ := set28 fuel (d + 1) hr3 L
          have hx4 : Ext h0 g2 := Keeps.toNew hx3 k2 fun r e => by omega
          obtain ⟨p1, p2, p3, p4, p5⟩ := readP (sliceCells_ext hx3 hs0) hm
          rw [hL] at p5
          simp only [q3, q5, Option.bind_some, int_int, c1, bool_bool, p1, same_self, p3, p5, c2, beq_self_eq_true, Bool.not_true, cond_false]
          exact tail _ g2 ⟨hx4, a1.keep k2 d1 d2, a2, setOf_zero hb.zero L, by rw [setOf_len]; exact hb.len⟩
        · rw [bif_neg hk]
          obtain ⟨g1, c1, a1, k1⟩ := unset15 fuel (d + 3) ha2 L
          have hx3 : Ext h0 g1 := Keeps.toNew hx2 k1 fun r e => by omega
          have hr3 := hr2.keep k1 (fun e => d3 e.symm) (fun e => d2 e.symm)
          obtain ⟨g2, c2, a2, k2⟩ := unset29 fuel (d + 3) hr3 L
          have hx4 : Ext h0 g2 := Keeps.toNew hx3 k2 fun r e => by omega
          obtain ⟨p1, p2, p3, p4, p5⟩ := readP (sliceCells_ext hx3 hs0) hm
          rw [hL] at p5
          simp only [q3, q5, Option.bind_some, int_int, c1, p1, p3, p5, c2]
          exact tail _ g2 ⟨hx4, a1.keep k2 d1 d2, a2, unsetOf_zero hb.zero L, by rw [unsetOf_len]; exact hb.len⟩
    · rw [bif_neg (by omega)]
      exact .inr ⟨v, h, rfl, hb⟩

theorem plays_right (fuel d : Nat) {h : AHeap} {s1 s3 : Sl} {cc : List (List Int)} {a b : Pt} (vars ask : Int) (hv : vars ≤ 30) (hn : Nest h s3 cc) (hc : cc.length < 1000) (hok : ∀ c ∈ cc, c.length < fuel ∧ c.length < 4000000000000000000) :
    ∀ (n m : Nat), cc.length < n + m → m ≤ cc.length → (∀ c ∈ cc.take m, ∀ x ∈ c, isLit x (max vars 0) = true) →
    l6_0 fuel (d + 1) n [(0, .int .i64 vars), (1, .slice s1), (2, .int .i64 ask), (3, .slice s3), (9, .bool true), (10, .ptr a), (11, .ptr b), (12, .int .i64 (m : Int))] h =
        some (.ret, [(1, .slice s1), (2, .int .i64 ask), (3, .slice s3), (8, .bool true), (9, .bool true), (10, .ptr a), (11, .ptr b)], h) ∨
    (l6_0 fuel (d + 1) n [(0, .int .i64 vars), (1, .slice s1), (2, .int .i64 ask), (3, .slice s3), (9, .bool true), (10, .ptr a), (11, .ptr b), (12, .int .i64 (m : Int))] h =
        some (.exit 0, [(1, .slice s1), (2, .int .i64 ask), (3, .slice s3), (8, .bot), (9, .bool true), (10, .ptr a), (11, .ptr b)], h) ∧ ∀ c ∈ cc, ∀ x ∈ c, isLit x (max vars 0) = true) := by
  intro n
  induction n with
  | zero => intro m h1 h2; omega
  | succ n ih =>
    intro m h1 h2 hall
    rw [l6_0_eq, hn.len]
    by_cases hm : m < cc.length
    · rw [bif_pos (by omega)]
      obtain ⟨s', r1, r2, r3, r4⟩ := hn.read hm
      have hmem : cc.getD m [] ∈ cc := by
        rw [List.getD_eq_getElem?_getD, List.getElem?_eq_getElem hm]
        exact List.getElem_mem _
      have htk : cc.take (m + 1) = cc.take m ++ [cc.getD m []] := by
        rw [List.take_succ_eq_append_getElem hm, List.getD_eq_getElem?_getD, List.getElem?_eq_getElem hm, Option.getD_some]
      have hmax : (bif decide (vars < (0 : Int)) then (0 : Int) else vars) = max vars 0 := by
        by_cases h : vars < 0
        · rw [bif_pos h]; omega
        · rw [bif_neg h]; omega
      rw [hmax]
      have e1 := right27 fuel d (max vars 0) (by omega) (by omega) r3 (hok _ hmem).1 (hok _ hmem).2
      simp only [r1, r2, Option.bind_some, slice_slice, e1, bool_bool, succI (show m < 9000000000000000000 by omega)]
      cases hb : (cc.getD m []).all fun x => isLit x (max vars 0) with
      | false => left; simp
      | true =>
        simp only [Bool.not_true, cond_false]
        refine ih (m + 1) (by omega) (by omega) fun c hc => ?_
        rw [htk] at hc
        rcases List.mem_append.1 hc with hc | hc
        · exact hall c hc
        · rw [List.mem_singleton.1 hc]
          exact fun x hx => List.all_eq_true.1 hb x hx
    · have : m = cc.length := by omega
      subst this
      rw [List.take_length] at hall
      rw [bif_neg (by omega)]
      exact .inr ⟨rfl, hall⟩

theorem plays_model (fuel d : Nat) {h : AHeap} {i' j' : Nat} {v : List Int} {s3 s19 : Sl} (hr : IsRef h i' j' v) (hs : h.sliceCells 1 s19 = some (boolsC (modelOf v))) :
    ∀ (n m : Nat), v.length < n + m → m ≤ v.length →
    l6_3 fuel d n [(3, .slice s3), (9, .bool true), (11, .ptr (aPt i')), (19, .slice s19), (20, .int .i64 (m : Int))] h = some (.exit 6, [(3, .slice s3), (8, .bot), (9, .bool true), (19, .slice s19)], h) := by
  have hsl : s19.len = v.length := by have := sliceCells_len hs; simp [modelOf] at this; omega
  have hsm := hr.small
  intro n
  induction n with
  | zero => intro m h1 h2; omega
  | succ n ih =>
    intro m h1 h2
    rw [l6_3_eq, hsl]
    by_cases hm : m < v.length
    · rw [bif_pos (by omega)]
      obtain ⟨r1, r2⟩ := readB hs (j := (m : Int)) (by omega) (by simp [modelOf]; omega)
      obtain ⟨q1, q2⟩ := readI hr.cells (j := (m : Int)) (by omega) (by simpa using hm)
      rw [Int.toNat_natCast] at r2 q2
      have hg : (modelOf v).getD m false = decide (v.getD m 0 = 1) := by
        simp [modelOf, List.getD_eq_getElem?_getD, List.getElem?_map, List.getElem?_eq_getElem hm]
      rw [hg] at r2
      simp only [r1, r2, Option.bind_some, bool_bool, chk_mk, field_mk, Nat.add_zero, hr.cell, slice_slice, q1, q2, int_int, beq_self_eq_true, Bool.not_true, cond_false, succI (show m < 9000000000000000000 by omega)]
      exact ih (m + 1) (by omega) (by omega)
    · rw [bif_neg (by omega)]

theorem total_le : ∀ {cc : List (List Int)} {c : List Int}, c ∈ cc → c.length ≤ total cc
  | b :: cc, c, h => by
    have e : total (b :: cc) = b.length + total cc := by simp [total]
    rcases List.mem_cons.1 h with rfl | h
    · omega
    · have := total_le h; omega

theorem law6 (fuel d : Nat) {h : AHeap} {s1 s3 : Sl} {l : List (Int × Int)} {cc : List (List Int)} (hs : h.sliceCells 2 s1 = some (pairsC l)) (hn : Nest h s3 cc) (hf : 2000 ≤ fuel) (hcl : ∀ c ∈ cc, c.length ≤ 140737488355328) (vars ask : Int) :
    ∃ h', run fuel (d + 6) 6 [.int .i64 vars, .slice s1, .int .i64 ask, .slice s3] h = some (.bool true, h') := by
  have hsl : s1.len = l.length := by have := sliceCells_len hs; rw [pairsC_len] at this; omega
  obtain ⟨h1, e1, x1⟩ := first10 fuel (d + 1) h
  rw [e6, hsl, hn.len]
  simp only [e1, Option.bind_some, bool_bool, Bool.not_true, cond_false]
  -- whatever ends early
  by_cases g1 : l.length ≤ 60 ∧ cc.length ≤ 30 ∧ vars ≤ 30
  · obtain ⟨g1, g2, g3⟩ := g1
    rw [decide_eq_false (show ¬ (60 : Int) < (l.length : Int) by omega), decide_eq_false (show ¬ (30 : Int) < (cc.length : Int) by omega), decide_eq_false (show ¬ (30 : Int) < vars by omega)]
    have e2 := near24 fuel (d + 4) ask h1 (by omega)
    have hp := Keeps.push h1 1 [.int .i64 ask] fun _ => False
    have x2 : Ext h (h1.push 1 [.int .i64 ask]) := x1.trans hp
    simp only [cond_false, beq_self_eq_true, cond_true, e2, Option.bind_some, bool_bool]
    by_cases hnear : ask < -1152921504606846976
    · rw [decide_eq_true hnear]
      exact ⟨_, rfl⟩
    · rw [decide_eq_false hnear]
      have e3 := count25 fuel (d + 4) (hn.ext x2) (by omega) (by omega) hcl
      simp only [Bool.not_false, Bool.not_true, beq_self_eq_true, cond_true, e3, Option.bind_some, int_int, bool_bool]
      by_cases hcount : (200 : Int) < (total cc : Int)
      · rw [decide_eq_true hcount]
        exact ⟨_, rfl⟩
      · rw [decide_eq_false hcount]
        simp only [cond_false]
        have htot : ∀ c ∈ cc, c.length ≤ 200 := fun c hc => by have := total_le hc; omega
        obtain ⟨h3, e4, a3, x3, n3⟩ := new11n fuel (d + 3) vars (h1.push 1 [.int .i64 ask])
        obtain ⟨h4, e5, a4, x4, n4⟩ := ref26 fuel (d + 4) vars h3 (by omega)
        have xx : Ext (h1.push 1 [.int .i64 ask]) h4 := x3.trans x4
        have hcut : cutI vars ≤ 30 := by unfold cutI; omega
        have hb : Both (h1.push 1 [.int .i64 ask]) h4 ((h1.push 1 [.int .i64 ask]).rows.length + 1) (h1.push 1 [.int .i64 ask]).rows.length (h3.rows.length + 1) h3.rows.length (List.replicate (cutI vars + 1) 0) :=
          ⟨xx, a3.keep x4 id id, a4, by simp, by simp; omega⟩
        have hr := plays_right fuel (d + 4) (s1 := s1) (a := aPt ((h1.push 1 [.int .i64 ask]).rows.length + 1)) (b := aPt (h3.rows.length + 1)) vars ask g3 ((hn.ext x2).ext xx) (by omega) (fun c hc => by have := htot c hc; omega) fuel 0 (by omega) (by omega) (by simp)
        rw [show ((0 : Nat) : Int) = 0 from rfl] at hr
        simp only [e4, Option.bind_some, ptr_ptr, e5, nilTest_ptr_mk, cond_false]
        rcases hr with hr | ⟨hr, hlits⟩
        · simp only [hr, Option.bind_some, k6_0_r]
          exact ⟨_, rfl⟩
        · have hok : ∀ c ∈ cc, c.length < fuel ∧ c.length < 4000000000000000000 ∧ ∀ l ∈ c, l ≠ 0 := fun c hc => by
            have := htot c hc
            exact ⟨by omega, by omega, fun l hl => (isLit_spec.1 (hlits c hc l hl)).1⟩
          have hok2 : ∀ c ∈ cc, c.length < fuel ∧ c.length < 4000000000000000000 ∧ ∀ l ∈ c, okInt l := fun c hc => by
            have := htot c hc
            refine ⟨by omega, by omega, fun l hl => ?_⟩
            have := isLit_spec.1 (hlits c hc l hl)
            unfold okInt; omega
          have hloop := plays_loop fuel (d + 1) (h0 := h1.push 1 [.int .i64 ask]) (s1 := s1) ask (sliceCells_ext x2 hs) (hn.ext x2) g1 (by omega) (by omega) hok
            (j := (h1.push 1 [.int .i64 ask]).rows.length) (i := (h1.push 1 [.int .i64 ask]).rows.length + 1) (i' := h3.rows.length + 1) (j' := h3.rows.length) (Nat.le_refl _) (by omega) (by omega) (by omega) (by omega) fuel 0 _ h4 (by omega) (by omega) hb
          rw [show ((0 : Nat) : Int) = 0 from rfl] at hloop
          simp only [hr, Option.bind_some, k6_0_x0]
          rcases hloop with ⟨h5, e6⟩ | ⟨v, h5, e6, b5⟩
          · simp only [e6, Option.bind_some, k6_1_r]
            exact ⟨_, rfl⟩
          · have hlen := b5.len
            obtain ⟨h6, e7, o7, x7⟩ := model22 fuel (d + 4) b5.a (by omega)
            have r7 := b5.r.keep x7 id id
            have e8 := plays_model fuel (d + 5) (s3 := s3) r7 (o7.cells true) fuel 0 (by omega) (by omega)
            rw [show ((0 : Nat) : Int) = 0 from rfl] at e8
            have n7 : Nest h6 s3 cc := ((hn.ext x2).ext b5.ext).ext x7
            have e9 := of21 fuel (d + 2) (o7.cells true) n7 (by omega) (by omega) hok2
            have e10 := of35 fuel (d + 4) (o7.cells true) n7 (by omega) (by omega) hok2
            simp only [e6, Option.bind_some, k6_1_x2, e7, slice_slice, chk_mk, field_mk, Nat.add_zero, r7.cell]
            rw [bif_npos (show (((Sl.mk ⟨h5.rows.length, 0, 0⟩ v.length true).len : Nat) : Int) = ((aSl h3.rows.length v).len : Int) from rfl)]
            simp only [e8, Option.bind_some, k6_3_x6, beq_self_eq_true, cond_true, e9, e10, bool_bool]
            exact ⟨_, rfl⟩
  · have hb : (bif (bif (decide ((60 : Int) < (l.length : Int))) then true else (decide ((30 : Int) < (cc.length : Int)))) then true else (decide ((30 : Int) < vars))) = true := by
      by_cases a1 : (60 : Int) < (l.length : Int)
      · rw [decide_eq_true a1]; rfl
      · by_cases a2 : (30 : Int) < (cc.length : Int)
        · rw [decide_eq_true a2, Bool.cond_self]; rfl
        · rw [decide_eq_true (show (30 : Int) < vars by omega), Bool.cond_self]
    rw [hb]
    exact ⟨_, rfl⟩

end Go.Proofs.Ythccobceodgmlaa
