/-
  The first examples, and the law AssignOwn, over abstract heaps.
-/
import Derived.Test.YthccobceodgmlaaA3
namespace Go.Proofs.Ythccobceodgmlaa
open Go.RowKit

/-- The chapter's examples. -/
theorem first10 (fuel d : Nat) (h : AHeap) : ∃ h', run fuel (d + 4) 10 [] h = some (.bool true, h') ∧ Ext h h' := by
  obtain ⟨h1, e1, a1, k1, n1, _⟩ := new11 fuel (d + 1) 3 h (by omega)
  obtain ⟨h2, e2, a2, k2⟩ := set14 fuel d a1 2
  obtain ⟨h3, e3, a3, k3⟩ := set14 fuel d a2 (-2)
  have e4 := value16 fuel (d + 1) a3 2
  have c1 : canSet (List.replicate (3 + 1) 0) 2 = true := by decide
  have c2 : canSet (setOf (List.replicate (3 + 1) 0) 2) (-2) = false := by decide
  have c3 : valOf (setOf (setOf (List.replicate (3 + 1) 0) 2) (-2)) 2 = 1 := by decide
  rw [c1] at e2
  rw [c2] at e3
  rw [c3] at e4
  refine ⟨h3, ?_, ?_⟩
  · rw [e10]
    simp only [show ((3 : Int)) = ((3 : Nat) : Int) from rfl, e1, Option.bind_some, ptr_ptr, nilTest_ptr_mk, Bool.not_false, beq_self_eq_true, cond_true, e2, bool_bool, e3, e4, int_int, decide_true]
  · have : Keeps h1 h3 (· = h.rows.length) := k2.trans k3
    exact Keeps.toNew (k1 _) this fun i hi => by omega

/-- What the law writes down. -/
def encOf (x : Int) : Int := if x = 2 then -1 else x

theorem encOf_cases {x : Int} (h : x = 0 ∨ x = 1 ∨ x = 2) : (encOf x = 0 ↔ x = 0) ∧ (encOf x = 1 ↔ x = 1) ∧ (encOf x = -1 ↔ x = 2) := by
  unfold encOf
  rcases h with rfl | rfl | rfl <;> simp


theorem abs13 (fuel d : Nat) (l : Int) (h : AHeap) (hn : -9223372036854775807 ≤ l) (hn' : l ≤ 9223372036854775807) :
    run fuel (d + 1) 13 [.int .i64 l] h = some (.int .i64 (absI l), h) := by
  rw [e13]
  unfold absI
  by_cases hl : l < 0
  · rw [bif_pos hl, wrap64 (by omega) (by omega), if_pos hl, Int.zero_sub]
  · rw [bif_neg hl, if_neg hl]

/-- The sign of a literal. -/
def sgnI (y : Int) : Int := if y < 0 then -1 else 1

theorem valOf_lit {v : List Int} {y : Int} (hl : isLit y ((v.length : Int) - 1) = true) : valOf v y = if y < 0 ∧ v.getD (absI y).toNat 0 ≠ 0 then 3 - v.getD (absI y).toNat 0 else v.getD (absI y).toNat 0 := by
  unfold valOf
  rw [if_pos hl]

theorem getD_mem {v : List Int} {n : Nat} (h : n < v.length) : v.getD n 0 ∈ v := by
  rw [List.getD_eq_getElem?_getD, List.getElem?_eq_getElem h]
  exact List.getElem_mem _

theorem canSet_enc {v : List Int} {y : Int} (hl : isLit y ((v.length : Int) - 1) = true) (hx : v.getD (absI y).toNat 0 = 0 ∨ v.getD (absI y).toNat 0 = 1 ∨ v.getD (absI y).toNat 0 = 2) :
    canSet v y = !decide (encOf (v.getD (absI y).toNat 0) = 0 - sgnI y) := by
  unfold canSet
  rw [hl, Bool.true_and, valOf_lit hl]
  generalize v.getD (absI y).toNat 0 = x at hx
  unfold encOf sgnI
  rcases hx with rfl | rfl | rfl <;> by_cases hy : y < 0 <;> simp [hy]

theorem setOf_enc {v : List Int} {y : Int} (hl : isLit y ((v.length : Int) - 1) = true) (hx : v.getD (absI y).toNat 0 = 0 ∨ v.getD (absI y).toNat 0 = 1 ∨ v.getD (absI y).toNat 0 = 2) :
    (setOf v y).map encOf = if encOf (v.getD (absI y).toNat 0) = 0 then (v.map encOf).set (absI y).toNat (sgnI y) else v.map encOf := by
  have hl' := isLit_spec.1 hl
  have hlt : (absI y).toNat < v.length := by unfold absI; split <;> omega
  have hself : ∀ z, v.getD (absI y).toNat 0 = z → (v.map encOf).set (absI y).toNat (encOf z) = v.map encOf := by
    intro z hz
    rw [← List.map_set, ← hz, List.getD_eq_getElem?_getD, List.getElem?_eq_getElem hlt, Option.getD_some, List.set_getElem_self]
  unfold setOf
  rw [canSet_enc hl hx]
  have hs := hself _ rfl
  generalize v.getD (absI y).toNat 0 = x at hx hs
  by_cases hy : y < 0
  · rcases hx with rfl | rfl | rfl
    · simp [hy, sgnI, encOf, List.map_set, show ¬ 0 < y by omega]
    · simp [hy, sgnI, encOf]
    · simp only [encOf] at hs
      simp [hy, sgnI, encOf, List.map_set, show ¬ 0 < y by omega]
      simpa using hs
  · rcases hx with rfl | rfl | rfl
    · simp [hy, sgnI, encOf, List.map_set, show 0 < y by omega]
    · simp only [encOf] at hs
      simp [hy, sgnI, encOf, List.map_set, show 0 < y by omega]
      simpa using hs
    · simp [hy, sgnI, encOf]

/-- Where the law's loop stands. -/
structure OwnInv (h : AHeap) (s : Sl) (l : List Int) (i j k : Nat) (v : List Int) : Prop where
  a : IsAssign h i j v
  w : Own h 1 k 0 13 (intsC (v.map encOf))
  sl : h.sliceCells 1 s = some (intsC l)
  len : v.length = 13
  ik : i ≠ k
  jk : j ≠ k
  sj : s.Apart j
  sk : s.Apart k

abbrev wSl (k : Nat) : Sl := .mk ⟨k, 0, 0⟩ 13 true

theorem own_loop (fuel d : Nat) {s : Sl} {l : List Int} (hc : l.length ≤ 40) (i j k : Nat) : ∀ (n m : Nat) (v : List Int) (h : AHeap), l.length < n + m → m ≤ l.length → OwnInv h s l i j k v →
    ∃ h' v', l3_0 fuel (d + 3) n [(0, .slice s), (5, .bool true), (6, .ptr (aPt i)), (7, .slice (wSl k)), (8, .int .i64 (m : Int))] h = some (.exit 0, [(4, .bot), (5, .bool true), (6, .ptr (aPt i)), (7, .slice (wSl k))], h') ∧ OwnInv h' s l i j k v' ∧ Keeps h h' (fun x => x = j ∨ x = k) := by
  intro n
  induction n with
  | zero => intro m v h h1 h2; omega
  | succ n ih =>
    intro m v h h1 h2 inv
    obtain ⟨ha, hwn, hs, hlen, hik, hjk, hsj, hsk⟩ := inv
    have hsl : s.len = l.length := by have := sliceCells_len hs; simp at this; omega
    rw [l3_0_eq, hsl]
    by_cases hm : m < l.length
    · rw [bif_pos (by omega)]
      obtain ⟨r1, r2⟩ := readI hs (j := (m : Int)) (by omega) (by simpa using hm)
      rw [Int.toNat_natCast] at r2
      generalize hx : l.getD m 0 = x at r2
      have hy := litOf_lit (n := x) (vars := 12) (by omega)
      have e1 := lit12 fuel (d + 1) x 12 h (by omega) (by omega)
      generalize litOf x 12 = y at hy e1
      have hy' := isLit_spec.1 hy
      have hyl : isLit y ((v.length : Int) - 1) = true := by rw [hlen]; exact hy
      have hab : 0 ≤ absI y ∧ (absI y).toNat < v.length ∧ 0 < absI y := by unfold absI; split <;> omega
      have hxx := ha.all _ (getD_mem hab.2.1)
      have e2 := abs13 fuel (d + 2) y h (by omega) (by omega)
      obtain ⟨h2, e3, a2, kp2⟩ := set14 fuel d ha y
      have hw2 := hwn.keep kp2 (fun e => hjk e.symm)
      have hs2 := sliceCells_one kp2 hs hsj
      obtain ⟨q1, q2⟩ := readI (hwn.cells true) (j := absI y) hab.1 (by simpa using hab.2.1)
      obtain ⟨p1, p2⟩ := readI (hw2.cells true) (j := absI y) hab.1 (by simpa using hab.2.1)
      have hget : (v.map encOf).getD (absI y).toNat 0 = encOf (v.getD (absI y).toNat 0) := by
        simp [List.getD_eq_getElem?_getD, List.getElem?_map, List.getElem?_eq_getElem hab.2.1]
      rw [hget] at p2 q2
      have hcs := canSet_enc hyl hxx
      have hso := setOf_enc hyl hxx
      generalize encOf (v.getD (absI y).toNat 0) = z at p2 q2 hcs hso
      have hsg : sgnI y = 1 ∨ sgnI y = -1 := by unfold sgnI; split <;> simp
      have hwr : IntKind.wrap .i64 (0 - sgnI y) = 0 - sgnI y := wrap64 (by omega) (by omega)
      -- what comes behind the second test
      have tail : ∀ (h3 : AHeap), OwnInv h3 s l i j k (setOf v y) → Keeps h h3 (fun x => x = j ∨ x = k) →
          ∃ h' v', k3_3 fuel (d + 3) n .normal [(0, .slice s), (5, .bool true), (6, .ptr (aPt i)), (7, .slice (wSl k)), (8, .int .i64 (m : Int)), (10, .int .i64 (absI y))] h3 = some (.exit 0, [(4, .bot), (5, .bool true), (6, .ptr (aPt i)), (7, .slice (wSl k))], h') ∧ OwnInv h' s l i j k v' ∧ Keeps h h' (fun x => x = j ∨ x = k) := by
        intro h3 inv kp
        obtain ⟨t1, t2⟩ := readI inv.sl (j := (m : Int)) (by omega) (by simpa using hm)
        have hwm : IntKind.wrap .i64 ((m : Int) + 1) = ((m + 1 : Nat) : Int) := by rw [wrap64 (by omega) (by omega)]; omega
        rw [k3_3_n]
        simp only [t1, t2, Option.bind_some, int_int, hwm]
        by_cases h7 : bitsOp .and .i64 (l.getD (m : Int).toNat 0) 7 = 7
        · rw [bif_pos h7]
          obtain ⟨h4, u1, u2, u3⟩ := unset15 fuel (d + 2) inv.a (absI y)
          have hw4 := inv.w.keep u3 (fun e => hjk e.symm)
          obtain ⟨g1, h5, g2, g3, g4, _⟩ := hw4.intsStore (j := absI y) hab.1 (by omega) true 0
          simp only [u1, Option.bind_some, g1, g2]
          have hmap : (unsetOf (setOf v y) (absI y)).map encOf = ((setOf v y).map encOf).set (absI y).toNat 0 := by
            unfold unsetOf
            rw [if_pos ⟨hab.2.2, by rw [setOf_len]; omega⟩, List.map_set]
            rfl
          have inv5 : OwnInv h5 s l i j k (unsetOf (setOf v y) (absI y)) := by
            refine ⟨u2.keep g4 hik hjk, by rw [hmap]; exact g3, sliceCells_one g4 (sliceCells_one u3 inv.sl hsj) hsk, ?_, hik, hjk, hsj, hsk⟩
            unfold unsetOf
            split <;> simp [setOf_len, hlen]
          obtain ⟨h', v', f1, f2, f3⟩ := ih (m + 1) _ h5 (by omega) (by omega) inv5
          refine ⟨h', v', f1, f2, ?_⟩
          exact (kp.trans ((u3.mono fun _ _ e => .inl e).trans (g4.mono fun _ _ e => .inr e))).trans f3
        · rw [bif_neg h7]
          obtain ⟨h', v', f1, f2, f3⟩ := ih (m + 1) _ h3 (by omega) (by omega) inv
          exact ⟨h', v', f1, f2, kp.trans f3⟩
      -- the first test and what follows
      have mid : ∀ sg, sg = sgnI y → ∃ h' v', k3_1 fuel (d + 3) n .normal [(0, .slice s), (5, .bool true), (6, .ptr (aPt i)), (7, .slice (wSl k)), (8, .int .i64 (m : Int)), (9, .int .i64 y), (10, .int .i64 (absI y)), (11, .int .i64 sg)] h = some (.exit 0, [(4, .bot), (5, .bool true), (6, .ptr (aPt i)), (7, .slice (wSl k))], h') ∧ OwnInv h' s l i j k v' ∧ Keeps h h' (fun x => x = j ∨ x = k) := by
        rintro sg rfl
        rw [k3_1_n]
        simp only [e3, Option.bind_some, bool_bool, p1, q1, same_self, p2, q2, int_int, hwr, hcs, beq_self_eq_true, Bool.not_true, cond_false]
        by_cases hz : z = 0
        · rw [bif_pos hz]
          rw [if_pos hz] at hso
          obtain ⟨g1, h3, g2, g3, g4, _⟩ := hw2.intsStore (j := absI y) hab.1 (by omega) true (sgnI y)
          simp only [g2, Option.bind_some]
          refine tail h3 ⟨a2.keep g4 hik hjk, by rw [hso]; exact g3, sliceCells_one g4 hs2 hsk, by rw [setOf_len]; exact hlen, hik, hjk, hsj, hsk⟩ ?_
          exact (kp2.mono fun _ _ e => .inl e).trans (g4.mono fun _ _ e => .inr e)
        · rw [bif_neg hz]
          rw [if_neg hz] at hso
          simp only [Option.bind_some]
          exact tail h2 ⟨a2, by rw [hso]; exact hw2, hs2, by rw [setOf_len]; exact hlen, hik, hjk, hsj, hsk⟩ (kp2.mono fun _ _ e => .inl e)
      simp only [r1, r2, Option.bind_some, int_int, e1, e2]
      by_cases hneg : y < 0
      · rw [bif_pos hneg]
        exact mid (-1) (by unfold sgnI; rw [if_pos hneg])
      · rw [bif_neg hneg]
        exact mid 1 (by unfold sgnI; rw [if_neg hneg])
    · rw [bif_neg (by omega)]
      exact ⟨h, v, rfl, ⟨ha, hwn, hs, hlen, hik, hjk, hsj, hsk⟩, .refl _ _⟩

theorem own_check (fuel d : Nat) {s : Sl} {l : List Int} {i j k : Nat} {v : List Int} {h : AHeap} (inv : OwnInv h s l i j k v) : ∀ (n m : Nat), 13 < n + m → 1 ≤ m → m ≤ 13 →
    l3_1 fuel (d + 3) n [(5, .bool true), (6, .ptr (aPt i)), (7, .slice (wSl k)), (12, .int .i64 (m : Int))] h = some (.exit 2, [(4, .bot), (5, .bool true), (6, .ptr (aPt i))], h) := by
  intro n
  induction n with
  | zero => intro m h1 h2 h3; omega
  | succ n ih =>
    intro m h1 h2 h3
    rw [l3_1_eq]
    by_cases hm : m ≤ 12
    · rw [bif_pos (by omega)]
      have hlen := inv.len
      have e1 := value16 fuel (d + 1) inv.a (m : Int)
      have e2 := value16 fuel (d + 1) inv.a (0 - (m : Int))
      obtain ⟨r1, r2⟩ := readI (inv.w.cells true) (j := (m : Int)) (by omega) (by simp; omega)
      have hget : (v.map encOf).getD (m : Int).toNat 0 = encOf (v.getD m 0) := by
        have : m < v.length := by omega
        simp [List.getD_eq_getElem?_getD, List.getElem?_map, List.getElem?_eq_getElem this]
      rw [hget] at r2
      have l1 : isLit (m : Int) ((v.length : Int) - 1) = true := isLit_spec.2 (by omega)
      have l2 : isLit (0 - (m : Int)) ((v.length : Int) - 1) = true := isLit_spec.2 (by omega)
      have a1 : absI (m : Int) = m := by unfold absI; rw [if_neg (by omega)]
      have a2 : absI (0 - (m : Int)) = m := by unfold absI; rw [if_pos (by omega)]; omega
      rw [valOf_lit l1, a1, if_neg (by omega), Int.toNat_natCast] at e1
      rw [valOf_lit l2, a2, Int.toNat_natCast] at e2
      have hx := inv.a.all _ (getD_mem (show m < v.length by omega))
      generalize v.getD m 0 = x at e1 e2 r2 hx
      have hn : (0 - (m : Int)) < 0 := by omega
      have hw1 : IntKind.wrap .i64 (0 - (m : Int)) = 0 - (m : Int) := wrap64 (by omega) (by omega)
      have hw2 : IntKind.wrap .i64 ((m : Int) + 1) = ((m + 1 : Nat) : Int) := by rw [wrap64 (by omega) (by omega)]; omega
      have hih := ih (m + 1) (by omega) (by omega) (by omega)
      simp only [hw1, e1, e2, Option.bind_some, int_int, r1, r2, hw2]
      have h0 : m ≠ 0 := by omega
      have hp : 0 < m := by omega
      rcases hx with rfl | rfl | rfl <;> simp [encOf] at r2 <;> simpa [hn, h0, hp, r1, r2, int_int, encOf, bool_bool] using hih
    · have : m = 13 := by omega
      subst this
      rw [bif_neg (by omega)]

theorem law3 (fuel d : Nat) {h : AHeap} {s : Sl} {l : List Int} (hs : h.sliceCells 1 s = some (intsC l)) (hf : 50 < fuel) (x : Int) :
    ∃ h', run fuel (d + 5) 3 [.slice s, .int .i64 x] h = some (.bool true, h') := by
  have hsl : s.len = l.length := by have := sliceCells_len hs; simp at this; omega
  obtain ⟨h1, e1, x1⟩ := first10 fuel d h
  rw [e3]
  simp only [e1, Option.bind_some, bool_bool, Bool.not_true, cond_false, hsl]
  by_cases hl : l.length ≤ 40
  · rw [bif_neg (by omega)]
    obtain ⟨h2, e2, a2, k2, n2, _⟩ := new11 fuel (d + 2) 12 h1 (by omega)
    rw [show ((12 : Nat) : Int) = 12 from rfl] at e2
    simp only [e2, Option.bind_some, ptr_ptr, nilTest_ptr_mk, cond_false]
    simp only [Int.reduceLE, Int.reduceMul, decide_true, Bool.and_self, cond_true, repeat_one, next_len, Int.reduceToNat]
    have hlen := x1.1
    have hs2 := sliceCells_ext (k2 fun _ => False) (sliceCells_ext x1 hs)
    have hp := Keeps.push h2 1 (List.replicate 13 (.int .i64 0)) fun _ => False
    have inv : OwnInv (h2.push 1 (List.replicate 13 (.int .i64 0))) s l (h1.rows.length + 1) h1.rows.length h2.rows.length (List.replicate 13 0) := by
      refine ⟨a2.keep hp id id, ?_, sliceCells_ext hp hs2, rfl, by omega, by omega, apart_new hs (by omega), apart_new hs (by omega)⟩
      · exact Own.push h2 1 13 _ rfl
    obtain ⟨h3, v3, e3, i3, _⟩ := own_loop fuel (d + 1) hl _ _ _ fuel 0 _ _ (by omega) (by omega) inv
    have e4 := own_check fuel (d + 1) i3 fuel 1 (by omega) (by omega) (by omega)
    have e5 := value16 fuel (d + 2) i3.a 13
    have e6 := value16 fuel (d + 2) i3.a 0
    obtain ⟨h4, e7, a4, _⟩ := set14 fuel (d + 1) i3.a 13
    have hlen3 := i3.len
    have n13 : isLit 13 ((v3.length : Int) - 1) = false := by rw [hlen3]; decide
    have n0 : isLit 0 ((v3.length : Int) - 1) = false := by rw [hlen3]; decide
    have hns : setOf v3 13 = v3 := by simp [setOf, canSet, n13]
    rw [hns] at a4
    obtain ⟨h5, e8, _, _⟩ := set14 fuel (d + 1) a4 0
    refine ⟨h5, ?_⟩
    rw [show ((0 : Nat) : Int) = 0 from rfl] at e3
    rw [show ((1 : Nat) : Int) = 1 from rfl] at e4
    simp only [e3, Option.bind_some, k3_0_x0, e4, k3_2_x2, e5, e6, e7, e8, int_int, bool_bool, valOf, canSet, n13, n0, if_false, Bool.false_eq_true, decide_true, beq_self_eq_true, cond_true, Bool.false_and, Bool.not_false]
  · rw [bif_pos (by omega)]
    exact ⟨_, rfl⟩

end Go.Proofs.Ythccobceodgmlaa
