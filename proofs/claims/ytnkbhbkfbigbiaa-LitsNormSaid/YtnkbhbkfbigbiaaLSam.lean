/-
  LitsSame.
-/
import Derived.Test.YtnkbhbkfbigbiaaLRen
import Derived.Test.YtnkbhbkfbigbiaaNrm2
import Derived.Test.YtnkbhbkfbigbiaaRef0o
namespace Go.Proofs.Ytnkbhbkfbigbiaa
open Go.RowKit

abbrev lits9of (z : List Int) : List Int := z.map fun x => litI x 9

theorem same_loop0 (fuel d : Nat) {z : List Int} (hz : z.length < 1000000) {x1 t : Sl} {x2 : Int} {b : Bool} {h0 : AHeap} {D : List Int} : ∀ (n k : Nat) (s : Sl) (h : AHeap), z.length < n + k → k ≤ z.length → Sep0 h0 h [.grown 1 s (intsC (lits9of (z.take k))), .grown 1 t (intsC D)] →
    ∃ s' h', l_skolemlaw1_LitsSame_0 fuel (d + 2) n [(0, .slice (lstI z)), (1, .slice x1), (2, .int .i64 x2), (7, .bool b), (8, .slice s), (9, .slice t), (10, .int .i64 (k : Int))] h = some (.exit 0, [(1, .slice x1), (2, .int .i64 x2), (7, .bool b), (8, .slice s'), (9, .slice t)], h') ∧ Sep0 h0 h' [.grown 1 s' (intsC (lits9of z)), .grown 1 t (intsC D)] := by
  intro n
  induction n with
  | zero => intro k s h h1 h2; omega
  | succ n ih =>
    intro k s h h1 h2 hg
    have hl := hg.len (i := 0) rfl
    simp only [List.length_map, List.length_take, Nat.mul_one] at hl
    rw [l_skolemlaw1_LitsSame_0_eq, len_lst]
    by_cases hk : k < z.length
    · rw [bif_pos (by omega), addr_lstM _ (by omega) (by omega) 0]
      simp only [Option.bind_some, cell_fp, int_int, Int.toNat_natCast]
      rw [Lit_run fuel d (by omega) (by omega)]
      simp only [Option.bind_some, int_int]
      obtain ⟨s', h', e1, e2, e3⟩ := hg.grow (i := 0) (bytes := 8) (m := 1) (vs := [.int .i64 (litI (z.getD k 0) 9)]) rfl rfl (by omega) (by omega)
      rw [e1]
      simp only [Option.bind_some]
      rw [succI (by omega)]
      refine ih (k + 1) s' h' (by omega) (by omega) ?_
      rw [take_get hk 0]
      simpa using e2
    · have : k = z.length := by omega
      subst this
      rw [bif_neg (by omega)]
      rw [List.take_length] at hg
      exact ⟨s, h, rfl, hg⟩
theorem same_loop1 (fuel d : Nat) {z : List Int} (hz : z.length < 1000000) {s : Sl} {x2 : Int} {b : Bool} {h0 : AHeap} {D : List Int} : ∀ (n k : Nat) (t : Sl) (h : AHeap), z.length < n + k → k ≤ z.length → Sep0 h0 h [.grown 1 s (intsC D), .grown 1 t (intsC (lits9of (z.take k)))] →
    ∃ t' h', l_skolemlaw1_LitsSame_1 fuel (d + 2) n [(1, .slice (lstI z)), (2, .int .i64 x2), (7, .bool b), (8, .slice s), (9, .slice t), (11, .int .i64 (k : Int))] h = some (.exit 2, [(2, .int .i64 x2), (7, .bool b), (8, .slice s), (9, .slice t')], h') ∧ Sep0 h0 h' [.grown 1 s (intsC D), .grown 1 t' (intsC (lits9of z))] := by
  intro n
  induction n with
  | zero => intro k s h h1 h2; omega
  | succ n ih =>
    intro k s h h1 h2 hg
    have hl := hg.len (i := 1) rfl
    simp only [List.length_map, List.length_take, Nat.mul_one] at hl
    rw [l_skolemlaw1_LitsSame_1_eq, len_lst]
    by_cases hk : k < z.length
    · rw [bif_pos (by omega), addr_lstM _ (by omega) (by omega) 0]
      simp only [Option.bind_some, cell_fp, int_int, Int.toNat_natCast]
      rw [Lit_run fuel d (by omega) (by omega)]
      simp only [Option.bind_some, int_int]
      obtain ⟨s', h', e1, e2, e3⟩ := hg.grow (i := 1) (bytes := 8) (m := 1) (vs := [.int .i64 (litI (z.getD k 0) 9)]) rfl rfl (by omega) (by omega)
      rw [e1]
      simp only [Option.bind_some]
      rw [succI (by omega)]
      refine ih (k + 1) s' h' (by omega) (by omega) ?_
      rw [take_get hk 0]
      simpa using e2
    · have : k = z.length := by omega
      subst this
      rw [bif_neg (by omega)]
      rw [List.take_length] at hg
      exact ⟨_, h, rfl, hg⟩
theorem same_loop2 (fuel d : Nat) {c D : List Int} (hz : c.length < 1000000) (hD : D.length < 1000000) (hf : D.length < fuel) {s t : Sl} {x2 : Int} {b : Bool} {h : AHeap} (hs : Grown h 1 s (intsC c)) (ht : Grown h 1 t (intsC D)) : ∀ (n k : Nat) (w : Bool), c.length < n + k → k ≤ c.length →
    l_skolemlaw1_LitsSame_2 fuel (d + 1) n [(2, .int .i64 x2), (7, .bool b), (8, .slice s), (9, .slice t), (12, .bool w), (13, .int .i64 (k : Int))] h = some (.exit 4, [(2, .int .i64 x2), (7, .bool b), (8, .slice s), (9, .slice t), (12, .bool (w && (c.drop k).all fun x => decide (x ∈ D)))], h) := by
  have hl := hs.len
  simp only [List.length_map, Nat.mul_one] at hl
  intro n
  induction n with
  | zero => intro k w h1 h2; omega
  | succ n ih =>
    intro k w h1 h2
    rw [l_skolemlaw1_LitsSame_2_eq, ← hl]
    by_cases hk : k < c.length
    · have hd : c.drop k = c.getD k 0 :: c.drop (k + 1) := by rw [List.drop_eq_getElem_cons hk]; simp [List.getD, hk]
      rw [bif_pos (by omega), hd, List.all_cons]
      cases w with
      | true =>
        have hr := readI hs.cells (j := (k : Int)) (by omega) (by omega)
        simp only [beq_self_eq_true, cond_true, hr.1, Option.bind_some, hr.2, int_int, has_run fuel d ht.freezeI _ (by omega) hf, bool_bool, Int.toNat_natCast]
        rw [succI (by omega), ih (k + 1) _ (by omega) (by omega)]
        simp only [Bool.true_and]
      | false =>
        simp only [show ((false == true) : Bool) = false from rfl, cond_false, Option.bind_some, bool_bool]
        rw [succI (by omega), ih (k + 1) _ (by omega) (by omega)]
        simp only [Bool.false_and]
    · have : k = c.length := by omega
      subst this
      rw [bif_neg (by omega), List.drop_length]
      simp
theorem same_loop3 (fuel d : Nat) {c D : List Int} (hz : c.length < 1000000) (hD : D.length < 1000000) (hf : D.length < fuel) {s t : Sl} {x2 : Int} {b : Bool} {h : AHeap} (hs : Grown h 1 s (intsC D)) (ht : Grown h 1 t (intsC c)) : ∀ (n k : Nat) (w : Bool), c.length < n + k → k ≤ c.length →
    l_skolemlaw1_LitsSame_3 fuel (d + 1) n [(2, .int .i64 x2), (7, .bool b), (8, .slice s), (9, .slice t), (12, .bool w), (14, .int .i64 (k : Int))] h = some (.exit 6, [(2, .int .i64 x2), (7, .bool b), (8, .slice s), (9, .slice t), (12, .bool (w && (c.drop k).all fun x => decide (x ∈ D)))], h) := by
  have hl := ht.len
  simp only [List.length_map, Nat.mul_one] at hl
  intro n
  induction n with
  | zero => intro k w h1 h2; omega
  | succ n ih =>
    intro k w h1 h2
    rw [l_skolemlaw1_LitsSame_3_eq, ← hl]
    by_cases hk : k < c.length
    · have hd : c.drop k = c.getD k 0 :: c.drop (k + 1) := by rw [List.drop_eq_getElem_cons hk]; simp [List.getD, hk]
      rw [bif_pos (by omega), hd, List.all_cons]
      cases w with
      | true =>
        have hr := readI ht.cells (j := (k : Int)) (by omega) (by omega)
        simp only [beq_self_eq_true, cond_true, hr.1, Option.bind_some, hr.2, int_int, has_run fuel d hs.freezeI _ (by omega) hf, bool_bool, Int.toNat_natCast]
        rw [succI (by omega), ih (k + 1) _ (by omega) (by omega)]
        simp only [Bool.true_and]
      | false =>
        simp only [show ((false == true) : Bool) = false from rfl, cond_false, Option.bind_some, bool_bool]
        rw [succI (by omega), ih (k + 1) _ (by omega) (by omega)]
        simp only [Bool.false_and]
    · have : k = c.length := by omega
      subst this
      rw [bif_neg (by omega), List.drop_length]
      simp

theorem normL_eq_iff {a b : List Int} : normL a = normL b ↔ ∀ x, x ∈ a ↔ x ∈ b := by
  constructor
  · intro h x
    rw [← mem_normL, h, mem_normL]
  · exact normL_congr

theorem litsSame_run (F d : Nat) (hF : 2 ^ 21 ≤ F) (za zb : List Int) (x : Int) (h : AHeap) :
    ∃ h', run F (d + 60) F_skolemlaw1_LitsSame [.slice (lstI za), .slice (lstI zb), .int .i64 x] h = some (.bool true, h') := by
  rw [e_skolemlaw1_LitsSame, first1_run F (by omega) (by omega), len_lst, len_lst]
  simp only [Option.bind_some, bool_bool, Bool.not_true, cond_false]
  by_cases ha : 20 < za.length
  · rw [decide_eq_true (show (20 : Int) < (za.length : Int) by omega)]
    exact ⟨h, rfl⟩
  by_cases hb : 20 < zb.length
  · rw [decide_eq_false (show ¬ (20 : Int) < (za.length : Int) by omega), decide_eq_true (show (20 : Int) < (zb.length : Int) by omega)]
    exact ⟨h, rfl⟩
  rw [decide_eq_false (show ¬ (20 : Int) < (za.length : Int) by omega), decide_eq_false (show ¬ (20 : Int) < (zb.length : Int) by omega)]
  simp only [cond_false]
  have s0 := ((Sep0.start h).addNil 1).addNil 1
  obtain ⟨sa, h1, e1, s1⟩ := same_loop0 F (d + 57) (z := za) (by omega) (x1 := lstI zb) (x2 := x) (b := true) (t := .nil) (D := []) (h0 := h) F 0 .nil h (by omega) (by omega) s0
  rw [show ((0 : Nat) : Int) = 0 from rfl] at e1
  obtain ⟨sb, h2, e2, s2⟩ := same_loop1 F (d + 57) (z := zb) (by omega) (x2 := x) (b := true) (s := sa) F 0 .nil h1 (by omega) (by omega) s1
  rw [show ((0 : Nat) : Int) = 0 from rfl] at e2
  have hla : (lits9of za).length ≤ 20 := by simp; omega
  have hlb : (lits9of zb).length ≤ 20 := by simp; omega
  rw [e1]
  simp only [Option.bind_some, k_skolemlaw1_LitsSame_0_x0]
  rw [e2]
  simp only [Option.bind_some, k_skolemlaw1_LitsSame_1_x2]
  generalize lits9of za = c at *
  generalize lits9of zb = D at *
  have gc := s2.sep.grown (i := 0) rfl
  have gd := s2.sep.grown (i := 1) rfl
  have e3 := same_loop2 F (d + 58) (c := c) (D := D) (by omega) (by omega) (by omega) (x2 := x) (b := true) gc gd F 0 true (by omega) (by omega)
  rw [show ((0 : Nat) : Int) = 0 from rfl, List.drop_zero, Bool.true_and] at e3
  rw [e3]
  simp only [Option.bind_some, k_skolemlaw1_LitsSame_2_x4]
  have e4 := same_loop3 F (d + 58) (c := D) (D := c) (by omega) (by omega) (by omega) (x2 := x) (b := true) gc gd F 0 (c.all fun x => decide (x ∈ D)) (by omega) (by omega)
  rw [show ((0 : Nat) : Int) = 0 from rfl, List.drop_zero] at e4
  rw [e4]
  simp only [Option.bind_some, k_skolemlaw1_LitsSame_3_x6]
  have hw : ∀ a b : List Int, decide (normL a = normL b) = ((a.all fun x => decide (x ∈ b)) && (b.all fun x => decide (x ∈ a))) := by
    intro a b
    rw [Bool.eq_iff_iff, decide_eq_true_iff, normL_eq_iff]
    simp only [Bool.and_eq_true, List.all_eq_true, decide_eq_true_eq]
    constructor
    · intro h; exact ⟨fun x hx => (h x).1 hx, fun x hx => (h x).2 hx⟩
    · rintro ⟨h1, h2⟩ x; exact ⟨h1 x, h2 x⟩
  rw [Lit_run F (d + 57) (by omega) (by omega)]
  simp only [Option.bind_some, int_int, beq_self_eq_true, cond_true]
  rw [LSame_run (by omega) (by omega) (by omega) (by omega) (by omega) gc.freezeI gd.freezeI, hw]
  simp only [Option.bind_some, bool_bool, beq_self_eq_true, cond_true]
  rw [LSame_run (by omega) (by omega) (by omega) (by omega) (by omega) gd.freezeI gc.freezeI, hw, Bool.and_comm]
  simp only [Option.bind_some, bool_bool, beq_self_eq_true, cond_true]
  obtain ⟨s5, h5, e5, n5⟩ := intsr_run F (d + 58) gc.cells (by omega) (by omega)
  rw [e5]
  simp only [Option.bind_some, slice_slice]
  have s6 := s2.add n5
  have hl5 := n5.holds.len
  simp only [List.length_map, Nat.mul_one] at hl5
  obtain ⟨s7, h7, e7, s8, _⟩ := s6.grow (i := 2) (bytes := 8) (m := 1) (vs := [.int .i64 (litI x 9)]) rfl rfl (by omega) (by omega)
  rw [e7]
  simp only [Option.bind_some]
  have gc7 := s8.sep.grown (i := 0) rfl
  have g7 : Grown h7 1 s7 (intsC (c ++ [litI x 9])) := by
    have := s8.sep.grown (i := 2) rfl
    simpa using this
  rw [LSame_run (by omega) (by simp; omega) (by omega) (by simp; omega) (by omega) g7.freezeI gc7.freezeI]
  simp only [Option.bind_some, bool_bool]
  rw [has_run F (d + 58) gc7.freezeI _ (by omega) (by omega)]
  have hlast : decide (normL (c ++ [litI x 9]) = normL c) = decide (litI x 9 ∈ c) := by
    apply decide_eq_decide.2
    rw [normL_eq_iff]
    constructor
    · intro h; exact (h _).1 (by simp)
    · intro h y
      rw [List.mem_append, List.mem_singleton]
      constructor
      · rintro (h1 | h1)
        · exact h1
        · subst h1; exact h
      · exact .inl
  rw [hlast]
  simp only [Option.bind_some, bool_bool, beq_self_eq_true]
  exact ⟨h7, rfl⟩
end Go.Proofs.Ytnkbhbkfbigbiaa
