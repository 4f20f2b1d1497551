/-
  LitsSay.
-/
import Derived.Test.YtnkbhbkfbigbiaaDoorFst1
import Derived.Test.YtnkbhbkfbigbiaaDoorNrm2
import Derived.Test.YtnkbhbkfbigbiaaDoorRef0
import Derived.Test.YtnkbhbkfbigbiaaDoorRRen
namespace Go.Proofs.YtnkbhbkfbigbiaaDoor
open Go.RowKit

theorem eq_self (b : Bool) : (b == b) = true := by cases b <;> rfl
theorem freeze_lstLL {h : AHeap} (n : Nat) (cc : List (List Int)) : freezeV h (n + 1) (.slice (lstLL cc)) = some (.slice (lstLL cc)) := freeze_lst _ _ _ (closedL_map closed_lstI cc)
theorem totalI_le {cc : List (List Int)} {n : Nat} (h : ∀ c ∈ cc, c.length ≤ n) : totalI cc ≤ cc.length * n := by
  unfold totalI
  induction cc with
  | nil => simp
  | cons c cc ih =>
    have h1 := h c (List.mem_cons_self ..)
    have h2 := ih fun c hc => h c (List.mem_cons_of_mem _ hc)
    simp only [List.map_cons, List.sum_cons, List.length_cons, Nat.add_mul]
    omega
theorem totalI_mem {cc : List (List Int)} {c : List Int} (h : c ∈ cc) : c.length ≤ totalI cc := by
  unfold totalI
  induction cc with
  | nil => cases h
  | cons d cc ih =>
    simp only [List.map_cons, List.sum_cons]
    rcases List.mem_cons.1 h with rfl | h
    · omega
    · have := ih h; omega

theorem renameL_len (b : List Int) : ∀ c : List Int, ((renameL b c).getD []).length ≤ c.length
  | [] => by simp [renameL]
  | x :: c => by
    have h := renameL_len b c
    rw [show renameL b (x :: c) = renC (ren1 b x) (renameL b c) from rfl]
    cases ren1 b x with
    | none => simp [renC]
    | some z =>
      cases hr : renameL b c with
      | none => simp [renC]
      | some r => rw [hr] at h; simpa [renC] using h

theorem litsSay_run (F d : Nat) (hF : 2 ^ 50 ≤ F) (l vars : Int) (a b : List Int) (vs : Int) (cc : List (List Int)) (y : List Int) (hl : l ≤ 9223372036854775807) (ha : ∀ x ∈ a, x ≤ 9223372036854775807) (hb : ∀ x ∈ b, x ≤ 9223372036854775807) (hcc : ∀ c ∈ cc, c.length ≤ 140737488355328) (h : AHeap) :
    ∃ h', run F (d + 60) F_skolemlaw1_LitsSay [.int .i64 l, .int .i64 vars, .slice (lstI a), .slice (lstI b), .agg (cnfC vs cc), .slice (lstI y)] h = some (.bool true, h') := by
  rw [e_skolemlaw1_LitsSay, show List.all (cnfC vs cc) AVal.isCell = true from rfl, cond_true, first1_run F (by omega) (by omega), len_lst, len_lst, len_lst, or3, show (cnfC vs cc).length = 2 from rfl]
  have s0 := (Sep0.start h).push 1 2 (cs := cnfC vs cc) rfl
  generalize AHeap.push h 1 (cnfC vs cc) = h1 at s0
  have c1 : h1.cell (.mk ⟨h.next, 0, 0 + 1⟩ 2) = some (.slice (lstLL cc)) := s0.part (i := 0) rfl (by omega) rfl
  have cs : ∀ ids, (h1.markRo ids).cellsAt 2 (.mk ⟨h.next, 0, 0⟩ 2) = some (cnfC vs cc) := fun ids => by
    rw [cellsAt_mark]; exact (s0.sep.own (i := 0) rfl).parts (by omega) (by simp [cnfC])
  simp only [Option.bind_some, bool_bool, Bool.not_true, cond_false, field_mk, c1, slice_slice]
  rw [len_lst]
  by_cases hsz : (60 : Int) < (a.length : Int) ∨ (60 : Int) < (b.length : Int) ∨ (60 : Int) < (y.length : Int)
  · rw [decide_eq_true hsz]
    exact ⟨h1, rfl⟩
  rw [decide_eq_false hsz]
  simp only [beq_self_eq_true, cond_true, Option.bind_some, bool_bool]
  by_cases hcl : (60 : Int) < (cc.length : Int)
  · rw [decide_eq_true hcl]
    exact ⟨h1, rfl⟩
  rw [decide_eq_false hcl, near_run F (d + 58) (freeze_lstI 7 a) (by omega) (by omega)]
  simp only [beq_self_eq_true, cond_true, Option.bind_some, bool_bool]
  cases hna : nearI a with
  | false => exact ⟨h1, rfl⟩
  | true =>
  rw [near_run F (d + 58) (freeze_lstI 7 b) (by omega) (by omega)]
  simp only [Bool.not_true, beq_self_eq_true, cond_true, Option.bind_some, bool_bool]
  cases hnb : nearI b with
  | false => exact ⟨h1, rfl⟩
  | true =>
  rw [near_run F (d + 58) (freeze_lstI 7 y) (by omega) (by omega)]
  simp only [Bool.not_true, beq_self_eq_true, cond_true, Option.bind_some, bool_bool]
  cases hny : nearI y with
  | false => exact ⟨h1, rfl⟩
  | true =>
  simp only [Bool.not_true, beq_self_eq_true, cond_true, c1, Option.bind_some, slice_slice]
  rw [nearAll_run F (d + 57) (cc := cc) (by omega) (by omega) (fun c hc => by have := hcc c hc; omega) (freeze_lstLL 7 cc)]
  simp only [Bool.not_true, beq_self_eq_true, cond_true, Option.bind_some, bool_bool]
  cases hnc : cc.all nearI with
  | false => exact ⟨h1, rfl⟩
  | true =>
  have hto := totalI_le hcc
  have hto2 : cc.length * 140737488355328 ≤ 60 * 140737488355328 := Nat.mul_le_mul_right _ (by omega)
  simp only [Bool.not_true, beq_self_eq_true, cond_true, c1, Option.bind_some, slice_slice]
  rw [count_run F (d + 58) (cc := cc) (by omega) (by omega) (by omega) (freeze_lstLL 7 cc)]
  simp only [Bool.not_true, beq_self_eq_true, cond_true, Option.bind_some, bool_bool, int_int]
  by_cases hct : (300 : Int) < (totalI cc : Int)
  · rw [decide_eq_true hct]
    exact ⟨h1, rfl⟩
  have hfr : ∀ h : AHeap, freezeV h 8 (.slice (.lst 1 true [.int .i64 l])) = some (.slice (lstI [l])) := fun h => freeze_lst 7 1 true rfl
  rw [decide_eq_false hct, near_run F (d + 58) (a := [l]) (hfr _) (by simp) (by simp; omega)]
  simp only [beq_self_eq_true, cond_true, Option.bind_some, bool_bool]
  cases hnl : nearI [l] with
  | false => exact ⟨h1, rfl⟩
  | true =>
  have oka := near_ok hna ha
  have okb := near_ok hnb hb
  have okl := near_ok hnl (fun x hx => by simp at hx; subst hx; exact hl) l (by simp)
  simp only [Bool.not_true, cond_false]
  rw [Norm_run (by omega) (by omega) (by omega)]
  simp only [Option.bind_some, isTup_tup, List.length_cons, List.length_nil, Nat.beq, cond_true, comp_tup, List.getElem?_cons_zero, List.getElem?_cons_succ, slice_slice, bool_bool]
  rw [RNorm_run (by omega) (by omega) (by omega) oka]
  simp only [Option.bind_some, isTup_tup, List.length_cons, List.length_nil, Nat.beq, cond_true, comp_tup, List.getElem?_cons_zero, List.getElem?_cons_succ, slice_slice, bool_bool]
  rw [rename_canon F (d + 57) (by omega) (by omega)]
  simp only [Option.bind_some, isTup_tup, List.length_cons, List.length_nil, Nat.beq, cond_true, comp_tup, List.getElem?_cons_zero, List.getElem?_cons_succ, slice_slice, bool_bool]
  rw [rren_run F (d + 57) (by omega) (by omega) okb]
  simp only [Option.bind_some, isTup_tup, List.length_cons, List.length_nil, Nat.beq, cond_true, comp_tup, List.getElem?_cons_zero, List.getElem?_cons_succ, slice_slice, bool_bool]
  rw [Var_run]
  simp only [Option.bind_some, int_int]
  rw [Abs_run F (d + 58) okl]
  simp only [Option.bind_some, int_int, decide_true, cond_true]
  rw [Is_run]
  simp only [Option.bind_some, bool_bool]
  rw [RIs_run]
  simp only [Option.bind_some, bool_bool, eq_self, cond_true]
  have hlen := normL_length a
  rw [sameI_run F (d + 58) (freeze_lstI 7 _) (freeze_lstI 7 _) (by omega) (by omega)]
  simp only [Option.bind_some, bool_bool, decide_true, cond_true]
  have hx : ∀ h, freezeV h 8 (.agg (cnfC vs cc)) = some (.agg (cnfC vs cc)) := fun h => freeze_cnf 6 vs cc
  have hrow : ∀ c ∈ cc, c.length < 1000000000 ∧ c.length < F := fun c hc => by have := totalI_mem hc; omega
  obtain ⟨ids, hr⟩ := Check_any F (d + 54) (vars := vs) (cc := cc) (by omega) (by omega) (by omega) hrow (hx h1)
  have cs0 := cs []
  rw [markRo_nil] at cs0
  rw [cs0, Option.bind_some, hr]
  simp only [Option.bind_some, cs, same_self]
  obtain ⟨ids2, hr2⟩ : ∃ ids2, run F (d + 59) F_skolemref1_CheckCNF [.agg (cnfC vs cc)] (h1.markRo ids) = some (.agg (faultI vs cc), (h1.markRo ids).markRo ids2) := by
    rcases CheckCNF_run F (d + 57) (vars := vs) (cc := cc) (by omega) (by omega) (by omega) hrow (hx (h1.markRo ids)) with e | e
    · exact ⟨[], by rw [markRo_nil]; exact e⟩
    · exact e
  rw [hr2]
  obtain ⟨c, p, x, e1, e2⟩ := checkI_fault vs cc
  rw [e1]
  simp only [Option.bind_some, agg_agg]
  rw [Same_run F (d + 55) e2 (by omega) c p x]
  simp only [Option.bind_some, bool_bool, decide_true, eq_self, Bool.and_self, cond_true]
  rw [LSame_run (by omega) (by omega) (by omega) (by omega) (by omega) (freeze_lstI 7 a) (freeze_lstI 7 b)]
  simp only [Option.bind_some, bool_bool]
  rw [SameClause_run (by omega) (by omega) (by omega) (by omega) (by omega) oka okb (freeze_lstI 7 a) (freeze_lstI 7 b)]
  simp only [Option.bind_some, bool_bool, eq_self, cond_true]
  have hren : ((renameL y b).getD []).length ≤ b.length := renameL_len y b
  rw [sameI_run F (d + 58) (freeze_lstI 7 _) (freeze_lstI 7 _) (by omega) (by omega)]
  simp only [Option.bind_some, bool_bool, decide_true, cond_true, k_skolemlaw1_LitsSay_0_n]
  exact ⟨_, rfl⟩
end Go.Proofs.YtnkbhbkfbigbiaaDoor
