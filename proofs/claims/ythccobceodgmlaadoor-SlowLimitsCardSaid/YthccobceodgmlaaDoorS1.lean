/-
  Literals, numbers; clauses in a model.
-/
import Derived.Test.YthccobceodgmlaaDoorE
namespace Go.Proofs.YthccobceodgmlaaDoor
open Go.RowKit

theorem succI {n : Nat} (h : n < 9000000000000000000) : IntKind.wrap .i64 ((n : Int) + 1) = ((n + 1 : Nat) : Int) := by rw [wrap64 (by omega) (by omega)]; omega

/-! lits.Var -/
def varI (l : Int) : Int := bif decide (l < IntKind.wrap .i64 (0 - l)) then IntKind.wrap .i64 (0 - l) else l
theorem Var_run (fuel d : Nat) (l : Int) (h : AHeap) : run fuel (d + 1) F_lits_Var [.int .i64 l] h = some (.int .i64 (varI l), h) :=
  pure_of rfl rfl (cc1 rfl) (by rw [e_lits_Var]) rfl
def okInt (l : Int) : Prop := -9223372036854775808 < l ∧ l ≤ 9223372036854775807
theorem varI_eq {l : Int} (h : okInt l) : varI l = (l.natAbs : Int) := by
  obtain ⟨h1, h2⟩ := h
  unfold varI
  rw [wrap64 (by omega) (by omega)]
  by_cases h0 : l < 0 - l
  · rw [decide_eq_true h0, cond_true]; omega
  · rw [decide_eq_false h0, cond_false]; omega

/-! skolemworld.Number -/
def numI (n b : Int) : Int := bif decide (Int.tmod n b < 0) then IntKind.wrap .i64 (Int.tmod n b + b) else Int.tmod n b
theorem Number_run (fuel d : Nat) {n b : Int} (hb : b ≠ 0) (h : AHeap) : run fuel (d + 1) F_skolemworld_Number [.int .i64 n, .int .i64 b] h = some (.int .i64 (numI n b), h) :=
  pure_of rfl rfl (cc2 rfl rfl) (by
    rw [e_skolemworld_Number, bif_neg hb]
    show _ = some (AVal.int .i64 (numI n b), AHeap.none)
    unfold numI
    cases decide (Int.tmod n b < 0) <;> rfl) rfl
theorem numI_range {n b : Int} (hb : 0 < b) (hb2 : b ≤ 9223372036854775807) : 0 ≤ numI n b ∧ numI n b < b := by
  have h1 := Int.tmod_lt_of_pos n hb
  have h2 : -b < Int.tmod n b := by
    have := Int.neg_lt_of_neg_lt (a := Int.tmod n b) (b := b)
    have h3 := Int.tmod_lt_of_pos (-n) hb
    rw [Int.neg_tmod] at h3
    omega
  unfold numI
  by_cases h0 : Int.tmod n b < 0
  · rw [decide_eq_true h0, cond_true, wrap64 (by omega) (by omega)]; omega
  · rw [decide_eq_false h0, cond_false]; omega

/-! skolemmake.Lit -/
def litI (n vars : Int) : Int := bif decide (numI n (2 * vars) < vars) then numI n (2 * vars) + 1 else vars - numI n (2 * vars) - 1
theorem Lit_run (fuel d : Nat) {n vars : Int} (h1 : 0 < vars) (h2 : vars ≤ 1000000) (h : AHeap) : run fuel (d + 2) F_skolemmake_Lit [.int .i64 n, .int .i64 vars] h = some (.int .i64 (litI n vars), h) := by
  have hr := numI_range (n := n) (b := 2 * vars) (by omega) (by omega)
  refine pure_of rfl rfl (cc2 rfl rfl) (r := .int .i64 (litI n vars)) (h' := AHeap.none) ?_ rfl
  rw [e_skolemmake_Lit, wrap64 (n := 2 * vars) (by omega) (by omega), Number_run fuel d (by omega)]
  simp only [Option.bind_some, int_int]
  unfold litI
  by_cases h0 : numI n (2 * vars) < vars
  · rw [decide_eq_true h0, cond_true, cond_true, wrap64 (by omega) (by omega)]
  · rw [decide_eq_false h0, cond_false, cond_false, wrap64 (n := vars - numI n (2 * vars)) (by omega) (by omega), wrap64 (by omega) (by omega)]
theorem litI_range {n vars : Int} (h1 : 0 < vars) (h2 : vars ≤ 1000000) : litI n vars ≠ 0 ∧ -vars ≤ litI n vars ∧ litI n vars ≤ vars := by
  have hr := numI_range (n := n) (b := 2 * vars) (by omega) (by omega)
  unfold litI
  by_cases h0 : numI n (2 * vars) < vars
  · rw [decide_eq_true h0, cond_true]; omega
  · rw [decide_eq_false h0, cond_false]; omega

/-! assign.holds, assign.Of -/
def holdsI (l : Int) (m : List Bool) : Bool := (decide (0 < varI l) && decide (varI l < (m.length : Int))) && (m.getD (varI l).toNat false == decide (0 < l))
def ofI (cc : List (List Int)) (m : List Bool) : Bool := cc.all fun c => c.any fun l => holdsI l m

theorem holds_run (fuel d : Nat) (l : Int) {s : Sl} {m : List Bool} {h : AHeap} (hs : freezeV h 8 (.slice s) = some (.slice (lstB m))) : run fuel (d + 2) F_assign_holds [.int .i64 l, .slice s] h = some (.bool (holdsI l m), h) := by
  refine run_val rfl rfl (mm2 rfl hs) (r := .bool (holdsI l m)) (h' := AHeap.none) ?_ rfl rfl
  rw [e_assign_holds, Var_run, len_lst]
  simp only [Option.bind_some, int_int]
  unfold holdsI
  by_cases h1 : 0 < varI l
  · by_cases h2 : varI l < (m.length : Int)
    · simp only [decide_eq_true h1, decide_eq_true h2, cond_true, beq_self_eq_true, addr_lstM AVal.bool (l := m) (j := varI l) (by omega) (by omega) false, Option.bind_some, cell_fp, bool_bool, Bool.and_self, Bool.true_and]
    · simp [decide_eq_true h1, decide_eq_false h2, AVal.bool?]
  · simp [decide_eq_false h1, AVal.bool?]

/-- A clause's literals, one by one. -/
theorem of_inner (fuel d : Nat) {s s10 : Sl} {m : List Bool} {h : AHeap} (hs : freezeV h 8 (.slice s) = some (.slice (lstB m))) {c : List Int} (hc : c.length < 1000000000) (x11 x12 : Int) : ∀ (n k : Nat) (b : Bool), c.length < n + k → k ≤ c.length →
    l_assign_Of_1 fuel (d + 2) n [(1, .slice s), (7, .bool b), (10, .slice s10), (11, .int .i64 x11), (12, .int .i64 x12), (16, .slice (lstI c)), (17, .int .i64 (c.length : Int)), (18, .int .i64 (k : Int))] h =
      some (.exit 2, [(1, .slice s), (7, .bool (b || (c.drop k).any fun l => holdsI l m)), (10, .slice s10), (11, .int .i64 x11), (12, .int .i64 x12)], h) := by
  intro n
  induction n with
  | zero => intro k b h1 h2; omega
  | succ n ih =>
    intro k b h1 h2
    rw [l_assign_Of_1_eq]
    by_cases hk : k < c.length
    · rw [bif_pos (by omega), addr_lstM _ (by omega) (by omega) 0, drop_get hk 0]
      simp only [Option.bind_some, cell_fp, int_int, Int.toNat_natCast]
      rw [succI (by omega)]
      cases b with
      | true =>
        simp only [Bool.true_or, beq_iff_eq, Bool.cond_eq_ite, Bool.true_eq_false, if_false, Option.bind_some, bool_bool]
        rw [ih (k + 1) true (by omega) (by omega)]
        rfl
      | false =>
        simp only [beq_self_eq_true, cond_true, holds_run fuel d _ hs, Option.bind_some, bool_bool]
        rw [ih (k + 1) _ (by omega) (by omega)]
        simp
    · have : k = c.length := by omega
      subst this
      rw [bif_neg (by omega)]
      simp

theorem of_outer (fuel d : Nat) {s : Sl} {m : List Bool} {h : AHeap} (hs : freezeV h 8 (.slice s) = some (.slice (lstB m))) {cc : List (List Int)} (hl : cc.length < 1000000000) (hc : ∀ c ∈ cc, c.length < 1000000000 ∧ c.length < fuel) : ∀ (n k : Nat), cc.length < n + k → k ≤ cc.length →
    (l_assign_Of_0 fuel (d + 2) n [(1, .slice s), (10, .slice (lstLL cc)), (11, .int .i64 (cc.length : Int)), (12, .int .i64 (k : Int))] h).bind (fun p => k_assign_Of_0 fuel (d + 2) p.1 p.2.1 p.2.2) =
      some (.bool (ofI (cc.drop k) m), h) := by
  intro n
  induction n with
  | zero => intro k h1 h2; omega
  | succ n ih =>
    intro k h1 h2
    rw [l_assign_Of_0_eq]
    by_cases hk : k < cc.length
    · rw [bif_pos (by omega), addr_lstM _ (by omega) (by omega) [], drop_get hk []]
      simp only [Option.bind_some, cell_fp, slice_slice, Int.toNat_natCast, len_lst]
      obtain ⟨c1, c2⟩ := hc (cc.getD k []) (by rw [List.getD_eq_getElem?_getD, List.getElem?_eq_getElem hk]; exact List.getElem_mem hk)
      have h0 := of_inner fuel d (s10 := lstLL cc) hs (c := cc.getD k []) c1 (cc.length : Int) (k : Int) fuel 0 false (by omega) (by omega)
      rw [show ((0 : Nat) : Int) = 0 from rfl] at h0
      rw [h0, List.drop_zero]
      simp only [Option.bind_some, k_assign_Of_1_x2, Bool.false_or, ofI, List.all_cons]
      cases (cc.getD k []).any fun l => holdsI l m with
      | true =>
        simp only [Bool.not_true, cond_false, Bool.true_and]
        rw [succI (by omega), ih (k + 1) (by omega) (by omega)]
        rfl
      | false => simp only [Bool.not_false, cond_true, Option.bind_some, k_assign_Of_0_r, Bool.false_and]
    · have : k = cc.length := by omega
      subst this
      rw [bif_neg (by omega)]
      simp [k_assign_Of_0_x0, ofI]

theorem Of_run (fuel d : Nat) {s : Sl} {m : List Bool} {h : AHeap} (hs : freezeV h 8 (.slice s) = some (.slice (lstB m))) {cc : List (List Int)} (hl : cc.length < 1000000000) (hf : cc.length < fuel) (hc : ∀ c ∈ cc, c.length < 1000000000 ∧ c.length < fuel) :
    run fuel (d + 3) F_assign_Of [.slice (lstLL cc), .slice s] h = some (.bool (ofI cc m), h) := by
  refine run_val rfl rfl (mm2 (freeze_lst 7 _ _ (closedL_map closed_lstI cc)) hs) (r := .bool (ofI cc m)) (h' := AHeap.none) ?_ rfl rfl
  rw [e_assign_Of]
  have := of_outer fuel d (s := lstB m) (m := m) (h := AHeap.none) (freeze_lst 7 _ _ (closedL_map (fun _ => rfl) m)) hl hc fuel 0 (by omega) (by omega)
  rw [List.drop_zero] at this
  exact this

end Go.Proofs.YthccobceodgmlaaDoor
