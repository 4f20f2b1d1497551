/-
  lits.Is, lits.Check.
-/
import Derived.Test.YtnkbhbkfbigbiaaDoorS7a
namespace Go.Proofs.YtnkbhbkfbigbiaaDoor
open Go.RowKit

def isI (l n : Int) : Bool := bif (bif (!decide (l = (0 : Int))) then (decide ((IntKind.wrap .i64 (0 - n)) ≤ l)) else false) then (decide (l ≤ n)) else false
theorem Is_run (fuel d : Nat) (l n : Int) (h : AHeap) : run fuel (d + 1) F_lits_Is [.int .i64 l, .int .i64 n] h = some (.bool (isI l n), h) :=
  pure_of rfl rfl (cc2 rfl rfl) (by rw [e_lits_Is]) rfl
theorem isI_iff {l n : Int} (h0 : -9223372036854775808 < n) (h1 : n ≤ 9223372036854775807) : isI l n = true ↔ l ≠ 0 ∧ -n ≤ l ∧ l ≤ n := by
  unfold isI
  rw [wrap64 (by omega) (by omega)]
  by_cases a : l = 0
  · simp [a]
  · by_cases b : -n ≤ l <;> by_cases c : l ≤ n <;> simp [a, b, c]

/-! Functions that are handed over; the captured rows are told as they stand. -/
theorem canonL_none2 {a b : AVal} (hb : canonV 8 b = none) : canonL [a, b] = none := by
  unfold canonL
  rw [List.mapM_cons, List.mapM_cons, hb]
  cases canonV 8 a <;> rfl
theorem mapM_none2 {f : AVal → Option AVal} {a b : AVal} (hb : f b = none) : [a, b].mapM f = none := by
  rw [List.mapM_cons, List.mapM_cons, hb]
  cases f a <;> rfl

def idxF (p : Int → Bool) : List Int → Nat → Int
  | [], _ => -1
  | x :: l, k => if p x = true then (k : Int) else idxF p l (k + 1)
theorem idxF_any (p : Int → Bool) : ∀ (l : List Int) (k : Nat), decide ((0 : Int) ≤ idxF p l k) = l.any p
  | [], k => rfl
  | x :: l, k => by
    unfold idxF
    rw [List.any_cons]
    cases hp : p x with
    | true => simp
    | false => simp only [Bool.false_eq_true, if_false, Bool.false_or]; exact idxF_any p l (k + 1)

theorem idx_loop (fuel d : Nat) {c : List Int} {f : Nat} {caps : List Pt} {p : Int → Bool} {h : AHeap} (hc : c.length < 1000000000) (hp : ∀ x ∈ c, run fuel d f ([.int .i64 x] ++ List.map .ptr caps) h = some (.bool (p x), h)) : ∀ (n k : Nat), c.length < n + k → k ≤ c.length →
    (l_slices_IndexFunc_s_int_int_0 fuel d n [(0, .slice (lstI c)), (1, .func f caps), (7, .int .i64 (c.length : Int)), (8, .int .i64 (k : Int))] h).bind (fun q => k_slices_IndexFunc_s_int_int_0 fuel d q.1 q.2.1 q.2.2) = some (.int .i64 (idxF p (c.drop k) k), h) := by
  intro n
  induction n with
  | zero => intro k h1 h2; omega
  | succ n ih =>
    intro k h1 h2
    rw [l_slices_IndexFunc_s_int_int_0_eq]
    by_cases hk : k < c.length
    · rw [bif_pos (by omega), addr_lstM _ (by omega) (by omega) 0, drop_get hk 0]
      have hm : c.getD k 0 ∈ c := by rw [List.getD_eq_getElem?_getD, List.getElem?_eq_getElem hk]; exact List.getElem_mem hk
      simp only [Option.bind_some, cell_fp, int_int, Int.toNat_natCast, hp _ hm, bool_bool, idxF]
      cases hq : p (c.getD k 0) with
      | true => simp only [cond_true, Option.bind_some, k_slices_IndexFunc_s_int_int_0_r, if_true]
      | false =>
        simp only [cond_false, Bool.false_eq_true, if_false]
        rw [succI (by omega), ih (k + 1) (by omega) (by omega)]
    · have : k = c.length := by omega
      subst this
      rw [bif_neg (by omega)]
      simp [k_slices_IndexFunc_s_int_int_0_x0, idxF]

/-- .. one that has a row of the heap -/
theorem ContainsFunc_run (fuel d : Nat) {c : List Int} {f : Nat} {r : Ref} {lim : Nat} {p : Int → Bool} {h : AHeap} (hc : c.length < 1000000000) (hf : c.length < fuel) (hp : ∀ x ∈ c, run fuel d f [.int .i64 x, .ptr (.mk r lim)] h = some (.bool (p x), h)) :
    run fuel (d + 2) F_slices_ContainsFunc_s_int_int [.slice (lstI c), .func f [.mk r lim]] h = some (.bool (c.any p), h) := by
  have e1 : run fuel (d + 1) F_slices_IndexFunc_s_int_int [.slice (lstI c), .func f [.mk r lim]] h = some (.int .i64 (idxF p c 0), h) := by
    rw [run_body rfl (canonL_none2 rfl) (mapM_none2 rfl), e_slices_IndexFunc_s_int_int, len_lst]
    have := idx_loop fuel d (c := c) (f := f) (caps := [.mk r lim]) (p := p) (h := h) hc hp fuel 0 (by omega) (by omega)
    rw [List.drop_zero] at this
    exact this
  rw [run_body rfl (canonL_none2 rfl) (mapM_none2 rfl), e_slices_ContainsFunc_s_int_int, e1]
  simp only [Option.bind_some, int_int, idxF_any]

/-! lits.Check -/
theorem check_sum (fuel d : Nat) {p : Pt} {cc : List (List Int)} {h : AHeap} (hl : cc.length < 1000000000) : ∀ (n k a : Nat), cc.length < n + k → k ≤ cc.length → a + totalI (cc.drop k) < 1000000000000 →
    l_lits_Check_0 fuel d n [(1, .ptr p), (3, .int .i64 (a : Int)), (9, .slice (lstLL cc)), (10, .int .i64 (cc.length : Int)), (11, .int .i64 (k : Int))] h = some (.exit 0, [(1, .ptr p), (3, .int .i64 ((a + totalI (cc.drop k) : Nat) : Int))], h) := by
  intro n
  induction n with
  | zero => intro k a h1 h2; omega
  | succ n ih =>
    intro k a h1 h2 h3
    rw [l_lits_Check_0_eq]
    by_cases hk : k < cc.length
    · rw [bif_pos (by omega), addr_lstM _ (by omega) (by omega) []]
      rw [drop_get hk []] at h3 ⊢
      have e : totalI (cc.getD k [] :: cc.drop (k + 1)) = (cc.getD k []).length + totalI (cc.drop (k + 1)) := by simp [totalI]
      rw [e] at h3 ⊢
      simp only [Option.bind_some, cell_fp, slice_slice, Int.toNat_natCast, len_lst]
      rw [succI (by omega), show IntKind.wrap .i64 ((a : Int) + ((cc.getD k []).length : Int)) = ((a + (cc.getD k []).length : Nat) : Int) by rw [wrap64 (by omega) (by omega)]; omega]
      rw [ih (k + 1) (a + (cc.getD k []).length) (by omega) (by omega) (by omega)]
      rw [Nat.add_assoc]
    · have : k = cc.length := by omega
      subst this
      rw [bif_neg (by omega)]
      simp [totalI]

/-- The first clause that is not right. -/
def badI (vars : Int) : List (List Int) → Nat → Option Nat
  | [], _ => none
  | c :: cc, k => if (c.any fun l => !isI l vars) = true then some k else badI vars cc (k + 1)
/-- An error, and the place where it is. -/
abbrev atN (k : Nat) (e : AVal) : AVal := .iface T_p_api_At (.ptr (.fp 0 [.int .i64 (k : Int), e]))
def checkI (vars : Int) (cc : List (List Int)) : AVal :=
  if vars < 0 ∨ 4000 < vars ∨ 20000 < cc.length ∨ 80000 < totalI cc then err_api_ErrLimit else
  match badI vars cc 0 with
  | some k => atN k err_api_ErrRange
  | none => .nilif

theorem check_loop (fuel d : Nat) {vars : Int} {cc : List (List Int)} {r : Ref} {lim : Nat} {h : AHeap} (hv : freezeV h 8 (.ptr (.mk r lim)) = some (.ptr (.fp 0 (cnfC vars cc)))) (hl : cc.length < 1000000000) (hc : ∀ c ∈ cc, c.length < 1000000000 ∧ c.length < fuel) : ∀ (n k : Nat), cc.length < n + k → k ≤ cc.length →
    ∃ v h', (l_lits_Check_1 fuel (d + 4) n [(1, .ptr (.mk r lim)), (40, .slice (lstLL cc)), (41, .int .i64 (cc.length : Int)), (42, .int .i64 (k : Int))] h).bind (fun q => k_lits_Check_1 fuel (d + 4) q.1 q.2.1 q.2.2) = some (v, h') ∧
      freezeV h' 8 v = some (match badI vars (cc.drop k) k with | some k => atN k err_api_ErrRange | none => .nilif) := by
  intro n
  induction n with
  | zero => intro k h1 h2; omega
  | succ n ih =>
    intro k h1 h2
    rw [l_lits_Check_1_eq]
    by_cases hk : k < cc.length
    · rw [bif_pos (by omega), addr_lstM _ (by omega) (by omega) [], drop_get hk []]
      obtain ⟨c1, c2⟩ := hc (cc.getD k []) (by rw [List.getD_eq_getElem?_getD, List.getElem?_eq_getElem hk]; exact List.getElem_mem hk)
      have hcf := ContainsFunc_run fuel (d + 2) (c := cc.getD k []) (f := F_lits_Check_1) (r := r) (lim := lim) (p := fun l => !isI l vars) (h := h) c1 c2 (fun x hx => by
        refine run_val rfl rfl (mm2 rfl hv) (r := .bool (!isI x vars)) (h' := AHeap.none) ?_ rfl rfl
        rw [e_lits_Check_1]
        simp only [field_fp, cnfC, List.drop_zero, Option.bind_some, cell_fp, int_int, Is_run, bool_bool])
      simp only [Option.bind_some, cell_fp, slice_slice, Int.toNat_natCast, hcf, bool_bool, badI]
      cases hq : ((cc.getD k []).any fun l => !isI l vars) with
      | true =>
        simp only [cond_true, if_true]
        refine ⟨.iface T_p_api_At (.ptr (.mk ⟨h.next, 0, 0⟩ 2)), h.push 1 [.int .i64 (k : Int), err_api_ErrRange], k_lits_Check_1_r fuel (d + 4) _ _, ?_⟩
        have hz : freezeV (h.push 1 [.int .i64 (k : Int), err_api_ErrRange]) 7 (.ptr (.mk ⟨h.next, 0, 0⟩ 2)) = some (.ptr (.fp 0 [.int .i64 (k : Int), err_api_ErrRange])) :=
          (Own.push h 1 2 [.int .i64 (k : Int), err_api_ErrRange] rfl).freezePtr (m := 6) (l := 2) rfl (mm2 rfl rfl)
        rw [freeze_iface, hz]
        rfl
      | false =>
        simp only [cond_false, Bool.false_eq_true, if_false]
        rw [succI (by omega)]
        exact ih (k + 1) (by omega) (by omega)
    · have : k = cc.length := by omega
      subst this
      rw [bif_neg (by omega), List.drop_eq_nil_of_le (by omega)]
      exact ⟨.nilif, h, by simp only [Option.bind_some, k_lits_Check_1_x2], rfl⟩

theorem Check_body (fuel d : Nat) {vars : Int} {cc : List (List Int)} (hl : cc.length < 1000000000) (ht : totalI cc < 1000000000000) (hf : cc.length < fuel) (hc : ∀ c ∈ cc, c.length < 1000000000 ∧ c.length < fuel) :
    ∃ v h', brun fuel (d + 5) F_lits_Check [.agg (cnfC vars cc)] AHeap.none = some (v, h') ∧ freezeV h' 8 v = some (checkI vars cc) := by
  have hv : freezeV (AHeap.none.push 1 (cnfC vars cc)) 8 (.ptr (.mk ⟨AHeap.none.next, 0, 0⟩ 2)) = some (.ptr (.fp 0 (cnfC vars cc))) := by
    have hm : (cnfC vars cc).mapM (freezeV (AHeap.none.push 1 (cnfC vars cc)) 7) = some (cnfC vars cc) := mm2 rfl (freeze_lst _ _ _ (closedL_map closed_lstI cc))
    exact (Own.push AHeap.none 1 2 (cnfC vars cc) rfl).freezePtr (m := 7) rfl hm
  · rw [e_lits_Check, show List.all (cnfC vars cc) AVal.isCell = true from rfl, cond_true]
    have hlen : (cnfC vars cc).length = 2 := rfl
    simp only [hlen]
    have c1 : (AHeap.none.push 1 (cnfC vars cc)).cell (.mk ⟨AHeap.none.next, 0, 0 + 1⟩ 2) = some (.slice (lstLL cc)) := rfl
    have c0 : (AHeap.none.push 1 (cnfC vars cc)).cell (.mk ⟨AHeap.none.next, 0, 0 + 0⟩ 2) = some (.int .i64 vars) := rfl
    simp only [field_mk, Option.bind_some, c1, slice_slice]
    rw [len_lst]
    have hs := check_sum fuel (d + 4) (p := .mk ⟨AHeap.none.next, 0, 0⟩ 2) (cc := cc) (h := AHeap.none.push 1 (cnfC vars cc)) hl fuel 0 0 (by omega) (by omega) (by rw [List.drop_zero, Nat.zero_add]; exact ht)
    rw [List.drop_zero, Nat.zero_add, show ((0 : Nat) : Int) = 0 from rfl] at hs
    rw [hs]
    simp only [Option.bind_some, k_lits_Check_0_x0, field_mk, c0, int_int]
    unfold checkI
    by_cases h1 : vars < 0
    · rw [if_pos (.inl h1), decide_eq_true h1]
      exact ⟨_, _, rfl, rfl⟩
    · rw [decide_eq_false h1]
      simp only [beq_self_eq_true, cond_true, Option.bind_some, bool_bool]
      by_cases h2 : 4000 < vars
      · rw [if_pos (.inr (.inl h2)), decide_eq_true h2]
        exact ⟨_, _, rfl, rfl⟩
      · rw [decide_eq_false h2]
        simp only [beq_self_eq_true, cond_true, Option.bind_some, bool_bool, c1, slice_slice]
        rw [len_lst]
        by_cases h3 : 20000 < cc.length
        · rw [if_pos (.inr (.inr (.inl h3))), decide_eq_true (by omega)]
          exact ⟨_, _, rfl, rfl⟩
        · rw [decide_eq_false (by omega), cond_false]
          by_cases h4 : 80000 < totalI cc
          · rw [if_pos (.inr (.inr (.inr h4))), bif_pos (by omega)]
            exact ⟨_, _, rfl, rfl⟩
          · rw [if_neg (by omega), bif_neg (by omega)]
            have := check_loop fuel d hv hl hc fuel 0 (by omega) (by omega)
            rw [List.drop_zero] at this
            exact this
theorem Check_run (fuel d : Nat) {vars : Int} {cc : List (List Int)} (hl : cc.length < 1000000000) (ht : totalI cc < 1000000000000) (hf : cc.length < fuel) (hc : ∀ c ∈ cc, c.length < 1000000000 ∧ c.length < fuel) {h : AHeap} {x : AVal} (hx : freezeV h 8 x = some (.agg (cnfC vars cc))) (hfl : (checkI vars cc).flat = true) :
    run fuel (d + 5) F_lits_Check [x] h = some (checkI vars cc, h) := by
  obtain ⟨v, h', e1, e2⟩ := Check_body fuel d hl ht hf hc (vars := vars)
  exact run_val rfl rfl (mm1 hx) e1 e2 hfl
theorem Check_any (fuel d : Nat) {vars : Int} {cc : List (List Int)} (hl : cc.length < 1000000000) (ht : totalI cc < 1000000000000) (hf : cc.length < fuel) (hc : ∀ c ∈ cc, c.length < 1000000000 ∧ c.length < fuel) {h : AHeap} {x : AVal} (hx : freezeV h 8 x = some (.agg (cnfC vars cc))) :
    ∃ ids, run fuel (d + 5) F_lits_Check [x] h = some (checkI vars cc, h.markRo ids) := by
  obtain ⟨v, h', e1, e2⟩ := Check_body fuel d hl ht hf hc (vars := vars)
  exact run_any rfl rfl (mm1 hx) e1 e2

theorem badI_none {vars : Int} : ∀ {cc : List (List Int)} (k : Nat), (∀ c ∈ cc, ∀ l ∈ c, isI l vars = true) → badI vars cc k = none
  | [], _, _ => rfl
  | c :: cc, k, h => by
    unfold badI
    have : (c.any fun l => !isI l vars) = false := by
      rw [List.any_eq_false]
      intro l hl
      rw [h c (List.mem_cons_self ..) l hl]
      simp
    rw [this, if_neg (by simp)]
    exact badI_none (k + 1) fun b hb => h b (List.mem_cons_of_mem _ hb)
theorem checkI_nil {vars : Int} {cc : List (List Int)} (h0 : 0 ≤ vars) (h1 : vars ≤ 4000) (h2 : cc.length ≤ 20000) (h3 : totalI cc ≤ 80000) (h4 : ∀ c ∈ cc, ∀ l ∈ c, isI l vars = true) : checkI vars cc = .nilif := by
  unfold checkI
  rw [if_neg (by omega), badI_none 0 h4]

end Go.Proofs.YtnkbhbkfbigbiaaDoor
