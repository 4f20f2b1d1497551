/-
  skolemmake.Clauses, skolemmake.CNF; skolemref1.Of.
-/
import Derived.Test.YthccobceodgmlaaDoorS1
import Derived.Test.YthccobceodgmlaaDoorBm31
namespace Go.Proofs.YthccobceodgmlaaDoor
open Go.RowKit

/-! skolemmake.Clauses -/
def clLit (n vars : Int) : Int := litI (IntKind.wrap .i64 (Int.tdiv (numI n 1099511627776) 7)) vars
def clCut (n : Int) (c : List Int) : Bool := (decide (numI n 7 = 0) && decide (0 < c.length)) || decide (5 ≤ c.length)
def clGo (vars : Int) : List Int → List (List Int) → List Int → List (List Int)
  | [], cc, c => if c = [] then cc else cc ++ [c]
  | n :: l, cc, c => if clCut n c = true then clGo vars l (cc ++ [c]) [clLit n vars] else clGo vars l cc (c ++ [clLit n vars])
def clausesI (l : List Int) (vars : Int) : List (List Int) := if vars < 1 then [] else clGo vars l [] []

abbrev gridC (cc : List (List Int)) : List AVal := cc.map fun c => .slice (lstI c)
theorem gridC_append (a b : List (List Int)) : gridC (a ++ b) = gridC a ++ gridC b := List.map_append
theorem intsC_append (a b : List Int) : intsC (a ++ b) = intsC a ++ intsC b := List.map_append

theorem clauses_loop (fuel d : Nat) {l : List Int} {vars : Int} (hv : 0 < vars) (hv' : vars ≤ 1000000) (hl : l.length < 1000000) {h0 : AHeap} : ∀ (n k : Nat) (cc : List (List Int)) (c : List Int) (s5 s6 : Sl) (h : AHeap), l.length < n + k → k ≤ l.length → cc.length ≤ k → c.length ≤ k →
    Sep0 h0 h [.grown 1 s5 (gridC cc), .grown 1 s6 (intsC c)] →
    ∃ s' h', (l_skolemmake_Clauses_0 fuel (d + 2) n [(0, .slice (lstI l)), (1, .int .i64 vars), (5, .slice s5), (6, .slice s6), (7, .int .i64 (k : Int))] h).bind (fun p => k_skolemmake_Clauses_0 fuel (d + 2) p.1 p.2.1 p.2.2) = some (.slice s', h') ∧
      New h0 h' (.grown 1 s' (gridC (clGo vars (l.drop k) cc c))) := by
  intro n
  induction n with
  | zero => intro k cc c s5 s6 h h1 h2; omega
  | succ n ih =>
    intro k cc c s5 s6 h h1 h2 h3 h4 hs
    have l5 := hs.len (i := 0) rfl
    have l6 := hs.len (i := 1) rfl
    simp only [List.length_map, Nat.mul_one] at l5 l6
    rw [l_skolemmake_Clauses_0_eq, len_lst]
    by_cases hk : k < l.length
    · rw [bif_pos (by omega), drop_get hk 0, addr_lstM _ (by omega) (by omega) 0]
      simp only [Option.bind_some, cell_fp, int_int, Int.toNat_natCast, Number_run fuel (d + 1) (show (7 : Int) ≠ 0 by decide), ← l6]
      have hcut : (bif (bif decide (numI (l.getD k 0) 7 = 0) then decide ((0 : Int) < (c.length : Int)) else false) then true else decide ((5 : Int) ≤ (c.length : Int))) = clCut (l.getD k 0) c := by
        unfold clCut
        have e1 : decide ((0 : Int) < (c.length : Int)) = decide (0 < c.length) := by congr 1; simp
        have e2 : decide ((5 : Int) ≤ (c.length : Int)) = decide (5 ≤ c.length) := by congr 1; simp; omega
        rw [e1, e2]
        cases decide (numI (l.getD k 0) 7 = 0) <;> cases decide (0 < c.length) <;> cases decide (5 ≤ c.length) <;> rfl
      rw [hcut]
      simp only [clGo]
      have step : ∀ (cc : List (List Int)) (c : List Int) (s5 s6 : Sl) (h : AHeap), cc.length ≤ k + 1 → c.length ≤ k → Sep0 h0 h [.grown 1 s5 (gridC cc), .grown 1 s6 (intsC c)] →
          ∃ s' h', (k_skolemmake_Clauses_1 fuel (d + 2) n .normal [(0, .slice (lstI l)), (1, .int .i64 vars), (5, .slice s5), (6, .slice s6), (7, .int .i64 (k : Int))] h).bind (fun p => k_skolemmake_Clauses_0 fuel (d + 2) p.1 p.2.1 p.2.2) = some (.slice s', h') ∧
            New h0 h' (.grown 1 s' (gridC (clGo vars (l.drop (k + 1)) cc (c ++ [clLit (l.getD k 0) vars])))) := by
        intro cc c s5 s6 h h3 h4 hs
        have l6 := hs.len (i := 1) rfl
        simp only [List.length_map, Nat.mul_one] at l6
        obtain ⟨s', h', e1, e2, e3⟩ := hs.grow (i := 1) (bytes := 8) (m := 1) (vs := [.int .i64 (clLit (l.getD k 0) vars)]) rfl rfl (by omega) (by omega)
        rw [k_skolemmake_Clauses_1_n, addr_lstM _ (by omega) (by omega) 0]
        simp only [Option.bind_some, cell_fp, int_int, Int.toNat_natCast, Number_run fuel (d + 1) (show (1099511627776 : Int) ≠ 0 by decide)]
        rw [Lit_run fuel d hv hv']
        have e1' : AHeap.append h false 1 8 s6 1 [.int .i64 (litI (IntKind.wrap .i64 (Int.tdiv (numI (l.getD k 0) 1099511627776) 7)) vars)] = some (s', h') := e1
        simp only [Option.bind_some, int_int, e1']
        rw [succI (by omega)]
        refine ih (k + 1) cc (c ++ [clLit (l.getD k 0) vars]) s5 s' h' (by omega) (by omega) (by omega) (by simp; omega) ?_
        rw [intsC_append]
        exact e2
      cases hc : clCut (l.getD k 0) c with
      | true =>
        obtain ⟨h5, f1, f2⟩ := hs.fix (i := 1) (sz := 1) (s := s6) (cs := intsC c) rfl (closedL_map (fun _ => rfl) c) 1
        obtain ⟨s', h', e1, e2, e3⟩ := f2.grow (i := 0) (sz := 1) (s := s5) (cs := gridC cc) (bytes := 24) (m := 1) (vs := [.slice (lstI c)]) rfl rfl (by omega) (by omega)
        have hfx : h.fixL [.slice s6] = ([.slice (lstI c)], h5) := by rw [fixL_one, f1, ← l6]
        simp only [cond_true, hfx, e1, Option.bind_some, if_true]
        exact step (cc ++ [c]) [] s' .nil h' (by simp; omega) (by simp) (by rw [gridC_append]; exact e2)
      | false =>
        simp only [cond_false, Option.bind_some, Bool.false_eq_true, if_false]
        exact step cc c s5 s6 h (by omega) h4 hs
    · have : k = l.length := by omega
      subst this
      rw [bif_neg (by omega), List.drop_eq_nil_of_le (by omega)]
      simp only [Option.bind_some, k_skolemmake_Clauses_0_x0, clGo, ← l6]
      by_cases h0 : c = []
      · subst h0
        rw [bif_neg (by simp)]
        exact ⟨s5, h, rfl, hs.get (i := 0) rfl⟩
      · have : 0 < c.length := List.length_pos_iff.2 h0
        rw [bif_pos (by omega), if_neg h0]
        obtain ⟨h5, f1, f2⟩ := hs.fix (i := 1) (sz := 1) (s := s6) (cs := intsC c) rfl (closedL_map (fun _ => rfl) c) 1
        obtain ⟨s', h', e1, e2, e3⟩ := f2.grow (i := 0) (sz := 1) (s := s5) (cs := gridC cc) (bytes := 24) (m := 1) (vs := [.slice (lstI c)]) rfl rfl (by omega) (by omega)
        have hfx : h.fixL [.slice s6] = ([.slice (lstI c)], h5) := by rw [fixL_one, f1, ← l6]
        simp only [hfx, e1, Option.bind_some]
        refine ⟨s', h', rfl, ?_⟩
        rw [gridC_append]
        exact e2.get (i := 0) rfl

theorem freeze_gridC {h : AHeap} (n : Nat) (cc : List (List Int)) : (gridC cc).mapM (freezeV h (n + 1)) = some (gridC cc) := mapM_freeze (g := fun c => .slice (lstI c)) (fun c => freeze_lstI n c) cc

theorem Clauses_body (fuel d : Nat) {l : List Int} {vars : Int} (hv' : vars ≤ 1000000) (hl : l.length < 1000000) (hf : l.length < fuel) (h : AHeap) :
    ∃ s h', (bif (decide (vars < (1 : Int))) then (some ((AVal.slice Sl.nil), h)) else ((l_skolemmake_Clauses_0 fuel (d + 2) fuel [(0, (AVal.slice (lstI l))), (1, (AVal.int .i64 vars)), (5, (AVal.slice Sl.nil)), (6, (AVal.slice Sl.nil)), (7, (AVal.int .i64 (0 : Int)))] h).bind fun p1 => k_skolemmake_Clauses_0 fuel (d + 2) p1.1 p1.2.1 p1.2.2)) = some (.slice s, h') ∧ New h h' (.grown 1 s (gridC (clausesI l vars))) := by
  unfold clausesI
  by_cases hv : vars < 1
  · rw [bif_pos hv, if_pos hv]
    exact ⟨_, _, rfl, Keeps.refl _ _, .nil, fun r hr => by cases hr⟩
  · rw [bif_neg hv, if_neg hv]
    obtain ⟨s', h', e1, e2⟩ := clauses_loop fuel d (l := l) (vars := vars) (by omega) hv' hl (h0 := h) fuel 0 [] [] .nil .nil h (by omega) (by omega) (by simp) (by simp) ((((Sep0.start h).addNil 1).addNil 1))
    rw [show ((0 : Nat) : Int) = 0 from rfl] at e1
    rw [List.drop_zero] at e2
    exact ⟨s', h', e1, e2⟩

/-! A CNF's cells. -/
def cnfC (vars : Int) (cc : List (List Int)) : List AVal := [.int .i64 vars, .slice (lstLL cc)]
theorem freeze_cnf {h : AHeap} (n : Nat) (vars : Int) (cc : List (List Int)) : freezeV h (n + 2) (.agg (cnfC vars cc)) = some (.agg (cnfC vars cc)) :=
  freeze_agg _ (mm2 rfl (freeze_lst _ _ _ (closedL_map closed_lstI cc)))
/-! The clauses are right; how long they are. -/
theorem clGo_lits {vars : Int} (hv : 0 < vars) (hv' : vars ≤ 1000000) : ∀ (l : List Int) (cc : List (List Int)) (c : List Int), (∀ b ∈ cc, ∀ x ∈ b, x ≠ 0 ∧ -vars ≤ x ∧ x ≤ vars) → (∀ x ∈ c, x ≠ 0 ∧ -vars ≤ x ∧ x ≤ vars) → ∀ b ∈ clGo vars l cc c, ∀ x ∈ b, x ≠ 0 ∧ -vars ≤ x ∧ x ≤ vars
  | [], cc, c, h1, h2 => by
    unfold clGo
    split
    · exact h1
    · intro b hb
      rcases List.mem_append.1 hb with hb | hb
      · exact h1 b hb
      · rw [List.mem_singleton.1 hb]; exact h2
  | n :: l, cc, c, h1, h2 => by
    have hl : clLit n vars ≠ 0 ∧ -vars ≤ clLit n vars ∧ clLit n vars ≤ vars := litI_range hv hv'
    unfold clGo
    split
    · refine clGo_lits hv hv' l _ _ (fun b hb => ?_) fun x hx => by rw [List.mem_singleton.1 hx]; exact hl
      rcases List.mem_append.1 hb with hb | hb
      · exact h1 b hb
      · rw [List.mem_singleton.1 hb]; exact h2
    · refine clGo_lits hv hv' l _ _ h1 fun x hx => ?_
      rcases List.mem_append.1 hx with hx | hx
      · exact h2 x hx
      · rw [List.mem_singleton.1 hx]; exact hl
theorem clausesI_lits {vars : Int} (hv' : vars ≤ 1000000) (l : List Int) : ∀ b ∈ clausesI l vars, ∀ x ∈ b, x ≠ 0 ∧ -vars ≤ x ∧ x ≤ vars := by
  unfold clausesI
  split
  · intro b hb; cases hb
  · exact clGo_lits (by omega) hv' l [] [] (fun b h => by cases h) fun x h => by cases h
def totalI (cc : List (List Int)) : Nat := (cc.map List.length).sum
theorem clGo_total {vars : Int} : ∀ (l : List Int) (cc : List (List Int)) (c : List Int), totalI (clGo vars l cc c) = totalI cc + c.length + l.length
  | [], cc, c => by
    unfold clGo totalI
    split
    · rename_i h; subst h; simp
    · simp
  | n :: l, cc, c => by
    unfold clGo
    split
    · rw [clGo_total l]; simp [totalI]; omega
    · rw [clGo_total l]; simp; omega
theorem clGo_full {vars : Int} : ∀ (l : List Int) (cc : List (List Int)) (c : List Int), (∀ b ∈ cc, b ≠ []) → ∀ b ∈ clGo vars l cc c, b ≠ []
  | [], cc, c, h => by
    unfold clGo
    split
    · exact h
    · rename_i h0
      intro b hb
      rcases List.mem_append.1 hb with hb | hb
      · exact h b hb
      · rw [List.mem_singleton.1 hb]; exact h0
  | n :: l, cc, c, h => by
    unfold clGo
    split
    · rename_i hc
      refine clGo_full l _ _ fun b hb => ?_
      rcases List.mem_append.1 hb with hb | hb
      · exact h b hb
      · rw [List.mem_singleton.1 hb]
        rintro rfl
        simp [clCut] at hc
    · exact clGo_full l _ _ h
theorem total_bound : ∀ {cc : List (List Int)}, (∀ b ∈ cc, b ≠ []) → cc.length ≤ totalI cc ∧ ∀ b ∈ cc, b.length ≤ totalI cc
  | [], _ => ⟨Nat.le_refl _, fun b h => by cases h⟩
  | c :: cc, h => by
    obtain ⟨h1, h2⟩ := total_bound (cc := cc) fun b hb => h b (List.mem_cons_of_mem _ hb)
    have h0 := List.length_pos_iff.2 (h c (List.mem_cons_self ..))
    have e : totalI (c :: cc) = c.length + totalI cc := by simp [totalI]
    refine ⟨by rw [e, List.length_cons]; omega, fun b hb => ?_⟩
    rcases List.mem_cons.1 hb with rfl | hb
    · omega
    · have := h2 b hb; omega
theorem clausesI_size (l : List Int) (vars : Int) : (clausesI l vars).length ≤ l.length ∧ totalI (clausesI l vars) ≤ l.length ∧ ∀ b ∈ clausesI l vars, b.length ≤ l.length := by
  unfold clausesI
  split
  · exact ⟨by simp, by simp [totalI], fun b h => by cases h⟩
  · have e := clGo_total (vars := vars) l [] []
    simp only [totalI, List.map_nil, List.sum_nil, List.length_nil, Nat.zero_add] at e
    obtain ⟨h1, h2⟩ := total_bound (clGo_full (vars := vars) l [] [] fun b h => by cases h)
    unfold totalI at h1 h2
    exact ⟨by omega, by unfold totalI; omega, fun b hb => by have := h2 b hb; omega⟩

end Go.Proofs.YthccobceodgmlaaDoor
