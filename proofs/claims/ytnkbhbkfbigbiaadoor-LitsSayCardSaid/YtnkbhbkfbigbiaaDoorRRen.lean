/-
  skolemref1.Rename, Is, CheckCNF; skolemmake.NearAll, Count.
-/
import Derived.Test.YtnkbhbkfbigbiaaDoorLrn
import Derived.Test.YtnkbhbkfbigbiaaDoorRNor
import Derived.Test.YtnkbhbkfbigbiaaDoorS8
import Derived.Test.YtnkbhbkfbigbiaaDoorSee
namespace Go.Proofs.YtnkbhbkfbigbiaaDoor
open Go.RowKit

/-! skolemref1.Rename -/
theorem ren1_ok {b : List Int} {x : Int} (hx : okInt x) : ((b.length : Int) ≤ x ∨ (b.length : Int) ≤ -x ∨ x = -x) ↔ (varI x < 1 ∨ (b.length : Int) ≤ varI x) := by
  rw [varI_eq hx]; omega
theorem drop_getD {α : Type} {l : List α} {j : Nat} (d : α) (hj : j < l.length) : l.drop j = l.getD j d :: l.drop (j + 1) := by
  rw [List.drop_eq_getElem_cons hj]; simp [List.getD, hj]
theorem or3 (p q r : Prop) [Decidable p] [Decidable q] [Decidable r] : (bif (bif decide p then true else decide q) then true else decide r) = decide (p ∨ q ∨ r) := by
  by_cases h1 : p <;> by_cases h2 : q <;> by_cases h3 : r <;> simp [h1, h2, h3]
theorem rren_loop (fuel d : Nat) {c b : List Int} (hn : c.length < 1000000000) (hok : ∀ x ∈ c, okInt x) : ∀ (n k : Nat) (s : Sl) (acc : List Int) (h : AHeap), c.length < n + k → k ≤ c.length → acc.length = k → Grown h 1 s (intsC acc) →
    ∃ s' h', (l_skolemref1_Rename_0 fuel (d + 1) n [(0, .slice (lstI c)), (1, .slice (lstI b)), (6, .slice s), (7, .int .i64 (k : Int))] h).bind (fun p => k_skolemref1_Rename_0 fuel (d + 1) p.1 p.2.1 p.2.2) =
      some (.tup [.slice s', .bool (renameL b (c.drop k)).isSome], h') ∧ Grown h' 1 s' (intsC (match renameL b (c.drop k) with | some r => acc ++ r | none => [])) := by
  intro n
  induction n with
  | zero => intro k s acc h h1 h2; omega
  | succ n ih =>
    intro k s acc h h1 h2 h3 hg
    have hl := hg.len
    simp only [List.length_map, Nat.mul_one] at hl
    rw [l_skolemref1_Rename_0_eq, len_lst, len_lst]
    by_cases hk : k < c.length
    · rw [bif_pos (by omega), addr_lstM _ (by omega) (by omega) 0]
      simp only [Option.bind_some, cell_fp, int_int, Int.toNat_natCast]
      have hd : c.drop k = c.getD k 0 :: c.drop (k + 1) := by rw [List.drop_eq_getElem_cons hk]; simp [List.getD, hk]
      have hx : okInt (c.getD k 0) := hok _ (by simp [List.getD, hk])
      rw [hd, show renameL b (c.getD k 0 :: c.drop (k + 1)) = renC (ren1 b (c.getD k 0)) (renameL b (c.drop (k + 1))) from rfl]
      generalize c.getD k 0 = x at hx
      have hw : IntKind.wrap .i64 (0 - x) = -x := by obtain ⟨h1, h2⟩ := hx; rw [wrap64 (by omega) (by omega)]; omega
      have hcond : (bif (bif (decide ((b.length : Int) ≤ x)) then true else (decide ((b.length : Int) ≤ IntKind.wrap .i64 (0 - x)))) then true else (decide (x = IntKind.wrap .i64 (0 - x)))) = decide (varI x < 1 ∨ (b.length : Int) ≤ varI x) := by
        rw [hw, or3]; exact decide_eq_decide.2 (ren1_ok hx)
      rw [hcond]
      by_cases h4 : varI x < 1 ∨ (b.length : Int) ≤ varI x
      · have hr : ren1 b x = none := by unfold ren1; rw [if_pos h4]
        rw [decide_eq_true h4, hr]
        simp only [cond_true, Option.bind_some, k_skolemref1_Rename_0_r]
        exact ⟨.nil, h, rfl, .nil⟩
      · rw [decide_eq_false h4, cond_false, Abs_run fuel d hx]
        simp only [Option.bind_some, int_int]
        rw [addr_lstM _ (by omega) (by omega) 0]
        simp only [Option.bind_some, cell_fp, int_int]
        by_cases h6 : b.getD (varI x).toNat 0 = 0
        · have hr : ren1 b x = none := by unfold ren1; rw [if_neg h4, if_pos h6]
          rw [bif_pos h6, hr]
          simp only [Option.bind_some, k_skolemref1_Rename_0_r]
          exact ⟨.nil, h, rfl, .nil⟩
        · have hr : ren1 b x = some (if x < 0 then IntKind.wrap .i64 (0 - b.getD (varI x).toNat 0) else b.getD (varI x).toNat 0) := by unfold ren1; rw [if_neg h4, if_neg h6]
          rw [bif_neg h6, hr]
          simp only [renC]
          have step : ∀ z : Int, ∃ s' h', (k_skolemref1_Rename_1 fuel (d + 1) n .normal [(0, .slice (lstI c)), (1, .slice (lstI b)), (6, .slice s), (7, .int .i64 (k : Int)), (9, .int .i64 z)] h).bind (fun p => k_skolemref1_Rename_0 fuel (d + 1) p.1 p.2.1 p.2.2) =
              some (.tup [.slice s', .bool ((renameL b (c.drop (k + 1))).map (z :: ·)).isSome], h') ∧ Grown h' 1 s' (intsC (match (renameL b (c.drop (k + 1))).map (z :: ·) with | some r => acc ++ r | none => [])) := by
            intro z
            rw [k_skolemref1_Rename_1_n]
            obtain ⟨s', h', e1, e2, e3⟩ := hg.snoc (bytes := 8) (vs := [.int .i64 z]) rfl (by omega) (by omega)
            rw [e1]
            simp only [Option.bind_some]
            rw [succI (by omega)]
            obtain ⟨s2, h2, q1, q2⟩ := ih (k + 1) s' (acc ++ [z]) h' (by omega) (by omega) (by simp; omega) (by simpa using e2)
            refine ⟨s2, h2, ?_, ?_⟩
            · rw [q1]
              cases renameL b (c.drop (k + 1)) <;> rfl
            · cases hm : renameL b (c.drop (k + 1)) with
              | none => rw [hm] at q2; exact q2
              | some r => rw [hm] at q2; simpa using q2
          by_cases h7 : x < 0
          · rw [bif_pos h7, if_pos h7]
            exact step _
          · rw [bif_neg h7, if_neg h7]
            exact step _
    · have : k = c.length := by omega
      subst this
      rw [bif_neg (by omega)]
      rw [List.drop_length, show renameL b [] = some [] from rfl]
      simp only [Option.bind_some, k_skolemref1_Rename_0_x0]
      refine ⟨s, h, rfl, ?_⟩
      rw [List.append_nil]
      exact hg
theorem rren_run (fuel d : Nat) {c b : List Int} (hn : c.length < 1000000000) (hf : c.length < fuel) (hok : ∀ x ∈ c, okInt x) (h : AHeap) :
    run fuel (d + 2) F_skolemref1_Rename [.slice (lstI c), .slice (lstI b)] h = some (.tup [.slice (lstI ((renameL b c).getD [])), .bool (renameL b c).isSome], h) := by
  obtain ⟨s', h', e1, e2⟩ := rren_loop fuel d (b := b) hn hok fuel 0 .nil [] AHeap.none (by omega) (by omega) rfl .nil
  refine pure_of rfl rfl (cc2 (canon_lstI 7 c) (canon_lstI 7 b)) (r := .tup [.slice s', .bool (renameL b c).isSome]) (h' := h') ?_ ?_
  · rw [e_skolemref1_Rename]
    rw [show ((0 : Nat) : Int) = 0 from rfl] at e1
    exact e1
  · rw [List.drop_zero] at e2
    replace e2 : Grown h' 1 s' (intsC ((renameL b c).getD [])) := by cases hh : renameL b c <;> rw [hh] at e2 <;> exact e2
    refine freeze_tup2 _ ?_ (freeze_bool _ _)
    rw [e2.freeze (n := 6) (by omega) (freeze_intsC 5 _)]
    have := e2.len
    simp only [List.length_map, Nat.mul_one] at this
    rw [← this]
theorem rename_canon (fuel d : Nat) {c b : List Int} (hn : c.length < 1000000000) (hf : c.length < fuel) (h : AHeap) :
    run fuel (d + 2) F_lits_Rename [.slice (lstI c), .slice (lstI b)] h = some (.tup [.slice (lstI ((renameL b c).getD [])), .bool (renameL b c).isSome], h) := by
  obtain ⟨s', h', e1, e2⟩ := rename_loop fuel d (b := b) hn fuel 0 (.mk ⟨AHeap.none.next, 0, 0⟩ 0 (eqI (0 : Int) ((c.length : Nat) : Int))) [] (AHeap.none.push 1 []) (by omega) (by omega) rfl (Grown.make 1 _)
  refine pure_of rfl rfl (cc2 (canon_lstI 7 c) (canon_lstI 7 b)) (r := .tup [.slice s', .bool (renameL b c).isSome]) (h' := h') ?_ ?_
  · rw [e_lits_Rename, len_lst, cond_pos _ _ (mk0_ok (by omega) (by omega) (by omega))]
    rw [show ((0 : Nat) : Int) = 0 from rfl] at e1
    exact e1
  · rw [List.drop_zero] at e2
    replace e2 : Grown h' 1 s' (intsC ((renameL b c).getD [])) := by cases hh : renameL b c <;> rw [hh] at e2 <;> exact e2
    refine freeze_tup2 _ ?_ (freeze_bool _ _)
    rw [e2.freeze (n := 6) (by omega) (freeze_intsC 5 _)]
    have := e2.len
    simp only [List.length_map, Nat.mul_one] at this
    rw [← this]

/-! skolemref1.Is -/
theorem RIs_run (fuel d : Nat) (l n : Int) (h : AHeap) : run fuel (d + 1) F_skolemref1_Is [.int .i64 l, .int .i64 n] h = some (.bool (isI l n), h) := by
  refine pure_of rfl rfl (cc2 rfl rfl) (r := .bool (isI l n)) (h' := AHeap.none) ?_ rfl
  rw [e_skolemref1_Is]
  unfold isI
  cases decide (l = 0) <;> cases decide (l ≤ n) <;> cases decide (IntKind.wrap .i64 (0 - n) ≤ l) <;> rfl

/-! skolemmake.NearAll, Count -/
theorem nearAll_loop (fuel d : Nat) {cc : List (List Int)} (hl : cc.length < 9000000000000000000) (hc : ∀ c ∈ cc, c.length < 9000000000000000000 ∧ c.length < fuel) {h : AHeap} : ∀ (n k : Nat), cc.length < n + k → k ≤ cc.length →
    (l_skolemmake_NearAll_0 fuel (d + 1) n [(0, .slice (lstLL cc)), (3, .int .i64 (k : Int))] h).bind (fun p => k_skolemmake_NearAll_0 fuel (d + 1) p.1 p.2.1 p.2.2) = some (.bool ((cc.drop k).all nearI), h) := by
  intro n
  induction n with
  | zero => intro k h1 h2; omega
  | succ n ih =>
    intro k h1 h2
    rw [l_skolemmake_NearAll_0_eq, len_lst]
    by_cases hk : k < cc.length
    · rw [bif_pos (by omega), addr_lstM _ (by omega) (by omega) []]
      have hd : cc.drop k = cc.getD k [] :: cc.drop (k + 1) := by rw [List.drop_eq_getElem_cons hk]; simp [List.getD, hk]
      obtain ⟨c1, c2⟩ := hc (cc.getD k []) (by simp [List.getD, hk])
      simp only [Option.bind_some, cell_fp, slice_slice, Int.toNat_natCast]
      rw [near_run fuel d (freeze_lstI 7 _) c1 c2, hd, List.all_cons]
      simp only [Option.bind_some, bool_bool]
      cases hn : nearI (cc.getD k []) with
      | true =>
        simp only [Bool.not_true, cond_false, Bool.true_and]
        rw [succI (by omega)]
        exact ih (k + 1) (by omega) (by omega)
      | false =>
        simp only [Bool.not_false, cond_true, Option.bind_some, k_skolemmake_NearAll_0_r, Bool.false_and]
    · have : k = cc.length := by omega
      subst this
      rw [bif_neg (by omega)]
      simp only [Option.bind_some, k_skolemmake_NearAll_0_x0, List.drop_length, List.all_nil]
theorem nearAll_run (fuel d : Nat) {cc : List (List Int)} (hl : cc.length < 9000000000000000000) (hf : cc.length < fuel) (hc : ∀ c ∈ cc, c.length < 9000000000000000000 ∧ c.length < fuel) {h : AHeap} {s : Sl} (hs : freezeV h 8 (.slice s) = some (.slice (lstLL cc))) :
    run fuel (d + 2) F_skolemmake_NearAll [.slice s] h = some (.bool (cc.all nearI), h) := by
  refine run_val rfl rfl (mm1 hs) (r := .bool (cc.all nearI)) (h' := AHeap.none) ?_ rfl rfl
  rw [e_skolemmake_NearAll]
  have := nearAll_loop fuel d hl hc (h := AHeap.none) fuel 0 (by omega) (by omega)
  rw [List.drop_zero] at this
  exact this
theorem count_loop (fuel d : Nat) {cc : List (List Int)} (hl : cc.length < 9000000000000000000) {h : AHeap} : ∀ (n k a : Nat), cc.length < n + k → k ≤ cc.length → a + totalI (cc.drop k) < 9000000000000000000 →
    l_skolemmake_Count_0 fuel d n [(0, .slice (lstLL cc)), (3, .int .i64 (a : Int)), (4, .int .i64 (k : Int))] h = some (.exit 0, [(3, .int .i64 ((a + totalI (cc.drop k) : Nat) : Int))], h) := by
  intro n
  induction n with
  | zero => intro k a h1 h2; omega
  | succ n ih =>
    intro k a h1 h2 h3
    rw [l_skolemmake_Count_0_eq, len_lst]
    by_cases hk : k < cc.length
    · have hd : cc.drop k = cc.getD k [] :: cc.drop (k + 1) := by rw [List.drop_eq_getElem_cons hk]; simp [List.getD, hk]
      have ht : totalI (cc.drop k) = (cc.getD k []).length + totalI (cc.drop (k + 1)) := by rw [hd]; simp [totalI]
      rw [bif_pos (by omega), addr_lstM _ (by omega) (by omega) []]
      simp only [Option.bind_some, cell_fp, slice_slice, Int.toNat_natCast, len_lst]
      rw [wrap64 (n := (a : Int) + _) (by omega) (by omega), succI (by omega), show (a : Int) + ((cc.getD k []).length : Int) = ((a + (cc.getD k []).length : Nat) : Int) from by omega, ih (k + 1) _ (by omega) (by omega) (by omega), ht, Nat.add_assoc]
    · have : k = cc.length := by omega
      subst this
      rw [bif_neg (by omega), List.drop_length]
      rfl
theorem count_run (fuel d : Nat) {cc : List (List Int)} (hl : cc.length < 9000000000000000000) (hf : cc.length < fuel) (ht : totalI cc < 9000000000000000000) {h : AHeap} {s : Sl} (hs : freezeV h 8 (.slice s) = some (.slice (lstLL cc))) :
    run fuel (d + 1) F_skolemmake_Count [.slice s] h = some (.int .i64 (totalI cc : Int), h) := by
  refine run_val rfl rfl (mm1 hs) (r := .int .i64 (totalI cc : Int)) (h' := AHeap.none) ?_ rfl rfl
  have := count_loop fuel d hl (h := AHeap.none) fuel 0 0 (by omega) (by omega) (by rw [List.drop_zero]; omega)
  rw [List.drop_zero, Nat.zero_add, show ((0 : Nat) : Int) = 0 from rfl] at this
  rw [e_skolemmake_Count, this]
  simp only [Option.bind_some, k_skolemmake_Count_0_x0]

/-! skolemref1.CheckCNF -/
/-- the fault of clauses, as cells -/
def faultI (vars : Int) (cc : List (List Int)) : List AVal :=
  if vars < 0 ∨ 4000 < vars ∨ 20000 < cc.length ∨ 80000 < totalI cc then faultC 102 false 0 else
  match badI vars cc 0 with
  | some k => faultC 104 true (k : Int)
  | none => faultC 0 false 0
theorem checkI_fault (vars : Int) (cc : List (List Int)) : ∃ c p x, faultI vars cc = faultC c p x ∧ IsFault (checkI vars cc) c p x := by
  unfold faultI checkI
  by_cases h : vars < 0 ∨ 4000 < vars ∨ 20000 < cc.length ∨ 80000 < totalI cc
  · rw [if_pos h, if_pos h]
    exact ⟨102, false, 0, rfl, IsFault.bare (j := 1) (by omega)⟩
  · rw [if_neg h, if_neg h]
    cases badI vars cc 0 with
    | none => exact ⟨0, false, 0, rfl, .fine⟩
    | some k => exact ⟨104, true, (k : Int), rfl, IsFault.at (j := 3) (by omega) (k : Int)⟩

theorem rcheck_sum (fuel d : Nat) {p q : Pt} {cc : List (List Int)} {h : AHeap} (hp : ∃ r l, p = .mk r l ∧ h.cell (.mk ⟨r.id, r.gen, r.off + 1⟩ l) = some (.slice (lstLL cc))) (hl : cc.length < 9000000000000000000) : ∀ (n k a : Nat), cc.length < n + k → k ≤ cc.length → a + totalI (cc.drop k) < 9000000000000000000 →
    l_skolemref1_CheckCNF_0 fuel d n [(1, .ptr p), (2, .ptr q), (3, .int .i64 (a : Int)), (4, .int .i64 (k : Int))] h = some (.exit 0, [(1, .ptr p), (2, .ptr q), (3, .int .i64 ((a + totalI (cc.drop k) : Nat) : Int))], h) := by
  obtain ⟨r, l, rfl, hc⟩ := hp
  intro n
  induction n with
  | zero => intro k a h1 h2; omega
  | succ n ih =>
    intro k a h1 h2 h3
    rw [l_skolemref1_CheckCNF_0_eq, field_mk, Option.bind_some, hc, Option.bind_some, slice_slice, Option.bind_some, len_lst]
    by_cases hk : k < cc.length
    · have hd : cc.drop k = cc.getD k [] :: cc.drop (k + 1) := by rw [List.drop_eq_getElem_cons hk]; simp [List.getD, hk]
      have ht : totalI (cc.drop k) = (cc.getD k []).length + totalI (cc.drop (k + 1)) := by rw [hd]; simp [totalI]
      rw [bif_pos (by omega), Option.bind_some, hc, Option.bind_some, slice_slice, Option.bind_some, addr_lstM _ (by omega) (by omega) []]
      simp only [Option.bind_some, cell_fp, slice_slice, Int.toNat_natCast, len_lst]
      rw [wrap64 (n := (a : Int) + _) (by omega) (by omega), succI (by omega), show (a : Int) + ((cc.getD k []).length : Int) = ((a + (cc.getD k []).length : Nat) : Int) from by omega, ih (k + 1) _ (by omega) (by omega) (by omega), ht, Nat.add_assoc]
    · have : k = cc.length := by omega
      subst this
      rw [bif_neg (by omega), List.drop_length]
      rfl

theorem rcheck_in (fuel d : Nat) {vars : Int} {cc : List (List Int)} {A B k : Nat} (hk : k < cc.length) (hck : (cc.getD k []).length < 9000000000000000000) {h0 h : AHeap} (hs : Sep0 h0 h [.own 1 A 0 2 (cnfC vars cc), .own 1 B 0 3 [.int .i64 0, .bool false, .int .i64 0]]) : ∀ (n j : Nat), (cc.getD k []).length < n + j → j ≤ (cc.getD k []).length →
    ((((cc.getD k []).drop j).any fun l => !isI l vars) = false ∧ l_skolemref1_CheckCNF_2 fuel (d + 1) n [(1, .ptr (.mk ⟨A, 0, 0⟩ 2)), (2, .ptr (.mk ⟨B, 0, 0⟩ 3)), (5, .int .i64 (k : Int)), (6, .int .i64 (j : Int))] h = some (.exit 4, [(1, .ptr (.mk ⟨A, 0, 0⟩ 2)), (2, .ptr (.mk ⟨B, 0, 0⟩ 3)), (5, .int .i64 (k : Int))], h)) ∨
    ((((cc.getD k []).drop j).any fun l => !isI l vars) = true ∧ ∃ h', l_skolemref1_CheckCNF_2 fuel (d + 1) n [(1, .ptr (.mk ⟨A, 0, 0⟩ 2)), (2, .ptr (.mk ⟨B, 0, 0⟩ 3)), (5, .int .i64 (k : Int)), (6, .int .i64 (j : Int))] h = some (.ret, [(1, .ptr (.mk ⟨A, 0, 0⟩ 2)), (2, .ptr (.mk ⟨B, 0, 0⟩ 3)), (5, .int .i64 (k : Int))], h') ∧
      Sep0 h0 h' [.own 1 A 0 2 (cnfC vars cc), .own 1 B 0 3 (faultC 104 true (k : Int))]) := by
  have c1 : h.cell (.mk ⟨A, 0, 0 + 1⟩ 2) = some (.slice (lstLL cc)) := hs.part (i := 0) rfl (by omega) rfl
  have c0 : h.cell (.mk ⟨A, 0, 0 + 0⟩ 2) = some (.int .i64 vars) := hs.part (i := 0) rfl (by omega) rfl
  intro n
  induction n with
  | zero => intro j h1 h2; omega
  | succ n ih =>
    intro j h1 h2
    rw [l_skolemref1_CheckCNF_2_eq]
    simp only [field_mk, Option.bind_some, c1, slice_slice]
    rw [addr_lstM _ (by omega) (by omega) []]
    simp only [Option.bind_some, cell_fp, slice_slice, Int.toNat_natCast]
    rw [len_lst]
    by_cases hj : j < (cc.getD k []).length
    · have hd := drop_getD 0 hj
      rw [bif_pos (by omega), addr_lstM _ (by omega) (by omega) 0, hd, List.any_cons]
      simp only [Option.bind_some, cell_fp, int_int, Int.toNat_natCast, c0, RIs_run, bool_bool]
      cases hi : isI ((cc.getD k []).getD j 0) vars with
      | true =>
        simp only [Bool.not_true, cond_false, Bool.false_or]
        rw [succI (by omega)]
        exact ih (j + 1) (by omega) (by omega)
      | false =>
        right
        simp only [Bool.not_false, cond_true, Bool.true_or, true_and]
        rw [Placed_run fuel d (show (104 : Int) ≠ 0 by omega)]
        simp only [Option.bind_some, agg_agg]
        rw [cond_pos _ _ (show (true && Nat.beq (List.length (faultC 104 true (k : Int))) 3 && List.all (faultC 104 true (k : Int)) AVal.isCell) = true from rfl)]
        obtain ⟨h2, p2, s2⟩ := hs.put (i := 1) (o := 0) (l := 3) (vs := faultC 104 true (k : Int)) rfl (by simp [faultC]) (by simp [faultC])
        rw [p2]
        simp only [Option.bind_some]
        exact ⟨h2, rfl, s2⟩
    · left
      have : j = (cc.getD k []).length := by omega
      rw [bif_neg (by omega), this, List.drop_length]
      exact ⟨rfl, rfl⟩

theorem rcheck_loop (fuel d : Nat) {vars : Int} {cc : List (List Int)} (hl : cc.length < 1000000000) (hc : ∀ c ∈ cc, c.length < 1000000000 ∧ c.length < fuel) {A B : Nat} {h0 h : AHeap} (hs : Sep0 h0 h [.own 1 A 0 2 (cnfC vars cc), .own 1 B 0 3 [.int .i64 0, .bool false, .int .i64 0]]) : ∀ (n k : Nat), cc.length < n + k → k ≤ cc.length →
    ∃ h', (l_skolemref1_CheckCNF_1 fuel (d + 1) n [(1, .ptr (.mk ⟨A, 0, 0⟩ 2)), (2, .ptr (.mk ⟨B, 0, 0⟩ 3)), (5, .int .i64 (k : Int))] h).bind (fun p => k_skolemref1_CheckCNF_1 fuel (d + 1) p.1 p.2.1 p.2.2) =
      some (.agg (match badI vars (cc.drop k) k with | some k => faultC 104 true (k : Int) | none => faultC 0 false 0), h') := by
  have c1 : h.cell (.mk ⟨A, 0, 0 + 1⟩ 2) = some (.slice (lstLL cc)) := hs.part (i := 0) rfl (by omega) rfl
  intro n
  induction n with
  | zero => intro k h1 h2; omega
  | succ n ih =>
    intro k h1 h2
    rw [l_skolemref1_CheckCNF_1_eq]
    simp only [field_mk, Option.bind_some, c1, slice_slice]
    rw [len_lst]
    by_cases hk : k < cc.length
    · obtain ⟨q1, q2⟩ := hc (cc.getD k []) (by simp [List.getD, hk])
      have hd : cc.drop k = cc.getD k [] :: cc.drop (k + 1) := by rw [List.drop_eq_getElem_cons hk]; simp [List.getD, hk]
      rw [bif_pos (by omega), hd, badI]
      rcases rcheck_in fuel d hk (by omega) hs fuel 0 (by omega) (by omega) with ⟨b1, b2⟩ | ⟨b1, h', b2, b3⟩
      · rw [List.drop_zero] at b1
        rw [show ((0 : Nat) : Int) = 0 from rfl] at b2
        rw [b2, if_neg (by rw [b1]; simp)]
        simp only [Option.bind_some, k_skolemref1_CheckCNF_2_x4]
        rw [succI (by omega)]
        exact ih (k + 1) (by omega) (by omega)
      · rw [List.drop_zero] at b1
        rw [show ((0 : Nat) : Int) = 0 from rfl] at b2
        rw [b2, if_pos b1]
        simp only [Option.bind_some, k_skolemref1_CheckCNF_2_r, k_skolemref1_CheckCNF_1_r]
        have hc3 : h'.cellsAt 3 (.mk ⟨B, 0, 0⟩ 3) = some (faultC 104 true (k : Int)) := (b3.sep.own (i := 1) rfl).parts (by omega) (by simp [faultC])
        rw [hc3]
        exact ⟨h', rfl⟩
    · have : k = cc.length := by omega
      subst this
      rw [bif_neg (by omega), List.drop_length, badI]
      simp only [Option.bind_some, k_skolemref1_CheckCNF_1_x2]
      rw [None_run fuel d]
      simp only [Option.bind_some, agg_agg]
      rw [cond_pos _ _ (show (!false && Nat.beq (List.length (faultC 0 false 0)) 3 && List.all (faultC 0 false 0) AVal.isCell) = true from rfl)]
      obtain ⟨h2, p2, s2⟩ := hs.put (i := 1) (o := 0) (l := 3) (vs := faultC 0 false 0) rfl (by simp [faultC]) (by simp [faultC])
      rw [p2]
      have hc3 : h2.cellsAt 3 (.mk ⟨B, 0, 0⟩ 3) = some (faultC 0 false 0) := (s2.sep.own (i := 1) rfl).parts (by omega) (by simp [faultC])
      simp only [Option.bind_some, hc3, Option.map_some]
      exact ⟨h2, rfl⟩

theorem CheckCNF_run (fuel d : Nat) {vars : Int} {cc : List (List Int)} (hl : cc.length < 1000000000) (ht : totalI cc < 1000000000000) (hf : cc.length < fuel) (hc : ∀ c ∈ cc, c.length < 1000000000 ∧ c.length < fuel) {h : AHeap} {x : AVal} (hx : freezeV h 8 x = some (.agg (cnfC vars cc))) :
    run fuel (d + 2) F_skolemref1_CheckCNF [x] h = some (.agg (faultI vars cc), h) ∨ ∃ ids, run fuel (d + 2) F_skolemref1_CheckCNF [x] h = some (.agg (faultI vars cc), h.markRo ids) := by
  have key : ∃ h', brun fuel (d + 2) F_skolemref1_CheckCNF [.agg (cnfC vars cc)] AHeap.none = some (.agg (faultI vars cc), h') := by
    have s0 := ((Sep0.start AHeap.none).push 1 2 (cs := cnfC vars cc) rfl).push 1 3 (cs := [.int .i64 (0 : Int), .bool false, .int .i64 (0 : Int)]) rfl
    have c1 : ((AHeap.none.push 1 (cnfC vars cc)).push 1 [.int .i64 (0 : Int), .bool false, .int .i64 (0 : Int)]).cell (.mk ⟨AHeap.none.next, 0, 0 + 1⟩ 2) = some (.slice (lstLL cc)) := s0.part (i := 0) rfl (by omega) rfl
    have c0 : ((AHeap.none.push 1 (cnfC vars cc)).push 1 [.int .i64 (0 : Int), .bool false, .int .i64 (0 : Int)]).cell (.mk ⟨AHeap.none.next, 0, 0 + 0⟩ 2) = some (.int .i64 vars) := s0.part (i := 0) rfl (by omega) rfl
    rw [e_skolemref1_CheckCNF, show List.all (cnfC vars cc) AVal.isCell = true from rfl, cond_true, show (cnfC vars cc).length = 2 from rfl]
    have hs := rcheck_sum fuel (d + 1) (p := .mk ⟨AHeap.none.next, 0, 0⟩ 2) (q := .mk ⟨(AHeap.none.push 1 (cnfC vars cc)).next, 0, 0⟩ 3) (cc := cc) ⟨_, _, rfl, c1⟩ (by omega) fuel 0 0 (by omega) (by omega) (by rw [List.drop_zero]; omega)
    rw [List.drop_zero, Nat.zero_add, show ((0 : Nat) : Int) = 0 from rfl] at hs
    rw [hs]
    simp only [Option.bind_some, k_skolemref1_CheckCNF_0_x0, field_mk, c0, int_int]
    have bare : ∃ h', ((run fuel (d + 1) F_skolemref_Bare [.int .i64 (102 : Int)] ((AHeap.none.push 1 (cnfC vars cc)).push 1 [.int .i64 (0 : Int), .bool false, .int .i64 (0 : Int)])).bind fun r14 => (AVal.agg? r14.1).bind fun c15 =>
        (bif (!false && Nat.beq (List.length c15) 3 && List.all c15 AVal.isCell) then ((AHeap.storeAt r14.2 c15 (.mk ⟨(AHeap.none.push 1 (cnfC vars cc)).next, 0, 0⟩ 3)).bind fun h16 =>
          ((AHeap.cellsAt h16 3 (.mk ⟨(AHeap.none.push 1 (cnfC vars cc)).next, 0, 0⟩ 3)).bind fun c17 => some (AVal.agg c17) : Option AVal).map fun v => (v, h16)) else none)) = some (.agg (faultC 102 false 0), h') := by
      rw [Bare_run]
      simp only [Option.bind_some, agg_agg]
      rw [cond_pos _ _ (show (!false && Nat.beq (List.length (faultC 102 false 0)) 3 && List.all (faultC 102 false 0) AVal.isCell) = true from rfl)]
      obtain ⟨h2, p2, s2⟩ := s0.put (i := 1) (o := 0) (l := 3) (vs := faultC 102 false 0) rfl (by simp [faultC]) (by simp [faultC])
      rw [p2]
      have hc3 : h2.cellsAt 3 (.mk ⟨(AHeap.none.push 1 (cnfC vars cc)).next, 0, 0⟩ 3) = some (faultC 102 false 0) := (s2.sep.own (i := 1) rfl).parts (by omega) (by simp [faultC])
      simp only [Option.bind_some, hc3, Option.map_some]
      exact ⟨h2, rfl⟩
    unfold faultI
    by_cases h1 : vars < 0
    · rw [if_pos (.inl h1), decide_eq_true h1]
      exact bare
    · rw [decide_eq_false h1]
      simp only [beq_self_eq_true, cond_true, Option.bind_some, bool_bool]
      by_cases h2 : 4000 < vars
      · rw [if_pos (.inr (.inl h2)), decide_eq_true h2]
        exact bare
      · rw [decide_eq_false h2]
        simp only [beq_self_eq_true, cond_true, Option.bind_some, bool_bool, c1, slice_slice]
        rw [len_lst]
        by_cases h3 : 20000 < cc.length
        · rw [if_pos (.inr (.inr (.inl h3))), decide_eq_true (show (20000 : Int) < (cc.length : Int) by omega)]
          exact bare
        · rw [decide_eq_false (show ¬ (20000 : Int) < (cc.length : Int) by omega), cond_false]
          by_cases h4 : 80000 < totalI cc
          · rw [if_pos (.inr (.inr (.inr h4))), bif_pos (by omega)]
            exact bare
          · rw [if_neg (by omega), bif_neg (by omega)]
            have := rcheck_loop fuel d hl hc s0 fuel 0 (by omega) (by omega)
            rw [List.drop_zero] at this
            exact this
  obtain ⟨h', e1⟩ := key
  have hfr : freezeV h' 8 (.agg (faultI vars cc)) = some (.agg (faultI vars cc)) := by
    obtain ⟨c, p, y, e, _⟩ := checkI_fault vars cc
    rw [e]; exact freeze_fault c p y
  exact .inr (run_any rfl rfl (mm1 hx) e1 hfr)
end Go.Proofs.YtnkbhbkfbigbiaaDoor
