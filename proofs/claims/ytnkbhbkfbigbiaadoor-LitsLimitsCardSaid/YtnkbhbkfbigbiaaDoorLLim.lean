/-
  LitsLimits.
-/
import Derived.Test.YtnkbhbkfbigbiaaDoorFst1
import Derived.Test.YtnkbhbkfbigbiaaDoorNer
import Derived.Test.YtnkbhbkfbigbiaaDoorS8
import Derived.Test.YtnkbhbkfbigbiaaDoorSee
namespace Go.Proofs.YtnkbhbkfbigbiaaDoor
open Go.RowKit

def rowsN (at' : Nat) (l : Int) (k : Nat) : List (List Int) := (List.range k).map fun i => if i = at' then [l] else []
theorem rowsN_succ (a : Nat) (l : Int) (k : Nat) : rowsN a l (k + 1) = rowsN a l k ++ [if k = a then [l] else []] := by simp [rowsN, List.range_succ]
theorem rowsN_len (a : Nat) (l : Int) (k : Nat) : (rowsN a l k).length = k := by simp [rowsN]
theorem rowsN_total (a : Nat) (l : Int) : ∀ k, totalI (rowsN a l k) ≤ k
  | 0 => by simp [rowsN, totalI]
  | k + 1 => by
    have := rowsN_total a l k
    rw [rowsN_succ]
    unfold totalI at *
    rw [List.map_append, List.sum_append]
    by_cases h : k = a <;> simp [h] at * <;> omega
theorem rowsN_mem {a : Nat} {l : Int} {k : Nat} {c : List Int} (h : c ∈ rowsN a l k) : c = [l] ∨ c = [] := by
  obtain ⟨i, _, rfl⟩ := List.mem_map.1 h
  by_cases e : i = a <;> simp [e]
theorem badI_append {vars : Int} : ∀ {a b : List (List Int)} (k : Nat), (∀ c ∈ a, ∀ l ∈ c, isI l vars = true) → badI vars (a ++ b) k = badI vars b (k + a.length)
  | [], b, k, _ => rfl
  | c :: a, b, k, h => by
    rw [List.cons_append, badI, if_neg, badI_append (k + 1) fun x hx => h x (List.mem_cons_of_mem _ hx), List.length_cons]
    · congr 1; omega
    · rw [Bool.not_eq_true, List.any_eq_false]
      intro x hx
      rw [h c (List.mem_cons_self ..) x hx]
      simp
theorem badI_rows {vars l : Int} (hb : isI l vars = false) {a n : Nat} (ha : a < n) : badI vars (rowsN a l n) 0 = some a := by
  have e : rowsN a l n = (rowsN a l n).take a ++ ([l] :: (rowsN a l n).drop (a + 1)) := by
    have h1 : a < (rowsN a l n).length := by rw [rowsN_len]; exact ha
    have h2 : (rowsN a l n)[a] = [l] := by simp [rowsN]
    rw [← h2, ← List.drop_eq_getElem_cons h1, List.take_append_drop]
  have hlen : ((rowsN a l n).take a).length = a := by rw [List.length_take, rowsN_len]; omega
  rw [e, badI_append, badI, if_pos, hlen, Nat.zero_add]
  · simp [hb]
  · intro c hc x hx
    obtain ⟨i, hi, rfl⟩ := List.mem_iff_getElem.1 hc
    rw [hlen] at hi
    have : ((rowsN a l n).take a)[i]'(by rw [hlen]; exact hi) = [] := by
      rw [List.getElem_take]
      simp [rowsN]
      omega
    rw [this] at hx
    cases hx

theorem limits_loop (fuel d : Nat) {vars l : Int} {a n : Nat} (hn : n < 1000) {ok : Bool} {h0 : AHeap} {id : Nat} : ∀ (m k q : Nat) (s : Sl) (h : AHeap), k + m = n → m < q → Sep0 h0 h [.own 1 id 0 2 [.int .i64 vars, .slice s], .grown 1 s (gridC (rowsN a l k))] →
    ∃ s' h', l_skolemlaw1_LitsLimits_0 fuel d q [(0, .int .i64 vars), (1, .int .i64 (n : Int)), (2, .int .i64 (a : Int)), (3, .int .i64 l), (9, .bool ok), (10, .ptr (.mk ⟨id, 0, 0⟩ 2)), (11, .int .i64 (k : Int))] h =
      some (.exit 0, [(0, .int .i64 vars), (2, .int .i64 (a : Int)), (3, .int .i64 l), (9, .bool ok), (10, .ptr (.mk ⟨id, 0, 0⟩ 2))], h') ∧ Sep0 h0 h' [.own 1 id 0 2 [.int .i64 vars, .slice s'], .grown 1 s' (gridC (rowsN a l n))] := by
  intro m
  induction m with
  | zero =>
    intro k q s h h1 h2 hs
    obtain ⟨q, rfl⟩ : ∃ q', q = q' + 1 := ⟨q - 1, by omega⟩
    obtain rfl : k = n := by omega
    rw [l_skolemlaw1_LitsLimits_0_eq, bif_neg (by omega)]
    exact ⟨s, h, rfl, hs⟩
  | succ m ih =>
    intro k q s h h1 h2 hs
    obtain ⟨q, rfl⟩ : ∃ q', q = q' + 1 := ⟨q - 1, by omega⟩
    have hl := hs.len (i := 1) rfl
    simp only [List.length_map, Nat.mul_one, rowsN_len] at hl
    rw [l_skolemlaw1_LitsLimits_0_eq, bif_pos (by omega)]
    have step : ∀ (x12 : Sl), AHeap.fixV h (.slice x12) = (.slice (lstI (if k = a then [l] else [])), h) → ∃ s' h', k_skolemlaw1_LitsLimits_1 fuel d q .normal [(0, .int .i64 vars), (1, .int .i64 (n : Int)), (2, .int .i64 (a : Int)), (3, .int .i64 l), (9, .bool ok), (10, .ptr (.mk ⟨id, 0, 0⟩ 2)), (11, .int .i64 (k : Int)), (12, .slice x12)] h =
      some (.exit 0, [(0, .int .i64 vars), (2, .int .i64 (a : Int)), (3, .int .i64 l), (9, .bool ok), (10, .ptr (.mk ⟨id, 0, 0⟩ 2))], h') ∧ Sep0 h0 h' [.own 1 id 0 2 [.int .i64 vars, .slice s'], .grown 1 s' (gridC (rowsN a l n))] := by
      intro x12 hx
      have b1 : h.cell (.mk ⟨id, 0, 1⟩ 2) = some (.slice s) := hs.part (i := 0) rfl (by omega) rfl
      rw [k_skolemlaw1_LitsLimits_1_n, fixL_one, hx]
      simp only [field_mk, Nat.zero_add, Option.bind_some, b1, slice_slice]
      obtain ⟨s1, h3, e1, e2, e3⟩ := hs.grow (i := 1) (bytes := 24) (m := 1) (vs := [.slice (lstI (if k = a then [l] else []))]) rfl rfl (by omega) (by omega)
      obtain ⟨h4, f1, f2⟩ := e2.put (i := 0) (sz := 1) (id := id) (gen := 0) (n := 2) (cs := [.int .i64 vars, .slice s]) (o := 1) (l := 2) (vs := [.slice s1]) rfl (by simp) (by simp)
      rw [e1]
      simp only [Option.bind_some, f1]
      rw [succI (by omega)]
      refine ih (k + 1) q s1 h4 (by omega) (by omega) ?_
      rw [rowsN_succ, gridC_append]
      exact f2
    by_cases hka : k = a
    · rw [bif_pos (by omega)]
      simp only [Option.bind_some]
      exact step _ (by rw [if_pos hka, fixV_lst]; rfl)
    · rw [bif_neg (by omega)]
      simp only [Option.bind_some]
      exact step _ (by rw [if_neg hka]; rfl)

theorem litsLimits_run (F d : Nat) (hF : 2 ^ 21 ≤ F) (vars n at' l : Int) (h : AHeap) :
    ∃ h', run F (d + 60) F_skolemlaw1_LitsLimits [.int .i64 vars, .int .i64 n, .int .i64 at', .int .i64 l] h = some (.bool true, h') := by
  rw [e_skolemlaw1_LitsLimits, first1_run F (by omega) (by omega)]
  simp only [Option.bind_some, bool_bool, Bool.not_true, cond_false]
  have hfr : ∀ h : AHeap, freezeV h 8 (.slice (.lst 1 true [.int .i64 l])) = some (.slice (lstI [l])) := fun h => freeze_lst 7 1 true rfl
  rw [near_run F (d + 58) (a := [l]) (hfr h) (by simp) (by simp; omega)]
  simp only [Option.bind_some, bool_bool]
  cases hn : nearI [l] with
  | false => exact ⟨h, rfl⟩
  | true =>
    simp only [Bool.not_true, cond_false]
    by_cases hv : vars < 0 ∨ 4000 < vars
    · have hcond : (bif decide (vars < 0) then true else decide (4000 < vars)) = true := by
        rcases hv with h | h
        · rw [decide_eq_true h]; rfl
        · rw [decide_eq_true h]; cases decide (vars < 0) <;> rfl
      have hck : checkI vars [[0]] = err_api_ErrLimit := by unfold checkI; rw [if_pos (by omega)]
      have hx : freezeV h 8 (.agg [.int .i64 vars, .slice (.lst 1 true [.slice (.lst 1 true [.int .i64 0])])]) = some (.agg (cnfC vars [[0]])) :=
        freeze_agg 7 (mm2 rfl (freeze_open 6 1 true rfl (mm1 (freeze_lst 5 1 true rfl))))
      have hr := Check_run F (d + 54) (vars := vars) (cc := [[0]]) (by simp) (by simp [totalI]) (by simp; omega) (fun c hc => by simp at hc; subst hc; simp; omega) hx (by rw [hck]; rfl)
      rw [hck] at hr
      rw [hcond, cond_true, hr]
      simp only [beq_self_eq_true, cond_true, Option.bind_some, Bare_run, agg_agg]
      have hs := Same_run F (d + 55) (e := err_api_ErrLimit) (c := 102) (p := false) (x := 0) (IsFault.bare (j := 1) (by omega)) (by omega) 102 false 0 h
      rw [hs]
      exact ⟨h, rfl⟩
    · have hcond : (bif decide (vars < 0) then true else decide (4000 < vars)) = false := by
        rw [decide_eq_false (show ¬ vars < 0 by omega), decide_eq_false (show ¬ 4000 < vars by omega)]; rfl
      rw [hcond, cond_false]
      have r1 := Int.tmod_lt_of_pos n (b := 9) (by omega)
      have r2 : -9 < Int.tmod n 9 := by
        have h3 := Int.tmod_lt_of_pos (-n) (b := 9) (by omega)
        rw [Int.neg_tmod] at h3
        omega
      generalize Int.tmod n 9 = q1 at r1 r2
      rw [wrap64 (n := q1 + 9) (by omega) (by omega)]
      have r3 := Int.tmod_lt_of_pos (q1 + 9) (b := 9) (by omega)
      have r4 : 0 ≤ Int.tmod (q1 + 9) 9 := Int.tmod_nonneg _ (by omega)
      generalize Int.tmod (q1 + 9) 9 = q2 at r3 r4
      rw [wrap64 (n := q2 + 1) (by omega) (by omega)]
      obtain ⟨N, hN⟩ : ∃ N : Nat, q2 + 1 = (N : Int) := ⟨(q2 + 1).toNat, by omega⟩
      rw [hN, bif_neg (by omega), bif_neg (by omega)]
      have r5 := Int.tmod_lt_of_pos at' (b := (N : Int)) (by omega)
      have r6 : -(N : Int) < Int.tmod at' (N : Int) := by
        have h3 := Int.tmod_lt_of_pos (-at') (b := (N : Int)) (by omega)
        rw [Int.neg_tmod] at h3
        omega
      generalize Int.tmod at' (N : Int) = q3 at r5 r6
      rw [wrap64 (n := q3 + N) (by omega) (by omega)]
      have r7 := Int.tmod_lt_of_pos (q3 + N) (b := (N : Int)) (by omega)
      have r8 : 0 ≤ Int.tmod (q3 + N) (N : Int) := Int.tmod_nonneg _ (by omega)
      generalize Int.tmod (q3 + N) (N : Int) = q4 at r7 r8
      obtain ⟨a, rfl⟩ : ∃ a : Nat, q4 = (a : Int) := ⟨q4.toNat, by omega⟩
      have s0 := (Sep0.start h).push 1 2 (cs := [.int .i64 (0 : Int), .slice .nil]) rfl
      obtain ⟨h1, p1, s1⟩ := s0.put (i := 0) (o := 0) (l := 2) (vs := [.int .i64 vars, .slice .nil]) rfl (by simp) (by simp)
      rw [p1]
      simp only [Option.bind_some]
      have s2 := s1.addNil 1
      obtain ⟨s, h2, e2, s3⟩ := limits_loop F (d + 59) (vars := vars) (l := l) (a := a) (n := N) (by omega) (ok := true) N 0 F .nil h1 (by omega) (by omega) s2
      rw [show ((0 : Nat) : Int) = 0 from rfl] at e2
      rw [e2]
      simp only [Option.bind_some, k_skolemlaw1_LitsLimits_0_x0]
      have hc2 : h2.cellsAt 2 (.mk ⟨h.next, 0, 0⟩ 2) = some [.int .i64 vars, .slice s] := (s3.sep.own (i := 0) rfl).parts (by omega) (by simp)
      rw [hc2]
      simp only [Option.bind_some]
      have gs := s3.sep.grown (i := 1) rfl
      have hl := gs.len
      simp only [List.length_map, Nat.mul_one, rowsN_len] at hl
      have hx : freezeV h2 8 (.agg [.int .i64 vars, .slice s]) = some (.agg (cnfC vars (rowsN a l N))) := by
        refine freeze_agg 7 (mm2 rfl ?_)
        rw [gs.freeze (n := 6) (by omega) (freeze_gridC 5 _), ← hl]
        show some (AVal.slice (.lst N false _)) = some (AVal.slice (.lst (rowsN a l N).length false _))
        rw [rowsN_len]
      have htot := rowsN_total a l N
      have hrow : ∀ c ∈ rowsN a l N, c.length < 1000000000 ∧ c.length < F := by
        intro c hc
        rcases rowsN_mem hc with rfl | rfl <;> simp <;> omega
      have hisw : IntKind.wrap .i64 (0 - vars) = -vars := by rw [wrap64 (by omega) (by omega)]; omega
      by_cases hg : isI l vars = true
      · have hg' := (isI_iff (by omega) (by omega)).1 hg
        have hck : checkI vars (rowsN a l N) = .nilif := checkI_nil (by omega) (by omega) (by rw [rowsN_len]; omega) (by omega) fun c hc x hx => by
          rcases rowsN_mem hc with rfl | rfl
          · simp at hx; subst hx; exact hg
          · cases hx
        have hr := Check_run F (d + 54) (vars := vars) (cc := rowsN a l N) (by rw [rowsN_len]; omega) (by omega) (by rw [rowsN_len]; omega) hrow hx (by rw [hck]; rfl)
        rw [hck] at hr
        rw [hr, hisw]
        have hcc : (bif (bif (!decide (l = 0)) then decide (l ≤ vars) else false) then decide (-vars ≤ l) else false) = true := by
          rw [decide_eq_false hg'.1, decide_eq_true hg'.2.2, decide_eq_true hg'.2.1]; rfl
        simp only [Option.bind_some]
        rw [hcc]
        simp only [cond_true, beq_self_eq_true, nilTest_nilif, Option.bind_some, bool_bool, Is_run, hg]
        exact ⟨h2, rfl⟩
      · have hg0 : isI l vars = false := by simpa using hg
        have hng : ¬ (l ≠ 0 ∧ -vars ≤ l ∧ l ≤ vars) := fun h => hg ((isI_iff (by omega) (by omega)).2 h)
        have hck : checkI vars (rowsN a l N) = atN a err_api_ErrRange := by
          unfold checkI
          rw [if_neg (by rw [rowsN_len]; omega), badI_rows hg0 (by omega)]
        have hfl : (atN a err_api_ErrRange).flat = false ∨ (atN a err_api_ErrRange).flat = true := by cases (atN a err_api_ErrRange).flat <;> simp
        have hcc : (bif (bif (!decide (l = 0)) then decide (l ≤ vars) else false) then decide (-vars ≤ l) else false) = false := by
          by_cases z1 : l = 0
          · rw [decide_eq_true z1]; rfl
          · rw [decide_eq_false z1]
            by_cases z2 : l ≤ vars
            · rw [decide_eq_true z2, decide_eq_false (show ¬ -vars ≤ l by omega)]; rfl
            · rw [decide_eq_false z2]; rfl
        obtain ⟨ids, hr⟩ := Check_any F (d + 54) (vars := vars) (cc := rowsN a l N) (by rw [rowsN_len]; omega) (by omega) (by rw [rowsN_len]; omega) hrow hx
        rw [hck] at hr
        rw [hr, hisw]
        simp only [Option.bind_some]
        rw [hcc]
        simp only [cond_false, beq_self_eq_true, cond_true, Placed_run F (d + 58) (show (104 : Int) ≠ 0 by omega), Option.bind_some, agg_agg]
        have hs := Same_run F (d + 55) (e := atN a err_api_ErrRange) (c := 104) (p := true) (x := (a : Int)) (IsFault.at (j := 3) (by omega) (a : Int)) (by omega) 104 true (a : Int) (h2.markRo ids)
        rw [hs]
        simp only [Option.bind_some, bool_bool, Is_run, hg0, decide_true, beq_self_eq_true, Bool.and_self, cond_true, Bool.not_false]
        exact ⟨_, rfl⟩
end Go.Proofs.YtnkbhbkfbigbiaaDoor
