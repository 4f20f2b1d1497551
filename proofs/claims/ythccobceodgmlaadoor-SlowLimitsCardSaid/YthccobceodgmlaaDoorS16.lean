/-
  SlowLimits.
-/
import Derived.Test.YthccobceodgmlaaDoorS5f
import Derived.Test.YthccobceodgmlaaDoorS9
import Derived.Test.YthccobceodgmlaaDoorSee
namespace Go.Proofs.YthccobceodgmlaaDoor
open Go.RowKit

section
variable {ex : Bool} {outer inner : List Int} {cc : List (List Int)} {h : AHeap} {x y : AVal}
theorem Value_range (fuel d : Nat) (hl : outer.length + inner.length < 1000000) (hf : 2 ^ 21 ≤ fuel) (hc : Few fuel cc) (hm : matP (outer ++ inner) cc = none) (hx : freezeV h 8 x = some (.agg (gameC ex outer inner cc))) :
    run fuel (d + 5) F_slow_Value [x] h = some (.tup [.bool false, err_api_ErrRange], h) := by
  have hp : (2 : Nat) ^ 21 = 2097152 := rfl
  rw [hp] at hf
  refine run_val rfl rfl (mm1 hx) (r := .tup [.bool false, err_api_ErrRange]) (h' := AHeap.none.push 1 (gameC ex outer inner cc)) ?_ rfl rfl
  rw [e_slow_Value, show List.all (gameC ex outer inner cc) AVal.isCell = true from rfl, cond_true]
  have c0 : (AHeap.none.push 1 (gameC ex outer inner cc)).cellsAt 4 (.mk ⟨AHeap.none.next, 0, 0⟩ 4) = some (gameC ex outer inner cc) := rfl
  have c1 : (AHeap.none.push 1 (gameC ex outer inner cc)).cell (.mk ⟨AHeap.none.next, 0, 1⟩ 4) = some (.slice (lstI outer)) := rfl
  simp only [c0, Option.bind_some, Matrix_run fuel d (ex := ex) hl (by omega) (by omega) hc, hm, matR, isTup_tup, comp_tup, List.length_cons, List.length_nil, Nat.reduceAdd, Nat.beq_refl, cond_true, List.getElem?_cons_zero, List.getElem?_cons_succ, slice_slice, bool_bool, field_mk, c1, Bool.not_false]
theorem Value_limit (fuel d : Nat) (hl : outer.length + inner.length < 1000000) (hl2 : 20 < outer.length + inner.length) (hf : 2 ^ 21 ≤ fuel) (hc : Few fuel cc) {mc : List (List Int)} (hm : matP (outer ++ inner) cc = some mc) (hx : freezeV h 8 x = some (.agg (gameC ex outer inner cc))) :
    run fuel (d + 5) F_slow_Value [x] h = some (.tup [.bool false, err_api_ErrLimit], h) := by
  have hp : (2 : Nat) ^ 21 = 2097152 := rfl
  rw [hp] at hf
  refine run_val rfl rfl (mm1 hx) (r := .tup [.bool false, err_api_ErrLimit]) (h' := AHeap.none.push 1 (gameC ex outer inner cc)) ?_ rfl rfl
  rw [e_slow_Value, show List.all (gameC ex outer inner cc) AVal.isCell = true from rfl, cond_true]
  have c0 : (AHeap.none.push 1 (gameC ex outer inner cc)).cellsAt 4 (.mk ⟨AHeap.none.next, 0, 0⟩ 4) = some (gameC ex outer inner cc) := rfl
  have c1 : (AHeap.none.push 1 (gameC ex outer inner cc)).cell (.mk ⟨AHeap.none.next, 0, 1⟩ 4) = some (.slice (lstI outer)) := rfl
  have c2 : (AHeap.none.push 1 (gameC ex outer inner cc)).cell (.mk ⟨AHeap.none.next, 0, 2⟩ 4) = some (.slice (lstI inner)) := rfl
  simp only [c0, Option.bind_some, Matrix_run fuel d (ex := ex) hl (by omega) (by omega) hc, hm, matR, isTup_tup, comp_tup, List.length_cons, List.length_nil, Nat.reduceAdd, Nat.beq_refl, cond_true, List.getElem?_cons_zero, List.getElem?_cons_succ, slice_slice, bool_bool, field_mk, c1, c2, Bool.not_true, cond_false]
  rw [show (lstI outer).len = outer.length from rfl, show (lstI inner).len = inner.length from rfl, bif_pos (by rw [wrap64 (by omega) (by omega)]; omega)]
theorem Wins_range (fuel d : Nat) {o : List Bool} (hl : outer.length + inner.length < 1000000) (ho : o.length ≠ outer.length) (hf : 2 ^ 21 ≤ fuel) (hc : Few fuel cc) {mc : List (List Int)} (hm : matP (outer ++ inner) cc = some mc) (hx : freezeV h 8 x = some (.agg (gameC ex outer inner cc))) (hy : freezeV h 8 y = some (.slice (lstB o))) :
    run fuel (d + 5) F_slow_Wins [x, y] h = some (.tup [.bool false, err_api_ErrRange], h) := by
  have hp : (2 : Nat) ^ 21 = 2097152 := rfl
  rw [hp] at hf
  refine run_val rfl rfl (mm2 hx hy) (r := .tup [.bool false, err_api_ErrRange]) (h' := AHeap.none.push 1 (gameC ex outer inner cc)) ?_ rfl rfl
  rw [e_slow_Wins, show List.all (gameC ex outer inner cc) AVal.isCell = true from rfl, cond_true]
  have c0 : (AHeap.none.push 1 (gameC ex outer inner cc)).cellsAt 4 (.mk ⟨AHeap.none.next, 0, 0⟩ 4) = some (gameC ex outer inner cc) := rfl
  have c1 : (AHeap.none.push 1 (gameC ex outer inner cc)).cell (.mk ⟨AHeap.none.next, 0, 1⟩ 4) = some (.slice (lstI outer)) := rfl
  simp only [c0, Option.bind_some, Matrix_run fuel d (ex := ex) hl (by omega) (by omega) hc, hm, matR, isTup_tup, comp_tup, List.length_cons, List.length_nil, Nat.reduceAdd, Nat.beq_refl, cond_true, List.getElem?_cons_zero, List.getElem?_cons_succ, slice_slice, bool_bool, field_mk, c1, Bool.not_true, beqF, Bool.not_false]
  rw [show (lstB o).len = o.length from rfl, show (lstI outer).len = outer.length from rfl, bif_nneg (by omega)]
theorem Wins_limit (fuel d : Nat) {o : List Bool} (hl : outer.length + inner.length < 1000000) (ho : o.length = outer.length) (hi : 20 < inner.length) (hf : 2 ^ 21 ≤ fuel) (hc : Few fuel cc) {mc : List (List Int)} (hm : matP (outer ++ inner) cc = some mc) (hx : freezeV h 8 x = some (.agg (gameC ex outer inner cc))) (hy : freezeV h 8 y = some (.slice (lstB o))) :
    run fuel (d + 5) F_slow_Wins [x, y] h = some (.tup [.bool false, err_api_ErrLimit], h) := by
  have hp : (2 : Nat) ^ 21 = 2097152 := rfl
  rw [hp] at hf
  refine run_val rfl rfl (mm2 hx hy) (r := .tup [.bool false, err_api_ErrLimit]) (h' := AHeap.none.push 1 (gameC ex outer inner cc)) ?_ rfl rfl
  rw [e_slow_Wins, show List.all (gameC ex outer inner cc) AVal.isCell = true from rfl, cond_true]
  have c0 : (AHeap.none.push 1 (gameC ex outer inner cc)).cellsAt 4 (.mk ⟨AHeap.none.next, 0, 0⟩ 4) = some (gameC ex outer inner cc) := rfl
  have c1 : (AHeap.none.push 1 (gameC ex outer inner cc)).cell (.mk ⟨AHeap.none.next, 0, 1⟩ 4) = some (.slice (lstI outer)) := rfl
  have c2 : (AHeap.none.push 1 (gameC ex outer inner cc)).cell (.mk ⟨AHeap.none.next, 0, 2⟩ 4) = some (.slice (lstI inner)) := rfl
  simp only [c0, Option.bind_some, Matrix_run fuel d (ex := ex) hl (by omega) (by omega) hc, hm, matR, isTup_tup, comp_tup, List.length_cons, List.length_nil, Nat.reduceAdd, Nat.beq_refl, cond_true, List.getElem?_cons_zero, List.getElem?_cons_succ, slice_slice, bool_bool, field_mk, c1, c2, Bool.not_true, beqF, Bool.not_false]
  rw [show (lstB o).len = o.length from rfl, show (lstI outer).len = outer.length from rfl, bif_npos (by omega), show (lstI inner).len = inner.length from rfl, bif_pos (by omega)]
end
theorem Sat_limit (fuel d : Nat) {vars : Nat} {cc : List (List Int)} (hv : 20 < vars) (hv' : vars ≤ 4000) (hfu : 2 ^ 21 ≤ fuel) (hl : cc.length ≤ 20000) (ht : totalI cc ≤ 80000) (hc : ∀ c ∈ cc, c.length < 1000000) (hlit : ∀ c ∈ cc, ∀ l ∈ c, isI l vars = true) {h : AHeap} {x : AVal} (hx : freezeV h 8 x = some (.agg (cnfC vars cc))) :
    ∃ ids, run fuel (d + 6) F_slow_Sat [x] h = some (.tup [.slice (lstB []), .bool false, err_api_ErrLimit], h.markRo ids) := by
  have hp : (2 : Nat) ^ 21 = 2097152 := rfl
  rw [hp] at hfu
  refine run_any rfl rfl (mm1 hx) (r := .tup [.slice .nil, .bool false, err_api_ErrLimit]) (h' := AHeap.none.push 1 (cnfC vars cc)) ?_ rfl
  have hck : checkI (vars : Int) cc = .nilif := checkI_nil (by omega) (by omega) hl ht hlit
  rw [e_slow_Sat, show List.all (cnfC vars cc) AVal.isCell = true from rfl, cond_true]
  have hlen : (cnfC vars cc).length = 2 := rfl
  simp only [hlen]
  have c0 : (AHeap.none.push 1 (cnfC vars cc)).cellsAt 2 (.mk ⟨AHeap.none.next, 0, 0⟩ 2) = some (cnfC vars cc) := rfl
  have c1 : (AHeap.none.push 1 (cnfC vars cc)).cell (.mk ⟨AHeap.none.next, 0, 0 + 0⟩ 2) = some (.int .i64 vars) := rfl
  have hck2 := Check_run fuel d (vars := vars) (cc := cc) (h := AHeap.none.push 1 (cnfC vars cc)) (x := .agg (cnfC vars cc)) (by omega) (by omega) (by omega) (fun c h => ⟨by have := hc c h; omega, by have := hc c h; omega⟩) (freeze_cnf 6 _ _) (by rw [hck]; rfl)
  rw [hck] at hck2
  simp only [c0, Option.bind_some, hck2, (show nilTest .iface .nilif = some true from rfl), Bool.not_true, cond_false, field_mk, c1, int_int]
  rw [bif_pos (by omega)]

/-! The law. -/
theorem limits0 (fuel d : Nat) {V : Nat} {x1 : Int} {x5 : Bool} (hV : V ≤ 40) : ∀ (m v n : Nat) (s : Sl) (h : AHeap) (a : List Int), m < n → v + m = V + 1 → a.length ≤ v → Grown h 1 s (intsC a) →
    ∃ s' h' b, l_skolemlaw7_SlowLimits_0 fuel d n [(0, .int .i64 (V : Int)), (1, .int .i64 x1), (5, .bool x5), (6, .slice s), (7, .int .i64 (v : Int))] h = some (.exit 0, [(0, .int .i64 (V : Int)), (1, .int .i64 x1), (5, .bool x5), (6, .slice s')], h') ∧ Grown h' 1 s' (intsC b) ∧ b.length = a.length + m := by
  intro m
  induction m with
  | zero =>
    intro v n s h a h1 h2 h3 hg
    obtain ⟨n, rfl⟩ : ∃ n', n = n' + 1 := ⟨n - 1, by omega⟩
    rw [l_skolemlaw7_SlowLimits_0_eq, bif_neg (by omega)]
    exact ⟨s, h, a, rfl, hg, rfl⟩
  | succ m ih =>
    intro v n s h a h1 h2 h3 hg
    obtain ⟨n, rfl⟩ : ∃ n', n = n' + 1 := ⟨n - 1, by omega⟩
    have hl := hg.len
    simp only [List.length_map, Nat.mul_one] at hl
    obtain ⟨s', h', e1, e2, e3⟩ := hg.snoc (bytes := 8) (vs := [.int .i64 (v : Int)]) rfl (by omega) (by omega)
    rw [l_skolemlaw7_SlowLimits_0_eq, bif_pos (by omega), e1]
    simp only [Option.bind_some]
    rw [succI (by omega)]
    have e2' : Grown h' 1 s' (intsC (a ++ [(v : Int)])) := by rw [intsC_append]; exact e2
    obtain ⟨s2, h2, b, g1, g2, g3⟩ := ih (v + 1) n s' h' (a ++ [(v : Int)]) (by omega) (by omega) (by simp; omega) e2'
    exact ⟨s2, h2, b, g1, g2, by rw [g3]; simp; omega⟩

theorem matP_nil (vs : List Int) : matP vs [] = some [] := rfl

theorem is_fine (fuel d : Nat) (hfu : 10 < fuel) (h : AHeap) : run fuel (d + 5) F_skolemsee_Is [.nilif, .int .i64 0] h = some (.bool true, h) := Is_run7 fuel d .fine hfu 0 h
theorem is_limit (fuel d : Nat) (hfu : 10 < fuel) (h : AHeap) : run fuel (d + 5) F_skolemsee_Is [err_api_ErrLimit, .int .i64 102] h = some (.bool true, h) := Is_run7 fuel d (.bare (j := 1) (by omega)) hfu 102 h
theorem is_range (fuel d : Nat) (hfu : 10 < fuel) (h : AHeap) : run fuel (d + 5) F_skolemsee_Is [err_api_ErrRange, .int .i64 104] h = some (.bool true, h) := Is_run7 fuel d (.bare (j := 3) (by omega)) hfu 104 h

theorem slowLimits_run (fuel d : Nat) (hf : 2 ^ 21 ≤ fuel) (x0 x1 : Int) (h : AHeap) :
    ∃ h', run fuel (d + 8) F_skolemlaw7_SlowLimits [.int .i64 x0, .int .i64 x1] h = some (.bool true, h') := by
  have hp : (2 : Nat) ^ 21 = 2097152 := rfl
  have hf21 := hf
  rw [hp] at hf
  clear hp
  rw [e_skolemlaw7_SlowLimits, first7_run fuel (d + 1) hf21]
  simp only [Option.bind_some, bool_bool, Bool.not_true, cond_false]
  have h1 := Int.tmod_lt_of_pos x0 (b := 30) (by omega)
  have h3 := Int.tmod_lt_of_pos (-x0) (b := 30) (by omega)
  rw [Int.neg_tmod] at h3
  obtain ⟨V, hV, eV⟩ : ∃ V : Nat, V < 30 ∧ Int.tmod (IntKind.wrap .i64 ((Int.tmod x0 30) + 30)) 30 = (V : Int) := by
    rw [wrap64 (by omega) (by omega), Int.tmod_eq_emod_of_nonneg (by omega)]
    exact ⟨((Int.tmod x0 30 + 30) % 30).toNat, by omega, by omega⟩
  rw [eV]
  clear h1 h3 eV
  obtain ⟨s, h1, b, e1, g1, l1⟩ := limits0 fuel (d + 7) (V := V) (x1 := x1) (x5 := true) (by omega) V 1 fuel .nil h [] (by omega) (by omega) (by simp) .nil
  rw [show ((1 : Nat) : Int) = 1 from rfl] at e1
  rw [e1]
  simp only [Option.bind_some, k_skolemlaw7_SlowLimits_0_x0]
  simp only [List.length_nil, Nat.zero_add] at l1
  by_cases h16 : 16 < V ∧ V ≤ 20
  · rw [decide_eq_true (show (16 : Int) < (V : Int) by omega), decide_eq_true (show (V : Int) ≤ 20 by omega)]
    exact ⟨h1, rfl⟩
  have hc16 : (bif decide ((16 : Int) < (V : Int)) then decide ((V : Int) ≤ 20) else false) = false := by
    by_cases h17 : 16 < V
    · rw [decide_eq_true (by omega), cond_true, decide_eq_false (by omega)]
    · rw [decide_eq_false (by omega), cond_false]
  rw [hc16]
  simp only [cond_false]
  have lg := g1.len
  simp only [List.length_map, Nat.mul_one] at lg
  have vs : ∀ h', h1 = h' → freezeV h' 7 (.slice s) = some (.slice (lstI b)) := fun h' e => by
    subst e
    rw [g1.freeze (n := 6) (by omega) (freeze_intsC 5 b), ← lg]
  have vA : freezeV h1 8 (.agg [.bool false, .slice s, .slice .nil, .slice .nil]) = some (.agg (gameC false b [] [])) := freeze_agg 7 (mm4 rfl (vs _ rfl) rfl rfl)
  have vB : freezeV h1 8 (.agg [.bool false, .slice .nil, .slice s, .slice .nil]) = some (.agg (gameC false [] b [])) := freeze_agg 7 (mm4 rfl rfl (vs _ rfl) rfl)
  have few0 : Few fuel [] := ⟨by simp, by simp; omega, fun c h => by cases h⟩
  have few1 : Few fuel [[1]] := ⟨by simp, by simp; omega, fun c h => by rw [List.mem_singleton.1 h]; simp; omega⟩
  obtain ⟨M, hM1, hM5, eM⟩ : ∃ M : Nat, 1 ≤ M ∧ M ≤ 5 ∧ IntKind.wrap .i64 ((Int.tmod (IntKind.wrap .i64 ((Int.tmod x1 5) + 5)) 5) + 1) = (M : Int) := by
    have h1 := Int.tmod_lt_of_pos x1 (b := 5) (by omega)
    have h3 := Int.tmod_lt_of_pos (-x1) (b := 5) (by omega)
    rw [Int.neg_tmod] at h3
    rw [wrap64 (n := Int.tmod x1 5 + 5) (by omega) (by omega), Int.tmod_eq_emod_of_nonneg (by omega)]
    have h4 := Int.emod_nonneg (Int.tmod x1 5 + 5) (show (5 : Int) ≠ 0 by omega)
    have h5 := Int.emod_lt_of_pos (Int.tmod x1 5 + 5) (show (0 : Int) < 5 by omega)
    refine ⟨((Int.tmod x1 5 + 5) % 5 + 1).toNat, by omega, by omega, ?_⟩
    rw [wrap64 (by omega) (by omega)]
    omega
  simp only [eM]
  clear eM
  have v4 : ∀ h : AHeap, freezeV h 8 (.agg [.bool false, .slice .nil, .slice .nil, .slice (.lst 1 true [.slice (.lst 1 true [.int .i64 1])])]) = some (.agg (gameC false [] [] [[1]])) := fun h =>
    freeze_agg 7 (mm4 rfl rfl rfl (freeze_open 6 1 true rfl (mm1 rfl)))
  have v5 : ∀ h : AHeap, freezeV h 8 (.agg [.bool false, .slice .nil, .slice .nil, .slice .nil]) = some (.agg (gameC false [] [] [])) := fun h => freeze_agg 7 (mm4 rfl rfl rfl rfl)
  have v0 : ∀ h : AHeap, freezeV h 8 (.slice .nil) = some (.slice (lstB [])) := fun _ => rfl
  have vS : freezeV h1 8 (.agg [.int .i64 (V : Int), .slice .nil]) = some (.agg (cnfC (V : Int) [])) := freeze_agg 7 (mm2 rfl rfl)
  have R4 := fun h => Value_range fuel (d + 2) (ex := false) (outer := []) (inner := []) (cc := [[1]]) (by simp) hf21 few1 rfl (v4 h)
  have rep : repeatCells [AVal.bool false] M = boolsC (List.replicate M false) := by rw [repeat_one]; simp
  have vM : ∀ (h : AHeap) c, freezeV (h.push 1 (boolsC (List.replicate M false))) 8 (.slice (.mk ⟨h.next, 0, 0⟩ M c)) = some (.slice (lstB (List.replicate M false))) := fun h c => by
    have ho := Own.push h 1 M (boolsC (List.replicate M false)) (by simp)
    have := ho.freeze (n := 7) c (freeze_boolsC 6 _)
    rw [show lstB (List.replicate M false) = .lst M false (boolsC (List.replicate M false)) by simp [lstM]]
    exact this
  have R5 := fun h c => Wins_range fuel (d + 2) (ex := false) (outer := []) (inner := []) (cc := []) (o := List.replicate M false) (by simp) (by simp; omega) hf21 few0 rfl (v5 (h.push 1 (boolsC (List.replicate M false)))) (vM h c)
  have hmk : (true && decide (0 ≤ (M : Int)) && decide ((M : Int) ≤ (M : Int)) && decide ((M : Int) * 1 ≤ 140737488355328) && decide ((M : Int) ≤ 140737488355328)) = true := mk_ok (by omega) (by omega) (by omega)
  by_cases hbig : 20 < V
  · have R1 := Value_limit fuel (d + 2) (by simp; omega) (by simp; omega) hf21 few0 rfl vA
    have R2 := Wins_limit fuel (d + 2) (o := []) (by simp; omega) rfl (by omega) hf21 few0 rfl vB (v0 _)
    obtain ⟨ids, R3⟩ := Sat_limit fuel (d + 1) (vars := V) (cc := []) hbig (by omega) hf21 (by simp) (by simp [totalI]) (fun c h => by cases h) (fun c h => by cases h) vS
    simp only [R1, R2, R3, R4, R5, Option.bind_some, isTup_tup, comp_tup, List.length_cons, List.length_nil, Nat.reduceAdd, Nat.beq_refl, cond_true, List.getElem?_cons_zero, List.getElem?_cons_succ, bool_bool, slice_slice, hmk, rep, Int.toNat_natCast]
    rw [bif_pos (by omega)]
    simp only [Option.bind_some, k_skolemlaw7_SlowLimits_1_n, beq_self_eq_true, cond_true, is_limit fuel (d + 2) (by omega), is_range fuel (d + 2) (by omega), bool_bool]
    exact ⟨_, rfl⟩
  · obtain ⟨r1, R1, _⟩ := Value_run fuel (d + 2) (by simp; omega) hf21 few0 rfl vA
    obtain ⟨r2, R2, _⟩ := Wins_run fuel (d + 2) (o := []) (by simp) rfl (by omega) hf21 few0 rfl vB (v0 _)
    obtain ⟨ob, ids, R3, _⟩ := Sat_any fuel (d + 1) (vars := V) (cc := []) (by omega) hf21 (by simp) (by simp [totalI]) (fun c h => by cases h) (fun c h => by cases h) vS
    cases ob with
    | none =>
      simp only [show satV none = .tup [.slice (lstB []), .bool false, .nilif] from rfl] at R3
      simp only [R1, R2, R3, R4, R5, Option.bind_some, isTup_tup, comp_tup, List.length_cons, List.length_nil, Nat.reduceAdd, Nat.beq_refl, cond_true, List.getElem?_cons_zero, List.getElem?_cons_succ, bool_bool, slice_slice, hmk, rep, Int.toNat_natCast]
      rw [bif_neg (by omega)]
      simp only [Option.bind_some, k_skolemlaw7_SlowLimits_1_n, beq_self_eq_true, cond_true, is_fine fuel (d + 2) (by omega), is_range fuel (d + 2) (by omega), bool_bool]
      exact ⟨_, rfl⟩
    | some m =>
      simp only [show satV (some m) = .tup [.slice (lstB m), .bool true, .nilif] from rfl] at R3
      simp only [R1, R2, R3, R4, R5, Option.bind_some, isTup_tup, comp_tup, List.length_cons, List.length_nil, Nat.reduceAdd, Nat.beq_refl, cond_true, List.getElem?_cons_zero, List.getElem?_cons_succ, bool_bool, slice_slice, hmk, rep, Int.toNat_natCast]
      rw [bif_neg (by omega)]
      simp only [Option.bind_some, k_skolemlaw7_SlowLimits_1_n, beq_self_eq_true, cond_true, is_fine fuel (d + 2) (by omega), is_range fuel (d + 2) (by omega), bool_bool]
      exact ⟨_, rfl⟩

end Go.Proofs.YthccobceodgmlaaDoor
