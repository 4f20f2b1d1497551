/-
  dimacs.Clauses.
-/
import Derived.Test.YtdkckkhghghhdaaDoorDc0
import Derived.Test.YtdkckkhghghhdaaDoorSepW
import Derived.Test.YtdkckkhghghhdaaDoorSee
namespace Go.Proofs.YtdkckkhghghhdaaDoor
open Go.RowKit

theorem dat_run (fuel d : Nat) {j : Nat} (hj : j < 7) (p : Int) (h : AHeap) : run fuel (d + 1) F_dimacs_at [.int .i64 p, errN j] h = some (atV p (errN j), h) := by
  have key : ∃ h', brun fuel (d + 1) F_dimacs_at [.int .i64 p, errN j] AHeap.none = some (.iface T_p_api_At (.ptr (.mk ⟨AHeap.none.next, 0, 0⟩ 2)), h') ∧ h' = AHeap.none.push 1 [.int .i64 p, errN j] := by
    refine ⟨_, ?_, rfl⟩
    rw [e_dimacs_at]
    rcases seven hj with rfl | rfl | rfl | rfl | rfl | rfl | rfl <;> rfl
  obtain ⟨h', e, rfl⟩ := key
  refine pure_of rfl rfl (cc2 rfl (errN_canon hj 4)) e ?_
  rcases seven hj with rfl | rfl | rfl | rfl | rfl | rfl | rfl <;> rfl
theorem dat0 (fuel d : Nat) (p : Int) (h : AHeap) : run fuel (d + 1) F_dimacs_at [.int .i64 p, err_api_ErrText] h = some (atV p err_api_ErrText, h) := dat_run fuel d (j := 0) (by omega) p h
/-- what it hands back -/
def clA : ClR → AVal
  | .ok l => .tup [.slice (lstLL l), .nilif]
  | .bad p => .tup [.slice (lstLL []), atV p err_api_ErrText]
theorem cl_cond (x3 : Int) (m : Nat) (n vars : Int) (b : Bool) (fuel d : Nat) (h : AHeap) :
    ((bif ((bif (decide (x3 ≤ (m : Int))) then true else (!b)) == false) then (((bif ((!decide (n = (0 : Int))) == true) then ((run fuel (d + 1) F_lits_Is [(.int .i64 n), (.int .i64 vars)] h).bind fun r12 => (AVal.bool? r12.1).bind fun b13 => some ((AVal.bool (!b13)), r12.2)) else (some ((.bool false), h)) : Option (AVal × AHeap))).bind fun r14 =>
    (AVal.bool? r14.1).bind fun b15 => some ((AVal.bool b15), r14.2)) else (some ((.bool true), h)) : Option (AVal × AHeap))) = some (.bool (decide (x3 ≤ (m : Int)) || (!b || (!decide (n = 0) && !isI n vars))), h) := by
  rw [Is_run]
  cases b <;> cases decide (n = 0) <;> cases isI n vars <;> cases decide (x3 ≤ (m : Int)) <;> rfl
theorem cl_loop (fuel d : Nat) {e vars many : Int} {W : List Wd} (hf : 20 < fuel) (hW : W.length < 70000) {h0 : AHeap} : ∀ (n k : Nat) (cc : List (List Int)) (c : List Int) (all : Nat) (o s : Sl) (h : AHeap), W.length < n + k → k ≤ W.length → cc.length ≤ k → c.length ≤ k → all ≤ k →
    Sep0 h0 h [.grown 1 o (gridC cc), .grown 1 s (intsC c)] →
    ∃ v h', (l_dimacs_Clauses_0 fuel (d + 3) n [(1, .int .i64 e), (2, .int .i64 vars), (3, .int .i64 many), (10, .slice o), (11, .slice s), (12, .int .i64 (all : Int)), (17, .slice (lstW W)), (18, .int .i64 (W.length : Int)), (19, .int .i64 (k : Int))] h).bind (fun p => k_dimacs_Clauses_0 fuel (d + 3) p.1 p.2.1 p.2.2) = some (v, h') ∧
      freezeV h' 8 v = some (clA (clT e vars many (W.drop k) cc c)) := by
  intro n
  induction n with
  | zero => intro k cc c all o s h h1 h2; omega
  | succ n ih =>
    intro k cc c all o s h h1 h2 h3 h4 h5 hs
    have l1 := hs.len (i := 0) rfl
    have l2 := hs.len (i := 1) rfl
    simp only [List.length_map, Nat.mul_one] at l1 l2
    rw [l_dimacs_Clauses_0_eq]
    by_cases hk : k < W.length
    · rw [bif_pos (by omega), addr_lstN (sz := 3) (f := wdC) wdC_len (l := W) (j := (k : Int)) (by omega) (by omega) ⟨[], 0, false⟩]
      have hd : W.drop k = W.getD k ⟨[], 0, false⟩ :: W.drop (k + 1) := by rw [List.drop_eq_getElem_cons hk]; simp [List.getD, hk]
      rw [hd, Int.toNat_natCast]
      generalize W.getD k ⟨[], 0, false⟩ = w
      obtain ⟨h3', e1, s3, c0, c1, c2⟩ := copyW hs w
      rw [Option.bind_some, cellsAt_fp (wdC_len w), Option.bind_some, cond_pos _ _ (show (!false && Nat.beq (List.length (wdC w)) 3 && List.all (wdC w) AVal.isCell) = true from rfl), e1]
      simp only [Option.bind_some, field_mk, c0, str_str]
      rw [wNum_run fuel d hf]
      simp only [Option.bind_some, isTup_tup, List.length_cons, List.length_nil, Nat.beq, cond_true, comp_tup, List.getElem?_cons_zero, List.getElem?_cons_succ, int_int, bool_bool]
      rw [cl_cond, ← l1]
      simp only [Option.bind_some, bool_bool]
      rw [show (!okNum w.text || (!decide (numW w.text = 0) && !isI (numW w.text) vars)) = noLitV w.text vars from rfl]
      unfold clT
      by_cases hb : many ≤ (cc.length : Int) ∨ noLitV w.text vars = true
      · have hb' : (decide (many ≤ (cc.length : Int)) || noLitV w.text vars) = true := by
          rcases hb with hb | hb
          · rw [decide_eq_true hb]; rfl
          · rw [hb, Bool.or_true]
        rw [hb', if_pos hb]
        simp only [cond_true, c1, Option.bind_some, int_int]
        rw [dat0 fuel (d + 2)]
        simp only [Option.bind_some, k_dimacs_Clauses_0_r]
        exact ⟨_, _, rfl, freeze_tup2 _ rfl rfl⟩
      · have hb' : (decide (many ≤ (cc.length : Int)) || noLitV w.text vars) = false := by
          rw [decide_eq_false (fun h => hb (.inl h))]
          cases h9 : noLitV w.text vars with
          | true => exact absurd (.inr h9) hb
          | false => rfl
        rw [hb', if_neg hb, cond_false]
        by_cases hz : numW w.text = 0
        · rw [bif_pos hz, if_pos hz]
          obtain ⟨h5', f1, f2⟩ := s3.fix (i := 1) (sz := 1) (s := s) (cs := intsC c) rfl (closedL_map (fun _ => rfl) c) 1
          have hfx : h3'.fixL [.slice s] = ([.slice (lstI c)], h5') := by rw [fixL_one, f1, ← l2]
          obtain ⟨o', h6, g1, s6, g3⟩ := f2.grow (i := 0) (sz := 1) (s := o) (cs := gridC cc) (bytes := 24) (m := 1) (vs := [.slice (lstI c)]) rfl rfl (by omega) (by omega)
          rw [hfx, g1, Option.bind_some, sucU (by omega)]
          refine ih (k + 1) (cc ++ [c]) [] all o' .nil h6 (by omega) (by omega) (by simp; omega) (by simp) (by omega) ?_
          rw [gridC_append]
          exact s6
        · rw [bif_neg hz, if_neg hz, bif_neg (by omega)]
          obtain ⟨s', h5', g1, s5, g3⟩ := s3.grow (i := 1) (bytes := 8) (m := 1) (vs := [.int .i64 (numW w.text)]) rfl rfl (by omega) (by omega)
          rw [g1]
          simp only [Option.bind_some]
          rw [sucU (by omega), sucU (by omega)]
          refine ih (k + 1) cc (c ++ [numW w.text]) (all + 1) o s' h5' (by omega) (by omega) (by omega) (by simp; omega) (by omega) ?_
          rw [intsC_app]
          exact s5
    · have : k = W.length := by omega
      subst this
      rw [bif_neg (by omega), List.drop_length, Option.bind_some, k_dimacs_Clauses_0_x0, ← l1, ← l2]
      unfold clT
      by_cases hb : (cc.length : Int) < many ∨ c ≠ []
      · have hb' : (bif (decide ((cc.length : Int) < many)) then true else (decide ((0 : Int) < (c.length : Int)))) = true := by
          rcases hb with hb | hb
          · rw [decide_eq_true hb]; rfl
          · have := List.length_pos_iff.2 hb
            rw [decide_eq_true (show (0 : Int) < (c.length : Int) by omega)]
            cases decide ((cc.length : Int) < many) <;> rfl
        rw [hb', if_pos hb, cond_true, dat0 fuel (d + 2)]
        exact ⟨_, _, rfl, freeze_tup2 _ rfl rfl⟩
      · have hc : c = [] := Classical.byContradiction fun h => hb (.inr h)
        have hb' : (bif (decide ((cc.length : Int) < many)) then true else (decide ((0 : Int) < (c.length : Int)))) = false := by
          rw [decide_eq_false (fun h => hb (.inl h)), hc]; rfl
        rw [hb', if_neg hb, cond_false]
        refine ⟨_, _, rfl, freeze_tup2 _ ?_ rfl⟩
        rw [(hs.sep.grown (i := 0) rfl).freeze (n := 6) (by omega) (freeze_gridC 5 _), ← l1]
theorem cl_run (fuel d : Nat) {e vars many : Int} {W : List Wd} (hf : W.length + 21 ≤ fuel) (hW : W.length < 70000) (h : AHeap) : run fuel (d + 4) F_dimacs_Clauses [.slice (lstW W), .int .i64 e, .int .i64 vars, .int .i64 many] h = some (clA (clT e vars many W [] []), h) := by
  obtain ⟨v, h', e1, e2⟩ := cl_loop fuel d (e := e) (vars := vars) (many := many) (W := W) (by omega) hW fuel 0 [] [] 0 .nil .nil AHeap.none (by omega) (by omega) (by simp) (by simp) (by omega) (((Sep0.start AHeap.none).addNil 1).addNil 1)
  rw [List.drop_zero] at e2
  refine pure_of rfl rfl (cc4 (canon_lst (closedL_flatMap closed_wdC W)) rfl rfl rfl) (r := v) (h' := h') ?_ e2
  rw [e_dimacs_Clauses, len_lst]
  exact e1
end Go.Proofs.YtdkckkhghghhdaaDoor
