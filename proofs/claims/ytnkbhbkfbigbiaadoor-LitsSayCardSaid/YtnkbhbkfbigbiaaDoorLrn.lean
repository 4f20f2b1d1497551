/-
  lits.Rename.
-/
import Derived.Test.YtnkbhbkfbigbiaaDoorFst1
import Derived.Test.YtnkbhbkfbigbiaaDoorRef0
namespace Go.Proofs.YtnkbhbkfbigbiaaDoor
open Go.RowKit

/-- a clause of other variables -/
def ren1 (b : List Int) (l : Int) : Option Int :=
  if varI l < 1 ∨ (b.length : Int) ≤ varI l then none else
  if b.getD (varI l).toNat 0 = 0 then none else
  some (if l < 0 then IntKind.wrap .i64 (0 - b.getD (varI l).toNat 0) else b.getD (varI l).toNat 0)
def renC : Option Int → Option (List Int) → Option (List Int)
  | none, _ => none
  | some z, r => r.map (z :: ·)
def renameL (b : List Int) : List Int → Option (List Int)
  | [] => some []
  | x :: c => renC (ren1 b x) (renameL b c)

theorem rename_loop (fuel d : Nat) {c b : List Int} (hn : c.length < 1000000000) : ∀ (n k : Nat) (s : Sl) (acc : List Int) (h : AHeap), c.length < n + k → k ≤ c.length → acc.length = k → Grown h 1 s (intsC acc) →
    ∃ s' h', (l_lits_Rename_0 fuel (d + 1) n [(1, .slice (lstI b)), (6, .slice s), (13, .slice (lstI c)), (14, .int .i64 (c.length : Int)), (15, .int .i64 (k : Int))] h).bind (fun p => k_lits_Rename_0 fuel (d + 1) p.1 p.2.1 p.2.2) =
      some (.tup [.slice s', .bool (renameL b (c.drop k)).isSome], h') ∧ Grown h' 1 s' (intsC (match renameL b (c.drop k) with | some r => acc ++ r | none => [])) := by
  intro n
  induction n with
  | zero => intro k s acc h h1 h2; omega
  | succ n ih =>
    intro k s acc h h1 h2 h3 hg
    have hl := hg.len
    simp only [List.length_map, Nat.mul_one] at hl
    rw [l_lits_Rename_0_eq, len_lst]
    by_cases hk : k < c.length
    · rw [bif_pos (by omega), addr_lstM _ (by omega) (by omega) 0]
      simp only [Option.bind_some, cell_fp, int_int, Int.toNat_natCast, Var_run]
      have hd : c.drop k = c.getD k 0 :: c.drop (k + 1) := by rw [List.drop_eq_getElem_cons hk]; simp [List.getD, hk]
      rw [hd]
      rw [show renameL b (c.getD k 0 :: c.drop (k + 1)) = renC (ren1 b (c.getD k 0)) (renameL b (c.drop (k + 1))) from rfl]
      generalize c.getD k 0 = x
      by_cases h4 : varI x < 1
      · have hr : ren1 b x = none := by unfold ren1; rw [if_pos (.inl h4)]
        rw [decide_eq_true h4, hr]
        simp only [cond_true, show ((true == false) : Bool) = false from rfl, cond_false, Option.bind_some, bool_bool, k_lits_Rename_0_r]
        exact ⟨.nil, h, rfl, .nil⟩
      · by_cases h5 : (b.length : Int) ≤ varI x
        · have hr : ren1 b x = none := by unfold ren1; rw [if_pos (.inr h5)]
          rw [decide_eq_false h4, decide_eq_true h5, hr]
          simp only [cond_false, show ((true == false) : Bool) = false from rfl, Option.bind_some, bool_bool, cond_true, k_lits_Rename_0_r]
          exact ⟨.nil, h, rfl, .nil⟩
        · rw [decide_eq_false h4, decide_eq_false h5]
          simp only [cond_false, show ((false == false) : Bool) = true from rfl, cond_true]
          rw [addr_lstM _ (by omega) (by omega) 0]
          simp only [Option.bind_some, cell_fp, int_int, bool_bool]
          by_cases h6 : b.getD (varI x).toNat 0 = 0
          · have hr : ren1 b x = none := by unfold ren1; rw [if_neg (by omega), if_pos h6]
            rw [bif_pos h6, hr]
            simp only [Option.bind_some, k_lits_Rename_0_r]
            exact ⟨.nil, h, rfl, .nil⟩
          · have hr : ren1 b x = some (if x < 0 then IntKind.wrap .i64 (0 - b.getD (varI x).toNat 0) else b.getD (varI x).toNat 0) := by unfold ren1; rw [if_neg (by omega), if_neg h6]
            rw [bif_neg h6, hr]
            simp only [renC]
            have step : ∀ z : Int, ∃ s' h', ((AHeap.append h false 1 8 s 1 [.int .i64 z]).bind fun a14 => l_lits_Rename_0 fuel (d + 1) n [(1, .slice (lstI b)), (6, .slice a14.1), (13, .slice (lstI c)), (14, .int .i64 (c.length : Int)), (15, .int .i64 (IntKind.wrap .i64 ((k : Int) + 1)))] a14.2).bind (fun p => k_lits_Rename_0 fuel (d + 1) p.1 p.2.1 p.2.2) =
                some (.tup [.slice s', .bool ((renameL b (c.drop (k + 1))).map (z :: ·)).isSome], h') ∧ Grown h' 1 s' (intsC (match (renameL b (c.drop (k + 1))).map (z :: ·) with | some r => acc ++ r | none => [])) := by
              intro z
              obtain ⟨s', h', e1, e2, e3⟩ := hg.snoc (bytes := 8) (vs := [.int .i64 z]) rfl (by omega) (by omega)
              rw [e1]
              simp only [Option.bind_some]
              rw [succI (by omega)]
              obtain ⟨s2, h2, q1, q2⟩ := ih (k + 1) s' (acc ++ [z]) h' (by omega) (by omega) (by simp; omega) (by simpa using e2)
              refine ⟨s2, h2, ?_, ?_⟩
              · rw [q1]
                cases renameL b (c.drop (k + 1)) <;> rfl
              · cases hm : renameL b (c.drop (k + 1)) with
                | none => rw [hm] at q2; exact q2
                | some r => rw [hm] at q2; simpa using q2
            by_cases h7 : x < 0
            · rw [bif_pos h7, if_pos h7, addr_lstM _ (by omega) (by omega) 0]
              simp only [Option.bind_some, cell_fp, int_int]
              exact step _
            · rw [bif_neg h7, if_neg h7, addr_lstM _ (by omega) (by omega) 0]
              simp only [Option.bind_some, cell_fp, int_int]
              exact step _
    · have : k = c.length := by omega
      subst this
      rw [bif_neg (by omega)]
      rw [List.drop_length, show renameL b [] = some [] from rfl]
      simp only [Option.bind_some, k_lits_Rename_0_x0]
      refine ⟨s, h, rfl, ?_⟩
      rw [List.append_nil]
      exact hg

theorem rename_run (fuel d : Nat) {c b : List Int} {s t : Sl} {h : AHeap} (hs : freezeV h 8 (.slice s) = some (.slice (lstI c))) (ht : freezeV h 8 (.slice t) = some (.slice (lstI b))) (hn : c.length < 1000000000) (hf : c.length < fuel) :
    ∃ ids, run fuel (d + 2) F_lits_Rename [.slice s, .slice t] h = some (.tup [.slice (lstI ((renameL b c).getD [])), .bool (renameL b c).isSome], h.markRo ids) := by
  obtain ⟨s', h', e1, e2⟩ := rename_loop fuel d (b := b) hn fuel 0 (.mk ⟨AHeap.none.next, 0, 0⟩ 0 (eqI (0 : Int) ((c.length : Nat) : Int))) [] (AHeap.none.push 1 []) (by omega) (by omega) rfl (Grown.make 1 _)
  refine run_any rfl rfl (mm2 hs ht) (r := .tup [.slice s', .bool (renameL b c).isSome]) (h' := h') ?_ ?_
  · rw [e_lits_Rename, len_lst, cond_pos _ _ (mk0_ok (by omega) (by omega) (by omega))]
    rw [show ((0 : Nat) : Int) = 0 from rfl] at e1
    exact e1
  · rw [List.drop_zero] at e2
    have e3 : (match renameL b c with | some r => [] ++ r | none => []) = (renameL b c).getD [] := by cases renameL b c <;> rfl
    rw [e3] at e2
    refine freeze_tup2 _ ?_ (freeze_bool _ _)
    rw [e2.freeze (n := 6) (by omega) (freeze_intsC 5 _)]
    have := e2.len
    simp only [List.length_map, Nat.mul_one] at this
    rw [← this]

end Go.Proofs.YtnkbhbkfbigbiaaDoor
