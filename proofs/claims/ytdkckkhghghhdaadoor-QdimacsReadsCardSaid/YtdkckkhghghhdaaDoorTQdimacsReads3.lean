/-
  Parts of the proof of QdimacsReads: QdimacsReads.
-/
import Derived.Test.YtdkckkhghghhdaaDoorTQdimacsReads2
namespace Go.Proofs.YtdkckkhghghhdaaDoor
open Go.RowKit

theorem sameBlk_run (fuel d : Nat) {b : Blk} (hb : b.2.length < 1000000) (hf : b.2.length < fuel) (h : AHeap) : run fuel (d + 2) F_skolemref_SameBlock [.agg (blkC b), .agg (blkC b)] h = some (.bool true, h) := by
  have hc : canonV 8 (.agg (blkC b)) = some (.agg (blkC b)) := by
    unfold blkC
    rw [canon_agg, canonM_cons (u := .bool b.1) rfl (canonM_cons (u := .slice (lstI b.2)) (canon_lstI _ _) (canonM_nil _))]
    rfl
  have s1 := ((Sep0.start AHeap.none).push 1 2 (cs := blkC b) rfl).push 1 2 (cs := blkC b) rfl
  have a0 : ((AHeap.none.push 1 (blkC b)).push 1 (blkC b)).cell (.mk ⟨AHeap.none.next, 0, 0 + 0⟩ 2) = some (.bool b.1) := s1.part (i := 0) rfl (by omega) rfl
  have a1 : ((AHeap.none.push 1 (blkC b)).push 1 (blkC b)).cell (.mk ⟨AHeap.none.next, 0, 0 + 1⟩ 2) = some (.slice (lstI b.2)) := s1.part (i := 0) rfl (by omega) rfl
  have b0 : ((AHeap.none.push 1 (blkC b)).push 1 (blkC b)).cell (.mk ⟨(AHeap.none.push 1 (blkC b)).next, 0, 0 + 0⟩ 2) = some (.bool b.1) := s1.part (i := 1) rfl (by omega) rfl
  have b1 : ((AHeap.none.push 1 (blkC b)).push 1 (blkC b)).cell (.mk ⟨(AHeap.none.push 1 (blkC b)).next, 0, 0 + 1⟩ 2) = some (.slice (lstI b.2)) := s1.part (i := 1) rfl (by omega) rfl
  refine pure_of rfl rfl (cc2 hc hc) (r := .bool true) ?_ rfl (h' := (AHeap.none.push 1 (blkC b)).push 1 (blkC b))
  rw [e_skolemref_SameBlock, show List.all (blkC b) AVal.isCell = true from rfl, cond_true, cond_true, show (blkC b).length = 2 from rfl]
  simp only [field_mk, Option.bind_some, a0, a1, b0, b1, bool_bool, slice_slice, beq_self_eq_true, cond_true]
  rw [sameI_run fuel d (freeze_lstI 7 _) (freeze_lstI 7 _) (by omega) hf]
  simp only [Option.bind_some, bool_bool, decide_true]
theorem sameBlks_loop (fuel d : Nat) {l : List Blk} (hl : l.length < 1000000) (hs : ∀ b ∈ l, b.2.length < 1000000 ∧ b.2.length < fuel) (h : AHeap) : ∀ (n k : Nat), l.length < n + k → k ≤ l.length →
    l_skolemref_SameBlocks_0 fuel (d + 2) n [(0, .slice (lstBk l)), (1, .slice (lstBk l)), (5, .int .i64 (k : Int))] h = some (.exit 0, [(4, .bot)], h) := by
  intro n
  induction n with
  | zero => intro k h1 h2; omega
  | succ n ih =>
    intro k h1 h2
    rw [l_skolemref_SameBlocks_0_eq, len_lst]
    by_cases hk : k < l.length
    · obtain ⟨q1, q2⟩ := hs (l.getD k (false, [])) (by simp [List.getD, hk])
      rw [bif_pos (by omega), addr_lstN (sz := 2) (f := blkC) blkC_len (by omega) (by omega) (false, []), Int.toNat_natCast]
      generalize l.getD k (false, []) = b at q1 q2
      simp only [Option.bind_some, cellsAt_fp (blkC_len b)]
      rw [sameBlk_run fuel d q1 q2]
      simp only [Option.bind_some, bool_bool, Bool.not_true, cond_false]
      rw [sucS (by omega)]
      exact ih (k + 1) (by omega) (by omega)
    · rw [bif_neg (by omega)]
theorem canon_lstBk (l : List Blk) : canonV 8 (.slice (lstBk l)) = some (.slice (lstBk l)) := canon_lst (closedL_flatMap closed_blkC l)
theorem sameBlks_run (fuel d : Nat) {l : List Blk} (hl : l.length < 1000000) (hlf : l.length < fuel) (hs : ∀ b ∈ l, b.2.length < 1000000 ∧ b.2.length < fuel) (h : AHeap) : run fuel (d + 3) F_skolemref_SameBlocks [.slice (lstBk l), .slice (lstBk l)] h = some (.bool true, h) := by
  refine pure_of rfl rfl (cc2 (canon_lstBk l) (canon_lstBk l)) (r := .bool true) (h' := AHeap.none) ?_ rfl
  rw [e_skolemref_SameBlocks, len_lst, bif_npos rfl]
  have := sameBlks_loop fuel d hl hs AHeap.none fuel 0 (by omega) (by omega)
  rw [show ((0 : Nat) : Int) = 0 from rfl] at this
  rw [this]
  simp only [Option.bind_some, k_skolemref_SameBlocks_0_x0]
theorem sameForm_run (fuel d : Nat) {bs : List Blk} (v : Int) {l : List (List Int)} (hb : bs.length < 1000000) (hbf : bs.length < fuel) (hbs : ∀ b ∈ bs, b.2.length < 1000000 ∧ b.2.length < fuel)
    (hl : l.length < 1000000000) (hlf : l.length < fuel) (hs : ∀ s ∈ l, s.length < 1000000000 ∧ s.length < fuel) (h : AHeap) : run fuel (d + 4) F_skolemref_SameFormula [.agg (formulaC bs v l), .agg (formulaC bs v l)] h = some (.bool true, h) := by
  have s1 := ((Sep0.start AHeap.none).push 1 3 (cs := formulaC bs v l) rfl).push 1 3 (cs := formulaC bs v l) rfl
  generalize hH : ((AHeap.none.push 1 (formulaC bs v l)).push 1 (formulaC bs v l)) = H at s1
  have a0 : H.cell (.mk ⟨AHeap.none.next, 0, 0 + 0⟩ 3) = some (.slice (lstBk bs)) := s1.part (i := 0) rfl (by omega) rfl
  have a1 : H.cellsAt 2 (.mk ⟨AHeap.none.next, 0, 0 + 1⟩ 3) = some (cnfC v l) := (s1.sep.own (i := 0) rfl).parts (o := 0 + 1) (k := 2) (l := 3) (by omega) (by simp [formulaC])
  have b0 : H.cell (.mk ⟨(AHeap.none.push 1 (formulaC bs v l)).next, 0, 0 + 0⟩ 3) = some (.slice (lstBk bs)) := s1.part (i := 1) rfl (by omega) rfl
  have b1 : H.cellsAt 2 (.mk ⟨(AHeap.none.push 1 (formulaC bs v l)).next, 0, 0 + 1⟩ 3) = some (cnfC v l) := (s1.sep.own (i := 1) rfl).parts (o := 0 + 1) (k := 2) (l := 3) (by omega) (by simp [formulaC])
  refine pure_of rfl rfl (cc2 (canon_form bs v l) (canon_form bs v l)) (r := .bool true) ?_ rfl (h' := H)
  rw [e_skolemref_SameFormula, show List.all (formulaC bs v l) AVal.isCell = true from rfl, cond_true, cond_true, show (formulaC bs v l).length = 3 from rfl, hH]
  simp only [field_mk, Option.bind_some, a0, b0, slice_slice]
  rw [sameBlks_run fuel d hb hbf hbs]
  simp only [Option.bind_some, bool_bool, beq_self_eq_true, cond_true, a1, b1]
  rw [sameCNF_run fuel d v hl hlf hs]
  simp only [Option.bind_some, bool_bool]
theorem okQ (bs : List Blk) (v : Int) (l : List (List Int)) : (!false && Nat.beq (List.length (formulaC bs v l)) 3 && List.all (formulaC bs v l) AVal.isCell) = true := rfl
theorem first5_run (fuel : Nat) {e : Nat} (he : 9 ≤ e) (hf : 1000 ≤ fuel) (h : AHeap) : run fuel e F_skolemlaw5_first [] h = some (.bool true, h) := by
  obtain ⟨d, rfl⟩ : ∃ d, e = d + 9 := ⟨e - 9, by omega⟩
  refine pure_ex rfl rfl canonL_nil (r := .bool true) ?_ (fun _ => rfl)
  rw [e_skolemlaw5_first, fread_nil fuel d (by omega), show frA (rdF []) = .tup [.agg (formulaC [] 0 []), atV 0 err_api_ErrText] from rfl]
  simp only [Option.bind_some, tup2, comp0, comp1, cond_true, agg_agg]
  rw [cond_pos _ _ (okQ [] 0 [])]
  have s1 := (Sep0.start AHeap.none).push 1 3 (cs := zero3) rfl
  obtain ⟨h5, e5, _⟩ := s1.putAll (i := 0) (vs := formulaC [] 0 []) rfl rfl rfl
  rw [e5]
  simp only [Option.bind_some]
  rw [Placed_run fuel (d + 7) (show (101 : Int) ≠ 0 by omega)]
  simp only [Option.bind_some, agg_agg]
  rw [same_true fuel (d + 4) (u := atV 0 err_api_ErrText) (c := 101) (q := true) (x := 0) (IsFault.at (j := 0) (by omega) 0) (by omega)]
  simp only [Option.bind_some, bool_bool, beq_self_eq_true, cond_true]
  rw [qB_none fuel (d + 1) hf]
  simp only [Option.bind_some, slice_slice, bool_bool]
  have hl := (headTx_len (v := 0) (n := 0) ⟨by omega, by omega⟩ ⟨by omega, by omega⟩).2
  rw [len_lst, decide_eq_true (show (0 : Int) < ((formTx [] 0 []).length : Int) by unfold formTx; simp only [List.length_append, List.length_nil, Int.ofNat_zero] at *; omega)]
  exact ⟨_, rfl⟩

theorem blockT_size (e v : Int) : ∀ (ws : List Wd) (seen acc l s : List Int) (r : List Wd), blockT e v ws seen acc = .ok l s r → l.length ≤ acc.length + ws.length
  | [], _, _, _, _, _, h => by cases h
  | w :: ws, seen, acc, l, s, r, h => by
    unfold blockT at h
    split at h
    · cases h; simp
    · split at h
      · cases h
      · have := blockT_size e v ws _ _ l s r h
        simp at this ⊢; omega
theorem blocksT_size (e v : Int) : ∀ (n : Nat) (ws : List Wd) (seen : List Int) (bs r : List Blk) (ws' : List Wd), blocksT e v n ws seen bs = .ok r ws' → (∀ b ∈ bs, b.2.length ≤ 1000) → ws.length ≤ 1000 → r.length ≤ bs.length + ws.length ∧ (∀ b ∈ r, b.2.length ≤ 1000) ∧ ws'.length ≤ ws.length
  | 0, ws, seen, bs, r, ws', h, h1, h2 => by
    unfold blocksT at h
    cases h
    exact ⟨by omega, h1, Nat.le_refl _⟩
  | n + 1, [], seen, bs, r, ws', h, h1, h2 => by
    unfold blocksT at h
    cases h
    exact ⟨by omega, h1, Nat.le_refl _⟩
  | n + 1, w :: ws, seen, bs, r, ws', h, h1, h2 => by
    unfold blocksT at h
    split at h
    · split at h
      · cases h
      · rename_i l s' w2 hb
        have q1 := blockT_size e v _ _ _ _ _ _ hb
        have q2 := blockT_len e v _ _ _ _ _ _ hb
        simp only [List.length_cons] at h2
        obtain ⟨r1, r2, r3⟩ := blocksT_size e v n w2 s' _ r ws' h (fun b hb => by
          rcases List.mem_append.1 hb with hb | hb
          · exact h1 b hb
          · rw [List.mem_singleton.1 hb]; simp at q1 ⊢; omega) (by omega)
        simp at r1
        exact ⟨by rw [List.length_cons]; omega, r2, by rw [List.length_cons]; omega⟩
    · cases h
      exact ⟨by simp, h1, Nat.le_refl _⟩
theorem rdf_parts {b : List UInt8} (hb : b.length ≤ 400) : ∃ v bs l u c q x, frA (rdF b) = .tup [.agg (formulaC bs v l), u] ∧ rfrA (rdF b) = .tup [.agg (formulaC bs v l), .agg (faultC c q x)] ∧ IsFault u c q x ∧ bs.length < 1000 ∧ (∀ b ∈ bs, b.2.length ≤ 1000) ∧ l.length < 1000 ∧ ∀ s ∈ l, s.length < 1000 := by
  have hl := splitLen b
  obtain ⟨c, q, x, e1, e2⟩ := errO_is (z := (rdF b).2.2.2) (fun c p h => rdF_code h)
  refine ⟨(rdF b).1, (rdF b).2.1, (rdF b).2.2.1, errO (rdF b).2.2.2, c, q, x, rfl, by unfold rfrA; rw [e1], e2, ?_⟩
  unfold rdF
  split
  · simp
  · split
    · simp
    · rename_i bs ws hbs
      obtain ⟨r1, r2, r3⟩ := blocksT_size _ _ _ _ _ _ _ _ hbs (by simp) (by simp; omega)
      simp only [List.length_drop, List.length_nil] at r1 r3
      split
      · simp
      · rename_i l hc
        obtain ⟨t1, t2⟩ := clT_len _ _ _ _ [] [] _ hc (by simp) (by simp; omega) (by simp; omega)
        exact ⟨by simp only; omega, r2, t1, t2⟩
theorem qdimacsReads_run (F d : Nat) (hF : 2 ^ 21 ≤ F) (b : List UInt8) (h : AHeap) : ∃ h', run F (d + 60) F_skolemlaw5_QdimacsReads [.slice (lstU b)] h = some (.bool true, h') := by
  rw [e_skolemlaw5_QdimacsReads, first5_run F (by omega) (by omega), len_lst]
  simp only [Option.bind_some, bool_bool, Bool.not_true, cond_false]
  by_cases h0 : 400 < b.length
  · rw [decide_eq_true (show (400 : Int) < (b.length : Int) by omega)]
    exact ⟨h, rfl⟩
  rw [decide_eq_false (show ¬ (400 : Int) < (b.length : Int) by omega)]
  simp only [cond_false]
  obtain ⟨v, bs, l, u, c, q, x, a1, a2, a3, a4, a5, a6, a7⟩ := rdf_parts (b := b) (by omega)
  rw [fread_run F (d + 51) (by omega) (by omega), a1]
  simp only [Option.bind_some, tup2, comp0, comp1, cond_true, agg_agg]
  rw [cond_pos _ _ (okQ bs v l)]
  have s1 := (Sep0.start h).push 1 3 (cs := zero3) rfl
  obtain ⟨h7, e7, s7⟩ := s1.putAll (i := 0) (vs := formulaC bs v l) rfl rfl rfl
  rw [e7, Option.bind_some, rform_run F (d + 54) (by omega) (by omega), a2]
  simp only [Option.bind_some, tup2, comp0, comp1, cond_true, agg_agg]
  rw [cond_pos _ _ (okQ bs v l)]
  have s8 := (s7.push 1 3 (cs := zero3) rfl).push 1 3 (cs := [(AVal.int .i64 (0 : Int)), (.bool false), (.int .i64 (0 : Int))]) rfl
  obtain ⟨h13, e13, s13⟩ := s8.putAll (i := 1) (vs := formulaC bs v l) rfl rfl rfl
  obtain ⟨h14, e14, s14⟩ := s13.putAll (i := 2) (vs := faultC c q x) rfl rfl rfl
  rw [e13, Option.bind_some, cond_pos _ _ (okF c q x), e14, Option.bind_some, beq_self_eq_true, cond_true, s14.getAll (i := 0) rfl rfl, Option.bind_some, s14.getAll (i := 1) rfl rfl, Option.bind_some]
  rw [sameForm_run F (d + 55) v (by omega) (by omega) (fun b hb => by have := a5 b hb; omega) (by omega) (by omega) (fun s hs => by have := a7 s hs; omega)]
  simp only [Option.bind_some, bool_bool, beq_self_eq_true, cond_true]
  rw [s14.getAll (i := 2) rfl rfl, Option.bind_some, same_true F (d + 55) a3 (by omega)]
  exact ⟨_, rfl⟩
end Go.Proofs.YtdkckkhghghhdaaDoor
