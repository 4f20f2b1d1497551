/-
  Parts of the proof of QdimacsBlocks: qdimacs: a reader's block. qdimacs: a reader's blocks. qdimacs.Read. Clauses and formulas as text: the program's and the reference's. Clauses' text is read as they were. skolemref.SameInts. The document's small functions on numbers: skolemref.SameInts, Has, Ints. Literals. lits.Check. skolemmake.Near. skolemref1.CheckCNF; skolemmake.NearAll, Count. qdimacs.Check, skolemref1.CheckFormula. A formula's text is read as it was. Blocks on whatever lines: what is read. skolemref1.ReadFormula. skolemref1.ReadFormula: all blocks, the whole. skolemref1.ReadFormula: the whole. Clauses held against clauses; what the readers tell. QdimacsReads. What is there still, behind calls. skolemref.Bytes: a slice of its own. skolemworld.Number. QdimacsBlocks.
-/
import Derived.Test.YtdkckkhghghhdaaDoorTQdimacsBlocks1
import Derived.Test.YtdkckkhghghhdaaDoorE
import Derived.Test.YtdkckkhghghhdaaDoorBm31
namespace Go.Proofs.YtdkckkhghghhdaaDoor
open Go.RowKit

abbrev rdrC (W : List Wd) (k : Nat) (e vars : Int) (m : Nat) : List AVal := [.slice (lstW W), .int .i64 (k : Int), .int .i64 e, .int .i64 vars, .map (some m)]
abbrev zeroW : List AVal := [.str (⟨#[]⟩ : ByteArray), .int .i64 (0 : Int), .bool false]
theorem isCellW (w : Wd) : (!false && Nat.beq (List.length (wdC w)) 3 && List.all (wdC w) AVal.isCell) = true := rfl
theorem okErr (c : Int) : (bif (Nat.beq (List.length (AVal.cells err_api_ErrText)) 1 && Nat.ble (1 + 1) (List.length [(AVal.int .i64 c), .nilif]) && List.all (AVal.cells err_api_ErrText) AVal.isCell) then ((some (AHeap.overlay [(AVal.int .i64 c), .nilif] 1 (AVal.cells err_api_ErrText)))) else (none)) = some [.int .i64 c, err_api_ErrText] := rfl
theorem allErr (c : Int) : List.all [AVal.int .i64 c, err_api_ErrText] AVal.isCell = true := rfl
theorem lenErr (c : Int) : List.length [AVal.int .i64 c, err_api_ErrText] = 2 := rfl
theorem rdr_bad {h0 h : AHeap} {L : List Chunk} (hs : Sep0 h0 h L) (p : Int) : Sep0 h0 (h.push 1 [.int .i64 p, err_api_ErrText]) (.own 1 h.next 0 2 [.int .i64 p, err_api_ErrText] :: L) := (hs.push 1 2 rfl).cons

/-- what a block hands back -/
def BlkPost (W : List Wd) (e vars : Int) (R m : Nat) (L : List Chunk) (h0 : AHeap) : BkR → AVal → AHeap → Prop
  | .bad p, v, h' => ∃ r, v = .tup [.slice .nil, .iface T_p_api_At (.ptr (.mk ⟨r, 0, 0⟩ 2))] ∧ Sep0 h0 h' (.own 1 r 0 2 [.int .i64 p, err_api_ErrText] :: L)
  | .ok l seen ws, v, h' => ∃ s' k', v = .tup [.slice s', .nilif] ∧ Sep0 h0 h' (.own 1 R 0 5 (rdrC W k' e vars m) :: .mp h0.maps.length m (seenM seen) :: .grown 1 s' (intsC l) :: L) ∧ ws = W.drop k' ∧ k' ≤ W.length
theorem blk_loop (fuel d : Nat) {W : List Wd} {e vars : Int} {R m : Nat} {L : List Chunk} {h0 : AHeap} (hf : 20 < fuel) (hW : W.length < 70000) : ∀ (n k : Nat) (acc seen : List Int) (s : Sl) (h : AHeap), W.length < n + k → k ≤ W.length → acc.length ≤ k →
    Sep0 h0 h (.own 1 R 0 5 (rdrC W k e vars m) :: .mp h0.maps.length m (seenM seen) :: .grown 1 s (intsC acc) :: L) →
    ∃ v h', (l_qdimacs_reader_block_0 fuel (d + 3) n [(0, .ptr (.mk ⟨R, 0, 0⟩ 5)), (4, .slice s)] h).bind (fun p => k_qdimacs_reader_block_0 fuel (d + 3) p.1 p.2.1 p.2.2) = some (v, h') ∧ BlkPost W e vars R m L h0 (blockT e vars (W.drop k) seen acc) v h' := by
  intro n
  induction n with
  | zero => intro k acc seen s h h1 h2; omega
  | succ n ih =>
    intro k acc seen s h h1 h2 h3 hs
    have hl := hs.len (i := 2) rfl
    simp only [List.length_map, Nat.mul_one] at hl
    rw [l_qdimacs_reader_block_0_eq]
    have c0 : h.cell (.mk ⟨R, 0, 0 + 0⟩ 5) = some (.slice (lstW W)) := hs.part (i := 0) rfl (by omega) rfl
    have c1 : h.cell (.mk ⟨R, 0, 0 + 1⟩ 5) = some (.int .i64 (k : Int)) := hs.part (i := 0) rfl (by omega) rfl
    have sj := hs.junk (cs := zeroW)
    have d0 : (h.push 1 zeroW).cell (.mk ⟨R, 0, 0 + 0⟩ 5) = some (.slice (lstW W)) := sj.part (i := 0) rfl (by omega) rfl
    have d1 : (h.push 1 zeroW).cell (.mk ⟨R, 0, 0 + 1⟩ 5) = some (.int .i64 (k : Int)) := sj.part (i := 0) rfl (by omega) rfl
    simp only [chk_mk, field_mk, Option.bind_some, c0, c1, int_int, slice_slice, len_lst]
    by_cases hk : k < W.length
    · have hd : W.drop k = W.getD k ⟨[], 0, false⟩ :: W.drop (k + 1) := by rw [List.drop_eq_getElem_cons hk]; simp [List.getD, hk]
      have hk' : (k : Int) < (W.length : Int) := by omega
      simp only [hk', decide_true, cond_true, hd]
      have a1 : ∀ h : AHeap, h.addr 3 (lstW W) (k : Int) = some (.fp 0 (wdC (W.getD k ⟨[], 0, false⟩))) := fun h => addr_lstN (sz := 3) (f := wdC) wdC_len (l := W) (j := (k : Int)) (by omega) (by omega) ⟨[], 0, false⟩ false
      simp only [a1, Option.bind_some]
      generalize W.getD k ⟨[], 0, false⟩ = w
      simp only [cellsAt_fp (wdC_len w), d0, d1, Option.bind_some, int_int, slice_slice, same_self, a1]
      obtain ⟨h3', e1, s3, w0, w1, w2⟩ := copyW hs w
      rw [cond_pos _ _ (isCellW w), e1]
      simp only [Option.bind_some, field_mk, w0, w1, str_str]
      rw [wNum_run fuel d hf]
      simp only [Option.bind_some, tup2, cond_true, comp0, comp1, int_int, bool_bool]
      have g1 : h3'.cell (.mk ⟨R, 0, 0 + 1⟩ 5) = some (.int .i64 (k : Int)) := s3.part (i := 0) rfl (by omega) rfl
      have g3 : h3'.cell (.mk ⟨R, 0, 0 + 3⟩ 5) = some (.int .i64 vars) := s3.part (i := 0) rfl (by omega) rfl
      have g4 : h3'.cell (.mk ⟨R, 0, 0 + 4⟩ 5) = some (.map (some m)) := s3.part (i := 0) rfl (by omega) rfl
      have gm : h3'.maps[m]? = some (seenM seen) := s3.getMap (i := 1) rfl
      unfold blockT
      by_cases hz : okNum w.text = true ∧ numW w.text = 0
      · rw [if_pos hz, hz.1, hz.2]
        obtain ⟨h4, e4, s4⟩ := s3.put (i := 0) (o := 1) (l := 5) (vs := [.int .i64 ((k + 1 : Nat) : Int)]) rfl (by simp) (by simp)
        simp only [decide_true, cond_true, chk_mk, field_mk, Option.bind_some, g1, int_int, sucU (show k < 9000000000000000000 by omega)]
        rw [Nat.zero_add, e4, Option.bind_some]
        simp only [k_qdimacs_reader_block_0_r, Option.bind_some]
        exact ⟨_, h4, rfl, s, k + 1, rfl, s4, rfl, by omega⟩
      · have hz' : (bif okNum w.text then decide (numW w.text = 0) else false) = false := by
          cases h8 : okNum w.text with
          | false => rfl
          | true => rw [cond_true]; exact decide_eq_false fun h9 => hz ⟨h8, h9⟩
        rw [if_neg hz, hz', cond_false]
        simp only [chk_mk, field_mk, Option.bind_some, g3, int_int]
        have hcond : ((bif ((bif (!okNum w.text) then true else (decide (numW w.text < (1 : Int)))) == false) then (some ((AVal.bool (decide (vars < numW w.text))), h3')) else (some ((.bool true), h3')) : Option (AVal × AHeap))) = some (.bool (!okNum w.text || decide (numW w.text < 1) || (okNum w.text && !decide (numW w.text < 1) && decide (vars < numW w.text))), h3') := by
          cases okNum w.text <;> cases decide (numW w.text < 1) <;> cases decide (vars < numW w.text) <;> rfl
        rw [hcond]
        simp only [chk_mk, field_mk, Option.bind_some, bool_bool, g4, map_map, mapOf_some, gm, mfind_seen, mgot_seen]
        have hcond2 : ∀ b : Bool, ((bif b == false then (some (AVal.bool (seen.contains (numW w.text)), h3')) else (some ((.bool true), h3')) : Option (AVal × AHeap))) = some (.bool (b || seen.contains (numW w.text)), h3') := fun b => by cases b <;> rfl
        rw [hcond2]
        simp only [Option.bind_some, bool_bool]
        have hb : (!okNum w.text || decide (numW w.text < 1) || (okNum w.text && !decide (numW w.text < 1) && decide (vars < numW w.text)) || seen.contains (numW w.text)) = badV w.text vars seen := by
          unfold badV
          cases okNum w.text <;> cases decide (numW w.text < 1) <;> cases decide (vars < numW w.text) <;> cases seen.contains (numW w.text) <;> rfl
        rw [hb]
        cases hbad : badV w.text vars seen with
        | true =>
          simp only [cond_true, if_true, field_mk, Option.bind_some, w1, int_int, okErr]
          simp only [allErr, lenErr, cond_true, k_qdimacs_reader_block_0_r, Option.bind_some]
          exact ⟨_, _, rfl, _, rfl, rdr_bad (s3.sub (((List.Sublist.refl L).cons _ |>.cons _ |>.cons _))) _⟩
        | false =>
          have hcon : seen.contains (numW w.text) = false := by
            unfold badV at hbad
            simp only [Bool.or_eq_false_iff] at hbad
            exact hbad.2
          simp only [cond_false, Bool.false_eq_true, if_false, chk_mk, field_mk, g4, map_map, gm, mset_seen _ _ hcon, Option.bind_some]
          have s4 := s3.setMap (i := 1) rfl (seenM (seen ++ [numW w.text]))
          obtain ⟨s', h5, e5, s5, l5⟩ := s4.grow (i := 2) (bytes := 8) (m := 1) (vs := [.int .i64 (numW w.text)]) rfl rfl (by omega) (by omega)
          rw [e5]
          have j1 : h5.cell (.mk ⟨R, 0, 0 + 1⟩ 5) = some (.int .i64 (k : Int)) := s5.part (i := 0) rfl (by omega) rfl
          obtain ⟨h6, e6, s6⟩ := s5.put (i := 0) (o := 1) (l := 5) (vs := [.int .i64 ((k + 1 : Nat) : Int)]) rfl (by simp) (by simp)
          simp only [Option.bind_some, j1, int_int, sucU (show k < 9000000000000000000 by omega)]
          rw [Nat.zero_add, e6, Option.bind_some]
          refine ih (k + 1) (acc ++ [numW w.text]) (seen ++ [numW w.text]) s' h6 (by omega) (by omega) (by simp; omega) ?_
          rw [intsC_app]
          exact s6
    · have : k = W.length := by omega
      subst this
      have hk' : ¬ (W.length : Int) < (W.length : Int) := by omega
      simp only [hk', decide_false, cond_false, List.drop_length]
      have c2 : h.cell (.mk ⟨R, 0, 0 + 2⟩ 5) = some (.int .i64 e) := hs.part (i := 0) rfl (by omega) rfl
      simp only [Option.bind_some, k_qdimacs_reader_block_0_x0, chk_mk, field_mk, c2, int_int, okErr, allErr, lenErr, cond_true]
      exact ⟨_, _, rfl, _, rfl, rdr_bad (hs.sub (((List.Sublist.refl L).cons _ |>.cons _ |>.cons _))) _⟩
end Go.Proofs.YtdkckkhghghhdaaDoor

namespace Go.Proofs.YtdkckkhghghhdaaDoor
open Go.RowKit

theorem tx_is (t u : List UInt8) : decide (tx t = tx u) = (t == u) := by
  have := txt_ne t u
  cases h1 : decide (tx t = tx u) <;> cases h2 : (t == u) <;> simp_all
theorem tx_e (t : List UInt8) : decide (tx t = (⟨#[101]⟩ : ByteArray)) = (t == [101]) := tx_is t [101]
theorem tx_a (t : List UInt8) : decide (tx t = (⟨#[97]⟩ : ByteArray)) = (t == [97]) := tx_is t [97]
theorem block_run (fuel d : Nat) {W : List Wd} {e vars : Int} {R m k : Nat} {L : List Chunk} {h0 h : AHeap} (hf : 20 < fuel) (hW : W.length < 70000) (hWf : W.length < fuel) (hk : k ≤ W.length) {seen : List Int}
    (hs : Sep0 h0 h (.own 1 R 0 5 (rdrC W k e vars m) :: .mp h0.maps.length m (seenM seen) :: L)) :
    ∃ v h', run fuel (d + 4) F_qdimacs_reader_block [.ptr (.mk ⟨R, 0, 0⟩ 5)] h = some (v, h') ∧ BlkPost W e vars R m L h0 (blockT e vars (W.drop k) seen []) v h' := by
  rw [e_qdimacs_reader_block]
  exact blk_loop fuel d hf hW fuel k [] seen .nil h (by omega) hk (by simp) (hs.nil2 1)
def begE : List Wd → Bool
  | [] => false
  | w :: _ => w.first && w.text == [101]
def begI : List Wd → Bool
  | [] => false
  | w :: _ => isBk w
theorem begins_run (fuel d : Nat) {W : List Wd} {e vars : Int} {R m k : Nat} {L : List Chunk} {h0 h : AHeap} (hk : k ≤ W.length) (hs : Sep0 h0 h (.own 1 R 0 5 (rdrC W k e vars m) :: L)) :
    run fuel (d + 1) F_qdimacs_reader_begins [.ptr (.mk ⟨R, 0, 0⟩ 5)] h = some (.tup [.bool (begE (W.drop k)), .bool (begI (W.drop k))], h) := by
  have c0 : h.cell (.mk ⟨R, 0, 0 + 0⟩ 5) = some (.slice (lstW W)) := hs.part (i := 0) rfl (by omega) rfl
  have c1 : h.cell (.mk ⟨R, 0, 0 + 1⟩ 5) = some (.int .i64 (k : Int)) := hs.part (i := 0) rfl (by omega) rfl
  rw [e_qdimacs_reader_begins]
  simp only [chk_mk, field_mk, Option.bind_some, c0, c1, int_int, slice_slice, len_lst]
  by_cases hlt : k < W.length
  · have hd : W.drop k = W.getD k ⟨[], 0, false⟩ :: W.drop (k + 1) := by rw [List.drop_eq_getElem_cons hlt]; simp [List.getD, hlt]
    have hn : ¬ ((W.length : Nat) : Int) ≤ (k : Int) := by omega
    have a1 : h.addr 3 (lstW W) (k : Int) = some (.fp 0 (wdC (W.getD k ⟨[], 0, false⟩))) := addr_lstN (sz := 3) (f := wdC) wdC_len (l := W) (j := (k : Int)) (by omega) (by omega) ⟨[], 0, false⟩ false
    simp only [hn, decide_false, cond_false, a1, Option.bind_some, hd]
    generalize W.getD k ⟨[], 0, false⟩ = w at a1
    simp only [wdC, field_fp, List.drop_succ_cons, List.drop_zero, Option.bind_some, cell_fp, bool_bool, k_qdimacs_reader_begins_0_n, chk_mk, field_mk, c0, c1, int_int, slice_slice, str_str]
    simp only [a1, Option.bind_some, wdC, field_fp, List.drop_zero, cell_fp, str_str, tx_e, tx_a]
    show _ = some (AVal.tup [.bool (w.first && w.text == [101]), .bool (w.first && (w.text == [97] || w.text == [101]))], h)
    cases w.first <;> cases w.text == [97] <;> cases w.text == [101] <;> rfl
  · have hn : ((W.length : Nat) : Int) ≤ (k : Int) := by omega
    have : k = W.length := by omega
    subst this
    simp only [hn, decide_true, cond_true, Option.bind_some, k_qdimacs_reader_begins_0_n, List.drop_length]
    rfl

/-- what all blocks hand back -/
def BsPost (W : List Wd) (e vars : Int) (R m : Nat) (L : List Chunk) (h0 : AHeap) : BsR → AVal → AHeap → Prop
  | .bad p, v, h' => ∃ r, v = .tup [.slice .nil, .iface T_p_api_At (.ptr (.mk ⟨r, 0, 0⟩ 2))] ∧ Sep0 h0 h' (.own 1 r 0 2 [.int .i64 p, err_api_ErrText] :: L)
  | .ok l ws, v, h' => ∃ s' k' seen, v = .tup [.slice s', .nilif] ∧ Sep0 h0 h' (.own 1 R 0 5 (rdrC W k' e vars m) :: .mp h0.maps.length m (seenM seen) :: .grown 2 s' (blksC l) :: L) ∧ ws = W.drop k' ∧ k' ≤ W.length
theorem blks_loop (fuel d : Nat) {W : List Wd} {e vars : Int} {R m : Nat} {L : List Chunk} {h0 : AHeap} (hf : 20 < fuel) (hW : W.length < 70000) (hWf : W.length < fuel) : ∀ (n N k : Nat) (bs : List Blk) (seen : List Int) (o : Sl) (h : AHeap), W.length < n + k → W.length < N + k → k ≤ W.length → bs.length ≤ k →
    Sep0 h0 h (.own 1 R 0 5 (rdrC W k e vars m) :: .mp h0.maps.length m (seenM seen) :: .grown 2 o (blksC bs) :: L) →
    ∃ v h', (l_qdimacs_reader_blocks_0 fuel (d + 4) n [(0, .ptr (.mk ⟨R, 0, 0⟩ 5)), (4, .slice o), (5, .bool (begE (W.drop k))), (6, .bool (begI (W.drop k)))] h).bind (fun p => k_qdimacs_reader_blocks_0 fuel (d + 4) p.1 p.2.1 p.2.2) = some (v, h') ∧ BsPost W e vars R m L h0 (blocksT e vars N (W.drop k) seen bs) v h' := by
  intro n
  induction n with
  | zero => intro N k bs seen o h h1 h1' h2; omega
  | succ n ih =>
    intro N k bs seen o h h1 h1' h2 h3 hs
    have hl := hs.len (i := 2) rfl
    rw [flatMap_len blkC_len] at hl
    rw [l_qdimacs_reader_blocks_0_eq]
    by_cases hlt : k < W.length
    · have hd : W.drop k = W.getD k ⟨[], 0, false⟩ :: W.drop (k + 1) := by rw [List.drop_eq_getElem_cons hlt]; simp [List.getD, hlt]
      rw [hd]
      generalize W.getD k ⟨[], 0, false⟩ = w at hd ⊢
      obtain ⟨N, rfl⟩ : ∃ M, N = M + 1 := ⟨N - 1, by omega⟩
      simp only [blocksT, begI, begE]
      cases hb : isBk w with
      | true =>
        have c1 : h.cell (.mk ⟨R, 0, 0 + 1⟩ 5) = some (.int .i64 (k : Int)) := hs.part (i := 0) rfl (by omega) rfl
        obtain ⟨h4, e4, s4⟩ := hs.put (i := 0) (o := 1) (l := 5) (vs := [.int .i64 ((k + 1 : Nat) : Int)]) rfl (by simp) (by simp)
        simp only [cond_true, if_true, chk_mk, field_mk, Option.bind_some, c1, int_int, sucU (show k < 9000000000000000000 by omega)]
        rw [Nat.zero_add, e4, Option.bind_some]
        obtain ⟨v, h5, e5, q5⟩ := block_run fuel d (k := k + 1) (e := e) (vars := vars) hf hW hWf (by omega) (seen := seen) (L := .grown 2 o (blksC bs) :: L) s4
        rw [e5, Option.bind_some]
        cases hbl : blockT e vars (W.drop (k + 1)) seen [] with
        | bad p =>
          rw [hbl] at q5
          obtain ⟨r, rfl, s5⟩ := q5
          simp only [tup2, comp0, comp1, cond_true, Option.bind_some, slice_slice, nilTest_if, Bool.not_false, k_qdimacs_reader_blocks_0_r]
          exact ⟨_, _, rfl, r, rfl, s5.sub (((List.Sublist.refl L).cons _).cons_cons _)⟩
        | ok l seen' ws =>
          rw [hbl] at q5
          obtain ⟨s', k', rfl, s5, rfl, hk'⟩ := q5
          have hlen := blockT_len e vars _ _ _ _ _ _ hbl
          simp only [List.length_drop] at hlen
          have hl1 := s5.len (i := 2) rfl
          have hl2 := s5.len (i := 3) rfl
          simp only [List.length_map, Nat.mul_one] at hl1
          obtain ⟨h6, e6, s6⟩ := s5.fix (i := 2) rfl (closedL_map (fun _ => rfl) l) 1
          have hfx : h5.fixL [.bool (w.first && w.text == [101]), .slice s'] = ([.bool (w.first && w.text == [101]), .slice (lstI l)], h6) := by
            rw [fixL_cons]
            have e0 : h5.fixV (.bool (w.first && w.text == [101])) = (.bool (w.first && w.text == [101]), h5) := rfl
            rw [e0, fixL_one, e6, ← hl1]
          simp only [tup2, comp0, comp1, cond_true, Option.bind_some, slice_slice, bool_bool, nilTest_nilif, Bool.not_true, cond_false]
          obtain ⟨o', h7, e7, s7, l7⟩ := s6.grow (i := 3) (bytes := 32) (m := 1) (vs := blkC (w.first && w.text == [101], l)) rfl rfl (by omega) (by omega)
          rw [hfx, show [AVal.bool (w.first && w.text == [101]), .slice (lstI l)] = blkC (w.first && w.text == [101], l) from rfl, e7, Option.bind_some]
          have s8 := s7.sub (L' := [.own 1 R 0 5 (rdrC W k' e vars m), .mp h0.maps.length m (seenM seen'), .grown 2 o' (blksC bs ++ blkC (w.first && w.text == [101], l))] ++ L) (by
            exact (((List.Sublist.refl _).cons _).cons_cons _).cons_cons _)
          rw [begins_run fuel (d + 3) hk' s8]
          simp only [tup2, comp0, comp1, cond_true, Option.bind_some, bool_bool]
          have hwf : (w.first && w.text == [101]) = (w.text == [101]) := by
            unfold isBk at hb
            cases hfst : w.first with
            | true => rfl
            | false => rw [hfst] at hb; cases hb
          rw [← hwf]
          refine ih N k' (bs ++ [(w.first && w.text == [101], l)]) seen' o' h7 (by omega) (by omega) hk' (by simp; omega) ?_
          rw [blksC_app]
          simpa [blksC] using s8
      | false =>
        simp only [cond_false, Bool.false_eq_true, if_false, Option.bind_some, k_qdimacs_reader_blocks_0_x0]
        exact ⟨_, _, rfl, o, k, seen, rfl, hs, by rw [hd], h2⟩
    · have : k = W.length := by omega
      subst this
      obtain ⟨N, rfl⟩ : ∃ M, N = M + 1 := ⟨N - 1, by omega⟩
      simp only [List.drop_length, begI, blocksT, cond_false, Option.bind_some, k_qdimacs_reader_blocks_0_x0]
      exact ⟨_, _, rfl, o, W.length, seen, rfl, hs, by rw [List.drop_length], h2⟩
theorem blocks_run (fuel d : Nat) {W : List Wd} {e vars : Int} {R m k : Nat} {L : List Chunk} {h0 h : AHeap} (hf : 20 < fuel) (hW : W.length < 70000) (hWf : W.length < fuel) (hk : k ≤ W.length)
    (hs : Sep0 h0 h (.own 1 R 0 5 (rdrC W k e vars m) :: .mp h0.maps.length m [] :: L)) (N : Nat) (hN : W.length < N + k) :
    ∃ v h', run fuel (d + 5) F_qdimacs_reader_blocks [.ptr (.mk ⟨R, 0, 0⟩ 5)] h = some (v, h') ∧ BsPost W e vars R m L h0 (blocksT e vars N (W.drop k) [] []) v h' := by
  rw [e_qdimacs_reader_blocks, begins_run fuel (d + 3) hk hs]
  simp only [tup2, comp0, comp1, cond_true, Option.bind_some, bool_bool]
  exact blks_loop fuel d hf hW hWf fuel N k [] [] .nil h (by omega) hN hk (by simp) (hs.nil2 2)
end Go.Proofs.YtdkckkhghghhdaaDoor

namespace Go.Proofs.YtdkckkhghghhdaaDoor
open Go.RowKit

/-- variables, blocks, clauses, what is amiss -/
abbrev FR := Int × List Blk × List (List Int) × Option (Int × Int)
def rdF (b : List UInt8) : FR := match headT (b.length : Int) (splitOf b true) with
  | .bad c p => (0, [], [], some (c, p))
  | .ok v m => match blocksT (b.length : Int) v ((splitOf b true).length + 1) ((splitOf b true).drop 4) [] [] with
    | .bad p => (0, [], [], some (101, p))
    | .ok bs ws => match clT (b.length : Int) v m ws [] [] with
      | .bad p => (0, [], [], some (101, p))
      | .ok l => (v, bs, l, none)
def formulaC (bs : List Blk) (v : Int) (l : List (List Int)) : List AVal := [.slice (lstBk bs), .int .i64 v, .slice (lstLL l)]
def frA (r : FR) : AVal := .tup [.agg (formulaC r.2.1 r.1 r.2.2.1), errO r.2.2.2]
theorem freeze_form {h : AHeap} (n : Nat) (bs : List Blk) (v : Int) (l : List (List Int)) : freezeV h (n + 3) (.agg (formulaC bs v l)) = some (.agg (formulaC bs v l)) :=
  freeze_agg (n + 2) (mm3 (freeze_lstBk (n + 1) bs) rfl (freeze_lst _ _ _ (closedL_map closed_lstI l)))
abbrev zero3 : List AVal := [(AVal.slice Sl.nil), (.int .i64 (0 : Int)), (.slice Sl.nil)]
theorem fread_body (fuel d : Nat) {b : List UInt8} (hf : b.length + 40 ≤ fuel) (hb : b.length < 60000) : ∃ v h', brun fuel (d + 8) F_qdimacs_Read [.slice (lstU b)] AHeap.none = some (v, h') ∧ freezeV h' 8 v = some (frA (rdF b)) := by
  have hl := splitLen b
  have s0 := (Sep0.start AHeap.none).push 1 3 (cs := zero3) rfl
  have fr0 : ∀ (h' : AHeap) (u : AVal) (o : Option (Int × Int)), freezeV h' 7 u = some (errO o) → freezeV h' 8 (.tup [.agg zero3, u]) = some (frA (0, [], [], o)) := fun h' u o hu => freeze_tup2 _ (freeze_agg 6 (mm3 rfl rfl rfl)) hu
  rw [e_qdimacs_Read, len_lst, bif_neg (by omega), split_run fuel (d + 4) (by omega) (by omega), Option.bind_some, slice_slice, Option.bind_some, head_run fuel d (by omega)]
  generalize AHeap.push AHeap.none 1 zero3 = H at s0
  unfold rdF
  cases hh : headT (b.length : Int) (splitOf b true) with
  | bad c p =>
    obtain ⟨h', e1, s1⟩ := s0.putAll (i := 0) (vs := zero3) rfl rfl rfl
    simp only [hdA, Option.bind_some, tup4, cond_true, comp0, comp1, comp2, comp3, int_int, atV_no, Bool.not_false]
    rw [e1, Option.bind_some, s1.getAll (i := 0) rfl rfl]
    refine ⟨_, h', rfl, fr0 h' _ (some (c, p)) ?_⟩
    rcases headT_code hh with rfl | rfl <;> rfl
  | ok v m =>
    have h4 := headT_ok4 hh
    have sm := s0.addMap
    have sr := (sm.push 1 5 (cs := rdrC (splitOf b true) 4 (b.length : Int) v H.maps.length) rfl)
    have sp : Sep0 AHeap.none _ (.own 1 (AHeap.next (AHeap.newMap H)) 0 5 (rdrC (splitOf b true) 4 (b.length : Int) v H.maps.length) :: .mp AHeap.none.maps.length H.maps.length [] :: [.own 1 (AHeap.next AHeap.none) 0 3 zero3]) := sr.perm (List.reverse_perm [_, _, _]).symm
    simp only [hdA, Option.bind_some, tup4, cond_true, comp0, comp1, comp2, comp3, int_int, nilTest_nilif, Bool.not_true, cond_false]
    obtain ⟨w, h5, e5, q5⟩ := blocks_run fuel (d + 2) (W := splitOf b true) (k := 4) (by omega) (by omega) (by omega) h4 sp ((splitOf b true).length + 1) (by omega)
    have e5' : run fuel (d + 7) F_qdimacs_reader_blocks [.ptr (.mk ⟨AHeap.next (AHeap.newMap H), 0, 0⟩ 5)] (AHeap.push (AHeap.newMap H) 1 [(AVal.slice (lstW (splitOf b true))), (.int .i64 4), (.int .i64 ((b.length : Nat) : Int)), (.int .i64 v), (.map (some H.maps.length))]) = some (w, h5) := e5
    rw [e5', Option.bind_some]
    cases hbs : blocksT (b.length : Int) v ((splitOf b true).length + 1) ((splitOf b true).drop 4) [] [] with
    | bad p =>
      rw [hbs] at q5
      obtain ⟨r, rfl, s5⟩ := q5
      obtain ⟨h', e1, s1⟩ := s5.putAll (i := 1) (vs := zero3) rfl rfl rfl
      simp only [tup2, comp0, comp1, cond_true, Option.bind_some, slice_slice, nilTest_if, Bool.not_false]
      rw [e1, Option.bind_some, s1.getAll (i := 1) rfl rfl]
      refine ⟨_, h', rfl, fr0 h' _ (some (101, p)) ?_⟩
      rw [freeze_iface, (s1.sep.own (i := 0) rfl).freezePtr (m := 5) (l := 2) rfl (us := [.int .i64 p, err_api_ErrText]) (mm2 rfl rfl)]
      rfl
    | ok bs ws =>
      rw [hbs] at q5
      obtain ⟨s', k', seen, rfl, s5, rfl, hk'⟩ := q5
      have c1 : h5.cell (.mk ⟨AHeap.next (AHeap.newMap H), 0, 0 + 1⟩ 5) = some (.int .i64 (k' : Int)) := s5.part (i := 0) rfl (by omega) rfl
      simp only [tup2, comp0, comp1, cond_true, Option.bind_some, slice_slice, nilTest_nilif, Bool.not_true, cond_false, chk_mk, field_mk, c1, int_int, len_lst, aHi_none, aMx_none]
      rw [aLo_some (by omega) (by omega), Option.bind_some, hasSz_lstN wdC_len, cond_true, Int.toNat_natCast, cut_lstN wdC_len (splitOf b true) (Nat.le_refl _), show ((splitOf b true).drop k').take ((splitOf b true).length - k') = (splitOf b true).drop k' from List.take_of_length_le (by simp), cl_run fuel (d + 3) (by simp; omega) (by simp; omega)]
      cases hc : clT (b.length : Int) v m ((splitOf b true).drop k') [] [] with
      | bad p =>
        obtain ⟨h', e1, s1⟩ := s5.putAll (i := 3) (vs := zero3) rfl rfl rfl
        simp only [clA, Option.bind_some, tup2, comp0, comp1, cond_true, slice_slice]
        rw [show nilTest .iface (atV p err_api_ErrText) = some false from rfl]
        simp only [Option.bind_some, Bool.not_false, cond_true]
        rw [e1, Option.bind_some, s1.getAll (i := 3) rfl rfl]
        exact ⟨_, h', rfl, fr0 h' _ (some (101, p)) rfl⟩
      | ok l =>
        obtain ⟨h', e1, s1⟩ := s5.putAll (i := 3) (vs := [.slice s', .int .i64 v, .slice (lstLL l)]) rfl rfl rfl
        simp only [clA, Option.bind_some, tup2, comp0, comp1, cond_true, slice_slice, nilTest_nilif, Bool.not_true, cond_false]
        rw [e1, Option.bind_some, s1.getAll (i := 3) rfl rfl]
        refine ⟨_, h', rfl, freeze_tup2 _ (freeze_agg 6 (mm3 ?_ rfl (freeze_lst _ _ _ (closedL_map closed_lstI l)))) rfl⟩
        have hl2 := s1.len (i := 2) rfl
        rw [flatMap_len blkC_len] at hl2
        rw [(s1.sep.grown (i := 2) rfl).freeze (n := 5) (by omega) (freeze_blksC 4 bs), show s'.len = bs.length by omega]
theorem fread_nil (fuel d : Nat) (hf : 40 ≤ fuel) (h : AHeap) : run fuel (d + 8) F_qdimacs_Read [.slice .nil] h = some (frA (rdF []), h) := by
  obtain ⟨v, h', e1, e2⟩ := fread_body fuel d (b := []) (by simp; omega) (by simp)
  exact pure_of rfl rfl (cc1 (canon_nil 7)) e1 e2
theorem fread_any (fuel d : Nat) {b : List UInt8} (hf : b.length + 40 ≤ fuel) (hb : b.length < 60000) {h : AHeap} {s : Sl} (hs : freezeV h 8 (.slice s) = some (.slice (lstU b))) : ∃ ids, run fuel (d + 8) F_qdimacs_Read [.slice s] h = some (frA (rdF b), h.markRo ids) := by
  obtain ⟨v, h', e1, e2⟩ := fread_body fuel d hf hb
  exact run_any rfl rfl (mm1 hs) e1 e2
end Go.Proofs.YtdkckkhghghhdaaDoor

namespace Go.Proofs.YtdkckkhghghhdaaDoor
open Go.RowKit

/-- a line's numbers -/
def LnOk (l : List Int) : Prop := l.length < 1000 ∧ ∀ x ∈ l, Num64 x
theorem numsT_num : ∀ {l : List Int}, (∀ x ∈ l, Num64 x) → (numsT l).length ≤ 21 * l.length
  | [], _ => by simp [numsT]
  | x :: l, hx => by
    have h1 := numsT_num (l := l) fun y hy => hx y (List.mem_cons_of_mem _ hy)
    have h2 := decT_len (hx x (List.mem_cons_self ..))
    have e : numsT (x :: l) = decT x ++ [32] ++ numsT l := by simp [numsT]
    rw [e, List.length_append, List.length_append, List.length_cons]
    simp
    omega
theorem LnOk.len {l : List Int} (h : LnOk l) : (lineT l).length ≤ 30000 := by
  have := numsT_num h.2
  have := h.1
  simp only [lineT, List.length_append, List.length_cons, List.length_nil]
  omega
def linesT (l : List (List Int)) : List UInt8 := l.flatMap lineT
theorem linesT_cons (c : List Int) (l : List (List Int)) : linesT (c :: l) = lineT c ++ linesT l := by simp [linesT]
def blkT (b : Blk) : List UInt8 := (if b.1 = true then [101, 32] else [97, 32]) ++ lineT b.2
def blksT (l : List Blk) : List UInt8 := l.flatMap blkT
theorem blksT_cons (c : Blk) (l : List Blk) : blksT (c :: l) = blkT c ++ blksT l := by simp [blksT]
def cnfTx (v : Int) (l : List (List Int)) : List UInt8 := headTx v (l.length : Int) ++ linesT l
def formTx (bs : List Blk) (v : Int) (l : List (List Int)) : List UInt8 := headTx v (l.length : Int) ++ blksT bs ++ linesT l

theorem ln_run (fuel d : Nat) (hf : 1000 ≤ fuel) {l : List Int} (hl : LnOk l) {h0 h : AHeap} {s : Sl} {t : List UInt8} (ht : t.length < 700000000) (hs : Sep0 h0 h [.grown 1 s (bytesC t)]) :
    ∃ s' h', run fuel (d + 6) F_dimacs_Line [.slice s, .slice (lstI l)] h = some (.slice s', h') ∧ Sep0 h0 h' [.grown 1 s' (bytesC (t ++ lineT l))] := by
  have h1 := hl.1
  exact lineP_run fuel (d + 5) (by omega) (by omega) (fun x hx => (hl.2 x hx).app fuel d (by omega)) (by omega) hs
theorem Sep0.keepCell {g h0 h : AHeap} {L K : List Chunk} (hs : Sep0 h0 h L) (hb : Sep0 g h0 K) {i sz id gen n o l : Nat} {cs : List AVal} (hi : K[i]? = some (.own sz id gen n cs)) {v : AVal} (hl : o < l) (hv : cs[o]? = some v) : h.cell (.mk ⟨id, gen, o⟩ l) = some v :=
  cell_keep hs.ext (fun h => h) (hb.part hi hl hv)
theorem bytes_fr {h0 h : AHeap} {s : Sl} {t : List UInt8} (hs : Sep0 h0 h [.grown 1 s (bytesC t)]) : freezeV h 8 (.slice s) = some (.slice (lstU t)) := by
  have hl := hs.len (i := 0) rfl
  simp only [List.length_map, Nat.mul_one] at hl
  rw [(hs.sep.grown (i := 0) rfl).freeze (n := 7) (by omega) (freeze_bytesC 6 _), ← hl]
/-! formulas -/
theorem qB_lines (fuel d : Nat) (hf : 1000 ≤ fuel) {l : List (List Int)} (hl : l.length < 10000) (hok : ∀ c ∈ l, LnOk c) {h0 : AHeap} : ∀ (n k : Nat) (s : Sl) (t : List UInt8) (h : AHeap), l.length < n + k → k ≤ l.length → t.length + 30000 * (l.length - k) < 600000000 → Sep0 h0 h [.grown 1 s (bytesC t)] →
    ∃ s' h', (l_qdimacs_Bytes_1 fuel (d + 6) n [(3, .slice s), (33, .slice (lstLL l)), (34, .int .i64 (l.length : Int)), (35, .int .i64 (k : Int))] h).bind (fun p => k_qdimacs_Bytes_2 fuel (d + 6) p.1 p.2.1 p.2.2) = some (.slice s', h') ∧ Sep0 h0 h' [.grown 1 s' (bytesC (t ++ linesT (l.drop k)))] := by
  intro n
  induction n with
  | zero => intro k s t h h1 h2; omega
  | succ n ih =>
    intro k s t h h1 h2 ht hs
    rw [l_qdimacs_Bytes_1_eq]
    by_cases hk : k < l.length
    · have hd : l.drop k = l.getD k [] :: l.drop (k + 1) := by rw [List.drop_eq_getElem_cons hk]; simp [List.getD, hk]
      have hx := hok (l.getD k []) (by simp [List.getD, hk])
      rw [bif_pos (by omega), addr_lstM _ (by omega) (by omega) [], hd, Int.toNat_natCast]
      generalize l.getD k [] = c at hx
      have := hx.len
      simp only [Option.bind_some, cell_fp, slice_slice]
      obtain ⟨s1, h1', e1, q1⟩ := ln_run fuel d hf hx (by omega) hs
      rw [e1]
      simp only [Option.bind_some, slice_slice]
      rw [sucU (by omega)]
      obtain ⟨s2, h2', e2, q2⟩ := ih (k + 1) s1 _ h1' (by omega) (by omega) (by simp; omega) q1
      refine ⟨s2, h2', e2, ?_⟩
      rw [linesT_cons, ← List.append_assoc]
      exact q2
    · have : k = l.length := by omega
      subst this
      rw [bif_neg (by omega), List.drop_length]
      simp only [Option.bind_some, k_qdimacs_Bytes_2_x2]
      exact ⟨s, h, rfl, by simpa [linesT] using hs⟩
theorem isCellB (b : Blk) : (!false && Nat.beq (List.length (blkC b)) 2 && List.all (blkC b) AVal.isCell) = true := rfl
theorem copyB {h0 h : AHeap} {L : List Chunk} (hs : Sep0 h0 h L) (b : Blk) : ∃ h3, AHeap.storeAt (AHeap.push h 1 [(.bool false), (.slice Sl.nil)]) (blkC b) (Pt.mk ⟨AHeap.next h, 0, 0⟩ 2) = some h3 ∧ Sep0 h0 h3 (L ++ [.own 1 h.next 0 2 (blkC b)]) := by
  have s1 := hs.push 1 2 (cs := [(AVal.bool false), (.slice Sl.nil)]) rfl
  have hi : (L ++ [Chunk.own 1 h.next 0 2 [(AVal.bool false), (.slice Sl.nil)]])[L.length]? = some (Chunk.own 1 h.next 0 2 [(AVal.bool false), (.slice Sl.nil)]) := by simp
  obtain ⟨h3, e1, s2⟩ := s1.putAll (vs := blkC b) hi rfl rfl
  have hset : (L ++ [Chunk.own 1 h.next 0 2 [(AVal.bool false), (.slice Sl.nil)]]).set L.length (Chunk.own 1 h.next 0 2 (blkC b)) = L ++ [Chunk.own 1 h.next 0 2 (blkC b)] := by simp
  exact ⟨h3, e1, by rw [← hset]; exact s2⟩
theorem qB_blks (fuel d : Nat) (hf : 1000 ≤ fuel) {x1 : Pt} {bs : List Blk} (hl : bs.length < 10000) (hok : ∀ c ∈ bs, LnOk c.2) {h0 : AHeap} : ∀ (n k : Nat) (s : Sl) (t : List UInt8) (h : AHeap), bs.length < n + k → k ≤ bs.length → t.length + 30100 * (bs.length - k) < 600000000 → Sep0 h0 h [.grown 1 s (bytesC t)] →
    ∃ s' h', l_qdimacs_Bytes_0 fuel (d + 6) n [(1, .ptr x1), (3, .slice s), (12, .slice (lstBk bs)), (13, .int .i64 (bs.length : Int)), (14, .int .i64 (k : Int))] h = some (.exit 0, [(1, .ptr x1), (3, .slice s')], h') ∧ Sep0 h0 h' [.grown 1 s' (bytesC (t ++ blksT (bs.drop k)))] := by
  intro n
  induction n with
  | zero => intro k s t h h1 h2; omega
  | succ n ih =>
    intro k s t h h1 h2 ht hs
    rw [l_qdimacs_Bytes_0_eq]
    by_cases hk : k < bs.length
    · have hd : bs.drop k = bs.getD k (false, []) :: bs.drop (k + 1) := by rw [List.drop_eq_getElem_cons hk]; simp [List.getD, hk]
      have hx := hok (bs.getD k (false, [])) (by simp [List.getD, hk])
      rw [bif_pos (by omega), addr_lstN (sz := 2) (f := blkC) blkC_len (by omega) (by omega) (false, []), hd, Int.toNat_natCast]
      generalize bs.getD k (false, []) = b at hx
      have hlen := hx.len
      obtain ⟨h3, e3, s3⟩ := copyB hs b
      have c0 : h3.cell (.mk ⟨h.next, 0, 0 + 0⟩ 2) = some (.bool b.1) := s3.part (i := 1) rfl (by omega) rfl
      rw [Option.bind_some, cellsAt_fp (blkC_len b), Option.bind_some, cond_pos _ _ (isCellB b), e3]
      simp only [Option.bind_some, field_mk, c0, bool_bool]
      have tail : ∀ (u : List UInt8) (a : Sl) (g : AHeap), u.length = 2 → u ++ lineT b.2 = blkT b → Sep0 h0 g [.grown 1 a (bytesC (t ++ u)), .own 1 h.next 0 2 (blkC b)] →
          ∃ s' h', k_qdimacs_Bytes_1 fuel (d + 6) n .normal [(1, .ptr x1), (3, .slice a), (5, .ptr (.mk ⟨h.next, 0, 0⟩ 2)), (12, .slice (lstBk bs)), (13, .int .i64 (bs.length : Int)), (14, .int .i64 (k : Int))] g = some (.exit 0, [(1, .ptr x1), (3, .slice s')], h') ∧ Sep0 h0 h' [.grown 1 s' (bytesC (t ++ blksT (b :: bs.drop (k + 1))))] := by
        intro u a g hu hub sg
        have c1 : g.cell (.mk ⟨h.next, 0, 0 + 1⟩ 2) = some (.slice (lstI b.2)) := sg.part (i := 1) rfl (by omega) rfl
        rw [k_qdimacs_Bytes_1_n]
        simp only [field_mk, Option.bind_some, c1, slice_slice]
        obtain ⟨s1, h1', e1, q1⟩ := ln_run fuel d hf hx (t := t ++ u) (by simp; omega) (Sep0.init (L := [_]) sg)
        rw [e1]
        simp only [Option.bind_some, slice_slice]
        rw [sucU (by omega)]
        obtain ⟨s2, h2', e2, q2⟩ := ih (k + 1) s1 _ h1' (by omega) (by omega) (by simp; omega) q1
        refine ⟨s2, h2', e2, ?_⟩
        rw [blksT_cons, ← hub]
        simpa using q2
      cases hb : b.1 with
      | true =>
        rw [cond_true, show [(AVal.int .u8 (101 : Int)), (AVal.int .u8 (32 : Int))] = bytesC [101, 32] from rfl, lit_cells h3 [101, 32] (n := 2) rfl, Option.bind_some, Sl.len]
        have hl := s3.len (i := 0) rfl
        simp only [List.length_map, Nat.mul_one] at hl
        obtain ⟨a, g, e4, s4, _⟩ := (s3.junk (cs := bytesC [101, 32])).grow (i := 0) (bytes := 1) (m := 2) (vs := bytesC [101, 32]) rfl rfl (by omega) (by omega)
        rw [← bytesC_app] at s4
        rw [e4]
        simp only [Option.bind_some]
        exact tail [101, 32] a g rfl (by unfold blkT; rw [hb]; rfl) s4
      | false =>
        rw [cond_false, show [(AVal.int .u8 (97 : Int)), (AVal.int .u8 (32 : Int))] = bytesC [97, 32] from rfl, lit_cells h3 [97, 32] (n := 2) rfl, Option.bind_some, Sl.len]
        have hl := s3.len (i := 0) rfl
        simp only [List.length_map, Nat.mul_one] at hl
        obtain ⟨a, g, e4, s4, _⟩ := (s3.junk (cs := bytesC [97, 32])).grow (i := 0) (bytes := 1) (m := 2) (vs := bytesC [97, 32]) rfl rfl (by omega) (by omega)
        rw [← bytesC_app] at s4
        rw [e4]
        simp only [Option.bind_some]
        exact tail [97, 32] a g rfl (by unfold blkT; rw [hb]; rfl) s4
    · have : k = bs.length := by omega
      subst this
      rw [bif_neg (by omega), List.drop_length]
      exact ⟨s, h, rfl, by simpa [blksT] using hs⟩
theorem blksT_len : ∀ {bs : List Blk}, (∀ c ∈ bs, LnOk c.2) → (blksT bs).length ≤ 30100 * bs.length
  | [], _ => by simp [blksT]
  | b :: bs, h => by
    have h1 := blksT_len (bs := bs) fun c hc => h c (List.mem_cons_of_mem _ hc)
    have h2 := (h b (List.mem_cons_self ..)).len
    rw [blksT_cons, List.length_append, List.length_cons]
    have h3 : (blkT b).length ≤ 2 + 30000 := by
      unfold blkT
      rw [List.length_append]
      split <;> simp <;> omega
    omega
theorem qB_body (fuel d : Nat) (hf : 1000 ≤ fuel) {bs : List Blk} {v : Int} {l : List (List Int)} (hv : Num64 v) (hl : l.length < 5000) (hlf : l.length < fuel) (hbl : bs.length < 1000) (hbf : bs.length < fuel) (hok : ∀ c ∈ l, LnOk c) (hbk : ∀ c ∈ bs, LnOk c.2) :
    ∃ s' h', brun fuel (d + 7) F_qdimacs_Bytes [.agg (formulaC bs v l)] AHeap.none = some (.slice s', h') ∧ freezeV h' 8 (.slice s') = some (.slice (lstU (formTx bs v l))) := by
  have hlen := headTx_len hv (show Num64 (l.length : Int) from ⟨by omega, by omega⟩)
  have s1 := (Sep0.start AHeap.none).push 1 3 (cs := formulaC bs v l) rfl
  obtain ⟨s2, h2, e2, q2⟩ := headB_run fuel d (by omega) (l := l) hv (by omega) (AHeap.none.push 1 (formulaC bs v l))
  obtain ⟨s3, h3, e3, q3⟩ := qB_blks fuel d hf (x1 := .mk ⟨AHeap.next AHeap.none, 0, 0⟩ 3) (by omega) hbk fuel 0 s2 _ h2 (by omega) (by omega) (by omega) q2
  rw [List.drop_zero] at q3
  have hb3 := blksT_len hbk
  obtain ⟨s4, h4, e4, q4⟩ := qB_lines fuel d hf (by omega) hok fuel 0 s3 _ h3 (by omega) (by omega) (by rw [List.length_append]; omega) q3
  rw [List.drop_zero] at q4
  refine ⟨s4, h4, ?_, bytes_fr q4⟩
  have c12 : (AHeap.none.push 1 (formulaC bs v l)).cellsAt 2 (.mk ⟨AHeap.next AHeap.none, 0, 0 + 1⟩ 3) = some (cnfC v l) := by
    have := (s1.sep.own (i := 0) rfl).parts (o := 0 + 1) (k := 2) (l := 3) (by omega) (by simp [formulaC])
    exact this
  rw [e_qdimacs_Bytes, show List.all (formulaC bs v l) AVal.isCell = true from rfl, cond_true, show (formulaC bs v l).length = 3 from rfl]
  simp only [field_mk, Option.bind_some, c12]
  rw [e2]
  simp only [Option.bind_some, slice_slice]
  rw [q2.keepCell s1 (i := 0) (o := 0 + 0) (l := 3) rfl (by omega) rfl]
  simp only [Option.bind_some, slice_slice, len_lst]
  rw [show ((0 : Nat) : Int) = 0 from rfl] at e3
  rw [e3]
  simp only [Option.bind_some, k_qdimacs_Bytes_0_x0, field_mk]
  rw [q3.keepCell s1 (i := 0) (o := 0 + 1 + 1) (l := 3) rfl (by omega) rfl]
  simp only [Option.bind_some, slice_slice, len_lst]
  exact e4
theorem qB_none (fuel d : Nat) (hf : 1000 ≤ fuel) (h : AHeap) : run fuel (d + 7) F_qdimacs_Bytes [.agg zero3] h = some (.slice (lstU (formTx [] 0 [])), h) := by
  obtain ⟨s', h', e1, e2⟩ := qB_body fuel d hf (bs := []) (v := 0) (l := []) ⟨by omega, by omega⟩ (by simp) (by simp; omega) (by simp) (by simp; omega) (fun c hc => by cases hc) (fun c hc => by cases hc)
  exact pure_of rfl rfl (cc1 rfl) e1 e2

/-! the reference's -/
end Go.Proofs.YtdkckkhghghhdaaDoor

namespace Go.Proofs.YtdkckkhghghhdaaDoor
open Go.RowKit

/-- words of numbers -/
def numWs : List Int → Nat → Bool → List Wd
  | [], _, _ => []
  | x :: l, p, f => ⟨decT x, p, f⟩ :: numWs l (p + (decT x).length + 1) false
/-- a literal that is read as it is -/
def LitOk (v x : Int) : Prop := x ≠ 0 ∧ isI x v = true ∧ -1000000000 < x ∧ x < 1000000000
theorem LitOk.text {v x : Int} (h : LitOk v x) : noLitV (decT x) v = false ∧ numW (decT x) = x := by
  obtain ⟨a1, a2, _⟩ := decT_num h.2.2.1 h.2.2.2
  refine ⟨?_, a2⟩
  unfold noLitV
  rw [a1, a2, decide_eq_false h.1, h.2.1]; rfl
theorem cnt_ok {x most : Int} (h0 : 0 ≤ x) (h1 : x < 1000000000) (hm : x ≤ most) (p : Nat) : cntC ⟨decT x, p, false⟩ most = none := by
  obtain ⟨a1, a2, a3⟩ := decT_num (x := x) (by omega) h1
  unfold cntC plainW
  simp only [a1, a2, a3 h0]
  rw [if_neg (by simp), if_neg (by omega)]
theorem headT_text {e v n : Int} (hv : 0 ≤ v) (hv1 : v ≤ 4000) (hn : 0 ≤ n) (hn1 : n ≤ 20000) (p : Nat) (W : List Wd) : headT e (⟨[112], 0, true⟩ :: ⟨[99, 110, 102], 2, false⟩ :: ⟨decT v, 6, false⟩ :: ⟨decT n, p, false⟩ :: W) = .ok v n := by
  unfold headT
  simp only [cnt_ok hv (by omega) hv1, cnt_ok hn (by omega) hn1]
  rw [if_neg (by simp), if_neg (by simp), (decT_num (x := v) (by omega) (by omega)).2.1, (decT_num (x := n) (by omega) (by omega)).2.1]
end Go.Proofs.YtdkckkhghghhdaaDoor

namespace Go.Proofs.YtdkckkhghghhdaaDoor
open Go.RowKit

theorem sucS {m : Nat} (h : m < 9000000000000000000) : IntKind.wrap .i64 ((m : Int) + 1) = ((m + 1 : Nat) : Int) := by rw [wrap64 (by omega) (by omega)]; omega
theorem sameI_loop (fuel d : Nat) {a b : List Int} (hl : a.length = b.length) (hn : a.length < 1000000000) {h : AHeap} : ∀ (n k : Nat), a.length < n + k → k ≤ a.length → a.take k = b.take k →
    (l_skolemref_SameInts_0 fuel d n [(0, .slice (lstI a)), (1, .slice (lstI b)), (5, .int .i64 (k : Int))] h).bind (fun p => k_skolemref_SameInts_0 fuel d p.1 p.2.1 p.2.2) = some (.bool (decide (a = b)), h) := by
  intro n
  induction n with
  | zero => intro k h1 h2; omega
  | succ n ih =>
    intro k h1 h2 h3
    rw [l_skolemref_SameInts_0_eq, len_lst]
    by_cases hk : k < a.length
    · rw [bif_pos (by omega), addr_lstM _ (by omega) (by omega) 0, addr_lstM _ (by omega) (by omega) 0]
      simp only [Option.bind_some, cell_fp, int_int, Int.toNat_natCast]
      by_cases he : a.getD k 0 = b.getD k 0
      · rw [bif_npos he, sucS (by omega), ih (k + 1) (by omega) (by omega) (by rw [take_get hk 0, take_get (by omega) 0, h3, he])]
      · rw [bif_nneg he]
        simp only [Option.bind_some, k_skolemref_SameInts_0_r]
        rw [decide_eq_false (fun h => he (by rw [h]))]
    · have : k = a.length := by omega
      subst this
      rw [bif_neg (by omega)]
      have : a = b := by rw [List.take_length, hl, List.take_length] at h3; exact h3
      simp only [Option.bind_some, k_skolemref_SameInts_0_x0]
      rw [decide_eq_true this]
theorem sameI_run (fuel d : Nat) {a b : List Int} {s t : Sl} {h : AHeap} (hs : freezeV h 8 (.slice s) = some (.slice (lstI a))) (ht : freezeV h 8 (.slice t) = some (.slice (lstI b))) (hn : a.length < 1000000000) (hf : a.length < fuel) :
    run fuel (d + 1) F_skolemref_SameInts [.slice s, .slice t] h = some (.bool (decide (a = b)), h) := by
  refine run_val rfl rfl (mm2 hs ht) (r := .bool (decide (a = b))) (h' := AHeap.none) ?_ rfl rfl
  rw [e_skolemref_SameInts, len_lst, len_lst]
  by_cases hl : a.length = b.length
  · rw [bif_npos (by omega)]
    have := sameI_loop fuel d hl hn (h := AHeap.none) fuel 0 (by omega) (by omega) rfl
    exact this
  · rw [bif_nneg (by omega), decide_eq_false (fun h => hl (by rw [h]))]

end Go.Proofs.YtdkckkhghghhdaaDoor

namespace Go.Proofs.YtdkckkhghghhdaaDoor
open Go.RowKit

end Go.Proofs.YtdkckkhghghhdaaDoor

namespace Go.Proofs.YtdkckkhghghhdaaDoor
open Go.RowKit

theorem succI {n : Nat} (h : n < 9000000000000000000) : IntKind.wrap .i64 ((n : Int) + 1) = ((n + 1 : Nat) : Int) := by rw [wrap64 (by omega) (by omega)]; omega

/-! lits.Var -/
def varI (l : Int) : Int := bif decide (l < IntKind.wrap .i64 (0 - l)) then IntKind.wrap .i64 (0 - l) else l
def okInt (l : Int) : Prop := -9223372036854775808 < l ∧ l ≤ 9223372036854775807
end Go.Proofs.YtdkckkhghghhdaaDoor

namespace Go.Proofs.YtdkckkhghghhdaaDoor
open Go.RowKit

/-! Functions that are handed over; the captured rows are told as they stand. -/
def idxF (p : Int → Bool) : List Int → Nat → Int
  | [], _ => -1
  | x :: l, k => if p x = true then (k : Int) else idxF p l (k + 1)
/-! lits.Check -/
/-- The first clause that is not right. -/
def badI (vars : Int) : List (List Int) → Nat → Option Nat
  | [], _ => none
  | c :: cc, k => if (c.any fun l => !isI l vars) = true then some k else badI vars cc (k + 1)
/-- An error, and the place where it is. -/
abbrev atN (k : Nat) (e : AVal) : AVal := .iface T_p_api_At (.ptr (.fp 0 [.int .i64 (k : Int), e]))
def checkI (vars : Int) (cc : List (List Int)) : AVal :=
  if vars < 0 ∨ 4000 < vars ∨ 20000 < cc.length ∨ 80000 < totalI cc then err_api_ErrLimit else
  match badI vars cc 0 with
  | some k => atN k err_api_ErrRange
  | none => .nilif

end Go.Proofs.YtdkckkhghghhdaaDoor

namespace Go.Proofs.YtdkckkhghghhdaaDoor
open Go.RowKit

/-- not too near to the least of numbers -/
def nearI (a : List Int) : Bool := a.all fun x => !decide (x < -1152921504606846976)
theorem near_loop (fuel d : Nat) {a : List Int} (hn : a.length < 9000000000000000000) {h : AHeap} : ∀ (n k : Nat), a.length < n + k → k ≤ a.length →
    (l_skolemmake_Near_0 fuel d n [(0, .slice (lstI a)), (3, .int .i64 (k : Int))] h).bind (fun p => k_skolemmake_Near_0 fuel d p.1 p.2.1 p.2.2) = some (.bool (nearI (a.drop k)), h) := by
  intro n
  induction n with
  | zero => intro k h1 h2; omega
  | succ n ih =>
    intro k h1 h2
    rw [l_skolemmake_Near_0_eq, len_lst]
    by_cases hk : k < a.length
    · rw [bif_pos (by omega), addr_lstM _ (by omega) (by omega) 0]
      simp only [Option.bind_some, cell_fp, int_int, Int.toNat_natCast]
      have hd : a.drop k = a.getD k 0 :: a.drop (k + 1) := by rw [List.drop_eq_getElem_cons hk]; simp [List.getD, hk]
      rw [hd]
      unfold nearI
      rw [List.all_cons]
      by_cases he : a.getD k 0 < -1152921504606846976
      · rw [bif_pos he, decide_eq_true he]
        simp only [Option.bind_some, k_skolemmake_Near_0_r, Bool.not_true, Bool.false_and]
      · rw [bif_neg he, succI (by omega), ih (k + 1) (by omega) (by omega), decide_eq_false he, Bool.not_false, Bool.true_and]
        rfl
    · have : k = a.length := by omega
      subst this
      rw [bif_neg (by omega)]
      simp only [Option.bind_some, k_skolemmake_Near_0_x0, List.drop_length]
      rfl
theorem near_run (fuel d : Nat) {a : List Int} {s : Sl} {h : AHeap} (hs : freezeV h 8 (.slice s) = some (.slice (lstI a))) (hn : a.length < 9000000000000000000) (hf : a.length < fuel) :
    run fuel (d + 1) F_skolemmake_Near [.slice s] h = some (.bool (nearI a), h) := by
  refine run_val rfl rfl (mm1 hs) (r := .bool (nearI a)) (h' := AHeap.none) ?_ rfl rfl
  rw [e_skolemmake_Near]
  have := near_loop fuel d hn (h := AHeap.none) fuel 0 (by omega) (by omega)
  rw [List.drop_zero] at this
  exact this
end Go.Proofs.YtdkckkhghghhdaaDoor

namespace Go.Proofs.YtdkckkhghghhdaaDoor
open Go.RowKit

/-! skolemmake.NearAll, Count -/
/-! skolemref1.CheckCNF -/
/-- the fault of clauses, as cells -/
def faultI (vars : Int) (cc : List (List Int)) : List AVal :=
  if vars < 0 ∨ 4000 < vars ∨ 20000 < cc.length ∨ 80000 < totalI cc then faultC 102 false 0 else
  match badI vars cc 0 with
  | some k => faultC 104 true (k : Int)
  | none => faultC 0 false 0
end Go.Proofs.YtdkckkhghghhdaaDoor

namespace Go.Proofs.YtdkckkhghghhdaaDoor
open Go.RowKit

def badX (vars x : Int) (seen : List Int) : Bool := decide (x < 1) || decide (vars < x) || seen.contains x
def badVs (vars : Int) : List Int → List Int → Option (List Int)
  | [], seen => some seen
  | x :: l, seen => if badX vars x seen = true then none else badVs vars l (seen ++ [x])
def badBs (vars : Int) : List Blk → List Int → Nat → Option Nat
  | [], _, _ => none
  | b :: bs, seen, k => match badVs vars b.2 seen with
    | none => some k
    | some s => badBs vars bs s (k + 1)
def bkE : Option Nat → AVal
  | none => .nilif
  | some k => atV (k : Int) err_api_ErrRange
def bkF : Option Nat → List AVal
  | none => faultC 0 false 0
  | some k => faultC 104 true (k : Int)
def checkF (bs : List Blk) (v : Int) (l : List (List Int)) : AVal := match checkI v l with
  | .nilif => bkE (badBs v bs [] 0)
  | e => e
def faultF (bs : List Blk) (v : Int) (l : List (List Int)) : List AVal := match checkI v l with
  | .nilif => bkF (badBs v bs [] 0)
  | _ => faultI v l
/-! the reference's -/
end Go.Proofs.YtdkckkhghghhdaaDoor

namespace Go.Proofs.YtdkckkhghghhdaaDoor
open Go.RowKit

end Go.Proofs.YtdkckkhghghhdaaDoor

namespace Go.Proofs.YtdkckkhghghhdaaDoor
open Go.RowKit

def gapT (g : Nat) : List UInt8 := if g = 0 then [32] else if g = 1 then [10] else [32, 9]
def dgT (x : Int) : List UInt8 := (if 9 < x then [49] else []) ++ [UInt8.ofNat (48 + x.toNat % 10)]
def numsG (g : Nat) (l : List Int) : List UInt8 := l.flatMap fun x => gapT g ++ dgT x
def bT (g : Nat) (b : Blk) : List UInt8 := (if b.1 = true then [101] else [97]) ++ (numsG g b.2 ++ [32, 48, 10])
def bsT (g : Nat) (bs : List Blk) : List UInt8 := bs.flatMap (bT g)
def hdG : List UInt8 := [112, 32, 99, 110, 102, 32, 49, 50, 32, 48, 10]
/-- one number behind the other, from a number on -/
def conS : Int → List Int → Prop
  | _, [] => True
  | a, x :: l => x = a ∧ conS (a + 1) l
def conB : Int → List Blk → Prop
  | _, [] => True
  | a, b :: bs => conS a b.2 ∧ conB (a + b.2.length) bs
def totB (bs : List Blk) : Nat := (bs.map fun b => b.2.length).sum
def flatB (bs : List Blk) : List Int := bs.flatMap fun b => b.2
theorem dg_ok {x : Int} (h1 : 1 ≤ x) (h2 : x ≤ 12) : dgT x ≠ [] ∧ (dgT x).all isW = true ∧ (dgT x).getD 0 0 ≠ 99 ∧ okNum (dgT x) = true ∧ numW (dgT x) = x ∧ (dgT x).length ≤ 2 := by
  have : x = 1 ∨ x = 2 ∨ x = 3 ∨ x = 4 ∨ x = 5 ∨ x = 6 ∨ x = 7 ∨ x = 8 ∨ x = 9 ∨ x = 10 ∨ x = 11 ∨ x = 12 := by omega
  rcases this with rfl | rfl | rfl | rfl | rfl | rfl | rfl | rfl | rfl | rfl | rfl | rfl <;> decide
theorem W_gapG (g : Nat) (r : List UInt8) (p : Nat) (f : Bool) : ∃ f', wordsOf (gapT g ++ r) p f false = wordsOf r (p + (gapT g).length) f' false := by
  unfold gapT
  by_cases h0 : g = 0
  · rw [if_pos h0]
    exact ⟨f, by rw [List.cons_append, List.nil_append, W_sp]; rfl⟩
  · rw [if_neg h0]
    by_cases h1 : g = 1
    · rw [if_pos h1]
      exact ⟨true, by rw [List.cons_append, List.nil_append, W_nl]; rfl⟩
    · rw [if_neg h1]
      exact ⟨f, by rw [List.cons_append, List.cons_append, List.nil_append, W_sp, W_blank (by decide) (by decide)]; rfl⟩
theorem Stops.gapG (g : Nat) (r : List UInt8) : Stops (gapT g ++ r) := by
  unfold gapT
  by_cases h0 : g = 0
  · rw [if_pos h0]; exact Stops.sp r
  · rw [if_neg h0]
    by_cases h1 : g = 1
    · rw [if_pos h1]; exact Stops.nl r
    · rw [if_neg h1]; exact Stops.sp _
theorem numsG_cons (g : Nat) (x : Int) (l : List Int) (r : List UInt8) : numsG g (x :: l) ++ r = gapT g ++ (dgT x ++ (numsG g l ++ r)) := by
  simp [numsG]
theorem Stops.nums (g : Nat) (l : List Int) (R : List UInt8) : Stops (numsG g l ++ ([32, 48, 10] ++ R)) := by
  cases l with
  | nil => exact Stops.sp _
  | cons x l => rw [numsG_cons]; exact Stops.gapG g _
theorem blockT_gap (e : Int) (g : Nat) (R : List UInt8) : ∀ (l : List Int) (p : Nat) (f : Bool) (seen acc : List Int) (a : Int), 1 ≤ a → a + l.length ≤ 13 → conS a l → (∀ x ∈ seen, x < a) →
    blockT e 12 (wordsOf (numsG g l ++ ([32, 48, 10] ++ R)) p f false) seen acc = .ok (acc ++ l) (seen ++ l) (wordsOf R (p + (numsG g l).length + 3) true false)
  | [], p, f, seen, acc, a, h1, h2, h3, h4 => by
    have e1 : numsG g [] ++ (([32, 48, 10] : List UInt8) ++ R) = 32 :: (([48] : List UInt8) ++ 10 :: R) := rfl
    rw [e1, W_sp, W_one (by simp) (by decide) (Stops.nl _) _ (fun _ => by simp), W_nl]
    simp only [blockT]
    rw [if_pos (by decide), List.append_nil, List.append_nil]
    rfl
  | x :: l, p, f, seen, acc, a, h1, h2, h3, h4 => by
    obtain ⟨rfl, h5⟩ := h3
    simp only [List.length_cons] at h2
    obtain ⟨w1, w2, w3, w4, w5, _⟩ := dg_ok (x := x) h1 (by omega)
    obtain ⟨f', eg⟩ := W_gapG g (dgT x ++ (numsG g l ++ ([32, 48, 10] ++ R))) p f
    rw [numsG_cons, eg, W_one w1 w2 (Stops.nums g l R) _ (fun _ => w3)]
    simp only [blockT, w4, w5]
    have hs : seen.contains x = false := by
      rw [List.contains_eq_mem, decide_eq_false_iff_not]
      intro hx
      have := h4 x hx
      omega
    have hb : badV (dgT x) 12 seen = false := by
      unfold badV
      rw [w4, w5, hs, decide_eq_false (show ¬ x < 1 by omega), decide_eq_false (show ¬ (12 : Int) < x by omega)]
      rfl
    rw [if_neg (fun h => by have := h.2; omega), hb, if_neg (by simp), blockT_gap e g R l _ false (seen ++ [x]) (acc ++ [x]) (x + 1) (by omega) (by omega) h5 (fun y hy => by
      rcases List.mem_append.1 hy with hy | hy
      · have := h4 y hy; omega
      · rw [List.mem_singleton.1 hy]; omega)]
    have hl : (numsG g (x :: l)).length = (gapT g).length + ((dgT x).length + (numsG g l).length) := by
      have := congrArg List.length (numsG_cons g x l [])
      simpa using this
    rw [hl, List.append_assoc, List.append_assoc, List.singleton_append, show p + (gapT g).length + (dgT x).length + (numsG g l).length + 3 = p + ((gapT g).length + ((dgT x).length + (numsG g l).length)) + 3 by omega]
theorem bT_word (g : Nat) (b : Blk) (r : List UInt8) (p : Nat) : wordsOf (bT g b ++ r) p true false = ⟨if b.1 = true then [101] else [97], p, true⟩ :: wordsOf (numsG g b.2 ++ ([32, 48, 10] ++ r)) (p + 1) false false := by
  have e1 : bT g b ++ r = (if b.1 = true then [101] else [97]) ++ (numsG g b.2 ++ ([32, 48, 10] ++ r)) := by simp [bT]
  rw [e1]
  cases b.1 with
  | true => rw [if_pos rfl, W_one (by simp) (by decide) (Stops.nums g _ _) p (fun _ => by simp)]; rfl
  | false => rw [if_neg (by simp), W_one (by simp) (by decide) (Stops.nums g _ _) p (fun _ => by simp)]; rfl
theorem bT_len (g : Nat) (b : Blk) : (bT g b).length = 1 + ((numsG g b.2).length + 3) := by
  unfold bT
  cases b.1 <;> simp <;> omega
theorem conS_lt : ∀ {l : List Int} {a : Int}, conS a l → ∀ x ∈ l, a ≤ x ∧ x < a + l.length
  | [], _, _, x, hx => by cases hx
  | y :: l, a, h, x, hx => by
    obtain ⟨rfl, h2⟩ := h
    rw [List.length_cons]
    rcases List.mem_cons.1 hx with rfl | hx
    · omega
    · have := conS_lt h2 x hx
      omega
theorem blocks_gap (e : Int) (g : Nat) (R : List UInt8) : ∀ (bs : List Blk) (p n : Nat) (seen : List Int) (out : List Blk) (a : Int), bs.length ≤ n → 1 ≤ a → a + totB bs ≤ 13 → conB a bs → (∀ x ∈ seen, x < a) →
    blocksT e 12 n (wordsOf (bsT g bs ++ R) p true false) seen out = blocksT e 12 (n - bs.length) (wordsOf R (p + (bsT g bs).length) true false) (seen ++ flatB bs) (out ++ bs) ∧ bs.length + (wordsOf R (p + (bsT g bs).length) true false).length ≤ (wordsOf (bsT g bs ++ R) p true false).length
  | [], p, n, seen, out, a, hn, h1, h2, h3, h4 => by
    rw [show bsT g [] = [] from rfl, List.nil_append, List.length_nil, List.length_nil, Nat.sub_zero, show flatB [] = [] from rfl, List.append_nil, List.append_nil, Nat.add_zero, Nat.zero_add]
    exact ⟨rfl, Nat.le_refl _⟩
  | b :: bs, p, n, seen, out, a, hn, h1, h2, h3, h4 => by
    obtain ⟨h5, h6⟩ := h3
    have ht : totB (b :: bs) = b.2.length + totB bs := by simp [totB]
    rw [ht] at h2
    simp only [List.length_cons] at hn
    obtain ⟨n, rfl⟩ : ∃ m, n = m + 1 := ⟨n - 1, by omega⟩
    have e1 : bsT g (b :: bs) = bT g b ++ bsT g bs := by simp [bsT]
    have e2 := blockT_gap e g (bsT g bs ++ R) b.2 (p + 1) false seen [] a h1 (by omega) h5 h4
    have e3 := blockT_len _ _ _ _ _ _ _ _ e2
    obtain ⟨e4, e5⟩ := blocks_gap e g R bs (p + 1 + (numsG g b.2).length + 3) n (seen ++ b.2) (out ++ [b]) (a + b.2.length) (by omega) (by omega) (by omega) h6 (fun x hx => by
      rcases List.mem_append.1 hx with hx | hx
      · have := h4 x hx; omega
      · exact (conS_lt h5 x hx).2)
    rw [e1, List.append_assoc, bT_word, List.length_append, bT_len, List.length_cons, List.length_cons, show p + (1 + ((numsG g b.2).length + 3) + (bsT g bs).length) = p + 1 + (numsG g b.2).length + 3 + (bsT g bs).length by omega]
    refine ⟨?_, by omega⟩
    have hb : isBk ⟨if b.1 = true then [101] else [97], p, true⟩ = true := by cases b.1 <;> rfl
    have hx : ((if b.1 = true then [101] else [97] : List UInt8) == [101]) = b.1 := by cases b.1 <;> rfl
    rw [show blocksT e 12 (n + 1) (⟨if b.1 = true then [101] else [97], p, true⟩ :: wordsOf (numsG g b.2 ++ ([32, 48, 10] ++ (bsT g bs ++ R))) (p + 1) false false) seen out = blocksT e 12 n (wordsOf (bsT g bs ++ R) (p + 1 + (numsG g b.2).length + 3) true false) (seen ++ b.2) (out ++ [b]) from by
      simp only [blocksT]
      rw [if_pos hb, e2]
      simp only [List.nil_append, hx]]
    rw [e4, show n + 1 - (bs.length + 1) = n - bs.length by omega, show flatB (b :: bs) = b.2 ++ flatB bs from rfl]
    simp
theorem W_hdG (r : List UInt8) : wordsOf (hdG ++ r) 0 true false = ⟨[112], 0, true⟩ :: ⟨[99, 110, 102], 2, false⟩ :: ⟨[49, 50], 6, false⟩ :: ⟨[48], 9, false⟩ :: wordsOf r 11 true false := by
  have e : hdG ++ r = ([112] : List UInt8) ++ 32 :: (([99, 110, 102] : List UInt8) ++ 32 :: (([49, 50] : List UInt8) ++ 32 :: (([48] : List UInt8) ++ 10 :: r))) := rfl
  rw [e, W_one (by simp) (by decide) (Stops.sp _) _ (fun _ => by simp), W_sp, W_one (by simp) (by decide) (Stops.sp _) _ (fun h => by cases h), W_sp, W_one (by simp) (by decide) (Stops.sp _) _ (fun h => by cases h), W_sp, W_one (by simp) (by decide) (Stops.nl _) _ (fun h => by cases h), W_nl]
  rfl
theorem headG (e : Int) (W : List Wd) : headT e (⟨[112], 0, true⟩ :: ⟨[99, 110, 102], 2, false⟩ :: ⟨[49, 50], 6, false⟩ :: ⟨[48], 9, false⟩ :: W) = .ok 12 0 := by
  have h1 : decT 12 = [49, 50] := by decide
  have h2 : decT 0 = [48] := by decide
  have := headT_text (e := e) (v := 12) (n := 0) (by omega) (by omega) (by omega) (by omega) 9 W
  rw [h1, h2] at this
  exact this
theorem rdF_G {g : Nat} {bs : List Blk} (R : List UInt8) (h1 : conB 1 bs) (h2 : totB bs ≤ 12) : ∃ m : Nat, rdF (hdG ++ bsT g bs ++ R) = match blocksT ((hdG ++ bsT g bs ++ R).length : Int) 12 (m + 1) (wordsOf R (hdG ++ bsT g bs).length true false) (flatB bs) bs with
    | .bad p => (0, [], [], some (101, p))
    | .ok bs' ws => match clT ((hdG ++ bsT g bs ++ R).length : Int) 12 0 ws [] [] with
      | .bad p => (0, [], [], some (101, p))
      | .ok l => (12, bs', l, none) := by
  unfold rdF
  rw [splitOf_words]
  generalize ((hdG ++ bsT g bs ++ R).length : Int) = e
  rw [List.append_assoc, W_hdG, headG]
  simp only [List.drop_succ_cons, List.drop_zero]
  generalize hN : (⟨[112], 0, true⟩ :: ⟨[99, 110, 102], 2, false⟩ :: ⟨[49, 50], 6, false⟩ :: ⟨[48], 9, false⟩ :: wordsOf (bsT g bs ++ R) 11 true false : List Wd).length + 1 = N
  simp only [List.length_cons] at hN
  obtain ⟨_, q1⟩ := blocks_gap e g R bs 11 bs.length [] [] 1 (Nat.le_refl _) (by omega) (by omega) h1 (fun x hx => by cases hx)
  obtain ⟨q2, _⟩ := blocks_gap e g R bs 11 N [] [] 1 (by omega) (by omega) (by omega) h1 (fun x hx => by cases hx)
  refine ⟨N - bs.length - 1, ?_⟩
  first
  | (rw [q2, List.nil_append, List.nil_append, show N - bs.length - 1 + 1 = N - bs.length by omega, List.length_append, show hdG.length = 11 from rfl]; done)
  | (rw [q2, List.nil_append, List.nil_append, show N - bs.length - 1 + 1 = N - bs.length by omega, List.length_append, show hdG.length = 11 from rfl]
     generalize blocksT e 12 (N - bs.length) (wordsOf R (11 + (bsT g bs).length) true false) (flatB bs) bs = z
     rcases z with p | ⟨b2, ws⟩
     · rfl
     · cases clT e 12 0 ws [] [] <;> rfl)
theorem rdF_g0 {g : Nat} {bs : List Blk} (h1 : conB 1 bs) (h2 : totB bs ≤ 12) : rdF (hdG ++ bsT g bs) = (12, bs, [], none) := by
  obtain ⟨m, e⟩ := rdF_G (g := g) [] h1 h2
  rw [List.append_nil] at e
  rw [e, W_nil]
  rfl
theorem rdF_g13 {g : Nat} {bs : List Blk} (h1 : conB 1 bs) (h2 : totB bs ≤ 12) : rdF (hdG ++ bsT g bs ++ [101, 32, 49, 51, 32, 48]) = (0, [], [], some (101, ((hdG ++ bsT g bs).length : Int) + 2)) := by
  obtain ⟨m, e⟩ := rdF_G (g := g) [101, 32, 49, 51, 32, 48] h1 h2
  rw [e]
  generalize (hdG ++ bsT g bs).length = p
  have e1 : ([101, 32, 49, 51, 32, 48] : List UInt8) = ([101] : List UInt8) ++ 32 :: (([49, 51] : List UInt8) ++ 32 :: (([48] : List UInt8) ++ [])) := rfl
  rw [e1, W_one (by simp) (by decide) (Stops.sp _) _ (fun _ => by simp), W_sp, W_one (by simp) (by decide) (Stops.sp _) _ (fun h => by cases h), W_sp, W_one (by simp) (by decide) Stops.nil _ (fun h => by cases h), W_nil]
  simp only [blocksT, blockT]
  rw [if_pos (show isBk ⟨[101], p, true⟩ = true from rfl), if_neg (by decide), if_pos (show badV [49, 51] 12 (flatB bs) = true from by
    unfold badV
    rw [decide_eq_true (show (12 : Int) < numW [49, 51] by decide), Bool.or_true]
    rfl)]
  rfl
theorem conB_first : ∀ {bs : List Blk} {a : Int}, conB a bs → totB bs ≠ 0 → a ∈ flatB bs
  | [], _, _, h => absurd rfl h
  | b :: bs, a, h, ht => by
    obtain ⟨h1, h2⟩ := h
    have hf : flatB (b :: bs) = b.2 ++ flatB bs := rfl
    rw [hf]
    cases hb : b.2 with
    | nil =>
      rw [hb] at h2
      have ht' : totB (b :: bs) = b.2.length + totB bs := by simp [totB]
      rw [ht', hb, List.length_nil, Nat.zero_add] at ht
      have := conB_first h2 ht
      simpa using this
    | cons x l =>
      rw [hb] at h1
      obtain ⟨rfl, _⟩ := h1
      exact List.mem_append_left _ (List.mem_cons_self ..)
theorem rdF_g1 {g : Nat} {bs : List Blk} (h1 : conB 1 bs) (h2 : totB bs ≤ 12) (h3 : totB bs ≠ 0) : rdF (hdG ++ bsT g bs ++ [97, 32, 49, 32, 48]) = (0, [], [], some (101, ((hdG ++ bsT g bs).length : Int) + 2)) := by
  obtain ⟨m, e⟩ := rdF_G (g := g) [97, 32, 49, 32, 48] h1 h2
  rw [e]
  have hm := conB_first h1 h3
  generalize (hdG ++ bsT g bs).length = p
  have e1 : ([97, 32, 49, 32, 48] : List UInt8) = ([97] : List UInt8) ++ 32 :: (([49] : List UInt8) ++ 32 :: (([48] : List UInt8) ++ [])) := rfl
  rw [e1, W_one (by simp) (by decide) (Stops.sp _) _ (fun _ => by simp), W_sp, W_one (by simp) (by decide) (Stops.sp _) _ (fun h => by cases h), W_sp, W_one (by simp) (by decide) Stops.nil _ (fun h => by cases h), W_nil]
  simp only [blocksT, blockT]
  rw [if_pos (show isBk ⟨[97], p, true⟩ = true from rfl), if_neg (by decide), if_pos (show badV [49] 12 (flatB bs) = true from by
    unfold badV
    rw [show numW [49] = 1 by decide, show (flatB bs).contains 1 = true from by rw [List.contains_eq_mem]; exact decide_eq_true hm, Bool.or_true])]
  rfl
end Go.Proofs.YtdkckkhghghhdaaDoor

namespace Go.Proofs.YtdkckkhghghhdaaDoor
open Go.RowKit

def rfrA (r : FR) : AVal := .tup [.agg (formulaC r.2.1 r.1 r.2.2.1), .agg (faultO r.2.2.2)]
/-- the frame of the reference's loops -/
abbrev rfFr (b : List UInt8) (W : List Wd) (A B F Q : Nat) (v m : Int) (s : Sl) (k : Nat) : Fr :=
  [(0, .slice (lstU b)), (2, .ptr (.mk ⟨A, 0, 0⟩ 3)), (3, .ptr (.mk ⟨B, 0, 0⟩ 3)), (4, .slice (lstW W)), (5, .int .i64 v), (6, .int .i64 m), (7, .ptr (.mk ⟨F, 0, 0⟩ 3)), (8, .ptr (.mk ⟨Q, 0, 0⟩ 3)), (9, .slice s), (10, .int .i64 (k : Int))]
/-- what the inner loop leaves -/
def RkPost (b : List UInt8) (W : List Wd) (A B F Q X : Nat) (v m : Int) (ex : Bool) (fa fb ff fq : List AVal) (L : List Chunk) (h0 : AHeap) : BkR → AExit → Fr → AHeap → Prop
  | .bad p, e, fr, h' => ∃ t k, e = .ret ∧ fr = rfFr b W A B F Q v m t k ++ [(11, .ptr (.mk ⟨X, 0, 0⟩ 2))] ∧ Sep0 h0 h' [.own 1 A 0 3 zero3, .own 1 B 0 3 (faultC 101 true p)]
  | .ok l seen ws, e, fr, h' => ∃ s t k, e = .exit 2 ∧ fr = rfFr b W A B F Q v m t k ++ [(11, .ptr (.mk ⟨X, 0, 0⟩ 2))] ∧
      Sep0 h0 h' (.own 1 A 0 3 fa :: .own 1 B 0 3 fb :: .own 1 F 0 3 ff :: .own 1 Q 0 3 fq :: .own 1 X 0 2 [.bool ex, .slice s] :: .grown 1 s (intsC l) :: .grown 1 t (intsC seen) :: L) ∧ ws = W.drop k ∧ k ≤ W.length ∧ seen.length ≤ k ∧ seen.contains 0 = false
end Go.Proofs.YtdkckkhghghhdaaDoor

namespace Go.Proofs.YtdkckkhghghhdaaDoor
open Go.RowKit

/-- the frame of the outer loop behind the blocks -/
abbrev rfEx (b : List UInt8) (W : List Wd) (A B F Q : Nat) (v m : Int) (k : Nat) : Fr :=
  [(0, .slice (lstU b)), (2, .ptr (.mk ⟨A, 0, 0⟩ 3)), (3, .ptr (.mk ⟨B, 0, 0⟩ 3)), (4, .slice (lstW W)), (5, .int .i64 v), (6, .int .i64 m), (7, .ptr (.mk ⟨F, 0, 0⟩ 3)), (8, .ptr (.mk ⟨Q, 0, 0⟩ 3)), (10, .int .i64 (k : Int))]
/-- what the outer loop leaves -/
def RsPost (b : List UInt8) (W : List Wd) (A B F Q : Nat) (v m : Int) (fa fb ff : List AVal) (h0 : AHeap) : BsR → AExit → Fr → AHeap → Prop
  | .bad p, e, fr, h' => ∃ k, e = .ret ∧ fr = rfEx b W A B F Q v m k ∧ Sep0 h0 h' [.own 1 A 0 3 zero3, .own 1 B 0 3 (faultC 101 true p)]
  | .ok l ws, e, fr, h' => ∃ o k, e = .exit 0 ∧ fr = rfEx b W A B F Q v m k ∧
      Sep0 h0 h' [.own 1 A 0 3 fa, .own 1 B 0 3 fb, .own 1 F 0 3 ff, .own 1 Q 0 3 [.slice o, .int .i64 0, .slice Sl.nil], .grown 2 o (blksC l)] ∧ ws = W.drop k ∧ k ≤ W.length
end Go.Proofs.YtdkckkhghghhdaaDoor

namespace Go.Proofs.YtdkckkhghghhdaaDoor
open Go.RowKit

end Go.Proofs.YtdkckkhghghhdaaDoor

namespace Go.Proofs.YtdkckkhghghhdaaDoor
open Go.RowKit

theorem sameCl_loop (fuel d : Nat) {l : List (List Int)} (hl : l.length < 1000000000) (hs : ∀ s ∈ l, s.length < 1000000000 ∧ s.length < fuel) (h : AHeap) : ∀ (n k : Nat), l.length < n + k → k ≤ l.length →
    l_skolemref_SameClauses_0 fuel (d + 1) n [(0, .slice (lstLL l)), (1, .slice (lstLL l)), (5, .int .i64 (k : Int))] h = some (.exit 0, [(4, .bot)], h) := by
  intro n
  induction n with
  | zero => intro k h1 h2; omega
  | succ n ih =>
    intro k h1 h2
    rw [l_skolemref_SameClauses_0_eq, len_lst]
    by_cases hk : k < l.length
    · obtain ⟨q1, q2⟩ := hs (l.getD k []) (by simp [List.getD, hk])
      rw [bif_pos (by omega), addr_lstM _ (by omega) (by omega) [], Int.toNat_natCast]
      generalize l.getD k [] = s at q1 q2
      simp only [Option.bind_some, cell_fp, slice_slice]
      rw [sameI_run fuel d (freeze_lstI 7 _) (freeze_lstI 7 _) q1 q2]
      simp only [Option.bind_some, bool_bool, decide_true, Bool.not_true, cond_false]
      rw [sucS (by omega)]
      exact ih (k + 1) (by omega) (by omega)
    · rw [bif_neg (by omega)]
theorem sameCl_run (fuel d : Nat) {l : List (List Int)} (hl : l.length < 1000000000) (hlf : l.length < fuel) (hs : ∀ s ∈ l, s.length < 1000000000 ∧ s.length < fuel) (h : AHeap) : run fuel (d + 2) F_skolemref_SameClauses [.slice (lstLL l), .slice (lstLL l)] h = some (.bool true, h) := by
  refine pure_of rfl rfl (cc2 (canon_lstLL 7 l) (canon_lstLL 7 l)) (r := .bool true) (h' := AHeap.none) ?_ rfl
  rw [e_skolemref_SameClauses, len_lst, bif_npos rfl]
  have := sameCl_loop fuel d hl hs AHeap.none fuel 0 (by omega) (by omega)
  rw [show ((0 : Nat) : Int) = 0 from rfl] at this
  rw [this]
  simp only [Option.bind_some, k_skolemref_SameClauses_0_x0]
theorem sameCNF_run (fuel d : Nat) (v : Int) {l : List (List Int)} (hl : l.length < 1000000000) (hlf : l.length < fuel) (hs : ∀ s ∈ l, s.length < 1000000000 ∧ s.length < fuel) (h : AHeap) : run fuel (d + 3) F_skolemref_SameCNF [.agg (cnfC v l), .agg (cnfC v l)] h = some (.bool true, h) := by
  have hc : canonV 8 (.agg (cnfC v l)) = some (.agg (cnfC v l)) := by
    unfold cnfC
    rw [canon_agg, canonM_cons (u := .int .i64 v) rfl (canonM_cons (u := .slice (lstLL l)) (canon_lstLL _ _) (canonM_nil _))]
    rfl
  refine pure_of rfl rfl (cc2 hc hc) (r := .bool true) ?_ rfl (h' := (AHeap.none.push 1 (cnfC v l)).push 1 (cnfC v l))
  rw [e_skolemref_SameCNF, show List.all (cnfC v l) AVal.isCell = true from rfl, cond_true, cond_true, show (cnfC v l).length = 2 from rfl]
  have s1 := ((Sep0.start AHeap.none).push 1 2 (cs := cnfC v l) rfl).push 1 2 (cs := cnfC v l) rfl
  have a0 : ((AHeap.none.push 1 (cnfC v l)).push 1 (cnfC v l)).cell (.mk ⟨AHeap.none.next, 0, 0 + 0⟩ 2) = some (.int .i64 v) := s1.part (i := 0) rfl (by omega) rfl
  have a1 : ((AHeap.none.push 1 (cnfC v l)).push 1 (cnfC v l)).cell (.mk ⟨AHeap.none.next, 0, 0 + 1⟩ 2) = some (.slice (lstLL l)) := s1.part (i := 0) rfl (by omega) rfl
  have b0 : ((AHeap.none.push 1 (cnfC v l)).push 1 (cnfC v l)).cell (.mk ⟨(AHeap.none.push 1 (cnfC v l)).next, 0, 0 + 0⟩ 2) = some (.int .i64 v) := s1.part (i := 1) rfl (by omega) rfl
  have b1 : ((AHeap.none.push 1 (cnfC v l)).push 1 (cnfC v l)).cell (.mk ⟨(AHeap.none.push 1 (cnfC v l)).next, 0, 0 + 1⟩ 2) = some (.slice (lstLL l)) := s1.part (i := 1) rfl (by omega) rfl
  simp only [field_mk, Option.bind_some, a0, a1, b0, b1, int_int, slice_slice, decide_true, beq_self_eq_true, cond_true]
  rw [sameCl_run fuel d hl hlf hs]
  simp only [Option.bind_some, bool_bool]

theorem same_true (fuel d : Nat) {u : AVal} {c x : Int} {q : Bool} (hu : IsFault u c q x) (hf : 10 < fuel) (h : AHeap) : run fuel (d + 4) F_skolemsee_Same [u, .agg (faultC c q x)] h = some (.bool true, h) := by
  rw [Same_run fuel d hu hf c q x, decide_eq_true (rfl : c = c), decide_eq_true (rfl : x = x)]
  cases q <;> rfl
end Go.Proofs.YtdkckkhghghhdaaDoor

namespace Go.Proofs.YtdkckkhghghhdaaDoor
open Go.RowKit

theorem sameBlk_run (fuel d : Nat) {b : Blk} (hb : b.2.length < 1000000) (hf : b.2.length < fuel) (h : AHeap) : run fuel (d + 2) F_skolemref_SameBlock [.agg (blkC b), .agg (blkC b)] h = some (.bool true, h) := by
  have hc : canonV 8 (.agg (blkC b)) = some (.agg (blkC b)) := by
    unfold blkC
    rw [canon_agg, canonM_cons (u := .bool b.1) rfl (canonM_cons (u := .slice (lstI b.2)) (canon_lstI _ _) (canonM_nil _))]
    rfl
  have s1 := ((Sep0.start AHeap.none).push 1 2 (cs := blkC b) rfl).push 1 2 (cs := blkC b) rfl
  have a0 : ((AHeap.none.push 1 (blkC b)).push 1 (blkC b)).cell (.mk ⟨AHeap.none.next, 0, 0 + 0⟩ 2) = some (.bool b.1) := s1.part (i := 0) rfl (by omega) rfl
  have a1 : ((AHeap.none.push 1 (blkC b)).push 1 (blkC b)).cell (.mk ⟨AHeap.none.next, 0, 0 + 1⟩ 2) = some (.slice (lstI b.2)) := s1.part (i := 0) rfl (by omega) rfl
  have b0 : ((AHeap.none.push 1 (blkC b)).push 1 (blkC b)).cell (.mk ⟨(AHeap.none.push 1 (blkC b)).next, 0, 0 + 0⟩ 2) = some (.bool b.1) := s1.part (i := 1) rfl (by omega) rfl
  have b1 : ((AHeap.none.push 1 (blkC b)).push 1 (blkC b)).cell (.mk ⟨(AHeap.none.push 1 (blkC b)).next, 0, 0 + 1⟩ 2) = some (.slice (lstI b.2)) := s1.part (i := 1) rfl (by omega) rfl
  refine pure_of rfl rfl (cc2 hc hc) (r := .bool true) ?_ rfl (h' := (AHeap.none.push 1 (blkC b)).push 1 (blkC b))
  rw [e_skolemref_SameBlock, show List.all (blkC b) AVal.isCell = true from rfl, cond_true, cond_true, show (blkC b).length = 2 from rfl]
  simp only [field_mk, Option.bind_some, a0, a1, b0, b1, bool_bool, slice_slice, beq_self_eq_true, cond_true]
  rw [sameI_run fuel d (freeze_lstI 7 _) (freeze_lstI 7 _) (by omega) hf]
  simp only [Option.bind_some, bool_bool, decide_true]
theorem sameBlks_loop (fuel d : Nat) {l : List Blk} (hl : l.length < 1000000) (hs : ∀ b ∈ l, b.2.length < 1000000 ∧ b.2.length < fuel) (h : AHeap) : ∀ (n k : Nat), l.length < n + k → k ≤ l.length →
    l_skolemref_SameBlocks_0 fuel (d + 2) n [(0, .slice (lstBk l)), (1, .slice (lstBk l)), (5, .int .i64 (k : Int))] h = some (.exit 0, [(4, .bot)], h) := by
  intro n
  induction n with
  | zero => intro k h1 h2; omega
  | succ n ih =>
    intro k h1 h2
    rw [l_skolemref_SameBlocks_0_eq, len_lst]
    by_cases hk : k < l.length
    · obtain ⟨q1, q2⟩ := hs (l.getD k (false, [])) (by simp [List.getD, hk])
      rw [bif_pos (by omega), addr_lstN (sz := 2) (f := blkC) blkC_len (by omega) (by omega) (false, []), Int.toNat_natCast]
      generalize l.getD k (false, []) = b at q1 q2
      simp only [Option.bind_some, cellsAt_fp (blkC_len b)]
      rw [sameBlk_run fuel d q1 q2]
      simp only [Option.bind_some, bool_bool, Bool.not_true, cond_false]
      rw [sucS (by omega)]
      exact ih (k + 1) (by omega) (by omega)
    · rw [bif_neg (by omega)]
theorem canon_lstBk (l : List Blk) : canonV 8 (.slice (lstBk l)) = some (.slice (lstBk l)) := canon_lst (closedL_flatMap closed_blkC l)
theorem sameBlks_run (fuel d : Nat) {l : List Blk} (hl : l.length < 1000000) (hlf : l.length < fuel) (hs : ∀ b ∈ l, b.2.length < 1000000 ∧ b.2.length < fuel) (h : AHeap) : run fuel (d + 3) F_skolemref_SameBlocks [.slice (lstBk l), .slice (lstBk l)] h = some (.bool true, h) := by
  refine pure_of rfl rfl (cc2 (canon_lstBk l) (canon_lstBk l)) (r := .bool true) (h' := AHeap.none) ?_ rfl
  rw [e_skolemref_SameBlocks, len_lst, bif_npos rfl]
  have := sameBlks_loop fuel d hl hs AHeap.none fuel 0 (by omega) (by omega)
  rw [show ((0 : Nat) : Int) = 0 from rfl] at this
  rw [this]
  simp only [Option.bind_some, k_skolemref_SameBlocks_0_x0]
theorem okQ (bs : List Blk) (v : Int) (l : List (List Int)) : (!false && Nat.beq (List.length (formulaC bs v l)) 3 && List.all (formulaC bs v l) AVal.isCell) = true := rfl
theorem first5_run (fuel : Nat) {e : Nat} (he : 9 ≤ e) (hf : 1000 ≤ fuel) (h : AHeap) : run fuel e F_skolemlaw5_first [] h = some (.bool true, h) := by
  obtain ⟨d, rfl⟩ : ∃ d, e = d + 9 := ⟨e - 9, by omega⟩
  refine pure_ex rfl rfl canonL_nil (r := .bool true) ?_ (fun _ => rfl)
  rw [e_skolemlaw5_first, fread_nil fuel d (by omega), show frA (rdF []) = .tup [.agg (formulaC [] 0 []), atV 0 err_api_ErrText] from rfl]
  simp only [Option.bind_some, tup2, comp0, comp1, cond_true, agg_agg]
  rw [cond_pos _ _ (okQ [] 0 [])]
  have s1 := (Sep0.start AHeap.none).push 1 3 (cs := zero3) rfl
  obtain ⟨h5, e5, _⟩ := s1.putAll (i := 0) (vs := formulaC [] 0 []) rfl rfl rfl
  rw [e5]
  simp only [Option.bind_some]
  rw [Placed_run fuel (d + 7) (show (101 : Int) ≠ 0 by omega)]
  simp only [Option.bind_some, agg_agg]
  rw [same_true fuel (d + 4) (u := atV 0 err_api_ErrText) (c := 101) (q := true) (x := 0) (IsFault.at (j := 0) (by omega) 0) (by omega)]
  simp only [Option.bind_some, bool_bool, beq_self_eq_true, cond_true]
  rw [qB_none fuel (d + 1) hf]
  simp only [Option.bind_some, slice_slice, bool_bool]
  have hl := (headTx_len (v := 0) (n := 0) ⟨by omega, by omega⟩ ⟨by omega, by omega⟩).2
  rw [len_lst, decide_eq_true (show (0 : Int) < ((formTx [] 0 []).length : Int) by unfold formTx; simp only [List.length_append, List.length_nil, Int.ofNat_zero] at *; omega)]
  exact ⟨_, rfl⟩

end Go.Proofs.YtdkckkhghghhdaaDoor

namespace Go.Proofs.YtdkckkhghghhdaaDoor
open Go.RowKit

structure Still (h h' : AHeap) : Prop where
  at_ : ∀ (n : Nat) (p : Pt) (cs : List AVal), h.cellsAt n p = some cs → h'.cellsAt n p = some cs
  cell : ∀ (p : Pt) (v : AVal), h.cell p = some v → h'.cell p = some v
  cells : ∀ (sz : Nat) (s : Sl) (cs : List AVal), h.sliceCells sz s = some cs → h'.sliceCells sz s = some cs
theorem Still.refl (h : AHeap) : Still h h := ⟨fun _ _ _ h => h, fun _ _ h => h, fun _ _ _ h => h⟩
theorem Still.trans {a b c : AHeap} (h : Still a b) (k : Still b c) : Still a c := ⟨fun n p cs q => k.1 n p cs (h.1 n p cs q), fun p v q => k.2 p v (h.2 p v q), fun sz s cs q => k.3 sz s cs (h.3 sz s cs q)⟩
theorem Still.ext {h h' : AHeap} (hk : Keeps h h' fun _ => False) : Still h h' :=
  ⟨fun n p cs q => by
    cases p with
    | nil => exact q
    | fp => exact q
    | mk r l => exact cellsAt_keep hk (fun h => h) q,
   fun p v q => by
    cases p with
    | nil => exact q
    | fp => exact q
    | mk r l => exact cell_keep hk (fun h => h) q,
   fun sz s cs q => sliceCells_ext hk q⟩
theorem Still.mark (h : AHeap) (ids : List Nat) : Still h (h.markRo ids) := ⟨fun n p cs q => by rw [cellsAt_mark]; exact q, fun p v q => by rw [cell_mark]; exact q, fun sz s cs q => by rw [sliceCells_mark]; exact q⟩
theorem Sep0.still {h0 h : AHeap} {L : List Chunk} (hs : Sep0 h0 h L) : Still h0 h := Still.ext hs.ext
end Go.Proofs.YtdkckkhghghhdaaDoor

namespace Go.Proofs.YtdkckkhghghhdaaDoor
open Go.RowKit

theorem keep0S {h h' : AHeap} (hk : Keeps h h' fun _ => False) {s : Sl} {sz : Nat} {cs : List AVal} (hs : h.sliceCells sz s = some cs) : h'.sliceCells sz s = some cs := sliceCells_keep hk hs fun _ _ _ h => h
theorem takeU {b : List UInt8} {m : Nat} (h : m < b.length) : b.take (m + 1) = b.take m ++ [b.getD m 0] := by
  rw [List.take_succ_eq_append_getElem h, List.getD_eq_getElem?_getD, List.getElem?_eq_getElem h, Option.getD_some]
theorem readU8 {h : AHeap} {t : Sl} {a : List UInt8} (hs : h.sliceCells 1 t = some (bytesC a)) {k : Nat} (hk : k < a.length) : h.addr 1 t (k : Int) = some (t.at 1 (k : Int)) ∧ h.cell (t.at 1 (k : Int)) = some (.int .u8 ((a.getD k 0).toNat : Int)) := by
  have hl := sliceCells_len hs
  simp only [List.length_map, Nat.mul_one] at hl
  refine ⟨addr_at hs (by omega) (by omega), cell_at hs (by omega) ?_⟩
  rw [Int.toNat_natCast, List.getElem?_map, List.getElem?_eq_getElem hk, List.getD_eq_getElem?_getD, List.getElem?_eq_getElem hk]; rfl
theorem byr_loop (fuel d : Nat) {a : List UInt8} {t : Sl} (hn : a.length < 1000000000) (ht : t.len = a.length) {h0 : AHeap} (hs0 : h0.sliceCells 1 t = some (bytesC a)) : ∀ (n k : Nat) (s : Sl) (h : AHeap), a.length < n + k → k ≤ a.length → Sep0 h0 h [.grown 1 s (bytesC (a.take k))] →
    ∃ s' h', l_skolemref_Bytes_0 fuel d n [(0, .slice t), (3, .slice s), (4, .int .i64 (k : Int))] h = some (.exit 0, [(3, .slice s')], h') ∧ Sep0 h0 h' [.grown 1 s' (bytesC a)] := by
  intro n
  induction n with
  | zero => intro k s h h1 h2; omega
  | succ n ih =>
    intro k s h h1 h2 hg
    have hl := hg.len (i := 0) rfl
    simp only [List.length_map, List.length_take, Nat.mul_one] at hl
    rw [l_skolemref_Bytes_0_eq, ht]
    by_cases hk : k < a.length
    · have hr := readU8 (keep0S hg.ext hs0) hk
      rw [bif_pos (by omega), hr.1, Option.bind_some, hr.2]
      simp only [Option.bind_some, int_int]
      obtain ⟨s', h', e1, e2, e3⟩ := hg.grow (i := 0) (bytes := 1) (m := 1) (vs := [.int .u8 ((a.getD k 0).toNat : Int)]) rfl rfl (by omega) (by omega)
      rw [e1]
      simp only [Option.bind_some]
      rw [sucU (by omega)]
      refine ih (k + 1) s' h' (by omega) (by omega) ?_
      rw [takeU hk]
      simpa using e2
    · have : k = a.length := by omega
      subst this
      rw [bif_neg (by omega)]
      rw [List.take_length] at hg
      exact ⟨s, h, rfl, hg⟩
theorem byr_run (fuel d : Nat) {a : List UInt8} {t : Sl} {h : AHeap} (hs : h.sliceCells 1 t = some (bytesC a)) (hn : a.length < 1000000000) (hf : a.length < fuel) :
    ∃ s' h', run fuel (d + 1) F_skolemref_Bytes [.slice t] h = some (.slice s', h') ∧ New h h' (.grown 1 s' (bytesC a)) := by
  have ht : t.len = a.length := by have := sliceCells_len hs; simp at this; omega
  have s0 := (Sep0.start h).addMake 1 (eqI (0 : Int) ((a.length : Nat) : Int))
  obtain ⟨s', h', e1, e2⟩ := byr_loop fuel d hn ht hs fuel 0 _ _ (by omega) (by omega) s0
  refine ⟨s', h', ?_, e2.get (i := 0) rfl⟩
  rw [e_skolemref_Bytes, ht, cond_pos _ _ (by simp; omega)]
  rw [show ((0 : Nat) : Int) = 0 from rfl] at e1
  rw [e1]
  simp only [Option.bind_some, k_skolemref_Bytes_0_x0]
end Go.Proofs.YtdkckkhghghhdaaDoor

namespace Go.Proofs.YtdkckkhghghhdaaDoor
open Go.RowKit

/-! skolemworld.Number -/
def numI (n b : Int) : Int := bif decide (Int.tmod n b < 0) then IntKind.wrap .i64 (Int.tmod n b + b) else Int.tmod n b
theorem Number_run (fuel d : Nat) {n b : Int} (hb : b ≠ 0) (h : AHeap) : run fuel (d + 1) F_skolemworld_Number [.int .i64 n, .int .i64 b] h = some (.int .i64 (numI n b), h) :=
  pure_of rfl rfl (cc2 rfl rfl) (by
    rw [e_skolemworld_Number, bif_neg hb]
    show _ = some (AVal.int .i64 (numI n b), AHeap.none)
    unfold numI
    cases decide (Int.tmod n b < 0) <;> rfl) rfl
theorem numI_range {n b : Int} (hb : 0 < b) (hb2 : b ≤ 9223372036854775807) : 0 ≤ numI n b ∧ numI n b < b := by
  have h1 := Int.tmod_lt_of_pos n hb
  have h2 : -b < Int.tmod n b := by
    have := Int.neg_lt_of_neg_lt (a := Int.tmod n b) (b := b)
    have h3 := Int.tmod_lt_of_pos (-n) hb
    rw [Int.neg_tmod] at h3
    omega
  unfold numI
  by_cases h0 : Int.tmod n b < 0
  · rw [decide_eq_true h0, cond_true, wrap64 (by omega) (by omega)]; omega
  · rw [decide_eq_false h0, cond_false]; omega

end Go.Proofs.YtdkckkhghghhdaaDoor

namespace Go.Proofs.YtdkckkhghghhdaaDoor
open Go.RowKit

theorem lit_appendI {h0 h : AHeap} {L : List Chunk} {i : Nat} {s : Sl} {t : List UInt8} (hs : Sep0 h0 h L) (hi : L[i]? = some (.grown 1 s (bytesC t))) (u : List UInt8) {m : Nat} (hm : m = u.length) (ht : t.length + u.length < 1000000000) :
    ∃ s' h', AHeap.append h false 1 1 s m (bytesC u) = some (s', h') ∧ Sep0 h0 h' (L.set i (.grown 1 s' (bytesC (t ++ u)))) := by
  subst hm
  have hl := hs.len hi
  simp only [List.length_map, Nat.mul_one] at hl
  obtain ⟨s', h', e1, s1, _⟩ := hs.grow (bytes := 1) (m := u.length) (vs := bytesC u) hi (by simp) (by omega) (by omega)
  rw [← bytesC_app] at s1
  exact ⟨s', h', e1, s1⟩
/-- a part of an element -/
theorem field_at {h : AHeap} {sz : Nat} {s : Sl} {cs : List AVal} (hs : h.sliceCells sz s = some cs) {k o : Nat} (hk : k < s.len) (ho : o < sz) {v : AVal} (hv : cs[k * sz + o]? = some v) : ∃ p, Pt.field o (s.at sz (k : Int)) = some p ∧ h.cell p = some v := by
  cases s with
  | nil => simp only [Sl.len] at hk; omega
  | lst n c ds =>
    obtain ⟨rfl, hl⟩ := lst_cells hs
    refine ⟨_, rfl, ?_⟩
    simp only [AHeap.cell, Int.toNat_natCast]
    rw [List.getElem?_drop, List.getElem?_take, if_pos (by omega), List.getElem?_drop, Nat.add_zero]
    exact hv
  | mk r n c =>
    simp only [Sl.len] at hk
    obtain ⟨row, h1, h2, h3, h4, h5, rfl⟩ := sliceCells_row hs (by omega)
    have hmul : (k + 1) * sz ≤ n * sz := Nat.mul_le_mul_right _ (by omega)
    rw [Nat.add_mul, Nat.one_mul] at hmul
    rw [List.getElem?_take, if_pos (by omega), List.getElem?_drop] at hv
    refine ⟨_, rfl, ?_⟩
    simp only [AHeap.cell, Int.toNat_natCast, blt_eq, AHeap.live, h1, ble_eq, h3, h4, decide_true, Bool.and_self, cond_true, Option.bind_some]
    rw [decide_eq_true (by omega), cond_true, Nat.add_assoc]
    exact hv
theorem freeze_cellsN {h : AHeap} {sz : Nat} {r : Ref} {n m : Nat} {c : Bool} {cs us : List AVal} (hs : h.sliceCells sz (.mk r n c) = some cs) (hm : cs.mapM (freezeV h m) = some us) : freezeV h (m + 1) (.slice (.mk r n c)) = some (.slice (.lst n false us)) := by
  by_cases h0 : n = 0
  · subst h0
    simp [AHeap.sliceCells] at hs
    subst hs
    simp at hm
    subst hm
    simp [freezeV]
  · obtain ⟨row, h1, h2, h3, h4, h5, rfl⟩ := sliceCells_row hs h0
    have hs2 : h.sliceCells row.sz (.mk r n false) = some ((row.cells.drop r.off).take (n * sz)) := by rw [h2]; exact sliceCells_of h1 h2 h3 h4 h5
    simp only [freezeV, beq_eq, decide_eq_false h0, cond_false, h1, hs2, Option.bind_some, hm, Option.map_some]
theorem freeze_sl {h : AHeap} {sz m : Nat} {s : Sl} {cs : List AVal} (hs : h.sliceCells sz s = some cs) (hc : closedL cs = true) (hm : cs.mapM (freezeV h m) = some cs) : freezeV h (m + 1) (.slice s) = some (.slice (.lst s.len false cs)) := by
  cases s with
  | nil =>
    have : cs = [] := by simpa [AHeap.sliceCells] using hs.symm
    subst this
    rfl
  | lst n c ds =>
    obtain ⟨rfl, hl⟩ := lst_cells hs
    exact freeze_lst m n c hc
  | mk r n c => exact freeze_cellsN hs hm
theorem sameForm_any (fuel d : Nat) {bs : List Blk} (v : Int) {l : List (List Int)} (hb : bs.length < 1000000) (hbf : bs.length < fuel) (hbs : ∀ b ∈ bs, b.2.length < 1000000 ∧ b.2.length < fuel)
    (hl : l.length < 1000000000) (hlf : l.length < fuel) (hs : ∀ s ∈ l, s.length < 1000000000 ∧ s.length < fuel) {h : AHeap} {cs : List AVal} (hf : freezeV h 8 (.agg cs) = some (.agg (formulaC bs v l))) : ∃ ids, run fuel (d + 4) F_skolemref_SameFormula [.agg (formulaC bs v l), .agg cs] h = some (.bool true, h.markRo ids) := by
  have s1 := ((Sep0.start AHeap.none).push 1 3 (cs := formulaC bs v l) rfl).push 1 3 (cs := formulaC bs v l) rfl
  generalize hH : ((AHeap.none.push 1 (formulaC bs v l)).push 1 (formulaC bs v l)) = H at s1
  have a0 : H.cell (.mk ⟨AHeap.none.next, 0, 0 + 0⟩ 3) = some (.slice (lstBk bs)) := s1.part (i := 0) rfl (by omega) rfl
  have a1 : H.cellsAt 2 (.mk ⟨AHeap.none.next, 0, 0 + 1⟩ 3) = some (cnfC v l) := (s1.sep.own (i := 0) rfl).parts (o := 0 + 1) (k := 2) (l := 3) (by omega) (by simp [formulaC])
  have b0 : H.cell (.mk ⟨(AHeap.none.push 1 (formulaC bs v l)).next, 0, 0 + 0⟩ 3) = some (.slice (lstBk bs)) := s1.part (i := 1) rfl (by omega) rfl
  have b1 : H.cellsAt 2 (.mk ⟨(AHeap.none.push 1 (formulaC bs v l)).next, 0, 0 + 1⟩ 3) = some (cnfC v l) := (s1.sep.own (i := 1) rfl).parts (o := 0 + 1) (k := 2) (l := 3) (by omega) (by simp [formulaC])
  have e : brun fuel (d + 4) F_skolemref_SameFormula [.agg (formulaC bs v l), .agg (formulaC bs v l)] AHeap.none = some (.bool true, H) := by
    rw [e_skolemref_SameFormula, show List.all (formulaC bs v l) AVal.isCell = true from rfl, cond_true, cond_true, show (formulaC bs v l).length = 3 from rfl, hH]
    simp only [field_mk, Option.bind_some, a0, b0, slice_slice]
    rw [sameBlks_run fuel d hb hbf hbs]
    simp only [Option.bind_some, bool_bool, beq_self_eq_true, cond_true, a1, b1]
    rw [sameCNF_run fuel d v hl hlf hs]
    simp only [Option.bind_some, bool_bool]
  exact run_any rfl rfl (mm2 (freeze_form 5 bs v l) hf) e rfl

/-! the blocks -/
abbrev fC (o : Sl) : List AVal := [.slice o, .int .i64 12, .slice Sl.nil]
theorem ub_in (fuel d : Nat) {F B : Nat} {K C o : Sl} {x2 i : Int} {bl : List AVal} {b : Bool} {h0 : AHeap} : ∀ (n m : Nat) (v : Int) (t : Sl) (l : List Int) (h : AHeap), m < n → 1 ≤ v → v ≤ 13 → l.length + m ≤ 10 → Sep0 h0 h [.own 1 F 0 3 (fC o), .grown 2 o bl, .own 1 B 0 2 [.bool b, .slice t], .grown 1 t (intsC l)] →
    ∃ t' l' h', l_skolemlaw5_QdimacsBlocks_1 fuel d n [(0, .slice K), (1, .slice C), (2, .int .i64 x2), (7, .bool true), (8, .ptr (.mk ⟨F, 0, 0⟩ 3)), (9, .int .i64 v), (10, .int .i64 i), (11, .ptr (.mk ⟨B, 0, 0⟩ 2)), (12, .int .i64 (m : Int))] h = some (.exit 2, [(0, .slice K), (1, .slice C), (2, .int .i64 x2), (7, .bool true), (8, .ptr (.mk ⟨F, 0, 0⟩ 3)), (9, .int .i64 (v + (l'.length : Int))), (10, .int .i64 i), (11, .ptr (.mk ⟨B, 0, 0⟩ 2))], h') ∧
      Sep0 h0 h' [.own 1 F 0 3 (fC o), .grown 2 o bl, .own 1 B 0 2 [.bool b, .slice t'], .grown 1 t' (intsC (l ++ l'))] ∧ conS v l' ∧ v + l'.length ≤ 13 ∧ l'.length ≤ m := by
  intro n
  induction n with
  | zero => intro m v t l h h1; omega
  | succ n ih =>
    intro m v t l h h1 h2 h3 h4 hs
    rw [l_skolemlaw5_QdimacsBlocks_1_eq]
    by_cases hc : 0 < m ∧ v ≤ 12
    · obtain ⟨m, rfl⟩ : ∃ q, m = q + 1 := ⟨m - 1, by omega⟩
      have hl := hs.len (i := 3) rfl
      simp only [List.length_map, Nat.mul_one] at hl
      have c1 : h.cell (.mk ⟨B, 0, 0 + 1⟩ 2) = some (.slice t) := hs.part (i := 2) rfl (by omega) rfl
      obtain ⟨t', h1', e1, s1, _⟩ := hs.grow (i := 3) (bytes := 8) (m := 1) (vs := [.int .i64 v]) rfl rfl (by omega) (by omega)
      obtain ⟨h2', e2, s2⟩ := s1.put (i := 2) (sz := 1) (id := B) (gen := 0) (n := 2) (cs := [.bool b, .slice t]) (o := 0 + 1) (l := 2) (vs := [.slice t']) rfl (by simp) (by simp)
      rw [decide_eq_true (show (0 : Int) < ((m + 1 : Nat) : Int) by omega), cond_true, bif_pos (by omega)]
      simp only [field_mk, Option.bind_some, c1, slice_slice]
      rw [e1, Option.bind_some, e2, Option.bind_some, wrap64 (n := v + 1) (by omega) (by omega), wrap64 (n := ((m + 1 : Nat) : Int) - 1) (by omega) (by omega), show ((m + 1 : Nat) : Int) - 1 = (m : Int) by omega]
      have s3 : Sep0 h0 h2' [.own 1 F 0 3 (fC o), .grown 2 o bl, .own 1 B 0 2 [.bool b, .slice t'], .grown 1 t' (intsC (l ++ [v]))] := by rw [intsC_app]; exact s2
      obtain ⟨t2, l2, h3', e3, s4, q1, q2, q3⟩ := ih m (v + 1) t' (l ++ [v]) h2' (by omega) (by omega) (by omega) (by simp; omega) s3
      refine ⟨t2, v :: l2, h3', ?_, ?_, ⟨rfl, q1⟩, by rw [List.length_cons]; omega, by rw [List.length_cons]; omega⟩
      · rw [e3, show v + 1 + (l2.length : Int) = v + ((v :: l2).length : Int) by rw [List.length_cons]; omega]
      · simpa using s4
    · have hcf : (bif (decide ((0 : Int) < (m : Int))) then (decide (v ≤ (12 : Int))) else false) = false := by
        by_cases h0 : 0 < m
        · rw [decide_eq_true (show (0 : Int) < (m : Int) by omega), cond_true, decide_eq_false (by omega)]
        · rw [decide_eq_false (show ¬ (0 : Int) < (m : Int) by omega)]; rfl
      rw [hcf, cond_false]
      exact ⟨t, [], h, by simp, by simpa using hs, trivial, by simp; omega, by simp⟩
theorem totB_app (a b : List Blk) : totB (a ++ b) = totB a + totB b := by simp [totB]
theorem conB_app : ∀ {bs : List Blk} {a : Int} {b : Blk}, conB a bs → conS (a + totB bs) b.2 → conB a (bs ++ [b])
  | [], a, b, _, h2 => by
    refine ⟨?_, trivial⟩
    simpa [totB] using h2
  | c :: bs, a, b, h1, h2 => by
    refine ⟨h1.1, conB_app h1.2 ?_⟩
    have : totB (c :: bs) = c.2.length + totB bs := by simp [totB]
    rw [this] at h2
    rw [show a + (c.2.length : Int) + (totB bs : Int) = a + ((c.2.length + totB bs : Nat) : Int) by omega]
    exact h2
theorem ub_out (fuel d : Nat) (hf : 100 < fuel) {F : Nat} {K : List Bool} {C : List Int} {x2 : Int} (hK : K.length ≤ 8) (hC : K.length ≤ C.length) {h0 : AHeap} : ∀ (n k : Nat) (bs : List Blk) (o : Sl) (h : AHeap), K.length < n + k → k ≤ K.length → bs.length = k → conB 1 bs → totB bs ≤ 12 → Sep0 h0 h [.own 1 F 0 3 (fC o), .grown 2 o (blksC bs)] →
    ∃ bs' o' h', l_skolemlaw5_QdimacsBlocks_0 fuel (d + 1) n [(0, .slice (lstB K)), (1, .slice (lstI C)), (2, .int .i64 x2), (7, .bool true), (8, .ptr (.mk ⟨F, 0, 0⟩ 3)), (9, .int .i64 (1 + (totB bs : Int))), (10, .int .i64 (k : Int))] h = some (.exit 0, [(2, .int .i64 x2), (7, .bool true), (8, .ptr (.mk ⟨F, 0, 0⟩ 3)), (9, .int .i64 (1 + (totB bs' : Int)))], h') ∧
      Sep0 h0 h' [.own 1 F 0 3 (fC o'), .grown 2 o' (blksC bs')] ∧ conB 1 bs' ∧ totB bs' ≤ 12 ∧ bs'.length ≤ 8 := by
  intro n
  induction n with
  | zero => intro k bs o h h1 h2; omega
  | succ n ih =>
    intro k bs o h h1 h2 h3 h4 h5 hs
    rw [l_skolemlaw5_QdimacsBlocks_0_eq, len_lst]
    have hlo := hs.len (i := 1) rfl
    rw [flatMap_len blkC_len] at hlo
    by_cases hk : k < K.length
    · rw [bif_pos (by omega), addr_lstM (f := AVal.bool) (l := K) (j := (k : Int)) (by omega) (by omega) false]
      simp only [Option.bind_some, cell_fp, bool_bool, Int.toNat_natCast]
      generalize K.getD k false = b
      have s1 := hs.push 1 2 (cs := [(AVal.bool false), (.slice Sl.nil)]) rfl
      obtain ⟨g1, e1, s2⟩ := s1.putAll (i := 2) (vs := [.bool b, .slice Sl.nil]) rfl rfl rfl
      have s3 := s2.addNil 1
      rw [e1, Option.bind_some, addr_lstM (f := AVal.int .i64) (l := C) (j := (k : Int)) (by omega) (by omega) 0]
      simp only [Option.bind_some, cell_fp, int_int]
      rw [Number_run fuel d (by omega)]
      simp only [Option.bind_some, int_int]
      obtain ⟨r1, r2⟩ := numI_range (n := C.getD (Int.toNat (k : Int)) 0) (b := 4) (by omega) (by omega)
      obtain ⟨m, hm⟩ : ∃ m : Nat, numI (C.getD (Int.toNat (k : Int)) 0) 4 = (m : Int) := ⟨(numI (C.getD (Int.toNat (k : Int)) 0) 4).toNat, by omega⟩
      rw [hm] at r1 r2 ⊢
      obtain ⟨t', l', g2, e2, s4, q1, q2, q3⟩ := ub_in fuel (d + 1) (K := lstB K) (C := lstI C) (x2 := x2) (i := (k : Int)) (h0 := h0) fuel m (1 + (totB bs : Int)) .nil [] g1 (by omega) (by omega) (by omega) (by simp; omega) s3
      rw [e2, Option.bind_some, k_skolemlaw5_QdimacsBlocks_1_x2]
      rw [List.nil_append] at s4
      have c0 : g2.cell (.mk ⟨F, 0, 0 + 0⟩ 3) = some (.slice o) := s4.part (i := 0) rfl (by omega) rfl
      have cX := s4.getAll (i := 2) rfl rfl
      have hl1 := s4.len (i := 3) rfl
      simp only [List.length_map, Nat.mul_one] at hl1
      simp only [field_mk, Option.bind_some, c0, slice_slice, cX]
      rw [show (bif (Nat.beq (List.length [AVal.bool b, AVal.slice t']) 2 && Nat.ble (0 + 2) (List.length [(AVal.bool false), (.slice Sl.nil)]) && List.all [AVal.bool b, AVal.slice t'] AVal.isCell) then ((some (AHeap.overlay [(.bool false), (.slice Sl.nil)] 0 [AVal.bool b, AVal.slice t']))) else (none)) = some [AVal.bool b, AVal.slice t'] from rfl]
      rw [Option.bind_some, show g2.sliceCells 2 (Sl.lst 1 true [AVal.bool b, AVal.slice t']) = some [AVal.bool b, AVal.slice t'] from rfl, Option.bind_some]
      obtain ⟨g3, e3, s6⟩ := s4.fix (i := 3) rfl (closedL_map (fun _ => rfl) l') 1
      have hfx : g2.fixL [.bool b, .slice t'] = ([.bool b, .slice (lstI l')], g3) := by
        rw [fixL_cons]
        have e0 : g2.fixV (.bool b) = (.bool b, g2) := rfl
        rw [e0, fixL_one, e3, ← hl1]
      obtain ⟨o', g4, e4, s7, l7⟩ := s6.grow (i := 1) (bytes := 32) (m := 1) (vs := blkC (b, l')) rfl rfl (by omega) (by omega)
      rw [hfx, show [AVal.bool b, .slice (lstI l')] = blkC (b, l') from rfl, show (Sl.lst 1 true [AVal.bool b, AVal.slice t']).len = 1 from rfl, e4, Option.bind_some]
      obtain ⟨g5, e5, s8⟩ := s7.put (i := 0) (o := 0) (l := 3) (vs := [.slice o']) rfl (by simp) (by simp)
      rw [Nat.zero_add, e5, Option.bind_some, sucU (by omega)]
      have hT : totB (bs ++ [(b, l')]) = totB bs + l'.length := by rw [totB_app]; simp [totB]
      rw [show (1 : Int) + (totB bs : Int) + (l'.length : Int) = 1 + ((totB (bs ++ [(b, l')]) : Nat) : Int) by rw [hT]; omega]
      refine ih (k + 1) (bs ++ [(b, l')]) o' g5 (by omega) (by omega) (by simp; omega) (conB_app h4 q1) (by rw [hT]; omega) ?_
      rw [blksC_app]
      have s9 := s8.sub (L' := [.own 1 F 0 3 (fC o'), .grown 2 o' (blksC bs ++ blkC (b, l'))]) (List.Sublist.cons_cons _ (List.Sublist.cons_cons _ (List.nil_sublist _)))
      simpa [blksC] using s9
    · rw [bif_neg (by omega)]
      exact ⟨bs, o, h, rfl, hs, h4, h5, by omega⟩

/-! the text -/
theorem gapG_addr (h : AHeap) {m : Nat} (hm : m < 3) : h.addr 1 (Sl.lst 3 true [(.str (⟨#[32]⟩ : ByteArray)), (.str (⟨#[10]⟩ : ByteArray)), (.str (⟨#[32, 9]⟩ : ByteArray))]) (m : Int) = some (.fp 0 [.str (tx (gapT m))]) := by
  match m, hm with
  | 0, _ => rfl
  | 1, _ => rfl
  | 2, _ => rfl
theorem gapT_len (g : Nat) : (gapT g).length ≤ 2 := by
  unfold gapT
  by_cases h0 : g = 0
  · rw [if_pos h0]; decide
  · rw [if_neg h0]
    by_cases h1 : g = 1
    · rw [if_pos h1]; decide
    · rw [if_neg h1]; decide
theorem dl_val {x : Int} (h1 : 1 ≤ x) (h2 : x ≤ 12) : IntKind.wrap .u8 (IntKind.wrap .i64 ((48 : Int) + Int.tmod x 10)) = ((UInt8.ofNat (48 + x.toNat % 10)).toNat : Int) := by
  have : x = 1 ∨ x = 2 ∨ x = 3 ∨ x = 4 ∨ x = 5 ∨ x = 6 ∨ x = 7 ∨ x = 8 ∨ x = 9 ∨ x = 10 ∨ x = 11 ∨ x = 12 := by omega
  rcases this with rfl | rfl | rfl | rfl | rfl | rfl | rfl | rfl | rfl | rfl | rfl | rfl <;> decide
theorem blk_cell {bs : List Blk} {k o : Nat} (hk : k < bs.length) (ho : o < 2) : (blksC bs)[k * 2 + o]? = (blkC (bs.getD k (false, [])))[o]? := by
  have h1 := flatMap_drop (f := blkC) blkC_len bs k
  have hd : bs.drop k = bs.getD k (false, []) :: bs.drop (k + 1) := by rw [List.drop_eq_getElem_cons hk]; simp [List.getD, hk]
  rw [hd, List.flatMap_cons] at h1
  have : (blksC bs)[k * 2 + o]? = ((blksC bs).drop (k * 2))[o]? := by rw [List.getElem?_drop]
  rw [this, h1, List.getElem?_append_left (by rw [blkC_len]; exact ho)]
theorem ub_nums (fuel d : Nat) {F : Nat} {o : Sl} {bs : List Blk} {x2 v : Int} {g k : Nat} (hg : numI x2 3 = (g : Int)) (hg3 : g < 3) (hk : k < bs.length) (hb1 : (bs.getD k (false, [])).2.length ≤ 12) (hb2 : ∀ x ∈ (bs.getD k (false, [])).2, 1 ≤ x ∧ x ≤ 12) {h0 : AHeap} : ∀ (n j : Nat) (s : Sl) (t : List UInt8) (h : AHeap), (bs.getD k (false, [])).2.length < n + j → j ≤ (bs.getD k (false, [])).2.length → t.length + 4 * ((bs.getD k (false, [])).2.length - j) < 10000 → Sep0 h0 h [.own 1 F 0 3 (fC o), .grown 2 o (blksC bs), .grown 1 s (bytesC t)] →
    ∃ s' h', l_skolemlaw5_QdimacsBlocks_3 fuel (d + 1) n [(2, .int .i64 x2), (7, .bool true), (8, .ptr (.mk ⟨F, 0, 0⟩ 3)), (9, .int .i64 v), (13, .slice s), (14, .int .i64 (k : Int)), (15, .int .i64 (j : Int))] h = some (.exit 6, [(2, .int .i64 x2), (7, .bool true), (8, .ptr (.mk ⟨F, 0, 0⟩ 3)), (9, .int .i64 v), (13, .slice s'), (14, .int .i64 (k : Int))], h') ∧
      Sep0 h0 h' [.own 1 F 0 3 (fC o), .grown 2 o (blksC bs), .grown 1 s' (bytesC (t ++ numsG g ((bs.getD k (false, [])).2.drop j)))] := by
  intro n
  induction n with
  | zero => intro j s t h h1 h2; omega
  | succ n ih =>
    intro j s t h h1 h2 h3 hs
    have hlo := hs.len (i := 1) rfl
    rw [flatMap_len blkC_len] at hlo
    have c0 : h.cell (.mk ⟨F, 0, 0 + 0⟩ 3) = some (.slice o) := hs.part (i := 0) rfl (by omega) rfl
    have cs := (hs.sep.grown (i := 1) rfl).cells
    have ca : h.addr 2 o (k : Int) = some (o.at 2 (k : Int)) := addr_at cs (by omega) (by omega)
    have hcell : (blksC bs)[k * 2 + 1]? = some (.slice (lstI (bs.getD k (false, [])).2)) := by rw [blk_cell hk (by omega)]; rfl
    obtain ⟨p, p1, p2⟩ := field_at cs (k := k) (o := 1) (by omega) (by omega) hcell
    rw [l_skolemlaw5_QdimacsBlocks_3_eq]
    simp only [field_mk, Option.bind_some, c0, slice_slice, ca, p1, p2]
    rw [len_lst]
    generalize (bs.getD k (false, [])).2 = l at *
    by_cases hj : j < l.length
    · have hd : l.drop j = l.getD j 0 :: l.drop (j + 1) := by rw [List.drop_eq_getElem_cons hj]; simp [List.getD, hj]
      rw [bif_pos (by omega), addr_lstM (f := AVal.int .i64) (l := l) (j := (j : Int)) (by omega) (by omega) 0, hd]
      simp only [Option.bind_some, cell_fp, int_int, Int.toNat_natCast]
      obtain ⟨hx1, hx2⟩ := hb2 (l.getD j 0) (by simp [List.getD, hj])
      generalize l.getD j 0 = x at hx1 hx2
      rw [Number_run fuel d (by omega)]
      simp only [Option.bind_some, int_int]
      rw [hg, gapG_addr h hg3]
      simp only [Option.bind_some, cell_fp, str_str]
      rw [tx_size, bytesOf_tx]
      have hgl := gapT_len g
      obtain ⟨s1, h1', e1, q1⟩ := lit_appendI hs (i := 2) rfl (gapT g) rfl (by omega)
      rw [e1]
      simp only [Option.bind_some]
      have fin : ∀ (u : List UInt8) (a : Sl) (g1 : AHeap), dgT x = u ++ [UInt8.ofNat (48 + x.toNat % 10)] → u.length ≤ 1 → Sep0 h0 g1 [.own 1 F 0 3 (fC o), .grown 2 o (blksC bs), .grown 1 a (bytesC (t ++ gapT g ++ u))] →
          ∃ s' h', k_skolemlaw5_QdimacsBlocks_4 fuel (d + 1) n .normal [(2, .int .i64 x2), (7, .bool true), (8, .ptr (.mk ⟨F, 0, 0⟩ 3)), (9, .int .i64 v), (13, .slice a), (14, .int .i64 (k : Int)), (15, .int .i64 (j : Int)), (16, .int .i64 x)] g1 = some (.exit 6, [(2, .int .i64 x2), (7, .bool true), (8, .ptr (.mk ⟨F, 0, 0⟩ 3)), (9, .int .i64 v), (13, .slice s'), (14, .int .i64 (k : Int))], h') ∧
            Sep0 h0 h' [.own 1 F 0 3 (fC o), .grown 2 o (blksC bs), .grown 1 s' (bytesC (t ++ numsG g (x :: l.drop (j + 1))))] := by
        intro u a g1 hu hul sg
        obtain ⟨s2, g2, e2, q2⟩ := lit_appendI sg (i := 2) rfl [UInt8.ofNat (48 + x.toNat % 10)] (m := 1) rfl (by simp; omega)
        rw [k_skolemlaw5_QdimacsBlocks_4_n, dl_val hx1 hx2, show [AVal.int .u8 ((UInt8.ofNat (48 + x.toNat % 10)).toNat : Int)] = bytesC [UInt8.ofNat (48 + x.toNat % 10)] from rfl, e2, Option.bind_some, sucU (by omega)]
        have q3 : Sep0 h0 g2 [.own 1 F 0 3 (fC o), .grown 2 o (blksC bs), .grown 1 s2 (bytesC (t ++ (gapT g ++ dgT x)))] := by
          rw [hu]
          simpa using q2
        have hdl : (dgT x).length ≤ 2 := by rw [hu, List.length_append, List.length_singleton]; omega
        obtain ⟨s3, g3, e3, q4⟩ := ih (j + 1) s2 (t ++ (gapT g ++ dgT x)) g2 (by omega) (by omega) (by simp only [List.length_append]; omega) q3
        refine ⟨s3, g3, e3, ?_⟩
        have he : numsG g (x :: l.drop (j + 1)) = (gapT g ++ dgT x) ++ numsG g (l.drop (j + 1)) := rfl
        rw [he, ← List.append_assoc]
        exact q4
      by_cases h9 : 9 < x
      · rw [decide_eq_true h9, cond_true, show [(AVal.int .u8 (49 : Int))] = bytesC [49] from rfl, lit_cells h1' [49] (n := 1) rfl, Option.bind_some, Sl.len]
        have qj := (q1.push 1 1 (cs := bytesC [49]) rfl).init
        obtain ⟨s2, h2', e2, q2⟩ := lit_appendI qj (i := 2) rfl [49] (m := 1) rfl (by simp; omega)
        rw [e2]
        simp only [Option.bind_some]
        exact fin [49] s2 h2' (by unfold dgT; rw [if_pos h9]) (by simp) q2
      · rw [decide_eq_false h9, cond_false]
        simp only [Option.bind_some]
        exact fin [] s1 h1' (by unfold dgT; rw [if_neg h9]) (by simp) (by simpa using q1)
    · have : j = l.length := by omega
      subst this
      rw [bif_neg (by omega), List.drop_length]
      exact ⟨s, h, rfl, by simpa [numsG] using hs⟩
theorem numsG_len (g : Nat) : ∀ (l : List Int), (∀ x ∈ l, 1 ≤ x ∧ x ≤ 12) → (numsG g l).length ≤ 4 * l.length
  | [], _ => by simp [numsG]
  | x :: l, h => by
    have h1 := numsG_len g l fun y hy => h y (List.mem_cons_of_mem _ hy)
    obtain ⟨h2, h3⟩ := h x (List.mem_cons_self ..)
    have h4 := (dg_ok h2 h3).2.2.2.2.2
    have h5 := gapT_len g
    have he : numsG g (x :: l) = (gapT g ++ dgT x) ++ numsG g l := rfl
    rw [he, List.length_append, List.length_append, List.length_cons]
    omega
theorem ub_blks (fuel d : Nat) (hf : 100 < fuel) {F : Nat} {o : Sl} {bs : List Blk} {x2 v : Int} {g : Nat} (hg : numI x2 3 = (g : Int)) (hg3 : g < 3) (hB : bs.length ≤ 8) (hb : ∀ b ∈ bs, b.2.length ≤ 12 ∧ ∀ x ∈ b.2, 1 ≤ x ∧ x ≤ 12) {h0 : AHeap} : ∀ (n k : Nat) (s : Sl) (t : List UInt8) (h : AHeap), bs.length < n + k → k ≤ bs.length → t.length + 60 * (bs.length - k) < 9000 → Sep0 h0 h [.own 1 F 0 3 (fC o), .grown 2 o (blksC bs), .grown 1 s (bytesC t)] →
    ∃ s' h', l_skolemlaw5_QdimacsBlocks_2 fuel (d + 1) n [(2, .int .i64 x2), (7, .bool true), (8, .ptr (.mk ⟨F, 0, 0⟩ 3)), (9, .int .i64 v), (13, .slice s), (14, .int .i64 (k : Int))] h = some (.exit 4, [(7, .bool true), (8, .ptr (.mk ⟨F, 0, 0⟩ 3)), (9, .int .i64 v), (13, .slice s')], h') ∧
      Sep0 h0 h' [.own 1 F 0 3 (fC o), .grown 2 o (blksC bs), .grown 1 s' (bytesC (t ++ bsT g (bs.drop k)))] := by
  intro n
  induction n with
  | zero => intro k s t h h1 h2; omega
  | succ n ih =>
    intro k s t h h1 h2 h3 hs
    have hlo := hs.len (i := 1) rfl
    rw [flatMap_len blkC_len] at hlo
    have c0 : h.cell (.mk ⟨F, 0, 0 + 0⟩ 3) = some (.slice o) := hs.part (i := 0) rfl (by omega) rfl
    have cs := (hs.sep.grown (i := 1) rfl).cells
    rw [l_skolemlaw5_QdimacsBlocks_2_eq]
    simp only [field_mk, Option.bind_some, c0, slice_slice]
    by_cases hk : k < bs.length
    · have ca : h.addr 2 o (k : Int) = some (o.at 2 (k : Int)) := addr_at cs (by omega) (by omega)
      have hcell : (blksC bs)[k * 2 + 0]? = some (.bool (bs.getD k (false, [])).1) := by rw [blk_cell hk (by omega)]; rfl
      obtain ⟨p, p1, p2⟩ := field_at cs (k := k) (o := 0) (by omega) (by omega) hcell
      have hd : bs.drop k = bs.getD k (false, []) :: bs.drop (k + 1) := by rw [List.drop_eq_getElem_cons hk]; simp [List.getD, hk]
      obtain ⟨b1, b2⟩ := hb (bs.getD k (false, [])) (by simp [List.getD, hk])
      rw [bif_pos (by omega)]
      simp only [ca, Option.bind_some, p1, p2, bool_bool]
      have fin : ∀ (c : UInt8) (a : Sl) (g1 : AHeap), (if (bs.getD k (false, [])).1 = true then [101] else [97] : List UInt8) = [c] → Sep0 h0 g1 [.own 1 F 0 3 (fC o), .grown 2 o (blksC bs), .grown 1 a (bytesC (t ++ [c]))] →
          ∃ s' h', ((l_skolemlaw5_QdimacsBlocks_3 fuel (d + 1) fuel [(2, .int .i64 x2), (7, .bool true), (8, .ptr (.mk ⟨F, 0, 0⟩ 3)), (9, .int .i64 v), (13, .slice a), (14, .int .i64 (k : Int)), (15, .int .i64 (0 : Int))] g1).bind fun p => k_skolemlaw5_QdimacsBlocks_3 fuel (d + 1) n p.1 p.2.1 p.2.2) = some (.exit 4, [(7, .bool true), (8, .ptr (.mk ⟨F, 0, 0⟩ 3)), (9, .int .i64 v), (13, .slice s')], h') ∧
            Sep0 h0 h' [.own 1 F 0 3 (fC o), .grown 2 o (blksC bs), .grown 1 s' (bytesC (t ++ bsT g (bs.drop k)))] := by
        intro c a g1 hc sg
        obtain ⟨s2, g2, e2, q2⟩ := ub_nums fuel d (v := v) hg hg3 hk b1 b2 fuel 0 a (t ++ [c]) g1 (by omega) (by omega) (by rw [List.length_append, List.length_singleton]; omega) sg
        rw [show ((0 : Nat) : Int) = 0 from rfl] at e2
        rw [e2, Option.bind_some, k_skolemlaw5_QdimacsBlocks_3_x6]
        rw [List.drop_zero] at q2
        have hnl := numsG_len g _ b2
        obtain ⟨s3, g3, e3, q3⟩ := lit_appendI q2 (i := 2) rfl [32, 48, 10] (m := 3) rfl (by simp only [List.length_append, List.length_cons, List.length_nil]; omega)
        have e3' : AHeap.append g2 false 1 1 s2 (ByteArray.size (⟨#[32, 48, 10]⟩ : ByteArray)) (bytesOf (⟨#[32, 48, 10]⟩ : ByteArray)) = some (s3, g3) := e3
        rw [e3', Option.bind_some, sucU (by omega)]
        have hbt : bsT g (bs.drop k) = bT g (bs.getD k (false, [])) ++ bsT g (bs.drop (k + 1)) := by rw [hd]; rfl
        have hbT : bT g (bs.getD k (false, [])) = [c] ++ (numsG g (bs.getD k (false, [])).2 ++ [32, 48, 10]) := by unfold bT; rw [hc]
        have q4 : Sep0 h0 g3 [.own 1 F 0 3 (fC o), .grown 2 o (blksC bs), .grown 1 s3 (bytesC (t ++ bT g (bs.getD k (false, []))))] := by
          rw [hbT]
          simpa using q3
        obtain ⟨s5, g5, e5, q5⟩ := ih (k + 1) s3 _ g3 (by omega) (by omega) (by rw [List.length_append, bT_len]; omega) q4
        refine ⟨s5, g5, e5, ?_⟩
        rw [hbt, ← List.append_assoc]
        exact q5
      cases hb0 : (bs.getD k (false, [])).1 with
      | true =>
        rw [cond_true]
        obtain ⟨s1, h1', e1, q1⟩ := lit_appendI hs (i := 2) rfl [101] (m := 1) rfl (by simp; omega)
        have e1' : AHeap.append h false 1 1 s (ByteArray.size (⟨#[101]⟩ : ByteArray)) (bytesOf (⟨#[101]⟩ : ByteArray)) = some (s1, h1') := e1
        rw [e1', Option.bind_some]
        exact fin 101 s1 h1' (by rw [hb0, if_pos rfl]) q1
      | false =>
        rw [cond_false]
        obtain ⟨s1, h1', e1, q1⟩ := lit_appendI hs (i := 2) rfl [97] (m := 1) rfl (by simp; omega)
        have e1' : AHeap.append h false 1 1 s (ByteArray.size (⟨#[97]⟩ : ByteArray)) (bytesOf (⟨#[97]⟩ : ByteArray)) = some (s1, h1') := e1
        rw [e1', Option.bind_some]
        exact fin 97 s1 h1' (by rw [hb0, if_neg (by simp)]) q1
    · have : k = bs.length := by omega
      subst this
      rw [bif_neg (by omega), List.drop_length]
      exact ⟨s, h, rfl, by simpa [bsT] using hs⟩
theorem bsT_len (g : Nat) : ∀ (bs : List Blk), (∀ b ∈ bs, b.2.length ≤ 12 ∧ ∀ x ∈ b.2, 1 ≤ x ∧ x ≤ 12) → (bsT g bs).length ≤ 60 * bs.length
  | [], _ => by simp [bsT]
  | b :: bs, h => by
    have h1 := bsT_len g bs fun c hc => h c (List.mem_cons_of_mem _ hc)
    obtain ⟨h2, h3⟩ := h b (List.mem_cons_self ..)
    have h4 := numsG_len g _ h3
    have he : bsT g (b :: bs) = bT g b ++ bsT g bs := rfl
    rw [he, List.length_append, bT_len, List.length_cons]
    omega
theorem conB_all : ∀ {bs : List Blk} {a : Int}, 1 ≤ a → conB a bs → a + totB bs ≤ 13 → ∀ b ∈ bs, b.2.length ≤ 12 ∧ ∀ x ∈ b.2, 1 ≤ x ∧ x ≤ 12
  | [], _, _, _, _, b, hb => by cases hb
  | c :: bs, a, h0, h1, h2, b, hb => by
    have ht : totB (c :: bs) = c.2.length + totB bs := by simp [totB]
    rw [ht] at h2
    rcases List.mem_cons.1 hb with rfl | hb
    · exact ⟨by omega, fun x hx => by have := conS_lt h1.1 x hx; omega⟩
    · exact conB_all (by omega) h1.2 (by omega) b hb

theorem qdimacsBlocks_run (F d : Nat) (hF : 2 ^ 21 ≤ F) (K : List Bool) (C : List Int) (x2 : Int) (h : AHeap) : ∃ h', run F (d + 60) F_skolemlaw5_QdimacsBlocks [.slice (lstB K), .slice (lstI C), .int .i64 x2] h = some (.bool true, h') := by
  rw [e_skolemlaw5_QdimacsBlocks, first5_run F (by omega) (by omega), len_lst, len_lst]
  simp only [Option.bind_some, bool_bool, Bool.not_true, cond_false]
  by_cases hg : K.length = 0 ∨ 8 < K.length ∨ C.length < K.length
  · have hc : (bif (bif (decide ((K.length : Int) = (0 : Int))) then true else (decide ((8 : Int) < (K.length : Int)))) then true else (decide ((C.length : Int) < (K.length : Int)))) = true := by
      rcases hg with hg | hg | hg
      · rw [decide_eq_true (show (K.length : Int) = 0 by omega)]; rfl
      · rw [decide_eq_true (show (8 : Int) < (K.length : Int) by omega)]; cases decide ((K.length : Int) = (0 : Int)) <;> rfl
      · rw [decide_eq_true (show (C.length : Int) < (K.length : Int) by omega)]; cases decide ((K.length : Int) = (0 : Int)) <;> cases decide ((8 : Int) < (K.length : Int)) <;> rfl
    rw [hc]
    exact ⟨h, rfl⟩
  have hc : (bif (bif (decide ((K.length : Int) = (0 : Int))) then true else (decide ((8 : Int) < (K.length : Int)))) then true else (decide ((C.length : Int) < (K.length : Int)))) = false := by
    rw [decide_eq_false (show ¬ (K.length : Int) = 0 by omega), decide_eq_false (show ¬ (8 : Int) < (K.length : Int) by omega), decide_eq_false (show ¬ (C.length : Int) < (K.length : Int) by omega)]; rfl
  rw [hc, cond_false]
  have s1 := (Sep0.start h).push 1 3 (cs := [(AVal.slice Sl.nil), (.int .i64 (0 : Int)), (.slice Sl.nil)]) rfl
  obtain ⟨h2, e2, s2⟩ := s1.putAll (i := 0) (vs := fC .nil) rfl rfl rfl
  rw [e2, Option.bind_some]
  obtain ⟨bs, o, h3, e3, s3, q1, q2, q3⟩ := ub_out F (d + 58) (by omega) (K := K) (C := C) (x2 := x2) (by omega) (by omega) F 0 [] .nil h2 (by omega) (by omega) rfl trivial (by simp [totB]) (s2.addNil 2)
  have e3' : l_skolemlaw5_QdimacsBlocks_0 F (d + 59) F [(0, .slice (lstB K)), (1, .slice (lstI C)), (2, .int .i64 x2), (7, .bool true), (8, .ptr (.mk ⟨AHeap.next h, 0, 0⟩ 3)), (9, .int .i64 (1 : Int)), (10, .int .i64 (0 : Int))] h2 = _ := e3
  rw [e3', Option.bind_some, k_skolemlaw5_QdimacsBlocks_0_x0]
  obtain ⟨r1, r2⟩ := numI_range (n := x2) (b := 3) (by omega) (by omega)
  obtain ⟨g, hg3⟩ : ∃ g : Nat, numI x2 3 = (g : Int) := ⟨(numI x2 3).toNat, by omega⟩
  have hall := conB_all (by omega) q1 (by omega)
  have s4 := (s3.push 1 11 (cs := bytesC hdG) rfl).toGrown true (by omega)
  have how : (AHeap.ownAt (AHeap.push h3 1 (bytesC hdG)) (AHeap.next h3)) = true := by
    simp [AHeap.ownAt, AHeap.push, AHeap.next]
  obtain ⟨t1, h4, e4, s5⟩ := ub_blks F (d + 58) (by omega) (v := 1 + (totB bs : Int)) hg3 (by omega) (by omega) hall F 0 _ hdG _ (by omega) (by omega) (by rw [show hdG.length = 11 from rfl]; omega) s4
  rw [List.drop_zero] at s5
  have hbl := bsT_len g bs hall
  have hlen : (hdG ++ bsT g bs).length ≤ 500 := by rw [List.length_append, show hdG.length = 11 from rfl]; omega
  have how' : AHeap.ownAt (AHeap.push h3 1 [(.int .u8 (112 : Int)), (.int .u8 (32 : Int)), (.int .u8 (99 : Int)), (.int .u8 (110 : Int)), (.int .u8 (102 : Int)), (.int .u8 (32 : Int)), (.int .u8 (49 : Int)), (.int .u8 (50 : Int)), (.int .u8 (32 : Int)), (.int .u8 (48 : Int)), (.int .u8 (10 : Int))]) (AHeap.next h3) = true := how
  have e4' : l_skolemlaw5_QdimacsBlocks_2 F (d + 59) F [(2, .int .i64 x2), (7, .bool true), (8, .ptr (.mk ⟨AHeap.next h, 0, 0⟩ 3)), (9, .int .i64 (1 + (totB bs : Int))), (13, .slice (Sl.mk ⟨AHeap.next h3, 0, 0⟩ 11 true)), (14, .int .i64 (0 : Int))] (AHeap.push h3 1 [(.int .u8 (112 : Int)), (.int .u8 (32 : Int)), (.int .u8 (99 : Int)), (.int .u8 (110 : Int)), (.int .u8 (102 : Int)), (.int .u8 (32 : Int)), (.int .u8 (49 : Int)), (.int .u8 (50 : Int)), (.int .u8 (32 : Int)), (.int .u8 (48 : Int)), (.int .u8 (10 : Int))]) = _ := e4
  rw [how', cond_true, e4', Option.bind_some, k_skolemlaw5_QdimacsBlocks_2_x4]
  have kb := (s5.sep.grown (i := 2) rfl).cells
  have ko := (s5.sep.grown (i := 1) rfl).cells
  have kF := s5.getAll (i := 0) rfl rfl
  have tl := s5.len (i := 2) rfl
  have ol := s5.len (i := 1) rfl
  rw [flatMap_len blkC_len] at ol
  simp only [List.length_map, Nat.mul_one] at tl
  have st5 : Sep0 h h4 [.grown 1 t1 (bytesC (hdG ++ bsT g bs))] := s5.sub (List.Sublist.cons _ (List.Sublist.cons _ (List.Sublist.refl _)))
  have b0 := rdF_g0 (g := g) q1 q2
  have b13 := rdF_g13 (g := g) q1 q2
  have b1 := rdF_g1 (g := g) q1 q2
  generalize hdG ++ bsT g bs = b at *
  -- read once
  obtain ⟨ids1, f2⟩ := fread_any F (d + 51) (b := b) (by omega) (by omega) (bytes_fr st5)
  rw [f2, b0]
  simp only [frA, errO, Option.bind_some, tup2, comp0, comp1, cond_true, agg_agg]
  rw [cond_pos _ _ (okQ bs 12 [])]
  have sA := (Sep0.start (h4.markRo ids1)).push 1 3 (cs := zero3) rfl
  obtain ⟨g2, f3, sB⟩ := sA.putAll (i := 0) (vs := formulaC bs 12 []) rfl rfl rfl
  rw [f3, Option.bind_some]
  have st1 : Still h4 g2 := (Still.mark h4 ids1).trans sB.still
  -- with a variable beyond
  obtain ⟨t2, g3, f4, n4⟩ := byr_run F (d + 58) (st1.cells _ _ _ kb) (by omega) (by omega)
  rw [f4]
  simp only [Option.bind_some, slice_slice]
  have sC := (Sep0.start g2).add n4
  obtain ⟨t3, g4, f5, sD⟩ := lit_append sC [101, 32, 49, 51, 32, 48] (m := 6) rfl (by simp; omega)
  have f5' : AHeap.append g3 false 1 1 t2 (ByteArray.size (⟨#[101, 32, 49, 51, 32, 48]⟩ : ByteArray)) (bytesOf (⟨#[101, 32, 49, 51, 32, 48]⟩ : ByteArray)) = some (t3, g4) := f5
  rw [f5', Option.bind_some]
  obtain ⟨ids2, f6⟩ := fread_any F (d + 51) (b := b ++ [101, 32, 49, 51, 32, 48]) (by simp; omega) (by simp; omega) (bytes_fr sD)
  rw [f6, b13]
  simp only [frA, errO, Option.bind_some, tup2, comp0, comp1, cond_true, agg_agg]
  rw [cond_pos _ _ (okQ [] 0 [])]
  have sE := (Sep0.start (g4.markRo ids2)).push 1 3 (cs := zero3) rfl
  obtain ⟨g5, f7, sF⟩ := sE.putAll (i := 0) (vs := formulaC [] 0 []) rfl rfl rfl
  rw [f7, Option.bind_some, nilTest_nilif]
  have st2 : Still g2 g5 := (sD.still).trans ((Still.mark g4 ids2).trans sF.still)
  have st12 := st1.trans st2
  have c15 := st2.at_ _ _ _ (sB.getAll (i := 0) rfl rfl)
  have c16 := st12.at_ _ _ _ kF
  simp only [Option.bind_some, Bool.not_true, beq_self_eq_true, cond_true]
  rw [c15, Option.bind_some, c16, Option.bind_some]
  have hfr : freezeV g5 8 (.agg (fC o)) = some (.agg (formulaC bs 12 [])) := by
    have e1 := freeze_sl (m := 6) (st12.cells _ _ _ ko) (closedL_flatMap closed_blkC bs) (freeze_blksC 5 bs)
    have hol : o.len = bs.length := by omega
    rw [hol] at e1
    exact freeze_agg 7 (mm3 e1 rfl rfl)
  obtain ⟨ids3, f8⟩ := sameForm_any F (d + 55) 12 (l := []) (by omega) (by omega) (fun c hc => by have := (hall c hc).1; omega) (by simp) (by simp; omega) (fun s hs => by cases hs) hfr
  rw [f8]
  simp only [Option.bind_some, bool_bool, Bool.not_true, beq_self_eq_true, cond_true]
  have hw2 : IntKind.wrap .i64 ((t1.len : Int) + 2) = (b.length : Int) + 2 := by rw [wrap64 (by omega) (by omega)]; omega
  rw [hw2, Placed_run F (d + 58) (show (101 : Int) ≠ 0 by omega)]
  simp only [Option.bind_some, agg_agg]
  have hft : IsFault (atV ((b.length : Int) + 2) err_api_ErrText) 101 true ((b.length : Int) + 2) := IsFault.at (show 0 < 7 by omega) _
  have hsame : ∀ g : AHeap, run F (d + 59) F_skolemsee_Same [errO (some (101, (b.length : Int) + 2)), .agg (faultC 101 true ((b.length : Int) + 2))] g = some (.bool true, g) := fun g => same_true F (d + 55) hft (by omega) g
  have hsame' : ∀ g : AHeap, run F (d + 59) F_skolemsee_Same [atV ((b.length : Int) + 2) (errC 101), .agg (faultC 101 true ((b.length : Int) + 2))] g = some (.bool true, g) := fun g => same_true F (d + 55) hft (by omega) g
  first | rw [hsame] | rw [hsame']
  simp only [Option.bind_some, bool_bool, Bool.not_true, cond_false]
  by_cases h0 : totB bs = 0
  · rw [bif_pos (by omega)]
    exact ⟨_, rfl⟩
  rw [bif_neg (by omega)]
  -- with a variable for a second time
  have st3 : Still g5 (g5.markRo ids3) := Still.mark g5 ids3
  obtain ⟨t4, g6, f9, n9⟩ := byr_run F (d + 58) ((st12.trans st3).cells _ _ _ kb) (by omega) (by omega)
  rw [f9]
  simp only [Option.bind_some, slice_slice]
  have sG := (Sep0.start (g5.markRo ids3)).add n9
  obtain ⟨t5, g7, f10, sH⟩ := lit_append sG [97, 32, 49, 32, 48] (m := 5) rfl (by simp; omega)
  have f10' : AHeap.append g6 false 1 1 t4 (ByteArray.size (⟨#[97, 32, 49, 32, 48]⟩ : ByteArray)) (bytesOf (⟨#[97, 32, 49, 32, 48]⟩ : ByteArray)) = some (t5, g7) := f10
  rw [f10', Option.bind_some]
  obtain ⟨ids4, f11⟩ := fread_any F (d + 51) (b := b ++ [97, 32, 49, 32, 48]) (by simp; omega) (by simp; omega) (bytes_fr sH)
  rw [f11, b1 h0]
  simp only [frA, errO, Option.bind_some, tup2, comp0, comp1, cond_true, agg_agg]
  rw [cond_pos _ _ (okQ [] 0 [])]
  have sI := (Sep0.start (g7.markRo ids4)).push 1 3 (cs := zero3) rfl
  obtain ⟨g8, f12, sJ⟩ := sI.putAll (i := 0) (vs := formulaC [] 0 []) rfl rfl rfl
  rw [f12, Option.bind_some]
  rw [Placed_run F (d + 58) (show (101 : Int) ≠ 0 by omega)]
  simp only [Option.bind_some, agg_agg]
  first | rw [hsame] | rw [hsame']
  simp only [Option.bind_some, bool_bool, beq_self_eq_true, cond_true]
  rw [near_run F (d + 58) (a := []) (s := .nil) rfl (by simp) (by simp; omega)]
  exact ⟨_, rfl⟩
end Go.Proofs.YtdkckkhghghhdaaDoor
