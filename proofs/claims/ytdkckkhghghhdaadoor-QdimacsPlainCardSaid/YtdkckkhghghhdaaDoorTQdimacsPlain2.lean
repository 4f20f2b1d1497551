/-
  Parts of the proof of QdimacsPlain: Clauses as text: heads, lines; the program's and the reference's. qdimacs: a reader's block. qdimacs: a reader's blocks. qdimacs.Read. Clauses and formulas as text: the program's and the reference's. Clauses' text is read as they were. skolemref.SameInts. The document's small functions on numbers: skolemref.SameInts, Has, Ints. Literals. lits.Check. skolemmake.Near. skolemref1.CheckCNF; skolemmake.NearAll, Count. qdimacs.Check, skolemref1.CheckFormula. A formula's text is read as it was. skolemref1.ReadFormula. skolemref1.ReadFormula: all blocks, the whole. skolemref1.ReadFormula: the whole. Clauses held against clauses; what the readers tell. QdimacsReads. Bytes held against themselves. skolemlaw4.first. skolemworld.Number. Literals out of numbers. skolemmake.Clauses, skolemmake.CNF; skolemref1.Of. skolemmake.Clauses, skolemmake.CNF, as values. DimacsBytes. skolemref.Bytes: a slice of its own. QdimacsPlain.
-/
import Derived.Test.YtdkckkhghghhdaaDoorTQdimacsPlain1
import Derived.Test.YtdkckkhghghhdaaDoorE
import Derived.Test.YtdkckkhghghhdaaDoorBm31
namespace Go.Proofs.YtdkckkhghghhdaaDoor
open Go.RowKit

/-- numbers that are written right -/
def Num64 (x : Int) : Prop := -9223372036854775808 ≤ x ∧ x ≤ 9223372036854775807
theorem Num64.app {x : Int} (h : Num64 x) (fuel d : Nat) (hf : 30 < fuel) : AppOk fuel (d + 5) x := app_ok fuel d hf h.1 h.2
def headTx (v n : Int) : List UInt8 := [112, 32, 99, 110, 102, 32] ++ decT v ++ [32] ++ decT n ++ [10]
theorem decT_len {x : Int} (h : Num64 x) : (decT x).length ≤ 20 := by
  obtain ⟨_, _, _, _, h2⟩ := h.app 31 0 (by omega) AHeap.none AHeap.none .nil [] (by simp) ((Sep0.start _).addNil 1)
  exact h2
theorem headTx_len {v n : Int} (hv : Num64 v) (hn : Num64 n) : (headTx v n).length ≤ 60 ∧ 8 ≤ (headTx v n).length := by
  have := decT_len hv
  have := decT_len hn
  simp only [headTx, List.length_append, List.length_cons, List.length_nil]
  omega
theorem tx_app (a b : List UInt8) : (tx a ++ tx b : ByteArray) = tx (a ++ b) := tx_append a b
theorem headB_run (fuel d : Nat) (hf : 30 < fuel) {v : Int} {l : List (List Int)} (hv : Num64 v) (hl : l.length < 1000000000) (h : AHeap) :
    ∃ s' h', run fuel (d + 6) F_dimacs_HeadBytes [.agg (cnfC v l)] h = some (.slice s', h') ∧ Sep0 h h' [.grown 1 s' (bytesC (headTx v (l.length : Int)))] := by
  have hn : Num64 (l.length : Int) := ⟨by omega, by omega⟩
  have l1 := decT_len hv
  have l2 := decT_len hn
  have hlen := headTx_len hv hn
  have s1 := (Sep0.start h).push 1 2 (cs := cnfC v l) rfl
  have c0 : (h.push 1 (cnfC v l)).cell (.mk ⟨h.next, 0, 0 + 0⟩ 2) = some (.int .i64 v) := s1.part (i := 0) rfl (by omega) rfl
  have c1 : (h.push 1 (cnfC v l)).cell (.mk ⟨h.next, 0, 0 + 1⟩ 2) = some (.slice (lstLL l)) := s1.part (i := 0) rfl (by omega) rfl
  rw [e_dimacs_HeadBytes, show List.all (cnfC v l) AVal.isCell = true from rfl, cond_true, show (cnfC v l).length = 2 from rfl]
  simp only [field_mk, Option.bind_some, c0, int_int]
  rw [itoa_run fuel d hf hv.1 hv.2]
  simp only [Option.bind_some, str_str]
  rw [show (⟨#[112, 32, 99, 110, 102, 32]⟩ : ByteArray) = tx [112, 32, 99, 110, 102, 32] from rfl, show (⟨#[32]⟩ : ByteArray) = tx [32] from rfl, show (⟨#[10]⟩ : ByteArray) = tx [10] from rfl, tx_app, tx_app]
  rw [cond_pos _ _ (by rw [tx_size, tx_size]; simp only [List.length_cons, List.length_nil]; exact nble.2 (by omega)), cond_pos _ _ (by rw [tx_size, tx_size]; simp only [List.length_append, List.length_cons, List.length_nil]; exact nble.2 (by omega))]
  simp only [c1, Option.bind_some, slice_slice, same_self, len_lst]
  rw [itoa_run fuel d hf hn.1 hn.2]
  simp only [Option.bind_some, str_str, tx_app]
  rw [cond_pos _ _ (by rw [tx_size, tx_size]; simp only [List.length_append, List.length_cons, List.length_nil]; exact nble.2 (by omega)), cond_pos _ _ (by rw [tx_size, tx_size]; simp only [List.length_append, List.length_cons, List.length_nil]; exact nble.2 (by omega))]
  rw [bytesOf_tx, tx_size]
  have s2 := (s1.push 1 (headTx v (l.length : Int)).length (cs := bytesC (headTx v (l.length : Int))) (by simp)).toGrown false (by omega)
  exact ⟨_, _, rfl, s2.sub (by exact List.Sublist.cons _ (List.Sublist.refl _))⟩

/-! the reference's -/
theorem rlits_loop (fuel d : Nat) {l : List Int} (hl : l.length < 1000000) (hok : ∀ x ∈ l, AppOk fuel d x) {h0 : AHeap} : ∀ (n k : Nat) (s : Sl) (t : List UInt8) (h : AHeap), l.length < n + k → k ≤ l.length → t.length + 30 * (l.length - k) < 800000000 → Sep0 h0 h [.grown 1 s (bytesC t)] →
    ∃ s' h', (l_skolemref1_lits_0 fuel d n [(0, .slice s), (1, .slice (lstI l)), (5, .int .i64 (k : Int))] h).bind (fun p => k_skolemref1_lits_0 fuel d p.1 p.2.1 p.2.2) = some (.slice s', h') ∧ Sep0 h0 h' [.grown 1 s' (bytesC (t ++ lineT (l.drop k)))] := by
  intro n
  induction n with
  | zero => intro k s t h h1 h2; omega
  | succ n ih =>
    intro k s t h h1 h2 ht hs
    rw [l_skolemref1_lits_0_eq, len_lst]
    by_cases hk : k < l.length
    · have hd : l.drop k = l.getD k 0 :: l.drop (k + 1) := by rw [List.drop_eq_getElem_cons hk]; simp [List.getD, hk]
      have hx := hok (l.getD k 0) (by simp [List.getD, hk])
      rw [bif_pos (by omega), addr_lstM _ (by omega) (by omega) 0, hd, Int.toNat_natCast]
      generalize l.getD k 0 = x at hx
      simp only [Option.bind_some, cell_fp, int_int]
      obtain ⟨s1, h1', e1, q1, q2⟩ := hx h0 h s t (by omega) hs
      rw [e1]
      simp only [Option.bind_some, slice_slice]
      rw [show [(AVal.int .u8 (32 : Int))] = bytesC [32] from rfl, lit_cells h1' [32] (n := 1) rfl, Option.bind_some, Sl.len]
      obtain ⟨s2, h2', e2, q3⟩ := lit_append (q1.junk (cs := bytesC [32])) [32] (m := 1) rfl (by simp; omega)
      rw [e2, Option.bind_some, sucU (by omega)]
      obtain ⟨s3, h3', e3, q4⟩ := ih (k + 1) s2 (t ++ decT x ++ [32]) h2' (by omega) (by omega) (by simp; omega) q3
      refine ⟨s3, h3', e3, ?_⟩
      have : t ++ decT x ++ [32] ++ lineT (l.drop (k + 1)) = t ++ lineT (x :: l.drop (k + 1)) := by simp [lineT, numsT]
      rw [← this]
      exact q4
    · have : k = l.length := by omega
      subst this
      rw [bif_neg (by omega), List.drop_length]
      simp only [Option.bind_some, k_skolemref1_lits_0_x0]
      rw [show [(AVal.int .u8 (48 : Int)), (AVal.int .u8 (10 : Int))] = bytesC [48, 10] from rfl, lit_cells h [48, 10] (n := 2) rfl, Option.bind_some, Sl.len]
      obtain ⟨s2, h2', e2, q3⟩ := lit_append (hs.junk (cs := bytesC [48, 10])) [48, 10] (m := 2) rfl (by simp; omega)
      rw [e2, Option.bind_some]
      exact ⟨s2, h2', rfl, q3⟩
theorem rlits_run (fuel d : Nat) {l : List Int} (hl : l.length < 1000000) (hf : l.length < fuel) (hok : ∀ x ∈ l, AppOk fuel d x) {h0 h : AHeap} {s : Sl} {t : List UInt8} (ht : t.length + 30 * l.length < 800000000) (hs : Sep0 h0 h [.grown 1 s (bytesC t)]) :
    ∃ s' h', run fuel (d + 1) F_skolemref1_lits [.slice s, .slice (lstI l)] h = some (.slice s', h') ∧ Sep0 h0 h' [.grown 1 s' (bytesC (t ++ lineT l))] := by
  obtain ⟨s', h', e1, q1⟩ := rlits_loop fuel d hl hok fuel 0 s t h (by omega) (by omega) (by omega) hs
  rw [List.drop_zero] at q1
  refine ⟨s', h', ?_, q1⟩
  rw [e_skolemref1_lits]
  exact e1
theorem rhd_run (fuel d : Nat) (hf : 30 < fuel) {v : Int} {l : List (List Int)} (hv : Num64 v) (hl : l.length < 1000000000) (h : AHeap) :
    ∃ s' h', run fuel (d + 6) F_skolemref1_head [.agg (cnfC v l)] h = some (.slice s', h') ∧ Sep0 h h' [.grown 1 s' (bytesC (headTx v (l.length : Int)))] := by
  have hn : Num64 (l.length : Int) := ⟨by omega, by omega⟩
  have l1 := decT_len hv
  have l2 := decT_len hn
  rw [e_skolemref1_head, show List.all (cnfC v l) AVal.isCell = true from rfl, cond_true, show (cnfC v l).length = 2 from rfl]
  have s1 := (Sep0.start h).push 1 2 (cs := cnfC v l) rfl
  have s2 := (s1.push 1 6 (cs := bytesC [112, 32, 99, 110, 102, 32]) rfl)
  have how : (AHeap.ownAt (AHeap.push (AHeap.push h 1 (cnfC v l)) 1 [(.int .u8 (112 : Int)), (.int .u8 (32 : Int)), (.int .u8 (99 : Int)), (.int .u8 (110 : Int)), (.int .u8 (102 : Int)), (.int .u8 (32 : Int))]) (AHeap.next (AHeap.push h 1 (cnfC v l)))) = true := by
    simp [AHeap.ownAt, AHeap.push, AHeap.next]
  have c0 : (AHeap.push (AHeap.push h 1 (cnfC v l)) 1 (bytesC [112, 32, 99, 110, 102, 32])).cell (.mk ⟨h.next, 0, 0 + 0⟩ 2) = some (.int .i64 v) := s2.part (i := 0) rfl (by omega) rfl
  rw [how, cond_true]
  have k1 : ∀ H : AHeap, Sep0 (h.push 1 (cnfC v l)) H [] → H.cell (.mk ⟨h.next, 0, 0 + 1⟩ 2) = some (.slice (lstLL l)) := fun H hs =>
    cell_keep hs.ext id (s1.part (i := 0) (o := 1) (l := 2) rfl (by omega) rfl)
  have s3 : Sep0 (h.push 1 (cnfC v l)) (AHeap.push (AHeap.push h 1 (cnfC v l)) 1 (bytesC [112, 32, 99, 110, 102, 32])) [.grown 1 (.mk ⟨AHeap.next (AHeap.push h 1 (cnfC v l)), 0, 0⟩ 6 true) (bytesC [112, 32, 99, 110, 102, 32])] :=
    ((Sep0.start (h.push 1 (cnfC v l))).push 1 6 (cs := bytesC [112, 32, 99, 110, 102, 32]) rfl).toGrown true (by omega)
  simp only [field_mk, Option.bind_some]
  rw [show [(AVal.int .u8 (112 : Int)), (.int .u8 (32 : Int)), (.int .u8 (99 : Int)), (.int .u8 (110 : Int)), (.int .u8 (102 : Int)), (.int .u8 (32 : Int))] = bytesC [112, 32, 99, 110, 102, 32] from rfl, c0]
  simp only [Option.bind_some, int_int]
  obtain ⟨a1, g1, e1, q1, _⟩ := hv.app fuel d hf _ _ _ _ (by simp) s3
  rw [e1]
  simp only [Option.bind_some, slice_slice]
  rw [show [(AVal.int .u8 (32 : Int))] = bytesC [32] from rfl, lit_cells g1 [32] (n := 1) rfl, Option.bind_some, Sl.len]
  have j1 := q1.junk (cs := bytesC [32])
  obtain ⟨a2, g2, e2, q2⟩ := lit_append j1 [32] (m := 1) rfl (by simp; omega)
  rw [e2]
  simp only [Option.bind_some, k1 g2 q2.tl, k1 g1 q1.tl, k1 _ j1.tl, slice_slice, same_self, len_lst]
  obtain ⟨a3, g3, e3, q3, _⟩ := hn.app fuel d hf _ _ _ _ (by simp; omega) q2
  rw [e3]
  simp only [Option.bind_some, slice_slice]
  rw [show [(AVal.int .u8 (10 : Int))] = bytesC [10] from rfl, lit_cells g3 [10] (n := 1) rfl, Option.bind_some, Sl.len]
  obtain ⟨a4, g4, e4, q4⟩ := lit_append (q3.junk (cs := bytesC [10])) [10] (m := 1) rfl (by simp; omega)
  rw [e4]
  exact ⟨a4, g4, rfl, ⟨q4.sep, s1.ext.trans q4.ext, fun c hc r hr => Nat.le_trans s1.ext.1 (q4.fresh c hc r hr)⟩⟩
end Go.Proofs.YtdkckkhghghhdaaDoor

namespace Go.Proofs.YtdkckkhghghhdaaDoor
open Go.RowKit

abbrev rdrC (W : List Wd) (k : Nat) (e vars : Int) (m : Nat) : List AVal := [.slice (lstW W), .int .i64 (k : Int), .int .i64 e, .int .i64 vars, .map (some m)]
abbrev zeroW : List AVal := [.str (⟨#[]⟩ : ByteArray), .int .i64 (0 : Int), .bool false]
theorem isCellW (w : Wd) : (!false && Nat.beq (List.length (wdC w)) 3 && List.all (wdC w) AVal.isCell) = true := rfl
theorem okErr (c : Int) : (bif (Nat.beq (List.length (AVal.cells err_api_ErrText)) 1 && Nat.ble (1 + 1) (List.length [(AVal.int .i64 c), .nilif]) && List.all (AVal.cells err_api_ErrText) AVal.isCell) then ((some (AHeap.overlay [(AVal.int .i64 c), .nilif] 1 (AVal.cells err_api_ErrText)))) else (none)) = some [.int .i64 c, err_api_ErrText] := rfl
theorem allErr (c : Int) : List.all [AVal.int .i64 c, err_api_ErrText] AVal.isCell = true := rfl
theorem lenErr (c : Int) : List.length [AVal.int .i64 c, err_api_ErrText] = 2 := rfl
theorem rdr_bad {h0 h : AHeap} {L : List Chunk} (hs : Sep0 h0 h L) (p : Int) : Sep0 h0 (h.push 1 [.int .i64 p, err_api_ErrText]) (.own 1 h.next 0 2 [.int .i64 p, err_api_ErrText] :: L) := (hs.push 1 2 rfl).cons

/-- what a block hands back -/
def BlkPost (W : List Wd) (e vars : Int) (R m : Nat) (L : List Chunk) (h0 : AHeap) : BkR → AVal → AHeap → Prop
  | .bad p, v, h' => ∃ r, v = .tup [.slice .nil, .iface T_p_api_At (.ptr (.mk ⟨r, 0, 0⟩ 2))] ∧ Sep0 h0 h' (.own 1 r 0 2 [.int .i64 p, err_api_ErrText] :: L)
  | .ok l seen ws, v, h' => ∃ s' k', v = .tup [.slice s', .nilif] ∧ Sep0 h0 h' (.own 1 R 0 5 (rdrC W k' e vars m) :: .mp h0.maps.length m (seenM seen) :: .grown 1 s' (intsC l) :: L) ∧ ws = W.drop k' ∧ k' ≤ W.length
theorem blk_loop (fuel d : Nat) {W : List Wd} {e vars : Int} {R m : Nat} {L : List Chunk} {h0 : AHeap} (hf : 20 < fuel) (hW : W.length < 70000) : ∀ (n k : Nat) (acc seen : List Int) (s : Sl) (h : AHeap), W.length < n + k → k ≤ W.length → acc.length ≤ k →
    Sep0 h0 h (.own 1 R 0 5 (rdrC W k e vars m) :: .mp h0.maps.length m (seenM seen) :: .grown 1 s (intsC acc) :: L) →
    ∃ v h', (l_qdimacs_reader_block_0 fuel (d + 3) n [(0, .ptr (.mk ⟨R, 0, 0⟩ 5)), (4, .slice s)] h).bind (fun p => k_qdimacs_reader_block_0 fuel (d + 3) p.1 p.2.1 p.2.2) = some (v, h') ∧ BlkPost W e vars R m L h0 (blockT e vars (W.drop k) seen acc) v h' := by
  intro n
  induction n with
  | zero => intro k acc seen s h h1 h2; omega
  | succ n ih =>
    intro k acc seen s h h1 h2 h3 hs
    have hl := hs.len (i := 2) rfl
    simp only [List.length_map, Nat.mul_one] at hl
    rw [l_qdimacs_reader_block_0_eq]
    have c0 : h.cell (.mk ⟨R, 0, 0 + 0⟩ 5) = some (.slice (lstW W)) := hs.part (i := 0) rfl (by omega) rfl
    have c1 : h.cell (.mk ⟨R, 0, 0 + 1⟩ 5) = some (.int .i64 (k : Int)) := hs.part (i := 0) rfl (by omega) rfl
    have sj := hs.junk (cs := zeroW)
    have d0 : (h.push 1 zeroW).cell (.mk ⟨R, 0, 0 + 0⟩ 5) = some (.slice (lstW W)) := sj.part (i := 0) rfl (by omega) rfl
    have d1 : (h.push 1 zeroW).cell (.mk ⟨R, 0, 0 + 1⟩ 5) = some (.int .i64 (k : Int)) := sj.part (i := 0) rfl (by omega) rfl
    simp only [chk_mk, field_mk, Option.bind_some, c0, c1, int_int, slice_slice, len_lst]
    by_cases hk : k < W.length
    · have hd : W.drop k = W.getD k ⟨[], 0, false⟩ :: W.drop (k + 1) := by rw [List.drop_eq_getElem_cons hk]; simp [List.getD, hk]
      have hk' : (k : Int) < (W.length : Int) := by omega
      simp only [hk', decide_true, cond_true, hd]
      have a1 : ∀ h : AHeap, h.addr 3 (lstW W) (k : Int) = some (.fp 0 (wdC (W.getD k ⟨[], 0, false⟩))) := fun h => addr_lstN (sz := 3) (f := wdC) wdC_len (l := W) (j := (k : Int)) (by omega) (by omega) ⟨[], 0, false⟩ false
      simp only [a1, Option.bind_some]
      generalize W.getD k ⟨[], 0, false⟩ = w
      simp only [cellsAt_fp (wdC_len w), d0, d1, Option.bind_some, int_int, slice_slice, same_self, a1]
      obtain ⟨h3', e1, s3, w0, w1, w2⟩ := copyW hs w
      rw [cond_pos _ _ (isCellW w), e1]
      simp only [Option.bind_some, field_mk, w0, w1, str_str]
      rw [wNum_run fuel d hf]
      simp only [Option.bind_some, tup2, cond_true, comp0, comp1, int_int, bool_bool]
      have g1 : h3'.cell (.mk ⟨R, 0, 0 + 1⟩ 5) = some (.int .i64 (k : Int)) := s3.part (i := 0) rfl (by omega) rfl
      have g3 : h3'.cell (.mk ⟨R, 0, 0 + 3⟩ 5) = some (.int .i64 vars) := s3.part (i := 0) rfl (by omega) rfl
      have g4 : h3'.cell (.mk ⟨R, 0, 0 + 4⟩ 5) = some (.map (some m)) := s3.part (i := 0) rfl (by omega) rfl
      have gm : h3'.maps[m]? = some (seenM seen) := s3.getMap (i := 1) rfl
      unfold blockT
      by_cases hz : okNum w.text = true ∧ numW w.text = 0
      · rw [if_pos hz, hz.1, hz.2]
        obtain ⟨h4, e4, s4⟩ := s3.put (i := 0) (o := 1) (l := 5) (vs := [.int .i64 ((k + 1 : Nat) : Int)]) rfl (by simp) (by simp)
        simp only [decide_true, cond_true, chk_mk, field_mk, Option.bind_some, g1, int_int, sucU (show k < 9000000000000000000 by omega)]
        rw [Nat.zero_add, e4, Option.bind_some]
        simp only [k_qdimacs_reader_block_0_r, Option.bind_some]
        exact ⟨_, h4, rfl, s, k + 1, rfl, s4, rfl, by omega⟩
      · have hz' : (bif okNum w.text then decide (numW w.text = 0) else false) = false := by
          cases h8 : okNum w.text with
          | false => rfl
          | true => rw [cond_true]; exact decide_eq_false fun h9 => hz ⟨h8, h9⟩
        rw [if_neg hz, hz', cond_false]
        simp only [chk_mk, field_mk, Option.bind_some, g3, int_int]
        have hcond : ((bif ((bif (!okNum w.text) then true else (decide (numW w.text < (1 : Int)))) == false) then (some ((AVal.bool (decide (vars < numW w.text))), h3')) else (some ((.bool true), h3')) : Option (AVal × AHeap))) = some (.bool (!okNum w.text || decide (numW w.text < 1) || (okNum w.text && !decide (numW w.text < 1) && decide (vars < numW w.text))), h3') := by
          cases okNum w.text <;> cases decide (numW w.text < 1) <;> cases decide (vars < numW w.text) <;> rfl
        rw [hcond]
        simp only [chk_mk, field_mk, Option.bind_some, bool_bool, g4, map_map, mapOf_some, gm, mfind_seen, mgot_seen]
        have hcond2 : ∀ b : Bool, ((bif b == false then (some (AVal.bool (seen.contains (numW w.text)), h3')) else (some ((.bool true), h3')) : Option (AVal × AHeap))) = some (.bool (b || seen.contains (numW w.text)), h3') := fun b => by cases b <;> rfl
        rw [hcond2]
        simp only [Option.bind_some, bool_bool]
        have hb : (!okNum w.text || decide (numW w.text < 1) || (okNum w.text && !decide (numW w.text < 1) && decide (vars < numW w.text)) || seen.contains (numW w.text)) = badV w.text vars seen := by
          unfold badV
          cases okNum w.text <;> cases decide (numW w.text < 1) <;> cases decide (vars < numW w.text) <;> cases seen.contains (numW w.text) <;> rfl
        rw [hb]
        cases hbad : badV w.text vars seen with
        | true =>
          simp only [cond_true, if_true, field_mk, Option.bind_some, w1, int_int, okErr]
          simp only [allErr, lenErr, cond_true, k_qdimacs_reader_block_0_r, Option.bind_some]
          exact ⟨_, _, rfl, _, rfl, rdr_bad (s3.sub (((List.Sublist.refl L).cons _ |>.cons _ |>.cons _))) _⟩
        | false =>
          have hcon : seen.contains (numW w.text) = false := by
            unfold badV at hbad
            simp only [Bool.or_eq_false_iff] at hbad
            exact hbad.2
          simp only [cond_false, Bool.false_eq_true, if_false, chk_mk, field_mk, g4, map_map, gm, mset_seen _ _ hcon, Option.bind_some]
          have s4 := s3.setMap (i := 1) rfl (seenM (seen ++ [numW w.text]))
          obtain ⟨s', h5, e5, s5, l5⟩ := s4.grow (i := 2) (bytes := 8) (m := 1) (vs := [.int .i64 (numW w.text)]) rfl rfl (by omega) (by omega)
          rw [e5]
          have j1 : h5.cell (.mk ⟨R, 0, 0 + 1⟩ 5) = some (.int .i64 (k : Int)) := s5.part (i := 0) rfl (by omega) rfl
          obtain ⟨h6, e6, s6⟩ := s5.put (i := 0) (o := 1) (l := 5) (vs := [.int .i64 ((k + 1 : Nat) : Int)]) rfl (by simp) (by simp)
          simp only [Option.bind_some, j1, int_int, sucU (show k < 9000000000000000000 by omega)]
          rw [Nat.zero_add, e6, Option.bind_some]
          refine ih (k + 1) (acc ++ [numW w.text]) (seen ++ [numW w.text]) s' h6 (by omega) (by omega) (by simp; omega) ?_
          rw [intsC_app]
          exact s6
    · have : k = W.length := by omega
      subst this
      have hk' : ¬ (W.length : Int) < (W.length : Int) := by omega
      simp only [hk', decide_false, cond_false, List.drop_length]
      have c2 : h.cell (.mk ⟨R, 0, 0 + 2⟩ 5) = some (.int .i64 e) := hs.part (i := 0) rfl (by omega) rfl
      simp only [Option.bind_some, k_qdimacs_reader_block_0_x0, chk_mk, field_mk, c2, int_int, okErr, allErr, lenErr, cond_true]
      exact ⟨_, _, rfl, _, rfl, rdr_bad (hs.sub (((List.Sublist.refl L).cons _ |>.cons _ |>.cons _))) _⟩
end Go.Proofs.YtdkckkhghghhdaaDoor

namespace Go.Proofs.YtdkckkhghghhdaaDoor
open Go.RowKit

theorem tx_is (t u : List UInt8) : decide (tx t = tx u) = (t == u) := by
  have := txt_ne t u
  cases h1 : decide (tx t = tx u) <;> cases h2 : (t == u) <;> simp_all
theorem tx_e (t : List UInt8) : decide (tx t = (⟨#[101]⟩ : ByteArray)) = (t == [101]) := tx_is t [101]
theorem tx_a (t : List UInt8) : decide (tx t = (⟨#[97]⟩ : ByteArray)) = (t == [97]) := tx_is t [97]
theorem block_run (fuel d : Nat) {W : List Wd} {e vars : Int} {R m k : Nat} {L : List Chunk} {h0 h : AHeap} (hf : 20 < fuel) (hW : W.length < 70000) (hWf : W.length < fuel) (hk : k ≤ W.length) {seen : List Int}
    (hs : Sep0 h0 h (.own 1 R 0 5 (rdrC W k e vars m) :: .mp h0.maps.length m (seenM seen) :: L)) :
    ∃ v h', run fuel (d + 4) F_qdimacs_reader_block [.ptr (.mk ⟨R, 0, 0⟩ 5)] h = some (v, h') ∧ BlkPost W e vars R m L h0 (blockT e vars (W.drop k) seen []) v h' := by
  rw [e_qdimacs_reader_block]
  exact blk_loop fuel d hf hW fuel k [] seen .nil h (by omega) hk (by simp) (hs.nil2 1)
def begE : List Wd → Bool
  | [] => false
  | w :: _ => w.first && w.text == [101]
def begI : List Wd → Bool
  | [] => false
  | w :: _ => isBk w
theorem begins_run (fuel d : Nat) {W : List Wd} {e vars : Int} {R m k : Nat} {L : List Chunk} {h0 h : AHeap} (hk : k ≤ W.length) (hs : Sep0 h0 h (.own 1 R 0 5 (rdrC W k e vars m) :: L)) :
    run fuel (d + 1) F_qdimacs_reader_begins [.ptr (.mk ⟨R, 0, 0⟩ 5)] h = some (.tup [.bool (begE (W.drop k)), .bool (begI (W.drop k))], h) := by
  have c0 : h.cell (.mk ⟨R, 0, 0 + 0⟩ 5) = some (.slice (lstW W)) := hs.part (i := 0) rfl (by omega) rfl
  have c1 : h.cell (.mk ⟨R, 0, 0 + 1⟩ 5) = some (.int .i64 (k : Int)) := hs.part (i := 0) rfl (by omega) rfl
  rw [e_qdimacs_reader_begins]
  simp only [chk_mk, field_mk, Option.bind_some, c0, c1, int_int, slice_slice, len_lst]
  by_cases hlt : k < W.length
  · have hd : W.drop k = W.getD k ⟨[], 0, false⟩ :: W.drop (k + 1) := by rw [List.drop_eq_getElem_cons hlt]; simp [List.getD, hlt]
    have hn : ¬ ((W.length : Nat) : Int) ≤ (k : Int) := by omega
    have a1 : h.addr 3 (lstW W) (k : Int) = some (.fp 0 (wdC (W.getD k ⟨[], 0, false⟩))) := addr_lstN (sz := 3) (f := wdC) wdC_len (l := W) (j := (k : Int)) (by omega) (by omega) ⟨[], 0, false⟩ false
    simp only [hn, decide_false, cond_false, a1, Option.bind_some, hd]
    generalize W.getD k ⟨[], 0, false⟩ = w at a1
    simp only [wdC, field_fp, List.drop_succ_cons, List.drop_zero, Option.bind_some, cell_fp, bool_bool, k_qdimacs_reader_begins_0_n, chk_mk, field_mk, c0, c1, int_int, slice_slice, str_str]
    simp only [a1, Option.bind_some, wdC, field_fp, List.drop_zero, cell_fp, str_str, tx_e, tx_a]
    show _ = some (AVal.tup [.bool (w.first && w.text == [101]), .bool (w.first && (w.text == [97] || w.text == [101]))], h)
    cases w.first <;> cases w.text == [97] <;> cases w.text == [101] <;> rfl
  · have hn : ((W.length : Nat) : Int) ≤ (k : Int) := by omega
    have : k = W.length := by omega
    subst this
    simp only [hn, decide_true, cond_true, Option.bind_some, k_qdimacs_reader_begins_0_n, List.drop_length]
    rfl

/-- what all blocks hand back -/
def BsPost (W : List Wd) (e vars : Int) (R m : Nat) (L : List Chunk) (h0 : AHeap) : BsR → AVal → AHeap → Prop
  | .bad p, v, h' => ∃ r, v = .tup [.slice .nil, .iface T_p_api_At (.ptr (.mk ⟨r, 0, 0⟩ 2))] ∧ Sep0 h0 h' (.own 1 r 0 2 [.int .i64 p, err_api_ErrText] :: L)
  | .ok l ws, v, h' => ∃ s' k' seen, v = .tup [.slice s', .nilif] ∧ Sep0 h0 h' (.own 1 R 0 5 (rdrC W k' e vars m) :: .mp h0.maps.length m (seenM seen) :: .grown 2 s' (blksC l) :: L) ∧ ws = W.drop k' ∧ k' ≤ W.length
theorem blks_loop (fuel d : Nat) {W : List Wd} {e vars : Int} {R m : Nat} {L : List Chunk} {h0 : AHeap} (hf : 20 < fuel) (hW : W.length < 70000) (hWf : W.length < fuel) : ∀ (n N k : Nat) (bs : List Blk) (seen : List Int) (o : Sl) (h : AHeap), W.length < n + k → W.length < N + k → k ≤ W.length → bs.length ≤ k →
    Sep0 h0 h (.own 1 R 0 5 (rdrC W k e vars m) :: .mp h0.maps.length m (seenM seen) :: .grown 2 o (blksC bs) :: L) →
    ∃ v h', (l_qdimacs_reader_blocks_0 fuel (d + 4) n [(0, .ptr (.mk ⟨R, 0, 0⟩ 5)), (4, .slice o), (5, .bool (begE (W.drop k))), (6, .bool (begI (W.drop k)))] h).bind (fun p => k_qdimacs_reader_blocks_0 fuel (d + 4) p.1 p.2.1 p.2.2) = some (v, h') ∧ BsPost W e vars R m L h0 (blocksT e vars N (W.drop k) seen bs) v h' := by
  intro n
  induction n with
  | zero => intro N k bs seen o h h1 h1' h2; omega
  | succ n ih =>
    intro N k bs seen o h h1 h1' h2 h3 hs
    have hl := hs.len (i := 2) rfl
    rw [flatMap_len blkC_len] at hl
    rw [l_qdimacs_reader_blocks_0_eq]
    by_cases hlt : k < W.length
    · have hd : W.drop k = W.getD k ⟨[], 0, false⟩ :: W.drop (k + 1) := by rw [List.drop_eq_getElem_cons hlt]; simp [List.getD, hlt]
      rw [hd]
      generalize W.getD k ⟨[], 0, false⟩ = w at hd ⊢
      obtain ⟨N, rfl⟩ : ∃ M, N = M + 1 := ⟨N - 1, by omega⟩
      simp only [blocksT, begI, begE]
      cases hb : isBk w with
      | true =>
        have c1 : h.cell (.mk ⟨R, 0, 0 + 1⟩ 5) = some (.int .i64 (k : Int)) := hs.part (i := 0) rfl (by omega) rfl
        obtain ⟨h4, e4, s4⟩ := hs.put (i := 0) (o := 1) (l := 5) (vs := [.int .i64 ((k + 1 : Nat) : Int)]) rfl (by simp) (by simp)
        simp only [cond_true, if_true, chk_mk, field_mk, Option.bind_some, c1, int_int, sucU (show k < 9000000000000000000 by omega)]
        rw [Nat.zero_add, e4, Option.bind_some]
        obtain ⟨v, h5, e5, q5⟩ := block_run fuel d (k := k + 1) (e := e) (vars := vars) hf hW hWf (by omega) (seen := seen) (L := .grown 2 o (blksC bs) :: L) s4
        rw [e5, Option.bind_some]
        cases hbl : blockT e vars (W.drop (k + 1)) seen [] with
        | bad p =>
          rw [hbl] at q5
          obtain ⟨r, rfl, s5⟩ := q5
          simp only [tup2, comp0, comp1, cond_true, Option.bind_some, slice_slice, nilTest_if, Bool.not_false, k_qdimacs_reader_blocks_0_r]
          exact ⟨_, _, rfl, r, rfl, s5.sub (((List.Sublist.refl L).cons _).cons_cons _)⟩
        | ok l seen' ws =>
          rw [hbl] at q5
          obtain ⟨s', k', rfl, s5, rfl, hk'⟩ := q5
          have hlen := blockT_len e vars _ _ _ _ _ _ hbl
          simp only [List.length_drop] at hlen
          have hl1 := s5.len (i := 2) rfl
          have hl2 := s5.len (i := 3) rfl
          simp only [List.length_map, Nat.mul_one] at hl1
          obtain ⟨h6, e6, s6⟩ := s5.fix (i := 2) rfl (closedL_map (fun _ => rfl) l) 1
          have hfx : h5.fixL [.bool (w.first && w.text == [101]), .slice s'] = ([.bool (w.first && w.text == [101]), .slice (lstI l)], h6) := by
            rw [fixL_cons]
            have e0 : h5.fixV (.bool (w.first && w.text == [101])) = (.bool (w.first && w.text == [101]), h5) := rfl
            rw [e0, fixL_one, e6, ← hl1]
          simp only [tup2, comp0, comp1, cond_true, Option.bind_some, slice_slice, bool_bool, nilTest_nilif, Bool.not_true, cond_false]
          obtain ⟨o', h7, e7, s7, l7⟩ := s6.grow (i := 3) (bytes := 32) (m := 1) (vs := blkC (w.first && w.text == [101], l)) rfl rfl (by omega) (by omega)
          rw [hfx, show [AVal.bool (w.first && w.text == [101]), .slice (lstI l)] = blkC (w.first && w.text == [101], l) from rfl, e7, Option.bind_some]
          have s8 := s7.sub (L' := [.own 1 R 0 5 (rdrC W k' e vars m), .mp h0.maps.length m (seenM seen'), .grown 2 o' (blksC bs ++ blkC (w.first && w.text == [101], l))] ++ L) (by
            exact (((List.Sublist.refl _).cons _).cons_cons _).cons_cons _)
          rw [begins_run fuel (d + 3) hk' s8]
          simp only [tup2, comp0, comp1, cond_true, Option.bind_some, bool_bool]
          have hwf : (w.first && w.text == [101]) = (w.text == [101]) := by
            unfold isBk at hb
            cases hfst : w.first with
            | true => rfl
            | false => rw [hfst] at hb; cases hb
          rw [← hwf]
          refine ih N k' (bs ++ [(w.first && w.text == [101], l)]) seen' o' h7 (by omega) (by omega) hk' (by simp; omega) ?_
          rw [blksC_app]
          simpa [blksC] using s8
      | false =>
        simp only [cond_false, Bool.false_eq_true, if_false, Option.bind_some, k_qdimacs_reader_blocks_0_x0]
        exact ⟨_, _, rfl, o, k, seen, rfl, hs, by rw [hd], h2⟩
    · have : k = W.length := by omega
      subst this
      obtain ⟨N, rfl⟩ : ∃ M, N = M + 1 := ⟨N - 1, by omega⟩
      simp only [List.drop_length, begI, blocksT, cond_false, Option.bind_some, k_qdimacs_reader_blocks_0_x0]
      exact ⟨_, _, rfl, o, W.length, seen, rfl, hs, by rw [List.drop_length], h2⟩
theorem blocks_run (fuel d : Nat) {W : List Wd} {e vars : Int} {R m k : Nat} {L : List Chunk} {h0 h : AHeap} (hf : 20 < fuel) (hW : W.length < 70000) (hWf : W.length < fuel) (hk : k ≤ W.length)
    (hs : Sep0 h0 h (.own 1 R 0 5 (rdrC W k e vars m) :: .mp h0.maps.length m [] :: L)) (N : Nat) (hN : W.length < N + k) :
    ∃ v h', run fuel (d + 5) F_qdimacs_reader_blocks [.ptr (.mk ⟨R, 0, 0⟩ 5)] h = some (v, h') ∧ BsPost W e vars R m L h0 (blocksT e vars N (W.drop k) [] []) v h' := by
  rw [e_qdimacs_reader_blocks, begins_run fuel (d + 3) hk hs]
  simp only [tup2, comp0, comp1, cond_true, Option.bind_some, bool_bool]
  exact blks_loop fuel d hf hW hWf fuel N k [] [] .nil h (by omega) hN hk (by simp) (hs.nil2 2)
end Go.Proofs.YtdkckkhghghhdaaDoor

namespace Go.Proofs.YtdkckkhghghhdaaDoor
open Go.RowKit

/-- variables, blocks, clauses, what is amiss -/
abbrev FR := Int × List Blk × List (List Int) × Option (Int × Int)
def rdF (b : List UInt8) : FR := match headT (b.length : Int) (splitOf b true) with
  | .bad c p => (0, [], [], some (c, p))
  | .ok v m => match blocksT (b.length : Int) v ((splitOf b true).length + 1) ((splitOf b true).drop 4) [] [] with
    | .bad p => (0, [], [], some (101, p))
    | .ok bs ws => match clT (b.length : Int) v m ws [] [] with
      | .bad p => (0, [], [], some (101, p))
      | .ok l => (v, bs, l, none)
def formulaC (bs : List Blk) (v : Int) (l : List (List Int)) : List AVal := [.slice (lstBk bs), .int .i64 v, .slice (lstLL l)]
def frA (r : FR) : AVal := .tup [.agg (formulaC r.2.1 r.1 r.2.2.1), errO r.2.2.2]
abbrev zero3 : List AVal := [(AVal.slice Sl.nil), (.int .i64 (0 : Int)), (.slice Sl.nil)]
theorem fread_body (fuel d : Nat) {b : List UInt8} (hf : b.length + 40 ≤ fuel) (hb : b.length < 60000) : ∃ v h', brun fuel (d + 8) F_qdimacs_Read [.slice (lstU b)] AHeap.none = some (v, h') ∧ freezeV h' 8 v = some (frA (rdF b)) := by
  have hl := splitLen b
  have s0 := (Sep0.start AHeap.none).push 1 3 (cs := zero3) rfl
  have fr0 : ∀ (h' : AHeap) (u : AVal) (o : Option (Int × Int)), freezeV h' 7 u = some (errO o) → freezeV h' 8 (.tup [.agg zero3, u]) = some (frA (0, [], [], o)) := fun h' u o hu => freeze_tup2 _ (freeze_agg 6 (mm3 rfl rfl rfl)) hu
  rw [e_qdimacs_Read, len_lst, bif_neg (by omega), split_run fuel (d + 4) (by omega) (by omega), Option.bind_some, slice_slice, Option.bind_some, head_run fuel d (by omega)]
  generalize AHeap.push AHeap.none 1 zero3 = H at s0
  unfold rdF
  cases hh : headT (b.length : Int) (splitOf b true) with
  | bad c p =>
    obtain ⟨h', e1, s1⟩ := s0.putAll (i := 0) (vs := zero3) rfl rfl rfl
    simp only [hdA, Option.bind_some, tup4, cond_true, comp0, comp1, comp2, comp3, int_int, atV_no, Bool.not_false]
    rw [e1, Option.bind_some, s1.getAll (i := 0) rfl rfl]
    refine ⟨_, h', rfl, fr0 h' _ (some (c, p)) ?_⟩
    rcases headT_code hh with rfl | rfl <;> rfl
  | ok v m =>
    have h4 := headT_ok4 hh
    have sm := s0.addMap
    have sr := (sm.push 1 5 (cs := rdrC (splitOf b true) 4 (b.length : Int) v H.maps.length) rfl)
    have sp : Sep0 AHeap.none _ (.own 1 (AHeap.next (AHeap.newMap H)) 0 5 (rdrC (splitOf b true) 4 (b.length : Int) v H.maps.length) :: .mp AHeap.none.maps.length H.maps.length [] :: [.own 1 (AHeap.next AHeap.none) 0 3 zero3]) := sr.perm (List.reverse_perm [_, _, _]).symm
    simp only [hdA, Option.bind_some, tup4, cond_true, comp0, comp1, comp2, comp3, int_int, nilTest_nilif, Bool.not_true, cond_false]
    obtain ⟨w, h5, e5, q5⟩ := blocks_run fuel (d + 2) (W := splitOf b true) (k := 4) (by omega) (by omega) (by omega) h4 sp ((splitOf b true).length + 1) (by omega)
    have e5' : run fuel (d + 7) F_qdimacs_reader_blocks [.ptr (.mk ⟨AHeap.next (AHeap.newMap H), 0, 0⟩ 5)] (AHeap.push (AHeap.newMap H) 1 [(AVal.slice (lstW (splitOf b true))), (.int .i64 4), (.int .i64 ((b.length : Nat) : Int)), (.int .i64 v), (.map (some H.maps.length))]) = some (w, h5) := e5
    rw [e5', Option.bind_some]
    cases hbs : blocksT (b.length : Int) v ((splitOf b true).length + 1) ((splitOf b true).drop 4) [] [] with
    | bad p =>
      rw [hbs] at q5
      obtain ⟨r, rfl, s5⟩ := q5
      obtain ⟨h', e1, s1⟩ := s5.putAll (i := 1) (vs := zero3) rfl rfl rfl
      simp only [tup2, comp0, comp1, cond_true, Option.bind_some, slice_slice, nilTest_if, Bool.not_false]
      rw [e1, Option.bind_some, s1.getAll (i := 1) rfl rfl]
      refine ⟨_, h', rfl, fr0 h' _ (some (101, p)) ?_⟩
      rw [freeze_iface, (s1.sep.own (i := 0) rfl).freezePtr (m := 5) (l := 2) rfl (us := [.int .i64 p, err_api_ErrText]) (mm2 rfl rfl)]
      rfl
    | ok bs ws =>
      rw [hbs] at q5
      obtain ⟨s', k', seen, rfl, s5, rfl, hk'⟩ := q5
      have c1 : h5.cell (.mk ⟨AHeap.next (AHeap.newMap H), 0, 0 + 1⟩ 5) = some (.int .i64 (k' : Int)) := s5.part (i := 0) rfl (by omega) rfl
      simp only [tup2, comp0, comp1, cond_true, Option.bind_some, slice_slice, nilTest_nilif, Bool.not_true, cond_false, chk_mk, field_mk, c1, int_int, len_lst, aHi_none, aMx_none]
      rw [aLo_some (by omega) (by omega), Option.bind_some, hasSz_lstN wdC_len, cond_true, Int.toNat_natCast, cut_lstN wdC_len (splitOf b true) (Nat.le_refl _), show ((splitOf b true).drop k').take ((splitOf b true).length - k') = (splitOf b true).drop k' from List.take_of_length_le (by simp), cl_run fuel (d + 3) (by simp; omega) (by simp; omega)]
      cases hc : clT (b.length : Int) v m ((splitOf b true).drop k') [] [] with
      | bad p =>
        obtain ⟨h', e1, s1⟩ := s5.putAll (i := 3) (vs := zero3) rfl rfl rfl
        simp only [clA, Option.bind_some, tup2, comp0, comp1, cond_true, slice_slice]
        rw [show nilTest .iface (atV p err_api_ErrText) = some false from rfl]
        simp only [Option.bind_some, Bool.not_false, cond_true]
        rw [e1, Option.bind_some, s1.getAll (i := 3) rfl rfl]
        exact ⟨_, h', rfl, fr0 h' _ (some (101, p)) rfl⟩
      | ok l =>
        obtain ⟨h', e1, s1⟩ := s5.putAll (i := 3) (vs := [.slice s', .int .i64 v, .slice (lstLL l)]) rfl rfl rfl
        simp only [clA, Option.bind_some, tup2, comp0, comp1, cond_true, slice_slice, nilTest_nilif, Bool.not_true, cond_false]
        rw [e1, Option.bind_some, s1.getAll (i := 3) rfl rfl]
        refine ⟨_, h', rfl, freeze_tup2 _ (freeze_agg 6 (mm3 ?_ rfl (freeze_lst _ _ _ (closedL_map closed_lstI l)))) rfl⟩
        have hl2 := s1.len (i := 2) rfl
        rw [flatMap_len blkC_len] at hl2
        rw [(s1.sep.grown (i := 2) rfl).freeze (n := 5) (by omega) (freeze_blksC 4 bs), show s'.len = bs.length by omega]
theorem fread_run (fuel d : Nat) {b : List UInt8} (hf : b.length + 40 ≤ fuel) (hb : b.length < 60000) (h : AHeap) : run fuel (d + 8) F_qdimacs_Read [.slice (lstU b)] h = some (frA (rdF b), h) := by
  obtain ⟨v, h', e1, e2⟩ := fread_body fuel d hf hb
  exact pure_of rfl rfl (cc1 (canon_lstU 7 b)) e1 e2
theorem fread_nil (fuel d : Nat) (hf : 40 ≤ fuel) (h : AHeap) : run fuel (d + 8) F_qdimacs_Read [.slice .nil] h = some (frA (rdF []), h) := by
  obtain ⟨v, h', e1, e2⟩ := fread_body fuel d (b := []) (by simp; omega) (by simp)
  exact pure_of rfl rfl (cc1 (canon_nil 7)) e1 e2
theorem fread_any (fuel d : Nat) {b : List UInt8} (hf : b.length + 40 ≤ fuel) (hb : b.length < 60000) {h : AHeap} {s : Sl} (hs : freezeV h 8 (.slice s) = some (.slice (lstU b))) : ∃ ids, run fuel (d + 8) F_qdimacs_Read [.slice s] h = some (frA (rdF b), h.markRo ids) := by
  obtain ⟨v, h', e1, e2⟩ := fread_body fuel d hf hb
  exact run_any rfl rfl (mm1 hs) e1 e2
end Go.Proofs.YtdkckkhghghhdaaDoor

namespace Go.Proofs.YtdkckkhghghhdaaDoor
open Go.RowKit

/-- a line's numbers -/
def LnOk (l : List Int) : Prop := l.length < 1000 ∧ ∀ x ∈ l, Num64 x
theorem numsT_num : ∀ {l : List Int}, (∀ x ∈ l, Num64 x) → (numsT l).length ≤ 21 * l.length
  | [], _ => by simp [numsT]
  | x :: l, hx => by
    have h1 := numsT_num (l := l) fun y hy => hx y (List.mem_cons_of_mem _ hy)
    have h2 := decT_len (hx x (List.mem_cons_self ..))
    have e : numsT (x :: l) = decT x ++ [32] ++ numsT l := by simp [numsT]
    rw [e, List.length_append, List.length_append, List.length_cons]
    simp
    omega
theorem LnOk.len {l : List Int} (h : LnOk l) : (lineT l).length ≤ 30000 := by
  have := numsT_num h.2
  have := h.1
  simp only [lineT, List.length_append, List.length_cons, List.length_nil]
  omega
def linesT (l : List (List Int)) : List UInt8 := l.flatMap lineT
theorem linesT_cons (c : List Int) (l : List (List Int)) : linesT (c :: l) = lineT c ++ linesT l := by simp [linesT]
def blkT (b : Blk) : List UInt8 := (if b.1 = true then [101, 32] else [97, 32]) ++ lineT b.2
def blksT (l : List Blk) : List UInt8 := l.flatMap blkT
theorem blksT_cons (c : Blk) (l : List Blk) : blksT (c :: l) = blkT c ++ blksT l := by simp [blksT]
def cnfTx (v : Int) (l : List (List Int)) : List UInt8 := headTx v (l.length : Int) ++ linesT l
def formTx (bs : List Blk) (v : Int) (l : List (List Int)) : List UInt8 := headTx v (l.length : Int) ++ blksT bs ++ linesT l

theorem ln_run (fuel d : Nat) (hf : 1000 ≤ fuel) {l : List Int} (hl : LnOk l) {h0 h : AHeap} {s : Sl} {t : List UInt8} (ht : t.length < 700000000) (hs : Sep0 h0 h [.grown 1 s (bytesC t)]) :
    ∃ s' h', run fuel (d + 6) F_dimacs_Line [.slice s, .slice (lstI l)] h = some (.slice s', h') ∧ Sep0 h0 h' [.grown 1 s' (bytesC (t ++ lineT l))] := by
  have h1 := hl.1
  exact lineP_run fuel (d + 5) (by omega) (by omega) (fun x hx => (hl.2 x hx).app fuel d (by omega)) (by omega) hs
theorem rln_run (fuel d : Nat) (hf : 1000 ≤ fuel) {l : List Int} (hl : LnOk l) {h0 h : AHeap} {s : Sl} {t : List UInt8} (ht : t.length < 700000000) (hs : Sep0 h0 h [.grown 1 s (bytesC t)]) :
    ∃ s' h', run fuel (d + 6) F_skolemref1_lits [.slice s, .slice (lstI l)] h = some (.slice s', h') ∧ Sep0 h0 h' [.grown 1 s' (bytesC (t ++ lineT l))] := by
  have h1 := hl.1
  exact rlits_run fuel (d + 5) (by omega) (by omega) (fun x hx => (hl.2 x hx).app fuel d (by omega)) (by omega) hs

theorem Sep0.keepCell {g h0 h : AHeap} {L K : List Chunk} (hs : Sep0 h0 h L) (hb : Sep0 g h0 K) {i sz id gen n o l : Nat} {cs : List AVal} (hi : K[i]? = some (.own sz id gen n cs)) {v : AVal} (hl : o < l) (hv : cs[o]? = some v) : h.cell (.mk ⟨id, gen, o⟩ l) = some v :=
  cell_keep hs.ext (fun h => h) (hb.part hi hl hv)
theorem canon_cnf (v : Int) (l : List (List Int)) : canonV 8 (.agg (cnfC v l)) = some (.agg (cnfC v l)) := by
  unfold cnfC
  rw [canon_agg, canonM_cons (u := .int .i64 v) rfl (canonM_cons (u := .slice (lstLL l)) (canon_lstLL _ _) (canonM_nil _))]
  rfl
theorem bytes_fr {h0 h : AHeap} {s : Sl} {t : List UInt8} (hs : Sep0 h0 h [.grown 1 s (bytesC t)]) : freezeV h 8 (.slice s) = some (.slice (lstU t)) := by
  have hl := hs.len (i := 0) rfl
  simp only [List.length_map, Nat.mul_one] at hl
  rw [(hs.sep.grown (i := 0) rfl).freeze (n := 7) (by omega) (freeze_bytesC 6 _), ← hl]
theorem rB_loop (fuel d : Nat) (hf : 1000 ≤ fuel) {X : Nat} {v : Int} {l : List (List Int)} (hl : l.length < 10000) (hok : ∀ c ∈ l, LnOk c) {g h0 : AHeap} (hb : Sep0 g h0 [.own 1 X 0 2 (cnfC v l)]) : ∀ (n k : Nat) (s : Sl) (t : List UInt8) (h : AHeap), l.length < n + k → k ≤ l.length → t.length + 30000 * (l.length - k) < 600000000 → Sep0 h0 h [.grown 1 s (bytesC t)] →
    ∃ s' h', (l_skolemref1_CNFBytes_0 fuel (d + 6) n [(1, .ptr (.mk ⟨X, 0, 0⟩ 2)), (3, .slice s), (4, .int .i64 (k : Int))] h).bind (fun p => k_skolemref1_CNFBytes_0 fuel (d + 6) p.1 p.2.1 p.2.2) = some (.slice s', h') ∧ Sep0 h0 h' [.grown 1 s' (bytesC (t ++ linesT (l.drop k)))] := by
  intro n
  induction n with
  | zero => intro k s t h h1 h2; omega
  | succ n ih =>
    intro k s t h h1 h2 ht hs
    have c1 : h.cell (.mk ⟨X, 0, 0 + 1⟩ 2) = some (.slice (lstLL l)) := hs.keepCell hb (i := 0) rfl (by omega) rfl
    rw [l_skolemref1_CNFBytes_0_eq]
    simp only [field_mk, Option.bind_some, c1, slice_slice]
    rw [len_lst]
    by_cases hk : k < l.length
    · have hd : l.drop k = l.getD k [] :: l.drop (k + 1) := by rw [List.drop_eq_getElem_cons hk]; simp [List.getD, hk]
      have hx := hok (l.getD k []) (by simp [List.getD, hk])
      rw [bif_pos (by omega), addr_lstM _ (by omega) (by omega) [], hd, Int.toNat_natCast]
      generalize l.getD k [] = c at hx
      have := hx.len
      simp only [Option.bind_some, cell_fp, slice_slice]
      obtain ⟨s1, h1', e1, q1⟩ := rln_run fuel d hf hx (by omega) hs
      rw [e1]
      simp only [Option.bind_some, slice_slice]
      rw [sucU (by omega)]
      obtain ⟨s2, h2', e2, q2⟩ := ih (k + 1) s1 _ h1' (by omega) (by omega) (by simp; omega) q1
      refine ⟨s2, h2', e2, ?_⟩
      rw [linesT_cons, ← List.append_assoc]
      exact q2
    · have : k = l.length := by omega
      subst this
      rw [bif_neg (by omega), List.drop_length]
      simp only [Option.bind_some, k_skolemref1_CNFBytes_0_x0]
      exact ⟨s, h, rfl, by simpa [linesT] using hs⟩
theorem rB_run (fuel d : Nat) (hf : 1000 ≤ fuel) {v : Int} {l : List (List Int)} (hv : Num64 v) (hl : l.length < 10000) (hlf : l.length < fuel) (hok : ∀ c ∈ l, LnOk c) (h : AHeap) : run fuel (d + 7) F_skolemref1_CNFBytes [.agg (cnfC v l)] h = some (.slice (lstU (cnfTx v l)), h) := by
  have hlen := headTx_len hv (show Num64 (l.length : Int) from ⟨by omega, by omega⟩)
  have s1 := (Sep0.start AHeap.none).push 1 2 (cs := cnfC v l) rfl
  obtain ⟨s2, h2, e2, q2⟩ := rhd_run fuel d (by omega) (l := l) hv (by omega) (AHeap.none.push 1 (cnfC v l))
  obtain ⟨s3, h3, e3, q3⟩ := rB_loop fuel d hf hl hok s1 fuel 0 s2 _ h2 (by omega) (by omega) (by omega) q2
  refine pure_of rfl rfl (cc1 (canon_cnf v l)) (r := .slice s3) (h' := h3) ?_ ?_
  · rw [e_skolemref1_CNFBytes, show List.all (cnfC v l) AVal.isCell = true from rfl, cond_true, show (cnfC v l).length = 2 from rfl, s1.getAll (i := 0) rfl rfl, Option.bind_some, e2]
    simp only [Option.bind_some, slice_slice]
    exact e3
  · rw [List.drop_zero] at q3
    exact bytes_fr q3

/-! formulas -/
theorem qB_lines (fuel d : Nat) (hf : 1000 ≤ fuel) {l : List (List Int)} (hl : l.length < 10000) (hok : ∀ c ∈ l, LnOk c) {h0 : AHeap} : ∀ (n k : Nat) (s : Sl) (t : List UInt8) (h : AHeap), l.length < n + k → k ≤ l.length → t.length + 30000 * (l.length - k) < 600000000 → Sep0 h0 h [.grown 1 s (bytesC t)] →
    ∃ s' h', (l_qdimacs_Bytes_1 fuel (d + 6) n [(3, .slice s), (33, .slice (lstLL l)), (34, .int .i64 (l.length : Int)), (35, .int .i64 (k : Int))] h).bind (fun p => k_qdimacs_Bytes_2 fuel (d + 6) p.1 p.2.1 p.2.2) = some (.slice s', h') ∧ Sep0 h0 h' [.grown 1 s' (bytesC (t ++ linesT (l.drop k)))] := by
  intro n
  induction n with
  | zero => intro k s t h h1 h2; omega
  | succ n ih =>
    intro k s t h h1 h2 ht hs
    rw [l_qdimacs_Bytes_1_eq]
    by_cases hk : k < l.length
    · have hd : l.drop k = l.getD k [] :: l.drop (k + 1) := by rw [List.drop_eq_getElem_cons hk]; simp [List.getD, hk]
      have hx := hok (l.getD k []) (by simp [List.getD, hk])
      rw [bif_pos (by omega), addr_lstM _ (by omega) (by omega) [], hd, Int.toNat_natCast]
      generalize l.getD k [] = c at hx
      have := hx.len
      simp only [Option.bind_some, cell_fp, slice_slice]
      obtain ⟨s1, h1', e1, q1⟩ := ln_run fuel d hf hx (by omega) hs
      rw [e1]
      simp only [Option.bind_some, slice_slice]
      rw [sucU (by omega)]
      obtain ⟨s2, h2', e2, q2⟩ := ih (k + 1) s1 _ h1' (by omega) (by omega) (by simp; omega) q1
      refine ⟨s2, h2', e2, ?_⟩
      rw [linesT_cons, ← List.append_assoc]
      exact q2
    · have : k = l.length := by omega
      subst this
      rw [bif_neg (by omega), List.drop_length]
      simp only [Option.bind_some, k_qdimacs_Bytes_2_x2]
      exact ⟨s, h, rfl, by simpa [linesT] using hs⟩
theorem isCellB (b : Blk) : (!false && Nat.beq (List.length (blkC b)) 2 && List.all (blkC b) AVal.isCell) = true := rfl
theorem copyB {h0 h : AHeap} {L : List Chunk} (hs : Sep0 h0 h L) (b : Blk) : ∃ h3, AHeap.storeAt (AHeap.push h 1 [(.bool false), (.slice Sl.nil)]) (blkC b) (Pt.mk ⟨AHeap.next h, 0, 0⟩ 2) = some h3 ∧ Sep0 h0 h3 (L ++ [.own 1 h.next 0 2 (blkC b)]) := by
  have s1 := hs.push 1 2 (cs := [(AVal.bool false), (.slice Sl.nil)]) rfl
  have hi : (L ++ [Chunk.own 1 h.next 0 2 [(AVal.bool false), (.slice Sl.nil)]])[L.length]? = some (Chunk.own 1 h.next 0 2 [(AVal.bool false), (.slice Sl.nil)]) := by simp
  obtain ⟨h3, e1, s2⟩ := s1.putAll (vs := blkC b) hi rfl rfl
  have hset : (L ++ [Chunk.own 1 h.next 0 2 [(AVal.bool false), (.slice Sl.nil)]]).set L.length (Chunk.own 1 h.next 0 2 (blkC b)) = L ++ [Chunk.own 1 h.next 0 2 (blkC b)] := by simp
  exact ⟨h3, e1, by rw [← hset]; exact s2⟩
theorem qB_blks (fuel d : Nat) (hf : 1000 ≤ fuel) {x1 : Pt} {bs : List Blk} (hl : bs.length < 10000) (hok : ∀ c ∈ bs, LnOk c.2) {h0 : AHeap} : ∀ (n k : Nat) (s : Sl) (t : List UInt8) (h : AHeap), bs.length < n + k → k ≤ bs.length → t.length + 30100 * (bs.length - k) < 600000000 → Sep0 h0 h [.grown 1 s (bytesC t)] →
    ∃ s' h', l_qdimacs_Bytes_0 fuel (d + 6) n [(1, .ptr x1), (3, .slice s), (12, .slice (lstBk bs)), (13, .int .i64 (bs.length : Int)), (14, .int .i64 (k : Int))] h = some (.exit 0, [(1, .ptr x1), (3, .slice s')], h') ∧ Sep0 h0 h' [.grown 1 s' (bytesC (t ++ blksT (bs.drop k)))] := by
  intro n
  induction n with
  | zero => intro k s t h h1 h2; omega
  | succ n ih =>
    intro k s t h h1 h2 ht hs
    rw [l_qdimacs_Bytes_0_eq]
    by_cases hk : k < bs.length
    · have hd : bs.drop k = bs.getD k (false, []) :: bs.drop (k + 1) := by rw [List.drop_eq_getElem_cons hk]; simp [List.getD, hk]
      have hx := hok (bs.getD k (false, [])) (by simp [List.getD, hk])
      rw [bif_pos (by omega), addr_lstN (sz := 2) (f := blkC) blkC_len (by omega) (by omega) (false, []), hd, Int.toNat_natCast]
      generalize bs.getD k (false, []) = b at hx
      have hlen := hx.len
      obtain ⟨h3, e3, s3⟩ := copyB hs b
      have c0 : h3.cell (.mk ⟨h.next, 0, 0 + 0⟩ 2) = some (.bool b.1) := s3.part (i := 1) rfl (by omega) rfl
      rw [Option.bind_some, cellsAt_fp (blkC_len b), Option.bind_some, cond_pos _ _ (isCellB b), e3]
      simp only [Option.bind_some, field_mk, c0, bool_bool]
      have tail : ∀ (u : List UInt8) (a : Sl) (g : AHeap), u.length = 2 → u ++ lineT b.2 = blkT b → Sep0 h0 g [.grown 1 a (bytesC (t ++ u)), .own 1 h.next 0 2 (blkC b)] →
          ∃ s' h', k_qdimacs_Bytes_1 fuel (d + 6) n .normal [(1, .ptr x1), (3, .slice a), (5, .ptr (.mk ⟨h.next, 0, 0⟩ 2)), (12, .slice (lstBk bs)), (13, .int .i64 (bs.length : Int)), (14, .int .i64 (k : Int))] g = some (.exit 0, [(1, .ptr x1), (3, .slice s')], h') ∧ Sep0 h0 h' [.grown 1 s' (bytesC (t ++ blksT (b :: bs.drop (k + 1))))] := by
        intro u a g hu hub sg
        have c1 : g.cell (.mk ⟨h.next, 0, 0 + 1⟩ 2) = some (.slice (lstI b.2)) := sg.part (i := 1) rfl (by omega) rfl
        rw [k_qdimacs_Bytes_1_n]
        simp only [field_mk, Option.bind_some, c1, slice_slice]
        obtain ⟨s1, h1', e1, q1⟩ := ln_run fuel d hf hx (t := t ++ u) (by simp; omega) (Sep0.init (L := [_]) sg)
        rw [e1]
        simp only [Option.bind_some, slice_slice]
        rw [sucU (by omega)]
        obtain ⟨s2, h2', e2, q2⟩ := ih (k + 1) s1 _ h1' (by omega) (by omega) (by simp; omega) q1
        refine ⟨s2, h2', e2, ?_⟩
        rw [blksT_cons, ← hub]
        simpa using q2
      cases hb : b.1 with
      | true =>
        rw [cond_true, show [(AVal.int .u8 (101 : Int)), (AVal.int .u8 (32 : Int))] = bytesC [101, 32] from rfl, lit_cells h3 [101, 32] (n := 2) rfl, Option.bind_some, Sl.len]
        have hl := s3.len (i := 0) rfl
        simp only [List.length_map, Nat.mul_one] at hl
        obtain ⟨a, g, e4, s4, _⟩ := (s3.junk (cs := bytesC [101, 32])).grow (i := 0) (bytes := 1) (m := 2) (vs := bytesC [101, 32]) rfl rfl (by omega) (by omega)
        rw [← bytesC_app] at s4
        rw [e4]
        simp only [Option.bind_some]
        exact tail [101, 32] a g rfl (by unfold blkT; rw [hb]; rfl) s4
      | false =>
        rw [cond_false, show [(AVal.int .u8 (97 : Int)), (AVal.int .u8 (32 : Int))] = bytesC [97, 32] from rfl, lit_cells h3 [97, 32] (n := 2) rfl, Option.bind_some, Sl.len]
        have hl := s3.len (i := 0) rfl
        simp only [List.length_map, Nat.mul_one] at hl
        obtain ⟨a, g, e4, s4, _⟩ := (s3.junk (cs := bytesC [97, 32])).grow (i := 0) (bytes := 1) (m := 2) (vs := bytesC [97, 32]) rfl rfl (by omega) (by omega)
        rw [← bytesC_app] at s4
        rw [e4]
        simp only [Option.bind_some]
        exact tail [97, 32] a g rfl (by unfold blkT; rw [hb]; rfl) s4
    · have : k = bs.length := by omega
      subst this
      rw [bif_neg (by omega), List.drop_length]
      exact ⟨s, h, rfl, by simpa [blksT] using hs⟩
theorem blksT_len : ∀ {bs : List Blk}, (∀ c ∈ bs, LnOk c.2) → (blksT bs).length ≤ 30100 * bs.length
  | [], _ => by simp [blksT]
  | b :: bs, h => by
    have h1 := blksT_len (bs := bs) fun c hc => h c (List.mem_cons_of_mem _ hc)
    have h2 := (h b (List.mem_cons_self ..)).len
    rw [blksT_cons, List.length_append, List.length_cons]
    have h3 : (blkT b).length ≤ 2 + 30000 := by
      unfold blkT
      rw [List.length_append]
      split <;> simp <;> omega
    omega
theorem qB_body (fuel d : Nat) (hf : 1000 ≤ fuel) {bs : List Blk} {v : Int} {l : List (List Int)} (hv : Num64 v) (hl : l.length < 5000) (hlf : l.length < fuel) (hbl : bs.length < 1000) (hbf : bs.length < fuel) (hok : ∀ c ∈ l, LnOk c) (hbk : ∀ c ∈ bs, LnOk c.2) :
    ∃ s' h', brun fuel (d + 7) F_qdimacs_Bytes [.agg (formulaC bs v l)] AHeap.none = some (.slice s', h') ∧ freezeV h' 8 (.slice s') = some (.slice (lstU (formTx bs v l))) := by
  have hlen := headTx_len hv (show Num64 (l.length : Int) from ⟨by omega, by omega⟩)
  have s1 := (Sep0.start AHeap.none).push 1 3 (cs := formulaC bs v l) rfl
  obtain ⟨s2, h2, e2, q2⟩ := headB_run fuel d (by omega) (l := l) hv (by omega) (AHeap.none.push 1 (formulaC bs v l))
  obtain ⟨s3, h3, e3, q3⟩ := qB_blks fuel d hf (x1 := .mk ⟨AHeap.next AHeap.none, 0, 0⟩ 3) (by omega) hbk fuel 0 s2 _ h2 (by omega) (by omega) (by omega) q2
  rw [List.drop_zero] at q3
  have hb3 := blksT_len hbk
  obtain ⟨s4, h4, e4, q4⟩ := qB_lines fuel d hf (by omega) hok fuel 0 s3 _ h3 (by omega) (by omega) (by rw [List.length_append]; omega) q3
  rw [List.drop_zero] at q4
  refine ⟨s4, h4, ?_, bytes_fr q4⟩
  have c12 : (AHeap.none.push 1 (formulaC bs v l)).cellsAt 2 (.mk ⟨AHeap.next AHeap.none, 0, 0 + 1⟩ 3) = some (cnfC v l) := by
    have := (s1.sep.own (i := 0) rfl).parts (o := 0 + 1) (k := 2) (l := 3) (by omega) (by simp [formulaC])
    exact this
  rw [e_qdimacs_Bytes, show List.all (formulaC bs v l) AVal.isCell = true from rfl, cond_true, show (formulaC bs v l).length = 3 from rfl]
  simp only [field_mk, Option.bind_some, c12]
  rw [e2]
  simp only [Option.bind_some, slice_slice]
  rw [q2.keepCell s1 (i := 0) (o := 0 + 0) (l := 3) rfl (by omega) rfl]
  simp only [Option.bind_some, slice_slice, len_lst]
  rw [show ((0 : Nat) : Int) = 0 from rfl] at e3
  rw [e3]
  simp only [Option.bind_some, k_qdimacs_Bytes_0_x0, field_mk]
  rw [q3.keepCell s1 (i := 0) (o := 0 + 1 + 1) (l := 3) rfl (by omega) rfl]
  simp only [Option.bind_some, slice_slice, len_lst]
  exact e4
theorem qB_none (fuel d : Nat) (hf : 1000 ≤ fuel) (h : AHeap) : run fuel (d + 7) F_qdimacs_Bytes [.agg zero3] h = some (.slice (lstU (formTx [] 0 [])), h) := by
  obtain ⟨s', h', e1, e2⟩ := qB_body fuel d hf (bs := []) (v := 0) (l := []) ⟨by omega, by omega⟩ (by simp) (by simp; omega) (by simp) (by simp; omega) (fun c hc => by cases hc) (fun c hc => by cases hc)
  exact pure_of rfl rfl (cc1 rfl) e1 e2

/-! the reference's -/
end Go.Proofs.YtdkckkhghghhdaaDoor

namespace Go.Proofs.YtdkckkhghghhdaaDoor
open Go.RowKit

/-- words of numbers -/
def numWs : List Int → Nat → Bool → List Wd
  | [], _, _ => []
  | x :: l, p, f => ⟨decT x, p, f⟩ :: numWs l (p + (decT x).length + 1) false
theorem W_nums : ∀ (l : List Int) (r : List UInt8) (p : Nat) (f : Bool), wordsOf (numsT l ++ r) p f false = numWs l p f ++ wordsOf r (p + (numsT l).length) (f && l.isEmpty) false
  | [], r, p, f => by simp [numsT, numWs]
  | x :: l, r, p, f => by
    obtain ⟨w1, w2, w3, _⟩ := decT_word x
    have e : numsT (x :: l) = decT x ++ 32 :: numsT l := by simp [numsT]
    rw [e, List.append_assoc, List.cons_append, W_one w1 w2 (Stops.sp _) p (fun _ => w3), W_sp, W_nums l]
    simp only [numWs, List.cons_append, List.length_append, List.length_cons, List.isEmpty_cons, Bool.and_false, Bool.false_and]
    rw [show p + (decT x).length + 1 + (numsT l).length = p + ((decT x).length + ((numsT l).length + 1)) by omega]
theorem W_line (l : List Int) (r : List UInt8) (p : Nat) (f : Bool) : ∃ q, wordsOf (lineT l ++ r) p f false = numWs l p f ++ ⟨[48], p + (numsT l).length, f && l.isEmpty⟩ :: wordsOf r q true false ∧ q = p + (lineT l).length := by
  refine ⟨p + (lineT l).length, ?_, rfl⟩
  have e : lineT l ++ r = numsT l ++ ([48] ++ 10 :: r) := by simp [lineT]
  rw [e, W_nums, W_one (by simp) (by decide) (Stops.nl r) _ (fun _ => by simp), W_nl]
  simp [lineT, Nat.add_assoc]
/-- a literal that is read as it is -/
def LitOk (v x : Int) : Prop := x ≠ 0 ∧ isI x v = true ∧ -1000000000 < x ∧ x < 1000000000
theorem LitOk.text {v x : Int} (h : LitOk v x) : noLitV (decT x) v = false ∧ numW (decT x) = x := by
  obtain ⟨a1, a2, _⟩ := decT_num h.2.2.1 h.2.2.2
  refine ⟨?_, a2⟩
  unfold noLitV
  rw [a1, a2, decide_eq_false h.1, h.2.1]; rfl
theorem clT_nums (e v m : Int) : ∀ (l : List Int) (p : Nat) (f : Bool) (ws : List Wd) (out : List (List Int)) (c : List Int), (out.length : Int) < m → (∀ x ∈ l, LitOk v x) → clT e v m (numWs l p f ++ ws) out c = clT e v m ws out (c ++ l)
  | [], p, f, ws, out, c, h, hl => by simp [numWs]
  | x :: l, p, f, ws, out, c, h, hl => by
    have hx := hl x (List.mem_cons_self ..)
    obtain ⟨t1, t2⟩ := hx.text
    simp only [numWs, List.cons_append, clT, t1, t2]
    rw [if_neg (by simp; omega), if_neg hx.1, clT_nums e v m l _ _ _ _ _ h fun y hy => hl y (List.mem_cons_of_mem _ hy)]
    simp
theorem zero_text {v : Int} : noLitV [48] v = false ∧ numW [48] = 0 := by
  have : okNum [48] = true ∧ numW [48] = 0 := by decide
  refine ⟨?_, this.2⟩
  unfold noLitV
  rw [this.1, this.2]; rfl
theorem clT_lines (e v m : Int) : ∀ (L : List (List Int)) (p : Nat) (f : Bool) (out : List (List Int)), ((out.length + L.length : Nat) : Int) = m → (∀ c ∈ L, ∀ x ∈ c, LitOk v x) → clT e v m (wordsOf (linesT L) p f false) out [] = .ok (out ++ L)
  | [], p, f, out, h, hl => by
    simp only [linesT, List.flatMap_nil, W_nil, clT]
    simp only [List.length_nil, Nat.add_zero] at h
    rw [if_neg (by simp; omega), List.append_nil]
  | c :: L, p, f, out, h, hl => by
    simp only [List.length_cons] at h
    obtain ⟨q, e1, _⟩ := W_line c (linesT L) p f
    obtain ⟨z1, z2⟩ := zero_text (v := v)
    rw [linesT_cons, e1, clT_nums e v m c _ _ _ _ _ (by omega) (hl c (List.mem_cons_self ..)), List.nil_append]
    simp only [clT, z1, z2]
    rw [if_neg (by simp; omega), if_pos trivial, clT_lines e v m L q true (out ++ [c]) (by simp; omega) fun d hd => hl d (List.mem_cons_of_mem _ hd)]
    simp
theorem W_head (v n : Int) (r : List UInt8) : ∃ p q, wordsOf (headTx v n ++ r) 0 true false = ⟨[112], 0, true⟩ :: ⟨[99, 110, 102], 2, false⟩ :: ⟨decT v, 6, false⟩ :: ⟨decT n, p, false⟩ :: wordsOf r q true false := by
  obtain ⟨a1, a2, a3, _⟩ := decT_word v
  obtain ⟨b1, b2, b3, _⟩ := decT_word n
  have e : headTx v n ++ r = [112] ++ 32 :: ([99, 110, 102] ++ 32 :: (decT v ++ 32 :: (decT n ++ 10 :: r))) := by simp [headTx]
  refine ⟨6 + (decT v).length + 1, 6 + (decT v).length + 1 + (decT n).length + 1, ?_⟩
  rw [e, W_one (by simp) (by decide) (Stops.sp _) _ (fun _ => by simp), W_sp, W_one (by simp) (by decide) (Stops.sp _) _ (fun h => by cases h), W_sp, W_one a1 a2 (Stops.sp _) _ (fun h => by cases h), W_sp, W_one b1 b2 (Stops.nl _) _ (fun h => by cases h), W_nl]
  rfl
theorem cnt_ok {x most : Int} (h0 : 0 ≤ x) (h1 : x < 1000000000) (hm : x ≤ most) (p : Nat) : cntC ⟨decT x, p, false⟩ most = none := by
  obtain ⟨a1, a2, a3⟩ := decT_num (x := x) (by omega) h1
  unfold cntC plainW
  simp only [a1, a2, a3 h0]
  rw [if_neg (by simp), if_neg (by omega)]
theorem headT_text {e v n : Int} (hv : 0 ≤ v) (hv1 : v ≤ 4000) (hn : 0 ≤ n) (hn1 : n ≤ 20000) (p : Nat) (W : List Wd) : headT e (⟨[112], 0, true⟩ :: ⟨[99, 110, 102], 2, false⟩ :: ⟨decT v, 6, false⟩ :: ⟨decT n, p, false⟩ :: W) = .ok v n := by
  unfold headT
  simp only [cnt_ok hv (by omega) hv1, cnt_ok hn (by omega) hn1]
  rw [if_neg (by simp), if_neg (by simp), (decT_num (x := v) (by omega) (by omega)).2.1, (decT_num (x := n) (by omega) (by omega)).2.1]
/-- how long such a text is -/
theorem linesT_len {B : Nat} : ∀ {L : List (List Int)}, (∀ c ∈ L, LnOk c) → totalI L ≤ B → (linesT L).length ≤ 21 * B + 2 * L.length
  | [], _, h => by simp [linesT]
  | c :: L, hc, h => by
    simp only [totalI, List.map_cons, List.sum_cons] at h
    have h1 := linesT_len (B := B - c.length) (L := L) (fun d hd => hc d (List.mem_cons_of_mem _ hd)) (by simp only [totalI]; omega)
    have h2 := numsT_num (hc c (List.mem_cons_self ..)).2
    rw [linesT_cons, List.length_append, lineT, List.length_append]
    simp only [List.length_cons, List.length_nil]
    omega
end Go.Proofs.YtdkckkhghghhdaaDoor

namespace Go.Proofs.YtdkckkhghghhdaaDoor
open Go.RowKit

theorem sucS {m : Nat} (h : m < 9000000000000000000) : IntKind.wrap .i64 ((m : Int) + 1) = ((m + 1 : Nat) : Int) := by rw [wrap64 (by omega) (by omega)]; omega
theorem sameI_loop (fuel d : Nat) {a b : List Int} (hl : a.length = b.length) (hn : a.length < 1000000000) {h : AHeap} : ∀ (n k : Nat), a.length < n + k → k ≤ a.length → a.take k = b.take k →
    (l_skolemref_SameInts_0 fuel d n [(0, .slice (lstI a)), (1, .slice (lstI b)), (5, .int .i64 (k : Int))] h).bind (fun p => k_skolemref_SameInts_0 fuel d p.1 p.2.1 p.2.2) = some (.bool (decide (a = b)), h) := by
  intro n
  induction n with
  | zero => intro k h1 h2; omega
  | succ n ih =>
    intro k h1 h2 h3
    rw [l_skolemref_SameInts_0_eq, len_lst]
    by_cases hk : k < a.length
    · rw [bif_pos (by omega), addr_lstM _ (by omega) (by omega) 0, addr_lstM _ (by omega) (by omega) 0]
      simp only [Option.bind_some, cell_fp, int_int, Int.toNat_natCast]
      by_cases he : a.getD k 0 = b.getD k 0
      · rw [bif_npos he, sucS (by omega), ih (k + 1) (by omega) (by omega) (by rw [take_get hk 0, take_get (by omega) 0, h3, he])]
      · rw [bif_nneg he]
        simp only [Option.bind_some, k_skolemref_SameInts_0_r]
        rw [decide_eq_false (fun h => he (by rw [h]))]
    · have : k = a.length := by omega
      subst this
      rw [bif_neg (by omega)]
      have : a = b := by rw [List.take_length, hl, List.take_length] at h3; exact h3
      simp only [Option.bind_some, k_skolemref_SameInts_0_x0]
      rw [decide_eq_true this]
theorem sameI_run (fuel d : Nat) {a b : List Int} {s t : Sl} {h : AHeap} (hs : freezeV h 8 (.slice s) = some (.slice (lstI a))) (ht : freezeV h 8 (.slice t) = some (.slice (lstI b))) (hn : a.length < 1000000000) (hf : a.length < fuel) :
    run fuel (d + 1) F_skolemref_SameInts [.slice s, .slice t] h = some (.bool (decide (a = b)), h) := by
  refine run_val rfl rfl (mm2 hs ht) (r := .bool (decide (a = b))) (h' := AHeap.none) ?_ rfl rfl
  rw [e_skolemref_SameInts, len_lst, len_lst]
  by_cases hl : a.length = b.length
  · rw [bif_npos (by omega)]
    have := sameI_loop fuel d hl hn (h := AHeap.none) fuel 0 (by omega) (by omega) rfl
    exact this
  · rw [bif_nneg (by omega), decide_eq_false (fun h => hl (by rw [h]))]

end Go.Proofs.YtdkckkhghghhdaaDoor

namespace Go.Proofs.YtdkckkhghghhdaaDoor
open Go.RowKit

end Go.Proofs.YtdkckkhghghhdaaDoor

namespace Go.Proofs.YtdkckkhghghhdaaDoor
open Go.RowKit

theorem succI {n : Nat} (h : n < 9000000000000000000) : IntKind.wrap .i64 ((n : Int) + 1) = ((n + 1 : Nat) : Int) := by rw [wrap64 (by omega) (by omega)]; omega

/-! lits.Var -/
def varI (l : Int) : Int := bif decide (l < IntKind.wrap .i64 (0 - l)) then IntKind.wrap .i64 (0 - l) else l
def okInt (l : Int) : Prop := -9223372036854775808 < l ∧ l ≤ 9223372036854775807
end Go.Proofs.YtdkckkhghghhdaaDoor

namespace Go.Proofs.YtdkckkhghghhdaaDoor
open Go.RowKit

/-! Functions that are handed over; the captured rows are told as they stand. -/
theorem canonL_none2 {a b : AVal} (hb : canonV 8 b = none) : canonL [a, b] = none := by
  unfold canonL
  rw [List.mapM_cons, List.mapM_cons, hb]
  cases canonV 8 a <;> rfl
theorem mapM_none2 {f : AVal → Option AVal} {a b : AVal} (hb : f b = none) : [a, b].mapM f = none := by
  rw [List.mapM_cons, List.mapM_cons, hb]
  cases f a <;> rfl

def idxF (p : Int → Bool) : List Int → Nat → Int
  | [], _ => -1
  | x :: l, k => if p x = true then (k : Int) else idxF p l (k + 1)
theorem idxF_any (p : Int → Bool) : ∀ (l : List Int) (k : Nat), decide ((0 : Int) ≤ idxF p l k) = l.any p
  | [], k => rfl
  | x :: l, k => by
    unfold idxF
    rw [List.any_cons]
    cases hp : p x with
    | true => simp
    | false => simp only [Bool.false_eq_true, if_false, Bool.false_or]; exact idxF_any p l (k + 1)

theorem idx_loop (fuel d : Nat) {c : List Int} {f : Nat} {caps : List Pt} {p : Int → Bool} {h : AHeap} (hc : c.length < 1000000000) (hp : ∀ x ∈ c, run fuel d f ([.int .i64 x] ++ List.map .ptr caps) h = some (.bool (p x), h)) : ∀ (n k : Nat), c.length < n + k → k ≤ c.length →
    (l_slices_IndexFunc_s_int_int_0 fuel d n [(0, .slice (lstI c)), (1, .func f caps), (7, .int .i64 (c.length : Int)), (8, .int .i64 (k : Int))] h).bind (fun q => k_slices_IndexFunc_s_int_int_0 fuel d q.1 q.2.1 q.2.2) = some (.int .i64 (idxF p (c.drop k) k), h) := by
  intro n
  induction n with
  | zero => intro k h1 h2; omega
  | succ n ih =>
    intro k h1 h2
    rw [l_slices_IndexFunc_s_int_int_0_eq]
    by_cases hk : k < c.length
    · rw [bif_pos (by omega), addr_lstM _ (by omega) (by omega) 0, drop_get hk 0]
      have hm : c.getD k 0 ∈ c := by rw [List.getD_eq_getElem?_getD, List.getElem?_eq_getElem hk]; exact List.getElem_mem hk
      simp only [Option.bind_some, cell_fp, int_int, Int.toNat_natCast, hp _ hm, bool_bool, idxF]
      cases hq : p (c.getD k 0) with
      | true => simp only [cond_true, Option.bind_some, k_slices_IndexFunc_s_int_int_0_r, if_true]
      | false =>
        simp only [cond_false, Bool.false_eq_true, if_false]
        rw [succI (by omega), ih (k + 1) (by omega) (by omega)]
    · have : k = c.length := by omega
      subst this
      rw [bif_neg (by omega)]
      simp [k_slices_IndexFunc_s_int_int_0_x0, idxF]

/-- .. one that has a row of the heap -/
theorem ContainsFunc_run (fuel d : Nat) {c : List Int} {f : Nat} {r : Ref} {lim : Nat} {p : Int → Bool} {h : AHeap} (hc : c.length < 1000000000) (hf : c.length < fuel) (hp : ∀ x ∈ c, run fuel d f [.int .i64 x, .ptr (.mk r lim)] h = some (.bool (p x), h)) :
    run fuel (d + 2) F_slices_ContainsFunc_s_int_int [.slice (lstI c), .func f [.mk r lim]] h = some (.bool (c.any p), h) := by
  have e1 : run fuel (d + 1) F_slices_IndexFunc_s_int_int [.slice (lstI c), .func f [.mk r lim]] h = some (.int .i64 (idxF p c 0), h) := by
    rw [run_body rfl (canonL_none2 rfl) (mapM_none2 rfl), e_slices_IndexFunc_s_int_int, len_lst]
    have := idx_loop fuel d (c := c) (f := f) (caps := [.mk r lim]) (p := p) (h := h) hc hp fuel 0 (by omega) (by omega)
    rw [List.drop_zero] at this
    exact this
  rw [run_body rfl (canonL_none2 rfl) (mapM_none2 rfl), e_slices_ContainsFunc_s_int_int, e1]
  simp only [Option.bind_some, int_int, idxF_any]

/-! lits.Check -/
theorem check_sum (fuel d : Nat) {p : Pt} {cc : List (List Int)} {h : AHeap} (hl : cc.length < 1000000000) : ∀ (n k a : Nat), cc.length < n + k → k ≤ cc.length → a + totalI (cc.drop k) < 1000000000000 →
    l_lits_Check_0 fuel d n [(1, .ptr p), (3, .int .i64 (a : Int)), (9, .slice (lstLL cc)), (10, .int .i64 (cc.length : Int)), (11, .int .i64 (k : Int))] h = some (.exit 0, [(1, .ptr p), (3, .int .i64 ((a + totalI (cc.drop k) : Nat) : Int))], h) := by
  intro n
  induction n with
  | zero => intro k a h1 h2; omega
  | succ n ih =>
    intro k a h1 h2 h3
    rw [l_lits_Check_0_eq]
    by_cases hk : k < cc.length
    · rw [bif_pos (by omega), addr_lstM _ (by omega) (by omega) []]
      rw [drop_get hk []] at h3 ⊢
      have e : totalI (cc.getD k [] :: cc.drop (k + 1)) = (cc.getD k []).length + totalI (cc.drop (k + 1)) := by simp [totalI]
      rw [e] at h3 ⊢
      simp only [Option.bind_some, cell_fp, slice_slice, Int.toNat_natCast, len_lst]
      rw [succI (by omega), show IntKind.wrap .i64 ((a : Int) + ((cc.getD k []).length : Int)) = ((a + (cc.getD k []).length : Nat) : Int) by rw [wrap64 (by omega) (by omega)]; omega]
      rw [ih (k + 1) (a + (cc.getD k []).length) (by omega) (by omega) (by omega)]
      rw [Nat.add_assoc]
    · have : k = cc.length := by omega
      subst this
      rw [bif_neg (by omega)]
      simp [totalI]

/-- The first clause that is not right. -/
def badI (vars : Int) : List (List Int) → Nat → Option Nat
  | [], _ => none
  | c :: cc, k => if (c.any fun l => !isI l vars) = true then some k else badI vars cc (k + 1)
/-- An error, and the place where it is. -/
abbrev atN (k : Nat) (e : AVal) : AVal := .iface T_p_api_At (.ptr (.fp 0 [.int .i64 (k : Int), e]))
def checkI (vars : Int) (cc : List (List Int)) : AVal :=
  if vars < 0 ∨ 4000 < vars ∨ 20000 < cc.length ∨ 80000 < totalI cc then err_api_ErrLimit else
  match badI vars cc 0 with
  | some k => atN k err_api_ErrRange
  | none => .nilif

theorem check_loop (fuel d : Nat) {vars : Int} {cc : List (List Int)} {r : Ref} {lim : Nat} {h : AHeap} (hv : freezeV h 8 (.ptr (.mk r lim)) = some (.ptr (.fp 0 (cnfC vars cc)))) (hl : cc.length < 1000000000) (hc : ∀ c ∈ cc, c.length < 1000000000 ∧ c.length < fuel) : ∀ (n k : Nat), cc.length < n + k → k ≤ cc.length →
    ∃ v h', (l_lits_Check_1 fuel (d + 4) n [(1, .ptr (.mk r lim)), (40, .slice (lstLL cc)), (41, .int .i64 (cc.length : Int)), (42, .int .i64 (k : Int))] h).bind (fun q => k_lits_Check_1 fuel (d + 4) q.1 q.2.1 q.2.2) = some (v, h') ∧
      freezeV h' 8 v = some (match badI vars (cc.drop k) k with | some k => atN k err_api_ErrRange | none => .nilif) := by
  intro n
  induction n with
  | zero => intro k h1 h2; omega
  | succ n ih =>
    intro k h1 h2
    rw [l_lits_Check_1_eq]
    by_cases hk : k < cc.length
    · rw [bif_pos (by omega), addr_lstM _ (by omega) (by omega) [], drop_get hk []]
      obtain ⟨c1, c2⟩ := hc (cc.getD k []) (by rw [List.getD_eq_getElem?_getD, List.getElem?_eq_getElem hk]; exact List.getElem_mem hk)
      have hcf := ContainsFunc_run fuel (d + 2) (c := cc.getD k []) (f := F_lits_Check_1) (r := r) (lim := lim) (p := fun l => !isI l vars) (h := h) c1 c2 (fun x hx => by
        refine run_val rfl rfl (mm2 rfl hv) (r := .bool (!isI x vars)) (h' := AHeap.none) ?_ rfl rfl
        rw [e_lits_Check_1]
        simp only [field_fp, cnfC, List.drop_zero, Option.bind_some, cell_fp, int_int, Is_run, bool_bool])
      simp only [Option.bind_some, cell_fp, slice_slice, Int.toNat_natCast, hcf, bool_bool, badI]
      cases hq : ((cc.getD k []).any fun l => !isI l vars) with
      | true =>
        simp only [cond_true, if_true]
        refine ⟨.iface T_p_api_At (.ptr (.mk ⟨h.next, 0, 0⟩ 2)), h.push 1 [.int .i64 (k : Int), err_api_ErrRange], k_lits_Check_1_r fuel (d + 4) _ _, ?_⟩
        have hz : freezeV (h.push 1 [.int .i64 (k : Int), err_api_ErrRange]) 7 (.ptr (.mk ⟨h.next, 0, 0⟩ 2)) = some (.ptr (.fp 0 [.int .i64 (k : Int), err_api_ErrRange])) :=
          (Own.push h 1 2 [.int .i64 (k : Int), err_api_ErrRange] rfl).freezePtr (m := 6) (l := 2) rfl (mm2 rfl rfl)
        rw [freeze_iface, hz]
        rfl
      | false =>
        simp only [cond_false, Bool.false_eq_true, if_false]
        rw [succI (by omega)]
        exact ih (k + 1) (by omega) (by omega)
    · have : k = cc.length := by omega
      subst this
      rw [bif_neg (by omega), List.drop_eq_nil_of_le (by omega)]
      exact ⟨.nilif, h, by simp only [Option.bind_some, k_lits_Check_1_x2], rfl⟩

theorem Check_body (fuel d : Nat) {vars : Int} {cc : List (List Int)} (hl : cc.length < 1000000000) (ht : totalI cc < 1000000000000) (hf : cc.length < fuel) (hc : ∀ c ∈ cc, c.length < 1000000000 ∧ c.length < fuel) :
    ∃ v h', brun fuel (d + 5) F_lits_Check [.agg (cnfC vars cc)] AHeap.none = some (v, h') ∧ freezeV h' 8 v = some (checkI vars cc) := by
  have hv : freezeV (AHeap.none.push 1 (cnfC vars cc)) 8 (.ptr (.mk ⟨AHeap.none.next, 0, 0⟩ 2)) = some (.ptr (.fp 0 (cnfC vars cc))) := by
    have hm : (cnfC vars cc).mapM (freezeV (AHeap.none.push 1 (cnfC vars cc)) 7) = some (cnfC vars cc) := mm2 rfl (freeze_lst _ _ _ (closedL_map closed_lstI cc))
    exact (Own.push AHeap.none 1 2 (cnfC vars cc) rfl).freezePtr (m := 7) rfl hm
  · rw [e_lits_Check, show List.all (cnfC vars cc) AVal.isCell = true from rfl, cond_true]
    have hlen : (cnfC vars cc).length = 2 := rfl
    simp only [hlen]
    have c1 : (AHeap.none.push 1 (cnfC vars cc)).cell (.mk ⟨AHeap.none.next, 0, 0 + 1⟩ 2) = some (.slice (lstLL cc)) := rfl
    have c0 : (AHeap.none.push 1 (cnfC vars cc)).cell (.mk ⟨AHeap.none.next, 0, 0 + 0⟩ 2) = some (.int .i64 vars) := rfl
    simp only [field_mk, Option.bind_some, c1, slice_slice]
    rw [len_lst]
    have hs := check_sum fuel (d + 4) (p := .mk ⟨AHeap.none.next, 0, 0⟩ 2) (cc := cc) (h := AHeap.none.push 1 (cnfC vars cc)) hl fuel 0 0 (by omega) (by omega) (by rw [List.drop_zero, Nat.zero_add]; exact ht)
    rw [List.drop_zero, Nat.zero_add, show ((0 : Nat) : Int) = 0 from rfl] at hs
    rw [hs]
    simp only [Option.bind_some, k_lits_Check_0_x0, field_mk, c0, int_int]
    unfold checkI
    by_cases h1 : vars < 0
    · rw [if_pos (.inl h1), decide_eq_true h1]
      exact ⟨_, _, rfl, rfl⟩
    · rw [decide_eq_false h1]
      simp only [beq_self_eq_true, cond_true, Option.bind_some, bool_bool]
      by_cases h2 : 4000 < vars
      · rw [if_pos (.inr (.inl h2)), decide_eq_true h2]
        exact ⟨_, _, rfl, rfl⟩
      · rw [decide_eq_false h2]
        simp only [beq_self_eq_true, cond_true, Option.bind_some, bool_bool, c1, slice_slice]
        rw [len_lst]
        by_cases h3 : 20000 < cc.length
        · rw [if_pos (.inr (.inr (.inl h3))), decide_eq_true (by omega)]
          exact ⟨_, _, rfl, rfl⟩
        · rw [decide_eq_false (by omega), cond_false]
          by_cases h4 : 80000 < totalI cc
          · rw [if_pos (.inr (.inr (.inr h4))), bif_pos (by omega)]
            exact ⟨_, _, rfl, rfl⟩
          · rw [if_neg (by omega), bif_neg (by omega)]
            have := check_loop fuel d hv hl hc fuel 0 (by omega) (by omega)
            rw [List.drop_zero] at this
            exact this
theorem badI_none {vars : Int} : ∀ {cc : List (List Int)} (k : Nat), (∀ c ∈ cc, ∀ l ∈ c, isI l vars = true) → badI vars cc k = none
  | [], _, _ => rfl
  | c :: cc, k, h => by
    unfold badI
    have : (c.any fun l => !isI l vars) = false := by
      rw [List.any_eq_false]
      intro l hl
      rw [h c (List.mem_cons_self ..) l hl]
      simp
    rw [this, if_neg (by simp)]
    exact badI_none (k + 1) fun b hb => h b (List.mem_cons_of_mem _ hb)
theorem checkI_nil {vars : Int} {cc : List (List Int)} (h0 : 0 ≤ vars) (h1 : vars ≤ 4000) (h2 : cc.length ≤ 20000) (h3 : totalI cc ≤ 80000) (h4 : ∀ c ∈ cc, ∀ l ∈ c, isI l vars = true) : checkI vars cc = .nilif := by
  unfold checkI
  rw [if_neg (by omega), badI_none 0 h4]

end Go.Proofs.YtdkckkhghghhdaaDoor

namespace Go.Proofs.YtdkckkhghghhdaaDoor
open Go.RowKit

/-- not too near to the least of numbers -/
def nearI (a : List Int) : Bool := a.all fun x => !decide (x < -1152921504606846976)
end Go.Proofs.YtdkckkhghghhdaaDoor

namespace Go.Proofs.YtdkckkhghghhdaaDoor
open Go.RowKit

/-! skolemmake.NearAll, Count -/
/-! skolemref1.CheckCNF -/
/-- the fault of clauses, as cells -/
def faultI (vars : Int) (cc : List (List Int)) : List AVal :=
  if vars < 0 ∨ 4000 < vars ∨ 20000 < cc.length ∨ 80000 < totalI cc then faultC 102 false 0 else
  match badI vars cc 0 with
  | some k => faultC 104 true (k : Int)
  | none => faultC 0 false 0
theorem canonCnf (v : Int) (l : List (List Int)) : canonV 8 (.agg (cnfC v l)) = some (.agg (cnfC v l)) := by
  unfold cnfC
  rw [canon_agg, canonM_cons (u := .int .i64 v) rfl (canonM_cons (u := .slice (lstLL l)) (canon_lstLL _ _) (canonM_nil _))]
  rfl
theorem Check_val (fuel d : Nat) {vars : Int} {cc : List (List Int)} (hl : cc.length < 1000000000) (ht : totalI cc < 1000000000000) (hf : cc.length < fuel) (hc : ∀ c ∈ cc, c.length < 1000000000 ∧ c.length < fuel) (h : AHeap) :
    run fuel (d + 5) F_lits_Check [.agg (cnfC vars cc)] h = some (checkI vars cc, h) := by
  obtain ⟨v, h', e1, e2⟩ := Check_body fuel d hl ht hf hc (vars := vars)
  exact pure_of rfl rfl (cc1 (canonCnf vars cc)) e1 e2
end Go.Proofs.YtdkckkhghghhdaaDoor

namespace Go.Proofs.YtdkckkhghghhdaaDoor
open Go.RowKit

def badX (vars x : Int) (seen : List Int) : Bool := decide (x < 1) || decide (vars < x) || seen.contains x
def badVs (vars : Int) : List Int → List Int → Option (List Int)
  | [], seen => some seen
  | x :: l, seen => if badX vars x seen = true then none else badVs vars l (seen ++ [x])
def badBs (vars : Int) : List Blk → List Int → Nat → Option Nat
  | [], _, _ => none
  | b :: bs, seen, k => match badVs vars b.2 seen with
    | none => some k
    | some s => badBs vars bs s (k + 1)
def bkE : Option Nat → AVal
  | none => .nilif
  | some k => atV (k : Int) err_api_ErrRange
def bkF : Option Nat → List AVal
  | none => faultC 0 false 0
  | some k => faultC 104 true (k : Int)
def checkF (bs : List Blk) (v : Int) (l : List (List Int)) : AVal := match checkI v l with
  | .nilif => bkE (badBs v bs [] 0)
  | e => e
def faultF (bs : List Blk) (v : Int) (l : List (List Int)) : List AVal := match checkI v l with
  | .nilif => bkF (badBs v bs [] 0)
  | _ => faultI v l
theorem checkI_cases (v : Int) (l : List (List Int)) : (checkI v l = .nilif ∧ faultI v l = faultC 0 false 0 ∧ 0 ≤ v ∧ v ≤ 4000 ∧ l.length ≤ 20000 ∧ badI v l 0 = none) ∨ (∃ t a, checkI v l = .iface t a) ∧ ∃ c p x, c ≠ 0 ∧ faultI v l = faultC c p x ∧ IsFault (checkI v l) c p x := by
  unfold checkI faultI
  by_cases h : v < 0 ∨ 4000 < v ∨ 20000 < l.length ∨ 80000 < totalI l
  · rw [if_pos h, if_pos h]
    exact .inr ⟨⟨_, _, rfl⟩, 102, false, 0, by omega, rfl, IsFault.bare (j := 1) (by omega)⟩
  · rw [if_neg h, if_neg h]
    cases badI v l 0 with
    | none => exact .inl ⟨rfl, rfl, by omega, by omega, by omega, rfl⟩
    | some k => exact .inr ⟨⟨_, _, rfl⟩, 104, true, (k : Int), by omega, rfl, IsFault.at (j := 3) (by omega) (k : Int)⟩
theorem fault_freeze {e : AVal} {c : Int} {p : Bool} {x : Int} (hf : IsFault e c p x) (h : AHeap) : freezeV h 8 e = some e := by
  cases hf with
  | fine => rfl
  | bare hj => rename_i j; rcases seven hj with rfl | rfl | rfl | rfl | rfl | rfl | rfl <;> rfl
  | «at» hj k => rename_i j; rcases seven hj with rfl | rfl | rfl | rfl | rfl | rfl | rfl <;> rfl
theorem okErrR (c : Int) : (bif (Nat.beq (List.length (AVal.cells err_api_ErrRange)) 1 && Nat.ble (1 + 1) (List.length [(AVal.int .i64 c), .nilif]) && List.all (AVal.cells err_api_ErrRange) AVal.isCell) then ((some (AHeap.overlay [(AVal.int .i64 c), .nilif] 1 (AVal.cells err_api_ErrRange)))) else (none)) = some [.int .i64 c, err_api_ErrRange] := rfl
theorem allErrR (c : Int) : List.all [AVal.int .i64 c, err_api_ErrRange] AVal.isCell = true := rfl
theorem lenErrR (c : Int) : List.length [AVal.int .i64 c, err_api_ErrRange] = 2 := rfl
/-- a block's variables -/
theorem qk_in (fuel d : Nat) {bs : List Blk} {v : Int} {l : List (List Int)} {vs : List Int} {X m kk : Nat} {L : List Chunk} {h0 : AHeap} (hvs : vs.length < 1000000) : ∀ (n j : Nat) (seen : List Int) (h : AHeap), vs.length < n + j → j ≤ vs.length →
    Sep0 h0 h (.own 1 X 0 3 (formulaC bs v l) :: .mp h0.maps.length m (seenM seen) :: L) →
    match badVs v (vs.drop j) seen with
    | none => ∃ r h' fr, l_qdimacs_Check_1 fuel d n [(1, .ptr (.mk ⟨X, 0, 0⟩ 3)), (4, .map (some m)), (5, .int .i64 (kk : Int)), (17, .slice (lstBk bs)), (18, .int .i64 (bs.length : Int)), (19, .int .i64 (kk : Int)), (25, .slice (lstI vs)), (26, .int .i64 (vs.length : Int)), (27, .int .i64 (j : Int))] h = some (.ret, fr, h') ∧ (∀ k, k_qdimacs_Check_1 fuel d k .ret fr h' = some (.ret, [(2, .iface T_p_api_At (.ptr (.mk ⟨r, 0, 0⟩ 2)))], h')) ∧ Sep0 h0 h' [.own 1 r 0 2 [.int .i64 (kk : Int), err_api_ErrRange]]
    | some s => ∃ h', l_qdimacs_Check_1 fuel d n [(1, .ptr (.mk ⟨X, 0, 0⟩ 3)), (4, .map (some m)), (5, .int .i64 (kk : Int)), (17, .slice (lstBk bs)), (18, .int .i64 (bs.length : Int)), (19, .int .i64 (kk : Int)), (25, .slice (lstI vs)), (26, .int .i64 (vs.length : Int)), (27, .int .i64 (j : Int))] h = some (.exit 2, [(1, .ptr (.mk ⟨X, 0, 0⟩ 3)), (2, .bot), (4, .map (some m)), (17, .slice (lstBk bs)), (18, .int .i64 (bs.length : Int)), (19, .int .i64 (kk : Int))], h') ∧ Sep0 h0 h' (.own 1 X 0 3 (formulaC bs v l) :: .mp h0.maps.length m (seenM s) :: L) := by
  intro n
  induction n with
  | zero => intro j seen h h1 h2; omega
  | succ n ih =>
    intro j seen h h1 h2 hs
    have c1 : h.cell (.mk ⟨X, 0, 0 + 1 + 0⟩ 3) = some (.int .i64 v) := hs.part (i := 0) rfl (by omega) rfl
    have gm : h.maps[m]? = some (seenM seen) := hs.getMap (i := 1) rfl
    have step := l_qdimacs_Check_1_eq fuel d n (.mk ⟨X, 0, 0⟩ 3) (some m) (kk : Int) (lstBk bs) (bs.length : Int) (kk : Int) (lstI vs) (vs.length : Int) (j : Int) h
    by_cases hj : j < vs.length
    · have hd : vs.drop j = vs.getD j 0 :: vs.drop (j + 1) := by rw [List.drop_eq_getElem_cons hj]; simp [List.getD, hj]
      rw [bif_pos (by omega), addr_lstM _ (by omega) (by omega) 0, Int.toNat_natCast] at step
      rw [hd]
      generalize vs.getD j 0 = x at step
      simp only [Option.bind_some, cell_fp, int_int, field_mk, c1] at step
      have e1 : ((bif ((decide (x < (1 : Int))) == false) then (some ((AVal.bool (decide (v < x))), h)) else (some ((.bool true), h)) : Option (AVal × AHeap))) = some (.bool (decide (x < 1) || decide (v < x)), h) := by
        cases decide (x < 1) <;> rfl
      rw [e1] at step
      simp only [Option.bind_some, bool_bool, mapOf_some, gm, mfind_seen, mgot_seen] at step
      have e2 : ∀ b : Bool, ((bif (b == false) then (some ((AVal.bool (seen.contains x)), h)) else (some ((.bool true), h)) : Option (AVal × AHeap))) = some (.bool (b || seen.contains x), h) := fun b => by cases b <;> rfl
      rw [e2] at step
      simp only [Option.bind_some, bool_bool] at step
      rw [show (decide (x < 1) || decide (v < x) || seen.contains x) = badX v x seen from rfl] at step
      unfold badVs
      cases hb : badX v x seen with
      | true =>
        rw [hb] at step
        simp only [cond_true, okErrR, allErrR, lenErrR, Option.bind_some] at step
        simp only [if_true]
        exact ⟨_, _, _, step, fun k => k_qdimacs_Check_1_r fuel d k _ _ _ _ _ _ _, ((hs.sub (L' := []) (List.nil_sublist _)).push 1 2 rfl)⟩
      | false =>
        have hcon : seen.contains x = false := by
          unfold badX at hb
          simp only [Bool.or_eq_false_iff] at hb
          exact hb.2
        rw [hb] at step
        simp only [cond_false, Option.bind_some, gm, mset_seen _ _ hcon] at step
        rw [sucU (by omega)] at step
        simp only [Bool.false_eq_true, if_false]
        have s2 := hs.setMap (i := 1) rfl (seenM (seen ++ [x]))
        have := ih (j + 1) (seen ++ [x]) _ (by omega) (by omega) s2
        rw [step]
        exact this
    · have : j = vs.length := by omega
      subst this
      rw [bif_neg (by omega)] at step
      rw [List.drop_length]
      exact ⟨h, step, hs⟩
/-- all blocks -/
theorem qk_out (fuel d : Nat) {bs : List Blk} {v : Int} {l : List (List Int)} {X m : Nat} {h0 : AHeap} (hbs : bs.length < 1000000) (hb2 : ∀ b ∈ bs, b.2.length < 1000000 ∧ b.2.length < fuel) : ∀ (n k : Nat) (seen : List Int) (h : AHeap), bs.length < n + k → k ≤ bs.length →
    Sep0 h0 h [.own 1 X 0 3 (formulaC bs v l), .mp h0.maps.length m (seenM seen)] →
    ∃ u h', (l_qdimacs_Check_0 fuel d n [(1, .ptr (.mk ⟨X, 0, 0⟩ 3)), (4, .map (some m)), (17, .slice (lstBk bs)), (18, .int .i64 (bs.length : Int)), (19, .int .i64 (k : Int))] h).bind (fun p => k_qdimacs_Check_0 fuel d p.1 p.2.1 p.2.2) = some (u, h') ∧ freezeV h' 8 u = some (bkE (badBs v (bs.drop k) seen k)) := by
  intro n
  induction n with
  | zero => intro k seen h h1 h2; omega
  | succ n ih =>
    intro k seen h h1 h2 hs
    rw [l_qdimacs_Check_0_eq]
    by_cases hk : k < bs.length
    · have hd : bs.drop k = bs.getD k (false, []) :: bs.drop (k + 1) := by rw [List.drop_eq_getElem_cons hk]; simp [List.getD, hk]
      obtain ⟨hx1, hx2⟩ := hb2 (bs.getD k (false, [])) (by simp [List.getD, hk])
      rw [bif_pos (by omega), addr_lstN (sz := 2) (f := blkC) blkC_len (by omega) (by omega) (false, []), hd, Int.toNat_natCast]
      generalize bs.getD k (false, []) = b at hx1 hx2
      obtain ⟨h3, e3, s3⟩ := copyB hs b
      have c1 : h3.cell (.mk ⟨h.next, 0, 0 + 1⟩ 2) = some (.slice (lstI b.2)) := s3.part (i := 2) rfl (by omega) rfl
      rw [Option.bind_some, cellsAt_fp (blkC_len b), Option.bind_some, cond_pos _ _ (isCellB b), e3]
      simp only [Option.bind_some, field_mk, c1, slice_slice]
      rw [len_lst]
      have q := qk_in fuel d (bs := bs) (v := v) (l := l) (vs := b.2) (X := X) (m := m) (kk := k) hx1 fuel 0 seen h3 (by omega) (by omega) s3
      rw [List.drop_zero] at q
      unfold badBs
      cases hv : badVs v b.2 seen with
      | none =>
        rw [hv] at q
        obtain ⟨r, h', fr, e1, e2, s4⟩ := q
        rw [show ((0 : Nat) : Int) = 0 from rfl] at e1
        rw [e1]
        simp only [Option.bind_some, e2, k_qdimacs_Check_0_r]
        refine ⟨_, h', rfl, ?_⟩
        rw [freeze_iface, (s4.sep.own (i := 0) rfl).freezePtr (m := 6) (l := 2) rfl (us := [.int .i64 (k : Int), err_api_ErrRange]) (mm2 rfl rfl)]
        rfl
      | some s =>
        rw [hv] at q
        obtain ⟨h', e1, s4⟩ := q
        rw [show ((0 : Nat) : Int) = 0 from rfl] at e1
        rw [e1]
        simp only [Option.bind_some, k_qdimacs_Check_1_x2]
        rw [sucU (by omega)]
        exact ih (k + 1) s h' (by omega) (by omega) (s4.sub (List.Sublist.cons_cons _ (List.Sublist.cons_cons _ (List.nil_sublist _))))
    · have : k = bs.length := by omega
      subst this
      rw [bif_neg (by omega), List.drop_length]
      simp only [Option.bind_some, k_qdimacs_Check_0_x0]
      exact ⟨_, h, rfl, rfl⟩
theorem qck_body (fuel d : Nat) {bs : List Blk} {v : Int} {l : List (List Int)} (hbs : bs.length < 1000000) (hbf : bs.length < fuel) (hb2 : ∀ b ∈ bs, b.2.length < 1000000 ∧ b.2.length < fuel) (hl : l.length < 1000000000) (ht : totalI l < 1000000000000) (hf : l.length < fuel) (hc : ∀ c ∈ l, c.length < 1000000000 ∧ c.length < fuel) :
    ∃ u h', brun fuel (d + 6) F_qdimacs_Check [.agg (formulaC bs v l)] AHeap.none = some (u, h') ∧ freezeV h' 8 u = some (checkF bs v l) := by
  have s1 := (Sep0.start AHeap.none).push 1 3 (cs := formulaC bs v l) rfl
  have c12 : (AHeap.none.push 1 (formulaC bs v l)).cellsAt 2 (.mk ⟨AHeap.next AHeap.none, 0, 0 + 1⟩ 3) = some (cnfC v l) := (s1.sep.own (i := 0) rfl).parts (o := 0 + 1) (k := 2) (l := 3) (by omega) (by simp [formulaC])
  rw [e_qdimacs_Check, show List.all (formulaC bs v l) AVal.isCell = true from rfl, cond_true, show (formulaC bs v l).length = 3 from rfl]
  simp only [field_mk, Option.bind_some, c12]
  rw [Check_val fuel d hl ht hf hc]
  unfold checkF
  rcases checkI_cases v l with ⟨h1, _⟩ | ⟨⟨t, a, h1⟩, c, p, x, h2, h3, h4⟩
  · have s2 := s1.addMap
    have c0 : (AHeap.none.push 1 (formulaC bs v l)).newMap.cell (.mk ⟨AHeap.next AHeap.none, 0, 0 + 0⟩ 3) = some (.slice (lstBk bs)) := s2.part (i := 0) rfl (by omega) rfl
    rw [h1]
    simp only [nilTest_nilif, Option.bind_some, Bool.not_true, cond_false, c0, slice_slice]
    rw [len_lst]
    exact qk_out fuel (d + 5) hbs hb2 fuel 0 [] _ (by omega) (by omega) s2
  · rw [h1]
    simp only [nilTest_if, Option.bind_some, Bool.not_false, cond_true]
    refine ⟨_, _, rfl, ?_⟩
    rw [h1] at h4
    exact fault_freeze h4 _
theorem qck_any (fuel d : Nat) {bs : List Blk} {v : Int} {l : List (List Int)} (hbs : bs.length < 1000000) (hbf : bs.length < fuel) (hb2 : ∀ b ∈ bs, b.2.length < 1000000 ∧ b.2.length < fuel) (hl : l.length < 1000000000) (ht : totalI l < 1000000000000) (hf : l.length < fuel) (hc : ∀ c ∈ l, c.length < 1000000000 ∧ c.length < fuel) {h : AHeap} {x : AVal} (hx : freezeV h 8 x = some (.agg (formulaC bs v l))) :
    ∃ ids, run fuel (d + 6) F_qdimacs_Check [x] h = some (checkF bs v l, h.markRo ids) := by
  obtain ⟨u, h', e1, e2⟩ := qck_body fuel d hbs hbf hb2 hl ht hf hc
  exact run_any rfl rfl (mm1 hx) e1 e2

/-! the reference's -/
end Go.Proofs.YtdkckkhghghhdaaDoor

namespace Go.Proofs.YtdkckkhghghhdaaDoor
open Go.RowKit

theorem badVs_cons {v : Int} {x : Int} {l seen s : List Int} (h : badVs v (x :: l) seen = some s) : badX v x seen = false ∧ badVs v l (seen ++ [x]) = some s := by
  unfold badVs at h
  cases hb : badX v x seen with
  | true => rw [hb] at h; simp at h
  | false => rw [hb] at h; exact ⟨rfl, by simpa using h⟩
theorem blockT_line (e v : Int) (hv : v ≤ 4000) : ∀ (l : List Int) (p : Nat) (r : List UInt8) (seen acc s : List Int), badVs v l seen = some s → ∃ q, blockT e v (wordsOf (lineT l ++ r) p false false) seen acc = .ok (acc ++ l) s (wordsOf r q true false)
  | [], p, r, seen, acc, s, h => by
    cases h
    obtain ⟨q, e1, _⟩ := W_line [] r p false
    refine ⟨q, ?_⟩
    rw [e1]
    simp only [numWs, List.nil_append, blockT]
    rw [if_pos (by decide), List.append_nil]
  | x :: l, p, r, seen, acc, s, h => by
    obtain ⟨h1, h2⟩ := badVs_cons h
    have hx : 1 ≤ x ∧ x ≤ v := by
      unfold badX at h1
      simp only [Bool.or_eq_false_iff, decide_eq_false_iff_not] at h1
      omega
    obtain ⟨w1, w2, w3, _⟩ := decT_word x
    obtain ⟨t1, t2, _⟩ := decT_num (x := x) (by omega) (by omega)
    have e1 : lineT (x :: l) ++ r = decT x ++ 32 :: (lineT l ++ r) := by simp [lineT, numsT]
    rw [e1, W_one w1 w2 (Stops.sp _) p (fun h => by cases h), W_sp]
    simp only [blockT, t1, t2]
    have hb : badV (decT x) v seen = false := by
      unfold badV
      rw [t1, t2]
      unfold badX at h1
      simpa using h1
    rw [if_neg (by simp; omega), hb, if_neg (by simp)]
    obtain ⟨q, e2⟩ := blockT_line e v hv l (p + (decT x).length + 1) r (seen ++ [x]) (acc ++ [x]) s h2
    exact ⟨q, by rw [e2]; simp⟩
theorem lines_first (L : List (List Int)) (p : Nat) : begI (wordsOf (linesT L) p true false) = false := by
  cases L with
  | nil => rw [show linesT [] = [] from rfl, W_nil]; rfl
  | cons c L =>
    obtain ⟨q, e1, _⟩ := W_line c (linesT L) p true
    rw [linesT_cons, e1]
    cases c with
    | nil => rfl
    | cons x c =>
      obtain ⟨w1, w2, w3, w4, w5, _⟩ := decT_word x
      simp only [numWs, List.cons_append, begI, isBk]
      have h1 : (decT x == [97]) = false := beq_false_of_ne fun e => w4 (by rw [e]; rfl)
      have h2 : (decT x == [101]) = false := beq_false_of_ne fun e => w5 (by rw [e]; rfl)
      rw [h1, h2]; rfl
theorem blocksT_stop (e v : Int) (n : Nat) (ws : List Wd) (seen : List Int) (bs : List Blk) (h : begI ws = false) : blocksT e v n ws seen bs = .ok bs ws := by
  cases n with
  | zero => rfl
  | succ n =>
    cases ws with
    | nil => rfl
    | cons w ws =>
      unfold blocksT
      rw [if_neg (by rw [show isBk w = false from h]; simp)]
theorem blocksT_text (e v : Int) (hv : v ≤ 4000) (L : List (List Int)) : ∀ (bs : List Blk) (n p k : Nat) (seen : List Int) (out : List Blk), bs.length ≤ n → badBs v bs seen k = none → ∃ q, blocksT e v n (wordsOf (blksT bs ++ linesT L) p true false) seen out = .ok (out ++ bs) (wordsOf (linesT L) q true false)
  | [], n, p, k, seen, out, hn, h => by
    refine ⟨p, ?_⟩
    rw [show blksT [] ++ linesT L = linesT L from rfl, blocksT_stop _ _ _ _ _ _ (lines_first L p), List.append_nil]
  | b :: bs, n, p, k, seen, out, hn, h => by
    simp only [List.length_cons] at hn
    obtain ⟨n, rfl⟩ : ∃ m, n = m + 1 := ⟨n - 1, by omega⟩
    unfold badBs at h
    cases hv2 : badVs v b.2 seen with
    | none => rw [hv2] at h; cases h
    | some s =>
      rw [hv2] at h
      have he : blksT (b :: bs) ++ linesT L = (if b.1 = true then [101] else [97]) ++ 32 :: (lineT b.2 ++ (blksT bs ++ linesT L)) := by
        rw [blksT_cons]
        unfold blkT
        cases b.1 <;> simp
      have hw : wordsOf ((if b.1 = true then [101] else [97]) ++ 32 :: (lineT b.2 ++ (blksT bs ++ linesT L))) p true false = ⟨if b.1 = true then [101] else [97], p, true⟩ :: wordsOf (lineT b.2 ++ (blksT bs ++ linesT L)) (p + 2) false false := by
        cases b.1 with
        | true => rw [if_pos rfl, W_one (by simp) (by decide) (Stops.sp _) p (fun _ => by simp), W_sp]; rfl
        | false => rw [if_neg (by simp), W_one (by simp) (by decide) (Stops.sp _) p (fun _ => by simp), W_sp]; rfl
      obtain ⟨q1, e1⟩ := blockT_line e v hv b.2 (p + 2) (blksT bs ++ linesT L) seen [] s hv2
      obtain ⟨q2, e2⟩ := blocksT_text e v hv L bs n q1 (k + 1) s (out ++ [b]) (by omega) h
      refine ⟨q2, ?_⟩
      rw [he, hw]
      unfold blocksT
      have hb : isBk ⟨if b.1 = true then [101] else [97], p, true⟩ = true := by cases b.1 <;> rfl
      have hx : ((if b.1 = true then [101] else [97] : List UInt8) == [101]) = b.1 := by cases b.1 <;> rfl
      rw [if_pos hb, e1]
      simp only [List.nil_append, hx]
      rw [e2]
      simp
theorem blks_words (r : List UInt8) : ∀ (bs : List Blk) (p : Nat), ∃ q, bs.length ≤ (wordsOf (blksT bs ++ r) p true false).length ∧ q = p
  | [], p => ⟨p, Nat.zero_le _, rfl⟩
  | b :: bs, p => by
    refine ⟨p, ?_, rfl⟩
    have he : blksT (b :: bs) ++ r = (if b.1 = true then [101] else [97]) ++ 32 :: (lineT b.2 ++ (blksT bs ++ r)) := by
      rw [blksT_cons]
      unfold blkT
      cases b.1 <;> simp
    have hw : wordsOf ((if b.1 = true then [101] else [97]) ++ 32 :: (lineT b.2 ++ (blksT bs ++ r))) p true false = ⟨if b.1 = true then [101] else [97], p, true⟩ :: wordsOf (lineT b.2 ++ (blksT bs ++ r)) (p + 2) false false := by
      cases b.1 with
      | true => rw [if_pos rfl, W_one (by simp) (by decide) (Stops.sp _) p (fun _ => by simp), W_sp]; rfl
      | false => rw [if_neg (by simp), W_one (by simp) (by decide) (Stops.sp _) p (fun _ => by simp), W_sp]; rfl
    obtain ⟨q, e1, _⟩ := W_line b.2 (blksT bs ++ r) (p + 2) false
    obtain ⟨_, h1, _⟩ := blks_words r bs q
    rw [he, hw, e1]
    simp only [List.length_cons, List.length_append]
    omega
theorem rdF_text {v : Int} {bs : List Blk} {L : List (List Int)} (hv : 0 ≤ v) (hv1 : v ≤ 4000) (hL : L.length ≤ 20000) (hl : ∀ c ∈ L, ∀ x ∈ c, LitOk v x) (hb : badBs v bs [] 0 = none) : rdF (formTx bs v L) = (v, bs, L, none) := by
  obtain ⟨p, q, e⟩ := W_head v (L.length : Int) (blksT bs ++ linesT L)
  have he : formTx bs v L = headTx v (L.length : Int) ++ (blksT bs ++ linesT L) := by simp [formTx]
  have hlen : bs.length ≤ (splitOf (formTx bs v L) true).length + 1 := by
    rw [splitOf_words, he, e]
    obtain ⟨_, h1, _⟩ := blks_words (linesT L) bs q
    simp only [List.length_cons]
    omega
  unfold rdF
  obtain ⟨q2, e2⟩ := blocksT_text (((formTx bs v L).length : Nat) : Int) v hv1 L bs ((splitOf (formTx bs v L) true).length + 1) q 0 [] [] hlen hb
  generalize (splitOf (formTx bs v L) true).length + 1 = N at e2 ⊢
  rw [splitOf_words]
  rw [he, e, headT_text hv hv1 (by omega) (by omega)]
  simp only [List.drop_succ_cons, List.drop_zero]
  rw [← he, e2]
  simp only [List.nil_append]
  rw [clT_lines _ _ _ L q2 true [] (by simp) hl]
  simp
end Go.Proofs.YtdkckkhghghhdaaDoor

namespace Go.Proofs.YtdkckkhghghhdaaDoor
open Go.RowKit

def rfrA (r : FR) : AVal := .tup [.agg (formulaC r.2.1 r.1 r.2.2.1), .agg (faultO r.2.2.2)]
/-- the frame of the reference's loops -/
abbrev rfFr (b : List UInt8) (W : List Wd) (A B F Q : Nat) (v m : Int) (s : Sl) (k : Nat) : Fr :=
  [(0, .slice (lstU b)), (2, .ptr (.mk ⟨A, 0, 0⟩ 3)), (3, .ptr (.mk ⟨B, 0, 0⟩ 3)), (4, .slice (lstW W)), (5, .int .i64 v), (6, .int .i64 m), (7, .ptr (.mk ⟨F, 0, 0⟩ 3)), (8, .ptr (.mk ⟨Q, 0, 0⟩ 3)), (9, .slice s), (10, .int .i64 (k : Int))]
/-- what the inner loop leaves -/
def RkPost (b : List UInt8) (W : List Wd) (A B F Q X : Nat) (v m : Int) (ex : Bool) (fa fb ff fq : List AVal) (L : List Chunk) (h0 : AHeap) : BkR → AExit → Fr → AHeap → Prop
  | .bad p, e, fr, h' => ∃ t k, e = .ret ∧ fr = rfFr b W A B F Q v m t k ++ [(11, .ptr (.mk ⟨X, 0, 0⟩ 2))] ∧ Sep0 h0 h' [.own 1 A 0 3 zero3, .own 1 B 0 3 (faultC 101 true p)]
  | .ok l seen ws, e, fr, h' => ∃ s t k, e = .exit 2 ∧ fr = rfFr b W A B F Q v m t k ++ [(11, .ptr (.mk ⟨X, 0, 0⟩ 2))] ∧
      Sep0 h0 h' (.own 1 A 0 3 fa :: .own 1 B 0 3 fb :: .own 1 F 0 3 ff :: .own 1 Q 0 3 fq :: .own 1 X 0 2 [.bool ex, .slice s] :: .grown 1 s (intsC l) :: .grown 1 t (intsC seen) :: L) ∧ ws = W.drop k ∧ k ≤ W.length ∧ seen.length ≤ k ∧ seen.contains 0 = false
end Go.Proofs.YtdkckkhghghhdaaDoor

namespace Go.Proofs.YtdkckkhghghhdaaDoor
open Go.RowKit

/-- the frame of the outer loop behind the blocks -/
abbrev rfEx (b : List UInt8) (W : List Wd) (A B F Q : Nat) (v m : Int) (k : Nat) : Fr :=
  [(0, .slice (lstU b)), (2, .ptr (.mk ⟨A, 0, 0⟩ 3)), (3, .ptr (.mk ⟨B, 0, 0⟩ 3)), (4, .slice (lstW W)), (5, .int .i64 v), (6, .int .i64 m), (7, .ptr (.mk ⟨F, 0, 0⟩ 3)), (8, .ptr (.mk ⟨Q, 0, 0⟩ 3)), (10, .int .i64 (k : Int))]
/-- what the outer loop leaves -/
def RsPost (b : List UInt8) (W : List Wd) (A B F Q : Nat) (v m : Int) (fa fb ff : List AVal) (h0 : AHeap) : BsR → AExit → Fr → AHeap → Prop
  | .bad p, e, fr, h' => ∃ k, e = .ret ∧ fr = rfEx b W A B F Q v m k ∧ Sep0 h0 h' [.own 1 A 0 3 zero3, .own 1 B 0 3 (faultC 101 true p)]
  | .ok l ws, e, fr, h' => ∃ o k, e = .exit 0 ∧ fr = rfEx b W A B F Q v m k ∧
      Sep0 h0 h' [.own 1 A 0 3 fa, .own 1 B 0 3 fb, .own 1 F 0 3 ff, .own 1 Q 0 3 [.slice o, .int .i64 0, .slice Sl.nil], .grown 2 o (blksC l)] ∧ ws = W.drop k ∧ k ≤ W.length
end Go.Proofs.YtdkckkhghghhdaaDoor

namespace Go.Proofs.YtdkckkhghghhdaaDoor
open Go.RowKit

end Go.Proofs.YtdkckkhghghhdaaDoor

namespace Go.Proofs.YtdkckkhghghhdaaDoor
open Go.RowKit

theorem sameCl_loop (fuel d : Nat) {l : List (List Int)} (hl : l.length < 1000000000) (hs : ∀ s ∈ l, s.length < 1000000000 ∧ s.length < fuel) (h : AHeap) : ∀ (n k : Nat), l.length < n + k → k ≤ l.length →
    l_skolemref_SameClauses_0 fuel (d + 1) n [(0, .slice (lstLL l)), (1, .slice (lstLL l)), (5, .int .i64 (k : Int))] h = some (.exit 0, [(4, .bot)], h) := by
  intro n
  induction n with
  | zero => intro k h1 h2; omega
  | succ n ih =>
    intro k h1 h2
    rw [l_skolemref_SameClauses_0_eq, len_lst]
    by_cases hk : k < l.length
    · obtain ⟨q1, q2⟩ := hs (l.getD k []) (by simp [List.getD, hk])
      rw [bif_pos (by omega), addr_lstM _ (by omega) (by omega) [], Int.toNat_natCast]
      generalize l.getD k [] = s at q1 q2
      simp only [Option.bind_some, cell_fp, slice_slice]
      rw [sameI_run fuel d (freeze_lstI 7 _) (freeze_lstI 7 _) q1 q2]
      simp only [Option.bind_some, bool_bool, decide_true, Bool.not_true, cond_false]
      rw [sucS (by omega)]
      exact ih (k + 1) (by omega) (by omega)
    · rw [bif_neg (by omega)]
theorem sameCl_run (fuel d : Nat) {l : List (List Int)} (hl : l.length < 1000000000) (hlf : l.length < fuel) (hs : ∀ s ∈ l, s.length < 1000000000 ∧ s.length < fuel) (h : AHeap) : run fuel (d + 2) F_skolemref_SameClauses [.slice (lstLL l), .slice (lstLL l)] h = some (.bool true, h) := by
  refine pure_of rfl rfl (cc2 (canon_lstLL 7 l) (canon_lstLL 7 l)) (r := .bool true) (h' := AHeap.none) ?_ rfl
  rw [e_skolemref_SameClauses, len_lst, bif_npos rfl]
  have := sameCl_loop fuel d hl hs AHeap.none fuel 0 (by omega) (by omega)
  rw [show ((0 : Nat) : Int) = 0 from rfl] at this
  rw [this]
  simp only [Option.bind_some, k_skolemref_SameClauses_0_x0]
theorem sameCNF_run (fuel d : Nat) (v : Int) {l : List (List Int)} (hl : l.length < 1000000000) (hlf : l.length < fuel) (hs : ∀ s ∈ l, s.length < 1000000000 ∧ s.length < fuel) (h : AHeap) : run fuel (d + 3) F_skolemref_SameCNF [.agg (cnfC v l), .agg (cnfC v l)] h = some (.bool true, h) := by
  have hc : canonV 8 (.agg (cnfC v l)) = some (.agg (cnfC v l)) := by
    unfold cnfC
    rw [canon_agg, canonM_cons (u := .int .i64 v) rfl (canonM_cons (u := .slice (lstLL l)) (canon_lstLL _ _) (canonM_nil _))]
    rfl
  refine pure_of rfl rfl (cc2 hc hc) (r := .bool true) ?_ rfl (h' := (AHeap.none.push 1 (cnfC v l)).push 1 (cnfC v l))
  rw [e_skolemref_SameCNF, show List.all (cnfC v l) AVal.isCell = true from rfl, cond_true, cond_true, show (cnfC v l).length = 2 from rfl]
  have s1 := ((Sep0.start AHeap.none).push 1 2 (cs := cnfC v l) rfl).push 1 2 (cs := cnfC v l) rfl
  have a0 : ((AHeap.none.push 1 (cnfC v l)).push 1 (cnfC v l)).cell (.mk ⟨AHeap.none.next, 0, 0 + 0⟩ 2) = some (.int .i64 v) := s1.part (i := 0) rfl (by omega) rfl
  have a1 : ((AHeap.none.push 1 (cnfC v l)).push 1 (cnfC v l)).cell (.mk ⟨AHeap.none.next, 0, 0 + 1⟩ 2) = some (.slice (lstLL l)) := s1.part (i := 0) rfl (by omega) rfl
  have b0 : ((AHeap.none.push 1 (cnfC v l)).push 1 (cnfC v l)).cell (.mk ⟨(AHeap.none.push 1 (cnfC v l)).next, 0, 0 + 0⟩ 2) = some (.int .i64 v) := s1.part (i := 1) rfl (by omega) rfl
  have b1 : ((AHeap.none.push 1 (cnfC v l)).push 1 (cnfC v l)).cell (.mk ⟨(AHeap.none.push 1 (cnfC v l)).next, 0, 0 + 1⟩ 2) = some (.slice (lstLL l)) := s1.part (i := 1) rfl (by omega) rfl
  simp only [field_mk, Option.bind_some, a0, a1, b0, b1, int_int, slice_slice, decide_true, beq_self_eq_true, cond_true]
  rw [sameCl_run fuel d hl hlf hs]
  simp only [Option.bind_some, bool_bool]

theorem same_true (fuel d : Nat) {u : AVal} {c x : Int} {q : Bool} (hu : IsFault u c q x) (hf : 10 < fuel) (h : AHeap) : run fuel (d + 4) F_skolemsee_Same [u, .agg (faultC c q x)] h = some (.bool true, h) := by
  rw [Same_run fuel d hu hf c q x, decide_eq_true (rfl : c = c), decide_eq_true (rfl : x = x)]
  cases q <;> rfl
theorem okC (v : Int) (l : List (List Int)) : (!false && Nat.beq (List.length (cnfC v l)) 2 && List.all (cnfC v l) AVal.isCell) = true := rfl
end Go.Proofs.YtdkckkhghghhdaaDoor

namespace Go.Proofs.YtdkckkhghghhdaaDoor
open Go.RowKit

theorem okQ (bs : List Blk) (v : Int) (l : List (List Int)) : (!false && Nat.beq (List.length (formulaC bs v l)) 3 && List.all (formulaC bs v l) AVal.isCell) = true := rfl
theorem first5_run (fuel : Nat) {e : Nat} (he : 9 ≤ e) (hf : 1000 ≤ fuel) (h : AHeap) : run fuel e F_skolemlaw5_first [] h = some (.bool true, h) := by
  obtain ⟨d, rfl⟩ : ∃ d, e = d + 9 := ⟨e - 9, by omega⟩
  refine pure_ex rfl rfl canonL_nil (r := .bool true) ?_ (fun _ => rfl)
  rw [e_skolemlaw5_first, fread_nil fuel d (by omega), show frA (rdF []) = .tup [.agg (formulaC [] 0 []), atV 0 err_api_ErrText] from rfl]
  simp only [Option.bind_some, tup2, comp0, comp1, cond_true, agg_agg]
  rw [cond_pos _ _ (okQ [] 0 [])]
  have s1 := (Sep0.start AHeap.none).push 1 3 (cs := zero3) rfl
  obtain ⟨h5, e5, _⟩ := s1.putAll (i := 0) (vs := formulaC [] 0 []) rfl rfl rfl
  rw [e5]
  simp only [Option.bind_some]
  rw [Placed_run fuel (d + 7) (show (101 : Int) ≠ 0 by omega)]
  simp only [Option.bind_some, agg_agg]
  rw [same_true fuel (d + 4) (u := atV 0 err_api_ErrText) (c := 101) (q := true) (x := 0) (IsFault.at (j := 0) (by omega) 0) (by omega)]
  simp only [Option.bind_some, bool_bool, beq_self_eq_true, cond_true]
  rw [qB_none fuel (d + 1) hf]
  simp only [Option.bind_some, slice_slice, bool_bool]
  have hl := (headTx_len (v := 0) (n := 0) ⟨by omega, by omega⟩ ⟨by omega, by omega⟩).2
  rw [len_lst, decide_eq_true (show (0 : Int) < ((formTx [] 0 []).length : Int) by unfold formTx; simp only [List.length_append, List.length_nil, Int.ofNat_zero] at *; omega)]
  exact ⟨_, rfl⟩

end Go.Proofs.YtdkckkhghghhdaaDoor

namespace Go.Proofs.YtdkckkhghghhdaaDoor
open Go.RowKit

end Go.Proofs.YtdkckkhghghhdaaDoor

namespace Go.Proofs.YtdkckkhghghhdaaDoor
open Go.RowKit

end Go.Proofs.YtdkckkhghghhdaaDoor

namespace Go.Proofs.YtdkckkhghghhdaaDoor
open Go.RowKit

/-! skolemworld.Number -/
def numI (n b : Int) : Int := bif decide (Int.tmod n b < 0) then IntKind.wrap .i64 (Int.tmod n b + b) else Int.tmod n b
theorem Number_run (fuel d : Nat) {n b : Int} (hb : b ≠ 0) (h : AHeap) : run fuel (d + 1) F_skolemworld_Number [.int .i64 n, .int .i64 b] h = some (.int .i64 (numI n b), h) :=
  pure_of rfl rfl (cc2 rfl rfl) (by
    rw [e_skolemworld_Number, bif_neg hb]
    show _ = some (AVal.int .i64 (numI n b), AHeap.none)
    unfold numI
    cases decide (Int.tmod n b < 0) <;> rfl) rfl
theorem numI_range {n b : Int} (hb : 0 < b) (hb2 : b ≤ 9223372036854775807) : 0 ≤ numI n b ∧ numI n b < b := by
  have h1 := Int.tmod_lt_of_pos n hb
  have h2 : -b < Int.tmod n b := by
    have := Int.neg_lt_of_neg_lt (a := Int.tmod n b) (b := b)
    have h3 := Int.tmod_lt_of_pos (-n) hb
    rw [Int.neg_tmod] at h3
    omega
  unfold numI
  by_cases h0 : Int.tmod n b < 0
  · rw [decide_eq_true h0, cond_true, wrap64 (by omega) (by omega)]; omega
  · rw [decide_eq_false h0, cond_false]; omega

end Go.Proofs.YtdkckkhghghhdaaDoor

namespace Go.Proofs.YtdkckkhghghhdaaDoor
open Go.RowKit

/-! skolemmake.Lit -/
def litI (n vars : Int) : Int := bif decide (numI n (2 * vars) < vars) then numI n (2 * vars) + 1 else vars - numI n (2 * vars) - 1
theorem Lit_run (fuel d : Nat) {n vars : Int} (h1 : 0 < vars) (h2 : vars ≤ 1000000) (h : AHeap) : run fuel (d + 2) F_skolemmake_Lit [.int .i64 n, .int .i64 vars] h = some (.int .i64 (litI n vars), h) := by
  have hr := numI_range (n := n) (b := 2 * vars) (by omega) (by omega)
  refine pure_of rfl rfl (cc2 rfl rfl) (r := .int .i64 (litI n vars)) (h' := AHeap.none) ?_ rfl
  rw [e_skolemmake_Lit, wrap64 (n := 2 * vars) (by omega) (by omega), Number_run fuel d (by omega)]
  simp only [Option.bind_some, int_int]
  unfold litI
  by_cases h0 : numI n (2 * vars) < vars
  · rw [decide_eq_true h0, cond_true, cond_true, wrap64 (by omega) (by omega)]
  · rw [decide_eq_false h0, cond_false, cond_false, wrap64 (n := vars - numI n (2 * vars)) (by omega) (by omega), wrap64 (by omega) (by omega)]
theorem litI_range {n vars : Int} (h1 : 0 < vars) (h2 : vars ≤ 1000000) : litI n vars ≠ 0 ∧ -vars ≤ litI n vars ∧ litI n vars ≤ vars := by
  have hr := numI_range (n := n) (b := 2 * vars) (by omega) (by omega)
  unfold litI
  by_cases h0 : numI n (2 * vars) < vars
  · rw [decide_eq_true h0, cond_true]; omega
  · rw [decide_eq_false h0, cond_false]; omega

end Go.Proofs.YtdkckkhghghhdaaDoor

namespace Go.Proofs.YtdkckkhghghhdaaDoor
open Go.RowKit

/-! skolemmake.Clauses -/
def clLit (n vars : Int) : Int := litI (IntKind.wrap .i64 (Int.tdiv (numI n 1099511627776) 7)) vars
def clCut (n : Int) (c : List Int) : Bool := (decide (numI n 7 = 0) && decide (0 < c.length)) || decide (5 ≤ c.length)
def clGo (vars : Int) : List Int → List (List Int) → List Int → List (List Int)
  | [], cc, c => if c = [] then cc else cc ++ [c]
  | n :: l, cc, c => if clCut n c = true then clGo vars l (cc ++ [c]) [clLit n vars] else clGo vars l cc (c ++ [clLit n vars])
def clausesI (l : List Int) (vars : Int) : List (List Int) := if vars < 1 then [] else clGo vars l [] []

theorem clauses_loop (fuel d : Nat) {l : List Int} {vars : Int} (hv : 0 < vars) (hv' : vars ≤ 1000000) (hl : l.length < 1000000) {h0 : AHeap} : ∀ (n k : Nat) (cc : List (List Int)) (c : List Int) (s5 s6 : Sl) (h : AHeap), l.length < n + k → k ≤ l.length → cc.length ≤ k → c.length ≤ k →
    Sep0 h0 h [.grown 1 s5 (gridC cc), .grown 1 s6 (intsC c)] →
    ∃ s' h', (l_skolemmake_Clauses_0 fuel (d + 2) n [(0, .slice (lstI l)), (1, .int .i64 vars), (5, .slice s5), (6, .slice s6), (7, .int .i64 (k : Int))] h).bind (fun p => k_skolemmake_Clauses_0 fuel (d + 2) p.1 p.2.1 p.2.2) = some (.slice s', h') ∧
      New h0 h' (.grown 1 s' (gridC (clGo vars (l.drop k) cc c))) := by
  intro n
  induction n with
  | zero => intro k cc c s5 s6 h h1 h2; omega
  | succ n ih =>
    intro k cc c s5 s6 h h1 h2 h3 h4 hs
    have l5 := hs.len (i := 0) rfl
    have l6 := hs.len (i := 1) rfl
    simp only [List.length_map, Nat.mul_one] at l5 l6
    rw [l_skolemmake_Clauses_0_eq, len_lst]
    by_cases hk : k < l.length
    · rw [bif_pos (by omega), drop_get hk 0, addr_lstM _ (by omega) (by omega) 0]
      simp only [Option.bind_some, cell_fp, int_int, Int.toNat_natCast, Number_run fuel (d + 1) (show (7 : Int) ≠ 0 by decide), ← l6]
      have hcut : (bif (bif decide (numI (l.getD k 0) 7 = 0) then decide ((0 : Int) < (c.length : Int)) else false) then true else decide ((5 : Int) ≤ (c.length : Int))) = clCut (l.getD k 0) c := by
        unfold clCut
        have e1 : decide ((0 : Int) < (c.length : Int)) = decide (0 < c.length) := by congr 1; simp
        have e2 : decide ((5 : Int) ≤ (c.length : Int)) = decide (5 ≤ c.length) := by congr 1; simp; omega
        rw [e1, e2]
        cases decide (numI (l.getD k 0) 7 = 0) <;> cases decide (0 < c.length) <;> cases decide (5 ≤ c.length) <;> rfl
      rw [hcut]
      simp only [clGo]
      have step : ∀ (cc : List (List Int)) (c : List Int) (s5 s6 : Sl) (h : AHeap), cc.length ≤ k + 1 → c.length ≤ k → Sep0 h0 h [.grown 1 s5 (gridC cc), .grown 1 s6 (intsC c)] →
          ∃ s' h', (k_skolemmake_Clauses_1 fuel (d + 2) n .normal [(0, .slice (lstI l)), (1, .int .i64 vars), (5, .slice s5), (6, .slice s6), (7, .int .i64 (k : Int))] h).bind (fun p => k_skolemmake_Clauses_0 fuel (d + 2) p.1 p.2.1 p.2.2) = some (.slice s', h') ∧
            New h0 h' (.grown 1 s' (gridC (clGo vars (l.drop (k + 1)) cc (c ++ [clLit (l.getD k 0) vars])))) := by
        intro cc c s5 s6 h h3 h4 hs
        have l6 := hs.len (i := 1) rfl
        simp only [List.length_map, Nat.mul_one] at l6
        obtain ⟨s', h', e1, e2, e3⟩ := hs.grow (i := 1) (bytes := 8) (m := 1) (vs := [.int .i64 (clLit (l.getD k 0) vars)]) rfl rfl (by omega) (by omega)
        rw [k_skolemmake_Clauses_1_n, addr_lstM _ (by omega) (by omega) 0]
        simp only [Option.bind_some, cell_fp, int_int, Int.toNat_natCast, Number_run fuel (d + 1) (show (1099511627776 : Int) ≠ 0 by decide)]
        rw [Lit_run fuel d hv hv']
        have e1' : AHeap.append h false 1 8 s6 1 [.int .i64 (litI (IntKind.wrap .i64 (Int.tdiv (numI (l.getD k 0) 1099511627776) 7)) vars)] = some (s', h') := e1
        simp only [Option.bind_some, int_int, e1']
        rw [succI (by omega)]
        refine ih (k + 1) cc (c ++ [clLit (l.getD k 0) vars]) s5 s' h' (by omega) (by omega) (by omega) (by simp; omega) ?_
        rw [intsC_append]
        exact e2
      cases hc : clCut (l.getD k 0) c with
      | true =>
        obtain ⟨h5, f1, f2⟩ := hs.fix (i := 1) (sz := 1) (s := s6) (cs := intsC c) rfl (closedL_map (fun _ => rfl) c) 1
        obtain ⟨s', h', e1, e2, e3⟩ := f2.grow (i := 0) (sz := 1) (s := s5) (cs := gridC cc) (bytes := 24) (m := 1) (vs := [.slice (lstI c)]) rfl rfl (by omega) (by omega)
        have hfx : h.fixL [.slice s6] = ([.slice (lstI c)], h5) := by rw [fixL_one, f1, ← l6]
        simp only [cond_true, hfx, e1, Option.bind_some, if_true]
        exact step (cc ++ [c]) [] s' .nil h' (by simp; omega) (by simp) (by rw [gridC_append]; exact e2)
      | false =>
        simp only [cond_false, Option.bind_some, Bool.false_eq_true, if_false]
        exact step cc c s5 s6 h (by omega) h4 hs
    · have : k = l.length := by omega
      subst this
      rw [bif_neg (by omega), List.drop_eq_nil_of_le (by omega)]
      simp only [Option.bind_some, k_skolemmake_Clauses_0_x0, clGo, ← l6]
      by_cases h0 : c = []
      · subst h0
        rw [bif_neg (by simp)]
        exact ⟨s5, h, rfl, hs.get (i := 0) rfl⟩
      · have : 0 < c.length := List.length_pos_iff.2 h0
        rw [bif_pos (by omega), if_neg h0]
        obtain ⟨h5, f1, f2⟩ := hs.fix (i := 1) (sz := 1) (s := s6) (cs := intsC c) rfl (closedL_map (fun _ => rfl) c) 1
        obtain ⟨s', h', e1, e2, e3⟩ := f2.grow (i := 0) (sz := 1) (s := s5) (cs := gridC cc) (bytes := 24) (m := 1) (vs := [.slice (lstI c)]) rfl rfl (by omega) (by omega)
        have hfx : h.fixL [.slice s6] = ([.slice (lstI c)], h5) := by rw [fixL_one, f1, ← l6]
        simp only [hfx, e1, Option.bind_some]
        refine ⟨s', h', rfl, ?_⟩
        rw [gridC_append]
        exact e2.get (i := 0) rfl

theorem Clauses_body (fuel d : Nat) {l : List Int} {vars : Int} (hv' : vars ≤ 1000000) (hl : l.length < 1000000) (hf : l.length < fuel) (h : AHeap) :
    ∃ s h', (bif (decide (vars < (1 : Int))) then (some ((AVal.slice Sl.nil), h)) else ((l_skolemmake_Clauses_0 fuel (d + 2) fuel [(0, (AVal.slice (lstI l))), (1, (AVal.int .i64 vars)), (5, (AVal.slice Sl.nil)), (6, (AVal.slice Sl.nil)), (7, (AVal.int .i64 (0 : Int)))] h).bind fun p1 => k_skolemmake_Clauses_0 fuel (d + 2) p1.1 p1.2.1 p1.2.2)) = some (.slice s, h') ∧ New h h' (.grown 1 s (gridC (clausesI l vars))) := by
  unfold clausesI
  by_cases hv : vars < 1
  · rw [bif_pos hv, if_pos hv]
    exact ⟨_, _, rfl, Keeps.refl _ _, .nil, fun r hr => by cases hr⟩
  · rw [bif_neg hv, if_neg hv]
    obtain ⟨s', h', e1, e2⟩ := clauses_loop fuel d (l := l) (vars := vars) (by omega) hv' hl (h0 := h) fuel 0 [] [] .nil .nil h (by omega) (by omega) (by simp) (by simp) ((((Sep0.start h).addNil 1).addNil 1))
    rw [show ((0 : Nat) : Int) = 0 from rfl] at e1
    rw [List.drop_zero] at e2
    exact ⟨s', h', e1, e2⟩

/-! The clauses are right; how long they are. -/
theorem clGo_lits {vars : Int} (hv : 0 < vars) (hv' : vars ≤ 1000000) : ∀ (l : List Int) (cc : List (List Int)) (c : List Int), (∀ b ∈ cc, ∀ x ∈ b, x ≠ 0 ∧ -vars ≤ x ∧ x ≤ vars) → (∀ x ∈ c, x ≠ 0 ∧ -vars ≤ x ∧ x ≤ vars) → ∀ b ∈ clGo vars l cc c, ∀ x ∈ b, x ≠ 0 ∧ -vars ≤ x ∧ x ≤ vars
  | [], cc, c, h1, h2 => by
    unfold clGo
    split
    · exact h1
    · intro b hb
      rcases List.mem_append.1 hb with hb | hb
      · exact h1 b hb
      · rw [List.mem_singleton.1 hb]; exact h2
  | n :: l, cc, c, h1, h2 => by
    have hl : clLit n vars ≠ 0 ∧ -vars ≤ clLit n vars ∧ clLit n vars ≤ vars := litI_range hv hv'
    unfold clGo
    split
    · refine clGo_lits hv hv' l _ _ (fun b hb => ?_) fun x hx => by rw [List.mem_singleton.1 hx]; exact hl
      rcases List.mem_append.1 hb with hb | hb
      · exact h1 b hb
      · rw [List.mem_singleton.1 hb]; exact h2
    · refine clGo_lits hv hv' l _ _ h1 fun x hx => ?_
      rcases List.mem_append.1 hx with hx | hx
      · exact h2 x hx
      · rw [List.mem_singleton.1 hx]; exact hl
theorem clausesI_lits {vars : Int} (hv' : vars ≤ 1000000) (l : List Int) : ∀ b ∈ clausesI l vars, ∀ x ∈ b, x ≠ 0 ∧ -vars ≤ x ∧ x ≤ vars := by
  unfold clausesI
  split
  · intro b hb; cases hb
  · exact clGo_lits (by omega) hv' l [] [] (fun b h => by cases h) fun x h => by cases h
theorem clGo_total {vars : Int} : ∀ (l : List Int) (cc : List (List Int)) (c : List Int), totalI (clGo vars l cc c) = totalI cc + c.length + l.length
  | [], cc, c => by
    unfold clGo totalI
    split
    · rename_i h; subst h; simp
    · simp
  | n :: l, cc, c => by
    unfold clGo
    split
    · rw [clGo_total l]; simp [totalI]; omega
    · rw [clGo_total l]; simp; omega
theorem clGo_full {vars : Int} : ∀ (l : List Int) (cc : List (List Int)) (c : List Int), (∀ b ∈ cc, b ≠ []) → ∀ b ∈ clGo vars l cc c, b ≠ []
  | [], cc, c, h => by
    unfold clGo
    split
    · exact h
    · rename_i h0
      intro b hb
      rcases List.mem_append.1 hb with hb | hb
      · exact h b hb
      · rw [List.mem_singleton.1 hb]; exact h0
  | n :: l, cc, c, h => by
    unfold clGo
    split
    · rename_i hc
      refine clGo_full l _ _ fun b hb => ?_
      rcases List.mem_append.1 hb with hb | hb
      · exact h b hb
      · rw [List.mem_singleton.1 hb]
        rintro rfl
        simp [clCut] at hc
    · exact clGo_full l _ _ h
theorem total_bound : ∀ {cc : List (List Int)}, (∀ b ∈ cc, b ≠ []) → cc.length ≤ totalI cc ∧ ∀ b ∈ cc, b.length ≤ totalI cc
  | [], _ => ⟨Nat.le_refl _, fun b h => by cases h⟩
  | c :: cc, h => by
    obtain ⟨h1, h2⟩ := total_bound (cc := cc) fun b hb => h b (List.mem_cons_of_mem _ hb)
    have h0 := List.length_pos_iff.2 (h c (List.mem_cons_self ..))
    have e : totalI (c :: cc) = c.length + totalI cc := by simp [totalI]
    refine ⟨by rw [e, List.length_cons]; omega, fun b hb => ?_⟩
    rcases List.mem_cons.1 hb with rfl | hb
    · omega
    · have := h2 b hb; omega
theorem clausesI_size (l : List Int) (vars : Int) : (clausesI l vars).length ≤ l.length ∧ totalI (clausesI l vars) ≤ l.length ∧ ∀ b ∈ clausesI l vars, b.length ≤ l.length := by
  unfold clausesI
  split
  · exact ⟨by simp, by simp [totalI], fun b h => by cases h⟩
  · have e := clGo_total (vars := vars) l [] []
    simp only [totalI, List.map_nil, List.sum_nil, List.length_nil, Nat.zero_add] at e
    obtain ⟨h1, h2⟩ := total_bound (clGo_full (vars := vars) l [] [] fun b h => by cases h)
    unfold totalI at h1 h2
    exact ⟨by omega, by unfold totalI; omega, fun b hb => by have := h2 b hb; omega⟩

end Go.Proofs.YtdkckkhghghhdaaDoor

namespace Go.Proofs.YtdkckkhghghhdaaDoor
open Go.RowKit

theorem Clauses_run (fuel d : Nat) {l : List Int} {vars : Int} (hv' : vars ≤ 1000000) (hl : l.length < 1000000) (hf : l.length < fuel) (h : AHeap) :
    run fuel (d + 3) F_skolemmake_Clauses [.slice (lstI l), .int .i64 vars] h = some (.slice (lstLL (clausesI l vars)), h) := by
  obtain ⟨s, h', e1, e2⟩ := Clauses_body fuel d hv' hl hf AHeap.none
  refine pure_of rfl rfl (cc2 (canon_lstI 7 l) rfl) (by rw [e_skolemmake_Clauses]; exact e1) ?_
  have hg : Grown h' 1 s (gridC (clausesI l vars)) := e2.holds
  have hl2 := hg.len
  simp only [List.length_map, Nat.mul_one] at hl2
  rw [hg.freeze (n := 7) (by omega) (freeze_gridC 6 _), ← hl2]

theorem CNF_run (fuel d : Nat) {l : List Int} {vars : Int} (hv' : vars ≤ 1000000) (hl : l.length < 1000000) (hf : l.length < fuel) (h : AHeap) :
    run fuel (d + 4) F_skolemmake_CNF [.slice (lstI l), .int .i64 vars] h = some (.agg (cnfC vars (clausesI l vars)), h) := by
  refine pure_of rfl rfl (cc2 (canon_lstI 7 l) rfl) (r := .agg (cnfC vars (clausesI l vars))) (h' := ?_) ?_ (freeze_cnf 6 _ _)
  rotate_left
  · rw [e_skolemmake_CNF, Clauses_run fuel d hv' hl hf]
    rfl

end Go.Proofs.YtdkckkhghghhdaaDoor

namespace Go.Proofs.YtdkckkhghghhdaaDoor
open Go.RowKit

theorem isI_of {x v : Int} (h0 : x ≠ 0) (h1 : -v ≤ x) (h2 : x ≤ v) (hv : v ≤ 4000) : isI x v = true := by
  unfold isI
  rw [wrap64 (by omega) (by omega), decide_eq_false h0, decide_eq_true (show 0 - v ≤ x by omega), decide_eq_true h2]; rfl
theorem clauses_ok (l : List Int) {v : Int} (hv : 0 ≤ v) (hv1 : v ≤ 4000) (hl : l.length ≤ 100) : (clausesI l v).length ≤ 100 ∧ (∀ c ∈ clausesI l v, LnOk c ∧ ∀ x ∈ c, LitOk v x) ∧ totalI (clausesI l v) ≤ 100 := by
  obtain ⟨a1, a2, a3⟩ := clausesI_size l v
  refine ⟨by omega, fun c hc => ?_, by omega⟩
  have h1 := a3 c hc
  have h2 := clausesI_lits (vars := v) (by omega) l c hc
  exact ⟨⟨by omega, fun x hx => by have := h2 x hx; exact ⟨by omega, by omega⟩⟩, fun x hx => by
    obtain ⟨q1, q2, q3⟩ := h2 x hx
    exact ⟨q1, isI_of q1 q2 q3 hv1, by omega, by omega⟩⟩
end Go.Proofs.YtdkckkhghghhdaaDoor

namespace Go.Proofs.YtdkckkhghghhdaaDoor
open Go.RowKit

theorem keep0S {h h' : AHeap} (hk : Keeps h h' fun _ => False) {s : Sl} {sz : Nat} {cs : List AVal} (hs : h.sliceCells sz s = some cs) : h'.sliceCells sz s = some cs := sliceCells_keep hk hs fun _ _ _ h => h
theorem takeU {b : List UInt8} {m : Nat} (h : m < b.length) : b.take (m + 1) = b.take m ++ [b.getD m 0] := by
  rw [List.take_succ_eq_append_getElem h, List.getD_eq_getElem?_getD, List.getElem?_eq_getElem h, Option.getD_some]
theorem readU8 {h : AHeap} {t : Sl} {a : List UInt8} (hs : h.sliceCells 1 t = some (bytesC a)) {k : Nat} (hk : k < a.length) : h.addr 1 t (k : Int) = some (t.at 1 (k : Int)) ∧ h.cell (t.at 1 (k : Int)) = some (.int .u8 ((a.getD k 0).toNat : Int)) := by
  have hl := sliceCells_len hs
  simp only [List.length_map, Nat.mul_one] at hl
  refine ⟨addr_at hs (by omega) (by omega), cell_at hs (by omega) ?_⟩
  rw [Int.toNat_natCast, List.getElem?_map, List.getElem?_eq_getElem hk, List.getD_eq_getElem?_getD, List.getElem?_eq_getElem hk]; rfl
theorem byr_loop (fuel d : Nat) {a : List UInt8} {t : Sl} (hn : a.length < 1000000000) (ht : t.len = a.length) {h0 : AHeap} (hs0 : h0.sliceCells 1 t = some (bytesC a)) : ∀ (n k : Nat) (s : Sl) (h : AHeap), a.length < n + k → k ≤ a.length → Sep0 h0 h [.grown 1 s (bytesC (a.take k))] →
    ∃ s' h', l_skolemref_Bytes_0 fuel d n [(0, .slice t), (3, .slice s), (4, .int .i64 (k : Int))] h = some (.exit 0, [(3, .slice s')], h') ∧ Sep0 h0 h' [.grown 1 s' (bytesC a)] := by
  intro n
  induction n with
  | zero => intro k s h h1 h2; omega
  | succ n ih =>
    intro k s h h1 h2 hg
    have hl := hg.len (i := 0) rfl
    simp only [List.length_map, List.length_take, Nat.mul_one] at hl
    rw [l_skolemref_Bytes_0_eq, ht]
    by_cases hk : k < a.length
    · have hr := readU8 (keep0S hg.ext hs0) hk
      rw [bif_pos (by omega), hr.1, Option.bind_some, hr.2]
      simp only [Option.bind_some, int_int]
      obtain ⟨s', h', e1, e2, e3⟩ := hg.grow (i := 0) (bytes := 1) (m := 1) (vs := [.int .u8 ((a.getD k 0).toNat : Int)]) rfl rfl (by omega) (by omega)
      rw [e1]
      simp only [Option.bind_some]
      rw [sucU (by omega)]
      refine ih (k + 1) s' h' (by omega) (by omega) ?_
      rw [takeU hk]
      simpa using e2
    · have : k = a.length := by omega
      subst this
      rw [bif_neg (by omega)]
      rw [List.take_length] at hg
      exact ⟨s, h, rfl, hg⟩
theorem byr_run (fuel d : Nat) {a : List UInt8} {t : Sl} {h : AHeap} (hs : h.sliceCells 1 t = some (bytesC a)) (hn : a.length < 1000000000) (hf : a.length < fuel) :
    ∃ s' h', run fuel (d + 1) F_skolemref_Bytes [.slice t] h = some (.slice s', h') ∧ New h h' (.grown 1 s' (bytesC a)) := by
  have ht : t.len = a.length := by have := sliceCells_len hs; simp at this; omega
  have s0 := (Sep0.start h).addMake 1 (eqI (0 : Int) ((a.length : Nat) : Int))
  obtain ⟨s', h', e1, e2⟩ := byr_loop fuel d hn ht hs fuel 0 _ _ (by omega) (by omega) s0
  refine ⟨s', h', ?_, e2.get (i := 0) rfl⟩
  rw [e_skolemref_Bytes, ht, cond_pos _ _ (by simp; omega)]
  rw [show ((0 : Nat) : Int) = 0 from rfl] at e1
  rw [e1]
  simp only [Option.bind_some, k_skolemref_Bytes_0_x0]
end Go.Proofs.YtdkckkhghghhdaaDoor

namespace Go.Proofs.YtdkckkhghghhdaaDoor
open Go.RowKit

/-- clauses ahead of something else -/
theorem clT_linesR (e v m : Int) (r : List UInt8) : ∀ (L : List (List Int)) (p : Nat) (f : Bool) (out : List (List Int)), ((out.length + L.length : Nat) : Int) ≤ m → (∀ c ∈ L, ∀ x ∈ c, LitOk v x) → ∃ q, clT e v m (wordsOf (linesT L ++ r) p f false) out [] = clT e v m (wordsOf r q (f || !L.isEmpty) false) (out ++ L) [] ∧ q = p + (linesT L).length
  | [], p, f, out, h, hl => ⟨p, by simp [linesT], by simp [linesT]⟩
  | c :: L, p, f, out, h, hl => by
    simp only [List.length_cons] at h
    obtain ⟨q, e1, hq⟩ := W_line c (linesT L ++ r) p f
    obtain ⟨z1, z2⟩ := zero_text (v := v)
    obtain ⟨q2, e2, hq2⟩ := clT_linesR e v m r L q true (out ++ [c]) (by simp; omega) fun d hd => hl d (List.mem_cons_of_mem _ hd)
    refine ⟨q2, ?_, by rw [hq2, hq, linesT_cons, List.length_append]; omega⟩
    rw [linesT_cons, List.append_assoc, e1, clT_nums e v m c _ _ _ _ _ (by omega) (hl c (List.mem_cons_self ..)), List.nil_append]
    simp only [clT, z1, z2]
    rw [if_neg (by simp; omega), if_pos trivial, e2]
    simp
theorem linesR_first (L : List (List Int)) (hL : L ≠ []) (r : List UInt8) (p : Nat) : begI (wordsOf (linesT L ++ r) p true false) = false := by
  cases L with
  | nil => exact absurd rfl hL
  | cons c L =>
    obtain ⟨q, e1, _⟩ := W_line c (linesT L ++ r) p true
    rw [linesT_cons, List.append_assoc, e1]
    cases c with
    | nil => rfl
    | cons x c =>
      obtain ⟨w1, w2, w3, w4, w5, _⟩ := decT_word x
      simp only [numWs, List.cons_append, begI, isBk]
      have h1 : (decT x == [97]) = false := beq_false_of_ne fun e => w4 (by rw [e]; rfl)
      have h2 : (decT x == [101]) = false := beq_false_of_ne fun e => w5 (by rw [e]; rfl)
      rw [h1, h2]; rfl
/-- a block behind clauses -/
theorem rdF_behind {v : Int} {L : List (List Int)} (hv : 1 ≤ v) (hv1 : v ≤ 4000) (hL : L.length ≤ 20000) (hl : ∀ c ∈ L, ∀ x ∈ c, LitOk v x) : ∃ bs l o, rdF (cnfTx v L ++ [101, 32, 49, 32, 48, 10]) = (if L = [] then v else 0, bs, l, o) ∧ (o = none ↔ L = []) := by
  by_cases h : L = []
  · subst h
    have e : cnfTx v [] ++ [101, 32, 49, 32, 48, 10] = formTx [(true, [1])] v [] := by
      unfold cnfTx formTx
      rw [show blksT [(true, [1])] = [101, 32, 49, 32, 48, 10] by decide]
      simp [linesT]
    have hb : badBs v [(true, [1])] [] 0 = none := by
      unfold badBs badVs badX
      rw [decide_eq_false (by omega), decide_eq_false (show ¬ v < 1 by omega)]
      rfl
    rw [e, rdF_text (by omega) hv1 (by simp) (fun c hc => by cases hc) hb]
    exact ⟨_, _, _, rfl, by simp⟩
  · obtain ⟨p, q, e⟩ := W_head v (L.length : Int) (linesT L ++ [101, 32, 49, 32, 48, 10])
    have he : cnfTx v L ++ [101, 32, 49, 32, 48, 10] = headTx v (L.length : Int) ++ (linesT L ++ [101, 32, 49, 32, 48, 10]) := by simp [cnfTx]
    unfold rdF
    rw [splitOf_words, he, e, headT_text (by omega) hv1 (by omega) (by omega)]
    simp only [List.drop_succ_cons, List.drop_zero]
    rw [blocksT_stop _ _ _ _ _ _ (linesR_first L h _ q)]
    simp only
    obtain ⟨q2, e2, _⟩ := clT_linesR (((headTx v (L.length : Int) ++ (linesT L ++ [101, 32, 49, 32, 48, 10])).length : Nat) : Int) v (L.length : Int) [101, 32, 49, 32, 48, 10] L q true [] (by simp) hl
    rw [e2]
    have e3 : wordsOf [101, 32, 49, 32, 48, 10] q2 (true || !L.isEmpty) false = ⟨[101], q2, true⟩ :: wordsOf [49, 32, 48, 10] (q2 + 2) false false := by
      rw [show ([101, 32, 49, 32, 48, 10] : List UInt8) = [101] ++ 32 :: [49, 32, 48, 10] from rfl, Bool.true_or, W_one (by simp) (by decide) (Stops.sp _) q2 (fun _ => by simp), W_sp]
      rfl
    rw [e3]
    simp only [List.nil_append, clT]
    rw [if_pos (.inl (Int.le_refl _))]
    rw [if_neg h]
    exact ⟨[], [], some (101, (q2 : Int)), rfl, by simp [h]⟩
theorem errO_nil (o : Option (Int × Int)) : nilTest .iface (errO o) = some o.isNone := by
  cases o with
  | none => rfl
  | some cp => obtain ⟨c, p⟩ := cp; rfl
theorem cellsAt_markB {h0 h : AHeap} {ids : List Nat} {L : List Chunk} (hs : Sep0 (h0.markRo ids) h L) {n : Nat} {r : Ref} {l : Nat} {cs : List AVal} (hc : h0.cellsAt n (.mk r l) = some cs) : h.cellsAt n (.mk r l) = some cs :=
  cellsAt_keep hs.ext (fun h => h) (by rw [cellsAt_mark]; exact hc)
theorem cellsAt_keepB {h0 h : AHeap} {L : List Chunk} (hs : Sep0 h0 h L) {n : Nat} {r : Ref} {l : Nat} {cs : List AVal} (hc : h0.cellsAt n (.mk r l) = some cs) : h.cellsAt n (.mk r l) = some cs :=
  cellsAt_keep hs.ext (fun h => h) hc
theorem part_of {h : AHeap} {n k i g o l : Nat} {cs : List AVal} (hc : h.cellsAt n (.mk ⟨i, g, 0⟩ l) = some cs) (ho : o + k ≤ n) : h.cellsAt k (.mk ⟨i, g, 0 + o⟩ l) = some ((cs.drop o).take k) := by
  simp only [AHeap.cellsAt, AHeap.span, AHeap.live, Bool.cond_eq_ite, nble] at hc ⊢
  split at hc
  · rename_i h1
    have h1' : 0 + n ≤ l := h1
    rw [if_pos (show 0 + o + k ≤ l by omega)]
    cases hr : h.rows[i]? with
    | none => rw [hr] at hc; cases hc
    | some row =>
      rw [hr] at hc
      simp only at hc ⊢
      split at hc
      · rename_i h2
        rw [if_pos h2]
        simp only [Option.bind_some] at hc ⊢
        split at hc
        · rename_i h3
          cases hc
          have h3' : 0 + n ≤ row.cells.length := h3
          rw [if_pos (show 0 + o + k ≤ row.cells.length by omega)]
          simp only [Nat.zero_add, List.drop_zero, Option.some.injEq]
          rw [List.drop_take, List.take_take, Nat.min_eq_left (by omega)]
        · cases hc
      · cases hc
  · cases hc
theorem cell_of {h : AHeap} {n i g o l : Nat} {cs : List AVal} {v : AVal} (hc : h.cellsAt n (.mk ⟨i, g, 0⟩ l) = some cs) (ho : o < n) (hv : cs[o]? = some v) : h.cell (.mk ⟨i, g, 0 + o⟩ l) = some v := by
  have h1 := part_of hc (k := 1) (o := o) (by omega)
  simp only [AHeap.cellsAt, AHeap.span, Bool.cond_eq_ite, nble] at h1
  split at h1
  · rename_i h2
    simp only [AHeap.cell, blt_eq]
    have h2' : 0 + o + 1 ≤ l := h2
    rw [decide_eq_true (show 0 + o < l by omega), cond_true]
    cases hr : h.live ⟨i, g, 0 + o⟩ with
    | none => rw [hr] at h1; cases h1
    | some row =>
      rw [hr] at h1
      simp only [Option.bind_some] at h1 ⊢
      split at h1
      · rename_i h3
        simp only [Option.some.injEq] at h1
        have h4 := congrArg (fun l => l[0]?) h1
        simp only [List.getElem?_take, List.getElem?_drop] at h4
        simpa [hv] using h4
      · cases h1
  · cases h1

/-- a formula of two blocks, as it is written -/
def twoC (z v : Int) (L : List (List Int)) : List AVal := [.slice (Sl.lst 2 true [(.bool true), (.slice (Sl.lst 1 true [(.int .i64 z)])), (.bool false), (.slice (Sl.lst 1 true [(.int .i64 z)]))]), .int .i64 v, .slice (lstLL L)]
theorem twoC_fr (h : AHeap) (z v : Int) (L : List (List Int)) : freezeV h 8 (.agg (twoC z v L)) = some (.agg (formulaC [(true, [z]), (false, [z])] v L)) := by
  have h1 : freezeV h 7 (.slice (Sl.lst 2 true [(.bool true), (.slice (Sl.lst 1 true [(.int .i64 z)])), (.bool false), (.slice (Sl.lst 1 true [(.int .i64 z)]))])) = some (.slice (lstBk [(true, [z]), (false, [z])])) :=
    freeze_open 6 2 true rfl (mm4 rfl (freeze_lst 5 1 true rfl) rfl (freeze_lst 5 1 true rfl))
  exact freeze_agg 7 (mm3 h1 rfl (freeze_lst _ _ _ (closedL_map closed_lstI L)))
theorem qdimacsPlain_run (F d : Nat) (hF : 2 ^ 21 ≤ F) (l : List Int) (v x2 : Int) (hx : -9223372036854775808 ≤ x2 ∧ x2 ≤ 9223372036854775807) (h : AHeap) : ∃ h', run F (d + 60) F_skolemlaw5_QdimacsPlain [.slice (lstI l), .int .i64 v, .int .i64 x2] h = some (.bool true, h') := by
  rw [e_skolemlaw5_QdimacsPlain, first5_run F (by omega) (by omega), len_lst]
  simp only [Option.bind_some, bool_bool, Bool.not_true, cond_false]
  by_cases hg : 60 < l.length ∨ v < 1 ∨ 20 < v
  · have hc : (bif (bif (decide ((60 : Int) < (l.length : Int))) then true else (decide (v < (1 : Int)))) then true else (decide ((20 : Int) < v))) = true := by
      rcases hg with hg | hg | hg
      · rw [decide_eq_true (show (60 : Int) < (l.length : Int) by omega)]; rfl
      · rw [decide_eq_true hg]; cases decide ((60 : Int) < (l.length : Int)) <;> rfl
      · rw [decide_eq_true hg]; cases decide ((60 : Int) < (l.length : Int)) <;> cases decide (v < (1 : Int)) <;> rfl
    rw [hc]
    exact ⟨h, rfl⟩
  have hc : (bif (bif (decide ((60 : Int) < (l.length : Int))) then true else (decide (v < (1 : Int)))) then true else (decide ((20 : Int) < v))) = false := by
    rw [decide_eq_false (show ¬ (60 : Int) < (l.length : Int) by omega), decide_eq_false (show ¬ v < (1 : Int) by omega), decide_eq_false (show ¬ (20 : Int) < v by omega)]; rfl
  have hn : Num64 v := ⟨by omega, by omega⟩
  obtain ⟨q1, q2, q3⟩ := clauses_ok l (v := v) (by omega) (by omega) (by omega)
  generalize hL : clausesI l v = L at q1 q2 q3
  have hln := linesT_len (L := L) (fun c hc => (q2 c hc).1) q3
  have hhl := headTx_len hn (show Num64 (L.length : Int) from ⟨by omega, by omega⟩)
  have hlen : (cnfTx v L).length ≤ 3000 := by
    unfold cnfTx
    rw [List.length_append]
    omega
  rw [hc, cond_false, CNF_run F (d + 55) (by omega) (by omega) (by omega), hL]
  simp only [Option.bind_some, agg_agg]
  rw [cond_pos _ _ (okC v L)]
  have s1 := (Sep0.start h).push 1 2 (cs := [(AVal.int .i64 (0 : Int)), (.slice Sl.nil)]) rfl
  obtain ⟨h5, e5, s5⟩ := s1.putAll (i := 0) (vs := cnfC v L) rfl rfl rfl
  rw [e5, Option.bind_some, s5.getAll (i := 0) rfl rfl, Option.bind_some, rB_run F (d + 52) (by omega) hn (by omega) (by omega) (fun c hc => (q2 c hc).1)]
  simp only [Option.bind_some, slice_slice]
  have hform : cnfTx v L = formTx [] v L := by simp [cnfTx, formTx, blksT]
  rw [fread_run F (d + 51) (by omega) (by omega), hform, rdF_text (by omega) (by omega) (by omega) (fun c hc => (q2 c hc).2) rfl]
  simp only [frA, errO, Option.bind_some, tup2, comp0, comp1, cond_true, agg_agg]
  rw [cond_pos _ _ (okQ [] v L)]
  have s6 := s5.push 1 3 (cs := zero3) rfl
  obtain ⟨h13, e13, s13⟩ := s6.putAll (i := 1) (vs := formulaC [] v L) rfl rfl rfl
  rw [e13, Option.bind_some]
  have hcells : h13.sliceCells 1 (lstU (formTx [] v L)) = some (bytesC (formTx [] v L)) := cells_lstM _ _ false
  obtain ⟨t1, h14, e14, n14⟩ := byr_run F (d + 58) (a := formTx [] v L) (t := lstU (formTx [] v L)) (h := h13) hcells (by rw [← hform]; omega) (by rw [← hform]; omega)
  rw [e14]
  simp only [Option.bind_some, slice_slice]
  have s14 := (Sep0.start h13).add n14
  obtain ⟨t2, h15, e15, s15⟩ := lit_append s14 [101, 32, 49, 32, 48, 10] (m := 6) rfl (by rw [← hform]; simp; omega)
  have e15' : AHeap.append h14 false 1 1 t1 (ByteArray.size (⟨#[101, 32, 49, 32, 48, 10]⟩ : ByteArray)) (bytesOf (⟨#[101, 32, 49, 32, 48, 10]⟩ : ByteArray)) = some (t2, h15) := e15
  rw [e15', Option.bind_some]
  obtain ⟨ids, e16⟩ := fread_any F (d + 51) (b := formTx [] v L ++ [101, 32, 49, 32, 48, 10]) (h := h15) (s := t2) (by rw [← hform]; simp; omega) (by rw [← hform]; simp; omega) (bytes_fr s15)
  obtain ⟨bs2, l2, o2, r1, r2⟩ := rdF_behind (v := v) (L := L) (by omega) (by omega) (by omega) (fun c hc => (q2 c hc).2)
  rw [e16, ← hform, r1]
  simp only [frA, Option.bind_some, tup2, comp0, comp1, cond_true, agg_agg]
  rw [cond_pos _ _ (okQ bs2 _ l2)]
  have s17 := (Sep0.start (h15.markRo ids)).push 1 3 (cs := zero3) rfl
  obtain ⟨h21, e21, s21⟩ := s17.putAll (i := 0) (vs := formulaC bs2 (if L = [] then v else 0) l2) rfl rfl rfl
  rw [e21, Option.bind_some]
  -- what is there still
  have k8 : h21.cellsAt 2 (.mk ⟨AHeap.next h, 0, 0⟩ 2) = some (cnfC v L) := cellsAt_markB s21 (cellsAt_keepB s15 (s13.getAll (i := 0) rfl rfl))
  have k10 : h21.cellsAt 3 (.mk ⟨AHeap.next h5, 0, 0⟩ 3) = some (formulaC [] v L) := cellsAt_markB s21 (cellsAt_keepB s15 (s13.getAll (i := 1) rfl rfl))
  -- the variable
  have hy : ∃ y : Int, 0 ≤ y ∧ y ≤ 9223372036854775807 ∧ ∀ (K : AExit × Fr × AHeap → Option (AVal × AHeap)), ((bif (decide (x2 < (0 : Int))) then (some (AExit.normal, [(1, (AVal.int .i64 v)), (2, (.int .i64 (IntKind.wrap .i64 (0 - (IntKind.wrap .i64 (x2 + (1 : Int))))))), (7, (.bool true)), (8, (.ptr (Pt.mk ⟨AHeap.next h, 0, 0⟩ 2))), (10, (.ptr (Pt.mk ⟨AHeap.next h5, 0, 0⟩ 3))), (11, AVal.nilif), (13, errO o2)], h21)) else (some (AExit.normal, [(1, (AVal.int .i64 v)), (2, (.int .i64 x2)), (7, (.bool true)), (8, (.ptr (Pt.mk ⟨AHeap.next h, 0, 0⟩ 2))), (10, (.ptr (Pt.mk ⟨AHeap.next h5, 0, 0⟩ 3))), (11, .nilif), (13, errO o2)], h21)))).bind K = K (AExit.normal, [(1, (AVal.int .i64 v)), (2, (.int .i64 y)), (7, (.bool true)), (8, (.ptr (Pt.mk ⟨AHeap.next h, 0, 0⟩ 2))), (10, (.ptr (Pt.mk ⟨AHeap.next h5, 0, 0⟩ 3))), (11, .nilif), (13, errO o2)], h21) := by
    by_cases h0 : x2 < 0
    · refine ⟨-(x2 + 1), by omega, by omega, fun K => ?_⟩
      rw [bif_pos h0, wrap64 (n := x2 + 1) (by omega) (by omega), wrap64 (n := 0 - (x2 + 1)) (by omega) (by omega), show 0 - (x2 + 1) = -(x2 + 1) by omega]
      rfl
    · exact ⟨x2, by omega, by omega, fun K => by rw [bif_neg h0]; rfl⟩
  obtain ⟨y, y0, y1, ey⟩ := hy
  have ey' := ey fun p => k_skolemlaw5_QdimacsPlain_0 F (d + 59) p.1 p.2.1 p.2.2
  rw [ey']
  simp only
  obtain ⟨m, rfl⟩ : ∃ m : Nat, v = (m : Int) := ⟨v.toNat, by omega⟩
  obtain ⟨u, rfl⟩ : ∃ u : Nat, y = (u : Int) := ⟨y.toNat, by omega⟩
  have hmod : Int.tmod (u : Int) (m : Int) = ((u % m : Nat) : Int) := tmodL u m
  have hlt : u % m < m := Nat.mod_lt _ (by omega)
  have hw : IntKind.wrap .i64 (Int.tmod (u : Int) (m : Int) + 1) = ((u % m + 1 : Nat) : Int) := by rw [hmod, wrap64 (by omega) (by omega)]; omega
  rw [k_skolemlaw5_QdimacsPlain_0_n, bif_neg (by omega), k8, Option.bind_some, hw]
  generalize hz : ((u % m + 1 : Nat) : Int) = z
  have hz1 : 1 ≤ z ∧ z ≤ (m : Int) := by omega
  have hlit : ((bif (Nat.beq (List.length (cnfC (m : Int) L)) 2 && Nat.ble (1 + 2) (List.length [(AVal.slice Sl.nil), (.int .i64 (0 : Int)), (.slice Sl.nil)]) && List.all (cnfC (m : Int) L) AVal.isCell) then ((bif (Nat.beq (List.length [(AVal.slice (Sl.lst 2 true [(.bool true), (.slice (Sl.lst 1 true [(.int .i64 z)])), (.bool false), (.slice (Sl.lst 1 true [(.int .i64 z)]))]))]) 1 && Nat.ble (0 + 1) (List.length (AHeap.overlay [(.slice Sl.nil), (.int .i64 (0 : Int)), (.slice Sl.nil)] 1 (cnfC (m : Int) L))) && List.all [(AVal.slice (Sl.lst 2 true [(.bool true), (.slice (Sl.lst 1 true [(.int .i64 z)])), (.bool false), (.slice (Sl.lst 1 true [(.int .i64 z)]))]))] AVal.isCell) then ((some (AHeap.overlay (AHeap.overlay [(.slice Sl.nil), (.int .i64 (0 : Int)), (.slice Sl.nil)] 1 (cnfC (m : Int) L)) 0 [(.slice (Sl.lst 2 true [(.bool true), (.slice (Sl.lst 1 true [(.int .i64 z)])), (.bool false), (.slice (Sl.lst 1 true [(.int .i64 z)]))]))]))) else (none))) else (none))) = some (twoC z (m : Int) L) := rfl
  rw [hlit, Option.bind_some]
  have s22 := (Sep0.start h21).push 1 3 (cs := zero3) rfl
  obtain ⟨h22, e22, s23⟩ := s22.putAll (i := 0) (vs := twoC z (m : Int) L) rfl rfl rfl
  rw [show (!false && Nat.beq (List.length (twoC z (m : Int) L)) 3 && List.all (twoC z (m : Int) L) AVal.isCell) = true from rfl, cond_true, e22, Option.bind_some]
  have j8 := cellsAt_keepB s23 k8
  have j10 := cellsAt_keepB s23 k10
  have c100 : h22.cell (.mk ⟨AHeap.next h5, 0, 0 + 0⟩ 3) = some (.slice (lstBk [])) := cell_of j10 (by omega) rfl
  have c101 : h22.cellsAt 2 (.mk ⟨AHeap.next h5, 0, 0 + 1⟩ 3) = some (cnfC (m : Int) L) := part_of j10 (by omega)
  have c81 : h22.cell (.mk ⟨AHeap.next h, 0, 0 + 1⟩ 2) = some (.slice (lstLL L)) := cell_of j8 (by omega) rfl
  simp only [cond_true, nilTest_nilif, Option.bind_some, field_mk, c100, slice_slice, c101, j8]
  rw [len_lst, bif_pos (by simp), sameCNF_run F (d + 56) (m : Int) (by omega) (by omega) (fun s hs => by have := (q2 s hs).1.1; omega)]
  simp only [Option.bind_some, bool_bool, cond_true, errO_nil, c81, slice_slice]
  rw [len_lst]
  have hnone : ((!o2.isNone) == decide ((0 : Int) < (L.length : Int))) = true := by
    by_cases hLn : L = []
    · rw [r2.2 hLn, hLn]; rfl
    · have : o2 ≠ none := fun e => hLn (r2.1 e)
      have h1 : o2.isNone = false := by cases o2 with
        | none => exact absurd rfl this
        | some _ => rfl
      have h2 := List.length_pos_iff.2 hLn
      rw [h1, decide_eq_true (show (0 : Int) < (L.length : Int) by omega)]; rfl
  rw [hnone, cond_true, s23.getAll (i := 0) rfl rfl, Option.bind_some]
  obtain ⟨ids2, e24⟩ := qck_any F (d + 53) (bs := [(true, [z]), (false, [z])]) (v := (m : Int)) (l := L) (by simp) (by simp; omega) (fun b hb => by
    simp only [List.mem_cons, List.not_mem_nil, or_false] at hb
    rcases hb with rfl | rfl <;> simp <;> omega) (by omega) (by omega) (by omega) (fun c hc => by have := (q2 c hc).1.1; omega) (twoC_fr h22 z (m : Int) L)
  have hck : checkF [(true, [z]), (false, [z])] (m : Int) L = atV 1 err_api_ErrRange := by
    unfold checkF
    rw [checkI_nil (by omega) (by omega) (by omega) (by omega) (fun c hc x hx => ((q2 c hc).2 x hx).2.1)]
    have hb : badBs (m : Int) [(true, [z]), (false, [z])] [] 0 = some 1 := by
      unfold badBs badVs badX
      rw [decide_eq_false (show ¬ z < 1 by omega), decide_eq_false (show ¬ (m : Int) < z by omega)]
      simp [badVs, badX, badBs]
    simp only [hb]
    rfl
  rw [e24, hck, Option.bind_some, Placed_run F (d + 58) (show (104 : Int) ≠ 0 by omega)]
  simp only [Option.bind_some, agg_agg]
  rw [same_true F (d + 55) (u := atV 1 err_api_ErrRange) (c := 104) (q := true) (x := 1) (IsFault.at (j := 3) (by omega) 1) (by omega)]
  simp only [Option.bind_some, bool_bool, k_skolemlaw5_QdimacsPlain_1_n]
  exact ⟨_, rfl⟩
end Go.Proofs.YtdkckkhghghhdaaDoor
