/-
  Parts of the proof of QdimacsChecks: Clauses as text: heads, lines; the program's and the reference's. qdimacs: a reader's block. qdimacs: a reader's blocks. qdimacs.Read. Clauses and formulas as text: the program's and the reference's. Clauses' text is read as they were. skolemref.SameInts. The document's small functions on numbers: skolemref.SameInts, Has, Ints. Literals. lits.Check. skolemmake.Near. skolemref1.CheckCNF; skolemmake.NearAll, Count. qdimacs.Check, skolemref1.CheckFormula. A formula's text is read as it was. skolemref1.ReadFormula. skolemref1.ReadFormula: all blocks, the whole. skolemref1.ReadFormula: the whole. Clauses held against clauses; what the readers tell. QdimacsReads. Bytes held against themselves. QdimacsChecks.
-/
import Derived.Test.YtdkckkhghghhdaaDoorTQdimacsChecks1
import Derived.Test.YtdkckkhghghhdaaDoorE
import Derived.Test.YtdkckkhghghhdaaDoorBm31
namespace Go.Proofs.YtdkckkhghghhdaaDoor
open Go.RowKit

/-- numbers that are written right -/
def Num64 (x : Int) : Prop := -9223372036854775808 ≤ x ∧ x ≤ 9223372036854775807
theorem Num64.app {x : Int} (h : Num64 x) (fuel d : Nat) (hf : 30 < fuel) : AppOk fuel (d + 5) x := app_ok fuel d hf h.1 h.2
def headTx (v n : Int) : List UInt8 := [112, 32, 99, 110, 102, 32] ++ decT v ++ [32] ++ decT n ++ [10]
theorem decT_len {x : Int} (h : Num64 x) : (decT x).length ≤ 20 := by
  obtain ⟨_, _, _, _, h2⟩ := h.app 31 0 (by omega) AHeap.none AHeap.none .nil [] (by simp) ((Sep0.start _).addNil 1)
  exact h2
theorem headTx_len {v n : Int} (hv : Num64 v) (hn : Num64 n) : (headTx v n).length ≤ 60 ∧ 8 ≤ (headTx v n).length := by
  have := decT_len hv
  have := decT_len hn
  simp only [headTx, List.length_append, List.length_cons, List.length_nil]
  omega
theorem tx_app (a b : List UInt8) : (tx a ++ tx b : ByteArray) = tx (a ++ b) := tx_append a b
theorem headB_run (fuel d : Nat) (hf : 30 < fuel) {v : Int} {l : List (List Int)} (hv : Num64 v) (hl : l.length < 1000000000) (h : AHeap) :
    ∃ s' h', run fuel (d + 6) F_dimacs_HeadBytes [.agg (cnfC v l)] h = some (.slice s', h') ∧ Sep0 h h' [.grown 1 s' (bytesC (headTx v (l.length : Int)))] := by
  have hn : Num64 (l.length : Int) := ⟨by omega, by omega⟩
  have l1 := decT_len hv
  have l2 := decT_len hn
  have hlen := headTx_len hv hn
  have s1 := (Sep0.start h).push 1 2 (cs := cnfC v l) rfl
  have c0 : (h.push 1 (cnfC v l)).cell (.mk ⟨h.next, 0, 0 + 0⟩ 2) = some (.int .i64 v) := s1.part (i := 0) rfl (by omega) rfl
  have c1 : (h.push 1 (cnfC v l)).cell (.mk ⟨h.next, 0, 0 + 1⟩ 2) = some (.slice (lstLL l)) := s1.part (i := 0) rfl (by omega) rfl
  rw [e_dimacs_HeadBytes, show List.all (cnfC v l) AVal.isCell = true from rfl, cond_true, show (cnfC v l).length = 2 from rfl]
  simp only [field_mk, Option.bind_some, c0, int_int]
  rw [itoa_run fuel d hf hv.1 hv.2]
  simp only [Option.bind_some, str_str]
  rw [show (⟨#[112, 32, 99, 110, 102, 32]⟩ : ByteArray) = tx [112, 32, 99, 110, 102, 32] from rfl, show (⟨#[32]⟩ : ByteArray) = tx [32] from rfl, show (⟨#[10]⟩ : ByteArray) = tx [10] from rfl, tx_app, tx_app]
  rw [cond_pos _ _ (by rw [tx_size, tx_size]; simp only [List.length_cons, List.length_nil]; exact nble.2 (by omega)), cond_pos _ _ (by rw [tx_size, tx_size]; simp only [List.length_append, List.length_cons, List.length_nil]; exact nble.2 (by omega))]
  simp only [c1, Option.bind_some, slice_slice, same_self, len_lst]
  rw [itoa_run fuel d hf hn.1 hn.2]
  simp only [Option.bind_some, str_str, tx_app]
  rw [cond_pos _ _ (by rw [tx_size, tx_size]; simp only [List.length_append, List.length_cons, List.length_nil]; exact nble.2 (by omega)), cond_pos _ _ (by rw [tx_size, tx_size]; simp only [List.length_append, List.length_cons, List.length_nil]; exact nble.2 (by omega))]
  rw [bytesOf_tx, tx_size]
  have s2 := (s1.push 1 (headTx v (l.length : Int)).length (cs := bytesC (headTx v (l.length : Int))) (by simp)).toGrown false (by omega)
  exact ⟨_, _, rfl, s2.sub (by exact List.Sublist.cons _ (List.Sublist.refl _))⟩

/-! the reference's -/
theorem rlits_loop (fuel d : Nat) {l : List Int} (hl : l.length < 1000000) (hok : ∀ x ∈ l, AppOk fuel d x) {h0 : AHeap} : ∀ (n k : Nat) (s : Sl) (t : List UInt8) (h : AHeap), l.length < n + k → k ≤ l.length → t.length + 30 * (l.length - k) < 800000000 → Sep0 h0 h [.grown 1 s (bytesC t)] →
    ∃ s' h', (l_skolemref1_lits_0 fuel d n [(0, .slice s), (1, .slice (lstI l)), (5, .int .i64 (k : Int))] h).bind (fun p => k_skolemref1_lits_0 fuel d p.1 p.2.1 p.2.2) = some (.slice s', h') ∧ Sep0 h0 h' [.grown 1 s' (bytesC (t ++ lineT (l.drop k)))] := by
  intro n
  induction n with
  | zero => intro k s t h h1 h2; omega
  | succ n ih =>
    intro k s t h h1 h2 ht hs
    rw [l_skolemref1_lits_0_eq, len_lst]
    by_cases hk : k < l.length
    · have hd : l.drop k = l.getD k 0 :: l.drop (k + 1) := by rw [List.drop_eq_getElem_cons hk]; simp [List.getD, hk]
      have hx := hok (l.getD k 0) (by simp [List.getD, hk])
      rw [bif_pos (by omega), addr_lstM _ (by omega) (by omega) 0, hd, Int.toNat_natCast]
      generalize l.getD k 0 = x at hx
      simp only [Option.bind_some, cell_fp, int_int]
      obtain ⟨s1, h1', e1, q1, q2⟩ := hx h0 h s t (by omega) hs
      rw [e1]
      simp only [Option.bind_some, slice_slice]
      rw [show [(AVal.int .u8 (32 : Int))] = bytesC [32] from rfl, lit_cells h1' [32] (n := 1) rfl, Option.bind_some, Sl.len]
      obtain ⟨s2, h2', e2, q3⟩ := lit_append (q1.junk (cs := bytesC [32])) [32] (m := 1) rfl (by simp; omega)
      rw [e2, Option.bind_some, sucU (by omega)]
      obtain ⟨s3, h3', e3, q4⟩ := ih (k + 1) s2 (t ++ decT x ++ [32]) h2' (by omega) (by omega) (by simp; omega) q3
      refine ⟨s3, h3', e3, ?_⟩
      have : t ++ decT x ++ [32] ++ lineT (l.drop (k + 1)) = t ++ lineT (x :: l.drop (k + 1)) := by simp [lineT, numsT]
      rw [← this]
      exact q4
    · have : k = l.length := by omega
      subst this
      rw [bif_neg (by omega), List.drop_length]
      simp only [Option.bind_some, k_skolemref1_lits_0_x0]
      rw [show [(AVal.int .u8 (48 : Int)), (AVal.int .u8 (10 : Int))] = bytesC [48, 10] from rfl, lit_cells h [48, 10] (n := 2) rfl, Option.bind_some, Sl.len]
      obtain ⟨s2, h2', e2, q3⟩ := lit_append (hs.junk (cs := bytesC [48, 10])) [48, 10] (m := 2) rfl (by simp; omega)
      rw [e2, Option.bind_some]
      exact ⟨s2, h2', rfl, q3⟩
theorem rlits_run (fuel d : Nat) {l : List Int} (hl : l.length < 1000000) (hf : l.length < fuel) (hok : ∀ x ∈ l, AppOk fuel d x) {h0 h : AHeap} {s : Sl} {t : List UInt8} (ht : t.length + 30 * l.length < 800000000) (hs : Sep0 h0 h [.grown 1 s (bytesC t)]) :
    ∃ s' h', run fuel (d + 1) F_skolemref1_lits [.slice s, .slice (lstI l)] h = some (.slice s', h') ∧ Sep0 h0 h' [.grown 1 s' (bytesC (t ++ lineT l))] := by
  obtain ⟨s', h', e1, q1⟩ := rlits_loop fuel d hl hok fuel 0 s t h (by omega) (by omega) (by omega) hs
  rw [List.drop_zero] at q1
  refine ⟨s', h', ?_, q1⟩
  rw [e_skolemref1_lits]
  exact e1
theorem rhd_run (fuel d : Nat) (hf : 30 < fuel) {v : Int} {l : List (List Int)} (hv : Num64 v) (hl : l.length < 1000000000) (h : AHeap) :
    ∃ s' h', run fuel (d + 6) F_skolemref1_head [.agg (cnfC v l)] h = some (.slice s', h') ∧ Sep0 h h' [.grown 1 s' (bytesC (headTx v (l.length : Int)))] := by
  have hn : Num64 (l.length : Int) := ⟨by omega, by omega⟩
  have l1 := decT_len hv
  have l2 := decT_len hn
  rw [e_skolemref1_head, show List.all (cnfC v l) AVal.isCell = true from rfl, cond_true, show (cnfC v l).length = 2 from rfl]
  have s1 := (Sep0.start h).push 1 2 (cs := cnfC v l) rfl
  have s2 := (s1.push 1 6 (cs := bytesC [112, 32, 99, 110, 102, 32]) rfl)
  have how : (AHeap.ownAt (AHeap.push (AHeap.push h 1 (cnfC v l)) 1 [(.int .u8 (112 : Int)), (.int .u8 (32 : Int)), (.int .u8 (99 : Int)), (.int .u8 (110 : Int)), (.int .u8 (102 : Int)), (.int .u8 (32 : Int))]) (AHeap.next (AHeap.push h 1 (cnfC v l)))) = true := by
    simp [AHeap.ownAt, AHeap.push, AHeap.next]
  have c0 : (AHeap.push (AHeap.push h 1 (cnfC v l)) 1 (bytesC [112, 32, 99, 110, 102, 32])).cell (.mk ⟨h.next, 0, 0 + 0⟩ 2) = some (.int .i64 v) := s2.part (i := 0) rfl (by omega) rfl
  rw [how, cond_true]
  have k1 : ∀ H : AHeap, Sep0 (h.push 1 (cnfC v l)) H [] → H.cell (.mk ⟨h.next, 0, 0 + 1⟩ 2) = some (.slice (lstLL l)) := fun H hs =>
    cell_keep hs.ext id (s1.part (i := 0) (o := 1) (l := 2) rfl (by omega) rfl)
  have s3 : Sep0 (h.push 1 (cnfC v l)) (AHeap.push (AHeap.push h 1 (cnfC v l)) 1 (bytesC [112, 32, 99, 110, 102, 32])) [.grown 1 (.mk ⟨AHeap.next (AHeap.push h 1 (cnfC v l)), 0, 0⟩ 6 true) (bytesC [112, 32, 99, 110, 102, 32])] :=
    ((Sep0.start (h.push 1 (cnfC v l))).push 1 6 (cs := bytesC [112, 32, 99, 110, 102, 32]) rfl).toGrown true (by omega)
  simp only [field_mk, Option.bind_some]
  rw [show [(AVal.int .u8 (112 : Int)), (.int .u8 (32 : Int)), (.int .u8 (99 : Int)), (.int .u8 (110 : Int)), (.int .u8 (102 : Int)), (.int .u8 (32 : Int))] = bytesC [112, 32, 99, 110, 102, 32] from rfl, c0]
  simp only [Option.bind_some, int_int]
  obtain ⟨a1, g1, e1, q1, _⟩ := hv.app fuel d hf _ _ _ _ (by simp) s3
  rw [e1]
  simp only [Option.bind_some, slice_slice]
  rw [show [(AVal.int .u8 (32 : Int))] = bytesC [32] from rfl, lit_cells g1 [32] (n := 1) rfl, Option.bind_some, Sl.len]
  have j1 := q1.junk (cs := bytesC [32])
  obtain ⟨a2, g2, e2, q2⟩ := lit_append j1 [32] (m := 1) rfl (by simp; omega)
  rw [e2]
  simp only [Option.bind_some, k1 g2 q2.tl, k1 g1 q1.tl, k1 _ j1.tl, slice_slice, same_self, len_lst]
  obtain ⟨a3, g3, e3, q3, _⟩ := hn.app fuel d hf _ _ _ _ (by simp; omega) q2
  rw [e3]
  simp only [Option.bind_some, slice_slice]
  rw [show [(AVal.int .u8 (10 : Int))] = bytesC [10] from rfl, lit_cells g3 [10] (n := 1) rfl, Option.bind_some, Sl.len]
  obtain ⟨a4, g4, e4, q4⟩ := lit_append (q3.junk (cs := bytesC [10])) [10] (m := 1) rfl (by simp; omega)
  rw [e4]
  exact ⟨a4, g4, rfl, ⟨q4.sep, s1.ext.trans q4.ext, fun c hc r hr => Nat.le_trans s1.ext.1 (q4.fresh c hc r hr)⟩⟩
end Go.Proofs.YtdkckkhghghhdaaDoor

namespace Go.Proofs.YtdkckkhghghhdaaDoor
open Go.RowKit

abbrev rdrC (W : List Wd) (k : Nat) (e vars : Int) (m : Nat) : List AVal := [.slice (lstW W), .int .i64 (k : Int), .int .i64 e, .int .i64 vars, .map (some m)]
abbrev zeroW : List AVal := [.str (⟨#[]⟩ : ByteArray), .int .i64 (0 : Int), .bool false]
theorem isCellW (w : Wd) : (!false && Nat.beq (List.length (wdC w)) 3 && List.all (wdC w) AVal.isCell) = true := rfl
theorem okErr (c : Int) : (bif (Nat.beq (List.length (AVal.cells err_api_ErrText)) 1 && Nat.ble (1 + 1) (List.length [(AVal.int .i64 c), .nilif]) && List.all (AVal.cells err_api_ErrText) AVal.isCell) then ((some (AHeap.overlay [(AVal.int .i64 c), .nilif] 1 (AVal.cells err_api_ErrText)))) else (none)) = some [.int .i64 c, err_api_ErrText] := rfl
theorem allErr (c : Int) : List.all [AVal.int .i64 c, err_api_ErrText] AVal.isCell = true := rfl
theorem lenErr (c : Int) : List.length [AVal.int .i64 c, err_api_ErrText] = 2 := rfl
theorem rdr_bad {h0 h : AHeap} {L : List Chunk} (hs : Sep0 h0 h L) (p : Int) : Sep0 h0 (h.push 1 [.int .i64 p, err_api_ErrText]) (.own 1 h.next 0 2 [.int .i64 p, err_api_ErrText] :: L) := (hs.push 1 2 rfl).cons

/-- what a block hands back -/
def BlkPost (W : List Wd) (e vars : Int) (R m : Nat) (L : List Chunk) (h0 : AHeap) : BkR → AVal → AHeap → Prop
  | .bad p, v, h' => ∃ r, v = .tup [.slice .nil, .iface T_p_api_At (.ptr (.mk ⟨r, 0, 0⟩ 2))] ∧ Sep0 h0 h' (.own 1 r 0 2 [.int .i64 p, err_api_ErrText] :: L)
  | .ok l seen ws, v, h' => ∃ s' k', v = .tup [.slice s', .nilif] ∧ Sep0 h0 h' (.own 1 R 0 5 (rdrC W k' e vars m) :: .mp h0.maps.length m (seenM seen) :: .grown 1 s' (intsC l) :: L) ∧ ws = W.drop k' ∧ k' ≤ W.length
theorem blk_loop (fuel d : Nat) {W : List Wd} {e vars : Int} {R m : Nat} {L : List Chunk} {h0 : AHeap} (hf : 20 < fuel) (hW : W.length < 70000) : ∀ (n k : Nat) (acc seen : List Int) (s : Sl) (h : AHeap), W.length < n + k → k ≤ W.length → acc.length ≤ k →
    Sep0 h0 h (.own 1 R 0 5 (rdrC W k e vars m) :: .mp h0.maps.length m (seenM seen) :: .grown 1 s (intsC acc) :: L) →
    ∃ v h', (l_qdimacs_reader_block_0 fuel (d + 3) n [(0, .ptr (.mk ⟨R, 0, 0⟩ 5)), (4, .slice s)] h).bind (fun p => k_qdimacs_reader_block_0 fuel (d + 3) p.1 p.2.1 p.2.2) = some (v, h') ∧ BlkPost W e vars R m L h0 (blockT e vars (W.drop k) seen acc) v h' := by
  intro n
  induction n with
  | zero => intro k acc seen s h h1 h2; omega
  | succ n ih =>
    intro k acc seen s h h1 h2 h3 hs
    have hl := hs.len (i := 2) rfl
    simp only [List.length_map, Nat.mul_one] at hl
    rw [l_qdimacs_reader_block_0_eq]
    have c0 : h.cell (.mk ⟨R, 0, 0 + 0⟩ 5) = some (.slice (lstW W)) := hs.part (i := 0) rfl (by omega) rfl
    have c1 : h.cell (.mk ⟨R, 0, 0 + 1⟩ 5) = some (.int .i64 (k : Int)) := hs.part (i := 0) rfl (by omega) rfl
    have sj := hs.junk (cs := zeroW)
    have d0 : (h.push 1 zeroW).cell (.mk ⟨R, 0, 0 + 0⟩ 5) = some (.slice (lstW W)) := sj.part (i := 0) rfl (by omega) rfl
    have d1 : (h.push 1 zeroW).cell (.mk ⟨R, 0, 0 + 1⟩ 5) = some (.int .i64 (k : Int)) := sj.part (i := 0) rfl (by omega) rfl
    simp only [chk_mk, field_mk, Option.bind_some, c0, c1, int_int, slice_slice, len_lst]
    by_cases hk : k < W.length
    · have hd : W.drop k = W.getD k ⟨[], 0, false⟩ :: W.drop (k + 1) := by rw [List.drop_eq_getElem_cons hk]; simp [List.getD, hk]
      have hk' : (k : Int) < (W.length : Int) := by omega
      simp only [hk', decide_true, cond_true, hd]
      have a1 : ∀ h : AHeap, h.addr 3 (lstW W) (k : Int) = some (.fp 0 (wdC (W.getD k ⟨[], 0, false⟩))) := fun h => addr_lstN (sz := 3) (f := wdC) wdC_len (l := W) (j := (k : Int)) (by omega) (by omega) ⟨[], 0, false⟩ false
      simp only [a1, Option.bind_some]
      generalize W.getD k ⟨[], 0, false⟩ = w
      simp only [cellsAt_fp (wdC_len w), d0, d1, Option.bind_some, int_int, slice_slice, same_self, a1]
      obtain ⟨h3', e1, s3, w0, w1, w2⟩ := copyW hs w
      rw [cond_pos _ _ (isCellW w), e1]
      simp only [Option.bind_some, field_mk, w0, w1, str_str]
      rw [wNum_run fuel d hf]
      simp only [Option.bind_some, tup2, cond_true, comp0, comp1, int_int, bool_bool]
      have g1 : h3'.cell (.mk ⟨R, 0, 0 + 1⟩ 5) = some (.int .i64 (k : Int)) := s3.part (i := 0) rfl (by omega) rfl
      have g3 : h3'.cell (.mk ⟨R, 0, 0 + 3⟩ 5) = some (.int .i64 vars) := s3.part (i := 0) rfl (by omega) rfl
      have g4 : h3'.cell (.mk ⟨R, 0, 0 + 4⟩ 5) = some (.map (some m)) := s3.part (i := 0) rfl (by omega) rfl
      have gm : h3'.maps[m]? = some (seenM seen) := s3.getMap (i := 1) rfl
      unfold blockT
      by_cases hz : okNum w.text = true ∧ numW w.text = 0
      · rw [if_pos hz, hz.1, hz.2]
        obtain ⟨h4, e4, s4⟩ := s3.put (i := 0) (o := 1) (l := 5) (vs := [.int .i64 ((k + 1 : Nat) : Int)]) rfl (by simp) (by simp)
        simp only [decide_true, cond_true, chk_mk, field_mk, Option.bind_some, g1, int_int, sucU (show k < 9000000000000000000 by omega)]
        rw [Nat.zero_add, e4, Option.bind_some]
        simp only [k_qdimacs_reader_block_0_r, Option.bind_some]
        exact ⟨_, h4, rfl, s, k + 1, rfl, s4, rfl, by omega⟩
      · have hz' : (bif okNum w.text then decide (numW w.text = 0) else false) = false := by
          cases h8 : okNum w.text with
          | false => rfl
          | true => rw [cond_true]; exact decide_eq_false fun h9 => hz ⟨h8, h9⟩
        rw [if_neg hz, hz', cond_false]
        simp only [chk_mk, field_mk, Option.bind_some, g3, int_int]
        have hcond : ((bif ((bif (!okNum w.text) then true else (decide (numW w.text < (1 : Int)))) == false) then (some ((AVal.bool (decide (vars < numW w.text))), h3')) else (some ((.bool true), h3')) : Option (AVal × AHeap))) = some (.bool (!okNum w.text || decide (numW w.text < 1) || (okNum w.text && !decide (numW w.text < 1) && decide (vars < numW w.text))), h3') := by
          cases okNum w.text <;> cases decide (numW w.text < 1) <;> cases decide (vars < numW w.text) <;> rfl
        rw [hcond]
        simp only [chk_mk, field_mk, Option.bind_some, bool_bool, g4, map_map, mapOf_some, gm, mfind_seen, mgot_seen]
        have hcond2 : ∀ b : Bool, ((bif b == false then (some (AVal.bool (seen.contains (numW w.text)), h3')) else (some ((.bool true), h3')) : Option (AVal × AHeap))) = some (.bool (b || seen.contains (numW w.text)), h3') := fun b => by cases b <;> rfl
        rw [hcond2]
        simp only [Option.bind_some, bool_bool]
        have hb : (!okNum w.text || decide (numW w.text < 1) || (okNum w.text && !decide (numW w.text < 1) && decide (vars < numW w.text)) || seen.contains (numW w.text)) = badV w.text vars seen := by
          unfold badV
          cases okNum w.text <;> cases decide (numW w.text < 1) <;> cases decide (vars < numW w.text) <;> cases seen.contains (numW w.text) <;> rfl
        rw [hb]
        cases hbad : badV w.text vars seen with
        | true =>
          simp only [cond_true, if_true, field_mk, Option.bind_some, w1, int_int, okErr]
          simp only [allErr, lenErr, cond_true, k_qdimacs_reader_block_0_r, Option.bind_some]
          exact ⟨_, _, rfl, _, rfl, rdr_bad (s3.sub (((List.Sublist.refl L).cons _ |>.cons _ |>.cons _))) _⟩
        | false =>
          have hcon : seen.contains (numW w.text) = false := by
            unfold badV at hbad
            simp only [Bool.or_eq_false_iff] at hbad
            exact hbad.2
          simp only [cond_false, Bool.false_eq_true, if_false, chk_mk, field_mk, g4, map_map, gm, mset_seen _ _ hcon, Option.bind_some]
          have s4 := s3.setMap (i := 1) rfl (seenM (seen ++ [numW w.text]))
          obtain ⟨s', h5, e5, s5, l5⟩ := s4.grow (i := 2) (bytes := 8) (m := 1) (vs := [.int .i64 (numW w.text)]) rfl rfl (by omega) (by omega)
          rw [e5]
          have j1 : h5.cell (.mk ⟨R, 0, 0 + 1⟩ 5) = some (.int .i64 (k : Int)) := s5.part (i := 0) rfl (by omega) rfl
          obtain ⟨h6, e6, s6⟩ := s5.put (i := 0) (o := 1) (l := 5) (vs := [.int .i64 ((k + 1 : Nat) : Int)]) rfl (by simp) (by simp)
          simp only [Option.bind_some, j1, int_int, sucU (show k < 9000000000000000000 by omega)]
          rw [Nat.zero_add, e6, Option.bind_some]
          refine ih (k + 1) (acc ++ [numW w.text]) (seen ++ [numW w.text]) s' h6 (by omega) (by omega) (by simp; omega) ?_
          rw [intsC_app]
          exact s6
    · have : k = W.length := by omega
      subst this
      have hk' : ¬ (W.length : Int) < (W.length : Int) := by omega
      simp only [hk', decide_false, cond_false, List.drop_length]
      have c2 : h.cell (.mk ⟨R, 0, 0 + 2⟩ 5) = some (.int .i64 e) := hs.part (i := 0) rfl (by omega) rfl
      simp only [Option.bind_some, k_qdimacs_reader_block_0_x0, chk_mk, field_mk, c2, int_int, okErr, allErr, lenErr, cond_true]
      exact ⟨_, _, rfl, _, rfl, rdr_bad (hs.sub (((List.Sublist.refl L).cons _ |>.cons _ |>.cons _))) _⟩
end Go.Proofs.YtdkckkhghghhdaaDoor

namespace Go.Proofs.YtdkckkhghghhdaaDoor
open Go.RowKit

theorem tx_is (t u : List UInt8) : decide (tx t = tx u) = (t == u) := by
  have := txt_ne t u
  cases h1 : decide (tx t = tx u) <;> cases h2 : (t == u) <;> simp_all
theorem tx_e (t : List UInt8) : decide (tx t = (⟨#[101]⟩ : ByteArray)) = (t == [101]) := tx_is t [101]
theorem tx_a (t : List UInt8) : decide (tx t = (⟨#[97]⟩ : ByteArray)) = (t == [97]) := tx_is t [97]
theorem block_run (fuel d : Nat) {W : List Wd} {e vars : Int} {R m k : Nat} {L : List Chunk} {h0 h : AHeap} (hf : 20 < fuel) (hW : W.length < 70000) (hWf : W.length < fuel) (hk : k ≤ W.length) {seen : List Int}
    (hs : Sep0 h0 h (.own 1 R 0 5 (rdrC W k e vars m) :: .mp h0.maps.length m (seenM seen) :: L)) :
    ∃ v h', run fuel (d + 4) F_qdimacs_reader_block [.ptr (.mk ⟨R, 0, 0⟩ 5)] h = some (v, h') ∧ BlkPost W e vars R m L h0 (blockT e vars (W.drop k) seen []) v h' := by
  rw [e_qdimacs_reader_block]
  exact blk_loop fuel d hf hW fuel k [] seen .nil h (by omega) hk (by simp) (hs.nil2 1)
def begE : List Wd → Bool
  | [] => false
  | w :: _ => w.first && w.text == [101]
def begI : List Wd → Bool
  | [] => false
  | w :: _ => isBk w
theorem begins_run (fuel d : Nat) {W : List Wd} {e vars : Int} {R m k : Nat} {L : List Chunk} {h0 h : AHeap} (hk : k ≤ W.length) (hs : Sep0 h0 h (.own 1 R 0 5 (rdrC W k e vars m) :: L)) :
    run fuel (d + 1) F_qdimacs_reader_begins [.ptr (.mk ⟨R, 0, 0⟩ 5)] h = some (.tup [.bool (begE (W.drop k)), .bool (begI (W.drop k))], h) := by
  have c0 : h.cell (.mk ⟨R, 0, 0 + 0⟩ 5) = some (.slice (lstW W)) := hs.part (i := 0) rfl (by omega) rfl
  have c1 : h.cell (.mk ⟨R, 0, 0 + 1⟩ 5) = some (.int .i64 (k : Int)) := hs.part (i := 0) rfl (by omega) rfl
  rw [e_qdimacs_reader_begins]
  simp only [chk_mk, field_mk, Option.bind_some, c0, c1, int_int, slice_slice, len_lst]
  by_cases hlt : k < W.length
  · have hd : W.drop k = W.getD k ⟨[], 0, false⟩ :: W.drop (k + 1) := by rw [List.drop_eq_getElem_cons hlt]; simp [List.getD, hlt]
    have hn : ¬ ((W.length : Nat) : Int) ≤ (k : Int) := by omega
    have a1 : h.addr 3 (lstW W) (k : Int) = some (.fp 0 (wdC (W.getD k ⟨[], 0, false⟩))) := addr_lstN (sz := 3) (f := wdC) wdC_len (l := W) (j := (k : Int)) (by omega) (by omega) ⟨[], 0, false⟩ false
    simp only [hn, decide_false, cond_false, a1, Option.bind_some, hd]
    generalize W.getD k ⟨[], 0, false⟩ = w at a1
    simp only [wdC, field_fp, List.drop_succ_cons, List.drop_zero, Option.bind_some, cell_fp, bool_bool, k_qdimacs_reader_begins_0_n, chk_mk, field_mk, c0, c1, int_int, slice_slice, str_str]
    simp only [a1, Option.bind_some, wdC, field_fp, List.drop_zero, cell_fp, str_str, tx_e, tx_a]
    show _ = some (AVal.tup [.bool (w.first && w.text == [101]), .bool (w.first && (w.text == [97] || w.text == [101]))], h)
    cases w.first <;> cases w.text == [97] <;> cases w.text == [101] <;> rfl
  · have hn : ((W.length : Nat) : Int) ≤ (k : Int) := by omega
    have : k = W.length := by omega
    subst this
    simp only [hn, decide_true, cond_true, Option.bind_some, k_qdimacs_reader_begins_0_n, List.drop_length]
    rfl

/-- what all blocks hand back -/
def BsPost (W : List Wd) (e vars : Int) (R m : Nat) (L : List Chunk) (h0 : AHeap) : BsR → AVal → AHeap → Prop
  | .bad p, v, h' => ∃ r, v = .tup [.slice .nil, .iface T_p_api_At (.ptr (.mk ⟨r, 0, 0⟩ 2))] ∧ Sep0 h0 h' (.own 1 r 0 2 [.int .i64 p, err_api_ErrText] :: L)
  | .ok l ws, v, h' => ∃ s' k' seen, v = .tup [.slice s', .nilif] ∧ Sep0 h0 h' (.own 1 R 0 5 (rdrC W k' e vars m) :: .mp h0.maps.length m (seenM seen) :: .grown 2 s' (blksC l) :: L) ∧ ws = W.drop k' ∧ k' ≤ W.length
theorem blks_loop (fuel d : Nat) {W : List Wd} {e vars : Int} {R m : Nat} {L : List Chunk} {h0 : AHeap} (hf : 20 < fuel) (hW : W.length < 70000) (hWf : W.length < fuel) : ∀ (n N k : Nat) (bs : List Blk) (seen : List Int) (o : Sl) (h : AHeap), W.length < n + k → W.length < N + k → k ≤ W.length → bs.length ≤ k →
    Sep0 h0 h (.own 1 R 0 5 (rdrC W k e vars m) :: .mp h0.maps.length m (seenM seen) :: .grown 2 o (blksC bs) :: L) →
    ∃ v h', (l_qdimacs_reader_blocks_0 fuel (d + 4) n [(0, .ptr (.mk ⟨R, 0, 0⟩ 5)), (4, .slice o), (5, .bool (begE (W.drop k))), (6, .bool (begI (W.drop k)))] h).bind (fun p => k_qdimacs_reader_blocks_0 fuel (d + 4) p.1 p.2.1 p.2.2) = some (v, h') ∧ BsPost W e vars R m L h0 (blocksT e vars N (W.drop k) seen bs) v h' := by
  intro n
  induction n with
  | zero => intro N k bs seen o h h1 h1' h2; omega
  | succ n ih =>
    intro N k bs seen o h h1 h1' h2 h3 hs
    have hl := hs.len (i := 2) rfl
    rw [flatMap_len blkC_len] at hl
    rw [l_qdimacs_reader_blocks_0_eq]
    by_cases hlt : k < W.length
    · have hd : W.drop k = W.getD k ⟨[], 0, false⟩ :: W.drop (k + 1) := by rw [List.drop_eq_getElem_cons hlt]; simp [List.getD, hlt]
      rw [hd]
      generalize W.getD k ⟨[], 0, false⟩ = w at hd ⊢
      obtain ⟨N, rfl⟩ : ∃ M, N = M + 1 := ⟨N - 1, by omega⟩
      simp only [blocksT, begI, begE]
      cases hb : isBk w with
      | true =>
        have c1 : h.cell (.mk ⟨R, 0, 0 + 1⟩ 5) = some (.int .i64 (k : Int)) := hs.part (i := 0) rfl (by omega) rfl
        obtain ⟨h4, e4, s4⟩ := hs.put (i := 0) (o := 1) (l := 5) (vs := [.int .i64 ((k + 1 : Nat) : Int)]) rfl (by simp) (by simp)
        simp only [cond_true, if_true, chk_mk, field_mk, Option.bind_some, c1, int_int, sucU (show k < 9000000000000000000 by omega)]
        rw [Nat.zero_add, e4, Option.bind_some]
        obtain ⟨v, h5, e5, q5⟩ := block_run fuel d (k := k + 1) (e := e) (vars := vars) hf hW hWf (by omega) (seen := seen) (L := .grown 2 o (blksC bs) :: L) s4
        rw [e5, Option.bind_some]
        cases hbl : blockT e vars (W.drop (k + 1)) seen [] with
        | bad p =>
          rw [hbl] at q5
          obtain ⟨r, rfl, s5⟩ := q5
          simp only [tup2, comp0, comp1, cond_true, Option.bind_some, slice_slice, nilTest_if, Bool.not_false, k_qdimacs_reader_blocks_0_r]
          exact ⟨_, _, rfl, r, rfl, s5.sub (((List.Sublist.refl L).cons _).cons_cons _)⟩
        | ok l seen' ws =>
          rw [hbl] at q5
          obtain ⟨s', k', rfl, s5, rfl, hk'⟩ := q5
          have hlen := blockT_len e vars _ _ _ _ _ _ hbl
          simp only [List.length_drop] at hlen
          have hl1 := s5.len (i := 2) rfl
          have hl2 := s5.len (i := 3) rfl
          simp only [List.length_map, Nat.mul_one] at hl1
          obtain ⟨h6, e6, s6⟩ := s5.fix (i := 2) rfl (closedL_map (fun _ => rfl) l) 1
          have hfx : h5.fixL [.bool (w.first && w.text == [101]), .slice s'] = ([.bool (w.first && w.text == [101]), .slice (lstI l)], h6) := by
            rw [fixL_cons]
            have e0 : h5.fixV (.bool (w.first && w.text == [101])) = (.bool (w.first && w.text == [101]), h5) := rfl
            rw [e0, fixL_one, e6, ← hl1]
          simp only [tup2, comp0, comp1, cond_true, Option.bind_some, slice_slice, bool_bool, nilTest_nilif, Bool.not_true, cond_false]
          obtain ⟨o', h7, e7, s7, l7⟩ := s6.grow (i := 3) (bytes := 32) (m := 1) (vs := blkC (w.first && w.text == [101], l)) rfl rfl (by omega) (by omega)
          rw [hfx, show [AVal.bool (w.first && w.text == [101]), .slice (lstI l)] = blkC (w.first && w.text == [101], l) from rfl, e7, Option.bind_some]
          have s8 := s7.sub (L' := [.own 1 R 0 5 (rdrC W k' e vars m), .mp h0.maps.length m (seenM seen'), .grown 2 o' (blksC bs ++ blkC (w.first && w.text == [101], l))] ++ L) (by
            exact (((List.Sublist.refl _).cons _).cons_cons _).cons_cons _)
          rw [begins_run fuel (d + 3) hk' s8]
          simp only [tup2, comp0, comp1, cond_true, Option.bind_some, bool_bool]
          have hwf : (w.first && w.text == [101]) = (w.text == [101]) := by
            unfold isBk at hb
            cases hfst : w.first with
            | true => rfl
            | false => rw [hfst] at hb; cases hb
          rw [← hwf]
          refine ih N k' (bs ++ [(w.first && w.text == [101], l)]) seen' o' h7 (by omega) (by omega) hk' (by simp; omega) ?_
          rw [blksC_app]
          simpa [blksC] using s8
      | false =>
        simp only [cond_false, Bool.false_eq_true, if_false, Option.bind_some, k_qdimacs_reader_blocks_0_x0]
        exact ⟨_, _, rfl, o, k, seen, rfl, hs, by rw [hd], h2⟩
    · have : k = W.length := by omega
      subst this
      obtain ⟨N, rfl⟩ : ∃ M, N = M + 1 := ⟨N - 1, by omega⟩
      simp only [List.drop_length, begI, blocksT, cond_false, Option.bind_some, k_qdimacs_reader_blocks_0_x0]
      exact ⟨_, _, rfl, o, W.length, seen, rfl, hs, by rw [List.drop_length], h2⟩
theorem blocks_run (fuel d : Nat) {W : List Wd} {e vars : Int} {R m k : Nat} {L : List Chunk} {h0 h : AHeap} (hf : 20 < fuel) (hW : W.length < 70000) (hWf : W.length < fuel) (hk : k ≤ W.length)
    (hs : Sep0 h0 h (.own 1 R 0 5 (rdrC W k e vars m) :: .mp h0.maps.length m [] :: L)) (N : Nat) (hN : W.length < N + k) :
    ∃ v h', run fuel (d + 5) F_qdimacs_reader_blocks [.ptr (.mk ⟨R, 0, 0⟩ 5)] h = some (v, h') ∧ BsPost W e vars R m L h0 (blocksT e vars N (W.drop k) [] []) v h' := by
  rw [e_qdimacs_reader_blocks, begins_run fuel (d + 3) hk hs]
  simp only [tup2, comp0, comp1, cond_true, Option.bind_some, bool_bool]
  exact blks_loop fuel d hf hW hWf fuel N k [] [] .nil h (by omega) hN hk (by simp) (hs.nil2 2)
end Go.Proofs.YtdkckkhghghhdaaDoor

namespace Go.Proofs.YtdkckkhghghhdaaDoor
open Go.RowKit

/-- variables, blocks, clauses, what is amiss -/
abbrev FR := Int × List Blk × List (List Int) × Option (Int × Int)
def rdF (b : List UInt8) : FR := match headT (b.length : Int) (splitOf b true) with
  | .bad c p => (0, [], [], some (c, p))
  | .ok v m => match blocksT (b.length : Int) v ((splitOf b true).length + 1) ((splitOf b true).drop 4) [] [] with
    | .bad p => (0, [], [], some (101, p))
    | .ok bs ws => match clT (b.length : Int) v m ws [] [] with
      | .bad p => (0, [], [], some (101, p))
      | .ok l => (v, bs, l, none)
def formulaC (bs : List Blk) (v : Int) (l : List (List Int)) : List AVal := [.slice (lstBk bs), .int .i64 v, .slice (lstLL l)]
def frA (r : FR) : AVal := .tup [.agg (formulaC r.2.1 r.1 r.2.2.1), errO r.2.2.2]
theorem canon_form (bs : List Blk) (v : Int) (l : List (List Int)) : canonV 8 (.agg (formulaC bs v l)) = some (.agg (formulaC bs v l)) := by
  unfold formulaC
  rw [canon_agg, canonM_cons (u := .slice (lstBk bs)) (canon_lst (closedL_flatMap closed_blkC bs)) (canonM_cons (u := .int .i64 v) rfl (canonM_cons (u := .slice (lstLL l)) (canon_lstLL _ _) (canonM_nil _)))]
  rfl
theorem all_len {α : Type} {l : List α} {z : List α} {n : Nat} (hl : l.length = n) (hz : z.length = n) : l.take 0 ++ z ++ l.drop (0 + z.length) = z := by
  rw [List.take_zero, List.nil_append, List.drop_eq_nil_of_le (by omega), List.append_nil]
/-- a whole object written -/
theorem Sep0.putAll {h0 h : AHeap} {L : List Chunk} (hs : Sep0 h0 h L) {i id n : Nat} {cs vs : List AVal} (hi : L[i]? = some (.own 1 id 0 n cs)) (hc : cs.length = n) (hv : vs.length = n) :
    ∃ h', h.storeAt vs (.mk ⟨id, 0, 0⟩ n) = some h' ∧ Sep0 h0 h' (L.set i (.own 1 id 0 n vs)) := by
  obtain ⟨h', e1, s1⟩ := hs.put (o := 0) (l := n) (vs := vs) hi (by omega) (by omega)
  rw [all_len hc hv] at s1
  exact ⟨h', e1, s1⟩
theorem Sep0.getAll {h0 h : AHeap} {L : List Chunk} (hs : Sep0 h0 h L) {i id n : Nat} {cs : List AVal} (hi : L[i]? = some (.own 1 id 0 n cs)) (hc : cs.length = n) : h.cellsAt n (.mk ⟨id, 0, 0⟩ n) = some cs := by
  have := (hs.sep.own hi).parts (o := 0) (k := n) (l := n) (by omega) (by omega)
  rw [List.drop_zero, List.take_of_length_le (by omega)] at this
  exact this
abbrev zero3 : List AVal := [(AVal.slice Sl.nil), (.int .i64 (0 : Int)), (.slice Sl.nil)]
theorem fread_body (fuel d : Nat) {b : List UInt8} (hf : b.length + 40 ≤ fuel) (hb : b.length < 60000) : ∃ v h', brun fuel (d + 8) F_qdimacs_Read [.slice (lstU b)] AHeap.none = some (v, h') ∧ freezeV h' 8 v = some (frA (rdF b)) := by
  have hl := splitLen b
  have s0 := (Sep0.start AHeap.none).push 1 3 (cs := zero3) rfl
  have fr0 : ∀ (h' : AHeap) (u : AVal) (o : Option (Int × Int)), freezeV h' 7 u = some (errO o) → freezeV h' 8 (.tup [.agg zero3, u]) = some (frA (0, [], [], o)) := fun h' u o hu => freeze_tup2 _ (freeze_agg 6 (mm3 rfl rfl rfl)) hu
  rw [e_qdimacs_Read, len_lst, bif_neg (by omega), split_run fuel (d + 4) (by omega) (by omega), Option.bind_some, slice_slice, Option.bind_some, head_run fuel d (by omega)]
  generalize AHeap.push AHeap.none 1 zero3 = H at s0
  unfold rdF
  cases hh : headT (b.length : Int) (splitOf b true) with
  | bad c p =>
    obtain ⟨h', e1, s1⟩ := s0.putAll (i := 0) (vs := zero3) rfl rfl rfl
    simp only [hdA, Option.bind_some, tup4, cond_true, comp0, comp1, comp2, comp3, int_int, atV_no, Bool.not_false]
    rw [e1, Option.bind_some, s1.getAll (i := 0) rfl rfl]
    refine ⟨_, h', rfl, fr0 h' _ (some (c, p)) ?_⟩
    rcases headT_code hh with rfl | rfl <;> rfl
  | ok v m =>
    have h4 := headT_ok4 hh
    have sm := s0.addMap
    have sr := (sm.push 1 5 (cs := rdrC (splitOf b true) 4 (b.length : Int) v H.maps.length) rfl)
    have sp : Sep0 AHeap.none _ (.own 1 (AHeap.next (AHeap.newMap H)) 0 5 (rdrC (splitOf b true) 4 (b.length : Int) v H.maps.length) :: .mp AHeap.none.maps.length H.maps.length [] :: [.own 1 (AHeap.next AHeap.none) 0 3 zero3]) := sr.perm (List.reverse_perm [_, _, _]).symm
    simp only [hdA, Option.bind_some, tup4, cond_true, comp0, comp1, comp2, comp3, int_int, nilTest_nilif, Bool.not_true, cond_false]
    obtain ⟨w, h5, e5, q5⟩ := blocks_run fuel (d + 2) (W := splitOf b true) (k := 4) (by omega) (by omega) (by omega) h4 sp ((splitOf b true).length + 1) (by omega)
    have e5' : run fuel (d + 7) F_qdimacs_reader_blocks [.ptr (.mk ⟨AHeap.next (AHeap.newMap H), 0, 0⟩ 5)] (AHeap.push (AHeap.newMap H) 1 [(AVal.slice (lstW (splitOf b true))), (.int .i64 4), (.int .i64 ((b.length : Nat) : Int)), (.int .i64 v), (.map (some H.maps.length))]) = some (w, h5) := e5
    rw [e5', Option.bind_some]
    cases hbs : blocksT (b.length : Int) v ((splitOf b true).length + 1) ((splitOf b true).drop 4) [] [] with
    | bad p =>
      rw [hbs] at q5
      obtain ⟨r, rfl, s5⟩ := q5
      obtain ⟨h', e1, s1⟩ := s5.putAll (i := 1) (vs := zero3) rfl rfl rfl
      simp only [tup2, comp0, comp1, cond_true, Option.bind_some, slice_slice, nilTest_if, Bool.not_false]
      rw [e1, Option.bind_some, s1.getAll (i := 1) rfl rfl]
      refine ⟨_, h', rfl, fr0 h' _ (some (101, p)) ?_⟩
      rw [freeze_iface, (s1.sep.own (i := 0) rfl).freezePtr (m := 5) (l := 2) rfl (us := [.int .i64 p, err_api_ErrText]) (mm2 rfl rfl)]
      rfl
    | ok bs ws =>
      rw [hbs] at q5
      obtain ⟨s', k', seen, rfl, s5, rfl, hk'⟩ := q5
      have c1 : h5.cell (.mk ⟨AHeap.next (AHeap.newMap H), 0, 0 + 1⟩ 5) = some (.int .i64 (k' : Int)) := s5.part (i := 0) rfl (by omega) rfl
      simp only [tup2, comp0, comp1, cond_true, Option.bind_some, slice_slice, nilTest_nilif, Bool.not_true, cond_false, chk_mk, field_mk, c1, int_int, len_lst, aHi_none, aMx_none]
      rw [aLo_some (by omega) (by omega), Option.bind_some, hasSz_lstN wdC_len, cond_true, Int.toNat_natCast, cut_lstN wdC_len (splitOf b true) (Nat.le_refl _), show ((splitOf b true).drop k').take ((splitOf b true).length - k') = (splitOf b true).drop k' from List.take_of_length_le (by simp), cl_run fuel (d + 3) (by simp; omega) (by simp; omega)]
      cases hc : clT (b.length : Int) v m ((splitOf b true).drop k') [] [] with
      | bad p =>
        obtain ⟨h', e1, s1⟩ := s5.putAll (i := 3) (vs := zero3) rfl rfl rfl
        simp only [clA, Option.bind_some, tup2, comp0, comp1, cond_true, slice_slice]
        rw [show nilTest .iface (atV p err_api_ErrText) = some false from rfl]
        simp only [Option.bind_some, Bool.not_false, cond_true]
        rw [e1, Option.bind_some, s1.getAll (i := 3) rfl rfl]
        exact ⟨_, h', rfl, fr0 h' _ (some (101, p)) rfl⟩
      | ok l =>
        obtain ⟨h', e1, s1⟩ := s5.putAll (i := 3) (vs := [.slice s', .int .i64 v, .slice (lstLL l)]) rfl rfl rfl
        simp only [clA, Option.bind_some, tup2, comp0, comp1, cond_true, slice_slice, nilTest_nilif, Bool.not_true, cond_false]
        rw [e1, Option.bind_some, s1.getAll (i := 3) rfl rfl]
        refine ⟨_, h', rfl, freeze_tup2 _ (freeze_agg 6 (mm3 ?_ rfl (freeze_lst _ _ _ (closedL_map closed_lstI l)))) rfl⟩
        have hl2 := s1.len (i := 2) rfl
        rw [flatMap_len blkC_len] at hl2
        rw [(s1.sep.grown (i := 2) rfl).freeze (n := 5) (by omega) (freeze_blksC 4 bs), show s'.len = bs.length by omega]
theorem fread_run (fuel d : Nat) {b : List UInt8} (hf : b.length + 40 ≤ fuel) (hb : b.length < 60000) (h : AHeap) : run fuel (d + 8) F_qdimacs_Read [.slice (lstU b)] h = some (frA (rdF b), h) := by
  obtain ⟨v, h', e1, e2⟩ := fread_body fuel d hf hb
  exact pure_of rfl rfl (cc1 (canon_lstU 7 b)) e1 e2
theorem fread_nil (fuel d : Nat) (hf : 40 ≤ fuel) (h : AHeap) : run fuel (d + 8) F_qdimacs_Read [.slice .nil] h = some (frA (rdF []), h) := by
  obtain ⟨v, h', e1, e2⟩ := fread_body fuel d (b := []) (by simp; omega) (by simp)
  exact pure_of rfl rfl (cc1 (canon_nil 7)) e1 e2
end Go.Proofs.YtdkckkhghghhdaaDoor

namespace Go.Proofs.YtdkckkhghghhdaaDoor
open Go.RowKit

/-- a line's numbers -/
def LnOk (l : List Int) : Prop := l.length < 1000 ∧ ∀ x ∈ l, Num64 x
theorem numsT_num : ∀ {l : List Int}, (∀ x ∈ l, Num64 x) → (numsT l).length ≤ 21 * l.length
  | [], _ => by simp [numsT]
  | x :: l, hx => by
    have h1 := numsT_num (l := l) fun y hy => hx y (List.mem_cons_of_mem _ hy)
    have h2 := decT_len (hx x (List.mem_cons_self ..))
    have e : numsT (x :: l) = decT x ++ [32] ++ numsT l := by simp [numsT]
    rw [e, List.length_append, List.length_append, List.length_cons]
    simp
    omega
theorem LnOk.len {l : List Int} (h : LnOk l) : (lineT l).length ≤ 30000 := by
  have := numsT_num h.2
  have := h.1
  simp only [lineT, List.length_append, List.length_cons, List.length_nil]
  omega
def linesT (l : List (List Int)) : List UInt8 := l.flatMap lineT
theorem linesT_cons (c : List Int) (l : List (List Int)) : linesT (c :: l) = lineT c ++ linesT l := by simp [linesT]
def blkT (b : Blk) : List UInt8 := (if b.1 = true then [101, 32] else [97, 32]) ++ lineT b.2
def blksT (l : List Blk) : List UInt8 := l.flatMap blkT
theorem blksT_cons (c : Blk) (l : List Blk) : blksT (c :: l) = blkT c ++ blksT l := by simp [blksT]
def cnfTx (v : Int) (l : List (List Int)) : List UInt8 := headTx v (l.length : Int) ++ linesT l
def formTx (bs : List Blk) (v : Int) (l : List (List Int)) : List UInt8 := headTx v (l.length : Int) ++ blksT bs ++ linesT l

theorem ln_run (fuel d : Nat) (hf : 1000 ≤ fuel) {l : List Int} (hl : LnOk l) {h0 h : AHeap} {s : Sl} {t : List UInt8} (ht : t.length < 700000000) (hs : Sep0 h0 h [.grown 1 s (bytesC t)]) :
    ∃ s' h', run fuel (d + 6) F_dimacs_Line [.slice s, .slice (lstI l)] h = some (.slice s', h') ∧ Sep0 h0 h' [.grown 1 s' (bytesC (t ++ lineT l))] := by
  have h1 := hl.1
  exact lineP_run fuel (d + 5) (by omega) (by omega) (fun x hx => (hl.2 x hx).app fuel d (by omega)) (by omega) hs
theorem rln_run (fuel d : Nat) (hf : 1000 ≤ fuel) {l : List Int} (hl : LnOk l) {h0 h : AHeap} {s : Sl} {t : List UInt8} (ht : t.length < 700000000) (hs : Sep0 h0 h [.grown 1 s (bytesC t)]) :
    ∃ s' h', run fuel (d + 6) F_skolemref1_lits [.slice s, .slice (lstI l)] h = some (.slice s', h') ∧ Sep0 h0 h' [.grown 1 s' (bytesC (t ++ lineT l))] := by
  have h1 := hl.1
  exact rlits_run fuel (d + 5) (by omega) (by omega) (fun x hx => (hl.2 x hx).app fuel d (by omega)) (by omega) hs

theorem Sep0.keepCell {g h0 h : AHeap} {L K : List Chunk} (hs : Sep0 h0 h L) (hb : Sep0 g h0 K) {i sz id gen n o l : Nat} {cs : List AVal} (hi : K[i]? = some (.own sz id gen n cs)) {v : AVal} (hl : o < l) (hv : cs[o]? = some v) : h.cell (.mk ⟨id, gen, o⟩ l) = some v :=
  cell_keep hs.ext (fun h => h) (hb.part hi hl hv)
theorem bytes_fr {h0 h : AHeap} {s : Sl} {t : List UInt8} (hs : Sep0 h0 h [.grown 1 s (bytesC t)]) : freezeV h 8 (.slice s) = some (.slice (lstU t)) := by
  have hl := hs.len (i := 0) rfl
  simp only [List.length_map, Nat.mul_one] at hl
  rw [(hs.sep.grown (i := 0) rfl).freeze (n := 7) (by omega) (freeze_bytesC 6 _), ← hl]
/-! formulas -/
theorem qB_lines (fuel d : Nat) (hf : 1000 ≤ fuel) {l : List (List Int)} (hl : l.length < 10000) (hok : ∀ c ∈ l, LnOk c) {h0 : AHeap} : ∀ (n k : Nat) (s : Sl) (t : List UInt8) (h : AHeap), l.length < n + k → k ≤ l.length → t.length + 30000 * (l.length - k) < 600000000 → Sep0 h0 h [.grown 1 s (bytesC t)] →
    ∃ s' h', (l_qdimacs_Bytes_1 fuel (d + 6) n [(3, .slice s), (33, .slice (lstLL l)), (34, .int .i64 (l.length : Int)), (35, .int .i64 (k : Int))] h).bind (fun p => k_qdimacs_Bytes_2 fuel (d + 6) p.1 p.2.1 p.2.2) = some (.slice s', h') ∧ Sep0 h0 h' [.grown 1 s' (bytesC (t ++ linesT (l.drop k)))] := by
  intro n
  induction n with
  | zero => intro k s t h h1 h2; omega
  | succ n ih =>
    intro k s t h h1 h2 ht hs
    rw [l_qdimacs_Bytes_1_eq]
    by_cases hk : k < l.length
    · have hd : l.drop k = l.getD k [] :: l.drop (k + 1) := by rw [List.drop_eq_getElem_cons hk]; simp [List.getD, hk]
      have hx := hok (l.getD k []) (by simp [List.getD, hk])
      rw [bif_pos (by omega), addr_lstM _ (by omega) (by omega) [], hd, Int.toNat_natCast]
      generalize l.getD k [] = c at hx
      have := hx.len
      simp only [Option.bind_some, cell_fp, slice_slice]
      obtain ⟨s1, h1', e1, q1⟩ := ln_run fuel d hf hx (by omega) hs
      rw [e1]
      simp only [Option.bind_some, slice_slice]
      rw [sucU (by omega)]
      obtain ⟨s2, h2', e2, q2⟩ := ih (k + 1) s1 _ h1' (by omega) (by omega) (by simp; omega) q1
      refine ⟨s2, h2', e2, ?_⟩
      rw [linesT_cons, ← List.append_assoc]
      exact q2
    · have : k = l.length := by omega
      subst this
      rw [bif_neg (by omega), List.drop_length]
      simp only [Option.bind_some, k_qdimacs_Bytes_2_x2]
      exact ⟨s, h, rfl, by simpa [linesT] using hs⟩
theorem isCellB (b : Blk) : (!false && Nat.beq (List.length (blkC b)) 2 && List.all (blkC b) AVal.isCell) = true := rfl
theorem copyB {h0 h : AHeap} {L : List Chunk} (hs : Sep0 h0 h L) (b : Blk) : ∃ h3, AHeap.storeAt (AHeap.push h 1 [(.bool false), (.slice Sl.nil)]) (blkC b) (Pt.mk ⟨AHeap.next h, 0, 0⟩ 2) = some h3 ∧ Sep0 h0 h3 (L ++ [.own 1 h.next 0 2 (blkC b)]) := by
  have s1 := hs.push 1 2 (cs := [(AVal.bool false), (.slice Sl.nil)]) rfl
  have hi : (L ++ [Chunk.own 1 h.next 0 2 [(AVal.bool false), (.slice Sl.nil)]])[L.length]? = some (Chunk.own 1 h.next 0 2 [(AVal.bool false), (.slice Sl.nil)]) := by simp
  obtain ⟨h3, e1, s2⟩ := s1.putAll (vs := blkC b) hi rfl rfl
  have hset : (L ++ [Chunk.own 1 h.next 0 2 [(AVal.bool false), (.slice Sl.nil)]]).set L.length (Chunk.own 1 h.next 0 2 (blkC b)) = L ++ [Chunk.own 1 h.next 0 2 (blkC b)] := by simp
  exact ⟨h3, e1, by rw [← hset]; exact s2⟩
theorem qB_blks (fuel d : Nat) (hf : 1000 ≤ fuel) {x1 : Pt} {bs : List Blk} (hl : bs.length < 10000) (hok : ∀ c ∈ bs, LnOk c.2) {h0 : AHeap} : ∀ (n k : Nat) (s : Sl) (t : List UInt8) (h : AHeap), bs.length < n + k → k ≤ bs.length → t.length + 30100 * (bs.length - k) < 600000000 → Sep0 h0 h [.grown 1 s (bytesC t)] →
    ∃ s' h', l_qdimacs_Bytes_0 fuel (d + 6) n [(1, .ptr x1), (3, .slice s), (12, .slice (lstBk bs)), (13, .int .i64 (bs.length : Int)), (14, .int .i64 (k : Int))] h = some (.exit 0, [(1, .ptr x1), (3, .slice s')], h') ∧ Sep0 h0 h' [.grown 1 s' (bytesC (t ++ blksT (bs.drop k)))] := by
  intro n
  induction n with
  | zero => intro k s t h h1 h2; omega
  | succ n ih =>
    intro k s t h h1 h2 ht hs
    rw [l_qdimacs_Bytes_0_eq]
    by_cases hk : k < bs.length
    · have hd : bs.drop k = bs.getD k (false, []) :: bs.drop (k + 1) := by rw [List.drop_eq_getElem_cons hk]; simp [List.getD, hk]
      have hx := hok (bs.getD k (false, [])) (by simp [List.getD, hk])
      rw [bif_pos (by omega), addr_lstN (sz := 2) (f := blkC) blkC_len (by omega) (by omega) (false, []), hd, Int.toNat_natCast]
      generalize bs.getD k (false, []) = b at hx
      have hlen := hx.len
      obtain ⟨h3, e3, s3⟩ := copyB hs b
      have c0 : h3.cell (.mk ⟨h.next, 0, 0 + 0⟩ 2) = some (.bool b.1) := s3.part (i := 1) rfl (by omega) rfl
      rw [Option.bind_some, cellsAt_fp (blkC_len b), Option.bind_some, cond_pos _ _ (isCellB b), e3]
      simp only [Option.bind_some, field_mk, c0, bool_bool]
      have tail : ∀ (u : List UInt8) (a : Sl) (g : AHeap), u.length = 2 → u ++ lineT b.2 = blkT b → Sep0 h0 g [.grown 1 a (bytesC (t ++ u)), .own 1 h.next 0 2 (blkC b)] →
          ∃ s' h', k_qdimacs_Bytes_1 fuel (d + 6) n .normal [(1, .ptr x1), (3, .slice a), (5, .ptr (.mk ⟨h.next, 0, 0⟩ 2)), (12, .slice (lstBk bs)), (13, .int .i64 (bs.length : Int)), (14, .int .i64 (k : Int))] g = some (.exit 0, [(1, .ptr x1), (3, .slice s')], h') ∧ Sep0 h0 h' [.grown 1 s' (bytesC (t ++ blksT (b :: bs.drop (k + 1))))] := by
        intro u a g hu hub sg
        have c1 : g.cell (.mk ⟨h.next, 0, 0 + 1⟩ 2) = some (.slice (lstI b.2)) := sg.part (i := 1) rfl (by omega) rfl
        rw [k_qdimacs_Bytes_1_n]
        simp only [field_mk, Option.bind_some, c1, slice_slice]
        obtain ⟨s1, h1', e1, q1⟩ := ln_run fuel d hf hx (t := t ++ u) (by simp; omega) (Sep0.init (L := [_]) sg)
        rw [e1]
        simp only [Option.bind_some, slice_slice]
        rw [sucU (by omega)]
        obtain ⟨s2, h2', e2, q2⟩ := ih (k + 1) s1 _ h1' (by omega) (by omega) (by simp; omega) q1
        refine ⟨s2, h2', e2, ?_⟩
        rw [blksT_cons, ← hub]
        simpa using q2
      cases hb : b.1 with
      | true =>
        rw [cond_true, show [(AVal.int .u8 (101 : Int)), (AVal.int .u8 (32 : Int))] = bytesC [101, 32] from rfl, lit_cells h3 [101, 32] (n := 2) rfl, Option.bind_some, Sl.len]
        have hl := s3.len (i := 0) rfl
        simp only [List.length_map, Nat.mul_one] at hl
        obtain ⟨a, g, e4, s4, _⟩ := (s3.junk (cs := bytesC [101, 32])).grow (i := 0) (bytes := 1) (m := 2) (vs := bytesC [101, 32]) rfl rfl (by omega) (by omega)
        rw [← bytesC_app] at s4
        rw [e4]
        simp only [Option.bind_some]
        exact tail [101, 32] a g rfl (by unfold blkT; rw [hb]; rfl) s4
      | false =>
        rw [cond_false, show [(AVal.int .u8 (97 : Int)), (AVal.int .u8 (32 : Int))] = bytesC [97, 32] from rfl, lit_cells h3 [97, 32] (n := 2) rfl, Option.bind_some, Sl.len]
        have hl := s3.len (i := 0) rfl
        simp only [List.length_map, Nat.mul_one] at hl
        obtain ⟨a, g, e4, s4, _⟩ := (s3.junk (cs := bytesC [97, 32])).grow (i := 0) (bytes := 1) (m := 2) (vs := bytesC [97, 32]) rfl rfl (by omega) (by omega)
        rw [← bytesC_app] at s4
        rw [e4]
        simp only [Option.bind_some]
        exact tail [97, 32] a g rfl (by unfold blkT; rw [hb]; rfl) s4
    · have : k = bs.length := by omega
      subst this
      rw [bif_neg (by omega), List.drop_length]
      exact ⟨s, h, rfl, by simpa [blksT] using hs⟩
theorem blksT_len : ∀ {bs : List Blk}, (∀ c ∈ bs, LnOk c.2) → (blksT bs).length ≤ 30100 * bs.length
  | [], _ => by simp [blksT]
  | b :: bs, h => by
    have h1 := blksT_len (bs := bs) fun c hc => h c (List.mem_cons_of_mem _ hc)
    have h2 := (h b (List.mem_cons_self ..)).len
    rw [blksT_cons, List.length_append, List.length_cons]
    have h3 : (blkT b).length ≤ 2 + 30000 := by
      unfold blkT
      rw [List.length_append]
      split <;> simp <;> omega
    omega
theorem qB_body (fuel d : Nat) (hf : 1000 ≤ fuel) {bs : List Blk} {v : Int} {l : List (List Int)} (hv : Num64 v) (hl : l.length < 5000) (hlf : l.length < fuel) (hbl : bs.length < 1000) (hbf : bs.length < fuel) (hok : ∀ c ∈ l, LnOk c) (hbk : ∀ c ∈ bs, LnOk c.2) :
    ∃ s' h', brun fuel (d + 7) F_qdimacs_Bytes [.agg (formulaC bs v l)] AHeap.none = some (.slice s', h') ∧ freezeV h' 8 (.slice s') = some (.slice (lstU (formTx bs v l))) := by
  have hlen := headTx_len hv (show Num64 (l.length : Int) from ⟨by omega, by omega⟩)
  have s1 := (Sep0.start AHeap.none).push 1 3 (cs := formulaC bs v l) rfl
  obtain ⟨s2, h2, e2, q2⟩ := headB_run fuel d (by omega) (l := l) hv (by omega) (AHeap.none.push 1 (formulaC bs v l))
  obtain ⟨s3, h3, e3, q3⟩ := qB_blks fuel d hf (x1 := .mk ⟨AHeap.next AHeap.none, 0, 0⟩ 3) (by omega) hbk fuel 0 s2 _ h2 (by omega) (by omega) (by omega) q2
  rw [List.drop_zero] at q3
  have hb3 := blksT_len hbk
  obtain ⟨s4, h4, e4, q4⟩ := qB_lines fuel d hf (by omega) hok fuel 0 s3 _ h3 (by omega) (by omega) (by rw [List.length_append]; omega) q3
  rw [List.drop_zero] at q4
  refine ⟨s4, h4, ?_, bytes_fr q4⟩
  have c12 : (AHeap.none.push 1 (formulaC bs v l)).cellsAt 2 (.mk ⟨AHeap.next AHeap.none, 0, 0 + 1⟩ 3) = some (cnfC v l) := by
    have := (s1.sep.own (i := 0) rfl).parts (o := 0 + 1) (k := 2) (l := 3) (by omega) (by simp [formulaC])
    exact this
  rw [e_qdimacs_Bytes, show List.all (formulaC bs v l) AVal.isCell = true from rfl, cond_true, show (formulaC bs v l).length = 3 from rfl]
  simp only [field_mk, Option.bind_some, c12]
  rw [e2]
  simp only [Option.bind_some, slice_slice]
  rw [q2.keepCell s1 (i := 0) (o := 0 + 0) (l := 3) rfl (by omega) rfl]
  simp only [Option.bind_some, slice_slice, len_lst]
  rw [show ((0 : Nat) : Int) = 0 from rfl] at e3
  rw [e3]
  simp only [Option.bind_some, k_qdimacs_Bytes_0_x0, field_mk]
  rw [q3.keepCell s1 (i := 0) (o := 0 + 1 + 1) (l := 3) rfl (by omega) rfl]
  simp only [Option.bind_some, slice_slice, len_lst]
  exact e4
theorem qB_run (fuel d : Nat) (hf : 1000 ≤ fuel) {bs : List Blk} {v : Int} {l : List (List Int)} (hv : Num64 v) (hl : l.length < 5000) (hlf : l.length < fuel) (hbl : bs.length < 1000) (hbf : bs.length < fuel) (hok : ∀ c ∈ l, LnOk c) (hbk : ∀ c ∈ bs, LnOk c.2) (h : AHeap) :
    run fuel (d + 7) F_qdimacs_Bytes [.agg (formulaC bs v l)] h = some (.slice (lstU (formTx bs v l)), h) := by
  obtain ⟨s', h', e1, e2⟩ := qB_body fuel d hf hv hl hlf hbl hbf hok hbk
  exact pure_of rfl rfl (cc1 (canon_form bs v l)) e1 e2
theorem qB_none (fuel d : Nat) (hf : 1000 ≤ fuel) (h : AHeap) : run fuel (d + 7) F_qdimacs_Bytes [.agg zero3] h = some (.slice (lstU (formTx [] 0 [])), h) := by
  obtain ⟨s', h', e1, e2⟩ := qB_body fuel d hf (bs := []) (v := 0) (l := []) ⟨by omega, by omega⟩ (by simp) (by simp; omega) (by simp) (by simp; omega) (fun c hc => by cases hc) (fun c hc => by cases hc)
  exact pure_of rfl rfl (cc1 rfl) e1 e2

/-! the reference's -/
theorem fB_lines (fuel d : Nat) (hf : 1000 ≤ fuel) {X : Nat} {bs : List Blk} {v : Int} {l : List (List Int)} (hl : l.length < 10000) (hok : ∀ c ∈ l, LnOk c) {g h0 : AHeap} (hb : Sep0 g h0 [.own 1 X 0 3 (formulaC bs v l)]) : ∀ (n k : Nat) (s : Sl) (t : List UInt8) (h : AHeap), l.length < n + k → k ≤ l.length → t.length + 30000 * (l.length - k) < 600000000 → Sep0 h0 h [.grown 1 s (bytesC t)] →
    ∃ s' h', (l_skolemref1_FormulaBytes_1 fuel (d + 6) n [(1, .ptr (.mk ⟨X, 0, 0⟩ 3)), (3, .slice s), (6, .int .i64 (k : Int))] h).bind (fun p => k_skolemref1_FormulaBytes_2 fuel (d + 6) p.1 p.2.1 p.2.2) = some (.slice s', h') ∧ Sep0 h0 h' [.grown 1 s' (bytesC (t ++ linesT (l.drop k)))] := by
  intro n
  induction n with
  | zero => intro k s t h h1 h2; omega
  | succ n ih =>
    intro k s t h h1 h2 ht hs
    have c2 : h.cell (.mk ⟨X, 0, 0 + 1 + 1⟩ 3) = some (.slice (lstLL l)) := hs.keepCell hb (i := 0) rfl (by omega) rfl
    rw [l_skolemref1_FormulaBytes_1_eq]
    simp only [field_mk, Option.bind_some, c2, slice_slice]
    rw [len_lst]
    by_cases hk : k < l.length
    · have hd : l.drop k = l.getD k [] :: l.drop (k + 1) := by rw [List.drop_eq_getElem_cons hk]; simp [List.getD, hk]
      have hx := hok (l.getD k []) (by simp [List.getD, hk])
      rw [bif_pos (by omega), addr_lstM _ (by omega) (by omega) [], hd, Int.toNat_natCast]
      generalize l.getD k [] = c at hx
      have := hx.len
      simp only [Option.bind_some, cell_fp, slice_slice]
      obtain ⟨s1, h1', e1, q1⟩ := rln_run fuel d hf hx (by omega) hs
      rw [e1]
      simp only [Option.bind_some, slice_slice]
      rw [sucU (by omega)]
      obtain ⟨s2, h2', e2, q2⟩ := ih (k + 1) s1 _ h1' (by omega) (by omega) (by simp; omega) q1
      refine ⟨s2, h2', e2, ?_⟩
      rw [linesT_cons, ← List.append_assoc]
      exact q2
    · have : k = l.length := by omega
      subst this
      rw [bif_neg (by omega), List.drop_length]
      simp only [Option.bind_some, k_skolemref1_FormulaBytes_2_x2]
      exact ⟨s, h, rfl, by simpa [linesT] using hs⟩
theorem fB_blks (fuel d : Nat) (hf : 1000 ≤ fuel) {X : Nat} {bs : List Blk} {v : Int} {l : List (List Int)} (hl : bs.length < 10000) (hok : ∀ c ∈ bs, LnOk c.2) {g h0 : AHeap} (hb : Sep0 g h0 [.own 1 X 0 3 (formulaC bs v l)]) : ∀ (n k : Nat) (s : Sl) (t : List UInt8) (h : AHeap), bs.length < n + k → k ≤ bs.length → t.length + 30100 * (bs.length - k) < 600000000 → Sep0 h0 h [.grown 1 s (bytesC t)] →
    ∃ s' h', l_skolemref1_FormulaBytes_0 fuel (d + 6) n [(1, .ptr (.mk ⟨X, 0, 0⟩ 3)), (3, .slice s), (4, .int .i64 (k : Int))] h = some (.exit 0, [(1, .ptr (.mk ⟨X, 0, 0⟩ 3)), (3, .slice s')], h') ∧ Sep0 h0 h' [.grown 1 s' (bytesC (t ++ blksT (bs.drop k)))] := by
  intro n
  induction n with
  | zero => intro k s t h h1 h2; omega
  | succ n ih =>
    intro k s t h h1 h2 ht hs
    have c0 : ∀ {L : List Chunk} {H : AHeap}, Sep0 h0 H L → H.cell (.mk ⟨X, 0, 0 + 0⟩ 3) = some (.slice (lstBk bs)) := fun hs => hs.keepCell hb (i := 0) rfl (by omega) rfl
    rw [l_skolemref1_FormulaBytes_0_eq]
    simp only [field_mk, Option.bind_some, c0 hs, slice_slice]
    rw [len_lst]
    by_cases hk : k < bs.length
    · have hd : bs.drop k = bs.getD k (false, []) :: bs.drop (k + 1) := by rw [List.drop_eq_getElem_cons hk]; simp [List.getD, hk]
      have hx := hok (bs.getD k (false, [])) (by simp [List.getD, hk])
      have a1 : ∀ h : AHeap, h.addr 2 (lstBk bs) (k : Int) = some (.fp 0 (blkC (bs.getD k (false, [])))) := fun h => addr_lstN (sz := 2) (f := blkC) blkC_len (l := bs) (j := (k : Int)) (by omega) (by omega) (false, []) false
      rw [bif_pos (by omega), a1, hd]
      generalize bs.getD k (false, []) = b at hx a1
      have hlen := hx.len
      simp only [Option.bind_some, blkC, field_fp, List.drop_zero, cell_fp, bool_bool]
      have tail : ∀ (z : UInt8), [z, 32] ++ lineT b.2 = blkT b →
          ∃ s' h', k_skolemref1_FormulaBytes_1 fuel (d + 6) n .normal [(1, .ptr (.mk ⟨X, 0, 0⟩ 3)), (3, .slice s), (4, .int .i64 (k : Int)), (5, .int .u8 (z.toNat : Int))] h = some (.exit 0, [(1, .ptr (.mk ⟨X, 0, 0⟩ 3)), (3, .slice s')], h') ∧ Sep0 h0 h' [.grown 1 s' (bytesC (t ++ blksT (b :: bs.drop (k + 1))))] := by
        intro z hz
        rw [k_skolemref1_FormulaBytes_1_n, show [(AVal.int .u8 (z.toNat : Int)), (.int .u8 (32 : Int))] = bytesC [z, 32] from rfl]
        obtain ⟨a, g, e4, s4⟩ := lit_append hs [z, 32] (m := 2) rfl (by simp; omega)
        rw [e4]
        simp only [Option.bind_some, field_mk, c0 s4, c0 hs, slice_slice, same_self, a1, blkC, field_fp, List.drop_succ_cons, List.drop_zero, cell_fp]
        obtain ⟨s1, h1', e1, q1⟩ := rln_run fuel d hf hx (t := t ++ [z, 32]) (by simp; omega) s4
        rw [e1]
        simp only [Option.bind_some, slice_slice]
        rw [sucU (by omega)]
        obtain ⟨s2, h2', e2, q2⟩ := ih (k + 1) s1 _ h1' (by omega) (by omega) (by simp; omega) q1
        refine ⟨s2, h2', e2, ?_⟩
        rw [blksT_cons, ← hz]
        simpa using q2
      cases hb : b.1 with
      | true =>
        simp only [cond_true, Option.bind_some]
        exact tail 101 (by unfold blkT; rw [hb]; rfl)
      | false =>
        simp only [cond_false, Option.bind_some]
        exact tail 97 (by unfold blkT; rw [hb]; rfl)
    · have : k = bs.length := by omega
      subst this
      rw [bif_neg (by omega), List.drop_length]
      exact ⟨s, h, rfl, by simpa [blksT] using hs⟩
theorem fB_run (fuel d : Nat) (hf : 1000 ≤ fuel) {bs : List Blk} {v : Int} {l : List (List Int)} (hv : Num64 v) (hl : l.length < 5000) (hlf : l.length < fuel) (hbl : bs.length < 1000) (hbf : bs.length < fuel) (hok : ∀ c ∈ l, LnOk c) (hbk : ∀ c ∈ bs, LnOk c.2) (h : AHeap) :
    run fuel (d + 7) F_skolemref1_FormulaBytes [.agg (formulaC bs v l)] h = some (.slice (lstU (formTx bs v l)), h) := by
  have hlen := headTx_len hv (show Num64 (l.length : Int) from ⟨by omega, by omega⟩)
  have s1 := (Sep0.start AHeap.none).push 1 3 (cs := formulaC bs v l) rfl
  obtain ⟨s2, h2, e2, q2⟩ := rhd_run fuel d (by omega) (l := l) hv (by omega) (AHeap.none.push 1 (formulaC bs v l))
  obtain ⟨s3, h3, e3, q3⟩ := fB_blks fuel d hf (by omega) hbk s1 fuel 0 s2 _ h2 (by omega) (by omega) (by omega) q2
  rw [List.drop_zero] at q3
  have hb3 := blksT_len hbk
  obtain ⟨s4, h4, e4, q4⟩ := fB_lines fuel d hf (by omega) hok s1 fuel 0 s3 _ h3 (by omega) (by omega) (by rw [List.length_append]; omega) q3
  rw [List.drop_zero] at q4
  have c12 : (AHeap.none.push 1 (formulaC bs v l)).cellsAt 2 (.mk ⟨AHeap.next AHeap.none, 0, 0 + 1⟩ 3) = some (cnfC v l) := by
    have := (s1.sep.own (i := 0) rfl).parts (o := 0 + 1) (k := 2) (l := 3) (by omega) (by simp [formulaC])
    exact this
  refine pure_of rfl rfl (cc1 (canon_form bs v l)) (r := .slice s4) (h' := h4) ?_ (bytes_fr q4)
  rw [e_skolemref1_FormulaBytes, show List.all (formulaC bs v l) AVal.isCell = true from rfl, cond_true, show (formulaC bs v l).length = 3 from rfl]
  simp only [field_mk, Option.bind_some, c12]
  rw [e2]
  simp only [Option.bind_some, slice_slice]
  rw [show ((0 : Nat) : Int) = 0 from rfl] at e3
  rw [e3]
  simp only [Option.bind_some, k_skolemref1_FormulaBytes_0_x0]
  exact e4
end Go.Proofs.YtdkckkhghghhdaaDoor

namespace Go.Proofs.YtdkckkhghghhdaaDoor
open Go.RowKit

/-- words of numbers -/
def numWs : List Int → Nat → Bool → List Wd
  | [], _, _ => []
  | x :: l, p, f => ⟨decT x, p, f⟩ :: numWs l (p + (decT x).length + 1) false
theorem W_nums : ∀ (l : List Int) (r : List UInt8) (p : Nat) (f : Bool), wordsOf (numsT l ++ r) p f false = numWs l p f ++ wordsOf r (p + (numsT l).length) (f && l.isEmpty) false
  | [], r, p, f => by simp [numsT, numWs]
  | x :: l, r, p, f => by
    obtain ⟨w1, w2, w3, _⟩ := decT_word x
    have e : numsT (x :: l) = decT x ++ 32 :: numsT l := by simp [numsT]
    rw [e, List.append_assoc, List.cons_append, W_one w1 w2 (Stops.sp _) p (fun _ => w3), W_sp, W_nums l]
    simp only [numWs, List.cons_append, List.length_append, List.length_cons, List.isEmpty_cons, Bool.and_false, Bool.false_and]
    rw [show p + (decT x).length + 1 + (numsT l).length = p + ((decT x).length + ((numsT l).length + 1)) by omega]
theorem W_line (l : List Int) (r : List UInt8) (p : Nat) (f : Bool) : ∃ q, wordsOf (lineT l ++ r) p f false = numWs l p f ++ ⟨[48], p + (numsT l).length, f && l.isEmpty⟩ :: wordsOf r q true false ∧ q = p + (lineT l).length := by
  refine ⟨p + (lineT l).length, ?_, rfl⟩
  have e : lineT l ++ r = numsT l ++ ([48] ++ 10 :: r) := by simp [lineT]
  rw [e, W_nums, W_one (by simp) (by decide) (Stops.nl r) _ (fun _ => by simp), W_nl]
  simp [lineT, Nat.add_assoc]
/-- a literal that is read as it is -/
def LitOk (v x : Int) : Prop := x ≠ 0 ∧ isI x v = true ∧ -1000000000 < x ∧ x < 1000000000
theorem LitOk.text {v x : Int} (h : LitOk v x) : noLitV (decT x) v = false ∧ numW (decT x) = x := by
  obtain ⟨a1, a2, _⟩ := decT_num h.2.2.1 h.2.2.2
  refine ⟨?_, a2⟩
  unfold noLitV
  rw [a1, a2, decide_eq_false h.1, h.2.1]; rfl
theorem clT_nums (e v m : Int) : ∀ (l : List Int) (p : Nat) (f : Bool) (ws : List Wd) (out : List (List Int)) (c : List Int), (out.length : Int) < m → (∀ x ∈ l, LitOk v x) → clT e v m (numWs l p f ++ ws) out c = clT e v m ws out (c ++ l)
  | [], p, f, ws, out, c, h, hl => by simp [numWs]
  | x :: l, p, f, ws, out, c, h, hl => by
    have hx := hl x (List.mem_cons_self ..)
    obtain ⟨t1, t2⟩ := hx.text
    simp only [numWs, List.cons_append, clT, t1, t2]
    rw [if_neg (by simp; omega), if_neg hx.1, clT_nums e v m l _ _ _ _ _ h fun y hy => hl y (List.mem_cons_of_mem _ hy)]
    simp
theorem zero_text {v : Int} : noLitV [48] v = false ∧ numW [48] = 0 := by
  have : okNum [48] = true ∧ numW [48] = 0 := by decide
  refine ⟨?_, this.2⟩
  unfold noLitV
  rw [this.1, this.2]; rfl
theorem clT_lines (e v m : Int) : ∀ (L : List (List Int)) (p : Nat) (f : Bool) (out : List (List Int)), ((out.length + L.length : Nat) : Int) = m → (∀ c ∈ L, ∀ x ∈ c, LitOk v x) → clT e v m (wordsOf (linesT L) p f false) out [] = .ok (out ++ L)
  | [], p, f, out, h, hl => by
    simp only [linesT, List.flatMap_nil, W_nil, clT]
    simp only [List.length_nil, Nat.add_zero] at h
    rw [if_neg (by simp; omega), List.append_nil]
  | c :: L, p, f, out, h, hl => by
    simp only [List.length_cons] at h
    obtain ⟨q, e1, _⟩ := W_line c (linesT L) p f
    obtain ⟨z1, z2⟩ := zero_text (v := v)
    rw [linesT_cons, e1, clT_nums e v m c _ _ _ _ _ (by omega) (hl c (List.mem_cons_self ..)), List.nil_append]
    simp only [clT, z1, z2]
    rw [if_neg (by simp; omega), if_pos trivial, clT_lines e v m L q true (out ++ [c]) (by simp; omega) fun d hd => hl d (List.mem_cons_of_mem _ hd)]
    simp
theorem W_head (v n : Int) (r : List UInt8) : ∃ p q, wordsOf (headTx v n ++ r) 0 true false = ⟨[112], 0, true⟩ :: ⟨[99, 110, 102], 2, false⟩ :: ⟨decT v, 6, false⟩ :: ⟨decT n, p, false⟩ :: wordsOf r q true false := by
  obtain ⟨a1, a2, a3, _⟩ := decT_word v
  obtain ⟨b1, b2, b3, _⟩ := decT_word n
  have e : headTx v n ++ r = [112] ++ 32 :: ([99, 110, 102] ++ 32 :: (decT v ++ 32 :: (decT n ++ 10 :: r))) := by simp [headTx]
  refine ⟨6 + (decT v).length + 1, 6 + (decT v).length + 1 + (decT n).length + 1, ?_⟩
  rw [e, W_one (by simp) (by decide) (Stops.sp _) _ (fun _ => by simp), W_sp, W_one (by simp) (by decide) (Stops.sp _) _ (fun h => by cases h), W_sp, W_one a1 a2 (Stops.sp _) _ (fun h => by cases h), W_sp, W_one b1 b2 (Stops.nl _) _ (fun h => by cases h), W_nl]
  rfl
theorem cnt_ok {x most : Int} (h0 : 0 ≤ x) (h1 : x < 1000000000) (hm : x ≤ most) (p : Nat) : cntC ⟨decT x, p, false⟩ most = none := by
  obtain ⟨a1, a2, a3⟩ := decT_num (x := x) (by omega) h1
  unfold cntC plainW
  simp only [a1, a2, a3 h0]
  rw [if_neg (by simp), if_neg (by omega)]
theorem headT_text {e v n : Int} (hv : 0 ≤ v) (hv1 : v ≤ 4000) (hn : 0 ≤ n) (hn1 : n ≤ 20000) (p : Nat) (W : List Wd) : headT e (⟨[112], 0, true⟩ :: ⟨[99, 110, 102], 2, false⟩ :: ⟨decT v, 6, false⟩ :: ⟨decT n, p, false⟩ :: W) = .ok v n := by
  unfold headT
  simp only [cnt_ok hv (by omega) hv1, cnt_ok hn (by omega) hn1]
  rw [if_neg (by simp), if_neg (by simp), (decT_num (x := v) (by omega) (by omega)).2.1, (decT_num (x := n) (by omega) (by omega)).2.1]
/-- how long such a text is -/
theorem linesT_len {B : Nat} : ∀ {L : List (List Int)}, (∀ c ∈ L, LnOk c) → totalI L ≤ B → (linesT L).length ≤ 21 * B + 2 * L.length
  | [], _, h => by simp [linesT]
  | c :: L, hc, h => by
    simp only [totalI, List.map_cons, List.sum_cons] at h
    have h1 := linesT_len (B := B - c.length) (L := L) (fun d hd => hc d (List.mem_cons_of_mem _ hd)) (by simp only [totalI]; omega)
    have h2 := numsT_num (hc c (List.mem_cons_self ..)).2
    rw [linesT_cons, List.length_append, lineT, List.length_append]
    simp only [List.length_cons, List.length_nil]
    omega
end Go.Proofs.YtdkckkhghghhdaaDoor

namespace Go.Proofs.YtdkckkhghghhdaaDoor
open Go.RowKit

theorem sucS {m : Nat} (h : m < 9000000000000000000) : IntKind.wrap .i64 ((m : Int) + 1) = ((m + 1 : Nat) : Int) := by rw [wrap64 (by omega) (by omega)]; omega
theorem sameI_loop (fuel d : Nat) {a b : List Int} (hl : a.length = b.length) (hn : a.length < 1000000000) {h : AHeap} : ∀ (n k : Nat), a.length < n + k → k ≤ a.length → a.take k = b.take k →
    (l_skolemref_SameInts_0 fuel d n [(0, .slice (lstI a)), (1, .slice (lstI b)), (5, .int .i64 (k : Int))] h).bind (fun p => k_skolemref_SameInts_0 fuel d p.1 p.2.1 p.2.2) = some (.bool (decide (a = b)), h) := by
  intro n
  induction n with
  | zero => intro k h1 h2; omega
  | succ n ih =>
    intro k h1 h2 h3
    rw [l_skolemref_SameInts_0_eq, len_lst]
    by_cases hk : k < a.length
    · rw [bif_pos (by omega), addr_lstM _ (by omega) (by omega) 0, addr_lstM _ (by omega) (by omega) 0]
      simp only [Option.bind_some, cell_fp, int_int, Int.toNat_natCast]
      by_cases he : a.getD k 0 = b.getD k 0
      · rw [bif_npos he, sucS (by omega), ih (k + 1) (by omega) (by omega) (by rw [take_get hk 0, take_get (by omega) 0, h3, he])]
      · rw [bif_nneg he]
        simp only [Option.bind_some, k_skolemref_SameInts_0_r]
        rw [decide_eq_false (fun h => he (by rw [h]))]
    · have : k = a.length := by omega
      subst this
      rw [bif_neg (by omega)]
      have : a = b := by rw [List.take_length, hl, List.take_length] at h3; exact h3
      simp only [Option.bind_some, k_skolemref_SameInts_0_x0]
      rw [decide_eq_true this]
theorem sameI_run (fuel d : Nat) {a b : List Int} {s t : Sl} {h : AHeap} (hs : freezeV h 8 (.slice s) = some (.slice (lstI a))) (ht : freezeV h 8 (.slice t) = some (.slice (lstI b))) (hn : a.length < 1000000000) (hf : a.length < fuel) :
    run fuel (d + 1) F_skolemref_SameInts [.slice s, .slice t] h = some (.bool (decide (a = b)), h) := by
  refine run_val rfl rfl (mm2 hs ht) (r := .bool (decide (a = b))) (h' := AHeap.none) ?_ rfl rfl
  rw [e_skolemref_SameInts, len_lst, len_lst]
  by_cases hl : a.length = b.length
  · rw [bif_npos (by omega)]
    have := sameI_loop fuel d hl hn (h := AHeap.none) fuel 0 (by omega) (by omega) rfl
    exact this
  · rw [bif_nneg (by omega), decide_eq_false (fun h => hl (by rw [h]))]

end Go.Proofs.YtdkckkhghghhdaaDoor

namespace Go.Proofs.YtdkckkhghghhdaaDoor
open Go.RowKit

theorem has_loop (fuel d : Nat) {a : List Int} (x : Int) (hn : a.length < 1000000000) {h : AHeap} : ∀ (n k : Nat), a.length < n + k → k ≤ a.length →
    (l_skolemref_Has_0 fuel d n [(0, .slice (lstI a)), (1, .int .i64 x), (5, .int .i64 (k : Int))] h).bind (fun p => k_skolemref_Has_0 fuel d p.1 p.2.1 p.2.2) = some (.bool (decide (x ∈ a.drop k)), h) := by
  intro n
  induction n with
  | zero => intro k h1 h2; omega
  | succ n ih =>
    intro k h1 h2
    rw [l_skolemref_Has_0_eq, len_lst]
    by_cases hk : k < a.length
    · rw [bif_pos (by omega), addr_lstM _ (by omega) (by omega) 0]
      simp only [Option.bind_some, cell_fp, int_int, Int.toNat_natCast]
      have hd : a.drop k = a.getD k 0 :: a.drop (k + 1) := by rw [List.drop_eq_getElem_cons hk]; simp [List.getD, hk]
      rw [hd]
      by_cases he : a.getD k 0 = x
      · rw [bif_pos he]
        simp only [Option.bind_some, k_skolemref_Has_0_r]
        rw [decide_eq_true (by rw [he]; exact List.mem_cons_self ..)]
      · rw [bif_neg he, sucS (by omega), ih (k + 1) (by omega) (by omega)]
        have : (x ∈ a.drop (k + 1)) ↔ x ∈ a.getD k 0 :: a.drop (k + 1) := by
          rw [List.mem_cons]; constructor
          · exact .inr
          · rintro (h | h)
            · exact absurd h.symm he
            · exact h
        rw [decide_eq_decide.2 this]
    · have : k = a.length := by omega
      subst this
      rw [bif_neg (by omega)]
      simp only [Option.bind_some, k_skolemref_Has_0_x0]
      rw [decide_eq_false (by simp)]
theorem has_run (fuel d : Nat) {a : List Int} {s : Sl} {h : AHeap} (hs : freezeV h 8 (.slice s) = some (.slice (lstI a))) (x : Int) (hn : a.length < 1000000000) (hf : a.length < fuel) :
    run fuel (d + 1) F_skolemref_Has [.slice s, .int .i64 x] h = some (.bool (decide (x ∈ a)), h) := by
  refine run_val rfl rfl (mm2 hs rfl) (r := .bool (decide (x ∈ a))) (h' := AHeap.none) ?_ rfl rfl
  rw [e_skolemref_Has]
  have := has_loop fuel d x hn (h := AHeap.none) fuel 0 (by omega) (by omega)
  rw [List.drop_zero] at this
  exact this

end Go.Proofs.YtdkckkhghghhdaaDoor

namespace Go.Proofs.YtdkckkhghghhdaaDoor
open Go.RowKit

theorem succI {n : Nat} (h : n < 9000000000000000000) : IntKind.wrap .i64 ((n : Int) + 1) = ((n + 1 : Nat) : Int) := by rw [wrap64 (by omega) (by omega)]; omega

/-! lits.Var -/
def varI (l : Int) : Int := bif decide (l < IntKind.wrap .i64 (0 - l)) then IntKind.wrap .i64 (0 - l) else l
def okInt (l : Int) : Prop := -9223372036854775808 < l ∧ l ≤ 9223372036854775807
end Go.Proofs.YtdkckkhghghhdaaDoor

namespace Go.Proofs.YtdkckkhghghhdaaDoor
open Go.RowKit

/-! Functions that are handed over; the captured rows are told as they stand. -/
theorem canonL_none2 {a b : AVal} (hb : canonV 8 b = none) : canonL [a, b] = none := by
  unfold canonL
  rw [List.mapM_cons, List.mapM_cons, hb]
  cases canonV 8 a <;> rfl
theorem mapM_none2 {f : AVal → Option AVal} {a b : AVal} (hb : f b = none) : [a, b].mapM f = none := by
  rw [List.mapM_cons, List.mapM_cons, hb]
  cases f a <;> rfl

def idxF (p : Int → Bool) : List Int → Nat → Int
  | [], _ => -1
  | x :: l, k => if p x = true then (k : Int) else idxF p l (k + 1)
theorem idxF_any (p : Int → Bool) : ∀ (l : List Int) (k : Nat), decide ((0 : Int) ≤ idxF p l k) = l.any p
  | [], k => rfl
  | x :: l, k => by
    unfold idxF
    rw [List.any_cons]
    cases hp : p x with
    | true => simp
    | false => simp only [Bool.false_eq_true, if_false, Bool.false_or]; exact idxF_any p l (k + 1)

theorem idx_loop (fuel d : Nat) {c : List Int} {f : Nat} {caps : List Pt} {p : Int → Bool} {h : AHeap} (hc : c.length < 1000000000) (hp : ∀ x ∈ c, run fuel d f ([.int .i64 x] ++ List.map .ptr caps) h = some (.bool (p x), h)) : ∀ (n k : Nat), c.length < n + k → k ≤ c.length →
    (l_slices_IndexFunc_s_int_int_0 fuel d n [(0, .slice (lstI c)), (1, .func f caps), (7, .int .i64 (c.length : Int)), (8, .int .i64 (k : Int))] h).bind (fun q => k_slices_IndexFunc_s_int_int_0 fuel d q.1 q.2.1 q.2.2) = some (.int .i64 (idxF p (c.drop k) k), h) := by
  intro n
  induction n with
  | zero => intro k h1 h2; omega
  | succ n ih =>
    intro k h1 h2
    rw [l_slices_IndexFunc_s_int_int_0_eq]
    by_cases hk : k < c.length
    · rw [bif_pos (by omega), addr_lstM _ (by omega) (by omega) 0, drop_get hk 0]
      have hm : c.getD k 0 ∈ c := by rw [List.getD_eq_getElem?_getD, List.getElem?_eq_getElem hk]; exact List.getElem_mem hk
      simp only [Option.bind_some, cell_fp, int_int, Int.toNat_natCast, hp _ hm, bool_bool, idxF]
      cases hq : p (c.getD k 0) with
      | true => simp only [cond_true, Option.bind_some, k_slices_IndexFunc_s_int_int_0_r, if_true]
      | false =>
        simp only [cond_false, Bool.false_eq_true, if_false]
        rw [succI (by omega), ih (k + 1) (by omega) (by omega)]
    · have : k = c.length := by omega
      subst this
      rw [bif_neg (by omega)]
      simp [k_slices_IndexFunc_s_int_int_0_x0, idxF]

/-- .. one that has a row of the heap -/
theorem ContainsFunc_run (fuel d : Nat) {c : List Int} {f : Nat} {r : Ref} {lim : Nat} {p : Int → Bool} {h : AHeap} (hc : c.length < 1000000000) (hf : c.length < fuel) (hp : ∀ x ∈ c, run fuel d f [.int .i64 x, .ptr (.mk r lim)] h = some (.bool (p x), h)) :
    run fuel (d + 2) F_slices_ContainsFunc_s_int_int [.slice (lstI c), .func f [.mk r lim]] h = some (.bool (c.any p), h) := by
  have e1 : run fuel (d + 1) F_slices_IndexFunc_s_int_int [.slice (lstI c), .func f [.mk r lim]] h = some (.int .i64 (idxF p c 0), h) := by
    rw [run_body rfl (canonL_none2 rfl) (mapM_none2 rfl), e_slices_IndexFunc_s_int_int, len_lst]
    have := idx_loop fuel d (c := c) (f := f) (caps := [.mk r lim]) (p := p) (h := h) hc hp fuel 0 (by omega) (by omega)
    rw [List.drop_zero] at this
    exact this
  rw [run_body rfl (canonL_none2 rfl) (mapM_none2 rfl), e_slices_ContainsFunc_s_int_int, e1]
  simp only [Option.bind_some, int_int, idxF_any]

/-! lits.Check -/
theorem check_sum (fuel d : Nat) {p : Pt} {cc : List (List Int)} {h : AHeap} (hl : cc.length < 1000000000) : ∀ (n k a : Nat), cc.length < n + k → k ≤ cc.length → a + totalI (cc.drop k) < 1000000000000 →
    l_lits_Check_0 fuel d n [(1, .ptr p), (3, .int .i64 (a : Int)), (9, .slice (lstLL cc)), (10, .int .i64 (cc.length : Int)), (11, .int .i64 (k : Int))] h = some (.exit 0, [(1, .ptr p), (3, .int .i64 ((a + totalI (cc.drop k) : Nat) : Int))], h) := by
  intro n
  induction n with
  | zero => intro k a h1 h2; omega
  | succ n ih =>
    intro k a h1 h2 h3
    rw [l_lits_Check_0_eq]
    by_cases hk : k < cc.length
    · rw [bif_pos (by omega), addr_lstM _ (by omega) (by omega) []]
      rw [drop_get hk []] at h3 ⊢
      have e : totalI (cc.getD k [] :: cc.drop (k + 1)) = (cc.getD k []).length + totalI (cc.drop (k + 1)) := by simp [totalI]
      rw [e] at h3 ⊢
      simp only [Option.bind_some, cell_fp, slice_slice, Int.toNat_natCast, len_lst]
      rw [succI (by omega), show IntKind.wrap .i64 ((a : Int) + ((cc.getD k []).length : Int)) = ((a + (cc.getD k []).length : Nat) : Int) by rw [wrap64 (by omega) (by omega)]; omega]
      rw [ih (k + 1) (a + (cc.getD k []).length) (by omega) (by omega) (by omega)]
      rw [Nat.add_assoc]
    · have : k = cc.length := by omega
      subst this
      rw [bif_neg (by omega)]
      simp [totalI]

/-- The first clause that is not right. -/
def badI (vars : Int) : List (List Int) → Nat → Option Nat
  | [], _ => none
  | c :: cc, k => if (c.any fun l => !isI l vars) = true then some k else badI vars cc (k + 1)
/-- An error, and the place where it is. -/
abbrev atN (k : Nat) (e : AVal) : AVal := .iface T_p_api_At (.ptr (.fp 0 [.int .i64 (k : Int), e]))
def checkI (vars : Int) (cc : List (List Int)) : AVal :=
  if vars < 0 ∨ 4000 < vars ∨ 20000 < cc.length ∨ 80000 < totalI cc then err_api_ErrLimit else
  match badI vars cc 0 with
  | some k => atN k err_api_ErrRange
  | none => .nilif

theorem check_loop (fuel d : Nat) {vars : Int} {cc : List (List Int)} {r : Ref} {lim : Nat} {h : AHeap} (hv : freezeV h 8 (.ptr (.mk r lim)) = some (.ptr (.fp 0 (cnfC vars cc)))) (hl : cc.length < 1000000000) (hc : ∀ c ∈ cc, c.length < 1000000000 ∧ c.length < fuel) : ∀ (n k : Nat), cc.length < n + k → k ≤ cc.length →
    ∃ v h', (l_lits_Check_1 fuel (d + 4) n [(1, .ptr (.mk r lim)), (40, .slice (lstLL cc)), (41, .int .i64 (cc.length : Int)), (42, .int .i64 (k : Int))] h).bind (fun q => k_lits_Check_1 fuel (d + 4) q.1 q.2.1 q.2.2) = some (v, h') ∧
      freezeV h' 8 v = some (match badI vars (cc.drop k) k with | some k => atN k err_api_ErrRange | none => .nilif) := by
  intro n
  induction n with
  | zero => intro k h1 h2; omega
  | succ n ih =>
    intro k h1 h2
    rw [l_lits_Check_1_eq]
    by_cases hk : k < cc.length
    · rw [bif_pos (by omega), addr_lstM _ (by omega) (by omega) [], drop_get hk []]
      obtain ⟨c1, c2⟩ := hc (cc.getD k []) (by rw [List.getD_eq_getElem?_getD, List.getElem?_eq_getElem hk]; exact List.getElem_mem hk)
      have hcf := ContainsFunc_run fuel (d + 2) (c := cc.getD k []) (f := F_lits_Check_1) (r := r) (lim := lim) (p := fun l => !isI l vars) (h := h) c1 c2 (fun x hx => by
        refine run_val rfl rfl (mm2 rfl hv) (r := .bool (!isI x vars)) (h' := AHeap.none) ?_ rfl rfl
        rw [e_lits_Check_1]
        simp only [field_fp, cnfC, List.drop_zero, Option.bind_some, cell_fp, int_int, Is_run, bool_bool])
      simp only [Option.bind_some, cell_fp, slice_slice, Int.toNat_natCast, hcf, bool_bool, badI]
      cases hq : ((cc.getD k []).any fun l => !isI l vars) with
      | true =>
        simp only [cond_true, if_true]
        refine ⟨.iface T_p_api_At (.ptr (.mk ⟨h.next, 0, 0⟩ 2)), h.push 1 [.int .i64 (k : Int), err_api_ErrRange], k_lits_Check_1_r fuel (d + 4) _ _, ?_⟩
        have hz : freezeV (h.push 1 [.int .i64 (k : Int), err_api_ErrRange]) 7 (.ptr (.mk ⟨h.next, 0, 0⟩ 2)) = some (.ptr (.fp 0 [.int .i64 (k : Int), err_api_ErrRange])) :=
          (Own.push h 1 2 [.int .i64 (k : Int), err_api_ErrRange] rfl).freezePtr (m := 6) (l := 2) rfl (mm2 rfl rfl)
        rw [freeze_iface, hz]
        rfl
      | false =>
        simp only [cond_false, Bool.false_eq_true, if_false]
        rw [succI (by omega)]
        exact ih (k + 1) (by omega) (by omega)
    · have : k = cc.length := by omega
      subst this
      rw [bif_neg (by omega), List.drop_eq_nil_of_le (by omega)]
      exact ⟨.nilif, h, by simp only [Option.bind_some, k_lits_Check_1_x2], rfl⟩

theorem Check_body (fuel d : Nat) {vars : Int} {cc : List (List Int)} (hl : cc.length < 1000000000) (ht : totalI cc < 1000000000000) (hf : cc.length < fuel) (hc : ∀ c ∈ cc, c.length < 1000000000 ∧ c.length < fuel) :
    ∃ v h', brun fuel (d + 5) F_lits_Check [.agg (cnfC vars cc)] AHeap.none = some (v, h') ∧ freezeV h' 8 v = some (checkI vars cc) := by
  have hv : freezeV (AHeap.none.push 1 (cnfC vars cc)) 8 (.ptr (.mk ⟨AHeap.none.next, 0, 0⟩ 2)) = some (.ptr (.fp 0 (cnfC vars cc))) := by
    have hm : (cnfC vars cc).mapM (freezeV (AHeap.none.push 1 (cnfC vars cc)) 7) = some (cnfC vars cc) := mm2 rfl (freeze_lst _ _ _ (closedL_map closed_lstI cc))
    exact (Own.push AHeap.none 1 2 (cnfC vars cc) rfl).freezePtr (m := 7) rfl hm
  · rw [e_lits_Check, show List.all (cnfC vars cc) AVal.isCell = true from rfl, cond_true]
    have hlen : (cnfC vars cc).length = 2 := rfl
    simp only [hlen]
    have c1 : (AHeap.none.push 1 (cnfC vars cc)).cell (.mk ⟨AHeap.none.next, 0, 0 + 1⟩ 2) = some (.slice (lstLL cc)) := rfl
    have c0 : (AHeap.none.push 1 (cnfC vars cc)).cell (.mk ⟨AHeap.none.next, 0, 0 + 0⟩ 2) = some (.int .i64 vars) := rfl
    simp only [field_mk, Option.bind_some, c1, slice_slice]
    rw [len_lst]
    have hs := check_sum fuel (d + 4) (p := .mk ⟨AHeap.none.next, 0, 0⟩ 2) (cc := cc) (h := AHeap.none.push 1 (cnfC vars cc)) hl fuel 0 0 (by omega) (by omega) (by rw [List.drop_zero, Nat.zero_add]; exact ht)
    rw [List.drop_zero, Nat.zero_add, show ((0 : Nat) : Int) = 0 from rfl] at hs
    rw [hs]
    simp only [Option.bind_some, k_lits_Check_0_x0, field_mk, c0, int_int]
    unfold checkI
    by_cases h1 : vars < 0
    · rw [if_pos (.inl h1), decide_eq_true h1]
      exact ⟨_, _, rfl, rfl⟩
    · rw [decide_eq_false h1]
      simp only [beq_self_eq_true, cond_true, Option.bind_some, bool_bool]
      by_cases h2 : 4000 < vars
      · rw [if_pos (.inr (.inl h2)), decide_eq_true h2]
        exact ⟨_, _, rfl, rfl⟩
      · rw [decide_eq_false h2]
        simp only [beq_self_eq_true, cond_true, Option.bind_some, bool_bool, c1, slice_slice]
        rw [len_lst]
        by_cases h3 : 20000 < cc.length
        · rw [if_pos (.inr (.inr (.inl h3))), decide_eq_true (by omega)]
          exact ⟨_, _, rfl, rfl⟩
        · rw [decide_eq_false (by omega), cond_false]
          by_cases h4 : 80000 < totalI cc
          · rw [if_pos (.inr (.inr (.inr h4))), bif_pos (by omega)]
            exact ⟨_, _, rfl, rfl⟩
          · rw [if_neg (by omega), bif_neg (by omega)]
            have := check_loop fuel d hv hl hc fuel 0 (by omega) (by omega)
            rw [List.drop_zero] at this
            exact this
end Go.Proofs.YtdkckkhghghhdaaDoor

namespace Go.Proofs.YtdkckkhghghhdaaDoor
open Go.RowKit

/-- not too near to the least of numbers -/
def nearI (a : List Int) : Bool := a.all fun x => !decide (x < -1152921504606846976)
theorem near_loop (fuel d : Nat) {a : List Int} (hn : a.length < 9000000000000000000) {h : AHeap} : ∀ (n k : Nat), a.length < n + k → k ≤ a.length →
    (l_skolemmake_Near_0 fuel d n [(0, .slice (lstI a)), (3, .int .i64 (k : Int))] h).bind (fun p => k_skolemmake_Near_0 fuel d p.1 p.2.1 p.2.2) = some (.bool (nearI (a.drop k)), h) := by
  intro n
  induction n with
  | zero => intro k h1 h2; omega
  | succ n ih =>
    intro k h1 h2
    rw [l_skolemmake_Near_0_eq, len_lst]
    by_cases hk : k < a.length
    · rw [bif_pos (by omega), addr_lstM _ (by omega) (by omega) 0]
      simp only [Option.bind_some, cell_fp, int_int, Int.toNat_natCast]
      have hd : a.drop k = a.getD k 0 :: a.drop (k + 1) := by rw [List.drop_eq_getElem_cons hk]; simp [List.getD, hk]
      rw [hd]
      unfold nearI
      rw [List.all_cons]
      by_cases he : a.getD k 0 < -1152921504606846976
      · rw [bif_pos he, decide_eq_true he]
        simp only [Option.bind_some, k_skolemmake_Near_0_r, Bool.not_true, Bool.false_and]
      · rw [bif_neg he, succI (by omega), ih (k + 1) (by omega) (by omega), decide_eq_false he, Bool.not_false, Bool.true_and]
        rfl
    · have : k = a.length := by omega
      subst this
      rw [bif_neg (by omega)]
      simp only [Option.bind_some, k_skolemmake_Near_0_x0, List.drop_length]
      rfl
theorem near_run (fuel d : Nat) {a : List Int} {s : Sl} {h : AHeap} (hs : freezeV h 8 (.slice s) = some (.slice (lstI a))) (hn : a.length < 9000000000000000000) (hf : a.length < fuel) :
    run fuel (d + 1) F_skolemmake_Near [.slice s] h = some (.bool (nearI a), h) := by
  refine run_val rfl rfl (mm1 hs) (r := .bool (nearI a)) (h' := AHeap.none) ?_ rfl rfl
  rw [e_skolemmake_Near]
  have := near_loop fuel d hn (h := AHeap.none) fuel 0 (by omega) (by omega)
  rw [List.drop_zero] at this
  exact this
end Go.Proofs.YtdkckkhghghhdaaDoor

namespace Go.Proofs.YtdkckkhghghhdaaDoor
open Go.RowKit

theorem drop_getD {α : Type} {l : List α} {j : Nat} (d : α) (hj : j < l.length) : l.drop j = l.getD j d :: l.drop (j + 1) := by
  rw [List.drop_eq_getElem_cons hj]; simp [List.getD, hj]
theorem RIs_run (fuel d : Nat) (l n : Int) (h : AHeap) : run fuel (d + 1) F_skolemref1_Is [.int .i64 l, .int .i64 n] h = some (.bool (isI l n), h) := by
  refine pure_of rfl rfl (cc2 rfl rfl) (r := .bool (isI l n)) (h' := AHeap.none) ?_ rfl
  rw [e_skolemref1_Is]
  unfold isI
  cases decide (l = 0) <;> cases decide (l ≤ n) <;> cases decide (IntKind.wrap .i64 (0 - n) ≤ l) <;> rfl

/-! skolemmake.NearAll, Count -/
theorem nearAll_loop (fuel d : Nat) {cc : List (List Int)} (hl : cc.length < 9000000000000000000) (hc : ∀ c ∈ cc, c.length < 9000000000000000000 ∧ c.length < fuel) {h : AHeap} : ∀ (n k : Nat), cc.length < n + k → k ≤ cc.length →
    (l_skolemmake_NearAll_0 fuel (d + 1) n [(0, .slice (lstLL cc)), (3, .int .i64 (k : Int))] h).bind (fun p => k_skolemmake_NearAll_0 fuel (d + 1) p.1 p.2.1 p.2.2) = some (.bool ((cc.drop k).all nearI), h) := by
  intro n
  induction n with
  | zero => intro k h1 h2; omega
  | succ n ih =>
    intro k h1 h2
    rw [l_skolemmake_NearAll_0_eq, len_lst]
    by_cases hk : k < cc.length
    · rw [bif_pos (by omega), addr_lstM _ (by omega) (by omega) []]
      have hd : cc.drop k = cc.getD k [] :: cc.drop (k + 1) := by rw [List.drop_eq_getElem_cons hk]; simp [List.getD, hk]
      obtain ⟨c1, c2⟩ := hc (cc.getD k []) (by simp [List.getD, hk])
      simp only [Option.bind_some, cell_fp, slice_slice, Int.toNat_natCast]
      rw [near_run fuel d (freeze_lstI 7 _) c1 c2, hd, List.all_cons]
      simp only [Option.bind_some, bool_bool]
      cases hn : nearI (cc.getD k []) with
      | true =>
        simp only [Bool.not_true, cond_false, Bool.true_and]
        rw [succI (by omega)]
        exact ih (k + 1) (by omega) (by omega)
      | false =>
        simp only [Bool.not_false, cond_true, Option.bind_some, k_skolemmake_NearAll_0_r, Bool.false_and]
    · have : k = cc.length := by omega
      subst this
      rw [bif_neg (by omega)]
      simp only [Option.bind_some, k_skolemmake_NearAll_0_x0, List.drop_length, List.all_nil]
theorem nearAll_run (fuel d : Nat) {cc : List (List Int)} (hl : cc.length < 9000000000000000000) (hf : cc.length < fuel) (hc : ∀ c ∈ cc, c.length < 9000000000000000000 ∧ c.length < fuel) {h : AHeap} {s : Sl} (hs : freezeV h 8 (.slice s) = some (.slice (lstLL cc))) :
    run fuel (d + 2) F_skolemmake_NearAll [.slice s] h = some (.bool (cc.all nearI), h) := by
  refine run_val rfl rfl (mm1 hs) (r := .bool (cc.all nearI)) (h' := AHeap.none) ?_ rfl rfl
  rw [e_skolemmake_NearAll]
  have := nearAll_loop fuel d hl hc (h := AHeap.none) fuel 0 (by omega) (by omega)
  rw [List.drop_zero] at this
  exact this
theorem count_loop (fuel d : Nat) {cc : List (List Int)} (hl : cc.length < 9000000000000000000) {h : AHeap} : ∀ (n k a : Nat), cc.length < n + k → k ≤ cc.length → a + totalI (cc.drop k) < 9000000000000000000 →
    l_skolemmake_Count_0 fuel d n [(0, .slice (lstLL cc)), (3, .int .i64 (a : Int)), (4, .int .i64 (k : Int))] h = some (.exit 0, [(3, .int .i64 ((a + totalI (cc.drop k) : Nat) : Int))], h) := by
  intro n
  induction n with
  | zero => intro k a h1 h2; omega
  | succ n ih =>
    intro k a h1 h2 h3
    rw [l_skolemmake_Count_0_eq, len_lst]
    by_cases hk : k < cc.length
    · have hd : cc.drop k = cc.getD k [] :: cc.drop (k + 1) := by rw [List.drop_eq_getElem_cons hk]; simp [List.getD, hk]
      have ht : totalI (cc.drop k) = (cc.getD k []).length + totalI (cc.drop (k + 1)) := by rw [hd]; simp [totalI]
      rw [bif_pos (by omega), addr_lstM _ (by omega) (by omega) []]
      simp only [Option.bind_some, cell_fp, slice_slice, Int.toNat_natCast, len_lst]
      rw [wrap64 (n := (a : Int) + _) (by omega) (by omega), succI (by omega), show (a : Int) + ((cc.getD k []).length : Int) = ((a + (cc.getD k []).length : Nat) : Int) from by omega, ih (k + 1) _ (by omega) (by omega) (by omega), ht, Nat.add_assoc]
    · have : k = cc.length := by omega
      subst this
      rw [bif_neg (by omega), List.drop_length]
      rfl
theorem count_run (fuel d : Nat) {cc : List (List Int)} (hl : cc.length < 9000000000000000000) (hf : cc.length < fuel) (ht : totalI cc < 9000000000000000000) {h : AHeap} {s : Sl} (hs : freezeV h 8 (.slice s) = some (.slice (lstLL cc))) :
    run fuel (d + 1) F_skolemmake_Count [.slice s] h = some (.int .i64 (totalI cc : Int), h) := by
  refine run_val rfl rfl (mm1 hs) (r := .int .i64 (totalI cc : Int)) (h' := AHeap.none) ?_ rfl rfl
  have := count_loop fuel d hl (h := AHeap.none) fuel 0 0 (by omega) (by omega) (by rw [List.drop_zero]; omega)
  rw [List.drop_zero, Nat.zero_add, show ((0 : Nat) : Int) = 0 from rfl] at this
  rw [e_skolemmake_Count, this]
  simp only [Option.bind_some, k_skolemmake_Count_0_x0]

/-! skolemref1.CheckCNF -/
/-- the fault of clauses, as cells -/
def faultI (vars : Int) (cc : List (List Int)) : List AVal :=
  if vars < 0 ∨ 4000 < vars ∨ 20000 < cc.length ∨ 80000 < totalI cc then faultC 102 false 0 else
  match badI vars cc 0 with
  | some k => faultC 104 true (k : Int)
  | none => faultC 0 false 0
theorem checkI_fault (vars : Int) (cc : List (List Int)) : ∃ c p x, faultI vars cc = faultC c p x ∧ IsFault (checkI vars cc) c p x := by
  unfold faultI checkI
  by_cases h : vars < 0 ∨ 4000 < vars ∨ 20000 < cc.length ∨ 80000 < totalI cc
  · rw [if_pos h, if_pos h]
    exact ⟨102, false, 0, rfl, IsFault.bare (j := 1) (by omega)⟩
  · rw [if_neg h, if_neg h]
    cases badI vars cc 0 with
    | none => exact ⟨0, false, 0, rfl, .fine⟩
    | some k => exact ⟨104, true, (k : Int), rfl, IsFault.at (j := 3) (by omega) (k : Int)⟩

theorem rcheck_sum (fuel d : Nat) {p q : Pt} {cc : List (List Int)} {h : AHeap} (hp : ∃ r l, p = .mk r l ∧ h.cell (.mk ⟨r.id, r.gen, r.off + 1⟩ l) = some (.slice (lstLL cc))) (hl : cc.length < 9000000000000000000) : ∀ (n k a : Nat), cc.length < n + k → k ≤ cc.length → a + totalI (cc.drop k) < 9000000000000000000 →
    l_skolemref1_CheckCNF_0 fuel d n [(1, .ptr p), (2, .ptr q), (3, .int .i64 (a : Int)), (4, .int .i64 (k : Int))] h = some (.exit 0, [(1, .ptr p), (2, .ptr q), (3, .int .i64 ((a + totalI (cc.drop k) : Nat) : Int))], h) := by
  obtain ⟨r, l, rfl, hc⟩ := hp
  intro n
  induction n with
  | zero => intro k a h1 h2; omega
  | succ n ih =>
    intro k a h1 h2 h3
    rw [l_skolemref1_CheckCNF_0_eq, field_mk, Option.bind_some, hc, Option.bind_some, slice_slice, Option.bind_some, len_lst]
    by_cases hk : k < cc.length
    · have hd : cc.drop k = cc.getD k [] :: cc.drop (k + 1) := by rw [List.drop_eq_getElem_cons hk]; simp [List.getD, hk]
      have ht : totalI (cc.drop k) = (cc.getD k []).length + totalI (cc.drop (k + 1)) := by rw [hd]; simp [totalI]
      rw [bif_pos (by omega), Option.bind_some, hc, Option.bind_some, slice_slice, Option.bind_some, addr_lstM _ (by omega) (by omega) []]
      simp only [Option.bind_some, cell_fp, slice_slice, Int.toNat_natCast, len_lst]
      rw [wrap64 (n := (a : Int) + _) (by omega) (by omega), succI (by omega), show (a : Int) + ((cc.getD k []).length : Int) = ((a + (cc.getD k []).length : Nat) : Int) from by omega, ih (k + 1) _ (by omega) (by omega) (by omega), ht, Nat.add_assoc]
    · have : k = cc.length := by omega
      subst this
      rw [bif_neg (by omega), List.drop_length]
      rfl

theorem rcheck_in (fuel d : Nat) {vars : Int} {cc : List (List Int)} {A B k : Nat} (hk : k < cc.length) (hck : (cc.getD k []).length < 9000000000000000000) {h0 h : AHeap} (hs : Sep0 h0 h [.own 1 A 0 2 (cnfC vars cc), .own 1 B 0 3 [.int .i64 0, .bool false, .int .i64 0]]) : ∀ (n j : Nat), (cc.getD k []).length < n + j → j ≤ (cc.getD k []).length →
    ((((cc.getD k []).drop j).any fun l => !isI l vars) = false ∧ l_skolemref1_CheckCNF_2 fuel (d + 1) n [(1, .ptr (.mk ⟨A, 0, 0⟩ 2)), (2, .ptr (.mk ⟨B, 0, 0⟩ 3)), (5, .int .i64 (k : Int)), (6, .int .i64 (j : Int))] h = some (.exit 4, [(1, .ptr (.mk ⟨A, 0, 0⟩ 2)), (2, .ptr (.mk ⟨B, 0, 0⟩ 3)), (5, .int .i64 (k : Int))], h)) ∨
    ((((cc.getD k []).drop j).any fun l => !isI l vars) = true ∧ ∃ h', l_skolemref1_CheckCNF_2 fuel (d + 1) n [(1, .ptr (.mk ⟨A, 0, 0⟩ 2)), (2, .ptr (.mk ⟨B, 0, 0⟩ 3)), (5, .int .i64 (k : Int)), (6, .int .i64 (j : Int))] h = some (.ret, [(1, .ptr (.mk ⟨A, 0, 0⟩ 2)), (2, .ptr (.mk ⟨B, 0, 0⟩ 3)), (5, .int .i64 (k : Int))], h') ∧
      Sep0 h0 h' [.own 1 A 0 2 (cnfC vars cc), .own 1 B 0 3 (faultC 104 true (k : Int))]) := by
  have c1 : h.cell (.mk ⟨A, 0, 0 + 1⟩ 2) = some (.slice (lstLL cc)) := hs.part (i := 0) rfl (by omega) rfl
  have c0 : h.cell (.mk ⟨A, 0, 0 + 0⟩ 2) = some (.int .i64 vars) := hs.part (i := 0) rfl (by omega) rfl
  intro n
  induction n with
  | zero => intro j h1 h2; omega
  | succ n ih =>
    intro j h1 h2
    rw [l_skolemref1_CheckCNF_2_eq]
    simp only [field_mk, Option.bind_some, c1, slice_slice]
    rw [addr_lstM _ (by omega) (by omega) []]
    simp only [Option.bind_some, cell_fp, slice_slice, Int.toNat_natCast]
    rw [len_lst]
    by_cases hj : j < (cc.getD k []).length
    · have hd := drop_getD 0 hj
      rw [bif_pos (by omega), addr_lstM _ (by omega) (by omega) 0, hd, List.any_cons]
      simp only [Option.bind_some, cell_fp, int_int, Int.toNat_natCast, c0, RIs_run, bool_bool]
      cases hi : isI ((cc.getD k []).getD j 0) vars with
      | true =>
        simp only [Bool.not_true, cond_false, Bool.false_or]
        rw [succI (by omega)]
        exact ih (j + 1) (by omega) (by omega)
      | false =>
        right
        simp only [Bool.not_false, cond_true, Bool.true_or, true_and]
        rw [Placed_run fuel d (show (104 : Int) ≠ 0 by omega)]
        simp only [Option.bind_some, agg_agg]
        rw [cond_pos _ _ (show (true && Nat.beq (List.length (faultC 104 true (k : Int))) 3 && List.all (faultC 104 true (k : Int)) AVal.isCell) = true from rfl)]
        obtain ⟨h2, p2, s2⟩ := hs.put (i := 1) (o := 0) (l := 3) (vs := faultC 104 true (k : Int)) rfl (by simp [faultC]) (by simp [faultC])
        rw [p2]
        simp only [Option.bind_some]
        exact ⟨h2, rfl, s2⟩
    · left
      have : j = (cc.getD k []).length := by omega
      rw [bif_neg (by omega), this, List.drop_length]
      exact ⟨rfl, rfl⟩

theorem rcheck_loop (fuel d : Nat) {vars : Int} {cc : List (List Int)} (hl : cc.length < 1000000000) (hc : ∀ c ∈ cc, c.length < 1000000000 ∧ c.length < fuel) {A B : Nat} {h0 h : AHeap} (hs : Sep0 h0 h [.own 1 A 0 2 (cnfC vars cc), .own 1 B 0 3 [.int .i64 0, .bool false, .int .i64 0]]) : ∀ (n k : Nat), cc.length < n + k → k ≤ cc.length →
    ∃ h', (l_skolemref1_CheckCNF_1 fuel (d + 1) n [(1, .ptr (.mk ⟨A, 0, 0⟩ 2)), (2, .ptr (.mk ⟨B, 0, 0⟩ 3)), (5, .int .i64 (k : Int))] h).bind (fun p => k_skolemref1_CheckCNF_1 fuel (d + 1) p.1 p.2.1 p.2.2) =
      some (.agg (match badI vars (cc.drop k) k with | some k => faultC 104 true (k : Int) | none => faultC 0 false 0), h') := by
  have c1 : h.cell (.mk ⟨A, 0, 0 + 1⟩ 2) = some (.slice (lstLL cc)) := hs.part (i := 0) rfl (by omega) rfl
  intro n
  induction n with
  | zero => intro k h1 h2; omega
  | succ n ih =>
    intro k h1 h2
    rw [l_skolemref1_CheckCNF_1_eq]
    simp only [field_mk, Option.bind_some, c1, slice_slice]
    rw [len_lst]
    by_cases hk : k < cc.length
    · obtain ⟨q1, q2⟩ := hc (cc.getD k []) (by simp [List.getD, hk])
      have hd : cc.drop k = cc.getD k [] :: cc.drop (k + 1) := by rw [List.drop_eq_getElem_cons hk]; simp [List.getD, hk]
      rw [bif_pos (by omega), hd, badI]
      rcases rcheck_in fuel d hk (by omega) hs fuel 0 (by omega) (by omega) with ⟨b1, b2⟩ | ⟨b1, h', b2, b3⟩
      · rw [List.drop_zero] at b1
        rw [show ((0 : Nat) : Int) = 0 from rfl] at b2
        rw [b2, if_neg (by rw [b1]; simp)]
        simp only [Option.bind_some, k_skolemref1_CheckCNF_2_x4]
        rw [succI (by omega)]
        exact ih (k + 1) (by omega) (by omega)
      · rw [List.drop_zero] at b1
        rw [show ((0 : Nat) : Int) = 0 from rfl] at b2
        rw [b2, if_pos b1]
        simp only [Option.bind_some, k_skolemref1_CheckCNF_2_r, k_skolemref1_CheckCNF_1_r]
        have hc3 : h'.cellsAt 3 (.mk ⟨B, 0, 0⟩ 3) = some (faultC 104 true (k : Int)) := (b3.sep.own (i := 1) rfl).parts (by omega) (by simp [faultC])
        rw [hc3]
        exact ⟨h', rfl⟩
    · have : k = cc.length := by omega
      subst this
      rw [bif_neg (by omega), List.drop_length, badI]
      simp only [Option.bind_some, k_skolemref1_CheckCNF_1_x2]
      rw [None_run fuel d]
      simp only [Option.bind_some, agg_agg]
      rw [cond_pos _ _ (show (!false && Nat.beq (List.length (faultC 0 false 0)) 3 && List.all (faultC 0 false 0) AVal.isCell) = true from rfl)]
      obtain ⟨h2, p2, s2⟩ := hs.put (i := 1) (o := 0) (l := 3) (vs := faultC 0 false 0) rfl (by simp [faultC]) (by simp [faultC])
      rw [p2]
      have hc3 : h2.cellsAt 3 (.mk ⟨B, 0, 0⟩ 3) = some (faultC 0 false 0) := (s2.sep.own (i := 1) rfl).parts (by omega) (by simp [faultC])
      simp only [Option.bind_some, hc3, Option.map_some]
      exact ⟨h2, rfl⟩

theorem CheckCNF_body (fuel d : Nat) {vars : Int} {cc : List (List Int)} (hl : cc.length < 1000000000) (ht : totalI cc < 1000000000000) (hf : cc.length < fuel) (hc : ∀ c ∈ cc, c.length < 1000000000 ∧ c.length < fuel) :
    ∃ h', brun fuel (d + 2) F_skolemref1_CheckCNF [.agg (cnfC vars cc)] AHeap.none = some (.agg (faultI vars cc), h') := by
  have s0 := ((Sep0.start AHeap.none).push 1 2 (cs := cnfC vars cc) rfl).push 1 3 (cs := [.int .i64 (0 : Int), .bool false, .int .i64 (0 : Int)]) rfl
  have c1 : ((AHeap.none.push 1 (cnfC vars cc)).push 1 [.int .i64 (0 : Int), .bool false, .int .i64 (0 : Int)]).cell (.mk ⟨AHeap.none.next, 0, 0 + 1⟩ 2) = some (.slice (lstLL cc)) := s0.part (i := 0) rfl (by omega) rfl
  have c0 : ((AHeap.none.push 1 (cnfC vars cc)).push 1 [.int .i64 (0 : Int), .bool false, .int .i64 (0 : Int)]).cell (.mk ⟨AHeap.none.next, 0, 0 + 0⟩ 2) = some (.int .i64 vars) := s0.part (i := 0) rfl (by omega) rfl
  rw [e_skolemref1_CheckCNF, show List.all (cnfC vars cc) AVal.isCell = true from rfl, cond_true, show (cnfC vars cc).length = 2 from rfl]
  have hs := rcheck_sum fuel (d + 1) (p := .mk ⟨AHeap.none.next, 0, 0⟩ 2) (q := .mk ⟨(AHeap.none.push 1 (cnfC vars cc)).next, 0, 0⟩ 3) (cc := cc) ⟨_, _, rfl, c1⟩ (by omega) fuel 0 0 (by omega) (by omega) (by rw [List.drop_zero]; omega)
  rw [List.drop_zero, Nat.zero_add, show ((0 : Nat) : Int) = 0 from rfl] at hs
  rw [hs]
  simp only [Option.bind_some, k_skolemref1_CheckCNF_0_x0, field_mk, c0, int_int]
  have bare : ∃ h', ((run fuel (d + 1) F_skolemref_Bare [.int .i64 (102 : Int)] ((AHeap.none.push 1 (cnfC vars cc)).push 1 [.int .i64 (0 : Int), .bool false, .int .i64 (0 : Int)])).bind fun r14 => (AVal.agg? r14.1).bind fun c15 =>
      (bif (!false && Nat.beq (List.length c15) 3 && List.all c15 AVal.isCell) then ((AHeap.storeAt r14.2 c15 (.mk ⟨(AHeap.none.push 1 (cnfC vars cc)).next, 0, 0⟩ 3)).bind fun h16 =>
        ((AHeap.cellsAt h16 3 (.mk ⟨(AHeap.none.push 1 (cnfC vars cc)).next, 0, 0⟩ 3)).bind fun c17 => some (AVal.agg c17) : Option AVal).map fun v => (v, h16)) else none)) = some (.agg (faultC 102 false 0), h') := by
    rw [Bare_run]
    simp only [Option.bind_some, agg_agg]
    rw [cond_pos _ _ (show (!false && Nat.beq (List.length (faultC 102 false 0)) 3 && List.all (faultC 102 false 0) AVal.isCell) = true from rfl)]
    obtain ⟨h2, p2, s2⟩ := s0.put (i := 1) (o := 0) (l := 3) (vs := faultC 102 false 0) rfl (by simp [faultC]) (by simp [faultC])
    rw [p2]
    have hc3 : h2.cellsAt 3 (.mk ⟨(AHeap.none.push 1 (cnfC vars cc)).next, 0, 0⟩ 3) = some (faultC 102 false 0) := (s2.sep.own (i := 1) rfl).parts (by omega) (by simp [faultC])
    simp only [Option.bind_some, hc3, Option.map_some]
    exact ⟨h2, rfl⟩
  unfold faultI
  by_cases h1 : vars < 0
  · rw [if_pos (.inl h1), decide_eq_true h1]
    exact bare
  · rw [decide_eq_false h1]
    simp only [beq_self_eq_true, cond_true, Option.bind_some, bool_bool]
    by_cases h2 : 4000 < vars
    · rw [if_pos (.inr (.inl h2)), decide_eq_true h2]
      exact bare
    · rw [decide_eq_false h2]
      simp only [beq_self_eq_true, cond_true, Option.bind_some, bool_bool, c1, slice_slice]
      rw [len_lst]
      by_cases h3 : 20000 < cc.length
      · rw [if_pos (.inr (.inr (.inl h3))), decide_eq_true (show (20000 : Int) < (cc.length : Int) by omega)]
        exact bare
      · rw [decide_eq_false (show ¬ (20000 : Int) < (cc.length : Int) by omega), cond_false]
        by_cases h4 : 80000 < totalI cc
        · rw [if_pos (.inr (.inr (.inr h4))), bif_pos (by omega)]
          exact bare
        · rw [if_neg (by omega), bif_neg (by omega)]
          have := rcheck_loop fuel d hl hc s0 fuel 0 (by omega) (by omega)
          rw [List.drop_zero] at this
          exact this
theorem fault_fr (vars : Int) (cc : List (List Int)) (h' : AHeap) : freezeV h' 8 (.agg (faultI vars cc)) = some (.agg (faultI vars cc)) := by
  obtain ⟨c, p, y, e, _⟩ := checkI_fault vars cc
  rw [e]; exact freeze_fault c p y
theorem canonCnf (v : Int) (l : List (List Int)) : canonV 8 (.agg (cnfC v l)) = some (.agg (cnfC v l)) := by
  unfold cnfC
  rw [canon_agg, canonM_cons (u := .int .i64 v) rfl (canonM_cons (u := .slice (lstLL l)) (canon_lstLL _ _) (canonM_nil _))]
  rfl
theorem CheckCNF_val (fuel d : Nat) {vars : Int} {cc : List (List Int)} (hl : cc.length < 1000000000) (ht : totalI cc < 1000000000000) (hf : cc.length < fuel) (hc : ∀ c ∈ cc, c.length < 1000000000 ∧ c.length < fuel) (h : AHeap) :
    run fuel (d + 2) F_skolemref1_CheckCNF [.agg (cnfC vars cc)] h = some (.agg (faultI vars cc), h) := by
  obtain ⟨h', e1⟩ := CheckCNF_body fuel d hl ht hf hc (vars := vars)
  exact pure_of rfl rfl (cc1 (canonCnf vars cc)) e1 (fault_fr vars cc h')
theorem Check_val (fuel d : Nat) {vars : Int} {cc : List (List Int)} (hl : cc.length < 1000000000) (ht : totalI cc < 1000000000000) (hf : cc.length < fuel) (hc : ∀ c ∈ cc, c.length < 1000000000 ∧ c.length < fuel) (h : AHeap) :
    run fuel (d + 5) F_lits_Check [.agg (cnfC vars cc)] h = some (checkI vars cc, h) := by
  obtain ⟨v, h', e1, e2⟩ := Check_body fuel d hl ht hf hc (vars := vars)
  exact pure_of rfl rfl (cc1 (canonCnf vars cc)) e1 e2
end Go.Proofs.YtdkckkhghghhdaaDoor

namespace Go.Proofs.YtdkckkhghghhdaaDoor
open Go.RowKit

def badX (vars x : Int) (seen : List Int) : Bool := decide (x < 1) || decide (vars < x) || seen.contains x
def badVs (vars : Int) : List Int → List Int → Option (List Int)
  | [], seen => some seen
  | x :: l, seen => if badX vars x seen = true then none else badVs vars l (seen ++ [x])
def badBs (vars : Int) : List Blk → List Int → Nat → Option Nat
  | [], _, _ => none
  | b :: bs, seen, k => match badVs vars b.2 seen with
    | none => some k
    | some s => badBs vars bs s (k + 1)
def bkE : Option Nat → AVal
  | none => .nilif
  | some k => atV (k : Int) err_api_ErrRange
def bkF : Option Nat → List AVal
  | none => faultC 0 false 0
  | some k => faultC 104 true (k : Int)
def checkF (bs : List Blk) (v : Int) (l : List (List Int)) : AVal := match checkI v l with
  | .nilif => bkE (badBs v bs [] 0)
  | e => e
def faultF (bs : List Blk) (v : Int) (l : List (List Int)) : List AVal := match checkI v l with
  | .nilif => bkF (badBs v bs [] 0)
  | _ => faultI v l
theorem bk_fault (z : Option Nat) : ∃ c p x, bkF z = faultC c p x ∧ IsFault (bkE z) c p x ∧ (c = 0 ↔ z = none) := by
  cases z with
  | none => exact ⟨0, false, 0, rfl, .fine, by simp⟩
  | some k => exact ⟨104, true, (k : Int), rfl, IsFault.at (j := 3) (by omega) (k : Int), by simp⟩
theorem checkI_cases (v : Int) (l : List (List Int)) : (checkI v l = .nilif ∧ faultI v l = faultC 0 false 0 ∧ 0 ≤ v ∧ v ≤ 4000 ∧ l.length ≤ 20000 ∧ badI v l 0 = none) ∨ (∃ t a, checkI v l = .iface t a) ∧ ∃ c p x, c ≠ 0 ∧ faultI v l = faultC c p x ∧ IsFault (checkI v l) c p x := by
  unfold checkI faultI
  by_cases h : v < 0 ∨ 4000 < v ∨ 20000 < l.length ∨ 80000 < totalI l
  · rw [if_pos h, if_pos h]
    exact .inr ⟨⟨_, _, rfl⟩, 102, false, 0, by omega, rfl, IsFault.bare (j := 1) (by omega)⟩
  · rw [if_neg h, if_neg h]
    cases badI v l 0 with
    | none => exact .inl ⟨rfl, rfl, by omega, by omega, by omega, rfl⟩
    | some k => exact .inr ⟨⟨_, _, rfl⟩, 104, true, (k : Int), by omega, rfl, IsFault.at (j := 3) (by omega) (k : Int)⟩
theorem checkF_fault (bs : List Blk) (v : Int) (l : List (List Int)) : ∃ c p x, faultF bs v l = faultC c p x ∧ IsFault (checkF bs v l) c p x ∧ (c = 0 → 0 ≤ v ∧ v ≤ 4000 ∧ l.length ≤ 20000 ∧ badI v l 0 = none ∧ badBs v bs [] 0 = none) := by
  unfold faultF checkF
  rcases checkI_cases v l with ⟨h1, h2, h3, h4, h5, h6⟩ | ⟨⟨t, a, h1⟩, c, p, x, h2, h3, h4⟩
  · rw [h1]
    obtain ⟨c, p, x, e1, e2, e3⟩ := bk_fault (badBs v bs [] 0)
    exact ⟨c, p, x, e1, e2, fun h => ⟨h3, h4, h5, h6, e3.1 h⟩⟩
  · rw [h1] at h4 ⊢
    exact ⟨c, p, x, h3, h4, fun h => absurd h h2⟩

theorem fault_freeze {e : AVal} {c : Int} {p : Bool} {x : Int} (hf : IsFault e c p x) (h : AHeap) : freezeV h 8 e = some e := by
  cases hf with
  | fine => rfl
  | bare hj => rename_i j; rcases seven hj with rfl | rfl | rfl | rfl | rfl | rfl | rfl <;> rfl
  | «at» hj k => rename_i j; rcases seven hj with rfl | rfl | rfl | rfl | rfl | rfl | rfl <;> rfl
theorem contains_dec' (l : List Int) (x : Int) : decide (x ∈ l) = l.contains x := by simp
theorem okErrR (c : Int) : (bif (Nat.beq (List.length (AVal.cells err_api_ErrRange)) 1 && Nat.ble (1 + 1) (List.length [(AVal.int .i64 c), .nilif]) && List.all (AVal.cells err_api_ErrRange) AVal.isCell) then ((some (AHeap.overlay [(AVal.int .i64 c), .nilif] 1 (AVal.cells err_api_ErrRange)))) else (none)) = some [.int .i64 c, err_api_ErrRange] := rfl
theorem allErrR (c : Int) : List.all [AVal.int .i64 c, err_api_ErrRange] AVal.isCell = true := rfl
theorem lenErrR (c : Int) : List.length [AVal.int .i64 c, err_api_ErrRange] = 2 := rfl
/-- a block's variables -/
theorem qk_in (fuel d : Nat) {bs : List Blk} {v : Int} {l : List (List Int)} {vs : List Int} {X m kk : Nat} {L : List Chunk} {h0 : AHeap} (hvs : vs.length < 1000000) : ∀ (n j : Nat) (seen : List Int) (h : AHeap), vs.length < n + j → j ≤ vs.length →
    Sep0 h0 h (.own 1 X 0 3 (formulaC bs v l) :: .mp h0.maps.length m (seenM seen) :: L) →
    match badVs v (vs.drop j) seen with
    | none => ∃ r h' fr, l_qdimacs_Check_1 fuel d n [(1, .ptr (.mk ⟨X, 0, 0⟩ 3)), (4, .map (some m)), (5, .int .i64 (kk : Int)), (17, .slice (lstBk bs)), (18, .int .i64 (bs.length : Int)), (19, .int .i64 (kk : Int)), (25, .slice (lstI vs)), (26, .int .i64 (vs.length : Int)), (27, .int .i64 (j : Int))] h = some (.ret, fr, h') ∧ (∀ k, k_qdimacs_Check_1 fuel d k .ret fr h' = some (.ret, [(2, .iface T_p_api_At (.ptr (.mk ⟨r, 0, 0⟩ 2)))], h')) ∧ Sep0 h0 h' [.own 1 r 0 2 [.int .i64 (kk : Int), err_api_ErrRange]]
    | some s => ∃ h', l_qdimacs_Check_1 fuel d n [(1, .ptr (.mk ⟨X, 0, 0⟩ 3)), (4, .map (some m)), (5, .int .i64 (kk : Int)), (17, .slice (lstBk bs)), (18, .int .i64 (bs.length : Int)), (19, .int .i64 (kk : Int)), (25, .slice (lstI vs)), (26, .int .i64 (vs.length : Int)), (27, .int .i64 (j : Int))] h = some (.exit 2, [(1, .ptr (.mk ⟨X, 0, 0⟩ 3)), (2, .bot), (4, .map (some m)), (17, .slice (lstBk bs)), (18, .int .i64 (bs.length : Int)), (19, .int .i64 (kk : Int))], h') ∧ Sep0 h0 h' (.own 1 X 0 3 (formulaC bs v l) :: .mp h0.maps.length m (seenM s) :: L) := by
  intro n
  induction n with
  | zero => intro j seen h h1 h2; omega
  | succ n ih =>
    intro j seen h h1 h2 hs
    have c1 : h.cell (.mk ⟨X, 0, 0 + 1 + 0⟩ 3) = some (.int .i64 v) := hs.part (i := 0) rfl (by omega) rfl
    have gm : h.maps[m]? = some (seenM seen) := hs.getMap (i := 1) rfl
    have step := l_qdimacs_Check_1_eq fuel d n (.mk ⟨X, 0, 0⟩ 3) (some m) (kk : Int) (lstBk bs) (bs.length : Int) (kk : Int) (lstI vs) (vs.length : Int) (j : Int) h
    by_cases hj : j < vs.length
    · have hd : vs.drop j = vs.getD j 0 :: vs.drop (j + 1) := by rw [List.drop_eq_getElem_cons hj]; simp [List.getD, hj]
      rw [bif_pos (by omega), addr_lstM _ (by omega) (by omega) 0, Int.toNat_natCast] at step
      rw [hd]
      generalize vs.getD j 0 = x at step
      simp only [Option.bind_some, cell_fp, int_int, field_mk, c1] at step
      have e1 : ((bif ((decide (x < (1 : Int))) == false) then (some ((AVal.bool (decide (v < x))), h)) else (some ((.bool true), h)) : Option (AVal × AHeap))) = some (.bool (decide (x < 1) || decide (v < x)), h) := by
        cases decide (x < 1) <;> rfl
      rw [e1] at step
      simp only [Option.bind_some, bool_bool, mapOf_some, gm, mfind_seen, mgot_seen] at step
      have e2 : ∀ b : Bool, ((bif (b == false) then (some ((AVal.bool (seen.contains x)), h)) else (some ((.bool true), h)) : Option (AVal × AHeap))) = some (.bool (b || seen.contains x), h) := fun b => by cases b <;> rfl
      rw [e2] at step
      simp only [Option.bind_some, bool_bool] at step
      rw [show (decide (x < 1) || decide (v < x) || seen.contains x) = badX v x seen from rfl] at step
      unfold badVs
      cases hb : badX v x seen with
      | true =>
        rw [hb] at step
        simp only [cond_true, okErrR, allErrR, lenErrR, Option.bind_some] at step
        simp only [if_true]
        exact ⟨_, _, _, step, fun k => k_qdimacs_Check_1_r fuel d k _ _ _ _ _ _ _, ((hs.sub (L' := []) (List.nil_sublist _)).push 1 2 rfl)⟩
      | false =>
        have hcon : seen.contains x = false := by
          unfold badX at hb
          simp only [Bool.or_eq_false_iff] at hb
          exact hb.2
        rw [hb] at step
        simp only [cond_false, Option.bind_some, gm, mset_seen _ _ hcon] at step
        rw [sucU (by omega)] at step
        simp only [Bool.false_eq_true, if_false]
        have s2 := hs.setMap (i := 1) rfl (seenM (seen ++ [x]))
        have := ih (j + 1) (seen ++ [x]) _ (by omega) (by omega) s2
        rw [step]
        exact this
    · have : j = vs.length := by omega
      subst this
      rw [bif_neg (by omega)] at step
      rw [List.drop_length]
      exact ⟨h, step, hs⟩
/-- all blocks -/
theorem qk_out (fuel d : Nat) {bs : List Blk} {v : Int} {l : List (List Int)} {X m : Nat} {h0 : AHeap} (hbs : bs.length < 1000000) (hb2 : ∀ b ∈ bs, b.2.length < 1000000 ∧ b.2.length < fuel) : ∀ (n k : Nat) (seen : List Int) (h : AHeap), bs.length < n + k → k ≤ bs.length →
    Sep0 h0 h [.own 1 X 0 3 (formulaC bs v l), .mp h0.maps.length m (seenM seen)] →
    ∃ u h', (l_qdimacs_Check_0 fuel d n [(1, .ptr (.mk ⟨X, 0, 0⟩ 3)), (4, .map (some m)), (17, .slice (lstBk bs)), (18, .int .i64 (bs.length : Int)), (19, .int .i64 (k : Int))] h).bind (fun p => k_qdimacs_Check_0 fuel d p.1 p.2.1 p.2.2) = some (u, h') ∧ freezeV h' 8 u = some (bkE (badBs v (bs.drop k) seen k)) := by
  intro n
  induction n with
  | zero => intro k seen h h1 h2; omega
  | succ n ih =>
    intro k seen h h1 h2 hs
    rw [l_qdimacs_Check_0_eq]
    by_cases hk : k < bs.length
    · have hd : bs.drop k = bs.getD k (false, []) :: bs.drop (k + 1) := by rw [List.drop_eq_getElem_cons hk]; simp [List.getD, hk]
      obtain ⟨hx1, hx2⟩ := hb2 (bs.getD k (false, [])) (by simp [List.getD, hk])
      rw [bif_pos (by omega), addr_lstN (sz := 2) (f := blkC) blkC_len (by omega) (by omega) (false, []), hd, Int.toNat_natCast]
      generalize bs.getD k (false, []) = b at hx1 hx2
      obtain ⟨h3, e3, s3⟩ := copyB hs b
      have c1 : h3.cell (.mk ⟨h.next, 0, 0 + 1⟩ 2) = some (.slice (lstI b.2)) := s3.part (i := 2) rfl (by omega) rfl
      rw [Option.bind_some, cellsAt_fp (blkC_len b), Option.bind_some, cond_pos _ _ (isCellB b), e3]
      simp only [Option.bind_some, field_mk, c1, slice_slice]
      rw [len_lst]
      have q := qk_in fuel d (bs := bs) (v := v) (l := l) (vs := b.2) (X := X) (m := m) (kk := k) hx1 fuel 0 seen h3 (by omega) (by omega) s3
      rw [List.drop_zero] at q
      unfold badBs
      cases hv : badVs v b.2 seen with
      | none =>
        rw [hv] at q
        obtain ⟨r, h', fr, e1, e2, s4⟩ := q
        rw [show ((0 : Nat) : Int) = 0 from rfl] at e1
        rw [e1]
        simp only [Option.bind_some, e2, k_qdimacs_Check_0_r]
        refine ⟨_, h', rfl, ?_⟩
        rw [freeze_iface, (s4.sep.own (i := 0) rfl).freezePtr (m := 6) (l := 2) rfl (us := [.int .i64 (k : Int), err_api_ErrRange]) (mm2 rfl rfl)]
        rfl
      | some s =>
        rw [hv] at q
        obtain ⟨h', e1, s4⟩ := q
        rw [show ((0 : Nat) : Int) = 0 from rfl] at e1
        rw [e1]
        simp only [Option.bind_some, k_qdimacs_Check_1_x2]
        rw [sucU (by omega)]
        exact ih (k + 1) s h' (by omega) (by omega) (s4.sub (List.Sublist.cons_cons _ (List.Sublist.cons_cons _ (List.nil_sublist _))))
    · have : k = bs.length := by omega
      subst this
      rw [bif_neg (by omega), List.drop_length]
      simp only [Option.bind_some, k_qdimacs_Check_0_x0]
      exact ⟨_, h, rfl, rfl⟩
theorem qck_body (fuel d : Nat) {bs : List Blk} {v : Int} {l : List (List Int)} (hbs : bs.length < 1000000) (hbf : bs.length < fuel) (hb2 : ∀ b ∈ bs, b.2.length < 1000000 ∧ b.2.length < fuel) (hl : l.length < 1000000000) (ht : totalI l < 1000000000000) (hf : l.length < fuel) (hc : ∀ c ∈ l, c.length < 1000000000 ∧ c.length < fuel) :
    ∃ u h', brun fuel (d + 6) F_qdimacs_Check [.agg (formulaC bs v l)] AHeap.none = some (u, h') ∧ freezeV h' 8 u = some (checkF bs v l) := by
  have s1 := (Sep0.start AHeap.none).push 1 3 (cs := formulaC bs v l) rfl
  have c12 : (AHeap.none.push 1 (formulaC bs v l)).cellsAt 2 (.mk ⟨AHeap.next AHeap.none, 0, 0 + 1⟩ 3) = some (cnfC v l) := (s1.sep.own (i := 0) rfl).parts (o := 0 + 1) (k := 2) (l := 3) (by omega) (by simp [formulaC])
  rw [e_qdimacs_Check, show List.all (formulaC bs v l) AVal.isCell = true from rfl, cond_true, show (formulaC bs v l).length = 3 from rfl]
  simp only [field_mk, Option.bind_some, c12]
  rw [Check_val fuel d hl ht hf hc]
  unfold checkF
  rcases checkI_cases v l with ⟨h1, _⟩ | ⟨⟨t, a, h1⟩, c, p, x, h2, h3, h4⟩
  · have s2 := s1.addMap
    have c0 : (AHeap.none.push 1 (formulaC bs v l)).newMap.cell (.mk ⟨AHeap.next AHeap.none, 0, 0 + 0⟩ 3) = some (.slice (lstBk bs)) := s2.part (i := 0) rfl (by omega) rfl
    rw [h1]
    simp only [nilTest_nilif, Option.bind_some, Bool.not_true, cond_false, c0, slice_slice]
    rw [len_lst]
    exact qk_out fuel (d + 5) hbs hb2 fuel 0 [] _ (by omega) (by omega) s2
  · rw [h1]
    simp only [nilTest_if, Option.bind_some, Bool.not_false, cond_true]
    refine ⟨_, _, rfl, ?_⟩
    rw [h1] at h4
    exact fault_freeze h4 _
theorem qck_run (fuel d : Nat) {bs : List Blk} {v : Int} {l : List (List Int)} (hbs : bs.length < 1000000) (hbf : bs.length < fuel) (hb2 : ∀ b ∈ bs, b.2.length < 1000000 ∧ b.2.length < fuel) (hl : l.length < 1000000000) (ht : totalI l < 1000000000000) (hf : l.length < fuel) (hc : ∀ c ∈ l, c.length < 1000000000 ∧ c.length < fuel) (h : AHeap) :
    run fuel (d + 6) F_qdimacs_Check [.agg (formulaC bs v l)] h = some (checkF bs v l, h) := by
  obtain ⟨u, h', e1, e2⟩ := qck_body fuel d hbs hbf hb2 hl ht hf hc
  exact pure_of rfl rfl (cc1 (canon_form bs v l)) e1 e2
/-! the reference's -/
theorem fk_in (fuel d : Nat) {bs : List Blk} {v : Int} {l : List (List Int)} {X F kk : Nat} (hk : kk < bs.length) (hvs : (bs.getD kk (false, [])).2.length < 1000000) {fc : List AVal} (hfc : fc.length = 3) {h0 : AHeap} (hf0 : 1000000 < fuel) : ∀ (n j : Nat) (seen : List Int) (t : Sl) (h : AHeap), (bs.getD kk (false, [])).2.length < n + j → j ≤ (bs.getD kk (false, [])).2.length → seen.length < 900000000 → seen.length + ((bs.getD kk (false, [])).2.length - j) < 1000000 →
    Sep0 h0 h [.own 1 X 0 3 (formulaC bs v l), .own 1 F 0 3 fc, .grown 1 t (intsC seen)] →
    match badVs v ((bs.getD kk (false, [])).2.drop j) seen with
    | none => ∃ t' h', l_skolemref1_CheckFormula_1 fuel (d + 1) n [(1, .ptr (.mk ⟨X, 0, 0⟩ 3)), (2, .ptr (.mk ⟨F, 0, 0⟩ 3)), (4, .slice t), (5, .int .i64 (kk : Int)), (6, .int .i64 (j : Int))] h = some (.ret, [(1, .ptr (.mk ⟨X, 0, 0⟩ 3)), (2, .ptr (.mk ⟨F, 0, 0⟩ 3)), (4, .slice t'), (5, .int .i64 (kk : Int))], h') ∧ Sep0 h0 h' [.own 1 F 0 3 (faultC 104 true (kk : Int))]
    | some s => ∃ t' h', l_skolemref1_CheckFormula_1 fuel (d + 1) n [(1, .ptr (.mk ⟨X, 0, 0⟩ 3)), (2, .ptr (.mk ⟨F, 0, 0⟩ 3)), (4, .slice t), (5, .int .i64 (kk : Int)), (6, .int .i64 (j : Int))] h = some (.exit 2, [(1, .ptr (.mk ⟨X, 0, 0⟩ 3)), (2, .ptr (.mk ⟨F, 0, 0⟩ 3)), (4, .slice t'), (5, .int .i64 (kk : Int))], h') ∧ Sep0 h0 h' [.own 1 X 0 3 (formulaC bs v l), .own 1 F 0 3 fc, .grown 1 t' (intsC s)] ∧ s.length = seen.length + ((bs.getD kk (false, [])).2.length - j) := by
  intro n
  induction n with
  | zero => intro j seen t h h1 h2; omega
  | succ n ih =>
    intro j seen t h h1 h2 h3 h4 hs
    have hl2 := hs.len (i := 2) rfl
    simp only [List.length_map, Nat.mul_one] at hl2
    have c0 : h.cell (.mk ⟨X, 0, 0 + 0⟩ 3) = some (.slice (lstBk bs)) := hs.part (i := 0) rfl (by omega) rfl
    have c1 : h.cell (.mk ⟨X, 0, 0 + 1 + 0⟩ 3) = some (.int .i64 v) := hs.part (i := 0) rfl (by omega) rfl
    have a1 : h.addr 2 (lstBk bs) (kk : Int) = some (.fp 0 (blkC (bs.getD kk (false, [])))) := addr_lstN (sz := 2) (f := blkC) blkC_len (l := bs) (j := (kk : Int)) (by omega) (by omega) (false, []) false
    have step := l_skolemref1_CheckFormula_1_eq fuel (d + 1) n (.mk ⟨X, 0, 0⟩ 3) (.mk ⟨F, 0, 0⟩ 3) t (kk : Int) (j : Int) h
    generalize bs.getD kk (false, []) = b at hvs h1 h2 h4 a1 ih ⊢
    simp only [field_mk, Option.bind_some, c0, slice_slice, a1, blkC, field_fp, List.drop_succ_cons, List.drop_zero, cell_fp] at step
    rw [len_lst] at step
    by_cases hj : j < b.2.length
    · have hd : b.2.drop j = b.2.getD j 0 :: b.2.drop (j + 1) := by rw [List.drop_eq_getElem_cons hj]; simp [List.getD, hj]
      rw [bif_pos (by omega), addr_lstM _ (by omega) (by omega) 0, Int.toNat_natCast] at step
      rw [hd]
      generalize b.2.getD j 0 = x at step
      simp only [Option.bind_some, cell_fp, int_int, c1] at step
      have e1 : ((bif ((decide (x < (1 : Int))) == false) then (some ((AVal.bool (decide (v < x))), h)) else (some ((.bool true), h)) : Option (AVal × AHeap))) = some (.bool (decide (x < 1) || decide (v < x)), h) := by
        cases decide (x < 1) <;> rfl
      rw [e1] at step
      simp only [Option.bind_some, bool_bool] at step
      rw [has_run fuel d (hs.sep.grown (i := 2) rfl).freezeI _ (by omega) (by omega), contains_dec'] at step
      simp only [Option.bind_some, bool_bool] at step
      have e2 : ∀ b : Bool, ((bif (b == false) then (some ((AVal.bool (seen.contains x)), h)) else (some ((.bool true), h)) : Option (AVal × AHeap))) = some (.bool (b || seen.contains x), h) := fun b => by cases b <;> rfl
      rw [e2] at step
      simp only [Option.bind_some, bool_bool] at step
      rw [show (decide (x < 1) || decide (v < x) || seen.contains x) = badX v x seen from rfl] at step
      unfold badVs
      cases hb : badX v x seen with
      | true =>
        rw [hb, cond_true, Placed_run fuel d (show (104 : Int) ≠ 0 by omega)] at step
        simp only [Option.bind_some, agg_agg] at step
        obtain ⟨g, e3, s3⟩ := hs.putAll (i := 1) (vs := faultC 104 true (kk : Int)) rfl hfc rfl
        rw [cond_pos _ _ (okF 104 true _), e3] at step
        simp only [if_true]
        exact ⟨t, g, step, s3.sub (List.Sublist.cons _ (List.Sublist.cons_cons _ (List.nil_sublist _)))⟩
      | false =>
        obtain ⟨t', g, e3, s3, l3⟩ := hs.grow (i := 2) (bytes := 8) (m := 1) (vs := [.int .i64 x]) rfl rfl (by omega) (by omega)
        rw [hb, cond_false, e3, Option.bind_some, sucU (by omega)] at step
        simp only [Bool.false_eq_true, if_false]
        have := ih (j + 1) (seen ++ [x]) t' g (by omega) (by omega) (by simp; omega) (by simp; omega) (by rw [intsC_app]; exact s3)
        rw [step]
        cases hv : badVs v (b.2.drop (j + 1)) (seen ++ [x]) with
        | none => rw [hv] at this; exact this
        | some s =>
          rw [hv] at this
          obtain ⟨t2, g2, q1, q2, q3⟩ := this
          exact ⟨t2, g2, q1, q2, by rw [q3, List.length_append]; simp; omega⟩
    · have : j = b.2.length := by omega
      subst this
      rw [bif_neg (by omega)] at step
      rw [List.drop_length]
      exact ⟨t, h, step, hs, by simp⟩
theorem fk_out (fuel d : Nat) {bs : List Blk} {v : Int} {l : List (List Int)} {X F : Nat} {fc : List AVal} (hfc : fc.length = 3) {h0 : AHeap} (hf0 : 1000000 < fuel) (hbs : bs.length < 1000) (hb2 : ∀ b ∈ bs, b.2.length < 900) : ∀ (n k : Nat) (seen : List Int) (t : Sl) (h : AHeap), bs.length < n + k → k ≤ bs.length → seen.length ≤ 900 * k →
    Sep0 h0 h [.own 1 X 0 3 (formulaC bs v l), .own 1 F 0 3 fc, .grown 1 t (intsC seen)] →
    ∃ h', (l_skolemref1_CheckFormula_0 fuel (d + 1) n [(1, .ptr (.mk ⟨X, 0, 0⟩ 3)), (2, .ptr (.mk ⟨F, 0, 0⟩ 3)), (4, .slice t), (5, .int .i64 (k : Int))] h).bind (fun p => k_skolemref1_CheckFormula_0 fuel (d + 1) p.1 p.2.1 p.2.2) = some (.agg (bkF (badBs v (bs.drop k) seen k)), h') := by
  intro n
  induction n with
  | zero => intro k seen t h h1 h2; omega
  | succ n ih =>
    intro k seen t h h1 h2 h3 hs
    have c0 : h.cell (.mk ⟨X, 0, 0 + 0⟩ 3) = some (.slice (lstBk bs)) := hs.part (i := 0) rfl (by omega) rfl
    rw [l_skolemref1_CheckFormula_0_eq]
    simp only [field_mk, Option.bind_some, c0, slice_slice]
    rw [len_lst]
    by_cases hk : k < bs.length
    · have hd : bs.drop k = bs.getD k (false, []) :: bs.drop (k + 1) := by rw [List.drop_eq_getElem_cons hk]; simp [List.getD, hk]
      have hx := hb2 (bs.getD k (false, [])) (by simp [List.getD, hk])
      have q := fk_in fuel d (v := v) (l := l) (X := X) (F := F) hk (by omega) hfc hf0 fuel 0 seen t h (by omega) (by omega) (by omega) (by omega) hs
      rw [List.drop_zero] at q
      rw [bif_pos (by omega), hd]
      unfold badBs
      rw [show ((0 : Nat) : Int) = 0 from rfl] at q
      cases hv : badVs v (bs.getD k (false, [])).2 seen with
      | none =>
        rw [hv] at q
        obtain ⟨t', h', e1, s4⟩ := q
        rw [e1]
        simp only [Option.bind_some, k_skolemref1_CheckFormula_1_r, k_skolemref1_CheckFormula_0_r]
        rw [s4.getAll (i := 0) rfl rfl]
        exact ⟨h', rfl⟩
      | some s =>
        rw [hv] at q
        obtain ⟨t', h', e1, s4, l4⟩ := q
        rw [e1]
        simp only [Option.bind_some, k_skolemref1_CheckFormula_1_x2]
        rw [sucU (by omega)]
        exact ih (k + 1) s t' h' (by omega) (by omega) (by omega) s4
    · have : k = bs.length := by omega
      subst this
      rw [bif_neg (by omega), List.drop_length]
      simp only [Option.bind_some, k_skolemref1_CheckFormula_0_x0]
      rw [None_run fuel d]
      simp only [Option.bind_some, agg_agg]
      obtain ⟨g, e3, s3⟩ := hs.putAll (i := 1) (vs := faultC 0 false 0) rfl hfc rfl
      rw [cond_pos _ _ (okF 0 false 0), e3, Option.bind_some, s3.getAll (i := 1) rfl rfl]
      exact ⟨g, rfl⟩
theorem fck_run (fuel d : Nat) {bs : List Blk} {v : Int} {l : List (List Int)} (hf0 : 1000000 < fuel) (hbs : bs.length < 1000) (hb2 : ∀ b ∈ bs, b.2.length < 900) (hl : l.length < 1000000000) (ht : totalI l < 1000000000000) (hf : l.length < fuel) (hc : ∀ c ∈ l, c.length < 1000000000 ∧ c.length < fuel) (h : AHeap) :
    run fuel (d + 3) F_skolemref1_CheckFormula [.agg (formulaC bs v l)] h = some (.agg (faultF bs v l), h) := by
  have s1 := ((Sep0.start AHeap.none).push 1 3 (cs := formulaC bs v l) rfl).push 1 3 (cs := [(AVal.int .i64 (0 : Int)), (.bool false), (.int .i64 (0 : Int))]) rfl
  have key : ∃ h', brun fuel (d + 3) F_skolemref1_CheckFormula [.agg (formulaC bs v l)] AHeap.none = some (.agg (faultF bs v l), h') := by
    rw [e_skolemref1_CheckFormula, show List.all (formulaC bs v l) AVal.isCell = true from rfl, cond_true, show (formulaC bs v l).length = 3 from rfl]
    generalize hA : AHeap.next AHeap.none = A at s1 ⊢
    generalize hB : AHeap.next (AHeap.push AHeap.none 1 (formulaC bs v l)) = B at s1 ⊢
    generalize AHeap.push (AHeap.push AHeap.none 1 (formulaC bs v l)) 1 [(AVal.int .i64 (0 : Int)), (.bool false), (.int .i64 (0 : Int))] = H at s1 ⊢
    have c12 : H.cellsAt 2 (.mk ⟨A, 0, 0 + 1⟩ 3) = some (cnfC v l) := (s1.sep.own (i := 0) rfl).parts (o := 0 + 1) (k := 2) (l := 3) (by omega) (by simp [formulaC])
    simp only [field_mk, Option.bind_some, c12]
    rw [CheckCNF_val fuel d hl ht hf hc]
    simp only [Option.bind_some, agg_agg]
    unfold faultF
    have s2 := s1.push 1 3 (cs := [(AVal.int .i64 (0 : Int)), (.bool false), (.int .i64 (0 : Int))]) rfl
    rcases checkI_cases v l with ⟨h1, h2, _⟩ | ⟨⟨t, a, h1⟩, c, p, x, h2, h3, h4⟩
    · rw [h1, h2, cond_pos _ _ (okF 0 false 0)]
      obtain ⟨g, e3, s3⟩ := s2.putAll (i := 2) (vs := faultC 0 false 0) rfl rfl rfl
      have cF : g.cell (.mk ⟨AHeap.next H, 0, 0 + 0⟩ 3) = some (.int .i64 0) := s3.part (i := 2) rfl (by omega) rfl
      rw [e3]
      simp only [Option.bind_some, cF, int_int]
      rw [bif_npos trivial]
      have s4 : Sep0 AHeap.none g [.own 1 A 0 3 (formulaC bs v l), .own 1 B 0 3 [(AVal.int .i64 (0 : Int)), (.bool false), (.int .i64 (0 : Int))], .grown 1 .nil (intsC [])] := (s3.addNil 1).sub (List.Sublist.cons_cons _ (List.Sublist.cons_cons _ (List.Sublist.cons _ (List.Sublist.refl _))))
      exact fk_out fuel (d + 1) rfl hf0 hbs hb2 fuel 0 [] .nil g (by omega) (by omega) (by simp) s4
    · rw [h1, h3, cond_pos _ _ (okF c p x)]
      obtain ⟨g, e3, s3⟩ := s2.putAll (i := 2) (vs := faultC c p x) rfl rfl rfl
      have cF : g.cell (.mk ⟨AHeap.next H, 0, 0 + 0⟩ 3) = some (.int .i64 c) := s3.part (i := 2) rfl (by omega) rfl
      rw [e3]
      simp only [Option.bind_some, cF, int_int]
      obtain ⟨g2, e4, s4⟩ := s3.putAll (i := 1) (vs := faultC c p x) rfl rfl rfl
      rw [bif_nneg h2, s3.getAll (i := 2) rfl rfl, Option.bind_some, cond_pos _ _ (okF c p x), e4, Option.bind_some, s4.getAll (i := 1) rfl rfl]
      exact ⟨g2, rfl⟩
  obtain ⟨h', e1⟩ := key
  obtain ⟨c, p, x, e2, _⟩ := checkF_fault bs v l
  refine pure_of rfl rfl (cc1 (canon_form bs v l)) e1 ?_
  rw [e2]; exact freeze_fault c p x
end Go.Proofs.YtdkckkhghghhdaaDoor

namespace Go.Proofs.YtdkckkhghghhdaaDoor
open Go.RowKit

theorem badVs_cons {v : Int} {x : Int} {l seen s : List Int} (h : badVs v (x :: l) seen = some s) : badX v x seen = false ∧ badVs v l (seen ++ [x]) = some s := by
  unfold badVs at h
  cases hb : badX v x seen with
  | true => rw [hb] at h; simp at h
  | false => rw [hb] at h; exact ⟨rfl, by simpa using h⟩
theorem blockT_line (e v : Int) (hv : v ≤ 4000) : ∀ (l : List Int) (p : Nat) (r : List UInt8) (seen acc s : List Int), badVs v l seen = some s → ∃ q, blockT e v (wordsOf (lineT l ++ r) p false false) seen acc = .ok (acc ++ l) s (wordsOf r q true false)
  | [], p, r, seen, acc, s, h => by
    cases h
    obtain ⟨q, e1, _⟩ := W_line [] r p false
    refine ⟨q, ?_⟩
    rw [e1]
    simp only [numWs, List.nil_append, blockT]
    rw [if_pos (by decide), List.append_nil]
  | x :: l, p, r, seen, acc, s, h => by
    obtain ⟨h1, h2⟩ := badVs_cons h
    have hx : 1 ≤ x ∧ x ≤ v := by
      unfold badX at h1
      simp only [Bool.or_eq_false_iff, decide_eq_false_iff_not] at h1
      omega
    obtain ⟨w1, w2, w3, _⟩ := decT_word x
    obtain ⟨t1, t2, _⟩ := decT_num (x := x) (by omega) (by omega)
    have e1 : lineT (x :: l) ++ r = decT x ++ 32 :: (lineT l ++ r) := by simp [lineT, numsT]
    rw [e1, W_one w1 w2 (Stops.sp _) p (fun h => by cases h), W_sp]
    simp only [blockT, t1, t2]
    have hb : badV (decT x) v seen = false := by
      unfold badV
      rw [t1, t2]
      unfold badX at h1
      simpa using h1
    rw [if_neg (by simp; omega), hb, if_neg (by simp)]
    obtain ⟨q, e2⟩ := blockT_line e v hv l (p + (decT x).length + 1) r (seen ++ [x]) (acc ++ [x]) s h2
    exact ⟨q, by rw [e2]; simp⟩
theorem lines_first (L : List (List Int)) (p : Nat) : begI (wordsOf (linesT L) p true false) = false := by
  cases L with
  | nil => rw [show linesT [] = [] from rfl, W_nil]; rfl
  | cons c L =>
    obtain ⟨q, e1, _⟩ := W_line c (linesT L) p true
    rw [linesT_cons, e1]
    cases c with
    | nil => rfl
    | cons x c =>
      obtain ⟨w1, w2, w3, w4, w5, _⟩ := decT_word x
      simp only [numWs, List.cons_append, begI, isBk]
      have h1 : (decT x == [97]) = false := beq_false_of_ne fun e => w4 (by rw [e]; rfl)
      have h2 : (decT x == [101]) = false := beq_false_of_ne fun e => w5 (by rw [e]; rfl)
      rw [h1, h2]; rfl
theorem blocksT_stop (e v : Int) (n : Nat) (ws : List Wd) (seen : List Int) (bs : List Blk) (h : begI ws = false) : blocksT e v n ws seen bs = .ok bs ws := by
  cases n with
  | zero => rfl
  | succ n =>
    cases ws with
    | nil => rfl
    | cons w ws =>
      unfold blocksT
      rw [if_neg (by rw [show isBk w = false from h]; simp)]
theorem blocksT_text (e v : Int) (hv : v ≤ 4000) (L : List (List Int)) : ∀ (bs : List Blk) (n p k : Nat) (seen : List Int) (out : List Blk), bs.length ≤ n → badBs v bs seen k = none → ∃ q, blocksT e v n (wordsOf (blksT bs ++ linesT L) p true false) seen out = .ok (out ++ bs) (wordsOf (linesT L) q true false)
  | [], n, p, k, seen, out, hn, h => by
    refine ⟨p, ?_⟩
    rw [show blksT [] ++ linesT L = linesT L from rfl, blocksT_stop _ _ _ _ _ _ (lines_first L p), List.append_nil]
  | b :: bs, n, p, k, seen, out, hn, h => by
    simp only [List.length_cons] at hn
    obtain ⟨n, rfl⟩ : ∃ m, n = m + 1 := ⟨n - 1, by omega⟩
    unfold badBs at h
    cases hv2 : badVs v b.2 seen with
    | none => rw [hv2] at h; cases h
    | some s =>
      rw [hv2] at h
      have he : blksT (b :: bs) ++ linesT L = (if b.1 = true then [101] else [97]) ++ 32 :: (lineT b.2 ++ (blksT bs ++ linesT L)) := by
        rw [blksT_cons]
        unfold blkT
        cases b.1 <;> simp
      have hw : wordsOf ((if b.1 = true then [101] else [97]) ++ 32 :: (lineT b.2 ++ (blksT bs ++ linesT L))) p true false = ⟨if b.1 = true then [101] else [97], p, true⟩ :: wordsOf (lineT b.2 ++ (blksT bs ++ linesT L)) (p + 2) false false := by
        cases b.1 with
        | true => rw [if_pos rfl, W_one (by simp) (by decide) (Stops.sp _) p (fun _ => by simp), W_sp]; rfl
        | false => rw [if_neg (by simp), W_one (by simp) (by decide) (Stops.sp _) p (fun _ => by simp), W_sp]; rfl
      obtain ⟨q1, e1⟩ := blockT_line e v hv b.2 (p + 2) (blksT bs ++ linesT L) seen [] s hv2
      obtain ⟨q2, e2⟩ := blocksT_text e v hv L bs n q1 (k + 1) s (out ++ [b]) (by omega) h
      refine ⟨q2, ?_⟩
      rw [he, hw]
      unfold blocksT
      have hb : isBk ⟨if b.1 = true then [101] else [97], p, true⟩ = true := by cases b.1 <;> rfl
      have hx : ((if b.1 = true then [101] else [97] : List UInt8) == [101]) = b.1 := by cases b.1 <;> rfl
      rw [if_pos hb, e1]
      simp only [List.nil_append, hx]
      rw [e2]
      simp
theorem blks_words (r : List UInt8) : ∀ (bs : List Blk) (p : Nat), ∃ q, bs.length ≤ (wordsOf (blksT bs ++ r) p true false).length ∧ q = p
  | [], p => ⟨p, Nat.zero_le _, rfl⟩
  | b :: bs, p => by
    refine ⟨p, ?_, rfl⟩
    have he : blksT (b :: bs) ++ r = (if b.1 = true then [101] else [97]) ++ 32 :: (lineT b.2 ++ (blksT bs ++ r)) := by
      rw [blksT_cons]
      unfold blkT
      cases b.1 <;> simp
    have hw : wordsOf ((if b.1 = true then [101] else [97]) ++ 32 :: (lineT b.2 ++ (blksT bs ++ r))) p true false = ⟨if b.1 = true then [101] else [97], p, true⟩ :: wordsOf (lineT b.2 ++ (blksT bs ++ r)) (p + 2) false false := by
      cases b.1 with
      | true => rw [if_pos rfl, W_one (by simp) (by decide) (Stops.sp _) p (fun _ => by simp), W_sp]; rfl
      | false => rw [if_neg (by simp), W_one (by simp) (by decide) (Stops.sp _) p (fun _ => by simp), W_sp]; rfl
    obtain ⟨q, e1, _⟩ := W_line b.2 (blksT bs ++ r) (p + 2) false
    obtain ⟨_, h1, _⟩ := blks_words r bs q
    rw [he, hw, e1]
    simp only [List.length_cons, List.length_append]
    omega
theorem rdF_text {v : Int} {bs : List Blk} {L : List (List Int)} (hv : 0 ≤ v) (hv1 : v ≤ 4000) (hL : L.length ≤ 20000) (hl : ∀ c ∈ L, ∀ x ∈ c, LitOk v x) (hb : badBs v bs [] 0 = none) : rdF (formTx bs v L) = (v, bs, L, none) := by
  obtain ⟨p, q, e⟩ := W_head v (L.length : Int) (blksT bs ++ linesT L)
  have he : formTx bs v L = headTx v (L.length : Int) ++ (blksT bs ++ linesT L) := by simp [formTx]
  have hlen : bs.length ≤ (splitOf (formTx bs v L) true).length + 1 := by
    rw [splitOf_words, he, e]
    obtain ⟨_, h1, _⟩ := blks_words (linesT L) bs q
    simp only [List.length_cons]
    omega
  unfold rdF
  obtain ⟨q2, e2⟩ := blocksT_text (((formTx bs v L).length : Nat) : Int) v hv1 L bs ((splitOf (formTx bs v L) true).length + 1) q 0 [] [] hlen hb
  generalize (splitOf (formTx bs v L) true).length + 1 = N at e2 ⊢
  rw [splitOf_words]
  rw [he, e, headT_text hv hv1 (by omega) (by omega)]
  simp only [List.drop_succ_cons, List.drop_zero]
  rw [← he, e2]
  simp only [List.nil_append]
  rw [clT_lines _ _ _ L q2 true [] (by simp) hl]
  simp
end Go.Proofs.YtdkckkhghghhdaaDoor

namespace Go.Proofs.YtdkckkhghghhdaaDoor
open Go.RowKit

def rfrA (r : FR) : AVal := .tup [.agg (formulaC r.2.1 r.1 r.2.2.1), .agg (faultO r.2.2.2)]
/-- the frame of the reference's loops -/
abbrev rfFr (b : List UInt8) (W : List Wd) (A B F Q : Nat) (v m : Int) (s : Sl) (k : Nat) : Fr :=
  [(0, .slice (lstU b)), (2, .ptr (.mk ⟨A, 0, 0⟩ 3)), (3, .ptr (.mk ⟨B, 0, 0⟩ 3)), (4, .slice (lstW W)), (5, .int .i64 v), (6, .int .i64 m), (7, .ptr (.mk ⟨F, 0, 0⟩ 3)), (8, .ptr (.mk ⟨Q, 0, 0⟩ 3)), (9, .slice s), (10, .int .i64 (k : Int))]
/-- what the inner loop leaves -/
def RkPost (b : List UInt8) (W : List Wd) (A B F Q X : Nat) (v m : Int) (ex : Bool) (fa fb ff fq : List AVal) (L : List Chunk) (h0 : AHeap) : BkR → AExit → Fr → AHeap → Prop
  | .bad p, e, fr, h' => ∃ t k, e = .ret ∧ fr = rfFr b W A B F Q v m t k ++ [(11, .ptr (.mk ⟨X, 0, 0⟩ 2))] ∧ Sep0 h0 h' [.own 1 A 0 3 zero3, .own 1 B 0 3 (faultC 101 true p)]
  | .ok l seen ws, e, fr, h' => ∃ s t k, e = .exit 2 ∧ fr = rfFr b W A B F Q v m t k ++ [(11, .ptr (.mk ⟨X, 0, 0⟩ 2))] ∧
      Sep0 h0 h' (.own 1 A 0 3 fa :: .own 1 B 0 3 fb :: .own 1 F 0 3 ff :: .own 1 Q 0 3 fq :: .own 1 X 0 2 [.bool ex, .slice s] :: .grown 1 s (intsC l) :: .grown 1 t (intsC seen) :: L) ∧ ws = W.drop k ∧ k ≤ W.length ∧ seen.length ≤ k ∧ seen.contains 0 = false
end Go.Proofs.YtdkckkhghghhdaaDoor

namespace Go.Proofs.YtdkckkhghghhdaaDoor
open Go.RowKit

/-- the frame of the outer loop behind the blocks -/
abbrev rfEx (b : List UInt8) (W : List Wd) (A B F Q : Nat) (v m : Int) (k : Nat) : Fr :=
  [(0, .slice (lstU b)), (2, .ptr (.mk ⟨A, 0, 0⟩ 3)), (3, .ptr (.mk ⟨B, 0, 0⟩ 3)), (4, .slice (lstW W)), (5, .int .i64 v), (6, .int .i64 m), (7, .ptr (.mk ⟨F, 0, 0⟩ 3)), (8, .ptr (.mk ⟨Q, 0, 0⟩ 3)), (10, .int .i64 (k : Int))]
/-- what the outer loop leaves -/
def RsPost (b : List UInt8) (W : List Wd) (A B F Q : Nat) (v m : Int) (fa fb ff : List AVal) (h0 : AHeap) : BsR → AExit → Fr → AHeap → Prop
  | .bad p, e, fr, h' => ∃ k, e = .ret ∧ fr = rfEx b W A B F Q v m k ∧ Sep0 h0 h' [.own 1 A 0 3 zero3, .own 1 B 0 3 (faultC 101 true p)]
  | .ok l ws, e, fr, h' => ∃ o k, e = .exit 0 ∧ fr = rfEx b W A B F Q v m k ∧
      Sep0 h0 h' [.own 1 A 0 3 fa, .own 1 B 0 3 fb, .own 1 F 0 3 ff, .own 1 Q 0 3 [.slice o, .int .i64 0, .slice Sl.nil], .grown 2 o (blksC l)] ∧ ws = W.drop k ∧ k ≤ W.length
end Go.Proofs.YtdkckkhghghhdaaDoor

namespace Go.Proofs.YtdkckkhghghhdaaDoor
open Go.RowKit

end Go.Proofs.YtdkckkhghghhdaaDoor

namespace Go.Proofs.YtdkckkhghghhdaaDoor
open Go.RowKit

theorem sameCl_loop (fuel d : Nat) {l : List (List Int)} (hl : l.length < 1000000000) (hs : ∀ s ∈ l, s.length < 1000000000 ∧ s.length < fuel) (h : AHeap) : ∀ (n k : Nat), l.length < n + k → k ≤ l.length →
    l_skolemref_SameClauses_0 fuel (d + 1) n [(0, .slice (lstLL l)), (1, .slice (lstLL l)), (5, .int .i64 (k : Int))] h = some (.exit 0, [(4, .bot)], h) := by
  intro n
  induction n with
  | zero => intro k h1 h2; omega
  | succ n ih =>
    intro k h1 h2
    rw [l_skolemref_SameClauses_0_eq, len_lst]
    by_cases hk : k < l.length
    · obtain ⟨q1, q2⟩ := hs (l.getD k []) (by simp [List.getD, hk])
      rw [bif_pos (by omega), addr_lstM _ (by omega) (by omega) [], Int.toNat_natCast]
      generalize l.getD k [] = s at q1 q2
      simp only [Option.bind_some, cell_fp, slice_slice]
      rw [sameI_run fuel d (freeze_lstI 7 _) (freeze_lstI 7 _) q1 q2]
      simp only [Option.bind_some, bool_bool, decide_true, Bool.not_true, cond_false]
      rw [sucS (by omega)]
      exact ih (k + 1) (by omega) (by omega)
    · rw [bif_neg (by omega)]
theorem sameCl_run (fuel d : Nat) {l : List (List Int)} (hl : l.length < 1000000000) (hlf : l.length < fuel) (hs : ∀ s ∈ l, s.length < 1000000000 ∧ s.length < fuel) (h : AHeap) : run fuel (d + 2) F_skolemref_SameClauses [.slice (lstLL l), .slice (lstLL l)] h = some (.bool true, h) := by
  refine pure_of rfl rfl (cc2 (canon_lstLL 7 l) (canon_lstLL 7 l)) (r := .bool true) (h' := AHeap.none) ?_ rfl
  rw [e_skolemref_SameClauses, len_lst, bif_npos rfl]
  have := sameCl_loop fuel d hl hs AHeap.none fuel 0 (by omega) (by omega)
  rw [show ((0 : Nat) : Int) = 0 from rfl] at this
  rw [this]
  simp only [Option.bind_some, k_skolemref_SameClauses_0_x0]
theorem sameCNF_run (fuel d : Nat) (v : Int) {l : List (List Int)} (hl : l.length < 1000000000) (hlf : l.length < fuel) (hs : ∀ s ∈ l, s.length < 1000000000 ∧ s.length < fuel) (h : AHeap) : run fuel (d + 3) F_skolemref_SameCNF [.agg (cnfC v l), .agg (cnfC v l)] h = some (.bool true, h) := by
  have hc : canonV 8 (.agg (cnfC v l)) = some (.agg (cnfC v l)) := by
    unfold cnfC
    rw [canon_agg, canonM_cons (u := .int .i64 v) rfl (canonM_cons (u := .slice (lstLL l)) (canon_lstLL _ _) (canonM_nil _))]
    rfl
  refine pure_of rfl rfl (cc2 hc hc) (r := .bool true) ?_ rfl (h' := (AHeap.none.push 1 (cnfC v l)).push 1 (cnfC v l))
  rw [e_skolemref_SameCNF, show List.all (cnfC v l) AVal.isCell = true from rfl, cond_true, cond_true, show (cnfC v l).length = 2 from rfl]
  have s1 := ((Sep0.start AHeap.none).push 1 2 (cs := cnfC v l) rfl).push 1 2 (cs := cnfC v l) rfl
  have a0 : ((AHeap.none.push 1 (cnfC v l)).push 1 (cnfC v l)).cell (.mk ⟨AHeap.none.next, 0, 0 + 0⟩ 2) = some (.int .i64 v) := s1.part (i := 0) rfl (by omega) rfl
  have a1 : ((AHeap.none.push 1 (cnfC v l)).push 1 (cnfC v l)).cell (.mk ⟨AHeap.none.next, 0, 0 + 1⟩ 2) = some (.slice (lstLL l)) := s1.part (i := 0) rfl (by omega) rfl
  have b0 : ((AHeap.none.push 1 (cnfC v l)).push 1 (cnfC v l)).cell (.mk ⟨(AHeap.none.push 1 (cnfC v l)).next, 0, 0 + 0⟩ 2) = some (.int .i64 v) := s1.part (i := 1) rfl (by omega) rfl
  have b1 : ((AHeap.none.push 1 (cnfC v l)).push 1 (cnfC v l)).cell (.mk ⟨(AHeap.none.push 1 (cnfC v l)).next, 0, 0 + 1⟩ 2) = some (.slice (lstLL l)) := s1.part (i := 1) rfl (by omega) rfl
  simp only [field_mk, Option.bind_some, a0, a1, b0, b1, int_int, slice_slice, decide_true, beq_self_eq_true, cond_true]
  rw [sameCl_run fuel d hl hlf hs]
  simp only [Option.bind_some, bool_bool]

theorem same_true (fuel d : Nat) {u : AVal} {c x : Int} {q : Bool} (hu : IsFault u c q x) (hf : 10 < fuel) (h : AHeap) : run fuel (d + 4) F_skolemsee_Same [u, .agg (faultC c q x)] h = some (.bool true, h) := by
  rw [Same_run fuel d hu hf c q x, decide_eq_true (rfl : c = c), decide_eq_true (rfl : x = x)]
  cases q <;> rfl
end Go.Proofs.YtdkckkhghghhdaaDoor

namespace Go.Proofs.YtdkckkhghghhdaaDoor
open Go.RowKit

theorem sameBlk_run (fuel d : Nat) {b : Blk} (hb : b.2.length < 1000000) (hf : b.2.length < fuel) (h : AHeap) : run fuel (d + 2) F_skolemref_SameBlock [.agg (blkC b), .agg (blkC b)] h = some (.bool true, h) := by
  have hc : canonV 8 (.agg (blkC b)) = some (.agg (blkC b)) := by
    unfold blkC
    rw [canon_agg, canonM_cons (u := .bool b.1) rfl (canonM_cons (u := .slice (lstI b.2)) (canon_lstI _ _) (canonM_nil _))]
    rfl
  have s1 := ((Sep0.start AHeap.none).push 1 2 (cs := blkC b) rfl).push 1 2 (cs := blkC b) rfl
  have a0 : ((AHeap.none.push 1 (blkC b)).push 1 (blkC b)).cell (.mk ⟨AHeap.none.next, 0, 0 + 0⟩ 2) = some (.bool b.1) := s1.part (i := 0) rfl (by omega) rfl
  have a1 : ((AHeap.none.push 1 (blkC b)).push 1 (blkC b)).cell (.mk ⟨AHeap.none.next, 0, 0 + 1⟩ 2) = some (.slice (lstI b.2)) := s1.part (i := 0) rfl (by omega) rfl
  have b0 : ((AHeap.none.push 1 (blkC b)).push 1 (blkC b)).cell (.mk ⟨(AHeap.none.push 1 (blkC b)).next, 0, 0 + 0⟩ 2) = some (.bool b.1) := s1.part (i := 1) rfl (by omega) rfl
  have b1 : ((AHeap.none.push 1 (blkC b)).push 1 (blkC b)).cell (.mk ⟨(AHeap.none.push 1 (blkC b)).next, 0, 0 + 1⟩ 2) = some (.slice (lstI b.2)) := s1.part (i := 1) rfl (by omega) rfl
  refine pure_of rfl rfl (cc2 hc hc) (r := .bool true) ?_ rfl (h' := (AHeap.none.push 1 (blkC b)).push 1 (blkC b))
  rw [e_skolemref_SameBlock, show List.all (blkC b) AVal.isCell = true from rfl, cond_true, cond_true, show (blkC b).length = 2 from rfl]
  simp only [field_mk, Option.bind_some, a0, a1, b0, b1, bool_bool, slice_slice, beq_self_eq_true, cond_true]
  rw [sameI_run fuel d (freeze_lstI 7 _) (freeze_lstI 7 _) (by omega) hf]
  simp only [Option.bind_some, bool_bool, decide_true]
theorem sameBlks_loop (fuel d : Nat) {l : List Blk} (hl : l.length < 1000000) (hs : ∀ b ∈ l, b.2.length < 1000000 ∧ b.2.length < fuel) (h : AHeap) : ∀ (n k : Nat), l.length < n + k → k ≤ l.length →
    l_skolemref_SameBlocks_0 fuel (d + 2) n [(0, .slice (lstBk l)), (1, .slice (lstBk l)), (5, .int .i64 (k : Int))] h = some (.exit 0, [(4, .bot)], h) := by
  intro n
  induction n with
  | zero => intro k h1 h2; omega
  | succ n ih =>
    intro k h1 h2
    rw [l_skolemref_SameBlocks_0_eq, len_lst]
    by_cases hk : k < l.length
    · obtain ⟨q1, q2⟩ := hs (l.getD k (false, [])) (by simp [List.getD, hk])
      rw [bif_pos (by omega), addr_lstN (sz := 2) (f := blkC) blkC_len (by omega) (by omega) (false, []), Int.toNat_natCast]
      generalize l.getD k (false, []) = b at q1 q2
      simp only [Option.bind_some, cellsAt_fp (blkC_len b)]
      rw [sameBlk_run fuel d q1 q2]
      simp only [Option.bind_some, bool_bool, Bool.not_true, cond_false]
      rw [sucS (by omega)]
      exact ih (k + 1) (by omega) (by omega)
    · rw [bif_neg (by omega)]
theorem canon_lstBk (l : List Blk) : canonV 8 (.slice (lstBk l)) = some (.slice (lstBk l)) := canon_lst (closedL_flatMap closed_blkC l)
theorem sameBlks_run (fuel d : Nat) {l : List Blk} (hl : l.length < 1000000) (hlf : l.length < fuel) (hs : ∀ b ∈ l, b.2.length < 1000000 ∧ b.2.length < fuel) (h : AHeap) : run fuel (d + 3) F_skolemref_SameBlocks [.slice (lstBk l), .slice (lstBk l)] h = some (.bool true, h) := by
  refine pure_of rfl rfl (cc2 (canon_lstBk l) (canon_lstBk l)) (r := .bool true) (h' := AHeap.none) ?_ rfl
  rw [e_skolemref_SameBlocks, len_lst, bif_npos rfl]
  have := sameBlks_loop fuel d hl hs AHeap.none fuel 0 (by omega) (by omega)
  rw [show ((0 : Nat) : Int) = 0 from rfl] at this
  rw [this]
  simp only [Option.bind_some, k_skolemref_SameBlocks_0_x0]
theorem sameForm_run (fuel d : Nat) {bs : List Blk} (v : Int) {l : List (List Int)} (hb : bs.length < 1000000) (hbf : bs.length < fuel) (hbs : ∀ b ∈ bs, b.2.length < 1000000 ∧ b.2.length < fuel)
    (hl : l.length < 1000000000) (hlf : l.length < fuel) (hs : ∀ s ∈ l, s.length < 1000000000 ∧ s.length < fuel) (h : AHeap) : run fuel (d + 4) F_skolemref_SameFormula [.agg (formulaC bs v l), .agg (formulaC bs v l)] h = some (.bool true, h) := by
  have s1 := ((Sep0.start AHeap.none).push 1 3 (cs := formulaC bs v l) rfl).push 1 3 (cs := formulaC bs v l) rfl
  generalize hH : ((AHeap.none.push 1 (formulaC bs v l)).push 1 (formulaC bs v l)) = H at s1
  have a0 : H.cell (.mk ⟨AHeap.none.next, 0, 0 + 0⟩ 3) = some (.slice (lstBk bs)) := s1.part (i := 0) rfl (by omega) rfl
  have a1 : H.cellsAt 2 (.mk ⟨AHeap.none.next, 0, 0 + 1⟩ 3) = some (cnfC v l) := (s1.sep.own (i := 0) rfl).parts (o := 0 + 1) (k := 2) (l := 3) (by omega) (by simp [formulaC])
  have b0 : H.cell (.mk ⟨(AHeap.none.push 1 (formulaC bs v l)).next, 0, 0 + 0⟩ 3) = some (.slice (lstBk bs)) := s1.part (i := 1) rfl (by omega) rfl
  have b1 : H.cellsAt 2 (.mk ⟨(AHeap.none.push 1 (formulaC bs v l)).next, 0, 0 + 1⟩ 3) = some (cnfC v l) := (s1.sep.own (i := 1) rfl).parts (o := 0 + 1) (k := 2) (l := 3) (by omega) (by simp [formulaC])
  refine pure_of rfl rfl (cc2 (canon_form bs v l) (canon_form bs v l)) (r := .bool true) ?_ rfl (h' := H)
  rw [e_skolemref_SameFormula, show List.all (formulaC bs v l) AVal.isCell = true from rfl, cond_true, cond_true, show (formulaC bs v l).length = 3 from rfl, hH]
  simp only [field_mk, Option.bind_some, a0, b0, slice_slice]
  rw [sameBlks_run fuel d hb hbf hbs]
  simp only [Option.bind_some, bool_bool, beq_self_eq_true, cond_true, a1, b1]
  rw [sameCNF_run fuel d v hl hlf hs]
  simp only [Option.bind_some, bool_bool]
theorem okQ (bs : List Blk) (v : Int) (l : List (List Int)) : (!false && Nat.beq (List.length (formulaC bs v l)) 3 && List.all (formulaC bs v l) AVal.isCell) = true := rfl
theorem first5_run (fuel : Nat) {e : Nat} (he : 9 ≤ e) (hf : 1000 ≤ fuel) (h : AHeap) : run fuel e F_skolemlaw5_first [] h = some (.bool true, h) := by
  obtain ⟨d, rfl⟩ : ∃ d, e = d + 9 := ⟨e - 9, by omega⟩
  refine pure_ex rfl rfl canonL_nil (r := .bool true) ?_ (fun _ => rfl)
  rw [e_skolemlaw5_first, fread_nil fuel d (by omega), show frA (rdF []) = .tup [.agg (formulaC [] 0 []), atV 0 err_api_ErrText] from rfl]
  simp only [Option.bind_some, tup2, comp0, comp1, cond_true, agg_agg]
  rw [cond_pos _ _ (okQ [] 0 [])]
  have s1 := (Sep0.start AHeap.none).push 1 3 (cs := zero3) rfl
  obtain ⟨h5, e5, _⟩ := s1.putAll (i := 0) (vs := formulaC [] 0 []) rfl rfl rfl
  rw [e5]
  simp only [Option.bind_some]
  rw [Placed_run fuel (d + 7) (show (101 : Int) ≠ 0 by omega)]
  simp only [Option.bind_some, agg_agg]
  rw [same_true fuel (d + 4) (u := atV 0 err_api_ErrText) (c := 101) (q := true) (x := 0) (IsFault.at (j := 0) (by omega) 0) (by omega)]
  simp only [Option.bind_some, bool_bool, beq_self_eq_true, cond_true]
  rw [qB_none fuel (d + 1) hf]
  simp only [Option.bind_some, slice_slice, bool_bool]
  have hl := (headTx_len (v := 0) (n := 0) ⟨by omega, by omega⟩ ⟨by omega, by omega⟩).2
  rw [len_lst, decide_eq_true (show (0 : Int) < ((formTx [] 0 []).length : Int) by unfold formTx; simp only [List.length_append, List.length_nil, Int.ofNat_zero] at *; omega)]
  exact ⟨_, rfl⟩

end Go.Proofs.YtdkckkhghghhdaaDoor

namespace Go.Proofs.YtdkckkhghghhdaaDoor
open Go.RowKit

theorem sameU_loop (fuel d : Nat) {b : List UInt8} (hn : b.length < 1000000000) {h : AHeap} : ∀ (n k : Nat), b.length < n + k → k ≤ b.length →
    l_skolemref_SameBytes_0 fuel d n [(0, .slice (lstU b)), (1, .slice (lstU b)), (5, .int .i64 (k : Int))] h = some (.exit 0, [(4, .bot)], h) := by
  intro n
  induction n with
  | zero => intro k h1 h2; omega
  | succ n ih =>
    intro k h1 h2
    rw [l_skolemref_SameBytes_0_eq, len_lst]
    by_cases hk : k < b.length
    · rw [bif_pos (by omega), addr_lstM _ (by omega) (by omega) 0]
      simp only [Option.bind_some, cell_fp, int_int, decide_true, Bool.not_true, cond_false]
      rw [sucS (by omega)]
      exact ih (k + 1) (by omega) (by omega)
    · rw [bif_neg (by omega)]
theorem sameU_run (fuel d : Nat) {b : List UInt8} (hn : b.length < 1000000000) (hf : b.length < fuel) (h : AHeap) : run fuel (d + 1) F_skolemref_SameBytes [.slice (lstU b), .slice (lstU b)] h = some (.bool true, h) := by
  refine pure_of rfl rfl (cc2 (canon_lstU 7 b) (canon_lstU 7 b)) (r := .bool true) (h' := AHeap.none) ?_ rfl
  rw [e_skolemref_SameBytes, len_lst, bif_npos rfl]
  have := sameU_loop fuel d hn (h := AHeap.none) fuel 0 (by omega) (by omega)
  rw [show ((0 : Nat) : Int) = 0 from rfl] at this
  rw [this]
  simp only [Option.bind_some, k_skolemref_SameBytes_0_x0]
end Go.Proofs.YtdkckkhghghhdaaDoor

namespace Go.Proofs.YtdkckkhghghhdaaDoor
open Go.RowKit

theorem flight_loop (fuel d : Nat) {bs : List Blk} {v : Int} {l : List (List Int)} {X : Nat} (hbs : bs.length < 1000000) (hb2 : ∀ b ∈ bs, b.2.length < 9000000000000000000 ∧ b.2.length < fuel) {g h : AHeap} (hx : Sep0 g h [.own 1 X 0 3 (formulaC bs v l)]) : ∀ (n k : Nat), bs.length < n + k → k ≤ bs.length →
    ∃ z, (l_skolemlaw5_light_0 fuel (d + 1) n [(1, .ptr (.mk ⟨X, 0, 0⟩ 3)), (3, .int .i64 (k : Int))] h).bind (fun p => k_skolemlaw5_light_0 fuel (d + 1) p.1 p.2.1 p.2.2) = some (.bool z, h) ∧ (z = true → ∀ b ∈ bs.drop k, b.2.length ≤ 30) := by
  intro n
  induction n with
  | zero => intro k h1 h2; omega
  | succ n ih =>
    intro k h1 h2
    have c0 : h.cell (.mk ⟨X, 0, 0 + 0⟩ 3) = some (.slice (lstBk bs)) := hx.part (i := 0) rfl (by omega) rfl
    rw [l_skolemlaw5_light_0_eq]
    simp only [field_mk, Option.bind_some, c0, slice_slice]
    rw [len_lst]
    by_cases hk : k < bs.length
    · have hd : bs.drop k = bs.getD k (false, []) :: bs.drop (k + 1) := by rw [List.drop_eq_getElem_cons hk]; simp [List.getD, hk]
      obtain ⟨q1, q2⟩ := hb2 (bs.getD k (false, [])) (by simp [List.getD, hk])
      have a1 : h.addr 2 (lstBk bs) (k : Int) = some (.fp 0 (blkC (bs.getD k (false, [])))) := addr_lstN (sz := 2) (f := blkC) blkC_len (l := bs) (j := (k : Int)) (by omega) (by omega) (false, []) false
      rw [bif_pos (by omega), hd]
      simp only [a1]
      generalize bs.getD k (false, []) = b at q1 q2
      simp only [Option.bind_some, blkC, field_fp, List.drop_succ_cons, List.drop_zero, cell_fp, slice_slice]
      rw [len_lst, near_run fuel d (freeze_lstI 7 b.2) q1 q2]
      simp only [Option.bind_some, bool_bool]
      by_cases h30 : 30 < b.2.length
      · rw [decide_eq_true (show (30 : Int) < (b.2.length : Int) by omega)]
        simp only [show ((true == false) = false) from rfl, cond_false, Option.bind_some, bool_bool, cond_true, k_skolemlaw5_light_0_r]
        exact ⟨false, rfl, fun h => by cases h⟩
      · rw [decide_eq_false (show ¬ (30 : Int) < (b.2.length : Int) by omega)]
        simp only [beq_self_eq_true, cond_true, Option.bind_some, bool_bool]
        cases hn : nearI b.2 with
        | false =>
          simp only [Bool.not_false, cond_true, Option.bind_some, k_skolemlaw5_light_0_r]
          exact ⟨false, rfl, fun h => by cases h⟩
        | true =>
          simp only [Bool.not_true, cond_false]
          rw [sucU (by omega)]
          obtain ⟨z, e1, e2⟩ := ih (k + 1) (by omega) (by omega)
          refine ⟨z, e1, fun hz c hc => ?_⟩
          rcases List.mem_cons.1 hc with rfl | hc
          · omega
          · exact e2 hz c hc
    · have : k = bs.length := by omega
      subst this
      rw [bif_neg (by omega), List.drop_length]
      simp only [Option.bind_some, k_skolemlaw5_light_0_x0]
      exact ⟨true, rfl, fun _ c hc => by cases hc⟩
theorem flight_run (fuel d : Nat) {bs : List Blk} {v : Int} {l : List (List Int)} (hf : 1000000 < fuel) (hb2 : ∀ b ∈ bs, b.2.length < 9000000000000000000 ∧ b.2.length < fuel) (hl : l.length < 9000000000000000000) (hc : ∀ c ∈ l, c.length < 1000000000000000 ∧ c.length < fuel) (h : AHeap) :
    ∃ z, run fuel (d + 3) F_skolemlaw5_light [.agg (formulaC bs v l)] h = some (.bool z, h) ∧ (z = true → bs.length ≤ 8 ∧ l.length ≤ 60 ∧ totalI l ≤ 300 ∧ ∀ b ∈ bs, b.2.length ≤ 30) := by
  have s1 := (Sep0.start AHeap.none).push 1 3 (cs := formulaC bs v l) rfl
  have key : ∃ z h', brun fuel (d + 3) F_skolemlaw5_light [.agg (formulaC bs v l)] AHeap.none = some (.bool z, h') ∧ (z = true → bs.length ≤ 8 ∧ l.length ≤ 60 ∧ totalI l ≤ 300 ∧ ∀ b ∈ bs, b.2.length ≤ 30) := by
    rw [e_skolemlaw5_light, show List.all (formulaC bs v l) AVal.isCell = true from rfl, cond_true, show (formulaC bs v l).length = 3 from rfl]
    generalize AHeap.next AHeap.none = A at s1 ⊢
    generalize AHeap.push AHeap.none 1 (formulaC bs v l) = H at s1 ⊢
    have c0 : H.cell (.mk ⟨A, 0, 0 + 0⟩ 3) = some (.slice (lstBk bs)) := s1.part (i := 0) rfl (by omega) rfl
    have c2 : H.cell (.mk ⟨A, 0, 0 + 1 + 1⟩ 3) = some (.slice (lstLL l)) := s1.part (i := 0) rfl (by omega) rfl
    simp only [field_mk, Option.bind_some, c0, c2, slice_slice]
    rw [len_lst, len_lst]
    have no : ∃ z h', (some (AVal.bool false, H) : Option (AVal × AHeap)) = some (.bool z, h') ∧ (z = true → bs.length ≤ 8 ∧ l.length ≤ 60 ∧ totalI l ≤ 300 ∧ ∀ b ∈ bs, b.2.length ≤ 30) := ⟨false, H, rfl, fun h => by cases h⟩
    by_cases h8 : 8 < bs.length
    · rw [decide_eq_true (show (8 : Int) < (bs.length : Int) by omega)]
      exact no
    · rw [decide_eq_false (show ¬ (8 : Int) < (bs.length : Int) by omega)]
      simp only [beq_self_eq_true, cond_true, Option.bind_some, bool_bool]
      by_cases h60 : 60 < l.length
      · rw [decide_eq_true (show (60 : Int) < (l.length : Int) by omega)]
        exact no
      · have ht : totalI l < 9000000000000000000 := by
          have key : ∀ (l : List (List Int)), (∀ c ∈ l, c.length < 1000000000000000) → totalI l ≤ l.length * 1000000000000000 := by
            intro l
            induction l with
            | nil => intro _; simp [totalI]
            | cons c l ih =>
              intro hc
              have h1 := ih fun d hd => hc d (List.mem_cons_of_mem _ hd)
              have h2 := hc c (List.mem_cons_self ..)
              simp only [totalI, List.map_cons, List.sum_cons, List.length_cons] at h1 ⊢
              omega
          have := key l fun c hx => (hc c hx).1
          omega
        rw [decide_eq_false (show ¬ (60 : Int) < (l.length : Int) by omega)]
        simp only [beq_self_eq_true, cond_true, Option.bind_some, bool_bool, c2, slice_slice]
        rw [nearAll_run fuel d hl (by omega) (fun c hx => by have := hc c hx; omega) (freeze_lst _ _ _ (closedL_map closed_lstI l))]
        simp only [Option.bind_some, bool_bool]
        cases hn : l.all nearI with
        | false => exact no
        | true =>
          simp only [Bool.not_true, beq_self_eq_true, cond_true, Option.bind_some, c2, slice_slice]
          rw [count_run fuel (d + 1) hl (by omega) ht (freeze_lst _ _ _ (closedL_map closed_lstI l))]
          simp only [Option.bind_some, int_int, bool_bool]
          by_cases h300 : 300 < totalI l
          · rw [decide_eq_true (show (300 : Int) < (totalI l : Int) by omega)]
            exact no
          · rw [decide_eq_false (show ¬ (300 : Int) < (totalI l : Int) by omega), cond_false]
            obtain ⟨z, e1, e2⟩ := flight_loop fuel (d + 1) (by omega) hb2 s1 fuel 0 (by omega) (by omega)
            rw [List.drop_zero] at e2
            exact ⟨z, H, e1, fun hz => ⟨by omega, by omega, by omega, e2 hz⟩⟩
  obtain ⟨z, h', e1, e2⟩ := key
  exact ⟨z, pure_of rfl rfl (cc1 (canon_form bs v l)) e1 rfl, e2⟩
theorem badI_lits {v : Int} : ∀ {l : List (List Int)} {k : Nat}, badI v l k = none → ∀ c ∈ l, ∀ x ∈ c, isI x v = true
  | [], _, _, c, hc => by cases hc
  | c :: l, k, h, d, hd => by
    unfold badI at h
    split at h
    · cases h
    · rename_i h1
      rcases List.mem_cons.1 hd with rfl | hd
      · intro x hx
        simp only [List.any_eq_true, Bool.not_eq_true', not_exists, not_and, Bool.not_eq_false] at h1
        exact h1 x hx
      · exact badI_lits h d hd
theorem isI_range {x v : Int} (h : isI x v = true) (hv : 0 ≤ v) (hv1 : v ≤ 4000) : LitOk v x := by
  have hI := h
  unfold isI at h
  rw [wrap64 (by omega) (by omega)] at h
  by_cases h0 : x = 0
  · rw [decide_eq_true h0] at h; cases h
  · rw [decide_eq_false h0] at h
    by_cases h1 : 0 - v ≤ x
    · rw [decide_eq_true h1] at h
      simp only [Bool.not_false, cond_true, decide_eq_true_eq] at h
      exact ⟨h0, hI, by omega, by omega⟩
    · rw [decide_eq_false h1] at h; cases h
theorem blksT_small : ∀ {bs : List Blk}, (∀ b ∈ bs, b.2.length ≤ 30 ∧ ∀ x ∈ b.2, Num64 x) → (blksT bs).length ≤ 700 * bs.length
  | [], _ => by simp [blksT]
  | b :: bs, h => by
    have h1 := blksT_small (bs := bs) fun c hc => h c (List.mem_cons_of_mem _ hc)
    obtain ⟨h2, h3⟩ := h b (List.mem_cons_self ..)
    have h4 := numsT_num h3
    have h5 : (blkT b).length = 2 + ((numsT b.2).length + 2) := by
      unfold blkT lineT
      cases b.1 <;> simp <;> omega
    rw [blksT_cons, List.length_append, List.length_cons]
    omega
theorem badVs_range {v : Int} : ∀ {l seen s : List Int}, badVs v l seen = some s → ∀ x ∈ l, 1 ≤ x ∧ x ≤ v
  | [], _, _, _, x, hx => by cases hx
  | y :: l, seen, s, h, x, hx => by
    obtain ⟨h1, h2⟩ := badVs_cons h
    rcases List.mem_cons.1 hx with rfl | hx
    · unfold badX at h1
      simp only [Bool.or_eq_false_iff, decide_eq_false_iff_not] at h1
      omega
    · exact badVs_range h2 x hx
theorem badBs_range {v : Int} : ∀ {bs : List Blk} {seen : List Int} {k : Nat}, badBs v bs seen k = none → ∀ b ∈ bs, ∀ x ∈ b.2, 1 ≤ x ∧ x ≤ v
  | [], _, _, _, b, hb => by cases hb
  | c :: bs, seen, k, h, b, hb => by
    unfold badBs at h
    cases hv : badVs v c.2 seen with
    | none => rw [hv] at h; cases h
    | some s =>
      rw [hv] at h
      rcases List.mem_cons.1 hb with rfl | hb
      · exact badVs_range hv
      · exact badBs_range h b hb
theorem qdimacsChecks_run (F d : Nat) (hF : 2 ^ 50 ≤ F) {bs : List Blk} {v : Int} {l : List (List Int)} (hb2 : ∀ b ∈ bs, b.2.length ≤ 1000000000000000) (hl : l.length ≤ 1000000000000000) (hc : ∀ c ∈ l, c.length < 1000000000000000) (h : AHeap) :
    ∃ h', run F (d + 60) F_skolemlaw5_QdimacsChecks [.agg (formulaC bs v l)] h = some (.bool true, h') := by
  have s1 := (Sep0.start h).push 1 3 (cs := formulaC bs v l) rfl
  obtain ⟨z, e1, e2⟩ := flight_run F (d + 56) (bs := bs) (v := v) (l := l) (by omega) (fun b hb => by have := hb2 b hb; omega) (by omega) (fun c hx => by have := hc c hx; omega) (h.push 1 (formulaC bs v l))
  rw [e_skolemlaw5_QdimacsChecks, show List.all (formulaC bs v l) AVal.isCell = true from rfl, cond_true, show (formulaC bs v l).length = 3 from rfl, first5_run F (by omega) (by omega)]
  simp only [Option.bind_some, bool_bool, Bool.not_true, cond_false]
  rw [s1.getAll (i := 0) rfl rfl, Option.bind_some, e1]
  simp only [Option.bind_some, bool_bool]
  cases z with
  | false => exact ⟨_, rfl⟩
  | true =>
  obtain ⟨g1, g2, g3, g4⟩ := e2 rfl
  have hcl : ∀ c ∈ l, c.length ≤ 300 := by
    have key : ∀ (l : List (List Int)), ∀ c ∈ l, c.length ≤ totalI l := by
      intro l
      induction l with
      | nil => intro c hc; cases hc
      | cons a l ih =>
        intro c hc
        simp only [totalI, List.map_cons, List.sum_cons]
        rcases List.mem_cons.1 hc with rfl | hc
        · omega
        · have := ih c hc
          simp only [totalI] at this
          omega
    intro c hc
    have := key l c hc
    omega
  simp only [Bool.not_true, cond_false]
  obtain ⟨c, p, x, q1, q2, q3⟩ := checkF_fault bs v l
  rw [s1.getAll (i := 0) rfl rfl, Option.bind_some, qck_run F (d + 53) (by omega) (by omega) (fun b hb => by have := g4 b hb; omega) (by omega) (by omega) (by omega) (fun c hx => by have := hcl c hx; omega)]
  simp only [Option.bind_some]
  rw [s1.getAll (i := 0) rfl rfl, Option.bind_some, fck_run F (d + 56) (by omega) (by omega) (fun b hb => by have := g4 b hb; omega) (by omega) (by omega) (by omega) (fun c hx => by have := hcl c hx; omega), q1]
  simp only [Option.bind_some, agg_agg]
  have s2 := s1.push 1 3 (cs := [(AVal.int .i64 (0 : Int)), (.bool false), (.int .i64 (0 : Int))]) rfl
  obtain ⟨h3, e3, s3⟩ := s2.putAll (i := 1) (vs := faultC c p x) rfl rfl rfl
  have cF : h3.cell (.mk ⟨AHeap.next (h.push 1 (formulaC bs v l)), 0, 0 + 0⟩ 3) = some (.int .i64 c) := s3.part (i := 1) rfl (by omega) rfl
  rw [cond_pos _ _ (okF c p x), e3, Option.bind_some, s3.getAll (i := 1) rfl rfl, Option.bind_some, same_true F (d + 55) q2 (by omega)]
  simp only [Option.bind_some, bool_bool, Bool.not_true, cond_false, field_mk, cF, int_int]
  by_cases h0 : c = 0
  · obtain ⟨k1, k2, k3, k4, k5⟩ := q3 h0
    subst h0
    have hv : Num64 v := ⟨by omega, by omega⟩
    have hlits := badI_lits k4
    have hln : ∀ c ∈ l, LnOk c ∧ ∀ x ∈ c, LitOk v x := fun c hx => ⟨⟨by have := hcl c hx; omega, fun x hx2 => by
      have := isI_range (hlits c hx x hx2) k1 k2
      exact ⟨by have := this.2.2.1; omega, by have := this.2.2.2; omega⟩⟩, fun x hx2 => isI_range (hlits c hx x hx2) k1 k2⟩
    have hbk : ∀ b ∈ bs, LnOk b.2 := fun b hb => ⟨by have := g4 b hb; omega, fun x hx => by have := badBs_range k5 b hb x hx; exact ⟨by omega, by omega⟩⟩
    have hlen : (formTx bs v l).length < 60000 := by
      have h1 := linesT_len (L := l) (fun c hx => (hln c hx).1) g3
      have h2 := headTx_len hv (show Num64 (l.length : Int) from ⟨by omega, by omega⟩)
      have h3 := blksT_small (bs := bs) fun b hb => ⟨g4 b hb, (hbk b hb).2⟩
      unfold formTx
      simp only [List.length_append]
      omega
    rw [bif_npos (rfl : (0 : Int) = 0), s3.getAll (i := 0) rfl rfl, Option.bind_some, qB_run F (d + 52) (by omega) hv (by omega) (by omega) (by omega) (by omega) (fun c hx => (hln c hx).1) hbk]
    simp only [Option.bind_some, slice_slice]
    rw [fread_run F (d + 51) (by omega) (by omega), rdF_text k1 k2 k3 (fun c hx => (hln c hx).2) k5]
    simp only [frA, errO, Option.bind_some, tup2, comp0, comp1, cond_true, agg_agg]
    rw [cond_pos _ _ (okQ bs v l)]
    have s4 := s3.push 1 3 (cs := zero3) rfl
    obtain ⟨h5, e5, s5⟩ := s4.putAll (i := 2) (vs := formulaC bs v l) rfl rfl rfl
    rw [e5, Option.bind_some, beq_self_eq_true, cond_true, s5.getAll (i := 0) rfl rfl, Option.bind_some, fB_run F (d + 52) (by omega) hv (by omega) (by omega) (by omega) (by omega) (fun c hx => (hln c hx).1) hbk]
    simp only [Option.bind_some, slice_slice]
    rw [sameU_run F (d + 58) (by omega) (by omega)]
    simp only [Option.bind_some, bool_bool, beq_self_eq_true, cond_true, nilTest_nilif]
    rw [s5.getAll (i := 2) rfl rfl, Option.bind_some, s5.getAll (i := 0) rfl rfl, Option.bind_some, sameForm_run F (d + 55) v (by omega) (by omega) (fun b hb => by have := g4 b hb; omega) (by omega) (by omega) (fun s hs => by have := hcl s hs; omega)]
    exact ⟨_, rfl⟩
  · rw [bif_nneg h0]
    exact ⟨_, rfl⟩
theorem qdimacsChecks_x (F d : Nat) (hF : 2 ^ 50 ≤ F) (x : List (Bool × List Int) × (Int × List (List Int)))
    (g : ((∀ a ∈ x.1, True ∧ ((∀ n ∈ a.2, (Lit.int .i64 n).wf = true) ∧ List.length a.2 * 8 ≤ reachBytes)) ∧ List.length x.1 * 32 ≤ reachBytes) ∧ ((Lit.int .i64 x.2.1).wf = true ∧ ((∀ c ∈ x.2.2, (∀ n ∈ c, (Lit.int .i64 n).wf = true) ∧ List.length c * 8 ≤ reachBytes) ∧ List.length x.2.2 * 24 ≤ reachBytes))) (h : AHeap) :
    ∃ h', run F (d + 60) F_skolemlaw5_QdimacsChecks [.agg (formulaC x.1 x.2.1 x.2.2)] h = some (.bool true, h') := by
  have hr : reachBytes ≤ 140737488355328 := by decide
  refine qdimacsChecks_run F d hF (fun b hb => ?_) ?_ (fun c hc => ?_) h
  · have := (g.1.1 b hb).2.2; omega
  · have := g.2.2.2; omega
  · have := (g.2.2.1 c hc).2; omega
end Go.Proofs.YtdkckkhghghhdaaDoor
