/-
  word.kind, word.line, bytes.IndexByte, word.Split.
-/
import Derived.Test.YtdkckkhghghhdaaDoorE
import Derived.Test.YtdkckkhghghhdaaDoorWd0
namespace Go.Proofs.YtdkckkhghghhdaaDoor
open Go.RowKit

theorem sucU {m : Nat} (h : m < 9000000000000000000) : IntKind.wrap .i64 ((m : Int) + 1) = ((m + 1 : Nat) : Int) := by rw [wrap64 (by omega) (by omega)]; omega
theorem wdC_len (w : Wd) : (wdC w).length = 3 := rfl
abbrev wdsC (l : List Wd) : List AVal := l.flatMap wdC
abbrev lstW (l : List Wd) : Sl := lstN wdC l
theorem wdsC_len (l : List Wd) : (wdsC l).length = l.length * 3 := flatMap_len wdC_len l
theorem closed_wdC (w : Wd) : closedL (wdC w) = true := rfl
theorem freeze_wdsC {h : AHeap} (n : Nat) (l : List Wd) : (wdsC l).mapM (freezeV h (n + 1)) = some (wdsC l) := mapM_freezeN (fun w => mm3 rfl rfl rfl) l
theorem freeze_lstW {h : AHeap} (n : Nat) (l : List Wd) : freezeV h (n + 1) (.slice (lstW l)) = some (.slice (lstW l)) := freeze_lst _ _ _ (closedL_flatMap closed_wdC l)
theorem freeze_lstU {h : AHeap} (n : Nat) (l : List UInt8) : freezeV h (n + 1) (.slice (lstU l)) = some (.slice (lstU l)) := freeze_lst _ _ _ (closedL_map (fun _ => rfl) l)
theorem cut_lstU (l : List UInt8) {lb hb : Nat} (hb' : hb ≤ l.length) : Sl.cut (lstU l) 1 lb hb false = lstU ((l.drop lb).take (hb - lb)) := cut_lstM _ l hb'

theorem kind_run (fuel d : Nat) (c : Int) (h : AHeap) : run fuel (d + 1) F_word_kind [.int .u8 c] h = some (.int .i64 (kindI c), h) := by
  refine pure_of rfl rfl (cc1 rfl) (r := .int .i64 (kindI c)) (h' := AHeap.none) ?_ rfl
  rw [e_word_kind]
  unfold kindI
  by_cases h1 : c = 32
  · simp [h1, k_word_kind_0_n, k_word_kind_1_n]
  · by_cases h2 : c = 9
    · simp [h2, k_word_kind_0_n, k_word_kind_1_n]
    · by_cases h3 : c = 13
      · simp [h3, k_word_kind_0_x3, k_word_kind_1_n]
      · by_cases h4 : c = 10
        · simp [h4, k_word_kind_0_x4, k_word_kind_1_x4]
        · simp [h1, h2, h3, h4, k_word_kind_0_x0, k_word_kind_1_x0]
theorem wline_in (fuel d : Nat) {h : AHeap} {s5 : Sl} {x1 x7 : Int} {b : List UInt8} (hb : b.length < 1000000000) : ∀ (n k : Nat), b.length < n + k → k ≤ b.length →
    l_word_line_1 fuel (d + 1) n [(0, .slice (lstU b)), (1, .int .i64 x1), (5, .slice s5), (6, .int .i64 (k : Int)), (7, .int .i64 x7)] h = some (.exit 2, [(0, .slice (lstU b)), (1, .int .i64 x1), (5, .slice s5), (6, .int .i64 (wEnd b k : Int)), (7, .int .i64 x7)], h) := by
  intro n
  induction n with
  | zero => intro k h1 h2; omega
  | succ n ih =>
    intro k h1 h2
    rw [l_word_line_1_eq, len_lst]
    by_cases hk : k < b.length
    · rw [decide_eq_true (show (k : Int) < (b.length : Int) by omega), addr_lstM _ (by omega) (by omega) 0]
      simp only [beq_self_eq_true, cond_true, Option.bind_some, cell_fp, int_int, Int.toNat_natCast, kind_run, bool_bool]
      by_cases hw : kindI ((b.getD k 0).toNat : Int) = 0
      · rw [bif_pos hw, sucU (by omega), ih (k + 1) (by omega) (by omega), wEnd_in hk (by unfold isW; exact decide_eq_true hw)]
      · rw [bif_neg hw, wEnd_out (by unfold isW; exact decide_eq_false hw)]
    · have : k = b.length := by omega
      subst this
      rw [decide_eq_false (show ¬ (b.length : Int) < (b.length : Int) by omega), wEnd_end (Nat.le_refl _)]
      rfl
theorem wline_loop (fuel d : Nat) {b : List UInt8} {at_ : Nat} (hb : b.length < 1000000000) (hat : at_ < 1000000000) (hf : b.length < fuel) : ∀ (n k : Nat) (s5 : Sl) (acc : List Wd) (h : AHeap), b.length + 2 ≤ n + k → k ≤ b.length + 1 → Grown h 3 s5 (wdsC acc) → acc.length ≤ k →
    ∃ s' h', l_word_line_0 fuel (d + 1) n [(0, .slice (lstU b)), (1, .int .i64 (at_ : Int)), (5, .slice s5), (6, .int .i64 (k : Int))] h = some (.exit 0, [(5, .slice s')], h') ∧ Grown h' 3 s' (wdsC (acc ++ lineGo b at_ n k acc.isEmpty)) := by
  intro n
  induction n with
  | zero => intro k s5 acc h h1 h2; omega
  | succ n ih =>
    intro k s5 acc h h1 h2 hg hacc
    have h5l := hg.len
    rw [wdsC_len] at h5l
    rw [l_word_line_0_eq, len_lst]
    by_cases hk : k < b.length
    · rw [bif_pos (by omega), addr_lstM _ (by omega) (by omega) 0]
      simp only [Option.bind_some, cell_fp, int_int, Int.toNat_natCast, kind_run]
      by_cases hw : kindI ((b.getD k 0).toNat : Int) = 0
      · rw [bif_npos hw]
        have hw' : isW (b.getD k 0) = true := by unfold isW; exact decide_eq_true hw
        rw [wline_in fuel d hb fuel k (by omega) (by omega)]
        obtain ⟨w1, w2⟩ := wEnd_le (b := b) (k := k) (by omega)
        have w3 : k + 1 ≤ wEnd b k := by rw [wEnd_in hk hw']; exact (wEnd_le (by omega)).1
        have hpos : IntKind.wrap .i64 ((at_ : Int) + (k : Int)) = ((at_ + k : Nat) : Int) := by rw [wrap64 (by omega) (by omega)]; omega
        have hem : decide ((s5.len : Int) = 0) = acc.isEmpty := by
          cases acc with
          | nil => simp at h5l ⊢; omega
          | cons a l => simp at h5l ⊢; omega
        obtain ⟨s', h', g1, g2, g3⟩ := hg.snoc (bytes := 32) (vs := wdC ⟨(b.drop k).take (wEnd b k - k), at_ + k, acc.isEmpty⟩) rfl (by omega) (by omega)
        obtain ⟨t', h'', f1, f4⟩ := ih (wEnd b k + 1) s' (acc ++ [⟨(b.drop k).take (wEnd b k - k), at_ + k, acc.isEmpty⟩]) h' (by omega) (by omega) (by simpa [wdsC] using g2) (by simp; omega)
        refine ⟨t', h'', ?_, ?_⟩
        · simp only [Option.bind_some, k_word_line_1_x2]
          rw [len_lst, aHi_some (by omega) (by omega), Option.bind_some, Int.toNat_natCast, aLo_some (by omega) (by omega), Option.bind_some, Int.toNat_natCast, aMx_none, Option.bind_some, hasSz_lstM, cond_true, cut_lstU b (by omega), cells_lstM]
          simp only [Option.bind_some, bytesFrom_bytesC]
          rw [hpos, hem]
          unfold wdC at g1
          simp only at g1
          rw [g1, Option.bind_some, sucU (by omega)]
          exact f1
        · have hne : (acc ++ [(⟨(b.drop k).take (wEnd b k - k), at_ + k, acc.isEmpty⟩ : Wd)]).isEmpty = false := by cases acc <;> rfl
          rw [hne] at f4
          simp only [lineGo]
          rw [if_pos hk, if_pos hw']
          simpa using f4
      · rw [bif_nneg hw]
        have hw' : isW (b.getD k 0) = false := by unfold isW; exact decide_eq_false hw
        obtain ⟨t', h'', f1, f4⟩ := ih (k + 1) s5 acc h (by omega) (by omega) hg (by omega)
        refine ⟨t', h'', by rw [sucU (by omega)]; exact f1, ?_⟩
        simp only [lineGo]
        rw [if_pos hk, if_neg (by rw [hw']; simp)]
        exact f4
    · rw [bif_neg (by omega)]
      refine ⟨s5, h, rfl, ?_⟩
      simp only [lineGo]
      rw [if_neg hk, List.append_nil]
      exact hg
theorem line_run (fuel d : Nat) {b : List UInt8} {at_ : Nat} (hb : b.length < 1000000000) (hat : at_ < 1000000000) (hf : b.length + 2 ≤ fuel) (h : AHeap) :
    run fuel (d + 2) F_word_line [.slice (lstU b), .int .i64 (at_ : Int)] h = some (.slice (lstW (lineOf b at_)), h) := by
  obtain ⟨s', h', e1, g1⟩ := wline_loop fuel d hb hat (by omega) fuel 0 .nil [] AHeap.none (by omega) (by omega) .nil (by simp)
  refine pure_of rfl rfl (cc2 (canon_lstU 7 b) rfl) (r := .slice s') (h' := h') ?_ ?_
  · rw [e_word_line]
    rw [show ((0 : Nat) : Int) = 0 from rfl] at e1
    rw [e1]
    simp only [Option.bind_some, k_word_line_0_x0]
  · rw [show lineGo b at_ fuel 0 ([] : List Wd).isEmpty = lineOf b at_ from lineGo_fuel _ _ _ _ (by omega) (by omega), List.nil_append] at g1
    have := g1.len
    rw [wdsC_len] at this
    rw [g1.freeze (n := 7) (by omega) (freeze_wdsC 6 _), show s'.len = (lineOf b at_).length by omega]
theorem index_run (fuel d : Nat) (b : List UInt8) (h : AHeap) : run fuel (d + 2) F_bytes_IndexByte [.slice (lstU b), .int .u8 10] h = some (.int .i64 (Lib.indexByte b 10), h) := by
  refine pure_of rfl rfl (cc2 (canon_lstU 7 b) rfl) (r := .int .i64 (Lib.indexByte b 10)) (h' := AHeap.none) ?_ rfl
  rw [e_bytes_IndexByte, e_bytealg_IndexByte, cells_lstM]
  simp only [Option.bind_some, bytesFrom_bytesC, int_int]
  rfl

theorem lineOf_len (b : List UInt8) (at_ : Nat) : (lineOf b at_).length ≤ b.length := by
  have := lineGo_len (b := b) (at_ := at_) (b.length + 1) 0 true
  unfold lineOf; omega
theorem strAt_mk {l : List UInt8} {k : Nat} (hk : k < l.length) : strAt ⟨l.toArray⟩ (k : Int) = some ((l.getD k 0).toNat : Int) := by
  unfold strAt
  rw [bif_pos (by omega), Int.toNat_natCast]
  simp [hk, List.getD]
theorem wsplit_tail (fuel d : Nat) {b : List UInt8} {c : Bool} (hb : b.length < 1000000) (hf : b.length + 2 ≤ fuel) (n k : Nat) (hk : k < b.length) (s5 : Sl) (acc : List Wd) (h : AHeap) (hg : Grown h 3 s5 (wdsC acc)) (hacc : acc.length ≤ k)
    (ih : ∀ (s5 : Sl) (acc : List Wd) (h : AHeap), Grown h 3 s5 (wdsC acc) → acc.length ≤ k + nlOf b k + 1 → ∃ s' h', l_word_Split_0 fuel (d + 2) n [(0, .slice (lstU b)), (1, .bool c), (5, .slice s5), (6, .int .i64 ((k + nlOf b k + 1 : Nat) : Int))] h = some (.exit 0, [(5, .slice s')], h') ∧ Grown h' 3 s' (wdsC (acc ++ splitGo b c n (k + nlOf b k + 1)))) :
    ∃ s' h', k_word_Split_1 fuel (d + 2) n .normal [(0, .slice (lstU b)), (1, .bool c), (5, .slice s5), (6, .int .i64 (k : Int)), (7, .int .i64 (nlOf b k : Int))] h = some (.exit 0, [(5, .slice s')], h') ∧ Grown h' 3 s' (wdsC (acc ++ splitGo b c (n + 1) k)) := by
  have h5l := hg.len
  rw [wdsC_len] at h5l
  have hnl := nlOf_le (b := b) (at_ := k) (by omega)
  have hll : ((b.drop k).take (nlOf b k)).length = nlOf b k := by simp; omega
  rw [k_word_Split_1_n, wrap64 (n := (k : Int) + (nlOf b k : Int)) (by omega) (by omega), len_lst, aHi_some (by omega) (by omega), Option.bind_some, show ((k : Int) + (nlOf b k : Int)).toNat = k + nlOf b k by omega, aLo_some (by omega) (by omega), Option.bind_some, Int.toNat_natCast, aMx_none, Option.bind_some, hasSz_lstM, cond_true, cut_lstU b (by omega), show k + nlOf b k - k = nlOf b k by omega, line_run fuel d (by omega) (by omega) (by omega)]
  have hw : IntKind.wrap .i64 ((k : Int) + IntKind.wrap .i64 ((nlOf b k : Int) + 1)) = ((k + nlOf b k + 1 : Nat) : Int) := by rw [wrap64 (n := (nlOf b k : Int) + 1) (by omega) (by omega), wrap64 (by omega) (by omega)]; omega
  have hline := lineOf_len ((b.drop k).take (nlOf b k)) k
  have htext : ∀ w ∈ lineOf ((b.drop k).take (nlOf b k)) k, w.text ≠ [] := lineGo_text _ _ _
  have hstep : splitGo b c (n + 1) k = (if keepLine c (lineOf ((b.drop k).take (nlOf b k)) k) = true then lineOf ((b.drop k).take (nlOf b k)) k else []) ++ splitGo b c n (k + nlOf b k + 1) := by
    conv => lhs; unfold splitGo
    rw [if_pos hk]
  rw [hstep]
  generalize lineOf ((b.drop k).take (nlOf b k)) k = L at hline htext
  simp only [Option.bind_some, slice_slice]
  rw [len_lst]
  have rest : ∀ q : Bool, q = keepLine c L → ∃ s' h', (bif q then ((AHeap.sliceCells h 3 (lstW L)).bind fun xs13 => (AHeap.append h false 3 32 s5 (lstW L).len xs13).bind fun a14 =>
      l_word_Split_0 fuel (d + 2) n [(0, .slice (lstU b)), (1, .bool c), (5, .slice a14.1), (6, .int .i64 (IntKind.wrap .i64 ((k : Int) + IntKind.wrap .i64 ((nlOf b k : Int) + 1))))] a14.2)
      else l_word_Split_0 fuel (d + 2) n [(0, .slice (lstU b)), (1, .bool c), (5, .slice s5), (6, .int .i64 (IntKind.wrap .i64 ((k : Int) + IntKind.wrap .i64 ((nlOf b k : Int) + 1))))] h) = some (.exit 0, [(5, .slice s')], h') ∧
      Grown h' 3 s' (wdsC (acc ++ ((if keepLine c L = true then L else []) ++ splitGo b c n (k + nlOf b k + 1)))) := by
    intro q hq
    rw [hw, ← hq]
    cases q with
    | false =>
      simp only [cond_false, Bool.false_eq_true, if_false, List.nil_append]
      exact ih s5 acc h hg (by omega)
    | true =>
      simp only [cond_true, if_true]
      rw [cells_lstN wdC_len, Option.bind_some, len_lst]
      by_cases h0 : L = []
      · subst h0
        rw [show AHeap.append h false 3 32 s5 ([] : List Wd).length (wdsC []) = some (s5, h) from rfl]
        simp only [Option.bind_some, List.nil_append]
        exact ih s5 acc h hg (by omega)
      · have hpos := List.length_pos_iff.2 h0
        obtain ⟨s1, h1, e1, g1, _, g3, _⟩ := hg.append (bytes := 32) (xs := wdsC L) (m := L.length) (wdsC_len L) (by omega) (by omega) (by omega) (fun a14 : Sl × AHeap => l_word_Split_0 fuel (d + 2) n [(0, .slice (lstU b)), (1, .bool c), (5, .slice a14.1), (6, .int .i64 ((k + nlOf b k + 1 : Nat) : Int))] a14.2)
        rw [e1]
        obtain ⟨s2, h2, e2, g4⟩ := ih s1 (acc ++ L) h1 (by simpa [wdsC] using g1) (by simp; omega)
        refine ⟨s2, h2, e2, ?_⟩
        rw [← List.append_assoc]
        exact g4
  cases c with
  | false =>
    simp only [Bool.not_false, cond_true, show ((true == false) : Bool) = false from rfl, cond_false, Option.bind_some, bool_bool]
    exact rest true (by simp [keepLine])
  | true =>
    simp only [Bool.not_true, cond_false]
    cases L with
    | nil =>
      rw [decide_eq_true (show ((([] : List Wd).length : Nat) : Int) = 0 by simp)]
      simp only [show ((true == false) : Bool) = false from rfl, cond_false, Option.bind_some, bool_bool]
      exact rest true (by simp [keepLine])
    | cons w L =>
      have ht := htext w (List.mem_cons_self ..)
      have hpos := List.length_pos_iff.2 ht
      rw [decide_eq_false (show ¬ (((w :: L).length : Nat) : Int) = 0 by simp; omega)]
      simp only [beq_self_eq_true, cond_true]
      rw [addr_lstN (sz := 3) (f := wdC) wdC_len (l := w :: L) (j := 0) (by omega) (by simp) w]
      have hget : (w :: L).getD (Int.toNat 0) w = w := rfl
      simp only [Option.bind_some, hget]
      rw [show Pt.field 0 (.fp 0 (wdC w)) = some (.fp 0 (wdC w)) from rfl, Option.bind_some, show AHeap.cell h (.fp 0 (wdC w)) = some (.str ⟨w.text.toArray⟩) from rfl]
      simp only [Option.bind_some, str_str]
      rw [show (0 : Int) = ((0 : Nat) : Int) from rfl, strAt_mk hpos]
      simp only [Option.bind_some, bool_bool]
      refine rest _ ?_
      unfold keepLine
      simp only [Bool.not_true, Bool.false_or]
      by_cases h9 : w.text.getD 0 0 = 99
      · rw [h9]; rfl
      · rw [decide_eq_false (fun e => h9 (UInt8.toNat_inj.1 (by rw [show (99 : UInt8).toNat = 99 from rfl]; omega)))]
        rw [bne_iff_ne.2 h9]; rfl
theorem wsplit_loop (fuel d : Nat) {b : List UInt8} {c : Bool} (hb : b.length < 1000000) (hf : b.length + 2 ≤ fuel) : ∀ (n k : Nat) (s5 : Sl) (acc : List Wd) (h : AHeap), b.length + 2 ≤ n + k → k ≤ b.length + 1 → Grown h 3 s5 (wdsC acc) → acc.length ≤ k →
    ∃ s' h', l_word_Split_0 fuel (d + 2) n [(0, .slice (lstU b)), (1, .bool c), (5, .slice s5), (6, .int .i64 (k : Int))] h = some (.exit 0, [(5, .slice s')], h') ∧ Grown h' 3 s' (wdsC (acc ++ splitGo b c n k)) := by
  intro n
  induction n with
  | zero => intro k s5 acc h h1 h2; omega
  | succ n ih =>
    intro k s5 acc h h1 h2 hg hacc
    rw [l_word_Split_0_eq, len_lst]
    by_cases hk : k < b.length
    · rw [bif_pos (by omega), aHi_none, Option.bind_some, aLo_some (by omega) (by omega), Option.bind_some, Int.toNat_natCast, aMx_none, Option.bind_some, hasSz_lstM, cond_true, cut_lstU b (by omega), show (b.drop k).take (b.length - k) = b.drop k from List.take_of_length_le (by simp), index_run]
      have hnl := nlOf_le (b := b) (at_ := k) (by omega)
      have tail := wsplit_tail fuel d hb hf n k hk s5 acc h hg hacc (c := c) fun s5 acc h hg ha => ih _ s5 acc h (by omega) (by omega) hg ha
      simp only [Option.bind_some, int_int]
      by_cases hi : Lib.indexByte (b.drop k) 10 < 0
      · have hn : IntKind.wrap .i64 ((b.length : Int) - (k : Int)) = (nlOf b k : Int) := by unfold nlOf; rw [if_pos hi, wrap64 (by omega) (by omega)]; omega
        rw [bif_pos hi, hn, Option.bind_some]
        exact tail
      · have hn : Lib.indexByte (b.drop k) 10 = (nlOf b k : Int) := by unfold nlOf; rw [if_neg hi]; omega
        rw [bif_neg hi, hn, Option.bind_some]
        exact tail
    · rw [bif_neg (by omega)]
      refine ⟨s5, h, rfl, ?_⟩
      simp only [splitGo]
      rw [if_neg hk, List.append_nil]
      exact hg
theorem split_body (fuel d : Nat) {b : List UInt8} {c : Bool} (hb : b.length < 1000000) (hf : b.length + 2 ≤ fuel) : ∃ s' h', brun fuel (d + 3) F_word_Split [.slice (lstU b), .bool c] AHeap.none = some (.slice s', h') ∧ freezeV h' 8 (.slice s') = some (.slice (lstW (splitOf b c))) := by
  obtain ⟨s', h', e1, g1⟩ := wsplit_loop fuel d hb hf (c := c) fuel 0 .nil [] AHeap.none (by omega) (by omega) .nil (by simp)
  refine ⟨s', h', ?_, ?_⟩
  · rw [e_word_Split]
    rw [show ((0 : Nat) : Int) = 0 from rfl] at e1
    rw [e1]
    simp only [Option.bind_some, k_word_Split_0_x0]
  · rw [show splitGo b c fuel 0 = splitOf b c from splitGo_fuel _ _ _ (by omega) (by omega), List.nil_append] at g1
    have := g1.len
    rw [wdsC_len] at this
    rw [g1.freeze (n := 7) (by omega) (freeze_wdsC 6 _), show s'.len = (splitOf b c).length by omega]
theorem split_run (fuel d : Nat) {b : List UInt8} {c : Bool} (hb : b.length < 1000000) (hf : b.length + 2 ≤ fuel) (h : AHeap) : run fuel (d + 3) F_word_Split [.slice (lstU b), .bool c] h = some (.slice (lstW (splitOf b c)), h) := by
  obtain ⟨s', h', e1, e2⟩ := split_body fuel d hb hf (c := c)
  exact pure_of rfl rfl (cc2 (canon_lstU 7 b) rfl) e1 e2
theorem split_any (fuel d : Nat) {b : List UInt8} {c : Bool} (hb : b.length < 1000000) (hf : b.length + 2 ≤ fuel) {h : AHeap} {s : Sl} (hs : freezeV h 8 (.slice s) = some (.slice (lstU b))) : ∃ ids, run fuel (d + 3) F_word_Split [.slice s, .bool c] h = some (.slice (lstW (splitOf b c)), h.markRo ids) := by
  obtain ⟨s', h', e1, e2⟩ := split_body fuel d hb hf (c := c)
  exact run_any rfl rfl (mm2 hs rfl) e1 e2
end Go.Proofs.YtdkckkhghghhdaaDoor
