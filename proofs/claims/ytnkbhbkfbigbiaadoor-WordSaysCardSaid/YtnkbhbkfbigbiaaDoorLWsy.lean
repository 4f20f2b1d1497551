/-
  WordSays.
-/
import Derived.Test.YtnkbhbkfbigbiaaDoorWd4
import Derived.Test.YtnkbhbkfbigbiaaDoorWdF
namespace Go.Proofs.YtnkbhbkfbigbiaaDoor
open Go.RowKit

theorem wsays_loop (fuel d : Nat) {b : Sl} {s : ByteArray} {x : Int} {L : List Wd} (hL : L.length < 1000000000) (h : AHeap) : ∀ (n k : Nat), L.length < n + k → k ≤ L.length →
    l_skolemlaw3_WordSays_0 fuel d n [(0, .slice b), (2, .str s), (3, .int .i64 x), (9, .bool true), (10, .slice (lstW L)), (11, .slice (lstW L)), (12, .int .i64 (k : Int))] h =
      some (.exit 0, [(0, .slice b), (2, .str s), (3, .int .i64 x), (8, .bot), (9, .bool true)], h) := by
  intro n
  induction n with
  | zero => intro k h1 h2; omega
  | succ n ih =>
    intro k h1 h2
    rw [l_skolemlaw3_WordSays_0_eq, len_lst]
    by_cases hk : k < L.length
    · rw [bif_pos (by omega), addr_lstN (sz := 3) (f := wdC) wdC_len (l := L) (j := (k : Int)) (by omega) (by omega) ⟨[], 0, false⟩]
      generalize L.getD (Int.toNat (k : Int)) ⟨[], 0, false⟩ = w
      have f0 : Pt.field 0 (.fp 0 (wdC w)) = some (.fp 0 (wdC w)) := rfl
      have f1 : Pt.field 1 (.fp 0 (wdC w)) = some (.fp 0 [.int .i64 (w.pos : Int), .bool w.first]) := rfl
      have f2 : Pt.field 2 (.fp 0 (wdC w)) = some (.fp 0 [.bool w.first]) := rfl
      have c0 : AHeap.cell h (.fp 0 (wdC w)) = some (.str (tx w.text)) := rfl
      simp only [Option.bind_some, f0, f1, f2, c0, cell_fp, str_str, int_int, bool_bool]
      rw [bif_npos trivial, bif_npos trivial, Option.bind_some, show (!(w.first == w.first)) = false from by cases w.first <;> rfl, k_skolemlaw3_WordSays_1_n, cond_false, sucU (by omega)]
      exact ih (k + 1) (by omega) (by omega)
    · rw [bif_neg (by omega)]

theorem wordSays_run (F d : Nat) (hF : 2 ^ 21 ≤ F) (b : List UInt8) (c : Bool) (s : ByteArray) (x : Int) (h : AHeap) :
    ∃ h', run F (d + 60) F_skolemlaw3_WordSays [.slice (lstU b), .bool c, .str s, .int .i64 x] h = some (.bool true, h') := by
  rw [e_skolemlaw3_WordSays, first3_run F (by omega) (by omega), len_lst, or2]
  simp only [Option.bind_some, bool_bool, Bool.not_true, cond_false]
  by_cases h0 : (300 : Int) < (b.length : Int) ∨ (60 : Int) < ((ByteArray.size s : Nat) : Int)
  · rw [decide_eq_true h0]
    exact ⟨h, rfl⟩
  rw [decide_eq_false h0, cond_false]
  obtain ⟨l, rfl⟩ : ∃ l, s = tx l := ⟨_, tx_of s⟩
  rw [tx_size] at h0
  have hsl : (splitOf b c).length ≤ b.length + 1 := by
    have := splitGo_len (b := b) (c := c) (b.length + 1) 0
    unfold splitOf
    omega
  rw [split_run F (d + 56) (by omega) (by omega), Option.bind_some, slice_slice, Option.bind_some, rsplit_run F (d + 57) (by omega) (by omega), Option.bind_some, slice_slice, Option.bind_some, bif_npos rfl]
  have := wsays_loop F (d + 59) (b := lstU b) (s := tx l) (x := x) (L := splitOf b c) (by omega) h F 0 (by omega) (by omega)
  rw [show ((0 : Nat) : Int) = 0 from rfl] at this
  rw [this, Option.bind_some, k_skolemlaw3_WordSays_0_x0]
  rw [wNum_run F (d + 56) (by omega)]
  simp only [Option.bind_some, isTup_tup, List.length_cons, List.length_nil, Nat.beq, cond_true, comp_tup, List.getElem?_cons_zero, List.getElem?_cons_succ, int_int, bool_bool]
  rw [rNum_run F (d + 58) (by omega)]
  simp only [Option.bind_some, isTup_tup, List.length_cons, List.length_nil, Nat.beq, cond_true, comp_tup, List.getElem?_cons_zero, List.getElem?_cons_succ, int_int, bool_bool]
  rw [wBits_run F (d + 58) (by omega) (by omega)]
  simp only [Option.bind_some, isTup_tup, List.length_cons, List.length_nil, Nat.beq, cond_true, comp_tup, List.getElem?_cons_zero, List.getElem?_cons_succ, slice_slice, bool_bool]
  rw [rBits_run F (d + 58) (by omega) (by omega)]
  simp only [Option.bind_some, isTup_tup, List.length_cons, List.length_nil, Nat.beq, cond_true, comp_tup, List.getElem?_cons_zero, List.getElem?_cons_succ, slice_slice, bool_bool]
  rw [tLine_run F (d + 56) (by omega)]
  unfold tupL
  simp only [Option.bind_some, isTup_tup, List.length_cons, List.length_nil, Nat.beq, cond_true, comp_tup, List.getElem?_cons_zero, List.getElem?_cons_succ, str_str, int_int, bool_bool]
  rw [rLine_run F (d + 58) (by omega) (by omega)]
  unfold tupL
  simp only [Option.bind_some, isTup_tup, List.length_cons, List.length_nil, Nat.beq, cond_true, comp_tup, List.getElem?_cons_zero, List.getElem?_cons_succ, str_str, int_int, bool_bool, decide_true, beq_self_eq_true]
  have hbl : (bitsI l).length ≤ l.length := by unfold bitsI; split <;> simp
  rw [sameB_run F (d + 58) (by omega) (by omega)]
  simp only [Option.bind_some, bool_bool, cond_true]
  exact ⟨_, rfl⟩
end Go.Proofs.YtnkbhbkfbigbiaaDoor
