/-
  skolemref1.Split.
-/
import Derived.Test.YtdkckkhghghhdaaDoorWd1
import Derived.Test.YtdkckkhghghhdaaDoorWdT
namespace Go.Proofs.YtdkckkhghghhdaaDoor
open Go.RowKit

def blankI (c : Int) : Bool := bif (bif decide (c = 32) then true else decide (c = 9)) then true else decide (c = 13)
theorem blank_run (fuel d : Nat) (c : Int) (h : AHeap) : run fuel (d + 1) F_skolemref1_blank [.int .u8 c] h = some (.bool (blankI c), h) :=
  pure_of rfl rfl (cc1 rfl) (by rw [e_skolemref1_blank]) rfl
theorem isW_eq (x : UInt8) : isW x = (!decide ((x.toNat : Int) = 10) && !blankI (x.toNat : Int)) := by
  unfold isW kindI blankI
  by_cases h1 : (x.toNat : Int) = 32
  · simp [h1]
  · by_cases h2 : (x.toNat : Int) = 9
    · simp [h2]
    · by_cases h3 : (x.toNat : Int) = 13
      · simp [h3]
      · by_cases h4 : (x.toNat : Int) = 10
        · simp [h4]
        · simp [h1, h2, h3, h4]
theorem rsplit_in (fuel d : Nat) {h : AHeap} {s5 : Sl} {c f s : Bool} {x8 : Int} {b : List UInt8} (hb : b.length < 1000000000) : ∀ (n k : Nat), b.length < n + k → k ≤ b.length →
    l_skolemref1_Split_1 fuel (d + 1) n [(0, .slice (lstU b)), (1, .bool c), (5, .slice s5), (6, .bool f), (7, .bool s), (8, .int .i64 x8), (9, .int .i64 (k : Int))] h = some (.exit 3, [(0, .slice (lstU b)), (1, .bool c), (5, .slice s5), (6, .bool f), (7, .bool s), (8, .int .i64 x8), (9, .int .i64 (wEnd b k : Int))], h) := by
  intro n
  induction n with
  | zero => intro k h1 h2; omega
  | succ n ih =>
    intro k h1 h2
    rw [l_skolemref1_Split_1_eq, len_lst]
    by_cases hk : k < b.length
    · rw [decide_eq_true (show (k : Int) < (b.length : Int) by omega), addr_lstM _ (by omega) (by omega) 0]
      simp only [beq_self_eq_true, cond_true, Option.bind_some, cell_fp, int_int, Int.toNat_natCast, bool_bool]
      have hq := isW_eq (b.getD k 0)
      by_cases h10 : ((b.getD k 0).toNat : Int) = 10
      · rw [decide_eq_true h10] at hq ⊢
        rw [wEnd_out (by rw [hq]; rfl)]
        rfl
      · rw [decide_eq_false h10] at hq ⊢
        simp only [Bool.not_false, beq_self_eq_true, cond_true]
        rw [addr_lstM _ (by omega) (by omega) 0]
        simp only [Option.bind_some, cell_fp, int_int, Int.toNat_natCast, blank_run, bool_bool]
        cases hbl : blankI ((b.getD k 0).toNat : Int) with
        | true =>
          rw [hbl] at hq
          rw [wEnd_out (by rw [hq]; rfl)]
          rfl
        | false =>
          rw [hbl] at hq
          simp only [Bool.not_false, cond_true]
          rw [sucU (by omega), ih (k + 1) (by omega) (by omega), wEnd_in hk (by rw [hq]; rfl)]
    · have : k = b.length := by omega
      subst this
      rw [decide_eq_false (show ¬ (b.length : Int) < (b.length : Int) by omega), wEnd_end (Nat.le_refl _)]
      rfl

theorem rsplit_loop (fuel d : Nat) {b : List UInt8} {c : Bool} (hb : b.length < 1000000) (hf : b.length + 2 ≤ fuel) : ∀ (n k : Nat) (f s : Bool) (s5 : Sl) (acc : List Wd) (h : AHeap), b.length + 1 ≤ n + k → k ≤ b.length → Grown h 3 s5 (wdsC acc) → acc.length ≤ k →
    ∃ s' h', l_skolemref1_Split_0 fuel (d + 1) n [(0, .slice (lstU b)), (1, .bool c), (5, .slice s5), (6, .bool f), (7, .bool s), (8, .int .i64 (k : Int))] h = some (.exit 0, [(5, .slice s')], h') ∧ Grown h' 3 s' (wdsC (acc ++ refGo b c n k f s)) := by
  intro n
  induction n with
  | zero => intro k f s s5 acc h h1 h2; omega
  | succ n ih =>
    intro k f s s5 acc h h1 h2 hg hacc
    have h5l := hg.len
    rw [wdsC_len] at h5l
    rw [l_skolemref1_Split_0_eq, len_lst]
    by_cases hk : k < b.length
    · rw [bif_pos (by omega), addr_lstM _ (by omega) (by omega) 0]
      simp only [Option.bind_some, cell_fp, int_int, Int.toNat_natCast]
      have hr : refGo b c (n + 1) k f s = (if b.getD k 0 = 10 then refGo b c n (k + 1) true false else
        if isW (b.getD k 0) = true then (if (s || (c && f && b.getD k 0 == 99)) = true then [] else [⟨(b.drop k).take (wEnd b k - k), k, f⟩]) ++ refGo b c n (wEnd b k) false (s || (c && f && b.getD k 0 == 99))
        else refGo b c n (k + 1) f s) := by
        conv => lhs; unfold refGo
        rw [if_pos hk]
      rw [hr]
      have hq := isW_eq (b.getD k 0)
      have i10 := u8_is (b.getD k 0) 10
      rw [show (((10 : UInt8).toNat : Nat) : Int) = 10 from rfl] at i10
      by_cases h10 : ((b.getD k 0).toNat : Int) = 10
      · rw [bif_pos h10, if_pos (i10.1 h10), sucU (by omega)]
        exact ih (k + 1) true false s5 acc h (by omega) (by omega) hg (by omega)
      · rw [bif_neg h10, if_neg (fun e => h10 (i10.2 e))]
        simp only [Option.bind_some, cell_fp, int_int, Int.toNat_natCast, blank_run, bool_bool]
        rw [decide_eq_false h10] at hq
        cases hbl : blankI ((b.getD k 0).toNat : Int) with
        | true =>
          rw [hbl] at hq
          rw [if_neg (by rw [hq]; simp), cond_true, sucU (by omega)]
          exact ih (k + 1) f s s5 acc h (by omega) (by omega) hg (by omega)
        | false =>
          rw [hbl] at hq
          have hw : isW (b.getD k 0) = true := by rw [hq]; rfl
          have w3 : k + 1 ≤ wEnd b k := by rw [wEnd_in hk hw]; exact (wEnd_le (by omega)).1
          have w2 := (wEnd_le (b := b) (k := k) (by omega)).2
          rw [if_pos hw, cond_false, rsplit_in fuel d (by omega) fuel k (by omega) (by omega)]
          simp only [Option.bind_some, k_skolemref1_Split_1_x3]
          have rest : ∀ s' : Bool, ∃ t h', k_skolemref1_Split_2 fuel (d + 1) n .normal [(0, .slice (lstU b)), (1, .bool c), (5, .slice s5), (6, .bool f), (7, .bool s'), (8, .int .i64 (k : Int)), (9, .int .i64 (wEnd b k : Int))] h = some (.exit 0, [(5, .slice t)], h') ∧
              Grown h' 3 t (wdsC (acc ++ ((if s' = true then [] else [⟨(b.drop k).take (wEnd b k - k), k, f⟩]) ++ refGo b c n (wEnd b k) false s'))) := by
            intro s'
            rw [k_skolemref1_Split_2_n]
            cases s' with
            | true =>
              simp only [Bool.not_true, cond_false, if_true, List.nil_append]
              exact ih (wEnd b k) false true s5 acc h (by omega) (by omega) hg (by omega)
            | false =>
              simp only [Bool.not_false, cond_true, Bool.false_eq_true, if_false]
              rw [len_lst, aHi_some (by omega) (by omega), Option.bind_some, Int.toNat_natCast, aLo_some (by omega) (by omega), Option.bind_some, Int.toNat_natCast, aMx_none, Option.bind_some, hasSz_lstM, cond_true, cut_lstU b (by omega), cells_lstM]
              simp only [Option.bind_some, bytesFrom_bytesC]
              obtain ⟨t, h', g1, g2, g3⟩ := hg.snoc (bytes := 32) (vs := wdC ⟨(b.drop k).take (wEnd b k - k), k, f⟩) rfl (by omega) (by omega)
              unfold wdC at g1
              simp only at g1
              rw [g1, Option.bind_some]
              obtain ⟨t2, h2, q1, q2⟩ := ih (wEnd b k) false false t (acc ++ [⟨(b.drop k).take (wEnd b k - k), k, f⟩]) h' (by omega) (by omega) (by simpa [wdsC] using g2) (by simp; omega)
              refine ⟨t2, h2, q1, ?_⟩
              rw [← List.append_assoc]
              exact q2
          have i99 := u8_is (b.getD k 0) 99
          rw [show (((99 : UInt8).toNat : Nat) : Int) = 99 from rfl] at i99
          have hb99 : (b.getD k 0 == 99) = decide (((b.getD k 0).toNat : Int) = 99) := by
            by_cases h9 : b.getD k 0 = 99
            · rw [decide_eq_true (i99.2 h9), beq_iff_eq]; exact h9
            · rw [decide_eq_false (fun e => h9 (i99.1 e))]; exact beq_false_of_ne h9
          rw [hb99]
          cases c with
          | false =>
            simp only [cond_false, show ((false == true) : Bool) = false from rfl, Option.bind_some, bool_bool, Bool.false_and, Bool.or_false]
            exact rest s
          | true =>
            cases f with
            | false =>
              simp only [cond_true, cond_false, show ((false == true) : Bool) = false from rfl, Option.bind_some, bool_bool, Bool.false_and, Bool.or_false, Bool.and_false]
              exact rest s
            | true =>
              simp only [cond_true, beq_self_eq_true, Bool.true_and]
              rw [addr_lstM _ (by omega) (by omega) 0]
              simp only [Option.bind_some, cell_fp, int_int, Int.toNat_natCast, bool_bool]
              by_cases h9 : ((b.getD k 0).toNat : Int) = 99
              · rw [decide_eq_true h9, Bool.or_true]
                exact rest true
              · rw [decide_eq_false h9, Bool.or_false]
                exact rest s
    · rw [bif_neg (by omega)]
      refine ⟨s5, h, rfl, ?_⟩
      simp only [refGo]
      rw [if_neg hk, List.append_nil]
      exact hg
theorem rsplit_run (fuel d : Nat) {b : List UInt8} {c : Bool} (hb : b.length < 1000000) (hf : b.length + 2 ≤ fuel) (h : AHeap) : run fuel (d + 2) F_skolemref1_Split [.slice (lstU b), .bool c] h = some (.slice (lstW (splitOf b c)), h) := by
  obtain ⟨s', h', e1, g1⟩ := rsplit_loop fuel d hb hf (c := c) fuel 0 true false .nil [] AHeap.none (by omega) (by omega) .nil (by simp)
  refine pure_of rfl rfl (cc2 (canon_lstU 7 b) rfl) (r := .slice s') (h' := h') ?_ ?_
  · rw [e_skolemref1_Split]
    rw [show ((0 : Nat) : Int) = 0 from rfl] at e1
    rw [e1]
    simp only [Option.bind_some, k_skolemref1_Split_0_x0]
  · rw [show refGo b c fuel 0 true false = splitOf b c from by rw [splitOf_ref]; exact refGo_fuel _ _ _ _ _ (by omega) (by omega), List.nil_append] at g1
    have := g1.len
    rw [wdsC_len] at this
    rw [g1.freeze (n := 7) (by omega) (freeze_wdsC 6 _), show s'.len = (splitOf b c).length by omega]

end Go.Proofs.YtdkckkhghghhdaaDoor
