/-
  word.Plain, dimacs.count, dimacs.Head.
-/
import Derived.Test.YtdkckkhghghhdaaDoorHd0
import Derived.Test.YtdkckkhghghhdaaDoorDc1
namespace Go.Proofs.YtdkckkhghghhdaaDoor
open Go.RowKit

theorem okNum_pos {t : List UInt8} (h : okNum t = true) : 0 < t.length := (okNum_facts h).2.2.2.1
theorem plain_run (fuel d : Nat) (hf : 20 < fuel) (l : List UInt8) (h : AHeap) : run fuel (d + 4) F_word_Plain [.str (tx l)] h = some (.tup [.int .i64 (if plainW l = true then numW l else 0), .bool (plainW l)], h) := by
  refine pure_of rfl rfl (cc1 rfl) (r := .tup [.int .i64 (if plainW l = true then numW l else 0), .bool (plainW l)]) (h' := AHeap.none) ?_ rfl
  rw [e_word_Plain, wNum_run fuel d hf]
  simp only [Option.bind_some, isTup_tup, List.length_cons, List.length_nil, Nat.beq, cond_true, comp_tup, List.getElem?_cons_zero, List.getElem?_cons_succ, int_int, bool_bool]
  unfold plainW
  cases hok : okNum l with
  | false => rfl
  | true =>
    have h0 := okNum_pos hok
    have hs := strAt_mk (l := l) (k := 0) h0
    rw [show ((0 : Nat) : Int) = 0 from rfl] at hs
    have e := u8_dec (l.getD 0 0) 45
    rw [show (((45 : UInt8).toNat : Nat) : Int) = 45 from rfl] at e
    have hm : minusI l = (l.getD 0 0 == 45) := by unfold minusI; rw [decide_eq_true h0, Bool.true_and]
    simp only [Bool.not_true, beq_self_eq_true, cond_true, hs, Option.bind_some, bool_bool, Bool.true_and]
    rw [e, ← hm]
    cases minusI l <;> rfl
/-- an error by its code -/
def errC (c : Int) : AVal := if c = 101 then err_api_ErrText else err_api_ErrLimit
theorem dat1 (fuel d : Nat) (p : Int) (h : AHeap) : run fuel (d + 1) F_dimacs_at [.int .i64 p, err_api_ErrLimit] h = some (atV p err_api_ErrLimit, h) := dat_run fuel d (j := 1) (by omega) p h
def cntA (w : Wd) (most : Int) : AVal := match cntC w most with
  | some c => .tup [.int .i64 0, atV (w.pos : Int) (errC c)]
  | none => .tup [.int .i64 (numW w.text), .nilif]
theorem canon_wd (w : Wd) : canonV 8 (.agg (wdC w)) = some (.agg (wdC w)) := by
  unfold wdC
  rw [canon_agg, canonM_cons (u := .str ⟨w.text.toArray⟩) rfl (canonM_cons (u := .int .i64 (w.pos : Int)) rfl (canonM_cons (u := .bool w.first) rfl (canonM_nil _)))]
  rfl
theorem cntC_code {w : Wd} {most c : Int} (h : cntC w most = some c) : c = 101 ∨ c = 102 := by
  unfold cntC at h
  split at h
  · left; cases h; rfl
  · split at h
    · right; cases h; rfl
    · cases h
theorem count_run0 (fuel d : Nat) (hf : 20 < fuel) (w : Wd) (most : Int) (h : AHeap) : run fuel (d + 5) F_dimacs_count [.agg (wdC w), .int .i64 most] h = some (cntA w most, h) := by
  have s1 := (Sep0.start AHeap.none).push 1 3 (cs := wdC w) rfl
  have c0 : (AHeap.none.push 1 (wdC w)).cell (.mk ⟨AHeap.none.next, 0, 0 + 0⟩ 3) = some (.str (tx w.text)) := s1.part (i := 0) rfl (by omega) rfl
  have c1 : (AHeap.none.push 1 (wdC w)).cell (.mk ⟨AHeap.none.next, 0, 0 + 1⟩ 3) = some (.int .i64 (w.pos : Int)) := s1.part (i := 0) rfl (by omega) rfl
  have c2 : (AHeap.none.push 1 (wdC w)).cell (.mk ⟨AHeap.none.next, 0, 0 + 2⟩ 3) = some (.bool w.first) := s1.part (i := 0) rfl (by omega) rfl
  have key : brun fuel (d + 5) F_dimacs_count [.agg (wdC w), .int .i64 most] AHeap.none = some (cntA w most, AHeap.none.push 1 (wdC w)) := by
    rw [e_dimacs_count, show List.all (wdC w) AVal.isCell = true from rfl, cond_true, wdC_len]
    simp only [field_mk, Option.bind_some, c0, str_str]
    rw [plain_run fuel d hf]
    simp only [Option.bind_some, isTup_tup, List.length_cons, List.length_nil, Nat.beq, cond_true, comp_tup, List.getElem?_cons_zero, List.getElem?_cons_succ, int_int, bool_bool, c2]
    unfold cntA cntC
    cases hfi : w.first with
    | true =>
      simp only [cond_true, Bool.true_or, if_true, c1, Option.bind_some, int_int]
      rw [dat0 fuel (d + 3)]
      rfl
    | false =>
      cases hp : plainW w.text with
      | false =>
        simp only [cond_true, cond_false, Bool.not_false, Bool.false_or, if_true, c1, Option.bind_some, int_int]
        rw [dat0 fuel (d + 3)]
        rfl
      | true =>
        simp only [cond_false, Bool.not_true, Bool.false_or, Bool.false_eq_true, if_false, if_true]
        by_cases hm : most < numW w.text
        · rw [bif_pos hm, if_pos hm]
          simp only [c1, Option.bind_some, int_int]
          rw [dat1 fuel (d + 3)]
          rfl
        · rw [bif_neg hm, if_neg hm]
  refine pure_of rfl rfl (cc2 (canon_wd w) rfl) key ?_
  unfold cntA
  cases hc : cntC w most with
  | none => exact freeze_tup2 _ rfl rfl
  | some c => rcases cntC_code hc with rfl | rfl <;> exact freeze_tup2 _ rfl rfl

/-- what the head hands back -/
def hdA : HdR → AVal
  | .ok v m => .tup [.int .i64 v, .int .i64 m, .int .i64 4, .nilif]
  | .bad c p => .tup [.int .i64 0, .int .i64 0, .int .i64 0, atV p (errC c)]
theorem txt_ne (t u : List UInt8) : (!decide (tx t = tx u)) = !(t == u) := by
  congr 1
  by_cases h : t = u
  · subst h; simp
  · rw [beq_false_of_ne h, decide_eq_false]
    intro h9
    refine h ?_
    have := congrArg (fun b : ByteArray => b.data.toList) h9
    simpa using this
theorem head_ret (fuel d : Nat) (c p : Int) (x8 : AVal) (h : AHeap) : k_dimacs_Head_0 fuel d .ret [(4, (.int .i64 (0 : Int))), (5, (.int .i64 (0 : Int))), (6, (.int .i64 (0 : Int))), (7, atV p (errC c)), (8, x8)] h = some (hdA (.bad c p), h) := k_dimacs_Head_0_r fuel d 0 0 0 _ _ h
end Go.Proofs.YtdkckkhghghhdaaDoor
