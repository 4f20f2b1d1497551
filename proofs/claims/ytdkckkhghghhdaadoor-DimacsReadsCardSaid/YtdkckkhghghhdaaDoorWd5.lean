/-
  The document's numbers.
-/
import Derived.Test.YtdkckkhghghhdaaDoorWd4
namespace Go.Proofs.YtdkckkhghghhdaaDoor
open Go.RowKit

/-- the digits' loop, of the document's -/
theorem rnum_loop (fuel d : Nat) {t : List UInt8} {m : Bool} (ht : t.length ≤ 9) (h : AHeap) : ∀ (n k : Nat) (a : Int), t.length < n + k → k ≤ t.length → 0 ≤ a → a < 10 ^ k →
    (l_skolemref1_Number_0 fuel d n [(0, .str (tx t)), (4, .bool m), (5, .int .i64 a), (6, .int .i64 (k : Int))] h).bind (fun p => k_skolemref1_Number_1 fuel d p.1 p.2.1 p.2.2) =
      some (.tup [.int .i64 (if (t.drop k).all isDig = true then (if m = true then -valI a (t.drop k) else valI a (t.drop k)) else 0), .bool ((t.drop k).all isDig)], h) := by
  intro n
  induction n with
  | zero => intro k a h1 h2; omega
  | succ n ih =>
    intro k a h1 h2 h3 h4
    have hp := pow10_le (k := k) (by omega)
    rw [l_skolemref1_Number_0_eq, tx_size]
    by_cases hk : k < t.length
    · have hp2 := pow10_le (k := k + 1) (by omega)
      rw [Int.pow_succ] at hp2
      rw [bif_pos (by omega), drop_cons hk, List.all_cons, valI_cons]
      have hs := strAt_mk (l := t) (k := k) hk
      generalize t.getD k 0 = x at hs
      rw [hs]
      simp only [Option.bind_some]
      have e := dig_step x h (fun p => (bif p.1 then (some (.ret, [(2, (.int .i64 (0 : Int))), (3, (.bool false)), (4, (.bool m)), (5, (.int .i64 a))], p.2)) else
        l_skolemref1_Number_0 fuel d n [(0, (.str (tx t))), (4, (.bool m)), (5, (.int .i64 (IntKind.wrap .i64 ((IntKind.wrap .i64 ((10 : Int) * a)) + (IntKind.wrap .i64 (IntKind.wrap .u8 ((x.toNat : Int) - (48 : Int)))))))), (6, (.int .i64 (IntKind.wrap .i64 ((k : Int) + (1 : Int)))))] p.2)) (some (x.toNat : Int)) rfl
      simp only [Option.bind_some] at e
      rw [e]
      cases hx : isDig x with
      | false =>
        simp only [Bool.not_false, cond_true, Option.bind_some, k_skolemref1_Number_1_r, Bool.false_and, Bool.false_eq_true, if_false]
      | true =>
        obtain ⟨q1, q2⟩ := isDig_true hx
        simp only [Bool.not_true, cond_false, Bool.true_and]
        rw [wrapU8, wrap64 (n := 10 * a) (by omega) (by omega), wrap64 (n := ((x.toNat : Int) - 48) % 256) (by omega) (by omega), wrap64 (by omega) (by omega), sucU (by omega), show ((x.toNat : Int) - 48) % 256 = (x.toNat : Int) - 48 by omega]
        exact ih (k + 1) _ (by omega) (by omega) (by omega) (by rw [Int.pow_succ]; omega)
    · have : k = t.length := by omega
      subst this
      rw [bif_neg (by omega), List.drop_length]
      simp only [Option.bind_some, k_skolemref1_Number_1_x0, List.all_nil, if_true]
      cases m with
      | true => rw [cond_true, wrap64 (by omega) (by omega), show 0 - a = -a by omega]; rfl
      | false => rfl
theorem rNum_run (fuel d : Nat) (hf : 20 < fuel) (l : List UInt8) (h : AHeap) : run fuel (d + 1) F_skolemref1_Number [.str (tx l)] h = some (.tup [.int .i64 (numW l), .bool (okNum l)], h) := by
  refine pure_of rfl rfl (cc1 rfl) (r := .tup [.int .i64 (numW l), .bool (okNum l)]) (h' := AHeap.none) ?_ rfl
  rw [e_skolemref1_Number]
  have e := minus_step l AHeap.none (fun p => ((bif p.1 then ((aHi (none : Option AVal) (ByteArray.size (tx l))).bind fun hi4 =>
    (aLo (some (.int .i64 (1 : Int))) hi4).bind fun lo5 =>
    some (AExit.normal, [(0, (AVal.str (ByteArray.extract (tx l) lo5 hi4))), (4, (.bool p.1))], p.2)) else (some (.normal, [(0, (.str (tx l))), (4, (.bool p.1))], p.2)))).bind fun p6 =>
    k_skolemref1_Number_0 fuel d p6.1 p6.2.1 p6.2.2)
  rw [e]
  have step : (bif minusI l then ((aHi (none : Option AVal) (ByteArray.size (tx l))).bind fun hi4 =>
    (aLo (some (.int .i64 (1 : Int))) hi4).bind fun lo5 =>
    some (AExit.normal, [(0, (AVal.str (ByteArray.extract (tx l) lo5 hi4))), (4, (.bool (minusI l)))], AHeap.none)) else (some (.normal, [(0, (.str (tx l))), (4, (.bool (minusI l)))], AHeap.none))) =
      some (AExit.normal, [(0, .str (tx (digitsI l))), (4, .bool (minusI l))], AHeap.none) := by
    rw [← digits_tx]
    cases hm : minusI l with
    | true =>
      have := minus_pos hm
      rw [cond_true, aHi_none, Option.bind_some, tx_size, aLo_some (by omega) (by omega), Option.bind_some, if_pos rfl]
      rfl
    | false => rfl
  rw [step, Option.bind_some, k_skolemref1_Number_0_n, tx_size, or2]
  unfold numW okNum
  by_cases h0 : (digitsI l).length < 1 ∨ 9 < (digitsI l).length
  · rw [decide_eq_true (show (((digitsI l).length : Nat) : Int) < 1 ∨ 9 < (((digitsI l).length : Nat) : Int) by omega), decide_eq_true h0]
    simp
  · rw [decide_eq_false (show ¬ ((((digitsI l).length : Nat) : Int) < 1 ∨ 9 < (((digitsI l).length : Nat) : Int)) by omega), decide_eq_false h0, cond_false]
    have := rnum_loop fuel d (t := digitsI l) (m := minusI l) (by omega) AHeap.none fuel 0 0 (by omega) (by omega) (by omega) (by simp)
    rw [show ((0 : Nat) : Int) = 0 from rfl, List.drop_zero] at this
    rw [this]
    simp

end Go.Proofs.YtdkckkhghghhdaaDoor
