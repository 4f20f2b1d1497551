/-
  WordNumbers.
-/
import Derived.Test.YthccobceodgmlaaDoorWd4
import Derived.Test.YthccobceodgmlaaDoorWdF
import Derived.Test.YthccobceodgmlaaDoorS1n
namespace Go.Proofs.YthccobceodgmlaaDoor
open Go.RowKit

theorem tx_append (a b : List UInt8) : (tx a ++ tx b : ByteArray) = tx (a ++ b) := by
  apply ByteArray.ext
  rw [ByteArray.data_append]
  simp
def digU (k : Nat) : UInt8 := UInt8.ofNat (48 + k % 10)
theorem digU_nat (k : Nat) : (digU k).toNat = 48 + k % 10 := by unfold digU; rw [UInt8.toNat_ofNat']; omega
theorem digU_dig (k : Nat) : isDig (digU k) = true := by
  unfold isDig
  rw [digU_nat, decide_eq_false (by omega), decide_eq_false (by omega)]; rfl
/-- a number's digits, ahead of a text -/
def decA : Nat → Nat → List UInt8 → List UInt8
  | 0, _, acc => acc
  | n + 1, k, acc => if k < 10 then digU k :: acc else decA n (k / 10) (digU k :: acc)
theorem valI_snoc (a : Int) (l : List UInt8) (c : UInt8) : valI a (l ++ [c]) = 10 * valI a l + ((c.toNat : Int) - 48) := by simp [valI]
theorem decA_is : ∀ (n k j : Nat) (acc : List UInt8), k < 10 ^ (j + 1) → j < n → ∃ D, decA n k acc = D ++ acc ∧ D.all isDig = true ∧ 1 ≤ D.length ∧ D.length ≤ j + 1 ∧ valI 0 D = (k : Int)
  | 0, k, j, acc, h1, h2 => by omega
  | n + 1, k, j, acc, h1, h2 => by
    unfold decA
    by_cases hk : k < 10
    · rw [if_pos hk]
      refine ⟨[digU k], rfl, by simp [digU_dig], by simp, by simp, ?_⟩
      simp [valI, digU_nat]
      omega
    · rw [if_neg hk]
      obtain ⟨j, rfl⟩ : ∃ i, j = i + 1 := by
        cases j with
        | zero => simp at h1; omega
        | succ j => exact ⟨j, rfl⟩
      rw [Nat.pow_succ] at h1
      obtain ⟨D, e1, e2, e3, e4, e5⟩ := decA_is n (k / 10) j (digU k :: acc) (by omega) (by omega)
      refine ⟨D ++ [digU k], by rw [e1]; simp, by simp [e2, digU_dig], by simp, by simp; omega, ?_⟩
      rw [valI_snoc, e5, digU_nat]
      omega
theorem one_byte (h : AHeap) (v : Int) : ((AHeap.sliceCells h 1 (Sl.lst 1 true [(.int .u8 v)])).bind fun c1 => bytesFrom c1) = some [UInt8.ofNat v.toNat] := rfl
theorem wnums_loop (fuel d : Nat) {N c : Int} (h : AHeap) : ∀ (n k : Nat) (acc : List UInt8), k < 1000000000 → k < n → acc.length + k < 9000000000000000000 →
    l_skolemlaw3_WordNumbers_0 fuel d n [(0, .int .i64 N), (1, .int .u8 c), (5, .bool true), (6, .str (tx acc)), (7, .int .i64 (k : Int))] h =
      some (.exit 0, [(0, .int .i64 N), (1, .int .u8 c), (5, .bool true), (6, .str (tx (decA n k acc)))], h) := by
  intro n
  induction n with
  | zero => intro k acc h1 h2; omega
  | succ n ih =>
    intro k acc h1 h2 h3
    rw [l_skolemlaw3_WordNumbers_0_eq]
    have hd : Int.tmod (k : Int) 10 = ((k % 10 : Nat) : Int) := rfl
    have hq : Int.tdiv (k : Int) 10 = ((k / 10 : Nat) : Int) := rfl
    have hv : IntKind.wrap .u8 (IntKind.wrap .i64 (48 + ((k % 10 : Nat) : Int))) = ((48 + k % 10 : Nat) : Int) := by
      rw [wrap64 (by omega) (by omega), wrapU8]; omega
    rw [hd, hq, hv]
    have hb : bytesFrom [(AVal.int .u8 ((48 + k % 10 : Nat) : Int))] = some [digU k] := by
      show some [UInt8.ofNat (((48 + k % 10 : Nat) : Int)).toNat] = _
      rw [Int.toNat_natCast]; rfl
    rw [show AHeap.sliceCells h 1 (Sl.lst 1 true [(AVal.int .u8 ((48 + k % 10 : Nat) : Int))]) = some [(AVal.int .u8 ((48 + k % 10 : Nat) : Int))] from rfl, Option.bind_some, hb, Option.bind_some]
    rw [show ((⟨List.toArray [digU k]⟩ : ByteArray) ++ tx acc) = tx (digU k :: acc) from tx_append [digU k] acc]
    rw [show ByteArray.size (⟨List.toArray [digU k]⟩ : ByteArray) = 1 from rfl, tx_size, cond_pos _ _ (nble.2 (by omega)), wrap64 (by omega) (by omega)]
    unfold decA
    by_cases hk : k < 10
    · rw [bif_pos (by omega), if_pos hk]
    · rw [bif_neg (by omega), if_neg hk]
      exact ih (k / 10) (digU k :: acc) (by omega) (by omega) (by simp; omega)

theorem u8_of {c : Int} (h0 : 0 ≤ c) (h1 : c ≤ 255) : ((UInt8.ofNat c.toNat).toNat : Int) = c := by rw [UInt8.toNat_ofNat']; omega
theorem dig_head {D : List UInt8} (h : D.all isDig = true) (h1 : 1 ≤ D.length) (r : List UInt8) : minusI (D ++ r) = false := by
  cases D with
  | nil => simp at h1
  | cons x D =>
    simp only [List.all_cons, Bool.and_eq_true] at h
    obtain ⟨q1, q2⟩ := isDig_true h.1
    unfold minusI
    have : (List.getD (x :: D ++ r) 0 0 == 45) = false := beq_false_of_ne fun e => by
      have e : x = 45 := e
      subst e
      have : (((45 : UInt8).toNat : Nat) : Int) = 45 := rfl
      omega
    rw [this, Bool.and_false]
theorem isDig_int {x : UInt8} {c : Int} (h : (x.toNat : Int) = c) : isDig x = (bif decide ((48 : Int) ≤ c) then decide (c ≤ (57 : Int)) else false) := by
  unfold isDig
  rw [h]
  by_cases h1 : c < 48
  · rw [decide_eq_true h1, decide_eq_false (show ¬ 48 ≤ c by omega)]; rfl
  · rw [decide_eq_false h1, decide_eq_true (show 48 ≤ c by omega)]
    by_cases h2 : 57 < c
    · rw [decide_eq_true h2, decide_eq_false (show ¬ c ≤ 57 by omega)]; rfl
    · rw [decide_eq_false h2, decide_eq_true (show c ≤ 57 by omega)]; rfl

theorem wordNumbers_run (F d : Nat) (hF : 2 ^ 40 ≤ F) (n c : Int) (hc : 0 ≤ c ∧ c ≤ 255) (h : AHeap) :
    ∃ h', run F (d + 60) F_skolemlaw3_WordNumbers [.int .i64 n, .int .u8 c] h = some (.bool true, h') := by
  rw [e_skolemlaw3_WordNumbers, first3_run F (by omega) (by omega)]
  simp only [Option.bind_some, bool_bool, Bool.not_true, cond_false]
  rw [Number_run F (d + 58) (by omega)]
  obtain ⟨r1, r2⟩ := numI_range (n := n) (b := 1000000000) (by omega) (by omega)
  generalize numI n 1000000000 = w at r1 r2
  obtain ⟨k, rfl⟩ : ∃ k : Nat, w = (k : Int) := ⟨w.toNat, by omega⟩
  simp only [Option.bind_some, int_int]
  have hl := wnums_loop F (d + 59) (N := (k : Int)) (c := c) h F k [] (by omega) (by omega) (by simp; omega)
  rw [show (⟨#[]⟩ : ByteArray) = tx [] from rfl, hl, Option.bind_some, k_skolemlaw3_WordNumbers_0_x0]
  obtain ⟨D, e1, e2, e3, e4, e5⟩ := decA_is F k 8 [] (by omega) (by omega)
  rw [List.append_nil] at e1
  rw [e1]
  have nD : minusI D = false := by have := dig_head e2 e3 []; rwa [List.append_nil] at this
  have dD : digitsI D = D := by unfold digitsI; rw [nD]; rfl
  have oD : okNum D = true := by unfold okNum; rw [dD, decide_eq_false (by omega), e2]; rfl
  have vD : numW D = (k : Int) := by unfold numW; rw [oD, nD, dD, e5]; rfl
  rw [wNum_run F (d + 56) (by omega), oD, vD]
  simp only [Option.bind_some, isTup_tup, List.length_cons, List.length_nil, Nat.beq, cond_true, comp_tup, List.getElem?_cons_zero, List.getElem?_cons_succ, int_int, bool_bool]
  rw [show ((⟨#[45]⟩ : ByteArray) ++ tx D) = tx (45 :: D) from tx_append [45] D, show ByteArray.size (⟨#[45]⟩ : ByteArray) = 1 from rfl, tx_size, cond_pos _ _ (nble.2 (by omega))]
  have nM : minusI (45 :: D) = true := rfl
  have dM : digitsI (45 :: D) = D := rfl
  have oM : okNum (45 :: D) = true := by unfold okNum; rw [dM, decide_eq_false (by omega), e2]; rfl
  have vM : numW (45 :: D) = -(k : Int) := by unfold numW; rw [oM, nM, dM, e5]; rfl
  rw [wNum_run F (d + 56) (by omega), oM, vM]
  simp only [Option.bind_some, isTup_tup, List.length_cons, List.length_nil, Nat.beq, cond_true, comp_tup, List.getElem?_cons_zero, List.getElem?_cons_succ, int_int, bool_bool]
  have o1 : okNum [49, 50, 51, 52, 53, 54, 55, 56, 57, 48] = false := by decide
  have o2 : okNum [45] = false := by decide
  have o3 : okNum [] = false := by decide
  rw [show (⟨#[49, 50, 51, 52, 53, 54, 55, 56, 57, 48]⟩ : ByteArray) = tx [49, 50, 51, 52, 53, 54, 55, 56, 57, 48] from rfl, wNum_run F (d + 56) (by omega), o1]
  simp only [Option.bind_some, isTup_tup, List.length_cons, List.length_nil, Nat.beq, cond_true, comp_tup, List.getElem?_cons_zero, List.getElem?_cons_succ, int_int, bool_bool]
  rw [show (⟨#[45]⟩ : ByteArray) = tx [45] from rfl, wNum_run F (d + 56) (by omega), o2]
  simp only [Option.bind_some, isTup_tup, List.length_cons, List.length_nil, Nat.beq, cond_true, comp_tup, List.getElem?_cons_zero, List.getElem?_cons_succ, int_int, bool_bool]
  rw [wNum_run F (d + 56) (by omega), o3]
  simp only [Option.bind_some, isTup_tup, List.length_cons, List.length_nil, Nat.beq, cond_true, comp_tup, List.getElem?_cons_zero, List.getElem?_cons_succ, int_int, bool_bool]
  rw [show AHeap.sliceCells h 1 (Sl.lst 1 true [(AVal.int .u8 c)]) = some [(AVal.int .u8 c)] from rfl, Option.bind_some, show bytesFrom [(AVal.int .u8 c)] = some [UInt8.ofNat c.toNat] from rfl, Option.bind_some]
  rw [show (tx D ++ (⟨List.toArray [UInt8.ofNat c.toNat]⟩ : ByteArray)) = tx (D ++ [UInt8.ofNat c.toNat]) from tx_append D _, show ByteArray.size (⟨List.toArray [UInt8.ofNat c.toNat]⟩ : ByteArray) = 1 from rfl, cond_pos _ _ (nble.2 (by omega))]
  have hx := u8_of hc.1 hc.2
  generalize UInt8.ofNat c.toNat = x at hx
  have nX := dig_head e2 e3 [x]
  have oX : okNum (D ++ [x]) = (bif isDig x then decide ((D.length : Int) < 9) else false) := by
    unfold okNum digitsI
    rw [nX]
    simp only [Bool.false_eq_true, if_false, List.length_append, List.length_cons, List.length_nil, List.all_append, e2, List.all_cons, List.all_nil, Bool.true_and, Bool.and_true]
    by_cases h9 : D.length < 9
    · rw [decide_eq_false (by omega), decide_eq_true (show (D.length : Int) < 9 by omega)]
      cases isDig x <;> rfl
    · rw [decide_eq_true (by omega), decide_eq_false (show ¬ (D.length : Int) < 9 by omega)]
      cases isDig x <;> rfl
  rw [wNum_run F (d + 56) (by omega), oX, isDig_int hx]
  simp only [Option.bind_some, isTup_tup, List.length_cons, List.length_nil, Nat.beq, cond_true, comp_tup, List.getElem?_cons_zero, List.getElem?_cons_succ, int_int, bool_bool]
  rw [show IntKind.wrap .i64 (0 - (k : Int)) = -(k : Int) from by rw [wrap64 (by omega) (by omega)]; omega]
  simp only [decide_true, cond_true, Bool.not_false, beq_self_eq_true, Option.bind_some, bool_bool]
  exact ⟨_, rfl⟩
end Go.Proofs.YthccobceodgmlaaDoor
