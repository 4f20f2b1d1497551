/-
  Numbers of words, both ways; strconv.Atoi on short ones.
-/
import Derived.Test.YtdkckkhghghhdaaDoorWd1
import Derived.Test.YtdkckkhghghhdaaDoorWdT
namespace Go.Proofs.YtdkckkhghghhdaaDoor
open Go.RowKit

theorem wrapU8 (n : Int) : IntKind.wrap .u8 n = n % 256 := by
  simp [IntKind.wrap, IntKind.bits, IntKind.signed]
def isDig (c : UInt8) : Bool := !decide ((c.toNat : Int) < 48) && !decide (57 < (c.toNat : Int))
theorem isDig_true {c : UInt8} (h : isDig c = true) : 48 ≤ (c.toNat : Int) ∧ (c.toNat : Int) ≤ 57 := by
  unfold isDig at h
  simp at h
  omega
/-- a number's value, from a value on -/
def valI (a : Int) (l : List UInt8) : Int := l.foldl (fun a c => 10 * a + ((c.toNat : Int) - 48)) a
theorem valI_cons (a : Int) (c : UInt8) (l : List UInt8) : valI a (c :: l) = valI (10 * a + ((c.toNat : Int) - 48)) l := rfl
def minusI (l : List UInt8) : Bool := decide (0 < l.length) && l.getD 0 0 == 45
def digitsI (l : List UInt8) : List UInt8 := if minusI l = true then l.drop 1 else l
def okNum (l : List UInt8) : Bool := !decide ((digitsI l).length < 1 ∨ 9 < (digitsI l).length) && (digitsI l).all isDig
def numW (l : List UInt8) : Int := if okNum l = true then (if minusI l = true then -valI 0 (digitsI l) else valI 0 (digitsI l)) else 0

theorem dig_step {β : Type} (x : UInt8) (h : AHeap) (K : Bool × AHeap → Option β) (e2 : Option Int) (he : e2 = some (x.toNat : Int)) :
    (((bif ((decide ((x.toNat : Int) < (48 : Int))) == false) then (e2.bind fun n2 => some ((AVal.bool (decide ((57 : Int) < n2))), h)) else (some ((AVal.bool true), h)) : Option (AVal × AHeap))).bind fun r3 => (AVal.bool? r3.1).bind fun b4 => K (b4, r3.2)) = K (!isDig x, h) := by
  subst he
  rw [Option.bind_some]
  unfold isDig
  cases decide ((x.toNat : Int) < 48) <;> cases decide (57 < (x.toNat : Int)) <;> rfl
theorem minus_step {β : Type} (l : List UInt8) (h : AHeap) (K : Bool × AHeap → Option β) :
    (((bif ((decide ((0 : Int) < (((tx l).size : Nat) : Int))) == true) then ((strAt (tx l) (0 : Int)).bind fun n1 => some ((AVal.bool (decide (n1 = (45 : Int)))), h)) else (some ((AVal.bool false), h)) : Option (AVal × AHeap))).bind fun r2 => (AVal.bool? r2.1).bind fun b3 => K (b3, r2.2)) = K (minusI l, h) := by
  rw [tx_size]
  unfold minusI
  by_cases h0 : 0 < l.length
  · have := strAt_mk (l := l) (k := 0) h0
    rw [show ((0 : Nat) : Int) = 0 from rfl] at this
    rw [decide_eq_true (show (0 : Int) < (l.length : Int) by omega), this, decide_eq_true h0]
    have e := u8_dec (l.getD 0 0) 45
    rw [show (((45 : UInt8).toNat : Nat) : Int) = 45 from rfl] at e
    simp only [beq_self_eq_true, cond_true, Option.bind_some, bool_bool, Bool.true_and]
    rw [e]
  · rw [decide_eq_false (show ¬ (0 : Int) < (l.length : Int) by omega), decide_eq_false h0]
    rfl
theorem pow10_le {k : Nat} (h : k ≤ 9) : (10 : Int) ^ k ≤ 1000000000 := by
  have : ∀ k : Nat, k ≤ 9 → (10 : Int) ^ k ≤ 1000000000 := by decide
  exact this k h

theorem digits_tx (l : List UInt8) : (if minusI l = true then ByteArray.extract (tx l) 1 l.length else tx l) = tx (digitsI l) := by
  unfold digitsI
  cases h : minusI l with
  | true => rw [if_pos rfl, if_pos rfl, tx_drop]
  | false => rfl
theorem minus_pos {l : List UInt8} (h : minusI l = true) : 0 < l.length := by
  unfold minusI at h
  simp at h
  exact h.1
/-! the program's -/
theorem wnum_loop (fuel d : Nat) {s t : List UInt8} (ht : t.length ≤ 9) (h : AHeap) : ∀ (n k : Nat), t.length < n + k → k ≤ t.length →
    l_word_Number_0 fuel d n [(0, .str (tx s)), (4, .str (tx t)), (28, .int .i64 (t.length : Int)), (29, .int .i64 (k : Int))] h =
      if (t.drop k).all isDig = true then some (.exit 0, [(0, .str (tx s)), (2, .bot), (3, .bot)], h) else some (.ret, [(0, .str (tx s)), (2, .int .i64 0), (3, .bool false)], h) := by
  intro n
  induction n with
  | zero => intro k h1 h2; omega
  | succ n ih =>
    intro k h1 h2
    rw [l_word_Number_0_eq]
    by_cases hk : k < t.length
    · rw [bif_pos (by omega), drop_cons hk, List.all_cons]
      have hs := strAt_mk (l := t) (k := k) hk
      generalize t.getD k 0 = x at hs
      rw [hs]
      simp only [Option.bind_some]
      have e := dig_step x h (fun p => (bif p.1 then (some (.ret, [(0, (.str (tx s))), (2, (.int .i64 (0 : Int))), (3, (.bool false))], p.2)) else
        l_word_Number_0 fuel d n [(0, (.str (tx s))), (4, (.str (tx t))), (28, (.int .i64 (t.length : Int))), (29, (.int .i64 (IntKind.wrap .i64 ((k : Int) + (1 : Int)))))] p.2)) (some (x.toNat : Int)) rfl
      simp only [Option.bind_some] at e
      rw [e]
      cases hx : isDig x with
      | false => rfl
      | true =>
        simp only [Bool.not_true, cond_false, Bool.true_and]
        rw [sucU (by omega)]
        exact ih (k + 1) (by omega) (by omega)
    · have : k = t.length := by omega
      subst this
      rw [bif_neg (by omega), List.drop_length]
      rfl
theorem atoi_loop (fuel d : Nat) {s t : List UInt8} (ht : t.length ≤ 9) {r : Sl} {h : AHeap} (hr : h.sliceCells 1 r = some (bytesC t)) : ∀ (n k : Nat) (a : Int), t.length < n + k → k ≤ t.length → 0 ≤ a → a < 10 ^ k → (t.drop k).all isDig = true →
    l_internal_strconv_Atoi_0 fuel d n [(5, .str (tx s)), (6, .int .i64 a), (47, .slice r), (48, .int .i64 (t.length : Int)), (49, .int .i64 (k : Int))] h = some (.exit 0, [(2, .bot), (3, .bot), (5, .str (tx s)), (6, .int .i64 (valI a (t.drop k)))], h) := by
  intro n
  induction n with
  | zero => intro k a h1 h2; omega
  | succ n ih =>
    intro k a h1 h2 h3 h4 h5
    have hp := pow10_le (k := k) (by omega)
    have hlen := sliceCells_len hr
    simp only [List.length_map, Nat.mul_one] at hlen
    rw [l_internal_strconv_Atoi_0_eq]
    by_cases hk : k < t.length
    · have hp2 := pow10_le (k := k + 1) (by omega)
      rw [Int.pow_succ] at hp2
      have had := addr_at hr (j := (k : Int)) (by omega) (by omega)
      have hce := cell_at hr (j := (k : Int)) (v := .int .u8 ((t.getD k 0).toNat : Int)) (by omega) (by rw [Int.toNat_natCast, List.getElem?_map, List.getElem?_eq_getElem hk, List.getD_eq_getElem?_getD, List.getElem?_eq_getElem hk]; rfl)
      rw [drop_cons hk, List.all_cons] at h5
      rw [bif_pos (by omega), had, drop_cons hk, valI_cons]
      generalize t.getD k 0 = x at hce h5
      simp only [Bool.and_eq_true] at h5
      obtain ⟨q1, q2⟩ := isDig_true h5.1
      rw [Option.bind_some, hce]
      simp only [Option.bind_some, int_int]
      rw [wrapU8, show ((x.toNat : Int) - 48) % 256 = (x.toNat : Int) - 48 by omega, bif_neg (by omega), wrap64 (n := a * 10) (by omega) (by omega), wrap64 (n := (x.toNat : Int) - 48) (by omega) (by omega), wrap64 (by omega) (by omega), sucU (by omega), show a * 10 + ((x.toNat : Int) - 48) = 10 * a + ((x.toNat : Int) - 48) by omega]
      exact ih (k + 1) _ (by omega) (by omega) (by omega) (by rw [Int.pow_succ]; omega) h5.2
    · have : k = t.length := by omega
      subst this
      rw [bif_neg (by omega), List.drop_length]
      rfl
theorem valI_bound : ∀ (t : List UInt8) (k : Nat) (a : Int), t.length + k ≤ 9 → 0 ≤ a → a < 10 ^ k → t.all isDig = true → 0 ≤ valI a t ∧ valI a t < 1000000000
  | [], k, a, h1, h2, h3, _ => by
    have := pow10_le (k := k) (by simp at h1; omega)
    exact ⟨h2, by show a < _; omega⟩
  | c :: t, k, a, h1, h2, h3, h4 => by
    simp only [List.all_cons, Bool.and_eq_true] at h4
    obtain ⟨q1, q2⟩ := isDig_true h4.1
    rw [valI_cons]
    exact valI_bound t (k + 1) _ (by simp at h1; omega) (by omega) (by rw [Int.pow_succ]; omega) h4.2
theorem okNum_facts {l : List UInt8} (h : okNum l = true) : 1 ≤ (digitsI l).length ∧ (digitsI l).length ≤ 9 ∧ (digitsI l).all isDig = true ∧ 0 < l.length ∧ l.length < 19 := by
  unfold okNum at h
  simp only [Bool.and_eq_true, Bool.not_eq_true', decide_eq_false_iff_not] at h
  obtain ⟨h1, h2⟩ := h
  have h3 : l.length ≤ (digitsI l).length + 1 ∧ (digitsI l).length ≤ l.length := by
    unfold digitsI
    split
    · rw [List.length_drop]; omega
    · omega
  exact ⟨by omega, by omega, h2, by omega, by omega⟩
theorem bytesOf_tx (t : List UInt8) : bytesOf (tx t) = bytesC t := rfl
theorem atoi_tail (fuel d : Nat) {l : List UInt8} (hok : okNum l = true) (h : AHeap) : k_internal_strconv_Atoi_0 fuel d (.exit 0) [(2, .bot), (3, .bot), (5, .str (tx l)), (6, .int .i64 (valI 0 (digitsI l)))] h = some (.tup [.int .i64 (numW l), .nilif], h) := by
  obtain ⟨h1, h2, h3, h4, h5⟩ := okNum_facts hok
  obtain ⟨v1, v2⟩ := valI_bound (digitsI l) 0 0 (by omega) (by omega) (by simp) h3
  rw [k_internal_strconv_Atoi_0_x0]
  have hs := strAt_mk (l := l) (k := 0) h4
  rw [show ((0 : Nat) : Int) = 0 from rfl] at hs
  have e := u8_dec (l.getD 0 0) 45
  rw [show (((45 : UInt8).toNat : Nat) : Int) = 45 from rfl] at e
  rw [hs, Option.bind_some, e]
  unfold numW minusI
  rw [if_pos hok, decide_eq_true h4, Bool.true_and]
  cases (l.getD 0 0 == 45) with
  | true =>
    simp only [cond_true, if_true, Option.bind_some, k_internal_strconv_Atoi_1_n]
    rw [wrap64 (by omega) (by omega), show 0 - valI 0 (digitsI l) = -valI 0 (digitsI l) by omega]
  | false =>
    simp only [cond_false, Bool.false_eq_true, if_false, Option.bind_some, k_internal_strconv_Atoi_1_n]
theorem atoiN_run (fuel d : Nat) (hf : 20 < fuel) {l : List UInt8} (hok : okNum l = true) (h : AHeap) : run fuel (d + 1) F_internal_strconv_Atoi [.str (tx l)] h = some (.tup [.int .i64 (numW l), .nilif], h) := by
  have key : ∃ h', brun fuel (d + 1) F_internal_strconv_Atoi [.str (tx l)] AHeap.none = some (.tup [.int .i64 (numW l), .nilif], h') := by
    obtain ⟨h1, h2, h3, h4, h5⟩ := okNum_facts hok
    have hs := strAt_mk (l := l) (k := 0) h4
    rw [show ((0 : Nat) : Int) = 0 from rfl] at hs
    have loop : ∀ h : AHeap, h = AHeap.none → ∃ h', (l_internal_strconv_Atoi_0 fuel d fuel [(5, (.str (tx l))), (6, (.int .i64 (0 : Int))), (47, (.slice (Sl.mk ⟨AHeap.next h, 0, 0⟩ (digitsI l).length false))), (48, (.int .i64 ((digitsI l).length : Int))), (49, (.int .i64 (0 : Int)))] (AHeap.push h 1 (bytesC (digitsI l)))).bind (fun p => k_internal_strconv_Atoi_0 fuel d p.1 p.2.1 p.2.2) = some (.tup [.int .i64 (numW l), .nilif], h') := by
      intro h _
      have ho : Own (h.push 1 (bytesC (digitsI l))) 1 h.rows.length 0 (digitsI l).length (bytesC (digitsI l)) := Own.push h 1 _ _ (by simp)
      have hr : (h.push 1 (bytesC (digitsI l))).sliceCells 1 (Sl.mk ⟨AHeap.next h, 0, 0⟩ (digitsI l).length false) = some (bytesC (digitsI l)) := ho.cells false
      have := atoi_loop fuel d (s := l) (t := digitsI l) h2 hr fuel 0 0 (by omega) (by omega) (by omega) (by simp) h3
      rw [show ((0 : Nat) : Int) = 0 from rfl, List.drop_zero] at this
      rw [this, Option.bind_some, atoi_tail fuel d hok]
      exact ⟨_, rfl⟩
    have e := u8_dec (l.getD 0 0) 45
    rw [show (((45 : UInt8).toNat : Nat) : Int) = 45 from rfl] at e
    rw [e_internal_strconv_Atoi, tx_size]
    simp only [show ((false == true) : Bool) = false from rfl, show ((false == false) : Bool) = true from rfl, show ((true == true) : Bool) = true from rfl, cond_false, cond_true, Option.bind_some, bool_bool]
    rw [decide_eq_true (show (0 : Int) < (l.length : Int) by omega), decide_eq_true (show (l.length : Int) < 19 by omega)]
    simp only [cond_true, Option.bind_some, bool_bool, hs]
    rw [e]
    cases hm : (l.getD 0 0 == 45) with
    | true =>
      have hd : digitsI l = l.drop 1 := by unfold digitsI minusI; rw [decide_eq_true h4, hm]; rfl
      simp only [show ((true == false) : Bool) = false from rfl, cond_false, Option.bind_some, bool_bool, cond_true]
      rw [aHi_none, Option.bind_some, aLo_some (by omega) (by omega), Option.bind_some, show (1 : Int).toNat = 1 from rfl, tx_drop, ← hd, tx_size, bif_neg (by omega), bytesOf_tx, Sl.len]
      exact loop _ rfl
    | false =>
      have hd : digitsI l = l := by unfold digitsI minusI; rw [decide_eq_true h4, hm]; rfl
      have hdig : isDig (l.getD 0 0) = true := by
        rw [hd] at h3
        have := List.all_eq_true.1 h3 (l.getD 0 0) (by rw [List.getD_eq_getElem?_getD, List.getElem?_eq_getElem h4]; exact List.getElem_mem _)
        exact this
      obtain ⟨q1, q2⟩ := isDig_true hdig
      rw [decide_eq_false (show ¬ ((l.getD 0 0).toNat : Int) = 43 by omega)]
      simp only [show ((false == false) : Bool) = true from rfl, cond_false, Option.bind_some, bool_bool, cond_true]
      rw [bytesOf_tx, Sl.len]
      have := loop _ rfl
      rw [hd] at this
      exact this
  obtain ⟨h', e⟩ := key
  exact pure_of rfl rfl (cc1 rfl) e (freeze_tup2 _ rfl rfl)
theorem Atoi_run (fuel d : Nat) (hf : 20 < fuel) {l : List UInt8} (hok : okNum l = true) (h : AHeap) : run fuel (d + 2) F_strconv_Atoi [.str (tx l)] h = some (.tup [.int .i64 (numW l), .nilif], h) := by
  refine pure_of rfl rfl (cc1 rfl) (r := .tup [.int .i64 (numW l), .nilif]) (h' := AHeap.none) ?_ (freeze_tup2 _ rfl rfl)
  rw [e_strconv_Atoi, atoiN_run fuel d hf hok]
  simp only [Option.bind_some, isTup_tup, List.length_cons, List.length_nil, Nat.beq, cond_true, comp_tup, List.getElem?_cons_zero, List.getElem?_cons_succ, int_int, nilTest_nilif, Bool.not_true, cond_false]
theorem wNum_run (fuel d : Nat) (hf : 20 < fuel) (l : List UInt8) (h : AHeap) : run fuel (d + 3) F_word_Number [.str (tx l)] h = some (.tup [.int .i64 (numW l), .bool (okNum l)], h) := by
  refine pure_of rfl rfl (cc1 rfl) (r := .tup [.int .i64 (numW l), .bool (okNum l)]) (h' := AHeap.none) ?_ rfl
  rw [e_word_Number]
  have e := minus_step l AHeap.none (fun p => ((bif p.1 then ((aHi (none : Option AVal) (ByteArray.size (tx l))).bind fun hi4 =>
    (aLo (some (.int .i64 (1 : Int))) hi4).bind fun lo5 =>
    some (AExit.normal, [(0, (AVal.str (tx l))), (4, (.str (ByteArray.extract (tx l) lo5 hi4)))], p.2)) else (some (.normal, [(0, (.str (tx l))), (4, (.str (tx l)))], p.2)))).bind fun p6 =>
    k_word_Number_0 fuel (d + 2) p6.1 p6.2.1 p6.2.2)
  rw [e]
  have step : (bif minusI l then ((aHi (none : Option AVal) (ByteArray.size (tx l))).bind fun hi4 =>
    (aLo (some (.int .i64 (1 : Int))) hi4).bind fun lo5 =>
    some (AExit.normal, [(0, (AVal.str (tx l))), (4, (.str (ByteArray.extract (tx l) lo5 hi4)))], AHeap.none)) else (some (.normal, [(0, (.str (tx l))), (4, (.str (tx l)))], AHeap.none))) =
      some (AExit.normal, [(0, .str (tx l)), (4, .str (tx (digitsI l)))], AHeap.none) := by
    rw [← digits_tx]
    cases hm : minusI l with
    | true =>
      have := minus_pos hm
      rw [cond_true, aHi_none, Option.bind_some, tx_size, aLo_some (by omega) (by omega), Option.bind_some, if_pos rfl]
      rfl
    | false => rfl
  rw [step, Option.bind_some, k_word_Number_0_n, tx_size, or2]
  by_cases h0 : (digitsI l).length < 1 ∨ 9 < (digitsI l).length
  · have hok : okNum l = false := by unfold okNum; rw [decide_eq_true h0]; rfl
    rw [decide_eq_true (show (((digitsI l).length : Nat) : Int) < 1 ∨ 9 < (((digitsI l).length : Nat) : Int) by omega)]
    unfold numW
    rw [hok]
    rfl
  · rw [decide_eq_false (show ¬ ((((digitsI l).length : Nat) : Int) < 1 ∨ 9 < (((digitsI l).length : Nat) : Int)) by omega), cond_false]
    have := wnum_loop fuel (d + 2) (s := l) (t := digitsI l) (by omega) AHeap.none fuel 0 (by omega) (by omega)
    rw [show ((0 : Nat) : Int) = 0 from rfl, List.drop_zero] at this
    rw [this]
    have hok : okNum l = (digitsI l).all isDig := by unfold okNum; rw [decide_eq_false h0]; rfl
    cases hd : (digitsI l).all isDig with
    | true =>
      rw [hd] at hok
      rw [if_pos rfl, Option.bind_some, k_word_Number_1_x0, Atoi_run fuel d hf hok, hok]
      simp only [Option.bind_some, isTup_tup, List.length_cons, List.length_nil, Nat.beq, cond_true, comp_tup, List.getElem?_cons_zero, List.getElem?_cons_succ, int_int, nilTest_nilif]
    | false =>
      rw [hd] at hok
      rw [if_neg (by simp), Option.bind_some, k_word_Number_1_r]
      unfold numW
      rw [hok]
      rfl
end Go.Proofs.YtdkckkhghghhdaaDoor
