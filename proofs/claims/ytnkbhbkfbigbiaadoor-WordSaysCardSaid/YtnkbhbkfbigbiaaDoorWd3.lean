/-
  Bits and numbers of words, both ways.
-/
import Derived.Test.YtnkbhbkfbigbiaaDoorWd2
namespace Go.Proofs.YtnkbhbkfbigbiaaDoor
open Go.RowKit

abbrev tx (l : List UInt8) : ByteArray := ⟨l.toArray⟩
theorem tx_of (s : ByteArray) : s = tx s.data.toList := by cases s; simp
theorem tx_size (l : List UInt8) : ByteArray.size (tx l) = l.length := by simp [ByteArray.size]
theorem tx_drop (l : List UInt8) : ByteArray.extract (tx l) 1 l.length = tx (l.drop 1) := by
  apply ByteArray.ext
  rw [ByteArray.data_extract]
  apply Array.ext'
  simp
  rw [List.take_of_length_le (by simp)]

/-! bits -/
def isBit (c : UInt8) : Bool := c == 48 || c == 49
theorem u8_dec (x c : UInt8) : decide ((x.toNat : Int) = (c.toNat : Int)) = (x == c) := by
  by_cases h : x = c
  · subst h; simp
  · rw [decide_eq_false (fun e => h ((u8_is x c).1 e)), beq_false_of_ne h]
theorem u8_48 (x : UInt8) : decide ((x.toNat : Int) = 48) = (x == 48) := u8_dec x 48
theorem u8_49 (x : UInt8) : decide ((x.toNat : Int) = 49) = (x == 49) := u8_dec x 49
abbrev oneB (c : UInt8) : Bool := c == 49
def bitsI (l : List UInt8) : List Bool := if l.all isBit = true then l.map oneB else []
theorem take_sucU {b : List UInt8} {m : Nat} (h : m < b.length) : b.take (m + 1) = b.take m ++ [b.getD m 0] := by
  rw [List.take_succ_eq_append_getElem h, List.getD_eq_getElem?_getD, List.getElem?_eq_getElem h, Option.getD_some]
theorem bits_step {β : Type} (x : UInt8) (h : AHeap) (K : Bool × AHeap → Option β) :
    (((bif ((!decide ((x.toNat : Int) = (48 : Int))) == true) then (some ((AVal.bool (!decide ((x.toNat : Int) = (49 : Int)))), h)) else (some ((AVal.bool false), h)) : Option (AVal × AHeap))).bind fun r3 => (AVal.bool? r3.1).bind fun b4 => K (b4, r3.2)) = K (!isBit x, h) := by
  rw [u8_48, u8_49]
  unfold isBit
  cases x == 48 <;> cases x == 49 <;> rfl
theorem wbits_loop (fuel d : Nat) {l : List UInt8} (hl : l.length < 1000000000) : ∀ (n k : Nat) (t : Sl) (h : AHeap), l.length < n + k → k ≤ l.length → Grown h 1 t (boolsC ((l.take k).map oneB)) →
    ∃ t' h', (l_word_Bits_0 fuel d n [(0, .str (tx l)), (4, .slice t), (10, .int .i64 (l.length : Int)), (11, .int .i64 (k : Int))] h).bind (fun p => k_word_Bits_0 fuel d p.1 p.2.1 p.2.2) = some (.tup [.slice t', .bool ((l.drop k).all isBit)], h') ∧
      Grown h' 1 t' (boolsC (if (l.drop k).all isBit = true then l.map oneB else [])) := by
  intro n
  induction n with
  | zero => intro k t h h1 h2; omega
  | succ n ih =>
    intro k t h h1 h2 hg
    have htl := hg.len
    simp only [List.length_map, Nat.mul_one, List.length_take] at htl
    rw [l_word_Bits_0_eq]
    by_cases hk : k < l.length
    · rw [bif_pos (by omega), strAt_mk hk, drop_cons hk, List.all_cons]
      have htk := take_sucU hk
      generalize l.getD k 0 = x at htk
      simp only [Option.bind_some]
      have e := bits_step x h (fun p => (bif p.1 then (some (AExit.ret, [(2, (AVal.slice Sl.nil)), (3, (AVal.bool false)), (4, (AVal.slice t))], p.2)) else
        (AHeap.append p.2 false 1 1 t 1 [(.bool (decide ((x.toNat : Int) = (49 : Int))))]).bind fun a6 =>
        l_word_Bits_0 fuel d n [(0, (.str (tx l))), (4, (.slice a6.1)), (10, (.int .i64 (l.length : Int))), (11, (.int .i64 (IntKind.wrap .i64 ((k : Int) + (1 : Int)))))] a6.2))
      rw [e]
      cases hx : isBit x with
      | false =>
        simp only [Bool.not_false, cond_true, Option.bind_some, k_word_Bits_0_r, Bool.false_and, Bool.false_eq_true, if_false]
        exact ⟨.nil, h, rfl, .nil⟩
      | true =>
        simp only [Bool.not_true, cond_false, Bool.true_and]
        obtain ⟨t1, h1', g1, g2, g3⟩ := hg.snoc (bytes := 1) (vs := [.bool (decide ((x.toNat : Int) = 49))]) rfl (by omega) (by omega)
        rw [g1, Option.bind_some, sucU (by omega)]
        exact ih (k + 1) t1 h1' (by omega) (by omega) (by rw [htk, List.map_append, u8_49] at *; simpa using g2)
    · have : k = l.length := by omega
      subst this
      rw [bif_neg (by omega), List.drop_length]
      simp only [Option.bind_some, k_word_Bits_0_x0, List.all_nil, if_true]
      refine ⟨t, h, rfl, ?_⟩
      rw [List.take_length] at hg
      exact hg
theorem rbits_loop (fuel d : Nat) {l : List UInt8} (hl : l.length < 1000000000) : ∀ (n k : Nat) (t : Sl) (h : AHeap), l.length < n + k → k ≤ l.length → Grown h 1 t (boolsC ((l.take k).map oneB)) →
    ∃ t' h', (l_skolemref1_Bits_0 fuel d n [(0, .str (tx l)), (4, .slice t), (5, .int .i64 (k : Int))] h).bind (fun p => k_skolemref1_Bits_0 fuel d p.1 p.2.1 p.2.2) = some (.tup [.slice t', .bool ((l.drop k).all isBit)], h') ∧
      Grown h' 1 t' (boolsC (if (l.drop k).all isBit = true then l.map oneB else [])) := by
  intro n
  induction n with
  | zero => intro k t h h1 h2; omega
  | succ n ih =>
    intro k t h h1 h2 hg
    have htl := hg.len
    simp only [List.length_map, Nat.mul_one, List.length_take] at htl
    rw [l_skolemref1_Bits_0_eq, tx_size]
    by_cases hk : k < l.length
    · rw [bif_pos (by omega), strAt_mk hk, drop_cons hk, List.all_cons]
      have htk := take_sucU hk
      generalize l.getD k 0 = x at htk
      simp only [Option.bind_some]
      have e := bits_step x h (fun p => (bif p.1 then (some (AExit.ret, [(2, (AVal.slice Sl.nil)), (3, (AVal.bool false)), (4, (AVal.slice t))], p.2)) else
        (AHeap.append p.2 false 1 1 t 1 [(.bool (decide ((x.toNat : Int) = (49 : Int))))]).bind fun a6 =>
        l_skolemref1_Bits_0 fuel d n [(0, (.str (tx l))), (4, (.slice a6.1)), (5, (.int .i64 (IntKind.wrap .i64 ((k : Int) + (1 : Int)))))] a6.2))
      rw [e]
      cases hx : isBit x with
      | false =>
        simp only [Bool.not_false, cond_true, Option.bind_some, k_skolemref1_Bits_0_r, Bool.false_and, Bool.false_eq_true, if_false]
        exact ⟨.nil, h, rfl, .nil⟩
      | true =>
        simp only [Bool.not_true, cond_false, Bool.true_and]
        obtain ⟨t1, h1', g1, g2, g3⟩ := hg.snoc (bytes := 1) (vs := [.bool (decide ((x.toNat : Int) = 49))]) rfl (by omega) (by omega)
        rw [g1, Option.bind_some, sucU (by omega)]
        exact ih (k + 1) t1 h1' (by omega) (by omega) (by rw [htk, List.map_append, u8_49] at *; simpa using g2)
    · have : k = l.length := by omega
      subst this
      rw [bif_neg (by omega), List.drop_length]
      simp only [Option.bind_some, k_skolemref1_Bits_0_x0, List.all_nil, if_true]
      refine ⟨t, h, rfl, ?_⟩
      rw [List.take_length] at hg
      exact hg
theorem bits_fr {h' : AHeap} {t : Sl} {l : List UInt8} {q : Bool} (g : Grown h' 1 t (boolsC (bitsI l))) : freezeV h' 8 (.tup [.slice t, .bool q]) = some (.tup [.slice (lstB (bitsI l)), .bool q]) := by
  refine freeze_tup2 _ ?_ (freeze_bool _ _)
  have := g.len
  simp only [List.length_map, Nat.mul_one] at this
  rw [g.freeze (n := 6) (by omega) (freeze_boolsC 5 _), ← this]
theorem wBits_run (fuel d : Nat) {l : List UInt8} (hl : l.length < 1000000000) (hf : l.length < fuel) (h : AHeap) : run fuel (d + 1) F_word_Bits [.str (tx l)] h = some (.tup [.slice (lstB (bitsI l)), .bool (l.all isBit)], h) := by
  obtain ⟨t, h', e1, g1⟩ := wbits_loop fuel d hl fuel 0 (.mk ⟨AHeap.none.next, 0, 0⟩ 0 (eqI (0 : Int) ((l.length : Nat) : Int))) (AHeap.none.push 1 []) (by omega) (by omega) (Grown.make 1 _)
  rw [List.drop_zero] at e1 g1
  refine pure_of rfl rfl (cc1 rfl) (r := .tup [.slice t, .bool (l.all isBit)]) (h' := h') ?_ (bits_fr g1)
  rw [e_word_Bits, tx_size, cond_pos _ _ (by simp; omega)]
  exact e1
theorem rBits_run (fuel d : Nat) {l : List UInt8} (hl : l.length < 1000000000) (hf : l.length < fuel) (h : AHeap) : run fuel (d + 1) F_skolemref1_Bits [.str (tx l)] h = some (.tup [.slice (lstB (bitsI l)), .bool (l.all isBit)], h) := by
  obtain ⟨t, h', e1, g1⟩ := rbits_loop fuel d hl fuel 0 .nil AHeap.none (by omega) (by omega) .nil
  rw [List.drop_zero] at e1 g1
  refine pure_of rfl rfl (cc1 rfl) (r := .tup [.slice t, .bool (l.all isBit)]) (h' := h') ?_ (bits_fr g1)
  rw [e_skolemref1_Bits]
  exact e1
theorem sameB_loop (fuel d : Nat) {l : List Bool} (hl : l.length < 1000000000) (h : AHeap) : ∀ (n k : Nat), l.length < n + k → k ≤ l.length →
    l_skolemref_SameBools_0 fuel d n [(0, .slice (lstB l)), (1, .slice (lstB l)), (5, .int .i64 (k : Int))] h = some (.exit 0, [(4, .bot)], h) := by
  intro n
  induction n with
  | zero => intro k h1 h2; omega
  | succ n ih =>
    intro k h1 h2
    rw [l_skolemref_SameBools_0_eq, len_lst]
    by_cases hk : k < l.length
    · rw [bif_pos (by omega), addr_lstM _ (by omega) (by omega) false]
      simp only [Option.bind_some, cell_fp, bool_bool]
      rw [show ((l.getD (Int.toNat (k : Int)) false) == (l.getD (Int.toNat (k : Int)) false)) = true from by simp]
      simp only [Bool.not_true, cond_false]
      rw [sucU (by omega)]
      exact ih (k + 1) (by omega) (by omega)
    · rw [bif_neg (by omega)]
theorem sameB_run (fuel d : Nat) {l : List Bool} (hl : l.length < 1000000000) (hf : l.length < fuel) (h : AHeap) : run fuel (d + 1) F_skolemref_SameBools [.slice (lstB l), .slice (lstB l)] h = some (.bool true, h) := by
  refine pure_of rfl rfl (cc2 (canon_lstB 7 l) (canon_lstB 7 l)) (r := .bool true) (h' := AHeap.none) ?_ rfl
  rw [e_skolemref_SameBools, len_lst, bif_npos rfl]
  have := sameB_loop fuel d hl AHeap.none fuel 0 (by omega) (by omega)
  rw [show ((0 : Nat) : Int) = 0 from rfl] at this
  rw [this]
  simp only [Option.bind_some, k_skolemref_SameBools_0_x0]
end Go.Proofs.YtnkbhbkfbigbiaaDoor
