/-
  The lines of a text.
-/
import Derived.Test.YthccobceodgmlaaW1
namespace Go.Proofs.Ythccobceodgmlaa
open Go.RowKit

theorem idx_no : ∀ {l : List UInt8} {c : UInt8}, Lib.indexByte l c < 0 → ∀ x ∈ l, x ≠ c
  | [], c, _, x, hx => by cases hx
  | y :: l, c, h, x, hx => by
    unfold Lib.indexByte at h
    split at h
    · omega
    · rename_i hy
      split at h
      · rename_i hn
        rw [beq_iff_eq] at hn
        rcases List.mem_cons.1 hx with rfl | hx
        · intro e; subst e; simp at hy
        · exact idx_no (by omega) x hx
      · rename_i hn
        rw [beq_iff_eq] at hn
        have := Lib.indexByte_ge l c
        omega

theorem idx_at : ∀ {l : List UInt8} {c : UInt8}, 0 ≤ Lib.indexByte l c → ∃ n : Nat, Lib.indexByte l c = (n : Int) ∧ n < l.length ∧ l.getD n 0 = c
  | [], c, h => by simp [Lib.indexByte] at h
  | y :: l, c, h => by
    unfold Lib.indexByte at h ⊢
    by_cases hy : (y == c) = true
    · rw [if_pos hy]
      exact ⟨0, rfl, by simp, by simpa using hy⟩
    · rw [if_neg hy] at h ⊢
      by_cases hn : (Lib.indexByte l c == -1) = true
      · rw [if_pos hn] at h; omega
      · rw [if_neg hn]
        rw [beq_iff_eq] at hn
        have := Lib.indexByte_ge l c
        obtain ⟨n, h1, h2, h3⟩ := idx_at (l := l) (c := c) (by omega)
        exact ⟨n + 1, by rw [h1]; rfl, by simp; omega, by simpa using h3⟩

theorem line38_out (fuel d : Nat) {h : AHeap} {s : Sl} {x : Int} (hx : x < 0 ∨ (s.len : Int) ≤ x) :
    run fuel (d + 1) 38 [.slice s, .int .i64 x] h = some (.tup [.str ⟨#[]⟩, .int .i64 0, .bool false], h) := by
  rw [e38]
  rw [cond_pos]
  by_cases h0 : x < 0
  · simp [h0]
  · rw [decide_eq_false h0]
    simp only [cond_false, decide_eq_true_eq]
    omega

theorem line38_no (fuel d : Nat) {h : AHeap} {s : Sl} {b : List UInt8} (hs : h.sliceCells 1 s = some (bytesC b)) (hb : b.length < 1000000000) {k : Nat} (hk : k < b.length) (hi : Lib.indexByte (b.drop k) 10 < 0) :
    run fuel (d + 2) 38 [.slice s, .int .i64 (k : Int)] h = some (.tup [.str ⟨#[]⟩, .int .i64 0, .bool false], h) := by
  have hsl : s.len = b.length := by have := sliceCells_len hs; simp at this; omega
  have hhas : h.hasSz 1 s = true := hasSz_of hs (by omega)
  have a0 : aLo (some (.int .i64 (k : Int))) b.length = some k := by rw [aLo_some (by omega) (by omega), Int.toNat_natCast]
  obtain ⟨c0, _⟩ := cut_bytes hs (lb := k) (hb := b.length) (by omega) (Nat.le_refl _) false
  rw [show (b.drop k).take (b.length - k) = b.drop k from List.take_of_length_le (by simp)] at c0
  rw [e38, hsl, decide_eq_false (show ¬ (k : Int) < 0 by omega)]
  simp only [cond_false]
  rw [bif_neg (by omega), aHi_none]
  simp only [Option.bind_some]
  rw [a0]
  simp only [Option.bind_some, aMx_none, hhas, cond_true, index47 fuel d c0, int_int]
  rw [bif_pos hi]

theorem line38_yes (fuel d : Nat) {h : AHeap} {s : Sl} {b : List UInt8} (hs : h.sliceCells 1 s = some (bytesC b)) (hb : b.length < 1000000000) {k n : Nat} (hk : k < b.length) (hi : Lib.indexByte (b.drop k) 10 = (n : Int)) (hn : n < (b.drop k).length) :
    run fuel (d + 2) 38 [.slice s, .int .i64 (k : Int)] h = some (.tup [.str ⟨((b.drop k).take n).toArray⟩, .int .i64 ((k + n + 1 : Nat) : Int), .bool true], h) := by
  have hsl : s.len = b.length := by have := sliceCells_len hs; simp at this; omega
  have hhas : h.hasSz 1 s = true := hasSz_of hs (by omega)
  rw [List.length_drop] at hn
  have a0 : aLo (some (.int .i64 (k : Int))) b.length = some k := by rw [aLo_some (by omega) (by omega), Int.toNat_natCast]
  obtain ⟨c0, _⟩ := cut_bytes hs (lb := k) (hb := b.length) (by omega) (Nat.le_refl _) false
  rw [show (b.drop k).take (b.length - k) = b.drop k from List.take_of_length_le (by simp)] at c0
  obtain ⟨c1, _⟩ := cut_bytes hs (lb := k) (hb := k + n) (by omega) (by omega) false
  rw [show k + n - k = n by omega] at c1
  have a1 : aHi (some (.int .i64 ((k + n : Nat) : Int))) b.length = some (k + n) := by rw [aHi_some (by omega) (by omega), Int.toNat_natCast]
  have a2 : aLo (some (.int .i64 (k : Int))) (k + n) = some k := by rw [aLo_some (by omega) (by omega), Int.toNat_natCast]
  have w1 : IntKind.wrap .i64 ((k : Int) + (n : Int)) = ((k + n : Nat) : Int) := by rw [wrap64 (by omega) (by omega)]; omega
  rw [e38, hsl, decide_eq_false (show ¬ (k : Int) < 0 by omega)]
  simp only [cond_false]
  rw [bif_neg (by omega), aHi_none]
  simp only [Option.bind_some]
  rw [a0]
  simp only [Option.bind_some, aMx_none, hhas, cond_true, index47 fuel d c0, int_int, hi]
  rw [bif_neg (by omega), w1, a1]
  simp only [Option.bind_some, a2, aMx_none, hhas, cond_true, c1, bytesFrom_bytesC]
  rw [succU (by omega)]

theorem same39 (fuel d : Nat) {h : AHeap} {s t : Sl} {b : List UInt8} (hs : h.sliceCells 1 s = some (bytesC b)) (ht : h.sliceCells 1 t = some (bytesC b)) (hb : b.length < 1000000000) (hf : b.length < fuel) :
    run fuel (d + 1) 39 [.slice s, .slice t] h = some (.bool true, h) := by
  have hsl : s.len = b.length := by have := sliceCells_len hs; simp at this; omega
  have htl : t.len = b.length := by have := sliceCells_len ht; simp at this; omega
  have loop : ∀ (n k : Nat), b.length < n + k → k ≤ b.length → l39_0 fuel d n [(0, .slice s), (1, .slice t), (5, .int .i64 (k : Int))] h = some (.exit 0, [(4, .bot)], h) := by
    intro n
    induction n with
    | zero => intro k h1 h2; omega
    | succ n ih =>
      intro k h1 h2
      rw [l39_0_eq, hsl]
      by_cases hk : k < b.length
      · obtain ⟨r1, r2⟩ := readU hs hk
        obtain ⟨q1, q2⟩ := readU ht hk
        rw [bif_pos (by omega)]
        simp only [r1, r2, q1, q2, Option.bind_some, int_int]
        rw [cond_neg _ _ (by simp), succU (by omega)]
        exact ih (k + 1) (by omega) (by omega)
      · rw [bif_neg (by omega)]
  have e := loop fuel 0 (by omega) (by omega)
  rw [show ((0 : Nat) : Int) = 0 from rfl] at e
  rw [e39, hsl, htl, bif_npos rfl]
  simp only [e, Option.bind_some, k39_0_x0]

theorem lines_loop (fuel d : Nat) {s : Sl} {b : List UInt8} {h0 : AHeap} (hs0 : h0.sliceCells 1 s = some (bytesC b)) (hb : b.length ≤ 200) : ∀ (n k : Nat) (s5 : Sl) (r : Nat) (h : AHeap), b.length < n + k → k ≤ b.length → r ≤ k →
    Ext h0 h → s5.From h0.rows.length → Grown h 1 s5 (bytesC (b.take k)) →
    ∃ k' s' h', l8_0 fuel (d + 2) n [(0, .slice s), (3, .bool true), (4, .int .i64 (k : Int)), (5, .slice s5), (6, .int .i64 (r : Int))] h = some (.exit 0, [(0, .slice s), (2, .bot), (3, .bool true), (4, .int .i64 ((k' : Nat) : Int)), (5, .slice s')], h') ∧ Ext h0 h' ∧ Grown h' 1 s' (bytesC (b.take k')) ∧ k' ≤ b.length ∧ ∀ x ∈ b.drop k', x ≠ 10 := by
  intro n
  induction n with
  | zero => intro k s5 r h h1 h2; omega
  | succ n ih =>
    intro k s5 r h h1 h2 hr hx hf5 hg
    have hs := sliceCells_ext hx hs0
    have hsl : s.len = b.length := by have := sliceCells_len hs; simp at this; omega
    have h5l : s5.len = k := by have := sliceCells_len hg.cells; simp at this; omega
    rw [l8_0_eq, hsl, bif_pos (by omega)]
    by_cases hno : k < b.length ∧ 0 ≤ Lib.indexByte (b.drop k) 10
    · obtain ⟨m, m1, m2, m3⟩ := idx_at hno.2
      have m2' := m2
      rw [List.length_drop] at m2'
      have e1 := line38_yes fuel d hs (by omega) hno.1 m1 m2
      obtain ⟨s6, h6, a1, a2, a3, a4, a5⟩ := growMany (bytes := 1) (m := ByteArray.size ⟨((b.drop k).take m).toArray⟩) (xs := bytesOf ⟨((b.drop k).take m).toArray⟩) hx hf5 hg (by simp [bytesOf, ByteArray.size]) (by simp [ByteArray.size]; omega) (by simp [ByteArray.size]; omega)
      have ho : Own (h6.push 1 (bytesC [10])) 1 h6.rows.length 0 1 (bytesC [10]) := Own.push h6 1 1 (bytesC [10]) rfl
      have hp := Keeps.push h6 1 (bytesC [10]) fun _ => False
      have h6l : s6.len = k + m := by
        have := sliceCells_len a2.cells
        simp [bytesOf] at this
        omega
      obtain ⟨s7, h7, b1, b2, b3, b4, b5⟩ := growMany (bytes := 1) (m := 1) (xs := bytesC [10]) (a4.trans hp) a5 (a2.keep hp fun _ _ => id) rfl (by omega) (by omega)
      have htk : bytesC (b.take k) ++ bytesOf ⟨((b.drop k).take m).toArray⟩ ++ bytesC [10] = bytesC (b.take (k + m + 1)) := by
        rw [bytesOf_eq]
        show _ = bytesC _
        simp only [← List.map_append]
        congr 1
        have e : [(10 : UInt8)] = (b.drop (k + m)).take 1 := by
          rw [List.drop_eq_getElem_cons (show k + m < b.length by omega)]
          rw [List.getD_eq_getElem?_getD, List.getElem?_drop, List.getElem?_eq_getElem (show k + m < b.length by omega), Option.getD_some] at m3
          rw [m3]; rfl
        rw [e, List.take_add, List.take_add]
      rw [htk] at b2
      obtain ⟨k', s', h', c1, c2, c3, c4, c5⟩ := ih (k + m + 1) s7 (r + 1) h7 (by omega) (by omega) (by omega) b4 b5 b2
      refine ⟨k', s', h', ?_, c2, c3, c4, c5⟩
      have hcells : bytesC [10] = [(AVal.int .u8 (10 : Int))] := rfl
      rw [hcells] at b1 ho
      simp only [e1, Option.bind_some, isTup_tup, List.length_cons, List.length_nil, Nat.reduceAdd, beq_eq, decide_true, cond_true, comp_tup, List.getElem?_cons_zero, List.getElem?_cons_succ, str_str, int_int, bool_bool, Bool.not_true, cond_false]
      rw [decide_eq_false (show ¬ ((k + m + 1 : Nat) : Int) ≤ (k : Int) by omega)]
      simp only [cond_false]
      rw [bif_neg (by omega), a1]
      simp only [Option.bind_some, next_len, ho.cells, Sl.len, b1]
      rw [succU (by omega)]
      exact c1
    · have e1 : run fuel (d + 2) 38 [.slice s, .int .i64 (k : Int)] h = some (.tup [.str ⟨#[]⟩, .int .i64 0, .bool false], h) := by
        by_cases hk : k < b.length
        · exact line38_no fuel d hs (by omega) hk (by omega)
        · exact line38_out fuel (d + 1) (.inr (by omega))
      refine ⟨k, s5, h, ?_, hx, hg, h2, ?_⟩
      · simp only [e1, Option.bind_some, isTup_tup, List.length_cons, List.length_nil, Nat.reduceAdd, beq_eq, decide_true, cond_true, comp_tup, List.getElem?_cons_zero, List.getElem?_cons_succ, str_str, int_int, bool_bool, Bool.not_false]
      · by_cases hk : k < b.length
        · exact idx_no (by omega)
        · rw [List.drop_eq_nil_of_le (by omega)]
          intro x hx; cases hx

theorem lines_rest (fuel d : Nat) {h : AHeap} {s s5 : Sl} {b : List UInt8} {x4 : Int} (hs : h.sliceCells 1 s = some (bytesC b)) (hb : b.length ≤ 200) : ∀ (n k : Nat), b.length < n + k → k ≤ b.length → (∀ x ∈ b.drop k, x ≠ 10) →
    l8_1 fuel d n [(0, .slice s), (3, .bool true), (4, .int .i64 x4), (5, .slice s5), (10, .int .i64 (k : Int))] h = some (.exit 2, [(0, .slice s), (2, .bot), (3, .bool true), (4, .int .i64 x4), (5, .slice s5)], h) := by
  have hsl : s.len = b.length := by have := sliceCells_len hs; simp at this; omega
  intro n
  induction n with
  | zero => intro k h1 h2; omega
  | succ n ih =>
    intro k h1 h2 hno
    rw [l8_1_eq, hsl]
    by_cases hk : k < b.length
    · obtain ⟨r1, r2⟩ := readU hs hk
      rw [bif_pos (by omega)]
      simp only [r1, r2, Option.bind_some, int_int]
      rw [drop_cons hk] at hno
      have hne : ¬ ((b.getD k 0).toNat : Int) = 10 := by
        intro e
        refine hno _ (List.mem_cons_self ..) (UInt8.toNat_inj.1 ?_)
        have : (10 : UInt8).toNat = 10 := rfl
        omega
      rw [bif_neg hne, succU (by omega)]
      exact ih (k + 1) (by omega) (by omega) fun x hx => hno x (List.mem_cons_of_mem _ hx)
    · rw [bif_neg (by omega)]

theorem law8 (fuel d : Nat) {h : AHeap} {s : Sl} {b : List UInt8} (hs : h.sliceCells 1 s = some (bytesC b)) (hhas : h.hasSz 1 s = true) (hf : 300 ≤ fuel) :
    ∃ h', run fuel (d + 5) 8 [.slice s] h = some (.bool true, h') := by
  have hsl : s.len = b.length := by have := sliceCells_len hs; simp at this; omega
  obtain ⟨h1, e1, x1⟩ := first36 fuel d h (by omega)
  rw [e8]
  simp only [e1, Option.bind_some, bool_bool, Bool.not_true, cond_false]
  rw [hsl]
  by_cases hl : b.length ≤ 200
  · rw [bif_neg (by omega)]
    obtain ⟨k, t, h2, e2, x2, g2, hk, hno⟩ := lines_loop fuel (d + 2) (sliceCells_ext x1 hs) hl fuel 0 .nil 0 h1 (by omega) (by omega) (by omega) (.refl _ _) (.nil _) .nil
    rw [show ((0 : Nat) : Int) = 0 from rfl] at e2
    have hs2 := sliceCells_ext x2 (sliceCells_ext x1 hs)
    have e3 := lines_rest fuel (d + 4) (s5 := t) (x4 := (k : Int)) hs2 hl fuel k (by omega) hk hno
    have e4 := line38_out fuel (d + 3) (h := h2) (s := s) (x := -1) (.inl (by omega))
    have a1 : aHi (some (.int .i64 (k : Int))) s.len = some k := by rw [aHi_some (by omega) (by omega), Int.toNat_natCast]
    obtain ⟨c1, _⟩ := cut_bytes hs2 (lb := 0) (hb := k) (by omega) hk false
    have e5 := same39 fuel (d + 3) (b := b.take k) g2.cells (by simpa using c1) (by simp; omega) (by simp; omega)
    have hh2 : h2.hasSz 1 s = true := hasSz_ext x2 (hasSz_ext x1 hhas)
    simp only [e2, Option.bind_some, k8_0_x0, e3, k8_1_x2, e4, isTup_tup, List.length_cons, List.length_nil, Nat.reduceAdd, beq_eq, decide_true, cond_true, comp_tup, List.getElem?_cons_zero, List.getElem?_cons_succ, str_str, int_int, bool_bool, beq_self_eq_true]
    rw [a1]
    simp only [Option.bind_some, aLo_none, aMx_none, hh2, cond_true, e5, bool_bool, Bool.not_false]
    exact ⟨h2, rfl⟩
  · rw [bif_pos (by omega)]
    exact ⟨_, rfl⟩

end Go.Proofs.Ythccobceodgmlaa
