/-
  The law WordBits, over abstract heaps.
-/
import Derived.Test.YthccobceodgmlaaW1
namespace Go.Proofs.Ythccobceodgmlaa
open Go.RowKit

abbrev boolsC (l : List Bool) : List AVal := l.map AVal.bool

theorem readB {h : AHeap} {s : Sl} {c : List Bool} (hs : h.sliceCells 1 s = some (boolsC c)) {j : Nat} (hj : j < c.length) :
    h.addr 1 s (j : Int) = some (s.at 1 (j : Int)) ∧ h.cell (s.at 1 (j : Int)) = some (.bool (c.getD j false)) := by
  have hl := sliceCells_len hs
  simp only [List.length_map, Nat.mul_one] at hl
  exact ⟨addr_at hs (by omega) (by omega), cell_at hs (by omega) (by rw [Int.toNat_natCast]; simp [List.getElem?_eq_getElem hj])⟩

theorem Grown.own {h : AHeap} {sz : Nat} {s : Sl} {cs : List AVal} (hg : Grown h sz s cs) (hn : s.len ≠ 0) : ∃ id gen n, s = .mk ⟨id, gen, 0⟩ n false ∧ Own h sz id gen n cs := by
  cases hg with
  | nil => exact absurd rfl hn
  | @row id gen n _ row h1 hc hl hgen hv hr hs => exact ⟨id, gen, n, rfl, ⟨row, h1, hc, hgen, hv, hr, hs⟩, hl⟩

/-- A byte that is a bit. -/
def isBit (c : UInt8) : Bool := c == 48 || c == 49

theorem u8_eq (x : UInt8) (n : Nat) (h : n < 256) : ((x.toNat : Int) = (n : Int)) ↔ x = UInt8.ofNat n := by
  constructor
  · intro e
    apply UInt8.toNat_inj.1
    rw [UInt8.toNat_ofNat']
    omega
  · rintro rfl
    rw [UInt8.toNat_ofNat']
    omega

theorem strAt_get {s : ByteArray} {k : Nat} (hk : k < s.data.toList.length) : strAt s (k : Int) = some ((s.data.toList.getD k 0).toNat : Int) := by
  unfold strAt
  rw [decide_eq_true (show (0 : Int) ≤ (k : Int) by omega), cond_true, Int.toNat_natCast, List.getD_eq_getElem?_getD, List.getElem?_eq_getElem hk]
  rfl

theorem take_succU {b : List UInt8} {m : Nat} (h : m < b.length) : b.take (m + 1) = b.take m ++ [b.getD m 0] := by
  rw [List.take_succ_eq_append_getElem h, List.getD_eq_getElem?_getD, List.getElem?_eq_getElem h, Option.getD_some]

theorem bits_loop (fuel d : Nat) {s : ByteArray} {h0 : AHeap} (hl : s.data.toList.length < 1000000000) : ∀ (n k : Nat) (t : Sl) (h : AHeap), s.data.toList.length < n + k → k ≤ s.data.toList.length → Ext h0 h → t.From h0.rows.length → Grown h 1 t (boolsC ((s.data.toList.take k).map fun c => c == 49)) →
    ∃ t' h', (l40_0 fuel d n [(0, .str s), (4, .slice t), (10, .int .i64 (s.data.toList.length : Int)), (11, .int .i64 (k : Int))] h).bind (fun p => k40_0 fuel d p.1 p.2.1 p.2.2) = some (.tup [.slice t', .bool ((s.data.toList.drop k).all isBit)], h') ∧ Ext h0 h' ∧
      ((s.data.toList.drop k).all isBit = true → Grown h' 1 t' (boolsC (s.data.toList.map fun c => c == 49))) := by
  intro n
  induction n with
  | zero => intro k t h h1 h2; omega
  | succ n ih =>
    intro k t h h1 h2 hx hf hg
    have htl : t.len = k := by have := sliceCells_len hg.cells; simp at this; simp at h2; omega
    rw [l40_0_eq]
    by_cases hk : k < s.data.toList.length
    · rw [bif_pos (by omega)]
      have e1 := strAt_get hk
      have htk := take_succU hk
      rw [drop_cons hk, List.all_cons]
      generalize s.data.toList.getD k 0 = x at e1 htk
      have b48 : ((x.toNat : Int) = 48) ↔ x = 48 := u8_eq x 48 (by omega)
      have b49 : ((x.toNat : Int) = 49) ↔ x = 49 := u8_eq x 49 (by omega)
      simp only [e1, Option.bind_some]
      by_cases h48 : x = 48 ∨ x = 49
      · have hbit : isBit x = true := by unfold isBit; rcases h48 with rfl | rfl <;> rfl
        rw [hbit, Bool.true_and]
        obtain ⟨g0, t', h', g1, g2, g3, g4, g5⟩ := growOneExt (bytes := 1) (vs := [.bool (decide ((x.toNat : Int) = 49))]) hx hf hg rfl (by omega) (by omega)
        have hcond : ((bif ((!decide ((x.toNat : Int) = (48 : Int))) == true) then ((some ((AVal.bool (!decide ((x.toNat : Int) = (49 : Int)))), h))) else (some ((AVal.bool false), h)) : Option (AVal × AHeap))) = some (.bool false, h) := by
          rcases h48 with rfl | rfl <;> rfl
        rw [hcond]
        simp only [Option.bind_some, bool_bool, cond_false, g0, g1, succU (show k < 9000000000000000000 by omega)]
        refine ih (k + 1) t' h' (by omega) (by omega) g4 g5 ?_
        rw [htk, List.map_append]
        have : decide ((x.toNat : Int) = 49) = (x == 49) := by
          rw [Bool.eq_iff_iff, decide_eq_true_eq, beq_iff_eq]; exact b49
        rw [this] at g2
        simpa using g2
      · have hbit : isBit x = false := by
          unfold isBit
          simp only [not_or] at h48
          simp [h48.1, h48.2]
        rw [hbit, Bool.false_and]
        simp only [not_or] at h48
        have n48 : ¬ (x.toNat : Int) = 48 := fun e => h48.1 (b48.1 e)
        have n49 : ¬ (x.toNat : Int) = 49 := fun e => h48.2 (b49.1 e)
        rw [decide_eq_false n48, decide_eq_false n49]
        exact ⟨.nil, h, by simp [bool_bool, k40_0_r], hx, fun e => by cases e⟩
    · have : k = s.data.toList.length := by omega
      subst this
      rw [bif_neg (by omega), List.drop_length]
      rw [List.take_length] at hg
      exact ⟨t, h, by simp [k40_0_x0], hx, fun _ => hg⟩

theorem bits40 (fuel d : Nat) (s : ByteArray) (h : AHeap) (hl : s.data.toList.length < 1000000000) (hf : s.data.toList.length < fuel) :
    ∃ t' h', run fuel (d + 1) 40 [.str s] h = some (.tup [.slice t', .bool (s.data.toList.all isBit)], h') ∧ Ext h h' ∧ (s.data.toList.all isBit = true → h'.sliceCells 1 t' = some (boolsC (s.data.toList.map fun c => c == 49))) := by
  have hsz : (s.size : Nat) = s.data.toList.length := by simp
  rw [e40]
  rw [cond_pos]
  · have hp := Keeps.push h 1 [] fun _ => False
    by_cases h0 : s.data.toList.length = 0
    · have hnil : s.data.toList = [] := List.eq_nil_of_length_eq_zero h0
      refine ⟨.mk ⟨h.rows.length, 0, 0⟩ 0 (decide ((0 : Int) = ((s.size : Nat) : Int))), h.push 1 [], ?_, hp, fun _ => ?_⟩
      · obtain ⟨m, rfl⟩ : ∃ m, fuel = m + 1 := ⟨fuel - 1, by omega⟩
        simp only [Int.toNat_zero, repeatCells, next_len]
        rw [l40_0_eq, bif_neg (by omega)]
        simp only [Option.bind_some, k40_0_x0, hnil]
        rfl
      · rw [hnil]
        simp [AHeap.sliceCells]
    · have hd0 : decide ((0 : Int) = ((s.size : Nat) : Int)) = false := decide_eq_false (by omega)
      have hg : Grown (h.push 1 []) 1 (.mk ⟨h.rows.length, 0, 0⟩ 0 false) (boolsC ((s.data.toList.take 0).map fun c => c == 49)) :=
        .row (row := { cells := [], sz := 1 }) (by simp [AHeap.push]) rfl rfl rfl (Nat.le_refl _) rfl rfl
      obtain ⟨t', h', e1, e2, e3⟩ := bits_loop fuel d (h0 := h) hl fuel 0 (.mk ⟨h.rows.length, 0, 0⟩ 0 false) (h.push 1 []) (by omega) (by omega) hp (fun r hr => by cases hr; exact Nat.le_refl _) hg
      refine ⟨t', h', ?_, e2, fun hb => (e3 (by simpa using hb)).cells⟩
      rw [hd0, hsz]
      simp only [Int.toNat_zero, repeatCells, next_len]
      rw [show ((0 : Nat) : Int) = 0 from rfl] at e1
      simpa using e1
  · simp only [Bool.true_and, Bool.and_eq_true, decide_eq_true_eq]
    omega

def bitOf (b : Bool) : UInt8 := if b then 49 else 48

theorem bits_build (fuel d : Nat) {s : Sl} {l : List Bool} {h0 : AHeap} {x1 x2 : Int} (hl : l.length ≤ 40) (hs0 : h0.sliceCells 1 s = some (boolsC l)) : ∀ (n m : Nat) (t : Sl) (h : AHeap), l.length < n + m → m ≤ l.length → Ext h0 h → t.From h0.rows.length → Grown h 1 t (bytesC ((l.take m).map bitOf)) →
    ∃ t' h', l9_0 fuel d n [(0, .slice s), (1, .int .i64 x1), (2, .int .u8 x2), (7, .bool true), (8, .slice t), (9, .int .i64 (m : Int))] h = some (.exit 0, [(0, .slice s), (1, .int .i64 x1), (2, .int .u8 x2), (7, .bool true), (8, .slice t')], h') ∧ Ext h0 h' ∧ t'.From h0.rows.length ∧ Grown h' 1 t' (bytesC (l.map bitOf)) := by
  intro n
  induction n with
  | zero => intro m t h h1 h2; omega
  | succ n ih =>
    intro m t h h1 h2 hx hf hg
    have hs := sliceCells_ext hx hs0
    have hsl : s.len = l.length := by have := sliceCells_len hs; simp at this; omega
    have htl : t.len = m := by have := sliceCells_len hg.cells; simp at this; omega
    rw [l9_0_eq, hsl]
    by_cases hm : m < l.length
    · rw [bif_pos (by omega)]
      obtain ⟨r1, r2⟩ := readB hs hm
      have htk : l.take (m + 1) = l.take m ++ [l.getD m false] := by
        rw [List.take_succ_eq_append_getElem hm, List.getD_eq_getElem?_getD, List.getElem?_eq_getElem hm, Option.getD_some]
      generalize l.getD m false = x at r2 htk
      simp only [r1, r2, Option.bind_some, bool_bool]
      have key : ∃ t' h', k9_1 fuel d n .normal [(0, .slice s), (1, .int .i64 x1), (2, .int .u8 x2), (7, .bool true), (8, .slice t), (9, .int .i64 (m : Int)), (10, .int .u8 ((bitOf x).toNat : Int))] h = some (.exit 0, [(0, .slice s), (1, .int .i64 x1), (2, .int .u8 x2), (7, .bool true), (8, .slice t')], h') ∧ Ext h0 h' ∧ t'.From h0.rows.length ∧ Grown h' 1 t' (bytesC (l.map bitOf)) := by
        obtain ⟨g0, t', h', g1, g2, g3, g4, g5⟩ := growOneExt (bytes := 1) (vs := [.int .u8 ((bitOf x).toNat : Int)]) hx hf hg rfl (by omega) (by omega)
        rw [k9_1_n]
        simp only [g0, g1, Option.bind_some, succU (show m < 9000000000000000000 by omega)]
        refine ih (m + 1) t' h' (by omega) (by omega) g4 g5 ?_
        rw [htk, List.map_append]
        simpa using g2
      cases x with
      | true => exact key
      | false => exact key
    · have : m = l.length := by omega
      subst this
      rw [bif_neg (by omega)]
      rw [List.take_length] at hg
      exact ⟨t, h, rfl, hx, hf, hg⟩

theorem bits_same (fuel d : Nat) {s t s8 : Sl} {l : List Bool} {h : AHeap} {x1 x2 : Int} (hl : l.length ≤ 40) (hs : h.sliceCells 1 s = some (boolsC l)) (ht : h.sliceCells 1 t = some (boolsC l)) : ∀ (n m : Nat), l.length < n + m → m ≤ l.length →
    l9_1 fuel d n [(0, .slice s), (1, .int .i64 x1), (2, .int .u8 x2), (7, .bool true), (8, .slice s8), (11, .slice t), (13, .int .i64 (m : Int))] h = some (.exit 2, [(1, .int .i64 x1), (2, .int .u8 x2), (6, .bot), (7, .bool true), (8, .slice s8)], h) := by
  have hsl : s.len = l.length := by have := sliceCells_len hs; simp at this; omega
  intro n
  induction n with
  | zero => intro m h1 h2; omega
  | succ n ih =>
    intro m h1 h2
    rw [l9_1_eq, hsl]
    by_cases hm : m < l.length
    · rw [bif_pos (by omega)]
      obtain ⟨r1, r2⟩ := readB hs hm
      obtain ⟨q1, q2⟩ := readB ht hm
      simp only [r1, r2, q1, q2, Option.bind_some, bool_bool, beq_self_eq_true, Bool.not_true, cond_false, succU (show m < 9000000000000000000 by omega)]
      exact ih (m + 1) (by omega) (by omega)
    · rw [bif_neg (by omega)]

theorem number41 (fuel d : Nat) (n m : Int) (h : AHeap) (hm : 0 < m) (hm' : m ≤ 4611686018427387904) :
    run fuel (d + 1) 41 [.int .i64 n, .int .i64 m] h = some (.int .i64 (n % m), h) := by
  rw [e41]
  have h0 : decide (m = 0) = false := by simp; omega
  have hlt := Int.tmod_lt_of_pos n hm
  have hgt := Int.lt_tmod_of_pos n hm
  rw [h0, cond_false]
  simp only [Bool.cond_eq_ite, decide_eq_true_eq]
  have key : n % m = if n.tmod m < 0 then n.tmod m + m else n.tmod m := by
    have e1 := Int.tmod_eq_emod (a := n) (b := m)
    split at e1
    · rename_i hc
      have := Int.emod_nonneg n (show m ≠ 0 by omega)
      rw [e1, if_neg (by omega)]
      omega
    · rename_i hc
      have h2 : n % m < m := Int.emod_lt_of_pos n hm
      have hab : ((m.natAbs : Nat) : Int) = m := by omega
      rw [e1, hab, if_pos (by omega)]
      omega
  split
  · rename_i hc
    rw [wrap64 (by omega) (by omega), key, if_pos hc]
  · rename_i hc
    rw [key, if_neg hc]

theorem all_set_bits {b : List UInt8} (hb : b.all isBit = true) {i : Nat} (hi : i < b.length) (c : UInt8) : (b.set i c).all isBit = isBit c := by
  rw [Bool.eq_iff_iff, List.all_eq_true]
  rw [List.all_eq_true] at hb
  constructor
  · intro h
    exact h c (List.mem_iff_getElem?.2 ⟨i, List.getElem?_set_self hi⟩)
  · intro h x hx
    rcases List.mem_or_eq_of_mem_set hx with hx | rfl
    · exact hb x hx
    · exact h

theorem law9 (fuel d : Nat) {h : AHeap} {s : Sl} {l : List Bool} (hs : h.sliceCells 1 s = some (boolsC l)) (hf : 100 ≤ fuel) (at_ : Int) (c : Int) (hc : 0 ≤ c ∧ c ≤ 255) :
    ∃ h', run fuel (d + 5) 9 [.slice s, .int .i64 at_, .int .u8 c] h = some (.bool true, h') := by
  have hsl : s.len = l.length := by have := sliceCells_len hs; simp at this; omega
  obtain ⟨h1, e1, x1⟩ := first36 fuel d h (by omega)
  rw [e9]
  simp only [e1, Option.bind_some, bool_bool, Bool.not_true, cond_false]
  rw [hsl]
  by_cases hl : l.length ≤ 40
  · rw [bif_neg (by omega)]
    obtain ⟨t, h2, e2, x2, f2, g2⟩ := bits_build fuel (d + 4) (x1 := at_) (x2 := c) hl (sliceCells_ext x1 hs) fuel 0 .nil h1 (by omega) (by omega) (.refl _ _) (.nil _) .nil
    rw [show ((0 : Nat) : Int) = 0 from rfl] at e2
    have htl : t.len = l.length := by have := sliceCells_len g2.cells; simp at this; omega
    have hall : (l.map bitOf).all isBit = true := by
      rw [List.all_eq_true]
      intro x hx
      obtain ⟨y, _, rfl⟩ := List.mem_map.1 hx
      cases y <;> rfl
    have hback : (l.map bitOf).map (fun c => c == 49) = l := by
      rw [List.map_map]
      conv => rhs; rw [← List.map_id l]
      exact List.map_congr_left fun y _ => by cases y <;> rfl
    obtain ⟨t3, h3, e3, x3, b3⟩ := bits40 fuel (d + 3) ⟨(l.map bitOf).toArray⟩ h2 (by simp; omega) (by simp; omega)
    simp only at e3 b3
    rw [hall] at e3
    have b3 := b3 hall
    rw [hback] at b3
    have ht3 : t3.len = l.length := by have := sliceCells_len b3; simp at this; omega
    have e4 := bits_same fuel (d + 4) (s8 := t) (x1 := at_) (x2 := c) hl (sliceCells_ext x3 (sliceCells_ext x2 (sliceCells_ext x1 hs))) b3 fuel 0 (by omega) (by omega)
    rw [show ((0 : Nat) : Int) = 0 from rfl] at e4
    simp only [e2, Option.bind_some, k9_0_x0, g2.cells, bytesFrom_bytesC, e3, isTup_tup, List.length_cons, List.length_nil, Nat.reduceAdd, beq_eq, decide_true, cond_true, comp_tup, List.getElem?_cons_zero, List.getElem?_cons_succ, slice_slice, bool_bool, Bool.not_true, cond_false]
    rw [ht3, hsl, bif_npos rfl]
    simp only [e4, Option.bind_some, k9_2_x2]
    rw [htl]
    by_cases h0 : l.length = 0
    · rw [bif_pos (by omega)]
      exact ⟨_, rfl⟩
    · rw [bif_neg (by omega)]
      have e5 := number41 fuel (d + 3) at_ (l.length : Int) h3 (by omega) (by omega)
      have hm0 := Int.emod_nonneg at_ (show (l.length : Int) ≠ 0 by omega)
      have hm1 := Int.emod_lt_of_pos at_ (show (0 : Int) < (l.length : Int) by omega)
      have g3 : Grown h3 1 t (bytesC (l.map bitOf)) := g2.keep x3 fun _ _ => id
      obtain ⟨id, gen, n, rfl, ho⟩ := g3.own (by omega)
      have hn : n = l.length := htl
      subst hn
      obtain ⟨q1, h6, q2, q3, q4, _⟩ := ho.store (j := at_ % (l.length : Int)) hm0 hm1 false (.int .u8 c)
      have hset : (bytesC (l.map bitOf)).set (at_ % (l.length : Int)).toNat (.int .u8 c) = bytesC ((l.map bitOf).set (at_ % (l.length : Int)).toNat (UInt8.ofNat c.toNat)) := by
        have e : ((UInt8.ofNat c.toNat).toNat : Int) = c := by rw [UInt8.toNat_ofNat']; omega
        show _ = List.map _ _
        rw [List.map_set, e]
      rw [hset] at q3
      have hall2 : ((l.map bitOf).set (at_ % (l.length : Int)).toNat (UInt8.ofNat c.toNat)).all isBit = isBit (UInt8.ofNat c.toNat) := all_set_bits hall (by simp; omega) _
      obtain ⟨t7, h7, e7, _, _⟩ := bits40 fuel (d + 3) ⟨((l.map bitOf).set (at_ % (l.length : Int)).toNat (UInt8.ofNat c.toNat)).toArray⟩ h6 (by simp; omega) (by simp; omega)
      simp only at e7
      rw [hall2] at e7
      have hb : isBit (UInt8.ofNat c.toNat) = (bif (decide (c = (48 : Int))) then true else (decide (c = (49 : Int)))) := by
        unfold isBit
        have a1 : (UInt8.ofNat c.toNat == 48) = decide (c = 48) := by
          rw [Bool.eq_iff_iff, beq_iff_eq, decide_eq_true_eq]
          have := u8_eq (UInt8.ofNat c.toNat) 48 (by omega)
          rw [UInt8.toNat_ofNat'] at this
          constructor
          · intro h; have := this.2 h; omega
          · intro h; exact this.1 (by omega)
        have a2 : (UInt8.ofNat c.toNat == 49) = decide (c = 49) := by
          rw [Bool.eq_iff_iff, beq_iff_eq, decide_eq_true_eq]
          have := u8_eq (UInt8.ofNat c.toNat) 49 (by omega)
          rw [UInt8.toNat_ofNat'] at this
          constructor
          · intro h; have := this.2 h; omega
          · intro h; exact this.1 (by omega)
        rw [a1, a2]
        cases decide (c = 48) <;> rfl
      simp only [e5, Option.bind_some, int_int, q1, q2, q3.cells, bytesFrom_bytesC, e7, isTup_tup, List.length_cons, List.length_nil, Nat.reduceAdd, beq_eq, decide_true, cond_true, comp_tup, List.getElem?_cons_zero, List.getElem?_cons_succ, slice_slice, bool_bool, beq_self_eq_true]
      rw [hb]
      exact ⟨h7, by simp⟩
  · rw [bif_pos (by omega)]
    exact ⟨_, rfl⟩

end Go.Proofs.Ythccobceodgmlaa
