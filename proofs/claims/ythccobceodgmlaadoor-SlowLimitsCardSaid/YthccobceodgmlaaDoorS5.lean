/-
  slow.Wins, slow.Value: what they answer.
-/
import Derived.Test.YthccobceodgmlaaDoorS4
namespace Go.Proofs.YthccobceodgmlaaDoor
open Go.RowKit

theorem mapM_len {α β : Type} {f : α → Option β} : ∀ {l : List α} {us : List β}, l.mapM f = some us → us.length = l.length := fun h => (mapM_get h).1

theorem Few.mat {fuel : Nat} {vs : List Int} {cc mc : List (List Int)} (hc : Few fuel cc) (h : matP vs cc = some mc) : Few fuel mc := by
  obtain ⟨h1, h2⟩ := mapM_get h
  refine ⟨by rw [h1]; exact hc.many, by rw [h1]; exact hc.room, fun c hm => ?_⟩
  obtain ⟨i, hi⟩ := List.getElem?_of_mem hm
  have hi' : i < cc.length := by rw [← h1]; exact (List.getElem?_eq_some_iff.1 hi).1
  have h3 := h2 i _ c (List.getElem?_eq_getElem hi') hi
  rw [mapM_len h3]
  exact hc.each _ (List.getElem_mem hi')

/-- The outer player wins with these values. -/
def winsP (mc : List (List Int)) (ex : Bool) (m : Nat) (o : List Bool) : Prop := ∀ b' : List Bool, b'.length = m → ofI mc ((false :: o) ++ b') = ex

theorem value_loop (fuel d : Nat) {ex : Bool} {n m : Nat} {mc : List (List Int)} (hnm : n + m ≤ 20) (hf : 2 ^ 21 ≤ fuel) (hc : Few fuel mc) {c7 c8 : Bool} : ∀ (k : Nat) (o x : List Bool) (h : AHeap), 2 ^ n ≤ k + valB o → o.length = n → x.length = n + m →
    h.cell (.mk ⟨0, 0, 0⟩ 4) = some (.bool ex) → (∃ row, h.rows[0]? = some row) → Own h 1 1 0 n (boolsC o) → Own h 1 2 0 (1 + n + m) (boolsC (false :: x)) →
    ∃ r h', (l_slow_Value_0 fuel (d + 4) k [(1, .ptr (.mk ⟨0, 0, 0⟩ 4)), (4, .slice (lstLL mc)), (6, .int .i64 (n : Int)), (7, .slice (.mk ⟨1, 0, 0⟩ n c7)), (8, .slice (.mk ⟨2, 0, 0⟩ (1 + n + m) c8))] h).bind (fun p => k_slow_Value_0 fuel (d + 4) p.1 p.2.1 p.2.2) = some (.tup [.bool r, .nilif], h') ∧
      (r = ex ↔ ∃ o' : List Bool, o'.length = n ∧ valB o ≤ valB o' ∧ winsP mc ex m o') := by
  intro k
  induction k with
  | zero => intro o x h h1 h2; have := valB_lt o; rw [h2] at this; omega
  | succ k ih =>
    intro o x h h1 h2 hx hg hg0 ho hm
    have hp : 2 ^ n ≤ 2 ^ 20 := Nat.pow_le_pow_right (by omega) (by omega)
    have hp2 : 2 ^ m ≤ 2 ^ 20 := Nat.pow_le_pow_right (by omega) (by omega)
    rw [l_slow_Value_0_eq, aHi_none]
    simp only [Option.bind_some, len_mk]
    rw [show (1 : Int) = ((1 : Nat) : Int) from rfl, aLo_some (by omega) (by omega), aMx_none]
    simp only [Option.bind_some, Int.toNat_natCast]
    rw [cond_pos _ _ (hm.hasSz c8), ho.cells c7]
    simp only [Option.bind_some]
    have ecut : Sl.cut (.mk ⟨2, 0, 0⟩ (1 + n + m) c8) 1 1 (1 + n + m) false = .mk ⟨2, 0, 1⟩ (n + m) c8 := by
      simp [Sl.cut, beq_eq]; omega
    rw [ecut, len_mk, show min n (n + m) = n by omega]
    obtain ⟨h5, e5, o5, k5, n5⟩ := hm.copy (off := 1) (k := n + m) (c := c8) (xs := boolsC o) (m := n) (by simp; omega) (by omega)
    rw [e5]
    simp only [Option.bind_some, field_mk]
    have keep0 : ∀ {a b : AHeap} {i : Nat}, Keeps a b (· = i) → i ≠ 0 → a.cell (.mk ⟨0, 0, 0⟩ 4) = some (.bool ex) → (∃ row, a.rows[0]? = some row) → b.cell (.mk ⟨0, 0, 0⟩ 4) = some (.bool ex) ∧ ∃ row, b.rows[0]? = some row := by
      intro a b i hk hi hc ⟨row, hr⟩
      have hr' := hk.2 0 row hr (fun e => hi e.symm)
      refine ⟨?_, row, hr'⟩
      simp only [AHeap.cell, AHeap.live, hr] at hc
      simp only [AHeap.cell, AHeap.live, hr']
      exact hc
    obtain ⟨g5, g50⟩ := keep0 k5 (by omega) hg hg0
    have eo5 : (boolsC (false :: x)).take 1 ++ (boolsC o).take n ++ (boolsC (false :: x)).drop (1 + n) = boolsC ((false :: o) ++ x.drop n) := by
      rw [List.take_of_length_le (l := boolsC o) (by simp; omega)]
      simp [Nat.add_comm 1 n]
    rw [eo5] at o5
    rw [show (0 : Nat) + 0 = 0 from rfl, g5]
    simp only [Option.bind_some, bool_bool]
    obtain ⟨r, h9, b2, e9, k9, l9, o9, n9, w9⟩ := wins_run fuel d (c := c8) (ex := ex) (o := n) (n := 1 + n + m) (by omega) (by omega) hc (by omega) (by rw [show 1 + n + m - (1 + n) = m by omega]; omega) (l := (false :: o) ++ x.drop n) (by simp; omega) o5
    have ht : ((false :: o) ++ x.drop n).take (1 + n) = false :: o := List.take_left' (by simp; omega)
    rw [ht, show 1 + n + m - (1 + n) = m by omega] at w9
    rw [ht] at o9
    rw [e9]
    simp only [Option.bind_some, bool_bool]
    obtain ⟨g9, g90⟩ := keep0 k9 (by omega) g5 g50
    cases r with
    | true =>
      rw [cond_true, g9]
      simp only [Option.bind_some, bool_bool, k_slow_Value_0_r]
      exact ⟨ex, h9, rfl, iff_of_true rfl ⟨o, h2, Nat.le_refl _, w9.1 rfl⟩⟩
    | false =>
      rw [cond_false]
      have o1 : Own h9 1 1 0 n (boolsC o) := (ho.keep k5 (by omega)).keep k9 (by omega)
      obtain ⟨h14, e14, o14, k14, n14⟩ := next_run fuel (d + 3) (c := c7) (k := 0) (by omega) (by omega) (Nat.zero_le _) h2 o1
      rw [show ((0 : Nat) : Int) = 0 from rfl] at e14
      rw [List.drop_zero] at e14 o14
      rw [List.take_zero, List.nil_append] at o14
      rw [e14]
      simp only [Option.bind_some, bool_bool]
      obtain ⟨g14, g140⟩ := keep0 k14 (by omega) g9 g90
      have hno : ¬ winsP mc ex m o := fun h => by have := w9.2 h; cases this
      cases hi : (incB o).1 with
      | false =>
        rw [Bool.not_false, cond_true, g14]
        simp only [Option.bind_some, bool_bool, k_slow_Value_0_r]
        refine ⟨!ex, h14, rfl, iff_of_false (by cases ex <;> simp) ?_⟩
        rintro ⟨o', l1, l2, l3⟩
        have := incB_last hi o' (by omega)
        rw [valB_inj (b := o') (b' := o) (by omega) (by omega)] at l3
        exact hno l3
      | true =>
        rw [Bool.not_true, cond_false]
        have hv := incB_val hi
        have o9' : Own h14 1 2 0 (1 + n + m) (boolsC (false :: (o ++ b2))) := by
          have := o9.keep k14 (by omega)
          simpa using this
        obtain ⟨r, h', f1, f2⟩ := ih (incB o).2 (o ++ b2) h14 (by omega) (by rw [incB_len]; exact h2) (by simp; omega) g14 g140 o14 o9'
        refine ⟨r, h', f1, ?_⟩
        rw [f2, hv]
        constructor
        · rintro ⟨o', l1, l2, l3⟩
          exact ⟨o', l1, by omega, l3⟩
        · rintro ⟨o', l1, l2, l3⟩
          refine ⟨o', l1, ?_, l3⟩
          by_cases hq : valB o' = valB o
          · rw [valB_inj (b := o') (b' := o) (by omega) hq] at l3
            exact absurd l3 hno
          · omega

/-- What slow.Value answers of a right game. -/
theorem Value_run (fuel d : Nat) {ex : Bool} {outer inner : List Int} {cc mc : List (List Int)} (hnm : outer.length + inner.length ≤ 20) (hf : 2 ^ 21 ≤ fuel) (hc : Few fuel cc) (hm : matP (outer ++ inner) cc = some mc) {h : AHeap} {x : AVal} (hx : freezeV h 8 x = some (.agg (gameC ex outer inner cc))) :
    ∃ r, run fuel (d + 5) F_slow_Value [x] h = some (.tup [.bool r, .nilif], h) ∧
      (r = ex ↔ ∃ o' : List Bool, o'.length = outer.length ∧ winsP mc ex inner.length o') := by
  have hp : (2 : Nat) ^ 21 = 2097152 := rfl
  rw [hp] at hf
  obtain ⟨r, h', e1, e2⟩ := value_loop fuel d (ex := ex) (n := outer.length) (m := inner.length) (mc := mc) hnm (by omega) (hc.mat hm)
    (c7 := true) (c8 := true)
    fuel (List.replicate outer.length false) (List.replicate (outer.length + inner.length) false)
    (((AHeap.none.push 1 (gameC ex outer inner cc)).push 1 (boolsC (List.replicate outer.length false))).push 1 (boolsC (false :: List.replicate (outer.length + inner.length) false)))
    (by
      have : 2 ^ outer.length ≤ 2 ^ 20 := Nat.pow_le_pow_right (by omega) (by omega)
      rw [valB_zero]; omega) (by simp) (by simp) rfl ⟨_, rfl⟩
    ((Own.push (AHeap.none.push 1 (gameC ex outer inner cc)) 1 outer.length (boolsC (List.replicate outer.length false)) (by simp)).keep (Keeps.push _ _ _ fun _ => False) id)
    (Own.push ((AHeap.none.push 1 (gameC ex outer inner cc)).push 1 (boolsC (List.replicate outer.length false))) 1 (1 + outer.length + inner.length) (boolsC (false :: List.replicate (outer.length + inner.length) false)) (by simp; omega))
  refine ⟨r, ?_, e2.trans ⟨fun ⟨o', l1, _, l3⟩ => ⟨o', l1, l3⟩, fun ⟨o', l1, l3⟩ => ⟨o', l1, by rw [valB_zero]; omega, l3⟩⟩⟩
  refine run_val rfl rfl (mm1 hx) (r := .tup [.bool r, .nilif]) (h' := h') ?_ rfl rfl
  rw [e_slow_Value, show List.all (gameC ex outer inner cc) AVal.isCell = true from rfl, cond_true]
  simp only [eqI_self]
  have c0 : (AHeap.none.push 1 (gameC ex outer inner cc)).cellsAt 4 (.mk ⟨AHeap.none.next, 0, 0⟩ 4) = some (gameC ex outer inner cc) := rfl
  have c1 : (AHeap.none.push 1 (gameC ex outer inner cc)).cell (.mk ⟨AHeap.none.next, 0, 1⟩ 4) = some (.slice (lstI outer)) := rfl
  have c2 : (AHeap.none.push 1 (gameC ex outer inner cc)).cell (.mk ⟨AHeap.none.next, 0, 2⟩ 4) = some (.slice (lstI inner)) := rfl
  have c3 : ∀ cs, ((AHeap.none.push 1 (gameC ex outer inner cc)).push 1 cs).cell (.mk ⟨AHeap.none.next, 0, 2⟩ 4) = some (.slice (lstI inner)) := fun _ => rfl
  simp only [c0, Option.bind_some, Matrix_run fuel d (ex := ex) (by omega : outer.length + inner.length < 1000000) (by omega) (by omega) hc, hm, matR, isTup_tup, comp_tup, List.length_cons, List.length_nil, Nat.reduceAdd, Nat.beq_refl, cond_true, List.getElem?_cons_zero, List.getElem?_cons_succ, slice_slice, bool_bool, Bool.not_true, cond_false, field_mk, c1, c2]
  have w1 : IntKind.wrap .i64 (((lstI outer).len : Int) + ((lstI inner).len : Int)) = ((outer.length + inner.length : Nat) : Int) := by
    rw [len_lst, len_lst, wrap64 (by omega) (by omega)]; omega
  have w2 : IntKind.wrap .i64 (IntKind.wrap .i64 ((1 : Int) + ((lstI outer).len : Int)) + ((lstI inner).len : Int)) = ((1 + outer.length + inner.length : Nat) : Int) := by
    rw [len_lst, len_lst, wrap64 (n := (1 : Int) + (outer.length : Int)) (by omega) (by omega), wrap64 (by omega) (by omega)]; omega
  rw [bif_neg (by rw [w1]; omega), cond_pos _ _ (mk_ok (by omega) (by rw [len_lst]; omega) (by rw [len_lst]; omega)), c3]
  simp only [Option.bind_some, slice_slice]
  rw [cond_pos _ _ (mk_ok (by rw [w2]; omega) (by rw [w2]; omega) (by rw [w2]; omega))]
  ·   have r1 : repeatCells [AVal.bool false] (Int.toNat ((lstI outer).len : Int)) = boolsC (List.replicate outer.length false) := by
        rw [len_lst, Int.toNat_natCast, repeat_one]; simp
      have r2 : repeatCells [AVal.bool false] (Int.toNat (IntKind.wrap .i64 (IntKind.wrap .i64 ((1 : Int) + ((lstI outer).len : Int)) + ((lstI inner).len : Int)))) = boolsC (false :: List.replicate (outer.length + inner.length) false) := by
        rw [w2, Int.toNat_natCast, repeat_one, show 1 + outer.length + inner.length = (outer.length + inner.length) + 1 by omega, List.replicate_succ]; simp
      have t1 : Int.toNat ((lstI outer).len : Int) = outer.length := by rw [len_lst, Int.toNat_natCast]
      have t2 : Int.toNat (IntKind.wrap .i64 (IntKind.wrap .i64 ((1 : Int) + ((lstI outer).len : Int)) + ((lstI inner).len : Int))) = 1 + outer.length + inner.length := by rw [w2, Int.toNat_natCast]
      rw [r1, r2, t1, t2]
      exact e1

/-- What slow.Wins answers of a right game. -/
theorem Wins_run (fuel d : Nat) {ex : Bool} {outer inner : List Int} {o : List Bool} {cc mc : List (List Int)} (ho : outer.length ≤ 20) (hol : o.length = outer.length) (hnm : inner.length ≤ 20) (hf : 2 ^ 21 ≤ fuel) (hc : Few fuel cc) (hm : matP (outer ++ inner) cc = some mc) {h : AHeap} {x y : AVal} (hx : freezeV h 8 x = some (.agg (gameC ex outer inner cc))) (hy : freezeV h 8 y = some (.slice (lstB o))) :
    ∃ r, run fuel (d + 5) F_slow_Wins [x, y] h = some (.tup [.bool r, .nilif], h) ∧ (r = true ↔ winsP mc ex inner.length o) := by
  have hp : (2 : Nat) ^ 21 = 2097152 := rfl
  rw [hp] at hf
  have w2 : IntKind.wrap .i64 (IntKind.wrap .i64 ((1 : Int) + ((lstI outer).len : Int)) + ((lstI inner).len : Int)) = ((1 + outer.length + inner.length : Nat) : Int) := by
    rw [len_lst, len_lst, wrap64 (n := (1 : Int) + (outer.length : Int)) (by omega) (by omega), wrap64 (by omega) (by omega)]; omega
  have r2 : repeatCells [AVal.bool false] (Int.toNat (IntKind.wrap .i64 (IntKind.wrap .i64 ((1 : Int) + ((lstI outer).len : Int)) + ((lstI inner).len : Int)))) = boolsC (List.replicate (1 + outer.length + inner.length) false) := by
    rw [w2, Int.toNat_natCast, repeat_one]; simp
  have t2 : Int.toNat (IntKind.wrap .i64 (IntKind.wrap .i64 ((1 : Int) + ((lstI outer).len : Int)) + ((lstI inner).len : Int))) = 1 + outer.length + inner.length := by rw [w2, Int.toNat_natCast]
  have own := Own.push (AHeap.none.push 1 (gameC ex outer inner cc)) 1 (1 + outer.length + inner.length) (boolsC (List.replicate (1 + outer.length + inner.length) false)) (by simp)
  have hid : (AHeap.none.push 1 (gameC ex outer inner cc)).rows.length = 1 := rfl
  rw [hid] at own
  obtain ⟨h5, e5, o5, k5, n5⟩ := own.copy (off := 1) (k := outer.length + inner.length) (c := true) (xs := boolsC o) (m := outer.length) (by simp; omega) (by omega)
  have eo5 : (boolsC (List.replicate (1 + outer.length + inner.length) false)).take 1 ++ (boolsC o).take outer.length ++ (boolsC (List.replicate (1 + outer.length + inner.length) false)).drop (1 + outer.length) = boolsC ((false :: o) ++ List.replicate inner.length false) := by
    rw [List.take_of_length_le (l := boolsC o) (by simp; omega)]
    have er : List.replicate (1 + outer.length + inner.length) false = [false] ++ (List.replicate outer.length false ++ List.replicate inner.length false) := by
      rw [List.replicate_append_replicate, show 1 + outer.length + inner.length = (outer.length + inner.length) + 1 by omega, List.replicate_succ]; rfl
    rw [er]
    simp [Nat.add_comm 1 outer.length]
  rw [eo5] at o5
  have hp2 : 2 ^ inner.length ≤ 2 ^ 20 := Nat.pow_le_pow_right (by omega) (by omega)
  obtain ⟨r, h9, b2, e9, k9, l9, o9, n9, w9⟩ := wins_run fuel d (c := true) (ex := ex) (o := outer.length) (n := 1 + outer.length + inner.length) (by omega) (by omega) (hc.mat hm) (by omega) (by rw [show 1 + outer.length + inner.length - (1 + outer.length) = inner.length by omega]; omega) (l := (false :: o) ++ List.replicate inner.length false) (by simp; omega) o5
  have ht : ((false :: o) ++ List.replicate inner.length false).take (1 + outer.length) = false :: o := List.take_left' (by simp; omega)
  rw [ht, show 1 + outer.length + inner.length - (1 + outer.length) = inner.length by omega] at w9
  refine ⟨r, ?_, w9⟩
  refine run_val rfl rfl (mm2 hx hy) (r := .tup [.bool r, .nilif]) (h' := h9) ?_ rfl rfl
  rw [e_slow_Wins, show List.all (gameC ex outer inner cc) AVal.isCell = true from rfl, cond_true]
  simp only [eqI_self]
  have c0 : (AHeap.none.push 1 (gameC ex outer inner cc)).cellsAt 4 (.mk ⟨AHeap.none.next, 0, 0⟩ 4) = some (gameC ex outer inner cc) := rfl
  have c1 : (AHeap.none.push 1 (gameC ex outer inner cc)).cell (.mk ⟨AHeap.none.next, 0, 1⟩ 4) = some (.slice (lstI outer)) := rfl
  have c2 : (AHeap.none.push 1 (gameC ex outer inner cc)).cell (.mk ⟨AHeap.none.next, 0, 2⟩ 4) = some (.slice (lstI inner)) := rfl
  have c3 : h5.cell (.mk ⟨AHeap.none.next, 0, 0⟩ 4) = some (.bool ex) := by
    have hr := k5.2 0 { cells := gameC ex outer inner cc, sz := 1 } rfl (by omega)
    simp [AHeap.cell, AHeap.live, AHeap.next, AHeap.none, hr]
    rfl
  have hlen : ((lstB o).len : Int) = ((lstI outer).len : Int) := by rw [len_lst, len_lst, hol]
  simp only [c0, Option.bind_some, Matrix_run fuel d (ex := ex) (by omega : outer.length + inner.length < 1000000) (by omega) (by omega) hc, hm, matR, isTup_tup, comp_tup, List.length_cons, List.length_nil, Nat.reduceAdd, Nat.beq_refl, cond_true, List.getElem?_cons_zero, List.getElem?_cons_succ, slice_slice, bool_bool, Bool.not_true, beq_self_eq_true, cond_false, field_mk, c1, c2, hlen, decide_true]
  rw [bif_neg (by rw [len_lst]; omega), cond_pos _ _ (mk_ok (by rw [w2]; omega) (by rw [w2]; omega) (by rw [w2]; omega))]
  · rw [r2, t2, aHi_none]
    simp only [Option.bind_some, len_mk]
    rw [show (1 : Int) = ((1 : Nat) : Int) from rfl, aLo_some (by omega) (by omega), aMx_none]
    simp only [Option.bind_some, Int.toNat_natCast]
    have ecut : Sl.cut (.mk ⟨1, 0, 0⟩ (1 + outer.length + inner.length) true) 1 1 (1 + outer.length + inner.length) false = .mk ⟨1, 0, 1⟩ (outer.length + inner.length) true := by
      simp [Sl.cut, beq_eq]; omega
    have hnext : (AHeap.none.push 1 (gameC ex outer inner cc)).next = 1 := rfl
    rw [hnext, cond_pos _ _ (own.hasSz true), cells_lstM]
    simp only [Option.bind_some]
    rw [ecut, len_mk, len_lst, show min o.length (outer.length + inner.length) = outer.length by omega, e5]
    simp only [Option.bind_some, c3, bool_bool]
    rw [len_lst, e9]
    rfl

end Go.Proofs.YthccobceodgmlaaDoor
