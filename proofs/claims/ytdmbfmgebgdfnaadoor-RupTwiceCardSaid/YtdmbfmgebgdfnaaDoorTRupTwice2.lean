/-
  Parts of the proof of RupTwice: lits.Norm; slices.Clone, Compact, Clip. lits.Norm in the heap: nothing of what was there is changed. slices.IndexFunc, ContainsFunc of whatever slice, with a function that has a row of the heap. rup: a base of clauses in the heap; right; what the search sets and looks at. rup: what the search looks at; its loops; closure. What is there still, behind calls. rup: the queue; closure, Implied. rup: Implied; a base that is made and added to. rup: Add, New, Len, Closure. Clauses and CNFs as cells. rup: New, Len, Closure. Clauses that are chained; the search's answers told; skolemlaw21.first. skolemworld.Number. Literals out of numbers. skolemmake.Clauses, skolemmake.CNF; skolemref1.Of. Small things of a base's laws. slices.DeleteFunc on a part of a row of one's own. slices.Equal. rup: find, Has, gone, Drop. rup: Drop. skolemmake.Clauses as a value. skolemmake.Near. skolemref.SameInts. The document's small functions on numbers: skolemref.SameInts, Has, Ints. skolemref.Ints: a slice of its own. RupTwice.
-/
import Derived.Test.YtdmbfmgebgdfnaaDoorTRupTwice1
import Derived.Lib.SlicesCompact
import Derived.Test.YtdmbfmgebgdfnaaDoorBm31
import Derived.Test.YtdmbfmgebgdfnaaDoorE2
import Derived.Test.YtdmbfmgebgdfnaaDoorBm34
namespace Go.Proofs.YtdmbfmgebgdfnaaDoor
open Go.RowKit Go.Sort

section
variable {fuel : Nat} {h : AHeap} {id gen n : Nat} {c : Bool} {d : Array Int}

/-- a part of a row -/
theorem Own.cellsFrom {cs : List AVal} (ho : Own h 1 id gen n cs) {off k : Nat} (hk : off + k ≤ n) (c : Bool) : h.sliceCells 1 (.mk ⟨id, gen, off⟩ k c) = some ((cs.drop off).take k) := by
  obtain ⟨⟨row, h1, rfl, rfl, h4, h5, h6⟩, hlen⟩ := ho
  have := sliceCells_of (r := ⟨id, row.gen, off⟩) (n := k) (c := c) h1 h6 h4 (Nat.le_refl _) (by simp only; omega)
  rwa [Nat.mul_one] at this
theorem rdK2 (ho : Own h 1 id gen n (intsC d.toList)) {off k i : Nat} (hk : off + k ≤ n) (hi : i < k) {β : Type} (K : Int → Option β) :
    ((h.addr 1 (.mk ⟨id, gen, off⟩ k c) (i : Int)).bind fun p => (h.cell p).bind fun u => (AVal.int? .i64 u).bind K) = K d[off + i]! := by
  have hs := ho.cellsFrom hk c
  have hsz := own_size ho
  have hd : off + i < d.size := by omega
  rw [addr_at hs (by omega) (by simp [Sl.len]; omega), Option.bind_some, cell_at hs (v := .int .i64 d[off + i]!) (by omega) (by
    rw [Int.toNat_natCast, List.getElem?_take, if_pos hi, List.getElem?_drop, List.getElem?_map, Array.getElem?_toList, Array.getElem?_eq_getElem hd, getElem!_pos d _ hd]; rfl), Option.bind_some, int_int, Option.bind_some]
theorem wrK (ho : Own h 1 id gen n (intsC d.toList)) {i : Nat} (hi : i < n) (x : Int) : ∃ h', Own h' 1 id gen n (intsC (d.setIfInBounds i x).toList) ∧ Keeps h h' (· = id) ∧ ∀ {β : Type} (K : AHeap → Option β),
    ((h.addr 1 (.mk ⟨id, gen, 0⟩ n c) (i : Int)).bind fun p => (h.storeAt [.int .i64 x] p).bind K) = K h' := by
  obtain ⟨a1, h1, e1, o1, k1, _⟩ := ho.intsStore (j := (i : Int)) (by omega) (by omega) c x
  refine ⟨h1, ?_, k1, fun K => by rw [a1, Option.bind_some, e1, Option.bind_some]⟩
  rw [Array.toList_setIfInBounds]
  exact o1

theorem Own.clear {cs : List AVal} (ho : Own h 1 id gen n cs) {off k : Nat} {c : Bool} (z : AVal) (hl : off + k ≤ n) :
    ∃ h', h.clear false [z] 1 (.mk ⟨id, gen, off⟩ k c) = some h' ∧ Own h' 1 id gen n (cs.take off ++ List.replicate k z ++ cs.drop (off + k)) ∧ Keeps h h' (· = id) ∧ h'.rows.length = h.rows.length := by
  by_cases h0 : k = 0
  · subst h0
    exact ⟨h, by simp [AHeap.clear, Sl.len], by simpa using ho, Keeps.refl _ _, rfl⟩
  · obtain ⟨⟨row, h1, rfl, rfl, h4, h5, h6⟩, hlen⟩ := ho
    rw [Nat.mul_one] at hlen
    have hlt := (List.getElem?_eq_some_iff.1 h1).1
    have hle : off + k ≤ row.cells.length := by omega
    refine ⟨h.setRow id { row with cells := AHeap.overlay row.cells off (List.replicate k z), valid := row.gen }, ?_, ⟨⟨{ row with cells := AHeap.overlay row.cells off (List.replicate k z), valid := row.gen }, ?_, ?_, rfl, Nat.le_refl _, h5, h6⟩, ?_⟩, Keeps.setRow _ _ _, by simp [AHeap.setRow]⟩
    · simp only [AHeap.clear, Sl.len, beq_eq, h0, decide_false, cond_false, h1, h6, decide_true, cond_true, AHeap.store, h5, Bool.not_false, repeat_one, List.length_replicate, ble_eq, hle, Bool.and_self]
    · simp only [AHeap.setRow]
      exact List.getElem?_set_self hlt
    · simp only [AHeap.overlay, List.length_replicate]
    · simp; omega

/-! slices.Compact -/
open Go.Lib in
theorem cmp_loop1 (e : Nat) (hn : n < 1000000000) {k0 : Nat} (hk0 : 1 ≤ k0) (hk1 : k0 < n) (d0 : Array Int) : ∀ (g k m q : Nat) (dk : Array Int) (h : AHeap), q + g = n → g < m → Own h 1 id gen n (intsC dk.toList) → CompInv d0 q k dk → k0 < q →
    ∃ (h' : AHeap) (dk' : Array Int) (k' : Nat), l_slices_Compact_s_int_int_1 fuel e m [(0, .slice (.mk ⟨id, gen, 0⟩ n c)), (3, .int .i64 (k : Int)), (4, .slice (.mk ⟨id, gen, k0⟩ (n - k0) c)), (5, .int .i64 ((q - k0 : Nat) : Int))] h = some (.exit 2, [(0, .slice (.mk ⟨id, gen, 0⟩ n c)), (3, .int .i64 (k' : Int))], h') ∧
      Own h' 1 id gen n (intsC dk'.toList) ∧ CompInv d0 n k' dk' ∧ Keeps h h' (· = id) := by
  intro g
  induction g with
  | zero =>
    intro k m q dk h hq hm ho hC hq0
    obtain ⟨m, rfl⟩ : ∃ m', m = m' + 1 := ⟨m - 1, by omega⟩
    obtain rfl : q = n := by omega
    rw [l_slices_Compact_s_int_int_1_eq, len_mk, bif_neg (by omega)]
    exact ⟨h, dk, k, rfl, ho, hC, Keeps.refl _ _⟩
  | succ g ih =>
    intro k m q dk h hq hm ho hC hq0
    obtain ⟨m, rfl⟩ : ∃ m', m = m' + 1 := ⟨m - 1, by omega⟩
    have hs := own_size ho
    have hs0 : d0.size = n := by rw [← hC.size]; exact hs
    have hlt := hC.lt
    have e1 : dk[q]! = d0[q]! := hC.high q (by omega)
    have e2 : dk[q - 1]! = d0[q - 1]! := hC.high (q - 1) (by omega)
    rw [l_slices_Compact_s_int_int_1_eq, len_mk, bif_pos (by omega), rdK2 (off := k0) (k := n - k0) ho (by omega) (by omega), predI (by omega) (by omega), rdK2 (off := k0) (k := n - k0) (i := q - k0 - 1) ho (by omega) (by omega), show k0 + (q - k0) = q by omega, show k0 + (q - k0 - 1) = q - 1 by omega, e1, e2]
    by_cases he : d0[q]! = d0[q - 1]!
    · rw [bif_npos he, sucI (by omega), show q - k0 + 1 = q + 1 - k0 by omega]
      exact ih k m (q + 1) dk h (by omega) (by omega) ho (hC.skip (keeps_neg (by omega) he)) (by omega)
    · obtain ⟨h2, o2, k2, w2⟩ := wrK (c := c) ho (i := k) (by omega) d0[q]!
      rw [bif_nneg he, rdK2 (off := k0) (k := n - k0) ho (by omega) (by omega), show k0 + (q - k0) = q by omega, e1, w2, sucI (by omega), sucI (by omega), show q - k0 + 1 = q + 1 - k0 by omega]
      obtain ⟨h', dk', k', q1, q2, q3, q4⟩ := ih (k + 1) m (q + 1) _ h2 (by omega) (by omega) o2 (hC.keep (by omega) (keeps_pos he)) (by omega)
      exact ⟨h', dk', k', q1, q2, q3, k2.trans q4⟩

open Go.Lib in
theorem cmp_loop0 (e : Nat) (hn : n < 1000000000) (hf : n < fuel) (ho : Own h 1 id gen n (intsC d.toList)) : ∀ (g k m : Nat), k + g = n → g < m → 1 ≤ k → (∀ j, j < k → keeps d j = true) →
    ∃ (h' : AHeap) (k' : Nat) (c' : Bool), ((l_slices_Compact_s_int_int_0 fuel e m [(0, .slice (.mk ⟨id, gen, 0⟩ n c)), (3, .int .i64 (k : Int))] h).bind fun p => k_slices_Compact_s_int_int_0 fuel e p.1 p.2.1 p.2.2) = some (.slice (.mk ⟨id, gen, 0⟩ k' c'), h') ∧
      h'.sliceCells 1 (.mk ⟨id, gen, 0⟩ k' c') = some (intsC (compact d.toList)) ∧ k' = (compact d.toList).length ∧ Keeps h h' (· = id) := by
  have hsz := own_size ho
  have hcd : compact d.toList = compactUpTo d n := by unfold compact; simp [hsz]
  intro g
  induction g with
  | zero =>
    intro k m hk hm h1 hall
    obtain ⟨m, rfl⟩ : ∃ m', m = m' + 1 := ⟨m - 1, by omega⟩
    obtain rfl : k = n := by omega
    have e9 : compact d.toList = d.toList := by rw [hcd, compactUpTo_all d _ hall, ← hsz, range_map_get]
    rw [l_slices_Compact_s_int_int_0_eq, len_mk, bif_neg (by omega)]
    simp only [Option.bind_some, k_slices_Compact_s_int_int_0_x0]
    refine ⟨h, k, c, rfl, ?_, by rw [e9]; simpa using hsz.symm, Keeps.refl _ _⟩
    rw [e9]
    exact ho.cells c
  | succ g ih =>
    intro k m hk hm h1 hall
    obtain ⟨m, rfl⟩ : ∃ m', m = m' + 1 := ⟨m - 1, by omega⟩
    rw [l_slices_Compact_s_int_int_0_eq, len_mk, bif_pos (by omega), rdK ho (by omega), predI (by omega) (by omega), rdK ho (by omega)]
    by_cases he : d[k]! = d[k - 1]!
    · rw [bif_pos he, aHi_none, Option.bind_some, aLo_some (by omega) (by omega), Option.bind_some, aMx_none, Option.bind_some, ho.hasSz c, cond_true, Int.toNat_natCast]
      have ec : Sl.cut (.mk ⟨id, gen, 0⟩ n c) 1 k n false = .mk ⟨id, gen, k⟩ (n - k) c := by simp [Sl.cut]
      rw [ec]
      have hC := CompInv.start hall (keeps_neg (by omega) he)
      obtain ⟨h2, dk, k2, q1, o2, q3, kk2⟩ := cmp_loop1 (c := c) (fuel := fuel) e hn h1 (by omega) d (n - (k + 1)) k fuel (k + 1) d h (by omega) (by omega) ho hC (by omega)
      rw [show k + 1 - k = 1 by omega] at q1
      rw [show ((1 : Nat) : Int) = 1 from rfl] at q1
      rw [q1]
      simp only [Option.bind_some, k_slices_Compact_s_int_int_1_x2]
      have hlt := q3.lt
      rw [len_mk, aHi_none, Option.bind_some, aLo_some (by omega) (by omega), Option.bind_some, aMx_none, Option.bind_some, o2.hasSz c, cond_true, Int.toNat_natCast]
      have ec2 : Sl.cut (.mk ⟨id, gen, 0⟩ n c) 1 k2 n false = .mk ⟨id, gen, k2⟩ (n - k2) c := by simp [Sl.cut]
      obtain ⟨h3, e3, o3, k3, _⟩ := o2.clear (off := k2) (k := n - k2) (c := c) (.int .i64 0) (by omega)
      rw [ec2, e3, Option.bind_some, aHi_some (by omega) (by omega), Option.bind_some, aLo_none, Option.bind_some, aMx_none, Option.bind_some, o3.hasSz c, cond_true, Int.toNat_natCast]
      simp only [Option.bind_some, k_slices_Compact_s_int_int_0_r]
      have ec3 : Sl.cut (.mk ⟨id, gen, 0⟩ n c) 1 0 k2 false = .mk ⟨id, gen, 0⟩ k2 (c && Nat.beq k2 n) := by simp [Sl.cut]
      rw [ec3]
      have hl : (compact d.toList).length = k2 := by rw [hcd]; exact q3.len
      refine ⟨h3, k2, _, rfl, ?_, hl.symm, kk2.trans k3⟩
      rw [o3.cellsFrom (off := 0) (k := k2) (by omega), List.drop_zero, List.take_append_of_le_length (by simp; have := o2.len; simp at this; omega), List.take_append_of_le_length (by simp; have := o2.len; simp at this; omega), List.take_take, Nat.min_self]
      congr 1
      rw [← List.map_take, hcd]
      congr 1
      apply List.ext_getElem?
      intro j
      rw [List.getElem?_take]
      by_cases hj : j < k2
      · have hj2 : j < dk.size := by have := q3.size; omega
        rw [if_pos hj, q3.low j hj, Array.getElem?_toList, Array.getElem?_eq_getElem hj2, getElem!_pos dk j hj2]
      · rw [if_neg hj, List.getElem?_eq_none (by rw [q3.len]; omega)]
    · rw [bif_neg he, sucI (by omega)]
      exact ih (k + 1) m (by omega) (by omega) (by omega) fun j hj => by
        by_cases e : j = k
        · subst e; exact keeps_pos he
        · exact hall j (by omega)

open Go.Lib in
theorem compact_run (e : Nat) (hn : n < 1000000000) (hf : n < fuel) (ho : Own h 1 id gen n (intsC d.toList)) :
    ∃ (h' : AHeap) (k' : Nat) (c' : Bool), run fuel (e + 1) F_slices_Compact_s_int_int [.slice (.mk ⟨id, gen, 0⟩ n c)] h = some (.slice (.mk ⟨id, gen, 0⟩ k' c'), h') ∧
      h'.sliceCells 1 (.mk ⟨id, gen, 0⟩ k' c') = some (intsC (compact d.toList)) ∧ k' = (compact d.toList).length ∧ Keeps h h' (· = id) := by
  have hsz := own_size ho
  rw [e_slices_Compact_s_int_int, len_mk]
  by_cases h2 : n < 2
  · have hcd : compact d.toList = compactUpTo d n := by unfold compact; simp [hsz]
    have e9 : compact d.toList = d.toList := by rw [hcd, compactUpTo_all d _ (fun j hj => keeps_lt_one' d j (by omega)), ← hsz, range_map_get]
    rw [bif_pos (by omega)]
    refine ⟨h, n, c, rfl, ?_, by rw [e9]; simpa using hsz.symm, Keeps.refl _ _⟩
    rw [e9]
    exact ho.cells c
  · rw [bif_neg (by omega)]
    exact cmp_loop0 (c := c) e hn hf ho (n - 1) 1 fuel (by omega) (by omega) (by omega) (keeps_lt_one d)
where keeps_lt_one' (d : Array Int) (j : Nat) (h : j < 1) : Go.Lib.keeps d j = true := Go.Lib.keeps_lt_one d j h

/-! slices.Clip -/
/-! slices.Clone -/
theorem append_end {sz bytes n m : Nat} {cs xs : List AVal} (hc : cs.length = n * sz) (hm : m ≠ 0) (hb : (n + m) * bytes ≤ 140737488355328) (hb' : n + m ≤ 140737488355328) :
    h.append false sz bytes (.lst n true cs) m xs = some (.mk ⟨h.next, 0, 0⟩ (n + m) false, h.push sz (cs ++ xs)) := append_lst hc hm hb hb'
/-! lits.order -/
theorem Var_run' (fuel : Nat) {e : Nat} (he : 1 ≤ e) (l : Int) (h : AHeap) : run fuel e F_lits_Var [.int .i64 l] h = some (.int .i64 (varI l), h) := by
  obtain ⟨e, rfl⟩ : ∃ e', e = e' + 1 := ⟨e - 1, by omega⟩
  exact Var_run fuel e l h
theorem nan_run (e : Nat) (x : Int) (h : AHeap) : run fuel (e + 1) F_cmp_isNaN_int [.int .i64 x] h = some (.bool false, h) :=
  pure_of rfl rfl (cc1 rfl) (by rw [e_cmp_isNaN_int]) (by simp [freezeV, AVal.closed])
theorem compare_run (e : Nat) (x y : Int) (h : AHeap) : run fuel (e + 2) F_cmp_Compare_int [.int .i64 x, .int .i64 y] h = some (.int .i64 (cmpI x y), h) := by
  refine pure_of rfl rfl (cc2 rfl rfl) (r := .int .i64 (cmpI x y)) (h' := AHeap.none) ?_ rfl
  rw [e_cmp_Compare_int, nan_run]
  simp only [Option.bind_some, bool_bool, nan_run, cond_false]
  unfold cmpI
  cases decide (x < y) <;> cases decide (y < x) <;> rfl
theorem or_run (e : Nat) (hf : 3 < fuel) (x y : Int) (h : AHeap) : run fuel (e + 1) F_cmp_Or_int [.slice (.lst 2 true [.int .i64 x, .int .i64 y])] h = some (.int .i64 (bif decide (x = 0) then y else x), h) := by
  refine pure_of rfl rfl (cc1 (canon_lst (n := 7) rfl)) (r := .int .i64 (bif decide (x = 0) then y else x)) (h' := AHeap.none) ?_ rfl
  obtain ⟨m, rfl⟩ : ∃ m, fuel = m + 3 := ⟨fuel - 3, by omega⟩
  have a0 : ∀ h : AHeap, h.addr 1 (.lst 2 false [.int .i64 x, .int .i64 y]) 0 = some (.fp 0 [.int .i64 x]) := fun h => rfl
  have a1 : ∀ h : AHeap, h.addr 1 (.lst 2 false [.int .i64 x, .int .i64 y]) 1 = some (.fp 0 [.int .i64 y]) := fun h => rfl
  rw [e_cmp_Or_int, l_cmp_Or_int_0_eq, len_lst, bif_pos (by omega), a0, Option.bind_some, cell_fp, Option.bind_some, int_int, Option.bind_some]
  by_cases hx : x = 0
  · rw [bif_npos hx, bif_pos hx, wrap64 (by omega) (by omega), show (0 : Int) + 1 = 1 from rfl, l_cmp_Or_int_0_eq, bif_pos (by omega), a1, Option.bind_some, cell_fp, Option.bind_some, int_int, Option.bind_some]
    by_cases hy : y = 0
    · rw [bif_npos hy, wrap64 (by omega) (by omega), show (1 : Int) + 1 = 2 from rfl, l_cmp_Or_int_0_eq, bif_neg (by omega)]
      simp only [Option.bind_some, k_cmp_Or_int_0_x0, hy]
    · rw [bif_nneg hy]
      simp only [Option.bind_some, k_cmp_Or_int_0_r]
  · rw [bif_nneg hx, bif_neg hx]
    simp only [Option.bind_some, k_cmp_Or_int_0_r]
theorem order_run (e : Nat) (hf : 3 < fuel) (x y : Int) (h : AHeap) : run fuel (e + 3) F_lits_order [.int .i64 x, .int .i64 y] h = some (.int .i64 (ordL x y), h) := by
  refine pure_of rfl rfl (cc2 rfl rfl) (r := .int .i64 (ordL x y)) (h' := AHeap.none) ?_ rfl
  rw [e_lits_order, Var_run' fuel (by omega)]
  simp only [Option.bind_some, int_int, Var_run' fuel (show 1 ≤ e + 2 by omega), compare_run e]
  rw [or_run (e + 1) hf]
  simp only [Option.bind_some, int_int]
  rfl
theorem order_ok (hf : 3 < fuel) : CmpOk fuel F_lits_order [] ordL 3 := by
  intro e he x y h
  obtain ⟨e, rfl⟩ : ∃ e', e = e' + 3 := ⟨e - 3, by omega⟩
  exact order_run e hf x y h

/-! lits.Norm -/
theorem says_loop (e : Nat) {l : List Int} (hl : l.length < 1000000000) {h : AHeap} (he : 1 ≤ e) : ∀ (g k m : Nat), k + g = l.length → g < m → 1 ≤ k →
    ((l_lits_Norm_0 fuel e m [(4, .slice (lstI l)), (5, .int .i64 (k : Int))] h).bind fun p => k_lits_Norm_0 fuel e p.1 p.2.1 p.2.2) = some (.tup [.slice (lstI l), .bool (saysL (l.drop (k - 1)))], h) := by
  intro g
  induction g with
  | zero =>
    intro k m hk hm h1
    obtain ⟨m, rfl⟩ : ∃ m', m = m' + 1 := ⟨m - 1, by omega⟩
    rw [l_lits_Norm_0_eq, len_lst, bif_neg (by omega)]
    simp only [Option.bind_some, k_lits_Norm_0_x0]
    have : (l.drop (k - 1)).length = 1 := by simp; omega
    obtain ⟨x, hx⟩ := List.length_eq_one_iff.1 this
    rw [hx]
    rfl
  | succ g ih =>
    intro k m hk hm h1
    obtain ⟨m, rfl⟩ : ∃ m', m = m' + 1 := ⟨m - 1, by omega⟩
    rw [l_lits_Norm_0_eq, len_lst, bif_pos (by omega), addr_lstM _ (by omega) (by omega) 0, Option.bind_some, cell_fp, Option.bind_some, int_int, Option.bind_some, Var_run' fuel he]
    simp only [Option.bind_some, int_int]
    rw [predI (by omega) (by omega), addr_lstM _ (by omega) (by omega) 0]
    simp only [Option.bind_some, same_self, cell_fp, int_int, Var_run' fuel he, Int.toNat_natCast]
    have e1 : l.drop (k - 1) = l.getD (k - 1) 0 :: l.drop k := by
      have h2 : k - 1 < l.length := by omega
      rw [List.drop_eq_getElem_cons h2, show k - 1 + 1 = k by omega]
      simp [List.getD, h2]
    have e2 : l.drop k = l.getD k 0 :: l.drop (k + 1) := by
      have h2 : k < l.length := by omega
      rw [List.drop_eq_getElem_cons h2]
      simp [List.getD, h2]
    rw [e1, e2]
    unfold saysL
    by_cases hv : varI (l.getD k 0) = varI (l.getD (k - 1) 0)
    · rw [bif_pos hv, decide_eq_true hv]
      simp only [Option.bind_some, k_lits_Norm_0_r, Bool.not_true, Bool.false_and]
    · rw [bif_neg hv, decide_eq_false hv, sucI (by omega), ih (k + 1) m (by omega) (by omega) (by omega)]
      simp only [Nat.add_sub_cancel, e2, Bool.not_false, Bool.true_and]

open Go.Lib in
/-- sorted and without neighbours alike: in order, each once -/
theorem compact_norm {l : List Int} {d : Array Int} (hp : d.toList.Perm l) (hs : SortedIn (ltO ordL) 0 d.size d) : compact d.toList = normL l := by
  have hcd : compact d.toList = compactUpTo d d.size := by unfold compact; simp
  rw [ltO_ordL] at hs
  have key : ∀ m, m ≤ d.size → SortedL (compactUpTo d m) ∧ (∀ x, x ∈ compactUpTo d m ↔ ∃ j, j < m ∧ d[j]! = x) ∧ (0 < m → ∃ y, (compactUpTo d m).getLast? = some y ∧ y = d[m - 1]!) := by
    intro m
    induction m with
    | zero => intro _; exact ⟨by simp [compactUpTo, SortedL], fun x => by simp [compactUpTo], fun h => absurd h (by omega)⟩
    | succ m ih =>
      intro hm
      obtain ⟨i1, i2, i3⟩ := ih (by omega)
      rw [compactUpTo_succ]
      have hmem : ∀ x, x ∈ compactUpTo d m → x = d[m - 1]! ∨ ltL x d[m - 1]! = true := by
        intro x hx
        obtain ⟨j, hj, rfl⟩ := (i2 x).1 hx
        by_cases e : j = m - 1
        · left; rw [e]
        · have := hs j (m - 1) (by omega) (by omega) (by omega)
          cases hc : ltL d[j]! d[m - 1]! with
          | true => exact .inr rfl
          | false => exact .inl (ltL_tot hc this)
      by_cases hk : keeps d m = true
      · rw [if_pos hk]
        have hlast : ∀ x, x ∈ compactUpTo d m → ltL x d[m]! = true := by
          intro x hx
          have hm0 : 0 < m := by
            obtain ⟨j, hj, _⟩ := (i2 x).1 hx; omega
          have hne : d[m]! ≠ d[m - 1]! := by
            have : m = 0 ∨ d[m]! ≠ d[m - 1]! := by simpa [keeps] using hk
            rcases this with h | h
            · omega
            · exact h
          have h1 : ltL d[m - 1]! d[m]! = true := by
            have := hs (m - 1) m (by omega) (by omega) (by omega)
            cases hc : ltL d[m - 1]! d[m]! with
            | true => rfl
            | false => exact absurd (ltL_tot hc this).symm hne
          rcases hmem x hx with e | e
          · rw [e]; exact h1
          · exact ltL_trans e h1
        refine ⟨List.pairwise_append.2 ⟨i1, by simp, fun a ha b hb => ?_⟩, fun x => ?_, fun _ => ⟨d[m]!, by simp, by simp⟩⟩
        · simp at hb; subst hb; exact hlast a ha
        · rw [List.mem_append, i2]
          constructor
          · rintro (⟨j, h1, h2⟩ | h1)
            · exact ⟨j, by omega, h2⟩
            · simp at h1; exact ⟨m, by omega, h1.symm⟩
          · rintro ⟨j, h1, h2⟩
            by_cases e : j = m
            · subst e; right; simp [h2]
            · exact .inl ⟨j, by omega, h2⟩
      · rw [if_neg hk, List.append_nil]
        have hk' : ¬ (m = 0 ∨ d[m]! ≠ d[m - 1]!) := by simpa [keeps] using hk
        have hm0 : 0 < m := by omega
        have heq : d[m]! = d[m - 1]! := by
          by_cases e : d[m]! = d[m - 1]!
          · exact e
          · exact absurd (.inr e) hk'
        refine ⟨i1, fun x => ?_, fun _ => ?_⟩
        · rw [i2]
          constructor
          · rintro ⟨j, h1, h2⟩; exact ⟨j, by omega, h2⟩
          · rintro ⟨j, h1, h2⟩
            by_cases e : j = m
            · exact ⟨m - 1, by omega, by rw [← heq, ← e]; exact h2⟩
            · exact ⟨j, by omega, h2⟩
        · obtain ⟨y, h1, h2⟩ := i3 hm0
          exact ⟨y, h1, by rw [h2, ← heq, Nat.add_sub_cancel]⟩
  obtain ⟨k1, k2, _⟩ := key d.size (Nat.le_refl _)
  rw [hcd]
  refine sortedL_unique k1 (normL_sorted l) fun x => ?_
  rw [k2, mem_normL, ← hp.mem_iff]
  constructor
  · rintro ⟨j, h1, rfl⟩
    rw [getElem!_pos d j h1]
    exact Array.getElem_mem_toList h1
  · intro hx
    obtain ⟨j, hj, rfl⟩ := List.mem_iff_getElem.1 hx
    have hj2 : j < d.size := by simpa using hj
    exact ⟨j, hj2, by rw [getElem!_pos d j hj2]; simp⟩

end
end Go.Proofs.YtdmbfmgebgdfnaaDoor

namespace Go.Proofs.YtdmbfmgebgdfnaaDoor
open Go.RowKit Go.Sort

section
variable {fuel : Nat}

/-- slices.Clone of whatever slice -/
theorem clone_any (e : Nat) {l : List Int} (hl : l.length < 1000000000) {h : AHeap} {s : Sl} (hs : h.sliceCells 1 s = some (intsC l)) :
    ∃ s', (l = [] → ∃ h', run fuel (e + 1) F_slices_Clone_s_int_int [.slice s] h = some (.slice s', h') ∧ h' = h ∧ (s' = .nil ∨ s' = .lst 0 true [])) ∧
      (l ≠ [] → run fuel (e + 1) F_slices_Clone_s_int_int [.slice s] h = some (.slice (.mk ⟨h.next, 0, 0⟩ l.length false), h.push 1 (intsC l))) := by
  have hlen := sliceCells_len hs
  simp only [List.length_map, Nat.mul_one] at hlen
  by_cases h0 : l = []
  · subst h0
    have h0' : s.len = 0 := by simpa using hlen.symm
    cases s with
    | nil =>
      refine ⟨.nil, fun _ => ⟨h, ?_, rfl, .inl rfl⟩, fun h => absurd rfl h⟩
      rw [body_of rfl rfl fuel e h rfl, e_slices_Clone_s_int_int, nilTest_slice_nil]; rfl
    | mk r n c =>
      simp only [Sl.len] at h0'
      subst h0'
      refine ⟨.lst 0 true [], fun _ => ⟨h, ?_, rfl, .inr rfl⟩, fun h => absurd rfl h⟩
      rw [body_of rfl rfl fuel e h rfl, e_slices_Clone_s_int_int, nilTest_slice_mk]
      simp only [Option.bind_some, cond_false, hs, len_mk]
      rfl
    | lst n c cs =>
      simp only [Sl.len] at h0'
      subst h0'
      obtain ⟨rfl, _⟩ := lst_cells hs
      refine ⟨.lst 0 true [], fun _ => ⟨h, ?_, rfl, .inr rfl⟩, fun h => absurd rfl h⟩
      refine run_split rfl rfl rfl (v1 := .slice .nil) (v2 := .slice (.lst 0 true [])) ?_ ?_ rfl
      · rw [e_slices_Clone_s_int_int, nilTest_slice_nil]; rfl
      · rw [e_slices_Clone_s_int_int_e]; rfl
  · have hpos : 0 < l.length := List.length_pos_iff.2 h0
    refine ⟨.nil, fun h => absurd h h0, fun _ => ?_⟩
    have hn : nilTest .slice (.slice s) = some false := by
      cases s with
      | nil => simp only [Sl.len] at hlen; omega
      | mk r n c => rfl
      | lst n c cs =>
        simp only [Sl.len] at hlen
        simp only [nilTest, beq_eq, decide_eq_false (show ¬ n = 0 by omega), cond_false]
    have ho : oneEmpty [.slice s] = false := by
      cases s with
      | nil => rfl
      | mk r n c => rfl
      | lst n c cs =>
        simp only [Sl.len] at hlen
        simp only [oneEmpty, beq_eq, decide_eq_false (show ¬ n = 0 by omega), Bool.false_and]
    rw [body_of rfl rfl fuel e h (by rw [ho, Bool.and_false]), e_slices_Clone_s_int_int, hn]
    simp only [Option.bind_some, cond_false, hs]
    rw [← hlen, append_end (n := 0) (cs := []) rfl (by omega) (by omega) (by omega)]
    simp

theorem reach_mk (h : AHeap) (m : Nat) (r : Ref) (n : Nat) (c : Bool) : reachV h (m + 1) (.slice (.mk r n c)) = (bif Nat.beq n 0 then [] else
        match h.rows[r.id]? with
        | some row => r.id :: (match h.sliceCells row.sz (.mk r n false) with | some cs => cs.flatMap (reachV h m) | .none => [])
        | .none => []) := rfl
theorem reach_i64 (h : AHeap) (m : Nat) (k : IntKind) (x : Int) : reachV h (m + 1) (.int k x) = [] := rfl
theorem reach_ints {h : AHeap} {r : Ref} {n : Nat} {c : Bool} {l : List Int} (hs : h.sliceCells 1 (.mk r n c) = some (intsC l)) : ∀ i ∈ [AVal.slice (.mk r n c)].flatMap (reachV h 8), i = r.id := by
  intro i hi
  rw [List.flatMap_cons, List.flatMap_nil, List.append_nil, reach_mk] at hi
  by_cases hn : n = 0
  · subst hn
    cases hi
  · rw [nbeq_false.2 hn, cond_false] at hi
    obtain ⟨row, h1, h2, _⟩ := sliceCells_row hs hn
    have hs' : h.sliceCells row.sz (.mk r n false) = some (intsC l) := by rw [h2]; exact hs
    rw [h1] at hi
    simp only [hs', List.mem_cons] at hi
    rcases hi with hi | hi
    · exact hi
    · obtain ⟨c, hc, hi⟩ := List.mem_flatMap.1 hi
      obtain ⟨x, _, rfl⟩ := List.mem_map.1 hc
      rw [reach_i64] at hi
      cases hi

/-- .. and Clip of a row marks that row alone -/
theorem clip_row (e : Nat) {h : AHeap} {r : Ref} {n : Nat} {c : Bool} {l : List Int} (hs : h.sliceCells 1 (.mk r n c) = some (intsC l)) :
    ∃ h', run fuel (e + 1) F_slices_Clip_s_int_int [.slice (.mk r n c)] h = some (.slice (lstI l), h') ∧ Keeps h h' (· = r.id) := by
  refine ⟨_, run_fix rfl rfl (canonL_none (i := 0) rfl rfl) (mm1 (freeze_cells hs (freeze_intsC 6 _))) (r := .slice (.lst l.length true (intsC l))) (h' := AHeap.none) ?_ (freeze_lst 7 _ _ (closedL_map (fun _ => rfl) l)) rfl, (keeps_mark _).mono fun i _ hi => reach_ints hs i hi⟩
  have hlen := sliceCells_len hs
  simp only [List.length_map, Nat.mul_one, Sl.len] at hlen
  subst hlen
  rw [e_slices_Clip_s_int_int, len_lst, aHi_some (by omega) (by omega), Option.bind_some, aLo_none, Option.bind_some]
  have e1 : aMx (some (.int .i64 ((l.length : Nat) : Int))) (Int.toNat ((l.length : Nat) : Int)) = some true := by simp [aMx, abound]
  rw [e1, Option.bind_some, hasSz_lstM, cond_true, Int.toNat_natCast]
  simp [Sl.cut, List.take_of_length_le]
theorem clip_none (e : Nat) {h : AHeap} {s : Sl} (hs : s = .nil ∨ s = .lst 0 true []) : run fuel (e + 1) F_slices_Clip_s_int_int [.slice s] h = some (.slice (lstI []), h) := by
  have hb : brun fuel (e + 1) F_slices_Clip_s_int_int [.slice (.lst 0 false [])] AHeap.none = some (.slice (.lst 0 true []), AHeap.none) := by
    rw [e_slices_Clip_s_int_int]; rfl
  rcases hs with rfl | rfl
  · exact pure_of rfl rfl (cc1 (canon_nil 7)) hb rfl
  · exact pure_of rfl rfl (cc1 (canon_lst (n := 7) rfl)) hb rfl

theorem Norm_row {e : Nat} (he : 50 ≤ e) {l : List Int} (hl : l.length < 1000000000) (hf : l.length + 10 < fuel) {h : AHeap} {s : Sl} (hs : h.sliceCells 1 s = some (intsC l)) :
    ∃ h', run fuel e F_lits_Norm [.slice s] h = some (.tup [.slice (lstI (normL l)), .bool (saysL (normL l))], h') ∧ Keeps h h' fun _ => False := by
  obtain ⟨e, rfl⟩ : ∃ e', e = e' + 49 + 1 := ⟨e - 50, by omega⟩
  have hlen := normL_length l
  have fin : ∀ h, ((l_lits_Norm_0 fuel (e + 49) fuel [(4, .slice (lstI (normL l))), (5, .int .i64 1)] h).bind fun p => k_lits_Norm_0 fuel (e + 49) p.1 p.2.1 p.2.2) = some (.tup [.slice (lstI (normL l)), .bool (saysL (normL l))], h) := by
    intro h
    by_cases h0 : normL l = []
    · obtain ⟨m, hm⟩ : ∃ m, fuel = m + 1 := ⟨fuel - 1, by omega⟩
      rw [h0]
      have := l_lits_Norm_0_eq fuel (e + 49) m (lstI []) 1 h
      rw [← hm] at this
      rw [this, len_lst, bif_neg (by simp)]
      simp only [Option.bind_some, k_lits_Norm_0_x0]
      rfl
    · have hpos : 0 < (normL l).length := List.length_pos_iff.2 h0
      have := says_loop (fuel := fuel) (e + 49) (l := normL l) (h := h) (by omega) (by omega) ((normL l).length - 1) 1 fuel (by omega) (by omega) (by omega)
      simpa using this
  rw [e_lits_Norm]
  obtain ⟨s', a1, a2⟩ := clone_any (fuel := fuel) (e + 48) hl hs
  by_cases h0 : l = []
  · obtain ⟨h', e1, rfl, hs'⟩ := a1 h0
    subst h0
    rw [e1]
    simp only [Option.bind_some, slice_slice]
    have hsl : s'.len = 0 := by rcases hs' with rfl | rfl <;> rfl
    have hso : run fuel (e + 49) F_slices_SortFunc_s_int_int [.slice s', .func F_lits_order []] h' = some (.tup [], h') := by
      rw [e_slices_SortFunc_s_int_int, hsl, wrap_u64 (by omega) (by omega), len_run fuel (e + 46) (by omega)]
      simp only [Option.bind_some, int_int]
      obtain ⟨m, hm⟩ : ∃ m, fuel = m + 1 := ⟨fuel - 1, by omega⟩
      rw [e_slices_pdqsortCmpFunc_int]
      have hp := l_slices_pdqsortCmpFunc_int_0_eq fuel (e + 47) m s' 0 ((0 : Nat) : Int) ((bitsLen 0 : Nat) : Int) F_lits_order [] true true h'
      rw [← hm] at hp
      have hi := l_slices_insertionSortCmpFunc_int_0_eq fuel (e + 46) m s' 0 ((0 : Nat) : Int) F_lits_order [] (IntKind.wrap .i64 (0 + 1)) h'
      rw [← hm] at hi
      rw [hp, wrap64 (n := ((0 : Nat) : Int) - 0) (by omega) (by omega), bif_pos (by omega), e_slices_insertionSortCmpFunc_int, hi, wrap64 (by omega) (by omega), bif_neg (by omega)]
      simp only [Option.bind_some, k_slices_insertionSortCmpFunc_int_0_x0, k_slices_pdqsortCmpFunc_int_0_r]
    have hc : run fuel (e + 49) F_slices_Compact_s_int_int [.slice s'] h' = some (.slice s', h') := by
      rw [e_slices_Compact_s_int_int, hsl, bif_pos (by omega)]
    simp only [hso, hc, Option.bind_some, slice_slice, clip_none (fuel := fuel) (e + 48) (h := h') hs']
    exact ⟨_, fin _, Keeps.refl _ _⟩
  · rw [a2 h0]
    simp only [Option.bind_some, slice_slice]
    have o0 : Own (h.push 1 (intsC l)) 1 h.next 0 l.length (intsC (l.toArray).toList) := Own.of_push 1 _ _ (by simp)
    obtain ⟨h1, d1, e1, p1, s1, o1, k1⟩ := sortFunc_run (c := false) (f := F_lits_order) (cps := []) (ord := ordL) (D := 3) (fuel := fuel) (by rw [ltO_ordL]; exact swo_ltL) (order_ok (by omega)) hl (by omega) (e := e + 49) (by omega) o0
    obtain ⟨h2, k2, c2, e2, q2, q3, q4⟩ := compact_run (c := false) (fuel := fuel) (e + 48) hl (by omega) o1
    have hn := compact_norm (l := l) (d := d1) (by simpa using p1) (by rw [own_size o1]; exact s1)
    rw [hn] at q2 q3
    subst q3
    obtain ⟨h3, hcl, k3⟩ := clip_row (fuel := fuel) (e + 48) q2
    rw [e1]
    simp only [Option.bind_some, e2, slice_slice, hcl]
    refine ⟨h3, fin _, keeps_new (Keeps.push _ _ _ _) ((k1.trans q4).trans k3) fun i hi => ?_⟩
    have : i = h.next := hi
    rw [this, next_len]; exact Nat.le_refl _
end
end Go.Proofs.YtdmbfmgebgdfnaaDoor

namespace Go.Proofs.YtdmbfmgebgdfnaaDoor
open Go.RowKit

theorem canonL_none2 {a b : AVal} (hb : canonV 8 b = none) : canonL [a, b] = none := by
  unfold canonL
  rw [List.mapM_cons, List.mapM_cons, hb]
  cases canonV 8 a <;> rfl
theorem mapM_none2 {f : AVal → Option AVal} {a b : AVal} (hb : f b = none) : [a, b].mapM f = none := by
  rw [List.mapM_cons, List.mapM_cons, hb]
  cases f a <;> rfl
def idxF (p : Int → Bool) : List Int → Nat → Int
  | [], _ => -1
  | x :: l, k => if p x = true then (k : Int) else idxF p l (k + 1)
theorem idxF_any (p : Int → Bool) : ∀ (l : List Int) (k : Nat), decide ((0 : Int) ≤ idxF p l k) = l.any p
  | [], k => rfl
  | x :: l, k => by
    unfold idxF
    rw [List.any_cons]
    cases hp : p x with
    | true => simp
    | false => simp only [Bool.false_eq_true, if_false, Bool.false_or]; exact idxF_any p l (k + 1)
theorem idx_loop (fuel d : Nat) {c : List Int} {s : Sl} {f : Nat} {caps : List Pt} {p : Int → Bool} {h : AHeap} (hs : h.sliceCells 1 s = some (intsC c)) (hc : c.length < 1000000000) (hp : ∀ x ∈ c, run fuel d f ([.int .i64 x] ++ List.map .ptr caps) h = some (.bool (p x), h)) : ∀ (n k : Nat), c.length < n + k → k ≤ c.length →
    (l_slices_IndexFunc_s_int_int_0 fuel d n [(0, .slice s), (1, .func f caps), (7, .int .i64 (c.length : Int)), (8, .int .i64 (k : Int))] h).bind (fun q => k_slices_IndexFunc_s_int_int_0 fuel d q.1 q.2.1 q.2.2) = some (.int .i64 (idxF p (c.drop k) k), h) := by
  intro n
  induction n with
  | zero => intro k h1 h2; omega
  | succ n ih =>
    intro k h1 h2
    rw [l_slices_IndexFunc_s_int_int_0_eq]
    by_cases hk : k < c.length
    · have hm : c.getD k 0 ∈ c := by rw [List.getD_eq_getElem?_getD, List.getElem?_eq_getElem hk]; exact List.getElem_mem hk
      rw [bif_pos (by omega), read1 hs (by omega) (v := .int .i64 (c.getD k 0)) (by simp [hk]), drop_get hk 0]
      simp only [Option.bind_some, int_int, hp _ hm, bool_bool, idxF]
      cases hq : p (c.getD k 0) with
      | true => simp only [cond_true, Option.bind_some, k_slices_IndexFunc_s_int_int_0_r, if_true]
      | false =>
        simp only [cond_false, Bool.false_eq_true, if_false]
        rw [succI (by omega), ih (k + 1) (by omega) (by omega)]
    · have : k = c.length := by omega
      subst this
      rw [bif_neg (by omega)]
      simp [k_slices_IndexFunc_s_int_int_0_x0, idxF]
theorem if_run (fuel d : Nat) {c : List Int} {s : Sl} {f : Nat} {r : Ref} {lim : Nat} {p : Int → Bool} {h : AHeap} (hs : h.sliceCells 1 s = some (intsC c)) (hc : c.length < 1000000000) (hf : c.length < fuel) (hp : ∀ x ∈ c, run fuel d f [.int .i64 x, .ptr (.mk r lim)] h = some (.bool (p x), h)) :
    run fuel (d + 1) F_slices_IndexFunc_s_int_int [.slice s, .func f [.mk r lim]] h = some (.int .i64 (idxF p c 0), h) := by
  have hlen := sliceCells_len hs
  simp only [List.length_map, Nat.mul_one] at hlen
  rw [run_body rfl (canonL_none2 rfl) (mapM_none2 rfl), e_slices_IndexFunc_s_int_int, ← hlen]
  have := idx_loop fuel d (c := c) (f := f) (caps := [.mk r lim]) (p := p) (h := h) hs hc hp fuel 0 (by omega) (by omega)
  rw [List.drop_zero] at this
  exact this
/-- .. one that has a row of the heap -/
theorem cf_run (fuel d : Nat) {c : List Int} {s : Sl} {f : Nat} {r : Ref} {lim : Nat} {p : Int → Bool} {h : AHeap} (hs : h.sliceCells 1 s = some (intsC c)) (hc : c.length < 1000000000) (hf : c.length < fuel) (hp : ∀ x ∈ c, run fuel d f [.int .i64 x, .ptr (.mk r lim)] h = some (.bool (p x), h)) :
    run fuel (d + 2) F_slices_ContainsFunc_s_int_int [.slice s, .func f [.mk r lim]] h = some (.bool (c.any p), h) := by
  rw [run_body rfl (canonL_none2 rfl) (mapM_none2 rfl), e_slices_ContainsFunc_s_int_int, if_run fuel d hs hc hf hp]
  simp only [Option.bind_some, int_int, idxF_any]
end Go.Proofs.YtdmbfmgebgdfnaaDoor

namespace Go.Proofs.YtdmbfmgebgdfnaaDoor
open Go.RowKit

def optC (o : Option (List Int)) : AVal := match o with
  | some l => .slice (lstI l)
  | none => .slice .nil
abbrev clC (cl : BaseL) : List AVal := cl.map optC
abbrev thC (cl : BaseL) : List AVal := cl.map fun o => .bool o.isSome
/-- where a base lies -/
structure Bs where
  B : Nat
  m : Nat
  cS : Sl
  tS : Sl
  sS : Sl
  ks : List Key
abbrev idsI (p : List Int → Bool) (cl : BaseL) : List Int := (idsP p cl).map Int.ofNat
def smallP (l : List Int) : Bool := decide (l.length < 2)
def hasP (x : Int) (l : List Int) : Bool := decide (x ∈ l)
abbrev bObj (b : Bs) (n : Nat) (cl : BaseL) : Chunk := .own 1 b.B 0 6 [.int .i64 (n : Int), .slice b.cS, .slice b.tS, .map (some b.m), .slice b.sS, .int .i64 ((thereB cl).length : Int)]
abbrev b5 (lo : Nat) (b : Bs) (n : Nat) (cl : BaseL) (R : List Chunk) : List Chunk :=
  bObj b n cl :: .part 1 b.cS (clC cl) :: .part 1 b.tS (thC cl) :: .part 1 b.sS (intsC (idsI smallP cl)) :: .mp lo b.m (esK b.ks) :: R
/-- what holds of a base -/
structure BOk (b : Bs) (n : Nat) (cl : BaseL) : Prop where
  keys : ∀ x, lisK x b.ks = idsI (hasP x) cl
  norm : ∀ l, some l ∈ cl → normL l = l ∧ ∀ x ∈ l, isLit x n = true
  len : cl.length < 1000000
  vars : n ≤ 4000
  lens : ∀ l, some l ∈ cl → l.length < 100000
abbrev bP (b : Bs) : Pt := .mk ⟨b.B, 0, 0⟩ 6

theorem atB_mem {cl : BaseL} {i : Nat} {l : List Int} (h : atB cl i = some l) : some l ∈ cl ∧ i < cl.length := by
  unfold atB at h
  rw [List.getD_eq_getElem?_getD] at h
  by_cases hi : i < cl.length
  · rw [List.getElem?_eq_getElem hi] at h
    exact ⟨h ▸ List.getElem_mem hi, hi⟩
  · rw [List.getElem?_eq_none (by omega)] at h
    cases h
theorem atB_get {cl : BaseL} {i : Nat} {l : List Int} (h : atB cl i = some l) : cl[i]? = some (some l) := by
  obtain ⟨_, hi⟩ := atB_mem h
  unfold atB at h
  rw [List.getD_eq_getElem?_getD, List.getElem?_eq_getElem hi] at h
  rw [List.getElem?_eq_getElem hi]
  exact congrArg some h
/-- the clauses at places -/
def byC (cl : BaseL) (ids : List Nat) : List (List Int) := ids.map fun i => (atB cl i).getD []
abbrev litsOk (n : Nat) (c : List Int) : Bool := c.all fun l => isLit l n

/-! right -/
theorem cell_push {h : AHeap} (v : AVal) : (h.push 1 [v]).cell (.mk ⟨h.next, 0, 0⟩ 1) = some v := by
  have := (Sep0.start h).push 1 1 (cs := [v]) rfl
  exact this.part (i := 0) rfl (by omega) rfl
theorem right1_run (fuel d : Nat) {h0 h : AHeap} {L : List Chunk} (hs : Sep0 h0 h L) {i r B n : Nat} {cs : List AVal} (hi : L[i]? = some (.own 1 B 0 6 (.int .i64 (n : Int) :: cs))) (hn : n ≤ 4000) (hr : h.cell (.mk ⟨r, 0, 0⟩ 1) = some (.ptr (.mk ⟨B, 0, 0⟩ 6))) (x : Int) :
    run fuel (d + 2) F_rup_Base_right_1 [.int .i64 x, .ptr (.mk ⟨r, 0, 0⟩ 1)] h = some (.bool (!isLit x n), h) := by
  have c0 : h.cell (.mk ⟨B, 0, 0 + 0⟩ 6) = some (.int .i64 (n : Int)) := hs.part hi (by omega) rfl
  rw [e_rup_Base_right_1]
  simp only [hr, Option.bind_some, ptr_ptr, chk_mk, field_mk, c0, int_int, Is_run, bool_bool]
  rw [isI_lit2 (by omega) (by omega)]
theorem right_run (fuel d : Nat) {h0 h : AHeap} {L : List Chunk} (hs : Sep0 h0 h L) {i B n : Nat} {cs : List AVal} (hi : L[i]? = some (.own 1 B 0 6 (.int .i64 (n : Int) :: cs))) (hn : n ≤ 4000) {s : Sl} {c : List Int} (hc : h.sliceCells 1 s = some (intsC c)) (hcl : c.length < 1000000000) (hf : c.length < fuel) :
    ∃ h', run fuel (d + 5) F_rup_Base_right [.ptr (.mk ⟨B, 0, 0⟩ 6), .slice s] h = some (.bool (litsOk n c), h') ∧ Sep0 h0 h' L ∧ Keeps h h' fun _ => False := by
  rw [e_rup_Base_right]
  have hc' : (h.push 1 [.ptr (.mk ⟨B, 0, 0⟩ 6)]).sliceCells 1 s = some (intsC c) := sliceCells_ext (Keeps.push _ _ _ _) hc
  have s1 := hs.junk (cs := [.ptr (.mk ⟨B, 0, 0⟩ 6)])
  rw [cf_run fuel (d + 2) (p := fun x => !isLit x n) hc' hcl hf fun x _ => right1_run fuel d s1 hi hn (cell_push _) x]
  simp only [Option.bind_some, bool_bool]
  refine ⟨_, ?_, s1, Keeps.push _ _ _ _⟩
  have : (!c.any fun x => !isLit x n) = litsOk n c := by
    unfold litsOk
    induction c with
    | nil => rfl
    | cons a c ih =>
      rw [List.any_cons, List.all_cons, Bool.not_or]
      rw [List.any_eq_not_all_not, Bool.not_not]
      simp
  rw [this]

/-! what the search sets -/
structure Ch where
  A : Nat
  V : Nat
  a : Nat
  q : Nat
  s : Nat
  b : Nat
abbrev cP (r : Nat) : Pt := .mk ⟨r, 0, 0⟩ 1
abbrev cloL (k : Ch) (bp : Pt) (v : List Int) (Q : Sl) (ql : List Int) (R : List Chunk) : List Chunk :=
  aV k.V v :: aO k.A k.V v :: .own 1 k.a 0 1 [.ptr (cP k.A)] :: .own 1 k.q 0 1 [.slice Q] :: .part 1 Q (intsC ql) :: .own 1 k.s 0 1 [.func F_rup_Base_closure_1 [cP k.a, cP k.q]] :: .own 1 k.b 0 1 [.ptr bp] :: R
theorem cloL_R {h0 h : AHeap} {k : Ch} {bp : Pt} {v : List Int} {Q : Sl} {ql : List Int} {R : List Chunk} (hs : Sep0 h0 h (cloL k bp v Q ql R)) : Sep0 h0 h R :=
  hs.sub (((List.Sublist.refl R).cons _ |>.cons _ |>.cons _ |>.cons _ |>.cons _ |>.cons _ |>.cons _))

/-- values that are right, and how much is left to do -/
structure VOk (n : Nat) (s : St) : Prop where
  len : s.1.length = n + 1
  val : ∀ x ∈ s.1, x = 0 ∨ x = 1 ∨ x = 2
  cnt : s.2.length + s.1.count 0 ≤ n + 1
  que : ∀ l ∈ s.2, isLit l n = true
theorem setV_VOk {n : Nat} {s t : St} (h : VOk n s) {l : Int} (e : setV s l = some t) : VOk n t ∧ t.2.length + t.1.count 0 = s.2.length + s.1.count 0 := by
  obtain ⟨v, q⟩ := s
  obtain ⟨h1, h2, h3, h4⟩ := h
  simp only at h1 h2 h3 h4
  unfold setV at e
  by_cases e1 : valOf v l = 1
  · rw [if_pos e1] at e
    cases e
    exact ⟨⟨h1, h2, h3, h4⟩, rfl⟩
  · rw [if_neg e1] at e
    by_cases hc : canSet v l = true
    · rw [if_pos hc] at e
      cases e
      obtain ⟨hi, h2'⟩ := canSet_iff.1 hc
      have h0 : valOf v l = 0 := by
        rcases valOf_cases h2 l with e | e | e
        · exact e
        · exact absurd e e1
        · exact absurd e h2'
      have hz := unknown_zero h2 hi h0
      have hl'' := isLit_spec.1 hi
      have hlt : (absI l).toNat < v.length := by unfold absI; split <;> omega
      have hget : v[(absI l).toNat] = 0 := by rw [List.getD_eq_getElem?_getD, List.getElem?_eq_getElem hlt] at hz; exact hz
      have hso : setOf v l = v.set (absI l).toNat (if 0 < l then 1 else 2) := by unfold setOf; rw [if_pos hc]
      have hpos : 0 < v.count 0 := List.count_pos_iff.2 (hget ▸ List.getElem_mem hlt)
      have hne : ((if 0 < l then (1 : Int) else 2) == 0) = false := by split <;> rfl
      have hcnt : (setOf v l).count 0 = v.count 0 - 1 := by
        rw [hso, List.count_set hlt, hget, hne]
        simp
      refine ⟨⟨by simp only [setOf_len]; exact h1, setOf_ok h2 l, ?_, fun m hm => ?_⟩, ?_⟩
      · simp only [List.length_append, List.length_singleton, hcnt]; omega
      · rcases List.mem_append.1 hm with hm | hm
        · exact h4 m hm
        · rw [List.mem_singleton.1 hm]
          have : (v.length : Int) - 1 = n := by omega
          rw [← this]; exact hi
      · simp only [List.length_append, List.length_singleton, hcnt]; omega
    · rw [if_neg hc] at e
      cases e
theorem lookV_VOk {n : Nat} {s t : St} (h : VOk n s) {c : List Int} (e : lookV s c = some t) : VOk n t ∧ t.2.length + t.1.count 0 = s.2.length + s.1.count 0 := by
  unfold lookV at e
  split at e
  · cases e
  · split at e
    · cases e; exact ⟨h, rfl⟩
    · exact setV_VOk h e
theorem allV_VOk {α : Type} {f : St → α → Option St} {n : Nat} (hf : ∀ {s t : St} {a : α}, VOk n s → f s a = some t → VOk n t ∧ t.2.length + t.1.count 0 = s.2.length + s.1.count 0) : ∀ {L : List α} {s t : St}, VOk n s → allV f s L = some t → VOk n t ∧ t.2.length + t.1.count 0 = s.2.length + s.1.count 0
  | [], s, t, h, e => by cases e; exact ⟨h, rfl⟩
  | a :: L, s, t, h, e => by
    simp only [allV] at e
    cases hs : f s a with
    | none => rw [hs] at e; cases e
    | some s' =>
      rw [hs] at e
      obtain ⟨h1, h2⟩ := hf h hs
      obtain ⟨h3, h4⟩ := allV_VOk hf h1 e
      exact ⟨h3, by omega⟩

section
variable {h0 h : AHeap} {k : Ch} {bp : Pt} {v : List Int} {Q : Sl} {ql : List Int} {R : List Chunk} {n : Nat}
theorem cset_run (fuel d : Nat) (hs : Sep0 h0 h (cloL k bp v Q ql R)) (hV : VOk n (v, ql)) (hn : n ≤ 4000) {l : Int} (hl : -9223372036854775807 ≤ l ∧ l ≤ 9223372036854775807) : match setV (v, ql) l with
    | none => ∃ h', run fuel (d + 4) F_rup_Base_closure_1 [.int .i64 l, .ptr (cP k.a), .ptr (cP k.q)] h = some (.bool false, h') ∧ Sep0 h0 h' R
    | some t => ∃ Q' h', run fuel (d + 4) F_rup_Base_closure_1 [.int .i64 l, .ptr (cP k.a), .ptr (cP k.q)] h = some (.bool true, h') ∧ Sep0 h0 h' (cloL k bp t.1 Q' t.2 R) := by
  have hlen := hV.len
  have hv := hV.val
  have hcnt := hV.cnt
  simp only at hlen hv hcnt
  have c0 : h.cell (.mk ⟨k.a, 0, 0⟩ 1) = some (.ptr (cP k.A)) := hs.part (i := 2) rfl (by omega) rfl
  have c1 : h.cell (.mk ⟨k.q, 0, 0⟩ 1) = some (.slice Q) := hs.part (i := 3) rfl (by omega) rfl
  have hql := hs.lenP (i := 4) rfl
  simp only [List.length_map, Nat.mul_one] at hql
  rw [e_rup_Base_closure_1]
  simp only [Option.bind_some, c0, ptr_ptr]
  rw [value_run fuel (d + 1) hs (i := 1) (j := 0) rfl rfl hv (by omega) hl]
  simp only [Option.bind_some, int_int]
  unfold setV
  by_cases h1 : valOf v l = 1
  · rw [if_pos h1, bif_pos h1]
    exact ⟨Q, h, rfl, hs⟩
  · rw [if_neg h1, bif_neg h1]
    obtain ⟨Q', h7, e1, s1, _⟩ := hs.growP (i := 4) (bytes := 8) (m := 1) (vs := [.int .i64 l]) rfl rfl (by omega) (by omega)
    obtain ⟨h8, e2, s2⟩ := s1.put (i := 3) (o := 0) (l := 1) (vs := [.slice Q']) rfl (by simp) (by simp)
    have s3 : Sep0 h0 h8 (cloL k bp v Q' (ql ++ [l]) R) := by
      have : intsC (ql ++ [l]) = intsC ql ++ [.int .i64 l] := intsC_app _ _
      unfold cloL
      rw [this]
      exact s2
    have c2 : h8.cell (.mk ⟨k.a, 0, 0⟩ 1) = some (.ptr (cP k.A)) := s3.part (i := 2) rfl (by omega) rfl
    obtain ⟨h9, e3, s4⟩ := set_run fuel d s3 (i := 1) (j := 0) rfl rfl hv (by omega) hl
    simp only [c1, Option.bind_some, slice_slice, e1, e2, c2, ptr_ptr, e3, bool_bool]
    cases hc : canSet v l with
    | true =>
      rw [if_pos rfl]
      refine ⟨Q', h9, rfl, ?_⟩
      have s5 : Sep0 h0 h9 (.own 1 k.V 0 v.length (i8C (setOf v l)) :: aO k.A k.V v :: .own 1 k.a 0 1 [.ptr (cP k.A)] :: .own 1 k.q 0 1 [.slice Q'] :: .part 1 Q' (intsC (ql ++ [l])) :: .own 1 k.s 0 1 [.func F_rup_Base_closure_1 [cP k.a, cP k.q]] :: .own 1 k.b 0 1 [.ptr bp] :: R) := s4
      have el : v.length = (setOf v l).length := (setOf_len v l).symm
      have ea : aSl k.V v = aSl k.V (setOf v l) := by unfold aSl; rw [← el]
      unfold aO at s5
      rw [ea, el] at s5
      exact s5
    | false =>
      rw [if_neg (by simp)]
      exact ⟨h9, rfl, s4.sub (((List.Sublist.refl R).cons _ |>.cons _ |>.cons _ |>.cons _ |>.cons _ |>.cons _ |>.cons _))⟩
end
end Go.Proofs.YtdmbfmgebgdfnaaDoor

namespace Go.Proofs.YtdmbfmgebgdfnaaDoor
open Go.RowKit

/-- a base and what stands behind it -/
abbrev bR (lo : Nat) (b : Bs) (n : Nat) (cl : BaseL) (R : List Chunk) : List Chunk := b5 lo b n cl R
section
variable {h0 h : AHeap} {k : Ch} {b : Bs} {v : List Int} {Q : Sl} {ql : List Int} {R : List Chunk} {n : Nat} {cl : BaseL}
theorem lit_rng {n : Nat} (hn : n ≤ 4000) {l : Int} (h : isLit l n = true) : -9223372036854775807 ≤ l ∧ l ≤ 9223372036854775807 := by
  have := isLit_spec.1 h; omega
theorem spec_rng {v c : List Int} (hc : ∀ l ∈ c, -9223372036854775807 ≤ l ∧ l ≤ 9223372036854775807) : -9223372036854775807 ≤ (clauseSpec v c).2 ∧ (clauseSpec v c).2 ≤ 9223372036854775807 := by
  have : (clauseSpec v c).2 = 0 ∨ (clauseSpec v c).2 ∈ c := by
    unfold clauseSpec
    split
    · exact .inl rfl
    · split
      · exact .inl rfl
      · rename_i u r e
        simp only
        split
        · right
          have : u ∈ c.filter (fun l => decide (valOf v l = 0)) := by rw [e]; exact List.mem_cons_self ..
          exact (List.mem_filter.1 this).1
        · exact .inl rfl
  rcases this with h | h
  · rw [h]; omega
  · exact hc _ h
theorem clook_run (fuel d : Nat) (hs : Sep0 h0 h (cloL k (bP b) v Q ql (b5 h0.maps.length b n cl R))) (hb : BOk b n cl) (hf : 100000 < fuel) (hV : VOk n (v, ql)) {i : Nat} {c : List Int} (hi : atB cl i = some c) : match lookV (v, ql) c with
    | none => ∃ h', run fuel (d + 5) F_rup_Base_closure_2 [.int .i64 (i : Int), .ptr (cP k.a), .ptr (cP k.b), .ptr (cP k.s)] h = some (.bool false, h') ∧ Sep0 h0 h' (b5 h0.maps.length b n cl R)
    | some t => ∃ Q' h', run fuel (d + 5) F_rup_Base_closure_2 [.int .i64 (i : Int), .ptr (cP k.a), .ptr (cP k.b), .ptr (cP k.s)] h = some (.bool true, h') ∧ Sep0 h0 h' (cloL k (bP b) t.1 Q' t.2 (b5 h0.maps.length b n cl R)) := by
  have hlen := hV.len
  have hv := hV.val
  simp only at hlen hv
  have hn := hb.vars
  obtain ⟨hm, hil⟩ := atB_mem hi
  have hcl := hb.lens c hm
  have hlit : ∀ l ∈ c, -9223372036854775807 ≤ l ∧ l ≤ 9223372036854775807 := fun l hl => lit_rng hn ((hb.norm c hm).2 l hl)
  have c0 : h.cell (.mk ⟨k.a, 0, 0⟩ 1) = some (.ptr (cP k.A)) := hs.part (i := 2) rfl (by omega) rfl
  have c1 : h.cell (.mk ⟨k.b, 0, 0⟩ 1) = some (.ptr (bP b)) := hs.part (i := 6) rfl (by omega) rfl
  have c2 : h.cell (.mk ⟨b.B, 0, 0 + 1⟩ 6) = some (.slice b.cS) := hs.part (i := 7) rfl (by omega) rfl
  have c3 : h.cell (.mk ⟨k.s, 0, 0⟩ 1) = some (.func F_rup_Base_closure_1 [cP k.a, cP k.q]) := hs.part (i := 5) rfl (by omega) rfl
  have hcs := hs.cellsP (i := 8) rfl
  have hcell : (clC cl)[((i : Nat) : Int).toNat]? = some (.slice (lstI c)) := by
    rw [Int.toNat_natCast, List.getElem?_map, atB_get hi]; rfl
  have hclen := hs.lenP (i := 8) rfl
  simp only [List.length_map, Nat.mul_one] at hclen
  have a1 : h.addr 1 b.cS (i : Int) = some (b.cS.at 1 (i : Int)) := addr_at hcs (by omega) (by omega)
  have a2 : h.cell (b.cS.at 1 (i : Int)) = some (.slice (lstI c)) := cell_at hcs (by omega) hcell
  rw [e_rup_Base_closure_2]
  simp only [Option.bind_some, c0, c1, ptr_ptr, chk_mk, field_mk, c2, slice_slice, a1, a2]
  rw [aclause_run fuel (d + 1) hs (i := 1) (j := 0) rfl rfl hv (by omega) (cells_lstM _ _ _) (by omega) (by omega) hlit]
  simp only [Option.bind_some, tup2, cond_true, comp0, comp1, int_int]
  have hrng := spec_rng (v := v) hlit
  unfold lookV
  by_cases h2 : (clauseSpec v c).1 = 2
  · rw [if_pos h2, decide_eq_true h2]
    exact ⟨h, rfl, cloL_R hs⟩
  · rw [if_neg h2, decide_eq_false h2]
    by_cases h3 : (clauseSpec v c).2 = 0
    · rw [if_pos h3, decide_eq_true h3]
      exact ⟨Q, h, rfl, hs⟩
    · rw [if_neg h3, decide_eq_false h3]
      simp only [Bool.not_false, beq_self_eq_true, cond_true, c3, Option.bind_some, AVal.func?, List.map_cons, List.map_nil, List.cons_append, List.nil_append]
      have := cset_run fuel d hs hV hn hrng
      cases hst : setV (v, ql) (clauseSpec v c).2 with
      | none =>
        rw [hst] at this
        obtain ⟨h', e1, s1⟩ := this
        simp only [e1, Option.bind_some, bool_bool]
        exact ⟨h', rfl, s1⟩
      | some t =>
        rw [hst] at this
        obtain ⟨Q', h', e1, s1⟩ := this
        simp only [e1, Option.bind_some, bool_bool]
        exact ⟨Q', h', rfl, s1⟩

abbrev lkF (k : Ch) : AVal := .func F_rup_Base_closure_2 [cP k.a, cP k.b, cP k.s]
/-- a slice that stays as it is -/
def Stays (h0 : AHeap) (R : List Chunk) (s : Sl) (l : List Int) : Prop := ∀ h, Sep0 h0 h R → h.sliceCells 1 s = some (intsC l)
theorem start_loop (fuel d : Nat) (hn : n ≤ 4000) {s : Sl} {S : List Int} (hS : Stays h0 R s S) (hSl : S.length < 1000000000) (hr : ∀ l ∈ S, -9223372036854775807 ≤ l ∧ l ≤ 9223372036854775807) : ∀ (m j : Nat) (v : List Int) (Q : Sl) (ql : List Int) (h : AHeap), S.length < m + j → j ≤ S.length → Sep0 h0 h (cloL k (bP b) v Q ql R) → VOk n (v, ql) →
    match allV setV (v, ql) (S.drop j) with
    | none => ∃ h', (l_rup_Base_closure_0 fuel (d + 5) m [(2, .ptr (cP k.b)), (6, .ptr (cP k.a)), (7, .ptr (cP k.q)), (8, .ptr (cP k.s)), (9, lkF k), (24, .slice s), (25, .int .i64 (S.length : Int)), (26, .int .i64 (j : Int))] h).bind (fun p => k_rup_Base_closure_0 fuel (d + 5) p.1 p.2.1 p.2.2) = some (.tup [.ptr .nil, .bool false], h') ∧ Sep0 h0 h' R
    | some t => ∃ Q' h', l_rup_Base_closure_0 fuel (d + 5) m [(2, .ptr (cP k.b)), (6, .ptr (cP k.a)), (7, .ptr (cP k.q)), (8, .ptr (cP k.s)), (9, lkF k), (24, .slice s), (25, .int .i64 (S.length : Int)), (26, .int .i64 (j : Int))] h = some (.exit 0, [(2, .ptr (cP k.b)), (4, .bot), (5, .bot), (6, .ptr (cP k.a)), (7, .ptr (cP k.q)), (9, lkF k)], h') ∧ Sep0 h0 h' (cloL k (bP b) t.1 Q' t.2 R) := by
  intro m
  induction m with
  | zero => intro j v Q ql h h1 h2; omega
  | succ m ih =>
    intro j v Q ql h h1 h2 hs hV
    rw [l_rup_Base_closure_0_eq]
    by_cases hj : j < S.length
    · have c3 : h.cell (.mk ⟨k.s, 0, 0⟩ 1) = some (.func F_rup_Base_closure_1 [cP k.a, cP k.q]) := hs.part (i := 5) rfl (by omega) rfl
      have hc := hS h (cloL_R hs)
      have hm : S.getD j 0 ∈ S := by rw [List.getD_eq_getElem?_getD, List.getElem?_eq_getElem hj]; exact List.getElem_mem hj
      rw [bif_pos (by omega), read1 hc (by omega) (v := .int .i64 (S.getD j 0)) (by simp [hj]), drop_get hj 0]
      simp only [Option.bind_some, int_int, c3, AVal.func?, List.map_cons, List.map_nil, List.cons_append, List.nil_append, allV]
      have := cset_run fuel (d + 1) hs hV hn (hr _ hm)
      cases hst : setV (v, ql) (S.getD j 0) with
      | none =>
        rw [hst] at this
        obtain ⟨h', e1, s1⟩ := this
        simp only [e1, Option.bind_some, bool_bool, Bool.not_false, cond_true, k_rup_Base_closure_0_r]
        exact ⟨h', rfl, s1⟩
      | some t =>
        rw [hst] at this
        obtain ⟨Q', h', e1, s1⟩ := this
        simp only [e1, Option.bind_some, bool_bool, Bool.not_true, cond_false]
        rw [succI (by omega)]
        exact ih (j + 1) t.1 Q' t.2 h' (by omega) (by omega) s1 (setV_VOk hV hst).1
    · have : j = S.length := by omega
      subst this
      rw [bif_neg (by omega), List.drop_length]
      simp only [allV]
      exact ⟨Q, h, rfl, hs⟩

theorem byC_drop {ids : List Nat} {j : Nat} (hj : j < ids.length) : (byC cl ids).drop j = (atB cl (ids.getD j 0)).getD [] :: (byC cl ids).drop (j + 1) := by
  unfold byC
  rw [← List.map_drop, ← List.map_drop, drop_get hj 0, List.map_cons]
theorem small_loop (fuel d : Nat) (hb : BOk b n cl) (hf : 100000 < fuel) {ids : List Nat} (hids : ∀ i ∈ ids, ∃ c, atB cl i = some c) (hil : ids.length < 1000000000) {s : Sl} (hS : Stays h0 (b5 h0.maps.length b n cl R) s (ids.map Int.ofNat)) : ∀ (m j : Nat) (v : List Int) (Q : Sl) (ql : List Int) (h : AHeap), ids.length < m + j → j ≤ ids.length → Sep0 h0 h (cloL k (bP b) v Q ql (b5 h0.maps.length b n cl R)) → VOk n (v, ql) →
    match allV lookV (v, ql) ((byC cl ids).drop j) with
    | none => ∃ h', (l_rup_Base_closure_1 fuel (d + 5) m [(2, .ptr (cP k.b)), (6, .ptr (cP k.a)), (7, .ptr (cP k.q)), (9, lkF k), (38, .slice s), (39, .int .i64 (ids.length : Int)), (40, .int .i64 (j : Int))] h).bind (fun p => k_rup_Base_closure_1 fuel (d + 5) p.1 p.2.1 p.2.2) = some (.tup [.ptr .nil, .bool false], h') ∧ Sep0 h0 h' (b5 h0.maps.length b n cl R)
    | some t => ∃ Q' h', l_rup_Base_closure_1 fuel (d + 5) m [(2, .ptr (cP k.b)), (6, .ptr (cP k.a)), (7, .ptr (cP k.q)), (9, lkF k), (38, .slice s), (39, .int .i64 (ids.length : Int)), (40, .int .i64 (j : Int))] h = some (.exit 2, [(2, .ptr (cP k.b)), (4, .bot), (5, .bot), (6, .ptr (cP k.a)), (7, .ptr (cP k.q)), (9, lkF k)], h') ∧ Sep0 h0 h' (cloL k (bP b) t.1 Q' t.2 (b5 h0.maps.length b n cl R)) := by
  intro m
  induction m with
  | zero => intro j v Q ql h h1 h2; omega
  | succ m ih =>
    intro j v Q ql h h1 h2 hs hV
    rw [l_rup_Base_closure_1_eq]
    by_cases hj : j < ids.length
    · have hc := hS h (cloL_R hs)
      have hm : ids.getD j 0 ∈ ids := by rw [List.getD_eq_getElem?_getD, List.getElem?_eq_getElem hj]; exact List.getElem_mem hj
      obtain ⟨c, hic⟩ := hids _ hm
      rw [bif_pos (by omega), read1 hc (by omega) (v := .int .i64 ((ids.getD j 0 : Nat) : Int)) (by simp [hj]), byC_drop hj, hic]
      simp only [Option.bind_some, int_int, List.map_cons, List.map_nil, List.cons_append, List.nil_append, allV, Option.getD_some]
      have := clook_run fuel d hs hb hf hV hic
      cases hst : lookV (v, ql) c with
      | none =>
        rw [hst] at this
        obtain ⟨h', e1, s1⟩ := this
        simp only [e1, Option.bind_some, bool_bool, Bool.not_false, cond_true, k_rup_Base_closure_1_r]
        exact ⟨h', rfl, s1⟩
      | some t =>
        rw [hst] at this
        obtain ⟨Q', h', e1, s1⟩ := this
        simp only [e1, Option.bind_some, bool_bool, Bool.not_true, cond_false]
        rw [succI (by omega)]
        exact ih (j + 1) t.1 Q' t.2 h' (by omega) (by omega) s1 (lookV_VOk hV hst).1
    · have : j = ids.length := by omega
      subst this
      rw [bif_neg (by omega), List.drop_eq_nil_of_le (by simp [byC])]
      simp only [allV]
      exact ⟨Q, h, rfl, hs⟩
theorem by_loop (fuel d mm : Nat) (hb : BOk b n cl) (hf : 100000 < fuel) {ids : List Nat} (hids : ∀ i ∈ ids, ∃ c, atB cl i = some c) (hil : ids.length < 1000000000) {s : Sl} (hS : Stays h0 (b5 h0.maps.length b n cl R) s (ids.map Int.ofNat)) : ∀ (m j : Nat) (v : List Int) (Q : Sl) (ql : List Int) (h : AHeap), ids.length < m + j → j ≤ ids.length → Sep0 h0 h (cloL k (bP b) v Q ql (b5 h0.maps.length b n cl R)) → VOk n (v, ql) →
    match allV lookV (v, ql) ((byC cl ids).drop j) with
    | none => ∃ h', (l_rup_Base_closure_3 fuel (d + 5) m [(2, .ptr (cP k.b)), (6, .ptr (cP k.a)), (7, .ptr (cP k.q)), (9, lkF k), (63, .slice s), (64, .int .i64 (ids.length : Int)), (65, .int .i64 (j : Int))] h).bind (fun p => k_rup_Base_closure_3 fuel (d + 5) mm p.1 p.2.1 p.2.2) = some (.ret, [(4, .ptr .nil), (5, .bool false), (6, .ptr (cP k.a))], h') ∧ Sep0 h0 h' (b5 h0.maps.length b n cl R)
    | some t => ∃ Q' h', l_rup_Base_closure_3 fuel (d + 5) m [(2, .ptr (cP k.b)), (6, .ptr (cP k.a)), (7, .ptr (cP k.q)), (9, lkF k), (63, .slice s), (64, .int .i64 (ids.length : Int)), (65, .int .i64 (j : Int))] h = some (.exit 6, [(2, .ptr (cP k.b)), (4, .bot), (5, .bot), (6, .ptr (cP k.a)), (7, .ptr (cP k.q)), (9, lkF k)], h') ∧ Sep0 h0 h' (cloL k (bP b) t.1 Q' t.2 (b5 h0.maps.length b n cl R)) := by
  intro m
  induction m with
  | zero => intro j v Q ql h h1 h2; omega
  | succ m ih =>
    intro j v Q ql h h1 h2 hs hV
    rw [l_rup_Base_closure_3_eq]
    by_cases hj : j < ids.length
    · have hc := hS h (cloL_R hs)
      have hm : ids.getD j 0 ∈ ids := by rw [List.getD_eq_getElem?_getD, List.getElem?_eq_getElem hj]; exact List.getElem_mem hj
      obtain ⟨c, hic⟩ := hids _ hm
      rw [bif_pos (by omega), read1 hc (by omega) (v := .int .i64 ((ids.getD j 0 : Nat) : Int)) (by simp [hj]), byC_drop hj, hic]
      simp only [Option.bind_some, int_int, List.map_cons, List.map_nil, List.cons_append, List.nil_append, allV, Option.getD_some]
      have := clook_run fuel d hs hb hf hV hic
      cases hst : lookV (v, ql) c with
      | none =>
        rw [hst] at this
        obtain ⟨h', e1, s1⟩ := this
        simp only [e1, Option.bind_some, bool_bool, Bool.not_false, cond_true, k_rup_Base_closure_3_r]
        exact ⟨h', rfl, s1⟩
      | some t =>
        rw [hst] at this
        obtain ⟨Q', h', e1, s1⟩ := this
        simp only [e1, Option.bind_some, bool_bool, Bool.not_true, cond_false]
        rw [succI (by omega)]
        exact ih (j + 1) t.1 Q' t.2 h' (by omega) (by omega) s1 (lookV_VOk hV hst).1
    · have : j = ids.length := by omega
      subst this
      rw [bif_neg (by omega), List.drop_eq_nil_of_le (by simp [byC])]
      simp only [allV]
      exact ⟨Q, h, rfl, hs⟩
end
end Go.Proofs.YtdmbfmgebgdfnaaDoor

namespace Go.Proofs.YtdmbfmgebgdfnaaDoor
open Go.RowKit

structure Still (h h' : AHeap) : Prop where
  at_ : ∀ (n : Nat) (p : Pt) (cs : List AVal), h.cellsAt n p = some cs → h'.cellsAt n p = some cs
  cell : ∀ (p : Pt) (v : AVal), h.cell p = some v → h'.cell p = some v
  cells : ∀ (sz : Nat) (s : Sl) (cs : List AVal), h.sliceCells sz s = some cs → h'.sliceCells sz s = some cs
theorem Still.refl (h : AHeap) : Still h h := ⟨fun _ _ _ h => h, fun _ _ h => h, fun _ _ _ h => h⟩
theorem Still.trans {a b c : AHeap} (h : Still a b) (k : Still b c) : Still a c := ⟨fun n p cs q => k.1 n p cs (h.1 n p cs q), fun p v q => k.2 p v (h.2 p v q), fun sz s cs q => k.3 sz s cs (h.3 sz s cs q)⟩
theorem Still.ext {h h' : AHeap} (hk : Keeps h h' fun _ => False) : Still h h' :=
  ⟨fun n p cs q => by
    cases p with
    | nil => exact q
    | fp => exact q
    | mk r l => exact cellsAt_keep hk (fun h => h) q,
   fun p v q => by
    cases p with
    | nil => exact q
    | fp => exact q
    | mk r l => exact cell_keep hk (fun h => h) q,
   fun sz s cs q => sliceCells_ext hk q⟩
theorem Still.mark (h : AHeap) (ids : List Nat) : Still h (h.markRo ids) := ⟨fun n p cs q => by rw [cellsAt_mark]; exact q, fun p v q => by rw [cell_mark]; exact q, fun sz s cs q => by rw [sliceCells_mark]; exact q⟩
theorem Sep0.still {h0 h : AHeap} {L : List Chunk} (hs : Sep0 h0 h L) : Still h0 h := Still.ext hs.ext
theorem hasSzU {h : AHeap} {s : Sl} {sz : Nat} {cs : List AVal} (hs : h.sliceCells sz s = some cs) (hn : s.len ≠ 0) : h.hasSz sz s = true := by
  cases s with
  | nil => rfl
  | lst n c ds =>
    obtain ⟨rfl, hl2⟩ := lst_cells hs
    simp only [AHeap.hasSz]
    exact nbeq.2 hl2
  | mk r n c =>
    obtain ⟨row, q1, q2, _⟩ := sliceCells_row hs hn
    simp [AHeap.hasSz, q1, q2]
end Go.Proofs.YtdmbfmgebgdfnaaDoor

namespace Go.Proofs.YtdmbfmgebgdfnaaDoor
open Go.RowKit

theorem perm7 {α : Type} (p s q a v o b : α) : List.Perm [p, s, q, a, v, o, b] [v, o, a, q, p, s, b] := by
  have := (by decide : List.Perm [0, 1, 2, 3, 4, 5, 6] [4, 5, 3, 2, 0, 1, 6]).map (fun i : Nat => [p, s, q, a, v, o, b].getD i p)
  exact this
def byF (cl : BaseL) (x : Int) : List (List Int) := byC cl (idsP (hasP x) cl)
section
variable {h0 h : AHeap} {k : Ch} {b : Bs} {v : List Int} {Q : Sl} {ql : List Int} {R : List Chunk} {n : Nat} {cl : BaseL}
abbrev bAll (lo : Nat) (b : Bs) (n : Nat) (cl : BaseL) (R : List Chunk) : List Chunk := b5 lo b n cl (R ++ chK b.ks)
theorem ids_ok (p : List Int → Bool) : ∀ i ∈ idsP p cl, ∃ c, atB cl i = some c := fun i hi => by
  obtain ⟨l, h1, _⟩ := mem_ids.1 hi
  exact ⟨l, h1⟩
theorem ids_len (p : List Int → Bool) : (idsP p cl).length ≤ cl.length := by
  unfold idsP
  exact Nat.le_trans (List.length_filter_le _ _) (by simp)
theorem by_stays (hb : BOk b n cl) (x : Int) : Stays h0 (bAll h0.maps.length b n cl R) (slK x b.ks) ((idsP (hasP x) cl).map Int.ofNat) := fun h hs => by
  have := (Sep0.lookK (A := b5 h0.maps.length b n cl R) hs x).1
  rw [hb.keys x] at this
  exact this
theorem by_len (hb : BOk b n cl) (hs : Sep0 h0 h (bAll h0.maps.length b n cl R)) (x : Int) : (slK x b.ks).len = (idsP (hasP x) cl).length := by
  have := (Sep0.lookK (A := b5 h0.maps.length b n cl R) hs x).2
  rw [hb.keys x] at this
  simpa using this
theorem drain_loop (fuel d : Nat) (hb : BOk b n cl) (hf : 2000000 < fuel) : ∀ (N m : Nat) (v : List Int) (Q : Sl) (ql : List Int) (h : AHeap), N ≤ m → ql.length + v.count 0 < N → Sep0 h0 h (cloL k (bP b) v Q ql (bAll h0.maps.length b n cl R)) → VOk n (v, ql) →
    match drainV (byF cl) N (v, ql) with
    | none => ∃ h', (l_rup_Base_closure_2 fuel (d + 5) m [(2, .ptr (cP k.b)), (6, .ptr (cP k.a)), (7, .ptr (cP k.q)), (9, lkF k)] h).bind (fun p => k_rup_Base_closure_2 fuel (d + 5) p.1 p.2.1 p.2.2) = some (.tup [.ptr .nil, .bool false], h') ∧ Sep0 h0 h' (bAll h0.maps.length b n cl R)
    | some w => ∃ Q' ql' h', (l_rup_Base_closure_2 fuel (d + 5) m [(2, .ptr (cP k.b)), (6, .ptr (cP k.a)), (7, .ptr (cP k.q)), (9, lkF k)] h).bind (fun p => k_rup_Base_closure_2 fuel (d + 5) p.1 p.2.1 p.2.2) = some (.tup [.ptr (cP k.A), .bool true], h') ∧ Sep0 h0 h' (cloL k (bP b) w Q' ql' (bAll h0.maps.length b n cl R)) ∧ VOk n (w, []) := by
  have hn := hb.vars
  intro N
  induction N with
  | zero => intro m v Q ql h h1 h2; omega
  | succ N ih =>
    intro m v Q ql h h1 h2 hs hV
    obtain ⟨m, rfl⟩ : ∃ m', m = m' + 1 := ⟨m - 1, by omega⟩
    rw [l_rup_Base_closure_2_eq]
    have c1 : h.cell (.mk ⟨k.q, 0, 0⟩ 1) = some (.slice Q) := hs.part (i := 3) rfl (by omega) rfl
    have hql := hs.lenP (i := 4) rfl
    simp only [List.length_map, Nat.mul_one] at hql
    simp only [c1, Option.bind_some, slice_slice]
    cases ql with
    | nil =>
      have c0 : h.cell (.mk ⟨k.a, 0, 0⟩ 1) = some (.ptr (cP k.A)) := hs.part (i := 2) rfl (by omega) rfl
      simp only [List.length_nil] at hql
      rw [← hql, bif_neg (by omega)]
      simp only [drainV, Option.bind_some, k_rup_Base_closure_2_x4, c0, ptr_ptr]
      exact ⟨Q, [], h, rfl, hs, hV⟩
    | cons l q =>
      have hlit := hV.que l (List.mem_cons_self ..)
      have hrng := lit_rng hn hlit
      have hcnt := hV.cnt
      simp only [List.length_cons] at hql hcnt h2
      have hcs := hs.cellsP (i := 4) rfl
      rw [bif_pos (by omega), read1 hcs (by omega) (v := .int .i64 l) rfl]
      simp only [int_int, Option.bind_some]
      have s1 := hs.cutP (i := 4) (lo := 1) (hi' := Q.len) rfl (by omega) (Nat.le_refl _)
      obtain ⟨h8, e2, s2⟩ := s1.put (i := 3) (o := 0) (l := 1) (vs := [.slice (Q.cut 1 1 Q.len false)]) rfl (by simp) (by simp)
      have s3 : Sep0 h0 h8 (cloL k (bP b) v (Q.cut 1 1 Q.len false) q (bAll h0.maps.length b n cl R)) := by
        have : ((intsC (l :: q)).drop (1 * 1)).take ((Q.len - 1) * 1) = intsC q := by
          rw [Nat.mul_one, Nat.mul_one]
          show (intsC q).take (Q.len - 1) = intsC q
          exact List.take_of_length_le (by simp; omega)
        rw [this] at s2
        exact s2
      have hsz : h.hasSz 1 Q = true := hasSzU hcs (by omega)
      have c3 : h8.cell (.mk ⟨k.b, 0, 0⟩ 1) = some (.ptr (bP b)) := s3.part (i := 6) rfl (by omega) rfl
      have c4 : h8.cell (.mk ⟨b.B, 0, 0 + 3⟩ 6) = some (.map (some b.m)) := s3.part (i := 7) rfl (by omega) rfl
      have cm : h8.maps[b.m]? = some (esK b.ks) := s3.getMap (i := 11) rfl
      rw [aHi_none, Option.bind_some, aLo_some (by omega) (by omega), Option.bind_some, aMx_none, Option.bind_some, hsz, cond_true, Int.toNat_one, e2, Option.bind_some]
      simp only [c3, ptr_ptr, chk_mk, field_mk, Option.bind_some, c4, map_map, mapOf_some, cm, mfind_K, mgot_K, slice_slice]
      rw [show (0 : Int) - l = -l by omega, wrap64 (n := -l) (by omega) (by omega)]
      have hV' : VOk n (v, q) := ⟨hV.len, hV.val, by simp only; omega, fun x hx => hV.que x (List.mem_cons_of_mem _ hx)⟩
      have hbl := ids_len (cl := cl) (hasP (-l))
      have hcl := hb.len
      rw [by_len hb (cloL_R s3) (-l)]
      have := by_loop fuel d m hb (by omega) (ids_ok (hasP (-l))) (by omega) (by_stays (h0 := h0) (R := R) hb (-l)) fuel 0 v _ q h8 (by omega) (by omega) s3 hV'
      rw [List.drop_zero] at this
      simp only [drainV]
      show match (match allV lookV (v, q) (byC cl (idsP (hasP (-l)) cl)) with | none => none | some s => drainV (byF cl) N s) with | none => _ | some w => _
      cases hst : allV lookV (v, q) (byC cl (idsP (hasP (-l)) cl)) with
      | none =>
        rw [hst] at this
        obtain ⟨h', e1, s4⟩ := this
        simp only
        rw [Int.natCast_zero] at e1
        rw [e1]
        simp only [Option.bind_some, k_rup_Base_closure_2_r]
        exact ⟨h', rfl, s4⟩
      | some t =>
        rw [hst] at this
        obtain ⟨Q', h', e1, s4⟩ := this
        simp only
        rw [Int.natCast_zero] at e1
        rw [e1]
        simp only [Option.bind_some, k_rup_Base_closure_3_x6]
        obtain ⟨hV2, hc2⟩ := allV_VOk (fun hV hl => lookV_VOk hV hl) hV' hst
        simp only at hc2
        exact ih m t.1 Q' t.2 h' (by omega) (by omega) s4 hV2

theorem closure_run (fuel d : Nat) (hb : BOk b n cl) (hf : 2000000 < fuel) (hs : Sep0 h0 h (bAll h0.maps.length b n cl R)) {s : Sl} {S : List Int} (hS : Stays h0 (bAll h0.maps.length b n cl R) s S) (hSl : S.length < 1000000) (hr : ∀ l ∈ S, -9223372036854775807 ≤ l ∧ l ≤ 9223372036854775807) :
    match closeV (byF cl) (byC cl (idsP smallP cl)) n (n + 2) S with
    | none => ∃ h', run fuel (d + 6) F_rup_Base_closure [.ptr (bP b), .slice s] h = some (.tup [.ptr .nil, .bool false], h') ∧ Sep0 h0 h' (bAll h0.maps.length b n cl R)
    | some w => ∃ A V h', run fuel (d + 6) F_rup_Base_closure [.ptr (bP b), .slice s] h = some (.tup [.ptr (cP A), .bool true], h') ∧ Sep0 h0 h' (aV V w :: aO A V w :: bAll h0.maps.length b n cl R) ∧ VOk n (w, []) := by
  have hn := hb.vars
  rw [e_rup_Base_closure]
  -- the base's cell
  have s1 := (hs.push 1 1 (cs := [.ptr (bP b)]) rfl).cons
  have c1 : (h.push 1 [.ptr (bP b)]).cell (.mk ⟨h.next, 0, 0⟩ 1) = some (.ptr (bP b)) := cell_push _
  have c2 : (h.push 1 [.ptr (bP b)]).cell (.mk ⟨b.B, 0, 0 + 0⟩ 6) = some (.int .i64 (n : Int)) := s1.part (i := 1) rfl (by omega) rfl
  simp only [c1, Option.bind_some, ptr_ptr, chk_mk, field_mk, c2, int_int]
  -- values
  obtain ⟨A, V, h2, e2, s2⟩ := anew_run fuel (d + 3) s1 hn
  have s2' : Sep0 h0 h2 (aV V (List.replicate (n + 1) 0) :: aO A V (List.replicate (n + 1) 0) :: .own 1 h.next 0 1 [.ptr (bP b)] :: bAll h0.maps.length b n cl R) := s2.perm List.perm_append_comm
  rw [e2]
  simp only [Option.bind_some, ptr_ptr]
  -- cells
  have s3 := (s2'.push 1 1 (cs := [.ptr Pt.nil]) rfl).cons
  obtain ⟨h4, e4, s4⟩ := s3.putAll (i := 0) (vs := [.ptr (cP A)]) rfl rfl rfl
  rw [List.set_cons_zero] at s4
  rw [show (h2.push 1 [AVal.ptr Pt.nil]).storeAt [AVal.ptr (Pt.mk ⟨A, 0, 0⟩ 1)] (Pt.mk ⟨h2.next, 0, 0⟩ 1) = some h4 from e4]
  simp only [Option.bind_some]
  have s5 := (s4.push 1 1 (cs := [.slice Sl.nil]) rfl).cons
  have s6 := (s5.push 1 1 (cs := [.nilfunc]) rfl).cons
  obtain ⟨h7, e7, s7⟩ := s6.putAll (i := 0) (vs := [.func F_rup_Base_closure_1 [cP h2.next, cP h4.next]]) rfl rfl rfl
  rw [List.set_cons_zero] at s7
  rw [show ((h4.push 1 [AVal.slice Sl.nil]).push 1 [AVal.nilfunc]).storeAt [AVal.func F_rup_Base_closure_1 [Pt.mk ⟨h2.next, 0, 0⟩ 1, Pt.mk ⟨h4.next, 0, 0⟩ 1]] (Pt.mk ⟨(h4.push 1 [AVal.slice Sl.nil]).next, 0, 0⟩ 1) = some h7 from e7]
  simp only [Option.bind_some]
  have s8 := ((s7.addNil 1).cons).toPart (i := 0) rfl
  rw [List.set_cons_zero] at s8
  obtain ⟨k, rfl, rfl, hka, hkq, hks, hkb⟩ : ∃ k : Ch, A = k.A ∧ V = k.V ∧ h2.next = k.a ∧ h4.next = k.q ∧ (h4.push 1 [AVal.slice Sl.nil]).next = k.s ∧ h.next = k.b := ⟨⟨A, V, _, _, _, _⟩, rfl, rfl, rfl, rfl, rfl, rfl⟩
  rw [hka, hkq, hks, hkb] at s8
  rw [hka, hkq, hks, hkb]
  have s9 : Sep0 h0 h7 (cloL k (bP b) (List.replicate (n + 1) 0) .nil [] (bAll h0.maps.length b n cl R)) := by
    refine s8.perm ((perm7 _ _ _ _ _ _ _).append_right (bAll h0.maps.length b n cl R))
  have hV0 : VOk n (List.replicate (n + 1) 0, []) := ⟨by simp, fun x hx => .inl (List.eq_of_mem_replicate hx), by simp only [List.length_nil]; rw [List.count_replicate_self]; omega, fun l hl => by cases hl⟩
  have hSlen := sliceCells_len (hS h hs)
  simp only [List.length_map, Nat.mul_one] at hSlen
  rw [← hSlen]
  have h10 := start_loop (b := b) fuel d hn hS (by omega) hr fuel 0 _ _ _ h7 (by omega) (by omega) s9 hV0
  rw [List.drop_zero, Int.natCast_zero] at h10
  unfold closeV
  cases hst : allV setV (List.replicate (n + 1) 0, []) S with
  | none =>
    rw [hst] at h10
    obtain ⟨h', e1, s10⟩ := h10
    exact ⟨h', e1, s10⟩
  | some t =>
    rw [hst] at h10
    obtain ⟨Q1, h11, e11, s11⟩ := h10
    have hV1 := (allV_VOk (fun hV hl => setV_VOk hV hl) hV0 hst).1
    simp only
    rw [show l_rup_Base_closure_0 fuel (d + 5) fuel [(2, .ptr (cP k.b)), (6, .ptr (cP k.a)), (7, .ptr (cP k.q)), (8, .ptr (cP k.s)), (9, lkF k), (24, .slice s), (25, .int .i64 (S.length : Int)), (26, .int .i64 0)] h7 = _ from e11]
    have c3 : h11.cell (.mk ⟨k.b, 0, 0⟩ 1) = some (.ptr (bP b)) := s11.part (i := 6) rfl (by omega) rfl
    have c4 : h11.cell (.mk ⟨b.B, 0, 0 + 4⟩ 6) = some (.slice b.sS) := s11.part (i := 7) rfl (by omega) rfl
    simp only [Option.bind_some, k_rup_Base_closure_0_x0, c3, ptr_ptr, chk_mk, field_mk, c4, slice_slice]
    have hsl := s11.lenP (i := 10) rfl
    simp only [List.length_map, Nat.mul_one] at hsl
    have hbl := ids_len (cl := cl) smallP
    have hcl := hb.len
    rw [← hsl]
    have hst2 : Stays h0 (bAll h0.maps.length b n cl R) b.sS ((idsP smallP cl).map Int.ofNat) := fun h hs => hs.cellsP (i := 3) rfl
    have h12 := small_loop (k := k) fuel d hb (by omega) (ids_ok smallP) (by omega) hst2 fuel 0 t.1 Q1 t.2 h11 (by omega) (by omega) s11 hV1
    rw [List.drop_zero, Int.natCast_zero] at h12
    cases hst2 : allV lookV t (byC cl (idsP smallP cl)) with
    | none =>
      rw [show (t.1, t.2) = t from rfl, hst2] at h12
      obtain ⟨h', e1, s12⟩ := h12
      exact ⟨h', e1, s12⟩
    | some t2 =>
      rw [show (t.1, t.2) = t from rfl, hst2] at h12
      obtain ⟨Q2, h13, e13, s13⟩ := h12
      have hV2 := (allV_VOk (fun hV hl => lookV_VOk hV hl) hV1 hst2).1
      have hc2 := hV2.cnt
      rw [e13]
      simp only [Option.bind_some, k_rup_Base_closure_1_x2]
      have h14 := drain_loop (k := k) fuel d hb hf (n + 2) fuel t2.1 Q2 t2.2 h13 (by omega) (by omega) s13 hV2
      cases hst3 : drainV (byF cl) (n + 2) t2 with
      | none =>
        rw [show (t2.1, t2.2) = t2 from rfl, hst3] at h14
        exact h14
      | some w =>
        rw [show (t2.1, t2.2) = t2 from rfl, hst3] at h14
        obtain ⟨Q', ql', h', e1, s14, v14⟩ := h14
        exact ⟨k.A, k.V, h', e1, s14.sub ((((List.Sublist.refl _).cons _ |>.cons _ |>.cons _ |>.cons _ |>.cons _).cons_cons _).cons_cons _), v14⟩
end
end Go.Proofs.YtdmbfmgebgdfnaaDoor

namespace Go.Proofs.YtdmbfmgebgdfnaaDoor
open Go.RowKit

theorem mid5 {α : Type} (a b c d e x : α) (X : List α) : List.Perm (x :: a :: b :: c :: d :: e :: X) (a :: b :: c :: d :: e :: x :: X) :=
  (List.perm_middle (l₁ := [a, b, c, d, e]) (l₂ := X) (a := x)).symm
/-- does it follow? -/
def implV (n : Nat) (cl : BaseL) (c : List Int) : Bool := litsOk n c && (closeV (byF cl) (byC cl (idsP smallP cl)) n (n + 2) (c.map fun l => -l)).isNone
section
variable {h0 h : AHeap} {k : Ch} {b : Bs} {R : List Chunk} {n : Nat} {cl : BaseL}
theorem imp_loop (fuel d : Nat) {p : Pt} {s : Sl} {c : List Int} {R : List Chunk} (hS : Stays h0 R s c) (hcl : c.length < 1000000) (hr : ∀ l ∈ c, -9223372036854775807 ≤ l ∧ l ≤ 9223372036854775807) : ∀ (m j : Nat) (t : Sl) (h : AHeap), c.length < m + j → j ≤ c.length → Sep0 h0 h (.grown 1 t (intsC ((c.take j).map fun l => -l)) :: R) →
    ∃ t' h', l_rup_Base_Implied_0 fuel d m [(0, .ptr p), (5, .slice t), (17, .slice s), (18, .int .i64 (c.length : Int)), (19, .int .i64 (j : Int))] h = some (.exit 0, [(0, .ptr p), (5, .slice t')], h') ∧ Sep0 h0 h' (.grown 1 t' (intsC (c.map fun l => -l)) :: R) := by
  intro m
  induction m with
  | zero => intro j t h h1 h2; omega
  | succ m ih =>
    intro j t h h1 h2 hs
    have hl := hs.len (i := 0) rfl
    simp only [List.length_map, List.length_take, Nat.mul_one] at hl
    rw [l_rup_Base_Implied_0_eq]
    by_cases hj : j < c.length
    · have hc := hS h (hs.sub ((List.Sublist.refl R).cons _))
      have hm : c.getD j 0 ∈ c := by rw [List.getD_eq_getElem?_getD, List.getElem?_eq_getElem hj]; exact List.getElem_mem hj
      have hx := hr _ hm
      rw [bif_pos (by omega), read1 hc (by omega) (v := .int .i64 (c.getD j 0)) (by simp [hj])]
      simp only [Option.bind_some, int_int]
      rw [show (0 : Int) - c.getD j 0 = -c.getD j 0 by omega, wrap64 (by omega) (by omega)]
      obtain ⟨t', h', e1, s1, _⟩ := hs.grow (i := 0) (bytes := 8) (m := 1) (vs := [.int .i64 (-c.getD j 0)]) rfl rfl (by omega) (by omega)
      rw [e1, Option.bind_some, succI (by omega)]
      refine ih (j + 1) t' h' (by omega) (by omega) ?_
      rw [take_get hj 0, List.map_append, intsC_app]
      exact s1
    · have : j = c.length := by omega
      subst this
      rw [bif_neg (by omega)]
      rw [List.take_length] at hs
      exact ⟨t, h, rfl, hs⟩
theorem implied_run (fuel d : Nat) (hb : BOk b n cl) (hf : 2000000 < fuel) (hs : Sep0 h0 h (bAll h0.maps.length b n cl R)) {s : Sl} {c : List Int} (hS : Stays h0 (bAll h0.maps.length b n cl R) s c) (hcl : c.length < 1000000) :
    ∃ h', run fuel (d + 7) F_rup_Base_Implied [.ptr (bP b), .slice s] h = some (.bool (implV n cl c), h') ∧ Sep0 h0 h' (bAll h0.maps.length b n cl R) := by
  have hn := hb.vars
  have hc := hS h hs
  have hlen := sliceCells_len hc
  simp only [List.length_map, Nat.mul_one] at hlen
  obtain ⟨h1, e1, s1, k1⟩ := right_run fuel (d + 1) hs (i := 0) rfl hn hc (by omega) (by omega)
  rw [e_rup_Base_Implied, e1]
  simp only [Option.bind_some, bool_bool]
  unfold implV
  cases hlo : litsOk n c with
  | false => exact ⟨h1, rfl, s1⟩
  | true =>
    have hr : ∀ l ∈ c, -9223372036854775807 ≤ l ∧ l ≤ 9223372036854775807 := fun l hl => lit_rng hn (List.all_eq_true.1 hlo l hl)
    have e2 : (decide ((0 : Int) ≤ ((s.len : Nat) : Int)) && decide (((s.len : Nat) : Int) * 8 ≤ 140737488355328) && decide (((s.len : Nat) : Int) ≤ 140737488355328)) = true := mk0_ok (by omega) (by omega) (by omega)
    simp only [Bool.not_true, cond_false, e2, cond_true, Bool.true_and]
    have s2 := (s1.addMake 1 (eqI 0 ((s.len : Nat) : Int))).cons
    obtain ⟨t', h3, e3, s3⟩ := imp_loop fuel (d + 6) (p := bP b) hS hcl hr fuel 0 _ _ (by omega) (by omega) s2
    rw [← hlen]
    rw [← hlen, Int.natCast_zero] at e3
    rw [e3]
    simp only [Option.bind_some, k_rup_Base_Implied_0_x0]
    have s4 : Sep0 h0 h3 (bAll h0.maps.length b n cl (.grown 1 t' (intsC (c.map fun l => -l)) :: R)) := s3.perm (mid5 _ _ _ _ _ _ _)
    have hcr := closure_run fuel d hb hf s4 (s := t') (S := c.map fun l => -l) (fun h hs => (hs.sep.grown (i := 5) rfl).cells) (by simpa using hcl) (fun l hl => by
      obtain ⟨x, hx, rfl⟩ := List.mem_map.1 hl
      have := hr x hx
      omega)
    have back : ∀ {h'}, Sep0 h0 h' (bAll h0.maps.length b n cl (.grown 1 t' (intsC (c.map fun l => -l)) :: R)) → Sep0 h0 h' (bAll h0.maps.length b n cl R) := fun hs => hs.sub ((((((List.Sublist.refl _).cons _).cons_cons _).cons_cons _).cons_cons _).cons_cons _ |>.cons_cons _)
    cases hcv : closeV (byF cl) (byC cl (idsP smallP cl)) n (n + 2) (c.map fun l => -l) with
    | none =>
      rw [hcv] at hcr
      obtain ⟨h', e4, s5⟩ := hcr
      simp only [e4, Option.bind_some, tup2, cond_true, comp0, comp1, ptr_ptr, bool_bool]
      exact ⟨h', rfl, back s5⟩
    | some w =>
      rw [hcv] at hcr
      obtain ⟨A, V, h', e4, s5, _⟩ := hcr
      simp only [e4, Option.bind_some, tup2, cond_true, comp0, comp1, ptr_ptr, bool_bool]
      exact ⟨h', rfl, back (s5.sub (((List.Sublist.refl _).cons _).cons _))⟩

/-! Add -/
abbrev gAll (lo : Nat) (b : Bs) (n : Nat) (many : Int) (cC tC sC : List AVal) (R : List Chunk) : List Chunk :=
  .own 1 b.B 0 6 [.int .i64 (n : Int), .slice b.cS, .slice b.tS, .map (some b.m), .slice b.sS, .int .i64 many] :: .part 1 b.cS cC :: .part 1 b.tS tC :: .part 1 b.sS sC :: .mp lo b.m (esK b.ks) :: (R ++ chK b.ks)
/-- the keys of the first of some literals have one place more -/
def KeysAt (ks ks' : List Key) (l : List Int) (id : Int) : Prop := ∀ x, lisK x ks' = lisK x ks ++ (if x ∈ l then [id] else [])
theorem add_loop (fuel d : Nat) {ks0 : List Key} {many : Int} {cC tC sC : List AVal} {l : List Int} (hnd : l.Nodup) (hl : l.length < 1000000) {id : Nat} (hks : ∀ x, (lisK x ks0).length < 100000000) : ∀ (m j : Nat) (ks : List Key) (h : AHeap), l.length < m + j → j ≤ l.length → KeysAt ks0 ks (l.take j) (id : Int) → Sep0 h0 h (gAll h0.maps.length { b with ks := ks } n many cC tC sC R) →
    ∃ ks' h', l_rup_Base_Add_0 fuel d m [(0, .ptr (bP b)), (5, .slice (lstI l)), (7, .int .i64 (id : Int)), (43, .slice (lstI l)), (44, .int .i64 (l.length : Int)), (45, .int .i64 (j : Int))] h = some (.exit 0, [(0, .ptr (bP b)), (5, .slice (lstI l)), (7, .int .i64 (id : Int))], h') ∧ KeysAt ks0 ks' l (id : Int) ∧ Sep0 h0 h' (gAll h0.maps.length { b with ks := ks' } n many cC tC sC R) := by
  intro m
  induction m with
  | zero => intro j ks h h1 h2; omega
  | succ m ih =>
    intro j ks h h1 h2 hk hs
    rw [l_rup_Base_Add_0_eq]
    by_cases hj : j < l.length
    · have c3 : h.cell (.mk ⟨b.B, 0, 0 + 3⟩ 6) = some (.map (some b.m)) := hs.part (i := 0) rfl (by omega) rfl
      have cm : h.maps[b.m]? = some (esK ks) := hs.getMap (i := 4) rfl
      rw [bif_pos (by omega), addr_lstM _ (by omega) (by omega) 0]
      simp only [Option.bind_some, cell_fp, int_int, Int.toNat_natCast, chk_mk, field_mk, c3, map_map, mapOf_some, cm, mfind_K, mgot_K, slice_slice]
      have hsl : (slK (l.getD j 0) ks).len = (lisK (l.getD j 0) ks).length := (Sep0.lookK (A := .own 1 b.B 0 6 [.int .i64 (n : Int), .slice b.cS, .slice b.tS, .map (some b.m), .slice b.sS, .int .i64 many] :: .part 1 b.cS cC :: .part 1 b.tS tC :: .part 1 b.sS sC :: .mp h0.maps.length b.m (esK ks) :: R) (ks := ks) hs (l.getD j 0)).2
      have hk1 := hk (l.getD j 0)
      have hk2 := hks (l.getD j 0)
      have hlt : (lisK (l.getD j 0) ks).length < 1000000000 := by
        rw [hk1, List.length_append]
        split <;> simp only [List.length_singleton, List.length_nil] <;> omega
      obtain ⟨s', h', e1, s1, s2⟩ := Sep0.addK (A := .own 1 b.B 0 6 [.int .i64 (n : Int), .slice b.cS, .slice b.tS, .map (some b.m), .slice b.sS, .int .i64 many] :: .part 1 b.cS cC :: .part 1 b.tS tC :: .part 1 b.sS sC :: .mp h0.maps.length b.m (esK ks) :: R) (ks := ks) (j := 4) (m := b.m) hs rfl (l.getD j 0) (id : Int) (by omega)
      have c3' : h'.cell (.mk ⟨b.B, 0, 0 + 3⟩ 6) = some (.map (some b.m)) := s1.part (i := 0) rfl (by omega) rfl
      have cm' : h'.maps[b.m]? = some (esK ks) := s1.getMap (i := 4) rfl
      have hset := mset_K (l.getD j 0) (s', lisK (l.getD j 0) ks ++ [(id : Int)]) ks
      simp only at hset
      simp only [e1, Option.bind_some, c3', map_map, same_self, cm', hset]
      rw [succI (by omega)]
      refine ih (j + 1) (setK (l.getD j 0) (s', lisK (l.getD j 0) ks ++ [(id : Int)]) ks) _ (by omega) (by omega) ?_ s2
      have hnot : l.getD j 0 ∉ l.take j := by
        intro hin
        rw [List.getD_eq_getElem?_getD, List.getElem?_eq_getElem hj, Option.getD_some] at hin
        obtain ⟨i, hi, e⟩ := List.mem_iff_getElem.1 hin
        rw [List.length_take] at hi
        rw [List.getElem_take] at e
        have := (List.getElem_inj hnd).1 e
        omega
      intro x
      rw [take_get hj 0]
      by_cases hx : x = l.getD j 0
      · subst hx
        unfold lisK
        rw [find_set]
        simp only [List.mem_append, List.mem_singleton, or_true, if_true]
        have := hk (l.getD j 0)
        rw [if_neg hnot, List.append_nil] at this
        unfold lisK at this
        rw [this]
      · have e2 : lisK x (setK (l.getD j 0) (s', lisK (l.getD j 0) ks ++ [(id : Int)]) ks) = lisK x ks := by
          unfold lisK
          rw [find_set_ne hx]
        rw [e2, hk x]
        have : (x ∈ l.take j ++ [l.getD j 0]) ↔ x ∈ l.take j := by simp only [List.mem_append, List.mem_singleton, hx, or_false]
        simp only [this]
    · have : j = l.length := by omega
      subst this
      rw [bif_neg (by omega)]
      rw [List.take_length] at hk
      exact ⟨ks, h, rfl, hk, hs⟩
end
end Go.Proofs.YtdmbfmgebgdfnaaDoor

namespace Go.Proofs.YtdmbfmgebgdfnaaDoor
open Go.RowKit

theorem normL_nodup (c : List Int) : (normL c).Nodup := (normL_sorted c).imp fun h e => by subst e; rw [ltL_irrefl] at h; cases h
theorem litsOk_norm {n : Nat} {c : List Int} (h : litsOk n c = true) : ∀ x ∈ normL c, isLit x n = true := fun x hx => List.all_eq_true.1 h x (mem_normL.1 hx)
section
variable {h0 h : AHeap} {b : Bs} {R : List Chunk} {n : Nat} {cl : BaseL}
theorem there_len (cl : BaseL) : (thereB cl).length ≤ cl.length := List.length_filterMap_le _ _
def AddPost (h0 : AHeap) (b b' : Bs) (n : Nat) (cl : BaseL) (R : List Chunk) (c : List Int) (h' : AHeap) : Bool → Prop
  | false => b' = b ∧ Sep0 h0 h' (bAll h0.maps.length b n cl R)
  | true => BOk b' n (cl ++ [some (normL c)]) ∧ Sep0 h0 h' (bAll h0.maps.length b' n (cl ++ [some (normL c)]) R)
theorem add_run (fuel d : Nat) (hd : 49 ≤ d) (hb : BOk b n cl) (hlen : cl.length < 999999) (hf : 2000000 < fuel) (hs : Sep0 h0 h (bAll h0.maps.length b n cl R)) {s : Sl} {c : List Int} (hc : h.sliceCells 1 s = some (intsC c)) (hcl : c.length < 100000) :
    ∃ b' h', run fuel (d + 6) F_rup_Base_Add [.ptr (bP b), .slice s] h = some (.bool (litsOk n c), h') ∧ b'.B = b.B ∧ AddPost h0 b b' n cl R c h' (litsOk n c) := by
  have hn := hb.vars
  obtain ⟨h1, e1, s1, k1⟩ := right_run fuel d hs (i := 0) rfl hn hc (by omega) (by omega)
  rw [e_rup_Base_Add, e1]
  simp only [Option.bind_some, bool_bool]
  cases hlo : litsOk n c with
  | false => exact ⟨b, h1, rfl, rfl, rfl, s1⟩
  | true =>
    have hc1 := sliceCells_ext k1 hc
    obtain ⟨h2, e2, k2⟩ := Norm_row (fuel := fuel) (e := d + 5) (by omega) (l := c) (by omega) (by omega) hc1
    have s2 := s1.call k2
    have hnl := normL_length c
    simp only [Bool.not_true, cond_false, e2, Option.bind_some, tup2, cond_true, comp0, comp1, slice_slice, bool_bool, chk_mk, field_mk]
    have c1 : h2.cell (.mk ⟨b.B, 0, 0 + 1⟩ 6) = some (.slice b.cS) := s2.part (i := 0) rfl (by omega) rfl
    have c2 : h2.cell (.mk ⟨b.B, 0, 0 + 2⟩ 6) = some (.slice b.tS) := s2.part (i := 0) rfl (by omega) rfl
    have l1 := s2.lenP (i := 1) rfl
    have l2 := s2.lenP (i := 2) rfl
    have l3 := s2.lenP (i := 3) rfl
    simp only [List.length_map, Nat.mul_one] at l1 l2 l3
    obtain ⟨cS', h3, e3, s3, _⟩ := s2.growP (i := 1) (bytes := 24) (m := 1) (vs := [.slice (lstI (normL c))]) rfl rfl (by omega) (by omega)
    rw [set1] at s3
    have c2' : h3.cell (.mk ⟨b.B, 0, 0 + 2⟩ 6) = some (.slice b.tS) := s3.part (i := 0) rfl (by omega) rfl
    obtain ⟨tS', h4, e4, s4, _⟩ := s3.growP (i := 2) (bytes := 1) (m := 1) (vs := [.bool true]) rfl rfl (by omega) (by omega)
    rw [set2] at s4
    obtain ⟨h5, e5, s5⟩ := s4.put (i := 0) (o := 1) (l := 6) (vs := [.slice cS']) rfl (by simp) (by simp)
    rw [set0] at s5
    obtain ⟨h6, e6, s6⟩ := s5.put (i := 0) (o := 2) (l := 6) (vs := [.slice tS']) rfl (by simp) (by simp)
    rw [set0] at s6
    have s6' : Sep0 h0 h6 (gAll h0.maps.length { b with cS := cS', tS := tS', ks := b.ks } n ((thereB cl).length : Int) (clC (cl ++ [some (normL c)])) (thC (cl ++ [some (normL c)])) (intsC (idsI smallP cl)) R) := by
      unfold gAll clC thC
      rw [List.map_append, List.map_append]
      exact s6
    simp only [c1, c2, c2', Option.bind_some, slice_slice, e3, same_self, e4, e5, e6, Nat.zero_add, len_lst]
    rw [← l1]
    obtain ⟨ks', h7, e7, hk7, s7⟩ := add_loop fuel (d + 5) (b := { b with cS := cS', tS := tS' }) (ks0 := b.ks) (id := cl.length) (normL_nodup c) (by omega) (fun x => by rw [hb.keys x, List.length_map]; have := ids_len (cl := cl) (hasP x); omega) fuel 0 b.ks h6 (by omega) (by omega) (fun x => by simp) s6'
    rw [show l_rup_Base_Add_0 fuel (d + 5) fuel [(0, .ptr (bP b)), (5, .slice (lstI (normL c))), (7, .int .i64 (cl.length : Int)), (43, .slice (lstI (normL c))), (44, .int .i64 ((normL c).length : Int)), (45, .int .i64 0)] h6 = _ from e7]
    simp only [Option.bind_some, k_rup_Base_Add_0_x0, chk_mk, field_mk]
    rw [len_lst]
    have hthere : (thereB (cl ++ [some (normL c)])).length = (thereB cl).length + 1 := by rw [there_add]; simp
    have htl := there_len cl
    have fin : ∀ (sS' : Sl) (h8 : AHeap) (sm : List Int), sm = idsI smallP (cl ++ [some (normL c)]) → Sep0 h0 h8 (gAll h0.maps.length { b with cS := cS', tS := tS', sS := sS', ks := ks' } n ((thereB cl).length : Int) (clC (cl ++ [some (normL c)])) (thC (cl ++ [some (normL c)])) (intsC sm) R) →
        ∃ b' h', k_rup_Base_Add_1 fuel (d + 5) .normal [(0, .ptr (bP b))] h8 = some (.bool true, h') ∧ b'.B = b.B ∧ AddPost h0 b b' n cl R c h' true := by
      intro sS' h8 sm hsm s8
      subst hsm
      have c5 : h8.cell (.mk ⟨b.B, 0, 0 + 5⟩ 6) = some (.int .i64 ((thereB cl).length : Int)) := s8.part (i := 0) rfl (by omega) rfl
      obtain ⟨h9, e9, s9⟩ := s8.put (i := 0) (o := 5) (l := 6) (vs := [.int .i64 (((thereB cl).length + 1 : Nat) : Int)]) rfl (by simp) (by simp)
      rw [set0, ← hthere] at s9
      rw [k_rup_Base_Add_1_n]
      simp only [chk_mk, field_mk, Option.bind_some, c5, int_int]
      rw [succI (by omega), Nat.zero_add, e9]
      refine ⟨{ b with cS := cS', tS := tS', sS := sS', ks := ks' }, h9, rfl, rfl, ⟨fun x => ?_, fun l hl => ?_, by simp; omega, hn, fun l hl => ?_⟩, s9⟩
      · have := hk7 x
        simp only at this ⊢
        rw [this, hb.keys x]
        unfold idsI
        rw [ids_add]
        unfold hasP
        by_cases hx : x ∈ normL c <;> simp [hx]
      · rcases List.mem_append.1 hl with hl | hl
        · exact hb.norm l hl
        · rw [List.mem_singleton] at hl
          cases hl
          exact ⟨normL_idem c, litsOk_norm hlo⟩
      · rcases List.mem_append.1 hl with hl | hl
        · exact hb.lens l hl
        · rw [List.mem_singleton] at hl
          cases hl
          omega
    by_cases hsm : (normL c).length < 2
    · have hsm' : ((normL c).length : Int) < 2 := by omega
      simp only [decide_eq_true hsm', cond_true]
      have c4 : h7.cell (.mk ⟨b.B, 0, 0 + 4⟩ 6) = some (.slice b.sS) := s7.part (i := 0) rfl (by omega) rfl
      have hil := ids_len (cl := cl) smallP
      obtain ⟨sS', h8, e8, s8, _⟩ := s7.growP (i := 3) (bytes := 8) (m := 1) (vs := [.int .i64 (cl.length : Int)]) rfl rfl (by simp only; omega) (by simp only; omega)
      rw [set3] at s8
      obtain ⟨h9, e9, s9⟩ := s8.put (i := 0) (o := 4) (l := 6) (vs := [.slice sS']) rfl (by simp) (by simp)
      rw [set0] at s9
      simp only [c4, Option.bind_some, slice_slice, e8, e9, Nat.zero_add]
      refine fin sS' h9 (idsI smallP cl ++ [(cl.length : Int)]) ?_ ?_
      · unfold idsI
        rw [ids_add]
        simp [smallP, hsm]
      · unfold gAll
        rw [intsC_app]
        exact s9
    · have hsm' : ¬ ((normL c).length : Int) < 2 := by omega
      simp only [decide_eq_false hsm', cond_false, Option.bind_some]
      refine fin b.sS h7 (idsI smallP cl) ?_ s7
      unfold idsI
      rw [ids_add]
      simp [smallP, hsm]
end
end Go.Proofs.YtdmbfmgebgdfnaaDoor

namespace Go.Proofs.YtdmbfmgebgdfnaaDoor
open Go.RowKit

abbrev gridC (cc : List (List Int)) : List AVal := cc.map fun c => .slice (lstI c)
theorem gridC_append (a b : List (List Int)) : gridC (a ++ b) = gridC a ++ gridC b := List.map_append
theorem intsC_append (a b : List Int) : intsC (a ++ b) = intsC a ++ intsC b := List.map_append

theorem freeze_gridC {h : AHeap} (n : Nat) (cc : List (List Int)) : (gridC cc).mapM (freezeV h (n + 1)) = some (gridC cc) := mapM_freeze (g := fun c => .slice (lstI c)) (fun c => freeze_lstI n c) cc

/-! A CNF's cells. -/
def cnfC (vars : Int) (cc : List (List Int)) : List AVal := [.int .i64 vars, .slice (lstLL cc)]
def totalI (cc : List (List Int)) : Nat := (cc.map List.length).sum
end Go.Proofs.YtdmbfmgebgdfnaaDoor

namespace Go.Proofs.YtdmbfmgebgdfnaaDoor
open Go.RowKit

section
variable {h0 h : AHeap} {b : Bs} {R : List Chunk} {n : Nat} {cl : BaseL}
abbrev normC (cc : List (List Int)) : BaseL := cc.map fun c => some (normL c)
def GStays (h0 : AHeap) (R : List Chunk) (s : Sl) (cc : List (List Int)) : Prop := ∀ h, Sep0 h0 h R → Nest h s cc
theorem nest_grid {h : AHeap} {s : Sl} {cc : List (List Int)} (hs : h.sliceCells 1 s = some (gridC cc)) : Nest h s cc := by
  refine ⟨cc.map lstI, by rw [hs]; simp, by simp, fun k s' c h1 h2 => ?_⟩
  rw [List.getElem?_map, h2] at h1
  cases h1
  exact cells_lstM _ _ _
theorem bAll_R (hs : Sep0 h0 h (bAll h0.maps.length b n cl R)) : Sep0 h0 h R :=
  hs.sub (((((List.sublist_append_left R _).cons _).cons _).cons _).cons _ |>.cons _)
abbrev okCC (n : Nat) (cc : List (List Int)) : Bool := cc.all (litsOk n)
def NewPost (h0 : AHeap) (n : Nat) (cc : List (List Int)) (R : List Chunk) (v : AVal) (h' : AHeap) : Bool → Prop
  | false => v = .tup [.ptr .nil, err_api_ErrRange] ∧ Sep0 h0 h' R
  | true => ∃ b, v = .tup [.ptr (bP b), .nilif] ∧ BOk b n (normC cc) ∧ Sep0 h0 h' (bAll h0.maps.length b n (normC cc) R)
theorem new_loop (fuel d : Nat) (hd : 49 ≤ d) (hf : 2000000 < fuel) {s : Sl} {cc : List (List Int)} (hS : GStays h0 R s cc) (hl : cc.length < 900000) (hc : ∀ c ∈ cc, c.length < 100000) : ∀ (m j : Nat) (b : Bs) (h : AHeap), cc.length < m + j → j ≤ cc.length → BOk b n (normC (cc.take j)) → Sep0 h0 h (bAll h0.maps.length b n (normC (cc.take j)) R) →
    ∃ v h', (l_rup_New_0 fuel (d + 6) m [(6, .ptr (bP b)), (14, .slice s), (15, .int .i64 (cc.length : Int)), (16, .int .i64 (j : Int))] h).bind (fun p => k_rup_New_0 fuel (d + 6) p.1 p.2.1 p.2.2) = some (v, h') ∧ NewPost h0 n cc R v h' (okCC n (cc.drop j)) := by
  intro m
  induction m with
  | zero => intro j b h h1 h2; omega
  | succ m ih =>
    intro j b h h1 h2 hb hs
    rw [l_rup_New_0_eq]
    by_cases hj : j < cc.length
    · have hcells := hS h (bAll_R hs)
      have hm : cc.getD j [] ∈ cc := by rw [List.getD_eq_getElem?_getD, List.getElem?_eq_getElem hj]; exact List.getElem_mem hj
      obtain ⟨s', a1, a2, a3, _⟩ := hcells.read hj
      rw [bif_pos (by omega), a1, Option.bind_some, a2]
      simp only [Option.bind_some, slice_slice]
      obtain ⟨b', h', e1, hB, hp⟩ := add_run fuel d hd hb (by simp; omega) hf hs (s := s') a3 (hc _ hm)
      rw [e1]
      simp only [Option.bind_some, bool_bool]
      have hdr : okCC n (cc.drop j) = (litsOk n (cc.getD j []) && okCC n (cc.drop (j + 1))) := by rw [drop_get hj [], okCC, List.all_cons]
      rw [hdr]
      cases hlo : litsOk n (cc.getD j []) with
      | false =>
        rw [hlo] at hp
        obtain ⟨rfl, s1⟩ := hp
        simp only [Bool.not_false, cond_true, Option.bind_some, k_rup_New_0_r, Bool.false_and]
        exact ⟨_, h', rfl, rfl, bAll_R s1⟩
      | true =>
        rw [hlo] at hp
        obtain ⟨hb', s1⟩ := hp
        simp only [Bool.not_true, cond_false, Bool.true_and]
        rw [succI (by omega)]
        have e2 : normC (cc.take j) ++ [some (normL (cc.getD j []))] = normC (cc.take (j + 1)) := by rw [take_get hj [], normC, normC, List.map_append]; rfl
        rw [e2] at hb' s1
        have hbp : bP b = bP b' := by unfold bP; rw [hB]
        rw [hbp]
        exact ih (j + 1) b' h' (by omega) (by omega) hb' s1
    · have : j = cc.length := by omega
      subst this
      rw [bif_neg (by omega), List.drop_length]
      rw [List.take_length] at hb hs
      simp only [Option.bind_some, k_rup_New_0_x0]
      exact ⟨_, h, rfl, b, rfl, hb, hs⟩
theorem new_run (fuel d : Nat) (hd : 49 ≤ d) (hf : 2000000 < fuel) (hn : n ≤ 4000) (hs : Sep0 h0 h R) {s : Sl} {cc : List (List Int)} (hS : GStays h0 R s cc) (hl : cc.length < 900000) (hc : ∀ c ∈ cc, c.length < 100000) :
    ∃ v h', run fuel (d + 7) F_rup_New [.int .i64 (n : Int), .slice s] h = some (v, h') ∧ NewPost h0 n cc R v h' (okCC n cc) := by
  rw [e_rup_New, cut_run _ _ _ _ (by omega) (by omega)]
  simp only [Option.bind_some, int_int]
  have s1 := (hs.addMap).cons
  have s2 := (s1.push 1 6 (cs := [.int .i64 (n : Int), .slice Sl.nil, .slice Sl.nil, .map (some h.maps.length), .slice Sl.nil, .int .i64 0]) rfl).cons
  have s3 := ((s2.addNil 1).cons).toPart (i := 0) rfl
  rw [set0] at s3
  have s4 := ((s3.addNil 1).cons).toPart (i := 0) rfl
  rw [set0] at s4
  have s5 := ((s4.addNil 1).cons).toPart (i := 0) rfl
  rw [set0] at s5
  have s6 : Sep0 h0 (h.newMap.push 1 [.int .i64 (n : Int), .slice Sl.nil, .slice Sl.nil, .map (some h.maps.length), .slice Sl.nil, .int .i64 0]) (bAll h0.maps.length ⟨h.newMap.next, h.maps.length, .nil, .nil, .nil, []⟩ n [] R) := by
    refine s5.perm ?_
    show List.Perm _ (_ :: _ :: _ :: _ :: _ :: (R ++ []))
    rw [List.append_nil]
    exact List.perm_middle (l₁ := [_, _, _])
  have hb : BOk ⟨h.newMap.next, h.maps.length, .nil, .nil, .nil, []⟩ n [] := ⟨fun x => rfl, (fun l hl => by cases hl), by simp, hn, (fun l hl => by cases hl)⟩
  have hlen := (hS h hs).len
  rw [hlen]
  have := new_loop (n := n) fuel d hd hf hS hl hc fuel 0 _ _ (by omega) (by omega) hb s6
  rw [List.drop_zero, Int.natCast_zero] at this
  exact this
theorem len_run2 (fuel d : Nat) (hs : Sep0 h0 h (bAll h0.maps.length b n cl R)) : run fuel (d + 1) F_rup_Base_Len [.ptr (bP b)] h = some (.int .i64 ((thereB cl).length : Int), h) := by
  have c5 : h.cell (.mk ⟨b.B, 0, 0 + 5⟩ 6) = some (.int .i64 ((thereB cl).length : Int)) := hs.part (i := 0) rfl (by omega) rfl
  rw [e_rup_Base_Len]
  simp only [chk_mk, field_mk, Option.bind_some, c5, int_int]
/-- what follows of literals, told by their variables -/
def rupClo (n : Nat) (cc : List (List Int)) (S : List Int) : Option (List Int) :=
  if okCC n cc = true ∧ litsOk n S = true then (closeV (byF (normC cc)) (byC (normC cc) (idsP smallP (normC cc))) n (n + 2) S).map knownOf else none
def CloPost (h0 : AHeap) (R : List Chunk) (v : AVal) (h' : AHeap) : Option (List Int) → Prop
  | none => v = .tup [.slice .nil, .bool false] ∧ Sep0 h0 h' R
  | some l => ∃ s', v = .tup [.slice s', .bool true] ∧ Sep0 h0 h' (.grown 1 s' (intsC l) :: R)
end
end Go.Proofs.YtdmbfmgebgdfnaaDoor

namespace Go.Proofs.YtdmbfmgebgdfnaaDoor
open Go.RowKit

/-! the search of a base whose clauses are cc -/
theorem there_norm (cc : List (List Int)) : thereB (normC cc) = cc.map normL := by
  unfold thereB normC
  induction cc with
  | nil => rfl
  | cons c cc ih => rw [List.map_cons, List.map_cons, List.filterMap_cons]; simp [ih]
theorem mem_there {cl : BaseL} {c : List Int} : c ∈ thereB cl ↔ ∃ i, atB cl i = some c := by
  unfold thereB
  rw [List.mem_filterMap]
  constructor
  · rintro ⟨o, ho, rfl⟩
    obtain ⟨i, hi, e⟩ := List.mem_iff_getElem.1 ho
    refine ⟨i, ?_⟩
    unfold atB
    rw [List.getD_eq_getElem?_getD, List.getElem?_eq_getElem hi]
    exact e
  · rintro ⟨i, hi⟩
    exact ⟨some c, (atB_mem hi).1, rfl⟩
theorem mem_byC {cl : BaseL} {p : List Int → Bool} {c : List Int} : c ∈ byC cl (idsP p cl) ↔ c ∈ thereB cl ∧ p c = true := by
  unfold byC
  rw [List.mem_map]
  constructor
  · rintro ⟨i, hi, rfl⟩
    obtain ⟨l, h1, h2⟩ := mem_ids.1 hi
    rw [h1, Option.getD_some]
    exact ⟨mem_there.2 ⟨i, h1⟩, h2⟩
  · rintro ⟨h1, h2⟩
    obtain ⟨i, hi⟩ := mem_there.1 h1
    exact ⟨i, mem_ids.2 ⟨c, hi, h2⟩, by rw [hi]; rfl⟩
section
variable {n : Nat} {cl : BaseL}
theorem closeB_ok (hb : ∀ l, some l ∈ cl → normL l = l ∧ ∀ x ∈ l, isLit x n = true) {S : List Int} (hS : ∀ l ∈ S, isLit l n = true) : match closeV (byF cl) (byC cl (idsP smallP cl)) n (n + 2) S with
    | none => Cfl (thereB cl) S
    | some v => IsClo (thereB cl) S (some (trueL v)) ∧ v.length = n + 1 ∧ (∀ x ∈ v, x = 0 ∨ x = 1 ∨ x = 2) ∧ v.getD 0 0 = 0 := by
  have hm : ∀ c ∈ thereB cl, some c ∈ cl := fun c hc => by
    obtain ⟨i, hi⟩ := mem_there.1 hc
    exact (atB_mem hi).1
  refine closeV_ok (C := thereB cl) (fun x c => ?_) (fun c => ?_) (fun c hc => ?_) (fun c hc => (hb c (hm c hc)).2) hS (by omega)
  · unfold byF
    rw [mem_byC]
    unfold hasP
    simp
  · rw [mem_byC]
    unfold smallP
    simp
  · rw [← (hb c (hm c hc)).1]
    exact normL_nodup c
/-- told by what follows -/
theorem clo_cases (hb : ∀ l, some l ∈ cl → normL l = l ∧ ∀ x ∈ l, isLit x n = true) {S : List Int} (hS : ∀ l ∈ S, isLit l n = true) :
    (closeV (byF cl) (byC cl (idsP smallP cl)) n (n + 2) S = none ∧ Cfl (thereB cl) S) ∨
    ∃ v, closeV (byF cl) (byC cl (idsP smallP cl)) n (n + 2) S = some v ∧ IsClo (thereB cl) S (some (trueL v)) ∧ knownOf v = knownT (trueL v) n := by
  have := closeB_ok hb hS
  cases hv : closeV (byF cl) (byC cl (idsP smallP cl)) n (n + 2) S with
  | none => rw [hv] at this; exact .inl ⟨rfl, this⟩
  | some v =>
    rw [hv] at this
    obtain ⟨h1, h2, h3, h4⟩ := this
    exact .inr ⟨v, rfl, h1, knownOf_T h3 h4 h2⟩
theorem implV_iff (hb : ∀ l, some l ∈ cl → normL l = l ∧ ∀ x ∈ l, isLit x n = true) {c : List Int} (hc : litsOk n c = true) : implV n cl c = true ↔ Imp (thereB cl) c := by
  unfold implV Imp
  have hS : ∀ l ∈ c.map (fun l => -l), isLit l n = true := fun l hl => by
    obtain ⟨x, hx, rfl⟩ := List.mem_map.1 hl
    rw [isLit_neg]
    exact List.all_eq_true.1 hc x hx
  rw [hc, Bool.true_and]
  rcases clo_cases hb hS with ⟨e, h⟩ | ⟨v, e, h, _⟩
  · rw [e]
    exact ⟨fun _ => h, fun _ => rfl⟩
  · rw [e]
    refine ⟨(fun h => by cases h), fun hcf => absurd hcf ?_⟩
    exact h.2
end

/-! skolemlaw21.first -/
theorem bAll_swap {h0 h : AHeap} {b c : Bs} {n m lo : Nat} {cl dl : BaseL} {R : List Chunk} (hs : Sep0 h0 h (bAll lo c m dl (bAll lo b n cl R))) : Sep0 h0 h (bAll lo b n cl (bAll lo c m dl R)) := by
  refine hs.perm ?_
  have e1 : ∀ (b : Bs) (n : Nat) (cl : BaseL) (X : List Chunk), bAll lo b n cl X = b5 lo b n cl [] ++ (X ++ chK b.ks) := fun b n cl X => rfl
  rw [e1 c, e1 b, e1 b, e1 c]
  generalize b5 lo c m dl [] = A
  generalize b5 lo b n cl [] = B
  generalize chK b.ks = K
  generalize chK c.ks = L
  have h1 : List.Perm (A ++ (B ++ (R ++ K) ++ L)) ((A ++ B) ++ (R ++ (K ++ L))) := by simp only [List.append_assoc]; exact List.Perm.refl _
  have h2 : List.Perm (B ++ (A ++ (R ++ L) ++ K)) ((B ++ A) ++ (R ++ (L ++ K))) := by simp only [List.append_assoc]; exact List.Perm.refl _
  exact h1.trans ((List.perm_append_comm.append ((List.Perm.refl R).append List.perm_append_comm)).trans h2.symm)
theorem impl_one : implV 1 (normC [[1], [-1]]) [] = true := by decide +kernel
theorem impl_zero : implV 1 (normC []) [] = false := by decide +kernel
theorem first21_run (fuel : Nat) {e : Nat} (he : 60 ≤ e) (hf : 2000000 < fuel) (h : AHeap) : run fuel e F_skolemlaw21_first [] h = some (.bool true, h) := by
  obtain ⟨d, rfl⟩ : ∃ d, e = d + 59 + 1 := ⟨e - 60, by omega⟩
  have key : ∃ h', brun fuel (d + 59 + 1) F_skolemlaw21_first [] AHeap.none = some (.bool true, h') := by
    rw [e_skolemlaw21_first]
    have g1 : GStays AHeap.none [] (Sl.lst 2 true [.slice (Sl.lst 1 true [.int .i64 1]), .slice (Sl.lst 1 true [.int .i64 (-1)])]) [[1], [-1]] := fun h _ =>
      ⟨[Sl.lst 1 true [.int .i64 1], Sl.lst 1 true [.int .i64 (-1)]], rfl, rfl, fun k s' c h1 h2 => by
        match k with
        | 0 => cases h1; cases h2; rfl
        | 1 => cases h1; cases h2; rfl
        | k + 2 => cases h1⟩
    obtain ⟨v, h1, e1, hp⟩ := new_run (n := 1) fuel (d + 52) (by omega) hf (by omega) (Sep0.start AHeap.none) g1 (by simp) (fun c hc => by
      simp only [List.mem_cons, List.not_mem_nil, or_false] at hc
      rcases hc with rfl | rfl <;> simp)
    rw [show okCC 1 [[1], [-1]] = true from by decide] at hp
    obtain ⟨b, rfl, hb, s1⟩ := hp
    rw [show run fuel (d + 59) F_rup_New [.int .i64 1, .slice (Sl.lst 2 true [.slice (Sl.lst 1 true [.int .i64 1]), .slice (Sl.lst 1 true [.int .i64 (-1)])])] AHeap.none = _ from e1]
    simp only [Option.bind_some, tup2, cond_true, comp0, comp1, ptr_ptr, nilTest_ptr_mk, nilTest_nilif, beq_self_eq_true, Bool.not_true, bool_bool, cond_false]
    have g2 : GStays AHeap.none (bAll AHeap.none.maps.length b 1 (normC [[1], [-1]]) []) .nil [] := fun h _ => ⟨[], rfl, rfl, fun k s' c h1 => by cases h1⟩
    obtain ⟨v, h2, e2, hp⟩ := new_run (n := 1) fuel (d + 52) (by omega) hf (by omega) s1 g2 (by simp) (fun c hc => by cases hc)
    rw [show okCC 1 [] = true from by decide] at hp
    obtain ⟨c, rfl, hc, s2⟩ := hp
    rw [show run fuel (d + 59) F_rup_New [.int .i64 1, .slice Sl.nil] h1 = _ from e2]
    simp only [Option.bind_some, tup2, cond_true, comp0, comp1, ptr_ptr]
    obtain ⟨h3, e3, s3⟩ := implied_run (d := d + 52) fuel hb hf (bAll_swap s2) (s := .nil) (c := []) (fun h _ => rfl) (by simp)
    rw [impl_one] at e3
    rw [show run fuel (d + 59) F_rup_Base_Implied [.ptr (bP b), .slice .nil] h2 = _ from e3]
    simp only [Option.bind_some, bool_bool, beq_self_eq_true, cond_true, nilTest_ptr_mk, Bool.not_false]
    obtain ⟨h4, e4, s4⟩ := implied_run (d := d + 52) fuel hc hf (bAll_swap s3) (s := .nil) (c := []) (fun h _ => rfl) (by simp)
    rw [impl_zero] at e4
    rw [show run fuel (d + 59) F_rup_Base_Implied [.ptr (bP c), .slice .nil] h3 = _ from e4]
    exact ⟨h4, rfl⟩
  obtain ⟨h', e⟩ := key
  exact pure_of rfl rfl canonL_nil e rfl
end Go.Proofs.YtdmbfmgebgdfnaaDoor

namespace Go.Proofs.YtdmbfmgebgdfnaaDoor
open Go.RowKit

/-! skolemworld.Number -/
def numI (n b : Int) : Int := bif decide (Int.tmod n b < 0) then IntKind.wrap .i64 (Int.tmod n b + b) else Int.tmod n b
theorem Number_run (fuel d : Nat) {n b : Int} (hb : b ≠ 0) (h : AHeap) : run fuel (d + 1) F_skolemworld_Number [.int .i64 n, .int .i64 b] h = some (.int .i64 (numI n b), h) :=
  pure_of rfl rfl (cc2 rfl rfl) (by
    rw [e_skolemworld_Number, bif_neg hb]
    show _ = some (AVal.int .i64 (numI n b), AHeap.none)
    unfold numI
    cases decide (Int.tmod n b < 0) <;> rfl) rfl
theorem numI_range {n b : Int} (hb : 0 < b) (hb2 : b ≤ 9223372036854775807) : 0 ≤ numI n b ∧ numI n b < b := by
  have h1 := Int.tmod_lt_of_pos n hb
  have h2 : -b < Int.tmod n b := by
    have := Int.neg_lt_of_neg_lt (a := Int.tmod n b) (b := b)
    have h3 := Int.tmod_lt_of_pos (-n) hb
    rw [Int.neg_tmod] at h3
    omega
  unfold numI
  by_cases h0 : Int.tmod n b < 0
  · rw [decide_eq_true h0, cond_true, wrap64 (by omega) (by omega)]; omega
  · rw [decide_eq_false h0, cond_false]; omega

end Go.Proofs.YtdmbfmgebgdfnaaDoor

namespace Go.Proofs.YtdmbfmgebgdfnaaDoor
open Go.RowKit

/-! skolemmake.Lit -/
def litI (n vars : Int) : Int := bif decide (numI n (2 * vars) < vars) then numI n (2 * vars) + 1 else vars - numI n (2 * vars) - 1
theorem Lit_run (fuel d : Nat) {n vars : Int} (h1 : 0 < vars) (h2 : vars ≤ 1000000) (h : AHeap) : run fuel (d + 2) F_skolemmake_Lit [.int .i64 n, .int .i64 vars] h = some (.int .i64 (litI n vars), h) := by
  have hr := numI_range (n := n) (b := 2 * vars) (by omega) (by omega)
  refine pure_of rfl rfl (cc2 rfl rfl) (r := .int .i64 (litI n vars)) (h' := AHeap.none) ?_ rfl
  rw [e_skolemmake_Lit, wrap64 (n := 2 * vars) (by omega) (by omega), Number_run fuel d (by omega)]
  simp only [Option.bind_some, int_int]
  unfold litI
  by_cases h0 : numI n (2 * vars) < vars
  · rw [decide_eq_true h0, cond_true, cond_true, wrap64 (by omega) (by omega)]
  · rw [decide_eq_false h0, cond_false, cond_false, wrap64 (n := vars - numI n (2 * vars)) (by omega) (by omega), wrap64 (by omega) (by omega)]
theorem litI_range {n vars : Int} (h1 : 0 < vars) (h2 : vars ≤ 1000000) : litI n vars ≠ 0 ∧ -vars ≤ litI n vars ∧ litI n vars ≤ vars := by
  have hr := numI_range (n := n) (b := 2 * vars) (by omega) (by omega)
  unfold litI
  by_cases h0 : numI n (2 * vars) < vars
  · rw [decide_eq_true h0, cond_true]; omega
  · rw [decide_eq_false h0, cond_false]; omega

end Go.Proofs.YtdmbfmgebgdfnaaDoor

namespace Go.Proofs.YtdmbfmgebgdfnaaDoor
open Go.RowKit

/-! skolemmake.Clauses -/
def clLit (n vars : Int) : Int := litI (IntKind.wrap .i64 (Int.tdiv (numI n 1099511627776) 7)) vars
def clCut (n : Int) (c : List Int) : Bool := (decide (numI n 7 = 0) && decide (0 < c.length)) || decide (5 ≤ c.length)
def clGo (vars : Int) : List Int → List (List Int) → List Int → List (List Int)
  | [], cc, c => if c = [] then cc else cc ++ [c]
  | n :: l, cc, c => if clCut n c = true then clGo vars l (cc ++ [c]) [clLit n vars] else clGo vars l cc (c ++ [clLit n vars])
def clausesI (l : List Int) (vars : Int) : List (List Int) := if vars < 1 then [] else clGo vars l [] []

theorem clauses_loop (fuel d : Nat) {l : List Int} {vars : Int} (hv : 0 < vars) (hv' : vars ≤ 1000000) (hl : l.length < 1000000) {h0 : AHeap} : ∀ (n k : Nat) (cc : List (List Int)) (c : List Int) (s5 s6 : Sl) (h : AHeap), l.length < n + k → k ≤ l.length → cc.length ≤ k → c.length ≤ k →
    Sep0 h0 h [.grown 1 s5 (gridC cc), .grown 1 s6 (intsC c)] →
    ∃ s' h', (l_skolemmake_Clauses_0 fuel (d + 2) n [(0, .slice (lstI l)), (1, .int .i64 vars), (5, .slice s5), (6, .slice s6), (7, .int .i64 (k : Int))] h).bind (fun p => k_skolemmake_Clauses_0 fuel (d + 2) p.1 p.2.1 p.2.2) = some (.slice s', h') ∧
      New h0 h' (.grown 1 s' (gridC (clGo vars (l.drop k) cc c))) := by
  intro n
  induction n with
  | zero => intro k cc c s5 s6 h h1 h2; omega
  | succ n ih =>
    intro k cc c s5 s6 h h1 h2 h3 h4 hs
    have l5 := hs.len (i := 0) rfl
    have l6 := hs.len (i := 1) rfl
    simp only [List.length_map, Nat.mul_one] at l5 l6
    rw [l_skolemmake_Clauses_0_eq, len_lst]
    by_cases hk : k < l.length
    · rw [bif_pos (by omega), drop_get hk 0, addr_lstM _ (by omega) (by omega) 0]
      simp only [Option.bind_some, cell_fp, int_int, Int.toNat_natCast, Number_run fuel (d + 1) (show (7 : Int) ≠ 0 by decide), ← l6]
      have hcut : (bif (bif decide (numI (l.getD k 0) 7 = 0) then decide ((0 : Int) < (c.length : Int)) else false) then true else decide ((5 : Int) ≤ (c.length : Int))) = clCut (l.getD k 0) c := by
        unfold clCut
        have e1 : decide ((0 : Int) < (c.length : Int)) = decide (0 < c.length) := by congr 1; simp
        have e2 : decide ((5 : Int) ≤ (c.length : Int)) = decide (5 ≤ c.length) := by congr 1; simp; omega
        rw [e1, e2]
        cases decide (numI (l.getD k 0) 7 = 0) <;> cases decide (0 < c.length) <;> cases decide (5 ≤ c.length) <;> rfl
      rw [hcut]
      simp only [clGo]
      have step : ∀ (cc : List (List Int)) (c : List Int) (s5 s6 : Sl) (h : AHeap), cc.length ≤ k + 1 → c.length ≤ k → Sep0 h0 h [.grown 1 s5 (gridC cc), .grown 1 s6 (intsC c)] →
          ∃ s' h', (k_skolemmake_Clauses_1 fuel (d + 2) n .normal [(0, .slice (lstI l)), (1, .int .i64 vars), (5, .slice s5), (6, .slice s6), (7, .int .i64 (k : Int))] h).bind (fun p => k_skolemmake_Clauses_0 fuel (d + 2) p.1 p.2.1 p.2.2) = some (.slice s', h') ∧
            New h0 h' (.grown 1 s' (gridC (clGo vars (l.drop (k + 1)) cc (c ++ [clLit (l.getD k 0) vars])))) := by
        intro cc c s5 s6 h h3 h4 hs
        have l6 := hs.len (i := 1) rfl
        simp only [List.length_map, Nat.mul_one] at l6
        obtain ⟨s', h', e1, e2, e3⟩ := hs.grow (i := 1) (bytes := 8) (m := 1) (vs := [.int .i64 (clLit (l.getD k 0) vars)]) rfl rfl (by omega) (by omega)
        rw [k_skolemmake_Clauses_1_n, addr_lstM _ (by omega) (by omega) 0]
        simp only [Option.bind_some, cell_fp, int_int, Int.toNat_natCast, Number_run fuel (d + 1) (show (1099511627776 : Int) ≠ 0 by decide)]
        rw [Lit_run fuel d hv hv']
        have e1' : AHeap.append h false 1 8 s6 1 [.int .i64 (litI (IntKind.wrap .i64 (Int.tdiv (numI (l.getD k 0) 1099511627776) 7)) vars)] = some (s', h') := e1
        simp only [Option.bind_some, int_int, e1']
        rw [succI (by omega)]
        refine ih (k + 1) cc (c ++ [clLit (l.getD k 0) vars]) s5 s' h' (by omega) (by omega) (by omega) (by simp; omega) ?_
        rw [intsC_append]
        exact e2
      cases hc : clCut (l.getD k 0) c with
      | true =>
        obtain ⟨h5, f1, f2⟩ := hs.fix (i := 1) (sz := 1) (s := s6) (cs := intsC c) rfl (closedL_map (fun _ => rfl) c) 1
        obtain ⟨s', h', e1, e2, e3⟩ := f2.grow (i := 0) (sz := 1) (s := s5) (cs := gridC cc) (bytes := 24) (m := 1) (vs := [.slice (lstI c)]) rfl rfl (by omega) (by omega)
        have hfx : h.fixL [.slice s6] = ([.slice (lstI c)], h5) := by rw [fixL_one, f1, ← l6]
        simp only [cond_true, hfx, e1, Option.bind_some, if_true]
        exact step (cc ++ [c]) [] s' .nil h' (by simp; omega) (by simp) (by rw [gridC_append]; exact e2)
      | false =>
        simp only [cond_false, Option.bind_some, Bool.false_eq_true, if_false]
        exact step cc c s5 s6 h (by omega) h4 hs
    · have : k = l.length := by omega
      subst this
      rw [bif_neg (by omega), List.drop_eq_nil_of_le (by omega)]
      simp only [Option.bind_some, k_skolemmake_Clauses_0_x0, clGo, ← l6]
      by_cases h0 : c = []
      · subst h0
        rw [bif_neg (by simp)]
        exact ⟨s5, h, rfl, hs.get (i := 0) rfl⟩
      · have : 0 < c.length := List.length_pos_iff.2 h0
        rw [bif_pos (by omega), if_neg h0]
        obtain ⟨h5, f1, f2⟩ := hs.fix (i := 1) (sz := 1) (s := s6) (cs := intsC c) rfl (closedL_map (fun _ => rfl) c) 1
        obtain ⟨s', h', e1, e2, e3⟩ := f2.grow (i := 0) (sz := 1) (s := s5) (cs := gridC cc) (bytes := 24) (m := 1) (vs := [.slice (lstI c)]) rfl rfl (by omega) (by omega)
        have hfx : h.fixL [.slice s6] = ([.slice (lstI c)], h5) := by rw [fixL_one, f1, ← l6]
        simp only [hfx, e1, Option.bind_some]
        refine ⟨s', h', rfl, ?_⟩
        rw [gridC_append]
        exact e2.get (i := 0) rfl

theorem Clauses_body (fuel d : Nat) {l : List Int} {vars : Int} (hv' : vars ≤ 1000000) (hl : l.length < 1000000) (hf : l.length < fuel) (h : AHeap) :
    ∃ s h', (bif (decide (vars < (1 : Int))) then (some ((AVal.slice Sl.nil), h)) else ((l_skolemmake_Clauses_0 fuel (d + 2) fuel [(0, (AVal.slice (lstI l))), (1, (AVal.int .i64 vars)), (5, (AVal.slice Sl.nil)), (6, (AVal.slice Sl.nil)), (7, (AVal.int .i64 (0 : Int)))] h).bind fun p1 => k_skolemmake_Clauses_0 fuel (d + 2) p1.1 p1.2.1 p1.2.2)) = some (.slice s, h') ∧ New h h' (.grown 1 s (gridC (clausesI l vars))) := by
  unfold clausesI
  by_cases hv : vars < 1
  · rw [bif_pos hv, if_pos hv]
    exact ⟨_, _, rfl, Keeps.refl _ _, .nil, fun r hr => by cases hr⟩
  · rw [bif_neg hv, if_neg hv]
    obtain ⟨s', h', e1, e2⟩ := clauses_loop fuel d (l := l) (vars := vars) (by omega) hv' hl (h0 := h) fuel 0 [] [] .nil .nil h (by omega) (by omega) (by simp) (by simp) ((((Sep0.start h).addNil 1).addNil 1))
    rw [show ((0 : Nat) : Int) = 0 from rfl] at e1
    rw [List.drop_zero] at e2
    exact ⟨s', h', e1, e2⟩

/-! The clauses are right; how long they are. -/
theorem clGo_lits {vars : Int} (hv : 0 < vars) (hv' : vars ≤ 1000000) : ∀ (l : List Int) (cc : List (List Int)) (c : List Int), (∀ b ∈ cc, ∀ x ∈ b, x ≠ 0 ∧ -vars ≤ x ∧ x ≤ vars) → (∀ x ∈ c, x ≠ 0 ∧ -vars ≤ x ∧ x ≤ vars) → ∀ b ∈ clGo vars l cc c, ∀ x ∈ b, x ≠ 0 ∧ -vars ≤ x ∧ x ≤ vars
  | [], cc, c, h1, h2 => by
    unfold clGo
    split
    · exact h1
    · intro b hb
      rcases List.mem_append.1 hb with hb | hb
      · exact h1 b hb
      · rw [List.mem_singleton.1 hb]; exact h2
  | n :: l, cc, c, h1, h2 => by
    have hl : clLit n vars ≠ 0 ∧ -vars ≤ clLit n vars ∧ clLit n vars ≤ vars := litI_range hv hv'
    unfold clGo
    split
    · refine clGo_lits hv hv' l _ _ (fun b hb => ?_) fun x hx => by rw [List.mem_singleton.1 hx]; exact hl
      rcases List.mem_append.1 hb with hb | hb
      · exact h1 b hb
      · rw [List.mem_singleton.1 hb]; exact h2
    · refine clGo_lits hv hv' l _ _ h1 fun x hx => ?_
      rcases List.mem_append.1 hx with hx | hx
      · exact h2 x hx
      · rw [List.mem_singleton.1 hx]; exact hl
theorem clausesI_lits {vars : Int} (hv' : vars ≤ 1000000) (l : List Int) : ∀ b ∈ clausesI l vars, ∀ x ∈ b, x ≠ 0 ∧ -vars ≤ x ∧ x ≤ vars := by
  unfold clausesI
  split
  · intro b hb; cases hb
  · exact clGo_lits (by omega) hv' l [] [] (fun b h => by cases h) fun x h => by cases h
theorem clGo_total {vars : Int} : ∀ (l : List Int) (cc : List (List Int)) (c : List Int), totalI (clGo vars l cc c) = totalI cc + c.length + l.length
  | [], cc, c => by
    unfold clGo totalI
    split
    · rename_i h; subst h; simp
    · simp
  | n :: l, cc, c => by
    unfold clGo
    split
    · rw [clGo_total l]; simp [totalI]; omega
    · rw [clGo_total l]; simp; omega
theorem clGo_full {vars : Int} : ∀ (l : List Int) (cc : List (List Int)) (c : List Int), (∀ b ∈ cc, b ≠ []) → ∀ b ∈ clGo vars l cc c, b ≠ []
  | [], cc, c, h => by
    unfold clGo
    split
    · exact h
    · rename_i h0
      intro b hb
      rcases List.mem_append.1 hb with hb | hb
      · exact h b hb
      · rw [List.mem_singleton.1 hb]; exact h0
  | n :: l, cc, c, h => by
    unfold clGo
    split
    · rename_i hc
      refine clGo_full l _ _ fun b hb => ?_
      rcases List.mem_append.1 hb with hb | hb
      · exact h b hb
      · rw [List.mem_singleton.1 hb]
        rintro rfl
        simp [clCut] at hc
    · exact clGo_full l _ _ h
theorem total_bound : ∀ {cc : List (List Int)}, (∀ b ∈ cc, b ≠ []) → cc.length ≤ totalI cc ∧ ∀ b ∈ cc, b.length ≤ totalI cc
  | [], _ => ⟨Nat.le_refl _, fun b h => by cases h⟩
  | c :: cc, h => by
    obtain ⟨h1, h2⟩ := total_bound (cc := cc) fun b hb => h b (List.mem_cons_of_mem _ hb)
    have h0 := List.length_pos_iff.2 (h c (List.mem_cons_self ..))
    have e : totalI (c :: cc) = c.length + totalI cc := by simp [totalI]
    refine ⟨by rw [e, List.length_cons]; omega, fun b hb => ?_⟩
    rcases List.mem_cons.1 hb with rfl | hb
    · omega
    · have := h2 b hb; omega
theorem clausesI_size (l : List Int) (vars : Int) : (clausesI l vars).length ≤ l.length ∧ totalI (clausesI l vars) ≤ l.length ∧ ∀ b ∈ clausesI l vars, b.length ≤ l.length := by
  unfold clausesI
  split
  · exact ⟨by simp, by simp [totalI], fun b h => by cases h⟩
  · have e := clGo_total (vars := vars) l [] []
    simp only [totalI, List.map_nil, List.sum_nil, List.length_nil, Nat.zero_add] at e
    obtain ⟨h1, h2⟩ := total_bound (clGo_full (vars := vars) l [] [] fun b h => by cases h)
    unfold totalI at h1 h2
    exact ⟨by omega, by unfold totalI; omega, fun b hb => by have := h2 b hb; omega⟩

end Go.Proofs.YtdmbfmgebgdfnaaDoor

namespace Go.Proofs.YtdmbfmgebgdfnaaDoor
open Go.RowKit

section
variable {h0 h : AHeap} {b : Bs} {R : List Chunk} {n : Nat} {cl : BaseL}
theorem bAll_in {c : Chunk} {lo : Nat} (hs : Sep0 h0 h (c :: bAll lo b n cl R)) : Sep0 h0 h (bAll lo b n cl (c :: R)) := hs.perm (mid5 _ _ _ _ _ _ _)
end
end Go.Proofs.YtdmbfmgebgdfnaaDoor

namespace Go.Proofs.YtdmbfmgebgdfnaaDoor
open Go.RowKit

section
variable {h0 h : AHeap} {L : List Chunk}
/-- the last elements of a part set to nothing -/
theorem Part.clear1 {s : Sl} {cs : List AVal} (hp : Part h 1 s cs) {lo : Nat} (hlo : lo ≤ s.len) (z : AVal) :
    ∃ h', h.clear false [z] 1 (s.cut 1 lo s.len false) = some h' ∧ Part h' 1 s (cs.take lo ++ List.replicate (s.len - lo) z) ∧ Keeps h h' (fun i => s.row = some i) := by
  have hlen := hp.len
  rw [Nat.mul_one] at hlen
  by_cases h0 : s.len - lo = 0
  · have hcl : (s.cut 1 lo s.len false).len = 0 := by
      rw [cut_len (fun e => by subst e; simp [Sl.len])]
      exact h0
    refine ⟨h, by simp only [AHeap.clear, hcl]; rfl, ?_, Keeps.refl _ _⟩
    rw [h0, List.replicate_zero, List.append_nil, List.take_of_length_le (by omega)]
    exact hp
  · obtain ⟨id, gen, off, n, c, row, rfl, q0, q1, q2, q3, q4, q5, q6, q7⟩ := hp.open (by omega)
    simp only [Sl.len, Nat.mul_one] at hlo hlen h0 q2 q3
    have hlt := (List.getElem?_eq_some_iff.1 q1).1
    have hle : off + lo + (n - lo) ≤ row.cells.length := by omega
    refine ⟨h.setRow id { row with cells := AHeap.overlay row.cells (off + lo) (List.replicate (n - lo) z), valid := row.gen }, ?_, ?_, (Keeps.setRow h id _).mono fun i _ e => by subst e; exact Sl.row_mk q0 c⟩
    · rw [show (Sl.mk ⟨id, gen, off⟩ n c).len = n from rfl, cut_eq]
      simp only [AHeap.clear, Sl.len, beq_eq, h0, decide_false, cond_false, q1, q7, decide_true, cond_true, AHeap.store, q6, Bool.not_false, repeat_one, List.length_replicate, ble_eq, Nat.mul_one, hle, Bool.and_self, q4]
    · refine .cut (row := { row with cells := AHeap.overlay row.cells (off + lo) (List.replicate (n - lo) z), valid := row.gen }) (fun _ => q0) ?_ ?_ ?_ q4 (by rw [← q4]; exact Nat.le_refl _) q6 q7
      · simp only [AHeap.setRow]
        exact List.getElem?_set_self hlt
      · simp only [AHeap.overlay, List.length_append, List.length_take, List.length_drop, List.length_replicate]
        omega
      · have hR : row.cells = row.cells.take off ++ row.cells.drop off := (List.take_append_drop off row.cells).symm
        have hA : (row.cells.take off).length = off := by rw [List.length_take]; omega
        have hB : n ≤ (row.cells.drop off).length := by rw [List.length_drop]; omega
        have := overlay_cut (row.cells.take off) (row.cells.drop off) (List.replicate (n - lo) z) (N := n) (k := lo) hB (by simp; omega)
        rw [← hR, hA] at this
        simp only [AHeap.overlay, Nat.mul_one]
        have e9 : List.drop (lo + (List.replicate (n - lo) z).length) (List.take n (row.cells.drop off)) = [] := List.drop_eq_nil_of_le (by simp; omega)
        rw [this, q3, show (Sl.mk ⟨id, gen, off⟩ n c).len = n from rfl, e9, List.append_nil]
theorem Sep0.clearP (hs : Sep0 h0 h L) {i : Nat} {s : Sl} {cs : List AVal} (hi : L[i]? = some (.part 1 s cs)) {lo : Nat} (hlo : lo ≤ s.len) (z : AVal) :
    ∃ h', h.clear false [z] 1 (s.cut 1 lo s.len false) = some h' ∧ Sep0 h0 h' (L.set i (.part 1 s (cs.take lo ++ List.replicate (s.len - lo) z))) := by
  obtain ⟨h', e1, e2, e3⟩ := (hs.sep.partOf hi).clear1 hlo z
  have hf : ∀ r, s.row = some r → h0.rows.length ≤ r := fun r hr => hs.fresh _ (List.mem_of_getElem? hi) r hr
  refine ⟨h', e1, hs.sep.set hi e3 e2 (fun r hr => .inl hr), keeps_new hs.ext e3 hf, fun c hc r hr => ?_⟩
  rcases mem_set hc with hc | rfl
  · exact hs.fresh c hc r hr
  · exact hf r hr
/-- a number of a part written -/
theorem Sep0.putI (hs : Sep0 h0 h L) {i : Nat} {s : Sl} {l : List Int} (hi : L[i]? = some (.part 1 s (intsC l))) {k : Nat} (hk : k < l.length) (x : Int) :
    ∃ h', (∀ {β : Type} (K : AHeap → Option β), ((h.addr 1 s (k : Int)).bind fun p => (h.storeAt [.int .i64 x] p).bind K) = K h') ∧ Sep0 h0 h' (L.set i (.part 1 s (intsC (l.set k x)))) := by
  have hl := hs.lenP hi
  simp only [List.length_map, Nat.mul_one] at hl
  have hc := hs.cellsP hi
  obtain ⟨p, h', e1, e2, s1⟩ := hs.putP (k := k) (o := 0) (vs := [.int .i64 x]) hi (by omega) (by simp)
  refine ⟨h', fun K => ?_, ?_⟩
  · have hp : p = s.at 1 (k : Int) := by
      cases s with
      | nil => rw [show Sl.nil.len = 0 from rfl] at hl; omega
      | mk r n c => simp only [Sl.at, Pt.field, Nat.add_zero] at e1; exact (Option.some.inj e1).symm
      | lst n c cs => exact absurd (hs.sep.partOf hi) (by intro h; cases h with | of h => cases h)
    rw [addr_at hc (by omega) (by omega), Option.bind_some, ← hp, e2, Option.bind_some]
  · have : (intsC l).take (k * 1 + 0) ++ [AVal.int .i64 x] ++ (intsC l).drop (k * 1 + 0 + 1) = intsC (l.set k x) := by
      rw [List.set_eq_take_append_cons_drop, if_pos hk]
      simp
    rw [List.length_singleton, this] at s1
    exact s1
end

/-- what is kept of the first j -/
def keepN (p : Int → Bool) (l : List Int) (j : Nat) : List Int := (l.take j).filter fun x => !p x
theorem keepN_le (p : Int → Bool) (l : List Int) (j : Nat) : (keepN p l j).length ≤ j := by
  unfold keepN
  exact Nat.le_trans (List.length_filter_le _ _) (by rw [List.length_take]; omega)
theorem keepN_succ (p : Int → Bool) {l : List Int} {j : Nat} (hj : j < l.length) : keepN p l (j + 1) = keepN p l j ++ (if p (l.getD j 0) = true then [] else [l.getD j 0]) := by
  unfold keepN
  rw [take_get hj 0, List.filter_append]
  congr 1
  by_cases h : p (l.getD j 0) = true
  · rw [if_pos h, List.filter_cons, List.filter_nil, h]; rfl
  · rw [if_neg h, List.filter_cons, List.filter_nil]
    simp only [Bool.not_eq_true] at h
    rw [h]; rfl
section
variable {h0 : AHeap}
theorem df_loop (fuel d : Nat) {l : List Int} (hl : l.length < 1000000000) {s : Sl} {f : Nat} {r : Ref} {lim : Nat} {p : Int → Bool} {R : List Chunk} (hp : ∀ (h : AHeap), Sep0 h0 h R → ∀ x ∈ l, run fuel d f [.int .i64 x, .ptr (.mk r lim)] h = some (.bool (p x), h)) : ∀ (n j : Nat) (h : AHeap), l.length < n + j → j ≤ l.length → Sep0 h0 h (.part 1 s (intsC (keepN p l j ++ l.drop (keepN p l j).length)) :: R) →
    ∃ h', l_slices_DeleteFunc_s_int_int_0 fuel d n [(0, .slice s), (1, .func f [.mk r lim]), (5, .int .i64 ((keepN p l j).length : Int)), (6, .int .i64 (j : Int))] h = some (.exit 0, [(0, .slice s), (5, .int .i64 ((keepN p l l.length).length : Int))], h') ∧ Sep0 h0 h' (.part 1 s (intsC (keepN p l l.length ++ l.drop (keepN p l l.length).length)) :: R) := by
  intro n
  induction n with
  | zero => intro j h h1 h2; omega
  | succ n ih =>
    intro j h h1 h2 hs
    have hkl := keepN_le p l j
    have hlen := hs.lenP (i := 0) rfl
    simp only [List.length_map, List.length_append, List.length_drop, Nat.mul_one] at hlen
    have hsl : s.len = l.length := by omega
    rw [l_slices_DeleteFunc_s_int_int_0_eq, hsl]
    by_cases hj : j < l.length
    · have hm : l.getD j 0 ∈ l := by rw [List.getD_eq_getElem?_getD, List.getElem?_eq_getElem hj]; exact List.getElem_mem hj
      have hget : (intsC (keepN p l j ++ l.drop (keepN p l j).length))[((j : Nat) : Int).toNat]? = some (.int .i64 (l.getD j 0)) := by
        rw [Int.toNat_natCast, List.getElem?_map, List.getElem?_append_right (by omega), List.getElem?_drop, show (keepN p l j).length + (j - (keepN p l j).length) = j by omega, List.getElem?_eq_getElem hj]
        simp [hj]
      rw [bif_pos (by omega), read1 (hs.cellsP (i := 0) rfl) (by omega) hget]
      simp only [Option.bind_some, int_int, List.map_cons, List.map_nil, List.cons_append, List.nil_append, hp h hs.tl _ hm, bool_bool]
      have hks := keepN_succ p hj
      cases hpx : p (l.getD j 0) with
      | true =>
        rw [if_pos hpx, List.append_nil] at hks
        simp only [Bool.not_true, cond_false]
        rw [succI (by omega), ← hks]
        exact ih (j + 1) h (by omega) (by omega) (by rw [hks]; exact hs)
      | false =>
        rw [if_neg (by rw [hpx]; simp)] at hks
        simp only [Bool.not_false, cond_true]
        obtain ⟨h', e1, s1⟩ := hs.putI (i := 0) rfl (k := (keepN p l j).length) (by simp; omega) (l.getD j 0)
        rw [set0] at s1
        rw [e1, succI (by omega), succI (by omega)]
        have hlk : (keepN p l (j + 1)).length = (keepN p l j).length + 1 := by rw [hks]; simp
        rw [← hlk]
        refine ih (j + 1) h' (by omega) (by omega) ?_
        have : (keepN p l j ++ l.drop (keepN p l j).length).set (keepN p l j).length (l.getD j 0) = keepN p l (j + 1) ++ l.drop (keepN p l (j + 1)).length := by
          rw [hlk, hks, List.set_append_right _ _ (Nat.le_refl _), Nat.sub_self, List.drop_eq_getElem_cons (by omega), List.set_cons_zero, List.append_assoc]
          rfl
        rw [← this]
        exact s1
    · have : j = l.length := by omega
      subst this
      rw [bif_neg (by omega)]
      exact ⟨h, rfl, hs⟩
theorem idxF_neg (p : Int → Bool) : ∀ (l : List Int) (k : Nat), idxF p l k = -1 ∨ ∃ j, j < l.length ∧ idxF p l k = ((k + j : Nat) : Int) ∧ p (l.getD j 0) = true ∧ ∀ i, i < j → p (l.getD i 0) = false
  | [], k => .inl rfl
  | x :: l, k => by
    unfold idxF
    by_cases h : p x = true
    · rw [if_pos h]
      exact .inr ⟨0, by simp, by simp, h, fun i hi => absurd hi (Nat.not_lt_zero i)⟩
    · rw [if_neg h]
      rcases idxF_neg p l (k + 1) with e | ⟨j, h1, h2, h3, h4⟩
      · exact .inl e
      · refine .inr ⟨j + 1, by simp; omega, by rw [h2]; omega, h3, fun i hi => ?_⟩
        cases i with
        | zero => simpa using h
        | succ i => exact h4 i (by omega)
theorem keepN_all {p : Int → Bool} {l : List Int} {j : Nat} (hj : j ≤ l.length) (h : ∀ i, i < j → p (l.getD i 0) = false) : keepN p l j = l.take j := by
  induction j with
  | zero => simp [keepN]
  | succ j ih =>
    rw [keepN_succ p (by omega), ih (by omega) (fun i hi => h i (by omega)), if_neg (by rw [h j (by omega)]; simp), take_get (by omega) 0]
/-- slices.DeleteFunc -/
theorem df_run (fuel d : Nat) {h : AHeap} {l : List Int} (hl : l.length < 1000000000) (hf : l.length < fuel) {s : Sl} {f : Nat} {r : Ref} {lim : Nat} {p : Int → Bool} {R : List Chunk} (hp : ∀ (d : Nat) (h : AHeap), Sep0 h0 h R → ∀ x ∈ l, run fuel (d + 1) f [.int .i64 x, .ptr (.mk r lim)] h = some (.bool (p x), h)) (hs : Sep0 h0 h (.part 1 s (intsC l) :: R)) :
    ∃ s' h', run fuel (d + 3) F_slices_DeleteFunc_s_int_int [.slice s, .func f [.mk r lim]] h = some (.slice s', h') ∧ Sep0 h0 h' (.part 1 s' (intsC (l.filter fun x => !p x)) :: R) := by
  have hlen := hs.lenP (i := 0) rfl
  simp only [List.length_map, Nat.mul_one] at hlen
  rw [run_body rfl (canonL_none2 rfl) (mapM_none2 rfl), e_slices_DeleteFunc_s_int_int, if_run fuel (d + 1) (hs.cellsP (i := 0) rfl) hl hf (hp d h hs.tl)]
  simp only [Option.bind_some, int_int]
  rcases idxF_neg p l 0 with e | ⟨j, h1, h2, h3, h4⟩
  · rw [e, bif_pos rfl]
    have hall : (l.filter fun x => !p x) = l := by
      rw [List.filter_eq_self]
      intro x hx
      have := idxF_any p l 0
      rw [e] at this
      have h9 : l.any p = false := this.symm
      rw [List.any_eq_false] at h9
      have := h9 x hx
      simpa using this
    rw [hall]
    exact ⟨s, h, rfl, hs⟩
  · rw [h2, Nat.zero_add, bif_neg (by omega), succI (by omega)]
    have hk := keepN_all (p := p) (by omega) h4
    have hk1 : keepN p l (j + 1) = keepN p l j := by rw [keepN_succ p h1, if_pos h3, List.append_nil]
    have hkl : (keepN p l (j + 1)).length = j := by rw [hk1, hk, List.length_take]; omega
    have s0 : Sep0 h0 h (.part 1 s (intsC (keepN p l (j + 1) ++ l.drop (keepN p l (j + 1)).length)) :: R) := by
      rw [hkl, hk1, hk, List.take_append_drop]
      exact hs
    obtain ⟨h5, e5, s5⟩ := df_loop fuel (d + 2) hl (s := s) (f := f) (r := r) (lim := lim) (p := p) (R := R) (hp (d + 1)) fuel (j + 1) h (by omega) (by omega) s0
    rw [hkl] at e5
    rw [e5]
    have hL := keepN_le p l l.length
    have hlen5 := s5.lenP (i := 0) rfl
    have hs5 := s5.cellsP (i := 0) rfl
    have hfil : keepN p l l.length = l.filter fun x => !p x := by unfold keepN; rw [List.take_length]
    simp only [Option.bind_some, k_slices_DeleteFunc_s_int_int_0_x0]
    rw [aHi_none, Option.bind_some, aLo_some (by omega) (by omega), Option.bind_some, aMx_none, Option.bind_some, hasSzU hs5 (by omega), cond_true, Int.toNat_natCast]
    obtain ⟨h6, e6, s6⟩ := s5.clearP (i := 0) rfl (lo := (keepN p l l.length).length) (by omega) (.int .i64 0)
    rw [set0] at s6
    rw [e6]
    have hs6 := s6.cellsP (i := 0) rfl
    rw [Option.bind_some, aHi_some (by omega) (by omega), Option.bind_some, aLo_none, Option.bind_some, aMx_none, Option.bind_some, hasSzU hs6 (by omega), cond_true, Int.toNat_natCast]
    have s7 := s6.cutP (i := 0) (lo := 0) (hi' := (keepN p l l.length).length) rfl (by omega) (by omega)
    rw [set0] at s7
    refine ⟨_, h6, rfl, ?_⟩
    have e8 : (List.take ((keepN p l l.length).length - 0) (List.drop 0 ((intsC (keepN p l l.length ++ l.drop (keepN p l l.length).length)).take (keepN p l l.length).length ++ List.replicate (s.len - (keepN p l l.length).length) (.int .i64 0)))) = intsC (l.filter fun x => !p x) := by
      rw [List.drop_zero, Nat.sub_zero, intsC_app, List.take_append_of_le_length (by simp), List.take_append_of_le_length (by simp), List.take_take, Nat.min_self, List.take_of_length_le (by simp), hfil]
    simp only [Nat.mul_one] at s7
    rw [e8] at s7
    exact s7
end
end Go.Proofs.YtdmbfmgebgdfnaaDoor

namespace Go.Proofs.YtdmbfmgebgdfnaaDoor
open Go.RowKit Go.Sort

section
variable {fuel : Nat} {h : AHeap}
/-! slices.Equal -/
theorem equal_loop (e : Nat) {a b : List Int} (hl : a.length = b.length) (hn : a.length < 1000000000) {h : AHeap} : ∀ (m k : Nat), a.length < m + k → k ≤ a.length → a.take k = b.take k →
    ((l_slices_Equal_s_int_int_0 fuel e m [(0, .slice (lstI a)), (1, .slice (lstI b)), (12, .int .i64 (a.length : Int)), (13, .int .i64 (k : Int))] h).bind fun p => k_slices_Equal_s_int_int_0 fuel e p.1 p.2.1 p.2.2) = some (.bool (decide (a = b)), h) := by
  intro m
  induction m with
  | zero => intro k h1 h2; omega
  | succ m ih =>
    intro k h1 h2 h3
    rw [l_slices_Equal_s_int_int_0_eq]
    by_cases hk : k < a.length
    · rw [bif_pos (by omega), addr_lstM _ (by omega) (by omega) 0, Option.bind_some, cell_fp, Option.bind_some, int_int, Option.bind_some, addr_lstM _ (by omega) (by omega) 0, Option.bind_some, cell_fp, Option.bind_some, int_int, Option.bind_some]
      simp only [Int.toNat_natCast]
      by_cases he : a.getD k 0 = b.getD k 0
      · rw [bif_npos he, sucI (by omega), ih (k + 1) (by omega) (by omega) (by rw [take_get hk 0, take_get (by omega) 0, h3, he])]
      · rw [bif_nneg he]
        simp only [Option.bind_some, k_slices_Equal_s_int_int_0_r]
        rw [decide_eq_false (fun h => he (by rw [h]))]
    · have : k = a.length := by omega
      subst this
      have : a = b := by rw [List.take_length, hl, List.take_length] at h3; exact h3
      rw [bif_neg (by omega)]
      simp only [Option.bind_some, k_slices_Equal_s_int_int_0_x0]
      rw [decide_eq_true this]
theorem equal_run (e : Nat) {a b : List Int} (hn : a.length < 1000000000) (hf : a.length < fuel) (h : AHeap) : run fuel (e + 1) F_slices_Equal_s_int_int [.slice (lstI a), .slice (lstI b)] h = some (.bool (decide (a = b)), h) := by
  refine pure_of rfl rfl (cc2 (canon_lstI 7 a) (canon_lstI 7 b)) (r := .bool (decide (a = b))) (h' := AHeap.none) ?_ rfl
  rw [e_slices_Equal_s_int_int, len_lst, len_lst]
  by_cases hl : a.length = b.length
  · rw [bif_npos (by omega)]
    exact equal_loop e hl hn fuel 0 (by omega) (by omega) rfl
  · rw [bif_nneg (by omega), decide_eq_false (fun h => hl (by rw [h]))]

end
end Go.Proofs.YtdmbfmgebgdfnaaDoor

namespace Go.Proofs.YtdmbfmgebgdfnaaDoor
open Go.RowKit

section
variable {h0 h : AHeap} {L A R : List Chunk}
/-- a cell of a part written -/
theorem Sep0.putA (hs : Sep0 h0 h L) {i : Nat} {s : Sl} {cs : List AVal} (hi : L[i]? = some (.part 1 s cs)) {k : Nat} (hk : k < cs.length) (v : AVal) :
    ∃ h', (∀ {β : Type} (K : AHeap → Option β), ((h.addr 1 s (k : Int)).bind fun p => (h.storeAt [v] p).bind K) = K h') ∧ Sep0 h0 h' (L.set i (.part 1 s (cs.set k v))) := by
  have hl := hs.lenP hi
  rw [Nat.mul_one] at hl
  have hc := hs.cellsP hi
  obtain ⟨p, h', e1, e2, s1⟩ := hs.putP (k := k) (o := 0) (vs := [v]) hi (by omega) (by simp)
  refine ⟨h', fun K => ?_, ?_⟩
  · have hp : p = s.at 1 (k : Int) := by
      cases s with
      | nil => rw [show Sl.nil.len = 0 from rfl] at hl; omega
      | mk r n c => simp only [Sl.at, Pt.field, Nat.add_zero] at e1; exact (Option.some.inj e1).symm
      | lst n c cs => exact absurd (hs.sep.partOf hi) (by intro h; cases h with | of h => cases h)
    rw [addr_at hc (by omega) (by omega), Option.bind_some, ← hp, e2, Option.bind_some]
  · have : cs.take (k * 1 + 0) ++ [v] ++ cs.drop (k * 1 + 0 + 1) = cs.set k v := by
      rw [List.set_eq_take_append_cons_drop, if_pos hk]
      simp
    rw [List.length_singleton, this] at s1
    exact s1
theorem perm_erase {α : Type} {l : List α} {i : Nat} {t : α} (h : l[i]? = some t) : List.Perm l (t :: l.eraseIdx i) := by
  obtain ⟨hi, e⟩ := List.getElem?_eq_some_iff.1 h
  have h1 : l = l.take i ++ t :: l.drop (i + 1) := by
    rw [← e, ← List.drop_eq_getElem_cons hi, List.take_append_drop]
  rw [List.eraseIdx_eq_take_drop_succ]
  exact (List.Perm.of_eq h1).trans List.perm_middle
theorem Sep0.frontK {ks : List Key} (hs : Sep0 h0 h (A ++ chK ks)) {i : Nat} {x : Int} {p : Sl × List Int} (hi : ks[i]? = some (x, p)) : Sep0 h0 h (.part 1 p.1 (intsC p.2) :: (A ++ chK (ks.eraseIdx i))) := by
  refine hs.perm ?_
  have h1 : List.Perm (chK ks) (.part 1 p.1 (intsC p.2) :: chK (ks.eraseIdx i)) := (perm_erase hi).map _
  exact ((List.Perm.refl A).append h1).trans List.perm_middle
theorem Sep0.backK {ks : List Key} {i : Nat} {x : Int} {s : Sl} {l : List Int} (hs : Sep0 h0 h (.part 1 s (intsC l) :: (A ++ chK (ks.eraseIdx i)))) (hi : i < ks.length) : Sep0 h0 h (A ++ chK (ks.set i (x, (s, l)))) := by
  refine hs.perm ?_
  have hg : (ks.set i (x, (s, l)))[i]? = some (x, (s, l)) := List.getElem?_set_self hi
  have h1 : List.Perm (chK (ks.set i (x, (s, l)))) (.part 1 s (intsC l) :: chK (ks.eraseIdx i)) := by
    have := (perm_erase hg).map (fun t : Key => Chunk.part 1 t.2.1 (intsC t.2.2))
    rw [List.eraseIdx_set_eq] at this
    exact this
  exact (((List.Perm.refl A).append h1).trans List.perm_middle).symm
/-- places without one -/
theorem gone_run (fuel d : Nat) {s : Sl} {l : List Int} (hs : Sep0 h0 h (.part 1 s (intsC l) :: R)) (hl : l.length < 1000000000) (hf : l.length < fuel) (x : Int) :
    ∃ s' h', run fuel (d + 4) F_rup_gone [.slice s, .int .i64 x] h = some (.slice s', h') ∧ Sep0 h0 h' (.part 1 s' (intsC (l.filter fun y => !decide (y = x))) :: R) := by
  rw [e_rup_gone]
  have s1 := ((hs.push 1 1 (cs := [.int .i64 x]) rfl).cons).perm (List.Perm.swap _ _ _)
  obtain ⟨s', h', e3, s3⟩ := df_run fuel d hl hf (f := F_rup_gone_1) (r := ⟨h.next, 0, 0⟩) (lim := 1) (p := fun y => decide (y = x)) (fun d h hs y _ => by
    rw [e_rup_gone_1]
    have c0 : h.cell (.mk ⟨_, 0, 0⟩ 1) = some (.int .i64 x) := hs.part (i := 0) rfl (by omega) rfl
    simp only [c0, Option.bind_some, int_int]) s1
  rw [e3]
  exact ⟨s', h', rfl, s3.sub (((List.Sublist.refl R).cons _).cons_cons _)⟩
end

def fndI (cl : BaseL) (l : List Int) : Int := match fstB cl l with
  | some i => (i : Int)
  | none => -1
section
variable {h0 h : AHeap} {b : Bs} {R : List Chunk} {n : Nat} {cl : BaseL}
theorem small_stays : Stays h0 (bAll h0.maps.length b n cl R) b.sS ((idsP smallP cl).map Int.ofNat) := fun _ hs => hs.cellsP (i := 3) rfl
theorem find_loop (fuel d : Nat) (hb : BOk b n cl) (hf : 2000000 < fuel) {l : List Int} (hll : l.length < 100000) {ids : List Nat} (hids : ∀ i ∈ ids, ∃ c, atB cl i = some c) (hil : ids.length < 1000000000) {t : Sl} (hs : Sep0 h0 h (bAll h0.maps.length b n cl R)) (hT : h.sliceCells 1 t = some (intsC (ids.map Int.ofNat))) : ∀ (m j : Nat), ids.length < m + j → j ≤ ids.length →
    (l_rup_Base_find_0 fuel (d + 1) m [(0, .ptr (bP b)), (5, .slice (lstI l)), (30, .slice t), (31, .int .i64 (ids.length : Int)), (32, .int .i64 (j : Int))] h).bind (fun q => k_rup_Base_find_0 fuel (d + 1) q.1 q.2.1 q.2.2) = some (.int .i64 (match (ids.drop j).find? (fun i => atB cl i == some l) with | some i => (i : Int) | none => -1), h) := by
  intro m
  induction m with
  | zero => intro j h1 h2; omega
  | succ m ih =>
    intro j h1 h2
    rw [l_rup_Base_find_0_eq]
    by_cases hj : j < ids.length
    · have hm : ids.getD j 0 ∈ ids := by rw [List.getD_eq_getElem?_getD, List.getElem?_eq_getElem hj]; exact List.getElem_mem hj
      obtain ⟨c, hic⟩ := hids _ hm
      obtain ⟨hem, hil2⟩ := atB_mem hic
      have hcl := hb.lens c hem
      rw [bif_pos (by omega), read1 hT (by omega) (v := .int .i64 ((ids.getD j 0 : Nat) : Int)) (by simp [hj]), drop_get hj 0, List.find?_cons]
      have c1 : h.cell (.mk ⟨b.B, 0, 0 + 1⟩ 6) = some (.slice b.cS) := hs.part (i := 0) rfl (by omega) rfl
      have c2 : h.cell (.mk ⟨b.B, 0, 0 + 2⟩ 6) = some (.slice b.tS) := hs.part (i := 0) rfl (by omega) rfl
      simp only [Option.bind_some, int_int, chk_mk, field_mk, c2, slice_slice]
      rw [read1 (hs.cellsP (i := 2) rfl) (by omega) (v := .bool true) (by rw [Int.toNat_natCast, List.getElem?_map, atB_get hic]; rfl)]
      simp only [Option.bind_some, bool_bool, beq_self_eq_true, cond_true, chk_mk, field_mk, c1, slice_slice]
      rw [read1 (hs.cellsP (i := 1) rfl) (by omega) (v := .slice (lstI c)) (by rw [Int.toNat_natCast, List.getElem?_map, atB_get hic]; rfl)]
      simp only [Option.bind_some, slice_slice]
      rw [equal_run d (a := c) (b := l) (by omega) (by omega)]
      simp only [Option.bind_some, bool_bool, hic]
      by_cases he : c = l
      · have e1 : (some c == some l) = true := by rw [he]; exact beq_self_eq_true _
        rw [decide_eq_true he, cond_true, e1]
        simp only [Option.bind_some, k_rup_Base_find_0_r]
      · have e1 : (some c == some l) = false := by simpa using he
        rw [decide_eq_false he, cond_false, e1, succI (by omega)]
        exact ih (j + 1) (by omega) (by omega)
    · have : j = ids.length := by omega
      subst this
      rw [bif_neg (by omega), List.drop_length]
      simp only [Option.bind_some, k_rup_Base_find_0_x0, List.find?_nil]
theorem find_run (fuel d : Nat) (hd : 49 ≤ d) (hb : BOk b n cl) (hf : 2000000 < fuel) (hs : Sep0 h0 h (bAll h0.maps.length b n cl R)) {s : Sl} {c : List Int} (hc : h.sliceCells 1 s = some (intsC c)) (hcl : c.length < 100000) :
    ∃ h', run fuel (d + 2) F_rup_Base_find [.ptr (bP b), .slice s] h = some (.int .i64 (fndI cl (normL c)), h') ∧ Sep0 h0 h' (bAll h0.maps.length b n cl R) ∧ Keeps h h' fun _ => False := by
  have hnl := normL_length c
  obtain ⟨h1, e1, k1⟩ := Norm_row (fuel := fuel) (e := d + 1) (by omega) (l := c) (by omega) (by omega) hc
  have s1 := hs.call k1
  have hcl2 := hb.len
  rw [e_rup_Base_find, e1]
  have c4 : h1.cell (.mk ⟨b.B, 0, 0 + 4⟩ 6) = some (.slice b.sS) := s1.part (i := 0) rfl (by omega) rfl
  have c3 : h1.cell (.mk ⟨b.B, 0, 0 + 3⟩ 6) = some (.map (some b.m)) := s1.part (i := 0) rfl (by omega) rfl
  have cm : h1.maps[b.m]? = some (esK b.ks) := s1.getMap (i := 4) rfl
  simp only [Option.bind_some, tup2, cond_true, comp0, comp1, slice_slice, bool_bool, chk_mk, field_mk, c4]
  rw [len_lst]
  unfold fndI
  cases hn : normL c with
  | nil =>
    rw [bif_neg (by simp)]
    have hsl := s1.lenP (i := 3) rfl
    simp only [List.length_map, Nat.mul_one] at hsl
    have hbl := ids_len (cl := cl) smallP
    have := find_loop fuel d hb hf (l := []) (by simp) (ids_ok smallP) (by omega) s1 (small_stays _ s1) fuel 0 (by omega) (by omega)
    rw [List.drop_zero, ids_find (p := smallP) (l := []) rfl, Int.natCast_zero] at this
    rw [← hsl]
    exact ⟨h1, this, s1, k1⟩
  | cons x r =>
    rw [bif_pos (by simp)]
    simp only [chk_mk, field_mk, Option.bind_some, c3, map_map]
    rw [show h1.addr 1 (lstI (x :: r)) 0 = _ from addr_lstM (.int .i64) (l := x :: r) (j := 0) (by omega) (by simp) 0 false]
    simp only [Option.bind_some, cell_fp]
    rw [show (x :: r).getD (Int.toNat 0) 0 = x from rfl, int_int]
    simp only [Option.bind_some, mapOf_some, cm, mfind_K, mgot_K, slice_slice]
    rw [by_len hb s1 x]
    have hbl := ids_len (cl := cl) (hasP x)
    have := find_loop fuel d hb hf (l := x :: r) (by rw [← hn]; omega) (ids_ok (hasP x)) (by omega) s1 (by_stays hb x _ s1) fuel 0 (by omega) (by omega)
    rw [List.drop_zero, ids_find (p := hasP x) (l := x :: r) (by simp [hasP]), Int.natCast_zero] at this
    exact ⟨h1, this, s1, k1⟩
theorem has_run2 (fuel d : Nat) (hd : 49 ≤ d) (hb : BOk b n cl) (hf : 2000000 < fuel) (hs : Sep0 h0 h (bAll h0.maps.length b n cl R)) {s : Sl} {c : List Int} (hc : h.sliceCells 1 s = some (intsC c)) (hcl : c.length < 100000) :
    ∃ h', run fuel (d + 3) F_rup_Base_Has [.ptr (bP b), .slice s] h = some (.bool (fstB cl (normL c)).isSome, h') ∧ Sep0 h0 h' (bAll h0.maps.length b n cl R) ∧ Keeps h h' fun _ => False := by
  obtain ⟨h', e1, s1, k1⟩ := find_run fuel d hd hb hf hs hc hcl
  rw [e_rup_Base_Has, e1]
  simp only [Option.bind_some, int_int]
  refine ⟨h', ?_, s1, k1⟩
  unfold fndI
  cases fstB cl (normL c) with
  | none => rfl
  | some i =>
    show some (AVal.bool (decide ((0 : Int) ≤ (i : Int))), h') = _
    rw [decide_eq_true (by omega)]; rfl
end
end Go.Proofs.YtdmbfmgebgdfnaaDoor

namespace Go.Proofs.YtdmbfmgebgdfnaaDoor
open Go.RowKit

section
variable {h0 h : AHeap} {b : Bs} {R : List Chunk} {n : Nat} {cl : BaseL}
abbrev outI (l : List Int) (id : Int) : List Int := l.filter fun y => !decide (y = id)
def KeysDrop (ks ks' : List Key) (l : List Int) (id : Int) : Prop := ∀ x, lisK x ks' = if x ∈ l then outI (lisK x ks) id else lisK x ks
theorem idsI_out (p : List Int → Bool) (cl : BaseL) (i : Nat) : outI (idsI p cl) (i : Int) = idsI p (cl.set i none) := by
  unfold outI idsI
  rw [ids_drop, List.filter_map]
  congr 1
  apply List.filter_congr
  intro k _
  show (!decide ((k : Int) = (i : Int))) = (k != i)
  by_cases e : k = i
  · subst e; simp
  · have : ¬ (k : Int) = (i : Int) := by omega
    simp [e, this]
theorem drop_loop (fuel d : Nat) (hf : 2000000 < fuel) {ks0 : List Key} {many : Int} {cC tC sC : List AVal} {l : List Int} (hnd : l.Nodup) (hl : l.length < 1000000) {id : Nat} (hks : ∀ x, (lisK x ks0).length < 1000000) (hin : ∀ x ∈ l, lisK x ks0 ≠ []) : ∀ (m j : Nat) (ks : List Key) (h : AHeap), l.length < m + j → j ≤ l.length → KeysDrop ks0 ks (l.take j) (id : Int) → Sep0 h0 h (gAll h0.maps.length { b with ks := ks } n many cC tC sC R) →
    ∃ ks' h', l_rup_Base_Drop_0 fuel (d + 4) m [(0, .ptr (bP b)), (5, .int .i64 (id : Int)), (19, .slice (lstI l)), (20, .int .i64 (l.length : Int)), (21, .int .i64 (j : Int))] h = some (.exit 0, [(0, .ptr (bP b)), (5, .int .i64 (id : Int))], h') ∧ KeysDrop ks0 ks' l (id : Int) ∧ Sep0 h0 h' (gAll h0.maps.length { b with ks := ks' } n many cC tC sC R) := by
  intro m
  induction m with
  | zero => intro j ks h h1 h2; omega
  | succ m ih =>
    intro j ks h h1 h2 hk hs
    rw [l_rup_Base_Drop_0_eq]
    by_cases hj : j < l.length
    · have c3 : h.cell (.mk ⟨b.B, 0, 0 + 3⟩ 6) = some (.map (some b.m)) := hs.part (i := 0) rfl (by omega) rfl
      have cm : h.maps[b.m]? = some (esK ks) := hs.getMap (i := 4) rfl
      rw [bif_pos (by omega), addr_lstM _ (by omega) (by omega) 0]
      simp only [Option.bind_some, cell_fp, int_int, Int.toNat_natCast, chk_mk, field_mk, c3, map_map, mapOf_some, cm, mfind_K, mgot_K, slice_slice]
      have hm : l.getD j 0 ∈ l := by rw [List.getD_eq_getElem?_getD, List.getElem?_eq_getElem hj]; exact List.getElem_mem hj
      have hnot : l.getD j 0 ∉ l.take j := by
        intro hin
        rw [List.getD_eq_getElem?_getD, List.getElem?_eq_getElem hj, Option.getD_some] at hin
        obtain ⟨i, hi, e⟩ := List.mem_iff_getElem.1 hin
        rw [List.length_take] at hi
        rw [List.getElem_take] at e
        have := (List.getElem_inj hnd).1 e
        omega
      generalize hx : l.getD j 0 = x at hm hnot
      have hk1 := hk x
      rw [if_neg hnot] at hk1
      have hne := hin x hm
      obtain ⟨p, hp⟩ : ∃ p, findK x ks = some p := by
        cases hf : findK x ks with
        | some p => exact ⟨p, rfl⟩
        | none =>
          unfold lisK at hk1 hne
          rw [hf] at hk1
          exact absurd hk1.symm hne
      have hpl : p.2 = lisK x ks0 := by rw [← hk1]; unfold lisK; rw [hp]
      have hps : slK x ks = p.1 := by unfold slK; rw [hp]
      obtain ⟨i, hi1, hi2⟩ := find_idx hp
      have hil := (List.getElem?_eq_some_iff.1 hi1).1
      have hkx := hks x
      rw [hps]
      have s1 := Sep0.frontK (A := .own 1 b.B 0 6 [.int .i64 (n : Int), .slice b.cS, .slice b.tS, .map (some b.m), .slice b.sS, .int .i64 many] :: .part 1 b.cS cC :: .part 1 b.tS tC :: .part 1 b.sS sC :: .mp h0.maps.length b.m (esK ks) :: R) hs hi1
      obtain ⟨s', h', e1, s2⟩ := gone_run fuel d s1 (by rw [hpl]; omega) (by rw [hpl]; omega) (id : Int)
      have c3' : h'.cell (.mk ⟨b.B, 0, 0 + 3⟩ 6) = some (.map (some b.m)) := s2.part (i := 1) rfl (by omega) rfl
      have cm' : h'.maps[b.m]? = some (esK ks) := s2.getMap (i := 5) rfl
      have hset := mset_K x (s', outI p.2 (id : Int)) ks
      simp only at hset
      simp only [e1, Option.bind_some, slice_slice, c3', map_map, same_self, cm', hset]
      rw [succI (by omega)]
      have s3 := s2.setMap (i := 5) rfl (esK (setK x (s', outI p.2 (id : Int)) ks))
      have s4 : Sep0 h0 (h'.setMap b.m (esK (setK x (s', outI p.2 (id : Int)) ks))) (.part 1 s' (intsC (outI p.2 (id : Int))) :: ((.own 1 b.B 0 6 [.int .i64 (n : Int), .slice b.cS, .slice b.tS, .map (some b.m), .slice b.sS, .int .i64 many] :: .part 1 b.cS cC :: .part 1 b.tS tC :: .part 1 b.sS sC :: .mp h0.maps.length b.m (esK (setK x (s', outI p.2 (id : Int)) ks)) :: R) ++ chK (ks.eraseIdx i))) := s3
      have s5 := Sep0.backK (x := x) s4 hil
      rw [← hi2 (s', outI p.2 (id : Int))] at s5
      refine ih (j + 1) (setK x (s', outI p.2 (id : Int)) ks) _ (by omega) (by omega) (fun y => ?_) s5
      rw [take_get hj 0, hx]
      by_cases hy : y = x
      · subst hy
        have e9 : lisK y (setK y (s', outI p.2 (id : Int)) ks) = outI p.2 (id : Int) := by unfold lisK; rw [find_set]
        rw [e9, if_pos (List.mem_append_right _ (List.mem_singleton.2 rfl)), hpl]
      · have e2 : lisK y (setK x (s', outI p.2 (id : Int)) ks) = lisK y ks := by
          unfold lisK
          rw [find_set_ne hy]
        rw [e2, hk y]
        have : (y ∈ l.take j ++ [x]) ↔ y ∈ l.take j := by simp only [List.mem_append, List.mem_singleton, hy, or_false]
        simp only [this]
    · have : j = l.length := by omega
      subst this
      rw [bif_neg (by omega)]
      rw [List.take_length] at hk
      exact ⟨ks, h, rfl, hk, hs⟩
def DropPost (h0 : AHeap) (b b' : Bs) (n : Nat) (cl : BaseL) (R : List Chunk) (h' : AHeap) : Option Nat → Prop
  | none => b' = b ∧ Sep0 h0 h' (bAll h0.maps.length b n cl R)
  | some i => BOk b' n (cl.set i none) ∧ Sep0 h0 h' (bAll h0.maps.length b' n (cl.set i none) R)
theorem drop_run (fuel d : Nat) (hd : 49 ≤ d) (hb : BOk b n cl) (hf : 2000000 < fuel) (hs : Sep0 h0 h (bAll h0.maps.length b n cl R)) {s : Sl} {c : List Int} (hc : h.sliceCells 1 s = some (intsC c)) (hcl : c.length < 100000) :
    ∃ b' h', run fuel (d + 3) F_rup_Base_Drop [.ptr (bP b), .slice s] h = some (.bool (fstB cl (normL c)).isSome, h') ∧ b'.B = b.B ∧ DropPost h0 b b' n cl R h' (fstB cl (normL c)) := by
  obtain ⟨d, rfl⟩ : ∃ d', d = d' + 2 := ⟨d - 2, by omega⟩
  obtain ⟨h1, e1, s1, _⟩ := find_run fuel (d + 2) hd hb hf hs hc hcl
  rw [e_rup_Base_Drop, e1]
  simp only [Option.bind_some, int_int]
  unfold fndI
  cases hfst : fstB cl (normL c) with
  | none =>
    show ∃ b' h', (bif decide ((-1 : Int) < 0) then _ else _) = _ ∧ _
    rw [bif_pos (by omega)]
    exact ⟨b, h1, rfl, rfl, rfl, s1⟩
  | some id =>
    obtain ⟨hat, hmem, hers⟩ := fstB_some hfst
    obtain ⟨hem, hil⟩ := atB_mem hat
    have hn := hb.vars
    have hnl := normL_length c
    have hcln := hb.len
    show ∃ b' h', (bif decide ((id : Int) < 0) then _ else _) = _ ∧ _
    rw [bif_neg (by omega)]
    have c1 : h1.cell (.mk ⟨b.B, 0, 0 + 1⟩ 6) = some (.slice b.cS) := s1.part (i := 0) rfl (by omega) rfl
    simp only [chk_mk, field_mk, Option.bind_some, c1, slice_slice]
    rw [read1 (s1.cellsP (i := 1) rfl) (by omega) (v := .slice (lstI (normL c))) (by rw [Int.toNat_natCast, List.getElem?_map, atB_get hat]; rfl)]
    simp only [Option.bind_some, slice_slice]
    rw [len_lst]
    obtain ⟨ks', h2, e2, hk2, s2⟩ := drop_loop fuel d hf (b := b) (ks0 := b.ks) (id := id) (normL_nodup c) (by omega) (fun x => by rw [hb.keys x, List.length_map]; have := ids_len (cl := cl) (hasP x); omega) (fun x hx => by
      rw [hb.keys x]
      have : id ∈ idsP (hasP x) cl := mem_ids.2 ⟨_, hat, decide_eq_true hx⟩
      intro e
      have h9 : (id : Int) ∈ idsI (hasP x) cl := List.mem_map_of_mem this
      rw [e] at h9
      cases h9) fuel 0 b.ks h1 (by omega) (by omega) (fun x => by simp) s1
    rw [show l_rup_Base_Drop_0 fuel (d + 2 + 2) fuel [(0, .ptr (bP b)), (5, .int .i64 (id : Int)), (19, .slice (lstI (normL c))), (20, .int .i64 ((normL c).length : Int)), (21, .int .i64 0)] h1 = _ from e2]
    simp only [Option.bind_some, k_rup_Base_Drop_0_x0, chk_mk, field_mk]
    have c4 : h2.cell (.mk ⟨b.B, 0, 0 + 4⟩ 6) = some (.slice b.sS) := s2.part (i := 0) rfl (by omega) rfl
    simp only [c4, Option.bind_some, slice_slice]
    have hsl := ids_len (cl := cl) smallP
    have s3 := s2.perm (List.perm_middle (l₁ := [_, _, _]))
    obtain ⟨sS', h3, e3, s4⟩ := gone_run fuel d s3 (l := idsI smallP cl) (by simp; omega) (by simp; omega) (id : Int)
    have s5 := s4.perm (List.perm_middle (l₁ := [_, _, _])).symm
    rw [show run fuel (d + 2 + 2) F_rup_gone [.slice b.sS, .int .i64 (id : Int)] h2 = _ from e3]
    simp only [Option.bind_some, slice_slice, Nat.zero_add]
    obtain ⟨h4, e4, s6⟩ := s5.put (i := 0) (o := 4) (l := 6) (vs := [.slice sS']) rfl (by simp) (by simp)
    rw [e4]
    have d1 : h4.cell (.mk ⟨b.B, 0, 1⟩ 6) = some (.slice b.cS) := s6.part (i := 0) rfl (by omega) rfl
    have d2 : h4.cell (.mk ⟨b.B, 0, 2⟩ 6) = some (.slice b.tS) := s6.part (i := 0) rfl (by omega) rfl
    simp only [Option.bind_some, d1, d2, slice_slice]
    obtain ⟨h5, e5, s7⟩ := s6.putA (i := 1) rfl (k := id) (by simpa using hil) (.slice .nil)
    rw [e5]
    obtain ⟨h6, e6, s8⟩ := s7.putA (i := 2) rfl (k := id) (by simpa using hil) (.bool false)
    rw [e6]
    have d5 : h6.cell (.mk ⟨b.B, 0, 5⟩ 6) = some (.int .i64 ((thereB cl).length : Int)) := s8.part (i := 0) rfl (by omega) rfl
    have htl := there_len cl
    have hpos : 0 < (thereB cl).length := List.length_pos_of_mem hmem
    have hth : (thereB (cl.set id none)).length = (thereB cl).length - 1 := by rw [hers, List.length_erase_of_mem hmem]
    obtain ⟨h7, e7, s9⟩ := s8.put (i := 0) (o := 5) (l := 6) (vs := [.int .i64 ((thereB (cl.set id none)).length : Int)]) rfl (by simp) (by simp)
    simp only [d5, Option.bind_some, int_int]
    rw [show IntKind.wrap .i64 (((thereB cl).length : Int) - 1) = ((thereB (cl.set id none)).length : Int) by rw [wrap64 (by omega) (by omega), hth]; omega, e7]
    refine ⟨{ b with sS := sS', ks := ks' }, h7, rfl, rfl, ⟨fun x => ?_, fun l hl => ?_, by simpa using hcln, hn, fun l hl => ?_⟩, ?_⟩
    · have := hk2 x
      simp only at this ⊢
      rw [this, hb.keys x]
      split
      · exact idsI_out (hasP x) cl id
      · rename_i hx
        rw [← idsI_out]
        symm
        rw [List.filter_eq_self]
        intro y hy
        obtain ⟨k, hk, rfl⟩ := List.mem_map.1 hy
        have : k ≠ id := fun e => by
          subst e
          obtain ⟨l, g1, g2⟩ := mem_ids.1 hk
          rw [hat] at g1
          cases g1
          exact hx (of_decide_eq_true g2)
        have h9 : ¬ Int.ofNat k = (id : Int) := fun e => this (by exact Int.ofNat.inj e)
        rw [decide_eq_false h9]; rfl
    · rcases List.mem_or_eq_of_mem_set hl with hl | hl
      · exact hb.norm l hl
      · cases hl
    · rcases List.mem_or_eq_of_mem_set hl with hl | hl
      · exact hb.lens l hl
      · cases hl
    · have e8 : (clC cl).set id (.slice .nil) = clC (cl.set id none) := by unfold clC; rw [List.map_set]; rfl
      have e9 : (thC cl).set id (.bool false) = thC (cl.set id none) := by unfold thC; rw [List.map_set]; rfl
      have e10 : intsC (outI (idsI smallP cl) (id : Int)) = intsC (idsI smallP (cl.set id none)) := by rw [idsI_out]
      unfold bAll b5
      rw [← e8, ← e9, ← e10]
      exact s9
end
end Go.Proofs.YtdmbfmgebgdfnaaDoor

namespace Go.Proofs.YtdmbfmgebgdfnaaDoor
open Go.RowKit

theorem Clauses_run (fuel d : Nat) {l : List Int} {vars : Int} (hv' : vars ≤ 1000000) (hl : l.length < 1000000) (hf : l.length < fuel) (h : AHeap) :
    run fuel (d + 3) F_skolemmake_Clauses [.slice (lstI l), .int .i64 vars] h = some (.slice (lstLL (clausesI l vars)), h) := by
  obtain ⟨s, h', e1, e2⟩ := Clauses_body fuel d hv' hl hf AHeap.none
  refine pure_of rfl rfl (cc2 (canon_lstI 7 l) rfl) (by rw [e_skolemmake_Clauses]; exact e1) ?_
  have hg : Grown h' 1 s (gridC (clausesI l vars)) := e2.holds
  have hl2 := hg.len
  simp only [List.length_map, Nat.mul_one] at hl2
  rw [hg.freeze (n := 7) (by omega) (freeze_gridC 6 _), ← hl2]

end Go.Proofs.YtdmbfmgebgdfnaaDoor

namespace Go.Proofs.YtdmbfmgebgdfnaaDoor
open Go.RowKit

/-- not too near to the least of numbers -/
def nearI (a : List Int) : Bool := a.all fun x => !decide (x < -1152921504606846976)
end Go.Proofs.YtdmbfmgebgdfnaaDoor

namespace Go.Proofs.YtdmbfmgebgdfnaaDoor
open Go.RowKit

end Go.Proofs.YtdmbfmgebgdfnaaDoor

namespace Go.Proofs.YtdmbfmgebgdfnaaDoor
open Go.RowKit

end Go.Proofs.YtdmbfmgebgdfnaaDoor

namespace Go.Proofs.YtdmbfmgebgdfnaaDoor
open Go.RowKit

theorem sliceCells_keep0 {h h' : AHeap} (hk : Keeps h h' fun _ => False) {s : Sl} {sz : Nat} {cs : List AVal} (hs : h.sliceCells sz s = some cs) : h'.sliceCells sz s = some cs := sliceCells_keep hk hs fun _ _ _ h => h
theorem intsr_loop (fuel d : Nat) {a : List Int} {t : Sl} (hn : a.length < 1000000000) (ht : t.len = a.length) {h0 : AHeap} (hs0 : h0.sliceCells 1 t = some (intsC a)) : ∀ (n k : Nat) (s : Sl) (h : AHeap), a.length < n + k → k ≤ a.length → Sep0 h0 h [.grown 1 s (intsC (a.take k))] →
    ∃ s' h', l_skolemref_Ints_0 fuel d n [(0, .slice t), (3, .slice s), (4, .int .i64 (k : Int))] h = some (.exit 0, [(3, .slice s')], h') ∧ Sep0 h0 h' [.grown 1 s' (intsC a)] := by
  intro n
  induction n with
  | zero => intro k s h h1 h2; omega
  | succ n ih =>
    intro k s h h1 h2 hg
    have hl := hg.len (i := 0) rfl
    simp only [List.length_map, List.length_take, Nat.mul_one] at hl
    rw [l_skolemref_Ints_0_eq, ht]
    by_cases hk : k < a.length
    · have hr := readI (sliceCells_keep0 hg.ext hs0) (j := (k : Int)) (by omega) (by omega)
      rw [bif_pos (by omega), hr.1, Option.bind_some, hr.2]
      simp only [Option.bind_some, int_int, Int.toNat_natCast]
      obtain ⟨s', h', e1, e2, e3⟩ := hg.grow (i := 0) (bytes := 8) (m := 1) (vs := [.int .i64 (a.getD k 0)]) rfl rfl (by omega) (by omega)
      rw [e1]
      simp only [Option.bind_some]
      rw [succI (by omega)]
      refine ih (k + 1) s' h' (by omega) (by omega) ?_
      rw [take_get hk 0]
      simpa using e2
    · have : k = a.length := by omega
      subst this
      rw [bif_neg (by omega)]
      rw [List.take_length] at hg
      exact ⟨s, h, rfl, hg⟩
theorem intsr_run (fuel d : Nat) {a : List Int} {t : Sl} {h : AHeap} (hs : h.sliceCells 1 t = some (intsC a)) (hn : a.length < 1000000000) (hf : a.length < fuel) :
    ∃ s' h', run fuel (d + 1) F_skolemref_Ints [.slice t] h = some (.slice s', h') ∧ New h h' (.grown 1 s' (intsC a)) := by
  have ht : t.len = a.length := by have := sliceCells_len hs; simp at this; omega
  have s0 := (Sep0.start h).addMake 1 (eqI (0 : Int) ((a.length : Nat) : Int))
  obtain ⟨s', h', e1, e2⟩ := intsr_loop fuel d hn ht hs fuel 0 _ _ (by omega) (by omega) s0
  refine ⟨s', h', ?_, e2.get (i := 0) rfl⟩
  rw [e_skolemref_Ints, ht, cond_pos _ _ (mk0_ok (by omega) (by omega) (by omega))]
  rw [show ((0 : Nat) : Int) = 0 from rfl] at e1
  rw [e1]
  simp only [Option.bind_some, k_skolemref_Ints_0_x0]
end Go.Proofs.YtdmbfmgebgdfnaaDoor

namespace Go.Proofs.YtdmbfmgebgdfnaaDoor
open Go.RowKit

/-! the plain law -/
theorem fst_some (cl : BaseL) (l : List Int) : (fstB cl l).isSome = decide (l ∈ thereB cl) := by
  cases h : fstB cl l with
  | none => rw [decide_eq_false (fstB_none h)]; rfl
  | some i => rw [decide_eq_true (fstB_some h).2.1]; rfl
theorem fst_in {cl : BaseL} {l : List Int} (h : l ∈ thereB cl) : ∃ i, fstB cl l = some i ∧ thereB (cl.set i none) = (thereB cl).erase l := by
  have := fst_some cl l
  rw [decide_eq_true h] at this
  cases hf : fstB cl l with
  | none => rw [hf] at this; cases this
  | some i => exact ⟨i, rfl, (fstB_some hf).2.2⟩
theorem fst_out {cl : BaseL} {l : List Int} (h : l ∉ thereB cl) : fstB cl l = none := by
  have := fst_some cl l
  rw [decide_eq_false h] at this
  cases hf : fstB cl l with
  | none => rfl
  | some i => rw [hf] at this; cases this
theorem tw_loop (fuel d : Nat) {z : List Int} (hz : z.length < 1000000) {ok : Bool} {x1 : Int} {s2 : Sl} {h0 : AHeap} {R : List Chunk} : ∀ (n k : Nat) (s : Sl) (h : AHeap), z.length < n + k → k ≤ z.length → Sep0 h0 h (.grown 1 s (intsC ((z.take k).map fun x => litI x 9)) :: R) →
    ∃ s' h', l_skolemlaw21_RupTwice_0 fuel (d + 2) n [(0, .slice (lstI z)), (1, .int .i64 x1), (2, .slice s2), (7, .bool ok), (8, .slice s), (9, .int .i64 (k : Int))] h = some (.exit 0, [(1, .int .i64 x1), (2, .slice s2), (7, .bool ok), (8, .slice s')], h') ∧ Sep0 h0 h' (.grown 1 s' (intsC (z.map fun x => litI x 9)) :: R) := by
  intro n
  induction n with
  | zero => intro k s h h1 h2; omega
  | succ n ih =>
    intro k s h h1 h2 hs
    have hl := hs.len (i := 0) rfl
    simp only [List.length_map, List.length_take, Nat.mul_one] at hl
    rw [l_skolemlaw21_RupTwice_0_eq, len_lst]
    by_cases hk : k < z.length
    · rw [bif_pos (by omega), addr_lstM _ (by omega) (by omega) 0]
      simp only [Option.bind_some, cell_fp, int_int, Int.toNat_natCast]
      rw [Lit_run fuel d (by omega) (by omega)]
      simp only [Option.bind_some, int_int]
      obtain ⟨s', h', e1, s1, _⟩ := hs.grow (i := 0) (bytes := 8) (m := 1) (vs := [.int .i64 (litI (z.getD k 0) 9)]) rfl rfl (by omega) (by omega)
      rw [e1]
      simp only [Option.bind_some]
      rw [succI (by omega)]
      refine ih (k + 1) s' h' (by omega) (by omega) ?_
      rw [take_get hk 0, List.map_append, intsC_app]
      exact s1
    · have : k = z.length := by omega
      subst this
      rw [bif_neg (by omega)]
      rw [List.take_length] at hs
      exact ⟨s, h, rfl, hs⟩
theorem or3 {a b c : Bool} (h : (bif (bif a then true else b) then true else c) = false) : a = false ∧ b = false ∧ c = false := by
  cases a <;> cases b <;> cases c <;> simp at h ⊢
theorem rupTwice_run (F d : Nat) (hF : 2 ^ 21 ≤ F) (c : List Int) (order : Int) (l : List Int) (h : AHeap) :
    ∃ h', run F (d + 70) F_skolemlaw21_RupTwice [.slice (lstI c), .int .i64 order, .slice (lstI l)] h = some (.bool true, h') := by
  rw [e_skolemlaw21_RupTwice, first21_run F (by omega) (by omega)]
  simp only [Option.bind_some, bool_bool, Bool.not_true, cond_false]
  rw [len_lst, len_lst]
  cases hcond : (bif (bif decide ((c.length : Int) = 0) then true else decide ((6 : Int) < (c.length : Int))) then true else decide ((30 : Int) < (l.length : Int))) with
  | true => exact ⟨h, rfl⟩
  | false =>
    obtain ⟨c1, c2, c3⟩ := or3 hcond
    have d1 := of_decide_eq_false c1
    have d2 := of_decide_eq_false c2
    have d3 := of_decide_eq_false c3
    rw [cond_false]
    obtain ⟨sd, h1, e1, s1⟩ := tw_loop F (d + 67) (z := c) (by omega) (R := []) (ok := true) (x1 := order) (s2 := lstI l) F 0 .nil h (by omega) (by omega) ((Sep0.start h).addNil 1)
    rw [show l_skolemlaw21_RupTwice_0 F (d + 69) F [(0, .slice (lstI c)), (1, .int .i64 order), (2, .slice (lstI l)), (7, .bool true), (8, .slice .nil), (9, .int .i64 0)] h = _ from e1]
    simp only [Option.bind_some, k_skolemlaw21_RupTwice_0_x0]
    have hDl : (c.map fun x => litI x 9).length = c.length := by simp
    have hDr : ∀ x ∈ (c.map fun x => litI x 9), x ≠ 0 ∧ -9 ≤ x ∧ x ≤ 9 := fun x hx => by
      obtain ⟨y, _, rfl⟩ := List.mem_map.1 hx
      exact litI_range (by omega) (by omega)
    generalize (c.map fun x => litI x 9) = D at s1 hDl hDr
    have hsl := s1.len (i := 0) rfl
    simp only [List.length_map, Nat.mul_one] at hsl
    rw [← hsl, Number_run F (d + 68) (by omega)]
    simp only [Option.bind_some, int_int]
    have hr := numI_range (n := order) (b := (D.length : Int)) (by omega) (by omega)
    obtain ⟨k, hk⟩ : ∃ k : Nat, numI order (D.length : Int) = (k : Int) := ⟨(numI order (D.length : Int)).toNat, by omega⟩
    rw [hk]
    have hk2 : k < D.length := by omega
    have hg1 := s1.sep.grown (i := 0) rfl
    have hcut1 := hg1.cutS (lo := k) (hi := D.length) (by omega) (Nat.le_refl _) false
    rw [List.take_of_length_le (by simp)] at hcut1
    rw [aHi_none, Option.bind_some, aLo_some (by omega) (by omega), Option.bind_some, aMx_none, Option.bind_some, hg1.hasSz, cond_true, Int.toNat_natCast]
    obtain ⟨se, h2, e2, n2⟩ := intsr_run F (d + 68) hcut1 (by simp; omega) (by simp; omega)
    rw [e2]
    have s2 := (s1.add n2).cons
    have hg2 := s2.sep.grown (i := 1) rfl
    have hcut2 := hg2.cutS (lo := 0) (hi := k) (by omega) (by omega) false
    rw [List.drop_zero, Nat.sub_zero] at hcut2
    simp only [Option.bind_some, slice_slice]
    rw [aHi_some (by omega) (by omega)]
    simp only [Option.bind_some, aLo_none, aMx_none, Int.toNat_natCast, hg2.hasSz, hg1.hasSz, cond_true, same_self, hcut2]
    have hcl2 : (sd.cut 1 0 k false).len = (D.take k).length := by
      have := sliceCells_len hcut2
      simp only [List.length_map, Nat.mul_one] at this
      omega
    rw [hcl2]
    have hel := s2.len (i := 0) rfl
    simp only [List.length_map, List.length_drop, Nat.mul_one] at hel
    obtain ⟨se', h3, e3, s3, _⟩ := s2.grow (i := 0) (bytes := 8) (m := (D.take k).length) (vs := intsC (D.take k)) rfl (by simp) (by simp; omega) (by simp; omega)
    rw [set0, ← intsC_app] at s3
    rw [e3]
    simp only [Option.bind_some]
    have hEm : ∀ x, x ∈ D.drop k ++ D.take k ↔ x ∈ D := fun x => by
      rw [List.mem_append, or_comm, ← List.mem_append, List.take_append_drop]
    have hEl : (D.drop k ++ D.take k).length = D.length := by simp; omega
    generalize D.drop k ++ D.take k = E at s3 hEm hEl
    -- the base
    rw [show run F (d + 69) F_skolemmake_Clauses [.slice (lstI l), .int .i64 9] h3 = _ from Clauses_run F (d + 66) (l := l) (vars := 9) (by omega) (by omega) (by omega) h3]
    simp only [Option.bind_some, slice_slice]
    obtain ⟨q1, q2, q3⟩ := clausesI_size l 9
    have hlits := clausesI_lits (vars := 9) (by omega) l
    generalize clausesI l 9 = cc at q1 q2 q3 hlits
    have hok : okCC 20 cc = true := by
      rw [List.all_eq_true]
      intro c hc
      rw [List.all_eq_true]
      intro x hx
      have := hlits c hc x hx
      rw [isLit_spec]; omega
    have hcc : ∀ c ∈ cc, c.length < 100000 := fun c hc => by have := q3 c hc; omega
    obtain ⟨v, h4, e4, hp⟩ := new_run F (d + 62) (by omega) (by omega) (n := 20) (by omega) s3 (s := lstLL cc) (cc := cc) (fun h _ => nest_grid (cells_lstM _ _ _)) (by omega) hcc
    rw [hok] at hp
    obtain ⟨b, rfl, hb, s4⟩ := hp
    rw [show run F (d + 69) F_rup_New [.int .i64 20, .slice (lstLL cc)] h3 = _ from e4]
    simp only [Option.bind_some, tup2, cond_true, comp0, comp1, ptr_ptr, nilTest_ptr_mk, nilTest_nilif, beq_self_eq_true, Bool.not_true, bool_bool, cond_false]
    have hcll : (normC cc).length ≤ 100 := by simp; omega
    have hno : ∀ q ∈ thereB (normC cc), (15 : Int) ∉ q := fun q hq h15 => by
      rw [there_norm] at hq
      obtain ⟨c, hc, rfl⟩ := List.mem_map.1 hq
      have := hlits c hc 15 (mem_normL.1 h15)
      omega
    have hbn := hb.norm
    generalize hcl0 : normC cc = cl0 at s4 hb hcll hno hbn
    -- a variable of its own
    obtain ⟨sd', h5, e5, s5, _⟩ := s4.grow (i := 6) (bytes := 8) (m := 1) (vs := [.int .i64 15]) rfl rfl (by omega) (by omega)
    have s5' : Sep0 h h5 (bAll h.maps.length b 20 cl0 [.grown 1 se' (intsC E), .grown 1 sd' (intsC (D ++ [15]))]) := by
      rw [intsC_app]
      exact s5
    rw [e5]
    simp only [Option.bind_some]
    have hg5 := s5'.sep.grown (i := 5) rfl
    have hel5 := hg5.len
    simp only [List.length_map, Nat.mul_one] at hel5
    rw [hg5.cells]
    simp only [Option.bind_some]
    have ea : h5.append false 1 8 (Sl.lst 1 true [.int .i64 15]) se'.len (intsC E) = some (.mk ⟨h5.next, 0, 0⟩ (1 + se'.len) false, h5.push 1 (intsC (15 :: E))) := by
      rw [append_lst rfl (by omega) (by omega) (by omega)]
      rfl
    rw [ea]
    simp only [Option.bind_some]
    have s6 := bAll_in ((s5'.push 1 (1 + se'.len) (cs := intsC (15 :: E)) (by simp; omega)).cons)
    generalize hse : (Sl.mk ⟨h5.next, 0, 0⟩ (1 + se'.len) false) = sE
    have hcE : ∀ {n : Nat} {b : Bs} {cl : BaseL} (h' : AHeap), Sep0 h h' (bAll h.maps.length b n cl [.own 1 h5.next 0 (1 + se'.len) (intsC (15 :: E)), .grown 1 se' (intsC E), .grown 1 sd' (intsC (D ++ [15]))]) → h'.sliceCells 1 sE = some (intsC (15 :: E)) := fun h' hs => by
      rw [← hse]
      exact (hs.sep.own (i := 5) rfl).cells false
    have hcD : ∀ {n : Nat} {b : Bs} {cl : BaseL} (h' : AHeap), Sep0 h h' (bAll h.maps.length b n cl [.own 1 h5.next 0 (1 + se'.len) (intsC (15 :: E)), .grown 1 se' (intsC E), .grown 1 sd' (intsC (D ++ [15]))]) → h'.sliceCells 1 sd' = some (intsC (D ++ [15])) := fun h' hs => (hs.sep.grown (i := 7) rfl).cells
    generalize [Chunk.own 1 h5.next 0 (1 + se'.len) (intsC (15 :: E)), .grown 1 se' (intsC E), .grown 1 sd' (intsC (D ++ [15]))] = R at s6 hcE hcD
    -- both clauses are the same
    have hnE : normL (15 :: E) = normL (D ++ [15]) := normL_congr fun x => by
      rw [List.mem_cons, List.mem_append, List.mem_singleton, hEm x, or_comm]
    have hDlen : (D ++ [15]).length < 100000 := by simp; omega
    have hElen : ((15 : Int) :: E).length < 100000 := by simp; omega
    have hDok : litsOk 20 (D ++ [15]) = true := by
      rw [List.all_eq_true]
      intro x hx
      rw [isLit_spec]
      rcases List.mem_append.1 hx with hx | hx
      · have := hDr x hx; omega
      · rw [List.mem_singleton.1 hx]; omega
    have hEok : litsOk 20 (15 :: E) = true := by
      rw [List.all_eq_true]
      intro x hx
      rw [isLit_spec]
      rcases List.mem_cons.1 hx with hx | hx
      · rw [hx]; omega
      · have := hDr x ((hEm x).1 hx); omega
    have h15 : (15 : Int) ∈ normL (D ++ [15]) := mem_normL.2 (List.mem_append_right _ (List.mem_singleton.2 rfl))
    have hqm : ∀ x ∈ normL (D ++ [15]), x ∈ D ++ [15] := fun x hx => mem_normL.1 hx
    have hq0 : normL (D ++ [15]) ∉ thereB cl0 := fun hq => hno _ hq h15
    rw [len_run2 F (d + 68) s6]
    simp only [Option.bind_some, int_int]
    -- added twice
    obtain ⟨b1, h7, e7, B1, p7⟩ := add_run F (d + 63) (by omega) hb (by omega) (by omega) s6 (hcD _ s6) hDlen
    rw [hDok] at e7 p7
    obtain ⟨hb1, s7⟩ := p7
    rw [show run F (d + 69) F_rup_Base_Add [.ptr (bP b), .slice sd'] _ = _ from e7]
    rw [Option.bind_some, bool_bool, Option.bind_some, beq_self_eq_true, cond_true]
    have P1 : bP b = bP b1 := by unfold bP; rw [B1]
    rw [P1]
    obtain ⟨b2, h8, e8, B2, p8⟩ := add_run F (d + 63) (by omega) hb1 (by simp; omega) (by omega) s7 (hcE _ s7) hElen
    rw [hEok] at e8 p8
    obtain ⟨hb2, s8⟩ := p8
    rw [hnE] at hb2 s8
    rw [show run F (d + 69) F_rup_Base_Add [.ptr (bP b1), .slice sE] h7 = _ from e8]
    rw [Option.bind_some, bool_bool, Option.bind_some, Option.bind_some, bool_bool, Option.bind_some]
    have P2 : bP b1 = bP b2 := by unfold bP; rw [B2]
    rw [P2]
    generalize hQ : normL (D ++ [15]) = q at *
    have ht2 : thereB (cl0 ++ [some q] ++ [some q]) = thereB cl0 ++ [q, q] := by rw [there_add, there_add, List.append_assoc]; rfl
    have hl2 : (cl0 ++ [some q] ++ [some q]).length = cl0.length + 2 := by simp
    generalize cl0 ++ [some q] ++ [some q] = cl2 at s8 hb2 ht2 hl2
    -- it is there
    obtain ⟨h9, e9, s9, _⟩ := has_run2 F (d + 66) (by omega) hb2 (by omega) s8 (hcE _ s8) hElen
    rw [hnE, fst_some, ht2, decide_eq_true (by simp)] at e9
    rw [show run F (d + 69) F_rup_Base_Has [.ptr (bP b2), .slice sE] h8 = _ from e9]
    simp only [Option.bind_some, bool_bool, beq_self_eq_true, cond_true]
    rw [len_run2 F (d + 68) s9]
    simp only [Option.bind_some, int_int]
    have htl := there_len cl0
    have e10 : decide (((thereB cl2).length : Int) = IntKind.wrap .i64 (((thereB cl0).length : Int) + 2)) = true := by
      rw [ht2, List.length_append, wrap64 (by omega) (by omega)]
      exact decide_eq_true (by simp)
    rw [e10]
    simp only [bool_bool, Option.bind_some, beq_self_eq_true, cond_true]
    obtain ⟨h10, e11, s10⟩ := implied_run F (d + 62) hb2 (by omega) s9 (s := sd') (c := D ++ [15]) (fun h hs => hcD h hs) (by omega)
    have himp : implV 20 cl2 (D ++ [15]) = true := by
      rw [implV_iff hb2.norm hDok]
      exact imp_self (c := q) (by rw [ht2]; simp) hqm
    rw [himp] at e11
    rw [show run F (d + 69) F_rup_Base_Implied [.ptr (bP b2), .slice sd'] h9 = _ from e11]
    simp only [Option.bind_some, bool_bool]
    -- dropped
    obtain ⟨b3, h11, e12, B3, p11⟩ := drop_run F (d + 66) (by omega) hb2 (by omega) s10 (hcE _ s10) hElen
    rw [hnE] at e12 p11
    obtain ⟨i2, f2, t3⟩ := fst_in (cl := cl2) (l := q) (by rw [ht2]; simp)
    rw [f2] at e12 p11
    obtain ⟨hb3, s11⟩ := p11
    rw [show run F (d + 69) F_rup_Base_Drop [.ptr (bP b2), .slice sE] h10 = _ from e12]
    simp only [Option.bind_some, bool_bool, Option.isSome_some]
    have P3 : bP b2 = bP b3 := by unfold bP; rw [B3]
    rw [P3]
    have hl3 : (cl2.set i2 none).length = cl0.length + 2 := by rw [List.length_set, hl2]
    have ht3 : thereB (cl2.set i2 none) = thereB cl0 ++ [q] := by
      rw [t3, ht2, List.erase_append_right _ hq0]
      simp
    generalize cl2.set i2 none = cl3 at s11 hb3 ht3 hl3
    obtain ⟨h12, e13, s12, _⟩ := has_run2 F (d + 66) (by omega) hb3 (by omega) s11 (hcD _ s11) hDlen
    rw [hQ, fst_some, ht3, decide_eq_true (by simp)] at e13
    rw [show run F (d + 69) F_rup_Base_Has [.ptr (bP b3), .slice sd'] h11 = _ from e13]
    simp only [Option.bind_some, bool_bool]
    obtain ⟨b4, h13, e14, B4, p13⟩ := drop_run F (d + 66) (by omega) hb3 (by omega) s12 (hcD _ s12) hDlen
    rw [hQ] at e14 p13
    obtain ⟨i3, f3, t4⟩ := fst_in (cl := cl3) (l := q) (by rw [ht3]; simp)
    rw [f3] at e14 p13
    obtain ⟨hb4, s13⟩ := p13
    rw [show run F (d + 69) F_rup_Base_Drop [.ptr (bP b3), .slice sd'] h12 = _ from e14]
    simp only [Option.bind_some, bool_bool, Option.isSome_some]
    have P4 : bP b3 = bP b4 := by unfold bP; rw [B4]
    rw [P4]
    have ht4 : thereB (cl3.set i3 none) = thereB cl0 := by
      rw [t4, ht3, List.erase_append_right _ hq0]
      simp
    generalize cl3.set i3 none = cl4 at s13 hb4 ht4
    have fo : fstB cl4 q = none := fst_out (by rw [ht4]; exact hq0)
    obtain ⟨b5, h14, e15, B5, p14⟩ := drop_run F (d + 66) (by omega) hb4 (by omega) s13 (hcD _ s13) hDlen
    rw [hQ, fo] at e15 p14
    obtain ⟨rfl, s14⟩ := p14
    rw [show run F (d + 69) F_rup_Base_Drop [.ptr (bP b5), .slice sd'] h13 = _ from e15]
    simp only [Option.bind_some, bool_bool, Option.isSome_none, Bool.not_false, cond_true, beq_self_eq_true]
    obtain ⟨h15, e16, s15, _⟩ := has_run2 F (d + 66) (by omega) hb4 (by omega) s14 (hcE _ s14) hElen
    rw [hnE, fo] at e16
    rw [show run F (d + 69) F_rup_Base_Has [.ptr (bP b5), .slice sE] h14 = _ from e16]
    simp only [Option.bind_some, bool_bool, Option.isSome_none, Bool.not_false, cond_true, beq_self_eq_true]
    rw [len_run2 F (d + 68) s15, ht4]
    simp only [Option.bind_some, int_int, bool_bool, decide_true]
    exact ⟨_, rfl⟩
end Go.Proofs.YtdmbfmgebgdfnaaDoor
