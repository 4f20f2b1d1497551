/-
  lits.Norm; slices.Clone, Compact, Clip.
-/
import Derived.Test.YtnkbhbkfbigbiaaDoorSrt4
import Derived.Test.YtnkbhbkfbigbiaaDoorNrm0
import Derived.Test.YtnkbhbkfbigbiaaDoorCutS
import Derived.Lib.SlicesCompact
namespace Go.Proofs.YtnkbhbkfbigbiaaDoor
open Go.RowKit Go.Sort

section
variable {fuel : Nat} {h : AHeap} {id gen n : Nat} {c : Bool} {d : Array Int}

/-- a part of a row -/
theorem Own.cellsFrom {cs : List AVal} (ho : Own h 1 id gen n cs) {off k : Nat} (hk : off + k ≤ n) (c : Bool) : h.sliceCells 1 (.mk ⟨id, gen, off⟩ k c) = some ((cs.drop off).take k) := by
  obtain ⟨⟨row, h1, rfl, rfl, h4, h5, h6⟩, hlen⟩ := ho
  have := sliceCells_of (r := ⟨id, row.gen, off⟩) (n := k) (c := c) h1 h6 h4 (Nat.le_refl _) (by simp only; omega)
  rwa [Nat.mul_one] at this
theorem rdK2 (ho : Own h 1 id gen n (intsC d.toList)) {off k i : Nat} (hk : off + k ≤ n) (hi : i < k) {β : Type} (K : Int → Option β) :
    ((h.addr 1 (.mk ⟨id, gen, off⟩ k c) (i : Int)).bind fun p => (h.cell p).bind fun u => (AVal.int? .i64 u).bind K) = K d[off + i]! := by
  have hs := ho.cellsFrom hk c
  have hsz := own_size ho
  have hd : off + i < d.size := by omega
  rw [addr_at hs (by omega) (by simp [Sl.len]; omega), Option.bind_some, cell_at hs (v := .int .i64 d[off + i]!) (by omega) (by
    rw [Int.toNat_natCast, List.getElem?_take, if_pos hi, List.getElem?_drop, List.getElem?_map, Array.getElem?_toList, Array.getElem?_eq_getElem hd, getElem!_pos d _ hd]; rfl), Option.bind_some, int_int, Option.bind_some]
theorem wrK (ho : Own h 1 id gen n (intsC d.toList)) {i : Nat} (hi : i < n) (x : Int) : ∃ h', Own h' 1 id gen n (intsC (d.setIfInBounds i x).toList) ∧ Keeps h h' (· = id) ∧ ∀ {β : Type} (K : AHeap → Option β),
    ((h.addr 1 (.mk ⟨id, gen, 0⟩ n c) (i : Int)).bind fun p => (h.storeAt [.int .i64 x] p).bind K) = K h' := by
  obtain ⟨a1, h1, e1, o1, k1, _⟩ := ho.intsStore (j := (i : Int)) (by omega) (by omega) c x
  refine ⟨h1, ?_, k1, fun K => by rw [a1, Option.bind_some, e1, Option.bind_some]⟩
  rw [Array.toList_setIfInBounds]
  exact o1

theorem Own.clear {cs : List AVal} (ho : Own h 1 id gen n cs) {off k : Nat} {c : Bool} (z : AVal) (hl : off + k ≤ n) :
    ∃ h', h.clear false [z] 1 (.mk ⟨id, gen, off⟩ k c) = some h' ∧ Own h' 1 id gen n (cs.take off ++ List.replicate k z ++ cs.drop (off + k)) ∧ Keeps h h' (· = id) ∧ h'.rows.length = h.rows.length := by
  by_cases h0 : k = 0
  · subst h0
    exact ⟨h, by simp [AHeap.clear, Sl.len], by simpa using ho, Keeps.refl _ _, rfl⟩
  · obtain ⟨⟨row, h1, rfl, rfl, h4, h5, h6⟩, hlen⟩ := ho
    rw [Nat.mul_one] at hlen
    have hlt := (List.getElem?_eq_some_iff.1 h1).1
    have hle : off + k ≤ row.cells.length := by omega
    refine ⟨h.setRow id { row with cells := AHeap.overlay row.cells off (List.replicate k z), valid := row.gen }, ?_, ⟨⟨{ row with cells := AHeap.overlay row.cells off (List.replicate k z), valid := row.gen }, ?_, ?_, rfl, Nat.le_refl _, h5, h6⟩, ?_⟩, Keeps.setRow _ _ _, by simp [AHeap.setRow]⟩
    · simp only [AHeap.clear, Sl.len, beq_eq, h0, decide_false, cond_false, h1, h6, decide_true, cond_true, AHeap.store, h5, Bool.not_false, repeat_one, List.length_replicate, ble_eq, hle, Bool.and_self]
    · simp only [AHeap.setRow]
      exact List.getElem?_set_self hlt
    · simp only [AHeap.overlay, List.length_replicate]
    · simp; omega

/-! slices.Compact -/
open Go.Lib in
theorem cmp_loop1 (e : Nat) (hn : n < 1000000000) {k0 : Nat} (hk0 : 1 ≤ k0) (hk1 : k0 < n) (d0 : Array Int) : ∀ (g k m q : Nat) (dk : Array Int) (h : AHeap), q + g = n → g < m → Own h 1 id gen n (intsC dk.toList) → CompInv d0 q k dk → k0 < q →
    ∃ (h' : AHeap) (dk' : Array Int) (k' : Nat), l_slices_Compact_s_int_int_1 fuel e m [(0, .slice (.mk ⟨id, gen, 0⟩ n c)), (3, .int .i64 (k : Int)), (4, .slice (.mk ⟨id, gen, k0⟩ (n - k0) c)), (5, .int .i64 ((q - k0 : Nat) : Int))] h = some (.exit 2, [(0, .slice (.mk ⟨id, gen, 0⟩ n c)), (3, .int .i64 (k' : Int))], h') ∧
      Own h' 1 id gen n (intsC dk'.toList) ∧ CompInv d0 n k' dk' ∧ Keeps h h' (· = id) := by
  intro g
  induction g with
  | zero =>
    intro k m q dk h hq hm ho hC hq0
    obtain ⟨m, rfl⟩ : ∃ m', m = m' + 1 := ⟨m - 1, by omega⟩
    obtain rfl : q = n := by omega
    rw [l_slices_Compact_s_int_int_1_eq, len_mk, bif_neg (by omega)]
    exact ⟨h, dk, k, rfl, ho, hC, Keeps.refl _ _⟩
  | succ g ih =>
    intro k m q dk h hq hm ho hC hq0
    obtain ⟨m, rfl⟩ : ∃ m', m = m' + 1 := ⟨m - 1, by omega⟩
    have hs := own_size ho
    have hs0 : d0.size = n := by rw [← hC.size]; exact hs
    have hlt := hC.lt
    have e1 : dk[q]! = d0[q]! := hC.high q (by omega)
    have e2 : dk[q - 1]! = d0[q - 1]! := hC.high (q - 1) (by omega)
    rw [l_slices_Compact_s_int_int_1_eq, len_mk, bif_pos (by omega), rdK2 (off := k0) (k := n - k0) ho (by omega) (by omega), predI (by omega) (by omega), rdK2 (off := k0) (k := n - k0) (i := q - k0 - 1) ho (by omega) (by omega), show k0 + (q - k0) = q by omega, show k0 + (q - k0 - 1) = q - 1 by omega, e1, e2]
    by_cases he : d0[q]! = d0[q - 1]!
    · rw [bif_npos he, sucI (by omega), show q - k0 + 1 = q + 1 - k0 by omega]
      exact ih k m (q + 1) dk h (by omega) (by omega) ho (hC.skip (keeps_neg (by omega) he)) (by omega)
    · obtain ⟨h2, o2, k2, w2⟩ := wrK (c := c) ho (i := k) (by omega) d0[q]!
      rw [bif_nneg he, rdK2 (off := k0) (k := n - k0) ho (by omega) (by omega), show k0 + (q - k0) = q by omega, e1, w2, sucI (by omega), sucI (by omega), show q - k0 + 1 = q + 1 - k0 by omega]
      obtain ⟨h', dk', k', q1, q2, q3, q4⟩ := ih (k + 1) m (q + 1) _ h2 (by omega) (by omega) o2 (hC.keep (by omega) (keeps_pos he)) (by omega)
      exact ⟨h', dk', k', q1, q2, q3, k2.trans q4⟩

open Go.Lib in
theorem cmp_loop0 (e : Nat) (hn : n < 1000000000) (hf : n < fuel) (ho : Own h 1 id gen n (intsC d.toList)) : ∀ (g k m : Nat), k + g = n → g < m → 1 ≤ k → (∀ j, j < k → keeps d j = true) →
    ∃ (h' : AHeap) (k' : Nat) (c' : Bool), ((l_slices_Compact_s_int_int_0 fuel e m [(0, .slice (.mk ⟨id, gen, 0⟩ n c)), (3, .int .i64 (k : Int))] h).bind fun p => k_slices_Compact_s_int_int_0 fuel e p.1 p.2.1 p.2.2) = some (.slice (.mk ⟨id, gen, 0⟩ k' c'), h') ∧
      h'.sliceCells 1 (.mk ⟨id, gen, 0⟩ k' c') = some (intsC (compact d.toList)) ∧ k' = (compact d.toList).length ∧ Keeps h h' (· = id) := by
  have hsz := own_size ho
  have hcd : compact d.toList = compactUpTo d n := by unfold compact; simp [hsz]
  intro g
  induction g with
  | zero =>
    intro k m hk hm h1 hall
    obtain ⟨m, rfl⟩ : ∃ m', m = m' + 1 := ⟨m - 1, by omega⟩
    obtain rfl : k = n := by omega
    have e9 : compact d.toList = d.toList := by rw [hcd, compactUpTo_all d _ hall, ← hsz, range_map_get]
    rw [l_slices_Compact_s_int_int_0_eq, len_mk, bif_neg (by omega)]
    simp only [Option.bind_some, k_slices_Compact_s_int_int_0_x0]
    refine ⟨h, k, c, rfl, ?_, by rw [e9]; simpa using hsz.symm, Keeps.refl _ _⟩
    rw [e9]
    exact ho.cells c
  | succ g ih =>
    intro k m hk hm h1 hall
    obtain ⟨m, rfl⟩ : ∃ m', m = m' + 1 := ⟨m - 1, by omega⟩
    rw [l_slices_Compact_s_int_int_0_eq, len_mk, bif_pos (by omega), rdK ho (by omega), predI (by omega) (by omega), rdK ho (by omega)]
    by_cases he : d[k]! = d[k - 1]!
    · rw [bif_pos he, aHi_none, Option.bind_some, aLo_some (by omega) (by omega), Option.bind_some, aMx_none, Option.bind_some, ho.hasSz c, cond_true, Int.toNat_natCast]
      have ec : Sl.cut (.mk ⟨id, gen, 0⟩ n c) 1 k n false = .mk ⟨id, gen, k⟩ (n - k) c := by simp [Sl.cut]
      rw [ec]
      have hC := CompInv.start hall (keeps_neg (by omega) he)
      obtain ⟨h2, dk, k2, q1, o2, q3, kk2⟩ := cmp_loop1 (c := c) (fuel := fuel) e hn h1 (by omega) d (n - (k + 1)) k fuel (k + 1) d h (by omega) (by omega) ho hC (by omega)
      rw [show k + 1 - k = 1 by omega] at q1
      rw [show ((1 : Nat) : Int) = 1 from rfl] at q1
      rw [q1]
      simp only [Option.bind_some, k_slices_Compact_s_int_int_1_x2]
      have hlt := q3.lt
      rw [len_mk, aHi_none, Option.bind_some, aLo_some (by omega) (by omega), Option.bind_some, aMx_none, Option.bind_some, o2.hasSz c, cond_true, Int.toNat_natCast]
      have ec2 : Sl.cut (.mk ⟨id, gen, 0⟩ n c) 1 k2 n false = .mk ⟨id, gen, k2⟩ (n - k2) c := by simp [Sl.cut]
      obtain ⟨h3, e3, o3, k3, _⟩ := o2.clear (off := k2) (k := n - k2) (c := c) (.int .i64 0) (by omega)
      rw [ec2, e3, Option.bind_some, aHi_some (by omega) (by omega), Option.bind_some, aLo_none, Option.bind_some, aMx_none, Option.bind_some, o3.hasSz c, cond_true, Int.toNat_natCast]
      simp only [Option.bind_some, k_slices_Compact_s_int_int_0_r]
      have ec3 : Sl.cut (.mk ⟨id, gen, 0⟩ n c) 1 0 k2 false = .mk ⟨id, gen, 0⟩ k2 (c && Nat.beq k2 n) := by simp [Sl.cut]
      rw [ec3]
      have hl : (compact d.toList).length = k2 := by rw [hcd]; exact q3.len
      refine ⟨h3, k2, _, rfl, ?_, hl.symm, kk2.trans k3⟩
      rw [o3.cellsFrom (off := 0) (k := k2) (by omega), List.drop_zero, List.take_append_of_le_length (by simp; have := o2.len; simp at this; omega), List.take_append_of_le_length (by simp; have := o2.len; simp at this; omega), List.take_take, Nat.min_self]
      congr 1
      rw [← List.map_take, hcd]
      congr 1
      apply List.ext_getElem?
      intro j
      rw [List.getElem?_take]
      by_cases hj : j < k2
      · have hj2 : j < dk.size := by have := q3.size; omega
        rw [if_pos hj, q3.low j hj, Array.getElem?_toList, Array.getElem?_eq_getElem hj2, getElem!_pos dk j hj2]
      · rw [if_neg hj, List.getElem?_eq_none (by rw [q3.len]; omega)]
    · rw [bif_neg he, sucI (by omega)]
      exact ih (k + 1) m (by omega) (by omega) (by omega) fun j hj => by
        by_cases e : j = k
        · subst e; exact keeps_pos he
        · exact hall j (by omega)

open Go.Lib in
theorem compact_run (e : Nat) (hn : n < 1000000000) (hf : n < fuel) (ho : Own h 1 id gen n (intsC d.toList)) :
    ∃ (h' : AHeap) (k' : Nat) (c' : Bool), run fuel (e + 1) F_slices_Compact_s_int_int [.slice (.mk ⟨id, gen, 0⟩ n c)] h = some (.slice (.mk ⟨id, gen, 0⟩ k' c'), h') ∧
      h'.sliceCells 1 (.mk ⟨id, gen, 0⟩ k' c') = some (intsC (compact d.toList)) ∧ k' = (compact d.toList).length ∧ Keeps h h' (· = id) := by
  have hsz := own_size ho
  rw [e_slices_Compact_s_int_int, len_mk]
  by_cases h2 : n < 2
  · have hcd : compact d.toList = compactUpTo d n := by unfold compact; simp [hsz]
    have e9 : compact d.toList = d.toList := by rw [hcd, compactUpTo_all d _ (fun j hj => keeps_lt_one' d j (by omega)), ← hsz, range_map_get]
    rw [bif_pos (by omega)]
    refine ⟨h, n, c, rfl, ?_, by rw [e9]; simpa using hsz.symm, Keeps.refl _ _⟩
    rw [e9]
    exact ho.cells c
  · rw [bif_neg (by omega)]
    exact cmp_loop0 (c := c) e hn hf ho (n - 1) 1 fuel (by omega) (by omega) (by omega) (keeps_lt_one d)
where keeps_lt_one' (d : Array Int) (j : Nat) (h : j < 1) : Go.Lib.keeps d j = true := Go.Lib.keeps_lt_one d j h

/-! slices.Clip -/
theorem clip_run (e : Nat) {s : Sl} {l : List Int} (hs : freezeV h 8 (.slice s) = some (.slice (lstI l))) : ∃ ids, run fuel (e + 1) F_slices_Clip_s_int_int [.slice s] h = some (.slice (lstI l), h.markRo ids) := by
  refine run_any rfl rfl (mm1 hs) (r := .slice (.lst l.length true (intsC l))) (h' := AHeap.none) ?_ (freeze_lst 7 _ _ (closedL_map (fun _ => rfl) l))
  rw [e_slices_Clip_s_int_int, len_lst, aHi_some (by omega) (by omega), Option.bind_some, aLo_none, Option.bind_some]
  have e1 : aMx (some (.int .i64 ((l.length : Nat) : Int))) (Int.toNat ((l.length : Nat) : Int)) = some true := by simp [aMx, abound]
  rw [e1, Option.bind_some, hasSz_lstM, cond_true, Int.toNat_natCast]
  simp [Sl.cut, List.take_of_length_le]

/-! slices.Clone -/
theorem append_end {sz bytes n m : Nat} {cs xs : List AVal} (hc : cs.length = n * sz) (hm : m ≠ 0) (hb : (n + m) * bytes ≤ 140737488355328) (hb' : n + m ≤ 140737488355328) :
    h.append false sz bytes (.lst n true cs) m xs = some (.mk ⟨h.next, 0, 0⟩ (n + m) false, h.push sz (cs ++ xs)) := append_lst hc hm hb hb'
theorem clone_run (e : Nat) {l : List Int} (hl : l.length < 1000000000) (hne : l ≠ []) (h : AHeap) : run fuel (e + 1) F_slices_Clone_s_int_int [.slice (lstI l)] h = some (.slice (.mk ⟨h.next, 0, 0⟩ l.length false), h.push 1 (intsC l)) := by
  have hpos : 0 < l.length := List.length_pos_iff.2 hne
  have hn : nilTest .slice (.slice (lstI l)) = some false := by
    simp only [nilTest, beq_eq, decide_eq_false (show ¬ l.length = 0 by omega), cond_false]
  rw [body_of rfl rfl fuel e h (by
    have : oneEmpty [.slice (lstI l)] = false := by
      simp only [oneEmpty, beq_eq, decide_eq_false (show ¬ l.length = 0 by omega), Bool.false_and]
    rw [this, Bool.and_false]), e_slices_Clone_s_int_int, hn]
  simp only [Option.bind_some, cond_false, len_lst]
  rw [show h.sliceCells 1 (lstI l) = some (intsC l) from by simp [AHeap.sliceCells], Option.bind_some, append_end (n := 0) (cs := []) rfl (by omega) (by omega) (by omega)]
  simp
theorem clone_empty (e : Nat) (h : AHeap) : run fuel (e + 1) F_slices_Clone_s_int_int [.slice (lstI [])] h = some (.slice (.lst 0 true []), h) := by
  refine run_split rfl rfl rfl (v1 := .slice .nil) (v2 := .slice (.lst 0 true [])) ?_ ?_ rfl
  · rw [e_slices_Clone_s_int_int, nilTest_slice_nil]; rfl
  · rw [e_slices_Clone_s_int_int_e]; rfl

/-! lits.order -/
theorem Var_run' (fuel : Nat) {e : Nat} (he : 1 ≤ e) (l : Int) (h : AHeap) : run fuel e F_lits_Var [.int .i64 l] h = some (.int .i64 (varI l), h) := by
  obtain ⟨e, rfl⟩ : ∃ e', e = e' + 1 := ⟨e - 1, by omega⟩
  exact Var_run fuel e l h
theorem nan_run (e : Nat) (x : Int) (h : AHeap) : run fuel (e + 1) F_cmp_isNaN_int [.int .i64 x] h = some (.bool false, h) :=
  pure_of rfl rfl (cc1 rfl) (by rw [e_cmp_isNaN_int]) (by simp [freezeV, AVal.closed])
theorem compare_run (e : Nat) (x y : Int) (h : AHeap) : run fuel (e + 2) F_cmp_Compare_int [.int .i64 x, .int .i64 y] h = some (.int .i64 (cmpI x y), h) := by
  refine pure_of rfl rfl (cc2 rfl rfl) (r := .int .i64 (cmpI x y)) (h' := AHeap.none) ?_ rfl
  rw [e_cmp_Compare_int, nan_run]
  simp only [Option.bind_some, bool_bool, nan_run, cond_false]
  unfold cmpI
  cases decide (x < y) <;> cases decide (y < x) <;> rfl
theorem or_run (e : Nat) (hf : 3 < fuel) (x y : Int) (h : AHeap) : run fuel (e + 1) F_cmp_Or_int [.slice (.lst 2 true [.int .i64 x, .int .i64 y])] h = some (.int .i64 (bif decide (x = 0) then y else x), h) := by
  refine pure_of rfl rfl (cc1 (canon_lst (n := 7) rfl)) (r := .int .i64 (bif decide (x = 0) then y else x)) (h' := AHeap.none) ?_ rfl
  obtain ⟨m, rfl⟩ : ∃ m, fuel = m + 3 := ⟨fuel - 3, by omega⟩
  have a0 : ∀ h : AHeap, h.addr 1 (.lst 2 false [.int .i64 x, .int .i64 y]) 0 = some (.fp 0 [.int .i64 x]) := fun h => rfl
  have a1 : ∀ h : AHeap, h.addr 1 (.lst 2 false [.int .i64 x, .int .i64 y]) 1 = some (.fp 0 [.int .i64 y]) := fun h => rfl
  rw [e_cmp_Or_int, l_cmp_Or_int_0_eq, len_lst, bif_pos (by omega), a0, Option.bind_some, cell_fp, Option.bind_some, int_int, Option.bind_some]
  by_cases hx : x = 0
  · rw [bif_npos hx, bif_pos hx, wrap64 (by omega) (by omega), show (0 : Int) + 1 = 1 from rfl, l_cmp_Or_int_0_eq, bif_pos (by omega), a1, Option.bind_some, cell_fp, Option.bind_some, int_int, Option.bind_some]
    by_cases hy : y = 0
    · rw [bif_npos hy, wrap64 (by omega) (by omega), show (1 : Int) + 1 = 2 from rfl, l_cmp_Or_int_0_eq, bif_neg (by omega)]
      simp only [Option.bind_some, k_cmp_Or_int_0_x0, hy]
    · rw [bif_nneg hy]
      simp only [Option.bind_some, k_cmp_Or_int_0_r]
  · rw [bif_nneg hx, bif_neg hx]
    simp only [Option.bind_some, k_cmp_Or_int_0_r]
theorem order_run (e : Nat) (hf : 3 < fuel) (x y : Int) (h : AHeap) : run fuel (e + 3) F_lits_order [.int .i64 x, .int .i64 y] h = some (.int .i64 (ordL x y), h) := by
  refine pure_of rfl rfl (cc2 rfl rfl) (r := .int .i64 (ordL x y)) (h' := AHeap.none) ?_ rfl
  rw [e_lits_order, Var_run' fuel (by omega)]
  simp only [Option.bind_some, int_int, Var_run' fuel (show 1 ≤ e + 2 by omega), compare_run e]
  rw [or_run (e + 1) hf]
  simp only [Option.bind_some, int_int]
  rfl
theorem order_ok (hf : 3 < fuel) : CmpOk fuel F_lits_order [] ordL 3 := by
  intro e he x y h
  obtain ⟨e, rfl⟩ : ∃ e', e = e' + 3 := ⟨e - 3, by omega⟩
  exact order_run e hf x y h

/-! lits.Norm -/
theorem says_loop (e : Nat) {l : List Int} (hl : l.length < 1000000000) {h : AHeap} (he : 1 ≤ e) : ∀ (g k m : Nat), k + g = l.length → g < m → 1 ≤ k →
    ((l_lits_Norm_0 fuel e m [(4, .slice (lstI l)), (5, .int .i64 (k : Int))] h).bind fun p => k_lits_Norm_0 fuel e p.1 p.2.1 p.2.2) = some (.tup [.slice (lstI l), .bool (saysL (l.drop (k - 1)))], h) := by
  intro g
  induction g with
  | zero =>
    intro k m hk hm h1
    obtain ⟨m, rfl⟩ : ∃ m', m = m' + 1 := ⟨m - 1, by omega⟩
    rw [l_lits_Norm_0_eq, len_lst, bif_neg (by omega)]
    simp only [Option.bind_some, k_lits_Norm_0_x0]
    have : (l.drop (k - 1)).length = 1 := by simp; omega
    obtain ⟨x, hx⟩ := List.length_eq_one_iff.1 this
    rw [hx]
    rfl
  | succ g ih =>
    intro k m hk hm h1
    obtain ⟨m, rfl⟩ : ∃ m', m = m' + 1 := ⟨m - 1, by omega⟩
    rw [l_lits_Norm_0_eq, len_lst, bif_pos (by omega), addr_lstM _ (by omega) (by omega) 0, Option.bind_some, cell_fp, Option.bind_some, int_int, Option.bind_some, Var_run' fuel he]
    simp only [Option.bind_some, int_int]
    rw [predI (by omega) (by omega), addr_lstM _ (by omega) (by omega) 0]
    simp only [Option.bind_some, same_self, cell_fp, int_int, Var_run' fuel he, Int.toNat_natCast]
    have e1 : l.drop (k - 1) = l.getD (k - 1) 0 :: l.drop k := by
      have h2 : k - 1 < l.length := by omega
      rw [List.drop_eq_getElem_cons h2, show k - 1 + 1 = k by omega]
      simp [List.getD, h2]
    have e2 : l.drop k = l.getD k 0 :: l.drop (k + 1) := by
      have h2 : k < l.length := by omega
      rw [List.drop_eq_getElem_cons h2]
      simp [List.getD, h2]
    rw [e1, e2]
    unfold saysL
    by_cases hv : varI (l.getD k 0) = varI (l.getD (k - 1) 0)
    · rw [bif_pos hv, decide_eq_true hv]
      simp only [Option.bind_some, k_lits_Norm_0_r, Bool.not_true, Bool.false_and]
    · rw [bif_neg hv, decide_eq_false hv, sucI (by omega), ih (k + 1) m (by omega) (by omega) (by omega)]
      simp only [Nat.add_sub_cancel, e2, Bool.not_false, Bool.true_and]

open Go.Lib in
/-- sorted and without neighbours alike: in order, each once -/
theorem compact_norm {l : List Int} {d : Array Int} (hp : d.toList.Perm l) (hs : SortedIn (ltO ordL) 0 d.size d) : compact d.toList = normL l := by
  have hcd : compact d.toList = compactUpTo d d.size := by unfold compact; simp
  rw [ltO_ordL] at hs
  have key : ∀ m, m ≤ d.size → SortedL (compactUpTo d m) ∧ (∀ x, x ∈ compactUpTo d m ↔ ∃ j, j < m ∧ d[j]! = x) ∧ (0 < m → ∃ y, (compactUpTo d m).getLast? = some y ∧ y = d[m - 1]!) := by
    intro m
    induction m with
    | zero => intro _; exact ⟨by simp [compactUpTo, SortedL], fun x => by simp [compactUpTo], fun h => absurd h (by omega)⟩
    | succ m ih =>
      intro hm
      obtain ⟨i1, i2, i3⟩ := ih (by omega)
      rw [compactUpTo_succ]
      have hmem : ∀ x, x ∈ compactUpTo d m → x = d[m - 1]! ∨ ltL x d[m - 1]! = true := by
        intro x hx
        obtain ⟨j, hj, rfl⟩ := (i2 x).1 hx
        by_cases e : j = m - 1
        · left; rw [e]
        · have := hs j (m - 1) (by omega) (by omega) (by omega)
          cases hc : ltL d[j]! d[m - 1]! with
          | true => exact .inr rfl
          | false => exact .inl (ltL_tot hc this)
      by_cases hk : keeps d m = true
      · rw [if_pos hk]
        have hlast : ∀ x, x ∈ compactUpTo d m → ltL x d[m]! = true := by
          intro x hx
          have hm0 : 0 < m := by
            obtain ⟨j, hj, _⟩ := (i2 x).1 hx; omega
          have hne : d[m]! ≠ d[m - 1]! := by
            have : m = 0 ∨ d[m]! ≠ d[m - 1]! := by simpa [keeps] using hk
            rcases this with h | h
            · omega
            · exact h
          have h1 : ltL d[m - 1]! d[m]! = true := by
            have := hs (m - 1) m (by omega) (by omega) (by omega)
            cases hc : ltL d[m - 1]! d[m]! with
            | true => rfl
            | false => exact absurd (ltL_tot hc this).symm hne
          rcases hmem x hx with e | e
          · rw [e]; exact h1
          · exact ltL_trans e h1
        refine ⟨List.pairwise_append.2 ⟨i1, by simp, fun a ha b hb => ?_⟩, fun x => ?_, fun _ => ⟨d[m]!, by simp, by simp⟩⟩
        · simp at hb; subst hb; exact hlast a ha
        · rw [List.mem_append, i2]
          constructor
          · rintro (⟨j, h1, h2⟩ | h1)
            · exact ⟨j, by omega, h2⟩
            · simp at h1; exact ⟨m, by omega, h1.symm⟩
          · rintro ⟨j, h1, h2⟩
            by_cases e : j = m
            · subst e; right; simp [h2]
            · exact .inl ⟨j, by omega, h2⟩
      · rw [if_neg hk, List.append_nil]
        have hk' : ¬ (m = 0 ∨ d[m]! ≠ d[m - 1]!) := by simpa [keeps] using hk
        have hm0 : 0 < m := by omega
        have heq : d[m]! = d[m - 1]! := by
          by_cases e : d[m]! = d[m - 1]!
          · exact e
          · exact absurd (.inr e) hk'
        refine ⟨i1, fun x => ?_, fun _ => ?_⟩
        · rw [i2]
          constructor
          · rintro ⟨j, h1, h2⟩; exact ⟨j, by omega, h2⟩
          · rintro ⟨j, h1, h2⟩
            by_cases e : j = m
            · exact ⟨m - 1, by omega, by rw [← heq, ← e]; exact h2⟩
            · exact ⟨j, by omega, h2⟩
        · obtain ⟨y, h1, h2⟩ := i3 hm0
          exact ⟨y, h1, by rw [h2, ← heq, Nat.add_sub_cancel]⟩
  obtain ⟨k1, k2, _⟩ := key d.size (Nat.le_refl _)
  rw [hcd]
  refine sortedL_unique k1 (normL_sorted l) fun x => ?_
  rw [k2, mem_normL, ← hp.mem_iff]
  constructor
  · rintro ⟨j, h1, rfl⟩
    rw [getElem!_pos d j h1]
    exact Array.getElem_mem_toList h1
  · intro hx
    obtain ⟨j, hj, rfl⟩ := List.mem_iff_getElem.1 hx
    have hj2 : j < d.size := by simpa using hj
    exact ⟨j, hj2, by rw [getElem!_pos d j hj2]; simp⟩

theorem Norm_body {e : Nat} (he : 50 ≤ e) {l : List Int} (hl : l.length < 1000000000) (hf : l.length + 10 < fuel) :
    ∃ h', brun fuel e F_lits_Norm [.slice (lstI l)] AHeap.none = some (.tup [.slice (lstI (normL l)), .bool (saysL (normL l))], h') := by
  obtain ⟨e, rfl⟩ : ∃ e', e = e' + 49 + 1 := ⟨e - 50, by omega⟩
  have hlen := normL_length l
  have fin : ∀ h, ((l_lits_Norm_0 fuel (e + 49) fuel [(4, .slice (lstI (normL l))), (5, .int .i64 1)] h).bind fun p => k_lits_Norm_0 fuel (e + 49) p.1 p.2.1 p.2.2) = some (.tup [.slice (lstI (normL l)), .bool (saysL (normL l))], h) := by
    intro h
    by_cases h0 : normL l = []
    · obtain ⟨m, hm⟩ : ∃ m, fuel = m + 1 := ⟨fuel - 1, by omega⟩
      rw [h0]
      have := l_lits_Norm_0_eq fuel (e + 49) m (lstI []) 1 h
      rw [← hm] at this
      rw [this, len_lst, bif_neg (by simp)]
      simp only [Option.bind_some, k_lits_Norm_0_x0]
      rfl
    · have hpos : 0 < (normL l).length := List.length_pos_iff.2 h0
      have := says_loop (fuel := fuel) (e + 49) (l := normL l) (h := h) (by omega) (by omega) ((normL l).length - 1) 1 fuel (by omega) (by omega) (by omega)
      simpa using this
  rw [e_lits_Norm]
  by_cases h0 : l = []
  · subst h0
    rw [clone_empty]
    simp only [Option.bind_some, slice_slice]
    have hs : run fuel (e + 49) F_slices_SortFunc_s_int_int [.slice (.lst 0 true []), .func F_lits_order []] AHeap.none = some (.tup [], AHeap.none) := by
      rw [e_slices_SortFunc_s_int_int, len_lst, wrap_u64 (by omega) (by omega), len_run fuel (e + 46) (by omega)]
      simp only [Option.bind_some, int_int]
      obtain ⟨m, hm⟩ : ∃ m, fuel = m + 1 := ⟨fuel - 1, by omega⟩
      rw [e_slices_pdqsortCmpFunc_int]
      have hp := l_slices_pdqsortCmpFunc_int_0_eq fuel (e + 47) m (.lst 0 true []) 0 ((0 : Nat) : Int) ((bitsLen 0 : Nat) : Int) F_lits_order [] true true AHeap.none
      rw [← hm] at hp
      have hi := l_slices_insertionSortCmpFunc_int_0_eq fuel (e + 46) m (.lst 0 true []) 0 ((0 : Nat) : Int) F_lits_order [] (IntKind.wrap .i64 (0 + 1)) AHeap.none
      rw [← hm] at hi
      rw [hp, wrap64 (n := ((0 : Nat) : Int) - 0) (by omega) (by omega), bif_pos (by omega), e_slices_insertionSortCmpFunc_int, hi, wrap64 (by omega) (by omega), bif_neg (by omega)]
      simp only [Option.bind_some, k_slices_insertionSortCmpFunc_int_0_x0, k_slices_pdqsortCmpFunc_int_0_r]
    have hc : run fuel (e + 49) F_slices_Compact_s_int_int [.slice (.lst 0 true [])] AHeap.none = some (.slice (.lst 0 true []), AHeap.none) := by
      rw [e_slices_Compact_s_int_int, len_lst, bif_pos (by omega)]
    obtain ⟨ids, hcl⟩ := clip_run (fuel := fuel) (h := AHeap.none) (e + 48) (s := .lst 0 true []) (l := []) rfl
    simp only [hs, hc, Option.bind_some, slice_slice, hcl]
    exact ⟨_, fin _⟩
  · rw [clone_run (e + 48) hl h0]
    simp only [Option.bind_some, slice_slice]
    have o0 : Own (AHeap.none.push 1 (intsC l)) 1 AHeap.none.next 0 l.length (intsC (l.toArray).toList) := Own.of_push 1 _ _ (by simp)
    obtain ⟨h1, d1, e1, p1, s1, o1, k1⟩ := sortFunc_run (c := false) (f := F_lits_order) (cps := []) (ord := ordL) (D := 3) (fuel := fuel) (by rw [ltO_ordL]; exact swo_ltL) (order_ok (by omega)) hl (by omega) (e := e + 49) (by omega) o0
    obtain ⟨h2, k2, c2, e2, q2, q3, _⟩ := compact_run (c := false) (fuel := fuel) (e + 48) hl (by omega) o1
    have hn := compact_norm (l := l) (d := d1) (by simpa using p1) (by rw [own_size o1]; exact s1)
    rw [hn] at q2 q3
    subst q3
    obtain ⟨ids, hcl⟩ := clip_run (fuel := fuel) (h := h2) (e + 48) (s := .mk ⟨AHeap.none.next, 0, 0⟩ (normL l).length c2) (l := normL l) (freeze_cells q2 (freeze_intsC 6 _))
    rw [e1]
    simp only [Option.bind_some, e2, slice_slice, hcl]
    exact ⟨_, fin _⟩

theorem norm_fr {h : AHeap} (l : List Int) : freezeV h 8 (.tup [.slice (lstI (normL l)), .bool (saysL (normL l))]) = some (.tup [.slice (lstI (normL l)), .bool (saysL (normL l))]) := freeze_tup2 _ (freeze_lstI _ _) (freeze_bool _ _)
theorem Norm_canon {e : Nat} (he : 50 ≤ e) {l : List Int} (hl : l.length < 1000000000) (hf : l.length + 10 < fuel) {v : AVal} (hv : canonV 8 v = some (.slice (lstI l))) (h : AHeap) :
    run fuel e F_lits_Norm [v] h = some (.tup [.slice (lstI (normL l)), .bool (saysL (normL l))], h) := by
  obtain ⟨e, rfl⟩ : ∃ e', e = e' + 1 := ⟨e - 1, by omega⟩
  obtain ⟨h', hb⟩ := Norm_body (fuel := fuel) he hl hf
  exact pure_of rfl rfl (cc1 hv) hb (norm_fr l)
theorem Norm_run {e : Nat} (he : 50 ≤ e) {l : List Int} (hl : l.length < 1000000000) (hf : l.length + 10 < fuel) (h : AHeap) :
    run fuel e F_lits_Norm [.slice (lstI l)] h = some (.tup [.slice (lstI (normL l)), .bool (saysL (normL l))], h) := Norm_canon he hl hf (canon_lstI 7 l) h
theorem Norm_any {e : Nat} (he : 50 ≤ e) {l : List Int} (hl : l.length < 1000000000) (hf : l.length + 10 < fuel) {h : AHeap} {s : Sl} (hs : freezeV h 8 (.slice s) = some (.slice (lstI l))) :
    ∃ ids, run fuel e F_lits_Norm [.slice s] h = some (.tup [.slice (lstI (normL l)), .bool (saysL (normL l))], h.markRo ids) := by
  obtain ⟨e, rfl⟩ : ∃ e', e = e' + 1 := ⟨e - 1, by omega⟩
  obtain ⟨h', hb⟩ := Norm_body (fuel := fuel) he hl hf
  exact run_any rfl rfl (mm1 hs) hb (norm_fr l)

end
end Go.Proofs.YtnkbhbkfbigbiaaDoor
