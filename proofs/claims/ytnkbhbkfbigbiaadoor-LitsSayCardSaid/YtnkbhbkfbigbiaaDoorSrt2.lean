/-
  slices.SortFunc at []int, second part: partitions.
-/
import Derived.Test.YtnkbhbkfbigbiaaDoorSrt1
namespace Go.Proofs.YtnkbhbkfbigbiaaDoor
open Go.RowKit Go.Sort
section
variable {fuel f : Nat} {cps : List Pt} {ord : Int → Int → Int} {D : Nat} {h : AHeap} {id gen n : Nat} {c : Bool} {d : Array Int}

theorem part_up0 (hc : CmpOk fuel f cps ord D) {e : Nat} (he : D ≤ e) (hn : n < 1000000000000) {a j : Nat} (ha : a < n) (hj : j < n) (ho : Own h 1 id gen n (intsC d.toList)) : ∀ (k i m : Nat), j + 1 - i ≤ k → k < m → i < 2000000000000 →
    l_slices_partitionCmpFunc_int_0 fuel e m [(0, .slice (.mk ⟨id, gen, 0⟩ n c)), (1, .int .i64 (a : Int)), (4, .func f cps), (12, .int .i64 (i : Int)), (13, .int .i64 (j : Int))] h = some (.exit 0, [(0, .slice (.mk ⟨id, gen, 0⟩ n c)), (1, .int .i64 (a : Int)), (4, .func f cps), (12, .int .i64 ((scanUp (fun x => ltO ord x d[a]!) d j i : Nat) : Int)), (13, .int .i64 (j : Int))], h) := by
  intro k
  induction k with
  | zero =>
    intro i m h1 h2 h3
    obtain ⟨m, rfl⟩ : ∃ m', m = m' + 1 := ⟨m - 1, by omega⟩
    rw [l_slices_partitionCmpFunc_int_0_eq, bif_neg (by omega)]
    simp only [Option.bind_some, k_slices_partitionCmpFunc_int_1_n, cond_false]
    rw [scanUp, decide_eq_false (show ¬ i ≤ j by omega)]
    rfl
  | succ k ih =>
    intro i m h1 h2 h3
    obtain ⟨m, rfl⟩ : ∃ m', m = m' + 1 := ⟨m - 1, by omega⟩
    rw [l_slices_partitionCmpFunc_int_0_eq, scanUp]
    by_cases hij : i ≤ j
    · rw [bif_pos (by omega), rdK ho (by omega), rdK ho ha, hc _ he]
      simp only [Option.bind_some, int_int, dlt (ord := ord), k_slices_partitionCmpFunc_int_1_n, decide_eq_true hij, Bool.true_and]
      cases hlt : ltO ord d[i]! d[a]! with
      | true =>
        simp only [cond_true, if_true, hlt]
        rw [sucI (by omega)]
        exact ih (i + 1) m (by omega) (by omega) (by omega)
      | false => simp only [cond_false, Bool.false_eq_true, if_false, hlt]
    · rw [bif_neg (by omega)]
      simp only [Option.bind_some, k_slices_partitionCmpFunc_int_1_n, cond_false, decide_eq_false hij, Bool.false_and, Bool.false_eq_true, if_false]

theorem part_dn1 (hc : CmpOk fuel f cps ord D) {e : Nat} (he : D ≤ e) (hn : n < 1000000000000) {a i : Nat} (ha : a < n) (hi : 1 ≤ i) (ho : Own h 1 id gen n (intsC d.toList)) : ∀ (j m : Nat), j < m → j < n →
    l_slices_partitionCmpFunc_int_1 fuel e m [(0, .slice (.mk ⟨id, gen, 0⟩ n c)), (1, .int .i64 (a : Int)), (4, .func f cps), (12, .int .i64 (i : Int)), (13, .int .i64 (j : Int))] h = some (.exit 2, [(0, .slice (.mk ⟨id, gen, 0⟩ n c)), (1, .int .i64 (a : Int)), (4, .func f cps), (12, .int .i64 (i : Int)), (13, .int .i64 ((scanDown (fun x => !ltO ord x d[a]!) d i j : Nat) : Int))], h) := by
  intro j
  induction j with
  | zero =>
    intro m h1 h2
    obtain ⟨m, rfl⟩ : ∃ m', m = m' + 1 := ⟨m - 1, by omega⟩
    rw [l_slices_partitionCmpFunc_int_1_eq, bif_neg (by omega)]
    simp only [Option.bind_some, k_slices_partitionCmpFunc_int_3_n, cond_false, scanDown]
  | succ j ih =>
    intro m h1 h2
    obtain ⟨m, rfl⟩ : ∃ m', m = m' + 1 := ⟨m - 1, by omega⟩
    rw [l_slices_partitionCmpFunc_int_1_eq, scanDown]
    by_cases hij : i ≤ j + 1
    · rw [bif_pos (by omega), rdK ho h2, rdK ho ha, hc _ he]
      simp only [Option.bind_some, int_int, dlt (ord := ord), k_slices_partitionCmpFunc_int_3_n, decide_eq_true hij, Bool.true_and]
      cases hlt : !ltO ord d[j + 1]! d[a]! with
      | true =>
        simp only [cond_true, if_true, hlt]
        rw [predI (by omega) (by omega), Nat.add_sub_cancel]
        exact ih m (by omega) (by omega)
      | false => simp only [cond_false, Bool.false_eq_true, if_false, hlt]
    · rw [bif_neg (by omega)]
      simp only [Option.bind_some, k_slices_partitionCmpFunc_int_3_n, cond_false, decide_eq_false hij, Bool.false_and, Bool.false_eq_true, if_false]

theorem part_up3 (hc : CmpOk fuel f cps ord D) {e : Nat} (he : D ≤ e) (hn : n < 1000000000000) {a j : Nat} (ha : a < n) (hj : j < n) (ho : Own h 1 id gen n (intsC d.toList)) : ∀ (k i m : Nat), j + 1 - i ≤ k → k < m → i < 2000000000000 →
    l_slices_partitionCmpFunc_int_3 fuel e m [(0, .slice (.mk ⟨id, gen, 0⟩ n c)), (1, .int .i64 (a : Int)), (4, .func f cps), (12, .int .i64 (i : Int)), (13, .int .i64 (j : Int))] h = some (.exit 6, [(0, .slice (.mk ⟨id, gen, 0⟩ n c)), (1, .int .i64 (a : Int)), (4, .func f cps), (12, .int .i64 ((scanUp (fun x => ltO ord x d[a]!) d j i : Nat) : Int)), (13, .int .i64 (j : Int))], h) := by
  intro k
  induction k with
  | zero =>
    intro i m h1 h2 h3
    obtain ⟨m, rfl⟩ : ∃ m', m = m' + 1 := ⟨m - 1, by omega⟩
    rw [l_slices_partitionCmpFunc_int_3_eq, bif_neg (by omega)]
    simp only [Option.bind_some, k_slices_partitionCmpFunc_int_6_n, cond_false]
    rw [scanUp, decide_eq_false (show ¬ i ≤ j by omega)]
    rfl
  | succ k ih =>
    intro i m h1 h2 h3
    obtain ⟨m, rfl⟩ : ∃ m', m = m' + 1 := ⟨m - 1, by omega⟩
    rw [l_slices_partitionCmpFunc_int_3_eq, scanUp]
    by_cases hij : i ≤ j
    · rw [bif_pos (by omega), rdK ho (by omega), rdK ho ha, hc _ he]
      simp only [Option.bind_some, int_int, dlt (ord := ord), k_slices_partitionCmpFunc_int_6_n, decide_eq_true hij, Bool.true_and]
      cases hlt : ltO ord d[i]! d[a]! with
      | true =>
        simp only [cond_true, if_true, hlt]
        rw [sucI (by omega)]
        exact ih (i + 1) m (by omega) (by omega) (by omega)
      | false => simp only [cond_false, Bool.false_eq_true, if_false, hlt]
    · rw [bif_neg (by omega)]
      simp only [Option.bind_some, k_slices_partitionCmpFunc_int_6_n, cond_false, decide_eq_false hij, Bool.false_and, Bool.false_eq_true, if_false]

theorem part_dn4 (hc : CmpOk fuel f cps ord D) {e : Nat} (he : D ≤ e) (hn : n < 1000000000000) {a i : Nat} (ha : a < n) (hi : 1 ≤ i) (ho : Own h 1 id gen n (intsC d.toList)) : ∀ (j m : Nat), j < m → j < n →
    l_slices_partitionCmpFunc_int_4 fuel e m [(0, .slice (.mk ⟨id, gen, 0⟩ n c)), (1, .int .i64 (a : Int)), (4, .func f cps), (12, .int .i64 (i : Int)), (13, .int .i64 (j : Int))] h = some (.exit 8, [(0, .slice (.mk ⟨id, gen, 0⟩ n c)), (1, .int .i64 (a : Int)), (4, .func f cps), (12, .int .i64 (i : Int)), (13, .int .i64 ((scanDown (fun x => !ltO ord x d[a]!) d i j : Nat) : Int))], h) := by
  intro j
  induction j with
  | zero =>
    intro m h1 h2
    obtain ⟨m, rfl⟩ : ∃ m', m = m' + 1 := ⟨m - 1, by omega⟩
    rw [l_slices_partitionCmpFunc_int_4_eq, bif_neg (by omega)]
    simp only [Option.bind_some, k_slices_partitionCmpFunc_int_8_n, cond_false, scanDown]
  | succ j ih =>
    intro m h1 h2
    obtain ⟨m, rfl⟩ : ∃ m', m = m' + 1 := ⟨m - 1, by omega⟩
    rw [l_slices_partitionCmpFunc_int_4_eq, scanDown]
    by_cases hij : i ≤ j + 1
    · rw [bif_pos (by omega), rdK ho h2, rdK ho ha, hc _ he]
      simp only [Option.bind_some, int_int, dlt (ord := ord), k_slices_partitionCmpFunc_int_8_n, decide_eq_true hij, Bool.true_and]
      cases hlt : !ltO ord d[j + 1]! d[a]! with
      | true =>
        simp only [cond_true, if_true, hlt]
        rw [predI (by omega) (by omega), Nat.add_sub_cancel]
        exact ih m (by omega) (by omega)
      | false => simp only [cond_false, Bool.false_eq_true, if_false, hlt]
    · rw [bif_neg (by omega)]
      simp only [Option.bind_some, k_slices_partitionCmpFunc_int_8_n, cond_false, decide_eq_false hij, Bool.false_and, Bool.false_eq_true, if_false]

theorem peq_up1 (hc : CmpOk fuel f cps ord D) {e : Nat} (he : D ≤ e) (hn : n < 1000000000000) {a j : Nat} (ha : a < n) (hj : j < n) (ho : Own h 1 id gen n (intsC d.toList)) : ∀ (k i m : Nat), j + 1 - i ≤ k → k < m → i < 2000000000000 →
    l_slices_partitionEqualCmpFunc_int_1 fuel e m [(0, .slice (.mk ⟨id, gen, 0⟩ n c)), (1, .int .i64 (a : Int)), (4, .func f cps), (11, .int .i64 (i : Int)), (12, .int .i64 (j : Int))] h = some (.exit 2, [(0, .slice (.mk ⟨id, gen, 0⟩ n c)), (1, .int .i64 (a : Int)), (4, .func f cps), (11, .int .i64 ((scanUp (fun x => !ltO ord d[a]! x) d j i : Nat) : Int)), (12, .int .i64 (j : Int))], h) := by
  intro k
  induction k with
  | zero =>
    intro i m h1 h2 h3
    obtain ⟨m, rfl⟩ : ∃ m', m = m' + 1 := ⟨m - 1, by omega⟩
    rw [l_slices_partitionEqualCmpFunc_int_1_eq, bif_neg (by omega)]
    simp only [Option.bind_some, k_slices_partitionEqualCmpFunc_int_2_n, cond_false]
    rw [scanUp, decide_eq_false (show ¬ i ≤ j by omega)]
    rfl
  | succ k ih =>
    intro i m h1 h2 h3
    obtain ⟨m, rfl⟩ : ∃ m', m = m' + 1 := ⟨m - 1, by omega⟩
    rw [l_slices_partitionEqualCmpFunc_int_1_eq, scanUp]
    by_cases hij : i ≤ j
    · rw [bif_pos (by omega), rdK ho ha, rdK ho (by omega), hc _ he]
      simp only [Option.bind_some, int_int, dlt (ord := ord), k_slices_partitionEqualCmpFunc_int_2_n, decide_eq_true hij, Bool.true_and]
      cases hlt : !ltO ord d[a]! d[i]! with
      | true =>
        simp only [cond_true, if_true, hlt]
        rw [sucI (by omega)]
        exact ih (i + 1) m (by omega) (by omega) (by omega)
      | false => simp only [cond_false, Bool.false_eq_true, if_false, hlt]
    · rw [bif_neg (by omega)]
      simp only [Option.bind_some, k_slices_partitionEqualCmpFunc_int_2_n, cond_false, decide_eq_false hij, Bool.false_and, Bool.false_eq_true, if_false]

theorem peq_dn2 (hc : CmpOk fuel f cps ord D) {e : Nat} (he : D ≤ e) (hn : n < 1000000000000) {a i : Nat} (ha : a < n) (hi : 1 ≤ i) (ho : Own h 1 id gen n (intsC d.toList)) : ∀ (j m : Nat), j < m → j < n →
    l_slices_partitionEqualCmpFunc_int_2 fuel e m [(0, .slice (.mk ⟨id, gen, 0⟩ n c)), (1, .int .i64 (a : Int)), (4, .func f cps), (11, .int .i64 (i : Int)), (12, .int .i64 (j : Int))] h = some (.exit 4, [(0, .slice (.mk ⟨id, gen, 0⟩ n c)), (1, .int .i64 (a : Int)), (4, .func f cps), (11, .int .i64 (i : Int)), (12, .int .i64 ((scanDown (fun x => ltO ord d[a]! x) d i j : Nat) : Int))], h) := by
  intro j
  induction j with
  | zero =>
    intro m h1 h2
    obtain ⟨m, rfl⟩ : ∃ m', m = m' + 1 := ⟨m - 1, by omega⟩
    rw [l_slices_partitionEqualCmpFunc_int_2_eq, bif_neg (by omega)]
    simp only [Option.bind_some, k_slices_partitionEqualCmpFunc_int_4_n, cond_false, scanDown]
  | succ j ih =>
    intro m h1 h2
    obtain ⟨m, rfl⟩ : ∃ m', m = m' + 1 := ⟨m - 1, by omega⟩
    rw [l_slices_partitionEqualCmpFunc_int_2_eq, scanDown]
    by_cases hij : i ≤ j + 1
    · rw [bif_pos (by omega), rdK ho ha, rdK ho h2, hc _ he]
      simp only [Option.bind_some, int_int, dlt (ord := ord), k_slices_partitionEqualCmpFunc_int_4_n, decide_eq_true hij, Bool.true_and]
      cases hlt : ltO ord d[a]! d[j + 1]! with
      | true =>
        simp only [cond_true, if_true, hlt]
        rw [predI (by omega) (by omega), Nat.add_sub_cancel]
        exact ih m (by omega) (by omega)
      | false => simp only [cond_false, Bool.false_eq_true, if_false, hlt]
    · rw [bif_neg (by omega)]
      simp only [Option.bind_some, k_slices_partitionEqualCmpFunc_int_4_n, cond_false, decide_eq_false hij, Bool.false_and, Bool.false_eq_true, if_false]

/-! partitionEqual -/
theorem peq_loop (hc : CmpOk fuel f cps ord D) {e : Nat} (he : D ≤ e) (hn : n < 1000000000000) (hf : n + 2 < fuel) {a : Nat} (ha : a < n) : ∀ (k i j m : Nat) (d : Array Int) (h : AHeap), j + 1 - i ≤ k → k < m → 1 ≤ i → i < 2000000000000 → j < n → Own h 1 id gen n (intsC d.toList) →
    ∃ h', l_slices_partitionEqualCmpFunc_int_0 fuel e m [(0, .slice (.mk ⟨id, gen, 0⟩ n c)), (1, .int .i64 (a : Int)), (4, .func f cps), (11, .int .i64 (i : Int)), (12, .int .i64 (j : Int))] h = some (.exit 0, [(11, .int .i64 ((partEqLoop (ltO ord) a i j d).1 : Nat))], h') ∧ Srt h h' id gen n (partEqLoop (ltO ord) a i j d).2 := by
  intro k
  induction k with
  | zero =>
    intro i j m d h h1 h2 h3 h4 h5 ho
    obtain ⟨m, rfl⟩ : ∃ m', m = m' + 1 := ⟨m - 1, by omega⟩
    have e1 := peq_up1 (c := c) (j := j) hc he hn ha h5 ho n i fuel (by omega) (by omega) h4
    have g1 := scanUp_ge (fun x => !ltO ord d[a]! x) d j i
    have g3 := (scanUp_spec (fun x => !ltO ord d[a]! x) d j _ i rfl)
    rw [partEqLoop_eq]
    generalize hi2 : scanUp (fun x => !ltO ord d[a]! x) d j i = i2 at *
    have e2 := peq_dn2 (c := c) (i := i2) hc he hn ha (by omega) ho j fuel (by omega) h5
    have g2 := scanDown_le (fun x => ltO ord d[a]! x) d i2 j
    generalize hj2 : scanDown (fun x => ltO ord d[a]! x) d i2 j = j2 at *
    rw [l_slices_partitionEqualCmpFunc_int_0_eq, e1]
    simp only [Option.bind_some, k_slices_partitionEqualCmpFunc_int_1_x2, e2, k_slices_partitionEqualCmpFunc_int_3_x4]
    rw [bif_pos (by omega), if_pos (by omega)]
    exact ⟨h, rfl, ho, Keeps.refl _ _⟩
  | succ k ih =>
    intro i j m d h h1 h2 h3 h4 h5 ho
    obtain ⟨m, rfl⟩ : ∃ m', m = m' + 1 := ⟨m - 1, by omega⟩
    have e1 := peq_up1 (c := c) (j := j) hc he hn ha h5 ho n i fuel (by omega) (by omega) h4
    have g1 := scanUp_ge (fun x => !ltO ord d[a]! x) d j i
    rw [partEqLoop_eq]
    generalize hi2 : scanUp (fun x => !ltO ord d[a]! x) d j i = i2 at *
    have e2 := peq_dn2 (c := c) (i := i2) hc he hn ha (by omega) ho j fuel (by omega) h5
    have g2 := scanDown_le (fun x => ltO ord d[a]! x) d i2 j
    generalize hj2 : scanDown (fun x => ltO ord d[a]! x) d i2 j = j2 at *
    rw [l_slices_partitionEqualCmpFunc_int_0_eq, e1]
    simp only [Option.bind_some, k_slices_partitionEqualCmpFunc_int_1_x2, e2, k_slices_partitionEqualCmpFunc_int_3_x4]
    by_cases hgt : j2 < i2
    · rw [bif_pos (by omega), if_pos (by omega)]
      exact ⟨h, rfl, ho, Keeps.refl _ _⟩
    · rw [bif_neg (by omega), if_neg (by omega)]
      obtain ⟨h3', o3, k3, e3⟩ := swpK (c := c) ho (i := i2) (j := j2) (by omega) (by omega)
      rw [e3, sucI (by omega), predI (by omega) (by omega)]
      obtain ⟨h', q1, q2, q3⟩ := ih (i2 + 1) (j2 - 1) m _ h3' (by omega) (by omega) (by omega) (by omega) (by omega) o3
      exact ⟨h', q1, q2, k3.trans q3⟩

theorem peq_run (hc : CmpOk fuel f cps ord D) {e : Nat} (he : D ≤ e) (hn : n < 1000000000000) (hf : n + 2 < fuel) {a b pv : Nat} (ha : a < b) (hb : b ≤ n) (hp : pv < n) (ho : Own h 1 id gen n (intsC d.toList)) :
    ∃ h', run fuel (e + 1) F_slices_partitionEqualCmpFunc_int [.slice (.mk ⟨id, gen, 0⟩ n c), .int .i64 (a : Int), .int .i64 (b : Int), .int .i64 (pv : Int), .func f cps] h = some (.int .i64 ((partitionEqual (ltO ord) d a b pv).1 : Nat), h') ∧ Srt h h' id gen n (partitionEqual (ltO ord) d a b pv).2 := by
  obtain ⟨h1, o1, k1, e1⟩ := swpK (c := c) ho (i := a) (j := pv) (by omega) (by omega)
  obtain ⟨h2, e2, o2, k2⟩ := peq_loop (c := c) (a := a) hc he hn hf (by omega) n (a + 1) (b - 1) fuel _ h1 (by omega) (by omega) (by omega) (by omega) (by omega) o1
  refine ⟨h2, ?_, o2, k1.trans k2⟩
  rw [e_slices_partitionEqualCmpFunc_int, e1, sucI (by omega), predI (by omega) (by omega), e2]
  simp only [Option.bind_some, k_slices_partitionEqualCmpFunc_int_0_x0]
  rfl

/-! partition -/
theorem part_loop (hc : CmpOk fuel f cps ord D) {e : Nat} (he : D ≤ e) (hn : n < 1000000000000) (hf : n + 2 < fuel) {a : Nat} (ha : a < n) : ∀ (k i j m : Nat) (d : Array Int) (h : AHeap), j + 1 - i ≤ k → k < m → 1 ≤ i → i < 2000000000000 → j < n → Own h 1 id gen n (intsC d.toList) →
    ∃ h', l_slices_partitionCmpFunc_int_2 fuel e m [(0, .slice (.mk ⟨id, gen, 0⟩ n c)), (1, .int .i64 (a : Int)), (4, .func f cps), (12, .int .i64 (i : Int)), (13, .int .i64 (j : Int))] h = some (.exit 4, [(0, .slice (.mk ⟨id, gen, 0⟩ n c)), (1, .int .i64 (a : Int)), (13, .int .i64 ((partLoop (ltO ord) a i j d).1 : Nat))], h') ∧ Srt h h' id gen n (partLoop (ltO ord) a i j d).2 := by
  intro k
  induction k with
  | zero =>
    intro i j m d h h1 h2 h3 h4 h5 ho
    obtain ⟨m, rfl⟩ : ∃ m', m = m' + 1 := ⟨m - 1, by omega⟩
    have e1 := part_up3 (c := c) (j := j) hc he hn ha h5 ho n i fuel (by omega) (by omega) h4
    have g1 := scanUp_ge (fun x => ltO ord x d[a]!) d j i
    rw [partLoop_eq]
    generalize hi2 : scanUp (fun x => ltO ord x d[a]!) d j i = i2 at *
    have e2 := part_dn4 (c := c) (i := i2) hc he hn ha (by omega) ho j fuel (by omega) h5
    have g2 := scanDown_le (fun x => !ltO ord x d[a]!) d i2 j
    generalize hj2 : scanDown (fun x => !ltO ord x d[a]!) d i2 j = j2 at *
    rw [l_slices_partitionCmpFunc_int_2_eq, e1]
    simp only [Option.bind_some, k_slices_partitionCmpFunc_int_5_x6, e2, k_slices_partitionCmpFunc_int_7_x8]
    rw [bif_pos (by omega), if_pos (by omega)]
    exact ⟨h, rfl, ho, Keeps.refl _ _⟩
  | succ k ih =>
    intro i j m d h h1 h2 h3 h4 h5 ho
    obtain ⟨m, rfl⟩ : ∃ m', m = m' + 1 := ⟨m - 1, by omega⟩
    have e1 := part_up3 (c := c) (j := j) hc he hn ha h5 ho n i fuel (by omega) (by omega) h4
    have g1 := scanUp_ge (fun x => ltO ord x d[a]!) d j i
    rw [partLoop_eq]
    generalize hi2 : scanUp (fun x => ltO ord x d[a]!) d j i = i2 at *
    have e2 := part_dn4 (c := c) (i := i2) hc he hn ha (by omega) ho j fuel (by omega) h5
    have g2 := scanDown_le (fun x => !ltO ord x d[a]!) d i2 j
    generalize hj2 : scanDown (fun x => !ltO ord x d[a]!) d i2 j = j2 at *
    rw [l_slices_partitionCmpFunc_int_2_eq, e1]
    simp only [Option.bind_some, k_slices_partitionCmpFunc_int_5_x6, e2, k_slices_partitionCmpFunc_int_7_x8]
    by_cases hgt : j2 < i2
    · rw [bif_pos (by omega), if_pos (by omega)]
      exact ⟨h, rfl, ho, Keeps.refl _ _⟩
    · rw [bif_neg (by omega), if_neg (by omega)]
      obtain ⟨h3', o3, k3, e3⟩ := swpK (c := c) ho (i := i2) (j := j2) (by omega) (by omega)
      rw [e3, sucI (by omega), predI (by omega) (by omega)]
      obtain ⟨h', q1, q2, q3⟩ := ih (i2 + 1) (j2 - 1) m _ h3' (by omega) (by omega) (by omega) (by omega) (by omega) o3
      exact ⟨h', q1, q2, k3.trans q3⟩

theorem partLoop_lt (lt : Int → Int → Bool) (a : Nat) : ∀ (k i j : Nat) (d : Array Int), j + 1 - i ≤ k → (partLoop lt a i j d).1 ≤ j := by
  intro k
  induction k with
  | zero =>
    intro i j d h
    have g1 := scanUp_ge (fun x => lt x d[a]!) d j i
    have g2 := scanDown_le (fun x => !lt x d[a]!) d (scanUp (fun x => lt x d[a]!) d j i) j
    rw [partLoop_eq, if_pos (by omega)]
    exact g2
  | succ k ih =>
    intro i j d h
    have g1 := scanUp_ge (fun x => lt x d[a]!) d j i
    have g2 := scanDown_le (fun x => !lt x d[a]!) d (scanUp (fun x => lt x d[a]!) d j i) j
    rw [partLoop_eq]
    split
    · exact g2
    · have := ih (scanUp (fun x => lt x d[a]!) d j i + 1) (scanDown (fun x => !lt x d[a]!) d (scanUp (fun x => lt x d[a]!) d j i) j - 1) (swp d (scanUp (fun x => lt x d[a]!) d j i) (scanDown (fun x => !lt x d[a]!) d (scanUp (fun x => lt x d[a]!) d j i) j)) (by omega)
      omega

theorem part_run (hc : CmpOk fuel f cps ord D) {e : Nat} (he : D ≤ e) (hn : n < 1000000000000) (hf : n + 2 < fuel) {a b pv : Nat} (ha : a < b) (hb : b ≤ n) (hp : pv < n) (ho : Own h 1 id gen n (intsC d.toList)) :
    ∃ h', run fuel (e + 1) F_slices_partitionCmpFunc_int [.slice (.mk ⟨id, gen, 0⟩ n c), .int .i64 (a : Int), .int .i64 (b : Int), .int .i64 (pv : Int), .func f cps] h = some (.tup [.int .i64 ((Sort.partition (ltO ord) d a b pv).1 : Nat), .bool (Sort.partition (ltO ord) d a b pv).2.1], h') ∧ Srt h h' id gen n (Sort.partition (ltO ord) d a b pv).2.2 := by
  obtain ⟨h1, o1, k1, e1⟩ := swpK (c := c) ho (i := a) (j := pv) (by omega) (by omega)
  have e2 := part_up0 (c := c) (a := a) (j := b - 1) hc he hn (by omega) (by omega) o1 n (a + 1) fuel (by omega) (by omega) (by omega)
  have g1 := scanUp_ge (fun x => ltO ord x (swp d a pv)[a]!) (swp d a pv) (b - 1) (a + 1)
  unfold Sort.partition
  simp only
  generalize hi2 : scanUp (fun x => ltO ord x (swp d a pv)[a]!) (swp d a pv) (b - 1) (a + 1) = i2 at *
  have e3 := part_dn1 (c := c) (a := a) (i := i2) hc he hn (by omega) (by omega) o1 (b - 1) fuel (by omega) (by omega)
  have g2 := scanDown_le (fun x => !ltO ord x (swp d a pv)[a]!) (swp d a pv) i2 (b - 1)
  generalize hj2 : scanDown (fun x => !ltO ord x (swp d a pv)[a]!) (swp d a pv) i2 (b - 1) = j2 at *
  rw [e_slices_partitionCmpFunc_int, e1, sucI (by omega), predI (by omega) (by omega), e2]
  simp only [Option.bind_some, k_slices_partitionCmpFunc_int_0_x0, e3, k_slices_partitionCmpFunc_int_2_x2]
  by_cases hgt : j2 < i2
  · rw [bif_pos (by omega), if_pos (by omega)]
    obtain ⟨h3, o3, k3, e4⟩ := swpK (c := c) o1 (i := j2) (j := a) (by omega) (by omega)
    rw [e4]
    exact ⟨h3, rfl, o3, k1.trans k3⟩
  · rw [bif_neg (by omega), if_neg (by omega)]
    obtain ⟨h3, o3, k3, e4⟩ := swpK (c := c) o1 (i := i2) (j := j2) (by omega) (by omega)
    rw [e4, sucI (by omega), predI (by omega) (by omega)]
    obtain ⟨h4, e5, o4, k4⟩ := part_loop (c := c) (a := a) hc he hn hf (by omega) n (i2 + 1) (j2 - 1) fuel _ h3 (by omega) (by omega) (by omega) (by omega) (by omega) o3
    have g3 := partLoop_lt (ltO ord) a n (i2 + 1) (j2 - 1) (swp (swp d a pv) i2 j2) (by omega)
    rw [e5]
    simp only [Option.bind_some, k_slices_partitionCmpFunc_int_4_x4]
    obtain ⟨h5, o5, k5, e6⟩ := swpK (c := c) o4 (i := (partLoop (ltO ord) a (i2 + 1) (j2 - 1) (swp (swp d a pv) i2 j2)).1) (j := a) (by omega) (by omega)
    rw [e6]
    exact ⟨h5, rfl, o5, k1.trans (k3.trans (k4.trans k5))⟩
end
end Go.Proofs.YtnkbhbkfbigbiaaDoor
