/-
  slices.SortFunc at []int, third part: reversing, the partial insertion sort, the pivot, the patterns.
-/
import Derived.Test.YtnkbhbkfbigbiaaDoorSrt2
namespace Go.Proofs.YtnkbhbkfbigbiaaDoor
open Go.RowKit Go.Sort
section
variable {fuel f : Nat} {cps : List Pt} {ord : Int → Int → Int} {D : Nat} {h : AHeap} {id gen n : Nat} {c : Bool} {d : Array Int}

/-! reverseRange -/
theorem rev_loop (e : Nat) (hn : n < 1000000000000) : ∀ (k i j m : Nat) (d : Array Int) (h : AHeap), j - i ≤ k → k < m → i < 2000000000000 → j < n → Own h 1 id gen n (intsC d.toList) →
    ∃ h', l_slices_reverseRangeCmpFunc_int_0 fuel e m [(0, .slice (.mk ⟨id, gen, 0⟩ n c)), (8, .int .i64 (i : Int)), (9, .int .i64 (j : Int))] h = some (.exit 0, [], h') ∧ Srt h h' id gen n (reverseLoop i j d) := by
  intro k
  induction k with
  | zero =>
    intro i j m d h h1 h2 h3 h4 ho
    obtain ⟨m, rfl⟩ : ∃ m', m = m' + 1 := ⟨m - 1, by omega⟩
    rw [l_slices_reverseRangeCmpFunc_int_0_eq, bif_neg (by omega), reverseLoop, if_neg (by omega)]
    exact ⟨h, rfl, ho, Keeps.refl _ _⟩
  | succ k ih =>
    intro i j m d h h1 h2 h3 h4 ho
    obtain ⟨m, rfl⟩ : ∃ m', m = m' + 1 := ⟨m - 1, by omega⟩
    rw [l_slices_reverseRangeCmpFunc_int_0_eq, reverseLoop]
    by_cases hij : i < j
    · obtain ⟨h2', o2, k2, e2⟩ := swpK (c := c) ho (i := i) (j := j) (by omega) (by omega)
      rw [bif_pos (by omega), if_pos hij, e2, sucI (by omega), predI (by omega) (by omega)]
      obtain ⟨h', q1, q2, q3⟩ := ih (i + 1) (j - 1) m _ h2' (by omega) (by omega) (by omega) (by omega) o2
      exact ⟨h', q1, q2, k2.trans q3⟩
    · rw [bif_neg (by omega), if_neg hij]
      exact ⟨h, rfl, ho, Keeps.refl _ _⟩
theorem rev_run (e : Nat) (hn : n < 1000000000000) (hf : n < fuel) {a b : Nat} (ha : a < b) (hb : b ≤ n) (ho : Own h 1 id gen n (intsC d.toList)) :
    ∃ h', run fuel (e + 1) F_slices_reverseRangeCmpFunc_int [.slice (.mk ⟨id, gen, 0⟩ n c), .int .i64 (a : Int), .int .i64 (b : Int), .func f cps] h = some (.tup [], h') ∧ Srt h h' id gen n (reverseRange d a b) := by
  obtain ⟨h1, e1, q⟩ := rev_loop (c := c) (fuel := fuel) e hn n a (b - 1) fuel d h (by omega) (by omega) (by omega) (by omega) ho
  refine ⟨h1, ?_, q⟩
  rw [e_slices_reverseRangeCmpFunc_int, predI (by omega) (by omega), e1]
  simp only [Option.bind_some, k_slices_reverseRangeCmpFunc_int_0_x0]

/-! the partial insertion sort -/
theorem pis_scan (hc : CmpOk fuel f cps ord D) {e : Nat} (he : D ≤ e) (hn : n < 1000000000000) {a b : Nat} (hb : b ≤ n) (x10 : Int) (ho : Own h 1 id gen n (intsC d.toList)) : ∀ (k i m : Nat), b - i ≤ k → k < m → 1 ≤ i → i ≤ n →
    l_slices_partialInsertionSortCmpFunc_int_1 fuel e m [(0, .slice (.mk ⟨id, gen, 0⟩ n c)), (1, .int .i64 (a : Int)), (2, .int .i64 (b : Int)), (3, .func f cps), (9, .int .i64 (i : Int)), (10, .int .i64 x10)] h = some (.exit 2, [(0, .slice (.mk ⟨id, gen, 0⟩ n c)), (1, .int .i64 (a : Int)), (2, .int .i64 (b : Int)), (3, .func f cps), (9, .int .i64 ((scanSorted (ltO ord) d b i : Nat) : Int)), (10, .int .i64 x10)], h) := by
  intro k
  induction k with
  | zero =>
    intro i m h1 h2 h3 h4
    obtain ⟨m, rfl⟩ : ∃ m', m = m' + 1 := ⟨m - 1, by omega⟩
    rw [l_slices_partialInsertionSortCmpFunc_int_1_eq, bif_neg (by omega)]
    simp only [Option.bind_some, k_slices_partialInsertionSortCmpFunc_int_2_n, cond_false]
    rw [scanSorted, decide_eq_false (show ¬ i < b by omega)]
    rfl
  | succ k ih =>
    intro i m h1 h2 h3 h4
    obtain ⟨m, rfl⟩ : ∃ m', m = m' + 1 := ⟨m - 1, by omega⟩
    rw [l_slices_partialInsertionSortCmpFunc_int_1_eq, scanSorted]
    by_cases hij : i < b
    · rw [bif_pos (by omega), rdK ho (by omega), predI (by omega) (by omega), rdK ho (by omega), hc _ he]
      simp only [Option.bind_some, int_int, dlt (ord := ord), k_slices_partialInsertionSortCmpFunc_int_2_n, decide_eq_true hij, Bool.true_and]
      cases hlt : !ltO ord d[i]! d[i - 1]! with
      | true =>
        simp only [cond_true, if_true]
        rw [sucI (by omega)]
        exact ih (i + 1) m (by omega) (by omega) (by omega) (by omega)
      | false => simp only [cond_false, Bool.false_eq_true, if_false]
    · rw [bif_neg (by omega)]
      simp only [Option.bind_some, k_slices_partialInsertionSortCmpFunc_int_2_n, cond_false, decide_eq_false hij, Bool.false_and, Bool.false_eq_true, if_false]

theorem pis_down (hc : CmpOk fuel f cps ord D) {e : Nat} (he : D ≤ e) (hn : n < 1000000000000) {a b i : Nat} (x10 : Int) : ∀ (j m : Nat) (d : Array Int) (h : AHeap), j < m → j < n → Own h 1 id gen n (intsC d.toList) →
    ∃ h', l_slices_partialInsertionSortCmpFunc_int_2 fuel e m [(0, .slice (.mk ⟨id, gen, 0⟩ n c)), (1, .int .i64 (a : Int)), (2, .int .i64 (b : Int)), (3, .func f cps), (9, .int .i64 (i : Int)), (10, .int .i64 x10), (11, .int .i64 (j : Int))] h = some (.exit 4, [(0, .slice (.mk ⟨id, gen, 0⟩ n c)), (1, .int .i64 (a : Int)), (2, .int .i64 (b : Int)), (3, .func f cps), (9, .int .i64 (i : Int)), (10, .int .i64 x10)], h') ∧ Srt h h' id gen n (shiftDown (ltO ord) j d) := by
  intro j
  induction j with
  | zero =>
    intro m d h h1 h2 ho
    obtain ⟨m, rfl⟩ : ∃ m', m = m' + 1 := ⟨m - 1, by omega⟩
    rw [l_slices_partialInsertionSortCmpFunc_int_2_eq, bif_neg (by omega)]
    exact ⟨h, rfl, ho, Keeps.refl _ _⟩
  | succ j ih =>
    intro m d h h1 h2 ho
    obtain ⟨m, rfl⟩ : ∃ m', m = m' + 1 := ⟨m - 1, by omega⟩
    rw [l_slices_partialInsertionSortCmpFunc_int_2_eq, bif_pos (by omega), predI (by omega) (by omega), Nat.add_sub_cancel, rdK ho h2, rdK ho (by omega), hc _ he, shiftDown]
    simp only [Option.bind_some, int_int, dlt (ord := ord)]
    cases hlt : ltO ord d[j + 1]! d[j]! with
    | true =>
      obtain ⟨h2', o2, k2, e2⟩ := swpK (c := c) ho (i := j + 1) (j := j) (by omega) (by omega)
      simp only [Bool.not_true, cond_false, Bool.false_eq_true, if_false]
      rw [e2]
      obtain ⟨h', q1, q2, q3⟩ := ih m _ h2' (by omega) (by omega) o2
      exact ⟨h', q1, q2, k2.trans q3⟩
    | false =>
      simp only [Bool.not_false, cond_true, if_true]
      exact ⟨h, rfl, ho, Keeps.refl _ _⟩

theorem pis_up (hc : CmpOk fuel f cps ord D) {e : Nat} (he : D ≤ e) (hn : n < 1000000000000) {a b i : Nat} (hb : b ≤ n) (x10 : Int) : ∀ (k j m : Nat) (d : Array Int) (h : AHeap), b - j ≤ k → k < m → 1 ≤ j → j < 2000000000000 → Own h 1 id gen n (intsC d.toList) →
    ∃ h', l_slices_partialInsertionSortCmpFunc_int_3 fuel e m [(0, .slice (.mk ⟨id, gen, 0⟩ n c)), (1, .int .i64 (a : Int)), (2, .int .i64 (b : Int)), (3, .func f cps), (9, .int .i64 (i : Int)), (10, .int .i64 x10), (12, .int .i64 (j : Int))] h = some (.exit 6, [(0, .slice (.mk ⟨id, gen, 0⟩ n c)), (1, .int .i64 (a : Int)), (2, .int .i64 (b : Int)), (3, .func f cps), (9, .int .i64 (i : Int)), (10, .int .i64 x10)], h') ∧ Srt h h' id gen n (shiftUp (ltO ord) b j d) := by
  intro k
  induction k with
  | zero =>
    intro j m d h h1 h2 h3 h4 ho
    obtain ⟨m, rfl⟩ : ∃ m', m = m' + 1 := ⟨m - 1, by omega⟩
    rw [l_slices_partialInsertionSortCmpFunc_int_3_eq, bif_neg (by omega), shiftUp, if_neg (by omega)]
    exact ⟨h, rfl, ho, Keeps.refl _ _⟩
  | succ k ih =>
    intro j m d h h1 h2 h3 h4 ho
    obtain ⟨m, rfl⟩ : ∃ m', m = m' + 1 := ⟨m - 1, by omega⟩
    rw [l_slices_partialInsertionSortCmpFunc_int_3_eq, shiftUp]
    by_cases hjb : j < b
    · rw [bif_pos (by omega), if_pos hjb, predI (by omega) (by omega), rdK ho (by omega), rdK ho (by omega), hc _ he]
      simp only [Option.bind_some, int_int, dlt (ord := ord)]
      cases hlt : ltO ord d[j]! d[j - 1]! with
      | true =>
        obtain ⟨h2', o2, k2, e2⟩ := swpK (c := c) ho (i := j) (j := j - 1) (by omega) (by omega)
        simp only [Bool.not_true, cond_false, Bool.false_eq_true, if_false]
        rw [e2, sucI (by omega)]
        obtain ⟨h', q1, q2, q3⟩ := ih (j + 1) m _ h2' (by omega) (by omega) (by omega) (by omega) o2
        exact ⟨h', q1, q2, k2.trans q3⟩
      | false =>
        simp only [Bool.not_false, cond_true, if_true]
        exact ⟨h, rfl, ho, Keeps.refl _ _⟩
    · rw [bif_neg (by omega), if_neg hjb]
      exact ⟨h, rfl, ho, Keeps.refl _ _⟩

theorem scanSorted_le (lt : Int → Int → Bool) (d : Array Int) {b : Nat} : ∀ (k i : Nat), b - i ≤ k → i ≤ b → i ≤ scanSorted lt d b i ∧ scanSorted lt d b i ≤ b := by
  intro k
  induction k with
  | zero =>
    intro i h1 h2
    rw [scanSorted, decide_eq_false (show ¬ i < b by omega)]
    simp
    omega
  | succ k ih =>
    intro i h1 h2
    rw [scanSorted]
    split
    · rename_i h
      simp only [Bool.and_eq_true, decide_eq_true_eq] at h
      have := ih (i + 1) (by omega) (by omega)
      omega
    · omega

theorem pis_loop (hc : CmpOk fuel f cps ord D) {e : Nat} (he : D ≤ e) (hn : n < 1000000000000) (hf : n + 5 < fuel) {a b : Nat} (hab : a < b) (hb : b ≤ n) : ∀ (s i m : Nat) (x10 : Int) (d : Array Int) (h : AHeap), x10 = 5 - (s : Int) → s ≤ 5 → s < m → a + 1 ≤ i → i ≤ b → Own h 1 id gen n (intsC d.toList) →
    ∃ h', ((l_slices_partialInsertionSortCmpFunc_int_0 fuel e m [(0, .slice (.mk ⟨id, gen, 0⟩ n c)), (1, .int .i64 (a : Int)), (2, .int .i64 (b : Int)), (3, .func f cps), (9, .int .i64 (i : Int)), (10, .int .i64 x10)] h).bind fun p => k_slices_partialInsertionSortCmpFunc_int_0 fuel e p.1 p.2.1 p.2.2) = some (.bool (partialIns (ltO ord) a b s i d).2, h') ∧ Srt h h' id gen n (partialIns (ltO ord) a b s i d).1 := by
  intro s
  induction s with
  | zero =>
    intro i m x10 d h hx h1 h2 h3 h4 ho
    obtain ⟨m, rfl⟩ : ∃ m', m = m' + 1 := ⟨m - 1, by omega⟩
    rw [l_slices_partialInsertionSortCmpFunc_int_0_eq, bif_neg (by omega)]
    simp only [Option.bind_some, k_slices_partialInsertionSortCmpFunc_int_0_x0, partialIns]
    exact ⟨h, rfl, ho, Keeps.refl _ _⟩
  | succ s ih =>
    intro i m x10 d h hx h1 h2 h3 h4 ho
    obtain ⟨m, rfl⟩ : ∃ m', m = m' + 1 := ⟨m - 1, by omega⟩
    have e1 := pis_scan (c := c) (a := a) hc he hn hb x10 ho n i fuel (by omega) (by omega) (by omega) (by omega)
    have g1 := scanSorted_le (ltO ord) d n i (by omega) h4
    rw [l_slices_partialInsertionSortCmpFunc_int_0_eq, bif_pos (by omega), partialIns_succ]
    generalize scanSorted (ltO ord) d b i = i2 at *
    rw [e1]
    simp only [Option.bind_some, k_slices_partialInsertionSortCmpFunc_int_1_x2]
    by_cases hi2 : i2 = b
    · subst hi2
      rw [bif_pos rfl, if_pos rfl]
      simp only [Option.bind_some, k_slices_partialInsertionSortCmpFunc_int_0_r]
      exact ⟨h, rfl, ho, Keeps.refl _ _⟩
    · rw [bif_neg (by omega), if_neg hi2, subI (by omega) (by omega)]
      by_cases h50 : b - a < 50
      · rw [bif_pos (by omega), if_pos h50]
        simp only [Option.bind_some, k_slices_partialInsertionSortCmpFunc_int_0_r]
        exact ⟨h, rfl, ho, Keeps.refl _ _⟩
      · rw [bif_neg (by omega), if_neg h50, predI (by omega) (by omega)]
        obtain ⟨h2', o2, k2, e2⟩ := swpK (c := c) ho (i := i2) (j := i2 - 1) (by omega) (by omega)
        rw [e2, subI (by omega) (by omega)]
        -- behind the first shift
        have tail : ∀ (d2 : Array Int) (h3 : AHeap), Own h3 1 id gen n (intsC d2.toList) → ∃ h', ((k_slices_partialInsertionSortCmpFunc_int_4 fuel e m .normal [(0, .slice (.mk ⟨id, gen, 0⟩ n c)), (1, .int .i64 (a : Int)), (2, .int .i64 (b : Int)), (3, .func f cps), (9, .int .i64 (i2 : Int)), (10, .int .i64 x10)] h3).bind fun p => k_slices_partialInsertionSortCmpFunc_int_0 fuel e p.1 p.2.1 p.2.2) = some (.bool (partialIns (ltO ord) a b s i2 (fixUp (ltO ord) b i2 d2)).2, h') ∧ Srt h3 h' id gen n (partialIns (ltO ord) a b s i2 (fixUp (ltO ord) b i2 d2)).1 := by
          intro d2 h3 o3
          rw [k_slices_partialInsertionSortCmpFunc_int_4_n, subI (by omega) (by omega)]
          unfold fixUp
          have ex : IntKind.wrap .i64 (x10 + 1) = 5 - (s : Int) := by rw [wrap64 (by omega) (by omega)]; omega
          by_cases hg : b - i2 ≥ 2
          · rw [bif_pos (by omega), if_pos hg, sucI (by omega)]
            obtain ⟨h4, e4, o4, k4⟩ := pis_up (c := c) (a := a) (i := i2) hc he hn hb x10 n (i2 + 1) fuel d2 h3 (by omega) (by omega) (by omega) (by omega) o3
            rw [e4]
            simp only [Option.bind_some, k_slices_partialInsertionSortCmpFunc_int_5_x6]
            obtain ⟨h', q1, q2, q3⟩ := ih i2 m (IntKind.wrap .i64 (x10 + 1)) _ h4 ex (by omega) (by omega) (by omega) (by omega) o4
            exact ⟨h', q1, q2, k4.trans q3⟩
          · rw [bif_neg (by omega), if_neg hg]
            exact ih i2 m (IntKind.wrap .i64 (x10 + 1)) _ h3 ex (by omega) (by omega) (by omega) (by omega) o3
        by_cases hg : i2 - a ≥ 2
        · rw [bif_pos (by omega), fixDown, if_pos hg]
          obtain ⟨h3, e3, o3, k3⟩ := pis_down (c := c) (a := a) (b := b) (i := i2) hc he hn x10 (i2 - 1) fuel _ h2' (by omega) (by omega) o2
          rw [e3]
          simp only [Option.bind_some, k_slices_partialInsertionSortCmpFunc_int_3_x4]
          obtain ⟨h', q1, q2, q3⟩ := tail _ h3 o3
          exact ⟨h', q1, q2, k2.trans (k3.trans q3)⟩
        · rw [bif_neg (by omega), fixDown, if_neg hg]
          simp only [Option.bind_some]
          obtain ⟨h', q1, q2, q3⟩ := tail _ h2' o2
          exact ⟨h', q1, q2, k2.trans q3⟩

theorem pis_run (hc : CmpOk fuel f cps ord D) {e : Nat} (he : D ≤ e) (hn : n < 1000000000000) (hf : n + 5 < fuel) {a b : Nat} (ha : a < b) (hb : b ≤ n) (ho : Own h 1 id gen n (intsC d.toList)) :
    ∃ h', run fuel (e + 1) F_slices_partialInsertionSortCmpFunc_int [.slice (.mk ⟨id, gen, 0⟩ n c), .int .i64 (a : Int), .int .i64 (b : Int), .func f cps] h = some (.bool (partialInsertionSort (ltO ord) d a b).2, h') ∧ Srt h h' id gen n (partialInsertionSort (ltO ord) d a b).1 := by
  rw [e_slices_partialInsertionSortCmpFunc_int, sucI (by omega)]
  exact pis_loop (c := c) hc he hn hf ha hb 5 (a + 1) fuel 0 d h (by omega) (by omega) (by omega) (by omega) (by omega) ho

/-! the pivot -/
theorem order2_run (hc : CmpOk fuel f cps ord D) {e : Nat} (he : D ≤ e) {a b : Nat} (ha : a < n) (hb : b < n) (ho : Own h 1 id gen n (intsC d.toList)) {sid : Nat} (hne : id ≠ sid) {s : Int} (hs : Own h 1 sid 0 1 [.int .i64 s]) :
    ∃ (h' : AHeap) (x y : Nat) (s' : Int), run fuel (e + 1) F_slices_order2CmpFunc_int [.slice (.mk ⟨id, gen, 0⟩ n c), .int .i64 (a : Int), .int .i64 (b : Int), .ptr (.mk ⟨sid, 0, 0⟩ 1), .func f cps] h = some (.tup [.int .i64 (x : Int), .int .i64 (y : Int)], h') ∧
      ((x = a ∧ y = b) ∨ (x = b ∧ y = a)) ∧ Own h' 1 id gen n (intsC d.toList) ∧ Own h' 1 sid 0 1 [.int .i64 s'] ∧ Keeps h h' (· = sid) := by
  rw [e_slices_order2CmpFunc_int, rdK ho hb, rdK ho ha, hc _ he]
  simp only [Option.bind_some, int_int, dlt (ord := ord)]
  cases hlt : ltO ord d[b]! d[a]! with
  | true =>
    obtain ⟨h1, e1, o1, k1, _⟩ := hs.put (o := 0) (l := 1) (vs := [.int .i64 (IntKind.wrap .i64 (s + 1))]) (by simp) (by simp)
    simp only [cond_true, chk_mk, Option.bind_some, hs.part (o := 0) (l := 1) (by omega) rfl, int_int, e1]
    exact ⟨h1, b, a, _, rfl, .inr ⟨rfl, rfl⟩, ho.keep k1 hne, o1, k1⟩
  | false =>
    simp only [cond_false]
    exact ⟨h, a, b, s, rfl, .inl ⟨rfl, rfl⟩, ho, hs, Keeps.refl _ _⟩

theorem median_run (hc : CmpOk fuel f cps ord D) {e : Nat} (he : D ≤ e) {a b x : Nat} (ha : a < n) (hb : b < n) (hx : x < n) (ho : Own h 1 id gen n (intsC d.toList)) {sid : Nat} (hne : id ≠ sid) {s : Int} (hs : Own h 1 sid 0 1 [.int .i64 s]) :
    ∃ (h' : AHeap) (y : Nat) (s' : Int), run fuel (e + 2) F_slices_medianCmpFunc_int [.slice (.mk ⟨id, gen, 0⟩ n c), .int .i64 (a : Int), .int .i64 (b : Int), .int .i64 (x : Int), .ptr (.mk ⟨sid, 0, 0⟩ 1), .func f cps] h = some (.int .i64 (y : Int), h') ∧
      (y = a ∨ y = b ∨ y = x) ∧ Own h' 1 id gen n (intsC d.toList) ∧ Own h' 1 sid 0 1 [.int .i64 s'] ∧ Keeps h h' (· = sid) := by
  obtain ⟨h1, x1, y1, s1, e1, c1, o1, q1, k1⟩ := order2_run (c := c) hc he ha hb ho hne hs
  obtain ⟨h2, x2, y2, s2, e2, c2, o2, q2, k2⟩ := order2_run (c := c) hc he (a := y1) (b := x) (by omega) hx o1 hne q1
  obtain ⟨h3, x3, y3, s3, e3, c3, o3, q3, k3⟩ := order2_run (c := c) hc he (a := x1) (b := x2) (by omega) (by omega) o2 hne q2
  refine ⟨h3, y3, s3, ?_, by omega, o3, q3, k1.trans (k2.trans k3)⟩
  rw [e_slices_medianCmpFunc_int, e1]
  simp only [Option.bind_some, isTup_tup, List.length_cons, List.length_nil, Nat.beq, cond_true, comp_tup, List.getElem?_cons_zero, List.getElem?_cons_succ, int_int, e2, e3]

theorem adj_run (hc : CmpOk fuel f cps ord D) {e : Nat} (he : D ≤ e) (hn : n < 1000000000000) {a : Nat} (ha : 1 ≤ a) (hb : a + 1 < n) (ho : Own h 1 id gen n (intsC d.toList)) {sid : Nat} (hne : id ≠ sid) {s : Int} (hs : Own h 1 sid 0 1 [.int .i64 s]) :
    ∃ (h' : AHeap) (y : Nat) (s' : Int), run fuel (e + 3) F_slices_medianAdjacentCmpFunc_int [.slice (.mk ⟨id, gen, 0⟩ n c), .int .i64 (a : Int), .ptr (.mk ⟨sid, 0, 0⟩ 1), .func f cps] h = some (.int .i64 (y : Int), h') ∧
      (y = a - 1 ∨ y = a ∨ y = a + 1) ∧ Own h' 1 id gen n (intsC d.toList) ∧ Own h' 1 sid 0 1 [.int .i64 s'] ∧ Keeps h h' (· = sid) := by
  obtain ⟨h1, y, s1, e1, c1, o1, q1, k1⟩ := median_run (c := c) hc he (a := a - 1) (b := a) (x := a + 1) (by omega) (by omega) hb ho hne hs
  refine ⟨h1, y, s1, ?_, c1, o1, q1, k1⟩
  rw [e_slices_medianAdjacentCmpFunc_int, predI (by omega) (by omega), sucI (by omega), e1]
  simp only [Option.bind_some, int_int]

theorem divI {a : Nat} (k : Nat) (h : a < 9000000000000000000) (hk : 1 ≤ k) : IntKind.wrap .i64 (Int.tdiv (a : Int) (k : Int)) = ((a / k : Nat) : Int) := by
  rw [Int.tdiv_eq_ediv_of_nonneg (by omega), ← Int.natCast_ediv, wrapN]
  exact Nat.lt_of_le_of_lt (Nat.div_le_self _ _) h
theorem mulI {a b : Nat} (h : a * b < 9000000000000000000) : IntKind.wrap .i64 ((a : Int) * (b : Int)) = ((a * b : Nat) : Int) := by rw [← Int.natCast_mul, wrapN h]

theorem choose_run (hc : CmpOk fuel f cps ord D) {e : Nat} (he : D ≤ e) (hn : n < 1000000000000) {a b : Nat} (ha : a < b) (hb : b ≤ n) (ho : Own h 1 id gen n (intsC d.toList)) :
    ∃ (h' : AHeap) (y : Nat) (z : Int), run fuel (e + 4) F_slices_choosePivotCmpFunc_int [.slice (.mk ⟨id, gen, 0⟩ n c), .int .i64 (a : Int), .int .i64 (b : Int), .func f cps] h = some (.tup [.int .i64 (y : Int), .int .i64 z], h') ∧ a ≤ y ∧ y < b ∧ Srt h h' id gen n d := by
  have hlt := ho.lt
  have o0 : Own (h.push 1 [.int .i64 (0 : Int)]) 1 id gen n (intsC d.toList) := ho.keep (Keeps.push h 1 _ fun _ => False) (fun h => h)
  have s0 : Own (h.push 1 [.int .i64 (0 : Int)]) 1 h.next 0 1 [.int .i64 (0 : Int)] := Own.of_push 1 1 _ rfl
  have hne : id ≠ h.next := by rw [next_len]; omega
  have k0 : Keeps h (h.push 1 [.int .i64 (0 : Int)]) (· = id) := Keeps.push h 1 _ _
  have knew : ∀ {h' : AHeap}, Keeps (h.push 1 [.int .i64 (0 : Int)]) h' (· = h.next) → Keeps h h' (· = id) := fun k => (keeps_new (Keeps.push h 1 _ _) k (by intro i hi; rw [hi, next_len]; exact Nat.le_refl _)).mono (fun _ _ h => h.elim)
  have m1 : IntKind.wrap .i64 ((a : Int) + IntKind.wrap .i64 (IntKind.wrap .i64 (Int.tdiv ((b - a : Nat) : Int) 4) * 1)) = ((a + (b - a) / 4 * 1 : Nat) : Int) := by
    rw [show (4 : Int) = ((4 : Nat) : Int) from rfl, divI 4 (by omega) (by omega), show (1 : Int) = ((1 : Nat) : Int) from rfl, mulI (by omega), addI (by omega)]
  have m2 : IntKind.wrap .i64 ((a : Int) + IntKind.wrap .i64 (IntKind.wrap .i64 (Int.tdiv ((b - a : Nat) : Int) 4) * 2)) = ((a + (b - a) / 4 * 2 : Nat) : Int) := by
    rw [show (4 : Int) = ((4 : Nat) : Int) from rfl, divI 4 (by omega) (by omega), show (2 : Int) = ((2 : Nat) : Int) from rfl, mulI (by omega), addI (by omega)]
  have m3 : IntKind.wrap .i64 ((a : Int) + IntKind.wrap .i64 (IntKind.wrap .i64 (Int.tdiv ((b - a : Nat) : Int) 4) * 3)) = ((a + (b - a) / 4 * 3 : Nat) : Int) := by
    rw [show (4 : Int) = ((4 : Nat) : Int) from rfl, divI 4 (by omega) (by omega), show (3 : Int) = ((3 : Nat) : Int) from rfl, mulI (by omega), addI (by omega)]
  -- what the end makes of it
  have fin : ∀ (h' : AHeap) (y : Nat) (s : Int), a ≤ y → y < b → Own h' 1 id gen n (intsC d.toList) → Own h' 1 h.next 0 1 [.int .i64 s] → Keeps (h.push 1 [.int .i64 (0 : Int)]) h' (· = h.next) →
      ∃ (h'' : AHeap) (y2 : Nat) (z : Int), k_slices_choosePivotCmpFunc_int_1 fuel (e + 3) .normal [(11, .ptr (.mk ⟨h.next, 0, 0⟩ 1)), (13, .int .i64 (y : Int))] h' = some (.tup [.int .i64 (y2 : Int), .int .i64 z], h'') ∧ a ≤ y2 ∧ y2 < b ∧ Srt h h'' id gen n d := by
    intro h' y s h1 h2 o q k
    rw [k_slices_choosePivotCmpFunc_int_1_n, q.part (o := 0) (l := 1) (by omega) rfl]
    simp only [Option.bind_some, int_int]
    by_cases z0 : s = 0
    · rw [bif_pos z0]; exact ⟨h', y, _, rfl, h1, h2, o, knew k⟩
    · rw [bif_neg z0]
      by_cases z1 : s = 12
      · rw [bif_pos z1]; exact ⟨h', y, _, rfl, h1, h2, o, knew k⟩
      · rw [bif_neg z1]; exact ⟨h', y, _, rfl, h1, h2, o, knew k⟩
  rw [e_slices_choosePivotCmpFunc_int, subI (by omega) (by omega), m1, m2, m3]
  clear m1 m2 m3
  by_cases h8 : 8 ≤ b - a
  · rw [bif_pos (by omega)]
    have mid : ∀ (h' : AHeap) (i j k : Nat) (s : Int), a ≤ i → i < b → a ≤ j → j < b → a ≤ k → k < b → Own h' 1 id gen n (intsC d.toList) → Own h' 1 h.next 0 1 [.int .i64 s] → Keeps (h.push 1 [.int .i64 (0 : Int)]) h' (· = h.next) →
        ∃ (h'' : AHeap) (y : Nat) (z : Int), ((k_slices_choosePivotCmpFunc_int_0 fuel (e + 3) .normal [(0, .slice (.mk ⟨id, gen, 0⟩ n c)), (3, .func f cps), (11, .ptr (.mk ⟨h.next, 0, 0⟩ 1)), (12, .int .i64 (i : Int)), (13, .int .i64 (j : Int)), (14, .int .i64 (k : Int))] h').bind fun p8 =>
          k_slices_choosePivotCmpFunc_int_1 fuel (e + 3) p8.1 p8.2.1 p8.2.2) = some (.tup [.int .i64 (y : Int), .int .i64 z], h'') ∧ a ≤ y ∧ y < b ∧ Srt h h'' id gen n d := by
      intro h' i j k s i1 i2 j1 j2 k1 k2 o q kk
      obtain ⟨h1, y, s1, e1, c1, o1, q1, kk1⟩ := median_run (c := c) (e := e + 1) hc (by omega) (a := i) (b := j) (x := k) (by omega) (by omega) (by omega) o hne q
      rw [k_slices_choosePivotCmpFunc_int_0_n, e1]
      simp only [Option.bind_some, int_int]
      exact fin h1 y s1 (by omega) (by omega) o1 q1 (kk.trans kk1)
    by_cases h50 : 50 ≤ b - a
    · rw [bif_pos (by omega)]
      obtain ⟨h1, y1, s1, e1, c1, o1, q1, k1⟩ := adj_run (c := c) hc he hn (a := a + (b - a) / 4 * 1) (by omega) (by omega) o0 hne s0
      obtain ⟨h2, y2, s2, e2, c2, o2, q2, k2⟩ := adj_run (c := c) hc he hn (a := a + (b - a) / 4 * 2) (by omega) (by omega) o1 hne q1
      obtain ⟨h3, y3, s3, e3, c3, o3, q3, k3⟩ := adj_run (c := c) hc he hn (a := a + (b - a) / 4 * 3) (by omega) (by omega) o2 hne q2
      rw [e1]
      simp only [Option.bind_some, int_int, e2, e3]
      exact mid h3 y1 y2 y3 s3 (by omega) (by omega) (by omega) (by omega) (by omega) (by omega) o3 q3 (k1.trans (k2.trans k3))
    · rw [bif_neg (by omega)]
      simp only [Option.bind_some]
      exact mid _ _ _ _ 0 (by omega) (by omega) (by omega) (by omega) (by omega) (by omega) o0 s0 (Keeps.refl _ _)
  · rw [bif_neg (by omega)]
    simp only [Option.bind_some]
    exact fin _ _ 0 (by omega) (by omega) o0 s0 (Keeps.refl _ _)
end
end Go.Proofs.YtnkbhbkfbigbiaaDoor
