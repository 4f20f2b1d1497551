/-
  slices.SortFunc at []int, first part: reading, exchanging, comparing; insertion sort; heap sort.
-/
import Derived.Test.YtnkbhbkfbigbiaaDoorE
import Derived.Sort.AssemblyPlain
namespace Go.Proofs.YtnkbhbkfbigbiaaDoor
open Go.RowKit Go.Sort

theorem addI {a b : Nat} (h : a + b < 9000000000000000000) : IntKind.wrap .i64 ((a : Int) + (b : Int)) = ((a + b : Nat) : Int) := by rw [wrap64 (by omega) (by omega)]; omega
theorem addLit {a : Nat} (k : Nat) (h : a + k < 9000000000000000000) {z : Int} (hz : z = (k : Int)) : IntKind.wrap .i64 ((a : Int) + z) = ((a + k : Nat) : Int) := by subst hz; exact addI h
theorem subI {a b : Nat} (h : b ≤ a) (h2 : a < 9000000000000000000) : IntKind.wrap .i64 ((a : Int) - (b : Int)) = ((a - b : Nat) : Int) := by rw [wrap64 (by omega) (by omega)]; omega
theorem predI {a : Nat} (h : 1 ≤ a) (h2 : a < 9000000000000000000) : IntKind.wrap .i64 ((a : Int) - 1) = ((a - 1 : Nat) : Int) := by rw [wrap64 (by omega) (by omega)]; omega
theorem sucI {n : Nat} (h : n < 9000000000000000000) : IntKind.wrap .i64 ((n : Int) + 1) = ((n + 1 : Nat) : Int) := by rw [wrap64 (by omega) (by omega)]; omega
theorem wrapN {n : Nat} (h : n < 9000000000000000000) : IntKind.wrap .i64 (n : Int) = (n : Int) := wrap64 (by omega) (by omega)
theorem decN {a b : Nat} {p : Prop} [Decidable p] (h : p ↔ a < b) : decide p = decide (a < b) := decide_eq_decide.2 h

def ltO (ord : Int → Int → Int) (x y : Int) : Bool := decide (ord x y < 0)
/-- A function that compares. -/
def CmpOk (fuel f : Nat) (cps : List Pt) (ord : Int → Int → Int) (D : Nat) : Prop :=
  ∀ e, D ≤ e → ∀ (x y : Int) (h : AHeap), run fuel e f ([.int .i64 x, .int .i64 y] ++ cps.map .ptr) h = some (.int .i64 (ord x y), h)

section
variable {fuel f : Nat} {cps : List Pt} {ord : Int → Int → Int} {D : Nat} {h : AHeap} {id gen n : Nat} {c : Bool} {d : Array Int}

theorem own_size (ho : Own h 1 id gen n (intsC d.toList)) : d.size = n := by have := ho.len; simpa using this

theorem rdK (ho : Own h 1 id gen n (intsC d.toList)) {i : Nat} (hi : i < n) {β : Type} (K : Int → Option β) :
    ((h.addr 1 (.mk ⟨id, gen, 0⟩ n c) (i : Int)).bind fun p => (h.cell p).bind fun u => (AVal.int? .i64 u).bind K) = K d[i]! := by
  have hs := ho.cells c
  have hsz := own_size ho
  have hd : i < d.size := by omega
  rw [addr_at hs (by omega) (by simp [Sl.len]; omega), Option.bind_some, cell_at hs (v := .int .i64 d[i]!) (by omega) (by simp [hd]), Option.bind_some, int_int, Option.bind_some]

theorem ints_set (l : List Int) (i : Nat) (x : Int) : intsC (l.set i x) = (intsC l).set i (.int .i64 x) := by simp [intsC, List.map_set]

theorem swpK (ho : Own h 1 id gen n (intsC d.toList)) {i j : Nat} (hi : i < n) (hj : j < n) : ∃ h', Own h' 1 id gen n (intsC (swp d i j).toList) ∧ Keeps h h' (· = id) ∧ ∀ {β : Type} (K : AHeap → Option β),
    ((h.addr 1 (.mk ⟨id, gen, 0⟩ n c) (j : Int)).bind fun p => (h.cell p).bind fun u => (AVal.int? .i64 u).bind fun n3 =>
      (h.addr 1 (.mk ⟨id, gen, 0⟩ n c) (i : Int)).bind fun p => (h.cell p).bind fun u => (AVal.int? .i64 u).bind fun n6 =>
      (h.addr 1 (.mk ⟨id, gen, 0⟩ n c) (i : Int)).bind fun p => (h.storeAt [.int .i64 n3] p).bind fun h8 =>
      (h8.addr 1 (.mk ⟨id, gen, 0⟩ n c) (j : Int)).bind fun p => (h8.storeAt [.int .i64 n6] p).bind K) = K h' := by
  have hsz := own_size ho
  obtain ⟨a1, h1, e1, o1, k1, _⟩ := ho.intsStore (j := (i : Int)) (by omega) (by omega) c d[j]!
  obtain ⟨a2, h2, e2, o2, k2, _⟩ := o1.intsStore (j := (j : Int)) (by omega) (by omega) c d[i]!
  refine ⟨h2, ?_, k1.trans k2, fun K => ?_⟩
  · have : (swp d i j).toList = (d.toList.set i d[j]!).set j d[i]! := by simp [swp]
    rw [this]
    exact o2
  · rw [rdK ho hj, rdK ho hi, a1, Option.bind_some, e1, Option.bind_some, a2, Option.bind_some, e2, Option.bind_some]

theorem swp_size (d : Array Int) (i j : Nat) : (swp d i j).size = d.size := by simp [swp]

theorem dlt (x y : Int) : decide (ord x y < 0) = ltO ord x y := rfl

/-- What a function makes of a row. -/
def Srt (h h' : AHeap) (id gen n : Nat) (d : Array Int) : Prop := Own h' 1 id gen n (intsC d.toList) ∧ Keeps h h' (· = id)

/-! insertion sort -/
theorem ins_inner (hc : CmpOk fuel f cps ord D) {e : Nat} (he : D ≤ e) (hn : n < 1000000000000) (a b i : Nat) : ∀ (j m : Nat) (d : Array Int) (h : AHeap), j < m → j < n → Own h 1 id gen n (intsC d.toList) →
    ∃ h', l_slices_insertionSortCmpFunc_int_1 fuel e m [(0, .slice (.mk ⟨id, gen, 0⟩ n c)), (1, .int .i64 (a : Int)), (2, .int .i64 (b : Int)), (3, .func f cps), (8, .int .i64 (i : Int)), (9, .int .i64 (j : Int))] h =
      some (.exit 2, [(0, .slice (.mk ⟨id, gen, 0⟩ n c)), (1, .int .i64 (a : Int)), (2, .int .i64 (b : Int)), (3, .func f cps), (8, .int .i64 (i : Int))], h') ∧ Srt h h' id gen n (insInner (ltO ord) a j d) := by
  intro j
  induction j with
  | zero =>
    intro m d h hm hj ho
    obtain ⟨m, rfl⟩ : ∃ m', m = m' + 1 := ⟨m - 1, by omega⟩
    rw [l_slices_insertionSortCmpFunc_int_1_eq, bif_neg (by omega)]
    simp only [Option.bind_some, k_slices_insertionSortCmpFunc_int_2_n, cond_false]
    exact ⟨h, rfl, by simpa [insInner] using ho, Keeps.refl _ _⟩
  | succ j ih =>
    intro m d h hm hj ho
    obtain ⟨m, rfl⟩ : ∃ m', m = m' + 1 := ⟨m - 1, by omega⟩
    rw [l_slices_insertionSortCmpFunc_int_1_eq, predI (by omega) (by omega), Nat.add_sub_cancel]
    unfold insInner
    by_cases ha : a < j + 1
    · rw [bif_pos (by omega), rdK ho hj, rdK ho (by omega), hc _ he]
      simp only [Option.bind_some, int_int, dlt (ord := ord)]
      simp only [Option.bind_some, k_slices_insertionSortCmpFunc_int_2_n]
      cases hlt : ltO ord d[j + 1]! d[j]! with
      | true =>
        obtain ⟨h2, o2, k2, e2⟩ := swpK (c := c) ho (i := j + 1) (j := j) hj (by omega)
        rw [cond_true, predI (by omega) (by omega), Nat.add_sub_cancel, e2]
        obtain ⟨h', q1, q2, q3⟩ := ih m _ h2 (by omega) (by omega) o2
        refine ⟨h', q1, ?_, k2.trans q3⟩
        simpa [ha] using q2
      | false =>
        rw [cond_false]
        exact ⟨h, rfl, by simpa using ho, Keeps.refl _ _⟩
    · rw [bif_neg (by omega)]
      simp only [Option.bind_some, k_slices_insertionSortCmpFunc_int_2_n, cond_false]
      exact ⟨h, rfl, by simpa [ha] using ho, Keeps.refl _ _⟩

theorem ins_outer (hc : CmpOk fuel f cps ord D) {e : Nat} (he : D ≤ e) (hn : n < 1000000000000) (hf : n < fuel) (a b : Nat) (hb : b ≤ n) : ∀ (k i m : Nat) (d : Array Int) (h : AHeap), k < m → b - i = k → i < 2000000000000 → Own h 1 id gen n (intsC d.toList) →
    ∃ h', l_slices_insertionSortCmpFunc_int_0 fuel e m [(0, .slice (.mk ⟨id, gen, 0⟩ n c)), (1, .int .i64 (a : Int)), (2, .int .i64 (b : Int)), (3, .func f cps), (8, .int .i64 (i : Int))] h = some (.exit 0, [], h') ∧ Srt h h' id gen n (insOuter (ltO ord) a b i d) := by
  intro k
  induction k with
  | zero =>
    intro i m d h hm hk hi ho
    obtain ⟨m, rfl⟩ : ∃ m', m = m' + 1 := ⟨m - 1, by omega⟩
    rw [l_slices_insertionSortCmpFunc_int_0_eq, bif_neg (by omega)]
    refine ⟨h, rfl, ?_, Keeps.refl _ _⟩
    rw [insOuter, if_neg (by omega)]
    exact ho
  | succ k ih =>
    intro i m d h hm hk hi ho
    obtain ⟨m, rfl⟩ : ∃ m', m = m' + 1 := ⟨m - 1, by omega⟩
    obtain ⟨h1, e1, o1, k1⟩ := ins_inner (c := c) hc he hn a b i i fuel d h (by omega) (by omega) ho
    rw [l_slices_insertionSortCmpFunc_int_0_eq, bif_pos (by omega), e1, Option.bind_some]
    simp only [k_slices_insertionSortCmpFunc_int_1_x2]
    rw [sucI (by omega)]
    obtain ⟨h2, e2, o2, k2⟩ := ih (i + 1) m _ h1 (by omega) (by omega) (by omega) o1
    refine ⟨h2, e2, ?_, k1.trans k2⟩
    rw [insOuter, if_pos (by omega)]
    exact o2

theorem insertion_run (hc : CmpOk fuel f cps ord D) {e : Nat} (he : D ≤ e) (hn : n < 1000000000000) (hf : n < fuel) {a b : Nat} (ha : a ≤ n) (hb : b ≤ n) (ho : Own h 1 id gen n (intsC d.toList)) :
    ∃ h', run fuel (e + 1) F_slices_insertionSortCmpFunc_int [.slice (.mk ⟨id, gen, 0⟩ n c), .int .i64 (a : Int), .int .i64 (b : Int), .func f cps] h = some (.tup [], h') ∧ Srt h h' id gen n (insertionSort (ltO ord) d a b) := by
  obtain ⟨h1, e1, q⟩ := ins_outer (c := c) hc he hn hf a b hb (b - (a + 1)) (a + 1) fuel d h (by omega) rfl (by omega) ho
  refine ⟨h1, ?_, q⟩
  rw [e_slices_insertionSortCmpFunc_int, sucI (by omega), e1]
  simp only [Option.bind_some, k_slices_insertionSortCmpFunc_int_0_x0]

/-! heap sort -/
theorem sift_loop (hc : CmpOk fuel f cps ord D) {e : Nat} (he : D ≤ e) (hn : n < 1000000000000) (hi first : Nat) (hb : first + hi ≤ n) : ∀ (k root m : Nat) (d : Array Int) (h : AHeap), hi - root ≤ k → k < m → root < 1000000000000 → Own h 1 id gen n (intsC d.toList) →
    ∃ h' x, (l_slices_siftDownCmpFunc_int_0 fuel e m [(0, .slice (.mk ⟨id, gen, 0⟩ n c)), (2, .int .i64 (hi : Int)), (3, .int .i64 (first : Int)), (4, .func f cps), (10, .int .i64 (root : Int))] h) = some (x, [], h') ∧ (x = .exit 0 ∨ x = .ret) ∧ Srt h h' id gen n (siftDown (ltO ord) hi first root d) := by
  intro k
  induction k with
  | zero =>
    intro root m d h hk hm hr ho
    obtain ⟨m, rfl⟩ : ∃ m', m = m' + 1 := ⟨m - 1, by omega⟩
    have e2 : IntKind.wrap .i64 ((2 : Int) * (root : Int)) = ((2 * root : Nat) : Int) := by rw [wrap64 (by omega) (by omega)]; omega
    rw [l_slices_siftDownCmpFunc_int_0_eq, e2, sucI (by omega), bif_pos (by omega)]
    refine ⟨h, _, rfl, .inl rfl, ?_, Keeps.refl _ _⟩
    rw [siftDown, dif_pos (by omega)]
    exact ho
  | succ k ih =>
    intro root m d h hk hm hr ho
    obtain ⟨m, rfl⟩ : ∃ m', m = m' + 1 := ⟨m - 1, by omega⟩
    have e2 : IntKind.wrap .i64 ((2 : Int) * (root : Int)) = ((2 * root : Nat) : Int) := by rw [wrap64 (by omega) (by omega)]; omega
    rw [l_slices_siftDownCmpFunc_int_0_eq, e2, sucI (by omega)]
    by_cases hge : hi ≤ 2 * root + 1
    · rw [bif_pos (by omega)]
      refine ⟨h, _, rfl, .inl rfl, ?_, Keeps.refl _ _⟩
      rw [siftDown, dif_pos (by omega)]
      exact ho
    -- the second half, from the child chosen
    have step : ∀ ch, ch < hi → root < ch → (∀ (x11 : Nat), x11 = ch → ∃ h' x, k_slices_siftDownCmpFunc_int_2 fuel e m .normal [(0, .slice (.mk ⟨id, gen, 0⟩ n c)), (2, .int .i64 (hi : Int)), (3, .int .i64 (first : Int)), (4, .func f cps), (10, .int .i64 (root : Int)), (11, .int .i64 (x11 : Int))] h = some (x, [], h') ∧ (x = .exit 0 ∨ x = .ret) ∧
        Srt h h' id gen n (if !ltO ord d[first + root]! d[first + ch]! then d else siftDown (ltO ord) hi first ch (swp d (first + root) (first + ch)))) := by
      intro ch h1 h2 x11 hx
      subst hx
      rw [k_slices_siftDownCmpFunc_int_2_n, addI (by omega), addI (by omega), rdK ho (by omega), rdK ho (by omega), hc _ he]
      simp only [Option.bind_some, int_int, dlt (ord := ord)]
      cases hlt : ltO ord d[first + root]! d[first + x11]! with
      | false => exact ⟨h, _, rfl, .inr rfl, by simpa using ho, Keeps.refl _ _⟩
      | true =>
        obtain ⟨h3, o3, k3, e3⟩ := swpK (c := c) ho (i := first + root) (j := first + x11) (by omega) (by omega)
        simp only [Bool.not_true, cond_false, Bool.false_eq_true, if_false]
        rw [e3]
        obtain ⟨h', x, q1, q2, q3, q4⟩ := ih x11 m _ h3 (by omega) (by omega) (by omega) o3
        exact ⟨h', x, q1, q2, q3, k3.trans q4⟩
    rw [bif_neg (by omega), siftDown, dif_neg (by omega), sucI (by omega)]
    by_cases h1 : 2 * root + 1 + 1 < hi
    · rw [bif_pos (by omega), addI (by omega), sucI (by omega), rdK ho (by omega), rdK ho (by omega), hc _ he]
      simp only [Option.bind_some, int_int, dlt (ord := ord)]
      simp only [Option.bind_some, k_slices_siftDownCmpFunc_int_1_n]
      cases hlt : ltO ord d[first + (2 * root + 1)]! d[first + (2 * root + 1) + 1]! with
      | true =>
        simp only [cond_true, Option.bind_some, decide_eq_true h1, Bool.and_self, if_true]
        rw [sucI (by omega)]
        obtain ⟨h', x, q1, q2, q3⟩ := step (2 * root + 2) (by omega) (by omega) _ rfl
        refine ⟨h', x, q1, q2, ?_⟩
        rw [dif_pos (by omega)]
        exact q3
      | false =>
        simp only [cond_false, Option.bind_some, Bool.and_false, Bool.false_eq_true, if_false]
        exact step (2 * root + 1) (by omega) (by omega) _ rfl
    · rw [bif_neg (by omega)]
      simp only [Option.bind_some, k_slices_siftDownCmpFunc_int_1_n, cond_false, decide_eq_false h1, Bool.false_and, Bool.false_eq_true, if_false]
      exact step (2 * root + 1) (by omega) (by omega) _ rfl

theorem sift_run (hc : CmpOk fuel f cps ord D) {e : Nat} (he : D ≤ e) (hn : n < 1000000000000) (hf : n < fuel) {lo hi first : Nat} (hb : first + hi ≤ n) (hl : lo < 1000000000000) (ho : Own h 1 id gen n (intsC d.toList)) :
    ∃ h', run fuel (e + 1) F_slices_siftDownCmpFunc_int [.slice (.mk ⟨id, gen, 0⟩ n c), .int .i64 (lo : Int), .int .i64 (hi : Int), .int .i64 (first : Int), .func f cps] h = some (.tup [], h') ∧ Srt h h' id gen n (siftDown (ltO ord) hi first lo d) := by
  obtain ⟨h1, x, e1, hx, q⟩ := sift_loop (c := c) hc he hn hi first hb n lo fuel d h (by omega) (by omega) hl ho
  refine ⟨h1, ?_, q⟩
  rw [e_slices_siftDownCmpFunc_int, e1]
  rcases hx with rfl | rfl
  · simp only [Option.bind_some, k_slices_siftDownCmpFunc_int_0_x0]
  · simp only [Option.bind_some, k_slices_siftDownCmpFunc_int_0_r]

theorem heap_build (hc : CmpOk fuel f cps ord D) {e : Nat} (he : D ≤ e) (hn : n < 1000000000000) (hf : n < fuel) (hi first : Nat) (hb : first + hi ≤ n) (z : Int) (hz : z = 0) : ∀ (k m : Nat) (d : Array Int) (h : AHeap), k < m → k ≤ n → Own h 1 id gen n (intsC d.toList) →
    ∃ h', l_slices_heapSortCmpFunc_int_0 fuel (e + 1) m [(0, .slice (.mk ⟨id, gen, 0⟩ n c)), (3, .func f cps), (8, .int .i64 (first : Int)), (9, .int .i64 z), (10, .int .i64 (hi : Int)), (11, .int .i64 ((k : Int) - 1))] h =
      some (.exit 0, [(0, .slice (.mk ⟨id, gen, 0⟩ n c)), (3, .func f cps), (8, .int .i64 (first : Int)), (9, .int .i64 z), (10, .int .i64 (hi : Int))], h') ∧ Srt h h' id gen n (heapBuild (ltO ord) hi first k d) := by
  intro k
  induction k with
  | zero =>
    intro m d h hm hk ho
    obtain ⟨m, rfl⟩ : ∃ m', m = m' + 1 := ⟨m - 1, by omega⟩
    rw [l_slices_heapSortCmpFunc_int_0_eq, bif_neg (by omega)]
    exact ⟨h, rfl, ho, Keeps.refl _ _⟩
  | succ k ih =>
    intro m d h hm hk ho
    obtain ⟨m, rfl⟩ : ∃ m', m = m' + 1 := ⟨m - 1, by omega⟩
    obtain ⟨h1, e1, o1, k1⟩ := sift_run (c := c) hc he hn hf hb (lo := k) (by omega) ho
    have e2 : (((k + 1 : Nat) : Int) - 1) = (k : Int) := by omega
    rw [e2, l_slices_heapSortCmpFunc_int_0_eq, bif_pos (by omega), e1, Option.bind_some, wrap64 (by omega) (by omega)]
    obtain ⟨h2, q1, q2, q3⟩ := ih m _ h1 (by omega) (by omega) o1
    exact ⟨h2, q1, q2, k1.trans q3⟩

theorem heap_pop (hc : CmpOk fuel f cps ord D) {e : Nat} (he : D ≤ e) (hn : n < 1000000000000) (hf : n < fuel) (first : Nat) : ∀ (k m : Nat) (d : Array Int) (h : AHeap), k < m → first + k ≤ n → Own h 1 id gen n (intsC d.toList) →
    ∃ h', l_slices_heapSortCmpFunc_int_1 fuel (e + 1) m [(0, .slice (.mk ⟨id, gen, 0⟩ n c)), (3, .func f cps), (8, .int .i64 (first : Int)), (9, .int .i64 0), (12, .int .i64 ((k : Int) - 1))] h =
      some (.exit 2, [], h') ∧ Srt h h' id gen n (heapPop (ltO ord) first k d) := by
  intro k
  induction k with
  | zero =>
    intro m d h hm hk ho
    obtain ⟨m, rfl⟩ : ∃ m', m = m' + 1 := ⟨m - 1, by omega⟩
    rw [l_slices_heapSortCmpFunc_int_1_eq, bif_neg (by omega)]
    exact ⟨h, rfl, ho, Keeps.refl _ _⟩
  | succ k ih =>
    intro m d h hm hk ho
    obtain ⟨m, rfl⟩ : ∃ m', m = m' + 1 := ⟨m - 1, by omega⟩
    obtain ⟨h1, o1, k1, e1⟩ := swpK (c := c) ho (i := first) (j := first + k) (by omega) (by omega)
    have e2 : (((k + 1 : Nat) : Int) - 1) = (k : Int) := by omega
    obtain ⟨h2, e3, o2, k2⟩ := sift_run (c := c) hc he hn hf (lo := 0) (hi := k) (first := first) (by omega) (by omega) o1
    rw [e2, l_slices_heapSortCmpFunc_int_1_eq, bif_pos (by omega), addI (by omega), e1, show (0 : Int) = ((0 : Nat) : Int) from rfl, e3, Option.bind_some, wrap64 (n := (k : Int) - 1) (by omega) (by omega)]
    obtain ⟨h3, q1, q2, q3⟩ := ih m _ h2 (by omega) (by omega) o2
    exact ⟨h3, q1, q2, k1.trans (k2.trans q3)⟩

theorem heap_run (hc : CmpOk fuel f cps ord D) {e : Nat} (he : D ≤ e) (hn : n < 1000000000000) (hf : n + 1 < fuel) {a b : Nat} (ha : a ≤ b) (hb : b ≤ n) (hpos : 0 < b - a) (ho : Own h 1 id gen n (intsC d.toList)) :
    ∃ h', run fuel (e + 2) F_slices_heapSortCmpFunc_int [.slice (.mk ⟨id, gen, 0⟩ n c), .int .i64 (a : Int), .int .i64 (b : Int), .func f cps] h = some (.tup [], h') ∧ Srt h h' id gen n (heapSort (ltO ord) d a b) := by
  have hd : (Int.tdiv ((b - a - 1 : Nat) : Int) 2) = ((b - a - 1) / 2 : Nat) := by
    rw [Int.tdiv_eq_ediv_of_nonneg (by omega)]; omega
  obtain ⟨h1, e1, o1, k1⟩ := heap_build (c := c) hc he hn (by omega) (b - a) a (by omega) 0 rfl ((b - a - 1) / 2 + 1) fuel d h (by omega) (by omega) ho
  obtain ⟨h2, e2, o2, k2⟩ := heap_pop (c := c) hc he hn (by omega) a (b - a) fuel _ h1 (by omega) (by omega) o1
  have e3 : ((((b - a - 1) / 2 + 1 : Nat) : Int) - 1) = (((b - a - 1) / 2 : Nat) : Int) := by omega
  rw [e3] at e1
  refine ⟨h2, ?_, o2, k1.trans k2⟩
  rw [e_slices_heapSortCmpFunc_int, subI ha (by omega), predI (by omega) (by omega), hd, wrapN (by omega), e1, Option.bind_some]
  simp only [k_slices_heapSortCmpFunc_int_0_x0]
  rw [wrap64 (n := ((b - a : Nat) : Int) - 1) (by omega) (by omega), e2]
  simp only [Option.bind_some, k_slices_heapSortCmpFunc_int_1_x2]
end
end Go.Proofs.YtnkbhbkfbigbiaaDoor
