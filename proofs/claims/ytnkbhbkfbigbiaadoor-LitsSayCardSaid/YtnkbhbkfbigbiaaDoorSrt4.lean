/-
  slices.SortFunc at []int, fourth part: bits.Len, the patterns, the sort.
-/
import Derived.Test.YtnkbhbkfbigbiaaDoorSrt3
namespace Go.Proofs.YtnkbhbkfbigbiaaDoor
open Go.RowKit Go.Sort

theorem wrap_u64 {n : Int} (h0 : 0 ≤ n) (h1 : n < 18446744073709551616) : IntKind.wrap .u64 n = n := by
  simp [IntKind.wrap, IntKind.bits, IntKind.signed]
  omega
theorem wrap_u8 (n : Int) : IntKind.wrap .u8 n = n % 256 := by
  simp [IntKind.wrap, IntKind.bits, IntKind.signed]
theorem wrap_u64_range (n : Int) : 0 ≤ IntKind.wrap .u64 n ∧ IntKind.wrap .u64 n < 18446744073709551616 := by
  simp [IntKind.wrap, IntKind.bits, IntKind.signed]
  omega

/-! bits.Len -/
theorem bitsLen_shift {n k : Nat} (h : 2 ^ k ≤ n) : bitsLen n = bitsLen (n / 2 ^ k) + k := by
  have key : ∀ j, bitsLen n ≤ j ↔ bitsLen (n / 2 ^ k) + k ≤ j := by
    intro j
    rw [bitsLen_le_iff]
    rcases Nat.lt_or_ge j k with hj | hj
    · have : 2 ^ j ≤ 2 ^ k := Nat.pow_le_pow_right (by omega) (by omega)
      constructor
      · intro h1; omega
      · intro h1; omega
    · have e : bitsLen (n / 2 ^ k) + k ≤ j ↔ bitsLen (n / 2 ^ k) ≤ j - k := by omega
      rw [e, bitsLen_le_iff, Nat.div_lt_iff_lt_mul (Nat.two_pow_pos k), ← Nat.pow_add, Nat.sub_add_cancel hj]
  exact Nat.le_antisymm ((key _).2 (Nat.le_refl _)) ((key _).1 (Nat.le_refl _))

theorem lenTab_all : (List.range 256).all (fun i => bstr_633d862b.data.toList[i]? == some (UInt8.ofNat (bitsLen i))) = true := by kernel_rfl
theorem lenTab_at {i : Nat} (h : i < 256) : strAt bstr_633d862b (i : Int) = some (bitsLen i : Int) := by
  have := List.all_eq_true.1 lenTab_all i (List.mem_range.2 h)
  have h2 : bstr_633d862b.data.toList[i]? = some (UInt8.ofNat (bitsLen i)) := by simpa using this
  have h3 : bitsLen i ≤ 8 := (bitsLen_le_iff i 8).2 (by omega)
  unfold strAt
  rw [bif_pos (by omega), Int.toNat_natCast, h2]
  simp
  omega

theorem len64_2 (fuel d : Nat) {x : Nat} (hx : x < 256) {b : Nat} (hb : b < 1000) (h : AHeap) : k_bits_Len64_2 fuel d .normal [(0, .int .u64 (x : Int)), (2, .int .i64 (b : Int))] h = some (.int .i64 ((bitsLen x + b : Nat) : Int), h) := by
  have h3 : bitsLen x ≤ 8 := (bitsLen_le_iff x 8).2 (by omega)
  have e : IntKind.wrap .u8 (x : Int) = (x : Int) := by rw [wrap_u8]; omega
  rw [k_bits_Len64_2_n, e]
  rw [lenTab_at hx, Option.bind_some, wrapN (by omega), addI (by omega), Nat.add_comm]
theorem fdivN (a b : Nat) : Int.fdiv (a : Int) (b : Int) = ((a / b : Nat) : Int) := by
  rw [Int.fdiv_eq_ediv_of_nonneg _ (by omega)]
  exact (Int.natCast_ediv a b).symm
theorem len64_1 (fuel d : Nat) {x : Nat} (hx : x < 65536) {b : Nat} (hb : b < 900) (h : AHeap) : k_bits_Len64_1 fuel d .normal [(0, .int .u64 (x : Int)), (2, .int .i64 (b : Int))] h = some (.int .i64 ((bitsLen x + b : Nat) : Int), h) := by
  rw [k_bits_Len64_1_n]
  by_cases h8 : 256 ≤ x
  · have e : Int.fdiv (x : Int) (2 ^ min (Int.toNat (8 : Int)) (IntKind.bits .u64)) = ((x / 2 ^ 8 : Nat) : Int) := fdivN x (2 ^ 8)
    have e2 : IntKind.wrap .i64 ((b : Int) + 8) = ((b + 8 : Nat) : Int) := addLit 8 (by omega) rfl
    rw [bif_pos (by omega), e, e2]
    simp only [Option.bind_some]
    rw [len64_2 fuel d (by omega) (by omega), bitsLen_shift (n := x) (k := 8) (by omega)]
    congr 3; omega
  · rw [bif_neg (by omega)]
    simp only [Option.bind_some]
    exact len64_2 fuel d (by omega) (by omega) h
theorem len64_0 (fuel d : Nat) {x : Nat} (hx : x < 4294967296) {b : Nat} (hb : b < 800) (h : AHeap) : k_bits_Len64_0 fuel d .normal [(0, .int .u64 (x : Int)), (2, .int .i64 (b : Int))] h = some (.int .i64 ((bitsLen x + b : Nat) : Int), h) := by
  rw [k_bits_Len64_0_n]
  by_cases h8 : 65536 ≤ x
  · have e : Int.fdiv (x : Int) (2 ^ min (Int.toNat (16 : Int)) (IntKind.bits .u64)) = ((x / 2 ^ 16 : Nat) : Int) := fdivN x (2 ^ 16)
    have e2 : IntKind.wrap .i64 ((b : Int) + 16) = ((b + 16 : Nat) : Int) := addLit 16 (by omega) rfl
    rw [bif_pos (by omega), e, e2]
    simp only [Option.bind_some]
    rw [len64_1 fuel d (by omega) (by omega), bitsLen_shift (n := x) (k := 16) (by omega)]
    congr 3; omega
  · rw [bif_neg (by omega)]
    simp only [Option.bind_some]
    exact len64_1 fuel d (by omega) (by omega) h
theorem len64_run (fuel d : Nat) {x : Nat} (hx : x < 4294967296) (h : AHeap) : run fuel (d + 1) F_bits_Len64 [.int .u64 (x : Int)] h = some (.int .i64 (bitsLen x : Int), h) := by
  refine pure_of rfl rfl (cc1 rfl) (r := .int .i64 (bitsLen x : Int)) (h' := AHeap.none) ?_ rfl
  rw [e_bits_Len64, bif_neg (by omega)]
  simp only [Option.bind_some]
  have := len64_0 fuel d hx (b := 0) (by omega) AHeap.none
  simpa using this
theorem len_run (fuel d : Nat) {x : Nat} (hx : x < 4294967296) (h : AHeap) : run fuel (d + 2) F_bits_Len [.int .u64 (x : Int)] h = some (.int .i64 (bitsLen x : Int), h) := by
  refine pure_of rfl rfl (cc1 rfl) (r := .int .i64 (bitsLen x : Int)) (h' := AHeap.none) ?_ rfl
  rw [e_bits_Len, len64_run fuel d hx]
  rfl
theorem next2_run (fuel d : Nat) {x : Nat} (hx : x < 4294967296) (h : AHeap) : run fuel (d + 3) F_slices_nextPowerOfTwo [.int .i64 (x : Int)] h = some (.int .u64 ((2 ^ bitsLen x : Nat) : Int), h) := by
  have hb : bitsLen x ≤ 32 := (bitsLen_le_iff x 32).2 (by omega)
  have hp : 2 ^ bitsLen x ≤ 2 ^ 32 := Nat.pow_le_pow_right (by omega) hb
  refine pure_of rfl rfl (cc1 rfl) (r := .int .u64 ((2 ^ bitsLen x : Nat) : Int)) (h' := AHeap.none) ?_ rfl
  rw [e_slices_nextPowerOfTwo, wrap_u64 (by omega) (by omega), len_run fuel d hx]
  simp only [Option.bind_some, int_int]
  have e : min (Int.toNat (bitsLen x : Int)) (IntKind.bits .u64) = bitsLen x := by
    rw [Int.toNat_natCast]; exact Nat.min_eq_left (Nat.le_trans hb (by decide))
  rw [bif_neg (by omega), e, Int.one_mul, show ((2 : Int) ^ bitsLen x) = ((2 ^ bitsLen x : Nat) : Int) from by simp]
  generalize 2 ^ bitsLen x = p at *
  rw [wrap_u64 (by omega) (by omega)]

/-! xorshift -/
theorem bits_range (op : BinOp) (a b : Int) : 0 ≤ bitsOp op .u64 a b ∧ bitsOp op .u64 a b < 18446744073709551616 := by
  unfold bitsOp
  exact wrap_u64_range _
theorem xnext_run (fuel d : Nat) {h : AHeap} {rid : Nat} {s : Int} (ho : Own h 1 rid 0 1 [.int .u64 s]) :
    ∃ (h' : AHeap) (r : Int), run fuel (d + 1) F_slices_xorshift_Next [.ptr (.mk ⟨rid, 0, 0⟩ 1)] h = some (.int .u64 r, h') ∧ 0 ≤ r ∧ r < 18446744073709551616 ∧ Own h' 1 rid 0 1 [.int .u64 r] ∧ Keeps h h' (· = rid) := by
  rw [e_slices_xorshift_Next]
  obtain ⟨h1, e1, o1, k1, _⟩ := ho.put (o := 0) (l := 1) (vs := [.int .u64 (bitsOp .xor .u64 s (IntKind.wrap .u64 (s * 2 ^ min (Int.toNat (13 : Int)) (IntKind.bits .u64))))]) (by simp) (by simp)
  obtain ⟨s1, hs1⟩ : ∃ s1, s1 = bitsOp .xor .u64 s (IntKind.wrap .u64 (s * 2 ^ min (Int.toNat (13 : Int)) (IntKind.bits .u64))) := ⟨_, rfl⟩
  rw [← hs1] at e1 o1
  have o1 : Own h1 1 rid 0 1 [.int .u64 s1] := o1
  obtain ⟨h2, e2, o2, k2, _⟩ := o1.put (o := 0) (l := 1) (vs := [.int .u64 (bitsOp .xor .u64 s1 (Int.fdiv s1 (2 ^ min (Int.toNat (7 : Int)) (IntKind.bits .u64))))]) (by simp) (by simp)
  obtain ⟨s2, hs2⟩ : ∃ s2, s2 = bitsOp .xor .u64 s1 (Int.fdiv s1 (2 ^ min (Int.toNat (7 : Int)) (IntKind.bits .u64))) := ⟨_, rfl⟩
  rw [← hs2] at e2 o2
  have o2 : Own h2 1 rid 0 1 [.int .u64 s2] := o2
  obtain ⟨h3, e3, o3, k3, _⟩ := o2.put (o := 0) (l := 1) (vs := [.int .u64 (bitsOp .xor .u64 s2 (IntKind.wrap .u64 (s2 * 2 ^ min (Int.toNat (17 : Int)) (IntKind.bits .u64))))]) (by simp) (by simp)
  have o3 : Own h3 1 rid 0 1 [.int .u64 (bitsOp .xor .u64 s2 (IntKind.wrap .u64 (s2 * 2 ^ min (Int.toNat (17 : Int)) (IntKind.bits .u64))))] := o3
  simp only [chk_mk, Option.bind_some, ho.part (o := 0) (l := 1) (by omega) rfl, int_int, ← hs1, e1, o1.part (o := 0) (l := 1) (by omega) rfl, ← hs2, e2, o2.part (o := 0) (l := 1) (by omega) rfl, e3, o3.part (o := 0) (l := 1) (by omega) rfl]
  exact ⟨h3, _, rfl, (bits_range _ _ _).1, (bits_range _ _ _).2, o3, k1.trans (k2.trans k3)⟩

theorem and_le {r : Int} {m : Nat} (h0 : 0 ≤ r) (h1 : r < 18446744073709551616) (hm : m < 18446744073709551616) : ∃ o : Nat, bitsOp .and .u64 r (m : Int) = (o : Int) ∧ o ≤ m := by
  obtain ⟨x, rfl⟩ : ∃ x : Nat, r = (x : Int) := ⟨r.toNat, by omega⟩
  have hx : x < 18446744073709551616 := by omega
  refine ⟨x &&& m, ?_, Nat.and_le_right⟩
  unfold bitsOp
  have hle : x &&& m ≤ m := Nat.and_le_right
  have e : (BitVec.ofInt (IntKind.bits .u64) (x : Int) &&& BitVec.ofInt (IntKind.bits .u64) (m : Int)).toNat = x &&& m := by
    rw [BitVec.toNat_and]
    simp only [BitVec.ofInt_natCast, BitVec.toNat_ofNat, IntKind.bits]
    rw [Nat.mod_eq_of_lt (by omega), Nat.mod_eq_of_lt (by omega)]
  simp only [e]
  exact wrap_u64 (by omega) (by omega)

section
variable {fuel f : Nat} {cps : List Pt} {ord : Int → Int → Int} {D : Nat} {h : AHeap} {id gen n : Nat} {c : Bool} {d : Array Int}

/-! breakPatterns -/
theorem brk_loop (e : Nat) (hn : n < 1000000000) (hf : 5 < fuel) {a b : Nat} (hab : 8 ≤ b - a) (hb : b ≤ n) {rid : Nat} (hne : id ≠ rid) : ∀ (k i m : Nat) (d : Array Int) (h : AHeap) (s : Int), i + k = a + (b - a) / 4 * 2 + 2 → k ≤ 3 → k < m → d.size = n → Own h 1 id gen n (intsC d.toList) → Own h 1 rid 0 1 [.int .u64 s] →
    ∃ (h' : AHeap) (d' : Array Int), l_slices_breakPatternsCmpFunc_int_0 fuel (e + 1) m [(0, .slice (.mk ⟨id, gen, 0⟩ n c)), (1, .int .i64 (a : Int)), (8, .int .i64 ((b - a : Nat) : Int)), (9, .ptr (.mk ⟨rid, 0, 0⟩ 1)), (10, .int .u64 ((2 ^ bitsLen (b - a) : Nat) : Int)), (11, .int .i64 (i : Int))] h = some (.exit 0, [], h') ∧
      PermIn a b d d' ∧ Own h' 1 id gen n (intsC d'.toList) ∧ Keeps h h' (fun r => r = id ∨ r = rid) := by
  have hbl : 2 ^ bitsLen (b - a) ≤ 2 * (b - a) := two_pow_bitsLen_le (by omega)
  have hpos : 0 < 2 ^ bitsLen (b - a) := Nat.two_pow_pos _
  have m2 : IntKind.wrap .i64 (IntKind.wrap .i64 ((a : Int) + IntKind.wrap .i64 (IntKind.wrap .i64 (Int.tdiv ((b - a : Nat) : Int) 4) * 2)) + 1) = ((a + (b - a) / 4 * 2 + 1 : Nat) : Int) := by
    rw [show (4 : Int) = ((4 : Nat) : Int) from rfl, divI 4 (by omega) (by omega), show (2 : Int) = ((2 : Nat) : Int) from rfl, mulI (by omega), addI (by omega), sucI (by omega)]
  have e10 : IntKind.wrap .u64 (((2 ^ bitsLen (b - a) : Nat) : Int) - 1) = ((2 ^ bitsLen (b - a) - 1 : Nat) : Int) := by rw [wrap_u64 (by omega) (by omega)]; omega
  intro k
  induction k with
  | zero =>
    intro i m d h s h1 h2 h3 hsz ho hr
    obtain ⟨m, rfl⟩ : ∃ m', m = m' + 1 := ⟨m - 1, by omega⟩
    rw [l_slices_breakPatternsCmpFunc_int_0_eq, m2, bif_neg (by omega)]
    exact ⟨h, d, rfl, permIn_refl _ _ _, ho, Keeps.refl _ _⟩
  | succ k ih =>
    intro i m d h s h1 h2 h3 hsz ho hr
    obtain ⟨m, rfl⟩ : ∃ m', m = m' + 1 := ⟨m - 1, by omega⟩
    rw [l_slices_breakPatternsCmpFunc_int_0_eq, m2, bif_pos (by omega)]
    obtain ⟨h2', r, e2, r0, r1, q2, k2⟩ := xnext_run fuel e hr
    obtain ⟨o, eo, ho'⟩ := and_le (m := 2 ^ bitsLen (b - a) - 1) r0 r1 (by omega)
    rw [e2]
    simp only [Option.bind_some, int_int, e10, eo]
    rw [wrapN (by omega)]
    clear m2
    have oo := ho.keep k2 hne
    -- the place that is drawn
    have tail : ∀ (t : Nat), t < b - a → ∃ (h' : AHeap) (d' : Array Int), k_slices_breakPatternsCmpFunc_int_1 fuel (e + 1) m .normal [(0, .slice (.mk ⟨id, gen, 0⟩ n c)), (1, .int .i64 (a : Int)), (8, .int .i64 ((b - a : Nat) : Int)), (9, .ptr (.mk ⟨rid, 0, 0⟩ 1)), (10, .int .u64 ((2 ^ bitsLen (b - a) : Nat) : Int)), (11, .int .i64 (i : Int)), (12, .int .i64 (t : Int))] h2' = some (.exit 0, [], h') ∧
      PermIn a b d d' ∧ Own h' 1 id gen n (intsC d'.toList) ∧ Keeps h h' (fun r => r = id ∨ r = rid) := by
      intro t ht
      rw [k_slices_breakPatternsCmpFunc_int_1_n, addI (by omega), sucI (by omega)]
      obtain ⟨h3', o3, k3, e3⟩ := swpK (c := c) oo (i := i) (j := a + t) (by omega) (by omega)
      rw [e3]
      obtain ⟨h', d', q1, q3, q4, q5⟩ := ih (i + 1) m _ h3' r (by omega) (by omega) (by omega) (by rw [swp_size]; exact hsz) o3 (q2.keep k3 (fun e => hne e.symm))
      refine ⟨h', d', q1, permIn_trans _ _ _ a b (swp_permIn d a b i (a + t) (by omega) (by omega) (by omega) (by omega) (by omega)) q3, q4, ?_⟩
      exact (k2.mono fun _ _ e => .inr e).trans ((k3.mono fun _ _ e => .inl e).trans q5)
    by_cases hge : b - a ≤ o
    · rw [bif_pos (by omega), subI hge (by omega)]
      simp only [Option.bind_some]
      exact tail (o - (b - a)) (by omega)
    · rw [bif_neg (by omega)]
      simp only [Option.bind_some]
      exact tail o (by omega)

theorem brk_run (e : Nat) (hn : n < 1000000000) (hf : 5 < fuel) {a b : Nat} (hab : a ≤ b) (hb : b ≤ n) (ho : Own h 1 id gen n (intsC d.toList)) :
    ∃ (h' : AHeap) (d' : Array Int), run fuel (e + 4) F_slices_breakPatternsCmpFunc_int [.slice (.mk ⟨id, gen, 0⟩ n c), .int .i64 (a : Int), .int .i64 (b : Int), .func f cps] h = some (.tup [], h') ∧ PermIn a b d d' ∧ Srt h h' id gen n d' := by
  have hsz := own_size ho
  rw [e_slices_breakPatternsCmpFunc_int, subI hab (by omega)]
  by_cases h8 : 8 ≤ b - a
  · have hlt := ho.lt
    have hne : id ≠ h.next := by rw [next_len]; omega
    have o0 : Own (h.push 1 [.int .u64 (0 : Int)]) 1 id gen n (intsC d.toList) := ho.keep (Keeps.push h 1 _ fun _ => False) (fun h => h)
    have s0 : Own (h.push 1 [.int .u64 (0 : Int)]) 1 h.next 0 1 [.int .u64 (0 : Int)] := Own.of_push 1 1 _ rfl
    obtain ⟨h1, e1, s1, k1, _⟩ := s0.put (o := 0) (l := 1) (vs := [.int .u64 (IntKind.wrap .u64 (IntKind.wrap .i64 ((b - a : Nat) : Int)))]) (by simp) (by simp)
    have m2 : IntKind.wrap .i64 (IntKind.wrap .i64 ((a : Int) + IntKind.wrap .i64 (IntKind.wrap .i64 (Int.tdiv ((b - a : Nat) : Int) 4) * 2)) - 1) = ((a + (b - a) / 4 * 2 - 1 : Nat) : Int) := by
      rw [show (4 : Int) = ((4 : Nat) : Int) from rfl, divI 4 (by omega) (by omega), show (2 : Int) = ((2 : Nat) : Int) from rfl, mulI (by omega), addI (by omega), predI (by omega) (by omega)]
    rw [wrapN (by omega)] at e1 s1
    rw [bif_pos (by omega), e1, Option.bind_some, next2_run fuel e (by omega), m2]
    simp only [Option.bind_some, int_int]
    clear m2
    obtain ⟨h', d', q1, q2, q3, q4⟩ := brk_loop (c := c) (fuel := fuel) (e + 2) hn hf h8 hb hne 3 (a + (b - a) / 4 * 2 - 1) fuel d h1 _ (by omega) (by omega) (by omega) hsz (o0.keep k1 hne) s1
    rw [q1]
    simp only [Option.bind_some, k_slices_breakPatternsCmpFunc_int_0_x0]
    refine ⟨h', d', rfl, q2, q3, ?_⟩
    have k3 : Keeps h h1 fun _ => False := keeps_new (Keeps.push h 1 _ _) k1 (by intro i hi; rw [hi, next_len]; exact Nat.le_refl _)
    refine ⟨Nat.le_trans k3.len q4.len, fun i row hi hn => q4.rows i row (k3.rows i row hi (fun h => h)) ?_, fun m es hm => q4.maps m es (k3.maps m es hm)⟩
    rintro (rfl | rfl)
    · exact hn rfl
    · have := (List.getElem?_eq_some_iff.1 hi).1
      rw [next_len] at this
      omega
  · rw [bif_neg (by omega)]
    exact ⟨h, d, rfl, permIn_refl _ _ _, ho, Keeps.refl _ _⟩

/-! pdqsort -/
theorem pdq_loop (hS : SWO (ltO ord)) (hc : CmpOk fuel f cps ord D) (hn : n < 1000000000) (hf : n + 5 < fuel) : ∀ (N a b m dd : Nat) (x3 : Int) (wb wp : Bool) (d : Array Int) (h : AHeap), b - a ≤ N → N < m → a ≤ b → b ≤ n → D + 5 + bitsLen (b - a) ≤ dd → Below (ltO ord) a b d → Own h 1 id gen n (intsC d.toList) →
    ∃ (h' : AHeap) (d' : Array Int), l_slices_pdqsortCmpFunc_int_0 fuel dd m [(0, .slice (.mk ⟨id, gen, 0⟩ n c)), (1, .int .i64 (a : Int)), (2, .int .i64 (b : Int)), (3, .int .i64 x3), (4, .func f cps), (10, .bool wb), (11, .bool wp)] h = some (.ret, [], h') ∧ PermIn a b d d' ∧ SortedIn (ltO ord) a b d' ∧ Srt h h' id gen n d' := by
  intro N
  induction N using Nat.strongRecOn with
  | _ N IH =>
  intro a b m dd x3 wb wp d h hN hm hab hb hdd hB ho
  have hsz := own_size ho
  obtain ⟨m, rfl⟩ : ∃ m', m = m' + 1 := ⟨m - 1, by omega⟩
  rw [l_slices_pdqsortCmpFunc_int_0_eq, subI hab (by omega)]
  by_cases h12 : b - a ≤ 12
  · obtain ⟨e, rfl⟩ : ∃ e, dd = e + 1 := ⟨dd - 1, by omega⟩
    obtain ⟨h1, e1, o1, k1⟩ := insertion_run (c := c) hc (e := e) (by omega) (by omega) (by omega) (a := a) (b := b) (by omega) hb ho
    rw [bif_pos (by omega), e1]
    obtain ⟨q1, q2⟩ := insertionSort_holds hS d a b hab (by omega)
    exact ⟨h1, _, rfl, q1, q2, o1, k1⟩
  rw [bif_neg (by omega)]
  by_cases hl : x3 = 0
  · obtain ⟨e, rfl⟩ : ∃ e, dd = e + 2 := ⟨dd - 2, by omega⟩
    obtain ⟨h1, e1, o1, k1⟩ := heap_run (c := c) hc (e := e) (by omega) (by omega) (by omega) hab hb (by omega) ho
    rw [bif_pos hl, e1]
    obtain ⟨q1, q2⟩ := heapSort_holds hS d a b hab (by omega)
    exact ⟨h1, _, rfl, q1, q2, o1, k1⟩
  rw [bif_neg hl]
  -- from the choice on
  have A4 : ∀ (d3 : Array Int) (h3 : AHeap) (x3 : Int) (pv : Nat), PermIn a b d d3 → a ≤ pv → pv < b → Srt h h3 id gen n d3 →
      ∃ (h' : AHeap) (d' : Array Int), k_slices_pdqsortCmpFunc_int_3 fuel dd m .normal [(0, .slice (.mk ⟨id, gen, 0⟩ n c)), (1, .int .i64 (a : Int)), (2, .int .i64 (b : Int)), (3, .int .i64 x3), (4, .func f cps), (10, .bool wb), (11, .bool wp), (12, .int .i64 ((b - a : Nat) : Int)), (13, .int .i64 (pv : Int))] h3 = some (.ret, [], h') ∧ PermIn a b d d' ∧ SortedIn (ltO ord) a b d' ∧ Srt h h' id gen n d' := by
    intro d3 h3 x3 pv P3 hp1 hp2 hs3
    obtain ⟨o3, k3⟩ := hs3
    have b3 : b ≤ d3.size := by rw [P3.1, hsz]; exact hb
    have B3 : Below (ltO ord) a b d3 := hB.perm (by omega) P3
    -- the round that parts
    have part : ∃ (h' : AHeap) (d' : Array Int), k_slices_pdqsortCmpFunc_int_4 fuel dd m .normal [(0, .slice (.mk ⟨id, gen, 0⟩ n c)), (1, .int .i64 (a : Int)), (2, .int .i64 (b : Int)), (3, .int .i64 x3), (4, .func f cps), (10, .bool wb), (11, .bool wp), (12, .int .i64 ((b - a : Nat) : Int)), (13, .int .i64 (pv : Int)), (97, .bool false)] h3 = some (.ret, [], h') ∧ PermIn a b d d' ∧ SortedIn (ltO ord) a b d' ∧ Srt h h' id gen n d' := by
      obtain ⟨e, rfl⟩ : ∃ e, dd = e + 1 := ⟨dd - 1, by omega⟩
      obtain ⟨h4, e4, o4, k4⟩ := part_run (c := c) hc (e := e) (by omega) (by omega) (by omega) (a := a) (b := b) (pv := pv) (by omega) hb (by omega) o3
      rw [k_slices_pdqsortCmpFunc_int_4_n, cond_false, e4]
      rcases hx : Sort.partition (ltO ord) d3 a b pv with ⟨mid, ap, d4⟩
      rw [hx] at o4
      obtain ⟨g1, g2, hs4, hBa, hBr, hleft, hright⟩ := round_part hS (partition_holds (ltO ord)) hp1 hp2 b3 B3 hx
      simp only [Option.bind_some, isTup_tup, List.length_cons, List.length_nil, Nat.beq, cond_true, comp_tup, List.getElem?_cons_zero, List.getElem?_cons_succ, int_int, bool_bool]
      rw [subI g1 (by omega), subI (by omega) (by omega), sucI (by omega)]
      by_cases hlt : mid - a < b - mid
      · rw [bif_pos (by omega)]
        have hbl : bitsLen (mid - a) + 1 ≤ bitsLen (b - a) := bitsLen_half (by omega) (by omega)
        obtain ⟨h5, d5, e5, p5, s5, o5, k5⟩ := IH (mid - a) (by omega) a mid fuel e x3 true true d4 h4 (Nat.le_refl _) (by omega) g1 (by omega) (by omega) hBa o4
        have e5' : run fuel (e + 1) F_slices_pdqsortCmpFunc_int [.slice (.mk ⟨id, gen, 0⟩ n c), .int .i64 (a : Int), .int .i64 (mid : Int), .int .i64 x3, .func f cps] h4 = some (.tup [], h5) := by
          rw [e_slices_pdqsortCmpFunc_int, e5]
          simp only [Option.bind_some, k_slices_pdqsortCmpFunc_int_0_r]
        obtain ⟨hBL, hfin⟩ := hleft _ p5 s5
        have hbl2 : bitsLen (b - (mid + 1)) ≤ bitsLen (b - a) := bitsLen_mono (by omega)
        obtain ⟨h6, d6, e6, p6, s6, o6, k6⟩ := IH (b - (mid + 1)) (by omega) (mid + 1) b m (e + 1) x3 (decide (IntKind.wrap .i64 (Int.tdiv ((b - a : Nat) : Int) 8) ≤ ((mid - a : Nat) : Int))) ap d5 h5 (Nat.le_refl _) (by omega) (by omega) hb (by omega) hBL o5
        obtain ⟨q1, q2⟩ := hfin _ p6 s6
        rw [e5', Option.bind_some, e6]
        exact ⟨h6, d6, rfl, permIn_trans _ _ _ a b P3 q1, q2, o6, k3.trans (k4.trans (k5.trans k6))⟩
      · rw [bif_neg (by omega)]
        have hbl : bitsLen (b - (mid + 1)) + 1 ≤ bitsLen (b - a) := bitsLen_half (by omega) (by omega)
        obtain ⟨h5, d5, e5, p5, s5, o5, k5⟩ := IH (b - (mid + 1)) (by omega) (mid + 1) b fuel e x3 true true d4 h4 (Nat.le_refl _) (by omega) (by omega) hb (by omega) hBr o4
        have e5' : run fuel (e + 1) F_slices_pdqsortCmpFunc_int [.slice (.mk ⟨id, gen, 0⟩ n c), .int .i64 ((mid + 1 : Nat) : Int), .int .i64 (b : Int), .int .i64 x3, .func f cps] h4 = some (.tup [], h5) := by
          rw [e_slices_pdqsortCmpFunc_int, e5]
          simp only [Option.bind_some, k_slices_pdqsortCmpFunc_int_0_r]
        obtain ⟨hBL, hfin⟩ := hright _ p5 s5
        have hbl2 : bitsLen (mid - a) ≤ bitsLen (b - a) := bitsLen_mono (by omega)
        obtain ⟨h6, d6, e6, p6, s6, o6, k6⟩ := IH (mid - a) (by omega) a mid m (e + 1) x3 (decide (IntKind.wrap .i64 (Int.tdiv ((b - a : Nat) : Int) 8) ≤ ((b - mid : Nat) : Int))) ap d5 h5 (Nat.le_refl _) (by omega) g1 (by omega) (by omega) hBL o5
        obtain ⟨q1, q2⟩ := hfin _ p6 s6
        rw [e5', Option.bind_some, e6]
        exact ⟨h6, d6, rfl, permIn_trans _ _ _ a b P3 q1, q2, o6, k3.trans (k4.trans (k5.trans k6))⟩
    rw [k_slices_pdqsortCmpFunc_int_3_n]
    by_cases ha0 : 0 < a
    · rw [bif_pos (by omega), predI (by omega) (by omega), rdK o3 (by omega), rdK o3 (by omega), hc _ (by omega)]
      simp only [Option.bind_some, int_int, dlt (ord := ord)]
      cases hlt : ltO ord d3[a - 1]! d3[pv]! with
      | true => exact part
      | false =>
        obtain ⟨e, rfl⟩ : ∃ e, dd = e + 1 := ⟨dd - 1, by omega⟩
        obtain ⟨h4, e4, o4, k4⟩ := peq_run (c := c) hc (e := e) (by omega) (by omega) (by omega) (a := a) (b := b) (pv := pv) (by omega) hb (by omega) o3
        rw [Bool.not_false, k_slices_pdqsortCmpFunc_int_4_n, cond_true, e4]
        rcases hx : partitionEqual (ltO ord) d3 a b pv with ⟨mid, d4⟩
        rw [hx] at o4
        obtain ⟨g1, g2, hs4, hB4, hfin⟩ := round_eq hS (partitionEqual_holds (ltO ord)) ha0 hp1 hp2 b3 B3 hlt hx
        simp only [Option.bind_some, int_int]
        have hbl2 : bitsLen (b - mid) ≤ bitsLen (b - a) := bitsLen_mono (by omega)
        obtain ⟨h6, d6, e6, p6, s6, o6, k6⟩ := IH (b - mid) (by omega) mid b m (e + 1) x3 wb wp d4 h4 (Nat.le_refl _) (by omega) g2 hb (by omega) hB4 o4
        obtain ⟨q1, q2⟩ := hfin _ p6 s6
        rw [e6]
        exact ⟨h6, d6, rfl, permIn_trans _ _ _ a b P3 q1, q2, o6, k3.trans (k4.trans k6)⟩
    · rw [bif_neg (by omega)]
      simp only [Option.bind_some]
      exact part
  -- from the pivot on
  have A2 : ∀ (d2 : Array Int) (h2 : AHeap) (x3 x14 : Int) (pv : Nat), PermIn a b d d2 → a ≤ pv → pv < b → Srt h h2 id gen n d2 →
      ∃ (h' : AHeap) (d' : Array Int), k_slices_pdqsortCmpFunc_int_2 fuel dd m .normal [(0, .slice (.mk ⟨id, gen, 0⟩ n c)), (1, .int .i64 (a : Int)), (2, .int .i64 (b : Int)), (3, .int .i64 x3), (4, .func f cps), (10, .bool wb), (11, .bool wp), (12, .int .i64 ((b - a : Nat) : Int)), (13, .int .i64 (pv : Int)), (14, .int .i64 x14)] h2 = some (.ret, [], h') ∧ PermIn a b d d' ∧ SortedIn (ltO ord) a b d' ∧ Srt h h' id gen n d' := by
    intro d2 h2 x3 x14 pv P2 hp1 hp2 hs2
    rw [k_slices_pdqsortCmpFunc_int_2_n]
    cases hcond : (bif (bif wb then wp else false) then (decide (x14 = (1 : Int))) else false) with
    | false =>
      simp only [cond_false, Option.bind_some]
      exact A4 d2 h2 x3 pv P2 hp1 hp2 hs2
    | true =>
      obtain ⟨e, rfl⟩ : ∃ e, dd = e + 1 := ⟨dd - 1, by omega⟩
      have b2 : b ≤ d2.size := by rw [P2.1, hsz]; exact hb
      have B2 : Below (ltO ord) a b d2 := hB.perm (by omega) P2
      obtain ⟨h3, e3, o3, k3⟩ := pis_run (c := c) hc (e := e) (by omega) (by omega) (by omega) (a := a) (b := b) (by omega) hb hs2.1
      obtain ⟨q1, q2⟩ := partialInsertionSort_holds hS d2 a b (by omega) b2 B2
      rw [cond_true, e3]
      simp only [Option.bind_some, bool_bool]
      cases hp : (partialInsertionSort (ltO ord) d2 a b).2 with
      | true =>
        simp only [cond_true, Option.bind_some, k_slices_pdqsortCmpFunc_int_3_r]
        exact ⟨h3, _, rfl, permIn_trans _ _ _ a b P2 q1, q2 hp, o3, hs2.2.trans k3⟩
      | false =>
        simp only [cond_false, Option.bind_some]
        exact A4 _ h3 x3 pv (permIn_trans _ _ _ a b P2 q1) hp1 hp2 ⟨o3, hs2.2.trans k3⟩
  -- behind the patterns
  have A1 : ∀ (d1 : Array Int) (h1 : AHeap) (x3 : Int), PermIn a b d d1 → Srt h h1 id gen n d1 →
      ∃ (h' : AHeap) (d' : Array Int), k_slices_pdqsortCmpFunc_int_1 fuel dd m .normal [(0, .slice (.mk ⟨id, gen, 0⟩ n c)), (1, .int .i64 (a : Int)), (2, .int .i64 (b : Int)), (3, .int .i64 x3), (4, .func f cps), (10, .bool wb), (11, .bool wp), (12, .int .i64 ((b - a : Nat) : Int))] h1 = some (.ret, [], h') ∧ PermIn a b d d' ∧ SortedIn (ltO ord) a b d' ∧ Srt h h' id gen n d' := by
    intro d1 h1 x3 P1 hs1
    obtain ⟨e, rfl⟩ : ∃ e, dd = e + 4 := ⟨dd - 4, by omega⟩
    obtain ⟨h2, y, z, e2, y1, y2, o2, k2⟩ := choose_run (c := c) hc (e := e) (by omega) (by omega) (a := a) (b := b) (by omega) hb hs1.1
    rw [k_slices_pdqsortCmpFunc_int_1_n, e2]
    simp only [Option.bind_some, isTup_tup, List.length_cons, List.length_nil, Nat.beq, cond_true, comp_tup, List.getElem?_cons_zero, List.getElem?_cons_succ, int_int]
    by_cases hz : z = 2
    · obtain ⟨h3, e3, o3, k3⟩ := rev_run (c := c) (fuel := fuel) (f := f) (cps := cps) (e + 3) (by omega) (by omega) (a := a) (b := b) (by omega) hb o2
      have b1 : b ≤ d1.size := by rw [P1.1, hsz]; exact hb
      rw [bif_pos hz, e3, predI (by omega) (by omega), subI y1 (by omega), subI (by omega) (by omega)]
      simp only [Option.bind_some]
      exact A2 _ h3 x3 1 (b - 1 - (y - a)) (permIn_trans _ _ _ a b P1 (reverseRange_holds d1 a b hab b1)) (by omega) (by omega) ⟨o3, hs1.2.trans (k2.trans k3)⟩
    · rw [bif_neg hz]
      simp only [Option.bind_some]
      exact A2 d1 h2 x3 z y P1 y1 y2 ⟨o2, hs1.2.trans k2⟩
  cases wb with
  | true =>
    simp only [Bool.not_true, cond_false, Option.bind_some]
    exact A1 d h x3 (permIn_refl _ _ _) ⟨ho, Keeps.refl _ _⟩
  | false =>
    obtain ⟨e, he⟩ : ∃ e, dd = e + 4 := ⟨dd - 4, by omega⟩
    obtain ⟨h1, d1, e1, p1, s1⟩ := brk_run (c := c) (fuel := fuel) (f := f) (cps := cps) e hn (by omega) hab hb ho
    simp only [Bool.not_false, cond_true]
    rw [← he] at e1
    rw [e1]
    simp only [Option.bind_some]
    exact A1 d1 h1 _ p1 s1

theorem sortFunc_run (hS : SWO (ltO ord)) (hc : CmpOk fuel f cps ord D) (hn : n < 1000000000) (hf : n + 5 < fuel) {e : Nat} (he : D + 40 ≤ e) (ho : Own h 1 id gen n (intsC d.toList)) :
    ∃ (h' : AHeap) (d' : Array Int), run fuel e F_slices_SortFunc_s_int_int [.slice (.mk ⟨id, gen, 0⟩ n c), .func f cps] h = some (.tup [], h') ∧ d'.toList.Perm d.toList ∧ SortedIn (ltO ord) 0 n d' ∧ Srt h h' id gen n d' := by
  have hsz := own_size ho
  have hbl : bitsLen n ≤ 30 := (bitsLen_le_iff n 30).2 (by omega)
  obtain ⟨e, rfl⟩ : ∃ e', e = e' + 3 := ⟨e - 3, by omega⟩
  obtain ⟨h1, d1, e1, p1, s1, t1⟩ := pdq_loop (c := c) hS hc hn hf n 0 n fuel (e + 1) (bitsLen n : Int) true true d h (by omega) (by omega) (by omega) (by omega) (by simp only [Nat.sub_zero]; omega) (.inl rfl) ho
  refine ⟨h1, d1, ?_, ?_, s1, t1⟩
  · rw [e_slices_SortFunc_s_int_int, len_mk, wrap_u64 (by omega) (by omega), len_run fuel e (by omega)]
    simp only [Option.bind_some, int_int]
    rw [e_slices_pdqsortCmpFunc_int, show (0 : Int) = ((0 : Nat) : Int) from rfl, e1]
    simp only [Option.bind_some, k_slices_pdqsortCmpFunc_int_0_r]
  · have := p1.2.2
    have h2 : d1.size = n := by rw [p1.1, hsz]
    have e1 : d1.extract 0 n = d1 := by rw [← h2]; exact Array.extract_size
    have e2 : d.extract 0 n = d := by rw [← hsz]; exact Array.extract_size
    rwa [e1, e2] at this
end
end Go.Proofs.YtnkbhbkfbigbiaaDoor
