/-
  Parts of the proof of DimacsBytes: How many digits a number has. Proofs as text: what is read. proof.Read: what it reads. Numbers and steps as text: dimacs.Line, proof.Bytes, given that single numbers are printed right. Digits written into a row. Numbers as text: AppendInt, Itoa. Parts of slices that grow; what is marked; what was there before an append. Clauses as text: heads, lines; the program's and the reference's. qdimacs: a reader's block. qdimacs: a reader's blocks. qdimacs.Read. Clauses and formulas as text: the program's and the reference's. Clauses' text is read as they were. skolemref.SameInts. Bytes held against themselves. Clauses held against clauses; what the readers tell. skolemlaw4.first. Literals. skolemworld.Number. Literals out of numbers. skolemmake.Clauses, skolemmake.CNF; skolemref1.Of. skolemmake.Clauses, skolemmake.CNF, as values. DimacsBytes.
-/
import Derived.Test.YtdkckkhghghhdaaDoorTDimacsBytes1
import Derived.Sort.AssemblyPlain
import Derived.Test.YtdkckkhghghhdaaDoorBm31
import Derived.Test.YtdkckkhghghhdaaDoorE
namespace Go.Proofs.YtdkckkhghghhdaaDoor
open Go.RowKit Go.Sort

theorem wrapu64 {n : Int} (h0 : 0 ≤ n) (h1 : n < 18446744073709551616) : IntKind.wrap .u64 n = n := by
  simp [IntKind.wrap, IntKind.bits, IntKind.signed]
  omega
theorem wrapu32 {n : Int} (h0 : 0 ≤ n) (h1 : n < 4294967296) : IntKind.wrap .u32 n = n := by
  simp [IntKind.wrap, IntKind.bits, IntKind.signed]
  omega
theorem negu64 {n : Int} (h0 : -9223372036854775808 ≤ n) (h1 : n < 0) : IntKind.wrap .u64 (0 - IntKind.wrap .u64 n) = -n := by
  simp [IntKind.wrap, IntKind.bits, IntKind.signed]
  omega
theorem blen_shift {n k : Nat} (h : 2 ^ k ≤ n) : bitsLen n = bitsLen (n / 2 ^ k) + k := by
  have key : ∀ j, bitsLen n ≤ j ↔ bitsLen (n / 2 ^ k) + k ≤ j := by
    intro j
    rw [bitsLen_le_iff]
    rcases Nat.lt_or_ge j k with hj | hj
    · have : 2 ^ j ≤ 2 ^ k := Nat.pow_le_pow_right (by omega) (by omega)
      constructor
      · intro h1; omega
      · intro h1; omega
    · have e : bitsLen (n / 2 ^ k) + k ≤ j ↔ bitsLen (n / 2 ^ k) ≤ j - k := by omega
      rw [e, bitsLen_le_iff, Nat.div_lt_iff_lt_mul (Nat.two_pow_pos k), ← Nat.pow_add, Nat.sub_add_cancel hj]
  exact Nat.le_antisymm ((key _).2 (Nat.le_refl _)) ((key _).1 (Nat.le_refl _))
theorem blenTab_all : (List.range 256).all (fun i => bstr_633d862b.data.toList[i]? == some (UInt8.ofNat (bitsLen i))) = true := by kernel_rfl
theorem blenTab_at {i : Nat} (h : i < 256) : strAt bstr_633d862b (i : Int) = some (bitsLen i : Int) := by
  have := List.all_eq_true.1 blenTab_all i (List.mem_range.2 h)
  have h2 : bstr_633d862b.data.toList[i]? = some (UInt8.ofNat (bitsLen i)) := by simpa using this
  have h3 : bitsLen i ≤ 8 := (bitsLen_le_iff i 8).2 (by omega)
  unfold strAt
  rw [bif_pos (by omega), Int.toNat_natCast, h2]
  simp
  omega
theorem sumI {a b : Nat} (h : a + b < 9000000000000000000) : IntKind.wrap .i64 ((a : Int) + (b : Int)) = ((a + b : Nat) : Int) := by rw [wrap64 (by omega) (by omega)]; omega
theorem fdivL (a b : Nat) : Int.fdiv (a : Int) (b : Int) = ((a / b : Nat) : Int) := by
  rw [Int.fdiv_eq_ediv_of_nonneg _ (by omega)]
  exact (Int.natCast_ediv a b).symm
theorem blen_2 (fuel d : Nat) {x : Nat} (hx : x < 256) {b : Nat} (hb : b < 1000) (h : AHeap) : k_bits_Len64_2 fuel d .normal [(0, .int .u64 (x : Int)), (2, .int .i64 (b : Int))] h = some (.int .i64 ((bitsLen x + b : Nat) : Int), h) := by
  have h3 : bitsLen x ≤ 8 := (bitsLen_le_iff x 8).2 (by omega)
  have e : IntKind.wrap .u8 (x : Int) = (x : Int) := by rw [wrapU8]; omega
  rw [k_bits_Len64_2_n, e]
  rw [blenTab_at hx, Option.bind_some, wrap64 (n := (bitsLen x : Int)) (by omega) (by omega), sumI (by omega), Nat.add_comm]
theorem blen_1 (fuel d : Nat) {x : Nat} (hx : x < 65536) {b : Nat} (hb : b < 900) (h : AHeap) : k_bits_Len64_1 fuel d .normal [(0, .int .u64 (x : Int)), (2, .int .i64 (b : Int))] h = some (.int .i64 ((bitsLen x + b : Nat) : Int), h) := by
  rw [k_bits_Len64_1_n]
  by_cases h8 : 256 ≤ x
  · have e : Int.fdiv (x : Int) (2 ^ min (Int.toNat (8 : Int)) (IntKind.bits .u64)) = ((x / 2 ^ 8 : Nat) : Int) := fdivL x (2 ^ 8)
    have e2 : IntKind.wrap .i64 ((b : Int) + 8) = ((b + 8 : Nat) : Int) := sumI (b := 8) (by omega)
    rw [bif_pos (by omega), e, e2]
    simp only [Option.bind_some]
    rw [blen_2 fuel d (by omega) (by omega), blen_shift (n := x) (k := 8) (by omega)]
    congr 3; omega
  · rw [bif_neg (by omega)]
    simp only [Option.bind_some]
    exact blen_2 fuel d (by omega) (by omega) h
theorem blen_0 (fuel d : Nat) {x : Nat} (hx : x < 4294967296) {b : Nat} (hb : b < 800) (h : AHeap) : k_bits_Len64_0 fuel d .normal [(0, .int .u64 (x : Int)), (2, .int .i64 (b : Int))] h = some (.int .i64 ((bitsLen x + b : Nat) : Int), h) := by
  rw [k_bits_Len64_0_n]
  by_cases h8 : 65536 ≤ x
  · have e : Int.fdiv (x : Int) (2 ^ min (Int.toNat (16 : Int)) (IntKind.bits .u64)) = ((x / 2 ^ 16 : Nat) : Int) := fdivL x (2 ^ 16)
    have e2 : IntKind.wrap .i64 ((b : Int) + 16) = ((b + 16 : Nat) : Int) := sumI (b := 16) (by omega)
    rw [bif_pos (by omega), e, e2]
    simp only [Option.bind_some]
    rw [blen_1 fuel d (by omega) (by omega), blen_shift (n := x) (k := 16) (by omega)]
    congr 3; omega
  · rw [bif_neg (by omega)]
    simp only [Option.bind_some]
    exact blen_1 fuel d (by omega) (by omega) h
theorem blen_run (fuel d : Nat) {x : Nat} (hx : x < 18446744073709551616) (h : AHeap) : run fuel (d + 1) F_bits_Len64 [.int .u64 (x : Int)] h = some (.int .i64 (bitsLen x : Int), h) := by
  refine pure_of rfl rfl (cc1 rfl) (r := .int .i64 (bitsLen x : Int)) (h' := AHeap.none) ?_ rfl
  rw [e_bits_Len64]
  by_cases h8 : 4294967296 ≤ x
  · have e : Int.fdiv (x : Int) (2 ^ min (Int.toNat (32 : Int)) (IntKind.bits .u64)) = ((x / 2 ^ 32 : Nat) : Int) := fdivL x (2 ^ 32)
    rw [bif_pos (by omega), e]
    simp only [Option.bind_some]
    have := blen_0 fuel d (x := x / 2 ^ 32) (by omega) (b := 32) (by omega) AHeap.none
    rw [← blen_shift (n := x) (k := 32) (by omega)] at this
    exact this
  · rw [bif_neg (by omega)]
    simp only [Option.bind_some]
    have := blen_0 fuel d (x := x) (by omega) (b := 0) (by omega) AHeap.none
    simpa using this

/-- the table's digits -/
def ndT (b : Nat) : Nat := b * 78913 / 2 ^ 18
theorem ndT_all : (List.range 65).all (fun b => decide (b = 0) || (decide (2 ^ b ≤ 10 ^ (ndT b + 1)) && (decide (ndT b = 0) || decide (10 ^ (ndT b - 1) ≤ 2 ^ (b - 1))) && decide (ndT b ≤ 19))) = true := by kernel_rfl
theorem ndT_at {b : Nat} (h0 : 0 < b) (h : b ≤ 64) : 2 ^ b ≤ 10 ^ (ndT b + 1) ∧ (ndT b = 0 ∨ 10 ^ (ndT b - 1) ≤ 2 ^ (b - 1)) ∧ ndT b ≤ 19 := by
  have := List.all_eq_true.1 ndT_all b (List.mem_range.2 (by omega))
  simp only [Bool.or_eq_true, Bool.and_eq_true, decide_eq_true_eq] at this
  rcases this with h1 | ⟨⟨h1, h2⟩, h3⟩
  · omega
  · exact ⟨h1, h2, h3⟩
/-- how many digits -/
def nDig (u : Nat) : Nat := ndT (bitsLen u) + (if 10 ^ ndT (bitsLen u) ≤ u then 1 else 0)
theorem nDig_ok {u : Nat} (h0 : 0 < u) (h : u < 18446744073709551616) : (10 ^ (nDig u - 1) ≤ u ∨ nDig u = 1) ∧ u < 10 ^ nDig u ∧ 0 < nDig u ∧ nDig u ≤ 20 := by
  have hb : bitsLen u ≤ 64 := (bitsLen_le_iff u 64).2 h
  have hb0 : 0 < bitsLen u := by
    rcases Nat.eq_zero_or_pos (bitsLen u) with h1 | h1
    · have := (bitsLen_le_iff u 0).1 (by omega); simp at this; omega
    · exact h1
  have hu : u < 2 ^ bitsLen u := (bitsLen_le_iff u _).1 (Nat.le_refl _)
  have hl : 2 ^ (bitsLen u - 1) ≤ u := by
    rcases Nat.lt_or_ge u (2 ^ (bitsLen u - 1)) with h1 | h1
    · have := (bitsLen_le_iff u (bitsLen u - 1)).2 h1; omega
    · exact h1
  obtain ⟨a1, a2, a3⟩ := ndT_at hb0 hb
  unfold nDig
  by_cases hc : 10 ^ ndT (bitsLen u) ≤ u
  · rw [if_pos hc]
    exact ⟨.inl (by simpa using hc), by omega, by omega, by omega⟩
  · rw [if_neg hc, Nat.add_zero]
    have hne : ndT (bitsLen u) ≠ 0 := fun e => by rw [e] at hc; simp at hc; omega
    exact ⟨.inl (by omega), by omega, by omega, by omega⟩
theorem decN_dig {u : Nat} (h0 : 0 < u) (h : u < 18446744073709551616) : decN u = padD (nDig u) u := by
  obtain ⟨a1, a2, a3, _⟩ := nDig_ok h0 h
  exact decN_pad a1 a2 a3
theorem tab_eq : tab_strconv_uint64pow10 = (List.range 20).map fun i => AVal.int .u64 ((10 ^ i : Nat) : Int) := by kernel_rfl
theorem ndig_run (fuel d : Nat) {u : Nat} (h0 : 0 < u) (hu : u < 18446744073709551616) (h : AHeap) : run fuel (d + 2) F_strconv_numDigits [.int .u64 (u : Int)] h = some (.int .i64 (nDig u : Int), h) := by
  have hb : bitsLen u ≤ 64 := (bitsLen_le_iff u 64).2 hu
  have hb0 : 0 < bitsLen u := by
    rcases Nat.eq_zero_or_pos (bitsLen u) with h1 | h1
    · have := (bitsLen_le_iff u 0).1 (by omega); simp at this; omega
    · exact h1
  obtain ⟨a1, a2, a3⟩ := ndT_at hb0 hb
  refine pure_of rfl rfl (cc1 rfl) (r := .int .i64 (nDig u : Int)) (h' := AHeap.none) ?_ rfl
  have hlog : run fuel (d + 1) F_strconv_log10Pow2 [.int .i64 (bitsLen u : Int)] AHeap.none = some (.int .i64 (ndT (bitsLen u) : Int), AHeap.none) := by
    refine pure_of rfl rfl (cc1 rfl) (r := .int .i64 (ndT (bitsLen u) : Int)) (h' := AHeap.none) ?_ rfl
    have e : Int.fdiv ((bitsLen u * 78913 : Nat) : Int) (2 ^ min (Int.toNat (18 : Int)) (IntKind.bits .i64)) = ((bitsLen u * 78913 / 2 ^ 18 : Nat) : Int) := fdivL _ (2 ^ 18)
    rw [e_strconv_log10Pow2, wrap64 (by omega) (by omega), show (bitsLen u : Int) * 78913 = ((bitsLen u * 78913 : Nat) : Int) by omega, e]
    rfl
  have hbool : ∀ b : Bool, run fuel (d + 1) F_strconv_bool2_int [.bool b] AHeap.none = some (.int .i64 (if b = true then 1 else 0), AHeap.none) := fun b => by
    refine pure_of rfl rfl (cc1 rfl) (r := .int .i64 (if b = true then 1 else 0)) (h' := AHeap.none) ?_ rfl
    rw [e_strconv_bool2_int]
    cases b <;> rfl
  rw [e_strconv_numDigits, blen_run fuel d hu]
  simp only [Option.bind_some, int_int]
  rw [hlog]
  have hc : ((List.range 20).map fun i => AVal.int .u64 ((10 ^ i : Nat) : Int)).drop (ndT (bitsLen u)) = AVal.int .u64 ((10 ^ ndT (bitsLen u) : Nat) : Int) :: ((List.range 20).map fun i => AVal.int .u64 ((10 ^ i : Nat) : Int)).drop (ndT (bitsLen u) + 1) := by
    rw [List.drop_eq_getElem_cons (by simp; omega)]
    simp
  simp only [Option.bind_some, int_int, Pt.elem]
  rw [decide_eq_true (show (0 : Int) ≤ (ndT (bitsLen u) : Int) by omega), decide_eq_true (show (ndT (bitsLen u) : Int) < ((20 : Nat) : Int) by omega), Int.toNat_natCast, Nat.mul_one, tab_eq, hc]
  simp only [Bool.and_self, cond_true, Option.bind_some, cell_fp, int_int]
  rw [hbool]
  simp only [Option.bind_some, int_int]
  unfold nDig
  by_cases hh : 10 ^ ndT (bitsLen u) ≤ u
  · rw [decide_eq_true (show ((10 ^ ndT (bitsLen u) : Nat) : Int) ≤ (u : Int) by omega), if_pos rfl, if_pos hh, wrap64 (by omega) (by omega)]
    rfl
  · rw [decide_eq_false (show ¬ ((10 ^ ndT (bitsLen u) : Nat) : Int) ≤ (u : Int) by omega), if_neg (by simp), if_neg hh, wrap64 (by omega) (by omega)]
    rfl
end Go.Proofs.YtdkckkhghghhdaaDoor

namespace Go.Proofs.YtdkckkhghghhdaaDoor
open Go.RowKit

/-- a step: whether it drops, its literals -/
abbrev Stp := Bool × List Int
def stepC (s : Stp) : List AVal := [.bool s.1, .slice (lstI s.2)]
theorem stepC_len (s : Stp) : (stepC s).length = 2 := rfl
abbrev stepsC (l : List Stp) : List AVal := l.flatMap stepC
abbrev lstS (l : List Stp) : Sl := lstN stepC l
theorem stepsC_len (l : List Stp) : (stepsC l).length = l.length * 2 := flatMap_len stepC_len l
theorem closed_stepC (s : Stp) : closedL (stepC s) = true := by
  show (true && ((AVal.slice (lstI s.2)).closed && true)) = true
  rw [closed_lstI]; rfl
theorem freeze_stepsC {h : AHeap} (n : Nat) (l : List Stp) : (stepsC l).mapM (freezeV h (n + 2)) = some (stepsC l) := mapM_freezeN (fun w => mm2 rfl (freeze_lstI _ _)) l
theorem freeze_lstS {h : AHeap} (n : Nat) (l : List Stp) : freezeV h (n + 1) (.slice (lstS l)) = some (.slice (lstS l)) := freeze_lst _ _ _ (closedL_flatMap closed_stepC l)
theorem canon_lstS (n : Nat) (l : List Stp) : canonV (n + 1) (.slice (lstS l)) = some (.slice (lstS l)) := canon_lst (closedL_flatMap closed_stepC l)

/-- what reading gives: steps, or the place of what is amiss -/
inductive RdS where
  | ok (l : List Stp) : RdS
  | bad (p : Nat) : RdS
/-- a word that is no literal, nor 0 -/
def noLit (t : List UInt8) : Bool := !okNum t || (!decide (numW t = 0) && !isI (numW t) 4000)
def readT (e : Nat) : List Wd → List Stp → Stp → Bool → RdS
  | [], out, _, begun => if begun = true then .bad e else .ok out
  | w :: ws, out, now, begun =>
    if (!begun && w.text == [100]) = true then readT e ws out (true, now.2) true
    else if noLit w.text = true then .bad w.pos
    else if numW w.text = 0 then readT e ws (out ++ [now]) (false, []) false
    else readT e ws out (now.1, now.2 ++ [numW w.text]) true
end Go.Proofs.YtdkckkhghghhdaaDoor

namespace Go.Proofs.YtdkckkhghghhdaaDoor
open Go.RowKit

theorem pat_run (fuel d : Nat) {j : Nat} (hj : j < 7) (p : Int) (h : AHeap) : run fuel (d + 1) F_proof_at [.int .i64 p, errN j] h = some (atV p (errN j), h) := by
  have key : ∃ h', brun fuel (d + 1) F_proof_at [.int .i64 p, errN j] AHeap.none = some (.iface T_p_api_At (.ptr (.mk ⟨AHeap.none.next, 0, 0⟩ 2)), h') ∧ h' = AHeap.none.push 1 [.int .i64 p, errN j] := by
    refine ⟨_, ?_, rfl⟩
    rw [e_proof_at]
    rcases seven hj with rfl | rfl | rfl | rfl | rfl | rfl | rfl <;> rfl
  obtain ⟨h', e, rfl⟩ := key
  refine pure_of rfl rfl (cc2 rfl (errN_canon hj 4)) e ?_
  rcases seven hj with rfl | rfl | rfl | rfl | rfl | rfl | rfl <;> rfl

theorem pat0 (fuel d : Nat) (p : Int) (h : AHeap) : run fuel (d + 1) F_proof_at [.int .i64 p, err_api_ErrText] h = some (atV p err_api_ErrText, h) := pat_run fuel d (j := 0) (by omega) p h

/-- what reading hands back -/
def rdA : RdS → AVal
  | .ok l => .tup [.slice (lstS l), .nilif]
  | .bad p => .tup [.slice (lstS []), atV (p : Int) err_api_ErrText]
theorem stepsC_append (a b : List Stp) : stepsC (a ++ b) = stepsC a ++ stepsC b := List.flatMap_append
theorem d_text (t : List UInt8) : decide (tx t = (⟨#[100]⟩ : ByteArray)) = (t == [100]) := by
  have e : (⟨#[100]⟩ : ByteArray) = tx [100] := rfl
  rw [e]
  by_cases h : t = [100]
  · subst h; simp
  · rw [beq_false_of_ne h, decide_eq_false]
    intro h9
    refine h ?_
    have := congrArg (fun b : ByteArray => b.data.toList) h9
    simpa using this
theorem lit_cond (n : Int) (b : Bool) (fuel d : Nat) (h : AHeap) :
    ((bif ((!b) == false) then (((bif ((!decide (n = (0 : Int))) == true) then ((run fuel (d + 1) F_lits_Is [(.int .i64 n), (.int .i64 (4000 : Int))] h).bind fun r19 => (AVal.bool? r19.1).bind fun b20 => some ((AVal.bool (!b20)), r19.2)) else (some ((.bool false), h)) : Option (AVal × AHeap))).bind fun r21 =>
    (AVal.bool? r21.1).bind fun b22 => some ((AVal.bool b22), r21.2)) else (some ((.bool true), h)) : Option (AVal × AHeap))) = some (.bool (!b || (!decide (n = 0) && !isI n 4000)), h) := by
  rw [Is_run]
  cases b <;> cases decide (n = 0) <;> cases isI n 4000 <;> rfl
theorem fix_step {h0 h : AHeap} {A : Nat} {s out : Sl} {now : Stp} {steps : List Stp} (hs : Sep0 h0 h [.own 1 A 0 2 [.bool now.1, .slice s], .grown 1 s (intsC now.2), .grown 2 out (stepsC steps)]) :
    ∃ h5, h.fixL [.bool now.1, .slice s] = (stepC now, h5) ∧ Sep0 h0 h5 [.own 1 A 0 2 [.bool now.1, .slice s], .grown 1 .nil [], .grown 2 out (stepsC steps)] := by
  have l1 := hs.len (i := 1) rfl
  simp only [List.length_map, Nat.mul_one] at l1
  obtain ⟨h5, f1, f2⟩ := hs.fix (i := 1) (sz := 1) (s := s) (cs := intsC now.2) rfl (closedL_map (fun _ => rfl) now.2) 1
  refine ⟨h5, ?_, f2⟩
  rw [fixL_cons, fixV_bool, fixL_one, f1, ← l1]
  rfl

theorem read_loop (fuel d : Nat) {b : List UInt8} {W : List Wd} {A : Nat} (hf : 20 < fuel) (hW : W.length < 300000) {h0 : AHeap} : ∀ (n k : Nat) (steps : List Stp) (now : Stp) (begun : Bool) (all : Nat) (s out : Sl) (h : AHeap), W.length < n + k → k ≤ W.length → steps.length ≤ k → now.2.length ≤ k → all ≤ k →
    Sep0 h0 h [.own 1 A 0 2 [.bool now.1, .slice s], .grown 1 s (intsC now.2), .grown 2 out (stepsC steps)] →
    ∃ v h', (l_proof_Read_0 fuel (d + 3) n [(0, .slice (lstU b)), (4, .slice out), (5, .ptr (.mk ⟨A, 0, 0⟩ 2)), (6, .bool begun), (7, .int .i64 (all : Int)), (18, .slice (lstW W)), (19, .int .i64 (W.length : Int)), (20, .int .i64 (k : Int))] h).bind (fun p => k_proof_Read_0 fuel (d + 3) p.1 p.2.1 p.2.2) = some (v, h') ∧
      freezeV h' 8 v = some (rdA (readT b.length (W.drop k) steps now begun)) := by
  intro n
  induction n with
  | zero => intro k steps now begun all s out h h1 h2; omega
  | succ n ih =>
    intro k steps now begun all s out h h1 h2 h3 h4 h5 hs
    have l1 := hs.len (i := 1) rfl
    have l2 := hs.len (i := 2) rfl
    rw [stepsC_len] at l2
    simp only [List.length_map, Nat.mul_one] at l1
    rw [l_proof_Read_0_eq]
    by_cases hk : k < W.length
    · rw [bif_pos (by omega), addr_lstN (sz := 3) (f := wdC) wdC_len (l := W) (j := (k : Int)) (by omega) (by omega) ⟨[], 0, false⟩]
      have hd : W.drop k = W.getD k ⟨[], 0, false⟩ :: W.drop (k + 1) := by rw [List.drop_eq_getElem_cons hk]; simp [List.getD, hk]
      rw [hd, Int.toNat_natCast]
      generalize W.getD k ⟨[], 0, false⟩ = w
      obtain ⟨h3', e1, s3, c0, c1, c2⟩ := copyW hs w
      rw [Option.bind_some, cellsAt_fp (wdC_len w), Option.bind_some, cond_pos _ _ (show (!false && Nat.beq (List.length (wdC w)) 3 && List.all (wdC w) AVal.isCell) = true from rfl), e1]
      simp only [Option.bind_some, field_mk, c0, str_str]
      rw [d_text]
      have hc : ((bif ((!begun) == true) then (some ((AVal.bool (w.text == [100])), h3')) else (some ((.bool false), h3')) : Option (AVal × AHeap))) = some (.bool (!begun && w.text == [100]), h3') := by cases begun <;> rfl
      rw [hc]
      simp only [Option.bind_some, bool_bool]
      unfold readT
      cases hq : (!begun && w.text == [100]) with
      | true =>
        simp only [cond_true, if_true]
        obtain ⟨h4', e4, s4⟩ := s3.put (i := 0) (o := 0) (l := 2) (vs := [.bool true]) rfl (by simp) (by simp)
        rw [show (0 + 0 : Nat) = 0 from rfl, e4, Option.bind_some, sucU (by omega)]
        exact ih (k + 1) steps (true, now.2) true all s out h4' (by omega) (by omega) (by omega) (by simp; omega) (by omega) s4
      | false =>
        simp only [cond_false, Bool.false_eq_true, if_false, c0, Option.bind_some, str_str]
        rw [wNum_run fuel d hf]
        simp only [Option.bind_some, isTup_tup, List.length_cons, List.length_nil, Nat.beq, cond_true, comp_tup, List.getElem?_cons_zero, List.getElem?_cons_succ, int_int, bool_bool]
        rw [lit_cond]
        simp only [Option.bind_some, bool_bool]
        rw [show (!okNum w.text || (!decide (numW w.text = 0) && !isI (numW w.text) 4000)) = noLit w.text from rfl]
        cases hn : noLit w.text with
        | true =>
          simp only [cond_true, if_true, c1, Option.bind_some, int_int]
          rw [pat0 fuel (d + 2)]
          simp only [Option.bind_some, k_proof_Read_0_r]
          exact ⟨_, _, rfl, freeze_tup2 _ rfl rfl⟩
        | false =>
          simp only [cond_false, Bool.false_eq_true, if_false]
          by_cases hz : numW w.text = 0
          · rw [bif_pos hz, if_pos hz]
            have hcA : h3'.cellsAt 2 (.mk ⟨A, 0, 0⟩ 2) = some [.bool now.1, .slice s] := (s3.sep.own (i := 0) rfl).parts (by omega) (by simp)
            rw [hcA, Option.bind_some, show ((bif (Nat.beq (List.length [AVal.bool now.1, AVal.slice s]) 2 && Nat.ble (0 + 2) (0 + 1 + 1) && List.all [AVal.bool now.1, AVal.slice s] AVal.isCell) then ((some (AHeap.overlay [(AVal.bool false), (AVal.slice Sl.nil)] 0 [AVal.bool now.1, AVal.slice s]))) else (none))) = some [AVal.bool now.1, AVal.slice s] from rfl, Option.bind_some, show AHeap.sliceCells h3' 2 (Sl.lst 1 true [AVal.bool now.1, AVal.slice s]) = some [AVal.bool now.1, AVal.slice s] from rfl, Option.bind_some]
            obtain ⟨h5', f1, s5⟩ := fix_step s3
            rw [f1]
            obtain ⟨out', h6, g1, s6, g3⟩ := s5.grow (i := 2) (bytes := 32) (m := 1) (vs := stepC now) rfl rfl (by omega) (by omega)
            rw [len_lst, g1, Option.bind_some]
            obtain ⟨h7, e7, s7⟩ := s6.put (i := 0) (sz := 1) (id := A) (gen := 0) (n := 2) (cs := [.bool now.1, .slice s]) (o := 0) (l := 2) (vs := [.bool false, .slice .nil]) rfl (by simp) (by simp)
            rw [e7, Option.bind_some, sucU (by omega)]
            refine ih (k + 1) (steps ++ [now]) (false, []) false all .nil out' h7 (by omega) (by omega) (by simp; omega) (by simp) (by omega) ?_
            rw [stepsC_append, show stepsC [now] = stepC now from by simp]
            exact s7
          · rw [bif_neg hz, if_neg hz, bif_neg (by omega)]
            have cA : h3'.cell (.mk ⟨A, 0, 0 + 1⟩ 2) = some (.slice s) := s3.part (i := 0) rfl (by omega) rfl
            simp only [field_mk, Option.bind_some, cA, slice_slice]
            obtain ⟨s', h5', g1, s5, g3⟩ := s3.grow (i := 1) (bytes := 8) (m := 1) (vs := [.int .i64 (numW w.text)]) rfl rfl (by omega) (by omega)
            rw [g1]
            simp only [Option.bind_some]
            obtain ⟨h6, e6, s6⟩ := s5.put (i := 0) (sz := 1) (id := A) (gen := 0) (n := 2) (cs := [.bool now.1, .slice s]) (o := 0 + 1) (l := 2) (vs := [.slice s']) rfl (by simp) (by simp)
            rw [e6, Option.bind_some, sucU (by omega), sucU (by omega)]
            refine ih (k + 1) steps (now.1, now.2 ++ [numW w.text]) true (all + 1) s' out h6 (by omega) (by omega) (by omega) (by simp; omega) (by omega) ?_
            rw [intsC_app]
            exact s6
    · have : k = W.length := by omega
      subst this
      rw [bif_neg (by omega), List.drop_length, Option.bind_some, k_proof_Read_0_x0]
      unfold readT
      cases begun with
      | true =>
        rw [cond_true, len_lst, pat0 fuel (d + 2)]
        exact ⟨_, _, rfl, freeze_tup2 _ rfl rfl⟩
      | false =>
        refine ⟨_, _, rfl, ?_⟩
        rw [if_neg (by simp)]
        refine freeze_tup2 _ ?_ rfl
        rw [(hs.sep.grown (i := 2) rfl).freeze (n := 6) (by omega) (freeze_stepsC 4 _), show out.len = steps.length by omega]
theorem splitOf_len (b : List UInt8) (c : Bool) : (splitOf b c).length ≤ b.length := by
  have := splitGo_len (b := b) (c := c) (b.length + 1) 0
  unfold splitOf
  omega
def readA (b : List UInt8) : RdS := readT b.length (splitOf b true) [] (false, []) false
theorem read_body (fuel d : Nat) {b : List UInt8} (hf : b.length + 21 ≤ fuel) (hb : b.length < 200000) : ∃ v h', brun fuel (d + 4) F_proof_Read [.slice (lstU b)] AHeap.none = some (v, h') ∧ freezeV h' 8 v = some (rdA (readA b)) := by
  have hl := splitOf_len b true
  have s0 := (((Sep0.start AHeap.none).push 1 2 (cs := [(AVal.bool false), (.slice Sl.nil)]) rfl).addNil 1).addNil 2
  obtain ⟨v, h', e1, e2⟩ := read_loop fuel d (b := b) (W := splitOf b true) (by omega) (by omega) fuel 0 [] (false, []) false 0 .nil .nil (AHeap.none.push 1 [(AVal.bool false), (.slice Sl.nil)]) (by omega) (by omega) (by simp) (by simp) (by omega) s0
  rw [List.drop_zero] at e2
  refine ⟨v, h', ?_, e2⟩
  rw [e_proof_Read, len_lst, bif_neg (by omega), split_run fuel d (by omega) (by omega), Option.bind_some, slice_slice, Option.bind_some, len_lst]
  exact e1
theorem read_run (fuel d : Nat) {b : List UInt8} (hf : b.length + 21 ≤ fuel) (hb : b.length < 200000) (h : AHeap) : run fuel (d + 4) F_proof_Read [.slice (lstU b)] h = some (rdA (readA b), h) := by
  obtain ⟨v, h', e1, e2⟩ := read_body fuel d hf hb
  exact pure_of rfl rfl (cc1 (canon_lstU 7 b)) e1 e2
theorem read_any (fuel d : Nat) {b : List UInt8} (hf : b.length + 21 ≤ fuel) (hb : b.length < 200000) {h : AHeap} {s : Sl} (hs : freezeV h 8 (.slice s) = some (.slice (lstU b))) : ∃ ids, run fuel (d + 4) F_proof_Read [.slice s] h = some (rdA (readA b), h.markRo ids) := by
  obtain ⟨v, h', e1, e2⟩ := read_body fuel d hf hb
  exact run_any rfl rfl (mm1 hs) e1 e2
end Go.Proofs.YtdkckkhghghhdaaDoor

namespace Go.Proofs.YtdkckkhghghhdaaDoor
open Go.RowKit

/-- a literal of bytes is pushed and put behind -/
theorem lit_cells (h : AHeap) (u : List UInt8) {n : Nat} (hn : n = u.length) : AHeap.sliceCells (AHeap.push h 1 (bytesC u)) 1 (Sl.mk ⟨AHeap.next h, 0, 0⟩ n true) = some (bytesC u) := by
  subst hn
  have ho : Own (h.push 1 (bytesC u)) 1 h.rows.length 0 u.length (bytesC u) := Own.push h 1 _ _ (by simp)
  exact ho.cells true
theorem bytesC_app (a b : List UInt8) : bytesC (a ++ b) = bytesC a ++ bytesC b := List.map_append
theorem lit_append {h0 h : AHeap} {s : Sl} {t : List UInt8} (hs : Sep0 h0 h [.grown 1 s (bytesC t)]) (u : List UInt8) {m : Nat} (hm : m = u.length) (ht : t.length + u.length < 1000000000) :
    ∃ s' h', AHeap.append h false 1 1 s m (bytesC u) = some (s', h') ∧ Sep0 h0 h' [.grown 1 s' (bytesC (t ++ u))] := by
  subst hm
  have hl := hs.len (i := 0) rfl
  simp only [List.length_map, Nat.mul_one] at hl
  obtain ⟨s', h', e1, s1, _⟩ := hs.grow (i := 0) (bytes := 1) (m := u.length) (vs := bytesC u) rfl (by simp) (by omega) (by omega)
  rw [← bytesC_app] at s1
  exact ⟨s', h', e1, s1⟩

/-- a number is put behind as its text -/
def AppOk (fuel d : Nat) (x : Int) : Prop := ∀ (h0 h : AHeap) (s : Sl) (t : List UInt8), t.length < 900000000 → Sep0 h0 h [.grown 1 s (bytesC t)] →
  ∃ s' h', run fuel d F_strconv_AppendInt [.slice s, .int .i64 x, .int .i64 10] h = some (.slice s', h') ∧ Sep0 h0 h' [.grown 1 s' (bytesC (t ++ decT x))] ∧ (decT x).length ≤ 20
def numsT (l : List Int) : List UInt8 := l.flatMap fun x => decT x ++ [32]
def lineT (l : List Int) : List UInt8 := numsT l ++ [48, 10]
theorem line_loopP (fuel d : Nat) {l : List Int} (hl : l.length < 1000000) (hok : ∀ x ∈ l, AppOk fuel d x) {h0 : AHeap} : ∀ (n k : Nat) (s : Sl) (t : List UInt8) (h : AHeap), l.length < n + k → k ≤ l.length → t.length + 30 * (l.length - k) < 800000000 → Sep0 h0 h [.grown 1 s (bytesC t)] →
    ∃ s' h', (l_dimacs_Line_0 fuel d n [(0, .slice s), (7, .slice (lstI l)), (8, .int .i64 (l.length : Int)), (9, .int .i64 (k : Int))] h).bind (fun p => k_dimacs_Line_0 fuel d p.1 p.2.1 p.2.2) = some (.slice s', h') ∧ Sep0 h0 h' [.grown 1 s' (bytesC (t ++ lineT (l.drop k)))] := by
  intro n
  induction n with
  | zero => intro k s t h h1 h2; omega
  | succ n ih =>
    intro k s t h h1 h2 ht hs
    rw [l_dimacs_Line_0_eq]
    by_cases hk : k < l.length
    · have hd : l.drop k = l.getD k 0 :: l.drop (k + 1) := by rw [List.drop_eq_getElem_cons hk]; simp [List.getD, hk]
      have hx := hok (l.getD k 0) (by simp [List.getD, hk])
      rw [bif_pos (by omega), addr_lstM _ (by omega) (by omega) 0, hd, Int.toNat_natCast]
      generalize l.getD k 0 = x at hx
      simp only [Option.bind_some, cell_fp, int_int]
      obtain ⟨s1, h1', e1, q1, q2⟩ := hx h0 h s t (by omega) hs
      rw [e1]
      simp only [Option.bind_some, slice_slice]
      rw [show [(AVal.int .u8 (32 : Int))] = bytesC [32] from rfl, lit_cells h1' [32] (n := 1) rfl, Option.bind_some, Sl.len]
      obtain ⟨s2, h2', e2, q3⟩ := lit_append (q1.junk (cs := bytesC [32])) [32] (m := 1) rfl (by simp; omega)
      rw [e2, Option.bind_some, sucU (by omega)]
      obtain ⟨s3, h3', e3, q4⟩ := ih (k + 1) s2 (t ++ decT x ++ [32]) h2' (by omega) (by omega) (by simp; omega) q3
      refine ⟨s3, h3', e3, ?_⟩
      have : t ++ decT x ++ [32] ++ lineT (l.drop (k + 1)) = t ++ lineT (x :: l.drop (k + 1)) := by simp [lineT, numsT]
      rw [← this]
      exact q4
    · have : k = l.length := by omega
      subst this
      rw [bif_neg (by omega), List.drop_length]
      simp only [Option.bind_some, k_dimacs_Line_0_x0]
      rw [show [(AVal.int .u8 (48 : Int)), (AVal.int .u8 (10 : Int))] = bytesC [48, 10] from rfl, lit_cells h [48, 10] (n := 2) rfl, Option.bind_some, Sl.len]
      obtain ⟨s2, h2', e2, q3⟩ := lit_append (hs.junk (cs := bytesC [48, 10])) [48, 10] (m := 2) rfl (by simp; omega)
      rw [e2, Option.bind_some]
      exact ⟨s2, h2', rfl, q3⟩
theorem lineP_run (fuel d : Nat) {l : List Int} (hl : l.length < 1000000) (hf : l.length < fuel) (hok : ∀ x ∈ l, AppOk fuel d x) {h0 h : AHeap} {s : Sl} {t : List UInt8} (ht : t.length + 30 * l.length < 800000000) (hs : Sep0 h0 h [.grown 1 s (bytesC t)]) :
    ∃ s' h', run fuel (d + 1) F_dimacs_Line [.slice s, .slice (lstI l)] h = some (.slice s', h') ∧ Sep0 h0 h' [.grown 1 s' (bytesC (t ++ lineT l))] := by
  obtain ⟨s', h', e1, q1⟩ := line_loopP fuel d hl hok fuel 0 s t h (by omega) (by omega) (by omega) hs
  rw [List.drop_zero] at q1
  refine ⟨s', h', ?_, q1⟩
  rw [e_dimacs_Line, len_lst]
  exact e1

/-! steps -/
def stepT (s : Stp) : List UInt8 := (if s.1 = true then [100, 32] else []) ++ lineT s.2
def stepsT (l : List Stp) : List UInt8 := l.flatMap stepT
theorem copyS {h0 h : AHeap} {L : List Chunk} (hs : Sep0 h0 h L) (s : Stp) : ∃ h3, AHeap.storeAt (AHeap.push h 1 [(.bool false), (.slice Sl.nil)]) (stepC s) (Pt.mk ⟨AHeap.next h, 0, 0⟩ 2) = some h3 ∧ Sep0 h0 h3 (L ++ [.own 1 h.next 0 2 (stepC s)]) := by
  have s1 := hs.push 1 2 (cs := [(AVal.bool false), (.slice Sl.nil)]) rfl
  have hi : (L ++ [Chunk.own 1 h.next 0 2 [(AVal.bool false), (.slice Sl.nil)]])[L.length]? = some (Chunk.own 1 h.next 0 2 [(AVal.bool false), (.slice Sl.nil)]) := by simp
  obtain ⟨h3, e1, s2⟩ := s1.put (o := 0) (l := 2) (vs := stepC s) hi (by simp [stepC]) (by simp [stepC])
  have hset : (L ++ [Chunk.own 1 h.next 0 2 [(AVal.bool false), (.slice Sl.nil)]]).set L.length (Chunk.own 1 h.next 0 2 (stepC s)) = L ++ [Chunk.own 1 h.next 0 2 (stepC s)] := by simp
  exact ⟨h3, e1, by rw [← hset]; exact s2⟩
/-- what a step needs -/
def StpOk (fuel d : Nat) (s : Stp) : Prop := s.2.length < 1000 ∧ s.2.length < fuel ∧ ∀ x ∈ s.2, AppOk fuel d x
theorem numsT_len {fuel d : Nat} {h : AHeap} : ∀ {l : List Int}, (∀ x ∈ l, AppOk fuel d x) → (numsT l).length ≤ 21 * l.length
  | [], _ => by simp [numsT]
  | x :: l, hx => by
    have h1 := numsT_len (h := h) (l := l) fun y hy => hx y (List.mem_cons_of_mem _ hy)
    obtain ⟨_, _, _, _, h2⟩ := hx x (List.mem_cons_self ..) h h .nil [] (by simp) ((Sep0.start h).addNil 1)
    have e : numsT (x :: l) = decT x ++ [32] ++ numsT l := by simp [numsT]
    rw [e, List.length_append, List.length_append, List.length_cons]
    simp
    omega
theorem bytes_loop (fuel d : Nat) {L : List Stp} (hL : L.length < 10000) (hok : ∀ s ∈ L, StpOk fuel d s) {h0 : AHeap} : ∀ (n k : Nat) (o : Sl) (t : List UInt8) (h : AHeap), L.length < n + k → k ≤ L.length → t.length + 40000 * (L.length - k) < 700000000 → Sep0 h0 h [.grown 1 o (bytesC t)] →
    ∃ s' h', (l_proof_Bytes_0 fuel (d + 1) n [(3, .slice o), (6, .slice (lstS L)), (7, .int .i64 (L.length : Int)), (8, .int .i64 (k : Int))] h).bind (fun p => k_proof_Bytes_0 fuel (d + 1) p.1 p.2.1 p.2.2) = some (.slice s', h') ∧ Sep0 h0 h' [.grown 1 s' (bytesC (t ++ stepsT (L.drop k)))] := by
  intro n
  induction n with
  | zero => intro k o t h h1 h2; omega
  | succ n ih =>
    intro k o t h h1 h2 ht hs
    rw [l_proof_Bytes_0_eq]
    by_cases hk : k < L.length
    · have hd : L.drop k = L.getD k (false, []) :: L.drop (k + 1) := by rw [List.drop_eq_getElem_cons hk]; simp [List.getD, hk]
      have hx := hok (L.getD k (false, [])) (by simp [List.getD, hk])
      rw [bif_pos (by omega), addr_lstN (sz := 2) (f := stepC) stepC_len (l := L) (j := (k : Int)) (by omega) (by omega) (false, []), hd, Int.toNat_natCast]
      generalize L.getD k (false, []) = s at hx
      obtain ⟨a1, a2, a3⟩ := hx
      have hnl := numsT_len (h := h) a3
      obtain ⟨h3, e1, s1⟩ := copyS hs s
      rw [Option.bind_some, cellsAt_fp (stepC_len s), Option.bind_some, cond_pos _ _ (show (!false && Nat.beq (List.length (stepC s)) 2 && List.all (stepC s) AVal.isCell) = true from rfl), e1]
      have c0 : h3.cell (.mk ⟨AHeap.next h, 0, 0 + 0⟩ 2) = some (.bool s.1) := s1.part (i := 1) rfl (by omega) rfl
      simp only [Option.bind_some, field_mk, c0, bool_bool]
      -- behind the mark
      have tail : ∀ (o' : Sl) (t' : List UInt8) (h4 : AHeap), t'.length ≤ t.length + 2 → h4.cell (.mk ⟨AHeap.next h, 0, 0 + 1⟩ 2) = some (.slice (lstI s.2)) → Sep0 h0 h4 [.grown 1 o' (bytesC t')] →
          ∃ s' h', (k_proof_Bytes_1 fuel (d + 1) n .normal [(3, .slice o'), (5, .ptr (.mk ⟨AHeap.next h, 0, 0⟩ 2)), (6, .slice (lstS L)), (7, .int .i64 (L.length : Int)), (8, .int .i64 (k : Int))] h4).bind (fun p => k_proof_Bytes_0 fuel (d + 1) p.1 p.2.1 p.2.2) = some (.slice s', h') ∧ Sep0 h0 h' [.grown 1 s' (bytesC (t' ++ lineT s.2 ++ stepsT (L.drop (k + 1))))] := by
        intro o' t' h4 hlt c1 hs4
        rw [k_proof_Bytes_1_n]
        simp only [field_mk, Option.bind_some, c1, slice_slice]
        obtain ⟨o2, h5, e5, s5⟩ := lineP_run fuel d (l := s.2) (by omega) a2 a3 (by omega) hs4
        rw [e5]
        simp only [Option.bind_some, slice_slice]
        rw [sucU (by omega)]
        exact ih (k + 1) o2 (t' ++ lineT s.2) h5 (by omega) (by omega) (by simp [lineT]; omega) s5
      have hst : stepsT (s :: L.drop (k + 1)) = stepT s ++ stepsT (L.drop (k + 1)) := by simp [stepsT]
      rw [hst]
      unfold stepT
      cases hb : s.1 with
      | true =>
        simp only [cond_true, if_true]
        rw [show [(AVal.int .u8 (100 : Int)), (AVal.int .u8 (32 : Int))] = bytesC [100, 32] from rfl, lit_cells h3 [100, 32] (n := 2) rfl, Option.bind_some, Sl.len]
        have hl := s1.len (i := 0) rfl
        simp only [List.length_map, Nat.mul_one] at hl
        obtain ⟨o1, h4, e4, s4, _⟩ := (s1.junk (cs := bytesC [100, 32])).grow (i := 0) (bytes := 1) (m := 2) (vs := bytesC [100, 32]) rfl rfl (by omega) (by omega)
        rw [← bytesC_app] at s4
        rw [e4]
        simp only [Option.bind_some]
        have c1 : h4.cell (.mk ⟨AHeap.next h, 0, 0 + 1⟩ 2) = some (.slice (lstI s.2)) := s4.part (i := 1) rfl (by omega) rfl
        obtain ⟨s', h', q1, q2⟩ := tail o1 (t ++ [100, 32]) h4 (by simp) c1 (Sep0.init (L := [_]) s4)
        refine ⟨s', h', q1, ?_⟩
        have : t ++ [100, 32] ++ lineT s.2 ++ stepsT (L.drop (k + 1)) = t ++ ([100, 32] ++ lineT s.2 ++ stepsT (L.drop (k + 1))) := by simp
        rw [← this]
        exact q2
      | false =>
        simp only [cond_false, Bool.false_eq_true, if_false, Option.bind_some, List.nil_append]
        have c1 : h3.cell (.mk ⟨AHeap.next h, 0, 0 + 1⟩ 2) = some (.slice (lstI s.2)) := s1.part (i := 1) rfl (by omega) rfl
        obtain ⟨s', h', q1, q2⟩ := tail o t h3 (by omega) c1 (Sep0.init (L := [_]) s1)
        refine ⟨s', h', q1, ?_⟩
        rw [← List.append_assoc]
        exact q2
    · have : k = L.length := by omega
      subst this
      rw [bif_neg (by omega), List.drop_length]
      simp only [Option.bind_some, k_proof_Bytes_0_x0]
      refine ⟨o, h, rfl, ?_⟩
      rw [show stepsT [] = [] from rfl, List.append_nil]
      exact hs
theorem bytes_body (fuel d : Nat) {L : List Stp} (hL : L.length < 10000) (hLf : L.length < fuel) (hok : ∀ s ∈ L, StpOk fuel d s) : ∃ v h', brun fuel (d + 2) F_proof_Bytes [.slice (lstS L)] AHeap.none = some (v, h') ∧ freezeV h' 8 v = some (.slice (lstU (stepsT L))) := by
  obtain ⟨s', h', e1, q1⟩ := bytes_loop fuel d hL hok fuel 0 .nil [] AHeap.none (by omega) (by omega) (by simp; omega) ((Sep0.start _).addNil 1)
  rw [List.drop_zero, List.nil_append] at q1
  refine ⟨.slice s', h', ?_, ?_⟩
  · rw [e_proof_Bytes, len_lst]
    exact e1
  · have hl := q1.len (i := 0) rfl
    simp only [List.length_map, Nat.mul_one] at hl
    rw [(q1.sep.grown (i := 0) rfl).freeze (n := 7) (by omega) (freeze_bytesC 6 _), ← hl]
theorem bytes_any (fuel d : Nat) {L : List Stp} (hL : L.length < 10000) (hLf : L.length < fuel) (hok : ∀ s ∈ L, StpOk fuel d s) {h : AHeap} {s : Sl} (hs : freezeV h 8 (.slice s) = some (.slice (lstS L))) : ∃ ids, run fuel (d + 2) F_proof_Bytes [.slice s] h = some (.slice (lstU (stepsT L)), h.markRo ids) := by
  obtain ⟨v, h', e1, e2⟩ := bytes_body fuel d hL hLf hok
  exact run_any rfl rfl (mm1 hs) e1 e2
theorem bytes_run (fuel d : Nat) {L : List Stp} (hL : L.length < 10000) (hLf : L.length < fuel) (hok : ∀ s ∈ L, StpOk fuel d s) (h : AHeap) : run fuel (d + 2) F_proof_Bytes [.slice (lstS L)] h = some (.slice (lstU (stepsT L)), h) := by
  obtain ⟨v, h', e1, e2⟩ := bytes_body fuel d hL hLf hok
  exact pure_of rfl rfl (cc1 (canon_lstS 7 L)) e1 e2
end Go.Proofs.YtdkckkhghghhdaaDoor

namespace Go.Proofs.YtdkckkhghghhdaaDoor
open Go.RowKit

theorem smalls_all : (List.range 100).all (fun v => bstr_db3e2f51.data.toList[v * 2]? == some (digU (v / 10)) && bstr_db3e2f51.data.toList[v * 2 + 1]? == some (digU v)) = true := by kernel_rfl
theorem smalls_at {v : Nat} (h : v < 100) : strAt bstr_db3e2f51 ((v * 2 : Nat) : Int) = some ((digU (v / 10)).toNat : Int) ∧ strAt bstr_db3e2f51 ((v * 2 + 1 : Nat) : Int) = some ((digU v).toNat : Int) := by
  have := List.all_eq_true.1 smalls_all v (List.mem_range.2 h)
  simp only [Bool.and_eq_true, beq_iff_eq] at this
  unfold strAt
  rw [bif_pos (by omega), bif_pos (by omega), Int.toNat_natCast, Int.toNat_natCast, this.1, this.2]
  exact ⟨rfl, rfl⟩
/-- one byte -/
theorem put1 {h0 h : AHeap} {L : List Chunk} {A N : Nat} {f : Nat → UInt8} (hs : Sep0 h0 h (.own 1 A 0 N (rowF N f) :: L)) {off nd : Nat} {c : Bool} (hfit : off + nd ≤ N) {z : Int} {m : Nat} (hz : z = (m : Int)) (hm : m < nd) (x : UInt8) :
    ∃ h', (∀ {β : Type} (K : AHeap → Option β), ((h.addr 1 (.mk ⟨A, 0, off⟩ nd c) z).bind fun p => (h.storeAt [.int .u8 (x.toNat : Int)] p).bind K) = K h') ∧ Sep0 h0 h' (.own 1 A 0 N (rowF N (updF f (off + m) x)) :: L) := by
  subst hz
  have ho : Own h 1 A 0 N (rowF N f) := hs.sep.own (i := 0) rfl
  obtain ⟨⟨row, r1, r2, r3, r4, r5, r6⟩, hl⟩ := ho
  have ha : h.addr 1 (.mk ⟨A, 0, off⟩ nd c) (m : Int) = some (.mk ⟨A, 0, off + m⟩ (off + m + 1)) := by
    simp only [AHeap.addr, r1, r6, beq_eq, decide_true, cond_true, Int.toNat_natCast, Nat.mul_one]
    rw [decide_eq_true (show (0 : Int) ≤ (m : Int) by omega), decide_eq_true (show (m : Int) < (nd : Int) by omega)]
    rfl
  obtain ⟨h', e1, s1⟩ := hs.put (i := 0) (o := off + m) (l := off + m + 1) (vs := [.int .u8 (x.toNat : Int)]) rfl (by simp) (by simp; omega)
  refine ⟨h', fun K => by rw [ha, Option.bind_some, e1, Option.bind_some], ?_⟩
  rw [← rowF_put f (by omega) x]
  exact s1
/-- two of them -/
theorem put2 {h0 h : AHeap} {L : List Chunk} {A N : Nat} {f : Nat → UInt8} {u off n lo : Nat} (hs : Sep0 h0 h (.own 1 A 0 N (rowF N (digF f u off n (lo + 2))) :: L)) {c : Bool} (hfit : off + n ≤ N) (hlo : lo + 2 ≤ n) {v : Nat} (hv : v = u / 10 ^ (n - (lo + 2)) % 100)
    {i1 i2 a1 a2 : Int} (h1 : i1 = ((v * 2 + 1 : Nat) : Int)) (h2 : i2 = ((v * 2 : Nat) : Int)) (h3 : a1 = ((lo + 1 : Nat) : Int)) (h4 : a2 = (lo : Int)) :
    ∃ h', (∀ {β : Type} (K : AHeap → Option β), ((strAt bstr_db3e2f51 i1).bind fun n1 => (strAt bstr_db3e2f51 i2).bind fun n2 => (h.addr 1 (.mk ⟨A, 0, off⟩ n c) a1).bind fun p3 => (h.storeAt [.int .u8 n1] p3).bind fun h4 =>
      (h4.addr 1 (.mk ⟨A, 0, off⟩ n c) a2).bind fun p5 => (h4.storeAt [.int .u8 n2] p5).bind K) = K h') ∧ Sep0 h0 h' (.own 1 A 0 N (rowF N (digF f u off n lo)) :: L) := by
  obtain ⟨q1, q2⟩ := smalls_at (v := v) (by omega)
  obtain ⟨g1, e1, s1⟩ := put1 hs (nd := n) (c := c) hfit h3 (by omega) (digU v)
  obtain ⟨g2, e2, s2⟩ := put1 s1 (nd := n) (c := c) hfit h4 (by omega) (digU (v / 10))
  refine ⟨g2, fun K => ?_, ?_⟩
  · rw [h1, h2, q1, q2, Option.bind_some, Option.bind_some, e1, e2]
  · rw [digF_pair f u off hlo hv] at s2
    exact s2
theorem tmodL (a b : Nat) : Int.tmod (a : Int) (b : Int) = ((a % b : Nat) : Int) := (Int.ofNat_tmod a b).symm
theorem tdivL (a b : Nat) : Int.tdiv (a : Int) (b : Int) = ((a / b : Nat) : Int) := (Int.ofNat_tdiv a b).symm
theorem tmL (a b : Nat) {z : Int} (hz : z = (b : Int)) : Int.tmod (a : Int) z = ((a % b : Nat) : Int) := by subst hz; exact tmodL a b
theorem tdL (a b : Nat) {z : Int} (hz : z = (b : Int)) : Int.tdiv (a : Int) z = ((a / b : Nat) : Int) := by subst hz; exact tdivL a b
theorem u32L {a : Nat} (h : a < 4294967296) : IntKind.wrap .u32 (a : Int) = (a : Int) := wrapu32 (by omega) (by omega)
theorem idx2 {v : Nat} (h : v < 100) : IntKind.wrap .u32 ((v : Int) * 2) = ((v * 2 : Nat) : Int) := by rw [wrapu32 (by omega) (by omega)]; omega
theorem idx1 {v : Nat} (h : v < 100) : IntKind.wrap .u32 (IntKind.wrap .u32 ((v : Int) * 2) + 1) = ((v * 2 + 1 : Nat) : Int) := by rw [idx2 h, wrapu32 (by omega) (by omega)]; omega
/-- the last two digits of the first four, of eight -/
theorem m100 (a : Nat) : IntKind.wrap .u32 (IntKind.wrap .u32 (Int.tmod (Int.tmod (IntKind.wrap .u32 (Int.tmod (a : Int) 100000000)) 10000) 100 * 2) + 1) = ((a % 100 * 2 + 1 : Nat) : Int) ∧ IntKind.wrap .u32 (Int.tmod (Int.tmod (IntKind.wrap .u32 (Int.tmod (a : Int) 100000000)) 10000) 100 * 2) = ((a % 100 * 2 : Nat) : Int) := by
  rw [tmL a 100000000 (z := 100000000) rfl, u32L (by omega), tmL _ 10000 (z := 10000) rfl, tmL _ 100 (z := 100) rfl, show a % 100000000 % 10000 % 100 = a % 100 by omega]
  exact ⟨idx1 (by omega), idx2 (by omega)⟩
theorem m100b (a : Nat) : IntKind.wrap .u32 (IntKind.wrap .u32 (IntKind.wrap .u32 (Int.tdiv (Int.tmod (IntKind.wrap .u32 (Int.tmod (a : Int) 100000000)) 10000) 100) * 2) + 1) = ((a / 100 % 100 * 2 + 1 : Nat) : Int) ∧ IntKind.wrap .u32 (IntKind.wrap .u32 (Int.tdiv (Int.tmod (IntKind.wrap .u32 (Int.tmod (a : Int) 100000000)) 10000) 100) * 2) = ((a / 100 % 100 * 2 : Nat) : Int) := by
  rw [tmL a 100000000 (z := 100000000) rfl, u32L (by omega), tmL _ 10000 (z := 10000) rfl, tdL _ 100 (z := 100) rfl, u32L (by omega), show a % 100000000 % 10000 / 100 = a / 100 % 100 by omega]
  exact ⟨idx1 (by omega), idx2 (by omega)⟩
theorem m100c (a : Nat) : IntKind.wrap .u32 (IntKind.wrap .u32 (Int.tmod (IntKind.wrap .u32 (Int.tdiv (IntKind.wrap .u32 (Int.tmod (a : Int) 100000000)) 10000)) 100 * 2) + 1) = ((a / 10000 % 100 * 2 + 1 : Nat) : Int) ∧ IntKind.wrap .u32 (Int.tmod (IntKind.wrap .u32 (Int.tdiv (IntKind.wrap .u32 (Int.tmod (a : Int) 100000000)) 10000)) 100 * 2) = ((a / 10000 % 100 * 2 : Nat) : Int) := by
  rw [tmL a 100000000 (z := 100000000) rfl, u32L (by omega), tdL _ 10000 (z := 10000) rfl, u32L (by omega), tmL _ 100 (z := 100) rfl, show a % 100000000 / 10000 % 100 = a / 10000 % 100 by omega]
  exact ⟨idx1 (by omega), idx2 (by omega)⟩
theorem m100d (a : Nat) : IntKind.wrap .u32 (IntKind.wrap .u32 (IntKind.wrap .u32 (Int.tdiv (IntKind.wrap .u32 (Int.tdiv (IntKind.wrap .u32 (Int.tmod (a : Int) 100000000)) 10000)) 100) * 2) + 1) = ((a / 1000000 % 100 * 2 + 1 : Nat) : Int) ∧ IntKind.wrap .u32 (IntKind.wrap .u32 (Int.tdiv (IntKind.wrap .u32 (Int.tdiv (IntKind.wrap .u32 (Int.tmod (a : Int) 100000000)) 10000)) 100) * 2) = ((a / 1000000 % 100 * 2 : Nat) : Int) := by
  rw [tmL a 100000000 (z := 100000000) rfl, u32L (by omega), tdL _ 10000 (z := 10000) rfl, u32L (by omega), tdL _ 100 (z := 100) rfl, u32L (by omega), show a % 100000000 / 10000 / 100 = a / 1000000 % 100 by omega]
  exact ⟨idx1 (by omega), idx2 (by omega)⟩
theorem lastD {a : Nat} (h : a < 10) : IntKind.wrap .u8 (IntKind.wrap .u32 (48 + (a : Int))) = ((digU a).toNat : Int) := by
  rw [digU_nat, wrapu32 (by omega) (by omega), wrapU8]; omega
theorem divPow {u e k : Nat} {z : Nat} (hz : z = 10 ^ k) : u / 10 ^ e / z = u / 10 ^ (e + k) := by
  subst hz
  rw [Nat.div_div_eq_div_mul, ← Nat.pow_add]
theorem sub64 {a k : Nat} (h : k ≤ a) (ha : a < 1000) {z : Int} (hz : z = (k : Int)) : IntKind.wrap .i64 ((a : Int) - z) = ((a - k : Nat) : Int) := by
  subst hz
  rw [wrap64 (by omega) (by omega)]; omega
theorem fmt_loop (fuel d : Nat) {A N : Nat} {f : Nat → UInt8} {L : List Chunk} {h0 : AHeap} {u off n : Nat} {c : Bool} (hfit : off + n ≤ N) (hN : N < 1000) (hu : u < 18446744073709551616) (hun : u < 10 ^ n) : ∀ (k lo : Nat) (h : AHeap), lo < k → lo ≤ n → Sep0 h0 h (.own 1 A 0 N (rowF N (digF f u off n lo)) :: L) →
    ∃ h', (l_strconv_formatBase10_0 fuel d k [(0, .slice (.mk ⟨A, 0, off⟩ n c)), (1, .int .u64 ((u / 10 ^ (n - lo) : Nat) : Int)), (4, .int .i64 (lo : Int))] h).bind (fun p => k_strconv_formatBase10_0 fuel d p.1 p.2.1 p.2.2) = some (.tup [], h') ∧ Sep0 h0 h' (.own 1 A 0 N (rowF N (digF f u off n 0)) :: L) := by
  intro k
  induction k with
  | zero => intro lo h h1; omega
  | succ k ih =>
    intro lo h h1 h2 hs
    rw [l_strconv_formatBase10_0_eq]
    by_cases h8 : 8 ≤ lo
    · obtain ⟨lo, rfl⟩ : ∃ j, lo = j + 8 := ⟨lo - 8, by omega⟩
      rw [bif_pos (by omega)]
      generalize ha : u / 10 ^ (n - (lo + 8)) = a
      obtain ⟨g1, e1, s1⟩ := put2 (lo := lo + 6) hs (c := c) hfit (by omega) (v := a % 100) (by rw [← ha]) (m100 a).1 (m100 a).2 (sub64 (z := 1) (a := lo + 8) (k := 1) (by omega) (by omega) rfl) (sub64 (z := 2) (a := lo + 8) (k := 2) (by omega) (by omega) rfl)
      rw [e1]
      obtain ⟨g2, e2, s2⟩ := put2 (lo := lo + 4) s1 (c := c) hfit (by omega) (v := a / 100 % 100) (by rw [← ha, divPow (k := 2) (by rfl)]; congr 3; omega) (m100b a).1 (m100b a).2 (sub64 (z := 3) (a := lo + 8) (k := 3) (by omega) (by omega) rfl) (sub64 (z := 4) (a := lo + 8) (k := 4) (by omega) (by omega) rfl)
      rw [e2]
      obtain ⟨g3, e3, s3⟩ := put2 (lo := lo + 2) s2 (c := c) hfit (by omega) (v := a / 10000 % 100) (by rw [← ha, divPow (k := 4) (by rfl)]; congr 3; omega) (m100c a).1 (m100c a).2 (sub64 (z := 5) (a := lo + 8) (k := 5) (by omega) (by omega) rfl) (sub64 (z := 6) (a := lo + 8) (k := 6) (by omega) (by omega) rfl)
      rw [e3]
      obtain ⟨g4, e4, s4⟩ := put2 (lo := lo) s3 (c := c) hfit (by omega) (v := a / 1000000 % 100) (by rw [← ha, divPow (k := 6) (by rfl)]; congr 3; omega) (m100d a).1 (m100d a).2 (sub64 (z := 7) (a := lo + 8) (k := 7) (by omega) (by omega) rfl) (sub64 (z := 8) (a := lo + 8) (k := 8) (by omega) (by omega) rfl)
      rw [e4]
      have hle : u / 10 ^ (n - lo) ≤ u := Nat.div_le_self _ _
      have ea : IntKind.wrap .u64 (Int.tdiv (a : Int) 100000000) = ((u / 10 ^ (n - lo) : Nat) : Int) := by
        have e9 : a / 100000000 = u / 10 ^ (n - lo) := by rw [← ha, divPow (k := 8) (by rfl)]; congr 2; omega
        rw [tdL a 100000000 (z := 100000000) rfl, e9, wrapu64 (by omega) (by omega)]
      have el : IntKind.wrap .i64 (((lo + 8 : Nat) : Int) - 8) = (lo : Int) := sub64 (z := 8) (a := lo + 8) (k := 8) (by omega) (by omega) rfl
      rw [ea, el]
      exact ih lo g4 (by omega) (by omega) s4
    · rw [bif_neg (by omega)]
      simp only [Option.bind_some, k_strconv_formatBase10_0_x0]
      have hsm : u / 10 ^ (n - lo) < 10 ^ lo := by
        rw [Nat.div_lt_iff_lt_mul (Nat.pow_pos (by omega)), ← Nat.pow_add, show lo + (n - lo) = n by omega]
        exact hun
      have h7 : 10 ^ lo ≤ 10 ^ 7 := Nat.pow_le_pow_right (by omega) (by omega)
      -- the last one
      have last : ∀ (lo : Nat) (h : AHeap), lo < 2 → lo ≤ n → u / 10 ^ (n - lo) < 10 ^ lo → Sep0 h0 h (.own 1 A 0 N (rowF N (digF f u off n lo)) :: L) →
          ∃ h', k_strconv_formatBase10_2 fuel d .normal [(0, .slice (.mk ⟨A, 0, off⟩ n c)), (4, .int .i64 (lo : Int)), (12, .int .u32 ((u / 10 ^ (n - lo) : Nat) : Int))] h = some (.tup [], h') ∧ Sep0 h0 h' (.own 1 A 0 N (rowF N (digF f u off n 0)) :: L) := by
        intro lo h q1 q2 q3 hs
        rw [k_strconv_formatBase10_2_n]
        by_cases hl : lo = 0
        · subst hl
          rw [bif_neg (by omega)]
          exact ⟨h, rfl, hs⟩
        · have : lo = 1 := by omega
          subst this
          rw [bif_pos (by omega)]
          rw [Nat.pow_one] at q3
          have hw := lastD q3
          rw [hw]
          obtain ⟨g1, e1, s1⟩ := put1 hs (nd := n) (c := c) hfit (z := 0) (m := 0) rfl (by omega) (digU (u / 10 ^ (n - 1)))
          rw [e1]
          rw [Nat.add_zero, digF_one f u off (by omega) rfl] at s1
          exact ⟨g1, rfl, s1⟩
      have two : ∀ (lo : Nat) (h : AHeap), lo < 4 → lo ≤ n → u / 10 ^ (n - lo) < 10 ^ lo → Sep0 h0 h (.own 1 A 0 N (rowF N (digF f u off n lo)) :: L) →
          ∃ h', k_strconv_formatBase10_1 fuel d .normal [(0, .slice (.mk ⟨A, 0, off⟩ n c)), (4, .int .i64 (lo : Int)), (12, .int .u32 ((u / 10 ^ (n - lo) : Nat) : Int))] h = some (.tup [], h') ∧ Sep0 h0 h' (.own 1 A 0 N (rowF N (digF f u off n 0)) :: L) := by
        intro lo h q1 q2 q3 hs
        rw [k_strconv_formatBase10_1_n]
        by_cases hl : 2 ≤ lo
        · obtain ⟨lo, rfl⟩ : ∃ j, lo = j + 2 := ⟨lo - 2, by omega⟩
          have h3 : 10 ^ (lo + 2) ≤ 10 ^ 3 := Nat.pow_le_pow_right (by omega) (by omega)
          rw [bif_pos (by omega)]
          generalize ha : u / 10 ^ (n - (lo + 2)) = a at q3
          have i0 : Int.tmod (a : Int) 100 = ((a % 100 : Nat) : Int) := tmL a 100 (z := 100) rfl
          rw [i0]
          obtain ⟨g1, e1, s1⟩ := put2 (lo := lo) hs (c := c) hfit (by omega) (v := a % 100) (by rw [← ha]) (idx1 (by omega)) (idx2 (by omega)) (sub64 (z := 1) (a := lo + 2) (k := 1) (by omega) (by omega) rfl) (sub64 (z := 2) (a := lo + 2) (k := 2) (by omega) (by omega) rfl)
          rw [e1]
          have ea : a / 100 = u / 10 ^ (n - lo) := by rw [← ha, divPow (k := 2) (by rfl)]; congr 2; omega
          have el : IntKind.wrap .i64 (((lo + 2 : Nat) : Int) - 2) = (lo : Int) := sub64 (z := 2) (a := lo + 2) (k := 2) (by omega) (by omega) rfl
          simp only [Option.bind_some]
          rw [tdL a 100 (z := 100) rfl, u32L (by omega), ea, el]
          refine last lo g1 (by omega) (by omega) ?_ s1
          rw [← ea]
          rw [Nat.pow_add] at q3
          omega
        · rw [bif_neg (by omega)]
          simp only [Option.bind_some]
          exact last lo h (by omega) q2 q3 hs
      by_cases hl : 4 ≤ lo
      · obtain ⟨lo, rfl⟩ : ∃ j, lo = j + 4 := ⟨lo - 4, by omega⟩
        rw [bif_pos (by omega)]
        generalize ha : u / 10 ^ (n - (lo + 4)) = a at hsm
        have i0 : IntKind.wrap .u32 (a : Int) = (a : Int) := u32L (by omega)
        have i1 : Int.tmod (Int.tmod (a : Int) 10000) 100 = ((a % 100 : Nat) : Int) := by rw [tmL a 10000 (z := 10000) rfl, tmL _ 100 (z := 100) rfl]; congr 1; omega
        have i2 : IntKind.wrap .u32 (Int.tdiv (Int.tmod (a : Int) 10000) 100) = ((a / 100 % 100 : Nat) : Int) := by rw [tmL a 10000 (z := 10000) rfl, tdL _ 100 (z := 100) rfl, u32L (by omega)]; congr 1; omega
        rw [i0, i1, i2]
        obtain ⟨g1, e1, s1⟩ := put2 (lo := lo + 2) hs (c := c) hfit (by omega) (v := a % 100) (by rw [← ha]) (idx1 (by omega)) (idx2 (by omega)) (sub64 (z := 1) (a := lo + 4) (k := 1) (by omega) (by omega) rfl) (sub64 (z := 2) (a := lo + 4) (k := 2) (by omega) (by omega) rfl)
        rw [e1]
        obtain ⟨g2, e2, s2⟩ := put2 (lo := lo) s1 (c := c) hfit (by omega) (v := a / 100 % 100) (by rw [← ha, divPow (k := 2) (by rfl)]; congr 3; omega) (idx1 (by omega)) (idx2 (by omega)) (sub64 (z := 3) (a := lo + 4) (k := 3) (by omega) (by omega) rfl) (sub64 (z := 4) (a := lo + 4) (k := 4) (by omega) (by omega) rfl)
        rw [e2]
        have ea : a / 10000 = u / 10 ^ (n - lo) := by rw [← ha, divPow (k := 4) (by rfl)]; congr 2; omega
        have el : IntKind.wrap .i64 (((lo + 4 : Nat) : Int) - 4) = (lo : Int) := sub64 (z := 4) (a := lo + 4) (k := 4) (by omega) (by omega) rfl
        simp only [Option.bind_some]
        rw [tdL a 10000 (z := 10000) rfl, u32L (by omega), ea, el]
        refine two lo g2 (by omega) (by omega) ?_ s2
        rw [← ea]
        rw [Nat.pow_add] at hsm
        omega
      · rw [bif_neg (by omega)]
        simp only [Option.bind_some]
        have h3 : 10 ^ lo ≤ 10 ^ 3 := Nat.pow_le_pow_right (by omega) (by omega)
        rw [u32L (by omega)]
        exact two lo h (by omega) h2 hsm hs
theorem fmt_run (fuel d : Nat) {A N : Nat} {f : Nat → UInt8} {L : List Chunk} {h0 h : AHeap} {u off n : Nat} {c : Bool} (hfit : off + n ≤ N) (hN : N < 1000) (hf : n < fuel) (hu : u < 18446744073709551616) (hun : u < 10 ^ n) (hs : Sep0 h0 h (.own 1 A 0 N (rowF N f) :: L)) :
    ∃ h', run fuel (d + 1) F_strconv_formatBase10 [.slice (.mk ⟨A, 0, off⟩ n c), .int .u64 (u : Int)] h = some (.tup [], h') ∧ Sep0 h0 h' (.own 1 A 0 N (rowF N (digF f u off n 0)) :: L) := by
  rw [e_strconv_formatBase10, len_mk]
  have := fmt_loop fuel d (A := A) (N := N) (f := f) (L := L) (h0 := h0) (c := c) hfit hN hu hun fuel n h hf (Nat.le_refl _) (by rw [digF_start]; exact hs)
  rw [Nat.sub_self, Nat.pow_zero, Nat.div_one] at this
  exact this
end Go.Proofs.YtdkckkhghghhdaaDoor

namespace Go.Proofs.YtdkckkhghghhdaaDoor
open Go.RowKit

theorem sm_all : (List.range 100).all (fun x => if x < 10 then (bstr_e9b1713d.data.toList.drop x).take 1 == decN x else (bstr_db3e2f51.data.toList.drop (x * 2)).take 2 == decN x) = true := by kernel_rfl
theorem sm_size : ByteArray.size bstr_e9b1713d = 36 ∧ 200 ≤ ByteArray.size bstr_db3e2f51 := by
  refine ⟨by kernel_rfl, ?_⟩
  have : Nat.ble 200 (ByteArray.size bstr_db3e2f51) = true := by kernel_rfl
  generalize ByteArray.size bstr_db3e2f51 = z at this ⊢
  exact nble.1 this
theorem ex_tx (b : ByteArray) (i j : Nat) : b.extract i j = tx ((b.data.toList.drop i).take (j - i)) := by
  apply ByteArray.ext
  rw [ByteArray.data_extract]
  apply Array.ext'
  simp
theorem small_run (fuel d : Nat) {x : Nat} (hx : x < 100) (h : AHeap) : run fuel (d + 1) F_strconv_small [.int .i64 (x : Int)] h = some (.str (tx (decN x)), h) := by
  have ha := List.all_eq_true.1 sm_all x (List.mem_range.2 hx)
  obtain ⟨z1, z2⟩ := sm_size
  refine pure_of rfl rfl (cc1 rfl) (r := .str (tx (decN x))) (h' := AHeap.none) ?_ rfl
  rw [e_strconv_small]
  by_cases h10 : x < 10
  · rw [if_pos h10] at ha
    rw [bif_pos (by omega), sucU (by omega), aHi_some (by omega) (by omega), Option.bind_some, aLo_some (by omega) (by omega), Option.bind_some, ex_tx]
    rw [Int.toNat_natCast, Int.toNat_natCast, Nat.add_sub_cancel_left, eq_of_beq ha]
  · rw [if_neg h10] at ha
    have e1 : IntKind.wrap .i64 ((x : Int) * 2) = ((x * 2 : Nat) : Int) := by rw [wrap64 (by omega) (by omega)]; omega
    have e2 : IntKind.wrap .i64 (((x * 2 : Nat) : Int) + 2) = ((x * 2 + 2 : Nat) : Int) := by rw [wrap64 (by omega) (by omega)]; omega
    rw [bif_neg (by omega), e1, e2, aHi_some (by omega) (by omega), Option.bind_some, aLo_some (by omega) (by omega), Option.bind_some, ex_tx]
    rw [Int.toNat_natCast, Int.toNat_natCast, Nat.add_sub_cancel_left, eq_of_beq ha]

abbrev zero24 : List AVal := rowF 24 fun _ => 0
theorem zero24_is : [(AVal.int .u8 (0 : Int)), (.int .u8 (0 : Int)), (.int .u8 (0 : Int)), (.int .u8 (0 : Int)), (.int .u8 (0 : Int)), (.int .u8 (0 : Int)), (.int .u8 (0 : Int)), (.int .u8 (0 : Int)), (.int .u8 (0 : Int)), (.int .u8 (0 : Int)), (.int .u8 (0 : Int)), (.int .u8 (0 : Int)), (.int .u8 (0 : Int)), (.int .u8 (0 : Int)), (.int .u8 (0 : Int)), (.int .u8 (0 : Int)), (.int .u8 (0 : Int)), (.int .u8 (0 : Int)), (.int .u8 (0 : Int)), (.int .u8 (0 : Int)), (.int .u8 (0 : Int)), (.int .u8 (0 : Int)), (.int .u8 (0 : Int)), (.int .u8 (0 : Int))] = zero24 := rfl
theorem hasSz24 {h0 h : AHeap} {A : Nat} {f : Nat → UInt8} {L : List Chunk} (hs : Sep0 h0 h (.own 1 A 0 24 (rowF 24 f) :: L)) : (AHeap.hasSz h 1 (Sl.mk ⟨A, 0, 0⟩ 24 false)) = true := by
  obtain ⟨⟨row, r1, r2, r3, r4, r5, r6⟩, hl⟩ := (hs.sep.own (i := 0) rfl)
  simp [AHeap.hasSz, r1, r6]
/-- a part of such a row, read -/
theorem part24 {h0 h : AHeap} {A : Nat} {f : Nat → UInt8} {L : List Chunk} (hs : Sep0 h0 h (.own 1 A 0 24 (rowF 24 f) :: L)) {o n : Nat} (hn : 0 < n) (h2 : o + n ≤ 24) (c : Bool) : h.sliceCells 1 (.mk ⟨A, 0, o⟩ n c) = some (bytesC ((List.range n).map fun i => f (o + i))) := by
  obtain ⟨⟨row, r1, r2, r3, r4, r5, r6⟩, hl⟩ := (hs.sep.own (i := 0) rfl)
  rw [← rowF_part f h2, ← r2]
  have := sliceCells_of (h := h) (r := ⟨A, 0, o⟩) (n := n) (c := c) r1 r6 r4 (Nat.zero_le _) (by rw [r2]; simp; omega)
  rw [this, Nat.mul_one]
theorem padD_len (n u : Nat) : (padD n u).length = n := by simp [padD]
theorem appU_run (fuel d : Nat) (hf : 30 < fuel) {u : Nat} (hu : u < 18446744073709551616) {h0 h : AHeap} {s : Sl} {t : List UInt8} (ht : t.length < 900000100) (hs : Sep0 h0 h [.grown 1 s (bytesC t)]) :
    ∃ s' h', run fuel (d + 3) F_strconv_AppendUint [.slice s, .int .u64 (u : Int), .int .i64 10] h = some (.slice s', h') ∧ Sep0 h0 h' [.grown 1 s' (bytesC (t ++ decN u))] ∧ (decN u).length ≤ 20 ∧ 1 ≤ (decN u).length := by
  rw [e_strconv_AppendUint, bif_pos rfl]
  by_cases hs1 : u < 100
  · have hl : (decN u).length ≤ 2 ∧ 1 ≤ (decN u).length := by
      have : (List.range 100).all (fun x => decide ((decN x).length ≤ 2) && decide (1 ≤ (decN x).length)) = true := by kernel_rfl
      have := List.all_eq_true.1 this u (List.mem_range.2 hs1)
      simpa using this
    obtain ⟨s', h', e1, s2⟩ := lit_append hs (decN u) (m := (decN u).length) rfl (by omega)
    rw [bif_pos (by omega), wrap64 (by omega) (by omega), small_run fuel (d + 1) hs1]
    simp only [Option.bind_some, str_str]
    rw [tx_size, bytesOf_tx, e1]
    exact ⟨s', h', rfl, s2, by omega, by omega⟩
  · obtain ⟨a1, a2, a3, a4⟩ := nDig_ok (u := u) (by omega) hu
    have hd := decN_dig (u := u) (by omega) hu
    rw [bif_neg (by omega), zero24_is, ndig_run fuel d (by omega) hu]
    have s0 : Sep0 h0 (h.push 1 zero24) (.own 1 h.next 0 24 zero24 :: [.grown 1 s (bytesC t)]) := (hs.push 1 24 (by simp)).cons
    simp only [Option.bind_some, int_int, aLo_none, aMx_none]
    rw [aHi_some (by omega) (by omega), Option.bind_some, hasSz24 s0]
    simp only [Bool.and_self, cond_true, Nat.zero_mul, Nat.add_zero, Nat.sub_zero, Int.toNat_natCast]
    obtain ⟨h5, e5, s5⟩ := fmt_run fuel (d + 1) (N := 24) (off := 0) (c := false) (n := nDig u) (f := fun _ => 0) (by omega) (by omega) (by omega) hu a2 s0
    rw [show Nat.ble (0 + 24 * 1) 24 = true from rfl]
    simp only [Bool.and_self, cond_true]
    rw [e5, Option.bind_some, hasSz24 s5]
    simp only [Option.bind_some, Bool.and_self, cond_true, Sl.len]
    rw [part24 s5 a3 (by omega) false, digF_all, ← hd, Option.bind_some]
    have hlen : nDig u = (decN u).length := by rw [hd, padD_len]
    have hl := s5.len (i := 1) rfl
    simp only [List.length_map, Nat.mul_one] at hl
    obtain ⟨s', h', e1, s2, _⟩ := s5.grow (i := 1) (bytes := 1) (m := nDig u) (vs := bytesC (decN u)) rfl (by simp [hlen]) (by omega) (by omega)
    rw [e1]
    refine ⟨s', h', rfl, ?_, by omega, by omega⟩
    rw [bytesC_app]
    exact s2.sub ((List.Sublist.refl _).cons _)
theorem app_ok (fuel d : Nat) (hf : 30 < fuel) {x : Int} (h0 : -9223372036854775808 ≤ x) (h1 : x ≤ 9223372036854775807) : AppOk fuel (d + 5) x := by
  intro g0 h s t ht hs
  rw [e_strconv_AppendInt, e_internal_strconv_AppendInt]
  by_cases hn : x < 0
  · obtain ⟨u, hu⟩ : ∃ u : Nat, -x = (u : Int) := ⟨(-x).toNat, by omega⟩
    rw [bif_pos hn, show [(AVal.int .u8 (45 : Int))] = bytesC [45] from rfl, lit_cells h [45] (n := 1) rfl, Option.bind_some, Sl.len]
    obtain ⟨s2, h2, e2, q2⟩ := lit_append (hs.junk (cs := bytesC [45])) [45] (m := 1) rfl (by simp; omega)
    rw [e2]
    simp only [Option.bind_some]
    rw [k_internal_strconv_AppendInt_0_n, negu64 h0 hn, hu]
    obtain ⟨s3, h3, e3, q3, q4, _⟩ := appU_run fuel d hf (u := u) (by omega) (t := t ++ [45]) (by simp; omega) q2
    rw [e3]
    simp only [Option.bind_some, slice_slice]
    have hd : decT x = 45 :: decN u := by unfold decT; rw [if_pos hn, hu, Int.toNat_natCast]
    refine ⟨s3, h3, rfl, ?_, ?_⟩
    · rw [hd]
      simpa using q3
    · rw [hd]
      have : u ≤ 9223372036854775808 := by omega
      rcases Nat.eq_zero_or_pos u with h9 | h9
      · omega
      · obtain ⟨b1, b2, b3, b4⟩ := nDig_ok (u := u) h9 (by omega)
        have hdd := decN_dig (u := u) h9 (by omega)
        rw [List.length_cons, hdd, padD_len]
        have : nDig u ≤ 19 := by
          rcases b1 with b1 | b1
          · rcases Nat.lt_or_ge 19 (nDig u) with h8 | h8
            · have e20 : nDig u = 20 := by omega
              rw [e20] at b1
              omega
            · exact h8
          · omega
        omega
  · obtain ⟨u, rfl⟩ : ∃ u : Nat, x = (u : Int) := ⟨x.toNat, by omega⟩
    rw [bif_neg hn]
    simp only [Option.bind_some]
    rw [k_internal_strconv_AppendInt_0_n, wrapu64 (by omega) (by omega)]
    obtain ⟨s3, h3, e3, q3, q4, _⟩ := appU_run fuel d hf (u := u) (by omega) (t := t) (by omega) hs
    rw [e3]
    simp only [Option.bind_some, slice_slice]
    have hd : decT (u : Int) = decN u := by unfold decT; rw [if_neg hn, Int.toNat_natCast]
    rw [hd]
    exact ⟨s3, h3, rfl, q3, q4⟩

/-! Itoa -/
theorem fmtInt_run (fuel d : Nat) (hf : 30 < fuel) {x : Int} (g0 : -9223372036854775808 ≤ x) (g1 : x ≤ 9223372036854775807) (h : AHeap) : run fuel (d + 3) F_strconv_FormatInt [.int .i64 x, .int .i64 10] h = some (.str (tx (decT x)), h) := by
  have key : ∃ h', brun fuel (d + 3) F_strconv_FormatInt [.int .i64 x, .int .i64 10] AHeap.none = some (.str (tx (decT x)), h') := by
    rw [e_strconv_FormatInt, bif_pos rfl]
    by_cases hs1 : 0 ≤ x ∧ x < 100
    · obtain ⟨u, rfl⟩ : ∃ u : Nat, x = (u : Int) := ⟨x.toNat, by omega⟩
      have hc : (bif (decide ((0 : Int) ≤ (u : Int))) then (decide ((u : Int) < (100 : Int))) else false) = true := by rw [decide_eq_true hs1.1, decide_eq_true hs1.2]; rfl
      have hd : decT (u : Int) = decN u := by unfold decT; rw [if_neg (by omega), Int.toNat_natCast]
      rw [hc, cond_true, small_run fuel (d + 1) (by omega), hd]
      exact ⟨_, rfl⟩
    · have hc : (bif (decide ((0 : Int) ≤ x)) then (decide (x < (100 : Int))) else false) = false := by
        by_cases h1 : 0 ≤ x
        · rw [decide_eq_true h1, cond_true]; exact decide_eq_false fun h2 => hs1 ⟨h1, h2⟩
        · rw [decide_eq_false h1]; rfl
      rw [hc, cond_false, zero24_is]
      have s0 : Sep0 AHeap.none (AHeap.none.push 1 zero24) [.own 1 AHeap.none.next 0 24 zero24] := (Sep0.start AHeap.none).push 1 24 (by simp)
      generalize AHeap.none.push 1 zero24 = H at s0
      have tail : ∀ u : Nat, 0 < u → u < 18446744073709551616 → (x < 0 → u ≤ 9223372036854775808) → (decT x = (if x < 0 then [45] else []) ++ decN u) → ∃ h', k_strconv_FormatInt_0 fuel (d + 2) .normal [(0, .int .i64 x), (5, .ptr (.mk ⟨AHeap.none.next, 0, 0⟩ 24)), (6, .int .u64 (u : Int))] H = some (.str (tx (decT x)), h') := by
        intro u u0 u1 u2 hdx
        obtain ⟨a1, a2, a3, a4⟩ := nDig_ok u0 u1
        have hd := decN_dig u0 u1
        have e1 : IntKind.wrap .i64 (1 + (nDig u : Int)) = ((1 + nDig u : Nat) : Int) := by rw [wrap64 (by omega) (by omega)]; omega
        rw [k_strconv_FormatInt_0_n, ndig_run fuel d u0 u1]
        simp only [Option.bind_some, int_int, Pt.mk?, aMx_none, aLo_none]
        rw [e1, aHi_some (by omega) (by omega), Option.bind_some, aLo_some (by omega) (by omega), Option.bind_some, hasSz24 s0]
        simp only [show Nat.ble (0 + 24 * 1) 24 = true from rfl, Bool.and_self, cond_true, Int.toNat_natCast]
        rw [show (1 : Int).toNat = 1 from rfl, Nat.mul_one, Nat.zero_add, Nat.add_sub_cancel_left]
        obtain ⟨h5, e5, s5⟩ := fmt_run fuel (d + 1) (N := 24) (off := 1) (c := false) (n := nDig u) (f := fun _ => 0) (by omega) (by omega) (by omega) u1 a2 s0
        rw [e5]
        simp only [Option.bind_some]
        by_cases hn : x < 0
        · have hlen : nDig u ≤ 19 := by
            rcases a1 with b1 | b1
            · rcases Nat.lt_or_ge 19 (nDig u) with h8 | h8
              · have e20 : nDig u = 20 := by omega
                have := u2 hn
                rw [e20] at b1
                omega
              · exact h8
            · omega
          obtain ⟨h6, e6, s6⟩ := s5.put (i := 0) (o := 0) (l := 1) (vs := [.int .u8 (45 : Int)]) rfl (by simp) (by simp)
          have hel : Pt.elem 1 24 (0 : Int) (Pt.mk ⟨AHeap.none.next, 0, 0⟩ 24) = some (.mk ⟨AHeap.none.next, 0, 0⟩ 24) := rfl
          have e6' : h5.storeAt [.int .u8 (45 : Int)] (.mk ⟨AHeap.none.next, 0, 0⟩ 24) = some h6 := by
            simp only [AHeap.storeAt] at e6 ⊢
            exact e6
          have hz : (rowF 24 (digF (fun _ => 0) u 1 (nDig u) 0)).take 0 ++ [.int .u8 (45 : Int)] ++ (rowF 24 (digF (fun _ => 0) u 1 (nDig u) 0)).drop (0 + [AVal.int .u8 (45 : Int)].length) = rowF 24 (updF (digF (fun _ => 0) u 1 (nDig u) 0) 0 45) := rowF_put _ (by omega) 45
          rw [hz] at s6
          rw [bif_pos hn, hel, Option.bind_some, e6', Option.bind_some, hasSz24 s6]
          simp only [Option.bind_some, Bool.and_self, cond_true, Nat.zero_mul, Nat.add_zero, Nat.sub_zero]
          rw [part24 s6 (by omega) (by omega) false, Option.bind_some, bytesFrom_bytesC, Option.bind_some]
          have hp : ((List.range (1 + nDig u)).map fun i => updF (digF (fun _ => 0) u 1 (nDig u) 0) 0 45 (0 + i)) = decT x := by
            rw [hdx, if_pos hn, hd, Nat.add_comm, List.range_succ_eq_map, List.map_cons, List.map_map]
            have : (List.range (nDig u)).map ((fun i => updF (digF (fun _ => 0) u 1 (nDig u) 0) 0 45 (0 + i)) ∘ Nat.succ) = padD (nDig u) u := by
              rw [← digF_all (fun _ => 0) u 1 (nDig u)]
              refine List.map_congr_left fun i _ => ?_
              simp only [Function.comp, updF]
              rw [if_neg (by omega)]
              congr 1; omega
            rw [this]
            rfl
          rw [hp]
          exact ⟨h6, rfl⟩
        · rw [bif_neg hn, hasSz24 s5]
          simp only [Option.bind_some, Bool.and_self, cond_true]
          rw [aLo_some (by omega) (by omega), Option.bind_some, show (1 : Int).toNat = 1 from rfl, Nat.mul_one, Nat.zero_add, Nat.add_sub_cancel_left]
          rw [part24 s5 (by omega) (by omega) false, Option.bind_some, bytesFrom_bytesC, Option.bind_some, digF_all, ← hd]
          rw [hdx, if_neg hn, List.nil_append]
          exact ⟨h5, rfl⟩
      by_cases hn : x < 0
      · obtain ⟨u, hu⟩ : ∃ u : Nat, -x = (u : Int) := ⟨(-x).toNat, by omega⟩
        rw [bif_pos hn, negu64 g0 hn, hu]
        simp only [Option.bind_some]
        refine tail u (by omega) (by omega) (by omega) ?_
        unfold decT
        rw [if_pos hn, if_pos hn, hu, Int.toNat_natCast]; rfl
      · obtain ⟨u, rfl⟩ : ∃ u : Nat, x = (u : Int) := ⟨x.toNat, by omega⟩
        rw [bif_neg hn, wrapu64 (by omega) (by omega)]
        simp only [Option.bind_some]
        refine tail u (by omega) (by omega) (by omega) ?_
        unfold decT
        rw [if_neg hn, if_neg hn, Int.toNat_natCast]; rfl
  obtain ⟨h', e⟩ := key
  exact pure_of rfl rfl (cc2 rfl rfl) e rfl
theorem itoa_run (fuel d : Nat) (hf : 30 < fuel) {x : Int} (g0 : -9223372036854775808 ≤ x) (g1 : x ≤ 9223372036854775807) (h : AHeap) : run fuel (d + 5) F_strconv_Itoa [.int .i64 x] h = some (.str (tx (decT x)), h) := by
  refine pure_of rfl rfl (cc1 rfl) (r := .str (tx (decT x))) (h' := AHeap.none) ?_ rfl
  rw [e_strconv_Itoa]
  have : run fuel (d + 4) F_internal_strconv_Itoa [.int .i64 x] AHeap.none = some (.str (tx (decT x)), AHeap.none) := by
    refine pure_of rfl rfl (cc1 rfl) (r := .str (tx (decT x))) (h' := AHeap.none) ?_ rfl
    rw [e_internal_strconv_Itoa, fmtInt_run fuel d hf g0 g1]
    simp only [Option.bind_some, str_str]
  rw [this]
  simp only [Option.bind_some, str_str]
end Go.Proofs.YtdkckkhghghhdaaDoor

namespace Go.Proofs.YtdkckkhghghhdaaDoor
open Go.RowKit

theorem freeze_cells {h : AHeap} {r : Ref} {n m : Nat} {c : Bool} {cs us : List AVal} (hs : h.sliceCells 1 (.mk r n c) = some cs) (hm : cs.mapM (freezeV h m) = some us) : freezeV h (m + 1) (.slice (.mk r n c)) = some (.slice (.lst n false us)) := by
  by_cases h0 : n = 0
  · subst h0
    simp [AHeap.sliceCells] at hs
    subst hs
    simp at hm
    subst hm
    simp [freezeV]
  · obtain ⟨row, h1, h2, h3, h4, h5, rfl⟩ := sliceCells_row hs h0
    have hs2 : h.sliceCells row.sz (.mk r n false) = some ((row.cells.drop r.off).take (n * 1)) := by rw [h2]; exact sliceCells_of h1 h2 h3 h4 h5
    simp only [freezeV, beq_eq, decide_eq_false h0, cond_false, h1, hs2, Option.bind_some, hm, Option.map_some]

theorem hasSz_mark {h : AHeap} (ids : List Nat) (sz : Nat) (s : Sl) : (h.markRo ids).hasSz sz s = h.hasSz sz s := by
  cases s with
  | nil => rfl
  | lst n c cs => rfl
  | mk r n c =>
    simp only [AHeap.hasSz, rows_mark]
    cases h.rows[r.id]? with
    | none => rfl
    | some row => simp only [Option.map_some]; cases ids.elem r.id <;> rfl
theorem Grown.freezeI {h : AHeap} {s : Sl} {l : List Int} (hg : Grown h 1 s (intsC l)) : freezeV h 8 (.slice s) = some (.slice (lstI l)) := by
  rw [hg.freeze (n := 7) (by omega) (freeze_intsC 6 _)]
  have := hg.len
  simp only [List.length_map, Nat.mul_one] at this
  rw [← this]
theorem Own.freezeI {h : AHeap} {id gen n : Nat} {c : Bool} {l : List Int} (ho : Own h 1 id gen n (intsC l)) : freezeV h 8 (.slice (.mk ⟨id, gen, 0⟩ n c)) = some (.slice (lstI l)) := by
  rw [ho.freeze (n := 7) c (freeze_intsC 6 _)]
  have := ho.len
  simp only [List.length_map, Nat.mul_one] at this
  rw [← this]
/-- a part of a slice that grows, as a value -/
theorem Grown.cutI {h : AHeap} {s : Sl} {l : List Int} (hg : Grown h 1 s (intsC l)) {lo hi : Nat} (h1 : lo ≤ hi) (h2 : hi ≤ l.length) (c : Bool) : freezeV h 8 (.slice (s.cut 1 lo hi c)) = some (.slice (lstI ((l.drop lo).take (hi - lo)))) := by
  have hl := hg.len
  simp only [List.length_map, Nat.mul_one] at hl
  have hlen : ((l.drop lo).take (hi - lo)).length = hi - lo := by simp; omega
  generalize hcs : intsC l = cs at hg
  have zero : ∀ r : Ref, ∀ c : Bool, freezeV h 8 (.slice (.mk r 0 c)) = some (.slice (.lst 0 false [])) := fun r c => freeze_cells (h := h) (r := r) (n := 0) (c := c) (cs := []) (us := []) rfl rfl
  have small : hi = 0 → l = [] → freezeV h 8 (.slice (s.cut 1 lo hi c)) = some (.slice (.lst 0 false [])) → freezeV h 8 (.slice (s.cut 1 lo hi c)) = some (.slice (lstI ((l.drop lo).take (hi - lo)))) := by
    intro e1 e2 e3
    rw [e3, e2]
    simp
  cases hg with
  | nil =>
    have : l = [] := by simpa using hcs
    exact small (by subst this; simpa using h2) this (freeze_nil 7)
  | none =>
    have e : l = [] := by simpa using hcs
    have e0 : hi = 0 := by subst e; simpa using h2
    refine small e0 e ?_
    subst e0
    obtain rfl : lo = 0 := by omega
    exact zero _ _
  | room =>
    have e : l = [] := by simpa using hcs
    have e0 : hi = 0 := by subst e; simpa using h2
    refine small e0 e ?_
    subst e0
    obtain rfl : lo = 0 := by omega
    exact zero _ _
  | @row id gen n cs row q1 q2 q3 q4 q5 q6 q7 =>
    have hs : h.sliceCells 1 (.mk ⟨id, gen, lo⟩ (hi - lo) (c || (false && Nat.beq hi n))) = some (intsC ((l.drop lo).take (hi - lo))) := by
      have := sliceCells_of (r := ⟨id, gen, lo⟩) (n := hi - lo) (c := (c || (false && Nat.beq hi n))) q1 q7 q5 (by rw [q4]; exact Nat.le_refl _) (by simp only; rw [q2, ← hcs]; simp; omega)
      rw [this, q2, ← hcs]
      simp
    have e : Sl.cut (.mk ⟨id, gen, 0⟩ n false) 1 lo hi c = .mk ⟨id, gen, lo⟩ (hi - lo) (c || (false && Nat.beq hi n)) := by simp only [Sl.cut, Nat.mul_one, Nat.zero_add]
    rw [e, freeze_cells hs (freeze_intsC 6 _)]
    show some (AVal.slice (.lst (hi - lo) false _)) = some (AVal.slice (.lst ((l.drop lo).take (hi - lo)).length false _))
    rw [hlen]
  | @full id gen n cs row q0 q1 q2 q3 q4 q5 q6 q7 =>
    have hs : h.sliceCells 1 (.mk ⟨id, gen, lo⟩ (hi - lo) (c || (true && Nat.beq hi n))) = some (intsC ((l.drop lo).take (hi - lo))) := by
      have := sliceCells_of (r := ⟨id, gen, lo⟩) (n := hi - lo) (c := (c || (true && Nat.beq hi n))) q1 q7 q5 (by rw [q4]; exact Nat.le_refl _) (by simp only; rw [q2, ← hcs]; simp; omega)
      rw [this, q2, ← hcs]
      simp
    have e : Sl.cut (.mk ⟨id, gen, 0⟩ n true) 1 lo hi c = .mk ⟨id, gen, lo⟩ (hi - lo) (c || (true && Nat.beq hi n)) := by simp only [Sl.cut, Nat.mul_one, Nat.zero_add]
    rw [e, freeze_cells hs (freeze_intsC 6 _)]
    show some (AVal.slice (.lst (hi - lo) false _)) = some (AVal.slice (.lst ((l.drop lo).take (hi - lo)).length false _))
    rw [hlen]

theorem Sep0.tl {h0 h : AHeap} {c : Chunk} {L : List Chunk} (hs : Sep0 h0 h (c :: L)) : Sep0 h0 h L :=
  ⟨⟨fun x hx => hs.sep.all x (List.mem_cons_of_mem _ hx), (List.pairwise_cons.1 hs.sep.far).2⟩, hs.ext, fun x hx => hs.fresh x (List.mem_cons_of_mem _ hx)⟩
/-- a part of a slice that grows: its cells -/
theorem Grown.cutS {h : AHeap} {s : Sl} {l : List Int} (hg : Grown h 1 s (intsC l)) {lo hi : Nat} (h1 : lo ≤ hi) (h2 : hi ≤ l.length) (c : Bool) : h.sliceCells 1 (s.cut 1 lo hi c) = some (intsC ((l.drop lo).take (hi - lo))) := by
  generalize hcs : intsC l = cs at hg
  have small : hi = 0 → l = [] → h.sliceCells 1 (s.cut 1 lo hi c) = some [] → h.sliceCells 1 (s.cut 1 lo hi c) = some (intsC ((l.drop lo).take (hi - lo))) := by
    intro e1 e2 e3
    rw [e3, e2]
    simp
  cases hg with
  | nil =>
    have : l = [] := by simpa using hcs
    exact small (by subst this; simpa using h2) this rfl
  | none =>
    have e : l = [] := by simpa using hcs
    have e0 : hi = 0 := by subst e; simpa using h2
    refine small e0 e ?_
    subst e0
    obtain rfl : lo = 0 := by omega
    rfl
  | room =>
    have e : l = [] := by simpa using hcs
    have e0 : hi = 0 := by subst e; simpa using h2
    refine small e0 e ?_
    subst e0
    obtain rfl : lo = 0 := by omega
    rfl
  | @row id gen n cs row q1 q2 q3 q4 q5 q6 q7 =>
    have hs : h.sliceCells 1 (.mk ⟨id, gen, lo⟩ (hi - lo) (c || (false && Nat.beq hi n))) = some (intsC ((l.drop lo).take (hi - lo))) := by
      have := sliceCells_of (r := ⟨id, gen, lo⟩) (n := hi - lo) (c := (c || (false && Nat.beq hi n))) q1 q7 q5 (by rw [q4]; exact Nat.le_refl _) (by simp only; rw [q2, ← hcs]; simp; omega)
      rw [this, q2, ← hcs]
      simp
    have e : Sl.cut (.mk ⟨id, gen, 0⟩ n false) 1 lo hi c = .mk ⟨id, gen, lo⟩ (hi - lo) (c || (false && Nat.beq hi n)) := by simp only [Sl.cut, Nat.mul_one, Nat.zero_add]
    rw [e, hs]
  | @full id gen n cs row q0 q1 q2 q3 q4 q5 q6 q7 =>
    have hs : h.sliceCells 1 (.mk ⟨id, gen, lo⟩ (hi - lo) (c || (true && Nat.beq hi n))) = some (intsC ((l.drop lo).take (hi - lo))) := by
      have := sliceCells_of (r := ⟨id, gen, lo⟩) (n := hi - lo) (c := (c || (true && Nat.beq hi n))) q1 q7 q5 (by rw [q4]; exact Nat.le_refl _) (by simp only; rw [q2, ← hcs]; simp; omega)
      rw [this, q2, ← hcs]
      simp
    have e : Sl.cut (.mk ⟨id, gen, 0⟩ n true) 1 lo hi c = .mk ⟨id, gen, lo⟩ (hi - lo) (c || (true && Nat.beq hi n)) := by simp only [Sl.cut, Nat.mul_one, Nat.zero_add]
    rw [e, hs]
theorem cut_len {s : Sl} {lo hi : Nat} {c : Bool} (h : s = .nil → hi ≤ lo) : (s.cut 1 lo hi c).len = hi - lo := by
  cases s with
  | nil => have := h rfl; simp [Sl.cut, Sl.len]; omega
  | mk r n c => rfl
  | lst n c cs => rfl
/-- What was there before an append is there still. -/
theorem Grown.old {h h' : AHeap} {sz bytes m : Nat} {s s' : Sl} {cs vs : List AVal} (hg : Grown h sz s cs) (e : h.append false sz bytes s m vs = some (s', h')) : h'.sliceCells sz s = some cs := by
  cases hg with
  | nil => rfl
  | none => rfl
  | room => rfl
  | @full id gen n cs row q0 q1 q2 q3 q4 q5 q6 q7 =>
    have hcells := (Grown.full q0 q1 q2 q3 q4 q5 q6 q7).cells
    unfold AHeap.append at e
    rw [Bool.cond_eq_ite] at e
    split at e
    · cases e; exact hcells
    · rw [Bool.cond_eq_ite] at e
      split at e
      · cases e
      · simp only [hcells, Option.bind_some, Option.some.injEq, Prod.mk.injEq] at e
        obtain ⟨rfl, rfl⟩ := e
        exact sliceCells_keep (Keeps.push h sz _ fun _ => False) hcells fun _ _ _ hf => hf
  | @row id gen n cs row q1 q2 q3 q4 q5 q6 q7 =>
    have hlt := (List.getElem?_eq_some_iff.1 q1).1
    unfold AHeap.append at e
    rw [Bool.cond_eq_ite] at e
    split at e
    · cases e
      have := sliceCells_of (r := ⟨id, gen, 0⟩) (n := n) (c := false) q1 q7 q5 (by rw [q4]; exact Nat.le_refl _) (by simp only; rw [q2]; omega)
      rw [this, q2]
      simp only [List.drop_zero]
      rw [List.take_of_length_le (by omega)]
    · rw [Bool.cond_eq_ite] at e
      split at e
      · cases e
      · simp only [q1] at e
        rw [Bool.cond_eq_ite] at e
        split at e
        · simp only [Option.some.injEq, Prod.mk.injEq] at e
          obtain ⟨rfl, rfl⟩ := e
          have e1 : (Nat.beq gen row.gen && Nat.beq (0 + n * sz) row.cells.length) = true := by
            rw [q4, q2, q3, Nat.zero_add]; simp [Nat.beq_refl]
          have hq := sliceCells_of (h := h.setRow id { sz := row.sz, cells := row.cells.take (0 + n * sz) ++ vs, gen := row.gen + 1, valid := bif Nat.beq gen row.gen && Nat.beq (0 + n * sz) row.cells.length then row.valid else row.gen + 1, ro := false }) (r := ⟨id, gen, 0⟩) (n := n) (c := false)
            (row := { sz := row.sz, cells := row.cells.take (0 + n * sz) ++ vs, gen := row.gen + 1, valid := bif Nat.beq gen row.gen && Nat.beq (0 + n * sz) row.cells.length then row.valid else row.gen + 1, ro := false })
            (List.getElem?_set_self hlt) q7 (by simp only [e1, cond_true]; exact q5) (by simp only; omega) (by simp only [List.length_append, List.length_take]; rw [q2]; omega)
          rw [hq]
          simp only [List.drop_zero, Nat.zero_add]
          rw [List.take_append_of_le_length (by rw [List.length_take, q2]; omega), List.take_take, Nat.min_self, q2, List.take_of_length_le (by omega)]
        · cases e

theorem Grown.freezeOld {h1 h2 : AHeap} {s : Sl} {l : List Int} {cs : List AVal} (hg : Grown h1 1 s cs) (hs : h2.sliceCells 1 s = some (intsC l)) (hl : l.length = s.len) : freezeV h2 8 (.slice s) = some (.slice (lstI l)) := by
  have zero : s.len = 0 → l = [] := fun h => List.eq_nil_of_length_eq_zero (by omega)
  cases hg with
  | nil => rw [zero rfl]; exact freeze_nil 7
  | none => rw [zero rfl]; exact freeze_cells (cs := []) (us := []) rfl rfl
  | room => rw [zero rfl]; exact freeze_cells (cs := []) (us := []) rfl rfl
  | row => rw [freeze_cells hs (freeze_intsC 6 _)]; simp only [Sl.len] at hl; rw [← hl]
  | full => rw [freeze_cells hs (freeze_intsC 6 _)]; simp only [Sl.len] at hl; rw [← hl]

end Go.Proofs.YtdkckkhghghhdaaDoor

namespace Go.Proofs.YtdkckkhghghhdaaDoor
open Go.RowKit

/-- numbers that are written right -/
def Num64 (x : Int) : Prop := -9223372036854775808 ≤ x ∧ x ≤ 9223372036854775807
theorem Num64.app {x : Int} (h : Num64 x) (fuel d : Nat) (hf : 30 < fuel) : AppOk fuel (d + 5) x := app_ok fuel d hf h.1 h.2
def headTx (v n : Int) : List UInt8 := [112, 32, 99, 110, 102, 32] ++ decT v ++ [32] ++ decT n ++ [10]
theorem decT_len {x : Int} (h : Num64 x) : (decT x).length ≤ 20 := by
  obtain ⟨_, _, _, _, h2⟩ := h.app 31 0 (by omega) AHeap.none AHeap.none .nil [] (by simp) ((Sep0.start _).addNil 1)
  exact h2
theorem headTx_len {v n : Int} (hv : Num64 v) (hn : Num64 n) : (headTx v n).length ≤ 60 ∧ 8 ≤ (headTx v n).length := by
  have := decT_len hv
  have := decT_len hn
  simp only [headTx, List.length_append, List.length_cons, List.length_nil]
  omega
theorem tx_app (a b : List UInt8) : (tx a ++ tx b : ByteArray) = tx (a ++ b) := tx_append a b
theorem headB_run (fuel d : Nat) (hf : 30 < fuel) {v : Int} {l : List (List Int)} (hv : Num64 v) (hl : l.length < 1000000000) (h : AHeap) :
    ∃ s' h', run fuel (d + 6) F_dimacs_HeadBytes [.agg (cnfC v l)] h = some (.slice s', h') ∧ Sep0 h h' [.grown 1 s' (bytesC (headTx v (l.length : Int)))] := by
  have hn : Num64 (l.length : Int) := ⟨by omega, by omega⟩
  have l1 := decT_len hv
  have l2 := decT_len hn
  have hlen := headTx_len hv hn
  have s1 := (Sep0.start h).push 1 2 (cs := cnfC v l) rfl
  have c0 : (h.push 1 (cnfC v l)).cell (.mk ⟨h.next, 0, 0 + 0⟩ 2) = some (.int .i64 v) := s1.part (i := 0) rfl (by omega) rfl
  have c1 : (h.push 1 (cnfC v l)).cell (.mk ⟨h.next, 0, 0 + 1⟩ 2) = some (.slice (lstLL l)) := s1.part (i := 0) rfl (by omega) rfl
  rw [e_dimacs_HeadBytes, show List.all (cnfC v l) AVal.isCell = true from rfl, cond_true, show (cnfC v l).length = 2 from rfl]
  simp only [field_mk, Option.bind_some, c0, int_int]
  rw [itoa_run fuel d hf hv.1 hv.2]
  simp only [Option.bind_some, str_str]
  rw [show (⟨#[112, 32, 99, 110, 102, 32]⟩ : ByteArray) = tx [112, 32, 99, 110, 102, 32] from rfl, show (⟨#[32]⟩ : ByteArray) = tx [32] from rfl, show (⟨#[10]⟩ : ByteArray) = tx [10] from rfl, tx_app, tx_app]
  rw [cond_pos _ _ (by rw [tx_size, tx_size]; simp only [List.length_cons, List.length_nil]; exact nble.2 (by omega)), cond_pos _ _ (by rw [tx_size, tx_size]; simp only [List.length_append, List.length_cons, List.length_nil]; exact nble.2 (by omega))]
  simp only [c1, Option.bind_some, slice_slice, same_self, len_lst]
  rw [itoa_run fuel d hf hn.1 hn.2]
  simp only [Option.bind_some, str_str, tx_app]
  rw [cond_pos _ _ (by rw [tx_size, tx_size]; simp only [List.length_append, List.length_cons, List.length_nil]; exact nble.2 (by omega)), cond_pos _ _ (by rw [tx_size, tx_size]; simp only [List.length_append, List.length_cons, List.length_nil]; exact nble.2 (by omega))]
  rw [bytesOf_tx, tx_size]
  have s2 := (s1.push 1 (headTx v (l.length : Int)).length (cs := bytesC (headTx v (l.length : Int))) (by simp)).toGrown false (by omega)
  exact ⟨_, _, rfl, s2.sub (by exact List.Sublist.cons _ (List.Sublist.refl _))⟩

/-! the reference's -/
theorem rlits_loop (fuel d : Nat) {l : List Int} (hl : l.length < 1000000) (hok : ∀ x ∈ l, AppOk fuel d x) {h0 : AHeap} : ∀ (n k : Nat) (s : Sl) (t : List UInt8) (h : AHeap), l.length < n + k → k ≤ l.length → t.length + 30 * (l.length - k) < 800000000 → Sep0 h0 h [.grown 1 s (bytesC t)] →
    ∃ s' h', (l_skolemref1_lits_0 fuel d n [(0, .slice s), (1, .slice (lstI l)), (5, .int .i64 (k : Int))] h).bind (fun p => k_skolemref1_lits_0 fuel d p.1 p.2.1 p.2.2) = some (.slice s', h') ∧ Sep0 h0 h' [.grown 1 s' (bytesC (t ++ lineT (l.drop k)))] := by
  intro n
  induction n with
  | zero => intro k s t h h1 h2; omega
  | succ n ih =>
    intro k s t h h1 h2 ht hs
    rw [l_skolemref1_lits_0_eq, len_lst]
    by_cases hk : k < l.length
    · have hd : l.drop k = l.getD k 0 :: l.drop (k + 1) := by rw [List.drop_eq_getElem_cons hk]; simp [List.getD, hk]
      have hx := hok (l.getD k 0) (by simp [List.getD, hk])
      rw [bif_pos (by omega), addr_lstM _ (by omega) (by omega) 0, hd, Int.toNat_natCast]
      generalize l.getD k 0 = x at hx
      simp only [Option.bind_some, cell_fp, int_int]
      obtain ⟨s1, h1', e1, q1, q2⟩ := hx h0 h s t (by omega) hs
      rw [e1]
      simp only [Option.bind_some, slice_slice]
      rw [show [(AVal.int .u8 (32 : Int))] = bytesC [32] from rfl, lit_cells h1' [32] (n := 1) rfl, Option.bind_some, Sl.len]
      obtain ⟨s2, h2', e2, q3⟩ := lit_append (q1.junk (cs := bytesC [32])) [32] (m := 1) rfl (by simp; omega)
      rw [e2, Option.bind_some, sucU (by omega)]
      obtain ⟨s3, h3', e3, q4⟩ := ih (k + 1) s2 (t ++ decT x ++ [32]) h2' (by omega) (by omega) (by simp; omega) q3
      refine ⟨s3, h3', e3, ?_⟩
      have : t ++ decT x ++ [32] ++ lineT (l.drop (k + 1)) = t ++ lineT (x :: l.drop (k + 1)) := by simp [lineT, numsT]
      rw [← this]
      exact q4
    · have : k = l.length := by omega
      subst this
      rw [bif_neg (by omega), List.drop_length]
      simp only [Option.bind_some, k_skolemref1_lits_0_x0]
      rw [show [(AVal.int .u8 (48 : Int)), (AVal.int .u8 (10 : Int))] = bytesC [48, 10] from rfl, lit_cells h [48, 10] (n := 2) rfl, Option.bind_some, Sl.len]
      obtain ⟨s2, h2', e2, q3⟩ := lit_append (hs.junk (cs := bytesC [48, 10])) [48, 10] (m := 2) rfl (by simp; omega)
      rw [e2, Option.bind_some]
      exact ⟨s2, h2', rfl, q3⟩
theorem rlits_run (fuel d : Nat) {l : List Int} (hl : l.length < 1000000) (hf : l.length < fuel) (hok : ∀ x ∈ l, AppOk fuel d x) {h0 h : AHeap} {s : Sl} {t : List UInt8} (ht : t.length + 30 * l.length < 800000000) (hs : Sep0 h0 h [.grown 1 s (bytesC t)]) :
    ∃ s' h', run fuel (d + 1) F_skolemref1_lits [.slice s, .slice (lstI l)] h = some (.slice s', h') ∧ Sep0 h0 h' [.grown 1 s' (bytesC (t ++ lineT l))] := by
  obtain ⟨s', h', e1, q1⟩ := rlits_loop fuel d hl hok fuel 0 s t h (by omega) (by omega) (by omega) hs
  rw [List.drop_zero] at q1
  refine ⟨s', h', ?_, q1⟩
  rw [e_skolemref1_lits]
  exact e1
theorem rhd_run (fuel d : Nat) (hf : 30 < fuel) {v : Int} {l : List (List Int)} (hv : Num64 v) (hl : l.length < 1000000000) (h : AHeap) :
    ∃ s' h', run fuel (d + 6) F_skolemref1_head [.agg (cnfC v l)] h = some (.slice s', h') ∧ Sep0 h h' [.grown 1 s' (bytesC (headTx v (l.length : Int)))] := by
  have hn : Num64 (l.length : Int) := ⟨by omega, by omega⟩
  have l1 := decT_len hv
  have l2 := decT_len hn
  rw [e_skolemref1_head, show List.all (cnfC v l) AVal.isCell = true from rfl, cond_true, show (cnfC v l).length = 2 from rfl]
  have s1 := (Sep0.start h).push 1 2 (cs := cnfC v l) rfl
  have s2 := (s1.push 1 6 (cs := bytesC [112, 32, 99, 110, 102, 32]) rfl)
  have how : (AHeap.ownAt (AHeap.push (AHeap.push h 1 (cnfC v l)) 1 [(.int .u8 (112 : Int)), (.int .u8 (32 : Int)), (.int .u8 (99 : Int)), (.int .u8 (110 : Int)), (.int .u8 (102 : Int)), (.int .u8 (32 : Int))]) (AHeap.next (AHeap.push h 1 (cnfC v l)))) = true := by
    simp [AHeap.ownAt, AHeap.push, AHeap.next]
  have c0 : (AHeap.push (AHeap.push h 1 (cnfC v l)) 1 (bytesC [112, 32, 99, 110, 102, 32])).cell (.mk ⟨h.next, 0, 0 + 0⟩ 2) = some (.int .i64 v) := s2.part (i := 0) rfl (by omega) rfl
  rw [how, cond_true]
  have k1 : ∀ H : AHeap, Sep0 (h.push 1 (cnfC v l)) H [] → H.cell (.mk ⟨h.next, 0, 0 + 1⟩ 2) = some (.slice (lstLL l)) := fun H hs =>
    cell_keep hs.ext id (s1.part (i := 0) (o := 1) (l := 2) rfl (by omega) rfl)
  have s3 : Sep0 (h.push 1 (cnfC v l)) (AHeap.push (AHeap.push h 1 (cnfC v l)) 1 (bytesC [112, 32, 99, 110, 102, 32])) [.grown 1 (.mk ⟨AHeap.next (AHeap.push h 1 (cnfC v l)), 0, 0⟩ 6 true) (bytesC [112, 32, 99, 110, 102, 32])] :=
    ((Sep0.start (h.push 1 (cnfC v l))).push 1 6 (cs := bytesC [112, 32, 99, 110, 102, 32]) rfl).toGrown true (by omega)
  simp only [field_mk, Option.bind_some]
  rw [show [(AVal.int .u8 (112 : Int)), (.int .u8 (32 : Int)), (.int .u8 (99 : Int)), (.int .u8 (110 : Int)), (.int .u8 (102 : Int)), (.int .u8 (32 : Int))] = bytesC [112, 32, 99, 110, 102, 32] from rfl, c0]
  simp only [Option.bind_some, int_int]
  obtain ⟨a1, g1, e1, q1, _⟩ := hv.app fuel d hf _ _ _ _ (by simp) s3
  rw [e1]
  simp only [Option.bind_some, slice_slice]
  rw [show [(AVal.int .u8 (32 : Int))] = bytesC [32] from rfl, lit_cells g1 [32] (n := 1) rfl, Option.bind_some, Sl.len]
  have j1 := q1.junk (cs := bytesC [32])
  obtain ⟨a2, g2, e2, q2⟩ := lit_append j1 [32] (m := 1) rfl (by simp; omega)
  rw [e2]
  simp only [Option.bind_some, k1 g2 q2.tl, k1 g1 q1.tl, k1 _ j1.tl, slice_slice, same_self, len_lst]
  obtain ⟨a3, g3, e3, q3, _⟩ := hn.app fuel d hf _ _ _ _ (by simp; omega) q2
  rw [e3]
  simp only [Option.bind_some, slice_slice]
  rw [show [(AVal.int .u8 (10 : Int))] = bytesC [10] from rfl, lit_cells g3 [10] (n := 1) rfl, Option.bind_some, Sl.len]
  obtain ⟨a4, g4, e4, q4⟩ := lit_append (q3.junk (cs := bytesC [10])) [10] (m := 1) rfl (by simp; omega)
  rw [e4]
  exact ⟨a4, g4, rfl, ⟨q4.sep, s1.ext.trans q4.ext, fun c hc r hr => Nat.le_trans s1.ext.1 (q4.fresh c hc r hr)⟩⟩
end Go.Proofs.YtdkckkhghghhdaaDoor

namespace Go.Proofs.YtdkckkhghghhdaaDoor
open Go.RowKit

abbrev rdrC (W : List Wd) (k : Nat) (e vars : Int) (m : Nat) : List AVal := [.slice (lstW W), .int .i64 (k : Int), .int .i64 e, .int .i64 vars, .map (some m)]
abbrev zeroW : List AVal := [.str (⟨#[]⟩ : ByteArray), .int .i64 (0 : Int), .bool false]
theorem isCellW (w : Wd) : (!false && Nat.beq (List.length (wdC w)) 3 && List.all (wdC w) AVal.isCell) = true := rfl
theorem okErr (c : Int) : (bif (Nat.beq (List.length (AVal.cells err_api_ErrText)) 1 && Nat.ble (1 + 1) (List.length [(AVal.int .i64 c), .nilif]) && List.all (AVal.cells err_api_ErrText) AVal.isCell) then ((some (AHeap.overlay [(AVal.int .i64 c), .nilif] 1 (AVal.cells err_api_ErrText)))) else (none)) = some [.int .i64 c, err_api_ErrText] := rfl
theorem allErr (c : Int) : List.all [AVal.int .i64 c, err_api_ErrText] AVal.isCell = true := rfl
theorem lenErr (c : Int) : List.length [AVal.int .i64 c, err_api_ErrText] = 2 := rfl
theorem rdr_bad {h0 h : AHeap} {L : List Chunk} (hs : Sep0 h0 h L) (p : Int) : Sep0 h0 (h.push 1 [.int .i64 p, err_api_ErrText]) (.own 1 h.next 0 2 [.int .i64 p, err_api_ErrText] :: L) := (hs.push 1 2 rfl).cons

/-- what a block hands back -/
def BlkPost (W : List Wd) (e vars : Int) (R m : Nat) (L : List Chunk) (h0 : AHeap) : BkR → AVal → AHeap → Prop
  | .bad p, v, h' => ∃ r, v = .tup [.slice .nil, .iface T_p_api_At (.ptr (.mk ⟨r, 0, 0⟩ 2))] ∧ Sep0 h0 h' (.own 1 r 0 2 [.int .i64 p, err_api_ErrText] :: L)
  | .ok l seen ws, v, h' => ∃ s' k', v = .tup [.slice s', .nilif] ∧ Sep0 h0 h' (.own 1 R 0 5 (rdrC W k' e vars m) :: .mp h0.maps.length m (seenM seen) :: .grown 1 s' (intsC l) :: L) ∧ ws = W.drop k' ∧ k' ≤ W.length
theorem blk_loop (fuel d : Nat) {W : List Wd} {e vars : Int} {R m : Nat} {L : List Chunk} {h0 : AHeap} (hf : 20 < fuel) (hW : W.length < 70000) : ∀ (n k : Nat) (acc seen : List Int) (s : Sl) (h : AHeap), W.length < n + k → k ≤ W.length → acc.length ≤ k →
    Sep0 h0 h (.own 1 R 0 5 (rdrC W k e vars m) :: .mp h0.maps.length m (seenM seen) :: .grown 1 s (intsC acc) :: L) →
    ∃ v h', (l_qdimacs_reader_block_0 fuel (d + 3) n [(0, .ptr (.mk ⟨R, 0, 0⟩ 5)), (4, .slice s)] h).bind (fun p => k_qdimacs_reader_block_0 fuel (d + 3) p.1 p.2.1 p.2.2) = some (v, h') ∧ BlkPost W e vars R m L h0 (blockT e vars (W.drop k) seen acc) v h' := by
  intro n
  induction n with
  | zero => intro k acc seen s h h1 h2; omega
  | succ n ih =>
    intro k acc seen s h h1 h2 h3 hs
    have hl := hs.len (i := 2) rfl
    simp only [List.length_map, Nat.mul_one] at hl
    rw [l_qdimacs_reader_block_0_eq]
    have c0 : h.cell (.mk ⟨R, 0, 0 + 0⟩ 5) = some (.slice (lstW W)) := hs.part (i := 0) rfl (by omega) rfl
    have c1 : h.cell (.mk ⟨R, 0, 0 + 1⟩ 5) = some (.int .i64 (k : Int)) := hs.part (i := 0) rfl (by omega) rfl
    have sj := hs.junk (cs := zeroW)
    have d0 : (h.push 1 zeroW).cell (.mk ⟨R, 0, 0 + 0⟩ 5) = some (.slice (lstW W)) := sj.part (i := 0) rfl (by omega) rfl
    have d1 : (h.push 1 zeroW).cell (.mk ⟨R, 0, 0 + 1⟩ 5) = some (.int .i64 (k : Int)) := sj.part (i := 0) rfl (by omega) rfl
    simp only [chk_mk, field_mk, Option.bind_some, c0, c1, int_int, slice_slice, len_lst]
    by_cases hk : k < W.length
    · have hd : W.drop k = W.getD k ⟨[], 0, false⟩ :: W.drop (k + 1) := by rw [List.drop_eq_getElem_cons hk]; simp [List.getD, hk]
      have hk' : (k : Int) < (W.length : Int) := by omega
      simp only [hk', decide_true, cond_true, hd]
      have a1 : ∀ h : AHeap, h.addr 3 (lstW W) (k : Int) = some (.fp 0 (wdC (W.getD k ⟨[], 0, false⟩))) := fun h => addr_lstN (sz := 3) (f := wdC) wdC_len (l := W) (j := (k : Int)) (by omega) (by omega) ⟨[], 0, false⟩ false
      simp only [a1, Option.bind_some]
      generalize W.getD k ⟨[], 0, false⟩ = w
      simp only [cellsAt_fp (wdC_len w), d0, d1, Option.bind_some, int_int, slice_slice, same_self, a1]
      obtain ⟨h3', e1, s3, w0, w1, w2⟩ := copyW hs w
      rw [cond_pos _ _ (isCellW w), e1]
      simp only [Option.bind_some, field_mk, w0, w1, str_str]
      rw [wNum_run fuel d hf]
      simp only [Option.bind_some, tup2, cond_true, comp0, comp1, int_int, bool_bool]
      have g1 : h3'.cell (.mk ⟨R, 0, 0 + 1⟩ 5) = some (.int .i64 (k : Int)) := s3.part (i := 0) rfl (by omega) rfl
      have g3 : h3'.cell (.mk ⟨R, 0, 0 + 3⟩ 5) = some (.int .i64 vars) := s3.part (i := 0) rfl (by omega) rfl
      have g4 : h3'.cell (.mk ⟨R, 0, 0 + 4⟩ 5) = some (.map (some m)) := s3.part (i := 0) rfl (by omega) rfl
      have gm : h3'.maps[m]? = some (seenM seen) := s3.getMap (i := 1) rfl
      unfold blockT
      by_cases hz : okNum w.text = true ∧ numW w.text = 0
      · rw [if_pos hz, hz.1, hz.2]
        obtain ⟨h4, e4, s4⟩ := s3.put (i := 0) (o := 1) (l := 5) (vs := [.int .i64 ((k + 1 : Nat) : Int)]) rfl (by simp) (by simp)
        simp only [decide_true, cond_true, chk_mk, field_mk, Option.bind_some, g1, int_int, sucU (show k < 9000000000000000000 by omega)]
        rw [Nat.zero_add, e4, Option.bind_some]
        simp only [k_qdimacs_reader_block_0_r, Option.bind_some]
        exact ⟨_, h4, rfl, s, k + 1, rfl, s4, rfl, by omega⟩
      · have hz' : (bif okNum w.text then decide (numW w.text = 0) else false) = false := by
          cases h8 : okNum w.text with
          | false => rfl
          | true => rw [cond_true]; exact decide_eq_false fun h9 => hz ⟨h8, h9⟩
        rw [if_neg hz, hz', cond_false]
        simp only [chk_mk, field_mk, Option.bind_some, g3, int_int]
        have hcond : ((bif ((bif (!okNum w.text) then true else (decide (numW w.text < (1 : Int)))) == false) then (some ((AVal.bool (decide (vars < numW w.text))), h3')) else (some ((.bool true), h3')) : Option (AVal × AHeap))) = some (.bool (!okNum w.text || decide (numW w.text < 1) || (okNum w.text && !decide (numW w.text < 1) && decide (vars < numW w.text))), h3') := by
          cases okNum w.text <;> cases decide (numW w.text < 1) <;> cases decide (vars < numW w.text) <;> rfl
        rw [hcond]
        simp only [chk_mk, field_mk, Option.bind_some, bool_bool, g4, map_map, mapOf_some, gm, mfind_seen, mgot_seen]
        have hcond2 : ∀ b : Bool, ((bif b == false then (some (AVal.bool (seen.contains (numW w.text)), h3')) else (some ((.bool true), h3')) : Option (AVal × AHeap))) = some (.bool (b || seen.contains (numW w.text)), h3') := fun b => by cases b <;> rfl
        rw [hcond2]
        simp only [Option.bind_some, bool_bool]
        have hb : (!okNum w.text || decide (numW w.text < 1) || (okNum w.text && !decide (numW w.text < 1) && decide (vars < numW w.text)) || seen.contains (numW w.text)) = badV w.text vars seen := by
          unfold badV
          cases okNum w.text <;> cases decide (numW w.text < 1) <;> cases decide (vars < numW w.text) <;> cases seen.contains (numW w.text) <;> rfl
        rw [hb]
        cases hbad : badV w.text vars seen with
        | true =>
          simp only [cond_true, if_true, field_mk, Option.bind_some, w1, int_int, okErr]
          simp only [allErr, lenErr, cond_true, k_qdimacs_reader_block_0_r, Option.bind_some]
          exact ⟨_, _, rfl, _, rfl, rdr_bad (s3.sub (((List.Sublist.refl L).cons _ |>.cons _ |>.cons _))) _⟩
        | false =>
          have hcon : seen.contains (numW w.text) = false := by
            unfold badV at hbad
            simp only [Bool.or_eq_false_iff] at hbad
            exact hbad.2
          simp only [cond_false, Bool.false_eq_true, if_false, chk_mk, field_mk, g4, map_map, gm, mset_seen _ _ hcon, Option.bind_some]
          have s4 := s3.setMap (i := 1) rfl (seenM (seen ++ [numW w.text]))
          obtain ⟨s', h5, e5, s5, l5⟩ := s4.grow (i := 2) (bytes := 8) (m := 1) (vs := [.int .i64 (numW w.text)]) rfl rfl (by omega) (by omega)
          rw [e5]
          have j1 : h5.cell (.mk ⟨R, 0, 0 + 1⟩ 5) = some (.int .i64 (k : Int)) := s5.part (i := 0) rfl (by omega) rfl
          obtain ⟨h6, e6, s6⟩ := s5.put (i := 0) (o := 1) (l := 5) (vs := [.int .i64 ((k + 1 : Nat) : Int)]) rfl (by simp) (by simp)
          simp only [Option.bind_some, j1, int_int, sucU (show k < 9000000000000000000 by omega)]
          rw [Nat.zero_add, e6, Option.bind_some]
          refine ih (k + 1) (acc ++ [numW w.text]) (seen ++ [numW w.text]) s' h6 (by omega) (by omega) (by simp; omega) ?_
          rw [intsC_app]
          exact s6
    · have : k = W.length := by omega
      subst this
      have hk' : ¬ (W.length : Int) < (W.length : Int) := by omega
      simp only [hk', decide_false, cond_false, List.drop_length]
      have c2 : h.cell (.mk ⟨R, 0, 0 + 2⟩ 5) = some (.int .i64 e) := hs.part (i := 0) rfl (by omega) rfl
      simp only [Option.bind_some, k_qdimacs_reader_block_0_x0, chk_mk, field_mk, c2, int_int, okErr, allErr, lenErr, cond_true]
      exact ⟨_, _, rfl, _, rfl, rdr_bad (hs.sub (((List.Sublist.refl L).cons _ |>.cons _ |>.cons _))) _⟩
end Go.Proofs.YtdkckkhghghhdaaDoor

namespace Go.Proofs.YtdkckkhghghhdaaDoor
open Go.RowKit

theorem tx_is (t u : List UInt8) : decide (tx t = tx u) = (t == u) := by
  have := txt_ne t u
  cases h1 : decide (tx t = tx u) <;> cases h2 : (t == u) <;> simp_all
theorem tx_e (t : List UInt8) : decide (tx t = (⟨#[101]⟩ : ByteArray)) = (t == [101]) := tx_is t [101]
theorem tx_a (t : List UInt8) : decide (tx t = (⟨#[97]⟩ : ByteArray)) = (t == [97]) := tx_is t [97]
theorem block_run (fuel d : Nat) {W : List Wd} {e vars : Int} {R m k : Nat} {L : List Chunk} {h0 h : AHeap} (hf : 20 < fuel) (hW : W.length < 70000) (hWf : W.length < fuel) (hk : k ≤ W.length) {seen : List Int}
    (hs : Sep0 h0 h (.own 1 R 0 5 (rdrC W k e vars m) :: .mp h0.maps.length m (seenM seen) :: L)) :
    ∃ v h', run fuel (d + 4) F_qdimacs_reader_block [.ptr (.mk ⟨R, 0, 0⟩ 5)] h = some (v, h') ∧ BlkPost W e vars R m L h0 (blockT e vars (W.drop k) seen []) v h' := by
  rw [e_qdimacs_reader_block]
  exact blk_loop fuel d hf hW fuel k [] seen .nil h (by omega) hk (by simp) (hs.nil2 1)
def begE : List Wd → Bool
  | [] => false
  | w :: _ => w.first && w.text == [101]
def begI : List Wd → Bool
  | [] => false
  | w :: _ => isBk w
theorem begins_run (fuel d : Nat) {W : List Wd} {e vars : Int} {R m k : Nat} {L : List Chunk} {h0 h : AHeap} (hk : k ≤ W.length) (hs : Sep0 h0 h (.own 1 R 0 5 (rdrC W k e vars m) :: L)) :
    run fuel (d + 1) F_qdimacs_reader_begins [.ptr (.mk ⟨R, 0, 0⟩ 5)] h = some (.tup [.bool (begE (W.drop k)), .bool (begI (W.drop k))], h) := by
  have c0 : h.cell (.mk ⟨R, 0, 0 + 0⟩ 5) = some (.slice (lstW W)) := hs.part (i := 0) rfl (by omega) rfl
  have c1 : h.cell (.mk ⟨R, 0, 0 + 1⟩ 5) = some (.int .i64 (k : Int)) := hs.part (i := 0) rfl (by omega) rfl
  rw [e_qdimacs_reader_begins]
  simp only [chk_mk, field_mk, Option.bind_some, c0, c1, int_int, slice_slice, len_lst]
  by_cases hlt : k < W.length
  · have hd : W.drop k = W.getD k ⟨[], 0, false⟩ :: W.drop (k + 1) := by rw [List.drop_eq_getElem_cons hlt]; simp [List.getD, hlt]
    have hn : ¬ ((W.length : Nat) : Int) ≤ (k : Int) := by omega
    have a1 : h.addr 3 (lstW W) (k : Int) = some (.fp 0 (wdC (W.getD k ⟨[], 0, false⟩))) := addr_lstN (sz := 3) (f := wdC) wdC_len (l := W) (j := (k : Int)) (by omega) (by omega) ⟨[], 0, false⟩ false
    simp only [hn, decide_false, cond_false, a1, Option.bind_some, hd]
    generalize W.getD k ⟨[], 0, false⟩ = w at a1
    simp only [wdC, field_fp, List.drop_succ_cons, List.drop_zero, Option.bind_some, cell_fp, bool_bool, k_qdimacs_reader_begins_0_n, chk_mk, field_mk, c0, c1, int_int, slice_slice, str_str]
    simp only [a1, Option.bind_some, wdC, field_fp, List.drop_zero, cell_fp, str_str, tx_e, tx_a]
    show _ = some (AVal.tup [.bool (w.first && w.text == [101]), .bool (w.first && (w.text == [97] || w.text == [101]))], h)
    cases w.first <;> cases w.text == [97] <;> cases w.text == [101] <;> rfl
  · have hn : ((W.length : Nat) : Int) ≤ (k : Int) := by omega
    have : k = W.length := by omega
    subst this
    simp only [hn, decide_true, cond_true, Option.bind_some, k_qdimacs_reader_begins_0_n, List.drop_length]
    rfl

/-- what all blocks hand back -/
def BsPost (W : List Wd) (e vars : Int) (R m : Nat) (L : List Chunk) (h0 : AHeap) : BsR → AVal → AHeap → Prop
  | .bad p, v, h' => ∃ r, v = .tup [.slice .nil, .iface T_p_api_At (.ptr (.mk ⟨r, 0, 0⟩ 2))] ∧ Sep0 h0 h' (.own 1 r 0 2 [.int .i64 p, err_api_ErrText] :: L)
  | .ok l ws, v, h' => ∃ s' k' seen, v = .tup [.slice s', .nilif] ∧ Sep0 h0 h' (.own 1 R 0 5 (rdrC W k' e vars m) :: .mp h0.maps.length m (seenM seen) :: .grown 2 s' (blksC l) :: L) ∧ ws = W.drop k' ∧ k' ≤ W.length
theorem blks_loop (fuel d : Nat) {W : List Wd} {e vars : Int} {R m : Nat} {L : List Chunk} {h0 : AHeap} (hf : 20 < fuel) (hW : W.length < 70000) (hWf : W.length < fuel) : ∀ (n N k : Nat) (bs : List Blk) (seen : List Int) (o : Sl) (h : AHeap), W.length < n + k → W.length < N + k → k ≤ W.length → bs.length ≤ k →
    Sep0 h0 h (.own 1 R 0 5 (rdrC W k e vars m) :: .mp h0.maps.length m (seenM seen) :: .grown 2 o (blksC bs) :: L) →
    ∃ v h', (l_qdimacs_reader_blocks_0 fuel (d + 4) n [(0, .ptr (.mk ⟨R, 0, 0⟩ 5)), (4, .slice o), (5, .bool (begE (W.drop k))), (6, .bool (begI (W.drop k)))] h).bind (fun p => k_qdimacs_reader_blocks_0 fuel (d + 4) p.1 p.2.1 p.2.2) = some (v, h') ∧ BsPost W e vars R m L h0 (blocksT e vars N (W.drop k) seen bs) v h' := by
  intro n
  induction n with
  | zero => intro N k bs seen o h h1 h1' h2; omega
  | succ n ih =>
    intro N k bs seen o h h1 h1' h2 h3 hs
    have hl := hs.len (i := 2) rfl
    rw [flatMap_len blkC_len] at hl
    rw [l_qdimacs_reader_blocks_0_eq]
    by_cases hlt : k < W.length
    · have hd : W.drop k = W.getD k ⟨[], 0, false⟩ :: W.drop (k + 1) := by rw [List.drop_eq_getElem_cons hlt]; simp [List.getD, hlt]
      rw [hd]
      generalize W.getD k ⟨[], 0, false⟩ = w at hd ⊢
      obtain ⟨N, rfl⟩ : ∃ M, N = M + 1 := ⟨N - 1, by omega⟩
      simp only [blocksT, begI, begE]
      cases hb : isBk w with
      | true =>
        have c1 : h.cell (.mk ⟨R, 0, 0 + 1⟩ 5) = some (.int .i64 (k : Int)) := hs.part (i := 0) rfl (by omega) rfl
        obtain ⟨h4, e4, s4⟩ := hs.put (i := 0) (o := 1) (l := 5) (vs := [.int .i64 ((k + 1 : Nat) : Int)]) rfl (by simp) (by simp)
        simp only [cond_true, if_true, chk_mk, field_mk, Option.bind_some, c1, int_int, sucU (show k < 9000000000000000000 by omega)]
        rw [Nat.zero_add, e4, Option.bind_some]
        obtain ⟨v, h5, e5, q5⟩ := block_run fuel d (k := k + 1) (e := e) (vars := vars) hf hW hWf (by omega) (seen := seen) (L := .grown 2 o (blksC bs) :: L) s4
        rw [e5, Option.bind_some]
        cases hbl : blockT e vars (W.drop (k + 1)) seen [] with
        | bad p =>
          rw [hbl] at q5
          obtain ⟨r, rfl, s5⟩ := q5
          simp only [tup2, comp0, comp1, cond_true, Option.bind_some, slice_slice, nilTest_if, Bool.not_false, k_qdimacs_reader_blocks_0_r]
          exact ⟨_, _, rfl, r, rfl, s5.sub (((List.Sublist.refl L).cons _).cons_cons _)⟩
        | ok l seen' ws =>
          rw [hbl] at q5
          obtain ⟨s', k', rfl, s5, rfl, hk'⟩ := q5
          have hlen := blockT_len e vars _ _ _ _ _ _ hbl
          simp only [List.length_drop] at hlen
          have hl1 := s5.len (i := 2) rfl
          have hl2 := s5.len (i := 3) rfl
          simp only [List.length_map, Nat.mul_one] at hl1
          obtain ⟨h6, e6, s6⟩ := s5.fix (i := 2) rfl (closedL_map (fun _ => rfl) l) 1
          have hfx : h5.fixL [.bool (w.first && w.text == [101]), .slice s'] = ([.bool (w.first && w.text == [101]), .slice (lstI l)], h6) := by
            rw [fixL_cons]
            have e0 : h5.fixV (.bool (w.first && w.text == [101])) = (.bool (w.first && w.text == [101]), h5) := rfl
            rw [e0, fixL_one, e6, ← hl1]
          simp only [tup2, comp0, comp1, cond_true, Option.bind_some, slice_slice, bool_bool, nilTest_nilif, Bool.not_true, cond_false]
          obtain ⟨o', h7, e7, s7, l7⟩ := s6.grow (i := 3) (bytes := 32) (m := 1) (vs := blkC (w.first && w.text == [101], l)) rfl rfl (by omega) (by omega)
          rw [hfx, show [AVal.bool (w.first && w.text == [101]), .slice (lstI l)] = blkC (w.first && w.text == [101], l) from rfl, e7, Option.bind_some]
          have s8 := s7.sub (L' := [.own 1 R 0 5 (rdrC W k' e vars m), .mp h0.maps.length m (seenM seen'), .grown 2 o' (blksC bs ++ blkC (w.first && w.text == [101], l))] ++ L) (by
            exact (((List.Sublist.refl _).cons _).cons_cons _).cons_cons _)
          rw [begins_run fuel (d + 3) hk' s8]
          simp only [tup2, comp0, comp1, cond_true, Option.bind_some, bool_bool]
          have hwf : (w.first && w.text == [101]) = (w.text == [101]) := by
            unfold isBk at hb
            cases hfst : w.first with
            | true => rfl
            | false => rw [hfst] at hb; cases hb
          rw [← hwf]
          refine ih N k' (bs ++ [(w.first && w.text == [101], l)]) seen' o' h7 (by omega) (by omega) hk' (by simp; omega) ?_
          rw [blksC_app]
          simpa [blksC] using s8
      | false =>
        simp only [cond_false, Bool.false_eq_true, if_false, Option.bind_some, k_qdimacs_reader_blocks_0_x0]
        exact ⟨_, _, rfl, o, k, seen, rfl, hs, by rw [hd], h2⟩
    · have : k = W.length := by omega
      subst this
      obtain ⟨N, rfl⟩ : ∃ M, N = M + 1 := ⟨N - 1, by omega⟩
      simp only [List.drop_length, begI, blocksT, cond_false, Option.bind_some, k_qdimacs_reader_blocks_0_x0]
      exact ⟨_, _, rfl, o, W.length, seen, rfl, hs, by rw [List.drop_length], h2⟩
theorem blocks_run (fuel d : Nat) {W : List Wd} {e vars : Int} {R m k : Nat} {L : List Chunk} {h0 h : AHeap} (hf : 20 < fuel) (hW : W.length < 70000) (hWf : W.length < fuel) (hk : k ≤ W.length)
    (hs : Sep0 h0 h (.own 1 R 0 5 (rdrC W k e vars m) :: .mp h0.maps.length m [] :: L)) (N : Nat) (hN : W.length < N + k) :
    ∃ v h', run fuel (d + 5) F_qdimacs_reader_blocks [.ptr (.mk ⟨R, 0, 0⟩ 5)] h = some (v, h') ∧ BsPost W e vars R m L h0 (blocksT e vars N (W.drop k) [] []) v h' := by
  rw [e_qdimacs_reader_blocks, begins_run fuel (d + 3) hk hs]
  simp only [tup2, comp0, comp1, cond_true, Option.bind_some, bool_bool]
  exact blks_loop fuel d hf hW hWf fuel N k [] [] .nil h (by omega) hN hk (by simp) (hs.nil2 2)
end Go.Proofs.YtdkckkhghghhdaaDoor

namespace Go.Proofs.YtdkckkhghghhdaaDoor
open Go.RowKit

/-- variables, blocks, clauses, what is amiss -/
abbrev FR := Int × List Blk × List (List Int) × Option (Int × Int)
def rdF (b : List UInt8) : FR := match headT (b.length : Int) (splitOf b true) with
  | .bad c p => (0, [], [], some (c, p))
  | .ok v m => match blocksT (b.length : Int) v ((splitOf b true).length + 1) ((splitOf b true).drop 4) [] [] with
    | .bad p => (0, [], [], some (101, p))
    | .ok bs ws => match clT (b.length : Int) v m ws [] [] with
      | .bad p => (0, [], [], some (101, p))
      | .ok l => (v, bs, l, none)
def formulaC (bs : List Blk) (v : Int) (l : List (List Int)) : List AVal := [.slice (lstBk bs), .int .i64 v, .slice (lstLL l)]
def frA (r : FR) : AVal := .tup [.agg (formulaC r.2.1 r.1 r.2.2.1), errO r.2.2.2]
theorem rdF_code {b : List UInt8} {c p : Int} (h : (rdF b).2.2.2 = some (c, p)) : c = 101 ∨ c = 102 := by
  unfold rdF at h
  split at h
  · rename_i c' p' hh
    simp at h
    rw [← h.1]
    exact headT_code hh
  · split at h
    · simp at h; exact .inl h.1.symm
    · split at h
      · simp at h; exact .inl h.1.symm
      · cases h
theorem freeze_form {h : AHeap} (n : Nat) (bs : List Blk) (v : Int) (l : List (List Int)) : freezeV h (n + 3) (.agg (formulaC bs v l)) = some (.agg (formulaC bs v l)) :=
  freeze_agg (n + 2) (mm3 (freeze_lstBk (n + 1) bs) rfl (freeze_lst _ _ _ (closedL_map closed_lstI l)))
theorem canon_form (bs : List Blk) (v : Int) (l : List (List Int)) : canonV 8 (.agg (formulaC bs v l)) = some (.agg (formulaC bs v l)) := by
  unfold formulaC
  rw [canon_agg, canonM_cons (u := .slice (lstBk bs)) (canon_lst (closedL_flatMap closed_blkC bs)) (canonM_cons (u := .int .i64 v) rfl (canonM_cons (u := .slice (lstLL l)) (canon_lstLL _ _) (canonM_nil _)))]
  rfl
theorem all_len {α : Type} {l : List α} {z : List α} {n : Nat} (hl : l.length = n) (hz : z.length = n) : l.take 0 ++ z ++ l.drop (0 + z.length) = z := by
  rw [List.take_zero, List.nil_append, List.drop_eq_nil_of_le (by omega), List.append_nil]
/-- a whole object written -/
theorem Sep0.putAll {h0 h : AHeap} {L : List Chunk} (hs : Sep0 h0 h L) {i id n : Nat} {cs vs : List AVal} (hi : L[i]? = some (.own 1 id 0 n cs)) (hc : cs.length = n) (hv : vs.length = n) :
    ∃ h', h.storeAt vs (.mk ⟨id, 0, 0⟩ n) = some h' ∧ Sep0 h0 h' (L.set i (.own 1 id 0 n vs)) := by
  obtain ⟨h', e1, s1⟩ := hs.put (o := 0) (l := n) (vs := vs) hi (by omega) (by omega)
  rw [all_len hc hv] at s1
  exact ⟨h', e1, s1⟩
theorem Sep0.getAll {h0 h : AHeap} {L : List Chunk} (hs : Sep0 h0 h L) {i id n : Nat} {cs : List AVal} (hi : L[i]? = some (.own 1 id 0 n cs)) (hc : cs.length = n) : h.cellsAt n (.mk ⟨id, 0, 0⟩ n) = some cs := by
  have := (hs.sep.own hi).parts (o := 0) (k := n) (l := n) (by omega) (by omega)
  rw [List.drop_zero, List.take_of_length_le (by omega)] at this
  exact this
abbrev zero3 : List AVal := [(AVal.slice Sl.nil), (.int .i64 (0 : Int)), (.slice Sl.nil)]
theorem fread_body (fuel d : Nat) {b : List UInt8} (hf : b.length + 40 ≤ fuel) (hb : b.length < 60000) : ∃ v h', brun fuel (d + 8) F_qdimacs_Read [.slice (lstU b)] AHeap.none = some (v, h') ∧ freezeV h' 8 v = some (frA (rdF b)) := by
  have hl := splitLen b
  have s0 := (Sep0.start AHeap.none).push 1 3 (cs := zero3) rfl
  have fr0 : ∀ (h' : AHeap) (u : AVal) (o : Option (Int × Int)), freezeV h' 7 u = some (errO o) → freezeV h' 8 (.tup [.agg zero3, u]) = some (frA (0, [], [], o)) := fun h' u o hu => freeze_tup2 _ (freeze_agg 6 (mm3 rfl rfl rfl)) hu
  rw [e_qdimacs_Read, len_lst, bif_neg (by omega), split_run fuel (d + 4) (by omega) (by omega), Option.bind_some, slice_slice, Option.bind_some, head_run fuel d (by omega)]
  generalize AHeap.push AHeap.none 1 zero3 = H at s0
  unfold rdF
  cases hh : headT (b.length : Int) (splitOf b true) with
  | bad c p =>
    obtain ⟨h', e1, s1⟩ := s0.putAll (i := 0) (vs := zero3) rfl rfl rfl
    simp only [hdA, Option.bind_some, tup4, cond_true, comp0, comp1, comp2, comp3, int_int, atV_no, Bool.not_false]
    rw [e1, Option.bind_some, s1.getAll (i := 0) rfl rfl]
    refine ⟨_, h', rfl, fr0 h' _ (some (c, p)) ?_⟩
    rcases headT_code hh with rfl | rfl <;> rfl
  | ok v m =>
    have h4 := headT_ok4 hh
    have sm := s0.addMap
    have sr := (sm.push 1 5 (cs := rdrC (splitOf b true) 4 (b.length : Int) v H.maps.length) rfl)
    have sp : Sep0 AHeap.none _ (.own 1 (AHeap.next (AHeap.newMap H)) 0 5 (rdrC (splitOf b true) 4 (b.length : Int) v H.maps.length) :: .mp AHeap.none.maps.length H.maps.length [] :: [.own 1 (AHeap.next AHeap.none) 0 3 zero3]) := sr.perm (List.reverse_perm [_, _, _]).symm
    simp only [hdA, Option.bind_some, tup4, cond_true, comp0, comp1, comp2, comp3, int_int, nilTest_nilif, Bool.not_true, cond_false]
    obtain ⟨w, h5, e5, q5⟩ := blocks_run fuel (d + 2) (W := splitOf b true) (k := 4) (by omega) (by omega) (by omega) h4 sp ((splitOf b true).length + 1) (by omega)
    have e5' : run fuel (d + 7) F_qdimacs_reader_blocks [.ptr (.mk ⟨AHeap.next (AHeap.newMap H), 0, 0⟩ 5)] (AHeap.push (AHeap.newMap H) 1 [(AVal.slice (lstW (splitOf b true))), (.int .i64 4), (.int .i64 ((b.length : Nat) : Int)), (.int .i64 v), (.map (some H.maps.length))]) = some (w, h5) := e5
    rw [e5', Option.bind_some]
    cases hbs : blocksT (b.length : Int) v ((splitOf b true).length + 1) ((splitOf b true).drop 4) [] [] with
    | bad p =>
      rw [hbs] at q5
      obtain ⟨r, rfl, s5⟩ := q5
      obtain ⟨h', e1, s1⟩ := s5.putAll (i := 1) (vs := zero3) rfl rfl rfl
      simp only [tup2, comp0, comp1, cond_true, Option.bind_some, slice_slice, nilTest_if, Bool.not_false]
      rw [e1, Option.bind_some, s1.getAll (i := 1) rfl rfl]
      refine ⟨_, h', rfl, fr0 h' _ (some (101, p)) ?_⟩
      rw [freeze_iface, (s1.sep.own (i := 0) rfl).freezePtr (m := 5) (l := 2) rfl (us := [.int .i64 p, err_api_ErrText]) (mm2 rfl rfl)]
      rfl
    | ok bs ws =>
      rw [hbs] at q5
      obtain ⟨s', k', seen, rfl, s5, rfl, hk'⟩ := q5
      have c1 : h5.cell (.mk ⟨AHeap.next (AHeap.newMap H), 0, 0 + 1⟩ 5) = some (.int .i64 (k' : Int)) := s5.part (i := 0) rfl (by omega) rfl
      simp only [tup2, comp0, comp1, cond_true, Option.bind_some, slice_slice, nilTest_nilif, Bool.not_true, cond_false, chk_mk, field_mk, c1, int_int, len_lst, aHi_none, aMx_none]
      rw [aLo_some (by omega) (by omega), Option.bind_some, hasSz_lstN wdC_len, cond_true, Int.toNat_natCast, cut_lstN wdC_len (splitOf b true) (Nat.le_refl _), show ((splitOf b true).drop k').take ((splitOf b true).length - k') = (splitOf b true).drop k' from List.take_of_length_le (by simp), cl_run fuel (d + 3) (by simp; omega) (by simp; omega)]
      cases hc : clT (b.length : Int) v m ((splitOf b true).drop k') [] [] with
      | bad p =>
        obtain ⟨h', e1, s1⟩ := s5.putAll (i := 3) (vs := zero3) rfl rfl rfl
        simp only [clA, Option.bind_some, tup2, comp0, comp1, cond_true, slice_slice]
        rw [show nilTest .iface (atV p err_api_ErrText) = some false from rfl]
        simp only [Option.bind_some, Bool.not_false, cond_true]
        rw [e1, Option.bind_some, s1.getAll (i := 3) rfl rfl]
        exact ⟨_, h', rfl, fr0 h' _ (some (101, p)) rfl⟩
      | ok l =>
        obtain ⟨h', e1, s1⟩ := s5.putAll (i := 3) (vs := [.slice s', .int .i64 v, .slice (lstLL l)]) rfl rfl rfl
        simp only [clA, Option.bind_some, tup2, comp0, comp1, cond_true, slice_slice, nilTest_nilif, Bool.not_true, cond_false]
        rw [e1, Option.bind_some, s1.getAll (i := 3) rfl rfl]
        refine ⟨_, h', rfl, freeze_tup2 _ (freeze_agg 6 (mm3 ?_ rfl (freeze_lst _ _ _ (closedL_map closed_lstI l)))) rfl⟩
        have hl2 := s1.len (i := 2) rfl
        rw [flatMap_len blkC_len] at hl2
        rw [(s1.sep.grown (i := 2) rfl).freeze (n := 5) (by omega) (freeze_blksC 4 bs), show s'.len = bs.length by omega]
theorem fread_run (fuel d : Nat) {b : List UInt8} (hf : b.length + 40 ≤ fuel) (hb : b.length < 60000) (h : AHeap) : run fuel (d + 8) F_qdimacs_Read [.slice (lstU b)] h = some (frA (rdF b), h) := by
  obtain ⟨v, h', e1, e2⟩ := fread_body fuel d hf hb
  exact pure_of rfl rfl (cc1 (canon_lstU 7 b)) e1 e2
theorem fread_nil (fuel d : Nat) (hf : 40 ≤ fuel) (h : AHeap) : run fuel (d + 8) F_qdimacs_Read [.slice .nil] h = some (frA (rdF []), h) := by
  obtain ⟨v, h', e1, e2⟩ := fread_body fuel d (b := []) (by simp; omega) (by simp)
  exact pure_of rfl rfl (cc1 (canon_nil 7)) e1 e2
theorem fread_any (fuel d : Nat) {b : List UInt8} (hf : b.length + 40 ≤ fuel) (hb : b.length < 60000) {h : AHeap} {s : Sl} (hs : freezeV h 8 (.slice s) = some (.slice (lstU b))) : ∃ ids, run fuel (d + 8) F_qdimacs_Read [.slice s] h = some (frA (rdF b), h.markRo ids) := by
  obtain ⟨v, h', e1, e2⟩ := fread_body fuel d hf hb
  exact run_any rfl rfl (mm1 hs) e1 e2
end Go.Proofs.YtdkckkhghghhdaaDoor

namespace Go.Proofs.YtdkckkhghghhdaaDoor
open Go.RowKit

/-- a line's numbers -/
def LnOk (l : List Int) : Prop := l.length < 1000 ∧ ∀ x ∈ l, Num64 x
theorem numsT_num : ∀ {l : List Int}, (∀ x ∈ l, Num64 x) → (numsT l).length ≤ 21 * l.length
  | [], _ => by simp [numsT]
  | x :: l, hx => by
    have h1 := numsT_num (l := l) fun y hy => hx y (List.mem_cons_of_mem _ hy)
    have h2 := decT_len (hx x (List.mem_cons_self ..))
    have e : numsT (x :: l) = decT x ++ [32] ++ numsT l := by simp [numsT]
    rw [e, List.length_append, List.length_append, List.length_cons]
    simp
    omega
theorem LnOk.len {l : List Int} (h : LnOk l) : (lineT l).length ≤ 30000 := by
  have := numsT_num h.2
  have := h.1
  simp only [lineT, List.length_append, List.length_cons, List.length_nil]
  omega
def linesT (l : List (List Int)) : List UInt8 := l.flatMap lineT
theorem linesT_cons (c : List Int) (l : List (List Int)) : linesT (c :: l) = lineT c ++ linesT l := by simp [linesT]
def blkT (b : Blk) : List UInt8 := (if b.1 = true then [101, 32] else [97, 32]) ++ lineT b.2
def blksT (l : List Blk) : List UInt8 := l.flatMap blkT
theorem blksT_cons (c : Blk) (l : List Blk) : blksT (c :: l) = blkT c ++ blksT l := by simp [blksT]
def cnfTx (v : Int) (l : List (List Int)) : List UInt8 := headTx v (l.length : Int) ++ linesT l
def formTx (bs : List Blk) (v : Int) (l : List (List Int)) : List UInt8 := headTx v (l.length : Int) ++ blksT bs ++ linesT l

theorem ln_run (fuel d : Nat) (hf : 1000 ≤ fuel) {l : List Int} (hl : LnOk l) {h0 h : AHeap} {s : Sl} {t : List UInt8} (ht : t.length < 700000000) (hs : Sep0 h0 h [.grown 1 s (bytesC t)]) :
    ∃ s' h', run fuel (d + 6) F_dimacs_Line [.slice s, .slice (lstI l)] h = some (.slice s', h') ∧ Sep0 h0 h' [.grown 1 s' (bytesC (t ++ lineT l))] := by
  have h1 := hl.1
  exact lineP_run fuel (d + 5) (by omega) (by omega) (fun x hx => (hl.2 x hx).app fuel d (by omega)) (by omega) hs
theorem rln_run (fuel d : Nat) (hf : 1000 ≤ fuel) {l : List Int} (hl : LnOk l) {h0 h : AHeap} {s : Sl} {t : List UInt8} (ht : t.length < 700000000) (hs : Sep0 h0 h [.grown 1 s (bytesC t)]) :
    ∃ s' h', run fuel (d + 6) F_skolemref1_lits [.slice s, .slice (lstI l)] h = some (.slice s', h') ∧ Sep0 h0 h' [.grown 1 s' (bytesC (t ++ lineT l))] := by
  have h1 := hl.1
  exact rlits_run fuel (d + 5) (by omega) (by omega) (fun x hx => (hl.2 x hx).app fuel d (by omega)) (by omega) hs

theorem dB_loop (fuel d : Nat) (hf : 1000 ≤ fuel) {l : List (List Int)} (hl : l.length < 10000) (hok : ∀ c ∈ l, LnOk c) {h0 : AHeap} : ∀ (n k : Nat) (s : Sl) (t : List UInt8) (h : AHeap), l.length < n + k → k ≤ l.length → t.length + 30000 * (l.length - k) < 600000000 → Sep0 h0 h [.grown 1 s (bytesC t)] →
    ∃ s' h', (l_dimacs_Bytes_0 fuel (d + 6) n [(3, .slice s), (9, .slice (lstLL l)), (10, .int .i64 (l.length : Int)), (11, .int .i64 (k : Int))] h).bind (fun p => k_dimacs_Bytes_0 fuel (d + 6) p.1 p.2.1 p.2.2) = some (.slice s', h') ∧ Sep0 h0 h' [.grown 1 s' (bytesC (t ++ linesT (l.drop k)))] := by
  intro n
  induction n with
  | zero => intro k s t h h1 h2; omega
  | succ n ih =>
    intro k s t h h1 h2 ht hs
    rw [l_dimacs_Bytes_0_eq]
    by_cases hk : k < l.length
    · have hd : l.drop k = l.getD k [] :: l.drop (k + 1) := by rw [List.drop_eq_getElem_cons hk]; simp [List.getD, hk]
      have hx := hok (l.getD k []) (by simp [List.getD, hk])
      rw [bif_pos (by omega), addr_lstM _ (by omega) (by omega) [], hd, Int.toNat_natCast]
      generalize l.getD k [] = c at hx
      have := hx.len
      simp only [Option.bind_some, cell_fp, slice_slice]
      obtain ⟨s1, h1', e1, q1⟩ := ln_run fuel d hf hx (by omega) hs
      rw [e1]
      simp only [Option.bind_some, slice_slice]
      rw [sucU (by omega)]
      obtain ⟨s2, h2', e2, q2⟩ := ih (k + 1) s1 _ h1' (by omega) (by omega) (by simp; omega) q1
      refine ⟨s2, h2', e2, ?_⟩
      rw [linesT_cons, ← List.append_assoc]
      exact q2
    · have : k = l.length := by omega
      subst this
      rw [bif_neg (by omega), List.drop_length]
      simp only [Option.bind_some, k_dimacs_Bytes_0_x0]
      exact ⟨s, h, rfl, by simpa [linesT] using hs⟩
theorem Sep0.lift {g h0 h : AHeap} {L K : List Chunk} (hb : Sep0 g h0 K) (hs : Sep0 h0 h L) : Sep0 g h L := ⟨hs.sep, hb.ext.trans hs.ext, fun c hc r hr => Nat.le_trans hb.ext.1 (hs.fresh c hc r hr)⟩
theorem Sep0.keepCell {g h0 h : AHeap} {L K : List Chunk} (hs : Sep0 h0 h L) (hb : Sep0 g h0 K) {i sz id gen n o l : Nat} {cs : List AVal} (hi : K[i]? = some (.own sz id gen n cs)) {v : AVal} (hl : o < l) (hv : cs[o]? = some v) : h.cell (.mk ⟨id, gen, o⟩ l) = some v :=
  cell_keep hs.ext (fun h => h) (hb.part hi hl hv)
theorem canon_cnf (v : Int) (l : List (List Int)) : canonV 8 (.agg (cnfC v l)) = some (.agg (cnfC v l)) := by
  unfold cnfC
  rw [canon_agg, canonM_cons (u := .int .i64 v) rfl (canonM_cons (u := .slice (lstLL l)) (canon_lstLL _ _) (canonM_nil _))]
  rfl
theorem bytes_fr {h0 h : AHeap} {s : Sl} {t : List UInt8} (hs : Sep0 h0 h [.grown 1 s (bytesC t)]) : freezeV h 8 (.slice s) = some (.slice (lstU t)) := by
  have hl := hs.len (i := 0) rfl
  simp only [List.length_map, Nat.mul_one] at hl
  rw [(hs.sep.grown (i := 0) rfl).freeze (n := 7) (by omega) (freeze_bytesC 6 _), ← hl]
theorem dB_run (fuel d : Nat) (hf : 1000 ≤ fuel) {v : Int} {l : List (List Int)} (hv : Num64 v) (hl : l.length < 10000) (hlf : l.length < fuel) (hok : ∀ c ∈ l, LnOk c) (h : AHeap) : run fuel (d + 7) F_dimacs_Bytes [.agg (cnfC v l)] h = some (.slice (lstU (cnfTx v l)), h) := by
  have hlen := headTx_len hv (show Num64 (l.length : Int) from ⟨by omega, by omega⟩)
  have s1 := (Sep0.start AHeap.none).push 1 2 (cs := cnfC v l) rfl
  obtain ⟨s2, h2, e2, q2⟩ := headB_run fuel d (by omega) (l := l) hv (by omega) (AHeap.none.push 1 (cnfC v l))
  obtain ⟨s3, h3, e3, q3⟩ := dB_loop fuel d hf hl hok fuel 0 s2 _ h2 (by omega) (by omega) (by omega) q2
  refine pure_of rfl rfl (cc1 (canon_cnf v l)) (r := .slice s3) (h' := h3) ?_ ?_
  · rw [e_dimacs_Bytes, show List.all (cnfC v l) AVal.isCell = true from rfl, cond_true, show (cnfC v l).length = 2 from rfl, s1.getAll (i := 0) rfl rfl, Option.bind_some, e2]
    simp only [Option.bind_some, slice_slice, field_mk]
    rw [q2.keepCell s1 (i := 0) (o := 0 + 1) (l := 2) rfl (by omega) rfl]
    simp only [Option.bind_some, slice_slice, len_lst]
    exact e3
  · rw [List.drop_zero] at q3
    exact bytes_fr q3
theorem rB_loop (fuel d : Nat) (hf : 1000 ≤ fuel) {X : Nat} {v : Int} {l : List (List Int)} (hl : l.length < 10000) (hok : ∀ c ∈ l, LnOk c) {g h0 : AHeap} (hb : Sep0 g h0 [.own 1 X 0 2 (cnfC v l)]) : ∀ (n k : Nat) (s : Sl) (t : List UInt8) (h : AHeap), l.length < n + k → k ≤ l.length → t.length + 30000 * (l.length - k) < 600000000 → Sep0 h0 h [.grown 1 s (bytesC t)] →
    ∃ s' h', (l_skolemref1_CNFBytes_0 fuel (d + 6) n [(1, .ptr (.mk ⟨X, 0, 0⟩ 2)), (3, .slice s), (4, .int .i64 (k : Int))] h).bind (fun p => k_skolemref1_CNFBytes_0 fuel (d + 6) p.1 p.2.1 p.2.2) = some (.slice s', h') ∧ Sep0 h0 h' [.grown 1 s' (bytesC (t ++ linesT (l.drop k)))] := by
  intro n
  induction n with
  | zero => intro k s t h h1 h2; omega
  | succ n ih =>
    intro k s t h h1 h2 ht hs
    have c1 : h.cell (.mk ⟨X, 0, 0 + 1⟩ 2) = some (.slice (lstLL l)) := hs.keepCell hb (i := 0) rfl (by omega) rfl
    rw [l_skolemref1_CNFBytes_0_eq]
    simp only [field_mk, Option.bind_some, c1, slice_slice]
    rw [len_lst]
    by_cases hk : k < l.length
    · have hd : l.drop k = l.getD k [] :: l.drop (k + 1) := by rw [List.drop_eq_getElem_cons hk]; simp [List.getD, hk]
      have hx := hok (l.getD k []) (by simp [List.getD, hk])
      rw [bif_pos (by omega), addr_lstM _ (by omega) (by omega) [], hd, Int.toNat_natCast]
      generalize l.getD k [] = c at hx
      have := hx.len
      simp only [Option.bind_some, cell_fp, slice_slice]
      obtain ⟨s1, h1', e1, q1⟩ := rln_run fuel d hf hx (by omega) hs
      rw [e1]
      simp only [Option.bind_some, slice_slice]
      rw [sucU (by omega)]
      obtain ⟨s2, h2', e2, q2⟩ := ih (k + 1) s1 _ h1' (by omega) (by omega) (by simp; omega) q1
      refine ⟨s2, h2', e2, ?_⟩
      rw [linesT_cons, ← List.append_assoc]
      exact q2
    · have : k = l.length := by omega
      subst this
      rw [bif_neg (by omega), List.drop_length]
      simp only [Option.bind_some, k_skolemref1_CNFBytes_0_x0]
      exact ⟨s, h, rfl, by simpa [linesT] using hs⟩
theorem rB_run (fuel d : Nat) (hf : 1000 ≤ fuel) {v : Int} {l : List (List Int)} (hv : Num64 v) (hl : l.length < 10000) (hlf : l.length < fuel) (hok : ∀ c ∈ l, LnOk c) (h : AHeap) : run fuel (d + 7) F_skolemref1_CNFBytes [.agg (cnfC v l)] h = some (.slice (lstU (cnfTx v l)), h) := by
  have hlen := headTx_len hv (show Num64 (l.length : Int) from ⟨by omega, by omega⟩)
  have s1 := (Sep0.start AHeap.none).push 1 2 (cs := cnfC v l) rfl
  obtain ⟨s2, h2, e2, q2⟩ := rhd_run fuel d (by omega) (l := l) hv (by omega) (AHeap.none.push 1 (cnfC v l))
  obtain ⟨s3, h3, e3, q3⟩ := rB_loop fuel d hf hl hok s1 fuel 0 s2 _ h2 (by omega) (by omega) (by omega) q2
  refine pure_of rfl rfl (cc1 (canon_cnf v l)) (r := .slice s3) (h' := h3) ?_ ?_
  · rw [e_skolemref1_CNFBytes, show List.all (cnfC v l) AVal.isCell = true from rfl, cond_true, show (cnfC v l).length = 2 from rfl, s1.getAll (i := 0) rfl rfl, Option.bind_some, e2]
    simp only [Option.bind_some, slice_slice]
    exact e3
  · rw [List.drop_zero] at q3
    exact bytes_fr q3

/-! formulas -/
theorem qB_lines (fuel d : Nat) (hf : 1000 ≤ fuel) {l : List (List Int)} (hl : l.length < 10000) (hok : ∀ c ∈ l, LnOk c) {h0 : AHeap} : ∀ (n k : Nat) (s : Sl) (t : List UInt8) (h : AHeap), l.length < n + k → k ≤ l.length → t.length + 30000 * (l.length - k) < 600000000 → Sep0 h0 h [.grown 1 s (bytesC t)] →
    ∃ s' h', (l_qdimacs_Bytes_1 fuel (d + 6) n [(3, .slice s), (33, .slice (lstLL l)), (34, .int .i64 (l.length : Int)), (35, .int .i64 (k : Int))] h).bind (fun p => k_qdimacs_Bytes_2 fuel (d + 6) p.1 p.2.1 p.2.2) = some (.slice s', h') ∧ Sep0 h0 h' [.grown 1 s' (bytesC (t ++ linesT (l.drop k)))] := by
  intro n
  induction n with
  | zero => intro k s t h h1 h2; omega
  | succ n ih =>
    intro k s t h h1 h2 ht hs
    rw [l_qdimacs_Bytes_1_eq]
    by_cases hk : k < l.length
    · have hd : l.drop k = l.getD k [] :: l.drop (k + 1) := by rw [List.drop_eq_getElem_cons hk]; simp [List.getD, hk]
      have hx := hok (l.getD k []) (by simp [List.getD, hk])
      rw [bif_pos (by omega), addr_lstM _ (by omega) (by omega) [], hd, Int.toNat_natCast]
      generalize l.getD k [] = c at hx
      have := hx.len
      simp only [Option.bind_some, cell_fp, slice_slice]
      obtain ⟨s1, h1', e1, q1⟩ := ln_run fuel d hf hx (by omega) hs
      rw [e1]
      simp only [Option.bind_some, slice_slice]
      rw [sucU (by omega)]
      obtain ⟨s2, h2', e2, q2⟩ := ih (k + 1) s1 _ h1' (by omega) (by omega) (by simp; omega) q1
      refine ⟨s2, h2', e2, ?_⟩
      rw [linesT_cons, ← List.append_assoc]
      exact q2
    · have : k = l.length := by omega
      subst this
      rw [bif_neg (by omega), List.drop_length]
      simp only [Option.bind_some, k_qdimacs_Bytes_2_x2]
      exact ⟨s, h, rfl, by simpa [linesT] using hs⟩
theorem isCellB (b : Blk) : (!false && Nat.beq (List.length (blkC b)) 2 && List.all (blkC b) AVal.isCell) = true := rfl
theorem copyB {h0 h : AHeap} {L : List Chunk} (hs : Sep0 h0 h L) (b : Blk) : ∃ h3, AHeap.storeAt (AHeap.push h 1 [(.bool false), (.slice Sl.nil)]) (blkC b) (Pt.mk ⟨AHeap.next h, 0, 0⟩ 2) = some h3 ∧ Sep0 h0 h3 (L ++ [.own 1 h.next 0 2 (blkC b)]) := by
  have s1 := hs.push 1 2 (cs := [(AVal.bool false), (.slice Sl.nil)]) rfl
  have hi : (L ++ [Chunk.own 1 h.next 0 2 [(AVal.bool false), (.slice Sl.nil)]])[L.length]? = some (Chunk.own 1 h.next 0 2 [(AVal.bool false), (.slice Sl.nil)]) := by simp
  obtain ⟨h3, e1, s2⟩ := s1.putAll (vs := blkC b) hi rfl rfl
  have hset : (L ++ [Chunk.own 1 h.next 0 2 [(AVal.bool false), (.slice Sl.nil)]]).set L.length (Chunk.own 1 h.next 0 2 (blkC b)) = L ++ [Chunk.own 1 h.next 0 2 (blkC b)] := by simp
  exact ⟨h3, e1, by rw [← hset]; exact s2⟩
theorem qB_blks (fuel d : Nat) (hf : 1000 ≤ fuel) {x1 : Pt} {bs : List Blk} (hl : bs.length < 10000) (hok : ∀ c ∈ bs, LnOk c.2) {h0 : AHeap} : ∀ (n k : Nat) (s : Sl) (t : List UInt8) (h : AHeap), bs.length < n + k → k ≤ bs.length → t.length + 30100 * (bs.length - k) < 600000000 → Sep0 h0 h [.grown 1 s (bytesC t)] →
    ∃ s' h', l_qdimacs_Bytes_0 fuel (d + 6) n [(1, .ptr x1), (3, .slice s), (12, .slice (lstBk bs)), (13, .int .i64 (bs.length : Int)), (14, .int .i64 (k : Int))] h = some (.exit 0, [(1, .ptr x1), (3, .slice s')], h') ∧ Sep0 h0 h' [.grown 1 s' (bytesC (t ++ blksT (bs.drop k)))] := by
  intro n
  induction n with
  | zero => intro k s t h h1 h2; omega
  | succ n ih =>
    intro k s t h h1 h2 ht hs
    rw [l_qdimacs_Bytes_0_eq]
    by_cases hk : k < bs.length
    · have hd : bs.drop k = bs.getD k (false, []) :: bs.drop (k + 1) := by rw [List.drop_eq_getElem_cons hk]; simp [List.getD, hk]
      have hx := hok (bs.getD k (false, [])) (by simp [List.getD, hk])
      rw [bif_pos (by omega), addr_lstN (sz := 2) (f := blkC) blkC_len (by omega) (by omega) (false, []), hd, Int.toNat_natCast]
      generalize bs.getD k (false, []) = b at hx
      have hlen := hx.len
      obtain ⟨h3, e3, s3⟩ := copyB hs b
      have c0 : h3.cell (.mk ⟨h.next, 0, 0 + 0⟩ 2) = some (.bool b.1) := s3.part (i := 1) rfl (by omega) rfl
      rw [Option.bind_some, cellsAt_fp (blkC_len b), Option.bind_some, cond_pos _ _ (isCellB b), e3]
      simp only [Option.bind_some, field_mk, c0, bool_bool]
      have tail : ∀ (u : List UInt8) (a : Sl) (g : AHeap), u.length = 2 → u ++ lineT b.2 = blkT b → Sep0 h0 g [.grown 1 a (bytesC (t ++ u)), .own 1 h.next 0 2 (blkC b)] →
          ∃ s' h', k_qdimacs_Bytes_1 fuel (d + 6) n .normal [(1, .ptr x1), (3, .slice a), (5, .ptr (.mk ⟨h.next, 0, 0⟩ 2)), (12, .slice (lstBk bs)), (13, .int .i64 (bs.length : Int)), (14, .int .i64 (k : Int))] g = some (.exit 0, [(1, .ptr x1), (3, .slice s')], h') ∧ Sep0 h0 h' [.grown 1 s' (bytesC (t ++ blksT (b :: bs.drop (k + 1))))] := by
        intro u a g hu hub sg
        have c1 : g.cell (.mk ⟨h.next, 0, 0 + 1⟩ 2) = some (.slice (lstI b.2)) := sg.part (i := 1) rfl (by omega) rfl
        rw [k_qdimacs_Bytes_1_n]
        simp only [field_mk, Option.bind_some, c1, slice_slice]
        obtain ⟨s1, h1', e1, q1⟩ := ln_run fuel d hf hx (t := t ++ u) (by simp; omega) (Sep0.init (L := [_]) sg)
        rw [e1]
        simp only [Option.bind_some, slice_slice]
        rw [sucU (by omega)]
        obtain ⟨s2, h2', e2, q2⟩ := ih (k + 1) s1 _ h1' (by omega) (by omega) (by simp; omega) q1
        refine ⟨s2, h2', e2, ?_⟩
        rw [blksT_cons, ← hub]
        simpa using q2
      cases hb : b.1 with
      | true =>
        rw [cond_true, show [(AVal.int .u8 (101 : Int)), (AVal.int .u8 (32 : Int))] = bytesC [101, 32] from rfl, lit_cells h3 [101, 32] (n := 2) rfl, Option.bind_some, Sl.len]
        have hl := s3.len (i := 0) rfl
        simp only [List.length_map, Nat.mul_one] at hl
        obtain ⟨a, g, e4, s4, _⟩ := (s3.junk (cs := bytesC [101, 32])).grow (i := 0) (bytes := 1) (m := 2) (vs := bytesC [101, 32]) rfl rfl (by omega) (by omega)
        rw [← bytesC_app] at s4
        rw [e4]
        simp only [Option.bind_some]
        exact tail [101, 32] a g rfl (by unfold blkT; rw [hb]; rfl) s4
      | false =>
        rw [cond_false, show [(AVal.int .u8 (97 : Int)), (AVal.int .u8 (32 : Int))] = bytesC [97, 32] from rfl, lit_cells h3 [97, 32] (n := 2) rfl, Option.bind_some, Sl.len]
        have hl := s3.len (i := 0) rfl
        simp only [List.length_map, Nat.mul_one] at hl
        obtain ⟨a, g, e4, s4, _⟩ := (s3.junk (cs := bytesC [97, 32])).grow (i := 0) (bytes := 1) (m := 2) (vs := bytesC [97, 32]) rfl rfl (by omega) (by omega)
        rw [← bytesC_app] at s4
        rw [e4]
        simp only [Option.bind_some]
        exact tail [97, 32] a g rfl (by unfold blkT; rw [hb]; rfl) s4
    · have : k = bs.length := by omega
      subst this
      rw [bif_neg (by omega), List.drop_length]
      exact ⟨s, h, rfl, by simpa [blksT] using hs⟩
theorem blksT_len : ∀ {bs : List Blk}, (∀ c ∈ bs, LnOk c.2) → (blksT bs).length ≤ 30100 * bs.length
  | [], _ => by simp [blksT]
  | b :: bs, h => by
    have h1 := blksT_len (bs := bs) fun c hc => h c (List.mem_cons_of_mem _ hc)
    have h2 := (h b (List.mem_cons_self ..)).len
    rw [blksT_cons, List.length_append, List.length_cons]
    have h3 : (blkT b).length ≤ 2 + 30000 := by
      unfold blkT
      rw [List.length_append]
      split <;> simp <;> omega
    omega
theorem qB_body (fuel d : Nat) (hf : 1000 ≤ fuel) {bs : List Blk} {v : Int} {l : List (List Int)} (hv : Num64 v) (hl : l.length < 5000) (hlf : l.length < fuel) (hbl : bs.length < 1000) (hbf : bs.length < fuel) (hok : ∀ c ∈ l, LnOk c) (hbk : ∀ c ∈ bs, LnOk c.2) :
    ∃ s' h', brun fuel (d + 7) F_qdimacs_Bytes [.agg (formulaC bs v l)] AHeap.none = some (.slice s', h') ∧ freezeV h' 8 (.slice s') = some (.slice (lstU (formTx bs v l))) := by
  have hlen := headTx_len hv (show Num64 (l.length : Int) from ⟨by omega, by omega⟩)
  have s1 := (Sep0.start AHeap.none).push 1 3 (cs := formulaC bs v l) rfl
  obtain ⟨s2, h2, e2, q2⟩ := headB_run fuel d (by omega) (l := l) hv (by omega) (AHeap.none.push 1 (formulaC bs v l))
  obtain ⟨s3, h3, e3, q3⟩ := qB_blks fuel d hf (x1 := .mk ⟨AHeap.next AHeap.none, 0, 0⟩ 3) (by omega) hbk fuel 0 s2 _ h2 (by omega) (by omega) (by omega) q2
  rw [List.drop_zero] at q3
  have hb3 := blksT_len hbk
  obtain ⟨s4, h4, e4, q4⟩ := qB_lines fuel d hf (by omega) hok fuel 0 s3 _ h3 (by omega) (by omega) (by rw [List.length_append]; omega) q3
  rw [List.drop_zero] at q4
  refine ⟨s4, h4, ?_, bytes_fr q4⟩
  have c12 : (AHeap.none.push 1 (formulaC bs v l)).cellsAt 2 (.mk ⟨AHeap.next AHeap.none, 0, 0 + 1⟩ 3) = some (cnfC v l) := by
    have := (s1.sep.own (i := 0) rfl).parts (o := 0 + 1) (k := 2) (l := 3) (by omega) (by simp [formulaC])
    exact this
  rw [e_qdimacs_Bytes, show List.all (formulaC bs v l) AVal.isCell = true from rfl, cond_true, show (formulaC bs v l).length = 3 from rfl]
  simp only [field_mk, Option.bind_some, c12]
  rw [e2]
  simp only [Option.bind_some, slice_slice]
  rw [q2.keepCell s1 (i := 0) (o := 0 + 0) (l := 3) rfl (by omega) rfl]
  simp only [Option.bind_some, slice_slice, len_lst]
  rw [show ((0 : Nat) : Int) = 0 from rfl] at e3
  rw [e3]
  simp only [Option.bind_some, k_qdimacs_Bytes_0_x0, field_mk]
  rw [q3.keepCell s1 (i := 0) (o := 0 + 1 + 1) (l := 3) rfl (by omega) rfl]
  simp only [Option.bind_some, slice_slice, len_lst]
  exact e4
theorem qB_run (fuel d : Nat) (hf : 1000 ≤ fuel) {bs : List Blk} {v : Int} {l : List (List Int)} (hv : Num64 v) (hl : l.length < 5000) (hlf : l.length < fuel) (hbl : bs.length < 1000) (hbf : bs.length < fuel) (hok : ∀ c ∈ l, LnOk c) (hbk : ∀ c ∈ bs, LnOk c.2) (h : AHeap) :
    run fuel (d + 7) F_qdimacs_Bytes [.agg (formulaC bs v l)] h = some (.slice (lstU (formTx bs v l)), h) := by
  obtain ⟨s', h', e1, e2⟩ := qB_body fuel d hf hv hl hlf hbl hbf hok hbk
  exact pure_of rfl rfl (cc1 (canon_form bs v l)) e1 e2
theorem qB_none (fuel d : Nat) (hf : 1000 ≤ fuel) (h : AHeap) : run fuel (d + 7) F_qdimacs_Bytes [.agg zero3] h = some (.slice (lstU (formTx [] 0 [])), h) := by
  obtain ⟨s', h', e1, e2⟩ := qB_body fuel d hf (bs := []) (v := 0) (l := []) ⟨by omega, by omega⟩ (by simp) (by simp; omega) (by simp) (by simp; omega) (fun c hc => by cases hc) (fun c hc => by cases hc)
  exact pure_of rfl rfl (cc1 rfl) e1 e2

/-! the reference's -/
theorem fB_lines (fuel d : Nat) (hf : 1000 ≤ fuel) {X : Nat} {bs : List Blk} {v : Int} {l : List (List Int)} (hl : l.length < 10000) (hok : ∀ c ∈ l, LnOk c) {g h0 : AHeap} (hb : Sep0 g h0 [.own 1 X 0 3 (formulaC bs v l)]) : ∀ (n k : Nat) (s : Sl) (t : List UInt8) (h : AHeap), l.length < n + k → k ≤ l.length → t.length + 30000 * (l.length - k) < 600000000 → Sep0 h0 h [.grown 1 s (bytesC t)] →
    ∃ s' h', (l_skolemref1_FormulaBytes_1 fuel (d + 6) n [(1, .ptr (.mk ⟨X, 0, 0⟩ 3)), (3, .slice s), (6, .int .i64 (k : Int))] h).bind (fun p => k_skolemref1_FormulaBytes_2 fuel (d + 6) p.1 p.2.1 p.2.2) = some (.slice s', h') ∧ Sep0 h0 h' [.grown 1 s' (bytesC (t ++ linesT (l.drop k)))] := by
  intro n
  induction n with
  | zero => intro k s t h h1 h2; omega
  | succ n ih =>
    intro k s t h h1 h2 ht hs
    have c2 : h.cell (.mk ⟨X, 0, 0 + 1 + 1⟩ 3) = some (.slice (lstLL l)) := hs.keepCell hb (i := 0) rfl (by omega) rfl
    rw [l_skolemref1_FormulaBytes_1_eq]
    simp only [field_mk, Option.bind_some, c2, slice_slice]
    rw [len_lst]
    by_cases hk : k < l.length
    · have hd : l.drop k = l.getD k [] :: l.drop (k + 1) := by rw [List.drop_eq_getElem_cons hk]; simp [List.getD, hk]
      have hx := hok (l.getD k []) (by simp [List.getD, hk])
      rw [bif_pos (by omega), addr_lstM _ (by omega) (by omega) [], hd, Int.toNat_natCast]
      generalize l.getD k [] = c at hx
      have := hx.len
      simp only [Option.bind_some, cell_fp, slice_slice]
      obtain ⟨s1, h1', e1, q1⟩ := rln_run fuel d hf hx (by omega) hs
      rw [e1]
      simp only [Option.bind_some, slice_slice]
      rw [sucU (by omega)]
      obtain ⟨s2, h2', e2, q2⟩ := ih (k + 1) s1 _ h1' (by omega) (by omega) (by simp; omega) q1
      refine ⟨s2, h2', e2, ?_⟩
      rw [linesT_cons, ← List.append_assoc]
      exact q2
    · have : k = l.length := by omega
      subst this
      rw [bif_neg (by omega), List.drop_length]
      simp only [Option.bind_some, k_skolemref1_FormulaBytes_2_x2]
      exact ⟨s, h, rfl, by simpa [linesT] using hs⟩
theorem fB_blks (fuel d : Nat) (hf : 1000 ≤ fuel) {X : Nat} {bs : List Blk} {v : Int} {l : List (List Int)} (hl : bs.length < 10000) (hok : ∀ c ∈ bs, LnOk c.2) {g h0 : AHeap} (hb : Sep0 g h0 [.own 1 X 0 3 (formulaC bs v l)]) : ∀ (n k : Nat) (s : Sl) (t : List UInt8) (h : AHeap), bs.length < n + k → k ≤ bs.length → t.length + 30100 * (bs.length - k) < 600000000 → Sep0 h0 h [.grown 1 s (bytesC t)] →
    ∃ s' h', l_skolemref1_FormulaBytes_0 fuel (d + 6) n [(1, .ptr (.mk ⟨X, 0, 0⟩ 3)), (3, .slice s), (4, .int .i64 (k : Int))] h = some (.exit 0, [(1, .ptr (.mk ⟨X, 0, 0⟩ 3)), (3, .slice s')], h') ∧ Sep0 h0 h' [.grown 1 s' (bytesC (t ++ blksT (bs.drop k)))] := by
  intro n
  induction n with
  | zero => intro k s t h h1 h2; omega
  | succ n ih =>
    intro k s t h h1 h2 ht hs
    have c0 : ∀ {L : List Chunk} {H : AHeap}, Sep0 h0 H L → H.cell (.mk ⟨X, 0, 0 + 0⟩ 3) = some (.slice (lstBk bs)) := fun hs => hs.keepCell hb (i := 0) rfl (by omega) rfl
    rw [l_skolemref1_FormulaBytes_0_eq]
    simp only [field_mk, Option.bind_some, c0 hs, slice_slice]
    rw [len_lst]
    by_cases hk : k < bs.length
    · have hd : bs.drop k = bs.getD k (false, []) :: bs.drop (k + 1) := by rw [List.drop_eq_getElem_cons hk]; simp [List.getD, hk]
      have hx := hok (bs.getD k (false, [])) (by simp [List.getD, hk])
      have a1 : ∀ h : AHeap, h.addr 2 (lstBk bs) (k : Int) = some (.fp 0 (blkC (bs.getD k (false, [])))) := fun h => addr_lstN (sz := 2) (f := blkC) blkC_len (l := bs) (j := (k : Int)) (by omega) (by omega) (false, []) false
      rw [bif_pos (by omega), a1, hd]
      generalize bs.getD k (false, []) = b at hx a1
      have hlen := hx.len
      simp only [Option.bind_some, blkC, field_fp, List.drop_zero, cell_fp, bool_bool]
      have tail : ∀ (z : UInt8), [z, 32] ++ lineT b.2 = blkT b →
          ∃ s' h', k_skolemref1_FormulaBytes_1 fuel (d + 6) n .normal [(1, .ptr (.mk ⟨X, 0, 0⟩ 3)), (3, .slice s), (4, .int .i64 (k : Int)), (5, .int .u8 (z.toNat : Int))] h = some (.exit 0, [(1, .ptr (.mk ⟨X, 0, 0⟩ 3)), (3, .slice s')], h') ∧ Sep0 h0 h' [.grown 1 s' (bytesC (t ++ blksT (b :: bs.drop (k + 1))))] := by
        intro z hz
        rw [k_skolemref1_FormulaBytes_1_n, show [(AVal.int .u8 (z.toNat : Int)), (.int .u8 (32 : Int))] = bytesC [z, 32] from rfl]
        obtain ⟨a, g, e4, s4⟩ := lit_append hs [z, 32] (m := 2) rfl (by simp; omega)
        rw [e4]
        simp only [Option.bind_some, field_mk, c0 s4, c0 hs, slice_slice, same_self, a1, blkC, field_fp, List.drop_succ_cons, List.drop_zero, cell_fp]
        obtain ⟨s1, h1', e1, q1⟩ := rln_run fuel d hf hx (t := t ++ [z, 32]) (by simp; omega) s4
        rw [e1]
        simp only [Option.bind_some, slice_slice]
        rw [sucU (by omega)]
        obtain ⟨s2, h2', e2, q2⟩ := ih (k + 1) s1 _ h1' (by omega) (by omega) (by simp; omega) q1
        refine ⟨s2, h2', e2, ?_⟩
        rw [blksT_cons, ← hz]
        simpa using q2
      cases hb : b.1 with
      | true =>
        simp only [cond_true, Option.bind_some]
        exact tail 101 (by unfold blkT; rw [hb]; rfl)
      | false =>
        simp only [cond_false, Option.bind_some]
        exact tail 97 (by unfold blkT; rw [hb]; rfl)
    · have : k = bs.length := by omega
      subst this
      rw [bif_neg (by omega), List.drop_length]
      exact ⟨s, h, rfl, by simpa [blksT] using hs⟩
theorem fB_run (fuel d : Nat) (hf : 1000 ≤ fuel) {bs : List Blk} {v : Int} {l : List (List Int)} (hv : Num64 v) (hl : l.length < 5000) (hlf : l.length < fuel) (hbl : bs.length < 1000) (hbf : bs.length < fuel) (hok : ∀ c ∈ l, LnOk c) (hbk : ∀ c ∈ bs, LnOk c.2) (h : AHeap) :
    run fuel (d + 7) F_skolemref1_FormulaBytes [.agg (formulaC bs v l)] h = some (.slice (lstU (formTx bs v l)), h) := by
  have hlen := headTx_len hv (show Num64 (l.length : Int) from ⟨by omega, by omega⟩)
  have s1 := (Sep0.start AHeap.none).push 1 3 (cs := formulaC bs v l) rfl
  obtain ⟨s2, h2, e2, q2⟩ := rhd_run fuel d (by omega) (l := l) hv (by omega) (AHeap.none.push 1 (formulaC bs v l))
  obtain ⟨s3, h3, e3, q3⟩ := fB_blks fuel d hf (by omega) hbk s1 fuel 0 s2 _ h2 (by omega) (by omega) (by omega) q2
  rw [List.drop_zero] at q3
  have hb3 := blksT_len hbk
  obtain ⟨s4, h4, e4, q4⟩ := fB_lines fuel d hf (by omega) hok s1 fuel 0 s3 _ h3 (by omega) (by omega) (by rw [List.length_append]; omega) q3
  rw [List.drop_zero] at q4
  have c12 : (AHeap.none.push 1 (formulaC bs v l)).cellsAt 2 (.mk ⟨AHeap.next AHeap.none, 0, 0 + 1⟩ 3) = some (cnfC v l) := by
    have := (s1.sep.own (i := 0) rfl).parts (o := 0 + 1) (k := 2) (l := 3) (by omega) (by simp [formulaC])
    exact this
  refine pure_of rfl rfl (cc1 (canon_form bs v l)) (r := .slice s4) (h' := h4) ?_ (bytes_fr q4)
  rw [e_skolemref1_FormulaBytes, show List.all (formulaC bs v l) AVal.isCell = true from rfl, cond_true, show (formulaC bs v l).length = 3 from rfl]
  simp only [field_mk, Option.bind_some, c12]
  rw [e2]
  simp only [Option.bind_some, slice_slice]
  rw [show ((0 : Nat) : Int) = 0 from rfl] at e3
  rw [e3]
  simp only [Option.bind_some, k_skolemref1_FormulaBytes_0_x0]
  exact e4
end Go.Proofs.YtdkckkhghghhdaaDoor

namespace Go.Proofs.YtdkckkhghghhdaaDoor
open Go.RowKit

/-- words of numbers -/
def numWs : List Int → Nat → Bool → List Wd
  | [], _, _ => []
  | x :: l, p, f => ⟨decT x, p, f⟩ :: numWs l (p + (decT x).length + 1) false
theorem W_nums : ∀ (l : List Int) (r : List UInt8) (p : Nat) (f : Bool), wordsOf (numsT l ++ r) p f false = numWs l p f ++ wordsOf r (p + (numsT l).length) (f && l.isEmpty) false
  | [], r, p, f => by simp [numsT, numWs]
  | x :: l, r, p, f => by
    obtain ⟨w1, w2, w3, _⟩ := decT_word x
    have e : numsT (x :: l) = decT x ++ 32 :: numsT l := by simp [numsT]
    rw [e, List.append_assoc, List.cons_append, W_one w1 w2 (Stops.sp _) p (fun _ => w3), W_sp, W_nums l]
    simp only [numWs, List.cons_append, List.length_append, List.length_cons, List.isEmpty_cons, Bool.and_false, Bool.false_and]
    rw [show p + (decT x).length + 1 + (numsT l).length = p + ((decT x).length + ((numsT l).length + 1)) by omega]
theorem W_line (l : List Int) (r : List UInt8) (p : Nat) (f : Bool) : ∃ q, wordsOf (lineT l ++ r) p f false = numWs l p f ++ ⟨[48], p + (numsT l).length, f && l.isEmpty⟩ :: wordsOf r q true false ∧ q = p + (lineT l).length := by
  refine ⟨p + (lineT l).length, ?_, rfl⟩
  have e : lineT l ++ r = numsT l ++ ([48] ++ 10 :: r) := by simp [lineT]
  rw [e, W_nums, W_one (by simp) (by decide) (Stops.nl r) _ (fun _ => by simp), W_nl]
  simp [lineT, Nat.add_assoc]
/-- a literal that is read as it is -/
def LitOk (v x : Int) : Prop := x ≠ 0 ∧ isI x v = true ∧ -1000000000 < x ∧ x < 1000000000
theorem LitOk.text {v x : Int} (h : LitOk v x) : noLitV (decT x) v = false ∧ numW (decT x) = x := by
  obtain ⟨a1, a2, _⟩ := decT_num h.2.2.1 h.2.2.2
  refine ⟨?_, a2⟩
  unfold noLitV
  rw [a1, a2, decide_eq_false h.1, h.2.1]; rfl
theorem clT_nums (e v m : Int) : ∀ (l : List Int) (p : Nat) (f : Bool) (ws : List Wd) (out : List (List Int)) (c : List Int), (out.length : Int) < m → (∀ x ∈ l, LitOk v x) → clT e v m (numWs l p f ++ ws) out c = clT e v m ws out (c ++ l)
  | [], p, f, ws, out, c, h, hl => by simp [numWs]
  | x :: l, p, f, ws, out, c, h, hl => by
    have hx := hl x (List.mem_cons_self ..)
    obtain ⟨t1, t2⟩ := hx.text
    simp only [numWs, List.cons_append, clT, t1, t2]
    rw [if_neg (by simp; omega), if_neg hx.1, clT_nums e v m l _ _ _ _ _ h fun y hy => hl y (List.mem_cons_of_mem _ hy)]
    simp
theorem zero_text {v : Int} : noLitV [48] v = false ∧ numW [48] = 0 := by
  have : okNum [48] = true ∧ numW [48] = 0 := by decide
  refine ⟨?_, this.2⟩
  unfold noLitV
  rw [this.1, this.2]; rfl
theorem clT_lines (e v m : Int) : ∀ (L : List (List Int)) (p : Nat) (f : Bool) (out : List (List Int)), ((out.length + L.length : Nat) : Int) = m → (∀ c ∈ L, ∀ x ∈ c, LitOk v x) → clT e v m (wordsOf (linesT L) p f false) out [] = .ok (out ++ L)
  | [], p, f, out, h, hl => by
    simp only [linesT, List.flatMap_nil, W_nil, clT]
    simp only [List.length_nil, Nat.add_zero] at h
    rw [if_neg (by simp; omega), List.append_nil]
  | c :: L, p, f, out, h, hl => by
    simp only [List.length_cons] at h
    obtain ⟨q, e1, _⟩ := W_line c (linesT L) p f
    obtain ⟨z1, z2⟩ := zero_text (v := v)
    rw [linesT_cons, e1, clT_nums e v m c _ _ _ _ _ (by omega) (hl c (List.mem_cons_self ..)), List.nil_append]
    simp only [clT, z1, z2]
    rw [if_neg (by simp; omega), if_pos trivial, clT_lines e v m L q true (out ++ [c]) (by simp; omega) fun d hd => hl d (List.mem_cons_of_mem _ hd)]
    simp
theorem W_head (v n : Int) (r : List UInt8) : ∃ p q, wordsOf (headTx v n ++ r) 0 true false = ⟨[112], 0, true⟩ :: ⟨[99, 110, 102], 2, false⟩ :: ⟨decT v, 6, false⟩ :: ⟨decT n, p, false⟩ :: wordsOf r q true false := by
  obtain ⟨a1, a2, a3, _⟩ := decT_word v
  obtain ⟨b1, b2, b3, _⟩ := decT_word n
  have e : headTx v n ++ r = [112] ++ 32 :: ([99, 110, 102] ++ 32 :: (decT v ++ 32 :: (decT n ++ 10 :: r))) := by simp [headTx]
  refine ⟨6 + (decT v).length + 1, 6 + (decT v).length + 1 + (decT n).length + 1, ?_⟩
  rw [e, W_one (by simp) (by decide) (Stops.sp _) _ (fun _ => by simp), W_sp, W_one (by simp) (by decide) (Stops.sp _) _ (fun h => by cases h), W_sp, W_one a1 a2 (Stops.sp _) _ (fun h => by cases h), W_sp, W_one b1 b2 (Stops.nl _) _ (fun h => by cases h), W_nl]
  rfl
theorem cnt_ok {x most : Int} (h0 : 0 ≤ x) (h1 : x < 1000000000) (hm : x ≤ most) (p : Nat) : cntC ⟨decT x, p, false⟩ most = none := by
  obtain ⟨a1, a2, a3⟩ := decT_num (x := x) (by omega) h1
  unfold cntC plainW
  simp only [a1, a2, a3 h0]
  rw [if_neg (by simp), if_neg (by omega)]
theorem headT_text {e v n : Int} (hv : 0 ≤ v) (hv1 : v ≤ 4000) (hn : 0 ≤ n) (hn1 : n ≤ 20000) (p : Nat) (W : List Wd) : headT e (⟨[112], 0, true⟩ :: ⟨[99, 110, 102], 2, false⟩ :: ⟨decT v, 6, false⟩ :: ⟨decT n, p, false⟩ :: W) = .ok v n := by
  unfold headT
  simp only [cnt_ok hv (by omega) hv1, cnt_ok hn (by omega) hn1]
  rw [if_neg (by simp), if_neg (by simp), (decT_num (x := v) (by omega) (by omega)).2.1, (decT_num (x := n) (by omega) (by omega)).2.1]
theorem rdC_text {v : Int} {L : List (List Int)} (hv : 0 ≤ v) (hv1 : v ≤ 4000) (hL : L.length ≤ 20000) (hl : ∀ c ∈ L, ∀ x ∈ c, LitOk v x) : rdC (cnfTx v L) = (v, L, none) := by
  obtain ⟨p, q, e⟩ := W_head v (L.length : Int) (linesT L)
  unfold rdC
  rw [splitOf_words, show cnfTx v L = headTx v (L.length : Int) ++ linesT L from rfl, e, headT_text hv hv1 (by omega) (by omega)]
  simp only [List.drop_succ_cons, List.drop_zero]
  rw [clT_lines _ _ _ L q true [] (by simp) hl]
  simp
/-- how long such a text is -/
theorem linesT_len {B : Nat} : ∀ {L : List (List Int)}, (∀ c ∈ L, LnOk c) → totalI L ≤ B → (linesT L).length ≤ 21 * B + 2 * L.length
  | [], _, h => by simp [linesT]
  | c :: L, hc, h => by
    simp only [totalI, List.map_cons, List.sum_cons] at h
    have h1 := linesT_len (B := B - c.length) (L := L) (fun d hd => hc d (List.mem_cons_of_mem _ hd)) (by simp only [totalI]; omega)
    have h2 := numsT_num (hc c (List.mem_cons_self ..)).2
    rw [linesT_cons, List.length_append, lineT, List.length_append]
    simp only [List.length_cons, List.length_nil]
    omega
end Go.Proofs.YtdkckkhghghhdaaDoor

namespace Go.Proofs.YtdkckkhghghhdaaDoor
open Go.RowKit

theorem sucS {m : Nat} (h : m < 9000000000000000000) : IntKind.wrap .i64 ((m : Int) + 1) = ((m + 1 : Nat) : Int) := by rw [wrap64 (by omega) (by omega)]; omega
theorem sameI_loop (fuel d : Nat) {a b : List Int} (hl : a.length = b.length) (hn : a.length < 1000000000) {h : AHeap} : ∀ (n k : Nat), a.length < n + k → k ≤ a.length → a.take k = b.take k →
    (l_skolemref_SameInts_0 fuel d n [(0, .slice (lstI a)), (1, .slice (lstI b)), (5, .int .i64 (k : Int))] h).bind (fun p => k_skolemref_SameInts_0 fuel d p.1 p.2.1 p.2.2) = some (.bool (decide (a = b)), h) := by
  intro n
  induction n with
  | zero => intro k h1 h2; omega
  | succ n ih =>
    intro k h1 h2 h3
    rw [l_skolemref_SameInts_0_eq, len_lst]
    by_cases hk : k < a.length
    · rw [bif_pos (by omega), addr_lstM _ (by omega) (by omega) 0, addr_lstM _ (by omega) (by omega) 0]
      simp only [Option.bind_some, cell_fp, int_int, Int.toNat_natCast]
      by_cases he : a.getD k 0 = b.getD k 0
      · rw [bif_npos he, sucS (by omega), ih (k + 1) (by omega) (by omega) (by rw [take_get hk 0, take_get (by omega) 0, h3, he])]
      · rw [bif_nneg he]
        simp only [Option.bind_some, k_skolemref_SameInts_0_r]
        rw [decide_eq_false (fun h => he (by rw [h]))]
    · have : k = a.length := by omega
      subst this
      rw [bif_neg (by omega)]
      have : a = b := by rw [List.take_length, hl, List.take_length] at h3; exact h3
      simp only [Option.bind_some, k_skolemref_SameInts_0_x0]
      rw [decide_eq_true this]
theorem sameI_run (fuel d : Nat) {a b : List Int} {s t : Sl} {h : AHeap} (hs : freezeV h 8 (.slice s) = some (.slice (lstI a))) (ht : freezeV h 8 (.slice t) = some (.slice (lstI b))) (hn : a.length < 1000000000) (hf : a.length < fuel) :
    run fuel (d + 1) F_skolemref_SameInts [.slice s, .slice t] h = some (.bool (decide (a = b)), h) := by
  refine run_val rfl rfl (mm2 hs ht) (r := .bool (decide (a = b))) (h' := AHeap.none) ?_ rfl rfl
  rw [e_skolemref_SameInts, len_lst, len_lst]
  by_cases hl : a.length = b.length
  · rw [bif_npos (by omega)]
    have := sameI_loop fuel d hl hn (h := AHeap.none) fuel 0 (by omega) (by omega) rfl
    exact this
  · rw [bif_nneg (by omega), decide_eq_false (fun h => hl (by rw [h]))]

end Go.Proofs.YtdkckkhghghhdaaDoor

namespace Go.Proofs.YtdkckkhghghhdaaDoor
open Go.RowKit

theorem sameU_loop (fuel d : Nat) {b : List UInt8} (hn : b.length < 1000000000) {h : AHeap} : ∀ (n k : Nat), b.length < n + k → k ≤ b.length →
    l_skolemref_SameBytes_0 fuel d n [(0, .slice (lstU b)), (1, .slice (lstU b)), (5, .int .i64 (k : Int))] h = some (.exit 0, [(4, .bot)], h) := by
  intro n
  induction n with
  | zero => intro k h1 h2; omega
  | succ n ih =>
    intro k h1 h2
    rw [l_skolemref_SameBytes_0_eq, len_lst]
    by_cases hk : k < b.length
    · rw [bif_pos (by omega), addr_lstM _ (by omega) (by omega) 0]
      simp only [Option.bind_some, cell_fp, int_int, decide_true, Bool.not_true, cond_false]
      rw [sucS (by omega)]
      exact ih (k + 1) (by omega) (by omega)
    · rw [bif_neg (by omega)]
theorem sameU_run (fuel d : Nat) {b : List UInt8} (hn : b.length < 1000000000) (hf : b.length < fuel) (h : AHeap) : run fuel (d + 1) F_skolemref_SameBytes [.slice (lstU b), .slice (lstU b)] h = some (.bool true, h) := by
  refine pure_of rfl rfl (cc2 (canon_lstU 7 b) (canon_lstU 7 b)) (r := .bool true) (h' := AHeap.none) ?_ rfl
  rw [e_skolemref_SameBytes, len_lst, bif_npos rfl]
  have := sameU_loop fuel d hn (h := AHeap.none) fuel 0 (by omega) (by omega)
  rw [show ((0 : Nat) : Int) = 0 from rfl] at this
  rw [this]
  simp only [Option.bind_some, k_skolemref_SameBytes_0_x0]
end Go.Proofs.YtdkckkhghghhdaaDoor

namespace Go.Proofs.YtdkckkhghghhdaaDoor
open Go.RowKit

theorem sameCl_loop (fuel d : Nat) {l : List (List Int)} (hl : l.length < 1000000000) (hs : ∀ s ∈ l, s.length < 1000000000 ∧ s.length < fuel) (h : AHeap) : ∀ (n k : Nat), l.length < n + k → k ≤ l.length →
    l_skolemref_SameClauses_0 fuel (d + 1) n [(0, .slice (lstLL l)), (1, .slice (lstLL l)), (5, .int .i64 (k : Int))] h = some (.exit 0, [(4, .bot)], h) := by
  intro n
  induction n with
  | zero => intro k h1 h2; omega
  | succ n ih =>
    intro k h1 h2
    rw [l_skolemref_SameClauses_0_eq, len_lst]
    by_cases hk : k < l.length
    · obtain ⟨q1, q2⟩ := hs (l.getD k []) (by simp [List.getD, hk])
      rw [bif_pos (by omega), addr_lstM _ (by omega) (by omega) [], Int.toNat_natCast]
      generalize l.getD k [] = s at q1 q2
      simp only [Option.bind_some, cell_fp, slice_slice]
      rw [sameI_run fuel d (freeze_lstI 7 _) (freeze_lstI 7 _) q1 q2]
      simp only [Option.bind_some, bool_bool, decide_true, Bool.not_true, cond_false]
      rw [sucS (by omega)]
      exact ih (k + 1) (by omega) (by omega)
    · rw [bif_neg (by omega)]
theorem sameCl_run (fuel d : Nat) {l : List (List Int)} (hl : l.length < 1000000000) (hlf : l.length < fuel) (hs : ∀ s ∈ l, s.length < 1000000000 ∧ s.length < fuel) (h : AHeap) : run fuel (d + 2) F_skolemref_SameClauses [.slice (lstLL l), .slice (lstLL l)] h = some (.bool true, h) := by
  refine pure_of rfl rfl (cc2 (canon_lstLL 7 l) (canon_lstLL 7 l)) (r := .bool true) (h' := AHeap.none) ?_ rfl
  rw [e_skolemref_SameClauses, len_lst, bif_npos rfl]
  have := sameCl_loop fuel d hl hs AHeap.none fuel 0 (by omega) (by omega)
  rw [show ((0 : Nat) : Int) = 0 from rfl] at this
  rw [this]
  simp only [Option.bind_some, k_skolemref_SameClauses_0_x0]
theorem sameCNF_run (fuel d : Nat) (v : Int) {l : List (List Int)} (hl : l.length < 1000000000) (hlf : l.length < fuel) (hs : ∀ s ∈ l, s.length < 1000000000 ∧ s.length < fuel) (h : AHeap) : run fuel (d + 3) F_skolemref_SameCNF [.agg (cnfC v l), .agg (cnfC v l)] h = some (.bool true, h) := by
  have hc : canonV 8 (.agg (cnfC v l)) = some (.agg (cnfC v l)) := by
    unfold cnfC
    rw [canon_agg, canonM_cons (u := .int .i64 v) rfl (canonM_cons (u := .slice (lstLL l)) (canon_lstLL _ _) (canonM_nil _))]
    rfl
  refine pure_of rfl rfl (cc2 hc hc) (r := .bool true) ?_ rfl (h' := (AHeap.none.push 1 (cnfC v l)).push 1 (cnfC v l))
  rw [e_skolemref_SameCNF, show List.all (cnfC v l) AVal.isCell = true from rfl, cond_true, cond_true, show (cnfC v l).length = 2 from rfl]
  have s1 := ((Sep0.start AHeap.none).push 1 2 (cs := cnfC v l) rfl).push 1 2 (cs := cnfC v l) rfl
  have a0 : ((AHeap.none.push 1 (cnfC v l)).push 1 (cnfC v l)).cell (.mk ⟨AHeap.none.next, 0, 0 + 0⟩ 2) = some (.int .i64 v) := s1.part (i := 0) rfl (by omega) rfl
  have a1 : ((AHeap.none.push 1 (cnfC v l)).push 1 (cnfC v l)).cell (.mk ⟨AHeap.none.next, 0, 0 + 1⟩ 2) = some (.slice (lstLL l)) := s1.part (i := 0) rfl (by omega) rfl
  have b0 : ((AHeap.none.push 1 (cnfC v l)).push 1 (cnfC v l)).cell (.mk ⟨(AHeap.none.push 1 (cnfC v l)).next, 0, 0 + 0⟩ 2) = some (.int .i64 v) := s1.part (i := 1) rfl (by omega) rfl
  have b1 : ((AHeap.none.push 1 (cnfC v l)).push 1 (cnfC v l)).cell (.mk ⟨(AHeap.none.push 1 (cnfC v l)).next, 0, 0 + 1⟩ 2) = some (.slice (lstLL l)) := s1.part (i := 1) rfl (by omega) rfl
  simp only [field_mk, Option.bind_some, a0, a1, b0, b1, int_int, slice_slice, decide_true, beq_self_eq_true, cond_true]
  rw [sameCl_run fuel d hl hlf hs]
  simp only [Option.bind_some, bool_bool]

theorem clT_len (e vars many : Int) : ∀ (ws : List Wd) (out : List (List Int)) (c : List Int) (l : List (List Int)), clT e vars many ws out c = .ok l → (∀ s ∈ out, s.length < 1000) → out.length + ws.length < 1000 → c.length + ws.length < 1000 → l.length < 1000 ∧ ∀ s ∈ l, s.length < 1000
  | [], out, c, l, h, h1, h2, h3 => by
    unfold clT at h
    split at h
    · cases h
    · cases h
      simp at h2
      exact ⟨h2, h1⟩
  | w :: ws, out, c, l, h, h1, h2, h3 => by
    unfold clT at h
    simp only [List.length_cons] at h2 h3
    split at h
    · cases h
    · split at h
      · refine clT_len e vars many ws _ _ l h (fun s hs => ?_) (by simp; omega) (by simp; omega)
        rcases List.mem_append.1 hs with hs | hs
        · exact h1 s hs
        · rw [List.mem_singleton.1 hs]; omega
      · exact clT_len e vars many ws out _ l h h1 (by omega) (by simp; omega)
theorem errO_is {z : Option (Int × Int)} (hz : ∀ c p, z = some (c, p) → c = 101 ∨ c = 102) : ∃ c q x, faultO z = faultC c q x ∧ IsFault (errO z) c q x := by
  cases z with
  | none => exact ⟨0, false, 0, rfl, .fine⟩
  | some cp =>
    obtain ⟨c, p⟩ := cp
    rcases hz c p rfl with rfl | rfl
    · exact ⟨101, true, p, rfl, IsFault.at (j := 0) (by omega) p⟩
    · exact ⟨102, true, p, rfl, IsFault.at (j := 1) (by omega) p⟩
theorem same_true (fuel d : Nat) {u : AVal} {c x : Int} {q : Bool} (hu : IsFault u c q x) (hf : 10 < fuel) (h : AHeap) : run fuel (d + 4) F_skolemsee_Same [u, .agg (faultC c q x)] h = some (.bool true, h) := by
  rw [Same_run fuel d hu hf c q x, decide_eq_true (rfl : c = c), decide_eq_true (rfl : x = x)]
  cases q <;> rfl
theorem okC (v : Int) (l : List (List Int)) : (!false && Nat.beq (List.length (cnfC v l)) 2 && List.all (cnfC v l) AVal.isCell) = true := rfl
end Go.Proofs.YtdkckkhghghhdaaDoor

namespace Go.Proofs.YtdkckkhghghhdaaDoor
open Go.RowKit

theorem first4_run (fuel : Nat) {e : Nat} (he : 9 ≤ e) (hf : 40 ≤ fuel) (h : AHeap) : run fuel e F_skolemlaw4_first [] h = some (.bool true, h) := by
  obtain ⟨d, rfl⟩ : ∃ d, e = d + 9 := ⟨e - 9, by omega⟩
  refine pure_ex rfl rfl canonL_nil (r := .bool true) ?_ (fun _ => rfl)
  rw [e_skolemlaw4_first, dread_nil fuel d hf, show crA (rdC []) = .tup [.agg (cnfC 0 []), atV 0 err_api_ErrText] from rfl]
  simp only [Option.bind_some, isTup_tup, List.length_cons, List.length_nil, Nat.beq, cond_true, comp_tup, List.getElem?_cons_zero, List.getElem?_cons_succ, agg_agg]
  rw [cond_pos _ _ (show (!false && Nat.beq (List.length (cnfC 0 [])) 2 && List.all (cnfC 0 []) AVal.isCell) = true from rfl)]
  have s1 := (Sep0.start AHeap.none).push 1 2 (cs := [(AVal.int .i64 (0 : Int)), (.slice Sl.nil)]) rfl
  obtain ⟨h5, e5, _⟩ := s1.put (i := 0) (o := 0) (l := 2) (vs := cnfC 0 []) rfl (by simp [cnfC]) (by simp [cnfC])
  rw [e5]
  simp only [Option.bind_some]
  rw [Placed_run fuel (d + 7) (show (101 : Int) ≠ 0 by omega)]
  simp only [Option.bind_some, agg_agg]
  rw [Same_run fuel (d + 4) (e := atV 0 err_api_ErrText) (c := 101) (p := true) (x := 0) (IsFault.at (j := 0) (by omega) 0) (by omega) 101 true 0]
  exact ⟨_, rfl⟩
end Go.Proofs.YtdkckkhghghhdaaDoor

namespace Go.Proofs.YtdkckkhghghhdaaDoor
open Go.RowKit

theorem succI {n : Nat} (h : n < 9000000000000000000) : IntKind.wrap .i64 ((n : Int) + 1) = ((n + 1 : Nat) : Int) := by rw [wrap64 (by omega) (by omega)]; omega

/-! lits.Var -/
def varI (l : Int) : Int := bif decide (l < IntKind.wrap .i64 (0 - l)) then IntKind.wrap .i64 (0 - l) else l
def okInt (l : Int) : Prop := -9223372036854775808 < l ∧ l ≤ 9223372036854775807
theorem varI_eq {l : Int} (h : okInt l) : varI l = (l.natAbs : Int) := by
  obtain ⟨h1, h2⟩ := h
  unfold varI
  rw [wrap64 (by omega) (by omega)]
  by_cases h0 : l < 0 - l
  · rw [decide_eq_true h0, cond_true]; omega
  · rw [decide_eq_false h0, cond_false]; omega

end Go.Proofs.YtdkckkhghghhdaaDoor

namespace Go.Proofs.YtdkckkhghghhdaaDoor
open Go.RowKit

/-! skolemworld.Number -/
def numI (n b : Int) : Int := bif decide (Int.tmod n b < 0) then IntKind.wrap .i64 (Int.tmod n b + b) else Int.tmod n b
theorem Number_run (fuel d : Nat) {n b : Int} (hb : b ≠ 0) (h : AHeap) : run fuel (d + 1) F_skolemworld_Number [.int .i64 n, .int .i64 b] h = some (.int .i64 (numI n b), h) :=
  pure_of rfl rfl (cc2 rfl rfl) (by
    rw [e_skolemworld_Number, bif_neg hb]
    show _ = some (AVal.int .i64 (numI n b), AHeap.none)
    unfold numI
    cases decide (Int.tmod n b < 0) <;> rfl) rfl
theorem numI_range {n b : Int} (hb : 0 < b) (hb2 : b ≤ 9223372036854775807) : 0 ≤ numI n b ∧ numI n b < b := by
  have h1 := Int.tmod_lt_of_pos n hb
  have h2 : -b < Int.tmod n b := by
    have := Int.neg_lt_of_neg_lt (a := Int.tmod n b) (b := b)
    have h3 := Int.tmod_lt_of_pos (-n) hb
    rw [Int.neg_tmod] at h3
    omega
  unfold numI
  by_cases h0 : Int.tmod n b < 0
  · rw [decide_eq_true h0, cond_true, wrap64 (by omega) (by omega)]; omega
  · rw [decide_eq_false h0, cond_false]; omega

end Go.Proofs.YtdkckkhghghhdaaDoor

namespace Go.Proofs.YtdkckkhghghhdaaDoor
open Go.RowKit

/-! skolemmake.Lit -/
def litI (n vars : Int) : Int := bif decide (numI n (2 * vars) < vars) then numI n (2 * vars) + 1 else vars - numI n (2 * vars) - 1
theorem Lit_run (fuel d : Nat) {n vars : Int} (h1 : 0 < vars) (h2 : vars ≤ 1000000) (h : AHeap) : run fuel (d + 2) F_skolemmake_Lit [.int .i64 n, .int .i64 vars] h = some (.int .i64 (litI n vars), h) := by
  have hr := numI_range (n := n) (b := 2 * vars) (by omega) (by omega)
  refine pure_of rfl rfl (cc2 rfl rfl) (r := .int .i64 (litI n vars)) (h' := AHeap.none) ?_ rfl
  rw [e_skolemmake_Lit, wrap64 (n := 2 * vars) (by omega) (by omega), Number_run fuel d (by omega)]
  simp only [Option.bind_some, int_int]
  unfold litI
  by_cases h0 : numI n (2 * vars) < vars
  · rw [decide_eq_true h0, cond_true, cond_true, wrap64 (by omega) (by omega)]
  · rw [decide_eq_false h0, cond_false, cond_false, wrap64 (n := vars - numI n (2 * vars)) (by omega) (by omega), wrap64 (by omega) (by omega)]
theorem litI_range {n vars : Int} (h1 : 0 < vars) (h2 : vars ≤ 1000000) : litI n vars ≠ 0 ∧ -vars ≤ litI n vars ∧ litI n vars ≤ vars := by
  have hr := numI_range (n := n) (b := 2 * vars) (by omega) (by omega)
  unfold litI
  by_cases h0 : numI n (2 * vars) < vars
  · rw [decide_eq_true h0, cond_true]; omega
  · rw [decide_eq_false h0, cond_false]; omega

end Go.Proofs.YtdkckkhghghhdaaDoor

namespace Go.Proofs.YtdkckkhghghhdaaDoor
open Go.RowKit

/-! skolemmake.Clauses -/
def clLit (n vars : Int) : Int := litI (IntKind.wrap .i64 (Int.tdiv (numI n 1099511627776) 7)) vars
def clCut (n : Int) (c : List Int) : Bool := (decide (numI n 7 = 0) && decide (0 < c.length)) || decide (5 ≤ c.length)
def clGo (vars : Int) : List Int → List (List Int) → List Int → List (List Int)
  | [], cc, c => if c = [] then cc else cc ++ [c]
  | n :: l, cc, c => if clCut n c = true then clGo vars l (cc ++ [c]) [clLit n vars] else clGo vars l cc (c ++ [clLit n vars])
def clausesI (l : List Int) (vars : Int) : List (List Int) := if vars < 1 then [] else clGo vars l [] []

theorem clauses_loop (fuel d : Nat) {l : List Int} {vars : Int} (hv : 0 < vars) (hv' : vars ≤ 1000000) (hl : l.length < 1000000) {h0 : AHeap} : ∀ (n k : Nat) (cc : List (List Int)) (c : List Int) (s5 s6 : Sl) (h : AHeap), l.length < n + k → k ≤ l.length → cc.length ≤ k → c.length ≤ k →
    Sep0 h0 h [.grown 1 s5 (gridC cc), .grown 1 s6 (intsC c)] →
    ∃ s' h', (l_skolemmake_Clauses_0 fuel (d + 2) n [(0, .slice (lstI l)), (1, .int .i64 vars), (5, .slice s5), (6, .slice s6), (7, .int .i64 (k : Int))] h).bind (fun p => k_skolemmake_Clauses_0 fuel (d + 2) p.1 p.2.1 p.2.2) = some (.slice s', h') ∧
      New h0 h' (.grown 1 s' (gridC (clGo vars (l.drop k) cc c))) := by
  intro n
  induction n with
  | zero => intro k cc c s5 s6 h h1 h2; omega
  | succ n ih =>
    intro k cc c s5 s6 h h1 h2 h3 h4 hs
    have l5 := hs.len (i := 0) rfl
    have l6 := hs.len (i := 1) rfl
    simp only [List.length_map, Nat.mul_one] at l5 l6
    rw [l_skolemmake_Clauses_0_eq, len_lst]
    by_cases hk : k < l.length
    · rw [bif_pos (by omega), drop_get hk 0, addr_lstM _ (by omega) (by omega) 0]
      simp only [Option.bind_some, cell_fp, int_int, Int.toNat_natCast, Number_run fuel (d + 1) (show (7 : Int) ≠ 0 by decide), ← l6]
      have hcut : (bif (bif decide (numI (l.getD k 0) 7 = 0) then decide ((0 : Int) < (c.length : Int)) else false) then true else decide ((5 : Int) ≤ (c.length : Int))) = clCut (l.getD k 0) c := by
        unfold clCut
        have e1 : decide ((0 : Int) < (c.length : Int)) = decide (0 < c.length) := by congr 1; simp
        have e2 : decide ((5 : Int) ≤ (c.length : Int)) = decide (5 ≤ c.length) := by congr 1; simp; omega
        rw [e1, e2]
        cases decide (numI (l.getD k 0) 7 = 0) <;> cases decide (0 < c.length) <;> cases decide (5 ≤ c.length) <;> rfl
      rw [hcut]
      simp only [clGo]
      have step : ∀ (cc : List (List Int)) (c : List Int) (s5 s6 : Sl) (h : AHeap), cc.length ≤ k + 1 → c.length ≤ k → Sep0 h0 h [.grown 1 s5 (gridC cc), .grown 1 s6 (intsC c)] →
          ∃ s' h', (k_skolemmake_Clauses_1 fuel (d + 2) n .normal [(0, .slice (lstI l)), (1, .int .i64 vars), (5, .slice s5), (6, .slice s6), (7, .int .i64 (k : Int))] h).bind (fun p => k_skolemmake_Clauses_0 fuel (d + 2) p.1 p.2.1 p.2.2) = some (.slice s', h') ∧
            New h0 h' (.grown 1 s' (gridC (clGo vars (l.drop (k + 1)) cc (c ++ [clLit (l.getD k 0) vars])))) := by
        intro cc c s5 s6 h h3 h4 hs
        have l6 := hs.len (i := 1) rfl
        simp only [List.length_map, Nat.mul_one] at l6
        obtain ⟨s', h', e1, e2, e3⟩ := hs.grow (i := 1) (bytes := 8) (m := 1) (vs := [.int .i64 (clLit (l.getD k 0) vars)]) rfl rfl (by omega) (by omega)
        rw [k_skolemmake_Clauses_1_n, addr_lstM _ (by omega) (by omega) 0]
        simp only [Option.bind_some, cell_fp, int_int, Int.toNat_natCast, Number_run fuel (d + 1) (show (1099511627776 : Int) ≠ 0 by decide)]
        rw [Lit_run fuel d hv hv']
        have e1' : AHeap.append h false 1 8 s6 1 [.int .i64 (litI (IntKind.wrap .i64 (Int.tdiv (numI (l.getD k 0) 1099511627776) 7)) vars)] = some (s', h') := e1
        simp only [Option.bind_some, int_int, e1']
        rw [succI (by omega)]
        refine ih (k + 1) cc (c ++ [clLit (l.getD k 0) vars]) s5 s' h' (by omega) (by omega) (by omega) (by simp; omega) ?_
        rw [intsC_append]
        exact e2
      cases hc : clCut (l.getD k 0) c with
      | true =>
        obtain ⟨h5, f1, f2⟩ := hs.fix (i := 1) (sz := 1) (s := s6) (cs := intsC c) rfl (closedL_map (fun _ => rfl) c) 1
        obtain ⟨s', h', e1, e2, e3⟩ := f2.grow (i := 0) (sz := 1) (s := s5) (cs := gridC cc) (bytes := 24) (m := 1) (vs := [.slice (lstI c)]) rfl rfl (by omega) (by omega)
        have hfx : h.fixL [.slice s6] = ([.slice (lstI c)], h5) := by rw [fixL_one, f1, ← l6]
        simp only [cond_true, hfx, e1, Option.bind_some, if_true]
        exact step (cc ++ [c]) [] s' .nil h' (by simp; omega) (by simp) (by rw [gridC_append]; exact e2)
      | false =>
        simp only [cond_false, Option.bind_some, Bool.false_eq_true, if_false]
        exact step cc c s5 s6 h (by omega) h4 hs
    · have : k = l.length := by omega
      subst this
      rw [bif_neg (by omega), List.drop_eq_nil_of_le (by omega)]
      simp only [Option.bind_some, k_skolemmake_Clauses_0_x0, clGo, ← l6]
      by_cases h0 : c = []
      · subst h0
        rw [bif_neg (by simp)]
        exact ⟨s5, h, rfl, hs.get (i := 0) rfl⟩
      · have : 0 < c.length := List.length_pos_iff.2 h0
        rw [bif_pos (by omega), if_neg h0]
        obtain ⟨h5, f1, f2⟩ := hs.fix (i := 1) (sz := 1) (s := s6) (cs := intsC c) rfl (closedL_map (fun _ => rfl) c) 1
        obtain ⟨s', h', e1, e2, e3⟩ := f2.grow (i := 0) (sz := 1) (s := s5) (cs := gridC cc) (bytes := 24) (m := 1) (vs := [.slice (lstI c)]) rfl rfl (by omega) (by omega)
        have hfx : h.fixL [.slice s6] = ([.slice (lstI c)], h5) := by rw [fixL_one, f1, ← l6]
        simp only [hfx, e1, Option.bind_some]
        refine ⟨s', h', rfl, ?_⟩
        rw [gridC_append]
        exact e2.get (i := 0) rfl

theorem Clauses_body (fuel d : Nat) {l : List Int} {vars : Int} (hv' : vars ≤ 1000000) (hl : l.length < 1000000) (hf : l.length < fuel) (h : AHeap) :
    ∃ s h', (bif (decide (vars < (1 : Int))) then (some ((AVal.slice Sl.nil), h)) else ((l_skolemmake_Clauses_0 fuel (d + 2) fuel [(0, (AVal.slice (lstI l))), (1, (AVal.int .i64 vars)), (5, (AVal.slice Sl.nil)), (6, (AVal.slice Sl.nil)), (7, (AVal.int .i64 (0 : Int)))] h).bind fun p1 => k_skolemmake_Clauses_0 fuel (d + 2) p1.1 p1.2.1 p1.2.2)) = some (.slice s, h') ∧ New h h' (.grown 1 s (gridC (clausesI l vars))) := by
  unfold clausesI
  by_cases hv : vars < 1
  · rw [bif_pos hv, if_pos hv]
    exact ⟨_, _, rfl, Keeps.refl _ _, .nil, fun r hr => by cases hr⟩
  · rw [bif_neg hv, if_neg hv]
    obtain ⟨s', h', e1, e2⟩ := clauses_loop fuel d (l := l) (vars := vars) (by omega) hv' hl (h0 := h) fuel 0 [] [] .nil .nil h (by omega) (by omega) (by simp) (by simp) ((((Sep0.start h).addNil 1).addNil 1))
    rw [show ((0 : Nat) : Int) = 0 from rfl] at e1
    rw [List.drop_zero] at e2
    exact ⟨s', h', e1, e2⟩

/-! The clauses are right; how long they are. -/
theorem clGo_lits {vars : Int} (hv : 0 < vars) (hv' : vars ≤ 1000000) : ∀ (l : List Int) (cc : List (List Int)) (c : List Int), (∀ b ∈ cc, ∀ x ∈ b, x ≠ 0 ∧ -vars ≤ x ∧ x ≤ vars) → (∀ x ∈ c, x ≠ 0 ∧ -vars ≤ x ∧ x ≤ vars) → ∀ b ∈ clGo vars l cc c, ∀ x ∈ b, x ≠ 0 ∧ -vars ≤ x ∧ x ≤ vars
  | [], cc, c, h1, h2 => by
    unfold clGo
    split
    · exact h1
    · intro b hb
      rcases List.mem_append.1 hb with hb | hb
      · exact h1 b hb
      · rw [List.mem_singleton.1 hb]; exact h2
  | n :: l, cc, c, h1, h2 => by
    have hl : clLit n vars ≠ 0 ∧ -vars ≤ clLit n vars ∧ clLit n vars ≤ vars := litI_range hv hv'
    unfold clGo
    split
    · refine clGo_lits hv hv' l _ _ (fun b hb => ?_) fun x hx => by rw [List.mem_singleton.1 hx]; exact hl
      rcases List.mem_append.1 hb with hb | hb
      · exact h1 b hb
      · rw [List.mem_singleton.1 hb]; exact h2
    · refine clGo_lits hv hv' l _ _ h1 fun x hx => ?_
      rcases List.mem_append.1 hx with hx | hx
      · exact h2 x hx
      · rw [List.mem_singleton.1 hx]; exact hl
theorem clausesI_lits {vars : Int} (hv' : vars ≤ 1000000) (l : List Int) : ∀ b ∈ clausesI l vars, ∀ x ∈ b, x ≠ 0 ∧ -vars ≤ x ∧ x ≤ vars := by
  unfold clausesI
  split
  · intro b hb; cases hb
  · exact clGo_lits (by omega) hv' l [] [] (fun b h => by cases h) fun x h => by cases h
theorem clGo_total {vars : Int} : ∀ (l : List Int) (cc : List (List Int)) (c : List Int), totalI (clGo vars l cc c) = totalI cc + c.length + l.length
  | [], cc, c => by
    unfold clGo totalI
    split
    · rename_i h; subst h; simp
    · simp
  | n :: l, cc, c => by
    unfold clGo
    split
    · rw [clGo_total l]; simp [totalI]; omega
    · rw [clGo_total l]; simp; omega
theorem clGo_full {vars : Int} : ∀ (l : List Int) (cc : List (List Int)) (c : List Int), (∀ b ∈ cc, b ≠ []) → ∀ b ∈ clGo vars l cc c, b ≠ []
  | [], cc, c, h => by
    unfold clGo
    split
    · exact h
    · rename_i h0
      intro b hb
      rcases List.mem_append.1 hb with hb | hb
      · exact h b hb
      · rw [List.mem_singleton.1 hb]; exact h0
  | n :: l, cc, c, h => by
    unfold clGo
    split
    · rename_i hc
      refine clGo_full l _ _ fun b hb => ?_
      rcases List.mem_append.1 hb with hb | hb
      · exact h b hb
      · rw [List.mem_singleton.1 hb]
        rintro rfl
        simp [clCut] at hc
    · exact clGo_full l _ _ h
theorem total_bound : ∀ {cc : List (List Int)}, (∀ b ∈ cc, b ≠ []) → cc.length ≤ totalI cc ∧ ∀ b ∈ cc, b.length ≤ totalI cc
  | [], _ => ⟨Nat.le_refl _, fun b h => by cases h⟩
  | c :: cc, h => by
    obtain ⟨h1, h2⟩ := total_bound (cc := cc) fun b hb => h b (List.mem_cons_of_mem _ hb)
    have h0 := List.length_pos_iff.2 (h c (List.mem_cons_self ..))
    have e : totalI (c :: cc) = c.length + totalI cc := by simp [totalI]
    refine ⟨by rw [e, List.length_cons]; omega, fun b hb => ?_⟩
    rcases List.mem_cons.1 hb with rfl | hb
    · omega
    · have := h2 b hb; omega
theorem clausesI_size (l : List Int) (vars : Int) : (clausesI l vars).length ≤ l.length ∧ totalI (clausesI l vars) ≤ l.length ∧ ∀ b ∈ clausesI l vars, b.length ≤ l.length := by
  unfold clausesI
  split
  · exact ⟨by simp, by simp [totalI], fun b h => by cases h⟩
  · have e := clGo_total (vars := vars) l [] []
    simp only [totalI, List.map_nil, List.sum_nil, List.length_nil, Nat.zero_add] at e
    obtain ⟨h1, h2⟩ := total_bound (clGo_full (vars := vars) l [] [] fun b h => by cases h)
    unfold totalI at h1 h2
    exact ⟨by omega, by unfold totalI; omega, fun b hb => by have := h2 b hb; omega⟩

end Go.Proofs.YtdkckkhghghhdaaDoor

namespace Go.Proofs.YtdkckkhghghhdaaDoor
open Go.RowKit

theorem Clauses_run (fuel d : Nat) {l : List Int} {vars : Int} (hv' : vars ≤ 1000000) (hl : l.length < 1000000) (hf : l.length < fuel) (h : AHeap) :
    run fuel (d + 3) F_skolemmake_Clauses [.slice (lstI l), .int .i64 vars] h = some (.slice (lstLL (clausesI l vars)), h) := by
  obtain ⟨s, h', e1, e2⟩ := Clauses_body fuel d hv' hl hf AHeap.none
  refine pure_of rfl rfl (cc2 (canon_lstI 7 l) rfl) (by rw [e_skolemmake_Clauses]; exact e1) ?_
  have hg : Grown h' 1 s (gridC (clausesI l vars)) := e2.holds
  have hl2 := hg.len
  simp only [List.length_map, Nat.mul_one] at hl2
  rw [hg.freeze (n := 7) (by omega) (freeze_gridC 6 _), ← hl2]

theorem CNF_run (fuel d : Nat) {l : List Int} {vars : Int} (hv' : vars ≤ 1000000) (hl : l.length < 1000000) (hf : l.length < fuel) (h : AHeap) :
    run fuel (d + 4) F_skolemmake_CNF [.slice (lstI l), .int .i64 vars] h = some (.agg (cnfC vars (clausesI l vars)), h) := by
  refine pure_of rfl rfl (cc2 (canon_lstI 7 l) rfl) (r := .agg (cnfC vars (clausesI l vars))) (h' := ?_) ?_ (freeze_cnf 6 _ _)
  rotate_left
  · rw [e_skolemmake_CNF, Clauses_run fuel d hv' hl hf]
    rfl

end Go.Proofs.YtdkckkhghghhdaaDoor

namespace Go.Proofs.YtdkckkhghghhdaaDoor
open Go.RowKit

theorem isI_of {x v : Int} (h0 : x ≠ 0) (h1 : -v ≤ x) (h2 : x ≤ v) (hv : v ≤ 4000) : isI x v = true := by
  unfold isI
  rw [wrap64 (by omega) (by omega), decide_eq_false h0, decide_eq_true (show 0 - v ≤ x by omega), decide_eq_true h2]; rfl
theorem clauses_ok (l : List Int) {v : Int} (hv : 0 ≤ v) (hv1 : v ≤ 4000) (hl : l.length ≤ 100) : (clausesI l v).length ≤ 100 ∧ (∀ c ∈ clausesI l v, LnOk c ∧ ∀ x ∈ c, LitOk v x) ∧ totalI (clausesI l v) ≤ 100 := by
  obtain ⟨a1, a2, a3⟩ := clausesI_size l v
  refine ⟨by omega, fun c hc => ?_, by omega⟩
  have h1 := a3 c hc
  have h2 := clausesI_lits (vars := v) (by omega) l c hc
  exact ⟨⟨by omega, fun x hx => by have := h2 x hx; exact ⟨by omega, by omega⟩⟩, fun x hx => by
    obtain ⟨q1, q2, q3⟩ := h2 x hx
    exact ⟨q1, isI_of q1 q2 q3 hv1, by omega, by omega⟩⟩
theorem dimacsBytes_run (F d : Nat) (hF : 2 ^ 21 ≤ F) (l : List Int) (v : Int) (h : AHeap) : ∃ h', run F (d + 60) F_skolemlaw4_DimacsBytes [.slice (lstI l), .int .i64 v] h = some (.bool true, h') := by
  rw [e_skolemlaw4_DimacsBytes, first4_run F (by omega) (by omega), len_lst]
  simp only [Option.bind_some, bool_bool, Bool.not_true, cond_false]
  by_cases hg : 100 < l.length ∨ v < 1 ∨ 60 < v
  · have hc : (bif (bif (decide ((100 : Int) < (l.length : Int))) then true else (decide (v < (1 : Int)))) then true else (decide ((60 : Int) < v))) = true := by
      rcases hg with hg | hg | hg
      · rw [decide_eq_true (show (100 : Int) < (l.length : Int) by omega)]; rfl
      · rw [decide_eq_true hg]; cases decide ((100 : Int) < (l.length : Int)) <;> rfl
      · rw [decide_eq_true hg]; cases decide ((100 : Int) < (l.length : Int)) <;> cases decide (v < (1 : Int)) <;> rfl
    rw [hc]
    exact ⟨h, rfl⟩
  have hc : (bif (bif (decide ((100 : Int) < (l.length : Int))) then true else (decide (v < (1 : Int)))) then true else (decide ((60 : Int) < v))) = false := by
    rw [decide_eq_false (show ¬ (100 : Int) < (l.length : Int) by omega), decide_eq_false (show ¬ v < (1 : Int) by omega), decide_eq_false (show ¬ (60 : Int) < v by omega)]; rfl
  have hn : Num64 v := ⟨by omega, by omega⟩
  obtain ⟨q1, q2, q3⟩ := clauses_ok l (v := v) (by omega) (by omega) (by omega)
  generalize hL : clausesI l v = L at q1 q2 q3
  have hln := linesT_len (L := L) (fun c hc => (q2 c hc).1) q3
  have hhl := headTx_len hn (show Num64 (L.length : Int) from ⟨by omega, by omega⟩)
  have hlen : (cnfTx v L).length ≤ 3000 := by
    unfold cnfTx
    rw [List.length_append]
    omega
  rw [hc, cond_false, CNF_run F (d + 55) (by omega) (by omega) (by omega), hL]
  simp only [Option.bind_some, agg_agg]
  rw [cond_pos _ _ (okC v L)]
  have s1 := (Sep0.start h).push 1 2 (cs := [(AVal.int .i64 (0 : Int)), (.slice Sl.nil)]) rfl
  obtain ⟨h5, e5, s5⟩ := s1.putAll (i := 0) (vs := cnfC v L) rfl rfl rfl
  rw [e5, Option.bind_some, s5.getAll (i := 0) rfl rfl, Option.bind_some, dB_run F (d + 52) (by omega) hn (by omega) (by omega) (fun c hc => (q2 c hc).1)]
  simp only [Option.bind_some, slice_slice]
  rw [dread_run F (d + 51) (by omega) (by omega), rdC_text (by omega) (by omega) (by omega) (fun c hc => (q2 c hc).2)]
  simp only [crA, errO, Option.bind_some, tup2, comp0, comp1, cond_true, agg_agg]
  rw [cond_pos _ _ (okC v L)]
  have s6 := s5.push 1 2 (cs := [(AVal.int .i64 (0 : Int)), (.slice Sl.nil)]) rfl
  obtain ⟨h13, e13, s13⟩ := s6.putAll (i := 1) (vs := cnfC v L) rfl rfl rfl
  rw [e13, Option.bind_some, beq_self_eq_true, cond_true, s13.getAll (i := 0) rfl rfl, Option.bind_some, rB_run F (d + 52) (by omega) hn (by omega) (by omega) (fun c hc => (q2 c hc).1)]
  simp only [Option.bind_some, slice_slice]
  rw [sameU_run F (d + 58) (by omega) (by omega)]
  simp only [Option.bind_some, bool_bool, beq_self_eq_true, cond_true, nilTest_nilif]
  rw [s13.getAll (i := 1) rfl rfl, Option.bind_some, s13.getAll (i := 0) rfl rfl, Option.bind_some, sameCNF_run F (d + 56) v (by omega) (by omega) (fun s hs => by have := (q2 s hs).1.1; omega)]
  exact ⟨_, rfl⟩
end Go.Proofs.YtdkckkhghghhdaaDoor
