/-
  ProofLimits.
-/
import Derived.Test.YtdkckkhghghhdaaDoorPLm0
import Derived.Test.YtdkckkhghghhdaaDoorFst20
import Derived.Test.YtdkckkhghghhdaaDoorByr
import Derived.Test.YtdkckkhghghhdaaDoorS1n
namespace Go.Proofs.YtdkckkhghghhdaaDoor
open Go.RowKit

theorem manyL_succ (n : Nat) : manyL (n + 1) = manyL n ++ [49, 32, 48, 10] := by
  unfold manyL
  rw [List.replicate_succ']
  simp
theorem manyL_len (n : Nat) : (manyL n).length = 4 * n := by
  induction n with
  | zero => rfl
  | succ n ih => rw [manyL_succ, List.length_append, ih]; simp; omega
theorem plm_loop (fuel d : Nat) {x : Int} {N : Nat} (hN : N < 20) {h0 : AHeap} : ∀ (n k : Nat) (s : Sl) (h : AHeap), N < n + k → k ≤ N → Sep0 h0 h [.grown 1 s (bytesC (manyL k))] →
    ∃ s' h', l_skolemlaw20_ProofLimits_0 fuel d n [(0, .int .i64 x), (1, .int .i64 (N : Int)), (5, .bool true), (6, .slice s), (7, .int .i64 (k : Int))] h = some (.exit 0, [(0, .int .i64 x), (1, .int .i64 (N : Int)), (5, .bool true), (6, .slice s')], h') ∧ Sep0 h0 h' [.grown 1 s' (bytesC (manyL N))] := by
  intro n
  induction n with
  | zero => intro k s h h1 h2; omega
  | succ n ih =>
    intro k s h h1 h2 hs
    have hl := manyL_len k
    rw [l_skolemlaw20_ProofLimits_0_eq]
    by_cases hk : k < N
    · obtain ⟨s', h', e1, s1⟩ := lit_append hs [49, 32, 48, 10] (m := 4) rfl (by simp; omega)
      rw [bif_pos (by omega), show ByteArray.size (⟨#[49, 32, 48, 10]⟩ : ByteArray) = 4 from rfl, show bytesOf (⟨#[49, 32, 48, 10]⟩ : ByteArray) = bytesC [49, 32, 48, 10] from rfl, e1, Option.bind_some, sucU (by omega)]
      rw [← manyL_succ] at s1
      exact ih (k + 1) s' h' (by omega) (by omega) s1
    · have : k = N := by omega
      subst this
      rw [bif_neg (by omega)]
      exact ⟨s, h, rfl, hs⟩

abbrev txSl : Sl := Sl.lst 10 true [(.str (⟨#[52, 48, 48, 49, 32, 48]⟩ : ByteArray)), (.str (⟨#[45, 52, 48, 48, 49, 32, 48]⟩ : ByteArray)), (.str (⟨#[120]⟩ : ByteArray)), (.str (⟨#[49, 32, 50]⟩ : ByteArray)), (.str (⟨#[100]⟩ : ByteArray)), (.str (⟨#[49, 32, 100, 32, 48]⟩ : ByteArray)), (.str (⟨#[100, 32, 100, 32, 49, 32, 48]⟩ : ByteArray)), (.str (⟨#[52, 48, 48, 48, 32, 45, 52, 48, 48, 48, 32, 48]⟩ : ByteArray)), (.str (⟨#[48]⟩ : ByteArray)), (.str (⟨#[100, 32, 48]⟩ : ByteArray))]
abbrev plSl : Sl := Sl.lst 10 true [(.int .i64 (0 : Int)), (.int .i64 (0 : Int)), (.int .i64 (0 : Int)), (.int .i64 (3 : Int)), (.int .i64 (1 : Int)), (.int .i64 (2 : Int)), (.int .i64 (2 : Int)), (.int .i64 (-1 : Int)), (.int .i64 (-1 : Int)), (.int .i64 (-1 : Int))]
theorem tx_at (h : AHeap) {k : Nat} (hk : k < 10) : AHeap.addr h 1 txSl (k : Int) = some (.fp 0 [.str (tx (textsL.getD k []))]) := by
  have := addr_lstM (h := h) (fun t : List UInt8 => AVal.str (tx t)) (l := textsL) (j := (k : Int)) (by omega) (by show (k : Int).toNat < 10; omega) [] true
  rw [Int.toNat_natCast] at this
  exact this
theorem pl_at (h : AHeap) {k : Nat} (hk : k < 10) : AHeap.addr h 1 plSl (k : Int) = some (.fp 0 [.int .i64 (placesL.getD k 0)]) := by
  have := addr_lstM (h := h) (AVal.int .i64) (l := placesL) (j := (k : Int)) (by omega) (by show (k : Int).toNat < 10; omega) 0 true
  rw [Int.toNat_natCast] at this
  exact this
theorem texts_len : ∀ k : Nat, k < 10 → (textsL.getD k []).length ≤ 12 := by decide
theorem places_le : ∀ k : Nat, k < 10 → -1 ≤ placesL.getD k 0 ∧ placesL.getD k 0 ≤ 3 := by decide

theorem proofLimits_run (F d : Nat) (hF : 2 ^ 21 ≤ F) (w n : Int) (h : AHeap) : ∃ h', run F (d + 60) F_skolemlaw20_ProofLimits [.int .i64 w, .int .i64 n] h = some (.bool true, h') := by
  rw [e_skolemlaw20_ProofLimits, first20_run F (by omega) (by omega)]
  simp only [Option.bind_some, bool_bool, Bool.not_true, cond_false]
  rw [Number_run F (d + 58) (by omega)]
  obtain ⟨n1, n2⟩ := numI_range (n := n) (b := 20) (by omega) (by omega)
  generalize numI n 20 = m at n1 n2
  obtain ⟨N, rfl⟩ : ∃ N : Nat, m = (N : Int) := ⟨m.toNat, by omega⟩
  simp only [Option.bind_some, int_int]
  obtain ⟨s6, h1, e1, s1⟩ := plm_loop F (d + 59) (x := w) (N := N) (by omega) F 0 .nil h (by omega) (by omega) ((Sep0.start h).addNil 1)
  rw [show ((0 : Nat) : Int) = 0 from rfl] at e1
  rw [e1]
  simp only [Option.bind_some, k_skolemlaw20_ProofLimits_0_x0]
  rw [Number_run F (d + 58) (by omega)]
  obtain ⟨k1, k2⟩ := numI_range (n := w) (b := 10) (by omega) (by omega)
  generalize numI w 10 = m at k1 k2
  obtain ⟨K, rfl⟩ : ∃ K : Nat, m = (K : Int) := ⟨m.toNat, by omega⟩
  have hK : K < 10 := by omega
  simp only [Option.bind_some, int_int]
  have hml := manyL_len N
  have g1 := s1.sep.grown (i := 0) rfl
  have hl6 := g1.len
  simp only [List.length_map, Nat.mul_one] at hl6
  obtain ⟨s4, h2, e2, n2'⟩ := byr_run F (d + 58) (a := manyL N) (t := s6) (h := h1) g1.cells (by omega) (by omega)
  rw [e2]
  simp only [Option.bind_some, slice_slice]
  rw [tx_at h2 hK, Option.bind_some, tx_at h1 hK, Option.bind_some, same_self]
  simp only [cell_fp, Option.bind_some, str_str]
  rw [same_self]
  have htl := texts_len K hK
  obtain ⟨s8, h3, e3, s3⟩ := lit_append ((Sep0.start h1).add n2') (textsL.getD K []) (m := (textsL.getD K []).length) rfl (by omega)
  rw [tx_size, show bytesOf (tx (textsL.getD K [])) = bytesC (textsL.getD K []) from rfl, e3, Option.bind_some]
  have g3 := s3.sep.grown (i := 0) rfl
  have hl8 := g3.len
  simp only [List.length_map, Nat.mul_one] at hl8
  have hfr : freezeV h3 8 (.slice s8) = some (.slice (lstU (manyL N ++ textsL.getD K []))) := by
    rw [g3.freeze (n := 7) (by omega) (freeze_bytesC 6 _), ← hl8]
  obtain ⟨ids, e4⟩ := read_any F (d + 55) (b := manyL N ++ textsL.getD K []) (by rw [List.length_append]; omega) (by rw [List.length_append]; omega) hfr
  rw [e4]
  have hc := chkL_at (n := N) (k := K) (by omega) hK
  obtain ⟨p1, p2⟩ := places_le K hK
  unfold chkL at hc
  cases hr : readA (manyL N ++ textsL.getD K []) with
  | ok l =>
    rw [hr] at hc
    simp only [Bool.and_eq_true, decide_eq_true_eq, beq_iff_eq, Option.isNone_iff_eq_none, List.all_eq_true] at hc
    obtain ⟨⟨⟨⟨⟨c1, c2⟩, c3⟩, c4⟩, c5⟩, c6⟩ := hc
    simp only [rdA, Option.bind_some, isTup_tup, List.length_cons, List.length_nil, Nat.beq, cond_true, comp_tup, List.getElem?_cons_zero, List.getElem?_cons_succ, slice_slice]
    rw [pl_at _ hK]
    simp only [Option.bind_some, cell_fp, int_int]
    rw [bif_pos c1]
    simp only [beq_self_eq_true, cond_true, nilTest_nilif, Option.bind_some, bool_bool]
    rw [len_lst, sucU (by omega), c2, decide_eq_true rfl]
    simp only [cond_true, beq_self_eq_true]
    rw [addr_lstN (sz := 2) (f := stepC) stepC_len (l := l) (j := (N : Int)) (by omega) (by omega) (false, []), Int.toNat_natCast]
    generalize l.getD N (false, []) = s at c3
    have f0 : Pt.field 0 (.fp 0 (stepC s)) = some (.fp 0 (stepC s)) := rfl
    have f1 : ∀ h : AHeap, h.cell (.fp 0 (stepC s)) = some (.bool s.1) := fun _ => rfl
    simp only [Option.bind_some, f0, f1, bool_bool]
    have hk9 : decide ((K : Int) = 9) = decide (K = 9) := by
      by_cases h9 : K = 9
      · subst h9; rfl
      · rw [decide_eq_false h9, decide_eq_false (by omega)]
    rw [c3, hk9, show (decide (K = 9) == decide (K = 9)) = true from by simp]
    simp only [beq_self_eq_true, cond_true]
    obtain ⟨ids2, e5⟩ := pchk_any F (d + 57) (L := l) (by omega) (by omega) (by omega) (fun s hs => by have := c6 s hs; omega) (freeze_lstS (h := h3.markRo ids) 7 l)
    rw [e5]
    have hp : pchk l = .nilif := by unfold pchk; rw [if_neg (by omega), c5]
    rw [hp]
    simp only [Option.bind_some, nilTest_nilif, bool_bool]
    exact ⟨_, rfl⟩
  | bad p =>
    rw [hr] at hc
    simp only [Bool.and_eq_true, decide_eq_true_eq] at hc
    obtain ⟨c1, c2⟩ := hc
    simp only [rdA, Option.bind_some, isTup_tup, List.length_cons, List.length_nil, Nat.beq, cond_true, comp_tup, List.getElem?_cons_zero, List.getElem?_cons_succ, slice_slice]
    rw [pl_at _ hK]
    simp only [Option.bind_some, cell_fp, int_int]
    rw [bif_neg (by omega)]
    simp only [beq_self_eq_true, cond_true]
    rw [← hl6, hml, wrap64 (by omega) (by omega), show ((4 * N : Nat) : Int) + placesL.getD K 0 = (p : Int) by omega, Placed_run F (d + 58) (show (101 : Int) ≠ 0 by omega)]
    simp only [Option.bind_some, agg_agg]
    rw [Same_run F (d + 55) (e := atV (p : Int) err_api_ErrText) (c := 101) (p := true) (x := (p : Int)) (IsFault.at (j := 0) (by omega) (p : Int)) (by omega) 101 true (p : Int)]
    simp only [Option.bind_some, bool_bool, decide_true, beq_self_eq_true, Bool.and_self, cond_true]
    have hfx : freezeV (h3.markRo ids) 8 (.slice (Sl.lst 2 true [(.bool false), (.slice Sl.nil), (.bool false), (.slice (Sl.lst 1 true [(.int .i64 (0 : Int))]))])) = some (.slice (lstS [(false, []), (false, [0])])) := rfl
    obtain ⟨ids2, e5⟩ := pchk_any F (d + 57) (L := [(false, []), (false, [0])]) (by simp) (by simp; omega) (by simp [litsN]) (fun s hs => by
      rcases List.mem_cons.1 hs with rfl | hs
      · simp; omega
      · rw [List.mem_singleton.1 hs]; simp; omega) hfx
    rw [e5, show pchk [(false, []), (false, [0])] = atV ((1 : Nat) : Int) err_api_ErrRange from rfl]
    simp only [Option.bind_some]
    rw [Placed_run F (d + 58) (show (104 : Int) ≠ 0 by omega)]
    simp only [Option.bind_some, agg_agg]
    rw [Same_run F (d + 55) (e := atV ((1 : Nat) : Int) err_api_ErrRange) (c := 104) (p := true) (x := ((1 : Nat) : Int)) (IsFault.at (j := 3) (by omega) ((1 : Nat) : Int)) (by omega) 104 true 1]
    exact ⟨_, rfl⟩
end Go.Proofs.YtdkckkhghghhdaaDoor
