/-
  Parts of the proof of AagBack: aag's reader: and, the body. aag's reader: the body's other loops. aag's reader: the body whole. aag's reader: the head; aag.Read. aag.Read. aag.Read. skolemref8.numbers, AagBytes. skolemref8.AagBytes. skolemworld.Number. skolemmake.Circuit. Faults in memory. The document's numbers. skolemref1.Split. Parts of slices that grow; what is marked; what was there before an append. The document's reader of circuits' texts: count, text, limits. The document's reader of circuits' texts: its loops. The document's reader of circuits' texts: its other loops. skolemref8.ReadAag. skolemref.SameInts. Circuits held against circuits; what the readers tell. aag.Bytes. skolemlaw11.first. skolemref.Bytes: a slice of its own. Bytes held against themselves. What is there still, behind calls. AagBack.
-/
import Derived.Test.YtmjbjgbcpaagmaaDoorTAagBack1
import Derived.Test.YtmjbjgbcpaagmaaDoorE
import Derived.Test.YtmjbjgbcpaagmaaDoorBm31
namespace Go.Proofs.YtmjbjgbcpaagmaaDoor
open Go.RowKit

theorem get_set {α : Type} {L : List α} {j : Nat} {c : α} (hj : L[j]? = some c) (c' : α) : (L.set j c')[j]? = some c' := by
  rw [List.getElem?_set_self (List.getElem?_eq_some_iff.1 hj).1]
theorem ret_put {h0 h : AHeap} {L : List Chunk} {P n : Nat} {cs : List AVal} (hs : Sep0 h0 h (.own 1 P 0 n cs :: L)) (hc : cs.length = n) {vs : List AVal} (hv : vs.length = n) :
    ∃ h', h.storeAt vs (.mk ⟨P, 0, 0⟩ n) = some h' ∧ h'.cellsAt n (.mk ⟨P, 0, 0⟩ n) = some vs ∧ Sep0 h0 h' (.own 1 P 0 n vs :: L) := by
  obtain ⟨h', e1, s1⟩ := hs.putAll (i := 0) rfl hc hv
  exact ⟨h', e1, s1.getAll (i := 0) rfl hv, s1⟩
theorem Sep0.tail {h0 h : AHeap} {L : List Chunk} {c : Chunk} (hs : Sep0 h0 h (c :: L)) : Sep0 h0 h L := hs.sub (List.sublist_cons_self c L)
abbrev pairC (x : Int × Int) : List AVal := [.int .i64 x.1, .int .i64 x.2]
abbrev zero3 : List AVal := [.int .i64 0, .slice .nil, .slice .nil]

section
variable (fuel d : Nat) {h0 : AHeap} {j r : Nat} {W : List Wd} {e : Int}
theorem aand_run (hf : 20 < fuel) {L : List Chunk} {h : AHeap} {k : Nat} {l : Int} (hl : 1 ≤ l) (hl9 : l < 1000000) (hk9 : k < 900000000) (hs : Sep0 h0 h L) (hj : L[j]? = some (rdCh r W k e)) :
    match andT e l (W.drop k) with
    | .error p => ∃ h' k', run fuel (d + 6) F_aag_reader_and [.ptr (rdP r), .int .i64 l] h = some (.tup [.agg (pairC (0, 0)), atV p err_api_ErrText], h') ∧ Sep0 h0 h' (L.set j (rdCh r W k' e))
    | .ok (x, W') => ∃ h', run fuel (d + 6) F_aag_reader_and [.ptr (rdP r), .int .i64 l] h = some (.tup [.agg (pairC x), .nilif], h') ∧ Sep0 h0 h' (L.set j (rdCh r W (k + 3) e)) ∧ W' = W.drop (k + 3) := by
  have s0 := (hs.push 1 2 (cs := pairC (0, 0)) rfl).cons
  have zero : ∀ {h1 : AHeap} {k1 : Nat} (p : Int), Sep0 h0 h1 (.own 1 h.next 0 2 (pairC (0, 0)) :: L.set j (rdCh r W k1 e)) → ∃ h' k', ((AHeap.storeAt h1 [(.int .i64 (0 : Int)), (.int .i64 (0 : Int))] (Pt.mk ⟨AHeap.next h, 0, 0⟩ 2)).bind fun h6 =>
    (((((AHeap.cellsAt h6 2 (Pt.mk ⟨AHeap.next h, 0, 0⟩ 2)).bind fun c8 =>
    some ((AVal.agg c8)) : Option AVal).bind fun v7 =>
    some [v7, atV p err_api_ErrText]) : Option (List AVal)).map AVal.tup).map fun v => (v, h6)) = some (AVal.tup [.agg (pairC (0, 0)), atV p err_api_ErrText], h') ∧ Sep0 h0 h' (L.set j (rdCh r W k' e)) := by
    intro h1 k1 p s1
    obtain ⟨h', e1, e2, s2⟩ := ret_put s1 rfl (vs := pairC (0, 0)) rfl
    rw [e1, Option.bind_some, e2]
    exact ⟨h', k1, rfl, s2.tail⟩
  rw [e_aag_reader_and]
  unfold andT
  have n1 := anum_run fuel d (h0 := h0) (j := j + 1) (k := k) hf true (lo := l) (hi := l) (by omega) (by omega) s0 hj
  cases q1 : numF true l l (W.drop k) with
  | none =>
    rw [q1] at n1
    obtain ⟨h1, k1, e1, s1⟩ := n1
    rw [e1]
    simp only [Option.bind_some, tup2, cond_true, comp0, comp1, int_int, nilTest_if, Bool.not_false]
    exact zero _ s1
  | some x1 =>
    rw [q1] at n1
    obtain ⟨h1, e1, s1⟩ := n1
    rw [e1]
    simp only [Option.bind_some, tup2, cond_true, comp0, comp1, int_int, nilTest_nilif, Bool.not_true, cond_false]
    rw [wrap64 (by omega) (by omega), List.drop_drop, List.drop_drop, List.drop_drop]
    have hj1 : (L.set j (rdCh r W (k + 1) e))[j]? = some (rdCh r W (k + 1) e) := get_set hj _
    have n2 := anum_run fuel d (h0 := h0) (j := j + 1) (k := k + 1) hf false (lo := 0) (hi := l - 1) (by omega) (by omega) s1 hj1
    cases q2 : numF false 0 (l - 1) (W.drop (k + 1)) with
    | none =>
      rw [q2] at n2
      obtain ⟨h2, k2, e2, s2⟩ := n2
      rw [e2]
      simp only [Option.bind_some, tup2, cond_true, comp0, comp1, int_int, nilTest_if, Bool.not_false]
      have s2' : Sep0 h0 h2 (.own 1 h.next 0 2 (pairC (0, 0)) :: (L.set j (rdCh r W (k + 1) e)).set j (rdCh r W k2 e)) := s2
      rw [List.set_set] at s2'
      exact zero _ s2'
    | some x2 =>
      obtain ⟨r1, r2, _⟩ := numF_range q2
      rw [q2] at n2
      obtain ⟨h2, e2, s2⟩ := n2
      rw [e2]
      simp only [Option.bind_some, tup2, cond_true, comp0, comp1, int_int, nilTest_nilif, Bool.not_true, cond_false]
      have s2' : Sep0 h0 h2 (.own 1 h.next 0 2 (pairC (0, 0)) :: (L.set j (rdCh r W (k + 1) e)).set j (rdCh r W (k + 1 + 1) e)) := s2
      rw [List.set_set] at s2'
      have hj2 : (L.set j (rdCh r W (k + 1 + 1) e))[j]? = some (rdCh r W (k + 1 + 1) e) := get_set hj _
      have n3 := anum_run fuel d (h0 := h0) (j := j + 1) (k := k + 1 + 1) hf false (lo := 0) (hi := x2) (by omega) (by omega) s2' hj2
      rw [show k + 1 + 1 = k + 2 by omega] at n3
      cases q3 : numF false 0 x2 (W.drop (k + 2)) with
      | none =>
        rw [q3] at n3
        obtain ⟨h3, k3, e3, s3⟩ := n3
        rw [e3]
        simp only [Option.bind_some, tup2, cond_true, comp0, comp1, int_int, nilTest_if, Bool.not_false]
        have s3' : Sep0 h0 h3 (.own 1 h.next 0 2 (pairC (0, 0)) :: (L.set j (rdCh r W (k + 2) e)).set j (rdCh r W k3 e)) := s3
        rw [List.set_set] at s3'
        exact zero _ s3'
      | some x3 =>
        rw [q3] at n3
        obtain ⟨h3, e3, s3⟩ := n3
        rw [e3]
        simp only [Option.bind_some, tup2, cond_true, comp0, comp1, int_int, nilTest_nilif, Bool.not_true, cond_false]
        have s3' : Sep0 h0 h3 (.own 1 h.next 0 2 (pairC (0, 0)) :: (L.set j (rdCh r W (k + 2) e)).set j (rdCh r W (k + 2 + 1) e)) := s3
        rw [List.set_set] at s3'
        obtain ⟨h', e4, e5, s4⟩ := ret_put s3' rfl (vs := pairC (x2, x3)) rfl
        rw [e4, Option.bind_some, e5]
        exact ⟨h', rfl, s4.tail, trivial⟩

/-- what the body holds -/
abbrev bodyL (i : Int) (Y Z N : Nat) (nn : List Int) (sO sA : Sl) (O : List Int) (A : List (Int × Int)) (L : List Chunk) : List Chunk :=
  .grown 1 sO (intsC O) :: .grown 2 sA (pairsC A) :: .own 1 Y 0 3 [.int .i64 i, .slice sA, .slice sO] :: .own 1 Z 0 3 zero3 :: .own 1 N 0 6 (intsC nn) :: L
abbrev nP (n : Nat) : Pt := .mk ⟨n, 0, 0⟩ 6
variable {Y Z N : Nat} {nn : List Int} {i : Int}
theorem abody_err {L : List Chunk} {h : AHeap} {sO sA : Sl} {O : List Int} {A : List (Int × Int)} (hs : Sep0 h0 h (bodyL i Y Z N nn sO sA O A L)) :
    ∃ h', h.storeAt zero3 (rdP Z) = some h' ∧ h'.cellsAt 3 (rdP Z) = some zero3 ∧ Sep0 h0 h' L := by
  obtain ⟨h', e1, s1⟩ := hs.putAll (i := 3) (vs := zero3) rfl rfl rfl
  exact ⟨h', e1, s1.getAll (i := 3) rfl rfl, s1.tail.tail.tail.tail.tail⟩
theorem abody0 (hf : 20 < fuel) {I : Nat} (hI : I ≤ 10000) {sO sA : Sl} {O : List Int} {A : List (Int × Int)} : ∀ (n m k : Nat) (L : List Chunk) (h : AHeap), I < n + m → m ≤ I → k + (I - m) < 900000000 → Sep0 h0 h (bodyL i Y Z N nn sO sA O A L) → L[j]? = some (rdCh r W k e) →
    match insT e m (I - m) (W.drop k) with
    | .error p => ∃ h' k', l_aag_reader_body_0 fuel (d + 7) n [(0, .ptr (rdP r)), (3, .ptr (nP N)), (4, .ptr (rdP Z)), (6, .ptr (rdP Y)), (19, .int .i64 (I : Int)), (20, .int .i64 (m : Int))] h = some (.ret, [(0, .ptr (rdP r)), (3, .ptr (nP N)), (4, .ptr (rdP Z)), (5, atV p err_api_ErrText), (6, .ptr (rdP Y))], h') ∧ h'.cellsAt 3 (rdP Z) = some zero3 ∧ Sep0 h0 h' (L.set j (rdCh r W k' e))
    | .ok W' => ∃ h', l_aag_reader_body_0 fuel (d + 7) n [(0, .ptr (rdP r)), (3, .ptr (nP N)), (4, .ptr (rdP Z)), (6, .ptr (rdP Y)), (19, .int .i64 (I : Int)), (20, .int .i64 (m : Int))] h = some (.exit 0, [(0, .ptr (rdP r)), (3, .ptr (nP N)), (4, .ptr (rdP Z)), (5, .bot), (6, .ptr (rdP Y))], h') ∧ Sep0 h0 h' (bodyL i Y Z N nn sO sA O A (L.set j (rdCh r W (k + (I - m)) e))) ∧ W' = W.drop (k + (I - m)) := by
  intro n
  induction n with
  | zero => intro m k L h h1 h2; omega
  | succ n ih =>
    intro m k L h h1 h2 hk9 hs hj
    rw [l_aag_reader_body_0_eq]
    by_cases hm : m < I
    · have n1 := anum_run fuel (d + 2) (h0 := h0) (j := j + 5) (k := k) hf true (lo := 2 * ((m : Int) + 1)) (hi := 2 * ((m : Int) + 1)) (by omega) (by omega) hs hj
      rw [bif_pos (by omega), wrap64 (n := (m : Int) + 1) (by omega) (by omega), wrap64 (n := 2 * ((m : Int) + 1)) (by omega) (by omega), show I - m = (I - (m + 1)) + 1 by omega]
      unfold insT
      cases q1 : numF true (2 * ((m : Int) + 1)) (2 * ((m : Int) + 1)) (W.drop k) with
      | none =>
        rw [q1] at n1
        obtain ⟨h1, k1, e1, s1⟩ := n1
        obtain ⟨h', e2, e3, s2⟩ := abody_err (L := L.set j (rdCh r W k1 e)) s1
        refine ⟨h', k1, ?_, e3, s2⟩
        rw [e1]
        simp only [Option.bind_some, tup2, cond_true, comp0, comp1, int_int, nilTest_if, Bool.not_false]
        rw [e2]
        rfl
      | some x1 =>
        rw [q1] at n1
        obtain ⟨h1, e1, s1⟩ := n1
        have := ih (m + 1) (k + 1) (L.set j (rdCh r W (k + 1) e)) h1 (by omega) (by omega) (by omega) s1 (get_set hj _)
        rw [List.drop_drop]
        rw [e1]
        simp only [Option.bind_some, tup2, cond_true, comp0, comp1, int_int, nilTest_nilif, Bool.not_true, cond_false]
        rw [show (m : Int) + 1 = ((m + 1 : Nat) : Int) by omega]
        simp only [List.set_set] at this
        rw [show k + (I - (m + 1) + 1) = k + 1 + (I - (m + 1)) by omega]
        exact this
    · obtain rfl : m = I := by omega
      rw [bif_neg (by omega), Nat.sub_self]
      unfold insT
      refine ⟨h, rfl, ?_, rfl⟩
      rw [Nat.add_zero, set_self hj]
      exact hs
end
end Go.Proofs.YtmjbjgbcpaagmaaDoor

namespace Go.Proofs.YtmjbjgbcpaagmaaDoor
open Go.RowKit

section
variable (fuel d : Nat) {h0 : AHeap} {j r : Nat} {W : List Wd} {e : Int} {Y Z N : Nat} {nn : List Int} {i : Int}
theorem nn_cell {L : List Chunk} {h : AHeap} {sO sA : Sl} {O : List Int} {A : List (Int × Int)} (hs : Sep0 h0 h (bodyL i Y Z N nn sO sA O A L)) {q : Nat} (hq : q < 6) {x : Int} (hx : nn[q]? = some x) : h.cell (.mk ⟨N, 0, q⟩ 6) = some (.int .i64 x) :=
  hs.part (i := 4) rfl hq (by rw [List.getElem?_map, hx]; rfl)
theorem abody1 (hf : 20 < fuel) {I : Nat} (hI : I ≤ 10000) {M : Int} (hM : nn[1]? = some M) (hM0 : 0 ≤ M) (hM9 : M < 1000000) {sA : Sl} {A : List (Int × Int)} : ∀ (n m k : Nat) (O : List Int) (sO : Sl) (L : List Chunk) (h : AHeap), I < n + m → m ≤ I → k + (I - m) < 900000000 → O.length = m → Sep0 h0 h (bodyL i Y Z N nn sO sA O A L) → L[j]? = some (rdCh r W k e) →
    match outsT e M (I - m) (W.drop k) O with
    | .error p => ∃ h' k', l_aag_reader_body_1 fuel (d + 7) n [(0, .ptr (rdP r)), (3, .ptr (nP N)), (4, .ptr (rdP Z)), (6, .ptr (rdP Y)), (40, .int .i64 (I : Int)), (41, .int .i64 (m : Int))] h = some (.ret, [(0, .ptr (rdP r)), (3, .ptr (nP N)), (4, .ptr (rdP Z)), (5, atV p err_api_ErrText), (6, .ptr (rdP Y))], h') ∧ h'.cellsAt 3 (rdP Z) = some zero3 ∧ Sep0 h0 h' (L.set j (rdCh r W k' e))
    | .ok (O', W') => ∃ h' sO', l_aag_reader_body_1 fuel (d + 7) n [(0, .ptr (rdP r)), (3, .ptr (nP N)), (4, .ptr (rdP Z)), (6, .ptr (rdP Y)), (40, .int .i64 (I : Int)), (41, .int .i64 (m : Int))] h = some (.exit 2, [(0, .ptr (rdP r)), (3, .ptr (nP N)), (4, .ptr (rdP Z)), (5, .bot), (6, .ptr (rdP Y))], h') ∧ Sep0 h0 h' (bodyL i Y Z N nn sO' sA O' A (L.set j (rdCh r W (k + (I - m)) e))) ∧ W' = W.drop (k + (I - m)) := by
  intro n
  induction n with
  | zero => intro m k O sO L h h1 h2; omega
  | succ n ih =>
    intro m k O sO L h h1 h2 hk9 hO hs hj
    have hsl := hs.len (i := 0) rfl
    simp only [List.length_map, Nat.mul_one] at hsl
    rw [l_aag_reader_body_1_eq]
    by_cases hm : m < I
    · have n1 := anum_run fuel (d + 2) (h0 := h0) (j := j + 5) (k := k) hf true (lo := 0) (hi := 2 * M + 1) (by omega) (by omega) hs hj
      have hc : h.cell (.mk ⟨N, 0, 1⟩ 6) = some (.int .i64 M) := nn_cell hs (by omega) hM
      rw [bif_pos (by omega), show Pt.elem 1 6 (1 : Int) (nP N) = some (.mk ⟨N, 0, 1⟩ 6) from rfl, Option.bind_some, hc, Option.bind_some, int_int, Option.bind_some, wrap64 (n := 2 * M) (by omega) (by omega), wrap64 (n := 2 * M + 1) (by omega) (by omega), show I - m = (I - (m + 1)) + 1 by omega]
      unfold outsT
      cases q1 : numF true 0 (2 * M + 1) (W.drop k) with
      | none =>
        rw [q1] at n1
        obtain ⟨h1, k1, e1, s1⟩ := n1
        obtain ⟨h', e2, e3, s2⟩ := abody_err (L := L.set j (rdCh r W k1 e)) s1
        refine ⟨h', k1, ?_, e3, s2⟩
        rw [e1]
        simp only [Option.bind_some, tup2, cond_true, comp0, comp1, int_int, nilTest_if, Bool.not_false]
        rw [e2]
        rfl
      | some x1 =>
        rw [q1] at n1
        obtain ⟨h1, e1, s1⟩ := n1
        have s1' : Sep0 h0 h1 (bodyL i Y Z N nn sO sA O A (L.set j (rdCh r W (k + 1) e))) := s1
        have cO : h1.cell (.mk ⟨Y, 0, 0 + 2⟩ 3) = some (.slice sO) := s1'.part (i := 2) rfl (by omega) rfl
        obtain ⟨sO', h2, e2, s2, _⟩ := s1'.grow (i := 0) (bytes := 8) (m := 1) (vs := [.int .i64 x1]) rfl rfl (by omega) (by omega)
        rw [set0] at s2
        obtain ⟨h3, e3, s3⟩ := s2.put (i := 2) (o := 2) (l := 3) (vs := [.slice sO']) rfl (by simp) (by simp)
        have s3' : Sep0 h0 h3 (bodyL i Y Z N nn sO' sA (O ++ [x1]) A (L.set j (rdCh r W (k + 1) e))) := by
          rw [show intsC O ++ [AVal.int .i64 x1] = intsC (O ++ [x1]) by simp] at s3
          exact s3
        have := ih (m + 1) (k + 1) (O ++ [x1]) sO' (L.set j (rdCh r W (k + 1) e)) h3 (by omega) (by omega) (by omega) (by simp; omega) s3' (get_set hj _)
        rw [List.drop_drop]
        rw [e1]
        simp only [Option.bind_some, tup2, cond_true, comp0, comp1, int_int, nilTest_nilif, Bool.not_true, cond_false, field_mk, cO, slice_slice]
        rw [e2]
        simp only [Option.bind_some]
        rw [show (0 + 2 : Nat) = 2 from rfl, e3, Option.bind_some, sucU (by omega)]
        simp only [List.set_set] at this
        rw [show k + (I - (m + 1) + 1) = k + 1 + (I - (m + 1)) by omega]
        exact this
    · obtain rfl : m = I := by omega
      rw [bif_neg (by omega), Nat.sub_self]
      unfold outsT
      refine ⟨h, sO, rfl, ?_, rfl⟩
      rw [Nat.add_zero, set_self hj]
      exact hs
theorem abody2 (hf : 20 < fuel) {I : Nat} (hI : I ≤ 10000) {M : Int} (hM : nn[2]? = some M) (hM0 : 0 ≤ M) (hM9 : M < 100000) {sO : Sl} {O : List Int} : ∀ (n m k : Nat) (A : List (Int × Int)) (sA : Sl) (L : List Chunk) (h : AHeap), I < n + m → m ≤ I → k + 3 * (I - m) < 800000000 → A.length = m → Sep0 h0 h (bodyL i Y Z N nn sO sA O A L) → L[j]? = some (rdCh r W k e) →
    match andsT e M m (I - m) (W.drop k) A with
    | .error p => ∃ h' k', l_aag_reader_body_2 fuel (d + 7) n [(0, .ptr (rdP r)), (3, .ptr (nP N)), (4, .ptr (rdP Z)), (6, .ptr (rdP Y)), (64, .int .i64 (I : Int)), (65, .int .i64 (m : Int))] h = some (.ret, [(0, .ptr (rdP r)), (4, .ptr (rdP Z)), (5, atV p err_api_ErrText), (6, .ptr (rdP Y))], h') ∧ h'.cellsAt 3 (rdP Z) = some zero3 ∧ Sep0 h0 h' (L.set j (rdCh r W k' e))
    | .ok (A', W') => ∃ h' sA', l_aag_reader_body_2 fuel (d + 7) n [(0, .ptr (rdP r)), (3, .ptr (nP N)), (4, .ptr (rdP Z)), (6, .ptr (rdP Y)), (64, .int .i64 (I : Int)), (65, .int .i64 (m : Int))] h = some (.exit 4, [(0, .ptr (rdP r)), (4, .ptr (rdP Z)), (5, .bot), (6, .ptr (rdP Y))], h') ∧ Sep0 h0 h' (bodyL i Y Z N nn sO sA' O A' (L.set j (rdCh r W (k + 3 * (I - m)) e))) ∧ W' = W.drop (k + 3 * (I - m)) := by
  intro n
  induction n with
  | zero => intro m k A sA L h h1 h2; omega
  | succ n ih =>
    intro m k A sA L h h1 h2 hk9 hA hs hj
    have hsl := hs.len (i := 1) rfl
    rw [pairsC_len] at hsl
    rw [l_aag_reader_body_2_eq]
    by_cases hm : m < I
    · have n1 := aand_run fuel (d + 1) (h0 := h0) (j := j + 5) (k := k) hf (l := 2 * (M + m + 1)) (by omega) (by omega) (by omega) hs hj
      have hc : h.cell (.mk ⟨N, 0, 2⟩ 6) = some (.int .i64 M) := nn_cell hs (by omega) hM
      rw [bif_pos (by omega), show Pt.elem 1 6 (2 : Int) (nP N) = some (.mk ⟨N, 0, 2⟩ 6) from rfl, Option.bind_some, hc, Option.bind_some, int_int, Option.bind_some, wrap64 (n := M + (m : Int)) (by omega) (by omega), wrap64 (n := M + (m : Int) + 1) (by omega) (by omega), wrap64 (n := 2 * (M + (m : Int) + 1)) (by omega) (by omega), show I - m = (I - (m + 1)) + 1 by omega]
      unfold andsT
      cases q1 : andT e (2 * (M + m + 1)) (W.drop k) with
      | error p =>
        rw [q1] at n1
        obtain ⟨h1, k1, e1, s1⟩ := n1
        have s1c := (Sep0.push s1 1 2 (cs := pairC (0, 0)) rfl).cons
        obtain ⟨h2, e2, s2⟩ := s1c.putAll (i := 0) (vs := pairC (0, 0)) rfl rfl rfl
        obtain ⟨h', e4, e5, s4⟩ := abody_err (L := L.set j (rdCh r W k1 e)) (Sep0.tail s2)
        refine ⟨h', k1, ?_, e5, s4⟩
        rw [e1]
        simp only [Option.bind_some, tup2, cond_true, comp0, comp1, agg_agg, show (!false && Nat.beq (List.length (pairC (0, 0))) 2 && List.all (pairC (0, 0)) AVal.isCell) = true from rfl]
        rw [e2]
        simp only [Option.bind_some, nilTest_if, Bool.not_false, cond_true]
        rw [e4]
        rfl
      | ok xw =>
        obtain ⟨x, W1⟩ := xw
        rw [q1] at n1
        obtain ⟨h1, e1, s1, rfl⟩ := n1
        have s1c := (Sep0.push s1 1 2 (cs := pairC (0, 0)) rfl).cons
        obtain ⟨h2, e2, e2c, s2⟩ := ret_put s1c rfl (vs := pairC x) rfl
        have s2' : Sep0 h0 h2 (bodyL i Y Z N nn sO sA O A (L.set j (rdCh r W (k + 3) e))) := Sep0.tail s2
        have cA : h2.cell (.mk ⟨Y, 0, 0 + 1⟩ 3) = some (.slice sA) := s2'.part (i := 2) rfl (by omega) rfl
        obtain ⟨sA', h3, e3, s3, _⟩ := s2'.grow (i := 1) (bytes := 16) (m := 1) (vs := pairC x) rfl rfl (by omega) (by omega)
        rw [set1] at s3
        obtain ⟨h4, e4, s4⟩ := s3.put (i := 2) (o := 1) (l := 3) (vs := [.slice sA']) rfl (by simp) (by simp)
        have s4' : Sep0 h0 h4 (bodyL i Y Z N nn sO sA' O (A ++ [x]) (L.set j (rdCh r W (k + 3) e))) := by
          rw [show pairsC A ++ pairC x = pairsC (A ++ [x]) by simp [pairsC]] at s4
          exact s4
        have := ih (m + 1) (k + 3) (A ++ [x]) sA' (L.set j (rdCh r W (k + 3) e)) h4 (by omega) (by omega) (by omega) (by simp; omega) s4' (get_set hj _)
        rw [e1]
        simp only [Option.bind_some, tup2, cond_true, comp0, comp1, agg_agg, show (!false && Nat.beq (List.length (pairC x)) 2 && List.all (pairC x) AVal.isCell) = true from rfl]
        rw [e2]
        simp only [Option.bind_some, nilTest_nilif, Bool.not_true, cond_false, field_mk, cA, slice_slice]
        rw [e2c]
        simp only [Option.bind_some]
        rw [show (Nat.beq (List.length (pairC x)) 2 && Nat.ble (0 + 2) (List.length [(AVal.int .i64 (0 : Int)), (AVal.int .i64 (0 : Int))]) && List.all (pairC x) AVal.isCell) = true from rfl, cond_true, Option.bind_some, show AHeap.overlay [(AVal.int .i64 (0 : Int)), (AVal.int .i64 (0 : Int))] 0 (pairC x) = pairC x from rfl, show AHeap.sliceCells h2 2 (Sl.lst 1 true (pairC x)) = some (pairC x) from rfl, Option.bind_some, show (Sl.lst 1 true (pairC x)).len = 1 from rfl, e3]
        simp only [Option.bind_some]
        rw [show (0 + 1 : Nat) = 1 from rfl, e4, Option.bind_some, sucU (by omega)]
        simp only [List.set_set] at this
        rw [show k + 3 * (I - (m + 1) + 1) = k + 3 + 3 * (I - (m + 1)) by omega]
        exact this
    · obtain rfl : m = I := by omega
      rw [bif_neg (by omega), Nat.sub_self]
      unfold andsT
      refine ⟨h, sA, rfl, ?_, rfl⟩
      rw [Nat.mul_zero, Nat.add_zero, set_self hj]
      exact hs
end
end Go.Proofs.YtmjbjgbcpaagmaaDoor

namespace Go.Proofs.YtmjbjgbcpaagmaaDoor
open Go.RowKit

section
variable (fuel d : Nat) {h0 : AHeap} {j r : Nat} {W : List Wd} {e : Int}
theorem abody_run (hf : 20000 < fuel) {L : List Chunk} {h : AHeap} {k : Nat} {m i l o a : Int} {nn : List Int} (hnn : nn = [0, m, i, l, o, a]) (hm : 0 ≤ m ∧ m ≤ 16000) (hi : 0 ≤ i ∧ i ≤ 8000) (ho : 0 ≤ o ∧ o ≤ 8000) (ha : 0 ≤ a ∧ a ≤ 8000) (hW : W.length < 700000000) (hk9 : k < 700000000) (hne : ∀ w ∈ W, w.text ≠ []) (hs : Sep0 h0 h L) (hj : L[j]? = some (rdCh r W k e)) :
    match bodyT e m i o a (W.drop k) with
    | .error p => ∃ h' k', run fuel (d + 8) F_aag_reader_body [.ptr (rdP r), .agg (intsC nn)] h = some (.tup [.agg zero3, atV p err_api_ErrText], h') ∧ Sep0 h0 h' (L.set j (rdCh r W k' e))
    | .ok (i', A, O) => i' = i ∧ ∃ h' sA sO k', run fuel (d + 8) F_aag_reader_body [.ptr (rdP r), .agg (intsC nn)] h = some (.tup [.agg [.int .i64 i, .slice sA, .slice sO], .nilif], h') ∧ Sep0 h0 h' (.grown 1 sO (intsC O) :: .grown 2 sA (pairsC A) :: L.set j (rdCh r W k' e)) := by
  have s1 := (((hs.push 1 6 (cs := intsC nn) (by rw [hnn]; rfl)).cons.push 1 3 (cs := zero3) rfl).cons.push 1 3 (cs := zero3) rfl).cons
  have hlen : (intsC nn).length = 6 := by rw [hnn]; rfl
  have c1 : (AHeap.push (AHeap.push h 1 (intsC nn)) 1 zero3).cell (.mk ⟨h.next, 0, 2⟩ 6) = some (.int .i64 i) := by
    have s9 := ((hs.push 1 6 (cs := intsC nn) (by rw [hnn]; rfl)).cons.push 1 3 (cs := zero3) rfl).cons
    exact s9.part (i := 1) rfl (by omega) (by rw [hnn]; rfl)
  rw [e_aag_reader_body, hlen, show List.all (intsC nn) AVal.isCell = true by rw [hnn]; rfl, cond_true, show Pt.elem 1 6 (2 : Int) (.mk ⟨h.next, 0, 0⟩ 6) = some (.mk ⟨h.next, 0, 2⟩ 6) from rfl, Option.bind_some, c1, Option.bind_some, int_int, Option.bind_some]
  obtain ⟨h4, e4, _, s4⟩ := ret_put s1 rfl (vs := [.int .i64 i, .slice .nil, .slice .nil]) rfl
  rw [e4, Option.bind_some]
  generalize hN : h.next = N at s4
  generalize hZ : (AHeap.push h 1 (intsC nn)).next = Z at s4
  generalize hY : (AHeap.push (AHeap.push h 1 (intsC nn)) 1 zero3).next = Y at s4
  have s5 : Sep0 h0 h4 (bodyL i Y Z N nn .nil .nil [] [] L) := ((s4.addNil 2).cons.addNil 1).cons
  have g2 : nn[2]? = some i := by rw [hnn]; rfl
  have c2 : h4.cell (.mk ⟨N, 0, 2⟩ 6) = some (.int .i64 i) := nn_cell s5 (by omega) g2
  rw [Option.bind_some, c2, Option.bind_some, int_int, Option.bind_some]
  obtain ⟨I, rfl⟩ := Int.eq_ofNat_of_zero_le hi.1
  obtain ⟨O, rfl⟩ := Int.eq_ofNat_of_zero_le ho.1
  obtain ⟨A, rfl⟩ := Int.eq_ofNat_of_zero_le ha.1
  have b0 := abody0 fuel d (h0 := h0) (r := r) (W := W) (e := e) (by omega) (I := I) (by omega) fuel 0 k L h4 (by omega) (by omega) (by omega) s5 hj
  unfold bodyT
  rw [Int.toNat_natCast, Int.toNat_natCast, Int.toNat_natCast]
  rw [show ((0 : Nat) : Int) = 0 from rfl, Nat.sub_zero] at b0
  cases q0 : insT e 0 I (W.drop k) with
  | error p =>
    rw [q0] at b0
    obtain ⟨h', k', e5, e6, s6⟩ := b0
    refine ⟨h', k', ?_, s6⟩
    rw [e5, Option.bind_some, k_aag_reader_body_0_r, e6]
    rfl
  | ok W1 =>
    rw [q0] at b0
    obtain ⟨h5, e5, s6, rfl⟩ := b0
    rw [e5, Option.bind_some, k_aag_reader_body_0_x0]
    have g4 : nn[4]? = some (O : Int) := by rw [hnn]; rfl
    have g1 : nn[1]? = some m := by rw [hnn]; rfl
    have c4 : h5.cell (.mk ⟨N, 0, 4⟩ 6) = some (.int .i64 (O : Int)) := nn_cell s6 (by omega) g4
    rw [show Pt.elem 1 6 (4 : Int) (.mk ⟨N, 0, 0⟩ 6) = some (.mk ⟨N, 0, 4⟩ 6) from rfl, Option.bind_some, c4, Option.bind_some, int_int, Option.bind_some]
    have b1 := abody1 fuel d (h0 := h0) (r := r) (W := W) (e := e) (by omega) (I := O) (by omega) g1 (by omega) (by omega) fuel 0 (k + I) [] .nil (L.set j (rdCh r W (k + I) e)) h5 (by omega) (by omega) (by omega) rfl s6 (get_set hj _)
    rw [show ((0 : Nat) : Int) = 0 from rfl, Nat.sub_zero] at b1
    simp only
    cases q1 : outsT e m O (W.drop (k + I)) [] with
    | error p =>
      rw [q1] at b1
      obtain ⟨h', k', e7, e8, s8⟩ := b1
      rw [List.set_set] at s8
      refine ⟨h', k', ?_, s8⟩
      rw [e7, Option.bind_some, k_aag_reader_body_1_r, e8]
      rfl
    | ok OW =>
      obtain ⟨Ol, W2⟩ := OW
      rw [q1] at b1
      obtain ⟨h6, sO, e7, s8, rfl⟩ := b1
      rw [List.set_set] at s8
      rw [e7, Option.bind_some, k_aag_reader_body_1_x2]
      have g5 : nn[5]? = some (A : Int) := by rw [hnn]; rfl
      have c5 : h6.cell (.mk ⟨N, 0, 5⟩ 6) = some (.int .i64 (A : Int)) := nn_cell s8 (by omega) g5
      rw [show Pt.elem 1 6 (5 : Int) (.mk ⟨N, 0, 0⟩ 6) = some (.mk ⟨N, 0, 5⟩ 6) from rfl, Option.bind_some, c5, Option.bind_some, int_int, Option.bind_some]
      have b2 := abody2 fuel d (h0 := h0) (r := r) (W := W) (e := e) (by omega) (I := A) (by omega) g2 (by omega) (by omega) fuel 0 (k + I + O) [] .nil (L.set j (rdCh r W (k + I + O) e)) h6 (by omega) (by omega) (by omega) rfl s8 (get_set hj _)
      rw [show ((0 : Nat) : Int) = 0 from rfl, Nat.sub_zero] at b2
      simp only
      cases q2 : andsT e I 0 A (W.drop (k + I + O)) [] with
      | error p =>
        rw [q2] at b2
        obtain ⟨h', k', e9, e10, s10⟩ := b2
        rw [List.set_set] at s10
        refine ⟨h', k', ?_, s10⟩
        rw [e9, Option.bind_some, k_aag_reader_body_2_r, e10]
        rfl
      | ok AW =>
        obtain ⟨Al, W3⟩ := AW
        rw [q2] at b2
        obtain ⟨h7, sA, e9, s10, rfl⟩ := b2
        rw [List.set_set] at s10
        rw [e9, Option.bind_some, k_aag_reader_body_2_x4]
        simp only
        generalize hK : k + I + O + 3 * A = K at s10
        have hK9 : K < 800000000 := by omega
        have hj5 : (bodyL I Y Z N nn sO sA Ol Al (L.set j (rdCh r W K e)))[j + 5]? = some (rdCh r W K e) := get_set hj _
        have fin : ∀ (x : Bool), ∃ h', (match (if x = true then some (posW e (W.drop K)) else none) with
            | some p => ∃ k', k_aag_reader_body_3 fuel (d + 7) .normal [(0, .ptr (rdP r)), (4, .ptr (rdP Z)), (6, .ptr (rdP Y)), (128, .bool x)] h7 = some (.tup [.agg zero3, atV p err_api_ErrText], h') ∧ Sep0 h0 h' (L.set j (rdCh r W k' e))
            | none => ∃ k', k_aag_reader_body_3 fuel (d + 7) .normal [(0, .ptr (rdP r)), (4, .ptr (rdP Z)), (6, .ptr (rdP Y)), (128, .bool x)] h7 = some (.tup [.agg [.int .i64 (I : Int), .slice sA, .slice sO], .nilif], h') ∧ Sep0 h0 h' (.grown 1 sO (intsC Ol) :: .grown 2 sA (pairsC Al) :: L.set j (rdCh r W k' e)) : Prop) := by
          intro x
          cases x with
          | true =>
            obtain ⟨h', e11, e12, s12⟩ := abody_err (L := L.set j (rdCh r W K e)) s10
            refine ⟨h', K, ?_, s12⟩
            rw [k_aag_reader_body_3_n, cond_true, apos_run fuel (d + 6) s10 hj5]
            simp only [Option.bind_some, int_int]
            rw [same_self, aat0 fuel (d + 6)]
            simp only [Option.bind_some]
            rw [e11, Option.bind_some, e12]
            rfl
          | false =>
            have cY : h7.cellsAt 3 (rdP Y) = some [.int .i64 (I : Int), .slice sA, .slice sO] := s10.getAll (i := 2) rfl rfl
            obtain ⟨h', e11, s12⟩ := s10.putAll (i := 3) (vs := [.int .i64 (I : Int), .slice sA, .slice sO]) rfl rfl rfl
            have cZ : h'.cellsAt 3 (rdP Z) = some [.int .i64 (I : Int), .slice sA, .slice sO] := s12.getAll (i := 3) rfl rfl
            refine ⟨h', K, ?_, s12.sub ((List.Sublist.refl _).cons _ |>.cons _ |>.cons _ |>.cons_cons _ |>.cons_cons _)⟩
            rw [k_aag_reader_body_3_n, cond_false, cY, Option.bind_some, show (!false && Nat.beq (List.length [AVal.int .i64 (I : Int), .slice sA, .slice sO]) 3 && List.all [AVal.int .i64 (I : Int), .slice sA, .slice sO] AVal.isCell) = true from rfl, cond_true, e11, Option.bind_some, cZ]
            rfl
        have fin2 : ∀ x : Bool, (if x = true then some (posW e (W.drop K)) else none) = endT (W.drop K) → match (match endT (W.drop K) with | some p => (Except.error p : Except Int Ci) | none => .ok ((I : Int), Al, Ol)) with
            | .error p => ∃ h' k', k_aag_reader_body_3 fuel (d + 7) .normal [(0, .ptr (rdP r)), (4, .ptr (rdP Z)), (6, .ptr (rdP Y)), (128, .bool x)] h7 = some (.tup [.agg zero3, atV p err_api_ErrText], h') ∧ Sep0 h0 h' (L.set j (rdCh r W k' e))
            | .ok (i', A', O') => i' = (I : Int) ∧ ∃ h' sA sO k', k_aag_reader_body_3 fuel (d + 7) .normal [(0, .ptr (rdP r)), (4, .ptr (rdP Z)), (6, .ptr (rdP Y)), (128, .bool x)] h7 = some (.tup [.agg [.int .i64 (I : Int), .slice sA, .slice sO], .nilif], h') ∧ Sep0 h0 h' (.grown 1 sO (intsC O') :: .grown 2 sA (pairsC A') :: L.set j (rdCh r W k' e)) := by
          intro x hx
          obtain ⟨h', hq⟩ := fin x
          rw [hx] at hq
          cases hend : endT (W.drop K) with
          | some p =>
            rw [hend] at hq
            obtain ⟨k', q⟩ := hq
            exact ⟨h', k', q⟩
          | none =>
            rw [hend] at hq
            obtain ⟨k', q⟩ := hq
            exact ⟨rfl, h', sA, sO, k', q⟩
        simp only [chk_mk, field_mk, Option.bind_some, rd_c0 s10 hj5, rd_c1 s10 hj5, int_int, slice_slice]
        rw [len_lst]
        by_cases hk : K < W.length
        · rw [bif_pos (by omega), waddr h7 hk]
          have hmem : W.getD K ⟨[], 0, false⟩ ∈ W := by rw [List.getD_eq_getElem?_getD, List.getElem?_eq_getElem hk]; exact List.getElem_mem hk
          have hdw := drop_wd hk
          generalize W.getD K ⟨[], 0, false⟩ = w at hmem hdw
          simp only [Option.bind_some, wf2, cell_fp, bool_bool]
          have he : endT (W.drop K) = if (!w.first || !(w.text.getD 0 0 == 99)) = true then some (w.pos : Int) else none := by rw [hdw]; rfl
          have hp : posW e (W.drop K) = (w.pos : Int) := by rw [hdw]; rfl
          cases hfi : w.first with
          | false =>
            simp only [Bool.not_false, cond_true, Option.bind_some]
            exact fin2 true (by rw [he, hp, hfi]; rfl)
          | true =>
            have h9 := strAt_mk (l := w.text) (k := 0) (List.length_pos_iff.2 (hne w hmem))
            rw [show ((0 : Nat) : Int) = 0 from rfl] at h9
            simp only [Bool.not_true, cond_false, Option.bind_some, wf0, wc0, str_str]
            rw [h9]
            simp only [Option.bind_some]
            have e99 := u8_dec (w.text.getD 0 0) 99
            rw [show (((99 : UInt8).toNat : Nat) : Int) = 99 from rfl] at e99
            rw [e99]
            exact fin2 _ (by rw [he, hp, hfi]; rfl)
        · rw [bif_neg (by omega)]
          simp only [Option.bind_some]
          exact fin2 false (by rw [List.drop_eq_nil_of_le (by omega)]; rfl)
end
end Go.Proofs.YtmjbjgbcpaagmaaDoor

namespace Go.Proofs.YtmjbjgbcpaagmaaDoor
open Go.RowKit

theorem canon_aggI (nn : List Int) : canonV 8 (.agg (intsC nn)) = some (.agg (intsC nn)) := by
  rw [canon_agg]
  have : ∀ l : List Int, (intsC l).mapM (canonV 7) = some (intsC l) := by
    intro l
    induction l with
    | nil => rfl
    | cons x l ih => exact canonM_cons (u := .int .i64 x) rfl ih
  rw [this]; rfl
def limA : Option (Nat × Int) → AVal
  | none => .tup [.int .i64 0, .nilif]
  | some (k, c) => .tup [.int .i64 (k : Int), errC c]
theorem limT_code {m i l o a c : Int} {k : Nat} (h : limT m i l o a = some (k, c)) : (c = 101 ∨ c = 102) ∧ k < 6 ∧ 0 < k := by
  unfold limT at h
  repeat' split at h
  all_goals (first | (cases h; exact ⟨.inl rfl, by omega, by omega⟩) | (cases h; exact ⟨.inr rfl, by omega, by omega⟩) | cases h)
theorem limits_run (fuel d : Nat) {x m i l o a : Int} (hi : 0 ≤ i ∧ i ≤ 999999999) (ha : 0 ≤ a ∧ a ≤ 999999999) (h : AHeap) : run fuel (d + 1) F_aag_Limits [.agg (intsC [x, m, i, l, o, a])] h = some (limA (limT m i l o a), h) := by
  refine pure_ex rfl rfl (cc1 (canon_aggI _)) (r := limA (limT m i l o a)) ⟨AHeap.none.push 1 (intsC [x, m, i, l, o, a]), ?_⟩ ?_
  · have s1 := (Sep0.start AHeap.none).push 1 6 (cs := intsC [x, m, i, l, o, a]) rfl
    have el : ∀ (q : Int) (p : Nat), q = p → p < 6 → Pt.elem 1 6 q (.mk ⟨AHeap.none.next, 0, 0⟩ 6) = some (.mk ⟨AHeap.none.next, 0, p⟩ 6) := by
      intro q p hq hp
      subst hq
      rcases (show p = 0 ∨ p = 1 ∨ p = 2 ∨ p = 3 ∨ p = 4 ∨ p = 5 by omega) with rfl | rfl | rfl | rfl | rfl | rfl <;> rfl
    have c1 : (AHeap.none.push 1 (intsC [x, m, i, l, o, a])).cell (.mk ⟨AHeap.none.next, 0, 1⟩ 6) = some (.int .i64 m) := s1.part (i := 0) rfl (by omega) rfl
    have c2 : (AHeap.none.push 1 (intsC [x, m, i, l, o, a])).cell (.mk ⟨AHeap.none.next, 0, 2⟩ 6) = some (.int .i64 i) := s1.part (i := 0) rfl (by omega) rfl
    have c3 : (AHeap.none.push 1 (intsC [x, m, i, l, o, a])).cell (.mk ⟨AHeap.none.next, 0, 3⟩ 6) = some (.int .i64 l) := s1.part (i := 0) rfl (by omega) rfl
    have c4 : (AHeap.none.push 1 (intsC [x, m, i, l, o, a])).cell (.mk ⟨AHeap.none.next, 0, 4⟩ 6) = some (.int .i64 o) := s1.part (i := 0) rfl (by omega) rfl
    have c5 : (AHeap.none.push 1 (intsC [x, m, i, l, o, a])).cell (.mk ⟨AHeap.none.next, 0, 5⟩ 6) = some (.int .i64 a) := s1.part (i := 0) rfl (by omega) rfl
    rw [e_aag_Limits, show List.all (intsC [x, m, i, l, o, a]) AVal.isCell = true from rfl, cond_true, show (intsC [x, m, i, l, o, a]).length = 6 from rfl]
    simp only [el 1 1 rfl (by omega), el 2 2 rfl (by omega), el 3 3 rfl (by omega), el 4 4 rfl (by omega), el 5 5 rfl (by omega), Option.bind_some, c1, c2, c3, c4, c5, int_int]
    rw [wrap64 (n := i + a) (by omega) (by omega)]
    unfold limT
    by_cases b1 : 8000 < i
    · rw [bif_pos b1, if_pos b1]; rfl
    rw [bif_neg b1, if_neg b1]
    by_cases b2 : 8000 < i + a
    · rw [bif_pos b2, if_pos b2]; rfl
    rw [bif_neg b2, if_neg b2]
    by_cases b3 : 8000 < o
    · rw [bif_pos b3, if_pos b3]; rfl
    rw [bif_neg b3, if_neg b3]
    by_cases b4 : m = i + a
    · rw [bif_npos b4, if_neg (show ¬ m ≠ i + a from fun h => h b4)]
      by_cases b5 : l = 0
      · rw [bif_npos b5, if_neg (show ¬ l ≠ 0 from fun h => h b5)]; rfl
      · rw [bif_nneg b5, if_pos b5]; rfl
    · rw [bif_nneg b4, if_pos b4]; rfl
  · intro h'
    cases hl : limT m i l o a with
    | none => rfl
    | some kc =>
      obtain ⟨k, c⟩ := kc
      rcases (limT_code hl).1 with rfl | rfl <;> rfl
theorem intsC_set {l : List Int} {k : Nat} (hk : k < l.length) (v : Int) : (intsC l).take k ++ [AVal.int .i64 v] ++ (intsC l).drop (k + 1) = intsC (l.set k v) := by
  rw [List.set_eq_take_append_cons_drop, if_pos hk]
  simp
theorem aatC (fuel d : Nat) {c : Int} (hc : c = 101 ∨ c = 102) (p : Int) (h : AHeap) : run fuel (d + 1) F_aag_at [.int .i64 p, errC c] h = some (atV p (errC c), h) := by
  rcases hc with rfl | rfl
  · exact aat_run fuel d (j := 0) (by omega) p h
  · exact aat_run fuel d (j := 1) (by omega) p h

section
variable (fuel d : Nat) {h0 : AHeap} {j r : Nat} {W : List Wd} {e : Int}
abbrev headS (P N R : Nat) (pl nn rr : List Int) (L : List Chunk) : List Chunk := .own 1 P 0 6 (intsC pl) :: .own 1 N 0 6 (intsC nn) :: .own 1 R 0 6 (intsC rr) :: L
variable {P N R : Nat}
theorem elem6 {p : Nat} (hp : p < 6) (N : Nat) : Pt.elem 1 6 (p : Int) (nP N) = some (.mk ⟨N, 0, p⟩ 6) := by
  rcases (show p = 0 ∨ p = 1 ∨ p = 2 ∨ p = 3 ∨ p = 4 ∨ p = 5 by omega) with rfl | rfl | rfl | rfl | rfl | rfl <;> rfl
theorem all6 {nn : List Int} (h : nn.length = 6) : (!false && Nat.beq (List.length (intsC nn)) 6 && List.all (intsC nn) AVal.isCell) = true := by
  rw [List.length_map, h]
  simp
  intro x _
  rfl
theorem all6t {nn : List Int} (h : nn.length = 6) : (true && Nat.beq (List.length (intsC nn)) 6 && List.all (intsC nn) AVal.isCell) = true := all6 h
theorem head_bad {L : List Chunk} {h : AHeap} {k : Nat} {pl nn rr : List Int} (hk : k < 6) (hl : pl.length = 6) (hn : nn.length = 6) (hr : rr.length = 6) (hs : Sep0 h0 h (headS P N R pl nn rr L)) {x : Int} (hx : pl[k]? = some x) (n x12 : Nat) (x0 : Pt) :
    ∃ h', k_aag_reader_head_1 fuel (d + 5) n .normal [(0, .ptr x0), (2, .ptr (nP R)), (4, .ptr (nP N)), (5, .ptr (nP P)), (6, .int .i64 (k : Int)), (9, .bool false), (12, .int .i64 (x12 : Int))] h = some (.ret, [(2, .ptr (nP R)), (3, atV x err_api_ErrText), (4, .ptr (nP N)), (5, .ptr (nP P))], h') ∧ h'.cellsAt 6 (nP R) = some (intsC nn) ∧ Sep0 h0 h' L := by
  have cN : h.cellsAt 6 (nP N) = some (intsC nn) := hs.getAll (i := 1) rfl (by rw [List.length_map, hn])
  have cP : h.cell (.mk ⟨P, 0, k⟩ 6) = some (.int .i64 x) := hs.part (i := 0) rfl hk (by rw [List.getElem?_map, hx]; rfl)
  obtain ⟨h', e1, s1⟩ := hs.putAll (i := 2) (vs := intsC nn) rfl (by rw [List.length_map, hr]) (by rw [List.length_map, hn])
  refine ⟨h', ?_, s1.getAll (i := 2) rfl (by rw [List.length_map, hn]), s1.tail.tail.tail⟩
  rw [k_aag_reader_head_1_n, Bool.not_false, cond_true, cN, Option.bind_some, elem6 hk, Option.bind_some, cP, Option.bind_some, int_int, Option.bind_some, aat0 fuel (d + 4), Option.bind_some]
  simp only
  rw [cN, Option.bind_some, same_self, all6t hn, cond_true, e1]
  rfl
theorem head_loop (hf : 20 < fuel) : ∀ (n k : Nat) (acc pl nn rr : List Int) (L : List Chunk) (h : AHeap), 6 < n + k → 1 ≤ k → k ≤ 6 → pl.length = 6 → nn.length = 6 → rr.length = 6 → nn.take k = 0 :: acc → (∀ i, i < k → pl.getD i 0 = ((W.getD i ⟨[], 0, false⟩).pos : Int)) → Sep0 h0 h (headS P N R pl nn rr L) → L[j]? = some (rdCh r W k e) →
    match numsH e (6 - k) (W.drop k) acc with
    | .error p => ∃ h' k' nn', l_aag_reader_head_0 fuel (d + 5) n [(0, .ptr (rdP r)), (2, .ptr (nP R)), (4, .ptr (nP N)), (5, .ptr (nP P)), (12, .int .i64 (k : Int))] h = some (.ret, [(2, .ptr (nP R)), (3, atV p err_api_ErrText), (4, .ptr (nP N)), (5, .ptr (nP P))], h') ∧ nn'.length = 6 ∧ h'.cellsAt 6 (nP R) = some (intsC nn') ∧ Sep0 h0 h' (L.set j (rdCh r W k' e))
    | .ok M => ∃ h' pl', l_aag_reader_head_0 fuel (d + 5) n [(0, .ptr (rdP r)), (2, .ptr (nP R)), (4, .ptr (nP N)), (5, .ptr (nP P)), (12, .int .i64 (k : Int))] h = some (.exit 0, [(2, .ptr (nP R)), (3, .bot), (4, .ptr (nP N)), (5, .ptr (nP P))], h') ∧ pl'.length = 6 ∧ (∀ i, i < 6 → pl'.getD i 0 = ((W.getD i ⟨[], 0, false⟩).pos : Int)) ∧ Sep0 h0 h' (headS P N R pl' (0 :: M) rr (L.set j (rdCh r W 6 e))) := by
  intro n
  induction n with
  | zero => intro k acc pl nn rr L h h1 h2; omega
  | succ n ih =>
    intro k acc pl nn rr L h h1 h2 h3 hl hn hr htk hpl hs hj
    rw [l_aag_reader_head_0_eq]
    by_cases hk : k < 6
    · have hj3 : (headS P N R pl nn rr L)[j + 3]? = some (rdCh r W k e) := hj
      obtain ⟨h1', e1, s1⟩ := hs.put (i := 0) (o := k) (l := 6) (vs := [.int .i64 (posW e (W.drop k))]) rfl (by simp; omega) (by simp; omega)
      rw [set0, show [AVal.int .i64 (posW e (W.drop k))].length = 1 from rfl, intsC_set (by omega)] at s1
      have hj1 : (headS P N R (pl.set k (posW e (W.drop k))) nn rr L)[j + 3]? = some (rdCh r W k e) := hj
      have hw := aword_run fuel (d + 3) false (by omega) s1 hj1
      rw [bif_pos (by omega), apos_run fuel (d + 4) hs hj3, Option.bind_some, int_int, Option.bind_some, elem6 hk, Option.bind_some, e1, Option.bind_some, decide_eq_false (show ¬ (k : Int) = 0 by omega), show 6 - k = (6 - (k + 1)) + 1 by omega]
      unfold numsH
      have hlp : (pl.set k (posW e (W.drop k))).length = 6 := by rw [List.length_set]; exact hl
      cases hq : wF false (W.drop k) with
      | none =>
        rw [hq] at hw
        have cN : h1'.cellsAt 6 (nP N) = some (intsC nn) := s1.getAll (i := 1) rfl (by rw [List.length_map, hn])
        obtain ⟨h', e2, s2⟩ := s1.putAll (i := 2) (vs := intsC nn) rfl (by rw [List.length_map, hr]) (by rw [List.length_map, hn])
        refine ⟨h', k, nn, ?_, hn, s2.getAll (i := 2) rfl (by rw [List.length_map, hn]), ?_⟩
        · rw [hw]
          simp only [Option.bind_some, tup2, cond_true, comp0, comp1, str_str, nilTest_if, Bool.not_false]
          rw [cN, Option.bind_some, all6t hn, cond_true, e2]
          rfl
        · rw [set_self hj]
          exact s2.tail.tail.tail
      | some w =>
        rw [hq] at hw
        obtain ⟨h2', e2, s2⟩ := hw
        obtain ⟨W', hW'⟩ := wF_head hq
        have hpos : posW e (W.drop k) = (w.pos : Int) := by rw [hW']; rfl
        have s2' : Sep0 h0 h2' (headS P N R (pl.set k (posW e (W.drop k))) nn rr (L.set j (rdCh r W (k + 1) e))) := s2
        obtain ⟨h3', e3, s3⟩ := s2'.put (i := 1) (o := k) (l := 6) (vs := [.int .i64 (if plainW w.text = true then numW w.text else 0)]) rfl (by simp; omega) (by simp; omega)
        rw [set1, show [AVal.int .i64 (if plainW w.text = true then numW w.text else 0)].length = 1 from rfl, intsC_set (by omega)] at s3
        have hnl : (nn.set k (if plainW w.text = true then numW w.text else 0)).length = 6 := by rw [List.length_set]; exact hn
        rw [e2]
        simp only [Option.bind_some, tup2, cond_true, comp0, comp1, str_str, nilTest_nilif, Bool.not_true, cond_false]
        rw [bif_pos (show (0 : Int) < (k : Int) by omega), plain_run fuel (d + 1) hf]
        simp only [Option.bind_some, tup2, cond_true, comp0, comp1, int_int, bool_bool]
        rw [elem6 hk, Option.bind_some, e3, Option.bind_some, Option.bind_some]
        simp only
        have hgp : (pl.set k (posW e (W.drop k)))[k]? = some (w.pos : Int) := by rw [List.getElem?_set_self (by omega), hpos]
        cases hp : plainW w.text with
        | false =>
          rw [hp] at s3 hnl
          obtain ⟨h', e4, e5, s4⟩ := head_bad fuel d hk hlp hnl hr s3 hgp n k (rdP r)
          exact ⟨h', k + 1, _, e4, hnl, e5, s4⟩
        | true =>
          rw [hp] at s3 hnl
          simp only [if_true] at s3 hnl ⊢
          rw [k_aag_reader_head_1_n, Bool.not_true, cond_false, sucU (by omega)]
          have hw9 : W.getD k ⟨[], 0, false⟩ = w := by
            by_cases hkw : k < W.length
            · rw [drop_wd hkw] at hW'
              exact (List.cons.inj hW').1
            · rw [List.drop_eq_nil_of_le (by omega)] at hW'; cases hW'
          have := ih (k + 1) (acc ++ [numW w.text]) (pl.set k (posW e (W.drop k))) (nn.set k (numW w.text)) rr (L.set j (rdCh r W (k + 1) e)) h3' (by omega) (by omega) (by omega) hlp hnl hr ?_ ?_ s3 (get_set hj _)
          · rw [List.drop_drop]
            simp only [List.set_set] at this
            exact this
          · rw [take_get (by omega) 0, List.take_set_of_le (Nat.le_refl _), htk]
            simp [List.getD_eq_getElem?_getD, show k < nn.length by omega]
          · intro i hi
            by_cases hik : i = k
            · subst hik
              rw [List.getD_eq_getElem?_getD, hgp, hw9]; rfl
            · rw [List.getD_eq_getElem?_getD, List.getElem?_set_ne (by omega), ← List.getD_eq_getElem?_getD]
              exact hpl i (by omega)
    · obtain rfl : k = 6 := by omega
      rw [bif_neg (by omega), Nat.sub_self]
      unfold numsH
      refine ⟨h, pl, rfl, hl, hpl, ?_⟩
      rw [List.take_of_length_le (by omega)] at htk
      rw [set_self hj, ← htk]
      exact hs
end
end Go.Proofs.YtmjbjgbcpaagmaaDoor

namespace Go.Proofs.YtmjbjgbcpaagmaaDoor
open Go.RowKit

theorem split_ne (b : List UInt8) (c : Bool) : ∀ w ∈ splitOf b c, w.text ≠ [] := by
  have key : ∀ (n k : Nat), ∀ w ∈ splitGo b c n k, w.text ≠ [] := by
    intro n
    induction n with
    | zero => intro k w hw; cases hw
    | succ n ih =>
      intro k w hw
      simp only [splitGo] at hw
      split at hw
      · rcases List.mem_append.1 hw with hw | hw
        · split at hw
          · exact lineGo_text _ _ _ w hw
          · cases hw
        · exact ih _ w hw
      · cases hw
  exact key _ _
theorem split_len (b : List UInt8) (c : Bool) : (splitOf b c).length ≤ b.length := by
  have := splitGo_len (b := b) (c := c) (b.length + 1) 0
  unfold splitOf
  omega
theorem errC_no (p c : Int) : nilTest .iface (atV p (errC c)) = some false := rfl
theorem headA_code {e c p : Int} {W : List Wd} (h : headA e W = .error (c, p)) : c = 101 ∨ c = 102 := by
  unfold headA at h
  repeat' split at h
  all_goals (first | (cases h; exact .inl rfl) | (rename_i hl; cases h; exact (limT_code hl).1) | cases h)
theorem headA_ok {e : Int} {W : List Wd} {M : List Int} (h : headA e W = .ok M) : M.length = 5 ∧ (∀ x ∈ M, 0 ≤ x ∧ x ≤ 999999999) ∧ limT (M.getD 0 0) (M.getD 1 0) (M.getD 2 0) (M.getD 3 0) (M.getD 4 0) = none := by
  unfold headA at h
  split at h
  · cases h
  · split at h
    · split at h
      · cases h
      · rename_i N hN
        split at h
        · cases h
        · rename_i hl
          cases h
          obtain ⟨h1, _, h3⟩ := numsH_len hN
          exact ⟨by simpa using h1, h3 (fun x hx => by cases hx), hl⟩
    · cases h
theorem five {M : List Int} (h : M.length = 5) : M = [M.getD 0 0, M.getD 1 0, M.getD 2 0, M.getD 3 0, M.getD 4 0] := by
  match M, h with
  | [a, b, c, d, e], _ => rfl
section
variable (fuel d : Nat) {h0 : AHeap} {j r : Nat} {W : List Wd} {e : Int}
theorem head_run2 (hf : 20 < fuel) {L : List Chunk} {h : AHeap} (hs : Sep0 h0 h L) (hj : L[j]? = some (rdCh r W 0 e)) :
    match headA e W with
    | .error (c, p) => ∃ h' k' nn, run fuel (d + 6) F_aag_reader_head [.ptr (rdP r)] h = some (.tup [.agg (intsC nn), atV p (errC c)], h') ∧ nn.length = 6 ∧ Sep0 h0 h' (L.set j (rdCh r W k' e))
    | .ok M => ∃ h', run fuel (d + 6) F_aag_reader_head [.ptr (rdP r)] h = some (.tup [.agg (intsC (0 :: M)), .nilif], h') ∧ Sep0 h0 h' (L.set j (rdCh r W 6 e)) := by
  have s1 := (((hs.push 1 6 (cs := intsC [0, 0, 0, 0, 0, 0]) rfl).cons.push 1 6 (cs := intsC [0, 0, 0, 0, 0, 0]) rfl).cons.push 1 6 (cs := intsC [0, 0, 0, 0, 0, 0]) rfl).cons
  rw [e_aag_reader_head]
  rw [show [(AVal.int .i64 (0 : Int)), (.int .i64 (0 : Int)), (.int .i64 (0 : Int)), (.int .i64 (0 : Int)), (.int .i64 (0 : Int)), (.int .i64 (0 : Int))] = intsC [0, 0, 0, 0, 0, 0] from rfl]
  generalize h.next = R at s1
  generalize (h.push 1 (intsC [0, 0, 0, 0, 0, 0])).next = N at s1
  generalize ((h.push 1 (intsC [0, 0, 0, 0, 0, 0])).push 1 (intsC [0, 0, 0, 0, 0, 0])).next = P at s1
  generalize (((h.push 1 (intsC [0, 0, 0, 0, 0, 0])).push 1 (intsC [0, 0, 0, 0, 0, 0])).push 1 (intsC [0, 0, 0, 0, 0, 0])) = H at s1
  have hs' : Sep0 h0 H (headS P N R [0, 0, 0, 0, 0, 0] [0, 0, 0, 0, 0, 0] [0, 0, 0, 0, 0, 0] L) := s1
  have hj3 : (headS P N R [0, 0, 0, 0, 0, 0] [0, 0, 0, 0, 0, 0] [0, 0, 0, 0, 0, 0] L)[j + 3]? = some (rdCh r W 0 e) := hj
  obtain ⟨f, rfl⟩ : ∃ f, fuel = f + 1 := ⟨fuel - 1, by omega⟩
  rw [l_aag_reader_head_0_eq]
  obtain ⟨h1', e1, s1⟩ := hs'.put (i := 0) (o := 0) (l := 6) (vs := [.int .i64 (posW e W)]) rfl (by simp) (by simp)
  have s1' : Sep0 h0 h1' (headS P N R [posW e W, 0, 0, 0, 0, 0] [0, 0, 0, 0, 0, 0] [0, 0, 0, 0, 0, 0] L) := s1
  have hj1 : (headS P N R [posW e W, 0, 0, 0, 0, 0] [0, 0, 0, 0, 0, 0] [0, 0, 0, 0, 0, 0] L)[j + 3]? = some (rdCh r W 0 e) := hj
  have hw := aword_run (f + 1) (d + 3) true (by omega) s1' hj1
  have hpos := apos_run (f + 1) (d + 4) hs' hj3
  rw [List.drop_zero] at hw hpos
  rw [bif_pos (show (0 : Int) < 6 by omega), hpos, Option.bind_some, int_int, Option.bind_some, show Pt.elem 1 6 (0 : Int) (.mk ⟨P, 0, 0⟩ 6) = some (.mk ⟨P, 0, 0⟩ 6) from rfl, Option.bind_some, e1, Option.bind_some, decide_eq_true (show (0 : Int) = 0 from rfl)]
  unfold headA
  have ret : ∀ (u x4 x5 : AVal) (h' : AHeap) (nn : List Int), h'.cellsAt 6 (nP R) = some (intsC nn) → k_aag_reader_head_0 (f + 1) (d + 5) .ret [(2, .ptr (nP R)), (3, u), (4, x4), (5, x5)] h' = some (.tup [.agg (intsC nn), u], h') := by
    intro u x4 x5 h' nn hc
    rw [k_aag_reader_head_0_r, hc]
    rfl
  cases hq : wF true W with
  | none =>
    rw [hq] at hw
    have cN : h1'.cellsAt 6 (nP N) = some (intsC [0, 0, 0, 0, 0, 0]) := s1'.getAll (i := 1) rfl rfl
    obtain ⟨h', e2, s2⟩ := s1'.putAll (i := 2) (vs := intsC [0, 0, 0, 0, 0, 0]) rfl rfl rfl
    refine ⟨h', 0, [0, 0, 0, 0, 0, 0], ?_, rfl, ?_⟩
    · rw [hw]
      simp only [Option.bind_some, tup2, cond_true, comp0, comp1, str_str, nilTest_if, Bool.not_false]
      rw [cN, Option.bind_some, all6t rfl, cond_true, e2]
      simp only [Option.bind_some]
      exact ret _ _ _ h' _ (s2.getAll (i := 2) rfl rfl)
    · rw [set_self hj]
      exact s2.tail.tail.tail
  | some w =>
    rw [hq] at hw
    obtain ⟨h2', e2, s2⟩ := hw
    obtain ⟨W', hW'⟩ := wF_head hq
    have hpw : posW e W = (w.pos : Int) := by rw [hW']; rfl
    have s2' : Sep0 h0 h2' (headS P N R [posW e W, 0, 0, 0, 0, 0] [0, 0, 0, 0, 0, 0] [0, 0, 0, 0, 0, 0] (L.set j (rdCh r W (0 + 1) e))) := s2
    have hcmp : decide (tx w.text = (⟨#[97, 97, 103]⟩ : ByteArray)) = (w.text == [97, 97, 103]) := by
      have := txt_ne w.text [97, 97, 103]
      rw [show tx [97, 97, 103] = (⟨#[97, 97, 103]⟩ : ByteArray) from rfl] at this
      exact Bool.not_inj this
    rw [e2]
    simp only [Option.bind_some, tup2, cond_true, comp0, comp1, str_str, nilTest_nilif, Bool.not_true, cond_false]
    rw [bif_neg (show ¬ (0 : Int) < 0 by omega), Option.bind_some]
    simp only
    rw [hcmp]
    cases hc : w.text == [97, 97, 103] with
    | false =>
      obtain ⟨h', e4, e5, s4⟩ := head_bad (f + 1) d (k := 0) (by omega) rfl rfl rfl s2' rfl f 0 (rdP r)
      rw [show ((0 : Nat) : Int) = 0 from rfl] at e4
      refine ⟨h', 0 + 1, [0, 0, 0, 0, 0, 0], ?_, rfl, s4⟩
      rw [e4, Option.bind_some, ret _ _ _ h' _ e5, hpw]
      rfl
    | true =>
      rw [k_aag_reader_head_1_n, Bool.not_true, cond_false, wrap64 (n := 0 + 1) (by omega) (by omega), show (0 : Int) + 1 = ((1 : Nat) : Int) from rfl]
      have hj2 : (L.set j (rdCh r W (0 + 1) e))[j]? = some (rdCh r W (0 + 1) e) := get_set hj _
      have hl := head_loop (f + 1) d (h0 := h0) (P := P) (N := N) (R := R) hf f 1 [] [posW e W, 0, 0, 0, 0, 0] [0, 0, 0, 0, 0, 0] [0, 0, 0, 0, 0, 0] (L.set j (rdCh r W (0 + 1) e)) h2' (by omega) (by omega) (by omega) rfl rfl rfl rfl (by
        intro i hi
        obtain rfl : i = 0 := by omega
        rw [hW']; rfl) s2' hj2
      rw [show 6 - 1 = 5 from rfl] at hl
      simp only [if_true]
      cases hn : numsH e 5 (W.drop 1) [] with
      | error p =>
        rw [hn] at hl
        obtain ⟨h', k', nn, e3, e4, e5, s3⟩ := hl
        rw [List.set_set] at s3
        refine ⟨h', k', nn, ?_, e4, s3⟩
        rw [e3, Option.bind_some, ret _ _ _ h' _ e5]
        rfl
      | ok M =>
        rw [hn] at hl
        obtain ⟨h', pl, e3, e4, e5, s3⟩ := hl
        rw [List.set_set] at s3
        obtain ⟨l1, _, l3⟩ := numsH_len hn
        have l3 := l3 (fun x hx => by cases hx)
        have hM5 : M.length = 5 := by simpa using l1
        have h5 := five hM5
        have hN6 : (0 :: M).length = 6 := by simp [hM5]
        have cN : h'.cellsAt 6 (nP N) = some (intsC (0 :: M)) := s3.getAll (i := 1) rfl (by rw [List.length_map, hN6])
        have m1 : M.getD 1 0 ∈ M := by rw [h5]; simp
        have m4 : M.getD 4 0 ∈ M := by rw [h5]; simp
        rw [e3, Option.bind_some, k_aag_reader_head_0_x0, cN, Option.bind_some]
        have hlim := limits_run (f + 1) (d + 4) (x := 0) (m := M.getD 0 0) (i := M.getD 1 0) (l := M.getD 2 0) (o := M.getD 3 0) (a := M.getD 4 0) (l3 _ m1) (l3 _ m4) h'
        rw [← h5] at hlim
        rw [hlim]
        have cR : ∀ u : AVal, ∃ h'' : AHeap, (h'.storeAt (intsC (0 :: M)) (nP R)) = some h'' ∧ h''.cellsAt 6 (nP R) = some (intsC (0 :: M)) ∧ Sep0 h0 h'' (L.set j (rdCh r W 6 e)) := fun _ => by
          obtain ⟨h'', q1, q2⟩ := s3.putAll (i := 2) (vs := intsC (0 :: M)) rfl rfl (by rw [List.length_map, hN6])
          exact ⟨h'', q1, q2.getAll (i := 2) rfl (by rw [List.length_map, hN6]), q2.tail.tail.tail⟩
        obtain ⟨h'', q1, q2, s4⟩ := cR .nilif
        simp only
        cases ht : limT (M.getD 0 0) (M.getD 1 0) (M.getD 2 0) (M.getD 3 0) (M.getD 4 0) with
        | none =>
          refine ⟨h'', ?_, s4⟩
          simp only [limA, Option.bind_some, tup2, cond_true, comp0, comp1, int_int, nilTest_nilif, Bool.not_true, cond_false]
          rw [cN, Option.bind_some, all6 hN6, cond_true, q1, Option.bind_some, q2]
          rfl
        | some kc =>
          obtain ⟨k, c⟩ := kc
          obtain ⟨hc1, hk6, _⟩ := limT_code ht
          refine ⟨h'', 6, 0 :: M, ?_, hN6, s4⟩
          have hcell : h'.cell (.mk ⟨P, 0, k⟩ 6) = some (.int .i64 ((W.getD k ⟨[], 0, false⟩).pos : Int)) := s3.part (i := 0) rfl hk6 (by rw [List.getElem?_map, List.getElem?_eq_getElem (by omega), Option.map_some, ← e5 k hk6, List.getD_eq_getElem?_getD, List.getElem?_eq_getElem (by omega)]; rfl)
          have hnt : nilTest .iface (errC c) = some false := by rcases hc1 with rfl | rfl <;> rfl
          simp only [limA, Option.bind_some, tup2, cond_true, comp0, comp1, int_int, hnt, Bool.not_false, cN]
          rw [elem6 hk6, Option.bind_some, hcell, Option.bind_some, int_int, Option.bind_some, aatC (f + 1) (d + 4) hc1, Option.bind_some]
          simp only
          rw [cN, Option.bind_some, same_self, all6t hN6, cond_true, q1, Option.bind_some, q2]
          rfl
end
end Go.Proofs.YtmjbjgbcpaagmaaDoor

namespace Go.Proofs.YtmjbjgbcpaagmaaDoor
open Go.RowKit

def ciA : Except (Int × Int) Ci → AVal
  | .ok (i, A, O) => .tup [.agg (circC i A O), .nilif]
  | .error (c, p) => .tup [.agg (circC 0 [] []), atV p (errC c)]
theorem limT_none {m i l o a : Int} (h : limT m i l o a = none) : i ≤ 8000 ∧ i + a ≤ 8000 ∧ o ≤ 8000 ∧ m = i + a ∧ l = 0 := by
  unfold limT at h
  by_cases b1 : 8000 < i
  · rw [if_pos b1] at h; cases h
  rw [if_neg b1] at h
  by_cases b2 : 8000 < i + a
  · rw [if_pos b2] at h; cases h
  rw [if_neg b2] at h
  by_cases b3 : 8000 < o
  · rw [if_pos b3] at h; cases h
  rw [if_neg b3] at h
  by_cases b4 : m = i + a
  · rw [if_neg (show ¬ m ≠ i + a from fun q => q b4)] at h
    by_cases b5 : l = 0
    · exact ⟨by omega, by omega, by omega, b4, b5⟩
    · rw [if_pos b5] at h; cases h
  · rw [if_pos b4] at h; cases h
theorem freeze_pairs {h : AHeap} (n : Nat) (A : List (Int × Int)) : (pairsC A).mapM (freezeV h (n + 1)) = some (pairsC A) := mapM_freezeN (fun _ => mm2 rfl rfl) A
theorem zero3_fr {c : Int} (hc : c = 101 ∨ c = 102) (p : Int) (h : AHeap) : freezeV h 8 (.tup [.agg zero3, atV p (errC c)]) = some (ciA (.error (c, p))) := by
  rcases hc with rfl | rfl <;> exact freeze_tup2 _ (freeze_agg 6 (mm3 rfl rfl rfl)) rfl
theorem aread_body (fuel d : Nat) {b : List UInt8} (hf : b.length + 20000 < fuel) (hb : b.length < 1000000) : ∃ v h', brun fuel (d + 9) F_aag_Read [.slice (lstU b)] AHeap.none = some (v, h') ∧ freezeV h' 8 v = some (ciA (readC b)) := by
  have hl := split_len b false
  have hne := split_ne b false
  have s0 := (Sep0.start AHeap.none).push 1 3 (cs := zero3) rfl
  rw [e_aag_Read, len_lst, bif_neg (by omega), split_run fuel (d + 5) (by omega) (by omega), Option.bind_some, slice_slice, Option.bind_some]
  unfold readC
  generalize splitOf b false = W at hl hne
  generalize AHeap.none.next = R at s0
  generalize AHeap.push AHeap.none 1 [(AVal.int .i64 (0 : Int)), (.slice Sl.nil), (.slice Sl.nil)] = H at s0
  have s1 := (s0.push 1 3 (cs := [.slice (lstW W), .int .i64 (0 : Int), .int .i64 (b.length : Int)]) rfl).cons
  have s1' : Sep0 AHeap.none (H.push 1 [.slice (lstW W), .int .i64 (0 : Int), .int .i64 (b.length : Int)]) [rdCh H.next W 0 (b.length : Int), .own 1 R 0 3 zero3] := s1
  have hd := head_run2 fuel (d + 2) (h0 := AHeap.none) (j := 0) (by omega) s1' rfl
  generalize H.next = r at s1' hd
  simp only
  generalize (H.push 1 [.slice (lstW W), .int .i64 (0 : Int), .int .i64 (b.length : Int)]) = H2 at s1' hd
  have zero : ∀ {h1 : AHeap} {L : List Chunk} {c p : Int} {zs : List AVal}, (c = 101 ∨ c = 102) → zs.length = 3 → Sep0 AHeap.none h1 (.own 1 R 0 3 zs :: L) → ∃ v h', ((AHeap.storeAt h1 [(.int .i64 (0 : Int)), (.slice Sl.nil), (.slice Sl.nil)] (Pt.mk ⟨R, 0, 0⟩ 3)).bind fun h13 =>
    (((((AHeap.cellsAt h13 3 (Pt.mk ⟨R, 0, 0⟩ 3)).bind fun c15 =>
    some ((AVal.agg c15)) : Option AVal).bind fun v14 =>
    some [v14, atV p (errC c)]) : Option (List AVal)).map AVal.tup).map fun v => (v, h13)) = some (v, h') ∧ freezeV h' 8 v = some (ciA (.error (c, p))) := by
    intro h1 L c p zs hc hz s
    obtain ⟨h', e1, e2, _⟩ := ret_put s hz (vs := zero3) rfl
    rw [e1, Option.bind_some, e2]
    exact ⟨_, h', rfl, zero3_fr hc p h'⟩
  cases hh : headA (b.length : Int) W with
  | error cp =>
    obtain ⟨c, p⟩ := cp
    rw [hh] at hd
    have hc := headA_code hh
    obtain ⟨h1, k', nn, e1, e2, s2⟩ := hd
    rw [set0] at s2
    have s3 := (s2.push 1 6 (cs := intsC [0, 0, 0, 0, 0, 0]) rfl).cons
    obtain ⟨h2, e3, s4⟩ := s3.putAll (i := 0) (vs := intsC nn) rfl rfl (by rw [List.length_map, e2])
    rw [e1]
    simp only [Option.bind_some, tup2, cond_true, comp0, comp1, agg_agg]
    rw [all6 e2, cond_true]
    rw [show [(AVal.int .i64 (0 : Int)), (.int .i64 (0 : Int)), (.int .i64 (0 : Int)), (.int .i64 (0 : Int)), (.int .i64 (0 : Int)), (.int .i64 (0 : Int))] = intsC [0, 0, 0, 0, 0, 0] from rfl, e3, Option.bind_some, errC_no, Option.bind_some, Bool.not_false, cond_true]
    exact zero (L := []) hc rfl (s4.tail.tail)
  | ok M =>
    rw [hh] at hd
    obtain ⟨hM5, hMr, hlim⟩ := headA_ok hh
    obtain ⟨l1, l2, l3, l4, l5⟩ := limT_none hlim
    have h5 := five hM5
    have hN6 : (0 :: M).length = 6 := by simp [hM5]
    have m1 : M.getD 1 0 ∈ M := by rw [h5]; simp
    have m3 : M.getD 3 0 ∈ M := by rw [h5]; simp
    have m4 : M.getD 4 0 ∈ M := by rw [h5]; simp
    have q1 := hMr _ m1
    have q3 := hMr _ m3
    have q4 := hMr _ m4
    obtain ⟨h1, e1, s2⟩ := hd
    rw [set0] at s2
    have s3 := (s2.push 1 6 (cs := intsC [0, 0, 0, 0, 0, 0]) rfl).cons
    obtain ⟨h2, e3, e4, s4⟩ := ret_put s3 rfl (vs := intsC (0 :: M)) (by rw [List.length_map, hN6])
    rw [e1]
    simp only [Option.bind_some, tup2, cond_true, comp0, comp1, agg_agg]
    rw [all6 hN6, cond_true]
    rw [show [(AVal.int .i64 (0 : Int)), (.int .i64 (0 : Int)), (.int .i64 (0 : Int)), (.int .i64 (0 : Int)), (.int .i64 (0 : Int)), (.int .i64 (0 : Int))] = intsC [0, 0, 0, 0, 0, 0] from rfl, e3, Option.bind_some, nilTest_nilif, Option.bind_some, Bool.not_true, cond_false, e4, Option.bind_some]
    have bd := abody_run fuel d (h0 := AHeap.none) (j := 1) (r := r) (W := W) (e := (b.length : Int)) (by omega) (k := 6) (m := M.getD 0 0) (i := M.getD 1 0) (l := M.getD 2 0) (o := M.getD 3 0) (a := M.getD 4 0) (nn := 0 :: M) (by rw [← h5]) (by omega) (by omega) (by omega) (by omega) (by omega) (by omega) hne s4 rfl
    cases hbd : bodyT (b.length : Int) (M.getD 0 0) (M.getD 1 0) (M.getD 3 0) (M.getD 4 0) (W.drop 6) with
    | error p =>
      rw [hbd] at bd
      obtain ⟨h3, k', e5, s5⟩ := bd
      rw [set1] at s5
      obtain ⟨h4, e6, e7, s6⟩ := ret_put s5.tail.tail rfl (vs := zero3) rfl
      rw [e5]
      simp only [Option.bind_some, tup2, cond_true, comp0, comp1, agg_agg]
      rw [show (!false && Nat.beq (List.length zero3) 3 && List.all zero3 AVal.isCell) = true from rfl, cond_true, e6, Option.bind_some, e7]
      exact ⟨_, h4, rfl, zero3_fr (c := 101) (.inl rfl) p h4⟩
    | ok c =>
      obtain ⟨i', A, O⟩ := c
      rw [hbd] at bd
      obtain ⟨rfl, h3, sA, sO, k', e5, s5⟩ := bd
      rw [set1] at s5
      have s5' := s5.perm (L' := [Chunk.own 1 R 0 3 zero3] ++ [.grown 1 sO (intsC O), .grown 2 sA (pairsC A), .own 1 h1.next 0 6 (intsC (0 :: M)), rdCh r W k' (b.length : Int)]) (List.perm_append_comm (l₁ := [Chunk.grown 1 sO (intsC O), .grown 2 sA (pairsC A), .own 1 h1.next 0 6 (intsC (0 :: M)), rdCh r W k' (b.length : Int)]) (l₂ := [Chunk.own 1 R 0 3 zero3]))
      obtain ⟨h4, e6, e7, s6⟩ := ret_put s5' rfl (vs := [.int .i64 (M.getD 1 0), .slice sA, .slice sO]) rfl
      rw [e5]
      simp only [Option.bind_some, tup2, cond_true, comp0, comp1, agg_agg]
      rw [show (!false && Nat.beq (List.length [AVal.int .i64 (M.getD 1 0), .slice sA, .slice sO]) 3 && List.all [AVal.int .i64 (M.getD 1 0), .slice sA, .slice sO] AVal.isCell) = true from rfl, cond_true, e6, Option.bind_some, e7]
      refine ⟨_, h4, rfl, ?_⟩
      have gO := s6.sep.grown (i := 1) rfl
      have gA := s6.sep.grown (i := 2) rfl
      have lO := gO.len
      have lA := gA.len
      rw [pairsC_len] at lA
      rw [List.length_map, Nat.mul_one] at lO
      refine freeze_tup2 _ (freeze_agg 6 (mm3 rfl ?_ ?_)) rfl
      · rw [gA.freeze (n := 5) (by omega) (freeze_pairs 4 A), show sA.len = A.length by omega]
      · rw [gO.freeze (n := 5) (by omega) (mapM_freeze (g := AVal.int .i64) (fun _ => rfl) O), show sO.len = O.length by omega]
theorem aread_run (fuel d : Nat) {b : List UInt8} (hf : b.length + 20000 < fuel) (hb : b.length < 1000000) (h : AHeap) : run fuel (d + 9) F_aag_Read [.slice (lstU b)] h = some (ciA (readC b), h) := by
  obtain ⟨v, h', e1, e2⟩ := aread_body fuel d hf hb
  exact pure_of rfl rfl (cc1 (canon_lstU 7 b)) e1 e2
theorem aread_nil (fuel d : Nat) (hf : 20000 < fuel) (h : AHeap) : run fuel (d + 9) F_aag_Read [.slice .nil] h = some (ciA (readC []), h) := by
  obtain ⟨v, h', e1, e2⟩ := aread_body fuel d (b := []) (by simp; omega) (by simp)
  exact pure_of rfl rfl (cc1 (canon_nil 7)) e1 e2
theorem aread_any (fuel d : Nat) {b : List UInt8} (hf : b.length + 20000 < fuel) (hb : b.length < 1000000) {h : AHeap} {s : Sl} (hs : freezeV h 8 (.slice s) = some (.slice (lstU b))) : ∃ ids, run fuel (d + 9) F_aag_Read [.slice s] h = some (ciA (readC b), h.markRo ids) := by
  obtain ⟨v, h', e1, e2⟩ := aread_body fuel d hf hb
  exact run_any rfl rfl (mm1 hs) e1 e2
end Go.Proofs.YtmjbjgbcpaagmaaDoor

namespace Go.Proofs.YtmjbjgbcpaagmaaDoor
open Go.RowKit

section
variable (fuel d : Nat) (hf : 30 < fuel) {h0 : AHeap}
include hf
theorem numbers_loop {l : List Int} {c : Bool} (hl : l.length < 1000000) (hx : ∀ x ∈ l, In64 x) : ∀ (n k : Nat) (s : Sl) (t : List UInt8) (h : AHeap), l.length < n + k → k ≤ l.length → t.length + 30 * (l.length - k) < 800000000 → Sep0 h0 h [.grown 1 s (bytesC t)] →
    ∃ s' h', l_skolemref8_numbers_0 fuel (d + 5) n [(0, .slice s), (1, .slice (.lst l.length c (intsC l))), (5, .int .i64 (k : Int))] h = some (.exit 0, [(0, .slice s')], h') ∧ Sep0 h0 h' [.grown 1 s' (bytesC (t ++ restB (decide (k = 0)) (l.drop k)))] := by
  intro n
  induction n with
  | zero => intro k s t h h1 h2; omega
  | succ n ih =>
    intro k s t h h1 h2 ht hs
    rw [l_skolemref8_numbers_0_eq, len_lst]
    by_cases hk : k < l.length
    · have hm : l.getD k 0 ∈ l := by rw [List.getD_eq_getElem?_getD, List.getElem?_eq_getElem hk]; exact List.getElem_mem hk
      have hxk := hx _ hm
      have tail : ∀ (s1 : Sl) (t1 : List UInt8) (h1 : AHeap), t1.length + 30 * (l.length - k) < 800000002 → Sep0 h0 h1 [.grown 1 s1 (bytesC t1)] → ∃ s' h', k_skolemref8_numbers_1 fuel (d + 5) n .normal [(0, .slice s1), (1, .slice (.lst l.length c (intsC l))), (5, .int .i64 (k : Int))] h1 = some (.exit 0, [(0, .slice s')], h') ∧ Sep0 h0 h' [.grown 1 s' (bytesC (t1 ++ (decT (l.getD k 0) ++ restB false (l.drop (k + 1)))))] := by
        intro s1 t1 h1 ht1 hs1
        rw [k_skolemref8_numbers_1_n, addr_lstM _ (by omega) (by omega) 0, Int.toNat_natCast]
        generalize l.getD k 0 = x at hxk
        simp only [Option.bind_some, cell_fp, int_int]
        obtain ⟨s2, h2', e2, q2, q3⟩ := app_ok fuel d hf hxk.1 hxk.2 h0 h1 s1 t1 (by omega) hs1
        rw [e2]
        simp only [Option.bind_some, slice_slice]
        rw [sucU (by omega)]
        obtain ⟨s3, h3, e3, q4⟩ := ih (k + 1) s2 (t1 ++ decT x) h2' (by omega) (by omega) (by simp; omega) q2
        refine ⟨s3, h3, e3, ?_⟩
        rw [decide_eq_false (by omega), List.append_assoc] at q4
        exact q4
      rw [bif_pos (by omega), drop_get hk 0]
      by_cases h0k : k = 0
      · subst h0k
        rw [bif_neg (by omega), Option.bind_some]
        simp only
        exact tail s t h (by omega) hs
      · rw [bif_pos (by omega), show [(AVal.int .u8 (32 : Int))] = bytesC [32] from rfl, lit_cells h [32] (n := 1) rfl, Option.bind_some, Sl.len]
        obtain ⟨s2, h2', e2, q3⟩ := lit_append (hs.junk (cs := bytesC [32])) [32] (m := 1) rfl (by simp; omega)
        rw [e2, Option.bind_some, Option.bind_some]
        simp only
        obtain ⟨s3, h3, e3, q4⟩ := tail s2 (t ++ [32]) h2' (by simp; omega) q3
        refine ⟨s3, h3, e3, ?_⟩
        rw [decide_eq_false h0k]
        rw [List.append_assoc] at q4
        exact q4
    · obtain rfl : k = l.length := by omega
      rw [bif_neg (by omega), List.drop_length]
      refine ⟨s, h, rfl, ?_⟩
      rw [restB, List.append_nil]
      exact hs
theorem numbers_run {l : List Int} (c : Bool) (hl : l.length < 1000000) (hlf : l.length < fuel) (hx : ∀ x ∈ l, In64 x) {s : Sl} {t : List UInt8} {h : AHeap} (ht : t.length + 30 * l.length < 800000000) (hs : Sep0 h0 h [.grown 1 s (bytesC t)]) :
    ∃ s' h', run fuel (d + 6) F_skolemref8_numbers [.slice s, .slice (.lst l.length c (intsC l))] h = some (.slice s', h') ∧ Sep0 h0 h' [.grown 1 s' (bytesC (t ++ lineB l))] := by
  obtain ⟨s1, h1, e1, q1⟩ := numbers_loop fuel d hf (c := c) hl hx fuel 0 s t h (by omega) (by omega) (by omega) hs
  rw [List.drop_zero] at q1
  have hlen : (restB true l).length ≤ 21 * l.length := by
    have : ∀ (l : List Int) (f : Bool), (∀ x ∈ l, In64 x) → (restB f l).length ≤ 21 * l.length := by
      intro l
      induction l with
      | nil => intro f _; simp [restB]
      | cons x l ih =>
        intro f hx
        have h1 := ih false fun y hy => hx y (List.mem_cons_of_mem _ hy)
        have h2 := decT_le (hx x List.mem_cons_self).1 (hx x List.mem_cons_self).2
        cases f <;> simp [restB] <;> omega
    exact this l true hx
  rw [e_skolemref8_numbers]
  rw [show ((0 : Nat) : Int) = 0 from rfl] at e1
  rw [e1, Option.bind_some, k_skolemref8_numbers_0_x0]
  rw [show [(AVal.int .u8 (10 : Int))] = bytesC [10] from rfl, lit_cells h1 [10] (n := 1) rfl, Option.bind_some, Sl.len]
  rw [show decide ((0 : Nat) = 0) = true from rfl] at q1
  obtain ⟨s2, h2', e2, q3⟩ := lit_append (q1.junk (cs := bytesC [10])) [10] (m := 1) rfl (by simp; omega)
  rw [e2, Option.bind_some]
  refine ⟨s2, h2', rfl, ?_⟩
  rw [lineB_rest]
  rw [List.append_assoc] at q3
  exact q3
end

section
variable (fuel d : Nat) (hf : 20000 < fuel) {h0 : AHeap} {C : Nat} {i : Nat} {A : List (Int × Int)} {o : List Int} (hc : CiOk i A o)
include hf hc
theorem rbytes0 (c0 : h0.cell (.mk ⟨C, 0, 0 + 0⟩ 3) = some (.int .i64 (i : Int))) : ∀ (n k : Nat) (s : Sl) (t : List UInt8) (h : AHeap), i < n + k → k ≤ i → t.length + 60 * (i - k) < 100000000 → Sep0 h0 h [.grown 1 s (bytesC t)] →
    ∃ s' h', l_skolemref8_AagBytes_0 fuel (d + 6) n [(1, .ptr (rdP C)), (3, .slice s), (4, .int .i64 (k : Int))] h = some (.exit 0, [(1, .ptr (rdP C)), (3, .slice s')], h') ∧ Sep0 h0 h' [.grown 1 s' (bytesC (t ++ insTx k (i - k)))] := by
  obtain ⟨hi, hA, ho, hxA, hxo⟩ := hc
  intro n
  induction n with
  | zero => intro k s t h h1 h2; omega
  | succ n ih =>
    intro k s t h h1 h2 ht hs
    have d0 := cell_keep hs.ext (fun h => h) c0
    rw [l_skolemref8_AagBytes_0_eq]
    simp only [field_mk, Option.bind_some, d0, int_int]
    by_cases hk : k < i
    · have hx : In64 (2 * ((k : Int) + 1)) := in64 (by omega) (by omega)
      have hl := lineB_len (l := [2 * ((k : Int) + 1)]) (fun x hm => by rw [List.mem_singleton.1 hm]; exact hx)
      simp only [List.length_cons, List.length_nil] at hl
      obtain ⟨s1, h1', e1, q1⟩ := numbers_run fuel d (by omega) (l := [2 * ((k : Int) + 1)]) true (by simp) (by simp; omega) (fun x hm => by rw [List.mem_singleton.1 hm]; exact hx) (by simp; omega) hs
      rw [bif_pos (by omega), wrap64 (n := (k : Int) + 1) (by omega) (by omega), wrap64 (n := 2 * ((k : Int) + 1)) (by omega) (by omega)]
      rw [show run fuel (d + 6) F_skolemref8_numbers [.slice s, .slice (.lst 1 true [.int .i64 (2 * ((k : Int) + 1))])] h = _ from e1]
      simp only [Option.bind_some, slice_slice]
      obtain ⟨s2, h2', e2, q2⟩ := ih (k + 1) s1 (t ++ lineB [2 * ((k : Int) + 1)]) h1' (by omega) (by omega) (by simp; omega) q1
      rw [show (k : Int) + 1 = ((k + 1 : Nat) : Int) by omega] at *
      refine ⟨s2, h2', e2, ?_⟩
      rw [show i - k = (i - (k + 1)) + 1 by omega, insTx]
      rw [List.append_assoc] at q2
      exact q2
    · obtain rfl : k = i := by omega
      rw [bif_neg (by omega)]
      refine ⟨s, h, rfl, ?_⟩
      rw [Nat.sub_self, insTx, List.append_nil]
      exact hs
theorem rbytes1 (c2 : h0.cell (.mk ⟨C, 0, 0 + 2⟩ 3) = some (.slice (lstI o))) : ∀ (n k : Nat) (s : Sl) (t : List UInt8) (h : AHeap), o.length < n + k → k ≤ o.length → t.length + 60 * (o.length - k) < 100000000 → Sep0 h0 h [.grown 1 s (bytesC t)] →
    ∃ s' h', l_skolemref8_AagBytes_1 fuel (d + 6) n [(1, .ptr (rdP C)), (3, .slice s), (5, .int .i64 (k : Int))] h = some (.exit 2, [(1, .ptr (rdP C)), (3, .slice s')], h') ∧ Sep0 h0 h' [.grown 1 s' (bytesC (t ++ outsTx (o.drop k)))] := by
  obtain ⟨hi, hA, ho, hxA, hxo⟩ := hc
  intro n
  induction n with
  | zero => intro k s t h h1 h2; omega
  | succ n ih =>
    intro k s t h h1 h2 ht hs
    have d2 := cell_keep hs.ext (fun h => h) c2
    rw [l_skolemref8_AagBytes_1_eq]
    simp only [field_mk, Option.bind_some, d2, slice_slice]
    rw [len_lst]
    by_cases hk : k < o.length
    · have hm : o.getD k 0 ∈ o := by rw [List.getD_eq_getElem?_getD, List.getElem?_eq_getElem hk]; exact List.getElem_mem hk
      have hx := hxo _ hm
      rw [bif_pos (by omega), addr_lstM _ (by omega) (by omega) 0, Int.toNat_natCast, drop_get hk 0]
      generalize o.getD k 0 = x at hx
      have hl := lineB_len (l := [x]) (fun y hm => by rw [List.mem_singleton.1 hm]; exact hx)
      simp only [List.length_cons, List.length_nil] at hl
      obtain ⟨s1, h1', e1, q1⟩ := numbers_run fuel d (by omega) (l := [x]) true (by simp) (by simp; omega) (fun y hm => by rw [List.mem_singleton.1 hm]; exact hx) (by simp; omega) hs
      simp only [Option.bind_some, cell_fp, int_int]
      rw [show run fuel (d + 6) F_skolemref8_numbers [.slice s, .slice (.lst 1 true [.int .i64 x])] h = _ from e1]
      simp only [Option.bind_some, slice_slice]
      obtain ⟨s2, h2', e2, q2⟩ := ih (k + 1) s1 (t ++ lineB [x]) h1' (by omega) (by omega) (by simp; omega) q1
      rw [sucU (by omega)]
      refine ⟨s2, h2', e2, ?_⟩
      rw [List.append_assoc] at q2
      exact q2
    · obtain rfl : k = o.length := by omega
      rw [bif_neg (by omega)]
      refine ⟨s, h, rfl, ?_⟩
      rw [List.drop_length, show outsTx [] = [] from rfl, List.append_nil]
      exact hs
theorem rbytes2 (c0 : h0.cell (.mk ⟨C, 0, 0 + 0⟩ 3) = some (.int .i64 (i : Int))) (c1 : h0.cell (.mk ⟨C, 0, 0 + 1⟩ 3) = some (.slice (lstP A))) : ∀ (n k : Nat) (s : Sl) (t : List UInt8) (h : AHeap), A.length < n + k → k ≤ A.length → t.length + 100 * (A.length - k) < 100000000 → Sep0 h0 h [.grown 1 s (bytesC t)] →
    ∃ s' h', l_skolemref8_AagBytes_2 fuel (d + 6) n [(1, .ptr (rdP C)), (3, .slice s), (6, .int .i64 (k : Int))] h = some (.exit 4, [(3, .slice s')], h') ∧ Sep0 h0 h' [.grown 1 s' (bytesC (t ++ andsTx i k (A.drop k)))] := by
  obtain ⟨hi, hA, ho, hxA, hxo⟩ := hc
  intro n
  induction n with
  | zero => intro k s t h h1 h2; omega
  | succ n ih =>
    intro k s t h h1 h2 ht hs
    have d0 := cell_keep hs.ext (fun h => h) c0
    have d1 := cell_keep hs.ext (fun h => h) c1
    rw [l_skolemref8_AagBytes_2_eq]
    simp only [field_mk, Option.bind_some, d0, d1, slice_slice, int_int]
    rw [len_lst]
    by_cases hk : k < A.length
    · have hm : A.getD k (0, 0) ∈ A := by rw [List.getD_eq_getElem?_getD, List.getElem?_eq_getElem hk]; exact List.getElem_mem hk
      have hx := hxA _ hm
      rw [bif_pos (by omega), addr_lstN (sz := 2) (f := pairC) (fun _ => rfl) (l := A) (j := (k : Int)) (by omega) (by omega) (0, 0), Int.toNat_natCast, drop_get hk (0, 0)]
      generalize A.getD k (0, 0) = p at hx
      have hall : ∀ y ∈ [2 * ((i : Int) + k + 1), p.1, p.2], In64 y := fun y hy => by simp at hy; rcases hy with rfl | rfl | rfl <;> first | exact hx.1 | exact hx.2 | exact in64 (by omega) (by omega)
      have hl := lineB_len hall
      simp only [List.length_cons, List.length_nil] at hl
      obtain ⟨s1, h1', e1, q1⟩ := numbers_run fuel d (by omega) (l := [2 * ((i : Int) + k + 1), p.1, p.2]) true (by simp) (by simp; omega) hall (by simp; omega) hs
      have e0 : Pt.elem 1 2 (0 : Int) (.fp 0 (pairC p)) = some (.fp 0 (pairC p)) := rfl
      have e1' : Pt.elem 1 2 (1 : Int) (.fp 0 (pairC p)) = some (.fp 0 [.int .i64 p.2]) := rfl
      have cc : h.cell (.fp 0 (pairC p)) = some (.int .i64 p.1) := rfl
      simp only [Option.bind_some, e0, e1', cc, cell_fp, int_int]
      rw [wrap64 (n := (i : Int) + (k : Int)) (by omega) (by omega), wrap64 (n := (i : Int) + (k : Int) + 1) (by omega) (by omega), wrap64 (n := 2 * ((i : Int) + (k : Int) + 1)) (by omega) (by omega)]
      rw [show run fuel (d + 6) F_skolemref8_numbers [.slice s, .slice (.lst 3 true [.int .i64 (2 * ((i : Int) + k + 1)), .int .i64 p.1, .int .i64 p.2])] h = _ from e1]
      simp only [Option.bind_some, slice_slice]
      obtain ⟨s2, h2', e2, q2⟩ := ih (k + 1) s1 (t ++ lineB [2 * ((i : Int) + k + 1), p.1, p.2]) h1' (by omega) (by omega) (by simp; omega) q1
      rw [sucU (by omega)]
      refine ⟨s2, h2', e2, ?_⟩
      rw [List.append_assoc] at q2
      exact q2
    · obtain rfl : k = A.length := by omega
      rw [bif_neg (by omega)]
      refine ⟨s, h, rfl, ?_⟩
      rw [List.drop_length, andsTx, List.append_nil]
      exact hs
end
end Go.Proofs.YtmjbjgbcpaagmaaDoor

namespace Go.Proofs.YtmjbjgbcpaagmaaDoor
open Go.RowKit

theorem aagTx_len {i : Nat} {A : List (Int × Int)} {o : List Int} (hc : CiOk i A o) : (aagTx i A o).length ≤ 110 + 30 * i + 30 * o.length + 70 * A.length := by
  obtain ⟨hi, hA, ho, hxA, hxo⟩ := hc
  have hl := lineB_len (l := headL i A o) (fun x hx => by simp [headL] at hx; rcases hx with rfl | rfl | rfl | rfl | rfl <;> exact in64 (by omega) (by omega))
  simp only [show (headL i A o).length = 5 from rfl] at hl
  have hT : ∀ n k, k + n ≤ 10000 → (insTx k n).length ≤ 30 * n := by
    intro n
    induction n with
    | zero => intro k _; simp [insTx]
    | succ n ih =>
      intro k hk
      have h1 := ih (k + 1) (by omega)
      have h2 := lineB_len (l := [2 * ((k : Int) + 1)]) (fun x hx => by rw [List.mem_singleton.1 hx]; exact in64 (by omega) (by omega))
      simp only [insTx, List.length_append, List.length_cons, List.length_nil] at h2 ⊢
      omega
  have hT1 : ∀ l : List Int, (∀ x ∈ l, In64 x) → (outsTx l).length ≤ 30 * l.length := by
    intro l
    induction l with
    | nil => intro _; simp [outsTx]
    | cons x l ih =>
      intro hx
      have h1 := ih fun y hy => hx y (List.mem_cons_of_mem _ hy)
      have h2 := lineB_len (l := [x]) (fun y hy => by rw [List.mem_singleton.1 hy]; exact hx x List.mem_cons_self)
      simp only [outsTx, List.flatMap_cons, List.length_append, List.length_cons, List.length_nil] at h1 h2 ⊢
      omega
  have hT3 : ∀ (l : List (Int × Int)) (k : Nat), k + l.length ≤ 10000 → (∀ p ∈ l, In64 p.1 ∧ In64 p.2) → (andsTx i k l).length ≤ 70 * l.length := by
    intro l
    induction l with
    | nil => intro k _ _; simp [andsTx]
    | cons p l ih =>
      intro k hk hx
      simp only [List.length_cons] at hk
      have h1 := ih (k + 1) (by omega) fun y hy => hx y (List.mem_cons_of_mem _ hy)
      have hxk := hx p List.mem_cons_self
      have h2 := lineB_len (l := [2 * ((i : Int) + k + 1), p.1, p.2]) (fun y hy => by simp at hy; rcases hy with rfl | rfl | rfl <;> first | exact hxk.1 | exact hxk.2 | exact in64 (by omega) (by omega))
      simp only [andsTx, List.length_append, List.length_cons, List.length_nil] at h2 ⊢
      omega
  have a1 := hT i 0 (by omega)
  have a2 := hT1 o hxo
  have a3 := hT3 A 0 (by omega) hxA
  simp only [aagTx, List.length_append, List.length_cons, List.length_nil]
  omega
theorem Grown.freezeU {h : AHeap} {s : Sl} {t : List UInt8} (hg : Grown h 1 s (bytesC t)) (n : Nat) : freezeV h (n + 2) (.slice s) = some (.slice (lstU t)) := by
  have hl := hg.len
  rw [List.length_map, Nat.mul_one] at hl
  rw [hg.freeze (n := n + 1) (by omega) (mapM_freeze (g := fun b : UInt8 => AVal.int .u8 (b.toNat : Int)) (fun _ => rfl) _), ← hl]
theorem rbytes_run (fuel d : Nat) (hf : 20000 < fuel) {i : Nat} {A : List (Int × Int)} {o : List Int} (hc : CiOk i A o) (h : AHeap) : run fuel (d + 7) F_skolemref8_AagBytes [.agg (circC i A o)] h = some (.slice (lstU (aagTx i A o)), h) := by
  have key : ∃ v h', brun fuel (d + 7) F_skolemref8_AagBytes [.agg (circC i A o)] AHeap.none = some (v, h') ∧ freezeV h' 8 v = some (.slice (lstU (aagTx i A o))) := by
    have s1 := (Sep0.start AHeap.none).push 1 3 (cs := circC i A o) rfl
    have hi := hc.ni
    have hA := hc.nA
    have ho := hc.no
    have hl := lineB_len (l := headL i A o) (fun x hx => by simp [headL] at hx; rcases hx with rfl | rfl | rfl | rfl | rfl <;> exact in64 (by omega) (by omega))
    simp only [show (headL i A o).length = 5 from rfl] at hl
    rw [e_skolemref8_AagBytes, show List.all (circC i A o) AVal.isCell = true from rfl, cond_true, show (circC i A o).length = 3 from rfl]
    rw [show [(AVal.int .u8 (97 : Int)), (.int .u8 (97 : Int)), (.int .u8 (103 : Int)), (.int .u8 (32 : Int))] = bytesC [97, 97, 103, 32] from rfl]
    generalize AHeap.none.next = C at s1
    generalize AHeap.none.push 1 (circC i A o) = H at s1
    have c0 : H.cell (.mk ⟨C, 0, 0 + 0⟩ 3) = some (.int .i64 (i : Int)) := s1.part (i := 0) rfl (by omega) rfl
    have c1 : H.cell (.mk ⟨C, 0, 0 + 1⟩ 3) = some (.slice (lstP A)) := s1.part (i := 0) rfl (by omega) rfl
    have c2 : H.cell (.mk ⟨C, 0, 0 + 2⟩ 3) = some (.slice (lstI o)) := s1.part (i := 0) rfl (by omega) rfl
    have s2 := (Sep0.start H).push 1 4 (cs := bytesC [97, 97, 103, 32]) rfl
    have hown : (H.push 1 (bytesC [97, 97, 103, 32])).ownAt H.next = true := by
      unfold AHeap.ownAt AHeap.push AHeap.next
      simp
    have d0 := cell_keep s2.ext (fun h => h) c0
    have d1 := cell_keep s2.ext (fun h => h) c1
    have d2 := cell_keep s2.ext (fun h => h) c2
    rw [hown, cond_true]
    simp only [field_mk, Option.bind_some, d0, d1, d2, int_int, slice_slice]
    rw [len_lst, len_lst, wrap64 (by omega) (by omega)]
    have s3 := s2.toGrown (L := []) true (by omega)
    have hx5 : ∀ x ∈ headL i A o, In64 x := fun x hx => by simp [headL] at hx; rcases hx with rfl | rfl | rfl | rfl | rfl <;> exact in64 (by omega) (by omega)
    obtain ⟨sa, ha, ea, qa⟩ := numbers_run fuel d (by omega) (l := headL i A o) true (by simp [headL]) (by simp [headL]; omega) hx5 (by simp [headL]) s3
    rw [show run fuel (d + 6) F_skolemref8_numbers [.slice (.mk ⟨H.next, 0, 0⟩ 4 true), .slice (.lst 5 true [.int .i64 ((i : Int) + A.length), .int .i64 i, .int .i64 0, .int .i64 o.length, .int .i64 A.length])] (H.push 1 (bytesC [97, 97, 103, 32])) = _ from ea]
    simp only [Option.bind_some, slice_slice]
    obtain ⟨sb, hb, eb, qb⟩ := rbytes0 fuel d hf hc c0 fuel 0 sa _ ha (by omega) (by omega) (by simp; omega) qa
    have hT := aagTx_len hc
    simp only [aagTx, List.length_append, List.length_cons, List.length_nil] at hT
    rw [show ((0 : Nat) : Int) = 0 from rfl] at eb
    rw [eb, Option.bind_some, k_skolemref8_AagBytes_0_x0]
    obtain ⟨sc, hc', ec, qc⟩ := rbytes1 fuel d hf hc c2 fuel 0 sb _ hb (by omega) (by omega) (by simp; omega) qb
    rw [show ((0 : Nat) : Int) = 0 from rfl] at ec
    rw [ec, Option.bind_some, k_skolemref8_AagBytes_1_x2]
    obtain ⟨sd, hd, ed, qd⟩ := rbytes2 fuel d hf hc c0 c1 fuel 0 sc _ hc' (by omega) (by omega) (by simp; omega) qc
    rw [show ((0 : Nat) : Int) = 0 from rfl] at ed
    rw [ed, Option.bind_some, k_skolemref8_AagBytes_2_x4]
    refine ⟨_, hd, rfl, ?_⟩
    have ht : [97, 97, 103, 32] ++ lineB (headL i A o) ++ insTx 0 (i - 0) ++ outsTx (o.drop 0) ++ andsTx i 0 (A.drop 0) = aagTx i A o := by simp [aagTx]
    rw [ht] at qd
    exact (qd.sep.grown (i := 0) rfl).freezeU 6
  obtain ⟨v, h', e1, e2⟩ := key
  exact pure_of rfl rfl (cc1 (canon_circ _ _ _)) e1 e2
end Go.Proofs.YtmjbjgbcpaagmaaDoor

namespace Go.Proofs.YtmjbjgbcpaagmaaDoor
open Go.RowKit

/-! skolemworld.Number -/
def numI (n b : Int) : Int := bif decide (Int.tmod n b < 0) then IntKind.wrap .i64 (Int.tmod n b + b) else Int.tmod n b
theorem Number_run (fuel d : Nat) {n b : Int} (hb : b ≠ 0) (h : AHeap) : run fuel (d + 1) F_skolemworld_Number [.int .i64 n, .int .i64 b] h = some (.int .i64 (numI n b), h) :=
  pure_of rfl rfl (cc2 rfl rfl) (by
    rw [e_skolemworld_Number, bif_neg hb]
    show _ = some (AVal.int .i64 (numI n b), AHeap.none)
    unfold numI
    cases decide (Int.tmod n b < 0) <;> rfl) rfl
theorem numI_range {n b : Int} (hb : 0 < b) (hb2 : b ≤ 9223372036854775807) : 0 ≤ numI n b ∧ numI n b < b := by
  have h1 := Int.tmod_lt_of_pos n hb
  have h2 : -b < Int.tmod n b := by
    have := Int.neg_lt_of_neg_lt (a := Int.tmod n b) (b := b)
    have h3 := Int.tmod_lt_of_pos (-n) hb
    rw [Int.neg_tmod] at h3
    omega
  unfold numI
  by_cases h0 : Int.tmod n b < 0
  · rw [decide_eq_true h0, cond_true, wrap64 (by omega) (by omega)]; omega
  · rw [decide_eq_false h0, cond_false]; omega

end Go.Proofs.YtmjbjgbcpaagmaaDoor

namespace Go.Proofs.YtmjbjgbcpaagmaaDoor
open Go.RowKit

/-- gates out of numbers -/
def mkA (i : Int) : Nat → List Int → List (Int × Int) → List (Int × Int)
  | 0, _, acc => acc
  | n + 1, l, acc => match l with
    | x :: y :: l' => mkA i n l' (acc ++ [((bif decide (numI x (2 * (i + acc.length + 1)) < numI y (2 * (i + acc.length + 1))) then numI y (2 * (i + acc.length + 1)) else numI x (2 * (i + acc.length + 1))), (bif decide (numI y (2 * (i + acc.length + 1)) < numI x (2 * (i + acc.length + 1))) then numI y (2 * (i + acc.length + 1)) else numI x (2 * (i + acc.length + 1))))])
    | _ => acc
def mkO (n : Int) (o : List Int) : List Int := o.map fun x => numI x (2 * (n + 1))
def mkAnds (i : Int) (l : List Int) : List (Int × Int) := mkA i (l.length + 1) l []
theorem mkA_ok {i : Int} (hi : 0 ≤ i) : ∀ (n : Nat) (l : List Int) (acc : List (Int × Int)), AndsOk i 0 acc → i + acc.length + l.length ≤ 8000 → AndsOk i 0 (mkA i n l acc) ∧ (mkA i n l acc).length ≤ acc.length + l.length
  | 0, l, acc, h, hb => ⟨h, by unfold mkA; omega⟩
  | n + 1, [], acc, h, hb => ⟨h, by unfold mkA; simp⟩
  | n + 1, [x], acc, h, hb => ⟨h, by unfold mkA; simp⟩
  | n + 1, x :: y :: l, acc, h, hb => by
    simp only [List.length_cons] at hb
    unfold mkA
    simp only
    have hx := numI_range (n := x) (b := 2 * (i + acc.length + 1)) (by omega) (by omega)
    have hy := numI_range (n := y) (b := 2 * (i + acc.length + 1)) (by omega) (by omega)
    generalize numI x (2 * (i + acc.length + 1)) = u at hx
    generalize numI y (2 * (i + acc.length + 1)) = v at hy
    have app : ∀ (B : List (Int × Int)) (k : Int) (p : Int × Int), AndsOk i k B → (0 ≤ p.2 ∧ p.2 ≤ p.1 ∧ p.1 < 2 * (i + (k + B.length) + 1)) → AndsOk i k (B ++ [p]) := by
      intro B
      induction B with
      | nil => intro k p _ hp; exact ⟨by simpa using hp, trivial⟩
      | cons q B ih =>
        intro k p hB hp
        refine ⟨hB.1, ih (k + 1) p hB.2 ?_⟩
        rw [List.length_cons] at hp
        refine ⟨hp.1, hp.2.1, ?_⟩
        have := hp.2.2
        omega
    have hacc := app acc 0 ((bif decide (u < v) then v else u), (bif decide (v < u) then v else u)) h (by
      simp only [Int.zero_add]
      by_cases h1 : u < v
      · rw [decide_eq_true h1, decide_eq_false (by omega), cond_true, cond_false]; omega
      · rw [decide_eq_false h1, cond_false]
        by_cases h2 : v < u
        · rw [decide_eq_true h2, cond_true]; omega
        · rw [decide_eq_false h2, cond_false]; omega)
    obtain ⟨r1, r2⟩ := mkA_ok hi n l _ hacc (by simp; omega)
    refine ⟨r1, ?_⟩
    simp at r2
    simp only [List.length_cons]
    omega
theorem mk_right {i : Nat} {l o : List Int} (h : (i : Int) + l.length ≤ 8000) (ho : o.length ≤ 8000) : CiR i (mkAnds i l) (mkO ((i : Int) + (mkAnds i l).length) o) := by
  obtain ⟨r1, r2⟩ := mkA_ok (i := (i : Int)) (by omega) (l.length + 1) l [] trivial (by simp; omega)
  unfold mkAnds
  simp only [List.length_nil, Nat.zero_add] at r2
  refine ⟨by omega, by rw [mkO, List.length_map]; exact ho, r1, fun x hx => ?_⟩
  obtain ⟨y, _, rfl⟩ := List.mem_map.1 hx
  have := numI_range (n := y) (b := 2 * ((i : Int) + (mkA i (l.length + 1) l []).length + 1)) (by omega) (by omega)
  omega
section
variable (fuel d : Nat) {h0 : AHeap} {X C : Nat} {i : Int} {l o : List Int}
theorem mkc_loop0 (hi : 0 ≤ i ∧ i ≤ 1000) (hl : l.length ≤ 1000) {R : List Chunk} : ∀ (n k : Nat) (A : List (Int × Int)) (sA : Sl) (h : AHeap), l.length < n + k → k ≤ l.length → A.length ≤ k → Sep0 h0 h (.own 1 C 0 3 [.int .i64 i, .slice sA, .slice .nil] :: .grown 2 sA (pairsC A) :: R) →
    ∃ h' sA', l_skolemmake_Circuit_0 fuel (d + 1) n [(0, .int .i64 i), (1, .slice (lstI l)), (2, .slice (lstI o)), (6, .ptr (rdP X)), (7, .ptr (rdP C)), (8, .int .i64 (k : Int))] h = some (.exit 0, [(0, .int .i64 i), (2, .slice (lstI o)), (6, .ptr (rdP X)), (7, .ptr (rdP C))], h') ∧ Sep0 h0 h' (.own 1 C 0 3 [.int .i64 i, .slice sA', .slice .nil] :: .grown 2 sA' (pairsC (mkA i n (l.drop k) A)) :: R) := by
  intro n
  induction n with
  | zero => intro k A sA h h1 h2; omega
  | succ n ih =>
    intro k A sA h h1 h2 hA hs
    have hsl := hs.len (i := 1) rfl
    rw [pairsC_len] at hsl
    have hAl : sA.len = A.length := by omega
    have cA : ∀ q, Sep0 h0 q (.own 1 C 0 3 [.int .i64 i, .slice sA, .slice .nil] :: .grown 2 sA (pairsC A) :: R) → q.cell (.mk ⟨C, 0, 0 + 1⟩ 3) = some (.slice sA) := fun q hq => hq.part (i := 0) rfl (by omega) rfl
    rw [l_skolemmake_Circuit_0_eq, len_lst, sucU (by omega)]
    by_cases hk : k + 1 < l.length
    · have hd : l.drop k = l.getD k 0 :: l.getD (k + 1) 0 :: l.drop (k + 2) := by rw [drop_get (by omega) 0, drop_get hk 0]
      rw [bif_pos (by omega), hd]
      unfold mkA
      simp only [field_mk, Option.bind_some, cA h hs, slice_slice]
      rw [addr_lstM _ (by omega) (by omega) 0, Int.toNat_natCast]
      simp only [Option.bind_some, cell_fp, int_int]
      rw [hAl, wrap64 (n := i + (A.length : Int)) (by omega) (by omega), wrap64 (n := i + (A.length : Int) + 1) (by omega) (by omega), wrap64 (n := 2 * (i + (A.length : Int) + 1)) (by omega) (by omega), Number_run fuel d (by omega)]
      simp only [Option.bind_some, int_int]
      rw [addr_lstM _ (by omega) (by rw [Int.toNat_natCast]; exact hk) 0, Int.toNat_natCast]
      simp only [Option.bind_some, cell_fp, int_int]
      rw [Number_run fuel d (by omega)]
      simp only [Option.bind_some, int_int, cA h hs, slice_slice]
      generalize numI (l.getD k 0) (2 * (i + A.length + 1)) = u
      generalize numI (l.getD (k + 1) 0) (2 * (i + A.length + 1)) = v
      obtain ⟨sA', h2, e2, s2, _⟩ := hs.grow (i := 1) (bytes := 16) (m := 1) (vs := pairC ((bif decide (u < v) then v else u), (bif decide (v < u) then v else u))) rfl rfl (by omega) (by omega)
      rw [set1] at s2
      obtain ⟨h3, e3, s3⟩ := s2.put (i := 0) (o := 1) (l := 3) (vs := [.slice sA']) rfl (by simp) (by simp)
      rw [e2]
      simp only [Option.bind_some]
      rw [show (0 + 1 : Nat) = 1 from rfl, e3, Option.bind_some, show IntKind.wrap .i64 ((k : Int) + 2) = ((k + 2 : Nat) : Int) by rw [wrap64 (by omega) (by omega)]; omega]
      rw [show pairsC A ++ pairC ((bif decide (u < v) then v else u), (bif decide (v < u) then v else u)) = pairsC (A ++ [((bif decide (u < v) then v else u), (bif decide (v < u) then v else u))]) by simp [pairsC]] at s3
      exact ih (k + 2) _ sA' h3 (by omega) (by omega) (by simp; omega) s3
    · rw [bif_neg (by omega)]
      refine ⟨h, sA, rfl, ?_⟩
      have : mkA i (n + 1) (l.drop k) A = A := by
        have hlen : (l.drop k).length ≤ 1 := by rw [List.length_drop]; omega
        unfold mkA
        match hq : l.drop k with
        | [] => rfl
        | [x] => rfl
        | x :: y :: z => rw [hq] at hlen; simp at hlen
      rw [this]
      exact hs
theorem mkc_loop1 (hi : 0 ≤ i ∧ i ≤ 1000) (ho : o.length ≤ 1000) {A : List (Int × Int)} (hA : A.length ≤ 1000) {sA : Sl} (hAl : sA.len = A.length) {R : List Chunk} : ∀ (n k : Nat) (O : List Int) (sO : Sl) (h : AHeap), o.length < n + k → k ≤ o.length → O = (o.take k).map (fun x => numI x (2 * (i + A.length + 1))) → Sep0 h0 h (.own 1 C 0 3 [.int .i64 i, .slice sA, .slice sO] :: .grown 1 sO (intsC O) :: R) →
    ∃ h' sO', l_skolemmake_Circuit_1 fuel (d + 1) n [(0, .int .i64 i), (2, .slice (lstI o)), (6, .ptr (rdP X)), (7, .ptr (rdP C)), (12, .int .i64 (k : Int))] h = some (.exit 2, [(6, .ptr (rdP X)), (7, .ptr (rdP C))], h') ∧ Sep0 h0 h' (.own 1 C 0 3 [.int .i64 i, .slice sA, .slice sO'] :: .grown 1 sO' (intsC (mkO (i + A.length) o)) :: R) := by
  intro n
  induction n with
  | zero => intro k O sO h h1 h2; omega
  | succ n ih =>
    intro k O sO h h1 h2 hO hs
    have hsl := hs.len (i := 1) rfl
    rw [List.length_map, Nat.mul_one] at hsl
    have hOl : O.length = k := by rw [hO]; simp; omega
    have cA : h.cell (.mk ⟨C, 0, 0 + 1⟩ 3) = some (.slice sA) := hs.part (i := 0) rfl (by omega) rfl
    have cO : h.cell (.mk ⟨C, 0, 0 + 2⟩ 3) = some (.slice sO) := hs.part (i := 0) rfl (by omega) rfl
    rw [l_skolemmake_Circuit_1_eq, len_lst]
    by_cases hk : k < o.length
    · rw [bif_pos (by omega)]
      simp only [field_mk, Option.bind_some, cO, cA, slice_slice]
      rw [addr_lstM _ (by omega) (by omega) 0, Int.toNat_natCast]
      simp only [Option.bind_some, cell_fp, int_int]
      rw [hAl, wrap64 (n := i + (A.length : Int)) (by omega) (by omega), wrap64 (n := i + (A.length : Int) + 1) (by omega) (by omega), wrap64 (n := 2 * (i + (A.length : Int) + 1)) (by omega) (by omega), Number_run fuel d (by omega)]
      simp only [Option.bind_some, int_int, cO, slice_slice, same_self]
      obtain ⟨sO', h2, e2, s2, _⟩ := hs.grow (i := 1) (bytes := 8) (m := 1) (vs := [.int .i64 (numI (o.getD k 0) (2 * (i + A.length + 1)))]) rfl rfl (by omega) (by omega)
      rw [set1] at s2
      obtain ⟨h3, e3, s3⟩ := s2.put (i := 0) (o := 2) (l := 3) (vs := [.slice sO']) rfl (by simp) (by simp)
      rw [e2]
      simp only [Option.bind_some]
      rw [show (0 + 2 : Nat) = 2 from rfl, e3, Option.bind_some, sucU (by omega)]
      rw [show intsC O ++ [AVal.int .i64 (numI (o.getD k 0) (2 * (i + A.length + 1)))] = intsC (O ++ [numI (o.getD k 0) (2 * (i + A.length + 1))]) by simp] at s3
      exact ih (k + 1) _ sO' h3 (by omega) (by omega) (by rw [take_get hk 0, List.map_append, hO]; rfl) s3
    · obtain rfl : k = o.length := by omega
      rw [bif_neg (by omega)]
      rw [List.take_length] at hO
      subst hO
      exact ⟨h, sO, rfl, hs⟩
theorem mkc_run (hf : 2000 < fuel) (hi : 0 ≤ i ∧ i ≤ 1000) (hl : l.length ≤ 1000) (ho : o.length ≤ 1000) {u v : AVal} (hu : canonV 8 u = some (.slice (lstI l))) (hv : canonV 8 v = some (.slice (lstI o))) (h : AHeap) :
    run fuel (d + 2) F_skolemmake_Circuit [.int .i64 i, u, v] h = some (.agg (circC i (mkAnds i l) (mkO (i + (mkAnds i l).length) o)), h) := by
  have key : ∃ v h', brun fuel (d + 2) F_skolemmake_Circuit [.int .i64 i, .slice (lstI l), .slice (lstI o)] AHeap.none = some (v, h') ∧ freezeV h' 8 v = some (.agg (circC i (mkAnds i l) (mkO (i + (mkAnds i l).length) o))) := by
    have s1 := (((Sep0.start AHeap.none).push 1 3 (cs := zero3) rfl).push 1 3 (cs := zero3) rfl).cons
    obtain ⟨h1, e1, s2⟩ := s1.putAll (i := 0) (vs := [.int .i64 i, .slice .nil, .slice .nil]) rfl rfl rfl
    rw [e_skolemmake_Circuit, e1, Option.bind_some]
    generalize (AHeap.none.push 1 zero3).next = C at s2
    generalize AHeap.none.next = X at s2
    have s3 : Sep0 AHeap.none h1 [.own 1 C 0 3 [.int .i64 i, .slice .nil, .slice .nil], .grown 2 .nil (pairsC []), .own 1 X 0 3 zero3] := (s2.addNil 2).perm ((List.Perm.swap _ _ _).cons _)
    obtain ⟨h2, sA, e2, s4⟩ := mkc_loop0 fuel d (X := X) (o := o) hi hl fuel 0 [] .nil h1 (by omega) (by omega) (by simp) s3
    rw [show ((0 : Nat) : Int) = 0 from rfl] at e2
    rw [e2, Option.bind_some, k_skolemmake_Circuit_0_x0]
    have hmk : mkA i fuel (l.drop 0) [] = mkAnds i l := by
      have : ∀ (n m : Nat) (l : List Int) (acc : List (Int × Int)), l.length < n → l.length < m → mkA i n l acc = mkA i m l acc := by
        intro n
        induction n with
        | zero => intro m l acc h1; omega
        | succ n ih =>
          intro m l acc h1 h2
          obtain ⟨m, rfl⟩ : ∃ q, m = q + 1 := ⟨m - 1, by omega⟩
          match l with
          | [] => rfl
          | [x] => rfl
          | x :: y :: l =>
            unfold mkA
            simp only
            simp only [List.length_cons] at h1 h2
            exact ih m l _ (by omega) (by omega)
      exact this _ _ _ _ (by simp; omega) (by simp)
    rw [hmk] at s4
    have hAlen : (mkAnds i l).length ≤ 1000 := by
      have : ∀ (n : Nat) (l : List Int) (acc : List (Int × Int)), (mkA i n l acc).length ≤ acc.length + l.length := by
        intro n
        induction n with
        | zero => intro l acc; unfold mkA; omega
        | succ n ih =>
          intro l acc
          match l with
          | [] => unfold mkA; simp
          | [x] => unfold mkA; simp
          | x :: y :: l =>
            unfold mkA
            simp only
            refine Nat.le_trans (ih l _) ?_
            simp
            omega
      have := this (l.length + 1) l []
      unfold mkAnds
      simp only [List.length_nil] at this
      omega
    have hgA := s4.sep.grown (i := 1) rfl
    have hAl := hgA.len
    rw [pairsC_len] at hAl
    have s5 : Sep0 AHeap.none h2 [.own 1 C 0 3 [.int .i64 i, .slice sA, .slice .nil], .grown 1 .nil (intsC []), .grown 2 sA (pairsC (mkAnds i l)), .own 1 X 0 3 zero3] := (s4.addNil 1).perm (by
      refine List.Perm.cons _ ?_
      exact List.perm_append_comm (l₁ := [_, _]) (l₂ := [_]))
    obtain ⟨h3, sO, e3, s6⟩ := mkc_loop1 fuel d (X := X) hi ho hAlen (by omega) fuel 0 [] .nil h2 (by omega) (by omega) (by simp) s5
    rw [show ((0 : Nat) : Int) = 0 from rfl] at e3
    rw [e3, Option.bind_some, k_skolemmake_Circuit_1_x2]
    have cC : h3.cellsAt 3 (rdP C) = some [.int .i64 i, .slice sA, .slice sO] := s6.getAll (i := 0) rfl rfl
    obtain ⟨h4, e4, s7⟩ := s6.putAll (i := 3) (vs := [.int .i64 i, .slice sA, .slice sO]) rfl rfl rfl
    have cX : h4.cellsAt 3 (rdP X) = some [.int .i64 i, .slice sA, .slice sO] := s7.getAll (i := 3) rfl rfl
    rw [cC, Option.bind_some, show (!false && Nat.beq (List.length [AVal.int .i64 i, .slice sA, .slice sO]) 3 && List.all [AVal.int .i64 i, .slice sA, .slice sO] AVal.isCell) = true from rfl, cond_true, e4, Option.bind_some, cX]
    refine ⟨_, h4, rfl, ?_⟩
    have gO := s7.sep.grown (i := 1) rfl
    have gA := s7.sep.grown (i := 2) rfl
    have lO := gO.len
    rw [List.length_map, Nat.mul_one] at lO
    refine freeze_agg 7 (mm3 rfl ?_ ?_)
    · rw [gA.freeze (n := 6) (by omega) (freeze_pairs 5 _), show sA.len = (mkAnds i l).length by omega]
    · rw [gO.freeze (n := 6) (by omega) (freeze_intsC 5 _), ← lO]
  obtain ⟨v, h', e1, e2⟩ := key
  exact pure_of rfl rfl (cc3 rfl hu hv) e1 e2
end
end Go.Proofs.YtmjbjgbcpaagmaaDoor

namespace Go.Proofs.YtmjbjgbcpaagmaaDoor
open Go.RowKit

end Go.Proofs.YtmjbjgbcpaagmaaDoor

namespace Go.Proofs.YtmjbjgbcpaagmaaDoor
open Go.RowKit

end Go.Proofs.YtmjbjgbcpaagmaaDoor

namespace Go.Proofs.YtmjbjgbcpaagmaaDoor
open Go.RowKit

def blankI (c : Int) : Bool := bif (bif decide (c = 32) then true else decide (c = 9)) then true else decide (c = 13)
end Go.Proofs.YtmjbjgbcpaagmaaDoor

namespace Go.Proofs.YtmjbjgbcpaagmaaDoor
open Go.RowKit

end Go.Proofs.YtmjbjgbcpaagmaaDoor

namespace Go.Proofs.YtmjbjgbcpaagmaaDoor
open Go.RowKit

/-- the number that stands first -/
def numP (f : Bool) (W : List Wd) : Option Int := (wF f W).bind fun w => if plainW w.text = true then some (numW w.text) else none
section
variable (fuel d : Nat) {W : List Wd}
/-- the word whose number is too great -/
def limR (m i l o a : Int) : Int := if 8000 < i then 2 else if 8000 < a ∨ 8000 < i + a then 5 else if 8000 < o then 4 else -1
end
end Go.Proofs.YtmjbjgbcpaagmaaDoor

namespace Go.Proofs.YtmjbjgbcpaagmaaDoor
open Go.RowKit

theorem isS {α : Type} (x : Option α) : x.isSome = true ↔ ∃ y, x = some y := Option.isSome_iff_exists

section
variable (fuel d : Nat) (hf : 20 < fuel) {h0 : AHeap} {R F Z C : Nat} {W : List Wd} {b : List UInt8} (hne : ∀ w ∈ W, w.text ≠ [])
include hf hne
abbrev rdS (R F Z C : Nat) (i : Int) (nn : List Int) (sN sO sA : Sl) (O : List Int) (A : List (Int × Int)) : List Chunk :=
  [.own 1 R 0 3 zero3, .own 1 F 0 3 (faultC 0 false 0), .own 1 Z 0 3 zero3, .grown 1 sN (intsC nn), .own 1 C 0 3 [.int .i64 i, .slice sA, .slice sO], .grown 1 sO (intsC O), .grown 2 sA (pairsC A)]
variable {i : Int} {nn : List Int} {sN : Sl}
end
end Go.Proofs.YtmjbjgbcpaagmaaDoor

namespace Go.Proofs.YtmjbjgbcpaagmaaDoor
open Go.RowKit

section
variable (fuel d : Nat) (hf : 20 < fuel) {h0 : AHeap} {R F Z C : Nat} {W : List Wd} {b : List UInt8} (hne : ∀ w ∈ W, w.text ≠ []) {i : Int} {nn : List Int} {sN : Sl}
include hf hne
end
end Go.Proofs.YtmjbjgbcpaagmaaDoor

namespace Go.Proofs.YtmjbjgbcpaagmaaDoor
open Go.RowKit

def rciA : Except (Int × Int) Ci → AVal
  | .ok (i, A, O) => .tup [.agg (circC i A O), .agg (faultC 0 false 0)]
  | .error (c, p) => .tup [.agg (circC 0 [] []), .agg (faultC c true p)]
end Go.Proofs.YtmjbjgbcpaagmaaDoor

namespace Go.Proofs.YtmjbjgbcpaagmaaDoor
open Go.RowKit

theorem sucS {m : Nat} (h : m < 9000000000000000000) : IntKind.wrap .i64 ((m : Int) + 1) = ((m + 1 : Nat) : Int) := by rw [wrap64 (by omega) (by omega)]; omega
theorem sameI_loop (fuel d : Nat) {a b : List Int} (hl : a.length = b.length) (hn : a.length < 1000000000) {h : AHeap} : ∀ (n k : Nat), a.length < n + k → k ≤ a.length → a.take k = b.take k →
    (l_skolemref_SameInts_0 fuel d n [(0, .slice (lstI a)), (1, .slice (lstI b)), (5, .int .i64 (k : Int))] h).bind (fun p => k_skolemref_SameInts_0 fuel d p.1 p.2.1 p.2.2) = some (.bool (decide (a = b)), h) := by
  intro n
  induction n with
  | zero => intro k h1 h2; omega
  | succ n ih =>
    intro k h1 h2 h3
    rw [l_skolemref_SameInts_0_eq, len_lst]
    by_cases hk : k < a.length
    · rw [bif_pos (by omega), addr_lstM _ (by omega) (by omega) 0, addr_lstM _ (by omega) (by omega) 0]
      simp only [Option.bind_some, cell_fp, int_int, Int.toNat_natCast]
      by_cases he : a.getD k 0 = b.getD k 0
      · rw [bif_npos he, sucS (by omega), ih (k + 1) (by omega) (by omega) (by rw [take_get hk 0, take_get (by omega) 0, h3, he])]
      · rw [bif_nneg he]
        simp only [Option.bind_some, k_skolemref_SameInts_0_r]
        rw [decide_eq_false (fun h => he (by rw [h]))]
    · have : k = a.length := by omega
      subst this
      rw [bif_neg (by omega)]
      have : a = b := by rw [List.take_length, hl, List.take_length] at h3; exact h3
      simp only [Option.bind_some, k_skolemref_SameInts_0_x0]
      rw [decide_eq_true this]
theorem sameI_run (fuel d : Nat) {a b : List Int} {s t : Sl} {h : AHeap} (hs : freezeV h 8 (.slice s) = some (.slice (lstI a))) (ht : freezeV h 8 (.slice t) = some (.slice (lstI b))) (hn : a.length < 1000000000) (hf : a.length < fuel) :
    run fuel (d + 1) F_skolemref_SameInts [.slice s, .slice t] h = some (.bool (decide (a = b)), h) := by
  refine run_val rfl rfl (mm2 hs ht) (r := .bool (decide (a = b))) (h' := AHeap.none) ?_ rfl rfl
  rw [e_skolemref_SameInts, len_lst, len_lst]
  by_cases hl : a.length = b.length
  · rw [bif_npos (by omega)]
    have := sameI_loop fuel d hl hn (h := AHeap.none) fuel 0 (by omega) (by omega) rfl
    exact this
  · rw [bif_nneg (by omega), decide_eq_false (fun h => hl (by rw [h]))]

end Go.Proofs.YtmjbjgbcpaagmaaDoor

namespace Go.Proofs.YtmjbjgbcpaagmaaDoor
open Go.RowKit

theorem paddr (h : AHeap) {A : List (Int × Int)} {k : Nat} (hk : k < A.length) : h.addr 2 (lstP A) (k : Int) = some (.fp 0 (pairC (A.getD k (0, 0)))) := by
  have := addr_lstN (h := h) (sz := 2) (f := pairC) (fun _ => rfl) (l := A) (j := (k : Int)) (by omega) (by omega) (0, 0) false
  rw [Int.toNat_natCast] at this
  exact this
theorem sameP_loop (fuel d : Nat) {a b : List (Int × Int)} (hl : a.length = b.length) (hn : a.length < 1000000000) {h : AHeap} : ∀ (n k : Nat), a.length < n + k → k ≤ a.length → a.take k = b.take k →
    (l_skolemref_SamePairs_0 fuel d n [(0, .slice (lstP a)), (1, .slice (lstP b)), (5, .int .i64 (k : Int))] h).bind (fun p => k_skolemref_SamePairs_0 fuel d p.1 p.2.1 p.2.2) = some (.bool (decide (a = b)), h) := by
  intro n
  induction n with
  | zero => intro k h1 h2; omega
  | succ n ih =>
    intro k h1 h2 h3
    rw [l_skolemref_SamePairs_0_eq, len_lst]
    by_cases hk : k < a.length
    · have e0 : ∀ x : Int × Int, Pt.elem 1 2 (0 : Int) (.fp 0 (pairC x)) = some (.fp 0 (pairC x)) := fun _ => rfl
      have e1 : ∀ x : Int × Int, Pt.elem 1 2 (1 : Int) (.fp 0 (pairC x)) = some (.fp 0 [.int .i64 x.2]) := fun _ => rfl
      have c0 : ∀ x : Int × Int, h.cell (.fp 0 (pairC x)) = some (.int .i64 x.1) := fun _ => rfl
      rw [bif_pos (by omega), paddr h hk, paddr h (A := b) (by omega)]
      simp only [Option.bind_some, e0, e1, c0, cell_fp, int_int]
      have ne : ∀ {p : Bool}, a.getD k (0, 0) ≠ b.getD k (0, 0) → p = false → (k_skolemref_SamePairs_1 fuel d n .normal [(0, .slice (lstP a)), (1, .slice (lstP b)), (5, .int .i64 (k : Int)), (6, .bool p)] h).bind (fun p => k_skolemref_SamePairs_0 fuel d p.1 p.2.1 p.2.2) = some (.bool (decide (a = b)), h) := by
        intro p hne hp
        subst hp
        rw [k_skolemref_SamePairs_1_n, Bool.not_false, cond_true]
        simp only [Option.bind_some, k_skolemref_SamePairs_0_r]
        rw [decide_eq_false (fun h => hne (by rw [h]))]
      by_cases he : (a.getD k (0, 0)).1 = (b.getD k (0, 0)).1
      · rw [bif_pos he]
        simp only [Option.bind_some]
        by_cases he2 : (a.getD k (0, 0)).2 = (b.getD k (0, 0)).2
        · have heq : a.getD k (0, 0) = b.getD k (0, 0) := Prod.ext he he2
          rw [decide_eq_true he2, k_skolemref_SamePairs_1_n, Bool.not_true, cond_false, sucS (by omega), ih (k + 1) (by omega) (by omega) (by rw [take_get hk (0, 0), take_get (by omega) (0, 0), h3, heq])]
        · exact ne (fun h => he2 (by rw [h])) (decide_eq_false he2)
      · rw [bif_neg he]
        simp only [Option.bind_some]
        exact ne (fun h => he (by rw [h])) rfl
    · have : k = a.length := by omega
      subst this
      rw [bif_neg (by omega)]
      have : a = b := by rw [List.take_length, hl, List.take_length] at h3; exact h3
      simp only [Option.bind_some, k_skolemref_SamePairs_0_x0]
      rw [decide_eq_true this]
theorem sameP_run (fuel d : Nat) {a b : List (Int × Int)} (hn : a.length < 1000000000) (hf : a.length < fuel) (h : AHeap) : run fuel (d + 1) F_skolemref_SamePairs [.slice (lstP a), .slice (lstP b)] h = some (.bool (decide (a = b)), h) := by
  refine pure_of rfl rfl (cc2 (canon_lstP 7 a) (canon_lstP 7 b)) (r := .bool (decide (a = b))) (h' := AHeap.none) ?_ rfl
  rw [e_skolemref_SamePairs, len_lst, len_lst]
  by_cases hl : a.length = b.length
  · rw [bif_npos (by omega)]
    have := sameP_loop fuel d hl hn (h := AHeap.none) fuel 0 (by omega) (by omega) rfl
    exact this
  · rw [bif_nneg (by omega), decide_eq_false (fun h => hl (by rw [h]))]
theorem okCi (i : Int) (A : List (Int × Int)) (O : List Int) : (!false && Nat.beq (List.length (circC i A O)) 3 && List.all (circC i A O) AVal.isCell) = true := rfl
theorem sameCi_run (fuel d : Nat) {i j : Int} {A B : List (Int × Int)} {O Q : List Int} (hA : A.length < 1000000000) (hAf : A.length < fuel) (hO : O.length < 1000000000) (hOf : O.length < fuel) (h : AHeap) :
    run fuel (d + 2) F_skolemref_SameCircuit [.agg (circC i A O), .agg (circC j B Q)] h = some (.bool (decide (i = j) && decide (A = B) && decide (O = Q)), h) := by
  refine pure_of rfl rfl (cc2 (canon_circ _ _ _) (canon_circ _ _ _)) (r := .bool (decide (i = j) && decide (A = B) && decide (O = Q))) ?_ rfl (h' := (AHeap.none.push 1 (circC i A O)).push 1 (circC j B Q))
  rw [e_skolemref_SameCircuit, show List.all (circC i A O) AVal.isCell = true from rfl, show List.all (circC j B Q) AVal.isCell = true from rfl, cond_true, cond_true, show (circC i A O).length = 3 from rfl, show (circC j B Q).length = 3 from rfl]
  have s1 := ((Sep0.start AHeap.none).push 1 3 (cs := circC i A O) rfl).push 1 3 (cs := circC j B Q) rfl
  generalize AHeap.none.next = P at s1
  generalize (AHeap.none.push 1 (circC i A O)).next = R at s1
  generalize (AHeap.none.push 1 (circC i A O)).push 1 (circC j B Q) = H at s1
  have a0 : H.cell (.mk ⟨P, 0, 0 + 0⟩ 3) = some (.int .i64 i) := s1.part (i := 0) rfl (by omega) rfl
  have a1 : H.cell (.mk ⟨P, 0, 0 + 1⟩ 3) = some (.slice (lstP A)) := s1.part (i := 0) rfl (by omega) rfl
  have a2 : H.cell (.mk ⟨P, 0, 0 + 2⟩ 3) = some (.slice (lstI O)) := s1.part (i := 0) rfl (by omega) rfl
  have b0 : H.cell (.mk ⟨R, 0, 0 + 0⟩ 3) = some (.int .i64 j) := s1.part (i := 1) rfl (by omega) rfl
  have b1 : H.cell (.mk ⟨R, 0, 0 + 1⟩ 3) = some (.slice (lstP B)) := s1.part (i := 1) rfl (by omega) rfl
  have b2 : H.cell (.mk ⟨R, 0, 0 + 2⟩ 3) = some (.slice (lstI Q)) := s1.part (i := 1) rfl (by omega) rfl
  simp only [field_mk, Option.bind_some, a0, a1, b0, b1, int_int, slice_slice]
  by_cases h1 : i = j
  · rw [decide_eq_true h1, sameP_run fuel d hA hAf]
    simp only [beq_self_eq_true, cond_true, Option.bind_some, bool_bool, Bool.true_and]
    by_cases h2 : A = B
    · rw [decide_eq_true h2]
      simp only [beq_self_eq_true, cond_true, a2, b2, Option.bind_some, slice_slice, Bool.true_and]
      rw [sameI_run fuel d (freeze_lstI 7 _) (freeze_lstI 7 _) hO hOf]
      simp only [Option.bind_some, bool_bool]
    · rw [decide_eq_false h2]
      rfl
  · rw [decide_eq_false h1]
    rfl
theorem sameCi_self (fuel d : Nat) {i : Int} {A : List (Int × Int)} {O : List Int} (hA : A.length < 1000000000) (hAf : A.length < fuel) (hO : O.length < 1000000000) (hOf : O.length < fuel) (h : AHeap) :
    run fuel (d + 2) F_skolemref_SameCircuit [.agg (circC i A O), .agg (circC i A O)] h = some (.bool true, h) := by
  rw [sameCi_run fuel d hA hAf hO hOf, decide_eq_true (rfl : i = i), decide_eq_true (rfl : A = A), decide_eq_true (rfl : O = O)]
  rfl

/-! what is read -/
end Go.Proofs.YtmjbjgbcpaagmaaDoor

namespace Go.Proofs.YtmjbjgbcpaagmaaDoor
open Go.RowKit

section
variable (fuel d : Nat) (hf : 30 < fuel) {h0 : AHeap} {C b : Nat} {R : List Chunk}
include hf
theorem abytes0 {i : Nat} (hi : i ≤ 10000) : ∀ (n k : Nat) (t : List UInt8) (h : AHeap) (B : List Chunk), i < n + k → k ≤ i → t.length + 30 * (i - k) < 1099511627776 → BldCh b (bytesC t) B → Sep0 h0 h (B ++ R) →
    ∃ h' B', l_aag_Bytes_0 fuel (d + 7) n [(1, .ptr (.mk ⟨C, 0, 0⟩ 3)), (3, .ptr (bPt b)), (14, .int .i64 (i : Int)), (15, .int .i64 (k : Int))] h = some (.exit 0, [(1, .ptr (.mk ⟨C, 0, 0⟩ 3)), (3, .ptr (bPt b))], h') ∧ BldCh b (bytesC (t ++ insTx k (i - k))) B' ∧ Sep0 h0 h' (B' ++ R) := by
  intro n
  induction n with
  | zero => intro k t h B h1 h2; omega
  | succ n ih =>
    intro k t h B h1 h2 ht hB hs
    rw [l_aag_Bytes_0_eq]
    by_cases hk : k < i
    · have hl := lineB_len (l := [2 * ((k : Int) + 1)]) (fun x hx => by rw [List.mem_singleton.1 hx]; exact in64 (by omega) (by omega))
      simp only [List.length_cons, List.length_nil] at hl
      obtain ⟨h', B', e1, q1, s1⟩ := WS_run fuel (d + 6) hB hs (lineB [2 * ((k : Int) + 1)]) (by omega)
      obtain ⟨h'', B'', e2, q2, s2⟩ := ih (k + 1) (t ++ lineB [2 * ((k : Int) + 1)]) h' B' (by omega) (by omega) (by simp; omega) q1 s1
      refine ⟨h'', B'', ?_, ?_, s2⟩
      · rw [bif_pos (by omega), wrap64 (n := (k : Int) + 1) (by omega) (by omega), wrap64 (n := 2 * ((k : Int) + 1)) (by omega) (by omega), aline1 fuel (d + 1) hf _ _ (in64 (by omega) (by omega)), Option.bind_some, str_str, Option.bind_some, e1]
        simp only [Option.bind_some, tup2, cond_true, comp0, comp1, int_int]
        exact e2
      · rw [List.append_assoc] at q2
        rw [show i - k = (i - (k + 1)) + 1 by omega]
        exact q2
    · obtain rfl : k = i := by omega
      rw [bif_neg (by omega)]
      refine ⟨h, B, rfl, ?_, hs⟩
      rw [Nat.sub_self, insTx, List.append_nil]
      exact hB
theorem abytes1 {o : List Int} (ho : o.length ≤ 10000) (hx : ∀ x ∈ o, In64 x) : ∀ (n k : Nat) (t : List UInt8) (h : AHeap) (B : List Chunk), o.length < n + k → k ≤ o.length → t.length + 30 * (o.length - k) < 1099511627776 → BldCh b (bytesC t) B → Sep0 h0 h (B ++ R) →
    ∃ h' B', l_aag_Bytes_1 fuel (d + 7) n [(1, .ptr (.mk ⟨C, 0, 0⟩ 3)), (3, .ptr (bPt b)), (26, .slice (lstI o)), (27, .int .i64 (o.length : Int)), (28, .int .i64 (k : Int))] h = some (.exit 2, [(1, .ptr (.mk ⟨C, 0, 0⟩ 3)), (3, .ptr (bPt b))], h') ∧ BldCh b (bytesC (t ++ outsTx (o.drop k))) B' ∧ Sep0 h0 h' (B' ++ R) := by
  intro n
  induction n with
  | zero => intro k t h B h1 h2; omega
  | succ n ih =>
    intro k t h B h1 h2 ht hB hs
    rw [l_aag_Bytes_1_eq]
    by_cases hk : k < o.length
    · have hd := drop_get hk 0
      have hm : o.getD k 0 ∈ o := by rw [List.getD_eq_getElem?_getD, List.getElem?_eq_getElem hk]; exact List.getElem_mem hk
      have hxk := hx _ hm
      rw [bif_pos (by omega), addr_lstM _ (by omega) (by omega) 0, hd, Int.toNat_natCast]
      generalize o.getD k 0 = x at hxk
      have hl := lineB_len (l := [x]) (fun y hy => by rw [List.mem_singleton.1 hy]; exact hxk)
      simp only [List.length_cons, List.length_nil] at hl
      obtain ⟨h', B', e1, q1, s1⟩ := WS_run fuel (d + 6) hB hs (lineB [x]) (by omega)
      obtain ⟨h'', B'', e2, q2, s2⟩ := ih (k + 1) (t ++ lineB [x]) h' B' (by omega) (by omega) (by simp; omega) q1 s1
      refine ⟨h'', B'', ?_, ?_, s2⟩
      · simp only [Option.bind_some, cell_fp, int_int]
        rw [aline1 fuel (d + 1) hf _ _ hxk, Option.bind_some, str_str, Option.bind_some, e1]
        simp only [Option.bind_some, tup2, cond_true, comp0, comp1, int_int]
        rw [sucU (by omega)]
        exact e2
      · rw [List.append_assoc] at q2
        exact q2
    · obtain rfl : k = o.length := by omega
      rw [bif_neg (by omega)]
      refine ⟨h, B, rfl, ?_, hs⟩
      rw [List.drop_length, show outsTx [] = [] from rfl, List.append_nil]
      exact hB
theorem abytes2 {i : Nat} {A : List (Int × Int)} {o : List Int} (hi : i ≤ 10000) (hA : A.length ≤ 10000) (hx : ∀ p ∈ A, In64 p.1 ∧ In64 p.2) {r : Nat} (hR : R[r]? = some (Chunk.own 1 C 0 3 (circC i A o))) : ∀ (n k : Nat) (t : List UInt8) (h : AHeap) (B : List Chunk), A.length < n + k → k ≤ A.length → t.length + 70 * (A.length - k) < 1099511627776 → BldCh b (bytesC t) B → Sep0 h0 h (B ++ R) →
    ∃ h' B', l_aag_Bytes_2 fuel (d + 7) n [(1, .ptr (.mk ⟨C, 0, 0⟩ 3)), (3, .ptr (bPt b)), (38, .slice (lstP A)), (39, .int .i64 (A.length : Int)), (40, .int .i64 (k : Int))] h = some (.exit 4, [(3, .ptr (bPt b))], h') ∧ BldCh b (bytesC (t ++ andsTx i k (A.drop k))) B' ∧ Sep0 h0 h' (B' ++ R) := by
  intro n
  induction n with
  | zero => intro k t h B h1 h2; omega
  | succ n ih =>
    intro k t h B h1 h2 ht hB hs
    rw [l_aag_Bytes_2_eq]
    by_cases hk : k < A.length
    · have hd := drop_get hk (0, 0)
      have hm : A.getD k (0, 0) ∈ A := by rw [List.getD_eq_getElem?_getD, List.getElem?_eq_getElem hk]; exact List.getElem_mem hk
      have hxk := hx _ hm
      rw [bif_pos (by omega), addr_lstN (sz := 2) (f := fun p : Int × Int => [AVal.int .i64 p.1, .int .i64 p.2]) (fun _ => rfl) (l := A) (j := (k : Int)) (by omega) (by omega) (0, 0), hd, Int.toNat_natCast]
      generalize A.getD k (0, 0) = p at hxk
      have hl := lineB_len (l := [2 * ((i : Int) + k + 1), p.1, p.2]) (fun y hy => by simp at hy; rcases hy with rfl | rfl | rfl <;> first | exact hxk.1 | exact hxk.2 | exact in64 (by omega) (by omega))
      simp only [List.length_cons, List.length_nil] at hl
      have sc := hs.push 1 2 (cs := [(AVal.int .i64 (0 : Int)), (.int .i64 (0 : Int))]) rfl
      obtain ⟨h3, e3, s3⟩ := sc.put (i := (B ++ R).length) (o := 0) (l := 2) (vs := [.int .i64 p.1, .int .i64 p.2]) List.getElem?_concat_length (by simp) (by simp)
      rw [set_last] at s3
      have hq : (B ++ R ++ [Chunk.own 1 h.next 0 2 [AVal.int .i64 p.1, .int .i64 p.2]])[(B ++ R).length]? = some (.own 1 h.next 0 2 [.int .i64 p.1, .int .i64 p.2]) := List.getElem?_concat_length
      have c0 : h3.cell (.mk ⟨h.next, 0, 0⟩ 2) = some (.int .i64 p.1) := s3.part hq (by omega) rfl
      have c1 : h3.cell (.mk ⟨h.next, 0, 1⟩ 2) = some (.int .i64 p.2) := s3.part hq (by omega) rfl
      have hj' : (B ++ R)[B.length + r]? = some (Chunk.own 1 C 0 3 (circC i A o)) := by rw [List.getElem?_append_right (by omega), Nat.add_sub_cancel_left]; exact hR
      have cC : h3.cell (.mk ⟨C, 0, 0 + 0⟩ 3) = some (.int .i64 (i : Int)) := s3.part (i := B.length + r) (by rw [List.getElem?_append_left (List.getElem?_eq_some_iff.1 hj').1]; exact hj') (by omega) rfl
      obtain ⟨h', B', e1, q1, s1⟩ := WS_run fuel (d + 6) hB (by rw [← List.append_assoc]; exact s3) (lineB [2 * ((i : Int) + k + 1), p.1, p.2]) (by omega)
      have s1' : Sep0 h0 h' (B' ++ R) := by rw [← List.append_assoc] at s1; exact s1.init
      obtain ⟨h'', B'', e2, q2, s2⟩ := ih (k + 1) (t ++ lineB [2 * ((i : Int) + k + 1), p.1, p.2]) h' B' (by omega) (by omega) (by simp; omega) q1 s1'
      refine ⟨h'', B'', ?_, ?_, s2⟩
      · rw [Option.bind_some, cellsAt_fp (n := 2) (cs := [AVal.int .i64 p.1, .int .i64 p.2]) rfl, Option.bind_some, show (!false && Nat.beq (List.length [AVal.int .i64 p.1, .int .i64 p.2]) 2 && List.all [AVal.int .i64 p.1, .int .i64 p.2] AVal.isCell) = true from rfl, cond_true, e3]
        simp only [Option.bind_some, field_mk, cC, int_int]
        rw [show Pt.elem 1 2 (0 : Int) (.mk ⟨h.next, 0, 0⟩ 2) = some (.mk ⟨h.next, 0, 0⟩ 2) from rfl, show Pt.elem 1 2 (1 : Int) (.mk ⟨h.next, 0, 0⟩ 2) = some (.mk ⟨h.next, 0, 1⟩ 2) from rfl]
        simp only [Option.bind_some, c0, c1, int_int]
        rw [wrap64 (n := (i : Int) + (k : Int)) (by omega) (by omega), wrap64 (n := (i : Int) + (k : Int) + 1) (by omega) (by omega), wrap64 (n := 2 * ((i : Int) + (k : Int) + 1)) (by omega) (by omega), aline3 fuel (d + 1) hf _ _ (in64 (by omega) (by omega)) hxk.1 hxk.2, Option.bind_some, str_str, Option.bind_some, e1]
        simp only [Option.bind_some, tup2, cond_true, comp0, comp1, int_int]
        rw [sucU (by omega)]
        exact e2
      · rw [List.append_assoc] at q2
        exact q2
    · obtain rfl : k = A.length := by omega
      rw [bif_neg (by omega)]
      refine ⟨h, B, rfl, ?_, hs⟩
      rw [List.drop_length, andsTx, List.append_nil]
      exact hB
end
theorem abytes_body (fuel d : Nat) (hf : 20000 < fuel) {i : Nat} {A : List (Int × Int)} {o : List Int} (hc : CiOk i A o) : ∃ v h', brun fuel (d + 8) F_aag_Bytes [.agg (circC i A o)] AHeap.none = some (v, h') ∧ freezeV h' 8 v = some (.slice (lstU (aagTx i A o))) := by
    obtain ⟨hi, hA, ho, hxA, hxo⟩ := hc
    have s1 := ((Sep0.start AHeap.none).push 1 3 (cs := circC i A o) rfl).newBld
    have cc : (AHeap.pushT (AHeap.none.push 1 (circC i A o)) (BT, 2) 1 [(.ptr Pt.nil), (.slice Sl.nil)]).cellsAt 3 (.mk ⟨AHeap.none.next, 0, 0⟩ 3) = some (circC i A o) := s1.getAll (i := 1) rfl rfl
    rw [e_aag_Bytes, show List.all (circC i A o) AVal.isCell = true from rfl, cond_true, show (circC i A o).length = 3 from rfl, cc, Option.bind_some, show (⟨#[97, 97, 103]⟩ : ByteArray) = tx [97, 97, 103] from rfl, ahead_run fuel d (by omega) hi hA ho [97, 97, 103] (by simp)]
    simp only [Option.bind_some, str_str]
    have hl := lineB_len (l := headL i A o) (fun x hx => by simp [headL] at hx; rcases hx with rfl | rfl | rfl | rfl | rfl <;> exact in64 (by omega) (by omega))
    simp only [show (headL i A o).length = 5 from rfl] at hl
    have hB0 : BldCh (AHeap.none.push 1 (circC i A o)).next (bytesC []) [.exact (AHeap.none.push 1 (circC i A o)).next (bObj .nil .nil)] := .fresh (.inl rfl)
    generalize AHeap.pushT (AHeap.none.push 1 (circC i A o)) (BT, 2) 1 [(.ptr Pt.nil), (.slice Sl.nil)] = H at s1
    generalize (AHeap.none.push 1 (circC i A o)).next = b at s1 hB0
    generalize AHeap.none.next = C at s1
    obtain ⟨h2, B2, e2, q2, s2⟩ := WS_run fuel (d + 6) hB0 s1 ([97, 97, 103] ++ 32 :: lineB (headL i A o)) (by simp; omega)
    have hj2 : ∀ B : List Chunk, (B ++ [Chunk.own 1 C 0 3 (circC i A o)])[B.length]? = some (.own 1 C 0 3 (circC i A o)) := fun B => List.getElem?_concat_length
    have c2 : h2.cell (.mk ⟨C, 0, 0 + 0⟩ 3) = some (.int .i64 (i : Int)) := s2.part (hj2 B2) (by omega) rfl
    rw [e2]
    simp only [Option.bind_some, tup2, cond_true, comp0, comp1, int_int, field_mk, c2]
    rw [bif_neg (show ¬ (i : Int) < 0 by omega)]
    obtain ⟨h3, B3, e3, q3, s3⟩ := abytes0 fuel d (by omega) (C := C) hi fuel 0 _ h2 B2 (by omega) (by omega) (by simp; omega) q2 s2
    have c3 : h3.cell (.mk ⟨C, 0, 0 + 2⟩ 3) = some (.slice (lstI o)) := s3.part (hj2 B3) (by omega) rfl
    rw [show ((0 : Nat) : Int) = 0 from rfl] at e3
    rw [e3]
    simp only [Option.bind_some, k_aag_Bytes_0_x0, field_mk, c3, slice_slice]
    have hT : ∀ n k, k + n ≤ 10000 → (insTx k n).length ≤ 30 * n := by
      intro n
      induction n with
      | zero => intro k _; simp [insTx]
      | succ n ih =>
        intro k hk
        have h1 := ih (k + 1) (by omega)
        have h2 := lineB_len (l := [2 * ((k : Int) + 1)]) (fun x hx => by rw [List.mem_singleton.1 hx]; exact in64 (by omega) (by omega))
        simp only [insTx, List.length_append, List.length_cons, List.length_nil] at h2 ⊢
        omega
    have hT0 := hT (i - 0) 0 (by omega)
    obtain ⟨h4, B4, e4, q4, s4⟩ := abytes1 fuel d (by omega) (C := C) ho hxo fuel 0 _ h3 B3 (by omega) (by omega) (by simp at hT0 ⊢; omega) q3 s3
    have c4 : h4.cell (.mk ⟨C, 0, 0 + 1⟩ 3) = some (.slice (lstP A)) := s4.part (hj2 B4) (by omega) rfl
    rw [show ((0 : Nat) : Int) = 0 from rfl] at e4
    rw [len_lst, e4]
    simp only [Option.bind_some, k_aag_Bytes_1_x2, field_mk, c4, slice_slice]
    have hT1 : ∀ l : List Int, (∀ x ∈ l, In64 x) → (outsTx l).length ≤ 30 * l.length := by
      intro l
      induction l with
      | nil => intro _; simp [outsTx]
      | cons x l ih =>
        intro hx
        have h1 := ih fun y hy => hx y (List.mem_cons_of_mem _ hy)
        have h2 := lineB_len (l := [x]) (fun y hy => by rw [List.mem_singleton.1 hy]; exact hx x List.mem_cons_self)
        simp only [outsTx, List.flatMap_cons, List.length_append, List.length_cons, List.length_nil] at h1 h2 ⊢
        omega
    have hT2 := hT1 o hxo
    obtain ⟨h5, B5, e5, q5, s5⟩ := abytes2 fuel d (by omega) (C := C) (o := o) hi hA hxA (r := 0) rfl fuel 0 _ h4 B4 (by omega) (by omega) (by simp at hT0 hT2 ⊢; omega) q4 s4
    rw [show ((0 : Nat) : Int) = 0 from rfl] at e5
    rw [len_lst, e5]
    simp only [Option.bind_some, k_aag_Bytes_2_x4]
    have ht : [] ++ ([97, 97, 103] ++ 32 :: lineB (headL i A o)) ++ insTx 0 (i - 0) ++ outsTx (o.drop 0) ++ andsTx i 0 (A.drop 0) = aagTx i A o := by simp [aagTx]
    rw [ht] at q5
    have hT3 : ∀ (l : List (Int × Int)) (k : Nat), k + l.length ≤ 10000 → (∀ p ∈ l, In64 p.1 ∧ In64 p.2) → (andsTx i k l).length ≤ 70 * l.length := by
      intro l
      induction l with
      | nil => intro k _ _; simp [andsTx]
      | cons p l ih =>
        intro k hk hx
        simp only [List.length_cons] at hk
        have h1 := ih (k + 1) (by omega) fun y hy => hx y (List.mem_cons_of_mem _ hy)
        have hxk := hx p List.mem_cons_self
        have h2 := lineB_len (l := [2 * ((i : Int) + k + 1), p.1, p.2]) (fun y hy => by simp at hy; rcases hy with rfl | rfl | rfl <;> first | exact hxk.1 | exact hxk.2 | exact in64 (by omega) (by omega))
        simp only [andsTx, List.length_append, List.length_cons, List.length_nil] at h2 ⊢
        omega
    have hT4 := hT3 A 0 (by omega) hxA
    have hlen : (aagTx i A o).length ≤ 10000000 := by
      simp only [aagTx, List.length_append, List.length_cons, List.length_nil]
      simp at hT0
      omega
    obtain ⟨h6, e6, s6⟩ := BString_run fuel (d + 7) (s := tx (aagTx i A o)) (by rw [bytesOf_tx]; exact q5) s5 (by rw [tx_size]; omega)
    rw [e6]
    simp only [Option.bind_some, str_str]
    have s7 := s6.push 1 (aagTx i A o).length (cs := bytesOf (tx (aagTx i A o))) (by rw [bytesOf_tx]; simp)
    refine ⟨_, _, rfl, ?_⟩
    have hne : (aagTx i A o).length ≠ 0 := by simp [aagTx]
    have s8 := (s7.toGrown false hne)
    have hg := s8.sep.grown (i := 1) rfl
    have hz : (tx (aagTx i A o)).size = (aagTx i A o).length := tx_size _
    rw [bytesOf_tx] at hg
    rw [bytesOf_tx, hz, hg.freeze (n := 7) (by simp [hne]) (mapM_freeze (g := fun b : UInt8 => AVal.int .u8 (b.toNat : Int)) (fun _ => rfl) _)]
    rfl
theorem abytes_run (fuel d : Nat) (hf : 20000 < fuel) {i : Nat} {A : List (Int × Int)} {o : List Int} (hc : CiOk i A o) (h : AHeap) : run fuel (d + 8) F_aag_Bytes [.agg (circC i A o)] h = some (.slice (lstU (aagTx i A o)), h) := by
  obtain ⟨v, h', e1, e2⟩ := abytes_body fuel d hf hc
  exact pure_of rfl rfl (cc1 (canon_circ _ _ _)) e1 e2
theorem canon_circ0 (i : Int) : canonV 8 (.agg [.int .i64 i, .slice .nil, .slice .nil]) = some (.agg (circC i [] [])) := rfl
theorem abytes_nil (fuel d : Nat) (hf : 20000 < fuel) (h : AHeap) : run fuel (d + 8) F_aag_Bytes [.agg [.int .i64 0, .slice .nil, .slice .nil]] h = some (.slice (lstU (aagTx 0 [] [])), h) := by
  obtain ⟨v, h', e1, e2⟩ := abytes_body fuel d hf (i := 0) (A := []) (o := []) ⟨by omega, by simp, by simp, by simp, by simp⟩
  exact pure_of rfl rfl (cc1 (canon_circ0 0)) e1 e2
end Go.Proofs.YtmjbjgbcpaagmaaDoor

namespace Go.Proofs.YtmjbjgbcpaagmaaDoor
open Go.RowKit

theorem readC_nil : readC [] = .error (101, 0) := rfl
theorem aagTx_nil : aagTx 0 [] [] = [97, 97, 103, 32, 48, 32, 48, 32, 48, 32, 48, 32, 48, 10] := by decide
theorem first11_run (fuel : Nat) {e : Nat} (he : 12 ≤ e) (hf : 20000 < fuel) (h : AHeap) : run fuel e F_skolemlaw11_first [] h = some (.bool true, h) := by
  obtain ⟨d, rfl⟩ : ∃ d, e = d + 12 := ⟨e - 12, by omega⟩
  refine pure_ex rfl rfl canonL_nil (r := .bool true) ?_ (fun _ => rfl)
  rw [e_skolemlaw11_first, aread_nil fuel (d + 2) hf, readC_nil, show ciA (.error (101, 0)) = .tup [.agg (circC 0 [] []), atV 0 err_api_ErrText] from rfl]
  simp only [Option.bind_some, tup2, cond_true, comp0, comp1, agg_agg]
  rw [cond_pos _ _ (okCi 0 [] [])]
  have s1 := ((Sep0.start AHeap.none).push 1 3 (cs := zero3) rfl).cons
  obtain ⟨h5, e5, _⟩ := ret_put s1 rfl (vs := circC 0 [] []) rfl
  rw [e5]
  simp only [Option.bind_some]
  rw [Placed_run fuel (d + 10) (show (101 : Int) ≠ 0 by omega)]
  simp only [Option.bind_some, agg_agg]
  rw [Same_run fuel (d + 7) (e := atV 0 err_api_ErrText) (c := 101) (p := true) (x := 0) (IsFault.at (j := 0) (by omega) 0) (by omega) 101 true 0]
  simp only [Option.bind_some, bool_bool, decide_true, Bool.true_and, beq_self_eq_true, cond_true]
  rw [abytes_nil fuel (d + 3) hf]
  simp only [Option.bind_some, slice_slice]
  rw [cells_lstM, Option.bind_some, bytesFrom_bytesC, Option.bind_some, aagTx_nil]
  exact ⟨_, rfl⟩
end Go.Proofs.YtmjbjgbcpaagmaaDoor

namespace Go.Proofs.YtmjbjgbcpaagmaaDoor
open Go.RowKit

theorem keep0S {h h' : AHeap} (hk : Keeps h h' fun _ => False) {s : Sl} {sz : Nat} {cs : List AVal} (hs : h.sliceCells sz s = some cs) : h'.sliceCells sz s = some cs := sliceCells_keep hk hs fun _ _ _ h => h
theorem takeU {b : List UInt8} {m : Nat} (h : m < b.length) : b.take (m + 1) = b.take m ++ [b.getD m 0] := by
  rw [List.take_succ_eq_append_getElem h, List.getD_eq_getElem?_getD, List.getElem?_eq_getElem h, Option.getD_some]
theorem readU8 {h : AHeap} {t : Sl} {a : List UInt8} (hs : h.sliceCells 1 t = some (bytesC a)) {k : Nat} (hk : k < a.length) : h.addr 1 t (k : Int) = some (t.at 1 (k : Int)) ∧ h.cell (t.at 1 (k : Int)) = some (.int .u8 ((a.getD k 0).toNat : Int)) := by
  have hl := sliceCells_len hs
  simp only [List.length_map, Nat.mul_one] at hl
  refine ⟨addr_at hs (by omega) (by omega), cell_at hs (by omega) ?_⟩
  rw [Int.toNat_natCast, List.getElem?_map, List.getElem?_eq_getElem hk, List.getD_eq_getElem?_getD, List.getElem?_eq_getElem hk]; rfl
theorem byr_loop (fuel d : Nat) {a : List UInt8} {t : Sl} (hn : a.length < 1000000000) (ht : t.len = a.length) {h0 : AHeap} (hs0 : h0.sliceCells 1 t = some (bytesC a)) : ∀ (n k : Nat) (s : Sl) (h : AHeap), a.length < n + k → k ≤ a.length → Sep0 h0 h [.grown 1 s (bytesC (a.take k))] →
    ∃ s' h', l_skolemref_Bytes_0 fuel d n [(0, .slice t), (3, .slice s), (4, .int .i64 (k : Int))] h = some (.exit 0, [(3, .slice s')], h') ∧ Sep0 h0 h' [.grown 1 s' (bytesC a)] := by
  intro n
  induction n with
  | zero => intro k s h h1 h2; omega
  | succ n ih =>
    intro k s h h1 h2 hg
    have hl := hg.len (i := 0) rfl
    simp only [List.length_map, List.length_take, Nat.mul_one] at hl
    rw [l_skolemref_Bytes_0_eq, ht]
    by_cases hk : k < a.length
    · have hr := readU8 (keep0S hg.ext hs0) hk
      rw [bif_pos (by omega), hr.1, Option.bind_some, hr.2]
      simp only [Option.bind_some, int_int]
      obtain ⟨s', h', e1, e2, e3⟩ := hg.grow (i := 0) (bytes := 1) (m := 1) (vs := [.int .u8 ((a.getD k 0).toNat : Int)]) rfl rfl (by omega) (by omega)
      rw [e1]
      simp only [Option.bind_some]
      rw [sucU (by omega)]
      refine ih (k + 1) s' h' (by omega) (by omega) ?_
      rw [takeU hk]
      simpa using e2
    · have : k = a.length := by omega
      subst this
      rw [bif_neg (by omega)]
      rw [List.take_length] at hg
      exact ⟨s, h, rfl, hg⟩
theorem byr_run (fuel d : Nat) {a : List UInt8} {t : Sl} {h : AHeap} (hs : h.sliceCells 1 t = some (bytesC a)) (hn : a.length < 1000000000) (hf : a.length < fuel) :
    ∃ s' h', run fuel (d + 1) F_skolemref_Bytes [.slice t] h = some (.slice s', h') ∧ New h h' (.grown 1 s' (bytesC a)) := by
  have ht : t.len = a.length := by have := sliceCells_len hs; simp at this; omega
  have s0 := (Sep0.start h).addMake 1 (eqI (0 : Int) ((a.length : Nat) : Int))
  obtain ⟨s', h', e1, e2⟩ := byr_loop fuel d hn ht hs fuel 0 _ _ (by omega) (by omega) s0
  refine ⟨s', h', ?_, e2.get (i := 0) rfl⟩
  rw [e_skolemref_Bytes, ht, cond_pos _ _ (by simp; omega)]
  rw [show ((0 : Nat) : Int) = 0 from rfl] at e1
  rw [e1]
  simp only [Option.bind_some, k_skolemref_Bytes_0_x0]
end Go.Proofs.YtmjbjgbcpaagmaaDoor

namespace Go.Proofs.YtmjbjgbcpaagmaaDoor
open Go.RowKit

theorem sameU_loop (fuel d : Nat) {b : List UInt8} (hn : b.length < 1000000000) {h : AHeap} : ∀ (n k : Nat), b.length < n + k → k ≤ b.length →
    l_skolemref_SameBytes_0 fuel d n [(0, .slice (lstU b)), (1, .slice (lstU b)), (5, .int .i64 (k : Int))] h = some (.exit 0, [(4, .bot)], h) := by
  intro n
  induction n with
  | zero => intro k h1 h2; omega
  | succ n ih =>
    intro k h1 h2
    rw [l_skolemref_SameBytes_0_eq, len_lst]
    by_cases hk : k < b.length
    · rw [bif_pos (by omega), addr_lstM _ (by omega) (by omega) 0]
      simp only [Option.bind_some, cell_fp, int_int, decide_true, Bool.not_true, cond_false]
      rw [sucS (by omega)]
      exact ih (k + 1) (by omega) (by omega)
    · rw [bif_neg (by omega)]
theorem sameU_run (fuel d : Nat) {b : List UInt8} (hn : b.length < 1000000000) (hf : b.length < fuel) (h : AHeap) : run fuel (d + 1) F_skolemref_SameBytes [.slice (lstU b), .slice (lstU b)] h = some (.bool true, h) := by
  refine pure_of rfl rfl (cc2 (canon_lstU 7 b) (canon_lstU 7 b)) (r := .bool true) (h' := AHeap.none) ?_ rfl
  rw [e_skolemref_SameBytes, len_lst, bif_npos rfl]
  have := sameU_loop fuel d hn (h := AHeap.none) fuel 0 (by omega) (by omega)
  rw [show ((0 : Nat) : Int) = 0 from rfl] at this
  rw [this]
  simp only [Option.bind_some, k_skolemref_SameBytes_0_x0]
end Go.Proofs.YtmjbjgbcpaagmaaDoor

namespace Go.Proofs.YtmjbjgbcpaagmaaDoor
open Go.RowKit

structure Still (h h' : AHeap) : Prop where
  at_ : ∀ (n : Nat) (p : Pt) (cs : List AVal), h.cellsAt n p = some cs → h'.cellsAt n p = some cs
  cell : ∀ (p : Pt) (v : AVal), h.cell p = some v → h'.cell p = some v
  cells : ∀ (sz : Nat) (s : Sl) (cs : List AVal), h.sliceCells sz s = some cs → h'.sliceCells sz s = some cs
theorem Still.refl (h : AHeap) : Still h h := ⟨fun _ _ _ h => h, fun _ _ h => h, fun _ _ _ h => h⟩
theorem Still.trans {a b c : AHeap} (h : Still a b) (k : Still b c) : Still a c := ⟨fun n p cs q => k.1 n p cs (h.1 n p cs q), fun p v q => k.2 p v (h.2 p v q), fun sz s cs q => k.3 sz s cs (h.3 sz s cs q)⟩
theorem Still.ext {h h' : AHeap} (hk : Keeps h h' fun _ => False) : Still h h' :=
  ⟨fun n p cs q => by
    cases p with
    | nil => exact q
    | fp => exact q
    | mk r l => exact cellsAt_keep hk (fun h => h) q,
   fun p v q => by
    cases p with
    | nil => exact q
    | fp => exact q
    | mk r l => exact cell_keep hk (fun h => h) q,
   fun sz s cs q => sliceCells_ext hk q⟩
theorem Still.mark (h : AHeap) (ids : List Nat) : Still h (h.markRo ids) := ⟨fun n p cs q => by rw [cellsAt_mark]; exact q, fun p v q => by rw [cell_mark]; exact q, fun sz s cs q => by rw [sliceCells_mark]; exact q⟩
theorem Sep0.still {h0 h : AHeap} {L : List Chunk} (hs : Sep0 h0 h L) : Still h0 h := Still.ext hs.ext
end Go.Proofs.YtmjbjgbcpaagmaaDoor

namespace Go.Proofs.YtmjbjgbcpaagmaaDoor
open Go.RowKit

theorem ciR_lens {i : Nat} {A : List (Int × Int)} {O : List Int} (h : CiR i A O) : A.length ≤ 8000 ∧ O.length ≤ 8000 := ⟨by have := h.hn; omega, h.hO⟩
theorem aagBack_run (F d : Nat) (hF : 2 ^ 21 ≤ F) (i : Int) (l o : List Int) (t : List UInt8) (h : AHeap) : ∃ h', run F (d + 60) F_skolemlaw11_AagBack [.int .i64 i, .slice (lstI l), .slice (lstI o), .slice (lstU t)] h = some (.bool true, h') := by
  rw [e_skolemlaw11_AagBack, first11_run F (by omega) (by omega)]
  simp only [Option.bind_some, bool_bool, Bool.not_true, cond_false]
  rw [len_lst, len_lst, len_lst]
  by_cases hg : (120 < l.length ∨ 30 < o.length) ∨ 40 < t.length ∨ i < 0 ∨ 40 < i
  · rw [cond_pos _ _ (by
      rcases hg with (hg | hg) | hg | hg | hg
      · rw [decide_eq_true (show (120 : Int) < (l.length : Int) by omega)]; simp
      · rw [decide_eq_true (show (30 : Int) < (o.length : Int) by omega)]; simp
      · rw [decide_eq_true (show (40 : Int) < (t.length : Int) by omega)]; simp
      · rw [decide_eq_true hg]; simp
      · rw [decide_eq_true hg]; simp)]
    exact ⟨h, rfl⟩
  rw [cond_neg _ _ (by
    rw [decide_eq_false (show ¬ (120 : Int) < (l.length : Int) by omega), decide_eq_false (show ¬ (30 : Int) < (o.length : Int) by omega), decide_eq_false (show ¬ (40 : Int) < (t.length : Int) by omega), decide_eq_false (show ¬ i < 0 by omega), decide_eq_false (show ¬ 40 < i by omega)]
    rfl)]
  obtain ⟨I, rfl⟩ := Int.eq_ofNat_of_zero_le (show 0 ≤ i by omega)
  have hR := mk_right (i := I) (l := l) (o := o) (by omega) (by omega)
  rw [mkc_run F (d + 57) (by omega) (by omega) (by omega) (by omega) (canon_lstI 7 l) (canon_lstI 7 o)]
  generalize mkO ((I : Int) + (mkAnds I l).length) o = O at hR
  generalize mkAnds (I : Int) l = A at hR
  obtain ⟨hA8, hO8⟩ := ciR_lens hR
  have hn := hR.hn
  have hlen := aagTx_len hR.ok
  have hback := readC_back hR
  have htail := readC_tail hR t
  have hne : 4 ≤ (aagTx I A O).length := by simp [aagTx]
  simp only [Option.bind_some, agg_agg]
  rw [cond_pos _ _ (okCi I A O)]
  have s1 := (Sep0.start h).push 1 3 (cs := zero3) rfl
  obtain ⟨h5, e5, s5⟩ := s1.putAll (i := 0) (vs := circC I A O) rfl rfl rfl
  have c5 : h5.cellsAt 3 (.mk ⟨h.next, 0, 0⟩ 3) = some (circC I A O) := s5.getAll (i := 0) rfl rfl
  rw [e5, Option.bind_some, c5, Option.bind_some, abytes_run F (d + 51) (by omega) hR.ok]
  generalize hT : aagTx I A O = T at hlen hback htail hne
  simp only [Option.bind_some, slice_slice]
  rw [aread_run F (d + 50) (by omega) (by omega), hback]
  simp only [ciA, Option.bind_some, tup2, cond_true, comp0, comp1, agg_agg]
  rw [cond_pos _ _ (okCi I A O)]
  have s9 := s5.push 1 3 (cs := zero3) rfl
  obtain ⟨h13, e13, s13⟩ := s9.putAll (i := 1) (vs := circC I A O) rfl rfl rfl
  rw [e13, Option.bind_some]
  obtain ⟨s15, h14, e14, n14⟩ := byr_run F (d + 58) (a := T) (t := lstU T) (h := h13) (cells_lstM _ T false) (by omega) (by omega)
  rw [e14]
  simp only [Option.bind_some, slice_slice]
  have s14 := s13.add n14
  obtain ⟨s16, h16, e16, s16', _⟩ := s14.grow (i := 2) (bytes := 1) (m := 2) (vs := bytesC [99, 10]) rfl rfl (by
    have := s14.len (i := 2) rfl
    simp only [List.length_map, Nat.mul_one] at this
    omega) (by
    have := s14.len (i := 2) rfl
    simp only [List.length_map, Nat.mul_one] at this
    omega)
  rw [show ByteArray.size (⟨#[99, 10]⟩ : ByteArray) = 2 from rfl, show bytesOf (⟨#[99, 10]⟩ : ByteArray) = bytesC [99, 10] from rfl, e16]
  simp only [Option.bind_some]
  rw [cells_lstM, Option.bind_some]
  have hl16 := s16'.len (i := 2) rfl
  simp only [List.length_append, List.length_map, List.length_cons, List.length_nil, Nat.mul_one] at hl16
  obtain ⟨s18, h18, e18, s18'⟩ : ∃ s18 h18, AHeap.append h16 false 1 1 s16 t.length (bytesC t) = some (s18, h18) ∧ Sep0 h h18 [.own 1 h.next 0 3 (circC I A O), .own 1 h5.next 0 3 (circC I A O), .grown 1 s18 (bytesC (T ++ 99 :: 10 :: t))] := by
    obtain ⟨s18, h18, e18, s18', _⟩ := s16'.grow (i := 2) (bytes := 1) (m := t.length) (vs := bytesC t) rfl (by simp) (by omega) (by omega)
    refine ⟨s18, h18, e18, ?_⟩
    have : bytesC T ++ bytesC [99, 10] ++ bytesC t = bytesC (T ++ 99 :: 10 :: t) := by simp
    rw [← this]
    exact s18'
  rw [e18]
  simp only [Option.bind_some]
  obtain ⟨ids, e19⟩ := aread_any F (d + 50) (b := T ++ 99 :: 10 :: t) (by simp; omega) (by simp; omega) (h := h18) (s := s18) ((s18'.sep.grown (i := 2) rfl).freezeU 6)
  rw [e19, htail]
  simp only [ciA, Option.bind_some, tup2, cond_true, comp0, comp1, agg_agg]
  rw [cond_pos _ _ (okCi I A O)]
  have k1 : h18.cellsAt 3 (.mk ⟨h.next, 0, 0⟩ 3) = some (circC I A O) := s18'.getAll (i := 0) rfl rfl
  have k2 : h18.cellsAt 3 (.mk ⟨h5.next, 0, 0⟩ 3) = some (circC I A O) := s18'.getAll (i := 1) rfl rfl
  have sB := (Sep0.start (h18.markRo ids)).push 1 3 (cs := zero3) rfl
  obtain ⟨h23, e23, s23⟩ := sB.putAll (i := 0) (vs := circC I A O) rfl rfl rfl
  have st : Still h18 h23 := (Still.mark h18 ids).trans s23.still
  have k3 : h23.cellsAt 3 (.mk ⟨(h18.markRo ids).next, 0, 0⟩ 3) = some (circC I A O) := s23.getAll (i := 0) rfl rfl
  have k1' := st.at_ _ _ _ k1
  have k2' := st.at_ _ _ _ k2
  rw [e23]
  simp only [Option.bind_some, beq_self_eq_true, cond_true, k1', agg_agg]
  have hb := rbytes_run F (d + 52) (by omega) hR.ok h23
  rw [hT] at hb
  rw [hb]
  simp only [Option.bind_some, slice_slice]
  rw [sameU_run F (d + 58) (by omega) (by omega)]
  simp only [Option.bind_some, bool_bool, beq_self_eq_true, cond_true, nilTest_nilif, k1', k2', k3]
  rw [sameCi_self F (d + 57) (by omega) (by omega) (by omega) (by omega)]
  simp only [Option.bind_some, bool_bool, beq_self_eq_true, cond_true, k1', k2', k3]
  rw [sameCi_self F (d + 57) (by omega) (by omega) (by omega) (by omega)]
  exact ⟨_, rfl⟩
end Go.Proofs.YtmjbjgbcpaagmaaDoor
