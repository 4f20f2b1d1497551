/-
  Parts of the proof of AigForms: aag's reader: the body whole. aag's reader: the head; aag.Read. aag.Read. aag.Read. Faults in memory. The document's numbers. skolemref1.Split. Parts of slices that grow; what is marked; what was there before an append. The document's reader of circuits' texts: count, text, limits. The document's reader of circuits' texts: its loops. The document's reader of circuits' texts: its other loops. skolemref8.ReadAag. skolemref.SameInts. Circuits held against circuits; what the readers tell. The words of a text, from its front on. The words of a text without comments, from its front on; lines of numbers are read. Circuits in few bytes: what is read, what is written (no program in sight). Numbers in bytes: aig.number, skolemref8.small. aag.Bytes. slices.Concat of bytes; aig.Bytes. A number is put behind bytes. Numbers as text: AppendInt, Itoa. skolemref8.numbers, AagBytes. skolemref8.AagBytes. aig.Bytes whole; skolemref8.AigBytes. The lines of a text: word.Line. What is there still, behind calls. aig's reader: line, number. aig's reader: gates, head.
-/
import Derived.Test.YtmjbjgbcpaagmaaDoorTAigForms1
import Derived.Test.YtmjbjgbcpaagmaaDoorBm31
import Derived.Test.YtmjbjgbcpaagmaaDoorE
namespace Go.Proofs.YtmjbjgbcpaagmaaDoor
open Go.RowKit

section
variable (fuel d : Nat) {h0 : AHeap} {j r : Nat} {W : List Wd} {e : Int}
theorem abody_run (hf : 20000 < fuel) {L : List Chunk} {h : AHeap} {k : Nat} {m i l o a : Int} {nn : List Int} (hnn : nn = [0, m, i, l, o, a]) (hm : 0 ≤ m ∧ m ≤ 16000) (hi : 0 ≤ i ∧ i ≤ 8000) (ho : 0 ≤ o ∧ o ≤ 8000) (ha : 0 ≤ a ∧ a ≤ 8000) (hW : W.length < 700000000) (hk9 : k < 700000000) (hne : ∀ w ∈ W, w.text ≠ []) (hs : Sep0 h0 h L) (hj : L[j]? = some (rdCh r W k e)) :
    match bodyT e m i o a (W.drop k) with
    | .error p => ∃ h' k', run fuel (d + 8) F_aag_reader_body [.ptr (rdP r), .agg (intsC nn)] h = some (.tup [.agg zero3, atV p err_api_ErrText], h') ∧ Sep0 h0 h' (L.set j (rdCh r W k' e))
    | .ok (i', A, O) => i' = i ∧ ∃ h' sA sO k', run fuel (d + 8) F_aag_reader_body [.ptr (rdP r), .agg (intsC nn)] h = some (.tup [.agg [.int .i64 i, .slice sA, .slice sO], .nilif], h') ∧ Sep0 h0 h' (.grown 1 sO (intsC O) :: .grown 2 sA (pairsC A) :: L.set j (rdCh r W k' e)) := by
  have s1 := (((hs.push 1 6 (cs := intsC nn) (by rw [hnn]; rfl)).cons.push 1 3 (cs := zero3) rfl).cons.push 1 3 (cs := zero3) rfl).cons
  have hlen : (intsC nn).length = 6 := by rw [hnn]; rfl
  have c1 : (AHeap.push (AHeap.push h 1 (intsC nn)) 1 zero3).cell (.mk ⟨h.next, 0, 2⟩ 6) = some (.int .i64 i) := by
    have s9 := ((hs.push 1 6 (cs := intsC nn) (by rw [hnn]; rfl)).cons.push 1 3 (cs := zero3) rfl).cons
    exact s9.part (i := 1) rfl (by omega) (by rw [hnn]; rfl)
  rw [e_aag_reader_body, hlen, show List.all (intsC nn) AVal.isCell = true by rw [hnn]; rfl, cond_true, show Pt.elem 1 6 (2 : Int) (.mk ⟨h.next, 0, 0⟩ 6) = some (.mk ⟨h.next, 0, 2⟩ 6) from rfl, Option.bind_some, c1, Option.bind_some, int_int, Option.bind_some]
  obtain ⟨h4, e4, _, s4⟩ := ret_put s1 rfl (vs := [.int .i64 i, .slice .nil, .slice .nil]) rfl
  rw [e4, Option.bind_some]
  generalize hN : h.next = N at s4
  generalize hZ : (AHeap.push h 1 (intsC nn)).next = Z at s4
  generalize hY : (AHeap.push (AHeap.push h 1 (intsC nn)) 1 zero3).next = Y at s4
  have s5 : Sep0 h0 h4 (bodyL i Y Z N nn .nil .nil [] [] L) := ((s4.addNil 2).cons.addNil 1).cons
  have g2 : nn[2]? = some i := by rw [hnn]; rfl
  have c2 : h4.cell (.mk ⟨N, 0, 2⟩ 6) = some (.int .i64 i) := nn_cell s5 (by omega) g2
  rw [Option.bind_some, c2, Option.bind_some, int_int, Option.bind_some]
  obtain ⟨I, rfl⟩ := Int.eq_ofNat_of_zero_le hi.1
  obtain ⟨O, rfl⟩ := Int.eq_ofNat_of_zero_le ho.1
  obtain ⟨A, rfl⟩ := Int.eq_ofNat_of_zero_le ha.1
  have b0 := abody0 fuel d (h0 := h0) (r := r) (W := W) (e := e) (by omega) (I := I) (by omega) fuel 0 k L h4 (by omega) (by omega) (by omega) s5 hj
  unfold bodyT
  rw [Int.toNat_natCast, Int.toNat_natCast, Int.toNat_natCast]
  rw [show ((0 : Nat) : Int) = 0 from rfl, Nat.sub_zero] at b0
  cases q0 : insT e 0 I (W.drop k) with
  | error p =>
    rw [q0] at b0
    obtain ⟨h', k', e5, e6, s6⟩ := b0
    refine ⟨h', k', ?_, s6⟩
    rw [e5, Option.bind_some, k_aag_reader_body_0_r, e6]
    rfl
  | ok W1 =>
    rw [q0] at b0
    obtain ⟨h5, e5, s6, rfl⟩ := b0
    rw [e5, Option.bind_some, k_aag_reader_body_0_x0]
    have g4 : nn[4]? = some (O : Int) := by rw [hnn]; rfl
    have g1 : nn[1]? = some m := by rw [hnn]; rfl
    have c4 : h5.cell (.mk ⟨N, 0, 4⟩ 6) = some (.int .i64 (O : Int)) := nn_cell s6 (by omega) g4
    rw [show Pt.elem 1 6 (4 : Int) (.mk ⟨N, 0, 0⟩ 6) = some (.mk ⟨N, 0, 4⟩ 6) from rfl, Option.bind_some, c4, Option.bind_some, int_int, Option.bind_some]
    have b1 := abody1 fuel d (h0 := h0) (r := r) (W := W) (e := e) (by omega) (I := O) (by omega) g1 (by omega) (by omega) fuel 0 (k + I) [] .nil (L.set j (rdCh r W (k + I) e)) h5 (by omega) (by omega) (by omega) rfl s6 (get_set hj _)
    rw [show ((0 : Nat) : Int) = 0 from rfl, Nat.sub_zero] at b1
    simp only
    cases q1 : outsT e m O (W.drop (k + I)) [] with
    | error p =>
      rw [q1] at b1
      obtain ⟨h', k', e7, e8, s8⟩ := b1
      rw [List.set_set] at s8
      refine ⟨h', k', ?_, s8⟩
      rw [e7, Option.bind_some, k_aag_reader_body_1_r, e8]
      rfl
    | ok OW =>
      obtain ⟨Ol, W2⟩ := OW
      rw [q1] at b1
      obtain ⟨h6, sO, e7, s8, rfl⟩ := b1
      rw [List.set_set] at s8
      rw [e7, Option.bind_some, k_aag_reader_body_1_x2]
      have g5 : nn[5]? = some (A : Int) := by rw [hnn]; rfl
      have c5 : h6.cell (.mk ⟨N, 0, 5⟩ 6) = some (.int .i64 (A : Int)) := nn_cell s8 (by omega) g5
      rw [show Pt.elem 1 6 (5 : Int) (.mk ⟨N, 0, 0⟩ 6) = some (.mk ⟨N, 0, 5⟩ 6) from rfl, Option.bind_some, c5, Option.bind_some, int_int, Option.bind_some]
      have b2 := abody2 fuel d (h0 := h0) (r := r) (W := W) (e := e) (by omega) (I := A) (by omega) g2 (by omega) (by omega) fuel 0 (k + I + O) [] .nil (L.set j (rdCh r W (k + I + O) e)) h6 (by omega) (by omega) (by omega) rfl s8 (get_set hj _)
      rw [show ((0 : Nat) : Int) = 0 from rfl, Nat.sub_zero] at b2
      simp only
      cases q2 : andsT e I 0 A (W.drop (k + I + O)) [] with
      | error p =>
        rw [q2] at b2
        obtain ⟨h', k', e9, e10, s10⟩ := b2
        rw [List.set_set] at s10
        refine ⟨h', k', ?_, s10⟩
        rw [e9, Option.bind_some, k_aag_reader_body_2_r, e10]
        rfl
      | ok AW =>
        obtain ⟨Al, W3⟩ := AW
        rw [q2] at b2
        obtain ⟨h7, sA, e9, s10, rfl⟩ := b2
        rw [List.set_set] at s10
        rw [e9, Option.bind_some, k_aag_reader_body_2_x4]
        simp only
        generalize hK : k + I + O + 3 * A = K at s10
        have hK9 : K < 800000000 := by omega
        have hj5 : (bodyL I Y Z N nn sO sA Ol Al (L.set j (rdCh r W K e)))[j + 5]? = some (rdCh r W K e) := get_set hj _
        have fin : ∀ (x : Bool), ∃ h', (match (if x = true then some (posW e (W.drop K)) else none) with
            | some p => ∃ k', k_aag_reader_body_3 fuel (d + 7) .normal [(0, .ptr (rdP r)), (4, .ptr (rdP Z)), (6, .ptr (rdP Y)), (128, .bool x)] h7 = some (.tup [.agg zero3, atV p err_api_ErrText], h') ∧ Sep0 h0 h' (L.set j (rdCh r W k' e))
            | none => ∃ k', k_aag_reader_body_3 fuel (d + 7) .normal [(0, .ptr (rdP r)), (4, .ptr (rdP Z)), (6, .ptr (rdP Y)), (128, .bool x)] h7 = some (.tup [.agg [.int .i64 (I : Int), .slice sA, .slice sO], .nilif], h') ∧ Sep0 h0 h' (.grown 1 sO (intsC Ol) :: .grown 2 sA (pairsC Al) :: L.set j (rdCh r W k' e)) : Prop) := by
          intro x
          cases x with
          | true =>
            obtain ⟨h', e11, e12, s12⟩ := abody_err (L := L.set j (rdCh r W K e)) s10
            refine ⟨h', K, ?_, s12⟩
            rw [k_aag_reader_body_3_n, cond_true, apos_run fuel (d + 6) s10 hj5]
            simp only [Option.bind_some, int_int]
            rw [same_self, aat0 fuel (d + 6)]
            simp only [Option.bind_some]
            rw [e11, Option.bind_some, e12]
            rfl
          | false =>
            have cY : h7.cellsAt 3 (rdP Y) = some [.int .i64 (I : Int), .slice sA, .slice sO] := s10.getAll (i := 2) rfl rfl
            obtain ⟨h', e11, s12⟩ := s10.putAll (i := 3) (vs := [.int .i64 (I : Int), .slice sA, .slice sO]) rfl rfl rfl
            have cZ : h'.cellsAt 3 (rdP Z) = some [.int .i64 (I : Int), .slice sA, .slice sO] := s12.getAll (i := 3) rfl rfl
            refine ⟨h', K, ?_, s12.sub ((List.Sublist.refl _).cons _ |>.cons _ |>.cons _ |>.cons_cons _ |>.cons_cons _)⟩
            rw [k_aag_reader_body_3_n, cond_false, cY, Option.bind_some, show (!false && Nat.beq (List.length [AVal.int .i64 (I : Int), .slice sA, .slice sO]) 3 && List.all [AVal.int .i64 (I : Int), .slice sA, .slice sO] AVal.isCell) = true from rfl, cond_true, e11, Option.bind_some, cZ]
            rfl
        have fin2 : ∀ x : Bool, (if x = true then some (posW e (W.drop K)) else none) = endT (W.drop K) → match (match endT (W.drop K) with | some p => (Except.error p : Except Int Ci) | none => .ok ((I : Int), Al, Ol)) with
            | .error p => ∃ h' k', k_aag_reader_body_3 fuel (d + 7) .normal [(0, .ptr (rdP r)), (4, .ptr (rdP Z)), (6, .ptr (rdP Y)), (128, .bool x)] h7 = some (.tup [.agg zero3, atV p err_api_ErrText], h') ∧ Sep0 h0 h' (L.set j (rdCh r W k' e))
            | .ok (i', A', O') => i' = (I : Int) ∧ ∃ h' sA sO k', k_aag_reader_body_3 fuel (d + 7) .normal [(0, .ptr (rdP r)), (4, .ptr (rdP Z)), (6, .ptr (rdP Y)), (128, .bool x)] h7 = some (.tup [.agg [.int .i64 (I : Int), .slice sA, .slice sO], .nilif], h') ∧ Sep0 h0 h' (.grown 1 sO (intsC O') :: .grown 2 sA (pairsC A') :: L.set j (rdCh r W k' e)) := by
          intro x hx
          obtain ⟨h', hq⟩ := fin x
          rw [hx] at hq
          cases hend : endT (W.drop K) with
          | some p =>
            rw [hend] at hq
            obtain ⟨k', q⟩ := hq
            exact ⟨h', k', q⟩
          | none =>
            rw [hend] at hq
            obtain ⟨k', q⟩ := hq
            exact ⟨rfl, h', sA, sO, k', q⟩
        simp only [chk_mk, field_mk, Option.bind_some, rd_c0 s10 hj5, rd_c1 s10 hj5, int_int, slice_slice]
        rw [len_lst]
        by_cases hk : K < W.length
        · rw [bif_pos (by omega), waddr h7 hk]
          have hmem : W.getD K ⟨[], 0, false⟩ ∈ W := by rw [List.getD_eq_getElem?_getD, List.getElem?_eq_getElem hk]; exact List.getElem_mem hk
          have hdw := drop_wd hk
          generalize W.getD K ⟨[], 0, false⟩ = w at hmem hdw
          simp only [Option.bind_some, wf2, cell_fp, bool_bool]
          have he : endT (W.drop K) = if (!w.first || !(w.text.getD 0 0 == 99)) = true then some (w.pos : Int) else none := by rw [hdw]; rfl
          have hp : posW e (W.drop K) = (w.pos : Int) := by rw [hdw]; rfl
          cases hfi : w.first with
          | false =>
            simp only [Bool.not_false, cond_true, Option.bind_some]
            exact fin2 true (by rw [he, hp, hfi]; rfl)
          | true =>
            have h9 := strAt_mk (l := w.text) (k := 0) (List.length_pos_iff.2 (hne w hmem))
            rw [show ((0 : Nat) : Int) = 0 from rfl] at h9
            simp only [Bool.not_true, cond_false, Option.bind_some, wf0, wc0, str_str]
            rw [h9]
            simp only [Option.bind_some]
            have e99 := u8_dec (w.text.getD 0 0) 99
            rw [show (((99 : UInt8).toNat : Nat) : Int) = 99 from rfl] at e99
            rw [e99]
            exact fin2 _ (by rw [he, hp, hfi]; rfl)
        · rw [bif_neg (by omega)]
          simp only [Option.bind_some]
          exact fin2 false (by rw [List.drop_eq_nil_of_le (by omega)]; rfl)
end
end Go.Proofs.YtmjbjgbcpaagmaaDoor

namespace Go.Proofs.YtmjbjgbcpaagmaaDoor
open Go.RowKit

theorem canon_aggI (nn : List Int) : canonV 8 (.agg (intsC nn)) = some (.agg (intsC nn)) := by
  rw [canon_agg]
  have : ∀ l : List Int, (intsC l).mapM (canonV 7) = some (intsC l) := by
    intro l
    induction l with
    | nil => rfl
    | cons x l ih => exact canonM_cons (u := .int .i64 x) rfl ih
  rw [this]; rfl
def limA : Option (Nat × Int) → AVal
  | none => .tup [.int .i64 0, .nilif]
  | some (k, c) => .tup [.int .i64 (k : Int), errC c]
theorem limT_code {m i l o a c : Int} {k : Nat} (h : limT m i l o a = some (k, c)) : (c = 101 ∨ c = 102) ∧ k < 6 ∧ 0 < k := by
  unfold limT at h
  repeat' split at h
  all_goals (first | (cases h; exact ⟨.inl rfl, by omega, by omega⟩) | (cases h; exact ⟨.inr rfl, by omega, by omega⟩) | cases h)
theorem limits_run (fuel d : Nat) {x m i l o a : Int} (hi : 0 ≤ i ∧ i ≤ 999999999) (ha : 0 ≤ a ∧ a ≤ 999999999) (h : AHeap) : run fuel (d + 1) F_aag_Limits [.agg (intsC [x, m, i, l, o, a])] h = some (limA (limT m i l o a), h) := by
  refine pure_ex rfl rfl (cc1 (canon_aggI _)) (r := limA (limT m i l o a)) ⟨AHeap.none.push 1 (intsC [x, m, i, l, o, a]), ?_⟩ ?_
  · have s1 := (Sep0.start AHeap.none).push 1 6 (cs := intsC [x, m, i, l, o, a]) rfl
    have el : ∀ (q : Int) (p : Nat), q = p → p < 6 → Pt.elem 1 6 q (.mk ⟨AHeap.none.next, 0, 0⟩ 6) = some (.mk ⟨AHeap.none.next, 0, p⟩ 6) := by
      intro q p hq hp
      subst hq
      rcases (show p = 0 ∨ p = 1 ∨ p = 2 ∨ p = 3 ∨ p = 4 ∨ p = 5 by omega) with rfl | rfl | rfl | rfl | rfl | rfl <;> rfl
    have c1 : (AHeap.none.push 1 (intsC [x, m, i, l, o, a])).cell (.mk ⟨AHeap.none.next, 0, 1⟩ 6) = some (.int .i64 m) := s1.part (i := 0) rfl (by omega) rfl
    have c2 : (AHeap.none.push 1 (intsC [x, m, i, l, o, a])).cell (.mk ⟨AHeap.none.next, 0, 2⟩ 6) = some (.int .i64 i) := s1.part (i := 0) rfl (by omega) rfl
    have c3 : (AHeap.none.push 1 (intsC [x, m, i, l, o, a])).cell (.mk ⟨AHeap.none.next, 0, 3⟩ 6) = some (.int .i64 l) := s1.part (i := 0) rfl (by omega) rfl
    have c4 : (AHeap.none.push 1 (intsC [x, m, i, l, o, a])).cell (.mk ⟨AHeap.none.next, 0, 4⟩ 6) = some (.int .i64 o) := s1.part (i := 0) rfl (by omega) rfl
    have c5 : (AHeap.none.push 1 (intsC [x, m, i, l, o, a])).cell (.mk ⟨AHeap.none.next, 0, 5⟩ 6) = some (.int .i64 a) := s1.part (i := 0) rfl (by omega) rfl
    rw [e_aag_Limits, show List.all (intsC [x, m, i, l, o, a]) AVal.isCell = true from rfl, cond_true, show (intsC [x, m, i, l, o, a]).length = 6 from rfl]
    simp only [el 1 1 rfl (by omega), el 2 2 rfl (by omega), el 3 3 rfl (by omega), el 4 4 rfl (by omega), el 5 5 rfl (by omega), Option.bind_some, c1, c2, c3, c4, c5, int_int]
    rw [wrap64 (n := i + a) (by omega) (by omega)]
    unfold limT
    by_cases b1 : 8000 < i
    · rw [bif_pos b1, if_pos b1]; rfl
    rw [bif_neg b1, if_neg b1]
    by_cases b2 : 8000 < i + a
    · rw [bif_pos b2, if_pos b2]; rfl
    rw [bif_neg b2, if_neg b2]
    by_cases b3 : 8000 < o
    · rw [bif_pos b3, if_pos b3]; rfl
    rw [bif_neg b3, if_neg b3]
    by_cases b4 : m = i + a
    · rw [bif_npos b4, if_neg (show ¬ m ≠ i + a from fun h => h b4)]
      by_cases b5 : l = 0
      · rw [bif_npos b5, if_neg (show ¬ l ≠ 0 from fun h => h b5)]; rfl
      · rw [bif_nneg b5, if_pos b5]; rfl
    · rw [bif_nneg b4, if_pos b4]; rfl
  · intro h'
    cases hl : limT m i l o a with
    | none => rfl
    | some kc =>
      obtain ⟨k, c⟩ := kc
      rcases (limT_code hl).1 with rfl | rfl <;> rfl
theorem intsC_set {l : List Int} {k : Nat} (hk : k < l.length) (v : Int) : (intsC l).take k ++ [AVal.int .i64 v] ++ (intsC l).drop (k + 1) = intsC (l.set k v) := by
  rw [List.set_eq_take_append_cons_drop, if_pos hk]
  simp
theorem aatC (fuel d : Nat) {c : Int} (hc : c = 101 ∨ c = 102) (p : Int) (h : AHeap) : run fuel (d + 1) F_aag_at [.int .i64 p, errC c] h = some (atV p (errC c), h) := by
  rcases hc with rfl | rfl
  · exact aat_run fuel d (j := 0) (by omega) p h
  · exact aat_run fuel d (j := 1) (by omega) p h

section
variable (fuel d : Nat) {h0 : AHeap} {j r : Nat} {W : List Wd} {e : Int}
abbrev headS (P N R : Nat) (pl nn rr : List Int) (L : List Chunk) : List Chunk := .own 1 P 0 6 (intsC pl) :: .own 1 N 0 6 (intsC nn) :: .own 1 R 0 6 (intsC rr) :: L
variable {P N R : Nat}
theorem elem6 {p : Nat} (hp : p < 6) (N : Nat) : Pt.elem 1 6 (p : Int) (nP N) = some (.mk ⟨N, 0, p⟩ 6) := by
  rcases (show p = 0 ∨ p = 1 ∨ p = 2 ∨ p = 3 ∨ p = 4 ∨ p = 5 by omega) with rfl | rfl | rfl | rfl | rfl | rfl <;> rfl
theorem all6 {nn : List Int} (h : nn.length = 6) : (!false && Nat.beq (List.length (intsC nn)) 6 && List.all (intsC nn) AVal.isCell) = true := by
  rw [List.length_map, h]
  simp
  intro x _
  rfl
theorem all6t {nn : List Int} (h : nn.length = 6) : (true && Nat.beq (List.length (intsC nn)) 6 && List.all (intsC nn) AVal.isCell) = true := all6 h
theorem head_bad {L : List Chunk} {h : AHeap} {k : Nat} {pl nn rr : List Int} (hk : k < 6) (hl : pl.length = 6) (hn : nn.length = 6) (hr : rr.length = 6) (hs : Sep0 h0 h (headS P N R pl nn rr L)) {x : Int} (hx : pl[k]? = some x) (n x12 : Nat) (x0 : Pt) :
    ∃ h', k_aag_reader_head_1 fuel (d + 5) n .normal [(0, .ptr x0), (2, .ptr (nP R)), (4, .ptr (nP N)), (5, .ptr (nP P)), (6, .int .i64 (k : Int)), (9, .bool false), (12, .int .i64 (x12 : Int))] h = some (.ret, [(2, .ptr (nP R)), (3, atV x err_api_ErrText), (4, .ptr (nP N)), (5, .ptr (nP P))], h') ∧ h'.cellsAt 6 (nP R) = some (intsC nn) ∧ Sep0 h0 h' L := by
  have cN : h.cellsAt 6 (nP N) = some (intsC nn) := hs.getAll (i := 1) rfl (by rw [List.length_map, hn])
  have cP : h.cell (.mk ⟨P, 0, k⟩ 6) = some (.int .i64 x) := hs.part (i := 0) rfl hk (by rw [List.getElem?_map, hx]; rfl)
  obtain ⟨h', e1, s1⟩ := hs.putAll (i := 2) (vs := intsC nn) rfl (by rw [List.length_map, hr]) (by rw [List.length_map, hn])
  refine ⟨h', ?_, s1.getAll (i := 2) rfl (by rw [List.length_map, hn]), s1.tail.tail.tail⟩
  rw [k_aag_reader_head_1_n, Bool.not_false, cond_true, cN, Option.bind_some, elem6 hk, Option.bind_some, cP, Option.bind_some, int_int, Option.bind_some, aat0 fuel (d + 4), Option.bind_some]
  simp only
  rw [cN, Option.bind_some, same_self, all6t hn, cond_true, e1]
  rfl
theorem head_loop (hf : 20 < fuel) : ∀ (n k : Nat) (acc pl nn rr : List Int) (L : List Chunk) (h : AHeap), 6 < n + k → 1 ≤ k → k ≤ 6 → pl.length = 6 → nn.length = 6 → rr.length = 6 → nn.take k = 0 :: acc → (∀ i, i < k → pl.getD i 0 = ((W.getD i ⟨[], 0, false⟩).pos : Int)) → Sep0 h0 h (headS P N R pl nn rr L) → L[j]? = some (rdCh r W k e) →
    match numsH e (6 - k) (W.drop k) acc with
    | .error p => ∃ h' k' nn', l_aag_reader_head_0 fuel (d + 5) n [(0, .ptr (rdP r)), (2, .ptr (nP R)), (4, .ptr (nP N)), (5, .ptr (nP P)), (12, .int .i64 (k : Int))] h = some (.ret, [(2, .ptr (nP R)), (3, atV p err_api_ErrText), (4, .ptr (nP N)), (5, .ptr (nP P))], h') ∧ nn'.length = 6 ∧ h'.cellsAt 6 (nP R) = some (intsC nn') ∧ Sep0 h0 h' (L.set j (rdCh r W k' e))
    | .ok M => ∃ h' pl', l_aag_reader_head_0 fuel (d + 5) n [(0, .ptr (rdP r)), (2, .ptr (nP R)), (4, .ptr (nP N)), (5, .ptr (nP P)), (12, .int .i64 (k : Int))] h = some (.exit 0, [(2, .ptr (nP R)), (3, .bot), (4, .ptr (nP N)), (5, .ptr (nP P))], h') ∧ pl'.length = 6 ∧ (∀ i, i < 6 → pl'.getD i 0 = ((W.getD i ⟨[], 0, false⟩).pos : Int)) ∧ Sep0 h0 h' (headS P N R pl' (0 :: M) rr (L.set j (rdCh r W 6 e))) := by
  intro n
  induction n with
  | zero => intro k acc pl nn rr L h h1 h2; omega
  | succ n ih =>
    intro k acc pl nn rr L h h1 h2 h3 hl hn hr htk hpl hs hj
    rw [l_aag_reader_head_0_eq]
    by_cases hk : k < 6
    · have hj3 : (headS P N R pl nn rr L)[j + 3]? = some (rdCh r W k e) := hj
      obtain ⟨h1', e1, s1⟩ := hs.put (i := 0) (o := k) (l := 6) (vs := [.int .i64 (posW e (W.drop k))]) rfl (by simp; omega) (by simp; omega)
      rw [set0, show [AVal.int .i64 (posW e (W.drop k))].length = 1 from rfl, intsC_set (by omega)] at s1
      have hj1 : (headS P N R (pl.set k (posW e (W.drop k))) nn rr L)[j + 3]? = some (rdCh r W k e) := hj
      have hw := aword_run fuel (d + 3) false (by omega) s1 hj1
      rw [bif_pos (by omega), apos_run fuel (d + 4) hs hj3, Option.bind_some, int_int, Option.bind_some, elem6 hk, Option.bind_some, e1, Option.bind_some, decide_eq_false (show ¬ (k : Int) = 0 by omega), show 6 - k = (6 - (k + 1)) + 1 by omega]
      unfold numsH
      have hlp : (pl.set k (posW e (W.drop k))).length = 6 := by rw [List.length_set]; exact hl
      cases hq : wF false (W.drop k) with
      | none =>
        rw [hq] at hw
        have cN : h1'.cellsAt 6 (nP N) = some (intsC nn) := s1.getAll (i := 1) rfl (by rw [List.length_map, hn])
        obtain ⟨h', e2, s2⟩ := s1.putAll (i := 2) (vs := intsC nn) rfl (by rw [List.length_map, hr]) (by rw [List.length_map, hn])
        refine ⟨h', k, nn, ?_, hn, s2.getAll (i := 2) rfl (by rw [List.length_map, hn]), ?_⟩
        · rw [hw]
          simp only [Option.bind_some, tup2, cond_true, comp0, comp1, str_str, nilTest_if, Bool.not_false]
          rw [cN, Option.bind_some, all6t hn, cond_true, e2]
          rfl
        · rw [set_self hj]
          exact s2.tail.tail.tail
      | some w =>
        rw [hq] at hw
        obtain ⟨h2', e2, s2⟩ := hw
        obtain ⟨W', hW'⟩ := wF_head hq
        have hpos : posW e (W.drop k) = (w.pos : Int) := by rw [hW']; rfl
        have s2' : Sep0 h0 h2' (headS P N R (pl.set k (posW e (W.drop k))) nn rr (L.set j (rdCh r W (k + 1) e))) := s2
        obtain ⟨h3', e3, s3⟩ := s2'.put (i := 1) (o := k) (l := 6) (vs := [.int .i64 (if plainW w.text = true then numW w.text else 0)]) rfl (by simp; omega) (by simp; omega)
        rw [set1, show [AVal.int .i64 (if plainW w.text = true then numW w.text else 0)].length = 1 from rfl, intsC_set (by omega)] at s3
        have hnl : (nn.set k (if plainW w.text = true then numW w.text else 0)).length = 6 := by rw [List.length_set]; exact hn
        rw [e2]
        simp only [Option.bind_some, tup2, cond_true, comp0, comp1, str_str, nilTest_nilif, Bool.not_true, cond_false]
        rw [bif_pos (show (0 : Int) < (k : Int) by omega), plain_run fuel (d + 1) hf]
        simp only [Option.bind_some, tup2, cond_true, comp0, comp1, int_int, bool_bool]
        rw [elem6 hk, Option.bind_some, e3, Option.bind_some, Option.bind_some]
        simp only
        have hgp : (pl.set k (posW e (W.drop k)))[k]? = some (w.pos : Int) := by rw [List.getElem?_set_self (by omega), hpos]
        cases hp : plainW w.text with
        | false =>
          rw [hp] at s3 hnl
          obtain ⟨h', e4, e5, s4⟩ := head_bad fuel d hk hlp hnl hr s3 hgp n k (rdP r)
          exact ⟨h', k + 1, _, e4, hnl, e5, s4⟩
        | true =>
          rw [hp] at s3 hnl
          simp only [if_true] at s3 hnl ⊢
          rw [k_aag_reader_head_1_n, Bool.not_true, cond_false, sucU (by omega)]
          have hw9 : W.getD k ⟨[], 0, false⟩ = w := by
            by_cases hkw : k < W.length
            · rw [drop_wd hkw] at hW'
              exact (List.cons.inj hW').1
            · rw [List.drop_eq_nil_of_le (by omega)] at hW'; cases hW'
          have := ih (k + 1) (acc ++ [numW w.text]) (pl.set k (posW e (W.drop k))) (nn.set k (numW w.text)) rr (L.set j (rdCh r W (k + 1) e)) h3' (by omega) (by omega) (by omega) hlp hnl hr ?_ ?_ s3 (get_set hj _)
          · rw [List.drop_drop]
            simp only [List.set_set] at this
            exact this
          · rw [take_get (by omega) 0, List.take_set_of_le (Nat.le_refl _), htk]
            simp [List.getD_eq_getElem?_getD, show k < nn.length by omega]
          · intro i hi
            by_cases hik : i = k
            · subst hik
              rw [List.getD_eq_getElem?_getD, hgp, hw9]; rfl
            · rw [List.getD_eq_getElem?_getD, List.getElem?_set_ne (by omega), ← List.getD_eq_getElem?_getD]
              exact hpl i (by omega)
    · obtain rfl : k = 6 := by omega
      rw [bif_neg (by omega), Nat.sub_self]
      unfold numsH
      refine ⟨h, pl, rfl, hl, hpl, ?_⟩
      rw [List.take_of_length_le (by omega)] at htk
      rw [set_self hj, ← htk]
      exact hs
end
end Go.Proofs.YtmjbjgbcpaagmaaDoor

namespace Go.Proofs.YtmjbjgbcpaagmaaDoor
open Go.RowKit

theorem split_ne (b : List UInt8) (c : Bool) : ∀ w ∈ splitOf b c, w.text ≠ [] := by
  have key : ∀ (n k : Nat), ∀ w ∈ splitGo b c n k, w.text ≠ [] := by
    intro n
    induction n with
    | zero => intro k w hw; cases hw
    | succ n ih =>
      intro k w hw
      simp only [splitGo] at hw
      split at hw
      · rcases List.mem_append.1 hw with hw | hw
        · split at hw
          · exact lineGo_text _ _ _ w hw
          · cases hw
        · exact ih _ w hw
      · cases hw
  exact key _ _
theorem split_len (b : List UInt8) (c : Bool) : (splitOf b c).length ≤ b.length := by
  have := splitGo_len (b := b) (c := c) (b.length + 1) 0
  unfold splitOf
  omega
theorem errC_no (p c : Int) : nilTest .iface (atV p (errC c)) = some false := rfl
theorem headA_code {e c p : Int} {W : List Wd} (h : headA e W = .error (c, p)) : c = 101 ∨ c = 102 := by
  unfold headA at h
  repeat' split at h
  all_goals (first | (cases h; exact .inl rfl) | (rename_i hl; cases h; exact (limT_code hl).1) | cases h)
theorem headA_ok {e : Int} {W : List Wd} {M : List Int} (h : headA e W = .ok M) : M.length = 5 ∧ (∀ x ∈ M, 0 ≤ x ∧ x ≤ 999999999) ∧ limT (M.getD 0 0) (M.getD 1 0) (M.getD 2 0) (M.getD 3 0) (M.getD 4 0) = none := by
  unfold headA at h
  split at h
  · cases h
  · split at h
    · split at h
      · cases h
      · rename_i N hN
        split at h
        · cases h
        · rename_i hl
          cases h
          obtain ⟨h1, _, h3⟩ := numsH_len hN
          exact ⟨by simpa using h1, h3 (fun x hx => by cases hx), hl⟩
    · cases h
theorem five {M : List Int} (h : M.length = 5) : M = [M.getD 0 0, M.getD 1 0, M.getD 2 0, M.getD 3 0, M.getD 4 0] := by
  match M, h with
  | [a, b, c, d, e], _ => rfl
section
variable (fuel d : Nat) {h0 : AHeap} {j r : Nat} {W : List Wd} {e : Int}
theorem head_run2 (hf : 20 < fuel) {L : List Chunk} {h : AHeap} (hs : Sep0 h0 h L) (hj : L[j]? = some (rdCh r W 0 e)) :
    match headA e W with
    | .error (c, p) => ∃ h' k' nn, run fuel (d + 6) F_aag_reader_head [.ptr (rdP r)] h = some (.tup [.agg (intsC nn), atV p (errC c)], h') ∧ nn.length = 6 ∧ Sep0 h0 h' (L.set j (rdCh r W k' e))
    | .ok M => ∃ h', run fuel (d + 6) F_aag_reader_head [.ptr (rdP r)] h = some (.tup [.agg (intsC (0 :: M)), .nilif], h') ∧ Sep0 h0 h' (L.set j (rdCh r W 6 e)) := by
  have s1 := (((hs.push 1 6 (cs := intsC [0, 0, 0, 0, 0, 0]) rfl).cons.push 1 6 (cs := intsC [0, 0, 0, 0, 0, 0]) rfl).cons.push 1 6 (cs := intsC [0, 0, 0, 0, 0, 0]) rfl).cons
  rw [e_aag_reader_head]
  rw [show [(AVal.int .i64 (0 : Int)), (.int .i64 (0 : Int)), (.int .i64 (0 : Int)), (.int .i64 (0 : Int)), (.int .i64 (0 : Int)), (.int .i64 (0 : Int))] = intsC [0, 0, 0, 0, 0, 0] from rfl]
  generalize h.next = R at s1
  generalize (h.push 1 (intsC [0, 0, 0, 0, 0, 0])).next = N at s1
  generalize ((h.push 1 (intsC [0, 0, 0, 0, 0, 0])).push 1 (intsC [0, 0, 0, 0, 0, 0])).next = P at s1
  generalize (((h.push 1 (intsC [0, 0, 0, 0, 0, 0])).push 1 (intsC [0, 0, 0, 0, 0, 0])).push 1 (intsC [0, 0, 0, 0, 0, 0])) = H at s1
  have hs' : Sep0 h0 H (headS P N R [0, 0, 0, 0, 0, 0] [0, 0, 0, 0, 0, 0] [0, 0, 0, 0, 0, 0] L) := s1
  have hj3 : (headS P N R [0, 0, 0, 0, 0, 0] [0, 0, 0, 0, 0, 0] [0, 0, 0, 0, 0, 0] L)[j + 3]? = some (rdCh r W 0 e) := hj
  obtain ⟨f, rfl⟩ : ∃ f, fuel = f + 1 := ⟨fuel - 1, by omega⟩
  rw [l_aag_reader_head_0_eq]
  obtain ⟨h1', e1, s1⟩ := hs'.put (i := 0) (o := 0) (l := 6) (vs := [.int .i64 (posW e W)]) rfl (by simp) (by simp)
  have s1' : Sep0 h0 h1' (headS P N R [posW e W, 0, 0, 0, 0, 0] [0, 0, 0, 0, 0, 0] [0, 0, 0, 0, 0, 0] L) := s1
  have hj1 : (headS P N R [posW e W, 0, 0, 0, 0, 0] [0, 0, 0, 0, 0, 0] [0, 0, 0, 0, 0, 0] L)[j + 3]? = some (rdCh r W 0 e) := hj
  have hw := aword_run (f + 1) (d + 3) true (by omega) s1' hj1
  have hpos := apos_run (f + 1) (d + 4) hs' hj3
  rw [List.drop_zero] at hw hpos
  rw [bif_pos (show (0 : Int) < 6 by omega), hpos, Option.bind_some, int_int, Option.bind_some, show Pt.elem 1 6 (0 : Int) (.mk ⟨P, 0, 0⟩ 6) = some (.mk ⟨P, 0, 0⟩ 6) from rfl, Option.bind_some, e1, Option.bind_some, decide_eq_true (show (0 : Int) = 0 from rfl)]
  unfold headA
  have ret : ∀ (u x4 x5 : AVal) (h' : AHeap) (nn : List Int), h'.cellsAt 6 (nP R) = some (intsC nn) → k_aag_reader_head_0 (f + 1) (d + 5) .ret [(2, .ptr (nP R)), (3, u), (4, x4), (5, x5)] h' = some (.tup [.agg (intsC nn), u], h') := by
    intro u x4 x5 h' nn hc
    rw [k_aag_reader_head_0_r, hc]
    rfl
  cases hq : wF true W with
  | none =>
    rw [hq] at hw
    have cN : h1'.cellsAt 6 (nP N) = some (intsC [0, 0, 0, 0, 0, 0]) := s1'.getAll (i := 1) rfl rfl
    obtain ⟨h', e2, s2⟩ := s1'.putAll (i := 2) (vs := intsC [0, 0, 0, 0, 0, 0]) rfl rfl rfl
    refine ⟨h', 0, [0, 0, 0, 0, 0, 0], ?_, rfl, ?_⟩
    · rw [hw]
      simp only [Option.bind_some, tup2, cond_true, comp0, comp1, str_str, nilTest_if, Bool.not_false]
      rw [cN, Option.bind_some, all6t rfl, cond_true, e2]
      simp only [Option.bind_some]
      exact ret _ _ _ h' _ (s2.getAll (i := 2) rfl rfl)
    · rw [set_self hj]
      exact s2.tail.tail.tail
  | some w =>
    rw [hq] at hw
    obtain ⟨h2', e2, s2⟩ := hw
    obtain ⟨W', hW'⟩ := wF_head hq
    have hpw : posW e W = (w.pos : Int) := by rw [hW']; rfl
    have s2' : Sep0 h0 h2' (headS P N R [posW e W, 0, 0, 0, 0, 0] [0, 0, 0, 0, 0, 0] [0, 0, 0, 0, 0, 0] (L.set j (rdCh r W (0 + 1) e))) := s2
    have hcmp : decide (tx w.text = (⟨#[97, 97, 103]⟩ : ByteArray)) = (w.text == [97, 97, 103]) := by
      have := txt_ne w.text [97, 97, 103]
      rw [show tx [97, 97, 103] = (⟨#[97, 97, 103]⟩ : ByteArray) from rfl] at this
      exact Bool.not_inj this
    rw [e2]
    simp only [Option.bind_some, tup2, cond_true, comp0, comp1, str_str, nilTest_nilif, Bool.not_true, cond_false]
    rw [bif_neg (show ¬ (0 : Int) < 0 by omega), Option.bind_some]
    simp only
    rw [hcmp]
    cases hc : w.text == [97, 97, 103] with
    | false =>
      obtain ⟨h', e4, e5, s4⟩ := head_bad (f + 1) d (k := 0) (by omega) rfl rfl rfl s2' rfl f 0 (rdP r)
      rw [show ((0 : Nat) : Int) = 0 from rfl] at e4
      refine ⟨h', 0 + 1, [0, 0, 0, 0, 0, 0], ?_, rfl, s4⟩
      rw [e4, Option.bind_some, ret _ _ _ h' _ e5, hpw]
      rfl
    | true =>
      rw [k_aag_reader_head_1_n, Bool.not_true, cond_false, wrap64 (n := 0 + 1) (by omega) (by omega), show (0 : Int) + 1 = ((1 : Nat) : Int) from rfl]
      have hj2 : (L.set j (rdCh r W (0 + 1) e))[j]? = some (rdCh r W (0 + 1) e) := get_set hj _
      have hl := head_loop (f + 1) d (h0 := h0) (P := P) (N := N) (R := R) hf f 1 [] [posW e W, 0, 0, 0, 0, 0] [0, 0, 0, 0, 0, 0] [0, 0, 0, 0, 0, 0] (L.set j (rdCh r W (0 + 1) e)) h2' (by omega) (by omega) (by omega) rfl rfl rfl rfl (by
        intro i hi
        obtain rfl : i = 0 := by omega
        rw [hW']; rfl) s2' hj2
      rw [show 6 - 1 = 5 from rfl] at hl
      simp only [if_true]
      cases hn : numsH e 5 (W.drop 1) [] with
      | error p =>
        rw [hn] at hl
        obtain ⟨h', k', nn, e3, e4, e5, s3⟩ := hl
        rw [List.set_set] at s3
        refine ⟨h', k', nn, ?_, e4, s3⟩
        rw [e3, Option.bind_some, ret _ _ _ h' _ e5]
        rfl
      | ok M =>
        rw [hn] at hl
        obtain ⟨h', pl, e3, e4, e5, s3⟩ := hl
        rw [List.set_set] at s3
        obtain ⟨l1, _, l3⟩ := numsH_len hn
        have l3 := l3 (fun x hx => by cases hx)
        have hM5 : M.length = 5 := by simpa using l1
        have h5 := five hM5
        have hN6 : (0 :: M).length = 6 := by simp [hM5]
        have cN : h'.cellsAt 6 (nP N) = some (intsC (0 :: M)) := s3.getAll (i := 1) rfl (by rw [List.length_map, hN6])
        have m1 : M.getD 1 0 ∈ M := by rw [h5]; simp
        have m4 : M.getD 4 0 ∈ M := by rw [h5]; simp
        rw [e3, Option.bind_some, k_aag_reader_head_0_x0, cN, Option.bind_some]
        have hlim := limits_run (f + 1) (d + 4) (x := 0) (m := M.getD 0 0) (i := M.getD 1 0) (l := M.getD 2 0) (o := M.getD 3 0) (a := M.getD 4 0) (l3 _ m1) (l3 _ m4) h'
        rw [← h5] at hlim
        rw [hlim]
        have cR : ∀ u : AVal, ∃ h'' : AHeap, (h'.storeAt (intsC (0 :: M)) (nP R)) = some h'' ∧ h''.cellsAt 6 (nP R) = some (intsC (0 :: M)) ∧ Sep0 h0 h'' (L.set j (rdCh r W 6 e)) := fun _ => by
          obtain ⟨h'', q1, q2⟩ := s3.putAll (i := 2) (vs := intsC (0 :: M)) rfl rfl (by rw [List.length_map, hN6])
          exact ⟨h'', q1, q2.getAll (i := 2) rfl (by rw [List.length_map, hN6]), q2.tail.tail.tail⟩
        obtain ⟨h'', q1, q2, s4⟩ := cR .nilif
        simp only
        cases ht : limT (M.getD 0 0) (M.getD 1 0) (M.getD 2 0) (M.getD 3 0) (M.getD 4 0) with
        | none =>
          refine ⟨h'', ?_, s4⟩
          simp only [limA, Option.bind_some, tup2, cond_true, comp0, comp1, int_int, nilTest_nilif, Bool.not_true, cond_false]
          rw [cN, Option.bind_some, all6 hN6, cond_true, q1, Option.bind_some, q2]
          rfl
        | some kc =>
          obtain ⟨k, c⟩ := kc
          obtain ⟨hc1, hk6, _⟩ := limT_code ht
          refine ⟨h'', 6, 0 :: M, ?_, hN6, s4⟩
          have hcell : h'.cell (.mk ⟨P, 0, k⟩ 6) = some (.int .i64 ((W.getD k ⟨[], 0, false⟩).pos : Int)) := s3.part (i := 0) rfl hk6 (by rw [List.getElem?_map, List.getElem?_eq_getElem (by omega), Option.map_some, ← e5 k hk6, List.getD_eq_getElem?_getD, List.getElem?_eq_getElem (by omega)]; rfl)
          have hnt : nilTest .iface (errC c) = some false := by rcases hc1 with rfl | rfl <;> rfl
          simp only [limA, Option.bind_some, tup2, cond_true, comp0, comp1, int_int, hnt, Bool.not_false, cN]
          rw [elem6 hk6, Option.bind_some, hcell, Option.bind_some, int_int, Option.bind_some, aatC (f + 1) (d + 4) hc1, Option.bind_some]
          simp only
          rw [cN, Option.bind_some, same_self, all6t hN6, cond_true, q1, Option.bind_some, q2]
          rfl
end
end Go.Proofs.YtmjbjgbcpaagmaaDoor

namespace Go.Proofs.YtmjbjgbcpaagmaaDoor
open Go.RowKit

def ciA : Except (Int × Int) Ci → AVal
  | .ok (i, A, O) => .tup [.agg (circC i A O), .nilif]
  | .error (c, p) => .tup [.agg (circC 0 [] []), atV p (errC c)]
theorem limT_none {m i l o a : Int} (h : limT m i l o a = none) : i ≤ 8000 ∧ i + a ≤ 8000 ∧ o ≤ 8000 ∧ m = i + a ∧ l = 0 := by
  unfold limT at h
  by_cases b1 : 8000 < i
  · rw [if_pos b1] at h; cases h
  rw [if_neg b1] at h
  by_cases b2 : 8000 < i + a
  · rw [if_pos b2] at h; cases h
  rw [if_neg b2] at h
  by_cases b3 : 8000 < o
  · rw [if_pos b3] at h; cases h
  rw [if_neg b3] at h
  by_cases b4 : m = i + a
  · rw [if_neg (show ¬ m ≠ i + a from fun q => q b4)] at h
    by_cases b5 : l = 0
    · exact ⟨by omega, by omega, by omega, b4, b5⟩
    · rw [if_pos b5] at h; cases h
  · rw [if_pos b4] at h; cases h
theorem freeze_pairs {h : AHeap} (n : Nat) (A : List (Int × Int)) : (pairsC A).mapM (freezeV h (n + 1)) = some (pairsC A) := mapM_freezeN (fun _ => mm2 rfl rfl) A
theorem zero3_fr {c : Int} (hc : c = 101 ∨ c = 102) (p : Int) (h : AHeap) : freezeV h 8 (.tup [.agg zero3, atV p (errC c)]) = some (ciA (.error (c, p))) := by
  rcases hc with rfl | rfl <;> exact freeze_tup2 _ (freeze_agg 6 (mm3 rfl rfl rfl)) rfl
theorem aread_body (fuel d : Nat) {b : List UInt8} (hf : b.length + 20000 < fuel) (hb : b.length < 1000000) : ∃ v h', brun fuel (d + 9) F_aag_Read [.slice (lstU b)] AHeap.none = some (v, h') ∧ freezeV h' 8 v = some (ciA (readC b)) := by
  have hl := split_len b false
  have hne := split_ne b false
  have s0 := (Sep0.start AHeap.none).push 1 3 (cs := zero3) rfl
  rw [e_aag_Read, len_lst, bif_neg (by omega), split_run fuel (d + 5) (by omega) (by omega), Option.bind_some, slice_slice, Option.bind_some]
  unfold readC
  generalize splitOf b false = W at hl hne
  generalize AHeap.none.next = R at s0
  generalize AHeap.push AHeap.none 1 [(AVal.int .i64 (0 : Int)), (.slice Sl.nil), (.slice Sl.nil)] = H at s0
  have s1 := (s0.push 1 3 (cs := [.slice (lstW W), .int .i64 (0 : Int), .int .i64 (b.length : Int)]) rfl).cons
  have s1' : Sep0 AHeap.none (H.push 1 [.slice (lstW W), .int .i64 (0 : Int), .int .i64 (b.length : Int)]) [rdCh H.next W 0 (b.length : Int), .own 1 R 0 3 zero3] := s1
  have hd := head_run2 fuel (d + 2) (h0 := AHeap.none) (j := 0) (by omega) s1' rfl
  generalize H.next = r at s1' hd
  simp only
  generalize (H.push 1 [.slice (lstW W), .int .i64 (0 : Int), .int .i64 (b.length : Int)]) = H2 at s1' hd
  have zero : ∀ {h1 : AHeap} {L : List Chunk} {c p : Int} {zs : List AVal}, (c = 101 ∨ c = 102) → zs.length = 3 → Sep0 AHeap.none h1 (.own 1 R 0 3 zs :: L) → ∃ v h', ((AHeap.storeAt h1 [(.int .i64 (0 : Int)), (.slice Sl.nil), (.slice Sl.nil)] (Pt.mk ⟨R, 0, 0⟩ 3)).bind fun h13 =>
    (((((AHeap.cellsAt h13 3 (Pt.mk ⟨R, 0, 0⟩ 3)).bind fun c15 =>
    some ((AVal.agg c15)) : Option AVal).bind fun v14 =>
    some [v14, atV p (errC c)]) : Option (List AVal)).map AVal.tup).map fun v => (v, h13)) = some (v, h') ∧ freezeV h' 8 v = some (ciA (.error (c, p))) := by
    intro h1 L c p zs hc hz s
    obtain ⟨h', e1, e2, _⟩ := ret_put s hz (vs := zero3) rfl
    rw [e1, Option.bind_some, e2]
    exact ⟨_, h', rfl, zero3_fr hc p h'⟩
  cases hh : headA (b.length : Int) W with
  | error cp =>
    obtain ⟨c, p⟩ := cp
    rw [hh] at hd
    have hc := headA_code hh
    obtain ⟨h1, k', nn, e1, e2, s2⟩ := hd
    rw [set0] at s2
    have s3 := (s2.push 1 6 (cs := intsC [0, 0, 0, 0, 0, 0]) rfl).cons
    obtain ⟨h2, e3, s4⟩ := s3.putAll (i := 0) (vs := intsC nn) rfl rfl (by rw [List.length_map, e2])
    rw [e1]
    simp only [Option.bind_some, tup2, cond_true, comp0, comp1, agg_agg]
    rw [all6 e2, cond_true]
    rw [show [(AVal.int .i64 (0 : Int)), (.int .i64 (0 : Int)), (.int .i64 (0 : Int)), (.int .i64 (0 : Int)), (.int .i64 (0 : Int)), (.int .i64 (0 : Int))] = intsC [0, 0, 0, 0, 0, 0] from rfl, e3, Option.bind_some, errC_no, Option.bind_some, Bool.not_false, cond_true]
    exact zero (L := []) hc rfl (s4.tail.tail)
  | ok M =>
    rw [hh] at hd
    obtain ⟨hM5, hMr, hlim⟩ := headA_ok hh
    obtain ⟨l1, l2, l3, l4, l5⟩ := limT_none hlim
    have h5 := five hM5
    have hN6 : (0 :: M).length = 6 := by simp [hM5]
    have m1 : M.getD 1 0 ∈ M := by rw [h5]; simp
    have m3 : M.getD 3 0 ∈ M := by rw [h5]; simp
    have m4 : M.getD 4 0 ∈ M := by rw [h5]; simp
    have q1 := hMr _ m1
    have q3 := hMr _ m3
    have q4 := hMr _ m4
    obtain ⟨h1, e1, s2⟩ := hd
    rw [set0] at s2
    have s3 := (s2.push 1 6 (cs := intsC [0, 0, 0, 0, 0, 0]) rfl).cons
    obtain ⟨h2, e3, e4, s4⟩ := ret_put s3 rfl (vs := intsC (0 :: M)) (by rw [List.length_map, hN6])
    rw [e1]
    simp only [Option.bind_some, tup2, cond_true, comp0, comp1, agg_agg]
    rw [all6 hN6, cond_true]
    rw [show [(AVal.int .i64 (0 : Int)), (.int .i64 (0 : Int)), (.int .i64 (0 : Int)), (.int .i64 (0 : Int)), (.int .i64 (0 : Int)), (.int .i64 (0 : Int))] = intsC [0, 0, 0, 0, 0, 0] from rfl, e3, Option.bind_some, nilTest_nilif, Option.bind_some, Bool.not_true, cond_false, e4, Option.bind_some]
    have bd := abody_run fuel d (h0 := AHeap.none) (j := 1) (r := r) (W := W) (e := (b.length : Int)) (by omega) (k := 6) (m := M.getD 0 0) (i := M.getD 1 0) (l := M.getD 2 0) (o := M.getD 3 0) (a := M.getD 4 0) (nn := 0 :: M) (by rw [← h5]) (by omega) (by omega) (by omega) (by omega) (by omega) (by omega) hne s4 rfl
    cases hbd : bodyT (b.length : Int) (M.getD 0 0) (M.getD 1 0) (M.getD 3 0) (M.getD 4 0) (W.drop 6) with
    | error p =>
      rw [hbd] at bd
      obtain ⟨h3, k', e5, s5⟩ := bd
      rw [set1] at s5
      obtain ⟨h4, e6, e7, s6⟩ := ret_put s5.tail.tail rfl (vs := zero3) rfl
      rw [e5]
      simp only [Option.bind_some, tup2, cond_true, comp0, comp1, agg_agg]
      rw [show (!false && Nat.beq (List.length zero3) 3 && List.all zero3 AVal.isCell) = true from rfl, cond_true, e6, Option.bind_some, e7]
      exact ⟨_, h4, rfl, zero3_fr (c := 101) (.inl rfl) p h4⟩
    | ok c =>
      obtain ⟨i', A, O⟩ := c
      rw [hbd] at bd
      obtain ⟨rfl, h3, sA, sO, k', e5, s5⟩ := bd
      rw [set1] at s5
      have s5' := s5.perm (L' := [Chunk.own 1 R 0 3 zero3] ++ [.grown 1 sO (intsC O), .grown 2 sA (pairsC A), .own 1 h1.next 0 6 (intsC (0 :: M)), rdCh r W k' (b.length : Int)]) (List.perm_append_comm (l₁ := [Chunk.grown 1 sO (intsC O), .grown 2 sA (pairsC A), .own 1 h1.next 0 6 (intsC (0 :: M)), rdCh r W k' (b.length : Int)]) (l₂ := [Chunk.own 1 R 0 3 zero3]))
      obtain ⟨h4, e6, e7, s6⟩ := ret_put s5' rfl (vs := [.int .i64 (M.getD 1 0), .slice sA, .slice sO]) rfl
      rw [e5]
      simp only [Option.bind_some, tup2, cond_true, comp0, comp1, agg_agg]
      rw [show (!false && Nat.beq (List.length [AVal.int .i64 (M.getD 1 0), .slice sA, .slice sO]) 3 && List.all [AVal.int .i64 (M.getD 1 0), .slice sA, .slice sO] AVal.isCell) = true from rfl, cond_true, e6, Option.bind_some, e7]
      refine ⟨_, h4, rfl, ?_⟩
      have gO := s6.sep.grown (i := 1) rfl
      have gA := s6.sep.grown (i := 2) rfl
      have lO := gO.len
      have lA := gA.len
      rw [pairsC_len] at lA
      rw [List.length_map, Nat.mul_one] at lO
      refine freeze_tup2 _ (freeze_agg 6 (mm3 rfl ?_ ?_)) rfl
      · rw [gA.freeze (n := 5) (by omega) (freeze_pairs 4 A), show sA.len = A.length by omega]
      · rw [gO.freeze (n := 5) (by omega) (mapM_freeze (g := AVal.int .i64) (fun _ => rfl) O), show sO.len = O.length by omega]
theorem aread_run (fuel d : Nat) {b : List UInt8} (hf : b.length + 20000 < fuel) (hb : b.length < 1000000) (h : AHeap) : run fuel (d + 9) F_aag_Read [.slice (lstU b)] h = some (ciA (readC b), h) := by
  obtain ⟨v, h', e1, e2⟩ := aread_body fuel d hf hb
  exact pure_of rfl rfl (cc1 (canon_lstU 7 b)) e1 e2
end Go.Proofs.YtmjbjgbcpaagmaaDoor

namespace Go.Proofs.YtmjbjgbcpaagmaaDoor
open Go.RowKit

end Go.Proofs.YtmjbjgbcpaagmaaDoor

namespace Go.Proofs.YtmjbjgbcpaagmaaDoor
open Go.RowKit

end Go.Proofs.YtmjbjgbcpaagmaaDoor

namespace Go.Proofs.YtmjbjgbcpaagmaaDoor
open Go.RowKit

def blankI (c : Int) : Bool := bif (bif decide (c = 32) then true else decide (c = 9)) then true else decide (c = 13)
end Go.Proofs.YtmjbjgbcpaagmaaDoor

namespace Go.Proofs.YtmjbjgbcpaagmaaDoor
open Go.RowKit

theorem freeze_cells {h : AHeap} {r : Ref} {n m : Nat} {c : Bool} {cs us : List AVal} (hs : h.sliceCells 1 (.mk r n c) = some cs) (hm : cs.mapM (freezeV h m) = some us) : freezeV h (m + 1) (.slice (.mk r n c)) = some (.slice (.lst n false us)) := by
  by_cases h0 : n = 0
  · subst h0
    simp [AHeap.sliceCells] at hs
    subst hs
    simp at hm
    subst hm
    simp [freezeV]
  · obtain ⟨row, h1, h2, h3, h4, h5, rfl⟩ := sliceCells_row hs h0
    have hs2 : h.sliceCells row.sz (.mk r n false) = some ((row.cells.drop r.off).take (n * 1)) := by rw [h2]; exact sliceCells_of h1 h2 h3 h4 h5
    simp only [freezeV, beq_eq, decide_eq_false h0, cond_false, h1, hs2, Option.bind_some, hm, Option.map_some]

end Go.Proofs.YtmjbjgbcpaagmaaDoor

namespace Go.Proofs.YtmjbjgbcpaagmaaDoor
open Go.RowKit

/-- the number that stands first -/
def numP (f : Bool) (W : List Wd) : Option Int := (wF f W).bind fun w => if plainW w.text = true then some (numW w.text) else none
section
variable (fuel d : Nat) {W : List Wd}
/-- the word whose number is too great -/
def limR (m i l o a : Int) : Int := if 8000 < i then 2 else if 8000 < a ∨ 8000 < i + a then 5 else if 8000 < o then 4 else -1
end
end Go.Proofs.YtmjbjgbcpaagmaaDoor

namespace Go.Proofs.YtmjbjgbcpaagmaaDoor
open Go.RowKit

theorem isS {α : Type} (x : Option α) : x.isSome = true ↔ ∃ y, x = some y := Option.isSome_iff_exists

section
variable (fuel d : Nat) (hf : 20 < fuel) {h0 : AHeap} {R F Z C : Nat} {W : List Wd} {b : List UInt8} (hne : ∀ w ∈ W, w.text ≠ [])
include hf hne
abbrev rdS (R F Z C : Nat) (i : Int) (nn : List Int) (sN sO sA : Sl) (O : List Int) (A : List (Int × Int)) : List Chunk :=
  [.own 1 R 0 3 zero3, .own 1 F 0 3 (faultC 0 false 0), .own 1 Z 0 3 zero3, .grown 1 sN (intsC nn), .own 1 C 0 3 [.int .i64 i, .slice sA, .slice sO], .grown 1 sO (intsC O), .grown 2 sA (pairsC A)]
variable {i : Int} {nn : List Int} {sN : Sl}
end
end Go.Proofs.YtmjbjgbcpaagmaaDoor

namespace Go.Proofs.YtmjbjgbcpaagmaaDoor
open Go.RowKit

section
variable (fuel d : Nat) (hf : 20 < fuel) {h0 : AHeap} {R F Z C : Nat} {W : List Wd} {b : List UInt8} (hne : ∀ w ∈ W, w.text ≠ []) {i : Int} {nn : List Int} {sN : Sl}
include hf hne
end
end Go.Proofs.YtmjbjgbcpaagmaaDoor

namespace Go.Proofs.YtmjbjgbcpaagmaaDoor
open Go.RowKit

def rciA : Except (Int × Int) Ci → AVal
  | .ok (i, A, O) => .tup [.agg (circC i A O), .agg (faultC 0 false 0)]
  | .error (c, p) => .tup [.agg (circC 0 [] []), .agg (faultC c true p)]
end Go.Proofs.YtmjbjgbcpaagmaaDoor

namespace Go.Proofs.YtmjbjgbcpaagmaaDoor
open Go.RowKit

theorem sucS {m : Nat} (h : m < 9000000000000000000) : IntKind.wrap .i64 ((m : Int) + 1) = ((m + 1 : Nat) : Int) := by rw [wrap64 (by omega) (by omega)]; omega
theorem sameI_loop (fuel d : Nat) {a b : List Int} (hl : a.length = b.length) (hn : a.length < 1000000000) {h : AHeap} : ∀ (n k : Nat), a.length < n + k → k ≤ a.length → a.take k = b.take k →
    (l_skolemref_SameInts_0 fuel d n [(0, .slice (lstI a)), (1, .slice (lstI b)), (5, .int .i64 (k : Int))] h).bind (fun p => k_skolemref_SameInts_0 fuel d p.1 p.2.1 p.2.2) = some (.bool (decide (a = b)), h) := by
  intro n
  induction n with
  | zero => intro k h1 h2; omega
  | succ n ih =>
    intro k h1 h2 h3
    rw [l_skolemref_SameInts_0_eq, len_lst]
    by_cases hk : k < a.length
    · rw [bif_pos (by omega), addr_lstM _ (by omega) (by omega) 0, addr_lstM _ (by omega) (by omega) 0]
      simp only [Option.bind_some, cell_fp, int_int, Int.toNat_natCast]
      by_cases he : a.getD k 0 = b.getD k 0
      · rw [bif_npos he, sucS (by omega), ih (k + 1) (by omega) (by omega) (by rw [take_get hk 0, take_get (by omega) 0, h3, he])]
      · rw [bif_nneg he]
        simp only [Option.bind_some, k_skolemref_SameInts_0_r]
        rw [decide_eq_false (fun h => he (by rw [h]))]
    · have : k = a.length := by omega
      subst this
      rw [bif_neg (by omega)]
      have : a = b := by rw [List.take_length, hl, List.take_length] at h3; exact h3
      simp only [Option.bind_some, k_skolemref_SameInts_0_x0]
      rw [decide_eq_true this]
theorem sameI_run (fuel d : Nat) {a b : List Int} {s t : Sl} {h : AHeap} (hs : freezeV h 8 (.slice s) = some (.slice (lstI a))) (ht : freezeV h 8 (.slice t) = some (.slice (lstI b))) (hn : a.length < 1000000000) (hf : a.length < fuel) :
    run fuel (d + 1) F_skolemref_SameInts [.slice s, .slice t] h = some (.bool (decide (a = b)), h) := by
  refine run_val rfl rfl (mm2 hs ht) (r := .bool (decide (a = b))) (h' := AHeap.none) ?_ rfl rfl
  rw [e_skolemref_SameInts, len_lst, len_lst]
  by_cases hl : a.length = b.length
  · rw [bif_npos (by omega)]
    have := sameI_loop fuel d hl hn (h := AHeap.none) fuel 0 (by omega) (by omega) rfl
    exact this
  · rw [bif_nneg (by omega), decide_eq_false (fun h => hl (by rw [h]))]

end Go.Proofs.YtmjbjgbcpaagmaaDoor

namespace Go.Proofs.YtmjbjgbcpaagmaaDoor
open Go.RowKit

theorem paddr (h : AHeap) {A : List (Int × Int)} {k : Nat} (hk : k < A.length) : h.addr 2 (lstP A) (k : Int) = some (.fp 0 (pairC (A.getD k (0, 0)))) := by
  have := addr_lstN (h := h) (sz := 2) (f := pairC) (fun _ => rfl) (l := A) (j := (k : Int)) (by omega) (by omega) (0, 0) false
  rw [Int.toNat_natCast] at this
  exact this
theorem sameP_loop (fuel d : Nat) {a b : List (Int × Int)} (hl : a.length = b.length) (hn : a.length < 1000000000) {h : AHeap} : ∀ (n k : Nat), a.length < n + k → k ≤ a.length → a.take k = b.take k →
    (l_skolemref_SamePairs_0 fuel d n [(0, .slice (lstP a)), (1, .slice (lstP b)), (5, .int .i64 (k : Int))] h).bind (fun p => k_skolemref_SamePairs_0 fuel d p.1 p.2.1 p.2.2) = some (.bool (decide (a = b)), h) := by
  intro n
  induction n with
  | zero => intro k h1 h2; omega
  | succ n ih =>
    intro k h1 h2 h3
    rw [l_skolemref_SamePairs_0_eq, len_lst]
    by_cases hk : k < a.length
    · have e0 : ∀ x : Int × Int, Pt.elem 1 2 (0 : Int) (.fp 0 (pairC x)) = some (.fp 0 (pairC x)) := fun _ => rfl
      have e1 : ∀ x : Int × Int, Pt.elem 1 2 (1 : Int) (.fp 0 (pairC x)) = some (.fp 0 [.int .i64 x.2]) := fun _ => rfl
      have c0 : ∀ x : Int × Int, h.cell (.fp 0 (pairC x)) = some (.int .i64 x.1) := fun _ => rfl
      rw [bif_pos (by omega), paddr h hk, paddr h (A := b) (by omega)]
      simp only [Option.bind_some, e0, e1, c0, cell_fp, int_int]
      have ne : ∀ {p : Bool}, a.getD k (0, 0) ≠ b.getD k (0, 0) → p = false → (k_skolemref_SamePairs_1 fuel d n .normal [(0, .slice (lstP a)), (1, .slice (lstP b)), (5, .int .i64 (k : Int)), (6, .bool p)] h).bind (fun p => k_skolemref_SamePairs_0 fuel d p.1 p.2.1 p.2.2) = some (.bool (decide (a = b)), h) := by
        intro p hne hp
        subst hp
        rw [k_skolemref_SamePairs_1_n, Bool.not_false, cond_true]
        simp only [Option.bind_some, k_skolemref_SamePairs_0_r]
        rw [decide_eq_false (fun h => hne (by rw [h]))]
      by_cases he : (a.getD k (0, 0)).1 = (b.getD k (0, 0)).1
      · rw [bif_pos he]
        simp only [Option.bind_some]
        by_cases he2 : (a.getD k (0, 0)).2 = (b.getD k (0, 0)).2
        · have heq : a.getD k (0, 0) = b.getD k (0, 0) := Prod.ext he he2
          rw [decide_eq_true he2, k_skolemref_SamePairs_1_n, Bool.not_true, cond_false, sucS (by omega), ih (k + 1) (by omega) (by omega) (by rw [take_get hk (0, 0), take_get (by omega) (0, 0), h3, heq])]
        · exact ne (fun h => he2 (by rw [h])) (decide_eq_false he2)
      · rw [bif_neg he]
        simp only [Option.bind_some]
        exact ne (fun h => he (by rw [h])) rfl
    · have : k = a.length := by omega
      subst this
      rw [bif_neg (by omega)]
      have : a = b := by rw [List.take_length, hl, List.take_length] at h3; exact h3
      simp only [Option.bind_some, k_skolemref_SamePairs_0_x0]
      rw [decide_eq_true this]
theorem sameP_run (fuel d : Nat) {a b : List (Int × Int)} (hn : a.length < 1000000000) (hf : a.length < fuel) (h : AHeap) : run fuel (d + 1) F_skolemref_SamePairs [.slice (lstP a), .slice (lstP b)] h = some (.bool (decide (a = b)), h) := by
  refine pure_of rfl rfl (cc2 (canon_lstP 7 a) (canon_lstP 7 b)) (r := .bool (decide (a = b))) (h' := AHeap.none) ?_ rfl
  rw [e_skolemref_SamePairs, len_lst, len_lst]
  by_cases hl : a.length = b.length
  · rw [bif_npos (by omega)]
    have := sameP_loop fuel d hl hn (h := AHeap.none) fuel 0 (by omega) (by omega) rfl
    exact this
  · rw [bif_nneg (by omega), decide_eq_false (fun h => hl (by rw [h]))]
theorem okCi (i : Int) (A : List (Int × Int)) (O : List Int) : (!false && Nat.beq (List.length (circC i A O)) 3 && List.all (circC i A O) AVal.isCell) = true := rfl
theorem sameCi_run (fuel d : Nat) {i j : Int} {A B : List (Int × Int)} {O Q : List Int} (hA : A.length < 1000000000) (hAf : A.length < fuel) (hO : O.length < 1000000000) (hOf : O.length < fuel) (h : AHeap) :
    run fuel (d + 2) F_skolemref_SameCircuit [.agg (circC i A O), .agg (circC j B Q)] h = some (.bool (decide (i = j) && decide (A = B) && decide (O = Q)), h) := by
  refine pure_of rfl rfl (cc2 (canon_circ _ _ _) (canon_circ _ _ _)) (r := .bool (decide (i = j) && decide (A = B) && decide (O = Q))) ?_ rfl (h' := (AHeap.none.push 1 (circC i A O)).push 1 (circC j B Q))
  rw [e_skolemref_SameCircuit, show List.all (circC i A O) AVal.isCell = true from rfl, show List.all (circC j B Q) AVal.isCell = true from rfl, cond_true, cond_true, show (circC i A O).length = 3 from rfl, show (circC j B Q).length = 3 from rfl]
  have s1 := ((Sep0.start AHeap.none).push 1 3 (cs := circC i A O) rfl).push 1 3 (cs := circC j B Q) rfl
  generalize AHeap.none.next = P at s1
  generalize (AHeap.none.push 1 (circC i A O)).next = R at s1
  generalize (AHeap.none.push 1 (circC i A O)).push 1 (circC j B Q) = H at s1
  have a0 : H.cell (.mk ⟨P, 0, 0 + 0⟩ 3) = some (.int .i64 i) := s1.part (i := 0) rfl (by omega) rfl
  have a1 : H.cell (.mk ⟨P, 0, 0 + 1⟩ 3) = some (.slice (lstP A)) := s1.part (i := 0) rfl (by omega) rfl
  have a2 : H.cell (.mk ⟨P, 0, 0 + 2⟩ 3) = some (.slice (lstI O)) := s1.part (i := 0) rfl (by omega) rfl
  have b0 : H.cell (.mk ⟨R, 0, 0 + 0⟩ 3) = some (.int .i64 j) := s1.part (i := 1) rfl (by omega) rfl
  have b1 : H.cell (.mk ⟨R, 0, 0 + 1⟩ 3) = some (.slice (lstP B)) := s1.part (i := 1) rfl (by omega) rfl
  have b2 : H.cell (.mk ⟨R, 0, 0 + 2⟩ 3) = some (.slice (lstI Q)) := s1.part (i := 1) rfl (by omega) rfl
  simp only [field_mk, Option.bind_some, a0, a1, b0, b1, int_int, slice_slice]
  by_cases h1 : i = j
  · rw [decide_eq_true h1, sameP_run fuel d hA hAf]
    simp only [beq_self_eq_true, cond_true, Option.bind_some, bool_bool, Bool.true_and]
    by_cases h2 : A = B
    · rw [decide_eq_true h2]
      simp only [beq_self_eq_true, cond_true, a2, b2, Option.bind_some, slice_slice, Bool.true_and]
      rw [sameI_run fuel d (freeze_lstI 7 _) (freeze_lstI 7 _) hO hOf]
      simp only [Option.bind_some, bool_bool]
    · rw [decide_eq_false h2]
      rfl
  · rw [decide_eq_false h1]
    rfl
theorem sameCi_self (fuel d : Nat) {i : Int} {A : List (Int × Int)} {O : List Int} (hA : A.length < 1000000000) (hAf : A.length < fuel) (hO : O.length < 1000000000) (hOf : O.length < fuel) (h : AHeap) :
    run fuel (d + 2) F_skolemref_SameCircuit [.agg (circC i A O), .agg (circC i A O)] h = some (.bool true, h) := by
  rw [sameCi_run fuel d hA hAf hO hOf, decide_eq_true (rfl : i = i), decide_eq_true (rfl : A = A), decide_eq_true (rfl : O = O)]
  rfl

/-! what is read -/
end Go.Proofs.YtmjbjgbcpaagmaaDoor

namespace Go.Proofs.YtmjbjgbcpaagmaaDoor
open Go.RowKit

def scanS : Nat → List UInt8 → Nat → Bool → Bool → List Wd
  | 0, _, _, _, _ => []
  | _ + 1, [], _, _, _ => []
  | n + 1, c :: r, p, f, s => if c = 10 then scanS n r (p + 1) true false else
      if isW c = true then (if (s || (f && c == 99)) = true then [] else [⟨(c :: r).takeWhile isW, p, f⟩]) ++ scanS n ((c :: r).dropWhile isW) (p + ((c :: r).takeWhile isW).length) false (s || (f && c == 99))
      else scanS n r (p + 1) f s
theorem drop_take_len {α : Type} (p : α → Bool) : ∀ l : List α, l.dropWhile p = l.drop (l.takeWhile p).length
  | [] => rfl
  | a :: l => by
    rw [List.dropWhile_cons, List.takeWhile_cons]
    split
    · rw [List.length_cons, List.drop_succ_cons, drop_take_len p l]
    · rfl
theorem take_tw {α : Type} (p : α → Bool) : ∀ l : List α, l.take (l.takeWhile p).length = l.takeWhile p
  | [] => rfl
  | a :: l => by
    rw [List.takeWhile_cons]
    split
    · rw [List.length_cons, List.take_succ_cons, take_tw p l]
    · rfl
theorem dropWhile_le (l : List UInt8) : (l.dropWhile isW).length ≤ l.length := by rw [drop_take_len, List.length_drop]; omega
/-- the words of a text that begins at a place; whether a line begins there; whether its line is left out -/
def wordsOf (l : List UInt8) (p : Nat) (f s : Bool) : List Wd := scanS (l.length + 1) l p f s
/-- what stands behind a word -/
def Stops (r : List UInt8) : Prop := ∀ c r', r = c :: r' → isW c = false
theorem take_word {w r : List UInt8} (hw : w.all isW = true) (hr : Stops r) : (w ++ r).takeWhile isW = w ∧ (w ++ r).dropWhile isW = r := by
  induction w with
  | nil =>
    cases r with
    | nil => exact ⟨rfl, rfl⟩
    | cons c r =>
      have := hr c r rfl
      simp [List.takeWhile_cons, List.dropWhile_cons, this]
  | cons a w ih =>
    simp only [List.all_cons, Bool.and_eq_true] at hw
    obtain ⟨h1, h2⟩ := ih hw.2
    rw [List.cons_append, List.takeWhile_cons, List.dropWhile_cons, if_pos hw.1, if_pos hw.1, h1, h2]
    exact ⟨rfl, rfl⟩
theorem isW_ten : isW 10 = false := by decide
theorem Stops.nil : Stops [] := fun _ _ h => by cases h
theorem Stops.sp (r : List UInt8) : Stops (32 :: r) := fun c r' h => by cases h; decide
theorem Stops.nl (r : List UInt8) : Stops (10 :: r) := fun c r' h => by cases h; decide

/-! numbers -/
theorem dig_isW {c : UInt8} (h : isDig c = true) : isW c = true := by
  obtain ⟨h1, h2⟩ := isDig_true h
  unfold isW kindI
  have : ¬ ((c.toNat : Int) = 32 ∨ (c.toNat : Int) = 9 ∨ (c.toNat : Int) = 13) := by omega
  rw [if_neg this, if_neg (by omega)]
  rfl
theorem all_mono {p q : UInt8 → Bool} (h : ∀ c, p c = true → q c = true) {l : List UInt8} (hl : l.all p = true) : l.all q = true :=
  List.all_eq_true.2 fun c hc => h c (List.all_eq_true.1 hl c hc)
theorem decN_is (u : Nat) : (decN u).all isDig = true ∧ 1 ≤ (decN u).length ∧ valI 0 (decN u) = (u : Int) := by
  obtain ⟨D, e1, e2, e3, e4, e5⟩ := decA_is (u + 1) u u [] (Nat.lt_of_lt_of_le (Nat.lt_pow_self (by omega : 1 < 10)) (Nat.pow_le_pow_right (by omega) (by omega))) (by omega)
  unfold decN
  rw [e1, List.append_nil]
  exact ⟨e2, e3, e5⟩
theorem decN_small {u : Nat} (h : u < 1000000000) : (decN u).length ≤ 9 := by
  rcases Nat.lt_or_ge u 9 with h9 | h9
  · have : ∀ v, v < 9 → (decN v).length ≤ 9 := by decide
    exact this u h9
  · obtain ⟨D, e1, e2, e3, e4, e5⟩ := decA_is (u + 1) u 8 [] (by omega) (by omega)
    unfold decN
    rw [e1, List.append_nil]
    omega
theorem dig_ne {c : UInt8} (h : isDig c = true) {k : UInt8} (hk : isDig k = false) : c ≠ k := by
  rintro rfl
  rw [h] at hk; cases hk
theorem head_dig {l : List UInt8} (h : l.all isDig = true) (h1 : 1 ≤ l.length) : isDig (l.getD 0 0) = true := by
  cases l with
  | nil => simp at h1
  | cons a l =>
    simp only [List.all_cons, Bool.and_eq_true] at h
    exact h.1
theorem decN_num {u : Nat} (h : u < 1000000000) : okNum (decN u) = true ∧ numW (decN u) = (u : Int) ∧ minusI (decN u) = false := by
  obtain ⟨h1, h2, h3⟩ := decN_is u
  have h4 := decN_small h
  have hm : minusI (decN u) = false := by
    unfold minusI
    have := dig_ne (head_dig h1 h2) (k := 45) (by decide)
    rw [beq_false_of_ne this, Bool.and_false]
  have hd : digitsI (decN u) = decN u := by unfold digitsI; rw [if_neg (by rw [hm]; simp)]
  have ho : okNum (decN u) = true := by
    unfold okNum
    rw [hd, decide_eq_false (by omega), h1]; rfl
  refine ⟨ho, ?_, hm⟩
  unfold numW
  rw [if_pos ho, if_neg (by rw [hm]; simp), hd, h3]
theorem decT_num {x : Int} (h0 : -1000000000 < x) (h1 : x < 1000000000) : okNum (decT x) = true ∧ numW (decT x) = x ∧ (0 ≤ x → minusI (decT x) = false) := by
  unfold decT
  by_cases hx : x < 0
  · rw [if_pos hx]
    obtain ⟨a1, a2, a3⟩ := decN_is (-x).toNat
    have a4 := decN_small (u := (-x).toNat) (by omega)
    have hm : minusI (45 :: decN (-x).toNat) = true := by unfold minusI; simp
    have hd : digitsI (45 :: decN (-x).toNat) = decN (-x).toNat := by unfold digitsI; rw [if_pos hm]; rfl
    have ho : okNum (45 :: decN (-x).toNat) = true := by
      unfold okNum
      rw [hd, decide_eq_false (by omega), a1]; rfl
    refine ⟨ho, ?_, fun h => by omega⟩
    unfold numW
    rw [if_pos ho, if_pos hm, hd, a3]
    omega
  · rw [if_neg hx]
    obtain ⟨a1, a2, a3⟩ := decN_num (u := x.toNat) (by omega)
    exact ⟨a1, by rw [a2]; omega, fun _ => a3⟩
theorem decT_word (x : Int) : decT x ≠ [] ∧ (decT x).all isW = true ∧ (decT x).getD 0 0 ≠ 99 ∧ (decT x).getD 0 0 ≠ 97 ∧ (decT x).getD 0 0 ≠ 101 ∧ (decT x).getD 0 0 ≠ 100 := by
  unfold decT
  by_cases hx : x < 0
  · rw [if_pos hx]
    obtain ⟨a1, a2, a3⟩ := decN_is (-x).toNat
    refine ⟨by simp, ?_, by simp, by simp, by simp, by simp⟩
    rw [List.all_cons, all_mono (fun c => dig_isW) a1]
    decide
  · rw [if_neg hx]
    obtain ⟨a1, a2, a3⟩ := decN_is x.toNat
    have hh := head_dig a1 a2
    exact ⟨fun e => by rw [e] at a2; simp at a2, all_mono (fun c => dig_isW) a1, dig_ne hh (by decide), dig_ne hh (by decide), dig_ne hh (by decide), dig_ne hh (by decide)⟩
end Go.Proofs.YtmjbjgbcpaagmaaDoor

namespace Go.Proofs.YtmjbjgbcpaagmaaDoor
open Go.RowKit

def scanN : Nat → List UInt8 → Nat → Bool → List Wd
  | 0, _, _, _ => []
  | _ + 1, [], _, _ => []
  | n + 1, c :: r, p, f => if c = 10 then scanN n r (p + 1) true else
      if isW c = true then ⟨(c :: r).takeWhile isW, p, f⟩ :: scanN n ((c :: r).dropWhile isW) (p + ((c :: r).takeWhile isW).length) false
      else scanN n r (p + 1) f
theorem refGo_scanN {b : List UInt8} : ∀ (n i : Nat) (f : Bool), refGo b false n i f false = scanN n (b.drop i) i f
  | 0, i, f => by simp [refGo, scanN]
  | n + 1, i, f => by
    unfold refGo
    by_cases hi : i < b.length
    · have hd := drop_cons hi
      have ht : (b.drop i).take (wEnd b i - i) = (b.drop i).takeWhile isW := by
        unfold wEnd
        rw [Nat.add_sub_cancel_left]
        exact take_tw isW _
      have he : b.drop (wEnd b i) = (b.drop i).dropWhile isW := by
        rw [drop_take_len, List.drop_drop]
        unfold wEnd
        rfl
      simp only [Bool.false_and, Bool.or_false, Bool.false_eq_true, if_false]
      rw [if_pos hi, ht, refGo_scanN n (i + 1), refGo_scanN n (wEnd b i), refGo_scanN n (i + 1), he, show wEnd b i = i + ((b.drop i).takeWhile isW).length from rfl]
      rw [hd]
      simp only [scanN]
      rfl
    · rw [if_neg hi, List.drop_eq_nil_of_le (by omega)]
      simp [scanN]
theorem scanN_fuel : ∀ (n m : Nat) (l : List UInt8) (p : Nat) (f : Bool), l.length < n → l.length < m → scanN n l p f = scanN m l p f
  | 0, m, l, p, f, h1, h2 => by omega
  | n + 1, 0, l, p, f, h1, h2 => by omega
  | n + 1, m + 1, [], p, f, h1, h2 => by simp [scanN]
  | n + 1, m + 1, c :: r, p, f, h1, h2 => by
    simp only [scanN, List.length_cons] at *
    rw [scanN_fuel n m r _ _ (by omega) (by omega), scanN_fuel n m r _ _ (by omega) (by omega)]
    by_cases hw : isW c = true
    · have hdw : (c :: r).dropWhile isW = r.dropWhile isW := by rw [List.dropWhile_cons, if_pos hw]
      have := dropWhile_le r
      rw [hdw, scanN_fuel n m (r.dropWhile isW) _ _ (by omega) (by omega)]
    · rw [if_neg hw, if_neg hw]
/-- the words of a text that begins at a place; whether a line begins there -/
def wordsN (l : List UInt8) (p : Nat) (f : Bool) : List Wd := scanN (l.length + 1) l p f
theorem splitOf_wordsN (b : List UInt8) : splitOf b false = wordsN b 0 true := by
  rw [splitOf_ref, refGo_scanN, List.drop_zero]; rfl
theorem N_nil (p : Nat) (f : Bool) : wordsN [] p f = [] := by simp [wordsN, scanN]
theorem N_nl (r : List UInt8) (p : Nat) (f : Bool) : wordsN (10 :: r) p f = wordsN r (p + 1) true := by
  unfold wordsN
  rw [List.length_cons]
  simp only [scanN, if_true]
theorem N_blank {c : UInt8} (hc : c ≠ 10) (hw : isW c = false) (r : List UInt8) (p : Nat) (f : Bool) : wordsN (c :: r) p f = wordsN r (p + 1) f := by
  unfold wordsN
  rw [List.length_cons]
  simp only [scanN, if_neg hc, hw, Bool.false_eq_true, if_false]
theorem N_sp (r : List UInt8) (p : Nat) (f : Bool) : wordsN (32 :: r) p f = wordsN r (p + 1) f := N_blank (by decide) (by decide) r p f
theorem N_word {w r : List UInt8} (hne : w ≠ []) (hw : w.all isW = true) (hr : Stops r) (p : Nat) (f : Bool) : wordsN (w ++ r) p f = ⟨w, p, f⟩ :: wordsN r (p + w.length) false := by
  obtain ⟨c, w', rfl⟩ := List.exists_cons_of_ne_nil hne
  obtain ⟨h1, h2⟩ := take_word hw hr
  simp only [List.all_cons, Bool.and_eq_true] at hw
  have hc : c ≠ 10 := by
    rintro rfl
    rw [isW_ten] at hw
    cases hw.1
  have h0 : wordsN (c :: w' ++ r) p f = ⟨(c :: w' ++ r).takeWhile isW, p, f⟩ :: scanN (c :: w' ++ r).length ((c :: w' ++ r).dropWhile isW) (p + ((c :: w' ++ r).takeWhile isW).length) false := by
    unfold wordsN
    rw [List.cons_append]
    simp only [scanN, if_neg hc, hw.1, if_true]
  rw [h0, h1, h2]
  congr 1
  unfold wordsN
  exact scanN_fuel _ _ _ _ _ (by simp; omega) (by omega)

/-! lines of numbers -/
def lnW : List Int → Nat → Bool → List Wd
  | [], _, _ => []
  | x :: l, p, f => ⟨decT x, p, f⟩ :: lnW l (p + (decT x).length + 1) false
theorem lineB_cons (x y : Int) (l : List Int) : lineB (x :: y :: l) = decT x ++ 32 :: lineB (y :: l) := by
  unfold lineB
  rw [List.map_cons, Lib.join_cons, List.map_cons, Lib.join_cons]
  simp [Lib.joinTail]
theorem lineB_one (x : Int) : lineB [x] = decT x ++ [10] := by
  unfold lineB
  rw [List.map_cons, List.map_nil, Lib.join_one]
theorem N_line : ∀ (l : List Int) (r : List UInt8) (p : Nat) (f : Bool), l ≠ [] → wordsN (lineB l ++ r) p f = lnW l p f ++ wordsN r (p + (lineB l).length) true
  | [], r, p, f, h => absurd rfl h
  | [x], r, p, f, _ => by
    obtain ⟨w1, w2, _⟩ := decT_word x
    rw [lineB_one, List.append_assoc, show ([10] ++ r : List UInt8) = 10 :: r from rfl, N_word w1 w2 (Stops.nl _), N_nl]
    simp [lnW, Nat.add_assoc]
  | x :: y :: l, r, p, f, _ => by
    obtain ⟨w1, w2, _⟩ := decT_word x
    rw [lineB_cons, List.append_assoc, List.cons_append, N_word w1 w2 (Stops.sp _), N_sp, N_line (y :: l) r _ _ (by simp)]
    simp only [lnW, List.cons_append, List.length_append, List.length_cons]
    rw [show p + (decT x).length + 1 + (lineB (y :: l)).length = p + ((decT x).length + ((lineB (y :: l)).length + 1)) by omega]
def restB : Bool → List Int → List UInt8
  | _, [] => []
  | f, x :: l => (if f = true then [] else [32]) ++ (decT x ++ restB false l)
theorem lineB_rest : ∀ (l : List Int), lineB l = restB true l ++ [10]
  | [] => rfl
  | [x] => by rw [lineB_one]; simp [restB]
  | x :: y :: l => by
    rw [lineB_cons, lineB_rest (y :: l)]
    simp [restB]
/-- a number that is read as it is -/
theorem numF_dec {x lo hi : Int} (h0 : 0 ≤ x) (h1 : x < 1000000000) (hl : lo ≤ x) (hh : x ≤ hi) (p : Nat) (f : Bool) (W : List Wd) : numF f lo hi (⟨decT x, p, f⟩ :: W) = some x := by
  obtain ⟨a1, a2, a3⟩ := decT_num (x := x) (by omega) h1
  unfold numF wF plainW
  simp only [beq_self_eq_true, if_true, Option.bind_some, a1, a2, a3 h0]
  rw [decide_eq_true hl, decide_eq_true hh]; rfl
theorem insT_text {e : Int} : ∀ (n k p : Nat) (r : List UInt8), 2 * (k + n) < 1000000000 → ∃ q, insT e k n (wordsN (insTx k n ++ r) p true) = .ok (wordsN r q true) ∧ q = p + (insTx k n).length
  | 0, k, p, r, _ => ⟨p, rfl, rfl⟩
  | n + 1, k, p, r, h => by
    obtain ⟨q, e1, e2⟩ := insT_text (e := e) n (k + 1) (p + (lineB [2 * ((k : Int) + 1)]).length) r (by omega)
    refine ⟨q, ?_, ?_⟩
    · rw [insTx, List.append_assoc, N_line _ _ _ _ (by simp)]
      simp only [lnW, List.cons_append, List.nil_append]
      unfold insT
      rw [numF_dec (by omega) (by omega) (by omega) (by omega)]
      exact e1
    · rw [e2, insTx, List.length_append]; omega
theorem outsT_text {e m : Int} : ∀ (O : List Int) (p : Nat) (r : List UInt8) (acc : List Int), (∀ x ∈ O, 0 ≤ x ∧ x ≤ 2 * m + 1 ∧ x < 1000000000) → ∃ q, outsT e m O.length (wordsN (outsTx O ++ r) p true) acc = .ok (acc ++ O, wordsN r q true) ∧ q = p + (outsTx O).length
  | [], p, r, acc, _ => ⟨p, by simp [outsT, outsTx], by simp [outsTx]⟩
  | x :: O, p, r, acc, h => by
    obtain ⟨h1, h2, h3⟩ := h x List.mem_cons_self
    obtain ⟨q, e1, e2⟩ := outsT_text (e := e) (m := m) O (p + (lineB [x]).length) r (acc ++ [x]) fun y hy => h y (List.mem_cons_of_mem _ hy)
    have hx : outsTx (x :: O) = lineB [x] ++ outsTx O := by simp [outsTx]
    refine ⟨q, ?_, ?_⟩
    · rw [hx, List.append_assoc, N_line _ _ _ _ (by simp), List.length_cons]
      simp only [lnW, List.cons_append, List.nil_append]
      unfold outsT
      rw [numF_dec h1 h3 h1 h2]
      simp only [List.drop_succ_cons, List.drop_zero]
      rw [e1]
      simp
    · rw [e2, hx, List.length_append]; omega
def AndsOk (i : Int) : Int → List (Int × Int) → Prop
  | _, [] => True
  | k, p :: l => (0 ≤ p.2 ∧ p.2 ≤ p.1 ∧ p.1 < 2 * (i + k + 1)) ∧ AndsOk i (k + 1) l
theorem andsT_text {e : Int} {i : Nat} : ∀ (A : List (Int × Int)) (k p : Nat) (r : List UInt8) (acc : List (Int × Int)), 2 * (i + k + A.length) < 1000000000 → AndsOk i k A → ∃ q, andsT e i k A.length (wordsN (andsTx i k A ++ r) p true) acc = .ok (acc ++ A, wordsN r q true) ∧ q = p + (andsTx i k A).length
  | [], k, p, r, acc, _, _ => ⟨p, by simp [andsT, andsTx], by simp [andsTx]⟩
  | x :: A, k, p, r, acc, hb, h => by
    simp only [List.length_cons] at hb
    obtain ⟨⟨h1, h2, h3⟩, h4⟩ := h
    obtain ⟨q, e1, e2⟩ := andsT_text (e := e) (i := i) A (k + 1) (p + (lineB [2 * ((i : Int) + k + 1), x.1, x.2]).length) r (acc ++ [x]) (by omega) (by rw [show ((k + 1 : Nat) : Int) = (k : Int) + 1 by omega]; exact h4)
    refine ⟨q, ?_, ?_⟩
    · rw [andsTx, List.append_assoc, N_line _ _ _ _ (by simp), List.length_cons]
      simp only [lnW, List.cons_append, List.nil_append]
      unfold andsT andT
      rw [numF_dec (by omega) (by omega) (by omega) (by omega)]
      simp only [List.drop_succ_cons, List.drop_zero]
      rw [numF_dec (by omega) (by omega) (by omega) (by omega)]
      simp only
      rw [numF_dec (by omega) (by omega) (by omega) (by omega)]
      simp only
      rw [e1]
      simp
    · rw [e2, andsTx, List.length_append]; omega

/-- a right circuit -/
structure CiR (i : Nat) (A : List (Int × Int)) (O : List Int) : Prop where
  hn : i + A.length ≤ 8000
  hO : O.length ≤ 8000
  hA : AndsOk i 0 A
  hx : ∀ x ∈ O, 0 ≤ x ∧ x ≤ 2 * ((i : Int) + A.length) + 1
theorem AndsOk.range {i : Int} : ∀ {A : List (Int × Int)} {k : Int}, AndsOk i k A → ∀ p ∈ A, 0 ≤ p.2 ∧ p.2 ≤ p.1 ∧ p.1 < 2 * (i + k + A.length)
  | [], k, _, p, hp => by cases hp
  | x :: A, k, h, p, hp => by
    rw [List.length_cons]
    rcases List.mem_cons.1 hp with rfl | hp
    · obtain ⟨h1, h2, h3⟩ := h.1
      omega
    · obtain ⟨h1, h2, h3⟩ := h.2.range p hp
      omega
theorem CiR.ok {i : Nat} {A : List (Int × Int)} {O : List Int} (h : CiR i A O) : CiOk i A O := by
  have hn := h.hn
  have hO := h.hO
  refine ⟨by omega, by omega, by omega, fun p hp => ?_, fun x hx => ?_⟩
  · obtain ⟨h1, h2, h3⟩ := h.hA.range p hp
    exact ⟨in64 (by omega) (by omega), in64 (by omega) (by omega)⟩
  · obtain ⟨h1, h2⟩ := h.hx x hx
    exact in64 (by omega) (by omega)
theorem numsH_ln {e : Int} : ∀ (l : List Int) (p : Nat) (W : List Wd) (acc : List Int), (∀ x ∈ l, 0 ≤ x ∧ x < 1000000000) → numsH e l.length (lnW l p false ++ W) acc = .ok (acc ++ l)
  | [], p, W, acc, _ => by simp [numsH]
  | x :: l, p, W, acc, h => by
    obtain ⟨h1, h2⟩ := h x List.mem_cons_self
    obtain ⟨a1, a2, a3⟩ := decT_num (x := x) (by omega) h2
    simp only [lnW, List.cons_append, List.length_cons]
    unfold numsH wF plainW
    simp only [beq_self_eq_true, if_true, a1, a2, a3 h1, Bool.not_false, Bool.and_self, List.drop_succ_cons, List.drop_zero]
    rw [numsH_ln l _ W _ fun y hy => h y (List.mem_cons_of_mem _ hy)]
    simp
theorem lnW_len : ∀ (l : List Int) (p : Nat) (f : Bool), (lnW l p f).length = l.length
  | [], _, _ => rfl
  | x :: l, p, f => by simp [lnW, lnW_len l]
/-- the words of a head -/
theorem head_words (l : List Int) (hl : l ≠ []) (r : List UInt8) : ∃ q, wordsN ([97, 97, 103, 32] ++ lineB l ++ r) 0 true = ⟨[97, 97, 103], 0, true⟩ :: (lnW l 4 false ++ wordsN r q true) ∧ q = 4 + (lineB l).length := by
  refine ⟨_, ?_, rfl⟩
  rw [show ([97, 97, 103, 32] ++ lineB l ++ r : List UInt8) = [97, 97, 103] ++ 32 :: (lineB l ++ r) by simp, N_word (by simp) (by decide) (Stops.sp _), N_sp, N_line _ _ _ _ hl]
  rfl
/-- a circuit's text, whatever is behind it -/
theorem readC_text {i : Nat} {A : List (Int × Int)} {O : List Int} (h : CiR i A O) (r : List UInt8) : readC (aagTx i A O ++ r) = match endT (wordsN r (aagTx i A O).length true) with
    | some p => .error (101, p)
    | none => .ok ((i : Int), A, O) := by
  obtain ⟨hn, hO, hA, hx⟩ := h
  unfold readC
  rw [splitOf_wordsN]
  generalize ((aagTx i A O ++ r).length : Int) = e
  have ht : aagTx i A O ++ r = [97, 97, 103, 32] ++ lineB (headL i A O) ++ (insTx 0 i ++ (outsTx O ++ (andsTx i 0 A ++ r))) := by simp [aagTx]
  have hlen : (aagTx i A O).length = 4 + (lineB (headL i A O)).length + (insTx 0 i).length + (outsTx O).length + (andsTx i 0 A).length := by simp [aagTx]; omega
  obtain ⟨q, e1, e2⟩ := head_words (headL i A O) (by simp [headL]) (insTx 0 i ++ (outsTx O ++ (andsTx i 0 A ++ r)))
  rw [ht, e1, headA_cons rfl rfl]
  rw [show (5 : Nat) = (headL i A O).length from rfl, numsH_ln _ _ _ _ (fun x hx => by simp [headL] at hx; rcases hx with rfl | rfl | rfl | rfl | rfl <;> omega)]
  simp only [List.nil_append]
  rw [show (headL i A O).getD 0 0 = (i : Int) + A.length from rfl, show (headL i A O).getD 1 0 = (i : Int) from rfl, show (headL i A O).getD 2 0 = 0 from rfl, show (headL i A O).getD 3 0 = (O.length : Int) from rfl, show (headL i A O).getD 4 0 = (A.length : Int) from rfl]
  have hl : limT ((i : Int) + A.length) i 0 O.length A.length = none := by
    unfold limT
    rw [if_neg (by omega), if_neg (by omega), if_neg (by omega), if_neg (by simp), if_neg (by simp)]
  rw [hl]
  simp only
  rw [show (headL i A O).getD 0 0 = (i : Int) + A.length from rfl, show (headL i A O).getD 1 0 = (i : Int) from rfl, show (headL i A O).getD 3 0 = (O.length : Int) from rfl, show (headL i A O).getD 4 0 = (A.length : Int) from rfl]
  have hdrop : (⟨[97, 97, 103], 0, true⟩ :: (lnW (headL i A O) 4 false ++ wordsN (insTx 0 i ++ (outsTx O ++ (andsTx i 0 A ++ r))) q true) : List Wd).drop 6 = wordsN (insTx 0 i ++ (outsTx O ++ (andsTx i 0 A ++ r))) q true := by
    rw [List.drop_succ_cons, List.drop_append_of_le_length (by rw [lnW_len]; exact Nat.le_refl _), List.drop_eq_nil_of_le (by rw [lnW_len]; exact Nat.le_refl _), List.nil_append]
  rw [hdrop]
  unfold bodyT
  rw [Int.toNat_natCast, Int.toNat_natCast, Int.toNat_natCast]
  obtain ⟨q1, f1, g1⟩ := insT_text (e := e) i 0 q (outsTx O ++ (andsTx i 0 A ++ r)) (by omega)
  rw [f1]
  simp only
  obtain ⟨q2, f2, g2⟩ := outsT_text (e := e) (m := (i : Int) + A.length) O q1 (andsTx i 0 A ++ r) [] (fun x hxm => by have := hx x hxm; omega)
  rw [f2]
  simp only [List.nil_append]
  obtain ⟨q3, f3, g3⟩ := andsT_text (e := e) (i := i) A 0 q2 r [] (by omega) hA
  rw [f3]
  simp only [List.nil_append]
  rw [hlen, show q3 = 4 + (lineB (headL i A O)).length + (insTx 0 i).length + (outsTx O).length + (andsTx i 0 A).length by omega]
  cases endT (wordsN r (4 + (lineB (headL i A O)).length + (insTx 0 i).length + (outsTx O).length + (andsTx i 0 A).length) true) <;> rfl
theorem readC_back {i : Nat} {A : List (Int × Int)} {O : List Int} (h : CiR i A O) : readC (aagTx i A O) = .ok ((i : Int), A, O) := by
  have := readC_text h []
  rw [List.append_nil] at this
  rw [this, N_nil]
  rfl
end Go.Proofs.YtmjbjgbcpaagmaaDoor

namespace Go.Proofs.YtmjbjgbcpaagmaaDoor
open Go.RowKit

/-! numbers in bytes -/
def smallB : Nat → Nat → List UInt8
  | 0, _ => []
  | f + 1, n => if n < 128 then [UInt8.ofNat n] else UInt8.ofNat (n % 128 + 128) :: smallB f (n / 128)
def smB (n : Nat) : List UInt8 := smallB 10 n
def numT : Nat → Nat → Nat → List UInt8 → Option (Nat × Nat)
  | 0, _, _, _ => none
  | _ + 1, _, _, [] => none
  | f + 1, i, m, c :: r => if 128 ≤ c.toNat then numT f (i + 1) (m + c.toNat % 128 * 128 ^ i) r else some (m + c.toNat % 128 * 128 ^ i, i + 1)
theorem numT_small : ∀ (f g i m n : Nat) (r : List UInt8), n < 128 ^ f → n < 128 ^ g → 0 < f → 0 < g → numT f i m (smallB g n ++ r) = some (m + n * 128 ^ i, i + (smallB g n).length)
  | 0, g, i, m, n, r, h1, h2, h3, h4 => by omega
  | f + 1, 0, i, m, n, r, h1, h2, h3, h4 => by omega
  | f + 1, g + 1, i, m, n, r, h1, h2, h3, h4 => by
    unfold smallB
    by_cases hn : n < 128
    · rw [if_pos hn]
      have hc : (UInt8.ofNat n).toNat = n := by rw [UInt8.toNat_ofNat']; omega
      simp only [List.cons_append, List.nil_append, numT, hc]
      rw [if_neg (by omega), Nat.mod_eq_of_lt hn]
      rfl
    · rw [if_neg hn]
      have hc : (UInt8.ofNat (n % 128 + 128)).toNat = n % 128 + 128 := by rw [UInt8.toNat_ofNat']; omega
      have hm : (n % 128 + 128) % 128 = n % 128 := by omega
      rw [Nat.pow_succ] at h1 h2
      have f0 : 0 < f := by
        rcases Nat.eq_zero_or_pos f with h | h
        · subst h; simp at h1; omega
        · exact h
      have g0 : 0 < g := by
        rcases Nat.eq_zero_or_pos g with h | h
        · subst h; simp at h2; omega
        · exact h
      simp only [List.cons_append, numT, hc, hm, List.length_cons]
      rw [if_pos (by omega), numT_small f g (i + 1) _ (n / 128) r (by omega) (by omega) f0 g0, Nat.pow_succ]
      have : n % 128 * 128 ^ i + n / 128 * (128 ^ i * 128) = n * 128 ^ i := by
        rw [Nat.mul_comm (128 ^ i) 128, ← Nat.mul_assoc, ← Nat.add_mul]
        congr 1
        omega
      rw [Nat.add_assoc, this, Nat.add_assoc, Nat.add_comm 1]
theorem smallB_len : ∀ (f n : Nat), (smallB f n).length ≤ f
  | 0, n => by simp [smallB]
  | f + 1, n => by
    unfold smallB
    have := smallB_len f (n / 128)
    split <;> simp <;> omega
/-- a number from a least to a greatest one, and its length -/
def delG (r : List UInt8) (lo hi : Int) : Option (Int × Nat) := (numT 5 0 0 r).bind fun p => if lo ≤ (p.1 : Int) ∧ (p.1 : Int) ≤ hi then some ((p.1 : Int), p.2) else none
theorem delG_small {n : Nat} {lo hi : Int} (h : n < 34359738368) (h0 : lo ≤ n) (h1 : (n : Int) ≤ hi) (r : List UInt8) : delG (smB n ++ r) lo hi = some ((n : Int), (smB n).length) := by
  unfold delG smB
  rw [numT_small 5 10 0 0 n r (by omega) (by omega) (by omega) (by omega)]
  simp only [Option.bind_some, Nat.zero_add, Nat.pow_zero, Nat.mul_one]
  rw [if_pos ⟨h0, h1⟩]
/-! lines -/
/-- the words of the line that begins here, if it has so many, and its length with its end -/
def lnT (r : List UInt8) (many : Nat) : Option (List (List UInt8) × Nat) :=
  if Lib.indexByte r 10 < 0 then none else
    let w := (splitOf (r.take (Lib.indexByte r 10).toNat) false).map (·.text)
    if w.length = many then some (w, (Lib.indexByte r 10).toNat + 1) else none
theorem idx_at : ∀ {w : List UInt8} (r : List UInt8), (∀ c ∈ w, c ≠ 10) → Lib.indexByte (w ++ 10 :: r) 10 = (w.length : Int)
  | [], r, _ => rfl
  | c :: w, r, h => by
    have ih := idx_at (w := w) r fun x hx => h x (List.mem_cons_of_mem _ hx)
    rw [List.cons_append, Lib.indexByte, if_neg (by simpa using h c List.mem_cons_self), ih, if_neg (by rw [beq_iff_eq]; omega)]
    simp
theorem lnT_at {w : List UInt8} (r : List UInt8) (hw : ∀ c ∈ w, c ≠ 10) (many : Nat) : lnT (w ++ 10 :: r) many = if ((wordsN w 0 true).map (·.text)).length = many then some ((wordsN w 0 true).map (·.text), w.length + 1) else none := by
  unfold lnT
  rw [idx_at r hw, if_neg (by omega), Int.toNat_natCast, List.take_left, splitOf_wordsN]
theorem decT_no10 (x : Int) : ∀ c ∈ decT x, c ≠ 10 := by
  intro c hc
  have := List.all_eq_true.1 (decT_word x).2.1 c hc
  rintro rfl
  rw [isW_ten] at this
  cases this
theorem restB_no10 : ∀ (l : List Int) (f : Bool), ∀ c ∈ restB f l, c ≠ 10
  | [], f, c, h => by cases h
  | x :: l, f, c, h => by
    unfold restB at h
    rcases List.mem_append.1 h with h | h
    · cases f
      · simp at h; subst h; decide
      · simp at h
    · rcases List.mem_append.1 h with h | h
      · exact decT_no10 x c h
      · exact restB_no10 l false c h
theorem Stops.rest (l : List Int) : Stops (restB false l) := by
  cases l with
  | nil => exact Stops.nil
  | cons x l => exact Stops.sp _
theorem N_rest : ∀ (l : List Int) (p : Nat) (f : Bool), wordsN (restB false l) p f = lnW l (p + 1) f
  | [], p, f => N_nil p f
  | x :: l, p, f => by
    obtain ⟨w1, w2, _⟩ := decT_word x
    unfold restB
    simp only [Bool.false_eq_true, if_false, List.cons_append, List.nil_append]
    rw [N_sp, N_word w1 w2 (Stops.rest l), N_rest l]
    rfl
theorem N_rest1 (x : Int) (l : List Int) (p : Nat) (f : Bool) : wordsN (restB true (x :: l)) p f = lnW (x :: l) p f := by
  obtain ⟨w1, w2, _⟩ := decT_word x
  unfold restB
  simp only [if_true, List.nil_append]
  rw [N_word w1 w2 (Stops.rest l), N_rest l]
  rfl
theorem lnW_text : ∀ (l : List Int) (p : Nat) (f : Bool), (lnW l p f).map (·.text) = l.map decT
  | [], p, f => rfl
  | x :: l, p, f => by simp [lnW, lnW_text l]
theorem lnT_line (x : Int) (l : List Int) (r : List UInt8) : lnT (lineB (x :: l) ++ r) (l.length + 1) = some ((x :: l).map decT, (lineB (x :: l)).length) := by
  rw [lineB_rest, List.append_assoc, show ([10] ++ r : List UInt8) = 10 :: r from rfl, lnT_at r (restB_no10 _ _), N_rest1, lnW_text, if_pos (by simp)]
  simp
/-! what is read -/
def outsG (b : List UInt8) (m : Int) : Nat → Nat → List Int → Except Int (List Int × Nat)
  | 0, k, acc => .ok (acc, k)
  | n + 1, k, acc => match lnT (b.drop k) 1 with
    | none => .error (k : Int)
    | some (ws, j) => if (plainW (ws.getD 0 []) && decide (numW (ws.getD 0 []) ≤ 2 * m + 1)) = true then outsG b m n (k + j) (acc ++ [numW (ws.getD 0 [])]) else .error (k : Int)
def andsG (b : List UInt8) (i : Int) : Nat → Nat → Nat → List (Int × Int) → Except Int (List (Int × Int) × Nat)
  | _, 0, p, acc => .ok (acc, p)
  | k, n + 1, p, acc => match delG (b.drop p) 1 (2 * (i + k + 1)) with
    | none => .error (p : Int)
    | some (x, j) => match delG (b.drop (p + j)) 0 (2 * (i + k + 1) - x) with
      | none => .error ((p + j : Nat) : Int)
      | some (y, j') => andsG b i (k + 1) n (p + j + j') (acc ++ [(2 * (i + k + 1) - x, 2 * (i + k + 1) - x - y)])
/-- what is behind is right -/
def endG : List UInt8 → Bool
  | [] => true
  | [_] => false
  | c :: e :: _ => c == 99 && e == 10
def headG (b : List UInt8) : Except Int (List Int × Nat) := match lnT b 6 with
  | none => .error 101
  | some (ws, k) => if (ws.getD 0 [] == [97, 105, 103] && (ws.drop 1).all plainW) = true then (match limT (numW (ws.getD 1 [])) (numW (ws.getD 2 [])) (numW (ws.getD 3 [])) (numW (ws.getD 4 [])) (numW (ws.getD 5 [])) with
      | some (_, c) => .error c
      | none => .ok ((ws.drop 1).map numW, k)) else .error 101
def readG (b : List UInt8) : Except (Int × Int) Ci := match headG b with
  | .error c => .error (c, 0)
  | .ok (N, k) => match outsG b (N.getD 0 0) (N.getD 3 0).toNat k [] with
    | .error p => .error (101, p)
    | .ok (O, k1) => match andsG b (N.getD 1 0) 0 (N.getD 4 0).toNat k1 [] with
      | .error p => .error (101, p)
      | .ok (A, k2) => if endG (b.drop k2) = true then .ok (N.getD 1 0, A, O) else .error (101, (k2 : Int))

/-! what is written -/
def andsB (i : Nat) : Nat → List (Int × Int) → List UInt8
  | _, [] => []
  | k, p :: l => smB (2 * ((i : Int) + k + 1) - p.1).toNat ++ (smB (p.1 - p.2).toNat ++ andsB i (k + 1) l)
def aigTx (i : Nat) (A : List (Int × Int)) (O : List Int) : List UInt8 := [97, 105, 103, 32] ++ lineB (headL i A O) ++ outsTx O ++ andsB i 0 A
theorem headG_any (x : Int) (l : List Int) (r : List UInt8) (hl : l.length = 4) (hx : ∀ y ∈ x :: l, 0 ≤ y ∧ y < 1000000000) : headG ([97, 105, 103, 32] ++ lineB (x :: l) ++ r) = match limT x (l.getD 0 0) (l.getD 1 0) (l.getD 2 0) (l.getD 3 0) with
    | some (_, c) => .error c
    | none => .ok (x :: l, 4 + (lineB (x :: l)).length) := by
  have e : lnT ([97, 105, 103, 32] ++ lineB (x :: l) ++ r) 6 = some ([97, 105, 103] :: (x :: l).map decT, 4 + (lineB (x :: l)).length) := by
    rw [lineB_rest, show ([97, 105, 103, 32] ++ (restB true (x :: l) ++ [10]) ++ r : List UInt8) = ([97, 105, 103] ++ 32 :: restB true (x :: l)) ++ 10 :: r by simp]
    rw [lnT_at r (fun c hc => by
      rcases List.mem_append.1 hc with hc | hc
      · simp at hc; rcases hc with rfl | rfl | rfl <;> decide
      · rcases List.mem_cons.1 hc with rfl | hc
        · decide
        · exact restB_no10 _ _ c hc), N_word (by simp) (by decide) (Stops.sp _), N_sp, N_rest1, List.map_cons, lnW_text, if_pos (by simp [hl])]
    simp
    omega
  have hd : ∀ y ∈ x :: l, plainW (decT y) = true ∧ numW (decT y) = y := by
    intro y hy
    obtain ⟨h0, h1⟩ := hx y hy
    obtain ⟨a1, a2, a3⟩ := decT_num (x := y) (by omega) h1
    exact ⟨by unfold plainW; rw [a1, a3 h0]; rfl, a2⟩
  unfold headG
  rw [e]
  match l, hl with
  | [a, b, c, d'], _ =>
    have q0 := hd x (by simp)
    have q1 := hd a (by simp)
    have q2 := hd b (by simp)
    have q3 := hd c (by simp)
    have q4 := hd d' (by simp)
    simp only [List.map_cons, List.map_nil, List.getD_cons_zero, List.getD_cons_succ, List.drop_succ_cons, List.drop_zero, List.all_cons, List.all_nil, q0.1, q1.1, q2.1, q3.1, q4.1, q0.2, q1.2, q2.2, q3.2, q4.2, beq_self_eq_true, Bool.and_self, if_true]
theorem drop_at (a r : List UInt8) : (a ++ r).drop a.length = r := List.drop_left
theorem outsG_text {m : Int} : ∀ (O : List Int) (b pre r : List UInt8) (acc : List Int), b = pre ++ outsTx O ++ r → (∀ x ∈ O, 0 ≤ x ∧ x ≤ 2 * m + 1 ∧ x < 1000000000) → outsG b m O.length pre.length acc = .ok (acc ++ O, (pre ++ outsTx O).length)
  | [], b, pre, r, acc, _, _ => by simp [outsG, outsTx]
  | x :: O, b, pre, r, acc, hb, h => by
    obtain ⟨h1, h2, h3⟩ := h x List.mem_cons_self
    have hx : outsTx (x :: O) = lineB [x] ++ outsTx O := by simp [outsTx]
    have hd : b.drop pre.length = lineB [x] ++ (outsTx O ++ r) := by rw [hb, hx, List.append_assoc, drop_at, List.append_assoc]
    obtain ⟨a1, a2, a3⟩ := decT_num (x := x) (by omega) h3
    have ih := outsG_text O b (pre ++ lineB [x]) r (acc ++ [x]) (by rw [hb, hx]; simp) fun y hy => h y (List.mem_cons_of_mem _ hy)
    rw [List.length_cons, outsG, hd, show (1 : Nat) = ([] : List Int).length + 1 from rfl, lnT_line x []]
    simp only [List.map_cons, List.map_nil, List.getD_cons_zero]
    rw [show plainW (decT x) = true by unfold plainW; rw [a1, a3 h1]; rfl, a2, decide_eq_true h2, Bool.and_self, if_pos rfl]
    rw [List.length_append] at ih
    rw [ih, hx]
    simp
theorem andsG_text {i : Nat} : ∀ (A : List (Int × Int)) (k : Nat) (b pre r : List UInt8) (acc : List (Int × Int)), b = pre ++ andsB i k A ++ r → 2 * (i + k + A.length) < 1000000000 → AndsOk i k A → andsG b i k A.length pre.length acc = .ok (acc ++ A, (pre ++ andsB i k A).length)
  | [], k, b, pre, r, acc, _, _, _ => by simp [andsG, andsB]
  | p :: A, k, b, pre, r, acc, hb, hn, h => by
    obtain ⟨⟨h1, h2, h3⟩, h4⟩ := h
    simp only [List.length_cons] at hn
    have hd : b.drop pre.length = smB (2 * ((i : Int) + k + 1) - p.1).toNat ++ (smB (p.1 - p.2).toNat ++ andsB i (k + 1) A ++ r) := by
      rw [hb, List.append_assoc, drop_at, andsB]; simp
    have hd2 : b.drop (pre.length + (smB (2 * ((i : Int) + k + 1) - p.1).toNat).length) = smB (p.1 - p.2).toNat ++ (andsB i (k + 1) A ++ r) := by
      rw [← List.drop_drop, hd, drop_at]; simp
    have ih := andsG_text (i := i) A (k + 1) b (pre ++ (smB (2 * ((i : Int) + k + 1) - p.1).toNat ++ smB (p.1 - p.2).toNat)) r (acc ++ [p]) (by rw [hb, andsB]; simp) (by omega) (by rw [show ((k + 1 : Nat) : Int) = (k : Int) + 1 by omega]; exact h4)
    rw [List.length_cons, andsG, hd, delG_small (by omega) (by omega) (by omega)]
    simp only
    rw [hd2, delG_small (by omega) (by omega) (by omega)]
    simp only
    have e1 : 2 * ((i : Int) + k + 1) - (((2 * ((i : Int) + k + 1) - p.1).toNat : Nat) : Int) = p.1 := by omega
    have e2 : p.1 - (((p.1 - p.2).toNat : Nat) : Int) = p.2 := by omega
    rw [e1, e2]
    simp only [List.length_append] at ih
    rw [Nat.add_assoc, ih, andsB]
    simp [Nat.add_assoc]
theorem readG_text {i : Nat} {A : List (Int × Int)} {O : List Int} (h : CiR i A O) (r : List UInt8) : readG (aigTx i A O ++ r) = if endG r = true then .ok ((i : Int), A, O) else .error (101, ((aigTx i A O).length : Int)) := by
  obtain ⟨hn, hO, hA, hx⟩ := h
  have hh := headG_any ((i : Int) + A.length) [(i : Int), 0, (O.length : Int), (A.length : Int)] (outsTx O ++ (andsB i 0 A ++ r)) rfl (fun y hy => by simp at hy; rcases hy with rfl | rfl | rfl | rfl | rfl <;> omega)
  have hl : limT ((i : Int) + A.length) i 0 O.length A.length = none := by
    unfold limT
    rw [if_neg (by omega), if_neg (by omega), if_neg (by omega), if_neg (by simp), if_neg (by simp)]
  simp only [List.getD_cons_zero, List.getD_cons_succ] at hh
  rw [hl] at hh
  simp only at hh
  have ht : aigTx i A O ++ r = [97, 105, 103, 32] ++ lineB (headL i A O) ++ (outsTx O ++ (andsB i 0 A ++ r)) := by simp [aigTx]
  unfold readG
  rw [ht]
  unfold headL
  rw [hh]
  simp only [List.getD_cons_zero, List.getD_cons_succ, Int.toNat_natCast]
  generalize hL : lineB [(i : Int) + A.length, (i : Int), 0, (O.length : Int), (A.length : Int)] = L
  have o1 := outsG_text (m := (i : Int) + A.length) O ([97, 105, 103, 32] ++ L ++ (outsTx O ++ (andsB i 0 A ++ r))) ([97, 105, 103, 32] ++ L) (andsB i 0 A ++ r) [] (by simp) (fun x hxm => by have := hx x hxm; omega)
  rw [show ([97, 105, 103, 32] ++ L : List UInt8).length = 4 + L.length by simp; omega] at o1
  rw [o1]
  simp only
  have a1 := andsG_text (i := i) A 0 ([97, 105, 103, 32] ++ L ++ (outsTx O ++ (andsB i 0 A ++ r))) ([97, 105, 103, 32] ++ L ++ outsTx O) r [] (by simp) (by omega) hA
  rw [a1]
  simp only [List.nil_append]
  have hd : ([97, 105, 103, 32] ++ L ++ (outsTx O ++ (andsB i 0 A ++ r))).drop ([97, 105, 103, 32] ++ L ++ outsTx O ++ andsB i 0 A).length = r := by
    rw [show ([97, 105, 103, 32] ++ L ++ (outsTx O ++ (andsB i 0 A ++ r)) : List UInt8) = ([97, 105, 103, 32] ++ L ++ outsTx O ++ andsB i 0 A) ++ r by simp, drop_at]
  rw [hd]
  have hlen : ([97, 105, 103, 32] ++ L ++ outsTx O ++ andsB i 0 A).length = (aigTx i A O).length := by simp [aigTx, headL, hL]
  rw [hlen]
theorem readG_back {i : Nat} {A : List (Int × Int)} {O : List Int} (h : CiR i A O) : readG (aigTx i A O) = .ok ((i : Int), A, O) := by
  have := readG_text h []
  rw [List.append_nil] at this
  rw [this]
  rfl
end Go.Proofs.YtmjbjgbcpaagmaaDoor

namespace Go.Proofs.YtmjbjgbcpaagmaaDoor
open Go.RowKit

theorem ofInt64 (m : Nat) : (BitVec.ofInt (IntKind.bits .i64) (m : Int)).toNat = m % 2 ^ 64 := by
  rw [BitVec.toNat_ofInt]
  show ((m : Int) % ((2 ^ 64 : Nat) : Int)).toNat = _
  omega
theorem ofInt8 (m : Nat) : (BitVec.ofInt (IntKind.bits .u8) (m : Int)).toNat = m % 2 ^ 8 := by
  rw [BitVec.toNat_ofInt]
  show ((m : Int) % ((2 ^ 8 : Nat) : Int)).toNat = _
  omega
theorem and127 (m : Nat) (hm : m < 9223372036854775808) : bitsOp .and .i64 (m : Int) 127 = ((m % 128 : Nat) : Int) := by
  unfold bitsOp
  have e1 : (BitVec.ofInt (IntKind.bits .i64) (m : Int) &&& BitVec.ofInt (IntKind.bits .i64) 127).toNat = m % 128 := by
    rw [BitVec.toNat_and, ofInt64, show (BitVec.ofInt (IntKind.bits .i64) (127 : Int)).toNat = 2 ^ 7 - 1 from rfl, Nat.and_two_pow_sub_one_eq_mod]
    omega
  simp only [e1]
  rw [wrap64 (by omega) (by omega)]
theorem and127u (m : Nat) (hm : m < 256) : bitsOp .and .u8 (m : Int) 127 = ((m % 128 : Nat) : Int) := by
  unfold bitsOp
  have e1 : (BitVec.ofInt (IntKind.bits .u8) (m : Int) &&& BitVec.ofInt (IntKind.bits .u8) 127).toNat = m % 128 := by
    rw [BitVec.toNat_and, ofInt8, show (BitVec.ofInt (IntKind.bits .u8) (127 : Int)).toNat = 2 ^ 7 - 1 from rfl, Nat.and_two_pow_sub_one_eq_mod]
    omega
  simp only [e1]
  show ((m % 128 : Nat) : Int) % 256 = _
  omega
theorem or_add {a b k : Nat} (ha : a < 2 ^ k) : a ||| (b * 2 ^ k) = a + b * 2 ^ k := by
  rw [Nat.mul_comm b, Nat.add_comm, Nat.two_pow_add_eq_or_of_lt ha, Nat.or_comm]
theorem or128 (m : Nat) (hm : m < 128) : bitsOp .or .u8 (m : Int) 128 = ((m + 128 : Nat) : Int) := by
  unfold bitsOp
  have e1 : (BitVec.ofInt (IntKind.bits .u8) (m : Int) ||| BitVec.ofInt (IntKind.bits .u8) 128).toNat = m + 128 := by
    rw [BitVec.toNat_or, ofInt8, show (BitVec.ofInt (IntKind.bits .u8) (128 : Int)).toNat = 1 * 2 ^ 7 from rfl, Nat.mod_eq_of_lt (by omega), or_add (by omega)]
  simp only [e1]
  show ((m + 128 : Nat) : Int) % 256 = _
  omega
theorem orsh {a b k : Nat} (ha : a < 2 ^ k) (hb : a + b * 2 ^ k < 9223372036854775808) : bitsOp .or .i64 (a : Int) ((b * 2 ^ k : Nat) : Int) = ((a + b * 2 ^ k : Nat) : Int) := by
  unfold bitsOp
  have e1 : (BitVec.ofInt (IntKind.bits .i64) (a : Int) ||| BitVec.ofInt (IntKind.bits .i64) ((b * 2 ^ k : Nat) : Int)).toNat = a + b * 2 ^ k := by
    rw [BitVec.toNat_or, ofInt64, ofInt64, Nat.mod_eq_of_lt (by omega), Nat.mod_eq_of_lt (by omega), or_add ha]
  simp only [e1]
  rw [wrap64 (by omega) (by omega)]
theorem shr7 (m : Nat) : Int.fdiv (m : Int) (2 ^ min (Int.toNat (7 : Int)) (IntKind.bits .i64)) = ((m / 128 : Nat) : Int) := by
  rw [show (2 : Int) ^ min (Int.toNat (7 : Int)) (IntKind.bits .i64) = 128 from rfl, Int.fdiv_eq_ediv_of_nonneg _ (by omega)]
  omega
theorem wrapU8n (m : Nat) (hm : m < 256) : IntKind.wrap .u8 (m : Int) = (m : Int) := by
  show ((m : Nat) : Int) % 256 = _
  omega
theorem ofNat_u8 {m : Nat} (hm : m < 256) : ((UInt8.ofNat m).toNat : Int) = (m : Int) := by rw [UInt8.toNat_ofNat']; omega

section
variable (fuel d : Nat) {h0 : AHeap} {R : List Chunk}
theorem app1 {h : AHeap} {s : Sl} {t : List UInt8} (hs : Sep0 h0 h (.grown 1 s (bytesC t) :: R)) (ht : t.length < 1000000000) {m : Nat} (hm : m < 256) :
    ∃ s' h', AHeap.append h false 1 1 s 1 [.int .u8 (m : Int)] = some (s', h') ∧ Sep0 h0 h' (.grown 1 s' (bytesC (t ++ [UInt8.ofNat m])) :: R) := by
  have hl := hs.len (i := 0) rfl
  simp only [List.length_map, Nat.mul_one] at hl
  obtain ⟨s', h', e1, s1, _⟩ := hs.grow (i := 0) (bytes := 1) (m := 1) (vs := [.int .u8 (m : Int)]) rfl rfl (by omega) (by omega)
  refine ⟨s', h', e1, ?_⟩
  rw [set0] at s1
  rw [show bytesC (t ++ [UInt8.ofNat m]) = bytesC t ++ [AVal.int .u8 (m : Int)] by rw [bytesC_app, show bytesC [UInt8.ofNat m] = [AVal.int .u8 ((UInt8.ofNat m).toNat : Int)] from rfl, ofNat_u8 hm]]
  exact s1
theorem gnum_loop : ∀ (f n x : Nat) (s : Sl) (t : List UInt8) (h : AHeap), f < n → x < 128 ^ f → 0 < f → f ≤ 9 → t.length + f < 900000010 → Sep0 h0 h (.grown 1 s (bytesC t) :: R) →
    ∃ s' h', (l_aig_number_0 fuel d n [(0, .slice s), (1, .int .i64 (x : Int))] h).bind (fun p => k_aig_number_0 fuel d p.1 p.2.1 p.2.2) = some (.slice s', h') ∧ Sep0 h0 h' (.grown 1 s' (bytesC (t ++ smallB f x)) :: R) := by
  intro f
  induction f with
  | zero => intro n x s t h _ _ h3; omega
  | succ f ih =>
    intro n x s t h h1 h2 h3 h4 ht hs
    obtain ⟨n, rfl⟩ : ∃ q, n = q + 1 := ⟨n - 1, by omega⟩
    have hx9 : x < 9223372036854775808 := Nat.lt_of_lt_of_le h2 (Nat.le_trans (Nat.pow_le_pow_right (by omega) (show f + 1 ≤ 9 by omega)) (by omega))
    rw [l_aig_number_0_eq]
    unfold smallB
    by_cases hx : x < 128
    · rw [bif_neg (by omega), if_pos hx, Option.bind_some, k_aig_number_0_x0, wrapU8n x (by omega)]
      obtain ⟨s', h', e1, s1⟩ := app1 hs (by omega) (m := x) (by omega)
      rw [e1]
      exact ⟨s', h', rfl, s1⟩
    · rw [bif_pos (by omega), if_neg hx, and127 x hx9, wrapU8n _ (by omega), or128 _ (by omega), shr7]
      obtain ⟨s', h', e1, s1⟩ := app1 hs (by omega) (m := x % 128 + 128) (by omega)
      rw [e1]
      simp only [Option.bind_some]
      rw [Nat.pow_succ] at h2
      have f0 : 0 < f := by
        rcases Nat.eq_zero_or_pos f with h | h
        · subst h; simp at h2; omega
        · exact h
      obtain ⟨s2, h2', e2, s2'⟩ := ih n (x / 128) s' (t ++ [UInt8.ofNat (x % 128 + 128)]) h' (by omega) (by omega) f0 (by omega) (by simp; omega) s1
      refine ⟨s2, h2', e2, ?_⟩
      rw [List.append_assoc] at s2'
      exact s2'
theorem smallB_up : ∀ (f g n : Nat), n < 128 ^ f → n < 128 ^ g → 0 < f → 0 < g → smallB f n = smallB g n
  | 0, g, n, _, _, h, _ => by omega
  | f + 1, 0, n, _, _, _, h => by omega
  | f + 1, g + 1, n, h1, h2, _, _ => by
    unfold smallB
    by_cases hn : n < 128
    · rw [if_pos hn, if_pos hn]
    · rw [if_neg hn, if_neg hn]
      rw [Nat.pow_succ] at h1 h2
      have f0 : 0 < f := by
        rcases Nat.eq_zero_or_pos f with h | h
        · subst h; simp at h1; omega
        · exact h
      have g0 : 0 < g := by
        rcases Nat.eq_zero_or_pos g with h | h
        · subst h; simp at h2; omega
        · exact h
      rw [smallB_up f g (n / 128) (by omega) (by omega) f0 g0]
theorem gnumber_run (hf : 30 < fuel) {x : Nat} (hx : x < 34359738368) {s : Sl} {t : List UInt8} {h : AHeap} (ht : t.length < 900000000) (hs : Sep0 h0 h (.grown 1 s (bytesC t) :: R)) :
    ∃ s' h', run fuel (d + 1) F_aig_number [.slice s, .int .i64 (x : Int)] h = some (.slice s', h') ∧ Sep0 h0 h' (.grown 1 s' (bytesC (t ++ smB x)) :: R) := by
  obtain ⟨s', h', e1, s1⟩ := gnum_loop fuel d 5 fuel x s t h (by omega) (by omega) (by omega) (by omega) (by omega) hs
  rw [smallB_up 5 10 x (by omega) (by omega) (by omega) (by omega)] at s1
  exact ⟨s', h', by rw [e_aig_number]; exact e1, s1⟩
end
end Go.Proofs.YtmjbjgbcpaagmaaDoor

namespace Go.Proofs.YtmjbjgbcpaagmaaDoor
open Go.RowKit

section
variable (fuel d : Nat) (hf : 30 < fuel) {h0 : AHeap} {C b : Nat} {R : List Chunk}
include hf
theorem abytes0 {i : Nat} (hi : i ≤ 10000) : ∀ (n k : Nat) (t : List UInt8) (h : AHeap) (B : List Chunk), i < n + k → k ≤ i → t.length + 30 * (i - k) < 1099511627776 → BldCh b (bytesC t) B → Sep0 h0 h (B ++ R) →
    ∃ h' B', l_aag_Bytes_0 fuel (d + 7) n [(1, .ptr (.mk ⟨C, 0, 0⟩ 3)), (3, .ptr (bPt b)), (14, .int .i64 (i : Int)), (15, .int .i64 (k : Int))] h = some (.exit 0, [(1, .ptr (.mk ⟨C, 0, 0⟩ 3)), (3, .ptr (bPt b))], h') ∧ BldCh b (bytesC (t ++ insTx k (i - k))) B' ∧ Sep0 h0 h' (B' ++ R) := by
  intro n
  induction n with
  | zero => intro k t h B h1 h2; omega
  | succ n ih =>
    intro k t h B h1 h2 ht hB hs
    rw [l_aag_Bytes_0_eq]
    by_cases hk : k < i
    · have hl := lineB_len (l := [2 * ((k : Int) + 1)]) (fun x hx => by rw [List.mem_singleton.1 hx]; exact in64 (by omega) (by omega))
      simp only [List.length_cons, List.length_nil] at hl
      obtain ⟨h', B', e1, q1, s1⟩ := WS_run fuel (d + 6) hB hs (lineB [2 * ((k : Int) + 1)]) (by omega)
      obtain ⟨h'', B'', e2, q2, s2⟩ := ih (k + 1) (t ++ lineB [2 * ((k : Int) + 1)]) h' B' (by omega) (by omega) (by simp; omega) q1 s1
      refine ⟨h'', B'', ?_, ?_, s2⟩
      · rw [bif_pos (by omega), wrap64 (n := (k : Int) + 1) (by omega) (by omega), wrap64 (n := 2 * ((k : Int) + 1)) (by omega) (by omega), aline1 fuel (d + 1) hf _ _ (in64 (by omega) (by omega)), Option.bind_some, str_str, Option.bind_some, e1]
        simp only [Option.bind_some, tup2, cond_true, comp0, comp1, int_int]
        exact e2
      · rw [List.append_assoc] at q2
        rw [show i - k = (i - (k + 1)) + 1 by omega]
        exact q2
    · obtain rfl : k = i := by omega
      rw [bif_neg (by omega)]
      refine ⟨h, B, rfl, ?_, hs⟩
      rw [Nat.sub_self, insTx, List.append_nil]
      exact hB
theorem abytes1 {o : List Int} (ho : o.length ≤ 10000) (hx : ∀ x ∈ o, In64 x) : ∀ (n k : Nat) (t : List UInt8) (h : AHeap) (B : List Chunk), o.length < n + k → k ≤ o.length → t.length + 30 * (o.length - k) < 1099511627776 → BldCh b (bytesC t) B → Sep0 h0 h (B ++ R) →
    ∃ h' B', l_aag_Bytes_1 fuel (d + 7) n [(1, .ptr (.mk ⟨C, 0, 0⟩ 3)), (3, .ptr (bPt b)), (26, .slice (lstI o)), (27, .int .i64 (o.length : Int)), (28, .int .i64 (k : Int))] h = some (.exit 2, [(1, .ptr (.mk ⟨C, 0, 0⟩ 3)), (3, .ptr (bPt b))], h') ∧ BldCh b (bytesC (t ++ outsTx (o.drop k))) B' ∧ Sep0 h0 h' (B' ++ R) := by
  intro n
  induction n with
  | zero => intro k t h B h1 h2; omega
  | succ n ih =>
    intro k t h B h1 h2 ht hB hs
    rw [l_aag_Bytes_1_eq]
    by_cases hk : k < o.length
    · have hd := drop_get hk 0
      have hm : o.getD k 0 ∈ o := by rw [List.getD_eq_getElem?_getD, List.getElem?_eq_getElem hk]; exact List.getElem_mem hk
      have hxk := hx _ hm
      rw [bif_pos (by omega), addr_lstM _ (by omega) (by omega) 0, hd, Int.toNat_natCast]
      generalize o.getD k 0 = x at hxk
      have hl := lineB_len (l := [x]) (fun y hy => by rw [List.mem_singleton.1 hy]; exact hxk)
      simp only [List.length_cons, List.length_nil] at hl
      obtain ⟨h', B', e1, q1, s1⟩ := WS_run fuel (d + 6) hB hs (lineB [x]) (by omega)
      obtain ⟨h'', B'', e2, q2, s2⟩ := ih (k + 1) (t ++ lineB [x]) h' B' (by omega) (by omega) (by simp; omega) q1 s1
      refine ⟨h'', B'', ?_, ?_, s2⟩
      · simp only [Option.bind_some, cell_fp, int_int]
        rw [aline1 fuel (d + 1) hf _ _ hxk, Option.bind_some, str_str, Option.bind_some, e1]
        simp only [Option.bind_some, tup2, cond_true, comp0, comp1, int_int]
        rw [sucU (by omega)]
        exact e2
      · rw [List.append_assoc] at q2
        exact q2
    · obtain rfl : k = o.length := by omega
      rw [bif_neg (by omega)]
      refine ⟨h, B, rfl, ?_, hs⟩
      rw [List.drop_length, show outsTx [] = [] from rfl, List.append_nil]
      exact hB
theorem abytes2 {i : Nat} {A : List (Int × Int)} {o : List Int} (hi : i ≤ 10000) (hA : A.length ≤ 10000) (hx : ∀ p ∈ A, In64 p.1 ∧ In64 p.2) {r : Nat} (hR : R[r]? = some (Chunk.own 1 C 0 3 (circC i A o))) : ∀ (n k : Nat) (t : List UInt8) (h : AHeap) (B : List Chunk), A.length < n + k → k ≤ A.length → t.length + 70 * (A.length - k) < 1099511627776 → BldCh b (bytesC t) B → Sep0 h0 h (B ++ R) →
    ∃ h' B', l_aag_Bytes_2 fuel (d + 7) n [(1, .ptr (.mk ⟨C, 0, 0⟩ 3)), (3, .ptr (bPt b)), (38, .slice (lstP A)), (39, .int .i64 (A.length : Int)), (40, .int .i64 (k : Int))] h = some (.exit 4, [(3, .ptr (bPt b))], h') ∧ BldCh b (bytesC (t ++ andsTx i k (A.drop k))) B' ∧ Sep0 h0 h' (B' ++ R) := by
  intro n
  induction n with
  | zero => intro k t h B h1 h2; omega
  | succ n ih =>
    intro k t h B h1 h2 ht hB hs
    rw [l_aag_Bytes_2_eq]
    by_cases hk : k < A.length
    · have hd := drop_get hk (0, 0)
      have hm : A.getD k (0, 0) ∈ A := by rw [List.getD_eq_getElem?_getD, List.getElem?_eq_getElem hk]; exact List.getElem_mem hk
      have hxk := hx _ hm
      rw [bif_pos (by omega), addr_lstN (sz := 2) (f := fun p : Int × Int => [AVal.int .i64 p.1, .int .i64 p.2]) (fun _ => rfl) (l := A) (j := (k : Int)) (by omega) (by omega) (0, 0), hd, Int.toNat_natCast]
      generalize A.getD k (0, 0) = p at hxk
      have hl := lineB_len (l := [2 * ((i : Int) + k + 1), p.1, p.2]) (fun y hy => by simp at hy; rcases hy with rfl | rfl | rfl <;> first | exact hxk.1 | exact hxk.2 | exact in64 (by omega) (by omega))
      simp only [List.length_cons, List.length_nil] at hl
      have sc := hs.push 1 2 (cs := [(AVal.int .i64 (0 : Int)), (.int .i64 (0 : Int))]) rfl
      obtain ⟨h3, e3, s3⟩ := sc.put (i := (B ++ R).length) (o := 0) (l := 2) (vs := [.int .i64 p.1, .int .i64 p.2]) List.getElem?_concat_length (by simp) (by simp)
      rw [set_last] at s3
      have hq : (B ++ R ++ [Chunk.own 1 h.next 0 2 [AVal.int .i64 p.1, .int .i64 p.2]])[(B ++ R).length]? = some (.own 1 h.next 0 2 [.int .i64 p.1, .int .i64 p.2]) := List.getElem?_concat_length
      have c0 : h3.cell (.mk ⟨h.next, 0, 0⟩ 2) = some (.int .i64 p.1) := s3.part hq (by omega) rfl
      have c1 : h3.cell (.mk ⟨h.next, 0, 1⟩ 2) = some (.int .i64 p.2) := s3.part hq (by omega) rfl
      have hj' : (B ++ R)[B.length + r]? = some (Chunk.own 1 C 0 3 (circC i A o)) := by rw [List.getElem?_append_right (by omega), Nat.add_sub_cancel_left]; exact hR
      have cC : h3.cell (.mk ⟨C, 0, 0 + 0⟩ 3) = some (.int .i64 (i : Int)) := s3.part (i := B.length + r) (by rw [List.getElem?_append_left (List.getElem?_eq_some_iff.1 hj').1]; exact hj') (by omega) rfl
      obtain ⟨h', B', e1, q1, s1⟩ := WS_run fuel (d + 6) hB (by rw [← List.append_assoc]; exact s3) (lineB [2 * ((i : Int) + k + 1), p.1, p.2]) (by omega)
      have s1' : Sep0 h0 h' (B' ++ R) := by rw [← List.append_assoc] at s1; exact s1.init
      obtain ⟨h'', B'', e2, q2, s2⟩ := ih (k + 1) (t ++ lineB [2 * ((i : Int) + k + 1), p.1, p.2]) h' B' (by omega) (by omega) (by simp; omega) q1 s1'
      refine ⟨h'', B'', ?_, ?_, s2⟩
      · rw [Option.bind_some, cellsAt_fp (n := 2) (cs := [AVal.int .i64 p.1, .int .i64 p.2]) rfl, Option.bind_some, show (!false && Nat.beq (List.length [AVal.int .i64 p.1, .int .i64 p.2]) 2 && List.all [AVal.int .i64 p.1, .int .i64 p.2] AVal.isCell) = true from rfl, cond_true, e3]
        simp only [Option.bind_some, field_mk, cC, int_int]
        rw [show Pt.elem 1 2 (0 : Int) (.mk ⟨h.next, 0, 0⟩ 2) = some (.mk ⟨h.next, 0, 0⟩ 2) from rfl, show Pt.elem 1 2 (1 : Int) (.mk ⟨h.next, 0, 0⟩ 2) = some (.mk ⟨h.next, 0, 1⟩ 2) from rfl]
        simp only [Option.bind_some, c0, c1, int_int]
        rw [wrap64 (n := (i : Int) + (k : Int)) (by omega) (by omega), wrap64 (n := (i : Int) + (k : Int) + 1) (by omega) (by omega), wrap64 (n := 2 * ((i : Int) + (k : Int) + 1)) (by omega) (by omega), aline3 fuel (d + 1) hf _ _ (in64 (by omega) (by omega)) hxk.1 hxk.2, Option.bind_some, str_str, Option.bind_some, e1]
        simp only [Option.bind_some, tup2, cond_true, comp0, comp1, int_int]
        rw [sucU (by omega)]
        exact e2
      · rw [List.append_assoc] at q2
        exact q2
    · obtain rfl : k = A.length := by omega
      rw [bif_neg (by omega)]
      refine ⟨h, B, rfl, ?_, hs⟩
      rw [List.drop_length, andsTx, List.append_nil]
      exact hB
end
theorem abytes_body (fuel d : Nat) (hf : 20000 < fuel) {i : Nat} {A : List (Int × Int)} {o : List Int} (hc : CiOk i A o) : ∃ v h', brun fuel (d + 8) F_aag_Bytes [.agg (circC i A o)] AHeap.none = some (v, h') ∧ freezeV h' 8 v = some (.slice (lstU (aagTx i A o))) := by
    obtain ⟨hi, hA, ho, hxA, hxo⟩ := hc
    have s1 := ((Sep0.start AHeap.none).push 1 3 (cs := circC i A o) rfl).newBld
    have cc : (AHeap.pushT (AHeap.none.push 1 (circC i A o)) (BT, 2) 1 [(.ptr Pt.nil), (.slice Sl.nil)]).cellsAt 3 (.mk ⟨AHeap.none.next, 0, 0⟩ 3) = some (circC i A o) := s1.getAll (i := 1) rfl rfl
    rw [e_aag_Bytes, show List.all (circC i A o) AVal.isCell = true from rfl, cond_true, show (circC i A o).length = 3 from rfl, cc, Option.bind_some, show (⟨#[97, 97, 103]⟩ : ByteArray) = tx [97, 97, 103] from rfl, ahead_run fuel d (by omega) hi hA ho [97, 97, 103] (by simp)]
    simp only [Option.bind_some, str_str]
    have hl := lineB_len (l := headL i A o) (fun x hx => by simp [headL] at hx; rcases hx with rfl | rfl | rfl | rfl | rfl <;> exact in64 (by omega) (by omega))
    simp only [show (headL i A o).length = 5 from rfl] at hl
    have hB0 : BldCh (AHeap.none.push 1 (circC i A o)).next (bytesC []) [.exact (AHeap.none.push 1 (circC i A o)).next (bObj .nil .nil)] := .fresh (.inl rfl)
    generalize AHeap.pushT (AHeap.none.push 1 (circC i A o)) (BT, 2) 1 [(.ptr Pt.nil), (.slice Sl.nil)] = H at s1
    generalize (AHeap.none.push 1 (circC i A o)).next = b at s1 hB0
    generalize AHeap.none.next = C at s1
    obtain ⟨h2, B2, e2, q2, s2⟩ := WS_run fuel (d + 6) hB0 s1 ([97, 97, 103] ++ 32 :: lineB (headL i A o)) (by simp; omega)
    have hj2 : ∀ B : List Chunk, (B ++ [Chunk.own 1 C 0 3 (circC i A o)])[B.length]? = some (.own 1 C 0 3 (circC i A o)) := fun B => List.getElem?_concat_length
    have c2 : h2.cell (.mk ⟨C, 0, 0 + 0⟩ 3) = some (.int .i64 (i : Int)) := s2.part (hj2 B2) (by omega) rfl
    rw [e2]
    simp only [Option.bind_some, tup2, cond_true, comp0, comp1, int_int, field_mk, c2]
    rw [bif_neg (show ¬ (i : Int) < 0 by omega)]
    obtain ⟨h3, B3, e3, q3, s3⟩ := abytes0 fuel d (by omega) (C := C) hi fuel 0 _ h2 B2 (by omega) (by omega) (by simp; omega) q2 s2
    have c3 : h3.cell (.mk ⟨C, 0, 0 + 2⟩ 3) = some (.slice (lstI o)) := s3.part (hj2 B3) (by omega) rfl
    rw [show ((0 : Nat) : Int) = 0 from rfl] at e3
    rw [e3]
    simp only [Option.bind_some, k_aag_Bytes_0_x0, field_mk, c3, slice_slice]
    have hT : ∀ n k, k + n ≤ 10000 → (insTx k n).length ≤ 30 * n := by
      intro n
      induction n with
      | zero => intro k _; simp [insTx]
      | succ n ih =>
        intro k hk
        have h1 := ih (k + 1) (by omega)
        have h2 := lineB_len (l := [2 * ((k : Int) + 1)]) (fun x hx => by rw [List.mem_singleton.1 hx]; exact in64 (by omega) (by omega))
        simp only [insTx, List.length_append, List.length_cons, List.length_nil] at h2 ⊢
        omega
    have hT0 := hT (i - 0) 0 (by omega)
    obtain ⟨h4, B4, e4, q4, s4⟩ := abytes1 fuel d (by omega) (C := C) ho hxo fuel 0 _ h3 B3 (by omega) (by omega) (by simp at hT0 ⊢; omega) q3 s3
    have c4 : h4.cell (.mk ⟨C, 0, 0 + 1⟩ 3) = some (.slice (lstP A)) := s4.part (hj2 B4) (by omega) rfl
    rw [show ((0 : Nat) : Int) = 0 from rfl] at e4
    rw [len_lst, e4]
    simp only [Option.bind_some, k_aag_Bytes_1_x2, field_mk, c4, slice_slice]
    have hT1 : ∀ l : List Int, (∀ x ∈ l, In64 x) → (outsTx l).length ≤ 30 * l.length := by
      intro l
      induction l with
      | nil => intro _; simp [outsTx]
      | cons x l ih =>
        intro hx
        have h1 := ih fun y hy => hx y (List.mem_cons_of_mem _ hy)
        have h2 := lineB_len (l := [x]) (fun y hy => by rw [List.mem_singleton.1 hy]; exact hx x List.mem_cons_self)
        simp only [outsTx, List.flatMap_cons, List.length_append, List.length_cons, List.length_nil] at h1 h2 ⊢
        omega
    have hT2 := hT1 o hxo
    obtain ⟨h5, B5, e5, q5, s5⟩ := abytes2 fuel d (by omega) (C := C) (o := o) hi hA hxA (r := 0) rfl fuel 0 _ h4 B4 (by omega) (by omega) (by simp at hT0 hT2 ⊢; omega) q4 s4
    rw [show ((0 : Nat) : Int) = 0 from rfl] at e5
    rw [len_lst, e5]
    simp only [Option.bind_some, k_aag_Bytes_2_x4]
    have ht : [] ++ ([97, 97, 103] ++ 32 :: lineB (headL i A o)) ++ insTx 0 (i - 0) ++ outsTx (o.drop 0) ++ andsTx i 0 (A.drop 0) = aagTx i A o := by simp [aagTx]
    rw [ht] at q5
    have hT3 : ∀ (l : List (Int × Int)) (k : Nat), k + l.length ≤ 10000 → (∀ p ∈ l, In64 p.1 ∧ In64 p.2) → (andsTx i k l).length ≤ 70 * l.length := by
      intro l
      induction l with
      | nil => intro k _ _; simp [andsTx]
      | cons p l ih =>
        intro k hk hx
        simp only [List.length_cons] at hk
        have h1 := ih (k + 1) (by omega) fun y hy => hx y (List.mem_cons_of_mem _ hy)
        have hxk := hx p List.mem_cons_self
        have h2 := lineB_len (l := [2 * ((i : Int) + k + 1), p.1, p.2]) (fun y hy => by simp at hy; rcases hy with rfl | rfl | rfl <;> first | exact hxk.1 | exact hxk.2 | exact in64 (by omega) (by omega))
        simp only [andsTx, List.length_append, List.length_cons, List.length_nil] at h2 ⊢
        omega
    have hT4 := hT3 A 0 (by omega) hxA
    have hlen : (aagTx i A o).length ≤ 10000000 := by
      simp only [aagTx, List.length_append, List.length_cons, List.length_nil]
      simp at hT0
      omega
    obtain ⟨h6, e6, s6⟩ := BString_run fuel (d + 7) (s := tx (aagTx i A o)) (by rw [bytesOf_tx]; exact q5) s5 (by rw [tx_size]; omega)
    rw [e6]
    simp only [Option.bind_some, str_str]
    have s7 := s6.push 1 (aagTx i A o).length (cs := bytesOf (tx (aagTx i A o))) (by rw [bytesOf_tx]; simp)
    refine ⟨_, _, rfl, ?_⟩
    have hne : (aagTx i A o).length ≠ 0 := by simp [aagTx]
    have s8 := (s7.toGrown false hne)
    have hg := s8.sep.grown (i := 1) rfl
    have hz : (tx (aagTx i A o)).size = (aagTx i A o).length := tx_size _
    rw [bytesOf_tx] at hg
    rw [bytesOf_tx, hz, hg.freeze (n := 7) (by simp [hne]) (mapM_freeze (g := fun b : UInt8 => AVal.int .u8 (b.toNat : Int)) (fun _ => rfl) _)]
    rfl
theorem abytes_run (fuel d : Nat) (hf : 20000 < fuel) {i : Nat} {A : List (Int × Int)} {o : List Int} (hc : CiOk i A o) (h : AHeap) : run fuel (d + 8) F_aag_Bytes [.agg (circC i A o)] h = some (.slice (lstU (aagTx i A o)), h) := by
  obtain ⟨v, h', e1, e2⟩ := abytes_body fuel d hf hc
  exact pure_of rfl rfl (cc1 (canon_circ _ _ _)) e1 e2
theorem canon_circ0 (i : Int) : canonV 8 (.agg [.int .i64 i, .slice .nil, .slice .nil]) = some (.agg (circC i [] [])) := rfl
end Go.Proofs.YtmjbjgbcpaagmaaDoor

namespace Go.Proofs.YtmjbjgbcpaagmaaDoor
open Go.RowKit

theorem GrowU_run (fuel d : Nat) {n : Nat} (hn : n < 1000000000) (h : AHeap) :
    ∃ s' h', run fuel (d + 1) F_slices_Grow_s_byte_byte [.slice .nil, .int .i64 (n : Int)] h = some (.slice s', h') ∧ Grown h' 1 s' (bytesC []) ∧ Keeps h h' (fun _ => False) ∧ s'.len = 0 ∧ (∀ r, s'.row = some r → h.rows.length ≤ r) := by
  rw [e_slices_Grow_s_byte_byte, bif_neg (by omega)]
  have hc : Sl.capOf .nil = some 0 := rfl
  simp only [Option.bind_some, k_slices_Grow_s_byte_byte_0_n, hc]
  have hw : IntKind.wrap .i64 ((n : Int) - IntKind.wrap .i64 (((0 : Nat) : Int) - ((Sl.nil.len : Nat) : Int))) = (n : Int) := by
    rw [show IntKind.wrap .i64 (((0 : Nat) : Int) - ((Sl.nil.len : Nat) : Int)) = 0 from rfl, Int.sub_zero, wrap64 (by omega) (by omega)]
  rw [hw]
  by_cases h0 : n = 0
  · subst h0
    exact ⟨.nil, h, rfl, .nil, Keeps.refl _ _, rfl, fun r h => by cases h⟩
  · rw [bif_pos (by omega), aHi_some (by omega) (by simp)]
    simp only [Option.bind_some]
    rw [show (((0 : Nat) : Int)).toNat = 0 from rfl, aLo_none]
    simp only [Option.bind_some, aMx_none]
    rw [cond_pos _ _ (show AHeap.hasSz h 1 .nil = true from rfl), cond_pos]
    · obtain ⟨s2, h2, e1, e2, e3, e4, e5⟩ := (Grown.nil (h := h) (sz := 1)).more (bytes := 1) (m := n) (vs := List.replicate n (.int .u8 0)) (by simp) (by simp [Sl.len]; omega) (by simp [Sl.len]; omega)
      have hap : AHeap.append h false 1 1 (Sl.cut .nil 1 0 0 false) (Int.toNat (n : Int)) (repeatCells [(AVal.int .u8 (0 : Int))] (Int.toNat (n : Int))) = some (s2, h2) := by
        rw [Int.toNat_natCast, repeat_one]; exact e1
      rw [hap]
      simp only [Option.bind_some]
      rw [aHi_some (x := ((Sl.nil.len : Nat) : Int)) (by simp [Sl.len]) (by simp [Sl.len])]
      simp only [Option.bind_some]
      rw [show ((Sl.nil.len : Nat) : Int).toNat = 0 from rfl, aLo_none]
      simp only [Option.bind_some, aMx_none]
      rw [cond_pos _ _ e2.hasSz]
      simp only [Sl.len, Nat.zero_add] at e3
      have hk : Keeps h h2 (fun _ => False) := e4.mono fun i _ e => by cases e
      generalize ([] : List AVal) ++ List.replicate n (AVal.int .u8 0) = cs at e2
      cases e2 with
      | nil => simp [Sl.len] at e3; omega
      | none => simp [Sl.len] at e3; omega
      | room => simp [Sl.len] at e3; omega
      | row h1 hc hn hg hv hr hs =>
        refine ⟨_, _, rfl, ?_, hk, rfl, fun r hr => ?_⟩
        · simpa [Sl.cut] using Grown.room h1 hg hv hr hs
        · rcases e5 with e5 | e5
          · cases e5
          · simp [Sl.cut, Sl.row] at hr e5
            omega
      | full h0 h1 hc hn hg hv hr hs =>
        refine ⟨_, _, rfl, ?_, hk, rfl, fun r hr => ?_⟩
        · have := Grown.room h1 hg hv hr hs
          simp only [Sl.cut, Nat.zero_mul, Nat.add_zero, Nat.sub_zero, nbeq_false.2 (Ne.symm h0), Bool.and_false]
          simpa using this
        · rw [Sl.row_mk h0] at e5
          rcases e5 with e5 | e5
          · cases e5
          · simp [Sl.cut, Sl.row, nbeq_false.2 (Ne.symm h0)] at hr e5
            omega
    · simp only [Bool.and_eq_true, decide_eq_true_eq]
      omega
/-- two pieces of bytes -/
theorem concat2_run (fuel d : Nat) (hf : 30 < fuel) {x y : Sl} {a b : List UInt8} {h : AHeap} (c : Bool) (hx : h.sliceCells 1 x = some (bytesC a)) (hy : h.sliceCells 1 y = some (bytesC b)) (ha : a.length + b.length < 900000000) (hb0 : b ≠ []) (ha0 : a ≠ []) :
    ∃ s' h', run fuel (d + 2) F_slices_Concat_s_byte_byte [.slice (.lst 2 c [.slice x, .slice y])] h = some (.slice s', h') ∧ New h h' (.grown 1 s' (bytesC (a ++ b))) := by
  obtain ⟨n, rfl⟩ : ∃ n, fuel = n + 3 := ⟨fuel - 3, by omega⟩
  have lx : x.len = a.length := by have := sliceCells_len hx; simp at this; omega
  have ly : y.len = b.length := by have := sliceCells_len hy; simp at this; omega
  have a0 : ∀ h : AHeap, h.addr 1 (.lst 2 c [AVal.slice x, .slice y]) 0 = some (.fp 0 [.slice x]) := fun _ => rfl
  have a1 : ∀ h : AHeap, h.addr 1 (.lst 2 c [AVal.slice x, .slice y]) 1 = some (.fp 0 [.slice y]) := fun _ => rfl
  have w1 : IntKind.wrap .i64 ((0 : Int) + 1) = 1 := rfl
  have w2 : IntKind.wrap .i64 ((1 : Int) + 1) = 2 := rfl
  have l2 : (Sl.lst 2 c [AVal.slice x, .slice y]).len = 2 := rfl
  have v1 : IntKind.wrap .i64 ((0 : Int) + ((a.length : Nat) : Int)) = ((a.length : Nat) : Int) := by rw [wrap64 (by omega) (by omega)]; omega
  have v2 : IntKind.wrap .i64 (((a.length : Nat) : Int) + ((b.length : Nat) : Int)) = ((a.length + b.length : Nat) : Int) := by rw [wrap64 (by omega) (by omega)]; omega
  rw [e_slices_Concat_s_byte_byte, l2]
  rw [l_slices_Concat_s_byte_byte_0_eq, bif_pos (by omega), a0, Option.bind_some, cell_fp, Option.bind_some, slice_slice, Option.bind_some, lx, v1, bif_neg (by omega), w1]
  rw [l_slices_Concat_s_byte_byte_0_eq, bif_pos (by omega), a1, Option.bind_some, cell_fp, Option.bind_some, slice_slice, Option.bind_some, ly, v2, bif_neg (by omega), w2]
  rw [l_slices_Concat_s_byte_byte_0_eq, bif_neg (by omega), Option.bind_some, k_slices_Concat_s_byte_byte_0_x0]
  obtain ⟨s2, h2, e2, g2, k2, l2', f2⟩ := GrowU_run (n + 3) d (n := a.length + b.length) (by omega) h
  rw [e2, Option.bind_some, slice_slice, Option.bind_some, l2]
  have s3 := (Sep0.start h).add (c := .grown 1 s2 (bytesC [])) ⟨k2, g2, f2⟩
  obtain ⟨t1, h3, e3, s4, m3⟩ := s3.grow (i := 0) (bytes := 1) (m := a.length) (vs := bytesC a) rfl (by simp) (by omega) (by omega)
  obtain ⟨t2, h4, e4, s5, _⟩ := s4.grow (i := 0) (bytes := 1) (m := b.length) (vs := bytesC b) rfl (by simp) (by omega) (by omega)
  have hx2 := sliceCells_ext s3.ext hx
  have hy3 := sliceCells_ext s4.ext hy
  rw [l_slices_Concat_s_byte_byte_1_eq, bif_pos (by omega), a0, Option.bind_some, cell_fp, Option.bind_some, slice_slice, Option.bind_some, hx2, Option.bind_some, lx, e3, Option.bind_some, w1]
  simp only
  rw [l_slices_Concat_s_byte_byte_1_eq, bif_pos (by omega), a1, Option.bind_some, cell_fp, Option.bind_some, slice_slice, Option.bind_some, hy3, Option.bind_some, ly, e4, Option.bind_some, w2]
  simp only
  rw [l_slices_Concat_s_byte_byte_1_eq, bif_neg (by omega), Option.bind_some, k_slices_Concat_s_byte_byte_1_x2]
  refine ⟨t2, h4, rfl, ?_⟩
  have := s5.get (i := 0) rfl
  rw [show bytesC [] ++ bytesC a ++ bytesC b = bytesC (a ++ b) by simp] at this
  exact this
section
variable (fuel d : Nat) (hf : 20000 < fuel) {h0 : AHeap} {C : Nat} {i : Nat} {A : List (Int × Int)} {o : List Int}
include hf
theorem gbytes0 (hx : ∀ x ∈ o, In64 x) (ho : o.length ≤ 10000) : ∀ (n k : Nat) (s : Sl) (t : List UInt8) (h : AHeap), o.length < n + k → k ≤ o.length → t ≠ [] → t.length + 60 * (o.length - k) < 100000000 → Sep0 h0 h [.grown 1 s (bytesC t)] →
    ∃ s' h', l_aig_Bytes_0 fuel (d + 6) n [(1, .ptr (rdP C)), (3, .slice s), (12, .slice (lstI o)), (13, .int .i64 (o.length : Int)), (14, .int .i64 (k : Int))] h = some (.exit 0, [(1, .ptr (rdP C)), (3, .slice s')], h') ∧ Sep0 h0 h' [.grown 1 s' (bytesC (t ++ outsTx (o.drop k)))] := by
  intro n
  induction n with
  | zero => intro k s t h h1 h2; omega
  | succ n ih =>
    intro k s t h h1 h2 ht0 ht hs
    rw [l_aig_Bytes_0_eq]
    by_cases hk : k < o.length
    · have hm : o.getD k 0 ∈ o := by rw [List.getD_eq_getElem?_getD, List.getElem?_eq_getElem hk]; exact List.getElem_mem hk
      have hxk := hx _ hm
      rw [bif_pos (by omega), addr_lstM _ (by omega) (by omega) 0, Int.toNat_natCast, drop_get hk 0]
      generalize o.getD k 0 = x at hxk
      have hl := lineB_len (l := [x]) (fun y hm => by rw [List.mem_singleton.1 hm]; exact hxk)
      simp only [List.length_cons, List.length_nil] at hl
      have hne : lineB [x] ≠ [] := by rw [lineB_one]; simp
      simp only [Option.bind_some, cell_fp, int_int]
      rw [aline1 fuel d (by omega) _ _ hxk]
      simp only [Option.bind_some, str_str]
      rw [tx_size, bytesOf_tx]
      have s1 := hs.push 1 (lineB [x]).length (cs := bytesC (lineB [x])) (by simp)
      have c1 := (s1.sep.grown (i := 0) rfl).cells
      have c2 := (s1.sep.own (i := 1) rfl).cells false
      obtain ⟨s', h', e1, n1⟩ := concat2_run fuel (d + 4) (by omega) true c1 c2 (by omega) hne ht0
      rw [e1]
      simp only [Option.bind_some, slice_slice]
      have s2 := (s1.add n1).sub (L' := [.grown 1 s' (bytesC (t ++ lineB [x]))]) ((List.Sublist.refl _).cons _ |>.cons _)
      rw [sucU (by omega)]
      obtain ⟨s3, h3, e3, q3⟩ := ih (k + 1) s' (t ++ lineB [x]) h' (by omega) (by omega) (by simp [ht0]) (by simp; omega) s2
      refine ⟨s3, h3, e3, ?_⟩
      rw [List.append_assoc] at q3
      exact q3
    · obtain rfl : k = o.length := by omega
      rw [bif_neg (by omega)]
      refine ⟨s, h, rfl, ?_⟩
      rw [List.drop_length, show outsTx [] = [] from rfl, List.append_nil]
      exact hs
theorem gbytes1 (hi : i ≤ 10000) (hA : A.length ≤ 10000) (c0 : h0.cell (.mk ⟨C, 0, 0 + 0⟩ 3) = some (.int .i64 (i : Int))) : ∀ (n k : Nat) (s : Sl) (t : List UInt8) (h : AHeap), A.length < n + k → k ≤ A.length → AndsOk i k (A.drop k) → t.length + 60 * (A.length - k) < 100000000 → Sep0 h0 h [.grown 1 s (bytesC t)] →
    ∃ s' h', l_aig_Bytes_1 fuel (d + 1) n [(1, .ptr (rdP C)), (3, .slice s), (27, .slice (lstP A)), (28, .int .i64 (A.length : Int)), (29, .int .i64 (k : Int))] h = some (.exit 2, [(3, .slice s')], h') ∧ Sep0 h0 h' [.grown 1 s' (bytesC (t ++ andsB i k (A.drop k)))] := by
  intro n
  induction n with
  | zero => intro k s t h h1 h2; omega
  | succ n ih =>
    intro k s t h h1 h2 hok ht hs
    rw [l_aig_Bytes_1_eq]
    by_cases hk : k < A.length
    · rw [bif_pos (by omega), addr_lstN (sz := 2) (f := pairC) (fun _ => rfl) (l := A) (j := (k : Int)) (by omega) (by omega) (0, 0), Int.toNat_natCast]
      rw [drop_get hk (0, 0)] at hok ⊢
      generalize A.getD k (0, 0) = p at hok
      obtain ⟨⟨p1, p2, p3⟩, hok2⟩ := hok
      have s1 := hs.push 1 2 (cs := pairC (0, 0)) rfl
      obtain ⟨h3, e3, s3⟩ := s1.putAll (i := 1) (vs := pairC p) rfl rfl rfl
      have s3' : Sep0 h0 h3 [.grown 1 s (bytesC t), .own 1 h.next 0 2 (pairC p)] := s3
      have d0 := cell_keep s3'.ext (fun h => h) c0
      have b0 : h3.cell (.mk ⟨h.next, 0, 0⟩ 2) = some (.int .i64 p.1) := s3'.part (i := 1) rfl (by omega) rfl
      have b1 : h3.cell (.mk ⟨h.next, 0, 1⟩ 2) = some (.int .i64 p.2) := s3'.part (i := 1) rfl (by omega) rfl
      have e0 : Pt.elem 1 2 (0 : Int) (.mk ⟨h.next, 0, 0⟩ 2) = some (.mk ⟨h.next, 0, 0⟩ 2) := rfl
      have e1' : Pt.elem 1 2 (1 : Int) (.mk ⟨h.next, 0, 0⟩ 2) = some (.mk ⟨h.next, 0, 1⟩ 2) := rfl
      obtain ⟨x, hx⟩ : ∃ x : Nat, 2 * ((i : Int) + k + 1) - p.1 = (x : Int) := ⟨(2 * ((i : Int) + k + 1) - p.1).toNat, by omega⟩
      obtain ⟨y, hy⟩ : ∃ y : Nat, p.1 - p.2 = (y : Int) := ⟨(p.1 - p.2).toNat, by omega⟩
      have sx := smallB_len 10 x
      have sy := smallB_len 10 y
      obtain ⟨sa, ha, ea, qa⟩ := gnumber_run fuel d (by omega) (x := x) (by omega) (by omega) s3'
      have f0 : ha.cell (.mk ⟨h.next, 0, 0⟩ 2) = some (.int .i64 p.1) := qa.part (i := 1) rfl (by omega) rfl
      have f1 : ha.cell (.mk ⟨h.next, 0, 1⟩ 2) = some (.int .i64 p.2) := qa.part (i := 1) rfl (by omega) rfl
      obtain ⟨sb, hb, eb, qb⟩ := gnumber_run fuel d (by omega) (x := y) (by omega) (t := t ++ smB x) (by unfold smB; simp; omega) qa
      rw [Option.bind_some, cellsAt_fp (n := 2) (cs := pairC p) rfl, Option.bind_some, show (!false && Nat.beq (List.length (pairC p)) 2 && List.all (pairC p) AVal.isCell) = true from rfl, cond_true, e3]
      simp only [Option.bind_some, field_mk, d0, int_int, e0, e1', b0]
      rw [wrap64 (n := (i : Int) + (k : Int)) (by omega) (by omega), wrap64 (n := (i : Int) + (k : Int) + 1) (by omega) (by omega), wrap64 (n := 2 * ((i : Int) + (k : Int) + 1)) (by omega) (by omega), hx, wrap64 (n := (x : Int)) (by omega) (by omega), ea]
      simp only [Option.bind_some, slice_slice, same_self, f0, b0, f1, b1, int_int]
      rw [hy, wrap64 (n := (y : Int)) (by omega) (by omega), eb]
      simp only [Option.bind_some, slice_slice]
      rw [sucU (by omega)]
      obtain ⟨s4, h4, e4, q4⟩ := ih (k + 1) sb (t ++ smB x ++ smB y) hb (by omega) (by omega) (by rw [show ((k + 1 : Nat) : Int) = (k : Int) + 1 by omega]; exact hok2) (by unfold smB; simp; omega) (qb.sub (List.Sublist.cons_cons _ (List.nil_sublist _)))
      refine ⟨s4, h4, e4, ?_⟩
      rw [andsB, hx, hy, Int.toNat_natCast, Int.toNat_natCast]
      rw [List.append_assoc, List.append_assoc] at q4
      exact q4
    · obtain rfl : k = A.length := by omega
      rw [bif_neg (by omega)]
      refine ⟨s, h, rfl, ?_⟩
      rw [List.drop_length, andsB, List.append_nil]
      exact hs
end
end Go.Proofs.YtmjbjgbcpaagmaaDoor

namespace Go.Proofs.YtmjbjgbcpaagmaaDoor
open Go.RowKit

/-- a number is put behind as its text -/
def AppOk (fuel d : Nat) (x : Int) : Prop := ∀ (h0 h : AHeap) (s : Sl) (t : List UInt8), t.length < 900000000 → Sep0 h0 h [.grown 1 s (bytesC t)] →
  ∃ s' h', run fuel d F_strconv_AppendInt [.slice s, .int .i64 x, .int .i64 10] h = some (.slice s', h') ∧ Sep0 h0 h' [.grown 1 s' (bytesC (t ++ decT x))] ∧ (decT x).length ≤ 20
end Go.Proofs.YtmjbjgbcpaagmaaDoor

namespace Go.Proofs.YtmjbjgbcpaagmaaDoor
open Go.RowKit

/-! Itoa -/
end Go.Proofs.YtmjbjgbcpaagmaaDoor

namespace Go.Proofs.YtmjbjgbcpaagmaaDoor
open Go.RowKit

section
variable (fuel d : Nat) (hf : 30 < fuel) {h0 : AHeap}
include hf
end

section
variable (fuel d : Nat) (hf : 20000 < fuel) {h0 : AHeap} {C : Nat} {i : Nat} {A : List (Int × Int)} {o : List Int} (hc : CiOk i A o)
include hf hc
end
end Go.Proofs.YtmjbjgbcpaagmaaDoor

namespace Go.Proofs.YtmjbjgbcpaagmaaDoor
open Go.RowKit

theorem aagTx_len {i : Nat} {A : List (Int × Int)} {o : List Int} (hc : CiOk i A o) : (aagTx i A o).length ≤ 110 + 30 * i + 30 * o.length + 70 * A.length := by
  obtain ⟨hi, hA, ho, hxA, hxo⟩ := hc
  have hl := lineB_len (l := headL i A o) (fun x hx => by simp [headL] at hx; rcases hx with rfl | rfl | rfl | rfl | rfl <;> exact in64 (by omega) (by omega))
  simp only [show (headL i A o).length = 5 from rfl] at hl
  have hT : ∀ n k, k + n ≤ 10000 → (insTx k n).length ≤ 30 * n := by
    intro n
    induction n with
    | zero => intro k _; simp [insTx]
    | succ n ih =>
      intro k hk
      have h1 := ih (k + 1) (by omega)
      have h2 := lineB_len (l := [2 * ((k : Int) + 1)]) (fun x hx => by rw [List.mem_singleton.1 hx]; exact in64 (by omega) (by omega))
      simp only [insTx, List.length_append, List.length_cons, List.length_nil] at h2 ⊢
      omega
  have hT1 : ∀ l : List Int, (∀ x ∈ l, In64 x) → (outsTx l).length ≤ 30 * l.length := by
    intro l
    induction l with
    | nil => intro _; simp [outsTx]
    | cons x l ih =>
      intro hx
      have h1 := ih fun y hy => hx y (List.mem_cons_of_mem _ hy)
      have h2 := lineB_len (l := [x]) (fun y hy => by rw [List.mem_singleton.1 hy]; exact hx x List.mem_cons_self)
      simp only [outsTx, List.flatMap_cons, List.length_append, List.length_cons, List.length_nil] at h1 h2 ⊢
      omega
  have hT3 : ∀ (l : List (Int × Int)) (k : Nat), k + l.length ≤ 10000 → (∀ p ∈ l, In64 p.1 ∧ In64 p.2) → (andsTx i k l).length ≤ 70 * l.length := by
    intro l
    induction l with
    | nil => intro k _ _; simp [andsTx]
    | cons p l ih =>
      intro k hk hx
      simp only [List.length_cons] at hk
      have h1 := ih (k + 1) (by omega) fun y hy => hx y (List.mem_cons_of_mem _ hy)
      have hxk := hx p List.mem_cons_self
      have h2 := lineB_len (l := [2 * ((i : Int) + k + 1), p.1, p.2]) (fun y hy => by simp at hy; rcases hy with rfl | rfl | rfl <;> first | exact hxk.1 | exact hxk.2 | exact in64 (by omega) (by omega))
      simp only [andsTx, List.length_append, List.length_cons, List.length_nil] at h2 ⊢
      omega
  have a1 := hT i 0 (by omega)
  have a2 := hT1 o hxo
  have a3 := hT3 A 0 (by omega) hxA
  simp only [aagTx, List.length_append, List.length_cons, List.length_nil]
  omega
theorem Grown.freezeU {h : AHeap} {s : Sl} {t : List UInt8} (hg : Grown h 1 s (bytesC t)) (n : Nat) : freezeV h (n + 2) (.slice s) = some (.slice (lstU t)) := by
  have hl := hg.len
  rw [List.length_map, Nat.mul_one] at hl
  rw [hg.freeze (n := n + 1) (by omega) (mapM_freeze (g := fun b : UInt8 => AVal.int .u8 (b.toNat : Int)) (fun _ => rfl) _), ← hl]
end Go.Proofs.YtmjbjgbcpaagmaaDoor

namespace Go.Proofs.YtmjbjgbcpaagmaaDoor
open Go.RowKit

theorem andsB_len {i : Nat} : ∀ (A : List (Int × Int)) (k : Nat), (andsB i k A).length ≤ 20 * A.length
  | [], k => by simp [andsB]
  | p :: A, k => by
    have h1 := andsB_len (i := i) A (k + 1)
    have h2 := smallB_len 10 (2 * ((i : Int) + k + 1) - p.1).toNat
    have h3 := smallB_len 10 (p.1 - p.2).toNat
    simp only [andsB, smB, List.length_append, List.length_cons]
    omega
theorem outsTx_len : ∀ {o : List Int}, (∀ x ∈ o, In64 x) → (outsTx o).length ≤ 30 * o.length
  | [], _ => by simp [outsTx]
  | x :: l, hx => by
    have h1 := outsTx_len (o := l) fun y hy => hx y (List.mem_cons_of_mem _ hy)
    have h2 := lineB_len (l := [x]) (fun y hy => by rw [List.mem_singleton.1 hy]; exact hx x List.mem_cons_self)
    simp only [outsTx, List.flatMap_cons, List.length_append, List.length_cons, List.length_nil] at h1 h2 ⊢
    omega
theorem headL_in {i : Nat} {A : List (Int × Int)} {o : List Int} (hi : i ≤ 10000) (hA : A.length ≤ 10000) (ho : o.length ≤ 10000) : ∀ x ∈ headL i A o, In64 x := fun x hx => by
  simp [headL] at hx; rcases hx with rfl | rfl | rfl | rfl | rfl <;> exact in64 (by omega) (by omega)
theorem aigTx_len {i : Nat} {A : List (Int × Int)} {o : List Int} (hc : CiOk i A o) : (aigTx i A o).length ≤ 110 + 30 * o.length + 20 * A.length ∧ 4 ≤ (aigTx i A o).length := by
  have hl := lineB_len (headL_in hc.ni hc.nA hc.no)
  have h1 := outsTx_len hc.xo
  have h2 := andsB_len (i := i) A 0
  rw [show (headL i A o).length = 5 from rfl] at hl
  simp only [aigTx, List.length_append, List.length_cons, List.length_nil]
  omega
theorem gbytes_body (fuel d : Nat) (hf : 20000 < fuel) {i : Nat} {A : List (Int × Int)} {o : List Int} (hR : CiR i A o) : ∃ v h', brun fuel (d + 8) F_aig_Bytes [.agg (circC i A o)] AHeap.none = some (v, h') ∧ freezeV h' 8 v = some (.slice (lstU (aigTx i A o))) := by
  have hc := hR.ok
  have hi := hc.ni
  have hA := hc.nA
  have ho := hc.no
  have s1 := (Sep0.start AHeap.none).push 1 3 (cs := circC i A o) rfl
  have hl := lineB_len (headL_in hi hA ho)
  rw [show (headL i A o).length = 5 from rfl] at hl
  have hT := aigTx_len hc
  simp only [aigTx, List.length_append, List.length_cons, List.length_nil] at hT
  rw [e_aig_Bytes, show List.all (circC i A o) AVal.isCell = true from rfl, cond_true, show (circC i A o).length = 3 from rfl]
  generalize AHeap.none.next = C at s1
  generalize AHeap.none.push 1 (circC i A o) = H at s1
  have cc : H.cellsAt 3 (.mk ⟨C, 0, 0⟩ 3) = some (circC i A o) := s1.getAll (i := 0) rfl rfl
  have c0 : H.cell (.mk ⟨C, 0, 0 + 0⟩ 3) = some (.int .i64 (i : Int)) := s1.part (i := 0) rfl (by omega) rfl
  have c1 : H.cell (.mk ⟨C, 0, 0 + 1⟩ 3) = some (.slice (lstP A)) := s1.part (i := 0) rfl (by omega) rfl
  have c2 : H.cell (.mk ⟨C, 0, 0 + 2⟩ 3) = some (.slice (lstI o)) := s1.part (i := 0) rfl (by omega) rfl
  rw [cc, Option.bind_some, show (⟨#[97, 105, 103]⟩ : ByteArray) = tx [97, 105, 103] from rfl, ahead_run fuel d (by omega) hi hA ho [97, 105, 103] (by simp)]
  simp only [Option.bind_some, str_str, field_mk]
  have ht0 : ([97, 105, 103] ++ 32 :: lineB (headL i A o) : List UInt8) = [97, 105, 103, 32] ++ lineB (headL i A o) := by simp
  rw [ht0, bytesOf_tx, tx_size]
  have s2 := (Sep0.start H).push 1 ([97, 105, 103, 32] ++ lineB (headL i A o)).length (cs := bytesC ([97, 105, 103, 32] ++ lineB (headL i A o))) (by simp)
  have s3 := s2.toGrown (L := []) false (by simp)
  rw [cell_keep s3.ext (fun h => h) c2, Option.bind_some, slice_slice, Option.bind_some, len_lst]
  obtain ⟨sa, ha, ea, qa⟩ := gbytes0 fuel (d + 1) hf (C := C) hc.xo ho fuel 0 _ _ _ (by omega) (by omega) (by simp) (by simp; omega) s3
  rw [show ((0 : Nat) : Int) = 0 from rfl] at ea
  rw [ea, Option.bind_some, k_aig_Bytes_0_x0]
  simp only [field_mk, Option.bind_some]
  rw [cell_keep qa.ext (fun h => h) c1, Option.bind_some, slice_slice, Option.bind_some, len_lst]
  obtain ⟨sb, hb, eb, qb⟩ := gbytes1 fuel (d + 6) hf (C := C) hi hA c0 fuel 0 sa _ ha (by omega) (by omega) hR.hA (by simp; omega) qa
  rw [show ((0 : Nat) : Int) = 0 from rfl] at eb
  rw [eb, Option.bind_some, k_aig_Bytes_1_x2]
  refine ⟨_, hb, rfl, ?_⟩
  have ht : [97, 105, 103, 32] ++ lineB (headL i A o) ++ outsTx (o.drop 0) ++ andsB i 0 (A.drop 0) = aigTx i A o := by simp [aigTx]
  rw [ht] at qb
  exact (qb.sep.grown (i := 0) rfl).freezeU 6
theorem gbytes_run (fuel d : Nat) (hf : 20000 < fuel) {i : Nat} {A : List (Int × Int)} {o : List Int} (hR : CiR i A o) (h : AHeap) : run fuel (d + 8) F_aig_Bytes [.agg (circC i A o)] h = some (.slice (lstU (aigTx i A o)), h) := by
  obtain ⟨v, h', e1, e2⟩ := gbytes_body fuel d hf hR
  exact pure_of rfl rfl (cc1 (canon_circ _ _ _)) e1 e2
theorem ciR_nil : CiR 0 [] [] := ⟨by simp, by simp, trivial, fun x hx => by cases hx⟩
theorem gbytes_nil (fuel d : Nat) (hf : 20000 < fuel) (h : AHeap) : run fuel (d + 8) F_aig_Bytes [.agg [.int .i64 0, .slice .nil, .slice .nil]] h = some (.slice (lstU (aigTx 0 [] [])), h) := by
  obtain ⟨v, h', e1, e2⟩ := gbytes_body fuel d hf ciR_nil
  exact pure_of rfl rfl (cc1 (canon_circ0 0)) e1 e2

/-! the reference's -/
section
variable (fuel d : Nat) (hf : 20000 < fuel) {h0 : AHeap} {C : Nat} {i : Nat} {A : List (Int × Int)} {o : List Int}
include hf
end
end Go.Proofs.YtmjbjgbcpaagmaaDoor

namespace Go.Proofs.YtmjbjgbcpaagmaaDoor
open Go.RowKit

/-! lines -/
/-- the line that begins at a place, and the place behind it -/
def lineI (b : List UInt8) (x : Int) : List UInt8 × Int × Bool :=
  if x < 0 ∨ (b.length : Int) ≤ x then ([], 0, false) else
  if Lib.indexByte (b.drop x.toNat) 10 < 0 then ([], 0, false) else ((b.drop x.toNat).take (Lib.indexByte (b.drop x.toNat) 10).toNat, x + Lib.indexByte (b.drop x.toNat) 10 + 1, true)
def tupL (p : List UInt8 × Int × Bool) : AVal := .tup [.str ⟨p.1.toArray⟩, .int .i64 p.2.1, .bool p.2.2]
theorem tLine_run (fuel d : Nat) {b : List UInt8} (hb : b.length < 1000000) (x : Int) (h : AHeap) : run fuel (d + 3) F_word_Line [.slice (lstU b), .int .i64 x] h = some (tupL (lineI b x), h) := by
  refine pure_of rfl rfl (cc2 (canon_lstU 7 b) rfl) (r := tupL (lineI b x)) (h' := AHeap.none) ?_ rfl
  rw [e_word_Line, len_lst, or2]
  unfold lineI
  by_cases h0 : x < 0 ∨ (b.length : Int) ≤ x
  · rw [decide_eq_true h0, if_pos h0]; rfl
  · rw [decide_eq_false h0, if_neg h0, cond_false]
    obtain ⟨k, rfl⟩ : ∃ k : Nat, x = (k : Int) := ⟨x.toNat, by omega⟩
    rw [Int.toNat_natCast, aHi_none, Option.bind_some, aLo_some (by omega) (by omega), Option.bind_some, Int.toNat_natCast, aMx_none, Option.bind_some, hasSz_lstM, cond_true, cut_lstU b (by omega), show (b.drop k).take (b.length - k) = b.drop k from List.take_of_length_le (by simp), index_run]
    simp only [Option.bind_some, int_int]
    rcases idx_line (l := b.drop k) (c := 10) with ⟨h3, _⟩ | ⟨m, h3, h4, _⟩
    · rw [bif_pos h3, if_pos h3]; rfl
    · rw [List.length_drop] at h4
      rw [h3, bif_neg (by omega), if_neg (by omega), wrap64 (n := (k : Int) + (m : Int)) (by omega) (by omega), aHi_some (by omega) (by omega), Option.bind_some, show ((k : Int) + (m : Int)).toNat = k + m by omega, aLo_some (by omega) (by omega), Option.bind_some, Int.toNat_natCast, aMx_none, Option.bind_some, hasSz_lstM, cond_true, cut_lstU b (by omega), cells_lstM]
      simp only [Option.bind_some, bytesFrom_bytesC]
      rw [show k + m - k = m by omega, wrap64 (by omega) (by omega), Int.toNat_natCast]
      rfl
end Go.Proofs.YtmjbjgbcpaagmaaDoor

namespace Go.Proofs.YtmjbjgbcpaagmaaDoor
open Go.RowKit

structure Still (h h' : AHeap) : Prop where
  at_ : ∀ (n : Nat) (p : Pt) (cs : List AVal), h.cellsAt n p = some cs → h'.cellsAt n p = some cs
  cell : ∀ (p : Pt) (v : AVal), h.cell p = some v → h'.cell p = some v
  cells : ∀ (sz : Nat) (s : Sl) (cs : List AVal), h.sliceCells sz s = some cs → h'.sliceCells sz s = some cs
theorem Still.refl (h : AHeap) : Still h h := ⟨fun _ _ _ h => h, fun _ _ h => h, fun _ _ _ h => h⟩
theorem Still.trans {a b c : AHeap} (h : Still a b) (k : Still b c) : Still a c := ⟨fun n p cs q => k.1 n p cs (h.1 n p cs q), fun p v q => k.2 p v (h.2 p v q), fun sz s cs q => k.3 sz s cs (h.3 sz s cs q)⟩
theorem Still.ext {h h' : AHeap} (hk : Keeps h h' fun _ => False) : Still h h' :=
  ⟨fun n p cs q => by
    cases p with
    | nil => exact q
    | fp => exact q
    | mk r l => exact cellsAt_keep hk (fun h => h) q,
   fun p v q => by
    cases p with
    | nil => exact q
    | fp => exact q
    | mk r l => exact cell_keep hk (fun h => h) q,
   fun sz s cs q => sliceCells_ext hk q⟩
theorem Still.mark (h : AHeap) (ids : List Nat) : Still h (h.markRo ids) := ⟨fun n p cs q => by rw [cellsAt_mark]; exact q, fun p v q => by rw [cell_mark]; exact q, fun sz s cs q => by rw [sliceCells_mark]; exact q⟩
theorem Sep0.still {h0 h : AHeap} {L : List Chunk} (hs : Sep0 h0 h L) : Still h0 h := Still.ext hs.ext
end Go.Proofs.YtmjbjgbcpaagmaaDoor

namespace Go.Proofs.YtmjbjgbcpaagmaaDoor
open Go.RowKit

theorem gat_run (fuel d : Nat) {j : Nat} (hj : j < 7) (p : Int) (h : AHeap) : run fuel (d + 1) F_aig_at [.int .i64 p, errN j] h = some (atV p (errN j), h) := by
  have key : ∃ h', brun fuel (d + 1) F_aig_at [.int .i64 p, errN j] AHeap.none = some (.iface T_p_api_At (.ptr (.mk ⟨AHeap.none.next, 0, 0⟩ 2)), h') ∧ h' = AHeap.none.push 1 [.int .i64 p, errN j] := by
    refine ⟨_, ?_, rfl⟩
    rw [e_aig_at]
    rcases seven hj with rfl | rfl | rfl | rfl | rfl | rfl | rfl <;> rfl
  obtain ⟨h', e, rfl⟩ := key
  refine pure_of rfl rfl (cc2 rfl (errN_canon hj 4)) e ?_
  rcases seven hj with rfl | rfl | rfl | rfl | rfl | rfl | rfl <;> rfl
theorem gat0 (fuel d : Nat) (p : Int) (h : AHeap) : run fuel (d + 1) F_aig_at [.int .i64 p, err_api_ErrText] h = some (atV p err_api_ErrText, h) := gat_run fuel d (j := 0) (by omega) p h
theorem gatC (fuel d : Nat) {c : Int} (hc : c = 101 ∨ c = 102) (p : Int) (h : AHeap) : run fuel (d + 1) F_aig_at [.int .i64 p, errC c] h = some (atV p (errC c), h) := by
  rcases hc with rfl | rfl
  · exact gat_run fuel d (j := 0) (by omega) p h
  · exact gat_run fuel d (j := 1) (by omega) p h

/-! a row that is seen by a call -/
theorem reachU_mk (h : AHeap) (m : Nat) (r : Ref) (n : Nat) (c : Bool) : reachV h (m + 1) (.slice (.mk r n c)) = (bif Nat.beq n 0 then [] else
      match h.rows[r.id]? with
        | some row => r.id :: (match h.sliceCells row.sz (.mk r n false) with | some cs => cs.flatMap (reachV h m) | .none => [])
        | .none => []) := rfl
theorem reachU_int (h : AHeap) (m : Nat) (k : IntKind) (x : Int) : reachV h (m + 1) (.int k x) = [] := rfl
theorem reachU_bool (h : AHeap) (m : Nat) (b : Bool) : reachV h (m + 1) (.bool b) = [] := rfl
theorem reach_bytes {h : AHeap} {r : Ref} {n : Nat} {c : Bool} {l : List UInt8} (hs : h.sliceCells 1 (.mk r n c) = some (bytesC l)) (q : Bool) : ∀ i ∈ [AVal.slice (.mk r n c), .bool q].flatMap (reachV h 8), i = r.id := by
  intro i hi
  rw [List.flatMap_cons, List.flatMap_cons, List.flatMap_nil, List.append_nil, reachU_mk, reachU_bool, List.append_nil] at hi
  by_cases h0 : n = 0
  · rw [show Nat.beq n 0 = true from by rw [h0]; rfl] at hi
    cases hi
  · obtain ⟨row, q1, q2, q3, q4, q5, q6⟩ := sliceCells_row hs h0
    rw [nbeq_false.2 h0, cond_false, q1] at hi
    simp only [q2] at hi
    have hs2 : h.sliceCells 1 (.mk r n false) = some (bytesC l) := hs
    simp only [hs2] at hi
    rcases List.mem_cons.1 hi with rfl | hi
    · rfl
    · obtain ⟨v, hv, hi⟩ := List.mem_flatMap.1 hi
      obtain ⟨x, _, rfl⟩ := List.mem_map.1 hv
      rw [reachU_int] at hi
      cases hi
theorem split_row (fuel d : Nat) {b : List UInt8} {c : Bool} (hb : b.length < 1000000) (hf : b.length + 2 ≤ fuel) {h : AHeap} {r : Ref} {n : Nat} {q : Bool} (hs : h.sliceCells 1 (.mk r n q) = some (bytesC b)) :
    ∃ h', run fuel (d + 3) F_word_Split [.slice (.mk r n q), .bool c] h = some (.slice (lstW (splitOf b c)), h') ∧ Keeps h h' (· = r.id) := by
  obtain ⟨s', h1, e1, e2⟩ := split_body fuel d hb hf (c := c)
  have hl := sliceCells_len hs
  simp only [List.length_map, Sl.len, Nat.mul_one] at hl
  have hfz : freezeV h 8 (.slice (.mk r n q)) = some (.slice (lstU b)) := by
    rw [freeze_cells hs (m := 7) (us := bytesC b) (mapM_freeze (g := fun b : UInt8 => AVal.int .u8 (b.toNat : Int)) (fun _ => rfl) _), ← hl]
  refine ⟨_, run_fix rfl rfl (canonL_none (i := 0) rfl rfl) (mm2 hfz rfl) e1 e2 rfl, (keeps_mark _).mono fun i _ hi => reach_bytes hs c i hi⟩
theorem Sep0.off {h0 h h' : AHeap} {L : List Chunk} {id n : Nat} {cs : List AVal} (hs : Sep0 h0 h (L ++ [.own 1 id 0 n cs])) (hk : Keeps h h' (· = id)) : Sep0 h0 h' L := by
  have hf : h0.rows.length ≤ id := hs.fresh (.own 1 id 0 n cs) (by simp) id rfl
  refine ⟨hs.init.sep.keep hk fun c hc r hr e => ?_, keeps_new hs.ext hk fun i hi => by subst hi; exact hf, hs.init.fresh⟩
  subst e
  have := (List.pairwise_append.1 hs.sep.far).2.2 c hc (.own 1 r 0 n cs) (by simp)
  exact this.1 r hr rfl

abbrev grCh (r : Nat) (b : List UInt8) (k : Nat) : Chunk := .own 1 r 0 2 [.slice (lstU b), .int .i64 (k : Int)]
abbrev gP (r : Nat) : Pt := .mk ⟨r, 0, 0⟩ 2
section
variable (fuel d : Nat) {h0 : AHeap} {r : Nat} {b : List UInt8}
theorem gr_c0 {h : AHeap} {L : List Chunk} {j k : Nat} (hs : Sep0 h0 h L) (hj : L[j]? = some (grCh r b k)) : h.cell (.mk ⟨r, 0, 0 + 0⟩ 2) = some (.slice (lstU b)) := hs.part hj (by omega) rfl
theorem gr_c1 {h : AHeap} {L : List Chunk} {j k : Nat} (hs : Sep0 h0 h L) (hj : L[j]? = some (grCh r b k)) : h.cell (.mk ⟨r, 0, 0 + 1⟩ 2) = some (.int .i64 (k : Int)) := hs.part hj (by omega) rfl
theorem gline_loop {W : List Wd} (hW : W.length < 1000000) {R : List Chunk} : ∀ (n k : Nat) (s : Sl) (h : AHeap), W.length < n + k → k ≤ W.length → Sep0 h0 h (.grown 1 s (strsC ((W.take k).map (·.text))) :: R) →
    ∃ s' h', l_aig_reader_line_0 fuel d n [(10, .slice s), (47, .slice (lstW W)), (48, .int .i64 (W.length : Int)), (49, .int .i64 (k : Int))] h = some (.exit 0, [(10, .slice s')], h') ∧ Sep0 h0 h' (.grown 1 s' (strsC (W.map (·.text))) :: R) := by
  intro n
  induction n with
  | zero => intro k s h h1 h2; omega
  | succ n ih =>
    intro k s h h1 h2 hs
    have hsl := hs.len (i := 0) rfl
    simp only [List.length_map, List.length_take, Nat.mul_one] at hsl
    rw [l_aig_reader_line_0_eq]
    by_cases hk : k < W.length
    · rw [bif_pos (by omega), waddr h hk, Option.bind_some, cellsAt_fp (wdC_len _), Option.bind_some, cond_pos _ _ (show (!false && Nat.beq (List.length (wdC (W.getD k ⟨[], 0, false⟩))) 3 && List.all (wdC (W.getD k ⟨[], 0, false⟩)) AVal.isCell) = true from rfl)]
      have s1 := (hs.push 1 3 (cs := [(.str (⟨#[]⟩ : ByteArray)), (.int .i64 (0 : Int)), (.bool false)]) rfl).cons
      obtain ⟨h3, e3, s3⟩ := s1.putAll (i := 0) (vs := wdC (W.getD k ⟨[], 0, false⟩)) rfl rfl rfl
      have c0 : h3.cell (.mk ⟨h.next, 0, 0 + 0⟩ 3) = some (.str (tx (W.getD k ⟨[], 0, false⟩).text)) := s3.part (i := 0) rfl (by omega) rfl
      have s4 : Sep0 h0 h3 (.grown 1 s (strsC ((W.take k).map (·.text))) :: R) := s3.tail
      obtain ⟨s', h', e1, s5, _⟩ := s4.grow (i := 0) (bytes := 16) (m := 1) (vs := [.str (tx (W.getD k ⟨[], 0, false⟩).text)]) rfl rfl (by omega) (by omega)
      rw [set0] at s5
      rw [e3, Option.bind_some, field_mk, Option.bind_some, c0, Option.bind_some, str_str, Option.bind_some, e1, Option.bind_some, sucU (by omega)]
      refine ih (k + 1) s' h' (by omega) (by omega) ?_
      rw [take_get hk ⟨[], 0, false⟩, List.map_append, strsC, List.map_append]
      exact s5
    · obtain rfl : k = W.length := by omega
      rw [bif_neg (by omega)]
      rw [List.take_length] at hs
      exact ⟨s, h, rfl, hs⟩
theorem gline_run (hf : b.length + 30 < fuel) (hb : b.length < 1000000) {L : List Chunk} {j k : Nat} {h : AHeap} (many : Nat) (hs : Sep0 h0 h L) (hj : L[j]? = some (grCh r b k)) :
    match lnT (b.drop k) many with
    | none => ∃ h', run fuel (d + 4) F_aig_reader_line [.ptr (gP r), .int .i64 (many : Int)] h = some (.tup [.slice .nil, atV (k : Int) err_api_ErrText], h') ∧ Sep0 h0 h' L
    | some (ws, m) => ∃ h' s, run fuel (d + 4) F_aig_reader_line [.ptr (gP r), .int .i64 (many : Int)] h = some (.tup [.slice s, .nilif], h') ∧ Sep0 h0 h' (.grown 1 s (strsC ws) :: L.set j (grCh r b (k + m))) ∧ ws.length = many := by
  rw [e_aig_reader_line]
  simp only [chk_mk, field_mk, Option.bind_some, gr_c0 hs hj, gr_c1 hs hj, slice_slice, int_int]
  rw [tLine_run fuel d hb]
  have bad : ∀ (t : List UInt8) (x : Int) (is : Bool), t.length ≤ b.length → (is = false ∨ (splitOf t false).length ≠ many) →
      ∃ h', ((some (tupL (t, x, is), h)).bind fun r9 =>
    (bif AVal.isTup 3 r9.1 then ((AVal.comp 0 r9.1).bind fun u10 =>
    (AVal.str? u10).bind fun s11 =>
    (AVal.comp 1 r9.1).bind fun u12 =>
    (AVal.int? .i64 u12).bind fun n13 =>
    (AVal.comp 2 r9.1).bind fun u14 =>
    (AVal.bool? u14).bind fun b15 =>
    (run fuel (d + 3) F_word_Split [(.slice (Sl.mk ⟨AHeap.next r9.2, 0, 0⟩ (ByteArray.size s11) false)), (.bool false)] (AHeap.push r9.2 1 (bytesOf s11))).bind fun r16 =>
    (AVal.slice? r16.1).bind fun s17 =>
    (bif (bif (!b15) then true else (!decide (((s17.len : Nat) : Int) = (many : Int)))) then ((AHeap.cell r16.2 (.mk ⟨r, 0, 0 + 1⟩ 2)).bind fun u20 =>
    (AVal.int? .i64 u20).bind fun n21 =>
    (run fuel (d + 3) F_aig_at [(.int .i64 n21), err_api_ErrText] r16.2).bind fun r22 =>
    some ((AVal.tup [(.slice Sl.nil), r22.1]), r22.2)) else ((AHeap.storeAt r16.2 [(.int .i64 n13)] (.mk ⟨r, 0, 0 + 1⟩ 2)).bind fun h25 =>
    (l_aig_reader_line_0 fuel (d + 3) fuel [(10, (.slice Sl.nil)), (47, (.slice s17)), (48, (.int .i64 ((s17.len : Nat) : Int))), (49, (.int .i64 (0 : Int)))] h25).bind fun p26 =>
    k_aig_reader_line_0 fuel (d + 3) p26.1 p26.2.1 p26.2.2))) else none)) = some (.tup [.slice .nil, atV (k : Int) err_api_ErrText], h') ∧ Sep0 h0 h' L := by
    intro t x is ht hbad
    have s1 := hs.push 1 t.length (cs := bytesC t) (by simp)
    have hcl := (s1.sep.own (i := L.length) List.getElem?_concat_length).cells false
    obtain ⟨h2, e2, k2⟩ := split_row fuel d (b := t) (c := false) (by omega) (by omega) hcl
    have s2 := s1.off k2
    refine ⟨h2, ?_, s2⟩
    rw [Option.bind_some]
    simp only [tupL, tup3, cond_true, comp0, comp1, comp2, Option.bind_some, str_str, int_int, bool_bool]
    rw [show (⟨t.toArray⟩ : ByteArray) = tx t from rfl, tx_size, bytesOf_tx, e2]
    simp only [Option.bind_some, slice_slice]
    rw [len_lst, cond_pos _ _ (by
      rcases hbad with rfl | hbad
      · rfl
      · cases is
        · rfl
        · rw [Bool.not_true, cond_false, decide_eq_false (by omega)]; rfl), gr_c1 s2 hj]
    simp only [Option.bind_some, int_int]
    rw [gat0 fuel (d + 2)]
    rfl
  unfold lineI lnT
  by_cases hk : (k : Int) < 0 ∨ (b.length : Int) ≤ (k : Int)
  · rw [if_pos hk, if_pos (by rw [List.drop_eq_nil_of_le (by omega)]; simp [Lib.indexByte])]
    exact bad [] 0 false (by simp) (.inl rfl)
  rw [if_neg hk, Int.toNat_natCast]
  by_cases hi : Lib.indexByte (b.drop k) 10 < 0
  · rw [if_pos hi, if_pos hi]
    exact bad [] 0 false (by simp) (.inl rfl)
  rw [if_neg hi, if_neg hi]
  obtain ⟨m, hm⟩ : ∃ m : Nat, Lib.indexByte (b.drop k) 10 = (m : Int) := ⟨(Lib.indexByte (b.drop k) 10).toNat, by omega⟩
  rw [hm, Int.toNat_natCast]
  have hmb : m < (b.drop k).length := by
    rcases index_lt (b.drop k) 10 with h | ⟨h, h2⟩
    · omega
    · rw [h2] at hm; omega
  rw [List.length_drop] at hmb
  have htl : ((b.drop k).take m).length = m := by simp; omega
  generalize (b.drop k).take m = t at htl
  simp only [List.length_map]
  by_cases hw : (splitOf t false).length = many
  · rw [if_pos hw]
    have s1 := hs.push 1 t.length (cs := bytesC t) (by simp)
    have hcl := (s1.sep.own (i := L.length) List.getElem?_concat_length).cells false
    obtain ⟨h2, e2, k2⟩ := split_row fuel d (b := t) (c := false) (by omega) (by omega) hcl
    have s2 := s1.off k2
    obtain ⟨h3, e3, s3⟩ := s2.put (i := j) (o := 1) (l := 2) (vs := [.int .i64 ((k + (m + 1) : Nat) : Int)]) hj (by simp) (by simp)
    have s3' : Sep0 h0 h3 (L.set j (grCh r b (k + (m + 1)))) := s3
    have hl := split_len t false
    obtain ⟨s', h4, e4, s4⟩ := gline_loop fuel (d + 3) (W := splitOf t false) (by omega) fuel 0 .nil h3 (by omega) (by omega) (s3'.addNil 1).cons
    refine ⟨h4, s', ?_, s4, by simpa using hw⟩
    rw [Option.bind_some]
    simp only [tupL, tup3, cond_true, comp0, comp1, comp2, Option.bind_some, str_str, int_int, bool_bool]
    rw [show (⟨t.toArray⟩ : ByteArray) = tx t from rfl, tx_size, bytesOf_tx, e2]
    simp only [Option.bind_some, slice_slice]
    rw [len_lst, Bool.not_true, cond_false, bif_npos (by omega), show (k : Int) + (m : Int) + 1 = ((k + (m + 1) : Nat) : Int) by omega, show (0 + 1 : Nat) = 1 from rfl, e3]
    simp only [Option.bind_some]
    rw [show ((0 : Nat) : Int) = 0 from rfl] at e4
    rw [e4, Option.bind_some, k_aig_reader_line_0_x0]
  · rw [if_neg hw]
    exact bad t _ true (by omega) (.inr hw)

theorem shl_or {i acc m : Nat} (hi : i ≤ 4) (ha : acc < 128 ^ i) (hm : m < 128) : bitsOp .or .i64 (acc : Int) (IntKind.wrap .i64 ((IntKind.wrap .i64 (m : Int)) * 2 ^ min (Int.toNat (IntKind.wrap .i64 ((7 : Int) * (i : Int)))) (IntKind.bits .i64))) = ((acc + m * 128 ^ i : Nat) : Int) := by
  have hp : (128 : Nat) ^ i = 2 ^ (7 * i) := by rw [Nat.pow_mul]
  have hb : (128 : Nat) ^ i ≤ 268435456 := Nat.le_trans (Nat.pow_le_pow_right (by omega) hi) (by omega)
  have hmul : m * 128 ^ i ≤ 127 * 268435456 := Nat.mul_le_mul (by omega) hb
  rw [wrap64 (n := (m : Int)) (by omega) (by omega), wrap64 (n := (7 : Int) * (i : Int)) (by omega) (by omega), show ((7 : Int) * (i : Int)).toNat = 7 * i by omega, show IntKind.bits .i64 = 64 from rfl, Nat.min_eq_left (by omega)]
  have e : (m : Int) * 2 ^ (7 * i) = ((m * 2 ^ (7 * i) : Nat) : Int) := by simp
  rw [hp] at ha hmul ⊢
  rw [e, wrap64 (by omega) (by omega), orsh ha (by omega)]
theorem gnumR_loop {L : List Chunk} {j k : Nat} {h : AHeap} (hb : b.length < 1000000) (hk9 : k < 1000000000) (lo hi : Int) (hs : Sep0 h0 h L) (hj : L[j]? = some (grCh r b k)) : ∀ (n i acc : Nat), 5 < n + i → i ≤ 5 → acc < 128 ^ i →
    match (numT (5 - i) i acc (b.drop (k + i))).bind (fun p => if lo ≤ (p.1 : Int) ∧ (p.1 : Int) ≤ hi then some ((p.1 : Int), p.2) else none) with
    | none => l_aig_reader_number_0 fuel d n [(0, .ptr (gP r)), (1, .int .i64 lo), (2, .int .i64 hi), (8, .int .i64 (acc : Int)), (11, .int .i64 (i : Int))] h = some (.exit 0, [(0, .ptr (gP r)), (6, .bot), (7, .bot)], h)
    | some (v, m) => ∃ h', l_aig_reader_number_0 fuel d n [(0, .ptr (gP r)), (1, .int .i64 lo), (2, .int .i64 hi), (8, .int .i64 (acc : Int)), (11, .int .i64 (i : Int))] h = some (.ret, [(0, .ptr (gP r)), (6, .int .i64 v), (7, .nilif)], h') ∧ Sep0 h0 h' (L.set j (grCh r b (k + m))) := by
  intro n
  induction n with
  | zero => intro i acc h1 h2; omega
  | succ n ih =>
    intro i acc h1 h2 ha
    rw [l_aig_reader_number_0_eq]
    by_cases hi5 : i < 5
    · rw [bif_pos (by omega), show 5 - i = (5 - (i + 1)) + 1 by omega]
      simp only [chk_mk, field_mk, Option.bind_some, gr_c0 hs hj, gr_c1 hs hj, slice_slice, int_int]
      rw [len_lst, show IntKind.wrap .i64 ((k : Int) + (i : Int)) = ((k + i : Nat) : Int) by rw [wrap64 (by omega) (by omega)]; omega]
      by_cases hk : k + i < b.length
      · rw [bif_neg (by omega), addr_lstM _ (by omega) (by omega) 0, Int.toNat_natCast, drop_cons hk]
        generalize b.getD (k + i) 0 = c
        simp only [Option.bind_some, cell_fp, int_int]
        have hc := c.toNat_lt
        rw [bif_neg (show ¬ IntKind.wrap .i64 ((7 : Int) * (i : Int)) < 0 by rw [wrap64 (by omega) (by omega)]; omega), and127u c.toNat (by omega), shl_or (by omega) ha (Nat.mod_lt _ (by omega))]
        unfold numT
        have hp : 128 ^ (i + 1) = 128 * 128 ^ i := by rw [Nat.pow_succ, Nat.mul_comm]
        have hml : c.toNat % 128 * 128 ^ i ≤ 127 * 128 ^ i := Nat.mul_le_mul_right _ (by omega)
        have hlt : acc + c.toNat % 128 * 128 ^ i < 128 ^ (i + 1) := by omega
        generalize acc + c.toNat % 128 * 128 ^ i = v at hlt
        by_cases hge : 128 ≤ c.toNat
        · rw [bif_pos (by omega), if_pos hge, sucU (by omega)]
          have := ih (i + 1) v (by omega) (by omega) hlt
          rw [← Nat.add_assoc] at this
          exact this
        · rw [bif_neg (by omega), if_neg hge, Option.bind_some]
          simp only
          by_cases hr : lo ≤ (v : Int) ∧ (v : Int) ≤ hi
          · rw [if_pos hr, decide_eq_false (by omega), decide_eq_false (by omega)]
            obtain ⟨h', e1, s1⟩ := hs.put (i := j) (o := 1) (l := 2) (vs := [.int .i64 ((k + (i + 1) : Nat) : Int)]) hj (by simp) (by simp)
            refine ⟨h', ?_, s1⟩
            simp only [cond_false]
            rw [show IntKind.wrap .i64 ((k : Int) + IntKind.wrap .i64 ((i : Int) + 1)) = ((k + (i + 1) : Nat) : Int) by rw [sucU (by omega), wrap64 (by omega) (by omega)]; omega, show (0 + 1 : Nat) = 1 from rfl, e1]
            rfl
          · rw [if_neg hr, cond_pos]
            by_cases hlo : (v : Int) < lo
            · rw [decide_eq_true hlo]; rfl
            · rw [decide_eq_false hlo, decide_eq_true (by omega)]; rfl
      · rw [bif_pos (by omega), List.drop_eq_nil_of_le (by omega)]
        rfl
    · obtain rfl : i = 5 := by omega
      rw [bif_neg (by omega)]
      rfl
theorem gnumR_run (hf : 30 < fuel) {L : List Chunk} {j k : Nat} {h : AHeap} (hb : b.length < 1000000) (hk9 : k < 1000000000) (lo hi : Int) (hs : Sep0 h0 h L) (hj : L[j]? = some (grCh r b k)) :
    match delG (b.drop k) lo hi with
    | none => run fuel (d + 2) F_aig_reader_number [.ptr (gP r), .int .i64 lo, .int .i64 hi] h = some (.tup [.int .i64 0, atV (k : Int) err_api_ErrText], h)
    | some (v, m) => ∃ h', run fuel (d + 2) F_aig_reader_number [.ptr (gP r), .int .i64 lo, .int .i64 hi] h = some (.tup [.int .i64 v, .nilif], h') ∧ Sep0 h0 h' (L.set j (grCh r b (k + m))) := by
  have hl := gnumR_loop fuel (d + 1) hb hk9 lo hi hs hj fuel 0 0 (by omega) (by omega) (by simp)
  rw [show ((0 : Nat) : Int) = 0 from rfl, Nat.add_zero, Nat.sub_zero] at hl
  rw [e_aig_reader_number]
  unfold delG
  cases hq : (numT 5 0 0 (b.drop k)).bind (fun p => if lo ≤ (p.1 : Int) ∧ (p.1 : Int) ≤ hi then some ((p.1 : Int), p.2) else none) with
  | none =>
    rw [hq] at hl
    simp only at hl ⊢
    rw [hl, Option.bind_some, k_aig_reader_number_0_x0]
    simp only [chk_mk, field_mk, Option.bind_some, gr_c1 hs hj, int_int]
    rw [gat0 fuel d]
    rfl
  | some vm =>
    obtain ⟨v, m⟩ := vm
    rw [hq] at hl
    obtain ⟨h', e1, s1⟩ := hl
    refine ⟨h', ?_, s1⟩
    rw [e1, Option.bind_some, k_aig_reader_number_0_r]
end
end Go.Proofs.YtmjbjgbcpaagmaaDoor

namespace Go.Proofs.YtmjbjgbcpaagmaaDoor
open Go.RowKit

theorem delG_len {r : List UInt8} {lo hi : Int} {v : Int} {m : Nat} (h : delG r lo hi = some (v, m)) : lo ≤ v ∧ v ≤ hi ∧ m ≤ 5 := by
  have key : ∀ (f i a : Nat) (r : List UInt8) (p : Nat × Nat), numT f i a r = some p → p.2 ≤ i + f := by
    intro f
    induction f with
    | zero => intro i a r p h; cases h
    | succ f ih =>
      intro i a r p h
      cases r with
      | nil => cases h
      | cons c r =>
        unfold numT at h
        split at h
        · have := ih _ _ _ _ h
          omega
        · cases h
          simp only
          omega
  unfold delG at h
  cases hn : numT 5 0 0 r with
  | none => rw [hn] at h; cases h
  | some p =>
    rw [hn, Option.bind_some] at h
    have := key 5 0 0 r p hn
    split at h
    · rename_i hp
      cases h
      exact ⟨hp.1, hp.2, by omega⟩
    · cases h
section
variable (fuel d : Nat) (hf : 30 < fuel) {h0 : AHeap} {r : Nat} {b : List UInt8} (hb : b.length < 1000000)
include hf hb
theorem gands_loop {I : Nat} {i : Int} (hI : I ≤ 10000) (hi : 0 ≤ i ∧ i ≤ 10000) {j : Nat} : ∀ (n m p : Nat) (A : List (Int × Int)) (s : Sl) (L : List Chunk) (h : AHeap), I < n + m → m ≤ I → p + 20 * (I - m) < 900000000 → A.length = m → Sep0 h0 h (.grown 2 s (pairsC A) :: L) → L[j]? = some (grCh r b p) →
    match andsG b i m (I - m) p A with
    | .error q => ∃ h' s' p', l_aig_reader_ands_0 fuel (d + 2) n [(0, .ptr (gP r)), (1, .int .i64 i), (8, .slice s), (15, .int .i64 (I : Int)), (16, .int .i64 (m : Int))] h = some (.ret, [(6, .slice .nil), (7, atV q err_api_ErrText), (8, .slice s')], h') ∧ Sep0 h0 h' (L.set j (grCh r b p'))
    | .ok (A', p') => ∃ h' s', l_aig_reader_ands_0 fuel (d + 2) n [(0, .ptr (gP r)), (1, .int .i64 i), (8, .slice s), (15, .int .i64 (I : Int)), (16, .int .i64 (m : Int))] h = some (.exit 0, [(6, .bot), (7, .bot), (8, .slice s')], h') ∧ Sep0 h0 h' (.grown 2 s' (pairsC A') :: L.set j (grCh r b p')) ∧ p' ≤ p + 10 * (I - m) := by
  intro n
  induction n with
  | zero => intro m p A s L h h1 h2; omega
  | succ n ih =>
    intro m p A s L h h1 h2 hp9 hA hs hj
    have hsl := hs.len (i := 0) rfl
    rw [pairsC_len] at hsl
    rw [l_aig_reader_ands_0_eq]
    by_cases hm : m < I
    · rw [bif_pos (by omega), wrap64 (n := i + (m : Int)) (by omega) (by omega), wrap64 (n := i + (m : Int) + 1) (by omega) (by omega), wrap64 (n := 2 * (i + (m : Int) + 1)) (by omega) (by omega), show I - m = (I - (m + 1)) + 1 by omega]
      have hj1 : (Chunk.grown 2 s (pairsC A) :: L)[j + 1]? = some (grCh r b p) := hj
      have n1 := gnumR_run fuel d hf hb (by omega) 1 (2 * (i + (m : Int) + 1)) hs hj1
      unfold andsG
      cases q1 : delG (b.drop p) 1 (2 * (i + (m : Int) + 1)) with
      | none =>
        rw [q1] at n1
        refine ⟨h, s, p, ?_, ?_⟩
        · simp only at n1
          rw [n1]
          rfl
        · rw [set_self hj]
          exact hs.tail
      | some xm =>
        obtain ⟨x, k1⟩ := xm
        obtain ⟨x0, x1, x2⟩ := delG_len q1
        rw [q1] at n1
        obtain ⟨h1', e1, s1⟩ := n1
        have s1' : Sep0 h0 h1' (.grown 2 s (pairsC A) :: L.set j (grCh r b (p + k1))) := s1
        rw [e1]
        simp only [Option.bind_some, tup2, cond_true, comp0, comp1, int_int, nilTest_nilif, Bool.not_true, cond_false]
        rw [wrap64 (n := 2 * (i + (m : Int) + 1) - x) (by omega) (by omega)]
        have hj2 : (Chunk.grown 2 s (pairsC A) :: L.set j (grCh r b (p + k1)))[j + 1]? = some (grCh r b (p + k1)) := get_set hj _
        have n2 := gnumR_run fuel d hf hb (by omega) 0 (2 * (i + (m : Int) + 1) - x) s1' hj2
        cases q2 : delG (b.drop (p + k1)) 0 (2 * (i + (m : Int) + 1) - x) with
        | none =>
          rw [q2] at n2
          refine ⟨h1', s, p + k1, ?_, s1'.tail⟩
          simp only at n2
          rw [n2]
          rfl
        | some ym =>
          obtain ⟨y, k2⟩ := ym
          obtain ⟨y0, y1, y2⟩ := delG_len q2
          rw [q2] at n2
          obtain ⟨h2', e2, s2⟩ := n2
          have s2' : Sep0 h0 h2' (.grown 2 s (pairsC A) :: L.set j (grCh r b (p + k1 + k2))) := by
            have : Sep0 h0 h2' (.grown 2 s (pairsC A) :: (L.set j (grCh r b (p + k1))).set j (grCh r b (p + k1 + k2))) := s2
            rw [List.set_set] at this
            exact this
          obtain ⟨s', h3', e3, s3, _⟩ := s2'.grow (i := 0) (bytes := 16) (m := 1) (vs := pairC (2 * (i + (m : Int) + 1) - x, 2 * (i + (m : Int) + 1) - x - y)) rfl rfl (by omega) (by omega)
          rw [set0, show pairsC A ++ pairC (2 * (i + (m : Int) + 1) - x, 2 * (i + (m : Int) + 1) - x - y) = pairsC (A ++ [(2 * (i + (m : Int) + 1) - x, 2 * (i + (m : Int) + 1) - x - y)]) by simp [pairsC]] at s3
          have := ih (m + 1) (p + k1 + k2) (A ++ [(2 * (i + (m : Int) + 1) - x, 2 * (i + (m : Int) + 1) - x - y)]) s' (L.set j (grCh r b (p + k1 + k2))) h3' (by omega) (by omega) (by omega) (by simp; omega) s3 (get_set hj _)
          rw [e2]
          simp only [Option.bind_some, tup2, cond_true, comp0, comp1, int_int, nilTest_nilif, Bool.not_true, cond_false]
          rw [wrap64 (n := 2 * (i + (m : Int) + 1) - x - y) (by omega) (by omega), e3]
          simp only [Option.bind_some]
          rw [sucU (by omega)]
          simp only [List.set_set] at this
          cases hg : andsG b i (m + 1) (I - (m + 1)) (p + k1 + k2) (A ++ [(2 * (i + (m : Int) + 1) - x, 2 * (i + (m : Int) + 1) - x - y)]) with
          | error q =>
            rw [hg] at this
            exact this
          | ok Ap =>
            obtain ⟨A', p'⟩ := Ap
            rw [hg] at this
            obtain ⟨h4, s4, t1, t2, t3⟩ := this
            exact ⟨h4, s4, t1, t2, by omega⟩
    · obtain rfl : m = I := by omega
      rw [bif_neg (by omega), Nat.sub_self]
      unfold andsG
      refine ⟨h, s, rfl, ?_, by omega⟩
      rw [set_self hj]
      exact hs
theorem gands_run {I : Nat} {i : Int} (hI : I ≤ 10000) (hi : 0 ≤ i ∧ i ≤ 10000) (hfI : 10000 < fuel) {j p : Nat} {L : List Chunk} {h : AHeap} (hp : p < 10000000) (hs : Sep0 h0 h L) (hj : L[j]? = some (grCh r b p)) :
    match andsG b i 0 I p [] with
    | .error q => ∃ h' p', run fuel (d + 3) F_aig_reader_ands [.ptr (gP r), .int .i64 i, .int .i64 (I : Int)] h = some (.tup [.slice .nil, atV q err_api_ErrText], h') ∧ Sep0 h0 h' (L.set j (grCh r b p'))
    | .ok (A', p') => ∃ h' s', run fuel (d + 3) F_aig_reader_ands [.ptr (gP r), .int .i64 i, .int .i64 (I : Int)] h = some (.tup [.slice s', .nilif], h') ∧ Sep0 h0 h' (.grown 2 s' (pairsC A') :: L.set j (grCh r b p')) ∧ p' ≤ p + 10 * I := by
  have hl := gands_loop fuel d hf hb (h0 := h0) (r := r) hI hi (j := j) fuel 0 p [] .nil L h (by omega) (by omega) (by omega) rfl (hs.addNil 2).cons hj
  rw [Nat.sub_zero, show ((0 : Nat) : Int) = 0 from rfl] at hl
  rw [e_aig_reader_ands]
  cases hq : andsG b i 0 I p [] with
  | error q =>
    rw [hq] at hl
    obtain ⟨h', s', p', e1, s1⟩ := hl
    refine ⟨h', p', ?_, s1⟩
    rw [e1, Option.bind_some, k_aig_reader_ands_0_r]
  | ok Ap =>
    obtain ⟨A', p'⟩ := Ap
    rw [hq] at hl
    obtain ⟨h', s', e1, s1, hp'⟩ := hl
    refine ⟨h', s', ?_, s1, hp'⟩
    rw [e1, Option.bind_some, k_aig_reader_ands_0_x0]
end
theorem strsC_get {h : AHeap} {s : Sl} {ws : List (List UInt8)} (hg : Grown h 1 s (strsC ws)) (q : Int) (p : Nat) (hq : q = p) (hp : p < ws.length) : h.addr 1 s q = some (s.at 1 q) ∧ h.cell (s.at 1 q) = some (.str (tx (ws.getD p []))) := by
  have hl := hg.len
  rw [List.length_map, Nat.mul_one] at hl
  subst hq
  refine ⟨addr_at hg.cells (by omega) (by omega), cell_at hg.cells (by omega) ?_⟩
  rw [Int.toNat_natCast, List.getElem?_map, List.getElem?_eq_getElem hp, List.getD_eq_getElem?_getD, List.getElem?_eq_getElem hp]; rfl
section
variable (fuel d : Nat) (hf : 30 < fuel) {h0 : AHeap} {N R : Nat} {ws : List (List UInt8)} {s : Sl}
include hf
theorem ghead_loop (hw : ws.length = 6) {X : List Chunk} : ∀ (n k : Nat) (is : Bool) (nn : List Int) (h : AHeap), 6 < n + k → 1 ≤ k → k ≤ 6 → nn.length = 6 → (is = true → nn.take k = 0 :: ((ws.take k).drop 1).map numW) → Sep0 h0 h (.grown 1 s (strsC ws) :: .own 1 N 0 6 (intsC nn) :: X) →
    ∃ h' nn', l_aig_reader_head_0 fuel (d + 4) n [(2, .ptr (nP R)), (4, .ptr (nP N)), (5, .slice s), (7, .bool is), (8, .int .i64 (k : Int))] h = some (.exit 0, [(2, .ptr (nP R)), (4, .ptr (nP N)), (7, .bool (is && (ws.drop k).all plainW))], h') ∧ nn'.length = 6 ∧ ((is && (ws.drop k).all plainW) = true → nn' = 0 :: (ws.drop 1).map numW) ∧ Sep0 h0 h' (.grown 1 s (strsC ws) :: .own 1 N 0 6 (intsC nn') :: X) := by
  intro n
  induction n with
  | zero => intro k is nn h h1 h2; omega
  | succ n ih =>
    intro k is nn h h1 h2 h3 hn htk hs
    rw [l_aig_reader_head_0_eq]
    cases is with
    | false =>
      rw [cond_neg _ _ (show (bif decide ((k : Int) < 6) then false else false) = false by cases decide ((k : Int) < 6) <;> rfl)]
      exact ⟨h, nn, rfl, hn, (fun h => by cases h), hs⟩
    | true =>
      by_cases hk : k < 6
      · obtain ⟨g1, g2⟩ := strsC_get (hs.sep.grown (i := 0) rfl) (k : Int) k rfl (by omega)
        rw [decide_eq_true (show (k : Int) < 6 by omega), cond_true, cond_true, g1, Option.bind_some, g2, Option.bind_some, str_str, Option.bind_some, plain_run fuel d (by omega)]
        simp only [Option.bind_some, tup2, cond_true, comp0, comp1, int_int, bool_bool]
        rw [elem6 hk, Option.bind_some]
        have hd : ws.drop k = ws.getD k [] :: ws.drop (k + 1) := drop_get (by omega) []
        obtain ⟨h1', e1, s1⟩ := hs.put (i := 1) (o := k) (l := 6) (vs := [.int .i64 (if plainW (ws.getD k []) = true then numW (ws.getD k []) else 0)]) rfl (by simp; omega) (by simp; omega)
        rw [set1, show [AVal.int .i64 (if plainW (ws.getD k []) = true then numW (ws.getD k []) else 0)].length = 1 from rfl, intsC_set (by omega)] at s1
        rw [e1, Option.bind_some, sucU (by omega), hd]
        have := ih (k + 1) (plainW (ws.getD k [])) (nn.set k (if plainW (ws.getD k []) = true then numW (ws.getD k []) else 0)) h1' (by omega) (by omega) (by omega) (by rw [List.length_set]; exact hn) (fun hp => by
          rw [take_get (by rw [List.length_set]; omega) 0, List.take_set_of_le (Nat.le_refl _), htk rfl, if_pos hp, take_get (l := ws) (by omega) [], List.drop_append_of_le_length (by simp; omega), List.map_append]
          simp [List.getD_eq_getElem?_getD, show k < nn.length by omega]) s1
        simp only [List.all_cons, Bool.true_and]
        exact this
      · obtain rfl : k = 6 := by omega
        rw [decide_eq_false (by omega), cond_false, cond_false, List.drop_eq_nil_of_le (by omega)]
        refine ⟨h, nn, rfl, hn, fun _ => ?_, hs⟩
        have := htk rfl
        rw [List.take_of_length_le (by omega), List.take_of_length_le (by omega)] at this
        exact this
end
section
variable (fuel d : Nat) {h0 : AHeap} {r : Nat} {b : List UInt8}
theorem plain_range {ws : List (List UInt8)} (h : (ws.drop 1).all plainW = true) {k : Nat} (hk : 1 ≤ k) (hl : k < ws.length) : 0 ≤ numW (ws.getD k []) ∧ numW (ws.getD k []) ≤ 999999999 := by
  refine plainW_range (List.all_eq_true.1 h _ ?_)
  have : (ws.drop 1)[k - 1]? = some (ws.getD k []) := by
    rw [List.getElem?_drop, show 1 + (k - 1) = k by omega, List.getD_eq_getElem?_getD, List.getElem?_eq_getElem hl]; rfl
  exact List.mem_of_getElem? this
theorem ghead_run (hf : b.length + 30 < fuel) (hb : b.length < 1000000) {L : List Chunk} {j : Nat} {h : AHeap} (hs : Sep0 h0 h L) (hj : L[j]? = some (grCh r b 0)) :
    match headG b with
    | .error c => ∃ h' k' nn, run fuel (d + 6) F_aig_reader_head [.ptr (gP r)] h = some (.tup [.agg (intsC nn), atV 0 (errC c)], h') ∧ nn.length = 6 ∧ Sep0 h0 h' (L.set j (grCh r b k'))
    | .ok (N, k) => ∃ h', run fuel (d + 6) F_aig_reader_head [.ptr (gP r)] h = some (.tup [.agg (intsC (0 :: N)), .nilif], h') ∧ Sep0 h0 h' (L.set j (grCh r b k)) ∧ N.length = 5 ∧ (∀ x ∈ N, 0 ≤ x ∧ x ≤ 999999999) ∧ limT (N.getD 0 0) (N.getD 1 0) (N.getD 2 0) (N.getD 3 0) (N.getD 4 0) = none ∧ k ≤ b.length := by
  rw [e_aig_reader_head]
  rw [show [(AVal.int .i64 (0 : Int)), (.int .i64 (0 : Int)), (.int .i64 (0 : Int)), (.int .i64 (0 : Int)), (.int .i64 (0 : Int)), (.int .i64 (0 : Int))] = intsC [0, 0, 0, 0, 0, 0] from rfl]
  have s1 := ((hs.push 1 6 (cs := intsC [0, 0, 0, 0, 0, 0]) rfl).cons.push 1 6 (cs := intsC [0, 0, 0, 0, 0, 0]) rfl).cons
  generalize h.next = R at s1
  generalize (h.push 1 (intsC [0, 0, 0, 0, 0, 0])).next = N at s1
  generalize (h.push 1 (intsC [0, 0, 0, 0, 0, 0])).push 1 (intsC [0, 0, 0, 0, 0, 0]) = H at s1
  have hj2 : (Chunk.own 1 N 0 6 (intsC [0, 0, 0, 0, 0, 0]) :: .own 1 R 0 6 (intsC [0, 0, 0, 0, 0, 0]) :: L)[j + 2]? = some (grCh r b 0) := hj
  have hln := gline_run fuel (d + 1) hf hb 6 s1 hj2
  rw [List.drop_zero, show ((6 : Nat) : Int) = 6 from rfl, show ((0 : Nat) : Int) = 0 from rfl] at hln
  unfold headG
  cases hq : lnT b 6 with
  | none =>
    rw [hq] at hln
    obtain ⟨h1, e1, s2⟩ := hln
    have cN : h1.cellsAt 6 (nP N) = some (intsC [0, 0, 0, 0, 0, 0]) := s2.getAll (i := 0) rfl rfl
    obtain ⟨h', e2, s3⟩ := s2.putAll (i := 1) (vs := intsC [0, 0, 0, 0, 0, 0]) rfl rfl rfl
    have cR : h'.cellsAt 6 (nP R) = some (intsC [0, 0, 0, 0, 0, 0]) := s3.getAll (i := 1) rfl rfl
    refine ⟨h', 0, [0, 0, 0, 0, 0, 0], ?_, rfl, ?_⟩
    · rw [e1]
      simp only [Option.bind_some, tup2, cond_true, comp0, comp1, slice_slice, nilTest_if, Bool.not_false]
      rw [cN, Option.bind_some, all6t rfl, cond_true, e2, Option.bind_some, cR]
      rfl
    · rw [set_self hj]
      exact s3.tail.tail
  | some wk =>
    obtain ⟨ws, k⟩ := wk
    have hkb : k ≤ b.length := by
      unfold lnT at hq
      split at hq
      · cases hq
      · rename_i hi
        simp only at hq
        split at hq
        · cases hq
          rcases index_lt b 10 with h | ⟨_, h⟩ <;> omega
        · cases hq
    rw [hq] at hln
    obtain ⟨h1, s, e1, s2, hw6⟩ := hln
    have s2' : Sep0 h0 h1 (.grown 1 s (strsC ws) :: .own 1 N 0 6 (intsC [0, 0, 0, 0, 0, 0]) :: .own 1 R 0 6 (intsC [0, 0, 0, 0, 0, 0]) :: L.set j (grCh r b (0 + k))) := s2
    rw [Nat.zero_add] at s2'
    obtain ⟨g1, g2⟩ := strsC_get (s2'.sep.grown (i := 0) rfl) (0 : Int) 0 rfl (by omega)
    have hcmp : decide (tx (ws.getD 0 []) = (⟨#[97, 105, 103]⟩ : ByteArray)) = (ws.getD 0 [] == [97, 105, 103]) := by
      have := txt_ne (ws.getD 0 []) [97, 105, 103]
      rw [show tx [97, 105, 103] = (⟨#[97, 105, 103]⟩ : ByteArray) from rfl] at this
      exact Bool.not_inj this
    have hws0 : ws.take 1 = [ws.getD 0 []] := by rw [take_get (by omega) []]; rfl
    obtain ⟨h2, nn, e2, hn6, hnn, s3⟩ := ghead_loop fuel (d + 1) (by omega) (R := R) hw6 fuel 1 (ws.getD 0 [] == [97, 105, 103]) [0, 0, 0, 0, 0, 0] h1 (by omega) (by omega) (by omega) rfl (fun _ => by rw [hws0]; rfl) s2'
    rw [e1]
    simp only [Option.bind_some, tup2, cond_true, comp0, comp1, slice_slice, nilTest_nilif, Bool.not_true, cond_false]
    rw [g1, Option.bind_some, g2, Option.bind_some, str_str, Option.bind_some, hcmp]
    rw [show ((1 : Nat) : Int) = 1 from rfl] at e2
    rw [e2, Option.bind_some, k_aig_reader_head_0_x0]
    have cN : h2.cellsAt 6 (nP N) = some (intsC nn) := s3.getAll (i := 1) rfl (by rw [List.length_map, hn6])
    obtain ⟨h', e3, s4⟩ := s3.putAll (i := 2) (vs := intsC nn) rfl rfl (by rw [List.length_map, hn6])
    have cR : h'.cellsAt 6 (nP R) = some (intsC nn) := s4.getAll (i := 2) rfl (by rw [List.length_map, hn6])
    have s4' : Sep0 h0 h' (L.set j (grCh r b k)) := s4.tail.tail.tail
    cases his : (ws.getD 0 [] == [97, 105, 103] && (ws.drop 1).all plainW) with
    | false =>
      simp only [Bool.false_eq_true, if_false]
      refine ⟨h', k, nn, ?_, hn6, s4'⟩
      rw [Bool.not_false, cond_true, cN, Option.bind_some, gat0 fuel (d + 4), Option.bind_some]
      simp only
      rw [cN, Option.bind_some, same_self, all6t hn6, cond_true, e3, Option.bind_some, cR]
      rfl
    | true =>
      simp only [if_true]
      rw [hnn his] at cN e3 cR hn6
      rw [Bool.and_eq_true] at his
      have p2 := plain_range his.2 (k := 2) (by omega) (by omega)
      have p5 := plain_range his.2 (k := 5) (by omega) (by omega)
      have hws : (ws.drop 1).map numW = [numW (ws.getD 1 []), numW (ws.getD 2 []), numW (ws.getD 3 []), numW (ws.getD 4 []), numW (ws.getD 5 [])] := by
        match ws, hw6 with
        | [a, b, c, d, e, f], _ => rfl
      rw [hws] at cN e3 cR hn6
      have hlim := limits_run fuel (d + 4) (x := 0) (m := numW (ws.getD 1 [])) (i := numW (ws.getD 2 [])) (l := numW (ws.getD 3 [])) (o := numW (ws.getD 4 [])) (a := numW (ws.getD 5 [])) p2 p5 h2
      rw [Bool.not_true, cond_false, cN, Option.bind_some, hlim]
      cases ht : limT (numW (ws.getD 1 [])) (numW (ws.getD 2 [])) (numW (ws.getD 3 [])) (numW (ws.getD 4 [])) (numW (ws.getD 5 [])) with
      | none =>
        refine ⟨h', ?_, s4', by rw [hws]; rfl, fun x hx => ?_, by rw [hws]; exact ht, hkb⟩
        · simp only [limA, Option.bind_some, tup2, cond_true, comp0, comp1, int_int, nilTest_nilif, Bool.not_true, cond_false]
          rw [cN, Option.bind_some, all6 hn6, cond_true, e3, Option.bind_some, cR, hws]
          rfl
        · obtain ⟨t, ht', rfl⟩ := List.mem_map.1 hx
          exact plainW_range (List.all_eq_true.1 his.2 t ht')
      | some kc =>
        obtain ⟨k9, c⟩ := kc
        obtain ⟨hc1, _⟩ := limT_code ht
        refine ⟨h', k, _, ?_, hn6, s4'⟩
        have hnt : nilTest .iface (errC c) = some false := by rcases hc1 with rfl | rfl <;> rfl
        simp only [limA, Option.bind_some, tup2, cond_true, comp0, comp1, int_int, hnt, Bool.not_false, cN]
        rw [gatC fuel (d + 4) hc1, Option.bind_some]
        simp only
        rw [cN, Option.bind_some, same_self, all6t hn6, cond_true, e3, Option.bind_some, cR]
        rfl
end
end Go.Proofs.YtmjbjgbcpaagmaaDoor
