/-
  Parts of the proof of AagTurned: aag's reader: the body whole. aag's reader: the head; aag.Read. aag.Read. aag.Read. Faults in memory. The document's numbers. skolemref1.Split. Parts of slices that grow; what is marked; what was there before an append. The document's reader of circuits' texts: count, text, limits. The document's reader of circuits' texts: its loops. The document's reader of circuits' texts: its other loops. skolemref8.ReadAag. skolemref.SameInts. Circuits held against circuits; what the readers tell. The words of a text, from its front on. The words of a text without comments, from its front on; lines of numbers are read. A text of numbers that is cut (no program in sight). skolemworld.Number. skolemmake.Circuit. aag.Bytes. skolemlaw11.first. skolemref.Bytes: a slice of its own. What is there still, behind calls. A number is put behind bytes. Numbers as text: AppendInt, Itoa. skolemref8.numbers, AagBytes. skolemref8.AagBytes. AagTurned.
-/
import Derived.Test.YtmjbjgbcpaagmaaDoorTAagTurned1
import Derived.Test.YtmjbjgbcpaagmaaDoorBm31
import Derived.Test.YtmjbjgbcpaagmaaDoorE
namespace Go.Proofs.YtmjbjgbcpaagmaaDoor
open Go.RowKit

section
variable (fuel d : Nat) {h0 : AHeap} {j r : Nat} {W : List Wd} {e : Int}
theorem abody_run (hf : 20000 < fuel) {L : List Chunk} {h : AHeap} {k : Nat} {m i l o a : Int} {nn : List Int} (hnn : nn = [0, m, i, l, o, a]) (hm : 0 ≤ m ∧ m ≤ 16000) (hi : 0 ≤ i ∧ i ≤ 8000) (ho : 0 ≤ o ∧ o ≤ 8000) (ha : 0 ≤ a ∧ a ≤ 8000) (hW : W.length < 700000000) (hk9 : k < 700000000) (hne : ∀ w ∈ W, w.text ≠ []) (hs : Sep0 h0 h L) (hj : L[j]? = some (rdCh r W k e)) :
    match bodyT e m i o a (W.drop k) with
    | .error p => ∃ h' k', run fuel (d + 8) F_aag_reader_body [.ptr (rdP r), .agg (intsC nn)] h = some (.tup [.agg zero3, atV p err_api_ErrText], h') ∧ Sep0 h0 h' (L.set j (rdCh r W k' e))
    | .ok (i', A, O) => i' = i ∧ ∃ h' sA sO k', run fuel (d + 8) F_aag_reader_body [.ptr (rdP r), .agg (intsC nn)] h = some (.tup [.agg [.int .i64 i, .slice sA, .slice sO], .nilif], h') ∧ Sep0 h0 h' (.grown 1 sO (intsC O) :: .grown 2 sA (pairsC A) :: L.set j (rdCh r W k' e)) := by
  have s1 := (((hs.push 1 6 (cs := intsC nn) (by rw [hnn]; rfl)).cons.push 1 3 (cs := zero3) rfl).cons.push 1 3 (cs := zero3) rfl).cons
  have hlen : (intsC nn).length = 6 := by rw [hnn]; rfl
  have c1 : (AHeap.push (AHeap.push h 1 (intsC nn)) 1 zero3).cell (.mk ⟨h.next, 0, 2⟩ 6) = some (.int .i64 i) := by
    have s9 := ((hs.push 1 6 (cs := intsC nn) (by rw [hnn]; rfl)).cons.push 1 3 (cs := zero3) rfl).cons
    exact s9.part (i := 1) rfl (by omega) (by rw [hnn]; rfl)
  rw [e_aag_reader_body, hlen, show List.all (intsC nn) AVal.isCell = true by rw [hnn]; rfl, cond_true, show Pt.elem 1 6 (2 : Int) (.mk ⟨h.next, 0, 0⟩ 6) = some (.mk ⟨h.next, 0, 2⟩ 6) from rfl, Option.bind_some, c1, Option.bind_some, int_int, Option.bind_some]
  obtain ⟨h4, e4, _, s4⟩ := ret_put s1 rfl (vs := [.int .i64 i, .slice .nil, .slice .nil]) rfl
  rw [e4, Option.bind_some]
  generalize hN : h.next = N at s4
  generalize hZ : (AHeap.push h 1 (intsC nn)).next = Z at s4
  generalize hY : (AHeap.push (AHeap.push h 1 (intsC nn)) 1 zero3).next = Y at s4
  have s5 : Sep0 h0 h4 (bodyL i Y Z N nn .nil .nil [] [] L) := ((s4.addNil 2).cons.addNil 1).cons
  have g2 : nn[2]? = some i := by rw [hnn]; rfl
  have c2 : h4.cell (.mk ⟨N, 0, 2⟩ 6) = some (.int .i64 i) := nn_cell s5 (by omega) g2
  rw [Option.bind_some, c2, Option.bind_some, int_int, Option.bind_some]
  obtain ⟨I, rfl⟩ := Int.eq_ofNat_of_zero_le hi.1
  obtain ⟨O, rfl⟩ := Int.eq_ofNat_of_zero_le ho.1
  obtain ⟨A, rfl⟩ := Int.eq_ofNat_of_zero_le ha.1
  have b0 := abody0 fuel d (h0 := h0) (r := r) (W := W) (e := e) (by omega) (I := I) (by omega) fuel 0 k L h4 (by omega) (by omega) (by omega) s5 hj
  unfold bodyT
  rw [Int.toNat_natCast, Int.toNat_natCast, Int.toNat_natCast]
  rw [show ((0 : Nat) : Int) = 0 from rfl, Nat.sub_zero] at b0
  cases q0 : insT e 0 I (W.drop k) with
  | error p =>
    rw [q0] at b0
    obtain ⟨h', k', e5, e6, s6⟩ := b0
    refine ⟨h', k', ?_, s6⟩
    rw [e5, Option.bind_some, k_aag_reader_body_0_r, e6]
    rfl
  | ok W1 =>
    rw [q0] at b0
    obtain ⟨h5, e5, s6, rfl⟩ := b0
    rw [e5, Option.bind_some, k_aag_reader_body_0_x0]
    have g4 : nn[4]? = some (O : Int) := by rw [hnn]; rfl
    have g1 : nn[1]? = some m := by rw [hnn]; rfl
    have c4 : h5.cell (.mk ⟨N, 0, 4⟩ 6) = some (.int .i64 (O : Int)) := nn_cell s6 (by omega) g4
    rw [show Pt.elem 1 6 (4 : Int) (.mk ⟨N, 0, 0⟩ 6) = some (.mk ⟨N, 0, 4⟩ 6) from rfl, Option.bind_some, c4, Option.bind_some, int_int, Option.bind_some]
    have b1 := abody1 fuel d (h0 := h0) (r := r) (W := W) (e := e) (by omega) (I := O) (by omega) g1 (by omega) (by omega) fuel 0 (k + I) [] .nil (L.set j (rdCh r W (k + I) e)) h5 (by omega) (by omega) (by omega) rfl s6 (get_set hj _)
    rw [show ((0 : Nat) : Int) = 0 from rfl, Nat.sub_zero] at b1
    simp only
    cases q1 : outsT e m O (W.drop (k + I)) [] with
    | error p =>
      rw [q1] at b1
      obtain ⟨h', k', e7, e8, s8⟩ := b1
      rw [List.set_set] at s8
      refine ⟨h', k', ?_, s8⟩
      rw [e7, Option.bind_some, k_aag_reader_body_1_r, e8]
      rfl
    | ok OW =>
      obtain ⟨Ol, W2⟩ := OW
      rw [q1] at b1
      obtain ⟨h6, sO, e7, s8, rfl⟩ := b1
      rw [List.set_set] at s8
      rw [e7, Option.bind_some, k_aag_reader_body_1_x2]
      have g5 : nn[5]? = some (A : Int) := by rw [hnn]; rfl
      have c5 : h6.cell (.mk ⟨N, 0, 5⟩ 6) = some (.int .i64 (A : Int)) := nn_cell s8 (by omega) g5
      rw [show Pt.elem 1 6 (5 : Int) (.mk ⟨N, 0, 0⟩ 6) = some (.mk ⟨N, 0, 5⟩ 6) from rfl, Option.bind_some, c5, Option.bind_some, int_int, Option.bind_some]
      have b2 := abody2 fuel d (h0 := h0) (r := r) (W := W) (e := e) (by omega) (I := A) (by omega) g2 (by omega) (by omega) fuel 0 (k + I + O) [] .nil (L.set j (rdCh r W (k + I + O) e)) h6 (by omega) (by omega) (by omega) rfl s8 (get_set hj _)
      rw [show ((0 : Nat) : Int) = 0 from rfl, Nat.sub_zero] at b2
      simp only
      cases q2 : andsT e I 0 A (W.drop (k + I + O)) [] with
      | error p =>
        rw [q2] at b2
        obtain ⟨h', k', e9, e10, s10⟩ := b2
        rw [List.set_set] at s10
        refine ⟨h', k', ?_, s10⟩
        rw [e9, Option.bind_some, k_aag_reader_body_2_r, e10]
        rfl
      | ok AW =>
        obtain ⟨Al, W3⟩ := AW
        rw [q2] at b2
        obtain ⟨h7, sA, e9, s10, rfl⟩ := b2
        rw [List.set_set] at s10
        rw [e9, Option.bind_some, k_aag_reader_body_2_x4]
        simp only
        generalize hK : k + I + O + 3 * A = K at s10
        have hK9 : K < 800000000 := by omega
        have hj5 : (bodyL I Y Z N nn sO sA Ol Al (L.set j (rdCh r W K e)))[j + 5]? = some (rdCh r W K e) := get_set hj _
        have fin : ∀ (x : Bool), ∃ h', (match (if x = true then some (posW e (W.drop K)) else none) with
            | some p => ∃ k', k_aag_reader_body_3 fuel (d + 7) .normal [(0, .ptr (rdP r)), (4, .ptr (rdP Z)), (6, .ptr (rdP Y)), (128, .bool x)] h7 = some (.tup [.agg zero3, atV p err_api_ErrText], h') ∧ Sep0 h0 h' (L.set j (rdCh r W k' e))
            | none => ∃ k', k_aag_reader_body_3 fuel (d + 7) .normal [(0, .ptr (rdP r)), (4, .ptr (rdP Z)), (6, .ptr (rdP Y)), (128, .bool x)] h7 = some (.tup [.agg [.int .i64 (I : Int), .slice sA, .slice sO], .nilif], h') ∧ Sep0 h0 h' (.grown 1 sO (intsC Ol) :: .grown 2 sA (pairsC Al) :: L.set j (rdCh r W k' e)) : Prop) := by
          intro x
          cases x with
          | true =>
            obtain ⟨h', e11, e12, s12⟩ := abody_err (L := L.set j (rdCh r W K e)) s10
            refine ⟨h', K, ?_, s12⟩
            rw [k_aag_reader_body_3_n, cond_true, apos_run fuel (d + 6) s10 hj5]
            simp only [Option.bind_some, int_int]
            rw [same_self, aat0 fuel (d + 6)]
            simp only [Option.bind_some]
            rw [e11, Option.bind_some, e12]
            rfl
          | false =>
            have cY : h7.cellsAt 3 (rdP Y) = some [.int .i64 (I : Int), .slice sA, .slice sO] := s10.getAll (i := 2) rfl rfl
            obtain ⟨h', e11, s12⟩ := s10.putAll (i := 3) (vs := [.int .i64 (I : Int), .slice sA, .slice sO]) rfl rfl rfl
            have cZ : h'.cellsAt 3 (rdP Z) = some [.int .i64 (I : Int), .slice sA, .slice sO] := s12.getAll (i := 3) rfl rfl
            refine ⟨h', K, ?_, s12.sub ((List.Sublist.refl _).cons _ |>.cons _ |>.cons _ |>.cons_cons _ |>.cons_cons _)⟩
            rw [k_aag_reader_body_3_n, cond_false, cY, Option.bind_some, show (!false && Nat.beq (List.length [AVal.int .i64 (I : Int), .slice sA, .slice sO]) 3 && List.all [AVal.int .i64 (I : Int), .slice sA, .slice sO] AVal.isCell) = true from rfl, cond_true, e11, Option.bind_some, cZ]
            rfl
        have fin2 : ∀ x : Bool, (if x = true then some (posW e (W.drop K)) else none) = endT (W.drop K) → match (match endT (W.drop K) with | some p => (Except.error p : Except Int Ci) | none => .ok ((I : Int), Al, Ol)) with
            | .error p => ∃ h' k', k_aag_reader_body_3 fuel (d + 7) .normal [(0, .ptr (rdP r)), (4, .ptr (rdP Z)), (6, .ptr (rdP Y)), (128, .bool x)] h7 = some (.tup [.agg zero3, atV p err_api_ErrText], h') ∧ Sep0 h0 h' (L.set j (rdCh r W k' e))
            | .ok (i', A', O') => i' = (I : Int) ∧ ∃ h' sA sO k', k_aag_reader_body_3 fuel (d + 7) .normal [(0, .ptr (rdP r)), (4, .ptr (rdP Z)), (6, .ptr (rdP Y)), (128, .bool x)] h7 = some (.tup [.agg [.int .i64 (I : Int), .slice sA, .slice sO], .nilif], h') ∧ Sep0 h0 h' (.grown 1 sO (intsC O') :: .grown 2 sA (pairsC A') :: L.set j (rdCh r W k' e)) := by
          intro x hx
          obtain ⟨h', hq⟩ := fin x
          rw [hx] at hq
          cases hend : endT (W.drop K) with
          | some p =>
            rw [hend] at hq
            obtain ⟨k', q⟩ := hq
            exact ⟨h', k', q⟩
          | none =>
            rw [hend] at hq
            obtain ⟨k', q⟩ := hq
            exact ⟨rfl, h', sA, sO, k', q⟩
        simp only [chk_mk, field_mk, Option.bind_some, rd_c0 s10 hj5, rd_c1 s10 hj5, int_int, slice_slice]
        rw [len_lst]
        by_cases hk : K < W.length
        · rw [bif_pos (by omega), waddr h7 hk]
          have hmem : W.getD K ⟨[], 0, false⟩ ∈ W := by rw [List.getD_eq_getElem?_getD, List.getElem?_eq_getElem hk]; exact List.getElem_mem hk
          have hdw := drop_wd hk
          generalize W.getD K ⟨[], 0, false⟩ = w at hmem hdw
          simp only [Option.bind_some, wf2, cell_fp, bool_bool]
          have he : endT (W.drop K) = if (!w.first || !(w.text.getD 0 0 == 99)) = true then some (w.pos : Int) else none := by rw [hdw]; rfl
          have hp : posW e (W.drop K) = (w.pos : Int) := by rw [hdw]; rfl
          cases hfi : w.first with
          | false =>
            simp only [Bool.not_false, cond_true, Option.bind_some]
            exact fin2 true (by rw [he, hp, hfi]; rfl)
          | true =>
            have h9 := strAt_mk (l := w.text) (k := 0) (List.length_pos_iff.2 (hne w hmem))
            rw [show ((0 : Nat) : Int) = 0 from rfl] at h9
            simp only [Bool.not_true, cond_false, Option.bind_some, wf0, wc0, str_str]
            rw [h9]
            simp only [Option.bind_some]
            have e99 := u8_dec (w.text.getD 0 0) 99
            rw [show (((99 : UInt8).toNat : Nat) : Int) = 99 from rfl] at e99
            rw [e99]
            exact fin2 _ (by rw [he, hp, hfi]; rfl)
        · rw [bif_neg (by omega)]
          simp only [Option.bind_some]
          exact fin2 false (by rw [List.drop_eq_nil_of_le (by omega)]; rfl)
end
end Go.Proofs.YtmjbjgbcpaagmaaDoor

namespace Go.Proofs.YtmjbjgbcpaagmaaDoor
open Go.RowKit

theorem canon_aggI (nn : List Int) : canonV 8 (.agg (intsC nn)) = some (.agg (intsC nn)) := by
  rw [canon_agg]
  have : ∀ l : List Int, (intsC l).mapM (canonV 7) = some (intsC l) := by
    intro l
    induction l with
    | nil => rfl
    | cons x l ih => exact canonM_cons (u := .int .i64 x) rfl ih
  rw [this]; rfl
def limA : Option (Nat × Int) → AVal
  | none => .tup [.int .i64 0, .nilif]
  | some (k, c) => .tup [.int .i64 (k : Int), errC c]
theorem limT_code {m i l o a c : Int} {k : Nat} (h : limT m i l o a = some (k, c)) : (c = 101 ∨ c = 102) ∧ k < 6 ∧ 0 < k := by
  unfold limT at h
  repeat' split at h
  all_goals (first | (cases h; exact ⟨.inl rfl, by omega, by omega⟩) | (cases h; exact ⟨.inr rfl, by omega, by omega⟩) | cases h)
theorem limits_run (fuel d : Nat) {x m i l o a : Int} (hi : 0 ≤ i ∧ i ≤ 999999999) (ha : 0 ≤ a ∧ a ≤ 999999999) (h : AHeap) : run fuel (d + 1) F_aag_Limits [.agg (intsC [x, m, i, l, o, a])] h = some (limA (limT m i l o a), h) := by
  refine pure_ex rfl rfl (cc1 (canon_aggI _)) (r := limA (limT m i l o a)) ⟨AHeap.none.push 1 (intsC [x, m, i, l, o, a]), ?_⟩ ?_
  · have s1 := (Sep0.start AHeap.none).push 1 6 (cs := intsC [x, m, i, l, o, a]) rfl
    have el : ∀ (q : Int) (p : Nat), q = p → p < 6 → Pt.elem 1 6 q (.mk ⟨AHeap.none.next, 0, 0⟩ 6) = some (.mk ⟨AHeap.none.next, 0, p⟩ 6) := by
      intro q p hq hp
      subst hq
      rcases (show p = 0 ∨ p = 1 ∨ p = 2 ∨ p = 3 ∨ p = 4 ∨ p = 5 by omega) with rfl | rfl | rfl | rfl | rfl | rfl <;> rfl
    have c1 : (AHeap.none.push 1 (intsC [x, m, i, l, o, a])).cell (.mk ⟨AHeap.none.next, 0, 1⟩ 6) = some (.int .i64 m) := s1.part (i := 0) rfl (by omega) rfl
    have c2 : (AHeap.none.push 1 (intsC [x, m, i, l, o, a])).cell (.mk ⟨AHeap.none.next, 0, 2⟩ 6) = some (.int .i64 i) := s1.part (i := 0) rfl (by omega) rfl
    have c3 : (AHeap.none.push 1 (intsC [x, m, i, l, o, a])).cell (.mk ⟨AHeap.none.next, 0, 3⟩ 6) = some (.int .i64 l) := s1.part (i := 0) rfl (by omega) rfl
    have c4 : (AHeap.none.push 1 (intsC [x, m, i, l, o, a])).cell (.mk ⟨AHeap.none.next, 0, 4⟩ 6) = some (.int .i64 o) := s1.part (i := 0) rfl (by omega) rfl
    have c5 : (AHeap.none.push 1 (intsC [x, m, i, l, o, a])).cell (.mk ⟨AHeap.none.next, 0, 5⟩ 6) = some (.int .i64 a) := s1.part (i := 0) rfl (by omega) rfl
    rw [e_aag_Limits, show List.all (intsC [x, m, i, l, o, a]) AVal.isCell = true from rfl, cond_true, show (intsC [x, m, i, l, o, a]).length = 6 from rfl]
    simp only [el 1 1 rfl (by omega), el 2 2 rfl (by omega), el 3 3 rfl (by omega), el 4 4 rfl (by omega), el 5 5 rfl (by omega), Option.bind_some, c1, c2, c3, c4, c5, int_int]
    rw [wrap64 (n := i + a) (by omega) (by omega)]
    unfold limT
    by_cases b1 : 8000 < i
    · rw [bif_pos b1, if_pos b1]; rfl
    rw [bif_neg b1, if_neg b1]
    by_cases b2 : 8000 < i + a
    · rw [bif_pos b2, if_pos b2]; rfl
    rw [bif_neg b2, if_neg b2]
    by_cases b3 : 8000 < o
    · rw [bif_pos b3, if_pos b3]; rfl
    rw [bif_neg b3, if_neg b3]
    by_cases b4 : m = i + a
    · rw [bif_npos b4, if_neg (show ¬ m ≠ i + a from fun h => h b4)]
      by_cases b5 : l = 0
      · rw [bif_npos b5, if_neg (show ¬ l ≠ 0 from fun h => h b5)]; rfl
      · rw [bif_nneg b5, if_pos b5]; rfl
    · rw [bif_nneg b4, if_pos b4]; rfl
  · intro h'
    cases hl : limT m i l o a with
    | none => rfl
    | some kc =>
      obtain ⟨k, c⟩ := kc
      rcases (limT_code hl).1 with rfl | rfl <;> rfl
theorem intsC_set {l : List Int} {k : Nat} (hk : k < l.length) (v : Int) : (intsC l).take k ++ [AVal.int .i64 v] ++ (intsC l).drop (k + 1) = intsC (l.set k v) := by
  rw [List.set_eq_take_append_cons_drop, if_pos hk]
  simp
theorem aatC (fuel d : Nat) {c : Int} (hc : c = 101 ∨ c = 102) (p : Int) (h : AHeap) : run fuel (d + 1) F_aag_at [.int .i64 p, errC c] h = some (atV p (errC c), h) := by
  rcases hc with rfl | rfl
  · exact aat_run fuel d (j := 0) (by omega) p h
  · exact aat_run fuel d (j := 1) (by omega) p h

section
variable (fuel d : Nat) {h0 : AHeap} {j r : Nat} {W : List Wd} {e : Int}
abbrev headS (P N R : Nat) (pl nn rr : List Int) (L : List Chunk) : List Chunk := .own 1 P 0 6 (intsC pl) :: .own 1 N 0 6 (intsC nn) :: .own 1 R 0 6 (intsC rr) :: L
variable {P N R : Nat}
theorem elem6 {p : Nat} (hp : p < 6) (N : Nat) : Pt.elem 1 6 (p : Int) (nP N) = some (.mk ⟨N, 0, p⟩ 6) := by
  rcases (show p = 0 ∨ p = 1 ∨ p = 2 ∨ p = 3 ∨ p = 4 ∨ p = 5 by omega) with rfl | rfl | rfl | rfl | rfl | rfl <;> rfl
theorem all6 {nn : List Int} (h : nn.length = 6) : (!false && Nat.beq (List.length (intsC nn)) 6 && List.all (intsC nn) AVal.isCell) = true := by
  rw [List.length_map, h]
  simp
  intro x _
  rfl
theorem all6t {nn : List Int} (h : nn.length = 6) : (true && Nat.beq (List.length (intsC nn)) 6 && List.all (intsC nn) AVal.isCell) = true := all6 h
theorem head_bad {L : List Chunk} {h : AHeap} {k : Nat} {pl nn rr : List Int} (hk : k < 6) (hl : pl.length = 6) (hn : nn.length = 6) (hr : rr.length = 6) (hs : Sep0 h0 h (headS P N R pl nn rr L)) {x : Int} (hx : pl[k]? = some x) (n x12 : Nat) (x0 : Pt) :
    ∃ h', k_aag_reader_head_1 fuel (d + 5) n .normal [(0, .ptr x0), (2, .ptr (nP R)), (4, .ptr (nP N)), (5, .ptr (nP P)), (6, .int .i64 (k : Int)), (9, .bool false), (12, .int .i64 (x12 : Int))] h = some (.ret, [(2, .ptr (nP R)), (3, atV x err_api_ErrText), (4, .ptr (nP N)), (5, .ptr (nP P))], h') ∧ h'.cellsAt 6 (nP R) = some (intsC nn) ∧ Sep0 h0 h' L := by
  have cN : h.cellsAt 6 (nP N) = some (intsC nn) := hs.getAll (i := 1) rfl (by rw [List.length_map, hn])
  have cP : h.cell (.mk ⟨P, 0, k⟩ 6) = some (.int .i64 x) := hs.part (i := 0) rfl hk (by rw [List.getElem?_map, hx]; rfl)
  obtain ⟨h', e1, s1⟩ := hs.putAll (i := 2) (vs := intsC nn) rfl (by rw [List.length_map, hr]) (by rw [List.length_map, hn])
  refine ⟨h', ?_, s1.getAll (i := 2) rfl (by rw [List.length_map, hn]), s1.tail.tail.tail⟩
  rw [k_aag_reader_head_1_n, Bool.not_false, cond_true, cN, Option.bind_some, elem6 hk, Option.bind_some, cP, Option.bind_some, int_int, Option.bind_some, aat0 fuel (d + 4), Option.bind_some]
  simp only
  rw [cN, Option.bind_some, same_self, all6t hn, cond_true, e1]
  rfl
theorem head_loop (hf : 20 < fuel) : ∀ (n k : Nat) (acc pl nn rr : List Int) (L : List Chunk) (h : AHeap), 6 < n + k → 1 ≤ k → k ≤ 6 → pl.length = 6 → nn.length = 6 → rr.length = 6 → nn.take k = 0 :: acc → (∀ i, i < k → pl.getD i 0 = ((W.getD i ⟨[], 0, false⟩).pos : Int)) → Sep0 h0 h (headS P N R pl nn rr L) → L[j]? = some (rdCh r W k e) →
    match numsH e (6 - k) (W.drop k) acc with
    | .error p => ∃ h' k' nn', l_aag_reader_head_0 fuel (d + 5) n [(0, .ptr (rdP r)), (2, .ptr (nP R)), (4, .ptr (nP N)), (5, .ptr (nP P)), (12, .int .i64 (k : Int))] h = some (.ret, [(2, .ptr (nP R)), (3, atV p err_api_ErrText), (4, .ptr (nP N)), (5, .ptr (nP P))], h') ∧ nn'.length = 6 ∧ h'.cellsAt 6 (nP R) = some (intsC nn') ∧ Sep0 h0 h' (L.set j (rdCh r W k' e))
    | .ok M => ∃ h' pl', l_aag_reader_head_0 fuel (d + 5) n [(0, .ptr (rdP r)), (2, .ptr (nP R)), (4, .ptr (nP N)), (5, .ptr (nP P)), (12, .int .i64 (k : Int))] h = some (.exit 0, [(2, .ptr (nP R)), (3, .bot), (4, .ptr (nP N)), (5, .ptr (nP P))], h') ∧ pl'.length = 6 ∧ (∀ i, i < 6 → pl'.getD i 0 = ((W.getD i ⟨[], 0, false⟩).pos : Int)) ∧ Sep0 h0 h' (headS P N R pl' (0 :: M) rr (L.set j (rdCh r W 6 e))) := by
  intro n
  induction n with
  | zero => intro k acc pl nn rr L h h1 h2; omega
  | succ n ih =>
    intro k acc pl nn rr L h h1 h2 h3 hl hn hr htk hpl hs hj
    rw [l_aag_reader_head_0_eq]
    by_cases hk : k < 6
    · have hj3 : (headS P N R pl nn rr L)[j + 3]? = some (rdCh r W k e) := hj
      obtain ⟨h1', e1, s1⟩ := hs.put (i := 0) (o := k) (l := 6) (vs := [.int .i64 (posW e (W.drop k))]) rfl (by simp; omega) (by simp; omega)
      rw [set0, show [AVal.int .i64 (posW e (W.drop k))].length = 1 from rfl, intsC_set (by omega)] at s1
      have hj1 : (headS P N R (pl.set k (posW e (W.drop k))) nn rr L)[j + 3]? = some (rdCh r W k e) := hj
      have hw := aword_run fuel (d + 3) false (by omega) s1 hj1
      rw [bif_pos (by omega), apos_run fuel (d + 4) hs hj3, Option.bind_some, int_int, Option.bind_some, elem6 hk, Option.bind_some, e1, Option.bind_some, decide_eq_false (show ¬ (k : Int) = 0 by omega), show 6 - k = (6 - (k + 1)) + 1 by omega]
      unfold numsH
      have hlp : (pl.set k (posW e (W.drop k))).length = 6 := by rw [List.length_set]; exact hl
      cases hq : wF false (W.drop k) with
      | none =>
        rw [hq] at hw
        have cN : h1'.cellsAt 6 (nP N) = some (intsC nn) := s1.getAll (i := 1) rfl (by rw [List.length_map, hn])
        obtain ⟨h', e2, s2⟩ := s1.putAll (i := 2) (vs := intsC nn) rfl (by rw [List.length_map, hr]) (by rw [List.length_map, hn])
        refine ⟨h', k, nn, ?_, hn, s2.getAll (i := 2) rfl (by rw [List.length_map, hn]), ?_⟩
        · rw [hw]
          simp only [Option.bind_some, tup2, cond_true, comp0, comp1, str_str, nilTest_if, Bool.not_false]
          rw [cN, Option.bind_some, all6t hn, cond_true, e2]
          rfl
        · rw [set_self hj]
          exact s2.tail.tail.tail
      | some w =>
        rw [hq] at hw
        obtain ⟨h2', e2, s2⟩ := hw
        obtain ⟨W', hW'⟩ := wF_head hq
        have hpos : posW e (W.drop k) = (w.pos : Int) := by rw [hW']; rfl
        have s2' : Sep0 h0 h2' (headS P N R (pl.set k (posW e (W.drop k))) nn rr (L.set j (rdCh r W (k + 1) e))) := s2
        obtain ⟨h3', e3, s3⟩ := s2'.put (i := 1) (o := k) (l := 6) (vs := [.int .i64 (if plainW w.text = true then numW w.text else 0)]) rfl (by simp; omega) (by simp; omega)
        rw [set1, show [AVal.int .i64 (if plainW w.text = true then numW w.text else 0)].length = 1 from rfl, intsC_set (by omega)] at s3
        have hnl : (nn.set k (if plainW w.text = true then numW w.text else 0)).length = 6 := by rw [List.length_set]; exact hn
        rw [e2]
        simp only [Option.bind_some, tup2, cond_true, comp0, comp1, str_str, nilTest_nilif, Bool.not_true, cond_false]
        rw [bif_pos (show (0 : Int) < (k : Int) by omega), plain_run fuel (d + 1) hf]
        simp only [Option.bind_some, tup2, cond_true, comp0, comp1, int_int, bool_bool]
        rw [elem6 hk, Option.bind_some, e3, Option.bind_some, Option.bind_some]
        simp only
        have hgp : (pl.set k (posW e (W.drop k)))[k]? = some (w.pos : Int) := by rw [List.getElem?_set_self (by omega), hpos]
        cases hp : plainW w.text with
        | false =>
          rw [hp] at s3 hnl
          obtain ⟨h', e4, e5, s4⟩ := head_bad fuel d hk hlp hnl hr s3 hgp n k (rdP r)
          exact ⟨h', k + 1, _, e4, hnl, e5, s4⟩
        | true =>
          rw [hp] at s3 hnl
          simp only [if_true] at s3 hnl ⊢
          rw [k_aag_reader_head_1_n, Bool.not_true, cond_false, sucU (by omega)]
          have hw9 : W.getD k ⟨[], 0, false⟩ = w := by
            by_cases hkw : k < W.length
            · rw [drop_wd hkw] at hW'
              exact (List.cons.inj hW').1
            · rw [List.drop_eq_nil_of_le (by omega)] at hW'; cases hW'
          have := ih (k + 1) (acc ++ [numW w.text]) (pl.set k (posW e (W.drop k))) (nn.set k (numW w.text)) rr (L.set j (rdCh r W (k + 1) e)) h3' (by omega) (by omega) (by omega) hlp hnl hr ?_ ?_ s3 (get_set hj _)
          · rw [List.drop_drop]
            simp only [List.set_set] at this
            exact this
          · rw [take_get (by omega) 0, List.take_set_of_le (Nat.le_refl _), htk]
            simp [List.getD_eq_getElem?_getD, show k < nn.length by omega]
          · intro i hi
            by_cases hik : i = k
            · subst hik
              rw [List.getD_eq_getElem?_getD, hgp, hw9]; rfl
            · rw [List.getD_eq_getElem?_getD, List.getElem?_set_ne (by omega), ← List.getD_eq_getElem?_getD]
              exact hpl i (by omega)
    · obtain rfl : k = 6 := by omega
      rw [bif_neg (by omega), Nat.sub_self]
      unfold numsH
      refine ⟨h, pl, rfl, hl, hpl, ?_⟩
      rw [List.take_of_length_le (by omega)] at htk
      rw [set_self hj, ← htk]
      exact hs
end
end Go.Proofs.YtmjbjgbcpaagmaaDoor

namespace Go.Proofs.YtmjbjgbcpaagmaaDoor
open Go.RowKit

theorem split_ne (b : List UInt8) (c : Bool) : ∀ w ∈ splitOf b c, w.text ≠ [] := by
  have key : ∀ (n k : Nat), ∀ w ∈ splitGo b c n k, w.text ≠ [] := by
    intro n
    induction n with
    | zero => intro k w hw; cases hw
    | succ n ih =>
      intro k w hw
      simp only [splitGo] at hw
      split at hw
      · rcases List.mem_append.1 hw with hw | hw
        · split at hw
          · exact lineGo_text _ _ _ w hw
          · cases hw
        · exact ih _ w hw
      · cases hw
  exact key _ _
theorem split_len (b : List UInt8) (c : Bool) : (splitOf b c).length ≤ b.length := by
  have := splitGo_len (b := b) (c := c) (b.length + 1) 0
  unfold splitOf
  omega
theorem errC_no (p c : Int) : nilTest .iface (atV p (errC c)) = some false := rfl
theorem headA_code {e c p : Int} {W : List Wd} (h : headA e W = .error (c, p)) : c = 101 ∨ c = 102 := by
  unfold headA at h
  repeat' split at h
  all_goals (first | (cases h; exact .inl rfl) | (rename_i hl; cases h; exact (limT_code hl).1) | cases h)
theorem headA_ok {e : Int} {W : List Wd} {M : List Int} (h : headA e W = .ok M) : M.length = 5 ∧ (∀ x ∈ M, 0 ≤ x ∧ x ≤ 999999999) ∧ limT (M.getD 0 0) (M.getD 1 0) (M.getD 2 0) (M.getD 3 0) (M.getD 4 0) = none := by
  unfold headA at h
  split at h
  · cases h
  · split at h
    · split at h
      · cases h
      · rename_i N hN
        split at h
        · cases h
        · rename_i hl
          cases h
          obtain ⟨h1, _, h3⟩ := numsH_len hN
          exact ⟨by simpa using h1, h3 (fun x hx => by cases hx), hl⟩
    · cases h
theorem five {M : List Int} (h : M.length = 5) : M = [M.getD 0 0, M.getD 1 0, M.getD 2 0, M.getD 3 0, M.getD 4 0] := by
  match M, h with
  | [a, b, c, d, e], _ => rfl
section
variable (fuel d : Nat) {h0 : AHeap} {j r : Nat} {W : List Wd} {e : Int}
theorem head_run2 (hf : 20 < fuel) {L : List Chunk} {h : AHeap} (hs : Sep0 h0 h L) (hj : L[j]? = some (rdCh r W 0 e)) :
    match headA e W with
    | .error (c, p) => ∃ h' k' nn, run fuel (d + 6) F_aag_reader_head [.ptr (rdP r)] h = some (.tup [.agg (intsC nn), atV p (errC c)], h') ∧ nn.length = 6 ∧ Sep0 h0 h' (L.set j (rdCh r W k' e))
    | .ok M => ∃ h', run fuel (d + 6) F_aag_reader_head [.ptr (rdP r)] h = some (.tup [.agg (intsC (0 :: M)), .nilif], h') ∧ Sep0 h0 h' (L.set j (rdCh r W 6 e)) := by
  have s1 := (((hs.push 1 6 (cs := intsC [0, 0, 0, 0, 0, 0]) rfl).cons.push 1 6 (cs := intsC [0, 0, 0, 0, 0, 0]) rfl).cons.push 1 6 (cs := intsC [0, 0, 0, 0, 0, 0]) rfl).cons
  rw [e_aag_reader_head]
  rw [show [(AVal.int .i64 (0 : Int)), (.int .i64 (0 : Int)), (.int .i64 (0 : Int)), (.int .i64 (0 : Int)), (.int .i64 (0 : Int)), (.int .i64 (0 : Int))] = intsC [0, 0, 0, 0, 0, 0] from rfl]
  generalize h.next = R at s1
  generalize (h.push 1 (intsC [0, 0, 0, 0, 0, 0])).next = N at s1
  generalize ((h.push 1 (intsC [0, 0, 0, 0, 0, 0])).push 1 (intsC [0, 0, 0, 0, 0, 0])).next = P at s1
  generalize (((h.push 1 (intsC [0, 0, 0, 0, 0, 0])).push 1 (intsC [0, 0, 0, 0, 0, 0])).push 1 (intsC [0, 0, 0, 0, 0, 0])) = H at s1
  have hs' : Sep0 h0 H (headS P N R [0, 0, 0, 0, 0, 0] [0, 0, 0, 0, 0, 0] [0, 0, 0, 0, 0, 0] L) := s1
  have hj3 : (headS P N R [0, 0, 0, 0, 0, 0] [0, 0, 0, 0, 0, 0] [0, 0, 0, 0, 0, 0] L)[j + 3]? = some (rdCh r W 0 e) := hj
  obtain ⟨f, rfl⟩ : ∃ f, fuel = f + 1 := ⟨fuel - 1, by omega⟩
  rw [l_aag_reader_head_0_eq]
  obtain ⟨h1', e1, s1⟩ := hs'.put (i := 0) (o := 0) (l := 6) (vs := [.int .i64 (posW e W)]) rfl (by simp) (by simp)
  have s1' : Sep0 h0 h1' (headS P N R [posW e W, 0, 0, 0, 0, 0] [0, 0, 0, 0, 0, 0] [0, 0, 0, 0, 0, 0] L) := s1
  have hj1 : (headS P N R [posW e W, 0, 0, 0, 0, 0] [0, 0, 0, 0, 0, 0] [0, 0, 0, 0, 0, 0] L)[j + 3]? = some (rdCh r W 0 e) := hj
  have hw := aword_run (f + 1) (d + 3) true (by omega) s1' hj1
  have hpos := apos_run (f + 1) (d + 4) hs' hj3
  rw [List.drop_zero] at hw hpos
  rw [bif_pos (show (0 : Int) < 6 by omega), hpos, Option.bind_some, int_int, Option.bind_some, show Pt.elem 1 6 (0 : Int) (.mk ⟨P, 0, 0⟩ 6) = some (.mk ⟨P, 0, 0⟩ 6) from rfl, Option.bind_some, e1, Option.bind_some, decide_eq_true (show (0 : Int) = 0 from rfl)]
  unfold headA
  have ret : ∀ (u x4 x5 : AVal) (h' : AHeap) (nn : List Int), h'.cellsAt 6 (nP R) = some (intsC nn) → k_aag_reader_head_0 (f + 1) (d + 5) .ret [(2, .ptr (nP R)), (3, u), (4, x4), (5, x5)] h' = some (.tup [.agg (intsC nn), u], h') := by
    intro u x4 x5 h' nn hc
    rw [k_aag_reader_head_0_r, hc]
    rfl
  cases hq : wF true W with
  | none =>
    rw [hq] at hw
    have cN : h1'.cellsAt 6 (nP N) = some (intsC [0, 0, 0, 0, 0, 0]) := s1'.getAll (i := 1) rfl rfl
    obtain ⟨h', e2, s2⟩ := s1'.putAll (i := 2) (vs := intsC [0, 0, 0, 0, 0, 0]) rfl rfl rfl
    refine ⟨h', 0, [0, 0, 0, 0, 0, 0], ?_, rfl, ?_⟩
    · rw [hw]
      simp only [Option.bind_some, tup2, cond_true, comp0, comp1, str_str, nilTest_if, Bool.not_false]
      rw [cN, Option.bind_some, all6t rfl, cond_true, e2]
      simp only [Option.bind_some]
      exact ret _ _ _ h' _ (s2.getAll (i := 2) rfl rfl)
    · rw [set_self hj]
      exact s2.tail.tail.tail
  | some w =>
    rw [hq] at hw
    obtain ⟨h2', e2, s2⟩ := hw
    obtain ⟨W', hW'⟩ := wF_head hq
    have hpw : posW e W = (w.pos : Int) := by rw [hW']; rfl
    have s2' : Sep0 h0 h2' (headS P N R [posW e W, 0, 0, 0, 0, 0] [0, 0, 0, 0, 0, 0] [0, 0, 0, 0, 0, 0] (L.set j (rdCh r W (0 + 1) e))) := s2
    have hcmp : decide (tx w.text = (⟨#[97, 97, 103]⟩ : ByteArray)) = (w.text == [97, 97, 103]) := by
      have := txt_ne w.text [97, 97, 103]
      rw [show tx [97, 97, 103] = (⟨#[97, 97, 103]⟩ : ByteArray) from rfl] at this
      exact Bool.not_inj this
    rw [e2]
    simp only [Option.bind_some, tup2, cond_true, comp0, comp1, str_str, nilTest_nilif, Bool.not_true, cond_false]
    rw [bif_neg (show ¬ (0 : Int) < 0 by omega), Option.bind_some]
    simp only
    rw [hcmp]
    cases hc : w.text == [97, 97, 103] with
    | false =>
      obtain ⟨h', e4, e5, s4⟩ := head_bad (f + 1) d (k := 0) (by omega) rfl rfl rfl s2' rfl f 0 (rdP r)
      rw [show ((0 : Nat) : Int) = 0 from rfl] at e4
      refine ⟨h', 0 + 1, [0, 0, 0, 0, 0, 0], ?_, rfl, s4⟩
      rw [e4, Option.bind_some, ret _ _ _ h' _ e5, hpw]
      rfl
    | true =>
      rw [k_aag_reader_head_1_n, Bool.not_true, cond_false, wrap64 (n := 0 + 1) (by omega) (by omega), show (0 : Int) + 1 = ((1 : Nat) : Int) from rfl]
      have hj2 : (L.set j (rdCh r W (0 + 1) e))[j]? = some (rdCh r W (0 + 1) e) := get_set hj _
      have hl := head_loop (f + 1) d (h0 := h0) (P := P) (N := N) (R := R) hf f 1 [] [posW e W, 0, 0, 0, 0, 0] [0, 0, 0, 0, 0, 0] [0, 0, 0, 0, 0, 0] (L.set j (rdCh r W (0 + 1) e)) h2' (by omega) (by omega) (by omega) rfl rfl rfl rfl (by
        intro i hi
        obtain rfl : i = 0 := by omega
        rw [hW']; rfl) s2' hj2
      rw [show 6 - 1 = 5 from rfl] at hl
      simp only [if_true]
      cases hn : numsH e 5 (W.drop 1) [] with
      | error p =>
        rw [hn] at hl
        obtain ⟨h', k', nn, e3, e4, e5, s3⟩ := hl
        rw [List.set_set] at s3
        refine ⟨h', k', nn, ?_, e4, s3⟩
        rw [e3, Option.bind_some, ret _ _ _ h' _ e5]
        rfl
      | ok M =>
        rw [hn] at hl
        obtain ⟨h', pl, e3, e4, e5, s3⟩ := hl
        rw [List.set_set] at s3
        obtain ⟨l1, _, l3⟩ := numsH_len hn
        have l3 := l3 (fun x hx => by cases hx)
        have hM5 : M.length = 5 := by simpa using l1
        have h5 := five hM5
        have hN6 : (0 :: M).length = 6 := by simp [hM5]
        have cN : h'.cellsAt 6 (nP N) = some (intsC (0 :: M)) := s3.getAll (i := 1) rfl (by rw [List.length_map, hN6])
        have m1 : M.getD 1 0 ∈ M := by rw [h5]; simp
        have m4 : M.getD 4 0 ∈ M := by rw [h5]; simp
        rw [e3, Option.bind_some, k_aag_reader_head_0_x0, cN, Option.bind_some]
        have hlim := limits_run (f + 1) (d + 4) (x := 0) (m := M.getD 0 0) (i := M.getD 1 0) (l := M.getD 2 0) (o := M.getD 3 0) (a := M.getD 4 0) (l3 _ m1) (l3 _ m4) h'
        rw [← h5] at hlim
        rw [hlim]
        have cR : ∀ u : AVal, ∃ h'' : AHeap, (h'.storeAt (intsC (0 :: M)) (nP R)) = some h'' ∧ h''.cellsAt 6 (nP R) = some (intsC (0 :: M)) ∧ Sep0 h0 h'' (L.set j (rdCh r W 6 e)) := fun _ => by
          obtain ⟨h'', q1, q2⟩ := s3.putAll (i := 2) (vs := intsC (0 :: M)) rfl rfl (by rw [List.length_map, hN6])
          exact ⟨h'', q1, q2.getAll (i := 2) rfl (by rw [List.length_map, hN6]), q2.tail.tail.tail⟩
        obtain ⟨h'', q1, q2, s4⟩ := cR .nilif
        simp only
        cases ht : limT (M.getD 0 0) (M.getD 1 0) (M.getD 2 0) (M.getD 3 0) (M.getD 4 0) with
        | none =>
          refine ⟨h'', ?_, s4⟩
          simp only [limA, Option.bind_some, tup2, cond_true, comp0, comp1, int_int, nilTest_nilif, Bool.not_true, cond_false]
          rw [cN, Option.bind_some, all6 hN6, cond_true, q1, Option.bind_some, q2]
          rfl
        | some kc =>
          obtain ⟨k, c⟩ := kc
          obtain ⟨hc1, hk6, _⟩ := limT_code ht
          refine ⟨h'', 6, 0 :: M, ?_, hN6, s4⟩
          have hcell : h'.cell (.mk ⟨P, 0, k⟩ 6) = some (.int .i64 ((W.getD k ⟨[], 0, false⟩).pos : Int)) := s3.part (i := 0) rfl hk6 (by rw [List.getElem?_map, List.getElem?_eq_getElem (by omega), Option.map_some, ← e5 k hk6, List.getD_eq_getElem?_getD, List.getElem?_eq_getElem (by omega)]; rfl)
          have hnt : nilTest .iface (errC c) = some false := by rcases hc1 with rfl | rfl <;> rfl
          simp only [limA, Option.bind_some, tup2, cond_true, comp0, comp1, int_int, hnt, Bool.not_false, cN]
          rw [elem6 hk6, Option.bind_some, hcell, Option.bind_some, int_int, Option.bind_some, aatC (f + 1) (d + 4) hc1, Option.bind_some]
          simp only
          rw [cN, Option.bind_some, same_self, all6t hN6, cond_true, q1, Option.bind_some, q2]
          rfl
end
end Go.Proofs.YtmjbjgbcpaagmaaDoor

namespace Go.Proofs.YtmjbjgbcpaagmaaDoor
open Go.RowKit

def ciA : Except (Int × Int) Ci → AVal
  | .ok (i, A, O) => .tup [.agg (circC i A O), .nilif]
  | .error (c, p) => .tup [.agg (circC 0 [] []), atV p (errC c)]
theorem limT_none {m i l o a : Int} (h : limT m i l o a = none) : i ≤ 8000 ∧ i + a ≤ 8000 ∧ o ≤ 8000 ∧ m = i + a ∧ l = 0 := by
  unfold limT at h
  by_cases b1 : 8000 < i
  · rw [if_pos b1] at h; cases h
  rw [if_neg b1] at h
  by_cases b2 : 8000 < i + a
  · rw [if_pos b2] at h; cases h
  rw [if_neg b2] at h
  by_cases b3 : 8000 < o
  · rw [if_pos b3] at h; cases h
  rw [if_neg b3] at h
  by_cases b4 : m = i + a
  · rw [if_neg (show ¬ m ≠ i + a from fun q => q b4)] at h
    by_cases b5 : l = 0
    · exact ⟨by omega, by omega, by omega, b4, b5⟩
    · rw [if_pos b5] at h; cases h
  · rw [if_pos b4] at h; cases h
theorem freeze_pairs {h : AHeap} (n : Nat) (A : List (Int × Int)) : (pairsC A).mapM (freezeV h (n + 1)) = some (pairsC A) := mapM_freezeN (fun _ => mm2 rfl rfl) A
theorem zero3_fr {c : Int} (hc : c = 101 ∨ c = 102) (p : Int) (h : AHeap) : freezeV h 8 (.tup [.agg zero3, atV p (errC c)]) = some (ciA (.error (c, p))) := by
  rcases hc with rfl | rfl <;> exact freeze_tup2 _ (freeze_agg 6 (mm3 rfl rfl rfl)) rfl
theorem aread_body (fuel d : Nat) {b : List UInt8} (hf : b.length + 20000 < fuel) (hb : b.length < 1000000) : ∃ v h', brun fuel (d + 9) F_aag_Read [.slice (lstU b)] AHeap.none = some (v, h') ∧ freezeV h' 8 v = some (ciA (readC b)) := by
  have hl := split_len b false
  have hne := split_ne b false
  have s0 := (Sep0.start AHeap.none).push 1 3 (cs := zero3) rfl
  rw [e_aag_Read, len_lst, bif_neg (by omega), split_run fuel (d + 5) (by omega) (by omega), Option.bind_some, slice_slice, Option.bind_some]
  unfold readC
  generalize splitOf b false = W at hl hne
  generalize AHeap.none.next = R at s0
  generalize AHeap.push AHeap.none 1 [(AVal.int .i64 (0 : Int)), (.slice Sl.nil), (.slice Sl.nil)] = H at s0
  have s1 := (s0.push 1 3 (cs := [.slice (lstW W), .int .i64 (0 : Int), .int .i64 (b.length : Int)]) rfl).cons
  have s1' : Sep0 AHeap.none (H.push 1 [.slice (lstW W), .int .i64 (0 : Int), .int .i64 (b.length : Int)]) [rdCh H.next W 0 (b.length : Int), .own 1 R 0 3 zero3] := s1
  have hd := head_run2 fuel (d + 2) (h0 := AHeap.none) (j := 0) (by omega) s1' rfl
  generalize H.next = r at s1' hd
  simp only
  generalize (H.push 1 [.slice (lstW W), .int .i64 (0 : Int), .int .i64 (b.length : Int)]) = H2 at s1' hd
  have zero : ∀ {h1 : AHeap} {L : List Chunk} {c p : Int} {zs : List AVal}, (c = 101 ∨ c = 102) → zs.length = 3 → Sep0 AHeap.none h1 (.own 1 R 0 3 zs :: L) → ∃ v h', ((AHeap.storeAt h1 [(.int .i64 (0 : Int)), (.slice Sl.nil), (.slice Sl.nil)] (Pt.mk ⟨R, 0, 0⟩ 3)).bind fun h13 =>
    (((((AHeap.cellsAt h13 3 (Pt.mk ⟨R, 0, 0⟩ 3)).bind fun c15 =>
    some ((AVal.agg c15)) : Option AVal).bind fun v14 =>
    some [v14, atV p (errC c)]) : Option (List AVal)).map AVal.tup).map fun v => (v, h13)) = some (v, h') ∧ freezeV h' 8 v = some (ciA (.error (c, p))) := by
    intro h1 L c p zs hc hz s
    obtain ⟨h', e1, e2, _⟩ := ret_put s hz (vs := zero3) rfl
    rw [e1, Option.bind_some, e2]
    exact ⟨_, h', rfl, zero3_fr hc p h'⟩
  cases hh : headA (b.length : Int) W with
  | error cp =>
    obtain ⟨c, p⟩ := cp
    rw [hh] at hd
    have hc := headA_code hh
    obtain ⟨h1, k', nn, e1, e2, s2⟩ := hd
    rw [set0] at s2
    have s3 := (s2.push 1 6 (cs := intsC [0, 0, 0, 0, 0, 0]) rfl).cons
    obtain ⟨h2, e3, s4⟩ := s3.putAll (i := 0) (vs := intsC nn) rfl rfl (by rw [List.length_map, e2])
    rw [e1]
    simp only [Option.bind_some, tup2, cond_true, comp0, comp1, agg_agg]
    rw [all6 e2, cond_true]
    rw [show [(AVal.int .i64 (0 : Int)), (.int .i64 (0 : Int)), (.int .i64 (0 : Int)), (.int .i64 (0 : Int)), (.int .i64 (0 : Int)), (.int .i64 (0 : Int))] = intsC [0, 0, 0, 0, 0, 0] from rfl, e3, Option.bind_some, errC_no, Option.bind_some, Bool.not_false, cond_true]
    exact zero (L := []) hc rfl (s4.tail.tail)
  | ok M =>
    rw [hh] at hd
    obtain ⟨hM5, hMr, hlim⟩ := headA_ok hh
    obtain ⟨l1, l2, l3, l4, l5⟩ := limT_none hlim
    have h5 := five hM5
    have hN6 : (0 :: M).length = 6 := by simp [hM5]
    have m1 : M.getD 1 0 ∈ M := by rw [h5]; simp
    have m3 : M.getD 3 0 ∈ M := by rw [h5]; simp
    have m4 : M.getD 4 0 ∈ M := by rw [h5]; simp
    have q1 := hMr _ m1
    have q3 := hMr _ m3
    have q4 := hMr _ m4
    obtain ⟨h1, e1, s2⟩ := hd
    rw [set0] at s2
    have s3 := (s2.push 1 6 (cs := intsC [0, 0, 0, 0, 0, 0]) rfl).cons
    obtain ⟨h2, e3, e4, s4⟩ := ret_put s3 rfl (vs := intsC (0 :: M)) (by rw [List.length_map, hN6])
    rw [e1]
    simp only [Option.bind_some, tup2, cond_true, comp0, comp1, agg_agg]
    rw [all6 hN6, cond_true]
    rw [show [(AVal.int .i64 (0 : Int)), (.int .i64 (0 : Int)), (.int .i64 (0 : Int)), (.int .i64 (0 : Int)), (.int .i64 (0 : Int)), (.int .i64 (0 : Int))] = intsC [0, 0, 0, 0, 0, 0] from rfl, e3, Option.bind_some, nilTest_nilif, Option.bind_some, Bool.not_true, cond_false, e4, Option.bind_some]
    have bd := abody_run fuel d (h0 := AHeap.none) (j := 1) (r := r) (W := W) (e := (b.length : Int)) (by omega) (k := 6) (m := M.getD 0 0) (i := M.getD 1 0) (l := M.getD 2 0) (o := M.getD 3 0) (a := M.getD 4 0) (nn := 0 :: M) (by rw [← h5]) (by omega) (by omega) (by omega) (by omega) (by omega) (by omega) hne s4 rfl
    cases hbd : bodyT (b.length : Int) (M.getD 0 0) (M.getD 1 0) (M.getD 3 0) (M.getD 4 0) (W.drop 6) with
    | error p =>
      rw [hbd] at bd
      obtain ⟨h3, k', e5, s5⟩ := bd
      rw [set1] at s5
      obtain ⟨h4, e6, e7, s6⟩ := ret_put s5.tail.tail rfl (vs := zero3) rfl
      rw [e5]
      simp only [Option.bind_some, tup2, cond_true, comp0, comp1, agg_agg]
      rw [show (!false && Nat.beq (List.length zero3) 3 && List.all zero3 AVal.isCell) = true from rfl, cond_true, e6, Option.bind_some, e7]
      exact ⟨_, h4, rfl, zero3_fr (c := 101) (.inl rfl) p h4⟩
    | ok c =>
      obtain ⟨i', A, O⟩ := c
      rw [hbd] at bd
      obtain ⟨rfl, h3, sA, sO, k', e5, s5⟩ := bd
      rw [set1] at s5
      have s5' := s5.perm (L' := [Chunk.own 1 R 0 3 zero3] ++ [.grown 1 sO (intsC O), .grown 2 sA (pairsC A), .own 1 h1.next 0 6 (intsC (0 :: M)), rdCh r W k' (b.length : Int)]) (List.perm_append_comm (l₁ := [Chunk.grown 1 sO (intsC O), .grown 2 sA (pairsC A), .own 1 h1.next 0 6 (intsC (0 :: M)), rdCh r W k' (b.length : Int)]) (l₂ := [Chunk.own 1 R 0 3 zero3]))
      obtain ⟨h4, e6, e7, s6⟩ := ret_put s5' rfl (vs := [.int .i64 (M.getD 1 0), .slice sA, .slice sO]) rfl
      rw [e5]
      simp only [Option.bind_some, tup2, cond_true, comp0, comp1, agg_agg]
      rw [show (!false && Nat.beq (List.length [AVal.int .i64 (M.getD 1 0), .slice sA, .slice sO]) 3 && List.all [AVal.int .i64 (M.getD 1 0), .slice sA, .slice sO] AVal.isCell) = true from rfl, cond_true, e6, Option.bind_some, e7]
      refine ⟨_, h4, rfl, ?_⟩
      have gO := s6.sep.grown (i := 1) rfl
      have gA := s6.sep.grown (i := 2) rfl
      have lO := gO.len
      have lA := gA.len
      rw [pairsC_len] at lA
      rw [List.length_map, Nat.mul_one] at lO
      refine freeze_tup2 _ (freeze_agg 6 (mm3 rfl ?_ ?_)) rfl
      · rw [gA.freeze (n := 5) (by omega) (freeze_pairs 4 A), show sA.len = A.length by omega]
      · rw [gO.freeze (n := 5) (by omega) (mapM_freeze (g := AVal.int .i64) (fun _ => rfl) O), show sO.len = O.length by omega]
theorem aread_run (fuel d : Nat) {b : List UInt8} (hf : b.length + 20000 < fuel) (hb : b.length < 1000000) (h : AHeap) : run fuel (d + 9) F_aag_Read [.slice (lstU b)] h = some (ciA (readC b), h) := by
  obtain ⟨v, h', e1, e2⟩ := aread_body fuel d hf hb
  exact pure_of rfl rfl (cc1 (canon_lstU 7 b)) e1 e2
theorem aread_nil (fuel d : Nat) (hf : 20000 < fuel) (h : AHeap) : run fuel (d + 9) F_aag_Read [.slice .nil] h = some (ciA (readC []), h) := by
  obtain ⟨v, h', e1, e2⟩ := aread_body fuel d (b := []) (by simp; omega) (by simp)
  exact pure_of rfl rfl (cc1 (canon_nil 7)) e1 e2
theorem aread_any (fuel d : Nat) {b : List UInt8} (hf : b.length + 20000 < fuel) (hb : b.length < 1000000) {h : AHeap} {s : Sl} (hs : freezeV h 8 (.slice s) = some (.slice (lstU b))) : ∃ ids, run fuel (d + 9) F_aag_Read [.slice s] h = some (ciA (readC b), h.markRo ids) := by
  obtain ⟨v, h', e1, e2⟩ := aread_body fuel d hf hb
  exact run_any rfl rfl (mm1 hs) e1 e2
end Go.Proofs.YtmjbjgbcpaagmaaDoor

namespace Go.Proofs.YtmjbjgbcpaagmaaDoor
open Go.RowKit

end Go.Proofs.YtmjbjgbcpaagmaaDoor

namespace Go.Proofs.YtmjbjgbcpaagmaaDoor
open Go.RowKit

end Go.Proofs.YtmjbjgbcpaagmaaDoor

namespace Go.Proofs.YtmjbjgbcpaagmaaDoor
open Go.RowKit

def blankI (c : Int) : Bool := bif (bif decide (c = 32) then true else decide (c = 9)) then true else decide (c = 13)
end Go.Proofs.YtmjbjgbcpaagmaaDoor

namespace Go.Proofs.YtmjbjgbcpaagmaaDoor
open Go.RowKit

end Go.Proofs.YtmjbjgbcpaagmaaDoor

namespace Go.Proofs.YtmjbjgbcpaagmaaDoor
open Go.RowKit

/-- the number that stands first -/
def numP (f : Bool) (W : List Wd) : Option Int := (wF f W).bind fun w => if plainW w.text = true then some (numW w.text) else none
section
variable (fuel d : Nat) {W : List Wd}
/-- the word whose number is too great -/
def limR (m i l o a : Int) : Int := if 8000 < i then 2 else if 8000 < a ∨ 8000 < i + a then 5 else if 8000 < o then 4 else -1
end
end Go.Proofs.YtmjbjgbcpaagmaaDoor

namespace Go.Proofs.YtmjbjgbcpaagmaaDoor
open Go.RowKit

theorem isS {α : Type} (x : Option α) : x.isSome = true ↔ ∃ y, x = some y := Option.isSome_iff_exists

section
variable (fuel d : Nat) (hf : 20 < fuel) {h0 : AHeap} {R F Z C : Nat} {W : List Wd} {b : List UInt8} (hne : ∀ w ∈ W, w.text ≠ [])
include hf hne
abbrev rdS (R F Z C : Nat) (i : Int) (nn : List Int) (sN sO sA : Sl) (O : List Int) (A : List (Int × Int)) : List Chunk :=
  [.own 1 R 0 3 zero3, .own 1 F 0 3 (faultC 0 false 0), .own 1 Z 0 3 zero3, .grown 1 sN (intsC nn), .own 1 C 0 3 [.int .i64 i, .slice sA, .slice sO], .grown 1 sO (intsC O), .grown 2 sA (pairsC A)]
variable {i : Int} {nn : List Int} {sN : Sl}
end
end Go.Proofs.YtmjbjgbcpaagmaaDoor

namespace Go.Proofs.YtmjbjgbcpaagmaaDoor
open Go.RowKit

section
variable (fuel d : Nat) (hf : 20 < fuel) {h0 : AHeap} {R F Z C : Nat} {W : List Wd} {b : List UInt8} (hne : ∀ w ∈ W, w.text ≠ []) {i : Int} {nn : List Int} {sN : Sl}
include hf hne
end
end Go.Proofs.YtmjbjgbcpaagmaaDoor

namespace Go.Proofs.YtmjbjgbcpaagmaaDoor
open Go.RowKit

def rciA : Except (Int × Int) Ci → AVal
  | .ok (i, A, O) => .tup [.agg (circC i A O), .agg (faultC 0 false 0)]
  | .error (c, p) => .tup [.agg (circC 0 [] []), .agg (faultC c true p)]
end Go.Proofs.YtmjbjgbcpaagmaaDoor

namespace Go.Proofs.YtmjbjgbcpaagmaaDoor
open Go.RowKit

theorem sucS {m : Nat} (h : m < 9000000000000000000) : IntKind.wrap .i64 ((m : Int) + 1) = ((m + 1 : Nat) : Int) := by rw [wrap64 (by omega) (by omega)]; omega
theorem sameI_loop (fuel d : Nat) {a b : List Int} (hl : a.length = b.length) (hn : a.length < 1000000000) {h : AHeap} : ∀ (n k : Nat), a.length < n + k → k ≤ a.length → a.take k = b.take k →
    (l_skolemref_SameInts_0 fuel d n [(0, .slice (lstI a)), (1, .slice (lstI b)), (5, .int .i64 (k : Int))] h).bind (fun p => k_skolemref_SameInts_0 fuel d p.1 p.2.1 p.2.2) = some (.bool (decide (a = b)), h) := by
  intro n
  induction n with
  | zero => intro k h1 h2; omega
  | succ n ih =>
    intro k h1 h2 h3
    rw [l_skolemref_SameInts_0_eq, len_lst]
    by_cases hk : k < a.length
    · rw [bif_pos (by omega), addr_lstM _ (by omega) (by omega) 0, addr_lstM _ (by omega) (by omega) 0]
      simp only [Option.bind_some, cell_fp, int_int, Int.toNat_natCast]
      by_cases he : a.getD k 0 = b.getD k 0
      · rw [bif_npos he, sucS (by omega), ih (k + 1) (by omega) (by omega) (by rw [take_get hk 0, take_get (by omega) 0, h3, he])]
      · rw [bif_nneg he]
        simp only [Option.bind_some, k_skolemref_SameInts_0_r]
        rw [decide_eq_false (fun h => he (by rw [h]))]
    · have : k = a.length := by omega
      subst this
      rw [bif_neg (by omega)]
      have : a = b := by rw [List.take_length, hl, List.take_length] at h3; exact h3
      simp only [Option.bind_some, k_skolemref_SameInts_0_x0]
      rw [decide_eq_true this]
theorem sameI_run (fuel d : Nat) {a b : List Int} {s t : Sl} {h : AHeap} (hs : freezeV h 8 (.slice s) = some (.slice (lstI a))) (ht : freezeV h 8 (.slice t) = some (.slice (lstI b))) (hn : a.length < 1000000000) (hf : a.length < fuel) :
    run fuel (d + 1) F_skolemref_SameInts [.slice s, .slice t] h = some (.bool (decide (a = b)), h) := by
  refine run_val rfl rfl (mm2 hs ht) (r := .bool (decide (a = b))) (h' := AHeap.none) ?_ rfl rfl
  rw [e_skolemref_SameInts, len_lst, len_lst]
  by_cases hl : a.length = b.length
  · rw [bif_npos (by omega)]
    have := sameI_loop fuel d hl hn (h := AHeap.none) fuel 0 (by omega) (by omega) rfl
    exact this
  · rw [bif_nneg (by omega), decide_eq_false (fun h => hl (by rw [h]))]

end Go.Proofs.YtmjbjgbcpaagmaaDoor

namespace Go.Proofs.YtmjbjgbcpaagmaaDoor
open Go.RowKit

theorem paddr (h : AHeap) {A : List (Int × Int)} {k : Nat} (hk : k < A.length) : h.addr 2 (lstP A) (k : Int) = some (.fp 0 (pairC (A.getD k (0, 0)))) := by
  have := addr_lstN (h := h) (sz := 2) (f := pairC) (fun _ => rfl) (l := A) (j := (k : Int)) (by omega) (by omega) (0, 0) false
  rw [Int.toNat_natCast] at this
  exact this
theorem sameP_loop (fuel d : Nat) {a b : List (Int × Int)} (hl : a.length = b.length) (hn : a.length < 1000000000) {h : AHeap} : ∀ (n k : Nat), a.length < n + k → k ≤ a.length → a.take k = b.take k →
    (l_skolemref_SamePairs_0 fuel d n [(0, .slice (lstP a)), (1, .slice (lstP b)), (5, .int .i64 (k : Int))] h).bind (fun p => k_skolemref_SamePairs_0 fuel d p.1 p.2.1 p.2.2) = some (.bool (decide (a = b)), h) := by
  intro n
  induction n with
  | zero => intro k h1 h2; omega
  | succ n ih =>
    intro k h1 h2 h3
    rw [l_skolemref_SamePairs_0_eq, len_lst]
    by_cases hk : k < a.length
    · have e0 : ∀ x : Int × Int, Pt.elem 1 2 (0 : Int) (.fp 0 (pairC x)) = some (.fp 0 (pairC x)) := fun _ => rfl
      have e1 : ∀ x : Int × Int, Pt.elem 1 2 (1 : Int) (.fp 0 (pairC x)) = some (.fp 0 [.int .i64 x.2]) := fun _ => rfl
      have c0 : ∀ x : Int × Int, h.cell (.fp 0 (pairC x)) = some (.int .i64 x.1) := fun _ => rfl
      rw [bif_pos (by omega), paddr h hk, paddr h (A := b) (by omega)]
      simp only [Option.bind_some, e0, e1, c0, cell_fp, int_int]
      have ne : ∀ {p : Bool}, a.getD k (0, 0) ≠ b.getD k (0, 0) → p = false → (k_skolemref_SamePairs_1 fuel d n .normal [(0, .slice (lstP a)), (1, .slice (lstP b)), (5, .int .i64 (k : Int)), (6, .bool p)] h).bind (fun p => k_skolemref_SamePairs_0 fuel d p.1 p.2.1 p.2.2) = some (.bool (decide (a = b)), h) := by
        intro p hne hp
        subst hp
        rw [k_skolemref_SamePairs_1_n, Bool.not_false, cond_true]
        simp only [Option.bind_some, k_skolemref_SamePairs_0_r]
        rw [decide_eq_false (fun h => hne (by rw [h]))]
      by_cases he : (a.getD k (0, 0)).1 = (b.getD k (0, 0)).1
      · rw [bif_pos he]
        simp only [Option.bind_some]
        by_cases he2 : (a.getD k (0, 0)).2 = (b.getD k (0, 0)).2
        · have heq : a.getD k (0, 0) = b.getD k (0, 0) := Prod.ext he he2
          rw [decide_eq_true he2, k_skolemref_SamePairs_1_n, Bool.not_true, cond_false, sucS (by omega), ih (k + 1) (by omega) (by omega) (by rw [take_get hk (0, 0), take_get (by omega) (0, 0), h3, heq])]
        · exact ne (fun h => he2 (by rw [h])) (decide_eq_false he2)
      · rw [bif_neg he]
        simp only [Option.bind_some]
        exact ne (fun h => he (by rw [h])) rfl
    · have : k = a.length := by omega
      subst this
      rw [bif_neg (by omega)]
      have : a = b := by rw [List.take_length, hl, List.take_length] at h3; exact h3
      simp only [Option.bind_some, k_skolemref_SamePairs_0_x0]
      rw [decide_eq_true this]
theorem sameP_run (fuel d : Nat) {a b : List (Int × Int)} (hn : a.length < 1000000000) (hf : a.length < fuel) (h : AHeap) : run fuel (d + 1) F_skolemref_SamePairs [.slice (lstP a), .slice (lstP b)] h = some (.bool (decide (a = b)), h) := by
  refine pure_of rfl rfl (cc2 (canon_lstP 7 a) (canon_lstP 7 b)) (r := .bool (decide (a = b))) (h' := AHeap.none) ?_ rfl
  rw [e_skolemref_SamePairs, len_lst, len_lst]
  by_cases hl : a.length = b.length
  · rw [bif_npos (by omega)]
    have := sameP_loop fuel d hl hn (h := AHeap.none) fuel 0 (by omega) (by omega) rfl
    exact this
  · rw [bif_nneg (by omega), decide_eq_false (fun h => hl (by rw [h]))]
theorem okCi (i : Int) (A : List (Int × Int)) (O : List Int) : (!false && Nat.beq (List.length (circC i A O)) 3 && List.all (circC i A O) AVal.isCell) = true := rfl
theorem sameCi_run (fuel d : Nat) {i j : Int} {A B : List (Int × Int)} {O Q : List Int} (hA : A.length < 1000000000) (hAf : A.length < fuel) (hO : O.length < 1000000000) (hOf : O.length < fuel) (h : AHeap) :
    run fuel (d + 2) F_skolemref_SameCircuit [.agg (circC i A O), .agg (circC j B Q)] h = some (.bool (decide (i = j) && decide (A = B) && decide (O = Q)), h) := by
  refine pure_of rfl rfl (cc2 (canon_circ _ _ _) (canon_circ _ _ _)) (r := .bool (decide (i = j) && decide (A = B) && decide (O = Q))) ?_ rfl (h' := (AHeap.none.push 1 (circC i A O)).push 1 (circC j B Q))
  rw [e_skolemref_SameCircuit, show List.all (circC i A O) AVal.isCell = true from rfl, show List.all (circC j B Q) AVal.isCell = true from rfl, cond_true, cond_true, show (circC i A O).length = 3 from rfl, show (circC j B Q).length = 3 from rfl]
  have s1 := ((Sep0.start AHeap.none).push 1 3 (cs := circC i A O) rfl).push 1 3 (cs := circC j B Q) rfl
  generalize AHeap.none.next = P at s1
  generalize (AHeap.none.push 1 (circC i A O)).next = R at s1
  generalize (AHeap.none.push 1 (circC i A O)).push 1 (circC j B Q) = H at s1
  have a0 : H.cell (.mk ⟨P, 0, 0 + 0⟩ 3) = some (.int .i64 i) := s1.part (i := 0) rfl (by omega) rfl
  have a1 : H.cell (.mk ⟨P, 0, 0 + 1⟩ 3) = some (.slice (lstP A)) := s1.part (i := 0) rfl (by omega) rfl
  have a2 : H.cell (.mk ⟨P, 0, 0 + 2⟩ 3) = some (.slice (lstI O)) := s1.part (i := 0) rfl (by omega) rfl
  have b0 : H.cell (.mk ⟨R, 0, 0 + 0⟩ 3) = some (.int .i64 j) := s1.part (i := 1) rfl (by omega) rfl
  have b1 : H.cell (.mk ⟨R, 0, 0 + 1⟩ 3) = some (.slice (lstP B)) := s1.part (i := 1) rfl (by omega) rfl
  have b2 : H.cell (.mk ⟨R, 0, 0 + 2⟩ 3) = some (.slice (lstI Q)) := s1.part (i := 1) rfl (by omega) rfl
  simp only [field_mk, Option.bind_some, a0, a1, b0, b1, int_int, slice_slice]
  by_cases h1 : i = j
  · rw [decide_eq_true h1, sameP_run fuel d hA hAf]
    simp only [beq_self_eq_true, cond_true, Option.bind_some, bool_bool, Bool.true_and]
    by_cases h2 : A = B
    · rw [decide_eq_true h2]
      simp only [beq_self_eq_true, cond_true, a2, b2, Option.bind_some, slice_slice, Bool.true_and]
      rw [sameI_run fuel d (freeze_lstI 7 _) (freeze_lstI 7 _) hO hOf]
      simp only [Option.bind_some, bool_bool]
    · rw [decide_eq_false h2]
      rfl
  · rw [decide_eq_false h1]
    rfl
/-! what is read -/
theorem outsT_len {e m : Int} : ∀ {n : Nat} {W W' : List Wd} {acc O : List Int}, outsT e m n W acc = .ok (O, W') → O.length = acc.length + n
  | 0, W, W', acc, O, h => by cases h; rfl
  | n + 1, W, W', acc, O, h => by
    unfold outsT at h
    split at h
    · cases h
    · have := outsT_len h
      simp at this
      omega
theorem andsT_len {e i : Int} : ∀ {n k : Nat} {W W' : List Wd} {acc A : List (Int × Int)}, andsT e i k n W acc = .ok (A, W') → A.length = acc.length + n
  | 0, k, W, W', acc, A, h => by cases h; rfl
  | n + 1, k, W, W', acc, A, h => by
    unfold andsT at h
    split at h
    · cases h
    · have := andsT_len h
      simp at this
      omega
theorem bodyT_len {e m i o a : Int} {W : List Wd} {c : Ci} (h : bodyT e m i o a W = .ok c) : c.1 = i ∧ c.2.1.length = a.toNat ∧ c.2.2.length = o.toNat := by
  unfold bodyT at h
  split at h
  · cases h
  · split at h
    · cases h
    · rename_i hO
      split at h
      · cases h
      · rename_i hA
        split at h
        · cases h
        · cases h
          exact ⟨rfl, by simpa using andsT_len hA, by simpa using outsT_len hO⟩
theorem readC_ok {b : List UInt8} {c : Ci} (h : readC b = .ok c) : 0 ≤ c.1 ∧ c.1 ≤ 8000 ∧ c.2.1.length ≤ 8000 ∧ c.2.2.length ≤ 8000 := by
  unfold readC at h
  split at h
  · cases h
  · rename_i M hM
    obtain ⟨h5, hr, hl⟩ := headA_ok hM
    obtain ⟨l1, l2, l3, _, _⟩ := limT_none hl
    have h5' := five h5
    have m1 := hr (M.getD 1 0) (by rw [h5']; simp)
    have m4 := hr (M.getD 4 0) (by rw [h5']; simp)
    split at h
    · cases h
    · rename_i c' hc
      cases h
      obtain ⟨q1, q2, q3⟩ := bodyT_len hc
      rw [q1, q2, q3]
      omega
end Go.Proofs.YtmjbjgbcpaagmaaDoor

namespace Go.Proofs.YtmjbjgbcpaagmaaDoor
open Go.RowKit

def scanS : Nat → List UInt8 → Nat → Bool → Bool → List Wd
  | 0, _, _, _, _ => []
  | _ + 1, [], _, _, _ => []
  | n + 1, c :: r, p, f, s => if c = 10 then scanS n r (p + 1) true false else
      if isW c = true then (if (s || (f && c == 99)) = true then [] else [⟨(c :: r).takeWhile isW, p, f⟩]) ++ scanS n ((c :: r).dropWhile isW) (p + ((c :: r).takeWhile isW).length) false (s || (f && c == 99))
      else scanS n r (p + 1) f s
theorem drop_take_len {α : Type} (p : α → Bool) : ∀ l : List α, l.dropWhile p = l.drop (l.takeWhile p).length
  | [] => rfl
  | a :: l => by
    rw [List.dropWhile_cons, List.takeWhile_cons]
    split
    · rw [List.length_cons, List.drop_succ_cons, drop_take_len p l]
    · rfl
theorem take_tw {α : Type} (p : α → Bool) : ∀ l : List α, l.take (l.takeWhile p).length = l.takeWhile p
  | [] => rfl
  | a :: l => by
    rw [List.takeWhile_cons]
    split
    · rw [List.length_cons, List.take_succ_cons, take_tw p l]
    · rfl
theorem dropWhile_le (l : List UInt8) : (l.dropWhile isW).length ≤ l.length := by rw [drop_take_len, List.length_drop]; omega
/-- the words of a text that begins at a place; whether a line begins there; whether its line is left out -/
def wordsOf (l : List UInt8) (p : Nat) (f s : Bool) : List Wd := scanS (l.length + 1) l p f s
/-- what stands behind a word -/
def Stops (r : List UInt8) : Prop := ∀ c r', r = c :: r' → isW c = false
theorem take_word {w r : List UInt8} (hw : w.all isW = true) (hr : Stops r) : (w ++ r).takeWhile isW = w ∧ (w ++ r).dropWhile isW = r := by
  induction w with
  | nil =>
    cases r with
    | nil => exact ⟨rfl, rfl⟩
    | cons c r =>
      have := hr c r rfl
      simp [List.takeWhile_cons, List.dropWhile_cons, this]
  | cons a w ih =>
    simp only [List.all_cons, Bool.and_eq_true] at hw
    obtain ⟨h1, h2⟩ := ih hw.2
    rw [List.cons_append, List.takeWhile_cons, List.dropWhile_cons, if_pos hw.1, if_pos hw.1, h1, h2]
    exact ⟨rfl, rfl⟩
theorem isW_ten : isW 10 = false := by decide
theorem Stops.nil : Stops [] := fun _ _ h => by cases h
theorem Stops.sp (r : List UInt8) : Stops (32 :: r) := fun c r' h => by cases h; decide
theorem Stops.nl (r : List UInt8) : Stops (10 :: r) := fun c r' h => by cases h; decide

/-! numbers -/
theorem dig_isW {c : UInt8} (h : isDig c = true) : isW c = true := by
  obtain ⟨h1, h2⟩ := isDig_true h
  unfold isW kindI
  have : ¬ ((c.toNat : Int) = 32 ∨ (c.toNat : Int) = 9 ∨ (c.toNat : Int) = 13) := by omega
  rw [if_neg this, if_neg (by omega)]
  rfl
theorem all_mono {p q : UInt8 → Bool} (h : ∀ c, p c = true → q c = true) {l : List UInt8} (hl : l.all p = true) : l.all q = true :=
  List.all_eq_true.2 fun c hc => h c (List.all_eq_true.1 hl c hc)
theorem decN_is (u : Nat) : (decN u).all isDig = true ∧ 1 ≤ (decN u).length ∧ valI 0 (decN u) = (u : Int) := by
  obtain ⟨D, e1, e2, e3, e4, e5⟩ := decA_is (u + 1) u u [] (Nat.lt_of_lt_of_le (Nat.lt_pow_self (by omega : 1 < 10)) (Nat.pow_le_pow_right (by omega) (by omega))) (by omega)
  unfold decN
  rw [e1, List.append_nil]
  exact ⟨e2, e3, e5⟩
theorem decN_small {u : Nat} (h : u < 1000000000) : (decN u).length ≤ 9 := by
  rcases Nat.lt_or_ge u 9 with h9 | h9
  · have : ∀ v, v < 9 → (decN v).length ≤ 9 := by decide
    exact this u h9
  · obtain ⟨D, e1, e2, e3, e4, e5⟩ := decA_is (u + 1) u 8 [] (by omega) (by omega)
    unfold decN
    rw [e1, List.append_nil]
    omega
theorem dig_ne {c : UInt8} (h : isDig c = true) {k : UInt8} (hk : isDig k = false) : c ≠ k := by
  rintro rfl
  rw [h] at hk; cases hk
theorem head_dig {l : List UInt8} (h : l.all isDig = true) (h1 : 1 ≤ l.length) : isDig (l.getD 0 0) = true := by
  cases l with
  | nil => simp at h1
  | cons a l =>
    simp only [List.all_cons, Bool.and_eq_true] at h
    exact h.1
theorem decN_num {u : Nat} (h : u < 1000000000) : okNum (decN u) = true ∧ numW (decN u) = (u : Int) ∧ minusI (decN u) = false := by
  obtain ⟨h1, h2, h3⟩ := decN_is u
  have h4 := decN_small h
  have hm : minusI (decN u) = false := by
    unfold minusI
    have := dig_ne (head_dig h1 h2) (k := 45) (by decide)
    rw [beq_false_of_ne this, Bool.and_false]
  have hd : digitsI (decN u) = decN u := by unfold digitsI; rw [if_neg (by rw [hm]; simp)]
  have ho : okNum (decN u) = true := by
    unfold okNum
    rw [hd, decide_eq_false (by omega), h1]; rfl
  refine ⟨ho, ?_, hm⟩
  unfold numW
  rw [if_pos ho, if_neg (by rw [hm]; simp), hd, h3]
theorem decT_num {x : Int} (h0 : -1000000000 < x) (h1 : x < 1000000000) : okNum (decT x) = true ∧ numW (decT x) = x ∧ (0 ≤ x → minusI (decT x) = false) := by
  unfold decT
  by_cases hx : x < 0
  · rw [if_pos hx]
    obtain ⟨a1, a2, a3⟩ := decN_is (-x).toNat
    have a4 := decN_small (u := (-x).toNat) (by omega)
    have hm : minusI (45 :: decN (-x).toNat) = true := by unfold minusI; simp
    have hd : digitsI (45 :: decN (-x).toNat) = decN (-x).toNat := by unfold digitsI; rw [if_pos hm]; rfl
    have ho : okNum (45 :: decN (-x).toNat) = true := by
      unfold okNum
      rw [hd, decide_eq_false (by omega), a1]; rfl
    refine ⟨ho, ?_, fun h => by omega⟩
    unfold numW
    rw [if_pos ho, if_pos hm, hd, a3]
    omega
  · rw [if_neg hx]
    obtain ⟨a1, a2, a3⟩ := decN_num (u := x.toNat) (by omega)
    exact ⟨a1, by rw [a2]; omega, fun _ => a3⟩
theorem decT_word (x : Int) : decT x ≠ [] ∧ (decT x).all isW = true ∧ (decT x).getD 0 0 ≠ 99 ∧ (decT x).getD 0 0 ≠ 97 ∧ (decT x).getD 0 0 ≠ 101 ∧ (decT x).getD 0 0 ≠ 100 := by
  unfold decT
  by_cases hx : x < 0
  · rw [if_pos hx]
    obtain ⟨a1, a2, a3⟩ := decN_is (-x).toNat
    refine ⟨by simp, ?_, by simp, by simp, by simp, by simp⟩
    rw [List.all_cons, all_mono (fun c => dig_isW) a1]
    decide
  · rw [if_neg hx]
    obtain ⟨a1, a2, a3⟩ := decN_is x.toNat
    have hh := head_dig a1 a2
    exact ⟨fun e => by rw [e] at a2; simp at a2, all_mono (fun c => dig_isW) a1, dig_ne hh (by decide), dig_ne hh (by decide), dig_ne hh (by decide), dig_ne hh (by decide)⟩
end Go.Proofs.YtmjbjgbcpaagmaaDoor

namespace Go.Proofs.YtmjbjgbcpaagmaaDoor
open Go.RowKit

def scanN : Nat → List UInt8 → Nat → Bool → List Wd
  | 0, _, _, _ => []
  | _ + 1, [], _, _ => []
  | n + 1, c :: r, p, f => if c = 10 then scanN n r (p + 1) true else
      if isW c = true then ⟨(c :: r).takeWhile isW, p, f⟩ :: scanN n ((c :: r).dropWhile isW) (p + ((c :: r).takeWhile isW).length) false
      else scanN n r (p + 1) f
theorem refGo_scanN {b : List UInt8} : ∀ (n i : Nat) (f : Bool), refGo b false n i f false = scanN n (b.drop i) i f
  | 0, i, f => by simp [refGo, scanN]
  | n + 1, i, f => by
    unfold refGo
    by_cases hi : i < b.length
    · have hd := drop_cons hi
      have ht : (b.drop i).take (wEnd b i - i) = (b.drop i).takeWhile isW := by
        unfold wEnd
        rw [Nat.add_sub_cancel_left]
        exact take_tw isW _
      have he : b.drop (wEnd b i) = (b.drop i).dropWhile isW := by
        rw [drop_take_len, List.drop_drop]
        unfold wEnd
        rfl
      simp only [Bool.false_and, Bool.or_false, Bool.false_eq_true, if_false]
      rw [if_pos hi, ht, refGo_scanN n (i + 1), refGo_scanN n (wEnd b i), refGo_scanN n (i + 1), he, show wEnd b i = i + ((b.drop i).takeWhile isW).length from rfl]
      rw [hd]
      simp only [scanN]
      rfl
    · rw [if_neg hi, List.drop_eq_nil_of_le (by omega)]
      simp [scanN]
theorem scanN_fuel : ∀ (n m : Nat) (l : List UInt8) (p : Nat) (f : Bool), l.length < n → l.length < m → scanN n l p f = scanN m l p f
  | 0, m, l, p, f, h1, h2 => by omega
  | n + 1, 0, l, p, f, h1, h2 => by omega
  | n + 1, m + 1, [], p, f, h1, h2 => by simp [scanN]
  | n + 1, m + 1, c :: r, p, f, h1, h2 => by
    simp only [scanN, List.length_cons] at *
    rw [scanN_fuel n m r _ _ (by omega) (by omega), scanN_fuel n m r _ _ (by omega) (by omega)]
    by_cases hw : isW c = true
    · have hdw : (c :: r).dropWhile isW = r.dropWhile isW := by rw [List.dropWhile_cons, if_pos hw]
      have := dropWhile_le r
      rw [hdw, scanN_fuel n m (r.dropWhile isW) _ _ (by omega) (by omega)]
    · rw [if_neg hw, if_neg hw]
/-- the words of a text that begins at a place; whether a line begins there -/
def wordsN (l : List UInt8) (p : Nat) (f : Bool) : List Wd := scanN (l.length + 1) l p f
theorem splitOf_wordsN (b : List UInt8) : splitOf b false = wordsN b 0 true := by
  rw [splitOf_ref, refGo_scanN, List.drop_zero]; rfl
theorem N_nil (p : Nat) (f : Bool) : wordsN [] p f = [] := by simp [wordsN, scanN]
theorem N_nl (r : List UInt8) (p : Nat) (f : Bool) : wordsN (10 :: r) p f = wordsN r (p + 1) true := by
  unfold wordsN
  rw [List.length_cons]
  simp only [scanN, if_true]
theorem N_blank {c : UInt8} (hc : c ≠ 10) (hw : isW c = false) (r : List UInt8) (p : Nat) (f : Bool) : wordsN (c :: r) p f = wordsN r (p + 1) f := by
  unfold wordsN
  rw [List.length_cons]
  simp only [scanN, if_neg hc, hw, Bool.false_eq_true, if_false]
theorem N_sp (r : List UInt8) (p : Nat) (f : Bool) : wordsN (32 :: r) p f = wordsN r (p + 1) f := N_blank (by decide) (by decide) r p f
theorem N_word {w r : List UInt8} (hne : w ≠ []) (hw : w.all isW = true) (hr : Stops r) (p : Nat) (f : Bool) : wordsN (w ++ r) p f = ⟨w, p, f⟩ :: wordsN r (p + w.length) false := by
  obtain ⟨c, w', rfl⟩ := List.exists_cons_of_ne_nil hne
  obtain ⟨h1, h2⟩ := take_word hw hr
  simp only [List.all_cons, Bool.and_eq_true] at hw
  have hc : c ≠ 10 := by
    rintro rfl
    rw [isW_ten] at hw
    cases hw.1
  have h0 : wordsN (c :: w' ++ r) p f = ⟨(c :: w' ++ r).takeWhile isW, p, f⟩ :: scanN (c :: w' ++ r).length ((c :: w' ++ r).dropWhile isW) (p + ((c :: w' ++ r).takeWhile isW).length) false := by
    unfold wordsN
    rw [List.cons_append]
    simp only [scanN, if_neg hc, hw.1, if_true]
  rw [h0, h1, h2]
  congr 1
  unfold wordsN
  exact scanN_fuel _ _ _ _ _ (by simp; omega) (by omega)

/-! lines of numbers -/
def lnW : List Int → Nat → Bool → List Wd
  | [], _, _ => []
  | x :: l, p, f => ⟨decT x, p, f⟩ :: lnW l (p + (decT x).length + 1) false
theorem lineB_cons (x y : Int) (l : List Int) : lineB (x :: y :: l) = decT x ++ 32 :: lineB (y :: l) := by
  unfold lineB
  rw [List.map_cons, Lib.join_cons, List.map_cons, Lib.join_cons]
  simp [Lib.joinTail]
theorem lineB_one (x : Int) : lineB [x] = decT x ++ [10] := by
  unfold lineB
  rw [List.map_cons, List.map_nil, Lib.join_one]
theorem N_line : ∀ (l : List Int) (r : List UInt8) (p : Nat) (f : Bool), l ≠ [] → wordsN (lineB l ++ r) p f = lnW l p f ++ wordsN r (p + (lineB l).length) true
  | [], r, p, f, h => absurd rfl h
  | [x], r, p, f, _ => by
    obtain ⟨w1, w2, _⟩ := decT_word x
    rw [lineB_one, List.append_assoc, show ([10] ++ r : List UInt8) = 10 :: r from rfl, N_word w1 w2 (Stops.nl _), N_nl]
    simp [lnW, Nat.add_assoc]
  | x :: y :: l, r, p, f, _ => by
    obtain ⟨w1, w2, _⟩ := decT_word x
    rw [lineB_cons, List.append_assoc, List.cons_append, N_word w1 w2 (Stops.sp _), N_sp, N_line (y :: l) r _ _ (by simp)]
    simp only [lnW, List.cons_append, List.length_append, List.length_cons]
    rw [show p + (decT x).length + 1 + (lineB (y :: l)).length = p + ((decT x).length + ((lineB (y :: l)).length + 1)) by omega]
def restB : Bool → List Int → List UInt8
  | _, [] => []
  | f, x :: l => (if f = true then [] else [32]) ++ (decT x ++ restB false l)
theorem lineB_rest : ∀ (l : List Int), lineB l = restB true l ++ [10]
  | [] => rfl
  | [x] => by rw [lineB_one]; simp [restB]
  | x :: y :: l => by
    rw [lineB_cons, lineB_rest (y :: l)]
    simp [restB]
/-- a number that is read as it is -/
theorem numF_dec {x lo hi : Int} (h0 : 0 ≤ x) (h1 : x < 1000000000) (hl : lo ≤ x) (hh : x ≤ hi) (p : Nat) (f : Bool) (W : List Wd) : numF f lo hi (⟨decT x, p, f⟩ :: W) = some x := by
  obtain ⟨a1, a2, a3⟩ := decT_num (x := x) (by omega) h1
  unfold numF wF plainW
  simp only [beq_self_eq_true, if_true, Option.bind_some, a1, a2, a3 h0]
  rw [decide_eq_true hl, decide_eq_true hh]; rfl
theorem insT_text {e : Int} : ∀ (n k p : Nat) (r : List UInt8), 2 * (k + n) < 1000000000 → ∃ q, insT e k n (wordsN (insTx k n ++ r) p true) = .ok (wordsN r q true) ∧ q = p + (insTx k n).length
  | 0, k, p, r, _ => ⟨p, rfl, rfl⟩
  | n + 1, k, p, r, h => by
    obtain ⟨q, e1, e2⟩ := insT_text (e := e) n (k + 1) (p + (lineB [2 * ((k : Int) + 1)]).length) r (by omega)
    refine ⟨q, ?_, ?_⟩
    · rw [insTx, List.append_assoc, N_line _ _ _ _ (by simp)]
      simp only [lnW, List.cons_append, List.nil_append]
      unfold insT
      rw [numF_dec (by omega) (by omega) (by omega) (by omega)]
      exact e1
    · rw [e2, insTx, List.length_append]; omega
theorem outsT_text {e m : Int} : ∀ (O : List Int) (p : Nat) (r : List UInt8) (acc : List Int), (∀ x ∈ O, 0 ≤ x ∧ x ≤ 2 * m + 1 ∧ x < 1000000000) → ∃ q, outsT e m O.length (wordsN (outsTx O ++ r) p true) acc = .ok (acc ++ O, wordsN r q true) ∧ q = p + (outsTx O).length
  | [], p, r, acc, _ => ⟨p, by simp [outsT, outsTx], by simp [outsTx]⟩
  | x :: O, p, r, acc, h => by
    obtain ⟨h1, h2, h3⟩ := h x List.mem_cons_self
    obtain ⟨q, e1, e2⟩ := outsT_text (e := e) (m := m) O (p + (lineB [x]).length) r (acc ++ [x]) fun y hy => h y (List.mem_cons_of_mem _ hy)
    have hx : outsTx (x :: O) = lineB [x] ++ outsTx O := by simp [outsTx]
    refine ⟨q, ?_, ?_⟩
    · rw [hx, List.append_assoc, N_line _ _ _ _ (by simp), List.length_cons]
      simp only [lnW, List.cons_append, List.nil_append]
      unfold outsT
      rw [numF_dec h1 h3 h1 h2]
      simp only [List.drop_succ_cons, List.drop_zero]
      rw [e1]
      simp
    · rw [e2, hx, List.length_append]; omega
def AndsOk (i : Int) : Int → List (Int × Int) → Prop
  | _, [] => True
  | k, p :: l => (0 ≤ p.2 ∧ p.2 ≤ p.1 ∧ p.1 < 2 * (i + k + 1)) ∧ AndsOk i (k + 1) l
theorem andsT_text {e : Int} {i : Nat} : ∀ (A : List (Int × Int)) (k p : Nat) (r : List UInt8) (acc : List (Int × Int)), 2 * (i + k + A.length) < 1000000000 → AndsOk i k A → ∃ q, andsT e i k A.length (wordsN (andsTx i k A ++ r) p true) acc = .ok (acc ++ A, wordsN r q true) ∧ q = p + (andsTx i k A).length
  | [], k, p, r, acc, _, _ => ⟨p, by simp [andsT, andsTx], by simp [andsTx]⟩
  | x :: A, k, p, r, acc, hb, h => by
    simp only [List.length_cons] at hb
    obtain ⟨⟨h1, h2, h3⟩, h4⟩ := h
    obtain ⟨q, e1, e2⟩ := andsT_text (e := e) (i := i) A (k + 1) (p + (lineB [2 * ((i : Int) + k + 1), x.1, x.2]).length) r (acc ++ [x]) (by omega) (by rw [show ((k + 1 : Nat) : Int) = (k : Int) + 1 by omega]; exact h4)
    refine ⟨q, ?_, ?_⟩
    · rw [andsTx, List.append_assoc, N_line _ _ _ _ (by simp), List.length_cons]
      simp only [lnW, List.cons_append, List.nil_append]
      unfold andsT andT
      rw [numF_dec (by omega) (by omega) (by omega) (by omega)]
      simp only [List.drop_succ_cons, List.drop_zero]
      rw [numF_dec (by omega) (by omega) (by omega) (by omega)]
      simp only
      rw [numF_dec (by omega) (by omega) (by omega) (by omega)]
      simp only
      rw [e1]
      simp
    · rw [e2, andsTx, List.length_append]; omega

/-- a right circuit -/
structure CiR (i : Nat) (A : List (Int × Int)) (O : List Int) : Prop where
  hn : i + A.length ≤ 8000
  hO : O.length ≤ 8000
  hA : AndsOk i 0 A
  hx : ∀ x ∈ O, 0 ≤ x ∧ x ≤ 2 * ((i : Int) + A.length) + 1
theorem AndsOk.range {i : Int} : ∀ {A : List (Int × Int)} {k : Int}, AndsOk i k A → ∀ p ∈ A, 0 ≤ p.2 ∧ p.2 ≤ p.1 ∧ p.1 < 2 * (i + k + A.length)
  | [], k, _, p, hp => by cases hp
  | x :: A, k, h, p, hp => by
    rw [List.length_cons]
    rcases List.mem_cons.1 hp with rfl | hp
    · obtain ⟨h1, h2, h3⟩ := h.1
      omega
    · obtain ⟨h1, h2, h3⟩ := h.2.range p hp
      omega
theorem CiR.ok {i : Nat} {A : List (Int × Int)} {O : List Int} (h : CiR i A O) : CiOk i A O := by
  have hn := h.hn
  have hO := h.hO
  refine ⟨by omega, by omega, by omega, fun p hp => ?_, fun x hx => ?_⟩
  · obtain ⟨h1, h2, h3⟩ := h.hA.range p hp
    exact ⟨in64 (by omega) (by omega), in64 (by omega) (by omega)⟩
  · obtain ⟨h1, h2⟩ := h.hx x hx
    exact in64 (by omega) (by omega)
theorem numsH_ln {e : Int} : ∀ (l : List Int) (p : Nat) (W : List Wd) (acc : List Int), (∀ x ∈ l, 0 ≤ x ∧ x < 1000000000) → numsH e l.length (lnW l p false ++ W) acc = .ok (acc ++ l)
  | [], p, W, acc, _ => by simp [numsH]
  | x :: l, p, W, acc, h => by
    obtain ⟨h1, h2⟩ := h x List.mem_cons_self
    obtain ⟨a1, a2, a3⟩ := decT_num (x := x) (by omega) h2
    simp only [lnW, List.cons_append, List.length_cons]
    unfold numsH wF plainW
    simp only [beq_self_eq_true, if_true, a1, a2, a3 h1, Bool.not_false, Bool.and_self, List.drop_succ_cons, List.drop_zero]
    rw [numsH_ln l _ W _ fun y hy => h y (List.mem_cons_of_mem _ hy)]
    simp
theorem lnW_len : ∀ (l : List Int) (p : Nat) (f : Bool), (lnW l p f).length = l.length
  | [], _, _ => rfl
  | x :: l, p, f => by simp [lnW, lnW_len l]
/-- the words of a head -/
theorem head_words (l : List Int) (hl : l ≠ []) (r : List UInt8) : ∃ q, wordsN ([97, 97, 103, 32] ++ lineB l ++ r) 0 true = ⟨[97, 97, 103], 0, true⟩ :: (lnW l 4 false ++ wordsN r q true) ∧ q = 4 + (lineB l).length := by
  refine ⟨_, ?_, rfl⟩
  rw [show ([97, 97, 103, 32] ++ lineB l ++ r : List UInt8) = [97, 97, 103] ++ 32 :: (lineB l ++ r) by simp, N_word (by simp) (by decide) (Stops.sp _), N_sp, N_line _ _ _ _ hl]
  rfl
/-- a circuit's text, whatever is behind it -/
theorem readC_text {i : Nat} {A : List (Int × Int)} {O : List Int} (h : CiR i A O) (r : List UInt8) : readC (aagTx i A O ++ r) = match endT (wordsN r (aagTx i A O).length true) with
    | some p => .error (101, p)
    | none => .ok ((i : Int), A, O) := by
  obtain ⟨hn, hO, hA, hx⟩ := h
  unfold readC
  rw [splitOf_wordsN]
  generalize ((aagTx i A O ++ r).length : Int) = e
  have ht : aagTx i A O ++ r = [97, 97, 103, 32] ++ lineB (headL i A O) ++ (insTx 0 i ++ (outsTx O ++ (andsTx i 0 A ++ r))) := by simp [aagTx]
  have hlen : (aagTx i A O).length = 4 + (lineB (headL i A O)).length + (insTx 0 i).length + (outsTx O).length + (andsTx i 0 A).length := by simp [aagTx]; omega
  obtain ⟨q, e1, e2⟩ := head_words (headL i A O) (by simp [headL]) (insTx 0 i ++ (outsTx O ++ (andsTx i 0 A ++ r)))
  rw [ht, e1, headA_cons rfl rfl]
  rw [show (5 : Nat) = (headL i A O).length from rfl, numsH_ln _ _ _ _ (fun x hx => by simp [headL] at hx; rcases hx with rfl | rfl | rfl | rfl | rfl <;> omega)]
  simp only [List.nil_append]
  rw [show (headL i A O).getD 0 0 = (i : Int) + A.length from rfl, show (headL i A O).getD 1 0 = (i : Int) from rfl, show (headL i A O).getD 2 0 = 0 from rfl, show (headL i A O).getD 3 0 = (O.length : Int) from rfl, show (headL i A O).getD 4 0 = (A.length : Int) from rfl]
  have hl : limT ((i : Int) + A.length) i 0 O.length A.length = none := by
    unfold limT
    rw [if_neg (by omega), if_neg (by omega), if_neg (by omega), if_neg (by simp), if_neg (by simp)]
  rw [hl]
  simp only
  rw [show (headL i A O).getD 0 0 = (i : Int) + A.length from rfl, show (headL i A O).getD 1 0 = (i : Int) from rfl, show (headL i A O).getD 3 0 = (O.length : Int) from rfl, show (headL i A O).getD 4 0 = (A.length : Int) from rfl]
  have hdrop : (⟨[97, 97, 103], 0, true⟩ :: (lnW (headL i A O) 4 false ++ wordsN (insTx 0 i ++ (outsTx O ++ (andsTx i 0 A ++ r))) q true) : List Wd).drop 6 = wordsN (insTx 0 i ++ (outsTx O ++ (andsTx i 0 A ++ r))) q true := by
    rw [List.drop_succ_cons, List.drop_append_of_le_length (by rw [lnW_len]; exact Nat.le_refl _), List.drop_eq_nil_of_le (by rw [lnW_len]; exact Nat.le_refl _), List.nil_append]
  rw [hdrop]
  unfold bodyT
  rw [Int.toNat_natCast, Int.toNat_natCast, Int.toNat_natCast]
  obtain ⟨q1, f1, g1⟩ := insT_text (e := e) i 0 q (outsTx O ++ (andsTx i 0 A ++ r)) (by omega)
  rw [f1]
  simp only
  obtain ⟨q2, f2, g2⟩ := outsT_text (e := e) (m := (i : Int) + A.length) O q1 (andsTx i 0 A ++ r) [] (fun x hxm => by have := hx x hxm; omega)
  rw [f2]
  simp only [List.nil_append]
  obtain ⟨q3, f3, g3⟩ := andsT_text (e := e) (i := i) A 0 q2 r [] (by omega) hA
  rw [f3]
  simp only [List.nil_append]
  rw [hlen, show q3 = 4 + (lineB (headL i A O)).length + (insTx 0 i).length + (outsTx O).length + (andsTx i 0 A).length by omega]
  cases endT (wordsN r (4 + (lineB (headL i A O)).length + (insTx 0 i).length + (outsTx O).length + (andsTx i 0 A).length) true) <;> rfl
end Go.Proofs.YtmjbjgbcpaagmaaDoor

namespace Go.Proofs.YtmjbjgbcpaagmaaDoor
open Go.RowKit

/-- words with what stands behind each -/
def joinS (L : List (List UInt8 × UInt8)) : List UInt8 := L.flatMap fun p => p.1 ++ [p.2]
theorem joinS_app (a b : List (List UInt8 × UInt8)) : joinS (a ++ b) = joinS a ++ joinS b := by simp [joinS]
def WOk (p : List UInt8 × UInt8) : Prop := p.1 ≠ [] ∧ p.1.all isW = true ∧ (p.2 = 10 ∨ p.2 = 32)
theorem all_take {l : List UInt8} (h : l.all isW = true) (m : Nat) : (l.take m).all isW = true :=
  List.all_eq_true.2 fun c hc => List.all_eq_true.1 h c (List.mem_of_mem_take hc)
theorem N_only {w : List UInt8} (hw : w.all isW = true) (p : Nat) (f : Bool) : (wordsN w p f).length ≤ 1 ∧ (w ≠ [] → wordsN w p f = [⟨w, p, f⟩]) := by
  by_cases h : w = []
  · subst h
    rw [N_nil]
    exact ⟨by simp, fun h => absurd rfl h⟩
  · have := N_word (r := []) h hw Stops.nil p f
    rw [List.append_nil, N_nil] at this
    rw [this]
    exact ⟨by simp, fun _ => rfl⟩
theorem cutW : ∀ (L0 : List (List UInt8 × UInt8)) (v : List UInt8) (s : UInt8) (j p : Nat) (f : Bool), (∀ q ∈ L0, WOk q) → v.all isW = true → j + 2 ≤ (joinS (L0 ++ [(v, s)])).length →
    (wordsN ((joinS (L0 ++ [(v, s)])).take j) p f).length ≤ L0.length ∨ ((wordsN ((joinS (L0 ++ [(v, s)])).take j) p f).length = L0.length + 1 ∧ ∃ m q g, 0 < m ∧ m < v.length ∧ (wordsN ((joinS (L0 ++ [(v, s)])).take j) p f)[L0.length]? = some ⟨v.take m, q, g⟩)
  | [], v, s, j, p, f, _, hv, hj => by
    have e : joinS ([] ++ [(v, s)]) = v ++ [s] := by simp [joinS]
    rw [e] at hj ⊢
    rw [List.length_append, List.length_cons, List.length_nil] at hj
    rw [List.take_append_of_le_length (by omega)]
    by_cases h0 : j = 0
    · subst h0
      rw [List.take_zero, N_nil]
      exact .inl (by simp)
    · have hne : v.take j ≠ [] := List.length_pos_iff.1 (by rw [List.length_take]; omega)
      rw [(N_only (all_take hv j) p f).2 hne]
      exact .inr ⟨rfl, j, p, f, by omega, by omega, rfl⟩
  | (w, c) :: L0, v, s, j, p, f, hL, hv, hj => by
    obtain ⟨hw0, hw, hc⟩ := hL (w, c) List.mem_cons_self
    simp only at hw0 hw hc
    have e : joinS ((w, c) :: L0 ++ [(v, s)]) = w ++ c :: joinS (L0 ++ [(v, s)]) := by simp [joinS]
    rw [e] at hj ⊢
    rw [List.length_append, List.length_cons] at hj
    by_cases h1 : j ≤ w.length
    · rw [List.take_append_of_le_length h1]
      have := (N_only (all_take hw j) p f).1
      exact .inl (by rw [List.length_cons]; omega)
    · have ht : (w ++ c :: joinS (L0 ++ [(v, s)])).take j = w ++ c :: (joinS (L0 ++ [(v, s)])).take (j - w.length - 1) := by
        rw [List.take_append, List.take_of_length_le (by omega), show j - w.length = (j - w.length - 1) + 1 by omega, List.take_succ_cons]
        simp
      rw [ht]
      have hst : Stops (c :: (joinS (L0 ++ [(v, s)])).take (j - w.length - 1)) := by
        rcases hc with rfl | rfl
        · exact Stops.nl _
        · exact Stops.sp _
      have hnx : ∃ g, wordsN (c :: (joinS (L0 ++ [(v, s)])).take (j - w.length - 1)) (p + w.length) false = wordsN ((joinS (L0 ++ [(v, s)])).take (j - w.length - 1)) (p + w.length + 1) g := by
        rcases hc with rfl | rfl
        · exact ⟨_, N_nl _ _ _⟩
        · exact ⟨_, N_sp _ _ _⟩
      obtain ⟨g, hnx⟩ := hnx
      rw [N_word hw0 hw hst, hnx]
      rcases cutW L0 v s (j - w.length - 1) (p + w.length + 1) g (fun q hq => hL q (List.mem_cons_of_mem _ hq)) hv (by omega) with h | ⟨h, m, q, g', m0, m1, h2⟩
      · exact .inl (by rw [List.length_cons, List.length_cons]; omega)
      · exact .inr ⟨by rw [List.length_cons, List.length_cons, h], m, q, g', m0, m1, by rw [List.length_cons, List.getElem?_cons_succ]; exact h2⟩
def lineP : List Int → List (List UInt8 × UInt8)
  | [] => []
  | [x] => [(decT x, 10)]
  | x :: y :: l => (decT x, 32) :: lineP (y :: l)
theorem lineP_join : ∀ (l : List Int), l ≠ [] → joinS (lineP l) = lineB l
  | [], h => absurd rfl h
  | [x], _ => by rw [lineB_one]; simp [lineP, joinS]
  | x :: y :: l, _ => by
    have ih := lineP_join (y :: l) (by simp)
    rw [lineB_cons, ← ih, lineP]
    simp [joinS]
theorem lineP_len : ∀ (l : List Int), (lineP l).length = l.length
  | [] => rfl
  | [x] => rfl
  | x :: y :: l => by rw [lineP, List.length_cons, lineP_len (y :: l)]; simp
theorem lineP_ok : ∀ (l : List Int), ∀ q ∈ lineP l, WOk q
  | [], q, h => by cases h
  | [x], q, h => by
    rw [lineP, List.mem_singleton] at h
    subst h
    obtain ⟨w1, w2, _⟩ := decT_word x
    exact ⟨w1, w2, .inl rfl⟩
  | x :: y :: l, q, h => by
    rw [lineP] at h
    rcases List.mem_cons.1 h with rfl | h
    · obtain ⟨w1, w2, _⟩ := decT_word x
      exact ⟨w1, w2, .inr rfl⟩
    · exact lineP_ok (y :: l) q h
def insP : Nat → Nat → List (List UInt8 × UInt8)
  | _, 0 => []
  | k, n + 1 => lineP [2 * ((k : Int) + 1)] ++ insP (k + 1) n
theorem insP_join : ∀ (n k : Nat), joinS (insP k n) = insTx k n
  | 0, k => rfl
  | n + 1, k => by rw [insP, joinS_app, lineP_join _ (by simp), insP_join n, insTx]
theorem insP_len : ∀ (n k : Nat), (insP k n).length = n
  | 0, k => rfl
  | n + 1, k => by rw [insP, List.length_append, lineP_len, insP_len n]; simp; omega
theorem insP_ok : ∀ (n k : Nat), ∀ q ∈ insP k n, WOk q
  | 0, k, q, h => by cases h
  | n + 1, k, q, h => by
    rw [insP] at h
    rcases List.mem_append.1 h with h | h
    · exact lineP_ok _ q h
    · exact insP_ok n (k + 1) q h
def andsP (i : Nat) : Nat → List (Int × Int) → List (List UInt8 × UInt8)
  | _, [] => []
  | k, p :: l => lineP [2 * ((i : Int) + k + 1), p.1, p.2] ++ andsP i (k + 1) l
theorem andsP_join {i : Nat} : ∀ (A : List (Int × Int)) (k : Nat), joinS (andsP i k A) = andsTx i k A
  | [], k => rfl
  | p :: A, k => by rw [andsP, joinS_app, lineP_join _ (by simp), andsP_join A, andsTx]
theorem andsP_ok {i : Nat} : ∀ (A : List (Int × Int)) (k : Nat), ∀ q ∈ andsP i k A, WOk q
  | [], k, q, h => by cases h
  | p :: A, k, q, h => by
    rw [andsP] at h
    rcases List.mem_append.1 h with h | h
    · exact lineP_ok _ q h
    · exact andsP_ok A (k + 1) q h
theorem andsP_last {i : Nat} (x : Int × Int) : ∀ (A : List (Int × Int)) (k : Nat), ∃ P, andsP i k (A ++ [x]) = P ++ [(decT x.2, 10)] ∧ P.length = 3 * A.length + 2
  | [], k => ⟨[(decT (2 * ((i : Int) + k + 1)), 32), (decT x.1, 32)], rfl, rfl⟩
  | p :: A, k => by
    obtain ⟨P, e, l⟩ := andsP_last x A (k + 1)
    refine ⟨lineP [2 * ((i : Int) + k + 1), p.1, p.2] ++ P, ?_, ?_⟩
    · rw [List.cons_append, andsP, e, List.append_assoc]
    · rw [List.length_append, lineP_len, l]; simp; omega

/-! what reading takes -/
theorem numF_pos {f : Bool} {lo hi x : Int} {W : List Wd} (h : numF f lo hi W = some x) : 0 < W.length := by
  obtain ⟨_, _, w, W', rfl, _⟩ := numF_range h
  simp
theorem insT_le {e : Int} : ∀ {n k : Nat} {W W' : List Wd}, insT e k n W = .ok W' → n ≤ W.length ∧ W' = W.drop n
  | 0, k, W, W', h => by cases h; exact ⟨Nat.zero_le _, rfl⟩
  | n + 1, k, W, W', h => by
    unfold insT at h
    split at h
    · cases h
    · rename_i x hx
      have := numF_pos hx
      obtain ⟨h1, h2⟩ := insT_le h
      rw [List.length_drop] at h1
      exact ⟨by omega, by rw [h2, List.drop_drop, Nat.add_comm 1 n]⟩
theorem outsT_le {e m : Int} : ∀ {n : Nat} {W W' : List Wd} {acc O : List Int}, outsT e m n W acc = .ok (O, W') → n ≤ W.length ∧ W' = W.drop n
  | 0, W, W', acc, O, h => by cases h; exact ⟨Nat.zero_le _, rfl⟩
  | n + 1, W, W', acc, O, h => by
    unfold outsT at h
    split at h
    · cases h
    · rename_i x hx
      have := numF_pos hx
      obtain ⟨h1, h2⟩ := outsT_le h
      rw [List.length_drop] at h1
      exact ⟨by omega, by rw [h2, List.drop_drop, Nat.add_comm 1 n]⟩
theorem andsT_le {e i : Int} : ∀ {n k : Nat} {W W' : List Wd} {acc A : List (Int × Int)}, andsT e i k n W acc = .ok (A, W') → 3 * n ≤ W.length ∧ ∃ B, A = acc ++ B ∧ B.length = n ∧ ∀ t, t < n → ∃ w, W[3 * t + 2]? = some w ∧ (B[t]?).map (·.2) = some (numW w.text)
  | 0, k, W, W', acc, A, h => by cases h; exact ⟨Nat.zero_le _, [], by simp, rfl, fun t ht => by omega⟩
  | n + 1, k, W, W', acc, A, h => by
    unfold andsT at h
    split at h
    · cases h
    · rename_i x W1 hx
      unfold andT at hx
      split at hx
      · cases hx
      · split at hx
        · cases hx
        · rename_i a ha
          split at hx
          · cases hx
          · rename_i b hb
            cases hx
            obtain ⟨_, _, w, W2, hw, _, _, hbw⟩ := numF_range hb
            have hw2 : W[2]? = some w := by
              have : (W.drop 2)[0]? = some w := by rw [hw]; rfl
              rwa [List.getElem?_drop] at this
            have hl := (List.getElem?_eq_some_iff.1 hw2).1
            obtain ⟨h1, B, h2, h3, h4⟩ := andsT_le h
            rw [List.length_drop] at h1
            refine ⟨by omega, (a, b) :: B, by rw [h2]; simp, by rw [List.length_cons, h3], fun t ht => ?_⟩
            cases t with
            | zero => exact ⟨w, hw2, by rw [hbw]; rfl⟩
            | succ t =>
              obtain ⟨w', g1, g2⟩ := h4 t (by omega)
              rw [List.getElem?_drop] at g1
              exact ⟨w', by rw [← g1]; congr 1; omega, by rw [List.getElem?_cons_succ]; exact g2⟩
/-- a number's digits in front are another number -/
theorem valI_app (a : Int) (u v : List UInt8) : valI a (u ++ v) = valI (valI a u) v := by simp [valI]
theorem valI_ge : ∀ (v : List UInt8) (a : Int), 0 ≤ a → v.all isDig = true → a * 10 ^ v.length ≤ valI a v
  | [], a, _, _ => by simp [valI]
  | c :: v, a, h0, h => by
    simp only [List.all_cons, Bool.and_eq_true] at h
    obtain ⟨q1, q2⟩ := isDig_true h.1
    have ih := valI_ge v (10 * a + ((c.toNat : Int) - 48)) (by omega) h.2
    rw [valI_cons, List.length_cons, Int.pow_succ]
    refine Int.le_trans ?_ ih
    rw [Int.mul_comm _ 10, ← Int.mul_assoc, Int.mul_comm a 10]
    exact Int.mul_le_mul_of_nonneg_right (by omega) (Int.pow_nonneg (by omega))
theorem cut_num {x : Int} (h0 : 0 ≤ x) (h1 : x < 1000000000) {m : Nat} (m0 : 0 < m) (hm : m < (decT x).length) : numW ((decT x).take m) ≠ x := by
  obtain ⟨u, rfl⟩ := Int.eq_ofNat_of_zero_le h0
  have hd : decT (u : Int) = decN u := by unfold decT; rw [if_neg (by omega), Int.toNat_natCast]
  rw [hd] at hm ⊢
  obtain ⟨a1, a2, a3⟩ := decN_is u
  have hu : 0 < u := by
    rcases Nat.eq_zero_or_pos u with h | h
    · subst h
      have : (decN 0).length = 1 := by decide
      omega
    · exact h
  have hall : ((decN u).take m).all isDig = true := List.all_eq_true.2 fun c hc => List.all_eq_true.1 a1 c (List.mem_of_mem_take hc)
  have hl : ((decN u).take m).length = m := by rw [List.length_take]; omega
  have h9 := decN_small (u := u) (by omega)
  have hmin : minusI ((decN u).take m) = false := by
    unfold minusI
    have := dig_ne (head_dig hall (by omega)) (k := 45) (by decide)
    rw [beq_false_of_ne this, Bool.and_false]
  have hdg : digitsI ((decN u).take m) = (decN u).take m := by unfold digitsI; rw [if_neg (by rw [hmin]; simp)]
  have hok : okNum ((decN u).take m) = true := by
    unfold okNum
    rw [hdg, decide_eq_false (by omega), hall]; rfl
  have hv : numW ((decN u).take m) = valI 0 ((decN u).take m) := by
    unfold numW
    rw [if_pos hok, if_neg (by rw [hmin]; simp), hdg]
  rw [hv]
  intro he
  have hs : valI 0 (decN u) = valI (valI 0 ((decN u).take m)) ((decN u).drop m) := by rw [← valI_app, List.take_append_drop]
  have hdrop : ((decN u).drop m).all isDig = true := List.all_eq_true.2 fun c hc => List.all_eq_true.1 a1 c (List.mem_of_mem_drop hc)
  have hge := valI_ge ((decN u).drop m) (u : Int) (by omega) hdrop
  rw [he] at hs
  rw [← hs, a3] at hge
  have hlen : ((decN u).drop m).length = (decN u).length - m := List.length_drop
  have hp : (10 : Int) ≤ 10 ^ ((decN u).drop m).length := by
    obtain ⟨q, hq⟩ : ∃ q, ((decN u).drop m).length = q + 1 := ⟨((decN u).drop m).length - 1, by omega⟩
    have : 0 < (10 : Int) ^ q := Int.pow_pos (by omega)
    rw [hq, Int.pow_succ]
    omega
  have := Int.mul_le_mul_of_nonneg_left hp (show (0 : Int) ≤ u by omega)
  omega
/-- a circuit's text that is cut is not read as that circuit -/
theorem readC_cut {i : Nat} {A : List (Int × Int)} (h : CiR i A [2]) {j : Nat} (hj : j + 2 ≤ (aagTx i A [2]).length) : readC ((aagTx i A [2]).take j) ≠ .ok ((i : Int), A, [2]) := by
  intro hr
  obtain ⟨hn, hO, hA, hx⟩ := h
  have hjoin : aagTx i A [2] = joinS (([97, 97, 103], 32) :: lineP (headL i A [2]) ++ insP 0 i ++ lineP [2] ++ andsP i 0 A) := by
    rw [joinS_app, joinS_app, joinS_app, andsP_join, insP_join, lineP_join _ (by simp)]
    have : joinS (([97, 97, 103], 32) :: lineP (headL i A [2])) = [97, 97, 103, 32] ++ lineB (headL i A [2]) := by
      rw [← lineP_join (headL i A [2]) (by simp [headL])]
      simp [joinS]
    rw [this, aagTx]
    simp [outsTx]
  have hP : ∀ q ∈ (([97, 97, 103], 32) :: lineP (headL i A [2]) ++ insP 0 i : List (List UInt8 × UInt8)), WOk q := by
    intro q hq
    rcases List.mem_append.1 hq with hq | hq
    · rcases List.mem_cons.1 hq with rfl | hq
      · exact ⟨by simp, by decide, .inr rfl⟩
      · exact lineP_ok _ q hq
    · exact insP_ok _ _ q hq
  have hPl : (([97, 97, 103], 32) :: lineP (headL i A [2]) ++ insP 0 i : List (List UInt8 × UInt8)).length = 6 + i := by
    rw [List.length_append, List.length_cons, lineP_len, insP_len, show (headL i A [2]).length = 5 from rfl]
  generalize (([97, 97, 103], 32) :: lineP (headL i A [2]) ++ insP 0 i : List (List UInt8 × UInt8)) = P at hjoin hP hPl
  -- what was read
  unfold readC at hr
  rw [splitOf_wordsN] at hr
  generalize hW : wordsN ((aagTx i A [2]).take j) 0 true = W at hr
  generalize (((aagTx i A [2]).take j).length : Int) = e at hr
  have key : 6 + i + 1 + 3 * A.length ≤ W.length ∧ ∀ t, t < A.length → ∃ w, W[6 + i + 1 + 3 * t + 2]? = some w ∧ (A[t]?).map (·.2) = some (numW w.text) := by
    split at hr
    · cases hr
    · rename_i M hM
      have hW6 : 6 ≤ W.length := by
        cases hW1 : W with
        | nil => rw [hW1] at hM; cases hM
        | cons w W1 =>
          rw [hW1] at hM
          cases ht : w.text == [97, 97, 103] with
          | false => rw [headA_ne ht] at hM; cases hM
          | true =>
            cases hf : w.first with
            | false => rw [headA_nf hf] at hM; cases hM
            | true =>
              rw [headA_cons ht hf] at hM
              split at hM
              · cases hM
              · rename_i N hN
                have := (numsH_len hN).2.1
                simp only [List.length_cons]
                omega
      split at hr
      · cases hr
      · rename_i c hc
        cases hr
        obtain ⟨q1, q2, q3⟩ := bodyT_len hc
        simp only at q1 q2 q3
        unfold bodyT at hc
        rw [← q1, ← q2, ← q3, Int.toNat_natCast] at hc
        split at hc
        · cases hc
        · rename_i W1 h1
          obtain ⟨l1, rfl⟩ := insT_le h1
          split at hc
          · cases hc
          · rename_i O' W2 h2
            obtain ⟨l2, rfl⟩ := outsT_le h2
            split at hc
            · cases hc
            · rename_i A' W3 h3
              split at hc
              · cases hc
              · cases hc
                obtain ⟨l3, B, b1, b2, b3⟩ := andsT_le h3
                rw [List.nil_append] at b1
                subst b1
                simp only [List.length_drop, List.length_cons, List.length_nil] at l1 l2 l3
                refine ⟨by omega, fun t ht => ?_⟩
                obtain ⟨w, g1, g2⟩ := b3 t ht
                rw [List.getElem?_drop, List.getElem?_drop, List.getElem?_drop] at g1
                refine ⟨w, ?_, g2⟩
                rw [← g1]
                simp only [List.length_cons, List.length_nil]
                congr 1
                omega
  obtain ⟨k1, k2⟩ := key
  rcases List.eq_nil_or_concat A with rfl | ⟨A0, g, rfl⟩
  · have hj2 : aagTx i [] [2] = joinS (P ++ [(decT 2, 10)]) := by rw [hjoin]; simp [andsP, lineP]
    rw [hj2] at hj hW
    rcases cutW P (decT 2) 10 j 0 true hP (decT_word 2).2.1 hj with hc | ⟨hc, m, q, g, m0, m1, _⟩
    · rw [hW] at hc
      simp at k1
      omega
    · have : (decT 2).length = 1 := by decide
      omega
  · rw [List.concat_eq_append] at *
    obtain ⟨Q, hQ, hQl⟩ := andsP_last (i := i) g A0 0
    have hj2 : aagTx i (A0 ++ [g]) [2] = joinS ((P ++ lineP [2] ++ Q) ++ [(decT g.2, 10)]) := by
      rw [hjoin, hQ]
      simp
    rw [hj2] at hj hW
    have hok : ∀ q ∈ P ++ lineP [2] ++ Q, WOk q := by
      intro q hq
      rcases List.mem_append.1 hq with hq | hq
      · rcases List.mem_append.1 hq with hq | hq
        · exact hP q hq
        · exact lineP_ok _ q hq
      · refine andsP_ok (i := i) (A0 ++ [g]) 0 q ?_
        rw [hQ]
        exact List.mem_append_left _ hq
    have hl : (P ++ lineP [2] ++ Q).length = 6 + i + 1 + 3 * A0.length + 2 := by
      rw [List.length_append, List.length_append, lineP_len, hPl, hQl]; simp; omega
    rcases cutW (P ++ lineP [2] ++ Q) (decT g.2) 10 j 0 true hok (decT_word g.2).2.1 hj with hc | ⟨hc, m, q, g', m0, m1, hlast⟩
    · rw [hW] at hc
      simp only [List.length_append, List.length_cons, List.length_nil] at k1 hl hc
      omega
    · rw [hW, hl] at hlast
      obtain ⟨w, w1, w2⟩ := k2 A0.length (by simp)
      rw [hlast] at w1
      cases w1
      rw [List.getElem?_concat_length] at w2
      simp only [Option.map_some, Option.some.injEq] at w2
      obtain ⟨r1, r2, r3⟩ := hA.range g (by simp)
      refine cut_num (x := g.2) r1 ?_ m0 m1 w2.symm
      simp only [List.length_append, List.length_cons, List.length_nil] at r3 hn
      omega
end Go.Proofs.YtmjbjgbcpaagmaaDoor

namespace Go.Proofs.YtmjbjgbcpaagmaaDoor
open Go.RowKit

/-! skolemworld.Number -/
def numI (n b : Int) : Int := bif decide (Int.tmod n b < 0) then IntKind.wrap .i64 (Int.tmod n b + b) else Int.tmod n b
theorem Number_run (fuel d : Nat) {n b : Int} (hb : b ≠ 0) (h : AHeap) : run fuel (d + 1) F_skolemworld_Number [.int .i64 n, .int .i64 b] h = some (.int .i64 (numI n b), h) :=
  pure_of rfl rfl (cc2 rfl rfl) (by
    rw [e_skolemworld_Number, bif_neg hb]
    show _ = some (AVal.int .i64 (numI n b), AHeap.none)
    unfold numI
    cases decide (Int.tmod n b < 0) <;> rfl) rfl
theorem numI_range {n b : Int} (hb : 0 < b) (hb2 : b ≤ 9223372036854775807) : 0 ≤ numI n b ∧ numI n b < b := by
  have h1 := Int.tmod_lt_of_pos n hb
  have h2 : -b < Int.tmod n b := by
    have := Int.neg_lt_of_neg_lt (a := Int.tmod n b) (b := b)
    have h3 := Int.tmod_lt_of_pos (-n) hb
    rw [Int.neg_tmod] at h3
    omega
  unfold numI
  by_cases h0 : Int.tmod n b < 0
  · rw [decide_eq_true h0, cond_true, wrap64 (by omega) (by omega)]; omega
  · rw [decide_eq_false h0, cond_false]; omega

end Go.Proofs.YtmjbjgbcpaagmaaDoor

namespace Go.Proofs.YtmjbjgbcpaagmaaDoor
open Go.RowKit

/-- gates out of numbers -/
def mkA (i : Int) : Nat → List Int → List (Int × Int) → List (Int × Int)
  | 0, _, acc => acc
  | n + 1, l, acc => match l with
    | x :: y :: l' => mkA i n l' (acc ++ [((bif decide (numI x (2 * (i + acc.length + 1)) < numI y (2 * (i + acc.length + 1))) then numI y (2 * (i + acc.length + 1)) else numI x (2 * (i + acc.length + 1))), (bif decide (numI y (2 * (i + acc.length + 1)) < numI x (2 * (i + acc.length + 1))) then numI y (2 * (i + acc.length + 1)) else numI x (2 * (i + acc.length + 1))))])
    | _ => acc
def mkO (n : Int) (o : List Int) : List Int := o.map fun x => numI x (2 * (n + 1))
def mkAnds (i : Int) (l : List Int) : List (Int × Int) := mkA i (l.length + 1) l []
theorem mkA_ok {i : Int} (hi : 0 ≤ i) : ∀ (n : Nat) (l : List Int) (acc : List (Int × Int)), AndsOk i 0 acc → i + acc.length + l.length ≤ 8000 → AndsOk i 0 (mkA i n l acc) ∧ (mkA i n l acc).length ≤ acc.length + l.length
  | 0, l, acc, h, hb => ⟨h, by unfold mkA; omega⟩
  | n + 1, [], acc, h, hb => ⟨h, by unfold mkA; simp⟩
  | n + 1, [x], acc, h, hb => ⟨h, by unfold mkA; simp⟩
  | n + 1, x :: y :: l, acc, h, hb => by
    simp only [List.length_cons] at hb
    unfold mkA
    simp only
    have hx := numI_range (n := x) (b := 2 * (i + acc.length + 1)) (by omega) (by omega)
    have hy := numI_range (n := y) (b := 2 * (i + acc.length + 1)) (by omega) (by omega)
    generalize numI x (2 * (i + acc.length + 1)) = u at hx
    generalize numI y (2 * (i + acc.length + 1)) = v at hy
    have app : ∀ (B : List (Int × Int)) (k : Int) (p : Int × Int), AndsOk i k B → (0 ≤ p.2 ∧ p.2 ≤ p.1 ∧ p.1 < 2 * (i + (k + B.length) + 1)) → AndsOk i k (B ++ [p]) := by
      intro B
      induction B with
      | nil => intro k p _ hp; exact ⟨by simpa using hp, trivial⟩
      | cons q B ih =>
        intro k p hB hp
        refine ⟨hB.1, ih (k + 1) p hB.2 ?_⟩
        rw [List.length_cons] at hp
        refine ⟨hp.1, hp.2.1, ?_⟩
        have := hp.2.2
        omega
    have hacc := app acc 0 ((bif decide (u < v) then v else u), (bif decide (v < u) then v else u)) h (by
      simp only [Int.zero_add]
      by_cases h1 : u < v
      · rw [decide_eq_true h1, decide_eq_false (by omega), cond_true, cond_false]; omega
      · rw [decide_eq_false h1, cond_false]
        by_cases h2 : v < u
        · rw [decide_eq_true h2, cond_true]; omega
        · rw [decide_eq_false h2, cond_false]; omega)
    obtain ⟨r1, r2⟩ := mkA_ok hi n l _ hacc (by simp; omega)
    refine ⟨r1, ?_⟩
    simp at r2
    simp only [List.length_cons]
    omega
theorem mk_right {i : Nat} {l o : List Int} (h : (i : Int) + l.length ≤ 8000) (ho : o.length ≤ 8000) : CiR i (mkAnds i l) (mkO ((i : Int) + (mkAnds i l).length) o) := by
  obtain ⟨r1, r2⟩ := mkA_ok (i := (i : Int)) (by omega) (l.length + 1) l [] trivial (by simp; omega)
  unfold mkAnds
  simp only [List.length_nil, Nat.zero_add] at r2
  refine ⟨by omega, by rw [mkO, List.length_map]; exact ho, r1, fun x hx => ?_⟩
  obtain ⟨y, _, rfl⟩ := List.mem_map.1 hx
  have := numI_range (n := y) (b := 2 * ((i : Int) + (mkA i (l.length + 1) l []).length + 1)) (by omega) (by omega)
  omega
section
variable (fuel d : Nat) {h0 : AHeap} {X C : Nat} {i : Int} {l o : List Int}
theorem mkc_loop0 (hi : 0 ≤ i ∧ i ≤ 1000) (hl : l.length ≤ 1000) {R : List Chunk} : ∀ (n k : Nat) (A : List (Int × Int)) (sA : Sl) (h : AHeap), l.length < n + k → k ≤ l.length → A.length ≤ k → Sep0 h0 h (.own 1 C 0 3 [.int .i64 i, .slice sA, .slice .nil] :: .grown 2 sA (pairsC A) :: R) →
    ∃ h' sA', l_skolemmake_Circuit_0 fuel (d + 1) n [(0, .int .i64 i), (1, .slice (lstI l)), (2, .slice (lstI o)), (6, .ptr (rdP X)), (7, .ptr (rdP C)), (8, .int .i64 (k : Int))] h = some (.exit 0, [(0, .int .i64 i), (2, .slice (lstI o)), (6, .ptr (rdP X)), (7, .ptr (rdP C))], h') ∧ Sep0 h0 h' (.own 1 C 0 3 [.int .i64 i, .slice sA', .slice .nil] :: .grown 2 sA' (pairsC (mkA i n (l.drop k) A)) :: R) := by
  intro n
  induction n with
  | zero => intro k A sA h h1 h2; omega
  | succ n ih =>
    intro k A sA h h1 h2 hA hs
    have hsl := hs.len (i := 1) rfl
    rw [pairsC_len] at hsl
    have hAl : sA.len = A.length := by omega
    have cA : ∀ q, Sep0 h0 q (.own 1 C 0 3 [.int .i64 i, .slice sA, .slice .nil] :: .grown 2 sA (pairsC A) :: R) → q.cell (.mk ⟨C, 0, 0 + 1⟩ 3) = some (.slice sA) := fun q hq => hq.part (i := 0) rfl (by omega) rfl
    rw [l_skolemmake_Circuit_0_eq, len_lst, sucU (by omega)]
    by_cases hk : k + 1 < l.length
    · have hd : l.drop k = l.getD k 0 :: l.getD (k + 1) 0 :: l.drop (k + 2) := by rw [drop_get (by omega) 0, drop_get hk 0]
      rw [bif_pos (by omega), hd]
      unfold mkA
      simp only [field_mk, Option.bind_some, cA h hs, slice_slice]
      rw [addr_lstM _ (by omega) (by omega) 0, Int.toNat_natCast]
      simp only [Option.bind_some, cell_fp, int_int]
      rw [hAl, wrap64 (n := i + (A.length : Int)) (by omega) (by omega), wrap64 (n := i + (A.length : Int) + 1) (by omega) (by omega), wrap64 (n := 2 * (i + (A.length : Int) + 1)) (by omega) (by omega), Number_run fuel d (by omega)]
      simp only [Option.bind_some, int_int]
      rw [addr_lstM _ (by omega) (by rw [Int.toNat_natCast]; exact hk) 0, Int.toNat_natCast]
      simp only [Option.bind_some, cell_fp, int_int]
      rw [Number_run fuel d (by omega)]
      simp only [Option.bind_some, int_int, cA h hs, slice_slice]
      generalize numI (l.getD k 0) (2 * (i + A.length + 1)) = u
      generalize numI (l.getD (k + 1) 0) (2 * (i + A.length + 1)) = v
      obtain ⟨sA', h2, e2, s2, _⟩ := hs.grow (i := 1) (bytes := 16) (m := 1) (vs := pairC ((bif decide (u < v) then v else u), (bif decide (v < u) then v else u))) rfl rfl (by omega) (by omega)
      rw [set1] at s2
      obtain ⟨h3, e3, s3⟩ := s2.put (i := 0) (o := 1) (l := 3) (vs := [.slice sA']) rfl (by simp) (by simp)
      rw [e2]
      simp only [Option.bind_some]
      rw [show (0 + 1 : Nat) = 1 from rfl, e3, Option.bind_some, show IntKind.wrap .i64 ((k : Int) + 2) = ((k + 2 : Nat) : Int) by rw [wrap64 (by omega) (by omega)]; omega]
      rw [show pairsC A ++ pairC ((bif decide (u < v) then v else u), (bif decide (v < u) then v else u)) = pairsC (A ++ [((bif decide (u < v) then v else u), (bif decide (v < u) then v else u))]) by simp [pairsC]] at s3
      exact ih (k + 2) _ sA' h3 (by omega) (by omega) (by simp; omega) s3
    · rw [bif_neg (by omega)]
      refine ⟨h, sA, rfl, ?_⟩
      have : mkA i (n + 1) (l.drop k) A = A := by
        have hlen : (l.drop k).length ≤ 1 := by rw [List.length_drop]; omega
        unfold mkA
        match hq : l.drop k with
        | [] => rfl
        | [x] => rfl
        | x :: y :: z => rw [hq] at hlen; simp at hlen
      rw [this]
      exact hs
theorem mkc_loop1 (hi : 0 ≤ i ∧ i ≤ 1000) (ho : o.length ≤ 1000) {A : List (Int × Int)} (hA : A.length ≤ 1000) {sA : Sl} (hAl : sA.len = A.length) {R : List Chunk} : ∀ (n k : Nat) (O : List Int) (sO : Sl) (h : AHeap), o.length < n + k → k ≤ o.length → O = (o.take k).map (fun x => numI x (2 * (i + A.length + 1))) → Sep0 h0 h (.own 1 C 0 3 [.int .i64 i, .slice sA, .slice sO] :: .grown 1 sO (intsC O) :: R) →
    ∃ h' sO', l_skolemmake_Circuit_1 fuel (d + 1) n [(0, .int .i64 i), (2, .slice (lstI o)), (6, .ptr (rdP X)), (7, .ptr (rdP C)), (12, .int .i64 (k : Int))] h = some (.exit 2, [(6, .ptr (rdP X)), (7, .ptr (rdP C))], h') ∧ Sep0 h0 h' (.own 1 C 0 3 [.int .i64 i, .slice sA, .slice sO'] :: .grown 1 sO' (intsC (mkO (i + A.length) o)) :: R) := by
  intro n
  induction n with
  | zero => intro k O sO h h1 h2; omega
  | succ n ih =>
    intro k O sO h h1 h2 hO hs
    have hsl := hs.len (i := 1) rfl
    rw [List.length_map, Nat.mul_one] at hsl
    have hOl : O.length = k := by rw [hO]; simp; omega
    have cA : h.cell (.mk ⟨C, 0, 0 + 1⟩ 3) = some (.slice sA) := hs.part (i := 0) rfl (by omega) rfl
    have cO : h.cell (.mk ⟨C, 0, 0 + 2⟩ 3) = some (.slice sO) := hs.part (i := 0) rfl (by omega) rfl
    rw [l_skolemmake_Circuit_1_eq, len_lst]
    by_cases hk : k < o.length
    · rw [bif_pos (by omega)]
      simp only [field_mk, Option.bind_some, cO, cA, slice_slice]
      rw [addr_lstM _ (by omega) (by omega) 0, Int.toNat_natCast]
      simp only [Option.bind_some, cell_fp, int_int]
      rw [hAl, wrap64 (n := i + (A.length : Int)) (by omega) (by omega), wrap64 (n := i + (A.length : Int) + 1) (by omega) (by omega), wrap64 (n := 2 * (i + (A.length : Int) + 1)) (by omega) (by omega), Number_run fuel d (by omega)]
      simp only [Option.bind_some, int_int, cO, slice_slice, same_self]
      obtain ⟨sO', h2, e2, s2, _⟩ := hs.grow (i := 1) (bytes := 8) (m := 1) (vs := [.int .i64 (numI (o.getD k 0) (2 * (i + A.length + 1)))]) rfl rfl (by omega) (by omega)
      rw [set1] at s2
      obtain ⟨h3, e3, s3⟩ := s2.put (i := 0) (o := 2) (l := 3) (vs := [.slice sO']) rfl (by simp) (by simp)
      rw [e2]
      simp only [Option.bind_some]
      rw [show (0 + 2 : Nat) = 2 from rfl, e3, Option.bind_some, sucU (by omega)]
      rw [show intsC O ++ [AVal.int .i64 (numI (o.getD k 0) (2 * (i + A.length + 1)))] = intsC (O ++ [numI (o.getD k 0) (2 * (i + A.length + 1))]) by simp] at s3
      exact ih (k + 1) _ sO' h3 (by omega) (by omega) (by rw [take_get hk 0, List.map_append, hO]; rfl) s3
    · obtain rfl : k = o.length := by omega
      rw [bif_neg (by omega)]
      rw [List.take_length] at hO
      subst hO
      exact ⟨h, sO, rfl, hs⟩
theorem mkc_run (hf : 2000 < fuel) (hi : 0 ≤ i ∧ i ≤ 1000) (hl : l.length ≤ 1000) (ho : o.length ≤ 1000) {u v : AVal} (hu : canonV 8 u = some (.slice (lstI l))) (hv : canonV 8 v = some (.slice (lstI o))) (h : AHeap) :
    run fuel (d + 2) F_skolemmake_Circuit [.int .i64 i, u, v] h = some (.agg (circC i (mkAnds i l) (mkO (i + (mkAnds i l).length) o)), h) := by
  have key : ∃ v h', brun fuel (d + 2) F_skolemmake_Circuit [.int .i64 i, .slice (lstI l), .slice (lstI o)] AHeap.none = some (v, h') ∧ freezeV h' 8 v = some (.agg (circC i (mkAnds i l) (mkO (i + (mkAnds i l).length) o))) := by
    have s1 := (((Sep0.start AHeap.none).push 1 3 (cs := zero3) rfl).push 1 3 (cs := zero3) rfl).cons
    obtain ⟨h1, e1, s2⟩ := s1.putAll (i := 0) (vs := [.int .i64 i, .slice .nil, .slice .nil]) rfl rfl rfl
    rw [e_skolemmake_Circuit, e1, Option.bind_some]
    generalize (AHeap.none.push 1 zero3).next = C at s2
    generalize AHeap.none.next = X at s2
    have s3 : Sep0 AHeap.none h1 [.own 1 C 0 3 [.int .i64 i, .slice .nil, .slice .nil], .grown 2 .nil (pairsC []), .own 1 X 0 3 zero3] := (s2.addNil 2).perm ((List.Perm.swap _ _ _).cons _)
    obtain ⟨h2, sA, e2, s4⟩ := mkc_loop0 fuel d (X := X) (o := o) hi hl fuel 0 [] .nil h1 (by omega) (by omega) (by simp) s3
    rw [show ((0 : Nat) : Int) = 0 from rfl] at e2
    rw [e2, Option.bind_some, k_skolemmake_Circuit_0_x0]
    have hmk : mkA i fuel (l.drop 0) [] = mkAnds i l := by
      have : ∀ (n m : Nat) (l : List Int) (acc : List (Int × Int)), l.length < n → l.length < m → mkA i n l acc = mkA i m l acc := by
        intro n
        induction n with
        | zero => intro m l acc h1; omega
        | succ n ih =>
          intro m l acc h1 h2
          obtain ⟨m, rfl⟩ : ∃ q, m = q + 1 := ⟨m - 1, by omega⟩
          match l with
          | [] => rfl
          | [x] => rfl
          | x :: y :: l =>
            unfold mkA
            simp only
            simp only [List.length_cons] at h1 h2
            exact ih m l _ (by omega) (by omega)
      exact this _ _ _ _ (by simp; omega) (by simp)
    rw [hmk] at s4
    have hAlen : (mkAnds i l).length ≤ 1000 := by
      have : ∀ (n : Nat) (l : List Int) (acc : List (Int × Int)), (mkA i n l acc).length ≤ acc.length + l.length := by
        intro n
        induction n with
        | zero => intro l acc; unfold mkA; omega
        | succ n ih =>
          intro l acc
          match l with
          | [] => unfold mkA; simp
          | [x] => unfold mkA; simp
          | x :: y :: l =>
            unfold mkA
            simp only
            refine Nat.le_trans (ih l _) ?_
            simp
            omega
      have := this (l.length + 1) l []
      unfold mkAnds
      simp only [List.length_nil] at this
      omega
    have hgA := s4.sep.grown (i := 1) rfl
    have hAl := hgA.len
    rw [pairsC_len] at hAl
    have s5 : Sep0 AHeap.none h2 [.own 1 C 0 3 [.int .i64 i, .slice sA, .slice .nil], .grown 1 .nil (intsC []), .grown 2 sA (pairsC (mkAnds i l)), .own 1 X 0 3 zero3] := (s4.addNil 1).perm (by
      refine List.Perm.cons _ ?_
      exact List.perm_append_comm (l₁ := [_, _]) (l₂ := [_]))
    obtain ⟨h3, sO, e3, s6⟩ := mkc_loop1 fuel d (X := X) hi ho hAlen (by omega) fuel 0 [] .nil h2 (by omega) (by omega) (by simp) s5
    rw [show ((0 : Nat) : Int) = 0 from rfl] at e3
    rw [e3, Option.bind_some, k_skolemmake_Circuit_1_x2]
    have cC : h3.cellsAt 3 (rdP C) = some [.int .i64 i, .slice sA, .slice sO] := s6.getAll (i := 0) rfl rfl
    obtain ⟨h4, e4, s7⟩ := s6.putAll (i := 3) (vs := [.int .i64 i, .slice sA, .slice sO]) rfl rfl rfl
    have cX : h4.cellsAt 3 (rdP X) = some [.int .i64 i, .slice sA, .slice sO] := s7.getAll (i := 3) rfl rfl
    rw [cC, Option.bind_some, show (!false && Nat.beq (List.length [AVal.int .i64 i, .slice sA, .slice sO]) 3 && List.all [AVal.int .i64 i, .slice sA, .slice sO] AVal.isCell) = true from rfl, cond_true, e4, Option.bind_some, cX]
    refine ⟨_, h4, rfl, ?_⟩
    have gO := s7.sep.grown (i := 1) rfl
    have gA := s7.sep.grown (i := 2) rfl
    have lO := gO.len
    rw [List.length_map, Nat.mul_one] at lO
    refine freeze_agg 7 (mm3 rfl ?_ ?_)
    · rw [gA.freeze (n := 6) (by omega) (freeze_pairs 5 _), show sA.len = (mkAnds i l).length by omega]
    · rw [gO.freeze (n := 6) (by omega) (freeze_intsC 5 _), ← lO]
  obtain ⟨v, h', e1, e2⟩ := key
  exact pure_of rfl rfl (cc3 rfl hu hv) e1 e2
end
end Go.Proofs.YtmjbjgbcpaagmaaDoor

namespace Go.Proofs.YtmjbjgbcpaagmaaDoor
open Go.RowKit

section
variable (fuel d : Nat) (hf : 30 < fuel) {h0 : AHeap} {C b : Nat} {R : List Chunk}
include hf
theorem abytes0 {i : Nat} (hi : i ≤ 10000) : ∀ (n k : Nat) (t : List UInt8) (h : AHeap) (B : List Chunk), i < n + k → k ≤ i → t.length + 30 * (i - k) < 1099511627776 → BldCh b (bytesC t) B → Sep0 h0 h (B ++ R) →
    ∃ h' B', l_aag_Bytes_0 fuel (d + 7) n [(1, .ptr (.mk ⟨C, 0, 0⟩ 3)), (3, .ptr (bPt b)), (14, .int .i64 (i : Int)), (15, .int .i64 (k : Int))] h = some (.exit 0, [(1, .ptr (.mk ⟨C, 0, 0⟩ 3)), (3, .ptr (bPt b))], h') ∧ BldCh b (bytesC (t ++ insTx k (i - k))) B' ∧ Sep0 h0 h' (B' ++ R) := by
  intro n
  induction n with
  | zero => intro k t h B h1 h2; omega
  | succ n ih =>
    intro k t h B h1 h2 ht hB hs
    rw [l_aag_Bytes_0_eq]
    by_cases hk : k < i
    · have hl := lineB_len (l := [2 * ((k : Int) + 1)]) (fun x hx => by rw [List.mem_singleton.1 hx]; exact in64 (by omega) (by omega))
      simp only [List.length_cons, List.length_nil] at hl
      obtain ⟨h', B', e1, q1, s1⟩ := WS_run fuel (d + 6) hB hs (lineB [2 * ((k : Int) + 1)]) (by omega)
      obtain ⟨h'', B'', e2, q2, s2⟩ := ih (k + 1) (t ++ lineB [2 * ((k : Int) + 1)]) h' B' (by omega) (by omega) (by simp; omega) q1 s1
      refine ⟨h'', B'', ?_, ?_, s2⟩
      · rw [bif_pos (by omega), wrap64 (n := (k : Int) + 1) (by omega) (by omega), wrap64 (n := 2 * ((k : Int) + 1)) (by omega) (by omega), aline1 fuel (d + 1) hf _ _ (in64 (by omega) (by omega)), Option.bind_some, str_str, Option.bind_some, e1]
        simp only [Option.bind_some, tup2, cond_true, comp0, comp1, int_int]
        exact e2
      · rw [List.append_assoc] at q2
        rw [show i - k = (i - (k + 1)) + 1 by omega]
        exact q2
    · obtain rfl : k = i := by omega
      rw [bif_neg (by omega)]
      refine ⟨h, B, rfl, ?_, hs⟩
      rw [Nat.sub_self, insTx, List.append_nil]
      exact hB
theorem abytes1 {o : List Int} (ho : o.length ≤ 10000) (hx : ∀ x ∈ o, In64 x) : ∀ (n k : Nat) (t : List UInt8) (h : AHeap) (B : List Chunk), o.length < n + k → k ≤ o.length → t.length + 30 * (o.length - k) < 1099511627776 → BldCh b (bytesC t) B → Sep0 h0 h (B ++ R) →
    ∃ h' B', l_aag_Bytes_1 fuel (d + 7) n [(1, .ptr (.mk ⟨C, 0, 0⟩ 3)), (3, .ptr (bPt b)), (26, .slice (lstI o)), (27, .int .i64 (o.length : Int)), (28, .int .i64 (k : Int))] h = some (.exit 2, [(1, .ptr (.mk ⟨C, 0, 0⟩ 3)), (3, .ptr (bPt b))], h') ∧ BldCh b (bytesC (t ++ outsTx (o.drop k))) B' ∧ Sep0 h0 h' (B' ++ R) := by
  intro n
  induction n with
  | zero => intro k t h B h1 h2; omega
  | succ n ih =>
    intro k t h B h1 h2 ht hB hs
    rw [l_aag_Bytes_1_eq]
    by_cases hk : k < o.length
    · have hd := drop_get hk 0
      have hm : o.getD k 0 ∈ o := by rw [List.getD_eq_getElem?_getD, List.getElem?_eq_getElem hk]; exact List.getElem_mem hk
      have hxk := hx _ hm
      rw [bif_pos (by omega), addr_lstM _ (by omega) (by omega) 0, hd, Int.toNat_natCast]
      generalize o.getD k 0 = x at hxk
      have hl := lineB_len (l := [x]) (fun y hy => by rw [List.mem_singleton.1 hy]; exact hxk)
      simp only [List.length_cons, List.length_nil] at hl
      obtain ⟨h', B', e1, q1, s1⟩ := WS_run fuel (d + 6) hB hs (lineB [x]) (by omega)
      obtain ⟨h'', B'', e2, q2, s2⟩ := ih (k + 1) (t ++ lineB [x]) h' B' (by omega) (by omega) (by simp; omega) q1 s1
      refine ⟨h'', B'', ?_, ?_, s2⟩
      · simp only [Option.bind_some, cell_fp, int_int]
        rw [aline1 fuel (d + 1) hf _ _ hxk, Option.bind_some, str_str, Option.bind_some, e1]
        simp only [Option.bind_some, tup2, cond_true, comp0, comp1, int_int]
        rw [sucU (by omega)]
        exact e2
      · rw [List.append_assoc] at q2
        exact q2
    · obtain rfl : k = o.length := by omega
      rw [bif_neg (by omega)]
      refine ⟨h, B, rfl, ?_, hs⟩
      rw [List.drop_length, show outsTx [] = [] from rfl, List.append_nil]
      exact hB
theorem abytes2 {i : Nat} {A : List (Int × Int)} {o : List Int} (hi : i ≤ 10000) (hA : A.length ≤ 10000) (hx : ∀ p ∈ A, In64 p.1 ∧ In64 p.2) {r : Nat} (hR : R[r]? = some (Chunk.own 1 C 0 3 (circC i A o))) : ∀ (n k : Nat) (t : List UInt8) (h : AHeap) (B : List Chunk), A.length < n + k → k ≤ A.length → t.length + 70 * (A.length - k) < 1099511627776 → BldCh b (bytesC t) B → Sep0 h0 h (B ++ R) →
    ∃ h' B', l_aag_Bytes_2 fuel (d + 7) n [(1, .ptr (.mk ⟨C, 0, 0⟩ 3)), (3, .ptr (bPt b)), (38, .slice (lstP A)), (39, .int .i64 (A.length : Int)), (40, .int .i64 (k : Int))] h = some (.exit 4, [(3, .ptr (bPt b))], h') ∧ BldCh b (bytesC (t ++ andsTx i k (A.drop k))) B' ∧ Sep0 h0 h' (B' ++ R) := by
  intro n
  induction n with
  | zero => intro k t h B h1 h2; omega
  | succ n ih =>
    intro k t h B h1 h2 ht hB hs
    rw [l_aag_Bytes_2_eq]
    by_cases hk : k < A.length
    · have hd := drop_get hk (0, 0)
      have hm : A.getD k (0, 0) ∈ A := by rw [List.getD_eq_getElem?_getD, List.getElem?_eq_getElem hk]; exact List.getElem_mem hk
      have hxk := hx _ hm
      rw [bif_pos (by omega), addr_lstN (sz := 2) (f := fun p : Int × Int => [AVal.int .i64 p.1, .int .i64 p.2]) (fun _ => rfl) (l := A) (j := (k : Int)) (by omega) (by omega) (0, 0), hd, Int.toNat_natCast]
      generalize A.getD k (0, 0) = p at hxk
      have hl := lineB_len (l := [2 * ((i : Int) + k + 1), p.1, p.2]) (fun y hy => by simp at hy; rcases hy with rfl | rfl | rfl <;> first | exact hxk.1 | exact hxk.2 | exact in64 (by omega) (by omega))
      simp only [List.length_cons, List.length_nil] at hl
      have sc := hs.push 1 2 (cs := [(AVal.int .i64 (0 : Int)), (.int .i64 (0 : Int))]) rfl
      obtain ⟨h3, e3, s3⟩ := sc.put (i := (B ++ R).length) (o := 0) (l := 2) (vs := [.int .i64 p.1, .int .i64 p.2]) List.getElem?_concat_length (by simp) (by simp)
      rw [set_last] at s3
      have hq : (B ++ R ++ [Chunk.own 1 h.next 0 2 [AVal.int .i64 p.1, .int .i64 p.2]])[(B ++ R).length]? = some (.own 1 h.next 0 2 [.int .i64 p.1, .int .i64 p.2]) := List.getElem?_concat_length
      have c0 : h3.cell (.mk ⟨h.next, 0, 0⟩ 2) = some (.int .i64 p.1) := s3.part hq (by omega) rfl
      have c1 : h3.cell (.mk ⟨h.next, 0, 1⟩ 2) = some (.int .i64 p.2) := s3.part hq (by omega) rfl
      have hj' : (B ++ R)[B.length + r]? = some (Chunk.own 1 C 0 3 (circC i A o)) := by rw [List.getElem?_append_right (by omega), Nat.add_sub_cancel_left]; exact hR
      have cC : h3.cell (.mk ⟨C, 0, 0 + 0⟩ 3) = some (.int .i64 (i : Int)) := s3.part (i := B.length + r) (by rw [List.getElem?_append_left (List.getElem?_eq_some_iff.1 hj').1]; exact hj') (by omega) rfl
      obtain ⟨h', B', e1, q1, s1⟩ := WS_run fuel (d + 6) hB (by rw [← List.append_assoc]; exact s3) (lineB [2 * ((i : Int) + k + 1), p.1, p.2]) (by omega)
      have s1' : Sep0 h0 h' (B' ++ R) := by rw [← List.append_assoc] at s1; exact s1.init
      obtain ⟨h'', B'', e2, q2, s2⟩ := ih (k + 1) (t ++ lineB [2 * ((i : Int) + k + 1), p.1, p.2]) h' B' (by omega) (by omega) (by simp; omega) q1 s1'
      refine ⟨h'', B'', ?_, ?_, s2⟩
      · rw [Option.bind_some, cellsAt_fp (n := 2) (cs := [AVal.int .i64 p.1, .int .i64 p.2]) rfl, Option.bind_some, show (!false && Nat.beq (List.length [AVal.int .i64 p.1, .int .i64 p.2]) 2 && List.all [AVal.int .i64 p.1, .int .i64 p.2] AVal.isCell) = true from rfl, cond_true, e3]
        simp only [Option.bind_some, field_mk, cC, int_int]
        rw [show Pt.elem 1 2 (0 : Int) (.mk ⟨h.next, 0, 0⟩ 2) = some (.mk ⟨h.next, 0, 0⟩ 2) from rfl, show Pt.elem 1 2 (1 : Int) (.mk ⟨h.next, 0, 0⟩ 2) = some (.mk ⟨h.next, 0, 1⟩ 2) from rfl]
        simp only [Option.bind_some, c0, c1, int_int]
        rw [wrap64 (n := (i : Int) + (k : Int)) (by omega) (by omega), wrap64 (n := (i : Int) + (k : Int) + 1) (by omega) (by omega), wrap64 (n := 2 * ((i : Int) + (k : Int) + 1)) (by omega) (by omega), aline3 fuel (d + 1) hf _ _ (in64 (by omega) (by omega)) hxk.1 hxk.2, Option.bind_some, str_str, Option.bind_some, e1]
        simp only [Option.bind_some, tup2, cond_true, comp0, comp1, int_int]
        rw [sucU (by omega)]
        exact e2
      · rw [List.append_assoc] at q2
        exact q2
    · obtain rfl : k = A.length := by omega
      rw [bif_neg (by omega)]
      refine ⟨h, B, rfl, ?_, hs⟩
      rw [List.drop_length, andsTx, List.append_nil]
      exact hB
end
theorem abytes_body (fuel d : Nat) (hf : 20000 < fuel) {i : Nat} {A : List (Int × Int)} {o : List Int} (hc : CiOk i A o) : ∃ v h', brun fuel (d + 8) F_aag_Bytes [.agg (circC i A o)] AHeap.none = some (v, h') ∧ freezeV h' 8 v = some (.slice (lstU (aagTx i A o))) := by
    obtain ⟨hi, hA, ho, hxA, hxo⟩ := hc
    have s1 := ((Sep0.start AHeap.none).push 1 3 (cs := circC i A o) rfl).newBld
    have cc : (AHeap.pushT (AHeap.none.push 1 (circC i A o)) (BT, 2) 1 [(.ptr Pt.nil), (.slice Sl.nil)]).cellsAt 3 (.mk ⟨AHeap.none.next, 0, 0⟩ 3) = some (circC i A o) := s1.getAll (i := 1) rfl rfl
    rw [e_aag_Bytes, show List.all (circC i A o) AVal.isCell = true from rfl, cond_true, show (circC i A o).length = 3 from rfl, cc, Option.bind_some, show (⟨#[97, 97, 103]⟩ : ByteArray) = tx [97, 97, 103] from rfl, ahead_run fuel d (by omega) hi hA ho [97, 97, 103] (by simp)]
    simp only [Option.bind_some, str_str]
    have hl := lineB_len (l := headL i A o) (fun x hx => by simp [headL] at hx; rcases hx with rfl | rfl | rfl | rfl | rfl <;> exact in64 (by omega) (by omega))
    simp only [show (headL i A o).length = 5 from rfl] at hl
    have hB0 : BldCh (AHeap.none.push 1 (circC i A o)).next (bytesC []) [.exact (AHeap.none.push 1 (circC i A o)).next (bObj .nil .nil)] := .fresh (.inl rfl)
    generalize AHeap.pushT (AHeap.none.push 1 (circC i A o)) (BT, 2) 1 [(.ptr Pt.nil), (.slice Sl.nil)] = H at s1
    generalize (AHeap.none.push 1 (circC i A o)).next = b at s1 hB0
    generalize AHeap.none.next = C at s1
    obtain ⟨h2, B2, e2, q2, s2⟩ := WS_run fuel (d + 6) hB0 s1 ([97, 97, 103] ++ 32 :: lineB (headL i A o)) (by simp; omega)
    have hj2 : ∀ B : List Chunk, (B ++ [Chunk.own 1 C 0 3 (circC i A o)])[B.length]? = some (.own 1 C 0 3 (circC i A o)) := fun B => List.getElem?_concat_length
    have c2 : h2.cell (.mk ⟨C, 0, 0 + 0⟩ 3) = some (.int .i64 (i : Int)) := s2.part (hj2 B2) (by omega) rfl
    rw [e2]
    simp only [Option.bind_some, tup2, cond_true, comp0, comp1, int_int, field_mk, c2]
    rw [bif_neg (show ¬ (i : Int) < 0 by omega)]
    obtain ⟨h3, B3, e3, q3, s3⟩ := abytes0 fuel d (by omega) (C := C) hi fuel 0 _ h2 B2 (by omega) (by omega) (by simp; omega) q2 s2
    have c3 : h3.cell (.mk ⟨C, 0, 0 + 2⟩ 3) = some (.slice (lstI o)) := s3.part (hj2 B3) (by omega) rfl
    rw [show ((0 : Nat) : Int) = 0 from rfl] at e3
    rw [e3]
    simp only [Option.bind_some, k_aag_Bytes_0_x0, field_mk, c3, slice_slice]
    have hT : ∀ n k, k + n ≤ 10000 → (insTx k n).length ≤ 30 * n := by
      intro n
      induction n with
      | zero => intro k _; simp [insTx]
      | succ n ih =>
        intro k hk
        have h1 := ih (k + 1) (by omega)
        have h2 := lineB_len (l := [2 * ((k : Int) + 1)]) (fun x hx => by rw [List.mem_singleton.1 hx]; exact in64 (by omega) (by omega))
        simp only [insTx, List.length_append, List.length_cons, List.length_nil] at h2 ⊢
        omega
    have hT0 := hT (i - 0) 0 (by omega)
    obtain ⟨h4, B4, e4, q4, s4⟩ := abytes1 fuel d (by omega) (C := C) ho hxo fuel 0 _ h3 B3 (by omega) (by omega) (by simp at hT0 ⊢; omega) q3 s3
    have c4 : h4.cell (.mk ⟨C, 0, 0 + 1⟩ 3) = some (.slice (lstP A)) := s4.part (hj2 B4) (by omega) rfl
    rw [show ((0 : Nat) : Int) = 0 from rfl] at e4
    rw [len_lst, e4]
    simp only [Option.bind_some, k_aag_Bytes_1_x2, field_mk, c4, slice_slice]
    have hT1 : ∀ l : List Int, (∀ x ∈ l, In64 x) → (outsTx l).length ≤ 30 * l.length := by
      intro l
      induction l with
      | nil => intro _; simp [outsTx]
      | cons x l ih =>
        intro hx
        have h1 := ih fun y hy => hx y (List.mem_cons_of_mem _ hy)
        have h2 := lineB_len (l := [x]) (fun y hy => by rw [List.mem_singleton.1 hy]; exact hx x List.mem_cons_self)
        simp only [outsTx, List.flatMap_cons, List.length_append, List.length_cons, List.length_nil] at h1 h2 ⊢
        omega
    have hT2 := hT1 o hxo
    obtain ⟨h5, B5, e5, q5, s5⟩ := abytes2 fuel d (by omega) (C := C) (o := o) hi hA hxA (r := 0) rfl fuel 0 _ h4 B4 (by omega) (by omega) (by simp at hT0 hT2 ⊢; omega) q4 s4
    rw [show ((0 : Nat) : Int) = 0 from rfl] at e5
    rw [len_lst, e5]
    simp only [Option.bind_some, k_aag_Bytes_2_x4]
    have ht : [] ++ ([97, 97, 103] ++ 32 :: lineB (headL i A o)) ++ insTx 0 (i - 0) ++ outsTx (o.drop 0) ++ andsTx i 0 (A.drop 0) = aagTx i A o := by simp [aagTx]
    rw [ht] at q5
    have hT3 : ∀ (l : List (Int × Int)) (k : Nat), k + l.length ≤ 10000 → (∀ p ∈ l, In64 p.1 ∧ In64 p.2) → (andsTx i k l).length ≤ 70 * l.length := by
      intro l
      induction l with
      | nil => intro k _ _; simp [andsTx]
      | cons p l ih =>
        intro k hk hx
        simp only [List.length_cons] at hk
        have h1 := ih (k + 1) (by omega) fun y hy => hx y (List.mem_cons_of_mem _ hy)
        have hxk := hx p List.mem_cons_self
        have h2 := lineB_len (l := [2 * ((i : Int) + k + 1), p.1, p.2]) (fun y hy => by simp at hy; rcases hy with rfl | rfl | rfl <;> first | exact hxk.1 | exact hxk.2 | exact in64 (by omega) (by omega))
        simp only [andsTx, List.length_append, List.length_cons, List.length_nil] at h2 ⊢
        omega
    have hT4 := hT3 A 0 (by omega) hxA
    have hlen : (aagTx i A o).length ≤ 10000000 := by
      simp only [aagTx, List.length_append, List.length_cons, List.length_nil]
      simp at hT0
      omega
    obtain ⟨h6, e6, s6⟩ := BString_run fuel (d + 7) (s := tx (aagTx i A o)) (by rw [bytesOf_tx]; exact q5) s5 (by rw [tx_size]; omega)
    rw [e6]
    simp only [Option.bind_some, str_str]
    have s7 := s6.push 1 (aagTx i A o).length (cs := bytesOf (tx (aagTx i A o))) (by rw [bytesOf_tx]; simp)
    refine ⟨_, _, rfl, ?_⟩
    have hne : (aagTx i A o).length ≠ 0 := by simp [aagTx]
    have s8 := (s7.toGrown false hne)
    have hg := s8.sep.grown (i := 1) rfl
    have hz : (tx (aagTx i A o)).size = (aagTx i A o).length := tx_size _
    rw [bytesOf_tx] at hg
    rw [bytesOf_tx, hz, hg.freeze (n := 7) (by simp [hne]) (mapM_freeze (g := fun b : UInt8 => AVal.int .u8 (b.toNat : Int)) (fun _ => rfl) _)]
    rfl
theorem abytes_run (fuel d : Nat) (hf : 20000 < fuel) {i : Nat} {A : List (Int × Int)} {o : List Int} (hc : CiOk i A o) (h : AHeap) : run fuel (d + 8) F_aag_Bytes [.agg (circC i A o)] h = some (.slice (lstU (aagTx i A o)), h) := by
  obtain ⟨v, h', e1, e2⟩ := abytes_body fuel d hf hc
  exact pure_of rfl rfl (cc1 (canon_circ _ _ _)) e1 e2
theorem canon_circ0 (i : Int) : canonV 8 (.agg [.int .i64 i, .slice .nil, .slice .nil]) = some (.agg (circC i [] [])) := rfl
theorem abytes_nil (fuel d : Nat) (hf : 20000 < fuel) (h : AHeap) : run fuel (d + 8) F_aag_Bytes [.agg [.int .i64 0, .slice .nil, .slice .nil]] h = some (.slice (lstU (aagTx 0 [] [])), h) := by
  obtain ⟨v, h', e1, e2⟩ := abytes_body fuel d hf (i := 0) (A := []) (o := []) ⟨by omega, by simp, by simp, by simp, by simp⟩
  exact pure_of rfl rfl (cc1 (canon_circ0 0)) e1 e2
end Go.Proofs.YtmjbjgbcpaagmaaDoor

namespace Go.Proofs.YtmjbjgbcpaagmaaDoor
open Go.RowKit

theorem readC_nil : readC [] = .error (101, 0) := rfl
theorem aagTx_nil : aagTx 0 [] [] = [97, 97, 103, 32, 48, 32, 48, 32, 48, 32, 48, 32, 48, 10] := by decide
theorem first11_run (fuel : Nat) {e : Nat} (he : 12 ≤ e) (hf : 20000 < fuel) (h : AHeap) : run fuel e F_skolemlaw11_first [] h = some (.bool true, h) := by
  obtain ⟨d, rfl⟩ : ∃ d, e = d + 12 := ⟨e - 12, by omega⟩
  refine pure_ex rfl rfl canonL_nil (r := .bool true) ?_ (fun _ => rfl)
  rw [e_skolemlaw11_first, aread_nil fuel (d + 2) hf, readC_nil, show ciA (.error (101, 0)) = .tup [.agg (circC 0 [] []), atV 0 err_api_ErrText] from rfl]
  simp only [Option.bind_some, tup2, cond_true, comp0, comp1, agg_agg]
  rw [cond_pos _ _ (okCi 0 [] [])]
  have s1 := ((Sep0.start AHeap.none).push 1 3 (cs := zero3) rfl).cons
  obtain ⟨h5, e5, _⟩ := ret_put s1 rfl (vs := circC 0 [] []) rfl
  rw [e5]
  simp only [Option.bind_some]
  rw [Placed_run fuel (d + 10) (show (101 : Int) ≠ 0 by omega)]
  simp only [Option.bind_some, agg_agg]
  rw [Same_run fuel (d + 7) (e := atV 0 err_api_ErrText) (c := 101) (p := true) (x := 0) (IsFault.at (j := 0) (by omega) 0) (by omega) 101 true 0]
  simp only [Option.bind_some, bool_bool, decide_true, Bool.true_and, beq_self_eq_true, cond_true]
  rw [abytes_nil fuel (d + 3) hf]
  simp only [Option.bind_some, slice_slice]
  rw [cells_lstM, Option.bind_some, bytesFrom_bytesC, Option.bind_some, aagTx_nil]
  exact ⟨_, rfl⟩
end Go.Proofs.YtmjbjgbcpaagmaaDoor

namespace Go.Proofs.YtmjbjgbcpaagmaaDoor
open Go.RowKit

theorem keep0S {h h' : AHeap} (hk : Keeps h h' fun _ => False) {s : Sl} {sz : Nat} {cs : List AVal} (hs : h.sliceCells sz s = some cs) : h'.sliceCells sz s = some cs := sliceCells_keep hk hs fun _ _ _ h => h
theorem takeU {b : List UInt8} {m : Nat} (h : m < b.length) : b.take (m + 1) = b.take m ++ [b.getD m 0] := by
  rw [List.take_succ_eq_append_getElem h, List.getD_eq_getElem?_getD, List.getElem?_eq_getElem h, Option.getD_some]
theorem readU8 {h : AHeap} {t : Sl} {a : List UInt8} (hs : h.sliceCells 1 t = some (bytesC a)) {k : Nat} (hk : k < a.length) : h.addr 1 t (k : Int) = some (t.at 1 (k : Int)) ∧ h.cell (t.at 1 (k : Int)) = some (.int .u8 ((a.getD k 0).toNat : Int)) := by
  have hl := sliceCells_len hs
  simp only [List.length_map, Nat.mul_one] at hl
  refine ⟨addr_at hs (by omega) (by omega), cell_at hs (by omega) ?_⟩
  rw [Int.toNat_natCast, List.getElem?_map, List.getElem?_eq_getElem hk, List.getD_eq_getElem?_getD, List.getElem?_eq_getElem hk]; rfl
theorem byr_loop (fuel d : Nat) {a : List UInt8} {t : Sl} (hn : a.length < 1000000000) (ht : t.len = a.length) {h0 : AHeap} (hs0 : h0.sliceCells 1 t = some (bytesC a)) : ∀ (n k : Nat) (s : Sl) (h : AHeap), a.length < n + k → k ≤ a.length → Sep0 h0 h [.grown 1 s (bytesC (a.take k))] →
    ∃ s' h', l_skolemref_Bytes_0 fuel d n [(0, .slice t), (3, .slice s), (4, .int .i64 (k : Int))] h = some (.exit 0, [(3, .slice s')], h') ∧ Sep0 h0 h' [.grown 1 s' (bytesC a)] := by
  intro n
  induction n with
  | zero => intro k s h h1 h2; omega
  | succ n ih =>
    intro k s h h1 h2 hg
    have hl := hg.len (i := 0) rfl
    simp only [List.length_map, List.length_take, Nat.mul_one] at hl
    rw [l_skolemref_Bytes_0_eq, ht]
    by_cases hk : k < a.length
    · have hr := readU8 (keep0S hg.ext hs0) hk
      rw [bif_pos (by omega), hr.1, Option.bind_some, hr.2]
      simp only [Option.bind_some, int_int]
      obtain ⟨s', h', e1, e2, e3⟩ := hg.grow (i := 0) (bytes := 1) (m := 1) (vs := [.int .u8 ((a.getD k 0).toNat : Int)]) rfl rfl (by omega) (by omega)
      rw [e1]
      simp only [Option.bind_some]
      rw [sucU (by omega)]
      refine ih (k + 1) s' h' (by omega) (by omega) ?_
      rw [takeU hk]
      simpa using e2
    · have : k = a.length := by omega
      subst this
      rw [bif_neg (by omega)]
      rw [List.take_length] at hg
      exact ⟨s, h, rfl, hg⟩
theorem byr_run (fuel d : Nat) {a : List UInt8} {t : Sl} {h : AHeap} (hs : h.sliceCells 1 t = some (bytesC a)) (hn : a.length < 1000000000) (hf : a.length < fuel) :
    ∃ s' h', run fuel (d + 1) F_skolemref_Bytes [.slice t] h = some (.slice s', h') ∧ New h h' (.grown 1 s' (bytesC a)) := by
  have ht : t.len = a.length := by have := sliceCells_len hs; simp at this; omega
  have s0 := (Sep0.start h).addMake 1 (eqI (0 : Int) ((a.length : Nat) : Int))
  obtain ⟨s', h', e1, e2⟩ := byr_loop fuel d hn ht hs fuel 0 _ _ (by omega) (by omega) s0
  refine ⟨s', h', ?_, e2.get (i := 0) rfl⟩
  rw [e_skolemref_Bytes, ht, cond_pos _ _ (by simp; omega)]
  rw [show ((0 : Nat) : Int) = 0 from rfl] at e1
  rw [e1]
  simp only [Option.bind_some, k_skolemref_Bytes_0_x0]
end Go.Proofs.YtmjbjgbcpaagmaaDoor

namespace Go.Proofs.YtmjbjgbcpaagmaaDoor
open Go.RowKit

structure Still (h h' : AHeap) : Prop where
  at_ : ∀ (n : Nat) (p : Pt) (cs : List AVal), h.cellsAt n p = some cs → h'.cellsAt n p = some cs
  cell : ∀ (p : Pt) (v : AVal), h.cell p = some v → h'.cell p = some v
  cells : ∀ (sz : Nat) (s : Sl) (cs : List AVal), h.sliceCells sz s = some cs → h'.sliceCells sz s = some cs
theorem Still.refl (h : AHeap) : Still h h := ⟨fun _ _ _ h => h, fun _ _ h => h, fun _ _ _ h => h⟩
theorem Still.trans {a b c : AHeap} (h : Still a b) (k : Still b c) : Still a c := ⟨fun n p cs q => k.1 n p cs (h.1 n p cs q), fun p v q => k.2 p v (h.2 p v q), fun sz s cs q => k.3 sz s cs (h.3 sz s cs q)⟩
theorem Still.ext {h h' : AHeap} (hk : Keeps h h' fun _ => False) : Still h h' :=
  ⟨fun n p cs q => by
    cases p with
    | nil => exact q
    | fp => exact q
    | mk r l => exact cellsAt_keep hk (fun h => h) q,
   fun p v q => by
    cases p with
    | nil => exact q
    | fp => exact q
    | mk r l => exact cell_keep hk (fun h => h) q,
   fun sz s cs q => sliceCells_ext hk q⟩
theorem Still.mark (h : AHeap) (ids : List Nat) : Still h (h.markRo ids) := ⟨fun n p cs q => by rw [cellsAt_mark]; exact q, fun p v q => by rw [cell_mark]; exact q, fun sz s cs q => by rw [sliceCells_mark]; exact q⟩
theorem Sep0.still {h0 h : AHeap} {L : List Chunk} (hs : Sep0 h0 h L) : Still h0 h := Still.ext hs.ext
end Go.Proofs.YtmjbjgbcpaagmaaDoor

namespace Go.Proofs.YtmjbjgbcpaagmaaDoor
open Go.RowKit

/-- a number is put behind as its text -/
def AppOk (fuel d : Nat) (x : Int) : Prop := ∀ (h0 h : AHeap) (s : Sl) (t : List UInt8), t.length < 900000000 → Sep0 h0 h [.grown 1 s (bytesC t)] →
  ∃ s' h', run fuel d F_strconv_AppendInt [.slice s, .int .i64 x, .int .i64 10] h = some (.slice s', h') ∧ Sep0 h0 h' [.grown 1 s' (bytesC (t ++ decT x))] ∧ (decT x).length ≤ 20
end Go.Proofs.YtmjbjgbcpaagmaaDoor

namespace Go.Proofs.YtmjbjgbcpaagmaaDoor
open Go.RowKit

/-! Itoa -/
end Go.Proofs.YtmjbjgbcpaagmaaDoor

namespace Go.Proofs.YtmjbjgbcpaagmaaDoor
open Go.RowKit

section
variable (fuel d : Nat) (hf : 30 < fuel) {h0 : AHeap}
include hf
end

section
variable (fuel d : Nat) (hf : 20000 < fuel) {h0 : AHeap} {C : Nat} {i : Nat} {A : List (Int × Int)} {o : List Int} (hc : CiOk i A o)
include hf hc
end
end Go.Proofs.YtmjbjgbcpaagmaaDoor

namespace Go.Proofs.YtmjbjgbcpaagmaaDoor
open Go.RowKit

theorem aagTx_len {i : Nat} {A : List (Int × Int)} {o : List Int} (hc : CiOk i A o) : (aagTx i A o).length ≤ 110 + 30 * i + 30 * o.length + 70 * A.length := by
  obtain ⟨hi, hA, ho, hxA, hxo⟩ := hc
  have hl := lineB_len (l := headL i A o) (fun x hx => by simp [headL] at hx; rcases hx with rfl | rfl | rfl | rfl | rfl <;> exact in64 (by omega) (by omega))
  simp only [show (headL i A o).length = 5 from rfl] at hl
  have hT : ∀ n k, k + n ≤ 10000 → (insTx k n).length ≤ 30 * n := by
    intro n
    induction n with
    | zero => intro k _; simp [insTx]
    | succ n ih =>
      intro k hk
      have h1 := ih (k + 1) (by omega)
      have h2 := lineB_len (l := [2 * ((k : Int) + 1)]) (fun x hx => by rw [List.mem_singleton.1 hx]; exact in64 (by omega) (by omega))
      simp only [insTx, List.length_append, List.length_cons, List.length_nil] at h2 ⊢
      omega
  have hT1 : ∀ l : List Int, (∀ x ∈ l, In64 x) → (outsTx l).length ≤ 30 * l.length := by
    intro l
    induction l with
    | nil => intro _; simp [outsTx]
    | cons x l ih =>
      intro hx
      have h1 := ih fun y hy => hx y (List.mem_cons_of_mem _ hy)
      have h2 := lineB_len (l := [x]) (fun y hy => by rw [List.mem_singleton.1 hy]; exact hx x List.mem_cons_self)
      simp only [outsTx, List.flatMap_cons, List.length_append, List.length_cons, List.length_nil] at h1 h2 ⊢
      omega
  have hT3 : ∀ (l : List (Int × Int)) (k : Nat), k + l.length ≤ 10000 → (∀ p ∈ l, In64 p.1 ∧ In64 p.2) → (andsTx i k l).length ≤ 70 * l.length := by
    intro l
    induction l with
    | nil => intro k _ _; simp [andsTx]
    | cons p l ih =>
      intro k hk hx
      simp only [List.length_cons] at hk
      have h1 := ih (k + 1) (by omega) fun y hy => hx y (List.mem_cons_of_mem _ hy)
      have hxk := hx p List.mem_cons_self
      have h2 := lineB_len (l := [2 * ((i : Int) + k + 1), p.1, p.2]) (fun y hy => by simp at hy; rcases hy with rfl | rfl | rfl <;> first | exact hxk.1 | exact hxk.2 | exact in64 (by omega) (by omega))
      simp only [andsTx, List.length_append, List.length_cons, List.length_nil] at h2 ⊢
      omega
  have a1 := hT i 0 (by omega)
  have a2 := hT1 o hxo
  have a3 := hT3 A 0 (by omega) hxA
  simp only [aagTx, List.length_append, List.length_cons, List.length_nil]
  omega
theorem Grown.freezeU {h : AHeap} {s : Sl} {t : List UInt8} (hg : Grown h 1 s (bytesC t)) (n : Nat) : freezeV h (n + 2) (.slice s) = some (.slice (lstU t)) := by
  have hl := hg.len
  rw [List.length_map, Nat.mul_one] at hl
  rw [hg.freeze (n := n + 1) (by omega) (mapM_freeze (g := fun b : UInt8 => AVal.int .u8 (b.toNat : Int)) (fun _ => rfl) _), ← hl]
end Go.Proofs.YtmjbjgbcpaagmaaDoor

namespace Go.Proofs.YtmjbjgbcpaagmaaDoor
open Go.RowKit

theorem grow_row {h0 h : AHeap} {L : List Chunk} {s : Sl} {T u : List UInt8} {j : Nat} (hs : Sep0 h0 h L) (hj : L[j]? = some (.grown 1 s (bytesC T))) (hT : T.length + u.length < 1000000000) {m : Nat} (hm : m = u.length) :
    ∃ s' h', AHeap.append h false 1 1 s m (bytesC u) = some (s', h') ∧ Sep0 h0 h' (L.set j (.grown 1 s' (bytesC (T ++ u)))) := by
  subst hm
  have hl := hs.len hj
  simp only [List.length_map, Nat.mul_one] at hl
  obtain ⟨s', h', e1, s1, _⟩ := hs.grow (bytes := 1) (m := u.length) (vs := bytesC u) hj (by simp) (by omega) (by omega)
  rw [← bytesC_app] at s1
  exact ⟨s', h', e1, s1⟩
theorem ownAt_push (h : AHeap) (cs : List AVal) : (h.push 1 cs).ownAt h.next = true := by
  unfold AHeap.ownAt AHeap.push AHeap.next
  simp
theorem ciR_lens {i : Nat} {A : List (Int × Int)} {O : List Int} (h : CiR i A O) : A.length ≤ 8000 ∧ O.length ≤ 8000 := ⟨by have := h.hn; omega, h.hO⟩
theorem readC_seven {i : Nat} {A : List (Int × Int)} {O : List Int} (h : CiR i A O) : readC (aagTx i A O ++ [55, 10]) = .error (101, ((aagTx i A O).length : Int)) := by
  rw [readC_text h, show ([55, 10] : List UInt8) = [55] ++ 10 :: [] from rfl, N_word (by simp) (by decide) (Stops.nl _)]
  rfl
theorem readC_x1 (i : Nat) (A : List (Int × Int)) (O : List Int) : readC ([32, 120, 32] ++ aagTx i A O) = .error (101, 1) := by
  unfold readC
  rw [splitOf_wordsN, show ([32, 120, 32] ++ aagTx i A O : List UInt8) = 32 :: ([120] ++ 32 :: aagTx i A O) from rfl, N_sp, N_word (by simp) (by decide) (Stops.sp _), headA_ne rfl]
  rfl
theorem readC_x0 (i : Nat) (A : List (Int × Int)) (O : List Int) : readC ([120] ++ aagTx i A O) = .error (101, 0) := by
  unfold readC
  rw [splitOf_wordsN, show ([120] ++ aagTx i A O : List UInt8) = [120, 97, 97, 103] ++ 32 :: (lineB (headL i A O) ++ insTx 0 i ++ outsTx O ++ andsTx i 0 A) by simp [aagTx], N_word (by simp) (by decide) (Stops.sp _), headA_ne rfl]
  rfl
theorem mkO_two {n : Int} (hn : 1 ≤ n) (h9 : n < 1000000) : mkO n [2] = [2] := by
  unfold mkO numI
  rw [List.map_cons, List.map_nil, Int.tmod_eq_of_lt (by omega) (by omega), decide_eq_false (by omega)]
  rfl
theorem aagTurned_run (F d : Nat) (hF : 2 ^ 21 ≤ F) (i : Int) (l : List Int) (k : Int) (hk : -9223372036854775808 ≤ k ∧ k ≤ 9223372036854775807) (h : AHeap) : ∃ h', run F (d + 60) F_skolemlaw11_AagTurned [.int .i64 i, .slice (lstI l), .int .i64 k] h = some (.bool true, h') := by
  rw [e_skolemlaw11_AagTurned, first11_run F (by omega) (by omega)]
  simp only [Option.bind_some, bool_bool, Bool.not_true, cond_false]
  rw [len_lst]
  by_cases hg : 40 < l.length ∨ i < 1 ∨ 9 < i
  · rw [cond_pos _ _ (by
      rcases hg with hg | hg | hg
      · rw [decide_eq_true (show (40 : Int) < (l.length : Int) by omega)]; simp
      · rw [decide_eq_true hg]; simp
      · rw [decide_eq_true hg]; simp)]
    exact ⟨h, rfl⟩
  rw [cond_neg _ _ (by
    rw [decide_eq_false (show ¬ (40 : Int) < (l.length : Int) by omega), decide_eq_false (show ¬ i < 1 by omega), decide_eq_false (show ¬ 9 < i by omega)]
    rfl)]
  obtain ⟨I, rfl⟩ := Int.eq_ofNat_of_zero_le (show 0 ≤ i by omega)
  have hR := mk_right (i := I) (l := l) (o := [2]) (by omega) (by simp)
  have hM := mkc_run F (d + 57) (i := (I : Int)) (l := l) (o := [2]) (by omega) (by omega) (by omega) (by simp) (canon_lstI 7 l) (canon_lstM (fun _ => rfl) 7 1 true [2]) h
  rw [show Sl.lst 1 true [(AVal.int .i64 (2 : Int))] = .lst 1 true (List.map (AVal.int .i64) [2]) from rfl, hM]
  have hmo : mkO ((I : Int) + (mkAnds I l).length) [2] = [2] := by
    have := hR.hn
    exact mkO_two (by omega) (by omega)
  rw [hmo] at hR ⊢
  generalize mkAnds (I : Int) l = A at hR
  obtain ⟨hA8, hO8⟩ := ciR_lens hR
  have hn := hR.hn
  have hlen := aagTx_len hR.ok
  have hne : 5 ≤ (aagTx I A [2]).length := by
    have : 0 < (lineB (headL I A [2])).length := by rw [lineB_rest]; simp
    simp [aagTx]; omega
  simp only [Option.bind_some, agg_agg]
  rw [cond_pos _ _ (okCi I A [2])]
  have s1 := (Sep0.start h).push 1 3 (cs := zero3) rfl
  obtain ⟨h5, e5, s5⟩ := s1.putAll (i := 0) (vs := circC I A [2]) rfl rfl rfl
  have c5 : h5.cellsAt 3 (.mk ⟨h.next, 0, 0⟩ 3) = some (circC I A [2]) := s5.getAll (i := 0) rfl rfl
  rw [e5, Option.bind_some, c5, Option.bind_some, abytes_run F (d + 51) (by omega) hR.ok]
  have h7 := readC_seven hR
  have hx1 := readC_x1 I A [2]
  have hx0 := readC_x0 I A [2]
  have hcut := @readC_cut I A hR
  generalize aagTx I A [2] = T at hlen hne h7 hx1 hx0 hcut
  simp only [Option.bind_some, slice_slice]
  rw [len_lst, bif_neg (by omega)]
  obtain ⟨s10, h9, e9, n9⟩ := byr_run F (d + 58) (a := T) (t := lstU T) (h := h5) (cells_lstM _ T false) (by omega) (by omega)
  rw [e9]
  simp only [Option.bind_some, slice_slice]
  obtain ⟨s11, h11, e11, s11'⟩ := grow_row (s5.add n9) (j := 1) (u := [55, 10]) rfl (by simp; omega) (m := 2) rfl
  rw [show ByteArray.size (⟨#[55, 10]⟩ : ByteArray) = 2 from rfl, show bytesOf (⟨#[55, 10]⟩ : ByteArray) = bytesC [55, 10] from rfl, e11]
  simp only [Option.bind_some]
  obtain ⟨ids, e12⟩ := aread_any F (d + 50) (b := T ++ [55, 10]) (by simp; omega) (by simp; omega) (h := h11) (s := s11) ((s11'.sep.grown (i := 1) rfl).freezeU 6)
  rw [e12, h7]
  simp only [ciA, Option.bind_some, tup2, cond_true, comp0, comp1, agg_agg]
  rw [cond_pos _ _ (okCi 0 [] [])]
  have k1 : h11.cellsAt 3 (.mk ⟨h.next, 0, 0⟩ 3) = some (circC I A [2]) := s11'.getAll (i := 0) rfl rfl
  obtain ⟨h16, e16, s16⟩ := ((Sep0.start (h11.markRo ids)).push 1 3 (cs := zero3) rfl).putAll (i := 0) (vs := circC 0 [] []) rfl rfl rfl
  have st1 : Still h11 h16 := (Still.mark h11 ids).trans s16.still
  rw [e16, Option.bind_some, ownAt_push, cond_true]
  rw [show [(AVal.int .u8 (32 : Int)), (.int .u8 (120 : Int)), (.int .u8 (32 : Int))] = bytesC [32, 120, 32] from rfl, cells_lstM, Option.bind_some]
  have s17 := ((Sep0.start h16).push 1 3 (cs := bytesC [32, 120, 32]) rfl).toGrown (L := []) true (by omega)
  obtain ⟨s18, h18, e18, s18'⟩ := grow_row s17 (j := 0) (u := T) rfl (by simp; omega) rfl
  rw [show List.map (fun b : UInt8 => AVal.int .u8 (b.toNat : Int)) T = bytesC T from rfl, e18]
  simp only [Option.bind_some]
  obtain ⟨ids2, e19⟩ := aread_any F (d + 50) (b := [32, 120, 32] ++ T) (by simp; omega) (by simp; omega) (h := h18) (s := s18) ((s18'.sep.grown (i := 0) rfl).freezeU 6)
  rw [e19, hx1]
  simp only [ciA, Option.bind_some, tup2, cond_true, comp0, comp1, agg_agg]
  rw [cond_pos _ _ (okCi 0 [] [])]
  obtain ⟨h23, e23, s23⟩ := ((Sep0.start (h18.markRo ids2)).push 1 3 (cs := zero3) rfl).putAll (i := 0) (vs := circC 0 [] []) rfl rfl rfl
  have st2 : Still h11 h23 := (st1.trans s18'.still).trans ((Still.mark h18 ids2).trans s23.still)
  rw [e23, Option.bind_some, ownAt_push, cond_true]
  rw [show [(AVal.int .u8 (120 : Int))] = bytesC [120] from rfl, cells_lstM, Option.bind_some]
  have s24 := ((Sep0.start h23).push 1 1 (cs := bytesC [120]) rfl).toGrown (L := []) true (by omega)
  obtain ⟨s25, h25, e25, s25'⟩ := grow_row s24 (j := 0) (u := T) rfl (by simp; omega) rfl
  rw [show List.map (fun b : UInt8 => AVal.int .u8 (b.toNat : Int)) T = bytesC T from rfl, e25]
  simp only [Option.bind_some]
  obtain ⟨ids3, e26⟩ := aread_any F (d + 50) (b := [120] ++ T) (by simp; omega) (by simp; omega) (h := h25) (s := s25) ((s25'.sep.grown (i := 0) rfl).freezeU 6)
  rw [e26, hx0]
  simp only [ciA, Option.bind_some, tup2, cond_true, comp0, comp1, agg_agg]
  rw [cond_pos _ _ (okCi 0 [] [])]
  obtain ⟨h30, e30, s30⟩ := ((Sep0.start (h25.markRo ids3)).push 1 3 (cs := zero3) rfl).putAll (i := 0) (vs := circC 0 [] []) rfl rfl rfl
  have st3 : Still h11 h30 := (st2.trans s25'.still).trans ((Still.mark h25 ids3).trans s30.still)
  have k30 := st3.at_ _ _ _ k1
  rw [e30, Option.bind_some]
  have hfa : IsFault (atV (T.length : Int) (errC 101)) 101 true (T.length : Int) := IsFault.at (j := 0) (by omega) _
  have hf1 : IsFault (atV 1 (errC 101)) 101 true 1 := IsFault.at (j := 0) (by omega) _
  have hf0 : IsFault (atV 0 (errC 101)) 101 true 0 := IsFault.at (j := 0) (by omega) _
  have tail : ∀ (x : Int), 0 ≤ x → ∃ h', k_skolemlaw11_AagTurned_0 F (d + 59) .normal [(2, .int .i64 x), (7, .bool true), (8, .ptr (.mk ⟨h.next, 0, 0⟩ 3)), (9, .slice (lstU T)), (11, atV (T.length : Int) (errC 101)), (13, atV 1 (errC 101)), (15, atV 0 (errC 101))] h30 = some (.bool true, h') := by
    intro x hx
    have hw : IntKind.wrap .i64 (((T.length : Nat) : Int) - 1) = ((T.length - 1 : Nat) : Int) := by rw [wrap64 (by omega) (by omega)]; omega
    obtain ⟨j, hj⟩ : ∃ j : Nat, Int.tmod x ((T.length - 1 : Nat) : Int) = (j : Int) := ⟨(Int.tmod x ((T.length - 1 : Nat) : Int)).toNat, by have := Int.tmod_nonneg ((T.length - 1 : Nat) : Int) hx; omega⟩
    have hjl : j + 2 ≤ T.length := by
      have := Int.tmod_lt_of_pos x (show (0 : Int) < ((T.length - 1 : Nat) : Int) by omega)
      omega
    have hne := hcut hjl
    rw [k_skolemlaw11_AagTurned_0_n, len_lst, hw, bif_neg (by omega), hj, aHi_some (by omega) (by first | omega | (rw [len_lst]; omega)), Option.bind_some, aLo_none, Option.bind_some, aMx_none, Option.bind_some, hasSz_lstM, cond_true, Int.toNat_natCast, cut_lstU _ (by omega), List.drop_zero, Nat.sub_zero]
    rw [aread_run F (d + 50) (by simp; omega) (by simp; omega)]
    obtain ⟨i', A', O', u, hu1, hu2, hA', hO'⟩ : ∃ i' A' O' u, ciA (readC (T.take j)) = .tup [.agg (circC i' A' O'), u] ∧ ((∃ c p, u = atV p (errC c)) ∨ (u = .nilif ∧ (decide (i' = (I : Int)) && decide (A' = A) && decide (O' = [2])) = false)) ∧ A'.length ≤ 8000 ∧ O'.length ≤ 8000 := by
      cases hr : readC (T.take j) with
      | error cp =>
        obtain ⟨c, p⟩ := cp
        exact ⟨0, [], [], _, rfl, .inl ⟨c, p, rfl⟩, by simp, by simp⟩
      | ok c =>
        obtain ⟨i', A', O'⟩ := c
        obtain ⟨_, _, q1, q2⟩ := readC_ok hr
        refine ⟨i', A', O', .nilif, rfl, .inr ⟨rfl, ?_⟩, q1, q2⟩
        rw [hr] at hne
        cases hd : (decide (i' = (I : Int)) && decide (A' = A) && decide (O' = [2])) with
        | false => rfl
        | true =>
          simp only [Bool.and_eq_true, decide_eq_true_eq] at hd
          obtain ⟨⟨rfl, rfl⟩, rfl⟩ := hd
          exact absurd rfl hne
    rw [hu1]
    simp only [Option.bind_some, tup2, cond_true, comp0, comp1, agg_agg]
    rw [cond_pos _ _ (okCi i' A' O')]
    obtain ⟨h8, e8, s8⟩ := ((Sep0.start h30).push 1 3 (cs := zero3) rfl).putAll (i := 0) (vs := circC i' A' O') rfl rfl rfl
    have m0 : h8.cellsAt 3 (.mk ⟨h30.next, 0, 0⟩ 3) = some (circC i' A' O') := s8.getAll (i := 0) rfl rfl
    have m1 := s8.still.at_ _ _ _ k30
    rw [e8]
    simp only [Option.bind_some, beq_self_eq_true, cond_true]
    rw [Placed_run F (d + 58) (show (101 : Int) ≠ 0 by omega)]
    simp only [Option.bind_some, agg_agg]
    rw [same_true F (d + 55) hfa (by omega)]
    simp only [Option.bind_some, bool_bool, beq_self_eq_true, cond_true]
    rw [Placed_run F (d + 58) (show (101 : Int) ≠ 0 by omega)]
    simp only [Option.bind_some, agg_agg]
    rw [same_true F (d + 55) hf1 (by omega)]
    simp only [Option.bind_some, bool_bool, beq_self_eq_true, cond_true]
    rw [Placed_run F (d + 58) (show (101 : Int) ≠ 0 by omega)]
    simp only [Option.bind_some, agg_agg]
    rw [same_true F (d + 55) hf0 (by omega)]
    simp only [Option.bind_some, bool_bool, beq_self_eq_true, cond_true]
    rcases hu2 with ⟨c, p, rfl⟩ | ⟨rfl, hd⟩
    · simp only [errC_no, Option.bind_some, Bool.not_false, show ((true == false) : Bool) = false from rfl, cond_false, bool_bool, cond_true]
      exact ⟨_, rfl⟩
    · simp only [nilTest_nilif, Option.bind_some, Bool.not_true, beq_self_eq_true, cond_true, m0, m1]
      rw [sameCi_run F (d + 57) (by omega) (by omega) (by omega) (by omega), hd]
      simp only [Option.bind_some, bool_bool, Bool.not_false, cond_true]
      exact ⟨_, rfl⟩
  by_cases hneg : k < 0
  · rw [bif_pos hneg, Option.bind_some, wrap64 (n := k + 1) (by omega) (by omega), wrap64 (by omega) (by omega)]
    exact tail _ (by omega)
  · rw [bif_neg hneg, Option.bind_some]
    exact tail _ (by omega)
end Go.Proofs.YtmjbjgbcpaagmaaDoor
