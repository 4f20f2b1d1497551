/-
  Parts of the proof of AagReads: aag's reader: the body whole. aag's reader: the head; aag.Read. aag.Read. aag.Read. Faults in memory. The document's numbers. skolemref1.Split. Parts of slices that grow; what is marked; what was there before an append. The document's reader of circuits' texts: count, text, limits. The document's reader of circuits' texts: its loops. The document's reader of circuits' texts: its other loops. skolemref8.ReadAag. skolemref.SameInts. Circuits held against circuits; what the readers tell. aag.Bytes. skolemlaw11.first. AagReads.
-/
import Derived.Test.YtmjbjgbcpaagmaaDoorTAagReads1
import Derived.Test.YtmjbjgbcpaagmaaDoorBm31
import Derived.Test.YtmjbjgbcpaagmaaDoorE
namespace Go.Proofs.YtmjbjgbcpaagmaaDoor
open Go.RowKit

section
variable (fuel d : Nat) {h0 : AHeap} {j r : Nat} {W : List Wd} {e : Int}
theorem abody_run (hf : 20000 < fuel) {L : List Chunk} {h : AHeap} {k : Nat} {m i l o a : Int} {nn : List Int} (hnn : nn = [0, m, i, l, o, a]) (hm : 0 ≤ m ∧ m ≤ 16000) (hi : 0 ≤ i ∧ i ≤ 8000) (ho : 0 ≤ o ∧ o ≤ 8000) (ha : 0 ≤ a ∧ a ≤ 8000) (hW : W.length < 700000000) (hk9 : k < 700000000) (hne : ∀ w ∈ W, w.text ≠ []) (hs : Sep0 h0 h L) (hj : L[j]? = some (rdCh r W k e)) :
    match bodyT e m i o a (W.drop k) with
    | .error p => ∃ h' k', run fuel (d + 8) F_aag_reader_body [.ptr (rdP r), .agg (intsC nn)] h = some (.tup [.agg zero3, atV p err_api_ErrText], h') ∧ Sep0 h0 h' (L.set j (rdCh r W k' e))
    | .ok (i', A, O) => i' = i ∧ ∃ h' sA sO k', run fuel (d + 8) F_aag_reader_body [.ptr (rdP r), .agg (intsC nn)] h = some (.tup [.agg [.int .i64 i, .slice sA, .slice sO], .nilif], h') ∧ Sep0 h0 h' (.grown 1 sO (intsC O) :: .grown 2 sA (pairsC A) :: L.set j (rdCh r W k' e)) := by
  have s1 := (((hs.push 1 6 (cs := intsC nn) (by rw [hnn]; rfl)).cons.push 1 3 (cs := zero3) rfl).cons.push 1 3 (cs := zero3) rfl).cons
  have hlen : (intsC nn).length = 6 := by rw [hnn]; rfl
  have c1 : (AHeap.push (AHeap.push h 1 (intsC nn)) 1 zero3).cell (.mk ⟨h.next, 0, 2⟩ 6) = some (.int .i64 i) := by
    have s9 := ((hs.push 1 6 (cs := intsC nn) (by rw [hnn]; rfl)).cons.push 1 3 (cs := zero3) rfl).cons
    exact s9.part (i := 1) rfl (by omega) (by rw [hnn]; rfl)
  rw [e_aag_reader_body, hlen, show List.all (intsC nn) AVal.isCell = true by rw [hnn]; rfl, cond_true, show Pt.elem 1 6 (2 : Int) (.mk ⟨h.next, 0, 0⟩ 6) = some (.mk ⟨h.next, 0, 2⟩ 6) from rfl, Option.bind_some, c1, Option.bind_some, int_int, Option.bind_some]
  obtain ⟨h4, e4, _, s4⟩ := ret_put s1 rfl (vs := [.int .i64 i, .slice .nil, .slice .nil]) rfl
  rw [e4, Option.bind_some]
  generalize hN : h.next = N at s4
  generalize hZ : (AHeap.push h 1 (intsC nn)).next = Z at s4
  generalize hY : (AHeap.push (AHeap.push h 1 (intsC nn)) 1 zero3).next = Y at s4
  have s5 : Sep0 h0 h4 (bodyL i Y Z N nn .nil .nil [] [] L) := ((s4.addNil 2).cons.addNil 1).cons
  have g2 : nn[2]? = some i := by rw [hnn]; rfl
  have c2 : h4.cell (.mk ⟨N, 0, 2⟩ 6) = some (.int .i64 i) := nn_cell s5 (by omega) g2
  rw [Option.bind_some, c2, Option.bind_some, int_int, Option.bind_some]
  obtain ⟨I, rfl⟩ := Int.eq_ofNat_of_zero_le hi.1
  obtain ⟨O, rfl⟩ := Int.eq_ofNat_of_zero_le ho.1
  obtain ⟨A, rfl⟩ := Int.eq_ofNat_of_zero_le ha.1
  have b0 := abody0 fuel d (h0 := h0) (r := r) (W := W) (e := e) (by omega) (I := I) (by omega) fuel 0 k L h4 (by omega) (by omega) (by omega) s5 hj
  unfold bodyT
  rw [Int.toNat_natCast, Int.toNat_natCast, Int.toNat_natCast]
  rw [show ((0 : Nat) : Int) = 0 from rfl, Nat.sub_zero] at b0
  cases q0 : insT e 0 I (W.drop k) with
  | error p =>
    rw [q0] at b0
    obtain ⟨h', k', e5, e6, s6⟩ := b0
    refine ⟨h', k', ?_, s6⟩
    rw [e5, Option.bind_some, k_aag_reader_body_0_r, e6]
    rfl
  | ok W1 =>
    rw [q0] at b0
    obtain ⟨h5, e5, s6, rfl⟩ := b0
    rw [e5, Option.bind_some, k_aag_reader_body_0_x0]
    have g4 : nn[4]? = some (O : Int) := by rw [hnn]; rfl
    have g1 : nn[1]? = some m := by rw [hnn]; rfl
    have c4 : h5.cell (.mk ⟨N, 0, 4⟩ 6) = some (.int .i64 (O : Int)) := nn_cell s6 (by omega) g4
    rw [show Pt.elem 1 6 (4 : Int) (.mk ⟨N, 0, 0⟩ 6) = some (.mk ⟨N, 0, 4⟩ 6) from rfl, Option.bind_some, c4, Option.bind_some, int_int, Option.bind_some]
    have b1 := abody1 fuel d (h0 := h0) (r := r) (W := W) (e := e) (by omega) (I := O) (by omega) g1 (by omega) (by omega) fuel 0 (k + I) [] .nil (L.set j (rdCh r W (k + I) e)) h5 (by omega) (by omega) (by omega) rfl s6 (get_set hj _)
    rw [show ((0 : Nat) : Int) = 0 from rfl, Nat.sub_zero] at b1
    simp only
    cases q1 : outsT e m O (W.drop (k + I)) [] with
    | error p =>
      rw [q1] at b1
      obtain ⟨h', k', e7, e8, s8⟩ := b1
      rw [List.set_set] at s8
      refine ⟨h', k', ?_, s8⟩
      rw [e7, Option.bind_some, k_aag_reader_body_1_r, e8]
      rfl
    | ok OW =>
      obtain ⟨Ol, W2⟩ := OW
      rw [q1] at b1
      obtain ⟨h6, sO, e7, s8, rfl⟩ := b1
      rw [List.set_set] at s8
      rw [e7, Option.bind_some, k_aag_reader_body_1_x2]
      have g5 : nn[5]? = some (A : Int) := by rw [hnn]; rfl
      have c5 : h6.cell (.mk ⟨N, 0, 5⟩ 6) = some (.int .i64 (A : Int)) := nn_cell s8 (by omega) g5
      rw [show Pt.elem 1 6 (5 : Int) (.mk ⟨N, 0, 0⟩ 6) = some (.mk ⟨N, 0, 5⟩ 6) from rfl, Option.bind_some, c5, Option.bind_some, int_int, Option.bind_some]
      have b2 := abody2 fuel d (h0 := h0) (r := r) (W := W) (e := e) (by omega) (I := A) (by omega) g2 (by omega) (by omega) fuel 0 (k + I + O) [] .nil (L.set j (rdCh r W (k + I + O) e)) h6 (by omega) (by omega) (by omega) rfl s8 (get_set hj _)
      rw [show ((0 : Nat) : Int) = 0 from rfl, Nat.sub_zero] at b2
      simp only
      cases q2 : andsT e I 0 A (W.drop (k + I + O)) [] with
      | error p =>
        rw [q2] at b2
        obtain ⟨h', k', e9, e10, s10⟩ := b2
        rw [List.set_set] at s10
        refine ⟨h', k', ?_, s10⟩
        rw [e9, Option.bind_some, k_aag_reader_body_2_r, e10]
        rfl
      | ok AW =>
        obtain ⟨Al, W3⟩ := AW
        rw [q2] at b2
        obtain ⟨h7, sA, e9, s10, rfl⟩ := b2
        rw [List.set_set] at s10
        rw [e9, Option.bind_some, k_aag_reader_body_2_x4]
        simp only
        generalize hK : k + I + O + 3 * A = K at s10
        have hK9 : K < 800000000 := by omega
        have hj5 : (bodyL I Y Z N nn sO sA Ol Al (L.set j (rdCh r W K e)))[j + 5]? = some (rdCh r W K e) := get_set hj _
        have fin : ∀ (x : Bool), ∃ h', (match (if x = true then some (posW e (W.drop K)) else none) with
            | some p => ∃ k', k_aag_reader_body_3 fuel (d + 7) .normal [(0, .ptr (rdP r)), (4, .ptr (rdP Z)), (6, .ptr (rdP Y)), (128, .bool x)] h7 = some (.tup [.agg zero3, atV p err_api_ErrText], h') ∧ Sep0 h0 h' (L.set j (rdCh r W k' e))
            | none => ∃ k', k_aag_reader_body_3 fuel (d + 7) .normal [(0, .ptr (rdP r)), (4, .ptr (rdP Z)), (6, .ptr (rdP Y)), (128, .bool x)] h7 = some (.tup [.agg [.int .i64 (I : Int), .slice sA, .slice sO], .nilif], h') ∧ Sep0 h0 h' (.grown 1 sO (intsC Ol) :: .grown 2 sA (pairsC Al) :: L.set j (rdCh r W k' e)) : Prop) := by
          intro x
          cases x with
          | true =>
            obtain ⟨h', e11, e12, s12⟩ := abody_err (L := L.set j (rdCh r W K e)) s10
            refine ⟨h', K, ?_, s12⟩
            rw [k_aag_reader_body_3_n, cond_true, apos_run fuel (d + 6) s10 hj5]
            simp only [Option.bind_some, int_int]
            rw [same_self, aat0 fuel (d + 6)]
            simp only [Option.bind_some]
            rw [e11, Option.bind_some, e12]
            rfl
          | false =>
            have cY : h7.cellsAt 3 (rdP Y) = some [.int .i64 (I : Int), .slice sA, .slice sO] := s10.getAll (i := 2) rfl rfl
            obtain ⟨h', e11, s12⟩ := s10.putAll (i := 3) (vs := [.int .i64 (I : Int), .slice sA, .slice sO]) rfl rfl rfl
            have cZ : h'.cellsAt 3 (rdP Z) = some [.int .i64 (I : Int), .slice sA, .slice sO] := s12.getAll (i := 3) rfl rfl
            refine ⟨h', K, ?_, s12.sub ((List.Sublist.refl _).cons _ |>.cons _ |>.cons _ |>.cons_cons _ |>.cons_cons _)⟩
            rw [k_aag_reader_body_3_n, cond_false, cY, Option.bind_some, show (!false && Nat.beq (List.length [AVal.int .i64 (I : Int), .slice sA, .slice sO]) 3 && List.all [AVal.int .i64 (I : Int), .slice sA, .slice sO] AVal.isCell) = true from rfl, cond_true, e11, Option.bind_some, cZ]
            rfl
        have fin2 : ∀ x : Bool, (if x = true then some (posW e (W.drop K)) else none) = endT (W.drop K) → match (match endT (W.drop K) with | some p => (Except.error p : Except Int Ci) | none => .ok ((I : Int), Al, Ol)) with
            | .error p => ∃ h' k', k_aag_reader_body_3 fuel (d + 7) .normal [(0, .ptr (rdP r)), (4, .ptr (rdP Z)), (6, .ptr (rdP Y)), (128, .bool x)] h7 = some (.tup [.agg zero3, atV p err_api_ErrText], h') ∧ Sep0 h0 h' (L.set j (rdCh r W k' e))
            | .ok (i', A', O') => i' = (I : Int) ∧ ∃ h' sA sO k', k_aag_reader_body_3 fuel (d + 7) .normal [(0, .ptr (rdP r)), (4, .ptr (rdP Z)), (6, .ptr (rdP Y)), (128, .bool x)] h7 = some (.tup [.agg [.int .i64 (I : Int), .slice sA, .slice sO], .nilif], h') ∧ Sep0 h0 h' (.grown 1 sO (intsC O') :: .grown 2 sA (pairsC A') :: L.set j (rdCh r W k' e)) := by
          intro x hx
          obtain ⟨h', hq⟩ := fin x
          rw [hx] at hq
          cases hend : endT (W.drop K) with
          | some p =>
            rw [hend] at hq
            obtain ⟨k', q⟩ := hq
            exact ⟨h', k', q⟩
          | none =>
            rw [hend] at hq
            obtain ⟨k', q⟩ := hq
            exact ⟨rfl, h', sA, sO, k', q⟩
        simp only [chk_mk, field_mk, Option.bind_some, rd_c0 s10 hj5, rd_c1 s10 hj5, int_int, slice_slice]
        rw [len_lst]
        by_cases hk : K < W.length
        · rw [bif_pos (by omega), waddr h7 hk]
          have hmem : W.getD K ⟨[], 0, false⟩ ∈ W := by rw [List.getD_eq_getElem?_getD, List.getElem?_eq_getElem hk]; exact List.getElem_mem hk
          have hdw := drop_wd hk
          generalize W.getD K ⟨[], 0, false⟩ = w at hmem hdw
          simp only [Option.bind_some, wf2, cell_fp, bool_bool]
          have he : endT (W.drop K) = if (!w.first || !(w.text.getD 0 0 == 99)) = true then some (w.pos : Int) else none := by rw [hdw]; rfl
          have hp : posW e (W.drop K) = (w.pos : Int) := by rw [hdw]; rfl
          cases hfi : w.first with
          | false =>
            simp only [Bool.not_false, cond_true, Option.bind_some]
            exact fin2 true (by rw [he, hp, hfi]; rfl)
          | true =>
            have h9 := strAt_mk (l := w.text) (k := 0) (List.length_pos_iff.2 (hne w hmem))
            rw [show ((0 : Nat) : Int) = 0 from rfl] at h9
            simp only [Bool.not_true, cond_false, Option.bind_some, wf0, wc0, str_str]
            rw [h9]
            simp only [Option.bind_some]
            have e99 := u8_dec (w.text.getD 0 0) 99
            rw [show (((99 : UInt8).toNat : Nat) : Int) = 99 from rfl] at e99
            rw [e99]
            exact fin2 _ (by rw [he, hp, hfi]; rfl)
        · rw [bif_neg (by omega)]
          simp only [Option.bind_some]
          exact fin2 false (by rw [List.drop_eq_nil_of_le (by omega)]; rfl)
end
end Go.Proofs.YtmjbjgbcpaagmaaDoor

namespace Go.Proofs.YtmjbjgbcpaagmaaDoor
open Go.RowKit

theorem canon_aggI (nn : List Int) : canonV 8 (.agg (intsC nn)) = some (.agg (intsC nn)) := by
  rw [canon_agg]
  have : ∀ l : List Int, (intsC l).mapM (canonV 7) = some (intsC l) := by
    intro l
    induction l with
    | nil => rfl
    | cons x l ih => exact canonM_cons (u := .int .i64 x) rfl ih
  rw [this]; rfl
def limA : Option (Nat × Int) → AVal
  | none => .tup [.int .i64 0, .nilif]
  | some (k, c) => .tup [.int .i64 (k : Int), errC c]
theorem limT_code {m i l o a c : Int} {k : Nat} (h : limT m i l o a = some (k, c)) : (c = 101 ∨ c = 102) ∧ k < 6 ∧ 0 < k := by
  unfold limT at h
  repeat' split at h
  all_goals (first | (cases h; exact ⟨.inl rfl, by omega, by omega⟩) | (cases h; exact ⟨.inr rfl, by omega, by omega⟩) | cases h)
theorem limits_run (fuel d : Nat) {x m i l o a : Int} (hi : 0 ≤ i ∧ i ≤ 999999999) (ha : 0 ≤ a ∧ a ≤ 999999999) (h : AHeap) : run fuel (d + 1) F_aag_Limits [.agg (intsC [x, m, i, l, o, a])] h = some (limA (limT m i l o a), h) := by
  refine pure_ex rfl rfl (cc1 (canon_aggI _)) (r := limA (limT m i l o a)) ⟨AHeap.none.push 1 (intsC [x, m, i, l, o, a]), ?_⟩ ?_
  · have s1 := (Sep0.start AHeap.none).push 1 6 (cs := intsC [x, m, i, l, o, a]) rfl
    have el : ∀ (q : Int) (p : Nat), q = p → p < 6 → Pt.elem 1 6 q (.mk ⟨AHeap.none.next, 0, 0⟩ 6) = some (.mk ⟨AHeap.none.next, 0, p⟩ 6) := by
      intro q p hq hp
      subst hq
      rcases (show p = 0 ∨ p = 1 ∨ p = 2 ∨ p = 3 ∨ p = 4 ∨ p = 5 by omega) with rfl | rfl | rfl | rfl | rfl | rfl <;> rfl
    have c1 : (AHeap.none.push 1 (intsC [x, m, i, l, o, a])).cell (.mk ⟨AHeap.none.next, 0, 1⟩ 6) = some (.int .i64 m) := s1.part (i := 0) rfl (by omega) rfl
    have c2 : (AHeap.none.push 1 (intsC [x, m, i, l, o, a])).cell (.mk ⟨AHeap.none.next, 0, 2⟩ 6) = some (.int .i64 i) := s1.part (i := 0) rfl (by omega) rfl
    have c3 : (AHeap.none.push 1 (intsC [x, m, i, l, o, a])).cell (.mk ⟨AHeap.none.next, 0, 3⟩ 6) = some (.int .i64 l) := s1.part (i := 0) rfl (by omega) rfl
    have c4 : (AHeap.none.push 1 (intsC [x, m, i, l, o, a])).cell (.mk ⟨AHeap.none.next, 0, 4⟩ 6) = some (.int .i64 o) := s1.part (i := 0) rfl (by omega) rfl
    have c5 : (AHeap.none.push 1 (intsC [x, m, i, l, o, a])).cell (.mk ⟨AHeap.none.next, 0, 5⟩ 6) = some (.int .i64 a) := s1.part (i := 0) rfl (by omega) rfl
    rw [e_aag_Limits, show List.all (intsC [x, m, i, l, o, a]) AVal.isCell = true from rfl, cond_true, show (intsC [x, m, i, l, o, a]).length = 6 from rfl]
    simp only [el 1 1 rfl (by omega), el 2 2 rfl (by omega), el 3 3 rfl (by omega), el 4 4 rfl (by omega), el 5 5 rfl (by omega), Option.bind_some, c1, c2, c3, c4, c5, int_int]
    rw [wrap64 (n := i + a) (by omega) (by omega)]
    unfold limT
    by_cases b1 : 8000 < i
    · rw [bif_pos b1, if_pos b1]; rfl
    rw [bif_neg b1, if_neg b1]
    by_cases b2 : 8000 < i + a
    · rw [bif_pos b2, if_pos b2]; rfl
    rw [bif_neg b2, if_neg b2]
    by_cases b3 : 8000 < o
    · rw [bif_pos b3, if_pos b3]; rfl
    rw [bif_neg b3, if_neg b3]
    by_cases b4 : m = i + a
    · rw [bif_npos b4, if_neg (show ¬ m ≠ i + a from fun h => h b4)]
      by_cases b5 : l = 0
      · rw [bif_npos b5, if_neg (show ¬ l ≠ 0 from fun h => h b5)]; rfl
      · rw [bif_nneg b5, if_pos b5]; rfl
    · rw [bif_nneg b4, if_pos b4]; rfl
  · intro h'
    cases hl : limT m i l o a with
    | none => rfl
    | some kc =>
      obtain ⟨k, c⟩ := kc
      rcases (limT_code hl).1 with rfl | rfl <;> rfl
theorem intsC_set {l : List Int} {k : Nat} (hk : k < l.length) (v : Int) : (intsC l).take k ++ [AVal.int .i64 v] ++ (intsC l).drop (k + 1) = intsC (l.set k v) := by
  rw [List.set_eq_take_append_cons_drop, if_pos hk]
  simp
theorem aatC (fuel d : Nat) {c : Int} (hc : c = 101 ∨ c = 102) (p : Int) (h : AHeap) : run fuel (d + 1) F_aag_at [.int .i64 p, errC c] h = some (atV p (errC c), h) := by
  rcases hc with rfl | rfl
  · exact aat_run fuel d (j := 0) (by omega) p h
  · exact aat_run fuel d (j := 1) (by omega) p h

section
variable (fuel d : Nat) {h0 : AHeap} {j r : Nat} {W : List Wd} {e : Int}
abbrev headS (P N R : Nat) (pl nn rr : List Int) (L : List Chunk) : List Chunk := .own 1 P 0 6 (intsC pl) :: .own 1 N 0 6 (intsC nn) :: .own 1 R 0 6 (intsC rr) :: L
variable {P N R : Nat}
theorem elem6 {p : Nat} (hp : p < 6) (N : Nat) : Pt.elem 1 6 (p : Int) (nP N) = some (.mk ⟨N, 0, p⟩ 6) := by
  rcases (show p = 0 ∨ p = 1 ∨ p = 2 ∨ p = 3 ∨ p = 4 ∨ p = 5 by omega) with rfl | rfl | rfl | rfl | rfl | rfl <;> rfl
theorem all6 {nn : List Int} (h : nn.length = 6) : (!false && Nat.beq (List.length (intsC nn)) 6 && List.all (intsC nn) AVal.isCell) = true := by
  rw [List.length_map, h]
  simp
  intro x _
  rfl
theorem all6t {nn : List Int} (h : nn.length = 6) : (true && Nat.beq (List.length (intsC nn)) 6 && List.all (intsC nn) AVal.isCell) = true := all6 h
theorem head_bad {L : List Chunk} {h : AHeap} {k : Nat} {pl nn rr : List Int} (hk : k < 6) (hl : pl.length = 6) (hn : nn.length = 6) (hr : rr.length = 6) (hs : Sep0 h0 h (headS P N R pl nn rr L)) {x : Int} (hx : pl[k]? = some x) (n x12 : Nat) (x0 : Pt) :
    ∃ h', k_aag_reader_head_1 fuel (d + 5) n .normal [(0, .ptr x0), (2, .ptr (nP R)), (4, .ptr (nP N)), (5, .ptr (nP P)), (6, .int .i64 (k : Int)), (9, .bool false), (12, .int .i64 (x12 : Int))] h = some (.ret, [(2, .ptr (nP R)), (3, atV x err_api_ErrText), (4, .ptr (nP N)), (5, .ptr (nP P))], h') ∧ h'.cellsAt 6 (nP R) = some (intsC nn) ∧ Sep0 h0 h' L := by
  have cN : h.cellsAt 6 (nP N) = some (intsC nn) := hs.getAll (i := 1) rfl (by rw [List.length_map, hn])
  have cP : h.cell (.mk ⟨P, 0, k⟩ 6) = some (.int .i64 x) := hs.part (i := 0) rfl hk (by rw [List.getElem?_map, hx]; rfl)
  obtain ⟨h', e1, s1⟩ := hs.putAll (i := 2) (vs := intsC nn) rfl (by rw [List.length_map, hr]) (by rw [List.length_map, hn])
  refine ⟨h', ?_, s1.getAll (i := 2) rfl (by rw [List.length_map, hn]), s1.tail.tail.tail⟩
  rw [k_aag_reader_head_1_n, Bool.not_false, cond_true, cN, Option.bind_some, elem6 hk, Option.bind_some, cP, Option.bind_some, int_int, Option.bind_some, aat0 fuel (d + 4), Option.bind_some]
  simp only
  rw [cN, Option.bind_some, same_self, all6t hn, cond_true, e1]
  rfl
theorem head_loop (hf : 20 < fuel) : ∀ (n k : Nat) (acc pl nn rr : List Int) (L : List Chunk) (h : AHeap), 6 < n + k → 1 ≤ k → k ≤ 6 → pl.length = 6 → nn.length = 6 → rr.length = 6 → nn.take k = 0 :: acc → (∀ i, i < k → pl.getD i 0 = ((W.getD i ⟨[], 0, false⟩).pos : Int)) → Sep0 h0 h (headS P N R pl nn rr L) → L[j]? = some (rdCh r W k e) →
    match numsH e (6 - k) (W.drop k) acc with
    | .error p => ∃ h' k' nn', l_aag_reader_head_0 fuel (d + 5) n [(0, .ptr (rdP r)), (2, .ptr (nP R)), (4, .ptr (nP N)), (5, .ptr (nP P)), (12, .int .i64 (k : Int))] h = some (.ret, [(2, .ptr (nP R)), (3, atV p err_api_ErrText), (4, .ptr (nP N)), (5, .ptr (nP P))], h') ∧ nn'.length = 6 ∧ h'.cellsAt 6 (nP R) = some (intsC nn') ∧ Sep0 h0 h' (L.set j (rdCh r W k' e))
    | .ok M => ∃ h' pl', l_aag_reader_head_0 fuel (d + 5) n [(0, .ptr (rdP r)), (2, .ptr (nP R)), (4, .ptr (nP N)), (5, .ptr (nP P)), (12, .int .i64 (k : Int))] h = some (.exit 0, [(2, .ptr (nP R)), (3, .bot), (4, .ptr (nP N)), (5, .ptr (nP P))], h') ∧ pl'.length = 6 ∧ (∀ i, i < 6 → pl'.getD i 0 = ((W.getD i ⟨[], 0, false⟩).pos : Int)) ∧ Sep0 h0 h' (headS P N R pl' (0 :: M) rr (L.set j (rdCh r W 6 e))) := by
  intro n
  induction n with
  | zero => intro k acc pl nn rr L h h1 h2; omega
  | succ n ih =>
    intro k acc pl nn rr L h h1 h2 h3 hl hn hr htk hpl hs hj
    rw [l_aag_reader_head_0_eq]
    by_cases hk : k < 6
    · have hj3 : (headS P N R pl nn rr L)[j + 3]? = some (rdCh r W k e) := hj
      obtain ⟨h1', e1, s1⟩ := hs.put (i := 0) (o := k) (l := 6) (vs := [.int .i64 (posW e (W.drop k))]) rfl (by simp; omega) (by simp; omega)
      rw [set0, show [AVal.int .i64 (posW e (W.drop k))].length = 1 from rfl, intsC_set (by omega)] at s1
      have hj1 : (headS P N R (pl.set k (posW e (W.drop k))) nn rr L)[j + 3]? = some (rdCh r W k e) := hj
      have hw := aword_run fuel (d + 3) false (by omega) s1 hj1
      rw [bif_pos (by omega), apos_run fuel (d + 4) hs hj3, Option.bind_some, int_int, Option.bind_some, elem6 hk, Option.bind_some, e1, Option.bind_some, decide_eq_false (show ¬ (k : Int) = 0 by omega), show 6 - k = (6 - (k + 1)) + 1 by omega]
      unfold numsH
      have hlp : (pl.set k (posW e (W.drop k))).length = 6 := by rw [List.length_set]; exact hl
      cases hq : wF false (W.drop k) with
      | none =>
        rw [hq] at hw
        have cN : h1'.cellsAt 6 (nP N) = some (intsC nn) := s1.getAll (i := 1) rfl (by rw [List.length_map, hn])
        obtain ⟨h', e2, s2⟩ := s1.putAll (i := 2) (vs := intsC nn) rfl (by rw [List.length_map, hr]) (by rw [List.length_map, hn])
        refine ⟨h', k, nn, ?_, hn, s2.getAll (i := 2) rfl (by rw [List.length_map, hn]), ?_⟩
        · rw [hw]
          simp only [Option.bind_some, tup2, cond_true, comp0, comp1, str_str, nilTest_if, Bool.not_false]
          rw [cN, Option.bind_some, all6t hn, cond_true, e2]
          rfl
        · rw [set_self hj]
          exact s2.tail.tail.tail
      | some w =>
        rw [hq] at hw
        obtain ⟨h2', e2, s2⟩ := hw
        obtain ⟨W', hW'⟩ := wF_head hq
        have hpos : posW e (W.drop k) = (w.pos : Int) := by rw [hW']; rfl
        have s2' : Sep0 h0 h2' (headS P N R (pl.set k (posW e (W.drop k))) nn rr (L.set j (rdCh r W (k + 1) e))) := s2
        obtain ⟨h3', e3, s3⟩ := s2'.put (i := 1) (o := k) (l := 6) (vs := [.int .i64 (if plainW w.text = true then numW w.text else 0)]) rfl (by simp; omega) (by simp; omega)
        rw [set1, show [AVal.int .i64 (if plainW w.text = true then numW w.text else 0)].length = 1 from rfl, intsC_set (by omega)] at s3
        have hnl : (nn.set k (if plainW w.text = true then numW w.text else 0)).length = 6 := by rw [List.length_set]; exact hn
        rw [e2]
        simp only [Option.bind_some, tup2, cond_true, comp0, comp1, str_str, nilTest_nilif, Bool.not_true, cond_false]
        rw [bif_pos (show (0 : Int) < (k : Int) by omega), plain_run fuel (d + 1) hf]
        simp only [Option.bind_some, tup2, cond_true, comp0, comp1, int_int, bool_bool]
        rw [elem6 hk, Option.bind_some, e3, Option.bind_some, Option.bind_some]
        simp only
        have hgp : (pl.set k (posW e (W.drop k)))[k]? = some (w.pos : Int) := by rw [List.getElem?_set_self (by omega), hpos]
        cases hp : plainW w.text with
        | false =>
          rw [hp] at s3 hnl
          obtain ⟨h', e4, e5, s4⟩ := head_bad fuel d hk hlp hnl hr s3 hgp n k (rdP r)
          exact ⟨h', k + 1, _, e4, hnl, e5, s4⟩
        | true =>
          rw [hp] at s3 hnl
          simp only [if_true] at s3 hnl ⊢
          rw [k_aag_reader_head_1_n, Bool.not_true, cond_false, sucU (by omega)]
          have hw9 : W.getD k ⟨[], 0, false⟩ = w := by
            by_cases hkw : k < W.length
            · rw [drop_wd hkw] at hW'
              exact (List.cons.inj hW').1
            · rw [List.drop_eq_nil_of_le (by omega)] at hW'; cases hW'
          have := ih (k + 1) (acc ++ [numW w.text]) (pl.set k (posW e (W.drop k))) (nn.set k (numW w.text)) rr (L.set j (rdCh r W (k + 1) e)) h3' (by omega) (by omega) (by omega) hlp hnl hr ?_ ?_ s3 (get_set hj _)
          · rw [List.drop_drop]
            simp only [List.set_set] at this
            exact this
          · rw [take_get (by omega) 0, List.take_set_of_le (Nat.le_refl _), htk]
            simp [List.getD_eq_getElem?_getD, show k < nn.length by omega]
          · intro i hi
            by_cases hik : i = k
            · subst hik
              rw [List.getD_eq_getElem?_getD, hgp, hw9]; rfl
            · rw [List.getD_eq_getElem?_getD, List.getElem?_set_ne (by omega), ← List.getD_eq_getElem?_getD]
              exact hpl i (by omega)
    · obtain rfl : k = 6 := by omega
      rw [bif_neg (by omega), Nat.sub_self]
      unfold numsH
      refine ⟨h, pl, rfl, hl, hpl, ?_⟩
      rw [List.take_of_length_le (by omega)] at htk
      rw [set_self hj, ← htk]
      exact hs
end
end Go.Proofs.YtmjbjgbcpaagmaaDoor

namespace Go.Proofs.YtmjbjgbcpaagmaaDoor
open Go.RowKit

theorem split_ne (b : List UInt8) (c : Bool) : ∀ w ∈ splitOf b c, w.text ≠ [] := by
  have key : ∀ (n k : Nat), ∀ w ∈ splitGo b c n k, w.text ≠ [] := by
    intro n
    induction n with
    | zero => intro k w hw; cases hw
    | succ n ih =>
      intro k w hw
      simp only [splitGo] at hw
      split at hw
      · rcases List.mem_append.1 hw with hw | hw
        · split at hw
          · exact lineGo_text _ _ _ w hw
          · cases hw
        · exact ih _ w hw
      · cases hw
  exact key _ _
theorem split_len (b : List UInt8) (c : Bool) : (splitOf b c).length ≤ b.length := by
  have := splitGo_len (b := b) (c := c) (b.length + 1) 0
  unfold splitOf
  omega
theorem errC_no (p c : Int) : nilTest .iface (atV p (errC c)) = some false := rfl
theorem headA_code {e c p : Int} {W : List Wd} (h : headA e W = .error (c, p)) : c = 101 ∨ c = 102 := by
  unfold headA at h
  repeat' split at h
  all_goals (first | (cases h; exact .inl rfl) | (rename_i hl; cases h; exact (limT_code hl).1) | cases h)
theorem headA_ok {e : Int} {W : List Wd} {M : List Int} (h : headA e W = .ok M) : M.length = 5 ∧ (∀ x ∈ M, 0 ≤ x ∧ x ≤ 999999999) ∧ limT (M.getD 0 0) (M.getD 1 0) (M.getD 2 0) (M.getD 3 0) (M.getD 4 0) = none := by
  unfold headA at h
  split at h
  · cases h
  · split at h
    · split at h
      · cases h
      · rename_i N hN
        split at h
        · cases h
        · rename_i hl
          cases h
          obtain ⟨h1, _, h3⟩ := numsH_len hN
          exact ⟨by simpa using h1, h3 (fun x hx => by cases hx), hl⟩
    · cases h
theorem five {M : List Int} (h : M.length = 5) : M = [M.getD 0 0, M.getD 1 0, M.getD 2 0, M.getD 3 0, M.getD 4 0] := by
  match M, h with
  | [a, b, c, d, e], _ => rfl
section
variable (fuel d : Nat) {h0 : AHeap} {j r : Nat} {W : List Wd} {e : Int}
theorem head_run2 (hf : 20 < fuel) {L : List Chunk} {h : AHeap} (hs : Sep0 h0 h L) (hj : L[j]? = some (rdCh r W 0 e)) :
    match headA e W with
    | .error (c, p) => ∃ h' k' nn, run fuel (d + 6) F_aag_reader_head [.ptr (rdP r)] h = some (.tup [.agg (intsC nn), atV p (errC c)], h') ∧ nn.length = 6 ∧ Sep0 h0 h' (L.set j (rdCh r W k' e))
    | .ok M => ∃ h', run fuel (d + 6) F_aag_reader_head [.ptr (rdP r)] h = some (.tup [.agg (intsC (0 :: M)), .nilif], h') ∧ Sep0 h0 h' (L.set j (rdCh r W 6 e)) := by
  have s1 := (((hs.push 1 6 (cs := intsC [0, 0, 0, 0, 0, 0]) rfl).cons.push 1 6 (cs := intsC [0, 0, 0, 0, 0, 0]) rfl).cons.push 1 6 (cs := intsC [0, 0, 0, 0, 0, 0]) rfl).cons
  rw [e_aag_reader_head]
  rw [show [(AVal.int .i64 (0 : Int)), (.int .i64 (0 : Int)), (.int .i64 (0 : Int)), (.int .i64 (0 : Int)), (.int .i64 (0 : Int)), (.int .i64 (0 : Int))] = intsC [0, 0, 0, 0, 0, 0] from rfl]
  generalize h.next = R at s1
  generalize (h.push 1 (intsC [0, 0, 0, 0, 0, 0])).next = N at s1
  generalize ((h.push 1 (intsC [0, 0, 0, 0, 0, 0])).push 1 (intsC [0, 0, 0, 0, 0, 0])).next = P at s1
  generalize (((h.push 1 (intsC [0, 0, 0, 0, 0, 0])).push 1 (intsC [0, 0, 0, 0, 0, 0])).push 1 (intsC [0, 0, 0, 0, 0, 0])) = H at s1
  have hs' : Sep0 h0 H (headS P N R [0, 0, 0, 0, 0, 0] [0, 0, 0, 0, 0, 0] [0, 0, 0, 0, 0, 0] L) := s1
  have hj3 : (headS P N R [0, 0, 0, 0, 0, 0] [0, 0, 0, 0, 0, 0] [0, 0, 0, 0, 0, 0] L)[j + 3]? = some (rdCh r W 0 e) := hj
  obtain ⟨f, rfl⟩ : ∃ f, fuel = f + 1 := ⟨fuel - 1, by omega⟩
  rw [l_aag_reader_head_0_eq]
  obtain ⟨h1', e1, s1⟩ := hs'.put (i := 0) (o := 0) (l := 6) (vs := [.int .i64 (posW e W)]) rfl (by simp) (by simp)
  have s1' : Sep0 h0 h1' (headS P N R [posW e W, 0, 0, 0, 0, 0] [0, 0, 0, 0, 0, 0] [0, 0, 0, 0, 0, 0] L) := s1
  have hj1 : (headS P N R [posW e W, 0, 0, 0, 0, 0] [0, 0, 0, 0, 0, 0] [0, 0, 0, 0, 0, 0] L)[j + 3]? = some (rdCh r W 0 e) := hj
  have hw := aword_run (f + 1) (d + 3) true (by omega) s1' hj1
  have hpos := apos_run (f + 1) (d + 4) hs' hj3
  rw [List.drop_zero] at hw hpos
  rw [bif_pos (show (0 : Int) < 6 by omega), hpos, Option.bind_some, int_int, Option.bind_some, show Pt.elem 1 6 (0 : Int) (.mk ⟨P, 0, 0⟩ 6) = some (.mk ⟨P, 0, 0⟩ 6) from rfl, Option.bind_some, e1, Option.bind_some, decide_eq_true (show (0 : Int) = 0 from rfl)]
  unfold headA
  have ret : ∀ (u x4 x5 : AVal) (h' : AHeap) (nn : List Int), h'.cellsAt 6 (nP R) = some (intsC nn) → k_aag_reader_head_0 (f + 1) (d + 5) .ret [(2, .ptr (nP R)), (3, u), (4, x4), (5, x5)] h' = some (.tup [.agg (intsC nn), u], h') := by
    intro u x4 x5 h' nn hc
    rw [k_aag_reader_head_0_r, hc]
    rfl
  cases hq : wF true W with
  | none =>
    rw [hq] at hw
    have cN : h1'.cellsAt 6 (nP N) = some (intsC [0, 0, 0, 0, 0, 0]) := s1'.getAll (i := 1) rfl rfl
    obtain ⟨h', e2, s2⟩ := s1'.putAll (i := 2) (vs := intsC [0, 0, 0, 0, 0, 0]) rfl rfl rfl
    refine ⟨h', 0, [0, 0, 0, 0, 0, 0], ?_, rfl, ?_⟩
    · rw [hw]
      simp only [Option.bind_some, tup2, cond_true, comp0, comp1, str_str, nilTest_if, Bool.not_false]
      rw [cN, Option.bind_some, all6t rfl, cond_true, e2]
      simp only [Option.bind_some]
      exact ret _ _ _ h' _ (s2.getAll (i := 2) rfl rfl)
    · rw [set_self hj]
      exact s2.tail.tail.tail
  | some w =>
    rw [hq] at hw
    obtain ⟨h2', e2, s2⟩ := hw
    obtain ⟨W', hW'⟩ := wF_head hq
    have hpw : posW e W = (w.pos : Int) := by rw [hW']; rfl
    have s2' : Sep0 h0 h2' (headS P N R [posW e W, 0, 0, 0, 0, 0] [0, 0, 0, 0, 0, 0] [0, 0, 0, 0, 0, 0] (L.set j (rdCh r W (0 + 1) e))) := s2
    have hcmp : decide (tx w.text = (⟨#[97, 97, 103]⟩ : ByteArray)) = (w.text == [97, 97, 103]) := by
      have := txt_ne w.text [97, 97, 103]
      rw [show tx [97, 97, 103] = (⟨#[97, 97, 103]⟩ : ByteArray) from rfl] at this
      exact Bool.not_inj this
    rw [e2]
    simp only [Option.bind_some, tup2, cond_true, comp0, comp1, str_str, nilTest_nilif, Bool.not_true, cond_false]
    rw [bif_neg (show ¬ (0 : Int) < 0 by omega), Option.bind_some]
    simp only
    rw [hcmp]
    cases hc : w.text == [97, 97, 103] with
    | false =>
      obtain ⟨h', e4, e5, s4⟩ := head_bad (f + 1) d (k := 0) (by omega) rfl rfl rfl s2' rfl f 0 (rdP r)
      rw [show ((0 : Nat) : Int) = 0 from rfl] at e4
      refine ⟨h', 0 + 1, [0, 0, 0, 0, 0, 0], ?_, rfl, s4⟩
      rw [e4, Option.bind_some, ret _ _ _ h' _ e5, hpw]
      rfl
    | true =>
      rw [k_aag_reader_head_1_n, Bool.not_true, cond_false, wrap64 (n := 0 + 1) (by omega) (by omega), show (0 : Int) + 1 = ((1 : Nat) : Int) from rfl]
      have hj2 : (L.set j (rdCh r W (0 + 1) e))[j]? = some (rdCh r W (0 + 1) e) := get_set hj _
      have hl := head_loop (f + 1) d (h0 := h0) (P := P) (N := N) (R := R) hf f 1 [] [posW e W, 0, 0, 0, 0, 0] [0, 0, 0, 0, 0, 0] [0, 0, 0, 0, 0, 0] (L.set j (rdCh r W (0 + 1) e)) h2' (by omega) (by omega) (by omega) rfl rfl rfl rfl (by
        intro i hi
        obtain rfl : i = 0 := by omega
        rw [hW']; rfl) s2' hj2
      rw [show 6 - 1 = 5 from rfl] at hl
      simp only [if_true]
      cases hn : numsH e 5 (W.drop 1) [] with
      | error p =>
        rw [hn] at hl
        obtain ⟨h', k', nn, e3, e4, e5, s3⟩ := hl
        rw [List.set_set] at s3
        refine ⟨h', k', nn, ?_, e4, s3⟩
        rw [e3, Option.bind_some, ret _ _ _ h' _ e5]
        rfl
      | ok M =>
        rw [hn] at hl
        obtain ⟨h', pl, e3, e4, e5, s3⟩ := hl
        rw [List.set_set] at s3
        obtain ⟨l1, _, l3⟩ := numsH_len hn
        have l3 := l3 (fun x hx => by cases hx)
        have hM5 : M.length = 5 := by simpa using l1
        have h5 := five hM5
        have hN6 : (0 :: M).length = 6 := by simp [hM5]
        have cN : h'.cellsAt 6 (nP N) = some (intsC (0 :: M)) := s3.getAll (i := 1) rfl (by rw [List.length_map, hN6])
        have m1 : M.getD 1 0 ∈ M := by rw [h5]; simp
        have m4 : M.getD 4 0 ∈ M := by rw [h5]; simp
        rw [e3, Option.bind_some, k_aag_reader_head_0_x0, cN, Option.bind_some]
        have hlim := limits_run (f + 1) (d + 4) (x := 0) (m := M.getD 0 0) (i := M.getD 1 0) (l := M.getD 2 0) (o := M.getD 3 0) (a := M.getD 4 0) (l3 _ m1) (l3 _ m4) h'
        rw [← h5] at hlim
        rw [hlim]
        have cR : ∀ u : AVal, ∃ h'' : AHeap, (h'.storeAt (intsC (0 :: M)) (nP R)) = some h'' ∧ h''.cellsAt 6 (nP R) = some (intsC (0 :: M)) ∧ Sep0 h0 h'' (L.set j (rdCh r W 6 e)) := fun _ => by
          obtain ⟨h'', q1, q2⟩ := s3.putAll (i := 2) (vs := intsC (0 :: M)) rfl rfl (by rw [List.length_map, hN6])
          exact ⟨h'', q1, q2.getAll (i := 2) rfl (by rw [List.length_map, hN6]), q2.tail.tail.tail⟩
        obtain ⟨h'', q1, q2, s4⟩ := cR .nilif
        simp only
        cases ht : limT (M.getD 0 0) (M.getD 1 0) (M.getD 2 0) (M.getD 3 0) (M.getD 4 0) with
        | none =>
          refine ⟨h'', ?_, s4⟩
          simp only [limA, Option.bind_some, tup2, cond_true, comp0, comp1, int_int, nilTest_nilif, Bool.not_true, cond_false]
          rw [cN, Option.bind_some, all6 hN6, cond_true, q1, Option.bind_some, q2]
          rfl
        | some kc =>
          obtain ⟨k, c⟩ := kc
          obtain ⟨hc1, hk6, _⟩ := limT_code ht
          refine ⟨h'', 6, 0 :: M, ?_, hN6, s4⟩
          have hcell : h'.cell (.mk ⟨P, 0, k⟩ 6) = some (.int .i64 ((W.getD k ⟨[], 0, false⟩).pos : Int)) := s3.part (i := 0) rfl hk6 (by rw [List.getElem?_map, List.getElem?_eq_getElem (by omega), Option.map_some, ← e5 k hk6, List.getD_eq_getElem?_getD, List.getElem?_eq_getElem (by omega)]; rfl)
          have hnt : nilTest .iface (errC c) = some false := by rcases hc1 with rfl | rfl <;> rfl
          simp only [limA, Option.bind_some, tup2, cond_true, comp0, comp1, int_int, hnt, Bool.not_false, cN]
          rw [elem6 hk6, Option.bind_some, hcell, Option.bind_some, int_int, Option.bind_some, aatC (f + 1) (d + 4) hc1, Option.bind_some]
          simp only
          rw [cN, Option.bind_some, same_self, all6t hN6, cond_true, q1, Option.bind_some, q2]
          rfl
end
end Go.Proofs.YtmjbjgbcpaagmaaDoor

namespace Go.Proofs.YtmjbjgbcpaagmaaDoor
open Go.RowKit

def ciA : Except (Int × Int) Ci → AVal
  | .ok (i, A, O) => .tup [.agg (circC i A O), .nilif]
  | .error (c, p) => .tup [.agg (circC 0 [] []), atV p (errC c)]
theorem limT_none {m i l o a : Int} (h : limT m i l o a = none) : i ≤ 8000 ∧ i + a ≤ 8000 ∧ o ≤ 8000 ∧ m = i + a ∧ l = 0 := by
  unfold limT at h
  by_cases b1 : 8000 < i
  · rw [if_pos b1] at h; cases h
  rw [if_neg b1] at h
  by_cases b2 : 8000 < i + a
  · rw [if_pos b2] at h; cases h
  rw [if_neg b2] at h
  by_cases b3 : 8000 < o
  · rw [if_pos b3] at h; cases h
  rw [if_neg b3] at h
  by_cases b4 : m = i + a
  · rw [if_neg (show ¬ m ≠ i + a from fun q => q b4)] at h
    by_cases b5 : l = 0
    · exact ⟨by omega, by omega, by omega, b4, b5⟩
    · rw [if_pos b5] at h; cases h
  · rw [if_pos b4] at h; cases h
theorem freeze_pairs {h : AHeap} (n : Nat) (A : List (Int × Int)) : (pairsC A).mapM (freezeV h (n + 1)) = some (pairsC A) := mapM_freezeN (fun _ => mm2 rfl rfl) A
theorem zero3_fr {c : Int} (hc : c = 101 ∨ c = 102) (p : Int) (h : AHeap) : freezeV h 8 (.tup [.agg zero3, atV p (errC c)]) = some (ciA (.error (c, p))) := by
  rcases hc with rfl | rfl <;> exact freeze_tup2 _ (freeze_agg 6 (mm3 rfl rfl rfl)) rfl
theorem aread_body (fuel d : Nat) {b : List UInt8} (hf : b.length + 20000 < fuel) (hb : b.length < 1000000) : ∃ v h', brun fuel (d + 9) F_aag_Read [.slice (lstU b)] AHeap.none = some (v, h') ∧ freezeV h' 8 v = some (ciA (readC b)) := by
  have hl := split_len b false
  have hne := split_ne b false
  have s0 := (Sep0.start AHeap.none).push 1 3 (cs := zero3) rfl
  rw [e_aag_Read, len_lst, bif_neg (by omega), split_run fuel (d + 5) (by omega) (by omega), Option.bind_some, slice_slice, Option.bind_some]
  unfold readC
  generalize splitOf b false = W at hl hne
  generalize AHeap.none.next = R at s0
  generalize AHeap.push AHeap.none 1 [(AVal.int .i64 (0 : Int)), (.slice Sl.nil), (.slice Sl.nil)] = H at s0
  have s1 := (s0.push 1 3 (cs := [.slice (lstW W), .int .i64 (0 : Int), .int .i64 (b.length : Int)]) rfl).cons
  have s1' : Sep0 AHeap.none (H.push 1 [.slice (lstW W), .int .i64 (0 : Int), .int .i64 (b.length : Int)]) [rdCh H.next W 0 (b.length : Int), .own 1 R 0 3 zero3] := s1
  have hd := head_run2 fuel (d + 2) (h0 := AHeap.none) (j := 0) (by omega) s1' rfl
  generalize H.next = r at s1' hd
  simp only
  generalize (H.push 1 [.slice (lstW W), .int .i64 (0 : Int), .int .i64 (b.length : Int)]) = H2 at s1' hd
  have zero : ∀ {h1 : AHeap} {L : List Chunk} {c p : Int} {zs : List AVal}, (c = 101 ∨ c = 102) → zs.length = 3 → Sep0 AHeap.none h1 (.own 1 R 0 3 zs :: L) → ∃ v h', ((AHeap.storeAt h1 [(.int .i64 (0 : Int)), (.slice Sl.nil), (.slice Sl.nil)] (Pt.mk ⟨R, 0, 0⟩ 3)).bind fun h13 =>
    (((((AHeap.cellsAt h13 3 (Pt.mk ⟨R, 0, 0⟩ 3)).bind fun c15 =>
    some ((AVal.agg c15)) : Option AVal).bind fun v14 =>
    some [v14, atV p (errC c)]) : Option (List AVal)).map AVal.tup).map fun v => (v, h13)) = some (v, h') ∧ freezeV h' 8 v = some (ciA (.error (c, p))) := by
    intro h1 L c p zs hc hz s
    obtain ⟨h', e1, e2, _⟩ := ret_put s hz (vs := zero3) rfl
    rw [e1, Option.bind_some, e2]
    exact ⟨_, h', rfl, zero3_fr hc p h'⟩
  cases hh : headA (b.length : Int) W with
  | error cp =>
    obtain ⟨c, p⟩ := cp
    rw [hh] at hd
    have hc := headA_code hh
    obtain ⟨h1, k', nn, e1, e2, s2⟩ := hd
    rw [set0] at s2
    have s3 := (s2.push 1 6 (cs := intsC [0, 0, 0, 0, 0, 0]) rfl).cons
    obtain ⟨h2, e3, s4⟩ := s3.putAll (i := 0) (vs := intsC nn) rfl rfl (by rw [List.length_map, e2])
    rw [e1]
    simp only [Option.bind_some, tup2, cond_true, comp0, comp1, agg_agg]
    rw [all6 e2, cond_true]
    rw [show [(AVal.int .i64 (0 : Int)), (.int .i64 (0 : Int)), (.int .i64 (0 : Int)), (.int .i64 (0 : Int)), (.int .i64 (0 : Int)), (.int .i64 (0 : Int))] = intsC [0, 0, 0, 0, 0, 0] from rfl, e3, Option.bind_some, errC_no, Option.bind_some, Bool.not_false, cond_true]
    exact zero (L := []) hc rfl (s4.tail.tail)
  | ok M =>
    rw [hh] at hd
    obtain ⟨hM5, hMr, hlim⟩ := headA_ok hh
    obtain ⟨l1, l2, l3, l4, l5⟩ := limT_none hlim
    have h5 := five hM5
    have hN6 : (0 :: M).length = 6 := by simp [hM5]
    have m1 : M.getD 1 0 ∈ M := by rw [h5]; simp
    have m3 : M.getD 3 0 ∈ M := by rw [h5]; simp
    have m4 : M.getD 4 0 ∈ M := by rw [h5]; simp
    have q1 := hMr _ m1
    have q3 := hMr _ m3
    have q4 := hMr _ m4
    obtain ⟨h1, e1, s2⟩ := hd
    rw [set0] at s2
    have s3 := (s2.push 1 6 (cs := intsC [0, 0, 0, 0, 0, 0]) rfl).cons
    obtain ⟨h2, e3, e4, s4⟩ := ret_put s3 rfl (vs := intsC (0 :: M)) (by rw [List.length_map, hN6])
    rw [e1]
    simp only [Option.bind_some, tup2, cond_true, comp0, comp1, agg_agg]
    rw [all6 hN6, cond_true]
    rw [show [(AVal.int .i64 (0 : Int)), (.int .i64 (0 : Int)), (.int .i64 (0 : Int)), (.int .i64 (0 : Int)), (.int .i64 (0 : Int)), (.int .i64 (0 : Int))] = intsC [0, 0, 0, 0, 0, 0] from rfl, e3, Option.bind_some, nilTest_nilif, Option.bind_some, Bool.not_true, cond_false, e4, Option.bind_some]
    have bd := abody_run fuel d (h0 := AHeap.none) (j := 1) (r := r) (W := W) (e := (b.length : Int)) (by omega) (k := 6) (m := M.getD 0 0) (i := M.getD 1 0) (l := M.getD 2 0) (o := M.getD 3 0) (a := M.getD 4 0) (nn := 0 :: M) (by rw [← h5]) (by omega) (by omega) (by omega) (by omega) (by omega) (by omega) hne s4 rfl
    cases hbd : bodyT (b.length : Int) (M.getD 0 0) (M.getD 1 0) (M.getD 3 0) (M.getD 4 0) (W.drop 6) with
    | error p =>
      rw [hbd] at bd
      obtain ⟨h3, k', e5, s5⟩ := bd
      rw [set1] at s5
      obtain ⟨h4, e6, e7, s6⟩ := ret_put s5.tail.tail rfl (vs := zero3) rfl
      rw [e5]
      simp only [Option.bind_some, tup2, cond_true, comp0, comp1, agg_agg]
      rw [show (!false && Nat.beq (List.length zero3) 3 && List.all zero3 AVal.isCell) = true from rfl, cond_true, e6, Option.bind_some, e7]
      exact ⟨_, h4, rfl, zero3_fr (c := 101) (.inl rfl) p h4⟩
    | ok c =>
      obtain ⟨i', A, O⟩ := c
      rw [hbd] at bd
      obtain ⟨rfl, h3, sA, sO, k', e5, s5⟩ := bd
      rw [set1] at s5
      have s5' := s5.perm (L' := [Chunk.own 1 R 0 3 zero3] ++ [.grown 1 sO (intsC O), .grown 2 sA (pairsC A), .own 1 h1.next 0 6 (intsC (0 :: M)), rdCh r W k' (b.length : Int)]) (List.perm_append_comm (l₁ := [Chunk.grown 1 sO (intsC O), .grown 2 sA (pairsC A), .own 1 h1.next 0 6 (intsC (0 :: M)), rdCh r W k' (b.length : Int)]) (l₂ := [Chunk.own 1 R 0 3 zero3]))
      obtain ⟨h4, e6, e7, s6⟩ := ret_put s5' rfl (vs := [.int .i64 (M.getD 1 0), .slice sA, .slice sO]) rfl
      rw [e5]
      simp only [Option.bind_some, tup2, cond_true, comp0, comp1, agg_agg]
      rw [show (!false && Nat.beq (List.length [AVal.int .i64 (M.getD 1 0), .slice sA, .slice sO]) 3 && List.all [AVal.int .i64 (M.getD 1 0), .slice sA, .slice sO] AVal.isCell) = true from rfl, cond_true, e6, Option.bind_some, e7]
      refine ⟨_, h4, rfl, ?_⟩
      have gO := s6.sep.grown (i := 1) rfl
      have gA := s6.sep.grown (i := 2) rfl
      have lO := gO.len
      have lA := gA.len
      rw [pairsC_len] at lA
      rw [List.length_map, Nat.mul_one] at lO
      refine freeze_tup2 _ (freeze_agg 6 (mm3 rfl ?_ ?_)) rfl
      · rw [gA.freeze (n := 5) (by omega) (freeze_pairs 4 A), show sA.len = A.length by omega]
      · rw [gO.freeze (n := 5) (by omega) (mapM_freeze (g := AVal.int .i64) (fun _ => rfl) O), show sO.len = O.length by omega]
theorem aread_run (fuel d : Nat) {b : List UInt8} (hf : b.length + 20000 < fuel) (hb : b.length < 1000000) (h : AHeap) : run fuel (d + 9) F_aag_Read [.slice (lstU b)] h = some (ciA (readC b), h) := by
  obtain ⟨v, h', e1, e2⟩ := aread_body fuel d hf hb
  exact pure_of rfl rfl (cc1 (canon_lstU 7 b)) e1 e2
theorem aread_nil (fuel d : Nat) (hf : 20000 < fuel) (h : AHeap) : run fuel (d + 9) F_aag_Read [.slice .nil] h = some (ciA (readC []), h) := by
  obtain ⟨v, h', e1, e2⟩ := aread_body fuel d (b := []) (by simp; omega) (by simp)
  exact pure_of rfl rfl (cc1 (canon_nil 7)) e1 e2
end Go.Proofs.YtmjbjgbcpaagmaaDoor

namespace Go.Proofs.YtmjbjgbcpaagmaaDoor
open Go.RowKit

theorem fault_put {h0 h : AHeap} {B : Nat} {L : List Chunk} {i : Nat} {cs : List AVal} (hs : Sep0 h0 h L) (hi : L[i]? = some (.own 1 B 0 3 cs)) (hcs : cs.length = 3) (c : Int) (p : Bool) (x : Int) :
    ∃ h', h.storeAt (faultC c p x) (.mk ⟨B, 0, 0⟩ 3) = some h' ∧ h'.cellsAt 3 (.mk ⟨B, 0, 0⟩ 3) = some (faultC c p x) ∧ Sep0 h0 h' (L.set i (.own 1 B 0 3 (faultC c p x))) := by
  obtain ⟨h', e1, s1⟩ := hs.put (o := 0) (l := 3) (vs := faultC c p x) hi (by simp [faultC]) (by simp [faultC, hcs])
  have e : cs.take 0 ++ faultC c p x ++ cs.drop (0 + (faultC c p x).length) = faultC c p x := by
    rw [List.take_zero, List.nil_append, List.drop_eq_nil_of_le (by simp [faultC, hcs]), List.append_nil]
  rw [e] at s1
  have hlt := (List.getElem?_eq_some_iff.1 hi).1
  have ho : Own h' 1 B 0 3 (faultC c p x) := s1.sep.own (i := i) (by rw [List.getElem?_set_self hlt])
  exact ⟨h', e1, ho.parts (by omega) (by simp [faultC]), s1⟩
theorem okF (c : Int) (p : Bool) (x : Int) : (!false && Nat.beq (List.length (faultC c p x)) 3 && List.all (faultC c p x) AVal.isCell) = true := rfl
end Go.Proofs.YtmjbjgbcpaagmaaDoor

namespace Go.Proofs.YtmjbjgbcpaagmaaDoor
open Go.RowKit

/-- the digits' loop, of the document's -/
theorem rnum_loop (fuel d : Nat) {t : List UInt8} {m : Bool} (ht : t.length ≤ 9) (h : AHeap) : ∀ (n k : Nat) (a : Int), t.length < n + k → k ≤ t.length → 0 ≤ a → a < 10 ^ k →
    (l_skolemref1_Number_0 fuel d n [(0, .str (tx t)), (4, .bool m), (5, .int .i64 a), (6, .int .i64 (k : Int))] h).bind (fun p => k_skolemref1_Number_1 fuel d p.1 p.2.1 p.2.2) =
      some (.tup [.int .i64 (if (t.drop k).all isDig = true then (if m = true then -valI a (t.drop k) else valI a (t.drop k)) else 0), .bool ((t.drop k).all isDig)], h) := by
  intro n
  induction n with
  | zero => intro k a h1 h2; omega
  | succ n ih =>
    intro k a h1 h2 h3 h4
    have hp := pow10_le (k := k) (by omega)
    rw [l_skolemref1_Number_0_eq, tx_size]
    by_cases hk : k < t.length
    · have hp2 := pow10_le (k := k + 1) (by omega)
      rw [Int.pow_succ] at hp2
      rw [bif_pos (by omega), drop_cons hk, List.all_cons, valI_cons]
      have hs := strAt_mk (l := t) (k := k) hk
      generalize t.getD k 0 = x at hs
      rw [hs]
      simp only [Option.bind_some]
      have e := dig_step x h (fun p => (bif p.1 then (some (.ret, [(2, (.int .i64 (0 : Int))), (3, (.bool false)), (4, (.bool m)), (5, (.int .i64 a))], p.2)) else
        l_skolemref1_Number_0 fuel d n [(0, (.str (tx t))), (4, (.bool m)), (5, (.int .i64 (IntKind.wrap .i64 ((IntKind.wrap .i64 ((10 : Int) * a)) + (IntKind.wrap .i64 (IntKind.wrap .u8 ((x.toNat : Int) - (48 : Int)))))))), (6, (.int .i64 (IntKind.wrap .i64 ((k : Int) + (1 : Int)))))] p.2)) (some (x.toNat : Int)) rfl
      simp only [Option.bind_some] at e
      rw [e]
      cases hx : isDig x with
      | false =>
        simp only [Bool.not_false, cond_true, Option.bind_some, k_skolemref1_Number_1_r, Bool.false_and, Bool.false_eq_true, if_false]
      | true =>
        obtain ⟨q1, q2⟩ := isDig_true hx
        simp only [Bool.not_true, cond_false, Bool.true_and]
        rw [wrapU8, wrap64 (n := 10 * a) (by omega) (by omega), wrap64 (n := ((x.toNat : Int) - 48) % 256) (by omega) (by omega), wrap64 (by omega) (by omega), sucU (by omega), show ((x.toNat : Int) - 48) % 256 = (x.toNat : Int) - 48 by omega]
        exact ih (k + 1) _ (by omega) (by omega) (by omega) (by rw [Int.pow_succ]; omega)
    · have : k = t.length := by omega
      subst this
      rw [bif_neg (by omega), List.drop_length]
      simp only [Option.bind_some, k_skolemref1_Number_1_x0, List.all_nil, if_true]
      cases m with
      | true => rw [cond_true, wrap64 (by omega) (by omega), show 0 - a = -a by omega]; rfl
      | false => rfl
theorem rNum_run (fuel d : Nat) (hf : 20 < fuel) (l : List UInt8) (h : AHeap) : run fuel (d + 1) F_skolemref1_Number [.str (tx l)] h = some (.tup [.int .i64 (numW l), .bool (okNum l)], h) := by
  refine pure_of rfl rfl (cc1 rfl) (r := .tup [.int .i64 (numW l), .bool (okNum l)]) (h' := AHeap.none) ?_ rfl
  rw [e_skolemref1_Number]
  have e := minus_step l AHeap.none (fun p => ((bif p.1 then ((aHi (none : Option AVal) (ByteArray.size (tx l))).bind fun hi4 =>
    (aLo (some (.int .i64 (1 : Int))) hi4).bind fun lo5 =>
    some (AExit.normal, [(0, (AVal.str (ByteArray.extract (tx l) lo5 hi4))), (4, (.bool p.1))], p.2)) else (some (.normal, [(0, (.str (tx l))), (4, (.bool p.1))], p.2)))).bind fun p6 =>
    k_skolemref1_Number_0 fuel d p6.1 p6.2.1 p6.2.2)
  rw [e]
  have step : (bif minusI l then ((aHi (none : Option AVal) (ByteArray.size (tx l))).bind fun hi4 =>
    (aLo (some (.int .i64 (1 : Int))) hi4).bind fun lo5 =>
    some (AExit.normal, [(0, (AVal.str (ByteArray.extract (tx l) lo5 hi4))), (4, (.bool (minusI l)))], AHeap.none)) else (some (.normal, [(0, (.str (tx l))), (4, (.bool (minusI l)))], AHeap.none))) =
      some (AExit.normal, [(0, .str (tx (digitsI l))), (4, .bool (minusI l))], AHeap.none) := by
    rw [← digits_tx]
    cases hm : minusI l with
    | true =>
      have := minus_pos hm
      rw [cond_true, aHi_none, Option.bind_some, tx_size, aLo_some (by omega) (by omega), Option.bind_some, if_pos rfl]
      rfl
    | false => rfl
  rw [step, Option.bind_some, k_skolemref1_Number_0_n, tx_size, or2]
  unfold numW okNum
  by_cases h0 : (digitsI l).length < 1 ∨ 9 < (digitsI l).length
  · rw [decide_eq_true (show (((digitsI l).length : Nat) : Int) < 1 ∨ 9 < (((digitsI l).length : Nat) : Int) by omega), decide_eq_true h0]
    simp
  · rw [decide_eq_false (show ¬ ((((digitsI l).length : Nat) : Int) < 1 ∨ 9 < (((digitsI l).length : Nat) : Int)) by omega), decide_eq_false h0, cond_false]
    have := rnum_loop fuel d (t := digitsI l) (m := minusI l) (by omega) AHeap.none fuel 0 0 (by omega) (by omega) (by omega) (by simp)
    rw [show ((0 : Nat) : Int) = 0 from rfl, List.drop_zero] at this
    rw [this]
    simp

end Go.Proofs.YtmjbjgbcpaagmaaDoor

namespace Go.Proofs.YtmjbjgbcpaagmaaDoor
open Go.RowKit

def blankI (c : Int) : Bool := bif (bif decide (c = 32) then true else decide (c = 9)) then true else decide (c = 13)
theorem blank_run (fuel d : Nat) (c : Int) (h : AHeap) : run fuel (d + 1) F_skolemref1_blank [.int .u8 c] h = some (.bool (blankI c), h) :=
  pure_of rfl rfl (cc1 rfl) (by rw [e_skolemref1_blank]) rfl
theorem isW_eq (x : UInt8) : isW x = (!decide ((x.toNat : Int) = 10) && !blankI (x.toNat : Int)) := by
  unfold isW kindI blankI
  by_cases h1 : (x.toNat : Int) = 32
  · simp [h1]
  · by_cases h2 : (x.toNat : Int) = 9
    · simp [h2]
    · by_cases h3 : (x.toNat : Int) = 13
      · simp [h3]
      · by_cases h4 : (x.toNat : Int) = 10
        · simp [h4]
        · simp [h1, h2, h3, h4]
theorem rsplit_in (fuel d : Nat) {h : AHeap} {s5 : Sl} {c f s : Bool} {x8 : Int} {b : List UInt8} (hb : b.length < 1000000000) : ∀ (n k : Nat), b.length < n + k → k ≤ b.length →
    l_skolemref1_Split_1 fuel (d + 1) n [(0, .slice (lstU b)), (1, .bool c), (5, .slice s5), (6, .bool f), (7, .bool s), (8, .int .i64 x8), (9, .int .i64 (k : Int))] h = some (.exit 3, [(0, .slice (lstU b)), (1, .bool c), (5, .slice s5), (6, .bool f), (7, .bool s), (8, .int .i64 x8), (9, .int .i64 (wEnd b k : Int))], h) := by
  intro n
  induction n with
  | zero => intro k h1 h2; omega
  | succ n ih =>
    intro k h1 h2
    rw [l_skolemref1_Split_1_eq, len_lst]
    by_cases hk : k < b.length
    · rw [decide_eq_true (show (k : Int) < (b.length : Int) by omega), addr_lstM _ (by omega) (by omega) 0]
      simp only [beq_self_eq_true, cond_true, Option.bind_some, cell_fp, int_int, Int.toNat_natCast, bool_bool]
      have hq := isW_eq (b.getD k 0)
      by_cases h10 : ((b.getD k 0).toNat : Int) = 10
      · rw [decide_eq_true h10] at hq ⊢
        rw [wEnd_out (by rw [hq]; rfl)]
        rfl
      · rw [decide_eq_false h10] at hq ⊢
        simp only [Bool.not_false, beq_self_eq_true, cond_true]
        rw [addr_lstM _ (by omega) (by omega) 0]
        simp only [Option.bind_some, cell_fp, int_int, Int.toNat_natCast, blank_run, bool_bool]
        cases hbl : blankI ((b.getD k 0).toNat : Int) with
        | true =>
          rw [hbl] at hq
          rw [wEnd_out (by rw [hq]; rfl)]
          rfl
        | false =>
          rw [hbl] at hq
          simp only [Bool.not_false, cond_true]
          rw [sucU (by omega), ih (k + 1) (by omega) (by omega), wEnd_in hk (by rw [hq]; rfl)]
    · have : k = b.length := by omega
      subst this
      rw [decide_eq_false (show ¬ (b.length : Int) < (b.length : Int) by omega), wEnd_end (Nat.le_refl _)]
      rfl

theorem rsplit_loop (fuel d : Nat) {b : List UInt8} {c : Bool} (hb : b.length < 1000000) (hf : b.length + 2 ≤ fuel) : ∀ (n k : Nat) (f s : Bool) (s5 : Sl) (acc : List Wd) (h : AHeap), b.length + 1 ≤ n + k → k ≤ b.length → Grown h 3 s5 (wdsC acc) → acc.length ≤ k →
    ∃ s' h', l_skolemref1_Split_0 fuel (d + 1) n [(0, .slice (lstU b)), (1, .bool c), (5, .slice s5), (6, .bool f), (7, .bool s), (8, .int .i64 (k : Int))] h = some (.exit 0, [(5, .slice s')], h') ∧ Grown h' 3 s' (wdsC (acc ++ refGo b c n k f s)) := by
  intro n
  induction n with
  | zero => intro k f s s5 acc h h1 h2; omega
  | succ n ih =>
    intro k f s s5 acc h h1 h2 hg hacc
    have h5l := hg.len
    rw [wdsC_len] at h5l
    rw [l_skolemref1_Split_0_eq, len_lst]
    by_cases hk : k < b.length
    · rw [bif_pos (by omega), addr_lstM _ (by omega) (by omega) 0]
      simp only [Option.bind_some, cell_fp, int_int, Int.toNat_natCast]
      have hr : refGo b c (n + 1) k f s = (if b.getD k 0 = 10 then refGo b c n (k + 1) true false else
        if isW (b.getD k 0) = true then (if (s || (c && f && b.getD k 0 == 99)) = true then [] else [⟨(b.drop k).take (wEnd b k - k), k, f⟩]) ++ refGo b c n (wEnd b k) false (s || (c && f && b.getD k 0 == 99))
        else refGo b c n (k + 1) f s) := by
        conv => lhs; unfold refGo
        rw [if_pos hk]
      rw [hr]
      have hq := isW_eq (b.getD k 0)
      have i10 := u8_is (b.getD k 0) 10
      rw [show (((10 : UInt8).toNat : Nat) : Int) = 10 from rfl] at i10
      by_cases h10 : ((b.getD k 0).toNat : Int) = 10
      · rw [bif_pos h10, if_pos (i10.1 h10), sucU (by omega)]
        exact ih (k + 1) true false s5 acc h (by omega) (by omega) hg (by omega)
      · rw [bif_neg h10, if_neg (fun e => h10 (i10.2 e))]
        simp only [Option.bind_some, cell_fp, int_int, Int.toNat_natCast, blank_run, bool_bool]
        rw [decide_eq_false h10] at hq
        cases hbl : blankI ((b.getD k 0).toNat : Int) with
        | true =>
          rw [hbl] at hq
          rw [if_neg (by rw [hq]; simp), cond_true, sucU (by omega)]
          exact ih (k + 1) f s s5 acc h (by omega) (by omega) hg (by omega)
        | false =>
          rw [hbl] at hq
          have hw : isW (b.getD k 0) = true := by rw [hq]; rfl
          have w3 : k + 1 ≤ wEnd b k := by rw [wEnd_in hk hw]; exact (wEnd_le (by omega)).1
          have w2 := (wEnd_le (b := b) (k := k) (by omega)).2
          rw [if_pos hw, cond_false, rsplit_in fuel d (by omega) fuel k (by omega) (by omega)]
          simp only [Option.bind_some, k_skolemref1_Split_1_x3]
          have rest : ∀ s' : Bool, ∃ t h', k_skolemref1_Split_2 fuel (d + 1) n .normal [(0, .slice (lstU b)), (1, .bool c), (5, .slice s5), (6, .bool f), (7, .bool s'), (8, .int .i64 (k : Int)), (9, .int .i64 (wEnd b k : Int))] h = some (.exit 0, [(5, .slice t)], h') ∧
              Grown h' 3 t (wdsC (acc ++ ((if s' = true then [] else [⟨(b.drop k).take (wEnd b k - k), k, f⟩]) ++ refGo b c n (wEnd b k) false s'))) := by
            intro s'
            rw [k_skolemref1_Split_2_n]
            cases s' with
            | true =>
              simp only [Bool.not_true, cond_false, if_true, List.nil_append]
              exact ih (wEnd b k) false true s5 acc h (by omega) (by omega) hg (by omega)
            | false =>
              simp only [Bool.not_false, cond_true, Bool.false_eq_true, if_false]
              rw [len_lst, aHi_some (by omega) (by omega), Option.bind_some, Int.toNat_natCast, aLo_some (by omega) (by omega), Option.bind_some, Int.toNat_natCast, aMx_none, Option.bind_some, hasSz_lstM, cond_true, cut_lstU b (by omega), cells_lstM]
              simp only [Option.bind_some, bytesFrom_bytesC]
              obtain ⟨t, h', g1, g2, g3⟩ := hg.snoc (bytes := 32) (vs := wdC ⟨(b.drop k).take (wEnd b k - k), k, f⟩) rfl (by omega) (by omega)
              unfold wdC at g1
              simp only at g1
              rw [g1, Option.bind_some]
              obtain ⟨t2, h2, q1, q2⟩ := ih (wEnd b k) false false t (acc ++ [⟨(b.drop k).take (wEnd b k - k), k, f⟩]) h' (by omega) (by omega) (by simpa [wdsC] using g2) (by simp; omega)
              refine ⟨t2, h2, q1, ?_⟩
              rw [← List.append_assoc]
              exact q2
          have i99 := u8_is (b.getD k 0) 99
          rw [show (((99 : UInt8).toNat : Nat) : Int) = 99 from rfl] at i99
          have hb99 : (b.getD k 0 == 99) = decide (((b.getD k 0).toNat : Int) = 99) := by
            by_cases h9 : b.getD k 0 = 99
            · rw [decide_eq_true (i99.2 h9), beq_iff_eq]; exact h9
            · rw [decide_eq_false (fun e => h9 (i99.1 e))]; exact beq_false_of_ne h9
          rw [hb99]
          cases c with
          | false =>
            simp only [cond_false, show ((false == true) : Bool) = false from rfl, Option.bind_some, bool_bool, Bool.false_and, Bool.or_false]
            exact rest s
          | true =>
            cases f with
            | false =>
              simp only [cond_true, cond_false, show ((false == true) : Bool) = false from rfl, Option.bind_some, bool_bool, Bool.false_and, Bool.or_false, Bool.and_false]
              exact rest s
            | true =>
              simp only [cond_true, beq_self_eq_true, Bool.true_and]
              rw [addr_lstM _ (by omega) (by omega) 0]
              simp only [Option.bind_some, cell_fp, int_int, Int.toNat_natCast, bool_bool]
              by_cases h9 : ((b.getD k 0).toNat : Int) = 99
              · rw [decide_eq_true h9, Bool.or_true]
                exact rest true
              · rw [decide_eq_false h9, Bool.or_false]
                exact rest s
    · rw [bif_neg (by omega)]
      refine ⟨s5, h, rfl, ?_⟩
      simp only [refGo]
      rw [if_neg hk, List.append_nil]
      exact hg
theorem rsplit_run (fuel d : Nat) {b : List UInt8} {c : Bool} (hb : b.length < 1000000) (hf : b.length + 2 ≤ fuel) (h : AHeap) : run fuel (d + 2) F_skolemref1_Split [.slice (lstU b), .bool c] h = some (.slice (lstW (splitOf b c)), h) := by
  obtain ⟨s', h', e1, g1⟩ := rsplit_loop fuel d hb hf (c := c) fuel 0 true false .nil [] AHeap.none (by omega) (by omega) .nil (by simp)
  refine pure_of rfl rfl (cc2 (canon_lstU 7 b) rfl) (r := .slice s') (h' := h') ?_ ?_
  · rw [e_skolemref1_Split]
    rw [show ((0 : Nat) : Int) = 0 from rfl] at e1
    rw [e1]
    simp only [Option.bind_some, k_skolemref1_Split_0_x0]
  · rw [show refGo b c fuel 0 true false = splitOf b c from by rw [splitOf_ref]; exact refGo_fuel _ _ _ _ _ (by omega) (by omega), List.nil_append] at g1
    have := g1.len
    rw [wdsC_len] at this
    rw [g1.freeze (n := 7) (by omega) (freeze_wdsC 6 _), show s'.len = (splitOf b c).length by omega]

end Go.Proofs.YtmjbjgbcpaagmaaDoor

namespace Go.Proofs.YtmjbjgbcpaagmaaDoor
open Go.RowKit

theorem Grown.freezeI {h : AHeap} {s : Sl} {l : List Int} (hg : Grown h 1 s (intsC l)) : freezeV h 8 (.slice s) = some (.slice (lstI l)) := by
  rw [hg.freeze (n := 7) (by omega) (freeze_intsC 6 _)]
  have := hg.len
  simp only [List.length_map, Nat.mul_one] at this
  rw [← this]
theorem Own.freezeI {h : AHeap} {id gen n : Nat} {c : Bool} {l : List Int} (ho : Own h 1 id gen n (intsC l)) : freezeV h 8 (.slice (.mk ⟨id, gen, 0⟩ n c)) = some (.slice (lstI l)) := by
  rw [ho.freeze (n := 7) c (freeze_intsC 6 _)]
  have := ho.len
  simp only [List.length_map, Nat.mul_one] at this
  rw [← this]
end Go.Proofs.YtmjbjgbcpaagmaaDoor

namespace Go.Proofs.YtmjbjgbcpaagmaaDoor
open Go.RowKit

/-- the number that stands first -/
def numP (f : Bool) (W : List Wd) : Option Int := (wF f W).bind fun w => if plainW w.text = true then some (numW w.text) else none
theorem numF_P (f : Bool) (lo hi : Int) (W : List Wd) : numF f lo hi W = (numP f W).bind fun x => if lo ≤ x ∧ x ≤ hi then some x else none := by
  unfold numF numP
  cases wF f W with
  | none => rfl
  | some w =>
    simp only [Option.bind_some]
    cases plainW w.text with
    | false => rfl
    | true =>
      simp only [Bool.true_and, if_true, Option.bind_some, Bool.and_eq_true, decide_eq_true_eq]
theorem numP_range {f : Bool} {W : List Wd} {x : Int} (h : numP f W = some x) : 0 ≤ x ∧ x ≤ 999999999 := by
  unfold numP at h
  cases hw : wF f W with
  | none => rw [hw] at h; cases h
  | some w =>
    rw [hw, Option.bind_some] at h
    split at h
    · rename_i hp
      cases h
      exact plainW_range hp
    · cases h
section
variable (fuel d : Nat) {W : List Wd}
theorem rcount_run (hf : 20 < fuel) (hne : ∀ w ∈ W, w.text ≠ []) (k : Nat) (f : Bool) (h : AHeap) :
    run fuel (d + 2) F_skolemref8_count [.slice (lstW W), .int .i64 (k : Int), .bool f] h = some (.tup [.int .i64 ((numP f (W.drop k)).getD 0), .bool (numP f (W.drop k)).isSome], h) := by
  refine pure_of rfl rfl (cc3 (canon_lst (closedL_flatMap closed_wdC W)) rfl rfl) (r := .tup [.int .i64 ((numP f (W.drop k)).getD 0), .bool (numP f (W.drop k)).isSome]) (h' := AHeap.none) ?_ rfl
  rw [e_skolemref8_count, len_lst]
  by_cases hk : k < W.length
  · have hn : (W.getD k ⟨[], 0, false⟩).text ≠ [] := hne _ (by simp [List.getD, hk])
    rw [decide_eq_false (show ¬ (W.length : Int) ≤ (k : Int) by omega), drop_wd hk]
    have ha : ∀ h : AHeap, h.addr 3 (lstW W) (k : Int) = some (.fp 0 (wdC (W.getD k ⟨[], 0, false⟩))) := fun h => waddr h hk
    generalize W.getD k ⟨[], 0, false⟩ = w at hn ha
    have hpos := List.length_pos_iff.2 hn
    have hs := strAt_mk (l := w.text) (k := 0) hpos
    rw [show ((0 : Nat) : Int) = 0 from rfl] at hs
    have e := u8_dec (w.text.getD 0 0) 45
    rw [show (((45 : UInt8).toNat : Nat) : Int) = 45 from rfl] at e
    have hm : minusI w.text = (w.text.getD 0 0 == 45) := by unfold minusI; rw [decide_eq_true hpos, Bool.true_and]
    simp only [beq_self_eq_true, cond_true, ha, wf0, wf2, wc0, Option.bind_some, cell_fp, bool_bool, str_str, hs]
    rw [e, ← hm]
    unfold numP
    rw [wF_cons]
    cases hfi : w.first == f with
    | false =>
      simp only [Bool.not_false, show ((true == false) : Bool) = false from rfl, cond_false, Option.bind_some, bool_bool, cond_true, Bool.false_eq_true, if_false, Option.bind_none, Option.getD_none, Option.isSome_none]
    | true =>
      simp only [Bool.not_true, beq_self_eq_true, cond_true, Option.bind_some, bool_bool, if_true]
      unfold plainW
      cases hmi : minusI w.text with
      | true => simp
      | false =>
        simp only [cond_false, ha, wf0, wc0, Option.bind_some, str_str]
        rw [rNum_run fuel d hf]
        simp only [Option.bind_some, isTup_tup, List.length_cons, List.length_nil, Nat.beq, cond_true, comp_tup, List.getElem?_cons_zero, List.getElem?_cons_succ, int_int, bool_bool, Bool.not_false, Bool.and_true]
        cases hok : okNum w.text with
        | true => rfl
        | false =>
          unfold numW
          rw [hok]
          rfl
  · rw [decide_eq_true (show (W.length : Int) ≤ (k : Int) by omega), List.drop_eq_nil_of_le (by omega)]
    rfl
theorem rtext_run (k : Nat) (e : Int) (h : AHeap) : run fuel (d + 2) F_skolemref8_text [.slice (lstW W), .int .i64 (k : Int), .int .i64 e] h = some (.agg (faultC 101 true (posW e (W.drop k))), h) := by
  have s0 := (Sep0.start AHeap.none).push 1 3 (cs := faultC 0 false 0) rfl
  obtain ⟨h', e1, e2, _⟩ := fault_put s0 (i := 0) rfl rfl 101 true (posW e (W.drop k))
  refine pure_of rfl rfl (cc3 (canon_lst (closedL_flatMap closed_wdC W)) rfl rfl) (r := .agg (faultC 101 true (posW e (W.drop k)))) (h' := h') ?_ (freeze_fault 101 true _)
  rw [e_skolemref8_text, len_lst]
  rw [show [(AVal.int .i64 (0 : Int)), (.bool false), (.int .i64 (0 : Int))] = faultC 0 false 0 from rfl]
  by_cases hk : k < W.length
  · rw [drop_wd hk] at e1 e2 ⊢
    rw [bif_pos (by omega), waddr _ hk]
    simp only [Option.bind_some, wf1, cell_fp, int_int]
    rw [Placed_run fuel d (show (101 : Int) ≠ 0 by omega)]
    simp only [Option.bind_some, agg_agg]
    rw [cond_pos _ _ (okF 101 true _), show posW e (W.getD k ⟨[], 0, false⟩ :: W.drop (k + 1)) = ((W.getD k ⟨[], 0, false⟩).pos : Int) from rfl] at *
    rw [e1, Option.bind_some, e2]
    rfl
  · rw [List.drop_eq_nil_of_le (by omega)] at e1 e2 ⊢
    rw [bif_neg (by omega), Placed_run fuel d (show (101 : Int) ≠ 0 by omega)]
    simp only [Option.bind_some, agg_agg]
    rw [show posW e [] = e from rfl] at e1 e2 ⊢
    rw [cond_pos _ _ (okF 101 true _), e1, Option.bind_some, e2]
    rfl
/-- the word whose number is too great -/
def limR (m i l o a : Int) : Int := if 8000 < i then 2 else if 8000 < a ∨ 8000 < i + a then 5 else if 8000 < o then 4 else -1
theorem rlim_run {m i l o a : Int} (hi : 0 ≤ i ∧ i ≤ 999999999) (ha : 0 ≤ a ∧ a ≤ 999999999) {h : AHeap} {s : Sl} (hs : freezeV h 8 (.slice s) = some (.slice (lstI [m, i, l, o, a]))) : run fuel (d + 1) F_skolemref8_limits [.slice s] h = some (.int .i64 (limR m i l o a), h) := by
  refine run_val rfl rfl (mm1 hs) (r := .int .i64 (limR m i l o a)) (h' := AHeap.none) ?_ rfl rfl
  rw [e_skolemref8_limits]
  have ad : ∀ (q : Int) (p : Nat) (x : Int), q = p → [m, i, l, o, a][p]? = some x → AHeap.none.addr 1 (lstI [m, i, l, o, a]) q = some (.fp 0 [.int .i64 x]) := by
    intro q p x hq hp
    subst hq
    have hlt := (List.getElem?_eq_some_iff.1 hp).1
    rw [addr_lstM _ (by omega) (by rw [Int.toNat_natCast]; exact hlt) 0, Int.toNat_natCast, List.getD_eq_getElem?_getD, hp]
    rfl
  simp only [ad 1 1 i rfl rfl, ad 4 4 a rfl rfl, ad 3 3 o rfl rfl, Option.bind_some, cell_fp, int_int]
  rw [wrap64 (n := i + a) (by omega) (by omega)]
  unfold limR
  by_cases b1 : 8000 < i
  · rw [bif_pos b1, if_pos b1]
  rw [bif_neg b1, if_neg b1]
  by_cases b2 : 8000 < a
  · rw [bif_pos b2, if_pos (.inl b2)]
    simp only [Option.bind_some, k_skolemref8_limits_0_n, cond_true]
  rw [bif_neg b2]
  simp only [Option.bind_some, k_skolemref8_limits_0_n]
  by_cases b3 : 8000 < i + a
  · rw [bif_pos b3, if_pos (.inr b3)]
  rw [bif_neg b3, if_neg (by omega)]
  simp only [ad 3 3 o rfl rfl, Option.bind_some, cell_fp, int_int]
  by_cases b4 : 8000 < o
  · rw [bif_pos b4, if_pos b4]
  · rw [bif_neg b4, if_neg b4]
end
end Go.Proofs.YtmjbjgbcpaagmaaDoor

namespace Go.Proofs.YtmjbjgbcpaagmaaDoor
open Go.RowKit

theorem rfin {h0 h : AHeap} {R F : Nat} {P : Pt} {X : List Chunk} {rz fz vs : List AVal} (hs : Sep0 h0 h (.own 1 R 0 3 rz :: .own 1 F 0 3 fz :: X)) (hr : rz.length = 3) (hz : fz.length = 3) (hP : h.cellsAt 3 P = some vs) (hv : vs.length = 3) (hvs : (!false && Nat.beq (List.length vs) 3 && List.all vs AVal.isCell) = true) (c p : Int) (q : Bool) :
    ∃ h', h'.cellsAt 3 (rdP R) = some vs ∧ h'.cellsAt 3 (rdP F) = some (faultC c q p) ∧ Sep0 h0 h' (.own 1 R 0 3 vs :: .own 1 F 0 3 (faultC c q p) :: X) ∧ ∀ {β : Type} (K : AHeap → Option β), ((h.cellsAt 3 P).bind fun c6 => (some (AVal.agg (faultC c q p), h)).bind fun r7 => (AVal.agg? r7.1).bind fun c8 => same ((AHeap.cellsAt r7.2 3 P).bind fun c11 => some ((AVal.agg c11), r7.2)) ((AVal.agg c6), r7.2) (bif (!false && Nat.beq (List.length c6) 3 && List.all c6 AVal.isCell) then ((AHeap.storeAt r7.2 c6 (rdP R)).bind fun h9 => (bif (!false && Nat.beq (List.length c8) 3 && List.all c8 AVal.isCell) then ((AHeap.storeAt h9 c8 (rdP F)).bind fun h10 => K h10) else none)) else none)) = K h' := by
  obtain ⟨h1, e1, s1⟩ := hs.putAll (i := 0) (vs := vs) rfl hr hv
  obtain ⟨h2, e2, e3, s2⟩ := fault_put (c := c) (p := q) (x := p) s1 (i := 1) rfl hz
  refine ⟨h2, s2.getAll (i := 0) rfl hv, e3, s2, fun K => ?_⟩
  rw [hP, Option.bind_some, Option.bind_some]
  simp only [agg_agg, Option.bind_some]
  rw [hP, Option.bind_some, same_self, cond_pos _ _ hvs, e1, Option.bind_some, cond_pos _ _ (okF c q p), e2, Option.bind_some]
theorem zero3_ok : (!false && Nat.beq (List.length zero3) 3 && List.all zero3 AVal.isCell) = true := rfl
theorem numsH_P (e : Int) (n : Nat) (W : List Wd) (acc : List Int) : numsH e (n + 1) W acc = match numP false W with
    | none => .error (posW e W)
    | some x => numsH e n (W.drop 1) (acc ++ [x]) := by
  conv => lhs; unfold numsH
  unfold numP
  cases hw : wF false W with
  | none => rfl
  | some w =>
    obtain ⟨W', rfl⟩ := wF_head hw
    simp only [Option.bind_some]
    cases plainW w.text <;> rfl
theorem nGet {h : AHeap} {s : Sl} {N : List Int} (hg : Grown h 1 s (intsC N)) (q : Int) (p : Nat) {x : Int} (hq : q = p) (hx : N[p]? = some x) : h.addr 1 s q = some (s.at 1 q) ∧ h.cell (s.at 1 q) = some (.int .i64 x) := by
  have hl := hg.len
  rw [List.length_map, Nat.mul_one] at hl
  have hlt := (List.getElem?_eq_some_iff.1 hx).1
  subst hq
  refine ⟨addr_at hg.cells (by omega) (by omega), cell_at hg.cells (by omega) ?_⟩
  rw [Int.toNat_natCast, List.getElem?_map, hx]; rfl
theorem isS {α : Type} (x : Option α) : x.isSome = true ↔ ∃ y, x = some y := Option.isSome_iff_exists

section
variable (fuel d : Nat) (hf : 20 < fuel) {h0 : AHeap} {R F Z C : Nat} {W : List Wd} {b : List UInt8} (hne : ∀ w ∈ W, w.text ≠ [])
include hf hne
theorem rloop0 : ∀ (n k : Nat) (acc : List Int) (s : Sl) (h : AHeap), 6 < n + k → 1 ≤ k → k ≤ 6 → acc.length + 1 = k → Sep0 h0 h [.own 1 R 0 3 zero3, .own 1 F 0 3 (faultC 0 false 0), .own 1 Z 0 3 zero3, .grown 1 s (intsC acc)] →
    match numsH (b.length : Int) (6 - k) (W.drop k) acc with
    | .error p => ∃ h' s', l_skolemref8_ReadAag_0 fuel (d + 2) n [(0, .slice (lstU b)), (2, .ptr (rdP R)), (3, .ptr (rdP F)), (4, .ptr (rdP Z)), (5, .slice (lstW W)), (6, .slice s), (7, .int .i64 (k : Int))] h = some (.ret, [(0, .slice (lstU b)), (2, .ptr (rdP R)), (3, .ptr (rdP F)), (4, .ptr (rdP Z)), (5, .slice (lstW W)), (6, .slice s')], h') ∧ h'.cellsAt 3 (rdP R) = some zero3 ∧ h'.cellsAt 3 (rdP F) = some (faultC 101 true p)
    | .ok M => ∃ h' s', l_skolemref8_ReadAag_0 fuel (d + 2) n [(0, .slice (lstU b)), (2, .ptr (rdP R)), (3, .ptr (rdP F)), (4, .ptr (rdP Z)), (5, .slice (lstW W)), (6, .slice s), (7, .int .i64 (k : Int))] h = some (.exit 0, [(0, .slice (lstU b)), (2, .ptr (rdP R)), (3, .ptr (rdP F)), (4, .ptr (rdP Z)), (5, .slice (lstW W)), (6, .slice s')], h') ∧ Sep0 h0 h' [.own 1 R 0 3 zero3, .own 1 F 0 3 (faultC 0 false 0), .own 1 Z 0 3 zero3, .grown 1 s' (intsC M)] := by
  intro n
  induction n with
  | zero => intro k acc s h h1 h2; omega
  | succ n ih =>
    intro k acc s h h1 h2 h3 ha hs
    have hsl := hs.len (i := 3) rfl
    rw [List.length_map, Nat.mul_one] at hsl
    rw [l_skolemref8_ReadAag_0_eq]
    by_cases hk : k < 6
    · rw [bif_pos (by omega), rcount_run fuel d hf hne k, show 6 - k = (6 - (k + 1)) + 1 by omega, numsH_P]
      simp only [Option.bind_some, tup2, cond_true, comp0, comp1, int_int, bool_bool]
      cases hq : numP false (W.drop k) with
      | none =>
        obtain ⟨h', e1, e2, _, e3⟩ := rfin hs rfl rfl (hs.getAll (i := 2) rfl rfl) rfl zero3_ok 101 (posW (b.length : Int) (W.drop k)) true
        refine ⟨h', s, ?_, e1, e2⟩
        simp only [Option.isSome_none, Bool.not_false, cond_true]
        rw [rtext_run fuel d, len_lst] at *
        exact e3 _
      | some x =>
        simp only [Option.isSome_some, Bool.not_true, cond_false, Option.getD_some]
        obtain ⟨s', h', e1, s1, _⟩ := hs.grow (i := 3) (bytes := 8) (m := 1) (vs := [.int .i64 x]) rfl rfl (by omega) (by omega)
        rw [set3, show intsC acc ++ [AVal.int .i64 x] = intsC (acc ++ [x]) by simp] at s1
        have := ih (k + 1) (acc ++ [x]) s' h' (by omega) (by omega) (by omega) (by simp; omega) s1
        rw [e1]
        simp only [Option.bind_some]
        rw [sucU (by omega), List.drop_drop]
        exact this
    · obtain rfl : k = 6 := by omega
      rw [bif_neg (by omega), Nat.sub_self]
      unfold numsH
      exact ⟨h, s, rfl, hs⟩

abbrev rdS (R F Z C : Nat) (i : Int) (nn : List Int) (sN sO sA : Sl) (O : List Int) (A : List (Int × Int)) : List Chunk :=
  [.own 1 R 0 3 zero3, .own 1 F 0 3 (faultC 0 false 0), .own 1 Z 0 3 zero3, .grown 1 sN (intsC nn), .own 1 C 0 3 [.int .i64 i, .slice sA, .slice sO], .grown 1 sO (intsC O), .grown 2 sA (pairsC A)]
variable {i : Int} {nn : List Int} {sN : Sl}
theorem rloop1 {I : Nat} (hI : I ≤ 10000) (hnI : nn[1]? = some (I : Int)) {sO sA : Sl} {O : List Int} {A : List (Int × Int)} : ∀ (n m k : Nat) (h : AHeap), I < n + m → m ≤ I → k + (I - m) < 900000000 → Sep0 h0 h (rdS R F Z C i nn sN sO sA O A) →
    match insT (b.length : Int) m (I - m) (W.drop k) with
    | .error p => ∃ h' u, l_skolemref8_ReadAag_1 fuel (d + 2) n [(0, .slice (lstU b)), (2, .ptr (rdP R)), (3, .ptr (rdP F)), (4, .ptr (rdP Z)), (5, .slice (lstW W)), (6, .slice sN), (11, .ptr (rdP C)), (12, .int .i64 (k : Int)), (13, .int .i64 (m : Int))] h = some (.ret, [(0, .slice (lstU b)), (2, .ptr (rdP R)), (3, .ptr (rdP F)), (4, .ptr (rdP Z)), (5, .slice (lstW W)), (6, .slice sN), (11, .ptr (rdP C)), (12, u)], h') ∧ h'.cellsAt 3 (rdP R) = some zero3 ∧ h'.cellsAt 3 (rdP F) = some (faultC 101 true p)
    | .ok W' => l_skolemref8_ReadAag_1 fuel (d + 2) n [(0, .slice (lstU b)), (2, .ptr (rdP R)), (3, .ptr (rdP F)), (4, .ptr (rdP Z)), (5, .slice (lstW W)), (6, .slice sN), (11, .ptr (rdP C)), (12, .int .i64 (k : Int)), (13, .int .i64 (m : Int))] h = some (.exit 2, [(0, .slice (lstU b)), (2, .ptr (rdP R)), (3, .ptr (rdP F)), (4, .ptr (rdP Z)), (5, .slice (lstW W)), (6, .slice sN), (11, .ptr (rdP C)), (12, .int .i64 ((k + (I - m) : Nat) : Int))], h) ∧ W' = W.drop (k + (I - m)) := by
  intro n
  induction n with
  | zero => intro m k h h1 h2; omega
  | succ n ih =>
    intro m k h h1 h2 hk9 hs
    obtain ⟨g1, g2⟩ := nGet (hs.sep.grown (i := 3) rfl) (1 : Int) 1 rfl hnI
    rw [l_skolemref8_ReadAag_1_eq, g1, Option.bind_some, g2, Option.bind_some, int_int, Option.bind_some]
    by_cases hm : m < I
    · rw [bif_pos (by omega), rcount_run fuel d hf hne k, show I - m = (I - (m + 1)) + 1 by omega, wrap64 (n := (m : Int) + 1) (by omega) (by omega), wrap64 (n := 2 * ((m : Int) + 1)) (by omega) (by omega)]
      unfold insT
      rw [numF_P]
      simp only [Option.bind_some, tup2, cond_true, comp0, comp1, int_int, bool_bool]
      obtain ⟨h', e1, e2, _, e3⟩ := rfin hs rfl rfl (hs.getAll (i := 2) rfl rfl) rfl zero3_ok 101 (posW (b.length : Int) (W.drop k)) true
      have bad : ∀ c : Bool, c = true → ∃ h' u, (bif c then ((AHeap.cellsAt h 3 (rdP Z)).bind fun c9 =>
          (run fuel (d + 2) F_skolemref8_text [(.slice (lstW W)), (.int .i64 (k : Int)), (.int .i64 (((lstU b).len : Nat) : Int))] h).bind fun r10 =>
          (AVal.agg? r10.1).bind fun c11 =>
          same ((AHeap.cellsAt r10.2 3 (rdP Z)).bind fun c14 =>
          some ((AVal.agg c14), r10.2)) ((AVal.agg c9), r10.2) (
          (bif (!false && Nat.beq (List.length c9) 3 && List.all c9 AVal.isCell) then ((AHeap.storeAt r10.2 c9 (rdP R)).bind fun h12 =>
          (bif (!false && Nat.beq (List.length c11) 3 && List.all c11 AVal.isCell) then ((AHeap.storeAt h12 c11 (rdP F)).bind fun h13 =>
          some (AExit.ret, [(0, (AVal.slice (lstU b))), (2, (.ptr (rdP R))), (3, (.ptr (rdP F))), (4, (.ptr (rdP Z))), (5, (.slice (lstW W))), (6, (.slice sN)), (11, (.ptr (rdP C))), (12, (.int .i64 (k : Int)))], h13)) else (none))) else (none)))) else (l_skolemref8_ReadAag_1 fuel (d + 2) n [(0, (.slice (lstU b))), (2, (.ptr (rdP R))), (3, (.ptr (rdP F))), (4, (.ptr (rdP Z))), (5, (.slice (lstW W))), (6, (.slice sN)), (11, (.ptr (rdP C))), (12, (.int .i64 (IntKind.wrap .i64 ((k : Int) + (1 : Int))))), (13, (.int .i64 (IntKind.wrap .i64 ((m : Int) + (1 : Int)))))] h)) = some (AExit.ret, [(0, (AVal.slice (lstU b))), (2, (.ptr (rdP R))), (3, (.ptr (rdP F))), (4, (.ptr (rdP Z))), (5, (.slice (lstW W))), (6, (.slice sN)), (11, (.ptr (rdP C))), (12, u)], h') ∧ h'.cellsAt 3 (rdP R) = some zero3 ∧ h'.cellsAt 3 (rdP F) = some (faultC 101 true (posW (b.length : Int) (W.drop k))) := by
        intro c hc
        refine ⟨h', .int .i64 (k : Int), ?_, e1, e2⟩
        rw [hc, cond_true, rtext_run fuel d, len_lst]
        exact e3 _
      rw [wrap64 (n := (m : Int) + 1) (by omega) (by omega)] at bad
      cases hq : numP true (W.drop k) with
      | none =>
        exact bad _ rfl
      | some x =>
        simp only [Option.isSome_some, Bool.not_true, cond_false, Option.getD_some, Option.bind_some]
        by_cases hx : x = 2 * ((m : Int) + 1)
        · rw [if_pos (by omega), bif_npos hx]
          have := ih (m + 1) (k + 1) h (by omega) (by omega) (by omega) hs
          rw [sucU (by omega), List.drop_drop, show (m : Int) + 1 = ((m + 1 : Nat) : Int) by omega]
          rw [show k + (I - (m + 1) + 1) = k + 1 + (I - (m + 1)) by omega]
          exact this
        · rw [if_neg (by omega)]
          exact bad _ (by simp [hx])
    · obtain rfl : m = I := by omega
      rw [bif_neg (by omega), Nat.sub_self]
      unfold insT
      exact ⟨rfl, rfl⟩
end
end Go.Proofs.YtmjbjgbcpaagmaaDoor

namespace Go.Proofs.YtmjbjgbcpaagmaaDoor
open Go.RowKit

section
variable (fuel d : Nat) (hf : 20 < fuel) {h0 : AHeap} {R F Z C : Nat} {W : List Wd} {b : List UInt8} (hne : ∀ w ∈ W, w.text ≠ []) {i : Int} {nn : List Int} {sN : Sl}
include hf hne
theorem rloop2 {I : Nat} {M : Int} (hI : I ≤ 10000) (hnI : nn[3]? = some (I : Int)) (hnM : nn[0]? = some M) (hM0 : 0 ≤ M) (hM9 : M < 1000000) {sA : Sl} {A : List (Int × Int)} : ∀ (n m k : Nat) (O : List Int) (sO : Sl) (h : AHeap), I < n + m → m ≤ I → k + (I - m) < 900000000 → O.length = m → Sep0 h0 h (rdS R F Z C i nn sN sO sA O A) →
    match outsT (b.length : Int) M (I - m) (W.drop k) O with
    | .error p => ∃ h' u, l_skolemref8_ReadAag_2 fuel (d + 2) n [(0, .slice (lstU b)), (2, .ptr (rdP R)), (3, .ptr (rdP F)), (4, .ptr (rdP Z)), (5, .slice (lstW W)), (6, .slice sN), (11, .ptr (rdP C)), (12, .int .i64 (k : Int)), (16, .int .i64 (m : Int))] h = some (.ret, [(0, .slice (lstU b)), (2, .ptr (rdP R)), (3, .ptr (rdP F)), (4, .ptr (rdP Z)), (5, .slice (lstW W)), (6, .slice sN), (11, .ptr (rdP C)), (12, u)], h') ∧ h'.cellsAt 3 (rdP R) = some zero3 ∧ h'.cellsAt 3 (rdP F) = some (faultC 101 true p)
    | .ok (O', W') => ∃ h' sO', l_skolemref8_ReadAag_2 fuel (d + 2) n [(0, .slice (lstU b)), (2, .ptr (rdP R)), (3, .ptr (rdP F)), (4, .ptr (rdP Z)), (5, .slice (lstW W)), (6, .slice sN), (11, .ptr (rdP C)), (12, .int .i64 (k : Int)), (16, .int .i64 (m : Int))] h = some (.exit 4, [(0, .slice (lstU b)), (2, .ptr (rdP R)), (3, .ptr (rdP F)), (4, .ptr (rdP Z)), (5, .slice (lstW W)), (6, .slice sN), (11, .ptr (rdP C)), (12, .int .i64 ((k + (I - m) : Nat) : Int))], h') ∧ Sep0 h0 h' (rdS R F Z C i nn sN sO' sA O' A) ∧ W' = W.drop (k + (I - m)) := by
  intro n
  induction n with
  | zero => intro m k O sO h h1 h2; omega
  | succ n ih =>
    intro m k O sO h h1 h2 hk9 hO hs
    have hsl := hs.len (i := 5) rfl
    rw [List.length_map, Nat.mul_one] at hsl
    obtain ⟨g1, g2⟩ := nGet (hs.sep.grown (i := 3) rfl) (3 : Int) 3 rfl hnI
    obtain ⟨m1, m2⟩ := nGet (hs.sep.grown (i := 3) rfl) (0 : Int) 0 rfl hnM
    rw [l_skolemref8_ReadAag_2_eq, g1, Option.bind_some, g2, Option.bind_some, int_int, Option.bind_some]
    by_cases hm : m < I
    · rw [bif_pos (by omega), rcount_run fuel d hf hne k, show I - m = (I - (m + 1)) + 1 by omega]
      unfold outsT
      rw [numF_P]
      simp only [Option.bind_some, tup2, cond_true, comp0, comp1, int_int, bool_bool]
      obtain ⟨h', e1, e2, _, e3⟩ := rfin hs rfl rfl (hs.getAll (i := 2) rfl rfl) rfl zero3_ok 101 (posW (b.length : Int) (W.drop k)) true
      cases hq : numP true (W.drop k) with
      | none =>
        simp only [Option.isSome_none, Bool.not_false, show ((true == false) : Bool) = false from rfl, cond_false, Option.bind_some, bool_bool, cond_true, Option.bind_none]
        refine ⟨h', .int .i64 (k : Int), ?_, e1, e2⟩
        rw [rtext_run fuel d, len_lst]
        exact e3 _
      | some x =>
        obtain ⟨x0, x9⟩ := numP_range hq
        simp only [Option.isSome_some, Bool.not_true, show ((false == false) : Bool) = true from rfl, cond_true, m1, m2, Option.bind_some, int_int, bool_bool, Option.getD_some]
        rw [wrap64 (n := 2 * M) (by omega) (by omega), wrap64 (n := 2 * M + 1) (by omega) (by omega)]
        by_cases hx : x ≤ 2 * M + 1
        · rw [if_pos ⟨x0, hx⟩, bif_neg (show ¬ 2 * M + 1 < x by omega)]
          have cO : h.cell (.mk ⟨C, 0, 0 + 2⟩ 3) = some (.slice sO) := hs.part (i := 4) rfl (by omega) rfl
          obtain ⟨sO', h2, e4, s2, _⟩ := hs.grow (i := 5) (bytes := 8) (m := 1) (vs := [.int .i64 x]) rfl rfl (by omega) (by omega)
          obtain ⟨h3, e5, s3⟩ := s2.put (i := 4) (o := 2) (l := 3) (vs := [.slice sO']) rfl (by simp) (by simp)
          have s3' : Sep0 h0 h3 (rdS R F Z C i nn sN sO' sA (O ++ [x]) A) := by
            rw [show intsC O ++ [AVal.int .i64 x] = intsC (O ++ [x]) by simp] at s3
            exact s3
          have := ih (m + 1) (k + 1) (O ++ [x]) sO' h3 (by omega) (by omega) (by omega) (by simp; omega) s3'
          simp only [field_mk, Option.bind_some, cO, slice_slice]
          rw [e4]
          simp only [Option.bind_some]
          rw [show (0 + 2 : Nat) = 2 from rfl, e5, Option.bind_some, sucU (by omega), sucU (by omega), List.drop_drop]
          rw [show k + (I - (m + 1) + 1) = k + 1 + (I - (m + 1)) by omega]
          exact this
        · rw [if_neg (by omega), bif_pos (show 2 * M + 1 < x by omega)]
          refine ⟨h', .int .i64 (k : Int), ?_, e1, e2⟩
          rw [rtext_run fuel d, len_lst]
          exact e3 _
    · obtain rfl : m = I := by omega
      rw [bif_neg (by omega), Nat.sub_self]
      unfold outsT
      exact ⟨h, sO, rfl, hs, rfl⟩
theorem rloop3 {I : Nat} {M : Int} (hI : I ≤ 10000) (hnI : nn[4]? = some (I : Int)) (hnM : nn[1]? = some M) (hM0 : 0 ≤ M) (hM9 : M < 100000) {sO : Sl} {O : List Int} : ∀ (n m k : Nat) (A : List (Int × Int)) (sA : Sl) (h : AHeap), I < n + m → m ≤ I → k + 3 * (I - m) < 800000000 → A.length = m → Sep0 h0 h (rdS R F Z C i nn sN sO sA O A) →
    match andsT (b.length : Int) M m (I - m) (W.drop k) A with
    | .error p => ∃ h' u, l_skolemref8_ReadAag_3 fuel (d + 2) n [(0, .slice (lstU b)), (2, .ptr (rdP R)), (3, .ptr (rdP F)), (4, .ptr (rdP Z)), (5, .slice (lstW W)), (6, .slice sN), (11, .ptr (rdP C)), (12, .int .i64 (k : Int)), (19, .int .i64 (m : Int))] h = some (.ret, [(0, .slice (lstU b)), (2, .ptr (rdP R)), (3, .ptr (rdP F)), (4, .ptr (rdP Z)), (5, .slice (lstW W)), (11, .ptr (rdP C)), (12, u)], h') ∧ h'.cellsAt 3 (rdP R) = some zero3 ∧ h'.cellsAt 3 (rdP F) = some (faultC 101 true p)
    | .ok (A', W') => ∃ h' sA', l_skolemref8_ReadAag_3 fuel (d + 2) n [(0, .slice (lstU b)), (2, .ptr (rdP R)), (3, .ptr (rdP F)), (4, .ptr (rdP Z)), (5, .slice (lstW W)), (6, .slice sN), (11, .ptr (rdP C)), (12, .int .i64 (k : Int)), (19, .int .i64 (m : Int))] h = some (.exit 6, [(0, .slice (lstU b)), (2, .ptr (rdP R)), (3, .ptr (rdP F)), (4, .ptr (rdP Z)), (5, .slice (lstW W)), (11, .ptr (rdP C)), (12, .int .i64 ((k + 3 * (I - m) : Nat) : Int))], h') ∧ Sep0 h0 h' (rdS R F Z C i nn sN sO sA' O A') ∧ W' = W.drop (k + 3 * (I - m)) := by
  intro n
  induction n with
  | zero => intro m k A sA h h1 h2; omega
  | succ n ih =>
    intro m k A sA h h1 h2 hk9 hA hs
    have hsl := hs.len (i := 6) rfl
    rw [pairsC_len] at hsl
    obtain ⟨g1, g2⟩ := nGet (hs.sep.grown (i := 3) rfl) (4 : Int) 4 rfl hnI
    obtain ⟨m1, m2⟩ := nGet (hs.sep.grown (i := 3) rfl) (1 : Int) 1 rfl hnM
    rw [l_skolemref8_ReadAag_3_eq, g1, Option.bind_some, g2, Option.bind_some, int_int, Option.bind_some]
    by_cases hm : m < I
    · rw [bif_pos (by omega), m1, Option.bind_some, m2, Option.bind_some, int_int, Option.bind_some, rcount_run fuel d hf hne k, show I - m = (I - (m + 1)) + 1 by omega]
      unfold andsT andT
      rw [numF_P]
      simp only [Option.bind_some, tup2, cond_true, comp0, comp1, int_int, bool_bool]
      rw [wrap64 (n := M + (m : Int)) (by omega) (by omega), wrap64 (n := M + (m : Int) + 1) (by omega) (by omega), wrap64 (n := 2 * (M + (m : Int) + 1)) (by omega) (by omega), show IntKind.wrap .i64 ((k : Int) + 2) = ((k + 2 : Nat) : Int) by rw [wrap64 (by omega) (by omega)]; omega, show IntKind.wrap .i64 ((k : Int) + 3) = ((k + 3 : Nat) : Int) by rw [wrap64 (by omega) (by omega)]; omega, sucU (m := k) (by omega), sucU (m := m) (by omega)]
      obtain ⟨h', e1, e2, _, e3⟩ := rfin hs rfl rfl (hs.getAll (i := 2) rfl rfl) rfl zero3_ok 101 (posW (b.length : Int) (W.drop k)) true
      cases hq : numP true (W.drop k) with
      | none =>
        simp only [Option.isSome_none, Bool.not_false, cond_true, Option.bind_none]
        refine ⟨h', .int .i64 (k : Int), ?_, e1, e2⟩
        rw [rtext_run fuel d, len_lst]
        exact e3 _
      | some x =>
        simp only [Option.isSome_some, Bool.not_true, cond_false, Option.getD_some, Option.bind_some]
        by_cases hx : x = 2 * (M + (m : Int) + 1)
        · rw [if_pos (by omega), bif_npos hx, rcount_run fuel d hf hne (k + 1), numF_P, List.drop_drop, List.drop_drop, List.drop_drop]
          simp only [Option.bind_some, tup2, cond_true, comp0, comp1, int_int, bool_bool]
          obtain ⟨h', e1, e2, _, e3⟩ := rfin hs rfl rfl (hs.getAll (i := 2) rfl rfl) rfl zero3_ok 101 (posW (b.length : Int) (W.drop (k + 1))) true
          cases hq2 : numP false (W.drop (k + 1)) with
          | none =>
            simp only [Option.isSome_none, Bool.not_false, cond_true, Option.bind_none]
            refine ⟨h', .int .i64 (k : Int), ?_, e1, e2⟩
            rw [rtext_run fuel d, len_lst]
            exact e3 _
          | some y =>
            obtain ⟨y0, y9⟩ := numP_range hq2
            simp only [Option.isSome_some, Bool.not_true, cond_false, Option.getD_some, Option.bind_some]
            by_cases hy : y < 2 * (M + (m : Int) + 1)
            · rw [if_pos (by omega), bif_neg (by omega), rcount_run fuel d hf hne (k + 2)]
              simp only [Option.bind_some, tup2, cond_true, comp0, comp1, int_int, bool_bool]
              rw [numF_P]
              obtain ⟨h', e1, e2, _, e3⟩ := rfin hs rfl rfl (hs.getAll (i := 2) rfl rfl) rfl zero3_ok 101 (posW (b.length : Int) (W.drop (k + 2))) true
              cases hq3 : numP false (W.drop (k + 2)) with
              | none =>
                simp only [Option.isSome_none, Bool.not_false, cond_true, Option.bind_none]
                refine ⟨h', .int .i64 (k : Int), ?_, e1, e2⟩
                rw [rtext_run fuel d, len_lst]
                exact e3 _
              | some z =>
                obtain ⟨z0, z9⟩ := numP_range hq3
                simp only [Option.isSome_some, Bool.not_true, cond_false, Option.getD_some, Option.bind_some]
                by_cases hz : z ≤ y
                · rw [if_pos (by omega), bif_neg (by omega)]
                  have cA : h.cell (.mk ⟨C, 0, 0 + 1⟩ 3) = some (.slice sA) := hs.part (i := 4) rfl (by omega) rfl
                  obtain ⟨sA', h2, e4, s2, _⟩ := hs.grow (i := 6) (bytes := 16) (m := 1) (vs := pairC (y, z)) rfl rfl (by omega) (by omega)
                  obtain ⟨h3, e5, s3⟩ := s2.put (i := 4) (o := 1) (l := 3) (vs := [.slice sA']) rfl (by simp) (by simp)
                  have s3' : Sep0 h0 h3 (rdS R F Z C i nn sN sO sA' O (A ++ [(y, z)])) := by
                    rw [show pairsC A ++ pairC (y, z) = pairsC (A ++ [(y, z)]) by simp [pairsC]] at s3
                    exact s3
                  have := ih (m + 1) (k + 3) (A ++ [(y, z)]) sA' h3 (by omega) (by omega) (by omega) (by simp; omega) s3'
                  simp only [field_mk, Option.bind_some, cA, slice_slice]
                  rw [e4]
                  simp only [Option.bind_some]
                  rw [show (0 + 1 : Nat) = 1 from rfl, e5, Option.bind_some]
                  rw [show k + 3 * (I - (m + 1) + 1) = k + 3 + 3 * (I - (m + 1)) by omega]
                  exact this
                · rw [if_neg (by omega), bif_pos (by omega)]
                  refine ⟨h', .int .i64 (k : Int), ?_, e1, e2⟩
                  rw [rtext_run fuel d, len_lst]
                  exact e3 _
            · rw [if_neg (by omega), bif_pos (by omega)]
              refine ⟨h', .int .i64 (k : Int), ?_, e1, e2⟩
              rw [rtext_run fuel d, len_lst]
              exact e3 _
        · rw [if_neg (by omega), bif_nneg hx]
          refine ⟨h', .int .i64 (k : Int), ?_, e1, e2⟩
          rw [rtext_run fuel d, len_lst]
          exact e3 _
    · obtain rfl : m = I := by omega
      rw [bif_neg (by omega), Nat.sub_self]
      unfold andsT
      exact ⟨h, sA, rfl, hs, rfl⟩
end
end Go.Proofs.YtmjbjgbcpaagmaaDoor

namespace Go.Proofs.YtmjbjgbcpaagmaaDoor
open Go.RowKit

def rciA : Except (Int × Int) Ci → AVal
  | .ok (i, A, O) => .tup [.agg (circC i A O), .agg (faultC 0 false 0)]
  | .error (c, p) => .tup [.agg (circC 0 [] []), .agg (faultC c true p)]
theorem fr_flt {h : AHeap} (c : Int) (p : Bool) (x : Int) (n : Nat) : freezeV h (n + 2) (.agg (faultC c p x)) = some (.agg (faultC c p x)) := freeze_agg (n + 1) (mm3 rfl rfl rfl)
theorem rzero_fr (c p : Int) (h : AHeap) : freezeV h 8 (.tup [.agg zero3, .agg (faultC c true p)]) = some (rciA (.error (c, p))) :=
  freeze_tup2 _ (freeze_agg 6 (mm3 rfl rfl rfl)) (fr_flt _ _ _ 5)
theorem limR_T {m i l o a : Int} (hi : 0 ≤ i) : match limT m i l o a with
    | some (k, c) => (c = 102 ∧ limR m i l o a = (k : Int)) ∨ (c = 101 ∧ limR m i l o a = -1 ∧ ((k = 1 ∧ m ≠ i + a) ∨ (k = 3 ∧ m = i + a ∧ l ≠ 0)))
    | none => limR m i l o a = -1 ∧ m = i + a ∧ l = 0 := by
  unfold limT limR
  by_cases b1 : 8000 < i
  · rw [if_pos b1, if_pos b1]; exact .inl ⟨rfl, rfl⟩
  rw [if_neg b1, if_neg b1]
  by_cases b2 : 8000 < i + a
  · rw [if_pos b2, if_pos (.inr b2)]; exact .inl ⟨rfl, rfl⟩
  rw [if_neg b2, if_neg (show ¬ (8000 < a ∨ 8000 < i + a) by omega)]
  by_cases b3 : 8000 < o
  · rw [if_pos b3, if_pos b3]; exact .inl ⟨rfl, rfl⟩
  rw [if_neg b3, if_neg b3]
  by_cases b4 : m = i + a
  · rw [if_neg (show ¬ m ≠ i + a from fun h => h b4)]
    by_cases b5 : l = 0
    · rw [if_neg (show ¬ l ≠ 0 from fun h => h b5)]; exact ⟨rfl, b4, b5⟩
    · rw [if_pos b5]; exact .inr ⟨rfl, rfl, .inr ⟨rfl, b4, b5⟩⟩
  · rw [if_pos b4]; exact .inr ⟨rfl, rfl, .inl ⟨rfl, b4⟩⟩
theorem headA_nil (e : Int) : headA e [] = .error (101, e) := rfl
theorem headA_ne {e : Int} {w : Wd} {W : List Wd} (ht : (w.text == [97, 97, 103]) = false) : headA e (w :: W) = .error (101, posW e (w :: W)) := by
  unfold headA
  rw [wF_cons]
  cases w.first with
  | false => rfl
  | true =>
    simp only [beq_self_eq_true, if_true]
    rw [ht]
    rfl
theorem headA_nf {e : Int} {w : Wd} {W : List Wd} (ht : w.first = false) : headA e (w :: W) = .error (101, posW e (w :: W)) := by
  unfold headA
  rw [wF_cons, ht]
  rfl
theorem headA_cons {e : Int} {w : Wd} {W : List Wd} (ht : (w.text == [97, 97, 103]) = true) (hf : w.first = true) : headA e (w :: W) = match numsH e 5 W [] with
      | .error p => .error (101, p)
      | .ok N => match limT (N.getD 0 0) (N.getD 1 0) (N.getD 2 0) (N.getD 3 0) (N.getD 4 0) with
        | some (k, c) => .error (c, (((w :: W).getD k ⟨[], 0, false⟩).pos : Int))
        | none => .ok N := by
  unfold headA
  rw [wF_cons, hf]
  simp only [beq_self_eq_true, if_true]
  rw [ht]
  rfl
theorem rread_body (fuel d : Nat) {b : List UInt8} (hf : b.length + 20000 < fuel) (hb : b.length < 1000000) : ∃ v h', brun fuel (d + 3) F_skolemref8_ReadAag [.slice (lstU b)] AHeap.none = some (v, h') ∧ freezeV h' 8 v = some (rciA (readC b)) := by
  have hl := split_len b false
  have hne := split_ne b false
  have s0 := ((((Sep0.start AHeap.none).push 1 3 (cs := zero3) rfl).push 1 3 (cs := faultC 0 false 0) rfl).push 1 3 (cs := zero3) rfl)
  obtain ⟨h1, e1, s1⟩ := s0.putAll (i := 2) (vs := zero3) rfl rfl rfl
  rw [e_skolemref8_ReadAag]
  rw [show [(AVal.int .i64 (0 : Int)), (.bool false), (.int .i64 (0 : Int))] = faultC 0 false 0 from rfl]
  rw [e1, Option.bind_some, len_lst, bif_neg (by omega), rsplit_run fuel d (by omega) (by omega), Option.bind_some, slice_slice, Option.bind_some, len_lst]
  unfold readC
  generalize splitOf b false = W at hl hne
  generalize AHeap.none.next = R at s1
  generalize (AHeap.none.push 1 zero3).next = F at s1
  generalize ((AHeap.none.push 1 zero3).push 1 (faultC 0 false 0)).next = Z at s1
  have s2 : Sep0 AHeap.none h1 [.own 1 R 0 3 zero3, .own 1 F 0 3 (faultC 0 false 0), .own 1 Z 0 3 zero3] := s1
  have cZ : h1.cellsAt 3 (rdP Z) = some zero3 := s2.getAll (i := 2) rfl rfl
  have ret : ∀ {h' : AHeap} {c p : Int} {z : List AVal} , h'.cellsAt 3 (rdP R) = some zero3 → h'.cellsAt 3 (rdP F) = some (faultC c true p) → ∃ v h'', (((((AHeap.cellsAt h' 3 (rdP R)).bind fun c2 =>
    some ((AVal.agg c2)) : Option AVal).bind fun v1 =>
    (((AHeap.cellsAt h' 3 (rdP F)).bind fun c4 =>
    some ((AVal.agg c4)) : Option AVal).bind fun v3 =>
    some [v1, v3])) : Option (List AVal)).map AVal.tup).map (fun v => (v, h')) = some (v, h'') ∧ freezeV h'' 8 v = some (rciA (.error (c, p))) := by
    intro h' c p z q1 q2
    rw [q1, q2]
    exact ⟨_, h', rfl, rzero_fr c p h'⟩
  have early : ∀ (p : Int), ∃ v h', ((h1.cellsAt 3 (rdP Z)).bind fun c6 => (some (AVal.agg (faultC 101 true p), h1)).bind fun r7 => (AVal.agg? r7.1).bind fun c8 => same ((AHeap.cellsAt r7.2 3 (rdP Z)).bind fun c11 => some ((AVal.agg c11), r7.2)) ((AVal.agg c6), r7.2) (bif (!false && Nat.beq (List.length c6) 3 && List.all c6 AVal.isCell) then ((AHeap.storeAt r7.2 c6 (rdP R)).bind fun h9 => (bif (!false && Nat.beq (List.length c8) 3 && List.all c8 AVal.isCell) then ((AHeap.storeAt h9 c8 (rdP F)).bind fun h' => (((((AHeap.cellsAt h' 3 (rdP R)).bind fun c2 =>
    some ((AVal.agg c2)) : Option AVal).bind fun v1 =>
    (((AHeap.cellsAt h' 3 (rdP F)).bind fun c4 =>
    some ((AVal.agg c4)) : Option AVal).bind fun v3 =>
    some [v1, v3])) : Option (List AVal)).map AVal.tup).map (fun v => (v, h'))) else none)) else none)) = some (v, h') ∧ freezeV h' 8 v = some (rciA (.error (101, p))) := by
    intro p
    obtain ⟨h2, q1, q2, _, q3⟩ := rfin s2 rfl rfl cZ rfl zero3_ok 101 p true
    rw [q3]
    exact ret (z := []) q1 q2
  have hne0 : ∀ w W', W = w :: W' → decide (tx w.text = (⟨#[97, 97, 103]⟩ : ByteArray)) = (w.text == [97, 97, 103]) := by
    intro w W' _
    have := txt_ne w.text [97, 97, 103]
    rw [show tx [97, 97, 103] = (⟨#[97, 97, 103]⟩ : ByteArray) from rfl] at this
    exact Bool.not_inj this
  have rt0 := rtext_run fuel (d) (W := W) 0 (b.length : Int) h1
  rw [List.drop_zero, show ((0 : Nat) : Int) = 0 from rfl] at rt0
  match hW : W with
  | [] =>
    rw [headA_nil, decide_eq_true (show (([] : List Wd).length : Int) = 0 from rfl)]
    simp only [show ((true == false) : Bool) = false from rfl, cond_false, Option.bind_some, bool_bool, cond_true]
    rw [rt0]
    exact early _
  | w :: W' =>
    rw [decide_eq_false (show ¬ (((w :: W').length : Nat) : Int) = 0 by simp; omega)]
    have ha : ∀ h : AHeap, h.addr 3 (lstW (w :: W')) (0 : Int) = some (.fp 0 (wdC w)) := fun h => waddr h (W := w :: W') (k := 0) (by simp)
    simp only [beq_self_eq_true, cond_true, ha, wf0, wc0, Option.bind_some, str_str, bool_bool]
    rw [hne0 w W' rfl]
    cases ht : w.text == [97, 97, 103] with
    | false =>
      simp only [Bool.not_false, show ((true == false) : Bool) = false from rfl, cond_false, Option.bind_some, bool_bool, cond_true]
      rw [rt0]
      rw [headA_ne ht]
      exact early _
    | true =>
      simp only [Bool.not_true, beq_self_eq_true, cond_true, wf2, Option.bind_some, cell_fp, bool_bool]
      cases hfi : w.first with
      | false =>
        simp only [Bool.not_false, cond_true]
        rw [rt0, headA_nf hfi]
        exact early _
      | true =>
        simp only [Bool.not_true, cond_false]
        rw [headA_cons ht hfi]
        have s3 := s2.addNil 1
        have l0 := rloop0 fuel d (by omega) (b := b) hne fuel 1 [] .nil h1 (by omega) (by omega) (by omega) rfl s3
        rw [show 6 - 1 = 5 from rfl, show ((1 : Nat) : Int) = 1 from rfl] at l0
        rw [show (w :: W').drop 1 = W' from rfl] at l0
        cases hN : numsH (b.length : Int) 5 W' [] with
        | error p =>
          rw [hN] at l0
          obtain ⟨h2, s', e2, q1, q2⟩ := l0
          rw [e2, Option.bind_some, k_skolemref8_ReadAag_0_r]
          exact ret (z := []) q1 q2
        | ok M =>
          rw [hN] at l0
          obtain ⟨h2, sN, e2, s4⟩ := l0
          obtain ⟨n1, n2, n3⟩ := numsH_len hN
          have hM5 : M.length = 5 := by simpa using n1
          have h5 := five hM5
          have hMr := n3 (fun x hx => by cases hx)
          have m1 : M.getD 1 0 ∈ M := by rw [h5]; simp
          have m3 : M.getD 3 0 ∈ M := by rw [h5]; simp
          have m4 : M.getD 4 0 ∈ M := by rw [h5]; simp
          have q1 := hMr _ m1
          have q3 := hMr _ m3
          have q4 := hMr _ m4
          have hgN := s4.sep.grown (i := 3) rfl
          have hlim := rlim_run fuel (d + 1) (m := M.getD 0 0) (i := M.getD 1 0) (l := M.getD 2 0) (o := M.getD 3 0) (a := M.getD 4 0) q1 q4 (h := h2) (s := sN) (by rw [← h5]; exact hgN.freezeI)
          have hMg : ∀ p : Nat, p < 5 → M[p]? = some (M.getD p 0) := fun p hp => getD_get (by omega) 0
          rw [e2, Option.bind_some, k_skolemref8_ReadAag_0_x0, hlim, Option.bind_some, int_int, Option.bind_some]
          have cZ2 : h2.cellsAt 3 (rdP Z) = some zero3 := s4.getAll (i := 2) rfl rfl
          have hWl : 5 < (w :: W').length := by simp only [List.length_cons]; omega
          have late : ∀ (c p : Int), ∃ v h', ((h2.cellsAt 3 (rdP Z)).bind fun c6 => (some (AVal.agg (faultC c true p), h2)).bind fun r7 => (AVal.agg? r7.1).bind fun c8 => same ((AHeap.cellsAt r7.2 3 (rdP Z)).bind fun c11 => some ((AVal.agg c11), r7.2)) ((AVal.agg c6), r7.2) (bif (!false && Nat.beq (List.length c6) 3 && List.all c6 AVal.isCell) then ((AHeap.storeAt r7.2 c6 (rdP R)).bind fun h9 => (bif (!false && Nat.beq (List.length c8) 3 && List.all c8 AVal.isCell) then ((AHeap.storeAt h9 c8 (rdP F)).bind fun h' => (((((AHeap.cellsAt h' 3 (rdP R)).bind fun c2 =>
              some ((AVal.agg c2)) : Option AVal).bind fun v1 =>
              (((AHeap.cellsAt h' 3 (rdP F)).bind fun c4 =>
              some ((AVal.agg c4)) : Option AVal).bind fun v3 =>
              some [v1, v3])) : Option (List AVal)).map AVal.tup).map (fun v => (v, h'))) else none)) else none)) = some (v, h') ∧ freezeV h' 8 v = some (rciA (.error (c, p))) := by
            intro c p
            obtain ⟨h3, q1, q2, _, q3⟩ := rfin s4 rfl rfl cZ2 rfl zero3_ok c p true
            rw [q3]
            exact ret (z := []) q1 q2
          have hrel := limR_T (m := M.getD 0 0) (i := M.getD 1 0) (l := M.getD 2 0) (o := M.getD 3 0) (a := M.getD 4 0) q1.1
          obtain ⟨a0, b0⟩ := nGet hgN (0 : Int) 0 rfl (hMg 0 (by omega))
          obtain ⟨a1, b1⟩ := nGet hgN (1 : Int) 1 rfl (hMg 1 (by omega))
          obtain ⟨a2, b2⟩ := nGet hgN (2 : Int) 2 rfl (hMg 2 (by omega))
          obtain ⟨a4, b4⟩ := nGet hgN (4 : Int) 4 rfl (hMg 4 (by omega))
          simp only
          cases hT : limT (M.getD 0 0) (M.getD 1 0) (M.getD 2 0) (M.getD 3 0) (M.getD 4 0) with
          | some kc =>
            obtain ⟨k, c⟩ := kc
            obtain ⟨_, hk6, hk0⟩ := limT_code hT
            rw [hT] at hrel
            have hpos : ∀ j : Nat, j < (w :: W').length → posW (b.length : Int) ((w :: W').drop j) = (((w :: W').getD j ⟨[], 0, false⟩).pos : Int) := fun j hj => by rw [drop_wd hj]; rfl
            rcases hrel with ⟨rfl, hr⟩ | ⟨rfl, hr, hc⟩
            · rw [hr, bif_pos (by omega), waddr h2 (by omega)]
              simp only [Option.bind_some, wf1, cell_fp, int_int]
              rw [Placed_run fuel (d + 1) (show (102 : Int) ≠ 0 by omega)]
              exact late 102 _
            · rw [hr, bif_neg (by omega), a0, Option.bind_some, b0, Option.bind_some, int_int, Option.bind_some, a1, Option.bind_some, b1, Option.bind_some, int_int, Option.bind_some, a4, Option.bind_some, b4, Option.bind_some, int_int, Option.bind_some, wrap64 (n := M.getD 1 0 + M.getD 4 0) (by omega) (by omega)]
              rcases hc with ⟨rfl, hc⟩ | ⟨rfl, hc, hc2⟩
              · have rt1 := rtext_run fuel d (W := w :: W') 1 (b.length : Int) h2
                rw [show ((1 : Nat) : Int) = 1 from rfl] at rt1
                rw [bif_nneg hc, len_lst, rt1, hpos 1 (by omega)]
                exact late 101 _
              · have rt3 := rtext_run fuel d (W := w :: W') 3 (b.length : Int) h2
                rw [show ((3 : Nat) : Int) = 3 from rfl] at rt3
                rw [bif_npos hc, a2, Option.bind_some, b2, Option.bind_some, int_int, Option.bind_some, bif_nneg hc2, len_lst, rt3, hpos 3 (by omega)]
                exact late 101 _
          | none =>
            rw [hT] at hrel
            obtain ⟨hr, hc, hc2⟩ := hrel
            obtain ⟨t1, t2, t3, _, _⟩ := limT_none hT
            rw [hr, bif_neg (by omega), a0, Option.bind_some, b0, Option.bind_some, int_int, Option.bind_some, a1, Option.bind_some, b1, Option.bind_some, int_int, Option.bind_some, a4, Option.bind_some, b4, Option.bind_some, int_int, Option.bind_some, wrap64 (n := M.getD 1 0 + M.getD 4 0) (by omega) (by omega), bif_npos hc, a2, Option.bind_some, b2, Option.bind_some, int_int, Option.bind_some, bif_npos hc2]
            have s5 := s4.push 1 3 (cs := zero3) rfl
            obtain ⟨h3, e3, s6⟩ := s5.putAll (i := 4) (vs := [.int .i64 (M.getD 1 0), .slice .nil, .slice .nil]) rfl rfl rfl
            generalize AHeap.next h2 = C at s6 e3
            have s7 : Sep0 AHeap.none h3 (rdS R F Z C (M.getD 1 0) M sN .nil .nil [] []) := (s6.addNil 1).addNil 2
            obtain ⟨I, hI⟩ := Int.eq_ofNat_of_zero_le q1.1
            obtain ⟨O, hO⟩ := Int.eq_ofNat_of_zero_le q3.1
            obtain ⟨A, hA⟩ := Int.eq_ofNat_of_zero_le q4.1
            have gI := hMg 1 (by omega)
            have gO := hMg 3 (by omega)
            have gA := hMg 4 (by omega)
            rw [hI] at gI
            rw [hO] at gO
            rw [hA] at gA
            have l1 := rloop1 fuel d (by omega) (b := b) hne (I := I) (by omega) gI fuel 0 6 h3 (by omega) (by omega) (by omega) s7
            rw [Option.bind_some, b1, Option.bind_some, int_int, Option.bind_some, e3, Option.bind_some]
            simp only
            unfold bodyT
            rw [hI, hO, hA, Int.toNat_natCast, Int.toNat_natCast, Int.toNat_natCast]
            rw [Nat.sub_zero, show ((0 : Nat) : Int) = 0 from rfl, show ((6 : Nat) : Int) = 6 from rfl] at l1
            cases hq1 : insT (b.length : Int) 0 I ((w :: W').drop 6) with
            | error p =>
              rw [hq1] at l1
              obtain ⟨h4, u, e4, q1, q2⟩ := l1
              rw [e4, Option.bind_some, k_skolemref8_ReadAag_1_r]
              exact ret (z := []) q1 q2
            | ok W1 =>
              rw [hq1] at l1
              obtain ⟨e4, rfl⟩ := l1
              rw [e4, Option.bind_some, k_skolemref8_ReadAag_1_x2]
              have l2 := rloop2 fuel d (by omega) (b := b) hne (I := O) (by omega) gO (hMg 0 (by omega)) (by omega) (by omega) fuel 0 (6 + I) [] .nil h3 (by omega) (by omega) (by omega) rfl s7
              rw [Nat.sub_zero, show ((0 : Nat) : Int) = 0 from rfl] at l2
              simp only
              cases hq2 : outsT (b.length : Int) (M.getD 0 0) O ((w :: W').drop (6 + I)) [] with
              | error p =>
                rw [hq2] at l2
                obtain ⟨h4, u, e5, q1, q2⟩ := l2
                rw [e5, Option.bind_some, k_skolemref8_ReadAag_2_r]
                exact ret (z := []) q1 q2
              | ok OW =>
                obtain ⟨Ol, W2⟩ := OW
                rw [hq2] at l2
                obtain ⟨h4, sO, e5, s8, rfl⟩ := l2
                rw [e5, Option.bind_some, k_skolemref8_ReadAag_2_x4]
                have l3 := rloop3 fuel d (by omega) (b := b) hne (I := A) (by omega) gA gI (by omega) (by omega) fuel 0 (6 + I + O) [] .nil h4 (by omega) (by omega) (by omega) rfl s8
                rw [Nat.sub_zero, show ((0 : Nat) : Int) = 0 from rfl] at l3
                simp only
                cases hq3 : andsT (b.length : Int) (I : Int) 0 A ((w :: W').drop (6 + I + O)) [] with
                | error p =>
                  rw [hq3] at l3
                  obtain ⟨h5, u, e6, q1, q2⟩ := l3
                  rw [e6, Option.bind_some, k_skolemref8_ReadAag_3_r]
                  exact ret (z := []) q1 q2
                | ok AW =>
                  obtain ⟨Al, W3⟩ := AW
                  rw [hq3] at l3
                  obtain ⟨h5, sA, e6, s9, rfl⟩ := l3
                  rw [e6, Option.bind_some, k_skolemref8_ReadAag_3_x6]
                  simp only
                  generalize hK : 6 + I + O + 3 * A = K
                  have cZ5 : h5.cellsAt 3 (rdP Z) = some zero3 := s9.getAll (i := 2) rfl rfl
                  have cC5 : h5.cellsAt 3 (rdP C) = some [.int .i64 (M.getD 1 0), .slice sA, .slice sO] := s9.getAll (i := 4) rfl rfl
                  have bad : ∃ v h', ((h5.cellsAt 3 (rdP Z)).bind fun c6 => (run fuel (d + 2) F_skolemref8_text [.slice (lstW (w :: W')), .int .i64 (K : Int), .int .i64 (((lstU b).len : Nat) : Int)] h5).bind fun r7 => (AVal.agg? r7.1).bind fun c8 => same ((AHeap.cellsAt r7.2 3 (rdP Z)).bind fun c11 => some ((AVal.agg c11), r7.2)) ((AVal.agg c6), r7.2) (bif (!false && Nat.beq (List.length c6) 3 && List.all c6 AVal.isCell) then ((AHeap.storeAt r7.2 c6 (rdP R)).bind fun h9 => (bif (!false && Nat.beq (List.length c8) 3 && List.all c8 AVal.isCell) then ((AHeap.storeAt h9 c8 (rdP F)).bind fun h' => (((((AHeap.cellsAt h' 3 (rdP R)).bind fun c2 =>
                      some ((AVal.agg c2)) : Option AVal).bind fun v1 =>
                      (((AHeap.cellsAt h' 3 (rdP F)).bind fun c4 =>
                      some ((AVal.agg c4)) : Option AVal).bind fun v3 =>
                      some [v1, v3])) : Option (List AVal)).map AVal.tup).map (fun v => (v, h'))) else none)) else none)) = some (v, h') ∧ freezeV h' 8 v = some (rciA (.error (101, posW (b.length : Int) ((w :: W').drop K)))) := by
                    rw [rtext_run fuel d, len_lst]
                    obtain ⟨h6, q1, q2, _, q3⟩ := rfin s9 rfl rfl cZ5 rfl zero3_ok 101 (posW (b.length : Int) ((w :: W').drop K)) true
                    rw [q3]
                    exact ret (z := []) q1 q2
                  have good : ∃ v h', ((AHeap.cellsAt h5 3 (rdP C)).bind fun c24 =>
                      (run fuel (d + 2) F_skolemref_None [] h5).bind fun r25 =>
                      (AVal.agg? r25.1).bind fun c26 =>
                      same ((AHeap.cellsAt r25.2 3 (rdP C)).bind fun c33 =>
                      some ((AVal.agg c33), r25.2)) ((AVal.agg c24), r25.2) (
                      (bif (!false && Nat.beq (List.length c24) 3 && List.all c24 AVal.isCell) then ((AHeap.storeAt r25.2 c24 (rdP R)).bind fun h27 =>
                      (bif (!false && Nat.beq (List.length c26) 3 && List.all c26 AVal.isCell) then ((AHeap.storeAt h27 c26 (rdP F)).bind fun h28 =>
                      (((((AHeap.cellsAt h28 3 (rdP R)).bind fun c30 =>
                      some ((AVal.agg c30)) : Option AVal).bind fun v29 =>
                      (((AHeap.cellsAt h28 3 (rdP F)).bind fun c32 =>
                      some ((AVal.agg c32)) : Option AVal).bind fun v31 =>
                      some [v29, v31])) : Option (List AVal)).map AVal.tup).map fun v => (v, h28)) else (none))) else (none)))) = some (v, h') ∧ freezeV h' 8 v = some (rciA (.ok (M.getD 1 0, Al, Ol))) := by
                    rw [None_run fuel (d + 1)]
                    obtain ⟨h6, q1, q2, s10, q3⟩ := rfin s9 rfl rfl cC5 rfl rfl 0 0 false
                    rw [q3, q1, q2]
                    refine ⟨_, h6, rfl, ?_⟩
                    have gO := s10.sep.grown (i := 5) rfl
                    have gA := s10.sep.grown (i := 6) rfl
                    have lO := gO.len
                    have lA := gA.len
                    rw [pairsC_len] at lA
                    rw [List.length_map, Nat.mul_one] at lO
                    refine freeze_tup2 _ (freeze_agg 6 (mm3 rfl ?_ ?_)) (fr_flt _ _ _ 5)
                    · rw [gA.freeze (n := 5) (by omega) (freeze_pairs 4 Al), show sA.len = Al.length by omega]
                    · rw [gO.freeze (n := 5) (by omega) (freeze_intsC 4 Ol), show sO.len = Ol.length by omega]
                  rw [hI] at good
                  rw [len_lst]
                  rw [len_lst] at bad
                  by_cases hk : K < (w :: W').length
                  · have hmem : (w :: W').getD K ⟨[], 0, false⟩ ∈ (w :: W') := by rw [List.getD_eq_getElem?_getD, List.getElem?_eq_getElem hk]; exact List.getElem_mem hk
                    have hdw := drop_wd hk
                    have hak : ∀ h : AHeap, h.addr 3 (lstW (w :: W')) (K : Int) = some (.fp 0 (wdC ((w :: W').getD K ⟨[], 0, false⟩))) := fun h => waddr h hk
                    generalize (w :: W').getD K ⟨[], 0, false⟩ = v at hmem hdw hak
                    have he : endT ((w :: W').drop K) = if (!v.first || !(v.text.getD 0 0 == 99)) = true then some (v.pos : Int) else none := by rw [hdw]; rfl
                    have hp : posW (b.length : Int) ((w :: W').drop K) = (v.pos : Int) := by rw [hdw]; rfl
                    rw [hp] at bad
                    rw [he, decide_eq_true (show (K : Int) < (((w :: W').length : Nat) : Int) by omega)]
                    simp only [beq_self_eq_true, cond_true, hak, wf2, cell_fp, Option.bind_some, bool_bool]
                    cases hvf : v.first with
                    | false =>
                      simp only [Bool.not_false, show ((true == false) : Bool) = false from rfl, cond_false, Option.bind_some, bool_bool, cond_true, Bool.true_or, if_true]
                      exact bad
                    | true =>
                      have h9 := strAt_mk (l := v.text) (k := 0) (List.length_pos_iff.2 (hne v hmem))
                      rw [show ((0 : Nat) : Int) = 0 from rfl] at h9
                      simp only [Bool.not_true, beq_self_eq_true, cond_true, Option.bind_some, wf0, wc0, str_str, h9, bool_bool, Bool.false_or]
                      have e99 := u8_dec (v.text.getD 0 0) 99
                      rw [show (((99 : UInt8).toNat : Nat) : Int) = 99 from rfl] at e99
                      rw [e99]
                      cases hx : v.text.getD 0 0 == 99 with
                      | false =>
                        simp only [Bool.not_false, cond_true, if_true]
                        exact bad
                      | true =>
                        simp only [Bool.not_true, cond_false, Bool.false_eq_true, if_false]
                        exact good
                  · rw [decide_eq_false (show ¬ (K : Int) < (((w :: W').length : Nat) : Int) by omega), List.drop_eq_nil_of_le (by omega)]
                    simp only [show ((false == true) : Bool) = false from rfl, cond_false, Option.bind_some, bool_bool]
                    exact good
theorem rread_run (fuel d : Nat) {b : List UInt8} (hf : b.length + 20000 < fuel) (hb : b.length < 1000000) (h : AHeap) : run fuel (d + 3) F_skolemref8_ReadAag [.slice (lstU b)] h = some (rciA (readC b), h) := by
  obtain ⟨v, h', e1, e2⟩ := rread_body fuel d hf hb
  exact pure_of rfl rfl (cc1 (canon_lstU 7 b)) e1 e2
end Go.Proofs.YtmjbjgbcpaagmaaDoor

namespace Go.Proofs.YtmjbjgbcpaagmaaDoor
open Go.RowKit

theorem sucS {m : Nat} (h : m < 9000000000000000000) : IntKind.wrap .i64 ((m : Int) + 1) = ((m + 1 : Nat) : Int) := by rw [wrap64 (by omega) (by omega)]; omega
theorem sameI_loop (fuel d : Nat) {a b : List Int} (hl : a.length = b.length) (hn : a.length < 1000000000) {h : AHeap} : ∀ (n k : Nat), a.length < n + k → k ≤ a.length → a.take k = b.take k →
    (l_skolemref_SameInts_0 fuel d n [(0, .slice (lstI a)), (1, .slice (lstI b)), (5, .int .i64 (k : Int))] h).bind (fun p => k_skolemref_SameInts_0 fuel d p.1 p.2.1 p.2.2) = some (.bool (decide (a = b)), h) := by
  intro n
  induction n with
  | zero => intro k h1 h2; omega
  | succ n ih =>
    intro k h1 h2 h3
    rw [l_skolemref_SameInts_0_eq, len_lst]
    by_cases hk : k < a.length
    · rw [bif_pos (by omega), addr_lstM _ (by omega) (by omega) 0, addr_lstM _ (by omega) (by omega) 0]
      simp only [Option.bind_some, cell_fp, int_int, Int.toNat_natCast]
      by_cases he : a.getD k 0 = b.getD k 0
      · rw [bif_npos he, sucS (by omega), ih (k + 1) (by omega) (by omega) (by rw [take_get hk 0, take_get (by omega) 0, h3, he])]
      · rw [bif_nneg he]
        simp only [Option.bind_some, k_skolemref_SameInts_0_r]
        rw [decide_eq_false (fun h => he (by rw [h]))]
    · have : k = a.length := by omega
      subst this
      rw [bif_neg (by omega)]
      have : a = b := by rw [List.take_length, hl, List.take_length] at h3; exact h3
      simp only [Option.bind_some, k_skolemref_SameInts_0_x0]
      rw [decide_eq_true this]
theorem sameI_run (fuel d : Nat) {a b : List Int} {s t : Sl} {h : AHeap} (hs : freezeV h 8 (.slice s) = some (.slice (lstI a))) (ht : freezeV h 8 (.slice t) = some (.slice (lstI b))) (hn : a.length < 1000000000) (hf : a.length < fuel) :
    run fuel (d + 1) F_skolemref_SameInts [.slice s, .slice t] h = some (.bool (decide (a = b)), h) := by
  refine run_val rfl rfl (mm2 hs ht) (r := .bool (decide (a = b))) (h' := AHeap.none) ?_ rfl rfl
  rw [e_skolemref_SameInts, len_lst, len_lst]
  by_cases hl : a.length = b.length
  · rw [bif_npos (by omega)]
    have := sameI_loop fuel d hl hn (h := AHeap.none) fuel 0 (by omega) (by omega) rfl
    exact this
  · rw [bif_nneg (by omega), decide_eq_false (fun h => hl (by rw [h]))]

end Go.Proofs.YtmjbjgbcpaagmaaDoor

namespace Go.Proofs.YtmjbjgbcpaagmaaDoor
open Go.RowKit

theorem paddr (h : AHeap) {A : List (Int × Int)} {k : Nat} (hk : k < A.length) : h.addr 2 (lstP A) (k : Int) = some (.fp 0 (pairC (A.getD k (0, 0)))) := by
  have := addr_lstN (h := h) (sz := 2) (f := pairC) (fun _ => rfl) (l := A) (j := (k : Int)) (by omega) (by omega) (0, 0) false
  rw [Int.toNat_natCast] at this
  exact this
theorem sameP_loop (fuel d : Nat) {a b : List (Int × Int)} (hl : a.length = b.length) (hn : a.length < 1000000000) {h : AHeap} : ∀ (n k : Nat), a.length < n + k → k ≤ a.length → a.take k = b.take k →
    (l_skolemref_SamePairs_0 fuel d n [(0, .slice (lstP a)), (1, .slice (lstP b)), (5, .int .i64 (k : Int))] h).bind (fun p => k_skolemref_SamePairs_0 fuel d p.1 p.2.1 p.2.2) = some (.bool (decide (a = b)), h) := by
  intro n
  induction n with
  | zero => intro k h1 h2; omega
  | succ n ih =>
    intro k h1 h2 h3
    rw [l_skolemref_SamePairs_0_eq, len_lst]
    by_cases hk : k < a.length
    · have e0 : ∀ x : Int × Int, Pt.elem 1 2 (0 : Int) (.fp 0 (pairC x)) = some (.fp 0 (pairC x)) := fun _ => rfl
      have e1 : ∀ x : Int × Int, Pt.elem 1 2 (1 : Int) (.fp 0 (pairC x)) = some (.fp 0 [.int .i64 x.2]) := fun _ => rfl
      have c0 : ∀ x : Int × Int, h.cell (.fp 0 (pairC x)) = some (.int .i64 x.1) := fun _ => rfl
      rw [bif_pos (by omega), paddr h hk, paddr h (A := b) (by omega)]
      simp only [Option.bind_some, e0, e1, c0, cell_fp, int_int]
      have ne : ∀ {p : Bool}, a.getD k (0, 0) ≠ b.getD k (0, 0) → p = false → (k_skolemref_SamePairs_1 fuel d n .normal [(0, .slice (lstP a)), (1, .slice (lstP b)), (5, .int .i64 (k : Int)), (6, .bool p)] h).bind (fun p => k_skolemref_SamePairs_0 fuel d p.1 p.2.1 p.2.2) = some (.bool (decide (a = b)), h) := by
        intro p hne hp
        subst hp
        rw [k_skolemref_SamePairs_1_n, Bool.not_false, cond_true]
        simp only [Option.bind_some, k_skolemref_SamePairs_0_r]
        rw [decide_eq_false (fun h => hne (by rw [h]))]
      by_cases he : (a.getD k (0, 0)).1 = (b.getD k (0, 0)).1
      · rw [bif_pos he]
        simp only [Option.bind_some]
        by_cases he2 : (a.getD k (0, 0)).2 = (b.getD k (0, 0)).2
        · have heq : a.getD k (0, 0) = b.getD k (0, 0) := Prod.ext he he2
          rw [decide_eq_true he2, k_skolemref_SamePairs_1_n, Bool.not_true, cond_false, sucS (by omega), ih (k + 1) (by omega) (by omega) (by rw [take_get hk (0, 0), take_get (by omega) (0, 0), h3, heq])]
        · exact ne (fun h => he2 (by rw [h])) (decide_eq_false he2)
      · rw [bif_neg he]
        simp only [Option.bind_some]
        exact ne (fun h => he (by rw [h])) rfl
    · have : k = a.length := by omega
      subst this
      rw [bif_neg (by omega)]
      have : a = b := by rw [List.take_length, hl, List.take_length] at h3; exact h3
      simp only [Option.bind_some, k_skolemref_SamePairs_0_x0]
      rw [decide_eq_true this]
theorem sameP_run (fuel d : Nat) {a b : List (Int × Int)} (hn : a.length < 1000000000) (hf : a.length < fuel) (h : AHeap) : run fuel (d + 1) F_skolemref_SamePairs [.slice (lstP a), .slice (lstP b)] h = some (.bool (decide (a = b)), h) := by
  refine pure_of rfl rfl (cc2 (canon_lstP 7 a) (canon_lstP 7 b)) (r := .bool (decide (a = b))) (h' := AHeap.none) ?_ rfl
  rw [e_skolemref_SamePairs, len_lst, len_lst]
  by_cases hl : a.length = b.length
  · rw [bif_npos (by omega)]
    have := sameP_loop fuel d hl hn (h := AHeap.none) fuel 0 (by omega) (by omega) rfl
    exact this
  · rw [bif_nneg (by omega), decide_eq_false (fun h => hl (by rw [h]))]
theorem okCi (i : Int) (A : List (Int × Int)) (O : List Int) : (!false && Nat.beq (List.length (circC i A O)) 3 && List.all (circC i A O) AVal.isCell) = true := rfl
theorem sameCi_run (fuel d : Nat) {i j : Int} {A B : List (Int × Int)} {O Q : List Int} (hA : A.length < 1000000000) (hAf : A.length < fuel) (hO : O.length < 1000000000) (hOf : O.length < fuel) (h : AHeap) :
    run fuel (d + 2) F_skolemref_SameCircuit [.agg (circC i A O), .agg (circC j B Q)] h = some (.bool (decide (i = j) && decide (A = B) && decide (O = Q)), h) := by
  refine pure_of rfl rfl (cc2 (canon_circ _ _ _) (canon_circ _ _ _)) (r := .bool (decide (i = j) && decide (A = B) && decide (O = Q))) ?_ rfl (h' := (AHeap.none.push 1 (circC i A O)).push 1 (circC j B Q))
  rw [e_skolemref_SameCircuit, show List.all (circC i A O) AVal.isCell = true from rfl, show List.all (circC j B Q) AVal.isCell = true from rfl, cond_true, cond_true, show (circC i A O).length = 3 from rfl, show (circC j B Q).length = 3 from rfl]
  have s1 := ((Sep0.start AHeap.none).push 1 3 (cs := circC i A O) rfl).push 1 3 (cs := circC j B Q) rfl
  generalize AHeap.none.next = P at s1
  generalize (AHeap.none.push 1 (circC i A O)).next = R at s1
  generalize (AHeap.none.push 1 (circC i A O)).push 1 (circC j B Q) = H at s1
  have a0 : H.cell (.mk ⟨P, 0, 0 + 0⟩ 3) = some (.int .i64 i) := s1.part (i := 0) rfl (by omega) rfl
  have a1 : H.cell (.mk ⟨P, 0, 0 + 1⟩ 3) = some (.slice (lstP A)) := s1.part (i := 0) rfl (by omega) rfl
  have a2 : H.cell (.mk ⟨P, 0, 0 + 2⟩ 3) = some (.slice (lstI O)) := s1.part (i := 0) rfl (by omega) rfl
  have b0 : H.cell (.mk ⟨R, 0, 0 + 0⟩ 3) = some (.int .i64 j) := s1.part (i := 1) rfl (by omega) rfl
  have b1 : H.cell (.mk ⟨R, 0, 0 + 1⟩ 3) = some (.slice (lstP B)) := s1.part (i := 1) rfl (by omega) rfl
  have b2 : H.cell (.mk ⟨R, 0, 0 + 2⟩ 3) = some (.slice (lstI Q)) := s1.part (i := 1) rfl (by omega) rfl
  simp only [field_mk, Option.bind_some, a0, a1, b0, b1, int_int, slice_slice]
  by_cases h1 : i = j
  · rw [decide_eq_true h1, sameP_run fuel d hA hAf]
    simp only [beq_self_eq_true, cond_true, Option.bind_some, bool_bool, Bool.true_and]
    by_cases h2 : A = B
    · rw [decide_eq_true h2]
      simp only [beq_self_eq_true, cond_true, a2, b2, Option.bind_some, slice_slice, Bool.true_and]
      rw [sameI_run fuel d (freeze_lstI 7 _) (freeze_lstI 7 _) hO hOf]
      simp only [Option.bind_some, bool_bool]
    · rw [decide_eq_false h2]
      rfl
  · rw [decide_eq_false h1]
    rfl
theorem sameCi_self (fuel d : Nat) {i : Int} {A : List (Int × Int)} {O : List Int} (hA : A.length < 1000000000) (hAf : A.length < fuel) (hO : O.length < 1000000000) (hOf : O.length < fuel) (h : AHeap) :
    run fuel (d + 2) F_skolemref_SameCircuit [.agg (circC i A O), .agg (circC i A O)] h = some (.bool true, h) := by
  rw [sameCi_run fuel d hA hAf hO hOf, decide_eq_true (rfl : i = i), decide_eq_true (rfl : A = A), decide_eq_true (rfl : O = O)]
  rfl

/-! what is read -/
theorem outsT_len {e m : Int} : ∀ {n : Nat} {W W' : List Wd} {acc O : List Int}, outsT e m n W acc = .ok (O, W') → O.length = acc.length + n
  | 0, W, W', acc, O, h => by cases h; rfl
  | n + 1, W, W', acc, O, h => by
    unfold outsT at h
    split at h
    · cases h
    · have := outsT_len h
      simp at this
      omega
theorem andsT_len {e i : Int} : ∀ {n k : Nat} {W W' : List Wd} {acc A : List (Int × Int)}, andsT e i k n W acc = .ok (A, W') → A.length = acc.length + n
  | 0, k, W, W', acc, A, h => by cases h; rfl
  | n + 1, k, W, W', acc, A, h => by
    unfold andsT at h
    split at h
    · cases h
    · have := andsT_len h
      simp at this
      omega
theorem bodyT_len {e m i o a : Int} {W : List Wd} {c : Ci} (h : bodyT e m i o a W = .ok c) : c.1 = i ∧ c.2.1.length = a.toNat ∧ c.2.2.length = o.toNat := by
  unfold bodyT at h
  split at h
  · cases h
  · split at h
    · cases h
    · rename_i hO
      split at h
      · cases h
      · rename_i hA
        split at h
        · cases h
        · cases h
          exact ⟨rfl, by simpa using andsT_len hA, by simpa using outsT_len hO⟩
theorem readC_ok {b : List UInt8} {c : Ci} (h : readC b = .ok c) : 0 ≤ c.1 ∧ c.1 ≤ 8000 ∧ c.2.1.length ≤ 8000 ∧ c.2.2.length ≤ 8000 := by
  unfold readC at h
  split at h
  · cases h
  · rename_i M hM
    obtain ⟨h5, hr, hl⟩ := headA_ok hM
    obtain ⟨l1, l2, l3, _, _⟩ := limT_none hl
    have h5' := five h5
    have m1 := hr (M.getD 1 0) (by rw [h5']; simp)
    have m4 := hr (M.getD 4 0) (by rw [h5']; simp)
    split at h
    · cases h
    · rename_i c' hc
      cases h
      obtain ⟨q1, q2, q3⟩ := bodyT_len hc
      rw [q1, q2, q3]
      omega
theorem readC_code {b : List UInt8} {c p : Int} (h : readC b = .error (c, p)) : c = 101 ∨ c = 102 := by
  unfold readC at h
  split at h
  · rename_i hx
    cases h
    exact headA_code hx
  · split at h
    · cases h; exact .inl rfl
    · cases h
theorem rdc_parts (b : List UInt8) : ∃ i A O u c q x, ciA (readC b) = .tup [.agg (circC i A O), u] ∧ rciA (readC b) = .tup [.agg (circC i A O), .agg (faultC c q x)] ∧ IsFault u c q x ∧ A.length ≤ 8000 ∧ O.length ≤ 8000 := by
  cases h : readC b with
  | ok c =>
    obtain ⟨i, A, O⟩ := c
    obtain ⟨_, _, q1, q2⟩ := readC_ok h
    exact ⟨i, A, O, .nilif, 0, false, 0, rfl, rfl, .fine, q1, q2⟩
  | error cp =>
    obtain ⟨c, p⟩ := cp
    rcases readC_code h with rfl | rfl
    · exact ⟨0, [], [], atV p (errC 101), 101, true, p, rfl, rfl, IsFault.at (j := 0) (by omega) p, by simp, by simp⟩
    · exact ⟨0, [], [], atV p (errC 102), 102, true, p, rfl, rfl, IsFault.at (j := 1) (by omega) p, by simp, by simp⟩
end Go.Proofs.YtmjbjgbcpaagmaaDoor

namespace Go.Proofs.YtmjbjgbcpaagmaaDoor
open Go.RowKit

section
variable (fuel d : Nat) (hf : 30 < fuel) {h0 : AHeap} {C b : Nat} {R : List Chunk}
include hf
theorem abytes0 {i : Nat} (hi : i ≤ 10000) : ∀ (n k : Nat) (t : List UInt8) (h : AHeap) (B : List Chunk), i < n + k → k ≤ i → t.length + 30 * (i - k) < 1099511627776 → BldCh b (bytesC t) B → Sep0 h0 h (B ++ R) →
    ∃ h' B', l_aag_Bytes_0 fuel (d + 7) n [(1, .ptr (.mk ⟨C, 0, 0⟩ 3)), (3, .ptr (bPt b)), (14, .int .i64 (i : Int)), (15, .int .i64 (k : Int))] h = some (.exit 0, [(1, .ptr (.mk ⟨C, 0, 0⟩ 3)), (3, .ptr (bPt b))], h') ∧ BldCh b (bytesC (t ++ insTx k (i - k))) B' ∧ Sep0 h0 h' (B' ++ R) := by
  intro n
  induction n with
  | zero => intro k t h B h1 h2; omega
  | succ n ih =>
    intro k t h B h1 h2 ht hB hs
    rw [l_aag_Bytes_0_eq]
    by_cases hk : k < i
    · have hl := lineB_len (l := [2 * ((k : Int) + 1)]) (fun x hx => by rw [List.mem_singleton.1 hx]; exact in64 (by omega) (by omega))
      simp only [List.length_cons, List.length_nil] at hl
      obtain ⟨h', B', e1, q1, s1⟩ := WS_run fuel (d + 6) hB hs (lineB [2 * ((k : Int) + 1)]) (by omega)
      obtain ⟨h'', B'', e2, q2, s2⟩ := ih (k + 1) (t ++ lineB [2 * ((k : Int) + 1)]) h' B' (by omega) (by omega) (by simp; omega) q1 s1
      refine ⟨h'', B'', ?_, ?_, s2⟩
      · rw [bif_pos (by omega), wrap64 (n := (k : Int) + 1) (by omega) (by omega), wrap64 (n := 2 * ((k : Int) + 1)) (by omega) (by omega), aline1 fuel (d + 1) hf _ _ (in64 (by omega) (by omega)), Option.bind_some, str_str, Option.bind_some, e1]
        simp only [Option.bind_some, tup2, cond_true, comp0, comp1, int_int]
        exact e2
      · rw [List.append_assoc] at q2
        rw [show i - k = (i - (k + 1)) + 1 by omega]
        exact q2
    · obtain rfl : k = i := by omega
      rw [bif_neg (by omega)]
      refine ⟨h, B, rfl, ?_, hs⟩
      rw [Nat.sub_self, insTx, List.append_nil]
      exact hB
theorem abytes1 {o : List Int} (ho : o.length ≤ 10000) (hx : ∀ x ∈ o, In64 x) : ∀ (n k : Nat) (t : List UInt8) (h : AHeap) (B : List Chunk), o.length < n + k → k ≤ o.length → t.length + 30 * (o.length - k) < 1099511627776 → BldCh b (bytesC t) B → Sep0 h0 h (B ++ R) →
    ∃ h' B', l_aag_Bytes_1 fuel (d + 7) n [(1, .ptr (.mk ⟨C, 0, 0⟩ 3)), (3, .ptr (bPt b)), (26, .slice (lstI o)), (27, .int .i64 (o.length : Int)), (28, .int .i64 (k : Int))] h = some (.exit 2, [(1, .ptr (.mk ⟨C, 0, 0⟩ 3)), (3, .ptr (bPt b))], h') ∧ BldCh b (bytesC (t ++ outsTx (o.drop k))) B' ∧ Sep0 h0 h' (B' ++ R) := by
  intro n
  induction n with
  | zero => intro k t h B h1 h2; omega
  | succ n ih =>
    intro k t h B h1 h2 ht hB hs
    rw [l_aag_Bytes_1_eq]
    by_cases hk : k < o.length
    · have hd := drop_get hk 0
      have hm : o.getD k 0 ∈ o := by rw [List.getD_eq_getElem?_getD, List.getElem?_eq_getElem hk]; exact List.getElem_mem hk
      have hxk := hx _ hm
      rw [bif_pos (by omega), addr_lstM _ (by omega) (by omega) 0, hd, Int.toNat_natCast]
      generalize o.getD k 0 = x at hxk
      have hl := lineB_len (l := [x]) (fun y hy => by rw [List.mem_singleton.1 hy]; exact hxk)
      simp only [List.length_cons, List.length_nil] at hl
      obtain ⟨h', B', e1, q1, s1⟩ := WS_run fuel (d + 6) hB hs (lineB [x]) (by omega)
      obtain ⟨h'', B'', e2, q2, s2⟩ := ih (k + 1) (t ++ lineB [x]) h' B' (by omega) (by omega) (by simp; omega) q1 s1
      refine ⟨h'', B'', ?_, ?_, s2⟩
      · simp only [Option.bind_some, cell_fp, int_int]
        rw [aline1 fuel (d + 1) hf _ _ hxk, Option.bind_some, str_str, Option.bind_some, e1]
        simp only [Option.bind_some, tup2, cond_true, comp0, comp1, int_int]
        rw [sucU (by omega)]
        exact e2
      · rw [List.append_assoc] at q2
        exact q2
    · obtain rfl : k = o.length := by omega
      rw [bif_neg (by omega)]
      refine ⟨h, B, rfl, ?_, hs⟩
      rw [List.drop_length, show outsTx [] = [] from rfl, List.append_nil]
      exact hB
theorem abytes2 {i : Nat} {A : List (Int × Int)} {o : List Int} (hi : i ≤ 10000) (hA : A.length ≤ 10000) (hx : ∀ p ∈ A, In64 p.1 ∧ In64 p.2) {r : Nat} (hR : R[r]? = some (Chunk.own 1 C 0 3 (circC i A o))) : ∀ (n k : Nat) (t : List UInt8) (h : AHeap) (B : List Chunk), A.length < n + k → k ≤ A.length → t.length + 70 * (A.length - k) < 1099511627776 → BldCh b (bytesC t) B → Sep0 h0 h (B ++ R) →
    ∃ h' B', l_aag_Bytes_2 fuel (d + 7) n [(1, .ptr (.mk ⟨C, 0, 0⟩ 3)), (3, .ptr (bPt b)), (38, .slice (lstP A)), (39, .int .i64 (A.length : Int)), (40, .int .i64 (k : Int))] h = some (.exit 4, [(3, .ptr (bPt b))], h') ∧ BldCh b (bytesC (t ++ andsTx i k (A.drop k))) B' ∧ Sep0 h0 h' (B' ++ R) := by
  intro n
  induction n with
  | zero => intro k t h B h1 h2; omega
  | succ n ih =>
    intro k t h B h1 h2 ht hB hs
    rw [l_aag_Bytes_2_eq]
    by_cases hk : k < A.length
    · have hd := drop_get hk (0, 0)
      have hm : A.getD k (0, 0) ∈ A := by rw [List.getD_eq_getElem?_getD, List.getElem?_eq_getElem hk]; exact List.getElem_mem hk
      have hxk := hx _ hm
      rw [bif_pos (by omega), addr_lstN (sz := 2) (f := fun p : Int × Int => [AVal.int .i64 p.1, .int .i64 p.2]) (fun _ => rfl) (l := A) (j := (k : Int)) (by omega) (by omega) (0, 0), hd, Int.toNat_natCast]
      generalize A.getD k (0, 0) = p at hxk
      have hl := lineB_len (l := [2 * ((i : Int) + k + 1), p.1, p.2]) (fun y hy => by simp at hy; rcases hy with rfl | rfl | rfl <;> first | exact hxk.1 | exact hxk.2 | exact in64 (by omega) (by omega))
      simp only [List.length_cons, List.length_nil] at hl
      have sc := hs.push 1 2 (cs := [(AVal.int .i64 (0 : Int)), (.int .i64 (0 : Int))]) rfl
      obtain ⟨h3, e3, s3⟩ := sc.put (i := (B ++ R).length) (o := 0) (l := 2) (vs := [.int .i64 p.1, .int .i64 p.2]) List.getElem?_concat_length (by simp) (by simp)
      rw [set_last] at s3
      have hq : (B ++ R ++ [Chunk.own 1 h.next 0 2 [AVal.int .i64 p.1, .int .i64 p.2]])[(B ++ R).length]? = some (.own 1 h.next 0 2 [.int .i64 p.1, .int .i64 p.2]) := List.getElem?_concat_length
      have c0 : h3.cell (.mk ⟨h.next, 0, 0⟩ 2) = some (.int .i64 p.1) := s3.part hq (by omega) rfl
      have c1 : h3.cell (.mk ⟨h.next, 0, 1⟩ 2) = some (.int .i64 p.2) := s3.part hq (by omega) rfl
      have hj' : (B ++ R)[B.length + r]? = some (Chunk.own 1 C 0 3 (circC i A o)) := by rw [List.getElem?_append_right (by omega), Nat.add_sub_cancel_left]; exact hR
      have cC : h3.cell (.mk ⟨C, 0, 0 + 0⟩ 3) = some (.int .i64 (i : Int)) := s3.part (i := B.length + r) (by rw [List.getElem?_append_left (List.getElem?_eq_some_iff.1 hj').1]; exact hj') (by omega) rfl
      obtain ⟨h', B', e1, q1, s1⟩ := WS_run fuel (d + 6) hB (by rw [← List.append_assoc]; exact s3) (lineB [2 * ((i : Int) + k + 1), p.1, p.2]) (by omega)
      have s1' : Sep0 h0 h' (B' ++ R) := by rw [← List.append_assoc] at s1; exact s1.init
      obtain ⟨h'', B'', e2, q2, s2⟩ := ih (k + 1) (t ++ lineB [2 * ((i : Int) + k + 1), p.1, p.2]) h' B' (by omega) (by omega) (by simp; omega) q1 s1'
      refine ⟨h'', B'', ?_, ?_, s2⟩
      · rw [Option.bind_some, cellsAt_fp (n := 2) (cs := [AVal.int .i64 p.1, .int .i64 p.2]) rfl, Option.bind_some, show (!false && Nat.beq (List.length [AVal.int .i64 p.1, .int .i64 p.2]) 2 && List.all [AVal.int .i64 p.1, .int .i64 p.2] AVal.isCell) = true from rfl, cond_true, e3]
        simp only [Option.bind_some, field_mk, cC, int_int]
        rw [show Pt.elem 1 2 (0 : Int) (.mk ⟨h.next, 0, 0⟩ 2) = some (.mk ⟨h.next, 0, 0⟩ 2) from rfl, show Pt.elem 1 2 (1 : Int) (.mk ⟨h.next, 0, 0⟩ 2) = some (.mk ⟨h.next, 0, 1⟩ 2) from rfl]
        simp only [Option.bind_some, c0, c1, int_int]
        rw [wrap64 (n := (i : Int) + (k : Int)) (by omega) (by omega), wrap64 (n := (i : Int) + (k : Int) + 1) (by omega) (by omega), wrap64 (n := 2 * ((i : Int) + (k : Int) + 1)) (by omega) (by omega), aline3 fuel (d + 1) hf _ _ (in64 (by omega) (by omega)) hxk.1 hxk.2, Option.bind_some, str_str, Option.bind_some, e1]
        simp only [Option.bind_some, tup2, cond_true, comp0, comp1, int_int]
        rw [sucU (by omega)]
        exact e2
      · rw [List.append_assoc] at q2
        exact q2
    · obtain rfl : k = A.length := by omega
      rw [bif_neg (by omega)]
      refine ⟨h, B, rfl, ?_, hs⟩
      rw [List.drop_length, andsTx, List.append_nil]
      exact hB
end
theorem abytes_body (fuel d : Nat) (hf : 20000 < fuel) {i : Nat} {A : List (Int × Int)} {o : List Int} (hc : CiOk i A o) : ∃ v h', brun fuel (d + 8) F_aag_Bytes [.agg (circC i A o)] AHeap.none = some (v, h') ∧ freezeV h' 8 v = some (.slice (lstU (aagTx i A o))) := by
    obtain ⟨hi, hA, ho, hxA, hxo⟩ := hc
    have s1 := ((Sep0.start AHeap.none).push 1 3 (cs := circC i A o) rfl).newBld
    have cc : (AHeap.pushT (AHeap.none.push 1 (circC i A o)) (BT, 2) 1 [(.ptr Pt.nil), (.slice Sl.nil)]).cellsAt 3 (.mk ⟨AHeap.none.next, 0, 0⟩ 3) = some (circC i A o) := s1.getAll (i := 1) rfl rfl
    rw [e_aag_Bytes, show List.all (circC i A o) AVal.isCell = true from rfl, cond_true, show (circC i A o).length = 3 from rfl, cc, Option.bind_some, show (⟨#[97, 97, 103]⟩ : ByteArray) = tx [97, 97, 103] from rfl, ahead_run fuel d (by omega) hi hA ho [97, 97, 103] (by simp)]
    simp only [Option.bind_some, str_str]
    have hl := lineB_len (l := headL i A o) (fun x hx => by simp [headL] at hx; rcases hx with rfl | rfl | rfl | rfl | rfl <;> exact in64 (by omega) (by omega))
    simp only [show (headL i A o).length = 5 from rfl] at hl
    have hB0 : BldCh (AHeap.none.push 1 (circC i A o)).next (bytesC []) [.exact (AHeap.none.push 1 (circC i A o)).next (bObj .nil .nil)] := .fresh (.inl rfl)
    generalize AHeap.pushT (AHeap.none.push 1 (circC i A o)) (BT, 2) 1 [(.ptr Pt.nil), (.slice Sl.nil)] = H at s1
    generalize (AHeap.none.push 1 (circC i A o)).next = b at s1 hB0
    generalize AHeap.none.next = C at s1
    obtain ⟨h2, B2, e2, q2, s2⟩ := WS_run fuel (d + 6) hB0 s1 ([97, 97, 103] ++ 32 :: lineB (headL i A o)) (by simp; omega)
    have hj2 : ∀ B : List Chunk, (B ++ [Chunk.own 1 C 0 3 (circC i A o)])[B.length]? = some (.own 1 C 0 3 (circC i A o)) := fun B => List.getElem?_concat_length
    have c2 : h2.cell (.mk ⟨C, 0, 0 + 0⟩ 3) = some (.int .i64 (i : Int)) := s2.part (hj2 B2) (by omega) rfl
    rw [e2]
    simp only [Option.bind_some, tup2, cond_true, comp0, comp1, int_int, field_mk, c2]
    rw [bif_neg (show ¬ (i : Int) < 0 by omega)]
    obtain ⟨h3, B3, e3, q3, s3⟩ := abytes0 fuel d (by omega) (C := C) hi fuel 0 _ h2 B2 (by omega) (by omega) (by simp; omega) q2 s2
    have c3 : h3.cell (.mk ⟨C, 0, 0 + 2⟩ 3) = some (.slice (lstI o)) := s3.part (hj2 B3) (by omega) rfl
    rw [show ((0 : Nat) : Int) = 0 from rfl] at e3
    rw [e3]
    simp only [Option.bind_some, k_aag_Bytes_0_x0, field_mk, c3, slice_slice]
    have hT : ∀ n k, k + n ≤ 10000 → (insTx k n).length ≤ 30 * n := by
      intro n
      induction n with
      | zero => intro k _; simp [insTx]
      | succ n ih =>
        intro k hk
        have h1 := ih (k + 1) (by omega)
        have h2 := lineB_len (l := [2 * ((k : Int) + 1)]) (fun x hx => by rw [List.mem_singleton.1 hx]; exact in64 (by omega) (by omega))
        simp only [insTx, List.length_append, List.length_cons, List.length_nil] at h2 ⊢
        omega
    have hT0 := hT (i - 0) 0 (by omega)
    obtain ⟨h4, B4, e4, q4, s4⟩ := abytes1 fuel d (by omega) (C := C) ho hxo fuel 0 _ h3 B3 (by omega) (by omega) (by simp at hT0 ⊢; omega) q3 s3
    have c4 : h4.cell (.mk ⟨C, 0, 0 + 1⟩ 3) = some (.slice (lstP A)) := s4.part (hj2 B4) (by omega) rfl
    rw [show ((0 : Nat) : Int) = 0 from rfl] at e4
    rw [len_lst, e4]
    simp only [Option.bind_some, k_aag_Bytes_1_x2, field_mk, c4, slice_slice]
    have hT1 : ∀ l : List Int, (∀ x ∈ l, In64 x) → (outsTx l).length ≤ 30 * l.length := by
      intro l
      induction l with
      | nil => intro _; simp [outsTx]
      | cons x l ih =>
        intro hx
        have h1 := ih fun y hy => hx y (List.mem_cons_of_mem _ hy)
        have h2 := lineB_len (l := [x]) (fun y hy => by rw [List.mem_singleton.1 hy]; exact hx x List.mem_cons_self)
        simp only [outsTx, List.flatMap_cons, List.length_append, List.length_cons, List.length_nil] at h1 h2 ⊢
        omega
    have hT2 := hT1 o hxo
    obtain ⟨h5, B5, e5, q5, s5⟩ := abytes2 fuel d (by omega) (C := C) (o := o) hi hA hxA (r := 0) rfl fuel 0 _ h4 B4 (by omega) (by omega) (by simp at hT0 hT2 ⊢; omega) q4 s4
    rw [show ((0 : Nat) : Int) = 0 from rfl] at e5
    rw [len_lst, e5]
    simp only [Option.bind_some, k_aag_Bytes_2_x4]
    have ht : [] ++ ([97, 97, 103] ++ 32 :: lineB (headL i A o)) ++ insTx 0 (i - 0) ++ outsTx (o.drop 0) ++ andsTx i 0 (A.drop 0) = aagTx i A o := by simp [aagTx]
    rw [ht] at q5
    have hT3 : ∀ (l : List (Int × Int)) (k : Nat), k + l.length ≤ 10000 → (∀ p ∈ l, In64 p.1 ∧ In64 p.2) → (andsTx i k l).length ≤ 70 * l.length := by
      intro l
      induction l with
      | nil => intro k _ _; simp [andsTx]
      | cons p l ih =>
        intro k hk hx
        simp only [List.length_cons] at hk
        have h1 := ih (k + 1) (by omega) fun y hy => hx y (List.mem_cons_of_mem _ hy)
        have hxk := hx p List.mem_cons_self
        have h2 := lineB_len (l := [2 * ((i : Int) + k + 1), p.1, p.2]) (fun y hy => by simp at hy; rcases hy with rfl | rfl | rfl <;> first | exact hxk.1 | exact hxk.2 | exact in64 (by omega) (by omega))
        simp only [andsTx, List.length_append, List.length_cons, List.length_nil] at h2 ⊢
        omega
    have hT4 := hT3 A 0 (by omega) hxA
    have hlen : (aagTx i A o).length ≤ 10000000 := by
      simp only [aagTx, List.length_append, List.length_cons, List.length_nil]
      simp at hT0
      omega
    obtain ⟨h6, e6, s6⟩ := BString_run fuel (d + 7) (s := tx (aagTx i A o)) (by rw [bytesOf_tx]; exact q5) s5 (by rw [tx_size]; omega)
    rw [e6]
    simp only [Option.bind_some, str_str]
    have s7 := s6.push 1 (aagTx i A o).length (cs := bytesOf (tx (aagTx i A o))) (by rw [bytesOf_tx]; simp)
    refine ⟨_, _, rfl, ?_⟩
    have hne : (aagTx i A o).length ≠ 0 := by simp [aagTx]
    have s8 := (s7.toGrown false hne)
    have hg := s8.sep.grown (i := 1) rfl
    have hz : (tx (aagTx i A o)).size = (aagTx i A o).length := tx_size _
    rw [bytesOf_tx] at hg
    rw [bytesOf_tx, hz, hg.freeze (n := 7) (by simp [hne]) (mapM_freeze (g := fun b : UInt8 => AVal.int .u8 (b.toNat : Int)) (fun _ => rfl) _)]
    rfl
theorem canon_circ0 (i : Int) : canonV 8 (.agg [.int .i64 i, .slice .nil, .slice .nil]) = some (.agg (circC i [] [])) := rfl
theorem abytes_nil (fuel d : Nat) (hf : 20000 < fuel) (h : AHeap) : run fuel (d + 8) F_aag_Bytes [.agg [.int .i64 0, .slice .nil, .slice .nil]] h = some (.slice (lstU (aagTx 0 [] [])), h) := by
  obtain ⟨v, h', e1, e2⟩ := abytes_body fuel d hf (i := 0) (A := []) (o := []) ⟨by omega, by simp, by simp, by simp, by simp⟩
  exact pure_of rfl rfl (cc1 (canon_circ0 0)) e1 e2
end Go.Proofs.YtmjbjgbcpaagmaaDoor

namespace Go.Proofs.YtmjbjgbcpaagmaaDoor
open Go.RowKit

theorem readC_nil : readC [] = .error (101, 0) := rfl
theorem aagTx_nil : aagTx 0 [] [] = [97, 97, 103, 32, 48, 32, 48, 32, 48, 32, 48, 32, 48, 10] := by decide
theorem first11_run (fuel : Nat) {e : Nat} (he : 12 ≤ e) (hf : 20000 < fuel) (h : AHeap) : run fuel e F_skolemlaw11_first [] h = some (.bool true, h) := by
  obtain ⟨d, rfl⟩ : ∃ d, e = d + 12 := ⟨e - 12, by omega⟩
  refine pure_ex rfl rfl canonL_nil (r := .bool true) ?_ (fun _ => rfl)
  rw [e_skolemlaw11_first, aread_nil fuel (d + 2) hf, readC_nil, show ciA (.error (101, 0)) = .tup [.agg (circC 0 [] []), atV 0 err_api_ErrText] from rfl]
  simp only [Option.bind_some, tup2, cond_true, comp0, comp1, agg_agg]
  rw [cond_pos _ _ (okCi 0 [] [])]
  have s1 := ((Sep0.start AHeap.none).push 1 3 (cs := zero3) rfl).cons
  obtain ⟨h5, e5, _⟩ := ret_put s1 rfl (vs := circC 0 [] []) rfl
  rw [e5]
  simp only [Option.bind_some]
  rw [Placed_run fuel (d + 10) (show (101 : Int) ≠ 0 by omega)]
  simp only [Option.bind_some, agg_agg]
  rw [Same_run fuel (d + 7) (e := atV 0 err_api_ErrText) (c := 101) (p := true) (x := 0) (IsFault.at (j := 0) (by omega) 0) (by omega) 101 true 0]
  simp only [Option.bind_some, bool_bool, decide_true, Bool.true_and, beq_self_eq_true, cond_true]
  rw [abytes_nil fuel (d + 3) hf]
  simp only [Option.bind_some, slice_slice]
  rw [cells_lstM, Option.bind_some, bytesFrom_bytesC, Option.bind_some, aagTx_nil]
  exact ⟨_, rfl⟩
end Go.Proofs.YtmjbjgbcpaagmaaDoor

namespace Go.Proofs.YtmjbjgbcpaagmaaDoor
open Go.RowKit

theorem aagReads_run (F d : Nat) (hF : 2 ^ 21 ≤ F) (b : List UInt8) (h : AHeap) : ∃ h', run F (d + 60) F_skolemlaw11_AagReads [.slice (lstU b)] h = some (.bool true, h') := by
  rw [e_skolemlaw11_AagReads, first11_run F (by omega) (by omega), len_lst]
  simp only [Option.bind_some, bool_bool, Bool.not_true, cond_false]
  by_cases h0 : 400 < b.length
  · rw [bif_pos (by omega)]
    exact ⟨h, rfl⟩
  rw [bif_neg (by omega)]
  obtain ⟨i, A, O, u, c, q, x, e1, e2, hu, hA, hO⟩ := rdc_parts b
  rw [aread_run F (d + 50) (by omega) (by omega), e1]
  simp only [Option.bind_some, tup2, cond_true, comp0, comp1, agg_agg]
  rw [cond_pos _ _ (okCi i A O)]
  have s1 := (Sep0.start h).push 1 3 (cs := zero3) rfl
  obtain ⟨h7, e7, s7⟩ := s1.putAll (i := 0) (vs := circC i A O) rfl rfl rfl
  rw [e7, Option.bind_some, rread_run F (d + 56) (by omega) (by omega), e2]
  simp only [Option.bind_some, tup2, cond_true, comp0, comp1, agg_agg]
  rw [cond_pos _ _ (okCi i A O)]
  have s8 := (s7.push 1 3 (cs := zero3) rfl).push 1 3 (cs := faultC 0 false 0) rfl
  obtain ⟨h13, e13, s13⟩ := s8.putAll (i := 1) (vs := circC i A O) rfl rfl rfl
  rw [show [(AVal.int .i64 (0 : Int)), (.bool false), (.int .i64 (0 : Int))] = faultC 0 false 0 from rfl, e13, Option.bind_some, cond_pos _ _ (okF c q x)]
  obtain ⟨h14, e14, hB, s14⟩ := fault_put s13 (i := 2) rfl rfl c q x
  have hA1 : h14.cellsAt 3 (.mk ⟨h.next, 0, 0⟩ 3) = some (circC i A O) := s14.getAll (i := 0) rfl rfl
  have hA2 : h14.cellsAt 3 (.mk ⟨h7.next, 0, 0⟩ 3) = some (circC i A O) := s14.getAll (i := 1) rfl rfl
  rw [e14, Option.bind_some, hA1, Option.bind_some, hA2, Option.bind_some, sameCi_self F (d + 57) (by omega) (by omega) (by omega) (by omega)]
  simp only [Option.bind_some, bool_bool, beq_self_eq_true, cond_true, hB]
  rw [same_true F (d + 55) hu (by omega)]
  exact ⟨_, rfl⟩
end Go.Proofs.YtmjbjgbcpaagmaaDoor
