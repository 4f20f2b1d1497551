/-
  dimacs.Head.
-/
import Derived.Test.YtdkckkhghghhdaaDoorHd1
namespace Go.Proofs.YtdkckkhghghhdaaDoor
open Go.RowKit

section
variable {W : List Wd} {P : Pt} {e : Int} {w : Wd}
abbrev dW : Wd := ⟨[], 0, false⟩
theorem hend (fuel d n k : Nat) (hk : W.length ≤ k) (h4 : k < 4) (h : AHeap) :
    l_dimacs_Head_0 fuel (d + 5) (n + 1) [(0, .slice (lstW W)), (1, .int .i64 e), (8, .ptr P), (11, .int .i64 (k : Int))] h = some (.ret, [(4, .int .i64 0), (5, .int .i64 0), (6, .int .i64 0), (7, atV e (errC 101)), (8, .ptr P)], h) := by
  rw [l_dimacs_Head_0_eq, len_lst, bif_pos (by omega), bif_pos (by omega), dat0 fuel (d + 4)]
  rfl
theorem h5_bad (fuel d n : Nat) {k p c : Int} {x0 : Sl} (h : AHeap) : k_dimacs_Head_5 fuel d n .normal [(0, .slice x0), (1, .int .i64 e), (8, .ptr P), (10, atV p (errC c)), (11, .int .i64 k)] h = some (.ret, [(4, .int .i64 0), (5, .int .i64 0), (6, .int .i64 0), (7, atV p (errC c)), (8, .ptr P)], h) := by
  rw [k_dimacs_Head_5_n]
  rfl
theorem h5_ok (fuel d n : Nat) {k : Nat} (hk : k < 4) {x0 : Sl} (h : AHeap) : k_dimacs_Head_5 fuel d n .normal [(0, .slice x0), (1, .int .i64 e), (8, .ptr P), (10, .nilif), (11, .int .i64 (k : Int))] h = l_dimacs_Head_0 fuel d n [(0, .slice x0), (1, .int .i64 e), (8, .ptr P), (11, .int .i64 ((k + 1 : Nat) : Int))] h := by
  rw [k_dimacs_Head_5_n, nilTest_nilif, Option.bind_some, show (!true) = false from rfl, cond_false, sucU (by omega)]
theorem hstep0 (fuel d n : Nat) (hk : 0 < W.length) (hw : W.getD 0 dW = w) (h : AHeap) :
    l_dimacs_Head_0 fuel (d + 5) (n + 1) [(0, .slice (lstW W)), (1, .int .i64 e), (8, .ptr P), (11, .int .i64 ((0 : Nat) : Int))] h =
      if (!w.first || !(w.text == [112])) = true then some (.ret, [(4, .int .i64 0), (5, .int .i64 0), (6, .int .i64 0), (7, atV (w.pos : Int) (errC 101)), (8, .ptr P)], h) else l_dimacs_Head_0 fuel (d + 5) n [(0, .slice (lstW W)), (1, .int .i64 e), (8, .ptr P), (11, .int .i64 ((0 + 1 : Nat) : Int))] h := by
  have ha : ∀ h : AHeap, h.addr 3 (lstW W) ((0 : Nat) : Int) = some (.fp 0 (wdC w)) := fun h => by
    have := addr_lstN (h := h) (sz := 3) (f := wdC) wdC_len (l := W) (j := ((0 : Nat) : Int)) (by omega) (by omega) dW false
    rw [Int.toNat_natCast, hw] at this
    exact this
  have f0 : Pt.field 0 (.fp 0 (wdC w)) = some (.fp 0 (wdC w)) := rfl
  have f1 : Pt.field 1 (.fp 0 (wdC w)) = some (.fp 0 [.int .i64 (w.pos : Int), .bool w.first]) := rfl
  have f2 : Pt.field 2 (.fp 0 (wdC w)) = some (.fp 0 [.bool w.first]) := rfl
  have c0 : ∀ h : AHeap, h.cell (.fp 0 (wdC w)) = some (.str (tx w.text)) := fun _ => rfl
  have ht : (!decide (tx w.text = (⟨#[112]⟩ : ByteArray))) = !(w.text == [112]) := txt_ne w.text [112]
  have hc : ∀ b : Bool, ((bif ((!w.first) == false) then (some ((AVal.bool b), h)) else (some ((.bool true), h)) : Option (AVal × AHeap))) = some (.bool (!w.first || b), h) := fun b => by cases w.first <;> rfl
  rw [l_dimacs_Head_0_eq, len_lst, bif_pos (by omega), bif_neg (by omega), bif_pos (by omega)]
  simp only [ha, f0, f1, f2, c0, Option.bind_some, cell_fp, bool_bool, str_str, int_int]
  rw [ht, hc]
  simp only [Option.bind_some, bool_bool]
  cases hb : (!w.first || !(w.text == [112])) with
  | true =>
    simp only [cond_true, if_true]
    rw [dat0 fuel (d + 4)]
    simp only [Option.bind_some, k_dimacs_Head_1_n]
    exact h5_bad fuel (d + 5) n (c := 101) h
  | false =>
    simp only [cond_false, Bool.false_eq_true, if_false, Option.bind_some, k_dimacs_Head_1_n]
    exact h5_ok fuel (d + 5) n (k := 0) (by omega) h
theorem hstep1 (fuel d n : Nat) (hk : 1 < W.length) (hw : W.getD 1 dW = w) (h : AHeap) :
    l_dimacs_Head_0 fuel (d + 5) (n + 1) [(0, .slice (lstW W)), (1, .int .i64 e), (8, .ptr P), (11, .int .i64 ((1 : Nat) : Int))] h =
      if (w.first || !(w.text == [99, 110, 102])) = true then some (.ret, [(4, .int .i64 0), (5, .int .i64 0), (6, .int .i64 0), (7, atV (w.pos : Int) (errC 101)), (8, .ptr P)], h) else l_dimacs_Head_0 fuel (d + 5) n [(0, .slice (lstW W)), (1, .int .i64 e), (8, .ptr P), (11, .int .i64 ((1 + 1 : Nat) : Int))] h := by
  have ha : ∀ h : AHeap, h.addr 3 (lstW W) ((1 : Nat) : Int) = some (.fp 0 (wdC w)) := fun h => by
    have := addr_lstN (h := h) (sz := 3) (f := wdC) wdC_len (l := W) (j := ((1 : Nat) : Int)) (by omega) (by omega) dW false
    rw [Int.toNat_natCast, hw] at this
    exact this
  have f0 : Pt.field 0 (.fp 0 (wdC w)) = some (.fp 0 (wdC w)) := rfl
  have f1 : Pt.field 1 (.fp 0 (wdC w)) = some (.fp 0 [.int .i64 (w.pos : Int), .bool w.first]) := rfl
  have f2 : Pt.field 2 (.fp 0 (wdC w)) = some (.fp 0 [.bool w.first]) := rfl
  have c0 : ∀ h : AHeap, h.cell (.fp 0 (wdC w)) = some (.str (tx w.text)) := fun _ => rfl
  have ht : (!decide (tx w.text = (⟨#[99, 110, 102]⟩ : ByteArray))) = !(w.text == [99, 110, 102]) := txt_ne w.text [99, 110, 102]
  have hc : ∀ b : Bool, ((bif (w.first == false) then (some ((AVal.bool b), h)) else (some ((.bool true), h)) : Option (AVal × AHeap))) = some (.bool (w.first || b), h) := fun b => by cases w.first <;> rfl
  rw [l_dimacs_Head_0_eq, len_lst, bif_pos (by omega), bif_neg (by omega), bif_neg (by omega), bif_pos (by omega)]
  simp only [ha, f0, f1, f2, c0, Option.bind_some, cell_fp, bool_bool, str_str, int_int]
  rw [ht, hc]
  simp only [Option.bind_some, bool_bool]
  cases hb : (w.first || !(w.text == [99, 110, 102])) with
  | true =>
    simp only [cond_true, if_true]
    rw [dat0 fuel (d + 4)]
    simp only [Option.bind_some, k_dimacs_Head_2_n, k_dimacs_Head_4_n]
    exact h5_bad fuel (d + 5) n (c := 101) h
  | false =>
    simp only [cond_false, Bool.false_eq_true, if_false, Option.bind_some, k_dimacs_Head_2_n, k_dimacs_Head_4_n]
    exact h5_ok fuel (d + 5) n (k := 1) (by omega) h
end

section
variable {W : List Wd} {e : Int} {w : Wd}
theorem hstep2 (fuel d n : Nat) (hf : 20 < fuel) (hk : 2 < W.length) (hw : W.getD 2 dW = w) {A : Nat} {h0 h : AHeap} (hs : Sep0 h0 h [.own 1 A 0 4 [.int .i64 0, .int .i64 0, .int .i64 0, .int .i64 0]]) :
    match cntC w 4000 with
    | some c => ∃ h', l_dimacs_Head_0 fuel (d + 6) (n + 1) [(0, .slice (lstW W)), (1, .int .i64 e), (8, .ptr (.mk ⟨A, 0, 0⟩ 4)), (11, .int .i64 ((2 : Nat) : Int))] h = some (.ret, [(4, .int .i64 0), (5, .int .i64 0), (6, .int .i64 0), (7, atV (w.pos : Int) (errC c)), (8, .ptr (.mk ⟨A, 0, 0⟩ 4))], h')
    | none => ∃ h', l_dimacs_Head_0 fuel (d + 6) (n + 1) [(0, .slice (lstW W)), (1, .int .i64 e), (8, .ptr (.mk ⟨A, 0, 0⟩ 4)), (11, .int .i64 ((2 : Nat) : Int))] h = l_dimacs_Head_0 fuel (d + 6) n [(0, .slice (lstW W)), (1, .int .i64 e), (8, .ptr (.mk ⟨A, 0, 0⟩ 4)), (11, .int .i64 ((2 + 1 : Nat) : Int))] h' ∧
        Sep0 h0 h' [.own 1 A 0 4 [.int .i64 0, .int .i64 0, .int .i64 (numW w.text), .int .i64 0]] := by
  have ha : ∀ h : AHeap, h.addr 3 (lstW W) ((2 : Nat) : Int) = some (.fp 0 (wdC w)) := fun h => by
    have := addr_lstN (h := h) (sz := 3) (f := wdC) wdC_len (l := W) (j := ((2 : Nat) : Int)) (by omega) (by omega) dW false
    rw [Int.toNat_natCast, hw] at this
    exact this
  have hel : Pt.elem 1 4 ((2 : Nat) : Int) (.mk ⟨A, 0, 0⟩ 4) = some (.mk ⟨A, 0, 2⟩ 4) := rfl
  rw [l_dimacs_Head_0_eq, len_lst, bif_pos (by omega), bif_neg (by omega), bif_neg (by omega), bif_neg (by omega), bif_pos (by omega), ha, Option.bind_some, cellsAt_fp (wdC_len w), Option.bind_some, count_run0 fuel (d + 1) hf]
  unfold cntA
  cases hc : cntC w 4000 with
  | some c =>
    simp only [Option.bind_some, isTup_tup, List.length_cons, List.length_nil, Nat.beq, cond_true, comp_tup, List.getElem?_cons_zero, List.getElem?_cons_succ, int_int, hel]
    obtain ⟨h', e1, s1⟩ := hs.put (i := 0) (o := 2) (l := 4) (vs := [.int .i64 0]) rfl (by simp) (by simp)
    rw [e1]
    simp only [Option.bind_some, k_dimacs_Head_3_n, k_dimacs_Head_4_n]
    exact ⟨h', h5_bad fuel (d + 6) n (c := c) h'⟩
  | none =>
    simp only [Option.bind_some, isTup_tup, List.length_cons, List.length_nil, Nat.beq, cond_true, comp_tup, List.getElem?_cons_zero, List.getElem?_cons_succ, int_int, hel]
    obtain ⟨h', e1, s1⟩ := hs.put (i := 0) (o := 2) (l := 4) (vs := [.int .i64 (numW w.text)]) rfl (by simp) (by simp)
    rw [e1]
    simp only [Option.bind_some, k_dimacs_Head_3_n, k_dimacs_Head_4_n]
    exact ⟨h', h5_ok fuel (d + 6) n (k := 2) (by omega) h', s1⟩
theorem hstep3 (fuel d n : Nat) (hf : 20 < fuel) (hk : 3 < W.length) (hw : W.getD 3 dW = w) {A : Nat} {v : Int} {h0 h : AHeap} (hs : Sep0 h0 h [.own 1 A 0 4 [.int .i64 0, .int .i64 0, .int .i64 v, .int .i64 0]]) :
    match cntC w 20000 with
    | some c => ∃ h', l_dimacs_Head_0 fuel (d + 6) (n + 1) [(0, .slice (lstW W)), (1, .int .i64 e), (8, .ptr (.mk ⟨A, 0, 0⟩ 4)), (11, .int .i64 ((3 : Nat) : Int))] h = some (.ret, [(4, .int .i64 0), (5, .int .i64 0), (6, .int .i64 0), (7, atV (w.pos : Int) (errC c)), (8, .ptr (.mk ⟨A, 0, 0⟩ 4))], h')
    | none => ∃ h', l_dimacs_Head_0 fuel (d + 6) (n + 1) [(0, .slice (lstW W)), (1, .int .i64 e), (8, .ptr (.mk ⟨A, 0, 0⟩ 4)), (11, .int .i64 ((3 : Nat) : Int))] h = l_dimacs_Head_0 fuel (d + 6) n [(0, .slice (lstW W)), (1, .int .i64 e), (8, .ptr (.mk ⟨A, 0, 0⟩ 4)), (11, .int .i64 ((3 + 1 : Nat) : Int))] h' ∧
        Sep0 h0 h' [.own 1 A 0 4 [.int .i64 0, .int .i64 0, .int .i64 v, .int .i64 (numW w.text)]] := by
  have ha : ∀ h : AHeap, h.addr 3 (lstW W) ((3 : Nat) : Int) = some (.fp 0 (wdC w)) := fun h => by
    have := addr_lstN (h := h) (sz := 3) (f := wdC) wdC_len (l := W) (j := ((3 : Nat) : Int)) (by omega) (by omega) dW false
    rw [Int.toNat_natCast, hw] at this
    exact this
  have hel : Pt.elem 1 4 ((3 : Nat) : Int) (.mk ⟨A, 0, 0⟩ 4) = some (.mk ⟨A, 0, 3⟩ 4) := rfl
  rw [l_dimacs_Head_0_eq, len_lst, bif_pos (by omega), bif_neg (by omega), bif_neg (by omega), bif_neg (by omega), bif_neg (by omega), ha, Option.bind_some, cellsAt_fp (wdC_len w), Option.bind_some, count_run0 fuel (d + 1) hf]
  unfold cntA
  cases hc : cntC w 20000 with
  | some c =>
    simp only [Option.bind_some, isTup_tup, List.length_cons, List.length_nil, Nat.beq, cond_true, comp_tup, List.getElem?_cons_zero, List.getElem?_cons_succ, int_int, hel]
    obtain ⟨h', e1, s1⟩ := hs.put (i := 0) (o := 3) (l := 4) (vs := [.int .i64 0]) rfl (by simp) (by simp)
    rw [e1]
    simp only [Option.bind_some, k_dimacs_Head_3_n, k_dimacs_Head_4_n]
    exact ⟨h', h5_bad fuel (d + 6) n (c := c) h'⟩
  | none =>
    simp only [Option.bind_some, isTup_tup, List.length_cons, List.length_nil, Nat.beq, cond_true, comp_tup, List.getElem?_cons_zero, List.getElem?_cons_succ, int_int, hel]
    obtain ⟨h', e1, s1⟩ := hs.put (i := 0) (o := 3) (l := 4) (vs := [.int .i64 (numW w.text)]) rfl (by simp) (by simp)
    rw [e1]
    simp only [Option.bind_some, k_dimacs_Head_3_n, k_dimacs_Head_4_n]
    exact ⟨h', h5_ok fuel (d + 6) n (k := 3) (by omega) h', s1⟩
end
theorem hd_fr (r : HdR) (hr : ∀ c p, r = .bad c p → c = 101 ∨ c = 102) (h : AHeap) : freezeV h 8 (hdA r) = some (hdA r) := by
  cases r with
  | ok v m => rfl
  | bad c p => rcases hr c p rfl with rfl | rfl <;> rfl
theorem headT_code {e : Int} {W : List Wd} {c p : Int} (h : headT e W = .bad c p) : c = 101 ∨ c = 102 := by
  unfold headT at h
  repeat' split at h
  all_goals (first | (cases h; left; rfl) | (rename_i hc; cases h; exact cntC_code hc) | cases h | skip)
theorem head_all (fuel d n : Nat) (hf : 20 < fuel) (hn : 5 ≤ n) {W : List Wd} {e : Int} {A : Nat} {h0 h : AHeap} (hs : Sep0 h0 h [.own 1 A 0 4 [.int .i64 0, .int .i64 0, .int .i64 0, .int .i64 0]]) :
    ∃ h', (l_dimacs_Head_0 fuel (d + 6) n [(0, .slice (lstW W)), (1, .int .i64 e), (8, .ptr (.mk ⟨A, 0, 0⟩ 4)), (11, .int .i64 ((0 : Nat) : Int))] h).bind (fun p => k_dimacs_Head_0 fuel (d + 6) p.1 p.2.1 p.2.2) = some (hdA (headT e W), h') := by
  obtain ⟨m, rfl⟩ : ∃ m, n = m + 1 + 1 + 1 + 1 + 1 := ⟨n - 5, by omega⟩
  have ret : ∀ (c p : Int) (h : AHeap), (some (AExit.ret, [(4, AVal.int .i64 0), (5, .int .i64 0), (6, .int .i64 0), (7, atV p (errC c)), (8, .ptr (.mk ⟨A, 0, 0⟩ 4))], h)).bind (fun p => k_dimacs_Head_0 fuel (d + 6) p.1 p.2.1 p.2.2) = some (hdA (.bad c p), h) := fun c p h => by
    rw [Option.bind_some, k_dimacs_Head_0_r]; rfl
  match W with
  | [] =>
    rw [hend fuel (d + 1) _ 0 (by simp) (by omega), ret]
    exact ⟨_, rfl⟩
  | w0 :: W1 =>
    rw [hstep0 fuel (d + 1) _ (w := w0) (by simp) rfl]
    unfold headT
    simp only
    by_cases b0 : (!w0.first || !(w0.text == [112])) = true
    · rw [if_pos b0, if_pos b0, ret]
      exact ⟨_, rfl⟩
    rw [if_neg b0, if_neg b0]
    match W1 with
    | [] =>
      rw [hend fuel (d + 1) _ 1 (by simp) (by omega), ret]
      exact ⟨_, rfl⟩
    | w1 :: W2 =>
      rw [hstep1 fuel (d + 1) _ (w := w1) (by simp) rfl]
      simp only
      by_cases b1 : (w1.first || !(w1.text == [99, 110, 102])) = true
      · rw [if_pos b1, if_pos b1, ret]
        exact ⟨_, rfl⟩
      rw [if_neg b1, if_neg b1]
      match W2 with
      | [] =>
        rw [hend fuel (d + 1) _ 2 (by simp) (by omega), ret]
        exact ⟨_, rfl⟩
      | w2 :: W3 =>
        have h2 := hstep2 (W := w0 :: w1 :: w2 :: W3) (e := e) (w := w2) fuel d (m + 1 + 1) hf (by simp) rfl hs
        simp only
        cases hc2 : cntC w2 4000 with
        | some c =>
          rw [hc2] at h2
          obtain ⟨h', e2⟩ := h2
          rw [e2, ret]
          exact ⟨_, rfl⟩
        | none =>
          rw [hc2] at h2
          obtain ⟨h2', e2, s2⟩ := h2
          rw [e2]
          match W3 with
          | [] =>
            rw [hend fuel (d + 1) _ 3 (by simp) (by omega), ret]
            exact ⟨_, rfl⟩
          | w3 :: W4 =>
            have h3 := hstep3 (W := w0 :: w1 :: w2 :: w3 :: W4) (e := e) (w := w3) fuel d (m + 1) hf (by simp) rfl s2
            simp only
            cases hc3 : cntC w3 20000 with
            | some c =>
              rw [hc3] at h3
              obtain ⟨h', e3⟩ := h3
              rw [e3, ret]
              exact ⟨_, rfl⟩
            | none =>
              rw [hc3] at h3
              obtain ⟨h3', e3, s3⟩ := h3
              have p2 : h3'.cell (.mk ⟨A, 0, 2⟩ 4) = some (.int .i64 (numW w2.text)) := s3.part (i := 0) rfl (by omega) rfl
              have p3 : h3'.cell (.mk ⟨A, 0, 3⟩ 4) = some (.int .i64 (numW w3.text)) := s3.part (i := 0) rfl (by omega) rfl
              rw [e3, l_dimacs_Head_0_eq, bif_neg (by omega), Option.bind_some, k_dimacs_Head_0_x0, show Pt.elem 1 4 (2 : Int) (.mk ⟨A, 0, 0⟩ 4) = some (.mk ⟨A, 0, 2⟩ 4) from rfl, Option.bind_some, p2, Option.bind_some, int_int, Option.bind_some, show Pt.elem 1 4 (3 : Int) (.mk ⟨A, 0, 0⟩ 4) = some (.mk ⟨A, 0, 3⟩ 4) from rfl, Option.bind_some, p3, Option.bind_some, int_int, Option.bind_some]
              exact ⟨_, rfl⟩
theorem head_run (fuel d : Nat) (hf : 30 < fuel) {W : List Wd} (e : Int) (h : AHeap) : run fuel (d + 7) F_dimacs_Head [.slice (lstW W), .int .i64 e] h = some (hdA (headT e W), h) := by
  refine pure_ex rfl rfl (cc2 (canon_lst (closedL_flatMap closed_wdC W)) rfl) (r := hdA (headT e W)) ?_ (hd_fr _ (fun c p h => headT_code h))
  rw [e_dimacs_Head]
  exact head_all fuel d fuel (by omega) (by omega) ((Sep0.start AHeap.none).push 1 4 (cs := [(AVal.int .i64 (0 : Int)), (.int .i64 (0 : Int)), (.int .i64 (0 : Int)), (.int .i64 (0 : Int))]) rfl)
end Go.Proofs.YtdkckkhghghhdaaDoor
