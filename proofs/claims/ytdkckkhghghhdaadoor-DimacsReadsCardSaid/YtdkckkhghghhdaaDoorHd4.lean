/-
  skolemref1.plain, Head.
-/
import Derived.Test.YtdkckkhghghhdaaDoorHd0
import Derived.Test.YtdkckkhghghhdaaDoorDc2
namespace Go.Proofs.YtdkckkhghghhdaaDoor
open Go.RowKit

abbrev dWr : Wd := ⟨[], 0, false⟩
def plB (W : List Wd) (k : Nat) : Bool := decide (k < W.length) && (!(W.getD k dWr).first && plainW (W.getD k dWr).text)
theorem rplain_run (fuel d : Nat) (hf : 20 < fuel) {W : List Wd} (hne : ∀ w ∈ W, w.text ≠ []) (k : Nat) (h : AHeap) :
    run fuel (d + 2) F_skolemref1_plain [.slice (lstW W), .int .i64 (k : Int)] h = some (.tup [.int .i64 (if plB W k = true then numW (W.getD k dWr).text else 0), .bool (plB W k)], h) := by
  refine pure_of rfl rfl (cc2 (canon_lst (closedL_flatMap closed_wdC W)) rfl) (r := .tup [.int .i64 (if plB W k = true then numW (W.getD k dWr).text else 0), .bool (plB W k)]) (h' := AHeap.none) ?_ rfl
  rw [e_skolemref1_plain, len_lst]
  unfold plB
  by_cases hk : k < W.length
  · have ha : ∀ h : AHeap, h.addr 3 (lstW W) (k : Int) = some (.fp 0 (wdC (W.getD k dWr))) := fun h => by
      have := addr_lstN (h := h) (sz := 3) (f := wdC) wdC_len (l := W) (j := (k : Int)) (by omega) (by omega) dWr false
      rw [Int.toNat_natCast] at this
      exact this
    have hn : (W.getD k dWr).text ≠ [] := hne _ (by simp [List.getD, hk])
    generalize W.getD k dWr = w at ha hn
    have f0 : Pt.field 0 (.fp 0 (wdC w)) = some (.fp 0 (wdC w)) := rfl
    have f2 : Pt.field 2 (.fp 0 (wdC w)) = some (.fp 0 [.bool w.first]) := rfl
    have c0 : ∀ h : AHeap, h.cell (.fp 0 (wdC w)) = some (.str (tx w.text)) := fun _ => rfl
    have hpos := List.length_pos_iff.2 hn
    have hs := strAt_mk (l := w.text) (k := 0) hpos
    rw [show ((0 : Nat) : Int) = 0 from rfl] at hs
    have e := u8_dec (w.text.getD 0 0) 45
    rw [show (((45 : UInt8).toNat : Nat) : Int) = 45 from rfl] at e
    have hm : minusI w.text = (w.text.getD 0 0 == 45) := by unfold minusI; rw [decide_eq_true hpos, Bool.true_and]
    rw [decide_eq_false (show ¬ (W.length : Int) ≤ (k : Int) by omega), decide_eq_true hk]
    simp only [beq_self_eq_true, cond_true, ha, f0, f2, c0, Option.bind_some, cell_fp, bool_bool, str_str, hs, Bool.true_and]
    rw [e, ← hm]
    cases hfi : w.first with
    | true => rfl
    | false =>
      simp only [beq_self_eq_true, cond_true, Option.bind_some, bool_bool, Bool.not_false, Bool.true_and]
      unfold plainW
      cases hmi : minusI w.text with
      | true => simp
      | false =>
        simp only [cond_false, ha, f0, c0, Option.bind_some, str_str]
        rw [rNum_run fuel d hf]
        simp only [Option.bind_some, isTup_tup, List.length_cons, List.length_nil, Nat.beq, cond_true, comp_tup, List.getElem?_cons_zero, List.getElem?_cons_succ, int_int, bool_bool, Bool.not_false, Bool.and_true]
        cases hok : okNum w.text with
        | true => rfl
        | false =>
          unfold numW
          rw [hok]
          rfl
  · rw [decide_eq_true (show (W.length : Int) ≤ (k : Int) by omega), decide_eq_false hk]
    rfl
/-- what it hands back -/
def rhdA : HdR → AVal
  | .ok v m => .tup [.int .i64 v, .int .i64 m, .agg (faultC 0 false 0)]
  | .bad c p => .tup [.int .i64 0, .int .i64 0, .agg (faultC c true p)]
theorem rhd_fr (r : HdR) (h : AHeap) : freezeV h 8 (rhdA r) = some (rhdA r) := by cases r <;> rfl
theorem rhd_fin {B : Nat} {h0 h : AHeap} {cs : List AVal} (hs : Sep0 h0 h [.own 1 B 0 3 cs]) (hcs : cs.length = 3) (x y c : Int) (q : Bool) (p : Int) :
    ∃ h', ((bif (!false && Nat.beq (List.length (faultC c q p)) 3 && List.all (faultC c q p) AVal.isCell) then ((AHeap.storeAt h (faultC c q p) (.mk ⟨B, 0, 0⟩ 3)).bind fun h15 =>
      (((((AHeap.cellsAt h15 3 (.mk ⟨B, 0, 0⟩ 3)).bind fun c17 => some ((AVal.agg c17)) : Option AVal).bind fun v16 => some [(AVal.int .i64 x), (.int .i64 y), v16]) : Option (List AVal)).map .tup).map fun v => (v, h15)) else none : Option (AVal × AHeap))) = some (.tup [.int .i64 x, .int .i64 y, .agg (faultC c q p)], h') := by
  obtain ⟨h', e1, e2, _⟩ := fault_put hs (i := 0) rfl hcs c q p
  rw [cond_pos _ _ (okF c q p), e1, Option.bind_some, e2]
  exact ⟨h', rfl⟩
theorem rhead_run (fuel d : Nat) (hf : 20 < fuel) {W : List Wd} (hW : W.length < 1000000) (hne : ∀ w ∈ W, w.text ≠ []) (e : Int) (h : AHeap) : run fuel (d + 4) F_skolemref1_Head [.slice (lstW W), .int .i64 e] h = some (rhdA (headT e W), h) := by
  refine pure_ex rfl rfl (cc2 (canon_lst (closedL_flatMap closed_wdC W)) rfl) (r := rhdA (headT e W)) ?_ (rhd_fr _)
  show ∃ h', brun fuel (d + 4) F_skolemref1_Head [.slice (lstW W), .int .i64 e] AHeap.none = some (rhdA (headT e W), h')
  have s0 := (Sep0.start AHeap.none).push 1 3 (cs := [(AVal.int .i64 (0 : Int)), (.bool false), (.int .i64 (0 : Int))]) rfl
  have f0 : ∀ w : Wd, Pt.field 0 (.fp 0 (wdC w)) = some (.fp 0 (wdC w)) := fun _ => rfl
  have f1 : ∀ w : Wd, Pt.field 1 (.fp 0 (wdC w)) = some (.fp 0 [.int .i64 (w.pos : Int), .bool w.first]) := fun _ => rfl
  have f2 : ∀ w : Wd, Pt.field 2 (.fp 0 (wdC w)) = some (.fp 0 [.bool w.first]) := fun _ => rfl
  have c0 : ∀ (w : Wd) (h : AHeap), h.cell (.fp 0 (wdC w)) = some (.str (tx w.text)) := fun _ _ => rfl
  have ha : ∀ (k : Nat) (h : AHeap), k < W.length → h.addr 3 (lstW W) (k : Int) = some (.fp 0 (wdC (W.getD k dWr))) := fun k h hk => by
    have := addr_lstN (h := h) (sz := 3) (f := wdC) wdC_len (l := W) (j := (k : Int)) (by omega) (by omega) dWr false
    rw [Int.toNat_natCast] at this
    exact this
  have t0 : ∀ h : AHeap, run fuel (d + 3) F_skolemref1_text [.slice (lstW W), .int .i64 0, .int .i64 e] h = some (.agg (faultC 101 true (atI W 0 e)), h) := fun h => text_run fuel (d + 1) hW 0 e h
  have t1 : ∀ h : AHeap, run fuel (d + 3) F_skolemref1_text [.slice (lstW W), .int .i64 1, .int .i64 e] h = some (.agg (faultC 101 true (atI W 1 e)), h) := fun h => text_run fuel (d + 1) hW 1 e h
  have t2 : ∀ h : AHeap, run fuel (d + 3) F_skolemref1_text [.slice (lstW W), .int .i64 2, .int .i64 e] h = some (.agg (faultC 101 true (atI W 2 e)), h) := fun h => text_run fuel (d + 1) hW 2 e h
  have t3 : ∀ h : AHeap, run fuel (d + 3) F_skolemref1_text [.slice (lstW W), .int .i64 3, .int .i64 e] h = some (.agg (faultC 101 true (atI W 3 e)), h) := fun h => text_run fuel (d + 1) hW 3 e h
  have p2 : ∀ h : AHeap, run fuel (d + 3) F_skolemref1_plain [.slice (lstW W), .int .i64 2] h = some (.tup [.int .i64 (if plB W 2 = true then numW (W.getD 2 dWr).text else 0), .bool (plB W 2)], h) := fun h => rplain_run fuel (d + 1) hf hne 2 h
  have p3 : ∀ h : AHeap, run fuel (d + 3) F_skolemref1_plain [.slice (lstW W), .int .i64 3] h = some (.tup [.int .i64 (if plB W 3 = true then numW (W.getD 3 dWr).text else 0), .bool (plB W 3)], h) := fun h => rplain_run fuel (d + 1) hf hne 3 h
  have a0 : 0 < W.length → ∀ h : AHeap, h.addr 3 (lstW W) 0 = some (.fp 0 (wdC (W.getD 0 dWr))) := fun hk h => ha 0 h hk
  have a1 : 1 < W.length → ∀ h : AHeap, h.addr 3 (lstW W) 1 = some (.fp 0 (wdC (W.getD 1 dWr))) := fun hk h => ha 1 h hk
  have a2 : 2 < W.length → ∀ h : AHeap, h.addr 3 (lstW W) 2 = some (.fp 0 (wdC (W.getD 2 dWr))) := fun hk h => ha 2 h hk
  have a3 : 3 < W.length → ∀ h : AHeap, h.addr 3 (lstW W) 3 = some (.fp 0 (wdC (W.getD 3 dWr))) := fun hk h => ha 3 h hk
  have tne : ∀ t u : List UInt8, (!decide (tx t = tx u)) = !(t == u) := fun t u => by
    congr 1
    by_cases h : t = u
    · subst h; simp
    · rw [beq_false_of_ne h, decide_eq_false]
      intro h9
      refine h ?_
      have := congrArg (fun b : ByteArray => b.data.toList) h9
      simpa using this
  have tp : ∀ t : List UInt8, (!decide (tx t = (⟨#[112]⟩ : ByteArray))) = !(t == [112]) := fun t => tne t [112]
  have tc : ∀ t : List UInt8, (!decide (tx t = (⟨#[99, 110, 102]⟩ : ByteArray))) = !(t == [99, 110, 102]) := fun t => tne t [99, 110, 102]
  clear ha hne
  generalize hS : lstW W = S at t0 t1 t2 t3 p2 p3 a0 a1 a2 a3 ⊢
  have hlen : S.len = W.length := by rw [← hS, len_lst]
  clear hS
  rw [e_skolemref1_Head, hlen]
  generalize hH : AHeap.push AHeap.none 1 [(AVal.int .i64 (0 : Int)), (.bool false), (.int .i64 (0 : Int))] = H at s0 ⊢
  clear hlen
  rcases W with _ | ⟨w0, W1⟩
  · rw [decide_eq_true (show ((([] : List Wd).length : Nat) : Int) = 0 from rfl)]
    simp only [show ((true == false) : Bool) = false from rfl, cond_false, Option.bind_some, bool_bool, cond_true]
    rw [t0]
    simp only [Option.bind_some, agg_agg]
    exact rhd_fin s0 rfl 0 0 101 true e
  · have g0 := a0 (by simp)
    simp only [List.getD_cons_zero] at g0
    rw [decide_eq_false (show ¬ (((w0 :: W1).length : Nat) : Int) = 0 by simp; omega)]
    simp only [beq_self_eq_true, cond_true, g0, f0, f2, c0, Option.bind_some, str_str, cell_fp]
    rw [tp]
    have hb : ((bif ((!(w0.text == [112])) == false) then (some ((AVal.bool (!w0.first)), H)) else (some ((.bool true), H)) : Option (AVal × AHeap))) = some (.bool (!w0.first || !(w0.text == [112])), H) := by
      cases w0.first <;> cases (w0.text == [112]) <;> rfl
    simp only [Option.bind_some, bool_bool]
    rw [hb]
    simp only [Option.bind_some, bool_bool]
    unfold headT
    simp only
    cases b0 : (!w0.first || !(w0.text == [112])) with
    | true =>
      simp only [cond_true, if_true]
      rw [t0]
      simp only [Option.bind_some, agg_agg]
      exact rhd_fin s0 rfl 0 0 101 true (w0.pos : Int)
    | false =>
      simp only [cond_false, Bool.false_eq_true, if_false]
      rcases W1 with _ | ⟨w1, W2⟩
      · rw [decide_eq_true (show ((([w0] : List Wd).length : Nat) : Int) < 2 from by simp)]
        simp only [show ((true == false) : Bool) = false from rfl, cond_false, Option.bind_some, bool_bool, cond_true]
        rw [t1]
        simp only [Option.bind_some, agg_agg]
        exact rhd_fin s0 rfl 0 0 101 true e
      · have g1 := a1 (by simp)
        simp only [List.getD_cons_zero, List.getD_cons_succ] at g1
        rw [decide_eq_false (show ¬ (((w0 :: w1 :: W2).length : Nat) : Int) < 2 by simp; omega)]
        simp only [beq_self_eq_true, cond_true, g1, f0, f2, c0, Option.bind_some, str_str, cell_fp]
        rw [tc]
        have hb1 : ((bif ((!(w1.text == [99, 110, 102])) == false) then (some ((AVal.bool w1.first), H)) else (some ((.bool true), H)) : Option (AVal × AHeap))) = some (.bool (w1.first || !(w1.text == [99, 110, 102])), H) := by
          cases w1.first <;> cases (w1.text == [99, 110, 102]) <;> rfl
        simp only [Option.bind_some, bool_bool]
        rw [hb1]
        simp only [Option.bind_some, bool_bool]
        cases b1 : (w1.first || !(w1.text == [99, 110, 102])) with
        | true =>
          simp only [cond_true, if_true]
          rw [t1]
          simp only [Option.bind_some, agg_agg]
          exact rhd_fin s0 rfl 0 0 101 true (w1.pos : Int)
        | false =>
          simp only [cond_false, Bool.false_eq_true, if_false]
          rw [p2]
          simp only [Option.bind_some, isTup_tup, List.length_cons, List.length_nil, Nat.beq, cond_true, comp_tup, List.getElem?_cons_zero, List.getElem?_cons_succ, int_int, bool_bool]
          rcases W2 with _ | ⟨w2, W3⟩
          · rw [show plB [w0, w1] 2 = false from rfl]
            simp only [Bool.not_false, cond_true]
            rw [t2]
            simp only [Option.bind_some, agg_agg]
            exact rhd_fin s0 rfl 0 0 101 true e
          · have g2 := a2 (by simp)
            have hB : plB (w0 :: w1 :: w2 :: W3) 2 = (!w2.first && plainW w2.text) := by
              unfold plB
              rw [decide_eq_true (by simp), Bool.true_and]
              rfl
            simp only [List.getD_cons_zero, List.getD_cons_succ] at g2 ⊢
            rw [hB]
            unfold cntC
            cases q2 : (!w2.first && plainW w2.text) with
            | false =>
              have q2' : (w2.first || !plainW w2.text) = true := by cases h1 : w2.first <;> cases h2 : plainW w2.text <;> simp_all
              rw [if_pos q2']
              simp only [Bool.not_false, cond_true]
              rw [t2]
              simp only [Option.bind_some, agg_agg]
              exact rhd_fin s0 rfl 0 0 101 true (w2.pos : Int)
            | true =>
              have q2' : ¬ (w2.first || !plainW w2.text) = true := by cases h1 : w2.first <;> cases h2 : plainW w2.text <;> simp_all
              rw [if_neg q2']
              simp only [Bool.not_true, cond_false, if_true]
              by_cases hm : 4000 < numW w2.text
              · rw [bif_pos hm, if_pos hm]
                simp only [g2, f1, Option.bind_some, cell_fp, int_int]
                rw [Placed_run fuel (d + 2) (show (102 : Int) ≠ 0 by omega)]
                simp only [Option.bind_some, agg_agg]
                exact rhd_fin s0 rfl 0 0 102 true (w2.pos : Int)
              · rw [bif_neg hm, if_neg hm, p3]
                simp only [Option.bind_some, isTup_tup, List.length_cons, List.length_nil, Nat.beq, cond_true, comp_tup, List.getElem?_cons_zero, List.getElem?_cons_succ, int_int, bool_bool]
                rcases W3 with _ | ⟨w3, W4⟩
                · rw [show plB [w0, w1, w2] 3 = false from rfl]
                  simp only [Bool.not_false, cond_true]
                  rw [t3]
                  simp only [Option.bind_some, agg_agg]
                  exact rhd_fin s0 rfl 0 0 101 true e
                · have g3 := a3 (by simp)
                  have hB3 : plB (w0 :: w1 :: w2 :: w3 :: W4) 3 = (!w3.first && plainW w3.text) := by
                    unfold plB
                    rw [decide_eq_true (by simp), Bool.true_and]
                    rfl
                  simp only [List.getD_cons_zero, List.getD_cons_succ] at g3 ⊢
                  rw [hB3]
                  cases q3 : (!w3.first && plainW w3.text) with
                  | false =>
                    have q3' : (w3.first || !plainW w3.text) = true := by cases h1 : w3.first <;> cases h2 : plainW w3.text <;> simp_all
                    rw [if_pos q3']
                    simp only [Bool.not_false, cond_true]
                    rw [t3]
                    simp only [Option.bind_some, agg_agg]
                    exact rhd_fin s0 rfl 0 0 101 true (w3.pos : Int)
                  | true =>
                    have q3' : ¬ (w3.first || !plainW w3.text) = true := by cases h1 : w3.first <;> cases h2 : plainW w3.text <;> simp_all
                    rw [if_neg q3']
                    simp only [Bool.not_true, cond_false, if_true]
                    by_cases hm3 : 20000 < numW w3.text
                    · rw [bif_pos hm3, if_pos hm3]
                      simp only [g3, f1, Option.bind_some, cell_fp, int_int]
                      rw [Placed_run fuel (d + 2) (show (102 : Int) ≠ 0 by omega)]
                      simp only [Option.bind_some, agg_agg]
                      exact rhd_fin s0 rfl 0 0 102 true (w3.pos : Int)
                    · rw [bif_neg hm3, if_neg hm3, None_run fuel (d + 2)]
                      simp only [Option.bind_some, agg_agg]
                      exact rhd_fin s0 rfl (numW w2.text) (numW w3.text) 0 false 0
end Go.Proofs.YtdkckkhghghhdaaDoor
