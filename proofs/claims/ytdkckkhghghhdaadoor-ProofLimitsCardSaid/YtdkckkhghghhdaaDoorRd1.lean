/-
  proof.Read: what it reads.
-/
import Derived.Test.YtdkckkhghghhdaaDoorRd0
import Derived.Test.YtdkckkhghghhdaaDoorSee
namespace Go.Proofs.YtdkckkhghghhdaaDoor
open Go.RowKit

/-- fewer chunks -/
theorem Sep0.init {h0 h : AHeap} {L : List Chunk} {c : Chunk} (hs : Sep0 h0 h (L ++ [c])) : Sep0 h0 h L :=
  ⟨⟨fun d hd => hs.sep.all d (List.mem_append_left _ hd), hs.sep.far.sublist (List.sublist_append_left ..)⟩, hs.ext, fun d hd => hs.fresh d (List.mem_append_left _ hd)⟩
/-- a word that is copied -/
theorem copyW {h0 h : AHeap} {L : List Chunk} (hs : Sep0 h0 h L) (w : Wd) : ∃ h3, AHeap.storeAt (AHeap.push h 1 [(.str (⟨#[]⟩ : ByteArray)), (.int .i64 (0 : Int)), (.bool false)]) (wdC w) (Pt.mk ⟨AHeap.next h, 0, 0⟩ 3) = some h3 ∧ Sep0 h0 h3 L ∧
    h3.cell (.mk ⟨AHeap.next h, 0, 0 + 0⟩ 3) = some (.str (tx w.text)) ∧ h3.cell (.mk ⟨AHeap.next h, 0, 0 + 1⟩ 3) = some (.int .i64 (w.pos : Int)) ∧ h3.cell (.mk ⟨AHeap.next h, 0, 0 + 2⟩ 3) = some (.bool w.first) := by
  have s1 := hs.push 1 3 (cs := [(.str (⟨#[]⟩ : ByteArray)), (.int .i64 (0 : Int)), (.bool false)]) rfl
  have hi : (L ++ [Chunk.own 1 h.next 0 3 [(.str (⟨#[]⟩ : ByteArray)), (.int .i64 (0 : Int)), (.bool false)]])[L.length]? = some (Chunk.own 1 h.next 0 3 [(.str (⟨#[]⟩ : ByteArray)), (.int .i64 (0 : Int)), (.bool false)]) := by simp
  obtain ⟨h3, e1, s2⟩ := s1.put (o := 0) (l := 3) (vs := wdC w) hi (by simp [wdC]) (by simp [wdC])
  have hset : (L ++ [Chunk.own 1 h.next 0 3 [(.str (⟨#[]⟩ : ByteArray)), (.int .i64 (0 : Int)), (.bool false)]]).set L.length (Chunk.own 1 h.next 0 3 (wdC w)) = L ++ [Chunk.own 1 h.next 0 3 (wdC w)] := by simp
  have s3 : Sep0 h0 h3 (L ++ [Chunk.own 1 h.next 0 3 (wdC w)]) := by rw [← hset]; exact s2
  have hj : (L ++ [Chunk.own 1 h.next 0 3 (wdC w)])[L.length]? = some (Chunk.own 1 h.next 0 3 (wdC w)) := by simp
  exact ⟨h3, e1, s3.init, s3.part hj (by omega) rfl, s3.part hj (by omega) rfl, s3.part hj (by omega) rfl⟩

theorem pat_run (fuel d : Nat) {j : Nat} (hj : j < 7) (p : Int) (h : AHeap) : run fuel (d + 1) F_proof_at [.int .i64 p, errN j] h = some (atV p (errN j), h) := by
  have key : ∃ h', brun fuel (d + 1) F_proof_at [.int .i64 p, errN j] AHeap.none = some (.iface T_p_api_At (.ptr (.mk ⟨AHeap.none.next, 0, 0⟩ 2)), h') ∧ h' = AHeap.none.push 1 [.int .i64 p, errN j] := by
    refine ⟨_, ?_, rfl⟩
    rw [e_proof_at]
    rcases seven hj with rfl | rfl | rfl | rfl | rfl | rfl | rfl <;> rfl
  obtain ⟨h', e, rfl⟩ := key
  refine pure_of rfl rfl (cc2 rfl (errN_canon hj 4)) e ?_
  rcases seven hj with rfl | rfl | rfl | rfl | rfl | rfl | rfl <;> rfl

theorem pat0 (fuel d : Nat) (p : Int) (h : AHeap) : run fuel (d + 1) F_proof_at [.int .i64 p, err_api_ErrText] h = some (atV p err_api_ErrText, h) := pat_run fuel d (j := 0) (by omega) p h

/-- what reading hands back -/
def rdA : RdS → AVal
  | .ok l => .tup [.slice (lstS l), .nilif]
  | .bad p => .tup [.slice (lstS []), atV (p : Int) err_api_ErrText]
theorem stepsC_append (a b : List Stp) : stepsC (a ++ b) = stepsC a ++ stepsC b := List.flatMap_append
theorem intsC_app (a b : List Int) : intsC (a ++ b) = intsC a ++ intsC b := List.map_append
theorem d_text (t : List UInt8) : decide (tx t = (⟨#[100]⟩ : ByteArray)) = (t == [100]) := by
  have e : (⟨#[100]⟩ : ByteArray) = tx [100] := rfl
  rw [e]
  by_cases h : t = [100]
  · subst h; simp
  · rw [beq_false_of_ne h, decide_eq_false]
    intro h9
    refine h ?_
    have := congrArg (fun b : ByteArray => b.data.toList) h9
    simpa using this
theorem lit_cond (n : Int) (b : Bool) (fuel d : Nat) (h : AHeap) :
    ((bif ((!b) == false) then (((bif ((!decide (n = (0 : Int))) == true) then ((run fuel (d + 1) F_lits_Is [(.int .i64 n), (.int .i64 (4000 : Int))] h).bind fun r19 => (AVal.bool? r19.1).bind fun b20 => some ((AVal.bool (!b20)), r19.2)) else (some ((.bool false), h)) : Option (AVal × AHeap))).bind fun r21 =>
    (AVal.bool? r21.1).bind fun b22 => some ((AVal.bool b22), r21.2)) else (some ((.bool true), h)) : Option (AVal × AHeap))) = some (.bool (!b || (!decide (n = 0) && !isI n 4000)), h) := by
  rw [Is_run]
  cases b <;> cases decide (n = 0) <;> cases isI n 4000 <;> rfl
theorem fix_step {h0 h : AHeap} {A : Nat} {s out : Sl} {now : Stp} {steps : List Stp} (hs : Sep0 h0 h [.own 1 A 0 2 [.bool now.1, .slice s], .grown 1 s (intsC now.2), .grown 2 out (stepsC steps)]) :
    ∃ h5, h.fixL [.bool now.1, .slice s] = (stepC now, h5) ∧ Sep0 h0 h5 [.own 1 A 0 2 [.bool now.1, .slice s], .grown 1 .nil [], .grown 2 out (stepsC steps)] := by
  have l1 := hs.len (i := 1) rfl
  simp only [List.length_map, Nat.mul_one] at l1
  obtain ⟨h5, f1, f2⟩ := hs.fix (i := 1) (sz := 1) (s := s) (cs := intsC now.2) rfl (closedL_map (fun _ => rfl) now.2) 1
  refine ⟨h5, ?_, f2⟩
  rw [fixL_cons, fixV_bool, fixL_one, f1, ← l1]
  rfl

theorem read_loop (fuel d : Nat) {b : List UInt8} {W : List Wd} {A : Nat} (hf : 20 < fuel) (hW : W.length < 300000) {h0 : AHeap} : ∀ (n k : Nat) (steps : List Stp) (now : Stp) (begun : Bool) (all : Nat) (s out : Sl) (h : AHeap), W.length < n + k → k ≤ W.length → steps.length ≤ k → now.2.length ≤ k → all ≤ k →
    Sep0 h0 h [.own 1 A 0 2 [.bool now.1, .slice s], .grown 1 s (intsC now.2), .grown 2 out (stepsC steps)] →
    ∃ v h', (l_proof_Read_0 fuel (d + 3) n [(0, .slice (lstU b)), (4, .slice out), (5, .ptr (.mk ⟨A, 0, 0⟩ 2)), (6, .bool begun), (7, .int .i64 (all : Int)), (18, .slice (lstW W)), (19, .int .i64 (W.length : Int)), (20, .int .i64 (k : Int))] h).bind (fun p => k_proof_Read_0 fuel (d + 3) p.1 p.2.1 p.2.2) = some (v, h') ∧
      freezeV h' 8 v = some (rdA (readT b.length (W.drop k) steps now begun)) := by
  intro n
  induction n with
  | zero => intro k steps now begun all s out h h1 h2; omega
  | succ n ih =>
    intro k steps now begun all s out h h1 h2 h3 h4 h5 hs
    have l1 := hs.len (i := 1) rfl
    have l2 := hs.len (i := 2) rfl
    rw [stepsC_len] at l2
    simp only [List.length_map, Nat.mul_one] at l1
    rw [l_proof_Read_0_eq]
    by_cases hk : k < W.length
    · rw [bif_pos (by omega), addr_lstN (sz := 3) (f := wdC) wdC_len (l := W) (j := (k : Int)) (by omega) (by omega) ⟨[], 0, false⟩]
      have hd : W.drop k = W.getD k ⟨[], 0, false⟩ :: W.drop (k + 1) := by rw [List.drop_eq_getElem_cons hk]; simp [List.getD, hk]
      rw [hd, Int.toNat_natCast]
      generalize W.getD k ⟨[], 0, false⟩ = w
      obtain ⟨h3', e1, s3, c0, c1, c2⟩ := copyW hs w
      rw [Option.bind_some, cellsAt_fp (wdC_len w), Option.bind_some, cond_pos _ _ (show (!false && Nat.beq (List.length (wdC w)) 3 && List.all (wdC w) AVal.isCell) = true from rfl), e1]
      simp only [Option.bind_some, field_mk, c0, str_str]
      rw [d_text]
      have hc : ((bif ((!begun) == true) then (some ((AVal.bool (w.text == [100])), h3')) else (some ((.bool false), h3')) : Option (AVal × AHeap))) = some (.bool (!begun && w.text == [100]), h3') := by cases begun <;> rfl
      rw [hc]
      simp only [Option.bind_some, bool_bool]
      unfold readT
      cases hq : (!begun && w.text == [100]) with
      | true =>
        simp only [cond_true, if_true]
        obtain ⟨h4', e4, s4⟩ := s3.put (i := 0) (o := 0) (l := 2) (vs := [.bool true]) rfl (by simp) (by simp)
        rw [show (0 + 0 : Nat) = 0 from rfl, e4, Option.bind_some, sucU (by omega)]
        exact ih (k + 1) steps (true, now.2) true all s out h4' (by omega) (by omega) (by omega) (by simp; omega) (by omega) s4
      | false =>
        simp only [cond_false, Bool.false_eq_true, if_false, c0, Option.bind_some, str_str]
        rw [wNum_run fuel d hf]
        simp only [Option.bind_some, isTup_tup, List.length_cons, List.length_nil, Nat.beq, cond_true, comp_tup, List.getElem?_cons_zero, List.getElem?_cons_succ, int_int, bool_bool]
        rw [lit_cond]
        simp only [Option.bind_some, bool_bool]
        rw [show (!okNum w.text || (!decide (numW w.text = 0) && !isI (numW w.text) 4000)) = noLit w.text from rfl]
        cases hn : noLit w.text with
        | true =>
          simp only [cond_true, if_true, c1, Option.bind_some, int_int]
          rw [pat0 fuel (d + 2)]
          simp only [Option.bind_some, k_proof_Read_0_r]
          exact ⟨_, _, rfl, freeze_tup2 _ rfl rfl⟩
        | false =>
          simp only [cond_false, Bool.false_eq_true, if_false]
          by_cases hz : numW w.text = 0
          · rw [bif_pos hz, if_pos hz]
            have hcA : h3'.cellsAt 2 (.mk ⟨A, 0, 0⟩ 2) = some [.bool now.1, .slice s] := (s3.sep.own (i := 0) rfl).parts (by omega) (by simp)
            rw [hcA, Option.bind_some, show ((bif (Nat.beq (List.length [AVal.bool now.1, AVal.slice s]) 2 && Nat.ble (0 + 2) (0 + 1 + 1) && List.all [AVal.bool now.1, AVal.slice s] AVal.isCell) then ((some (AHeap.overlay [(AVal.bool false), (AVal.slice Sl.nil)] 0 [AVal.bool now.1, AVal.slice s]))) else (none))) = some [AVal.bool now.1, AVal.slice s] from rfl, Option.bind_some, show AHeap.sliceCells h3' 2 (Sl.lst 1 true [AVal.bool now.1, AVal.slice s]) = some [AVal.bool now.1, AVal.slice s] from rfl, Option.bind_some]
            obtain ⟨h5', f1, s5⟩ := fix_step s3
            rw [f1]
            obtain ⟨out', h6, g1, s6, g3⟩ := s5.grow (i := 2) (bytes := 32) (m := 1) (vs := stepC now) rfl rfl (by omega) (by omega)
            rw [len_lst, g1, Option.bind_some]
            obtain ⟨h7, e7, s7⟩ := s6.put (i := 0) (sz := 1) (id := A) (gen := 0) (n := 2) (cs := [.bool now.1, .slice s]) (o := 0) (l := 2) (vs := [.bool false, .slice .nil]) rfl (by simp) (by simp)
            rw [e7, Option.bind_some, sucU (by omega)]
            refine ih (k + 1) (steps ++ [now]) (false, []) false all .nil out' h7 (by omega) (by omega) (by simp; omega) (by simp) (by omega) ?_
            rw [stepsC_append, show stepsC [now] = stepC now from by simp]
            exact s7
          · rw [bif_neg hz, if_neg hz, bif_neg (by omega)]
            have cA : h3'.cell (.mk ⟨A, 0, 0 + 1⟩ 2) = some (.slice s) := s3.part (i := 0) rfl (by omega) rfl
            simp only [field_mk, Option.bind_some, cA, slice_slice]
            obtain ⟨s', h5', g1, s5, g3⟩ := s3.grow (i := 1) (bytes := 8) (m := 1) (vs := [.int .i64 (numW w.text)]) rfl rfl (by omega) (by omega)
            rw [g1]
            simp only [Option.bind_some]
            obtain ⟨h6, e6, s6⟩ := s5.put (i := 0) (sz := 1) (id := A) (gen := 0) (n := 2) (cs := [.bool now.1, .slice s]) (o := 0 + 1) (l := 2) (vs := [.slice s']) rfl (by simp) (by simp)
            rw [e6, Option.bind_some, sucU (by omega), sucU (by omega)]
            refine ih (k + 1) steps (now.1, now.2 ++ [numW w.text]) true (all + 1) s' out h6 (by omega) (by omega) (by omega) (by simp; omega) (by omega) ?_
            rw [intsC_app]
            exact s6
    · have : k = W.length := by omega
      subst this
      rw [bif_neg (by omega), List.drop_length, Option.bind_some, k_proof_Read_0_x0]
      unfold readT
      cases begun with
      | true =>
        rw [cond_true, len_lst, pat0 fuel (d + 2)]
        exact ⟨_, _, rfl, freeze_tup2 _ rfl rfl⟩
      | false =>
        refine ⟨_, _, rfl, ?_⟩
        rw [if_neg (by simp)]
        refine freeze_tup2 _ ?_ rfl
        rw [(hs.sep.grown (i := 2) rfl).freeze (n := 6) (by omega) (freeze_stepsC 4 _), show out.len = steps.length by omega]
theorem splitOf_len (b : List UInt8) (c : Bool) : (splitOf b c).length ≤ b.length := by
  have := splitGo_len (b := b) (c := c) (b.length + 1) 0
  unfold splitOf
  omega
def readA (b : List UInt8) : RdS := readT b.length (splitOf b true) [] (false, []) false
theorem read_body (fuel d : Nat) {b : List UInt8} (hf : b.length + 21 ≤ fuel) (hb : b.length < 200000) : ∃ v h', brun fuel (d + 4) F_proof_Read [.slice (lstU b)] AHeap.none = some (v, h') ∧ freezeV h' 8 v = some (rdA (readA b)) := by
  have hl := splitOf_len b true
  have s0 := (((Sep0.start AHeap.none).push 1 2 (cs := [(AVal.bool false), (.slice Sl.nil)]) rfl).addNil 1).addNil 2
  obtain ⟨v, h', e1, e2⟩ := read_loop fuel d (b := b) (W := splitOf b true) (by omega) (by omega) fuel 0 [] (false, []) false 0 .nil .nil (AHeap.none.push 1 [(AVal.bool false), (.slice Sl.nil)]) (by omega) (by omega) (by simp) (by simp) (by omega) s0
  rw [List.drop_zero] at e2
  refine ⟨v, h', ?_, e2⟩
  rw [e_proof_Read, len_lst, bif_neg (by omega), split_run fuel d (by omega) (by omega), Option.bind_some, slice_slice, Option.bind_some, len_lst]
  exact e1
theorem read_run (fuel d : Nat) {b : List UInt8} (hf : b.length + 21 ≤ fuel) (hb : b.length < 200000) (h : AHeap) : run fuel (d + 4) F_proof_Read [.slice (lstU b)] h = some (rdA (readA b), h) := by
  obtain ⟨v, h', e1, e2⟩ := read_body fuel d hf hb
  exact pure_of rfl rfl (cc1 (canon_lstU 7 b)) e1 e2
theorem read_any (fuel d : Nat) {b : List UInt8} (hf : b.length + 21 ≤ fuel) (hb : b.length < 200000) {h : AHeap} {s : Sl} (hs : freezeV h 8 (.slice s) = some (.slice (lstU b))) : ∃ ids, run fuel (d + 4) F_proof_Read [.slice s] h = some (rdA (readA b), h.markRo ids) := by
  obtain ⟨v, h', e1, e2⟩ := read_body fuel d hf hb
  exact run_any rfl rfl (mm1 hs) e1 e2
end Go.Proofs.YtdkckkhghghhdaaDoor
