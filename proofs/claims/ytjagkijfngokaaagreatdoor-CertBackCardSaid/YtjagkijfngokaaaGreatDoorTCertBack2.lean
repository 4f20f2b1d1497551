/-
 Parts of the proof of CertBack: proof.Read: what it reads. Numbers and steps as text: dimacs.Line, proof.Bytes, given that single numbers are printed right. proof.Check. skolemlaw20.first; 1 as text. Numbers as text: AppendInt, Itoa. Parts of slices that grow; what is marked; what was there before an append. Clauses as text: heads, lines; the program's and the reference's. skolemmake.Near. Clauses and CNFs as cells. Clauses of words: what is read. Faults in memory. The document's numbers. skolemref1.text, at, plain, Clauses. Steps: the reference's check, text, counts; what is light. The head of clauses as text: what is read. dimacs.Clauses. word.Plain, dimacs.count, dimacs.Head. dimacs.Head. dimacs.Read. skolemref1.plain, Head. skolemref1.Split. What the reference's readers hand back: values of two cells, faults. Blocks of words: what is read; what maps of seen variables hold. qdimacs: a reader's block. qdimacs: a reader's blocks. qdimacs.Read. Clauses and formulas as text: the program's and the reference's. Clauses' text is read as they were. Steps: the reference's text, counts; the text is read as they were. Bits and numbers of words, both ways. Certificates as values; their text. skolemmake.Right, skolemlaw26.light, skolemref8.Check. skolemref8.Check. Numbers in bytes: aig.number, skolemref8.small. aag.Bytes. aag's reader: pos, word, number, and. aag's reader: and, the body. aag's reader: the body's other loops. aag's reader: the body whole. aag's reader: the head; aag.Read. aag.Read. aag.Read. slices.Concat of bytes; aig.Bytes. skolemref8.numbers, AagBytes. skolemref8.AagBytes. aig.Bytes whole; skolemref8.AigBytes. cert.Bytes. The lines of a text: word.Line. What is there still, behind calls. aig's reader: line, number.
-/
import Derived.Test.YtjagkijfngokaaaGreatDoorTCertBack1
import Derived.Test.YtjagkijfngokaaaGreatDoorBm31
import Derived.Test.YtjagkijfngokaaaGreatDoorE2
namespace Go.Proofs.YtjagkijfngokaaaGreatDoor
open Go.RowKit
theorem pat_run (fuel d : Nat) {j : Nat} (hj : j < 7) (p : Int) (h : AH) : run fuel (d + 1) F_proof_at [.int .i64 p, errN j] h = some (atV p (errN j), h) := by
 have key : ∃ h', brun fuel (d + 1) F_proof_at [.int .i64 p, errN j] AH.none = some (.iface T_p_api_At (.ptr (.mk ⟨AH.none.next, 0, 0⟩ 2)), h') ∧ h' = AH.none.push 1 [.int .i64 p, errN j] := by
   refine ⟨_, ?_, rfl⟩
   rw [e_proof_at]
   rcases seven hj with rfl | rfl | rfl | rfl | rfl | rfl | rfl <;> rfl
 obtain ⟨h', e, rfl⟩ := key
 refine pure_of rfl rfl (cc2 rfl (errN_canon hj 4)) e ?_
 rcases seven hj with rfl | rfl | rfl | rfl | rfl | rfl | rfl <;> rfl
theorem pat0 (fuel d : Nat) (p : Int) (h : AH) : run fuel (d + 1) F_proof_at [.int .i64 p, err_api_ErrText] h = some (atV p err_api_ErrText, h) := pat_run fuel d (j := 0) (by omega) p h
def rdA : RdS → AV
 | .ok l => .tup [.slice (lstS l), .nilif]
 | .bad p => .tup [.slice (lstS []), atV (p : Int) err_api_ErrText]
theorem stepsC_append (a b : List Stp) : stepsC (a ++ b) = stepsC a ++ stepsC b := List.flatMap_append
theorem d_text (t : List UInt8) : decide (tx t = (⟨#[100]⟩ : ByteArray)) = (t == [100]) := by
 have e : (⟨#[100]⟩ : ByteArray) = tx [100] := rfl
 rw [e]
 by_cases h : t = [100]
 · subst h; simp
 · rw [beq_false_of_ne h, decide_eq_false]
   intro h9
   refine h ?_
   have := congrArg (fun b : ByteArray => b.data.toList) h9
   simpa using this
theorem lit_cond (n : Int) (b : Bool) (fuel d : Nat) (h : AH) :
   ((bif ((!b) == false) then (((bif ((!decide (n = (0 : Int))) == true) then ((run fuel (d + 1) F_lits_Is [(.int .i64 n), (.int .i64 (4000 : Int))] h).bind fun r19 => (AV.bool? r19.1).bind fun b20 => some ((AV.bool (!b20)), r19.2)) else (some ((.bool false), h)) : Option (AV × AH))).bind fun r21 =>
   (AV.bool? r21.1).bind fun b22 => some ((AV.bool b22), r21.2)) else (some ((.bool true), h)) : Option (AV × AH))) = some (.bool (!b || (!decide (n = 0) && !isI n 4000)), h) := by
 rw [Is_run]
 cases b <;> cases decide (n = 0) <;> cases isI n 4000 <;> rfl
theorem fix_step {h0 h : AH} {A : Nat} {s out : Sl} {now : Stp} {steps : List Stp} (hs : Sep0 h0 h [.own 1 A 0 2 [.bool now.1, .slice s], .grown 1 s (intsC now.2), .grown 2 out (stepsC steps)]) :
   ∃ h5, h.fixL [.bool now.1, .slice s] = (stepC now, h5) ∧ Sep0 h0 h5 [.own 1 A 0 2 [.bool now.1, .slice s], .grown 1 .nil [], .grown 2 out (stepsC steps)] := by
 have l1 := hs.len (i := 1) rfl
 simp only [List.length_map, Nat.mul_one] at l1
 obtain ⟨h5, f1, f2⟩ := hs.fix (i := 1) (sz := 1) (s := s) (cs := intsC now.2) rfl (closedL_map (fun _ => rfl) now.2) 1
 refine ⟨h5, ?_, f2⟩
 rw [fixL_cons, fixV_bool, fixL_one, f1, ← l1]
 rfl
theorem read_loop (fuel d : Nat) {b : List UInt8} {W : List Wd} {A : Nat} (hf : 20 < fuel) (hW : W.length < 300000) {h0 : AH} : ∀ (n k : Nat) (steps : List Stp) (now : Stp) (begun : Bool) (all : Nat) (s out : Sl) (h : AH), W.length < n + k → k ≤ W.length → steps.length ≤ k → now.2.length ≤ k → all ≤ k →
   Sep0 h0 h [.own 1 A 0 2 [.bool now.1, .slice s], .grown 1 s (intsC now.2), .grown 2 out (stepsC steps)] →
   ∃ v h', (l_proof_Read_0 fuel (d + 3) n [(0, .slice (lstU b)), (4, .slice out), (5, .ptr (.mk ⟨A, 0, 0⟩ 2)), (6, .bool begun), (7, .int .i64 (all : Int)), (18, .slice (lstW W)), (19, .int .i64 (W.length : Int)), (20, .int .i64 (k : Int))] h).bind (fun p => k_proof_Read_0 fuel (d + 3) p.1 p.2.1 p.2.2) = some (v, h') ∧
     freezeV h' 8 v = some (rdA (readT b.length (W.drop k) steps now begun)) := by
 intro n
 induction n with
 | zero => intro k steps now begun all s out h h1 h2; omega
 | succ n ih =>
   intro k steps now begun all s out h h1 h2 h3 h4 h5 hs
   have l1 := hs.len (i := 1) rfl
   have l2 := hs.len (i := 2) rfl
   rw [stepsC_len] at l2
   simp only [List.length_map, Nat.mul_one] at l1
   rw [l_proof_Read_0_eq]
   by_cases hk : k < W.length
   · rw [bif_pos (by omega), addr_lstN (sz := 3) (f := wdC) wdC_len (l := W) (j := (k : Int)) (by omega) (by omega) ⟨[], 0, false⟩]
     have hd : W.drop k = W.getD k ⟨[], 0, false⟩ :: W.drop (k + 1) := by rw [List.drop_eq_getElem_cons hk]; simp [List.getD, hk]
     rw [hd, Int.toNat_natCast]
     generalize W.getD k ⟨[], 0, false⟩ = w
     obtain ⟨h3', e1, s3, c0, c1, c2⟩ := copyW hs w
     rw [o_bd, cellsAt_fp (wdC_len w), o_bd, cond_pos _ _ (show (!false && Nat.beq (List.length (wdC w)) 3 && List.all (wdC w) AV.isCell) = true from rfl), e1]
     simp only [o_bd, field_mk, c0, str_str]
     rw [d_text]
     have hc : ((bif ((!begun) == true) then (some ((AV.bool (w.text == [100])), h3')) else (some ((.bool false), h3')) : Option (AV × AH))) = some (.bool (!begun && w.text == [100]), h3') := by cases begun <;> rfl
     rw [hc]
     simp only [o_bd, bool_bool]
     unfold readT
     cases hq : (!begun && w.text == [100]) with
     | true =>
       simp only [cond_true, if_true]
       obtain ⟨h4', e4, s4⟩ := s3.put (i := 0) (o := 0) (l := 2) (vs := [.bool true]) rfl (by simp) (by simp)
       rw [show (0 + 0 : Nat) = 0 from rfl, e4, o_bd, sucU (by omega)]
       exact ih (k + 1) steps (true, now.2) true all s out h4' (by omega) (by omega) (by omega) (by simp; omega) (by omega) s4
     | false =>
       simp only [cond_false, Bool.false_eq_true, if_false, c0, o_bd, str_str]
       rw [wNum_run fuel d hf]
       simp only [o_bd, isTup_tup, List.length_cons, List.length_nil, Nat.beq, cond_true, comp_tup, List.getElem?_cons_zero, List.getElem?_cons_succ, int_int, bool_bool]
       rw [lit_cond]
       simp only [o_bd, bool_bool]
       rw [show (!okNum w.text || (!decide (numW w.text = 0) && !isI (numW w.text) 4000)) = noLit w.text from rfl]
       cases hn : noLit w.text with
       | true =>
         simp only [cond_true, if_true, c1, o_bd, int_int]
         rw [pat0 fuel (d + 2)]
         simp only [o_bd, k_proof_Read_0_r]
         exact ⟨_, _, rfl, freeze_tup2 _ rfl rfl⟩
       | false =>
         simp only [cond_false, Bool.false_eq_true, if_false]
         by_cases hz : numW w.text = 0
         · rw [bif_pos hz, if_pos hz]
           have hcA : h3'.cellsAt 2 (.mk ⟨A, 0, 0⟩ 2) = some [.bool now.1, .slice s] := (s3.sep.own (i := 0) rfl).parts (by omega) (by simp)
           rw [hcA, o_bd, show ((bif (Nat.beq (List.length [AV.bool now.1, AV.slice s]) 2 && Nat.ble (0 + 2) (0 + 1 + 1) && List.all [AV.bool now.1, AV.slice s] AV.isCell) then ((some (AH.overlay [(AV.bool false), (AV.slice Sl.nil)] 0 [AV.bool now.1, AV.slice s]))) else (none))) = some [AV.bool now.1, AV.slice s] from rfl, o_bd, show AH.sliceCells h3' 2 (Sl.lst 1 true [AV.bool now.1, AV.slice s]) = some [AV.bool now.1, AV.slice s] from rfl, o_bd]
           obtain ⟨h5', f1, s5⟩ := fix_step s3
           rw [f1]
           obtain ⟨out', h6, g1, s6, g3⟩ := s5.grow (i := 2) (bytes := 32) (m := 1) (vs := stepC now) rfl rfl (by omega) (by omega)
           rw [len_lst, g1, o_bd]
           obtain ⟨h7, e7, s7⟩ := s6.put (i := 0) (sz := 1) (id := A) (gen := 0) (n := 2) (cs := [.bool now.1, .slice s]) (o := 0) (l := 2) (vs := [.bool false, .slice .nil]) rfl (by simp) (by simp)
           rw [e7, o_bd, sucU (by omega)]
           refine ih (k + 1) (steps ++ [now]) (false, []) false all .nil out' h7 (by omega) (by omega) (by simp; omega) (by simp) (by omega) ?_
           rw [stepsC_append, show stepsC [now] = stepC now from by simp]
           exact s7
         · rw [bif_neg hz, if_neg hz, bif_neg (by omega)]
           have cA : h3'.cell (.mk ⟨A, 0, 0 + 1⟩ 2) = some (.slice s) := s3.part (i := 0) rfl (by omega) rfl
           simp only [field_mk, o_bd, cA, slice_slice]
           obtain ⟨s', h5', g1, s5, g3⟩ := s3.grow (i := 1) (bytes := 8) (m := 1) (vs := [.int .i64 (numW w.text)]) rfl rfl (by omega) (by omega)
           rw [g1]
           simp only [o_bd]
           obtain ⟨h6, e6, s6⟩ := s5.put (i := 0) (sz := 1) (id := A) (gen := 0) (n := 2) (cs := [.bool now.1, .slice s]) (o := 0 + 1) (l := 2) (vs := [.slice s']) rfl (by simp) (by simp)
           rw [e6, o_bd, sucU (by omega), sucU (by omega)]
           refine ih (k + 1) steps (now.1, now.2 ++ [numW w.text]) true (all + 1) s' out h6 (by omega) (by omega) (by omega) (by simp; omega) (by omega) ?_
           rw [intsC_app]
           exact s6
   · have : k = W.length := by omega
     subst this
     rw [bif_neg (by omega), List.drop_length, o_bd, k_proof_Read_0_x0]
     unfold readT
     cases begun with
     | true =>
       rw [cond_true, len_lst, pat0 fuel (d + 2)]
       exact ⟨_, _, rfl, freeze_tup2 _ rfl rfl⟩
     | false =>
       refine ⟨_, _, rfl, ?_⟩
       rw [if_neg (by simp)]
       refine freeze_tup2 _ ?_ rfl
       rw [(hs.sep.grown (i := 2) rfl).freeze (n := 6) (by omega) (freeze_stepsC 4 _), show out.len = steps.length by omega]
theorem splitOf_len (b : List UInt8) (c : Bool) : (splitOf b c).length ≤ b.length := by
 have := splitGo_len (b := b) (c := c) (b.length + 1) 0
 unfold splitOf
 omega
def readA (b : List UInt8) : RdS := readT b.length (splitOf b true) [] (false, []) false
theorem read_body (fuel d : Nat) {b : List UInt8} (hf : b.length + 21 ≤ fuel) (hb : b.length < 200000) : ∃ v h', brun fuel (d + 4) F_proof_Read [.slice (lstU b)] AH.none = some (v, h') ∧ freezeV h' 8 v = some (rdA (readA b)) := by
 have hl := splitOf_len b true
 have s0 := (((Sep0.start AH.none).push 1 2 (cs := [(AV.bool false), (.slice Sl.nil)]) rfl).addNil 1).addNil 2
 obtain ⟨v, h', e1, e2⟩ := read_loop fuel d (b := b) (W := splitOf b true) (by omega) (by omega) fuel 0 [] (false, []) false 0 .nil .nil (AH.none.push 1 [(AV.bool false), (.slice Sl.nil)]) (by omega) (by omega) (by simp) (by simp) (by omega) s0
 rw [List.drop_zero] at e2
 refine ⟨v, h', ?_, e2⟩
 rw [e_proof_Read, len_lst, bif_neg (by omega), split_run fuel d (by omega) (by omega), o_bd, slice_slice, o_bd, len_lst]
 exact e1
theorem read_run (fuel d : Nat) {b : List UInt8} (hf : b.length + 21 ≤ fuel) (hb : b.length < 200000) (h : AH) : run fuel (d + 4) F_proof_Read [.slice (lstU b)] h = some (rdA (readA b), h) := by
 obtain ⟨v, h', e1, e2⟩ := read_body fuel d hf hb
 exact pure_of rfl rfl (cc1 (canon_lstU 7 b)) e1 e2
end Go.Proofs.YtjagkijfngokaaaGreatDoor
namespace Go.Proofs.YtjagkijfngokaaaGreatDoor
open Go.RowKit
def numsT (l : List Int) : List UInt8 := l.flatMap fun x => decT x ++ [32]
def lineT (l : List Int) : List UInt8 := numsT l ++ [48, 10]
theorem line_loopP (fuel d : Nat) {l : List Int} (hl : l.length < 1000000) (hok : ∀ x ∈ l, AppOk fuel d x) {h0 : AH} : ∀ (n k : Nat) (s : Sl) (t : List UInt8) (h : AH), l.length < n + k → k ≤ l.length → t.length + 30 * (l.length - k) < 800000000 → Sep0 h0 h [.grown 1 s (bytesC t)] →
   ∃ s' h', (l_dimacs_Line_0 fuel d n [(0, .slice s), (7, .slice (lstI l)), (8, .int .i64 (l.length : Int)), (9, .int .i64 (k : Int))] h).bind (fun p => k_dimacs_Line_0 fuel d p.1 p.2.1 p.2.2) = some (.slice s', h') ∧ Sep0 h0 h' [.grown 1 s' (bytesC (t ++ lineT (l.drop k)))] := by
 intro n
 induction n with
 | zero => intro k s t h h1 h2; omega
 | succ n ih =>
   intro k s t h h1 h2 ht hs
   rw [l_dimacs_Line_0_eq]
   by_cases hk : k < l.length
   · have hd : l.drop k = l.getD k 0 :: l.drop (k + 1) := by rw [List.drop_eq_getElem_cons hk]; simp [List.getD, hk]
     have hx := hok (l.getD k 0) (by simp [List.getD, hk])
     rw [bif_pos (by omega), addr_lstM _ (by omega) (by omega) 0, hd, Int.toNat_natCast]
     generalize l.getD k 0 = x at hx
     simp only [o_bd, cell_fp, int_int]
     obtain ⟨s1, h1', e1, q1, q2⟩ := hx h0 h s t (by omega) hs
     rw [e1]
     simp only [o_bd, slice_slice]
     rw [show [(AV.int .u8 (32 : Int))] = bytesC [32] from rfl, lit_cells h1' [32] (n := 1) rfl, o_bd, Sl.len]
     obtain ⟨s2, h2', e2, q3⟩ := lit_append (q1.junk (cs := bytesC [32])) [32] (m := 1) rfl (by simp; omega)
     rw [e2, o_bd, sucU (by omega)]
     obtain ⟨s3, h3', e3, q4⟩ := ih (k + 1) s2 (t ++ decT x ++ [32]) h2' (by omega) (by omega) (by simp; omega) q3
     refine ⟨s3, h3', e3, ?_⟩
     have : t ++ decT x ++ [32] ++ lineT (l.drop (k + 1)) = t ++ lineT (x :: l.drop (k + 1)) := by simp [lineT, numsT]
     rw [← this]
     exact q4
   · have : k = l.length := by omega
     subst this
     rw [bif_neg (by omega), List.drop_length]
     simp only [o_bd, k_dimacs_Line_0_x0]
     rw [show [(AV.int .u8 (48 : Int)), (AV.int .u8 (10 : Int))] = bytesC [48, 10] from rfl, lit_cells h [48, 10] (n := 2) rfl, o_bd, Sl.len]
     obtain ⟨s2, h2', e2, q3⟩ := lit_append (hs.junk (cs := bytesC [48, 10])) [48, 10] (m := 2) rfl (by simp; omega)
     rw [e2, o_bd]
     exact ⟨s2, h2', rfl, q3⟩
theorem lineP_run (fuel d : Nat) {l : List Int} (hl : l.length < 1000000) (hf : l.length < fuel) (hok : ∀ x ∈ l, AppOk fuel d x) {h0 h : AH} {s : Sl} {t : List UInt8} (ht : t.length + 30 * l.length < 800000000) (hs : Sep0 h0 h [.grown 1 s (bytesC t)]) :
   ∃ s' h', run fuel (d + 1) F_dimacs_Line [.slice s, .slice (lstI l)] h = some (.slice s', h') ∧ Sep0 h0 h' [.grown 1 s' (bytesC (t ++ lineT l))] := by
 obtain ⟨s', h', e1, q1⟩ := line_loopP fuel d hl hok fuel 0 s t h (by omega) (by omega) (by omega) hs
 rw [List.drop_zero] at q1
 refine ⟨s', h', ?_, q1⟩
 rw [e_dimacs_Line, len_lst]
 exact e1
def stepT (s : Stp) : List UInt8 := (if s.1 = true then [100, 32] else []) ++ lineT s.2
def stepsT (l : List Stp) : List UInt8 := l.flatMap stepT
theorem copyS {h0 h : AH} {L : List Chunk} (hs : Sep0 h0 h L) (s : Stp) : ∃ h3, AH.storeAt (AH.push h 1 [(.bool false), (.slice Sl.nil)]) (stepC s) (Pt.mk ⟨AH.next h, 0, 0⟩ 2) = some h3 ∧ Sep0 h0 h3 (L ++ [.own 1 h.next 0 2 (stepC s)]) := by
 have s1 := hs.push 1 2 (cs := [(AV.bool false), (.slice Sl.nil)]) rfl
 have hi : (L ++ [Chunk.own 1 h.next 0 2 [(AV.bool false), (.slice Sl.nil)]])[L.length]? = some (Chunk.own 1 h.next 0 2 [(AV.bool false), (.slice Sl.nil)]) := by simp
 obtain ⟨h3, e1, s2⟩ := s1.put (o := 0) (l := 2) (vs := stepC s) hi (by simp [stepC]) (by simp [stepC])
 have hset : (L ++ [Chunk.own 1 h.next 0 2 [(AV.bool false), (.slice Sl.nil)]]).set L.length (Chunk.own 1 h.next 0 2 (stepC s)) = L ++ [Chunk.own 1 h.next 0 2 (stepC s)] := by simp
 exact ⟨h3, e1, by rw [← hset]; exact s2⟩
def StpOk (fuel d : Nat) (s : Stp) : Prop := s.2.length < 1000 ∧ s.2.length < fuel ∧ ∀ x ∈ s.2, AppOk fuel d x
theorem numsT_len {fuel d : Nat} {h : AH} : ∀ {l : List Int}, (∀ x ∈ l, AppOk fuel d x) → (numsT l).length ≤ 21 * l.length
 | [], _ => by simp [numsT]
 | x :: l, hx => by
   have h1 := numsT_len (h := h) (l := l) fun y hy => hx y (List.mem_cons_of_mem _ hy)
   obtain ⟨_, _, _, _, h2⟩ := hx x (List.mem_cons_self ..) h h .nil [] (by simp) ((Sep0.start h).addNil 1)
   have e : numsT (x :: l) = decT x ++ [32] ++ numsT l := by simp [numsT]
   rw [e, List.length_append, List.length_append, List.length_cons]
   simp
   omega
theorem bytes_loop (fuel d : Nat) {L : List Stp} (hL : L.length < 10000) (hok : ∀ s ∈ L, StpOk fuel d s) {h0 : AH} : ∀ (n k : Nat) (o : Sl) (t : List UInt8) (h : AH), L.length < n + k → k ≤ L.length → t.length + 40000 * (L.length - k) < 700000000 → Sep0 h0 h [.grown 1 o (bytesC t)] →
   ∃ s' h', (l_proof_Bytes_0 fuel (d + 1) n [(3, .slice o), (6, .slice (lstS L)), (7, .int .i64 (L.length : Int)), (8, .int .i64 (k : Int))] h).bind (fun p => k_proof_Bytes_0 fuel (d + 1) p.1 p.2.1 p.2.2) = some (.slice s', h') ∧ Sep0 h0 h' [.grown 1 s' (bytesC (t ++ stepsT (L.drop k)))] := by
 intro n
 induction n with
 | zero => intro k o t h h1 h2; omega
 | succ n ih =>
   intro k o t h h1 h2 ht hs
   rw [l_proof_Bytes_0_eq]
   by_cases hk : k < L.length
   · have hd : L.drop k = L.getD k (false, []) :: L.drop (k + 1) := by rw [List.drop_eq_getElem_cons hk]; simp [List.getD, hk]
     have hx := hok (L.getD k (false, [])) (by simp [List.getD, hk])
     rw [bif_pos (by omega), addr_lstN (sz := 2) (f := stepC) stepC_len (l := L) (j := (k : Int)) (by omega) (by omega) (false, []), hd, Int.toNat_natCast]
     generalize L.getD k (false, []) = s at hx
     obtain ⟨a1, a2, a3⟩ := hx
     have hnl := numsT_len (h := h) a3
     obtain ⟨h3, e1, s1⟩ := copyS hs s
     rw [o_bd, cellsAt_fp (stepC_len s), o_bd, cond_pos _ _ (show (!false && Nat.beq (List.length (stepC s)) 2 && List.all (stepC s) AV.isCell) = true from rfl), e1]
     have c0 : h3.cell (.mk ⟨AH.next h, 0, 0 + 0⟩ 2) = some (.bool s.1) := s1.part (i := 1) rfl (by omega) rfl
     simp only [o_bd, field_mk, c0, bool_bool]
     have tail : ∀ (o' : Sl) (t' : List UInt8) (h4 : AH), t'.length ≤ t.length + 2 → h4.cell (.mk ⟨AH.next h, 0, 0 + 1⟩ 2) = some (.slice (lstI s.2)) → Sep0 h0 h4 [.grown 1 o' (bytesC t')] →
         ∃ s' h', (k_proof_Bytes_1 fuel (d + 1) n .normal [(3, .slice o'), (5, .ptr (.mk ⟨AH.next h, 0, 0⟩ 2)), (6, .slice (lstS L)), (7, .int .i64 (L.length : Int)), (8, .int .i64 (k : Int))] h4).bind (fun p => k_proof_Bytes_0 fuel (d + 1) p.1 p.2.1 p.2.2) = some (.slice s', h') ∧ Sep0 h0 h' [.grown 1 s' (bytesC (t' ++ lineT s.2 ++ stepsT (L.drop (k + 1))))] := by
       intro o' t' h4 hlt c1 hs4
       rw [k_proof_Bytes_1_n]
       simp only [field_mk, o_bd, c1, slice_slice]
       obtain ⟨o2, h5, e5, s5⟩ := lineP_run fuel d (l := s.2) (by omega) a2 a3 (by omega) hs4
       rw [e5]
       simp only [o_bd, slice_slice]
       rw [sucU (by omega)]
       exact ih (k + 1) o2 (t' ++ lineT s.2) h5 (by omega) (by omega) (by simp [lineT]; omega) s5
     have hst : stepsT (s :: L.drop (k + 1)) = stepT s ++ stepsT (L.drop (k + 1)) := by simp [stepsT]
     rw [hst]
     unfold stepT
     cases hb : s.1 with
     | true =>
       simp only [cond_true, if_true]
       rw [show [(AV.int .u8 (100 : Int)), (AV.int .u8 (32 : Int))] = bytesC [100, 32] from rfl, lit_cells h3 [100, 32] (n := 2) rfl, o_bd, Sl.len]
       have hl := s1.len (i := 0) rfl
       simp only [List.length_map, Nat.mul_one] at hl
       obtain ⟨o1, h4, e4, s4, _⟩ := (s1.junk (cs := bytesC [100, 32])).grow (i := 0) (bytes := 1) (m := 2) (vs := bytesC [100, 32]) rfl rfl (by omega) (by omega)
       rw [← bytesC_app] at s4
       rw [e4]
       simp only [o_bd]
       have c1 : h4.cell (.mk ⟨AH.next h, 0, 0 + 1⟩ 2) = some (.slice (lstI s.2)) := s4.part (i := 1) rfl (by omega) rfl
       obtain ⟨s', h', q1, q2⟩ := tail o1 (t ++ [100, 32]) h4 (by simp) c1 (Sep0.init (L := [_]) s4)
       refine ⟨s', h', q1, ?_⟩
       have : t ++ [100, 32] ++ lineT s.2 ++ stepsT (L.drop (k + 1)) = t ++ ([100, 32] ++ lineT s.2 ++ stepsT (L.drop (k + 1))) := by simp
       rw [← this]
       exact q2
     | false =>
       simp only [cond_false, Bool.false_eq_true, if_false, o_bd, List.nil_append]
       have c1 : h3.cell (.mk ⟨AH.next h, 0, 0 + 1⟩ 2) = some (.slice (lstI s.2)) := s1.part (i := 1) rfl (by omega) rfl
       obtain ⟨s', h', q1, q2⟩ := tail o t h3 (by omega) c1 (Sep0.init (L := [_]) s1)
       refine ⟨s', h', q1, ?_⟩
       rw [← List.append_assoc]
       exact q2
   · have : k = L.length := by omega
     subst this
     rw [bif_neg (by omega), List.drop_length]
     simp only [o_bd, k_proof_Bytes_0_x0]
     refine ⟨o, h, rfl, ?_⟩
     rw [show stepsT [] = [] from rfl, List.append_nil]
     exact hs
theorem bytes_body (fuel d : Nat) {L : List Stp} (hL : L.length < 10000) (hLf : L.length < fuel) (hok : ∀ s ∈ L, StpOk fuel d s) : ∃ v h', brun fuel (d + 2) F_proof_Bytes [.slice (lstS L)] AH.none = some (v, h') ∧ freezeV h' 8 v = some (.slice (lstU (stepsT L))) := by
 obtain ⟨s', h', e1, q1⟩ := bytes_loop fuel d hL hok fuel 0 .nil [] AH.none (by omega) (by omega) (by simp; omega) ((Sep0.start _).addNil 1)
 rw [List.drop_zero, List.nil_append] at q1
 refine ⟨.slice s', h', ?_, ?_⟩
 · rw [e_proof_Bytes, len_lst]
   exact e1
 · have hl := q1.len (i := 0) rfl
   simp only [List.length_map, Nat.mul_one] at hl
   rw [(q1.sep.grown (i := 0) rfl).freeze (n := 7) (by omega) (freeze_bytesC 6 _), ← hl]
theorem bytes_run (fuel d : Nat) {L : List Stp} (hL : L.length < 10000) (hLf : L.length < fuel) (hok : ∀ s ∈ L, StpOk fuel d s) (h : AH) : run fuel (d + 2) F_proof_Bytes [.slice (lstS L)] h = some (.slice (lstU (stepsT L)), h) := by
 obtain ⟨v, h', e1, e2⟩ := bytes_body fuel d hL hLf hok
 exact pure_of rfl rfl (cc1 (canon_lstS 7 L)) e1 e2
end Go.Proofs.YtjagkijfngokaaaGreatDoor
namespace Go.Proofs.YtjagkijfngokaaaGreatDoor
open Go.RowKit
def litsN (L : List Stp) : Nat := (L.map fun s => s.2.length).sum
def badS : List Stp → Nat → Option Nat
 | [], _ => none
 | s :: L, k => if (s.2.any fun l => !isI l 4000) = true then some k else badS L (k + 1)
def pchk (L : List Stp) : AV := if 320000 < litsN L then err_api_ErrLimit else match badS L 0 with
 | some k => atV (k : Int) err_api_ErrRange
 | none => .nilif
end Go.Proofs.YtjagkijfngokaaaGreatDoor
namespace Go.Proofs.YtjagkijfngokaaaGreatDoor
open Go.RowKit
end Go.Proofs.YtjagkijfngokaaaGreatDoor
namespace Go.Proofs.YtjagkijfngokaaaGreatDoor
open Go.RowKit
theorem appU_run (fuel d : Nat) (hf : 30 < fuel) {u : Nat} (hu : u < 18446744073709551616) {h0 h : AH} {s : Sl} {t : List UInt8} (ht : t.length < 900000100) (hs : Sep0 h0 h [.grown 1 s (bytesC t)]) :
   ∃ s' h', run fuel (d + 3) F_strconv_AppendUint [.slice s, .int .u64 (u : Int), .int .i64 10] h = some (.slice s', h') ∧ Sep0 h0 h' [.grown 1 s' (bytesC (t ++ decN u))] ∧ (decN u).length ≤ 20 ∧ 1 ≤ (decN u).length := by
 rw [e_strconv_AppendUint, bif_pos rfl]
 by_cases hs1 : u < 100
 · have hl : (decN u).length ≤ 2 ∧ 1 ≤ (decN u).length := by
     have : (List.range 100).all (fun x => decide ((decN x).length ≤ 2) && decide (1 ≤ (decN x).length)) = true := by kernel_rfl
     have := List.all_eq_true.1 this u (List.mem_range.2 hs1)
     simpa using this
   obtain ⟨s', h', e1, s2⟩ := lit_append hs (decN u) (m := (decN u).length) rfl (by omega)
   rw [bif_pos (by omega), wrap64 (by omega) (by omega), small_run fuel (d + 1) hs1]
   simp only [o_bd, str_str]
   rw [tx_size, bytesOf_tx, e1]
   exact ⟨s', h', rfl, s2, by omega, by omega⟩
 · obtain ⟨a1, a2, a3, a4⟩ := nDig_ok (u := u) (by omega) hu
   have hd := decN_dig (u := u) (by omega) hu
   rw [bif_neg (by omega), zero24_is, ndig_run fuel d (by omega) hu]
   have s0 : Sep0 h0 (h.push 1 zero24) (.own 1 h.next 0 24 zero24 :: [.grown 1 s (bytesC t)]) := (hs.push 1 24 (by simp)).cons
   simp only [o_bd, int_int, aLo_none, aMx_none]
   rw [aHi_some (by omega) (by omega), o_bd, hasSz24 s0]
   simp only [Bool.and_self, cond_true, Nat.zero_mul, Nat.add_zero, Nat.sub_zero, Int.toNat_natCast]
   obtain ⟨h5, e5, s5⟩ := fmt_run fuel (d + 1) (N := 24) (off := 0) (c := false) (n := nDig u) (f := fun _ => 0) (by omega) (by omega) (by omega) hu a2 s0
   rw [show Nat.ble (0 + 24 * 1) 24 = true from rfl]
   simp only [Bool.and_self, cond_true]
   rw [e5, o_bd, hasSz24 s5]
   simp only [o_bd, Bool.and_self, cond_true, Sl.len]
   rw [part24 s5 a3 (by omega) false, digF_all, ← hd, o_bd]
   have hlen : nDig u = (decN u).length := by rw [hd, padD_len]
   have hl := s5.len (i := 1) rfl
   simp only [List.length_map, Nat.mul_one] at hl
   obtain ⟨s', h', e1, s2, _⟩ := s5.grow (i := 1) (bytes := 1) (m := nDig u) (vs := bytesC (decN u)) rfl (by simp [hlen]) (by omega) (by omega)
   rw [e1]
   refine ⟨s', h', rfl, ?_, by omega, by omega⟩
   rw [bytesC_app]
   exact s2.sub ((List.Sublist.refl _).cons _)
theorem app_ok (fuel d : Nat) (hf : 30 < fuel) {x : Int} (h0 : -9223372036854775808 ≤ x) (h1 : x ≤ 9223372036854775807) : AppOk fuel (d + 5) x := by
 intro g0 h s t ht hs
 rw [e_strconv_AppendInt, e_internal_strconv_AppendInt]
 by_cases hn : x < 0
 · obtain ⟨u, hu⟩ : ∃ u : Nat, -x = (u : Int) := ⟨(-x).toNat, by omega⟩
   rw [bif_pos hn, show [(AV.int .u8 (45 : Int))] = bytesC [45] from rfl, lit_cells h [45] (n := 1) rfl, o_bd, Sl.len]
   obtain ⟨s2, h2, e2, q2⟩ := lit_append (hs.junk (cs := bytesC [45])) [45] (m := 1) rfl (by simp; omega)
   rw [e2]
   simp only [o_bd]
   rw [k_internal_strconv_AppendInt_0_n, negu64 h0 hn, hu]
   obtain ⟨s3, h3, e3, q3, q4, _⟩ := appU_run fuel d hf (u := u) (by omega) (t := t ++ [45]) (by simp; omega) q2
   rw [e3]
   simp only [o_bd, slice_slice]
   have hd : decT x = 45 :: decN u := by unfold decT; rw [if_pos hn, hu, Int.toNat_natCast]
   refine ⟨s3, h3, rfl, ?_, ?_⟩
   · rw [hd]
     simpa using q3
   · rw [hd]
     have : u ≤ 9223372036854775808 := by omega
     rcases Nat.eq_zero_or_pos u with h9 | h9
     · omega
     · obtain ⟨b1, b2, b3, b4⟩ := nDig_ok (u := u) h9 (by omega)
       have hdd := decN_dig (u := u) h9 (by omega)
       rw [List.length_cons, hdd, padD_len]
       have : nDig u ≤ 19 := by
         rcases b1 with b1 | b1
         · rcases Nat.lt_or_ge 19 (nDig u) with h8 | h8
           · have e20 : nDig u = 20 := by omega
             rw [e20] at b1
             omega
           · exact h8
         · omega
       omega
 · obtain ⟨u, rfl⟩ : ∃ u : Nat, x = (u : Int) := ⟨x.toNat, by omega⟩
   rw [bif_neg hn]
   simp only [o_bd]
   rw [k_internal_strconv_AppendInt_0_n, wrapu64 (by omega) (by omega)]
   obtain ⟨s3, h3, e3, q3, q4, _⟩ := appU_run fuel d hf (u := u) (by omega) (t := t) (by omega) hs
   rw [e3]
   simp only [o_bd, slice_slice]
   have hd : decT (u : Int) = decN u := by unfold decT; rw [if_neg hn, Int.toNat_natCast]
   rw [hd]
   exact ⟨s3, h3, rfl, q3, q4⟩
end Go.Proofs.YtjagkijfngokaaaGreatDoor
namespace Go.Proofs.YtjagkijfngokaaaGreatDoor
open Go.RowKit
theorem freeze_cells {h : AH} {r : Ref} {n m : Nat} {c : Bool} {cs us : List AV} (hs : h.sliceCells 1 (.mk r n c) = some cs) (hm : cs.mapM (freezeV h m) = some us) : freezeV h (m + 1) (.slice (.mk r n c)) = some (.slice (.lst n false us)) := by
 by_cases h0 : n = 0
 · subst h0
   simp [AH.sliceCells] at hs
   subst hs
   simp at hm
   subst hm
   simp [freezeV]
 · obtain ⟨row, h1, h2, h3, h4, h5, rfl⟩ := sliceCells_row hs h0
   have hs2 : h.sliceCells row.sz (.mk r n false) = some ((row.cells.drop r.off).take (n * 1)) := by rw [h2]; exact sliceCells_of h1 h2 h3 h4 h5
   simp only [freezeV, beq_eq, decide_eq_false h0, cond_false, h1, hs2, o_bd, hm, Option.map_some]
end Go.Proofs.YtjagkijfngokaaaGreatDoor
namespace Go.Proofs.YtjagkijfngokaaaGreatDoor
open Go.RowKit
def Num64 (x : Int) : Prop := -9223372036854775808 ≤ x ∧ x ≤ 9223372036854775807
theorem Num64.app {x : Int} (h : Num64 x) (fuel d : Nat) (hf : 30 < fuel) : AppOk fuel (d + 5) x := app_ok fuel d hf h.1 h.2
def headTx (v n : Int) : List UInt8 := [112, 32, 99, 110, 102, 32] ++ decT v ++ [32] ++ decT n ++ [10]
theorem decT_len {x : Int} (h : Num64 x) : (decT x).length ≤ 20 := by
 obtain ⟨_, _, _, _, h2⟩ := h.app 31 0 (by omega) AH.none AH.none .nil [] (by simp) ((Sep0.start _).addNil 1)
 exact h2
end Go.Proofs.YtjagkijfngokaaaGreatDoor
namespace Go.Proofs.YtjagkijfngokaaaGreatDoor
open Go.RowKit
def nearI (a : List Int) : Bool := a.all fun x => !decide (x < -1152921504606846976)
end Go.Proofs.YtjagkijfngokaaaGreatDoor
namespace Go.Proofs.YtjagkijfngokaaaGreatDoor
open Go.RowKit
abbrev gridC (cc : List (List Int)) : List AV := cc.map fun c => .slice (lstI c)
def cnfC (vars : Int) (cc : List (List Int)) : List AV := [.int .i64 vars, .slice (lstLL cc)]
def totalI (cc : List (List Int)) : Nat := (cc.map List.length).sum
end Go.Proofs.YtjagkijfngokaaaGreatDoor
namespace Go.Proofs.YtjagkijfngokaaaGreatDoor
open Go.RowKit
inductive ClR where
 | ok (l : List (List Int)) : ClR
 | bad (p : Int) : ClR
def noLitV (t : List UInt8) (vars : Int) : Bool := !okNum t || (!decide (numW t = 0) && !isI (numW t) vars)
def clT (e vars many : Int) : List Wd → List (List Int) → List Int → ClR
 | [], out, c => if (out.length : Int) < many ∨ c ≠ [] then .bad e else .ok out
 | w :: ws, out, c =>
   if many ≤ (out.length : Int) ∨ noLitV w.text vars = true then .bad (w.pos : Int)
   else if numW w.text = 0 then clT e vars many ws (out ++ [c]) []
   else clT e vars many ws out (c ++ [numW w.text])
end Go.Proofs.YtjagkijfngokaaaGreatDoor
namespace Go.Proofs.YtjagkijfngokaaaGreatDoor
open Go.RowKit
end Go.Proofs.YtjagkijfngokaaaGreatDoor
namespace Go.Proofs.YtjagkijfngokaaaGreatDoor
open Go.RowKit
end Go.Proofs.YtjagkijfngokaaaGreatDoor
namespace Go.Proofs.YtjagkijfngokaaaGreatDoor
open Go.RowKit
def atI (W : List Wd) (k : Nat) (e : Int) : Int := if k < W.length then ((W.getD k ⟨[], 0, false⟩).pos : Int) else e
def rclA : ClR → AV
 | .ok l => .tup [.slice (lstLL l), .agg (faultC 0 false 0)]
 | .bad p => .tup [.slice (lstLL []), .agg (faultC 101 true p)]
end Go.Proofs.YtjagkijfngokaaaGreatDoor
namespace Go.Proofs.YtjagkijfngokaaaGreatDoor
open Go.RowKit
theorem addr_stp (h : AH) {L : List Stp} {k : Nat} (hk : k < L.length) : h.addr 2 (lstS L) (k : Int) = some (.fp 0 (stepC (L.getD k (false, [])))) :=
 addr_lstN (sz := 2) (f := stepC) stepC_len (l := L) (j := (k : Int)) (by omega) (by omega) (false, []) false
theorem drop_stp {L : List Stp} {k : Nat} (hk : k < L.length) : L.drop k = L.getD k (false, []) :: L.drop (k + 1) := by rw [List.drop_eq_getElem_cons hk]; simp [List.getD, hk]
def rchkF (L : List Stp) : List AV := if 320000 < litsN L then faultC 102 false 0 else match badS L 0 with
 | some k => faultC 104 true (k : Int)
 | none => faultC 0 false 0
end Go.Proofs.YtjagkijfngokaaaGreatDoor
namespace Go.Proofs.YtjagkijfngokaaaGreatDoor
open Go.RowKit
inductive HdR where
 | ok (vars many : Int) : HdR
 | bad (code p : Int) : HdR
def cntC (w : Wd) (most : Int) : Option Int := if (w.first || !plainW w.text) = true then some 101 else if most < numW w.text then some 102 else none
def headT (e : Int) : List Wd → HdR
 | [] => .bad 101 e
 | w0 :: W1 => if (!w0.first || !(w0.text == [112])) = true then .bad 101 (w0.pos : Int) else match W1 with
   | [] => .bad 101 e
   | w1 :: W2 => if (w1.first || !(w1.text == [99, 110, 102])) = true then .bad 101 (w1.pos : Int) else match W2 with
     | [] => .bad 101 e
     | w2 :: W3 => match cntC w2 4000 with
       | some c => .bad c (w2.pos : Int)
       | none => match W3 with
         | [] => .bad 101 e
         | w3 :: _ => match cntC w3 20000 with
           | some c => .bad c (w3.pos : Int)
           | none => .ok (numW w2.text) (numW w3.text)
end Go.Proofs.YtjagkijfngokaaaGreatDoor
namespace Go.Proofs.YtjagkijfngokaaaGreatDoor
open Go.RowKit
def clA : ClR → AV
 | .ok l => .tup [.slice (lstLL l), .nilif]
 | .bad p => .tup [.slice (lstLL []), atV p err_api_ErrText]
end Go.Proofs.YtjagkijfngokaaaGreatDoor
namespace Go.Proofs.YtjagkijfngokaaaGreatDoor
open Go.RowKit
def cntA (w : Wd) (most : Int) : AV := match cntC w most with
 | some c => .tup [.int .i64 0, atV (w.pos : Int) (errC c)]
 | none => .tup [.int .i64 (numW w.text), .nilif]
def hdA : HdR → AV
 | .ok v m => .tup [.int .i64 v, .int .i64 m, .int .i64 4, .nilif]
 | .bad c p => .tup [.int .i64 0, .int .i64 0, .int .i64 0, atV p (errC c)]
end Go.Proofs.YtjagkijfngokaaaGreatDoor
namespace Go.Proofs.YtjagkijfngokaaaGreatDoor
open Go.RowKit
section
variable {W : List Wd} {P : Pt} {e : Int} {w : Wd}
abbrev dW : Wd := ⟨[], 0, false⟩
end
section
variable {W : List Wd} {e : Int} {w : Wd}
end
end Go.Proofs.YtjagkijfngokaaaGreatDoor
namespace Go.Proofs.YtjagkijfngokaaaGreatDoor
open Go.RowKit
abbrev CR := Int × List (List Int) × Option (Int × Int)
def rdC (b : List UInt8) : CR := match headT (b.length : Int) (splitOf b true) with
 | .bad c p => (0, [], some (c, p))
 | .ok v m => match clT (b.length : Int) v m ((splitOf b true).drop 4) [] [] with
   | .bad p => (0, [], some (101, p))
   | .ok l => (v, l, none)
def crA (r : CR) : AV := .tup [.agg (cnfC r.1 r.2.1), errO r.2.2]
end Go.Proofs.YtjagkijfngokaaaGreatDoor
namespace Go.Proofs.YtjagkijfngokaaaGreatDoor
open Go.RowKit
abbrev dWr : Wd := ⟨[], 0, false⟩
def plB (W : List Wd) (k : Nat) : Bool := decide (k < W.length) && (!(W.getD k dWr).first && plainW (W.getD k dWr).text)
def rhdA : HdR → AV
 | .ok v m => .tup [.int .i64 v, .int .i64 m, .agg (faultC 0 false 0)]
 | .bad c p => .tup [.int .i64 0, .int .i64 0, .agg (faultC c true p)]
end Go.Proofs.YtjagkijfngokaaaGreatDoor
namespace Go.Proofs.YtjagkijfngokaaaGreatDoor
open Go.RowKit
def blankI (c : Int) : Bool := bif (bif decide (c = 32) then true else decide (c = 9)) then true else decide (c = 13)
end Go.Proofs.YtjagkijfngokaaaGreatDoor
namespace Go.Proofs.YtjagkijfngokaaaGreatDoor
open Go.RowKit
def rcrA (r : CR) : AV := .tup [.agg (cnfC r.1 r.2.1), .agg (faultO r.2.2)]
end Go.Proofs.YtjagkijfngokaaaGreatDoor
namespace Go.Proofs.YtjagkijfngokaaaGreatDoor
open Go.RowKit
abbrev Blk := Bool × List Int
def blkC (b : Blk) : List AV := [.bool b.1, .slice (lstI b.2)]
abbrev lstBk (l : List Blk) : Sl := lstN blkC l
abbrev blksC (l : List Blk) : List AV := l.flatMap blkC
inductive BkR where
 | bad (p : Int) : BkR
 | ok (l seen : List Int) (ws : List Wd) : BkR
def badV (t : List UInt8) (vars : Int) (seen : List Int) : Bool := !okNum t || decide (numW t < 1) || decide (vars < numW t) || seen.contains (numW t)
def blockT (e vars : Int) : List Wd → List Int → List Int → BkR
 | [], _, _ => .bad e
 | w :: ws, seen, acc =>
   if okNum w.text = true ∧ numW w.text = 0 then .ok acc seen ws
   else if badV w.text vars seen = true then .bad (w.pos : Int)
   else blockT e vars ws (seen ++ [numW w.text]) (acc ++ [numW w.text])
inductive BsR where
 | bad (p : Int) : BsR
 | ok (l : List Blk) (ws : List Wd) : BsR
def isBk (w : Wd) : Bool := w.first && (w.text == [97] || w.text == [101])
def blocksT (e vars : Int) : Nat → List Wd → List Int → List Blk → BsR
 | 0, ws, _, bs => .ok bs ws
 | _ + 1, [], _, bs => .ok bs []
 | n + 1, w :: ws, seen, bs => if isBk w = true then match blockT e vars ws seen [] with
     | .bad p => .bad p
     | .ok l seen' ws' => blocksT e vars n ws' seen' (bs ++ [(w.text == [101], l)])
   else .ok bs (w :: ws)
def seenM (l : List Int) : List (AV × AV) := l.map fun v => (.int .i64 v, .bool true)
end Go.Proofs.YtjagkijfngokaaaGreatDoor
namespace Go.Proofs.YtjagkijfngokaaaGreatDoor
open Go.RowKit
abbrev rdrC (W : List Wd) (k : Nat) (e vars : Int) (m : Nat) : List AV := [.slice (lstW W), .int .i64 (k : Int), .int .i64 e, .int .i64 vars, .map (some m)]
abbrev zeroW : List AV := [.str (⟨#[]⟩ : ByteArray), .int .i64 (0 : Int), .bool false]
def BlkPost (W : List Wd) (e vars : Int) (R m : Nat) (L : List Chunk) (h0 : AH) : BkR → AV → AH → Prop
 | .bad p, v, h' => ∃ r, v = .tup [.slice .nil, .iface T_p_api_At (.ptr (.mk ⟨r, 0, 0⟩ 2))] ∧ Sep0 h0 h' (.own 1 r 0 2 [.int .i64 p, err_api_ErrText] :: L)
 | .ok l seen ws, v, h' => ∃ s' k', v = .tup [.slice s', .nilif] ∧ Sep0 h0 h' (.own 1 R 0 5 (rdrC W k' e vars m) :: .mp h0.maps.length m (seenM seen) :: .grown 1 s' (intsC l) :: L) ∧ ws = W.drop k' ∧ k' ≤ W.length
end Go.Proofs.YtjagkijfngokaaaGreatDoor
namespace Go.Proofs.YtjagkijfngokaaaGreatDoor
open Go.RowKit
def begE : List Wd → Bool
 | [] => false
 | w :: _ => w.first && w.text == [101]
def begI : List Wd → Bool
 | [] => false
 | w :: _ => isBk w
def BsPost (W : List Wd) (e vars : Int) (R m : Nat) (L : List Chunk) (h0 : AH) : BsR → AV → AH → Prop
 | .bad p, v, h' => ∃ r, v = .tup [.slice .nil, .iface T_p_api_At (.ptr (.mk ⟨r, 0, 0⟩ 2))] ∧ Sep0 h0 h' (.own 1 r 0 2 [.int .i64 p, err_api_ErrText] :: L)
 | .ok l ws, v, h' => ∃ s' k' seen, v = .tup [.slice s', .nilif] ∧ Sep0 h0 h' (.own 1 R 0 5 (rdrC W k' e vars m) :: .mp h0.maps.length m (seenM seen) :: .grown 2 s' (blksC l) :: L) ∧ ws = W.drop k' ∧ k' ≤ W.length
end Go.Proofs.YtjagkijfngokaaaGreatDoor
namespace Go.Proofs.YtjagkijfngokaaaGreatDoor
open Go.RowKit
abbrev FR := Int × List Blk × List (List Int) × Option (Int × Int)
def rdF (b : List UInt8) : FR := match headT (b.length : Int) (splitOf b true) with
 | .bad c p => (0, [], [], some (c, p))
 | .ok v m => match blocksT (b.length : Int) v ((splitOf b true).length + 1) ((splitOf b true).drop 4) [] [] with
   | .bad p => (0, [], [], some (101, p))
   | .ok bs ws => match clT (b.length : Int) v m ws [] [] with
     | .bad p => (0, [], [], some (101, p))
     | .ok l => (v, bs, l, none)
def formulaC (bs : List Blk) (v : Int) (l : List (List Int)) : List AV := [.slice (lstBk bs), .int .i64 v, .slice (lstLL l)]
def frA (r : FR) : AV := .tup [.agg (formulaC r.2.1 r.1 r.2.2.1), errO r.2.2.2]
abbrev zero3 : List AV := [(AV.slice Sl.nil), (.int .i64 (0 : Int)), (.slice Sl.nil)]
end Go.Proofs.YtjagkijfngokaaaGreatDoor
namespace Go.Proofs.YtjagkijfngokaaaGreatDoor
open Go.RowKit
def LnOk (l : List Int) : Prop := l.length < 1000 ∧ ∀ x ∈ l, Num64 x
theorem numsT_num : ∀ {l : List Int}, (∀ x ∈ l, Num64 x) → (numsT l).length ≤ 21 * l.length
 | [], _ => by simp [numsT]
 | x :: l, hx => by
   have h1 := numsT_num (l := l) fun y hy => hx y (List.mem_cons_of_mem _ hy)
   have h2 := decT_len (hx x (List.mem_cons_self ..))
   have e : numsT (x :: l) = decT x ++ [32] ++ numsT l := by simp [numsT]
   rw [e, List.length_append, List.length_append, List.length_cons]
   simp
   omega
theorem LnOk.len {l : List Int} (h : LnOk l) : (lineT l).length ≤ 30000 := by
 have := numsT_num h.2
 have := h.1
 simp only [lineT, List.length_append, List.length_cons, List.length_nil]
 omega
def linesT (l : List (List Int)) : List UInt8 := l.flatMap lineT
def blkT (b : Blk) : List UInt8 := (if b.1 = true then [101, 32] else [97, 32]) ++ lineT b.2
def blksT (l : List Blk) : List UInt8 := l.flatMap blkT
def cnfTx (v : Int) (l : List (List Int)) : List UInt8 := headTx v (l.length : Int) ++ linesT l
def formTx (bs : List Blk) (v : Int) (l : List (List Int)) : List UInt8 := headTx v (l.length : Int) ++ blksT bs ++ linesT l
theorem bytes_fr {h0 h : AH} {s : Sl} {t : List UInt8} (hs : Sep0 h0 h [.grown 1 s (bytesC t)]) : freezeV h 8 (.slice s) = some (.slice (lstU t)) := by
 have hl := hs.len (i := 0) rfl
 simp only [List.length_map, Nat.mul_one] at hl
 rw [(hs.sep.grown (i := 0) rfl).freeze (n := 7) (by omega) (freeze_bytesC 6 _), ← hl]
end Go.Proofs.YtjagkijfngokaaaGreatDoor
namespace Go.Proofs.YtjagkijfngokaaaGreatDoor
open Go.RowKit
def numWs : List Int → Nat → Bool → List Wd
 | [], _, _ => []
 | x :: l, p, f => ⟨decT x, p, f⟩ :: numWs l (p + (decT x).length + 1) false
theorem W_nums : ∀ (l : List Int) (r : List UInt8) (p : Nat) (f : Bool), wordsOf (numsT l ++ r) p f false = numWs l p f ++ wordsOf r (p + (numsT l).length) (f && l.isEmpty) false
 | [], r, p, f => by simp [numsT, numWs]
 | x :: l, r, p, f => by
   obtain ⟨w1, w2, w3, _⟩ := decT_word x
   have e : numsT (x :: l) = decT x ++ 32 :: numsT l := by simp [numsT]
   rw [e, List.append_assoc, List.cons_append, W_one w1 w2 (Stops.sp _) p (fun _ => w3), W_sp, W_nums l]
   simp only [numWs, List.cons_append, List.length_append, List.length_cons, List.isEmpty_cons, Bool.and_false, Bool.false_and]
   rw [show p + (decT x).length + 1 + (numsT l).length = p + ((decT x).length + ((numsT l).length + 1)) by omega]
theorem W_line (l : List Int) (r : List UInt8) (p : Nat) (f : Bool) : ∃ q, wordsOf (lineT l ++ r) p f false = numWs l p f ++ ⟨[48], p + (numsT l).length, f && l.isEmpty⟩ :: wordsOf r q true false ∧ q = p + (lineT l).length := by
 refine ⟨p + (lineT l).length, ?_, rfl⟩
 have e : lineT l ++ r = numsT l ++ ([48] ++ 10 :: r) := by simp [lineT]
 rw [e, W_nums, W_one (by simp) (by decide) (Stops.nl r) _ (fun _ => by simp), W_nl]
 simp [lineT, Nat.add_assoc]
def LitOk (v x : Int) : Prop := x ≠ 0 ∧ isI x v = true ∧ -1000000000 < x ∧ x < 1000000000
theorem LitOk.text {v x : Int} (h : LitOk v x) : noLitV (decT x) v = false ∧ numW (decT x) = x := by
 obtain ⟨a1, a2, _⟩ := decT_num h.2.2.1 h.2.2.2
 refine ⟨?_, a2⟩
 unfold noLitV
 rw [a1, a2, decide_eq_false h.1, h.2.1]; rfl
end Go.Proofs.YtjagkijfngokaaaGreatDoor
namespace Go.Proofs.YtjagkijfngokaaaGreatDoor
open Go.RowKit
def cntD (L : List Stp) : Nat := (L.filter fun s => s.1).length
theorem rpb_in (fuel d : Nat) {L : List Stp} {k : Nat} (hk : k < L.length) (hl : (L.getD k (false, [])).2.length < 1000000) (hok : ∀ x ∈ (L.getD k (false, [])).2, AppOk fuel d x) {h0 : AH} : ∀ (n j : Nat) (s : Sl) (t : List UInt8) (h : AH), (L.getD k (false, [])).2.length < n + j → j ≤ (L.getD k (false, [])).2.length → t.length + 30 * ((L.getD k (false, [])).2.length - j) < 800000000 → Sep0 h0 h [.grown 1 s (bytesC t)] →
   ∃ s' h', l_skolemref20_Bytes_1 fuel d n [(0, .slice (lstS L)), (3, .slice s), (4, .int .i64 (k : Int)), (5, .int .i64 (j : Int))] h = some (.exit 2, [(0, .slice (lstS L)), (3, .slice s'), (4, .int .i64 (k : Int))], h') ∧ Sep0 h0 h' [.grown 1 s' (bytesC (t ++ numsT ((L.getD k (false, [])).2.drop j)))] := by
 intro n
 induction n with
 | zero => intro j s t h h1 h2; omega
 | succ n ih =>
   intro j s t h h1 h2 ht hs
   have step := l_skolemref20_Bytes_1_eq fuel d n (lstS L) s (k : Int) (j : Int) h
   have a1 := addr_stp h hk
   generalize L.getD k (false, []) = b at hl hok h1 h2 ht ih a1 ⊢
   simp only [a1, o_bd, stepC, field_fp, List.drop_succ_cons, List.drop_zero, cell_fp, slice_slice] at step
   rw [len_lst] at step
   by_cases hj : j < b.2.length
   · have hd : b.2.drop j = b.2.getD j 0 :: b.2.drop (j + 1) := by rw [List.drop_eq_getElem_cons hj]; simp [List.getD, hj]
     have hx := hok (b.2.getD j 0) (by simp [List.getD, hj])
     rw [bif_pos (by omega), addr_lstM _ (by omega) (by omega) 0, Int.toNat_natCast] at step
     rw [hd]
     generalize b.2.getD j 0 = x at step hx
     simp only [o_bd, cell_fp, int_int] at step
     obtain ⟨s1, g1, e1, q1, q2⟩ := hx h0 h s t (by omega) hs
     rw [e1] at step
     simp only [o_bd, slice_slice] at step
     rw [show [(AV.int .u8 (32 : Int))] = bytesC [32] from rfl, lit_cells g1 [32] (n := 1) rfl, o_bd, Sl.len] at step
     obtain ⟨s2, g2, e2, q3⟩ := lit_append (q1.junk (cs := bytesC [32])) [32] (m := 1) rfl (by simp; omega)
     rw [e2, o_bd, sucU (by omega)] at step
     obtain ⟨s3, g3, e3, q4⟩ := ih (j + 1) s2 (t ++ decT x ++ [32]) g2 (by omega) (by omega) (by simp; omega) q3
     refine ⟨s3, g3, by rw [step]; exact e3, ?_⟩
     have : t ++ decT x ++ [32] ++ numsT (b.2.drop (j + 1)) = t ++ numsT (x :: b.2.drop (j + 1)) := by simp [numsT]
     rw [← this]
     exact q4
   · have : j = b.2.length := by omega
     subst this
     rw [bif_neg (by omega)] at step
     rw [List.drop_length]
     exact ⟨s, h, step, by simpa [numsT] using hs⟩
theorem rpb_out (fuel d : Nat) {L : List Stp} (hL : L.length < 10000) (hok : ∀ s ∈ L, s.2.length < 1000 ∧ s.2.length < fuel ∧ ∀ x ∈ s.2, AppOk fuel d x) {h0 : AH} : ∀ (n k : Nat) (o : Sl) (t : List UInt8) (h : AH), L.length < n + k → k ≤ L.length → t.length + 40000 * (L.length - k) < 700000000 → Sep0 h0 h [.grown 1 o (bytesC t)] →
   ∃ s' h', (l_skolemref20_Bytes_0 fuel d n [(0, .slice (lstS L)), (3, .slice o), (4, .int .i64 (k : Int))] h).bind (fun p => k_skolemref20_Bytes_0 fuel d p.1 p.2.1 p.2.2) = some (.slice s', h') ∧ Sep0 h0 h' [.grown 1 s' (bytesC (t ++ stepsT (L.drop k)))] := by
 intro n
 induction n with
 | zero => intro k o t h h1 h2; omega
 | succ n ih =>
   intro k o t h h1 h2 ht hs
   rw [l_skolemref20_Bytes_0_eq, len_lst]
   by_cases hk : k < L.length
   · obtain ⟨b1, b2, b3⟩ := hok (L.getD k (false, [])) (by simp [List.getD, hk])
     have hnl := numsT_len (h := h) b3
     have inner := fun (s : Sl) (t : List UInt8) (h : AH) => rpb_in fuel d hk (by omega) b3 (h0 := h0) fuel 0 s t h (by omega) (by omega)
     simp only [List.drop_zero, show ((0 : Nat) : Int) = 0 from rfl] at inner
     rw [bif_pos (by omega), addr_stp _ hk, drop_stp hk]
     generalize L.getD k (false, []) = b at b1 b2 b3 hnl inner
     simp only [o_bd, stepC, field_fp, List.drop_zero, cell_fp, bool_bool]
     have tail : ∀ (u : List UInt8) (a : Sl) (g : AH), u.length ≤ 2 → u ++ lineT b.2 = stepT b → Sep0 h0 g [.grown 1 a (bytesC (t ++ u))] →
         ∃ s' h', (((l_skolemref20_Bytes_1 fuel d fuel [(0, .slice (lstS L)), (3, .slice a), (4, .int .i64 (k : Int)), (5, .int .i64 (0 : Int))] g).bind fun p8 => k_skolemref20_Bytes_1 fuel d n p8.1 p8.2.1 p8.2.2).bind (fun p => k_skolemref20_Bytes_0 fuel d p.1 p.2.1 p.2.2)) = some (.slice s', h') ∧ Sep0 h0 h' [.grown 1 s' (bytesC (t ++ stepsT (b :: L.drop (k + 1))))] := by
       intro u a g hu hub sg
       obtain ⟨s1, g1, e1, q1⟩ := inner a (t ++ u) g (by rw [List.length_append]; omega) sg
       rw [e1]
       simp only [o_bd, k_skolemref20_Bytes_1_x2]
       rw [show [(AV.int .u8 (48 : Int)), (AV.int .u8 (10 : Int))] = bytesC [48, 10] from rfl, lit_cells g1 [48, 10] (n := 2) rfl, o_bd, Sl.len]
       obtain ⟨s2, g2, e2, q2⟩ := lit_append (q1.junk (cs := bytesC [48, 10])) [48, 10] (m := 2) rfl (by simp; omega)
       rw [e2, o_bd, sucU (by omega)]
       obtain ⟨s3, g3, e3, q3⟩ := ih (k + 1) s2 _ g2 (by omega) (by omega) (by simp; omega) q2
       refine ⟨s3, g3, e3, ?_⟩
       have : t ++ u ++ numsT b.2 ++ [48, 10] ++ stepsT (L.drop (k + 1)) = t ++ stepsT (b :: L.drop (k + 1)) := by
         have e9 : stepsT (b :: L.drop (k + 1)) = stepT b ++ stepsT (L.drop (k + 1)) := by simp [stepsT]
         rw [e9, ← hub]
         simp [lineT]
       rw [← this]
       exact q3
     cases hb : b.1 with
     | true =>
       rw [cond_true, show [(AV.int .u8 (100 : Int)), (AV.int .u8 (32 : Int))] = bytesC [100, 32] from rfl, lit_cells h [100, 32] (n := 2) rfl, o_bd, Sl.len]
       obtain ⟨a, g, e4, s4⟩ := lit_append (hs.junk (cs := bytesC [100, 32])) [100, 32] (m := 2) rfl (by simp; omega)
       rw [e4, o_bd]
       exact tail [100, 32] a g (by simp) (by unfold stepT; rw [hb]; rfl) s4
     | false =>
       rw [cond_false]
       exact tail [] o h (by simp) (by unfold stepT; rw [hb]; rfl) (by rw [List.append_nil]; exact hs)
   · have : k = L.length := by omega
     subst this
     rw [bif_neg (by omega), List.drop_length]
     simp only [o_bd, k_skolemref20_Bytes_0_x0]
     exact ⟨o, h, rfl, by simpa [stepsT] using hs⟩
theorem rpb_run (fuel d : Nat) {L : List Stp} (hL : L.length < 10000) (hLf : L.length < fuel) (hok : ∀ s ∈ L, s.2.length < 1000 ∧ s.2.length < fuel ∧ ∀ x ∈ s.2, AppOk fuel d x) (h : AH) : run fuel (d + 1) F_skolemref20_Bytes [.slice (lstS L)] h = some (.slice (lstU (stepsT L)), h) := by
 obtain ⟨s', h', e1, q1⟩ := rpb_out fuel d hL hok fuel 0 .nil [] AH.none (by omega) (by omega) (by simp; omega) ((Sep0.start _).addNil 1)
 rw [List.drop_zero, List.nil_append] at q1
 refine pure_of rfl rfl (cc1 (canon_lstS 7 L)) (r := .slice s') (h' := h') ?_ (bytes_fr q1)
 rw [e_skolemref20_Bytes]
 exact e1
theorem noLit_text {x : Int} (h : LitOk 4000 x) : noLit (decT x) = false ∧ numW (decT x) = x := by
 obtain ⟨a1, a2, _⟩ := decT_num h.2.2.1 h.2.2.2
 refine ⟨?_, a2⟩
 unfold noLit
 rw [a1, a2, decide_eq_false h.1, h.2.1]; rfl
theorem decT_d (x : Int) : (decT x == [100]) = false := beq_false_of_ne fun e => (decT_word x).2.2.2.2.2 (by rw [e]; rfl)
theorem readT_nums (e : Nat) : ∀ (l : List Int) (p : Nat) (f : Bool) (ws : List Wd) (out : List Stp) (now : Stp) (begun : Bool), (∀ x ∈ l, LitOk 4000 x) → readT e (numWs l p f ++ ws) out now begun = readT e ws out (now.1, now.2 ++ l) (begun || !l.isEmpty)
 | [], p, f, ws, out, now, begun, hl => by simp [numWs]
 | x :: l, p, f, ws, out, now, begun, hl => by
   have hx := hl x (List.mem_cons_self ..)
   obtain ⟨t1, t2⟩ := noLit_text hx
   simp only [numWs, List.cons_append, readT, t1, t2, decT_d, Bool.and_false]
   rw [if_neg (by simp), if_neg (by simp), if_neg hx.1, readT_nums e l _ _ _ _ _ _ fun y hy => hl y (List.mem_cons_of_mem _ hy)]
   simp
theorem readT_line (e : Nat) (l : List Int) (r : List UInt8) (p : Nat) (f : Bool) (out : List Stp) (now : Stp) (begun : Bool) (hl : ∀ x ∈ l, LitOk 4000 x) : ∃ q, readT e (wordsOf (lineT l ++ r) p f false) out now begun = readT e (wordsOf r q true false) (out ++ [(now.1, now.2 ++ l)]) (false, []) false ∧ q = p + (lineT l).length := by
 obtain ⟨q, e1, hq⟩ := W_line l r p f
 refine ⟨q, ?_, hq⟩
 have hz : noLit [48] = false ∧ numW [48] = 0 := by
   have : okNum [48] = true ∧ numW [48] = 0 := by decide
   refine ⟨?_, this.2⟩
   unfold noLit
   rw [this.1, this.2]; rfl
 rw [e1, readT_nums e l _ _ _ _ _ _ hl]
 simp only [readT, hz.1, hz.2]
 rw [if_neg (by simp), if_neg (by simp), if_pos trivial]
theorem readT_step (e : Nat) (s : Stp) (r : List UInt8) (p : Nat) (out : List Stp) (hl : ∀ x ∈ s.2, LitOk 4000 x) : ∃ q, readT e (wordsOf (stepT s ++ r) p true false) out (false, []) false = readT e (wordsOf r q true false) (out ++ [s]) (false, []) false ∧ q = p + (stepT s).length := by
 obtain ⟨b, l⟩ := s
 cases b with
 | false =>
   obtain ⟨q, e1, hq⟩ := readT_line e l r p true out (false, []) false hl
   have hs : stepT (false, l) = lineT l := by simp [stepT]
   exact ⟨q, by rw [hs, e1]; simp, by rw [hs, hq]⟩
 | true =>
   have hs : stepT (true, l) = [100, 32] ++ lineT l := by simp [stepT]
   have hw : stepT (true, l) ++ r = [100] ++ 32 :: (lineT l ++ r) := by rw [hs]; simp
   obtain ⟨q, e1, hq⟩ := readT_line e l r (p + 2) false out (true, []) true hl
   refine ⟨q, ?_, by rw [hs, hq, List.length_append]; simp; omega⟩
   rw [hw, W_one (by simp) (by decide) (Stops.sp _) p (fun _ => by simp), W_sp]
   simp only [readT]
   rw [if_pos (by simp), show p + ([100] : List UInt8).length + 1 = p + 2 from rfl, e1]
   simp
theorem readT_steps (e : Nat) (r : List UInt8) : ∀ (L : List Stp) (p : Nat) (out : List Stp), (∀ s ∈ L, ∀ x ∈ s.2, LitOk 4000 x) → ∃ q, readT e (wordsOf (stepsT L ++ r) p true false) out (false, []) false = readT e (wordsOf r q true false) (out ++ L) (false, []) false ∧ q = p + (stepsT L).length
 | [], p, out, hl => ⟨p, by simp [stepsT], by simp [stepsT]⟩
 | s :: L, p, out, hl => by
   have hs : stepsT (s :: L) = stepT s ++ stepsT L := by simp [stepsT]
   obtain ⟨q, e1, hq⟩ := readT_step e s (stepsT L ++ r) p out (hl s (List.mem_cons_self ..))
   obtain ⟨q2, e2, hq2⟩ := readT_steps e r L q (out ++ [s]) fun t ht => hl t (List.mem_cons_of_mem _ ht)
   refine ⟨q2, ?_, by rw [hq2, hq, hs, List.length_append]; omega⟩
   rw [hs, List.append_assoc, e1, e2]
   simp
theorem readA_text {L : List Stp} (hl : ∀ s ∈ L, ∀ x ∈ s.2, LitOk 4000 x) : readA (stepsT L) = .ok L := by
 obtain ⟨q, e1, _⟩ := readT_steps (stepsT L).length [] L 0 [] hl
 unfold readA
 rw [splitOf_words]
 rw [List.append_nil] at e1
 rw [e1, W_nil]
 simp [readT]
theorem stepsT_len : ∀ {L : List Stp}, (∀ s ∈ L, s.2.length ≤ 30 ∧ ∀ x ∈ s.2, Num64 x) → (stepsT L).length ≤ 700 * L.length
 | [], _ => by simp [stepsT]
 | s :: L, h => by
   have h1 := stepsT_len (L := L) fun t ht => h t (List.mem_cons_of_mem _ ht)
   obtain ⟨h2, h3⟩ := h s (List.mem_cons_self ..)
   have h4 := numsT_num h3
   have hs : stepsT (s :: L) = stepT s ++ stepsT L := by simp [stepsT]
   have h5 : (stepT s).length ≤ 2 + ((numsT s.2).length + 2) := by
     unfold stepT lineT
     cases s.1 <;> simp <;> omega
   rw [hs, List.length_append, List.length_cons]
   omega
end Go.Proofs.YtjagkijfngokaaaGreatDoor
namespace Go.Proofs.YtjagkijfngokaaaGreatDoor
open Go.RowKit
def isBit (c : UInt8) : Bool := c == 48 || c == 49
theorem u8_48 (x : UInt8) : decide ((x.toNat : Int) = 48) = (x == 48) := u8_dec x 48
theorem u8_49 (x : UInt8) : decide ((x.toNat : Int) = 49) = (x == 49) := u8_dec x 49
abbrev oneB (c : UInt8) : Bool := c == 49
def bitsI (l : List UInt8) : List Bool := if l.all isBit = true then l.map oneB else []
theorem take_sucU {b : List UInt8} {m : Nat} (h : m < b.length) : b.take (m + 1) = b.take m ++ [b.getD m 0] := by
 rw [List.take_succ_eq_append_getElem h, List.getD_eq_getElem?_getD, List.getElem?_eq_getElem h, Option.getD_some]
theorem bits_step {β : Type} (x : UInt8) (h : AH) (K : Bool × AH → Option β) :
   (((bif ((!decide ((x.toNat : Int) = (48 : Int))) == true) then (some ((AV.bool (!decide ((x.toNat : Int) = (49 : Int)))), h)) else (some ((AV.bool false), h)) : Option (AV × AH))).bind fun r3 => (AV.bool? r3.1).bind fun b4 => K (b4, r3.2)) = K (!isBit x, h) := by
 rw [u8_48, u8_49]
 unfold isBit
 cases x == 48 <;> cases x == 49 <;> rfl
theorem wbits_loop (fuel d : Nat) {l : List UInt8} (hl : l.length < 1000000000) : ∀ (n k : Nat) (t : Sl) (h : AH), l.length < n + k → k ≤ l.length → Grown h 1 t (boolsC ((l.take k).map oneB)) →
   ∃ t' h', (l_word_Bits_0 fuel d n [(0, .str (tx l)), (4, .slice t), (10, .int .i64 (l.length : Int)), (11, .int .i64 (k : Int))] h).bind (fun p => k_word_Bits_0 fuel d p.1 p.2.1 p.2.2) = some (.tup [.slice t', .bool ((l.drop k).all isBit)], h') ∧
     Grown h' 1 t' (boolsC (if (l.drop k).all isBit = true then l.map oneB else [])) := by
 intro n
 induction n with
 | zero => intro k t h h1 h2; omega
 | succ n ih =>
   intro k t h h1 h2 hg
   have htl := hg.len
   simp only [List.length_map, Nat.mul_one, List.length_take] at htl
   rw [l_word_Bits_0_eq]
   by_cases hk : k < l.length
   · rw [bif_pos (by omega), strAt_mk hk, drop_cons hk, List.all_cons]
     have htk := take_sucU hk
     generalize l.getD k 0 = x at htk
     simp only [o_bd]
     have e := bits_step x h (fun p => (bif p.1 then (some (AExit.ret, [(2, (AV.slice Sl.nil)), (3, (AV.bool false)), (4, (AV.slice t))], p.2)) else
       (AH.append p.2 false 1 1 t 1 [(.bool (decide ((x.toNat : Int) = (49 : Int))))]).bind fun a6 =>
       l_word_Bits_0 fuel d n [(0, (.str (tx l))), (4, (.slice a6.1)), (10, (.int .i64 (l.length : Int))), (11, (.int .i64 (IntKind.wrap .i64 ((k : Int) + (1 : Int)))))] a6.2))
     rw [e]
     cases hx : isBit x with
     | false =>
       simp only [Bool.not_false, cond_true, o_bd, k_word_Bits_0_r, Bool.false_and, Bool.false_eq_true, if_false]
       exact ⟨.nil, h, rfl, .nil⟩
     | true =>
       simp only [Bool.not_true, cond_false, Bool.true_and]
       obtain ⟨t1, h1', g1, g2, g3⟩ := hg.snoc (bytes := 1) (vs := [.bool (decide ((x.toNat : Int) = 49))]) rfl (by omega) (by omega)
       rw [g1, o_bd, sucU (by omega)]
       exact ih (k + 1) t1 h1' (by omega) (by omega) (by rw [htk, List.map_append, u8_49] at *; simpa using g2)
   · have : k = l.length := by omega
     subst this
     rw [bif_neg (by omega), List.drop_length]
     simp only [o_bd, k_word_Bits_0_x0, List.all_nil, if_true]
     refine ⟨t, h, rfl, ?_⟩
     rw [List.take_length] at hg
     exact hg
theorem bits_fr {h' : AH} {t : Sl} {l : List UInt8} {q : Bool} (g : Grown h' 1 t (boolsC (bitsI l))) : freezeV h' 8 (.tup [.slice t, .bool q]) = some (.tup [.slice (lstB (bitsI l)), .bool q]) := by
 refine freeze_tup2 _ ?_ (freeze_bool _ _)
 have := g.len
 simp only [List.length_map, Nat.mul_one] at this
 rw [g.freeze (n := 6) (by omega) (freeze_boolsC 5 _), ← this]
theorem wBits_run (fuel d : Nat) {l : List UInt8} (hl : l.length < 1000000000) (hf : l.length < fuel) (h : AH) : run fuel (d + 1) F_word_Bits [.str (tx l)] h = some (.tup [.slice (lstB (bitsI l)), .bool (l.all isBit)], h) := by
 obtain ⟨t, h', e1, g1⟩ := wbits_loop fuel d hl fuel 0 (.mk ⟨AH.none.next, 0, 0⟩ 0 (eqI (0 : Int) ((l.length : Nat) : Int))) (AH.none.push 1 []) (by omega) (by omega) (Grown.make 1 _)
 rw [List.drop_zero] at e1 g1
 refine pure_of rfl rfl (cc1 rfl) (r := .tup [.slice t, .bool (l.all isBit)]) (h' := h') ?_ (bits_fr g1)
 rw [e_word_Bits, tx_size, cond_pos _ _ (by simp; omega)]
 exact e1
theorem sameB_loop (fuel d : Nat) {l : List Bool} (hl : l.length < 1000000000) (h : AH) : ∀ (n k : Nat), l.length < n + k → k ≤ l.length →
   l_skolemref_SameBools_0 fuel d n [(0, .slice (lstB l)), (1, .slice (lstB l)), (5, .int .i64 (k : Int))] h = some (.exit 0, [(4, .bot)], h) := by
 intro n
 induction n with
 | zero => intro k h1 h2; omega
 | succ n ih =>
   intro k h1 h2
   rw [l_skolemref_SameBools_0_eq, len_lst]
   by_cases hk : k < l.length
   · rw [bif_pos (by omega), addr_lstM _ (by omega) (by omega) false]
     simp only [o_bd, cell_fp, bool_bool]
     rw [show ((l.getD (Int.toNat (k : Int)) false) == (l.getD (Int.toNat (k : Int)) false)) = true from by simp]
     simp only [Bool.not_true, cond_false]
     rw [sucU (by omega)]
     exact ih (k + 1) (by omega) (by omega)
   · rw [bif_neg (by omega)]
theorem sameB_run (fuel d : Nat) {l : List Bool} (hl : l.length < 1000000000) (hf : l.length < fuel) (h : AH) : run fuel (d + 1) F_skolemref_SameBools [.slice (lstB l), .slice (lstB l)] h = some (.bool true, h) := by
 refine pure_of rfl rfl (cc2 (canon_lstB 7 l) (canon_lstB 7 l)) (r := .bool true) (h' := AH.none) ?_ rfl
 rw [e_skolemref_SameBools, len_lst, bif_npos rfl]
 have := sameB_loop fuel d hl AH.none fuel 0 (by omega) (by omega)
 rw [show ((0 : Nat) : Int) = 0 from rfl] at this
 rw [this]
 simp only [o_bd, k_skolemref_SameBools_0_x0]
end Go.Proofs.YtjagkijfngokaaaGreatDoor
namespace Go.Proofs.YtjagkijfngokaaaGreatDoor
open Go.RowKit
abbrev certC (v w : Bool) (B : List Bool) (i : Int) (A : List (Int × Int)) (O : List Int) (L : List Stp) : List AV := [.bool v, .bool w, .slice (lstB B), .int .i64 i, .slice (lstP A), .slice (lstI O), .slice (lstS L)]
theorem canon_cert (v w : Bool) (B : List Bool) (i : Int) (A : List (Int × Int)) (O : List Int) (L : List Stp) : canonV 8 (.agg (certC v w B i A O L)) = some (.agg (certC v w B i A O L)) := by
 rw [canon_agg, canonM_cons (u := .bool v) rfl (canonM_cons (u := .bool w) rfl (canonM_cons (canon_lstB 6 B) (canonM_cons (u := .int .i64 i) rfl (canonM_cons (canon_lstP 6 A) (canonM_cons (canon_lstI 6 O) (canonM_cons (canon_lstS 6 L) (canonM_nil _)))))))]
 rfl
theorem okCert (v w : Bool) (B : List Bool) (i : Int) (A : List (Int × Int)) (O : List Int) (L : List Stp) : (!false && Nat.beq (List.length (certC v w B i A O L)) 7 && List.all (certC v w B i A O L) AV.isCell) = true := rfl
theorem freeze_lstB {h : AH} (n : Nat) (l : List Bool) : freezeV h (n + 1) (.slice (lstB l)) = some (.slice (lstB l)) := freeze_lst _ _ _ (closedL_map (fun _ => rfl) l)
theorem mm7 {h : AH} {n : Nat} {a b c d e f g a' b' c' d' e' f' g' : AV} (ha : freezeV h n a = some a') (hb : freezeV h n b = some b') (hc : freezeV h n c = some c') (hd : freezeV h n d = some d') (he : freezeV h n e = some e') (hf : freezeV h n f = some f') (hg : freezeV h n g = some g') :
   [a, b, c, d, e, f, g].mapM (freezeV h n) = some [a', b', c', d', e', f', g'] := by
 simp [List.mapM_cons, ha, hb, hc, hd, he, hf, hg]
def boolT (v : Bool) : List UInt8 := if v = true then [116, 114, 117, 101] else [102, 97, 108, 115, 101]
def bitT (b : Bool) : UInt8 := if b = true then 49 else 48
def headCe (v : Bool) : List UInt8 := [115, 32] ++ boolT v
def playCe (w : Bool) (B : List Bool) (T : List UInt8) : List UInt8 := if w = true then [119, 32] ++ B.map bitT else [102, 32] ++ decT (T.length : Int)
def certTx (v w : Bool) (B : List Bool) (T : List UInt8) (L : List Stp) : List UInt8 := headCe v ++ 10 :: (playCe w B T ++ 10 :: ((if w = true then [] else T ++ [10]) ++ stepsT L))
theorem boolT_le (v : Bool) : (boolT v).length ≤ 5 := by cases v <;> decide
theorem bitT_bit : ∀ (B : List Bool), (B.map bitT).all isBit = true
 | [] => rfl
 | b :: B => by rw [List.map_cons, List.all_cons, bitT_bit B]; cases b <;> rfl
theorem bitT_back : ∀ (B : List Bool), (B.map bitT).map oneB = B
 | [] => rfl
 | b :: B => by rw [List.map_cons, List.map_cons, bitT_back B]; cases b <;> rfl
theorem bitsI_back (B : List Bool) : bitsI (B.map bitT) = B := by
 unfold bitsI
 rw [if_pos (bitT_bit B), bitT_back]
theorem boolT_no (v : Bool) : (10 : UInt8) ∉ headCe v := by cases v <;> decide
theorem bitT_no (B : List Bool) : (10 : UInt8) ∉ B.map bitT := by
 intro h
 obtain ⟨b, _, e⟩ := List.mem_map.1 h
 cases b <;> cases e
end Go.Proofs.YtjagkijfngokaaaGreatDoor
namespace Go.Proofs.YtjagkijfngokaaaGreatDoor
open Go.RowKit
def rightI (n : Int) (l : List Int) : Bool := l.all fun x => !(decide (x = 0) || decide (n < x) || decide (x < -n))
theorem right_loop (fuel d : Nat) {l : List Int} {N : Int} (hN : -1000000 < N ∧ N < 1000000) (hl : l.length < 1000000000) (h : AH) : ∀ (n k : Nat), l.length < n + k → k ≤ l.length →
   (l_skolemmake_Right_0 fuel d n [(0, .slice (lstI l)), (1, .int .i64 N), (5, .int .i64 (k : Int))] h).bind (fun p => k_skolemmake_Right_0 fuel d p.1 p.2.1 p.2.2) = some (.bool (rightI N (l.drop k)), h) := by
 intro n
 induction n with
 | zero => intro k h1 h2; omega
 | succ n ih =>
   intro k h1 h2
   rw [l_skolemmake_Right_0_eq, len_lst]
   by_cases hk : k < l.length
   · have hd : l.drop k = l.getD k 0 :: l.drop (k + 1) := by rw [List.drop_eq_getElem_cons hk]; simp [List.getD, hk]
     have had : ∀ h : AH, AH.addr h 1 (lstI l) (k : Int) = some (.fp 0 [.int .i64 (l.getD k 0)]) := fun h => by rw [addr_lstM _ (by omega) (by omega) 0, Int.toNat_natCast]
     rw [bif_pos (by omega), hd]
     simp only [had, o_bd, cell_fp, int_int]
     unfold rightI
     rw [List.all_cons]
     generalize l.getD k 0 = x
     have ih' := ih (k + 1) (by omega) (by omega)
     unfold rightI at ih'
     rw [wrap64 (n := 0 - N) (by omega) (by omega), show 0 - N = -N by omega, sucU (by omega)]
     cases decide (x = 0) with
     | true => exact k_skolemmake_Right_0_r fuel d false h
     | false =>
       cases decide (N < x) with
       | true => exact k_skolemmake_Right_0_r fuel d false h
       | false =>
         cases decide (x < -N) with
         | true => exact k_skolemmake_Right_0_r fuel d false h
         | false => exact ih'
   · have : k = l.length := by omega
     subst this
     rw [bif_neg (by omega), List.drop_length]
     simp only [o_bd, k_skolemmake_Right_0_x0]
     rfl
theorem right_run (fuel d : Nat) {l : List Int} {N : Int} (hN : -1000000 < N ∧ N < 1000000) (hl : l.length < 1000000000) (hf : l.length < fuel) (h : AH) : run fuel (d + 1) F_skolemmake_Right [.slice (lstI l), .int .i64 N] h = some (.bool (rightI N l), h) := by
 refine pure_of rfl rfl (cc2 (canon_lstI 7 l) rfl) (r := .bool (rightI N l)) (h' := AH.none) ?_ rfl
 rw [e_skolemmake_Right]
 have := right_loop fuel d hN hl AH.none fuel 0 (by omega) (by omega)
 rw [List.drop_zero, show ((0 : Nat) : Int) = 0 from rfl] at this
 exact this
def lightS (s : Stp) : Bool := !(decide (20 < s.2.length) || !rightI 4000 s.2)
theorem light_loop (fuel d : Nat) {A : Nat} {L : List Stp} (hL : L.length ≤ 30) (hf : 40 < fuel) {h : AH} (hc : h.cell (.mk ⟨A, 0, 0 + 6⟩ 7) = some (.slice (lstS L))) : ∀ (n k : Nat), L.length < n + k → k ≤ L.length →
   (l_skolemlaw26_light_0 fuel (d + 1) n [(1, .ptr (.mk ⟨A, 0, 0⟩ 7)), (3, .int .i64 (k : Int))] h).bind (fun p => k_skolemlaw26_light_0 fuel (d + 1) p.1 p.2.1 p.2.2) = some (.bool ((L.drop k).all lightS), h) := by
 intro n
 induction n with
 | zero => intro k h1 h2; omega
 | succ n ih =>
   intro k h1 h2
   rw [l_skolemlaw26_light_0_eq]
   simp only [field_mk, o_bd, hc, slice_slice]
   rw [len_lst]
   by_cases hk : k < L.length
   · have hd : L.drop k = L.getD k (false, []) :: L.drop (k + 1) := by rw [List.drop_eq_getElem_cons hk]; simp [List.getD, hk]
     have had : AH.addr h 2 (lstS L) (k : Int) = some (.fp 0 (stepC (L.getD k (false, [])))) := by rw [addr_lstN (sz := 2) (f := stepC) stepC_len (l := L) (j := (k : Int)) (by omega) (by omega) (false, []), Int.toNat_natCast]
     rw [bif_pos (by omega), hd, List.all_cons, had]
     generalize L.getD k (false, []) = s
     have hfld : Pt.field 1 (.fp 0 (stepC s)) = some (.fp 0 [.slice (lstI s.2)]) := rfl
     simp only [o_bd, hfld, cell_fp, slice_slice]
     rw [len_lst]
     unfold lightS
     by_cases h20 : 20 < s.2.length
     · rw [decide_eq_true (show (20 : Int) < (s.2.length : Int) by omega), decide_eq_true h20]
       exact k_skolemlaw26_light_0_r fuel (d + 1) false h
     · rw [decide_eq_false (show ¬ (20 : Int) < (s.2.length : Int) by omega), decide_eq_false h20]
       simp only [beq_self_eq_true, cond_true]
       rw [right_run fuel d (by omega) (by omega) (by omega)]
       simp only [o_bd, bool_bool, Bool.false_or, Bool.not_not]
       cases rightI 4000 s.2 with
       | false => exact k_skolemlaw26_light_0_r fuel (d + 1) false h
       | true =>
         simp only [Bool.not_true, cond_false, Bool.true_and]
         rw [sucU (by omega)]
         exact ih (k + 1) (by omega) (by omega)
   · have : k = L.length := by omega
     subst this
     rw [bif_neg (by omega), List.drop_length]
     exact k_skolemlaw26_light_0_x0 fuel (d + 1) .bot h
def lightI (B : List Bool) (i : Int) (P : List (Int × Int)) (O : List Int) (L : List Stp) : Bool :=
 !(decide (40 < B.length) || decide (60 < P.length) || decide (30 < O.length) || decide (30 < L.length) || decide (60 < i)) && L.all lightS
theorem light_run (fuel d : Nat) (hf : 40 < fuel) (v w : Bool) (B : List Bool) (i : Int) (P : List (Int × Int)) (O : List Int) (L : List Stp) (h : AH) :
   run fuel (d + 2) F_skolemlaw26_light [.agg (certC v w B i P O L)] h = some (.bool (lightI B i P O L), h) := by
 refine pure_ex rfl rfl (cc1 (canon_cert v w B i P O L)) (r := .bool (lightI B i P O L)) ?_ (fun _ => rfl)
 rw [e_skolemlaw26_light, show List.all (certC v w B i P O L) AV.isCell = true from rfl, cond_true, show (certC v w B i P O L).length = 7 from rfl]
 have s1 := (Sep0.start AH.none).push 1 7 (cs := certC v w B i P O L) rfl
 generalize AH.none.next = A at s1
 generalize AH.none.push 1 (certC v w B i P O L) = H at s1
 have c2 : H.cell (.mk ⟨A, 0, 0 + 2⟩ 7) = some (.slice (lstB B)) := s1.part (i := 0) rfl (by omega) rfl
 have c3 : H.cell (.mk ⟨A, 0, 0 + 3 + 0⟩ 7) = some (.int .i64 i) := s1.part (i := 0) rfl (by omega) rfl
 have c4 : H.cell (.mk ⟨A, 0, 0 + 3 + 1⟩ 7) = some (.slice (lstP P)) := s1.part (i := 0) rfl (by omega) rfl
 have c5 : H.cell (.mk ⟨A, 0, 0 + 3 + 2⟩ 7) = some (.slice (lstI O)) := s1.part (i := 0) rfl (by omega) rfl
 have c6 : H.cell (.mk ⟨A, 0, 0 + 6⟩ 7) = some (.slice (lstS L)) := s1.part (i := 0) rfl (by omega) rfl
 simp only [field_mk, o_bd, c2, c3, c4, c5, c6, slice_slice, int_int]
 have q (a b : Nat) : decide (((a : Nat) : Int) < ((b : Nat) : Int)) = decide (a < b) := decide_eq_decide.2 (by omega)
 have q1 : decide ((40 : Int) < ((B.length : Nat) : Int)) = decide (40 < B.length) := q 40 _
 have q2 : decide ((60 : Int) < ((P.length : Nat) : Int)) = decide (60 < P.length) := q 60 _
 have q3 : decide ((30 : Int) < ((O.length : Nat) : Int)) = decide (30 < O.length) := q 30 _
 have q4 : decide ((30 : Int) < ((L.length : Nat) : Int)) = decide (30 < L.length) := q 30 _
 unfold lightI
 rw [len_lst, len_lst, q1, q2]
 cases decide (40 < B.length) with
 | true => exact ⟨_, rfl⟩
 | false =>
   simp only [beq_self_eq_true, cond_true, o_bd, bool_bool]
   cases decide (60 < P.length) with
   | true => exact ⟨_, rfl⟩
   | false =>
     simp only [beq_self_eq_true, cond_true, o_bd, bool_bool, c5, slice_slice]
     rw [len_lst, q3]
     cases decide (30 < O.length) with
     | true => exact ⟨_, rfl⟩
     | false =>
       simp only [beq_self_eq_true, cond_true, o_bd, bool_bool, c6, slice_slice]
       rw [len_lst, q4]
       by_cases h4 : 30 < L.length
       · rw [decide_eq_true h4]
         exact ⟨_, rfl⟩
       · rw [decide_eq_false h4]
         simp only [beq_self_eq_true, cond_true, o_bd, bool_bool, c3, int_int]
         cases decide (60 < i) with
         | true => exact ⟨_, rfl⟩
         | false =>
           have := light_loop fuel d (A := A) (L := L) (by omega) hf c6 fuel 0 (by omega) (by omega)
           rw [List.drop_zero, show ((0 : Nat) : Int) = 0 from rfl] at this
           exact ⟨_, this⟩
end Go.Proofs.YtjagkijfngokaaaGreatDoor
namespace Go.Proofs.YtjagkijfngokaaaGreatDoor
open Go.RowKit
def andsR (i : Int) : Int → List (Int × Int) → Bool
 | _, [] => true
 | k, p :: l => !((decide (p.1 < 0) || decide (p.2 < 0)) || decide (2 * (i + k + 1) ≤ p.1) || decide (p.1 < p.2)) && andsR i (k + 1) l
def outsR (m : Int) (O : List Int) : Bool := O.all fun x => !(decide (x < 0) || decide (2 * m + 1 < x))
def ccB (i : Int) (A : List (Int × Int)) (O : List Int) : Int :=
 if (decide (i < 0) || decide (8000 < i) || decide (8000 < i + A.length)) = true then 102 else
 if andsR i 0 A = true then (if outsR (i + A.length) O = true then 0 else 104) else 104
theorem andsR_ok {i : Int} : ∀ {A : List (Int × Int)} {k : Int}, andsR i k A = true → AndsOk i k A
 | [], _, _ => trivial
 | p :: A, k, h => by
   simp only [andsR, Bool.and_eq_true, Bool.not_eq_true', Bool.or_eq_false_iff, decide_eq_false_iff_not] at h
   obtain ⟨⟨⟨⟨h1, h2⟩, h3⟩, h4⟩, h5⟩ := h
   exact ⟨⟨by omega, by omega, by omega⟩, andsR_ok h5⟩
theorem ccB_ok {i : Int} {A : List (Int × Int)} {O : List Int} (h : ccB i A O = 0) (hO : O.length ≤ 8000) : ∃ I : Nat, i = (I : Int) ∧ CiR I A O := by
 unfold ccB at h
 split at h
 · cases h
 · rename_i h1
   simp only [Bool.or_eq_true, decide_eq_true_eq, not_or] at h1
   obtain ⟨⟨h1, h2⟩, h3⟩ := h1
   split at h
   · rename_i h4
     split at h
     · rename_i h5
       obtain ⟨I, rfl⟩ := Int.eq_ofNat_of_zero_le (show 0 ≤ i by omega)
       refine ⟨I, rfl, by omega, hO, andsR_ok h4, fun x hx => ?_⟩
       have := List.all_eq_true.1 h5 x hx
       simp only [Bool.not_eq_true', Bool.or_eq_false_iff, decide_eq_false_iff_not] at this
       omega
     · cases h
   · cases h
section
variable (fuel d : Nat) {A : Nat} {i : Int} {P : List (Int × Int)} {O : List Int} (hi : 0 ≤ i ∧ i ≤ 8000) (hP : P.length ≤ 8000) {h : AH}
 (c0 : h.cell (.mk ⟨A, 0, 0 + 0⟩ 3) = some (.int .i64 i)) (c1 : h.cell (.mk ⟨A, 0, 0 + 1⟩ 3) = some (.slice (lstP P))) (c2 : h.cell (.mk ⟨A, 0, 0 + 2⟩ 3) = some (.slice (lstI O)))
include hi hP c0 c1 c2
theorem cc_outs (hO : O.length < 1000000000) : ∀ (n k : Nat), O.length < n + k → k ≤ O.length →
   (l_skolemref8_Check_1 fuel d n [(1, .ptr (.mk ⟨A, 0, 0⟩ 3)), (6, .int .i64 (k : Int))] h).bind (fun p => k_skolemref8_Check_1 fuel d p.1 p.2.1 p.2.2) = some (.int .i64 (if outsR (i + P.length) (O.drop k) = true then 0 else 104), h) := by
 intro n
 induction n with
 | zero => intro k h1 h2; omega
 | succ n ih =>
   intro k h1 h2
   rw [l_skolemref8_Check_1_eq]
   simp only [field_mk, o_bd, c0, c1, c2, slice_slice, int_int]
   rw [len_lst, len_lst]
   by_cases hk : k < O.length
   · have hd : O.drop k = O.getD k 0 :: O.drop (k + 1) := by rw [List.drop_eq_getElem_cons hk]; simp [List.getD, hk]
     have had : ∀ h : AH, AH.addr h 1 (lstI O) (k : Int) = some (.fp 0 [.int .i64 (O.getD k 0)]) := fun h => by rw [addr_lstM _ (by omega) (by omega) 0, Int.toNat_natCast]
     rw [bif_pos (by omega), hd]
     simp only [had, o_bd, cell_fp, int_int]
     unfold outsR
     rw [List.all_cons, wrap64 (n := i + (P.length : Int)) (by omega) (by omega), wrap64 (n := 2 * (i + (P.length : Int))) (by omega) (by omega), wrap64 (n := 2 * (i + (P.length : Int)) + 1) (by omega) (by omega)]
     generalize O.getD k 0 = x
     have ih' := ih (k + 1) (by omega) (by omega)
     unfold outsR at ih'
     cases decide (x < 0) with
     | true =>
       simp only [cond_true, o_bd, k_skolemref8_Check_2_n, k_skolemref8_Check_1_r]
       rfl
     | false =>
       simp only [cond_false, o_bd, k_skolemref8_Check_2_n]
       cases decide (2 * (i + (P.length : Int)) + 1 < x) with
       | true =>
         simp only [cond_true, o_bd, k_skolemref8_Check_1_r]
         rfl
       | false =>
         rw [sucU (by omega)]
         exact ih'
   · have : k = O.length := by omega
     subst this
     rw [bif_neg (by omega), List.drop_length]
     simp only [o_bd, k_skolemref8_Check_1_x2]
     rfl
theorem cc_ands (hO : O.length < 1000000000) (hOf : O.length < fuel) : ∀ (n k : Nat), P.length < n + k → k ≤ P.length →
   (l_skolemref8_Check_0 fuel d n [(1, .ptr (.mk ⟨A, 0, 0⟩ 3)), (3, .int .i64 (k : Int))] h).bind (fun p => k_skolemref8_Check_0 fuel d p.1 p.2.1 p.2.2) = some (.int .i64 (if andsR i k (P.drop k) = true then (if outsR (i + P.length) O = true then 0 else 104) else 104), h) := by
 intro n
 induction n with
 | zero => intro k h1 h2; omega
 | succ n ih =>
   intro k h1 h2
   rw [l_skolemref8_Check_0_eq]
   simp only [field_mk, o_bd, c0, c1, slice_slice, int_int]
   rw [len_lst]
   by_cases hk : k < P.length
   · have hd : P.drop k = P.getD k (0, 0) :: P.drop (k + 1) := by rw [List.drop_eq_getElem_cons hk]; simp [List.getD, hk]
     have had : AH.addr h 2 (lstP P) (k : Int) = some (.fp 0 [.int .i64 (P.getD k (0, 0)).1, .int .i64 (P.getD k (0, 0)).2]) := by
       have := addr_lstN (h := h) (sz := 2) (f := fun p : Int × Int => [AV.int .i64 p.1, AV.int .i64 p.2]) (fun _ => rfl) (l := P) (j := (k : Int)) (by omega) (by omega) (0, 0) false
       rw [Int.toNat_natCast] at this
       exact this
     rw [bif_pos (by omega), had, hd, andsR]
     generalize P.getD k (0, 0) = p
     have f0 : Pt.elem 1 2 (0 : Int) (.fp 0 [.int .i64 p.1, .int .i64 p.2]) = some (.fp 0 [.int .i64 p.1, .int .i64 p.2]) := rfl
     have f1 : Pt.elem 1 2 (1 : Int) (.fp 0 [.int .i64 p.1, .int .i64 p.2]) = some (.fp 0 [.int .i64 p.2]) := rfl
     simp only [o_bd, f0, f1, cell_fp, int_int]
     rw [wrap64 (n := i + (k : Int)) (by omega) (by omega), wrap64 (n := i + (k : Int) + 1) (by omega) (by omega), wrap64 (n := 2 * (i + (k : Int) + 1)) (by omega) (by omega)]
     have ih' := ih (k + 1) (by omega) (by omega)
     rw [show ((k + 1 : Nat) : Int) = (k : Int) + 1 by omega] at ih'
     rw [sucU (by omega), show ((k + 1 : Nat) : Int) = (k : Int) + 1 by omega]
     cases decide (p.1 < 0) with
     | true => exact k_skolemref8_Check_0_r fuel d _ 104 h
     | false =>
       cases decide (p.2 < 0) with
       | true => exact k_skolemref8_Check_0_r fuel d _ 104 h
       | false =>
         cases decide (2 * (i + (k : Int) + 1) ≤ p.1) with
         | true => exact k_skolemref8_Check_0_r fuel d _ 104 h
         | false =>
           cases decide (p.1 < p.2) with
           | true => exact k_skolemref8_Check_0_r fuel d _ 104 h
           | false => exact ih'
   · have : k = P.length := by omega
     subst this
     rw [bif_neg (by omega), List.drop_length]
     simp only [o_bd, k_skolemref8_Check_0_x0]
     have := cc_outs fuel d hi hP c0 c1 c2 hO fuel 0 (by omega) (by omega)
     rw [List.drop_zero, show ((0 : Nat) : Int) = 0 from rfl] at this
     exact this
end
theorem cc_run (fuel d : Nat) {i : Int} {P : List (Int × Int)} {O : List Int} (hi : -9223372036854775808 ≤ i ∧ i ≤ 1000000) (hP : P.length < 1000000000) (hO : O.length < 1000000000) (hf : 10000 < fuel) (hOf : O.length < fuel) (h : AH) :
   run fuel (d + 1) F_skolemref8_Check [.agg (circC i P O)] h = some (.int .i64 (ccB i P O), h) := by
 refine pure_ex rfl rfl (cc1 (canon_circ i P O)) (r := .int .i64 (ccB i P O)) ?_ (fun _ => rfl)
 rw [e_skolemref8_Check, show List.all (circC i P O) AV.isCell = true from rfl, cond_true, show (circC i P O).length = 3 from rfl]
 have s1 := (Sep0.start AH.none).push 1 3 (cs := circC i P O) rfl
 generalize AH.none.next = A at s1
 generalize AH.none.push 1 (circC i P O) = H at s1
 have c0 : H.cell (.mk ⟨A, 0, 0 + 0⟩ 3) = some (.int .i64 i) := s1.part (i := 0) rfl (by omega) rfl
 have c1 : H.cell (.mk ⟨A, 0, 0 + 1⟩ 3) = some (.slice (lstP P)) := s1.part (i := 0) rfl (by omega) rfl
 have c2 : H.cell (.mk ⟨A, 0, 0 + 2⟩ 3) = some (.slice (lstI O)) := s1.part (i := 0) rfl (by omega) rfl
 unfold ccB
 simp only [field_mk, o_bd, c0, c1, slice_slice, int_int]
 by_cases h1 : i < 0
 · rw [decide_eq_true h1]
   exact ⟨_, rfl⟩
 · rw [decide_eq_false h1]
   simp only [beq_self_eq_true, cond_true, o_bd, bool_bool]
   by_cases h2 : 8000 < i
   · rw [decide_eq_true h2]
     exact ⟨_, rfl⟩
   · rw [decide_eq_false h2]
     simp only [beq_self_eq_true, cond_true, o_bd, bool_bool, c0, c1, slice_slice, int_int]
     rw [len_lst, wrap64 (n := i + (P.length : Int)) (by omega) (by omega)]
     by_cases h3 : 8000 < i + (P.length : Int)
     · rw [decide_eq_true h3]
       exact ⟨_, rfl⟩
     · rw [decide_eq_false h3]
       simp only [cond_false]
       have := cc_ands fuel d (A := A) (O := O) (by omega) (by omega) c0 c1 c2 hO hOf fuel 0 (by omega) (by omega)
       rw [List.drop_zero, show ((0 : Nat) : Int) = 0 from rfl] at this
       exact ⟨_, this⟩
end Go.Proofs.YtjagkijfngokaaaGreatDoor
namespace Go.Proofs.YtjagkijfngokaaaGreatDoor
open Go.RowKit
theorem ofInt64 (m : Nat) : (BitVec.ofInt (IntKind.bits .i64) (m : Int)).toNat = m % 2 ^ 64 := by
 rw [BitVec.toNat_ofInt]
 show ((m : Int) % ((2 ^ 64 : Nat) : Int)).toNat = _
 omega
theorem ofInt8 (m : Nat) : (BitVec.ofInt (IntKind.bits .u8) (m : Int)).toNat = m % 2 ^ 8 := by
 rw [BitVec.toNat_ofInt]
 show ((m : Int) % ((2 ^ 8 : Nat) : Int)).toNat = _
 omega
theorem and127 (m : Nat) (hm : m < 9223372036854775808) : bitsOp .and .i64 (m : Int) 127 = ((m % 128 : Nat) : Int) := by
 unfold bitsOp
 have e1 : (BitVec.ofInt (IntKind.bits .i64) (m : Int) &&& BitVec.ofInt (IntKind.bits .i64) 127).toNat = m % 128 := by
   rw [BitVec.toNat_and, ofInt64, show (BitVec.ofInt (IntKind.bits .i64) (127 : Int)).toNat = 2 ^ 7 - 1 from rfl, Nat.and_two_pow_sub_one_eq_mod]
   omega
 simp only [e1]
 rw [wrap64 (by omega) (by omega)]
theorem and127u (m : Nat) (hm : m < 256) : bitsOp .and .u8 (m : Int) 127 = ((m % 128 : Nat) : Int) := by
 unfold bitsOp
 have e1 : (BitVec.ofInt (IntKind.bits .u8) (m : Int) &&& BitVec.ofInt (IntKind.bits .u8) 127).toNat = m % 128 := by
   rw [BitVec.toNat_and, ofInt8, show (BitVec.ofInt (IntKind.bits .u8) (127 : Int)).toNat = 2 ^ 7 - 1 from rfl, Nat.and_two_pow_sub_one_eq_mod]
   omega
 simp only [e1]
 show ((m % 128 : Nat) : Int) % 256 = _
 omega
theorem or_add {a b k : Nat} (ha : a < 2 ^ k) : a ||| (b * 2 ^ k) = a + b * 2 ^ k := by
 rw [Nat.mul_comm b, Nat.add_comm, Nat.two_pow_add_eq_or_of_lt ha, Nat.or_comm]
theorem or128 (m : Nat) (hm : m < 128) : bitsOp .or .u8 (m : Int) 128 = ((m + 128 : Nat) : Int) := by
 unfold bitsOp
 have e1 : (BitVec.ofInt (IntKind.bits .u8) (m : Int) ||| BitVec.ofInt (IntKind.bits .u8) 128).toNat = m + 128 := by
   rw [BitVec.toNat_or, ofInt8, show (BitVec.ofInt (IntKind.bits .u8) (128 : Int)).toNat = 1 * 2 ^ 7 from rfl, Nat.mod_eq_of_lt (by omega), or_add (by omega)]
 simp only [e1]
 show ((m + 128 : Nat) : Int) % 256 = _
 omega
theorem or128l (m : Nat) (hm : m < 128) : bitsOp .or .i64 (m : Int) 128 = ((m + 128 : Nat) : Int) := by
 unfold bitsOp
 have e1 : (BitVec.ofInt (IntKind.bits .i64) (m : Int) ||| BitVec.ofInt (IntKind.bits .i64) 128).toNat = m + 128 := by
   rw [BitVec.toNat_or, ofInt64, show (BitVec.ofInt (IntKind.bits .i64) (128 : Int)).toNat = 1 * 2 ^ 7 from rfl, Nat.mod_eq_of_lt (by omega), or_add (by omega)]
 simp only [e1]
 rw [wrap64 (by omega) (by omega)]
theorem orsh {a b k : Nat} (ha : a < 2 ^ k) (hb : a + b * 2 ^ k < 9223372036854775808) : bitsOp .or .i64 (a : Int) ((b * 2 ^ k : Nat) : Int) = ((a + b * 2 ^ k : Nat) : Int) := by
 unfold bitsOp
 have e1 : (BitVec.ofInt (IntKind.bits .i64) (a : Int) ||| BitVec.ofInt (IntKind.bits .i64) ((b * 2 ^ k : Nat) : Int)).toNat = a + b * 2 ^ k := by
   rw [BitVec.toNat_or, ofInt64, ofInt64, Nat.mod_eq_of_lt (by omega), Nat.mod_eq_of_lt (by omega), or_add ha]
 simp only [e1]
 rw [wrap64 (by omega) (by omega)]
theorem shr7 (m : Nat) : Int.fdiv (m : Int) (2 ^ min (Int.toNat (7 : Int)) (IntKind.bits .i64)) = ((m / 128 : Nat) : Int) := by
 rw [show (2 : Int) ^ min (Int.toNat (7 : Int)) (IntKind.bits .i64) = 128 from rfl, Int.fdiv_eq_ediv_of_nonneg _ (by omega)]
 omega
theorem wrapU8n (m : Nat) (hm : m < 256) : IntKind.wrap .u8 (m : Int) = (m : Int) := by
 show ((m : Nat) : Int) % 256 = _
 omega
theorem ofNat_u8 {m : Nat} (hm : m < 256) : ((UInt8.ofNat m).toNat : Int) = (m : Int) := by rw [UInt8.toNat_ofNat']; omega
section
variable (fuel d : Nat) {h0 : AH} {R : List Chunk}
theorem app1 {h : AH} {s : Sl} {t : List UInt8} (hs : Sep0 h0 h (.grown 1 s (bytesC t) :: R)) (ht : t.length < 1000000000) {m : Nat} (hm : m < 256) :
   ∃ s' h', AH.append h false 1 1 s 1 [.int .u8 (m : Int)] = some (s', h') ∧ Sep0 h0 h' (.grown 1 s' (bytesC (t ++ [UInt8.ofNat m])) :: R) := by
 have hl := hs.len (i := 0) rfl
 simp only [List.length_map, Nat.mul_one] at hl
 obtain ⟨s', h', e1, s1, _⟩ := hs.grow (i := 0) (bytes := 1) (m := 1) (vs := [.int .u8 (m : Int)]) rfl rfl (by omega) (by omega)
 refine ⟨s', h', e1, ?_⟩
 rw [set0] at s1
 rw [show bytesC (t ++ [UInt8.ofNat m]) = bytesC t ++ [AV.int .u8 (m : Int)] by rw [bytesC_app, show bytesC [UInt8.ofNat m] = [AV.int .u8 ((UInt8.ofNat m).toNat : Int)] from rfl, ofNat_u8 hm]]
 exact s1
theorem gnum_loop : ∀ (f n x : Nat) (s : Sl) (t : List UInt8) (h : AH), f < n → x < 128 ^ f → 0 < f → f ≤ 9 → t.length + f < 900000010 → Sep0 h0 h (.grown 1 s (bytesC t) :: R) →
   ∃ s' h', (l_aig_number_0 fuel d n [(0, .slice s), (1, .int .i64 (x : Int))] h).bind (fun p => k_aig_number_0 fuel d p.1 p.2.1 p.2.2) = some (.slice s', h') ∧ Sep0 h0 h' (.grown 1 s' (bytesC (t ++ smallB f x)) :: R) := by
 intro f
 induction f with
 | zero => intro n x s t h _ _ h3; omega
 | succ f ih =>
   intro n x s t h h1 h2 h3 h4 ht hs
   obtain ⟨n, rfl⟩ : ∃ q, n = q + 1 := ⟨n - 1, by omega⟩
   have hx9 : x < 9223372036854775808 := Nat.lt_of_lt_of_le h2 (Nat.le_trans (Nat.pow_le_pow_right (by omega) (show f + 1 ≤ 9 by omega)) (by omega))
   rw [l_aig_number_0_eq]
   unfold smallB
   by_cases hx : x < 128
   · rw [bif_neg (by omega), if_pos hx, o_bd, k_aig_number_0_x0, wrapU8n x (by omega)]
     obtain ⟨s', h', e1, s1⟩ := app1 hs (by omega) (m := x) (by omega)
     rw [e1]
     exact ⟨s', h', rfl, s1⟩
   · rw [bif_pos (by omega), if_neg hx, and127 x hx9, wrapU8n _ (by omega), or128 _ (by omega), shr7]
     obtain ⟨s', h', e1, s1⟩ := app1 hs (by omega) (m := x % 128 + 128) (by omega)
     rw [e1]
     simp only [o_bd]
     rw [Nat.pow_succ] at h2
     have f0 : 0 < f := by
       rcases Nat.eq_zero_or_pos f with h | h
       · subst h; simp at h2; omega
       · exact h
     obtain ⟨s2, h2', e2, s2'⟩ := ih n (x / 128) s' (t ++ [UInt8.ofNat (x % 128 + 128)]) h' (by omega) (by omega) f0 (by omega) (by simp; omega) s1
     refine ⟨s2, h2', e2, ?_⟩
     rw [List.append_assoc] at s2'
     exact s2'
theorem gnum_loop2 : ∀ (f n x : Nat) (s : Sl) (t : List UInt8) (h : AH), f < n → x < 128 ^ f → 0 < f → f ≤ 9 → t.length + f < 900000010 → Sep0 h0 h (.grown 1 s (bytesC t) :: R) →
   ∃ s' h', (l_skolemref8_small_0 fuel d n [(0, .slice s), (1, .int .i64 (x : Int))] h).bind (fun p => k_skolemref8_small_0 fuel d p.1 p.2.1 p.2.2) = some (.slice s', h') ∧ Sep0 h0 h' (.grown 1 s' (bytesC (t ++ smallB f x)) :: R) := by
 intro f
 induction f with
 | zero => intro n x s t h _ _ h3; omega
 | succ f ih =>
   intro n x s t h h1 h2 h3 h4 ht hs
   obtain ⟨n, rfl⟩ : ∃ q, n = q + 1 := ⟨n - 1, by omega⟩
   have hx9 : x < 9223372036854775808 := Nat.lt_of_lt_of_le h2 (Nat.le_trans (Nat.pow_le_pow_right (by omega) (show f + 1 ≤ 9 by omega)) (by omega))
   rw [l_skolemref8_small_0_eq]
   unfold smallB
   by_cases hx : x < 128
   · rw [bif_neg (by omega), if_pos hx, o_bd, k_skolemref8_small_0_x0, wrapU8n x (by omega)]
     obtain ⟨s', h', e1, s1⟩ := app1 hs (by omega) (m := x) (by omega)
     rw [e1]
     exact ⟨s', h', rfl, s1⟩
   · rw [bif_pos (by omega), if_neg hx, and127 x hx9, or128l _ (by omega), wrapU8n _ (by omega), shr7]
     obtain ⟨s', h', e1, s1⟩ := app1 hs (by omega) (m := x % 128 + 128) (by omega)
     rw [e1]
     simp only [o_bd]
     rw [Nat.pow_succ] at h2
     have f0 : 0 < f := by
       rcases Nat.eq_zero_or_pos f with h | h
       · subst h; simp at h2; omega
       · exact h
     obtain ⟨s2, h2', e2, s2'⟩ := ih n (x / 128) s' (t ++ [UInt8.ofNat (x % 128 + 128)]) h' (by omega) (by omega) f0 (by omega) (by simp; omega) s1
     refine ⟨s2, h2', e2, ?_⟩
     rw [List.append_assoc] at s2'
     exact s2'
theorem smallB_up : ∀ (f g n : Nat), n < 128 ^ f → n < 128 ^ g → 0 < f → 0 < g → smallB f n = smallB g n
 | 0, g, n, _, _, h, _ => by omega
 | f + 1, 0, n, _, _, _, h => by omega
 | f + 1, g + 1, n, h1, h2, _, _ => by
   unfold smallB
   by_cases hn : n < 128
   · rw [if_pos hn, if_pos hn]
   · rw [if_neg hn, if_neg hn]
     rw [Nat.pow_succ] at h1 h2
     have f0 : 0 < f := by
       rcases Nat.eq_zero_or_pos f with h | h
       · subst h; simp at h1; omega
       · exact h
     have g0 : 0 < g := by
       rcases Nat.eq_zero_or_pos g with h | h
       · subst h; simp at h2; omega
       · exact h
     rw [smallB_up f g (n / 128) (by omega) (by omega) f0 g0]
theorem gnumber_run (hf : 30 < fuel) {x : Nat} (hx : x < 34359738368) {s : Sl} {t : List UInt8} {h : AH} (ht : t.length < 900000000) (hs : Sep0 h0 h (.grown 1 s (bytesC t) :: R)) :
   ∃ s' h', run fuel (d + 1) F_aig_number [.slice s, .int .i64 (x : Int)] h = some (.slice s', h') ∧ Sep0 h0 h' (.grown 1 s' (bytesC (t ++ smB x)) :: R) := by
 obtain ⟨s', h', e1, s1⟩ := gnum_loop fuel d 5 fuel x s t h (by omega) (by omega) (by omega) (by omega) (by omega) hs
 rw [smallB_up 5 10 x (by omega) (by omega) (by omega) (by omega)] at s1
 exact ⟨s', h', by rw [e_aig_number]; exact e1, s1⟩
theorem gsmall_run (hf : 30 < fuel) {x : Nat} (hx : x < 34359738368) {s : Sl} {t : List UInt8} {h : AH} (ht : t.length < 900000000) (hs : Sep0 h0 h (.grown 1 s (bytesC t) :: R)) :
   ∃ s' h', run fuel (d + 1) F_skolemref8_small [.slice s, .int .i64 (x : Int)] h = some (.slice s', h') ∧ Sep0 h0 h' (.grown 1 s' (bytesC (t ++ smB x)) :: R) := by
 obtain ⟨s', h', e1, s1⟩ := gnum_loop2 fuel d 5 fuel x s t h (by omega) (by omega) (by omega) (by omega) (by omega) hs
 rw [smallB_up 5 10 x (by omega) (by omega) (by omega) (by omega)] at s1
 exact ⟨s', h', by rw [e_skolemref8_small]; exact e1, s1⟩
end
end Go.Proofs.YtjagkijfngokaaaGreatDoor
namespace Go.Proofs.YtjagkijfngokaaaGreatDoor
open Go.RowKit
section
variable (fuel d : Nat) (hf : 30 < fuel) {h0 : AH} {C b : Nat} {R : List Chunk}
include hf
end
end Go.Proofs.YtjagkijfngokaaaGreatDoor
namespace Go.Proofs.YtjagkijfngokaaaGreatDoor
open Go.RowKit
abbrev rdCh (r : Nat) (W : List Wd) (k : Nat) (e : Int) : Chunk := .own 1 r 0 3 [.slice (lstW W), .int .i64 (k : Int), .int .i64 e]
abbrev rdP (r : Nat) : Pt := .mk ⟨r, 0, 0⟩ 3
theorem waddr (h : AH) {W : List Wd} {k : Nat} (hk : k < W.length) : h.addr 3 (lstW W) (k : Int) = some (.fp 0 (wdC (W.getD k ⟨[], 0, false⟩))) := by
 have := addr_lstN (h := h) (sz := 3) (f := wdC) wdC_len (l := W) (j := (k : Int)) (by omega) (by omega) ⟨[], 0, false⟩ false
 rw [Int.toNat_natCast] at this
 exact this
theorem set_self {α : Type} {L : List α} {j : Nat} {c : α} (hj : L[j]? = some c) : L.set j c = L := by
 obtain ⟨h, rfl⟩ := List.getElem?_eq_some_iff.1 hj
 exact List.set_getElem_self h
section
variable (fuel d : Nat) {h0 h : AH} {L : List Chunk} {j r k : Nat} {W : List Wd} {e : Int}
end
end Go.Proofs.YtjagkijfngokaaaGreatDoor
namespace Go.Proofs.YtjagkijfngokaaaGreatDoor
open Go.RowKit
theorem get_set {α : Type} {L : List α} {j : Nat} {c : α} (hj : L[j]? = some c) (c' : α) : (L.set j c')[j]? = some c' := by
 rw [List.getElem?_set_self (List.getElem?_eq_some_iff.1 hj).1]
theorem ret_put {h0 h : AH} {L : List Chunk} {P n : Nat} {cs : List AV} (hs : Sep0 h0 h (.own 1 P 0 n cs :: L)) (hc : cs.length = n) {vs : List AV} (hv : vs.length = n) :
   ∃ h', h.storeAt vs (.mk ⟨P, 0, 0⟩ n) = some h' ∧ h'.cellsAt n (.mk ⟨P, 0, 0⟩ n) = some vs ∧ Sep0 h0 h' (.own 1 P 0 n vs :: L) := by
 obtain ⟨h', e1, s1⟩ := hs.putAll (i := 0) rfl hc hv
 exact ⟨h', e1, s1.getAll (i := 0) rfl hv, s1⟩
theorem Sep0.tail {h0 h : AH} {L : List Chunk} {c : Chunk} (hs : Sep0 h0 h (c :: L)) : Sep0 h0 h L := hs.sub (List.sublist_cons_self c L)
abbrev pairC (x : Int × Int) : List AV := [.int .i64 x.1, .int .i64 x.2]
abbrev zeroC : List AV := [.int .i64 0, .slice .nil, .slice .nil]
section
variable (fuel d : Nat) {h0 : AH} {j r : Nat} {W : List Wd} {e : Int}
abbrev bodyL (i : Int) (Y Z N : Nat) (nn : List Int) (sO sA : Sl) (O : List Int) (A : List (Int × Int)) (L : List Chunk) : List Chunk :=
 .grown 1 sO (intsC O) :: .grown 2 sA (pairsC A) :: .own 1 Y 0 3 [.int .i64 i, .slice sA, .slice sO] :: .own 1 Z 0 3 zeroC :: .own 1 N 0 6 (intsC nn) :: L
abbrev nP (n : Nat) : Pt := .mk ⟨n, 0, 0⟩ 6
variable {Y Z N : Nat} {nn : List Int} {i : Int}
end
end Go.Proofs.YtjagkijfngokaaaGreatDoor
namespace Go.Proofs.YtjagkijfngokaaaGreatDoor
open Go.RowKit
section
variable (fuel d : Nat) {h0 : AH} {j r : Nat} {W : List Wd} {e : Int} {Y Z N : Nat} {nn : List Int} {i : Int}
end
end Go.Proofs.YtjagkijfngokaaaGreatDoor
namespace Go.Proofs.YtjagkijfngokaaaGreatDoor
open Go.RowKit
section
variable (fuel d : Nat) {h0 : AH} {j r : Nat} {W : List Wd} {e : Int}
end
end Go.Proofs.YtjagkijfngokaaaGreatDoor
namespace Go.Proofs.YtjagkijfngokaaaGreatDoor
open Go.RowKit
theorem canon_aggI (nn : List Int) : canonV 8 (.agg (intsC nn)) = some (.agg (intsC nn)) := by
 rw [canon_agg]
 have : ∀ l : List Int, (intsC l).mapM (canonV 7) = some (intsC l) := by
   intro l
   induction l with
   | nil => rfl
   | cons x l ih => exact canonM_cons (u := .int .i64 x) rfl ih
 rw [this]; rfl
def limA : Option (Nat × Int) → AV
 | none => .tup [.int .i64 0, .nilif]
 | some (k, c) => .tup [.int .i64 (k : Int), errC c]
theorem limT_code {m i l o a c : Int} {k : Nat} (h : limT m i l o a = some (k, c)) : (c = 101 ∨ c = 102) ∧ k < 6 ∧ 0 < k := by
 unfold limT at h
 repeat' split at h
 all_goals (first | (cases h; exact ⟨.inl rfl, by omega, by omega⟩) | (cases h; exact ⟨.inr rfl, by omega, by omega⟩) | cases h)
theorem limits_run (fuel d : Nat) {x m i l o a : Int} (hi : 0 ≤ i ∧ i ≤ 999999999) (ha : 0 ≤ a ∧ a ≤ 999999999) (h : AH) : run fuel (d + 1) F_aag_Limits [.agg (intsC [x, m, i, l, o, a])] h = some (limA (limT m i l o a), h) := by
 refine pure_ex rfl rfl (cc1 (canon_aggI _)) (r := limA (limT m i l o a)) ⟨AH.none.push 1 (intsC [x, m, i, l, o, a]), ?_⟩ ?_
 · have s1 := (Sep0.start AH.none).push 1 6 (cs := intsC [x, m, i, l, o, a]) rfl
   have el : ∀ (q : Int) (p : Nat), q = p → p < 6 → Pt.elem 1 6 q (.mk ⟨AH.none.next, 0, 0⟩ 6) = some (.mk ⟨AH.none.next, 0, p⟩ 6) := by
     intro q p hq hp
     subst hq
     rcases (show p = 0 ∨ p = 1 ∨ p = 2 ∨ p = 3 ∨ p = 4 ∨ p = 5 by omega) with rfl | rfl | rfl | rfl | rfl | rfl <;> rfl
   have c1 : (AH.none.push 1 (intsC [x, m, i, l, o, a])).cell (.mk ⟨AH.none.next, 0, 1⟩ 6) = some (.int .i64 m) := s1.part (i := 0) rfl (by omega) rfl
   have c2 : (AH.none.push 1 (intsC [x, m, i, l, o, a])).cell (.mk ⟨AH.none.next, 0, 2⟩ 6) = some (.int .i64 i) := s1.part (i := 0) rfl (by omega) rfl
   have c3 : (AH.none.push 1 (intsC [x, m, i, l, o, a])).cell (.mk ⟨AH.none.next, 0, 3⟩ 6) = some (.int .i64 l) := s1.part (i := 0) rfl (by omega) rfl
   have c4 : (AH.none.push 1 (intsC [x, m, i, l, o, a])).cell (.mk ⟨AH.none.next, 0, 4⟩ 6) = some (.int .i64 o) := s1.part (i := 0) rfl (by omega) rfl
   have c5 : (AH.none.push 1 (intsC [x, m, i, l, o, a])).cell (.mk ⟨AH.none.next, 0, 5⟩ 6) = some (.int .i64 a) := s1.part (i := 0) rfl (by omega) rfl
   rw [e_aag_Limits, show List.all (intsC [x, m, i, l, o, a]) AV.isCell = true from rfl, cond_true, show (intsC [x, m, i, l, o, a]).length = 6 from rfl]
   simp only [el 1 1 rfl (by omega), el 2 2 rfl (by omega), el 3 3 rfl (by omega), el 4 4 rfl (by omega), el 5 5 rfl (by omega), o_bd, c1, c2, c3, c4, c5, int_int]
   rw [wrap64 (n := i + a) (by omega) (by omega)]
   unfold limT
   by_cases b1 : 8000 < i
   · rw [bif_pos b1, if_pos b1]; rfl
   rw [bif_neg b1, if_neg b1]
   by_cases b2 : 8000 < i + a
   · rw [bif_pos b2, if_pos b2]; rfl
   rw [bif_neg b2, if_neg b2]
   by_cases b3 : 8000 < o
   · rw [bif_pos b3, if_pos b3]; rfl
   rw [bif_neg b3, if_neg b3]
   by_cases b4 : m = i + a
   · rw [bif_npos b4, if_neg (show ¬ m ≠ i + a from fun h => h b4)]
     by_cases b5 : l = 0
     · rw [bif_npos b5, if_neg (show ¬ l ≠ 0 from fun h => h b5)]; rfl
     · rw [bif_nneg b5, if_pos b5]; rfl
   · rw [bif_nneg b4, if_pos b4]; rfl
 · intro h'
   cases hl : limT m i l o a with
   | none => rfl
   | some kc =>
     obtain ⟨k, c⟩ := kc
     rcases (limT_code hl).1 with rfl | rfl <;> rfl
theorem intsC_set {l : List Int} {k : Nat} (hk : k < l.length) (v : Int) : (intsC l).take k ++ [AV.int .i64 v] ++ (intsC l).drop (k + 1) = intsC (l.set k v) := by
 rw [List.set_eq_take_append_cons_drop, if_pos hk]
 simp
section
variable (fuel d : Nat) {h0 : AH} {j r : Nat} {W : List Wd} {e : Int}
abbrev headS (P N R : Nat) (pl nn rr : List Int) (L : List Chunk) : List Chunk := .own 1 P 0 6 (intsC pl) :: .own 1 N 0 6 (intsC nn) :: .own 1 R 0 6 (intsC rr) :: L
variable {P N R : Nat}
theorem elem6 {p : Nat} (hp : p < 6) (N : Nat) : Pt.elem 1 6 (p : Int) (nP N) = some (.mk ⟨N, 0, p⟩ 6) := by
 rcases (show p = 0 ∨ p = 1 ∨ p = 2 ∨ p = 3 ∨ p = 4 ∨ p = 5 by omega) with rfl | rfl | rfl | rfl | rfl | rfl <;> rfl
theorem all6 {nn : List Int} (h : nn.length = 6) : (!false && Nat.beq (List.length (intsC nn)) 6 && List.all (intsC nn) AV.isCell) = true := by
 rw [List.length_map, h]
 simp
 intro x _
 rfl
theorem all6t {nn : List Int} (h : nn.length = 6) : (true && Nat.beq (List.length (intsC nn)) 6 && List.all (intsC nn) AV.isCell) = true := all6 h
end
end Go.Proofs.YtjagkijfngokaaaGreatDoor
namespace Go.Proofs.YtjagkijfngokaaaGreatDoor
open Go.RowKit
theorem split_len (b : List UInt8) (c : Bool) : (splitOf b c).length ≤ b.length := by
 have := splitGo_len (b := b) (c := c) (b.length + 1) 0
 unfold splitOf
 omega
theorem errC_no (p c : Int) : nilTest .iface (atV p (errC c)) = some false := rfl
theorem five {M : List Int} (h : M.length = 5) : M = [M.getD 0 0, M.getD 1 0, M.getD 2 0, M.getD 3 0, M.getD 4 0] := by
 match M, h with
 | [a, b, c, d, e], _ => rfl
section
variable (fuel d : Nat) {h0 : AH} {j r : Nat} {W : List Wd} {e : Int}
end
end Go.Proofs.YtjagkijfngokaaaGreatDoor
namespace Go.Proofs.YtjagkijfngokaaaGreatDoor
open Go.RowKit
def ciA : Except (Int × Int) Ci → AV
 | .ok (i, A, O) => .tup [.agg (circC i A O), .nilif]
 | .error (c, p) => .tup [.agg (circC 0 [] []), atV p (errC c)]
theorem limT_none {m i l o a : Int} (h : limT m i l o a = none) : i ≤ 8000 ∧ i + a ≤ 8000 ∧ o ≤ 8000 ∧ m = i + a ∧ l = 0 := by
 unfold limT at h
 by_cases b1 : 8000 < i
 · rw [if_pos b1] at h; cases h
 rw [if_neg b1] at h
 by_cases b2 : 8000 < i + a
 · rw [if_pos b2] at h; cases h
 rw [if_neg b2] at h
 by_cases b3 : 8000 < o
 · rw [if_pos b3] at h; cases h
 rw [if_neg b3] at h
 by_cases b4 : m = i + a
 · rw [if_neg (show ¬ m ≠ i + a from fun q => q b4)] at h
   by_cases b5 : l = 0
   · exact ⟨by omega, by omega, by omega, b4, b5⟩
   · rw [if_pos b5] at h; cases h
 · rw [if_pos b4] at h; cases h
theorem freeze_pairs {h : AH} (n : Nat) (A : List (Int × Int)) : (pairsC A).mapM (freezeV h (n + 1)) = some (pairsC A) := mapM_freezeN (fun _ => mm2 rfl rfl) A
theorem zero3_fr {c : Int} (hc : c = 101 ∨ c = 102) (p : Int) (h : AH) : freezeV h 8 (.tup [.agg zeroC, atV p (errC c)]) = some (ciA (.error (c, p))) := by
 rcases hc with rfl | rfl <;> exact freeze_tup2 _ (freeze_agg 6 (mm3 rfl rfl rfl)) rfl
end Go.Proofs.YtjagkijfngokaaaGreatDoor
namespace Go.Proofs.YtjagkijfngokaaaGreatDoor
open Go.RowKit
theorem GrowU_run (fuel d : Nat) {n : Nat} (hn : n < 1000000000) (h : AH) :
   ∃ s' h', run fuel (d + 1) F_slices_Grow_s_byte_byte [.slice .nil, .int .i64 (n : Int)] h = some (.slice s', h') ∧ Grown h' 1 s' (bytesC []) ∧ Keeps h h' (fun _ => False) ∧ s'.len = 0 ∧ (∀ r, s'.row = some r → h.rows.length ≤ r) := by
 rw [e_slices_Grow_s_byte_byte, bif_neg (by omega)]
 have hc : Sl.capOf .nil = some 0 := rfl
 simp only [o_bd, k_slices_Grow_s_byte_byte_0_n, hc]
 have hw : IntKind.wrap .i64 ((n : Int) - IntKind.wrap .i64 (((0 : Nat) : Int) - ((Sl.nil.len : Nat) : Int))) = (n : Int) := by
   rw [show IntKind.wrap .i64 (((0 : Nat) : Int) - ((Sl.nil.len : Nat) : Int)) = 0 from rfl, Int.sub_zero, wrap64 (by omega) (by omega)]
 rw [hw]
 by_cases h0 : n = 0
 · subst h0
   exact ⟨.nil, h, rfl, .nil, Keeps.refl _ _, rfl, fun r h => by cases h⟩
 · rw [bif_pos (by omega), aHi_some (by omega) (by simp)]
   simp only [o_bd]
   rw [show (((0 : Nat) : Int)).toNat = 0 from rfl, aLo_none]
   simp only [o_bd, aMx_none]
   rw [cond_pos _ _ (show AH.hasSz h 1 .nil = true from rfl), cond_pos]
   · obtain ⟨s2, h2, e1, e2, e3, e4, e5⟩ := (Grown.nil (h := h) (sz := 1)).more (bytes := 1) (m := n) (vs := List.replicate n (.int .u8 0)) (by simp) (by simp [Sl.len]; omega) (by simp [Sl.len]; omega)
     have hap : AH.append h false 1 1 (Sl.cut .nil 1 0 0 false) (Int.toNat (n : Int)) (repeatCells [(AV.int .u8 (0 : Int))] (Int.toNat (n : Int))) = some (s2, h2) := by
       rw [Int.toNat_natCast, repeat_one]; exact e1
     rw [hap]
     simp only [o_bd]
     rw [aHi_some (x := ((Sl.nil.len : Nat) : Int)) (by simp [Sl.len]) (by simp [Sl.len])]
     simp only [o_bd]
     rw [show ((Sl.nil.len : Nat) : Int).toNat = 0 from rfl, aLo_none]
     simp only [o_bd, aMx_none]
     rw [cond_pos _ _ e2.hasSz]
     simp only [Sl.len, Nat.zero_add] at e3
     have hk : Keeps h h2 (fun _ => False) := e4.mono fun i _ e => by cases e
     generalize ([] : List AV) ++ List.replicate n (AV.int .u8 0) = cs at e2
     cases e2 with
     | nil => simp [Sl.len] at e3; omega
     | none => simp [Sl.len] at e3; omega
     | room => simp [Sl.len] at e3; omega
     | row h1 hc hn hg hv hr hs =>
       refine ⟨_, _, rfl, ?_, hk, rfl, fun r hr => ?_⟩
       · simpa [Sl.cut] using Grown.room h1 hg hv hr hs
       · rcases e5 with e5 | e5
         · cases e5
         · simp [Sl.cut, Sl.row] at hr e5
           omega
     | full h0 h1 hc hn hg hv hr hs =>
       refine ⟨_, _, rfl, ?_, hk, rfl, fun r hr => ?_⟩
       · have := Grown.room h1 hg hv hr hs
         simp only [Sl.cut, Nat.zero_mul, Nat.add_zero, Nat.sub_zero, nbeq_false.2 (Ne.symm h0), Bool.and_false]
         simpa using this
       · rw [Sl.row_mk h0] at e5
         rcases e5 with e5 | e5
         · cases e5
         · simp [Sl.cut, Sl.row, nbeq_false.2 (Ne.symm h0)] at hr e5
           omega
   · simp only [Bool.and_eq_true, decide_eq_true_eq]
     omega
theorem concat2_run (fuel d : Nat) (hf : 30 < fuel) {x y : Sl} {a b : List UInt8} {h : AH} (c : Bool) (hx : h.sliceCells 1 x = some (bytesC a)) (hy : h.sliceCells 1 y = some (bytesC b)) (ha : a.length + b.length < 900000000) (hb0 : b ≠ []) (ha0 : a ≠ []) :
   ∃ s' h', run fuel (d + 2) F_slices_Concat_s_byte_byte [.slice (.lst 2 c [.slice x, .slice y])] h = some (.slice s', h') ∧ New h h' (.grown 1 s' (bytesC (a ++ b))) := by
 obtain ⟨n, rfl⟩ : ∃ n, fuel = n + 3 := ⟨fuel - 3, by omega⟩
 have lx : x.len = a.length := by have := sliceCells_len hx; simp at this; omega
 have ly : y.len = b.length := by have := sliceCells_len hy; simp at this; omega
 have a0 : ∀ h : AH, h.addr 1 (.lst 2 c [AV.slice x, .slice y]) 0 = some (.fp 0 [.slice x]) := fun _ => rfl
 have a1 : ∀ h : AH, h.addr 1 (.lst 2 c [AV.slice x, .slice y]) 1 = some (.fp 0 [.slice y]) := fun _ => rfl
 have w1 : IntKind.wrap .i64 ((0 : Int) + 1) = 1 := rfl
 have w2 : IntKind.wrap .i64 ((1 : Int) + 1) = 2 := rfl
 have l2 : (Sl.lst 2 c [AV.slice x, .slice y]).len = 2 := rfl
 have v1 : IntKind.wrap .i64 ((0 : Int) + ((a.length : Nat) : Int)) = ((a.length : Nat) : Int) := by rw [wrap64 (by omega) (by omega)]; omega
 have v2 : IntKind.wrap .i64 (((a.length : Nat) : Int) + ((b.length : Nat) : Int)) = ((a.length + b.length : Nat) : Int) := by rw [wrap64 (by omega) (by omega)]; omega
 rw [e_slices_Concat_s_byte_byte, l2]
 rw [l_slices_Concat_s_byte_byte_0_eq, bif_pos (by omega), a0, o_bd, cell_fp, o_bd, slice_slice, o_bd, lx, v1, bif_neg (by omega), w1]
 rw [l_slices_Concat_s_byte_byte_0_eq, bif_pos (by omega), a1, o_bd, cell_fp, o_bd, slice_slice, o_bd, ly, v2, bif_neg (by omega), w2]
 rw [l_slices_Concat_s_byte_byte_0_eq, bif_neg (by omega), o_bd, k_slices_Concat_s_byte_byte_0_x0]
 obtain ⟨s2, h2, e2, g2, k2, l2', f2⟩ := GrowU_run (n + 3) d (n := a.length + b.length) (by omega) h
 rw [e2, o_bd, slice_slice, o_bd, l2]
 have s3 := (Sep0.start h).add (c := .grown 1 s2 (bytesC [])) ⟨k2, g2, f2⟩
 obtain ⟨t1, h3, e3, s4, m3⟩ := s3.grow (i := 0) (bytes := 1) (m := a.length) (vs := bytesC a) rfl (by simp) (by omega) (by omega)
 obtain ⟨t2, h4, e4, s5, _⟩ := s4.grow (i := 0) (bytes := 1) (m := b.length) (vs := bytesC b) rfl (by simp) (by omega) (by omega)
 have hx2 := sliceCells_ext s3.ext hx
 have hy3 := sliceCells_ext s4.ext hy
 rw [l_slices_Concat_s_byte_byte_1_eq, bif_pos (by omega), a0, o_bd, cell_fp, o_bd, slice_slice, o_bd, hx2, o_bd, lx, e3, o_bd, w1]
 simp only
 rw [l_slices_Concat_s_byte_byte_1_eq, bif_pos (by omega), a1, o_bd, cell_fp, o_bd, slice_slice, o_bd, hy3, o_bd, ly, e4, o_bd, w2]
 simp only
 rw [l_slices_Concat_s_byte_byte_1_eq, bif_neg (by omega), o_bd, k_slices_Concat_s_byte_byte_1_x2]
 refine ⟨t2, h4, rfl, ?_⟩
 have := s5.get (i := 0) rfl
 rw [show bytesC [] ++ bytesC a ++ bytesC b = bytesC (a ++ b) by simp] at this
 exact this
section
variable (fuel d : Nat) (hf : 20000 < fuel) {h0 : AH} {C : Nat} {i : Nat} {A : List (Int × Int)} {o : List Int}
include hf
theorem gbytes0 (hx : ∀ x ∈ o, In64 x) (ho : o.length ≤ 10000) : ∀ (n k : Nat) (s : Sl) (t : List UInt8) (h : AH), o.length < n + k → k ≤ o.length → t ≠ [] → t.length + 60 * (o.length - k) < 100000000 → Sep0 h0 h [.grown 1 s (bytesC t)] →
   ∃ s' h', l_aig_Bytes_0 fuel (d + 6) n [(1, .ptr (rdP C)), (3, .slice s), (12, .slice (lstI o)), (13, .int .i64 (o.length : Int)), (14, .int .i64 (k : Int))] h = some (.exit 0, [(1, .ptr (rdP C)), (3, .slice s')], h') ∧ Sep0 h0 h' [.grown 1 s' (bytesC (t ++ outsTx (o.drop k)))] := by
 intro n
 induction n with
 | zero => intro k s t h h1 h2; omega
 | succ n ih =>
   intro k s t h h1 h2 ht0 ht hs
   rw [l_aig_Bytes_0_eq]
   by_cases hk : k < o.length
   · have hm : o.getD k 0 ∈ o := by rw [List.getD_eq_getElem?_getD, List.getElem?_eq_getElem hk]; exact List.getElem_mem hk
     have hxk := hx _ hm
     rw [bif_pos (by omega), addr_lstM _ (by omega) (by omega) 0, Int.toNat_natCast, drop_get hk 0]
     generalize o.getD k 0 = x at hxk
     have hl := lineB_len (l := [x]) (fun y hm => by rw [List.mem_singleton.1 hm]; exact hxk)
     simp only [List.length_cons, List.length_nil] at hl
     have hne : lineB [x] ≠ [] := by rw [lineB_one]; simp
     simp only [o_bd, cell_fp, int_int]
     rw [aline1 fuel d (by omega) _ _ hxk]
     simp only [o_bd, str_str]
     rw [tx_size, bytesOf_tx]
     have s1 := hs.push 1 (lineB [x]).length (cs := bytesC (lineB [x])) (by simp)
     have c1 := (s1.sep.grown (i := 0) rfl).cells
     have c2 := (s1.sep.own (i := 1) rfl).cells false
     obtain ⟨s', h', e1, n1⟩ := concat2_run fuel (d + 4) (by omega) true c1 c2 (by omega) hne ht0
     rw [e1]
     simp only [o_bd, slice_slice]
     have s2 := (s1.add n1).sub (L' := [.grown 1 s' (bytesC (t ++ lineB [x]))]) ((List.Sublist.refl _).cons _ |>.cons _)
     rw [sucU (by omega)]
     obtain ⟨s3, h3, e3, q3⟩ := ih (k + 1) s' (t ++ lineB [x]) h' (by omega) (by omega) (by simp [ht0]) (by simp; omega) s2
     refine ⟨s3, h3, e3, ?_⟩
     rw [List.append_assoc] at q3
     exact q3
   · obtain rfl : k = o.length := by omega
     rw [bif_neg (by omega)]
     refine ⟨s, h, rfl, ?_⟩
     rw [List.drop_length, show outsTx [] = [] from rfl, List.append_nil]
     exact hs
theorem gbytes1 (hi : i ≤ 10000) (hA : A.length ≤ 10000) (c0 : h0.cell (.mk ⟨C, 0, 0 + 0⟩ 3) = some (.int .i64 (i : Int))) : ∀ (n k : Nat) (s : Sl) (t : List UInt8) (h : AH), A.length < n + k → k ≤ A.length → AndsOk i k (A.drop k) → t.length + 60 * (A.length - k) < 100000000 → Sep0 h0 h [.grown 1 s (bytesC t)] →
   ∃ s' h', l_aig_Bytes_1 fuel (d + 1) n [(1, .ptr (rdP C)), (3, .slice s), (27, .slice (lstP A)), (28, .int .i64 (A.length : Int)), (29, .int .i64 (k : Int))] h = some (.exit 2, [(3, .slice s')], h') ∧ Sep0 h0 h' [.grown 1 s' (bytesC (t ++ andsB i k (A.drop k)))] := by
 intro n
 induction n with
 | zero => intro k s t h h1 h2; omega
 | succ n ih =>
   intro k s t h h1 h2 hok ht hs
   rw [l_aig_Bytes_1_eq]
   by_cases hk : k < A.length
   · rw [bif_pos (by omega), addr_lstN (sz := 2) (f := pairC) (fun _ => rfl) (l := A) (j := (k : Int)) (by omega) (by omega) (0, 0), Int.toNat_natCast]
     rw [drop_get hk (0, 0)] at hok ⊢
     generalize A.getD k (0, 0) = p at hok
     obtain ⟨⟨p1, p2, p3⟩, hok2⟩ := hok
     have s1 := hs.push 1 2 (cs := pairC (0, 0)) rfl
     obtain ⟨h3, e3, s3⟩ := s1.putAll (i := 1) (vs := pairC p) rfl rfl rfl
     have s3' : Sep0 h0 h3 [.grown 1 s (bytesC t), .own 1 h.next 0 2 (pairC p)] := s3
     have d0 := cell_keep s3'.ext (fun h => h) c0
     have b0 : h3.cell (.mk ⟨h.next, 0, 0⟩ 2) = some (.int .i64 p.1) := s3'.part (i := 1) rfl (by omega) rfl
     have b1 : h3.cell (.mk ⟨h.next, 0, 1⟩ 2) = some (.int .i64 p.2) := s3'.part (i := 1) rfl (by omega) rfl
     have e0 : Pt.elem 1 2 (0 : Int) (.mk ⟨h.next, 0, 0⟩ 2) = some (.mk ⟨h.next, 0, 0⟩ 2) := rfl
     have e1' : Pt.elem 1 2 (1 : Int) (.mk ⟨h.next, 0, 0⟩ 2) = some (.mk ⟨h.next, 0, 1⟩ 2) := rfl
     obtain ⟨x, hx⟩ : ∃ x : Nat, 2 * ((i : Int) + k + 1) - p.1 = (x : Int) := ⟨(2 * ((i : Int) + k + 1) - p.1).toNat, by omega⟩
     obtain ⟨y, hy⟩ : ∃ y : Nat, p.1 - p.2 = (y : Int) := ⟨(p.1 - p.2).toNat, by omega⟩
     have sx := smallB_len 10 x
     have sy := smallB_len 10 y
     obtain ⟨sa, ha, ea, qa⟩ := gnumber_run fuel d (by omega) (x := x) (by omega) (by omega) s3'
     have f0 : ha.cell (.mk ⟨h.next, 0, 0⟩ 2) = some (.int .i64 p.1) := qa.part (i := 1) rfl (by omega) rfl
     have f1 : ha.cell (.mk ⟨h.next, 0, 1⟩ 2) = some (.int .i64 p.2) := qa.part (i := 1) rfl (by omega) rfl
     obtain ⟨sb, hb, eb, qb⟩ := gnumber_run fuel d (by omega) (x := y) (by omega) (t := t ++ smB x) (by unfold smB; simp; omega) qa
     rw [o_bd, cellsAt_fp (n := 2) (cs := pairC p) rfl, o_bd, show (!false && Nat.beq (List.length (pairC p)) 2 && List.all (pairC p) AV.isCell) = true from rfl, cond_true, e3]
     simp only [o_bd, field_mk, d0, int_int, e0, e1', b0]
     rw [wrap64 (n := (i : Int) + (k : Int)) (by omega) (by omega), wrap64 (n := (i : Int) + (k : Int) + 1) (by omega) (by omega), wrap64 (n := 2 * ((i : Int) + (k : Int) + 1)) (by omega) (by omega), hx, wrap64 (n := (x : Int)) (by omega) (by omega), ea]
     simp only [o_bd, slice_slice, same_self, f0, b0, f1, b1, int_int]
     rw [hy, wrap64 (n := (y : Int)) (by omega) (by omega), eb]
     simp only [o_bd, slice_slice]
     rw [sucU (by omega)]
     obtain ⟨s4, h4, e4, q4⟩ := ih (k + 1) sb (t ++ smB x ++ smB y) hb (by omega) (by omega) (by rw [show ((k + 1 : Nat) : Int) = (k : Int) + 1 by omega]; exact hok2) (by unfold smB; simp; omega) (qb.sub (List.Sublist.cons_cons _ (List.nil_sublist _)))
     refine ⟨s4, h4, e4, ?_⟩
     rw [andsB, hx, hy, Int.toNat_natCast, Int.toNat_natCast]
     rw [List.append_assoc, List.append_assoc] at q4
     exact q4
   · obtain rfl : k = A.length := by omega
     rw [bif_neg (by omega)]
     refine ⟨s, h, rfl, ?_⟩
     rw [List.drop_length, andsB, List.append_nil]
     exact hs
end
end Go.Proofs.YtjagkijfngokaaaGreatDoor
namespace Go.Proofs.YtjagkijfngokaaaGreatDoor
open Go.RowKit
section
variable (fuel d : Nat) (hf : 30 < fuel) {h0 : AH}
include hf
theorem numbers_loop {l : List Int} {c : Bool} (hl : l.length < 1000000) (hx : ∀ x ∈ l, In64 x) : ∀ (n k : Nat) (s : Sl) (t : List UInt8) (h : AH), l.length < n + k → k ≤ l.length → t.length + 30 * (l.length - k) < 800000000 → Sep0 h0 h [.grown 1 s (bytesC t)] →
   ∃ s' h', l_skolemref8_numbers_0 fuel (d + 5) n [(0, .slice s), (1, .slice (.lst l.length c (intsC l))), (5, .int .i64 (k : Int))] h = some (.exit 0, [(0, .slice s')], h') ∧ Sep0 h0 h' [.grown 1 s' (bytesC (t ++ restB (decide (k = 0)) (l.drop k)))] := by
 intro n
 induction n with
 | zero => intro k s t h h1 h2; omega
 | succ n ih =>
   intro k s t h h1 h2 ht hs
   rw [l_skolemref8_numbers_0_eq, len_lst]
   by_cases hk : k < l.length
   · have hm : l.getD k 0 ∈ l := by rw [List.getD_eq_getElem?_getD, List.getElem?_eq_getElem hk]; exact List.getElem_mem hk
     have hxk := hx _ hm
     have tail : ∀ (s1 : Sl) (t1 : List UInt8) (h1 : AH), t1.length + 30 * (l.length - k) < 800000002 → Sep0 h0 h1 [.grown 1 s1 (bytesC t1)] → ∃ s' h', k_skolemref8_numbers_1 fuel (d + 5) n .normal [(0, .slice s1), (1, .slice (.lst l.length c (intsC l))), (5, .int .i64 (k : Int))] h1 = some (.exit 0, [(0, .slice s')], h') ∧ Sep0 h0 h' [.grown 1 s' (bytesC (t1 ++ (decT (l.getD k 0) ++ restB false (l.drop (k + 1)))))] := by
       intro s1 t1 h1 ht1 hs1
       rw [k_skolemref8_numbers_1_n, addr_lstM _ (by omega) (by omega) 0, Int.toNat_natCast]
       generalize l.getD k 0 = x at hxk
       simp only [o_bd, cell_fp, int_int]
       obtain ⟨s2, h2', e2, q2, q3⟩ := app_ok fuel d hf hxk.1 hxk.2 h0 h1 s1 t1 (by omega) hs1
       rw [e2]
       simp only [o_bd, slice_slice]
       rw [sucU (by omega)]
       obtain ⟨s3, h3, e3, q4⟩ := ih (k + 1) s2 (t1 ++ decT x) h2' (by omega) (by omega) (by simp; omega) q2
       refine ⟨s3, h3, e3, ?_⟩
       rw [decide_eq_false (by omega), List.append_assoc] at q4
       exact q4
     rw [bif_pos (by omega), drop_get hk 0]
     by_cases h0k : k = 0
     · subst h0k
       rw [bif_neg (by omega), o_bd]
       simp only
       exact tail s t h (by omega) hs
     · rw [bif_pos (by omega), show [(AV.int .u8 (32 : Int))] = bytesC [32] from rfl, lit_cells h [32] (n := 1) rfl, o_bd, Sl.len]
       obtain ⟨s2, h2', e2, q3⟩ := lit_append (hs.junk (cs := bytesC [32])) [32] (m := 1) rfl (by simp; omega)
       rw [e2, o_bd, o_bd]
       simp only
       obtain ⟨s3, h3, e3, q4⟩ := tail s2 (t ++ [32]) h2' (by simp; omega) q3
       refine ⟨s3, h3, e3, ?_⟩
       rw [decide_eq_false h0k]
       rw [List.append_assoc] at q4
       exact q4
   · obtain rfl : k = l.length := by omega
     rw [bif_neg (by omega), List.drop_length]
     refine ⟨s, h, rfl, ?_⟩
     rw [restB, List.append_nil]
     exact hs
theorem numbers_run {l : List Int} (c : Bool) (hl : l.length < 1000000) (hlf : l.length < fuel) (hx : ∀ x ∈ l, In64 x) {s : Sl} {t : List UInt8} {h : AH} (ht : t.length + 30 * l.length < 800000000) (hs : Sep0 h0 h [.grown 1 s (bytesC t)]) :
   ∃ s' h', run fuel (d + 6) F_skolemref8_numbers [.slice s, .slice (.lst l.length c (intsC l))] h = some (.slice s', h') ∧ Sep0 h0 h' [.grown 1 s' (bytesC (t ++ lineB l))] := by
 obtain ⟨s1, h1, e1, q1⟩ := numbers_loop fuel d hf (c := c) hl hx fuel 0 s t h (by omega) (by omega) (by omega) hs
 rw [List.drop_zero] at q1
 have hlen : (restB true l).length ≤ 21 * l.length := by
   have : ∀ (l : List Int) (f : Bool), (∀ x ∈ l, In64 x) → (restB f l).length ≤ 21 * l.length := by
     intro l
     induction l with
     | nil => intro f _; simp [restB]
     | cons x l ih =>
       intro f hx
       have h1 := ih false fun y hy => hx y (List.mem_cons_of_mem _ hy)
       have h2 := decT_le (hx x List.mem_cons_self).1 (hx x List.mem_cons_self).2
       cases f <;> simp [restB] <;> omega
   exact this l true hx
 rw [e_skolemref8_numbers]
 rw [show ((0 : Nat) : Int) = 0 from rfl] at e1
 rw [e1, o_bd, k_skolemref8_numbers_0_x0]
 rw [show [(AV.int .u8 (10 : Int))] = bytesC [10] from rfl, lit_cells h1 [10] (n := 1) rfl, o_bd, Sl.len]
 rw [show decide ((0 : Nat) = 0) = true from rfl] at q1
 obtain ⟨s2, h2', e2, q3⟩ := lit_append (q1.junk (cs := bytesC [10])) [10] (m := 1) rfl (by simp; omega)
 rw [e2, o_bd]
 refine ⟨s2, h2', rfl, ?_⟩
 rw [lineB_rest]
 rw [List.append_assoc] at q3
 exact q3
end
section
variable (fuel d : Nat) (hf : 20000 < fuel) {h0 : AH} {C : Nat} {i : Nat} {A : List (Int × Int)} {o : List Int} (hc : CiOk i A o)
include hf hc
end
end Go.Proofs.YtjagkijfngokaaaGreatDoor
namespace Go.Proofs.YtjagkijfngokaaaGreatDoor
open Go.RowKit
theorem Grown.freezeU {h : AH} {s : Sl} {t : List UInt8} (hg : Grown h 1 s (bytesC t)) (n : Nat) : freezeV h (n + 2) (.slice s) = some (.slice (lstU t)) := by
 have hl := hg.len
 rw [List.length_map, Nat.mul_one] at hl
 rw [hg.freeze (n := n + 1) (by omega) (mapM_freeze (g := fun b : UInt8 => AV.int .u8 (b.toNat : Int)) (fun _ => rfl) _), ← hl]
end Go.Proofs.YtjagkijfngokaaaGreatDoor
namespace Go.Proofs.YtjagkijfngokaaaGreatDoor
open Go.RowKit
theorem andsB_len {i : Nat} : ∀ (A : List (Int × Int)) (k : Nat), (andsB i k A).length ≤ 20 * A.length
 | [], k => by simp [andsB]
 | p :: A, k => by
   have h1 := andsB_len (i := i) A (k + 1)
   have h2 := smallB_len 10 (2 * ((i : Int) + k + 1) - p.1).toNat
   have h3 := smallB_len 10 (p.1 - p.2).toNat
   simp only [andsB, smB, List.length_append, List.length_cons]
   omega
theorem outsTx_len : ∀ {o : List Int}, (∀ x ∈ o, In64 x) → (outsTx o).length ≤ 30 * o.length
 | [], _ => by simp [outsTx]
 | x :: l, hx => by
   have h1 := outsTx_len (o := l) fun y hy => hx y (List.mem_cons_of_mem _ hy)
   have h2 := lineB_len (l := [x]) (fun y hy => by rw [List.mem_singleton.1 hy]; exact hx x List.mem_cons_self)
   simp only [outsTx, List.flatMap_cons, List.length_append, List.length_cons, List.length_nil] at h1 h2 ⊢
   omega
theorem headL_in {i : Nat} {A : List (Int × Int)} {o : List Int} (hi : i ≤ 10000) (hA : A.length ≤ 10000) (ho : o.length ≤ 10000) : ∀ x ∈ headL i A o, In64 x := fun x hx => by
 simp [headL] at hx; rcases hx with rfl | rfl | rfl | rfl | rfl <;> exact in64 (by omega) (by omega)
theorem aigTx_len {i : Nat} {A : List (Int × Int)} {o : List Int} (hc : CiOk i A o) : (aigTx i A o).length ≤ 110 + 30 * o.length + 20 * A.length ∧ 4 ≤ (aigTx i A o).length := by
 have hl := lineB_len (headL_in hc.ni hc.nA hc.no)
 have h1 := outsTx_len hc.xo
 have h2 := andsB_len (i := i) A 0
 rw [show (headL i A o).length = 5 from rfl] at hl
 simp only [aigTx, List.length_append, List.length_cons, List.length_nil]
 omega
theorem gbytes_body (fuel d : Nat) (hf : 20000 < fuel) {i : Nat} {A : List (Int × Int)} {o : List Int} (hR : CiR i A o) : ∃ v h', brun fuel (d + 8) F_aig_Bytes [.agg (circC i A o)] AH.none = some (v, h') ∧ freezeV h' 8 v = some (.slice (lstU (aigTx i A o))) := by
 have hc := hR.ok
 have hi := hc.ni
 have hA := hc.nA
 have ho := hc.no
 have s1 := (Sep0.start AH.none).push 1 3 (cs := circC i A o) rfl
 have hl := lineB_len (headL_in hi hA ho)
 rw [show (headL i A o).length = 5 from rfl] at hl
 have hT := aigTx_len hc
 simp only [aigTx, List.length_append, List.length_cons, List.length_nil] at hT
 rw [e_aig_Bytes, show List.all (circC i A o) AV.isCell = true from rfl, cond_true, show (circC i A o).length = 3 from rfl]
 generalize AH.none.next = C at s1
 generalize AH.none.push 1 (circC i A o) = H at s1
 have cc : H.cellsAt 3 (.mk ⟨C, 0, 0⟩ 3) = some (circC i A o) := s1.getAll (i := 0) rfl rfl
 have c0 : H.cell (.mk ⟨C, 0, 0 + 0⟩ 3) = some (.int .i64 (i : Int)) := s1.part (i := 0) rfl (by omega) rfl
 have c1 : H.cell (.mk ⟨C, 0, 0 + 1⟩ 3) = some (.slice (lstP A)) := s1.part (i := 0) rfl (by omega) rfl
 have c2 : H.cell (.mk ⟨C, 0, 0 + 2⟩ 3) = some (.slice (lstI o)) := s1.part (i := 0) rfl (by omega) rfl
 rw [cc, o_bd, show (⟨#[97, 105, 103]⟩ : ByteArray) = tx [97, 105, 103] from rfl, ahead_run fuel d (by omega) hi hA ho [97, 105, 103] (by simp)]
 simp only [o_bd, str_str, field_mk]
 have ht0 : ([97, 105, 103] ++ 32 :: lineB (headL i A o) : List UInt8) = [97, 105, 103, 32] ++ lineB (headL i A o) := by simp
 rw [ht0, bytesOf_tx, tx_size]
 have s2 := (Sep0.start H).push 1 ([97, 105, 103, 32] ++ lineB (headL i A o)).length (cs := bytesC ([97, 105, 103, 32] ++ lineB (headL i A o))) (by simp)
 have s3 := s2.toGrown (L := []) false (by simp)
 rw [cell_keep s3.ext (fun h => h) c2, o_bd, slice_slice, o_bd, len_lst]
 obtain ⟨sa, ha, ea, qa⟩ := gbytes0 fuel (d + 1) hf (C := C) hc.xo ho fuel 0 _ _ _ (by omega) (by omega) (by simp) (by simp; omega) s3
 rw [show ((0 : Nat) : Int) = 0 from rfl] at ea
 rw [ea, o_bd, k_aig_Bytes_0_x0]
 simp only [field_mk, o_bd]
 rw [cell_keep qa.ext (fun h => h) c1, o_bd, slice_slice, o_bd, len_lst]
 obtain ⟨sb, hb, eb, qb⟩ := gbytes1 fuel (d + 6) hf (C := C) hi hA c0 fuel 0 sa _ ha (by omega) (by omega) hR.hA (by simp; omega) qa
 rw [show ((0 : Nat) : Int) = 0 from rfl] at eb
 rw [eb, o_bd, k_aig_Bytes_1_x2]
 refine ⟨_, hb, rfl, ?_⟩
 have ht : [97, 105, 103, 32] ++ lineB (headL i A o) ++ outsTx (o.drop 0) ++ andsB i 0 (A.drop 0) = aigTx i A o := by simp [aigTx]
 rw [ht] at qb
 exact (qb.sep.grown (i := 0) rfl).freezeU 6
theorem gbytes_run (fuel d : Nat) (hf : 20000 < fuel) {i : Nat} {A : List (Int × Int)} {o : List Int} (hR : CiR i A o) (h : AH) : run fuel (d + 8) F_aig_Bytes [.agg (circC i A o)] h = some (.slice (lstU (aigTx i A o)), h) := by
 obtain ⟨v, h', e1, e2⟩ := gbytes_body fuel d hf hR
 exact pure_of rfl rfl (cc1 (canon_circ _ _ _)) e1 e2
section
variable (fuel d : Nat) (hf : 20000 < fuel) {h0 : AH} {C : Nat} {i : Nat} {A : List (Int × Int)} {o : List Int}
include hf
theorem rgbytes0 (ho : o.length ≤ 10000) (hxo : ∀ x ∈ o, In64 x) (c2 : h0.cell (.mk ⟨C, 0, 0 + 2⟩ 3) = some (.slice (lstI o))) : ∀ (n k : Nat) (s : Sl) (t : List UInt8) (h : AH), o.length < n + k → k ≤ o.length → t.length + 60 * (o.length - k) < 100000000 → Sep0 h0 h [.grown 1 s (bytesC t)] →
   ∃ s' h', l_skolemref8_AigBytes_0 fuel (d + 6) n [(1, .ptr (rdP C)), (3, .slice s), (4, .int .i64 (k : Int))] h = some (.exit 0, [(1, .ptr (rdP C)), (3, .slice s')], h') ∧ Sep0 h0 h' [.grown 1 s' (bytesC (t ++ outsTx (o.drop k)))] := by
 intro n
 induction n with
 | zero => intro k s t h h1 h2; omega
 | succ n ih =>
   intro k s t h h1 h2 ht hs
   have d2 := cell_keep hs.ext (fun h => h) c2
   rw [l_skolemref8_AigBytes_0_eq]
   simp only [field_mk, o_bd, d2, slice_slice]
   rw [len_lst]
   by_cases hk : k < o.length
   · have hm : o.getD k 0 ∈ o := by rw [List.getD_eq_getElem?_getD, List.getElem?_eq_getElem hk]; exact List.getElem_mem hk
     have hx := hxo _ hm
     rw [bif_pos (by omega), addr_lstM _ (by omega) (by omega) 0, Int.toNat_natCast, drop_get hk 0]
     generalize o.getD k 0 = x at hx
     have hl := lineB_len (l := [x]) (fun y hm => by rw [List.mem_singleton.1 hm]; exact hx)
     simp only [List.length_cons, List.length_nil] at hl
     obtain ⟨s1, h1', e1, q1⟩ := numbers_run fuel d (by omega) (l := [x]) true (by simp) (by simp; omega) (fun y hm => by rw [List.mem_singleton.1 hm]; exact hx) (by simp; omega) hs
     simp only [o_bd, cell_fp, int_int]
     rw [show run fuel (d + 6) F_skolemref8_numbers [.slice s, .slice (.lst 1 true [.int .i64 x])] h = _ from e1]
     simp only [o_bd, slice_slice]
     obtain ⟨s2, h2', e2, q2⟩ := ih (k + 1) s1 (t ++ lineB [x]) h1' (by omega) (by omega) (by simp; omega) q1
     rw [sucU (by omega)]
     refine ⟨s2, h2', e2, ?_⟩
     rw [List.append_assoc] at q2
     exact q2
   · obtain rfl : k = o.length := by omega
     rw [bif_neg (by omega)]
     refine ⟨s, h, rfl, ?_⟩
     rw [List.drop_length, show outsTx [] = [] from rfl, List.append_nil]
     exact hs
theorem rgbytes1 (hi : i ≤ 10000) (hA : A.length ≤ 10000) (c0 : h0.cell (.mk ⟨C, 0, 0 + 0⟩ 3) = some (.int .i64 (i : Int))) (c1 : h0.cell (.mk ⟨C, 0, 0 + 1⟩ 3) = some (.slice (lstP A))) : ∀ (n k : Nat) (s : Sl) (t : List UInt8) (h : AH), A.length < n + k → k ≤ A.length → AndsOk i k (A.drop k) → t.length + 60 * (A.length - k) < 100000000 → Sep0 h0 h [.grown 1 s (bytesC t)] →
   ∃ s' h', l_skolemref8_AigBytes_1 fuel (d + 1) n [(1, .ptr (rdP C)), (3, .slice s), (5, .int .i64 (k : Int))] h = some (.exit 2, [(3, .slice s')], h') ∧ Sep0 h0 h' [.grown 1 s' (bytesC (t ++ andsB i k (A.drop k)))] := by
 intro n
 induction n with
 | zero => intro k s t h h1 h2; omega
 | succ n ih =>
   intro k s t h h1 h2 hok ht hs
   have d0 := cell_keep hs.ext (fun h => h) c0
   have d1 := cell_keep hs.ext (fun h => h) c1
   rw [l_skolemref8_AigBytes_1_eq]
   simp only [field_mk, o_bd, d0, d1, slice_slice, int_int]
   rw [len_lst]
   by_cases hk : k < A.length
   · have had : ∀ h : AH, h.addr 2 (lstP A) (k : Int) = some (.fp 0 (pairC (A.getD k (0, 0)))) := fun h => by
       have := addr_lstN (h := h) (sz := 2) (f := pairC) (fun _ => rfl) (l := A) (j := (k : Int)) (by omega) (by omega) (0, 0) false
       rw [Int.toNat_natCast] at this
       exact this
     rw [bif_pos (by omega)]
     rw [drop_get hk (0, 0)] at hok ⊢
     generalize A.getD k (0, 0) = p at hok had
     obtain ⟨⟨p1, p2, p3⟩, hok2⟩ := hok
     have e0 : Pt.elem 1 2 (0 : Int) (.fp 0 (pairC p)) = some (.fp 0 (pairC p)) := rfl
     have e1' : Pt.elem 1 2 (1 : Int) (.fp 0 (pairC p)) = some (.fp 0 [.int .i64 p.2]) := rfl
     have cc : ∀ h : AH, h.cell (.fp 0 (pairC p)) = some (.int .i64 p.1) := fun _ => rfl
     obtain ⟨x, hx⟩ : ∃ x : Nat, 2 * ((i : Int) + k + 1) - p.1 = (x : Int) := ⟨(2 * ((i : Int) + k + 1) - p.1).toNat, by omega⟩
     obtain ⟨y, hy⟩ : ∃ y : Nat, p.1 - p.2 = (y : Int) := ⟨(p.1 - p.2).toNat, by omega⟩
     have sx := smallB_len 10 x
     have sy := smallB_len 10 y
     obtain ⟨sa, ha, ea, qa⟩ := gsmall_run fuel d (by omega) (x := x) (by omega) (by omega) hs
     have d1a := cell_keep qa.ext (fun h => h) c1
     obtain ⟨sb, hb, eb, qb⟩ := gsmall_run fuel d (by omega) (x := y) (by omega) (t := t ++ smB x) (by unfold smB; simp; omega) qa
     simp only [had, o_bd, e0, cc, int_int]
     rw [wrap64 (n := (i : Int) + (k : Int)) (by omega) (by omega), wrap64 (n := (i : Int) + (k : Int) + 1) (by omega) (by omega), wrap64 (n := 2 * ((i : Int) + (k : Int) + 1)) (by omega) (by omega), hx, wrap64 (n := (x : Int)) (by omega) (by omega), ea]
     simp only [o_bd, slice_slice, d1a, d1, same_self, had, e0, e1', cc, cell_fp, int_int]
     rw [hy, wrap64 (n := (y : Int)) (by omega) (by omega), eb]
     simp only [o_bd, slice_slice]
     rw [sucU (by omega)]
     obtain ⟨s4, h4, e4, q4⟩ := ih (k + 1) sb (t ++ smB x ++ smB y) hb (by omega) (by omega) (by rw [show ((k + 1 : Nat) : Int) = (k : Int) + 1 by omega]; exact hok2) (by unfold smB; simp; omega) qb
     refine ⟨s4, h4, e4, ?_⟩
     rw [andsB, hx, hy, Int.toNat_natCast, Int.toNat_natCast]
     rw [List.append_assoc, List.append_assoc] at q4
     exact q4
   · obtain rfl : k = A.length := by omega
     rw [bif_neg (by omega)]
     refine ⟨s, h, rfl, ?_⟩
     rw [List.drop_length, andsB, List.append_nil]
     exact hs
end
theorem rgbytes_run (fuel d : Nat) (hf : 20000 < fuel) {i : Nat} {A : List (Int × Int)} {o : List Int} (hR : CiR i A o) (h : AH) : run fuel (d + 7) F_skolemref8_AigBytes [.agg (circC i A o)] h = some (.slice (lstU (aigTx i A o)), h) := by
 have key : ∃ v h', brun fuel (d + 7) F_skolemref8_AigBytes [.agg (circC i A o)] AH.none = some (v, h') ∧ freezeV h' 8 v = some (.slice (lstU (aigTx i A o))) := by
   have hc := hR.ok
   have s1 := (Sep0.start AH.none).push 1 3 (cs := circC i A o) rfl
   have hi := hc.ni
   have hA := hc.nA
   have ho := hc.no
   have hx5 := headL_in hi hA ho
   have hl := lineB_len hx5
   simp only [show (headL i A o).length = 5 from rfl] at hl
   rw [e_skolemref8_AigBytes, show List.all (circC i A o) AV.isCell = true from rfl, cond_true, show (circC i A o).length = 3 from rfl]
   rw [show [(AV.int .u8 (97 : Int)), (.int .u8 (105 : Int)), (.int .u8 (103 : Int)), (.int .u8 (32 : Int))] = bytesC [97, 105, 103, 32] from rfl]
   generalize AH.none.next = C at s1
   generalize AH.none.push 1 (circC i A o) = H at s1
   have c0 : H.cell (.mk ⟨C, 0, 0 + 0⟩ 3) = some (.int .i64 (i : Int)) := s1.part (i := 0) rfl (by omega) rfl
   have c1 : H.cell (.mk ⟨C, 0, 0 + 1⟩ 3) = some (.slice (lstP A)) := s1.part (i := 0) rfl (by omega) rfl
   have c2 : H.cell (.mk ⟨C, 0, 0 + 2⟩ 3) = some (.slice (lstI o)) := s1.part (i := 0) rfl (by omega) rfl
   have s2 := (Sep0.start H).push 1 4 (cs := bytesC [97, 105, 103, 32]) rfl
   have hown : (H.push 1 (bytesC [97, 105, 103, 32])).ownAt H.next = true := by
     unfold AH.ownAt AH.push AH.next
     simp
   have d0 := cell_keep s2.ext (fun h => h) c0
   have d1 := cell_keep s2.ext (fun h => h) c1
   have d2 := cell_keep s2.ext (fun h => h) c2
   rw [hown, cond_true]
   simp only [field_mk, o_bd, d0, d1, d2, int_int, slice_slice]
   rw [len_lst, len_lst, wrap64 (by omega) (by omega)]
   have s3 := s2.toGrown (L := []) true (by omega)
   obtain ⟨sa, ha, ea, qa⟩ := numbers_run fuel d (by omega) (l := headL i A o) true (by simp [headL]) (by simp [headL]; omega) hx5 (by simp [headL]) s3
   rw [show run fuel (d + 6) F_skolemref8_numbers [.slice (.mk ⟨H.next, 0, 0⟩ 4 true), .slice (.lst 5 true [.int .i64 ((i : Int) + A.length), .int .i64 i, .int .i64 0, .int .i64 o.length, .int .i64 A.length])] (H.push 1 (bytesC [97, 105, 103, 32])) = _ from ea]
   simp only [o_bd, slice_slice]
   have hT := aigTx_len hc
   simp only [aigTx, List.length_append, List.length_cons, List.length_nil] at hT
   obtain ⟨sc, hc', ec, qc⟩ := rgbytes0 fuel d hf ho hc.xo c2 fuel 0 sa _ ha (by omega) (by omega) (by simp; omega) qa
   rw [show ((0 : Nat) : Int) = 0 from rfl] at ec
   rw [ec, o_bd, k_skolemref8_AigBytes_0_x0]
   obtain ⟨sd, hd, ed, qd⟩ := rgbytes1 fuel (d + 5) hf hi hA c0 c1 fuel 0 sc _ hc' (by omega) (by omega) hR.hA (by simp; omega) qc
   rw [show ((0 : Nat) : Int) = 0 from rfl] at ed
   rw [ed, o_bd, k_skolemref8_AigBytes_1_x2]
   refine ⟨_, hd, rfl, ?_⟩
   have ht : [97, 105, 103, 32] ++ lineB (headL i A o) ++ outsTx (o.drop 0) ++ andsB i 0 (A.drop 0) = aigTx i A o := by simp [aigTx]
   rw [ht] at qd
   exact (qd.sep.grown (i := 0) rfl).freezeU 6
 obtain ⟨v, h', e1, e2⟩ := key
 exact pure_of rfl rfl (cc1 (canon_circ _ _ _)) e1 e2
end Go.Proofs.YtjagkijfngokaaaGreatDoor
namespace Go.Proofs.YtjagkijfngokaaaGreatDoor
open Go.RowKit
theorem fmtb_run (fuel d : Nat) (b : Bool) (h : AH) : run fuel (d + 2) F_strconv_FormatBool [.bool b] h = some (.str (tx (boolT b)), h) := by
 refine pure_of rfl rfl (cc1 rfl) (r := .str (tx (boolT b))) (h' := AH.none) ?_ rfl
 have : run fuel (d + 1) F_internal_strconv_FormatBool [.bool b] AH.none = some (.str (tx (boolT b)), AH.none) := by
   refine pure_of rfl rfl (cc1 rfl) (r := .str (tx (boolT b))) (h' := AH.none) ?_ rfl
   rw [e_internal_strconv_FormatBool]
   cases b <;> rfl
 rw [e_strconv_FormatBool, this]
 rfl
theorem cb_loop (fuel d : Nat) {h0 : AH} {b A : Nat} {B : List Bool} (hB : B.length < 1000000) {R : List Chunk} : ∀ (n k : Nat) (t : List UInt8) (Ch : List Chunk) (h : AH), B.length < n + k → k ≤ B.length → t.length + (B.length - k) < 2000000 → BldCh b (bytesC t) Ch → Sep0 h0 h (Ch ++ R) →
   ∃ h' Ch', (l_cert_Bytes_0 fuel (d + 1) n [(1, .ptr (.mk ⟨A, 0, 0⟩ 7)), (3, .ptr (bPt b)), (17, .slice (lstB B)), (18, .int .i64 (B.length : Int)), (19, .int .i64 (k : Int))] h).bind (fun p => k_cert_Bytes_0 fuel (d + 1) p.1 p.2.1 p.2.2) =
     some (.normal, [(1, .ptr (.mk ⟨A, 0, 0⟩ 7)), (3, .ptr (bPt b))], h') ∧ BldCh b (bytesC (t ++ (B.drop k).map bitT)) Ch' ∧ Sep0 h0 h' (Ch' ++ R) := by
 intro n
 induction n with
 | zero => intro k t Ch h h1 h2; omega
 | succ n ih =>
   intro k t Ch h h1 h2 h3 hb hs
   rw [l_cert_Bytes_0_eq]
   by_cases hk : k < B.length
   · have hd : B.drop k = B.getD k false :: B.drop (k + 1) := by rw [List.drop_eq_getElem_cons hk]; simp [List.getD, hk]
     rw [bif_pos (by omega), addr_lstM _ (by omega) (by omega) false, hd, List.map_cons, Int.toNat_natCast]
     generalize B.getD k false = x
     simp only [o_bd, cell_fp, bool_bool]
     have key : ∀ y : UInt8, y = bitT x → ∃ h' Ch', ((run fuel (d + 1) F_strings_Builder_WriteByte [.ptr (bPt b), .int .u8 (y.toNat : Int)] h).bind fun r4 => (l_cert_Bytes_0 fuel (d + 1) n [(1, .ptr (.mk ⟨A, 0, 0⟩ 7)), (3, .ptr (bPt b)), (17, .slice (lstB B)), (18, .int .i64 (B.length : Int)), (19, .int .i64 (IntKind.wrap .i64 ((k : Int) + 1)))] r4.2)).bind (fun p => k_cert_Bytes_0 fuel (d + 1) p.1 p.2.1 p.2.2) =
         some (.normal, [(1, .ptr (.mk ⟨A, 0, 0⟩ 7)), (3, .ptr (bPt b))], h') ∧ BldCh b (bytesC (t ++ bitT x :: (B.drop (k + 1)).map bitT)) Ch' ∧ Sep0 h0 h' (Ch' ++ R) := by
       intro y hy
       obtain ⟨h4, Ch4, e4, b4, s4⟩ := WB_run fuel d hb hs y (by omega)
       rw [e4, o_bd, sucU (by omega)]
       obtain ⟨h5, Ch5, e5, b5, s5⟩ := ih (k + 1) (t ++ [y]) Ch4 h4 (by omega) (by omega) (by simp; omega) b4 s4
       refine ⟨h5, Ch5, e5, ?_, s5⟩
       rw [← hy, show t ++ y :: (B.drop (k + 1)).map bitT = t ++ [y] ++ (B.drop (k + 1)).map bitT by simp]
       exact b5
     cases x with
     | true => exact key 49 rfl
     | false => exact key 48 rfl
   · have : k = B.length := by omega
     subst this
     rw [bif_neg (by omega), List.drop_length, List.map_nil, List.append_nil]
     simp only [o_bd, k_cert_Bytes_0_x0]
     exact ⟨h, Ch, rfl, hb, hs⟩
structure CeOk (w : Bool) (B : List Bool) (I : Nat) (A : List (Int × Int)) (O : List Int) (L : List Stp) : Prop where
 nB : B.length ≤ 100
 ci : CiR I A O
 nT : (aigTx I A O).length ≤ 100000
 nL : L.length ≤ 30
 sL : ∀ s ∈ L, s.2.length ≤ 30 ∧ ∀ x ∈ s.2, LitOk 4000 x
theorem CeOk.num {w : Bool} {B : List Bool} {I : Nat} {A : List (Int × Int)} {O : List Int} {L : List Stp} (h : CeOk w B I A O L) : ∀ s ∈ L, s.2.length ≤ 30 ∧ ∀ x ∈ s.2, Num64 x := fun s hs => ⟨(h.sL s hs).1, fun x hx => by
 have := (h.sL s hs).2 x hx
 exact ⟨by have := this.2.2.1; omega, by have := this.2.2.2; omega⟩⟩
theorem cb_tail (fuel d : Nat) (hf : 20000 < fuel) {h : AH} {b A : Nat} {w : Bool} {B : List Bool} {v : Bool} {i : Int} {P : List (Int × Int)} {O : List Int} {L : List Stp} (hL : L.length ≤ 30) (hn : ∀ s ∈ L, s.2.length ≤ 30 ∧ ∀ x ∈ s.2, Num64 x) {t : List UInt8} (ht : t.length < 1000000)
   {Ch : List Chunk} (hb : BldCh b (bytesC t) Ch) (hs : Sep0 AH.none h (Ch ++ [.own 1 A 0 7 (certC v w B i P O L)])) :
   ∃ r h', k_cert_Bytes_1 fuel (d + 8) .normal [(1, .ptr (.mk ⟨A, 0, 0⟩ 7)), (3, .ptr (bPt b))] h = some (r, h') ∧ freezeV h' 8 r = some (.slice (lstU (t ++ 10 :: stepsT L))) := by
 have hlen := stepsT_len (L := L) hn
 rw [k_cert_Bytes_1_n]
 obtain ⟨h1, Ch1, e1, b1, s1⟩ := WB_run fuel (d + 7) hb hs 10 (by omega)
 rw [show (10 : Int) = ((10 : UInt8).toNat : Int) from rfl, e1]
 simp only [o_bd, field_mk]
 have hi : (Ch1 ++ [Chunk.own 1 A 0 7 (certC v w B i P O L)])[Ch1.length]? = some (.own 1 A 0 7 (certC v w B i P O L)) := by simp
 have c6 : h1.cell (.mk ⟨A, 0, 0 + 6⟩ 7) = some (.slice (lstS L)) := s1.part (i := Ch1.length) hi (by omega) rfl
 simp only [c6, o_bd, slice_slice]
 rw [bytes_run fuel (d + 6) (by omega) (by omega) (fun s hs => ⟨by have := (hn s hs).1; omega, by have := (hn s hs).1; omega, fun x hx => ((hn s hs).2 x hx).app fuel (d + 1) (by omega)⟩)]
 simp only [o_bd, slice_slice]
 obtain ⟨h2, Ch2, e2, b2, s2⟩ := BW_run fuel (d + 7) b1 s1 (stepsT L) (by simp; omega) false
 rw [e2]
 simp only [o_bd, tup2, comp0, comp1, cond_true, int_int]
 obtain ⟨h3, e3, s3⟩ := BString_run fuel (d + 8) (s := tx (t ++ [10] ++ stepsT L)) (by rw [bytesOf_tx]; exact b2) s2 (by rw [tx_size]; simp; omega)
 rw [e3]
 simp only [o_bd, str_str]
 refine ⟨_, _, rfl, ?_⟩
 rw [tx_size, bytesOf_tx]
 have s4 := s3.push 1 (t ++ [10] ++ stepsT L).length (cs := bytesC (t ++ [10] ++ stepsT L)) (by simp)
 have hne : (t ++ [10] ++ stepsT L).length ≠ 0 := by simp
 have hg := (s4.toGrown false hne).sep.grown (i := 1) rfl
 rw [hg.freeze (n := 7) (by simp [hne]) (mapM_freeze (g := fun b : UInt8 => AV.int .u8 (b.toNat : Int)) (fun _ => rfl) _)]
 rw [show t ++ 10 :: stepsT L = t ++ [10] ++ stepsT L by simp]
 rfl
theorem sz_ok {a b : List UInt8} (h : a.length + b.length ≤ 1000000) : Nat.ble (ByteArray.size (tx a) + ByteArray.size (tx b)) 9223372036854775807 = true := by
 rw [tx_size, tx_size]
 exact nble.2 (by omega)
theorem Sep0.getPart {h0 h : AH} {L : List Chunk} (hs : Sep0 h0 h L) {i id n o k l : Nat} {cs : List AV} (hi : L[i]? = some (.own 1 id 0 n cs)) (hl : o + k ≤ l) (hk : o + k ≤ cs.length) : h.cellsAt k (.mk ⟨id, 0, o⟩ l) = some ((cs.drop o).take k) := (hs.sep.own hi).parts hl hk
theorem cb_last {Ch : List Chunk} {c : Chunk} : (Ch ++ [c])[Ch.length]? = some c := by simp
theorem cbytes_body (fuel d : Nat) (hf : 200000 < fuel) {v w : Bool} {B : List Bool} {I : Nat} {A : List (Int × Int)} {O : List Int} {L : List Stp} (hc : CeOk w B I A O L) :
   ∃ r h', brun fuel (d + 9) F_cert_Bytes [.agg (certC v w B I A O L)] AH.none = some (r, h') ∧ freezeV h' 8 r = some (.slice (lstU (certTx v w B (aigTx I A O) L))) := by
 have hnB := hc.nB
 have hnT := hc.nT
 have hbv := boolT_le v
 rw [e_cert_Bytes, show List.all (certC v w B I A O L) AV.isCell = true from rfl, cond_true, show (certC v w B I A O L).length = 7 from rfl]
 have s1 := ((Sep0.start AH.none).push 1 7 (cs := certC v w B I A O L) rfl).newBld
 generalize AH.none.next = X at s1
 generalize AH.none.push 1 (certC v w B I A O L) = H1 at s1
 generalize hb : H1.next = b at s1
 generalize H1.pushT (BT, 2) 1 [.ptr .nil, .slice .nil] = H at s1
 have c0 : H.cell (.mk ⟨X, 0, 0 + 0⟩ 7) = some (.bool v) := s1.part (i := 1) rfl (by omega) rfl
 simp only [field_mk, o_bd, c0, bool_bool]
 rw [fmtb_run]
 simp only [o_bd, str_str]
 rw [cond_pos _ _ (sz_ok (a := [115, 32]) (by simp; omega)), show ((⟨#[115, 32]⟩ : ByteArray) ++ tx (boolT v)) = tx ([115, 32] ++ boolT v) from tx_append _ _, cond_pos _ _ (sz_ok (a := [115, 32] ++ boolT v) (b := [10]) (by simp; omega)),
   show (tx ([115, 32] ++ boolT v) ++ (⟨#[10]⟩ : ByteArray)) = tx (headCe v ++ [10]) from tx_append _ _]
 have hh : (headCe v).length ≤ 7 := by simp [headCe]; omega
 obtain ⟨h4, B4, e4, q4, s4⟩ := WS_run fuel (d + 7) (t := []) (.fresh (.inl rfl)) s1 (headCe v ++ [10]) (by simp; omega)
 rw [show (Pt.mk ⟨b, 0, 0⟩ 2) = bPt b from rfl, e4]
 rw [List.nil_append] at q4
 have c1 : h4.cell (.mk ⟨X, 0, 0 + 1⟩ 7) = some (.bool w) := s4.part (i := B4.length) cb_last (by omega) rfl
 simp only [o_bd, tup2, comp0, comp1, cond_true, int_int, c1, bool_bool]
 cases w with
 | true =>
   simp only [cond_true]
   obtain ⟨h5, B5, e5, q5, s5⟩ := WS_run fuel (d + 7) q4 s4 [119, 32] (by simp; omega)
   rw [show (⟨#[119, 32]⟩ : ByteArray) = tx [119, 32] from rfl, e5]
   have c2 : h5.cell (.mk ⟨X, 0, 0 + 2⟩ 7) = some (.slice (lstB B)) := s5.part (i := B5.length) cb_last (by omega) rfl
   simp only [o_bd, tup2, comp0, comp1, cond_true, int_int, c2, slice_slice]
   obtain ⟨h6, B6, e6, q6, s6⟩ := cb_loop fuel (d + 7) (A := X) (B := B) (by omega) fuel 0 _ B5 h5 (by omega) (by omega) (by simp; omega) q5 s5
   rw [List.drop_zero] at q6
   rw [len_lst, show (0 : Int) = ((0 : Nat) : Int) from rfl, e6]
   obtain ⟨r, h7, e7, f7⟩ := cb_tail fuel d (by omega) hc.nL hc.num (by simp; omega) q6 s6
   refine ⟨r, h7, e7, ?_⟩
   rw [f7]
   simp [certTx, playCe]
 | false =>
   simp only [cond_false]
   have c3 : h4.cellsAt 3 (.mk ⟨X, 0, 0 + 3⟩ 7) = some (circC I A O) := s4.getPart (i := B4.length) (o := 3) (k := 3) cb_last (by omega) (by simp)
   have hdl := decT_le (x := ((aigTx I A O).length : Int)) (by omega) (by omega)
   simp only [c3, o_bd]
   rw [gbytes_run fuel d (by omega) hc.ci]
   simp only [o_bd, slice_slice]
   rw [len_lst, itoa_run fuel (d + 3) (by omega) (by omega) (by omega)]
   simp only [o_bd, str_str]
   generalize aigTx I A O = T at hnT hdl
   rw [cond_pos _ _ (sz_ok (a := [102, 32]) (by simp; omega)), show ((⟨#[102, 32]⟩ : ByteArray) ++ tx (decT (T.length : Int))) = tx ([102, 32] ++ decT (T.length : Int)) from tx_append _ _, cond_pos _ _ (sz_ok (a := [102, 32] ++ decT (T.length : Int)) (b := [10]) (by simp; omega)),
     show (tx ([102, 32] ++ decT (T.length : Int)) ++ (⟨#[10]⟩ : ByteArray)) = tx ([102, 32] ++ decT (T.length : Int) ++ [10]) from tx_append _ _]
   obtain ⟨h5, B5, e5, q5, s5⟩ := WS_run fuel (d + 7) q4 s4 ([102, 32] ++ decT (T.length : Int) ++ [10]) (by simp; omega)
   rw [e5]
   simp only [o_bd, tup2, comp0, comp1, cond_true, int_int]
   obtain ⟨h6, B6, e6, q6, s6⟩ := BW_run fuel (d + 7) q5 s5 T (by simp; omega) false
   rw [e6]
   simp only [o_bd, tup2, comp0, comp1, cond_true, int_int]
   obtain ⟨r, h7, e7, f7⟩ := cb_tail fuel d (by omega) hc.nL hc.num (by simp; omega) q6 s6
   refine ⟨r, h7, e7, ?_⟩
   rw [f7]
   simp [certTx, playCe]
theorem ceOk_nil : CeOk true [] 0 [] [] [] := ⟨by decide, ⟨by decide, by decide, trivial, fun x hx => by cases hx⟩, by decide, by decide, fun s hs => by cases hs⟩
theorem cbytes_nil (fuel d : Nat) (hf : 200000 < fuel) (h : AH) : run fuel (d + 9) F_cert_Bytes [.agg [.bool false, .bool true, .slice .nil, .int .i64 0, .slice .nil, .slice .nil, .slice .nil]] h = some (.slice (lstU [115, 32, 102, 97, 108, 115, 101, 10, 119, 32, 10]), h) := by
 obtain ⟨r, h', e1, e2⟩ := cbytes_body fuel d hf (v := false) ceOk_nil
 exact pure_of rfl rfl (cc1 rfl) e1 e2
theorem first26_run (fuel : Nat) {e : Nat} (he : 12 ≤ e) (hf : 200000 < fuel) (h : AH) : run fuel e F_skolemlaw26_first [] h = some (.bool true, h) := by
 obtain ⟨d, rfl⟩ : ∃ d, e = d + 12 := ⟨e - 12, by omega⟩
 refine pure_ex rfl rfl canonL_nil (r := .bool true) ?_ (fun _ => rfl)
 rw [e_skolemlaw26_first, cbytes_nil fuel (d + 2) hf]
 simp only [o_bd, slice_slice]
 rw [cells_lstM, o_bd, bytesFrom_bytesC, o_bd]
 have hv : run fuel (d + 11) F_cert_Value [.agg [.bool true, .int .i64 0, .int .i64 0, .slice .nil, .slice .nil], .bool true] AH.none = some (.bool true, AH.none) := by
   refine pure_of rfl rfl (us := [.agg [.bool true, .int .i64 0, .int .i64 0, .slice (.lst 0 false []), .slice (.lst 0 false [])], .bool true]) rfl (r := .bool true) (h' := AH.none.push 1 [.bool true, .int .i64 0, .int .i64 0, .slice (.lst 0 false []), .slice (.lst 0 false [])]) ?_ rfl
   rw [e_cert_Value]
   rfl
 refine ⟨AH.none, ?_⟩
 rw [decide_eq_true (by rfl)]
 simp only [beq_self_eq_true, cond_true]
 rw [hv]
 rfl
end Go.Proofs.YtjagkijfngokaaaGreatDoor
namespace Go.Proofs.YtjagkijfngokaaaGreatDoor
open Go.RowKit
def lineI (b : List UInt8) (x : Int) : List UInt8 × Int × Bool :=
 if x < 0 ∨ (b.length : Int) ≤ x then ([], 0, false) else
 if Lib.indexByte (b.drop x.toNat) 10 < 0 then ([], 0, false) else ((b.drop x.toNat).take (Lib.indexByte (b.drop x.toNat) 10).toNat, x + Lib.indexByte (b.drop x.toNat) 10 + 1, true)
def tupL (p : List UInt8 × Int × Bool) : AV := .tup [.str ⟨p.1.toArray⟩, .int .i64 p.2.1, .bool p.2.2]
theorem tLine_run (fuel d : Nat) {b : List UInt8} (hb : b.length < 1000000) (x : Int) (h : AH) : run fuel (d + 3) F_word_Line [.slice (lstU b), .int .i64 x] h = some (tupL (lineI b x), h) := by
 refine pure_of rfl rfl (cc2 (canon_lstU 7 b) rfl) (r := tupL (lineI b x)) (h' := AH.none) ?_ rfl
 rw [e_word_Line, len_lst, or2]
 unfold lineI
 by_cases h0 : x < 0 ∨ (b.length : Int) ≤ x
 · rw [decide_eq_true h0, if_pos h0]; rfl
 · rw [decide_eq_false h0, if_neg h0, cond_false]
   obtain ⟨k, rfl⟩ : ∃ k : Nat, x = (k : Int) := ⟨x.toNat, by omega⟩
   rw [Int.toNat_natCast, aHi_none, o_bd, aLo_some (by omega) (by omega), o_bd, Int.toNat_natCast, aMx_none, o_bd, hasSz_lstM, cond_true, cut_lstU b (by omega), show (b.drop k).take (b.length - k) = b.drop k from List.take_of_length_le (by simp), index_run]
   simp only [o_bd, int_int]
   rcases idx_line (l := b.drop k) (c := 10) with ⟨h3, _⟩ | ⟨m, h3, h4, _⟩
   · rw [bif_pos h3, if_pos h3]; rfl
   · rw [List.length_drop] at h4
     rw [h3, bif_neg (by omega), if_neg (by omega), wrap64 (n := (k : Int) + (m : Int)) (by omega) (by omega), aHi_some (by omega) (by omega), o_bd, show ((k : Int) + (m : Int)).toNat = k + m by omega, aLo_some (by omega) (by omega), o_bd, Int.toNat_natCast, aMx_none, o_bd, hasSz_lstM, cond_true, cut_lstU b (by omega), cells_lstM]
     simp only [o_bd, bytesFrom_bytesC]
     rw [show k + m - k = m by omega, wrap64 (by omega) (by omega), Int.toNat_natCast]
     rfl
end Go.Proofs.YtjagkijfngokaaaGreatDoor
namespace Go.Proofs.YtjagkijfngokaaaGreatDoor
open Go.RowKit
structure Still (h h' : AH) : Prop where
 at_ : ∀ (n : Nat) (p : Pt) (cs : List AV), h.cellsAt n p = some cs → h'.cellsAt n p = some cs
 cell : ∀ (p : Pt) (v : AV), h.cell p = some v → h'.cell p = some v
 cells : ∀ (sz : Nat) (s : Sl) (cs : List AV), h.sliceCells sz s = some cs → h'.sliceCells sz s = some cs
theorem Still.refl (h : AH) : Still h h := ⟨fun _ _ _ h => h, fun _ _ h => h, fun _ _ _ h => h⟩
theorem Still.trans {a b c : AH} (h : Still a b) (k : Still b c) : Still a c := ⟨fun n p cs q => k.1 n p cs (h.1 n p cs q), fun p v q => k.2 p v (h.2 p v q), fun sz s cs q => k.3 sz s cs (h.3 sz s cs q)⟩
theorem Still.ext {h h' : AH} (hk : Keeps h h' fun _ => False) : Still h h' :=
 ⟨fun n p cs q => by
   cases p with
   | nil => exact q
   | fp => exact q
   | mk r l => exact cellsAt_keep hk (fun h => h) q,
  fun p v q => by
   cases p with
   | nil => exact q
   | fp => exact q
   | mk r l => exact cell_keep hk (fun h => h) q,
  fun sz s cs q => sliceCells_ext hk q⟩
theorem Still.mark (h : AH) (ids : List Nat) : Still h (h.markRo ids) := ⟨fun n p cs q => by rw [cellsAt_mark]; exact q, fun p v q => by rw [cell_mark]; exact q, fun sz s cs q => by rw [sliceCells_mark]; exact q⟩
theorem Sep0.still {h0 h : AH} {L : List Chunk} (hs : Sep0 h0 h L) : Still h0 h := Still.ext hs.ext
end Go.Proofs.YtjagkijfngokaaaGreatDoor
namespace Go.Proofs.YtjagkijfngokaaaGreatDoor
open Go.RowKit
theorem gat_run (fuel d : Nat) {j : Nat} (hj : j < 7) (p : Int) (h : AH) : run fuel (d + 1) F_aig_at [.int .i64 p, errN j] h = some (atV p (errN j), h) := by
 have key : ∃ h', brun fuel (d + 1) F_aig_at [.int .i64 p, errN j] AH.none = some (.iface T_p_api_At (.ptr (.mk ⟨AH.none.next, 0, 0⟩ 2)), h') ∧ h' = AH.none.push 1 [.int .i64 p, errN j] := by
   refine ⟨_, ?_, rfl⟩
   rw [e_aig_at]
   rcases seven hj with rfl | rfl | rfl | rfl | rfl | rfl | rfl <;> rfl
 obtain ⟨h', e, rfl⟩ := key
 refine pure_of rfl rfl (cc2 rfl (errN_canon hj 4)) e ?_
 rcases seven hj with rfl | rfl | rfl | rfl | rfl | rfl | rfl <;> rfl
theorem gat0 (fuel d : Nat) (p : Int) (h : AH) : run fuel (d + 1) F_aig_at [.int .i64 p, err_api_ErrText] h = some (atV p err_api_ErrText, h) := gat_run fuel d (j := 0) (by omega) p h
theorem gatC (fuel d : Nat) {c : Int} (hc : c = 101 ∨ c = 102) (p : Int) (h : AH) : run fuel (d + 1) F_aig_at [.int .i64 p, errC c] h = some (atV p (errC c), h) := by
 rcases hc with rfl | rfl
 · exact gat_run fuel d (j := 0) (by omega) p h
 · exact gat_run fuel d (j := 1) (by omega) p h
theorem reachU_mk (h : AH) (m : Nat) (r : Ref) (n : Nat) (c : Bool) : reachV h (m + 1) (.slice (.mk r n c)) = (bif Nat.beq n 0 then [] else
     match h.rows[r.id]? with
       | some row => r.id :: (match h.sliceCells row.sz (.mk r n false) with | some cs => cs.flatMap (reachV h m) | .none => [])
       | .none => []) := rfl
theorem reachU_int (h : AH) (m : Nat) (k : IntKind) (x : Int) : reachV h (m + 1) (.int k x) = [] := rfl
theorem reachU_bool (h : AH) (m : Nat) (b : Bool) : reachV h (m + 1) (.bool b) = [] := rfl
theorem reach_bytes {h : AH} {r : Ref} {n : Nat} {c : Bool} {l : List UInt8} (hs : h.sliceCells 1 (.mk r n c) = some (bytesC l)) (q : Bool) : ∀ i ∈ [AV.slice (.mk r n c), .bool q].flatMap (reachV h 8), i = r.id := by
 intro i hi
 rw [List.flatMap_cons, List.flatMap_cons, List.flatMap_nil, List.append_nil, reachU_mk, reachU_bool, List.append_nil] at hi
 by_cases h0 : n = 0
 · rw [show Nat.beq n 0 = true from by rw [h0]; rfl] at hi
   cases hi
 · obtain ⟨row, q1, q2, q3, q4, q5, q6⟩ := sliceCells_row hs h0
   rw [nbeq_false.2 h0, cond_false, q1] at hi
   simp only [q2] at hi
   have hs2 : h.sliceCells 1 (.mk r n false) = some (bytesC l) := hs
   simp only [hs2] at hi
   rcases List.mem_cons.1 hi with rfl | hi
   · rfl
   · obtain ⟨v, hv, hi⟩ := List.mem_flatMap.1 hi
     obtain ⟨x, _, rfl⟩ := List.mem_map.1 hv
     rw [reachU_int] at hi
     cases hi
theorem split_row (fuel d : Nat) {b : List UInt8} {c : Bool} (hb : b.length < 1000000) (hf : b.length + 2 ≤ fuel) {h : AH} {r : Ref} {n : Nat} {q : Bool} (hs : h.sliceCells 1 (.mk r n q) = some (bytesC b)) :
   ∃ h', run fuel (d + 3) F_word_Split [.slice (.mk r n q), .bool c] h = some (.slice (lstW (splitOf b c)), h') ∧ Keeps h h' (· = r.id) := by
 obtain ⟨s', h1, e1, e2⟩ := split_body fuel d hb hf (c := c)
 have hl := sliceCells_len hs
 simp only [List.length_map, Sl.len, Nat.mul_one] at hl
 have hfz : freezeV h 8 (.slice (.mk r n q)) = some (.slice (lstU b)) := by
   rw [freeze_cells hs (m := 7) (us := bytesC b) (mapM_freeze (g := fun b : UInt8 => AV.int .u8 (b.toNat : Int)) (fun _ => rfl) _), ← hl]
 refine ⟨_, run_fix rfl rfl (canonL_none (i := 0) rfl rfl) (mm2 hfz rfl) e1 e2 rfl, (keeps_mark _).mono fun i _ hi => reach_bytes hs c i hi⟩
theorem Sep0.off {h0 h h' : AH} {L : List Chunk} {id n : Nat} {cs : List AV} (hs : Sep0 h0 h (L ++ [.own 1 id 0 n cs])) (hk : Keeps h h' (· = id)) : Sep0 h0 h' L := by
 have hf : h0.rows.length ≤ id := hs.fresh (.own 1 id 0 n cs) (by simp) id rfl
 refine ⟨hs.init.sep.keep hk fun c hc r hr e => ?_, keeps_new hs.ext hk fun i hi => by subst hi; exact hf, hs.init.fresh⟩
 subst e
 have := (List.pairwise_append.1 hs.sep.far).2.2 c hc (.own 1 r 0 n cs) (by simp)
 exact this.1 r hr rfl
abbrev grCh (r : Nat) (b : List UInt8) (k : Nat) : Chunk := .own 1 r 0 2 [.slice (lstU b), .int .i64 (k : Int)]
abbrev gP (r : Nat) : Pt := .mk ⟨r, 0, 0⟩ 2
section
variable (fuel d : Nat) {h0 : AH} {r : Nat} {b : List UInt8}
theorem gr_c0 {h : AH} {L : List Chunk} {j k : Nat} (hs : Sep0 h0 h L) (hj : L[j]? = some (grCh r b k)) : h.cell (.mk ⟨r, 0, 0 + 0⟩ 2) = some (.slice (lstU b)) := hs.part hj (by omega) rfl
theorem gr_c1 {h : AH} {L : List Chunk} {j k : Nat} (hs : Sep0 h0 h L) (hj : L[j]? = some (grCh r b k)) : h.cell (.mk ⟨r, 0, 0 + 1⟩ 2) = some (.int .i64 (k : Int)) := hs.part hj (by omega) rfl
theorem gline_loop {W : List Wd} (hW : W.length < 1000000) {R : List Chunk} : ∀ (n k : Nat) (s : Sl) (h : AH), W.length < n + k → k ≤ W.length → Sep0 h0 h (.grown 1 s (strsC ((W.take k).map (·.text))) :: R) →
   ∃ s' h', l_aig_reader_line_0 fuel d n [(10, .slice s), (47, .slice (lstW W)), (48, .int .i64 (W.length : Int)), (49, .int .i64 (k : Int))] h = some (.exit 0, [(10, .slice s')], h') ∧ Sep0 h0 h' (.grown 1 s' (strsC (W.map (·.text))) :: R) := by
 intro n
 induction n with
 | zero => intro k s h h1 h2; omega
 | succ n ih =>
   intro k s h h1 h2 hs
   have hsl := hs.len (i := 0) rfl
   simp only [List.length_map, List.length_take, Nat.mul_one] at hsl
   rw [l_aig_reader_line_0_eq]
   by_cases hk : k < W.length
   · rw [bif_pos (by omega), waddr h hk, o_bd, cellsAt_fp (wdC_len _), o_bd, cond_pos _ _ (show (!false && Nat.beq (List.length (wdC (W.getD k ⟨[], 0, false⟩))) 3 && List.all (wdC (W.getD k ⟨[], 0, false⟩)) AV.isCell) = true from rfl)]
     have s1 := (hs.push 1 3 (cs := [(.str (⟨#[]⟩ : ByteArray)), (.int .i64 (0 : Int)), (.bool false)]) rfl).cons
     obtain ⟨h3, e3, s3⟩ := s1.putAll (i := 0) (vs := wdC (W.getD k ⟨[], 0, false⟩)) rfl rfl rfl
     have c0 : h3.cell (.mk ⟨h.next, 0, 0 + 0⟩ 3) = some (.str (tx (W.getD k ⟨[], 0, false⟩).text)) := s3.part (i := 0) rfl (by omega) rfl
     have s4 : Sep0 h0 h3 (.grown 1 s (strsC ((W.take k).map (·.text))) :: R) := s3.tail
     obtain ⟨s', h', e1, s5, _⟩ := s4.grow (i := 0) (bytes := 16) (m := 1) (vs := [.str (tx (W.getD k ⟨[], 0, false⟩).text)]) rfl rfl (by omega) (by omega)
     rw [set0] at s5
     rw [e3, o_bd, field_mk, o_bd, c0, o_bd, str_str, o_bd, e1, o_bd, sucU (by omega)]
     refine ih (k + 1) s' h' (by omega) (by omega) ?_
     rw [take_get hk ⟨[], 0, false⟩, List.map_append, strsC, List.map_append]
     exact s5
   · obtain rfl : k = W.length := by omega
     rw [bif_neg (by omega)]
     rw [List.take_length] at hs
     exact ⟨s, h, rfl, hs⟩
theorem gline_run (hf : b.length + 30 < fuel) (hb : b.length < 1000000) {L : List Chunk} {j k : Nat} {h : AH} (many : Nat) (hs : Sep0 h0 h L) (hj : L[j]? = some (grCh r b k)) :
   match lnT (b.drop k) many with
   | none => ∃ h', run fuel (d + 4) F_aig_reader_line [.ptr (gP r), .int .i64 (many : Int)] h = some (.tup [.slice .nil, atV (k : Int) err_api_ErrText], h') ∧ Sep0 h0 h' L
   | some (ws, m) => ∃ h' s, run fuel (d + 4) F_aig_reader_line [.ptr (gP r), .int .i64 (many : Int)] h = some (.tup [.slice s, .nilif], h') ∧ Sep0 h0 h' (.grown 1 s (strsC ws) :: L.set j (grCh r b (k + m))) ∧ ws.length = many := by
 rw [e_aig_reader_line]
 simp only [chk_mk, field_mk, o_bd, gr_c0 hs hj, gr_c1 hs hj, slice_slice, int_int]
 rw [tLine_run fuel d hb]
 have bad : ∀ (t : List UInt8) (x : Int) (is : Bool), t.length ≤ b.length → (is = false ∨ (splitOf t false).length ≠ many) →
     ∃ h', ((some (tupL (t, x, is), h)).bind fun r9 =>
   (bif AV.isTup 3 r9.1 then ((AV.comp 0 r9.1).bind fun u10 =>
   (AV.str? u10).bind fun s11 =>
   (AV.comp 1 r9.1).bind fun u12 =>
   (AV.int? .i64 u12).bind fun n13 =>
   (AV.comp 2 r9.1).bind fun u14 =>
   (AV.bool? u14).bind fun b15 =>
   (run fuel (d + 3) F_word_Split [(.slice (Sl.mk ⟨AH.next r9.2, 0, 0⟩ (ByteArray.size s11) false)), (.bool false)] (AH.push r9.2 1 (bytesOf s11))).bind fun r16 =>
   (AV.slice? r16.1).bind fun s17 =>
   (bif (bif (!b15) then true else (!decide (((s17.len : Nat) : Int) = (many : Int)))) then ((AH.cell r16.2 (.mk ⟨r, 0, 0 + 1⟩ 2)).bind fun u20 =>
   (AV.int? .i64 u20).bind fun n21 =>
   (run fuel (d + 3) F_aig_at [(.int .i64 n21), err_api_ErrText] r16.2).bind fun r22 =>
   some ((AV.tup [(.slice Sl.nil), r22.1]), r22.2)) else ((AH.storeAt r16.2 [(.int .i64 n13)] (.mk ⟨r, 0, 0 + 1⟩ 2)).bind fun h25 =>
   (l_aig_reader_line_0 fuel (d + 3) fuel [(10, (.slice Sl.nil)), (47, (.slice s17)), (48, (.int .i64 ((s17.len : Nat) : Int))), (49, (.int .i64 (0 : Int)))] h25).bind fun p26 =>
   k_aig_reader_line_0 fuel (d + 3) p26.1 p26.2.1 p26.2.2))) else none)) = some (.tup [.slice .nil, atV (k : Int) err_api_ErrText], h') ∧ Sep0 h0 h' L := by
   intro t x is ht hbad
   have s1 := hs.push 1 t.length (cs := bytesC t) (by simp)
   have hcl := (s1.sep.own (i := L.length) List.getElem?_concat_length).cells false
   obtain ⟨h2, e2, k2⟩ := split_row fuel d (b := t) (c := false) (by omega) (by omega) hcl
   have s2 := s1.off k2
   refine ⟨h2, ?_, s2⟩
   rw [o_bd]
   simp only [tupL, tup3, cond_true, comp0, comp1, comp2, o_bd, str_str, int_int, bool_bool]
   rw [show (⟨t.toArray⟩ : ByteArray) = tx t from rfl, tx_size, bytesOf_tx, e2]
   simp only [o_bd, slice_slice]
   rw [len_lst, cond_pos _ _ (by
     rcases hbad with rfl | hbad
     · rfl
     · cases is
       · rfl
       · rw [Bool.not_true, cond_false, decide_eq_false (by omega)]; rfl), gr_c1 s2 hj]
   simp only [o_bd, int_int]
   rw [gat0 fuel (d + 2)]
   rfl
 unfold lineI lnT
 by_cases hk : (k : Int) < 0 ∨ (b.length : Int) ≤ (k : Int)
 · rw [if_pos hk, if_pos (by rw [List.drop_eq_nil_of_le (by omega)]; simp [Lib.indexByte])]
   exact bad [] 0 false (by simp) (.inl rfl)
 rw [if_neg hk, Int.toNat_natCast]
 by_cases hi : Lib.indexByte (b.drop k) 10 < 0
 · rw [if_pos hi, if_pos hi]
   exact bad [] 0 false (by simp) (.inl rfl)
 rw [if_neg hi, if_neg hi]
 obtain ⟨m, hm⟩ : ∃ m : Nat, Lib.indexByte (b.drop k) 10 = (m : Int) := ⟨(Lib.indexByte (b.drop k) 10).toNat, by omega⟩
 rw [hm, Int.toNat_natCast]
 have hmb : m < (b.drop k).length := by
   rcases index_lt (b.drop k) 10 with h | ⟨h, h2⟩
   · omega
   · rw [h2] at hm; omega
 rw [List.length_drop] at hmb
 have htl : ((b.drop k).take m).length = m := by simp; omega
 generalize (b.drop k).take m = t at htl
 simp only [List.length_map]
 by_cases hw : (splitOf t false).length = many
 · rw [if_pos hw]
   have s1 := hs.push 1 t.length (cs := bytesC t) (by simp)
   have hcl := (s1.sep.own (i := L.length) List.getElem?_concat_length).cells false
   obtain ⟨h2, e2, k2⟩ := split_row fuel d (b := t) (c := false) (by omega) (by omega) hcl
   have s2 := s1.off k2
   obtain ⟨h3, e3, s3⟩ := s2.put (i := j) (o := 1) (l := 2) (vs := [.int .i64 ((k + (m + 1) : Nat) : Int)]) hj (by simp) (by simp)
   have s3' : Sep0 h0 h3 (L.set j (grCh r b (k + (m + 1)))) := s3
   have hl := split_len t false
   obtain ⟨s', h4, e4, s4⟩ := gline_loop fuel (d + 3) (W := splitOf t false) (by omega) fuel 0 .nil h3 (by omega) (by omega) (s3'.addNil 1).cons
   refine ⟨h4, s', ?_, s4, by simpa using hw⟩
   rw [o_bd]
   simp only [tupL, tup3, cond_true, comp0, comp1, comp2, o_bd, str_str, int_int, bool_bool]
   rw [show (⟨t.toArray⟩ : ByteArray) = tx t from rfl, tx_size, bytesOf_tx, e2]
   simp only [o_bd, slice_slice]
   rw [len_lst, Bool.not_true, cond_false, bif_npos (by omega), show (k : Int) + (m : Int) + 1 = ((k + (m + 1) : Nat) : Int) by omega, show (0 + 1 : Nat) = 1 from rfl, e3]
   simp only [o_bd]
   rw [show ((0 : Nat) : Int) = 0 from rfl] at e4
   rw [e4, o_bd, k_aig_reader_line_0_x0]
 · rw [if_neg hw]
   exact bad t _ true (by omega) (.inr hw)
theorem shl_or {i acc m : Nat} (hi : i ≤ 4) (ha : acc < 128 ^ i) (hm : m < 128) : bitsOp .or .i64 (acc : Int) (IntKind.wrap .i64 ((IntKind.wrap .i64 (m : Int)) * 2 ^ min (Int.toNat (IntKind.wrap .i64 ((7 : Int) * (i : Int)))) (IntKind.bits .i64))) = ((acc + m * 128 ^ i : Nat) : Int) := by
 have hp : (128 : Nat) ^ i = 2 ^ (7 * i) := by rw [Nat.pow_mul]
 have hb : (128 : Nat) ^ i ≤ 268435456 := Nat.le_trans (Nat.pow_le_pow_right (by omega) hi) (by omega)
 have hmul : m * 128 ^ i ≤ 127 * 268435456 := Nat.mul_le_mul (by omega) hb
 rw [wrap64 (n := (m : Int)) (by omega) (by omega), wrap64 (n := (7 : Int) * (i : Int)) (by omega) (by omega), show ((7 : Int) * (i : Int)).toNat = 7 * i by omega, show IntKind.bits .i64 = 64 from rfl, Nat.min_eq_left (by omega)]
 have e : (m : Int) * 2 ^ (7 * i) = ((m * 2 ^ (7 * i) : Nat) : Int) := by simp
 rw [hp] at ha hmul ⊢
 rw [e, wrap64 (by omega) (by omega), orsh ha (by omega)]
theorem gnumR_loop {L : List Chunk} {j k : Nat} {h : AH} (hb : b.length < 1000000) (hk9 : k < 1000000000) (lo hi : Int) (hs : Sep0 h0 h L) (hj : L[j]? = some (grCh r b k)) : ∀ (n i acc : Nat), 5 < n + i → i ≤ 5 → acc < 128 ^ i →
   match (numT (5 - i) i acc (b.drop (k + i))).bind (fun p => if lo ≤ (p.1 : Int) ∧ (p.1 : Int) ≤ hi then some ((p.1 : Int), p.2) else none) with
   | none => l_aig_reader_number_0 fuel d n [(0, .ptr (gP r)), (1, .int .i64 lo), (2, .int .i64 hi), (8, .int .i64 (acc : Int)), (11, .int .i64 (i : Int))] h = some (.exit 0, [(0, .ptr (gP r)), (6, .bot), (7, .bot)], h)
   | some (v, m) => ∃ h', l_aig_reader_number_0 fuel d n [(0, .ptr (gP r)), (1, .int .i64 lo), (2, .int .i64 hi), (8, .int .i64 (acc : Int)), (11, .int .i64 (i : Int))] h = some (.ret, [(0, .ptr (gP r)), (6, .int .i64 v), (7, .nilif)], h') ∧ Sep0 h0 h' (L.set j (grCh r b (k + m))) := by
 intro n
 induction n with
 | zero => intro i acc h1 h2; omega
 | succ n ih =>
   intro i acc h1 h2 ha
   rw [l_aig_reader_number_0_eq]
   by_cases hi5 : i < 5
   · rw [bif_pos (by omega), show 5 - i = (5 - (i + 1)) + 1 by omega]
     simp only [chk_mk, field_mk, o_bd, gr_c0 hs hj, gr_c1 hs hj, slice_slice, int_int]
     rw [len_lst, show IntKind.wrap .i64 ((k : Int) + (i : Int)) = ((k + i : Nat) : Int) by rw [wrap64 (by omega) (by omega)]; omega]
     by_cases hk : k + i < b.length
     · rw [bif_neg (by omega), addr_lstM _ (by omega) (by omega) 0, Int.toNat_natCast, drop_cons hk]
       generalize b.getD (k + i) 0 = c
       simp only [o_bd, cell_fp, int_int]
       have hc := c.toNat_lt
       rw [bif_neg (show ¬ IntKind.wrap .i64 ((7 : Int) * (i : Int)) < 0 by rw [wrap64 (by omega) (by omega)]; omega), and127u c.toNat (by omega), shl_or (by omega) ha (Nat.mod_lt _ (by omega))]
       unfold numT
       have hp : 128 ^ (i + 1) = 128 * 128 ^ i := by rw [Nat.pow_succ, Nat.mul_comm]
       have hml : c.toNat % 128 * 128 ^ i ≤ 127 * 128 ^ i := Nat.mul_le_mul_right _ (by omega)
       have hlt : acc + c.toNat % 128 * 128 ^ i < 128 ^ (i + 1) := by omega
       generalize acc + c.toNat % 128 * 128 ^ i = v at hlt
       by_cases hge : 128 ≤ c.toNat
       · rw [bif_pos (by omega), if_pos hge, sucU (by omega)]
         have := ih (i + 1) v (by omega) (by omega) hlt
         rw [← Nat.add_assoc] at this
         exact this
       · rw [bif_neg (by omega), if_neg hge, o_bd]
         simp only
         by_cases hr : lo ≤ (v : Int) ∧ (v : Int) ≤ hi
         · rw [if_pos hr, decide_eq_false (by omega), decide_eq_false (by omega)]
           obtain ⟨h', e1, s1⟩ := hs.put (i := j) (o := 1) (l := 2) (vs := [.int .i64 ((k + (i + 1) : Nat) : Int)]) hj (by simp) (by simp)
           refine ⟨h', ?_, s1⟩
           simp only [cond_false]
           rw [show IntKind.wrap .i64 ((k : Int) + IntKind.wrap .i64 ((i : Int) + 1)) = ((k + (i + 1) : Nat) : Int) by rw [sucU (by omega), wrap64 (by omega) (by omega)]; omega, show (0 + 1 : Nat) = 1 from rfl, e1]
           rfl
         · rw [if_neg hr, cond_pos]
           by_cases hlo : (v : Int) < lo
           · rw [decide_eq_true hlo]; rfl
           · rw [decide_eq_false hlo, decide_eq_true (by omega)]; rfl
     · rw [bif_pos (by omega), List.drop_eq_nil_of_le (by omega)]
       rfl
   · obtain rfl : i = 5 := by omega
     rw [bif_neg (by omega)]
     rfl
theorem gnumR_run (hf : 30 < fuel) {L : List Chunk} {j k : Nat} {h : AH} (hb : b.length < 1000000) (hk9 : k < 1000000000) (lo hi : Int) (hs : Sep0 h0 h L) (hj : L[j]? = some (grCh r b k)) :
   match delG (b.drop k) lo hi with
   | none => run fuel (d + 2) F_aig_reader_number [.ptr (gP r), .int .i64 lo, .int .i64 hi] h = some (.tup [.int .i64 0, atV (k : Int) err_api_ErrText], h)
   | some (v, m) => ∃ h', run fuel (d + 2) F_aig_reader_number [.ptr (gP r), .int .i64 lo, .int .i64 hi] h = some (.tup [.int .i64 v, .nilif], h') ∧ Sep0 h0 h' (L.set j (grCh r b (k + m))) := by
 have hl := gnumR_loop fuel (d + 1) hb hk9 lo hi hs hj fuel 0 0 (by omega) (by omega) (by simp)
 rw [show ((0 : Nat) : Int) = 0 from rfl, Nat.add_zero, Nat.sub_zero] at hl
 rw [e_aig_reader_number]
 unfold delG
 cases hq : (numT 5 0 0 (b.drop k)).bind (fun p => if lo ≤ (p.1 : Int) ∧ (p.1 : Int) ≤ hi then some ((p.1 : Int), p.2) else none) with
 | none =>
   rw [hq] at hl
   simp only at hl ⊢
   rw [hl, o_bd, k_aig_reader_number_0_x0]
   simp only [chk_mk, field_mk, o_bd, gr_c1 hs hj, int_int]
   rw [gat0 fuel d]
   rfl
 | some vm =>
   obtain ⟨v, m⟩ := vm
   rw [hq] at hl
   obtain ⟨h', e1, s1⟩ := hl
   refine ⟨h', ?_, s1⟩
   rw [e1, o_bd, k_aig_reader_number_0_r]
end
end Go.Proofs.YtjagkijfngokaaaGreatDoor
