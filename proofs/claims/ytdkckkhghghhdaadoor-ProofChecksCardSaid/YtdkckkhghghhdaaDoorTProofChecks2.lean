/-
  Parts of the proof of ProofChecks: Steps: the reference's check, text, counts; what is light. qdimacs: a reader's block. qdimacs: a reader's blocks. qdimacs.Read. Clauses and formulas as text: the program's and the reference's. Clauses' text is read as they were. Steps: the reference's text, counts; the text is read as they were. skolemref.SameInts. skolemref.SameSteps. Clauses held against clauses; what the readers tell. Bytes held against themselves. ProofChecks.
-/
import Derived.Test.YtdkckkhghghhdaaDoorTProofChecks1
import Derived.Test.YtdkckkhghghhdaaDoorE
import Derived.Test.YtdkckkhghghhdaaDoorBm31
namespace Go.Proofs.YtdkckkhghghhdaaDoor
open Go.RowKit

theorem addr_stp (h : AHeap) {L : List Stp} {k : Nat} (hk : k < L.length) : h.addr 2 (lstS L) (k : Int) = some (.fp 0 (stepC (L.getD k (false, [])))) :=
  addr_lstN (sz := 2) (f := stepC) stepC_len (l := L) (j := (k : Int)) (by omega) (by omega) (false, []) false
theorem drop_stp {L : List Stp} {k : Nat} (hk : k < L.length) : L.drop k = L.getD k (false, []) :: L.drop (k + 1) := by rw [List.drop_eq_getElem_cons hk]; simp [List.getD, hk]

/-! light -/
theorem plight_loop (fuel d : Nat) {L : List Stp} (hL : L.length < 1000000) (hl : ∀ s ∈ L, s.2.length < 9000000000000000000 ∧ s.2.length < fuel) (h : AHeap) : ∀ (n k : Nat), L.length < n + k → k ≤ L.length →
    ∃ z, (l_skolemlaw20_light_0 fuel (d + 1) n [(0, .slice (lstS L)), (3, .int .i64 (k : Int))] h).bind (fun p => k_skolemlaw20_light_0 fuel (d + 1) p.1 p.2.1 p.2.2) = some (.bool z, h) ∧ (z = true → ∀ s ∈ L.drop k, s.2.length ≤ 30) := by
  intro n
  induction n with
  | zero => intro k h1 h2; omega
  | succ n ih =>
    intro k h1 h2
    rw [l_skolemlaw20_light_0_eq, len_lst]
    by_cases hk : k < L.length
    · obtain ⟨q1, q2⟩ := hl (L.getD k (false, [])) (by simp [List.getD, hk])
      rw [bif_pos (by omega), drop_stp hk]
      simp only [addr_stp _ hk]
      generalize L.getD k (false, []) = b at q1 q2
      simp only [Option.bind_some, stepC, field_fp, List.drop_succ_cons, List.drop_zero, cell_fp, slice_slice]
      rw [len_lst, near_run fuel d (freeze_lstI 7 b.2) q1 q2]
      simp only [Option.bind_some, bool_bool]
      by_cases h30 : 30 < b.2.length
      · rw [decide_eq_true (show (30 : Int) < (b.2.length : Int) by omega)]
        simp only [show ((true == false) = false) from rfl, cond_false, Option.bind_some, bool_bool, cond_true, k_skolemlaw20_light_0_r]
        exact ⟨false, rfl, fun h => by cases h⟩
      · rw [decide_eq_false (show ¬ (30 : Int) < (b.2.length : Int) by omega)]
        simp only [beq_self_eq_true, cond_true, Option.bind_some, bool_bool]
        cases hn : nearI b.2 with
        | false =>
          simp only [Bool.not_false, cond_true, Option.bind_some, k_skolemlaw20_light_0_r]
          exact ⟨false, rfl, fun h => by cases h⟩
        | true =>
          simp only [Bool.not_true, cond_false]
          rw [sucU (by omega)]
          obtain ⟨z, e1, e2⟩ := ih (k + 1) (by omega) (by omega)
          refine ⟨z, e1, fun hz c hc => ?_⟩
          rcases List.mem_cons.1 hc with rfl | hc
          · omega
          · exact e2 hz c hc
    · have : k = L.length := by omega
      subst this
      rw [bif_neg (by omega), List.drop_length]
      simp only [Option.bind_some, k_skolemlaw20_light_0_x0]
      exact ⟨true, rfl, fun _ c hc => by cases hc⟩
theorem plight_run (fuel d : Nat) {L : List Stp} (hf : 1000000 < fuel) (hl : ∀ s ∈ L, s.2.length < 9000000000000000000 ∧ s.2.length < fuel) (h : AHeap) :
    ∃ z, run fuel (d + 2) F_skolemlaw20_light [.slice (lstS L)] h = some (.bool z, h) ∧ (z = true → L.length ≤ 60 ∧ ∀ s ∈ L, s.2.length ≤ 30) := by
  have key : ∃ z, brun fuel (d + 2) F_skolemlaw20_light [.slice (lstS L)] AHeap.none = some (.bool z, AHeap.none) ∧ (z = true → L.length ≤ 60 ∧ ∀ s ∈ L, s.2.length ≤ 30) := by
    rw [e_skolemlaw20_light, len_lst]
    by_cases h60 : 60 < L.length
    · rw [bif_pos (by omega)]
      exact ⟨false, rfl, fun h => by cases h⟩
    · rw [bif_neg (by omega)]
      obtain ⟨z, e1, e2⟩ := plight_loop fuel d (by omega) hl AHeap.none fuel 0 (by omega) (by omega)
      rw [List.drop_zero] at e2
      exact ⟨z, e1, fun hz => ⟨by omega, e2 hz⟩⟩
  obtain ⟨z, e1, e2⟩ := key
  exact ⟨z, pure_of rfl rfl (cc1 (canon_lstS 7 L)) e1 rfl, e2⟩

/-! the reference's check -/
def rchkF (L : List Stp) : List AVal := if 320000 < litsN L then faultC 102 false 0 else match badS L 0 with
  | some k => faultC 104 true (k : Int)
  | none => faultC 0 false 0
theorem pchk_fault (L : List Stp) : ∃ c p x, rchkF L = faultC c p x ∧ IsFault (pchk L) c p x ∧ (c = 0 → litsN L ≤ 320000 ∧ badS L 0 = none) := by
  unfold rchkF pchk
  by_cases h : 320000 < litsN L
  · rw [if_pos h, if_pos h]
    exact ⟨102, false, 0, rfl, IsFault.bare (j := 1) (by omega), fun h => by omega⟩
  · rw [if_neg h, if_neg h]
    cases badS L 0 with
    | none => exact ⟨0, false, 0, rfl, .fine, fun _ => ⟨by omega, rfl⟩⟩
    | some k => exact ⟨104, true, (k : Int), rfl, IsFault.at (j := 3) (by omega) (k : Int), fun h => by omega⟩
theorem RIs_val (fuel d : Nat) (l n : Int) (h : AHeap) : run fuel (d + 1) F_skolemref1_Is [.int .i64 l, .int .i64 n] h = some (.bool (isI l n), h) := by
  refine pure_of rfl rfl (cc2 rfl rfl) (r := .bool (isI l n)) (h' := AHeap.none) ?_ rfl
  rw [e_skolemref1_Is]
  unfold isI
  cases decide (l = 0) <;> cases decide (l ≤ n) <;> cases decide (IntKind.wrap .i64 (0 - n) ≤ l) <;> rfl
theorem rpc_sum (fuel d : Nat) {L : List Stp} {x2 : Pt} (hL : L.length < 1000000) (h : AHeap) : ∀ (n k a : Nat), L.length < n + k → k ≤ L.length → a + litsN (L.drop k) < 1000000000000 →
    l_skolemref20_Check_0 fuel d n [(0, .slice (lstS L)), (2, .ptr x2), (3, .int .i64 (a : Int)), (4, .int .i64 (k : Int))] h = some (.exit 0, [(0, .slice (lstS L)), (2, .ptr x2), (3, .int .i64 ((a + litsN (L.drop k) : Nat) : Int))], h) := by
  intro n
  induction n with
  | zero => intro k a h1 h2; omega
  | succ n ih =>
    intro k a h1 h2 h3
    rw [l_skolemref20_Check_0_eq, len_lst]
    by_cases hk : k < L.length
    · rw [drop_stp hk] at h3 ⊢
      rw [bif_pos (by omega), addr_stp _ hk]
      generalize L.getD k (false, []) = b at h3
      simp only [litsN, List.map_cons, List.sum_cons] at h3 ⊢
      simp only [Option.bind_some, stepC, field_fp, List.drop_succ_cons, List.drop_zero, cell_fp, slice_slice]
      rw [len_lst, sumI (by omega), sucU (by omega), ih (k + 1) (a + b.2.length) (by omega) (by omega) (by simp only [litsN]; omega)]
      simp only [litsN]
      rw [Nat.add_assoc]
    · have : k = L.length := by omega
      subst this
      rw [bif_neg (by omega), List.drop_length]
      rfl
theorem rpc_in (fuel d : Nat) {L : List Stp} {F k : Nat} {fc : List AVal} {h0 h : AHeap} (hk : k < L.length) (hfc : fc.length = 3) (hs : Sep0 h0 h [.own 1 F 0 3 fc]) (hl : (L.getD k (false, [])).2.length < 1000000) : ∀ (n j : Nat), (L.getD k (false, [])).2.length < n + j → j ≤ (L.getD k (false, [])).2.length →
    if (((L.getD k (false, [])).2.drop j).any fun l => !isI l 4000) = true then ∃ h', l_skolemref20_Check_2 fuel (d + 1) n [(0, .slice (lstS L)), (2, .ptr (.mk ⟨F, 0, 0⟩ 3)), (5, .int .i64 (k : Int)), (6, .int .i64 (j : Int))] h = some (.ret, [(0, .slice (lstS L)), (2, .ptr (.mk ⟨F, 0, 0⟩ 3)), (5, .int .i64 (k : Int))], h') ∧ Sep0 h0 h' [.own 1 F 0 3 (faultC 104 true (k : Int))]
    else l_skolemref20_Check_2 fuel (d + 1) n [(0, .slice (lstS L)), (2, .ptr (.mk ⟨F, 0, 0⟩ 3)), (5, .int .i64 (k : Int)), (6, .int .i64 (j : Int))] h = some (.exit 4, [(0, .slice (lstS L)), (2, .ptr (.mk ⟨F, 0, 0⟩ 3)), (5, .int .i64 (k : Int))], h) := by
  intro n
  induction n with
  | zero => intro j h1 h2; omega
  | succ n ih =>
    intro j h1 h2
    have step := l_skolemref20_Check_2_eq fuel (d + 1) n (lstS L) (.mk ⟨F, 0, 0⟩ 3) (k : Int) (j : Int) h
    have a1 := addr_stp h hk
    generalize L.getD k (false, []) = b at hl h1 h2 ih a1 ⊢
    simp only [a1, Option.bind_some, stepC, field_fp, List.drop_succ_cons, List.drop_zero, cell_fp, slice_slice] at step
    rw [len_lst] at step
    by_cases hj : j < b.2.length
    · have hd : b.2.drop j = b.2.getD j 0 :: b.2.drop (j + 1) := by rw [List.drop_eq_getElem_cons hj]; simp [List.getD, hj]
      rw [bif_pos (by omega), addr_lstM _ (by omega) (by omega) 0, Int.toNat_natCast] at step
      rw [hd]
      generalize b.2.getD j 0 = x at step
      simp only [Option.bind_some, cell_fp, int_int] at step
      rw [RIs_val fuel d] at step
      simp only [Option.bind_some, bool_bool, List.any_cons] at step ⊢
      by_cases hb : isI x 4000 = true
      · rw [hb] at step
        simp only [Bool.not_true, cond_false] at step
        rw [sucU (by omega)] at step
        rw [step]
        have := ih (j + 1) (by omega) (by omega)
        simp only [hb, Bool.not_true, Bool.false_or]
        exact this
      · rw [Bool.not_eq_true] at hb
        rw [hb, cond_pos _ _ (show (!false) = true from rfl), Placed_run fuel d (show (104 : Int) ≠ 0 by omega)] at step
        simp only [Option.bind_some, agg_agg] at step
        obtain ⟨g, e3, s3⟩ := hs.putAll (i := 0) (vs := faultC 104 true (k : Int)) rfl hfc rfl
        rw [cond_pos _ _ (okF 104 true _), e3] at step
        simp only [hb, Bool.not_false, Bool.true_or, if_true]
        exact ⟨g, step, s3⟩
    · have : j = b.2.length := by omega
      subst this
      rw [bif_neg (by omega)] at step
      rw [List.drop_length]
      simpa using step
theorem rpc_out (fuel d : Nat) {L : List Stp} {F : Nat} {fc : List AVal} {h0 h : AHeap} (hfc : fc.length = 3) (hs : Sep0 h0 h [.own 1 F 0 3 fc]) (hL : L.length < 1000000) (hl : ∀ s ∈ L, s.2.length < 1000000 ∧ s.2.length < fuel) : ∀ (n k : Nat), L.length < n + k → k ≤ L.length →
    ∃ h', (l_skolemref20_Check_1 fuel (d + 1) n [(0, .slice (lstS L)), (2, .ptr (.mk ⟨F, 0, 0⟩ 3)), (5, .int .i64 (k : Int))] h).bind (fun p => k_skolemref20_Check_1 fuel (d + 1) p.1 p.2.1 p.2.2) = some (.agg (match badS (L.drop k) k with
      | some k => faultC 104 true (k : Int)
      | none => faultC 0 false 0), h') := by
  intro n
  induction n with
  | zero => intro k h1 h2; omega
  | succ n ih =>
    intro k h1 h2
    rw [l_skolemref20_Check_1_eq, len_lst]
    by_cases hk : k < L.length
    · obtain ⟨q1, q2⟩ := hl (L.getD k (false, [])) (by simp [List.getD, hk])
      have q := rpc_in fuel d hk hfc hs q1 fuel 0 (by omega) (by omega)
      rw [List.drop_zero, show ((0 : Nat) : Int) = 0 from rfl] at q
      rw [bif_pos (by omega), drop_stp hk]
      unfold badS
      by_cases hb : ((L.getD k (false, [])).2.any fun l => !isI l 4000) = true
      · rw [if_pos hb] at q ⊢
        obtain ⟨h', e1, s4⟩ := q
        rw [e1]
        simp only [Option.bind_some, k_skolemref20_Check_2_r, k_skolemref20_Check_1_r]
        rw [s4.getAll (i := 0) rfl rfl]
        exact ⟨h', rfl⟩
      · rw [if_neg hb] at q ⊢
        rw [q]
        simp only [Option.bind_some, k_skolemref20_Check_2_x4]
        rw [sucU (by omega)]
        exact ih (k + 1) (by omega) (by omega)
    · have : k = L.length := by omega
      subst this
      rw [bif_neg (by omega), List.drop_length]
      simp only [Option.bind_some, k_skolemref20_Check_1_x2]
      rw [None_run fuel d]
      simp only [Option.bind_some, agg_agg]
      obtain ⟨g, e3, s3⟩ := hs.putAll (i := 0) (vs := faultC 0 false 0) rfl hfc rfl
      rw [cond_pos _ _ (okF 0 false 0), e3, Option.bind_some, s3.getAll (i := 0) rfl rfl]
      exact ⟨g, rfl⟩
theorem rpc_run (fuel d : Nat) {L : List Stp} (hL : L.length < 1000000) (hLf : L.length < fuel) (hN : litsN L < 1000000000) (hl : ∀ s ∈ L, s.2.length < 1000000 ∧ s.2.length < fuel) (h : AHeap) : run fuel (d + 2) F_skolemref20_Check [.slice (lstS L)] h = some (.agg (rchkF L), h) := by
  have key : ∃ h', brun fuel (d + 2) F_skolemref20_Check [.slice (lstS L)] AHeap.none = some (.agg (rchkF L), h') := by
    have s1 := (Sep0.start AHeap.none).push 1 3 (cs := [(AVal.int .i64 (0 : Int)), (.bool false), (.int .i64 (0 : Int))]) rfl
    rw [e_skolemref20_Check]
    have := rpc_sum fuel (d + 1) (L := L) (x2 := .mk ⟨AHeap.next AHeap.none, 0, 0⟩ 3) hL (AHeap.none.push 1 [(AVal.int .i64 (0 : Int)), (.bool false), (.int .i64 (0 : Int))]) fuel 0 0 (by omega) (by omega) (by rw [List.drop_zero]; omega)
    rw [List.drop_zero, Nat.zero_add, show ((0 : Nat) : Int) = 0 from rfl] at this
    rw [this, Option.bind_some, k_skolemref20_Check_0_x0]
    unfold rchkF
    by_cases h0 : 320000 < litsN L
    · rw [bif_pos (by omega), if_pos h0, Bare_run fuel d]
      simp only [Option.bind_some, agg_agg]
      obtain ⟨g, e3, s3⟩ := s1.putAll (i := 0) (vs := faultC 102 false 0) rfl rfl rfl
      rw [cond_pos _ _ (okF 102 false 0), e3, Option.bind_some, s3.getAll (i := 0) rfl rfl]
      exact ⟨g, rfl⟩
    · rw [bif_neg (by omega), if_neg h0]
      exact rpc_out fuel d rfl s1 hL hl fuel 0 (by omega) (by omega)
  obtain ⟨h', e⟩ := key
  obtain ⟨c, p, x, e2, _⟩ := pchk_fault L
  refine pure_of rfl rfl (cc1 (canon_lstS 7 L)) e ?_
  rw [e2]; exact freeze_fault c p x
end Go.Proofs.YtdkckkhghghhdaaDoor

namespace Go.Proofs.YtdkckkhghghhdaaDoor
open Go.RowKit

abbrev rdrC (W : List Wd) (k : Nat) (e vars : Int) (m : Nat) : List AVal := [.slice (lstW W), .int .i64 (k : Int), .int .i64 e, .int .i64 vars, .map (some m)]
abbrev zeroW : List AVal := [.str (⟨#[]⟩ : ByteArray), .int .i64 (0 : Int), .bool false]
/-- what a block hands back -/
def BlkPost (W : List Wd) (e vars : Int) (R m : Nat) (L : List Chunk) (h0 : AHeap) : BkR → AVal → AHeap → Prop
  | .bad p, v, h' => ∃ r, v = .tup [.slice .nil, .iface T_p_api_At (.ptr (.mk ⟨r, 0, 0⟩ 2))] ∧ Sep0 h0 h' (.own 1 r 0 2 [.int .i64 p, err_api_ErrText] :: L)
  | .ok l seen ws, v, h' => ∃ s' k', v = .tup [.slice s', .nilif] ∧ Sep0 h0 h' (.own 1 R 0 5 (rdrC W k' e vars m) :: .mp h0.maps.length m (seenM seen) :: .grown 1 s' (intsC l) :: L) ∧ ws = W.drop k' ∧ k' ≤ W.length
end Go.Proofs.YtdkckkhghghhdaaDoor

namespace Go.Proofs.YtdkckkhghghhdaaDoor
open Go.RowKit

def begE : List Wd → Bool
  | [] => false
  | w :: _ => w.first && w.text == [101]
def begI : List Wd → Bool
  | [] => false
  | w :: _ => isBk w
/-- what all blocks hand back -/
def BsPost (W : List Wd) (e vars : Int) (R m : Nat) (L : List Chunk) (h0 : AHeap) : BsR → AVal → AHeap → Prop
  | .bad p, v, h' => ∃ r, v = .tup [.slice .nil, .iface T_p_api_At (.ptr (.mk ⟨r, 0, 0⟩ 2))] ∧ Sep0 h0 h' (.own 1 r 0 2 [.int .i64 p, err_api_ErrText] :: L)
  | .ok l ws, v, h' => ∃ s' k' seen, v = .tup [.slice s', .nilif] ∧ Sep0 h0 h' (.own 1 R 0 5 (rdrC W k' e vars m) :: .mp h0.maps.length m (seenM seen) :: .grown 2 s' (blksC l) :: L) ∧ ws = W.drop k' ∧ k' ≤ W.length
end Go.Proofs.YtdkckkhghghhdaaDoor

namespace Go.Proofs.YtdkckkhghghhdaaDoor
open Go.RowKit

/-- variables, blocks, clauses, what is amiss -/
abbrev FR := Int × List Blk × List (List Int) × Option (Int × Int)
def rdF (b : List UInt8) : FR := match headT (b.length : Int) (splitOf b true) with
  | .bad c p => (0, [], [], some (c, p))
  | .ok v m => match blocksT (b.length : Int) v ((splitOf b true).length + 1) ((splitOf b true).drop 4) [] [] with
    | .bad p => (0, [], [], some (101, p))
    | .ok bs ws => match clT (b.length : Int) v m ws [] [] with
      | .bad p => (0, [], [], some (101, p))
      | .ok l => (v, bs, l, none)
def formulaC (bs : List Blk) (v : Int) (l : List (List Int)) : List AVal := [.slice (lstBk bs), .int .i64 v, .slice (lstLL l)]
def frA (r : FR) : AVal := .tup [.agg (formulaC r.2.1 r.1 r.2.2.1), errO r.2.2.2]
abbrev zero3 : List AVal := [(AVal.slice Sl.nil), (.int .i64 (0 : Int)), (.slice Sl.nil)]
end Go.Proofs.YtdkckkhghghhdaaDoor

namespace Go.Proofs.YtdkckkhghghhdaaDoor
open Go.RowKit

/-- a line's numbers -/
def LnOk (l : List Int) : Prop := l.length < 1000 ∧ ∀ x ∈ l, Num64 x
theorem numsT_num : ∀ {l : List Int}, (∀ x ∈ l, Num64 x) → (numsT l).length ≤ 21 * l.length
  | [], _ => by simp [numsT]
  | x :: l, hx => by
    have h1 := numsT_num (l := l) fun y hy => hx y (List.mem_cons_of_mem _ hy)
    have h2 := decT_len (hx x (List.mem_cons_self ..))
    have e : numsT (x :: l) = decT x ++ [32] ++ numsT l := by simp [numsT]
    rw [e, List.length_append, List.length_append, List.length_cons]
    simp
    omega
theorem LnOk.len {l : List Int} (h : LnOk l) : (lineT l).length ≤ 30000 := by
  have := numsT_num h.2
  have := h.1
  simp only [lineT, List.length_append, List.length_cons, List.length_nil]
  omega
def linesT (l : List (List Int)) : List UInt8 := l.flatMap lineT
def blkT (b : Blk) : List UInt8 := (if b.1 = true then [101, 32] else [97, 32]) ++ lineT b.2
def blksT (l : List Blk) : List UInt8 := l.flatMap blkT
def cnfTx (v : Int) (l : List (List Int)) : List UInt8 := headTx v (l.length : Int) ++ linesT l
def formTx (bs : List Blk) (v : Int) (l : List (List Int)) : List UInt8 := headTx v (l.length : Int) ++ blksT bs ++ linesT l

theorem bytes_fr {h0 h : AHeap} {s : Sl} {t : List UInt8} (hs : Sep0 h0 h [.grown 1 s (bytesC t)]) : freezeV h 8 (.slice s) = some (.slice (lstU t)) := by
  have hl := hs.len (i := 0) rfl
  simp only [List.length_map, Nat.mul_one] at hl
  rw [(hs.sep.grown (i := 0) rfl).freeze (n := 7) (by omega) (freeze_bytesC 6 _), ← hl]
/-! formulas -/
/-! the reference's -/
end Go.Proofs.YtdkckkhghghhdaaDoor

namespace Go.Proofs.YtdkckkhghghhdaaDoor
open Go.RowKit

/-- words of numbers -/
def numWs : List Int → Nat → Bool → List Wd
  | [], _, _ => []
  | x :: l, p, f => ⟨decT x, p, f⟩ :: numWs l (p + (decT x).length + 1) false
theorem W_nums : ∀ (l : List Int) (r : List UInt8) (p : Nat) (f : Bool), wordsOf (numsT l ++ r) p f false = numWs l p f ++ wordsOf r (p + (numsT l).length) (f && l.isEmpty) false
  | [], r, p, f => by simp [numsT, numWs]
  | x :: l, r, p, f => by
    obtain ⟨w1, w2, w3, _⟩ := decT_word x
    have e : numsT (x :: l) = decT x ++ 32 :: numsT l := by simp [numsT]
    rw [e, List.append_assoc, List.cons_append, W_one w1 w2 (Stops.sp _) p (fun _ => w3), W_sp, W_nums l]
    simp only [numWs, List.cons_append, List.length_append, List.length_cons, List.isEmpty_cons, Bool.and_false, Bool.false_and]
    rw [show p + (decT x).length + 1 + (numsT l).length = p + ((decT x).length + ((numsT l).length + 1)) by omega]
theorem W_line (l : List Int) (r : List UInt8) (p : Nat) (f : Bool) : ∃ q, wordsOf (lineT l ++ r) p f false = numWs l p f ++ ⟨[48], p + (numsT l).length, f && l.isEmpty⟩ :: wordsOf r q true false ∧ q = p + (lineT l).length := by
  refine ⟨p + (lineT l).length, ?_, rfl⟩
  have e : lineT l ++ r = numsT l ++ ([48] ++ 10 :: r) := by simp [lineT]
  rw [e, W_nums, W_one (by simp) (by decide) (Stops.nl r) _ (fun _ => by simp), W_nl]
  simp [lineT, Nat.add_assoc]
/-- a literal that is read as it is -/
def LitOk (v x : Int) : Prop := x ≠ 0 ∧ isI x v = true ∧ -1000000000 < x ∧ x < 1000000000
theorem LitOk.text {v x : Int} (h : LitOk v x) : noLitV (decT x) v = false ∧ numW (decT x) = x := by
  obtain ⟨a1, a2, _⟩ := decT_num h.2.2.1 h.2.2.2
  refine ⟨?_, a2⟩
  unfold noLitV
  rw [a1, a2, decide_eq_false h.1, h.2.1]; rfl
end Go.Proofs.YtdkckkhghghhdaaDoor

namespace Go.Proofs.YtdkckkhghghhdaaDoor
open Go.RowKit

/-! counts -/
def cntD (L : List Stp) : Nat := (L.filter fun s => s.1).length
theorem cntD_le (L : List Stp) : cntD L ≤ L.length := List.length_filter_le _ _
theorem cntD_cons (s : Stp) (L : List Stp) : cntD (s :: L) = (if s.1 = true then 1 else 0) + cntD L := by
  unfold cntD
  rw [List.filter_cons]
  split <;> simp <;> omega
theorem pcount_loop (fuel d : Nat) {L : List Stp} (hL : L.length < 1000000) {h0 : AHeap} : ∀ (n k a b : Nat) (h : AHeap), L.length < n + k → k ≤ L.length → a ≤ k → b ≤ k → Sep0 h0 h [] →
    ∃ h', (l_proof_Count_0 fuel d n [(4, .int .i64 (a : Int)), (5, .int .i64 (b : Int)), (8, .slice (lstS L)), (9, .int .i64 (L.length : Int)), (10, .int .i64 (k : Int))] h).bind (fun p => k_proof_Count_0 fuel d p.1 p.2.1 p.2.2) = some (.tup [.int .i64 ((a + ((L.drop k).length - cntD (L.drop k)) : Nat) : Int), .int .i64 ((b + cntD (L.drop k) : Nat) : Int)], h') := by
  intro n
  induction n with
  | zero => intro k a b h h1 h2; omega
  | succ n ih =>
    intro k a b h h1 h2 h3 h4 hs
    rw [l_proof_Count_0_eq]
    by_cases hk : k < L.length
    · have hcl := cntD_le (L.drop (k + 1))
      rw [bif_pos (by omega), addr_stp _ hk, drop_stp hk]
      generalize L.getD k (false, []) = s
      obtain ⟨h3', e3, s3⟩ := copyS hs s
      have c0 : h3'.cell (.mk ⟨h.next, 0, 0 + 0⟩ 2) = some (.bool s.1) := s3.part (i := 0) rfl (by omega) rfl
      rw [Option.bind_some, cellsAt_fp (stepC_len s), Option.bind_some, cond_pos _ _ (show (!false && Nat.beq (List.length (stepC s)) 2 && List.all (stepC s) AVal.isCell) = true from rfl), e3]
      simp only [Option.bind_some, field_mk, c0, bool_bool]
      rw [cntD_cons]
      cases hb : s.1 with
      | true =>
        rw [cond_true, sucU (by omega), sucU (by omega)]
        obtain ⟨h', e1⟩ := ih (k + 1) a (b + 1) h3' (by omega) (by omega) (by omega) (by omega) (s3.sub (List.nil_sublist _))
        refine ⟨h', ?_⟩
        rw [e1, if_pos rfl, List.length_cons, show a + ((L.drop (k + 1)).length + 1 - (1 + cntD (L.drop (k + 1)))) = a + ((L.drop (k + 1)).length - cntD (L.drop (k + 1))) by omega, show b + (1 + cntD (L.drop (k + 1))) = b + 1 + cntD (L.drop (k + 1)) by omega]
      | false =>
        rw [cond_false, sucU (by omega), sucU (by omega)]
        obtain ⟨h', e1⟩ := ih (k + 1) (a + 1) b h3' (by omega) (by omega) (by omega) (by omega) (s3.sub (List.nil_sublist _))
        refine ⟨h', ?_⟩
        rw [e1, if_neg (by simp), List.length_cons, show a + ((L.drop (k + 1)).length + 1 - (0 + cntD (L.drop (k + 1)))) = a + 1 + ((L.drop (k + 1)).length - cntD (L.drop (k + 1))) by omega, Nat.zero_add]
    · have : k = L.length := by omega
      subst this
      rw [bif_neg (by omega), List.drop_length]
      simp only [Option.bind_some, k_proof_Count_0_x0]
      exact ⟨h, rfl⟩
theorem pcount_run (fuel d : Nat) {L : List Stp} (hL : L.length < 1000000) (hLf : L.length < fuel) (h : AHeap) : run fuel (d + 1) F_proof_Count [.slice (lstS L)] h = some (.tup [.int .i64 ((L.length - cntD L : Nat) : Int), .int .i64 (cntD L : Int)], h) := by
  obtain ⟨h', e1⟩ := pcount_loop fuel d hL fuel 0 0 0 AHeap.none (by omega) (by omega) (by omega) (by omega) (Sep0.start _)
  rw [List.drop_zero, Nat.zero_add, Nat.zero_add, show ((0 : Nat) : Int) = 0 from rfl] at e1
  refine pure_of rfl rfl (cc1 (canon_lstS 7 L)) (r := .tup [.int .i64 ((L.length - cntD L : Nat) : Int), .int .i64 (cntD L : Int)]) (h' := h') ?_ rfl
  rw [e_proof_Count, len_lst]
  exact e1

/-! the reference's text -/
theorem rpb_in (fuel d : Nat) {L : List Stp} {k : Nat} (hk : k < L.length) (hl : (L.getD k (false, [])).2.length < 1000000) (hok : ∀ x ∈ (L.getD k (false, [])).2, AppOk fuel d x) {h0 : AHeap} : ∀ (n j : Nat) (s : Sl) (t : List UInt8) (h : AHeap), (L.getD k (false, [])).2.length < n + j → j ≤ (L.getD k (false, [])).2.length → t.length + 30 * ((L.getD k (false, [])).2.length - j) < 800000000 → Sep0 h0 h [.grown 1 s (bytesC t)] →
    ∃ s' h', l_skolemref20_Bytes_1 fuel d n [(0, .slice (lstS L)), (3, .slice s), (4, .int .i64 (k : Int)), (5, .int .i64 (j : Int))] h = some (.exit 2, [(0, .slice (lstS L)), (3, .slice s'), (4, .int .i64 (k : Int))], h') ∧ Sep0 h0 h' [.grown 1 s' (bytesC (t ++ numsT ((L.getD k (false, [])).2.drop j)))] := by
  intro n
  induction n with
  | zero => intro j s t h h1 h2; omega
  | succ n ih =>
    intro j s t h h1 h2 ht hs
    have step := l_skolemref20_Bytes_1_eq fuel d n (lstS L) s (k : Int) (j : Int) h
    have a1 := addr_stp h hk
    generalize L.getD k (false, []) = b at hl hok h1 h2 ht ih a1 ⊢
    simp only [a1, Option.bind_some, stepC, field_fp, List.drop_succ_cons, List.drop_zero, cell_fp, slice_slice] at step
    rw [len_lst] at step
    by_cases hj : j < b.2.length
    · have hd : b.2.drop j = b.2.getD j 0 :: b.2.drop (j + 1) := by rw [List.drop_eq_getElem_cons hj]; simp [List.getD, hj]
      have hx := hok (b.2.getD j 0) (by simp [List.getD, hj])
      rw [bif_pos (by omega), addr_lstM _ (by omega) (by omega) 0, Int.toNat_natCast] at step
      rw [hd]
      generalize b.2.getD j 0 = x at step hx
      simp only [Option.bind_some, cell_fp, int_int] at step
      obtain ⟨s1, g1, e1, q1, q2⟩ := hx h0 h s t (by omega) hs
      rw [e1] at step
      simp only [Option.bind_some, slice_slice] at step
      rw [show [(AVal.int .u8 (32 : Int))] = bytesC [32] from rfl, lit_cells g1 [32] (n := 1) rfl, Option.bind_some, Sl.len] at step
      obtain ⟨s2, g2, e2, q3⟩ := lit_append (q1.junk (cs := bytesC [32])) [32] (m := 1) rfl (by simp; omega)
      rw [e2, Option.bind_some, sucU (by omega)] at step
      obtain ⟨s3, g3, e3, q4⟩ := ih (j + 1) s2 (t ++ decT x ++ [32]) g2 (by omega) (by omega) (by simp; omega) q3
      refine ⟨s3, g3, by rw [step]; exact e3, ?_⟩
      have : t ++ decT x ++ [32] ++ numsT (b.2.drop (j + 1)) = t ++ numsT (x :: b.2.drop (j + 1)) := by simp [numsT]
      rw [← this]
      exact q4
    · have : j = b.2.length := by omega
      subst this
      rw [bif_neg (by omega)] at step
      rw [List.drop_length]
      exact ⟨s, h, step, by simpa [numsT] using hs⟩
theorem rpb_out (fuel d : Nat) {L : List Stp} (hL : L.length < 10000) (hok : ∀ s ∈ L, s.2.length < 1000 ∧ s.2.length < fuel ∧ ∀ x ∈ s.2, AppOk fuel d x) {h0 : AHeap} : ∀ (n k : Nat) (o : Sl) (t : List UInt8) (h : AHeap), L.length < n + k → k ≤ L.length → t.length + 40000 * (L.length - k) < 700000000 → Sep0 h0 h [.grown 1 o (bytesC t)] →
    ∃ s' h', (l_skolemref20_Bytes_0 fuel d n [(0, .slice (lstS L)), (3, .slice o), (4, .int .i64 (k : Int))] h).bind (fun p => k_skolemref20_Bytes_0 fuel d p.1 p.2.1 p.2.2) = some (.slice s', h') ∧ Sep0 h0 h' [.grown 1 s' (bytesC (t ++ stepsT (L.drop k)))] := by
  intro n
  induction n with
  | zero => intro k o t h h1 h2; omega
  | succ n ih =>
    intro k o t h h1 h2 ht hs
    rw [l_skolemref20_Bytes_0_eq, len_lst]
    by_cases hk : k < L.length
    · obtain ⟨b1, b2, b3⟩ := hok (L.getD k (false, [])) (by simp [List.getD, hk])
      have hnl := numsT_len (h := h) b3
      have inner := fun (s : Sl) (t : List UInt8) (h : AHeap) => rpb_in fuel d hk (by omega) b3 (h0 := h0) fuel 0 s t h (by omega) (by omega)
      simp only [List.drop_zero, show ((0 : Nat) : Int) = 0 from rfl] at inner
      rw [bif_pos (by omega), addr_stp _ hk, drop_stp hk]
      generalize L.getD k (false, []) = b at b1 b2 b3 hnl inner
      simp only [Option.bind_some, stepC, field_fp, List.drop_zero, cell_fp, bool_bool]
      have tail : ∀ (u : List UInt8) (a : Sl) (g : AHeap), u.length ≤ 2 → u ++ lineT b.2 = stepT b → Sep0 h0 g [.grown 1 a (bytesC (t ++ u))] →
          ∃ s' h', (((l_skolemref20_Bytes_1 fuel d fuel [(0, .slice (lstS L)), (3, .slice a), (4, .int .i64 (k : Int)), (5, .int .i64 (0 : Int))] g).bind fun p8 => k_skolemref20_Bytes_1 fuel d n p8.1 p8.2.1 p8.2.2).bind (fun p => k_skolemref20_Bytes_0 fuel d p.1 p.2.1 p.2.2)) = some (.slice s', h') ∧ Sep0 h0 h' [.grown 1 s' (bytesC (t ++ stepsT (b :: L.drop (k + 1))))] := by
        intro u a g hu hub sg
        obtain ⟨s1, g1, e1, q1⟩ := inner a (t ++ u) g (by rw [List.length_append]; omega) sg
        rw [e1]
        simp only [Option.bind_some, k_skolemref20_Bytes_1_x2]
        rw [show [(AVal.int .u8 (48 : Int)), (AVal.int .u8 (10 : Int))] = bytesC [48, 10] from rfl, lit_cells g1 [48, 10] (n := 2) rfl, Option.bind_some, Sl.len]
        obtain ⟨s2, g2, e2, q2⟩ := lit_append (q1.junk (cs := bytesC [48, 10])) [48, 10] (m := 2) rfl (by simp; omega)
        rw [e2, Option.bind_some, sucU (by omega)]
        obtain ⟨s3, g3, e3, q3⟩ := ih (k + 1) s2 _ g2 (by omega) (by omega) (by simp; omega) q2
        refine ⟨s3, g3, e3, ?_⟩
        have : t ++ u ++ numsT b.2 ++ [48, 10] ++ stepsT (L.drop (k + 1)) = t ++ stepsT (b :: L.drop (k + 1)) := by
          have e9 : stepsT (b :: L.drop (k + 1)) = stepT b ++ stepsT (L.drop (k + 1)) := by simp [stepsT]
          rw [e9, ← hub]
          simp [lineT]
        rw [← this]
        exact q3
      cases hb : b.1 with
      | true =>
        rw [cond_true, show [(AVal.int .u8 (100 : Int)), (AVal.int .u8 (32 : Int))] = bytesC [100, 32] from rfl, lit_cells h [100, 32] (n := 2) rfl, Option.bind_some, Sl.len]
        obtain ⟨a, g, e4, s4⟩ := lit_append (hs.junk (cs := bytesC [100, 32])) [100, 32] (m := 2) rfl (by simp; omega)
        rw [e4, Option.bind_some]
        exact tail [100, 32] a g (by simp) (by unfold stepT; rw [hb]; rfl) s4
      | false =>
        rw [cond_false]
        exact tail [] o h (by simp) (by unfold stepT; rw [hb]; rfl) (by rw [List.append_nil]; exact hs)
    · have : k = L.length := by omega
      subst this
      rw [bif_neg (by omega), List.drop_length]
      simp only [Option.bind_some, k_skolemref20_Bytes_0_x0]
      exact ⟨o, h, rfl, by simpa [stepsT] using hs⟩
theorem rpb_run (fuel d : Nat) {L : List Stp} (hL : L.length < 10000) (hLf : L.length < fuel) (hok : ∀ s ∈ L, s.2.length < 1000 ∧ s.2.length < fuel ∧ ∀ x ∈ s.2, AppOk fuel d x) (h : AHeap) : run fuel (d + 1) F_skolemref20_Bytes [.slice (lstS L)] h = some (.slice (lstU (stepsT L)), h) := by
  obtain ⟨s', h', e1, q1⟩ := rpb_out fuel d hL hok fuel 0 .nil [] AHeap.none (by omega) (by omega) (by simp; omega) ((Sep0.start _).addNil 1)
  rw [List.drop_zero, List.nil_append] at q1
  refine pure_of rfl rfl (cc1 (canon_lstS 7 L)) (r := .slice s') (h' := h') ?_ (bytes_fr q1)
  rw [e_skolemref20_Bytes]
  exact e1

/-! what is written is read -/
theorem noLit_text {x : Int} (h : LitOk 4000 x) : noLit (decT x) = false ∧ numW (decT x) = x := by
  obtain ⟨a1, a2, _⟩ := decT_num h.2.2.1 h.2.2.2
  refine ⟨?_, a2⟩
  unfold noLit
  rw [a1, a2, decide_eq_false h.1, h.2.1]; rfl
theorem decT_d (x : Int) : (decT x == [100]) = false := beq_false_of_ne fun e => (decT_word x).2.2.2.2.2 (by rw [e]; rfl)
theorem readT_nums (e : Nat) : ∀ (l : List Int) (p : Nat) (f : Bool) (ws : List Wd) (out : List Stp) (now : Stp) (begun : Bool), (∀ x ∈ l, LitOk 4000 x) → readT e (numWs l p f ++ ws) out now begun = readT e ws out (now.1, now.2 ++ l) (begun || !l.isEmpty)
  | [], p, f, ws, out, now, begun, hl => by simp [numWs]
  | x :: l, p, f, ws, out, now, begun, hl => by
    have hx := hl x (List.mem_cons_self ..)
    obtain ⟨t1, t2⟩ := noLit_text hx
    simp only [numWs, List.cons_append, readT, t1, t2, decT_d, Bool.and_false]
    rw [if_neg (by simp), if_neg (by simp), if_neg hx.1, readT_nums e l _ _ _ _ _ _ fun y hy => hl y (List.mem_cons_of_mem _ hy)]
    simp
theorem readT_line (e : Nat) (l : List Int) (r : List UInt8) (p : Nat) (f : Bool) (out : List Stp) (now : Stp) (begun : Bool) (hl : ∀ x ∈ l, LitOk 4000 x) : ∃ q, readT e (wordsOf (lineT l ++ r) p f false) out now begun = readT e (wordsOf r q true false) (out ++ [(now.1, now.2 ++ l)]) (false, []) false ∧ q = p + (lineT l).length := by
  obtain ⟨q, e1, hq⟩ := W_line l r p f
  refine ⟨q, ?_, hq⟩
  have hz : noLit [48] = false ∧ numW [48] = 0 := by
    have : okNum [48] = true ∧ numW [48] = 0 := by decide
    refine ⟨?_, this.2⟩
    unfold noLit
    rw [this.1, this.2]; rfl
  rw [e1, readT_nums e l _ _ _ _ _ _ hl]
  simp only [readT, hz.1, hz.2]
  rw [if_neg (by simp), if_neg (by simp), if_pos trivial]
theorem readT_step (e : Nat) (s : Stp) (r : List UInt8) (p : Nat) (out : List Stp) (hl : ∀ x ∈ s.2, LitOk 4000 x) : ∃ q, readT e (wordsOf (stepT s ++ r) p true false) out (false, []) false = readT e (wordsOf r q true false) (out ++ [s]) (false, []) false ∧ q = p + (stepT s).length := by
  obtain ⟨b, l⟩ := s
  cases b with
  | false =>
    obtain ⟨q, e1, hq⟩ := readT_line e l r p true out (false, []) false hl
    have hs : stepT (false, l) = lineT l := by simp [stepT]
    exact ⟨q, by rw [hs, e1]; simp, by rw [hs, hq]⟩
  | true =>
    have hs : stepT (true, l) = [100, 32] ++ lineT l := by simp [stepT]
    have hw : stepT (true, l) ++ r = [100] ++ 32 :: (lineT l ++ r) := by rw [hs]; simp
    obtain ⟨q, e1, hq⟩ := readT_line e l r (p + 2) false out (true, []) true hl
    refine ⟨q, ?_, by rw [hs, hq, List.length_append]; simp; omega⟩
    rw [hw, W_one (by simp) (by decide) (Stops.sp _) p (fun _ => by simp), W_sp]
    simp only [readT]
    rw [if_pos (by simp), show p + ([100] : List UInt8).length + 1 = p + 2 from rfl, e1]
    simp
theorem readT_steps (e : Nat) (r : List UInt8) : ∀ (L : List Stp) (p : Nat) (out : List Stp), (∀ s ∈ L, ∀ x ∈ s.2, LitOk 4000 x) → ∃ q, readT e (wordsOf (stepsT L ++ r) p true false) out (false, []) false = readT e (wordsOf r q true false) (out ++ L) (false, []) false ∧ q = p + (stepsT L).length
  | [], p, out, hl => ⟨p, by simp [stepsT], by simp [stepsT]⟩
  | s :: L, p, out, hl => by
    have hs : stepsT (s :: L) = stepT s ++ stepsT L := by simp [stepsT]
    obtain ⟨q, e1, hq⟩ := readT_step e s (stepsT L ++ r) p out (hl s (List.mem_cons_self ..))
    obtain ⟨q2, e2, hq2⟩ := readT_steps e r L q (out ++ [s]) fun t ht => hl t (List.mem_cons_of_mem _ ht)
    refine ⟨q2, ?_, by rw [hq2, hq, hs, List.length_append]; omega⟩
    rw [hs, List.append_assoc, e1, e2]
    simp
theorem readA_text {L : List Stp} (hl : ∀ s ∈ L, ∀ x ∈ s.2, LitOk 4000 x) : readA (stepsT L) = .ok L := by
  obtain ⟨q, e1, _⟩ := readT_steps (stepsT L).length [] L 0 [] hl
  unfold readA
  rw [splitOf_words]
  rw [List.append_nil] at e1
  rw [e1, W_nil]
  simp [readT]
theorem stepsT_len : ∀ {L : List Stp}, (∀ s ∈ L, s.2.length ≤ 30 ∧ ∀ x ∈ s.2, Num64 x) → (stepsT L).length ≤ 700 * L.length
  | [], _ => by simp [stepsT]
  | s :: L, h => by
    have h1 := stepsT_len (L := L) fun t ht => h t (List.mem_cons_of_mem _ ht)
    obtain ⟨h2, h3⟩ := h s (List.mem_cons_self ..)
    have h4 := numsT_num h3
    have hs : stepsT (s :: L) = stepT s ++ stepsT L := by simp [stepsT]
    have h5 : (stepT s).length ≤ 2 + ((numsT s.2).length + 2) := by
      unfold stepT lineT
      cases s.1 <;> simp <;> omega
    rw [hs, List.length_append, List.length_cons]
    omega
end Go.Proofs.YtdkckkhghghhdaaDoor

namespace Go.Proofs.YtdkckkhghghhdaaDoor
open Go.RowKit

theorem sucS {m : Nat} (h : m < 9000000000000000000) : IntKind.wrap .i64 ((m : Int) + 1) = ((m + 1 : Nat) : Int) := by rw [wrap64 (by omega) (by omega)]; omega
theorem sameI_loop (fuel d : Nat) {a b : List Int} (hl : a.length = b.length) (hn : a.length < 1000000000) {h : AHeap} : ∀ (n k : Nat), a.length < n + k → k ≤ a.length → a.take k = b.take k →
    (l_skolemref_SameInts_0 fuel d n [(0, .slice (lstI a)), (1, .slice (lstI b)), (5, .int .i64 (k : Int))] h).bind (fun p => k_skolemref_SameInts_0 fuel d p.1 p.2.1 p.2.2) = some (.bool (decide (a = b)), h) := by
  intro n
  induction n with
  | zero => intro k h1 h2; omega
  | succ n ih =>
    intro k h1 h2 h3
    rw [l_skolemref_SameInts_0_eq, len_lst]
    by_cases hk : k < a.length
    · rw [bif_pos (by omega), addr_lstM _ (by omega) (by omega) 0, addr_lstM _ (by omega) (by omega) 0]
      simp only [Option.bind_some, cell_fp, int_int, Int.toNat_natCast]
      by_cases he : a.getD k 0 = b.getD k 0
      · rw [bif_npos he, sucS (by omega), ih (k + 1) (by omega) (by omega) (by rw [take_get hk 0, take_get (by omega) 0, h3, he])]
      · rw [bif_nneg he]
        simp only [Option.bind_some, k_skolemref_SameInts_0_r]
        rw [decide_eq_false (fun h => he (by rw [h]))]
    · have : k = a.length := by omega
      subst this
      rw [bif_neg (by omega)]
      have : a = b := by rw [List.take_length, hl, List.take_length] at h3; exact h3
      simp only [Option.bind_some, k_skolemref_SameInts_0_x0]
      rw [decide_eq_true this]
theorem sameI_run (fuel d : Nat) {a b : List Int} {s t : Sl} {h : AHeap} (hs : freezeV h 8 (.slice s) = some (.slice (lstI a))) (ht : freezeV h 8 (.slice t) = some (.slice (lstI b))) (hn : a.length < 1000000000) (hf : a.length < fuel) :
    run fuel (d + 1) F_skolemref_SameInts [.slice s, .slice t] h = some (.bool (decide (a = b)), h) := by
  refine run_val rfl rfl (mm2 hs ht) (r := .bool (decide (a = b))) (h' := AHeap.none) ?_ rfl rfl
  rw [e_skolemref_SameInts, len_lst, len_lst]
  by_cases hl : a.length = b.length
  · rw [bif_npos (by omega)]
    have := sameI_loop fuel d hl hn (h := AHeap.none) fuel 0 (by omega) (by omega) rfl
    exact this
  · rw [bif_nneg (by omega), decide_eq_false (fun h => hl (by rw [h]))]

end Go.Proofs.YtdkckkhghghhdaaDoor

namespace Go.Proofs.YtdkckkhghghhdaaDoor
open Go.RowKit

theorem sameStep_run (fuel d : Nat) {s : Stp} (hl : s.2.length < 1000000000) (hf : s.2.length < fuel) (h : AHeap) : run fuel (d + 2) F_skolemref_SameStep [.agg (stepC s), .agg (stepC s)] h = some (.bool true, h) := by
  have hc : canonV 8 (.agg (stepC s)) = some (.agg (stepC s)) := by
    unfold stepC
    rw [canon_agg, canonM_cons (u := .bool s.1) rfl (canonM_cons (u := .slice (lstI s.2)) (canon_lstI _ _) (canonM_nil _))]
    rfl
  refine pure_of rfl rfl (cc2 hc hc) (r := .bool true) ?_ rfl (h' := (AHeap.none.push 1 (stepC s)).push 1 (stepC s))
  rw [e_skolemref_SameStep, show List.all (stepC s) AVal.isCell = true from rfl, cond_true, cond_true, stepC_len]
  have s1 := ((Sep0.start AHeap.none).push 1 2 (cs := stepC s) rfl).push 1 2 (cs := stepC s) rfl
  have a0 : ((AHeap.none.push 1 (stepC s)).push 1 (stepC s)).cell (.mk ⟨AHeap.none.next, 0, 0 + 0⟩ 2) = some (.bool s.1) := s1.part (i := 0) rfl (by omega) rfl
  have a1 : ((AHeap.none.push 1 (stepC s)).push 1 (stepC s)).cell (.mk ⟨AHeap.none.next, 0, 0 + 1⟩ 2) = some (.slice (lstI s.2)) := s1.part (i := 0) rfl (by omega) rfl
  have b0 : ((AHeap.none.push 1 (stepC s)).push 1 (stepC s)).cell (.mk ⟨(AHeap.none.push 1 (stepC s)).next, 0, 0 + 0⟩ 2) = some (.bool s.1) := s1.part (i := 1) rfl (by omega) rfl
  have b1 : ((AHeap.none.push 1 (stepC s)).push 1 (stepC s)).cell (.mk ⟨(AHeap.none.push 1 (stepC s)).next, 0, 0 + 1⟩ 2) = some (.slice (lstI s.2)) := s1.part (i := 1) rfl (by omega) rfl
  simp only [field_mk, Option.bind_some, a0, a1, b0, b1, bool_bool, slice_slice]
  rw [show (s.1 == s.1) = true from by cases s.1 <;> rfl]
  simp only [beq_self_eq_true, cond_true]
  rw [sameI_run fuel d (freeze_lstI 7 _) (freeze_lstI 7 _) hl hf]
  simp only [Option.bind_some, bool_bool, decide_true]
theorem sameSteps_loop (fuel d : Nat) {l : List Stp} (hl : l.length < 1000000000) (hs : ∀ s ∈ l, s.2.length < 1000000000 ∧ s.2.length < fuel) (h : AHeap) : ∀ (n k : Nat), l.length < n + k → k ≤ l.length →
    l_skolemref_SameSteps_0 fuel (d + 2) n [(0, .slice (lstS l)), (1, .slice (lstS l)), (5, .int .i64 (k : Int))] h = some (.exit 0, [(4, .bot)], h) := by
  intro n
  induction n with
  | zero => intro k h1 h2; omega
  | succ n ih =>
    intro k h1 h2
    rw [l_skolemref_SameSteps_0_eq, len_lst]
    by_cases hk : k < l.length
    · obtain ⟨q1, q2⟩ := hs (l.getD k (false, [])) (by simp [List.getD, hk])
      rw [bif_pos (by omega), addr_lstN (sz := 2) (f := stepC) stepC_len (l := l) (j := (k : Int)) (by omega) (by omega) (false, []), Int.toNat_natCast]
      generalize l.getD k (false, []) = s at q1 q2
      simp only [Option.bind_some]
      rw [cellsAt_fp (stepC_len s)]
      simp only [Option.bind_some]
      rw [sameStep_run fuel d q1 q2]
      simp only [Option.bind_some, bool_bool, Bool.not_true, cond_false]
      rw [sucS (by omega)]
      exact ih (k + 1) (by omega) (by omega)
    · rw [bif_neg (by omega)]
theorem sameSteps_run (fuel d : Nat) {l : List Stp} (hl : l.length < 1000000000) (hlf : l.length < fuel) (hs : ∀ s ∈ l, s.2.length < 1000000000 ∧ s.2.length < fuel) (h : AHeap) : run fuel (d + 3) F_skolemref_SameSteps [.slice (lstS l), .slice (lstS l)] h = some (.bool true, h) := by
  refine pure_of rfl rfl (cc2 (canon_lstS 7 l) (canon_lstS 7 l)) (r := .bool true) (h' := AHeap.none) ?_ rfl
  rw [e_skolemref_SameSteps, len_lst, bif_npos rfl]
  have := sameSteps_loop fuel d hl hs AHeap.none fuel 0 (by omega) (by omega)
  rw [show ((0 : Nat) : Int) = 0 from rfl] at this
  rw [this]
  simp only [Option.bind_some, k_skolemref_SameSteps_0_x0]
end Go.Proofs.YtdkckkhghghhdaaDoor

namespace Go.Proofs.YtdkckkhghghhdaaDoor
open Go.RowKit

theorem same_true (fuel d : Nat) {u : AVal} {c x : Int} {q : Bool} (hu : IsFault u c q x) (hf : 10 < fuel) (h : AHeap) : run fuel (d + 4) F_skolemsee_Same [u, .agg (faultC c q x)] h = some (.bool true, h) := by
  rw [Same_run fuel d hu hf c q x, decide_eq_true (rfl : c = c), decide_eq_true (rfl : x = x)]
  cases q <;> rfl
end Go.Proofs.YtdkckkhghghhdaaDoor

namespace Go.Proofs.YtdkckkhghghhdaaDoor
open Go.RowKit

theorem sameU_loop (fuel d : Nat) {b : List UInt8} (hn : b.length < 1000000000) {h : AHeap} : ∀ (n k : Nat), b.length < n + k → k ≤ b.length →
    l_skolemref_SameBytes_0 fuel d n [(0, .slice (lstU b)), (1, .slice (lstU b)), (5, .int .i64 (k : Int))] h = some (.exit 0, [(4, .bot)], h) := by
  intro n
  induction n with
  | zero => intro k h1 h2; omega
  | succ n ih =>
    intro k h1 h2
    rw [l_skolemref_SameBytes_0_eq, len_lst]
    by_cases hk : k < b.length
    · rw [bif_pos (by omega), addr_lstM _ (by omega) (by omega) 0]
      simp only [Option.bind_some, cell_fp, int_int, decide_true, Bool.not_true, cond_false]
      rw [sucS (by omega)]
      exact ih (k + 1) (by omega) (by omega)
    · rw [bif_neg (by omega)]
theorem sameU_run (fuel d : Nat) {b : List UInt8} (hn : b.length < 1000000000) (hf : b.length < fuel) (h : AHeap) : run fuel (d + 1) F_skolemref_SameBytes [.slice (lstU b), .slice (lstU b)] h = some (.bool true, h) := by
  refine pure_of rfl rfl (cc2 (canon_lstU 7 b) (canon_lstU 7 b)) (r := .bool true) (h' := AHeap.none) ?_ rfl
  rw [e_skolemref_SameBytes, len_lst, bif_npos rfl]
  have := sameU_loop fuel d hn (h := AHeap.none) fuel 0 (by omega) (by omega)
  rw [show ((0 : Nat) : Int) = 0 from rfl] at this
  rw [this]
  simp only [Option.bind_some, k_skolemref_SameBytes_0_x0]
end Go.Proofs.YtdkckkhghghhdaaDoor

namespace Go.Proofs.YtdkckkhghghhdaaDoor
open Go.RowKit

theorem pck_count (fuel d : Nat) {L : List Stp} {e : AVal} {x5 : Pt} {a b : Int} (hL : L.length < 1000000) (h : AHeap) : ∀ (n k c : Nat), L.length < n + k → k ≤ L.length → c ≤ k →
    l_skolemlaw20_ProofChecks_0 fuel d n [(0, .slice (lstS L)), (3, .bool true), (4, e), (5, .ptr x5), (6, .int .i64 a), (7, .int .i64 b), (8, .int .i64 (c : Int)), (9, .int .i64 (k : Int))] h = some (.exit 0, [(0, .slice (lstS L)), (3, .bool true), (4, e), (5, .ptr x5), (6, .int .i64 a), (7, .int .i64 b), (8, .int .i64 ((c + cntD (L.drop k) : Nat) : Int))], h) := by
  intro n
  induction n with
  | zero => intro k c h1 h2; omega
  | succ n ih =>
    intro k c h1 h2 h3
    rw [l_skolemlaw20_ProofChecks_0_eq, len_lst]
    by_cases hk : k < L.length
    · rw [bif_pos (by omega), addr_stp _ hk, drop_stp hk]
      generalize L.getD k (false, []) = s
      simp only [Option.bind_some, stepC, field_fp, List.drop_zero, cell_fp, bool_bool]
      rw [cntD_cons]
      cases hb : s.1 with
      | true =>
        rw [cond_true, sucU (by omega), sucU (by omega), ih (k + 1) (c + 1) (by omega) (by omega) (by omega), if_pos rfl, Nat.add_assoc]
      | false =>
        rw [cond_false, sucU (by omega), ih (k + 1) c (by omega) (by omega) (by omega), if_neg (by simp), Nat.zero_add]
    · have : k = L.length := by omega
      subst this
      rw [bif_neg (by omega), List.drop_length]
      rfl
theorem badS_lits : ∀ {L : List Stp} {k : Nat}, badS L k = none → ∀ s ∈ L, ∀ x ∈ s.2, isI x 4000 = true
  | [], _, _, s, hs => by cases hs
  | c :: L, k, h, s, hs => by
    unfold badS at h
    split at h
    · cases h
    · rename_i h1
      rcases List.mem_cons.1 hs with rfl | hs
      · intro x hx
        simp only [List.any_eq_true, Bool.not_eq_true', not_exists, not_and, Bool.not_eq_false] at h1
        exact h1 x hx
      · exact badS_lits h s hs
theorem isI_lit {x : Int} (h : isI x 4000 = true) : LitOk 4000 x := by
  have hI := h
  unfold isI at h
  rw [wrap64 (by omega) (by omega)] at h
  by_cases h0 : x = 0
  · rw [decide_eq_true h0] at h; cases h
  · rw [decide_eq_false h0] at h
    by_cases h1 : 0 - 4000 ≤ x
    · rw [decide_eq_true h1] at h
      simp only [Bool.not_false, cond_true, decide_eq_true_eq] at h
      exact ⟨h0, hI, by omega, by omega⟩
    · rw [decide_eq_false h1] at h; cases h
theorem litsN_le : ∀ {L : List Stp}, (∀ s ∈ L, s.2.length ≤ 30) → litsN L ≤ 30 * L.length
  | [], _ => by simp [litsN]
  | s :: L, h => by
    have h1 := litsN_le (L := L) fun t ht => h t (List.mem_cons_of_mem _ ht)
    have h2 := h s (List.mem_cons_self ..)
    simp only [litsN, List.map_cons, List.sum_cons, List.length_cons] at h1 ⊢
    omega
theorem proofChecks_run (F d : Nat) (hF : 2 ^ 50 ≤ F) (L : List Stp) (hl : ∀ s ∈ L, s.2.length ≤ 1000000000000000) (h : AHeap) : ∃ h', run F (d + 60) F_skolemlaw20_ProofChecks [.slice (lstS L)] h = some (.bool true, h') := by
  obtain ⟨z, e1, e2⟩ := plight_run F (d + 57) (L := L) (by omega) (fun s hs => by have := hl s hs; omega) h
  rw [e_skolemlaw20_ProofChecks, first20_run F (by omega) (by omega)]
  simp only [Option.bind_some, bool_bool, Bool.not_true, cond_false]
  rw [e1]
  simp only [Option.bind_some, bool_bool]
  cases z with
  | false => exact ⟨_, rfl⟩
  | true =>
  obtain ⟨g1, g2⟩ := e2 rfl
  have g3 := litsN_le g2
  simp only [Bool.not_true, cond_false]
  obtain ⟨c, p, x, q1, q2, q3⟩ := pchk_fault L
  rw [pchk_val F (d + 57) (by omega) (by omega) (by omega) (fun s hs => by have := g2 s hs; omega)]
  simp only [Option.bind_some]
  rw [rpc_run F (d + 57) (by omega) (by omega) (by omega) (fun s hs => by have := g2 s hs; omega), q1]
  simp only [Option.bind_some, agg_agg]
  have s1 := (Sep0.start h).push 1 3 (cs := [(AVal.int .i64 (0 : Int)), (.bool false), (.int .i64 (0 : Int))]) rfl
  obtain ⟨h3, e3, s3⟩ := s1.putAll (i := 0) (vs := faultC c p x) rfl rfl rfl
  have cF : h3.cell (.mk ⟨AHeap.next h, 0, 0 + 0⟩ 3) = some (.int .i64 c) := s3.part (i := 0) rfl (by omega) rfl
  rw [cond_pos _ _ (okF c p x), e3, Option.bind_some, pcount_run F (d + 58) (by omega) (by omega)]
  simp only [Option.bind_some, tup2, comp0, comp1, cond_true, int_int]
  have hcnt := pck_count F (d + 59) (L := L) (e := pchk L) (x5 := .mk ⟨AHeap.next h, 0, 0⟩ 3) (a := ((L.length - cntD L : Nat) : Int)) (b := (cntD L : Int)) (by omega) h3 F 0 0 (by omega) (by omega) (by omega)
  rw [List.drop_zero, Nat.zero_add, show ((0 : Nat) : Int) = 0 from rfl] at hcnt
  have hcd := cntD_le L
  rw [hcnt, Option.bind_some, k_skolemlaw20_ProofChecks_0_x0, s3.getAll (i := 0) rfl rfl, Option.bind_some, same_true F (d + 55) q2 (by omega)]
  have hw : IntKind.wrap .i64 ((L.length : Int) - (cntD L : Int)) = ((L.length - cntD L : Nat) : Int) := by rw [wrap64 (by omega) (by omega)]; omega
  simp only [Option.bind_some, bool_bool]
  rw [len_lst, hw]
  simp only [decide_true, Bool.not_true, cond_false, field_mk, Option.bind_some, cF, int_int]
  by_cases h0 : c = 0
  · obtain ⟨k1, k2⟩ := q3 h0
    subst h0
    have hlit : ∀ s ∈ L, ∀ x ∈ s.2, LitOk 4000 x := fun s hs x hx => isI_lit (badS_lits k2 s hs x hx)
    have hnum : ∀ s ∈ L, ∀ x ∈ s.2, Num64 x := fun s hs x hx => by
      have := hlit s hs x hx
      exact ⟨by have := this.2.2.1; omega, by have := this.2.2.2; omega⟩
    have hlen := stepsT_len (L := L) fun s hs => ⟨g2 s hs, hnum s hs⟩
    rw [bif_npos (rfl : (0 : Int) = 0), bytes_run F (d + 57) (by omega) (by omega) (fun s hs => ⟨by have := g2 s hs; omega, by have := g2 s hs; omega, fun x hx => (hnum s hs x hx).app F (d + 52) (by omega)⟩)]
    simp only [Option.bind_some, slice_slice]
    rw [read_run F (d + 55) (by omega) (by omega), readA_text hlit]
    simp only [rdA, Option.bind_some, tup2, comp0, comp1, cond_true, slice_slice, beq_self_eq_true]
    rw [rpb_run F (d + 58) (by omega) (by omega) (fun s hs => ⟨by have := g2 s hs; omega, by have := g2 s hs; omega, fun x hx => (hnum s hs x hx).app F (d + 53) (by omega)⟩)]
    simp only [Option.bind_some, slice_slice]
    rw [sameU_run F (d + 58) (by omega) (by omega)]
    simp only [Option.bind_some, bool_bool, beq_self_eq_true, cond_true, nilTest_nilif]
    rw [sameSteps_run F (d + 56) (by omega) (by omega) (fun s hs => by have := g2 s hs; omega)]
    exact ⟨_, rfl⟩
  · rw [bif_nneg h0]
    exact ⟨_, rfl⟩
theorem proofChecks_x (F d : Nat) (hF : 2 ^ 50 ≤ F) (L : List (Bool × List Int)) (g : (∀ a ∈ L, True ∧ ((∀ n ∈ a.2, (Lit.int .i64 n).wf = true) ∧ List.length a.2 * 8 ≤ reachBytes)) ∧ List.length L * 32 ≤ reachBytes) (h : AHeap) :
    ∃ h', run F (d + 60) F_skolemlaw20_ProofChecks [.slice (lstS L)] h = some (.bool true, h') := by
  have hr : reachBytes ≤ 140737488355328 := by decide
  exact proofChecks_run F d hF L (fun s hs => by have := (g.1 s hs).2.2; omega) h
end Go.Proofs.YtdkckkhghghhdaaDoor
