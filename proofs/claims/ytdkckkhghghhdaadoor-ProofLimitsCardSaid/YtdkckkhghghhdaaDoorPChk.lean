/-
  proof.Check.
-/
import Derived.Test.YtdkckkhghghhdaaDoorPrt1
namespace Go.Proofs.YtdkckkhghghhdaaDoor
open Go.RowKit

def litsN (L : List Stp) : Nat := (L.map fun s => s.2.length).sum
/-- the first step with a wrong literal -/
def badS : List Stp → Nat → Option Nat
  | [], _ => none
  | s :: L, k => if (s.2.any fun l => !isI l 4000) = true then some k else badS L (k + 1)
def pchk (L : List Stp) : AVal := if 320000 < litsN L then err_api_ErrLimit else match badS L 0 with
  | some k => atV (k : Int) err_api_ErrRange
  | none => .nilif
theorem pat3 (fuel d : Nat) (p : Int) (h : AHeap) : run fuel (d + 1) F_proof_at [.int .i64 p, err_api_ErrRange] h = some (atV p err_api_ErrRange, h) := pat_run fuel d (j := 3) (by omega) p h
theorem pchk_in2 (fuel d : Nat) {S : Sl} {m : Int} {k : Nat} {l : List Int} (hl : l.length < 1000000000) (h : AHeap) : ∀ (n j : Nat), l.length < n + j → j ≤ l.length →
    l_proof_Check_2 fuel (d + 1) n [(6, .int .i64 (k : Int)), (25, .slice S), (26, .int .i64 m), (27, .int .i64 (k : Int)), (33, .slice (lstI l)), (34, .int .i64 (l.length : Int)), (35, .int .i64 (j : Int))] h =
      if ((l.drop j).any fun x => !isI x 4000) = true then some (.ret, [(2, atV (k : Int) err_api_ErrRange), (25, .slice S), (26, .int .i64 m), (27, .int .i64 (k : Int))], h) else some (.exit 4, [(2, .bot), (25, .slice S), (26, .int .i64 m), (27, .int .i64 (k : Int))], h) := by
  intro n
  induction n with
  | zero => intro j h1 h2; omega
  | succ n ih =>
    intro j h1 h2
    rw [l_proof_Check_2_eq]
    by_cases hj : j < l.length
    · have hd : l.drop j = l.getD j 0 :: l.drop (j + 1) := by rw [List.drop_eq_getElem_cons hj]; simp [List.getD, hj]
      rw [bif_pos (by omega), addr_lstM _ (by omega) (by omega) 0, hd, List.any_cons]
      simp only [Option.bind_some, cell_fp, int_int, Int.toNat_natCast, Is_run, bool_bool]
      cases hi : isI (l.getD j 0) 4000 with
      | true =>
        simp only [Bool.not_true, cond_false, Bool.false_or]
        rw [sucU (by omega)]
        exact ih (j + 1) (by omega) (by omega)
      | false =>
        simp only [Bool.not_false, cond_true, Bool.true_or, if_true, pat3, Option.bind_some]
    · have : j = l.length := by omega
      subst this
      rw [bif_neg (by omega), List.drop_length]
      rfl
theorem pchk_sum (fuel d : Nat) {L : List Stp} (hL : L.length < 1000000) {h0 : AHeap} : ∀ (n k a : Nat) (h : AHeap), L.length < n + k → k ≤ L.length → a + litsN (L.drop k) < 1000000000000 → Sep0 h0 h [] →
    ∃ h', l_proof_Check_0 fuel d n [(0, .slice (lstS L)), (3, .int .i64 (a : Int)), (10, .slice (lstS L)), (11, .int .i64 (L.length : Int)), (12, .int .i64 (k : Int))] h = some (.exit 0, [(0, .slice (lstS L)), (3, .int .i64 ((a + litsN (L.drop k) : Nat) : Int))], h') ∧ Sep0 h0 h' [] := by
  intro n
  induction n with
  | zero => intro k a h h1 h2; omega
  | succ n ih =>
    intro k a h h1 h2 h3 hs
    rw [l_proof_Check_0_eq]
    by_cases hk : k < L.length
    · have hd : L.drop k = L.getD k (false, []) :: L.drop (k + 1) := by rw [List.drop_eq_getElem_cons hk]; simp [List.getD, hk]
      have ht : litsN (L.drop k) = (L.getD k (false, [])).2.length + litsN (L.drop (k + 1)) := by rw [hd]; simp [litsN]
      rw [bif_pos (by omega), addr_lstN (sz := 2) (f := stepC) stepC_len (l := L) (j := (k : Int)) (by omega) (by omega) (false, []), Int.toNat_natCast, ht]
      rw [ht] at h3
      generalize L.getD k (false, []) = s at h3
      obtain ⟨h4, e1, s1⟩ := copyS hs s
      rw [Option.bind_some, cellsAt_fp (stepC_len s), Option.bind_some, cond_pos _ _ (show (!false && Nat.beq (List.length (stepC s)) 2 && List.all (stepC s) AVal.isCell) = true from rfl), e1]
      have c1 : h4.cell (.mk ⟨AHeap.next h, 0, 0 + 1⟩ 2) = some (.slice (lstI s.2)) := s1.part (i := 0) rfl (by omega) rfl
      simp only [Option.bind_some, field_mk, c1, slice_slice]
      rw [len_lst, wrap64 (n := (a : Int) + (s.2.length : Int)) (by omega) (by omega), sucU (by omega), show (a : Int) + (s.2.length : Int) = ((a + s.2.length : Nat) : Int) by omega, ← Nat.add_assoc]
      exact ih (k + 1) (a + s.2.length) h4 (by omega) (by omega) (by omega) (Sep0.init (L := []) s1)
    · have : k = L.length := by omega
      subst this
      rw [bif_neg (by omega), List.drop_length]
      exact ⟨h, rfl, hs⟩
theorem pchk_loop (fuel d : Nat) {L : List Stp} (hL : L.length < 1000000) (hl : ∀ s ∈ L, s.2.length < 1000000000 ∧ s.2.length < fuel) {h0 : AHeap} : ∀ (n k : Nat) (h : AHeap), L.length < n + k → k ≤ L.length → Sep0 h0 h [] →
    ∃ h', (l_proof_Check_1 fuel (d + 1) n [(25, .slice (lstS L)), (26, .int .i64 (L.length : Int)), (27, .int .i64 (k : Int))] h).bind (fun p => k_proof_Check_1 fuel (d + 1) p.1 p.2.1 p.2.2) = some (match badS (L.drop k) k with | some k => atV (k : Int) err_api_ErrRange | none => .nilif, h') := by
  intro n
  induction n with
  | zero => intro k h h1 h2; omega
  | succ n ih =>
    intro k h h1 h2 hs
    rw [l_proof_Check_1_eq]
    by_cases hk : k < L.length
    · have hd : L.drop k = L.getD k (false, []) :: L.drop (k + 1) := by rw [List.drop_eq_getElem_cons hk]; simp [List.getD, hk]
      obtain ⟨q1, q2⟩ := hl (L.getD k (false, [])) (by simp [List.getD, hk])
      rw [bif_pos (by omega), addr_lstN (sz := 2) (f := stepC) stepC_len (l := L) (j := (k : Int)) (by omega) (by omega) (false, []), Int.toNat_natCast, hd]
      generalize L.getD k (false, []) = s at q1 q2
      obtain ⟨h4, e1, s1⟩ := copyS hs s
      rw [Option.bind_some, cellsAt_fp (stepC_len s), Option.bind_some, cond_pos _ _ (show (!false && Nat.beq (List.length (stepC s)) 2 && List.all (stepC s) AVal.isCell) = true from rfl), e1]
      have c1 : h4.cell (.mk ⟨AHeap.next h, 0, 0 + 1⟩ 2) = some (.slice (lstI s.2)) := s1.part (i := 0) rfl (by omega) rfl
      simp only [Option.bind_some, field_mk, c1, slice_slice]
      have hin := pchk_in2 fuel d (S := lstS L) (m := (L.length : Int)) (k := k) q1 h4 fuel 0 (by omega) (by omega)
      rw [List.drop_zero, show ((0 : Nat) : Int) = 0 from rfl] at hin
      rw [len_lst, hin, badS]
      by_cases hb : (s.2.any fun x => !isI x 4000) = true
      · rw [if_pos hb, if_pos hb]
        simp only [Option.bind_some, k_proof_Check_2_r, k_proof_Check_1_r]
        exact ⟨h4, rfl⟩
      · rw [if_neg hb, if_neg hb]
        simp only [Option.bind_some, k_proof_Check_2_x4]
        rw [sucU (by omega)]
        exact ih (k + 1) h4 (by omega) (by omega) (Sep0.init (L := []) s1)
    · have : k = L.length := by omega
      subst this
      rw [bif_neg (by omega), List.drop_length]
      simp only [Option.bind_some, k_proof_Check_1_x2]
      exact ⟨h, rfl⟩
theorem pchk_any (fuel d : Nat) {L : List Stp} (hL : L.length < 1000000) (hLf : L.length < fuel) (hN : litsN L < 1000000000000) (hl : ∀ s ∈ L, s.2.length < 1000000000 ∧ s.2.length < fuel) {h : AHeap} {S : Sl} (hs : freezeV h 8 (.slice S) = some (.slice (lstS L))) : ∃ ids, run fuel (d + 2) F_proof_Check [.slice S] h = some (pchk L, h.markRo ids) := by
  have key : ∃ h', brun fuel (d + 2) F_proof_Check [.slice (lstS L)] AHeap.none = some (pchk L, h') := by
    obtain ⟨h1, e1, s1⟩ := pchk_sum fuel (d + 1) hL fuel 0 0 AHeap.none (by omega) (by omega) (by rw [List.drop_zero]; omega) (Sep0.start _)
    rw [List.drop_zero, Nat.zero_add, show ((0 : Nat) : Int) = 0 from rfl] at e1
    rw [e_proof_Check, len_lst, e1, Option.bind_some, k_proof_Check_0_x0]
    unfold pchk
    by_cases h0 : 320000 < litsN L
    · rw [bif_pos (by omega), if_pos h0]
      exact ⟨h1, rfl⟩
    · rw [bif_neg (by omega), if_neg h0, len_lst]
      have := pchk_loop fuel d hL hl fuel 0 h1 (by omega) (by omega) s1
      rw [List.drop_zero, show ((0 : Nat) : Int) = 0 from rfl] at this
      exact this
  obtain ⟨h', e⟩ := key
  refine run_any rfl rfl (mm1 hs) e ?_
  unfold pchk
  split
  · rfl
  · cases badS L 0 <;> rfl
end Go.Proofs.YtdkckkhghghhdaaDoor
