/-
  ProofReads.
-/
import Derived.Test.YtdkckkhghghhdaaDoorFst20
import Derived.Test.YtdkckkhghghhdaaDoorRd2
import Derived.Test.YtdkckkhghghhdaaDoorRd3
namespace Go.Proofs.YtdkckkhghghhdaaDoor
open Go.RowKit

theorem readT_len (e : Nat) : ∀ (ws : List Wd) (out : List Stp) (now : Stp) (g : Bool) (l : List Stp), readT e ws out now g = .ok l → (∀ s ∈ out, s.2.length < 1000) → out.length + ws.length < 1000 → now.2.length + ws.length < 1000 → l.length < 1000 ∧ ∀ s ∈ l, s.2.length < 1000
  | [], out, now, g, l, h, h1, h2, h3 => by
    unfold readT at h
    split at h
    · cases h
    · cases h
      simp at h2
      exact ⟨h2, h1⟩
  | w :: ws, out, now, g, l, h, h1, h2, h3 => by
    unfold readT at h
    simp only [List.length_cons] at h2 h3
    split at h
    · exact readT_len e ws out _ _ l h h1 (by omega) (by simp; omega)
    · split at h
      · cases h
      · split at h
        · refine readT_len e ws _ _ _ l h (fun s hs => ?_) (by simp; omega) (by simp; omega)
          rcases List.mem_append.1 hs with hs | hs
          · exact h1 s hs
          · rw [List.mem_singleton.1 hs]; omega
        · exact readT_len e ws out _ _ l h h1 (by omega) (by simp; omega)

theorem proofReads_run (F d : Nat) (hF : 2 ^ 21 ≤ F) (b : List UInt8) (h : AHeap) : ∃ h', run F (d + 60) F_skolemlaw20_ProofReads [.slice (lstU b)] h = some (.bool true, h') := by
  rw [e_skolemlaw20_ProofReads, first20_run F (by omega) (by omega), len_lst]
  simp only [Option.bind_some, bool_bool, Bool.not_true, cond_false]
  by_cases h0 : 400 < b.length
  · rw [bif_pos (by omega)]
    exact ⟨h, rfl⟩
  rw [bif_neg (by omega), read_run F (d + 55) (by omega) (by omega)]
  have hl := splitOf_len b true
  cases hr : readA b with
  | ok l =>
    obtain ⟨l1, l2⟩ := readT_len b.length _ _ _ _ l hr (by simp) (by simp; omega) (by simp; omega)
    simp only [rdA, Option.bind_some, isTup_tup, List.length_cons, List.length_nil, Nat.beq, cond_true, comp_tup, List.getElem?_cons_zero, List.getElem?_cons_succ, slice_slice]
    rw [rread_run F (d + 56) (by omega) (by omega), hr]
    simp only [rrdA, Option.bind_some, isTup_tup, List.length_cons, List.length_nil, Nat.beq, cond_true, comp_tup, List.getElem?_cons_zero, List.getElem?_cons_succ, slice_slice, agg_agg]
    rw [cond_pos _ _ (show (!false && Nat.beq (List.length (faultC 0 false 0)) 3 && List.all (faultC 0 false 0) AVal.isCell) = true from rfl)]
    have s1 := (Sep0.start h).push 1 3 (cs := [(.int .i64 (0 : Int)), (.bool false), (.int .i64 (0 : Int))]) rfl
    obtain ⟨h4, e4, e5, s4⟩ := rfault_put s1 (i := 0) rfl rfl 0 false 0
    rw [e4]
    simp only [Option.bind_some, beq_self_eq_true, cond_true]
    rw [sameSteps_run F (d + 56) (by omega) (by omega) (fun s hs => by have := l2 s hs; omega)]
    simp only [Option.bind_some, bool_bool, beq_self_eq_true, cond_true, e5]
    rw [Same_run F (d + 55) .fine (by omega) 0 false 0]
    exact ⟨_, rfl⟩
  | bad p =>
    simp only [rdA, Option.bind_some, isTup_tup, List.length_cons, List.length_nil, Nat.beq, cond_true, comp_tup, List.getElem?_cons_zero, List.getElem?_cons_succ, slice_slice]
    rw [rread_run F (d + 56) (by omega) (by omega), hr]
    simp only [rrdA, Option.bind_some, isTup_tup, List.length_cons, List.length_nil, Nat.beq, cond_true, comp_tup, List.getElem?_cons_zero, List.getElem?_cons_succ, slice_slice, agg_agg]
    rw [cond_pos _ _ (show (!false && Nat.beq (List.length (faultC 101 true (p : Int))) 3 && List.all (faultC 101 true (p : Int)) AVal.isCell) = true from rfl)]
    have s1 := (Sep0.start h).push 1 3 (cs := [(.int .i64 (0 : Int)), (.bool false), (.int .i64 (0 : Int))]) rfl
    obtain ⟨h4, e4, e5, s4⟩ := rfault_put s1 (i := 0) rfl rfl 101 true (p : Int)
    rw [e4]
    simp only [Option.bind_some, beq_self_eq_true, cond_true]
    rw [sameSteps_run F (d + 56) (l := []) (by simp) (by simp; omega) (fun s hs => by cases hs)]
    simp only [Option.bind_some, bool_bool, beq_self_eq_true, cond_true, e5]
    rw [Same_run F (d + 55) (e := atV (p : Int) err_api_ErrText) (c := 101) (p := true) (x := (p : Int)) (IsFault.at (j := 0) (by omega) (p : Int)) (by omega) 101 true (p : Int)]
    simp only [Option.bind_some, bool_bool, decide_true, beq_self_eq_true, Bool.and_self]
    exact ⟨_, rfl⟩
end Go.Proofs.YtdkckkhghghhdaaDoor
