/-
  dimacs.Read.
-/
import Derived.Test.YtdkckkhghghhdaaDoorHd2
namespace Go.Proofs.YtdkckkhghghhdaaDoor
open Go.RowKit

/-- variables, clauses, what is amiss (code and place) -/
abbrev CR := Int × List (List Int) × Option (Int × Int)
def rdC (b : List UInt8) : CR := match headT (b.length : Int) (splitOf b true) with
  | .bad c p => (0, [], some (c, p))
  | .ok v m => match clT (b.length : Int) v m ((splitOf b true).drop 4) [] [] with
    | .bad p => (0, [], some (101, p))
    | .ok l => (v, l, none)
def errO : Option (Int × Int) → AVal
  | none => .nilif
  | some (c, p) => atV p (errC c)
def crA (r : CR) : AVal := .tup [.agg (cnfC r.1 r.2.1), errO r.2.2]
theorem headT_ok4 {e : Int} {W : List Wd} {v m : Int} (h : headT e W = .ok v m) : 4 ≤ W.length := by
  match W with
  | [] => cases h
  | [w0] => unfold headT at h; simp only at h; split at h <;> cases h
  | [w0, w1] => unfold headT at h; simp only at h; split at h <;> first | cases h | (split at h <;> cases h)
  | [w0, w1, w2] =>
    unfold headT at h
    simp only at h
    split at h
    · cases h
    · split at h
      · cases h
      · split at h <;> cases h
  | w0 :: w1 :: w2 :: w3 :: W => simp
theorem splitLen (b : List UInt8) : (splitOf b true).length ≤ b.length := by
  have := splitGo_len (b := b) (c := true) (b.length + 1) 0
  unfold splitOf
  omega
theorem cr_fr (r : CR) (hr : ∀ c p, r.2.2 = some (c, p) → c = 101 ∨ c = 102) (h : AHeap) : freezeV h 8 (crA r) = some (crA r) := by
  obtain ⟨v, l, o⟩ := r
  refine freeze_tup2 _ (freeze_cnf 5 v l) ?_
  cases o with
  | none => rfl
  | some cp =>
    obtain ⟨c, p⟩ := cp
    rcases hr c p rfl with rfl | rfl <;> rfl
theorem rdC_code {b : List UInt8} {c p : Int} (h : (rdC b).2.2 = some (c, p)) : c = 101 ∨ c = 102 := by
  unfold rdC at h
  split at h
  · rename_i c' p' hh
    simp at h
    rw [← h.1]
    exact headT_code hh
  · split at h
    · simp at h; exact .inl h.1.symm
    · cases h
theorem atV_no (p c : Int) : nilTest .iface (atV p (errC c)) = some false := rfl
theorem dread_body (fuel d : Nat) {b : List UInt8} (hf : b.length + 40 ≤ fuel) (hb : b.length < 60000) : ∃ v h', brun fuel (d + 8) F_dimacs_Read [.slice (lstU b)] AHeap.none = some (v, h') ∧ freezeV h' 8 v = some (crA (rdC b)) := by
  have hl := splitLen b
  have s0 := (Sep0.start AHeap.none).push 1 2 (cs := [(AVal.int .i64 (0 : Int)), (.slice Sl.nil)]) rfl
  rw [e_dimacs_Read, len_lst, bif_neg (by omega), split_run fuel (d + 4) (by omega) (by omega), Option.bind_some, slice_slice, Option.bind_some, head_run fuel d (by omega)]
  generalize AHeap.push AHeap.none 1 [(AVal.int .i64 (0 : Int)), (.slice Sl.nil)] = H at s0
  have zero : ∀ (u : AVal) (z : Option (Int × Int)), u = errO z → (∀ c p, z = some (c, p) → c = 101 ∨ c = 102) → ∃ v h', ((AHeap.storeAt H [(.int .i64 (0 : Int)), (.slice Sl.nil)] (Pt.mk ⟨AHeap.next AHeap.none, 0, 0⟩ 2)).bind fun h16 =>
      (((((AHeap.cellsAt h16 2 (Pt.mk ⟨AHeap.next AHeap.none, 0, 0⟩ 2)).bind fun c18 => some ((AVal.agg c18)) : Option AVal).bind fun v17 => some [v17, u]) : Option (List AVal)).map .tup).map fun v => (v, h16)) = some (v, h') ∧ freezeV h' 8 v = some (crA (0, [], z)) := by
    intro u z hu hz
    obtain ⟨h', e1, s1⟩ := s0.put (i := 0) (o := 0) (l := 2) (vs := [(.int .i64 (0 : Int)), (.slice Sl.nil)]) rfl (by simp) (by simp)
    have hc : h'.cellsAt 2 (Pt.mk ⟨AHeap.next AHeap.none, 0, 0⟩ 2) = some [(.int .i64 (0 : Int)), (.slice Sl.nil)] := (s1.sep.own (i := 0) rfl).parts (by omega) (by simp)
    rw [e1, Option.bind_some, hc]
    refine ⟨_, h', rfl, ?_⟩
    subst hu
    refine freeze_tup2 _ (freeze_agg 6 (mm2 rfl rfl)) ?_
    cases z with
    | none => rfl
    | some cp =>
      obtain ⟨c, p⟩ := cp
      rcases hz c p rfl with rfl | rfl <;> rfl
  unfold rdC
  cases hh : headT (b.length : Int) (splitOf b true) with
  | bad c p =>
    simp only [hdA, Option.bind_some, isTup_tup, List.length_cons, List.length_nil, Nat.beq, cond_true, comp_tup, List.getElem?_cons_zero, List.getElem?_cons_succ, int_int, atV_no, Bool.not_false]
    exact zero _ (some (c, p)) rfl (fun c' p' h9 => by cases h9; exact headT_code hh)
  | ok v m =>
    have h4 := headT_ok4 hh
    simp only [hdA, Option.bind_some, isTup_tup, List.length_cons, List.length_nil, Nat.beq, cond_true, comp_tup, List.getElem?_cons_zero, List.getElem?_cons_succ, int_int, nilTest_nilif, Bool.not_true, cond_false]
    rw [len_lst, aHi_none, Option.bind_some, aLo_some (by omega) (by omega), Option.bind_some, aMx_none, Option.bind_some, show (4 : Int).toNat = 4 from rfl, hasSz_lstN wdC_len, cond_true, cut_lstN wdC_len (splitOf b true) (Nat.le_refl _), show (((splitOf b true).drop 4).take ((splitOf b true).length - 4)) = (splitOf b true).drop 4 from List.take_of_length_le (by simp), cl_run fuel (d + 3) (by simp; omega) (by simp; omega)]
    cases hc : clT (b.length : Int) v m ((splitOf b true).drop 4) [] [] with
    | bad p =>
      simp only [clA, Option.bind_some, isTup_tup, List.length_cons, List.length_nil, Nat.beq, cond_true, comp_tup, List.getElem?_cons_zero, List.getElem?_cons_succ, slice_slice]
      rw [show nilTest .iface (atV p err_api_ErrText) = some false from rfl]
      simp only [Option.bind_some, Bool.not_false, cond_true]
      exact zero _ (some (101, p)) rfl (fun c' p' h9 => by cases h9; exact .inl rfl)
    | ok l =>
      simp only [clA, Option.bind_some, isTup_tup, List.length_cons, List.length_nil, Nat.beq, cond_true, comp_tup, List.getElem?_cons_zero, List.getElem?_cons_succ, slice_slice, nilTest_nilif, Bool.not_true, cond_false]
      obtain ⟨h', e1, s1⟩ := s0.put (i := 0) (o := 0) (l := 2) (vs := cnfC v l) rfl (by simp [cnfC]) (by simp [cnfC])
      have hcl : h'.cellsAt 2 (Pt.mk ⟨AHeap.next AHeap.none, 0, 0⟩ 2) = some (cnfC v l) := (s1.sep.own (i := 0) rfl).parts (by omega) (by simp [cnfC])
      unfold cnfC at e1
      rw [e1, Option.bind_some, hcl]
      exact ⟨_, h', rfl, freeze_tup2 _ (freeze_cnf 5 v l) rfl⟩
theorem dread_run (fuel d : Nat) {b : List UInt8} (hf : b.length + 40 ≤ fuel) (hb : b.length < 60000) (h : AHeap) : run fuel (d + 8) F_dimacs_Read [.slice (lstU b)] h = some (crA (rdC b), h) := by
  obtain ⟨v, h', e1, e2⟩ := dread_body fuel d hf hb
  exact pure_of rfl rfl (cc1 (canon_lstU 7 b)) e1 e2
theorem dread_nil (fuel d : Nat) (hf : 40 ≤ fuel) (h : AHeap) : run fuel (d + 8) F_dimacs_Read [.slice .nil] h = some (crA (rdC []), h) := by
  obtain ⟨v, h', e1, e2⟩ := dread_body fuel d (b := []) (by simp; omega) (by simp)
  exact pure_of rfl rfl (cc1 (canon_nil 7)) e1 e2
end Go.Proofs.YtdkckkhghghhdaaDoor
