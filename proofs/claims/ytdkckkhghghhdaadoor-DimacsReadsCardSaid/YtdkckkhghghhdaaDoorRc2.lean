/-
  skolemref1.ReadCNF.
-/
import Derived.Test.YtdkckkhghghhdaaDoorHd4
import Derived.Test.YtdkckkhghghhdaaDoorRc1
import Derived.Test.YtdkckkhghghhdaaDoorWd2
namespace Go.Proofs.YtdkckkhghghhdaaDoor
open Go.RowKit

def faultO : Option (Int × Int) → List AVal
  | none => faultC 0 false 0
  | some (c, p) => faultC c true p
def rcrA (r : CR) : AVal := .tup [.agg (cnfC r.1 r.2.1), .agg (faultO r.2.2)]
theorem rcr_fin {A B F : Nat} {h0 h : AHeap} {x y : List AVal} {c q : Int} {p : Bool} (hs : Sep0 h0 h [.own 1 A 0 2 x, .own 1 B 0 3 y, .own 1 F 0 3 (faultC c p q)]) (hx : x.length = 2) (hy : y.length = 3) (z : List AVal) (hz : z.length = 2) :
    ∃ h', ((AHeap.cellsAt h 3 (Pt.mk ⟨F, 0, 0⟩ 3)).bind fun c42 =>
    (AHeap.storeAt h z (Pt.mk ⟨A, 0, 0⟩ 2)).bind fun h43 =>
    same ((AHeap.cellsAt h43 3 (Pt.mk ⟨F, 0, 0⟩ 3)).bind fun c49 => some ((AVal.agg c49), h43)) ((.agg c42), h43) (
    (bif (!false && Nat.beq (List.length c42) 3 && List.all c42 AVal.isCell) then ((AHeap.storeAt h43 c42 (Pt.mk ⟨B, 0, 0⟩ 3)).bind fun h44 =>
    (((((AHeap.cellsAt h44 2 (Pt.mk ⟨A, 0, 0⟩ 2)).bind fun c46 => some ((AVal.agg c46)) : Option AVal).bind fun v45 =>
    (((AHeap.cellsAt h44 3 (Pt.mk ⟨B, 0, 0⟩ 3)).bind fun c48 => some ((AVal.agg c48)) : Option AVal).bind fun v47 =>
    some [v45, v47])) : Option (List AVal)).map AVal.tup).map fun v => (v, h44)) else (none)))) = some (AVal.tup [.agg z, .agg (faultC c p q)], h') := by
  have hF : h.cellsAt 3 (Pt.mk ⟨F, 0, 0⟩ 3) = some (faultC c p q) := (hs.sep.own (i := 2) rfl).parts (by omega) (by simp [faultC])
  obtain ⟨h1, e1, s1⟩ := hs.put (i := 0) (o := 0) (l := 2) (vs := z) rfl (by omega) (by omega)
  have ez : x.take 0 ++ z ++ x.drop (0 + z.length) = z := by rw [List.take_zero, List.nil_append, List.drop_eq_nil_of_le (by omega), List.append_nil]
  rw [ez] at s1
  have hF1 : h1.cellsAt 3 (Pt.mk ⟨F, 0, 0⟩ 3) = some (faultC c p q) := (s1.sep.own (i := 2) rfl).parts (by omega) (by simp [faultC])
  obtain ⟨h2, e2, hB, s2⟩ := fault_put s1 (i := 1) rfl hy c p q
  have hA : h2.cellsAt 2 (Pt.mk ⟨A, 0, 0⟩ 2) = some z := by
    have := (s2.sep.own (i := 0) rfl).parts (o := 0) (k := 2) (l := 2) (by omega) (by omega)
    rw [List.drop_zero, List.take_of_length_le (by omega)] at this
    exact this
  rw [hF, Option.bind_some, e1, Option.bind_some, hF1, Option.bind_some, same_self, cond_pos _ _ (okF c p q), e2, Option.bind_some, hA, Option.bind_some, Option.bind_some, hB]
  exact ⟨h2, rfl⟩
theorem rcr_fr (r : CR) (h : AHeap) : freezeV h 8 (rcrA r) = some (rcrA r) := by
  obtain ⟨v, l, o⟩ := r
  refine freeze_tup2 _ (freeze_cnf 5 v l) ?_
  cases o <;> exact fr_agg _ _ _ 5
theorem zero_fr (o : Option (Int × Int)) (h : AHeap) : freezeV h 8 (.tup [.agg [.int .i64 0, .slice Sl.nil], .agg (faultO o)]) = some (rcrA (0, [], o)) := by
  refine freeze_tup2 _ (freeze_agg 6 (mm2 rfl rfl)) ?_
  cases o <;> exact fr_agg _ _ _ 5
theorem cread_run (fuel d : Nat) {b : List UInt8} (hf : b.length + 40 ≤ fuel) (hb : b.length < 60000) (h : AHeap) : run fuel (d + 5) F_skolemref1_ReadCNF [.slice (lstU b)] h = some (rcrA (rdC b), h) := by
  have hl := splitLen b
  have hne : ∀ w ∈ splitOf b true, w.text ≠ [] := by
    have key : ∀ (n k : Nat), ∀ w ∈ splitGo b true n k, w.text ≠ [] := by
      intro n
      induction n with
      | zero => intro k w hw; cases hw
      | succ n ih =>
        intro k w hw
        simp only [splitGo] at hw
        split at hw
        · rcases List.mem_append.1 hw with hw | hw
          · split at hw
            · exact lineGo_text _ _ _ w hw
            · cases hw
          · exact ih _ w hw
        · cases hw
    exact key _ _
  have s0 := (((Sep0.start AHeap.none).push 1 2 (cs := [(AVal.int .i64 (0 : Int)), (.slice Sl.nil)]) rfl).push 1 3 (cs := [(AVal.int .i64 (0 : Int)), (.bool false), (.int .i64 (0 : Int))]) rfl)
  have key : ∃ v h', brun fuel (d + 5) F_skolemref1_ReadCNF [.slice (lstU b)] AHeap.none = some (v, h') ∧ freezeV h' 8 v = some (rcrA (rdC b)) := by
    rw [e_skolemref1_ReadCNF, len_lst, bif_neg (by omega), rsplit_run fuel (d + 2) (by omega) (by omega), Option.bind_some, slice_slice, Option.bind_some, rhead_run fuel d (by omega) (by omega) hne]
    generalize AHeap.push (AHeap.push AHeap.none 1 [(AVal.int .i64 (0 : Int)), (.slice Sl.nil)]) 1 [(AVal.int .i64 (0 : Int)), (.bool false), (.int .i64 (0 : Int))] = H at s0
    have s1 := s0.push 1 3 (cs := [(AVal.int .i64 (0 : Int)), (.bool false), (.int .i64 (0 : Int))]) rfl
    unfold rdC
    cases hh : headT (b.length : Int) (splitOf b true) with
    | bad c p =>
      obtain ⟨h1, e1, e2, s2⟩ := fault_put s1 (i := 2) rfl rfl c true p
      have cF : h1.cell (.mk ⟨AHeap.next H, 0, 0 + 0⟩ 3) = some (.int .i64 c) := s2.part (i := 2) rfl (by omega) rfl
      have hc0 : c ≠ 0 := by rcases headT_code hh with rfl | rfl <;> omega
      simp only [rhdA, Option.bind_some, isTup_tup, List.length_cons, List.length_nil, Nat.beq, cond_true, comp_tup, List.getElem?_cons_zero, List.getElem?_cons_succ, int_int, agg_agg]
      rw [cond_pos _ _ (okF c true p), e1]
      simp only [Option.bind_some, field_mk, cF, int_int]
      rw [bif_nneg hc0]
      obtain ⟨h', q⟩ := rcr_fin s2 rfl rfl [.int .i64 0, .slice Sl.nil] rfl
      exact ⟨_, h', q, zero_fr (some (c, p)) h'⟩
    | ok v m =>
      have h4 := headT_ok4 hh
      obtain ⟨h1, e1, e2, s2⟩ := fault_put s1 (i := 2) rfl rfl 0 false 0
      have cF : h1.cell (.mk ⟨AHeap.next H, 0, 0 + 0⟩ 3) = some (.int .i64 0) := s2.part (i := 2) rfl (by omega) rfl
      simp only [rhdA, Option.bind_some, isTup_tup, List.length_cons, List.length_nil, Nat.beq, cond_true, comp_tup, List.getElem?_cons_zero, List.getElem?_cons_succ, int_int, agg_agg]
      rw [cond_pos _ _ (okF 0 false 0), e1]
      simp only [Option.bind_some, field_mk, cF, int_int]
      rw [bif_npos trivial, len_lst, aHi_none, Option.bind_some, aLo_some (by omega) (by omega), Option.bind_some, aMx_none, Option.bind_some, show (4 : Int).toNat = 4 from rfl, hasSz_lstN wdC_len, cond_true, cut_lstN wdC_len (splitOf b true) (Nat.le_refl _), show (((splitOf b true).drop 4).take ((splitOf b true).length - 4)) = (splitOf b true).drop 4 from List.take_of_length_le (by simp), rcl_run fuel (d + 1) (by simp; omega) (by simp; omega)]
      cases hc : clT (b.length : Int) v m ((splitOf b true).drop 4) [] [] with
      | bad p =>
        obtain ⟨h2, e3, e4, s3⟩ := fault_put s2 (i := 2) rfl rfl 101 true p
        have cF2 : h2.cell (.mk ⟨AHeap.next H, 0, 0 + 0⟩ 3) = some (.int .i64 101) := s3.part (i := 2) rfl (by omega) rfl
        simp only [rclA, Option.bind_some, isTup_tup, List.length_cons, List.length_nil, Nat.beq, cond_true, comp_tup, List.getElem?_cons_zero, List.getElem?_cons_succ, slice_slice, agg_agg]
        rw [cond_pos _ _ (okF 101 true p), e3]
        simp only [Option.bind_some, cF2, int_int]
        rw [bif_nneg (by omega)]
        obtain ⟨h', q⟩ := rcr_fin s3 rfl rfl [.int .i64 0, .slice Sl.nil] rfl
        exact ⟨_, h', q, zero_fr (some (101, p)) h'⟩
      | ok l =>
        obtain ⟨h2, e3, e4, s3⟩ := fault_put s2 (i := 2) rfl rfl 0 false 0
        have cF2 : h2.cell (.mk ⟨AHeap.next H, 0, 0 + 0⟩ 3) = some (.int .i64 0) := s3.part (i := 2) rfl (by omega) rfl
        simp only [rclA, Option.bind_some, isTup_tup, List.length_cons, List.length_nil, Nat.beq, cond_true, comp_tup, List.getElem?_cons_zero, List.getElem?_cons_succ, slice_slice, agg_agg]
        rw [cond_pos _ _ (okF 0 false 0), e3]
        simp only [Option.bind_some, cF2, int_int]
        rw [bif_npos trivial]
        obtain ⟨h', q⟩ := rcr_fin s3 rfl rfl (cnfC v l) rfl
        exact ⟨_, h', q, rcr_fr (v, l, none) h'⟩
  obtain ⟨v, h', e1, e2⟩ := key
  exact pure_of rfl rfl (cc1 (canon_lstU 7 b)) e1 e2
end Go.Proofs.YtdkckkhghghhdaaDoor
