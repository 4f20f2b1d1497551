/-
  DimacsReads.
-/
import Derived.Test.YtdkckkhghghhdaaDoorRc2
import Derived.Test.YtdkckkhghghhdaaDoorRef0s
namespace Go.Proofs.YtdkckkhghghhdaaDoor
open Go.RowKit

theorem sameCl_loop (fuel d : Nat) {l : List (List Int)} (hl : l.length < 1000000000) (hs : ∀ s ∈ l, s.length < 1000000000 ∧ s.length < fuel) (h : AHeap) : ∀ (n k : Nat), l.length < n + k → k ≤ l.length →
    l_skolemref_SameClauses_0 fuel (d + 1) n [(0, .slice (lstLL l)), (1, .slice (lstLL l)), (5, .int .i64 (k : Int))] h = some (.exit 0, [(4, .bot)], h) := by
  intro n
  induction n with
  | zero => intro k h1 h2; omega
  | succ n ih =>
    intro k h1 h2
    rw [l_skolemref_SameClauses_0_eq, len_lst]
    by_cases hk : k < l.length
    · obtain ⟨q1, q2⟩ := hs (l.getD k []) (by simp [List.getD, hk])
      rw [bif_pos (by omega), addr_lstM _ (by omega) (by omega) [], Int.toNat_natCast]
      generalize l.getD k [] = s at q1 q2
      simp only [Option.bind_some, cell_fp, slice_slice]
      rw [sameI_run fuel d (freeze_lstI 7 _) (freeze_lstI 7 _) q1 q2]
      simp only [Option.bind_some, bool_bool, decide_true, Bool.not_true, cond_false]
      rw [sucS (by omega)]
      exact ih (k + 1) (by omega) (by omega)
    · rw [bif_neg (by omega)]
theorem sameCl_run (fuel d : Nat) {l : List (List Int)} (hl : l.length < 1000000000) (hlf : l.length < fuel) (hs : ∀ s ∈ l, s.length < 1000000000 ∧ s.length < fuel) (h : AHeap) : run fuel (d + 2) F_skolemref_SameClauses [.slice (lstLL l), .slice (lstLL l)] h = some (.bool true, h) := by
  refine pure_of rfl rfl (cc2 (canon_lstLL 7 l) (canon_lstLL 7 l)) (r := .bool true) (h' := AHeap.none) ?_ rfl
  rw [e_skolemref_SameClauses, len_lst, bif_npos rfl]
  have := sameCl_loop fuel d hl hs AHeap.none fuel 0 (by omega) (by omega)
  rw [show ((0 : Nat) : Int) = 0 from rfl] at this
  rw [this]
  simp only [Option.bind_some, k_skolemref_SameClauses_0_x0]
theorem sameCNF_run (fuel d : Nat) (v : Int) {l : List (List Int)} (hl : l.length < 1000000000) (hlf : l.length < fuel) (hs : ∀ s ∈ l, s.length < 1000000000 ∧ s.length < fuel) (h : AHeap) : run fuel (d + 3) F_skolemref_SameCNF [.agg (cnfC v l), .agg (cnfC v l)] h = some (.bool true, h) := by
  have hc : canonV 8 (.agg (cnfC v l)) = some (.agg (cnfC v l)) := by
    unfold cnfC
    rw [canon_agg, canonM_cons (u := .int .i64 v) rfl (canonM_cons (u := .slice (lstLL l)) (canon_lstLL _ _) (canonM_nil _))]
    rfl
  refine pure_of rfl rfl (cc2 hc hc) (r := .bool true) ?_ rfl (h' := (AHeap.none.push 1 (cnfC v l)).push 1 (cnfC v l))
  rw [e_skolemref_SameCNF, show List.all (cnfC v l) AVal.isCell = true from rfl, cond_true, cond_true, show (cnfC v l).length = 2 from rfl]
  have s1 := ((Sep0.start AHeap.none).push 1 2 (cs := cnfC v l) rfl).push 1 2 (cs := cnfC v l) rfl
  have a0 : ((AHeap.none.push 1 (cnfC v l)).push 1 (cnfC v l)).cell (.mk ⟨AHeap.none.next, 0, 0 + 0⟩ 2) = some (.int .i64 v) := s1.part (i := 0) rfl (by omega) rfl
  have a1 : ((AHeap.none.push 1 (cnfC v l)).push 1 (cnfC v l)).cell (.mk ⟨AHeap.none.next, 0, 0 + 1⟩ 2) = some (.slice (lstLL l)) := s1.part (i := 0) rfl (by omega) rfl
  have b0 : ((AHeap.none.push 1 (cnfC v l)).push 1 (cnfC v l)).cell (.mk ⟨(AHeap.none.push 1 (cnfC v l)).next, 0, 0 + 0⟩ 2) = some (.int .i64 v) := s1.part (i := 1) rfl (by omega) rfl
  have b1 : ((AHeap.none.push 1 (cnfC v l)).push 1 (cnfC v l)).cell (.mk ⟨(AHeap.none.push 1 (cnfC v l)).next, 0, 0 + 1⟩ 2) = some (.slice (lstLL l)) := s1.part (i := 1) rfl (by omega) rfl
  simp only [field_mk, Option.bind_some, a0, a1, b0, b1, int_int, slice_slice, decide_true, beq_self_eq_true, cond_true]
  rw [sameCl_run fuel d hl hlf hs]
  simp only [Option.bind_some, bool_bool]

theorem clT_len (e vars many : Int) : ∀ (ws : List Wd) (out : List (List Int)) (c : List Int) (l : List (List Int)), clT e vars many ws out c = .ok l → (∀ s ∈ out, s.length < 1000) → out.length + ws.length < 1000 → c.length + ws.length < 1000 → l.length < 1000 ∧ ∀ s ∈ l, s.length < 1000
  | [], out, c, l, h, h1, h2, h3 => by
    unfold clT at h
    split at h
    · cases h
    · cases h
      simp at h2
      exact ⟨h2, h1⟩
  | w :: ws, out, c, l, h, h1, h2, h3 => by
    unfold clT at h
    simp only [List.length_cons] at h2 h3
    split at h
    · cases h
    · split at h
      · refine clT_len e vars many ws _ _ l h (fun s hs => ?_) (by simp; omega) (by simp; omega)
        rcases List.mem_append.1 hs with hs | hs
        · exact h1 s hs
        · rw [List.mem_singleton.1 hs]; omega
      · exact clT_len e vars many ws out _ l h h1 (by omega) (by simp; omega)
theorem errO_is {z : Option (Int × Int)} (hz : ∀ c p, z = some (c, p) → c = 101 ∨ c = 102) : ∃ c q x, faultO z = faultC c q x ∧ IsFault (errO z) c q x := by
  cases z with
  | none => exact ⟨0, false, 0, rfl, .fine⟩
  | some cp =>
    obtain ⟨c, p⟩ := cp
    rcases hz c p rfl with rfl | rfl
    · exact ⟨101, true, p, rfl, IsFault.at (j := 0) (by omega) p⟩
    · exact ⟨102, true, p, rfl, IsFault.at (j := 1) (by omega) p⟩
theorem first4_run (fuel : Nat) {e : Nat} (he : 9 ≤ e) (hf : 40 ≤ fuel) (h : AHeap) : run fuel e F_skolemlaw4_first [] h = some (.bool true, h) := by
  obtain ⟨d, rfl⟩ : ∃ d, e = d + 9 := ⟨e - 9, by omega⟩
  refine pure_ex rfl rfl canonL_nil (r := .bool true) ?_ (fun _ => rfl)
  rw [e_skolemlaw4_first, dread_nil fuel d hf, show crA (rdC []) = .tup [.agg (cnfC 0 []), atV 0 err_api_ErrText] from rfl]
  simp only [Option.bind_some, isTup_tup, List.length_cons, List.length_nil, Nat.beq, cond_true, comp_tup, List.getElem?_cons_zero, List.getElem?_cons_succ, agg_agg]
  rw [cond_pos _ _ (show (!false && Nat.beq (List.length (cnfC 0 [])) 2 && List.all (cnfC 0 []) AVal.isCell) = true from rfl)]
  have s1 := (Sep0.start AHeap.none).push 1 2 (cs := [(AVal.int .i64 (0 : Int)), (.slice Sl.nil)]) rfl
  obtain ⟨h5, e5, _⟩ := s1.put (i := 0) (o := 0) (l := 2) (vs := cnfC 0 []) rfl (by simp [cnfC]) (by simp [cnfC])
  rw [e5]
  simp only [Option.bind_some]
  rw [Placed_run fuel (d + 7) (show (101 : Int) ≠ 0 by omega)]
  simp only [Option.bind_some, agg_agg]
  rw [Same_run fuel (d + 4) (e := atV 0 err_api_ErrText) (c := 101) (p := true) (x := 0) (IsFault.at (j := 0) (by omega) 0) (by omega) 101 true 0]
  exact ⟨_, rfl⟩

theorem hd_parts (e : Int) (W : List Wd) : ∃ v m k u c q x, hdA (headT e W) = .tup [.int .i64 v, .int .i64 m, .int .i64 k, u] ∧ rhdA (headT e W) = .tup [.int .i64 v, .int .i64 m, .agg (faultC c q x)] ∧ IsFault u c q x ∧ ∃ z, nilTest .iface u = some z ∧ (z = true → k = 4) := by
  cases hh : headT e W with
  | ok v m => exact ⟨v, m, 4, .nilif, 0, false, 0, rfl, rfl, .fine, true, rfl, fun _ => rfl⟩
  | bad c p =>
    rcases headT_code hh with rfl | rfl
    · exact ⟨0, 0, 0, atV p err_api_ErrText, 101, true, p, rfl, rfl, IsFault.at (j := 0) (by omega) p, false, rfl, fun h => by cases h⟩
    · exact ⟨0, 0, 0, atV p err_api_ErrLimit, 102, true, p, rfl, rfl, IsFault.at (j := 1) (by omega) p, false, rfl, fun h => by cases h⟩
theorem cl_parts (e vars many : Int) {W : List Wd} (hW : W.length < 900) : ∃ l u c q x, clA (clT e vars many W [] []) = .tup [.slice (lstLL l), u] ∧ rclA (clT e vars many W [] []) = .tup [.slice (lstLL l), .agg (faultC c q x)] ∧ IsFault u c q x ∧ l.length < 1000 ∧ ∀ s ∈ l, s.length < 1000 := by
  cases hh : clT e vars many W [] [] with
  | ok l =>
    obtain ⟨l1, l2⟩ := clT_len e vars many W [] [] l hh (by simp) (by simp; omega) (by simp; omega)
    exact ⟨l, .nilif, 0, false, 0, rfl, rfl, .fine, l1, l2⟩
  | bad p => exact ⟨[], atV p err_api_ErrText, 101, true, p, rfl, rfl, IsFault.at (j := 0) (by omega) p, by simp, by simp⟩
theorem rd_parts {b : List UInt8} (hb : b.length ≤ 400) : ∃ v l u c q x, crA (rdC b) = .tup [.agg (cnfC v l), u] ∧ rcrA (rdC b) = .tup [.agg (cnfC v l), .agg (faultC c q x)] ∧ IsFault u c q x ∧ l.length < 1000 ∧ ∀ s ∈ l, s.length < 1000 := by
  have hl := splitLen b
  obtain ⟨c, q, x, e1, e2⟩ := errO_is (z := (rdC b).2.2) (fun c p h => rdC_code h)
  refine ⟨(rdC b).1, (rdC b).2.1, errO (rdC b).2.2, c, q, x, rfl, by unfold rcrA; rw [e1], e2, ?_⟩
  unfold rdC
  split
  · simp
  · split
    · simp
    · rename_i hc
      exact clT_len _ _ _ _ [] [] _ hc (by simp) (by simp; omega) (by simp; omega)
theorem same_true (fuel d : Nat) {u : AVal} {c x : Int} {q : Bool} (hu : IsFault u c q x) (hf : 10 < fuel) (h : AHeap) : run fuel (d + 4) F_skolemsee_Same [u, .agg (faultC c q x)] h = some (.bool true, h) := by
  rw [Same_run fuel d hu hf c q x, decide_eq_true (rfl : c = c), decide_eq_true (rfl : x = x)]
  cases q <;> rfl
theorem okC (v : Int) (l : List (List Int)) : (!false && Nat.beq (List.length (cnfC v l)) 2 && List.all (cnfC v l) AVal.isCell) = true := rfl

theorem dimacsReads_run (F d : Nat) (hF : 2 ^ 21 ≤ F) (b : List UInt8) (e vars many : Int) (h : AHeap) : ∃ h', run F (d + 60) F_skolemlaw4_DimacsReads [.slice (lstU b), .int .i64 e, .int .i64 vars, .int .i64 many] h = some (.bool true, h') := by
  rw [e_skolemlaw4_DimacsReads, first4_run F (by omega) (by omega), len_lst]
  simp only [Option.bind_some, bool_bool, Bool.not_true, cond_false]
  by_cases h0 : 400 < b.length
  · rw [decide_eq_true (show (400 : Int) < (b.length : Int) by omega)]
    exact ⟨h, rfl⟩
  rw [decide_eq_false (show ¬ (400 : Int) < (b.length : Int) by omega)]
  simp only [cond_false]
  cases decide ((100 : Int) < vars) with
  | true => exact ⟨h, rfl⟩
  | false =>
  cases decide ((100 : Int) < many) with
  | true => exact ⟨h, rfl⟩
  | false =>
  simp only [cond_false]
  have hl := splitLen b
  have hne : ∀ w ∈ splitOf b true, w.text ≠ [] := by
    have key : ∀ (n k : Nat), ∀ w ∈ splitGo b true n k, w.text ≠ [] := by
      intro n
      induction n with
      | zero => intro k w hw; cases hw
      | succ n ih =>
        intro k w hw
        simp only [splitGo] at hw
        split at hw
        · rcases List.mem_append.1 hw with hw | hw
          · split at hw
            · exact lineGo_text _ _ _ w hw
            · cases hw
          · exact ih _ w hw
        · cases hw
    exact key _ _
  obtain ⟨v1, l1, u1, c1, q1, x1, a1, a2, a3, a4, a5⟩ := rd_parts (b := b) (by omega)
  obtain ⟨v2, m2, k2, u2, c2, q2, x2, b1, b2, b3, z2, b4, b5⟩ := hd_parts e (splitOf b true)
  obtain ⟨l3, u3, c3, q3, x3, d1, d2, d3, d4, d5⟩ := cl_parts e vars many (W := splitOf b true) (by omega)
  rw [dread_run F (d + 51) (by omega) (by omega), a1]
  simp only [Option.bind_some, isTup_tup, List.length_cons, List.length_nil, Nat.beq, cond_true, comp_tup, List.getElem?_cons_zero, List.getElem?_cons_succ, agg_agg]
  rw [cond_pos _ _ (okC v1 l1)]
  have s1 := (Sep0.start h).push 1 2 (cs := [(AVal.int .i64 (0 : Int)), (.slice Sl.nil)]) rfl
  obtain ⟨h7, e7, s7⟩ := s1.put (i := 0) (o := 0) (l := 2) (vs := cnfC v1 l1) rfl (by simp [cnfC]) (by simp [cnfC])
  rw [e7, Option.bind_some, cread_run F (d + 54) (by omega) (by omega), a2]
  simp only [Option.bind_some, isTup_tup, List.length_cons, List.length_nil, Nat.beq, cond_true, comp_tup, List.getElem?_cons_zero, List.getElem?_cons_succ, agg_agg]
  rw [cond_pos _ _ (okC v1 l1)]
  have s8 := (s7.push 1 2 (cs := [(AVal.int .i64 (0 : Int)), (.slice Sl.nil)]) rfl).push 1 3 (cs := [(AVal.int .i64 (0 : Int)), (.bool false), (.int .i64 (0 : Int))]) rfl
  obtain ⟨h13, e13, s13⟩ := s8.put (i := 1) (o := 0) (l := 2) (vs := cnfC v1 l1) rfl (by simp [cnfC]) (by simp [cnfC])
  rw [e13, Option.bind_some, cond_pos _ _ (okF c1 q1 x1)]
  obtain ⟨h14, e14, _, s14⟩ := fault_put s13 (i := 2) rfl rfl c1 q1 x1
  rw [e14, Option.bind_some, split_run F (d + 56) (by omega) (by omega), Option.bind_some, slice_slice, Option.bind_some, rsplit_run F (d + 57) (by omega) (by omega), Option.bind_some, slice_slice, Option.bind_some, head_run F (d + 52) (by omega), b1]
  simp only [Option.bind_some, isTup_tup, List.length_cons, List.length_nil, Nat.beq, cond_true, comp_tup, List.getElem?_cons_zero, List.getElem?_cons_succ, int_int]
  rw [rhead_run F (d + 55) (by omega) (by omega) hne, b2]
  simp only [Option.bind_some, isTup_tup, List.length_cons, List.length_nil, Nat.beq, cond_true, comp_tup, List.getElem?_cons_zero, List.getElem?_cons_succ, int_int, agg_agg]
  rw [cond_pos _ _ (okF c2 q2 x2)]
  have s15 := s14.push 1 3 (cs := [(AVal.int .i64 (0 : Int)), (.bool false), (.int .i64 (0 : Int))]) rfl
  obtain ⟨h34, e34, hC, s34⟩ := fault_put s15 (i := 3) rfl rfl c2 q2 x2
  have hA : h34.cellsAt 2 (Pt.mk ⟨AHeap.next h, 0, 0⟩ 2) = some (cnfC v1 l1) := (s34.sep.own (i := 0) rfl).parts (by omega) (by simp [cnfC])
  have hA2 : h34.cellsAt 2 (Pt.mk ⟨AHeap.next h7, 0, 0⟩ 2) = some (cnfC v1 l1) := (s34.sep.own (i := 1) rfl).parts (by omega) (by simp [cnfC])
  have hB : h34.cellsAt 3 (Pt.mk ⟨AHeap.next (AHeap.push h7 1 [(AVal.int .i64 (0 : Int)), (.slice Sl.nil)]), 0, 0⟩ 3) = some (faultC c1 q1 x1) := (s34.sep.own (i := 2) rfl).parts (by omega) (by simp [faultC])
  rw [e34, Option.bind_some, hA, Option.bind_some, hA2, Option.bind_some, sameCNF_run F (d + 56) v1 (by omega) (by omega) (fun s hs => by have := a5 s hs; omega)]
  simp only [Option.bind_some, bool_bool, Bool.not_true, beq_self_eq_true, cond_true, hB]
  rw [same_true F (d + 55) a3 (by omega)]
  simp only [Option.bind_some, bool_bool, Bool.not_true, cond_false, decide_true, beq_self_eq_true, cond_true, hC]
  rw [same_true F (d + 55) b3 (by omega)]
  simp only [Option.bind_some, bool_bool, Bool.not_true, beq_self_eq_true, cond_true, b4]
  have hk : (bif z2 then !decide (k2 = 4) else false) = false := by
    cases z2 with
    | false => rfl
    | true => rw [b5 rfl]; rfl
  rw [hk, cond_false, cl_run F (d + 55) (by omega) (by omega), d1]
  simp only [Option.bind_some, isTup_tup, List.length_cons, List.length_nil, Nat.beq, cond_true, comp_tup, List.getElem?_cons_zero, List.getElem?_cons_succ, slice_slice]
  rw [rcl_run F (d + 56) (by omega) (by omega), d2]
  simp only [Option.bind_some, isTup_tup, List.length_cons, List.length_nil, Nat.beq, cond_true, comp_tup, List.getElem?_cons_zero, List.getElem?_cons_succ, slice_slice, agg_agg]
  rw [cond_pos _ _ (okF c3 q3 x3)]
  have s40 := s34.push 1 3 (cs := [(AVal.int .i64 (0 : Int)), (.bool false), (.int .i64 (0 : Int))]) rfl
  obtain ⟨h61, e61, hD, s61⟩ := fault_put s40 (i := 4) rfl rfl c3 q3 x3
  rw [e61]
  simp only [Option.bind_some, beq_self_eq_true, cond_true]
  rw [sameCl_run F (d + 57) (by omega) (by omega) (fun s hs => by have := d5 s hs; omega)]
  simp only [Option.bind_some, bool_bool, beq_self_eq_true, cond_true, hD]
  rw [same_true F (d + 55) d3 (by omega)]
  exact ⟨_, rfl⟩
end Go.Proofs.YtdkckkhghghhdaaDoor
