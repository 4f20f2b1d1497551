/-
  SlowSats.
-/
import Derived.Test.YthccobceodgmlaaDoorS5f
import Derived.Test.YthccobceodgmlaaDoorS7o
import Derived.Test.YthccobceodgmlaaDoorS7r
import Derived.Test.YthccobceodgmlaaDoorS9
namespace Go.Proofs.YthccobceodgmlaaDoor
open Go.RowKit

theorem ofI_append (a b : List (List Int)) (m : List Bool) : ofI (a ++ b) m = (ofI a m && ofI b m) := by simp [ofI]
theorem satV_some (m : List Bool) : satV (some m) = .tup [.slice (lstB m), .bool true, .nilif] := rfl
theorem satV_none : satV none = .tup [.slice (lstB []), .bool false, .nilif] := rfl
theorem firstI_len {cc : List (List Int)} {vars : Nat} {m : List Bool} (h : firstI cc vars (some m)) : m.length = vars + 1 ∧ ofI cc m = true := by
  obtain ⟨b', rfl, h2, h3, _⟩ := h
  exact ⟨by simp [h2], h3⟩

theorem slowSats_run (fuel d : Nat) (hf : 2 ^ 21 ≤ fuel) (l more : List Int) (x : Int) (h : AHeap) :
    ∃ h', run fuel (d + 8) F_skolemlaw7_SlowSats [.slice (lstI l), .slice (lstI more), .int .i64 x] h = some (.bool true, h') := by
  have hp : (2 : Nat) ^ 21 = 2097152 := rfl
  have hf21 := hf
  rw [e_skolemlaw7_SlowSats, first7_run fuel (d + 1) hf]
  rw [hp] at hf
  clear hp
  simp only [Option.bind_some, bool_bool, Bool.not_true, cond_false]
  rw [show (lstI l).len = l.length from rfl, show (lstI more).len = more.length from rfl]
  by_cases hl : 60 < l.length
  · rw [decide_eq_true (by omega), cond_true, cond_true]; exact ⟨h, rfl⟩
  rw [decide_eq_false (by omega), cond_false]
  by_cases hm : 20 < more.length
  · rw [bif_pos (by omega)]; exact ⟨h, rfl⟩
  rw [bif_neg (by omega), CNF_run fuel (d + 3) (l := l) (vars := 9) (by omega) (by omega) (by omega)]
  obtain ⟨q1, q2, q3⟩ := clausesI_size l 9
  obtain ⟨r1, r2, r3⟩ := clausesI_size more 9
  have qlit : ∀ c ∈ clausesI l 9, ∀ y ∈ c, isI y ((9 : Nat) : Int) = true := fun c hc y hy => (isI_iff (by omega) (by omega)).2 (clausesI_lits (by omega) l c hc y hy)
  have rlit : ∀ c ∈ clausesI more 9, ∀ y ∈ c, isI y ((9 : Nat) : Int) = true := fun c hc y hy => (isI_iff (by omega) (by omega)).2 (clausesI_lits (by omega) more c hc y hy)
  have qok : ∀ c ∈ clausesI l 9, ∀ y ∈ c, okInt y := fun c hc y hy => by
    obtain ⟨_, h1, h2⟩ := clausesI_lits (vars := 9) (by omega) l c hc y hy
    exact ⟨by omega, by omega⟩
  simp only [Option.bind_some, agg_agg]
  rw [cond_pos _ _ (show (!false && Nat.beq (List.length (cnfC 9 (clausesI l 9))) 2 && List.all (cnfC 9 (clausesI l 9)) AVal.isCell) = true from rfl)]
  have s0 := (Sep0.start h).push 1 2 (cs := [.int .i64 0, .slice .nil]) rfl
  obtain ⟨h1, p1, s1⟩ := s0.put (i := 0) (o := 0) (l := 2) (vs := cnfC 9 (clausesI l 9)) rfl (by simp [cnfC]) (by simp [cnfC])
  obtain ⟨s7, h2, e2, n2⟩ := Clauses_run fuel (d + 4) (l := l) (vars := 9) (by omega) (by omega) (by omega) h1
  have s2 := s1.add n2
  obtain ⟨s9, h3, e3, n3⟩ := Clauses_run fuel (d + 4) (l := more) (vars := 9) (by omega) (by omega) (by omega) h2
  have s3 := s2.add n3
  have c9 := (s3.sep.grown (i := 2) (sz := 1) (s := s9) (cs := gridC (clausesI more 9)) rfl).cells
  have l7 := s3.len (i := 1) (sz := 1) (s := s7) (cs := gridC (clausesI l 9)) rfl
  have l9 := s3.len (i := 2) (sz := 1) (s := s9) (cs := gridC (clausesI more 9)) rfl
  simp only [List.length_map, Nat.mul_one] at l7 l9
  have hfx : ∀ h : AHeap, h.fixL (gridC (clausesI more 9)) = (gridC (clausesI more 9), h) := fun h => fixL_map (fun a h => rfl) _
  obtain ⟨sd, h4, e4, s4, l4⟩ := s3.grow (i := 1) (sz := 1) (s := s7) (cs := gridC (clausesI l 9)) (bytes := 24) (m := s9.len) (vs := gridC (clausesI more 9)) rfl (by simp; omega) (by omega) (by omega)
  have s5 := s4.push 1 2 (cs := [.int .i64 0, .slice .nil]) rfl
  obtain ⟨h5, p5, s6⟩ := s5.put (i := 3) (id := h4.next) (sz := 1) (gen := 0) (n := 2) (cs := [.int .i64 0, .slice .nil]) (o := 0) (l := 2) (vs := [.int .i64 9, .slice sd]) rfl (by simp) (by simp)
  have s6' : Sep0 h h5 [.own 1 h.next 0 2 (cnfC 9 (clausesI l 9)), .grown 1 sd (gridC (clausesI l 9) ++ gridC (clausesI more 9)), .grown 1 s9 (gridC (clausesI more 9)), .own 1 h4.next 0 2 [.int .i64 9, .slice sd]] := s6
  rw [← gridC_append] at s6'
  have cC : h5.cellsAt 2 (.mk ⟨h.next, 0, 0⟩ 2) = some (cnfC 9 (clausesI l 9)) := (s6'.sep.own (i := 0) rfl).parts (by omega) (by simp [cnfC])
  have cD : h5.cellsAt 2 (.mk ⟨h4.next, 0, 0⟩ 2) = some [.int .i64 9, .slice sd] := (s6'.sep.own (i := 3) rfl).parts (by omega) (by simp)
  have cK : h5.cell (.mk ⟨h.next, 0, 0 + 1⟩ 2) = some (.slice (lstLL (clausesI l 9))) := s6'.part (i := 0) rfl (by omega) rfl
  have ld := s6'.len (i := 1) (sz := 1) rfl
  simp only [List.length_map, Nat.mul_one] at ld
  obtain ⟨ob, ids, e6, f6⟩ := Sat_any fuel (d + 1) (vars := 9) (cc := clausesI l 9) (by omega) hf21 (by omega) (by omega) (fun c hc => by have := q3 c hc; omega) qlit (h := h5) (freeze_cnf 6 _ _)
  have vD : freezeV (h5.markRo ids) 8 (.agg [.int .i64 9, .slice sd]) = some (.agg (cnfC ((9 : Nat) : Int) (clausesI l 9 ++ clausesI more 9))) := by
    rw [freeze_mark]
    refine freeze_agg 7 (mm2 rfl ?_)
    rw [(s6'.sep.grown (i := 1) (sz := 1) rfl).freeze (n := 6) (by omega) (freeze_gridC 5 _), ← ld]
  obtain ⟨ob2, ids2, e7, f7⟩ := Sat_any fuel (d + 1) (vars := 9) (cc := clausesI l 9 ++ clausesI more 9) (by omega) hf21 (by simp; omega) (by simp [totalI] at q2 r2 ⊢; omega) (fun c hc => by
    rcases List.mem_append.1 hc with hc | hc
    · have := q3 c hc; omega
    · have := r3 c hc; omega) (fun c hc => by
    rcases List.mem_append.1 hc with hc | hc
    · exact qlit c hc
    · exact rlit c hc) vD
  have e6 : run fuel (d + 7) F_slow_Sat [.agg (cnfC 9 (clausesI l 9))] h5 = _ := e6
  have e7 : run fuel (d + 7) F_slow_Sat [.agg [.int .i64 9, .slice sd]] (h5.markRo ids) = _ := e7
  have hV := Values_run fuel (d + 6) (x := x) (many := 9) (by omega) (by omega) ((h5.markRo ids).markRo ids2)
  rw [show ((9 : Nat) : Int) = 9 from rfl] at hV
  have hap := append_lst (h := (h5.markRo ids).markRo ids2) (sz := 1) (bytes := 1) (n := 1) (m := 9) (cs := [.bool false]) (xs := boolsC (valuesI x 9)) rfl (by omega) (by omega) (by omega)
  generalize hh9 : AHeap.push ((h5.markRo ids).markRo ids2) 1 ([AVal.bool false] ++ boolsC (valuesI x 9)) = h9 at hap
  have cK9 : h9.cell (.mk ⟨h.next, 0, 0 + 1⟩ 2) = some (.slice (lstLL (clausesI l 9))) := by
    rw [← hh9]
    refine cell_keep (Keeps.push _ _ _ fun _ => False) id ?_
    rw [cell_mark, cell_mark]
    exact cK
  have vv : freezeV h9 8 (.slice (.mk ⟨((h5.markRo ids).markRo ids2).next, 0, 0⟩ 10 false)) = some (.slice (lstB (false :: valuesI x 9))) := by
    have ho := Own.push ((h5.markRo ids).markRo ids2) 1 10 ([AVal.bool false] ++ boolsC (valuesI x 9)) (by simp [valuesI_len])
    rw [hh9] at ho
    have := ho.freeze (n := 7) false (freeze_boolsC 6 (false :: valuesI x 9))
    rw [show (10 : Nat) = (false :: valuesI x 9).length by simp [valuesI_len]]
    rw [show (10 : Nat) = (false :: valuesI x 9).length by simp [valuesI_len]] at this
    exact this
  have cxs : AHeap.sliceCells ((h5.markRo ids).markRo ids2) 1 (lstB (valuesI x 9)) = some (boolsC (valuesI x 9)) := cells_lstM _ _ _
  have hlv : (lstB (valuesI x 9)).len = 9 := by show (valuesI x 9).length = 9; exact valuesI_len x 9
  have ofv : freezeV h9 8 (.slice (lstLL (clausesI l 9))) = some (.slice (lstLL (clausesI l 9))) := freeze_lst _ _ _ (closedL_map closed_lstI _)
  have gok : ∀ c ∈ clausesI l 9, c.length < 1000000000 ∧ c.length < fuel ∧ ∀ y ∈ c, okInt y := fun c hc => ⟨by have := q3 c hc; omega, by have := q3 c hc; omega, qok c hc⟩
  have hN := fun h => Number_run fuel (d + 6) (n := 0) (b := 1) (by decide) h
  rw [show numI 0 1 = 0 from rfl] at hN
  have O2 := refOf_run fuel (d + 6) (cc := clausesI l 9) (m := false :: valuesI x 9) (by simp [valuesI_len]) (by omega) (by omega) gok ofv vv
  simp only [p1, Option.bind_some, e2, slice_slice, e3, c9, hfx, e4, p5, cC, e6, e7, cellsAt_mark, cD, hV, cxs, hlv, hap]
  cases ob with
  | none =>
    have h0 : ofI (clausesI l 9) (false :: valuesI x 9) = false := f6 _ (valuesI_len x 9)
    rw [h0] at O2
    cases ob2 with
    | none =>
      simp only [satV_none, isTup_tup, comp_tup, List.length_cons, List.length_nil, Nat.reduceAdd, Nat.beq_refl, cond_true, List.getElem?_cons_zero, List.getElem?_cons_succ, Option.bind_some, slice_slice, bool_bool, beq_self_eq_true, (show nilTest .iface .nilif = some true from rfl), beqF, beqT, Bool.not_false, Bool.not_true, cond_false, field_mk, cK9, O2, hN, int_int, (show ((lstB []).len : Nat) = 0 from rfl), decide_true, (show (((0 : Nat) : Int) = 0) = True from by simp)]
      exact ⟨_, rfl⟩
    | some m2 =>
      obtain ⟨_, g2⟩ := firstI_len f7
      obtain ⟨b', rfl, g3, _, _⟩ := f7
      rw [ofI_append, f6 b' g3] at g2
      cases g2
  | some m =>
    obtain ⟨g1, g2⟩ := firstI_len f6
    have O1 := refOf_run fuel (d + 6) (cc := clausesI l 9) (m := m) (by omega) (by omega) (by omega) gok (h := h9) ofv (y := .slice (lstB m)) (freeze_lst _ _ _ (closedL_map (fun _ => rfl) _))
    rw [g2] at O1
    cases ob2 <;>
      (simp only [satV_none, satV_some, isTup_tup, comp_tup, List.length_cons, List.length_nil, Nat.reduceAdd, Nat.beq_refl, cond_true, List.getElem?_cons_zero, List.getElem?_cons_succ, Option.bind_some, slice_slice, bool_bool, beq_self_eq_true, (show nilTest .iface .nilif = some true from rfl), beqF, beqT, Bool.not_false, Bool.not_true, cond_false, field_mk, cK9, O1, hN, int_int, (show ((lstB m).len : Nat) = 10 from g1), decide_true, (show (((10 : Nat) : Int) = 10) = True from by simp)]
       exact ⟨_, rfl⟩)

end Go.Proofs.YthccobceodgmlaaDoor
