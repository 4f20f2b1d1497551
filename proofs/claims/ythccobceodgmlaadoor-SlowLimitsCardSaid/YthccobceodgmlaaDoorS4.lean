/-
  prefix.Matrix: clauses by their variables' places.
-/
import Derived.Test.YthccobceodgmlaaDoorS3
namespace Go.Proofs.YthccobceodgmlaaDoor
open Go.RowKit

/-- The place of a variable's first occurrence, from 1 on; 0: there is none. -/
def posV (v : Int) : List Int → Nat → Nat
  | [], _ => 0
  | x :: l, k => if x = v then k + 1 else posV v l (k + 1)
theorem posV_le (v : Int) : ∀ (l : List Int) (k : Nat), posV v l k ≤ k + l.length
  | [], k => Nat.zero_le _
  | x :: l, k => by
    have := posV_le v l (k + 1)
    simp only [posV, List.length_cons]
    split <;> omega
theorem posV_snoc (v x : Int) : ∀ (l : List Int) (k : Nat), posV v (l ++ [x]) k = if posV v l k ≠ 0 then posV v l k else if x = v then k + l.length + 1 else 0
  | [], k => by simp [posV]
  | y :: l, k => by
    have ih := posV_snoc v x l (k + 1)
    simp only [List.cons_append, posV]
    by_cases h : y = v
    · simp [h]
    · simp only [if_neg h, ih, List.length_cons]
      by_cases h2 : posV v l (k + 1) ≠ 0
      · simp [h2]
      · simp only [if_neg h2]
        split <;> first | rfl | omega

def litP (vs : List Int) (l : Int) : Option Int :=
  if posV (varI l) vs 0 = 0 ∨ l = 0 then none else some (if l < 0 then -(posV (varI l) vs 0 : Int) else (posV (varI l) vs 0 : Int))
def clauseP (vs : List Int) (c : List Int) : Option (List Int) := c.mapM (litP vs)
def matP (vs : List Int) (cc : List (List Int)) : Option (List (List Int)) := cc.mapM (clauseP vs)

theorem by_loop (fuel d : Nat) {vs : List Int} {x1 : Pt} (hv : vs.length < 1000000000) : ∀ (n k : Nat) (m : List (Int × Int)) (h : AHeap), vs.length < n + k → k ≤ vs.length → h.maps = [mapC m] → (∀ v, (getA v m).getD 0 = (posV v (vs.take k) 0 : Int)) →
    ∃ m' h', l_prefix_Matrix_0 fuel d n [(1, .ptr x1), (4, .map (some 0)), (20, .slice (lstI vs)), (21, .int .i64 (vs.length : Int)), (22, .int .i64 (k : Int))] h = some (.exit 0, [(1, .ptr x1), (4, .map (some 0))], h') ∧ h'.maps = [mapC m'] ∧ h'.rows = h.rows ∧ (∀ v, (getA v m').getD 0 = (posV v vs 0 : Int)) := by
  intro n
  induction n with
  | zero => intro k m h h1 h2; omega
  | succ n ih =>
    intro k m h h1 h2 hm hg
    rw [l_prefix_Matrix_0_eq]
    by_cases hk : k < vs.length
    · rw [bif_pos (by omega), addr_lstM _ (by omega) (by omega) 0]
      simp only [cell_fp, Option.bind_some, int_int, Int.toNat_natCast, AHeap.mapOf, hm, List.getElem?_cons_zero, mfind_mapC, mgot_getA, hg, mset_mapC, succI (n := k) (by omega)]
      have hs : ∀ v, posV v (vs.take (k + 1)) 0 = if posV v (vs.take k) 0 ≠ 0 then posV v (vs.take k) 0 else if vs.getD k 0 = v then k + 1 else 0 := fun v => by
        rw [take_get hk 0, posV_snoc, List.length_take, Nat.min_eq_left h2, Nat.zero_add]
      generalize vs.getD k 0 = x at hs ⊢
      have hs0 : ∀ v, ¬ x = v → (posV v (vs.take k) 0 : Int) = (posV v (vs.take (k + 1)) 0 : Int) := fun v e => by
        rw [hs]
        by_cases h9 : posV v (vs.take k) 0 = 0
        · rw [if_neg (fun h => h h9), if_neg e, h9]
        · rw [if_pos h9]
      by_cases h0 : posV x (vs.take k) 0 = 0
      · rw [bif_pos (by omega)]
        obtain ⟨m', h', e1, e2, e3, e4⟩ := ih (k + 1) (putA x ((k + 1 : Nat) : Int) m) (h.setMap 0 (mapC (putA x ((k + 1 : Nat) : Int) m))) (by omega) (by omega) (by simp [AHeap.setMap, hm]) (fun v => by
          rw [getA_put]
          by_cases e : v = x
          · subst e
            rw [if_pos rfl, hs, if_neg (fun h => h h0), if_pos rfl]
            rfl
          · rw [if_neg e, hg, hs0 v fun x => e x.symm])
        exact ⟨m', h', e1, e2, e3, e4⟩
      · rw [bif_neg (by omega)]
        obtain ⟨m', h', e1, e2, e3, e4⟩ := ih (k + 1) m h (by omega) (by omega) hm (fun v => by
          rw [hg]
          by_cases e : x = v
          · subst e
            rw [hs, if_pos h0]
          · exact hs0 v e)
        exact ⟨m', h', e1, e2, e3, e4⟩
    · have : k = vs.length := by omega
      subst this
      rw [bif_neg (by omega)]
      rw [List.take_length] at hg
      exact ⟨m, h, rfl, hm, rfl, hg⟩

theorem mapM_cons_some {α β : Type} (f : α → Option β) (a : α) (l : List α) : (a :: l).mapM f = (f a).bind fun b => (l.mapM f).bind fun bs => some (b :: bs) := by
  rw [List.mapM_cons]; rfl

/-- A clause's literals. -/
theorem mat_inner (fuel d : Nat) {vs : List Int} {m : List (Int × Int)} {x41 : Sl} {x42 x43 : Int} (hv : vs.length < 1000000000) (hm : ∀ v, (getA v m).getD 0 = (posV v vs 0 : Int)) {c : List Int} (hc : c.length < 1000000000) : ∀ (n k : Nat) (s7 s10 : Sl) (ocs : List AVal) (acc : List Int) (h : AHeap), c.length < n + k → k ≤ c.length → acc.length = k → h.maps[0]? = some (mapC m) → Grown h 1 s10 (intsC acc) → Grown h 1 s7 ocs → Far s10 s7 →
    (∃ xs s' h', (c.drop k).mapM (litP vs) = some xs ∧ l_prefix_Matrix_2 fuel (d + 1) n [(4, .map (some 0)), (7, .slice s7), (10, .slice s10), (41, .slice x41), (42, .int .i64 x42), (43, .int .i64 x43), (50, .slice (lstI c)), (51, .int .i64 (c.length : Int)), (52, .int .i64 (k : Int))] h =
        some (.exit 4, [(2, .bot), (3, .bot), (4, .map (some 0)), (7, .slice s7), (10, .slice s'), (41, .slice x41), (42, .int .i64 x42), (43, .int .i64 x43)], h') ∧ h'.maps[0]? = some (mapC m) ∧ Grown h' 1 s' (intsC (acc ++ xs)) ∧ Grown h' 1 s7 ocs ∧ Far s' s7) ∨
    (∃ s' h', (c.drop k).mapM (litP vs) = none ∧ l_prefix_Matrix_2 fuel (d + 1) n [(4, .map (some 0)), (7, .slice s7), (10, .slice s10), (41, .slice x41), (42, .int .i64 x42), (43, .int .i64 x43), (50, .slice (lstI c)), (51, .int .i64 (c.length : Int)), (52, .int .i64 (k : Int))] h =
        some (.ret, [(2, .slice .nil), (3, .bool false), (4, .map (some 0)), (7, .slice s7), (10, .slice s'), (41, .slice x41), (42, .int .i64 x42), (43, .int .i64 x43)], h')) := by
  intro n
  induction n with
  | zero => intro k s7 s10 ocs acc h h1 h2; omega
  | succ n ih =>
    intro k s7 s10 ocs acc h h1 h2 ha hmp hg h7 hf
    have hl := hg.len
    simp only [List.length_map, Nat.mul_one] at hl
    rw [l_prefix_Matrix_2_eq]
    by_cases hk : k < c.length
    · rw [bif_pos (by omega), addr_lstM _ (by omega) (by omega) 0, drop_get hk 0]
      simp only [cell_fp, Option.bind_some, int_int, Int.toNat_natCast, Var_run, AHeap.mapOf, hmp, mfind_mapC, mgot_getA, hm, mapM_cons_some]
      generalize c.getD k 0 = l
      by_cases h0 : posV (varI l) vs 0 = 0 ∨ l = 0
      · refine .inr ⟨s10, h, by simp [litP, h0], ?_⟩
        rw [cond_pos]
        rcases h0 with h0 | h0
        · simp [h0]
        · cases decide ((posV (varI l) vs 0 : Int) = 0) <;> simp [h0]
      · have hle := posV_le (varI l) vs 0
        have e0 : litP vs l = some (if l < 0 then -(posV (varI l) vs 0 : Int) else (posV (varI l) vs 0 : Int)) := by simp only [litP, if_neg h0]
        rw [cond_neg]
        · obtain ⟨s', h', e1, e2, e3, e4, e5, e6⟩ := hg.snoc2 (bytes := 8) (vs := [.int .i64 (if l < 0 then -(posV (varI l) vs 0 : Int) else (posV (varI l) vs 0 : Int))]) rfl (by omega) (by omega) h7 hf
          have fin := ih (k + 1) s7 s' ocs (acc ++ [if l < 0 then -(posV (varI l) vs 0 : Int) else (posV (varI l) vs 0 : Int)]) h' (by omega) (by omega) (by simp; omega) (e6.3 _ _ hmp) (by simpa using e2) e4 e5
          have step : ((bif decide (l < 0) then (some (AExit.normal, [(4, AVal.map (some 0)), (7, AVal.slice s7), (10, AVal.slice s10), (13, AVal.int .i64 (IntKind.wrap .i64 (0 - (posV (varI l) vs 0 : Int)))), (41, AVal.slice x41), (42, AVal.int .i64 x42), (43, AVal.int .i64 x43), (50, AVal.slice (lstI c)), (51, AVal.int .i64 (c.length : Int)), (52, AVal.int .i64 (k : Int))], h)) else (some (AExit.normal, [(4, AVal.map (some 0)), (7, AVal.slice s7), (10, AVal.slice s10), (13, AVal.int .i64 (posV (varI l) vs 0 : Int)), (41, AVal.slice x41), (42, AVal.int .i64 x42), (43, AVal.int .i64 x43), (50, AVal.slice (lstI c)), (51, AVal.int .i64 (c.length : Int)), (52, AVal.int .i64 (k : Int))], h)) : Option (AExit × Fr × AHeap)).bind fun p9 => k_prefix_Matrix_3 fuel (d + 1) n p9.1 p9.2.1 p9.2.2) =
              l_prefix_Matrix_2 fuel (d + 1) n [(4, .map (some 0)), (7, .slice s7), (10, .slice s'), (41, .slice x41), (42, .int .i64 x42), (43, .int .i64 x43), (50, .slice (lstI c)), (51, .int .i64 (c.length : Int)), (52, .int .i64 ((k + 1 : Nat) : Int))] h' := by
            by_cases hlt : l < 0
            · rw [if_pos hlt] at e1
              rw [bif_pos hlt, wrap64 (by omega) (by omega), Int.zero_sub]
              simp only [Option.bind_some, k_prefix_Matrix_3_n, e1, succI (n := k) (by omega)]
            · rw [if_neg hlt] at e1
              rw [bif_neg hlt]
              simp only [Option.bind_some, k_prefix_Matrix_3_n, e1, succI (n := k) (by omega)]
          rw [step, e0]
          rcases fin with ⟨xs, s2, h2, g1, g2, g3, g4, g5, g6⟩ | ⟨s2, h2, g1, g2⟩
          · exact .inl ⟨_ :: xs, s2, h2, by rw [g1]; rfl, g2, g3, by simpa using g4, g5, g6⟩
          · exact .inr ⟨s2, h2, by rw [g1]; rfl, g2⟩
        · have n1 : ¬ ((posV (varI l) vs 0 : Int) = 0) := by omega
          have n2 : ¬ l = 0 := by omega
          simp only [decide_eq_false n1, decide_eq_false n2, cond_false]
    · have : k = c.length := by omega
      rw [bif_neg (by omega)]
      refine .inl ⟨[], s10, h, by rw [List.drop_eq_nil_of_le (by omega)]; rfl, rfl, hmp, by simpa using hg, h7, hf⟩

theorem closedL_intsC (l : List Int) : closedL (intsC l) = true := closedL_map (fun _ => rfl) l

theorem mat_outer (fuel d : Nat) {vs : List Int} {m : List (Int × Int)} (hv : vs.length < 1000000000) (hm : ∀ v, (getA v m).getD 0 = (posV v vs 0 : Int)) {cc : List (List Int)} (hc : Few fuel cc) : ∀ (n k : Nat) (s7 : Sl) (acc : List (List Int)) (h : AHeap), cc.length < n + k → k ≤ cc.length → acc.length = k → h.maps[0]? = some (mapC m) → Grown h 1 s7 (acc.map fun c => .slice (lstI c)) →
    (∃ xs s' h', (cc.drop k).mapM (clauseP vs) = some xs ∧ (l_prefix_Matrix_1 fuel (d + 1) n [(4, .map (some 0)), (7, .slice s7), (41, .slice (lstLL cc)), (42, .int .i64 (cc.length : Int)), (43, .int .i64 (k : Int))] h).bind (fun p => k_prefix_Matrix_1 fuel (d + 1) p.1 p.2.1 p.2.2) = some (.tup [.slice s', .bool true], h') ∧ Grown h' 1 s' ((acc ++ xs).map fun c => .slice (lstI c))) ∨
    (∃ h', (cc.drop k).mapM (clauseP vs) = none ∧ (l_prefix_Matrix_1 fuel (d + 1) n [(4, .map (some 0)), (7, .slice s7), (41, .slice (lstLL cc)), (42, .int .i64 (cc.length : Int)), (43, .int .i64 (k : Int))] h).bind (fun p => k_prefix_Matrix_1 fuel (d + 1) p.1 p.2.1 p.2.2) = some (.tup [.slice .nil, .bool false], h')) := by
  intro n
  induction n with
  | zero => intro k s7 acc h h1 h2; omega
  | succ n ih =>
    intro k s7 acc h h1 h2 ha hmp hg
    have hl := hg.len
    simp only [List.length_map, Nat.mul_one] at hl
    rw [l_prefix_Matrix_1_eq]
    have hcl := hc.many
    by_cases hk : k < cc.length
    · obtain ⟨c1, c2⟩ := hc.each (cc.getD k []) (by rw [List.getD_eq_getElem?_getD, List.getElem?_eq_getElem hk]; exact List.getElem_mem hk)
      rw [bif_pos (by omega), addr_lstM _ (by omega) (by omega) [], drop_get hk []]
      simp only [cell_fp, Option.bind_some, slice_slice, Int.toNat_natCast, mapM_cons_some]
      rw [cond_pos]
      · generalize cc.getD k [] = c at c1 c2 ⊢
        have h7' : Grown (h.push 1 []) 1 s7 (acc.map fun c => .slice (lstI c)) := hg.keep (Keeps.push h 1 [] fun _ => False) fun _ _ => id
        have hfar : Far (.mk ⟨h.next, 0, 0⟩ 0 (eqI (0 : Int) ((lstI c).len : Int))) s7 := fun r hr h9 => by
          have := Sl.row_some hr
          have := hg.row_lt h9
          simp [AHeap.next] at *
          omega
        have := mat_inner fuel d (x41 := lstLL cc) (x42 := (cc.length : Int)) (x43 := (k : Int)) hv hm c1 fuel 0 s7 (.mk ⟨h.next, 0, 0⟩ 0 (eqI (0 : Int) ((lstI c).len : Int))) (acc.map fun c => .slice (lstI c)) [] (h.push 1 []) (by omega) (by omega) rfl hmp (Grown.make 1 _) h7' hfar
        rw [show ((0 : Nat) : Int) = 0 from rfl, List.drop_zero] at this
        rcases this with ⟨xs, s', h', g1, g2, g3, g4, g5, g6⟩ | ⟨s', h', g1, g2⟩
        · rw [List.nil_append] at g4
          obtain ⟨h3, f1, f2, f3, f4⟩ := g4.fix (closedL_intsC xs)
          have g5' : Grown h3 1 s7 (acc.map fun c => .slice (lstI c)) := g5.keep f2 fun i hi h9 => g6 i h9 hi
          have hxl := g4.len
          simp only [List.length_map, Nat.mul_one] at hxl
          rw [← hxl] at f1
          obtain ⟨s8, h8, e1, e2, e3, e4, _⟩ := g5'.one (bytes := 24) (vs := [.slice (lstI xs)]) rfl (by omega) (by omega)
          have hmp8 : h8.maps[0]? = some (mapC m) := e4.3 _ _ (f2.3 _ _ g3)
          have fin := ih (k + 1) s8 (acc ++ [xs]) h8 (by omega) (by omega) (by simp; omega) hmp8 (by simpa using e2)
          have step : l_prefix_Matrix_2 fuel (d + 1) fuel [(4, .map (some 0)), (7, .slice s7), (10, .slice (.mk ⟨h.next, 0, 0⟩ 0 (eqI (0 : Int) ((lstI c).len : Int)))), (41, .slice (lstLL cc)), (42, .int .i64 (cc.length : Int)), (43, .int .i64 (k : Int)), (50, .slice (lstI c)), (51, .int .i64 ((lstI c).len : Int)), (52, .int .i64 (0 : Int))] (h.push 1 []) = _ := g2
          rw [step]
          simp only [Option.bind_some, k_prefix_Matrix_2_x4, fixL_one, f1, e1, succI (n := k) (by omega)]
          rcases fin with ⟨ys, s9, h9, j1, j2, j3⟩ | ⟨h9, j1, j2⟩
          · exact .inl ⟨xs :: ys, s9, h9, by rw [show clauseP vs c = some xs from g1, j1]; rfl, j2, by simpa using j3⟩
          · exact .inr ⟨h9, by rw [show clauseP vs c = some xs from g1, j1]; rfl, j2⟩
        · have step : l_prefix_Matrix_2 fuel (d + 1) fuel [(4, .map (some 0)), (7, .slice s7), (10, .slice (.mk ⟨h.next, 0, 0⟩ 0 (eqI (0 : Int) ((lstI c).len : Int)))), (41, .slice (lstLL cc)), (42, .int .i64 (cc.length : Int)), (43, .int .i64 (k : Int)), (50, .slice (lstI c)), (51, .int .i64 ((lstI c).len : Int)), (52, .int .i64 (0 : Int))] (h.push 1 []) = _ := g2
          rw [step]
          exact .inr ⟨h', by rw [show clauseP vs c = none from g1]; rfl, by simp only [Option.bind_some, k_prefix_Matrix_2_r, k_prefix_Matrix_1_r]⟩
      · simp only [Bool.and_eq_true, decide_eq_true_eq]
        simp only [len_lst]
        omega
    · have : k = cc.length := by omega
      rw [bif_neg (by omega)]
      refine .inl ⟨[], s7, h, by rw [List.drop_eq_nil_of_le (by omega)]; rfl, by simp only [Option.bind_some, k_prefix_Matrix_1_x2], by simpa using hg⟩

/-- A game. -/
abbrev gameC (ex : Bool) (outer inner : List Int) (cc : List (List Int)) : List AVal := [.bool ex, .slice (lstI outer), .slice (lstI inner), .slice (lstLL cc)]
theorem canon_game (n : Nat) (ex : Bool) (outer inner : List Int) (cc : List (List Int)) : canonV (n + 2) (.agg (gameC ex outer inner cc)) = some (.agg (gameC ex outer inner cc)) := by
  rw [canon_agg, canonM_cons (u := .bool ex) rfl (canonM_cons (canon_lstI n outer) (canonM_cons (canon_lstI n inner) (canonM_cons (canon_lstLL n cc) (canonM_nil _))))]
  rfl
def matR : Option (List (List Int)) → AVal
  | some xs => .tup [.slice (lstLL xs), .bool true]
  | none => .tup [.slice (lstI []), .bool false]

theorem Matrix_run (fuel d : Nat) {ex : Bool} {outer inner : List Int} {cc : List (List Int)} (ho : outer.length + inner.length < 1000000) (hf : outer.length + inner.length < fuel) (hf2 : 2 < fuel) (hc : Few fuel cc) (h : AHeap) :
    run fuel (d + 4) F_prefix_Matrix [.agg (gameC ex outer inner cc)] h = some (matR (matP (outer ++ inner) cc), h) := by
  have hcat := fun h => Concat_run fuel (d + 1) (cc := [outer, inner]) (c := true) h (by simp) (by simpa using hf2) (by simp [sumLen]; omega)
  have hcat' : ∀ h, run fuel (d + 3) F_slices_Concat_s_int_int [.slice (.lst 2 true [.slice (lstI outer), .slice (lstI inner)])] h = some (.slice (lstI (outer ++ inner)), h) := fun h => by
    have := hcat h
    simpa using this
  have hb := by_loop fuel (d + 3) (vs := outer ++ inner) (x1 := .mk ⟨0, 0, 0⟩ 4) (by simp; omega) fuel 0 [] ((AHeap.none.push 1 (gameC ex outer inner cc)).newMap) (by simp; omega) (by omega) rfl (fun v => rfl)
  obtain ⟨m', h1, e1, e2, e3, e4⟩ := hb
  rw [show ((0 : Nat) : Int) = 0 from rfl] at e1
  have hrow : h1.rows = [{ cells := gameC ex outer inner cc, sz := 1 }] := e3
  have hcell : h1.cell (.mk ⟨0, 0, 3⟩ 4) = some (.slice (lstLL cc)) := by
    simp [AHeap.cell, AHeap.live, hrow]
    rfl
  have hcell2 : (h1.push 1 []).cell (.mk ⟨0, 0, 3⟩ 4) = some (.slice (lstLL cc)) := by
    simp [AHeap.cell, AHeap.live, AHeap.push, hrow]
    rfl
  have hm2 : (h1.push 1 []).maps[0]? = some (mapC m') := by
    show h1.maps[0]? = _
    rw [e2]; rfl
  have hout := mat_outer fuel (d + 2) (vs := outer ++ inner) (by simp; omega) e4 hc fuel 0 (.mk ⟨h1.next, 0, 0⟩ 0 (eqI (0 : Int) ((lstLL cc).len : Int))) [] (h1.push 1 []) (by have := hc.room; omega) (by omega) rfl hm2 (Grown.make 1 _)
  rw [List.drop_zero, show ((0 : Nat) : Int) = 0 from rfl] at hout
  have hbody : brun fuel (d + 3 + 1) F_prefix_Matrix [.agg (gameC ex outer inner cc)] AHeap.none = (l_prefix_Matrix_1 fuel (d + 2 + 1) fuel [(4, .map (some 0)), (7, .slice (.mk ⟨h1.next, 0, 0⟩ 0 (eqI (0 : Int) ((lstLL cc).len : Int)))), (41, .slice (lstLL cc)), (42, .int .i64 (cc.length : Int)), (43, .int .i64 (0 : Int))] (h1.push 1 [])).bind (fun p => k_prefix_Matrix_1 fuel (d + 2 + 1) p.1 p.2.1 p.2.2) := by
    rw [e_prefix_Matrix, show List.all (gameC ex outer inner cc) AVal.isCell = true from rfl, cond_true]
    have c1 : (AHeap.none.push 1 (gameC ex outer inner cc)).newMap.cell (.mk ⟨AHeap.none.next, 0, 0 + 1⟩ (gameC ex outer inner cc).length) = some (.slice (lstI outer)) := rfl
    have c2 : (AHeap.none.push 1 (gameC ex outer inner cc)).newMap.cell (.mk ⟨AHeap.none.next, 0, 0 + 2⟩ (gameC ex outer inner cc).length) = some (.slice (lstI inner)) := rfl
    simp only [field_mk, c1, c2, slice_slice, Option.bind_some, hcat']
    have e1' : l_prefix_Matrix_0 fuel (d + 3) fuel [(1, .ptr (.mk ⟨AHeap.none.next, 0, 0⟩ (gameC ex outer inner cc).length)), (4, .map (some (AHeap.none.push 1 (gameC ex outer inner cc)).maps.length)), (20, .slice (lstI (outer ++ inner))), (21, .int .i64 ((lstI (outer ++ inner)).len : Int)), (22, .int .i64 (0 : Int))] ((AHeap.none.push 1 (gameC ex outer inner cc)).newMap) = _ := e1
    rw [e1']
    simp only [Option.bind_some, k_prefix_Matrix_0_x0, field_mk, hcell, slice_slice]
    rw [cond_pos]
    · rw [hcell2]
      simp only [slice_slice, Option.bind_some]
      rfl
    · have := hc.many
      simp only [Bool.and_eq_true, decide_eq_true_eq]
      simp only [len_lst]
      omega
  have hcl := canonL_cons (canon_game 6 ex outer inner cc) canonL_nil
  rcases hout with ⟨xs, s', h', g1, g2, g3⟩ | ⟨h', g1, g2⟩
  · refine pure_of rfl rfl hcl (hbody.trans g2) ?_
    rw [show matP (outer ++ inner) cc = some xs from g1]
    rw [List.nil_append] at g3
    have hl := g3.len
    simp only [List.length_map, Nat.mul_one] at hl
    refine freeze_tup2 7 ?_ rfl
    rw [g3.freeze (n := 6) (by omega) (mapM_freeze (g := fun c => .slice (lstI c)) (fun c => freeze_lstI 5 c) xs), ← hl]
  · refine pure_of rfl rfl hcl (hbody.trans g2) ?_
    rw [show matP (outer ++ inner) cc = none from g1]
    rfl

end Go.Proofs.YthccobceodgmlaaDoor
