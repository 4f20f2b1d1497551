/-
  skolemref.SameBools; skolemmake.Formula, skolemmake.Game.
-/
import Derived.Test.YthccobceodgmlaaDoorS7p
import Derived.Test.YthccobceodgmlaaDoorS4
namespace Go.Proofs.YthccobceodgmlaaDoor
open Go.RowKit

theorem sameB_loop (fuel d : Nat) {a b : List Bool} (hl : a.length = b.length) (hn : a.length < 1000000000) {h : AHeap} : ∀ (n k : Nat), a.length < n + k → k ≤ a.length → a.take k = b.take k →
    (l_skolemref_SameBools_0 fuel d n [(0, .slice (lstB a)), (1, .slice (lstB b)), (5, .int .i64 (k : Int))] h).bind (fun p => k_skolemref_SameBools_0 fuel d p.1 p.2.1 p.2.2) = some (.bool (decide (a = b)), h) := by
  intro n
  induction n with
  | zero => intro k h1 h2; omega
  | succ n ih =>
    intro k h1 h2 h3
    rw [l_skolemref_SameBools_0_eq, len_lst]
    by_cases hk : k < a.length
    · rw [bif_pos (by omega), addr_lstM _ (by omega) (by omega) false, addr_lstM _ (by omega) (by omega) false]
      simp only [Option.bind_some, cell_fp, bool_bool, Int.toNat_natCast]
      by_cases he : a.getD k false = b.getD k false
      · rw [he]
        simp only [beq_self_eq_true, Bool.not_true, cond_false]
        rw [succI (by omega), ih (k + 1) (by omega) (by omega) (by rw [take_get hk false, take_get (by omega) false, h3, he])]
      · have hb : (!(a.getD k false == b.getD k false)) = true := by simpa using he
        rw [hb]
        simp only [cond_true, Option.bind_some, k_skolemref_SameBools_0_r]
        have : a ≠ b := fun h => he (by rw [h])
        rw [decide_eq_false this]
    · have : k = a.length := by omega
      subst this
      rw [bif_neg (by omega)]
      have : a = b := by rw [List.take_length, hl, List.take_length] at h3; exact h3
      simp only [Option.bind_some, k_skolemref_SameBools_0_x0]
      rw [decide_eq_true this]

theorem sameB_run (fuel d : Nat) {a b : List Bool} (hn : a.length < 1000000000) (hf : a.length < fuel) (h : AHeap) :
    run fuel (d + 1) F_skolemref_SameBools [.slice (lstB a), .slice (lstB b)] h = some (.bool (decide (a = b)), h) := by
  refine pure_of rfl rfl (cc2 (canon_lstB 7 a) (canon_lstB 7 b)) (r := .bool (decide (a = b))) (h' := AHeap.none) ?_ rfl
  rw [e_skolemref_SameBools, len_lst, len_lst]
  by_cases hl : a.length = b.length
  · rw [bif_npos (by omega)]
    have := sameB_loop fuel d hl hn (h := AHeap.none) fuel 0 (by omega) (by omega) rfl
    exact this
  · rw [bif_nneg (by omega), decide_eq_false (fun h => hl (by rw [h]))]

/-! skolemmake.Formula -/
/-- The variables from v on, n of them, of the first block; of the second. -/
def blockA (ex : Bool) (free first : Int) : Nat → Nat → List Int
  | _, 0 => []
  | v, n + 1 => if (ex && decide ((v : Int) ≤ free)) = true then blockA ex free first (v + 1) n else if (v : Int) ≤ first then (v : Int) :: blockA ex free first (v + 1) n else blockA ex free first (v + 1) n
def blockB (ex : Bool) (free first : Int) : Nat → Nat → List Int
  | _, 0 => []
  | v, n + 1 => if (ex && decide ((v : Int) ≤ free)) = true then blockB ex free first (v + 1) n else if (v : Int) ≤ first then blockB ex free first (v + 1) n else (v : Int) :: blockB ex free first (v + 1) n

theorem formula_loop (fuel d : Nat) {ex : Bool} {first free : Int} {vars : Nat} (hv : vars ≤ 1000000) {h0 : AHeap} {A B : Nat} {x10 x11 : Pt} {X Y : Chunk} : ∀ (m v n : Nat) (a b : List Int) (sa sb : Sl) (h : AHeap), m < n → v + m = vars + 1 → a.length + b.length ≤ v →
    Sep0 h0 h [X, Y, .own 1 A 0 2 [.bool ex, .slice sa], .own 1 B 0 2 [.bool (!ex), .slice sb], .grown 1 sa (intsC a), .grown 1 sb (intsC b)] →
    ∃ sa sb h', l_skolemmake_Formula_0 fuel d n [(1, .int .i64 (vars : Int)), (2, .int .i64 first), (3, .bool ex), (4, .int .i64 free), (10, .ptr x10), (11, .ptr x11), (12, .ptr (.mk ⟨A, 0, 0⟩ 2)), (13, .ptr (.mk ⟨B, 0, 0⟩ 2)), (14, .int .i64 (v : Int))] h = some (.exit 0, [(10, .ptr x10), (11, .ptr x11), (12, .ptr (.mk ⟨A, 0, 0⟩ 2)), (13, .ptr (.mk ⟨B, 0, 0⟩ 2))], h') ∧
      Sep0 h0 h' [X, Y, .own 1 A 0 2 [.bool ex, .slice sa], .own 1 B 0 2 [.bool (!ex), .slice sb], .grown 1 sa (intsC (a ++ blockA ex free first v m)), .grown 1 sb (intsC (b ++ blockB ex free first v m))] := by
  intro m
  induction m with
  | zero =>
    intro v n a b sa sb h h1 h2 h3 hs
    obtain ⟨n, rfl⟩ : ∃ n', n = n' + 1 := ⟨n - 1, by omega⟩
    rw [l_skolemmake_Formula_0_eq, bif_neg (by omega)]
    refine ⟨sa, sb, h, rfl, ?_⟩
    simpa [blockA, blockB] using hs
  | succ m ih =>
    intro v n a b sa sb h h1 h2 h3 hs
    obtain ⟨n, rfl⟩ : ∃ n', n = n' + 1 := ⟨n - 1, by omega⟩
    rw [l_skolemmake_Formula_0_eq, bif_pos (by omega)]
    have la := hs.len (i := 4) (sz := 1) rfl
    have lb := hs.len (i := 5) (sz := 1) rfl
    simp only [List.length_map, Nat.mul_one] at la lb
    have hcond : (bif ex then decide ((v : Int) ≤ free) else false) = (ex && decide ((v : Int) ≤ free)) := by cases ex <;> rfl
    rw [hcond]
    simp only [blockA, blockB]
    cases hfr : (ex && decide ((v : Int) ≤ free)) with
    | true =>
      simp only [cond_true, Option.bind_some, k_skolemmake_Formula_1_n, if_true]
      rw [succI (by omega)]
      exact ih (v + 1) n a b sa sb h (by omega) (by omega) (by omega) hs
    | false =>
      simp only [cond_false, Bool.false_eq_true, if_false]
      by_cases hv1 : (v : Int) ≤ first
      · rw [bif_pos hv1, if_pos hv1, if_pos hv1]
        obtain ⟨s1, h5, e1, e2, e3⟩ := hs.grow (i := 4) (sz := 1) (s := sa) (cs := intsC a) (bytes := 8) (m := 1) (vs := [.int .i64 (v : Int)]) rfl rfl (by omega) (by omega)
        obtain ⟨h6, f1, f2⟩ := e2.put (i := 2) (sz := 1) (id := A) (gen := 0) (n := 2) (cs := [.bool ex, .slice sa]) (o := 1) (l := 2) (vs := [.slice s1]) rfl (by simp) (by simp)
        have b1 : h.cell (.mk ⟨A, 0, 1⟩ 2) = some (.slice sa) := hs.part (i := 2) rfl (by omega) rfl
        simp only [field_mk, Nat.zero_add, b1, Option.bind_some, slice_slice, e1, f1, k_skolemmake_Formula_1_n]
        rw [succI (by omega)]
        have := ih (v + 1) n (a ++ [(v : Int)]) b s1 sb h6 (by omega) (by omega) (by simp; omega) (by simp only [List.map_append]; exact f2)
        simpa using this
      · rw [bif_neg hv1, if_neg hv1, if_neg hv1]
        obtain ⟨s1, h5, e1, e2, e3⟩ := hs.grow (i := 5) (sz := 1) (s := sb) (cs := intsC b) (bytes := 8) (m := 1) (vs := [.int .i64 (v : Int)]) rfl rfl (by omega) (by omega)
        obtain ⟨h6, f1, f2⟩ := e2.put (i := 3) (sz := 1) (id := B) (gen := 0) (n := 2) (cs := [.bool (!ex), .slice sb]) (o := 1) (l := 2) (vs := [.slice s1]) rfl (by simp) (by simp)
        have b1 : h.cell (.mk ⟨B, 0, 1⟩ 2) = some (.slice sb) := hs.part (i := 3) rfl (by omega) rfl
        simp only [field_mk, Nat.zero_add, b1, Option.bind_some, slice_slice, e1, f1, k_skolemmake_Formula_1_n]
        rw [succI (by omega)]
        have := ih (v + 1) n a (b ++ [(v : Int)]) sa s1 h6 (by omega) (by omega) (by simp; omega) (by simp only [List.map_append]; exact f2)
        simpa using this

/-- A formula of two blocks. -/
def formC (ex : Bool) (a b : List Int) (vars : Int) (cc : List (List Int)) : List AVal :=
  [.slice (.lst 2 false [.bool ex, .slice (lstI a), .bool (!ex), .slice (lstI b)]), .int .i64 vars, .slice (lstLL cc)]
theorem closedL_nilR : closedL ([] : List AVal) = true := rfl
theorem canon_form (ex : Bool) (a b : List Int) (vars : Int) (cc : List (List Int)) : canonV 8 (.agg (formC ex a b vars cc)) = some (.agg (formC ex a b vars cc)) := by
  unfold formC
  have h1 : closedL [.bool ex, .slice (lstI a), .bool (!ex), .slice (lstI b)] = true := by
    have e1 := closed_lstI a
    have e2 := closed_lstI b
    simp only [closedL, e1, e2]; rfl
  rw [canon_agg, canonM_cons (canon_lst h1) (canonM_cons (u := .int .i64 vars) rfl (canonM_cons (canon_lstLL 6 cc) (canonM_nil _)))]
  rfl

theorem Formula_run (fuel d : Nat) {l : List Int} {vars : Nat} {first free : Int} {ex : Bool} (hv' : vars ≤ 1000000) (hl : l.length < 1000000) (hf : l.length < fuel) (hf2 : vars < fuel) (hne : blockA ex free first 1 vars ≠ [] ∨ blockB ex free first 1 vars ≠ []) (h : AHeap) :
    run fuel (d + 5) F_skolemmake_Formula [.slice (lstI l), .int .i64 (vars : Int), .int .i64 first, .bool ex, .int .i64 free] h = some (.agg (formC ex (blockA ex free first 1 vars) (blockB ex free first 1 vars) vars (clausesI l vars)), h) := by
  have hb := e_skolemmake_Formula fuel (d + 4) (lstI l) (vars : Int) first ex free AHeap.none
  have s0 := (Sep0.start AHeap.none).push 1 3 (cs := [.slice .nil, .int .i64 0, .slice .nil]) rfl
  rw [CNF_run fuel d (l := l) (vars := vars) (by omega) hl hf] at hb
  simp only [Option.bind_some, agg_agg] at hb
  rw [cond_pos _ _ (show (Nat.beq (List.length (cnfC vars (clausesI l vars))) 2 && Nat.ble (1 + 2) (List.length [AVal.slice Sl.nil, .int .i64 (0 : Int), .slice Sl.nil]) && List.all (cnfC vars (clausesI l vars)) AVal.isCell) = true from rfl)] at hb
  simp only [Option.bind_some, show AHeap.overlay [AVal.slice Sl.nil, .int .i64 (0 : Int), .slice Sl.nil] 1 (cnfC vars (clausesI l vars)) = [.slice .nil, .int .i64 vars, .slice (lstLL (clausesI l vars))] from rfl] at hb
  rw [cond_pos _ _ (show (!false && Nat.beq (List.length [AVal.slice Sl.nil, .int .i64 (vars : Int), .slice (lstLL (clausesI l vars))]) 3 && List.all [AVal.slice Sl.nil, .int .i64 (vars : Int), .slice (lstLL (clausesI l vars))] AVal.isCell) = true from rfl)] at hb
  have s1 := s0.push 1 3 (cs := [.slice .nil, .int .i64 0, .slice .nil]) rfl
  obtain ⟨h4, p4, s2⟩ := s1.put (i := 1) (o := 0) (l := 3) (vs := [.slice .nil, .int .i64 vars, .slice (lstLL (clausesI l vars))]) rfl (by simp) (by simp)
  rw [p4] at hb
  simp only [Option.bind_some] at hb
  have s3 := s2.push 1 2 (cs := [.bool false, .slice .nil]) rfl
  obtain ⟨h5, p5, s4⟩ := s3.put (i := 2) (o := 0) (l := 2) (vs := [.bool ex, .slice .nil]) rfl (by simp) (by simp)
  rw [p5] at hb
  simp only [Option.bind_some] at hb
  have s5 := s4.push 1 2 (cs := [.bool false, .slice .nil]) rfl
  obtain ⟨h6, p6, s6⟩ := s5.put (i := 3) (o := 0) (l := 2) (vs := [.bool (!ex), .slice .nil]) rfl (by simp) (by simp)
  rw [p6] at hb
  simp only [Option.bind_some] at hb
  have s7 := (s6.addNil 1).addNil 1
  obtain ⟨sa, sb, h7, e7, s8⟩ := formula_loop fuel (d + 4) (ex := ex) (first := first) (free := free) hv' (x10 := .mk ⟨AHeap.none.next, 0, 0⟩ 3) (x11 := .mk ⟨(AHeap.none.push 1 [AVal.slice .nil, .int .i64 0, .slice .nil]).next, 0, 0⟩ 3) vars 1 fuel [] [] .nil .nil h6 (by omega) (by omega) (by simp) s7
  rw [show ((1 : Nat) : Int) = 1 from rfl] at e7
  rw [e7] at hb
  simp only [Option.bind_some, k_skolemmake_Formula_0_x0, List.nil_append] at hb s8
  generalize blockA ex free first 1 vars = a at s8 hne ⊢
  generalize blockB ex free first 1 vars = b at s8 hne ⊢
  have la := s8.len (i := 4) (sz := 1) rfl
  have lb := s8.len (i := 5) (sz := 1) rfl
  simp only [List.length_map, Nat.mul_one] at la lb
  have cA : h7.cellsAt 2 (.mk ⟨h4.next, 0, 0⟩ 2) = some [.bool ex, .slice sa] := (s8.sep.own (i := 2) rfl).parts (by omega) (by simp)
  have cB : h7.cellsAt 2 (.mk ⟨h5.next, 0, 0⟩ 2) = some [.bool (!ex), .slice sb] := (s8.sep.own (i := 3) rfl).parts (by omega) (by simp)
  rw [cA] at hb
  simp only [Option.bind_some, cB] at hb
  obtain ⟨h8, p8, s9⟩ := s8.put (i := 1) (o := 0) (l := 3) (vs := [.slice (.lst 2 true [.bool ex, .slice sa, .bool (!ex), .slice sb])]) rfl (by simp) (by simp)
  have hstep : h7.storeAt [.slice (.lst 2 true [.bool ex, .slice sa, .bool (!ex), .slice sb])] (.mk ⟨(AHeap.none.push 1 [AVal.slice .nil, .int .i64 0, .slice .nil]).next, 0, 0 + 0⟩ 3) = some h8 := p8
  have cC : h8.cellsAt 3 (.mk ⟨(AHeap.none.push 1 [AVal.slice .nil, .int .i64 0, .slice .nil]).next, 0, 0⟩ 3) = some [.slice (.lst 2 true [.bool ex, .slice sa, .bool (!ex), .slice sb]), .int .i64 vars, .slice (lstLL (clausesI l vars))] := (s9.sep.own (i := 1) rfl).parts (by omega) (by simp)
  obtain ⟨h9, p9, s10⟩ := s9.put (i := 0) (o := 0) (l := 3) (vs := [.slice (.lst 2 true [.bool ex, .slice sa, .bool (!ex), .slice sb]), .int .i64 vars, .slice (lstLL (clausesI l vars))]) rfl (by simp) (by simp)
  have cD : h9.cellsAt 3 (.mk ⟨AHeap.none.next, 0, 0⟩ 3) = some [.slice (.lst 2 true [.bool ex, .slice sa, .bool (!ex), .slice sb]), .int .i64 vars, .slice (lstLL (clausesI l vars))] := (s10.sep.own (i := 0) rfl).parts (by omega) (by simp)
  rw [cond_pos _ _ (show (Nat.beq (List.length [AVal.bool ex, .slice sa]) 2 && Nat.ble (0 + 2) (List.length [AVal.bool false, .slice Sl.nil, .bool false, .slice Sl.nil]) && List.all [AVal.bool ex, .slice sa] AVal.isCell) = true from rfl)] at hb
  rw [cond_pos _ _ (show (Nat.beq (List.length [AVal.bool (!ex), .slice sb]) 2 && Nat.ble (2 + 2) (List.length (AHeap.overlay [AVal.bool false, .slice Sl.nil, .bool false, .slice Sl.nil] 0 [AVal.bool ex, .slice sa])) && List.all [AVal.bool (!ex), .slice sb] AVal.isCell) = true from rfl)] at hb
  simp only [Option.bind_some, field_mk, show AHeap.overlay (AHeap.overlay [AVal.bool false, .slice Sl.nil, .bool false, .slice Sl.nil] 0 [AVal.bool ex, .slice sa]) 2 [AVal.bool (!ex), .slice sb] = [AVal.bool ex, .slice sa, .bool (!ex), .slice sb] from rfl, hstep, cC] at hb
  rw [cond_pos _ _ (show (!false && Nat.beq (List.length [AVal.slice (.lst 2 true [.bool ex, .slice sa, .bool (!ex), .slice sb]), .int .i64 vars, .slice (lstLL (clausesI l vars))]) 3 && List.all [AVal.slice (.lst 2 true [.bool ex, .slice sa, .bool (!ex), .slice sb]), .int .i64 vars, .slice (lstLL (clausesI l vars))] AVal.isCell) = true from rfl), p9] at hb
  simp only [Option.bind_some, cD, Option.map_some] at hb
  refine pure_of rfl rfl (cc5 (canon_lstI 7 l) rfl rfl rfl rfl) hb ?_
  have ga := s10.sep.grown (i := 4) (sz := 1) (s := sa) (cs := intsC a) rfl
  have gb := s10.sep.grown (i := 5) (sz := 1) (s := sb) (cs := intsC b) rfl
  have hopen : closedL [AVal.bool ex, .slice sa, .bool (!ex), .slice sb] = false := by
    rcases hne with hne | hne
    · have := ga.isOpen (by simpa using hne)
      simp [closedL, this]
    · have := gb.isOpen (by simpa using hne)
      simp [closedL, this]
  refine freeze_agg 7 (mm3 (freeze_open 6 2 true hopen (mm4 rfl ?_ rfl ?_)) rfl (freeze_lst _ _ _ (closedL_map closed_lstI _)))
  · rw [ga.freeze (n := 5) (by omega) (freeze_intsC 4 a), ← la]
  · rw [gb.freeze (n := 5) (by omega) (freeze_intsC 4 b), ← lb]

/-! skolemmake.Game -/
theorem Game_run (fuel d : Nat) (ex : Bool) (a b : List Int) (vars : Int) (cc : List (List Int)) (h : AHeap) :
    run fuel (d + 1) F_skolemmake_Game [.agg (formC ex a b vars cc)] h = some (.agg (gameC ex a b cc), h) := by
  have hb := e_skolemmake_Game fuel d (formC ex a b vars cc) AHeap.none
  rw [show List.all (formC ex a b vars cc) AVal.isCell = true from rfl, cond_true] at hb
  have hn : (formC ex a b vars cc).length = 3 := rfl
  have hnx : AHeap.none.next = 0 := rfl
  simp only [hn, hnx, field_mk, Option.bind_some] at hb
  generalize hP : (AHeap.none.push 1 (formC ex a b vars cc)).push 1 [.bool false, .slice .nil, .slice .nil, .slice .nil] = P at hb
  generalize hQ : P.push 1 [.bool false, .slice .nil, .slice .nil, .slice .nil] = Q at hb
  have p0 : P.cell (.mk ⟨0, 0, 0 + 0⟩ 3) = some (.slice (.lst 2 false [.bool ex, .slice (lstI a), .bool (!ex), .slice (lstI b)])) := by rw [← hP]; rfl
  have p2 : P.cell (.mk ⟨0, 0, 0 + 1 + 1⟩ 3) = some (.slice (lstLL cc)) := by rw [← hP]; rfl
  have q0 : Q.cell (.mk ⟨0, 0, 0 + 0⟩ 3) = some (.slice (.lst 2 false [.bool ex, .slice (lstI a), .bool (!ex), .slice (lstI b)])) := by rw [← hQ, ← hP]; rfl
  have q2 : Q.cell (.mk ⟨0, 0, 0 + 1 + 1⟩ 3) = some (.slice (lstLL cc)) := by rw [← hQ, ← hP]; rfl
  have a0 : ∀ h : AHeap, h.addr 2 (.lst 2 false [.bool ex, .slice (lstI a), .bool (!ex), .slice (lstI b)]) 0 = some (.fp 0 [.bool ex, .slice (lstI a)]) := fun _ => rfl
  have a1 : ∀ h : AHeap, h.addr 2 (.lst 2 false [.bool ex, .slice (lstI a), .bool (!ex), .slice (lstI b)]) 1 = some (.fp 0 [.bool (!ex), .slice (lstI b)]) := fun _ => rfl
  simp only [p0, p2, q0, q2, a0, a1, Option.bind_some, slice_slice, field_fp, cell_fp, List.drop_zero, List.drop_succ_cons, bool_bool, same_self] at hb
  have hQe : Q = ⟨[{ cells := formC ex a b vars cc, sz := 1 }, { cells := [.bool false, .slice .nil, .slice .nil, .slice .nil], sz := 1 }, { cells := [.bool false, .slice .nil, .slice .nil, .slice .nil], sz := 1 }], []⟩ := by rw [← hQ, ← hP]; rfl
  have hPn : P.next = 2 := by rw [← hP]; rfl
  have hFn : (AHeap.none.push 1 (formC ex a b vars cc)).next = 1 := rfl
  rw [hQe, hPn, hFn] at hb
  exact pure_of rfl rfl (cc1 (canon_form ex a b vars cc)) (hb.trans rfl) (freeze_agg 7 (mm4 rfl (freeze_lstI _ _) (freeze_lstI _ _) (freeze_lst _ _ _ (closedL_map closed_lstI cc))))

end Go.Proofs.YthccobceodgmlaaDoor
