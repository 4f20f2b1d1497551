/-
  Parts of the proof of RupBlocks: RupBlocks.
-/
import Derived.Test.YtdmbfmgebgdfnaaDoorTRupBlocks2
namespace Go.Proofs.YtdmbfmgebgdfnaaDoor
open Go.RowKit

/-! all values of nine variables are a number's -/
def allB : Nat → List (List Bool)
  | 0 => [[]]
  | k + 1 => (allB k).flatMap fun b => [false :: b, true :: b]
theorem mem_allB : ∀ (b : List Bool), b ∈ allB b.length
  | [] => List.mem_singleton.2 rfl
  | x :: b => by
    rw [List.length_cons, allB, List.mem_flatMap]
    exact ⟨b, mem_allB b, by cases x <;> simp⟩
def numB : List Bool → Nat
  | [] => 0
  | b :: l => (bif b then 1 else 0) + 2 * numB l
theorem numB_all : ((allB 9).all fun b => decide (valuesI (numB b : Nat) 9 = b) && decide (numB b < 512)) = true := by decide +kernel
theorem values_num {b : List Bool} (hb : b.length = 9) : ∃ n : Nat, n < 512 ∧ valuesI (n : Int) 9 = b := by
  have h1 := mem_allB b
  rw [hb] at h1
  have h2 := List.all_eq_true.1 numB_all b h1
  rw [Bool.and_eq_true] at h2
  exact ⟨numB b, of_decide_eq_true h2.2, of_decide_eq_true h2.1⟩
def canI (cc : List (List Int)) : Bool := (List.range 512).any fun n => ofI cc (false :: valuesI (n : Int) 9)
theorem canI_iff {cc : List (List Int)} (hok : ∀ c ∈ cc, ∀ l ∈ c, okInt l) : canI cc = true ↔ ∃ m : List Bool, m.length = 10 ∧ m.getD 0 false = false ∧ ModelM cc m := by
  unfold canI
  rw [List.any_eq_true]
  constructor
  · rintro ⟨n, _, h⟩
    exact ⟨_, by simp [valuesI], rfl, (ofI_iff hok).1 h⟩
  · rintro ⟨m, h1, h2, h3⟩
    obtain ⟨x, b, rfl⟩ : ∃ x b, m = x :: b := by
      cases m with
      | nil => simp at h1
      | cons x b => exact ⟨x, b, rfl⟩
    obtain rfl : x = false := h2
    obtain ⟨n, hn, rfl⟩ := values_num (b := b) (by simpa using h1)
    exact ⟨n, List.mem_range.2 hn, (ofI_iff hok).2 h3⟩

/-! can -/
theorem can_loop (fuel d : Nat) (hf : 2000 < fuel) {cc : List (List Int)} (hl : cc.length < 1000000) (hlf : cc.length < fuel) (hok : ∀ c ∈ cc, c.length < 1000000 ∧ c.length < fuel ∧ ∀ l ∈ c, okInt l) : ∀ (m k : Nat) (h : AHeap), 512 < m + k → k ≤ 512 →
    ∃ h', (l_skolemlaw21_can_0 fuel (d + 1) m [(0, .slice (lstLL cc)), (3, .int .i64 (k : Int))] h).bind (fun p => k_skolemlaw21_can_0 fuel (d + 1) p.1 p.2.1 p.2.2) = some (.bool (((List.range 512).drop k).any fun n => ofI cc (false :: valuesI (n : Int) 9)), h') := by
  intro m
  induction m with
  | zero => intro k h h1 h2; omega
  | succ m ih =>
    intro k h h1 h2
    rw [l_skolemlaw21_can_0_eq]
    by_cases hk : k < 512
    · rw [bif_pos (by omega), show run fuel (d + 1) F_skolemmake_Values [.int .i64 (k : Int), .int .i64 9] h = _ from Values_run fuel d (x := (k : Int)) (many := 9) (by omega) (by omega) h]
      simp only [Option.bind_some, slice_slice]
      have hvl : (valuesI (k : Int) 9).length = 9 := valuesI_len _ 9
      have hd : (List.range 512).drop k = k :: (List.range 512).drop (k + 1) := by rw [List.drop_eq_getElem_cons (by simpa using hk)]; simp
      rw [hd, List.any_cons]
      generalize valuesI (k : Int) 9 = vs at hvl
      rw [cells_lstM]
      simp only [Option.bind_some]
      have ea : h.append false 1 1 (Sl.lst 1 true [.bool false]) (lstB vs).len (boolsC vs) = some (.mk ⟨h.next, 0, 0⟩ 10 false, h.push 1 (boolsC (false :: vs))) := by
        rw [len_lst, append_lst rfl (by omega) (by omega) (by omega), hvl]
        rfl
      rw [ea]
      simp only [Option.bind_some]
      have ho : Own (h.push 1 (boolsC (false :: vs))) 1 h.next 0 10 (boolsC (false :: vs)) := Own.of_push 1 10 _ (by simp [hvl])
      have hm : freezeV (h.push 1 (boolsC (false :: vs))) 8 (.slice (.mk ⟨h.next, 0, 0⟩ 10 false)) = some (.slice (lstB (false :: vs))) := by
        have := ho.freeze (n := 7) false (freeze_boolsC 6 _)
        rw [this]
        simp [hvl]
      have hx : freezeV (h.push 1 (boolsC (false :: vs))) 8 (.slice (lstLL cc)) = some (.slice (lstLL cc)) := freeze_lst 7 _ _ (closedL_map closed_lstI cc)
      rw [refOf_run fuel d (by simp; omega) (by omega) hlf (fun c hc => ⟨by have := (hok c hc).1; omega, (hok c hc).2.1, (hok c hc).2.2⟩) hx hm]
      simp only [Option.bind_some, bool_bool]
      cases ho : ofI cc (false :: vs) with
      | true =>
        simp only [cond_true, Option.bind_some, k_skolemlaw21_can_0_r, Bool.true_or]
        exact ⟨_, rfl⟩
      | false =>
        simp only [cond_false, Bool.false_or]
        rw [succI (by omega)]
        exact ih (k + 1) _ (by omega) (by omega)
    · obtain rfl : k = 512 := by omega
      rw [bif_neg (by omega), List.drop_eq_nil_of_le (by simp)]
      simp only [Option.bind_some, k_skolemlaw21_can_0_x0]
      exact ⟨h, rfl⟩
theorem can_run (fuel d : Nat) (hf : 2000 < fuel) {cc : List (List Int)} (hl : cc.length < 1000000) (hlf : cc.length < fuel) (hok : ∀ c ∈ cc, c.length < 1000000 ∧ c.length < fuel ∧ ∀ l ∈ c, okInt l) {h : AHeap} {x : AVal} (hx : freezeV h 8 x = some (.slice (lstLL cc))) :
    run fuel (d + 2) F_skolemlaw21_can [x] h = some (.bool (canI cc), h) := by
  obtain ⟨h', e⟩ := can_loop fuel d hf hl hlf hok fuel 0 AHeap.none (by omega) (by omega)
  rw [List.drop_zero, Int.natCast_zero] at e
  exact run_val rfl rfl (mm1 hx) (r := .bool (canI cc)) (h' := h') (by rw [e_skolemlaw21_can]; exact e) rfl rfl

/-! the plain law -/
section
variable {cc : List (List Int)} {d : List Int}
theorem rng9 {n : Nat} {c : List Int} (h : litsOk n c = true) : ∀ l ∈ c, l ≠ 0 ∧ l.natAbs ≤ n := fun l hl => by
  have := isLit_spec.1 (List.all_eq_true.1 h l hl)
  omega
theorem block_can (hok : okCC 9 cc = true) (hd : litsOk 9 d = true) (hb : blockV 9 (normC cc) d = true) (hoi : ∀ c ∈ cc, ∀ x ∈ c, okInt x) (hdo : ∀ x ∈ d, okInt x) : canI cc = canI (cc ++ [d]) := by
  have hoi2 : ∀ c ∈ cc ++ [d], ∀ x ∈ c, okInt x := fun c hc => by
    rcases List.mem_append.1 hc with hc | hc
    · exact hoi c hc
    · rw [List.mem_singleton.1 hc]; exact hdo
  rw [Bool.eq_iff_iff, canI_iff hoi, canI_iff hoi2]
  constructor
  · rintro ⟨m, h1, h2, h3⟩
    unfold blockV at hb
    rw [Bool.or_eq_true] at hb
    rcases hb with hb | hb
    · refine ⟨m, h1, h2, fun c hc => ?_⟩
      rcases List.mem_append.1 hc with hc | hc
      · exact h3 c hc
      · rw [List.mem_singleton.1 hc]
        refine sound_M ((impl_iff hok hd).1 hb) h3 fun x hx => ?_
        have := rng9 hd x hx
        exact ⟨this.1, by omega⟩
    · cases hh : d.head? with
      | none => rw [hh] at hb; cases hb
      | some p =>
        rw [hh] at hb
        unfold blockR at hb
        rw [Bool.and_eq_true] at hb
        have hpd : p ∈ d := List.mem_of_mem_head? hh
        have hall := List.all_eq_true.1 hb.2
        refine blocked_M (n := 9) h1 hpd (fun c hc => rng9 (List.all_eq_true.1 hok c hc)) (rng9 hd) h3 fun c hc hpc => ?_
        have hmem : normL c ∈ byF (normC cc) (-p) := by
          unfold byF
          rw [mem_byC]
          exact ⟨by rw [there_norm]; exact List.mem_map_of_mem hc, decide_eq_true (mem_normL.2 hpc)⟩
        have hi := hall _ hmem
        have hq : litsOk 9 (d ++ (normL c).filter fun y => !decide (y = -p)) = true := by
          rw [litsOk, List.all_append, Bool.and_eq_true]
          refine ⟨hd, ?_⟩
          rw [List.all_eq_true]
          intro x hx
          exact litsOk_norm (List.all_eq_true.1 hok c hc) x (List.mem_filter.1 hx).1
        refine ⟨_, fun l hl => ?_, (impl_iff hok hq).1 hi⟩
        rcases List.mem_append.1 hl with hl | hl
        · exact .inl hl
        · obtain ⟨a1, a2⟩ := List.mem_filter.1 hl
          exact .inr ⟨mem_normL.1 a1, by simpa using a2⟩
  · rintro ⟨m, h1, h2, h3⟩
    exact ⟨m, h1, h2, fun c hc => h3 c (List.mem_append_left _ hc)⟩
theorem block_fresh (hok : ∀ c ∈ cc, ∀ x ∈ c, x ≠ -9) (hd : litsOk 9 (9 :: d) = true) : blockV 9 (normC cc) (9 :: d) = true := by
  unfold blockV
  rw [Bool.or_eq_true]
  right
  show (litsOk 9 (9 :: d) && (byF (normC cc) (-9)).all fun e => implV 9 (normC cc) ((9 :: d) ++ e.filter fun y => !decide (y = -9))) = true
  rw [hd, Bool.true_and, List.all_eq_true]
  intro e he
  unfold byF at he
  rw [mem_byC, there_norm] at he
  obtain ⟨h1, h2⟩ := he
  obtain ⟨c, hc, rfl⟩ := List.mem_map.1 h1
  exact absurd rfl (hok c hc (-9) (mem_normL.1 (of_decide_eq_true h2)))
end

theorem bl_loop (fuel d : Nat) {z : List Int} (hz : z.length < 1000000) {ok fr : Bool} {s8 : Sl} {p9 : Pt} {h0 : AHeap} {R : List Chunk} {H : List Int} (hH : H.length < 10) : ∀ (n k : Nat) (s : Sl) (h : AHeap), z.length < n + k → k ≤ z.length → Sep0 h0 h (.grown 1 s (intsC (H ++ (z.take k).map fun x => litI x 7)) :: R) →
    ∃ s' h', l_skolemlaw21_RupBlocks_0 fuel (d + 2) n [(1, .slice (lstI z)), (2, .bool fr), (7, .bool ok), (8, .slice s8), (9, .ptr p9), (11, .slice s), (12, .int .i64 (k : Int))] h = some (.exit 0, [(2, .bool fr), (7, .bool ok), (8, .slice s8), (9, .ptr p9), (11, .slice s')], h') ∧ Sep0 h0 h' (.grown 1 s' (intsC (H ++ z.map fun x => litI x 7)) :: R) := by
  intro n
  induction n with
  | zero => intro k s h h1 h2; omega
  | succ n ih =>
    intro k s h h1 h2 hs
    have hl := hs.len (i := 0) rfl
    simp only [List.length_map, List.length_append, List.length_take, Nat.mul_one] at hl
    rw [l_skolemlaw21_RupBlocks_0_eq, len_lst]
    by_cases hk : k < z.length
    · rw [bif_pos (by omega), addr_lstM _ (by omega) (by omega) 0]
      simp only [Option.bind_some, cell_fp, int_int, Int.toNat_natCast]
      rw [Lit_run fuel d (by omega) (by omega)]
      simp only [Option.bind_some, int_int]
      obtain ⟨s', h', e1, s1, _⟩ := hs.grow (i := 0) (bytes := 8) (m := 1) (vs := [.int .i64 (litI (z.getD k 0) 7)]) rfl rfl (by omega) (by omega)
      rw [e1]
      simp only [Option.bind_some]
      rw [succI (by omega)]
      refine ih (k + 1) s' h' (by omega) (by omega) ?_
      rw [take_get hk 0, List.map_append, ← List.append_assoc, intsC_app]
      exact s1
    · have : k = z.length := by omega
      subst this
      rw [bif_neg (by omega)]
      rw [List.take_length] at hs
      exact ⟨s, h, rfl, hs⟩
theorem or3 {a b c : Bool} (h : (bif (bif a then true else b) then true else c) = false) : a = false ∧ b = false ∧ c = false := by
  cases a <;> cases b <;> cases c <;> simp at h ⊢
theorem rupBlocks_run (F d : Nat) (hF : 2 ^ 21 ≤ F) (l c : List Int) (fr : Bool) (h : AHeap) :
    ∃ h', run F (d + 70) F_skolemlaw21_RupBlocks [.slice (lstI l), .slice (lstI c), .bool fr] h = some (.bool true, h') := by
  rw [e_skolemlaw21_RupBlocks, first21_run F (by omega) (by omega)]
  simp only [Option.bind_some, bool_bool, Bool.not_true, cond_false]
  rw [len_lst, len_lst]
  cases hcond : (bif (bif decide ((80 : Int) < (l.length : Int)) then true else decide ((6 : Int) < (c.length : Int))) then true else decide ((c.length : Int) = 0)) with
  | true => exact ⟨h, rfl⟩
  | false =>
    obtain ⟨c1, c2, c3⟩ := or3 hcond
    have d1 := of_decide_eq_false c1
    have d2 := of_decide_eq_false c2
    have d3 := of_decide_eq_false c3
    rw [cond_false, Clauses_run F (d + 66) (by omega) (by omega) (by omega)]
    simp only [Option.bind_some, slice_slice]
    obtain ⟨q1, q2, q3⟩ := clausesI_size l 7
    have hlits := clausesI_lits (vars := 7) (by omega) l
    generalize clausesI l 7 = cc at q1 q2 q3 hlits
    have hok : okCC 9 cc = true := by
      rw [List.all_eq_true]
      intro c hc
      rw [List.all_eq_true]
      intro x hx
      have := hlits c hc x hx
      rw [isLit_spec]; omega
    have hoi : ∀ c ∈ cc, ∀ x ∈ c, okInt x := fun c hc x hx => by
      have := hlits c hc x hx
      exact ⟨by omega, by omega⟩
    have hcc : ∀ c ∈ cc, c.length < 100000 := fun c hc => by have := q3 c hc; omega
    obtain ⟨v, h1, e1, hp⟩ := new_run F (d + 62) (by omega) (by omega) (n := 9) (by omega) (Sep0.start h) (s := lstLL cc) (cc := cc) (fun h _ => nest_grid (cells_lstM _ _ _)) (by omega) hcc
    rw [hok] at hp
    obtain ⟨b, rfl, hb, s1⟩ := hp
    rw [show run F (d + 69) F_rup_New [.int .i64 9, .slice (lstLL cc)] h = _ from e1]
    simp only [Option.bind_some, tup2, cond_true, comp0, comp1, ptr_ptr, nilTest_ptr_mk, nilTest_nilif, beq_self_eq_true, Bool.not_true, bool_bool, cond_false]
    -- behind the clause's literals
    have rest : ∀ (D : List Int) (q : Sl) (h2 : AHeap), D.length ≤ 10 → litsOk 9 D = true → (fr = true → ∃ D', D = 9 :: D') → Sep0 h h2 (.grown 1 q (intsC D) :: bAll h.maps.length b 9 (normC cc) []) →
        ∃ h', k_skolemlaw21_RupBlocks_0 F (d + 69) (.exit 0) [(2, .bool fr), (7, .bool true), (8, .slice (lstLL cc)), (9, .ptr (bP b)), (11, .slice q)] h2 = some (.bool true, h') := by
      intro D q h2 hDl hD hfr s2
      have s3 := bAll_in s2
      rw [k_skolemlaw21_RupBlocks_0_x0]
      obtain ⟨h3, e3, s4⟩ := blocked_run F (d + 61) hb (by omega) s3 (s := q) (c := D) (fun h hs => (hs.sep.grown (i := 5) rfl).cells) (by omega)
      rw [show run F (d + 69) F_rup_Base_Blocked [.ptr (bP b), .slice q] h2 = _ from e3]
      simp only [Option.bind_some, bool_bool, beq_self_eq_true, cond_true]
      have hDo : ∀ x ∈ D, okInt x := fun x hx => okInt_lit (n := 9) (by omega) (List.all_eq_true.1 hD x hx)
      cases hbv : blockV 9 (normC cc) D with
      | false =>
        have hf : fr = false := by
          cases hfr' : fr with
          | false => rfl
          | true =>
            obtain ⟨D', rfl⟩ := hfr hfr'
            rw [block_fresh (fun c hc x hx => by have := hlits c hc x hx; omega) hD] at hbv
            cases hbv
        have hi : implV 9 (normC cc) D = false := by
          unfold blockV at hbv
          rw [Bool.or_eq_false_iff] at hbv
          exact hbv.1
        subst hf
        obtain ⟨h4, e4, s5⟩ := implied_run F (d + 62) hb (by omega) s4 (s := q) (c := D) (fun h hs => (hs.sep.grown (i := 5) rfl).cells) (by omega)
        rw [hi] at e4
        rw [show run F (d + 69) F_rup_Base_Implied [.ptr (bP b), .slice q] h3 = _ from e4]
        exact ⟨h4, rfl⟩
      | true =>
        have e9 : (bif fr then (!true) else false) = false := by cases fr <;> rfl
        rw [e9]
        simp only [cond_false, Bool.not_true]
        have hx : freezeV h3 8 (.slice (lstLL cc)) = some (.slice (lstLL cc)) := freeze_lst 7 _ _ (closedL_map closed_lstI cc)
        rw [can_run F (d + 67) (by omega) (by omega) (by omega) (fun c hc => ⟨by have := hcc c hc; omega, by have := hcc c hc; omega, hoi c hc⟩) hx]
        simp only [Option.bind_some, bool_bool]
        obtain ⟨sg, h5, e5, n5⟩ := rclauses_run F (d + 68) (t := lstLL cc) (h := h3) (cells_lstM _ _ _) (by omega) (by omega)
        rw [e5]
        simp only [Option.bind_some, slice_slice]
        have s6 := ((bAll_out s4).add n5).cons
        obtain ⟨h6, f6, s7⟩ := s6.fix (i := 1) rfl (closedL_map (fun _ => rfl) _) 1
        have hql := s6.len (i := 1) rfl
        simp only [List.length_map, Nat.mul_one] at hql
        have ey : AVal.slice (.lst q.len false (intsC D)) = .slice (lstI D) := by
          show _ = AVal.slice (.lst _ false _)
          rw [hql]
        rw [fixL_one, f6, ey]
        simp only
        rw [set1] at s7
        have hgl := s7.len (i := 0) rfl
        simp only [List.length_map, Nat.mul_one] at hgl
        obtain ⟨sg', h7, e7, s8, l8⟩ := s7.grow (i := 0) (bytes := 24) (m := 1) (vs := [.slice (lstI D)]) rfl rfl (by omega) (by omega)
        rw [set0] at s8
        rw [e7]
        simp only [Option.bind_some]
        have hg8 := s8.sep.grown (i := 0) rfl
        have e10 : gridC cc ++ [.slice (lstI D)] = gridC (cc ++ [D]) := by simp [gridC]
        rw [e10] at hg8
        have hx8 : freezeV h7 8 (.slice sg') = some (.slice (lstLL (cc ++ [D]))) := by
          rw [hg8.freeze (n := 7) (by omega) (freeze_gridC 6 _)]
          have : sg'.len = (cc ++ [D]).length := by rw [List.length_append, List.length_singleton]; omega
          rw [this]
        rw [can_run F (d + 67) (by omega) (by simp; omega) (by simp; omega) (fun c hc => by
          rcases List.mem_append.1 hc with hc | hc
          · exact ⟨by have := hcc c hc; omega, by have := hcc c hc; omega, hoi c hc⟩
          · rw [List.mem_singleton.1 hc]; exact ⟨by omega, by omega, hDo⟩) hx8]
        simp only [Option.bind_some, bool_bool, block_can hok hD hbv hoi hDo, beq_self_eq_true]
        exact ⟨h7, rfl⟩
    have hQl : ∀ H : List Int, H.length ≤ 1 → (H ++ c.map fun x => litI x 7).length ≤ 10 := fun H hH => by simp; omega
    have hQ : ∀ x ∈ (c.map fun x => litI x 7), isLit x 9 = true := fun x hx => by
      obtain ⟨y, _, rfl⟩ := List.mem_map.1 hx
      have := litI_range (n := y) (vars := 7) (by omega) (by omega)
      rw [isLit_spec]; omega
    cases fr with
    | true =>
      obtain ⟨t, h2, e2, s2, _⟩ := (s1.addNil 1).cons.grow (i := 0) (bytes := 8) (m := 1) (vs := [.int .i64 9]) rfl rfl (by simp [Sl.len]) (by simp [Sl.len])
      rw [set0] at s2
      simp only [cond_true, e2, Option.bind_some]
      obtain ⟨q, h3, e3, s3⟩ := bl_loop F (d + 67) (z := c) (by omega) (ok := true) (fr := true) (s8 := lstLL cc) (p9 := bP b) (H := [9]) (by simp) F 0 t h2 (by omega) (by omega) s2
      rw [show l_skolemlaw21_RupBlocks_0 F (d + 69) F [(1, .slice (lstI c)), (2, .bool true), (7, .bool true), (8, .slice (lstLL cc)), (9, .ptr (bP b)), (11, .slice t), (12, .int .i64 0)] h2 = _ from e3]
      exact rest _ q h3 (hQl [9] (by simp)) (by
        rw [List.all_eq_true]
        intro x hx
        rcases List.mem_append.1 hx with hx | hx
        · rw [List.mem_singleton.1 hx]; decide
        · exact hQ x hx) (fun _ => ⟨_, rfl⟩) s3
    | false =>
      simp only [cond_false]
      obtain ⟨q, h3, e3, s3⟩ := bl_loop F (d + 67) (z := c) (by omega) (ok := true) (fr := false) (s8 := lstLL cc) (p9 := bP b) (H := []) (by simp) F 0 .nil h1 (by omega) (by omega) ((s1.addNil 1).cons)
      rw [show l_skolemlaw21_RupBlocks_0 F (d + 69) F [(1, .slice (lstI c)), (2, .bool false), (7, .bool true), (8, .slice (lstLL cc)), (9, .ptr (bP b)), (11, .slice .nil), (12, .int .i64 0)] h1 = _ from e3]
      exact rest _ q h3 (hQl [] (by simp)) (by
        rw [List.all_eq_true]
        intro x hx
        exact hQ x (by simpa using hx)) (fun h => by cases h) s3
end Go.Proofs.YtdmbfmgebgdfnaaDoor
