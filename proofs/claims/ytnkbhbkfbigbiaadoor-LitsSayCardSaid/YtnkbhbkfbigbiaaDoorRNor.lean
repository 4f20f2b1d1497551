/-
  skolemref1.Norm, SameClause: what lits.Norm, lits.Same are, for numbers that are not too near to the least.
-/
import Derived.Test.YtnkbhbkfbigbiaaDoorNrm2
import Derived.Test.YtnkbhbkfbigbiaaDoorRef0o
import Derived.Test.YtnkbhbkfbigbiaaDoorCutS
namespace Go.Proofs.YtnkbhbkfbigbiaaDoor
open Go.RowKit

theorem Abs_run (fuel d : Nat) {x : Int} (hx : okInt x) (h : AHeap) : run fuel (d + 1) F_skolemref_Abs [.int .i64 x] h = some (.int .i64 (varI x), h) := by
  refine pure_of rfl rfl (cc1 rfl) (r := .int .i64 (varI x)) (h' := AHeap.none) ?_ rfl
  rw [e_skolemref_Abs, varI_eq hx]
  obtain ⟨h1, h2⟩ := hx
  by_cases h0 : x < 0
  · rw [bif_pos h0, wrap64 (by omega) (by omega)]
    congr 3; omega
  · rw [bif_neg h0]
    congr 3; omega
theorem before_run (fuel d : Nat) {x y : Int} (hx : okInt x) (hy : okInt y) (h : AHeap) : run fuel (d + 2) F_skolemref1_before [.int .i64 x, .int .i64 y] h = some (.bool (ltL x y), h) := by
  refine pure_of rfl rfl (cc2 rfl rfl) (r := .bool (ltL x y)) (h' := AHeap.none) ?_ rfl
  rw [e_skolemref1_before, Abs_run fuel d hx]
  simp only [Option.bind_some, int_int, Abs_run fuel d hy]
  unfold ltL
  by_cases h1 : varI x < varI y
  · rw [decide_eq_true h1]
    rfl
  · rw [decide_eq_false h1]
    simp only [beq_self_eq_true, cond_true, Option.bind_some, bool_bool, Bool.false_or]
    cases decide (varI x = varI y) <;> rfl

/-- where a literal belongs -/
def posL (x : Int) : List Int → Nat
  | [] => 0
  | y :: l => if ltL y x = true then posL x l + 1 else 0
theorem posL_le (x : Int) : ∀ l : List Int, posL x l ≤ l.length
  | [] => Nat.le_refl _
  | y :: l => by
    have := posL_le x l
    unfold posL
    split
    · simp only [List.length_cons]; omega
    · omega
theorem insO_at {x : Int} : ∀ {l : List Int}, x ∉ l → insO x l = l.take (posL x l) ++ [x] ++ l.drop (posL x l)
  | [], _ => rfl
  | y :: l, h => by
    have hne : x ≠ y := fun e => h (by rw [e]; exact List.mem_cons_self ..)
    have ih := insO_at (l := l) fun hm => h (List.mem_cons_of_mem _ hm)
    unfold insO posL
    rw [if_neg hne]
    by_cases h1 : ltL x y = true
    · rw [if_pos h1, if_neg (by rw [ltL_asym h1]; simp)]
      rfl
    · have h2 : ltL y x = true := by
        cases hc : ltL y x with
        | true => rfl
        | false => exact absurd (ltL_tot (by simpa using h1) hc) hne
      rw [if_neg h1, if_pos h2, ih]
      rfl
theorem insO_mem_id {x : Int} : ∀ {l : List Int}, SortedL l → x ∈ l → insO x l = l
  | y :: l, hs, h => by
    have hs' := List.pairwise_cons.1 hs
    unfold insO
    split
    · rfl
    · rename_i hne
      have hx : x ∈ l := (List.mem_cons.1 h).resolve_left hne
      have h1 := ltL_asym (hs'.1 x hx)
      rw [if_neg (by rw [h1]; simp), insO_mem_id hs'.2 hx]

/-- no two literals of one variable -/
def onceL (l : List Int) : Prop := ∀ x ∈ l, ∀ y ∈ l, varI x = varI y → x = y
theorem saysL_strict : ∀ {l : List Int}, SortedL l → (saysL l = true ↔ l.Pairwise fun a b => varI a < varI b)
  | [], _ => by simp [saysL]
  | [a], _ => by simp [saysL]
  | a :: b :: r, hs => by
    have hs' := List.pairwise_cons.1 hs
    have ih := saysL_strict hs'.2
    simp only [saysL, Bool.and_eq_true, Bool.not_eq_true', decide_eq_false_iff_not]
    rw [ih]
    constructor
    · rintro ⟨h1, h2⟩
      have h2' := List.pairwise_cons.1 h2
      have hab : varI a < varI b := by
        have := ltL_iff.1 (hs'.1 b (List.mem_cons_self ..))
        omega
      refine List.pairwise_cons.2 ⟨fun c hc => ?_, h2⟩
      rcases List.mem_cons.1 hc with rfl | hc
      · exact hab
      · have := h2'.1 c hc; omega
    · intro h
      have h' := List.pairwise_cons.1 h
      have := h'.1 b (List.mem_cons_self ..)
      exact ⟨by omega, h'.2⟩
theorem saysL_once {l : List Int} (hs : SortedL l) : saysL l = true ↔ onceL l := by
  rw [saysL_strict hs]
  constructor
  · intro h x hx y hy e
    obtain ⟨i, hi, rfl⟩ := List.mem_iff_getElem.1 hx
    obtain ⟨j, hj, rfl⟩ := List.mem_iff_getElem.1 hy
    rcases Nat.lt_trichotomy i j with hlt | he | hlt
    · have := List.pairwise_iff_getElem.1 h i j hi hj hlt; omega
    · subst he; rfl
    · have := List.pairwise_iff_getElem.1 h j i hj hi hlt; omega
  · intro h
    refine List.pairwise_iff_getElem.2 fun i j hi hj hij => ?_
    have h1 := ltL_iff.1 (List.pairwise_iff_getElem.1 hs i j hi hj hij)
    rcases h1 with h1 | ⟨h1, h2⟩
    · exact h1
    · have := h _ (List.getElem_mem hi) _ (List.getElem_mem hj) h1; omega
theorem onceL_congr {a b : List Int} (h : ∀ x, x ∈ a ↔ x ∈ b) : onceL a ↔ onceL b := by
  unfold onceL
  constructor
  · intro ha x hx y hy; exact ha x ((h x).2 hx) y ((h y).2 hy)
  · intro ha x hx y hy; exact ha x ((h x).1 hx) y ((h y).1 hy)
theorem varI_same {x y : Int} (hx : okInt x) (hy : okInt y) : varI x = varI y ↔ x = y ∨ y = -x := by
  rw [varI_eq hx, varI_eq hy]; omega
/-- one literal more -/
theorem onceL_snoc {l : List Int} {x : Int} (hok : ∀ y ∈ l, okInt y) (hx : okInt x) (hn : x ∉ l) : onceL (l ++ [x]) ↔ onceL l ∧ -x ∉ l := by
  constructor
  · intro h
    refine ⟨fun a ha b hb e => h a (List.mem_append_left _ ha) b (List.mem_append_left _ hb) e, fun hm => ?_⟩
    have e := h x (by simp) (-x) (List.mem_append_left _ hm) ((varI_same hx (hok _ hm)).2 (.inr rfl))
    rw [e] at hn
    exact hn hm
  · rintro ⟨h1, h2⟩ a ha b hb e
    rcases List.mem_append.1 ha with ha1 | ha1 <;> rcases List.mem_append.1 hb with hb1 | hb1
    · exact h1 a ha1 b hb1 e
    · rw [List.mem_singleton] at hb1
      rw [hb1] at e ⊢
      rcases (varI_same (hok a ha1) hx).1 e with h | h
      · exact h
      · exact absurd (by rw [show -x = a by omega]; exact ha1) h2
    · rw [List.mem_singleton] at ha1
      rw [ha1] at e ⊢
      rcases (varI_same hx (hok b hb1)).1 e with h | h
      · exact h
      · exact absurd (by rw [← h]; exact hb1) h2
    · rw [List.mem_singleton] at ha1 hb1
      rw [ha1, hb1]

theorem pos_loop (fuel d : Nat) {l : List Int} {i : Nat} (hi : i < l.length) (hok : ∀ x ∈ l, okInt x) {D : List Int} (hD : D.length < 1000000000) (hDok : ∀ x ∈ D, okInt x) {s : Sl} {b : Bool} {h : AHeap} (hg : Grown h 1 s (intsC D)) : ∀ (n k : Nat), D.length < n + k → k ≤ D.length →
    l_skolemref1_Norm_1 fuel (d + 2) n [(0, .slice (lstI l)), (4, .slice s), (5, .bool b), (6, .int .i64 (i : Int)), (7, .int .i64 (k : Int))] h =
      some (.exit 2, [(0, .slice (lstI l)), (4, .slice s), (5, .bool b), (6, .int .i64 (i : Int)), (7, .int .i64 ((k + posL (l.getD i 0) (D.drop k) : Nat) : Int))], h) := by
  have hl := hg.len
  simp only [List.length_map, Nat.mul_one] at hl
  have hx : okInt (l.getD i 0) := hok _ (by simp [List.getD, hi])
  intro n
  induction n with
  | zero => intro k h1 h2; omega
  | succ n ih =>
    intro k h1 h2
    rw [l_skolemref1_Norm_1_eq, ← hl]
    by_cases hk : k < D.length
    · have hr := readI hg.cells (j := (k : Int)) (by omega) (by omega)
      have hd : D.drop k = D.getD k 0 :: D.drop (k + 1) := by rw [List.drop_eq_getElem_cons hk]; simp [List.getD, hk]
      have hy : okInt (D.getD k 0) := hDok _ (by simp [List.getD, hk])
      rw [bif_pos (by omega), hr.1, Option.bind_some, hr.2, Option.bind_some, int_int, Option.bind_some, addr_lstM _ (by omega) (by omega) 0, hd]
      simp only [Option.bind_some, cell_fp, int_int, Int.toNat_natCast]
      rw [before_run fuel d hy hx]
      simp only [Option.bind_some, bool_bool, k_skolemref1_Norm_2_n]
      unfold posL
      cases hlt : ltL (D.getD k 0) (l.getD i 0) with
      | true =>
        simp only [cond_true, if_true]
        rw [succI (by omega), ih (k + 1) (by omega) (by omega), show k + 1 + posL (l.getD i 0) (D.drop (k + 1)) = k + (posL (l.getD i 0) (D.drop (k + 1)) + 1) by omega]
      | false => simp only [cond_false, Bool.false_eq_true, if_false, Nat.add_zero]
    · have : k = D.length := by omega
      subst this
      rw [bif_neg (by omega), List.drop_length]
      simp only [Option.bind_some, k_skolemref1_Norm_2_n, cond_false, posL, Nat.add_zero]

theorem rnorm_loop (fuel d : Nat) {l : List Int} (hl : l.length < 1000000000) (hf : l.length + 2 < fuel) (hok : ∀ x ∈ l, okInt x) {h0 : AHeap} : ∀ (n k : Nat) (s : Sl) (D : List Int) (b : Bool) (h : AHeap), l.length < n + k → k ≤ l.length → D.length ≤ k → SortedL D → (∀ x, x ∈ D ↔ x ∈ l.take k) → (b = true ↔ onceL D) → Sep0 h0 h [.grown 1 s (intsC D)] →
    ∃ s' h', l_skolemref1_Norm_0 fuel (d + 2) n [(0, .slice (lstI l)), (4, .slice s), (5, .bool b), (6, .int .i64 (k : Int))] h = some (.exit 0, [(4, .slice s'), (5, .bool (saysL (normL l)))], h') ∧ Sep0 h0 h' [.grown 1 s' (intsC (normL l))] := by
  intro n
  induction n with
  | zero => intro k s D b h h1 h2; omega
  | succ n ih =>
    intro k s D b h h1 h2 h3 h4 h5 h6 hs
    have hlen := hs.len (i := 0) rfl
    simp only [List.length_map, Nat.mul_one] at hlen
    have hg := hs.sep.grown (i := 0) rfl
    have hDok : ∀ x ∈ D, okInt x := fun x hx => hok x (List.mem_of_mem_take ((h5 x).1 hx))
    rw [l_skolemref1_Norm_0_eq, len_lst]
    by_cases hk : k < l.length
    · have hxm : l.getD k 0 ∈ l := by simp [List.getD, hk]
      have hx := hok _ hxm
      rw [bif_pos (by omega), addr_lstM _ (by omega) (by omega) 0]
      simp only [Option.bind_some, cell_fp, int_int, Int.toNat_natCast]
      rw [has_run fuel (d + 1) hg.freezeI _ (by omega) (by omega)]
      simp only [Option.bind_some, bool_bool]
      by_cases hm : l.getD k 0 ∈ D
      · rw [bif_pos hm, succI (by omega)]
        refine ih (k + 1) s D b h (by omega) (by omega) (by omega) h4 (fun x => ?_) h6 hs
        rw [take_get hk 0, List.mem_append, List.mem_singleton, h5]
        constructor
        · exact .inl
        · rintro (h | h)
          · exact h
          · subst h; exact (h5 _).1 hm
      · rw [bif_neg hm]
        have hp := pos_loop fuel d hk hok (D := D) (by omega) hDok (b := b) hg fuel 0 (by omega) (by omega)
        rw [show ((0 : Nat) : Int) = 0 from rfl, Nat.zero_add, List.drop_zero] at hp
        have hple := posL_le (l.getD k 0) D
        have hins := insO_at hm
        have hsort : SortedL (insO (l.getD k 0) D) := insO_sorted h4
        generalize hP : posL (l.getD k 0) D = P at hp hple hins
        rw [hp]
        simp only [Option.bind_some, k_skolemref1_Norm_1_x2]
        obtain ⟨hx1, hx2⟩ := hx
        have hw : IntKind.wrap .i64 (0 - l.getD k 0) = - l.getD k 0 := by rw [wrap64 (by omega) (by omega)]; omega
        -- whether its opposite is there
        have hb2 : ((bif (b == true) then ((AHeap.addr h 1 (lstI l) (k : Int)).bind fun p1 =>
            (AHeap.cell h p1).bind fun u2 => (AVal.int? .i64 u2).bind fun n3 =>
            (run fuel (d + 2) F_skolemref_Has [.slice s, .int .i64 (IntKind.wrap .i64 (0 - n3))] h).bind fun r4 =>
            (AVal.bool? r4.1).bind fun b5 => some (AVal.bool (!b5), r4.2)) else (some (AVal.bool false, h)) : Option (AVal × AHeap))) = some (.bool (b && !decide (-(l.getD k 0) ∈ D)), h) := by
          cases b with
          | true =>
            rw [addr_lstM _ (by omega) (by omega) 0]
            simp only [beq_self_eq_true, cond_true, Option.bind_some, cell_fp, int_int, Int.toNat_natCast]
            rw [hw, has_run fuel (d + 1) hg.freezeI _ (by omega) (by omega)]
            simp only [Option.bind_some, bool_bool, Bool.true_and]
          | false => rfl
        rw [hb2]
        simp only [Option.bind_some, bool_bool]
        rw [← hlen, aHi_some (by omega) (by omega), Option.bind_some, aLo_none, Option.bind_some, aMx_none, Option.bind_some, hg.hasSz, cond_true, Int.toNat_natCast]
        have hcut := hg.cutS (lo := 0) (hi := P) (by omega) (by omega) false
        obtain ⟨s5, h5', e5, n5⟩ := intsr_run fuel (d + 1) hcut (by simp; omega) (by simp; omega)
        rw [e5]
        simp only [Option.bind_some, slice_slice]
        rw [addr_lstM _ (by omega) (by omega) 0]
        simp only [Option.bind_some]
        rw [addr_lstM _ (by omega) (by omega) 0]
        simp only [Option.bind_some, same_self, cell_fp, int_int, Int.toNat_natCast]
        have s6 := hs.add n5
        have hl5 := n5.holds.len
        simp only [List.length_map, Nat.mul_one, List.drop_zero, Nat.sub_zero, List.length_take] at hl5
        obtain ⟨s7, h7, e7, s8, hl7⟩ := s6.grow (i := 1) (bytes := 8) (m := 1) (vs := [.int .i64 (l.getD k 0)]) rfl rfl (by omega) (by omega)
        have g7 := s8.sep.grown (i := 0) rfl
        rw [e7]
        simp only [Option.bind_some]
        rw [aHi_none, Option.bind_some, aLo_some (by omega) (by omega), Option.bind_some, aMx_none, Option.bind_some, g7.hasSz, cond_true, Int.toNat_natCast]
        have hcut2 := g7.cutS (lo := P) (hi := D.length) (by omega) (by omega) false
        have hclen : (s.cut 1 P D.length false).len = D.length - P := by
          refine cut_len fun e => ?_
          subst e
          simp only [Sl.len] at hlen
          omega
        rw [hcut2, hclen]
        obtain ⟨s9, h9, e9, s10, hl9⟩ := s8.grow (i := 1) (bytes := 8) (m := D.length - P) (vs := intsC ((D.drop P).take (D.length - P))) rfl (by simp) (by omega) (by omega)
        simp only [Option.bind_some]
        rw [e9]
        simp only [Option.bind_some]
        rw [succI (by omega)]
        have e11 : intsC ((D.drop 0).take (P - 0)) ++ [AVal.int .i64 (l.getD k 0)] ++ intsC ((D.drop P).take (D.length - P)) = intsC (insO (l.getD k 0) D) := by
          rw [List.take_of_length_le (l := D.drop P) (by simp), hins]
          simp
        have s12 : Sep0 h0 h9 [.grown 1 s9 (intsC (insO (l.getD k 0) D))] := by
          rw [← e11]; exact s10.tl
        refine ih (k + 1) s9 (insO (l.getD k 0) D) _ h9 (by omega) (by omega) (by have := insO_length (l.getD k 0) D; omega) hsort (fun x => ?_) ?_ s12
        · rw [mem_insO, take_get hk 0, List.mem_append, List.mem_singleton, h5]
          exact Or.comm
        · rw [Bool.and_eq_true, h6, Bool.not_eq_true', decide_eq_false_iff_not, ← onceL_snoc hDok ⟨hx1, hx2⟩ hm]
          refine onceL_congr fun x => ?_
          rw [mem_insO, List.mem_append, List.mem_singleton]
          exact Or.comm
    · have : k = l.length := by omega
      subst this
      rw [List.take_length] at h5
      have hD : D = normL l := sortedL_unique h4 (normL_sorted l) fun x => by rw [mem_normL]; exact h5 x
      have hb : b = saysL (normL l) := by
        rw [Bool.eq_iff_iff, h6, saysL_once (normL_sorted l), hD]
      rw [bif_neg (by omega)]
      subst hD
      exact ⟨s, h, by rw [hb], hs⟩

theorem RNorm_any {fuel e : Nat} (he : 3 ≤ e) {l : List Int} (hl : l.length < 1000000000) (hf : l.length + 2 < fuel) (hok : ∀ x ∈ l, okInt x) {h : AHeap} {s : Sl} (hs : freezeV h 8 (.slice s) = some (.slice (lstI l))) :
    ∃ ids, run fuel e F_skolemref1_Norm [.slice s] h = some (.tup [.slice (lstI (normL l)), .bool (saysL (normL l))], h.markRo ids) := by
  obtain ⟨e, rfl⟩ : ∃ e', e = e' + 3 := ⟨e - 3, by omega⟩
  obtain ⟨s', h', e1, g1⟩ := rnorm_loop fuel e hl hf hok (h0 := AHeap.none) fuel 0 .nil [] true AHeap.none (by omega) (by omega) (by simp) (by simp [SortedL]) (by simp) (by simp [onceL]) ((Sep0.start _).addNil 1)
  rw [show ((0 : Nat) : Int) = 0 from rfl] at e1
  refine run_any rfl rfl (mm1 hs) (r := .tup [.slice s', .bool (saysL (normL l))]) (h' := h') ?_ ?_
  · rw [e_skolemref1_Norm, e1]
    simp only [Option.bind_some, k_skolemref1_Norm_0_x0]
  · refine freeze_tup2 _ ?_ (freeze_bool _ _)
    have hg := g1.sep.grown (i := 0) rfl
    rw [hg.freeze (n := 6) (by omega) (freeze_intsC 5 _)]
    have := hg.len
    simp only [List.length_map, Nat.mul_one] at this
    rw [← this]
theorem RNorm_run {fuel e : Nat} (he : 3 ≤ e) {l : List Int} (hl : l.length < 1000000000) (hf : l.length + 2 < fuel) (hok : ∀ x ∈ l, okInt x) (h : AHeap) :
    run fuel e F_skolemref1_Norm [.slice (lstI l)] h = some (.tup [.slice (lstI (normL l)), .bool (saysL (normL l))], h) := by
  obtain ⟨e, rfl⟩ : ∃ e', e = e' + 3 := ⟨e - 3, by omega⟩
  obtain ⟨s', h', e1, g1⟩ := rnorm_loop fuel e hl hf hok (h0 := AHeap.none) fuel 0 .nil [] true AHeap.none (by omega) (by omega) (by simp) (by simp [SortedL]) (by simp) (by simp [onceL]) ((Sep0.start _).addNil 1)
  rw [show ((0 : Nat) : Int) = 0 from rfl] at e1
  refine pure_of rfl rfl (cc1 (canon_lstI 7 l)) (r := .tup [.slice s', .bool (saysL (normL l))]) (h' := h') ?_ ?_
  · rw [e_skolemref1_Norm, e1]
    simp only [Option.bind_some, k_skolemref1_Norm_0_x0]
  · refine freeze_tup2 _ ?_ (freeze_bool _ _)
    have hg := g1.sep.grown (i := 0) rfl
    rw [hg.freeze (n := 6) (by omega) (freeze_intsC 5 _)]
    have := hg.len
    simp only [List.length_map, Nat.mul_one] at this
    rw [← this]
theorem SameClause_run {fuel e : Nat} (he : 4 ≤ e) {a b : List Int} (ha : a.length < 1000000000) (hb : b.length < 1000000000) (hfa : a.length + 2 < fuel) (hfb : b.length + 2 < fuel) (hoa : ∀ x ∈ a, okInt x) (hob : ∀ x ∈ b, okInt x) {h : AHeap} {s t : Sl} (hs : freezeV h 8 (.slice s) = some (.slice (lstI a))) (ht : freezeV h 8 (.slice t) = some (.slice (lstI b))) :
    run fuel e F_skolemref1_SameClause [.slice s, .slice t] h = some (.bool (decide (normL a = normL b)), h) := by
  obtain ⟨e, rfl⟩ : ∃ e', e = e' + 4 := ⟨e - 4, by omega⟩
  refine run_val rfl rfl (mm2 hs ht) (r := .bool (decide (normL a = normL b))) (h' := AHeap.none) ?_ rfl rfl
  have := normL_length a
  rw [e_skolemref1_SameClause, RNorm_run (by omega) ha hfa hoa]
  simp only [Option.bind_some, isTup_tup, List.length_cons, List.length_nil, Nat.beq, cond_true, comp_tup, List.getElem?_cons_zero, List.getElem?_cons_succ, slice_slice, bool_bool]
  rw [RNorm_run (by omega) hb hfb hob]
  simp only [Option.bind_some, isTup_tup, List.length_cons, List.length_nil, Nat.beq, cond_true, comp_tup, List.getElem?_cons_zero, List.getElem?_cons_succ, slice_slice, bool_bool]
  rw [sameI_run fuel (e + 2) (freeze_lstI 7 _) (freeze_lstI 7 _) (by omega) (by omega)]
  simp only [Option.bind_some, bool_bool]
end Go.Proofs.YtnkbhbkfbigbiaaDoor
