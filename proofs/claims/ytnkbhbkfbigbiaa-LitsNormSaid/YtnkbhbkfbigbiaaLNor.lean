/-
  LitsNorm.
-/
import Derived.Test.YtnkbhbkfbigbiaaLSam
namespace Go.Proofs.Ytnkbhbkfbigbiaa
open Go.RowKit

theorem Sep0.tl {h0 h : AHeap} {c : Chunk} {L : List Chunk} (hs : Sep0 h0 h (c :: L)) : Sep0 h0 h L :=
  ⟨⟨fun x hx => hs.sep.all x (List.mem_cons_of_mem _ hx), (List.pairwise_cons.1 hs.sep.far).2⟩, hs.ext, fun x hx => hs.fresh x (List.mem_cons_of_mem _ hx)⟩
/-- a part of a slice that grows: its cells -/
theorem Grown.cutS {h : AHeap} {s : Sl} {l : List Int} (hg : Grown h 1 s (intsC l)) {lo hi : Nat} (h1 : lo ≤ hi) (h2 : hi ≤ l.length) (c : Bool) : h.sliceCells 1 (s.cut 1 lo hi c) = some (intsC ((l.drop lo).take (hi - lo))) := by
  generalize hcs : intsC l = cs at hg
  have small : hi = 0 → l = [] → h.sliceCells 1 (s.cut 1 lo hi c) = some [] → h.sliceCells 1 (s.cut 1 lo hi c) = some (intsC ((l.drop lo).take (hi - lo))) := by
    intro e1 e2 e3
    rw [e3, e2]
    simp
  cases hg with
  | nil =>
    have : l = [] := by simpa using hcs
    exact small (by subst this; simpa using h2) this rfl
  | none =>
    have e : l = [] := by simpa using hcs
    have e0 : hi = 0 := by subst e; simpa using h2
    refine small e0 e ?_
    subst e0
    obtain rfl : lo = 0 := by omega
    rfl
  | room =>
    have e : l = [] := by simpa using hcs
    have e0 : hi = 0 := by subst e; simpa using h2
    refine small e0 e ?_
    subst e0
    obtain rfl : lo = 0 := by omega
    rfl
  | @row id gen n cs row q1 q2 q3 q4 q5 q6 q7 =>
    have hs : h.sliceCells 1 (.mk ⟨id, gen, lo⟩ (hi - lo) (c || (false && Nat.beq hi n))) = some (intsC ((l.drop lo).take (hi - lo))) := by
      have := sliceCells_of (r := ⟨id, gen, lo⟩) (n := hi - lo) (c := (c || (false && Nat.beq hi n))) q1 q7 q5 (by rw [q4]; exact Nat.le_refl _) (by simp only; rw [q2, ← hcs]; simp; omega)
      rw [this, q2, ← hcs]
      simp
    have e : Sl.cut (.mk ⟨id, gen, 0⟩ n false) 1 lo hi c = .mk ⟨id, gen, lo⟩ (hi - lo) (c || (false && Nat.beq hi n)) := by simp only [Sl.cut, Nat.mul_one, Nat.zero_add]
    rw [e, hs]
theorem cut_len {s : Sl} {lo hi : Nat} {c : Bool} (h : s = .nil → hi ≤ lo) : (s.cut 1 lo hi c).len = hi - lo := by
  cases s with
  | nil => have := h rfl; simp [Sl.cut, Sl.len]; omega
  | mk r n c => rfl
  | lst n c cs => rfl
/-- What was there before an append is there still. -/
theorem Grown.old {h h' : AHeap} {sz bytes m : Nat} {s s' : Sl} {cs vs : List AVal} (hg : Grown h sz s cs) (e : h.append false sz bytes s m vs = some (s', h')) : h'.sliceCells sz s = some cs := by
  cases hg with
  | nil => rfl
  | none => rfl
  | room => rfl
  | @row id gen n cs row q1 q2 q3 q4 q5 q6 q7 =>
    have hlt := (List.getElem?_eq_some_iff.1 q1).1
    unfold AHeap.append at e
    rw [Bool.cond_eq_ite] at e
    split at e
    · cases e
      have := sliceCells_of (r := ⟨id, gen, 0⟩) (n := n) (c := false) q1 q7 q5 (by rw [q4]; exact Nat.le_refl _) (by simp only; rw [q2]; omega)
      rw [this, q2]
      simp only [List.drop_zero]
      rw [List.take_of_length_le (by omega)]
    · rw [Bool.cond_eq_ite] at e
      split at e
      · cases e
      · simp only [q1] at e
        rw [Bool.cond_eq_ite] at e
        split at e
        · simp only [Option.some.injEq, Prod.mk.injEq] at e
          obtain ⟨rfl, rfl⟩ := e
          have e1 : (Nat.beq gen row.gen && Nat.beq (0 + n * sz) row.cells.length) = true := by
            rw [q4, q2, q3, Nat.zero_add]; simp [Nat.beq_refl]
          have hq := sliceCells_of (h := h.setRow id { sz := row.sz, cells := row.cells.take (0 + n * sz) ++ vs, gen := row.gen + 1, valid := bif Nat.beq gen row.gen && Nat.beq (0 + n * sz) row.cells.length then row.valid else row.gen + 1, ro := false }) (r := ⟨id, gen, 0⟩) (n := n) (c := false)
            (row := { sz := row.sz, cells := row.cells.take (0 + n * sz) ++ vs, gen := row.gen + 1, valid := bif Nat.beq gen row.gen && Nat.beq (0 + n * sz) row.cells.length then row.valid else row.gen + 1, ro := false })
            (List.getElem?_set_self hlt) q7 (by simp only [e1, cond_true]; exact q5) (by simp only; omega) (by simp only [List.length_append, List.length_take]; rw [q2]; omega)
          rw [hq]
          simp only [List.drop_zero, Nat.zero_add]
          rw [List.take_append_of_le_length (by rw [List.length_take, q2]; omega), List.take_take, Nat.min_self, q2, List.take_of_length_le (by omega)]
        · cases e

theorem Grown.freezeOld {h1 h2 : AHeap} {s : Sl} {l : List Int} {cs : List AVal} (hg : Grown h1 1 s cs) (hs : h2.sliceCells 1 s = some (intsC l)) (hl : l.length = s.len) : freezeV h2 8 (.slice s) = some (.slice (lstI l)) := by
  have zero : s.len = 0 → l = [] := fun h => List.eq_nil_of_length_eq_zero (by omega)
  cases hg with
  | nil => rw [zero rfl]; exact freeze_nil 7
  | none => rw [zero rfl]; exact freeze_cells (cs := []) (us := []) rfl rfl
  | room => rw [zero rfl]; exact freeze_cells (cs := []) (us := []) rfl rfl
  | row => rw [freeze_cells hs (freeze_intsC 6 _)]; simp only [Sl.len] at hl; rw [← hl]

/-! in order, each once -/
theorem saysL_drop : ∀ {l : List Int}, saysL l = true → ∀ k, saysL (l.drop k) = true
  | l, h, 0 => h
  | [], _, k + 1 => by simp [saysL]
  | [a], _, k + 1 => by simp [saysL]
  | a :: b :: r, h, k + 1 => by
    simp only [saysL, Bool.and_eq_true] at h
    rw [List.drop_succ_cons]
    exact saysL_drop h.2 k
theorem saysL_adj {l : List Int} (h : saysL l = true) {i : Nat} (h0 : 0 < i) (h1 : i < l.length) : varI (l.getD i 0) ≠ varI (l.getD (i - 1) 0) := by
  have := saysL_drop h (i - 1)
  have e1 : l.drop (i - 1) = l.getD (i - 1) 0 :: l.getD i 0 :: l.drop (i + 1) := by
    have h2 : i - 1 < l.length := by omega
    rw [List.drop_eq_getElem_cons h2, show i - 1 + 1 = i by omega, List.drop_eq_getElem_cons h1]
    simp [List.getD, h1, h2]
  rw [e1] at this
  simp only [saysL, Bool.and_eq_true, Bool.not_eq_true', decide_eq_false_iff_not] at this
  exact this.1
theorem sorted_adj {l : List Int} (h : SortedL l) {i : Nat} (h0 : 0 < i) (h1 : i < l.length) : ltL (l.getD (i - 1) 0) (l.getD i 0) = true := by
  have := List.pairwise_iff_getElem.1 h (i - 1) i (by omega) h1 (by omega)
  have h2 : i - 1 < l.length := by omega
  simpa [List.getD, h1, h2] using this

/-! the walk -/
theorem perm_loop (fuel d : Nat) {c o : List Int} (hc : c.length < 1000000) (hcf : c.length < fuel) {b7 b5 b9 : Bool} {x6 x8 : Sl} {h0 : AHeap} : ∀ (n k : Nat) (s : Sl) (D : List Int) (h : AHeap), c.length < n + k → k ≤ c.length → D.length = k → (∀ x, x ∈ D ↔ x ∈ c.take k) → Sep0 h0 h [.grown 1 s (intsC D)] →
    ∃ s' D' h', l_skolemlaw1_LitsNorm_0 fuel (d + 1) n [(0, .slice (lstI c)), (1, .slice (lstI o)), (5, .bool b5), (6, .slice x6), (7, .bool b7), (8, .slice x8), (9, .bool b9), (10, .slice s), (11, .int .i64 (k : Int))] h =
      some (.exit 0, [(0, .slice (lstI c)), (5, .bool b5), (6, .slice x6), (7, .bool b7), (8, .slice x8), (9, .bool b9), (10, .slice s')], h') ∧ D'.length = c.length ∧ (∀ x, x ∈ D' ↔ x ∈ c) ∧ Sep0 h0 h' [.grown 1 s' (intsC D')] := by
  intro n
  induction n with
  | zero => intro k s D h h1 h2; omega
  | succ n ih =>
    intro k s D h h1 h2 h3 h4 hs
    have hl := hs.len (i := 0) rfl
    simp only [List.length_map, Nat.mul_one] at hl
    have hg := hs.sep.grown (i := 0) rfl
    rw [l_skolemlaw1_LitsNorm_0_eq, len_lst, len_lst]
    by_cases hk : k < c.length
    · rw [bif_pos (by omega)]
      -- from the place on
      have tail : ∀ p : Nat, p ≤ k → ∃ s' D' h', k_skolemlaw1_LitsNorm_1 fuel (d + 1) n .normal [(0, .slice (lstI c)), (1, .slice (lstI o)), (5, .bool b5), (6, .slice x6), (7, .bool b7), (8, .slice x8), (9, .bool b9), (10, .slice s), (11, .int .i64 (k : Int)), (12, .int .i64 (p : Int))] h =
          some (.exit 0, [(0, .slice (lstI c)), (5, .bool b5), (6, .slice x6), (7, .bool b7), (8, .slice x8), (9, .bool b9), (10, .slice s')], h') ∧ D'.length = c.length ∧ (∀ x, x ∈ D' ↔ x ∈ c) ∧ Sep0 h0 h' [.grown 1 s' (intsC D')] := by
        intro p hp
        rw [k_skolemlaw1_LitsNorm_1_n, ← hl]
        rw [aHi_some (by omega) (by omega), Option.bind_some, aLo_none, Option.bind_some, aMx_none, Option.bind_some, hg.hasSz, cond_true, Int.toNat_natCast]
        have hcut := hg.cutS (lo := 0) (hi := p) (by omega) (by omega) false
        obtain ⟨s5, h5, e5, n5⟩ := intsr_run fuel d hcut (by simp; omega) (by simp; omega)
        rw [e5]
        simp only [Option.bind_some, slice_slice]
        rw [addr_lstM _ (by omega) (by omega) 0]
        simp only [Option.bind_some]
        rw [addr_lstM _ (by omega) (by omega) 0]
        simp only [Option.bind_some, same_self, cell_fp, int_int, Int.toNat_natCast]
        have s6 := hs.add n5
        have hl5 := n5.holds.len
        simp only [List.length_map, Nat.mul_one, List.drop_zero, Nat.sub_zero, List.length_take] at hl5
        obtain ⟨s7, h7, e7, s8, hl7⟩ := s6.grow (i := 1) (bytes := 8) (m := 1) (vs := [.int .i64 (c.getD k 0)]) rfl rfl (by omega) (by omega)
        have g7 := s8.sep.grown (i := 0) rfl
        rw [e7]
        simp only [Option.bind_some]
        rw [aHi_none, Option.bind_some, aLo_some (by omega) (by omega), Option.bind_some, aMx_none, Option.bind_some, g7.hasSz, cond_true, Int.toNat_natCast]
        have hcut2 := g7.cutS (lo := p) (hi := D.length) (by omega) (by omega) false
        have hclen : (s.cut 1 p D.length false).len = D.length - p := by
          refine cut_len fun e => ?_
          subst e
          simp only [Sl.len] at hl
          omega
        rw [hcut2, hclen]
        obtain ⟨s9, h9, e9, s10, hl9⟩ := s8.grow (i := 1) (bytes := 8) (m := D.length - p) (vs := intsC ((D.drop p).take (D.length - p))) rfl (by simp) (by omega) (by omega)
        simp only [Option.bind_some]
        rw [e9]
        simp only [Option.bind_some]
        rw [succI (by omega)]
        have s11 := s10.tl
        have e11 : intsC ((D.drop 0).take (p - 0)) ++ [AVal.int .i64 (c.getD k 0)] ++ intsC ((D.drop p).take (D.length - p)) = intsC (D.take p ++ [c.getD k 0] ++ D.drop p) := by
          rw [List.take_of_length_le (l := D.drop p) (by simp)]
          simp
        have s12 : Sep0 h0 h9 [.grown 1 s9 (intsC (D.take p ++ [c.getD k 0] ++ D.drop p))] := by
          rw [← e11]; exact s11
        refine ih (k + 1) s9 (D.take p ++ [c.getD k 0] ++ D.drop p) h9 (by omega) (by omega) (by simp; omega) (fun x => ?_) s12
        rw [take_get hk 0]
        simp only [List.mem_append, List.mem_singleton]
        have hD : x ∈ D ↔ x ∈ D.take p ∨ x ∈ D.drop p := by rw [← List.mem_append, List.take_append_drop]
        rw [← h4, hD]
        constructor
        · rintro ((h | h) | h) <;> simp [h]
        · rintro ((h | h) | h) <;> simp [h]
      by_cases ho : k < o.length
      · rw [bif_pos (by omega), addr_lstM _ (by omega) (by omega) 0]
        simp only [Option.bind_some, cell_fp, int_int, Int.toNat_natCast]
        generalize o.getD k 0 = q
        rw [← hl, sucI (by omega), bif_neg (by omega), bif_neg (by omega)]
        have r1 := Int.tmod_lt_of_pos q (b := ((D.length + 1 : Nat) : Int)) (by omega)
        have r2 : -((D.length + 1 : Nat) : Int) < Int.tmod q ((D.length + 1 : Nat) : Int) := by
          have h3 := Int.tmod_lt_of_pos (-q) (b := ((D.length + 1 : Nat) : Int)) (by omega)
          rw [Int.neg_tmod] at h3
          omega
        generalize Int.tmod q ((D.length + 1 : Nat) : Int) = q1 at r1 r2
        rw [wrap64 (n := q1 + (D.length : Int)) (by omega) (by omega), wrap64 (n := q1 + (D.length : Int) + 1) (by omega) (by omega)]
        have r3 := Int.tmod_lt_of_pos (q1 + (D.length : Int) + 1) (b := ((D.length + 1 : Nat) : Int)) (by omega)
        have r4 : 0 ≤ Int.tmod (q1 + (D.length : Int) + 1) ((D.length + 1 : Nat) : Int) := Int.tmod_nonneg _ (by omega)
        generalize Int.tmod (q1 + (D.length : Int) + 1) ((D.length + 1 : Nat) : Int) = q2 at r3 r4
        obtain ⟨p, rfl⟩ : ∃ p : Nat, q2 = (p : Int) := ⟨q2.toNat, by omega⟩
        simp only [Option.bind_some]
        exact tail p (by omega)
      · rw [bif_neg (by omega)]
        simp only [Option.bind_some]
        exact tail 0 (by omega)
    · have : k = c.length := by omega
      subst this
      rw [bif_neg (by omega)]
      rw [List.take_length] at h4
      exact ⟨s, D, h, rfl, h3, h4, hs⟩

theorem ord_loop (fuel d : Nat) {c X : List Int} (hc : c.length < 1000000) (hcf : c.length < fuel) (hX : X.length < 1000000) (hso : SortedL X) (hin : ∀ x ∈ X, x ∈ c) {x8 x10 x14 : Sl} {b9 b15 : Bool} {h : AHeap} : ∀ (n k : Nat), X.length < n + k → k ≤ X.length →
    ∃ v4, l_skolemlaw1_LitsNorm_1 fuel (d + 1) n [(0, .slice (lstI c)), (5, .bool true), (6, .slice (lstI X)), (7, .bool (saysL X)), (8, .slice x8), (9, .bool b9), (10, .slice x10), (14, .slice x14), (15, .bool b15), (16, .int .i64 (k : Int))] h =
      some (.exit 2, [(0, .slice (lstI c)), (4, v4), (5, .bool true), (6, .slice (lstI X)), (7, .bool (saysL X)), (8, .slice x8), (9, .bool b9), (10, .slice x10), (14, .slice x14), (15, .bool b15)], h) := by
  intro n
  induction n with
  | zero => intro k h1 h2; omega
  | succ n ih =>
    intro k h1 h2
    rw [l_skolemlaw1_LitsNorm_1_eq, len_lst]
    by_cases hk : k < X.length
    · have hm : X.getD k 0 ∈ X := by simp [List.getD, hk]
      rw [bif_pos (by omega), addr_lstM _ (by omega) (by omega) 0]
      simp only [Option.bind_some, cell_fp, int_int, Int.toNat_natCast]
      rw [has_run fuel d (freeze_lstI 7 c) _ (by omega) hcf, decide_eq_true (hin _ hm)]
      simp only [Option.bind_some, bool_bool, Bool.not_true, cond_false]
      have next : ∃ v4, k_skolemlaw1_LitsNorm_3 fuel (d + 1) n .normal [(0, .slice (lstI c)), (5, .bool true), (6, .slice (lstI X)), (7, .bool (saysL X)), (8, .slice x8), (9, .bool b9), (10, .slice x10), (14, .slice x14), (15, .bool b15), (16, .int .i64 (k : Int)), (151, .bool false)] h =
          some (.exit 2, [(0, .slice (lstI c)), (4, v4), (5, .bool true), (6, .slice (lstI X)), (7, .bool (saysL X)), (8, .slice x8), (9, .bool b9), (10, .slice x10), (14, .slice x14), (15, .bool b15)], h) := by
        rw [k_skolemlaw1_LitsNorm_3_n, cond_false, succI (by omega)]
        exact ih (k + 1) (by omega) (by omega)
      by_cases h0 : 0 < k
      · have hlt := sorted_adj hso h0 hk
        rw [ltL_iff] at hlt
        rw [bif_pos (by omega), predI (by omega) (by omega)]
        simp only [addr_lstM (AVal.int .i64) (l := X) (j := ((k : Nat) : Int)) (by omega) (by omega) 0, addr_lstM (AVal.int .i64) (l := X) (j := ((k - 1 : Nat) : Int)) (by omega) (by omega) 0, Option.bind_some, cell_fp, int_int, Int.toNat_natCast, Var_run, same_self]
        have e0 : ∀ h : AHeap, h.addr 1 (lstI X) ((k : Nat) : Int) = some (.fp 0 [.int .i64 (X.getD k 0)]) := fun h => by
          have := addr_lstM (h := h) (AVal.int .i64) (l := X) (j := ((k : Nat) : Int)) (by omega) (by omega) 0 false
          rwa [Int.toNat_natCast] at this
        have e1 : ∀ h : AHeap, h.addr 1 (lstI X) ((k - 1 : Nat) : Int) = some (.fp 0 [.int .i64 (X.getD (k - 1) 0)]) := fun h => by
          have := addr_lstM (h := h) (AVal.int .i64) (l := X) (j := ((k - 1 : Nat) : Int)) (by omega) (by omega) 0 false
          rwa [Int.toNat_natCast] at this
        rw [bif_neg (by omega)]
        by_cases heq : varI (X.getD k 0) = varI (X.getD (k - 1) 0)
        · have hns : saysL X = false := by
            cases hs : saysL X with
            | false => rfl
            | true => exact absurd heq (saysL_adj hs h0 hk)
          rw [bif_pos heq, bif_neg (by omega)]
          simp only [Option.bind_some]
          rw [hns] at next ⊢
          exact next
        · rw [bif_neg heq]
          simp only [Option.bind_some]
          exact next
      · rw [bif_neg (by omega)]
        simp only [Option.bind_some]
        exact next
    · rw [bif_neg (by omega)]
      exact ⟨_, rfl⟩

theorem litsNorm_run (F d : Nat) (hF : 2 ^ 21 ≤ F) (c o : List Int) (h : AHeap) :
    ∃ h', run F (d + 60) F_skolemlaw1_LitsNorm [.slice (lstI c), .slice (lstI o)] h = some (.bool true, h') := by
  rw [e_skolemlaw1_LitsNorm, first1_run F (by omega) (by omega), len_lst, len_lst]
  simp only [Option.bind_some, bool_bool, Bool.not_true, cond_false]
  by_cases ha : 40 < c.length
  · rw [decide_eq_true (show (40 : Int) < (c.length : Int) by omega)]
    exact ⟨h, rfl⟩
  by_cases hb : 40 < o.length
  · rw [decide_eq_false (show ¬ (40 : Int) < (c.length : Int) by omega), decide_eq_true (show (40 : Int) < (o.length : Int) by omega)]
    exact ⟨h, rfl⟩
  rw [decide_eq_false (show ¬ (40 : Int) < (c.length : Int) by omega), decide_eq_false (show ¬ (40 : Int) < (o.length : Int) by omega)]
  simp only [cond_false, show ((false == false) : Bool) = true from rfl, cond_true]
  rw [near_run F (d + 58) (freeze_lstI 7 c) (by omega) (by omega)]
  simp only [Option.bind_some, bool_bool]
  cases hn : nearI c with
  | false => exact ⟨h, rfl⟩
  | true =>
    have hlen := normL_length c
    simp only [Bool.not_true, cond_false]
    rw [Norm_run (by omega) (by omega) (by omega)]
    simp only [Option.bind_some, isTup_tup, List.length_cons, List.length_nil, Nat.beq, cond_true, comp_tup, List.getElem?_cons_zero, List.getElem?_cons_succ, slice_slice, bool_bool]
    rw [Norm_run (by omega) (by omega) (by omega), normL_idem]
    simp only [Option.bind_some, isTup_tup, List.length_cons, List.length_nil, Nat.beq, cond_true, comp_tup, List.getElem?_cons_zero, List.getElem?_cons_succ, slice_slice, bool_bool]
    obtain ⟨s1, D, h1, e1, hD1, hD2, p1⟩ := perm_loop F (d + 58) (c := c) (o := o) (by omega) (by omega) (b5 := true) (b7 := saysL (normL c)) (b9 := saysL (normL c)) (x6 := lstI (normL c)) (x8 := lstI (normL c)) F 0 .nil [] h (by omega) (by omega) rfl (by simp) ((Sep0.start h).addNil 1)
    rw [show ((0 : Nat) : Int) = 0 from rfl] at e1
    rw [e1]
    simp only [Option.bind_some, k_skolemlaw1_LitsNorm_0_x0]
    have g1 := p1.sep.grown (i := 0) rfl
    have hl1 := g1.len
    simp only [List.length_map, Nat.mul_one] at hl1
    rw [g1.cells, ← hl1]
    obtain ⟨s2, h2, e2, p2, hl2⟩ := p1.grow (i := 0) (bytes := 8) (m := D.length) (vs := intsC D) rfl (by simp) (by omega) (by omega)
    have hold := g1.old e2
    simp only [Option.bind_some]
    rw [e2]
    simp only [Option.bind_some]
    have g2 : Grown h2 1 s2 (intsC (D ++ D)) := by
      have := p2.sep.grown (i := 0) rfl
      simpa using this
    obtain ⟨ids, q2⟩ := Norm_any (fuel := F) (e := d + 59) (by omega) (l := D ++ D) (by simp; omega) (by simp; omega) g2.freezeI
    have hDD : normL (D ++ D) = normL c := normL_congr fun x => by rw [List.mem_append, or_self]; exact hD2 x
    rw [hDD] at q2
    rw [q2]
    simp only [Option.bind_some, isTup_tup, List.length_cons, List.length_nil, Nat.beq, cond_true, comp_tup, List.getElem?_cons_zero, List.getElem?_cons_succ, slice_slice, bool_bool]
    obtain ⟨v4, e4⟩ := ord_loop F (d + 58) (c := c) (X := normL c) (by omega) (by omega) (by omega) (normL_sorted c) (fun x hx => mem_normL.1 hx) (x8 := lstI (normL c)) (x10 := s1) (x14 := lstI (normL c)) (b9 := saysL (normL c)) (b15 := saysL (normL c)) (h := h2.markRo ids) F 0 (by omega) (by omega)
    rw [show ((0 : Nat) : Int) = 0 from rfl] at e4
    rw [e4]
    simp only [Option.bind_some, k_skolemlaw1_LitsNorm_2_x2, beq_self_eq_true, cond_true]
    rw [sameI_run F (d + 58) (freeze_lstI 7 _) (freeze_lstI 7 _) (by omega) (by omega)]
    simp only [Option.bind_some, bool_bool, decide_true, cond_true, beq_self_eq_true]
    rw [sameI_run F (d + 58) (freeze_lstI 7 _) (freeze_lstI 7 _) (by omega) (by omega)]
    simp only [Option.bind_some, bool_bool, decide_true, cond_true, beq_self_eq_true]
    have hfs : freezeV (h2.markRo ids) 8 (.slice s1) = some (.slice (lstI D)) := by
      rw [freeze_mark]
      exact g1.freezeOld hold hl1
    rw [LSame_run (by omega) (by omega) (by omega) (by omega) (by omega) (freeze_lstI 7 c) hfs]
    have hc : normL c = normL D := normL_congr fun x => (hD2 x).symm
    rw [decide_eq_true hc]
    exact ⟨_, rfl⟩
end Go.Proofs.Ytnkbhbkfbigbiaa
