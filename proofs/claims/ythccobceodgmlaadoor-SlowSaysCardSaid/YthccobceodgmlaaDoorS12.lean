/-
  skolemref1.place, Matrix, Wins, Value.
-/
import Derived.Test.YthccobceodgmlaaDoorS11
import Derived.Test.YthccobceodgmlaaDoorS5
namespace Go.Proofs.YthccobceodgmlaaDoor
open Go.RowKit

theorem Abs_run (fuel d : Nat) {x : Int} (hx : okInt x) (h : AHeap) : run fuel (d + 1) F_skolemref_Abs [.int .i64 x] h = some (.int .i64 (varI x), h) := by
  refine pure_of rfl rfl (cc1 rfl) (r := .int .i64 (varI x)) (h' := AHeap.none) ?_ rfl
  obtain ⟨h1, h2⟩ := hx
  rw [e_skolemref_Abs, varI_eq ⟨h1, h2⟩]
  by_cases h0 : x < 0
  · rw [bif_pos h0, wrap64 (by omega) (by omega), show 0 - x = ((x.natAbs : Nat) : Int) by omega]
  · rw [bif_neg h0, show (x.natAbs : Int) = x by omega]

theorem posV_append (v : Int) : ∀ (a b : List Int) (k : Nat), posV v (a ++ b) k = if posV v a k = 0 then posV v b (k + a.length) else posV v a k
  | [], b, k => by simp [posV]
  | x :: a, b, k => by
    rw [List.cons_append]
    by_cases h : x = v
    · simp [posV, h]
    · have e1 : ∀ l, posV v (x :: l) k = posV v l (k + 1) := fun l => by simp [posV, h]
      rw [e1, e1, posV_append v a b (k + 1), List.length_cons, show k + 1 + a.length = k + (a.length + 1) by omega]

section
variable {ex : Bool} {outer inner : List Int} {cc : List (List Int)}
/-- A game's cells in a row. -/
structure GRow (h : AHeap) (r : Ref) (ex : Bool) (outer inner : List Int) (cc : List (List Int)) : Prop where
  c0 : h.cell (.mk ⟨r.id, r.gen, r.off + 0⟩ 4) = some (.bool ex)
  c1 : h.cell (.mk ⟨r.id, r.gen, r.off + 1⟩ 4) = some (.slice (lstI outer))
  c2 : h.cell (.mk ⟨r.id, r.gen, r.off + 2⟩ 4) = some (.slice (lstI inner))
  c3 : h.cell (.mk ⟨r.id, r.gen, r.off + 3⟩ 4) = some (.slice (lstLL cc))
  all : h.cellsAt 4 (.mk r 4) = some (gameC ex outer inner cc)
theorem GRow.new (ex : Bool) (outer inner : List Int) (cc : List (List Int)) : GRow (AHeap.none.push 1 (gameC ex outer inner cc)) ⟨AHeap.none.next, 0, 0⟩ ex outer inner cc := ⟨rfl, rfl, rfl, rfl, rfl⟩
theorem GRow.keep {h h' : AHeap} {r : Ref} {t : Nat → Prop} (hg : GRow h r ex outer inner cc) (hk : Keeps h h' t) (hn : ¬ t r.id) : GRow h' r ex outer inner cc :=
  ⟨cell_keep hk hn hg.c0, cell_keep hk hn hg.c1, cell_keep hk hn hg.c2, cell_keep hk hn hg.c3, cellsAt_keep hk hn hg.all⟩

theorem place_inner (fuel d : Nat) {h : AHeap} {r : Ref} (hg : GRow h r ex outer inner cc) {v : Int} (ho : outer.length < 1000000) (hi : inner.length < 1000000) : ∀ (n k : Nat), inner.length < n + k → k ≤ inner.length →
    (l_skolemref1_place_1 fuel d n [(1, .int .i64 v), (2, .ptr (.mk r 4)), (6, .int .i64 (k : Int))] h).bind (fun p => k_skolemref1_place_1 fuel d p.1 p.2.1 p.2.2) = some (.int .i64 (posV v (inner.drop k) (outer.length + k) : Int), h) := by
  intro n
  induction n with
  | zero => intro k h1 h2; omega
  | succ n ih =>
    intro k h1 h2
    rw [l_skolemref1_place_1_eq]
    simp only [field_mk, Option.bind_some, hg.c2, slice_slice]
    rw [len_lst]
    by_cases hk : k < inner.length
    · rw [bif_pos (by omega), addr_lstM _ (by omega) (by omega) 0, drop_get hk 0]
      simp only [Option.bind_some, cell_fp, int_int, Int.toNat_natCast, hg.c1, slice_slice, posV]
      by_cases hx : inner.getD k 0 = v
      · rw [bif_pos hx, if_pos hx]
        simp only [Option.bind_some, k_skolemref1_place_1_r]
        rw [len_lst, wrap64 (n := (outer.length : Int) + (k : Int)) (by omega) (by omega), wrap64 (by omega) (by omega)]
        simp
      · rw [bif_neg hx, if_neg hx, succI (by omega), ih (k + 1) (by omega) (by omega), Nat.add_assoc]
    · have : k = inner.length := by omega
      subst this
      rw [bif_neg (by omega), List.drop_eq_nil_of_le (by omega)]
      simp [k_skolemref1_place_1_x2, posV]

theorem place_outer (fuel d : Nat) {h : AHeap} {r : Ref} (hg : GRow h r ex outer inner cc) {v : Int} (ho : outer.length < 1000000) (hi : inner.length < 1000000) (hf : inner.length < fuel) : ∀ (n k : Nat), outer.length < n + k → k ≤ outer.length → posV v (outer.take k) 0 = 0 →
    (l_skolemref1_place_0 fuel d n [(1, .int .i64 v), (2, .ptr (.mk r 4)), (5, .int .i64 (k : Int))] h).bind (fun p => k_skolemref1_place_0 fuel d p.1 p.2.1 p.2.2) = some (.int .i64 (posV v (outer ++ inner) 0 : Int), h) := by
  intro n
  induction n with
  | zero => intro k h1 h2; omega
  | succ n ih =>
    intro k h1 h2 h3
    rw [l_skolemref1_place_0_eq]
    simp only [field_mk, Option.bind_some, hg.c1, slice_slice]
    rw [len_lst]
    by_cases hk : k < outer.length
    · rw [bif_pos (by omega), addr_lstM _ (by omega) (by omega) 0]
      have et : posV v (outer.take (k + 1)) 0 = if outer.getD k 0 = v then k + 1 else 0 := by
        rw [take_get hk 0, posV_append, h3]
        simp only [if_true, posV, List.length_take]
        rw [show 0 + min k outer.length = k by omega]
      simp only [Option.bind_some, cell_fp, int_int, Int.toNat_natCast]
      by_cases hx : outer.getD k 0 = v
      · rw [bif_pos hx]
        simp only [Option.bind_some, k_skolemref1_place_0_r]
        rw [succI (by omega)]
        have : posV v (outer ++ inner) 0 = k + 1 := by
          rw [← List.take_append_drop (k + 1) outer, List.append_assoc, posV_append, et, if_pos hx]
          simp
        rw [this]
      · rw [bif_neg hx, succI (by omega)]
        exact ih (k + 1) (by omega) (by omega) (by rw [et, if_neg hx])
    · have : k = outer.length := by omega
      subst this
      rw [List.take_length] at h3
      rw [bif_neg (by omega)]
      simp only [Option.bind_some, k_skolemref1_place_0_x0]
      have := place_inner fuel d hg (v := v) ho hi fuel 0 (by omega) (by omega)
      rw [show ((0 : Nat) : Int) = 0 from rfl, List.drop_zero, Nat.add_zero] at this
      rw [this, posV_append, if_pos h3, Nat.zero_add]

theorem place_run (fuel d : Nat) {v : Int} (ho : outer.length < 1000000) (hi : inner.length < 1000000) (hf : inner.length < fuel) (hf2 : outer.length < fuel) (h : AHeap) :
    run fuel (d + 1) F_skolemref1_place [.agg (gameC ex outer inner cc), .int .i64 v] h = some (.int .i64 (posV v (outer ++ inner) 0 : Int), h) := by
  have hb := e_skolemref1_place fuel d (gameC ex outer inner cc) v AHeap.none
  rw [show List.all (gameC ex outer inner cc) AVal.isCell = true from rfl, cond_true] at hb
  have := place_outer fuel d (GRow.new ex outer inner cc) (v := v) ho hi hf fuel 0 (by omega) (by omega) rfl
  exact pure_of rfl rfl (cc2 (canon_game 6 ex outer inner cc) rfl) (hb.trans this) rfl

theorem refMat_inner (fuel d : Nat) {h0 : AHeap} {r : Ref} (hg : GRow h0 r ex outer inner cc) (hr : r.id < h0.rows.length) (ho : outer.length < 1000000) (hi : inner.length < 1000000) (hf : inner.length < fuel) (hf2 : outer.length < fuel) {i : Nat} (hic : i < cc.length) {c : List Int} (hci : cc.getD i [] = c) (hok : ∀ l ∈ c, okInt l) (hcl : c.length < 1000000000) {done : List (List Int)} {s4 : Sl} :
    ∀ (n k : Nat) (pre rest : List Int) (s6 : Sl) (h : AHeap), c.length < n + k → k ≤ c.length → pre.length = k → clauseP (outer ++ inner) (c.drop k) = some rest → Sep0 h0 h [.grown 1 s4 (gridC done), .grown 1 s6 (intsC pre)] →
    ∃ s6' h', l_skolemref1_Matrix_1 fuel (d + 1) n [(1, .ptr (.mk r 4)), (4, .slice s4), (5, .int .i64 (i : Int)), (6, .slice s6), (7, .int .i64 (k : Int))] h = some (.exit 2, [(1, .ptr (.mk r 4)), (2, .bot), (3, .bot), (4, .slice s4), (5, .int .i64 (i : Int)), (6, .slice s6')], h') ∧
      Sep0 h0 h' [.grown 1 s4 (gridC done), .grown 1 s6' (intsC (pre ++ rest))] := by
  intro n
  induction n with
  | zero => intro k pre rest s6 h h1 h2; omega
  | succ n ih =>
    intro k pre rest s6 h h1 h2 h3 hp hs
    have hgh : GRow h r ex outer inner cc := hg.keep hs.ext id
    have l6 := hs.len (i := 1) (sz := 1) rfl
    simp only [List.length_map, Nat.mul_one] at l6
    rw [l_skolemref1_Matrix_1_eq]
    simp only [field_mk, Option.bind_some, hgh.c3, slice_slice]
    rw [addr_lstM _ (by omega) (by omega) []]
    simp only [Option.bind_some, cell_fp, slice_slice, Int.toNat_natCast, hci]
    rw [len_lst]
    by_cases hk : k < c.length
    · rw [bif_pos (by omega), addr_lstM _ (by omega) (by omega) 0]
      rw [drop_get hk 0] at hp
      unfold clauseP at hp
      rw [List.mapM_cons] at hp
      have hm : c.getD k 0 ∈ c := by rw [List.getD_eq_getElem?_getD, List.getElem?_eq_getElem hk]; exact List.getElem_mem hk
      have hx := hok _ hm
      simp only [Option.bind_some, cell_fp, int_int, Int.toNat_natCast]
      generalize c.getD k 0 = x at hp hx
      cases hl : litP (outer ++ inner) x with
      | none => rw [hl] at hp; cases hp
      | some y =>
        rw [hl] at hp
        cases hr2 : (c.drop (k + 1)).mapM (litP (outer ++ inner)) with
        | none => rw [hr2] at hp; cases hp
        | some rest' =>
          rw [hr2] at hp
          cases hp
          unfold litP at hl
          split at hl
          · cases hl
          · rename_i hne
            obtain ⟨x1, x2⟩ := hx
            have hw : IntKind.wrap .i64 (0 - x) = -x := by rw [wrap64 (by omega) (by omega)]; omega
            rw [bif_neg (by rw [hw]; omega)]
            simp only [hgh.all, Option.bind_some, Abs_run fuel d ⟨x1, x2⟩, int_int, same_self, place_run fuel d ho hi hf hf2]
            rw [bif_neg (by omega)]
            have hpl := posV_le (varI x) (outer ++ inner) 0
            rw [List.length_append] at hpl
            have step : ∀ y' : Int, y' = y → ∃ s6' h', k_skolemref1_Matrix_2 fuel (d + 1) n .normal [(1, .ptr (.mk r 4)), (4, .slice s4), (5, .int .i64 (i : Int)), (6, .slice s6), (7, .int .i64 (k : Int)), (9, .int .i64 y')] h = some (.exit 2, [(1, .ptr (.mk r 4)), (2, .bot), (3, .bot), (4, .slice s4), (5, .int .i64 (i : Int)), (6, .slice s6')], h') ∧
                Sep0 h0 h' [.grown 1 s4 (gridC done), .grown 1 s6' (intsC (pre ++ y :: rest'))] := by
              rintro y' rfl
              obtain ⟨s', h', e1, e2, e3⟩ := hs.grow (i := 1) (bytes := 8) (m := 1) (vs := [.int .i64 y']) rfl rfl (by omega) (by omega)
              rw [k_skolemref1_Matrix_2_n, e1]
              simp only [Option.bind_some]
              rw [succI (by omega)]
              have := ih (k + 1) (pre ++ [y']) rest' s' h' (by omega) (by omega) (by simp; omega) hr2 (by rw [intsC_append]; exact e2)
              rw [List.append_assoc] at this
              exact this
            cases hl
            by_cases hneg : x < 0
            · rw [bif_pos hneg]
              simp only [Option.bind_some]
              exact step _ (by rw [if_pos hneg, wrap64 (by omega) (by omega)]; omega)
            · rw [bif_neg hneg]
              simp only [Option.bind_some]
              exact step _ (by rw [if_neg hneg])
    · have : k = c.length := by omega
      subst this
      rw [bif_neg (by omega)]
      rw [List.drop_eq_nil_of_le (by omega), show clauseP (outer ++ inner) [] = some [] from rfl] at hp
      cases hp
      rw [List.append_nil]
      exact ⟨s6, h, rfl, hs⟩

theorem refMat_outer (fuel d : Nat) {h0 : AHeap} {r : Ref} (hg : GRow h0 r ex outer inner cc) (hr : r.id < h0.rows.length) (ho : outer.length < 1000000) (hi : inner.length < 1000000) (hf : inner.length < fuel) (hf2 : outer.length < fuel) (hcl : cc.length < 1000000000) (hok : ∀ c ∈ cc, c.length < 1000000000 ∧ c.length < fuel ∧ ∀ l ∈ c, okInt l) :
    ∀ (n i : Nat) (done rest : List (List Int)) (s4 : Sl) (h : AHeap), cc.length < n + i → i ≤ cc.length → done.length = i → matP (outer ++ inner) (cc.drop i) = some rest → Sep0 h0 h [.grown 1 s4 (gridC done)] →
    ∃ s4' h', (l_skolemref1_Matrix_0 fuel (d + 1) n [(1, .ptr (.mk r 4)), (4, .slice s4), (5, .int .i64 (i : Int))] h).bind (fun p => k_skolemref1_Matrix_0 fuel (d + 1) p.1 p.2.1 p.2.2) = some (.tup [.slice s4', .bool true], h') ∧ Grown h' 1 s4' (gridC (done ++ rest)) := by
  intro n
  induction n with
  | zero => intro i done rest s4 h h1 h2; omega
  | succ n ih =>
    intro i done rest s4 h h1 h2 h3 hp hs
    have hgh : GRow h r ex outer inner cc := hg.keep hs.ext id
    have l4 := hs.len (i := 0) (sz := 1) rfl
    simp only [List.length_map, Nat.mul_one] at l4
    rw [l_skolemref1_Matrix_0_eq]
    simp only [field_mk, Option.bind_some, hgh.c3, slice_slice]
    rw [len_lst]
    by_cases hic : i < cc.length
    · rw [bif_pos (by omega)]
      rw [drop_get hic []] at hp
      unfold matP at hp
      rw [List.mapM_cons] at hp
      cases hl : clauseP (outer ++ inner) (cc.getD i []) with
      | none => rw [hl] at hp; cases hp
      | some y =>
        rw [hl] at hp
        cases hr2 : (cc.drop (i + 1)).mapM (clauseP (outer ++ inner)) with
        | none => rw [hr2] at hp; cases hp
        | some rest' =>
          rw [hr2] at hp
          cases hp
          obtain ⟨c1, c2, c3⟩ := hok (cc.getD i []) (by rw [List.getD_eq_getElem?_getD, List.getElem?_eq_getElem hic]; exact List.getElem_mem hic)
          obtain ⟨s6, h5, e5, s5⟩ := refMat_inner fuel d hg hr ho hi hf hf2 hic rfl c3 c1 (done := done) (s4 := s4) fuel 0 [] y .nil h (by omega) (by omega) rfl hl (hs.addNil 1)
          rw [show ((0 : Nat) : Int) = 0 from rfl] at e5
          rw [e5]
          simp only [Option.bind_some, k_skolemref1_Matrix_1_x2]
          rw [List.nil_append] at s5
          have l6 := s5.len (i := 1) (sz := 1) rfl
          simp only [List.length_map, Nat.mul_one] at l6
          obtain ⟨h6, f1, f2⟩ := s5.fix (i := 1) (sz := 1) (s := s6) (cs := intsC y) rfl (closedL_map (fun _ => rfl) y) 1
          have hfx : h5.fixL [.slice s6] = ([.slice (lstI y)], h6) := by rw [fixL_one, f1, ← l6]
          obtain ⟨s', h7, e7, s7, l7⟩ := f2.grow (i := 0) (sz := 1) (s := s4) (cs := gridC done) (bytes := 24) (m := 1) (vs := [.slice (lstI y)]) rfl rfl (by omega) (by omega)
          simp only [hfx, e7, Option.bind_some]
          rw [succI (by omega)]
          have s8 : Sep0 h0 h7 [.grown 1 s' (gridC (done ++ [y]))] := by
            rw [gridC_append]
            exact ⟨⟨fun c hc => s7.sep.all c (by simp at hc; simp [hc]), List.pairwise_singleton _ _⟩, s7.ext, fun c hc => s7.fresh c (by simp at hc; simp [hc])⟩
          have := ih (i + 1) (done ++ [y]) rest' s' h7 (by omega) (by omega) (by simp; omega) hr2 s8
          rw [List.append_assoc] at this
          exact this
    · have : i = cc.length := by omega
      subst this
      rw [bif_neg (by omega)]
      rw [List.drop_eq_nil_of_le (by omega), show matP (outer ++ inner) [] = some [] from rfl] at hp
      cases hp
      simp only [Option.bind_some, k_skolemref1_Matrix_0_x0, List.append_nil]
      exact ⟨s4, h, rfl, hs.sep.grown (i := 0) rfl⟩

theorem refMat_run (fuel d : Nat) (ho : outer.length < 1000000) (hi : inner.length < 1000000) (hf : inner.length < fuel) (hf2 : outer.length < fuel) (hcl : cc.length < 1000000000) (hcf : cc.length < fuel) (hok : ∀ c ∈ cc, c.length < 1000000000 ∧ c.length < fuel ∧ ∀ l ∈ c, okInt l) {mc : List (List Int)} (hm : matP (outer ++ inner) cc = some mc) (h : AHeap) :
    run fuel (d + 2) F_skolemref1_Matrix [.agg (gameC ex outer inner cc)] h = some (.tup [.slice (lstLL mc), .bool true], h) := by
  obtain ⟨s4, h', e1, e2⟩ := refMat_outer fuel d (GRow.new ex outer inner cc) (by simp [AHeap.push, AHeap.next, AHeap.none]) ho hi hf hf2 hcl hok fuel 0 [] mc .nil _ (by omega) (by omega) rfl hm ((Sep0.start _).addNil 1)
  rw [show ((0 : Nat) : Int) = 0 from rfl] at e1
  rw [List.nil_append] at e2
  have hl := e2.len
  simp only [List.length_map, Nat.mul_one] at hl
  have hb := e_skolemref1_Matrix fuel (d + 1) (gameC ex outer inner cc) AHeap.none
  rw [show List.all (gameC ex outer inner cc) AVal.isCell = true from rfl, cond_true] at hb
  refine pure_of rfl rfl (cc1 (canon_game 6 ex outer inner cc)) (hb.trans e1) (freeze_tup2 7 ?_ rfl)
  rw [e2.freeze (n := 6) (by omega) (freeze_gridC 5 _), ← hl]
end

end Go.Proofs.YthccobceodgmlaaDoor
