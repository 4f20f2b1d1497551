/-
  skolemref1.Of.
-/
import Derived.Test.YthccobceodgmlaaDoorS7
namespace Go.Proofs.YthccobceodgmlaaDoor
open Go.RowKit

/-- A cell of a slice, whatever view of it is told. -/
theorem refOf_inner (fuel d : Nat) {cc : List (List Int)} {m : List Bool} (hm : m.length < 1000000000) {i : Nat} (hi : i < cc.length) (hok : ∀ l ∈ cc.getD i [], okInt l) (hcl : (cc.getD i []).length < 1000000000) {h : AHeap} : ∀ (n k : Nat) (b : Bool), (cc.getD i []).length < n + k → k ≤ (cc.getD i []).length →
    l_skolemref1_Of_1 fuel d n [(0, .slice (lstLL cc)), (1, .slice (lstB m)), (5, .int .i64 (i : Int)), (6, .bool b), (7, .int .i64 (k : Int))] h =
      some (.exit 2, [(0, .slice (lstLL cc)), (1, .slice (lstB m)), (5, .int .i64 (i : Int)), (6, .bool (b || ((cc.getD i []).drop k).any fun l => holdsI l m))], h) := by
  intro n
  induction n with
  | zero => intro k b h1 h2; omega
  | succ n ih =>
    intro k b h1 h2
    rw [l_skolemref1_Of_1_eq, addr_lstM _ (by omega) (by omega) []]
    simp only [Option.bind_some, cell_fp, slice_slice, Int.toNat_natCast]
    rw [len_lst]
    by_cases hk : k < (cc.getD i []).length
    · rw [bif_pos (by omega), drop_get hk 0, addr_lstM _ (by omega) (by omega) 0]
      simp only [Option.bind_some, cell_fp, int_int, Int.toNat_natCast]
      rw [show (lstB m).len = m.length from rfl]
      have hx : okInt ((cc.getD i []).getD k 0) := hok _ (by rw [List.getD_eq_getElem?_getD (l := cc.getD i []), List.getElem?_eq_getElem hk]; exact List.getElem_mem hk)
      generalize (cc.getD i []).getD k 0 = x at hx
      obtain ⟨x1, x2⟩ := hx
      rw [List.any_cons, succI (by omega)]
      have hv : varI x = (x.natAbs : Int) := varI_eq ⟨x1, x2⟩
      have hw : IntKind.wrap .i64 (0 - x) = -x := by rw [wrap64 (by omega) (by omega)]; omega
      have key : ∀ (z : Bool), holdsI x m = z → (bif z then l_skolemref1_Of_1 fuel d n [(0, .slice (lstLL cc)), (1, .slice (lstB m)), (5, .int .i64 (i : Int)), (6, .bool true), (7, .int .i64 ((k + 1 : Nat) : Int))] h else l_skolemref1_Of_1 fuel d n [(0, .slice (lstLL cc)), (1, .slice (lstB m)), (5, .int .i64 (i : Int)), (6, .bool b), (7, .int .i64 ((k + 1 : Nat) : Int))] h) =
          some (.exit 2, [(0, .slice (lstLL cc)), (1, .slice (lstB m)), (5, .int .i64 (i : Int)), (6, .bool (b || (holdsI x m || ((cc.getD i []).drop (k + 1)).any fun l => holdsI l m)))], h) := by
        intro z hz
        rw [hz]
        cases z with
        | true => rw [cond_true, ih (k + 1) true (by omega) (by omega)]; simp
        | false => rw [cond_false, ih (k + 1) b (by omega) (by omega)]; simp
      have hH : holdsI x m = ((decide (0 < (x.natAbs : Int)) && decide ((x.natAbs : Int) < (m.length : Int))) && (m.getD x.natAbs false == decide (0 < x))) := by
        unfold holdsI
        rw [hv, Int.toNat_natCast]
      by_cases h0 : 0 < x
      · have hxa : (x.natAbs : Int) = x := by omega
        by_cases hlt : x < (m.length : Int)
        · rw [bif_pos h0, decide_eq_true hlt]
          simp only [beq_self_eq_true, cond_true]
          rw [addr_lstM _ (by omega) (by omega) false]
          simp only [Option.bind_some, cell_fp, bool_bool]
          have hz : holdsI x m = m.getD x.toNat false := by
            rw [hH, hxa, decide_eq_true h0, decide_eq_true hlt, show x.natAbs = x.toNat by omega]
            cases m.getD x.toNat false <;> rfl
          rw [← hz]
          cases hh : holdsI x m with
          | true =>
            simp only [beqF, Bool.not_true, cond_false, Option.bind_some, bool_bool]
            have := key true hh
            rw [hh] at this
            exact this
          | false =>
            simp only [beq_self_eq_true, cond_true]
            rw [decide_eq_false (show ¬ x < 0 by omega)]
            simp only [cond_false, Bool.false_eq_true, beqT, Option.bind_some, bool_bool]
            have := key false hh
            rw [hh] at this
            exact this
        · have hz : holdsI x m = false := by rw [hH, hxa, decide_eq_false hlt]; simp
          rw [bif_pos h0, decide_eq_false hlt, decide_eq_false (show ¬ x < 0 by omega)]
          simp only [cond_false, beqT, Option.bind_some, bool_bool, beqF, Bool.not_false, cond_true]
          have := key false hz
          rw [hz] at this
          rw [hz]
          exact this
      · rw [bif_neg h0]
        simp only [beqT, cond_false, Option.bind_some, bool_bool, beqF, Bool.not_false, cond_true]
        by_cases hn : x < 0
        · have hxa : (x.natAbs : Int) = -x := by omega
          rw [decide_eq_true hn, hw, cond_true, decide_eq_true (show 0 < -x by omega), cond_true]
          by_cases hlt : -x < (m.length : Int)
          · rw [decide_eq_true hlt]
            simp only [cond_true]
            rw [addr_lstM _ (by omega) (by omega) false]
            simp only [Option.bind_some, cell_fp, bool_bool]
            have hz : holdsI x m = !m.getD (-x).toNat false := by
              rw [hH, hxa, decide_eq_true (show 0 < -x by omega), decide_eq_true hlt, show x.natAbs = (-x).toNat by omega, decide_eq_false h0]
              cases m.getD (-x).toNat false <;> rfl
            rw [← hz]
            exact key _ rfl
          · have hz : holdsI x m = false := by rw [hH, hxa, decide_eq_false hlt]; simp
            rw [decide_eq_false hlt]
            simp only [cond_false, Option.bind_some, bool_bool]
            have := key false hz
            exact this
        · have hx0 : x = 0 := by omega
          have hz : holdsI x m = false := by rw [hH, hx0]; rfl
          rw [decide_eq_false hn]
          simp only [cond_false, Option.bind_some, bool_bool]
          exact key false hz
    · have : k = (cc.getD i []).length := by omega
      subst this
      rw [bif_neg (by omega)]
      simp

theorem refOf_loop (fuel d : Nat) {cc : List (List Int)} {m : List Bool} (hm : m.length < 1000000000) (hl : cc.length < 1000000000) (hok : ∀ c ∈ cc, c.length < 1000000000 ∧ c.length < fuel ∧ ∀ l ∈ c, okInt l) {h : AHeap} : ∀ (n i : Nat), cc.length < n + i → i ≤ cc.length →
    (l_skolemref1_Of_0 fuel d n [(0, .slice (lstLL cc)), (1, .slice (lstB m)), (5, .int .i64 (i : Int))] h).bind (fun p => k_skolemref1_Of_0 fuel d p.1 p.2.1 p.2.2) = some (.bool (ofI (cc.drop i) m), h) := by
  intro n
  induction n with
  | zero => intro i h1 h2; omega
  | succ n ih =>
    intro i h1 h2
    rw [l_skolemref1_Of_0_eq, len_lst]
    by_cases hi : i < cc.length
    · rw [bif_pos (by omega), drop_get hi []]
      obtain ⟨c1, c2, c3⟩ := hok (cc.getD i []) (by rw [List.getD_eq_getElem?_getD, List.getElem?_eq_getElem hi]; exact List.getElem_mem hi)
      have h0 := refOf_inner fuel d (m := m) hm hi c3 c1 (h := h) fuel 0 false (by omega) (by omega)
      rw [show ((0 : Nat) : Int) = 0 from rfl] at h0
      rw [h0, List.drop_zero]
      simp only [Option.bind_some, k_skolemref1_Of_1_x2, Bool.false_or, ofI, List.all_cons]
      cases (cc.getD i []).any fun l => holdsI l m with
      | true =>
        simp only [Bool.not_true, cond_false, Bool.true_and]
        rw [succI (by omega), ih (i + 1) (by omega) (by omega)]
        rfl
      | false => simp only [Bool.not_false, cond_true, Option.bind_some, k_skolemref1_Of_0_r, Bool.false_and]
    · have : i = cc.length := by omega
      subst this
      rw [bif_neg (by omega)]
      simp [k_skolemref1_Of_0_x0, ofI]

theorem refOf_run (fuel d : Nat) {cc : List (List Int)} {m : List Bool} (hm : m.length < 1000000000) (hl : cc.length < 1000000000) (hf : cc.length < fuel) (hok : ∀ c ∈ cc, c.length < 1000000000 ∧ c.length < fuel ∧ ∀ l ∈ c, okInt l) {h : AHeap} {x y : AVal} (hx : freezeV h 8 x = some (.slice (lstLL cc))) (hy : freezeV h 8 y = some (.slice (lstB m))) :
    run fuel (d + 1) F_skolemref1_Of [x, y] h = some (.bool (ofI cc m), h) := by
  refine run_val rfl rfl (mm2 hx hy) (r := .bool (ofI cc m)) (h' := AHeap.none) ?_ rfl rfl
  rw [e_skolemref1_Of]
  have := refOf_loop fuel d (m := m) hm hl hok (h := AHeap.none) fuel 0 (by omega) (by omega)
  rw [List.drop_zero] at this
  exact this

end Go.Proofs.YthccobceodgmlaaDoor
