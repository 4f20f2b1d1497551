/-
  skolemref1.Wins, skolemref1.Value.
-/
import Derived.Test.YthccobceodgmlaaDoorS12
namespace Go.Proofs.YthccobceodgmlaaDoor
open Go.RowKit

theorem litP_ok {vs : List Int} {l y : Int} (hv : vs.length < 1000000) (h : litP vs l = some y) : okInt y := by
  unfold litP at h
  have := posV_le (varI l) vs 0
  split at h
  · cases h
  · cases h
    constructor <;> split <;> omega
theorem matP_ok {vs : List Int} {cc mc : List (List Int)} (hv : vs.length < 1000000) (h : matP vs cc = some mc) : ∀ c ∈ mc, ∀ l ∈ c, okInt l := by
  obtain ⟨h1, h2⟩ := mapM_get h
  intro c hc l hl
  obtain ⟨i, hi⟩ := List.getElem?_of_mem hc
  have hi' : i < cc.length := by rw [← h1]; exact (List.getElem?_eq_some_iff.1 hi).1
  have h3 := h2 i _ c (List.getElem?_eq_getElem hi') hi
  obtain ⟨g1, g2⟩ := mapM_get h3
  obtain ⟨j, hj⟩ := List.getElem?_of_mem hl
  have hj' : j < (cc[i]).length := by rw [← g1]; exact (List.getElem?_eq_some_iff.1 hj).1
  exact litP_ok hv (g2 j _ l (List.getElem?_eq_getElem hj') hj)

section
variable {ex : Bool} {outer inner : List Int} {cc mc : List (List Int)}

theorem refWins_loop (fuel d : Nat) {h : AHeap} {r : Ref} (hg : GRow h r ex outer inner cc) {o : List Bool} (hm : inner.length ≤ 20) (ho : o.length ≤ 20) (hf : 30 < fuel) (hl : mc.length < 1000000000) (hlf : mc.length < fuel) (hok : ∀ c ∈ mc, c.length < 1000000000 ∧ c.length < fuel ∧ ∀ l ∈ c, okInt l) {x1 : Sl} (hx1 : canonV 8 (.slice x1) = some (.slice (lstB o))) :
    ∀ (m n : Nat), 2 ^ inner.length < m + n → n ≤ 2 ^ inner.length → (∀ b : List Bool, b.length = inner.length → valB b < n → ofI mc ((false :: o) ++ b) = ex) →
    ∃ a, (l_skolemref1_Wins_0 fuel (d + 1) m [(1, .slice x1), (2, .ptr (.mk r 4)), (5, .slice (lstLL mc)), (7, .int .i64 (n : Int))] h).bind (fun q => k_skolemref1_Wins_0 fuel (d + 1) q.1 q.2.1 q.2.2) = some (.bool a, h) ∧ (a = true ↔ winsP mc ex inner.length o) := by
  intro m
  induction m with
  | zero => intro n h1 h2; omega
  | succ m ih =>
    intro n h1 h2 h3
    have hp : 2 ^ inner.length ≤ 2 ^ 20 := Nat.pow_le_pow_right (by omega) hm
    have hp2 : (2 : Nat) ^ 20 = 1048576 := rfl
    rw [l_skolemref1_Wins_0_eq]
    simp only [field_mk, Option.bind_some, hg.c2, hg.c0, slice_slice, bool_bool]
    rw [len_lst, bif_neg (by rw [wrapu64 (by omega) (by omega)]; omega), shl_eq (by omega)]
    by_cases hn : n < 2 ^ inner.length
    · rw [bif_pos (by omega), model_run fuel d (n := n) (by omega) (by omega) (by omega) h hx1]
      simp only [Option.bind_some, slice_slice]
      rw [refOf_run fuel d (cc := mc) (m := false :: o ++ bitsN n inner.length) (by simp [bitsN_len]; omega) hl hlf hok (freeze_lst _ _ _ (closedL_map closed_lstI mc)) (freeze_lst _ _ _ (closedL_map (fun _ => rfl) _))]
      simp only [Option.bind_some, bool_bool, hg.c0, same_self]
      by_cases he : ofI mc (false :: o ++ bitsN n inner.length) = ex
      · rw [he]
        simp only [beq_self_eq_true, Bool.not_true, cond_false]
        rw [succI (by omega)]
        refine ih (n + 1) (by omega) (by omega) fun b hb hv => ?_
        by_cases hq : valB b = n
        · rw [← bitsN_valB hb, hq]; exact he
        · exact h3 b hb (by omega)
      · have hb : (!(ofI mc (false :: o ++ bitsN n inner.length) == ex)) = true := by simpa using he
        rw [hb]
        simp only [cond_true, Option.bind_some, k_skolemref1_Wins_0_r]
        exact ⟨false, rfl, ⟨(fun h => by cases h), fun h => absurd (h _ (bitsN_len n _)) he⟩⟩
    · rw [bif_neg (by omega)]
      simp only [Option.bind_some, k_skolemref1_Wins_0_x0]
      refine ⟨true, rfl, ⟨fun _ b hb => h3 b hb ?_, fun _ => rfl⟩⟩
      have := valB_lt b
      rw [hb] at this
      omega

theorem refWins_run (fuel d : Nat) (hf : 2 ^ 21 ≤ fuel) (ho : outer.length ≤ 20) (hi : inner.length ≤ 20) (hcl : cc.length < 1000000) (hok : ∀ c ∈ cc, c.length < 1000000 ∧ ∀ l ∈ c, okInt l) (hm : matP (outer ++ inner) cc = some mc) {o : List Bool} (hol : o.length ≤ 20) {x1 : Sl} (hx1 : canonV 8 (.slice x1) = some (.slice (lstB o))) (h : AHeap) :
    ∃ a, run fuel (d + 3) F_skolemref1_Wins [.agg (gameC ex outer inner cc), .slice x1] h = some (.bool a, h) ∧ (a = true ↔ winsP mc ex inner.length o) := by
  have hp : (2 : Nat) ^ 21 = 2097152 := rfl
  rw [hp] at hf
  have hfew : Few fuel cc := ⟨by omega, by omega, fun c hc => by have := (hok c hc).1; omega⟩
  have hmf := hfew.mat hm
  have hmo := matP_ok (by simp; omega) hm
  obtain ⟨a, e1, e2⟩ := refWins_loop fuel (d + 1) (GRow.new ex outer inner cc) (mc := mc) (o := o) hi hol (by omega) hmf.many hmf.room (fun c hc => ⟨(hmf.each c hc).1, (hmf.each c hc).2, hmo c hc⟩) (x1 := lstB o) (canon_lstB 7 o) fuel 0 (by
    have : 2 ^ inner.length ≤ 2 ^ 20 := Nat.pow_le_pow_right (by omega) hi
    have hp2 : (2 : Nat) ^ 20 = 1048576 := rfl
    omega) (Nat.zero_le _) (fun b hb hv => by omega)
  rw [show ((0 : Nat) : Int) = 0 from rfl] at e1
  refine ⟨a, ?_, e2⟩
  have hb := e_skolemref1_Wins fuel (d + 2) (gameC ex outer inner cc) (lstB o) AHeap.none
  have hmr := refMat_run fuel d (ex := ex) (outer := outer) (inner := inner) (cc := cc) (by omega) (by omega) (by omega) (by omega) (by omega) (by omega) (fun c hc => ⟨by have := (hok c hc).1; omega, by have := (hok c hc).1; omega, (hok c hc).2⟩) hm (AHeap.none.push 1 (gameC ex outer inner cc))
  have hall : (AHeap.none.push 1 (gameC ex outer inner cc)).cellsAt 4 (.mk ⟨AHeap.none.next, 0, 0⟩ (gameC ex outer inner cc).length) = some (gameC ex outer inner cc) := rfl
  rw [show List.all (gameC ex outer inner cc) AVal.isCell = true from rfl, cond_true, hall] at hb
  simp only [Option.bind_some, hmr, isTup_tup, comp_tup, List.length_cons, List.length_nil, Nat.reduceAdd, Nat.beq_refl, cond_true, List.getElem?_cons_zero, List.getElem?_cons_succ, slice_slice, bool_bool] at hb
  exact pure_of rfl rfl (cc2 (canon_game 6 ex outer inner cc) hx1) (hb.trans e1) rfl

theorem refValue_loop (fuel d : Nat) {h : AHeap} {r : Ref} (hg : GRow h r ex outer inner cc) (hf : 2 ^ 21 ≤ fuel) (ho : outer.length ≤ 20) (hi : inner.length ≤ 20) (hcl : cc.length < 1000000) (hok : ∀ c ∈ cc, c.length < 1000000 ∧ ∀ l ∈ c, okInt l) (hm : matP (outer ++ inner) cc = some mc) :
    ∀ (m n : Nat), 2 ^ outer.length < m + n → n ≤ 2 ^ outer.length → (∀ b : List Bool, b.length = outer.length → valB b < n → ¬ winsP mc ex inner.length b) →
    ∃ a, (l_skolemref1_Value_0 fuel (d + 3) m [(1, .ptr (.mk r 4)), (3, .int .i64 (n : Int))] h).bind (fun q => k_skolemref1_Value_0 fuel (d + 3) q.1 q.2.1 q.2.2) = some (.bool a, h) ∧ (a = ex ↔ ∃ o : List Bool, o.length = outer.length ∧ winsP mc ex inner.length o) := by
  have hf' := hf
  have hp3 : (2 : Nat) ^ 21 = 2097152 := rfl
  rw [hp3] at hf'
  intro m
  induction m with
  | zero => intro n h1 h2; omega
  | succ m ih =>
    intro n h1 h2 h3
    have hp : 2 ^ outer.length ≤ 2 ^ 20 := Nat.pow_le_pow_right (by omega) ho
    have hp2 : (2 : Nat) ^ 20 = 1048576 := rfl
    rw [l_skolemref1_Value_0_eq]
    simp only [field_mk, Option.bind_some, hg.c1, hg.all, slice_slice]
    rw [len_lst, bif_neg (by rw [wrapu64 (by omega) (by omega)]; omega), shl_eq (by omega)]
    by_cases hn : n < 2 ^ outer.length
    · rw [bif_pos (by omega), model_run fuel (d + 2) (n := n) (hd := []) (by simp) (by omega) (by omega) h rfl]
      simp only [Option.bind_some, slice_slice, hg.all, same_self, aHi_none, aMx_none]
      rw [len_lst]
      have hbl := bitsN_len n outer.length
      rw [aLo_some (x := 1) (by omega) (by show (1 : Int) ≤ (((false :: bitsN n outer.length).length : Nat) : Int); rw [List.length_cons]; omega)]
      simp only [Option.bind_some, show (1 : Int).toNat = 1 from rfl]
      rw [cond_pos _ _ (hasSz_lstM _ _ _), cut_lstM _ _ (Nat.le_refl _)]
      have hcut : (List.drop 1 ([false] ++ bitsN n outer.length)).take (([false] ++ bitsN n outer.length).length - 1) = bitsN n outer.length := by
        rw [List.take_of_length_le (by simp)]; rfl
      rw [hcut]
      obtain ⟨a, e1, e2⟩ := refWins_run fuel d (ex := ex) hf ho hi hcl hok hm (o := bitsN n outer.length) (by omega) (canon_lstB 7 _) h
      rw [e1]
      simp only [Option.bind_some, bool_bool]
      cases a with
      | true =>
        simp only [cond_true, hg.c0, Option.bind_some, bool_bool, k_skolemref1_Value_0_r]
        exact ⟨ex, rfl, ⟨fun _ => ⟨_, hbl, e2.1 rfl⟩, fun _ => rfl⟩⟩
      | false =>
        simp only [cond_false]
        rw [succI (by omega)]
        refine ih (n + 1) (by omega) (by omega) fun b hb hv => ?_
        by_cases hq : valB b = n
        · rw [← bitsN_valB hb, hq]
          intro hw
          have := e2.2 hw
          cases this
        · exact h3 b hb (by omega)
    · rw [bif_neg (by omega)]
      simp only [Option.bind_some, k_skolemref1_Value_0_x0, field_mk, hg.c0, bool_bool]
      refine ⟨!ex, rfl, ⟨(fun h => by cases ex <;> cases h), fun ⟨o, o1, o2⟩ => absurd o2 (h3 o o1 ?_)⟩⟩
      have := valB_lt o
      rw [o1] at this
      omega

theorem refValue_run (fuel d : Nat) (hf : 2 ^ 21 ≤ fuel) (ho : outer.length ≤ 20) (hi : inner.length ≤ 20) (hcl : cc.length < 1000000) (hok : ∀ c ∈ cc, c.length < 1000000 ∧ ∀ l ∈ c, okInt l) (hm : matP (outer ++ inner) cc = some mc) (h : AHeap) :
    ∃ a, run fuel (d + 4) F_skolemref1_Value [.agg (gameC ex outer inner cc)] h = some (.bool a, h) ∧ (a = ex ↔ ∃ o : List Bool, o.length = outer.length ∧ winsP mc ex inner.length o) := by
  obtain ⟨a, e1, e2⟩ := refValue_loop fuel d (GRow.new ex outer inner cc) hf ho hi hcl hok hm fuel 0 (by
    have : 2 ^ outer.length ≤ 2 ^ 20 := Nat.pow_le_pow_right (by omega) ho
    have hp2 : (2 : Nat) ^ 20 = 1048576 := rfl
    have hp3 : (2 : Nat) ^ 21 = 2097152 := rfl
    omega) (Nat.zero_le _) (fun b hb hv => by omega)
  rw [show ((0 : Nat) : Int) = 0 from rfl] at e1
  have hb := e_skolemref1_Value fuel (d + 3) (gameC ex outer inner cc) AHeap.none
  rw [show List.all (gameC ex outer inner cc) AVal.isCell = true from rfl, cond_true] at hb
  exact ⟨a, pure_of rfl rfl (cc1 (canon_game 6 ex outer inner cc)) (hb.trans e1) rfl, e2⟩
end

end Go.Proofs.YthccobceodgmlaaDoor
