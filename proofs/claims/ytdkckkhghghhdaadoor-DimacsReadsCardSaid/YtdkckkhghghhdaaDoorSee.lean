/-
  skolemsee: errors as plain data.
-/
import Derived.Test.YtdkckkhghghhdaaDoorE
import Derived.Test.YtdkckkhghghhdaaDoorBm31
namespace Go.Proofs.YtdkckkhghghhdaaDoor
open Go.RowKit

theorem pure_ex {f : FuncId} {args us : List AVal} (hp : pures f = true) (hx : exts f = none) (hc : canonL args = some us) {fuel d : Nat} {h : AHeap} {r v : AVal}
    (hb : ∃ h', brun fuel (d + 1) f us AHeap.none = some (r, h')) (hf : ∀ h', freezeV h' 8 r = some v) : run fuel (d + 1) f args h = some (v, h) := by
  obtain ⟨h', e⟩ := hb
  exact pure_of hp hx hc e (hf h')

def errs : List AVal := [err_api_ErrText, err_api_ErrLimit, err_api_ErrBudget, err_api_ErrRange, err_api_ErrBlocks, err_api_ErrProof, err_api_ErrCert]
abbrev errN (j : Nat) : AVal := errs.getD j .nilif
theorem seven {j : Nat} (h : j < 7) : j = 0 ∨ j = 1 ∨ j = 2 ∨ j = 3 ∨ j = 4 ∨ j = 5 ∨ j = 6 := by omega
theorem errN_canon {j : Nat} (h : j < 7) (n : Nat) : canonV (n + 4) (errN j) = some (errN j) := by
  rcases seven h with rfl | rfl | rfl | rfl | rfl | rfl | rfl <;> rfl
theorem errN_iface {j : Nat} (h : j < 7) : nilTest .iface (errN j) = some false := by
  rcases seven h with rfl | rfl | rfl | rfl | rfl | rfl | rfl <;> rfl
theorem errN_no {j : Nat} (h : j < 7) : tassert T_p_api_At (errN j) = some none := by
  rcases seven h with rfl | rfl | rfl | rfl | rfl | rfl | rfl <;> rfl
theorem errN_cells {j : Nat} (h : j < 7) : (errN j).closed = true := by
  rcases seven h with rfl | rfl | rfl | rfl | rfl | rfl | rfl <;> rfl
theorem errN_same {i j : Nat} (hi : i < 7) (hj : j < 7) (fuel : Nat) : ifaceSame (Cf fuel F_skolemsee_Alike) (errN i) (errN j) = some (decide (i = j)) := by
  rcases seven hi with rfl | rfl | rfl | rfl | rfl | rfl | rfl <;> rcases seven hj with rfl | rfl | rfl | rfl | rfl | rfl | rfl <;> rfl

theorem alike_run (fuel d : Nat) {i j : Nat} (hi : i < 7) (hj : j < 7) (h : AHeap) : run fuel (d + 1) F_skolemsee_Alike [errN i, errN j] h = some (.bool (decide (i = j)), h) := by
  refine pure_of rfl rfl (cc2 (errN_canon hi 4) (errN_canon hj 4)) (r := .bool (decide (i = j))) (h' := AHeap.none) ?_ rfl
  rw [e_skolemsee_Alike, errN_iface hi, errN_iface hj]
  simp only [Option.bind_some, beq_self_eq_true, cond_true, bool_bool, cond_false, errN_same hi hj]

theorem sentinels_run (fuel d : Nat) (h : AHeap) : run fuel (d + 1) F_skolemsee_sentinels [] h = some (.slice (.lst 7 false errs), h) :=
  pure_of rfl rfl canonL_nil (r := .slice (.lst 7 true errs)) (h' := AHeap.none) (by rw [e_skolemsee_sentinels]; rfl) rfl

theorem sentinel_loop (fuel d : Nat) {j : Nat} (hj : j < 7) {h : AHeap} : ∀ (m k : Nat), 7 < m + k → k ≤ j →
    (l_skolemsee_sentinel_0 fuel (d + 1) m [(0, errN j), (3, .slice (.lst 7 false errs)), (4, .int .i64 (k : Int))] h).bind (fun p => k_skolemsee_sentinel_0 fuel (d + 1) p.1 p.2.1 p.2.2) = some (.int .i64 (101 + (j : Int)), h) := by
  intro m
  induction m with
  | zero => intro k h1 h2; omega
  | succ m ih =>
    intro k h1 h2
    rw [l_skolemsee_sentinel_0_eq, show (Sl.lst 7 false errs).len = 7 from rfl, bif_pos (show ((k : Int) < ((7 : Nat) : Int)) by omega)]
    have ha : h.addr 1 (.lst 7 false errs) (k : Int) = some (.fp 0 [errN k]) := by
      have := addr_lstM (h := h) (fun v : AVal => v) (l := errs) (j := (k : Int)) (by omega) (by show (k : Int).toNat < 7; omega) .nilif false
      simp only [List.map_id', Int.toNat_natCast] at this
      exact this
    rw [ha]
    simp only [Option.bind_some, cell_fp]
    rw [alike_run fuel d hj (by omega)]
    simp only [Option.bind_some, bool_bool]
    by_cases he : j = k
    · subst he
      rw [decide_eq_true rfl, cond_true]
      simp only [Option.bind_some, k_skolemsee_sentinel_0_r]
      rw [wrap64 (by omega) (by omega)]
    · rw [bif_neg he, show IntKind.wrap .i64 ((k : Int) + 1) = ((k + 1 : Nat) : Int) by rw [wrap64 (by omega) (by omega)]; omega]
      exact ih (k + 1) (by omega) (by omega)
theorem sentinel_run (fuel d : Nat) {j : Nat} (hj : j < 7) (hf : 10 < fuel) (h : AHeap) : run fuel (d + 2) F_skolemsee_sentinel [errN j] h = some (.int .i64 (101 + (j : Int)), h) := by
  refine pure_of rfl rfl (cc1 (errN_canon hj 4)) (r := .int .i64 (101 + (j : Int))) (h' := AHeap.none) ?_ rfl
  rw [e_skolemsee_sentinel, sentinels_run fuel d]
  simp only [Option.bind_some, slice_slice]
  exact sentinel_loop fuel d hj fuel 0 (by omega) (by omega)

/-- A fault's cells. -/
def faultC (c : Int) (p : Bool) (x : Int) : List AVal := [.int .i64 c, .bool p, .int .i64 x]
theorem canon_fault (c : Int) (p : Bool) (x : Int) : canonV 8 (.agg (faultC c p x)) = some (.agg (faultC c p x)) := by
  unfold faultC
  rw [canon_agg, canonM_cons (u := .int .i64 c) rfl (canonM_cons (u := .bool p) rfl (canonM_cons (u := .int .i64 x) rfl (canonM_nil _)))]
  rfl
theorem freeze_fault {h : AHeap} (c : Int) (p : Bool) (x : Int) : freezeV h 8 (.agg (faultC c p x)) = some (.agg (faultC c p x)) := freeze_agg 7 (mm3 rfl rfl rfl)
theorem Bare_run (fuel d : Nat) (c : Int) (h : AHeap) : run fuel (d + 1) F_skolemref_Bare [.int .i64 c] h = some (.agg (faultC c false 0), h) :=
  pure_of rfl rfl (cc1 rfl) (by rw [e_skolemref_Bare]; rfl) (freeze_fault c false 0)
theorem None_run (fuel d : Nat) (h : AHeap) : run fuel (d + 1) F_skolemref_None [] h = some (.agg (faultC 0 false 0), h) :=
  pure_of rfl rfl canonL_nil (by rw [e_skolemref_None]; rfl) (freeze_fault 0 false 0)
theorem Placed_run (fuel d : Nat) {c : Int} (hc : c ≠ 0) (x : Int) (h : AHeap) : run fuel (d + 1) F_skolemref_Placed [.int .i64 c, .int .i64 x] h = some (.agg (faultC c true x), h) :=
  pure_of rfl rfl (cc2 rfl rfl) (by rw [e_skolemref_Placed, bif_neg hc]; rfl) (freeze_fault c true x)
theorem SameFault_run (fuel d : Nat) (c c' : Int) (p p' : Bool) (x x' : Int) (h : AHeap) : run fuel (d + 1) F_skolemref_SameFault [.agg (faultC c p x), .agg (faultC c' p' x')] h = some (.bool (decide (c = c') && p == p' && decide (x = x')), h) := by
  have hb := e_skolemref_SameFault fuel d (faultC c p x) (faultC c' p' x') AHeap.none
  rw [show List.all (faultC c p x) AVal.isCell = true from rfl, show List.all (faultC c' p' x') AVal.isCell = true from rfl, cond_true, cond_true] at hb
  have hl : (faultC c p x).length = 3 := rfl
  have hl' : (faultC c' p' x').length = 3 := rfl
  simp only [hl, hl', field_mk, Option.bind_some] at hb
  generalize hP : (AHeap.none.push 1 (faultC c p x)).push 1 (faultC c' p' x') = P at hb
  have a0 : P.cell (.mk ⟨AHeap.none.next, 0, 0 + 0⟩ 3) = some (.int .i64 c) := by rw [← hP]; rfl
  have a1 : P.cell (.mk ⟨AHeap.none.next, 0, 0 + 1⟩ 3) = some (.bool p) := by rw [← hP]; rfl
  have a2 : P.cell (.mk ⟨AHeap.none.next, 0, 0 + 2⟩ 3) = some (.int .i64 x) := by rw [← hP]; rfl
  have b0 : P.cell (.mk ⟨(AHeap.none.push 1 (faultC c p x)).next, 0, 0 + 0⟩ 3) = some (.int .i64 c') := by rw [← hP]; rfl
  have b1 : P.cell (.mk ⟨(AHeap.none.push 1 (faultC c p x)).next, 0, 0 + 1⟩ 3) = some (.bool p') := by rw [← hP]; rfl
  have b2 : P.cell (.mk ⟨(AHeap.none.push 1 (faultC c p x)).next, 0, 0 + 2⟩ 3) = some (.int .i64 x') := by rw [← hP]; rfl
  simp only [a0, a1, b0, b1, Option.bind_some, int_int, bool_bool, beqT] at hb
  refine pure_of rfl rfl (cc2 (canon_fault c p x) (canon_fault c' p' x')) (r := .bool (decide (c = c') && p == p' && decide (x = x'))) (h' := P) (hb.trans ?_) rfl
  by_cases hc : c = c'
  · rw [decide_eq_true hc]
    simp only [cond_true, Option.bind_some, bool_bool, Bool.true_and]
    cases p == p' with
    | true => simp only [cond_true, a2, b2, Option.bind_some, int_int, bool_bool, Bool.true_and]
    | false => simp only [cond_false, Option.bind_some, bool_bool, Bool.false_and]
  · rw [decide_eq_false hc]
    simp only [cond_false, Option.bind_some, bool_bool, Bool.false_and]

/-- An error, and the place where it is. -/
abbrev atV (k : Int) (e : AVal) : AVal := .iface T_p_api_At (.ptr (.fp 0 [.int .i64 k, e]))
/-- What fault an error is. -/
inductive IsFault : AVal → Int → Bool → Int → Prop
  | fine : IsFault .nilif 0 false 0
  | bare {j : Nat} (hj : j < 7) : IsFault (errN j) (101 + (j : Int)) false 0
  | at {j : Nat} (hj : j < 7) (k : Int) : IsFault (atV k (errN j)) (101 + (j : Int)) true k

theorem canonV_at {j : Nat} (hj : j < 7) (k : Int) : canonV 8 (atV k (errN j)) = some (atV k (errN j)) := by
  rcases seven hj with rfl | rfl | rfl | rfl | rfl | rfl | rfl <;> rfl
theorem IsFault.canon {e : AVal} {c : Int} {p : Bool} {x : Int} (hf : IsFault e c p x) : canonV 8 e = some e := by
  cases hf with
  | fine => rfl
  | bare hj => exact errN_canon hj 4
  | «at» hj k => exact canonV_at hj _

theorem Fault_run (fuel d : Nat) {e : AVal} {c : Int} {p : Bool} {x : Int} (hf : IsFault e c p x) (hfu : 10 < fuel) (h : AHeap) : run fuel (d + 3) F_skolemsee_Fault [e] h = some (.agg (faultC c p x), h) := by
  have hc1 : ∀ c p x, (!false && Nat.beq (List.length (faultC c p x)) 3 && List.all (faultC c p x) AVal.isCell) = true := fun _ _ _ => rfl
  cases hf with
  | fine =>
    refine pure_ex rfl rfl (cc1 rfl) ⟨?w1, ?_⟩ (fun _ => freeze_fault 0 false 0)
    rotate_left
    · rw [e_skolemsee_Fault]
      simp only [show nilTest .iface .nilif = some true from rfl, Option.bind_some, cond_true, None_run, agg_agg, hc1]
      rfl
  | bare hj =>
    refine pure_ex rfl rfl (cc1 (errN_canon hj 4)) ⟨?w2, ?_⟩ (fun _ => freeze_fault _ false 0)
    rotate_left
    · rw [e_skolemsee_Fault]
      simp only [errN_iface hj, Option.bind_some, cond_false, errN_no hj, Option.isSome_none, Bool.not_false, cond_true, sentinel_run fuel d hj hfu, int_int, Bare_run, agg_agg, hc1]
      rfl
  | @«at» j hj k =>
    refine pure_ex rfl rfl (cc1 (canonV_at hj x)) ⟨?w3, ?_⟩ (fun _ => freeze_fault _ true x)
    rotate_left
    · rw [e_skolemsee_Fault]
      have t1 : nilTest .iface (atV x (errN j)) = some false := rfl
      have t2 : tassert T_p_api_At (atV x (errN j)) = some (some (.fp 0 [.int .i64 x, errN j])) := rfl
      have t3 : nilTest .ptr (.ptr (.fp 0 [.int .i64 x, errN j])) = some false := rfl
      simp only [t1, t2, Option.bind_some, cond_false, Option.isSome_some, Bool.not_true, Option.getD_some, t3, beq_self_eq_true, cond_true, chk_fp, field_fp, List.drop_succ_cons, List.drop_zero, cell_fp, errN_iface hj, bool_bool, sentinel_run fuel d hj hfu, int_int, same_self, Placed_run fuel (d + 1) (show (101 + (j : Int)) ≠ 0 by omega), agg_agg, hc1]
      rfl

theorem Same_run (fuel d : Nat) {e : AVal} {c : Int} {p : Bool} {x : Int} (hf : IsFault e c p x) (hfu : 10 < fuel) (c' : Int) (p' : Bool) (x' : Int) (h : AHeap) :
    run fuel (d + 4) F_skolemsee_Same [e, .agg (faultC c' p' x')] h = some (.bool (decide (c = c') && p == p' && decide (x = x')), h) := by
  refine pure_of rfl rfl (cc2 hf.canon (canon_fault c' p' x')) (r := .bool (decide (c = c') && p == p' && decide (x = x'))) (h' := AHeap.none.push 1 (faultC c' p' x')) ?_ rfl
  · rw [e_skolemsee_Same, show List.all (faultC c' p' x') AVal.isCell = true from rfl, cond_true, Fault_run fuel d hf hfu]
    have hc : (AHeap.none.push 1 (faultC c' p' x')).cellsAt 3 (.mk ⟨AHeap.none.next, 0, 0⟩ (faultC c' p' x').length) = some (faultC c' p' x') := rfl
    simp only [Option.bind_some, agg_agg, hc, same_self, SameFault_run, bool_bool]

end Go.Proofs.YtdkckkhghghhdaaDoor
