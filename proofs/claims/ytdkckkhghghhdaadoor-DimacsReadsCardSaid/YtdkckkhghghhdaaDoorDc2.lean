/-
  skolemref1.text, at, plain, Clauses.
-/
import Derived.Test.YtdkckkhghghhdaaDoorDc0
import Derived.Test.YtdkckkhghghhdaaDoorSepW
import Derived.Test.YtdkckkhghghhdaaDoorSee
import Derived.Test.YtdkckkhghghhdaaDoorWd5
namespace Go.Proofs.YtdkckkhghghhdaaDoor
open Go.RowKit

theorem isr_run (fuel d : Nat) (l n : Int) (h : AHeap) : run fuel (d + 1) F_skolemref1_Is [.int .i64 l, .int .i64 n] h = some (.bool (isI l n), h) := by
  refine pure_of rfl rfl (cc2 rfl rfl) (r := .bool (isI l n)) (h' := AHeap.none) ?_ rfl
  rw [e_skolemref1_Is]
  unfold isI
  cases decide (l = 0) <;> cases decide (l ≤ n) <;> cases decide (IntKind.wrap .i64 (0 - n) ≤ l) <;> rfl
theorem fault_put {h0 h : AHeap} {B : Nat} {L : List Chunk} {i : Nat} {cs : List AVal} (hs : Sep0 h0 h L) (hi : L[i]? = some (.own 1 B 0 3 cs)) (hcs : cs.length = 3) (c : Int) (p : Bool) (x : Int) :
    ∃ h', h.storeAt (faultC c p x) (.mk ⟨B, 0, 0⟩ 3) = some h' ∧ h'.cellsAt 3 (.mk ⟨B, 0, 0⟩ 3) = some (faultC c p x) ∧ Sep0 h0 h' (L.set i (.own 1 B 0 3 (faultC c p x))) := by
  obtain ⟨h', e1, s1⟩ := hs.put (o := 0) (l := 3) (vs := faultC c p x) hi (by simp [faultC]) (by simp [faultC, hcs])
  have e : cs.take 0 ++ faultC c p x ++ cs.drop (0 + (faultC c p x).length) = faultC c p x := by
    rw [List.take_zero, List.nil_append, List.drop_eq_nil_of_le (by simp [faultC, hcs]), List.append_nil]
  rw [e] at s1
  have hlt := (List.getElem?_eq_some_iff.1 hi).1
  have ho : Own h' 1 B 0 3 (faultC c p x) := s1.sep.own (i := i) (by rw [List.getElem?_set_self hlt])
  exact ⟨h', e1, ho.parts (by omega) (by simp [faultC]), s1⟩
theorem okF (c : Int) (p : Bool) (x : Int) : (!false && Nat.beq (List.length (faultC c p x)) 3 && List.all (faultC c p x) AVal.isCell) = true := rfl
/-- where a word stands, or the end -/
def atI (W : List Wd) (k : Nat) (e : Int) : Int := if k < W.length then ((W.getD k ⟨[], 0, false⟩).pos : Int) else e
theorem rat_run (fuel d : Nat) {W : List Wd} (hW : W.length < 1000000) (k : Nat) (e : Int) (h : AHeap) : run fuel (d + 1) F_skolemref1_at [.slice (lstW W), .int .i64 (k : Int), .int .i64 e] h = some (.int .i64 (atI W k e), h) := by
  refine pure_of rfl rfl (cc3 (canon_lst (closedL_flatMap closed_wdC W)) rfl rfl) (r := .int .i64 (atI W k e)) (h' := AHeap.none) ?_ rfl
  rw [e_skolemref1_at, len_lst]
  unfold atI
  by_cases hk : k < W.length
  · rw [bif_pos (by omega), if_pos hk, addr_lstN (sz := 3) (f := wdC) wdC_len (l := W) (j := (k : Int)) (by omega) (by omega) ⟨[], 0, false⟩, Int.toNat_natCast]
    generalize W.getD k ⟨[], 0, false⟩ = w
    rw [Option.bind_some, show Pt.field 1 (.fp 0 (wdC w)) = some (.fp 0 [.int .i64 (w.pos : Int), .bool w.first]) from rfl]
    simp only [Option.bind_some, cell_fp, int_int]
  · rw [bif_neg (by omega), if_neg hk]
theorem text_run (fuel d : Nat) {W : List Wd} (hW : W.length < 1000000) (k : Nat) (e : Int) (h : AHeap) : run fuel (d + 2) F_skolemref1_text [.slice (lstW W), .int .i64 (k : Int), .int .i64 e] h = some (.agg (faultC 101 true (atI W k e)), h) := by
  have s0 := (Sep0.start AHeap.none).push 1 3 (cs := [(AVal.int .i64 (0 : Int)), (.bool false), (.int .i64 (0 : Int))]) rfl
  obtain ⟨h', e1, e2, _⟩ := fault_put s0 (i := 0) rfl rfl 101 true (atI W k e)
  refine pure_of rfl rfl (cc3 (canon_lst (closedL_flatMap closed_wdC W)) rfl rfl) (r := .agg (faultC 101 true (atI W k e))) (h' := h') ?_ (freeze_fault 101 true _)
  rw [e_skolemref1_text, rat_run fuel d hW]
  simp only [Option.bind_some, int_int]
  rw [Placed_run fuel d (show (101 : Int) ≠ 0 by omega)]
  simp only [Option.bind_some, agg_agg]
  rw [cond_pos _ _ (okF 101 true _), e1, Option.bind_some, e2]
  rfl
theorem rcl_cond (n vars : Int) (b : Bool) (fuel d : Nat) (h : AHeap) :
    ((bif ((!b) == false) then (((bif ((!decide (n = (0 : Int))) == true) then ((run fuel (d + 1) F_skolemref1_Is [(.int .i64 n), (.int .i64 vars)] h).bind fun r13 => (AVal.bool? r13.1).bind fun b14 => some ((AVal.bool (!b14)), r13.2)) else (some ((.bool false), h)) : Option (AVal × AHeap))).bind fun r15 =>
    (AVal.bool? r15.1).bind fun b16 => some ((AVal.bool b16), r15.2)) else (some ((.bool true), h)) : Option (AVal × AHeap))) = some (.bool (!b || (!decide (n = 0) && !isI n vars)), h) := by
  rw [isr_run]
  cases b <;> cases decide (n = 0) <;> cases isI n vars <;> rfl
/-- what it hands back -/
def rclA : ClR → AVal
  | .ok l => .tup [.slice (lstLL l), .agg (faultC 0 false 0)]
  | .bad p => .tup [.slice (lstLL []), .agg (faultC 101 true p)]
theorem fr_agg {h : AHeap} (c : Int) (p : Bool) (x : Int) (n : Nat) : freezeV h (n + 2) (.agg (faultC c p x)) = some (.agg (faultC c p x)) := freeze_agg (n + 1) (mm3 rfl rfl rfl)
theorem rcl_loop (fuel d : Nat) {e vars many : Int} {W : List Wd} {B : Nat} (hf : 20 < fuel) (hW : W.length < 70000) {h0 : AHeap} : ∀ (n k : Nat) (cc : List (List Int)) (c : List Int) (all : Nat) (o s : Sl) (h : AHeap), W.length < n + k → k ≤ W.length → cc.length ≤ k → c.length ≤ k → all ≤ k → (many ≤ (cc.length : Int) → c = []) →
    Sep0 h0 h [.own 1 B 0 3 [.int .i64 0, .bool false, .int .i64 0], .grown 1 o (gridC cc), .grown 1 s (intsC c)] →
    ∃ v h', (l_skolemref1_Clauses_0 fuel (d + 2) n [(0, .slice (lstW W)), (1, .int .i64 e), (2, .int .i64 vars), (3, .int .i64 many), (9, .ptr (.mk ⟨B, 0, 0⟩ 3)), (10, .slice o), (11, .slice s), (12, .int .i64 (all : Int)), (13, .int .i64 (k : Int))] h).bind (fun p => k_skolemref1_Clauses_0 fuel (d + 2) p.1 p.2.1 p.2.2) = some (v, h') ∧
      freezeV h' 8 v = some (rclA (clT e vars many (W.drop k) cc c)) := by
  intro n
  induction n with
  | zero => intro k cc c all o s h h1 h2; omega
  | succ n ih =>
    intro k cc c all o s h h1 h2 h3 h4 h5 h6 hs
    have l1 := hs.len (i := 1) rfl
    have l2 := hs.len (i := 2) rfl
    simp only [List.length_map, Nat.mul_one] at l1 l2
    rw [l_skolemref1_Clauses_0_eq, len_lst, ← l1]
    by_cases hm : (cc.length : Int) < many
    · rw [bif_pos hm]
      by_cases hk : k < W.length
      · rw [bif_neg (by omega), addr_lstN (sz := 3) (f := wdC) wdC_len (l := W) (j := (k : Int)) (by omega) (by omega) ⟨[], 0, false⟩]
        have hd : W.drop k = W.getD k ⟨[], 0, false⟩ :: W.drop (k + 1) := by rw [List.drop_eq_getElem_cons hk]; simp [List.getD, hk]
        have hat : atI W k e = ((W.getD k ⟨[], 0, false⟩).pos : Int) := by unfold atI; rw [if_pos hk]
        rw [hd, Int.toNat_natCast]
        generalize W.getD k ⟨[], 0, false⟩ = w at hat
        have f0 : Pt.field 0 (.fp 0 (wdC w)) = some (.fp 0 (wdC w)) := rfl
        have c0 : AHeap.cell h (.fp 0 (wdC w)) = some (.str (tx w.text)) := rfl
        simp only [Option.bind_some, f0, c0, str_str]
        rw [rNum_run fuel (d + 1) hf]
        simp only [Option.bind_some, isTup_tup, List.length_cons, List.length_nil, Nat.beq, cond_true, comp_tup, List.getElem?_cons_zero, List.getElem?_cons_succ, int_int, bool_bool]
        rw [rcl_cond]
        simp only [Option.bind_some, bool_bool]
        rw [show (!okNum w.text || (!decide (numW w.text = 0) && !isI (numW w.text) vars)) = noLitV w.text vars from rfl]
        unfold clT
        cases hn : noLitV w.text vars with
        | true =>
          rw [if_pos (.inr rfl), cond_true, text_run fuel d (by omega), hat]
          simp only [Option.bind_some, agg_agg]
          rw [cond_pos _ _ (okF 101 true _)]
          obtain ⟨h', e1, e2, _⟩ := fault_put hs (i := 0) rfl rfl 101 true (w.pos : Int)
          rw [e1]
          simp only [Option.bind_some, k_skolemref1_Clauses_0_r, e2]
          exact ⟨_, _, rfl, freeze_tup2 _ rfl (fr_agg _ _ _ 5)⟩
        | false =>
          rw [if_neg (by simp; omega), cond_false]
          by_cases hz : numW w.text = 0
          · rw [bif_pos hz, if_pos hz]
            obtain ⟨h5', f1, f2⟩ := hs.fix (i := 2) (sz := 1) (s := s) (cs := intsC c) rfl (closedL_map (fun _ => rfl) c) 1
            have hfx : h.fixL [.slice s] = ([.slice (lstI c)], h5') := by rw [fixL_one, f1, ← l2]
            obtain ⟨o', h6', g1, s6, g3⟩ := f2.grow (i := 1) (sz := 1) (s := o) (cs := gridC cc) (bytes := 24) (m := 1) (vs := [.slice (lstI c)]) rfl rfl (by omega) (by omega)
            rw [hfx, g1, Option.bind_some, sucU (by omega)]
            refine ih (k + 1) (cc ++ [c]) [] all o' .nil h6' (by omega) (by omega) (by simp; omega) (by simp) (by omega) (fun _ => rfl) ?_
            rw [gridC_append]
            exact s6
          · rw [bif_neg hz, if_neg hz, sucU (m := all) (by omega), bif_neg (by omega)]
            obtain ⟨s', h5', g1, s5, g3⟩ := hs.grow (i := 2) (bytes := 8) (m := 1) (vs := [.int .i64 (numW w.text)]) rfl rfl (by omega) (by omega)
            rw [g1]
            simp only [Option.bind_some]
            rw [sucU (by omega)]
            refine ih (k + 1) cc (c ++ [numW w.text]) (all + 1) o s' h5' (by omega) (by omega) (by omega) (by simp; omega) (by omega) (fun h9 => by omega) ?_
            rw [intsC_app]
            exact s5
      · have : k = W.length := by omega
        subst this
        have hat : atI W W.length e = e := by unfold atI; rw [if_neg (by omega)]
        rw [bif_pos (by omega), text_run fuel d (by omega), hat, List.drop_length]
        simp only [Option.bind_some, agg_agg]
        rw [cond_pos _ _ (okF 101 true _)]
        obtain ⟨h', e1, e2, _⟩ := fault_put hs (i := 0) rfl rfl 101 true e
        rw [e1]
        simp only [Option.bind_some, k_skolemref1_Clauses_0_r, e2]
        unfold clT
        rw [if_pos (.inl hm)]
        exact ⟨_, _, rfl, freeze_tup2 _ rfl (fr_agg _ _ _ 5)⟩
    · obtain rfl := h6 (by omega)
      rw [bif_neg hm, Option.bind_some, k_skolemref1_Clauses_0_x0, len_lst]
      by_cases hk : k < W.length
      · have hd : W.drop k = W.getD k ⟨[], 0, false⟩ :: W.drop (k + 1) := by rw [List.drop_eq_getElem_cons hk]; simp [List.getD, hk]
        have hat : atI W k e = ((W.getD k ⟨[], 0, false⟩).pos : Int) := by unfold atI; rw [if_pos hk]
        rw [bif_pos (by omega), text_run fuel d (by omega), hat, hd]
        simp only [Option.bind_some, agg_agg]
        rw [cond_pos _ _ (okF 101 true _)]
        obtain ⟨h', e1, e2, _⟩ := fault_put hs (i := 0) rfl rfl 101 true ((W.getD k ⟨[], 0, false⟩).pos : Int)
        rw [e1]
        simp only [Option.bind_some, e2]
        unfold clT
        rw [if_pos (.inl (by omega))]
        exact ⟨_, _, rfl, freeze_tup2 _ rfl (fr_agg _ _ _ 5)⟩
      · have : k = W.length := by omega
        subst this
        rw [bif_neg (by omega), None_run fuel (d + 1), List.drop_length]
        simp only [Option.bind_some, agg_agg]
        rw [cond_pos _ _ (okF 0 false 0)]
        obtain ⟨h', e1, e2, s3⟩ := fault_put hs (i := 0) rfl rfl 0 false 0
        rw [e1]
        simp only [Option.bind_some, e2]
        unfold clT
        rw [if_neg (by simp; omega)]
        refine ⟨_, _, rfl, freeze_tup2 _ ?_ (fr_agg _ _ _ 5)⟩
        rw [(s3.sep.grown (i := 1) rfl).freeze (n := 6) (by omega) (freeze_gridC 5 _), ← l1]
theorem rcl_run (fuel d : Nat) {e vars many : Int} {W : List Wd} (hf : W.length + 21 ≤ fuel) (hW : W.length < 70000) (h : AHeap) : run fuel (d + 3) F_skolemref1_Clauses [.slice (lstW W), .int .i64 e, .int .i64 vars, .int .i64 many] h = some (rclA (clT e vars many W [] []), h) := by
  obtain ⟨v, h', e1, e2⟩ := rcl_loop fuel d (e := e) (vars := vars) (many := many) (W := W) (B := AHeap.none.next) (by omega) hW fuel 0 [] [] 0 .nil .nil _ (by omega) (by omega) (by simp) (by simp) (by omega) (fun _ => rfl) ((((Sep0.start AHeap.none).push 1 3 (cs := [(AVal.int .i64 (0 : Int)), (.bool false), (.int .i64 (0 : Int))]) rfl).addNil 1).addNil 1)
  rw [List.drop_zero] at e2
  refine pure_of rfl rfl (cc4 (canon_lst (closedL_flatMap closed_wdC W)) rfl rfl rfl) (r := v) (h' := h') ?_ e2
  rw [e_skolemref1_Clauses]
  exact e1
end Go.Proofs.YtdkckkhghghhdaaDoor
