/-
  skolemref20.Read; SameSteps.
-/
import Derived.Test.YtdkckkhghghhdaaDoorRd1
import Derived.Test.YtdkckkhghghhdaaDoorWd2
import Derived.Test.YtdkckkhghghhdaaDoorWd5
namespace Go.Proofs.YtdkckkhghghhdaaDoor
open Go.RowKit

theorem rIs_run (fuel d : Nat) (l n : Int) (h : AHeap) : run fuel (d + 1) F_skolemref1_Is [.int .i64 l, .int .i64 n] h = some (.bool (isI l n), h) := by
  refine pure_of rfl rfl (cc2 rfl rfl) (r := .bool (isI l n)) (h' := AHeap.none) ?_ rfl
  rw [e_skolemref1_Is]
  unfold isI
  cases decide (l = 0) <;> cases decide (l ≤ n) <;> cases decide (IntKind.wrap .i64 (0 - n) ≤ l) <;> rfl
theorem rlit_cond (n : Int) (b : Bool) (fuel d : Nat) (h : AHeap) :
    ((bif ((!b) == false) then (((bif ((!decide (n = (0 : Int))) == true) then ((run fuel (d + 1) F_skolemref1_Is [(.int .i64 n), (.int .i64 (4000 : Int))] h).bind fun r19 => (AVal.bool? r19.1).bind fun b20 => some ((AVal.bool (!b20)), r19.2)) else (some ((.bool false), h)) : Option (AVal × AHeap))).bind fun r21 =>
    (AVal.bool? r21.1).bind fun b22 => some ((AVal.bool b22), r21.2)) else (some ((.bool true), h)) : Option (AVal × AHeap))) = some (.bool (!b || (!decide (n = 0) && !isI n 4000)), h) := by
  rw [rIs_run]
  cases b <;> cases decide (n = 0) <;> cases isI n 4000 <;> rfl
/-- what the document's reading hands back -/
def rrdA : RdS → AVal
  | .ok l => .tup [.slice (lstS l), .agg (faultC 0 false 0)]
  | .bad p => .tup [.slice (lstS []), .agg (faultC 101 true (p : Int))]
theorem rfault_put {h0 h : AHeap} {B : Nat} {L : List Chunk} {i : Nat} {cs : List AVal} (hs : Sep0 h0 h L) (hi : L[i]? = some (.own 1 B 0 3 cs)) (hcs : cs.length = 3) (c : Int) (p : Bool) (x : Int) :
    ∃ h', h.storeAt (faultC c p x) (.mk ⟨B, 0, 0⟩ 3) = some h' ∧ h'.cellsAt 3 (.mk ⟨B, 0, 0⟩ 3) = some (faultC c p x) ∧ Sep0 h0 h' (L.set i (.own 1 B 0 3 (faultC c p x))) := by
  obtain ⟨h', e1, s1⟩ := hs.put (o := 0) (l := 3) (vs := faultC c p x) hi (by simp [faultC]) (by simp [faultC, hcs])
  have e : cs.take 0 ++ faultC c p x ++ cs.drop (0 + (faultC c p x).length) = faultC c p x := by
    rw [List.take_zero, List.nil_append, List.drop_eq_nil_of_le (by simp [faultC, hcs]), List.append_nil]
  rw [e] at s1
  have hlt := (List.getElem?_eq_some_iff.1 hi).1
  have ho : Own h' 1 B 0 3 (faultC c p x) := s1.sep.own (i := i) (by rw [List.getElem?_set_self hlt])
  exact ⟨h', e1, ho.parts (by omega) (by simp [faultC]), s1⟩

/-- the inner loop's end: what is amiss is told -/
theorem rread_bad (fuel d : Nat) {x0 x4 x5 : AVal} {x6 x7 x8 : AVal} {B : Nat} {c p : Int} {n : Nat} {L : List Chunk} {h0 h : AHeap} (hs : Sep0 h0 h L) {cs : List AVal} {i : Nat} (hi : L[i]? = some (.own 1 B 0 3 cs)) (hcs : cs.length = 3) (hc : c ≠ 0) :
    ∃ h', (((run fuel (d + 1) F_skolemref_Placed [(.int .i64 c), (.int .i64 p)] h).bind fun r1 => (AVal.agg? r1.1).bind fun c2 =>
      (bif (!false && Nat.beq (List.length c2) 3 && List.all c2 AVal.isCell) then ((AHeap.storeAt r1.2 c2 (.mk ⟨B, 0, 0⟩ 3)).bind fun h3 =>
      some (AExit.ret, [(0, x0), (2, (AVal.slice Sl.nil)), (3, (.ptr (.mk ⟨B, 0, 0⟩ 3))), (4, x4), (5, x5), (6, x6), (7, x7), (8, x8)], h3)) else (none))).bind (fun p => k_skolemref20_Read_1 fuel (d + 1) n p.1 p.2.1 p.2.2)).bind (fun p => k_skolemref20_Read_0 fuel (d + 1) p.1 p.2.1 p.2.2) = some (.tup [.slice .nil, .agg (faultC c true p)], h') := by
  rw [Placed_run fuel d hc, Option.bind_some, agg_agg, Option.bind_some, cond_pos _ _ (show (!false && Nat.beq (List.length (faultC c true p)) 3 && List.all (faultC c true p) AVal.isCell) = true from rfl)]
  obtain ⟨h', e1, e2, _⟩ := rfault_put hs hi hcs c true p
  rw [e1]
  simp only [Option.bind_some, k_skolemref20_Read_1_r, k_skolemref20_Read_0_r, e2]
  exact ⟨h', rfl⟩
theorem bad_fr {h : AHeap} (p : Nat) : freezeV h 8 (.tup [.slice .nil, .agg (faultC 101 true (p : Int))]) = some (rrdA (.bad p)) := freeze_tup2 _ rfl (freeze_agg 6 (mm3 rfl rfl rfl))

section
variable {b : List UInt8} {W : List Wd} {B : Nat} {h0 : AHeap}
/-- the outer loop from a word on -/
def OutR (fuel d : Nat) (b : List UInt8) (W : List Wd) (B : Nat) (h0 : AHeap) (m : Nat) : Prop :=
  ∀ (n k : Nat) (steps : List Stp) (all : Nat) (out : Sl) (h : AHeap), 2 * (W.length - k) + 1 ≤ m → W.length < n + k → k ≤ W.length → steps.length ≤ k → all ≤ k →
    Sep0 h0 h [.own 1 B 0 3 [.int .i64 0, .bool false, .int .i64 0], .grown 2 out (stepsC steps)] →
    ∃ v h', (l_skolemref20_Read_0 fuel (d + 2) n [(0, .slice (lstU b)), (3, .ptr (.mk ⟨B, 0, 0⟩ 3)), (4, .slice (lstW W)), (5, .slice out), (6, .int .i64 (all : Int)), (7, .int .i64 (k : Int))] h).bind (fun p => k_skolemref20_Read_0 fuel (d + 2) p.1 p.2.1 p.2.2) = some (v, h') ∧
      freezeV h' 8 v = some (rrdA (readT b.length (W.drop k) steps (false, []) false))
def InR (fuel d : Nat) (b : List UInt8) (W : List Wd) (B : Nat) (h0 : AHeap) (m : Nat) : Prop :=
  ∀ (n n' k : Nat) (steps : List Stp) (now : Stp) (all : Nat) (s out : Sl) (A : Nat) (g : Bool) (h : AHeap), 2 * (W.length - k) ≤ m → W.length < n + k + 1 → W.length < n' + k → k ≤ W.length → steps.length ≤ k → now.2.length ≤ k → all ≤ k → (g = false → k < W.length ∧ (W.getD k ⟨[], 0, false⟩).text ≠ [100]) →
    Sep0 h0 h [.own 1 B 0 3 [.int .i64 0, .bool false, .int .i64 0], .grown 2 out (stepsC steps), .own 1 A 0 2 [.bool now.1, .slice s], .grown 1 s (intsC now.2)] →
    ∃ v h', ((l_skolemref20_Read_1 fuel (d + 2) n' [(0, .slice (lstU b)), (3, .ptr (.mk ⟨B, 0, 0⟩ 3)), (4, .slice (lstW W)), (5, .slice out), (6, .int .i64 (all : Int)), (7, .int .i64 (k : Int)), (8, .ptr (.mk ⟨A, 0, 0⟩ 2))] h).bind (fun p => k_skolemref20_Read_1 fuel (d + 2) n p.1 p.2.1 p.2.2)).bind (fun p => k_skolemref20_Read_0 fuel (d + 2) p.1 p.2.1 p.2.2) = some (v, h') ∧
      freezeV h' 8 v = some (rrdA (readT b.length (W.drop k) steps now g))

theorem drop_W {k : Nat} (hk : k < W.length) : W.drop k = W.getD k ⟨[], 0, false⟩ :: W.drop (k + 1) := by rw [List.drop_eq_getElem_cons hk]; simp [List.getD, hk]
theorem fld_w (w : Wd) (h : AHeap) : Pt.field 0 (.fp 0 (wdC w)) = some (.fp 0 (wdC w)) ∧ AHeap.cell h (.fp 0 (wdC w)) = some (.str (tx w.text)) ∧ Pt.field 1 (.fp 0 (wdC w)) = some (.fp 0 [.int .i64 (w.pos : Int), .bool w.first]) := ⟨rfl, rfl, rfl⟩

theorem in_end (fuel d : Nat) (n n' k : Nat) (steps : List Stp) (now : Stp) (all : Nat) (s out : Sl) (A : Nat) (g : Bool) (h : AHeap) (hkk : k = W.length) (h3 : W.length < n' + k) (h8 : g = false → k < W.length ∧ (W.getD k ⟨[], 0, false⟩).text ≠ [100])
    (hs : Sep0 h0 h [.own 1 B 0 3 [.int .i64 0, .bool false, .int .i64 0], .grown 2 out (stepsC steps), .own 1 A 0 2 [.bool now.1, .slice s], .grown 1 s (intsC now.2)]) :
    ∃ v h', ((l_skolemref20_Read_1 fuel (d + 2) n' [(0, .slice (lstU b)), (3, .ptr (.mk ⟨B, 0, 0⟩ 3)), (4, .slice (lstW W)), (5, .slice out), (6, .int .i64 (all : Int)), (7, .int .i64 (k : Int)), (8, .ptr (.mk ⟨A, 0, 0⟩ 2))] h).bind (fun p => k_skolemref20_Read_1 fuel (d + 2) n p.1 p.2.1 p.2.2)).bind (fun p => k_skolemref20_Read_0 fuel (d + 2) p.1 p.2.1 p.2.2) = some (v, h') ∧
      freezeV h' 8 v = some (rrdA (readT b.length (W.drop k) steps now g)) := by
  have hgt : g = true := by
    cases g with
    | true => rfl
    | false => have := (h8 rfl).1; omega
  subst hgt
  obtain ⟨n', rfl⟩ : ∃ q, n' = q + 1 := ⟨n' - 1, by omega⟩
  rw [l_skolemref20_Read_1_eq, len_lst, len_lst, bif_pos (by omega), hkk, List.drop_length]
  unfold readT
  obtain ⟨h', e⟩ := rread_bad fuel (d + 1) (n := n) (c := 101) (p := (b.length : Int)) hs (i := 0) rfl rfl (by omega)
  exact ⟨_, h', e, bad_fr b.length⟩
theorem in_step (fuel d : Nat) (hf : 20 < fuel) (hW : W.length < 300000) (m : Nat) (ihO : OutR fuel d b W B h0 m) (ihI : InR fuel d b W B h0 m) : InR fuel d b W B h0 (m + 1) := by
  intro n n' k steps now all s out A g h h1 h2 h3 h4 h5 h6 h7 h8 hs
  have l1 := hs.len (i := 3) rfl
  have l2 := hs.len (i := 1) rfl
  rw [stepsC_len] at l2
  simp only [List.length_map, Nat.mul_one] at l1
  by_cases hke : k = W.length
  · exact in_end fuel d n n' k steps now all s out A g h hke h3 h8 hs
  obtain ⟨n', rfl⟩ : ∃ q, n' = q + 1 := ⟨n' - 1, by omega⟩
  rw [l_skolemref20_Read_1_eq, len_lst, len_lst]
  by_cases hk : k < W.length
  · rw [bif_neg (by omega), addr_lstN (sz := 3) (f := wdC) wdC_len (l := W) (j := (k : Int)) (by omega) (by omega) ⟨[], 0, false⟩]
    rw [drop_W hk, Int.toNat_natCast]
    have h9 : g = false → (W.getD k ⟨[], 0, false⟩).text ≠ [100] := fun e => (h8 e).2
    generalize hw : W.getD k ⟨[], 0, false⟩ = w at h9
    obtain ⟨f0, c0, f1⟩ := fld_w w h
    simp only [Option.bind_some, f0, c0, f1, str_str]
    rw [rNum_run fuel (d + 1) hf]
    simp only [Option.bind_some, isTup_tup, List.length_cons, List.length_nil, Nat.beq, cond_true, comp_tup, List.getElem?_cons_zero, List.getElem?_cons_succ, int_int, bool_bool]
    rw [rlit_cond]
    simp only [Option.bind_some, bool_bool]
    rw [show (!okNum w.text || (!decide (numW w.text = 0) && !isI (numW w.text) 4000)) = noLit w.text from rfl]
    unfold readT
    have hg : (!g && w.text == [100]) = false := by
      cases g with
      | true => rfl
      | false => simpa using h9 rfl
    rw [hg]
    simp only [Bool.false_eq_true, if_false]
    cases hn : noLit w.text with
    | true =>
      simp only [cond_true, if_true]
      rw [addr_lstN (sz := 3) (f := wdC) wdC_len (l := W) (j := (k : Int)) (by omega) (by omega) ⟨[], 0, false⟩, Int.toNat_natCast, hw]
      simp only [f1, cell_fp, Option.bind_some, int_int]
      obtain ⟨h', e⟩ := rread_bad fuel (d + 1) (n := n) (c := 101) (p := (w.pos : Int)) hs (i := 0) rfl rfl (by omega)
      exact ⟨_, h', e, bad_fr w.pos⟩
    | false =>
      simp only [cond_false, Bool.false_eq_true, if_false]
      by_cases hz : numW w.text = 0
      · rw [bif_pos hz, if_pos hz]
        simp only [Option.bind_some, k_skolemref20_Read_1_x2]
        have hcA : h.cellsAt 2 (.mk ⟨A, 0, 0⟩ 2) = some [.bool now.1, .slice s] := (hs.sep.own (i := 2) rfl).parts (by omega) (by simp)
        rw [hcA, Option.bind_some, cond_pos _ _ (show (Nat.beq (List.length [AVal.bool now.1, AVal.slice s]) 2 && Nat.ble (0 + 2) (List.length [(AVal.bool false), (AVal.slice Sl.nil)]) && List.all [AVal.bool now.1, AVal.slice s] AVal.isCell) = true from rfl), show AHeap.overlay [AVal.bool false, AVal.slice Sl.nil] 0 [AVal.bool now.1, AVal.slice s] = [AVal.bool now.1, AVal.slice s] from rfl, Option.bind_some, show AHeap.sliceCells h 2 (Sl.lst 1 true [AVal.bool now.1, AVal.slice s]) = some [AVal.bool now.1, AVal.slice s] from rfl, Option.bind_some]
        obtain ⟨h5', f1, s5⟩ := hs.fix (i := 3) (sz := 1) (s := s) (cs := intsC now.2) rfl (closedL_map (fun _ => rfl) now.2) 1
        have f2 : h.fixL [.bool now.1, .slice s] = (stepC now, h5') := by
          rw [fixL_cons, fixV_bool, fixL_one, f1, ← l1]; rfl
        rw [f2]
        obtain ⟨out', h6', g1, s6, g3⟩ := s5.grow (i := 1) (sz := 2) (s := out) (cs := stepsC steps) (bytes := 32) (m := 1) (vs := stepC now) rfl rfl (by omega) (by omega)
        rw [len_lst, g1, Option.bind_some, sucU (by omega)]
        refine ihO n (k + 1) (steps ++ [now]) all out' h6' (by omega) (by omega) (by omega) (by simp; omega) (by omega) ?_
        rw [stepsC_append, show stepsC [now] = stepC now from by simp]
        exact Sep0.init (L := [_, _]) (Sep0.init (L := [_, _, _]) s6)
      · rw [bif_neg hz, if_neg hz, sucU (m := all) (by omega), bif_neg (by omega)]
        have cA : h.cell (.mk ⟨A, 0, 0 + 1⟩ 2) = some (.slice s) := hs.part (i := 2) rfl (by omega) rfl
        simp only [field_mk, Option.bind_some, cA, slice_slice]
        obtain ⟨s', h5', g1, s5, g3⟩ := hs.grow (i := 3) (bytes := 8) (m := 1) (vs := [.int .i64 (numW w.text)]) rfl rfl (by omega) (by omega)
        rw [g1]
        simp only [Option.bind_some]
        obtain ⟨h6', e6, s6⟩ := s5.put (i := 2) (sz := 1) (id := A) (gen := 0) (n := 2) (cs := [.bool now.1, .slice s]) (o := 0 + 1) (l := 2) (vs := [.slice s']) rfl (by simp) (by simp)
        rw [e6, Option.bind_some, sucU (by omega)]
        refine ihI n n' (k + 1) steps (now.1, now.2 ++ [numW w.text]) (all + 1) s' out A true h6' (by omega) (by omega) (by omega) (by omega) (by omega) (by simp; omega) (by omega) (fun e => by cases e) ?_
        rw [intsC_app]
        exact s6
  · omega

theorem out_step (fuel d : Nat) (hf : 20 < fuel) (hW : W.length < 300000) (hWf : W.length < fuel) (m : Nat) (ihI : InR fuel d b W B h0 m) : OutR fuel d b W B h0 (m + 1) := by
  intro n k steps all out h h1 h2 h3 h4 h5 hs
  have l2 := hs.len (i := 1) rfl
  rw [stepsC_len] at l2
  obtain ⟨n, rfl⟩ : ∃ q, n = q + 1 := ⟨n - 1, by omega⟩
  rw [l_skolemref20_Read_0_eq, len_lst]
  by_cases hk : k < W.length
  · rw [bif_pos (by omega), addr_lstN (sz := 3) (f := wdC) wdC_len (l := W) (j := (k : Int)) (by omega) (by omega) ⟨[], 0, false⟩, Int.toNat_natCast]
    have s1 := (hs.push 1 2 (cs := [(AVal.bool false), (.slice Sl.nil)]) rfl).addNil 1
    have hdW := drop_W hk
    have hall := ihI n fuel k steps (false, []) all .nil out h.next false
    have hall2 := ihI n fuel (k + 1) steps (true, []) all .nil out h.next true
    generalize W.getD k ⟨[], 0, false⟩ = w at hdW hall
    obtain ⟨f0, c0, f1⟩ := fld_w w (AHeap.push h 1 [(.bool false), (.slice Sl.nil)])
    simp only [Option.bind_some, f0, c0, str_str]
    rw [d_text]
    cases hd : (w.text == [100]) with
    | true =>
      simp only [cond_true, field_mk, Option.bind_some]
      obtain ⟨h4', e4, s4⟩ := s1.put (i := 2) (sz := 1) (id := h.next) (gen := 0) (n := 2) (cs := [.bool false, .slice .nil]) (o := 0 + 0) (l := 2) (vs := [.bool true]) rfl (by simp) (by simp)
      rw [e4, Option.bind_some, sucU (by omega)]
      obtain ⟨v, h', q1, q2⟩ := hall2 h4' (by omega) (by omega) (by omega) (by omega) (by omega) (by simp) (by omega) (fun e => by cases e) s4
      refine ⟨v, h', q1, ?_⟩
      rw [q2, hdW]
      conv => rhs; unfold readT
      simp [hd]
    | false =>
      simp only [cond_false]
      obtain ⟨v, h', q1, q2⟩ := hall _ (by omega) (by omega) (by omega) (by omega) (by omega) (by simp) (by omega) (fun _ => ⟨hk, fun e => by rw [e] at hd; simp at hd⟩) s1
      exact ⟨v, h', q1, q2⟩
  · have : k = W.length := by omega
    subst this
    rw [bif_neg (by omega), List.drop_length, Option.bind_some, k_skolemref20_Read_0_x0, None_run fuel (d + 1), Option.bind_some, agg_agg, Option.bind_some, cond_pos _ _ (show (!false && Nat.beq (List.length (faultC 0 false 0)) 3 && List.all (faultC 0 false 0) AVal.isCell) = true from rfl)]
    obtain ⟨h', e1, e2, s3⟩ := rfault_put hs (i := 0) rfl rfl 0 false 0
    rw [e1, Option.bind_some, e2]
    refine ⟨_, _, rfl, ?_⟩
    unfold readT
    rw [if_neg (by simp)]
    refine freeze_tup2 _ ?_ (freeze_agg 6 (mm3 rfl rfl rfl))
    rw [(s3.sep.grown (i := 1) rfl).freeze (n := 6) (by omega) (freeze_stepsC 4 _), show out.len = steps.length by omega]
theorem rread_all (fuel d : Nat) (hf : 20 < fuel) (hW : W.length < 300000) (hWf : W.length < fuel) : ∀ m, OutR fuel d b W B h0 m ∧ InR fuel d b W B h0 m
  | 0 => by
    have hI : InR fuel d b W B h0 0 := fun n n' k steps now all s out A g h h1 h2 h3 h4 h5 h6 h7 h8 hs => in_end fuel d n n' k steps now all s out A g h (by omega) h3 h8 hs
    exact ⟨fun n k steps all out h h1 => by omega, hI⟩
  | m + 1 => by
    obtain ⟨i1, i2⟩ := rread_all fuel d hf hW hWf m
    exact ⟨out_step fuel d hf hW hWf m i2, in_step fuel d hf hW m i1 i2⟩
end
theorem rread_run (fuel d : Nat) {b : List UInt8} (hf : b.length + 21 ≤ fuel) (hb : b.length < 200000) (h : AHeap) : run fuel (d + 3) F_skolemref20_Read [.slice (lstU b)] h = some (rrdA (readA b), h) := by
  have hl := splitOf_len b true
  have s0 := ((Sep0.start AHeap.none).push 1 3 (cs := [(AVal.int .i64 (0 : Int)), (.bool false), (.int .i64 (0 : Int))]) rfl).addNil 2
  obtain ⟨v, h', e1, e2⟩ := (rread_all fuel d (b := b) (W := splitOf b true) (B := AHeap.none.next) (h0 := AHeap.none) (by omega) (by omega) (by omega) (2 * (splitOf b true).length + 1)).1 fuel 0 [] 0 .nil (AHeap.none.push 1 [(AVal.int .i64 (0 : Int)), (.bool false), (.int .i64 (0 : Int))]) (by omega) (by omega) (by omega) (by simp) (by omega) s0
  rw [List.drop_zero] at e2
  refine pure_of rfl rfl (cc1 (canon_lstU 7 b)) (r := v) (h' := h') ?_ e2
  rw [e_skolemref20_Read, len_lst, bif_neg (by omega), rsplit_run fuel d (by omega) (by omega), Option.bind_some, slice_slice, Option.bind_some]
  exact e1
end Go.Proofs.YtdkckkhghghhdaaDoor
