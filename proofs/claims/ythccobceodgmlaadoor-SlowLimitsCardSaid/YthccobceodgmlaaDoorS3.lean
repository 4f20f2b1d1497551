/-
  Values of a number's bits; slices.Concat of slices of numbers; maps from numbers to numbers.
-/
import Derived.Test.YthccobceodgmlaaDoorS2
namespace Go.Proofs.YthccobceodgmlaaDoor
open Go.RowKit

theorem wrapu64 {n : Int} (h0 : 0 ≤ n) (h1 : n ≤ 18446744073709551615) : IntKind.wrap .u64 n = n := by
  rw [IntKind.wrap_u64]; omega

def bitI (x : Int) (i : Nat) : Bool := decide (bitsOp .and .i64 (Int.fdiv x (2 ^ min (Int.toNat ((i % 60 : Nat) : Int)) (IntKind.bits .i64))) (1 : Int) = (1 : Int))
def valuesI (x : Int) (many : Nat) : List Bool := (List.range many).map (bitI x)
theorem valuesI_len (x : Int) (many : Nat) : (valuesI x many).length = many := by simp [valuesI]

theorem values_loop (fuel d : Nat) {x : Int} {many : Nat} (hm : many < 1000000) : ∀ (n k : Nat) (s5 : Sl) (h : AHeap), many < n + k → k ≤ many → Grown h 1 s5 (boolsC (valuesI x k)) →
    ∃ s' h', l_skolemmake_Values_0 fuel d n [(0, .int .i64 x), (1, .int .i64 (many : Int)), (5, .slice s5), (6, .int .i64 (k : Int))] h = some (.exit 0, [(5, .slice s')], h') ∧ Grown h' 1 s' (boolsC (valuesI x many)) := by
  intro n
  induction n with
  | zero => intro k s5 h h1 h2; omega
  | succ n ih =>
    intro k s5 h h1 h2 hg
    have hl := hg.len
    simp only [List.length_map, valuesI_len, Nat.mul_one] at hl
    rw [l_skolemmake_Values_0_eq]
    by_cases hk : k < many
    · rw [bif_pos (by omega)]
      have hu : IntKind.wrap .u64 (Int.tmod (k : Int) 60) = ((k % 60 : Nat) : Int) := by
        rw [Int.tmod_eq_emod_of_nonneg (by omega), wrapu64 (by omega) (by omega)]
        omega
      rw [hu, bif_neg (by omega)]
      obtain ⟨s', h', e1, e2, e3⟩ := hg.snoc (bytes := 1) (vs := [.bool (bitI x k)]) rfl (by omega) (by omega)
      have e1' : AHeap.append h false 1 1 s5 1 [.bool (decide (bitsOp .and .i64 (Int.fdiv x (2 ^ min (Int.toNat ((k % 60 : Nat) : Int)) (IntKind.bits .i64))) (1 : Int) = (1 : Int)))] = some (s', h') := e1
      rw [e1']
      simp only [Option.bind_some]
      rw [succI (by omega)]
      refine ih (k + 1) s' h' (by omega) (by omega) ?_
      have : valuesI x (k + 1) = valuesI x k ++ [bitI x k] := by simp [valuesI, List.range_succ]
      rw [this]
      simpa using e2
    · have : k = many := by omega
      subst this
      rw [bif_neg (by omega)]
      exact ⟨s5, h, rfl, hg⟩

theorem Values_run (fuel d : Nat) {x : Int} {many : Nat} (hm : many < 1000000) (hf : many < fuel) (h : AHeap) :
    run fuel (d + 1) F_skolemmake_Values [.int .i64 x, .int .i64 (many : Int)] h = some (.slice (lstB (valuesI x many)), h) := by
  obtain ⟨s', h', e1, e2⟩ := values_loop fuel d (x := x) hm fuel 0 .nil AHeap.none (by omega) (by omega) .nil
  rw [show ((0 : Nat) : Int) = 0 from rfl] at e1
  refine pure_of rfl rfl (cc2 rfl rfl) (r := .slice s') (h' := h') (by rw [e_skolemmake_Values, e1]; simp only [Option.bind_some, k_skolemmake_Values_0_x0]) ?_
  rw [e2.freeze (n := 7) (by omega) (freeze_boolsC 6 _)]
  have := e2.len
  simp only [List.length_map, Nat.mul_one] at this
  rw [← this]

/-! slices.Concat -/
theorem Grow_run (fuel d : Nat) {n : Nat} (hn : n < 1000000000) (h : AHeap) :
    ∃ s' h', run fuel (d + 1) F_slices_Grow_s_int_int [.slice .nil, .int .i64 (n : Int)] h = some (.slice s', h') ∧ Grown h' 1 s' (intsC []) ∧ Keeps h h' (fun _ => False) ∧ s'.len = 0 ∧ (∀ r, s'.row = some r → h.rows.length ≤ r) := by
  rw [e_slices_Grow_s_int_int, bif_neg (by omega)]
  have hc : Sl.capOf .nil = some 0 := rfl
  simp only [Option.bind_some, k_slices_Grow_s_int_int_0_n, hc]
  have hw : IntKind.wrap .i64 ((n : Int) - IntKind.wrap .i64 (((0 : Nat) : Int) - ((Sl.nil.len : Nat) : Int))) = (n : Int) := by
    rw [show IntKind.wrap .i64 (((0 : Nat) : Int) - ((Sl.nil.len : Nat) : Int)) = 0 from rfl, Int.sub_zero, wrap64 (by omega) (by omega)]
  rw [hw]
  by_cases h0 : n = 0
  · subst h0
    exact ⟨.nil, h, rfl, .nil, Keeps.refl _ _, rfl, fun r h => by cases h⟩
  · rw [bif_pos (by omega), aHi_some (by omega) (by simp)]
    simp only [Option.bind_some]
    rw [show (((0 : Nat) : Int)).toNat = 0 from rfl, aLo_none]
    simp only [Option.bind_some, aMx_none]
    rw [cond_pos _ _ (show AHeap.hasSz h 1 .nil = true from rfl), cond_pos]
    · obtain ⟨s2, h2, e1, e2, e3, e4, e5⟩ := (Grown.nil (h := h) (sz := 1)).more (bytes := 8) (m := n) (vs := List.replicate n (.int .i64 0)) (by simp) (by simp [Sl.len]; omega) (by simp [Sl.len]; omega)
      have hap : AHeap.append h false 1 8 (Sl.cut .nil 1 0 0 false) (Int.toNat (n : Int)) (repeatCells [(AVal.int .i64 (0 : Int))] (Int.toNat (n : Int))) = some (s2, h2) := by
        rw [Int.toNat_natCast, repeat_one]; exact e1
      rw [hap]
      simp only [Option.bind_some]
      rw [aHi_some (x := ((Sl.nil.len : Nat) : Int)) (by simp [Sl.len]) (by simp [Sl.len])]
      simp only [Option.bind_some]
      rw [show ((Sl.nil.len : Nat) : Int).toNat = 0 from rfl, aLo_none]
      simp only [Option.bind_some, aMx_none]
      rw [cond_pos _ _ e2.hasSz]
      simp only [Sl.len, Nat.zero_add] at e3
      have hk : Keeps h h2 (fun _ => False) := e4.mono fun i _ e => by cases e
      generalize ([] : List AVal) ++ List.replicate n (AVal.int .i64 0) = cs at e2
      cases e2 with
      | nil => simp [Sl.len] at e3; omega
      | none => simp [Sl.len] at e3; omega
      | room => simp [Sl.len] at e3; omega
      | row h1 hc hn hg hv hr hs =>
        refine ⟨_, _, rfl, ?_, hk, rfl, fun r hr => ?_⟩
        · simpa [Sl.cut] using Grown.room h1 hg hv hr hs
        · rcases e5 with e5 | e5
          · cases e5
          · simp [Sl.cut, Sl.row] at hr e5
            omega
    · simp only [Bool.and_eq_true, decide_eq_true_eq]
      omega

def sumLen : List (List Int) → Nat
  | [] => 0
  | c :: l => c.length + sumLen l
theorem sumLen_drop {cc : List (List Int)} {k : Nat} (h : k < cc.length) : sumLen (cc.drop k) = (cc.getD k []).length + sumLen (cc.drop (k + 1)) := by
  rw [drop_get h []]
  rfl

theorem concat_sum (fuel d : Nat) {x0 : Sl} {cc : List (List Int)} {c : Bool} {h : AHeap} (hcl : cc.length < 1000000000) : ∀ (n k a : Nat), cc.length < n + k → k ≤ cc.length → a + sumLen (cc.drop k) < 1000000000 →
    l_slices_Concat_s_int_int_0 fuel d n [(0, .slice x0), (3, .int .i64 (a : Int)), (9, .slice (.lst cc.length c (cc.map fun c => .slice (lstI c)))), (10, .int .i64 (cc.length : Int)), (11, .int .i64 (k : Int))] h = some (.exit 0, [(0, .slice x0), (3, .int .i64 ((a + sumLen (cc.drop k) : Nat) : Int))], h) := by
  intro n
  induction n with
  | zero => intro k a h1 h2; omega
  | succ n ih =>
    intro k a h1 h2 ha
    rw [l_slices_Concat_s_int_int_0_eq]
    by_cases hk : k < cc.length
    · rw [bif_pos (by omega), addr_lstM _ (by omega) (by omega) []]
      rw [sumLen_drop hk] at ha ⊢
      simp only [cell_fp, Option.bind_some, slice_slice, Int.toNat_natCast]
      have hw : IntKind.wrap .i64 ((a : Int) + (((cc.getD k []).length : Nat) : Int)) = ((a + (cc.getD k []).length : Nat) : Int) := by rw [wrap64 (by omega) (by omega)]; omega
      rw [bif_neg (by rw [len_lst, hw]; omega), len_lst, hw, succI (by omega), ih (k + 1) _ (by omega) (by omega) (by omega), Nat.add_assoc]
    · have : k = cc.length := by omega
      subst this
      rw [bif_neg (by omega), List.drop_length]
      rfl

theorem concat_loop (fuel d : Nat) {cc : List (List Int)} {c : Bool} (hcl : cc.length < 1000000000) : ∀ (n k : Nat) (s6 : Sl) (acc : List Int) (h : AHeap), cc.length < n + k → k ≤ cc.length → acc.length + sumLen (cc.drop k) < 1000000000 → Grown h 1 s6 (intsC acc) →
    ∃ s' h', l_slices_Concat_s_int_int_1 fuel d n [(6, .slice s6), (25, .slice (.lst cc.length c (cc.map fun c => .slice (lstI c)))), (26, .int .i64 (cc.length : Int)), (27, .int .i64 (k : Int))] h = some (.exit 2, [(6, .slice s')], h') ∧ Grown h' 1 s' (intsC (acc ++ (cc.drop k).flatten)) := by
  intro n
  induction n with
  | zero => intro k s6 acc h h1 h2; omega
  | succ n ih =>
    intro k s6 acc h h1 h2 ha hg
    rw [l_slices_Concat_s_int_int_1_eq]
    have h6l := hg.len
    simp only [List.length_map, Nat.mul_one] at h6l
    by_cases hk : k < cc.length
    · rw [bif_pos (by omega), addr_lstM _ (by omega) (by omega) []]
      rw [sumLen_drop hk] at ha
      simp only [cell_fp, Option.bind_some, slice_slice, Int.toNat_natCast, len_lst]
      rw [cells_lstM]
      simp only [Option.bind_some]
      obtain ⟨t, h', e1, e2, e3, _⟩ := hg.more (bytes := 8) (m := (cc.getD k []).length) (vs := intsC (cc.getD k [])) (by simp) (by omega) (by omega)
      rw [e1]
      simp only [Option.bind_some]
      rw [succI (by omega)]
      obtain ⟨t', h'', g1, g2⟩ := ih (k + 1) t (acc ++ cc.getD k []) h' (by omega) (by omega) (by rw [List.length_append]; omega) (by simpa using e2)
      refine ⟨t', h'', g1, ?_⟩
      rw [drop_get hk [], List.flatten_cons, ← List.append_assoc]
      exact g2
    · have : k = cc.length := by omega
      subst this
      rw [bif_neg (by omega), List.drop_length]
      exact ⟨s6, h, rfl, by simpa using hg⟩

theorem Concat_run (fuel d : Nat) {cc : List (List Int)} {c : Bool} (h : AHeap) (hcl : cc.length < 1000000000) (hf : cc.length < fuel) (hs : sumLen cc < 1000000000) :
    run fuel (d + 2) F_slices_Concat_s_int_int [.slice (.lst cc.length c (cc.map fun c => .slice (lstI c)))] h = some (.slice (lstI cc.flatten), h) := by
  have e1 := concat_sum fuel (d + 1) (x0 := .lst cc.length false (cc.map fun c => .slice (lstI c))) (c := false) (h := AHeap.none) hcl fuel 0 0 (by omega) (by omega) (by simpa using hs)
  rw [List.drop_zero, Nat.zero_add] at e1
  obtain ⟨s2, h2, e2, w2, _⟩ := Grow_run fuel d hs AHeap.none
  obtain ⟨s', h', e3, g3⟩ := concat_loop fuel (d + 1) (c := false) hcl fuel 0 s2 [] h2 (by omega) (by omega) (by simpa using hs) w2
  rw [show ((0 : Nat) : Int) = 0 from rfl] at e1 e3
  rw [List.drop_zero, List.nil_append] at g3
  refine pure_of rfl rfl (canonL_cons (canon_lstM closed_lstI _ _ _ cc) canonL_nil) (r := .slice s') (h' := h') ?_ ?_
  · rw [e_slices_Concat_s_int_int, len_lst]
    simp only [e1, Option.bind_some, k_slices_Concat_s_int_int_0_x0, e2, slice_slice, len_lst, e3, k_slices_Concat_s_int_int_1_x2]
  · rw [g3.freeze (n := 7) (by omega) (freeze_intsC 6 _)]
    have := g3.len
    simp only [List.length_map, Nat.mul_one] at this
    rw [← this]

/-! Maps from numbers to numbers. -/
abbrev mapC (l : List (Int × Int)) : List (AVal × AVal) := l.map fun p => (.int .i64 p.1, .int .i64 p.2)
def getA (k : Int) : List (Int × Int) → Option Int
  | [] => none
  | p :: l => if k = p.1 then some p.2 else getA k l
def putA (k v : Int) : List (Int × Int) → List (Int × Int)
  | [] => [(k, v)]
  | p :: l => if k = p.1 then (p.1, v) :: l else p :: putA k v l

theorem mfind_mapC (k : Int) : ∀ l, mfind (.int .i64 k) (mapC l) = some ((getA k l).map (.int .i64))
  | [] => rfl
  | p :: l => by
    have ih := mfind_mapC k l
    simp only [List.map_cons, mfind, AVal.keyEq, decide_true, cond_true, Option.bind_some, getA]
    by_cases h : k = p.1
    · rw [decide_eq_true h, if_pos h]; rfl
    · rw [decide_eq_false h, if_neg h]; exact ih

theorem mset_mapC (k v : Int) : ∀ l, mset (.int .i64 k) (.int .i64 v) (mapC l) = some (mapC (putA k v l))
  | [] => rfl
  | p :: l => by
    have ih := mset_mapC k v l
    simp only [List.map_cons, mset, AVal.keyEq, decide_true, cond_true, Option.bind_some, putA]
    by_cases h : k = p.1
    · rw [decide_eq_true h, if_pos h]; rfl
    · rw [decide_eq_false h, if_neg h]
      simp only [cond_false]
      rw [ih]
      rfl

theorem getA_put (k v j : Int) : ∀ l, getA j (putA k v l) = if j = k then some v else getA j l
  | [] => by simp [putA, getA]
  | p :: l => by
    have ih := getA_put k v j l
    simp only [putA]
    by_cases h : k = p.1
    · rw [if_pos h]
      simp only [getA]
      by_cases h2 : j = p.1
      · rw [if_pos h2, if_pos (by rw [h]; exact h2)]
      · rw [if_neg h2, if_neg (by rw [h]; exact h2), if_neg h2]
    · rw [if_neg h]
      simp only [getA]
      by_cases h2 : j = p.1
      · rw [if_pos h2, if_neg (fun e : j = k => h (by rw [← e]; exact h2)), if_pos h2]
      · rw [if_neg h2, if_neg h2, ih]

theorem mgot_getA (k : Int) (l : List (Int × Int)) : mgot (.int .i64 0) ((getA k l).map (.int .i64)) = .int .i64 ((getA k l).getD 0) := by
  cases getA k l <;> rfl

end Go.Proofs.YthccobceodgmlaaDoor
