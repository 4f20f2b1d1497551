/-
  Values by a number's bits; skolemref1.model, skolemref1.Sat.
-/
import Derived.Test.YthccobceodgmlaaDoorS7r
import Derived.Test.YthccobceodgmlaaDoorS9
import Derived.Test.YthccobceodgmlaaDoorS3
namespace Go.Proofs.YthccobceodgmlaaDoor
open Go.RowKit

theorem and1 (m : Nat) : bitsOp .and .i64 (m : Int) 1 = ((m % 2 : Nat) : Int) := by
  unfold bitsOp
  have e1 : (BitVec.ofInt (IntKind.bits .i64) (m : Int) &&& BitVec.ofInt (IntKind.bits .i64) 1).toNat = m % 2 := by
    rw [BitVec.toNat_and]
    have a : (BitVec.ofInt (IntKind.bits .i64) (m : Int)).toNat = m % 2 ^ 64 := by
      rw [BitVec.toNat_ofInt]
      show ((m : Int) % ((2 ^ 64 : Nat) : Int)).toNat = _
      omega
    have b : (BitVec.ofInt (IntKind.bits .i64) (1 : Int)).toNat = 1 := rfl
    rw [a, b, Nat.and_one_is_mod]
    omega
  simp only [e1]
  rw [wrap64 (by omega) (by omega)]

/-- The lowest bits of a number. -/
def bitsN (n : Nat) : Nat → List Bool
  | 0 => []
  | k + 1 => bitsN n k ++ [decide (n / 2 ^ k % 2 = 1)]
theorem bitsN_len (n : Nat) : ∀ k, (bitsN n k).length = k
  | 0 => rfl
  | k + 1 => by simp [bitsN, bitsN_len n k]
theorem valB_append : ∀ (a b : List Bool), valB (a ++ b) = valB a + 2 ^ a.length * valB b
  | [], b => by simp [valB]
  | x :: a, b => by
    rw [List.cons_append, valB, valB, valB_append a b, List.length_cons, Nat.pow_succ, Nat.mul_add, ← Nat.add_assoc, ← Nat.mul_assoc, Nat.mul_comm (2 ^ a.length) 2]
theorem valB_bitsN (n : Nat) : ∀ k, valB (bitsN n k) = n % 2 ^ k
  | 0 => by simp [bitsN, valB, Nat.mod_one]
  | k + 1 => by
    rw [bitsN, valB_append, valB_bitsN n k, bitsN_len]
    have h1 : n % 2 ^ (k + 1) = n % 2 ^ k + 2 ^ k * (n / 2 ^ k % 2) := by rw [Nat.pow_succ, Nat.mod_mul]
    rw [h1]
    rcases Nat.mod_two_eq_zero_or_one (n / 2 ^ k) with h | h <;> simp [h, valB]
theorem bitsN_valB {b : List Bool} {k : Nat} (h : b.length = k) : bitsN (valB b) k = b :=
  valB_inj (by rw [bitsN_len, h]) (by rw [valB_bitsN, Nat.mod_eq_of_lt (by rw [← h]; exact valB_lt b)])
theorem valB_bits_lt {n k : Nat} (h : n < 2 ^ k) : valB (bitsN n k) = n := by rw [valB_bitsN, Nat.mod_eq_of_lt h]

theorem bit_at {n i : Nat} (hi : i < 63) : decide (bitsOp .and .i64 (Int.fdiv (n : Int) (2 ^ min (Int.toNat (IntKind.wrap .u64 (i : Int))) (IntKind.bits .i64))) (1 : Int) = (1 : Int)) = decide (n / 2 ^ i % 2 = 1) := by
  rw [wrapu64 (by omega) (by omega), Int.toNat_natCast, show IntKind.bits .i64 = 64 from rfl, show min i 64 = i by omega]
  have e : Int.fdiv (n : Int) (2 ^ i) = ((n / 2 ^ i : Nat) : Int) := by
    rw [Int.fdiv_eq_ediv_of_nonneg _ (Int.pow_nonneg (by omega) : (0 : Int) ≤ 2 ^ i)]
    simp
  rw [e, and1, show (1 : Int) = ((1 : Nat) : Int) from rfl]
  exact decide_eq_decide.2 Int.ofNat_inj

theorem boolsC_append (a b : List Bool) : boolsC (a ++ b) = boolsC a ++ boolsC b := List.map_append
theorem model_loop (fuel d : Nat) {n k : Nat} (hk : k < 60) : ∀ (m i : Nat) (hd : List Bool) (s : Sl) (h : AHeap), k < m + i → i ≤ k → hd.length < 1000 → Grown h 1 s (boolsC (hd ++ bitsN n i)) →
    ∃ s' h', l_skolemref1_model_0 fuel d m [(1, .int .i64 (n : Int)), (2, .int .i64 (k : Int)), (7, .slice s), (8, .int .i64 (i : Int))] h = some (.exit 0, [(7, .slice s')], h') ∧ Grown h' 1 s' (boolsC (hd ++ bitsN n k)) := by
  intro m
  induction m with
  | zero => intro i hd s h h1 h2; omega
  | succ m ih =>
    intro i hd s h h1 h2 h3 hg
    have hl := hg.len
    simp only [List.length_map, List.length_append, bitsN_len, Nat.mul_one] at hl
    rw [l_skolemref1_model_0_eq]
    by_cases hi : i < k
    · rw [bif_pos (by omega), bif_neg (by rw [wrapu64 (by omega) (by omega)]; omega), bit_at (by omega)]
      obtain ⟨s', h', e1, e2, e3⟩ := hg.snoc (bytes := 1) (vs := [.bool (decide (n / 2 ^ i % 2 = 1))]) rfl (by omega) (by omega)
      rw [e1]
      simp only [Option.bind_some]
      rw [succI (by omega)]
      refine ih (i + 1) hd s' h' (by omega) (by omega) h3 ?_
      rw [bitsN, ← List.append_assoc, boolsC_append]
      exact e2
    · have : i = k := by omega
      subst this
      rw [bif_neg (by omega)]
      exact ⟨s, h, rfl, hg⟩

theorem model_body (fuel d : Nat) {n k : Nat} {hd : List Bool} (hh : hd.length < 900) (hk : k < 60) (hf : k < fuel) :
    ∃ s h', brun fuel (d + 1) F_skolemref1_model [.slice (lstB hd), .int .i64 (n : Int), .int .i64 (k : Int)] AHeap.none = some (.slice s, h') ∧ freezeV h' 8 (.slice s) = some (.slice (lstB (false :: hd ++ bitsN n k))) := by
  rw [e_skolemref1_model, cells_lstM]
  simp only [Option.bind_some]
  rw [len_lst]
  have fin : ∀ (s : Sl) (h : AHeap), Grown h 1 s (boolsC (false :: hd ++ bitsN n 0)) →
      ∃ s' h', (l_skolemref1_model_0 fuel d fuel [(1, .int .i64 (n : Int)), (2, .int .i64 (k : Int)), (7, .slice s), (8, .int .i64 (0 : Int))] h).bind (fun p => k_skolemref1_model_0 fuel d p.1 p.2.1 p.2.2) = some (.slice s', h') ∧ freezeV h' 8 (.slice s') = some (.slice (lstB (false :: hd ++ bitsN n k))) := by
    intro s h hg
    obtain ⟨s', h', e1, e2⟩ := model_loop fuel d (n := n) hk fuel 0 (false :: hd) s h (by omega) (by omega) (by simp; omega) hg
    rw [show ((0 : Nat) : Int) = 0 from rfl] at e1
    refine ⟨s', h', by rw [e1]; simp only [Option.bind_some, k_skolemref1_model_0_x0], ?_⟩
    have hl := e2.len
    simp only [List.length_map, Nat.mul_one] at hl
    rw [e2.freeze (n := 7) (by omega) (freeze_boolsC 6 _), ← hl]
  by_cases h0 : hd = []
  · subst h0
    have hz : AHeap.append AHeap.none false 1 1 (.lst 1 true [.bool false]) ([] : List Bool).length (boolsC []) = some (.lst 1 true [.bool false], AHeap.none) := rfl
    rw [hz]
    simp only [Option.bind_some]
    obtain ⟨f, rfl⟩ : ∃ f, fuel = f + 1 := ⟨fuel - 1, by omega⟩
    by_cases hk0 : k = 0
    · subst hk0
      rw [l_skolemref1_model_0_eq, bif_neg (by omega)]
      exact ⟨.lst 1 true [.bool false], AHeap.none, by simp only [Option.bind_some, k_skolemref1_model_0_x0], rfl⟩
    · rw [l_skolemref1_model_0_eq, bif_pos (by omega), bif_neg (by rw [show (0 : Int) = ((0 : Nat) : Int) from rfl, wrapu64 (by omega) (by omega)]; omega), append_lst (cs := [.bool false]) rfl (by omega) (by omega) (by omega)]
      have hb := bit_at (n := n) (i := 0) (by omega)
      rw [show ((0 : Nat) : Int) = 0 from rfl] at hb
      rw [hb]
      simp only [Option.bind_some]
      obtain ⟨s', h', e1, e2⟩ := model_loop (f + 1) d (n := n) hk f 1 [false] (.mk ⟨AHeap.none.next, 0, 0⟩ (1 + 1) false) (AHeap.none.push 1 ([.bool false] ++ [.bool (decide (n / 2 ^ 0 % 2 = 1))])) (by omega) (by omega) (by simp) (.row (row := { cells := [.bool false] ++ [.bool (decide (n / 2 ^ 0 % 2 = 1))], sz := 1 }) rfl rfl rfl rfl (Nat.le_refl _) rfl rfl)
      rw [show IntKind.wrap .i64 ((0 : Int) + 1) = ((1 : Nat) : Int) from rfl, e1]
      refine ⟨s', h', by simp only [Option.bind_some, k_skolemref1_model_0_x0], ?_⟩
      have hl := e2.len
      simp only [List.length_map, Nat.mul_one] at hl
      rw [e2.freeze (n := 7) (by omega) (freeze_boolsC 6 _), ← hl]
  · rw [append_lst (cs := [.bool false]) rfl (by simpa using h0) (by omega) (by omega)]
    simp only [Option.bind_some]
    refine fin _ _ ?_
    refine .row (row := { cells := [.bool false] ++ boolsC hd, sz := 1 }) (by simp [AHeap.push, AHeap.next]) (by simp [bitsN]) (by simp [bitsN]; omega) rfl (Nat.le_refl _) rfl rfl

theorem model_run (fuel d : Nat) {n k : Nat} {hd : List Bool} (hh : hd.length < 900) (hk : k < 60) (hf : k < fuel) (h : AHeap) {x : Sl} (hx : canonV 8 (.slice x) = some (.slice (lstB hd))) :
    run fuel (d + 1) F_skolemref1_model [.slice x, .int .i64 (n : Int), .int .i64 (k : Int)] h = some (.slice (lstB (false :: hd ++ bitsN n k)), h) := by
  obtain ⟨s, h', e1, e2⟩ := model_body fuel d (n := n) hh hk hf
  exact pure_of rfl rfl (cc3 hx rfl rfl) e1 e2

/-- 2 to the number of variables -/
theorem shl_eq {k : Nat} (hk : k < 60) : IntKind.wrap .i64 ((1 : Int) * 2 ^ min (Int.toNat (IntKind.wrap .u64 (k : Int))) (IntKind.bits .i64)) = ((2 ^ k : Nat) : Int) := by
  rw [wrapu64 (by omega) (by omega), Int.toNat_natCast, show IntKind.bits .i64 = 64 from rfl, show min k 64 = k by omega, Int.one_mul]
  have h1 : 2 ^ k < 2 ^ 60 := Nat.pow_lt_pow_right (by omega) hk
  have h2 : (2 : Nat) ^ 60 = 1152921504606846976 := rfl
  have e : (2 : Int) ^ k = ((2 ^ k : Nat) : Int) := by simp
  rw [e]
  generalize 2 ^ k = N at h1 ⊢
  rw [wrap64 (by omega) (by omega)]

theorem refSat_loop (fuel d : Nat) {k : Nat} {cc : List (List Int)} {r : Ref} {h : AHeap} (hk : k ≤ 20) (hf : 30 < fuel) (hc0 : h.cell (.mk ⟨r.id, r.gen, r.off + 0⟩ 2) = some (.int .i64 (k : Int))) (hc1 : h.cell (.mk ⟨r.id, r.gen, r.off + 1⟩ 2) = some (.slice (lstLL cc))) (hl : cc.length < 1000000000) (hlf : cc.length < fuel) (hok : ∀ c ∈ cc, c.length < 1000000000 ∧ c.length < fuel ∧ ∀ l ∈ c, okInt l) :
    ∀ (m n : Nat), 2 ^ k < m + n → n ≤ 2 ^ k → (∀ b : List Bool, b.length = k → valB b < n → ofI cc (false :: b) = false) →
    ∃ ob, (l_skolemref1_Sat_0 fuel (d + 1) m [(1, .ptr (.mk r 2)), (4, .int .i64 (n : Int))] h).bind (fun q => k_skolemref1_Sat_0 fuel (d + 1) q.1 q.2.1 q.2.2) = some (match ob with | some m => .tup [.slice (lstB m), .bool true] | none => .tup [.slice .nil, .bool false], h) ∧ firstI cc k ob := by
  intro m
  induction m with
  | zero => intro n h1 h2; omega
  | succ m ih =>
    intro n h1 h2 h3
    obtain ⟨rid, rgen, roff⟩ := r
    have hp : 2 ^ k ≤ 2 ^ 20 := Nat.pow_le_pow_right (by omega) hk
    have hp2 : (2 : Nat) ^ 20 = 1048576 := rfl
    rw [l_skolemref1_Sat_0_eq]
    simp only [field_mk, Option.bind_some, hc0, int_int]
    rw [bif_neg (by rw [wrapu64 (by omega) (by omega)]; omega), shl_eq (by omega)]
    by_cases hn : n < 2 ^ k
    · rw [bif_pos (by omega), model_run fuel d (n := n) (hd := []) (by simp) (by omega) (by omega) h rfl]
      simp only [Option.bind_some, slice_slice, hc1, List.nil_append, List.cons_append]
      rw [refOf_run fuel d (cc := cc) (m := false :: bitsN n k) (by simp [bitsN_len]; omega) hl hlf hok (freeze_lst _ _ _ (closedL_map closed_lstI cc)) (freeze_lst _ _ _ (closedL_map (fun _ => rfl) _))]
      simp only [Option.bind_some, bool_bool]
      cases he : ofI cc (false :: bitsN n k) with
      | true =>
        simp only [cond_true, Option.bind_some, k_skolemref1_Sat_0_r]
        exact ⟨some (false :: bitsN n k), rfl, _, rfl, bitsN_len n k, he, fun b hb hv => h3 b hb (by rwa [valB_bits_lt hn] at hv)⟩
      | false =>
        simp only [cond_false]
        rw [succI (by omega)]
        refine ih (n + 1) (by omega) (by omega) fun b hb hv => ?_
        by_cases hq : valB b = n
        · rw [← bitsN_valB hb, hq]; exact he
        · exact h3 b hb (by omega)
    · rw [bif_neg (by omega)]
      simp only [Option.bind_some, k_skolemref1_Sat_0_x0]
      refine ⟨none, rfl, fun b hb => h3 b hb ?_⟩
      have := valB_lt b
      rw [hb] at this
      omega

theorem firstI_unique {cc : List (List Int)} {k : Nat} {a b : Option (List Bool)} (ha : firstI cc k a) (hb : firstI cc k b) : a = b := by
  cases a with
  | none =>
    cases b with
    | none => rfl
    | some m =>
      obtain ⟨b', rfl, h2, h3, _⟩ := hb
      rw [ha b' h2] at h3; cases h3
  | some m =>
    obtain ⟨b', rfl, h2, h3, h4⟩ := ha
    cases b with
    | none => rw [hb b' h2] at h3; cases h3
    | some m' =>
      obtain ⟨b'', rfl, g2, g3, g4⟩ := hb
      rcases Nat.lt_trichotomy (valB b') (valB b'') with h | h | h
      · rw [g4 b' h2 h] at h3; cases h3
      · rw [valB_inj (by omega) h]
      · rw [h4 b'' g2 h] at g3; cases g3

theorem canonV_cnf (vars : Int) (cc : List (List Int)) : canonV 8 (.agg (cnfC vars cc)) = some (.agg (cnfC vars cc)) := by
  unfold cnfC
  rw [canon_agg, canonM_cons (u := .int .i64 vars) rfl (canonM_cons (canon_lstLL 6 cc) (canonM_nil _))]
  rfl

theorem refSat_run (fuel d : Nat) {k : Nat} {cc : List (List Int)} (hk : k ≤ 20) (hf : 2 ^ 21 ≤ fuel) (hl : cc.length < 1000000) (hok : ∀ c ∈ cc, c.length < 1000000 ∧ ∀ l ∈ c, okInt l) (h : AHeap) :
    ∃ ob, run fuel (d + 2) F_skolemref1_Sat [.agg (cnfC k cc)] h = some (match ob with | some m => .tup [.slice (lstB m), .bool true] | none => .tup [.slice (lstB []), .bool false], h) ∧ firstI cc k ob := by
  have hp : (2 : Nat) ^ 21 = 2097152 := rfl
  have hp2 : 2 ^ k ≤ 2 ^ 20 := Nat.pow_le_pow_right (by omega) hk
  have hp3 : (2 : Nat) ^ 20 = 1048576 := rfl
  rw [hp] at hf
  obtain ⟨ob, e1, e2⟩ := refSat_loop fuel d (k := k) (cc := cc) (r := ⟨AHeap.none.next, 0, 0⟩) (h := AHeap.none.push 1 (cnfC k cc)) hk (by omega) rfl rfl (by omega) (by omega) (fun c h => ⟨by have := (hok c h).1; omega, by have := (hok c h).1; omega, (hok c h).2⟩) fuel 0 (by omega) (Nat.zero_le _) (fun b hb hv => by omega)
  refine ⟨ob, ?_, e2⟩
  have hc := cc1 (canonV_cnf k cc)
  rw [show ((0 : Nat) : Int) = 0 from rfl] at e1
  have hb := e_skolemref1_Sat fuel (d + 1) (cnfC k cc) AHeap.none
  rw [show List.all (cnfC k cc) AVal.isCell = true from rfl, cond_true] at hb
  have hb := hb.trans e1
  cases ob with
  | none => exact pure_of rfl rfl hc hb rfl
  | some m => exact pure_of rfl rfl hc hb (freeze_tup2 7 (freeze_lst _ _ _ (closedL_map (fun _ => rfl) _)) rfl)

end Go.Proofs.YthccobceodgmlaaDoor
