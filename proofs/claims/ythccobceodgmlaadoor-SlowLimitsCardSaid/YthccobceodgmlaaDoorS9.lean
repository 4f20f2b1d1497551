/-
  slow.Sat: the first model.
-/
import Derived.Test.YthccobceodgmlaaDoorS8
import Derived.Test.YthccobceodgmlaaDoorS2
namespace Go.Proofs.YthccobceodgmlaaDoor
open Go.RowKit

/-- What slow.Sat answers of right clauses. -/
theorem sat_loop (fuel d : Nat) {vars : Nat} {cc : List (List Int)} {r : Ref} {h0 : AHeap} {id : Nat} {c : Bool} (hv : vars ≤ 20) (hfu : vars + 1 < fuel) (hid : r.id ≠ id) (hcell : h0.cell (.mk ⟨r.id, r.gen, r.off + 1⟩ 2) = some (.slice (lstLL cc)))
    (hl : cc.length < 1000000000) (hf : cc.length < fuel) (hc : ∀ c ∈ cc, c.length < 1000000000 ∧ c.length < fuel) : ∀ (n : Nat) (b : List Bool) (h : AHeap), 2 ^ b.length ≤ n + valB b → b.length = vars → Keeps h0 h (· = id) → Own h 1 id 0 (1 + vars) (boolsC (false :: b)) →
    ∃ v h', (l_slow_Sat_0 fuel (d + 3) n [(1, .ptr (.mk r 2)), (5, .slice (.mk ⟨id, 0, 0⟩ (1 + vars) c))] h).bind (fun q => k_slow_Sat_0 fuel (d + 3) q.1 q.2.1 q.2.2) = some (v, h') ∧
      ∃ ob : Option (List Bool), freezeV h' 8 v = some (match ob with | some m => .tup [.slice (lstB m), .bool true, .nilif] | none => .tup [.slice (lstB []), .bool false, .nilif]) ∧
        (match ob with | some m => ∃ b', m = false :: b' ∧ b'.length = vars ∧ ofI cc m = true ∧ valB b ≤ valB b' ∧ (∀ b'' : List Bool, b''.length = vars → valB b ≤ valB b'' → valB b'' < valB b' → ofI cc (false :: b'') = false) | none => ∀ b'' : List Bool, b''.length = vars → valB b ≤ valB b'' → ofI cc (false :: b'') = false) := by
  intro n
  induction n with
  | zero => intro b h h1; have := valB_lt b; omega
  | succ n ih =>
    intro b h h1 h2 hk ho
    have hl' : (false :: b).length = 1 + vars := by simp; omega
    have hcell' : h.cell (.mk ⟨r.id, r.gen, r.off + 1⟩ 2) = some (.slice (lstLL cc)) := cell_keep hk hid hcell
    have hview : freezeV h 8 (.slice (.mk ⟨id, 0, 0⟩ (1 + vars) c)) = some (.slice (lstB (false :: b))) := by rw [ho.freeze c (freeze_boolsC 6 _), ← hl']
    rw [l_slow_Sat_0_eq]
    obtain ⟨rid, rgen, roff⟩ := r
    simp only [field_mk, Option.bind_some, hcell', slice_slice, Of_run fuel d hview hl hf hc, bool_bool]
    cases he : ofI cc (false :: b) with
    | true =>
      simp only [cond_true, Option.bind_some, k_slow_Sat_0_r]
      refine ⟨_, _, rfl, some (false :: b), ?_, b, rfl, h2, he, Nat.le_refl _, fun b'' _ g1 g2 => by omega⟩
      exact freeze_tup3 7 (by rw [ho.freeze c (freeze_boolsC 5 _), ← hl']) rfl rfl
    | false =>
      simp only [cond_false]
      obtain ⟨h5, e5, o5, k5, n5⟩ := next_run fuel (d + 2) (c := c) (k := 1) (by omega : 1 + vars < 1000000) (by omega) (by omega) hl' ho
      rw [show (((1 : Nat) : Int)) = 1 from rfl] at e5
      have hd : (false :: b).drop 1 = b := rfl
      have ht : (false :: b).take 1 = [false] := rfl
      rw [hd] at e5
      rw [hd, ht, List.singleton_append] at o5
      simp only [e5, Option.bind_some, bool_bool]
      cases hi : (incB b).1 with
      | true =>
        have hv2 := incB_val hi
        simp only [Bool.not_true, cond_false]
        obtain ⟨v, h', g1, ob, g2, g3⟩ := ih (incB b).2 h5 (by rw [incB_len, hv2]; omega) (by rw [incB_len]; exact h2) (hk.trans k5) o5
        refine ⟨v, h', g1, ob, g2, ?_⟩
        have low : ∀ b'' : List Bool, b''.length = vars → valB b ≤ valB b'' → ¬ valB (incB b).2 ≤ valB b'' → ofI cc (false :: b'') = false := fun b'' q1 q2 q3 => by
          rw [hv2] at q3
          rw [valB_inj (b := b'') (b' := b) (by omega) (by omega)]
          exact he
        cases ob with
        | none =>
          intro b'' q1 q2
          by_cases q3 : valB (incB b).2 ≤ valB b''
          · exact g3 b'' q1 q3
          · exact low b'' q1 q2 q3
        | some m =>
          obtain ⟨b', m1, m2, m3, m4, m5⟩ := g3
          refine ⟨b', m1, m2, m3, by omega, fun b'' q1 q2 q3 => ?_⟩
          by_cases q4 : valB (incB b).2 ≤ valB b''
          · exact m5 b'' q1 q4 q3
          · exact low b'' q1 q2 q4
      | false =>
        simp only [Bool.not_false, cond_true, Option.bind_some, k_slow_Sat_0_r]
        refine ⟨_, _, rfl, none, rfl, fun b'' q1 q2 => ?_⟩
        have := incB_last hi b'' (by omega)
        rw [valB_inj (b := b'') (b' := b) (by omega) (by omega)]
        exact he

/-- The first model of clauses, of those of so many variables. -/
def firstI (cc : List (List Int)) (vars : Nat) (ob : Option (List Bool)) : Prop :=
  match ob with
  | some m => ∃ b', m = false :: b' ∧ b'.length = vars ∧ ofI cc m = true ∧ ∀ b'' : List Bool, b''.length = vars → valB b'' < valB b' → ofI cc (false :: b'') = false
  | none => ∀ b'' : List Bool, b''.length = vars → ofI cc (false :: b'') = false
def satV : Option (List Bool) → AVal
  | some m => .tup [.slice (lstB m), .bool true, .nilif]
  | none => .tup [.slice (lstB []), .bool false, .nilif]

theorem Sat_brun (fuel d : Nat) {vars : Nat} {cc : List (List Int)} (hv : vars ≤ 20) (hfu : 2 ^ 21 ≤ fuel) (hl : cc.length ≤ 20000) (ht : totalI cc ≤ 80000) (hc : ∀ c ∈ cc, c.length < 1000000) (hlit : ∀ c ∈ cc, ∀ l ∈ c, isI l vars = true) :
    ∃ v h' ob, brun fuel (d + 6) F_slow_Sat [.agg (cnfC vars cc)] AHeap.none = some (v, h') ∧ freezeV h' 8 v = some (satV ob) ∧ firstI cc vars ob := by
  have hp : (2 : Nat) ^ 21 = 2097152 := rfl
  rw [hp] at hfu
  have hck : checkI (vars : Int) cc = .nilif := checkI_nil (by omega) (by omega) hl ht hlit
  rw [e_slow_Sat, show List.all (cnfC vars cc) AVal.isCell = true from rfl, cond_true]
  have hlen : (cnfC vars cc).length = 2 := rfl
  simp only [hlen]
  have c0 : (AHeap.none.push 1 (cnfC vars cc)).cellsAt 2 (.mk ⟨AHeap.none.next, 0, 0⟩ 2) = some (cnfC vars cc) := rfl
  have c1 : (AHeap.none.push 1 (cnfC vars cc)).cell (.mk ⟨AHeap.none.next, 0, 0 + 0⟩ 2) = some (.int .i64 vars) := rfl
  have hck2 := Check_run fuel d (vars := vars) (cc := cc) (h := AHeap.none.push 1 (cnfC vars cc)) (x := .agg (cnfC vars cc)) (by omega) (by omega) (by omega) (fun c h => ⟨by have := hc c h; omega, by have := hc c h; omega⟩) (freeze_cnf 6 _ _) (by rw [hck]; rfl)
  rw [hck] at hck2
  simp only [c0, Option.bind_some, hck2, (show nilTest .iface .nilif = some true from rfl), Bool.not_true, cond_false, field_mk, c1, int_int]
  rw [bif_neg (by omega)]
  have hw : IntKind.wrap .i64 (1 + (vars : Int)) = ((1 + vars : Nat) : Int) := by rw [wrap64 (by omega) (by omega)]; omega
  simp only [hw, Int.toNat_natCast]
  rw [cond_pos _ _ (mk_ok (by omega) (by omega) (by omega)), repeat_one]
  have hrep : List.replicate (1 + vars) (AVal.bool false) = boolsC (false :: List.replicate vars false) := by
    rw [Nat.add_comm, List.replicate_succ]; simp
  rw [hrep]
  have ho := Own.push (AHeap.none.push 1 (cnfC vars cc)) 1 (1 + vars) (boolsC (false :: List.replicate vars false)) (by simp; omega)
  obtain ⟨v, h', e1, ob, e2, e3⟩ := sat_loop fuel (d + 2) (vars := vars) (cc := cc) (r := ⟨0, 0, 0⟩) (h0 := (AHeap.none.push 1 (cnfC vars cc)).push 1 (boolsC (false :: List.replicate vars false))) (id := 1) (c := eqI ((1 + vars : Nat) : Int) ((1 + vars : Nat) : Int)) hv (by omega) (by simp) rfl (by omega) (by omega) (fun c h => ⟨by have := hc c h; omega, by have := hc c h; omega⟩) fuel (List.replicate vars false) _ (by
    have : 2 ^ vars ≤ 2 ^ 20 := Nat.pow_le_pow_right (by omega) hv
    rw [valB_zero, List.length_replicate]; omega) (by simp) (Keeps.refl _ _) ho
  refine ⟨v, h', ob, e1, e2, ?_⟩
  rw [valB_zero] at e3
  cases ob with
  | none => exact fun b'' q => e3 b'' q (by omega)
  | some m =>
    obtain ⟨b', m1, m2, m3, m4, m5⟩ := e3
    exact ⟨b', m1, m2, m3, fun b'' q1 q2 => m5 b'' q1 (by omega) q2⟩

/-- .. of a CNF as it stands -/
theorem Sat_any (fuel d : Nat) {vars : Nat} {cc : List (List Int)} (hv : vars ≤ 20) (hfu : 2 ^ 21 ≤ fuel) (hl : cc.length ≤ 20000) (ht : totalI cc ≤ 80000) (hc : ∀ c ∈ cc, c.length < 1000000) (hlit : ∀ c ∈ cc, ∀ l ∈ c, isI l vars = true) {h : AHeap} {x : AVal} (hx : freezeV h 8 x = some (.agg (cnfC vars cc))) :
    ∃ ob ids, run fuel (d + 6) F_slow_Sat [x] h = some (satV ob, h.markRo ids) ∧ firstI cc vars ob := by
  obtain ⟨v, h', ob, e1, e2, e3⟩ := Sat_brun fuel d hv hfu hl ht hc hlit
  obtain ⟨ids, e4⟩ := run_any rfl rfl (h := h) (mm1 hx) e1 e2
  exact ⟨ob, ids, e4, e3⟩

end Go.Proofs.YthccobceodgmlaaDoor
