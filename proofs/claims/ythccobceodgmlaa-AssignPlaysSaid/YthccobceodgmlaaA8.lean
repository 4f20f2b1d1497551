/-
  What Model, Of and Known do, told of lists.
-/
import Derived.Test.YthccobceodgmlaaA7
namespace Go.Proofs.Ythccobceodgmlaa
open Go.RowKit

abbrev boolsC (l : List Bool) : List AVal := l.map AVal.bool

theorem readB {h : AHeap} {s : Sl} {c : List Bool} (hs : h.sliceCells 1 s = some (boolsC c)) {j : Int} (h0 : 0 ≤ j) (hj : j.toNat < c.length) :
    h.addr 1 s j = some (s.at 1 j) ∧ h.cell (s.at 1 j) = some (.bool (c.getD j.toNat false)) := by
  have hl := sliceCells_len hs
  simp only [List.length_map, Nat.mul_one] at hl
  exact ⟨addr_at hs h0 (by omega), cell_at hs h0 (by simp [List.getElem?_eq_getElem hj])⟩

theorem Own.boolsStore {h : AHeap} {id gen n : Nat} {l : List Bool} (ho : Own h 1 id gen n (boolsC l)) {j : Int} (h0 : 0 ≤ j) (hj : j < (n : Int)) (c : Bool) (x : Bool) :
    h.addr 1 (.mk ⟨id, gen, 0⟩ n c) j = some (Sl.at (.mk ⟨id, gen, 0⟩ n c) 1 j) ∧
    ∃ h', h.storeAt [.bool x] (Sl.at (.mk ⟨id, gen, 0⟩ n c) 1 j) = some h' ∧ Own h' 1 id gen n (boolsC (l.set j.toNat x)) ∧ Keeps h h' (· = id) ∧ h'.rows.length = h.rows.length := by
  have := ho.store h0 hj c (.bool x)
  rwa [← List.map_set] at this

theorem IsAssign.read {h : AHeap} {i j : Nat} {v : List Int} (ha : IsAssign h i j v) {m : Nat} (hm : m < v.length) :
    h.addr 1 (aSl j v) (m : Int) = some ((aSl j v).at 1 (m : Int)) ∧ h.cell ((aSl j v).at 1 (m : Int)) = some (.int .i8 (v.getD m 0)) :=
  ⟨addr_at ha.cells (by omega) (by simp only [Sl.len]; omega), cell_at ha.cells (by omega) (by simp [List.getElem?_eq_getElem hm])⟩

def modelOf (v : List Int) : List Bool := v.map fun x => decide (x = 1)

theorem model_loop (fuel d : Nat) {i j k : Nat} {v : List Int} (hjk : j ≠ k) (hik : i ≠ k) : ∀ (n m : Nat) (b : List Bool) (h : AHeap), v.length < n + m → m ≤ v.length → IsAssign h i j v → Own h 1 k 0 v.length (boolsC b) → b.length = v.length → b.take m = (modelOf v).take m →
    ∃ h', l22_0 fuel d n [(3, .slice (.mk ⟨k, 0, 0⟩ v.length true)), (15, .slice (aSl j v)), (16, .int .i64 (v.length : Int)), (17, .int .i64 (m : Int))] h = some (.exit 0, [(3, .slice (.mk ⟨k, 0, 0⟩ v.length true))], h') ∧ Own h' 1 k 0 v.length (boolsC (modelOf v)) ∧ Keeps h h' (· = k) := by
  intro n
  induction n with
  | zero => intro m b h h1 h2; omega
  | succ n ih =>
    intro m b h h1 h2 ha ho hb ht
    rw [l22_0_eq]
    have hsm := ha.small
    by_cases hm : m < v.length
    · rw [bif_pos (by omega)]
      obtain ⟨r1, r2⟩ := ha.read hm
      obtain ⟨g1, h', g2, g3, g4, _⟩ := ho.boolsStore (j := (m : Int)) (by omega) (by omega) true (decide (v.getD m 0 = 1))
      simp only [r1, r2, Option.bind_some, int_int, g1, g2, succI (show m < 9000000000000000000 by omega)]
      rw [Int.toNat_natCast] at g3
      obtain ⟨h'', f1, f2, f3⟩ := ih (m + 1) _ h' (by omega) (by omega) (ha.keep g4 hik hjk) g3 (by simpa using hb) (by
        have h9 : m < (b.set m (decide (v.getD m 0 = 1))).length := by simp; omega
        have h8 : m < (modelOf v).length := by simp [modelOf]; omega
        rw [List.take_succ_eq_append_getElem h9, List.take_succ_eq_append_getElem h8, List.take_set_of_le (by omega), ht]
        simp [modelOf, List.getElem?_eq_getElem hm])
      exact ⟨h'', f1, f2, g4.trans f3⟩
    · have : m = v.length := by omega
      subst this
      rw [bif_neg (by omega)]
      have : b = modelOf v := by
        rw [← hb, List.take_length] at ht
        rw [ht, hb, List.take_of_length_le (by simp [modelOf])]
      subst this
      exact ⟨h, rfl, ho, .refl _ _⟩

theorem model22 (fuel d : Nat) {h : AHeap} {i j : Nat} {v : List Int} (ha : IsAssign h i j v) (hf : v.length < fuel) :
    ∃ h', run fuel (d + 1) 22 [.ptr (aPt i)] h = some (.slice (.mk ⟨h.rows.length, 0, 0⟩ v.length true), h') ∧ Own h' 1 h.rows.length 0 v.length (boolsC (modelOf v)) ∧ Ext h h' := by
  have hsm := ha.small
  have hi : i < h.rows.length := by obtain ⟨row, h1, _⟩ := ha.own; exact (List.getElem?_eq_some_iff.1 h1).1
  have hj : j < h.rows.length := by obtain ⟨row, h1, _⟩ := ha.vals; exact (List.getElem?_eq_some_iff.1 h1).1
  have hp := Keeps.push h 1 (List.replicate v.length (.bool false)) fun _ => False
  have ha2 := ha.keep hp id id
  obtain ⟨h', e1, e2, e3⟩ := model_loop fuel d (i := i) (j := j) (k := h.rows.length) (v := v) (by omega) (by omega) fuel 0 (List.replicate v.length false) (h.push 1 (List.replicate v.length (.bool false))) (by omega) (by omega) ha2
    (by have := Own.push h 1 v.length (List.replicate v.length (AVal.bool false)) (by simp); simpa [boolsC] using this) (by simp) (by simp)
  refine ⟨h', ?_, e2, Keeps.toNew hp e3 fun x hx => by omega⟩
  rw [e22]
  simp only [chk_mk, Option.bind_some, field_mk, Nat.add_zero, ha.cell, slice_slice]
  rw [cond_pos]
  · simp only [len_mk, decide_true, repeat_one, Int.toNat_natCast, next_len, ha2.cell, Option.bind_some, slice_slice]
    rw [show ((0 : Nat) : Int) = 0 from rfl] at e1
    simp only [e1, Option.bind_some, k22_0_x0]
  · simp only [Bool.true_and, Bool.and_eq_true, decide_eq_true_eq]
    rw [len_mk]
    omega

/-- A literal is true in a model. -/
def holdsB (m : List Bool) (l : Int) : Bool := decide (0 < absI l ∧ (absI l).toNat < m.length) && (m.getD (absI l).toNat false == decide (0 < l))

theorem holds45 (fuel d : Nat) {h : AHeap} {s : Sl} {m : List Bool} (hs : h.sliceCells 1 s = some (boolsC m)) (l : Int) (hn : -9223372036854775807 ≤ l) (hn' : l ≤ 9223372036854775807) :
    run fuel (d + 2) 45 [.int .i64 l, .slice s] h = some (.bool (holdsB m l), h) := by
  have hl : s.len = m.length := by have := sliceCells_len hs; simp at this; omega
  rw [e45, var44 _ _ _ _ hn hn', hl]
  simp only [Option.bind_some, int_int]
  unfold holdsB
  by_cases h1 : 0 < absI l
  · by_cases h2 : absI l < (m.length : Int)
    · obtain ⟨r1, r2⟩ := readB hs (j := absI l) (by omega) (by omega)
      have h3 : (absI l).toNat < m.length := by omega
      simp only [decide_eq_true h1, decide_eq_true h2, cond_true, beq_self_eq_true, r1, r2, Option.bind_some, bool_bool, decide_eq_true (And.intro h1 h3), Bool.true_and]
    · have h3 : ¬ (absI l).toNat < m.length := by omega
      simp [h1, h2, bool_bool, h3]
  · simp [h1, bool_bool]

/-- All clauses have a true literal. -/
def ofSpec (cc : List (List Int)) (m : List Bool) : Bool := cc.all fun c => c.any (holdsB m)

def okInt (l : Int) : Prop := -9223372036854775807 ≤ l ∧ l ≤ 9223372036854775807

theorem of_inner (fuel d : Nat) {h : AHeap} {s s10 s16 : Sl} {m : List Bool} {x11 x12 : Int} {c : List Int} (hs : h.sliceCells 1 s = some (boolsC m)) (hc : h.sliceCells 1 s16 = some (intsC c)) (hok : ∀ l ∈ c, okInt l) (hl : c.length < 4000000000000000000) :
    ∀ (n k : Nat) (b : Bool), c.length < n + k → k ≤ c.length → b = (c.take k).any (holdsB m) →
      l21_1 fuel (d + 2) n [(1, .slice s), (7, .bool b), (10, .slice s10), (11, .int .i64 x11), (12, .int .i64 x12), (16, .slice s16), (17, .int .i64 (c.length : Int)), (18, .int .i64 (k : Int))] h =
        some (.exit 2, [(1, .slice s), (7, .bool (c.any (holdsB m))), (10, .slice s10), (11, .int .i64 x11), (12, .int .i64 x12)], h) := by
  intro n
  induction n with
  | zero => intro k b h1 h2; omega
  | succ n ih =>
    intro k b h1 h2 hb
    rw [l21_1_eq]
    by_cases hk : k < c.length
    · rw [bif_pos (by omega)]
      obtain ⟨r1, r2⟩ := readI hc (j := (k : Int)) (by omega) (by simpa using hk)
      rw [Int.toNat_natCast] at r2
      have hmem : c.getD k 0 ∈ c := getD_mem hk
      have e1 := holds45 fuel d hs (c.getD k 0) (hok _ hmem).1 (hok _ hmem).2
      have htk := take_succ hk
      have hnext : (c.take (k + 1)).any (holdsB m) = (b || holdsB m (c.getD k 0)) := by rw [htk, List.any_append, hb]; simp
      have key := ih (k + 1) (b || holdsB m (c.getD k 0)) (by omega) (by omega) hnext.symm
      generalize c.getD k 0 = x at r2 e1 key
      simp only [r1, r2, Option.bind_some, int_int, succI (show k < 9000000000000000000 by omega)]
      cases b with
      | true => simpa [bool_bool] using key
      | false => simpa [bool_bool, e1] using key
    · have : k = c.length := by omega
      subst this
      rw [bif_neg (by omega), hb, List.take_length]

theorem of_loop (fuel d : Nat) {h : AHeap} {s s0 : Sl} {m : List Bool} {cc : List (List Int)} (hs : h.sliceCells 1 s = some (boolsC m)) (hn : Nest h s0 cc) (hl : cc.length < 4000000000000000000) (hok : ∀ c ∈ cc, c.length < fuel ∧ c.length < 4000000000000000000 ∧ ∀ l ∈ c, okInt l) :
    ∀ (n k : Nat), cc.length < n + k → k ≤ cc.length →
      (l21_0 fuel (d + 2) n [(1, .slice s), (10, .slice s0), (11, .int .i64 (cc.length : Int)), (12, .int .i64 (k : Int))] h).bind (fun p => k21_0 fuel (d + 2) p.1 p.2.1 p.2.2) = some (.bool (ofSpec (cc.drop k) m), h) := by
  intro n
  induction n with
  | zero => intro k h1 h2; omega
  | succ n ih =>
    intro k h1 h2
    rw [l21_0_eq]
    by_cases hk : k < cc.length
    · rw [bif_pos (by omega)]
      obtain ⟨s', r1, r2, r3, r4⟩ := hn.read hk
      have hmem : cc.getD k [] ∈ cc := by
        rw [List.getD_eq_getElem?_getD, List.getElem?_eq_getElem hk]
        exact List.getElem_mem _
      have hd : cc.drop k = cc.getD k [] :: cc.drop (k + 1) := by
        rw [List.drop_eq_getElem_cons hk, List.getD_eq_getElem?_getD, List.getElem?_eq_getElem hk, Option.getD_some]
      obtain ⟨a1, a2, a3⟩ := hok _ hmem
      have e1 := of_inner fuel d (s10 := s0) (x11 := (cc.length : Int)) (x12 := (k : Int)) hs r3 a3 a2 fuel 0 false (by omega) (by omega) (by simp)
      rw [show ((0 : Nat) : Int) = 0 from rfl] at e1
      simp only [r1, r2, Option.bind_some, slice_slice, r4, e1, k21_1_x2, succI (show k < 9000000000000000000 by omega)]
      rw [hd]
      generalize cc.getD k [] = c
      cases hb : c.any (holdsB m) with
      | true =>
        simp only [Bool.not_true, cond_false]
        rw [ih (k + 1) (by omega) (by omega)]
        simp [ofSpec, hb]
      | false =>
        simp only [Bool.not_false, cond_true, Option.bind_some, k21_0_r]
        simp [ofSpec, hb]
    · have : k = cc.length := by omega
      subst this
      rw [bif_neg (by omega), List.drop_length]
      simp only [Option.bind_some, k21_0_x0]
      rfl

theorem of21 (fuel d : Nat) {h : AHeap} {s s0 : Sl} {m : List Bool} {cc : List (List Int)} (hs : h.sliceCells 1 s = some (boolsC m)) (hn : Nest h s0 cc) (hf : cc.length < fuel) (hl : cc.length < 4000000000000000000) (hok : ∀ c ∈ cc, c.length < fuel ∧ c.length < 4000000000000000000 ∧ ∀ l ∈ c, okInt l) :
    run fuel (d + 3) 21 [.slice s0, .slice s] h = some (.bool (ofSpec cc m), h) := by
  rw [e21, hn.len]
  have := of_loop fuel d hs hn hl hok fuel 0 (by omega) (by omega)
  simpa using this

/-- The true literals, by their variables. -/
def knownAt (v : List Int) (t : Nat) : List Int := if v.getD t 0 = 1 then [(t : Int)] else if v.getD t 0 = 2 then [-(t : Int)] else []
def knownOf (v : List Int) : List Int := (List.range v.length).flatMap (knownAt v)

theorem knownLen (v : List Int) : ∀ m, ((List.range m).flatMap (knownAt v)).length ≤ m
  | 0 => by simp
  | m + 1 => by
    have := knownLen v m
    rw [List.range_succ, List.flatMap_append, List.length_append]
    have h1 : ([m].flatMap (knownAt v)).length ≤ 1 := by
      simp only [List.flatMap_cons, List.flatMap_nil, List.append_nil]
      unfold knownAt
      split
      · simp
      · split <;> simp
    omega

theorem known_loop (fuel d : Nat) {h0 : AHeap} {i j : Nat} {v : List Int} (ha0 : IsAssign h0 i j v) : ∀ (n m : Nat) (s3 : Sl) (h : AHeap), v.length < n + m → m ≤ v.length → Ext h0 h → s3.From h0.rows.length → Grown h 1 s3 (intsC ((List.range m).flatMap (knownAt v))) →
    ∃ s' h', l23_0 fuel d n [(3, .slice s3), (9, .slice (aSl j v)), (10, .int .i64 (v.length : Int)), (11, .int .i64 (m : Int))] h = some (.exit 0, [(3, .slice s')], h') ∧ Ext h0 h' ∧ Grown h' 1 s' (intsC (knownOf v)) := by
  intro n
  induction n with
  | zero => intro m s3 h h1 h2; omega
  | succ n ih =>
    intro m s3 h h1 h2 hx hf hg
    have ha := ha0.keep hx id id
    have hsm := ha.small
    have hgl : s3.len ≤ m := by have := hg.len; have h9 := knownLen v m; simp only [List.length_map] at this; omega
    rw [l23_0_eq]
    by_cases hm : m < v.length
    · rw [bif_pos (by omega)]
      obtain ⟨r1, r2⟩ := ha.read hm
      have hv := ha.all _ (getD_mem hm)
      have hr : (List.range (m + 1)).flatMap (knownAt v) = (List.range m).flatMap (knownAt v) ++ knownAt v m := by
        rw [List.range_succ, List.flatMap_append]; simp
      have hwm : IntKind.wrap .i64 (0 - (m : Int)) = -(m : Int) := by rw [wrap64 (by omega) (by omega)]; omega
      simp only [r1, r2, Option.bind_some, int_int]
      by_cases h1' : v.getD m 0 = 1
      · obtain ⟨g0, s', h', g1, g2, g3, g4, g5⟩ := growOneExt (bytes := 8) (vs := [.int .i64 (m : Int)]) hx hf hg rfl (by omega) (by omega)
        rw [bif_pos h1']
        simp only [g0, g1, Option.bind_some, k23_1_n]
        rw [bif_neg (show ¬ v.getD m 0 = 2 by omega)]
        simp only [succI (show m < 9000000000000000000 by omega)]
        refine ih (m + 1) s' h' (by omega) (by omega) g4 g5 ?_
        rw [hr]
        have : knownAt v m = [(m : Int)] := by unfold knownAt; rw [if_pos h1']
        rw [this]
        simpa using g2
      · rw [bif_neg h1']
        simp only [Option.bind_some, k23_1_n]
        by_cases h2' : v.getD m 0 = 2
        · obtain ⟨g0, s', h', g1, g2, g3, g4, g5⟩ := growOneExt (bytes := 8) (vs := [.int .i64 (-(m : Int))]) hx hf hg rfl (by omega) (by omega)
          rw [bif_pos h2']
          simp only [hwm, g0, g1, Option.bind_some, succI (show m < 9000000000000000000 by omega)]
          refine ih (m + 1) s' h' (by omega) (by omega) g4 g5 ?_
          rw [hr]
          have : knownAt v m = [-(m : Int)] := by unfold knownAt; rw [if_neg h1', if_pos h2']
          rw [this]
          simpa using g2
        · rw [bif_neg h2']
          simp only [succI (show m < 9000000000000000000 by omega)]
          refine ih (m + 1) s3 h (by omega) (by omega) hx hf ?_
          rw [hr]
          have : knownAt v m = [] := by unfold knownAt; rw [if_neg h1', if_neg h2']
          rw [this, List.append_nil]
          exact hg
    · have : m = v.length := by omega
      subst this
      rw [bif_neg (by omega)]
      exact ⟨s3, h, rfl, hx, hg⟩

theorem known23 (fuel d : Nat) {h : AHeap} {i j : Nat} {v : List Int} (ha : IsAssign h i j v) (hf : v.length < fuel) :
    ∃ s' h', run fuel (d + 1) 23 [.ptr (aPt i)] h = some (.slice s', h') ∧ Ext h h' ∧ Grown h' 1 s' (intsC (knownOf v)) := by
  obtain ⟨s', h', e1, e2, e3⟩ := known_loop fuel d ha fuel 0 .nil h (by omega) (by omega) (.refl _ _) (.nil _) .nil
  refine ⟨s', h', ?_, e2, e3⟩
  rw [e23]
  rw [show ((0 : Nat) : Int) = 0 from rfl] at e1
  simp only [chk_mk, Option.bind_some, field_mk, Nat.add_zero, ha.cell, slice_slice, len_mk, e1, k23_0_x0]

end Go.Proofs.Ythccobceodgmlaa
