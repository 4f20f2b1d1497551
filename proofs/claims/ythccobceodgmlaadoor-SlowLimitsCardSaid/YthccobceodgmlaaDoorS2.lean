/-
  All values, one by one; who wins with the values that stand.
-/
import Derived.Test.YthccobceodgmlaaDoorS1
namespace Go.Proofs.YthccobceodgmlaaDoor
open Go.RowKit

/-- The next values; false: these were the last ones. -/
def incB : List Bool → Bool × List Bool
  | [] => (false, [])
  | true :: l => ((incB l).1, false :: (incB l).2)
  | false :: l => (true, true :: l)

theorem incB_len : ∀ l : List Bool, (incB l).2.length = l.length
  | [] => rfl
  | true :: l => by simp [incB, incB_len l]
  | false :: l => by simp [incB]

theorem setB {l : List Bool} {k : Nat} (h : k < l.length) (b : Bool) : l.set k b = l.take k ++ b :: l.drop (k + 1) := by
  rw [List.set_eq_take_append_cons_drop, if_pos h]
theorem setB_take {l : List Bool} {k : Nat} (h : k < l.length) (b : Bool) : (l.set k b).take (k + 1) = l.take k ++ [b] := by
  rw [setB h, List.take_append, List.take_of_length_le (by simp; omega)]
  simp
  rw [show k + 1 - min k l.length = 1 by omega]
  rfl
theorem setB_get {l : List Bool} {k : Nat} (h : k < l.length) (b : Bool) : (l.set k b).getD k false = b := by
  rw [List.getD_eq_getElem?_getD, List.getElem?_set_self h, Option.getD_some]

theorem next_loop (fuel d : Nat) {id gen n : Nat} {c : Bool} (hn : n < 1000000) : ∀ (m k : Nat) (l : List Bool) (h : AHeap), n < m + k → k ≤ n → l.length = n → Own h 1 id gen n (boolsC l) →
    ∃ h', (l_slow_next_0 fuel d m [(0, .slice (.mk ⟨id, gen, 0⟩ n c)), (5, .int .i64 (k : Int))] h).bind (fun p => k_slow_next_0 fuel d p.1 p.2.1 p.2.2) = some (.bool (incB (l.drop k)).1, h') ∧
      Own h' 1 id gen n (boolsC (l.take k ++ (incB (l.drop k)).2)) ∧ Keeps h h' (· = id) ∧ h'.rows.length = h.rows.length := by
  intro m
  induction m with
  | zero => intro k l h h1 h2; omega
  | succ m ih =>
    intro k l h h1 h2 hl ho
    rw [l_slow_next_0_eq, len_mk]
    by_cases hk : k < n
    · rw [bif_pos (by omega)]
      obtain ⟨r1, r2⟩ := readB (ho.cells c) (j := k) (by omega)
      rw [drop_get (l := l) (by omega) false]
      obtain ⟨a1, h5, s1, o5, k5, n5⟩ := ho.boolsStore (j := k) hk c (!l.getD k false)
      obtain ⟨q1, q2⟩ := readB (o5.cells c) (j := k) (by rw [List.length_set]; omega)
      rw [setB_get (by omega)] at q2
      simp only [r1, r2, Option.bind_some, bool_bool, s1, q1, q2]
      cases hb : l.getD k false with
      | true =>
        rw [hb] at o5
        obtain ⟨h', g1, g2, g3, g4⟩ := ih (k + 1) (l.set k false) h5 (by omega) (by omega) (by simpa using hl) o5
        have ed : (l.set k false).drop (k + 1) = l.drop (k + 1) := by rw [List.drop_set, if_pos (by omega)]
        rw [ed, setB_take (by omega)] at g2
        rw [ed] at g1
        refine ⟨h', ?_, by simpa [incB] using g2, k5.trans g3, by omega⟩
        rw [succI (by omega)]
        exact g1
      | false =>
        rw [hb, setB (by omega)] at o5
        exact ⟨h5, by simp [k_slow_next_0_r, incB], o5, k5, n5⟩
    · have : k = n := by omega
      subst this
      rw [bif_neg (by omega), List.drop_eq_nil_of_le (by omega), List.take_of_length_le (by omega)]
      exact ⟨h, by simp only [Option.bind_some, k_slow_next_0_x0]; rfl, by simpa [incB] using ho, Keeps.refl _ _, rfl⟩

theorem next_run (fuel d : Nat) {id gen n : Nat} {c : Bool} (hn : n < 1000000) (hf : n < fuel) {k : Nat} {l : List Bool} {h : AHeap} (hk : k ≤ n) (hl : l.length = n) (ho : Own h 1 id gen n (boolsC l)) :
    ∃ h', run fuel (d + 1) F_slow_next [.slice (.mk ⟨id, gen, 0⟩ n c), .int .i64 (k : Int)] h = some (.bool (incB (l.drop k)).1, h') ∧
      Own h' 1 id gen n (boolsC (l.take k ++ (incB (l.drop k)).2)) ∧ Keeps h h' (· = id) ∧ h'.rows.length = h.rows.length := by
  rw [e_slow_next]
  exact next_loop fuel d hn fuel k l h (by omega) hk hl ho

def valB : List Bool → Nat
  | [] => 0
  | b :: l => (if b then 1 else 0) + 2 * valB l

theorem incB_val : ∀ {b : List Bool}, (incB b).1 = true → valB (incB b).2 = valB b + 1
  | [], h => by simp [incB] at h
  | true :: l, h => by
    have := incB_val (b := l) (by simpa [incB] using h)
    simp [incB, valB, this]
    omega
  | false :: l, h => by simp [incB, valB]; omega

theorem incB_last : ∀ {b : List Bool}, (incB b).1 = false → ∀ b' : List Bool, b'.length = b.length → valB b' ≤ valB b
  | [], _, b', hl => by
    have : b' = [] := List.eq_nil_of_length_eq_zero hl
    subst this; exact Nat.le_refl _
  | true :: l, h, [], hl => by simp at hl
  | true :: l, h, c :: l', hl => by
    have := incB_last (b := l) (by simpa [incB] using h) l' (by simpa using hl)
    simp only [valB]
    cases c <;> simp <;> omega
  | false :: l, h, _, _ => by simp [incB] at h

theorem valB_inj : ∀ {b b' : List Bool}, b.length = b'.length → valB b = valB b' → b = b'
  | [], [], _, _ => rfl
  | [], _ :: _, h, _ => by simp at h
  | _ :: _, [], h, _ => by simp at h
  | c :: l, c' :: l', h, hv => by
    simp only [valB] at hv
    have : c = c' ∧ valB l = valB l' := by cases c <;> cases c' <;> simp at hv <;> first | (refine ⟨rfl, ?_⟩; omega) | (exfalso; omega)
    rw [this.1, valB_inj (by simpa using h) this.2]

theorem valB_lt : ∀ b : List Bool, valB b < 2 ^ b.length
  | [] => by simp [valB]
  | c :: l => by
    have := valB_lt l
    simp only [valB, List.length_cons, Nat.pow_succ]
    cases c <;> simp <;> omega

theorem valB_zero : ∀ n : Nat, valB (List.replicate n false) = 0
  | 0 => rfl
  | n + 1 => by rw [List.replicate_succ]; simp [valB, valB_zero n]

/-- Right clauses: few, short. -/
structure Few (fuel : Nat) (cc : List (List Int)) : Prop where
  many : cc.length < 1000000000
  room : cc.length < fuel
  each : ∀ c ∈ cc, c.length < 1000000000 ∧ c.length < fuel

theorem wins_loop (fuel d : Nat) {id gen n o : Nat} {c ex : Bool} {cc : List (List Int)} {pre : List Bool} (hn : n < 1000000) (hfn : n < fuel) (hc : Few fuel cc) (ho' : o + 1 ≤ n) (hpre : pre.length = 1 + o) : ∀ (m : Nat) (b : List Bool) (h : AHeap), 2 ^ b.length ≤ m + valB b → pre.length + b.length = n → Own h 1 id gen n (boolsC (pre ++ b)) →
    ∃ r h' b2, l_slow_wins_1 fuel (d + 3) m [(0, .slice (lstLL cc)), (1, .slice (.mk ⟨id, gen, 0⟩ n c)), (2, .int .i64 (o : Int)), (3, .bool ex)] h = some (.ret, [(8, .bool r)], h') ∧ Keeps h h' (· = id) ∧ b2.length = b.length ∧ Own h' 1 id gen n (boolsC (pre ++ b2)) ∧ h'.rows.length = h.rows.length ∧
      (r = true ↔ ∀ b' : List Bool, b'.length = b.length → valB b ≤ valB b' → ofI cc (pre ++ b') = ex) := by
  intro m
  induction m with
  | zero => intro b h h1; have := valB_lt b; omega
  | succ m ih =>
    intro b h h1 h2 ho
    have hl' : (pre ++ b).length = n := by simp; omega
    rw [l_slow_wins_1_eq, Of_run fuel d (show freezeV h 8 (.slice (.mk ⟨id, gen, 0⟩ n c)) = some (.slice (lstB (pre ++ b))) by rw [ho.freeze c (freeze_boolsC 6 _), ← hl']) hc.many hc.room hc.each]
    simp only [Option.bind_some, bool_bool]
    by_cases he : ofI cc (pre ++ b) = ex
    · rw [he]
      obtain ⟨h5, e5, o5, k5, n5⟩ := next_run fuel (d + 2) (c := c) (k := 1 + o) hn hfn (by omega) hl' ho
      rw [show IntKind.wrap .i64 ((1 : Int) + (o : Int)) = ((1 + o : Nat) : Int) by rw [wrap64 (by omega) (by omega)]; omega]
      have hd : (pre ++ b).drop (1 + o) = b := by rw [← hpre, List.drop_left]
      have ht : (pre ++ b).take (1 + o) = pre := by rw [← hpre, List.take_left]
      rw [hd] at e5
      rw [hd, ht] at o5
      simp only [beq_self_eq_true, Bool.not_true, cond_false, e5, Option.bind_some, bool_bool]
      cases hi : (incB b).1 with
      | true =>
        have hv := incB_val hi
        obtain ⟨r, h', l', g1, g2, g3, g4, g5, g6⟩ := ih (incB b).2 h5 (by rw [incB_len, hv]; omega) (by rw [incB_len]; exact h2) o5
        refine ⟨r, h', l', by simpa using g1, k5.trans g2, by rw [g3, incB_len], g4, by omega, ?_⟩
        rw [g6, incB_len, hv]
        constructor
        · intro hh b' hb hvb
          by_cases hq : valB b' = valB b
          · rw [valB_inj hb hq]; exact he
          · exact hh b' hb (by omega)
        · intro hh b' hb hvb
          exact hh b' hb (by omega)
      | false =>
        refine ⟨true, h5, _, by simp, k5, incB_len b, o5, n5, ?_⟩
        · refine iff_of_true rfl fun b' hb hvb => ?_
          have := incB_last hi b' hb
          rw [valB_inj hb (by omega)]
          exact he
    · have hb : (!(ofI cc (pre ++ b) == ex)) = true := by simp [he]
      rw [hb]
      refine ⟨false, h, b, by simp, Keeps.refl _ _, rfl, ho, rfl, ?_⟩
      constructor
      · intro hh; cases hh
      · intro hh; exact absurd (hh b rfl (Nat.le_refl _)) he

theorem zero_loop (fuel d : Nat) {id gen n o : Nat} {c ex : Bool} {s0 : Sl} (hn : n < 1000000) : ∀ (m k : Nat) (l : List Bool) (h : AHeap), n < m + k → k ≤ n → l.length = n → Own h 1 id gen n (boolsC l) →
    ∃ h', l_slow_wins_0 fuel d m [(0, .slice s0), (1, .slice (.mk ⟨id, gen, 0⟩ n c)), (2, .int .i64 (o : Int)), (3, .bool ex), (9, .int .i64 (k : Int))] h =
        some (.exit 0, [(0, .slice s0), (1, .slice (.mk ⟨id, gen, 0⟩ n c)), (2, .int .i64 (o : Int)), (3, .bool ex)], h') ∧
      Own h' 1 id gen n (boolsC (l.take k ++ List.replicate (n - k) false)) ∧ Keeps h h' (· = id) ∧ h'.rows.length = h.rows.length := by
  intro m
  induction m with
  | zero => intro k l h h1 h2; omega
  | succ m ih =>
    intro k l h h1 h2 hl ho
    rw [l_slow_wins_0_eq, len_mk]
    by_cases hk : k < n
    · rw [bif_pos (by omega)]
      obtain ⟨a1, h5, s1, o5, k5, n5⟩ := ho.boolsStore (j := k) hk c false
      obtain ⟨h', g1, g2, g3, g4⟩ := ih (k + 1) (l.set k false) h5 (by omega) (by omega) (by simpa using hl) o5
      have er : l.take k ++ List.replicate (n - k) false = (l.take k ++ [false]) ++ List.replicate (n - (k + 1)) false := by
        rw [show n - k = (n - (k + 1)) + 1 by omega, List.replicate_succ]
        simp
      rw [setB_take (by omega)] at g2
      refine ⟨h', ?_, by rw [er]; exact g2, k5.trans g3, by omega⟩
      simp only [a1, s1, Option.bind_some]
      rw [succI (by omega)]
      exact g1
    · have : k = n := by omega
      subst this
      rw [bif_neg (by omega), Nat.sub_self, List.replicate_zero, List.append_nil, List.take_of_length_le (by omega)]
      exact ⟨h, rfl, ho, Keeps.refl _ _, rfl⟩

/-- Whether the outer player wins with the values that stand. -/
theorem wins_run (fuel d : Nat) {id gen n o : Nat} {c ex : Bool} {cc : List (List Int)} {h : AHeap} (hn : n < 1000000) (hfn : n < fuel) (hc : Few fuel cc) (ho' : o + 1 ≤ n) (hf2 : 2 ^ (n - (1 + o)) ≤ fuel) {l : List Bool} (hll : l.length = n) (ho : Own h 1 id gen n (boolsC l)) :
    ∃ r h' b2, run fuel (d + 4) F_slow_wins [.slice (lstLL cc), .slice (.mk ⟨id, gen, 0⟩ n c), .int .i64 (o : Int), .bool ex] h = some (.bool r, h') ∧ Keeps h h' (· = id) ∧ b2.length = n - (1 + o) ∧ Own h' 1 id gen n (boolsC (l.take (1 + o) ++ b2)) ∧ h'.rows.length = h.rows.length ∧
      (r = true ↔ ∀ b' : List Bool, b'.length = n - (1 + o) → ofI cc (l.take (1 + o) ++ b') = ex) := by
  obtain ⟨h1, e1, o1, k1, n1⟩ := zero_loop fuel (d + 3) (o := o) (c := c) (ex := ex) (s0 := lstLL cc) hn fuel (1 + o) l h (by omega) (by omega) hll ho
  obtain ⟨r, h', l', g1, g2, g3, g4, g5, g6⟩ := wins_loop fuel d (c := c) (ex := ex) (pre := l.take (1 + o)) hn hfn hc ho' (by simp; omega) fuel (List.replicate (n - (1 + o)) false) h1 (by rw [valB_zero]; simpa using hf2) (by simp; omega) o1
  refine ⟨r, h', l', ?_, k1.trans g2, by simpa using g3, g4, by omega, ?_⟩
  · rw [e_slow_wins, show IntKind.wrap .i64 ((1 : Int) + (o : Int)) = ((1 + o : Nat) : Int) by rw [wrap64 (by omega) (by omega)]; omega]
    simp only [e1, Option.bind_some, k_slow_wins_0_x0, g1, k_slow_wins_1_r]
  · rw [g6, valB_zero]
    simp

end Go.Proofs.YthccobceodgmlaaDoor
