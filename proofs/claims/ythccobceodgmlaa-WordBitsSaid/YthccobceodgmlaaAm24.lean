/-
  Arguments of more depth, as rows that are never written: slices of slices of numbers, slices of pairs, of bools.
-/
import Derived.Test.YthccobceodgmlaaAm23
import Derived.SizedLaws
import Derived.Deep.Matrix
import Derived.Deep.SlicePairs
import Derived.Deep.Grids
namespace Go.Proofs.Ythccobceodgmlaa
open Go.RowKit Go.ChangeShapes

/-- A slice of slices of integers that came in. -/
def IsGrid (k : IntKind) (w : World) (a : Option Addr) (len cap : Nat) (A : Nat → Option Addr) (L C : Nat → Nat) (Z : Nat → List Int) : Prop :=
  (a = none ∧ len = 0 ∧ cap = 0) ∨
  ∃ x, a = some x ∧ len ≤ cap ∧ ∀ r, r < cap → w.cell? (x.add r) = some (.slice (A r) (L r) (C r)) ∧ IsRow k w (A r) (L r) (C r) (Z r)

/-- A slice of pairs of integers that came in. -/
def IsPairs (w : World) (a : Option Addr) (len cap : Nat) (zs : List (Int × Int)) : Prop :=
  (a = none ∧ len = 0 ∧ cap = 0 ∧ zs = []) ∨
  ∃ x, a = some x ∧ len ≤ cap ∧ zs.length = cap ∧ ∀ i, i < cap → w.cell? (x.add (i * 2)) = some (.int .i64 (zs.getD i (0, 0)).1) ∧ w.cell? (x.add (i * 2 + 1)) = some (.int .i64 (zs.getD i (0, 0)).2)

/-- A slice of bools that came in. -/
def IsBools (w : World) (a : Option Addr) (len cap : Nat) (zs : List Bool) : Prop :=
  (a = none ∧ len = 0 ∧ cap = 0 ∧ zs = []) ∨
  ∃ x, a = some x ∧ len ≤ cap ∧ zs.length = cap ∧ ∀ i, i < cap → w.cell? (x.add i) = some (.bool (zs.getD i false))

section
variable {B : Nat} {μ : Mu} {h : AHeap} {w : World}

theorem gridRows {k : IntKind} {A : Nat → Option Addr} {L C : Nat → Nat} {Z : Nat → List Int} (hr : HRel μ B h w) (hro : h.allRo) : ∀ n, (∀ r, r < n → IsRow k w (A r) (L r) (C r) (Z r)) →
    ∃ (μ' : Mu) (h' : AHeap) (ss : List Sl), ss.length = n ∧ μ.le μ' ∧ HRel μ' B h' w ∧ h'.allRo ∧ Ext h h' ∧ ∀ r, r < n → ∃ s, ss[r]? = some s ∧ VRel μ' (.slice s) (.slice (A r) (L r) (C r)) ∧ h'.sliceCells 1 s = some (((Z r).take (L r)).map (.int k))
  | 0, _ => ⟨μ, h, [], rfl, μ.le_refl, hr, hro, Keeps.refl _ _, fun r hr => by omega⟩
  | n + 1, hw => by
    obtain ⟨μ1, h1, ss, l1, k1, r1, ro1, x1, p1⟩ := gridRows hr hro n fun r hr => hw r (by omega)
    obtain ⟨μ2, h2, s, k2, r2, ro2, v2, _, c2, x2, _⟩ := rowArg r1 ro1 (hw n (by omega))
    refine ⟨μ2, h2, ss ++ [s], by simp [l1], Mu.le_trans k1 k2, r2, ro2, x1.trans x2, fun r hlt => ?_⟩
    by_cases hrn : r < n
    · obtain ⟨t, t1, t2, t3⟩ := p1 r hrn
      exact ⟨t, by rw [List.getElem?_append_left (by omega)]; exact t1, t2.mono k2, sliceCells_ext x2 t3⟩
    · have : r = n := by omega
      subst this
      exact ⟨s, by rw [List.getElem?_append_right (by omega)]; simp [l1], v2, c2⟩

theorem gridArg (hr : HRel μ B h w) (hro : h.allRo) {a : Option Addr} {len cap : Nat} {A : Nat → Option Addr} {L C : Nat → Nat} {Z : Nat → List Int} (w0 : IsGrid .i64 w a len cap A L C Z) :
    ∃ μ' h' s, μ.le μ' ∧ HRel μ' B h' w ∧ h'.allRo ∧ VRel μ' (.slice s) (.slice a len cap) ∧ Nest h' s ((List.range len).map fun r => (Z r).take (L r)) ∧ Ext h h' := by
  rcases w0 with ⟨rfl, rfl, rfl⟩ | ⟨x, rfl, hl, hcell⟩
  · exact ⟨μ, h, .nil, μ.le_refl, hr, hro, .nilslice, ⟨[], rfl, rfl, fun k s' c h => by simp at h⟩, Keeps.refl _ _⟩
  · obtain ⟨μ1, h1, ss, l1, k1, r1, ro1, x1, p1⟩ := gridRows hr hro cap fun r hr => (hcell r hr).2
    have hc : CRel1 μ1 (ss.map AVal.slice) ((List.range cap).map fun r => Value.slice (A r) (L r) (C r)) := by
      refine ⟨⟨by simp [l1], fun i c d hc hd => ?_⟩, fun d hd => ?_⟩
      · rw [List.getElem?_map] at hc hd
        cases hi : (List.range cap)[i]? with
        | none => rw [hi] at hd; cases hd
        | some r =>
          have hlt := (List.getElem?_eq_some_iff.1 hi).1
          rw [List.length_range] at hlt
          rw [List.getElem?_range hlt] at hi
          cases hi
          obtain ⟨s, s1, s2, _⟩ := p1 i hlt
          rw [s1] at hc
          rw [List.getElem?_range hlt] at hd
          cases hc; cases hd
          exact s2
      · obtain ⟨z, _, rfl⟩ := List.mem_map.1 hd
        rfl
    obtain ⟨μ', h', s, q1, q2, q3, q4, q5, q6, q7⟩ := r1.givenSlice ro1 1 hc hl (by simp) (by omega) (a := x) fun i y hy => by
      rw [List.getElem?_map] at hy
      cases hi : (List.range cap)[i]? with
      | none => rw [hi] at hy; cases hy
      | some r =>
        have hlt := (List.getElem?_eq_some_iff.1 hi).1
        rw [List.length_range] at hlt
        rw [List.getElem?_range hlt] at hi
        cases hi
        rw [List.getElem?_range hlt] at hy
        cases hy
        exact (hcell i hlt).1
    have x2 := ext_of q7
    refine ⟨μ', h', s, Mu.le_trans k1 q1, q2, q3, q4, ⟨ss.take len, ?_, by simp [l1]; omega, fun k' s' c hs hc' => ?_⟩, x1.trans x2⟩
    · have := q6.cells
      rwa [Nat.mul_one, ← List.map_take] at this
    · rw [List.getElem?_take] at hs
      split at hs
      case isFalse => cases hs
      rename_i hlt
      rw [List.getElem?_map, List.getElem?_range hlt] at hc'
      cases hc'
      obtain ⟨t, t1, _, t3⟩ := p1 k' (by omega)
      rw [t1] at hs
      cases hs
      exact sliceCells_ext x2 t3

theorem pairArg (hr : HRel μ B h w) (hro : h.allRo) {a : Option Addr} {len cap : Nat} {zs : List (Int × Int)} (w0 : IsPairs w a len cap zs) :
    ∃ μ' h' s, μ.le μ' ∧ HRel μ' B h' w ∧ h'.allRo ∧ VRel μ' (.slice s) (.slice a len cap) ∧ h'.sliceCells 2 s = some (pairsC (zs.take len)) ∧ Ext h h' := by
  rcases w0 with ⟨rfl, rfl, rfl, rfl⟩ | ⟨x, rfl, hl, hz, hcell⟩
  · exact ⟨μ, h, .nil, μ.le_refl, hr, hro, .nilslice, rfl, Keeps.refl _ _⟩
  · have eqc : pairsC zs = (zs.flatMap fun p => [p.1, p.2]).map (AVal.int .i64) := by
      rw [List.map_flatMap]; rfl
    have hlen : (zs.flatMap fun p => [p.1, p.2]).length = zs.length * 2 := by
      have := pairsC_len zs
      rw [eqc, List.length_map] at this
      exact this
    have hc : CRel1 μ (pairsC zs) ((zs.flatMap fun p => [p.1, p.2]).map (Value.int .i64)) := by
      rw [eqc]
      refine ⟨⟨by simp, fun i c d hc hd => ?_⟩, fun d hd => ?_⟩
      · rw [List.getElem?_map] at hc hd
        cases hi : (zs.flatMap fun p => [p.1, p.2])[i]? with
        | none => rw [hi] at hc; cases hc
        | some z =>
          rw [hi] at hc hd
          cases hc; cases hd
          exact .int
      · obtain ⟨z, _, rfl⟩ := List.mem_map.1 hd
        rfl
    obtain ⟨μ', h', s, q1, q2, q3, q4, q5, q6, q7⟩ := hr.givenSlice hro 2 hc hl (by simp only [List.length_map, hlen]; omega) (by omega) (a := x) fun i y hy => by
      rw [List.getElem?_map] at hy
      cases hi : (zs.flatMap fun p => [p.1, p.2])[i]? with
      | none => rw [hi] at hy; cases hy
      | some z =>
        rw [hi] at hy
        cases hy
        have hlt := (List.getElem?_eq_some_iff.1 hi).1
        rw [hlen] at hlt
        have hq : i / 2 < zs.length := by omega
        have hg : zs[i / 2]? = some (zs.getD (i / 2) (0, 0)) := by rw [List.getD_eq_getElem?_getD, List.getElem?_eq_getElem hq]; rfl
        obtain ⟨g0, g1⟩ := pairsC_get hg
        rw [eqc, List.getElem?_map] at g0 g1
        obtain ⟨c0, c1⟩ := hcell (i / 2) (by omega)
        rcases Nat.mod_two_eq_zero_or_one i with hm | hm
        · have e : i = i / 2 * 2 + 0 := by omega
          rw [← e, hi] at g0
          have e' : i / 2 * 2 = i := by omega
          rw [e'] at c0
          simp at g0
          rw [c0, g0, List.getD_eq_getElem?_getD]
        · have e : i = i / 2 * 2 + 1 := by omega
          rw [← e, hi] at g1
          rw [← e] at c1
          simp at g1
          rw [c1, g1, List.getD_eq_getElem?_getD]
    refine ⟨μ', h', s, q1, q2, q3, q4, ?_, ext_of q7⟩
    have := q6.cells
    have htake : ∀ (l : List (Int × Int)) (n : Nat), (pairsC l).take (n * 2) = pairsC (l.take n) := by
      intro l
      induction l with
      | nil => intro n; simp
      | cons p l ih =>
        intro n
        cases n with
        | zero => simp
        | succ n =>
          have e : (n + 1) * 2 = n * 2 + 1 + 1 := by omega
          have ec : pairsC (p :: l) = .int .i64 p.1 :: .int .i64 p.2 :: pairsC l := rfl
          rw [e, ec, List.take_succ_cons, List.take_succ_cons, ih]
          rfl
    rwa [htake] at this

theorem boolArg (hr : HRel μ B h w) (hro : h.allRo) {a : Option Addr} {len cap : Nat} {zs : List Bool} (w0 : IsBools w a len cap zs) :
    ∃ μ' h' s, μ.le μ' ∧ HRel μ' B h' w ∧ h'.allRo ∧ VRel μ' (.slice s) (.slice a len cap) ∧ h'.sliceCells 1 s = some ((zs.take len).map AVal.bool) ∧ Ext h h' := by
  rcases w0 with ⟨rfl, rfl, rfl, rfl⟩ | ⟨x, rfl, hl, hz, hcell⟩
  · exact ⟨μ, h, .nil, μ.le_refl, hr, hro, .nilslice, rfl, Keeps.refl _ _⟩
  · have hc : CRel1 μ (zs.map AVal.bool) (zs.map Value.bool) := by
      refine ⟨⟨by simp, fun i c d hc hd => ?_⟩, fun d hd => ?_⟩
      · rw [List.getElem?_map] at hc hd
        cases hi : zs[i]? with
        | none => rw [hi] at hc; cases hc
        | some z =>
          rw [hi] at hc hd
          cases hc; cases hd
          exact .bool
      · obtain ⟨z, _, rfl⟩ := List.mem_map.1 hd
        rfl
    obtain ⟨μ', h', s, q1, q2, q3, q4, q5, q6, q7⟩ := hr.givenSlice hro 1 hc hl (by simp; omega) (by omega) (a := x) fun i y hy => by
      rw [List.getElem?_map] at hy
      cases hi : zs[i]? with
      | none => rw [hi] at hy; cases hy
      | some z =>
        rw [hi] at hy
        cases hy
        have hlt := (List.getElem?_eq_some_iff.1 hi).1
        rw [hcell i (by omega)]
        simp [hi]
    refine ⟨μ', h', s, q1, q2, q3, q4, ?_, ext_of q7⟩
    have := q6.cells
    rwa [Nat.mul_one, ← List.map_take] at this

end

/-! What the row's own reach says of slices in a slice. -/

theorem weightsAll_mem {H : Type} {P : Program} {e : TypeId} : ∀ {ds : List (DataW H)} {d : DataW H}, d ∈ ds → ∀ n ∈ d.weights P e, n ∈ DataW.weightsAll P e ds
  | x :: ds, d, hd, n, hn => by
    simp only [DataW.weightsAll, List.mem_append]
    rcases List.mem_cons.1 hd with rfl | hd
    · exact .inl hn
    · exact .inr (weightsAll_mem hd n hn)

theorem sized_grid {H : Type} {P : Program} {ts : List TypeId} {ds : List (DataW H)} (h : (DataW.weightsEach P ts ds).all (· ≤ reachBytes) = true) {j : Nat} {t e q : TypeId} {len : Nat} {A : Nat → Option Addr} {L : Nat → Nat} {Z : Nat → List Int} {spare : List (DataW H)}
    (ht : ts[j]? = some t) (hd : ds[j]? = some (.slice ((List.range len).map fun r => Go.Deep.intRow .i64 (A r) (L r) (Z r)) spare)) (hu : P.underlying t = some (.slice e)) (hv : P.underlying e = some (.slice q)) (hq : P.bytesOf q = 8) (hA : ∀ r, A r = none → Z r = []) :
    ∀ r, r < len → (Z r).length ≤ 140737488355328 := by
  intro r hr
  cases ha : A r with
  | none => rw [hA r ha]; simp
  | some a =>
    have hmem : (Go.Deep.intRow .i64 (A r) (L r) (Z r) : DataW H) ∈ (List.range len).map fun r => Go.Deep.intRow .i64 (A r) (L r) (Z r) := List.mem_map.2 ⟨r, List.mem_range.2 hr, rfl⟩
    have hw : (((lits .i64 ((Z r).take (L r)) : List (DataW H)).length + (lits .i64 ((Z r).drop (L r)) : List (DataW H)).length) * P.bytesOf q) ∈ (Go.Deep.intRow .i64 (A r) (L r) (Z r) : DataW H).weights P e := by
      rw [ha]
      simp [Go.Deep.intRow, DataW.weights, hv]
    have h1 := weightsAll_mem hmem _ hw
    have h2 : (((lits .i64 ((Z r).take (L r)) : List (DataW H)).length + (lits .i64 ((Z r).drop (L r)) : List (DataW H)).length) * P.bytesOf q) ∈ (DataW.slice ((List.range len).map fun r => Go.Deep.intRow .i64 (A r) (L r) (Z r)) spare : DataW H).weights P t := by
      simp only [DataW.weights, hu, List.mem_cons, List.mem_append]
      exact .inr (.inl h1)
    have h3 := List.all_eq_true.1 h _ (DataW.weights_mem_each ht hd _ h2)
    rw [hq] at h3
    simp [lits, reachBytes] at h3
    omega

end Go.Proofs.Ythccobceodgmlaa
