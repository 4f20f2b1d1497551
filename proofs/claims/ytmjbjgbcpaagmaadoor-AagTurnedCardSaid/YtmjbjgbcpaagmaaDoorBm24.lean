/-
  Arguments that came in, as values.
-/
import Derived.Test.YtmjbjgbcpaagmaaDoorBm23
import Derived.DataShut
import Derived.SizedLaws
import Derived.Deep.Matrix
import Derived.Deep.SlicePairs
import Derived.Deep.Grids
namespace Go.Proofs.YtmjbjgbcpaagmaaDoor
open Go.RowKit Go.ChangeShapes

/-- A slice of integers that came in: nil; or a row of cells, the first 'len' its elements. -/
def IsRow (k : IntKind) (w : World) (a : Option Addr) (len cap : Nat) (zs : List Int) : Prop :=
  (a = none ∧ len = 0 ∧ cap = 0 ∧ zs = []) ∨
  ∃ x, a = some x ∧ len ≤ cap ∧ cap ≤ maxLen ∧ zs.length = cap ∧ (∀ i, i < zs.length → w.cell? (x.add i) = some (.int k (zs.getD i 0))) ∧ ∀ n ∈ zs, (Lit.int k n).wf = true

/-- A slice of slices of integers that came in. -/
def IsGrid (k : IntKind) (w : World) (a : Option Addr) (len cap : Nat) (A : Nat → Option Addr) (L C : Nat → Nat) (Z : Nat → List Int) : Prop :=
  (a = none ∧ len = 0 ∧ cap = 0) ∨
  ∃ x, a = some x ∧ len ≤ cap ∧ ∀ r, r < cap → w.cell? (x.add r) = some (.slice (A r) (L r) (C r)) ∧ IsRow k w (A r) (L r) (C r) (Z r)

/-- A slice of pairs of integers that came in. -/
def IsPairs (w : World) (a : Option Addr) (len cap : Nat) (zs : List (Int × Int)) : Prop :=
  (a = none ∧ len = 0 ∧ cap = 0 ∧ zs = []) ∨
  ∃ x, a = some x ∧ len ≤ cap ∧ zs.length = cap ∧ ∀ i, i < cap → w.cell? (x.add (i * 2)) = some (.int .i64 (zs.getD i (0, 0)).1) ∧ w.cell? (x.add (i * 2 + 1)) = some (.int .i64 (zs.getD i (0, 0)).2)

/-- A slice of bools that came in. -/
def IsBools (w : World) (a : Option Addr) (len cap : Nat) (zs : List Bool) : Prop :=
  (a = none ∧ len = 0 ∧ cap = 0 ∧ zs = []) ∨
  ∃ x, a = some x ∧ len ≤ cap ∧ zs.length = cap ∧ ∀ i, i < cap → w.cell? (x.add i) = some (.bool (zs.getD i false))

section
variable {w : World} {tok : Nat → Option Addr}

theorem map_rel {α : Type} {μ : Mu} {f : α → AVal} {g : α → Value} {l : List α} (h : ∀ a ∈ l, VRel μ (f a) (g a) ∧ (g a).oneCell' = true) : CRel1 μ (l.map f) (l.map g) := by
  refine ⟨⟨by simp, fun i c d hc hd => ?_⟩, fun d hd => ?_⟩
  · rw [List.getElem?_map] at hc hd
    cases hi : l[i]? with
    | none => rw [hi] at hc; cases hc
    | some z =>
      rw [hi] at hc hd
      cases hc; cases hd
      exact (h z (List.mem_of_getElem? hi)).1
  · obtain ⟨z, hz, rfl⟩ := List.mem_map.1 hd
    exact (h z hz).2

theorem rowArg {k : IntKind} {a : Option Addr} {len cap : Nat} {zs : List Int} (w0 : IsRow k w a len cap zs) :
    VRel (Mu.start w tok) (.slice (lstM (.int k) (zs.take len))) (.slice a len cap) ∧ (zs.take len).length = len ∧ (∀ n ∈ zs.take len, (Lit.int k n).wf = true) := by
  rcases w0 with ⟨rfl, rfl, rfl, rfl⟩ | ⟨x, rfl, hl, hm, hz, hcell, hwz⟩
  · exact ⟨.lst0 (fun h => by cases h) fun _ => rfl, rfl, by simp⟩
  · have hlen : (zs.take len).length = len := by simp; omega
    refine ⟨?_, hlen, fun n hn => hwz n (List.mem_of_mem_take hn)⟩
    have := VRel.startSlice (tok := tok) 1 (map_rel (f := AVal.int k) (g := Value.int k) (l := zs) fun z _ => ⟨.int, rfl⟩) hl (by simpa using hz.symm) (by omega) (a := x) fun i y hy => by
      rw [List.getElem?_map] at hy
      cases hi : zs[i]? with
      | none => rw [hi] at hy; cases hy
      | some z =>
        rw [hi] at hy
        cases hy
        have hlt := (List.getElem?_eq_some_iff.1 hi).1
        rw [hcell i hlt]
        simp [hi]
    rw [Nat.mul_one, ← List.map_take] at this
    unfold lstM
    rw [hlen]
    exact this

theorem byteArg {a : Option Addr} {len cap : Nat} {zs : List Int} (w0 : IsRow .u8 w a len cap zs) : ∃ b : List UInt8, VRel (Mu.start w tok) (.slice (lstU b)) (.slice a len cap) ∧ b.length = len := by
  obtain ⟨h1, h2, h3⟩ := rowArg (tok := tok) w0
  refine ⟨(zs.take len).map fun n => UInt8.ofNat n.toNat, ?_, by simpa using h2⟩
  have := bytesC_of (zs := zs.take len) fun n hn => (Lit.wf_int_iff .u8 n).1 (h3 n hn)
  unfold lstM at h1
  rw [this] at h1
  unfold lstU lstM
  rw [List.length_map]
  exact h1

theorem gridArg {a : Option Addr} {len cap : Nat} {A : Nat → Option Addr} {L C : Nat → Nat} {Z : Nat → List Int} (w0 : IsGrid .i64 w a len cap A L C Z) :
    VRel (Mu.start w tok) (.slice (lstLL ((List.range len).map fun r => (Z r).take (L r)))) (.slice a len cap) := by
  rcases w0 with ⟨rfl, rfl, rfl⟩ | ⟨x, rfl, hl, hcell⟩
  · exact .lst0 (fun h => by cases h) fun _ => rfl
  · have := VRel.startSlice (tok := tok) 1 (map_rel (f := fun r => AVal.slice (lstI ((Z r).take (L r)))) (g := fun r => Value.slice (A r) (L r) (C r)) (l := List.range cap) fun r hr => ⟨(rowArg (hcell r (List.mem_range.1 hr)).2).1, rfl⟩) hl (by simp) (by omega) (a := x) fun i y hy => by
      rw [List.getElem?_map] at hy
      cases hi : (List.range cap)[i]? with
      | none => rw [hi] at hy; cases hy
      | some r =>
        have hlt := (List.getElem?_eq_some_iff.1 hi).1
        rw [List.length_range] at hlt
        rw [List.getElem?_range hlt] at hi
        cases hi
        rw [List.getElem?_range hlt] at hy
        cases hy
        exact (hcell i hlt).1
    have e : lstLL ((List.range len).map fun r => (Z r).take (L r)) = .lst len false (((List.range cap).map fun r => AVal.slice (lstI ((Z r).take (L r)))).take (len * 1)) := by
      rw [Nat.mul_one, ← List.map_take, List.take_range, Nat.min_eq_left hl]
      simp [lstLL, lstM]
    rw [e]
    exact this

theorem pairArg {a : Option Addr} {len cap : Nat} {zs : List (Int × Int)} (w0 : IsPairs w a len cap zs) : VRel (Mu.start w tok) (.slice (lstP (zs.take len))) (.slice a len cap) ∧ (zs.take len).length = len := by
  rcases w0 with ⟨rfl, rfl, rfl, rfl⟩ | ⟨x, rfl, hl, hz, hcell⟩
  · exact ⟨.lst0 (fun h => by cases h) fun _ => rfl, rfl⟩
  · have eqc : pairsC zs = (zs.flatMap fun p => [p.1, p.2]).map (AVal.int .i64) := by
      rw [List.map_flatMap]; rfl
    have hlen : (zs.flatMap fun p => [p.1, p.2]).length = zs.length * 2 := by
      have := pairsC_len zs
      rw [eqc, List.length_map] at this
      exact this
    have hc : CRel1 (Mu.start w tok) (pairsC zs) ((zs.flatMap fun p => [p.1, p.2]).map (Value.int .i64)) := by
      rw [eqc]
      exact map_rel fun z _ => ⟨.int, rfl⟩
    have := VRel.startSlice (tok := tok) 2 hc hl (by simp only [List.length_map, hlen]; omega) (by omega) (a := x) fun i y hy => by
      rw [List.getElem?_map] at hy
      cases hi : (zs.flatMap fun p => [p.1, p.2])[i]? with
      | none => rw [hi] at hy; cases hy
      | some z =>
        rw [hi] at hy
        cases hy
        have hlt := (List.getElem?_eq_some_iff.1 hi).1
        rw [hlen] at hlt
        have hq : i / 2 < zs.length := by omega
        obtain ⟨g0, g1⟩ := pairsC_get (getD_get hq (0, 0))
        rw [eqc, List.getElem?_map] at g0 g1
        obtain ⟨c0, c1⟩ := hcell (i / 2) (by omega)
        rcases Nat.mod_two_eq_zero_or_one i with hm | hm
        · have e : i = i / 2 * 2 + 0 := by omega
          rw [← e, hi] at g0
          have e' : i / 2 * 2 = i := by omega
          rw [e'] at c0
          simp at g0
          rw [c0, g0, List.getD_eq_getElem?_getD]
        · have e : i = i / 2 * 2 + 1 := by omega
          rw [← e, hi] at g1
          rw [← e] at c1
          simp at g1
          rw [c1, g1, List.getD_eq_getElem?_getD]
    have hl2 : (zs.take len).length = len := by simp; omega
    refine ⟨?_, hl2⟩
    unfold lstP lstN
    rw [hl2]
    rwa [show pairsC zs = zs.flatMap (fun p => [AVal.int .i64 p.1, AVal.int .i64 p.2]) from rfl, flatMap_take (sz := 2) (fun _ => rfl)] at this

theorem boolArg {a : Option Addr} {len cap : Nat} {zs : List Bool} (w0 : IsBools w a len cap zs) : VRel (Mu.start w tok) (.slice (lstB (zs.take len))) (.slice a len cap) ∧ (zs.take len).length = len := by
  rcases w0 with ⟨rfl, rfl, rfl, rfl⟩ | ⟨x, rfl, hl, hz, hcell⟩
  · exact ⟨.lst0 (fun h => by cases h) fun _ => rfl, rfl⟩
  · have hl2 : (zs.take len).length = len := by simp; omega
    refine ⟨?_, hl2⟩
    have := VRel.startSlice (tok := tok) 1 (map_rel (f := AVal.bool) (g := Value.bool) (l := zs) fun z _ => ⟨.bool, rfl⟩) hl (by simp; omega) (by omega) (a := x) fun i y hy => by
      rw [List.getElem?_map] at hy
      cases hi : zs[i]? with
      | none => rw [hi] at hy; cases hy
      | some z =>
        rw [hi] at hy
        cases hy
        have hlt := (List.getElem?_eq_some_iff.1 hi).1
        rw [hcell i (by omega)]
        simp [hi]
    rw [Nat.mul_one, ← List.map_take] at this
    unfold lstB lstM
    rw [hl2]
    exact this

theorem wf64 {n : Int} (h : (Lit.int .i64 n).wf = true) : -9223372036854775808 ≤ n ∧ n ≤ 9223372036854775807 := (Lit.wf_int_iff .i64 n).1 h

end

/-! What the row's own reach says of slices in a slice. -/

theorem weightsAll_mem {H : Type} {P : Program} {e : TypeId} : ∀ {ds : List (DataW H)} {d : DataW H}, d ∈ ds → ∀ n ∈ d.weights P e, n ∈ DataW.weightsAll P e ds
  | x :: ds, d, hd, n, hn => by
    simp only [DataW.weightsAll, List.mem_append]
    rcases List.mem_cons.1 hd with rfl | hd
    · exact .inl hn
    · exact .inr (weightsAll_mem hd n hn)

theorem sized_grid {H : Type} {P : Program} {ts : List TypeId} {ds : List (DataW H)} (h : (DataW.weightsEach P ts ds).all (· ≤ reachBytes) = true) {j : Nat} {t e q : TypeId} {len : Nat} {A : Nat → Option Addr} {L : Nat → Nat} {Z : Nat → List Int} {spare : List (DataW H)}
    (ht : ts[j]? = some t) (hd : ds[j]? = some (.slice ((List.range len).map fun r => Go.Deep.intRow .i64 (A r) (L r) (Z r)) spare)) (hu : P.underlying t = some (.slice e)) (hv : P.underlying e = some (.slice q)) (hq : P.bytesOf q = 8) (hA : ∀ r, A r = none → Z r = []) :
    ∀ r, r < len → (Z r).length ≤ 140737488355328 := by
  intro r hr
  cases ha : A r with
  | none => rw [hA r ha]; simp
  | some a =>
    have hmem : (Go.Deep.intRow .i64 (A r) (L r) (Z r) : DataW H) ∈ (List.range len).map fun r => Go.Deep.intRow .i64 (A r) (L r) (Z r) := List.mem_map.2 ⟨r, List.mem_range.2 hr, rfl⟩
    have hw : (((lits .i64 ((Z r).take (L r)) : List (DataW H)).length + (lits .i64 ((Z r).drop (L r)) : List (DataW H)).length) * P.bytesOf q) ∈ (Go.Deep.intRow .i64 (A r) (L r) (Z r) : DataW H).weights P e := by
      rw [ha]
      simp [Go.Deep.intRow, DataW.weights, hv]
    have h1 := weightsAll_mem hmem _ hw
    have h2 : (((lits .i64 ((Z r).take (L r)) : List (DataW H)).length + (lits .i64 ((Z r).drop (L r)) : List (DataW H)).length) * P.bytesOf q) ∈ (DataW.slice ((List.range len).map fun r => Go.Deep.intRow .i64 (A r) (L r) (Z r)) spare : DataW H).weights P t := by
      simp only [DataW.weights, hu, List.mem_cons, List.mem_append]
      exact .inr (.inl h1)
    have h3 := List.all_eq_true.1 h _ (DataW.weights_mem_each ht hd _ h2)
    rw [hq] at h3
    simp [lits, reachBytes] at h3
    omega

end Go.Proofs.YtmjbjgbcpaagmaaDoor
