/-
  Arguments that came in, as rows that are never written.
-/
import Derived.Test.YthccobceodgmlaaAm22
import Derived.DataShut
namespace Go.Proofs.Ythccobceodgmlaa
open Go.RowKit

theorem Given.cells {h : AHeap} {sz : Nat} {s : Sl} {cs : List AVal} (hg : Given h sz s cs) : h.sliceCells sz s = some cs := by
  cases hg with
  | nil => rfl
  | none => rfl
  | row h1 h2 h3 h4 h5 hl =>
    subst h2 h3
    rw [sliceCells_of (r := ⟨_, 0, 0⟩) h1 rfl (by simp [h4]) (Nat.zero_le _) (by simpa using hl), List.drop_zero]

theorem ext_of {h h' : AHeap} (hk : ∀ (i : Nat) row, h.rows[i]? = some row → h'.rows[i]? = some row) : Ext h h' := by
  refine ⟨Nat.le_of_not_lt fun hlt => ?_, fun i row hi _ => hk i row hi⟩
  have := hk h'.rows.length _ (List.getElem?_eq_getElem hlt)
  have := (List.getElem?_eq_some_iff.1 this).1
  omega

/-- A slice of integers that came in: nil; or a row of cells, the first 'len' its elements. -/
def IsRow (k : IntKind) (w : World) (a : Option Addr) (len cap : Nat) (zs : List Int) : Prop :=
  (a = none ∧ len = 0 ∧ cap = 0 ∧ zs = []) ∨
  ∃ x, a = some x ∧ len ≤ cap ∧ cap ≤ maxLen ∧ zs.length = cap ∧ (∀ i, i < zs.length → w.cell? (x.add i) = some (.int k (zs.getD i 0))) ∧ ∀ n ∈ zs, (Lit.int k n).wf = true

section
variable {B : Nat} {μ : Mu} {h : AHeap} {w : World}

theorem rowArg {k : IntKind} (hr : HRel μ B h w) (hro : h.allRo) {a : Option Addr} {len cap : Nat} {zs : List Int} (w0 : IsRow k w a len cap zs) :
    ∃ μ' h' s, μ.le μ' ∧ HRel μ' B h' w ∧ h'.allRo ∧ VRel μ' (.slice s) (.slice a len cap) ∧ s.len = len ∧ h'.sliceCells 1 s = some ((zs.take len).map (.int k)) ∧ Ext h h' ∧ (∀ n ∈ zs.take len, (Lit.int k n).wf = true) := by
  rcases w0 with ⟨rfl, rfl, rfl, rfl⟩ | ⟨x, rfl, hl, hm, hz, hcell, hwz⟩
  · exact ⟨μ, h, .nil, μ.le_refl, hr, hro, .nilslice, rfl, rfl, Keeps.refl _ _, by simp⟩
  · have hc : CRel1 μ (zs.map (AVal.int k)) (zs.map (Value.int k)) := by
      refine ⟨⟨by simp, fun i c d hc hd => ?_⟩, fun d hd => ?_⟩
      · rw [List.getElem?_map] at hc hd
        cases hi : zs[i]? with
        | none => rw [hi] at hc; cases hc
        | some z =>
          rw [hi] at hc hd
          cases hc; cases hd
          exact .int
      · obtain ⟨z, _, rfl⟩ := List.mem_map.1 hd
        rfl
    obtain ⟨μ', h', s, h1, h2, h3, h4, h5, h6, h7⟩ := hr.givenSlice hro 1 hc hl (by simpa using hz.symm) (by omega) (a := x) fun i y hy => by
      rw [List.getElem?_map] at hy
      cases hi : zs[i]? with
      | none => rw [hi] at hy; cases hy
      | some z =>
        rw [hi] at hy
        cases hy
        have hlt := (List.getElem?_eq_some_iff.1 hi).1
        rw [hcell i hlt]
        simp [hi]
    refine ⟨μ', h', s, h1, h2, h3, h4, h5, ?_, ext_of h7, fun n hn => hwz n (List.mem_of_mem_take hn)⟩
    have := h6.cells
    rwa [Nat.mul_one, ← List.map_take] at this

theorem wf64 {n : Int} (h : (Lit.int .i64 n).wf = true) : -9223372036854775808 ≤ n ∧ n ≤ 9223372036854775807 := (Lit.wf_int_iff .i64 n).1 h

end
end Go.Proofs.Ythccobceodgmlaa
