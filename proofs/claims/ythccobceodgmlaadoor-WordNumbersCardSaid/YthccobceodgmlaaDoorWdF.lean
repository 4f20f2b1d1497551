/-
  skolemlaw3.first.
-/
import Derived.Test.YthccobceodgmlaaDoorWd1
namespace Go.Proofs.YthccobceodgmlaaDoor
open Go.RowKit

theorem first3_run (fuel : Nat) {e : Nat} (he : 4 ≤ e) (hf : 20 < fuel) (h : AHeap) : run fuel e F_skolemlaw3_first [] h = some (.bool true, h) := by
  obtain ⟨d, rfl⟩ : ∃ d, e = d + 4 := ⟨e - 4, by omega⟩
  have key : ∃ h', brun fuel (d + 4) F_skolemlaw3_first [] AHeap.none = some (.bool true, h') := by
    have hs : freezeV (AHeap.push AHeap.none 1 [(.int .u8 (97 : Int)), (.int .u8 (32 : Int)), (.int .u8 (98 : Int))]) 8 (.slice (Sl.mk ⟨AHeap.next AHeap.none, 0, 0⟩ 3 true)) = some (.slice (lstU [97, 32, 98])) := rfl
    obtain ⟨ids, e⟩ := split_any fuel d (b := [97, 32, 98]) (c := false) (by simp) (by simp; omega) hs
    have hsp : splitOf ([97, 32, 98] : List UInt8) false = [⟨[97], 0, true⟩, ⟨[98], 2, false⟩] := by decide
    rw [hsp] at e
    rw [e_skolemlaw3_first, cond_pos _ _ (show AHeap.ownAt (AHeap.push AHeap.none 1 [(.int .u8 (97 : Int)), (.int .u8 (32 : Int)), (.int .u8 (98 : Int))]) (AHeap.next AHeap.none) = true from rfl), e]
    exact ⟨_, rfl⟩
  obtain ⟨h', e⟩ := key
  exact pure_of rfl rfl canonL_nil e rfl
end Go.Proofs.YthccobceodgmlaaDoor
