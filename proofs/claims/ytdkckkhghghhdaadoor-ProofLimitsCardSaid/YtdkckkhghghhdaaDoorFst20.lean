/-
  skolemlaw20.first; 1 as text.
-/
import Derived.Test.YtdkckkhghghhdaaDoorPrt1
namespace Go.Proofs.YtdkckkhghghhdaaDoor
open Go.RowKit

theorem decT_one : decT 1 = [49] := by decide
theorem small_one (fuel d : Nat) (h : AHeap) : run fuel (d + 1) F_strconv_small [.int .i64 1] h = some (.str (tx [49]), h) := by
  refine pure_of rfl rfl (cc1 rfl) (r := .str (tx [49])) (h' := AHeap.none) ?_ rfl
  rw [e_strconv_small]
  rfl
theorem app_one (fuel d : Nat) : AppOk fuel (d + 4) 1 := by
  intro h0 h s t ht hs
  rw [decT_one]
  obtain ⟨s', h', e1, s1⟩ := lit_append hs [49] (m := 1) rfl (by simp; omega)
  refine ⟨s', h', ?_, s1, by simp⟩
  rw [e_strconv_AppendInt, e_internal_strconv_AppendInt, bif_neg (by omega), Option.bind_some, k_internal_strconv_AppendInt_0_n, show IntKind.wrap .u64 1 = 1 from by decide, e_strconv_AppendUint, bif_pos rfl, bif_pos (by omega), show IntKind.wrap .i64 1 = 1 from by decide, small_one]
  simp only [Option.bind_some, str_str]
  rw [show ByteArray.size (tx [49]) = 1 from rfl, show bytesOf (tx [49]) = bytesC [49] from rfl, e1]
  simp only [Option.bind_some, slice_slice]
theorem first20_run (fuel : Nat) {e : Nat} (he : 7 ≤ e) (hf : 20 < fuel) (h : AHeap) : run fuel e F_skolemlaw20_first [] h = some (.bool true, h) := by
  obtain ⟨d, rfl⟩ : ∃ d, e = d + 7 := ⟨e - 7, by omega⟩
  have key : ∃ h', brun fuel (d + 7) F_skolemlaw20_first [] AHeap.none = some (.bool true, h') := by
    have hs : freezeV AHeap.none 8 (.slice (Sl.lst 1 true [(.bool true), (.slice (Sl.lst 1 true [(.int .i64 (1 : Int))]))])) = some (.slice (lstS [(true, [1])])) := rfl
    obtain ⟨ids, e⟩ := bytes_any fuel (d + 4) (L := [(true, [1])]) (by simp) (by simp; omega) (fun s hs => by
      rw [List.mem_singleton.1 hs]
      exact ⟨by simp, by simp; omega, fun x hx => by rw [List.mem_singleton.1 hx]; exact app_one fuel d⟩) hs
    have ht : stepsT [(true, [1])] = [100, 32, 49, 32, 48, 10] := by decide
    rw [ht] at e
    rw [e_skolemlaw20_first, e]
    simp only [Option.bind_some, slice_slice]
    rw [cells_lstM]
    simp only [Option.bind_some, bytesFrom_bytesC]
    exact ⟨_, rfl⟩
  obtain ⟨h', e⟩ := key
  exact pure_of rfl rfl canonL_nil e rfl
end Go.Proofs.YtdkckkhghghhdaaDoor
