/-
  A number's digits.
-/
import Derived.Test.YtdkckkhghghhdaaDoorWd4
namespace Go.Proofs.YtdkckkhghghhdaaDoor
open Go.RowKit

theorem tx_append (a b : List UInt8) : (tx a ++ tx b : ByteArray) = tx (a ++ b) := by
  apply ByteArray.ext
  rw [ByteArray.data_append]
  simp
def digU (k : Nat) : UInt8 := UInt8.ofNat (48 + k % 10)
theorem digU_nat (k : Nat) : (digU k).toNat = 48 + k % 10 := by unfold digU; rw [UInt8.toNat_ofNat']; omega
theorem digU_dig (k : Nat) : isDig (digU k) = true := by
  unfold isDig
  rw [digU_nat, decide_eq_false (by omega), decide_eq_false (by omega)]; rfl
/-- a number's digits, ahead of a text -/
def decA : Nat → Nat → List UInt8 → List UInt8
  | 0, _, acc => acc
  | n + 1, k, acc => if k < 10 then digU k :: acc else decA n (k / 10) (digU k :: acc)
theorem valI_snoc (a : Int) (l : List UInt8) (c : UInt8) : valI a (l ++ [c]) = 10 * valI a l + ((c.toNat : Int) - 48) := by simp [valI]
theorem decA_is : ∀ (n k j : Nat) (acc : List UInt8), k < 10 ^ (j + 1) → j < n → ∃ D, decA n k acc = D ++ acc ∧ D.all isDig = true ∧ 1 ≤ D.length ∧ D.length ≤ j + 1 ∧ valI 0 D = (k : Int)
  | 0, k, j, acc, h1, h2 => by omega
  | n + 1, k, j, acc, h1, h2 => by
    unfold decA
    by_cases hk : k < 10
    · rw [if_pos hk]
      refine ⟨[digU k], rfl, by simp [digU_dig], by simp, by simp, ?_⟩
      simp [valI, digU_nat]
      omega
    · rw [if_neg hk]
      obtain ⟨j, rfl⟩ : ∃ i, j = i + 1 := by
        cases j with
        | zero => simp at h1; omega
        | succ j => exact ⟨j, rfl⟩
      rw [Nat.pow_succ] at h1
      obtain ⟨D, e1, e2, e3, e4, e5⟩ := decA_is n (k / 10) j (digU k :: acc) (by omega) (by omega)
      refine ⟨D ++ [digU k], by rw [e1]; simp, by simp [e2, digU_dig], by simp, by simp; omega, ?_⟩
      rw [valI_snoc, e5, digU_nat]
      omega
/-- a number as text -/
def decN (n : Nat) : List UInt8 := decA (n + 1) n []
def decT (x : Int) : List UInt8 := if x < 0 then 45 :: decN (-x).toNat else decN x.toNat
end Go.Proofs.YtdkckkhghghhdaaDoor
