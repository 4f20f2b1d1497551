/-
  Texts as lists of bytes.
-/
import Derived.Test.YtdkckkhghghhdaaDoorBm31
import Derived.Test.YtdkckkhghghhdaaDoorWd0
namespace Go.Proofs.YtdkckkhghghhdaaDoor
open Go.RowKit

abbrev tx (l : List UInt8) : ByteArray := ⟨l.toArray⟩
theorem tx_of (s : ByteArray) : s = tx s.data.toList := by cases s; simp
theorem tx_size (l : List UInt8) : ByteArray.size (tx l) = l.length := by simp [ByteArray.size]
theorem tx_drop (l : List UInt8) : ByteArray.extract (tx l) 1 l.length = tx (l.drop 1) := by
  apply ByteArray.ext
  rw [ByteArray.data_extract]
  apply Array.ext'
  simp
  rw [List.take_of_length_le (by simp)]

theorem u8_is (x c : UInt8) : ((x.toNat : Int) = (c.toNat : Int)) ↔ x = c := by
  rw [← UInt8.toNat_inj]; omega

theorem u8_dec (x c : UInt8) : decide ((x.toNat : Int) = (c.toNat : Int)) = (x == c) := by
  by_cases h : x = c
  · subst h; simp
  · rw [decide_eq_false (fun e => h ((u8_is x c).1 e)), beq_false_of_ne h]
theorem or2 (p q : Prop) [Decidable p] [Decidable q] : (bif decide p then true else decide q) = decide (p ∨ q) := by
  by_cases h1 : p <;> by_cases h2 : q <;> simp [h1, h2]
end Go.Proofs.YtdkckkhghghhdaaDoor
