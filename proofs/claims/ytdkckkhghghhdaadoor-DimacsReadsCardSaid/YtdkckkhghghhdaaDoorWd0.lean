/-
  Words of a text, as lists of bytes: what both ways of cutting a text give (no program in sight).
-/
import Derived.Test.YtdkckkhghghhdaaDoorBm31
namespace Go.Proofs.YtdkckkhghghhdaaDoor
open Go.RowKit

/-- What a byte is: 0 of a word, 1 a blank, 2 a line's end. -/
def kindI (c : Int) : Int := if c = 32 ∨ c = 9 ∨ c = 13 then 1 else if c = 10 then 2 else 0
def isW (c : UInt8) : Bool := decide (kindI (c.toNat : Int) = 0)

/-- A word of a text. -/
structure Wd where
  text : List UInt8
  pos : Nat
  first : Bool
  deriving DecidableEq

def wdC (w : Wd) : List AVal := [.str ⟨w.text.toArray⟩, .int .i64 (w.pos : Int), .bool w.first]
/-- Where the word ends that goes on at a place. -/
def wEnd (b : List UInt8) (k : Nat) : Nat := k + ((b.drop k).takeWhile isW).length

theorem drop_cons {b : List UInt8} {k : Nat} (h : k < b.length) : b.drop k = b.getD k 0 :: b.drop (k + 1) := by
  rw [List.drop_eq_getElem_cons h, List.getD_eq_getElem?_getD, List.getElem?_eq_getElem h, Option.getD_some]

theorem wEnd_in {b : List UInt8} {k : Nat} (h : k < b.length) (hw : isW (b.getD k 0) = true) : wEnd b k = wEnd b (k + 1) := by
  unfold wEnd
  rw [drop_cons h, List.takeWhile_cons, if_pos hw, List.length_cons]
  omega
theorem wEnd_out {b : List UInt8} {k : Nat} (hw : isW (b.getD k 0) = false) : wEnd b k = k := by
  unfold wEnd
  by_cases h : k < b.length
  · rw [drop_cons h, List.takeWhile_cons, if_neg (by rw [hw]; simp)]
    rfl
  · rw [List.drop_eq_nil_of_le (by omega)]; rfl
theorem wEnd_end {b : List UInt8} {k : Nat} (h : b.length ≤ k) : wEnd b k = k := by
  unfold wEnd
  rw [List.drop_eq_nil_of_le h]; rfl
theorem wEnd_le {b : List UInt8} {k : Nat} (h : k ≤ b.length) : k ≤ wEnd b k ∧ wEnd b k ≤ b.length := by
  unfold wEnd
  have h1 := List.takeWhile_prefix isW (l := b.drop k)
  have := h1.length_le
  rw [List.length_drop] at this
  omega

/-- The words of a line that begins at a place. -/
def lineGo (b : List UInt8) (at_ : Nat) : Nat → Nat → Bool → List Wd
  | 0, _, _ => []
  | n + 1, k, f => if k < b.length then (if isW (b.getD k 0) = true then ⟨(b.drop k).take (wEnd b k - k), at_ + k, f⟩ :: lineGo b at_ n (wEnd b k + 1) false else lineGo b at_ n (k + 1) f) else []

theorem lineGo_fuel {b : List UInt8} {at_ : Nat} : ∀ (n m k : Nat) (f : Bool), b.length < n + k → b.length < m + k → lineGo b at_ n k f = lineGo b at_ m k f
  | 0, m, k, f, h1, h2 => by
    cases m with
    | zero => rfl
    | succ m => simp only [lineGo]; rw [if_neg (by omega)]
  | n + 1, 0, k, f, h1, h2 => by simp only [lineGo]; rw [if_neg (by omega)]
  | n + 1, m + 1, k, f, h1, h2 => by
    simp only [lineGo]
    split
    · rename_i hk
      split
      · have := (wEnd_le (b := b) (k := k) (by omega)).1
        rw [lineGo_fuel n m _ _ (by omega) (by omega)]
      · exact lineGo_fuel n m _ _ (by omega) (by omega)
    · rfl
def lineOf (b : List UInt8) (at_ : Nat) : List Wd := lineGo b at_ (b.length + 1) 0 true

/-- Where the next line's end is, from a place on. -/
def nlOf (b : List UInt8) (at_ : Nat) : Nat := if Lib.indexByte (b.drop at_) 10 < 0 then b.length - at_ else (Lib.indexByte (b.drop at_) 10).toNat

theorem index_lt : ∀ (l : List UInt8) (c : UInt8), Lib.indexByte l c < l.length ∨ l = [] ∧ Lib.indexByte l c = -1
  | [], c => .inr ⟨rfl, rfl⟩
  | x :: l, c => by
    left
    unfold Lib.indexByte
    split
    · simp only [List.length_cons]; omega
    · split
      · simp only [List.length_cons]; omega
      · rcases index_lt l c with h | ⟨rfl, h⟩
        · simp only [List.length_cons]; omega
        · rw [h]; simp

theorem nlOf_le {b : List UInt8} {at_ : Nat} (h : at_ ≤ b.length) : at_ + nlOf b at_ ≤ b.length := by
  unfold nlOf
  split
  · omega
  · rcases index_lt (b.drop at_) 10 with h1 | ⟨h1, h2⟩
    · rw [List.length_drop] at h1; omega
    · omega

/-- A line without its comment. -/
def keepLine (c : Bool) (l : List Wd) : Bool := !c || match l with
  | [] => true
  | w :: _ => w.text.getD 0 0 != 99

def splitGo (b : List UInt8) (c : Bool) : Nat → Nat → List Wd
  | 0, _ => []
  | n + 1, at_ => if at_ < b.length then (if keepLine c (lineOf ((b.drop at_).take (nlOf b at_)) at_) = true then lineOf ((b.drop at_).take (nlOf b at_)) at_ else []) ++ splitGo b c n (at_ + nlOf b at_ + 1) else []
def splitOf (b : List UInt8) (c : Bool) : List Wd := splitGo b c (b.length + 1) 0

theorem splitGo_fuel {b : List UInt8} {c : Bool} : ∀ (n m k : Nat), b.length < n + k → b.length < m + k → splitGo b c n k = splitGo b c m k
  | 0, m, k, h1, h2 => by
    cases m with
    | zero => rfl
    | succ m => simp only [splitGo]; rw [if_neg (by omega)]
  | n + 1, 0, k, h1, h2 => by simp only [splitGo]; rw [if_neg (by omega)]
  | n + 1, m + 1, k, h1, h2 => by
    simp only [splitGo]
    split
    · rw [splitGo_fuel n m _ (by omega) (by omega)]
    · rfl

theorem lineGo_text {b : List UInt8} {at_ : Nat} : ∀ (n k : Nat) (f : Bool), ∀ w ∈ lineGo b at_ n k f, w.text ≠ []
  | 0, k, f, w, hw => by simp [lineGo] at hw
  | n + 1, k, f, w, hw => by
    simp only [lineGo] at hw
    split at hw
    · rename_i hk
      split at hw
      · rename_i hi
        rcases List.mem_cons.1 hw with rfl | hw
        · have := (wEnd_le (b := b) (k := k + 1) (by omega)).1
          rw [← wEnd_in hk hi] at this
          intro e
          have := congrArg List.length e
          simp at this
          omega
        · exact lineGo_text n _ _ w hw
      · exact lineGo_text n _ _ w hw
    · cases hw

theorem lineGo_len {b : List UInt8} {at_ : Nat} : ∀ (n k : Nat) (f : Bool), (lineGo b at_ n k f).length ≤ b.length - k
  | 0, k, f => by simp [lineGo]
  | n + 1, k, f => by
    simp only [lineGo]
    split
    · rename_i hk
      split
      · rename_i hi
        have h1 := lineGo_len (b := b) (at_ := at_) n (wEnd b k + 1) false
        have := (wEnd_le (b := b) (k := k) (by omega)).1
        simp only [List.length_cons]
        omega
      · have h1 := lineGo_len (b := b) (at_ := at_) n (k + 1) f
        omega
    · simp

/-- A part of a text. -/
def part (b : List UInt8) (k e : Nat) : List UInt8 := (b.drop k).take (e - k)

theorem part_app {b : List UInt8} {k e g : Nat} (h1 : k ≤ e) (h2 : e ≤ g) : part b k g = part b k e ++ part b e g := by
  unfold part
  rw [show g - k = (e - k) + (g - e) by omega, List.take_add, List.drop_drop, show k + (e - k) = e by omega]
theorem part_self (b : List UInt8) (k : Nat) : part b k k = [] := by simp [part]
theorem part_len {b : List UInt8} {k e : Nat} (h1 : k ≤ e) (h2 : e ≤ b.length) : (part b k e).length = e - k := by
  simp [part]; omega
theorem part_cons {b : List UInt8} {k e : Nat} (h1 : k < e) (h2 : e ≤ b.length) : part b k e = b.getD k 0 :: part b (k + 1) e := by
  unfold part
  rw [drop_cons (by omega), show e - k = (e - (k + 1)) + 1 by omega, List.take_succ_cons]
theorem part_all (b : List UInt8) : part b 0 b.length = b := by simp [part]

theorem mem_takeWhile {α : Type} {p : α → Bool} : ∀ {l : List α} {x : α}, x ∈ l.takeWhile p → p x = true
  | a :: l, x, h => by
    rw [List.takeWhile_cons] at h
    split at h
    · rcases List.mem_cons.1 h with rfl | h
      · assumption
      · exact mem_takeWhile h
    · cases h

theorem wEnd_word {b : List UInt8} {k : Nat} : part b k (wEnd b k) = (b.drop k).takeWhile isW := by
  unfold part wEnd
  rw [show k + ((b.drop k).takeWhile isW).length - k = ((b.drop k).takeWhile isW).length by omega]
  exact (List.prefix_iff_eq_take.1 (List.takeWhile_prefix isW)).symm

theorem takeWhile_stop {α : Type} {p : α → Bool} (a : α) : ∀ {l : List α}, (l.takeWhile p).length < l.length → p (l.getD (l.takeWhile p).length a) = false
  | [], h => by simp at h
  | x :: l, h => by
    rw [List.takeWhile_cons] at h ⊢
    split
    · rename_i hx
      rw [if_pos hx] at h
      simp only [List.length_cons, List.getD_cons_succ]
      exact takeWhile_stop a (by simpa using h)
    · rename_i hx
      simpa using hx

theorem wEnd_stop {b : List UInt8} {k : Nat} (h : wEnd b k < b.length) : isW (b.getD (wEnd b k) 0) = false := by
  have := takeWhile_stop (p := isW) (0 : UInt8) (l := b.drop k) (by rw [List.length_drop]; unfold wEnd at h; omega)
  rw [List.getD_eq_getElem?_getD, List.getElem?_drop] at this
  rw [List.getD_eq_getElem?_getD]
  exact this

theorem part_line {b : List UInt8} {at_ nl k e : Nat} (h1 : k ≤ e) (h2 : e ≤ nl) : part ((b.drop at_).take nl) k e = part b (at_ + k) (at_ + e) := by
  unfold part
  rw [List.drop_take, List.take_take, List.drop_drop, show at_ + e - (at_ + k) = e - k by omega, Nat.min_eq_left (by omega)]
theorem getD_line {b : List UInt8} {at_ nl k : Nat} (h : k < nl) : ((b.drop at_).take nl).getD k 0 = b.getD (at_ + k) 0 := by
  rw [List.getD_eq_getElem?_getD, List.getElem?_take, if_pos h, List.getElem?_drop, List.getD_eq_getElem?_getD]

theorem isW10 : isW 10 = false := by decide

theorem idx_line : ∀ {l : List UInt8} {c : UInt8}, Lib.indexByte l c < 0 ∧ (∀ x ∈ l, x ≠ c) ∨ ∃ n : Nat, Lib.indexByte l c = (n : Int) ∧ n < l.length ∧ l.getD n 0 = c ∧ ∀ x ∈ l.take n, x ≠ c
  | [], c => .inl ⟨by simp [Lib.indexByte], fun x hx => by cases hx⟩
  | y :: l, c => by
    unfold Lib.indexByte
    by_cases hy : (y == c) = true
    · rw [if_pos hy]
      exact .inr ⟨0, rfl, by simp, by simpa using hy, fun x hx => by cases hx⟩
    · rw [if_neg hy]
      have hyc : y ≠ c := by simpa using hy
      rcases idx_line (l := l) (c := c) with ⟨h1, h2⟩ | ⟨n, h1, h2, h3, h4⟩
      · have := Lib.indexByte_ge l c
        rw [if_pos (by rw [beq_iff_eq]; omega)]
        refine .inl ⟨by omega, fun x hx => ?_⟩
        rcases List.mem_cons.1 hx with rfl | hx
        · exact hyc
        · exact h2 x hx
      · rw [if_neg (by rw [beq_iff_eq]; omega)]
        refine .inr ⟨n + 1, by rw [h1]; rfl, by simp; omega, by simpa using h3, fun x hx => ?_⟩
        rw [List.take_succ_cons] at hx
        rcases List.mem_cons.1 hx with rfl | hx
        · exact hyc
        · exact h4 x hx

theorem splitGo_len {b : List UInt8} {c : Bool} : ∀ (n k : Nat), (splitGo b c n k).length ≤ b.length - k
  | 0, k => by simp [splitGo]
  | n + 1, k => by
    simp only [splitGo]
    split
    · have h1 := splitGo_len (b := b) (c := c) n (k + nlOf b k + 1)
      have hnl := nlOf_le (b := b) (at_ := k) (by omega)
      have h2 : (lineOf ((b.drop k).take (nlOf b k)) k).length ≤ nlOf b k := by
        have := lineGo_len (b := (b.drop k).take (nlOf b k)) (at_ := k) (((b.drop k).take (nlOf b k)).length + 1) 0 true
        have hll : ((b.drop k).take (nlOf b k)).length ≤ nlOf b k := List.length_take_le _ _
        unfold lineOf
        omega
      rw [List.length_append]
      split
      · omega
      · simp only [List.length_nil]; omega
    · simp


/-! the document's way -/
def refGo (b : List UInt8) (c : Bool) : Nat → Nat → Bool → Bool → List Wd
  | 0, _, _, _ => []
  | n + 1, i, f, s => if i < b.length then
      (if b.getD i 0 = 10 then refGo b c n (i + 1) true false else
        if isW (b.getD i 0) = true then (if (s || (c && f && b.getD i 0 == 99)) = true then [] else [⟨(b.drop i).take (wEnd b i - i), i, f⟩]) ++ refGo b c n (wEnd b i) false (s || (c && f && b.getD i 0 == 99))
        else refGo b c n (i + 1) f s)
    else []
theorem refGo_fuel {b : List UInt8} {c : Bool} : ∀ (n m k : Nat) (f s : Bool), b.length < n + k → b.length < m + k → refGo b c n k f s = refGo b c m k f s
  | 0, m, k, f, s, h1, h2 => by
    cases m with
    | zero => rfl
    | succ m => simp only [refGo]; rw [if_neg (by omega)]
  | n + 1, 0, k, f, s, h1, h2 => by simp only [refGo]; rw [if_neg (by omega)]
  | n + 1, m + 1, k, f, s, h1, h2 => by
    simp only [refGo]
    split
    · rename_i hk
      rw [refGo_fuel n m (k + 1) true false (by omega) (by omega), refGo_fuel n m (k + 1) f s (by omega) (by omega)]
      split
      · rfl
      · split
        · rename_i hw
          have := (wEnd_le (b := b) (k := k + 1) (by omega)).1
          rw [← wEnd_in hk hw] at this
          rw [refGo_fuel n m (wEnd b k) _ _ (by omega) (by omega)]
        · rfl
    · rfl
theorem refGo_end {b : List UInt8} {c : Bool} {n k : Nat} {f s : Bool} (h : b.length ≤ k) : refGo b c n k f s = [] := by
  cases n with
  | zero => rfl
  | succ n => simp only [refGo]; rw [if_neg (by omega)]
theorem takeWhile_take {p : UInt8 → Bool} : ∀ (l : List UInt8) (j : Nat), (j < l.length → p (l.getD j 0) = false) → (l.take j).takeWhile p = l.takeWhile p
  | [], j, _ => by simp
  | x :: l, 0, h => by
    have := h (by simp)
    simp at this
    simp [this]
  | x :: l, j + 1, h => by
    rw [List.take_succ_cons, List.takeWhile_cons, List.takeWhile_cons, takeWhile_take l j fun hj => by simpa using h (by simp; omega)]
theorem lineGo_end {b : List UInt8} {at_ n k : Nat} {f : Bool} (h : b.length ≤ k) : lineGo b at_ n k f = [] := by
  cases n with
  | zero => rfl
  | succ n => simp only [lineGo]; rw [if_neg (by omega)]
theorem lineGo_stop {L : List UInt8} {at_ : Nat} {f : Bool} {n e : Nat} (hn : L.length < n + e) (hs : e < L.length → isW (L.getD e 0) = false) : lineGo L at_ n e f = lineGo L at_ n (e + 1) f := by
  by_cases h : e < L.length
  · obtain ⟨n, rfl⟩ : ∃ m, n = m + 1 := ⟨n - 1, by omega⟩
    have h2 : lineGo L at_ (n + 1) e f = lineGo L at_ n (e + 1) f := by
      conv => lhs; unfold lineGo
      rw [if_pos h, if_neg (by rw [hs h]; simp)]
    rw [h2]
    exact lineGo_fuel _ _ _ _ (by omega) (by omega)
  · rw [lineGo_end (by omega), lineGo_end (by omega)]

theorem ref_line {b : List UInt8} {c : Bool} {at_ nl : Nat} (hl : at_ + nl ≤ b.length) (hno : ∀ k, k < nl → b.getD (at_ + k) 0 ≠ 10) (hend : at_ + nl < b.length → b.getD (at_ + nl) 0 = 10) : ∀ (n k m : Nat) (f s : Bool), k ≤ nl → nl < n + k → b.length < m + (at_ + k) →
    refGo b c m (at_ + k) f s = (if s = true then [] else if f = true then (if keepLine c (lineGo ((b.drop at_).take nl) at_ n k true) = true then lineGo ((b.drop at_).take nl) at_ n k true else []) else lineGo ((b.drop at_).take nl) at_ n k false) ++ refGo b c (b.length + 1) (at_ + nl + 1) true false := by
  have hlen : ((b.drop at_).take nl).length = nl := by simp; omega
  have hw10 : isW 10 = false := by decide
  intro n
  induction n with
  | zero => intro k m f s h1 h2; omega
  | succ n ih =>
    intro k m f s h1 h2 h3
    obtain ⟨m, rfl⟩ : ∃ m', m = m' + 1 := ⟨m - 1, by omega⟩
    by_cases hk : k < nl
    · have hkb : at_ + k < b.length := by omega
      have hg := getD_line (b := b) (at_ := at_) (nl := nl) hk
      have hwe : wEnd b (at_ + k) = at_ + wEnd ((b.drop at_).take nl) k := by
        unfold wEnd
        rw [List.drop_take, List.drop_drop, takeWhile_take _ _ fun hj => ?_]
        · omega
        · rw [List.length_drop] at hj
          rw [List.getD_eq_getElem?_getD, List.getElem?_drop, show at_ + k + (nl - k) = at_ + nl by omega, ← List.getD_eq_getElem?_getD, hend (by omega), hw10]
      have hL : ∀ f', lineGo ((b.drop at_).take nl) at_ (n + 1) k f' = if isW (b.getD (at_ + k) 0) = true then ⟨(((b.drop at_).take nl).drop k).take (wEnd ((b.drop at_).take nl) k - k), at_ + k, f'⟩ :: lineGo ((b.drop at_).take nl) at_ n (wEnd ((b.drop at_).take nl) k + 1) false else lineGo ((b.drop at_).take nl) at_ n (k + 1) f' := by
        intro f'
        conv => lhs; unfold lineGo
        rw [if_pos (by rw [hlen]; exact hk), hg]
      conv => lhs; unfold refGo
      rw [if_pos hkb, if_neg (hno k hk), hL, hL]
      by_cases hw : isW (b.getD (at_ + k) 0) = true
      · have hwL : isW (((b.drop at_).take nl).getD k 0) = true := by rw [hg]; exact hw
        have w1 := (wEnd_le (b := (b.drop at_).take nl) (k := k + 1) (by omega)).1
        rw [← wEnd_in (by omega) hwL] at w1
        have w2 := (wEnd_le (b := (b.drop at_).take nl) (k := k) (by omega)).2
        have hstop := wEnd_stop (b := (b.drop at_).take nl) (k := k)
        have hst := lineGo_stop (L := (b.drop at_).take nl) (at_ := at_) (f := false) (n := n) (e := wEnd ((b.drop at_).take nl) k) (by omega) hstop
        have htext : (b.drop (at_ + k)).take (at_ + wEnd ((b.drop at_).take nl) k - (at_ + k)) = (((b.drop at_).take nl).drop k).take (wEnd ((b.drop at_).take nl) k - k) := (part_line (b := b) (at_ := at_) (nl := nl) (k := k) (e := wEnd ((b.drop at_).take nl) k) (by omega) (by omega)).symm
        have hhead : ((((b.drop at_).take nl).drop k).take (wEnd ((b.drop at_).take nl) k - k)).getD 0 0 = b.getD (at_ + k) 0 := by
          rw [← hg, drop_cons (show k < ((b.drop at_).take nl).length by omega), show wEnd ((b.drop at_).take nl) k - k = (wEnd ((b.drop at_).take nl) k - (k + 1)) + 1 by omega, List.take_succ_cons]
          rfl
        rw [if_pos hw, if_pos hw, if_pos hw, hwe, htext, ih (wEnd ((b.drop at_).take nl) k) m false _ (by omega) (by omega) (by omega), ← hst]
        generalize lineGo ((b.drop at_).take nl) at_ n (wEnd ((b.drop at_).take nl) k) false = X
        have hkeep : keepLine c (⟨(((b.drop at_).take nl).drop k).take (wEnd ((b.drop at_).take nl) k - k), at_ + k, true⟩ :: X) = (!c || b.getD (at_ + k) 0 != 99) := by
          unfold keepLine
          simp only [hhead]
        rw [hkeep]
        generalize b.getD (at_ + k) 0 = x
        cases s
        · cases f
          · simp
          · cases c
            · simp
            · by_cases hx : x = 99
              · simp [hx]
              · simp [hx, beq_false_of_ne hx]
        · simp
      · rw [if_neg hw, if_neg hw, if_neg hw, Nat.add_assoc, ih (k + 1) m f s (by omega) (by omega) (by omega)]
    · obtain rfl : k = nl := by omega
      rw [lineGo_end (by omega), lineGo_end (by omega)]
      have hkl : keepLine c ([] : List Wd) = true := by unfold keepLine; simp
      rw [hkl]
      have hz : (if s = true then ([] : List Wd) else if f = true then (if true = true then ([] : List Wd) else []) else []) = [] := by cases s <;> cases f <;> rfl
      rw [hz, List.nil_append]
      by_cases he : at_ + k < b.length
      · conv => lhs; unfold refGo
        rw [if_pos he, if_pos (hend he)]
        exact refGo_fuel _ _ _ _ _ (by omega) (by omega)
      · rw [refGo_end (by omega), refGo_end (by omega)]

theorem getD_mem_drop {b : List UInt8} {k j : Nat} (h : k + j < b.length) : b.getD (k + j) 0 ∈ b.drop k := by
  have : (b.drop k)[j]? = some (b.getD (k + j) 0) := by rw [List.getElem?_drop, List.getD_eq_getElem?_getD, List.getElem?_eq_getElem h]; rfl
  exact List.mem_of_getElem? this
theorem getD_mem_part {b : List UInt8} {k j m : Nat} (h : k + j < b.length) (hm : j < m) : b.getD (k + j) 0 ∈ (b.drop k).take m := by
  have : ((b.drop k).take m)[j]? = some (b.getD (k + j) 0) := by rw [List.getElem?_take, if_pos hm, List.getElem?_drop, List.getD_eq_getElem?_getD, List.getElem?_eq_getElem h]; rfl
  exact List.mem_of_getElem? this
theorem nl_facts {b : List UInt8} {k : Nat} (hk : k < b.length) : (∀ j, j < nlOf b k → b.getD (k + j) 0 ≠ 10) ∧ (k + nlOf b k < b.length → b.getD (k + nlOf b k) 0 = 10) := by
  rcases idx_line (l := b.drop k) (c := 10) with ⟨h3, h4⟩ | ⟨m, h3, h4, h5, h6⟩
  · have hn : nlOf b k = b.length - k := by unfold nlOf; rw [if_pos h3]
    exact ⟨fun j hj => h4 _ (getD_mem_drop (by omega)), by omega⟩
  · have hn : nlOf b k = m := by unfold nlOf; rw [if_neg (by omega)]; omega
    rw [hn]
    rw [List.length_drop] at h4
    refine ⟨fun j hj => h6 _ (getD_mem_part (by omega) hj), fun _ => ?_⟩
    rw [List.getD_eq_getElem?_getD, List.getElem?_drop] at h5
    rw [List.getD_eq_getElem?_getD]
    exact h5
theorem split_ref {b : List UInt8} {c : Bool} : ∀ (n k : Nat), b.length < n + k → splitGo b c n k = refGo b c (b.length + 1) k true false
  | 0, k, h1 => by rw [refGo_end (by omega)]; rfl
  | n + 1, k, h1 => by
    simp only [splitGo]
    by_cases hk : k < b.length
    · rw [if_pos hk, split_ref n _ (by omega)]
      obtain ⟨h2, h3⟩ := nl_facts hk
      have hnl := nlOf_le (b := b) (at_ := k) (by omega)
      have hll : ((b.drop k).take (nlOf b k)).length = nlOf b k := by simp; omega
      have := ref_line (b := b) (c := c) (at_ := k) (nl := nlOf b k) hnl h2 h3 (nlOf b k + 1) 0 (b.length + 1) true false (by omega) (by omega) (by omega)
      simp only [Nat.add_zero] at this
      rw [this]
      unfold lineOf
      rw [hll]
      rfl
    · rw [if_neg hk, refGo_end (by omega)]
theorem splitOf_ref (b : List UInt8) (c : Bool) : splitOf b c = refGo b c (b.length + 1) 0 true false := split_ref _ _ (by omega)
end Go.Proofs.YtdkckkhghghhdaaDoor
