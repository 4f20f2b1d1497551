/-
 Parts of the proof of CertBack: Literals. Words of a text, as lists of bytes: what both ways of cutting a text give (no program in sight). word.kind, word.line, bytes.IndexByte, word.Split. Texts as lists of bytes. Numbers of words, both ways; strconv.Atoi on short ones. A number's digits. Chunks in another order; whole objects; what calls hand back, taken apart. Bytes put behind bytes. A number's digits by place. How many digits a number has. Digits written into a row. A number as text: small ones, strconv.Itoa. aag.Line: numbers as a line. strings.Builder: WriteString, String. Circuits as values; their text. strings.Builder: WriteByte, Write. skolemsee: errors as plain data. word.Plain; errors by their codes. The words of a text, from its front on. A circuit's text: what is read (no program in sight). The words of a text without comments, from its front on; lines of numbers are read. Circuits in few bytes: what is read, what is written (no program in sight). A number is put behind bytes. lits.Is. Proofs as text: what is read. Words that are copied; fewer chunks.
-/
import Derived.Test.YtjagkijfngokaaaGreatDoorE2
import Derived.Test.YtjagkijfngokaaaGreatDoorBm31
import Derived.Sort.AssemblyPlain
import Derived.Test.YtjagkijfngokaaaGreatDoorBm35
namespace Go.Proofs.YtjagkijfngokaaaGreatDoor
open Go.RowKit
theorem succI {n : Nat} (h : n < 9000000000000000000) : IntKind.wrap .i64 ((n : Int) + 1) = ((n + 1 : Nat) : Int) := by rw [wrap64 (by omega) (by omega)]; omega
def varI (l : Int) : Int := bif decide (l < IntKind.wrap .i64 (0 - l)) then IntKind.wrap .i64 (0 - l) else l
def okInt (l : Int) : Prop := -9223372036854775808 < l ∧ l ≤ 9223372036854775807
end Go.Proofs.YtjagkijfngokaaaGreatDoor
namespace Go.Proofs.YtjagkijfngokaaaGreatDoor
open Go.RowKit
def kindI (c : Int) : Int := if c = 32 ∨ c = 9 ∨ c = 13 then 1 else if c = 10 then 2 else 0
def isW (c : UInt8) : Bool := decide (kindI (c.toNat : Int) = 0)
structure Wd where
 text : List UInt8
 pos : Nat
 first : Bool
 deriving DecidableEq
def wdC (w : Wd) : List AV := [.str ⟨w.text.toArray⟩, .int .i64 (w.pos : Int), .bool w.first]
def wEnd (b : List UInt8) (k : Nat) : Nat := k + ((b.drop k).takeWhile isW).length
theorem drop_cons {b : List UInt8} {k : Nat} (h : k < b.length) : b.drop k = b.getD k 0 :: b.drop (k + 1) := by
 rw [List.drop_eq_getElem_cons h, List.getD_eq_getElem?_getD, List.getElem?_eq_getElem h, Option.getD_some]
theorem wEnd_in {b : List UInt8} {k : Nat} (h : k < b.length) (hw : isW (b.getD k 0) = true) : wEnd b k = wEnd b (k + 1) := by
 unfold wEnd
 rw [drop_cons h, List.takeWhile_cons, if_pos hw, List.length_cons]
 omega
theorem wEnd_out {b : List UInt8} {k : Nat} (hw : isW (b.getD k 0) = false) : wEnd b k = k := by
 unfold wEnd
 by_cases h : k < b.length
 · rw [drop_cons h, List.takeWhile_cons, if_neg (by rw [hw]; simp)]
   rfl
 · rw [List.drop_eq_nil_of_le (by omega)]; rfl
theorem wEnd_end {b : List UInt8} {k : Nat} (h : b.length ≤ k) : wEnd b k = k := by
 unfold wEnd
 rw [List.drop_eq_nil_of_le h]; rfl
theorem wEnd_le {b : List UInt8} {k : Nat} (h : k ≤ b.length) : k ≤ wEnd b k ∧ wEnd b k ≤ b.length := by
 unfold wEnd
 have h1 := List.takeWhile_prefix isW (l := b.drop k)
 have := h1.length_le
 rw [List.length_drop] at this
 omega
def lineGo (b : List UInt8) (at_ : Nat) : Nat → Nat → Bool → List Wd
 | 0, _, _ => []
 | n + 1, k, f => if k < b.length then (if isW (b.getD k 0) = true then ⟨(b.drop k).take (wEnd b k - k), at_ + k, f⟩ :: lineGo b at_ n (wEnd b k + 1) false else lineGo b at_ n (k + 1) f) else []
theorem lineGo_fuel {b : List UInt8} {at_ : Nat} : ∀ (n m k : Nat) (f : Bool), b.length < n + k → b.length < m + k → lineGo b at_ n k f = lineGo b at_ m k f
 | 0, m, k, f, h1, h2 => by
   cases m with
   | zero => rfl
   | succ m => simp only [lineGo]; rw [if_neg (by omega)]
 | n + 1, 0, k, f, h1, h2 => by simp only [lineGo]; rw [if_neg (by omega)]
 | n + 1, m + 1, k, f, h1, h2 => by
   simp only [lineGo]
   split
   · rename_i hk
     split
     · have := (wEnd_le (b := b) (k := k) (by omega)).1
       rw [lineGo_fuel n m _ _ (by omega) (by omega)]
     · exact lineGo_fuel n m _ _ (by omega) (by omega)
   · rfl
def lineOf (b : List UInt8) (at_ : Nat) : List Wd := lineGo b at_ (b.length + 1) 0 true
def nlOf (b : List UInt8) (at_ : Nat) : Nat := if Lib.indexByte (b.drop at_) 10 < 0 then b.length - at_ else (Lib.indexByte (b.drop at_) 10).toNat
theorem index_lt : ∀ (l : List UInt8) (c : UInt8), Lib.indexByte l c < l.length ∨ l = [] ∧ Lib.indexByte l c = -1
 | [], c => .inr ⟨rfl, rfl⟩
 | x :: l, c => by
   left
   unfold Lib.indexByte
   split
   · simp only [List.length_cons]; omega
   · split
     · simp only [List.length_cons]; omega
     · rcases index_lt l c with h | ⟨rfl, h⟩
       · simp only [List.length_cons]; omega
       · rw [h]; simp
theorem nlOf_le {b : List UInt8} {at_ : Nat} (h : at_ ≤ b.length) : at_ + nlOf b at_ ≤ b.length := by
 unfold nlOf
 split
 · omega
 · rcases index_lt (b.drop at_) 10 with h1 | ⟨h1, h2⟩
   · rw [List.length_drop] at h1; omega
   · omega
def keepLine (c : Bool) (l : List Wd) : Bool := !c || match l with
 | [] => true
 | w :: _ => w.text.getD 0 0 != 99
def splitGo (b : List UInt8) (c : Bool) : Nat → Nat → List Wd
 | 0, _ => []
 | n + 1, at_ => if at_ < b.length then (if keepLine c (lineOf ((b.drop at_).take (nlOf b at_)) at_) = true then lineOf ((b.drop at_).take (nlOf b at_)) at_ else []) ++ splitGo b c n (at_ + nlOf b at_ + 1) else []
def splitOf (b : List UInt8) (c : Bool) : List Wd := splitGo b c (b.length + 1) 0
theorem splitGo_fuel {b : List UInt8} {c : Bool} : ∀ (n m k : Nat), b.length < n + k → b.length < m + k → splitGo b c n k = splitGo b c m k
 | 0, m, k, h1, h2 => by
   cases m with
   | zero => rfl
   | succ m => simp only [splitGo]; rw [if_neg (by omega)]
 | n + 1, 0, k, h1, h2 => by simp only [splitGo]; rw [if_neg (by omega)]
 | n + 1, m + 1, k, h1, h2 => by
   simp only [splitGo]
   split
   · rw [splitGo_fuel n m _ (by omega) (by omega)]
   · rfl
theorem lineGo_text {b : List UInt8} {at_ : Nat} : ∀ (n k : Nat) (f : Bool), ∀ w ∈ lineGo b at_ n k f, w.text ≠ []
 | 0, k, f, w, hw => by simp [lineGo] at hw
 | n + 1, k, f, w, hw => by
   simp only [lineGo] at hw
   split at hw
   · rename_i hk
     split at hw
     · rename_i hi
       rcases List.mem_cons.1 hw with rfl | hw
       · have := (wEnd_le (b := b) (k := k + 1) (by omega)).1
         rw [← wEnd_in hk hi] at this
         intro e
         have := congrArg List.length e
         simp at this
         omega
       · exact lineGo_text n _ _ w hw
     · exact lineGo_text n _ _ w hw
   · cases hw
theorem lineGo_len {b : List UInt8} {at_ : Nat} : ∀ (n k : Nat) (f : Bool), (lineGo b at_ n k f).length ≤ b.length - k
 | 0, k, f => by simp [lineGo]
 | n + 1, k, f => by
   simp only [lineGo]
   split
   · rename_i hk
     split
     · rename_i hi
       have h1 := lineGo_len (b := b) (at_ := at_) n (wEnd b k + 1) false
       have := (wEnd_le (b := b) (k := k) (by omega)).1
       simp only [List.length_cons]
       omega
     · have h1 := lineGo_len (b := b) (at_ := at_) n (k + 1) f
       omega
   · simp
def part (b : List UInt8) (k e : Nat) : List UInt8 := (b.drop k).take (e - k)
theorem takeWhile_stop {α : Type} {p : α → Bool} (a : α) : ∀ {l : List α}, (l.takeWhile p).length < l.length → p (l.getD (l.takeWhile p).length a) = false
 | [], h => by simp at h
 | x :: l, h => by
   rw [List.takeWhile_cons] at h ⊢
   split
   · rename_i hx
     rw [if_pos hx] at h
     simp only [List.length_cons, List.getD_cons_succ]
     exact takeWhile_stop a (by simpa using h)
   · rename_i hx
     simpa using hx
theorem wEnd_stop {b : List UInt8} {k : Nat} (h : wEnd b k < b.length) : isW (b.getD (wEnd b k) 0) = false := by
 have := takeWhile_stop (p := isW) (0 : UInt8) (l := b.drop k) (by rw [List.length_drop]; unfold wEnd at h; omega)
 rw [List.getD_eq_getElem?_getD, List.getElem?_drop] at this
 rw [List.getD_eq_getElem?_getD]
 exact this
theorem part_line {b : List UInt8} {at_ nl k e : Nat} (h1 : k ≤ e) (h2 : e ≤ nl) : part ((b.drop at_).take nl) k e = part b (at_ + k) (at_ + e) := by
 unfold part
 rw [List.drop_take, List.take_take, List.drop_drop, show at_ + e - (at_ + k) = e - k by omega, Nat.min_eq_left (by omega)]
theorem getD_line {b : List UInt8} {at_ nl k : Nat} (h : k < nl) : ((b.drop at_).take nl).getD k 0 = b.getD (at_ + k) 0 := by
 rw [List.getD_eq_getElem?_getD, List.getElem?_take, if_pos h, List.getElem?_drop, List.getD_eq_getElem?_getD]
theorem idx_line : ∀ {l : List UInt8} {c : UInt8}, Lib.indexByte l c < 0 ∧ (∀ x ∈ l, x ≠ c) ∨ ∃ n : Nat, Lib.indexByte l c = (n : Int) ∧ n < l.length ∧ l.getD n 0 = c ∧ ∀ x ∈ l.take n, x ≠ c
 | [], c => .inl ⟨by simp [Lib.indexByte], fun x hx => by cases hx⟩
 | y :: l, c => by
   unfold Lib.indexByte
   by_cases hy : (y == c) = true
   · rw [if_pos hy]
     exact .inr ⟨0, rfl, by simp, by simpa using hy, fun x hx => by cases hx⟩
   · rw [if_neg hy]
     have hyc : y ≠ c := by simpa using hy
     rcases idx_line (l := l) (c := c) with ⟨h1, h2⟩ | ⟨n, h1, h2, h3, h4⟩
     · have := Lib.indexByte_ge l c
       rw [if_pos (by rw [beq_iff_eq]; omega)]
       refine .inl ⟨by omega, fun x hx => ?_⟩
       rcases List.mem_cons.1 hx with rfl | hx
       · exact hyc
       · exact h2 x hx
     · rw [if_neg (by rw [beq_iff_eq]; omega)]
       refine .inr ⟨n + 1, by rw [h1]; rfl, by simp; omega, by simpa using h3, fun x hx => ?_⟩
       rw [List.take_succ_cons] at hx
       rcases List.mem_cons.1 hx with rfl | hx
       · exact hyc
       · exact h4 x hx
theorem splitGo_len {b : List UInt8} {c : Bool} : ∀ (n k : Nat), (splitGo b c n k).length ≤ b.length - k
 | 0, k => by simp [splitGo]
 | n + 1, k => by
   simp only [splitGo]
   split
   · have h1 := splitGo_len (b := b) (c := c) n (k + nlOf b k + 1)
     have hnl := nlOf_le (b := b) (at_ := k) (by omega)
     have h2 : (lineOf ((b.drop k).take (nlOf b k)) k).length ≤ nlOf b k := by
       have := lineGo_len (b := (b.drop k).take (nlOf b k)) (at_ := k) (((b.drop k).take (nlOf b k)).length + 1) 0 true
       have hll : ((b.drop k).take (nlOf b k)).length ≤ nlOf b k := List.length_take_le _ _
       unfold lineOf
       omega
     rw [List.length_append]
     split
     · omega
     · simp only [List.length_nil]; omega
   · simp
def refGo (b : List UInt8) (c : Bool) : Nat → Nat → Bool → Bool → List Wd
 | 0, _, _, _ => []
 | n + 1, i, f, s => if i < b.length then
     (if b.getD i 0 = 10 then refGo b c n (i + 1) true false else
       if isW (b.getD i 0) = true then (if (s || (c && f && b.getD i 0 == 99)) = true then [] else [⟨(b.drop i).take (wEnd b i - i), i, f⟩]) ++ refGo b c n (wEnd b i) false (s || (c && f && b.getD i 0 == 99))
       else refGo b c n (i + 1) f s)
   else []
theorem refGo_fuel {b : List UInt8} {c : Bool} : ∀ (n m k : Nat) (f s : Bool), b.length < n + k → b.length < m + k → refGo b c n k f s = refGo b c m k f s
 | 0, m, k, f, s, h1, h2 => by
   cases m with
   | zero => rfl
   | succ m => simp only [refGo]; rw [if_neg (by omega)]
 | n + 1, 0, k, f, s, h1, h2 => by simp only [refGo]; rw [if_neg (by omega)]
 | n + 1, m + 1, k, f, s, h1, h2 => by
   simp only [refGo]
   split
   · rename_i hk
     rw [refGo_fuel n m (k + 1) true false (by omega) (by omega), refGo_fuel n m (k + 1) f s (by omega) (by omega)]
     split
     · rfl
     · split
       · rename_i hw
         have := (wEnd_le (b := b) (k := k + 1) (by omega)).1
         rw [← wEnd_in hk hw] at this
         rw [refGo_fuel n m (wEnd b k) _ _ (by omega) (by omega)]
       · rfl
   · rfl
theorem refGo_end {b : List UInt8} {c : Bool} {n k : Nat} {f s : Bool} (h : b.length ≤ k) : refGo b c n k f s = [] := by
 cases n with
 | zero => rfl
 | succ n => simp only [refGo]; rw [if_neg (by omega)]
theorem takeWhile_take {p : UInt8 → Bool} : ∀ (l : List UInt8) (j : Nat), (j < l.length → p (l.getD j 0) = false) → (l.take j).takeWhile p = l.takeWhile p
 | [], j, _ => by simp
 | x :: l, 0, h => by
   have := h (by simp)
   simp at this
   simp [this]
 | x :: l, j + 1, h => by
   rw [List.take_succ_cons, List.takeWhile_cons, List.takeWhile_cons, takeWhile_take l j fun hj => by simpa using h (by simp; omega)]
theorem lineGo_end {b : List UInt8} {at_ n k : Nat} {f : Bool} (h : b.length ≤ k) : lineGo b at_ n k f = [] := by
 cases n with
 | zero => rfl
 | succ n => simp only [lineGo]; rw [if_neg (by omega)]
theorem lineGo_stop {L : List UInt8} {at_ : Nat} {f : Bool} {n e : Nat} (hn : L.length < n + e) (hs : e < L.length → isW (L.getD e 0) = false) : lineGo L at_ n e f = lineGo L at_ n (e + 1) f := by
 by_cases h : e < L.length
 · obtain ⟨n, rfl⟩ : ∃ m, n = m + 1 := ⟨n - 1, by omega⟩
   have h2 : lineGo L at_ (n + 1) e f = lineGo L at_ n (e + 1) f := by
     conv => lhs; unfold lineGo
     rw [if_pos h, if_neg (by rw [hs h]; simp)]
   rw [h2]
   exact lineGo_fuel _ _ _ _ (by omega) (by omega)
 · rw [lineGo_end (by omega), lineGo_end (by omega)]
theorem ref_line {b : List UInt8} {c : Bool} {at_ nl : Nat} (hl : at_ + nl ≤ b.length) (hno : ∀ k, k < nl → b.getD (at_ + k) 0 ≠ 10) (hend : at_ + nl < b.length → b.getD (at_ + nl) 0 = 10) : ∀ (n k m : Nat) (f s : Bool), k ≤ nl → nl < n + k → b.length < m + (at_ + k) →
   refGo b c m (at_ + k) f s = (if s = true then [] else if f = true then (if keepLine c (lineGo ((b.drop at_).take nl) at_ n k true) = true then lineGo ((b.drop at_).take nl) at_ n k true else []) else lineGo ((b.drop at_).take nl) at_ n k false) ++ refGo b c (b.length + 1) (at_ + nl + 1) true false := by
 have hlen : ((b.drop at_).take nl).length = nl := by simp; omega
 have hw10 : isW 10 = false := by decide
 intro n
 induction n with
 | zero => intro k m f s h1 h2; omega
 | succ n ih =>
   intro k m f s h1 h2 h3
   obtain ⟨m, rfl⟩ : ∃ m', m = m' + 1 := ⟨m - 1, by omega⟩
   by_cases hk : k < nl
   · have hkb : at_ + k < b.length := by omega
     have hg := getD_line (b := b) (at_ := at_) (nl := nl) hk
     have hwe : wEnd b (at_ + k) = at_ + wEnd ((b.drop at_).take nl) k := by
       unfold wEnd
       rw [List.drop_take, List.drop_drop, takeWhile_take _ _ fun hj => ?_]
       · omega
       · rw [List.length_drop] at hj
         rw [List.getD_eq_getElem?_getD, List.getElem?_drop, show at_ + k + (nl - k) = at_ + nl by omega, ← List.getD_eq_getElem?_getD, hend (by omega), hw10]
     have hL : ∀ f', lineGo ((b.drop at_).take nl) at_ (n + 1) k f' = if isW (b.getD (at_ + k) 0) = true then ⟨(((b.drop at_).take nl).drop k).take (wEnd ((b.drop at_).take nl) k - k), at_ + k, f'⟩ :: lineGo ((b.drop at_).take nl) at_ n (wEnd ((b.drop at_).take nl) k + 1) false else lineGo ((b.drop at_).take nl) at_ n (k + 1) f' := by
       intro f'
       conv => lhs; unfold lineGo
       rw [if_pos (by rw [hlen]; exact hk), hg]
     conv => lhs; unfold refGo
     rw [if_pos hkb, if_neg (hno k hk), hL, hL]
     by_cases hw : isW (b.getD (at_ + k) 0) = true
     · have hwL : isW (((b.drop at_).take nl).getD k 0) = true := by rw [hg]; exact hw
       have w1 := (wEnd_le (b := (b.drop at_).take nl) (k := k + 1) (by omega)).1
       rw [← wEnd_in (by omega) hwL] at w1
       have w2 := (wEnd_le (b := (b.drop at_).take nl) (k := k) (by omega)).2
       have hstop := wEnd_stop (b := (b.drop at_).take nl) (k := k)
       have hst := lineGo_stop (L := (b.drop at_).take nl) (at_ := at_) (f := false) (n := n) (e := wEnd ((b.drop at_).take nl) k) (by omega) hstop
       have htext : (b.drop (at_ + k)).take (at_ + wEnd ((b.drop at_).take nl) k - (at_ + k)) = (((b.drop at_).take nl).drop k).take (wEnd ((b.drop at_).take nl) k - k) := (part_line (b := b) (at_ := at_) (nl := nl) (k := k) (e := wEnd ((b.drop at_).take nl) k) (by omega) (by omega)).symm
       have hhead : ((((b.drop at_).take nl).drop k).take (wEnd ((b.drop at_).take nl) k - k)).getD 0 0 = b.getD (at_ + k) 0 := by
         rw [← hg, drop_cons (show k < ((b.drop at_).take nl).length by omega), show wEnd ((b.drop at_).take nl) k - k = (wEnd ((b.drop at_).take nl) k - (k + 1)) + 1 by omega, List.take_succ_cons]
         rfl
       rw [if_pos hw, if_pos hw, if_pos hw, hwe, htext, ih (wEnd ((b.drop at_).take nl) k) m false _ (by omega) (by omega) (by omega), ← hst]
       generalize lineGo ((b.drop at_).take nl) at_ n (wEnd ((b.drop at_).take nl) k) false = X
       have hkeep : keepLine c (⟨(((b.drop at_).take nl).drop k).take (wEnd ((b.drop at_).take nl) k - k), at_ + k, true⟩ :: X) = (!c || b.getD (at_ + k) 0 != 99) := by
         unfold keepLine
         simp only [hhead]
       rw [hkeep]
       generalize b.getD (at_ + k) 0 = x
       cases s
       · cases f
         · simp
         · cases c
           · simp
           · by_cases hx : x = 99
             · simp [hx]
             · simp [hx, beq_false_of_ne hx]
       · simp
     · rw [if_neg hw, if_neg hw, if_neg hw, Nat.add_assoc, ih (k + 1) m f s (by omega) (by omega) (by omega)]
   · obtain rfl : k = nl := by omega
     rw [lineGo_end (by omega), lineGo_end (by omega)]
     have hkl : keepLine c ([] : List Wd) = true := by unfold keepLine; simp
     rw [hkl]
     have hz : (if s = true then ([] : List Wd) else if f = true then (if true = true then ([] : List Wd) else []) else []) = [] := by cases s <;> cases f <;> rfl
     rw [hz, List.nil_append]
     by_cases he : at_ + k < b.length
     · conv => lhs; unfold refGo
       rw [if_pos he, if_pos (hend he)]
       exact refGo_fuel _ _ _ _ _ (by omega) (by omega)
     · rw [refGo_end (by omega), refGo_end (by omega)]
theorem getD_mem_drop {b : List UInt8} {k j : Nat} (h : k + j < b.length) : b.getD (k + j) 0 ∈ b.drop k := by
 have : (b.drop k)[j]? = some (b.getD (k + j) 0) := by rw [List.getElem?_drop, List.getD_eq_getElem?_getD, List.getElem?_eq_getElem h]; rfl
 exact List.mem_of_getElem? this
theorem getD_mem_part {b : List UInt8} {k j m : Nat} (h : k + j < b.length) (hm : j < m) : b.getD (k + j) 0 ∈ (b.drop k).take m := by
 have : ((b.drop k).take m)[j]? = some (b.getD (k + j) 0) := by rw [List.getElem?_take, if_pos hm, List.getElem?_drop, List.getD_eq_getElem?_getD, List.getElem?_eq_getElem h]; rfl
 exact List.mem_of_getElem? this
theorem nl_facts {b : List UInt8} {k : Nat} (hk : k < b.length) : (∀ j, j < nlOf b k → b.getD (k + j) 0 ≠ 10) ∧ (k + nlOf b k < b.length → b.getD (k + nlOf b k) 0 = 10) := by
 rcases idx_line (l := b.drop k) (c := 10) with ⟨h3, h4⟩ | ⟨m, h3, h4, h5, h6⟩
 · have hn : nlOf b k = b.length - k := by unfold nlOf; rw [if_pos h3]
   exact ⟨fun j hj => h4 _ (getD_mem_drop (by omega)), by omega⟩
 · have hn : nlOf b k = m := by unfold nlOf; rw [if_neg (by omega)]; omega
   rw [hn]
   rw [List.length_drop] at h4
   refine ⟨fun j hj => h6 _ (getD_mem_part (by omega) hj), fun _ => ?_⟩
   rw [List.getD_eq_getElem?_getD, List.getElem?_drop] at h5
   rw [List.getD_eq_getElem?_getD]
   exact h5
theorem split_ref {b : List UInt8} {c : Bool} : ∀ (n k : Nat), b.length < n + k → splitGo b c n k = refGo b c (b.length + 1) k true false
 | 0, k, h1 => by rw [refGo_end (by omega)]; rfl
 | n + 1, k, h1 => by
   simp only [splitGo]
   by_cases hk : k < b.length
   · rw [if_pos hk, split_ref n _ (by omega)]
     obtain ⟨h2, h3⟩ := nl_facts hk
     have hnl := nlOf_le (b := b) (at_ := k) (by omega)
     have hll : ((b.drop k).take (nlOf b k)).length = nlOf b k := by simp; omega
     have := ref_line (b := b) (c := c) (at_ := k) (nl := nlOf b k) hnl h2 h3 (nlOf b k + 1) 0 (b.length + 1) true false (by omega) (by omega) (by omega)
     simp only [Nat.add_zero] at this
     rw [this]
     unfold lineOf
     rw [hll]
     rfl
   · rw [if_neg hk, refGo_end (by omega)]
theorem splitOf_ref (b : List UInt8) (c : Bool) : splitOf b c = refGo b c (b.length + 1) 0 true false := split_ref _ _ (by omega)
end Go.Proofs.YtjagkijfngokaaaGreatDoor
namespace Go.Proofs.YtjagkijfngokaaaGreatDoor
open Go.RowKit
theorem sucU {m : Nat} (h : m < 9000000000000000000) : IntKind.wrap .i64 ((m : Int) + 1) = ((m + 1 : Nat) : Int) := by rw [wrap64 (by omega) (by omega)]; omega
theorem wdC_len (w : Wd) : (wdC w).length = 3 := rfl
abbrev wdsC (l : List Wd) : List AV := l.flatMap wdC
abbrev lstW (l : List Wd) : Sl := lstN wdC l
theorem wdsC_len (l : List Wd) : (wdsC l).length = l.length * 3 := flatMap_len wdC_len l
theorem freeze_wdsC {h : AH} (n : Nat) (l : List Wd) : (wdsC l).mapM (freezeV h (n + 1)) = some (wdsC l) := mapM_freezeN (fun w => mm3 rfl rfl rfl) l
theorem cut_lstU (l : List UInt8) {lb hb : Nat} (hb' : hb ≤ l.length) : Sl.cut (lstU l) 1 lb hb false = lstU ((l.drop lb).take (hb - lb)) := cut_lstM _ l hb'
theorem kind_run (fuel d : Nat) (c : Int) (h : AH) : run fuel (d + 1) F_word_kind [.int .u8 c] h = some (.int .i64 (kindI c), h) := by
 refine pure_of rfl rfl (cc1 rfl) (r := .int .i64 (kindI c)) (h' := AH.none) ?_ rfl
 rw [e_word_kind]
 unfold kindI
 by_cases h1 : c = 32
 · simp [h1, k_word_kind_0_n, k_word_kind_1_n]
 · by_cases h2 : c = 9
   · simp [h2, k_word_kind_0_n, k_word_kind_1_n]
   · by_cases h3 : c = 13
     · simp [h3, k_word_kind_0_x3, k_word_kind_1_n]
     · by_cases h4 : c = 10
       · simp [h4, k_word_kind_0_x4, k_word_kind_1_x4]
       · simp [h1, h2, h3, h4, k_word_kind_0_x0, k_word_kind_1_x0]
theorem wline_in (fuel d : Nat) {h : AH} {s5 : Sl} {x1 x7 : Int} {b : List UInt8} (hb : b.length < 1000000000) : ∀ (n k : Nat), b.length < n + k → k ≤ b.length →
   l_word_line_1 fuel (d + 1) n [(0, .slice (lstU b)), (1, .int .i64 x1), (5, .slice s5), (6, .int .i64 (k : Int)), (7, .int .i64 x7)] h = some (.exit 2, [(0, .slice (lstU b)), (1, .int .i64 x1), (5, .slice s5), (6, .int .i64 (wEnd b k : Int)), (7, .int .i64 x7)], h) := by
 intro n
 induction n with
 | zero => intro k h1 h2; omega
 | succ n ih =>
   intro k h1 h2
   rw [l_word_line_1_eq, len_lst]
   by_cases hk : k < b.length
   · rw [decide_eq_true (show (k : Int) < (b.length : Int) by omega), addr_lstM _ (by omega) (by omega) 0]
     simp only [beq_self_eq_true, cond_true, o_bd, cell_fp, int_int, Int.toNat_natCast, kind_run, bool_bool]
     by_cases hw : kindI ((b.getD k 0).toNat : Int) = 0
     · rw [bif_pos hw, sucU (by omega), ih (k + 1) (by omega) (by omega), wEnd_in hk (by unfold isW; exact decide_eq_true hw)]
     · rw [bif_neg hw, wEnd_out (by unfold isW; exact decide_eq_false hw)]
   · have : k = b.length := by omega
     subst this
     rw [decide_eq_false (show ¬ (b.length : Int) < (b.length : Int) by omega), wEnd_end (Nat.le_refl _)]
     rfl
theorem wline_loop (fuel d : Nat) {b : List UInt8} {at_ : Nat} (hb : b.length < 1000000000) (hat : at_ < 1000000000) (hf : b.length < fuel) : ∀ (n k : Nat) (s5 : Sl) (acc : List Wd) (h : AH), b.length + 2 ≤ n + k → k ≤ b.length + 1 → Grown h 3 s5 (wdsC acc) → acc.length ≤ k →
   ∃ s' h', l_word_line_0 fuel (d + 1) n [(0, .slice (lstU b)), (1, .int .i64 (at_ : Int)), (5, .slice s5), (6, .int .i64 (k : Int))] h = some (.exit 0, [(5, .slice s')], h') ∧ Grown h' 3 s' (wdsC (acc ++ lineGo b at_ n k acc.isEmpty)) := by
 intro n
 induction n with
 | zero => intro k s5 acc h h1 h2; omega
 | succ n ih =>
   intro k s5 acc h h1 h2 hg hacc
   have h5l := hg.len
   rw [wdsC_len] at h5l
   rw [l_word_line_0_eq, len_lst]
   by_cases hk : k < b.length
   · rw [bif_pos (by omega), addr_lstM _ (by omega) (by omega) 0]
     simp only [o_bd, cell_fp, int_int, Int.toNat_natCast, kind_run]
     by_cases hw : kindI ((b.getD k 0).toNat : Int) = 0
     · rw [bif_npos hw]
       have hw' : isW (b.getD k 0) = true := by unfold isW; exact decide_eq_true hw
       rw [wline_in fuel d hb fuel k (by omega) (by omega)]
       obtain ⟨w1, w2⟩ := wEnd_le (b := b) (k := k) (by omega)
       have w3 : k + 1 ≤ wEnd b k := by rw [wEnd_in hk hw']; exact (wEnd_le (by omega)).1
       have hpos : IntKind.wrap .i64 ((at_ : Int) + (k : Int)) = ((at_ + k : Nat) : Int) := by rw [wrap64 (by omega) (by omega)]; omega
       have hem : decide ((s5.len : Int) = 0) = acc.isEmpty := by
         cases acc with
         | nil => simp at h5l ⊢; omega
         | cons a l => simp at h5l ⊢; omega
       obtain ⟨s', h', g1, g2, g3⟩ := hg.snoc (bytes := 32) (vs := wdC ⟨(b.drop k).take (wEnd b k - k), at_ + k, acc.isEmpty⟩) rfl (by omega) (by omega)
       obtain ⟨t', h'', f1, f4⟩ := ih (wEnd b k + 1) s' (acc ++ [⟨(b.drop k).take (wEnd b k - k), at_ + k, acc.isEmpty⟩]) h' (by omega) (by omega) (by simpa [wdsC] using g2) (by simp; omega)
       refine ⟨t', h'', ?_, ?_⟩
       · simp only [o_bd, k_word_line_1_x2]
         rw [len_lst, aHi_some (by omega) (by omega), o_bd, Int.toNat_natCast, aLo_some (by omega) (by omega), o_bd, Int.toNat_natCast, aMx_none, o_bd, hasSz_lstM, cond_true, cut_lstU b (by omega), cells_lstM]
         simp only [o_bd, bytesFrom_bytesC]
         rw [hpos, hem]
         unfold wdC at g1
         simp only at g1
         rw [g1, o_bd, sucU (by omega)]
         exact f1
       · have hne : (acc ++ [(⟨(b.drop k).take (wEnd b k - k), at_ + k, acc.isEmpty⟩ : Wd)]).isEmpty = false := by cases acc <;> rfl
         rw [hne] at f4
         simp only [lineGo]
         rw [if_pos hk, if_pos hw']
         simpa using f4
     · rw [bif_nneg hw]
       have hw' : isW (b.getD k 0) = false := by unfold isW; exact decide_eq_false hw
       obtain ⟨t', h'', f1, f4⟩ := ih (k + 1) s5 acc h (by omega) (by omega) hg (by omega)
       refine ⟨t', h'', by rw [sucU (by omega)]; exact f1, ?_⟩
       simp only [lineGo]
       rw [if_pos hk, if_neg (by rw [hw']; simp)]
       exact f4
   · rw [bif_neg (by omega)]
     refine ⟨s5, h, rfl, ?_⟩
     simp only [lineGo]
     rw [if_neg hk, List.append_nil]
     exact hg
theorem line_run (fuel d : Nat) {b : List UInt8} {at_ : Nat} (hb : b.length < 1000000000) (hat : at_ < 1000000000) (hf : b.length + 2 ≤ fuel) (h : AH) :
   run fuel (d + 2) F_word_line [.slice (lstU b), .int .i64 (at_ : Int)] h = some (.slice (lstW (lineOf b at_)), h) := by
 obtain ⟨s', h', e1, g1⟩ := wline_loop fuel d hb hat (by omega) fuel 0 .nil [] AH.none (by omega) (by omega) .nil (by simp)
 refine pure_of rfl rfl (cc2 (canon_lstU 7 b) rfl) (r := .slice s') (h' := h') ?_ ?_
 · rw [e_word_line]
   rw [show ((0 : Nat) : Int) = 0 from rfl] at e1
   rw [e1]
   simp only [o_bd, k_word_line_0_x0]
 · rw [show lineGo b at_ fuel 0 ([] : List Wd).isEmpty = lineOf b at_ from lineGo_fuel _ _ _ _ (by omega) (by omega), List.nil_append] at g1
   have := g1.len
   rw [wdsC_len] at this
   rw [g1.freeze (n := 7) (by omega) (freeze_wdsC 6 _), show s'.len = (lineOf b at_).length by omega]
theorem index_run (fuel d : Nat) (b : List UInt8) (h : AH) : run fuel (d + 2) F_bytes_IndexByte [.slice (lstU b), .int .u8 10] h = some (.int .i64 (Lib.indexByte b 10), h) := by
 refine pure_of rfl rfl (cc2 (canon_lstU 7 b) rfl) (r := .int .i64 (Lib.indexByte b 10)) (h' := AH.none) ?_ rfl
 rw [e_bytes_IndexByte, e_bytealg_IndexByte, cells_lstM]
 simp only [o_bd, bytesFrom_bytesC, int_int]
 rfl
theorem lineOf_len (b : List UInt8) (at_ : Nat) : (lineOf b at_).length ≤ b.length := by
 have := lineGo_len (b := b) (at_ := at_) (b.length + 1) 0 true
 unfold lineOf; omega
theorem strAt_mk {l : List UInt8} {k : Nat} (hk : k < l.length) : strAt ⟨l.toArray⟩ (k : Int) = some ((l.getD k 0).toNat : Int) := by
 unfold strAt
 rw [bif_pos (by omega), Int.toNat_natCast]
 simp [hk, List.getD]
theorem wsplit_tail (fuel d : Nat) {b : List UInt8} {c : Bool} (hb : b.length < 1000000) (hf : b.length + 2 ≤ fuel) (n k : Nat) (hk : k < b.length) (s5 : Sl) (acc : List Wd) (h : AH) (hg : Grown h 3 s5 (wdsC acc)) (hacc : acc.length ≤ k)
   (ih : ∀ (s5 : Sl) (acc : List Wd) (h : AH), Grown h 3 s5 (wdsC acc) → acc.length ≤ k + nlOf b k + 1 → ∃ s' h', l_word_Split_0 fuel (d + 2) n [(0, .slice (lstU b)), (1, .bool c), (5, .slice s5), (6, .int .i64 ((k + nlOf b k + 1 : Nat) : Int))] h = some (.exit 0, [(5, .slice s')], h') ∧ Grown h' 3 s' (wdsC (acc ++ splitGo b c n (k + nlOf b k + 1)))) :
   ∃ s' h', k_word_Split_1 fuel (d + 2) n .normal [(0, .slice (lstU b)), (1, .bool c), (5, .slice s5), (6, .int .i64 (k : Int)), (7, .int .i64 (nlOf b k : Int))] h = some (.exit 0, [(5, .slice s')], h') ∧ Grown h' 3 s' (wdsC (acc ++ splitGo b c (n + 1) k)) := by
 have h5l := hg.len
 rw [wdsC_len] at h5l
 have hnl := nlOf_le (b := b) (at_ := k) (by omega)
 have hll : ((b.drop k).take (nlOf b k)).length = nlOf b k := by simp; omega
 rw [k_word_Split_1_n, wrap64 (n := (k : Int) + (nlOf b k : Int)) (by omega) (by omega), len_lst, aHi_some (by omega) (by omega), o_bd, show ((k : Int) + (nlOf b k : Int)).toNat = k + nlOf b k by omega, aLo_some (by omega) (by omega), o_bd, Int.toNat_natCast, aMx_none, o_bd, hasSz_lstM, cond_true, cut_lstU b (by omega), show k + nlOf b k - k = nlOf b k by omega, line_run fuel d (by omega) (by omega) (by omega)]
 have hw : IntKind.wrap .i64 ((k : Int) + IntKind.wrap .i64 ((nlOf b k : Int) + 1)) = ((k + nlOf b k + 1 : Nat) : Int) := by rw [wrap64 (n := (nlOf b k : Int) + 1) (by omega) (by omega), wrap64 (by omega) (by omega)]; omega
 have hline := lineOf_len ((b.drop k).take (nlOf b k)) k
 have htext : ∀ w ∈ lineOf ((b.drop k).take (nlOf b k)) k, w.text ≠ [] := lineGo_text _ _ _
 have hstep : splitGo b c (n + 1) k = (if keepLine c (lineOf ((b.drop k).take (nlOf b k)) k) = true then lineOf ((b.drop k).take (nlOf b k)) k else []) ++ splitGo b c n (k + nlOf b k + 1) := by
   conv => lhs; unfold splitGo
   rw [if_pos hk]
 rw [hstep]
 generalize lineOf ((b.drop k).take (nlOf b k)) k = L at hline htext
 simp only [o_bd, slice_slice]
 rw [len_lst]
 have rest : ∀ q : Bool, q = keepLine c L → ∃ s' h', (bif q then ((AH.sliceCells h 3 (lstW L)).bind fun xs13 => (AH.append h false 3 32 s5 (lstW L).len xs13).bind fun a14 =>
     l_word_Split_0 fuel (d + 2) n [(0, .slice (lstU b)), (1, .bool c), (5, .slice a14.1), (6, .int .i64 (IntKind.wrap .i64 ((k : Int) + IntKind.wrap .i64 ((nlOf b k : Int) + 1))))] a14.2)
     else l_word_Split_0 fuel (d + 2) n [(0, .slice (lstU b)), (1, .bool c), (5, .slice s5), (6, .int .i64 (IntKind.wrap .i64 ((k : Int) + IntKind.wrap .i64 ((nlOf b k : Int) + 1))))] h) = some (.exit 0, [(5, .slice s')], h') ∧
     Grown h' 3 s' (wdsC (acc ++ ((if keepLine c L = true then L else []) ++ splitGo b c n (k + nlOf b k + 1)))) := by
   intro q hq
   rw [hw, ← hq]
   cases q with
   | false =>
     simp only [cond_false, Bool.false_eq_true, if_false, List.nil_append]
     exact ih s5 acc h hg (by omega)
   | true =>
     simp only [cond_true, if_true]
     rw [cells_lstN wdC_len, o_bd, len_lst]
     by_cases h0 : L = []
     · subst h0
       rw [show AH.append h false 3 32 s5 ([] : List Wd).length (wdsC []) = some (s5, h) from rfl]
       simp only [o_bd, List.nil_append]
       exact ih s5 acc h hg (by omega)
     · have hpos := List.length_pos_iff.2 h0
       obtain ⟨s1, h1, e1, g1, _, g3, _⟩ := hg.append (bytes := 32) (xs := wdsC L) (m := L.length) (wdsC_len L) (by omega) (by omega) (by omega) (fun a14 : Sl × AH => l_word_Split_0 fuel (d + 2) n [(0, .slice (lstU b)), (1, .bool c), (5, .slice a14.1), (6, .int .i64 ((k + nlOf b k + 1 : Nat) : Int))] a14.2)
       rw [e1]
       obtain ⟨s2, h2, e2, g4⟩ := ih s1 (acc ++ L) h1 (by simpa [wdsC] using g1) (by simp; omega)
       refine ⟨s2, h2, e2, ?_⟩
       rw [← List.append_assoc]
       exact g4
 cases c with
 | false =>
   simp only [Bool.not_false, cond_true, show ((true == false) : Bool) = false from rfl, cond_false, o_bd, bool_bool]
   exact rest true (by simp [keepLine])
 | true =>
   simp only [Bool.not_true, cond_false]
   cases L with
   | nil =>
     rw [decide_eq_true (show ((([] : List Wd).length : Nat) : Int) = 0 by simp)]
     simp only [show ((true == false) : Bool) = false from rfl, cond_false, o_bd, bool_bool]
     exact rest true (by simp [keepLine])
   | cons w L =>
     have ht := htext w (List.mem_cons_self ..)
     have hpos := List.length_pos_iff.2 ht
     rw [decide_eq_false (show ¬ (((w :: L).length : Nat) : Int) = 0 by simp; omega)]
     simp only [beq_self_eq_true, cond_true]
     rw [addr_lstN (sz := 3) (f := wdC) wdC_len (l := w :: L) (j := 0) (by omega) (by simp) w]
     have hget : (w :: L).getD (Int.toNat 0) w = w := rfl
     simp only [o_bd, hget]
     rw [show Pt.field 0 (.fp 0 (wdC w)) = some (.fp 0 (wdC w)) from rfl, o_bd, show AH.cell h (.fp 0 (wdC w)) = some (.str ⟨w.text.toArray⟩) from rfl]
     simp only [o_bd, str_str]
     rw [show (0 : Int) = ((0 : Nat) : Int) from rfl, strAt_mk hpos]
     simp only [o_bd, bool_bool]
     refine rest _ ?_
     unfold keepLine
     simp only [Bool.not_true, Bool.false_or]
     by_cases h9 : w.text.getD 0 0 = 99
     · rw [h9]; rfl
     · rw [decide_eq_false (fun e => h9 (UInt8.toNat_inj.1 (by rw [show (99 : UInt8).toNat = 99 from rfl]; omega)))]
       rw [bne_iff_ne.2 h9]; rfl
theorem wsplit_loop (fuel d : Nat) {b : List UInt8} {c : Bool} (hb : b.length < 1000000) (hf : b.length + 2 ≤ fuel) : ∀ (n k : Nat) (s5 : Sl) (acc : List Wd) (h : AH), b.length + 2 ≤ n + k → k ≤ b.length + 1 → Grown h 3 s5 (wdsC acc) → acc.length ≤ k →
   ∃ s' h', l_word_Split_0 fuel (d + 2) n [(0, .slice (lstU b)), (1, .bool c), (5, .slice s5), (6, .int .i64 (k : Int))] h = some (.exit 0, [(5, .slice s')], h') ∧ Grown h' 3 s' (wdsC (acc ++ splitGo b c n k)) := by
 intro n
 induction n with
 | zero => intro k s5 acc h h1 h2; omega
 | succ n ih =>
   intro k s5 acc h h1 h2 hg hacc
   rw [l_word_Split_0_eq, len_lst]
   by_cases hk : k < b.length
   · rw [bif_pos (by omega), aHi_none, o_bd, aLo_some (by omega) (by omega), o_bd, Int.toNat_natCast, aMx_none, o_bd, hasSz_lstM, cond_true, cut_lstU b (by omega), show (b.drop k).take (b.length - k) = b.drop k from List.take_of_length_le (by simp), index_run]
     have hnl := nlOf_le (b := b) (at_ := k) (by omega)
     have tail := wsplit_tail fuel d hb hf n k hk s5 acc h hg hacc (c := c) fun s5 acc h hg ha => ih _ s5 acc h (by omega) (by omega) hg ha
     simp only [o_bd, int_int]
     by_cases hi : Lib.indexByte (b.drop k) 10 < 0
     · have hn : IntKind.wrap .i64 ((b.length : Int) - (k : Int)) = (nlOf b k : Int) := by unfold nlOf; rw [if_pos hi, wrap64 (by omega) (by omega)]; omega
       rw [bif_pos hi, hn, o_bd]
       exact tail
     · have hn : Lib.indexByte (b.drop k) 10 = (nlOf b k : Int) := by unfold nlOf; rw [if_neg hi]; omega
       rw [bif_neg hi, hn, o_bd]
       exact tail
   · rw [bif_neg (by omega)]
     refine ⟨s5, h, rfl, ?_⟩
     simp only [splitGo]
     rw [if_neg hk, List.append_nil]
     exact hg
theorem split_body (fuel d : Nat) {b : List UInt8} {c : Bool} (hb : b.length < 1000000) (hf : b.length + 2 ≤ fuel) : ∃ s' h', brun fuel (d + 3) F_word_Split [.slice (lstU b), .bool c] AH.none = some (.slice s', h') ∧ freezeV h' 8 (.slice s') = some (.slice (lstW (splitOf b c))) := by
 obtain ⟨s', h', e1, g1⟩ := wsplit_loop fuel d hb hf (c := c) fuel 0 .nil [] AH.none (by omega) (by omega) .nil (by simp)
 refine ⟨s', h', ?_, ?_⟩
 · rw [e_word_Split]
   rw [show ((0 : Nat) : Int) = 0 from rfl] at e1
   rw [e1]
   simp only [o_bd, k_word_Split_0_x0]
 · rw [show splitGo b c fuel 0 = splitOf b c from splitGo_fuel _ _ _ (by omega) (by omega), List.nil_append] at g1
   have := g1.len
   rw [wdsC_len] at this
   rw [g1.freeze (n := 7) (by omega) (freeze_wdsC 6 _), show s'.len = (splitOf b c).length by omega]
theorem split_run (fuel d : Nat) {b : List UInt8} {c : Bool} (hb : b.length < 1000000) (hf : b.length + 2 ≤ fuel) (h : AH) : run fuel (d + 3) F_word_Split [.slice (lstU b), .bool c] h = some (.slice (lstW (splitOf b c)), h) := by
 obtain ⟨s', h', e1, e2⟩ := split_body fuel d hb hf (c := c)
 exact pure_of rfl rfl (cc2 (canon_lstU 7 b) rfl) e1 e2
end Go.Proofs.YtjagkijfngokaaaGreatDoor
namespace Go.Proofs.YtjagkijfngokaaaGreatDoor
open Go.RowKit
abbrev tx (l : List UInt8) : ByteArray := ⟨l.toArray⟩
theorem tx_size (l : List UInt8) : ByteArray.size (tx l) = l.length := by simp [ByteArray.size]
theorem tx_drop (l : List UInt8) : ByteArray.extract (tx l) 1 l.length = tx (l.drop 1) := by
 apply ByteArray.ext
 rw [ByteArray.data_extract]
 apply Array.ext'
 simp
 rw [List.take_of_length_le (by simp)]
theorem u8_is (x c : UInt8) : ((x.toNat : Int) = (c.toNat : Int)) ↔ x = c := by
 rw [← UInt8.toNat_inj]; omega
theorem u8_dec (x c : UInt8) : decide ((x.toNat : Int) = (c.toNat : Int)) = (x == c) := by
 by_cases h : x = c
 · subst h; simp
 · rw [decide_eq_false (fun e => h ((u8_is x c).1 e)), beq_false_of_ne h]
theorem or2 (p q : Prop) [Decidable p] [Decidable q] : (bif decide p then true else decide q) = decide (p ∨ q) := by
 by_cases h1 : p <;> by_cases h2 : q <;> simp [h1, h2]
end Go.Proofs.YtjagkijfngokaaaGreatDoor
namespace Go.Proofs.YtjagkijfngokaaaGreatDoor
open Go.RowKit
theorem wrapU8 (n : Int) : IntKind.wrap .u8 n = n % 256 := by
 simp [IntKind.wrap, IntKind.bits, IntKind.signed]
def isDig (c : UInt8) : Bool := !decide ((c.toNat : Int) < 48) && !decide (57 < (c.toNat : Int))
theorem isDig_true {c : UInt8} (h : isDig c = true) : 48 ≤ (c.toNat : Int) ∧ (c.toNat : Int) ≤ 57 := by
 unfold isDig at h
 simp at h
 omega
def valI (a : Int) (l : List UInt8) : Int := l.foldl (fun a c => 10 * a + ((c.toNat : Int) - 48)) a
theorem valI_cons (a : Int) (c : UInt8) (l : List UInt8) : valI a (c :: l) = valI (10 * a + ((c.toNat : Int) - 48)) l := rfl
def minusI (l : List UInt8) : Bool := decide (0 < l.length) && l.getD 0 0 == 45
def digitsI (l : List UInt8) : List UInt8 := if minusI l = true then l.drop 1 else l
def okNum (l : List UInt8) : Bool := !decide ((digitsI l).length < 1 ∨ 9 < (digitsI l).length) && (digitsI l).all isDig
def numW (l : List UInt8) : Int := if okNum l = true then (if minusI l = true then -valI 0 (digitsI l) else valI 0 (digitsI l)) else 0
theorem dig_step {β : Type} (x : UInt8) (h : AH) (K : Bool × AH → Option β) (e2 : Option Int) (he : e2 = some (x.toNat : Int)) :
   (((bif ((decide ((x.toNat : Int) < (48 : Int))) == false) then (e2.bind fun n2 => some ((AV.bool (decide ((57 : Int) < n2))), h)) else (some ((AV.bool true), h)) : Option (AV × AH))).bind fun r3 => (AV.bool? r3.1).bind fun b4 => K (b4, r3.2)) = K (!isDig x, h) := by
 subst he
 rw [o_bd]
 unfold isDig
 cases decide ((x.toNat : Int) < 48) <;> cases decide (57 < (x.toNat : Int)) <;> rfl
theorem minus_step {β : Type} (l : List UInt8) (h : AH) (K : Bool × AH → Option β) :
   (((bif ((decide ((0 : Int) < (((tx l).size : Nat) : Int))) == true) then ((strAt (tx l) (0 : Int)).bind fun n1 => some ((AV.bool (decide (n1 = (45 : Int)))), h)) else (some ((AV.bool false), h)) : Option (AV × AH))).bind fun r2 => (AV.bool? r2.1).bind fun b3 => K (b3, r2.2)) = K (minusI l, h) := by
 rw [tx_size]
 unfold minusI
 by_cases h0 : 0 < l.length
 · have := strAt_mk (l := l) (k := 0) h0
   rw [show ((0 : Nat) : Int) = 0 from rfl] at this
   rw [decide_eq_true (show (0 : Int) < (l.length : Int) by omega), this, decide_eq_true h0]
   have e := u8_dec (l.getD 0 0) 45
   rw [show (((45 : UInt8).toNat : Nat) : Int) = 45 from rfl] at e
   simp only [beq_self_eq_true, cond_true, o_bd, bool_bool, Bool.true_and]
   rw [e]
 · rw [decide_eq_false (show ¬ (0 : Int) < (l.length : Int) by omega), decide_eq_false h0]
   rfl
theorem pow10_le {k : Nat} (h : k ≤ 9) : (10 : Int) ^ k ≤ 1000000000 := by
 have : ∀ k : Nat, k ≤ 9 → (10 : Int) ^ k ≤ 1000000000 := by decide
 exact this k h
theorem digits_tx (l : List UInt8) : (if minusI l = true then ByteArray.extract (tx l) 1 l.length else tx l) = tx (digitsI l) := by
 unfold digitsI
 cases h : minusI l with
 | true => rw [if_pos rfl, if_pos rfl, tx_drop]
 | false => rfl
theorem minus_pos {l : List UInt8} (h : minusI l = true) : 0 < l.length := by
 unfold minusI at h
 simp at h
 exact h.1
theorem wnum_loop (fuel d : Nat) {s t : List UInt8} (ht : t.length ≤ 9) (h : AH) : ∀ (n k : Nat), t.length < n + k → k ≤ t.length →
   l_word_Number_0 fuel d n [(0, .str (tx s)), (4, .str (tx t)), (28, .int .i64 (t.length : Int)), (29, .int .i64 (k : Int))] h =
     if (t.drop k).all isDig = true then some (.exit 0, [(0, .str (tx s)), (2, .bot), (3, .bot)], h) else some (.ret, [(0, .str (tx s)), (2, .int .i64 0), (3, .bool false)], h) := by
 intro n
 induction n with
 | zero => intro k h1 h2; omega
 | succ n ih =>
   intro k h1 h2
   rw [l_word_Number_0_eq]
   by_cases hk : k < t.length
   · rw [bif_pos (by omega), drop_cons hk, List.all_cons]
     have hs := strAt_mk (l := t) (k := k) hk
     generalize t.getD k 0 = x at hs
     rw [hs]
     simp only [o_bd]
     have e := dig_step x h (fun p => (bif p.1 then (some (.ret, [(0, (.str (tx s))), (2, (.int .i64 (0 : Int))), (3, (.bool false))], p.2)) else
       l_word_Number_0 fuel d n [(0, (.str (tx s))), (4, (.str (tx t))), (28, (.int .i64 (t.length : Int))), (29, (.int .i64 (IntKind.wrap .i64 ((k : Int) + (1 : Int)))))] p.2)) (some (x.toNat : Int)) rfl
     simp only [o_bd] at e
     rw [e]
     cases hx : isDig x with
     | false => rfl
     | true =>
       simp only [Bool.not_true, cond_false, Bool.true_and]
       rw [sucU (by omega)]
       exact ih (k + 1) (by omega) (by omega)
   · have : k = t.length := by omega
     subst this
     rw [bif_neg (by omega), List.drop_length]
     rfl
theorem atoi_loop (fuel d : Nat) {s t : List UInt8} (ht : t.length ≤ 9) {r : Sl} {h : AH} (hr : h.sliceCells 1 r = some (bytesC t)) : ∀ (n k : Nat) (a : Int), t.length < n + k → k ≤ t.length → 0 ≤ a → a < 10 ^ k → (t.drop k).all isDig = true →
   l_internal_strconv_Atoi_0 fuel d n [(5, .str (tx s)), (6, .int .i64 a), (47, .slice r), (48, .int .i64 (t.length : Int)), (49, .int .i64 (k : Int))] h = some (.exit 0, [(2, .bot), (3, .bot), (5, .str (tx s)), (6, .int .i64 (valI a (t.drop k)))], h) := by
 intro n
 induction n with
 | zero => intro k a h1 h2; omega
 | succ n ih =>
   intro k a h1 h2 h3 h4 h5
   have hp := pow10_le (k := k) (by omega)
   have hlen := sliceCells_len hr
   simp only [List.length_map, Nat.mul_one] at hlen
   rw [l_internal_strconv_Atoi_0_eq]
   by_cases hk : k < t.length
   · have hp2 := pow10_le (k := k + 1) (by omega)
     rw [Int.pow_succ] at hp2
     have had := addr_at hr (j := (k : Int)) (by omega) (by omega)
     have hce := cell_at hr (j := (k : Int)) (v := .int .u8 ((t.getD k 0).toNat : Int)) (by omega) (by rw [Int.toNat_natCast, List.getElem?_map, List.getElem?_eq_getElem hk, List.getD_eq_getElem?_getD, List.getElem?_eq_getElem hk]; rfl)
     rw [drop_cons hk, List.all_cons] at h5
     rw [bif_pos (by omega), had, drop_cons hk, valI_cons]
     generalize t.getD k 0 = x at hce h5
     simp only [Bool.and_eq_true] at h5
     obtain ⟨q1, q2⟩ := isDig_true h5.1
     rw [o_bd, hce]
     simp only [o_bd, int_int]
     rw [wrapU8, show ((x.toNat : Int) - 48) % 256 = (x.toNat : Int) - 48 by omega, bif_neg (by omega), wrap64 (n := a * 10) (by omega) (by omega), wrap64 (n := (x.toNat : Int) - 48) (by omega) (by omega), wrap64 (by omega) (by omega), sucU (by omega), show a * 10 + ((x.toNat : Int) - 48) = 10 * a + ((x.toNat : Int) - 48) by omega]
     exact ih (k + 1) _ (by omega) (by omega) (by omega) (by rw [Int.pow_succ]; omega) h5.2
   · have : k = t.length := by omega
     subst this
     rw [bif_neg (by omega), List.drop_length]
     rfl
theorem valI_bound : ∀ (t : List UInt8) (k : Nat) (a : Int), t.length + k ≤ 9 → 0 ≤ a → a < 10 ^ k → t.all isDig = true → 0 ≤ valI a t ∧ valI a t < 1000000000
 | [], k, a, h1, h2, h3, _ => by
   have := pow10_le (k := k) (by simp at h1; omega)
   exact ⟨h2, by show a < _; omega⟩
 | c :: t, k, a, h1, h2, h3, h4 => by
   simp only [List.all_cons, Bool.and_eq_true] at h4
   obtain ⟨q1, q2⟩ := isDig_true h4.1
   rw [valI_cons]
   exact valI_bound t (k + 1) _ (by simp at h1; omega) (by omega) (by rw [Int.pow_succ]; omega) h4.2
theorem okNum_facts {l : List UInt8} (h : okNum l = true) : 1 ≤ (digitsI l).length ∧ (digitsI l).length ≤ 9 ∧ (digitsI l).all isDig = true ∧ 0 < l.length ∧ l.length < 19 := by
 unfold okNum at h
 simp only [Bool.and_eq_true, Bool.not_eq_true', decide_eq_false_iff_not] at h
 obtain ⟨h1, h2⟩ := h
 have h3 : l.length ≤ (digitsI l).length + 1 ∧ (digitsI l).length ≤ l.length := by
   unfold digitsI
   split
   · rw [List.length_drop]; omega
   · omega
 exact ⟨by omega, by omega, h2, by omega, by omega⟩
theorem bytesOf_tx (t : List UInt8) : bytesOf (tx t) = bytesC t := rfl
theorem atoi_tail (fuel d : Nat) {l : List UInt8} (hok : okNum l = true) (h : AH) : k_internal_strconv_Atoi_0 fuel d (.exit 0) [(2, .bot), (3, .bot), (5, .str (tx l)), (6, .int .i64 (valI 0 (digitsI l)))] h = some (.tup [.int .i64 (numW l), .nilif], h) := by
 obtain ⟨h1, h2, h3, h4, h5⟩ := okNum_facts hok
 obtain ⟨v1, v2⟩ := valI_bound (digitsI l) 0 0 (by omega) (by omega) (by simp) h3
 rw [k_internal_strconv_Atoi_0_x0]
 have hs := strAt_mk (l := l) (k := 0) h4
 rw [show ((0 : Nat) : Int) = 0 from rfl] at hs
 have e := u8_dec (l.getD 0 0) 45
 rw [show (((45 : UInt8).toNat : Nat) : Int) = 45 from rfl] at e
 rw [hs, o_bd, e]
 unfold numW minusI
 rw [if_pos hok, decide_eq_true h4, Bool.true_and]
 cases (l.getD 0 0 == 45) with
 | true =>
   simp only [cond_true, if_true, o_bd, k_internal_strconv_Atoi_1_n]
   rw [wrap64 (by omega) (by omega), show 0 - valI 0 (digitsI l) = -valI 0 (digitsI l) by omega]
 | false =>
   simp only [cond_false, Bool.false_eq_true, if_false, o_bd, k_internal_strconv_Atoi_1_n]
theorem atoiN_run (fuel d : Nat) (hf : 20 < fuel) {l : List UInt8} (hok : okNum l = true) (h : AH) : run fuel (d + 1) F_internal_strconv_Atoi [.str (tx l)] h = some (.tup [.int .i64 (numW l), .nilif], h) := by
 have key : ∃ h', brun fuel (d + 1) F_internal_strconv_Atoi [.str (tx l)] AH.none = some (.tup [.int .i64 (numW l), .nilif], h') := by
   obtain ⟨h1, h2, h3, h4, h5⟩ := okNum_facts hok
   have hs := strAt_mk (l := l) (k := 0) h4
   rw [show ((0 : Nat) : Int) = 0 from rfl] at hs
   have loop : ∀ h : AH, h = AH.none → ∃ h', (l_internal_strconv_Atoi_0 fuel d fuel [(5, (.str (tx l))), (6, (.int .i64 (0 : Int))), (47, (.slice (Sl.mk ⟨AH.next h, 0, 0⟩ (digitsI l).length false))), (48, (.int .i64 ((digitsI l).length : Int))), (49, (.int .i64 (0 : Int)))] (AH.push h 1 (bytesC (digitsI l)))).bind (fun p => k_internal_strconv_Atoi_0 fuel d p.1 p.2.1 p.2.2) = some (.tup [.int .i64 (numW l), .nilif], h') := by
     intro h _
     have ho : Own (h.push 1 (bytesC (digitsI l))) 1 h.rows.length 0 (digitsI l).length (bytesC (digitsI l)) := Own.push h 1 _ _ (by simp)
     have hr : (h.push 1 (bytesC (digitsI l))).sliceCells 1 (Sl.mk ⟨AH.next h, 0, 0⟩ (digitsI l).length false) = some (bytesC (digitsI l)) := ho.cells false
     have := atoi_loop fuel d (s := l) (t := digitsI l) h2 hr fuel 0 0 (by omega) (by omega) (by omega) (by simp) h3
     rw [show ((0 : Nat) : Int) = 0 from rfl, List.drop_zero] at this
     rw [this, o_bd, atoi_tail fuel d hok]
     exact ⟨_, rfl⟩
   have e := u8_dec (l.getD 0 0) 45
   rw [show (((45 : UInt8).toNat : Nat) : Int) = 45 from rfl] at e
   rw [e_internal_strconv_Atoi, tx_size]
   simp only [show ((false == true) : Bool) = false from rfl, show ((false == false) : Bool) = true from rfl, show ((true == true) : Bool) = true from rfl, cond_false, cond_true, o_bd, bool_bool]
   rw [decide_eq_true (show (0 : Int) < (l.length : Int) by omega), decide_eq_true (show (l.length : Int) < 19 by omega)]
   simp only [cond_true, o_bd, bool_bool, hs]
   rw [e]
   cases hm : (l.getD 0 0 == 45) with
   | true =>
     have hd : digitsI l = l.drop 1 := by unfold digitsI minusI; rw [decide_eq_true h4, hm]; rfl
     simp only [show ((true == false) : Bool) = false from rfl, cond_false, o_bd, bool_bool, cond_true]
     rw [aHi_none, o_bd, aLo_some (by omega) (by omega), o_bd, show (1 : Int).toNat = 1 from rfl, tx_drop, ← hd, tx_size, bif_neg (by omega), bytesOf_tx, Sl.len]
     exact loop _ rfl
   | false =>
     have hd : digitsI l = l := by unfold digitsI minusI; rw [decide_eq_true h4, hm]; rfl
     have hdig : isDig (l.getD 0 0) = true := by
       rw [hd] at h3
       have := List.all_eq_true.1 h3 (l.getD 0 0) (by rw [List.getD_eq_getElem?_getD, List.getElem?_eq_getElem h4]; exact List.getElem_mem _)
       exact this
     obtain ⟨q1, q2⟩ := isDig_true hdig
     rw [decide_eq_false (show ¬ ((l.getD 0 0).toNat : Int) = 43 by omega)]
     simp only [show ((false == false) : Bool) = true from rfl, cond_false, o_bd, bool_bool, cond_true]
     rw [bytesOf_tx, Sl.len]
     have := loop _ rfl
     rw [hd] at this
     exact this
 obtain ⟨h', e⟩ := key
 exact pure_of rfl rfl (cc1 rfl) e (freeze_tup2 _ rfl rfl)
theorem Atoi_run (fuel d : Nat) (hf : 20 < fuel) {l : List UInt8} (hok : okNum l = true) (h : AH) : run fuel (d + 2) F_strconv_Atoi [.str (tx l)] h = some (.tup [.int .i64 (numW l), .nilif], h) := by
 refine pure_of rfl rfl (cc1 rfl) (r := .tup [.int .i64 (numW l), .nilif]) (h' := AH.none) ?_ (freeze_tup2 _ rfl rfl)
 rw [e_strconv_Atoi, atoiN_run fuel d hf hok]
 simp only [o_bd, isTup_tup, List.length_cons, List.length_nil, Nat.beq, cond_true, comp_tup, List.getElem?_cons_zero, List.getElem?_cons_succ, int_int, nilTest_nilif, Bool.not_true, cond_false]
theorem wNum_run (fuel d : Nat) (hf : 20 < fuel) (l : List UInt8) (h : AH) : run fuel (d + 3) F_word_Number [.str (tx l)] h = some (.tup [.int .i64 (numW l), .bool (okNum l)], h) := by
 refine pure_of rfl rfl (cc1 rfl) (r := .tup [.int .i64 (numW l), .bool (okNum l)]) (h' := AH.none) ?_ rfl
 rw [e_word_Number]
 have e := minus_step l AH.none (fun p => ((bif p.1 then ((aHi (none : Option AV) (ByteArray.size (tx l))).bind fun hi4 =>
   (aLo (some (.int .i64 (1 : Int))) hi4).bind fun lo5 =>
   some (AExit.normal, [(0, (AV.str (tx l))), (4, (.str (ByteArray.extract (tx l) lo5 hi4)))], p.2)) else (some (.normal, [(0, (.str (tx l))), (4, (.str (tx l)))], p.2)))).bind fun p6 =>
   k_word_Number_0 fuel (d + 2) p6.1 p6.2.1 p6.2.2)
 rw [e]
 have step : (bif minusI l then ((aHi (none : Option AV) (ByteArray.size (tx l))).bind fun hi4 =>
   (aLo (some (.int .i64 (1 : Int))) hi4).bind fun lo5 =>
   some (AExit.normal, [(0, (AV.str (tx l))), (4, (.str (ByteArray.extract (tx l) lo5 hi4)))], AH.none)) else (some (.normal, [(0, (.str (tx l))), (4, (.str (tx l)))], AH.none))) =
     some (AExit.normal, [(0, .str (tx l)), (4, .str (tx (digitsI l)))], AH.none) := by
   rw [← digits_tx]
   cases hm : minusI l with
   | true =>
     have := minus_pos hm
     rw [cond_true, aHi_none, o_bd, tx_size, aLo_some (by omega) (by omega), o_bd, if_pos rfl]
     rfl
   | false => rfl
 rw [step, o_bd, k_word_Number_0_n, tx_size, or2]
 by_cases h0 : (digitsI l).length < 1 ∨ 9 < (digitsI l).length
 · have hok : okNum l = false := by unfold okNum; rw [decide_eq_true h0]; rfl
   rw [decide_eq_true (show (((digitsI l).length : Nat) : Int) < 1 ∨ 9 < (((digitsI l).length : Nat) : Int) by omega)]
   unfold numW
   rw [hok]
   rfl
 · rw [decide_eq_false (show ¬ ((((digitsI l).length : Nat) : Int) < 1 ∨ 9 < (((digitsI l).length : Nat) : Int)) by omega), cond_false]
   have := wnum_loop fuel (d + 2) (s := l) (t := digitsI l) (by omega) AH.none fuel 0 (by omega) (by omega)
   rw [show ((0 : Nat) : Int) = 0 from rfl, List.drop_zero] at this
   rw [this]
   have hok : okNum l = (digitsI l).all isDig := by unfold okNum; rw [decide_eq_false h0]; rfl
   cases hd : (digitsI l).all isDig with
   | true =>
     rw [hd] at hok
     rw [if_pos rfl, o_bd, k_word_Number_1_x0, Atoi_run fuel d hf hok, hok]
     simp only [o_bd, isTup_tup, List.length_cons, List.length_nil, Nat.beq, cond_true, comp_tup, List.getElem?_cons_zero, List.getElem?_cons_succ, int_int, nilTest_nilif]
   | false =>
     rw [hd] at hok
     rw [if_neg (by simp), o_bd, k_word_Number_1_r]
     unfold numW
     rw [hok]
     rfl
end Go.Proofs.YtjagkijfngokaaaGreatDoor
namespace Go.Proofs.YtjagkijfngokaaaGreatDoor
open Go.RowKit
theorem tx_append (a b : List UInt8) : (tx a ++ tx b : ByteArray) = tx (a ++ b) := by
 apply ByteArray.ext
 rw [ByteArray.data_append]
 simp
def digU (k : Nat) : UInt8 := UInt8.ofNat (48 + k % 10)
theorem digU_nat (k : Nat) : (digU k).toNat = 48 + k % 10 := by unfold digU; rw [UInt8.toNat_ofNat']; omega
theorem digU_dig (k : Nat) : isDig (digU k) = true := by
 unfold isDig
 rw [digU_nat, decide_eq_false (by omega), decide_eq_false (by omega)]; rfl
def decA : Nat → Nat → List UInt8 → List UInt8
 | 0, _, acc => acc
 | n + 1, k, acc => if k < 10 then digU k :: acc else decA n (k / 10) (digU k :: acc)
theorem valI_snoc (a : Int) (l : List UInt8) (c : UInt8) : valI a (l ++ [c]) = 10 * valI a l + ((c.toNat : Int) - 48) := by simp [valI]
theorem decA_is : ∀ (n k j : Nat) (acc : List UInt8), k < 10 ^ (j + 1) → j < n → ∃ D, decA n k acc = D ++ acc ∧ D.all isDig = true ∧ 1 ≤ D.length ∧ D.length ≤ j + 1 ∧ valI 0 D = (k : Int)
 | 0, k, j, acc, h1, h2 => by omega
 | n + 1, k, j, acc, h1, h2 => by
   unfold decA
   by_cases hk : k < 10
   · rw [if_pos hk]
     refine ⟨[digU k], rfl, by simp [digU_dig], by simp, by simp, ?_⟩
     simp [valI, digU_nat]
     omega
   · rw [if_neg hk]
     obtain ⟨j, rfl⟩ : ∃ i, j = i + 1 := by
       cases j with
       | zero => simp at h1; omega
       | succ j => exact ⟨j, rfl⟩
     rw [Nat.pow_succ] at h1
     obtain ⟨D, e1, e2, e3, e4, e5⟩ := decA_is n (k / 10) j (digU k :: acc) (by omega) (by omega)
     refine ⟨D ++ [digU k], by rw [e1]; simp, by simp [e2, digU_dig], by simp, by simp; omega, ?_⟩
     rw [valI_snoc, e5, digU_nat]
     omega
def decN (n : Nat) : List UInt8 := decA (n + 1) n []
def decT (x : Int) : List UInt8 := if x < 0 then 45 :: decN (-x).toNat else decN x.toNat
end Go.Proofs.YtjagkijfngokaaaGreatDoor
namespace Go.Proofs.YtjagkijfngokaaaGreatDoor
open Go.RowKit
theorem Sep0.perm {h0 h : AH} {L L' : List Chunk} (hs : Sep0 h0 h L) (hp : L.Perm L') : Sep0 h0 h L' :=
 ⟨⟨fun c hc => hs.sep.all c (hp.mem_iff.2 hc), hp.pairwise hs.sep.far fun h => Chunk.Far.symm h⟩, hs.ext, fun c hc => hs.fresh c (hp.mem_iff.2 hc)⟩
theorem Sep0.sub {h0 h : AH} {L L' : List Chunk} (hs : Sep0 h0 h L) (hp : L'.Sublist L) : Sep0 h0 h L' :=
 ⟨⟨fun c hc => hs.sep.all c (hp.subset hc), hs.sep.far.sublist hp⟩, hs.ext, fun c hc => hs.fresh c (hp.subset hc)⟩
theorem Sep0.cons {h0 h : AH} {L : List Chunk} {c : Chunk} (hs : Sep0 h0 h (L ++ [c])) : Sep0 h0 h (c :: L) := hs.perm (List.perm_append_singleton _ L)
theorem tup2 (a b : AV) : AV.isTup 2 (.tup [a, b]) = true := rfl
theorem tup3 (a b c : AV) : AV.isTup 3 (.tup [a, b, c]) = true := rfl
theorem comp0 (a : AV) (l : List AV) : AV.comp 0 (.tup (a :: l)) = some a := rfl
theorem comp1 (a b : AV) (l : List AV) : AV.comp 1 (.tup (a :: b :: l)) = some b := rfl
theorem comp2 (a b c : AV) (l : List AV) : AV.comp 2 (.tup (a :: b :: c :: l)) = some c := rfl
theorem nilTest_if (t : TypeId) (v : AV) : nilTest .iface (.iface t v) = some false := rfl
theorem all_len {α : Type} {l : List α} {z : List α} {n : Nat} (hl : l.length = n) (hz : z.length = n) : l.take 0 ++ z ++ l.drop (0 + z.length) = z := by
 rw [List.take_zero, List.nil_append, List.drop_eq_nil_of_le (by omega), List.append_nil]
theorem Sep0.putAll {h0 h : AH} {L : List Chunk} (hs : Sep0 h0 h L) {i id n : Nat} {cs vs : List AV} (hi : L[i]? = some (.own 1 id 0 n cs)) (hc : cs.length = n) (hv : vs.length = n) :
   ∃ h', h.storeAt vs (.mk ⟨id, 0, 0⟩ n) = some h' ∧ Sep0 h0 h' (L.set i (.own 1 id 0 n vs)) := by
 obtain ⟨h', e1, s1⟩ := hs.put (o := 0) (l := n) (vs := vs) hi (by omega) (by omega)
 rw [all_len hc hv] at s1
 exact ⟨h', e1, s1⟩
theorem Sep0.getAll {h0 h : AH} {L : List Chunk} (hs : Sep0 h0 h L) {i id n : Nat} {cs : List AV} (hi : L[i]? = some (.own 1 id 0 n cs)) (hc : cs.length = n) : h.cellsAt n (.mk ⟨id, 0, 0⟩ n) = some cs := by
 have := (hs.sep.own hi).parts (o := 0) (k := n) (l := n) (by omega) (by omega)
 rw [List.drop_zero, List.take_of_length_le (by omega)] at this
 exact this
theorem Sep0.init {h0 h : AH} {L : List Chunk} {c : Chunk} (hs : Sep0 h0 h (L ++ [c])) : Sep0 h0 h L :=
 ⟨⟨fun d hd => hs.sep.all d (List.mem_append_left _ hd), hs.sep.far.sublist (List.sublist_append_left ..)⟩, hs.ext, fun d hd => hs.fresh d (List.mem_append_left _ hd)⟩
theorem Sep0.junk {h0 h : AH} {L : List Chunk} (hs : Sep0 h0 h L) {cs : List AV} : Sep0 h0 (h.push 1 cs) L := (hs.push 1 cs.length (cs := cs) (by simp)).init
theorem intsC_app (a b : List Int) : intsC (a ++ b) = intsC a ++ intsC b := List.map_append
theorem set0 {α : Type} (a x : α) (L : List α) : (a :: L).set 0 x = x :: L := rfl
theorem set1 {α : Type} (a b x : α) (L : List α) : (a :: b :: L).set 1 x = a :: x :: L := rfl
end Go.Proofs.YtjagkijfngokaaaGreatDoor
namespace Go.Proofs.YtjagkijfngokaaaGreatDoor
open Go.RowKit
theorem lit_cells (h : AH) (u : List UInt8) {n : Nat} (hn : n = u.length) : AH.sliceCells (AH.push h 1 (bytesC u)) 1 (Sl.mk ⟨AH.next h, 0, 0⟩ n true) = some (bytesC u) := by
 subst hn
 have ho : Own (h.push 1 (bytesC u)) 1 h.rows.length 0 u.length (bytesC u) := Own.push h 1 _ _ (by simp)
 exact ho.cells true
theorem bytesC_app (a b : List UInt8) : bytesC (a ++ b) = bytesC a ++ bytesC b := List.map_append
theorem lit_append {h0 h : AH} {s : Sl} {t : List UInt8} (hs : Sep0 h0 h [.grown 1 s (bytesC t)]) (u : List UInt8) {m : Nat} (hm : m = u.length) (ht : t.length + u.length < 1000000000) :
   ∃ s' h', AH.append h false 1 1 s m (bytesC u) = some (s', h') ∧ Sep0 h0 h' [.grown 1 s' (bytesC (t ++ u))] := by
 subst hm
 have hl := hs.len (i := 0) rfl
 simp only [List.length_map, Nat.mul_one] at hl
 obtain ⟨s', h', e1, s1, _⟩ := hs.grow (i := 0) (bytes := 1) (m := u.length) (vs := bytesC u) rfl (by simp) (by omega) (by omega)
 rw [← bytesC_app] at s1
 exact ⟨s', h', e1, s1⟩
end Go.Proofs.YtjagkijfngokaaaGreatDoor
namespace Go.Proofs.YtjagkijfngokaaaGreatDoor
open Go.RowKit
def dg (u e : Nat) : UInt8 := digU (u / 10 ^ e)
theorem digU_mod (v : Nat) : digU (v % 100) = digU v := by unfold digU; congr 2; omega
theorem digU_hi (v : Nat) : digU (v % 100 / 10) = digU (v / 10) := by unfold digU; congr 2; omega
theorem dg_succ (u e : Nat) : digU (u / 10 ^ e / 10) = dg u (e + 1) := by unfold dg; rw [Nat.div_div_eq_div_mul, Nat.pow_succ]
def padD (n u : Nat) : List UInt8 := (List.range n).map fun i => dg u (n - 1 - i)
theorem decA_pad : ∀ (j n k : Nat) (acc : List UInt8), (10 ^ j ≤ k ∨ j = 0) → k < 10 ^ (j + 1) → j < n → decA n k acc = padD (j + 1) k ++ acc
 | j, 0, k, acc, _, _, h => by omega
 | 0, n + 1, k, acc, _, h1, _ => by
   unfold decA
   rw [if_pos (by simpa using h1)]
   simp [padD, dg]
 | j + 1, n + 1, k, acc, h0, h1, h2 => by
   have h0 : 10 ^ (j + 1) ≤ k := h0.resolve_right (by omega)
   have hp : 0 < 10 ^ j := Nat.pow_pos (by omega)
   unfold decA
   rw [Nat.pow_succ] at h0 h1
   rw [if_neg (by omega), decA_pad j n (k / 10) (digU k :: acc) (.inl (by omega)) (by omega) (by omega)]
   have e : padD (j + 1 + 1) k = padD (j + 1) (k / 10) ++ [digU k] := by
     unfold padD
     rw [List.range_succ (n := j + 1), List.map_append, List.map_singleton]
     have e1 : dg k (j + 1 + 1 - 1 - (j + 1)) = digU k := by
       unfold dg
       rw [show j + 1 + 1 - 1 - (j + 1) = 0 by omega, Nat.pow_zero, Nat.div_one]
     rw [e1]
     congr 1
     refine List.map_congr_left fun i hi => ?_
     have hi := List.mem_range.1 hi
     unfold dg
     rw [show j + 1 + 1 - 1 - i = (j + 1 - 1 - i) + 1 by omega, Nat.pow_succ, Nat.mul_comm, Nat.div_div_eq_div_mul]
   rw [e]
   simp
theorem decN_pad {u nd : Nat} (h0 : 10 ^ (nd - 1) ≤ u ∨ nd = 1) (h1 : u < 10 ^ nd) (hn : 0 < nd) : decN u = padD nd u := by
 unfold decN
 obtain ⟨j, rfl⟩ : ∃ j, nd = j + 1 := ⟨nd - 1, by omega⟩
 have hj : j ≤ u ∨ j = 0 := by
   rcases h0 with h0 | h0
   · left
     have : j < 10 ^ j := Nat.lt_pow_self (by omega)
     rw [Nat.add_sub_cancel] at h0
     omega
   · right; omega
 have := decA_pad j (u + 1) u [] (by rcases h0 with h0 | h0; · exact .inl (by simpa using h0)
                                     · exact .inr (by omega)) h1 (by omega)
 rw [this, List.append_nil]
abbrev rowF (N : Nat) (f : Nat → UInt8) : List AV := (List.range N).map fun i => .int .u8 ((f i).toNat : Int)
def updF (f : Nat → UInt8) (p : Nat) (x : UInt8) : Nat → UInt8 := fun i => if i = p then x else f i
theorem rowF_set {N : Nat} (f : Nat → UInt8) {p : Nat} (x : UInt8) : (rowF N f).set p (.int .u8 (x.toNat : Int)) = rowF N (updF f p x) := by
 refine List.ext_getElem? fun i => ?_
 rw [List.getElem?_set]
 unfold rowF updF
 by_cases h : p = i
 · subst h
   rw [if_pos rfl]
   by_cases hp : p < N
   · rw [if_pos (by simpa using hp)]
     simp [hp]
   · rw [if_neg (by simpa using hp)]
     simp [List.getElem?_eq_none, Nat.le_of_not_lt hp]
 · rw [if_neg h]
   by_cases hi : i < N
   · simp [hi, Ne.symm h]
   · simp [List.getElem?_eq_none, Nat.le_of_not_lt hi]
theorem rowF_put {N : Nat} (f : Nat → UInt8) {p : Nat} (hp : p < N) (x : UInt8) : (rowF N f).take p ++ [.int .u8 (x.toNat : Int)] ++ (rowF N f).drop (p + 1) = rowF N (updF f p x) := by
 rw [← rowF_set, List.set_eq_take_append_cons_drop, if_pos (by simpa using hp)]
 simp
theorem rowF_part {N : Nat} (f : Nat → UInt8) {o n : Nat} (h : o + n ≤ N) : ((rowF N f).drop o).take n = bytesC ((List.range n).map fun i => f (o + i)) := by
 refine List.ext_getElem? fun i => ?_
 by_cases hi : i < n
 · rw [List.getElem?_take, if_pos hi, List.getElem?_drop]
   have h1 : o + i < N := by omega
   simp [rowF, hi, h1]
 · rw [List.getElem?_take, if_neg hi]
   simp [List.getElem?_eq_none, Nat.le_of_not_lt hi]
def digF (f : Nat → UInt8) (u o n lo : Nat) : Nat → UInt8 := fun i => if o + lo ≤ i ∧ i < o + n then dg u (o + n - 1 - i) else f i
theorem digF_start (f : Nat → UInt8) (u o n : Nat) : digF f u o n n = f := by
 funext i
 unfold digF
 rw [if_neg (by omega)]
theorem digF_pair (f : Nat → UInt8) (u o : Nat) {n lo v : Nat} (h : lo + 2 ≤ n) (hv : v = u / 10 ^ (n - (lo + 2)) % 100) : updF (updF (digF f u o n (lo + 2)) (o + (lo + 1)) (digU v)) (o + lo) (digU (v / 10)) = digF f u o n lo := by
 funext i
 unfold updF digF
 by_cases h1 : i = o + lo
 · subst h1
   rw [if_pos rfl, if_pos (by omega), hv, digU_hi, dg_succ]
   congr 1; omega
 · rw [if_neg h1]
   by_cases h2 : i = o + (lo + 1)
   · subst h2
     rw [if_pos rfl, if_pos (by omega), hv, digU_mod]
     unfold dg
     congr 3; omega
   · rw [if_neg h2]
     by_cases h3 : o + (lo + 2) ≤ i ∧ i < o + n
     · rw [if_pos h3, if_pos (by omega)]
     · rw [if_neg h3, if_neg (by omega)]
theorem digF_one (f : Nat → UInt8) (u o : Nat) {n v : Nat} (h : 0 < n) (hv : v = u / 10 ^ (n - 1)) : updF (digF f u o n 1) o (digU v) = digF f u o n 0 := by
 funext i
 unfold updF digF
 by_cases h1 : i = o
 · subst h1
   rw [if_pos rfl, if_pos (by omega), hv]
   unfold dg
   congr 3; omega
 · rw [if_neg h1]
   by_cases h3 : o + 1 ≤ i ∧ i < o + n
   · rw [if_pos h3, if_pos (by omega)]
   · rw [if_neg h3, if_neg (by omega)]
theorem digF_all (f : Nat → UInt8) (u o n : Nat) : ((List.range n).map fun i => digF f u o n 0 (o + i)) = padD n u := by
 unfold padD
 refine List.map_congr_left fun i hi => ?_
 have hi := List.mem_range.1 hi
 unfold digF
 rw [if_pos (by omega)]
 congr 1; omega
end Go.Proofs.YtjagkijfngokaaaGreatDoor
namespace Go.Proofs.YtjagkijfngokaaaGreatDoor
open Go.RowKit Go.Sort
theorem wrapu64 {n : Int} (h0 : 0 ≤ n) (h1 : n < 18446744073709551616) : IntKind.wrap .u64 n = n := by
 simp [IntKind.wrap, IntKind.bits, IntKind.signed]
 omega
theorem wrapu32 {n : Int} (h0 : 0 ≤ n) (h1 : n < 4294967296) : IntKind.wrap .u32 n = n := by
 simp [IntKind.wrap, IntKind.bits, IntKind.signed]
 omega
theorem negu64 {n : Int} (h0 : -9223372036854775808 ≤ n) (h1 : n < 0) : IntKind.wrap .u64 (0 - IntKind.wrap .u64 n) = -n := by
 simp [IntKind.wrap, IntKind.bits, IntKind.signed]
 omega
theorem blen_shift {n k : Nat} (h : 2 ^ k ≤ n) : bitsLen n = bitsLen (n / 2 ^ k) + k := by
 have key : ∀ j, bitsLen n ≤ j ↔ bitsLen (n / 2 ^ k) + k ≤ j := by
   intro j
   rw [bitsLen_le_iff]
   rcases Nat.lt_or_ge j k with hj | hj
   · have : 2 ^ j ≤ 2 ^ k := Nat.pow_le_pow_right (by omega) (by omega)
     constructor
     · intro h1; omega
     · intro h1; omega
   · have e : bitsLen (n / 2 ^ k) + k ≤ j ↔ bitsLen (n / 2 ^ k) ≤ j - k := by omega
     rw [e, bitsLen_le_iff, Nat.div_lt_iff_lt_mul (Nat.two_pow_pos k), ← Nat.pow_add, Nat.sub_add_cancel hj]
 exact Nat.le_antisymm ((key _).2 (Nat.le_refl _)) ((key _).1 (Nat.le_refl _))
theorem blenTab_all : (List.range 256).all (fun i => bstr_633d862b.data.toList[i]? == some (UInt8.ofNat (bitsLen i))) = true := by kernel_rfl
theorem blenTab_at {i : Nat} (h : i < 256) : strAt bstr_633d862b (i : Int) = some (bitsLen i : Int) := by
 have := List.all_eq_true.1 blenTab_all i (List.mem_range.2 h)
 have h2 : bstr_633d862b.data.toList[i]? = some (UInt8.ofNat (bitsLen i)) := by simpa using this
 have h3 : bitsLen i ≤ 8 := (bitsLen_le_iff i 8).2 (by omega)
 unfold strAt
 rw [bif_pos (by omega), Int.toNat_natCast, h2]
 simp
 omega
theorem sumI {a b : Nat} (h : a + b < 9000000000000000000) : IntKind.wrap .i64 ((a : Int) + (b : Int)) = ((a + b : Nat) : Int) := by rw [wrap64 (by omega) (by omega)]; omega
theorem fdivL (a b : Nat) : Int.fdiv (a : Int) (b : Int) = ((a / b : Nat) : Int) := by
 rw [Int.fdiv_eq_ediv_of_nonneg _ (by omega)]
 exact (Int.natCast_ediv a b).symm
theorem blen_2 (fuel d : Nat) {x : Nat} (hx : x < 256) {b : Nat} (hb : b < 1000) (h : AH) : k_bits_Len64_2 fuel d .normal [(0, .int .u64 (x : Int)), (2, .int .i64 (b : Int))] h = some (.int .i64 ((bitsLen x + b : Nat) : Int), h) := by
 have h3 : bitsLen x ≤ 8 := (bitsLen_le_iff x 8).2 (by omega)
 have e : IntKind.wrap .u8 (x : Int) = (x : Int) := by rw [wrapU8]; omega
 rw [k_bits_Len64_2_n, e]
 rw [blenTab_at hx, o_bd, wrap64 (n := (bitsLen x : Int)) (by omega) (by omega), sumI (by omega), Nat.add_comm]
theorem blen_1 (fuel d : Nat) {x : Nat} (hx : x < 65536) {b : Nat} (hb : b < 900) (h : AH) : k_bits_Len64_1 fuel d .normal [(0, .int .u64 (x : Int)), (2, .int .i64 (b : Int))] h = some (.int .i64 ((bitsLen x + b : Nat) : Int), h) := by
 rw [k_bits_Len64_1_n]
 by_cases h8 : 256 ≤ x
 · have e : Int.fdiv (x : Int) (2 ^ min (Int.toNat (8 : Int)) (IntKind.bits .u64)) = ((x / 2 ^ 8 : Nat) : Int) := fdivL x (2 ^ 8)
   have e2 : IntKind.wrap .i64 ((b : Int) + 8) = ((b + 8 : Nat) : Int) := sumI (b := 8) (by omega)
   rw [bif_pos (by omega), e, e2]
   simp only [o_bd]
   rw [blen_2 fuel d (by omega) (by omega), blen_shift (n := x) (k := 8) (by omega)]
   congr 3; omega
 · rw [bif_neg (by omega)]
   simp only [o_bd]
   exact blen_2 fuel d (by omega) (by omega) h
theorem blen_0 (fuel d : Nat) {x : Nat} (hx : x < 4294967296) {b : Nat} (hb : b < 800) (h : AH) : k_bits_Len64_0 fuel d .normal [(0, .int .u64 (x : Int)), (2, .int .i64 (b : Int))] h = some (.int .i64 ((bitsLen x + b : Nat) : Int), h) := by
 rw [k_bits_Len64_0_n]
 by_cases h8 : 65536 ≤ x
 · have e : Int.fdiv (x : Int) (2 ^ min (Int.toNat (16 : Int)) (IntKind.bits .u64)) = ((x / 2 ^ 16 : Nat) : Int) := fdivL x (2 ^ 16)
   have e2 : IntKind.wrap .i64 ((b : Int) + 16) = ((b + 16 : Nat) : Int) := sumI (b := 16) (by omega)
   rw [bif_pos (by omega), e, e2]
   simp only [o_bd]
   rw [blen_1 fuel d (by omega) (by omega), blen_shift (n := x) (k := 16) (by omega)]
   congr 3; omega
 · rw [bif_neg (by omega)]
   simp only [o_bd]
   exact blen_1 fuel d (by omega) (by omega) h
theorem blen_run (fuel d : Nat) {x : Nat} (hx : x < 18446744073709551616) (h : AH) : run fuel (d + 1) F_bits_Len64 [.int .u64 (x : Int)] h = some (.int .i64 (bitsLen x : Int), h) := by
 refine pure_of rfl rfl (cc1 rfl) (r := .int .i64 (bitsLen x : Int)) (h' := AH.none) ?_ rfl
 rw [e_bits_Len64]
 by_cases h8 : 4294967296 ≤ x
 · have e : Int.fdiv (x : Int) (2 ^ min (Int.toNat (32 : Int)) (IntKind.bits .u64)) = ((x / 2 ^ 32 : Nat) : Int) := fdivL x (2 ^ 32)
   rw [bif_pos (by omega), e]
   simp only [o_bd]
   have := blen_0 fuel d (x := x / 2 ^ 32) (by omega) (b := 32) (by omega) AH.none
   rw [← blen_shift (n := x) (k := 32) (by omega)] at this
   exact this
 · rw [bif_neg (by omega)]
   simp only [o_bd]
   have := blen_0 fuel d (x := x) (by omega) (b := 0) (by omega) AH.none
   simpa using this
def ndT (b : Nat) : Nat := b * 78913 / 2 ^ 18
theorem ndT_all : (List.range 65).all (fun b => decide (b = 0) || (decide (2 ^ b ≤ 10 ^ (ndT b + 1)) && (decide (ndT b = 0) || decide (10 ^ (ndT b - 1) ≤ 2 ^ (b - 1))) && decide (ndT b ≤ 19))) = true := by kernel_rfl
theorem ndT_at {b : Nat} (h0 : 0 < b) (h : b ≤ 64) : 2 ^ b ≤ 10 ^ (ndT b + 1) ∧ (ndT b = 0 ∨ 10 ^ (ndT b - 1) ≤ 2 ^ (b - 1)) ∧ ndT b ≤ 19 := by
 have := List.all_eq_true.1 ndT_all b (List.mem_range.2 (by omega))
 simp only [Bool.or_eq_true, Bool.and_eq_true, decide_eq_true_eq] at this
 rcases this with h1 | ⟨⟨h1, h2⟩, h3⟩
 · omega
 · exact ⟨h1, h2, h3⟩
def nDig (u : Nat) : Nat := ndT (bitsLen u) + (if 10 ^ ndT (bitsLen u) ≤ u then 1 else 0)
theorem nDig_ok {u : Nat} (h0 : 0 < u) (h : u < 18446744073709551616) : (10 ^ (nDig u - 1) ≤ u ∨ nDig u = 1) ∧ u < 10 ^ nDig u ∧ 0 < nDig u ∧ nDig u ≤ 20 := by
 have hb : bitsLen u ≤ 64 := (bitsLen_le_iff u 64).2 h
 have hb0 : 0 < bitsLen u := by
   rcases Nat.eq_zero_or_pos (bitsLen u) with h1 | h1
   · have := (bitsLen_le_iff u 0).1 (by omega); simp at this; omega
   · exact h1
 have hu : u < 2 ^ bitsLen u := (bitsLen_le_iff u _).1 (Nat.le_refl _)
 have hl : 2 ^ (bitsLen u - 1) ≤ u := by
   rcases Nat.lt_or_ge u (2 ^ (bitsLen u - 1)) with h1 | h1
   · have := (bitsLen_le_iff u (bitsLen u - 1)).2 h1; omega
   · exact h1
 obtain ⟨a1, a2, a3⟩ := ndT_at hb0 hb
 unfold nDig
 by_cases hc : 10 ^ ndT (bitsLen u) ≤ u
 · rw [if_pos hc]
   exact ⟨.inl (by simpa using hc), by omega, by omega, by omega⟩
 · rw [if_neg hc, Nat.add_zero]
   have hne : ndT (bitsLen u) ≠ 0 := fun e => by rw [e] at hc; simp at hc; omega
   exact ⟨.inl (by omega), by omega, by omega, by omega⟩
theorem decN_dig {u : Nat} (h0 : 0 < u) (h : u < 18446744073709551616) : decN u = padD (nDig u) u := by
 obtain ⟨a1, a2, a3, _⟩ := nDig_ok h0 h
 exact decN_pad a1 a2 a3
theorem tab_eq : tab_strconv_uint64pow10 = (List.range 20).map fun i => AV.int .u64 ((10 ^ i : Nat) : Int) := by kernel_rfl
theorem ndig_run (fuel d : Nat) {u : Nat} (h0 : 0 < u) (hu : u < 18446744073709551616) (h : AH) : run fuel (d + 2) F_strconv_numDigits [.int .u64 (u : Int)] h = some (.int .i64 (nDig u : Int), h) := by
 have hb : bitsLen u ≤ 64 := (bitsLen_le_iff u 64).2 hu
 have hb0 : 0 < bitsLen u := by
   rcases Nat.eq_zero_or_pos (bitsLen u) with h1 | h1
   · have := (bitsLen_le_iff u 0).1 (by omega); simp at this; omega
   · exact h1
 obtain ⟨a1, a2, a3⟩ := ndT_at hb0 hb
 refine pure_of rfl rfl (cc1 rfl) (r := .int .i64 (nDig u : Int)) (h' := AH.none) ?_ rfl
 have hlog : run fuel (d + 1) F_strconv_log10Pow2 [.int .i64 (bitsLen u : Int)] AH.none = some (.int .i64 (ndT (bitsLen u) : Int), AH.none) := by
   refine pure_of rfl rfl (cc1 rfl) (r := .int .i64 (ndT (bitsLen u) : Int)) (h' := AH.none) ?_ rfl
   have e : Int.fdiv ((bitsLen u * 78913 : Nat) : Int) (2 ^ min (Int.toNat (18 : Int)) (IntKind.bits .i64)) = ((bitsLen u * 78913 / 2 ^ 18 : Nat) : Int) := fdivL _ (2 ^ 18)
   rw [e_strconv_log10Pow2, wrap64 (by omega) (by omega), show (bitsLen u : Int) * 78913 = ((bitsLen u * 78913 : Nat) : Int) by omega, e]
   rfl
 have hbool : ∀ b : Bool, run fuel (d + 1) F_strconv_bool2_int [.bool b] AH.none = some (.int .i64 (if b = true then 1 else 0), AH.none) := fun b => by
   refine pure_of rfl rfl (cc1 rfl) (r := .int .i64 (if b = true then 1 else 0)) (h' := AH.none) ?_ rfl
   rw [e_strconv_bool2_int]
   cases b <;> rfl
 rw [e_strconv_numDigits, blen_run fuel d hu]
 simp only [o_bd, int_int]
 rw [hlog]
 have hc : ((List.range 20).map fun i => AV.int .u64 ((10 ^ i : Nat) : Int)).drop (ndT (bitsLen u)) = AV.int .u64 ((10 ^ ndT (bitsLen u) : Nat) : Int) :: ((List.range 20).map fun i => AV.int .u64 ((10 ^ i : Nat) : Int)).drop (ndT (bitsLen u) + 1) := by
   rw [List.drop_eq_getElem_cons (by simp; omega)]
   simp
 simp only [o_bd, int_int, Pt.elem]
 rw [decide_eq_true (show (0 : Int) ≤ (ndT (bitsLen u) : Int) by omega), decide_eq_true (show (ndT (bitsLen u) : Int) < ((20 : Nat) : Int) by omega), Int.toNat_natCast, Nat.mul_one, tab_eq, hc]
 simp only [Bool.and_self, cond_true, o_bd, cell_fp, int_int]
 rw [hbool]
 simp only [o_bd, int_int]
 unfold nDig
 by_cases hh : 10 ^ ndT (bitsLen u) ≤ u
 · rw [decide_eq_true (show ((10 ^ ndT (bitsLen u) : Nat) : Int) ≤ (u : Int) by omega), if_pos rfl, if_pos hh, wrap64 (by omega) (by omega)]
   rfl
 · rw [decide_eq_false (show ¬ ((10 ^ ndT (bitsLen u) : Nat) : Int) ≤ (u : Int) by omega), if_neg (by simp), if_neg hh, wrap64 (by omega) (by omega)]
   rfl
end Go.Proofs.YtjagkijfngokaaaGreatDoor
namespace Go.Proofs.YtjagkijfngokaaaGreatDoor
open Go.RowKit
theorem smalls_all : (List.range 100).all (fun v => bstr_db3e2f51.data.toList[v * 2]? == some (digU (v / 10)) && bstr_db3e2f51.data.toList[v * 2 + 1]? == some (digU v)) = true := by kernel_rfl
theorem smalls_at {v : Nat} (h : v < 100) : strAt bstr_db3e2f51 ((v * 2 : Nat) : Int) = some ((digU (v / 10)).toNat : Int) ∧ strAt bstr_db3e2f51 ((v * 2 + 1 : Nat) : Int) = some ((digU v).toNat : Int) := by
 have := List.all_eq_true.1 smalls_all v (List.mem_range.2 h)
 simp only [Bool.and_eq_true, beq_iff_eq] at this
 unfold strAt
 rw [bif_pos (by omega), bif_pos (by omega), Int.toNat_natCast, Int.toNat_natCast, this.1, this.2]
 exact ⟨rfl, rfl⟩
theorem put1 {h0 h : AH} {L : List Chunk} {A N : Nat} {f : Nat → UInt8} (hs : Sep0 h0 h (.own 1 A 0 N (rowF N f) :: L)) {off nd : Nat} {c : Bool} (hfit : off + nd ≤ N) {z : Int} {m : Nat} (hz : z = (m : Int)) (hm : m < nd) (x : UInt8) :
   ∃ h', (∀ {β : Type} (K : AH → Option β), ((h.addr 1 (.mk ⟨A, 0, off⟩ nd c) z).bind fun p => (h.storeAt [.int .u8 (x.toNat : Int)] p).bind K) = K h') ∧ Sep0 h0 h' (.own 1 A 0 N (rowF N (updF f (off + m) x)) :: L) := by
 subst hz
 have ho : Own h 1 A 0 N (rowF N f) := hs.sep.own (i := 0) rfl
 obtain ⟨⟨row, r1, r2, r3, r4, r5, r6⟩, hl⟩ := ho
 have ha : h.addr 1 (.mk ⟨A, 0, off⟩ nd c) (m : Int) = some (.mk ⟨A, 0, off + m⟩ (off + m + 1)) := by
   simp only [AH.addr, r1, r6, beq_eq, decide_true, cond_true, Int.toNat_natCast, Nat.mul_one]
   rw [decide_eq_true (show (0 : Int) ≤ (m : Int) by omega), decide_eq_true (show (m : Int) < (nd : Int) by omega)]
   rfl
 obtain ⟨h', e1, s1⟩ := hs.put (i := 0) (o := off + m) (l := off + m + 1) (vs := [.int .u8 (x.toNat : Int)]) rfl (by simp) (by simp; omega)
 refine ⟨h', fun K => by rw [ha, o_bd, e1, o_bd], ?_⟩
 rw [← rowF_put f (by omega) x]
 exact s1
theorem put2 {h0 h : AH} {L : List Chunk} {A N : Nat} {f : Nat → UInt8} {u off n lo : Nat} (hs : Sep0 h0 h (.own 1 A 0 N (rowF N (digF f u off n (lo + 2))) :: L)) {c : Bool} (hfit : off + n ≤ N) (hlo : lo + 2 ≤ n) {v : Nat} (hv : v = u / 10 ^ (n - (lo + 2)) % 100)
   {i1 i2 a1 a2 : Int} (h1 : i1 = ((v * 2 + 1 : Nat) : Int)) (h2 : i2 = ((v * 2 : Nat) : Int)) (h3 : a1 = ((lo + 1 : Nat) : Int)) (h4 : a2 = (lo : Int)) :
   ∃ h', (∀ {β : Type} (K : AH → Option β), ((strAt bstr_db3e2f51 i1).bind fun n1 => (strAt bstr_db3e2f51 i2).bind fun n2 => (h.addr 1 (.mk ⟨A, 0, off⟩ n c) a1).bind fun p3 => (h.storeAt [.int .u8 n1] p3).bind fun h4 =>
     (h4.addr 1 (.mk ⟨A, 0, off⟩ n c) a2).bind fun p5 => (h4.storeAt [.int .u8 n2] p5).bind K) = K h') ∧ Sep0 h0 h' (.own 1 A 0 N (rowF N (digF f u off n lo)) :: L) := by
 obtain ⟨q1, q2⟩ := smalls_at (v := v) (by omega)
 obtain ⟨g1, e1, s1⟩ := put1 hs (nd := n) (c := c) hfit h3 (by omega) (digU v)
 obtain ⟨g2, e2, s2⟩ := put1 s1 (nd := n) (c := c) hfit h4 (by omega) (digU (v / 10))
 refine ⟨g2, fun K => ?_, ?_⟩
 · rw [h1, h2, q1, q2, o_bd, o_bd, e1, e2]
 · rw [digF_pair f u off hlo hv] at s2
   exact s2
theorem tmodL (a b : Nat) : Int.tmod (a : Int) (b : Int) = ((a % b : Nat) : Int) := (Int.ofNat_tmod a b).symm
theorem tdivL (a b : Nat) : Int.tdiv (a : Int) (b : Int) = ((a / b : Nat) : Int) := (Int.ofNat_tdiv a b).symm
theorem tmL (a b : Nat) {z : Int} (hz : z = (b : Int)) : Int.tmod (a : Int) z = ((a % b : Nat) : Int) := by subst hz; exact tmodL a b
theorem tdL (a b : Nat) {z : Int} (hz : z = (b : Int)) : Int.tdiv (a : Int) z = ((a / b : Nat) : Int) := by subst hz; exact tdivL a b
theorem u32L {a : Nat} (h : a < 4294967296) : IntKind.wrap .u32 (a : Int) = (a : Int) := wrapu32 (by omega) (by omega)
theorem idx2 {v : Nat} (h : v < 100) : IntKind.wrap .u32 ((v : Int) * 2) = ((v * 2 : Nat) : Int) := by rw [wrapu32 (by omega) (by omega)]; omega
theorem idx1 {v : Nat} (h : v < 100) : IntKind.wrap .u32 (IntKind.wrap .u32 ((v : Int) * 2) + 1) = ((v * 2 + 1 : Nat) : Int) := by rw [idx2 h, wrapu32 (by omega) (by omega)]; omega
theorem m100 (a : Nat) : IntKind.wrap .u32 (IntKind.wrap .u32 (Int.tmod (Int.tmod (IntKind.wrap .u32 (Int.tmod (a : Int) 100000000)) 10000) 100 * 2) + 1) = ((a % 100 * 2 + 1 : Nat) : Int) ∧ IntKind.wrap .u32 (Int.tmod (Int.tmod (IntKind.wrap .u32 (Int.tmod (a : Int) 100000000)) 10000) 100 * 2) = ((a % 100 * 2 : Nat) : Int) := by
 rw [tmL a 100000000 (z := 100000000) rfl, u32L (by omega), tmL _ 10000 (z := 10000) rfl, tmL _ 100 (z := 100) rfl, show a % 100000000 % 10000 % 100 = a % 100 by omega]
 exact ⟨idx1 (by omega), idx2 (by omega)⟩
theorem m100b (a : Nat) : IntKind.wrap .u32 (IntKind.wrap .u32 (IntKind.wrap .u32 (Int.tdiv (Int.tmod (IntKind.wrap .u32 (Int.tmod (a : Int) 100000000)) 10000) 100) * 2) + 1) = ((a / 100 % 100 * 2 + 1 : Nat) : Int) ∧ IntKind.wrap .u32 (IntKind.wrap .u32 (Int.tdiv (Int.tmod (IntKind.wrap .u32 (Int.tmod (a : Int) 100000000)) 10000) 100) * 2) = ((a / 100 % 100 * 2 : Nat) : Int) := by
 rw [tmL a 100000000 (z := 100000000) rfl, u32L (by omega), tmL _ 10000 (z := 10000) rfl, tdL _ 100 (z := 100) rfl, u32L (by omega), show a % 100000000 % 10000 / 100 = a / 100 % 100 by omega]
 exact ⟨idx1 (by omega), idx2 (by omega)⟩
theorem m100c (a : Nat) : IntKind.wrap .u32 (IntKind.wrap .u32 (Int.tmod (IntKind.wrap .u32 (Int.tdiv (IntKind.wrap .u32 (Int.tmod (a : Int) 100000000)) 10000)) 100 * 2) + 1) = ((a / 10000 % 100 * 2 + 1 : Nat) : Int) ∧ IntKind.wrap .u32 (Int.tmod (IntKind.wrap .u32 (Int.tdiv (IntKind.wrap .u32 (Int.tmod (a : Int) 100000000)) 10000)) 100 * 2) = ((a / 10000 % 100 * 2 : Nat) : Int) := by
 rw [tmL a 100000000 (z := 100000000) rfl, u32L (by omega), tdL _ 10000 (z := 10000) rfl, u32L (by omega), tmL _ 100 (z := 100) rfl, show a % 100000000 / 10000 % 100 = a / 10000 % 100 by omega]
 exact ⟨idx1 (by omega), idx2 (by omega)⟩
theorem m100d (a : Nat) : IntKind.wrap .u32 (IntKind.wrap .u32 (IntKind.wrap .u32 (Int.tdiv (IntKind.wrap .u32 (Int.tdiv (IntKind.wrap .u32 (Int.tmod (a : Int) 100000000)) 10000)) 100) * 2) + 1) = ((a / 1000000 % 100 * 2 + 1 : Nat) : Int) ∧ IntKind.wrap .u32 (IntKind.wrap .u32 (Int.tdiv (IntKind.wrap .u32 (Int.tdiv (IntKind.wrap .u32 (Int.tmod (a : Int) 100000000)) 10000)) 100) * 2) = ((a / 1000000 % 100 * 2 : Nat) : Int) := by
 rw [tmL a 100000000 (z := 100000000) rfl, u32L (by omega), tdL _ 10000 (z := 10000) rfl, u32L (by omega), tdL _ 100 (z := 100) rfl, u32L (by omega), show a % 100000000 / 10000 / 100 = a / 1000000 % 100 by omega]
 exact ⟨idx1 (by omega), idx2 (by omega)⟩
theorem lastD {a : Nat} (h : a < 10) : IntKind.wrap .u8 (IntKind.wrap .u32 (48 + (a : Int))) = ((digU a).toNat : Int) := by
 rw [digU_nat, wrapu32 (by omega) (by omega), wrapU8]; omega
theorem divPow {u e k : Nat} {z : Nat} (hz : z = 10 ^ k) : u / 10 ^ e / z = u / 10 ^ (e + k) := by
 subst hz
 rw [Nat.div_div_eq_div_mul, ← Nat.pow_add]
theorem sub64 {a k : Nat} (h : k ≤ a) (ha : a < 1000) {z : Int} (hz : z = (k : Int)) : IntKind.wrap .i64 ((a : Int) - z) = ((a - k : Nat) : Int) := by
 subst hz
 rw [wrap64 (by omega) (by omega)]; omega
theorem fmt_loop (fuel d : Nat) {A N : Nat} {f : Nat → UInt8} {L : List Chunk} {h0 : AH} {u off n : Nat} {c : Bool} (hfit : off + n ≤ N) (hN : N < 1000) (hu : u < 18446744073709551616) (hun : u < 10 ^ n) : ∀ (k lo : Nat) (h : AH), lo < k → lo ≤ n → Sep0 h0 h (.own 1 A 0 N (rowF N (digF f u off n lo)) :: L) →
   ∃ h', (l_strconv_formatBase10_0 fuel d k [(0, .slice (.mk ⟨A, 0, off⟩ n c)), (1, .int .u64 ((u / 10 ^ (n - lo) : Nat) : Int)), (4, .int .i64 (lo : Int))] h).bind (fun p => k_strconv_formatBase10_0 fuel d p.1 p.2.1 p.2.2) = some (.tup [], h') ∧ Sep0 h0 h' (.own 1 A 0 N (rowF N (digF f u off n 0)) :: L) := by
 intro k
 induction k with
 | zero => intro lo h h1; omega
 | succ k ih =>
   intro lo h h1 h2 hs
   rw [l_strconv_formatBase10_0_eq]
   by_cases h8 : 8 ≤ lo
   · obtain ⟨lo, rfl⟩ : ∃ j, lo = j + 8 := ⟨lo - 8, by omega⟩
     rw [bif_pos (by omega)]
     generalize ha : u / 10 ^ (n - (lo + 8)) = a
     obtain ⟨g1, e1, s1⟩ := put2 (lo := lo + 6) hs (c := c) hfit (by omega) (v := a % 100) (by rw [← ha]) (m100 a).1 (m100 a).2 (sub64 (z := 1) (a := lo + 8) (k := 1) (by omega) (by omega) rfl) (sub64 (z := 2) (a := lo + 8) (k := 2) (by omega) (by omega) rfl)
     rw [e1]
     obtain ⟨g2, e2, s2⟩ := put2 (lo := lo + 4) s1 (c := c) hfit (by omega) (v := a / 100 % 100) (by rw [← ha, divPow (k := 2) (by rfl)]; congr 3; omega) (m100b a).1 (m100b a).2 (sub64 (z := 3) (a := lo + 8) (k := 3) (by omega) (by omega) rfl) (sub64 (z := 4) (a := lo + 8) (k := 4) (by omega) (by omega) rfl)
     rw [e2]
     obtain ⟨g3, e3, s3⟩ := put2 (lo := lo + 2) s2 (c := c) hfit (by omega) (v := a / 10000 % 100) (by rw [← ha, divPow (k := 4) (by rfl)]; congr 3; omega) (m100c a).1 (m100c a).2 (sub64 (z := 5) (a := lo + 8) (k := 5) (by omega) (by omega) rfl) (sub64 (z := 6) (a := lo + 8) (k := 6) (by omega) (by omega) rfl)
     rw [e3]
     obtain ⟨g4, e4, s4⟩ := put2 (lo := lo) s3 (c := c) hfit (by omega) (v := a / 1000000 % 100) (by rw [← ha, divPow (k := 6) (by rfl)]; congr 3; omega) (m100d a).1 (m100d a).2 (sub64 (z := 7) (a := lo + 8) (k := 7) (by omega) (by omega) rfl) (sub64 (z := 8) (a := lo + 8) (k := 8) (by omega) (by omega) rfl)
     rw [e4]
     have hle : u / 10 ^ (n - lo) ≤ u := Nat.div_le_self _ _
     have ea : IntKind.wrap .u64 (Int.tdiv (a : Int) 100000000) = ((u / 10 ^ (n - lo) : Nat) : Int) := by
       have e9 : a / 100000000 = u / 10 ^ (n - lo) := by rw [← ha, divPow (k := 8) (by rfl)]; congr 2; omega
       rw [tdL a 100000000 (z := 100000000) rfl, e9, wrapu64 (by omega) (by omega)]
     have el : IntKind.wrap .i64 (((lo + 8 : Nat) : Int) - 8) = (lo : Int) := sub64 (z := 8) (a := lo + 8) (k := 8) (by omega) (by omega) rfl
     rw [ea, el]
     exact ih lo g4 (by omega) (by omega) s4
   · rw [bif_neg (by omega)]
     simp only [o_bd, k_strconv_formatBase10_0_x0]
     have hsm : u / 10 ^ (n - lo) < 10 ^ lo := by
       rw [Nat.div_lt_iff_lt_mul (Nat.pow_pos (by omega)), ← Nat.pow_add, show lo + (n - lo) = n by omega]
       exact hun
     have h7 : 10 ^ lo ≤ 10 ^ 7 := Nat.pow_le_pow_right (by omega) (by omega)
     have last : ∀ (lo : Nat) (h : AH), lo < 2 → lo ≤ n → u / 10 ^ (n - lo) < 10 ^ lo → Sep0 h0 h (.own 1 A 0 N (rowF N (digF f u off n lo)) :: L) →
         ∃ h', k_strconv_formatBase10_2 fuel d .normal [(0, .slice (.mk ⟨A, 0, off⟩ n c)), (4, .int .i64 (lo : Int)), (12, .int .u32 ((u / 10 ^ (n - lo) : Nat) : Int))] h = some (.tup [], h') ∧ Sep0 h0 h' (.own 1 A 0 N (rowF N (digF f u off n 0)) :: L) := by
       intro lo h q1 q2 q3 hs
       rw [k_strconv_formatBase10_2_n]
       by_cases hl : lo = 0
       · subst hl
         rw [bif_neg (by omega)]
         exact ⟨h, rfl, hs⟩
       · have : lo = 1 := by omega
         subst this
         rw [bif_pos (by omega)]
         rw [Nat.pow_one] at q3
         have hw := lastD q3
         rw [hw]
         obtain ⟨g1, e1, s1⟩ := put1 hs (nd := n) (c := c) hfit (z := 0) (m := 0) rfl (by omega) (digU (u / 10 ^ (n - 1)))
         rw [e1]
         rw [Nat.add_zero, digF_one f u off (by omega) rfl] at s1
         exact ⟨g1, rfl, s1⟩
     have two : ∀ (lo : Nat) (h : AH), lo < 4 → lo ≤ n → u / 10 ^ (n - lo) < 10 ^ lo → Sep0 h0 h (.own 1 A 0 N (rowF N (digF f u off n lo)) :: L) →
         ∃ h', k_strconv_formatBase10_1 fuel d .normal [(0, .slice (.mk ⟨A, 0, off⟩ n c)), (4, .int .i64 (lo : Int)), (12, .int .u32 ((u / 10 ^ (n - lo) : Nat) : Int))] h = some (.tup [], h') ∧ Sep0 h0 h' (.own 1 A 0 N (rowF N (digF f u off n 0)) :: L) := by
       intro lo h q1 q2 q3 hs
       rw [k_strconv_formatBase10_1_n]
       by_cases hl : 2 ≤ lo
       · obtain ⟨lo, rfl⟩ : ∃ j, lo = j + 2 := ⟨lo - 2, by omega⟩
         have h3 : 10 ^ (lo + 2) ≤ 10 ^ 3 := Nat.pow_le_pow_right (by omega) (by omega)
         rw [bif_pos (by omega)]
         generalize ha : u / 10 ^ (n - (lo + 2)) = a at q3
         have i0 : Int.tmod (a : Int) 100 = ((a % 100 : Nat) : Int) := tmL a 100 (z := 100) rfl
         rw [i0]
         obtain ⟨g1, e1, s1⟩ := put2 (lo := lo) hs (c := c) hfit (by omega) (v := a % 100) (by rw [← ha]) (idx1 (by omega)) (idx2 (by omega)) (sub64 (z := 1) (a := lo + 2) (k := 1) (by omega) (by omega) rfl) (sub64 (z := 2) (a := lo + 2) (k := 2) (by omega) (by omega) rfl)
         rw [e1]
         have ea : a / 100 = u / 10 ^ (n - lo) := by rw [← ha, divPow (k := 2) (by rfl)]; congr 2; omega
         have el : IntKind.wrap .i64 (((lo + 2 : Nat) : Int) - 2) = (lo : Int) := sub64 (z := 2) (a := lo + 2) (k := 2) (by omega) (by omega) rfl
         simp only [o_bd]
         rw [tdL a 100 (z := 100) rfl, u32L (by omega), ea, el]
         refine last lo g1 (by omega) (by omega) ?_ s1
         rw [← ea]
         rw [Nat.pow_add] at q3
         omega
       · rw [bif_neg (by omega)]
         simp only [o_bd]
         exact last lo h (by omega) q2 q3 hs
     by_cases hl : 4 ≤ lo
     · obtain ⟨lo, rfl⟩ : ∃ j, lo = j + 4 := ⟨lo - 4, by omega⟩
       rw [bif_pos (by omega)]
       generalize ha : u / 10 ^ (n - (lo + 4)) = a at hsm
       have i0 : IntKind.wrap .u32 (a : Int) = (a : Int) := u32L (by omega)
       have i1 : Int.tmod (Int.tmod (a : Int) 10000) 100 = ((a % 100 : Nat) : Int) := by rw [tmL a 10000 (z := 10000) rfl, tmL _ 100 (z := 100) rfl]; congr 1; omega
       have i2 : IntKind.wrap .u32 (Int.tdiv (Int.tmod (a : Int) 10000) 100) = ((a / 100 % 100 : Nat) : Int) := by rw [tmL a 10000 (z := 10000) rfl, tdL _ 100 (z := 100) rfl, u32L (by omega)]; congr 1; omega
       rw [i0, i1, i2]
       obtain ⟨g1, e1, s1⟩ := put2 (lo := lo + 2) hs (c := c) hfit (by omega) (v := a % 100) (by rw [← ha]) (idx1 (by omega)) (idx2 (by omega)) (sub64 (z := 1) (a := lo + 4) (k := 1) (by omega) (by omega) rfl) (sub64 (z := 2) (a := lo + 4) (k := 2) (by omega) (by omega) rfl)
       rw [e1]
       obtain ⟨g2, e2, s2⟩ := put2 (lo := lo) s1 (c := c) hfit (by omega) (v := a / 100 % 100) (by rw [← ha, divPow (k := 2) (by rfl)]; congr 3; omega) (idx1 (by omega)) (idx2 (by omega)) (sub64 (z := 3) (a := lo + 4) (k := 3) (by omega) (by omega) rfl) (sub64 (z := 4) (a := lo + 4) (k := 4) (by omega) (by omega) rfl)
       rw [e2]
       have ea : a / 10000 = u / 10 ^ (n - lo) := by rw [← ha, divPow (k := 4) (by rfl)]; congr 2; omega
       have el : IntKind.wrap .i64 (((lo + 4 : Nat) : Int) - 4) = (lo : Int) := sub64 (z := 4) (a := lo + 4) (k := 4) (by omega) (by omega) rfl
       simp only [o_bd]
       rw [tdL a 10000 (z := 10000) rfl, u32L (by omega), ea, el]
       refine two lo g2 (by omega) (by omega) ?_ s2
       rw [← ea]
       rw [Nat.pow_add] at hsm
       omega
     · rw [bif_neg (by omega)]
       simp only [o_bd]
       have h3 : 10 ^ lo ≤ 10 ^ 3 := Nat.pow_le_pow_right (by omega) (by omega)
       rw [u32L (by omega)]
       exact two lo h (by omega) h2 hsm hs
theorem fmt_run (fuel d : Nat) {A N : Nat} {f : Nat → UInt8} {L : List Chunk} {h0 h : AH} {u off n : Nat} {c : Bool} (hfit : off + n ≤ N) (hN : N < 1000) (hf : n < fuel) (hu : u < 18446744073709551616) (hun : u < 10 ^ n) (hs : Sep0 h0 h (.own 1 A 0 N (rowF N f) :: L)) :
   ∃ h', run fuel (d + 1) F_strconv_formatBase10 [.slice (.mk ⟨A, 0, off⟩ n c), .int .u64 (u : Int)] h = some (.tup [], h') ∧ Sep0 h0 h' (.own 1 A 0 N (rowF N (digF f u off n 0)) :: L) := by
 rw [e_strconv_formatBase10, len_mk]
 have := fmt_loop fuel d (A := A) (N := N) (f := f) (L := L) (h0 := h0) (c := c) hfit hN hu hun fuel n h hf (Nat.le_refl _) (by rw [digF_start]; exact hs)
 rw [Nat.sub_self, Nat.pow_zero, Nat.div_one] at this
 exact this
end Go.Proofs.YtjagkijfngokaaaGreatDoor
namespace Go.Proofs.YtjagkijfngokaaaGreatDoor
open Go.RowKit
theorem sm_all : (List.range 100).all (fun x => if x < 10 then (bstr_e9b1713d.data.toList.drop x).take 1 == decN x else (bstr_db3e2f51.data.toList.drop (x * 2)).take 2 == decN x) = true := by kernel_rfl
theorem sm_size : ByteArray.size bstr_e9b1713d = 36 ∧ 200 ≤ ByteArray.size bstr_db3e2f51 := by
 refine ⟨by kernel_rfl, ?_⟩
 have : Nat.ble 200 (ByteArray.size bstr_db3e2f51) = true := by kernel_rfl
 generalize ByteArray.size bstr_db3e2f51 = z at this ⊢
 exact nble.1 this
theorem ex_tx (b : ByteArray) (i j : Nat) : b.extract i j = tx ((b.data.toList.drop i).take (j - i)) := by
 apply ByteArray.ext
 rw [ByteArray.data_extract]
 apply Array.ext'
 simp
theorem small_run (fuel d : Nat) {x : Nat} (hx : x < 100) (h : AH) : run fuel (d + 1) F_strconv_small [.int .i64 (x : Int)] h = some (.str (tx (decN x)), h) := by
 have ha := List.all_eq_true.1 sm_all x (List.mem_range.2 hx)
 obtain ⟨z1, z2⟩ := sm_size
 refine pure_of rfl rfl (cc1 rfl) (r := .str (tx (decN x))) (h' := AH.none) ?_ rfl
 rw [e_strconv_small]
 by_cases h10 : x < 10
 · rw [if_pos h10] at ha
   rw [bif_pos (by omega), sucU (by omega), aHi_some (by omega) (by omega), o_bd, aLo_some (by omega) (by omega), o_bd, ex_tx]
   rw [Int.toNat_natCast, Int.toNat_natCast, Nat.add_sub_cancel_left, eq_of_beq ha]
 · rw [if_neg h10] at ha
   have e1 : IntKind.wrap .i64 ((x : Int) * 2) = ((x * 2 : Nat) : Int) := by rw [wrap64 (by omega) (by omega)]; omega
   have e2 : IntKind.wrap .i64 (((x * 2 : Nat) : Int) + 2) = ((x * 2 + 2 : Nat) : Int) := by rw [wrap64 (by omega) (by omega)]; omega
   rw [bif_neg (by omega), e1, e2, aHi_some (by omega) (by omega), o_bd, aLo_some (by omega) (by omega), o_bd, ex_tx]
   rw [Int.toNat_natCast, Int.toNat_natCast, Nat.add_sub_cancel_left, eq_of_beq ha]
abbrev zero24 : List AV := rowF 24 fun _ => 0
theorem zero24_is : [(AV.int .u8 (0 : Int)), (.int .u8 (0 : Int)), (.int .u8 (0 : Int)), (.int .u8 (0 : Int)), (.int .u8 (0 : Int)), (.int .u8 (0 : Int)), (.int .u8 (0 : Int)), (.int .u8 (0 : Int)), (.int .u8 (0 : Int)), (.int .u8 (0 : Int)), (.int .u8 (0 : Int)), (.int .u8 (0 : Int)), (.int .u8 (0 : Int)), (.int .u8 (0 : Int)), (.int .u8 (0 : Int)), (.int .u8 (0 : Int)), (.int .u8 (0 : Int)), (.int .u8 (0 : Int)), (.int .u8 (0 : Int)), (.int .u8 (0 : Int)), (.int .u8 (0 : Int)), (.int .u8 (0 : Int)), (.int .u8 (0 : Int)), (.int .u8 (0 : Int))] = zero24 := rfl
theorem hasSz24 {h0 h : AH} {A : Nat} {f : Nat → UInt8} {L : List Chunk} (hs : Sep0 h0 h (.own 1 A 0 24 (rowF 24 f) :: L)) : (AH.hasSz h 1 (Sl.mk ⟨A, 0, 0⟩ 24 false)) = true := by
 obtain ⟨⟨row, r1, r2, r3, r4, r5, r6⟩, hl⟩ := (hs.sep.own (i := 0) rfl)
 simp [AH.hasSz, r1, r6]
theorem part24 {h0 h : AH} {A : Nat} {f : Nat → UInt8} {L : List Chunk} (hs : Sep0 h0 h (.own 1 A 0 24 (rowF 24 f) :: L)) {o n : Nat} (hn : 0 < n) (h2 : o + n ≤ 24) (c : Bool) : h.sliceCells 1 (.mk ⟨A, 0, o⟩ n c) = some (bytesC ((List.range n).map fun i => f (o + i))) := by
 obtain ⟨⟨row, r1, r2, r3, r4, r5, r6⟩, hl⟩ := (hs.sep.own (i := 0) rfl)
 rw [← rowF_part f h2, ← r2]
 have := sliceCells_of (h := h) (r := ⟨A, 0, o⟩) (n := n) (c := c) r1 r6 r4 (Nat.zero_le _) (by rw [r2]; simp; omega)
 rw [this, Nat.mul_one]
theorem padD_len (n u : Nat) : (padD n u).length = n := by simp [padD]
theorem fmtInt_run (fuel d : Nat) (hf : 30 < fuel) {x : Int} (g0 : -9223372036854775808 ≤ x) (g1 : x ≤ 9223372036854775807) (h : AH) : run fuel (d + 3) F_strconv_FormatInt [.int .i64 x, .int .i64 10] h = some (.str (tx (decT x)), h) := by
 have key : ∃ h', brun fuel (d + 3) F_strconv_FormatInt [.int .i64 x, .int .i64 10] AH.none = some (.str (tx (decT x)), h') := by
   rw [e_strconv_FormatInt, bif_pos rfl]
   by_cases hs1 : 0 ≤ x ∧ x < 100
   · obtain ⟨u, rfl⟩ : ∃ u : Nat, x = (u : Int) := ⟨x.toNat, by omega⟩
     have hc : (bif (decide ((0 : Int) ≤ (u : Int))) then (decide ((u : Int) < (100 : Int))) else false) = true := by rw [decide_eq_true hs1.1, decide_eq_true hs1.2]; rfl
     have hd : decT (u : Int) = decN u := by unfold decT; rw [if_neg (by omega), Int.toNat_natCast]
     rw [hc, cond_true, small_run fuel (d + 1) (by omega), hd]
     exact ⟨_, rfl⟩
   · have hc : (bif (decide ((0 : Int) ≤ x)) then (decide (x < (100 : Int))) else false) = false := by
       by_cases h1 : 0 ≤ x
       · rw [decide_eq_true h1, cond_true]; exact decide_eq_false fun h2 => hs1 ⟨h1, h2⟩
       · rw [decide_eq_false h1]; rfl
     rw [hc, cond_false, zero24_is]
     have s0 : Sep0 AH.none (AH.none.push 1 zero24) [.own 1 AH.none.next 0 24 zero24] := (Sep0.start AH.none).push 1 24 (by simp)
     generalize AH.none.push 1 zero24 = H at s0
     have tail : ∀ u : Nat, 0 < u → u < 18446744073709551616 → (x < 0 → u ≤ 9223372036854775808) → (decT x = (if x < 0 then [45] else []) ++ decN u) → ∃ h', k_strconv_FormatInt_0 fuel (d + 2) .normal [(0, .int .i64 x), (5, .ptr (.mk ⟨AH.none.next, 0, 0⟩ 24)), (6, .int .u64 (u : Int))] H = some (.str (tx (decT x)), h') := by
       intro u u0 u1 u2 hdx
       obtain ⟨a1, a2, a3, a4⟩ := nDig_ok u0 u1
       have hd := decN_dig u0 u1
       have e1 : IntKind.wrap .i64 (1 + (nDig u : Int)) = ((1 + nDig u : Nat) : Int) := by rw [wrap64 (by omega) (by omega)]; omega
       rw [k_strconv_FormatInt_0_n, ndig_run fuel d u0 u1]
       simp only [o_bd, int_int, Pt.mk?, aMx_none, aLo_none]
       rw [e1, aHi_some (by omega) (by omega), o_bd, aLo_some (by omega) (by omega), o_bd, hasSz24 s0]
       simp only [show Nat.ble (0 + 24 * 1) 24 = true from rfl, Bool.and_self, cond_true, Int.toNat_natCast]
       rw [show (1 : Int).toNat = 1 from rfl, Nat.mul_one, Nat.zero_add, Nat.add_sub_cancel_left]
       obtain ⟨h5, e5, s5⟩ := fmt_run fuel (d + 1) (N := 24) (off := 1) (c := false) (n := nDig u) (f := fun _ => 0) (by omega) (by omega) (by omega) u1 a2 s0
       rw [e5]
       simp only [o_bd]
       by_cases hn : x < 0
       · have hlen : nDig u ≤ 19 := by
           rcases a1 with b1 | b1
           · rcases Nat.lt_or_ge 19 (nDig u) with h8 | h8
             · have e20 : nDig u = 20 := by omega
               have := u2 hn
               rw [e20] at b1
               omega
             · exact h8
           · omega
         obtain ⟨h6, e6, s6⟩ := s5.put (i := 0) (o := 0) (l := 1) (vs := [.int .u8 (45 : Int)]) rfl (by simp) (by simp)
         have hel : Pt.elem 1 24 (0 : Int) (Pt.mk ⟨AH.none.next, 0, 0⟩ 24) = some (.mk ⟨AH.none.next, 0, 0⟩ 24) := rfl
         have e6' : h5.storeAt [.int .u8 (45 : Int)] (.mk ⟨AH.none.next, 0, 0⟩ 24) = some h6 := by
           simp only [AH.storeAt] at e6 ⊢
           exact e6
         have hz : (rowF 24 (digF (fun _ => 0) u 1 (nDig u) 0)).take 0 ++ [.int .u8 (45 : Int)] ++ (rowF 24 (digF (fun _ => 0) u 1 (nDig u) 0)).drop (0 + [AV.int .u8 (45 : Int)].length) = rowF 24 (updF (digF (fun _ => 0) u 1 (nDig u) 0) 0 45) := rowF_put _ (by omega) 45
         rw [hz] at s6
         rw [bif_pos hn, hel, o_bd, e6', o_bd, hasSz24 s6]
         simp only [o_bd, Bool.and_self, cond_true, Nat.zero_mul, Nat.add_zero, Nat.sub_zero]
         rw [part24 s6 (by omega) (by omega) false, o_bd, bytesFrom_bytesC, o_bd]
         have hp : ((List.range (1 + nDig u)).map fun i => updF (digF (fun _ => 0) u 1 (nDig u) 0) 0 45 (0 + i)) = decT x := by
           rw [hdx, if_pos hn, hd, Nat.add_comm, List.range_succ_eq_map, List.map_cons, List.map_map]
           have : (List.range (nDig u)).map ((fun i => updF (digF (fun _ => 0) u 1 (nDig u) 0) 0 45 (0 + i)) ∘ Nat.succ) = padD (nDig u) u := by
             rw [← digF_all (fun _ => 0) u 1 (nDig u)]
             refine List.map_congr_left fun i _ => ?_
             simp only [Function.comp, updF]
             rw [if_neg (by omega)]
             congr 1; omega
           rw [this]
           rfl
         rw [hp]
         exact ⟨h6, rfl⟩
       · rw [bif_neg hn, hasSz24 s5]
         simp only [o_bd, Bool.and_self, cond_true]
         rw [aLo_some (by omega) (by omega), o_bd, show (1 : Int).toNat = 1 from rfl, Nat.mul_one, Nat.zero_add, Nat.add_sub_cancel_left]
         rw [part24 s5 (by omega) (by omega) false, o_bd, bytesFrom_bytesC, o_bd, digF_all, ← hd]
         rw [hdx, if_neg hn, List.nil_append]
         exact ⟨h5, rfl⟩
     by_cases hn : x < 0
     · obtain ⟨u, hu⟩ : ∃ u : Nat, -x = (u : Int) := ⟨(-x).toNat, by omega⟩
       rw [bif_pos hn, negu64 g0 hn, hu]
       simp only [o_bd]
       refine tail u (by omega) (by omega) (by omega) ?_
       unfold decT
       rw [if_pos hn, if_pos hn, hu, Int.toNat_natCast]; rfl
     · obtain ⟨u, rfl⟩ : ∃ u : Nat, x = (u : Int) := ⟨x.toNat, by omega⟩
       rw [bif_neg hn, wrapu64 (by omega) (by omega)]
       simp only [o_bd]
       refine tail u (by omega) (by omega) (by omega) ?_
       unfold decT
       rw [if_neg hn, if_neg hn, Int.toNat_natCast]; rfl
 obtain ⟨h', e⟩ := key
 exact pure_of rfl rfl (cc2 rfl rfl) e rfl
theorem itoa_run (fuel d : Nat) (hf : 30 < fuel) {x : Int} (g0 : -9223372036854775808 ≤ x) (g1 : x ≤ 9223372036854775807) (h : AH) : run fuel (d + 5) F_strconv_Itoa [.int .i64 x] h = some (.str (tx (decT x)), h) := by
 refine pure_of rfl rfl (cc1 rfl) (r := .str (tx (decT x))) (h' := AH.none) ?_ rfl
 rw [e_strconv_Itoa]
 have : run fuel (d + 4) F_internal_strconv_Itoa [.int .i64 x] AH.none = some (.str (tx (decT x)), AH.none) := by
   refine pure_of rfl rfl (cc1 rfl) (r := .str (tx (decT x))) (h' := AH.none) ?_ rfl
   rw [e_internal_strconv_Itoa, fmtInt_run fuel d hf g0 g1]
   simp only [o_bd, str_str]
 rw [this]
 simp only [o_bd, str_str]
end Go.Proofs.YtjagkijfngokaaaGreatDoor
namespace Go.Proofs.YtjagkijfngokaaaGreatDoor
open Go.RowKit
abbrev strsC (l : List (List UInt8)) : List AV := l.map fun t => .str (tx t)
theorem strsC_from : ∀ (l : List (List UInt8)), strsFrom (strsC l) = some (l.map tx)
 | [] => rfl
 | t :: l => by rw [strsC, List.map_cons, strsFrom, strsC_from l]; rfl
theorem tx_list (t : List UInt8) : (tx t).data.toList = t := by simp [tx]
theorem joinB_tx (l : List (List UInt8)) (sep : List UInt8) : joinB (l.map tx) (tx sep) = Lib.join l sep := by
 unfold joinB
 rw [List.map_map, tx_list]
 congr 1
 conv => rhs; rw [← List.map_id l]
 exact List.map_congr_left fun t _ => tx_list t
theorem lens_le {n : Nat} : ∀ {l : List (List UInt8)}, (∀ t ∈ l, t.length ≤ n) → Lib.lens l ≤ n * l.length
 | [], _ => by simp [Lib.lens]
 | t :: l, h => by
   have h1 := h t List.mem_cons_self
   have h2 := lens_le fun t ht => h t (List.mem_cons_of_mem _ ht)
   simp only [Lib.lens, List.map_cons, List.sum_cons, List.length_cons] at h2 ⊢
   rw [Nat.mul_add]
   omega
theorem join_le {n : Nat} {l : List (List UInt8)} (h : ∀ t ∈ l, t.length ≤ n) (c : UInt8) : (Lib.join l [c]).length ≤ (n + 1) * l.length := by
 cases l with
 | nil => simp [Lib.join_nil]
 | cons t l =>
   rw [Lib.join_length]
   have := lens_le h
   simp only [List.length_cons, List.length_nil] at this ⊢
   simp only [Nat.add_mul, Nat.mul_add, Nat.one_mul, Nat.mul_one, Nat.zero_add] at this ⊢
   omega
def lineB (l : List Int) : List UInt8 := Lib.join (l.map decT) [32] ++ [10]
theorem aline_loop (fuel d : Nat) (hf : 30 < fuel) {l : List Int} (hl : l.length < 1000000) (hx : ∀ x ∈ l, -9223372036854775808 ≤ x ∧ x ≤ 9223372036854775807) {h0 : AH} : ∀ (n k : Nat) (s : Sl) (h : AH), l.length < n + k → k ≤ l.length → Sep0 h0 h [.grown 1 s (strsC ((l.take k).map decT))] →
   ∃ s' h', l_aag_Line_0 fuel (d + 5) n [(3, .slice s), (6, .slice (lstI l)), (7, .int .i64 (l.length : Int)), (8, .int .i64 (k : Int))] h = some (.exit 0, [(3, .slice s')], h') ∧ Sep0 h0 h' [.grown 1 s' (strsC (l.map decT))] := by
 intro n
 induction n with
 | zero => intro k s h h1 h2; omega
 | succ n ih =>
   intro k s h h1 h2 hs
   have hsl := hs.len (i := 0) rfl
   simp only [List.length_map, List.length_take, Nat.mul_one] at hsl
   rw [l_aag_Line_0_eq]
   by_cases hk : k < l.length
   · have hm : l.getD k 0 ∈ l := by rw [List.getD_eq_getElem?_getD, List.getElem?_eq_getElem hk]; exact List.getElem_mem hk
     have hd : (l.take (k + 1)).map decT = (l.take k).map decT ++ [decT (l.getD k 0)] := by rw [List.take_add_one, List.map_append]; simp [hk]
     rw [bif_pos (by omega), addr_lstM _ (by omega) (by omega) 0]
     simp only [o_bd, cell_fp, int_int, Int.toNat_natCast]
     rw [itoa_run fuel d hf (hx _ hm).1 (hx _ hm).2]
     simp only [o_bd, str_str]
     obtain ⟨s', h', e1, s1, _⟩ := hs.grow (i := 0) (bytes := 16) (m := 1) (vs := [.str (tx (decT (l.getD k 0)))]) rfl rfl (by omega) (by omega)
     rw [e1]
     simp only [o_bd]
     rw [succI (by omega)]
     refine ih (k + 1) s' h' (by omega) (by omega) ?_
     rw [hd]
     simp only [strsC, List.map_append, List.map_cons, List.map_nil]
     exact s1
   · have : k = l.length := by omega
     subst this
     rw [bif_neg (by omega)]
     rw [List.take_length] at hs
     exact ⟨s, h, rfl, hs⟩
theorem tx_add (a b : List UInt8) : tx a ++ tx b = tx (a ++ b) := by
 apply ByteArray.ext
 simp [tx]
theorem aline_run (fuel d : Nat) (hf : 30 < fuel) {l : List Int} (hl : l.length < 1000000) (hlf : l.length < fuel) (hx : ∀ x ∈ l, -9223372036854775808 ≤ x ∧ x ≤ 9223372036854775807) (hd : ∀ x ∈ l, (decT x).length ≤ 20) (h : AH) (c : Bool) :
   run fuel (d + 6) F_aag_Line [.slice (.lst l.length c (intsC l))] h = some (.str (tx (lineB l)), h) := by
 obtain ⟨s', h', e1, s1⟩ := aline_loop fuel d hf hl hx fuel 0 .nil AH.none (by omega) (by omega) ((Sep0.start AH.none).addNil 1)
 refine pure_of rfl rfl (cc1 (canon_lstM (fun _ => rfl) 7 _ c l)) (r := .str (tx (lineB l))) (h' := h') ?_ rfl
 rw [e_aag_Line]
 rw [show l_aag_Line_0 fuel (d + 5) fuel [(3, .slice .nil), (6, .slice (.lst l.length false (l.map (AV.int .i64)))), (7, .int .i64 (((Sl.lst l.length false (l.map (AV.int .i64))).len : Nat) : Int)), (8, .int .i64 0)] AH.none = _ from e1]
 rw [o_bd, k_aag_Line_0_x0, run_strings_Join]
 have hg := s1.sep.grown (i := 0) rfl
 have hj : joinX [.slice s', .str (⟨#[32]⟩ : ByteArray)] h' = some (.str (tx (Lib.join (l.map decT) [32])), h') := by
   unfold joinX
   simp only [hg.cells, o_bd, strsC_from]
   have e9 : joinB ((l.map decT).map tx) (⟨#[32]⟩ : ByteArray) = Lib.join (l.map decT) [32] := joinB_tx (l.map decT) [32]
   have hb : (Lib.join (l.map decT) [32]).length ≤ 21 * l.length := by
     have := join_le (n := 20) (l := l.map decT) (fun t ht => by obtain ⟨x, hx, rfl⟩ := List.mem_map.1 ht; exact hd x hx) 32
     simpa using this
   rw [e9, nble.2 (show ((l.map decT).map tx).length ≤ 140737488355328 by simp; omega), nble.2 (show (Lib.join (l.map decT) [32]).length ≤ 140737488355328 by omega)]
   rfl
 have hb : (Lib.join (l.map decT) [32]).length ≤ 21 * l.length := by
   have := join_le (n := 20) (l := l.map decT) (fun t ht => by obtain ⟨x, hx, rfl⟩ := List.mem_map.1 ht; exact hd x hx) 32
   simpa using this
 rw [hj, o_bd, str_str, o_bd]
 have hsz : (tx (Lib.join (l.map decT) [32])).size = (Lib.join (l.map decT) [32]).length := tx_size _
 rw [hsz, show ByteArray.size (⟨#[10]⟩ : ByteArray) = 1 from rfl, nble.2 (show (Lib.join (l.map decT) [32]).length + 1 ≤ 9223372036854775807 by omega), cond_true]
 rw [show (⟨#[10]⟩ : ByteArray) = tx [10] from rfl, tx_add]
 rfl
theorem decA_len : ∀ (n k d : Nat) (acc : List UInt8), k < 10 ^ (d + 1) → (decA n k acc).length ≤ acc.length + d + 1
 | 0, k, d, acc, _ => by simp only [decA]; omega
 | n + 1, k, d, acc, h => by
   unfold decA
   split
   · simp only [List.length_cons]; omega
   · rename_i hk
     match d, h with
     | 0, h => omega
     | d + 1, h =>
       have h2 : k / 10 < 10 ^ (d + 1) := by
         rw [Nat.pow_succ] at h
         omega
       have := decA_len n (k / 10) d (digU k :: acc) h2
       simp only [List.length_cons] at this
       omega
theorem decT_le {x : Int} (h0 : -9223372036854775808 ≤ x) (h1 : x ≤ 9223372036854775807) : (decT x).length ≤ 20 := by
 unfold decT decN
 split
 · have := decA_len ((-x).toNat + 1) (-x).toNat 18 [] (by omega)
   simp only [List.length_cons, List.length_nil] at this ⊢
   omega
 · have := decA_len (x.toNat + 1) x.toNat 18 [] (by omega)
   simp only [List.length_nil] at this
   omega
theorem aline_any (fuel d : Nat) (hf : 30 < fuel) {l : List Int} (hl : l.length < 1000000) (hlf : l.length < fuel) (hx : ∀ x ∈ l, -9223372036854775808 ≤ x ∧ x ≤ 9223372036854775807) (h : AH) (c : Bool) :
   run fuel (d + 6) F_aag_Line [.slice (.lst l.length c (intsC l))] h = some (.str (tx (lineB l)), h) :=
 aline_run fuel d hf hl hlf hx (fun x hm => decT_le (hx x hm).1 (hx x hm).2) h c
end Go.Proofs.YtjagkijfngokaaaGreatDoor
namespace Go.Proofs.YtjagkijfngokaaaGreatDoor
open Go.RowKit
abbrev bObj (p : Pt) (s : Sl) : ARow := { cells := [.ptr p, .slice s], sz := 1, ty := some (BT, 2) }
abbrev bBuf (g v : Nat) (cs : List AV) : ARow := { cells := cs, sz := 1, gen := g, valid := v, ty := some (BE, 0) }
abbrev bPt (b : Nat) : Pt := .mk ⟨b, 0, 0⟩ 2
inductive BldCh (b : Nat) : List AV → List Chunk → Prop
 | fresh {p : Pt} (hp : p = .nil ∨ p = bPt b) : BldCh b [] [.exact b (bObj p .nil)]
 | used {cs : List AV} {i g v : Nat} (h0 : cs ≠ []) (hv : v ≤ g) (hb : i ≠ b) : BldCh b cs [.exact b (bObj (bPt b) (.mk ⟨i, g, 0⟩ cs.length false)), .exact i (bBuf g v cs)]
theorem copyCheck_new {h : AH} {b : Nat} {s : Sl} (hb : h.rows[b]? = some (bObj .nil s)) : copyCheckX BT [.ptr (bPt b)] h = some (.tup [], h.setRow b (bObj (bPt b) s)) := by
 unfold copyCheckX AH.own2
 simp only [hb]
 unfold AH.store
 simp only [hb]
 rfl
theorem copyCheck_old {h : AH} {b : Nat} {s : Sl} (hb : h.rows[b]? = some (bObj (bPt b) s)) : copyCheckX BT [.ptr (bPt b)] h = some (.tup [], h) := by
 unfold copyCheckX AH.own2
 simp only [hb, Bool.not_false, decide_true, Nat.beq_refl, Bool.and_self, cond_true, o_bd]
section
variable {h0 h : AH} {L R : List Chunk}
theorem Sep0.setExact (hs : Sep0 h0 h L) {i id : Nat} {row : ARow} (hi : L[i]? = some (.exact id row)) (row' : ARow) : Sep0 h0 (h.setRow id row') (L.set i (.exact id row')) := by
 have hrow : h.rows[id]? = some row := hs.sep.get hi
 have hlt := (List.getElem?_eq_some_iff.1 hrow).1
 have hf : h0.rows.length ≤ id := hs.fresh _ (List.mem_of_getElem? hi) id rfl
 have hk : Keeps h (h.setRow id row') (· = id) := Keeps.setRow h id row'
 refine ⟨hs.sep.set hi (hk.mono fun r _ e => by subst e; rfl) (by simp [Chunk.holds, AH.setRow, hlt]) (fun r hr => .inl hr), keeps_new hs.ext (hk.mono fun r _ e => by subst e; rfl) fun i hi => by subst hi; exact hf, fun c hc r hr => ?_⟩
 rcases mem_set hc with hc | rfl
 · exact hs.fresh c hc r hr
 · cases hr; exact hf
theorem Keeps.pushT (h : AH) (ty : TypeId × Nat) (sz : Nat) (cs : List AV) (t : Nat → Prop) : Keeps h (h.pushT ty sz cs) t :=
 ⟨by simp [AH.pushT], fun i row hi _ => (zaa _ _ _ _).2 (.inl ⟨(List.getElem?_eq_some_iff.1 hi).1, hi⟩), fun _ _ h => h⟩
theorem Sep0.pushT (hs : Sep0 h0 h L) (ty : TypeId × Nat) (sz : Nat) (cs : List AV) : Sep0 h0 (h.pushT ty sz cs) (L ++ [.exact h.next { cells := cs, sz := sz, ty := some ty }]) :=
 hs.add ⟨Keeps.pushT _ _ _ _ _, by simp [Chunk.holds, AH.pushT, AH.next], fun r hr => by cases hr; exact Nat.le_refl _⟩
theorem Sep0.newBld (hs : Sep0 h0 h L) : Sep0 h0 (h.pushT (BT, 2) 1 [.ptr .nil, .slice .nil]) (.exact h.next (bObj .nil .nil) :: L) := (hs.pushT (BT, 2) 1 [.ptr .nil, .slice .nil]).cons
end
theorem bObj_cell {h : AH} {b : Nat} {p : Pt} {s : Sl} (hb : h.rows[b]? = some (bObj p s)) : h.cell (.mk ⟨b, 0, 0 + 1⟩ 2) = some (.slice s) := by
 unfold AH.cell AH.live
 simp only [hb]
 rfl
theorem bObj_store {h : AH} {b : Nat} {p : Pt} {s s' : Sl} (hb : h.rows[b]? = some (bObj p s)) : h.storeAt [.slice s'] (.mk ⟨b, 0, 0 + 1⟩ 2) = some (h.setRow b (bObj p s')) := by
 unfold AH.storeAt AH.store
 simp only [hb]
 rfl
theorem appendT_nil {h : AH} {e : TypeId} {m : Nat} {xs : List AV} (h0 : m ≠ 0) (hm : m ≤ 140737488355328) : h.appendT false e 1 1 .nil m xs = some (.mk ⟨h.next, 0, 0⟩ m false, h.pushT (e, 0) 1 xs) := by
 unfold AH.appendT
 rw [show Nat.beq m 0 = false from nbeq_false.2 h0, cond_false, show Nat.ble ((Sl.nil.len + m) * 1) 140737488355328 = true from nble.2 (by simp only [Sl.len]; omega), show Nat.ble (Sl.nil.len + m) 140737488355328 = true from nble.2 (by simp only [Sl.len]; omega)]
 rfl
theorem appendT_zero {h : AH} {e : TypeId} {s : Sl} {xs : List AV} : h.appendT false e 1 1 s 0 xs = some (s, h) := rfl
theorem appendT_buf {h : AH} {i g v m : Nat} {cs xs : List AV} (hi : h.rows[i]? = some (bBuf g v cs)) (hv : v ≤ g) (h0 : m ≠ 0) (hm : cs.length + m ≤ 140737488355328) :
   h.appendT false BE 1 1 (.mk ⟨i, g, 0⟩ cs.length false) m xs = some (.mk ⟨i, g + 1, 0⟩ (cs.length + m) false, h.setRow i (bBuf (g + 1) v (cs ++ xs))) := by
 unfold AH.appendT
 rw [show Nat.beq m 0 = false from nbeq_false.2 h0, cond_false, show Nat.ble (((Sl.mk ⟨i, g, 0⟩ cs.length false).len + m) * 1) 140737488355328 = true from nble.2 (by simp only [Sl.len]; omega), show Nat.ble ((Sl.mk ⟨i, g, 0⟩ cs.length false).len + m) 140737488355328 = true from nble.2 (by simp only [Sl.len]; omega)]
 simp only [hi, Bool.and_self, Bool.not_true, cond_false, Bool.not_false, Nat.beq_refl, Bool.true_and, nble.2 hv, nble.2 (Nat.le_refl _), Nat.mul_one, Nat.zero_add, decide_true, cond_true, List.take_length]
theorem WriteString_run (fuel d : Nat) {h0 h : AH} {R B : List Chunk} {b : Nat} {cs : List AV} (hB : BldCh b cs B) (hs : Sep0 h0 h (B ++ R)) (s : ByteArray) (hlen : cs.length + s.size ≤ 140737488355328) :
   ∃ h' B', run fuel (d + 1) F_strings_Builder_WriteString [.ptr (bPt b), .str s] h = some (.tup [.int .i64 (s.size : Nat), .nilif], h') ∧ BldCh b (cs ++ bytesOf s) B' ∧ Sep0 h0 h' (B' ++ R) := by
 have hbl : (bytesOf s).length = s.size := by simp [bytesOf]
 have key : ∀ {sl : Sl} {B1 : List Chunk} {h1 : AH}, copyCheckX BT [.ptr (bPt b)] h = some (.tup [], h1) → h1.rows[b]? = some (bObj (bPt b) sl) →
     (∃ sl' h2 B', h1.appendT false BE 1 1 sl s.size (bytesOf s) = some (sl', h2) ∧ h2.rows[b]? = some (bObj (bPt b) sl) ∧ BldCh b (cs ++ bytesOf s) (.exact b (bObj (bPt b) sl') :: B') ∧ Sep0 h0 h2 (.exact b (bObj (bPt b) sl) :: B' ++ R)) →
     ∃ h' B', run fuel (d + 1) F_strings_Builder_WriteString [.ptr (bPt b), .str s] h = some (.tup [.int .i64 (s.size : Nat), .nilif], h') ∧ BldCh b (cs ++ bytesOf s) B' ∧ Sep0 h0 h' (B' ++ R) := by
   rintro sl B1 h1 e1 hb1 ⟨sl', h2, B', e2, hb2, hB', s2⟩
   refine ⟨h2.setRow b (bObj (bPt b) sl'), _, ?_, hB', ?_⟩
   · rw [e_strings_Builder_WriteString, run_strings_Builder_copyCheck, e1, o_bd]
     simp only [chk_mk, field_mk, o_bd, bObj_cell hb1, slice_slice]
     rw [e2, o_bd, bObj_store hb2, o_bd]
   · exact s2.setExact (i := 0) rfl (bObj (bPt b) sl')
 have hz : s.size = 0 → bytesOf s = [] := fun e => List.eq_nil_of_length_eq_zero (by rw [hbl, e])
 cases hB with
 | @fresh p hp =>
   have hrow : h.rows[b]? = some (bObj p .nil) := hs.sep.get (i := 0) rfl
   obtain ⟨h1, e1, s1⟩ : ∃ h1, copyCheckX BT [.ptr (bPt b)] h = some (.tup [], h1) ∧ Sep0 h0 h1 (.exact b (bObj (bPt b) .nil) :: R) := by
     rcases hp with rfl | rfl
     · exact ⟨_, copyCheck_new hrow, hs.setExact (i := 0) rfl (bObj (bPt b) .nil)⟩
     · exact ⟨h, copyCheck_old hrow, hs⟩
   have hb1 : h1.rows[b]? = some (bObj (bPt b) .nil) := s1.sep.get (i := 0) rfl
   refine key (B1 := []) e1 hb1 ?_
   by_cases h9 : s.size = 0
   · rw [hz h9, h9]
     exact ⟨.nil, h1, [], appendT_zero, hb1, .fresh (.inr rfl), s1⟩
   · have hlt := (List.getElem?_eq_some_iff.1 hb1).1
     have hcs : ([] ++ bytesOf s : List AV) = bytesOf s := rfl
     refine ⟨.mk ⟨h1.next, 0, 0⟩ s.size false, h1.pushT (BE, 0) 1 (bytesOf s), [.exact h1.next (bBuf 0 0 (bytesOf s))], appendT_nil h9 (by simp at hlen; omega), (Keeps.pushT h1 (BE, 0) 1 (bytesOf s) (fun _ => False)).2 _ _ hb1 id, ?_, (s1.pushT (BE, 0) 1 (bytesOf s)).cons.perm (List.Perm.swap _ _ _)⟩
     have := BldCh.used (b := b) (cs := bytesOf s) (i := h1.next) (g := 0) (v := 0) (fun e => h9 (by rw [← hbl, e]; rfl)) (Nat.le_refl _) (by unfold AH.next; omega)
     rw [hbl] at this
     exact this
 | @used _ i g v q0 hv hib =>
   have hrow : h.rows[b]? = some (bObj (bPt b) (.mk ⟨i, g, 0⟩ cs.length false)) := hs.sep.get (i := 0) rfl
   have hbuf : h.rows[i]? = some (bBuf g v cs) := hs.sep.get (i := 1) rfl
   refine key (B1 := []) (copyCheck_old hrow) hrow ?_
   by_cases h9 : s.size = 0
   · rw [hz h9, h9, List.append_nil]
     exact ⟨_, h, _, appendT_zero, hrow, .used q0 hv hib, hs⟩
   · refine ⟨_, _, [.exact i (bBuf (g + 1) v (cs ++ bytesOf s))], appendT_buf hbuf hv h9 hlen, (Keeps.setRow h i _).2 _ _ hrow (fun e => hib e.symm), ?_, hs.setExact (i := 1) rfl _⟩
     have := BldCh.used (b := b) (cs := cs ++ bytesOf s) (i := i) (g := g + 1) (v := v) (fun e => q0 (List.append_eq_nil_iff.1 e).1) (by omega) hib
     rw [List.length_append, hbl] at this
     exact this
theorem u8s_map : ∀ (l : List UInt8), u8s (l.map fun b => AV.int .u8 (b.toNat : Nat)) = some l
 | [] => rfl
 | b :: l => by
   rw [List.map_cons, u8s]
   have := b.toNat_lt
   rw [show (decide ((0 : Int) ≤ (b.toNat : Nat)) && decide (((b.toNat : Nat) : Int) < 256)) = true by simp; omega, cond_true, u8s_map l]
   simp
theorem own2_obj {h : AH} {b : Nat} {p : Pt} {s : Sl} (hb : h.rows[b]? = some (bObj p s)) : h.own2 BT ⟨b, 0, 0⟩ = some (.ptr p, .slice s) := by
 unfold AH.own2
 simp only [hb, Bool.not_false, decide_true, Nat.beq_refl, Bool.and_self, cond_true]
theorem BString_run (fuel d : Nat) {h0 h : AH} {R B : List Chunk} {b : Nat} {s : ByteArray} (hB : BldCh b (bytesOf s) B) (hs : Sep0 h0 h (B ++ R)) (hlen : s.size ≤ 140737488355328) :
   ∃ h', run fuel d F_strings_Builder_String [.ptr (bPt b)] h = some (.str s, h') ∧ Sep0 h0 h' R := by
 have hbl : (bytesOf s).length = s.size := by simp [bytesOf]
 rw [run_strings_Builder_String]
 generalize hcs : bytesOf s = cs at hB hbl
 cases hB with
 | @fresh p hp =>
   have hrow : h.rows[b]? = some (bObj p .nil) := hs.sep.get (i := 0) rfl
   refine ⟨h, ?_, hs.sub (List.sublist_cons_self _ _)⟩
   unfold stringX
   simp only [own2_obj hrow, o_bd, Option.some.injEq, Prod.mk.injEq, AV.str.injEq, and_true]
   have h0 : s.size = 0 := hbl.symm
   apply ByteArray.ext
   have : s.data.size = 0 := h0
   exact (Array.eq_empty_of_size_eq_zero this).symm
 | @used _ i g v q0 hv hib =>
   have hrow : h.rows[b]? = some (bObj (bPt b) (.mk ⟨i, g, 0⟩ cs.length false)) := hs.sep.get (i := 0) rfl
   have hbuf : h.rows[i]? = some (bBuf g v cs) := hs.sep.get (i := 1) rfl
   have hn : cs.length ≠ 0 := fun e => q0 (List.eq_nil_of_length_eq_zero e)
   have hsc : h.sliceCells 1 (.mk ⟨i, g, 0⟩ cs.length false) = some cs := by
     have := sliceCells_of (h := h) (sz := 1) (r := ⟨i, g, 0⟩) (n := cs.length) (c := false) hbuf rfl hv (Nat.le_refl _) (by simp)
     simpa using this
   have hu : u8s cs = some s.data.toList := by
     rw [← hcs]
     exact u8s_map _
   refine ⟨h.setRow i { bBuf g v cs with ro := true }, ?_, (hs.setExact (i := 1) rfl { bBuf g v cs with ro := true }).sub ((List.sublist_cons_self _ _).cons _)⟩
   unfold stringX
   simp only [own2_obj hrow, o_bd, hbuf, Bool.not_false, decide_true, Nat.beq_refl, Bool.and_self, Bool.true_and, nbeq_false.2 hn, nble.2 (show cs.length ≤ 140737488355328 by omega), cond_true, hsc, hu]
end Go.Proofs.YtjagkijfngokaaaGreatDoor
namespace Go.Proofs.YtjagkijfngokaaaGreatDoor
open Go.RowKit
abbrev circC (i : Int) (A : List (Int × Int)) (o : List Int) : List AV := [.int .i64 i, .slice (lstP A), .slice (lstI o)]
theorem canon_circ (i : Int) (A : List (Int × Int)) (o : List Int) : canonV 8 (.agg (circC i A o)) = some (.agg (circC i A o)) := by
 rw [canon_agg, canonM_cons (u := .int .i64 i) rfl (canonM_cons (canon_lstP 6 A) (canonM_cons (canon_lstI 6 o) (canonM_nil _)))]
 rfl
theorem freeze_lstP {h : AH} (n : Nat) (A : List (Int × Int)) : freezeV h (n + 1) (.slice (lstP A)) = some (.slice (lstP A)) := freeze_lst _ _ _ (closedL_flatMap (fun _ => rfl) A)
def insTx : Nat → Nat → List UInt8
 | _, 0 => []
 | k, n + 1 => lineB [2 * ((k : Int) + 1)] ++ insTx (k + 1) n
def outsTx (l : List Int) : List UInt8 := l.flatMap fun x => lineB [x]
def andsTx (i : Nat) : Nat → List (Int × Int) → List UInt8
 | _, [] => []
 | k, p :: l => lineB [2 * ((i : Int) + k + 1), p.1, p.2] ++ andsTx i (k + 1) l
def headL (i : Nat) (A : List (Int × Int)) (o : List Int) : List Int := [(i : Int) + A.length, i, 0, o.length, A.length]
def aagTx (i : Nat) (A : List (Int × Int)) (o : List Int) : List UInt8 := [97, 97, 103, 32] ++ lineB (headL i A o) ++ insTx 0 i ++ outsTx o ++ andsTx i 0 A
def In64 (x : Int) : Prop := -9223372036854775808 ≤ x ∧ x ≤ 9223372036854775807
structure CiOk (i : Nat) (A : List (Int × Int)) (o : List Int) : Prop where
 ni : i ≤ 10000
 nA : A.length ≤ 10000
 no : o.length ≤ 10000
 xA : ∀ p ∈ A, In64 p.1 ∧ In64 p.2
 xo : ∀ x ∈ o, In64 x
theorem lineB_len {l : List Int} (hx : ∀ x ∈ l, In64 x) : (lineB l).length ≤ 21 * l.length + 1 := by
 have := join_le (n := 20) (l := l.map decT) (fun t ht => by obtain ⟨x, hm, rfl⟩ := List.mem_map.1 ht; exact decT_le (hx x hm).1 (hx x hm).2) 32
 unfold lineB
 simp only [List.length_append, List.length_map, List.length_cons, List.length_nil] at this ⊢
 omega
section
variable (fuel d : Nat) (hf : 30 < fuel) (h : AH) (c : Bool)
include hf
theorem aline1 {x : Int} (hx : In64 x) : run fuel (d + 6) F_aag_Line [.slice (.lst 1 c [.int .i64 x])] h = some (.str (tx (lineB [x])), h) :=
 aline_any fuel d hf (l := [x]) (by simp) (by simp; omega) (fun y hy => by rw [List.mem_singleton.1 hy]; exact hx) h c
theorem aline5 {x y z u v : Int} (hx : In64 x) (hy : In64 y) (hz : In64 z) (hu : In64 u) (hv : In64 v) : run fuel (d + 6) F_aag_Line [.slice (.lst 5 c [.int .i64 x, .int .i64 y, .int .i64 z, .int .i64 u, .int .i64 v])] h = some (.str (tx (lineB [x, y, z, u, v])), h) :=
 aline_any fuel d hf (l := [x, y, z, u, v]) (by simp) (by simp; omega) (fun w hw => by simp at hw; rcases hw with rfl | rfl | rfl | rfl | rfl <;> assumption) h c
end
theorem WS_run (fuel d : Nat) {h0 h : AH} {R B : List Chunk} {b : Nat} {t : List UInt8} (hB : BldCh b (bytesC t) B) (hs : Sep0 h0 h (B ++ R)) (l : List UInt8) (hlen : t.length + l.length ≤ 140737488355328) :
   ∃ h' B', run fuel (d + 1) F_strings_Builder_WriteString [.ptr (bPt b), .str (tx l)] h = some (.tup [.int .i64 (l.length : Nat), .nilif], h') ∧ BldCh b (bytesC (t ++ l)) B' ∧ Sep0 h0 h' (B' ++ R) := by
 obtain ⟨h', B', e1, hB', s1⟩ := WriteString_run fuel d hB hs (tx l) (by rw [tx_size, List.length_map]; exact hlen)
 rw [tx_size] at e1
 rw [bytesOf_tx] at hB'
 exact ⟨h', B', e1, by rw [show bytesC (t ++ l) = bytesC t ++ bytesC l from List.map_append]; exact hB', s1⟩
theorem in64 {x : Int} (h0 : 0 ≤ x) (h1 : x ≤ 9223372036854775807) : In64 x := ⟨by omega, h1⟩
theorem ahead_run (fuel d : Nat) (hf : 30 < fuel) {i : Nat} {A : List (Int × Int)} {o : List Int} (hi : i ≤ 10000) (hA : A.length ≤ 10000) (ho : o.length ≤ 10000) (nm : List UInt8) (hn : nm.length < 100) (h : AH) :
   run fuel (d + 7) F_aag_Head [.str (tx nm), .agg (circC i A o)] h = some (.str (tx (nm ++ 32 :: lineB (headL i A o))), h) := by
 refine pure_of rfl rfl (cc2 rfl (canon_circ _ _ _)) (r := .str (tx (nm ++ 32 :: lineB (headL i A o)))) (h' := AH.none.push 1 (circC i A o)) ?_ rfl
 have s1 := (Sep0.start AH.none).push 1 3 (cs := circC i A o) rfl
 have c0 : (AH.none.push 1 (circC i A o)).cell (.mk ⟨AH.none.next, 0, 0 + 0⟩ 3) = some (.int .i64 i) := s1.part (i := 0) rfl (by omega) rfl
 have c1 : (AH.none.push 1 (circC i A o)).cell (.mk ⟨AH.none.next, 0, 0 + 1⟩ 3) = some (.slice (lstP A)) := s1.part (i := 0) rfl (by omega) rfl
 have c2 : (AH.none.push 1 (circC i A o)).cell (.mk ⟨AH.none.next, 0, 0 + 2⟩ 3) = some (.slice (lstI o)) := s1.part (i := 0) rfl (by omega) rfl
 have hl := lineB_len (l := headL i A o) (fun x hx => by simp [headL] at hx; rcases hx with rfl | rfl | rfl | rfl | rfl <;> exact in64 (by omega) (by omega))
 have hsz : (tx (lineB (headL i A o))).size = (lineB (headL i A o)).length := tx_size _
 have hsn : (tx nm).size = nm.length := tx_size _
 simp only [headL, List.length_cons, List.length_nil] at hl
 rw [e_aag_Head, show List.all (circC i A o) AV.isCell = true from rfl, cond_true, hsn, show ByteArray.size (⟨#[32]⟩ : ByteArray) = 1 from rfl, nble.2 (show nm.length + 1 ≤ 9223372036854775807 by omega), cond_true, show (circC i A o).length = 3 from rfl]
 simp only [field_mk, o_bd, c0, c1, c2, int_int, slice_slice]
 rw [len_lst, len_lst, wrap64 (by omega) (by omega), aline5 fuel d hf _ _ (in64 (by omega) (by omega)) (in64 (by omega) (by omega)) (in64 (by omega) (by omega)) (in64 (by omega) (by omega)) (in64 (by omega) (by omega))]
 simp only [o_bd, str_str]
 rw [show lineB [(i : Int) + A.length, i, 0, o.length, A.length] = lineB (headL i A o) from rfl, show (⟨#[32]⟩ : ByteArray) = tx [32] from rfl, tx_add, tx_add, tx_size, hsz, nble.2 (by simp [headL] at hl ⊢; omega), cond_true, List.append_assoc]
 rfl
end Go.Proofs.YtjagkijfngokaaaGreatDoor
namespace Go.Proofs.YtjagkijfngokaaaGreatDoor
open Go.RowKit
theorem bld_add {h0 h : AH} {R B : List Chunk} {b : Nat} {cs : List AV} (hB : BldCh b cs B) (hs : Sep0 h0 h (B ++ R)) (xs : List AV) (hx : xs ≠ []) (hlen : cs.length + xs.length ≤ 140737488355328) :
   ∃ h1 sl sl' h2 h3 B', copyCheckX BT [.ptr (bPt b)] h = some (.tup [], h1) ∧ h1.cell (.mk ⟨b, 0, 0 + 1⟩ 2) = some (.slice sl) ∧ h1.appendT false BE 1 1 sl xs.length xs = some (sl', h2) ∧
     h2.storeAt [.slice sl'] (.mk ⟨b, 0, 0 + 1⟩ 2) = some h3 ∧ BldCh b (cs ++ xs) B' ∧ Sep0 h0 h3 (B' ++ R) := by
 have hn : xs.length ≠ 0 := fun e => hx (List.eq_nil_of_length_eq_zero e)
 cases hB with
 | @fresh p hp =>
   have hrow : h.rows[b]? = some (bObj p .nil) := hs.sep.get (i := 0) rfl
   obtain ⟨h1, e1, s1⟩ : ∃ h1, copyCheckX BT [.ptr (bPt b)] h = some (.tup [], h1) ∧ Sep0 h0 h1 (.exact b (bObj (bPt b) .nil) :: R) := by
     rcases hp with rfl | rfl
     · exact ⟨_, copyCheck_new hrow, hs.setExact (i := 0) rfl (bObj (bPt b) .nil)⟩
     · exact ⟨h, copyCheck_old hrow, hs⟩
   have hb1 : h1.rows[b]? = some (bObj (bPt b) .nil) := s1.sep.get (i := 0) rfl
   have hlt := (List.getElem?_eq_some_iff.1 hb1).1
   have s2 : Sep0 h0 (h1.pushT (BE, 0) 1 xs) (.exact b (bObj (bPt b) .nil) :: [.exact h1.next (bBuf 0 0 xs)] ++ R) := (s1.pushT (BE, 0) 1 xs).cons.perm (List.Perm.swap _ _ _)
   have hb2 : (h1.pushT (BE, 0) 1 xs).rows[b]? = some (bObj (bPt b) .nil) := (Keeps.pushT h1 (BE, 0) 1 xs (fun _ => False)).2 _ _ hb1 id
   refine ⟨h1, .nil, _, _, _, [.exact b (bObj (bPt b) (.mk ⟨h1.next, 0, 0⟩ xs.length false)), .exact h1.next (bBuf 0 0 xs)], e1, bObj_cell hb1, appendT_nil hn (by simp at hlen; omega), bObj_store hb2, ?_, s2.setExact (i := 0) rfl (bObj (bPt b) _)⟩
   exact BldCh.used (b := b) (cs := xs) (i := h1.next) (g := 0) (v := 0) hx (Nat.le_refl _) (by unfold AH.next; omega)
 | @used _ i g v q0 hv hib =>
   have hrow : h.rows[b]? = some (bObj (bPt b) (.mk ⟨i, g, 0⟩ cs.length false)) := hs.sep.get (i := 0) rfl
   have hbuf : h.rows[i]? = some (bBuf g v cs) := hs.sep.get (i := 1) rfl
   have s2 := hs.setExact (i := 1) rfl (bBuf (g + 1) v (cs ++ xs))
   have hb2 : (h.setRow i (bBuf (g + 1) v (cs ++ xs))).rows[b]? = some (bObj (bPt b) (.mk ⟨i, g, 0⟩ cs.length false)) := (Keeps.setRow h i _).2 _ _ hrow (fun e => hib e.symm)
   refine ⟨h, _, _, _, _, [.exact b (bObj (bPt b) (.mk ⟨i, g + 1, 0⟩ (cs.length + xs.length) false)), .exact i (bBuf (g + 1) v (cs ++ xs))], copyCheck_old hrow, bObj_cell hrow, appendT_buf hbuf hv hn hlen, bObj_store hb2, ?_, s2.setExact (i := 0) rfl (bObj (bPt b) _)⟩
   have := BldCh.used (b := b) (cs := cs ++ xs) (i := i) (g := g + 1) (v := v) (fun e => q0 (List.append_eq_nil_iff.1 e).1) (by omega) hib
   rw [List.length_append] at this
   exact this
theorem bld_add0 {h0 h : AH} {R B : List Chunk} {b : Nat} {cs : List AV} (hB : BldCh b cs B) (hs : Sep0 h0 h (B ++ R)) :
   ∃ h1 sl h3 B', copyCheckX BT [.ptr (bPt b)] h = some (.tup [], h1) ∧ h1.cell (.mk ⟨b, 0, 0 + 1⟩ 2) = some (.slice sl) ∧
     h1.storeAt [.slice sl] (.mk ⟨b, 0, 0 + 1⟩ 2) = some h3 ∧ BldCh b cs B' ∧ Sep0 h0 h3 (B' ++ R) := by
 cases hB with
 | @fresh p hp =>
   have hrow : h.rows[b]? = some (bObj p .nil) := hs.sep.get (i := 0) rfl
   obtain ⟨h1, e1, s1⟩ : ∃ h1, copyCheckX BT [.ptr (bPt b)] h = some (.tup [], h1) ∧ Sep0 h0 h1 (.exact b (bObj (bPt b) .nil) :: R) := by
     rcases hp with rfl | rfl
     · exact ⟨_, copyCheck_new hrow, hs.setExact (i := 0) rfl (bObj (bPt b) .nil)⟩
     · exact ⟨h, copyCheck_old hrow, hs⟩
   have hb1 : h1.rows[b]? = some (bObj (bPt b) .nil) := s1.sep.get (i := 0) rfl
   exact ⟨h1, .nil, _, [.exact b (bObj (bPt b) .nil)], e1, bObj_cell hb1, bObj_store hb1, .fresh (.inr rfl), s1.setExact (i := 0) rfl (bObj (bPt b) .nil)⟩
 | @used _ i g v q0 hv hib =>
   have hrow : h.rows[b]? = some (bObj (bPt b) (.mk ⟨i, g, 0⟩ cs.length false)) := hs.sep.get (i := 0) rfl
   exact ⟨h, _, _, [.exact b (bObj (bPt b) (.mk ⟨i, g, 0⟩ cs.length false)), .exact i (bBuf g v cs)], copyCheck_old hrow, bObj_cell hrow, bObj_store hrow, .used q0 hv hib, hs.setExact (i := 0) rfl (bObj (bPt b) (.mk ⟨i, g, 0⟩ cs.length false))⟩
theorem WB_run (fuel d : Nat) {h0 h : AH} {R B : List Chunk} {b : Nat} {t : List UInt8} (hB : BldCh b (bytesC t) B) (hs : Sep0 h0 h (B ++ R)) (x : UInt8) (hlen : t.length + 1 ≤ 140737488355328) :
   ∃ h' B', run fuel (d + 1) F_strings_Builder_WriteByte [.ptr (bPt b), .int .u8 (x.toNat : Int)] h = some (.nilif, h') ∧ BldCh b (bytesC (t ++ [x])) B' ∧ Sep0 h0 h' (B' ++ R) := by
 obtain ⟨h1, sl, sl', h2, h3, B', e1, c1, e2, e3, hB', s3⟩ := bld_add hB hs [.int .u8 (x.toNat : Int)] (by simp) (by simpa using hlen)
 refine ⟨h3, B', ?_, by rw [show bytesC (t ++ [x]) = bytesC t ++ bytesC [x] from List.map_append]; exact hB', s3⟩
 rw [e_strings_Builder_WriteByte, run_strings_Builder_copyCheck, e1, o_bd]
 simp only [chk_mk, field_mk, o_bd, c1, slice_slice]
 rw [List.length_singleton] at e2
 rw [e2, o_bd, e3, o_bd]
theorem BW_run (fuel d : Nat) {h0 h : AH} {R B : List Chunk} {b : Nat} {t : List UInt8} (hB : BldCh b (bytesC t) B) (hs : Sep0 h0 h (B ++ R)) (l : List UInt8) (hlen : t.length + l.length ≤ 140737488355328) (c : Bool) :
   ∃ h' B', run fuel (d + 1) F_strings_Builder_Write [.ptr (bPt b), .slice (.lst l.length c (bytesC l))] h = some (.tup [.int .i64 (l.length : Nat), .nilif], h') ∧ BldCh b (bytesC (t ++ l)) B' ∧ Sep0 h0 h' (B' ++ R) := by
 rw [e_strings_Builder_Write, run_strings_Builder_copyCheck]
 by_cases h9 : l = []
 · subst h9
   rw [List.append_nil]
   obtain ⟨h1, sl, h3, B', e1, c1, e3, hB', s3⟩ := bld_add0 hB hs
   refine ⟨h3, B', ?_, hB', s3⟩
   rw [e1, o_bd]
   simp only [chk_mk, field_mk, o_bd, c1, slice_slice]
   rw [show AH.sliceCells h1 1 (.lst ([] : List UInt8).length c (bytesC [])) = some (bytesC []) from cells_lstM _ [] c, o_bd, Sl.len, List.length_nil, appendT_zero, o_bd, e3]
   rfl
 · obtain ⟨h1, sl, sl', h2, h3, B', e1, c1, e2, e3, hB', s3⟩ := bld_add hB hs (bytesC l) (by simpa using h9) (by simpa using hlen)
   refine ⟨h3, B', ?_, by rw [show bytesC (t ++ l) = bytesC t ++ bytesC l from List.map_append]; exact hB', s3⟩
   rw [e1, o_bd]
   simp only [chk_mk, field_mk, o_bd, c1, slice_slice]
   rw [show AH.sliceCells h1 1 (.lst l.length c (bytesC l)) = some (bytesC l) from cells_lstM _ l c, o_bd, Sl.len]
   rw [List.length_map] at e2
   rw [e2, o_bd, e3, o_bd]
end Go.Proofs.YtjagkijfngokaaaGreatDoor
namespace Go.Proofs.YtjagkijfngokaaaGreatDoor
open Go.RowKit
theorem pure_ex {f : FuncId} {args us : List AV} (hp : pures f = true) (hx : exts f = none) (hc : canonL args = some us) {fuel d : Nat} {h : AH} {r v : AV}
   (hb : ∃ h', brun fuel (d + 1) f us AH.none = some (r, h')) (hf : ∀ h', freezeV h' 8 r = some v) : run fuel (d + 1) f args h = some (v, h) := by
 obtain ⟨h', e⟩ := hb
 exact pure_of hp hx hc e (hf h')
def errs : List AV := [err_api_ErrText, err_api_ErrLimit, err_api_ErrBudget, err_api_ErrRange, err_api_ErrBlocks, err_api_ErrProof, err_api_ErrCert]
abbrev errN (j : Nat) : AV := errs.getD j .nilif
theorem seven {j : Nat} (h : j < 7) : j = 0 ∨ j = 1 ∨ j = 2 ∨ j = 3 ∨ j = 4 ∨ j = 5 ∨ j = 6 := by omega
theorem errN_canon {j : Nat} (h : j < 7) (n : Nat) : canonV (n + 4) (errN j) = some (errN j) := by
 rcases seven h with rfl | rfl | rfl | rfl | rfl | rfl | rfl <;> rfl
def faultC (c : Int) (p : Bool) (x : Int) : List AV := [.int .i64 c, .bool p, .int .i64 x]
abbrev atV (k : Int) (e : AV) : AV := .iface T_p_api_At (.ptr (.fp 0 [.int .i64 k, e]))
inductive IsFault : AV → Int → Bool → Int → Prop
 | fine : IsFault .nilif 0 false 0
 | bare {j : Nat} (hj : j < 7) : IsFault (errN j) (101 + (j : Int)) false 0
 | at {j : Nat} (hj : j < 7) (k : Int) : IsFault (atV k (errN j)) (101 + (j : Int)) true k
end Go.Proofs.YtjagkijfngokaaaGreatDoor
namespace Go.Proofs.YtjagkijfngokaaaGreatDoor
open Go.RowKit
def plainW (t : List UInt8) : Bool := okNum t && !minusI t
theorem okNum_pos {t : List UInt8} (h : okNum t = true) : 0 < t.length := (okNum_facts h).2.2.2.1
theorem plain_run (fuel d : Nat) (hf : 20 < fuel) (l : List UInt8) (h : AH) : run fuel (d + 4) F_word_Plain [.str (tx l)] h = some (.tup [.int .i64 (if plainW l = true then numW l else 0), .bool (plainW l)], h) := by
 refine pure_of rfl rfl (cc1 rfl) (r := .tup [.int .i64 (if plainW l = true then numW l else 0), .bool (plainW l)]) (h' := AH.none) ?_ rfl
 rw [e_word_Plain, wNum_run fuel d hf]
 simp only [o_bd, isTup_tup, List.length_cons, List.length_nil, Nat.beq, cond_true, comp_tup, List.getElem?_cons_zero, List.getElem?_cons_succ, int_int, bool_bool]
 unfold plainW
 cases hok : okNum l with
 | false => rfl
 | true =>
   have h0 := okNum_pos hok
   have hs := strAt_mk (l := l) (k := 0) h0
   rw [show ((0 : Nat) : Int) = 0 from rfl] at hs
   have e := u8_dec (l.getD 0 0) 45
   rw [show (((45 : UInt8).toNat : Nat) : Int) = 45 from rfl] at e
   have hm : minusI l = (l.getD 0 0 == 45) := by unfold minusI; rw [decide_eq_true h0, Bool.true_and]
   simp only [Bool.not_true, beq_self_eq_true, cond_true, hs, o_bd, bool_bool, Bool.true_and]
   rw [e, ← hm]
   cases minusI l <;> rfl
def errC (c : Int) : AV := if c = 101 then err_api_ErrText else err_api_ErrLimit
theorem txt_ne (t u : List UInt8) : (!decide (tx t = tx u)) = !(t == u) := by
 congr 1
 by_cases h : t = u
 · subst h; simp
 · rw [beq_false_of_ne h, decide_eq_false]
   intro h9
   refine h ?_
   have := congrArg (fun b : ByteArray => b.data.toList) h9
   simpa using this
def errO : Option (Int × Int) → AV
 | none => .nilif
 | some (c, p) => atV p (errC c)
def faultO : Option (Int × Int) → List AV
 | none => faultC 0 false 0
 | some (c, p) => faultC c true p
end Go.Proofs.YtjagkijfngokaaaGreatDoor
namespace Go.Proofs.YtjagkijfngokaaaGreatDoor
open Go.RowKit
def scanS : Nat → List UInt8 → Nat → Bool → Bool → List Wd
 | 0, _, _, _, _ => []
 | _ + 1, [], _, _, _ => []
 | n + 1, c :: r, p, f, s => if c = 10 then scanS n r (p + 1) true false else
     if isW c = true then (if (s || (f && c == 99)) = true then [] else [⟨(c :: r).takeWhile isW, p, f⟩]) ++ scanS n ((c :: r).dropWhile isW) (p + ((c :: r).takeWhile isW).length) false (s || (f && c == 99))
     else scanS n r (p + 1) f s
theorem drop_take_len {α : Type} (p : α → Bool) : ∀ l : List α, l.dropWhile p = l.drop (l.takeWhile p).length
 | [] => rfl
 | a :: l => by
   rw [List.dropWhile_cons, List.takeWhile_cons]
   split
   · rw [List.length_cons, List.drop_succ_cons, drop_take_len p l]
   · rfl
theorem take_tw {α : Type} (p : α → Bool) : ∀ l : List α, l.take (l.takeWhile p).length = l.takeWhile p
 | [] => rfl
 | a :: l => by
   rw [List.takeWhile_cons]
   split
   · rw [List.length_cons, List.take_succ_cons, take_tw p l]
   · rfl
theorem refGo_scan {b : List UInt8} : ∀ (n i : Nat) (f s : Bool), refGo b true n i f s = scanS n (b.drop i) i f s
 | 0, i, f, s => by simp [refGo, scanS]
 | n + 1, i, f, s => by
   unfold refGo
   by_cases hi : i < b.length
   · have hd := drop_cons hi
     have ht : (b.drop i).take (wEnd b i - i) = (b.drop i).takeWhile isW := by
       unfold wEnd
       rw [Nat.add_sub_cancel_left]
       exact take_tw isW _
     have he : b.drop (wEnd b i) = (b.drop i).dropWhile isW := by
       rw [drop_take_len, List.drop_drop]
       unfold wEnd
       rfl
     rw [if_pos hi, ht, refGo_scan n (i + 1), refGo_scan n (wEnd b i), refGo_scan n (i + 1), he, show wEnd b i = i + ((b.drop i).takeWhile isW).length from rfl]
     rw [hd]
     simp only [scanS, Bool.true_and]
   · rw [if_neg hi, List.drop_eq_nil_of_le (by omega)]
     simp [scanS]
theorem dropWhile_le (l : List UInt8) : (l.dropWhile isW).length ≤ l.length := by rw [drop_take_len, List.length_drop]; omega
theorem scanS_fuel : ∀ (n m : Nat) (l : List UInt8) (p : Nat) (f s : Bool), l.length < n → l.length < m → scanS n l p f s = scanS m l p f s
 | 0, m, l, p, f, s, h1, h2 => by omega
 | n + 1, 0, l, p, f, s, h1, h2 => by omega
 | n + 1, m + 1, [], p, f, s, h1, h2 => by simp [scanS]
 | n + 1, m + 1, c :: r, p, f, s, h1, h2 => by
   simp only [scanS, List.length_cons] at *
   rw [scanS_fuel n m r _ _ _ (by omega) (by omega), scanS_fuel n m r _ _ _ (by omega) (by omega)]
   by_cases hw : isW c = true
   · have hdw : (c :: r).dropWhile isW = r.dropWhile isW := by rw [List.dropWhile_cons, if_pos hw]
     have := dropWhile_le r
     rw [hdw, scanS_fuel n m (r.dropWhile isW) _ _ _ (by omega) (by omega)]
   · rw [if_neg hw, if_neg hw]
def wordsOf (l : List UInt8) (p : Nat) (f s : Bool) : List Wd := scanS (l.length + 1) l p f s
theorem splitOf_words (b : List UInt8) : splitOf b true = wordsOf b 0 true false := by
 rw [splitOf_ref, refGo_scan, List.drop_zero]; rfl
theorem W_nil (p : Nat) (f s : Bool) : wordsOf [] p f s = [] := by simp [wordsOf, scanS]
theorem W_nl (r : List UInt8) (p : Nat) (f s : Bool) : wordsOf (10 :: r) p f s = wordsOf r (p + 1) true false := by
 unfold wordsOf
 rw [List.length_cons]
 simp only [scanS, if_true]
theorem W_blank {c : UInt8} (hc : c ≠ 10) (hw : isW c = false) (r : List UInt8) (p : Nat) (f s : Bool) : wordsOf (c :: r) p f s = wordsOf r (p + 1) f s := by
 unfold wordsOf
 rw [List.length_cons]
 simp only [scanS, if_neg hc, hw, Bool.false_eq_true, if_false]
theorem W_sp (r : List UInt8) (p : Nat) (f s : Bool) : wordsOf (32 :: r) p f s = wordsOf r (p + 1) f s := W_blank (by decide) (by decide) r p f s
def Stops (r : List UInt8) : Prop := ∀ c r', r = c :: r' → isW c = false
theorem take_word {w r : List UInt8} (hw : w.all isW = true) (hr : Stops r) : (w ++ r).takeWhile isW = w ∧ (w ++ r).dropWhile isW = r := by
 induction w with
 | nil =>
   cases r with
   | nil => exact ⟨rfl, rfl⟩
   | cons c r =>
     have := hr c r rfl
     simp [List.takeWhile_cons, List.dropWhile_cons, this]
 | cons a w ih =>
   simp only [List.all_cons, Bool.and_eq_true] at hw
   obtain ⟨h1, h2⟩ := ih hw.2
   rw [List.cons_append, List.takeWhile_cons, List.dropWhile_cons, if_pos hw.1, if_pos hw.1, h1, h2]
   exact ⟨rfl, rfl⟩
theorem isW_ten : isW 10 = false := by decide
theorem W_word {w r : List UInt8} (hne : w ≠ []) (hw : w.all isW = true) (hr : Stops r) (p : Nat) (f s : Bool) :
   wordsOf (w ++ r) p f s = (if (s || (f && w.getD 0 0 == 99)) = true then [] else [⟨w, p, f⟩]) ++ wordsOf r (p + w.length) false (s || (f && w.getD 0 0 == 99)) := by
 obtain ⟨c, w', rfl⟩ := List.exists_cons_of_ne_nil hne
 obtain ⟨h1, h2⟩ := take_word hw hr
 simp only [List.all_cons, Bool.and_eq_true] at hw
 have hc : c ≠ 10 := by
   rintro rfl
   rw [isW_ten] at hw
   cases hw.1
 have h0 : wordsOf (c :: w' ++ r) p f s = (if (s || (f && c == 99)) = true then [] else [⟨(c :: w' ++ r).takeWhile isW, p, f⟩]) ++ scanS (c :: w' ++ r).length ((c :: w' ++ r).dropWhile isW) (p + ((c :: w' ++ r).takeWhile isW).length) false (s || (f && c == 99)) := by
   unfold wordsOf
   rw [List.cons_append]
   simp only [scanS, if_neg hc, hw.1, if_true]
 rw [h0, h1, h2]
 have h3 : (c :: w').getD 0 0 = c := rfl
 rw [h3]
 congr 1
 unfold wordsOf
 exact scanS_fuel _ _ _ _ _ _ (by simp; omega) (by omega)
theorem W_one {w r : List UInt8} (hne : w ≠ []) (hw : w.all isW = true) (hr : Stops r) (p : Nat) {f : Bool} (h9 : f = true → w.getD 0 0 ≠ 99) :
   wordsOf (w ++ r) p f false = ⟨w, p, f⟩ :: wordsOf r (p + w.length) false false := by
 rw [W_word hne hw hr]
 have : (false || (f && w.getD 0 0 == 99)) = false := by
   cases f with
   | false => rfl
   | true => simpa using h9 rfl
 rw [this]
 rfl
theorem Stops.nil : Stops [] := fun _ _ h => by cases h
theorem Stops.sp (r : List UInt8) : Stops (32 :: r) := fun c r' h => by cases h; decide
theorem Stops.nl (r : List UInt8) : Stops (10 :: r) := fun c r' h => by cases h; decide
theorem dig_isW {c : UInt8} (h : isDig c = true) : isW c = true := by
 obtain ⟨h1, h2⟩ := isDig_true h
 unfold isW kindI
 have : ¬ ((c.toNat : Int) = 32 ∨ (c.toNat : Int) = 9 ∨ (c.toNat : Int) = 13) := by omega
 rw [if_neg this, if_neg (by omega)]
 rfl
theorem all_mono {p q : UInt8 → Bool} (h : ∀ c, p c = true → q c = true) {l : List UInt8} (hl : l.all p = true) : l.all q = true :=
 List.all_eq_true.2 fun c hc => h c (List.all_eq_true.1 hl c hc)
theorem decN_is (u : Nat) : (decN u).all isDig = true ∧ 1 ≤ (decN u).length ∧ valI 0 (decN u) = (u : Int) := by
 obtain ⟨D, e1, e2, e3, e4, e5⟩ := decA_is (u + 1) u u [] (Nat.lt_of_lt_of_le (Nat.lt_pow_self (by omega : 1 < 10)) (Nat.pow_le_pow_right (by omega) (by omega))) (by omega)
 unfold decN
 rw [e1, List.append_nil]
 exact ⟨e2, e3, e5⟩
theorem decN_small {u : Nat} (h : u < 1000000000) : (decN u).length ≤ 9 := by
 rcases Nat.lt_or_ge u 9 with h9 | h9
 · have : ∀ v, v < 9 → (decN v).length ≤ 9 := by decide
   exact this u h9
 · obtain ⟨D, e1, e2, e3, e4, e5⟩ := decA_is (u + 1) u 8 [] (by omega) (by omega)
   unfold decN
   rw [e1, List.append_nil]
   omega
theorem dig_ne {c : UInt8} (h : isDig c = true) {k : UInt8} (hk : isDig k = false) : c ≠ k := by
 rintro rfl
 rw [h] at hk; cases hk
theorem head_dig {l : List UInt8} (h : l.all isDig = true) (h1 : 1 ≤ l.length) : isDig (l.getD 0 0) = true := by
 cases l with
 | nil => simp at h1
 | cons a l =>
   simp only [List.all_cons, Bool.and_eq_true] at h
   exact h.1
theorem decN_num {u : Nat} (h : u < 1000000000) : okNum (decN u) = true ∧ numW (decN u) = (u : Int) ∧ minusI (decN u) = false := by
 obtain ⟨h1, h2, h3⟩ := decN_is u
 have h4 := decN_small h
 have hm : minusI (decN u) = false := by
   unfold minusI
   have := dig_ne (head_dig h1 h2) (k := 45) (by decide)
   rw [beq_false_of_ne this, Bool.and_false]
 have hd : digitsI (decN u) = decN u := by unfold digitsI; rw [if_neg (by rw [hm]; simp)]
 have ho : okNum (decN u) = true := by
   unfold okNum
   rw [hd, decide_eq_false (by omega), h1]; rfl
 refine ⟨ho, ?_, hm⟩
 unfold numW
 rw [if_pos ho, if_neg (by rw [hm]; simp), hd, h3]
theorem decT_num {x : Int} (h0 : -1000000000 < x) (h1 : x < 1000000000) : okNum (decT x) = true ∧ numW (decT x) = x ∧ (0 ≤ x → minusI (decT x) = false) := by
 unfold decT
 by_cases hx : x < 0
 · rw [if_pos hx]
   obtain ⟨a1, a2, a3⟩ := decN_is (-x).toNat
   have a4 := decN_small (u := (-x).toNat) (by omega)
   have hm : minusI (45 :: decN (-x).toNat) = true := by unfold minusI; simp
   have hd : digitsI (45 :: decN (-x).toNat) = decN (-x).toNat := by unfold digitsI; rw [if_pos hm]; rfl
   have ho : okNum (45 :: decN (-x).toNat) = true := by
     unfold okNum
     rw [hd, decide_eq_false (by omega), a1]; rfl
   refine ⟨ho, ?_, fun h => by omega⟩
   unfold numW
   rw [if_pos ho, if_pos hm, hd, a3]
   omega
 · rw [if_neg hx]
   obtain ⟨a1, a2, a3⟩ := decN_num (u := x.toNat) (by omega)
   exact ⟨a1, by rw [a2]; omega, fun _ => a3⟩
theorem decT_word (x : Int) : decT x ≠ [] ∧ (decT x).all isW = true ∧ (decT x).getD 0 0 ≠ 99 ∧ (decT x).getD 0 0 ≠ 97 ∧ (decT x).getD 0 0 ≠ 101 ∧ (decT x).getD 0 0 ≠ 100 := by
 unfold decT
 by_cases hx : x < 0
 · rw [if_pos hx]
   obtain ⟨a1, a2, a3⟩ := decN_is (-x).toNat
   refine ⟨by simp, ?_, by simp, by simp, by simp, by simp⟩
   rw [List.all_cons, all_mono (fun c => dig_isW) a1]
   decide
 · rw [if_neg hx]
   obtain ⟨a1, a2, a3⟩ := decN_is x.toNat
   have hh := head_dig a1 a2
   exact ⟨fun e => by rw [e] at a2; simp at a2, all_mono (fun c => dig_isW) a1, dig_ne hh (by decide), dig_ne hh (by decide), dig_ne hh (by decide), dig_ne hh (by decide)⟩
end Go.Proofs.YtjagkijfngokaaaGreatDoor
namespace Go.Proofs.YtjagkijfngokaaaGreatDoor
open Go.RowKit
def posW (e : Int) : List Wd → Int
 | [] => e
 | w :: _ => (w.pos : Int)
def wF (f : Bool) : List Wd → Option Wd
 | [] => none
 | w :: _ => if (w.first == f) = true then some w else none
def numF (f : Bool) (lo hi : Int) (W : List Wd) : Option Int :=
 (wF f W).bind fun w => if (plainW w.text && decide (lo ≤ numW w.text) && decide (numW w.text ≤ hi)) = true then some (numW w.text) else none
def insT (e : Int) : Nat → Nat → List Wd → Except Int (List Wd)
 | _, 0, W => .ok W
 | k, n + 1, W => match numF true (2 * ((k : Int) + 1)) (2 * ((k : Int) + 1)) W with
   | none => .error (posW e W)
   | some _ => insT e (k + 1) n (W.drop 1)
def outsT (e m : Int) : Nat → List Wd → List Int → Except Int (List Int × List Wd)
 | 0, W, acc => .ok (acc, W)
 | n + 1, W, acc => match numF true 0 (2 * m + 1) W with
   | none => .error (posW e W)
   | some x => outsT e m n (W.drop 1) (acc ++ [x])
def andT (e l : Int) (W : List Wd) : Except Int ((Int × Int) × List Wd) :=
 match numF true l l W with
 | none => .error (posW e W)
 | some _ => match numF false 0 (l - 1) (W.drop 1) with
   | none => .error (posW e (W.drop 1))
   | some a => match numF false 0 a (W.drop 2) with
     | none => .error (posW e (W.drop 2))
     | some b => .ok ((a, b), W.drop 3)
def andsT (e i : Int) : Nat → Nat → List Wd → List (Int × Int) → Except Int (List (Int × Int) × List Wd)
 | _, 0, W, acc => .ok (acc, W)
 | k, n + 1, W, acc => match andT e (2 * (i + k + 1)) W with
   | .error p => .error p
   | .ok (x, W') => andsT e i (k + 1) n W' (acc ++ [x])
def endT : List Wd → Option Int
 | [] => none
 | w :: _ => if (!w.first || !(w.text.getD 0 0 == 99)) = true then some (w.pos : Int) else none
abbrev Ci := Int × List (Int × Int) × List Int
def bodyT (e m i o a : Int) (W : List Wd) : Except Int Ci :=
 match insT e 0 i.toNat W with
 | .error p => .error p
 | .ok W1 => match outsT e m o.toNat W1 [] with
   | .error p => .error p
   | .ok (O, W2) => match andsT e i 0 a.toNat W2 [] with
     | .error p => .error p
     | .ok (A, W3) => match endT W3 with
       | some p => .error p
       | none => .ok (i, A, O)
def numsH (e : Int) : Nat → List Wd → List Int → Except Int (List Int)
 | 0, _, acc => .ok acc
 | n + 1, W, acc => match wF false W with
   | none => .error (posW e W)
   | some w => if plainW w.text = true then numsH e n (W.drop 1) (acc ++ [numW w.text]) else .error (w.pos : Int)
def limT (m i l o a : Int) : Option (Nat × Int) :=
 if 8000 < i then some (2, 102) else if 8000 < i + a then some (5, 102) else if 8000 < o then some (4, 102) else if m ≠ i + a then some (1, 101) else if l ≠ 0 then some (3, 101) else none
def headA (e : Int) (W : List Wd) : Except (Int × Int) (List Int) :=
 match wF true W with
 | none => .error (101, posW e W)
 | some w => if (w.text == [97, 97, 103]) = true then (match numsH e 5 (W.drop 1) [] with
     | .error p => .error (101, p)
     | .ok N => match limT (N.getD 0 0) (N.getD 1 0) (N.getD 2 0) (N.getD 3 0) (N.getD 4 0) with
       | some (k, c) => .error (c, ((W.getD k ⟨[], 0, false⟩).pos : Int))
       | none => .ok N)
   else .error (101, (w.pos : Int))
def readC (b : List UInt8) : Except (Int × Int) Ci :=
 match headA (b.length : Int) (splitOf b false) with
 | .error x => .error x
 | .ok N => match bodyT (b.length : Int) (N.getD 0 0) (N.getD 1 0) (N.getD 3 0) (N.getD 4 0) ((splitOf b false).drop 6) with
   | .error p => .error (101, p)
   | .ok c => .ok c
theorem plainW_range {t : List UInt8} (h : plainW t = true) : 0 ≤ numW t ∧ numW t ≤ 999999999 := by
 unfold plainW at h
 simp only [Bool.and_eq_true, Bool.not_eq_true'] at h
 obtain ⟨h1, h2, h3, h4, h5⟩ := okNum_facts h.1
 obtain ⟨v1, v2⟩ := valI_bound (digitsI t) 0 0 (by omega) (by omega) (by simp) h3
 unfold numW
 rw [if_pos h.1, if_neg (by rw [h.2]; simp)]
 omega
end Go.Proofs.YtjagkijfngokaaaGreatDoor
namespace Go.Proofs.YtjagkijfngokaaaGreatDoor
open Go.RowKit
def scanN : Nat → List UInt8 → Nat → Bool → List Wd
 | 0, _, _, _ => []
 | _ + 1, [], _, _ => []
 | n + 1, c :: r, p, f => if c = 10 then scanN n r (p + 1) true else
     if isW c = true then ⟨(c :: r).takeWhile isW, p, f⟩ :: scanN n ((c :: r).dropWhile isW) (p + ((c :: r).takeWhile isW).length) false
     else scanN n r (p + 1) f
theorem refGo_scanN {b : List UInt8} : ∀ (n i : Nat) (f : Bool), refGo b false n i f false = scanN n (b.drop i) i f
 | 0, i, f => by simp [refGo, scanN]
 | n + 1, i, f => by
   unfold refGo
   by_cases hi : i < b.length
   · have hd := drop_cons hi
     have ht : (b.drop i).take (wEnd b i - i) = (b.drop i).takeWhile isW := by
       unfold wEnd
       rw [Nat.add_sub_cancel_left]
       exact take_tw isW _
     have he : b.drop (wEnd b i) = (b.drop i).dropWhile isW := by
       rw [drop_take_len, List.drop_drop]
       unfold wEnd
       rfl
     simp only [Bool.false_and, Bool.or_false, Bool.false_eq_true, if_false]
     rw [if_pos hi, ht, refGo_scanN n (i + 1), refGo_scanN n (wEnd b i), refGo_scanN n (i + 1), he, show wEnd b i = i + ((b.drop i).takeWhile isW).length from rfl]
     rw [hd]
     simp only [scanN]
     rfl
   · rw [if_neg hi, List.drop_eq_nil_of_le (by omega)]
     simp [scanN]
theorem scanN_fuel : ∀ (n m : Nat) (l : List UInt8) (p : Nat) (f : Bool), l.length < n → l.length < m → scanN n l p f = scanN m l p f
 | 0, m, l, p, f, h1, h2 => by omega
 | n + 1, 0, l, p, f, h1, h2 => by omega
 | n + 1, m + 1, [], p, f, h1, h2 => by simp [scanN]
 | n + 1, m + 1, c :: r, p, f, h1, h2 => by
   simp only [scanN, List.length_cons] at *
   rw [scanN_fuel n m r _ _ (by omega) (by omega), scanN_fuel n m r _ _ (by omega) (by omega)]
   by_cases hw : isW c = true
   · have hdw : (c :: r).dropWhile isW = r.dropWhile isW := by rw [List.dropWhile_cons, if_pos hw]
     have := dropWhile_le r
     rw [hdw, scanN_fuel n m (r.dropWhile isW) _ _ (by omega) (by omega)]
   · rw [if_neg hw, if_neg hw]
def wordsN (l : List UInt8) (p : Nat) (f : Bool) : List Wd := scanN (l.length + 1) l p f
theorem splitOf_wordsN (b : List UInt8) : splitOf b false = wordsN b 0 true := by
 rw [splitOf_ref, refGo_scanN, List.drop_zero]; rfl
theorem N_nil (p : Nat) (f : Bool) : wordsN [] p f = [] := by simp [wordsN, scanN]
theorem N_blank {c : UInt8} (hc : c ≠ 10) (hw : isW c = false) (r : List UInt8) (p : Nat) (f : Bool) : wordsN (c :: r) p f = wordsN r (p + 1) f := by
 unfold wordsN
 rw [List.length_cons]
 simp only [scanN, if_neg hc, hw, Bool.false_eq_true, if_false]
theorem N_sp (r : List UInt8) (p : Nat) (f : Bool) : wordsN (32 :: r) p f = wordsN r (p + 1) f := N_blank (by decide) (by decide) r p f
theorem N_word {w r : List UInt8} (hne : w ≠ []) (hw : w.all isW = true) (hr : Stops r) (p : Nat) (f : Bool) : wordsN (w ++ r) p f = ⟨w, p, f⟩ :: wordsN r (p + w.length) false := by
 obtain ⟨c, w', rfl⟩ := List.exists_cons_of_ne_nil hne
 obtain ⟨h1, h2⟩ := take_word hw hr
 simp only [List.all_cons, Bool.and_eq_true] at hw
 have hc : c ≠ 10 := by
   rintro rfl
   rw [isW_ten] at hw
   cases hw.1
 have h0 : wordsN (c :: w' ++ r) p f = ⟨(c :: w' ++ r).takeWhile isW, p, f⟩ :: scanN (c :: w' ++ r).length ((c :: w' ++ r).dropWhile isW) (p + ((c :: w' ++ r).takeWhile isW).length) false := by
   unfold wordsN
   rw [List.cons_append]
   simp only [scanN, if_neg hc, hw.1, if_true]
 rw [h0, h1, h2]
 congr 1
 unfold wordsN
 exact scanN_fuel _ _ _ _ _ (by simp; omega) (by omega)
def lnW : List Int → Nat → Bool → List Wd
 | [], _, _ => []
 | x :: l, p, f => ⟨decT x, p, f⟩ :: lnW l (p + (decT x).length + 1) false
theorem lineB_cons (x y : Int) (l : List Int) : lineB (x :: y :: l) = decT x ++ 32 :: lineB (y :: l) := by
 unfold lineB
 rw [List.map_cons, Lib.join_cons, List.map_cons, Lib.join_cons]
 simp [Lib.joinTail]
theorem lineB_one (x : Int) : lineB [x] = decT x ++ [10] := by
 unfold lineB
 rw [List.map_cons, List.map_nil, Lib.join_one]
def restB : Bool → List Int → List UInt8
 | _, [] => []
 | f, x :: l => (if f = true then [] else [32]) ++ (decT x ++ restB false l)
theorem lineB_rest : ∀ (l : List Int), lineB l = restB true l ++ [10]
 | [] => rfl
 | [x] => by rw [lineB_one]; simp [restB]
 | x :: y :: l => by
   rw [lineB_cons, lineB_rest (y :: l)]
   simp [restB]
def AndsOk (i : Int) : Int → List (Int × Int) → Prop
 | _, [] => True
 | k, p :: l => (0 ≤ p.2 ∧ p.2 ≤ p.1 ∧ p.1 < 2 * (i + k + 1)) ∧ AndsOk i (k + 1) l
structure CiR (i : Nat) (A : List (Int × Int)) (O : List Int) : Prop where
 hn : i + A.length ≤ 8000
 hO : O.length ≤ 8000
 hA : AndsOk i 0 A
 hx : ∀ x ∈ O, 0 ≤ x ∧ x ≤ 2 * ((i : Int) + A.length) + 1
theorem AndsOk.range {i : Int} : ∀ {A : List (Int × Int)} {k : Int}, AndsOk i k A → ∀ p ∈ A, 0 ≤ p.2 ∧ p.2 ≤ p.1 ∧ p.1 < 2 * (i + k + A.length)
 | [], k, _, p, hp => by cases hp
 | x :: A, k, h, p, hp => by
   rw [List.length_cons]
   rcases List.mem_cons.1 hp with rfl | hp
   · obtain ⟨h1, h2, h3⟩ := h.1
     omega
   · obtain ⟨h1, h2, h3⟩ := h.2.range p hp
     omega
theorem CiR.ok {i : Nat} {A : List (Int × Int)} {O : List Int} (h : CiR i A O) : CiOk i A O := by
 have hn := h.hn
 have hO := h.hO
 refine ⟨by omega, by omega, by omega, fun p hp => ?_, fun x hx => ?_⟩
 · obtain ⟨h1, h2, h3⟩ := h.hA.range p hp
   exact ⟨in64 (by omega) (by omega), in64 (by omega) (by omega)⟩
 · obtain ⟨h1, h2⟩ := h.hx x hx
   exact in64 (by omega) (by omega)
end Go.Proofs.YtjagkijfngokaaaGreatDoor
namespace Go.Proofs.YtjagkijfngokaaaGreatDoor
open Go.RowKit
def smallB : Nat → Nat → List UInt8
 | 0, _ => []
 | f + 1, n => if n < 128 then [UInt8.ofNat n] else UInt8.ofNat (n % 128 + 128) :: smallB f (n / 128)
def smB (n : Nat) : List UInt8 := smallB 10 n
def numT : Nat → Nat → Nat → List UInt8 → Option (Nat × Nat)
 | 0, _, _, _ => none
 | _ + 1, _, _, [] => none
 | f + 1, i, m, c :: r => if 128 ≤ c.toNat then numT f (i + 1) (m + c.toNat % 128 * 128 ^ i) r else some (m + c.toNat % 128 * 128 ^ i, i + 1)
theorem numT_small : ∀ (f g i m n : Nat) (r : List UInt8), n < 128 ^ f → n < 128 ^ g → 0 < f → 0 < g → numT f i m (smallB g n ++ r) = some (m + n * 128 ^ i, i + (smallB g n).length)
 | 0, g, i, m, n, r, h1, h2, h3, h4 => by omega
 | f + 1, 0, i, m, n, r, h1, h2, h3, h4 => by omega
 | f + 1, g + 1, i, m, n, r, h1, h2, h3, h4 => by
   unfold smallB
   by_cases hn : n < 128
   · rw [if_pos hn]
     have hc : (UInt8.ofNat n).toNat = n := by rw [UInt8.toNat_ofNat']; omega
     simp only [List.cons_append, List.nil_append, numT, hc]
     rw [if_neg (by omega), Nat.mod_eq_of_lt hn]
     rfl
   · rw [if_neg hn]
     have hc : (UInt8.ofNat (n % 128 + 128)).toNat = n % 128 + 128 := by rw [UInt8.toNat_ofNat']; omega
     have hm : (n % 128 + 128) % 128 = n % 128 := by omega
     rw [Nat.pow_succ] at h1 h2
     have f0 : 0 < f := by
       rcases Nat.eq_zero_or_pos f with h | h
       · subst h; simp at h1; omega
       · exact h
     have g0 : 0 < g := by
       rcases Nat.eq_zero_or_pos g with h | h
       · subst h; simp at h2; omega
       · exact h
     simp only [List.cons_append, numT, hc, hm, List.length_cons]
     rw [if_pos (by omega), numT_small f g (i + 1) _ (n / 128) r (by omega) (by omega) f0 g0, Nat.pow_succ]
     have : n % 128 * 128 ^ i + n / 128 * (128 ^ i * 128) = n * 128 ^ i := by
       rw [Nat.mul_comm (128 ^ i) 128, ← Nat.mul_assoc, ← Nat.add_mul]
       congr 1
       omega
     rw [Nat.add_assoc, this, Nat.add_assoc, Nat.add_comm 1]
theorem smallB_len : ∀ (f n : Nat), (smallB f n).length ≤ f
 | 0, n => by simp [smallB]
 | f + 1, n => by
   unfold smallB
   have := smallB_len f (n / 128)
   split <;> simp <;> omega
def delG (r : List UInt8) (lo hi : Int) : Option (Int × Nat) := (numT 5 0 0 r).bind fun p => if lo ≤ (p.1 : Int) ∧ (p.1 : Int) ≤ hi then some ((p.1 : Int), p.2) else none
theorem delG_small {n : Nat} {lo hi : Int} (h : n < 34359738368) (h0 : lo ≤ n) (h1 : (n : Int) ≤ hi) (r : List UInt8) : delG (smB n ++ r) lo hi = some ((n : Int), (smB n).length) := by
 unfold delG smB
 rw [numT_small 5 10 0 0 n r (by omega) (by omega) (by omega) (by omega)]
 simp only [o_bd, Nat.zero_add, Nat.pow_zero, Nat.mul_one]
 rw [if_pos ⟨h0, h1⟩]
def lnT (r : List UInt8) (many : Nat) : Option (List (List UInt8) × Nat) :=
 if Lib.indexByte r 10 < 0 then none else
   let w := (splitOf (r.take (Lib.indexByte r 10).toNat) false).map (·.text)
   if w.length = many then some (w, (Lib.indexByte r 10).toNat + 1) else none
theorem idx_at : ∀ {w : List UInt8} (r : List UInt8), (∀ c ∈ w, c ≠ 10) → Lib.indexByte (w ++ 10 :: r) 10 = (w.length : Int)
 | [], r, _ => rfl
 | c :: w, r, h => by
   have ih := idx_at (w := w) r fun x hx => h x (List.mem_cons_of_mem _ hx)
   rw [List.cons_append, Lib.indexByte, if_neg (by simpa using h c List.mem_cons_self), ih, if_neg (by rw [beq_iff_eq]; omega)]
   simp
theorem lnT_at {w : List UInt8} (r : List UInt8) (hw : ∀ c ∈ w, c ≠ 10) (many : Nat) : lnT (w ++ 10 :: r) many = if ((wordsN w 0 true).map (·.text)).length = many then some ((wordsN w 0 true).map (·.text), w.length + 1) else none := by
 unfold lnT
 rw [idx_at r hw, if_neg (by omega), Int.toNat_natCast, List.take_left, splitOf_wordsN]
theorem decT_no10 (x : Int) : ∀ c ∈ decT x, c ≠ 10 := by
 intro c hc
 have := List.all_eq_true.1 (decT_word x).2.1 c hc
 rintro rfl
 rw [isW_ten] at this
 cases this
theorem restB_no10 : ∀ (l : List Int) (f : Bool), ∀ c ∈ restB f l, c ≠ 10
 | [], f, c, h => by cases h
 | x :: l, f, c, h => by
   unfold restB at h
   rcases List.mem_append.1 h with h | h
   · cases f
     · simp at h; subst h; decide
     · simp at h
   · rcases List.mem_append.1 h with h | h
     · exact decT_no10 x c h
     · exact restB_no10 l false c h
theorem Stops.rest (l : List Int) : Stops (restB false l) := by
 cases l with
 | nil => exact Stops.nil
 | cons x l => exact Stops.sp _
theorem N_rest : ∀ (l : List Int) (p : Nat) (f : Bool), wordsN (restB false l) p f = lnW l (p + 1) f
 | [], p, f => N_nil p f
 | x :: l, p, f => by
   obtain ⟨w1, w2, _⟩ := decT_word x
   unfold restB
   simp only [Bool.false_eq_true, if_false, List.cons_append, List.nil_append]
   rw [N_sp, N_word w1 w2 (Stops.rest l), N_rest l]
   rfl
theorem N_rest1 (x : Int) (l : List Int) (p : Nat) (f : Bool) : wordsN (restB true (x :: l)) p f = lnW (x :: l) p f := by
 obtain ⟨w1, w2, _⟩ := decT_word x
 unfold restB
 simp only [if_true, List.nil_append]
 rw [N_word w1 w2 (Stops.rest l), N_rest l]
 rfl
theorem lnW_text : ∀ (l : List Int) (p : Nat) (f : Bool), (lnW l p f).map (·.text) = l.map decT
 | [], p, f => rfl
 | x :: l, p, f => by simp [lnW, lnW_text l]
theorem lnT_line (x : Int) (l : List Int) (r : List UInt8) : lnT (lineB (x :: l) ++ r) (l.length + 1) = some ((x :: l).map decT, (lineB (x :: l)).length) := by
 rw [lineB_rest, List.append_assoc, show ([10] ++ r : List UInt8) = 10 :: r from rfl, lnT_at r (restB_no10 _ _), N_rest1, lnW_text, if_pos (by simp)]
 simp
def outsG (b : List UInt8) (m : Int) : Nat → Nat → List Int → Except Int (List Int × Nat)
 | 0, k, acc => .ok (acc, k)
 | n + 1, k, acc => match lnT (b.drop k) 1 with
   | none => .error (k : Int)
   | some (ws, j) => if (plainW (ws.getD 0 []) && decide (numW (ws.getD 0 []) ≤ 2 * m + 1)) = true then outsG b m n (k + j) (acc ++ [numW (ws.getD 0 [])]) else .error (k : Int)
def andsG (b : List UInt8) (i : Int) : Nat → Nat → Nat → List (Int × Int) → Except Int (List (Int × Int) × Nat)
 | _, 0, p, acc => .ok (acc, p)
 | k, n + 1, p, acc => match delG (b.drop p) 1 (2 * (i + k + 1)) with
   | none => .error (p : Int)
   | some (x, j) => match delG (b.drop (p + j)) 0 (2 * (i + k + 1) - x) with
     | none => .error ((p + j : Nat) : Int)
     | some (y, j') => andsG b i (k + 1) n (p + j + j') (acc ++ [(2 * (i + k + 1) - x, 2 * (i + k + 1) - x - y)])
def endG : List UInt8 → Bool
 | [] => true
 | [_] => false
 | c :: e :: _ => c == 99 && e == 10
def headG (b : List UInt8) : Except Int (List Int × Nat) := match lnT b 6 with
 | none => .error 101
 | some (ws, k) => if (ws.getD 0 [] == [97, 105, 103] && (ws.drop 1).all plainW) = true then (match limT (numW (ws.getD 1 [])) (numW (ws.getD 2 [])) (numW (ws.getD 3 [])) (numW (ws.getD 4 [])) (numW (ws.getD 5 [])) with
     | some (_, c) => .error c
     | none => .ok ((ws.drop 1).map numW, k)) else .error 101
def readG (b : List UInt8) : Except (Int × Int) Ci := match headG b with
 | .error c => .error (c, 0)
 | .ok (N, k) => match outsG b (N.getD 0 0) (N.getD 3 0).toNat k [] with
   | .error p => .error (101, p)
   | .ok (O, k1) => match andsG b (N.getD 1 0) 0 (N.getD 4 0).toNat k1 [] with
     | .error p => .error (101, p)
     | .ok (A, k2) => if endG (b.drop k2) = true then .ok (N.getD 1 0, A, O) else .error (101, (k2 : Int))
def andsB (i : Nat) : Nat → List (Int × Int) → List UInt8
 | _, [] => []
 | k, p :: l => smB (2 * ((i : Int) + k + 1) - p.1).toNat ++ (smB (p.1 - p.2).toNat ++ andsB i (k + 1) l)
def aigTx (i : Nat) (A : List (Int × Int)) (O : List Int) : List UInt8 := [97, 105, 103, 32] ++ lineB (headL i A O) ++ outsTx O ++ andsB i 0 A
theorem headG_any (x : Int) (l : List Int) (r : List UInt8) (hl : l.length = 4) (hx : ∀ y ∈ x :: l, 0 ≤ y ∧ y < 1000000000) : headG ([97, 105, 103, 32] ++ lineB (x :: l) ++ r) = match limT x (l.getD 0 0) (l.getD 1 0) (l.getD 2 0) (l.getD 3 0) with
   | some (_, c) => .error c
   | none => .ok (x :: l, 4 + (lineB (x :: l)).length) := by
 have e : lnT ([97, 105, 103, 32] ++ lineB (x :: l) ++ r) 6 = some ([97, 105, 103] :: (x :: l).map decT, 4 + (lineB (x :: l)).length) := by
   rw [lineB_rest, show ([97, 105, 103, 32] ++ (restB true (x :: l) ++ [10]) ++ r : List UInt8) = ([97, 105, 103] ++ 32 :: restB true (x :: l)) ++ 10 :: r by simp]
   rw [lnT_at r (fun c hc => by
     rcases List.mem_append.1 hc with hc | hc
     · simp at hc; rcases hc with rfl | rfl | rfl <;> decide
     · rcases List.mem_cons.1 hc with rfl | hc
       · decide
       · exact restB_no10 _ _ c hc), N_word (by simp) (by decide) (Stops.sp _), N_sp, N_rest1, List.map_cons, lnW_text, if_pos (by simp [hl])]
   simp
   omega
 have hd : ∀ y ∈ x :: l, plainW (decT y) = true ∧ numW (decT y) = y := by
   intro y hy
   obtain ⟨h0, h1⟩ := hx y hy
   obtain ⟨a1, a2, a3⟩ := decT_num (x := y) (by omega) h1
   exact ⟨by unfold plainW; rw [a1, a3 h0]; rfl, a2⟩
 unfold headG
 rw [e]
 match l, hl with
 | [a, b, c, d'], _ =>
   have q0 := hd x (by simp)
   have q1 := hd a (by simp)
   have q2 := hd b (by simp)
   have q3 := hd c (by simp)
   have q4 := hd d' (by simp)
   simp only [List.map_cons, List.map_nil, List.getD_cons_zero, List.getD_cons_succ, List.drop_succ_cons, List.drop_zero, List.all_cons, List.all_nil, q0.1, q1.1, q2.1, q3.1, q4.1, q0.2, q1.2, q2.2, q3.2, q4.2, beq_self_eq_true, Bool.and_self, if_true]
theorem drop_at (a r : List UInt8) : (a ++ r).drop a.length = r := List.drop_left
theorem outsG_text {m : Int} : ∀ (O : List Int) (b pre r : List UInt8) (acc : List Int), b = pre ++ outsTx O ++ r → (∀ x ∈ O, 0 ≤ x ∧ x ≤ 2 * m + 1 ∧ x < 1000000000) → outsG b m O.length pre.length acc = .ok (acc ++ O, (pre ++ outsTx O).length)
 | [], b, pre, r, acc, _, _ => by simp [outsG, outsTx]
 | x :: O, b, pre, r, acc, hb, h => by
   obtain ⟨h1, h2, h3⟩ := h x List.mem_cons_self
   have hx : outsTx (x :: O) = lineB [x] ++ outsTx O := by simp [outsTx]
   have hd : b.drop pre.length = lineB [x] ++ (outsTx O ++ r) := by rw [hb, hx, List.append_assoc, drop_at, List.append_assoc]
   obtain ⟨a1, a2, a3⟩ := decT_num (x := x) (by omega) h3
   have ih := outsG_text O b (pre ++ lineB [x]) r (acc ++ [x]) (by rw [hb, hx]; simp) fun y hy => h y (List.mem_cons_of_mem _ hy)
   rw [List.length_cons, outsG, hd, show (1 : Nat) = ([] : List Int).length + 1 from rfl, lnT_line x []]
   simp only [List.map_cons, List.map_nil, List.getD_cons_zero]
   rw [show plainW (decT x) = true by unfold plainW; rw [a1, a3 h1]; rfl, a2, decide_eq_true h2, Bool.and_self, if_pos rfl]
   rw [List.length_append] at ih
   rw [ih, hx]
   simp
theorem andsG_text {i : Nat} : ∀ (A : List (Int × Int)) (k : Nat) (b pre r : List UInt8) (acc : List (Int × Int)), b = pre ++ andsB i k A ++ r → 2 * (i + k + A.length) < 1000000000 → AndsOk i k A → andsG b i k A.length pre.length acc = .ok (acc ++ A, (pre ++ andsB i k A).length)
 | [], k, b, pre, r, acc, _, _, _ => by simp [andsG, andsB]
 | p :: A, k, b, pre, r, acc, hb, hn, h => by
   obtain ⟨⟨h1, h2, h3⟩, h4⟩ := h
   simp only [List.length_cons] at hn
   have hd : b.drop pre.length = smB (2 * ((i : Int) + k + 1) - p.1).toNat ++ (smB (p.1 - p.2).toNat ++ andsB i (k + 1) A ++ r) := by
     rw [hb, List.append_assoc, drop_at, andsB]; simp
   have hd2 : b.drop (pre.length + (smB (2 * ((i : Int) + k + 1) - p.1).toNat).length) = smB (p.1 - p.2).toNat ++ (andsB i (k + 1) A ++ r) := by
     rw [← List.drop_drop, hd, drop_at]; simp
   have ih := andsG_text (i := i) A (k + 1) b (pre ++ (smB (2 * ((i : Int) + k + 1) - p.1).toNat ++ smB (p.1 - p.2).toNat)) r (acc ++ [p]) (by rw [hb, andsB]; simp) (by omega) (by rw [show ((k + 1 : Nat) : Int) = (k : Int) + 1 by omega]; exact h4)
   rw [List.length_cons, andsG, hd, delG_small (by omega) (by omega) (by omega)]
   simp only
   rw [hd2, delG_small (by omega) (by omega) (by omega)]
   simp only
   have e1 : 2 * ((i : Int) + k + 1) - (((2 * ((i : Int) + k + 1) - p.1).toNat : Nat) : Int) = p.1 := by omega
   have e2 : p.1 - (((p.1 - p.2).toNat : Nat) : Int) = p.2 := by omega
   rw [e1, e2]
   simp only [List.length_append] at ih
   rw [Nat.add_assoc, ih, andsB]
   simp [Nat.add_assoc]
theorem readG_text {i : Nat} {A : List (Int × Int)} {O : List Int} (h : CiR i A O) (r : List UInt8) : readG (aigTx i A O ++ r) = if endG r = true then .ok ((i : Int), A, O) else .error (101, ((aigTx i A O).length : Int)) := by
 obtain ⟨hn, hO, hA, hx⟩ := h
 have hh := headG_any ((i : Int) + A.length) [(i : Int), 0, (O.length : Int), (A.length : Int)] (outsTx O ++ (andsB i 0 A ++ r)) rfl (fun y hy => by simp at hy; rcases hy with rfl | rfl | rfl | rfl | rfl <;> omega)
 have hl : limT ((i : Int) + A.length) i 0 O.length A.length = none := by
   unfold limT
   rw [if_neg (by omega), if_neg (by omega), if_neg (by omega), if_neg (by simp), if_neg (by simp)]
 simp only [List.getD_cons_zero, List.getD_cons_succ] at hh
 rw [hl] at hh
 simp only at hh
 have ht : aigTx i A O ++ r = [97, 105, 103, 32] ++ lineB (headL i A O) ++ (outsTx O ++ (andsB i 0 A ++ r)) := by simp [aigTx]
 unfold readG
 rw [ht]
 unfold headL
 rw [hh]
 simp only [List.getD_cons_zero, List.getD_cons_succ, Int.toNat_natCast]
 generalize hL : lineB [(i : Int) + A.length, (i : Int), 0, (O.length : Int), (A.length : Int)] = L
 have o1 := outsG_text (m := (i : Int) + A.length) O ([97, 105, 103, 32] ++ L ++ (outsTx O ++ (andsB i 0 A ++ r))) ([97, 105, 103, 32] ++ L) (andsB i 0 A ++ r) [] (by simp) (fun x hxm => by have := hx x hxm; omega)
 rw [show ([97, 105, 103, 32] ++ L : List UInt8).length = 4 + L.length by simp; omega] at o1
 rw [o1]
 simp only
 have a1 := andsG_text (i := i) A 0 ([97, 105, 103, 32] ++ L ++ (outsTx O ++ (andsB i 0 A ++ r))) ([97, 105, 103, 32] ++ L ++ outsTx O) r [] (by simp) (by omega) hA
 rw [a1]
 simp only [List.nil_append]
 have hd : ([97, 105, 103, 32] ++ L ++ (outsTx O ++ (andsB i 0 A ++ r))).drop ([97, 105, 103, 32] ++ L ++ outsTx O ++ andsB i 0 A).length = r := by
   rw [show ([97, 105, 103, 32] ++ L ++ (outsTx O ++ (andsB i 0 A ++ r)) : List UInt8) = ([97, 105, 103, 32] ++ L ++ outsTx O ++ andsB i 0 A) ++ r by simp, drop_at]
 rw [hd]
 have hlen : ([97, 105, 103, 32] ++ L ++ outsTx O ++ andsB i 0 A).length = (aigTx i A O).length := by simp [aigTx, headL, hL]
 rw [hlen]
theorem readG_back {i : Nat} {A : List (Int × Int)} {O : List Int} (h : CiR i A O) : readG (aigTx i A O) = .ok ((i : Int), A, O) := by
 have := readG_text h []
 rw [List.append_nil] at this
 rw [this]
 rfl
end Go.Proofs.YtjagkijfngokaaaGreatDoor
namespace Go.Proofs.YtjagkijfngokaaaGreatDoor
open Go.RowKit
def AppOk (fuel d : Nat) (x : Int) : Prop := ∀ (h0 h : AH) (s : Sl) (t : List UInt8), t.length < 900000000 → Sep0 h0 h [.grown 1 s (bytesC t)] →
 ∃ s' h', run fuel d F_strconv_AppendInt [.slice s, .int .i64 x, .int .i64 10] h = some (.slice s', h') ∧ Sep0 h0 h' [.grown 1 s' (bytesC (t ++ decT x))] ∧ (decT x).length ≤ 20
end Go.Proofs.YtjagkijfngokaaaGreatDoor
namespace Go.Proofs.YtjagkijfngokaaaGreatDoor
open Go.RowKit
def isI (l n : Int) : Bool := bif (bif (!decide (l = (0 : Int))) then (decide ((IntKind.wrap .i64 (0 - n)) ≤ l)) else false) then (decide (l ≤ n)) else false
theorem Is_run (fuel d : Nat) (l n : Int) (h : AH) : run fuel (d + 1) F_lits_Is [.int .i64 l, .int .i64 n] h = some (.bool (isI l n), h) :=
 pure_of rfl rfl (cc2 rfl rfl) (by rw [e_lits_Is]) rfl
end Go.Proofs.YtjagkijfngokaaaGreatDoor
namespace Go.Proofs.YtjagkijfngokaaaGreatDoor
open Go.RowKit
abbrev Stp := Bool × List Int
def stepC (s : Stp) : List AV := [.bool s.1, .slice (lstI s.2)]
theorem stepC_len (s : Stp) : (stepC s).length = 2 := rfl
abbrev stepsC (l : List Stp) : List AV := l.flatMap stepC
abbrev lstS (l : List Stp) : Sl := lstN stepC l
theorem stepsC_len (l : List Stp) : (stepsC l).length = l.length * 2 := flatMap_len stepC_len l
theorem closed_stepC (s : Stp) : closedL (stepC s) = true := by
 show (true && ((AV.slice (lstI s.2)).closed && true)) = true
 rw [closed_lstI]; rfl
theorem freeze_stepsC {h : AH} (n : Nat) (l : List Stp) : (stepsC l).mapM (freezeV h (n + 2)) = some (stepsC l) := mapM_freezeN (fun w => mm2 rfl (freeze_lstI _ _)) l
theorem freeze_lstS {h : AH} (n : Nat) (l : List Stp) : freezeV h (n + 1) (.slice (lstS l)) = some (.slice (lstS l)) := freeze_lst _ _ _ (closedL_flatMap closed_stepC l)
theorem canon_lstS (n : Nat) (l : List Stp) : canonV (n + 1) (.slice (lstS l)) = some (.slice (lstS l)) := canon_lst (closedL_flatMap closed_stepC l)
inductive RdS where
 | ok (l : List Stp) : RdS
 | bad (p : Nat) : RdS
def noLit (t : List UInt8) : Bool := !okNum t || (!decide (numW t = 0) && !isI (numW t) 4000)
def readT (e : Nat) : List Wd → List Stp → Stp → Bool → RdS
 | [], out, _, begun => if begun = true then .bad e else .ok out
 | w :: ws, out, now, begun =>
   if (!begun && w.text == [100]) = true then readT e ws out (true, now.2) true
   else if noLit w.text = true then .bad w.pos
   else if numW w.text = 0 then readT e ws (out ++ [now]) (false, []) false
   else readT e ws out (now.1, now.2 ++ [numW w.text]) true
end Go.Proofs.YtjagkijfngokaaaGreatDoor
namespace Go.Proofs.YtjagkijfngokaaaGreatDoor
open Go.RowKit
theorem copyW {h0 h : AH} {L : List Chunk} (hs : Sep0 h0 h L) (w : Wd) : ∃ h3, AH.storeAt (AH.push h 1 [(.str (⟨#[]⟩ : ByteArray)), (.int .i64 (0 : Int)), (.bool false)]) (wdC w) (Pt.mk ⟨AH.next h, 0, 0⟩ 3) = some h3 ∧ Sep0 h0 h3 L ∧
   h3.cell (.mk ⟨AH.next h, 0, 0 + 0⟩ 3) = some (.str (tx w.text)) ∧ h3.cell (.mk ⟨AH.next h, 0, 0 + 1⟩ 3) = some (.int .i64 (w.pos : Int)) ∧ h3.cell (.mk ⟨AH.next h, 0, 0 + 2⟩ 3) = some (.bool w.first) := by
 have s1 := hs.push 1 3 (cs := [(.str (⟨#[]⟩ : ByteArray)), (.int .i64 (0 : Int)), (.bool false)]) rfl
 have hi : (L ++ [Chunk.own 1 h.next 0 3 [(.str (⟨#[]⟩ : ByteArray)), (.int .i64 (0 : Int)), (.bool false)]])[L.length]? = some (Chunk.own 1 h.next 0 3 [(.str (⟨#[]⟩ : ByteArray)), (.int .i64 (0 : Int)), (.bool false)]) := by simp
 obtain ⟨h3, e1, s2⟩ := s1.put (o := 0) (l := 3) (vs := wdC w) hi (by simp [wdC]) (by simp [wdC])
 have hset : (L ++ [Chunk.own 1 h.next 0 3 [(.str (⟨#[]⟩ : ByteArray)), (.int .i64 (0 : Int)), (.bool false)]]).set L.length (Chunk.own 1 h.next 0 3 (wdC w)) = L ++ [Chunk.own 1 h.next 0 3 (wdC w)] := by simp
 have s3 : Sep0 h0 h3 (L ++ [Chunk.own 1 h.next 0 3 (wdC w)]) := by rw [← hset]; exact s2
 have hj : (L ++ [Chunk.own 1 h.next 0 3 (wdC w)])[L.length]? = some (Chunk.own 1 h.next 0 3 (wdC w)) := by simp
 exact ⟨h3, e1, s3.init, s3.part hj (by omega) rfl, s3.part hj (by omega) rfl, s3.part hj (by omega) rfl⟩
end Go.Proofs.YtjagkijfngokaaaGreatDoor
