/-
  Where the words of a text stand.
-/
import Derived.Test.YthccobceodgmlaaW1
namespace Go.Proofs.Ythccobceodgmlaa
open Go.RowKit

/-- A part of a text. -/
def part (b : List UInt8) (k e : Nat) : List UInt8 := (b.drop k).take (e - k)

theorem part_app {b : List UInt8} {k e g : Nat} (h1 : k ≤ e) (h2 : e ≤ g) : part b k g = part b k e ++ part b e g := by
  unfold part
  rw [show g - k = (e - k) + (g - e) by omega, List.take_add, List.drop_drop, show k + (e - k) = e by omega]
theorem part_self (b : List UInt8) (k : Nat) : part b k k = [] := by simp [part]
theorem part_len {b : List UInt8} {k e : Nat} (h1 : k ≤ e) (h2 : e ≤ b.length) : (part b k e).length = e - k := by
  simp [part]; omega
theorem part_cons {b : List UInt8} {k e : Nat} (h1 : k < e) (h2 : e ≤ b.length) : part b k e = b.getD k 0 :: part b (k + 1) e := by
  unfold part
  rw [drop_cons (by omega), show e - k = (e - (k + 1)) + 1 by omega, List.take_succ_cons]
theorem part_all (b : List UInt8) : part b 0 b.length = b := by simp [part]

/-- Words that stand in a part of a text, in order, and blanks between them; whether a word is the first of its line. -/
def Seg (b : List UInt8) : Nat → Bool → List Wd → Nat → Bool → Prop
  | k, f, [], e, f' => k ≤ e ∧ e ≤ b.length ∧ (∀ x ∈ part b k e, isW x = false) ∧ f' = (f || (part b k e).any (· == 10))
  | k, f, w :: l, e, f' => w.text ≠ [] ∧ k ≤ w.pos ∧ w.pos + w.text.length ≤ b.length ∧ part b w.pos (w.pos + w.text.length) = w.text ∧ (∀ x ∈ w.text, isW x = true) ∧ (∀ x ∈ part b k w.pos, isW x = false) ∧
      w.first = (f || (part b k w.pos).any (· == 10)) ∧ Seg b (w.pos + w.text.length) false l e f'

theorem Seg.le {b : List UInt8} : ∀ {l : List Wd} {k e : Nat} {f f' : Bool}, Seg b k f l e f' → k ≤ e ∧ e ≤ b.length
  | [], k, e, f, f', h => ⟨h.1, h.2.1⟩
  | w :: l, k, e, f, f', h => by
    obtain ⟨_, h1, h2, _, _, _, _, h3⟩ := h
    have := h3.le
    omega

theorem Seg.app {b : List UInt8} : ∀ {l m : List Wd} {k e g : Nat} {f f' f'' : Bool}, Seg b k f l e f' → Seg b e f' m g f'' → Seg b k f (l ++ m) g f''
  | w :: l, m, k, e, g, f, f', f'', ⟨h1, h2, h3, h4, h5, h6, h7, h8⟩, hm => ⟨h1, h2, h3, h4, h5, h6, h7, h8.app hm⟩
  | [], [], k, e, g, f, f', f'', ⟨h1, h2, h3, h4⟩, ⟨g1, g2, g3, g4⟩ => by
    refine ⟨by omega, g2, ?_, ?_⟩
    · rw [part_app h1 g1]
      intro x hx
      rcases List.mem_append.1 hx with hx | hx
      · exact h3 x hx
      · exact g3 x hx
    · rw [part_app h1 g1, List.any_append, g4, h4, Bool.or_assoc]
  | [], w :: m, k, e, g, f, f', f'', ⟨h1, h2, h3, h4⟩, ⟨g1, g2, g3, g4, g5, g6, g7, g8⟩ => by
    refine ⟨g1, by omega, g3, g4, g5, ?_, ?_, g8⟩
    · rw [part_app h1 g2]
      intro x hx
      rcases List.mem_append.1 hx with hx | hx
      · exact h3 x hx
      · exact g6 x hx
    · rw [part_app h1 g2, List.any_append, g7, h4, Bool.or_assoc]

theorem mem_takeWhile {α : Type} {p : α → Bool} : ∀ {l : List α} {x : α}, x ∈ l.takeWhile p → p x = true
  | a :: l, x, h => by
    rw [List.takeWhile_cons] at h
    split at h
    · rcases List.mem_cons.1 h with rfl | h
      · assumption
      · exact mem_takeWhile h
    · cases h

theorem wEnd_word {b : List UInt8} {k : Nat} : part b k (wEnd b k) = (b.drop k).takeWhile isW := by
  unfold part wEnd
  rw [show k + ((b.drop k).takeWhile isW).length - k = ((b.drop k).takeWhile isW).length by omega]
  exact (List.prefix_iff_eq_take.1 (List.takeWhile_prefix isW)).symm

theorem takeWhile_stop {α : Type} {p : α → Bool} (a : α) : ∀ {l : List α}, (l.takeWhile p).length < l.length → p (l.getD (l.takeWhile p).length a) = false
  | [], h => by simp at h
  | x :: l, h => by
    rw [List.takeWhile_cons] at h ⊢
    split
    · rename_i hx
      rw [if_pos hx] at h
      simp only [List.length_cons, List.getD_cons_succ]
      exact takeWhile_stop a (by simpa using h)
    · rename_i hx
      simpa using hx

theorem wEnd_stop {b : List UInt8} {k : Nat} (h : wEnd b k < b.length) : isW (b.getD (wEnd b k) 0) = false := by
  have := takeWhile_stop (p := isW) (0 : UInt8) (l := b.drop k) (by rw [List.length_drop]; unfold wEnd at h; omega)
  rw [List.getD_eq_getElem?_getD, List.getElem?_drop] at this
  rw [List.getD_eq_getElem?_getD]
  exact this

theorem part_line {b : List UInt8} {at_ nl k e : Nat} (h1 : k ≤ e) (h2 : e ≤ nl) : part ((b.drop at_).take nl) k e = part b (at_ + k) (at_ + e) := by
  unfold part
  rw [List.drop_take, List.take_take, List.drop_drop, show at_ + e - (at_ + k) = e - k by omega, Nat.min_eq_left (by omega)]
theorem getD_line {b : List UInt8} {at_ nl k : Nat} (h : k < nl) : ((b.drop at_).take nl).getD k 0 = b.getD (at_ + k) 0 := by
  rw [List.getD_eq_getElem?_getD, List.getElem?_take, if_pos h, List.getElem?_drop, List.getD_eq_getElem?_getD]

theorem isW10 : isW 10 = false := by decide

/-- A byte more, which is no word's. -/
theorem Seg.step {b : List UInt8} {l : List Wd} {k e : Nat} {f f' : Bool} (hk : k < b.length) (hw : isW (b.getD k 0) = false) (h : Seg b (k + 1) (f || b.getD k 0 == 10) l e f') : Seg b k f l e f' := by
  have h1 : Seg b k f [] (k + 1) (f || b.getD k 0 == 10) := by
    refine ⟨by omega, by omega, ?_, ?_⟩
    · rw [part_cons (by omega) (by omega), part_self]
      intro x hx
      rw [List.mem_singleton] at hx
      rw [hx]; exact hw
    · rw [part_cons (by omega) (by omega), part_self]
      simp
  exact h1.app h

theorem Seg.nil (b : List UInt8) {k : Nat} (f : Bool) (hk : k ≤ b.length) : Seg b k f [] k f := by
  refine ⟨Nat.le_refl _, hk, ?_, ?_⟩
  · rw [part_self]; intro x hx; cases hx
  · rw [part_self]; simp

theorem line_seg {b : List UInt8} {at_ nl : Nat} (hl : at_ + nl ≤ b.length) (hno : ∀ x ∈ part b at_ (at_ + nl), x ≠ 10) : ∀ (n k : Nat) (f : Bool), k ≤ nl → nl < n + k →
    ∃ f', Seg b (at_ + k) f (lineGo ((b.drop at_).take nl) at_ n k f) (at_ + nl) f' := by
  have hlen : ((b.drop at_).take nl).length = nl := by simp; omega
  intro n
  induction n with
  | zero => intro k f h1 h2; omega
  | succ n ih =>
    intro k f h1 h2
    simp only [lineGo, hlen]
    by_cases hk : k < nl
    · have hg : ((b.drop at_).take nl).getD k 0 = b.getD (at_ + k) 0 := getD_line hk
      have hne : ∀ j, j < nl → ¬ b.getD (at_ + j) 0 = 10 := by
        intro j hj
        refine hno _ ?_
        rw [part_app (e := at_ + j) (by omega) (by omega), part_cons (k := at_ + j) (by omega) (by omega)]
        exact List.mem_append_right _ (List.mem_cons_self ..)
      rw [if_pos hk]
      by_cases hw : isW (((b.drop at_).take nl).getD k 0) = true
      · rw [if_pos hw]
        obtain ⟨w1, w2⟩ := wEnd_le (b := (b.drop at_).take nl) (k := k) (by omega)
        have w3 : k + 1 ≤ wEnd ((b.drop at_).take nl) k := by rw [wEnd_in (by omega) hw]; exact (wEnd_le (by omega)).1
        have hword := wEnd_word (b := (b.drop at_).take nl) (k := k)
        have hstop := wEnd_stop (b := (b.drop at_).take nl) (k := k)
        generalize wEnd ((b.drop at_).take nl) k = e at w1 w2 w3 hword hstop
        rw [hlen] at w2 hstop
        have htext : (((b.drop at_).take nl).drop k).take (e - k) = part b (at_ + k) (at_ + e) := part_line (by omega) (by omega)
        have hpl : (part b (at_ + k) (at_ + e)).length = e - k := by rw [part_len (by omega) (by omega)]; omega
        have hend : at_ + k + (part b (at_ + k) (at_ + e)).length = at_ + e := by rw [hpl]; omega
        have hrest : ∃ f', Seg b (at_ + e) false (lineGo ((b.drop at_).take nl) at_ n (e + 1) false) (at_ + nl) f' := by
          by_cases he : e < nl
          · obtain ⟨f', hs⟩ := ih (e + 1) false (by omega) (by omega)
            refine ⟨f', Seg.step (by omega) ?_ ?_⟩
            · rw [← getD_line he]; exact hstop he
            · rw [beq_false_of_ne (hne e he)]
              exact hs
          · have : e = nl := by omega
            subst this
            refine ⟨false, ?_⟩
            have hz : lineGo ((b.drop at_).take e) at_ n (e + 1) false = [] := by
              cases n with
              | zero => rfl
              | succ n => simp only [lineGo]; rw [if_neg (by omega)]
            rw [hz]
            exact Seg.nil b false (by omega)
        obtain ⟨f', hs⟩ := hrest
        refine ⟨f', ?_⟩
        rw [htext]
        refine ⟨?_, Nat.le_refl _, ?_, ?_, ?_, ?_, ?_, ?_⟩
        · intro h0
          have := congrArg List.length h0
          simp only [hpl, List.length_nil] at this
          omega
        · simp only [hend]; omega
        · simp only [hend]
        · intro x hx
          simp only at hx
          rw [← part_line (nl := nl) (by omega) (by omega), hword] at hx
          exact mem_takeWhile hx
        · rw [part_self]; intro x hx; cases hx
        · rw [part_self]; simp
        · simp only [hend]
          exact hs
      · rw [if_neg hw]
        obtain ⟨f', hs⟩ := ih (k + 1) f (by omega) (by omega)
        refine ⟨f', Seg.step (by omega) (by rw [← hg]; simpa using hw) ?_⟩
        rw [beq_false_of_ne (hne k hk), Bool.or_false]
        exact hs
    · rw [if_neg hk]
      have : k = nl := by omega
      subst this
      exact ⟨f, Seg.nil b f (by omega)⟩

theorem idx_line : ∀ {l : List UInt8} {c : UInt8}, Lib.indexByte l c < 0 ∧ (∀ x ∈ l, x ≠ c) ∨ ∃ n : Nat, Lib.indexByte l c = (n : Int) ∧ n < l.length ∧ l.getD n 0 = c ∧ ∀ x ∈ l.take n, x ≠ c
  | [], c => .inl ⟨by simp [Lib.indexByte], fun x hx => by cases hx⟩
  | y :: l, c => by
    unfold Lib.indexByte
    by_cases hy : (y == c) = true
    · rw [if_pos hy]
      exact .inr ⟨0, rfl, by simp, by simpa using hy, fun x hx => by cases hx⟩
    · rw [if_neg hy]
      have hyc : y ≠ c := by simpa using hy
      rcases idx_line (l := l) (c := c) with ⟨h1, h2⟩ | ⟨n, h1, h2, h3, h4⟩
      · have := Lib.indexByte_ge l c
        rw [if_pos (by rw [beq_iff_eq]; omega)]
        refine .inl ⟨by omega, fun x hx => ?_⟩
        rcases List.mem_cons.1 hx with rfl | hx
        · exact hyc
        · exact h2 x hx
      · rw [if_neg (by rw [beq_iff_eq]; omega)]
        refine .inr ⟨n + 1, by rw [h1]; rfl, by simp; omega, by simpa using h3, fun x hx => ?_⟩
        rw [List.take_succ_cons] at hx
        rcases List.mem_cons.1 hx with rfl | hx
        · exact hyc
        · exact h4 x hx

theorem split_seg {b : List UInt8} : ∀ (n k : Nat), b.length < n + k → k ≤ b.length → ∃ f', Seg b k true (splitGo b false n k) b.length f'
  | 0, k, h1, h2 => by omega
  | n + 1, k, h1, h2 => by
    simp only [splitGo]
    by_cases hk : k < b.length
    · rw [if_pos hk, if_pos (show keepLine false _ = true from rfl)]
      have hnl := nlOf_le (b := b) (at_ := k) (by omega)
      have hline : (∀ x ∈ part b k (k + nlOf b k), x ≠ 10) ∧ (k + nlOf b k < b.length → b.getD (k + nlOf b k) 0 = 10) := by
        rcases idx_line (l := b.drop k) (c := 10) with ⟨h3, h4⟩ | ⟨m, h3, h4, h5, h6⟩
        · have hn : nlOf b k = b.length - k := by unfold nlOf; rw [if_pos h3]
          refine ⟨fun x hx => h4 x (List.mem_of_mem_take hx), by omega⟩
        · have hn : nlOf b k = m := by unfold nlOf; rw [if_neg (by omega)]; omega
          rw [hn]
          refine ⟨fun x hx => h6 x ?_, fun _ => ?_⟩
          · unfold part at hx
            rwa [show k + m - k = m by omega] at hx
          · rw [List.getD_eq_getElem?_getD, List.getElem?_drop] at h5
            rw [List.getD_eq_getElem?_getD]
            exact h5
      obtain ⟨f', hs⟩ := line_seg hnl hline.1 (nlOf b k + 1) 0 true (by omega) (by omega)
      have hll : ((b.drop k).take (nlOf b k)).length = nlOf b k := by simp; omega
      have hs' : Seg b k true (lineOf ((b.drop k).take (nlOf b k)) k) (k + nlOf b k) f' := by
        unfold lineOf
        rw [hll]
        exact hs
      by_cases he : k + nlOf b k < b.length
      · obtain ⟨f'', hr⟩ := split_seg (b := b) n (k + nlOf b k + 1) (by omega) (by omega)
        refine ⟨f'', hs'.app (Seg.step he (by rw [hline.2 he]; exact isW10) ?_)⟩
        rw [hline.2 he]
        simpa using hr
      · have hz : splitGo b false n (k + nlOf b k + 1) = [] := by
          cases n with
          | zero => rfl
          | succ n => simp only [splitGo]; rw [if_neg (by omega)]
        have : k + nlOf b k = b.length := by omega
        rw [hz, List.append_nil]
        rw [this] at hs'
        exact ⟨f', hs'⟩
    · rw [if_neg hk]
      have : k = b.length := by omega
      subst this
      exact ⟨true, Seg.nil b true (Nat.le_refl _)⟩

theorem splitOf_seg (b : List UInt8) : ∃ f', Seg b 0 true (splitOf b false) b.length f' := split_seg _ _ (by omega) (by omega)

end Go.Proofs.Ythccobceodgmlaa
