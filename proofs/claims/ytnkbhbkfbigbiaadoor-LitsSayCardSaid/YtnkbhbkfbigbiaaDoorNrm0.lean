/-
  Literals in their order, each once: plain Lean.
-/
import Derived.Test.YtnkbhbkfbigbiaaDoorS0
import Derived.Test.YtnkbhbkfbigbiaaDoorSrt1
namespace Go.Proofs.YtnkbhbkfbigbiaaDoor
open Go.RowKit Go.Sort

/-- which of two literals stands first -/
def ltL (x y : Int) : Bool := decide (varI x < varI y) || (decide (varI x = varI y) && decide (x < y))
theorem ltL_iff {x y : Int} : ltL x y = true ↔ varI x < varI y ∨ (varI x = varI y ∧ x < y) := by simp [ltL]
theorem ltL_irrefl (x : Int) : ltL x x = false := by simp [ltL]
theorem ltL_trans {x y z : Int} (h1 : ltL x y = true) (h2 : ltL y z = true) : ltL x z = true := by rw [ltL_iff] at *; omega
theorem ltL_tot {x y : Int} (h1 : ltL x y = false) (h2 : ltL y x = false) : x = y := by
  rw [← Bool.not_eq_true, ltL_iff] at h1 h2; omega
theorem ltL_asym {x y : Int} (h1 : ltL x y = true) : ltL y x = false := by
  cases h : ltL y x with
  | false => rfl
  | true => have := ltL_trans h1 h; rw [ltL_irrefl] at this; cases this
theorem swo_ltL : SWO ltL where
  irrefl := ltL_irrefl
  trans := fun x y z h1 h2 => ltL_trans h1 h2
  ntrans := fun x y z h1 h2 => by
    rw [← Bool.not_eq_true, ltL_iff] at *; omega

def insO (x : Int) : List Int → List Int
  | [] => [x]
  | y :: l => if x = y then y :: l else if ltL x y = true then x :: y :: l else y :: insO x l
/-- a clause's literals in their order, each once -/
def normL (l : List Int) : List Int := l.foldr insO []

def SortedL (l : List Int) : Prop := l.Pairwise fun a b => ltL a b = true

theorem mem_insO {x z : Int} : ∀ {l : List Int}, z ∈ insO x l ↔ z = x ∨ z ∈ l
  | [] => by simp [insO]
  | y :: l => by
    unfold insO
    split
    · rename_i h; subst h; simp
    · split
      · simp
      · simp only [List.mem_cons, mem_insO (l := l)]
        constructor
        · rintro (h | h | h) <;> simp [h]
        · rintro (h | h | h) <;> simp [h]
theorem mem_normL {z : Int} : ∀ {l : List Int}, z ∈ normL l ↔ z ∈ l
  | [] => by simp [normL]
  | x :: l => by
    show z ∈ insO x (normL l) ↔ _
    rw [mem_insO, mem_normL (l := l), List.mem_cons]
theorem insO_sorted {x : Int} : ∀ {l : List Int}, SortedL l → SortedL (insO x l)
  | [], _ => by simp [insO, SortedL]
  | y :: l, h => by
    have h' := List.pairwise_cons.1 h
    unfold insO
    split
    · exact h
    · rename_i hxy
      split
      · rename_i hlt
        exact List.pairwise_cons.2 ⟨fun z hz => by
          rcases List.mem_cons.1 hz with rfl | hz
          · exact hlt
          · exact ltL_trans hlt (h'.1 z hz), h⟩
      · rename_i hlt
        refine List.pairwise_cons.2 ⟨fun z hz => ?_, insO_sorted h'.2⟩
        rcases mem_insO.1 hz with rfl | hz
        · cases hc : ltL y z with
          | true => rfl
          | false => exact absurd (ltL_tot (by simpa using hlt) hc) hxy
        · exact h'.1 z hz
theorem normL_sorted : ∀ (l : List Int), SortedL (normL l)
  | [] => by simp [normL, SortedL]
  | x :: l => insO_sorted (normL_sorted l)
theorem sortedL_unique : ∀ {a b : List Int}, SortedL a → SortedL b → (∀ x, x ∈ a ↔ x ∈ b) → a = b
  | [], [], _, _, _ => rfl
  | [], y :: b, _, _, h => by have := (h y).2 (List.mem_cons_self ..); cases this
  | x :: a, [], _, _, h => by have := (h x).1 (List.mem_cons_self ..); cases this
  | x :: a, y :: b, ha, hb, h => by
    have ha' := List.pairwise_cons.1 ha
    have hb' := List.pairwise_cons.1 hb
    have e : x = y := by
      rcases List.mem_cons.1 ((h x).1 (List.mem_cons_self ..)) with e | h1
      · exact e
      · rcases List.mem_cons.1 ((h y).2 (List.mem_cons_self ..)) with e | h2
        · exact e.symm
        · have := ltL_asym (hb'.1 x h1)
          rw [ha'.1 y h2] at this
          cases this
    subst e
    congr 1
    refine sortedL_unique ha'.2 hb'.2 fun z => ?_
    have hz := h z
    simp only [List.mem_cons] at hz
    constructor
    · intro hm
      rcases hz.1 (.inr hm) with e | h1
      · subst e; have := ha'.1 z hm; rw [ltL_irrefl] at this; cases this
      · exact h1
    · intro hm
      rcases hz.2 (.inr hm) with e | h1
      · subst e; have := hb'.1 z hm; rw [ltL_irrefl] at this; cases this
      · exact h1
theorem normL_congr {a b : List Int} (h : ∀ x, x ∈ a ↔ x ∈ b) : normL a = normL b :=
  sortedL_unique (normL_sorted a) (normL_sorted b) fun x => by rw [mem_normL, mem_normL]; exact h x
theorem normL_of_sorted {a : List Int} (h : SortedL a) : normL a = a :=
  sortedL_unique (normL_sorted a) h fun x => mem_normL
theorem normL_idem (l : List Int) : normL (normL l) = normL l := normL_of_sorted (normL_sorted l)
theorem insO_length (x : Int) : ∀ l : List Int, (insO x l).length ≤ l.length + 1
  | [] => by simp [insO]
  | y :: l => by
    unfold insO
    split
    · simp
    · split
      · simp
      · have := insO_length x l; simp; omega
theorem normL_length : ∀ l : List Int, (normL l).length ≤ l.length
  | [] => by simp [normL]
  | x :: l => by
    have h1 := insO_length x (normL l)
    have h2 := normL_length l
    show (insO x (normL l)).length ≤ _
    simp only [List.length_cons]; omega

/-- whether no variable stands there twice, side by side -/
def saysL : List Int → Bool
  | [] => true
  | [_] => true
  | a :: b :: r => !decide (varI b = varI a) && saysL (b :: r)

/-- lits.order -/
def cmpI (a b : Int) : Int := bif decide (a < b) then -1 else bif decide (b < a) then 1 else 0
def ordL (x y : Int) : Int := bif decide (cmpI (varI x) (varI y) = 0) then cmpI x y else cmpI (varI x) (varI y)
theorem cmpI_lt {a b : Int} (h : a < b) : cmpI a b = -1 := by unfold cmpI; rw [bif_pos h]
theorem cmpI_gt {a b : Int} (h : b < a) : cmpI a b = 1 := by unfold cmpI; rw [bif_neg (by omega), bif_pos h]
theorem cmpI_self (a : Int) : cmpI a a = 0 := by unfold cmpI; rw [bif_neg (by omega), bif_neg (by omega)]
theorem ltO_ordL : ltO ordL = ltL := by
  funext x y
  unfold ltO ordL
  rcases Int.lt_trichotomy (varI x) (varI y) with h | h | h
  · rw [cmpI_lt h, bif_neg (by omega)]; simp [ltL, h]
  · rw [h, cmpI_self, bif_pos rfl]
    rcases Int.lt_trichotomy x y with h2 | h2 | h2
    · rw [cmpI_lt h2]; simp [ltL, h, h2]
    · subst h2; rw [cmpI_self]; simp [ltL]
    · rw [cmpI_gt h2]
      have : ¬ x < y := by omega
      simp [ltL, h, this]
  · rw [cmpI_gt h, bif_neg (by omega)]
    have h1 : ¬ varI x < varI y := by omega
    have h2 : ¬ varI x = varI y := by omega
    simp [ltL, h1, h2]
end Go.Proofs.YtnkbhbkfbigbiaaDoor
